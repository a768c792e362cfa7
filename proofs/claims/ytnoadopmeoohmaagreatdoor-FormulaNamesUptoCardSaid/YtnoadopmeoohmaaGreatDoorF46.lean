/-
  slices.Sort of strings by the shelf's contract; maps.Keys, AppendSeq, Collect, Sorted of strings. Printed by genF46.py.
-/
import Derived.Test.YtnoadopmeoohmaaGreatDoorE4
import Derived.Shelf.Sort.Plain
import Derived.Shelf.Slices.In.SortNone
import Derived.Sort.OwnSorted
namespace Go.Proofs.YtnoadopmeoohmaaGreatDoor
open Go
set_option linter.unusedVariables false
set_option linter.unusedSimpArgs false
def srow (s : List UInt8) : List Value := [sv s]
theorem srow_one (l : List (List UInt8)) : ∀ cs ∈ l.map srow, ∀ u ∈ cs, u.oneCell' = true := by
  intro cs hcs u hu
  obtain ⟨p, _, rfl⟩ := List.mem_map.1 hcs
  simp [srow] at hu
  subst hu; rfl
/-- how a round of an iterator ends, and the iterator itself: J behind a round that went on, E j behind one that jumped by j -/
def rpost (lo : Nat) (r : Loop) (J : Hp → Own → Prop) (E : Code → Hp → Own → Prop) (v : Value) (H' : Hp) (I' : Own) : Prop :=
  ∃ r' M', I' = .obj lo (.loop r') :: M' ∧ ((v = .bool true ∧ r' = r ∧ J H' M') ∨ ∃ j, v = .bool false ∧ r' = rdone r j ∧ E j H' M')
section
open Go.Shelf
def lays190_ren : Go.Shelf.Ren := ⟨fun | 190 => 110 | 125 => 147 | 258 => 146 | 128 => 178 | 129 => 179 | 302 => 169 | 303 => 170 | 304 => 171 | 305 => 172 | 306 => 173 | 307 => 174 | 308 => 175 | 309 => 176 | 310 => 177 | 333 => 199 | 329 => 200 | 330 => 201 | 334 => 202 | 335 => 203 | 336 => 204 | 344 => 216 | n => n, fun | 31 => 54 | 9 => 9 | 3 => 3 | 46 => 150 | 0 => 0 | 51 => 189 | 53 => 176 | 4 => 4 | 183 => 183 | 182 => 182 | 131 => 153 | 5 => 5 | 218 => 204 | 222 => 58 | 228 => 219 | 229 => 220 | n => n, fun | n => n⟩
theorem lays190 : Go.Proofs.Lays.n190 Tryz.prog lays190_ren := {
  mixed := by kernel_rfl
  f125 := Tryz.func147.trans (congrArg some (by kernel_rfl))
  f128 := Tryz.func178.trans (congrArg some (by kernel_rfl))
  f129 := Tryz.func179.trans (congrArg some (by kernel_rfl))
  f190 := Tryz.func110.trans (congrArg some (by kernel_rfl))
  f258 := Tryz.func146.trans (congrArg some (by kernel_rfl))
  f302 := Tryz.func169.trans (congrArg some (by kernel_rfl))
  f303 := Tryz.func170.trans (congrArg some (by kernel_rfl))
  f304 := Tryz.func171.trans (congrArg some (by kernel_rfl))
  f305 := Tryz.func172.trans (congrArg some (by kernel_rfl))
  f306 := Tryz.func173.trans (congrArg some (by kernel_rfl))
  f307 := Tryz.func174.trans (congrArg some (by kernel_rfl))
  f308 := Tryz.func175.trans (congrArg some (by kernel_rfl))
  f309 := Tryz.func176.trans (congrArg some (by kernel_rfl))
  f310 := Tryz.func177.trans (congrArg some (by kernel_rfl))
  f329 := Tryz.func200.trans (congrArg some (by kernel_rfl))
  f330 := Tryz.func201.trans (congrArg some (by kernel_rfl))
  f333 := Tryz.func199.trans (congrArg some (by kernel_rfl))
  f334 := Tryz.func202.trans (congrArg some (by kernel_rfl))
  f335 := Tryz.func203.trans (congrArg some (by kernel_rfl))
  f336 := Tryz.func204.trans (congrArg some (by kernel_rfl))
  f344 := Tryz.func216.trans (congrArg some (by kernel_rfl))
  t0 := Tryz.underlying0
  a0 := Tryz.isAgg0
  z0 := Tryz.sizeOf0
  v0 := Tryz.zeroValue0
  t3 := Tryz.underlying3
  a3 := Tryz.isAgg3
  z3 := Tryz.sizeOf3
  v3 := Tryz.zeroValue3
  t4 := Tryz.underlying4
  a4 := Tryz.isAgg4
  z4 := Tryz.sizeOf4
  v4 := Tryz.zeroValue4
  t5 := Tryz.underlying5
  a5 := Tryz.isAgg5
  z5 := Tryz.sizeOf5
  v5 := Tryz.zeroValue5
  t9 := Tryz.underlying9
  a9 := Tryz.isAgg9
  z9 := Tryz.sizeOf9
  v9 := Tryz.zeroValue9
  t31 := Tryz.underlying54
  a31 := Tryz.isAgg54
  z31 := Tryz.sizeOf54
  v31 := Tryz.zeroValue54
  t46 := Tryz.underlying150
  a46 := Tryz.isAgg150
  z46 := Tryz.sizeOf150
  v46 := Tryz.zeroValue150
  t51 := Tryz.underlying189
  a51 := Tryz.isAgg189
  z51 := Tryz.sizeOf189
  v51 := Tryz.zeroValue189
  t53 := Tryz.underlying176
  a53 := Tryz.isAgg176
  z53 := Tryz.sizeOf176
  v53 := Tryz.zeroValue176
  t131 := Tryz.underlying153
  a131 := Tryz.isAgg153
  z131 := Tryz.sizeOf153
  v131 := Tryz.zeroValue153
  t182 := Tryz.underlying182
  a182 := Tryz.isAgg182
  z182 := Tryz.sizeOf182
  v182 := Tryz.zeroValue182
  t183 := Tryz.underlying183
  a183 := Tryz.isAgg183
  z183 := Tryz.sizeOf183
  v183 := Tryz.zeroValue183
  t218 := Tryz.underlying204
  a218 := Tryz.isAgg204
  z218 := Tryz.sizeOf204
  v218 := Tryz.zeroValue204
  t222 := Tryz.underlying58
  a222 := Tryz.isAgg58
  z222 := Tryz.sizeOf58
  v222 := Tryz.zeroValue58
  t228 := Tryz.underlying219
  a228 := Tryz.isAgg219
  z228 := Tryz.sizeOf219
  v228 := Tryz.zeroValue219
  t229 := Tryz.underlying220
  a229 := Tryz.isAgg220
  z229 := Tryz.sizeOf220
  v229 := Tryz.zeroValue220 }
open Go.Sort Go.RowKit in
theorem slices_Sort_string (blk off cap : Nat) (ss : List (List UInt8)) (w : World) (hH : Go.Sort.Holds encStr w blk off ss.toArray) (hblk : blk < w.heap.size) (hsz : ss.length < 4611686018427387904) :
    Calls Tryz.prog 110 #[.slice (some ⟨blk, off, none⟩) ss.length cap] w fun e w' =>
      e = .returned (.tuple #[]) ∧ ∃ n os, w' = Go.Sort.grow (Go.Sort.putRow encStr (Go.Sort.ahead w n) blk off (ss.mergeSort fun x y => decide (x ≤ y)).toArray) os := Any.slices_Sort_string lays190 blk off cap ss w hH hblk hsz
open Go.RowKit Go.Sort in
theorem slices_Sort_string_none (p : Option Addr) (cap : Nat) (w : World) :
    Calls Tryz.prog 110 #[.slice p 0 cap] w fun e w' => e = .returned (.tuple #[]) ∧ w' = w := Any.slices_Sort_string_none lays190 p cap w
end
/-! ### slices.Sort of strings -/
def srtS (l : List (List UInt8)) : List (List UInt8) := l.mergeSort fun x y => decide (x ≤ y)
theorem srtS_perm (l : List (List UInt8)) : (srtS l).Perm l := List.mergeSort_perm l _
theorem flat_srow (l : List (List UInt8)) : (l.map srow).flatten = l.map encStr := by
  induction l with
  | nil => rfl
  | cons x r ih => simp only [List.map_cons, List.flatten_cons, ih]; rfl
theorem movesS_sorted {w : World} {g k : Nat} {os : Array Obj} {d : Array (List UInt8)} : Moves w (Go.Sort.grow (Go.Sort.putRow encStr (Go.Sort.ahead w k) g 0 d) os) [g] :=
  have h := grownBy_sorted (w := w) (g := g) (n := k) (os := os) d
  ⟨rfl, rfl, rfl, h.size, fun j hj hn => h.block j hj fun e => hn (by simp at e; simp [e])⟩
theorem sortStrs_fn {H : Hp} {a : Option Addr} {n cp : Nat} {l : List (List UInt8)} (hm : l.length < 4611686018427387904) : Fn Tryz.prog 110 [.slice a n cp] H [.row (.slice a n cp) 1 (l.map srow)] fun v H' I' => v = .tuple #[] ∧ H' = H ∧ I' = [.row (.slice a n cp) 1 ((srtS l).map srow)] := by
  intro w hw
  have hr : RowOk w (.slice a n cp) 1 (l.map srow) := hw.own _ (List.mem_cons_self)
  rcases hr with ⟨hv, hl⟩ | ⟨b, cap, rest, T, hv, hk, hc, hb, hl⟩
  · cases hv
    obtain rfl : l = [] := by simpa using hl
    refine (slices_Sort_string_none none 0 w).mono ?_
    rintro e w' ⟨rfl, rfl⟩
    have e : srtS [] = [] := by simp [srtS]
    exact ⟨_, H, _, rfl, hw, rfl, rfl, by rw [e]⟩
  · cases hv
    simp only [List.length_map] at hc hw ⊢
    rw [flat_srow] at hb hl
    have hHs : Go.Sort.Holds encStr w b 0 l.toArray := holds_of_block hb (by simp)
    have hlt := hw.lt b (by simp [Own.blocks, Res.blocks])
    refine (slices_Sort_string b 0 cp l w hHs hlt hm).mono ?_
    rintro e w' ⟨rfl, k, os, rfl⟩
    refine ⟨.tuple #[], H, _, rfl, ?_, rfl, rfl, rfl⟩
    have hsl : (srtS l).length = l.length := (srtS_perm l).length_eq
    refine Holds.frameH (I := [.row (.slice (some ⟨b, 0, none⟩) l.length cp) 1 (l.map srow)]) (I' := [.row (.slice (some ⟨b, 0, none⟩) l.length cp) 1 ((srtS l).map srow)]) (R := []) hw (movesS_sorted.mono (by simp [Own.blocks, Res.blocks])) (Own.ok_one ?_) (Own.sep_one _) (fun b' hb' => .inr (by simpa [Own.blocks, Res.blocks] using hb'))
    refine .inr ⟨b, cp, rest, T, by rw [List.length_map, hsl], ?_, by rw [List.length_map, hsl]; exact hc, ?_, ?_⟩
    · intro cs hcs
      obtain ⟨x, _, rfl⟩ := List.mem_map.1 hcs
      rfl
    · rw [flat_srow, heap_sorted _ hb]
      refine congrArg (fun z => some (Obj.cells z T (0, 0))) ?_
      apply Array.ext_getElem?
      intro j
      simp only [Go.Sort.putCells, Array.getElem?_mapIdx, List.getElem?_toArray]
      by_cases hj : j < l.length
      · rw [List.getElem?_append_left (by simpa using hj), List.getElem?_append_left (by simpa [hsl] using hj)]
        have h1 : (srtS l)[j]? = some (srtS l)[j] := List.getElem?_eq_getElem (by omega)
        simp [hj, hsl, h1, srtS]
      · rw [List.getElem?_append_right (by simp; omega), List.getElem?_append_right (by simp [hsl]; omega)]
        simp only [List.length_map, hsl]
        cases rest[j - l.length]? with
        | none => rfl
        | some v =>
          have h2 : ¬ (0 ≤ j ∧ j < 0 + (srtS l).toArray.size) := by simp [hsl]; omega
          simp only [Option.map_some]
          exact congrArg some (if_neg h2)
    · rw [flat_srow]
      rw [List.length_append] at hl ⊢
      simp only [List.length_map] at hl ⊢
      omega
attribute [local irreducible] wpA opsA drJ drQ drE Ef Ev Shift Fn
/-! ### maps.Keys -/
abbrev keysV (b : Nat) : Value := .func (.func 111) #[] #[.pointer (some ⟨b, 0, none⟩)]
set_option maxRecDepth 100000 in
theorem Keys_fn {H : Hp} {mb : Nat} : Fn Tryz.prog 68 [.map (some mb)] H [] fun v H' I' => (∃ b, v = keysV b ∧ H' b 0 = some (.map (some mb))) ∧ I' = [] := by
  refine Fn_of _ _ Tryz.func68 rfl Tryz.ntmps68 rfl fun c => ?_
  repeat' (first | (refine O_freezeBox (by intro u hu; simp at hu; subst hu; rfl) ?_; intro H1 hle1 hc1; refine O_ev WideF.wide rfl (Ev_makeFunc (xs := []) (vs := []) (ys := [.tmp 1]) (us := [.pointer (some ⟨_, 0, none⟩)]) rfl rfl) rfl rfl ?_) | refine O_nil ?_ | refine A_seq ?_ | refine A_region ?_ | refine A_ret ?_ | (show opsA _ _ _ _ _ _ _; first | refine O_ev WideF.wide rfl (Ev_pure rfl) rfl rfl ?_ | (show opsA _ _ _ _ (⟨_, .box _ _, _, _, _, _⟩ :: _) _ _; (refine O_ef rfl (Ef_box1 WideF.wide rfl rfl rfl ?_); intro b))))
  refine End_e (Ret1 rfl rfl) ⟨⟨_, rfl, ?_⟩, rfl⟩
  exact hc1 0 _ rfl
abbrev kySt (H : Hp) (lo mb it : Nat) (es : List MapEntry) (seen : List Nat) (r : Loop) (I : Own) : Sta := ⟨14, [(0, .func (.yield lo) #[] #[]), (5, .pointer (some ⟨it, 0, none⟩))], H, .obj it (iobj mb es.length seen) :: .obj mb (emap es) :: .obj lo (.loop r) :: I, [], []⟩
theorem Own.sub_it (x a b : Res) (R : Own) : Own.sub ((b :: a :: R) ++ []) ((x :: a :: b :: R) ++ []) := by
  refine ⟨2 :: 1 :: (List.range R.length).map (· + 3), ?_, ?_, ?_⟩
  · simp only [List.nodup_cons, List.mem_cons, List.mem_map, not_or]
    refine ⟨⟨by decide, ?_⟩, ?_, ?_⟩
    · rintro ⟨i, _, hi⟩; omega
    · rintro ⟨i, _, hi⟩; omega
    · rw [List.nodup_iff_pairwise_ne, List.pairwise_map]
      exact List.nodup_range.imp fun h e => h (by omega)
  · intro i hi
    simp only [List.mem_cons, List.mem_map, List.mem_range] at hi
    simp only [List.append_nil, List.length_cons]
    rcases hi with rfl | rfl | ⟨k, hk, rfl⟩ <;> omega
  · simp only [List.append_nil, List.map_cons, List.map_map]
    refine List.cons_eq_cons.2 ⟨rfl, List.cons_eq_cons.2 ⟨rfl, ?_⟩⟩
    apply List.ext_getElem?
    intro i
    by_cases hi : i < R.length
    · simp [hi, List.getD]
    · simp [hi, List.getElem?_eq_none (Nat.le_of_not_lt hi)]
set_option maxRecDepth 100000 in
set_option maxHeartbeats 1000000 in
theorem Keys1_fn {H : Hp} {b mb : Nat} {es : List MapEntry} (hN : Num es) (hb : H b 0 = some (.map (some mb))) {lo : Nat} {r : Loop} (hps : r.params.size = 1)
    (J : List Nat → Hp → Own → Prop) (E : Code → Hp → Own → Prop) {I0 : Own} (h0 : J [] H I0)
    (hround : ∀ seen i o H1 I1, HLe H H1 → J seen H1 I1 → es[i]? = some o → i ∉ seen → (seen ++ [i]).length ≤ es.length → RoundFn Tryz.prog lo r [o.key] H1 I1 (rpost lo r (J (seen ++ [i])) E)) :
    Fn Tryz.prog 111 [.func (.yield lo) #[] #[], .pointer (some ⟨b, 0, none⟩)] H (.obj lo (.loop r) :: .obj mb (emap es) :: I0) fun _ H' I' =>
      ∃ r' M', I' = .obj lo (.loop r') :: .obj mb (emap es) :: M' ∧ ((r' = r ∧ ∃ seen, seen.Perm (List.range es.length) ∧ J seen H' M') ∨ ∃ j, r' = rdone r j ∧ E j H' M') := by
  refine Fn_of _ _ Tryz.func111 rfl Tryz.ntmps111 rfl fun c => ?_
  repeat' (first | (refine O_ev WideF.wide rfl (Ev_loadH1 rfl hb) rfl rfl ?_) | (refine O_f1 (O_ef rfl (Ef_range WideF.wide (i := 0) rfl rfl rfl ?_)); intro it) | refine O_nil ?_ | refine A_seq ?_ | refine A_region ?_ | refine A_block ?_)
  refine A_loopu (fun m s => ∃ (H1 : Hp) (I1 : Own) (seen : List Nat), m = es.length - seen.length ∧ seen.Nodup ∧ (∀ i ∈ seen, i < es.length) ∧ HLe H H1 ∧ J seen H1 I1 ∧ s = kySt H1 lo mb it es seen r I1) ?_ ?_
  · exact Shift.to ⟨_, H, I0, [], rfl, List.nodup_nil, (fun i hi => by cases hi), HLe.refl _, h0, rfl⟩ ⟨rfl, rfl, rfl, ⟨rfl, rfl, trivial⟩, Own.sub_refl _⟩
  · rintro m s ⟨H1, I1, seen, rfl, hnd, hlt, hle1, hJ, rfl⟩
    repeat' (first | (refine O_ef rfl (Ef_next WideF.wide hN rfl rfl (fun i o hio hns => ?_) (fun hall => ?_))) | (refine O_ev WideF.wide rfl (Ev_entry (i := i) (o := o) (j := 0) (m := 1) hN hio rfl rfl rfl) rfl rfl ?_) | (refine O_ef rfl (Ef_yieldA (A := [.obj it (iobj mb es.length (seen ++ [i])), .obj mb (emap es)]) WideF.wide (hround seen i o H1 I1 hle1 hJ hio hns (nodup_len (nodup_snoc hnd hns) (snoc_lt hlt hio))) rfl ⟨rfl, trivial⟩ hps rfl ?_); rintro v H2 I2 hle2 ⟨r', M', rfl, ⟨rfl, rfl, hJ2⟩ | ⟨j, rfl, rfl, hE2⟩⟩) | refine O_nil ?_ | refine A_seq ?_ | refine A_region ?_ | refine A_skip ?_ | refine A_ret ?_ | refine A_block ?_ | (show opsA _ _ _ _ _ _ _; first | refine O_ev WideF.wide rfl (Ev_pure rfl) rfl rfl ?_ | (show opsA _ _ _ _ (⟨_, .unOp _ _ _, _, _, _, _⟩ :: _) _ _; refine O_ev WideF.wide rfl (Ev_notb rfl) rfl rfl ?_)) | (show wpA _ _ _ (.exit _) _ _ _ _; refine A_exit rfl ?_) | (show wpA _ _ _ (.cond _ _ _) _ _ _ _; first | refine A_iftrue rfl ?_ | refine A_iffalse rfl ?_))
    · have hl := nodup_len (nodup_snoc hnd hns) (snoc_lt hlt hio)
      rw [List.length_append, List.length_singleton] at hl
      exact Shift.to ⟨_, by rw [List.length_append, List.length_singleton]; omega, H2, M', seen ++ [i], rfl, nodup_snoc hnd hns, snoc_lt hlt hio, hle1.trans hle2, hJ2, rfl⟩ ⟨rfl, rfl, rfl, ⟨rfl, rfl, trivial⟩, Own.sub_refl _⟩
    · exact Shift.lek ⟨14, [], H2, .obj lo (.loop (rdone r j)) :: .obj mb (emap es) :: M', [], []⟩ ⟨rfl, rfl, rfl, trivial, Own.sub_it _ _ _ _⟩ (End_m (Ret0 rfl) ⟨_, _, rfl, .inr ⟨j, rfl, hE2⟩⟩)
    · exact Shift.lek ⟨14, [], H1, .obj lo (.loop r) :: .obj mb (emap es) :: I1, [], []⟩ ⟨rfl, rfl, rfl, trivial, Own.sub_it _ _ _ _⟩ (End_m (Ret0 rfl) ⟨_, _, rfl, .inl ⟨rfl, seen, seen_perm hnd hlt hall, hJ⟩⟩)
/-! ### the keys as a new slice, in order -/
def kat (kvs : List (List UInt8 × Value)) (i : Nat) : List UInt8 := (kvs[i]?.map Prod.fst).getD []
theorem kat_range (kvs : List (List UInt8 × Value)) : (List.range kvs.length).map (kat kvs) = kvs.map Prod.fst := by
  apply List.ext_getElem?
  intro i
  by_cases hi : i < kvs.length
  · simp [hi, kat]
  · simp [hi, List.getElem?_eq_none (Nat.le_of_not_lt hi)]
def apK (kvs : List (List UInt8 × Value)) (b2 : Nat) (seen : List Nat) (_ : Hp) (I1 : Own) : Prop :=
  ∃ a n c p, I1 = [.box b2 [.slice a n c], .row (.slice a n c) 1 p] ∧ p.length = n ∧ p = seen.map fun i => srow (kat kvs i)
set_option maxRecDepth 100000 in
set_option maxHeartbeats 1000000 in
theorem AppendSeqS_fn {H : Hp} {bi mb : Nat} {kvs : List (List UInt8 × Value)} (hb : H bi 0 = some (.map (some mb))) (hn : kvs.length < 1048576) :
    Fn Tryz.prog 145 [.slice none 0 0, keysV bi] H [.obj mb (emap (sents 0 kvs))] fun v _ I' => ∃ a' n' c', ∃ ks : List (List UInt8), v = .slice a' n' c' ∧ ks.Perm (kvs.map Prod.fst) ∧ I' = [.row (.slice a' n' c') 1 (ks.map srow), .obj mb (emap (sents 0 kvs))] := by
  have hsl := sents_length 0 kvs
  refine Fn_ofM _ _ Tryz.func145 rfl Tryz.ntmps145 rfl fun c => ?_
  repeat' (first | refine O_nil ?_ | refine A_seq ?_ | refine A_region ?_ | refine A_block ?_ | (show opsA _ _ _ _ _ _ _; first | refine O_ev WideF.wide rfl (Ev_pure rfl) rfl rfl ?_ | (show opsA _ _ _ _ (⟨_, .box _ _, _, _, _, _⟩ :: _) _ _; (refine O_ef rfl (Ef_box1 WideF.wide rfl rfl rfl ?_); intro b))))
  obtain ⟨b2, hb2⟩ : ∃ b2, b2 = b := ⟨_, rfl⟩
  subst hb2
  refine A_nilrow 1 ?_
  refine A_sub (s' := ⟨13, [(6, keysV bi), (2, .pointer (some ⟨b2, 0, none⟩))], H, [.obj mb (emap (sents 0 kvs)), .box b2 [.slice none 0 0], .row (.slice none 0 0) 1 []], [], []⟩) ⟨rfl, rfl, rfl, ⟨rfl, rfl, trivial⟩, Own.subi [2, 1, 0] (by decide) rfl rfl⟩ ?_
  refine A_rangeFunc WideF.wide rfl (cap := [.pointer (some ⟨bi, 0, none⟩)]) (ps := [7]) rfl ?_
  intro dd lo r hr hps has hbo hsn he
  refine ⟨_, Keys1_fn (Num.sents kvs) hb (by rw [hps]; rfl) (apK kvs b2) (fun _ _ _ => False) ⟨none, 0, 0, [], rfl, rfl, by simp⟩ ?_, ?_⟩
  · rintro seen i o H2 I2 hle2 ⟨la, ln, lc, p, rfl, hpl, hp⟩ hio hns hl
    refine Round_of [] hr he hps has hbo hsn rfl ?_
    clear has hbo
    intro F hF c'
    obtain ⟨-, q, hq, hkey, -⟩ := num_sents kvs 0 i o hio
    have hpn : p.length < 1048576 := by rw [hp, List.length_map]; rw [List.length_append, List.length_singleton] at hl; omega
    have hsn2 : p ++ [srow q.1] = (seen ++ [i]).map fun i => srow (kat kvs i) := by rw [hp, List.map_append, List.map_singleton]; simp [kat, hq]
    rw [hkey]
    unfold srow at hsn2
    repeat' (first | refine O_nil ?_ | refine A_region ?_ | (show opsA _ _ _ _ _ _ _; refine O_ev hF rfl (Ev_pure rfl) rfl rfl ?_))
    refine ⟨rfl, ?_⟩
    repeat' (first | refine O_nil ?_ | refine A_region ?_ | refine A_block ?_ | (show opsA _ _ _ _ _ _ _; first | refine O_ev hF rfl (Ev_pure rfl) rfl rfl ?_ | (show opsA _ _ _ _ (⟨_, .load _ _, _, _, _, _⟩ :: _) _ _; refine O_ev hF rfl (Ev_loadB1 (i := 0) rfl rfl rfl) rfl rfl ?_) | (show opsA _ _ _ _ (⟨_, .call _, _, _, _, _⟩ :: _) _ _; (refine O_f2 (O_ef rfl (Ef_appendR hF rfl rfl rfl rfl rfl (by simp; omega) (by simp; omega) rfl ?_)); intro a cp)) | (show opsA _ _ _ _ (⟨_, .buildSlice _ _ _, _, _, _, _⟩ :: _) _ _; (refine O_ef rfl (Ef_build11 hF rfl rfl rfl ?_); intro b)) | (show opsA _ _ _ _ (⟨_, .store _ _ _, _, _, _, _⟩ :: _) _ _; refine O_f1 (O_ef rfl (Ef_store1 hF rfl rfl rfl rfl rfl ?_)))))
    refine RendN_to (s' := ⟨13, [], H2, [.box b2 [_], .row _ 1 _], [.obj lo (.loop (rbusy r))], []⟩) ⟨rfl, rfl, rfl, trivial, Own.subi [0, 1, 2] (by decide) rfl rfl⟩ rfl ?_
    exact ⟨_, _, rfl, .inl ⟨rfl, rfl, _, _, _, _, rfl, rfl, hsn2⟩⟩
  · rintro v H3 I3 hle3 ⟨r', M', rfl, ⟨rfl, seen, hperm, la, ln, lc, p, rfl, hpl, hp⟩ | ⟨j, rfl, hE⟩⟩
    · refine ⟨_, _, rfl, by rw [hr.1]; simp, ?_⟩
      rw [hr.2]
      obtain ⟨ks, hks, hpp⟩ : ∃ ks : List (List UInt8), ks.Perm (kvs.map Prod.fst) ∧ p = ks.map srow := ⟨seen.map (kat kvs), by rw [← kat_range kvs, ← hsl]; exact hperm.map _, by rw [hp, List.map_map]; rfl⟩
      subst hpp
      show wpA _ _ _ _ _ _ _ _
      repeat' (first | refine O_nil ?_ | refine A_seq ?_ | refine A_region ?_ | refine A_ret ?_ | (show opsA _ _ _ _ _ _ _; first | refine O_ev WideF.wide rfl (Ev_pure rfl) rfl rfl ?_ | (show opsA _ _ _ _ (⟨_, .load _ _, _, _, _, _⟩ :: _) _ _; refine O_ev WideF.wide rfl (Ev_loadB1 (i := 2) rfl rfl rfl) rfl rfl ?_)))
      refine Shift.lek ⟨13, [(4, .slice la ln lc)], H3, [.obj dd (.deferred (some [])), .row (.slice la ln lc) 1 (ks.map srow), .obj mb (emap (sents 0 kvs))], [], [rmark dd]⟩ ⟨rfl, rfl, rfl, ⟨rfl, trivial⟩, Own.subi [0, 3, 1] (by decide) rfl rfl⟩ ?_
      refine EndM_s (Ret1 rfl rfl) ?_
      exact Shift.pure ⟨rfl, _, _, _, _, rfl, hks, rfl⟩
    · exact hE.elim
set_option maxRecDepth 100000 in
theorem CollectS_fn {H : Hp} {bi mb : Nat} {kvs : List (List UInt8 × Value)} (hb : H bi 0 = some (.map (some mb))) (hn : kvs.length < 1048576) :
    Fn Tryz.prog 109 [keysV bi] H [.obj mb (emap (sents 0 kvs))] fun v _ I' => ∃ a' n' c', ∃ ks : List (List UInt8), v = .slice a' n' c' ∧ ks.Perm (kvs.map Prod.fst) ∧ I' = [.row (.slice a' n' c') 1 (ks.map srow), .obj mb (emap (sents 0 kvs))] := by
  refine Fn_of _ _ Tryz.func109 rfl Tryz.ntmps109 rfl fun c => ?_
  repeat' (first | (refine O_ef rfl (Ef_call (I := [_]) WideF.wide (AppendSeqS_fn hb hn) ⟨rfl, rfl, trivial⟩ rfl ?_); rintro v H1 I1 hle1 ⟨a', n', c', ks, rfl, hks, rfl⟩) | refine O_nil ?_ | refine A_seq ?_ | refine A_region ?_ | refine A_ret ?_ | (show opsA _ _ _ _ _ _ _; refine O_ev WideF.wide rfl (Ev_pure rfl) rfl rfl ?_))
  exact End_m (Ret1 rfl rfl) ⟨_, _, _, _, rfl, hks, rfl⟩
set_option maxRecDepth 100000 in
set_option maxHeartbeats 1000000 in
theorem SortedS_fn {H : Hp} {bi mb : Nat} {kvs : List (List UInt8 × Value)} (hb : H bi 0 = some (.map (some mb))) (hn : kvs.length < 1048576) :
    Fn Tryz.prog 67 [keysV bi] H [.obj mb (emap (sents 0 kvs))] fun v H' I' => ∃ a' n' c', ∃ ks : List (List UInt8), v = .slice a' n' c' ∧ ks.Perm (kvs.map Prod.fst) ∧ HRow H' a' n' c' 1 ((srtS ks).map srow) ∧ I' = [.obj mb (emap (sents 0 kvs))] := by
  refine Fn_of _ _ Tryz.func67 rfl Tryz.ntmps67 rfl fun c => ?_
  refine A_seq ?_
  refine A_region ?_
  refine O_ev WideF.wide rfl (Ev_pure rfl) rfl rfl ?_
  refine O_nil ?_
  refine A_seq ?_
  refine A_cutu (fun st => ∃ a' n' c', ∃ ks : List (List UInt8), ∃ H1, HLe H H1 ∧ ks.Perm (kvs.map Prod.fst) ∧ st = ⟨9, [(3, .slice a' n' c')], H1, [.row (.slice a' n' c') 1 (ks.map srow), .obj mb (emap (sents 0 kvs))], [], []⟩) ?_ ?_
  · repeat' (first | (refine O_ef rfl (Ef_call (I := [_]) WideF.wide (CollectS_fn hb hn) ⟨rfl, trivial⟩ rfl ?_); rintro v H1 I1 hle1 ⟨a', n', c', ks, rfl, hks, rfl⟩) | refine O_nil ?_ | refine A_region ?_ | (show opsA _ _ _ _ _ _ _; refine O_ev WideF.wide rfl (Ev_pure rfl) rfl rfl ?_))
    exact Shift.to ⟨_, _, _, _, _, hle1, hks, rfl⟩ ⟨rfl, rfl, rfl, ⟨rfl, trivial⟩, Own.subi [0, 1] (by decide) rfl rfl⟩
  rintro st ⟨a', n', c', ks, H1, hle1, hks, rfl⟩
  have hkl : ks.length < 4611686018427387904 := by have := hks.length_eq; rw [List.length_map] at this; omega
  have hso := fun Hx => sortStrs_fn (H := Hx) (a := a') (n := n') (cp := c') (l := ks) hkl
  repeat' (first | (refine O_ef rfl (Ef_call (I := [_]) WideF.wide (hso _) ⟨rfl, trivial⟩ rfl ?_); rintro v H2 I2 hle2 ⟨rfl, rfl, rfl⟩) | refine O_nil ?_ | refine A_seq ?_ | refine A_region ?_ | refine A_ret ?_ | (show opsA _ _ _ _ _ _ _; refine O_ev WideF.wide rfl (Ev_pure rfl) rfl rfl ?_))
  refine Shift_freeze (srow_one _) fun H' hle hr => ?_
  exact End_m (Ret1 rfl rfl) ⟨_, _, _, _, rfl, hks, hr, rfl⟩
end Go.Proofs.YtnoadopmeoohmaaGreatDoor
