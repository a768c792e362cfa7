/-
  slices.Sort of numbers by the shelf's contract; maps.Keys, Collect, Sorted at numbers. Printed by genU6.py.
-/
import Derived.Test.YtofkolbnhcckkaaGreatU5
import Derived.Test.YtofkolbnhcckkaaGreatE5
import Derived.Shelf.Sort.Plain
import Derived.Shelf.Slices.In.SortNone
import Derived.Sort.OwnSortedInts
namespace Go.Proofs.YtofkolbnhcckkaaGreat
open Go
set_option linter.unusedVariables false
set_option linter.unusedSimpArgs false
def irow (x : Int) : List Value := [.int .i64 x]
theorem irow_one (l : List Int) : ∀ cs ∈ l.map irow, ∀ u ∈ cs, u.oneCell' = true := by
  intro cs hcs u hu
  obtain ⟨p, _, rfl⟩ := List.mem_map.1 hcs
  simp [irow] at hu
  subst hu; rfl

def srt (l : List Int) : List Int := l.mergeSort fun x y => decide (x ≤ y)
theorem srt_mem {l : List Int} {x : Int} : x ∈ srt l ↔ x ∈ l := (List.mergeSort_perm l _).mem_iff

section
open Go.Shelf
def lays189_ren : Go.Shelf.Ren := ⟨fun | 189 => 87 | 125 => 109 | 257 => 108 | 128 => 124 | 129 => 125 | 294 => 115 | 295 => 116 | 296 => 117 | 297 => 118 | 298 => 119 | 299 => 120 | 216 => 121 | 300 => 122 | 301 => 123 | 328 => 127 | 329 => 128 | 330 => 129 | 331 => 130 | 332 => 131 | 215 => 132 | 343 => 134 | n => n, fun | 28 => 55 | 3 => 3 | 46 => 179 | 0 => 0 | 51 => 192 | 53 => 194 | 4 => 4 | 183 => 185 | 182 => 184 | 131 => 73 | 5 => 5 | 9 => 9 | 218 => 196 | 222 => 95 | 228 => 202 | 229 => 80 | n => n, fun | n => n⟩
theorem lays189 : Go.Proofs.Lays.n189 Tryz.prog lays189_ren := {
  mixed := by kernel_rfl
  f125 := Tryz.func109.trans (congrArg some (by kernel_rfl))
  f128 := Tryz.func124.trans (congrArg some (by kernel_rfl))
  f129 := Tryz.func125.trans (congrArg some (by kernel_rfl))
  f189 := Tryz.func87.trans (congrArg some (by kernel_rfl))
  f215 := Tryz.func132.trans (congrArg some (by kernel_rfl))
  f216 := Tryz.func121.trans (congrArg some (by kernel_rfl))
  f257 := Tryz.func108.trans (congrArg some (by kernel_rfl))
  f294 := Tryz.func115.trans (congrArg some (by kernel_rfl))
  f295 := Tryz.func116.trans (congrArg some (by kernel_rfl))
  f296 := Tryz.func117.trans (congrArg some (by kernel_rfl))
  f297 := Tryz.func118.trans (congrArg some (by kernel_rfl))
  f298 := Tryz.func119.trans (congrArg some (by kernel_rfl))
  f299 := Tryz.func120.trans (congrArg some (by kernel_rfl))
  f300 := Tryz.func122.trans (congrArg some (by kernel_rfl))
  f301 := Tryz.func123.trans (congrArg some (by kernel_rfl))
  f328 := Tryz.func127.trans (congrArg some (by kernel_rfl))
  f329 := Tryz.func128.trans (congrArg some (by kernel_rfl))
  f330 := Tryz.func129.trans (congrArg some (by kernel_rfl))
  f331 := Tryz.func130.trans (congrArg some (by kernel_rfl))
  f332 := Tryz.func131.trans (congrArg some (by kernel_rfl))
  f343 := Tryz.func134.trans (congrArg some (by kernel_rfl))
  t0 := Tryz.underlying0
  a0 := Tryz.isAgg0
  z0 := Tryz.sizeOf0
  v0 := Tryz.zeroValue0
  t3 := Tryz.underlying3
  a3 := Tryz.isAgg3
  z3 := Tryz.sizeOf3
  v3 := Tryz.zeroValue3
  t4 := Tryz.underlying4
  a4 := Tryz.isAgg4
  z4 := Tryz.sizeOf4
  v4 := Tryz.zeroValue4
  t5 := Tryz.underlying5
  a5 := Tryz.isAgg5
  z5 := Tryz.sizeOf5
  v5 := Tryz.zeroValue5
  t9 := Tryz.underlying9
  a9 := Tryz.isAgg9
  z9 := Tryz.sizeOf9
  v9 := Tryz.zeroValue9
  t28 := Tryz.underlying55
  a28 := Tryz.isAgg55
  z28 := Tryz.sizeOf55
  v28 := Tryz.zeroValue55
  t46 := Tryz.underlying179
  a46 := Tryz.isAgg179
  z46 := Tryz.sizeOf179
  v46 := Tryz.zeroValue179
  t51 := Tryz.underlying192
  a51 := Tryz.isAgg192
  z51 := Tryz.sizeOf192
  v51 := Tryz.zeroValue192
  t53 := Tryz.underlying194
  a53 := Tryz.isAgg194
  z53 := Tryz.sizeOf194
  v53 := Tryz.zeroValue194
  t131 := Tryz.underlying73
  a131 := Tryz.isAgg73
  z131 := Tryz.sizeOf73
  v131 := Tryz.zeroValue73
  t182 := Tryz.underlying184
  a182 := Tryz.isAgg184
  z182 := Tryz.sizeOf184
  v182 := Tryz.zeroValue184
  t183 := Tryz.underlying185
  a183 := Tryz.isAgg185
  z183 := Tryz.sizeOf185
  v183 := Tryz.zeroValue185
  t218 := Tryz.underlying196
  a218 := Tryz.isAgg196
  z218 := Tryz.sizeOf196
  v218 := Tryz.zeroValue196
  t222 := Tryz.underlying95
  a222 := Tryz.isAgg95
  z222 := Tryz.sizeOf95
  v222 := Tryz.zeroValue95
  t228 := Tryz.underlying202
  a228 := Tryz.isAgg202
  z228 := Tryz.sizeOf202
  v228 := Tryz.zeroValue202
  t229 := Tryz.underlying80
  a229 := Tryz.isAgg80
  z229 := Tryz.sizeOf80
  v229 := Tryz.zeroValue80 }
open Go.Sort Go.RowKit in
theorem slices_Sort_int (blk off cap : Nat) (zs : List Int) (w : World) (hH : Go.Sort.Holds (Value.int .i64) w blk off zs.toArray) (hblk : blk < w.heap.size) (hsz : zs.length < 4611686018427387904) :
    Calls Tryz.prog 87 #[.slice (some ⟨blk, off, none⟩) zs.length cap] w fun e w' =>
      e = .returned (.tuple #[]) ∧ ∃ n os, w' = Go.Sort.grow (Go.Sort.putRow (Value.int .i64) (Go.Sort.ahead w n) blk off (zs.mergeSort fun x y => decide (x ≤ y)).toArray) os := Any.slices_Sort_int lays189 blk off cap zs w hH hblk hsz
open Go.RowKit Go.Sort in
theorem slices_Sort_int_none (p : Option Addr) (cap : Nat) (w : World) :
    Calls Tryz.prog 87 #[.slice p 0 cap] w fun e w' => e = .returned (.tuple #[]) ∧ w' = w := Any.slices_Sort_int_none lays189 p cap w
end

section
theorem moves_sorted {w : World} {g k : Nat} {os : Array Obj} {d : Array Int} : Moves w (Go.Sort.grow (Go.Sort.putRow (Value.int .i64) (Go.Sort.ahead w k) g 0 d) os) [g] :=
  have h := grownBy_sortedI (w := w) (g := g) (n := k) (os := os) d
  ⟨rfl, rfl, rfl, h.size, fun j hj hn => h.block j hj fun e => hn (by simp at e; simp [e])⟩

theorem sortSome_fn {H : Hp} {b n cp : Nat} {l : List Int} (hm : l.length < 4611686018427387904) : Fn Tryz.prog 87 [.slice (some ⟨b, 0, none⟩) n cp] H [.row (.slice (some ⟨b, 0, none⟩) n cp) 1 (l.map irow)] fun v H' I' => v = .tuple #[] ∧ H' = H ∧ I' = [.row (.slice (some ⟨b, 0, none⟩) n cp) 1 ((srt l).map irow)] := by
  intro w hw
  have hr : RowOk w (.slice (some ⟨b, 0, none⟩) n cp) 1 (l.map irow) := hw.own _ (List.mem_cons_self)
  rcases hr with ⟨hv, _⟩ | ⟨b', cap, rest, T, hv, hk, hc, hb, hl⟩
  · cases hv
  · cases hv
    simp only [List.length_map] at hc hw ⊢
    have hfl : (l.map irow).flatten = l.map (Value.int .i64) := by
      clear hw hb hl hk hc hm
      induction l with
      | nil => rfl
      | cons x r ih => simp only [List.map_cons, List.flatten_cons, ih]; rfl
    rw [hfl] at hb hl
    have hHs : Go.Sort.Holds (Value.int .i64) w b 0 l.toArray := holds_of_blockI hb (by simp)
    have hlt := hw.lt b (by simp [Own.blocks, Res.blocks])
    refine (slices_Sort_int b 0 cp l w hHs hlt hm).mono ?_
    rintro e w' ⟨rfl, k, os, rfl⟩
    refine ⟨.tuple #[], H, _, rfl, ?_, rfl, rfl, rfl⟩
    have hsl : (srt l).length = l.length := (List.mergeSort_perm l _).length_eq
    refine Holds.frameH (I := [.row (.slice (some ⟨b, 0, none⟩) l.length cp) 1 (l.map irow)]) (I' := [.row (.slice (some ⟨b, 0, none⟩) l.length cp) 1 ((srt l).map irow)]) (R := []) hw (moves_sorted.mono (by simp [Own.blocks, Res.blocks])) (Own.ok_one ?_) (Own.sep_one _) (fun b' hb' => .inr (by simpa [Own.blocks, Res.blocks] using hb'))
    refine .inr ⟨b, cp, rest, T, by rw [List.length_map, hsl], ?_, by rw [List.length_map, hsl]; exact hc, ?_, ?_⟩
    · intro cs hcs
      obtain ⟨x, _, rfl⟩ := List.mem_map.1 hcs
      rfl
    · have hfs : ((srt l).map irow).flatten = (srt l).map (Value.int .i64) := by
        generalize srt l = z
        induction z with
        | nil => rfl
        | cons x r ih => simp only [List.map_cons, List.flatten_cons, ih]; rfl
      rw [hfs, heap_sortedI _ hb]
      refine congrArg (fun z => some (Obj.cells z T (0, 0))) ?_
      apply Array.ext_getElem?
      intro j
      simp only [Go.Sort.putCells, Array.getElem?_mapIdx, List.getElem?_toArray]
      by_cases hj : j < l.length
      · rw [List.getElem?_append_left (by simpa using hj), List.getElem?_append_left (by simpa [hsl] using hj)]
        have h1 : (srt l)[j]? = some (srt l)[j] := List.getElem?_eq_getElem (by omega)
        simp [hj, hsl, h1, srt]
      · rw [List.getElem?_append_right (by simp; omega), List.getElem?_append_right (by simp [hsl]; omega)]
        simp only [List.length_map, hsl]
        cases rest[j - l.length]? with
        | none => rfl
        | some v =>
          have h2 : ¬ (0 ≤ j ∧ j < 0 + (srt l).toArray.size) := by simp [hsl]; omega
          simp only [Option.map_some]
          exact congrArg some (if_neg h2)
    · rw [List.length_append] at hl ⊢
      simp only [List.length_map, List.length_flatten, List.map_map] at hl ⊢
      have hz : ((srt l).map irow).flatten.length = l.length := by
        rw [← hsl]
        generalize srt l = z
        induction z with
        | nil => rfl
        | cons x r ih => simp only [List.map_cons, List.flatten_cons, List.length_append, ih]; simp [irow]; omega
      simp only [List.length_flatten, List.map_map] at hz
      omega
theorem sortInts_fn {H : Hp} {a : Option Addr} {n cp : Nat} {l : List Int} (hm : l.length < 4611686018427387904) : Fn Tryz.prog 87 [.slice a n cp] H [.row (.slice a n cp) 1 (l.map irow)] fun v H' I' => v = .tuple #[] ∧ H' = H ∧ I' = [.row (.slice a n cp) 1 ((srt l).map irow)] := by
  intro w hw
  have hr : RowOk w (.slice a n cp) 1 (l.map irow) := hw.own _ (List.mem_cons_self)
  rcases hr with ⟨hv, hl⟩ | ⟨b, cap, rest, T, hv, hk, hc, hb, hl⟩
  · cases hv
    obtain rfl : l = [] := by simpa using hl
    refine (slices_Sort_int_none none 0 w).mono ?_
    rintro e w' ⟨rfl, rfl⟩
    have e : srt [] = [] := by simp [srt]
    exact ⟨_, H, _, rfl, hw, rfl, rfl, by rw [e]⟩
  · cases hv
    exact sortSome_fn hm w hw
end

attribute [local irreducible] wpA opsA drJ drQ drE Ef Ev Shift Fn
/-- how a round of an iterator ends, and the iterator itself: J behind a round that went on, E j behind one that jumped by j -/
def rpost (lo : Nat) (r : Loop) (J : Hp → Own → Prop) (E : Code → Hp → Own → Prop) (v : Value) (H' : Hp) (I' : Own) : Prop :=
  ∃ r' M', I' = .obj lo (.loop r') :: M' ∧ ((v = .bool true ∧ r' = r ∧ J H' M') ∨ ∃ j, v = .bool false ∧ r' = rdone r j ∧ E j H' M')

/-! ### maps.Keys -/
abbrev keysV (b : Nat) : Value := .func (.func 88) #[] #[.pointer (some ⟨b, 0, none⟩)]
set_option maxRecDepth 100000 in
theorem Keys_fn {H : Hp} {mb : Nat} : Fn Tryz.prog 61 [.map (some mb)] H [] fun v H' I' => (∃ b, v = keysV b ∧ H' b 0 = some (.map (some mb))) ∧ I' = [] := by
  refine Fn_of _ _ Tryz.func61 rfl Tryz.ntmps61 rfl fun c => ?_
  repeat' (first | (refine O_freezeBox (by intro u hu; simp at hu; subst hu; rfl) ?_; intro H1 hle1 hc1; refine O_ev WideF.wide rfl (Ev_makeFunc (xs := []) (vs := []) (ys := [.tmp 1]) (us := [.pointer (some ⟨_, 0, none⟩)]) rfl rfl) rfl rfl ?_) | refine O_nil ?_ | refine A_seq ?_ | refine A_region ?_ | refine A_ret ?_ | (show opsA _ _ _ _ _ _ _; first | refine O_ev WideF.wide rfl (Ev_pure rfl) rfl rfl ?_ | (show opsA _ _ _ _ (⟨_, .box _ _, _, _, _, _⟩ :: _) _ _; (refine O_ef rfl (Ef_box1 WideF.wide rfl rfl rfl ?_); intro b))))
  refine End_e (Ret1 rfl rfl) ⟨⟨_, rfl, ?_⟩, rfl⟩
  exact hc1 0 _ rfl
abbrev kySt (H : Hp) (lo mb it : Nat) (es : List MapEntry) (seen : List Nat) (r : Loop) (I : Own) : Sta := ⟨14, [(0, .func (.yield lo) #[] #[]), (5, .pointer (some ⟨it, 0, none⟩))], H, .obj it (iobj mb es.length seen) :: .obj mb (emap es) :: .obj lo (.loop r) :: I, [], []⟩
theorem Own.sub_it (x a b : Res) (R : Own) : Own.sub ((b :: a :: R) ++ []) ((x :: a :: b :: R) ++ []) := by
  refine ⟨2 :: 1 :: (List.range R.length).map (· + 3), ?_, ?_, ?_⟩
  · simp only [List.nodup_cons, List.mem_cons, List.mem_map, not_or]
    refine ⟨⟨by decide, ?_⟩, ?_, ?_⟩
    · rintro ⟨i, _, hi⟩; omega
    · rintro ⟨i, _, hi⟩; omega
    · rw [List.nodup_iff_pairwise_ne, List.pairwise_map]
      exact List.nodup_range.imp fun h e => h (by omega)
  · intro i hi
    simp only [List.mem_cons, List.mem_map, List.mem_range] at hi
    simp only [List.append_nil, List.length_cons]
    rcases hi with rfl | rfl | ⟨k, hk, rfl⟩ <;> omega
  · simp only [List.append_nil, List.map_cons, List.map_map]
    refine List.cons_eq_cons.2 ⟨rfl, List.cons_eq_cons.2 ⟨rfl, ?_⟩⟩
    apply List.ext_getElem?
    intro i
    by_cases hi : i < R.length
    · simp [hi, List.getD]
    · simp [hi, List.getElem?_eq_none (Nat.le_of_not_lt hi)]
set_option maxRecDepth 100000 in
set_option maxHeartbeats 1000000 in
theorem Keys1_fn {H : Hp} {b mb : Nat} {es : List MapEntry} (hN : Num es) (hb : H b 0 = some (.map (some mb))) {lo : Nat} {r : Loop} (hps : r.params.size = 1)
    (J : List Nat → Hp → Own → Prop) (E : Code → Hp → Own → Prop) {I0 : Own} (h0 : J [] H I0)
    (hround : ∀ seen i o H1 I1, HLe H H1 → J seen H1 I1 → es[i]? = some o → i ∉ seen → (seen ++ [i]).length ≤ es.length → RoundFn Tryz.prog lo r [o.key] H1 I1 (rpost lo r (J (seen ++ [i])) E)) :
    Fn Tryz.prog 88 [.func (.yield lo) #[] #[], .pointer (some ⟨b, 0, none⟩)] H (.obj lo (.loop r) :: .obj mb (emap es) :: I0) fun _ H' I' =>
      ∃ r' M', I' = .obj lo (.loop r') :: .obj mb (emap es) :: M' ∧ ((r' = r ∧ ∃ seen, seen.Perm (List.range es.length) ∧ J seen H' M') ∨ ∃ j, r' = rdone r j ∧ E j H' M') := by
  refine Fn_of _ _ Tryz.func88 rfl Tryz.ntmps88 rfl fun c => ?_
  repeat' (first | (refine O_ev WideF.wide rfl (Ev_loadH1 rfl hb) rfl rfl ?_) | (refine O_f1 (O_ef rfl (Ef_range WideF.wide (i := 0) rfl rfl rfl ?_)); intro it) | refine O_nil ?_ | refine A_seq ?_ | refine A_region ?_ | refine A_block ?_)
  refine A_loopu (fun m s => ∃ (H1 : Hp) (I1 : Own) (seen : List Nat), m = es.length - seen.length ∧ seen.Nodup ∧ (∀ i ∈ seen, i < es.length) ∧ HLe H H1 ∧ J seen H1 I1 ∧ s = kySt H1 lo mb it es seen r I1) ?_ ?_
  · exact Shift.to ⟨_, H, I0, [], rfl, List.nodup_nil, (fun i hi => by cases hi), HLe.refl _, h0, rfl⟩ ⟨rfl, rfl, rfl, ⟨rfl, rfl, trivial⟩, Own.sub_refl _⟩
  · rintro m s ⟨H1, I1, seen, rfl, hnd, hlt, hle1, hJ, rfl⟩
    repeat' (first | (refine O_ef rfl (Ef_next WideF.wide hN rfl rfl (fun i o hio hns => ?_) (fun hall => ?_))) | (refine O_ev WideF.wide rfl (Ev_entry (i := i) (o := o) (j := 0) (m := 1) hN hio rfl rfl rfl) rfl rfl ?_) | (refine O_ef rfl (Ef_yieldA (A := [.obj it (iobj mb es.length (seen ++ [i])), .obj mb (emap es)]) WideF.wide (hround seen i o H1 I1 hle1 hJ hio hns (nodup_len (nodup_snoc hnd hns) (snoc_lt hlt hio))) rfl ⟨rfl, trivial⟩ hps rfl ?_); rintro v H2 I2 hle2 ⟨r', M', rfl, ⟨rfl, rfl, hJ2⟩ | ⟨j, rfl, rfl, hE2⟩⟩) | refine O_nil ?_ | refine A_seq ?_ | refine A_region ?_ | refine A_skip ?_ | refine A_ret ?_ | refine A_block ?_ | (show opsA _ _ _ _ _ _ _; first | refine O_ev WideF.wide rfl (Ev_pure rfl) rfl rfl ?_ | (show opsA _ _ _ _ (⟨_, .unOp _ _ _, _, _, _, _⟩ :: _) _ _; refine O_ev WideF.wide rfl (Ev_notb rfl) rfl rfl ?_)) | (show wpA _ _ _ (.exit _) _ _ _ _; refine A_exit rfl ?_) | (show wpA _ _ _ (.cond _ _ _) _ _ _ _; first | refine A_iftrue rfl ?_ | refine A_iffalse rfl ?_))
    · have hl := nodup_len (nodup_snoc hnd hns) (snoc_lt hlt hio)
      rw [List.length_append, List.length_singleton] at hl
      exact Shift.to ⟨_, by rw [List.length_append, List.length_singleton]; omega, H2, M', seen ++ [i], rfl, nodup_snoc hnd hns, snoc_lt hlt hio, hle1.trans hle2, hJ2, rfl⟩ ⟨rfl, rfl, rfl, ⟨rfl, rfl, trivial⟩, Own.sub_refl _⟩
    · exact Shift.lek ⟨14, [], H2, .obj lo (.loop (rdone r j)) :: .obj mb (emap es) :: M', [], []⟩ ⟨rfl, rfl, rfl, trivial, Own.sub_it _ _ _ _⟩ (End_m (Ret0 rfl) ⟨_, _, rfl, .inr ⟨j, rfl, hE2⟩⟩)
    · exact Shift.lek ⟨14, [], H1, .obj lo (.loop r) :: .obj mb (emap es) :: I1, [], []⟩ ⟨rfl, rfl, rfl, trivial, Own.sub_it _ _ _ _⟩ (End_m (Ret0 rfl) ⟨_, _, rfl, .inl ⟨rfl, seen, seen_perm hnd hlt hall, hJ⟩⟩)
/-! ### the keys as a new slice, in order -/
def kat (kvs : List (Int × Value)) (i : Nat) : Int := (kvs[i]?.map Prod.fst).getD 0
theorem kat_range (kvs : List (Int × Value)) : (List.range kvs.length).map (kat kvs) = kvs.map Prod.fst := by
  apply List.ext_getElem?
  intro i
  by_cases hi : i < kvs.length
  · simp [hi, kat]
  · simp [hi, List.getElem?_eq_none (Nat.le_of_not_lt hi)]
def apK (kvs : List (Int × Value)) (b2 : Nat) (seen : List Nat) (_ : Hp) (I1 : Own) : Prop :=
  ∃ a n c p, I1 = [.box b2 [.slice a n c], .row (.slice a n c) 1 p] ∧ p.length = n ∧ p = seen.map fun i => irow (kat kvs i)
set_option maxRecDepth 100000 in
set_option maxHeartbeats 1000000 in
theorem AppendSeqS_fn {H : Hp} {bi mb : Nat} {kvs : List (Int × Value)} (hb : H bi 0 = some (.map (some mb))) (hn : kvs.length < 68719476736) :
    Fn Tryz.prog 107 [.slice none 0 0, keysV bi] H [.obj mb (emap (ients 0 kvs))] fun v _ I' => ∃ a' n' c', ∃ ks : List Int, v = .slice a' n' c' ∧ ks.Perm (kvs.map Prod.fst) ∧ I' = [.row (.slice a' n' c') 1 (ks.map irow), .obj mb (emap (ients 0 kvs))] := by
  have hsl := ients_length 0 kvs
  refine Fn_ofM _ _ Tryz.func107 rfl Tryz.ntmps107 rfl fun c => ?_
  repeat' (first | refine O_nil ?_ | refine A_seq ?_ | refine A_region ?_ | refine A_block ?_ | (show opsA _ _ _ _ _ _ _; first | refine O_ev WideF.wide rfl (Ev_pure rfl) rfl rfl ?_ | (show opsA _ _ _ _ (⟨_, .box _ _, _, _, _, _⟩ :: _) _ _; (refine O_ef rfl (Ef_box1 WideF.wide rfl rfl rfl ?_); intro b))))
  obtain ⟨b2, hb2⟩ : ∃ b2, b2 = b := ⟨_, rfl⟩
  subst hb2
  refine A_nilrow 1 ?_
  refine A_sub (s' := ⟨13, [(6, keysV bi), (2, .pointer (some ⟨b2, 0, none⟩))], H, [.obj mb (emap (ients 0 kvs)), .box b2 [.slice none 0 0], .row (.slice none 0 0) 1 []], [], []⟩) ⟨rfl, rfl, rfl, ⟨rfl, rfl, trivial⟩, Own.subi [2, 1, 0] (by decide) rfl rfl⟩ ?_
  refine A_rangeFunc WideF.wide rfl (cap := [.pointer (some ⟨bi, 0, none⟩)]) (ps := [7]) rfl ?_
  intro dd lo r hr hps has hbo hsn he
  refine ⟨_, Keys1_fn (Num.ients kvs) hb (by rw [hps]; rfl) (apK kvs b2) (fun _ _ _ => False) ⟨none, 0, 0, [], rfl, rfl, by simp⟩ ?_, ?_⟩
  · rintro seen i o H2 I2 hle2 ⟨la, ln, lc, p, rfl, hpl, hp⟩ hio hns hl
    refine Round_of [] hr he hps has hbo hsn rfl ?_
    clear has hbo
    intro F hF c'
    obtain ⟨-, q, hq, hkey, -⟩ := num_ients kvs 0 i o hio
    have hpn : p.length < 68719476736 := by rw [hp, List.length_map]; rw [List.length_append, List.length_singleton] at hl; omega
    have hsn2 : p ++ [irow q.1] = (seen ++ [i]).map fun i => irow (kat kvs i) := by rw [hp, List.map_append, List.map_singleton]; simp [kat, hq]
    rw [hkey]
    unfold irow at hsn2
    repeat' (first | refine O_nil ?_ | refine A_region ?_ | (show opsA _ _ _ _ _ _ _; refine O_ev hF rfl (Ev_pure rfl) rfl rfl ?_))
    refine ⟨rfl, ?_⟩
    repeat' (first | refine O_nil ?_ | refine A_region ?_ | refine A_block ?_ | (show opsA _ _ _ _ _ _ _; first | refine O_ev hF rfl (Ev_pure rfl) rfl rfl ?_ | (show opsA _ _ _ _ (⟨_, .load _ _, _, _, _, _⟩ :: _) _ _; refine O_ev hF rfl (Ev_loadB1 (i := 0) rfl rfl rfl) rfl rfl ?_) | (show opsA _ _ _ _ (⟨_, .call _, _, _, _, _⟩ :: _) _ _; (refine O_f2 (O_ef rfl (Ef_appendR hF rfl rfl rfl rfl rfl (by simp; omega) (by simp; omega) rfl ?_)); intro a cp)) | (show opsA _ _ _ _ (⟨_, .buildSlice _ _ _, _, _, _, _⟩ :: _) _ _; (refine O_ef rfl (Ef_build11 hF rfl rfl rfl ?_); intro b)) | (show opsA _ _ _ _ (⟨_, .store _ _ _, _, _, _, _⟩ :: _) _ _; refine O_f1 (O_ef rfl (Ef_store1 hF rfl rfl rfl rfl rfl ?_)))))
    refine RendN_to (s' := ⟨13, [], H2, [.box b2 [_], .row _ 1 _], [.obj lo (.loop (rbusy r))], []⟩) ⟨rfl, rfl, rfl, trivial, Own.subi [0, 1, 2] (by decide) rfl rfl⟩ rfl ?_
    exact ⟨_, _, rfl, .inl ⟨rfl, rfl, _, _, _, _, rfl, rfl, hsn2⟩⟩
  · rintro v H3 I3 hle3 ⟨r', M', rfl, ⟨rfl, seen, hperm, la, ln, lc, p, rfl, hpl, hp⟩ | ⟨j, rfl, hE⟩⟩
    · refine ⟨_, _, rfl, by rw [hr.1]; simp, ?_⟩
      rw [hr.2]
      obtain ⟨ks, hks, hpp⟩ : ∃ ks : List Int, ks.Perm (kvs.map Prod.fst) ∧ p = ks.map irow := ⟨seen.map (kat kvs), by rw [← kat_range kvs, ← hsl]; exact hperm.map _, by rw [hp, List.map_map]; rfl⟩
      subst hpp
      show wpA _ _ _ _ _ _ _ _
      repeat' (first | refine O_nil ?_ | refine A_seq ?_ | refine A_region ?_ | refine A_ret ?_ | (show opsA _ _ _ _ _ _ _; first | refine O_ev WideF.wide rfl (Ev_pure rfl) rfl rfl ?_ | (show opsA _ _ _ _ (⟨_, .load _ _, _, _, _, _⟩ :: _) _ _; refine O_ev WideF.wide rfl (Ev_loadB1 (i := 2) rfl rfl rfl) rfl rfl ?_)))
      refine Shift.lek ⟨13, [(4, .slice la ln lc)], H3, [.obj dd (.deferred (some [])), .row (.slice la ln lc) 1 (ks.map irow), .obj mb (emap (ients 0 kvs))], [], [rmark dd]⟩ ⟨rfl, rfl, rfl, ⟨rfl, trivial⟩, Own.subi [0, 3, 1] (by decide) rfl rfl⟩ ?_
      refine EndM_s (Ret1 rfl rfl) ?_
      exact Shift.pure ⟨rfl, _, _, _, _, rfl, hks, rfl⟩
    · exact hE.elim
set_option maxRecDepth 100000 in
theorem CollectS_fn {H : Hp} {bi mb : Nat} {kvs : List (Int × Value)} (hb : H bi 0 = some (.map (some mb))) (hn : kvs.length < 68719476736) :
    Fn Tryz.prog 86 [keysV bi] H [.obj mb (emap (ients 0 kvs))] fun v _ I' => ∃ a' n' c', ∃ ks : List Int, v = .slice a' n' c' ∧ ks.Perm (kvs.map Prod.fst) ∧ I' = [.row (.slice a' n' c') 1 (ks.map irow), .obj mb (emap (ients 0 kvs))] := by
  refine Fn_of _ _ Tryz.func86 rfl Tryz.ntmps86 rfl fun c => ?_
  repeat' (first | (refine O_ef rfl (Ef_call (I := [_]) WideF.wide (AppendSeqS_fn hb hn) ⟨rfl, rfl, trivial⟩ rfl ?_); rintro v H1 I1 hle1 ⟨a', n', c', ks, rfl, hks, rfl⟩) | refine O_nil ?_ | refine A_seq ?_ | refine A_region ?_ | refine A_ret ?_ | (show opsA _ _ _ _ _ _ _; refine O_ev WideF.wide rfl (Ev_pure rfl) rfl rfl ?_))
  exact End_m (Ret1 rfl rfl) ⟨_, _, _, _, rfl, hks, rfl⟩
set_option maxRecDepth 100000 in
set_option maxHeartbeats 1000000 in
theorem SortedS_fn {H : Hp} {bi mb : Nat} {kvs : List (Int × Value)} (hb : H bi 0 = some (.map (some mb))) (hn : kvs.length < 68719476736) :
    Fn Tryz.prog 60 [keysV bi] H [.obj mb (emap (ients 0 kvs))] fun v H' I' => ∃ a' n' c', ∃ ks : List Int, v = .slice a' n' c' ∧ ks.Perm (kvs.map Prod.fst) ∧ HRow H' a' n' c' 1 ((srt ks).map irow) ∧ I' = [.obj mb (emap (ients 0 kvs))] := by
  refine Fn_of _ _ Tryz.func60 rfl Tryz.ntmps60 rfl fun c => ?_
  refine A_seq ?_
  refine A_region ?_
  refine O_ev WideF.wide rfl (Ev_pure rfl) rfl rfl ?_
  refine O_nil ?_
  refine A_seq ?_
  refine A_cutu (fun st => ∃ a' n' c', ∃ ks : List Int, ∃ H1, HLe H H1 ∧ ks.Perm (kvs.map Prod.fst) ∧ st = ⟨9, [(3, .slice a' n' c')], H1, [.row (.slice a' n' c') 1 (ks.map irow), .obj mb (emap (ients 0 kvs))], [], []⟩) ?_ ?_
  · repeat' (first | (refine O_ef rfl (Ef_call (I := [_]) WideF.wide (CollectS_fn hb hn) ⟨rfl, trivial⟩ rfl ?_); rintro v H1 I1 hle1 ⟨a', n', c', ks, rfl, hks, rfl⟩) | refine O_nil ?_ | refine A_region ?_ | (show opsA _ _ _ _ _ _ _; refine O_ev WideF.wide rfl (Ev_pure rfl) rfl rfl ?_))
    exact Shift.to ⟨_, _, _, _, _, hle1, hks, rfl⟩ ⟨rfl, rfl, rfl, ⟨rfl, trivial⟩, Own.subi [0, 1] (by decide) rfl rfl⟩
  rintro st ⟨a', n', c', ks, H1, hle1, hks, rfl⟩
  have hkl : ks.length < 4611686018427387904 := by have := hks.length_eq; rw [List.length_map] at this; omega
  have hso := fun Hx => sortInts_fn (H := Hx) (a := a') (n := n') (cp := c') (l := ks) hkl
  repeat' (first | (refine O_ef rfl (Ef_call (I := [_]) WideF.wide (hso _) ⟨rfl, trivial⟩ rfl ?_); rintro v H2 I2 hle2 ⟨rfl, rfl, rfl⟩) | refine O_nil ?_ | refine A_seq ?_ | refine A_region ?_ | refine A_ret ?_ | (show opsA _ _ _ _ _ _ _; refine O_ev WideF.wide rfl (Ev_pure rfl) rfl rfl ?_))
  refine Shift_freeze (irow_one _) fun H' hle hr => ?_
  exact End_m (Ret1 rfl rfl) ⟨_, _, _, _, rfl, hks, hr, rfl⟩

end Go.Proofs.YtofkolbnhcckkaaGreat
