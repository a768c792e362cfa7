/-
  Ranges over maps: the iterator, a step, the entry of a step.
-/
import Derived.Test.YtnoadopmeoohmaaGreatDoorE3
import Derived.Maps.RangeRun
namespace Go.Proofs.YtnoadopmeoohmaaGreatDoor
open Go
set_option linter.unusedVariables false
set_option linter.unusedSimpArgs false
/-- a map into which entries have been laid one after the other, none taken away -/
abbrev emap (es : List MapEntry) : Obj := .map es.toArray es.length
/-- its entries are numbered by their places -/
def Num (es : List MapEntry) : Prop := ∀ (i : Nat) (e : MapEntry), es[i]? = some e → e.born = i
abbrev iobj (b n : Nat) (seen : List Nat) : Obj := .mapIter (some b) n seen.toArray n
theorem Num.lt {es : List MapEntry} (h : Num es) : ∀ x ∈ es.toArray.toList, x.born < es.length := by
  intro x hx
  obtain ⟨i, hi⟩ := List.mem_iff_getElem?.1 (show x ∈ es by simpa using hx)
  rw [h i x hi]
  exact (List.getElem?_eq_some_iff.1 hi).1
theorem Num.nodup {es : List MapEntry} (h : Num es) : (es.map (·.born)).Nodup := by
  have : es.map (·.born) = List.range es.length := by
    apply List.ext_getElem?
    intro i
    rw [List.getElem?_map]
    by_cases hi : i < es.length
    · have := h i es[i] (List.getElem?_eq_getElem hi)
      simp [hi, this]
    · simp [hi, List.getElem?_eq_none (Nat.le_of_not_lt hi)]
  rw [this]
  exact List.nodup_range
section
variable {F : Fence} {P : Program} {c : Ctx} {K : SP} {n : Nat} {e : Env} {H : Hp} {M L : Own} {D : List Deferred} {x y z : Operand} {d : Tmp} {ty t t2 : TypeId} {pos : String} {after : Array Edge} {g : Option (Nat × Bool)} {v : Value} {b r : Nat}
/-- range over a map: an iterator -/
theorem Ef_range (hF : WideF F) {kt et : TypeId} {i : Nat} {es : List MapEntry} [ht : UndC P t (.map kt et)] (hx : e.eval x = some (.map (some b))) (hR : oget (M ++ L) i = some (.obj b (emap es))) (hn : Nat.blt d n = true)
    (k : ∀ r, K ⟨n, (d, .pointer (some ⟨r, 0, none⟩)) :: e, H, .obj r (iobj b es.length []) :: M, L, D⟩) :
    Ef F P c ⟨some d, .range t x, ty, pos, after, g⟩ ⟨n, e, H, M, L, D⟩ K := Ef_of_run hF fun a w hs => by
  have hb : w.heap[b]? = some (emap es) := hs.holds.own (.obj b (emap es)) (oget_mem hR)
  refine ⟨.pointer (some ⟨w.heap.size, 0, none⟩), w.alloc (iobj b es.length []), ?_, _, ok_put hs hn (hs.holds.allocO _), k _⟩
  have hno : (newObj (iobj b es.length [])).run P w = .ok w.heap.size (w.alloc (iobj b es.length [])) := rfl
  have hg := MapKept.run_getObj_map (P := P) hb
  have hi : (iobj b es.length []) = .mapIter (some b) es.length #[] es.length := rfl
  rw [hi] at hno ⊢
  simp only [execOp, hs.env.eval hx, Instr.range, ht.run, hg, Sem.run_bind, Sem.run_pure, Result.andThen_ok, hno]
/-- a step: an entry that was not seen yet, or none is left -/
theorem Ef_next (hF : WideF F) {es : List MapEntry} {seen : List Nat} (hN : Num es) (hx : e.eval x = some (.pointer (some ⟨r, 0, none⟩))) (hn : Nat.blt d n = true)
    (k : ∀ i o, es[i]? = some o → i ∉ seen → K ⟨n, (d, .tuple [.bool true, o.key, o.val].toArray) :: e, H, .obj r (iobj b es.length (seen ++ [i])) :: .obj b (emap es) :: M, L, D⟩)
    (k0 : (∀ i, i < es.length → i ∈ seen) → K ⟨n, (d, .tuple [.bool false].toArray) :: e, H, .obj r (iobj b es.length seen) :: .obj b (emap es) :: M, L, D⟩) :
    Ef F P c ⟨some d, .next x false, ty, pos, after, g⟩ ⟨n, e, H, .obj r (iobj b es.length seen) :: .obj b (emap es) :: M, L, D⟩ K := Ef_of_run hF fun a w hs => by
  have hr : w.heap[r]? = some (iobj b es.length seen) := hs.holds.own (.obj r (iobj b es.length seen)) (by simp)
  have hb : w.heap[b]? = some (emap es) := hs.holds.own (.obj b (emap es)) (by simp)
  have hborn : ∀ x : MapEntry, x ∈ es → ∃ i, es[i]? = some x ∧ x.born = i := fun x hx => by
    obtain ⟨i, hi⟩ := List.mem_iff_getElem?.1 hx
    exact ⟨i, hi, hN i x hi⟩
  rcases run_next_at (P := P) w ty r b es.length es.length seen.toArray es.toArray es.length hr hb hN.lt (Nat.le_refl _) with ⟨h0, hrun⟩ | ⟨o, ho, w1, hw1, hrun⟩
  · refine ⟨_, w, by simp only [execOp, hs.env.eval hx, hrun, Sem.run_bind, Sem.run_pure, Result.andThen_ok], _, ok_put hs hn hs.holds, k0 fun i hi => ?_⟩
    have hz : (leftOf es.toArray seen.toArray) = #[] := Array.eq_empty_of_size_eq_zero h0
    unfold leftOf at hz
    rw [Array.filter_eq_empty_iff] at hz
    have := hz es[i] (by simp)
    rw [hN i es[i] (List.getElem?_eq_getElem hi)] at this
    simpa using this
  · unfold leftOf at ho
    simp only [Array.toList_filter, List.mem_filter, Bool.not_eq_true', List.contains_toArray] at ho
    obtain ⟨i, hi, hbi⟩ := hborn o (by simpa using ho.1)
    have hns : i ∉ seen := by
      have := ho.2
      rw [hbi] at this
      simpa using this
    have hset : (seen.toArray.push o.born) = (seen ++ [i]).toArray := by rw [hbi]; simp
    rw [hset] at hrun
    refine ⟨.tuple [.bool true, o.key, o.val].toArray, w1.putObj r (iobj b es.length (seen ++ [i])), by simp only [execOp, hs.env.eval hx, hrun, Sem.run_bind, Sem.run_pure, Result.andThen_ok]; rfl, _, ok_put hs hn ?_, k i o hi hns⟩
    have hh : Holds c H ((.obj r (iobj b es.length seen) :: .obj b (emap es) :: M) ++ L) w1 := by
      rcases hw1 with rfl | rfl
      · exact hs.holds
      · exact hs.holds.drew
    exact hh.putObj (iobj b es.length (seen ++ [i]))
/-- .. its key and value, read behind it -/
theorem Ev_entry {es : List MapEntry} {seen : List Nat} {i j m : Nat} {o : MapEntry} {R : Own} (hN : Num es) (hi : es[i]? = some o) (hx : e.eval x = some (.pointer (some ⟨r, 0, none⟩))) (hR : oget R j = some (.obj r (iobj b es.length (seen ++ [i])))) (hR2 : oget R m = some (.obj b (emap es))) :
    Ev P ⟨some d, .entry x, ty, pos, after, g⟩ e H R (.tuple [o.key, o.val].toArray) := fun a w he _ hr => by
  have h1 : w.heap[r]? = some (iobj b es.length (seen ++ [i])) := hr _ (oget_mem hR)
  have h2 : w.heap[b]? = some (emap es) := hr _ (oget_mem hR2)
  have h3 : (seen ++ [i]).toArray = seen.toArray.push o.born := by rw [hN i o hi]; simp
  unfold iobj at h1
  rw [h3] at h1
  have h4 := run_entry_at (P := P) w r b es.length seen.toArray es.toArray es.length o h1 h2 (by simpa using List.mem_of_getElem? hi) (by simpa using hN.nodup)
  simp only [execOp, he.eval hx, h4, Sem.run_bind, Sem.run_pure, Result.andThen_ok]
end
/-- what has been seen, when all has been seen: every entry, once -/
theorem seen_perm {n : Nat} {seen : List Nat} (h1 : seen.Nodup) (h2 : ∀ i ∈ seen, i < n) (h3 : ∀ i, i < n → i ∈ seen) : seen.Perm (List.range n) :=
  (List.perm_ext_iff_of_nodup h1 List.nodup_range).2 fun i => ⟨fun h => by simpa using h2 i h, fun h => h3 i (by simpa using h)⟩
section
variable {F : Fence} {P : Program} {c : Ctx} {K : SP} {n : Nat} {e : Env} {H : Hp} {M L I : Own} {D : List Deferred} {x y z : Operand} {d : Tmp} {ty t t2 : TypeId} {pos : String} {after : Array Edge} {g : Option (Nat × Bool)} {v : Value} {b r : Nat} {args : List Value} {post : Value → Hp → Own → Prop} {at_ : Array TypeId}
/-- a yield: the record, and all that the rounds need, stand behind blocks of the iterator's own -/
theorem Ef_yieldA (hF : WideF F) {l : Nat} {r : Loop} {A : Own} {xs : Array Operand} (h : RoundFn P l r args H I post) (hz : e.eval z = some (.func (.yield l) #[] #[])) (hx : EvalAll e xs.toList args) (hps : r.params.size = args.length) (hn : Nat.blt d n = true)
    (k : ∀ v H' I', HLe H H' → post v H' I' → K ⟨n, (d, v) :: e, H', A ++ I', L, D⟩) :
    Ef F P c ⟨some d, .call { callee := .value z, args := xs, argTypes := at_ }, ty, pos, after, g⟩ ⟨n, e, H, A ++ .obj l (.loop r) :: I, L, D⟩ K := by
  refine Ef_perm (s := ⟨n, e, H, A ++ .obj l (.loop r) :: I, L, D⟩) (M2 := .obj l (.loop r) :: I ++ A) (List.perm_append_comm (l₁ := A) (l₂ := .obj l (.loop r) :: I)) ?_
  refine Ef_mapK (K' := fun s' => ∃ v H' I', HLe H H' ∧ post v H' I' ∧ s' = ⟨n, (d, v) :: e, H', I' ++ A, L, D⟩) (Ef_yield (M' := A) hF h hz hx hps hn fun v H' I' hle hp => ⟨v, H', I', hle, hp, rfl⟩) ?_
  rintro s a w hs ⟨v, H', I', hle, hp, rfl⟩
  exact ⟨⟨n, (d, v) :: e, H', A ++ I', L, D⟩, ⟨hs.defers, hs.size, hs.env, own_perm ((List.perm_append_comm (l₁ := I') (l₂ := A)).append_right L) hs.holds⟩, k v H' I' hle hp⟩
end
theorem nodup_len {l : List Nat} {n : Nat} (h1 : l.Nodup) (h2 : ∀ i ∈ l, i < n) : l.length ≤ n := by
  induction n generalizing l with
  | zero => cases l with
    | nil => exact Nat.le_refl _
    | cons a r => exact absurd (h2 a (by simp)) (by omega)
  | succ n ih =>
    have h := ih (l := l.erase n) (h1.erase n) fun i hi => by
      have hm := (h1.mem_erase_iff).1 hi
      have := h2 i hm.2
      have := hm.1
      omega
    rw [List.length_erase] at h
    split at h <;> omega
theorem nodup_snoc {l : List Nat} {i : Nat} (h : l.Nodup) (hi : i ∉ l) : (l ++ [i]).Nodup := by
  rw [List.nodup_append]
  exact ⟨h, by simp, fun a ha b hb => by simp at hb; subst hb; exact fun e => hi (e ▸ ha)⟩
theorem snoc_lt {es : List MapEntry} {l : List Nat} {i : Nat} {o : MapEntry} (h : ∀ k ∈ l, k < es.length) (hi : es[i]? = some o) : ∀ k ∈ l ++ [i], k < es.length := by
  intro k hk
  rcases List.mem_append.1 hk with hk | hk
  · exact h k hk
  · rw [List.mem_singleton] at hk; subst hk; exact (List.getElem?_eq_some_iff.1 hi).1
theorem num_sents : ∀ (kvs : List (List UInt8 × Value)) (k i : Nat) (o : MapEntry), (sents k kvs)[i]? = some o → o.born = k + i ∧ ∃ p, kvs[i]? = some p ∧ o.key = sv p.1 ∧ o.val = p.2
  | [], k, i, o, h => by simp [sents] at h
  | p :: r, k, 0, o, h => by simp [sents] at h; subst h; exact ⟨rfl, p, rfl, rfl, rfl⟩
  | p :: r, k, i + 1, o, h => by
    obtain ⟨h1, h2⟩ := num_sents r (k + 1) i o (by simpa [sents] using h)
    exact ⟨by omega, by simpa using h2⟩
theorem Num.sents (kvs : List (List UInt8 × Value)) : Num (sents 0 kvs) := fun i o h => by have := (num_sents kvs 0 i o h).1; omega
theorem smobj_emap (kvs : List (List UInt8 × Value)) : smobj kvs = emap (sents 0 kvs) := by unfold smobj emap; rw [sents_length]
/-! append to a persistent slice that has no room: a new row -/
theorem HRow.flat {H : Hp} {A : Option Addr} {m cp k : Nat} {news : List (List Value)} (hH : HRow H A m cp k news) : ∀ (j : Nat) u, news.flatten[j]? = some u → ∃ b o, A = some ⟨b, o, none⟩ ∧ H b (o + j) = some u := by
  have key : ∀ (l : List (List Value)) (i0 : Nat), (∀ i cs, l[i]? = some cs → cs.length = k ∧ ∃ b o, A = some ⟨b, o, none⟩ ∧ HCells H b (o + (i0 + i) * k) cs) → ∀ (j : Nat) u, l.flatten[j]? = some u → ∃ b o, A = some ⟨b, o, none⟩ ∧ H b (o + (i0 * k + j)) = some u := by
    intro l
    induction l with
    | nil => intro i0 _ j u h; simp at h
    | cons cs r ih =>
      intro i0 hl j u h
      obtain ⟨hck, b, o, hA, hc⟩ := hl 0 cs (by simp)
      by_cases hj : j < cs.length
      · simp only [List.flatten_cons] at h
        rw [List.getElem?_append_left hj] at h
        have := hc j u h
        exact ⟨b, o, hA, by rw [Nat.add_assoc, Nat.add_zero] at this; exact this⟩
      · simp only [List.flatten_cons] at h
        rw [List.getElem?_append_right (by omega)] at h
        obtain ⟨b', o', hA', hq⟩ := ih (i0 + 1) (fun i cs' hi => by have := hl (i + 1) cs' (by simpa using hi); rwa [show i0 + (i + 1) = i0 + 1 + i by omega] at this) _ u h
        refine ⟨b', o', hA', ?_⟩
        rw [show i0 * k + j = (i0 + 1) * k + (j - cs.length) by rw [Nat.succ_mul]; omega]
        exact hq
  intro j u h
  obtain ⟨b, o, hA, hq⟩ := key news 0 (fun i cs hi => by simpa using hH.el i cs hi) j u h
  exact ⟨b, o, hA, by simpa using hq⟩
theorem Ef_appendF {F : Fence} {P : Program} {c : Ctx} {K : SP} {n : Nat} {e : Env} {H : Hp} {M L : Own} {D : List Deferred} {x y : Operand} {d : Tmp} {ty t : TypeId} {pos : String} {after : Array Edge} {g : Option (Nat × Bool)}
    (hF : WideF F) {el bytes m cp nn cc k : Nat} {ag : Bool} {zc : List Value} {css news : List (List Value)} {a A : Option Addr} [ht : UndC P t (.slice el)] [hT : TyC P el ag k] [hI : InfoC P el bytes] [hz : ZeroL P el zc]
    (hx : e.eval x = some (.slice a nn cc)) (hy : e.eval y = some (.slice A m cp)) (hH : HRow H a nn cc k css) (hfull : cc < nn + m) (hzk : Nat.beq zc.length k = true) (hk : Nat.blt 0 k = true) (hbytes : (nn + m) * bytes ≤ 140737488355328) (hlen : nn + m ≤ 9223372036854775807) (hn : Nat.blt d n = true)
    (kk : ∀ b cp', K ⟨n, (d, .slice (some ⟨b, 0, none⟩) (css ++ news).length cp') :: e, H, .row (.slice (some ⟨b, 0, none⟩) (css ++ news).length cp') k (css ++ news) :: M, L, D⟩) :
    Ef F P c ⟨some d, .call { callee := .builtin .append, args := #[x, y], argTypes := #[t, t] }, ty, pos, after, g⟩ ⟨n, e, H, .row (.slice A m cp) k news :: M, L, D⟩ K := Ef_of_run hF fun ac w hs => by
  have hsrc : RowOk w (.slice A m cp) k news := hs.holds.own (.row (.slice A m cp) k news) (by simp)
  have hmem := hs.holds.mem
  have hk' : 0 < k := Nat.le_of_ble_eq_true hk
  have hzk' := Nat.eq_of_beq_eq_true hzk
  obtain ⟨i, z, hi, hsz, hby, hzz, hzc⟩ := info_of (P := P) (t := el) (hT := hT) (hI := hI) (hz := hz)
  have hzs : z.cells.size = k := by rw [← hzk', ← hzc]; simp
  subst hby
  have hcap := hH.cap
  have hm1 : news.length = m ∧ (∀ cs ∈ news, cs.length = k) ∧ (A = none → m = 0) ∧ (∀ ad, A = some ad → ∀ j u, news.flatten[j]? = some u → w.cell? (ad.add j) = some u) := by
    rcases hsrc with ⟨h, hnn⟩ | ⟨b, cap, rest, T, h, hkk, hc, hb, hl⟩
    · cases h; subst hnn; exact ⟨rfl, by simp, fun _ => rfl, fun ad h => by cases h⟩
    · cases h
      refine ⟨rfl, hkk, (fun h => (by cases h)), fun ad had j u hj => ?_⟩
      cases had
      rw [Addr.add_lit]
      refine cell_of_heap hb ?_
      have hjl := (List.getElem?_eq_some_iff.1 hj).1
      simp only [Nat.zero_add, List.getElem?_toArray]
      rw [List.getElem?_append_left hjl]
      exact hj
  obtain ⟨hm1, hnk, hm3, hm4⟩ := hm1
  obtain ⟨ad, rfl⟩ : ∃ ad, A = some ad := by cases A with
    | none => have := hm3 rfl; omega
    | some ad => exact ⟨ad, rfl⟩
  have hkk : ∀ cs ∈ css, cs.length = k := fun cs hcs => by
    obtain ⟨j, hj⟩ := List.getElem?_of_mem hcs
    exact (hH.el j cs hj).1
  have hnl : news.flatten.length = m * i.size := by rw [flatten_length hnk, hm1, hsz]
  have hcl : css.flatten.length = nn * i.size := by rw [flatten_length hkk, hH.len, hsz]
  have hzero : ∀ q, (Builtin.zeroCells z.cells q).toList.length = q * k := fun q => by rw [Array.length_toList, size_zeroCells, hzs]
  have hall : ∀ cs ∈ css ++ news, cs.length = k := fun cs hcs => by
    rcases List.mem_append.1 hcs with h | h
    · exact hkk cs h
    · exact hnk cs h
  have hge := grownCap_ge w (nn + m) cc el
  have hrun : (Builtin.append_ #[t, t] ty #[.slice a nn cc, .slice (some ad) m cp]).run P w = .ok (.slice (some ⟨w.heap.size, 0, none⟩) (nn + m) (grownCap w (nn + m) cc el)) (w.drew.alloc (.cells ((css ++ news).flatten ++ (Builtin.zeroCells z.cells (grownCap w (nn + m) cc el - (nn + m))).toList).toArray el)) := by
    have ea : css.flatten.toArray ++ news.flatten.toArray ++ Builtin.zeroCells z.cells (grownCap w (nn + m) cc el - (nn + m)) = ((css ++ news).flatten ++ (Builtin.zeroCells z.cells (grownCap w (nn + m) cc el - (nn + m))).toList).toArray := by apply Array.ext'; simp
    cases a with
    | none =>
      obtain ⟨rfl, rfl⟩ := hH.nil rfl
      have hce : css = [] := List.eq_nil_of_length_eq_zero hH.len
      subst hce
      have hr := run_append_nil (P := P) w t ty el i z ht.und hi hzz ad m cp news.flatten hnl (hm4 ad rfl) (by omega) (by omega) (by rw [Nat.zero_add] at hbytes; omega)
      rw [hr]
      simp only [Nat.zero_add] at ea ⊢
      rw [← ea]
      simp
    | some a =>
      have hr := run_append_grow (P := P) w t ty el i z ht.und hi hzz a nn cc css.flatten hcl (fun j u hj => by
        obtain ⟨b, o, hA, hq⟩ := hH.flat j u hj
        cases hA
        rw [Addr.add_lit]
        exact (hmem _ _ _ hq).1) ad m cp news.flatten hnl (hm4 ad rfl) (by omega) (by omega) (growslice_fits (by omega) hbytes)
      rw [hr, ea]
  have hlen2 : (css ++ news).length = nn + m := by rw [List.length_append, hH.len, hm1]
  have hok : RowOk (w.drew.alloc (.cells ((css ++ news).flatten ++ (Builtin.zeroCells z.cells (grownCap w (nn + m) cc el - (nn + m))).toList).toArray el)) (.slice (some ⟨w.heap.size, 0, none⟩) (nn + m) (grownCap w (nn + m) cc el)) k (css ++ news) := by
    refine .inr ⟨w.heap.size, grownCap w (nn + m) cc el, (Builtin.zeroCells z.cells (grownCap w (nn + m) cc el - (nn + m))).toList, el, by rw [hlen2], hall, by rw [hlen2]; exact hge, heap_alloc_new w.drew _, ?_⟩
    rw [List.length_append, flatten_length hall, hlen2, hzero, ← Nat.add_mul]
    congr 1
    omega
  have hh : Holds c H ([.row (.slice (some ⟨w.heap.size, 0, none⟩) (nn + m) (grownCap w (nn + m) cc el)) k (css ++ news)] ++ (.row (.slice (some ad) m cp) k news :: M ++ L)) (w.drew.alloc (.cells ((css ++ news).flatten ++ (Builtin.zeroCells z.cells (grownCap w (nn + m) cc el - (nn + m))).toList).toArray el)) := by
    refine Holds.frameH (I := []) (R := .row (.slice (some ad) m cp) k news :: M ++ L) (by simpa using hs.holds) ((Moves.drew w _).trans (Moves.alloc w.drew _ _)) (Own.ok_one hok) (Own.sep_one _) fun b' hb' => ?_
    simp [Own.blocks, Res.blocks] at hb'
    exact .inl (by omega)
  have hkk' := kk w.heap.size (grownCap w (nn + m) cc el)
  rw [hlen2] at hkk'
  refine ⟨_, _, ?_, _, ok_put hs hn (M'' := .row (.slice (some ⟨w.heap.size, 0, none⟩) (nn + m) (grownCap w (nn + m) cc el)) k (css ++ news) :: M) (hh.sublist (by simp)), hkk'⟩
  rw [execOp_append hs.env hx hy, hrun]; rfl
end Go.Proofs.YtnoadopmeoohmaaGreatDoor
