/-
  Maps with numbers as keys, nothing ever deleted.
-/
import Derived.Test.YtofkolbnhcckkaaGreatE4
namespace Go.Proofs.YtofkolbnhcckkaaGreat
open Go
set_option linter.unusedVariables false
set_option linter.unusedSimpArgs false
def ients (i : Nat) : List (Int × Value) → List MapEntry
  | [] => []
  | p :: r => ⟨(.int .i64 p.1 : Value), p.2, i⟩ :: ients (i + 1) r
abbrev imobj (kvs : List (Int × Value)) : Obj := .map (ients 0 kvs).toArray kvs.length
def iget (z : Value) : List (Int × Value) → Int → Value
  | [], _ => z
  | p :: r, x => if p.1 = x then p.2 else iget z r x
def ihas (kvs : List (Int × Value)) (x : Int) : Prop := x ∈ kvs.map Prod.fst
instance (kvs : List (Int × Value)) (x : Int) : Decidable (ihas kvs x) := inferInstanceAs (Decidable (x ∈ kvs.map Prod.fst))
def iput : List (Int × Value) → Int → Value → List (Int × Value)
  | [], x, v => [(x, v)]
  | p :: r, x, v => if p.1 = x then (x, v) :: r else p :: iput r x v
theorem ients_length (i : Nat) (kvs : List (Int × Value)) : (ients i kvs).length = kvs.length := by
  induction kvs generalizing i with
  | nil => rfl
  | cons p r ih => simp [ients, ih]
theorem iv_eq {a b : Int} : (.int .i64 a : Value) = (.int .i64 b : Value) ↔ a = b := by
  constructor
  · intro h; simpa using h
  · rintro rfl; rfl
theorem ients_keys (i : Nat) : ∀ (kvs : List (Int × Value)), ∀ x ∈ ients i kvs, MapKept.IsKey (.int .i64) x.key
  | [], x, hx => by cases hx
  | p :: r, x, hx => by
    rcases List.mem_cons.1 hx with rfl | hx
    · simp [MapKept.IsKey]
    · exact ients_keys (i + 1) r x hx
theorem ihas_nil {x : Int} : ¬ ihas [] x := by simp [ihas]
theorem ihas_put {kvs : List (Int × Value)} {x y : Int} {v : Value} : ihas (iput kvs x v) y ↔ ihas kvs y ∨ y = x := by
  unfold ihas
  induction kvs with
  | nil => simp [iput]
  | cons p r ih =>
    unfold iput
    split
    · rename_i h
      simp only [List.map_cons, List.mem_cons]
      rw [h]
      constructor
      · rintro (h | h)
        · exact .inr h
        · exact .inl (.inr h)
      · rintro ((h | h) | h)
        · exact .inl h
        · exact .inr h
        · exact .inl h
    · simp only [List.map_cons, List.mem_cons, ih, or_assoc]
theorem iget_put {z : Value} {kvs : List (Int × Value)} {x y : Int} {v : Value} : iget z (iput kvs x v) y = if y = x then v else iget z kvs y := by
  induction kvs with
  | nil =>
    simp only [iput, iget]
    by_cases h : y = x
    · rw [if_pos h, if_pos h.symm]
    · rw [if_neg h, if_neg (Ne.symm h)]
  | cons p r ih =>
    unfold iput
    split
    · rename_i h
      simp only [iget]
      by_cases hy : y = x
      · rw [if_pos hy, if_pos hy.symm]
      · rw [if_neg hy, if_neg (Ne.symm hy), if_neg (by rw [h]; exact Ne.symm hy)]
    · rename_i h
      simp only [iget, ih]
      by_cases hp : p.1 = y
      · rw [if_pos hp, if_neg (by rw [← hp]; exact h)]
        rw [if_pos hp]
      · rw [if_neg hp]
        by_cases hy : y = x
        · rw [if_pos hy, if_pos hy]
        · rw [if_neg hy, if_neg hy, if_neg hp]
theorem iget_no {z : Value} {kvs : List (Int × Value)} {x : Int} (h : ¬ ihas kvs x) : iget z kvs x = z := by
  unfold ihas at h
  induction kvs with
  | nil => rfl
  | cons p r ih =>
    simp only [List.map_cons, List.mem_cons, not_or] at h
    rw [iget, if_neg (Ne.symm h.1), ih h.2]
/-- where a key is found: its value, and what the map is once the key is written again -/
theorem findNow_i (x : Int) (z v : Value) : ∀ (kvs : List (Int × Value)) (i j : Nat), (Instr.findNow (.int .i64) ((.int .i64 x : Value)) (ients i kvs) j = some none ∧ ¬ ihas kvs x ∧ ients i (iput kvs x v) = ients i kvs ++ [⟨(.int .i64 x : Value), v, i + kvs.length⟩] ∧ (iput kvs x v).length = kvs.length + 1) ∨
    ∃ q o, Instr.findNow (.int .i64) ((.int .i64 x : Value)) (ients i kvs) j = some (some (j + q, iget z kvs x)) ∧ ihas kvs x ∧ (ients i kvs)[q]? = some o ∧ o.key = (.int .i64 x : Value) ∧ (ients i kvs).modify q (fun e => { e with key := (.int .i64 x : Value), val := v }) = ients i (iput kvs x v) ∧ (iput kvs x v).length = kvs.length
  | [], i, j => .inl ⟨rfl, ihas_nil, by simp [ients, iput], rfl⟩
  | p :: r, i, j => by
    by_cases h : p.1 = x
    · refine .inr ⟨0, ⟨(.int .i64 p.1 : Value), p.2, i⟩, ?_, by simp [ihas, h], rfl, by rw [h], ?_, ?_⟩
      · have hb : Instr.sameNow (.int .i64) ((.int .i64 x : Value)) ((.int .i64 p.1 : Value)) = some true := by
          obtain ⟨r, hr, hi⟩ := MapKept.sameNow_of_keys (d := (.int .i64)) (a := (.int .i64 x : Value)) (b := (.int .i64 p.1 : Value)) (by simp [MapKept.IsKey]) (by simp [MapKept.IsKey])
          rw [hr, hi.2 (by rw [h])]
        simp only [ients, Instr.findNow, hb, iget, if_pos h, Nat.add_zero]
      · simp [ients, iput, if_pos h]
      · simp [iput, if_pos h]
    · have hb : Instr.sameNow (.int .i64) ((.int .i64 x : Value)) ((.int .i64 p.1 : Value)) = some false := by
        obtain ⟨r, hr, hi⟩ := MapKept.sameNow_of_keys (d := (.int .i64)) (a := (.int .i64 x : Value)) (b := (.int .i64 p.1 : Value)) (by simp [MapKept.IsKey]) (by simp [MapKept.IsKey])
        cases r with
        | false => exact hr
        | true => exact absurd (iv_eq.1 (hi.1 rfl)).symm h
      rcases findNow_i x z v r (i + 1) (j + 1) with ⟨h1, h2, h3, h4⟩ | ⟨q, o, h1, h2, h3, h4, h5, h6⟩
      · refine .inl ⟨?_, ?_, ?_, ?_⟩
        · simp only [ients, Instr.findNow, hb, h1]
        · unfold ihas at h2 ⊢
          simp only [List.map_cons, List.mem_cons, not_or]
          exact ⟨Ne.symm h, h2⟩
        · simp only [iput, if_neg h, ients, h3, List.cons_append, List.length_cons]
          rw [show i + 1 + r.length = i + (r.length + 1) by omega]
        · simp only [iput, if_neg h, List.length_cons, h4]
      · refine .inr ⟨q + 1, o, ?_, ?_, ?_, h4, ?_, ?_⟩
        · simp only [ients, Instr.findNow, hb, h1, iget, if_neg h]
          rw [show j + 1 + q = j + (q + 1) by omega]
        · unfold ihas at h2 ⊢
          simp only [List.map_cons, List.mem_cons]
          exact .inr h2
        · simpa [ients] using h3
        · simp only [ients, iput, if_neg h, List.modify_succ_cons, h5]
        · simp only [iput, if_neg h, List.length_cons, h6]
section
variable {P : Program} {e : Env} {H : Hp} {R : Own} {dst : Option Tmp} {ty : TypeId} {pos : String} {after : Array Edge} {g : Option (Nat × Bool)} {x y z : Operand} {t t2 b : Nat} {v : Value}
theorem run_checkKey_j {kt : TypeId} (hk : P.underlying kt = some (.int .i64)) (em : Bool) (l : Int) (w : World) : (Instr.checkKey em 10000 kt ((.int .i64 l : Value))).run P w = .ok () w :=
  MapKept.run_checkKey (d := (.int .i64)) hk (by simp [MapKept.IsKey]) em 9999
theorem Ev_lookupJ {kt et : TypeId} {kvs : List (Int × Value)} {q : Int} {zv : Value} {i : Nat} [ht : UndC P t (.map kt et)] [hk : UndC P kt (.int .i64)] (hzv : ∀ w, (zeroValue et).run P w = .ok zv w) (hx : e.eval x = some (.map (some b))) (hy : e.eval y = some ((.int .i64 q : Value))) (hR : oget R i = some (.obj b (imobj kvs))) :
    Ev P ⟨dst, .lookup t x y false, ty, pos, after, g⟩ e H R (iget zv kvs q) := fun a w he _ hr => by
  have hb : w.heap[b]? = some (imobj kvs) := hr _ (oget_mem hR)
  have h1 := MapKept.run_getObj_map (P := P) hb
  have h2 := fun em => run_checkKey_j (P := P) hk.und em q w
  rcases findNow_i q zv zv kvs 0 0 with ⟨h3, h4, _⟩ | ⟨j, o, h3, h4, _⟩
  · simp [execOp, he.eval hx, he.eval hy, Instr.lookup, ht.run, h1, h2, Instr.findKey, hk.run, h3, hzv, iget_no h4]
  · simp [execOp, he.eval hx, he.eval hy, Instr.lookup, ht.run, h1, h2, Instr.findKey, hk.run, h3]
theorem Ev_lookupJok {kt et : TypeId} {kvs : List (Int × Value)} {q : Int} {zv : Value} {i : Nat} [ht : UndC P t (.map kt et)] [hk : UndC P kt (.int .i64)] (hzv : ∀ w, (zeroValue et).run P w = .ok zv w) (hx : e.eval x = some (.map (some b))) (hy : e.eval y = some ((.int .i64 q : Value))) (hR : oget R i = some (.obj b (imobj kvs))) :
    Ev P ⟨dst, .lookup t x y true, ty, pos, after, g⟩ e H R (.tuple [iget zv kvs q, .bool (decide (ihas kvs q))].toArray) := fun a w he _ hr => by
  have hb : w.heap[b]? = some (imobj kvs) := hr _ (oget_mem hR)
  have h1 := MapKept.run_getObj_map (P := P) hb
  have h2 := fun em => run_checkKey_j (P := P) hk.und em q w
  rcases findNow_i q zv zv kvs 0 0 with ⟨h3, h4, _⟩ | ⟨j, o, h3, h4, _⟩
  · simp [execOp, he.eval hx, he.eval hy, Instr.lookup, ht.run, h1, h2, Instr.findKey, hk.run, h3, hzv, iget_no h4, decide_eq_false h4]
  · simp [execOp, he.eval hx, he.eval hy, Instr.lookup, ht.run, h1, h2, Instr.findKey, hk.run, h3, decide_eq_true h4]
end
section
variable {F : Fence} {P : Program} {c : Ctx} {K : SP} {n : Nat} {e : Env} {H : Hp} {M L : Own} {D : List Deferred} {x y z : Operand} {d : Tmp} {ty t t2 : TypeId} {pos : String} {after : Array Edge} {g : Option (Nat × Bool)} {v : Value} {b : Nat}
theorem Ef_makeMapJ (hF : WideF F) (hn : Nat.blt d n = true) (k : ∀ b, K ⟨n, (d, .map (some b)) :: e, H, .obj b (imobj []) :: M, L, D⟩) :
    Ef F P c ⟨some d, .makeMap t none, ty, pos, after, g⟩ ⟨n, e, H, M, L, D⟩ K := Ef_makeMap hF hn k
/-- m[k] = v -/
theorem Ef_mapPutJ (hF : WideF F) {kt et : TypeId} {kvs : List (Int × Value)} {q : Int} [ht : UndC P t (.map kt et)] [hk : UndC P kt (.int .i64)] (hx : e.eval x = some (.map (some b))) (hy : e.eval y = some ((.int .i64 q : Value))) (hz : e.eval z = some v)
    (k : K ⟨n, e, H, .obj b (imobj (iput kvs q v)) :: M, L, D⟩) :
    Ef F P c ⟨none, .mapUpdate t x y z, ty, pos, after, g⟩ ⟨n, e, H, .obj b (imobj kvs) :: M, L, D⟩ K := Ef_of_skip hF (by simp) fun a w hs => by
  have hb : w.heap[b]? = some (imobj kvs) := hs.holds.own (.obj b (imobj kvs)) (by simp)
  have h1 := MapKept.run_getObj_map (P := P) hb
  have h2 := run_checkKey_j (P := P) hk.und false q w
  have h6 := MapKept.run_setObj_map (P := P) (imobj (iput kvs q v)) hb
  refine ⟨w.putObj b (imobj (iput kvs q v)), ?_, ⟨n, e, H, .obj b (imobj (iput kvs q v)) :: M, L, D⟩, ⟨hs.defers, hs.size, hs.env, hs.holds.putObj _⟩, k⟩
  rcases findNow_i q v v kvs 0 0 with ⟨h3, h4, h5, h7⟩ | ⟨j, o, h3, h4, h5, h7, h8, h9⟩
  · have e7 : imobj (iput kvs q v) = .map ((ients 0 kvs).toArray.push ⟨(.int .i64 q : Value), v, kvs.length⟩) (kvs.length + 1) := by
      simp [imobj, h5, h7]
    have e9 : (setObj b (.map ((ients 0 kvs).toArray.push ⟨(.int .i64 q : Value), v, kvs.length⟩) (kvs.length + 1))).run P w = .ok () (w.putObj b (imobj (iput kvs q v))) := by rw [← e7]; exact h6
    simp only [execOp, hs.env.eval hx, hs.env.eval hy, hs.env.eval hz, Instr.mapUpdate, ht.run, h1, h2, Instr.findKey, hk.run, h3, Sem.run_bind, Sem.run_pure, Result.andThen_ok, e9]
  · have e7 : imobj (iput kvs q v) = .map ((ients 0 kvs).toArray.modify j fun e => { e with key := (.int .i64 q : Value), val := v }) kvs.length := by
      simp [imobj, h9, ← h8]
    have e9 : (setObj b (.map ((ients 0 kvs).toArray.modify j fun e => { e with key := (.int .i64 q : Value), val := v }) kvs.length)).run P w = .ok () (w.putObj b (imobj (iput kvs q v))) := by rw [← e7]; exact h6
    have hst : (Instr.keyThatStays (((ients 0 kvs).toArray[j]?.map (·.key)).getD ((.int .i64 q : Value))) ((.int .i64 q : Value))).run P w = .ok ((.int .i64 q : Value)) w := by
      have : (((ients 0 kvs).toArray[j]?.map (·.key)).getD ((.int .i64 q : Value))) = (.int .i64 q : Value) := by
        simp [h5, h7]
      rw [this]
      have hsb : Instr.sameBits 10000 (.int .i64 q) (.int .i64 q) = true := by simp [Instr.sameBits]
      simp [Instr.keyThatStays, hsb]
    simp only [Nat.zero_add] at h3
    simp only [execOp, hs.env.eval hx, hs.env.eval hy, hs.env.eval hz, Instr.mapUpdate, ht.run, h1, h2, Instr.findKey, hk.run, h3, Sem.run_bind, Sem.run_pure, Result.andThen_ok, hst, e9]
end
theorem num_ients : ∀ (kvs : List (Int × Value)) (k i : Nat) (o : MapEntry), (ients k kvs)[i]? = some o → o.born = k + i ∧ ∃ p, kvs[i]? = some p ∧ o.key = (.int .i64 p.1 : Value) ∧ o.val = p.2
  | [], k, i, o, h => by simp [ients] at h
  | p :: r, k, 0, o, h => by simp [ients] at h; subst h; exact ⟨rfl, p, rfl, rfl, rfl⟩
  | p :: r, k, i + 1, o, h => by
    obtain ⟨h1, h2⟩ := num_ients r (k + 1) i o (by simpa [ients] using h)
    exact ⟨by omega, by simpa using h2⟩
theorem Num.ients (kvs : List (Int × Value)) : Num (ients 0 kvs) := fun i o h => by have := (num_ients kvs 0 i o h).1; omega
theorem imobj_emap (kvs : List (Int × Value)) : imobj kvs = emap (ients 0 kvs) := by unfold imobj emap; rw [ients_length]
end Go.Proofs.YtofkolbnhcckkaaGreat
