/-
  Maps with strings as keys, nothing ever deleted.
-/
import Derived.Test.YtnoadopmeoohmaaGreatDoorE1
namespace Go.Proofs.YtnoadopmeoohmaaGreatDoor
open Go
set_option linter.unusedVariables false
set_option linter.unusedSimpArgs false
def sents (i : Nat) : List (List UInt8 × Value) → List MapEntry
  | [] => []
  | p :: r => ⟨sv p.1, p.2, i⟩ :: sents (i + 1) r
abbrev smobj (kvs : List (List UInt8 × Value)) : Obj := .map (sents 0 kvs).toArray kvs.length
def sget (z : Value) : List (List UInt8 × Value) → List UInt8 → Value
  | [], _ => z
  | p :: r, x => if p.1 = x then p.2 else sget z r x
def shas (kvs : List (List UInt8 × Value)) (x : List UInt8) : Prop := x ∈ kvs.map Prod.fst
instance (kvs : List (List UInt8 × Value)) (x : List UInt8) : Decidable (shas kvs x) := inferInstanceAs (Decidable (x ∈ kvs.map Prod.fst))
def sput : List (List UInt8 × Value) → List UInt8 → Value → List (List UInt8 × Value)
  | [], x, v => [(x, v)]
  | p :: r, x, v => if p.1 = x then (x, v) :: r else p :: sput r x v
theorem sents_length (i : Nat) (kvs : List (List UInt8 × Value)) : (sents i kvs).length = kvs.length := by
  induction kvs generalizing i with
  | nil => rfl
  | cons p r ih => simp [sents, ih]
theorem sv_eq {a b : List UInt8} : sv a = sv b ↔ a = b := by
  constructor
  · intro h; simpa [sv] using h
  · rintro rfl; rfl
theorem sents_keys (i : Nat) : ∀ (kvs : List (List UInt8 × Value)), ∀ x ∈ sents i kvs, MapKept.IsKey .string x.key
  | [], x, hx => by cases hx
  | p :: r, x, hx => by
    rcases List.mem_cons.1 hx with rfl | hx
    · simp [MapKept.IsKey, sv]
    · exact sents_keys (i + 1) r x hx
theorem shas_nil {x : List UInt8} : ¬ shas [] x := by simp [shas]
theorem shas_put {kvs : List (List UInt8 × Value)} {x y : List UInt8} {v : Value} : shas (sput kvs x v) y ↔ shas kvs y ∨ y = x := by
  unfold shas
  induction kvs with
  | nil => simp [sput]
  | cons p r ih =>
    unfold sput
    split
    · rename_i h
      simp only [List.map_cons, List.mem_cons]
      rw [h]
      constructor
      · rintro (h | h)
        · exact .inr h
        · exact .inl (.inr h)
      · rintro ((h | h) | h)
        · exact .inl h
        · exact .inr h
        · exact .inl h
    · simp only [List.map_cons, List.mem_cons, ih, or_assoc]
theorem sget_put {z : Value} {kvs : List (List UInt8 × Value)} {x y : List UInt8} {v : Value} : sget z (sput kvs x v) y = if y = x then v else sget z kvs y := by
  induction kvs with
  | nil =>
    simp only [sput, sget]
    by_cases h : y = x
    · rw [if_pos h, if_pos h.symm]
    · rw [if_neg h, if_neg (Ne.symm h)]
  | cons p r ih =>
    unfold sput
    split
    · rename_i h
      simp only [sget]
      by_cases hy : y = x
      · rw [if_pos hy, if_pos hy.symm]
      · rw [if_neg hy, if_neg (Ne.symm hy), if_neg (by rw [h]; exact Ne.symm hy)]
    · rename_i h
      simp only [sget, ih]
      by_cases hp : p.1 = y
      · rw [if_pos hp, if_neg (by rw [← hp]; exact h)]
        rw [if_pos hp]
      · rw [if_neg hp]
        by_cases hy : y = x
        · rw [if_pos hy, if_pos hy]
        · rw [if_neg hy, if_neg hy, if_neg hp]
theorem sget_no {z : Value} {kvs : List (List UInt8 × Value)} {x : List UInt8} (h : ¬ shas kvs x) : sget z kvs x = z := by
  unfold shas at h
  induction kvs with
  | nil => rfl
  | cons p r ih =>
    simp only [List.map_cons, List.mem_cons, not_or] at h
    rw [sget, if_neg (Ne.symm h.1), ih h.2]
/-- where a key is found: its value, and what the map is once the key is written again -/
theorem findNow_s (x : List UInt8) (z v : Value) : ∀ (kvs : List (List UInt8 × Value)) (i j : Nat), (Instr.findNow .string (sv x) (sents i kvs) j = some none ∧ ¬ shas kvs x ∧ sents i (sput kvs x v) = sents i kvs ++ [⟨sv x, v, i + kvs.length⟩] ∧ (sput kvs x v).length = kvs.length + 1) ∨
    ∃ q o, Instr.findNow .string (sv x) (sents i kvs) j = some (some (j + q, sget z kvs x)) ∧ shas kvs x ∧ (sents i kvs)[q]? = some o ∧ o.key = sv x ∧ (sents i kvs).modify q (fun e => { e with key := sv x, val := v }) = sents i (sput kvs x v) ∧ (sput kvs x v).length = kvs.length
  | [], i, j => .inl ⟨rfl, shas_nil, by simp [sents, sput], rfl⟩
  | p :: r, i, j => by
    by_cases h : p.1 = x
    · refine .inr ⟨0, ⟨sv p.1, p.2, i⟩, ?_, by simp [shas, h], rfl, by rw [h], ?_, ?_⟩
      · have hb : Instr.sameNow .string (sv x) (sv p.1) = some true := by
          obtain ⟨r, hr, hi⟩ := MapKept.sameNow_of_keys (d := .string) (a := sv x) (b := sv p.1) (by simp [MapKept.IsKey, sv]) (by simp [MapKept.IsKey, sv])
          rw [hr, hi.2 (by rw [h])]
        simp only [sents, Instr.findNow, hb, sget, if_pos h, Nat.add_zero]
      · simp [sents, sput, if_pos h]
      · simp [sput, if_pos h]
    · have hb : Instr.sameNow .string (sv x) (sv p.1) = some false := by
        obtain ⟨r, hr, hi⟩ := MapKept.sameNow_of_keys (d := .string) (a := sv x) (b := sv p.1) (by simp [MapKept.IsKey, sv]) (by simp [MapKept.IsKey, sv])
        cases r with
        | false => exact hr
        | true => exact absurd (sv_eq.1 (hi.1 rfl)).symm h
      rcases findNow_s x z v r (i + 1) (j + 1) with ⟨h1, h2, h3, h4⟩ | ⟨q, o, h1, h2, h3, h4, h5, h6⟩
      · refine .inl ⟨?_, ?_, ?_, ?_⟩
        · simp only [sents, Instr.findNow, hb, h1]
        · unfold shas at h2 ⊢
          simp only [List.map_cons, List.mem_cons, not_or]
          exact ⟨Ne.symm h, h2⟩
        · simp only [sput, if_neg h, sents, h3, List.cons_append, List.length_cons]
          rw [show i + 1 + r.length = i + (r.length + 1) by omega]
        · simp only [sput, if_neg h, List.length_cons, h4]
      · refine .inr ⟨q + 1, o, ?_, ?_, ?_, h4, ?_, ?_⟩
        · simp only [sents, Instr.findNow, hb, h1, sget, if_neg h]
          rw [show j + 1 + q = j + (q + 1) by omega]
        · unfold shas at h2 ⊢
          simp only [List.map_cons, List.mem_cons]
          exact .inr h2
        · simpa [sents] using h3
        · simp only [sents, sput, if_neg h, List.modify_succ_cons, h5]
        · simp only [sput, if_neg h, List.length_cons, h6]
section
variable {P : Program} {e : Env} {H : Hp} {R : Own} {dst : Option Tmp} {ty : TypeId} {pos : String} {after : Array Edge} {g : Option (Nat × Bool)} {x y z : Operand} {t t2 b : Nat} {v : Value}
theorem run_checkKey_str {kt : TypeId} (hk : P.underlying kt = some .string) (em : Bool) (l : List UInt8) (w : World) : (Instr.checkKey em 10000 kt (sv l)).run P w = .ok () w :=
  MapKept.run_checkKey (d := .string) hk (by simp [MapKept.IsKey, sv]) em 9999
theorem Ev_lookupT {kt et : TypeId} {kvs : List (List UInt8 × Value)} {q : List UInt8} {zv : Value} {i : Nat} [ht : UndC P t (.map kt et)] [hk : UndC P kt .string] (hzv : ∀ w, (zeroValue et).run P w = .ok zv w) (hx : e.eval x = some (.map (some b))) (hy : e.eval y = some (sv q)) (hR : oget R i = some (.obj b (smobj kvs))) :
    Ev P ⟨dst, .lookup t x y false, ty, pos, after, g⟩ e H R (sget zv kvs q) := fun a w he _ hr => by
  have hb : w.heap[b]? = some (smobj kvs) := hr _ (oget_mem hR)
  have h1 := MapKept.run_getObj_map (P := P) hb
  have h2 := fun em => run_checkKey_str (P := P) hk.und em q w
  rcases findNow_s q zv zv kvs 0 0 with ⟨h3, h4, _⟩ | ⟨j, o, h3, h4, _⟩
  · simp [execOp, he.eval hx, he.eval hy, Instr.lookup, ht.run, h1, h2, Instr.findKey, hk.run, h3, hzv, sget_no h4]
  · simp [execOp, he.eval hx, he.eval hy, Instr.lookup, ht.run, h1, h2, Instr.findKey, hk.run, h3]
theorem Ev_lookupTok {kt et : TypeId} {kvs : List (List UInt8 × Value)} {q : List UInt8} {zv : Value} {i : Nat} [ht : UndC P t (.map kt et)] [hk : UndC P kt .string] (hzv : ∀ w, (zeroValue et).run P w = .ok zv w) (hx : e.eval x = some (.map (some b))) (hy : e.eval y = some (sv q)) (hR : oget R i = some (.obj b (smobj kvs))) :
    Ev P ⟨dst, .lookup t x y true, ty, pos, after, g⟩ e H R (.tuple [sget zv kvs q, .bool (decide (shas kvs q))].toArray) := fun a w he _ hr => by
  have hb : w.heap[b]? = some (smobj kvs) := hr _ (oget_mem hR)
  have h1 := MapKept.run_getObj_map (P := P) hb
  have h2 := fun em => run_checkKey_str (P := P) hk.und em q w
  rcases findNow_s q zv zv kvs 0 0 with ⟨h3, h4, _⟩ | ⟨j, o, h3, h4, _⟩
  · simp [execOp, he.eval hx, he.eval hy, Instr.lookup, ht.run, h1, h2, Instr.findKey, hk.run, h3, hzv, sget_no h4, decide_eq_false h4]
  · simp [execOp, he.eval hx, he.eval hy, Instr.lookup, ht.run, h1, h2, Instr.findKey, hk.run, h3, decide_eq_true h4]
end
section
variable {F : Fence} {P : Program} {c : Ctx} {K : SP} {n : Nat} {e : Env} {H : Hp} {M L : Own} {D : List Deferred} {x y z : Operand} {d : Tmp} {ty t t2 : TypeId} {pos : String} {after : Array Edge} {g : Option (Nat × Bool)} {v : Value} {b : Nat}
theorem Ef_makeMapT (hF : WideF F) (hn : Nat.blt d n = true) (k : ∀ b, K ⟨n, (d, .map (some b)) :: e, H, .obj b (smobj []) :: M, L, D⟩) :
    Ef F P c ⟨some d, .makeMap t none, ty, pos, after, g⟩ ⟨n, e, H, M, L, D⟩ K := Ef_makeMap hF hn k
/-- m[k] = v -/
theorem Ef_mapPutT (hF : WideF F) {kt et : TypeId} {kvs : List (List UInt8 × Value)} {q : List UInt8} [ht : UndC P t (.map kt et)] [hk : UndC P kt .string] (hx : e.eval x = some (.map (some b))) (hy : e.eval y = some (sv q)) (hz : e.eval z = some v)
    (k : K ⟨n, e, H, .obj b (smobj (sput kvs q v)) :: M, L, D⟩) :
    Ef F P c ⟨none, .mapUpdate t x y z, ty, pos, after, g⟩ ⟨n, e, H, .obj b (smobj kvs) :: M, L, D⟩ K := Ef_of_skip hF (by simp) fun a w hs => by
  have hb : w.heap[b]? = some (smobj kvs) := hs.holds.own (.obj b (smobj kvs)) (by simp)
  have h1 := MapKept.run_getObj_map (P := P) hb
  have h2 := run_checkKey_str (P := P) hk.und false q w
  have h6 := MapKept.run_setObj_map (P := P) (smobj (sput kvs q v)) hb
  refine ⟨w.putObj b (smobj (sput kvs q v)), ?_, ⟨n, e, H, .obj b (smobj (sput kvs q v)) :: M, L, D⟩, ⟨hs.defers, hs.size, hs.env, hs.holds.putObj _⟩, k⟩
  rcases findNow_s q v v kvs 0 0 with ⟨h3, h4, h5, h7⟩ | ⟨j, o, h3, h4, h5, h7, h8, h9⟩
  · have e7 : smobj (sput kvs q v) = .map ((sents 0 kvs).toArray.push ⟨sv q, v, kvs.length⟩) (kvs.length + 1) := by
      simp [smobj, h5, h7]
    have e9 : (setObj b (.map ((sents 0 kvs).toArray.push ⟨sv q, v, kvs.length⟩) (kvs.length + 1))).run P w = .ok () (w.putObj b (smobj (sput kvs q v))) := by rw [← e7]; exact h6
    simp only [execOp, hs.env.eval hx, hs.env.eval hy, hs.env.eval hz, Instr.mapUpdate, ht.run, h1, h2, Instr.findKey, hk.run, h3, Sem.run_bind, Sem.run_pure, Result.andThen_ok, e9]
  · have e7 : smobj (sput kvs q v) = .map ((sents 0 kvs).toArray.modify j fun e => { e with key := sv q, val := v }) kvs.length := by
      simp [smobj, h9, ← h8]
    have e9 : (setObj b (.map ((sents 0 kvs).toArray.modify j fun e => { e with key := sv q, val := v }) kvs.length)).run P w = .ok () (w.putObj b (smobj (sput kvs q v))) := by rw [← e7]; exact h6
    have hst : (Instr.keyThatStays (((sents 0 kvs).toArray[j]?.map (·.key)).getD (sv q)) (sv q)).run P w = .ok (sv q) w := by
      have : (((sents 0 kvs).toArray[j]?.map (·.key)).getD (sv q)) = sv q := by
        simp [h5, h7]
      rw [this]
      have hsb : Instr.sameBits 10000 (sv q) (sv q) = true := by
        show ((⟨q.toArray⟩ : ByteArray) == ⟨q.toArray⟩) = true
        exact (MapKept.bytes_beq _ _).2 rfl
      simp [Instr.keyThatStays, hsb]
    simp only [Nat.zero_add] at h3
    simp only [execOp, hs.env.eval hx, hs.env.eval hy, hs.env.eval hz, Instr.mapUpdate, ht.run, h1, h2, Instr.findKey, hk.run, h3, Sem.run_bind, Sem.run_pure, Result.andThen_ok, hst, e9]
end
end Go.Proofs.YtnoadopmeoohmaaGreatDoor
