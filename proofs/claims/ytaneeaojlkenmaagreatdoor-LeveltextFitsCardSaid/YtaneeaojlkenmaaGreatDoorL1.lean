/-
  Templates of labels as data: parts, reading, writing (plain Lean).
-/
import Derived.Test.YtaneeaojlkenmaaGreatDoorC1
import Derived.Test.YtaneeaojlkenmaaGreatDoorE3
namespace Go.Proofs.YtaneeaojlkenmaaGreatDoor
open Go
set_option linter.unusedVariables false
set_option linter.unusedSimpArgs false
structure Pt where
  lit : List UInt8
  lev : Int
  plain : Bool
deriving DecidableEq
def prow (p : Pt) : List Value := [sv p.lit, .int .i64 p.lev, .bool p.plain]
theorem prow_one (l : List Pt) : ∀ cs ∈ l.map prow, ∀ u ∈ cs, u.oneCell' = true := by
  intro cs hcs u hu
  obtain ⟨p, _, rfl⟩ := List.mem_map.1 hcs
  simp only [prow, List.mem_cons, List.not_mem_nil, or_false] at hu
  rcases hu with rfl | rfl | rfl <;> rfl
/-- a digit from 1 to 9 -/
def dig (b : UInt8) : Prop := 49 ≤ b.toNat ∧ b.toNat ≤ 57
instance (b : UInt8) : Decidable (dig b) := inferInstanceAs (Decidable (_ ∧ _))
def dlev (b : UInt8) : Int := (b.toNat : Int) - 48
def fls (acc : List Pt) (lit : List UInt8) : List Pt := if lit = [] then acc else acc ++ [⟨lit, 0, false⟩]
/-- what stands behind a percent sign: how many bytes are read, and what they are -/
inductive Pc where
  | bad
  | sign
  | place (p : Pt) (n : Nat)
def pct : List UInt8 → Pc
  | [] => .bad
  | c :: r => if c = 37 then .sign else if dig c then .place ⟨[], dlev c, false⟩ 1 else if c = 100 then (match r with | [] => .bad | d :: _ => if dig d then .place ⟨[], dlev d, true⟩ 2 else .bad) else .bad
def scn : Nat → List UInt8 → List UInt8 → List Pt → Option (List Pt)
  | _, [], lit, acc => some (fls acc lit)
  | 0, _, _, _ => none
  | k + 1, b :: r, lit, acc =>
    if b = 37 then
      match pct r with
      | .bad => none
      | .sign => scn k (r.drop 1) (lit ++ [37]) acc
      | .place p n => scn k (r.drop n) [] (fls acc lit ++ [p])
    else scn k r (lit ++ [b]) acc
def places (l : List Pt) : Nat := (l.filter fun p => decide (p.lev ≠ 0)).length
def control (s : List UInt8) : Prop := ∃ b ∈ s, b.toNat < 32 ∨ b.toNat = 127
instance (s : List UInt8) : Decidable (control s) := inferInstanceAs (Decidable (∃ b ∈ s, _))
/-- Parse -/
def tplE (s : List UInt8) : List Pt × Int :=
  if 64 < s.length then ([], 10) else if ¬ valid s then ([], 12) else if control s then ([], 5) else
  match scn s.length s [] [] with
  | none => ([], 14)
  | some l => if 9 < places l then ([], 9) else (l, 0)
theorem dlev_bnd {b : UInt8} (h : dig b) : 1 ≤ dlev b ∧ dlev b ≤ 9 := by unfold dig at h; unfold dlev; omega
theorem places_append (l m : List Pt) : places (l ++ m) = places l + places m := by unfold places; rw [List.filter_append, List.length_append]
theorem places_fls (acc : List Pt) (lit : List UInt8) : places (fls acc lit) = places acc := by
  unfold fls
  split
  · rfl
  · rw [places_append]; rfl
theorem scn_fuel : ∀ (k k' : Nat) (s lit : List UInt8) (acc : List Pt), s.length ≤ k → s.length ≤ k' → scn k s lit acc = scn k' s lit acc
  | _, _, [], _, _, _, _ => by unfold scn; rfl
  | 0, _, _ :: _, _, _, h, _ => by simp at h
  | _ + 1, 0, _ :: _, _, _, _, h => by simp at h
  | k + 1, k' + 1, b :: r, lit, acc, h, h' => by
    simp only [List.length_cons] at h h'
    have ih := fun n lit acc => scn_fuel k k' (r.drop n) lit acc (by rw [List.length_drop]; omega) (by rw [List.length_drop]; omega)
    unfold scn
    split
    · cases hp : pct r with
      | bad => rfl
      | sign => exact ih 1 _ _
      | place p n => exact ih n _ _
    · exact ih 0 _ _
def scnS (s lit : List UInt8) (acc : List Pt) : Option (List Pt) := scn s.length s lit acc
theorem scnS_nil (lit : List UInt8) (acc : List Pt) : scnS [] lit acc = some (fls acc lit) := rfl
theorem scnS_lit {b : UInt8} {r lit : List UInt8} {acc : List Pt} (h : b ≠ 37) : scnS (b :: r) lit acc = scnS r (lit ++ [b]) acc := by
  unfold scnS
  rw [List.length_cons, scn, if_neg h]
theorem scnS_bad {r lit : List UInt8} {acc : List Pt} (h : pct r = .bad) : scnS (37 :: r) lit acc = none := by
  unfold scnS
  rw [List.length_cons, scn, if_pos rfl, h]
theorem scnS_sign {r lit : List UInt8} {acc : List Pt} (h : pct r = .sign) : scnS (37 :: r) lit acc = scnS (r.drop 1) (lit ++ [37]) acc := by
  unfold scnS
  rw [List.length_cons, scn, if_pos rfl, h]
  exact scn_fuel _ _ _ _ _ (by rw [List.length_drop]; omega) (Nat.le_refl _)
theorem scnS_place {r lit : List UInt8} {acc : List Pt} {p : Pt} {n : Nat} (h : pct r = .place p n) : scnS (37 :: r) lit acc = scnS (r.drop n) [] (fls acc lit ++ [p]) := by
  unfold scnS
  rw [List.length_cons, scn, if_pos rfl, h]
  exact scn_fuel _ _ _ _ _ (by rw [List.length_drop]; omega) (Nat.le_refl _)
theorem tplE_def (s : List UInt8) : tplE s = if 64 < s.length then (([] : List Pt), (10 : Int)) else if ¬ valid s then ([], 12) else if control s then ([], 5) else
  match scnS s [] [] with
  | none => ([], 14)
  | some l => if 9 < places l then ([], 9) else (l, 0) := rfl
theorem pct_cons (c : UInt8) (r : List UInt8) : pct (c :: r) = if c = 37 then .sign else if dig c then .place ⟨[], dlev c, false⟩ 1 else if c = 100 then (match r with | [] => .bad | d :: _ => if dig d then .place ⟨[], dlev d, true⟩ 2 else .bad) else .bad := rfl
theorem pct_place {r : List UInt8} {p : Pt} {n : Nat} (h : pct r = .place p n) : n ≤ r.length ∧ 1 ≤ n ∧ n ≤ 2 ∧ p.lit = [] ∧ 1 ≤ p.lev ∧ p.lev ≤ 9 := by
  cases r with
  | nil => cases h
  | cons c r =>
    rw [pct_cons] at h
    by_cases h1 : c = 37
    · rw [if_pos h1] at h; cases h
    rw [if_neg h1] at h
    by_cases h2 : dig c
    · rw [if_pos h2] at h
      cases h
      have := dlev_bnd h2
      exact ⟨by simp, by omega, by omega, rfl, this.1, this.2⟩
    rw [if_neg h2] at h
    by_cases h3 : c = 100
    · rw [if_pos h3] at h
      cases r with
      | nil => cases h
      | cons d r =>
        dsimp only at h
        by_cases h4 : dig d
        · rw [if_pos h4] at h
          cases h
          have := dlev_bnd h4
          exact ⟨by simp, by omega, by omega, rfl, this.1, this.2⟩
        · rw [if_neg h4] at h; cases h
    · rw [if_neg h3] at h; cases h
end Go.Proofs.YtaneeaojlkenmaaGreatDoor
