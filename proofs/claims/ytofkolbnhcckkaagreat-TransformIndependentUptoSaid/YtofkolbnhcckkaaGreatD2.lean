/-
  The mass of a flow; depth; units; heads.
-/
import Derived.Test.YtofkolbnhcckkaaGreatD1
namespace Go.Proofs.YtofkolbnhcckkaaGreat
open Go
set_option linter.unusedVariables false
set_option linter.unusedSimpArgs false

def Head.mass (h : Head) : Nat := h.props.length + h.dels.length + h.layers.length
mutual
def Item.mass : Item → Nat
  | .mk _ _ _ t h f r => 1 + t.length + h.mass + massL f + massR r
def massL : List Item → Nat
  | [] => 0
  | x :: l => x.mass + massL l
def massR : List (Head × List (Int × Head × List Item)) → Nat
  | [] => 0
  | (h, c) :: l => 1 + h.mass + massC c + massR l
def massC : List (Int × Head × List Item) → Nat
  | [] => 0
  | (_, h, f) :: l => 1 + h.mass + massL f + massC l
end
theorem Item.mass_eq (x : Item) : x.mass = 1 + x.text.length + x.head.mass + massL x.flow + massR x.rows := by cases x; rw [Item.mass]; rfl
theorem massL_append (a b : List Item) : massL (a ++ b) = massL a + massL b := by
  induction a with
  | nil => simp [massL]
  | cons x l ih => simp only [List.cons_append, massL, ih]; omega
theorem massR_append (a b : List Row) : massR (a ++ b) = massR a + massR b := by
  induction a with
  | nil => simp [massR]
  | cons x l ih => obtain ⟨h, c⟩ := x; simp only [List.cons_append, massR, ih]; omega
theorem massC_append (a b : List Cell) : massC (a ++ b) = massC a + massC b := by
  induction a with
  | nil => simp [massC]
  | cons x l ih => obtain ⟨h, c, f⟩ := x; simp only [List.cons_append, massC, ih]; omega
theorem massL_get {l : List Item} {i : Nat} {x : Item} (h : l[i]? = some x) : massL (l.take i) + x.mass ≤ massL l := by
  induction l generalizing i with
  | nil => simp at h
  | cons y r ih => cases i with
    | zero => simp at h; subst h; simp [massL]
    | succ i => simp at h; have := ih h; simp only [List.take_succ_cons, massL]; omega
theorem massR_get {l : List Row} {i : Nat} {x : Row} (h : l[i]? = some x) : massR (l.take i) + (1 + x.1.mass + massC x.2) ≤ massR l := by
  induction l generalizing i with
  | nil => simp at h
  | cons y r ih => obtain ⟨h0, c0⟩ := y; cases i with
    | zero => simp at h; subst h; simp [massR]
    | succ i => simp at h; have := ih h; simp only [List.take_succ_cons, massR]; omega
theorem massC_get {l : List Cell} {i : Nat} {x : Cell} (h : l[i]? = some x) : massC (l.take i) + (1 + x.2.1.mass + massL x.2.2) ≤ massC l := by
  induction l generalizing i with
  | nil => simp at h
  | cons y r ih => obtain ⟨h0, c0, f0⟩ := y; cases i with
    | zero => simp at h; subst h; simp [massC]
    | succ i => simp at h; have := ih h; simp only [List.take_succ_cons, massC]; omega
theorem massL_len (l : List Item) : l.length ≤ massL l := by
  induction l with
  | nil => simp
  | cons x l ih => rw [List.length_cons, massL, x.mass_eq]; omega
theorem massR_len (l : List Row) : l.length ≤ massR l := by
  induction l with
  | nil => simp
  | cons x l ih => obtain ⟨h, c⟩ := x; rw [List.length_cons, massR]; omega
theorem massC_len (l : List Cell) : l.length ≤ massC l := by
  induction l with
  | nil => simp
  | cons x l ih => obtain ⟨i, h, c⟩ := x; rw [List.length_cons, massC]; omega
/-- an element of a flow -/
theorem massL_mem {l : List Item} {i : Nat} {x : Item} (h : l[i]? = some x) : x.text.length + x.head.mass + massL x.flow + massR x.rows < massL l := by
  have := massL_get h
  rw [x.mass_eq] at this
  omega
theorem massR_mem {l : List Row} {i : Nat} {x : Row} (h : l[i]? = some x) : x.1.mass + massC x.2 < massR l := by
  have := massR_get h
  omega
theorem massC_mem {l : List Cell} {i : Nat} {x : Cell} (h : l[i]? = some x) : x.2.1.mass + massL x.2.2 < massC l := by
  have := massC_get h
  omega

/-! ### units -/
/-- the number of units; of a text that is not valid: 0 -/
def Item.units (x : Item) : Int := if x.kind = 1 then count x.text else 1
def Item.ok (x : Item) : Prop := x.kind = 1 → valid x.text
instance (x : Item) : Decidable x.ok := by unfold Item.ok; infer_instance
theorem count_b (l : List UInt8) : 0 ≤ count l ∧ count l ≤ l.length := by
  unfold count
  split
  · rename_i h
    have := nchars_heads h
    have := heads_length_le l 0
    omega
  · omega
theorem Item.units_b (x : Item) : 0 ≤ x.units ∧ x.units ≤ x.mass := by
  have := count_b x.text
  have := x.mass_eq
  unfold Item.units
  split <;> omega
def usum : List Item → Int
  | [] => 0
  | x :: l => x.units + usum l
theorem usum_append (a b : List Item) : usum (a ++ b) = usum a + usum b := by
  induction a with
  | nil => simp [usum]
  | cons x l ih => simp only [List.cons_append, usum, ih]; omega
theorem usum_b (l : List Item) : 0 ≤ usum l ∧ usum l ≤ massL l := by
  induction l with
  | nil => simp [usum, massL]
  | cons x l ih => have := x.units_b; simp only [usum, massL]; omega
theorem take_get {α : Type} {l : List α} {i : Nat} {x : α} (h : l[i]? = some x) : l.take (i + 1) = l.take i ++ [x] := by
  obtain ⟨hlt, rfl⟩ := List.getElem?_eq_some_iff.1 h
  exact List.take_succ_eq_append_getElem hlt
end Go.Proofs.YtofkolbnhcckkaaGreat
