/-
  The normal form: its mass, its text, its units.
-/
import Derived.Test.YthbnhcgphkghaaaD4
namespace Go.Proofs.Ythbnhcgphkghaaa
open Go
set_option linter.unusedVariables false
set_option linter.unusedSimpArgs false

theorem pushI_mass (out : List Item) (x : Item) : massL (pushI out x) ≤ massL out + x.mass := by
  by_cases hg : Gone x
  · rw [pushI_gone hg]; omega
  · rcases snoc_cases out with rfl | ⟨ds, y, rfl⟩
    · rw [pushI_one hg]; simp [massL]
    · by_cases hj : Joins y x
      · rw [pushI_join hg hj, massL_append, massL_append]
        have h1 := setText_mass y (y.text ++ x.text)
        have h2 := x.mass_eq
        rw [List.length_append] at h1
        simp only [massL]; omega
      · rw [pushI_apart hg hj, massL_append]; simp only [massL]; omega
theorem fold_mass (l : List Item) : ∀ s : List Item, massL (l.foldl pushI s) ≤ massL s + massL l := by
  induction l with
  | nil => intro s; simp [massL]
  | cons x l ih =>
    intro s
    have h1 := ih (pushI s x)
    have h2 := pushI_mass s x
    simp only [List.foldl_cons, massL]; omega
theorem massR_keep (rows : List Row) : massR (keepR rows) ≤ massR rows := by
  induction rows with
  | nil => simp [keepR]
  | cons x l ih =>
    obtain ⟨h, c⟩ := x
    have : keepR ((h, c) :: l) = if c ≠ [] then (h, c) :: keepR l else keepR l := by
      unfold keepR; rw [List.filter_cons]; simp
    rw [this]
    split <;> simp only [massR] <;> omega
theorem massC_norm {cells : List Cell} (h : ∀ c ∈ cells, massL (normL c.2.2) ≤ massL c.2.2) : massC (cells.map normCell) ≤ massC cells := by
  induction cells with
  | nil => simp
  | cons x l ih =>
    obtain ⟨i, hd, f⟩ := x
    have h1 := h (i, hd, f) (by simp)
    have h2 := ih fun c hc => h c (by simp [hc])
    simp only [List.map_cons, normCell, massC] at *
    omega
theorem massR_norm {rows : List Row} (h : ∀ r ∈ rows, ∀ c ∈ r.2, massL (normL c.2.2) ≤ massL c.2.2) : massR (rows.map normRow) ≤ massR rows := by
  induction rows with
  | nil => simp
  | cons x l ih =>
    obtain ⟨hd, cs⟩ := x
    have h1 := massC_norm (h (hd, cs) (by simp))
    have h2 := ih fun c hc => h c (by simp [hc])
    simp only [List.map_cons, normRow, massR] at *
    omega
theorem normL_mass_lt : ∀ (N : Nat) (l : List Item), massL l < N → massL (normL l) ≤ massL l
  | 0, l, h => absurd h (by omega)
  | N + 1, l, h => by
    have hit : ∀ x ∈ l, (normItem x).mass ≤ x.mass := by
      intro x hx
      have hm := massL_mem' hx
      have e1 := normL_mass_lt N x.flow (by omega)
      have e2 := massR_norm (rows := x.rows) fun r hr c hc => by
        have := massR_mem' hr
        have := massC_mem' hc
        exact normL_mass_lt N c.2.2 (by omega)
      have e3 := massR_keep (x.rows.map normRow)
      rw [normItem_eq, Item.mass, x.mass_eq]
      omega
    have hm : ∀ k : List Item, (∀ x ∈ k, (normItem x).mass ≤ x.mass) → massL (k.map normItem) ≤ massL k := by
      intro k
      induction k with
      | nil => simp [massL]
      | cons x k ih => intro hk; have h1 := hk x (by simp); have h2 := ih fun y hy => hk y (by simp [hy]); simp only [List.map_cons, massL]; omega
    have h1 := fold_mass (l.map normItem) []
    have h2 := hm l hit
    simp only [massL] at h1
    show massL ((l.map normItem).foldl pushI []) ≤ _
    omega
theorem normL_mass (l : List Item) : massL (normL l) ≤ massL l := normL_mass_lt (massL l + 1) l (by omega)

/-- a Table that goes -/
def Van (l : List Item) : Prop := ∃ x ∈ l, x.kind = 7 ∧ ∀ r ∈ x.rows, r.2 = []
theorem keepR_nil {rows : List Row} : keepR (rows.map normRow) = [] ↔ ∀ r ∈ rows, r.2 = [] := by
  unfold keepR
  rw [List.filter_eq_nil_iff]
  constructor
  · intro h r hr
    have := h (normRow r) (List.mem_map_of_mem hr)
    simpa [normRow] using this
  · intro h q hq
    obtain ⟨r, hr, rfl⟩ := List.mem_map.1 hq
    simp [normRow, h r hr]
theorem normItem_code (x : Item) : (normItem x).code = x.code := by rw [normItem_eq]; rfl
theorem chr_normItem (x : Item) : chr (normItem x) = chr x := by unfold chr; rw [normItem_kind, normItem_code]
theorem itext_normItem (x : Item) : itext (normItem x) = itext x := by unfold itext; rw [normItem_kind, normItem_text, chr_normItem]
theorem itext_setText {x : Item} (hk : x.kind = 1) (t : List UInt8) : itext (x.setText t) = t := by
  unfold itext; rw [if_pos (by rw [setText_kind]; exact hk), setText_text]
theorem itext_one {x : Item} (hk : x.kind = 1) : itext x = x.text := by unfold itext; rw [if_pos hk]
theorem ftext_one (x : Item) : ftext [x] = itext x := by simp [ftext]
theorem pushI_ftext (out : List Item) {x : Item} (hv : ¬ (x.kind = 7 ∧ x.rows = [])) : ftext (pushI out x) = ftext out ++ itext x := by
  by_cases hg : Gone x
  · rw [pushI_gone hg]
    rcases hg with h | ⟨h1, h2⟩
    · exact absurd h hv
    · rw [itext_one h1, h2, List.append_nil]
  · rcases snoc_cases out with rfl | ⟨ds, y, rfl⟩
    · rw [pushI_one hg, ftext_one]; rfl
    · by_cases hj : Joins y x
      · rw [pushI_join hg hj, ftext_append, ftext_append, ftext_one, ftext_one, itext_setText hj.2.1, itext_one hj.2.1, itext_one hj.1, List.append_assoc]
      · rw [pushI_apart hg hj, ftext_append _ [x], ftext_one]
theorem fold_ftext (l : List Item) : ∀ s : List Item, (∀ x ∈ l, ¬ (x.kind = 7 ∧ x.rows = [])) → ftext (l.foldl pushI s) = ftext s ++ ftext l := by
  induction l with
  | nil => intro s _; simp [ftext]
  | cons x l ih =>
    intro s h
    rw [List.foldl_cons, ih _ fun y hy => h y (by simp [hy]), pushI_ftext _ (h x (by simp)), List.append_assoc]
    rfl
theorem van_norm {l : List Item} (h : ¬ Van l) : ∀ x ∈ l.map normItem, ¬ (x.kind = 7 ∧ x.rows = []) := by
  intro y hy
  obtain ⟨x, hx, rfl⟩ := List.mem_map.1 hy
  rintro ⟨h1, h2⟩
  rw [normItem_kind] at h1
  rw [normItem_rows] at h2
  exact h ⟨x, hx, h1, keepR_nil.1 h2⟩
theorem ftext_map (l : List Item) : ftext (l.map normItem) = ftext l := by
  induction l with
  | nil => rfl
  | cons x l ih => simp only [List.map_cons, ftext, ih, itext_normItem]
theorem normL_ftext {l : List Item} (h : ¬ Van l) : ftext (normL l) = ftext l := by
  show ftext ((l.map normItem).foldl pushI []) = _
  rw [fold_ftext _ _ (van_norm h), ftext_map]
  rfl
/-! units -/
theorem Item.ok_split_units {x : Item} (hk : x.kind = 1) (h : valid x.text) : x.units = (charsOf x.text).length := by
  unfold Item.units
  rw [if_pos hk]
  unfold count
  rw [if_pos h]
  simp [charsOf, nchars]
theorem units_normItem (x : Item) : (normItem x).units = x.units := by unfold Item.units; rw [normItem_kind, normItem_text]
theorem ok_normItem {x : Item} (h : x.ok) : (normItem x).ok := by intro hk; rw [normItem_kind] at hk; rw [normItem_text]; exact h hk
theorem pushI_ok {out : List Item} {x : Item} (ho : okL out) (hx : x.ok) : okL (pushI out x) := by
  by_cases hg : Gone x
  · rw [pushI_gone hg]; exact ho
  · rcases snoc_cases out with rfl | ⟨ds, y, rfl⟩
    · rw [pushI_one hg]; intro z hz; rw [List.mem_singleton] at hz; subst hz; exact hx
    · by_cases hj : Joins y x
      · rw [pushI_join hg hj]
        intro z hz
        rcases List.mem_append.1 hz with h1 | h1
        · exact ho z (by simp [h1])
        · rw [List.mem_singleton] at h1; subst h1
          intro _
          rw [setText_text]
          exact (valid_append (ho y (by simp) hj.2.1) (hx hj.1)).1
      · rw [pushI_apart hg hj]
        intro z hz
        rcases List.mem_append.1 hz with h1 | h1
        · exact ho z h1
        · rw [List.mem_singleton] at h1; subst h1; exact hx
theorem pushI_usum {out : List Item} {x : Item} (ho : okL out) (hx : x.ok) : usum (pushI out x) = usum out + (if x.kind = 7 ∧ x.rows = [] then 0 else x.units) := by
  by_cases hg : Gone x
  · rw [pushI_gone hg]
    rcases hg with h | ⟨h1, h2⟩
    · rw [if_pos h]; omega
    · rw [if_neg (by rintro ⟨h3, _⟩; omega), Item.ok_split_units h1 (hx h1), h2]
      simp [charsOf, chars_nil]
  · rw [if_neg fun h => hg (.inl h)]
    rcases snoc_cases out with rfl | ⟨ds, y, rfl⟩
    · rw [pushI_one hg]; simp [usum]
    · by_cases hj : Joins y x
      · have hv := valid_append (ho y (by simp) hj.2.1) (hx hj.1)
        rw [pushI_join hg hj, usum_append, usum_append]
        simp only [usum]
        rw [Item.ok_split_units hj.2.1 (ho y (by simp) hj.2.1), Item.ok_split_units hj.1 (hx hj.1), Item.ok_split_units (x := y.setText (y.text ++ x.text)) (by rw [setText_kind]; exact hj.2.1) (by rw [setText_text]; exact hv.1), setText_text, hv.2, List.length_append]
        omega
      · rw [pushI_apart hg hj, usum_append]; simp [usum]
theorem fold_ok (l : List Item) : ∀ s : List Item, okL s → okL l → okL (l.foldl pushI s) := by
  induction l with
  | nil => intro s h _; exact h
  | cons x l ih => intro s h hl; exact ih _ (pushI_ok h (hl x (by simp))) fun y hy => hl y (by simp [hy])
theorem fold_usum (l : List Item) : ∀ s : List Item, okL s → okL l → (∀ x ∈ l, ¬ (x.kind = 7 ∧ x.rows = [])) → usum (l.foldl pushI s) = usum s + usum l := by
  induction l with
  | nil => intro s h _ _; simp [usum]
  | cons x l ih =>
    intro s h hl hv
    rw [List.foldl_cons, ih _ (pushI_ok h (hl x (by simp))) (fun y hy => hl y (by simp [hy])) (fun y hy => hv y (by simp [hy])), pushI_usum h (hl x (by simp)), if_neg (hv x (by simp))]
    simp only [usum]; omega
theorem fold_usum_le (l : List Item) : ∀ s : List Item, okL s → okL l → usum (l.foldl pushI s) ≤ usum s + usum l := by
  induction l with
  | nil => intro s h _; simp [usum]
  | cons x l ih =>
    intro s h hl
    have h1 := ih _ (pushI_ok h (hl x (by simp))) (fun y hy => hl y (by simp [hy]))
    have h2 := pushI_usum h (hl x (by simp))
    have h3 := x.units_b
    simp only [List.foldl_cons, usum]
    split at h2 <;> omega
theorem okL_map {l : List Item} (h : okL l) : okL (l.map normItem) := by
  intro y hy
  obtain ⟨x, hx, rfl⟩ := List.mem_map.1 hy
  exact ok_normItem (h x hx)
theorem usum_map (l : List Item) : usum (l.map normItem) = usum l := by
  induction l with
  | nil => rfl
  | cons x l ih => simp only [List.map_cons, usum, ih, units_normItem]
theorem okL_nil : okL [] := fun y hy => by cases hy
theorem normL_ok {l : List Item} (h : okL l) : okL (normL l) := fold_ok _ [] okL_nil (okL_map h)
theorem normL_usum {l : List Item} (h : okL l) (hv : ¬ Van l) : usum (normL l) = usum l := by
  show usum ((l.map normItem).foldl pushI []) = _
  rw [fold_usum _ _ okL_nil (okL_map h) (van_norm hv), usum_map]
  simp [usum]
theorem normL_usum_le {l : List Item} (h : okL l) : usum (normL l) ≤ usum l := by
  have h1 := fold_usum_le (l.map normItem) [] okL_nil (okL_map h)
  rw [usum_map] at h1
  simp only [usum] at h1
  show usum ((l.map normItem).foldl pushI []) ≤ _
  omega
/-- a flow in normal form has no Table that goes -/
theorem Stable.van {l : List Item} (h : Stable l) : ∀ x ∈ l, ¬ Gone x := by
  induction h with
  | nil => intro x hx; cases hx
  | one h => intro x hx; rw [List.mem_singleton] at hx; subst hx; exact h
  | snoc t h hj ih =>
    intro x hx
    rcases List.mem_append.1 hx with h1 | h1
    · exact ih x h1
    · rw [List.mem_singleton] at h1; subst h1; exact h
end Go.Proofs.Ythbnhcgphkghaaa
