/-
  The normal form: what Normal does twice, at parts, at units.
-/
import Derived.Test.YthbnhcgphkghaaaR23
namespace Go.Proofs.Ythbnhcgphkghaaa
open Go
set_option linter.unusedVariables false
set_option linter.unusedSimpArgs false

/-- an item that goes -/
def Gone (x : Item) : Prop := x.kind = 7 ∧ x.rows = [] ∨ x.kind = 1 ∧ x.text = []
/-- two texts that become one -/
def Joins (y x : Item) : Prop := x.kind = 1 ∧ y.kind = 1 ∧ y.head = x.head
theorem pushI_one {x : Item} (h : ¬ Gone x) : pushI [] x = [x] := pushI_nil h
theorem pushI_gone {out : List Item} {x : Item} (h : Gone x) : pushI out x = out := pushI_no h
theorem pushI_join {ds : List Item} {x y : Item} (h : ¬ Gone x) (hj : Joins y x) : pushI (ds ++ [y]) x = ds ++ [y.setText (y.text ++ x.text)] := by
  rw [pushI_snoc h, if_pos (show x.kind = 1 ∧ y.kind = 1 ∧ y.head = x.head from hj)]
theorem pushI_apart {ds : List Item} {x y : Item} (h : ¬ Gone x) (hj : ¬ Joins y x) : pushI (ds ++ [y]) x = ds ++ [y] ++ [x] := by
  rw [pushI_snoc h, if_neg (show ¬ (x.kind = 1 ∧ y.kind = 1 ∧ y.head = x.head) from hj)]
theorem setText_self (x : Item) : x.setText x.text = x := by cases x; rfl
theorem setText_setText (x : Item) (a b : List UInt8) : (x.setText a).setText b = x.setText b := by cases x; rfl
theorem setText_rows (x : Item) (t : List UInt8) : (x.setText t).rows = x.rows := by cases x; rfl
theorem normItem_setText (x : Item) (t : List UInt8) : normItem (x.setText t) = (normItem x).setText t := by cases x; simp [normItem, Item.setText]
theorem not_gone_text {x : Item} {t : List UInt8} (hk : x.kind = 1) (ht : t ≠ []) : ¬ Gone (x.setText t) := by
  rintro (⟨h, _⟩ | ⟨_, h⟩)
  · rw [setText_kind] at h; omega
  · rw [setText_text] at h; exact ht h

inductive Stable : List Item → Prop where
  | nil : Stable []
  | one {x : Item} (h : ¬ Gone x) : Stable [x]
  | snoc {ds : List Item} {y x : Item} (t : Stable (ds ++ [y])) (h : ¬ Gone x) (hj : ¬ Joins y x) : Stable (ds ++ [y] ++ [x])
theorem Stable.fold {l : List Item} (h : Stable l) : l.foldl pushI [] = l := by
  induction h with
  | nil => rfl
  | one h => exact pushI_one h
  | snoc t h hj ih => rw [List.foldl_append, ih]; exact pushI_apart h hj
theorem Stable.last {l : List Item} (h : Stable l) : ∀ {ds y}, l = ds ++ [y] → ¬ Gone y := by
  cases h with
  | nil => intro ds y he; simp at he
  | one h =>
    intro ds y he
    have := List.append_inj_right' (s₁ := []) he rfl
    simp at this; subst this; exact h
  | snoc t h hj =>
    intro ds y he
    have := List.append_inj_right' he rfl
    simp at this; subst this; exact h
theorem Stable.setLast {ds : List Item} {y : Item} (h : Stable (ds ++ [y])) (hk : y.kind = 1) (t : List UInt8) (ht : t ≠ []) : Stable (ds ++ [y.setText t]) := by
  have hng := not_gone_text (x := y) hk ht
  generalize he : ds ++ [y] = l at h
  cases h with
  | nil => simp at he
  | one h =>
    have h1 : ds = [] := by
      have := congrArg List.length he
      simp at this
      exact this
    subst h1
    exact .one hng
  | @snoc ds' y' x t' h hj =>
    have h1 := List.append_inj_left' he rfl
    have h2 := List.append_inj_right' he rfl
    simp at h2
    subst h1 h2
    refine .snoc t' hng ?_
    rintro ⟨q1, q2, q3⟩
    rw [setText_head] at q3
    exact hj ⟨hk, q2, q3⟩
theorem pushI_stable {l : List Item} (h : Stable l) (x : Item) : Stable (pushI l x) := by
  by_cases hg : Gone x
  · rw [pushI_gone hg]; exact h
  · rcases snoc_cases l with rfl | ⟨ds, y, rfl⟩
    · rw [pushI_one hg]; exact .one hg
    · by_cases hj : Joins y x
      · rw [pushI_join hg hj]
        refine h.setLast hj.2.1 _ ?_
        intro he
        have : x.text = [] := (List.append_eq_nil_iff.1 he).2
        exact hg (.inr ⟨hj.1, this⟩)
      · rw [pushI_apart hg hj]; exact .snoc h hg hj
theorem fold_stable (l : List Item) : ∀ {s : List Item}, Stable s → Stable (l.foldl pushI s) := by
  induction l with
  | nil => intro s h; exact h
  | cons x l ih => intro s h; exact ih (pushI_stable h x)
theorem normL_stable (l : List Item) : Stable (normL l) := fold_stable _ .nil

/-- items that are in normal form themselves -/
def Fixed (l : List Item) : Prop := ∀ y ∈ l, normItem y = y
theorem pushI_fixed {l : List Item} {x : Item} (h : Fixed l) (hx : normItem x = x) : Fixed (pushI l x) := by
  by_cases hg : Gone x
  · rw [pushI_gone hg]; exact h
  · rcases snoc_cases l with rfl | ⟨ds, y, rfl⟩
    · rw [pushI_one hg]; intro z hz; simp at hz; subst hz; exact hx
    · by_cases hj : Joins y x
      · rw [pushI_join hg hj]
        intro z hz
        rcases List.mem_append.1 hz with h1 | h1
        · exact h z (by simp [h1])
        · simp at h1; subst h1
          rw [normItem_setText, h y (by simp)]
      · rw [pushI_apart hg hj]
        intro z hz
        rcases List.mem_append.1 hz with h1 | h1
        · exact h z h1
        · simp at h1; subst h1; exact hx
theorem fold_fixed (l : List Item) : ∀ {s : List Item}, Fixed s → Fixed l → Fixed (l.foldl pushI s) := by
  induction l with
  | nil => intro s h _; exact h
  | cons x l ih => intro s h hl; exact ih (pushI_fixed h (hl x (by simp))) fun y hy => hl y (by simp [hy])
theorem keepR_normRow {rows : List Row} (h : ∀ r ∈ rows, ∀ c ∈ r.2, normL (normL c.2.2) = normL c.2.2) : keepR ((keepR (rows.map normRow)).map normRow) = keepR (rows.map normRow) := by
  have hfix : ∀ r ∈ rows, normRow (normRow r) = normRow r := by
    intro r hr
    obtain ⟨hd, cs⟩ := r
    simp only [normRow, List.map_map, Prod.mk.injEq, true_and]
    apply List.map_congr_left
    intro c hc
    obtain ⟨i, hd', f⟩ := c
    simp only [Function.comp, normCell, Prod.mk.injEq, true_and]
    exact h _ hr _ hc
  have hm : (keepR (rows.map normRow)).map normRow = keepR (rows.map normRow) := by
    have : ∀ q ∈ keepR (rows.map normRow), normRow q = q := by
      intro q hq
      obtain ⟨r, hr, rfl⟩ := List.mem_map.1 (List.mem_filter.1 hq).1
      exact hfix r hr
    exact (List.map_congr_left this).trans (List.map_id' _)
  rw [hm]
  exact keepR_all fun x hx => by
    have := (List.mem_filter.1 hx).2
    simpa using this
theorem normL_twice : ∀ (N : Nat) (l : List Item), massL l < N → normL (normL l) = normL l ∧ Fixed (normL l)
  | 0, l, h => absurd h (by omega)
  | N + 1, l, h => by
    have hfx : Fixed (l.map normItem) := by
      intro y hy
      obtain ⟨x, hx, rfl⟩ := List.mem_map.1 hy
      have hm := massL_mem' hx
      have e1 := (normL_twice N x.flow (by omega)).1
      have e2 := keepR_normRow (rows := x.rows) fun r hr c hc => by
        have := massR_mem' hr
        have := massC_mem' hc
        exact (normL_twice N c.2.2 (by omega)).1
      rw [normItem_eq x, normItem_eq]
      show Item.mk _ _ _ _ _ (normL (normL x.flow)) (keepR ((keepR (x.rows.map normRow)).map normRow)) = _
      rw [e1, e2]
      rfl
    have hf : Fixed (normL l) := fold_fixed _ (fun y hy => by simp at hy) hfx
    refine ⟨?_, hf⟩
    have hm : (normL l).map normItem = normL l := (List.map_congr_left hf).trans (List.map_id' _)
    show ((normL l).map normItem).foldl pushI [] = normL l
    rw [hm]
    exact (normL_stable l).fold
theorem normL_idem (l : List Item) : normL (normL l) = normL l := (normL_twice (massL l + 1) l (by omega)).1
theorem normL_fixed (l : List Item) : (normL l).map normItem = normL l := (List.map_congr_left (normL_twice (massL l + 1) l (by omega)).2).trans (List.map_id' _)

/-- a text in two parts -/
theorem pushI_two {s : List Item} {x : Item} {a b : List UInt8} (hk : x.kind = 1) (ha : a ≠ []) : pushI (pushI s (x.setText a)) (x.setText b) = pushI s (x.setText (a ++ b)) := by
  have ga := not_gone_text hk ha
  have gab : ¬ Gone (x.setText (a ++ b)) := not_gone_text hk (by simp [ha])
  by_cases hb : b = []
  · subst hb
    rw [pushI_gone (x := x.setText []) (.inr ⟨by rw [setText_kind]; exact hk, setText_text _ _⟩), List.append_nil]
  · have gb := not_gone_text hk hb
    have self : Joins (x.setText a) (x.setText b) := ⟨by rw [setText_kind]; exact hk, by rw [setText_kind]; exact hk, by rw [setText_head, setText_head]⟩
    rcases snoc_cases s with rfl | ⟨ds, y, rfl⟩
    · rw [pushI_one ga, pushI_one gab]
      have := pushI_join (ds := []) gb self
      simp only [List.nil_append, setText_text, setText_setText] at this
      exact this
    · by_cases hj : Joins y (x.setText a)
      · rw [pushI_join ga hj]
        have hj1 : Joins (y.setText (y.text ++ (x.setText a).text)) (x.setText b) := ⟨by rw [setText_kind]; exact hk, by rw [setText_kind]; exact hj.2.1, by rw [setText_head, setText_head]; have := hj.2.2; rwa [setText_head] at this⟩
        have hj2 : Joins y (x.setText (a ++ b)) := ⟨by rw [setText_kind]; exact hk, hj.2.1, by have := hj.2.2; rwa [setText_head] at this ⊢⟩
        rw [pushI_join gb hj1, pushI_join gab hj2]
        simp [setText_text, setText_setText]
      · have hj2 : ¬ Joins y (x.setText (a ++ b)) := fun q => hj ⟨by rw [setText_kind]; exact hk, q.2.1, by have := q.2.2; rwa [setText_head] at this ⊢⟩
        rw [pushI_apart ga hj, pushI_apart gab hj2, pushI_join gb self]
        simp [setText_text, setText_setText]
theorem pushI_twoI {u : List Item} {y x : Item} (hy : ¬ Gone y) (hx : ¬ Gone x) (hj : Joins y x) : pushI (pushI u y) x = pushI u (y.setText (y.text ++ x.text)) := by
  have ht : y.text ≠ [] := fun h => hy (.inr ⟨hj.2.1, h⟩)
  have htx : x.text ≠ [] := fun h => hx (.inr ⟨hj.1, h⟩)
  have gy' : ¬ Gone (y.setText (y.text ++ x.text)) := not_gone_text hj.2.1 (by simp [ht])
  rcases snoc_cases u with rfl | ⟨ds, z, rfl⟩
  · rw [pushI_one hy, pushI_one gy']
    have := pushI_join (ds := []) hx hj
    simpa using this
  · by_cases hz : Joins z y
    · rw [pushI_join hy hz]
      have h1 : Joins (z.setText (z.text ++ y.text)) x := ⟨hj.1, by rw [setText_kind]; exact hz.2.1, by rw [setText_head, hz.2.2, hj.2.2]⟩
      have h2 : Joins z (y.setText (y.text ++ x.text)) := ⟨by rw [setText_kind]; exact hj.2.1, hz.2.1, by rw [setText_head]; exact hz.2.2⟩
      rw [pushI_join hx h1, pushI_join gy' h2]
      simp [setText_text, setText_setText]
    · have h2 : ¬ Joins z (y.setText (y.text ++ x.text)) := fun q => hz ⟨hj.2.1, q.2.1, by have := q.2.2; rwa [setText_head] at this⟩
      rw [pushI_apart hy hz, pushI_apart gy' h2, pushI_join hx hj]
theorem snocInd {α : Type} {p : List α → Prop} (h0 : p []) (h1 : ∀ l x, p l → p (l ++ [x])) (l : List α) : p l := by
  have key : ∀ r : List α, p r.reverse := by
    intro r
    induction r with
    | nil => exact h0
    | cons x r ih => rw [List.reverse_cons]; exact h1 _ _ ih
  have := key l.reverse
  rwa [List.reverse_reverse] at this
theorem fold_normL (s : List Item) (b : List Item) : (normL b).foldl pushI s = (b.map normItem).foldl pushI s := by
  have key : ∀ (c : List Item), (c.foldl pushI []).foldl pushI s = c.foldl pushI s := by
    intro c
    have hst : ∀ c : List Item, Stable (c.foldl pushI []) := fun c => fold_stable c .nil
    refine snocInd (p := fun c => (c.foldl pushI []).foldl pushI s = c.foldl pushI s) rfl ?_ c
    · intro c x ih
      rw [List.foldl_append, List.foldl_append]
      simp only [List.foldl_cons, List.foldl_nil]
      by_cases hg : Gone x
      · rw [pushI_gone hg, ih, pushI_gone hg]
      · rcases snoc_cases (c.foldl pushI []) with h0 | ⟨ds, y, h0⟩
        · rw [h0] at ih ⊢
          rw [pushI_one hg, ← ih]; rfl
        · have hgy := (hst c).last h0
          rw [h0] at ih ⊢
          rw [List.foldl_append] at ih
          simp only [List.foldl_cons, List.foldl_nil] at ih
          by_cases hj : Joins y x
          · rw [pushI_join hg hj, List.foldl_append]
            simp only [List.foldl_cons, List.foldl_nil]
            rw [← pushI_twoI hgy hg hj, ih]
          · rw [pushI_apart hg hj, List.foldl_append, List.foldl_append]
            simp only [List.foldl_cons, List.foldl_nil]
            rw [ih]
  exact key _
theorem normL_append (a b : List Item) : normL (a ++ b) = (b.map normItem).foldl pushI (normL a) := by
  unfold normL; rw [List.map_append, List.foldl_append]
theorem normL_appR (a b : List Item) : normL (a ++ normL b) = normL (a ++ b) := by
  rw [normL_append, normL_append, normL_fixed, fold_normL]
theorem normL_appL (a b : List Item) : normL (normL a ++ b) = normL (a ++ b) := by
  rw [normL_append, normL_append, normL_idem]
end Go.Proofs.Ythbnhcgphkghaaa
