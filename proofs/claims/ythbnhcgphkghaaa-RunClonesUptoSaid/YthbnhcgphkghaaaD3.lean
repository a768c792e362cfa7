/-
  The normal form: what Normal does twice, at parts, at units; its mass, text, units. What Small says.
-/
import Derived.Test.YthbnhcgphkghaaaR23
namespace Go.Proofs.Ythbnhcgphkghaaa
open Go
set_option linter.unusedVariables false
set_option linter.unusedSimpArgs false

/-- an item that goes -/
def Gone (x : Item) : Prop := x.kind = 7 ∧ x.rows = [] ∨ x.kind = 1 ∧ x.text = []
/-- two texts that become one -/
def Joins (y x : Item) : Prop := x.kind = 1 ∧ y.kind = 1 ∧ y.head = x.head
theorem pushI_one {x : Item} (h : ¬ Gone x) : pushI [] x = [x] := pushI_nil h
theorem pushI_gone {out : List Item} {x : Item} (h : Gone x) : pushI out x = out := pushI_no h
theorem pushI_join {ds : List Item} {x y : Item} (h : ¬ Gone x) (hj : Joins y x) : pushI (ds ++ [y]) x = ds ++ [y.setText (y.text ++ x.text)] := by
  rw [pushI_snoc h, if_pos (show x.kind = 1 ∧ y.kind = 1 ∧ y.head = x.head from hj)]
theorem pushI_apart {ds : List Item} {x y : Item} (h : ¬ Gone x) (hj : ¬ Joins y x) : pushI (ds ++ [y]) x = ds ++ [y] ++ [x] := by
  rw [pushI_snoc h, if_neg (show ¬ (x.kind = 1 ∧ y.kind = 1 ∧ y.head = x.head) from hj)]
theorem setText_self (x : Item) : x.setText x.text = x := by cases x; rfl
theorem setText_setText (x : Item) (a b : List UInt8) : (x.setText a).setText b = x.setText b := by cases x; rfl
theorem setText_rows (x : Item) (t : List UInt8) : (x.setText t).rows = x.rows := by cases x; rfl
theorem normItem_setText (x : Item) (t : List UInt8) : normItem (x.setText t) = (normItem x).setText t := by cases x; simp [normItem, Item.setText]
theorem not_gone_text {x : Item} {t : List UInt8} (hk : x.kind = 1) (ht : t ≠ []) : ¬ Gone (x.setText t) := by
  rintro (⟨h, _⟩ | ⟨_, h⟩)
  · rw [setText_kind] at h; omega
  · rw [setText_text] at h; exact ht h

inductive Stable : List Item → Prop where
  | nil : Stable []
  | one {x : Item} (h : ¬ Gone x) : Stable [x]
  | snoc {ds : List Item} {y x : Item} (t : Stable (ds ++ [y])) (h : ¬ Gone x) (hj : ¬ Joins y x) : Stable (ds ++ [y] ++ [x])
theorem Stable.fold {l : List Item} (h : Stable l) : l.foldl pushI [] = l := by
  induction h with
  | nil => rfl
  | one h => exact pushI_one h
  | snoc t h hj ih => rw [List.foldl_append, ih]; exact pushI_apart h hj
theorem Stable.last {l : List Item} (h : Stable l) : ∀ {ds y}, l = ds ++ [y] → ¬ Gone y := by
  cases h with
  | nil => intro ds y he; simp at he
  | one h =>
    intro ds y he
    have := List.append_inj_right' (s₁ := []) he rfl
    simp at this; subst this; exact h
  | snoc t h hj =>
    intro ds y he
    have := List.append_inj_right' he rfl
    simp at this; subst this; exact h
theorem Stable.setLast {ds : List Item} {y : Item} (h : Stable (ds ++ [y])) (hk : y.kind = 1) (t : List UInt8) (ht : t ≠ []) : Stable (ds ++ [y.setText t]) := by
  have hng := not_gone_text (x := y) hk ht
  generalize he : ds ++ [y] = l at h
  cases h with
  | nil => simp at he
  | one h =>
    have h1 : ds = [] := by
      have := congrArg List.length he
      simp at this
      exact this
    subst h1
    exact .one hng
  | @snoc ds' y' x t' h hj =>
    have h1 := List.append_inj_left' he rfl
    have h2 := List.append_inj_right' he rfl
    simp at h2
    subst h1 h2
    refine .snoc t' hng ?_
    rintro ⟨q1, q2, q3⟩
    rw [setText_head] at q3
    exact hj ⟨hk, q2, q3⟩
theorem pushI_stable {l : List Item} (h : Stable l) (x : Item) : Stable (pushI l x) := by
  by_cases hg : Gone x
  · rw [pushI_gone hg]; exact h
  · rcases snoc_cases l with rfl | ⟨ds, y, rfl⟩
    · rw [pushI_one hg]; exact .one hg
    · by_cases hj : Joins y x
      · rw [pushI_join hg hj]
        refine h.setLast hj.2.1 _ ?_
        intro he
        have : x.text = [] := (List.append_eq_nil_iff.1 he).2
        exact hg (.inr ⟨hj.1, this⟩)
      · rw [pushI_apart hg hj]; exact .snoc h hg hj
theorem fold_stable (l : List Item) : ∀ {s : List Item}, Stable s → Stable (l.foldl pushI s) := by
  induction l with
  | nil => intro s h; exact h
  | cons x l ih => intro s h; exact ih (pushI_stable h x)
theorem normL_stable (l : List Item) : Stable (normL l) := fold_stable _ .nil

/-- items that are in normal form themselves -/
def Fixed (l : List Item) : Prop := ∀ y ∈ l, normItem y = y
theorem pushI_fixed {l : List Item} {x : Item} (h : Fixed l) (hx : normItem x = x) : Fixed (pushI l x) := by
  by_cases hg : Gone x
  · rw [pushI_gone hg]; exact h
  · rcases snoc_cases l with rfl | ⟨ds, y, rfl⟩
    · rw [pushI_one hg]; intro z hz; simp at hz; subst hz; exact hx
    · by_cases hj : Joins y x
      · rw [pushI_join hg hj]
        intro z hz
        rcases List.mem_append.1 hz with h1 | h1
        · exact h z (by simp [h1])
        · simp at h1; subst h1
          rw [normItem_setText, h y (by simp)]
      · rw [pushI_apart hg hj]
        intro z hz
        rcases List.mem_append.1 hz with h1 | h1
        · exact h z h1
        · simp at h1; subst h1; exact hx
theorem fold_fixed (l : List Item) : ∀ {s : List Item}, Fixed s → Fixed l → Fixed (l.foldl pushI s) := by
  induction l with
  | nil => intro s h _; exact h
  | cons x l ih => intro s h hl; exact ih (pushI_fixed h (hl x (by simp))) fun y hy => hl y (by simp [hy])
theorem keepR_normRow {rows : List Row} (h : ∀ r ∈ rows, ∀ c ∈ r.2, normL (normL c.2.2) = normL c.2.2) : keepR ((keepR (rows.map normRow)).map normRow) = keepR (rows.map normRow) := by
  have hfix : ∀ r ∈ rows, normRow (normRow r) = normRow r := by
    intro r hr
    obtain ⟨hd, cs⟩ := r
    simp only [normRow, List.map_map, Prod.mk.injEq, true_and]
    apply List.map_congr_left
    intro c hc
    obtain ⟨i, hd', f⟩ := c
    simp only [Function.comp, normCell, Prod.mk.injEq, true_and]
    exact h _ hr _ hc
  have hm : (keepR (rows.map normRow)).map normRow = keepR (rows.map normRow) := by
    have : ∀ q ∈ keepR (rows.map normRow), normRow q = q := by
      intro q hq
      obtain ⟨r, hr, rfl⟩ := List.mem_map.1 (List.mem_filter.1 hq).1
      exact hfix r hr
    exact (List.map_congr_left this).trans (List.map_id' _)
  rw [hm]
  exact keepR_all fun x hx => by
    have := (List.mem_filter.1 hx).2
    simpa using this
theorem normL_twice : ∀ (N : Nat) (l : List Item), massL l < N → normL (normL l) = normL l ∧ Fixed (normL l)
  | 0, l, h => absurd h (by omega)
  | N + 1, l, h => by
    have hfx : Fixed (l.map normItem) := by
      intro y hy
      obtain ⟨x, hx, rfl⟩ := List.mem_map.1 hy
      have hm := massL_mem' hx
      have e1 := (normL_twice N x.flow (by omega)).1
      have e2 := keepR_normRow (rows := x.rows) fun r hr c hc => by
        have := massR_mem' hr
        have := massC_mem' hc
        exact (normL_twice N c.2.2 (by omega)).1
      rw [normItem_eq x, normItem_eq]
      show Item.mk _ _ _ _ _ (normL (normL x.flow)) (keepR ((keepR (x.rows.map normRow)).map normRow)) = _
      rw [e1, e2]
      rfl
    have hf : Fixed (normL l) := fold_fixed _ (fun y hy => by simp at hy) hfx
    refine ⟨?_, hf⟩
    have hm : (normL l).map normItem = normL l := (List.map_congr_left hf).trans (List.map_id' _)
    show ((normL l).map normItem).foldl pushI [] = normL l
    rw [hm]
    exact (normL_stable l).fold
theorem normL_idem (l : List Item) : normL (normL l) = normL l := (normL_twice (massL l + 1) l (by omega)).1
theorem normL_fixed (l : List Item) : (normL l).map normItem = normL l := (List.map_congr_left (normL_twice (massL l + 1) l (by omega)).2).trans (List.map_id' _)

/-- a text in two parts -/
theorem pushI_two {s : List Item} {x : Item} {a b : List UInt8} (hk : x.kind = 1) (ha : a ≠ []) : pushI (pushI s (x.setText a)) (x.setText b) = pushI s (x.setText (a ++ b)) := by
  have ga := not_gone_text hk ha
  have gab : ¬ Gone (x.setText (a ++ b)) := not_gone_text hk (by simp [ha])
  by_cases hb : b = []
  · subst hb
    rw [pushI_gone (x := x.setText []) (.inr ⟨by rw [setText_kind]; exact hk, setText_text _ _⟩), List.append_nil]
  · have gb := not_gone_text hk hb
    have self : Joins (x.setText a) (x.setText b) := ⟨by rw [setText_kind]; exact hk, by rw [setText_kind]; exact hk, by rw [setText_head, setText_head]⟩
    rcases snoc_cases s with rfl | ⟨ds, y, rfl⟩
    · rw [pushI_one ga, pushI_one gab]
      have := pushI_join (ds := []) gb self
      simp only [List.nil_append, setText_text, setText_setText] at this
      exact this
    · by_cases hj : Joins y (x.setText a)
      · rw [pushI_join ga hj]
        have hj1 : Joins (y.setText (y.text ++ (x.setText a).text)) (x.setText b) := ⟨by rw [setText_kind]; exact hk, by rw [setText_kind]; exact hj.2.1, by rw [setText_head, setText_head]; have := hj.2.2; rwa [setText_head] at this⟩
        have hj2 : Joins y (x.setText (a ++ b)) := ⟨by rw [setText_kind]; exact hk, hj.2.1, by have := hj.2.2; rwa [setText_head] at this ⊢⟩
        rw [pushI_join gb hj1, pushI_join gab hj2]
        simp [setText_text, setText_setText]
      · have hj2 : ¬ Joins y (x.setText (a ++ b)) := fun q => hj ⟨by rw [setText_kind]; exact hk, q.2.1, by have := q.2.2; rwa [setText_head] at this ⊢⟩
        rw [pushI_apart ga hj, pushI_apart gab hj2, pushI_join gb self]
        simp [setText_text, setText_setText]
theorem pushI_twoI {u : List Item} {y x : Item} (hy : ¬ Gone y) (hx : ¬ Gone x) (hj : Joins y x) : pushI (pushI u y) x = pushI u (y.setText (y.text ++ x.text)) := by
  have ht : y.text ≠ [] := fun h => hy (.inr ⟨hj.2.1, h⟩)
  have htx : x.text ≠ [] := fun h => hx (.inr ⟨hj.1, h⟩)
  have gy' : ¬ Gone (y.setText (y.text ++ x.text)) := not_gone_text hj.2.1 (by simp [ht])
  rcases snoc_cases u with rfl | ⟨ds, z, rfl⟩
  · rw [pushI_one hy, pushI_one gy']
    have := pushI_join (ds := []) hx hj
    simpa using this
  · by_cases hz : Joins z y
    · rw [pushI_join hy hz]
      have h1 : Joins (z.setText (z.text ++ y.text)) x := ⟨hj.1, by rw [setText_kind]; exact hz.2.1, by rw [setText_head, hz.2.2, hj.2.2]⟩
      have h2 : Joins z (y.setText (y.text ++ x.text)) := ⟨by rw [setText_kind]; exact hj.2.1, hz.2.1, by rw [setText_head]; exact hz.2.2⟩
      rw [pushI_join hx h1, pushI_join gy' h2]
      simp [setText_text, setText_setText]
    · have h2 : ¬ Joins z (y.setText (y.text ++ x.text)) := fun q => hz ⟨hj.2.1, q.2.1, by have := q.2.2; rwa [setText_head] at this⟩
      rw [pushI_apart hy hz, pushI_apart gy' h2, pushI_join hx hj]
theorem snocInd {α : Type} {p : List α → Prop} (h0 : p []) (h1 : ∀ l x, p l → p (l ++ [x])) (l : List α) : p l := by
  have key : ∀ r : List α, p r.reverse := by
    intro r
    induction r with
    | nil => exact h0
    | cons x r ih => rw [List.reverse_cons]; exact h1 _ _ ih
  have := key l.reverse
  rwa [List.reverse_reverse] at this
theorem fold_normL (s : List Item) (b : List Item) : (normL b).foldl pushI s = (b.map normItem).foldl pushI s := by
  have key : ∀ (c : List Item), (c.foldl pushI []).foldl pushI s = c.foldl pushI s := by
    intro c
    have hst : ∀ c : List Item, Stable (c.foldl pushI []) := fun c => fold_stable c .nil
    refine snocInd (p := fun c => (c.foldl pushI []).foldl pushI s = c.foldl pushI s) rfl ?_ c
    · intro c x ih
      rw [List.foldl_append, List.foldl_append]
      simp only [List.foldl_cons, List.foldl_nil]
      by_cases hg : Gone x
      · rw [pushI_gone hg, ih, pushI_gone hg]
      · rcases snoc_cases (c.foldl pushI []) with h0 | ⟨ds, y, h0⟩
        · rw [h0] at ih ⊢
          rw [pushI_one hg, ← ih]; rfl
        · have hgy := (hst c).last h0
          rw [h0] at ih ⊢
          rw [List.foldl_append] at ih
          simp only [List.foldl_cons, List.foldl_nil] at ih
          by_cases hj : Joins y x
          · rw [pushI_join hg hj, List.foldl_append]
            simp only [List.foldl_cons, List.foldl_nil]
            rw [← pushI_twoI hgy hg hj, ih]
          · rw [pushI_apart hg hj, List.foldl_append, List.foldl_append]
            simp only [List.foldl_cons, List.foldl_nil]
            rw [ih]
  exact key _
theorem normL_append (a b : List Item) : normL (a ++ b) = (b.map normItem).foldl pushI (normL a) := by
  unfold normL; rw [List.map_append, List.foldl_append]
theorem normL_appR (a b : List Item) : normL (a ++ normL b) = normL (a ++ b) := by
  rw [normL_append, normL_append, normL_fixed, fold_normL]
theorem normL_appL (a b : List Item) : normL (normL a ++ b) = normL (a ++ b) := by
  rw [normL_append, normL_append, normL_idem]
/-! units: the parts of a flow before and behind a unit -/

theorem bat_take {l : List UInt8} {k : Nat} {i : Int} (h0 : 0 ≤ i) (h : i < k) : bat (l.take k) i = bat l i := by
  have hi : i.toNat < k := by omega
  simp [bat, List.getD, List.getElem?_take, hi]
theorem enc_take {l : List UInt8} (hl : l ≠ []) (h : enc l 0 ≠ 0) : enc (l.take (enc l 0).toNat) 0 = enc l 0 := by
  have hp : 0 < l.length := List.length_pos_iff.2 hl
  have hf := enc_fits l 0 (by omega) (by omega)
  have hb := enc_b l 0
  generalize hk : (enc l 0).toNat = k
  have hk1 : 1 ≤ k := by omega
  have hkl : k ≤ l.length := by omega
  have hlen : (l.take k).length = k := by simp; omega
  have h0 : bat (l.take k) 0 = bat l 0 := bat_take (by omega) (by omega)
  have he : enc l 0 = k := by omega
  rw [he]
  unfold enc at he ⊢
  rw [h0]
  split at he
  · rename_i h1
    rw [if_pos h1]; exact he
  · rename_i h1
    rw [if_neg h1]
    split at he
    · omega
    · rename_i h2
      rw [if_neg h2]
      split at he
      · rename_i h3
        obtain ⟨q1, q2, q3, q4⟩ := h3
        have h2t : 2 ≤ tailSize (bat l 0) := by
          have := tailSize_le (bat l 0)
          by_cases h1t : tailSize (bat l 0) = 1
          · exact absurd (tailSize_one h1t) h1
          · omega
        have hb1 : bat (l.take k) (0 + 1) = bat l (0 + 1) := bat_take (by omega) (by omega)
        have hb2 : 3 ≤ tailSize (bat l 0) → bat (l.take k) (0 + 2) = bat l (0 + 2) := fun hh => bat_take (by omega) (by omega)
        have hb3 : 4 ≤ tailSize (bat l 0) → bat (l.take k) (0 + 3) = bat l (0 + 3) := fun hh => bat_take (by omega) (by omega)
        rw [if_pos ⟨by rw [hlen]; omega, by rw [hb1]; exact q2, fun hh => by rw [hb2 hh]; exact q3 hh, fun hh => by rw [hb3 hh]; exact q4 hh⟩]
        exact he
      · omega
theorem chars_each : ∀ (n : Nat) (l : List UInt8) (cs : List (List UInt8)), l.length ≤ n → chars l = some cs → ∀ c ∈ cs, chars c = some [c] ∧ c ≠ [] := by
  intro n
  induction n with
  | zero =>
    intro l cs h hc
    have : l = [] := List.eq_nil_of_length_eq_zero (by omega)
    subst this
    rw [chars_nil] at hc
    cases hc
    intro c hc; cases hc
  | succ n ih =>
    intro l cs h hc
    by_cases hl : l = []
    · subst hl
      rw [chars_nil] at hc
      cases hc
      intro c hc; cases hc
    · by_cases he : enc l 0 = 0
      · rw [chars_no hl he] at hc; cases hc
      · have hp : 0 < l.length := List.length_pos_iff.2 hl
        have hf := enc_fits l 0 (by omega) (by omega)
        have hb := enc_b l 0
        rw [chars_step hl he] at hc
        obtain ⟨cs', hc', rfl⟩ := Option.map_eq_some_iff.1 hc
        intro c hcm
        rcases List.mem_cons.1 hcm with hcm | hcm
        · rw [hcm]
          have hne : l.take (enc l 0).toNat ≠ [] := by
            intro h0
            have h1 := congrArg List.length h0
            rw [List.length_take, List.length_nil] at h1; omega
          refine ⟨?_, hne⟩
          have het := enc_take hl he
          rw [chars_step hne (by rw [het]; exact he), het]
          rw [List.take_take, Nat.min_self, List.drop_eq_nil_of_le (by simp; omega), chars_nil]
          rfl
        · exact ih _ cs' (by simp; omega) hc' c hcm
theorem chars_flatten : ∀ {cs : List (List UInt8)}, (∀ c ∈ cs, chars c = some [c]) → chars cs.flatten = some cs
  | [], _ => chars_nil
  | c :: cs, h => by
    have h1 := chars_append c.length c cs.flatten [c] (Nat.le_refl _) (h c (by simp))
    rw [chars_flatten fun d hd => h d (by simp [hd])] at h1
    simpa using h1
/-- the text before and behind a character -/
theorem cut_text {l : List UInt8} (hv : valid l) {u : Nat} (hu : u < nchars l) : (offset l u).toNat = ((charsOf l).take u).flatten.length ∧
    charsOf (l.take (offset l u).toNat) = (charsOf l).take u ∧ charsOf (l.drop (offset l u).toNat) = (charsOf l).drop u ∧ valid (l.take (offset l u).toNat) ∧ valid (l.drop (offset l u).toNat) := by
  have hv' := hv
  unfold valid at hv'
  obtain ⟨cs, hcs⟩ := Option.isSome_iff_exists.1 hv'
  obtain ⟨h1, h2, h3⟩ := chars_spec l.length l (Nat.le_refl _) cs hcs
  have hn : nchars l = cs.length := by unfold nchars; rw [hcs]; rfl
  have hco : charsOf l = cs := by unfold charsOf; rw [hcs]; rfl
  have hul : u < cs.length := by omega
  have ho : offset l u = ((cs.take u).flatten.length : Nat) := by
    unfold offset
    rw [if_pos ⟨hv, by omega, by omega⟩]
    unfold iat
    have : (u : Int).toNat = u := by simp
    rw [this, List.getD_eq_getElem?_getD, List.getElem?_append_left (by omega), h3 u hul]
    rfl
  have hot : (offset l u).toNat = (cs.take u).flatten.length := by rw [ho]; simp
  have hsp : l = (cs.take u).flatten ++ (cs.drop u).flatten := by rw [← List.flatten_append, List.take_append_drop, h1]
  have ht : l.take (offset l u).toNat = (cs.take u).flatten := by
    rw [hot]
    conv => lhs; rw [hsp]
    exact List.take_left
  have hd : l.drop (offset l u).toNat = (cs.drop u).flatten := by
    rw [hot]
    conv => lhs; rw [hsp]
    exact List.drop_left
  have hc := chars_each l.length l cs (Nat.le_refl _) hcs
  have e1 := chars_flatten (cs := cs.take u) fun c hcm => (hc c (List.mem_of_mem_take hcm)).1
  have e2 := chars_flatten (cs := cs.drop u) fun c hcm => (hc c (List.mem_of_mem_drop hcm)).1
  rw [hco]
  refine ⟨hot, ?_, ?_, ?_, ?_⟩
  · rw [ht]; unfold charsOf; rw [e1]; rfl
  · rw [hd]; unfold charsOf; rw [e2]; rfl
  · rw [ht]; unfold valid; rw [e1]; rfl
  · rw [hd]; unfold valid; rw [e2]; rfl
theorem split_setText {x : Item} (hk : x.kind = 1) (t : List UInt8) : (x.setText t).split = (charsOf t).map x.setText := by
  unfold Item.split
  rw [if_pos (by rw [setText_kind]; exact hk), setText_text]
  apply List.map_congr_left
  intro c _
  exact setText_setText _ _ _
theorem unitsL_one (x : Item) : unitsL [x] = x.split := by simp [unitsL]
/-- an item at a unit -/
theorem item_cut {at_ f : Int} {x : Item} (h : x.ok) : unitsL (lItem at_ f x) = x.split.take (at_ - f).toNat ∧ unitsL (rItem at_ f x) = x.split.drop (at_ - f).toNat ∧ okL (lItem at_ f x) ∧ okL (rItem at_ f x) := by
  have hu := units_split h
  have ok1 : okL [x] := fun y hy => by simp at hy; subst hy; exact h
  have ok0 : okL [] := fun y hy => by cases hy
  unfold lItem rItem
  by_cases h1 : f + x.units ≤ at_
  · rw [if_pos h1, if_pos h1, unitsL_one]
    refine ⟨(List.take_of_length_le (by omega)).symm, ?_, ok1, ok0⟩
    rw [List.drop_of_length_le (by omega)]; rfl
  · rw [if_neg h1, if_neg h1]
    by_cases h2 : at_ ≤ f
    · rw [if_pos h2, if_pos h2, unitsL_one, show (at_ - f).toNat = 0 by omega]
      exact ⟨rfl, rfl, ok0, ok1⟩
    · rw [if_neg h2, if_neg h2]
      have hk : x.kind = 1 := by
        by_cases hk : x.kind = 1
        · exact hk
        · exfalso
          unfold Item.units at h1
          rw [if_neg hk] at h1
          omega
      have hv := h hk
      have hsl : x.split = (charsOf x.text).map x.setText := by unfold Item.split; rw [if_pos hk]
      have hn : nchars x.text = x.split.length := by rw [hsl]; simp [nchars, charsOf]
      have hc : cutAt at_ f x = (offset x.text ((at_ - f).toNat : Nat)).toNat := by
        unfold cutAt
        rw [show (((at_ - f).toNat : Nat) : Int) = at_ - f by omega]
      obtain ⟨_, g1, g2, g3, g4⟩ := cut_text hv (u := (at_ - f).toNat) (by omega)
      rw [unitsL_one, unitsL_one, split_setText hk, split_setText hk, hc, g1, g2, hsl, List.map_take, List.map_drop]
      refine ⟨rfl, rfl, fun y hy => ?_, fun y hy => ?_⟩
      · rw [List.mem_singleton] at hy; subst hy; intro _; rw [setText_text]; exact g3
      · rw [List.mem_singleton] at hy; subst hy; intro _; rw [setText_text]; exact g4
theorem flow_cut (at_ : Int) : ∀ (f : Int) (l : List Item), okL l → unitsL (lFlow at_ f l) = (unitsL l).take (at_ - f).toNat ∧ unitsL (rFlow at_ f l) = (unitsL l).drop (at_ - f).toNat ∧ okL (lFlow at_ f l) ∧ okL (rFlow at_ f l)
  | f, [], h => ⟨by simp [lFlow, unitsL], by simp [rFlow, unitsL], h, h⟩
  | f, x :: l, h => by
    obtain ⟨a1, a2, a3, a4⟩ := item_cut (at_ := at_) (f := f) (h x (by simp))
    obtain ⟨b1, b2, b3, b4⟩ := flow_cut at_ (f + x.units) l fun y hy => h y (by simp [hy])
    have hu := units_split (h x (by simp))
    have hub := x.units_b
    have hc : unitsL (x :: l) = x.split ++ unitsL l := by simp [unitsL]
    have hs : (at_ - (f + x.units)).toNat = (at_ - f).toNat - x.split.length := by omega
    refine ⟨?_, ?_, fun y hy => ?_, fun y hy => ?_⟩
    · rw [lFlow, unitsL_append, a1, b1, hc, List.take_append, hs]
    · rw [rFlow, unitsL_append, a2, b2, hc, List.drop_append, hs]
    · rcases List.mem_append.1 hy with q | q
      · exact a3 y q
      · exact b3 y q
    · rcases List.mem_append.1 hy with q | q
      · exact a4 y q
      · exact b4 y q
theorem push_chars {x : Item} (hk : x.kind = 1) : ∀ (cs : List (List UInt8)) (s : List Item), (∀ c ∈ cs, c ≠ []) → (cs.map x.setText).foldl pushI s = pushI s (x.setText cs.flatten)
  | [], s, _ => by
    rw [pushI_gone (x := x.setText [].flatten) (.inr ⟨by rw [setText_kind]; exact hk, setText_text _ _⟩)]
    rfl
  | c :: cs, s, h => by
    simp only [List.map_cons, List.foldl_cons, List.flatten_cons]
    rw [push_chars hk cs _ fun d hd => h d (by simp [hd]), pushI_two hk (h c (by simp))]
theorem push_split {x : Item} (h : x.ok) (s : List Item) : (x.split.map normItem).foldl pushI s = pushI s (normItem x) := by
  unfold Item.split
  by_cases hk : x.kind = 1
  · rw [if_pos hk]
    have hv := h hk
    have hv' := hv
    unfold valid at hv'
    obtain ⟨cs, hcs⟩ := Option.isSome_iff_exists.1 hv'
    have hco : charsOf x.text = cs := by unfold charsOf; rw [hcs]; rfl
    obtain ⟨h1, _, _⟩ := chars_spec x.text.length x.text (Nat.le_refl _) cs hcs
    have hc := chars_each x.text.length x.text cs (Nat.le_refl _) hcs
    have hm : ((charsOf x.text).map x.setText).map normItem = cs.map (normItem x).setText := by
      rw [hco, List.map_map]
      apply List.map_congr_left
      intro c _
      exact normItem_setText x c
    rw [hm, push_chars (by rw [normItem_kind]; exact hk) cs s fun c hcm => (hc c hcm).2, h1]
    have : (normItem x).setText x.text = normItem x := by
      have := setText_self (normItem x)
      rwa [normItem_text] at this
    rw [this]
  · rw [if_neg hk]; rfl
theorem fold_units : ∀ (l : List Item) (s : List Item), okL l → ((unitsL l).map normItem).foldl pushI s = (l.map normItem).foldl pushI s
  | [], s, _ => rfl
  | x :: l, s, h => by
    have hc : unitsL (x :: l) = x.split ++ unitsL l := by simp [unitsL]
    rw [hc, List.map_append, List.foldl_append, push_split (h x (by simp)), List.map_cons, List.foldl_cons]
    exact fold_units l _ fun y hy => h y (by simp [hy])
theorem normL_units {l : List Item} (h : okL l) : normL (unitsL l) = normL l := fold_units l [] h
/-- Split and Slice, in units -/
theorem normL_left {l : List Item} (h : okL l) (at_ : Int) : normL (lFlow at_ 0 l) = normL ((unitsL l).take at_.toNat) := by
  obtain ⟨a, b, c, d⟩ := flow_cut at_ 0 l h
  rw [← normL_units c, a]
  simp
theorem normL_right {l : List Item} (h : okL l) (at_ : Int) : normL (rFlow at_ 0 l) = normL ((unitsL l).drop at_.toNat) := by
  obtain ⟨a, b, c, d⟩ := flow_cut at_ 0 l h
  rw [← normL_units d, b]
  simp
theorem normL_part {l : List Item} (h : okL l) (from_ to : Int) : normL (rFlow from_ 0 (lFlow to 0 l)) = normL (((unitsL l).take to.toNat).drop from_.toNat) := by
  obtain ⟨a, b, c, d⟩ := flow_cut to 0 l h
  rw [normL_right c, a]
  simp
/-! mass, text, units of the normal form -/

theorem pushI_mass (out : List Item) (x : Item) : massL (pushI out x) ≤ massL out + x.mass := by
  by_cases hg : Gone x
  · rw [pushI_gone hg]; omega
  · rcases snoc_cases out with rfl | ⟨ds, y, rfl⟩
    · rw [pushI_one hg]; simp [massL]
    · by_cases hj : Joins y x
      · rw [pushI_join hg hj, massL_append, massL_append]
        have h1 := setText_mass y (y.text ++ x.text)
        have h2 := x.mass_eq
        rw [List.length_append] at h1
        simp only [massL]; omega
      · rw [pushI_apart hg hj, massL_append]; simp only [massL]; omega
theorem fold_mass (l : List Item) : ∀ s : List Item, massL (l.foldl pushI s) ≤ massL s + massL l := by
  induction l with
  | nil => intro s; simp [massL]
  | cons x l ih =>
    intro s
    have h1 := ih (pushI s x)
    have h2 := pushI_mass s x
    simp only [List.foldl_cons, massL]; omega
theorem massR_keep (rows : List Row) : massR (keepR rows) ≤ massR rows := by
  induction rows with
  | nil => simp [keepR]
  | cons x l ih =>
    obtain ⟨h, c⟩ := x
    have : keepR ((h, c) :: l) = if c ≠ [] then (h, c) :: keepR l else keepR l := by
      unfold keepR; rw [List.filter_cons]; simp
    rw [this]
    split <;> simp only [massR] <;> omega
theorem massC_norm {cells : List Cell} (h : ∀ c ∈ cells, massL (normL c.2.2) ≤ massL c.2.2) : massC (cells.map normCell) ≤ massC cells := by
  induction cells with
  | nil => simp
  | cons x l ih =>
    obtain ⟨i, hd, f⟩ := x
    have h1 := h (i, hd, f) (by simp)
    have h2 := ih fun c hc => h c (by simp [hc])
    simp only [List.map_cons, normCell, massC] at *
    omega
theorem massR_norm {rows : List Row} (h : ∀ r ∈ rows, ∀ c ∈ r.2, massL (normL c.2.2) ≤ massL c.2.2) : massR (rows.map normRow) ≤ massR rows := by
  induction rows with
  | nil => simp
  | cons x l ih =>
    obtain ⟨hd, cs⟩ := x
    have h1 := massC_norm (h (hd, cs) (by simp))
    have h2 := ih fun c hc => h c (by simp [hc])
    simp only [List.map_cons, normRow, massR] at *
    omega
theorem normL_mass_lt : ∀ (N : Nat) (l : List Item), massL l < N → massL (normL l) ≤ massL l
  | 0, l, h => absurd h (by omega)
  | N + 1, l, h => by
    have hit : ∀ x ∈ l, (normItem x).mass ≤ x.mass := by
      intro x hx
      have hm := massL_mem' hx
      have e1 := normL_mass_lt N x.flow (by omega)
      have e2 := massR_norm (rows := x.rows) fun r hr c hc => by
        have := massR_mem' hr
        have := massC_mem' hc
        exact normL_mass_lt N c.2.2 (by omega)
      have e3 := massR_keep (x.rows.map normRow)
      rw [normItem_eq, Item.mass, x.mass_eq]
      omega
    have hm : ∀ k : List Item, (∀ x ∈ k, (normItem x).mass ≤ x.mass) → massL (k.map normItem) ≤ massL k := by
      intro k
      induction k with
      | nil => simp [massL]
      | cons x k ih => intro hk; have h1 := hk x (by simp); have h2 := ih fun y hy => hk y (by simp [hy]); simp only [List.map_cons, massL]; omega
    have h1 := fold_mass (l.map normItem) []
    have h2 := hm l hit
    simp only [massL] at h1
    show massL ((l.map normItem).foldl pushI []) ≤ _
    omega
theorem normL_mass (l : List Item) : massL (normL l) ≤ massL l := normL_mass_lt (massL l + 1) l (by omega)

/-- a Table that goes -/
def Van (l : List Item) : Prop := ∃ x ∈ l, x.kind = 7 ∧ ∀ r ∈ x.rows, r.2 = []
theorem keepR_nil {rows : List Row} : keepR (rows.map normRow) = [] ↔ ∀ r ∈ rows, r.2 = [] := by
  unfold keepR
  rw [List.filter_eq_nil_iff]
  constructor
  · intro h r hr
    have := h (normRow r) (List.mem_map_of_mem hr)
    simpa [normRow] using this
  · intro h q hq
    obtain ⟨r, hr, rfl⟩ := List.mem_map.1 hq
    simp [normRow, h r hr]
theorem normItem_code (x : Item) : (normItem x).code = x.code := by rw [normItem_eq]; rfl
theorem chr_normItem (x : Item) : chr (normItem x) = chr x := by unfold chr; rw [normItem_kind, normItem_code]
theorem itext_normItem (x : Item) : itext (normItem x) = itext x := by unfold itext; rw [normItem_kind, normItem_text, chr_normItem]
theorem itext_setText {x : Item} (hk : x.kind = 1) (t : List UInt8) : itext (x.setText t) = t := by
  unfold itext; rw [if_pos (by rw [setText_kind]; exact hk), setText_text]
theorem itext_one {x : Item} (hk : x.kind = 1) : itext x = x.text := by unfold itext; rw [if_pos hk]
theorem ftext_one (x : Item) : ftext [x] = itext x := by simp [ftext]
theorem pushI_ftext (out : List Item) {x : Item} (hv : ¬ (x.kind = 7 ∧ x.rows = [])) : ftext (pushI out x) = ftext out ++ itext x := by
  by_cases hg : Gone x
  · rw [pushI_gone hg]
    rcases hg with h | ⟨h1, h2⟩
    · exact absurd h hv
    · rw [itext_one h1, h2, List.append_nil]
  · rcases snoc_cases out with rfl | ⟨ds, y, rfl⟩
    · rw [pushI_one hg, ftext_one]; rfl
    · by_cases hj : Joins y x
      · rw [pushI_join hg hj, ftext_append, ftext_append, ftext_one, ftext_one, itext_setText hj.2.1, itext_one hj.2.1, itext_one hj.1, List.append_assoc]
      · rw [pushI_apart hg hj, ftext_append _ [x], ftext_one]
theorem fold_ftext (l : List Item) : ∀ s : List Item, (∀ x ∈ l, ¬ (x.kind = 7 ∧ x.rows = [])) → ftext (l.foldl pushI s) = ftext s ++ ftext l := by
  induction l with
  | nil => intro s _; simp [ftext]
  | cons x l ih =>
    intro s h
    rw [List.foldl_cons, ih _ fun y hy => h y (by simp [hy]), pushI_ftext _ (h x (by simp)), List.append_assoc]
    rfl
theorem van_norm {l : List Item} (h : ¬ Van l) : ∀ x ∈ l.map normItem, ¬ (x.kind = 7 ∧ x.rows = []) := by
  intro y hy
  obtain ⟨x, hx, rfl⟩ := List.mem_map.1 hy
  rintro ⟨h1, h2⟩
  rw [normItem_kind] at h1
  rw [normItem_rows] at h2
  exact h ⟨x, hx, h1, keepR_nil.1 h2⟩
theorem ftext_map (l : List Item) : ftext (l.map normItem) = ftext l := by
  induction l with
  | nil => rfl
  | cons x l ih => simp only [List.map_cons, ftext, ih, itext_normItem]
theorem normL_ftext {l : List Item} (h : ¬ Van l) : ftext (normL l) = ftext l := by
  show ftext ((l.map normItem).foldl pushI []) = _
  rw [fold_ftext _ _ (van_norm h), ftext_map]
  rfl
/-! units -/
theorem Item.ok_split_units {x : Item} (hk : x.kind = 1) (h : valid x.text) : x.units = (charsOf x.text).length := by
  unfold Item.units
  rw [if_pos hk]
  unfold count
  rw [if_pos h]
  simp [charsOf, nchars]
theorem units_normItem (x : Item) : (normItem x).units = x.units := by unfold Item.units; rw [normItem_kind, normItem_text]
theorem ok_normItem {x : Item} (h : x.ok) : (normItem x).ok := by intro hk; rw [normItem_kind] at hk; rw [normItem_text]; exact h hk
theorem pushI_ok {out : List Item} {x : Item} (ho : okL out) (hx : x.ok) : okL (pushI out x) := by
  by_cases hg : Gone x
  · rw [pushI_gone hg]; exact ho
  · rcases snoc_cases out with rfl | ⟨ds, y, rfl⟩
    · rw [pushI_one hg]; intro z hz; rw [List.mem_singleton] at hz; subst hz; exact hx
    · by_cases hj : Joins y x
      · rw [pushI_join hg hj]
        intro z hz
        rcases List.mem_append.1 hz with h1 | h1
        · exact ho z (by simp [h1])
        · rw [List.mem_singleton] at h1; subst h1
          intro _
          rw [setText_text]
          exact (valid_append (ho y (by simp) hj.2.1) (hx hj.1)).1
      · rw [pushI_apart hg hj]
        intro z hz
        rcases List.mem_append.1 hz with h1 | h1
        · exact ho z h1
        · rw [List.mem_singleton] at h1; subst h1; exact hx
theorem pushI_usum {out : List Item} {x : Item} (ho : okL out) (hx : x.ok) : usum (pushI out x) = usum out + (if x.kind = 7 ∧ x.rows = [] then 0 else x.units) := by
  by_cases hg : Gone x
  · rw [pushI_gone hg]
    rcases hg with h | ⟨h1, h2⟩
    · rw [if_pos h]; omega
    · rw [if_neg (by rintro ⟨h3, _⟩; omega), Item.ok_split_units h1 (hx h1), h2]
      simp [charsOf, chars_nil]
  · rw [if_neg fun h => hg (.inl h)]
    rcases snoc_cases out with rfl | ⟨ds, y, rfl⟩
    · rw [pushI_one hg]; simp [usum]
    · by_cases hj : Joins y x
      · have hv := valid_append (ho y (by simp) hj.2.1) (hx hj.1)
        rw [pushI_join hg hj, usum_append, usum_append]
        simp only [usum]
        rw [Item.ok_split_units hj.2.1 (ho y (by simp) hj.2.1), Item.ok_split_units hj.1 (hx hj.1), Item.ok_split_units (x := y.setText (y.text ++ x.text)) (by rw [setText_kind]; exact hj.2.1) (by rw [setText_text]; exact hv.1), setText_text, hv.2, List.length_append]
        omega
      · rw [pushI_apart hg hj, usum_append]; simp [usum]
theorem fold_ok (l : List Item) : ∀ s : List Item, okL s → okL l → okL (l.foldl pushI s) := by
  induction l with
  | nil => intro s h _; exact h
  | cons x l ih => intro s h hl; exact ih _ (pushI_ok h (hl x (by simp))) fun y hy => hl y (by simp [hy])
theorem fold_usum (l : List Item) : ∀ s : List Item, okL s → okL l → (∀ x ∈ l, ¬ (x.kind = 7 ∧ x.rows = [])) → usum (l.foldl pushI s) = usum s + usum l := by
  induction l with
  | nil => intro s h _ _; simp [usum]
  | cons x l ih =>
    intro s h hl hv
    rw [List.foldl_cons, ih _ (pushI_ok h (hl x (by simp))) (fun y hy => hl y (by simp [hy])) (fun y hy => hv y (by simp [hy])), pushI_usum h (hl x (by simp)), if_neg (hv x (by simp))]
    simp only [usum]; omega
theorem fold_usum_le (l : List Item) : ∀ s : List Item, okL s → okL l → usum (l.foldl pushI s) ≤ usum s + usum l := by
  induction l with
  | nil => intro s h _; simp [usum]
  | cons x l ih =>
    intro s h hl
    have h1 := ih _ (pushI_ok h (hl x (by simp))) (fun y hy => hl y (by simp [hy]))
    have h2 := pushI_usum h (hl x (by simp))
    have h3 := x.units_b
    simp only [List.foldl_cons, usum]
    split at h2 <;> omega
theorem okL_map {l : List Item} (h : okL l) : okL (l.map normItem) := by
  intro y hy
  obtain ⟨x, hx, rfl⟩ := List.mem_map.1 hy
  exact ok_normItem (h x hx)
theorem usum_map (l : List Item) : usum (l.map normItem) = usum l := by
  induction l with
  | nil => rfl
  | cons x l ih => simp only [List.map_cons, usum, ih, units_normItem]
theorem okL_nil : okL [] := fun y hy => by cases hy
theorem normL_ok {l : List Item} (h : okL l) : okL (normL l) := fold_ok _ [] okL_nil (okL_map h)
theorem normL_usum {l : List Item} (h : okL l) (hv : ¬ Van l) : usum (normL l) = usum l := by
  show usum ((l.map normItem).foldl pushI []) = _
  rw [fold_usum _ _ okL_nil (okL_map h) (van_norm hv), usum_map]
  simp [usum]
theorem normL_usum_le {l : List Item} (h : okL l) : usum (normL l) ≤ usum l := by
  have h1 := fold_usum_le (l.map normItem) [] okL_nil (okL_map h)
  rw [usum_map] at h1
  simp only [usum] at h1
  show usum ((l.map normItem).foldl pushI []) ≤ _
  omega
/-- a flow in normal form has no Table that goes -/
theorem Stable.van {l : List Item} (h : Stable l) : ∀ x ∈ l, ¬ Gone x := by
  induction h with
  | nil => intro x hx; cases hx
  | one h => intro x hx; rw [List.mem_singleton] at hx; subst hx; exact h
  | snoc t h hj ih =>
    intro x hx
    rcases List.mem_append.1 hx with h1 | h1
    · exact ih x h1
    · rw [List.mem_singleton] at h1; subst h1; exact h
attribute [local irreducible] wpA opsA drJ drQ drE Ef Ev Shift Fn

def WPost2 (B : Nat) (H : Hp) : Value → Hp → Own → Prop := fun v H' I' => (∃ w d : Int, v = .tuple [.int .i64 w, .int .i64 d].toArray ∧ 0 ≤ w ∧ w ≤ B ∧ 0 ≤ d ∧ d ≤ B + 1 ∧ (5000 ≤ w ∨ (B : Int) ≤ 20 * w)) ∧ H' = H ∧ I' = []
set_option maxRecDepth 100000 in
set_option maxHeartbeats 2000000 in
theorem Weight2_fn : ∀ (N : Nat) {H : Hp} {a : Option Addr} {n cp : Nat} {l : List Item}, FlowH H a n cp l → massL l ≤ N → N < 68719476736 → Fn Try.prog 46 [.slice a n cp] H [] (WPost2 (massL l) H) := by
  intro N
  induction N using Nat.strongRecOn with
  | _ N ih =>
  intro H a n cp l hx hN hN2
  have hn := hx.len
  have hll := massL_len l
  refine Fn_of _ _ Try.func46 rfl Try.ntmps46 rfl fun c => ?_
  repeat' (first | refine O_nil ?_ | refine A_seq ?_ | refine A_region ?_ | refine A_block ?_ | (show opsA _ _ _ _ _ _ _; first | refine O_ev WideF.wide rfl (Ev_pure rfl) rfl rfl ?_ | (show opsA _ _ _ _ (⟨_, .call _, _, _, _, _⟩ :: _) _ _; refine O_ev WideF.wide rfl (Ev_llen rfl) rfl rfl ?_)))
  refine A_loopu (fun m s => ∃ (i : Nat) (w d : Int), m = n - i ∧ i ≤ n ∧ 0 ≤ w ∧ w ≤ massL (l.take i) + (n - i) ∧ 0 ≤ d ∧ d ≤ massL (l.take i) + 1 ∧ (5000 ≤ w ∨ massL (l.take i) + 20 * (n - i) ≤ 20 * w) ∧ s = wSt H a n cp w d i) ?_ ?_
  · exact Shift.to ⟨_, 0, n, 1, rfl, by omega, by omega, by simp [massL], by omega, by omega, by simp [massL], rfl⟩ ⟨rfl, rfl, rfl, ⟨rfl, rfl, rfl, rfl, trivial⟩, Own.sub_nil _⟩
  · rintro m s ⟨i, w, d, rfl, hi, hw0, hw1, hd0, hd1, hlo, rfl⟩
    have hm0 : massL (l.take i) + (n - i) ≤ massL l := by
      have : massL (l.take i ++ l.drop i) = massL l := by rw [List.take_append_drop]
      have hd := massL_len (l.drop i)
      rw [List.length_drop] at hd
      rw [massL_append] at this; omega
    by_cases hlt : i < n
    · obtain ⟨b', o, cs, x, rfl, hxi, hxc, hk, hc⟩ := hx.at i hlt
      have hm := massL_get hxi
      have hm2 := massL_mem hxi
      have hxm := x.mass_eq
      have hts : massL (l.take (i + 1)) = massL (l.take i) + x.mass := by rw [take_get hxi, massL_append]; simp [massL]
      obtain ⟨pa, pn, pc, da, dn, dc, la, ln, lc, fa, fn, fc, ra, rn, rc, rfl, hp1, hp2, hp3, hfl, hrw⟩ := hxc.cells
      have hpn : pn = x.head.props.length := by have := hp1.len; simp at this; omega
      have hdn : dn = x.head.dels.length := by have := hp2.len; simp at this; omega
      have hln : ln = x.head.layers.length := by have := hp3.len; simp at this; omega
      have hhm : x.head.mass = pn + dn + ln := by rw [hpn, hdn, hln]; rfl
      have hwf := ih (massL x.flow) (by omega) hfl (Nat.le_refl _) (by omega)
      repeat' (first | (refine A_drawi WideF.wide (.q 0 (.q 1 (.q 2 (.q 3 (.q 4 (.q 5 (.q 6 (.q 7 (.q 8 (.q 9 (.q 10 (.q 11 (.q 12 (.q 13 (.q 14 (.q 15 (.q 16 (.q 17 (.q 18 (.q 19 (.q 20 (.q 21 (.q 22 (.q 23 (.q 24 (.q 25 (.q 26 (.q 27 (.q 28 (.q 29 (.q 30 (.q 31 (.q 32 (.q 33 (.q 34 (.q 35 (.done []))))))))))))))))))))))))))))))))))))) [] [] [] (by decide +kernel) (by decide) rfl ?_; simp only [Own.picks, Own.rget, List.cons_append, List.nil_append, List.append_nil]) | (refine O_ef rfl (Ef_call (I := []) WideF.wide hwf ⟨rfl, trivial⟩ rfl ?_); rintro u H2 I' hle2 ⟨⟨w1, d1, rfl, hw10, hw11, hd10, hd11, hlo1⟩, rfl, rfl⟩) | refine O_nil ?_ | refine A_seq ?_ | refine A_region ?_ | refine A_skip ?_ | refine A_ret ?_ | refine A_block ?_ | (show drJ _ _ _ _ _ _ _ (.q _ _) _; refine D_q rfl ?_) | (show drJ _ _ _ _ _ _ _ (.done _) _; refine D_done ?_; simp only [List.cons_append, List.nil_append]) | (show drQ _ _ _ _ _ _; first | refine D_ev rfl (Ev_pure rfl) rfl rfl ?_ | (show drQ _ _ _ ⟨_, .load _ _, _, _, _, _⟩ _ _; first | refine D_ev rfl (Ev_loadH1 rfl (hc 3 _ rfl)) rfl rfl ?_ | refine D_ev rfl (Ev_loadH1 rfl (hc 4 _ rfl)) rfl rfl ?_ | refine D_ev rfl (Ev_loadH1 rfl (hc 7 _ rfl)) rfl rfl ?_ | refine D_ev rfl (Ev_loadH1 rfl (hc 8 _ rfl)) rfl rfl ?_) | (show drQ _ _ _ ⟨_, .indexAddr _ _ _, _, _, _, _⟩ _ _; refine D_ev rfl (Ev_indexAddr rfl rfl (by omega) (by omega)) rfl rfl ?_) | (show drQ _ _ _ ⟨_, .fieldAddr _ _ _, _, _, _, _⟩ _ _; refine D_ev rfl (Ev_fieldAddr rfl rfl rfl) rfl rfl ?_) | (show drQ _ _ _ ⟨_, .call _, _, _, _, _⟩ _ _; first | refine D_ev rfl (Ev_llen rfl) rfl rfl ?_ | refine D_ev rfl (Ev_slen rfl) rfl rfl ?_) | (show drQ _ _ _ ⟨_, .binOp _ _ _ _ _, _, _, _, _⟩ _ _; first | refine D_ev rfl (Ev_add rfl rfl (wi64 (by omega))) rfl rfl ?_ | refine D_ev rfl (Ev_quop rfl rfl (by omega) (by omega)) rfl rfl ?_)) | (show opsA _ _ _ _ _ _ _; first | (refine O_split rfl rfl (fun h => ?_) (fun h => ?_) <;> try (exfalso; omega)) | refine O_ev WideF.wide rfl (Ev_pure rfl) rfl rfl ?_ | (show opsA _ _ _ _ (⟨_, .load _ _, _, _, _, _⟩ :: _) _ _; refine O_ev WideF.wide rfl (Ev_loadH1 rfl (hc 9 _ rfl)) rfl rfl ?_) | (show opsA _ _ _ _ (⟨_, .indexAddr _ _ _, _, _, _, _⟩ :: _) _ _; refine O_ev WideF.wide rfl (Ev_indexAddr rfl rfl (by omega) (by omega)) rfl rfl ?_) | (show opsA _ _ _ _ (⟨_, .fieldAddr _ _ _, _, _, _, _⟩ :: _) _ _; refine O_ev WideF.wide rfl (Ev_fieldAddr rfl rfl rfl) rfl rfl ?_) | (show opsA _ _ _ _ (⟨_, .call _, _, _, _, _⟩ :: _) _ _; first | refine O_ev WideF.wide rfl (Ev_llen rfl) rfl rfl ?_ | refine O_ev WideF.wide rfl (Ev_maxi rfl rfl) rfl rfl ?_) | (show opsA _ _ _ _ (⟨_, .binOp _ _ _ _ _, _, _, _, _⟩ :: _) _ _; refine O_ev WideF.wide rfl (Ev_add rfl rfl (wi64 (by omega))) rfl rfl ?_)) | (show wpA _ _ _ (.exit _) _ _ _ _; refine A_exit rfl ?_) | (show wpA _ _ _ (.cond _ _ _) _ _ _ _; (refine A_if rfl (fun h => ?_) (fun h => ?_) <;> try (exfalso; omega))))
      · have hwb : w + pn + dn + ln + x.text.length / 20 + w1 ≤ massL (l.take i) + (n - i) + x.head.mass + x.text.length + massL x.flow := by omega
        have hrn := hrw.len
        have hrl := massR_len x.rows
        refine A_loopu (fun m s => ∃ (k : Nat) (w d : Int), m = rn - k ∧ k ≤ rn ∧ 0 ≤ w ∧ w ≤ massL (l.take i) + (n - i) + x.head.mass + x.text.length + massL x.flow + massR (x.rows.take k) ∧ 0 ≤ d ∧ d ≤ massL (l.take i) + x.mass + 1 ∧ (5000 ≤ w ∨ massL (l.take i) + 20 * (n - i) + x.head.mass + x.text.length + massL x.flow + massR (x.rows.take k) ≤ 20 * w + 19) ∧ s = wSt2 H2 (some ⟨b', o, none⟩) n cp w d i k) ?_ ?_
        · refine Shift.to ⟨_, 0, _, _, rfl, by omega, ?_, ?_, ?_, ?_, ?_, rfl⟩ ⟨rfl, rfl, rfl, ⟨rfl, rfl, rfl, rfl, rfl, trivial⟩, Own.sub_nil _⟩
          · omega
          · simp only [List.take_zero, massR]; omega
          · split <;> omega
          · split <;> omega
          · simp only [List.take_zero, massR]; omega
        · rintro m s ⟨k, w, d, rfl, hki, hw0, hw1, hd0, hd1, hlo, rfl⟩
          have hm4 : massR (x.rows.take k) ≤ massR x.rows := by
            have : massR (x.rows.take k ++ x.rows.drop k) = massR x.rows := by rw [List.take_append_drop]
            rw [massR_append] at this; omega
          by_cases hlk : k < rn
          · obtain ⟨rb, ro, rcs, r, rfl, hri, hrc, hrk, hcr⟩ := hrw.at k hlk
            have hm5 := massR_get hri
            have hm6 := massR_mem hri
            have hts2 : massR (x.rows.take (k + 1)) = massR (x.rows.take k) + (1 + r.1.mass + massC r.2) := by rw [take_get hri, massR_append]; obtain ⟨r1, r2⟩ := r; simp [massR]
            obtain ⟨pa2, pn2, pc2, da2, dn2, dc2, la2, ln2, lc2, ca, cn, cc, rfl, hq1, hq2, hq3, hcl⟩ := hrc.cells
            have hpn2 : pn2 = r.1.props.length := by have := hq1.len; simp at this; omega
            have hdn2 : dn2 = r.1.dels.length := by have := hq2.len; simp at this; omega
            have hln2 : ln2 = r.1.layers.length := by have := hq3.len; simp at this; omega
            have hhm2 : r.1.mass = pn2 + dn2 + ln2 := by rw [hpn2, hdn2, hln2]; rfl
            have hcn := hcl.len
            have hcll := massC_len r.2
            repeat' (first | refine O_nil ?_ | refine A_seq ?_ | refine A_region ?_ | refine A_skip ?_ | refine A_block ?_ | (show opsA _ _ _ _ _ _ _; first | (refine O_split rfl rfl (fun h => ?_) (fun h => ?_) <;> try (exfalso; omega)) | refine O_ev WideF.wide rfl (Ev_pure rfl) rfl rfl ?_ | (show opsA _ _ _ _ (⟨_, .load _ _, _, _, _, _⟩ :: _) _ _; first | refine O_ev WideF.wide rfl (Ev_loadB1 (i := 0) rfl rfl rfl) rfl rfl ?_ | refine O_ev WideF.wide rfl (Ev_loadH1 rfl (hc 10 _ rfl)) rfl rfl ?_ | refine O_ev WideF.wide rfl (Ev_loadH rfl (by assumption) (by rfl)) rfl rfl ?_) | (show opsA _ _ _ _ (⟨_, .indexAddr _ _ _, _, _, _, _⟩ :: _) _ _; refine O_ev WideF.wide rfl (Ev_indexAddr rfl rfl (by omega) (by omega)) rfl rfl ?_) | (show opsA _ _ _ _ (⟨_, .fieldAddr _ _ _, _, _, _, _⟩ :: _) _ _; refine O_ev WideF.wide rfl (Ev_fieldAddr rfl rfl rfl) rfl rfl ?_) | (show opsA _ _ _ _ (⟨_, .call _, _, _, _, _⟩ :: _) _ _; refine O_ev WideF.wide rfl (Ev_llen rfl) rfl rfl ?_) | (show opsA _ _ _ _ (⟨_, .binOp _ _ _ _ _, _, _, _, _⟩ :: _) _ _; refine O_ev WideF.wide rfl (Ev_add rfl rfl (wi64 (by omega))) rfl rfl ?_) | (show opsA _ _ _ _ (⟨_, .alloc _, _, _, _, _⟩ :: _) _ _; (refine O_ef rfl (Ef_alloc WideF.wide rfl ?_); intro b)) | (show opsA _ _ _ _ (⟨_, .store _ _ _, _, _, _, _⟩ :: _) _ _; refine O_ef rfl (Ef_storew WideF.wide rfl rfl rfl rfl rfl ?_))) | (show wpA _ _ _ (.exit _) _ _ _ _; refine A_exit rfl ?_) | (show wpA _ _ _ (.cond _ _ _) _ _ _ _; (refine A_if rfl (fun h => ?_) (fun h => ?_) <;> try (exfalso; omega))))
            · refine A_loopu (fun m s => ∃ (j : Nat) (w d : Int), m = cn - j ∧ j ≤ cn ∧ 0 ≤ w ∧ w ≤ massL (l.take i) + (n - i) + x.head.mass + x.text.length + massL x.flow + massR (x.rows.take k) + 1 + r.1.mass + massC (r.2.take j) ∧ 0 ≤ d ∧ d ≤ massL (l.take i) + x.mass + 1 ∧ (5000 ≤ w ∨ massL (l.take i) + 20 * (n - i) + x.head.mass + x.text.length + massL x.flow + massR (x.rows.take k) + 1 + r.1.mass + massC (r.2.take j) ≤ 20 * w + 19) ∧ s = wSt3 H2 (some ⟨b', o, none⟩) n cp w d i k b [.slice pa2 pn2 pc2, .int .i64 r.1.ins, .int .i64 r.1.move, .slice da2 dn2 dc2, .slice la2 ln2 lc2, .slice ca cn cc] j) ?_ ?_
              · refine Shift.to ⟨_, 0, _, _, rfl, by omega, ?_, ?_, hd0, hd1, ?_, rfl⟩ ⟨rfl, rfl, rfl, ⟨rfl, rfl, rfl, rfl, rfl, rfl, rfl, trivial⟩, Own.subi [0] (by decide) rfl rfl⟩
                · omega
                · simp only [List.take_zero, massC]; omega
                · simp only [List.take_zero, massC]; omega
              · rintro m s ⟨j, w, d, rfl, hji, hw0, hw1, hd0, hd1, hlo, rfl⟩
                have hm7 : massC (r.2.take j) ≤ massC r.2 := by
                  have : massC (r.2.take j ++ r.2.drop j) = massC r.2 := by rw [List.take_append_drop]
                  rw [massC_append] at this; omega
                by_cases hlj : j < cn
                · obtain ⟨cb, co, ccs, y, rfl, hci, hcc, hck, hcH⟩ := hcl.at j hlj
                  have hm8 := massC_get hci
                  have hm9 := massC_mem hci
                  have hts3 : massC (r.2.take (j + 1)) = massC (r.2.take j) + (1 + y.2.1.mass + massL y.2.2) := by rw [take_get hci, massC_append]; obtain ⟨y1, y2, y3⟩ := y; simp [massC]
                  obtain ⟨pa3, pn3, pc3, da3, dn3, dc3, la3, ln3, lc3, ga, gn, gc, rfl, hz1, hz2, hz3, hgl⟩ := hcc.cells
                  have hpn3 : pn3 = y.2.1.props.length := by have := hz1.len; simp at this; omega
                  have hdn3 : dn3 = y.2.1.dels.length := by have := hz2.len; simp at this; omega
                  have hln3 : ln3 = y.2.1.layers.length := by have := hz3.len; simp at this; omega
                  have hhm3 : y.2.1.mass = pn3 + dn3 + ln3 := by rw [hpn3, hdn3, hln3]; rfl
                  have hwg := ih (massL y.2.2) (by omega) hgl (Nat.le_refl _) (by omega)
                  have hc := hcH
                  repeat' (first | (refine A_drawi WideF.wide (.q 0 (.q 1 (.q 2 (.q 3 (.q 4 (.q 5 (.q 6 (.q 7 (.q 8 (.q 9 (.q 10 (.q 11 (.q 12 (.q 13 (.q 14 (.q 15 (.q 16 (.q 17 (.q 18 (.q 19 (.q 20 (.q 21 (.q 22 (.q 23 (.q 24 (.q 25 (.q 26 (.q 27 (.q 28 (.q 29 (.q 30 (.q 31 (.q 32 (.q 33 (.q 34 (.q 35 (.q 36 (.q 37 (.q 38 (.done [])))))))))))))))))))))))))))))))))))))))) [] [] [0] (by decide +kernel) (by decide) rfl ?_; simp only [Own.picks, Own.rget, List.cons_append, List.nil_append, List.append_nil]) | (refine O_ef rfl (Ef_call (I := []) WideF.wide hwg ⟨rfl, trivial⟩ rfl ?_); rintro u H3 I' hle3 ⟨⟨w2, d2, rfl, hw20, hw21, hd20, hd21, hlo2⟩, rfl, rfl⟩) | refine O_nil ?_ | refine A_seq ?_ | refine A_region ?_ | refine A_skip ?_ | refine A_block ?_ | (show drJ _ _ _ _ _ _ _ (.q _ _) _; refine D_q rfl ?_) | (show drJ _ _ _ _ _ _ _ (.done _) _; refine D_done ?_; simp only [List.cons_append, List.nil_append]) | (show drQ _ _ _ _ _ _; first | refine D_ev rfl (Ev_pure rfl) rfl rfl ?_ | (show drQ _ _ _ ⟨_, .load _ _, _, _, _, _⟩ _ _; first | refine D_ev rfl (Ev_loadB1 (i := 0) rfl rfl rfl) rfl rfl ?_ | refine D_ev rfl (Ev_loadH1 rfl (hc 1 _ rfl)) rfl rfl ?_ | refine D_ev rfl (Ev_loadH1 rfl (hc 4 _ rfl)) rfl rfl ?_ | refine D_ev rfl (Ev_loadH1 rfl (hc 5 _ rfl)) rfl rfl ?_) | (show drQ _ _ _ ⟨_, .indexAddr _ _ _, _, _, _, _⟩ _ _; refine D_ev rfl (Ev_indexAddr rfl rfl (by omega) (by omega)) rfl rfl ?_) | (show drQ _ _ _ ⟨_, .fieldAddr _ _ _, _, _, _, _⟩ _ _; refine D_ev rfl (Ev_fieldAddr rfl rfl rfl) rfl rfl ?_) | (show drQ _ _ _ ⟨_, .call _, _, _, _, _⟩ _ _; first | refine D_ev rfl (Ev_llen rfl) rfl rfl ?_ | refine D_ev rfl (Ev_maxi rfl rfl) rfl rfl ?_) | (show drQ _ _ _ ⟨_, .binOp _ _ _ _ _, _, _, _, _⟩ _ _; refine D_ev rfl (Ev_add rfl rfl (wi64 (by omega))) rfl rfl ?_)) | (show opsA _ _ _ _ _ _ _; first | (refine O_split rfl rfl (fun h => ?_) (fun h => ?_) <;> try (exfalso; omega)) | refine O_ev WideF.wide rfl (Ev_pure rfl) rfl rfl ?_ | (show opsA _ _ _ _ (⟨_, .load _ _, _, _, _, _⟩ :: _) _ _; first | refine O_ev WideF.wide rfl (Ev_loadB1 (i := 0) rfl rfl rfl) rfl rfl ?_ | refine O_ev WideF.wide rfl (Ev_loadH1 rfl (hc 6 _ rfl)) rfl rfl ?_) | (show opsA _ _ _ _ (⟨_, .indexAddr _ _ _, _, _, _, _⟩ :: _) _ _; refine O_ev WideF.wide rfl (Ev_indexAddr rfl rfl (by omega) (by omega)) rfl rfl ?_) | (show opsA _ _ _ _ (⟨_, .fieldAddr _ _ _, _, _, _, _⟩ :: _) _ _; refine O_ev WideF.wide rfl (Ev_fieldAddr rfl rfl rfl) rfl rfl ?_) | (show opsA _ _ _ _ (⟨_, .call _, _, _, _, _⟩ :: _) _ _; refine O_ev WideF.wide rfl (Ev_llen rfl) rfl rfl ?_) | (show opsA _ _ _ _ (⟨_, .binOp _ _ _ _ _, _, _, _, _⟩ :: _) _ _; refine O_ev WideF.wide rfl (Ev_add rfl rfl (wi64 (by omega))) rfl rfl ?_)) | (show wpA _ _ _ (.exit _) _ _ _ _; refine A_exit rfl ?_) | (show wpA _ _ _ (.cond _ _ _) _ _ _ _; (refine A_if rfl (fun h => ?_) (fun h => ?_) <;> try (exfalso; omega))))
                  · refine Shift.to ⟨_, ?_, j + 1, _, _, rfl, by omega, ?_, ?_, ?_, ?_, ?_, rfl⟩ ⟨rfl, rfl, rfl, ⟨rfl, rfl, rfl, rfl, rfl, rfl, rfl, trivial⟩, Own.subi [0] (by decide) rfl rfl⟩
                    · omega
                    · omega
                    · omega
                    · split <;> omega
                    · split <;> omega
                    · omega
                  · refine Shift.to ⟨_, ?_, k + 1, _, _, rfl, by omega, ?_, ?_, ?_, ?_, ?_, rfl⟩ ⟨rfl, rfl, rfl, ⟨rfl, rfl, rfl, rfl, rfl, trivial⟩, Own.sub_nil _⟩
                    all_goals omega
                · have hjn : j = cn := by omega
                  subst hjn
                  have htk : r.2.take j = r.2 := by rw [← hcn, List.take_length]
                  rw [htk] at hw1 hlo
                  repeat' (first | refine O_nil ?_ | refine A_seq ?_ | refine A_region ?_ | (show opsA _ _ _ _ _ _ _; first | (refine O_split rfl rfl (fun h => ?_) (fun h => ?_) <;> try (exfalso; omega)) | refine O_ev WideF.wide rfl (Ev_pure rfl) rfl rfl ?_ | (show opsA _ _ _ _ (⟨_, .load _ _, _, _, _, _⟩ :: _) _ _; refine O_ev WideF.wide rfl (Ev_loadB1 (i := 0) rfl rfl rfl) rfl rfl ?_) | (show opsA _ _ _ _ (⟨_, .fieldAddr _ _ _, _, _, _, _⟩ :: _) _ _; refine O_ev WideF.wide rfl (Ev_fieldAddr rfl rfl rfl) rfl rfl ?_) | (show opsA _ _ _ _ (⟨_, .call _, _, _, _, _⟩ :: _) _ _; refine O_ev WideF.wide rfl (Ev_llen rfl) rfl rfl ?_) | (show opsA _ _ _ _ (⟨_, .binOp _ _ _ _ _, _, _, _, _⟩ :: _) _ _; refine O_ev WideF.wide rfl (Ev_add rfl rfl (wi64 (by omega))) rfl rfl ?_) | refine O_skip WideF.wide rfl rfl rfl ?_) | (show wpA _ _ _ (.exit _) _ _ _ _; refine A_exit rfl ?_) | (show wpA _ _ _ (.cond _ _ _) _ _ _ _; refine A_iffalse rfl ?_))
                  refine Shift.to ⟨_, ?_, k + 1, _, _, rfl, by omega, ?_, ?_, ?_, ?_, ?_, rfl⟩ ⟨rfl, rfl, rfl, ⟨rfl, rfl, rfl, rfl, rfl, trivial⟩, Own.sub_nil _⟩
                  all_goals omega
            · refine Shift.to ⟨_, ?_, i + 1, _, _, rfl, by omega, ?_, ?_, ?_, ?_, ?_, rfl⟩ ⟨rfl, rfl, rfl, ⟨rfl, rfl, rfl, rfl, trivial⟩, Own.sub_nil _⟩
              all_goals omega
          · have hkn : k = rn := by omega
            subst hkn
            have htk : x.rows.take k = x.rows := by rw [← hrn, List.take_length]
            rw [htk] at hw1 hlo
            repeat' (first | refine O_nil ?_ | refine A_seq ?_ | refine A_region ?_ | (show opsA _ _ _ _ _ _ _; first | (refine O_split rfl rfl (fun h => ?_) (fun h => ?_) <;> try (exfalso; omega)) | refine O_ev WideF.wide rfl (Ev_pure rfl) rfl rfl ?_ | (show opsA _ _ _ _ (⟨_, .load _ _, _, _, _, _⟩ :: _) _ _; refine O_ev WideF.wide rfl (Ev_loadH1 rfl (hc 10 _ rfl)) rfl rfl ?_) | (show opsA _ _ _ _ (⟨_, .indexAddr _ _ _, _, _, _, _⟩ :: _) _ _; refine O_ev WideF.wide rfl (Ev_indexAddr rfl rfl (by omega) (by omega)) rfl rfl ?_) | (show opsA _ _ _ _ (⟨_, .fieldAddr _ _ _, _, _, _, _⟩ :: _) _ _; refine O_ev WideF.wide rfl (Ev_fieldAddr rfl rfl rfl) rfl rfl ?_) | (show opsA _ _ _ _ (⟨_, .call _, _, _, _, _⟩ :: _) _ _; refine O_ev WideF.wide rfl (Ev_llen rfl) rfl rfl ?_) | (show opsA _ _ _ _ (⟨_, .binOp _ _ _ _ _, _, _, _, _⟩ :: _) _ _; refine O_ev WideF.wide rfl (Ev_add rfl rfl (wi64 (by omega))) rfl rfl ?_) | refine O_skip WideF.wide rfl rfl rfl ?_) | (show wpA _ _ _ (.exit _) _ _ _ _; refine A_exit rfl ?_) | (show wpA _ _ _ (.cond _ _ _) _ _ _ _; refine A_iffalse rfl ?_))
            refine Shift.to ⟨_, ?_, i + 1, _, _, rfl, by omega, ?_, ?_, ?_, ?_, ?_, rfl⟩ ⟨rfl, rfl, rfl, ⟨rfl, rfl, rfl, rfl, trivial⟩, Own.sub_nil _⟩
            all_goals omega
      · refine End_e (Ret2 rfl rfl rfl) ⟨⟨_, _, rfl, ?_, ?_, ?_, ?_, ?_⟩, rfl, rfl⟩
        all_goals omega
    · have hin : i = n := by omega
      subst hin
      have htk : l.take i = l := by rw [← hn, List.take_length]
      rw [htk] at hw1 hd1 hlo
      repeat' (first | refine O_nil ?_ | refine A_seq ?_ | refine A_region ?_ | refine A_ret ?_ | (show opsA _ _ _ _ _ _ _; first | (refine O_split rfl rfl (fun h => ?_) (fun h => ?_) <;> try (exfalso; omega)) | refine O_ev WideF.wide rfl (Ev_pure rfl) rfl rfl ?_ | (show opsA _ _ _ _ (⟨_, .call _, _, _, _, _⟩ :: _) _ _; refine O_ev WideF.wide rfl (Ev_llen rfl) rfl rfl ?_) | refine O_skip WideF.wide rfl rfl rfl ?_) | (show wpA _ _ _ (.exit _) _ _ _ _; refine A_exit rfl ?_) | (show wpA _ _ _ (.cond _ _ _) _ _ _ _; refine A_iffalse rfl ?_))
      all_goals (refine End_e (Ret2 rfl rfl rfl) ⟨⟨_, _, rfl, ?_, ?_, ?_, ?_, ?_⟩, rfl, rfl⟩ <;> omega)

set_option maxRecDepth 100000 in
theorem Small2_fn {H : Hp} {a : Option Addr} {n cp : Nat} {css : List (List Value)} {ls : List (List Item)} (hr : HRow H a n cp 1 css) (hf : FlowsH H css ls) (hl : ∀ l ∈ ls, massL l < 68719476736) (hn : n < 1000) :
    Fn Try.prog 15 [.slice a n cp] H [] fun v H' I' => (∃ b : Bool, v = .bool b ∧ (b = true → ∀ l ∈ ls, massL l ≤ 6000)) ∧ H' = H ∧ I' = [] := by
  have hlen := hr.len
  refine Fn_of _ _ Try.func15 rfl Try.ntmps15 rfl fun c => ?_
  repeat' (first | refine O_nil ?_ | refine A_seq ?_ | refine A_region ?_ | refine A_block ?_ | (show opsA _ _ _ _ _ _ _; refine O_ev WideF.wide rfl (Ev_pure rfl) rfl rfl ?_))
  refine A_loopu (fun m s => ∃ i : Nat, m = n - i ∧ i ≤ n ∧ (∀ l ∈ ls.take i, massL l ≤ 6000) ∧ s = ⟨26, [(0, .slice a n cp), (3, .int .i64 i)], H, [], [], []⟩) ?_ ?_
  · exact Shift.to ⟨_, 0, rfl, by omega, by simp, rfl⟩ ⟨rfl, rfl, rfl, ⟨rfl, rfl, trivial⟩, Own.sub_nil _⟩
  · rintro m s ⟨i, rfl, hi, hall, rfl⟩
    by_cases hlt : i < n
    · obtain ⟨b', o, cs, rfl, hcs, hk, hc⟩ := hr.at i hlt
      obtain ⟨fa, fn, fc, l, rfl, hli, hfl⟩ := hf.get hcs
      have hw := Weight2_fn (massL l) hfl (Nat.le_refl _) (hl l (List.mem_of_getElem? hli))
      repeat' (first | (refine O_ef rfl (Ef_call (I := []) WideF.wide hw ⟨rfl, trivial⟩ rfl ?_); rintro u H3 I' hle3 ⟨⟨w2, d2, rfl, hw20, hw21, hd20, hd21, hlo2⟩, rfl, rfl⟩) | refine O_nil ?_ | refine A_seq ?_ | refine A_region ?_ | refine A_skip ?_ | refine A_ret ?_ | refine A_block ?_ | (show opsA _ _ _ _ _ _ _; first | (refine O_split rfl rfl (fun h => ?_) (fun h => ?_) <;> try (exfalso; omega)) | refine O_ev WideF.wide rfl (Ev_pure rfl) rfl rfl ?_ | (show opsA _ _ _ _ (⟨_, .load _ _, _, _, _, _⟩ :: _) _ _; refine O_ev WideF.wide rfl (Ev_loadH1 rfl (hc 0 _ rfl)) rfl rfl ?_) | (show opsA _ _ _ _ (⟨_, .indexAddr _ _ _, _, _, _, _⟩ :: _) _ _; refine O_ev WideF.wide rfl (Ev_indexAddr rfl rfl (by omega) (by omega)) rfl rfl ?_) | (show opsA _ _ _ _ (⟨_, .call _, _, _, _, _⟩ :: _) _ _; refine O_ev WideF.wide rfl (Ev_llen rfl) rfl rfl ?_) | (show opsA _ _ _ _ (⟨_, .binOp _ _ _ _ _, _, _, _, _⟩ :: _) _ _; refine O_ev WideF.wide rfl (Ev_add rfl rfl (wi64 (by omega))) rfl rfl ?_) | refine O_skip WideF.wide rfl rfl rfl ?_) | (show wpA _ _ _ (.cond _ _ _) _ _ _ _; first | (refine A_if rfl (fun h => ?_) (fun h => ?_) <;> try (exfalso; omega)) | refine A_iftrue rfl ?_))
      all_goals first
        | exact End_e (Ret1 rfl rfl) ⟨⟨false, rfl, fun h => by cases h⟩, rfl, rfl⟩
        | (refine Shift.to ⟨_, ?_, i + 1, rfl, by omega, ?_, rfl⟩ ⟨rfl, rfl, rfl, ⟨rfl, rfl, trivial⟩, Own.sub_nil _⟩
           · omega
           · intro y hy
             rw [take_get hli] at hy
             rcases List.mem_append.1 hy with h | h
             · exact hall y h
             · rw [List.mem_singleton] at h; subst h; omega)
    · have hin : n = i := by omega
      subst hin
      rw [show ls.take n = ls by rw [← hlen, hf.length, List.take_length]] at hall
      repeat' (first | refine O_nil ?_ | refine A_seq ?_ | refine A_region ?_ | refine A_ret ?_ | (show opsA _ _ _ _ _ _ _; first | refine O_ev WideF.wide rfl (Ev_pure rfl) rfl rfl ?_ | (show opsA _ _ _ _ (⟨_, .call _, _, _, _, _⟩ :: _) _ _; refine O_ev WideF.wide rfl (Ev_llen rfl) rfl rfl ?_)) | (show wpA _ _ _ (.exit _) _ _ _ _; refine A_exit rfl ?_) | (show wpA _ _ _ (.cond _ _ _) _ _ _ _; (refine A_if rfl (fun h => ?_) (fun h => ?_) <;> try (exfalso; omega))))
      exact End_e (Ret1 rfl rfl) ⟨⟨true, rfl, fun _ => hall⟩, rfl, rfl⟩
end Go.Proofs.Ythbnhcgphkghaaa
