/-
  Units: the parts of a flow before and behind a unit; the normal form of units.
-/
import Derived.Test.YthbnhcgphkghaaaD3
namespace Go.Proofs.Ythbnhcgphkghaaa
open Go
set_option linter.unusedVariables false
set_option linter.unusedSimpArgs false

theorem bat_take {l : List UInt8} {k : Nat} {i : Int} (h0 : 0 ≤ i) (h : i < k) : bat (l.take k) i = bat l i := by
  have hi : i.toNat < k := by omega
  simp [bat, List.getD, List.getElem?_take, hi]
theorem enc_take {l : List UInt8} (hl : l ≠ []) (h : enc l 0 ≠ 0) : enc (l.take (enc l 0).toNat) 0 = enc l 0 := by
  have hp : 0 < l.length := List.length_pos_iff.2 hl
  have hf := enc_fits l 0 (by omega) (by omega)
  have hb := enc_b l 0
  generalize hk : (enc l 0).toNat = k
  have hk1 : 1 ≤ k := by omega
  have hkl : k ≤ l.length := by omega
  have hlen : (l.take k).length = k := by simp; omega
  have h0 : bat (l.take k) 0 = bat l 0 := bat_take (by omega) (by omega)
  have he : enc l 0 = k := by omega
  rw [he]
  unfold enc at he ⊢
  rw [h0]
  split at he
  · rename_i h1
    rw [if_pos h1]; exact he
  · rename_i h1
    rw [if_neg h1]
    split at he
    · omega
    · rename_i h2
      rw [if_neg h2]
      split at he
      · rename_i h3
        obtain ⟨q1, q2, q3, q4⟩ := h3
        have h2t : 2 ≤ tailSize (bat l 0) := by
          have := tailSize_le (bat l 0)
          by_cases h1t : tailSize (bat l 0) = 1
          · exact absurd (tailSize_one h1t) h1
          · omega
        have hb1 : bat (l.take k) (0 + 1) = bat l (0 + 1) := bat_take (by omega) (by omega)
        have hb2 : 3 ≤ tailSize (bat l 0) → bat (l.take k) (0 + 2) = bat l (0 + 2) := fun hh => bat_take (by omega) (by omega)
        have hb3 : 4 ≤ tailSize (bat l 0) → bat (l.take k) (0 + 3) = bat l (0 + 3) := fun hh => bat_take (by omega) (by omega)
        rw [if_pos ⟨by rw [hlen]; omega, by rw [hb1]; exact q2, fun hh => by rw [hb2 hh]; exact q3 hh, fun hh => by rw [hb3 hh]; exact q4 hh⟩]
        exact he
      · omega
theorem chars_each : ∀ (n : Nat) (l : List UInt8) (cs : List (List UInt8)), l.length ≤ n → chars l = some cs → ∀ c ∈ cs, chars c = some [c] ∧ c ≠ [] := by
  intro n
  induction n with
  | zero =>
    intro l cs h hc
    have : l = [] := List.eq_nil_of_length_eq_zero (by omega)
    subst this
    rw [chars_nil] at hc
    cases hc
    intro c hc; cases hc
  | succ n ih =>
    intro l cs h hc
    by_cases hl : l = []
    · subst hl
      rw [chars_nil] at hc
      cases hc
      intro c hc; cases hc
    · by_cases he : enc l 0 = 0
      · rw [chars_no hl he] at hc; cases hc
      · have hp : 0 < l.length := List.length_pos_iff.2 hl
        have hf := enc_fits l 0 (by omega) (by omega)
        have hb := enc_b l 0
        rw [chars_step hl he] at hc
        obtain ⟨cs', hc', rfl⟩ := Option.map_eq_some_iff.1 hc
        intro c hcm
        rcases List.mem_cons.1 hcm with hcm | hcm
        · rw [hcm]
          have hne : l.take (enc l 0).toNat ≠ [] := by
            intro h0
            have h1 := congrArg List.length h0
            rw [List.length_take, List.length_nil] at h1; omega
          refine ⟨?_, hne⟩
          have het := enc_take hl he
          rw [chars_step hne (by rw [het]; exact he), het]
          rw [List.take_take, Nat.min_self, List.drop_eq_nil_of_le (by simp; omega), chars_nil]
          rfl
        · exact ih _ cs' (by simp; omega) hc' c hcm
theorem chars_flatten : ∀ {cs : List (List UInt8)}, (∀ c ∈ cs, chars c = some [c]) → chars cs.flatten = some cs
  | [], _ => chars_nil
  | c :: cs, h => by
    have h1 := chars_append c.length c cs.flatten [c] (Nat.le_refl _) (h c (by simp))
    rw [chars_flatten fun d hd => h d (by simp [hd])] at h1
    simpa using h1
/-- the text before and behind a character -/
theorem cut_text {l : List UInt8} (hv : valid l) {u : Nat} (hu : u < nchars l) : (offset l u).toNat = ((charsOf l).take u).flatten.length ∧
    charsOf (l.take (offset l u).toNat) = (charsOf l).take u ∧ charsOf (l.drop (offset l u).toNat) = (charsOf l).drop u ∧ valid (l.take (offset l u).toNat) ∧ valid (l.drop (offset l u).toNat) := by
  have hv' := hv
  unfold valid at hv'
  obtain ⟨cs, hcs⟩ := Option.isSome_iff_exists.1 hv'
  obtain ⟨h1, h2, h3⟩ := chars_spec l.length l (Nat.le_refl _) cs hcs
  have hn : nchars l = cs.length := by unfold nchars; rw [hcs]; rfl
  have hco : charsOf l = cs := by unfold charsOf; rw [hcs]; rfl
  have hul : u < cs.length := by omega
  have ho : offset l u = ((cs.take u).flatten.length : Nat) := by
    unfold offset
    rw [if_pos ⟨hv, by omega, by omega⟩]
    unfold iat
    have : (u : Int).toNat = u := by simp
    rw [this, List.getD_eq_getElem?_getD, List.getElem?_append_left (by omega), h3 u hul]
    rfl
  have hot : (offset l u).toNat = (cs.take u).flatten.length := by rw [ho]; simp
  have hsp : l = (cs.take u).flatten ++ (cs.drop u).flatten := by rw [← List.flatten_append, List.take_append_drop, h1]
  have ht : l.take (offset l u).toNat = (cs.take u).flatten := by
    rw [hot]
    conv => lhs; rw [hsp]
    exact List.take_left
  have hd : l.drop (offset l u).toNat = (cs.drop u).flatten := by
    rw [hot]
    conv => lhs; rw [hsp]
    exact List.drop_left
  have hc := chars_each l.length l cs (Nat.le_refl _) hcs
  have e1 := chars_flatten (cs := cs.take u) fun c hcm => (hc c (List.mem_of_mem_take hcm)).1
  have e2 := chars_flatten (cs := cs.drop u) fun c hcm => (hc c (List.mem_of_mem_drop hcm)).1
  rw [hco]
  refine ⟨hot, ?_, ?_, ?_, ?_⟩
  · rw [ht]; unfold charsOf; rw [e1]; rfl
  · rw [hd]; unfold charsOf; rw [e2]; rfl
  · rw [ht]; unfold valid; rw [e1]; rfl
  · rw [hd]; unfold valid; rw [e2]; rfl
theorem split_setText {x : Item} (hk : x.kind = 1) (t : List UInt8) : (x.setText t).split = (charsOf t).map x.setText := by
  unfold Item.split
  rw [if_pos (by rw [setText_kind]; exact hk), setText_text]
  apply List.map_congr_left
  intro c _
  exact setText_setText _ _ _
theorem unitsL_one (x : Item) : unitsL [x] = x.split := by simp [unitsL]
/-- an item at a unit -/
theorem item_cut {at_ f : Int} {x : Item} (h : x.ok) : unitsL (lItem at_ f x) = x.split.take (at_ - f).toNat ∧ unitsL (rItem at_ f x) = x.split.drop (at_ - f).toNat ∧ okL (lItem at_ f x) ∧ okL (rItem at_ f x) := by
  have hu := units_split h
  have ok1 : okL [x] := fun y hy => by simp at hy; subst hy; exact h
  have ok0 : okL [] := fun y hy => by cases hy
  unfold lItem rItem
  by_cases h1 : f + x.units ≤ at_
  · rw [if_pos h1, if_pos h1, unitsL_one]
    refine ⟨(List.take_of_length_le (by omega)).symm, ?_, ok1, ok0⟩
    rw [List.drop_of_length_le (by omega)]; rfl
  · rw [if_neg h1, if_neg h1]
    by_cases h2 : at_ ≤ f
    · rw [if_pos h2, if_pos h2, unitsL_one, show (at_ - f).toNat = 0 by omega]
      exact ⟨rfl, rfl, ok0, ok1⟩
    · rw [if_neg h2, if_neg h2]
      have hk : x.kind = 1 := by
        by_cases hk : x.kind = 1
        · exact hk
        · exfalso
          unfold Item.units at h1
          rw [if_neg hk] at h1
          omega
      have hv := h hk
      have hsl : x.split = (charsOf x.text).map x.setText := by unfold Item.split; rw [if_pos hk]
      have hn : nchars x.text = x.split.length := by rw [hsl]; simp [nchars, charsOf]
      have hc : cutAt at_ f x = (offset x.text ((at_ - f).toNat : Nat)).toNat := by
        unfold cutAt
        rw [show (((at_ - f).toNat : Nat) : Int) = at_ - f by omega]
      obtain ⟨_, g1, g2, g3, g4⟩ := cut_text hv (u := (at_ - f).toNat) (by omega)
      rw [unitsL_one, unitsL_one, split_setText hk, split_setText hk, hc, g1, g2, hsl, List.map_take, List.map_drop]
      refine ⟨rfl, rfl, fun y hy => ?_, fun y hy => ?_⟩
      · rw [List.mem_singleton] at hy; subst hy; intro _; rw [setText_text]; exact g3
      · rw [List.mem_singleton] at hy; subst hy; intro _; rw [setText_text]; exact g4
theorem flow_cut (at_ : Int) : ∀ (f : Int) (l : List Item), okL l → unitsL (lFlow at_ f l) = (unitsL l).take (at_ - f).toNat ∧ unitsL (rFlow at_ f l) = (unitsL l).drop (at_ - f).toNat ∧ okL (lFlow at_ f l) ∧ okL (rFlow at_ f l)
  | f, [], h => ⟨by simp [lFlow, unitsL], by simp [rFlow, unitsL], h, h⟩
  | f, x :: l, h => by
    obtain ⟨a1, a2, a3, a4⟩ := item_cut (at_ := at_) (f := f) (h x (by simp))
    obtain ⟨b1, b2, b3, b4⟩ := flow_cut at_ (f + x.units) l fun y hy => h y (by simp [hy])
    have hu := units_split (h x (by simp))
    have hub := x.units_b
    have hc : unitsL (x :: l) = x.split ++ unitsL l := by simp [unitsL]
    have hs : (at_ - (f + x.units)).toNat = (at_ - f).toNat - x.split.length := by omega
    refine ⟨?_, ?_, fun y hy => ?_, fun y hy => ?_⟩
    · rw [lFlow, unitsL_append, a1, b1, hc, List.take_append, hs]
    · rw [rFlow, unitsL_append, a2, b2, hc, List.drop_append, hs]
    · rcases List.mem_append.1 hy with q | q
      · exact a3 y q
      · exact b3 y q
    · rcases List.mem_append.1 hy with q | q
      · exact a4 y q
      · exact b4 y q
theorem push_chars {x : Item} (hk : x.kind = 1) : ∀ (cs : List (List UInt8)) (s : List Item), (∀ c ∈ cs, c ≠ []) → (cs.map x.setText).foldl pushI s = pushI s (x.setText cs.flatten)
  | [], s, _ => by
    rw [pushI_gone (x := x.setText [].flatten) (.inr ⟨by rw [setText_kind]; exact hk, setText_text _ _⟩)]
    rfl
  | c :: cs, s, h => by
    simp only [List.map_cons, List.foldl_cons, List.flatten_cons]
    rw [push_chars hk cs _ fun d hd => h d (by simp [hd]), pushI_two hk (h c (by simp))]
theorem push_split {x : Item} (h : x.ok) (s : List Item) : (x.split.map normItem).foldl pushI s = pushI s (normItem x) := by
  unfold Item.split
  by_cases hk : x.kind = 1
  · rw [if_pos hk]
    have hv := h hk
    have hv' := hv
    unfold valid at hv'
    obtain ⟨cs, hcs⟩ := Option.isSome_iff_exists.1 hv'
    have hco : charsOf x.text = cs := by unfold charsOf; rw [hcs]; rfl
    obtain ⟨h1, _, _⟩ := chars_spec x.text.length x.text (Nat.le_refl _) cs hcs
    have hc := chars_each x.text.length x.text cs (Nat.le_refl _) hcs
    have hm : ((charsOf x.text).map x.setText).map normItem = cs.map (normItem x).setText := by
      rw [hco, List.map_map]
      apply List.map_congr_left
      intro c _
      exact normItem_setText x c
    rw [hm, push_chars (by rw [normItem_kind]; exact hk) cs s fun c hcm => (hc c hcm).2, h1]
    have : (normItem x).setText x.text = normItem x := by
      have := setText_self (normItem x)
      rwa [normItem_text] at this
    rw [this]
  · rw [if_neg hk]; rfl
theorem fold_units : ∀ (l : List Item) (s : List Item), okL l → ((unitsL l).map normItem).foldl pushI s = (l.map normItem).foldl pushI s
  | [], s, _ => rfl
  | x :: l, s, h => by
    have hc : unitsL (x :: l) = x.split ++ unitsL l := by simp [unitsL]
    rw [hc, List.map_append, List.foldl_append, push_split (h x (by simp)), List.map_cons, List.foldl_cons]
    exact fold_units l _ fun y hy => h y (by simp [hy])
theorem normL_units {l : List Item} (h : okL l) : normL (unitsL l) = normL l := fold_units l [] h
/-- Split and Slice, in units -/
theorem normL_left {l : List Item} (h : okL l) (at_ : Int) : normL (lFlow at_ 0 l) = normL ((unitsL l).take at_.toNat) := by
  obtain ⟨a, b, c, d⟩ := flow_cut at_ 0 l h
  rw [← normL_units c, a]
  simp
theorem normL_right {l : List Item} (h : okL l) (at_ : Int) : normL (rFlow at_ 0 l) = normL ((unitsL l).drop at_.toNat) := by
  obtain ⟨a, b, c, d⟩ := flow_cut at_ 0 l h
  rw [← normL_units d, b]
  simp
theorem normL_part {l : List Item} (h : okL l) (from_ to : Int) : normL (rFlow from_ 0 (lFlow to 0 l)) = normL (((unitsL l).take to.toNat).drop from_.toNat) := by
  obtain ⟨a, b, c, d⟩ := flow_cut to 0 l h
  rw [normL_right c, a]
  simp
end Go.Proofs.Ythbnhcgphkghaaa
