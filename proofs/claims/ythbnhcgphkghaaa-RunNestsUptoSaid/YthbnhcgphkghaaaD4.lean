/-
  The units of the normal form of a part of a flow in normal form.
-/
import Derived.Test.YthbnhcgphkghaaaR28
namespace Go.Proofs.Ythbnhcgphkghaaa
open Go
set_option linter.unusedVariables false
set_option linter.unusedSimpArgs false

/-- items that differ in their texts alone -/
def Same (y x : Item) : Prop := ∀ t, y.setText t = x.setText t
structure Unit1 (x : Item) : Prop where
  sp : x.split = [x]
  ok : x.ok
  fx : normItem x = x
  ng : ¬ Gone x
def Adj (R : Item → Item → Prop) (l : List Item) : Prop := ∀ i y x, l[i]? = some y → l[i + 1]? = some x → R y x
def JS (y x : Item) : Prop := Joins y x → Same y x
structure Neat (l : List Item) : Prop where
  each : ∀ x ∈ l, Unit1 x
  adj : Adj JS l
theorem Adj.append {R : Item → Item → Prop} {A B : List Item} (hA : Adj R A) (hB : Adj R B) (h : ∀ y, A.getLast? = some y → ∀ x ∈ B, R y x) : Adj R (A ++ B) := by
  intro i y x hy hx
  rcases Nat.lt_trichotomy (i + 1) A.length with h1 | h1 | h1
  · rw [List.getElem?_append_left (by omega)] at hy
    rw [List.getElem?_append_left h1] at hx
    exact hA i y x hy hx
  · rw [List.getElem?_append_left (by omega)] at hy
    rw [List.getElem?_append_right (by omega)] at hx
    refine h y ?_ x (List.mem_of_getElem? hx)
    rw [List.getLast?_eq_getElem?, show A.length - 1 = i by omega]; exact hy
  · rw [List.getElem?_append_right (by omega)] at hy hx
    exact hB (i - A.length) y x hy (by rw [show i - A.length + 1 = i + 1 - A.length by omega]; exact hx)
theorem Neat.part {l : List Item} (h : Neat l) (a b : Nat) : Neat ((l.take b).drop a) := by
  refine ⟨fun x hx => h.each x (List.mem_of_mem_take (List.mem_of_mem_drop hx)), fun i y x hy hx => ?_⟩
  rw [List.getElem?_drop, List.getElem?_take] at hy hx
  split at hy
  · split at hx
    · exact h.adj (a + i) y x hy (by rw [Nat.add_assoc]; exact hx)
    · cases hx
  · cases hy
theorem Neat.okL {l : List Item} (h : Neat l) : okL l := fun x hx => (h.each x hx).ok
theorem Neat.van {l : List Item} (h : Neat l) : ¬ Van l := by
  rintro ⟨x, hx, hk, hr⟩
  have hu := h.each x hx
  refine hu.ng (.inl ⟨hk, ?_⟩)
  rw [← hu.fx, normItem_rows]
  exact keepR_nil.2 hr
theorem Neat.self {l : List Item} (h : Neat l) : unitsL l = l := by
  have : ∀ l : List Item, (∀ x ∈ l, x.split = [x]) → unitsL l = l := by
    intro l
    induction l with
    | nil => intro _; rfl
    | cons x l ih =>
      intro h
      have hc : unitsL (x :: l) = x.split ++ unitsL l := by simp [unitsL]
      rw [hc, h x (by simp), ih fun y hy => h y (by simp [hy])]; rfl
  exact this l fun x hx => (h.each x hx).sp
theorem charsOf_some {l : List UInt8} (h : valid l) : chars l = some (charsOf l) ∧ (charsOf l).flatten = l := by
  unfold valid at h
  obtain ⟨cs, hcs⟩ := Option.isSome_iff_exists.1 h
  have hco : charsOf l = cs := by unfold charsOf; rw [hcs]; rfl
  rw [hco]
  exact ⟨hcs, (chars_spec l.length l (Nat.le_refl _) cs hcs).1⟩
theorem charsOf_append {a b : List UInt8} (ha : valid a) (hb : valid b) : charsOf (a ++ b) = charsOf a ++ charsOf b := by
  have h := chars_append a.length a b (charsOf a) (Nat.le_refl _) (charsOf_some ha).1
  rw [(charsOf_some hb).1] at h
  unfold charsOf at *
  rw [h]; rfl
theorem snocc {α : Type} (l : List α) : l = [] ∨ ∃ ds y, l = ds ++ [y] := by
  cases h : l.getLast? with
  | none => exact .inl (by simpa using h)
  | some y => obtain ⟨ds, rfl⟩ := List.getLast?_eq_some_iff.1 h; exact .inr ⟨ds, y, rfl⟩
theorem snoc_last {α : Type} {A B : List α} {z : α} (h : A ++ [z] = B) : B[A.length]? = some z := by rw [← h]; simp

theorem units_norm : ∀ {P : List Item}, Neat P → unitsL (normL P) = P := by
  intro P
  induction P using snocInd with
  | h0 => intro _; rfl
  | h1 P x ih =>
    intro hn
    have hP : Neat P := by
      have := hn.part 0 P.length
      simpa using this
    have ih := ih hP
    have hx := hn.each x (by simp)
    have hok : okL (normL P) := normL_ok hP.okL
    rw [normL_append]
    simp only [List.map_cons, List.map_nil, List.foldl_cons, List.foldl_nil, hx.fx]
    rcases snoc_cases (normL P) with h0 | ⟨ds, y, hy⟩
    · rw [h0] at ih ⊢
      rw [pushI_one hx.ng, unitsL_one, hx.sp, ← ih]; rfl
    · rw [hy] at ih hok ⊢
      rw [unitsL_append, unitsL_one] at ih
      by_cases hj : Joins y x
      · rw [pushI_join hx.ng hj, unitsL_append, unitsL_one, split_setText hj.2.1]
        have hyo : y.ok := hok y (by simp)
        have hyv := hyo hj.2.1
        have hxv := hx.ok hj.1
        rw [charsOf_append hyv hxv, List.map_append]
        have hys : y.split = (charsOf y.text).map y.setText := by unfold Item.split; rw [if_pos hj.2.1]
        have hxs : x.split = (charsOf x.text).map x.setText := by unfold Item.split; rw [if_pos hj.1]
        rw [← hys]
        have hxc : charsOf x.text = [x.text] := by
          have h1 := congrArg List.length hxs
          rw [hx.sp, List.length_map] at h1
          obtain ⟨c, hc⟩ : ∃ c, charsOf x.text = [c] := List.length_eq_one_iff.1 h1.symm
          have h2 := (charsOf_some hxv).2
          rw [hc] at h2
          rw [hc]
          simpa using h2
        have hyng : ¬ Gone y := by
          have hst := normL_stable P
          rw [hy] at hst
          exact hst.last rfl
        have hyt : charsOf y.text ≠ [] := fun h => by
          have h2 := (charsOf_some hyv).2
          rw [h] at h2
          exact hyng (.inr ⟨hj.2.1, h2.symm⟩)
        rw [hxc, List.map_cons, List.map_nil, ← List.append_assoc, ih]
        rcases snocc (charsOf y.text) with h | ⟨cs, c, hc⟩
        · exact absurd h hyt
        have hz : P = (unitsL ds ++ cs.map y.setText) ++ [y.setText c] := by rw [← ih, hys, hc]; simp
        have hzl : (P ++ [x])[(unitsL ds ++ cs.map y.setText).length]? = some (y.setText c) := by
          have := snoc_last hz.symm
          rw [List.getElem?_append_left (List.getElem?_eq_some_iff.1 this).1]; exact this
        have hpl : P.length = (unitsL ds ++ cs.map y.setText).length + 1 := by rw [hz]; simp; omega
        have hs := hn.adj _ _ x hzl (by rw [← hpl]; simp) ⟨hj.1, by rw [setText_kind]; exact hj.2.1, by rw [setText_head]; exact hj.2.2⟩
        have h3 := hs x.text
        rw [setText_setText, setText_self] at h3
        rw [h3]
      · rw [pushI_apart hx.ng hj, unitsL_append, unitsL_append, unitsL_one, unitsL_one, ih, hx.sp]

theorem split_unit {x z : Item} (hok : x.ok) (hf : normItem x = x) (hg : ¬ Gone x) (hz : z ∈ x.split) : Unit1 z ∧ z.kind = x.kind ∧ z.head = x.head := by
  unfold Item.split at hz
  split at hz
  · rename_i hk
    obtain ⟨c, hc, rfl⟩ := List.mem_map.1 hz
    have hv := hok hk
    obtain ⟨h1, h2⟩ := chars_each x.text.length x.text (charsOf x.text) (Nat.le_refl _) (charsOf_some hv).1 c hc
    refine ⟨⟨?_, fun _ => ?_, ?_, not_gone_text hk h2⟩, setText_kind _ _, setText_head _ _⟩
    · rw [split_setText hk]; unfold charsOf; rw [h1]; rfl
    · rw [setText_text]; unfold valid; rw [h1]; rfl
    · rw [normItem_setText, hf]
  · rename_i hk
    rw [List.mem_singleton] at hz
    subst hz
    exact ⟨⟨by unfold Item.split; rw [if_neg hk], hok, hf, hg⟩, rfl, rfl⟩
theorem split_adj (x : Item) : Adj JS x.split := by
  intro i y z hy hz
  unfold Item.split at hy hz
  split at hy
  · rename_i hk
    rw [if_pos hk] at hz
    obtain ⟨c, _, rfl⟩ := List.mem_map.1 (List.mem_of_getElem? hy)
    obtain ⟨c', _, rfl⟩ := List.mem_map.1 (List.mem_of_getElem? hz)
    intro _ t
    rw [setText_setText, setText_setText]
  · rename_i hk
    rw [if_neg hk] at hz
    simp at hz
theorem split_ne {x : Item} (hok : x.ok) (hg : ¬ Gone x) : x.split ≠ [] := by
  unfold Item.split
  split
  · rename_i hk
    intro h
    have h1 : charsOf x.text = [] := by simpa using h
    have h2 := (charsOf_some (hok hk)).2
    rw [h1] at h2
    exact hg (.inr ⟨hk, h2.symm⟩)
  · simp
theorem neat_units {m : List Item} (hs : Stable m) : Fixed m → okL m → Neat (unitsL m) := by
  induction hs with
  | nil => intro _ _; exact ⟨fun x hx => by simp [unitsL] at hx, fun i y x hy => by simp [unitsL] at hy⟩
  | @one x h =>
    intro hf hok
    rw [unitsL_one]
    exact ⟨fun z hz => (split_unit (hok x (by simp)) (hf x (by simp)) h hz).1, split_adj x⟩
  | @snoc ds y x t h hj ih =>
    intro hf hok
    have ih := ih (fun z hz => hf z (by simp at hz ⊢; exact hz.elim (fun h => .inl h) fun h => .inr (.inl h))) (fun z hz => hok z (by simp at hz ⊢; exact hz.elim (fun h => .inl h) fun h => .inr (.inl h)))
    have hyg : ¬ Gone y := t.last rfl
    rw [unitsL_append, unitsL_one]
    refine ⟨fun z hz => ?_, ih.adj.append (split_adj x) fun z hz w hw hjo => ?_⟩
    · rcases List.mem_append.1 hz with q | q
      · exact ih.each z q
      · exact (split_unit (hok x (by simp)) (hf x (by simp)) h q).1
    · exfalso
      rw [unitsL_append, unitsL_one, List.getLast?_append] at hz
      have hne := split_ne (hok y (by simp)) hyg
      have hzy : z ∈ y.split := by
        cases hq : y.split.getLast? with
        | none => exact absurd (by simpa using hq) hne
        | some q => rw [hq] at hz; simp at hz; subst hz; exact List.mem_of_getLast? hq
      obtain ⟨_, k1, e1⟩ := split_unit (hok y (by simp)) (hf y (by simp)) hyg hzy
      obtain ⟨_, k2, e2⟩ := split_unit (hok x (by simp)) (hf x (by simp)) h hw
      exact hj ⟨by rw [← k2]; exact hjo.1, by rw [← k1]; exact hjo.2.1, by rw [← e1, ← e2]; exact hjo.2.2⟩
/-- what the law says of a flow m in normal form: a part of a part -/
theorem nest {m : List Item} (hs : Stable m) (hf : Fixed m) (hok : okL m) {f t a b : Nat} (h1 : f ≤ t) (h2 : t ≤ (unitsL m).length) (h3 : a ≤ b) (h4 : b ≤ t - f) :
    okL (normL (((unitsL m).take t).drop f)) ∧ usum (normL (((unitsL m).take t).drop f)) = (((t - f : Nat)) : Int) ∧
    normL (((unitsL (normL (((unitsL m).take t).drop f))).take b).drop a) = normL (((unitsL m).take (f + b)).drop (f + a)) ∧
    okL (normL (((unitsL m).take (f + b)).drop (f + a))) ∧ usum (normL (((unitsL m).take (f + b)).drop (f + a))) = ((b - a : Nat) : Int) := by
  have hn := neat_units hs hf hok
  have key : ∀ f t, t ≤ (unitsL m).length → okL (normL (((unitsL m).take t).drop f)) ∧ usum (normL (((unitsL m).take t).drop f)) = (((t - f : Nat)) : Int) := by
    intro f t ht
    have hp := hn.part f t
    refine ⟨normL_ok hp.okL, ?_⟩
    rw [normL_usum hp.okL hp.van, usum_units hp.okL, hp.self]
    rw [List.length_drop, List.length_take, Nat.min_eq_left ht]
  obtain ⟨k1, k2⟩ := key f t h2
  obtain ⟨k3, k4⟩ := key (f + a) (f + b) (by omega)
  refine ⟨k1, k2, ?_, k3, ?_⟩
  · rw [units_norm (hn.part f t), List.take_drop, List.take_take, List.drop_drop, Nat.min_eq_left (by omega)]
  · rw [k4]; congr 1; omega
end Go.Proofs.Ythbnhcgphkghaaa
