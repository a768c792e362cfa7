/-
  Sorted lists of revisions, stable equality class by class, and what merging in place gives (plain).
-/
import Derived.Test.YtlcoebomgaodgaaQ10
namespace Go.Proofs.Ytlcoebomgaodgaa
open Go
set_option linter.unusedVariables false
set_option linter.unusedSimpArgs false
def Srt (l : List Rev) : Prop := l.Pairwise fun x y => ¬ ltR y x
def cls (z x : Rev) : Bool := decide (z.time = x.time ∧ z.id = x.id)
def Steq (a b : List Rev) : Prop := ∀ z, a.filter (cls z) = b.filter (cls z)
theorem cls_iff {z x : Rev} : cls z x = true ↔ z.time = x.time ∧ z.id = x.id := by unfold cls; simp
theorem Steq.rfl' (a : List Rev) : Steq a a := fun _ => rfl
theorem Steq.trans' {a b c : List Rev} (h : Steq a b) (k : Steq b c) : Steq a c := fun z => (h z).trans (k z)
theorem Steq.symm' {a b : List Rev} (h : Steq a b) : Steq b a := fun z => (h z).symm
theorem Steq.app {a b c d : List Rev} (h : Steq a b) (k : Steq c d) : Steq (a ++ c) (b ++ d) := fun z => by rw [List.filter_append, List.filter_append, h z, k z]
theorem Steq.mem {a b : List Rev} (h : Steq a b) {x : Rev} (hx : x ∈ a) : x ∈ b := by
  have h1 : x ∈ a.filter (cls x) := List.mem_filter.2 ⟨hx, cls_iff.2 ⟨rfl, rfl⟩⟩
  rw [h x] at h1
  exact (List.mem_filter.1 h1).1
theorem not_ltR {x y : Rev} : ¬ ltR y x ↔ x.time < y.time ∨ x.time = y.time ∧ x.id ≤ y.id := by rw [ltR_iff]; omega
theorem srt_unique : ∀ {a b : List Rev}, Srt a → Srt b → Steq a b → a = b
  | [], [], _, _, _ => rfl
  | [], y :: _, _, _, h => by have := h.symm'.mem (List.mem_cons_self ..); simp at this
  | x :: _, [], _, _, h => by have := h.mem (List.mem_cons_self ..); simp at this
  | x :: r, y :: s, ha, hb, h => by
    have ha' := List.pairwise_cons.1 ha
    have hb' := List.pairwise_cons.1 hb
    have hxy : cls x y = true := by
      rw [cls_iff]
      have m1 : x ∈ y :: s := h.mem (List.mem_cons_self ..)
      have m2 : y ∈ x :: r := h.symm'.mem (List.mem_cons_self ..)
      rcases List.mem_cons.1 m1 with e | m1
      · subst e; exact ⟨rfl, rfl⟩
      rcases List.mem_cons.1 m2 with e | m2
      · subst e; exact ⟨rfl, rfl⟩
      have q1 := not_ltR.1 (hb'.1 x m1)
      have q2 := not_ltR.1 (ha'.1 y m2)
      omega
    have hxx : cls x x = true := cls_iff.2 ⟨rfl, rfl⟩
    have e := h x
    rw [List.filter_cons_of_pos hxx, List.filter_cons_of_pos hxy] at e
    have exy : x = y := (List.cons.inj e).1
    subst exy
    have ht : Steq r s := fun z => by
      have e := h z
      by_cases hz : cls z x = true
      · rw [List.filter_cons_of_pos hz, List.filter_cons_of_pos hz] at e
        exact (List.cons.inj e).2
      · rw [List.filter_cons_of_neg hz, List.filter_cons_of_neg hz] at e
        exact e
    rw [srt_unique ha'.2 hb'.2 ht]
/-- what stands left of the place is not greater (at its end), what stands right is greater -/
theorem atR_spec (p : List Rev) (x : Rev) : ∀ k, k ≤ p.length → (∀ y, 0 < atR p x k → p[atR p x k - 1]? = some y → ¬ ltR x y) ∧ ∀ i y, atR p x k ≤ i → i < k → p[i]? = some y → ltR x y
  | 0, _ => ⟨fun y h => by simp [atR] at h, fun i y h1 h2 => by omega⟩
  | k + 1, hk => by
    obtain ⟨i1, i2⟩ := atR_spec p x k (by omega)
    obtain ⟨z, hz⟩ : ∃ z, p[k]? = some z := ⟨p[k], List.getElem?_eq_getElem (by omega)⟩
    rw [atR, hz]
    by_cases hl : ltR x z
    · rw [if_pos (by simp [hl])]
      refine ⟨i1, fun i y h1 h2 hy => ?_⟩
      by_cases e : i = k
      · subst e; rw [hz] at hy; cases hy; exact hl
      · exact i2 i y h1 (by omega) hy
    · rw [if_neg (by simp [hl])]
      refine ⟨fun y _ hy => ?_, fun i y h1 h2 => by omega⟩
      rw [Nat.add_sub_cancel, hz] at hy
      cases hy
      exact hl
theorem ins_split {p : List Rev} {x : Rev} (hp : Srt p) : ∃ a b, p = a ++ b ∧ insR p x = a ++ x :: b ∧ (∀ y ∈ a, ¬ ltR x y) ∧ ∀ y ∈ b, ltR x y := by
  obtain ⟨h1, h2⟩ := atR_spec p x p.length (Nat.le_refl _)
  have hle := atR_le p x p.length
  refine ⟨p.take (atR p x p.length), p.drop (atR p x p.length), (List.take_append_drop ..).symm, rfl, ?_, ?_⟩
  · generalize hk : atR p x p.length = k at h1 hle
    intro y hy
    cases k with
    | zero => simp at hy
    | succ k =>
      obtain ⟨z, hz⟩ : ∃ z, p[k]? = some z := ⟨p[k], List.getElem?_eq_getElem (by omega)⟩
      have hxz := h1 z (by omega) hz
      rw [take_get hz] at hy
      rcases List.mem_append.1 hy with hy | hy
      · have hs : Srt (p.take (k + 1)) := List.Pairwise.sublist (List.take_sublist _ _) hp
        rw [take_get hz] at hs
        have := (List.pairwise_append.1 hs).2.2 y hy z (by simp)
        rw [not_ltR] at this hxz ⊢
        omega
      · simp at hy; subst hy; exact hxz
  · intro y hy
    obtain ⟨i, hi⟩ := List.getElem?_of_mem hy
    rw [List.getElem?_drop] at hi
    have hlt : atR p x p.length + i < p.length := by
      rcases Nat.lt_or_ge (atR p x p.length + i) p.length with h | h
      · exact h
      · rw [List.getElem?_eq_none h] at hi; cases hi
    exact h2 _ y (by omega) hlt hi
theorem ins_srt {p : List Rev} {x : Rev} (hp : Srt p) : Srt (insR p x) ∧ Steq (insR p x) (p ++ [x]) := by
  obtain ⟨a, b, rfl, e, ha, hb⟩ := ins_split (x := x) hp
  rw [e]
  have hp' := List.pairwise_append.1 hp
  constructor
  · refine List.pairwise_append.2 ⟨hp'.1, List.pairwise_cons.2 ⟨fun y hy => ?_, hp'.2.1⟩, ?_⟩
    · have := hb y hy
      rw [ltR_iff] at this ⊢
      omega
    · intro y hy z hz
      rcases List.mem_cons.1 hz with rfl | hz
      · exact ha y hy
      · exact hp'.2.2 y hy z hz
  · intro z
    by_cases hz : cls z x = true
    · have hbf : b.filter (cls z) = [] := by
        rw [List.filter_eq_nil_iff]
        intro y hy hc
        have h1 := hb y hy
        rw [ltR_iff] at h1
        rw [cls_iff] at hc hz
        omega
      simp only [List.filter_append, List.filter_cons_of_pos hz, hbf, List.append_nil, List.filter_nil]
    · simp only [List.filter_append, List.filter_cons_of_neg hz, List.append_nil, List.filter_nil]
theorem isort_spec (l : List Rev) : Srt (isort l) ∧ Steq (isort l) l := by
  have key : ∀ (l o : List Rev), Srt o → Srt (l.foldl insR o) ∧ Steq (l.foldl insR o) (o ++ l) := by
    intro l
    induction l with
    | nil => intro o ho; exact ⟨ho, by simpa using Steq.rfl' o⟩
    | cons x r ih =>
      intro o ho
      obtain ⟨h1, h2⟩ := ins_srt (x := x) ho
      obtain ⟨h3, h4⟩ := ih _ h1
      refine ⟨h3, h4.trans' ?_⟩
      have := h2.app (Steq.rfl' r)
      simpa using this
  have h := key l [] List.Pairwise.nil
  simpa [isort] using h
theorem isort_of {w l : List Rev} (hw : Srt w) (h : Steq w l) : w = isort l := srt_unique hw (isort_spec l).1 (h.trans' (isort_spec l).2.symm')
theorem isort_fix {w : List Rev} (hw : Srt w) : isort w = w := (isort_of hw (Steq.rfl' w)).symm
theorem isort_two (a b : List Rev) : isort (isort a ++ isort b) = isort (a ++ b) :=
  isort_of (isort_spec _).1 ((isort_spec _).2.trans' ((isort_spec a).2.app (isort_spec b).2))
theorem isort_mem {l : List Rev} {x : Rev} (h : x ∈ isort l) : x ∈ l := (isort_spec l).2.mem h
/-- what a merge in place does: the parts behind the exchange, each in order -/
theorem sm_split {u1 u2 v1 v2 : List Rev} (hu : Srt (u1 ++ u2)) (hv : Srt (v1 ++ v2)) (h1 : ∀ x ∈ u1, ∀ y ∈ v2, ¬ ltR y x) (h2 : ∀ x ∈ u2, ∀ y ∈ v1, ltR y x) :
    isort (u1 ++ v1) ++ isort (u2 ++ v2) = isort ((u1 ++ u2) ++ (v1 ++ v2)) := by
  have hu' := List.pairwise_append.1 hu
  have hv' := List.pairwise_append.1 hv
  refine isort_of (List.pairwise_append.2 ⟨(isort_spec _).1, (isort_spec _).1, ?_⟩) ?_
  · intro x hx y hy
    rcases List.mem_append.1 (isort_mem hx) with hx | hx <;> rcases List.mem_append.1 (isort_mem hy) with hy | hy
    · exact hu'.2.2 x hx y hy
    · exact h1 x hx y hy
    · have := h2 y hy x hx
      rw [ltR_iff] at this ⊢
      omega
    · exact hv'.2.2 x hx y hy
  · intro z
    have e1 := (isort_spec (u1 ++ v1)).2 z
    have e2 := (isort_spec (u2 ++ v2)).2 z
    have e3 : v1.filter (cls z) ++ u2.filter (cls z) = u2.filter (cls z) ++ v1.filter (cls z) := by
      by_cases hn : u2.filter (cls z) = []
      · rw [hn]; simp
      · obtain ⟨x, hx⟩ := List.exists_mem_of_ne_nil _ hn
        have hx' := List.mem_filter.1 hx
        have hv1 : v1.filter (cls z) = [] := by
          rw [List.filter_eq_nil_iff]
          intro y hy hc
          have q := h2 x hx'.1 y hy
          have q2 := cls_iff.1 hx'.2
          rw [cls_iff] at hc
          rw [ltR_iff] at q
          omega
        rw [hv1]; simp
    rw [List.filter_append, e1, e2]
    simp only [List.filter_append, List.append_assoc]
    rw [← List.append_assoc (v1.filter (cls z)), e3]
    simp only [List.append_assoc]
theorem srt_get {l : List Rev} (h : Srt l) {i j : Nat} {x y : Rev} (hij : i ≤ j) (hx : l[i]? = some x) (hy : l[j]? = some y) : ¬ ltR y x := by
  by_cases e : i = j
  · subst e; rw [hx] at hy; cases hy; rw [ltR_iff]; omega
  · have hj : j < l.length := by
      rcases Nat.lt_or_ge j l.length with h | h
      · exact h
      · rw [List.getElem?_eq_none h] at hy; cases hy
    have := List.pairwise_iff_getElem.1 h i j (by omega) hj (by omega)
    rw [List.getElem?_eq_getElem (by omega)] at hx hy
    cases hx; cases hy
    exact this
end Go.Proofs.Ytlcoebomgaodgaa
