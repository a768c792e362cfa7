/-
  Rising lists; sorting; what has been seen.
-/
import Derived.Test.YthniohgeojenaaaM11
import Derived.Test.YthniohgeojenaaaA16
namespace Go.Proofs.Ythniohgeojenaaa
open Go
set_option linter.unusedVariables false
set_option linter.unusedSimpArgs false
theorem ext_inc : ∀ {l l' : List Int}, Inc l → Inc l' → (∀ x, x ∈ l ↔ x ∈ l') → l = l'
  | [], [], _, _, _ => rfl
  | [], y :: r, _, _, h => by have := (h y).2 (by simp); cases this
  | y :: r, [], _, _, h => by have := (h y).1 (by simp); cases this
  | y :: r, y' :: r', hs, hs', h => by
    have h1 := (List.pairwise_cons.1 hs).1
    have h2 := (List.pairwise_cons.1 hs').1
    have e : y = y' := by
      rcases List.mem_cons.1 ((h y).1 (by simp)) with e | hy
      · exact e
      · rcases List.mem_cons.1 ((h y').2 (by simp)) with e | hy'
        · exact e.symm
        · have := h1 y' hy'; have := h2 y hy; omega
    subst e
    have hr : r = r' := ext_inc (List.pairwise_cons.1 hs).2 (List.pairwise_cons.1 hs').2 fun x => by
      constructor
      · intro hx
        rcases List.mem_cons.1 ((h x).1 (List.mem_cons_of_mem _ hx)) with e | hx'
        · have := h1 x hx; omega
        · exact hx'
      · intro hx
        rcases List.mem_cons.1 ((h x).2 (List.mem_cons_of_mem _ hx)) with e | hx'
        · have := h2 x hx; omega
        · exact hx'
    rw [hr]
def srt (l : List Int) : List Int := l.mergeSort fun x y => decide (x ≤ y)
theorem srt_mem {l : List Int} {x : Int} : x ∈ srt l ↔ x ∈ l := (List.mergeSort_perm l _).mem_iff
theorem srt_inc {l : List Int} (h : l.Nodup) : Inc (srt l) := by
  have h1 : (srt l).Pairwise fun a b => (decide (a ≤ b)) = true := List.pairwise_mergeSort (fun a b c h1 h2 => by simp at *; omega) (fun a b => by simp; omega) l
  have h2 : (srt l).Nodup := (List.mergeSort_perm l _).nodup_iff.2 h
  refine (List.pairwise_iff_getElem.2 fun i j hi hj hij => ?_)
  have a := List.pairwise_iff_getElem.1 h1 i j hi hj hij
  have b := List.pairwise_iff_getElem.1 h2 i j hi hj hij
  simp at a
  omega
/-- each number once, where it comes first -/
def onceI (l : List Int) : List Int := l.foldl (fun o x => if x ∈ o then o else o ++ [x]) []
theorem onceI_snoc (l : List Int) (x : Int) : onceI (l ++ [x]) = if x ∈ onceI l then onceI l else onceI l ++ [x] := by unfold onceI; rw [List.foldl_append]; rfl
theorem foldOnce : ∀ (l o : List Int), o.Nodup → (l.foldl (fun o x => if x ∈ o then o else o ++ [x]) o).Nodup ∧ (l.foldl (fun o x => if x ∈ o then o else o ++ [x]) o).length ≤ o.length + l.length ∧ ∀ z, z ∈ l.foldl (fun o x => if x ∈ o then o else o ++ [x]) o ↔ z ∈ o ∨ z ∈ l
  | [], o, h => ⟨h, by simp, by simp⟩
  | x :: r, o, h => by
    rw [List.foldl_cons]
    by_cases hx : x ∈ o
    · rw [if_pos hx]
      obtain ⟨a, b, c⟩ := foldOnce r o h
      refine ⟨a, by simp; omega, fun z => ?_⟩
      rw [c z, List.mem_cons]
      constructor
      · rintro (h | h)
        · exact .inl h
        · exact .inr (.inr h)
      · rintro (h | h | h)
        · exact .inl h
        · exact .inl (h ▸ hx)
        · exact .inr h
    · rw [if_neg hx]
      have hn : (o ++ [x]).Nodup := by
        rw [List.nodup_append]
        refine ⟨h, by simp, fun a ha b hb => ?_⟩
        simp at hb
        subst hb
        exact fun e => hx (e ▸ ha)
      obtain ⟨a, b, c⟩ := foldOnce r (o ++ [x]) hn
      refine ⟨a, by simp at b ⊢; omega, fun z => ?_⟩
      rw [c z]; simp [or_assoc]
theorem onceI_spec (l : List Int) : (onceI l).Nodup ∧ (onceI l).length ≤ l.length ∧ ∀ z, z ∈ onceI l ↔ z ∈ l := by
  have h := foldOnce l [] List.Pairwise.nil
  unfold onceI
  refine ⟨h.1, by have := h.2.1; simpa only [List.length_nil, Nat.zero_add] using this, fun z => by have := h.2.2 z; simpa only [List.not_mem_nil, false_or] using this⟩
theorem foldS_mem : ∀ (l o : List Int) {z : Int}, z ∈ l.foldl (fun o x => insI x o) o ↔ z ∈ o ∨ z ∈ l
  | [], o, z => by simp
  | x :: r, o, z => by
    rw [List.foldl_cons, foldS_mem r, insI_mem, List.mem_cons]
    constructor
    · rintro ((h | h) | h)
      · exact .inr (.inl h)
      · exact .inl h
      · exact .inr (.inr h)
    · rintro (h | h | h)
      · exact .inl (.inr h)
      · exact .inl (.inl h)
      · exact .inr h
/-- both ways to a set -/
theorem srt_once (l : List Int) : srt (onceI l) = sortI l := by
  have h := onceI_spec l
  exact ext_inc (srt_inc h.1) (sortI_inc l) fun x => by rw [srt_mem, h.2.2, sortI_mem]
end Go.Proofs.Ythniohgeojenaaa
