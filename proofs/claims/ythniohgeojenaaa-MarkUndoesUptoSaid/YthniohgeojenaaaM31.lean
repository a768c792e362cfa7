/-
  What Set returns, and what undoes it.
-/
import Derived.Test.YthniohgeojenaaaM22
namespace Go.Proofs.Ythniohgeojenaaa
open Go
set_option linter.unusedVariables false
set_option linter.unusedSimpArgs false
/-- what Set returns is in order, and the state is the new one -/
theorem SetSpec.good {q o : Head} {rev k e : Int} {s : St} (hq : Good q) (h : SetSpec q rev k s o e) : Good o := by
  unfold SetSpec at h
  split at h
  · rw [h.1]; exact hq
  · split at h
    · rw [h.1]; exact none_good
    · exact h.1.good
theorem SetSpec.now {q o : Head} {rev k : Int} {s : St} (h : SetSpec q rev k s o 0) : getP o.props k = s := by
  unfold SetSpec at h
  split at h
  · rename_i h1; rw [h.1]; exact h1
  · split at h
    · have := h.2; cases this
    · have := h.1.props k; rwa [if_pos rfl] at this
theorem SetSpec.orig {q o : Head} {rev k : Int} {s : St} (hq : Good q) (h : SetSpec q rev k s o 0) (h1 : rev ≠ 0) (h2 : q.ins ≠ rev) : decH (fun _ => false) (fun _ => true) o = decH (fun _ => false) (fun _ => true) q := by
  unfold SetSpec at h
  split at h
  · rw [h.1]
  · split at h
    · have := h.2; cases this
    · exact h.1.orig hq h1 h2
theorem SetSpec.ins {q o : Head} {rev k : Int} {s : St} (h : SetSpec q rev k s o 0) : o.ins = q.ins := by
  unfold SetSpec at h
  split at h
  · rw [h.1]
  · split at h
    · have := h.2; cases this
    · exact h.1.ins
theorem SetSpec.err {q o : Head} {rev k e : Int} {s : St} (h : SetSpec q rev k s o e) : e = 0 ∨ (e = 9 ∧ o = Head.none) := by
  unfold SetSpec at h
  split at h
  · exact .inl h.2
  · split at h
    · exact .inr ⟨h.2, h.1⟩
    · exact .inl h.2
theorem ext_len_props {l : List Prp} (h : IncP l) : ∀ {m : List Prp} {k : Int}, IncP m → (∀ x, x ≠ k → getP l x = getP m x) → l.length ≤ m.length + 1 := by
  intro m k hm he
  have e : withP l k (getP m k) = m := by
    refine ext_props (withP_inc h) hm fun x => ?_
    rw [getP_with (getP_ok _ _)]
    by_cases hx : x = k
    · rw [if_pos hx, hx]
    · rw [if_neg hx, he x hx]
  have e2 : withP m k (getP l k) = l := by
    refine ext_props (withP_inc hm) h fun x => ?_
    rw [getP_with (getP_ok _ _)]
    by_cases hx : x = k
    · rw [if_pos hx, hx]
    · rw [if_neg hx, he x hx]
  have := withP_len m k (getP l k)
  rw [e2] at this
  exact this
theorem len_keys : ∀ {l m : List Layr} {k : Int}, (∀ x, x ≠ k → layersK l x = layersK m x) → (layersK l k).length ≤ (layersK m k).length + 1 → Asc l → Asc m → l.length ≤ m.length + 1 := by
  intro l m k he hk hl hm
  obtain ⟨A, C, e1, a1, c1, _, _, hA, hC⟩ := parts3 hl k
  obtain ⟨A', C', e2, a2, c2, _, _, hA', hC'⟩ := parts3 hm k
  have h := ext_layers (l := A ++ [] ++ C) (l' := A' ++ [] ++ C') (asc3 hA hC a1 (fun y hy => by cases hy) c1) (asc3 hA' hC' a2 (fun y hy => by cases hy) c2) fun x => by
    by_cases hx : x = k
    · subst hx
      rw [keys3 a1 (fun y hy => by cases hy) c1, keys3 a2 (fun y hy => by cases hy) c2, if_pos rfl, if_pos rfl]
    · have h1 := he x hx
      rw [e1, e2, keys3 a1 layersK_key c1, keys3 a2 layersK_key c2, if_neg hx, if_neg hx] at h1
      rw [keys3 a1 (fun y hy => by cases hy) c1, keys3 a2 (fun y hy => by cases hy) c2, if_neg hx, if_neg hx]
      exact h1
  have h2 := congrArg List.length h
  have h3 := congrArg List.length e1
  have h4 := congrArg List.length e2
  simp only [List.length_append, List.length_nil] at h2 h3 h4
  omega
theorem setG_len (rev ins k : Int) (s p : St) (g : List Layr) : (setG rev ins k s p g).length ≤ g.length + 1 := by
  unfold setG
  split
  · omega
  · split
    · split
      · rw [List.length_dropLast]; omega
      · omega
    · simp
theorem SetSpec.mass {q o : Head} {rev k e : Int} {s : St} (hq : Good q) (h : SetSpec q rev k s o e) : o.mass ≤ q.mass + 2 := by
  unfold SetSpec at h
  split at h
  · rw [h.1]; omega
  · split at h
    · rw [h.1]; simp [Head.none, Head.mass]
    · have hk := h.1
      have h1 := ext_len_props hk.good.inc (m := q.props) (k := k) hq.inc fun x hx => by have := hk.props x; rwa [if_neg hx] at this
      have h2 := len_keys (l := o.layers) (m := q.layers) (k := k) (fun x hx => by have := hk.layers x; rwa [if_neg hx] at this) (by have := hk.layers k; rw [if_pos rfl] at this; rw [this]; exact setG_len _ _ _ _ _ _) hk.good.asc hq.asc
      unfold Head.mass
      rw [hk.dels]
      omega
end Go.Proofs.Ythniohgeojenaaa
