/-
  What the law's ordered heads and valid decisions are.
-/
import Derived.Test.YthniohgeojenaaaM12
import Derived.Test.YthniohgeojenaaaM17
import Derived.Test.YthniohgeojenaaaM18
namespace Go.Proofs.Ythniohgeojenaaa
open Go
set_option linter.unusedVariables false
set_option linter.unusedSimpArgs false
section
variable {α : Type} {le : α → α → Bool} {R : α → α → Prop}
theorem pushO_pair (hR : ∀ a b, le a b = true → R a b) (ht : ∀ a b c, R a b → R b c → R a c) {out : List α} (h : out.Pairwise R) (x : α) : (pushO le out x).Pairwise R := by
  unfold pushO
  split
  · rename_i hn
    have : out = [] := by
      cases out with
      | nil => rfl
      | cons a r => rw [List.getElem?_eq_none_iff] at hn; simp at hn; omega
    subst this
    simp
  · rename_i y hy
    split
    · rename_i hle
      rw [List.pairwise_append]
      refine ⟨h, by simp, fun a ha b hb => ?_⟩
      simp at hb; subst hb
      have hyx := hR y b hle
      obtain ⟨i, hi, hia⟩ := List.mem_iff_getElem.1 ha
      by_cases hlast : i = out.length - 1
      · subst hlast
        rw [List.getElem?_eq_getElem hi] at hy
        cases hy
        rw [← hia]; exact hyx
      · have hy2 := (List.getElem?_eq_some_iff.1 hy)
        obtain ⟨hl, hye⟩ := hy2
        have := List.pairwise_iff_getElem.1 h i (out.length - 1) hi hl (by omega)
        rw [hia, hye] at this
        exact ht _ _ _ this hyx
    · exact h
theorem foldO_pair (cap : Nat) (hR : ∀ a b, le a b = true → R a b) (ht : ∀ a b c, R a b → R b c → R a c) : ∀ (l out : List α), out.Pairwise R → (l.foldl (stepO cap le) out).Pairwise R
  | [], out, h => h
  | x :: r, out, h => by
    refine foldO_pair cap hR ht r _ ?_
    unfold stepO
    split
    · exact pushO_pair hR ht h x
    · exact h
theorem pushO_mem {out : List α} {x z : α} (h : z ∈ pushO le out x) : z = x ∨ z ∈ out := by
  unfold pushO at h
  split at h
  · rcases List.mem_append.1 h with h | h
    · exact .inr h
    · simp at h; exact .inl h
  · split at h
    · rcases List.mem_append.1 h with h | h
      · exact .inr h
      · simp at h; exact .inl h
    · exact .inr h
theorem foldO_mem {cap : Nat} {z : α} : ∀ (l out : List α), z ∈ l.foldl (stepO cap le) out → z ∈ l ∨ z ∈ out
  | [], out, h => .inr h
  | x :: r, out, h => by
    rcases foldO_mem r _ h with h | h
    · exact .inl (List.mem_cons_of_mem _ h)
    · unfold stepO at h
      split at h
      · rcases pushO_mem h with rfl | h
        · exact .inl (by simp)
        · exact .inr h
      · exact .inr h
end
theorem ordH_inc (q : Head) : IncP (ordH q).props := by
  unfold IncP Inc
  rw [List.pairwise_map]
  exact foldO_pair (le := ltP) 20 (R := fun a b : Prp => a.key < b.key) (fun a b h => by simpa [ltP] using h) (fun a b c h1 h2 => Int.lt_trans h1 h2) _ _ List.Pairwise.nil
theorem ordH_revs (q : Head) : Inc ((ordH q).dels.map Dele.rev) := by
  unfold Inc
  rw [List.pairwise_map]
  exact foldO_pair (le := ltD) 20 (R := fun a b : Dele => a.rev < b.rev) (fun a b h => by simpa [ltD] using h) (fun a b c h1 h2 => Int.lt_trans h1 h2) _ _ List.Pairwise.nil
theorem ordH_asc (q : Head) : Asc (ordH q).layers :=
  foldO_pair (le := leL) 80 (R := fun a b : Layr => a.key ≤ b.key) (fun a b h => by simpa [leL] using h) (fun a b c h1 h2 => Int.le_trans h1 h2) _ _ List.Pairwise.nil
theorem ordH_ok (q : Head) : ∀ y ∈ (ordH q).layers, y.st.ok := by
  intro y hy
  rcases foldO_mem _ _ hy with hy | hy
  · obtain ⟨z, _, rfl⟩ := List.mem_map.1 hy
    intro h
    show (if z.had then z.before else 0) = 0
    have : z.had = false := h
    rw [this]; rfl
  · cases hy
theorem ordH_mass (q : Head) : (ordH q).mass ≤ 120 := by
  have h1 := ordL_len 20 ltP q.props
  have h2 := ordL_len 20 ltD q.dels
  have h3 := ordL_len 80 leL (q.layers.map Layr.norm)
  unfold Head.mass ordH
  simp only
  omega
end Go.Proofs.Ythniohgeojenaaa
