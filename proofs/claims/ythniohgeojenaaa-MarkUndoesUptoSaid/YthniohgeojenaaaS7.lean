/-
  MarkUndoes: the plain law.
-/
import Derived.Test.YthniohgeojenaaaS4
import Derived.Test.YthniohgeojenaaaM31
namespace Go.Proofs.Ythniohgeojenaaa
open Go
set_option linter.unusedVariables false
set_option linter.unusedSimpArgs false
theorem firstA_none {acc : Int → Bool} : ∀ {l : List Layr}, (∀ y ∈ l, acc y.rev = false) → firstA acc l = 0
  | [], _ => rfl
  | y :: r, h => by
    rw [firstA, firstA_none (fun z hz => h z (List.mem_cons_of_mem _ hz)), h y (by simp)]
    simp
theorem walk_none {rej : Int → Bool} {p : St} : ∀ {l : List Layr}, (∀ y ∈ l, rej y.rev = false) → walkG rej p (nxt p l) l = (p, l)
  | [], _ => rfl
  | y :: r, h => by
    have ih := walk_none (p := p) (fun z hz => h z (List.mem_cons_of_mem _ hz))
    rw [walkG, if_neg (by rw [h y (by simp)]; simp), ih]
    rfl
theorem step_none {acc rej : Int → Bool} {p : St} {g : List Layr} (h1 : ∀ y ∈ g, acc y.rev = false) (h2 : ∀ y ∈ g, rej y.rev = false) : stepG acc rej p g = (p, g) := by
  unfold stepG
  rw [firstA_none h1, List.drop_zero, walk_none h2]
theorem walk_undo {rej : Int → Bool} {s : St} {y : Layr} (hy : rej y.rev = true) : ∀ {l : List Layr}, (∀ z ∈ l, rej z.rev = false) → walkG rej s (nxt s (l ++ [y])) (l ++ [y]) = (y.st, l)
  | [], _ => by
    show walkG rej s y.st [y] = _
    rw [walkG, if_pos hy, walkG]
  | z :: r, h => by
    have ih := walk_undo (s := s) hy (fun w hw => h w (List.mem_cons_of_mem _ hw))
    rw [List.cons_append, walkG, if_neg (by rw [h z (by simp)]; simp), ih]
    rfl
theorem step_undo {acc rej : Int → Bool} {s : St} {g : List Layr} {y : Layr} (h1 : ∀ z ∈ g ++ [y], acc z.rev = false) (h2 : ∀ z ∈ g, rej z.rev = false) (hy : rej y.rev = true) : stepG acc rej s (g ++ [y]) = (y.st, g) := by
  unfold stepG
  rw [firstA_none h1, List.drop_zero, walk_undo hy h2]
theorem step_last {acc rej : Int → Bool} {s : St} {g : List Layr} {y : Layr} (hy : acc y.rev = true) : stepG acc rej s (g ++ [y]) = (s, []) := by
  unfold stepG
  rw [firstA_snoc, if_pos hy, List.drop_of_length_le (by simp)]
  rfl
theorem revs_ins {q : Head} {r : Int} (h0 : r ≠ 0) (h : r ∉ revsL q) : q.ins ≠ r := fun e => h (by
  unfold revsL revs0
  rw [if_neg (by rw [e]; exact h0)]
  simp [e])
theorem revs_del {q : Head} {r : Int} (h : r ∉ revsL q) : ∀ d ∈ q.dels, d.rev ≠ r := fun d hd e => h (by
  unfold revsL
  exact List.mem_append_left _ (List.mem_append_right _ (e ▸ List.mem_map_of_mem hd)))
theorem revs_lay {q : Head} {r : Int} (h : r ∉ revsL q) : ∀ y ∈ q.layers, y.rev ≠ r := fun y hy e => h (by
  unfold revsL
  exact List.mem_append_right _ (e ▸ List.mem_map_of_mem hy))
theorem acc_one (r x : Int) : Dec.accB ⟨[r], []⟩ x = decide (x = r) := by simp [Dec.accB]
theorem rej_one (r x : Int) : Dec.rejB ⟨[], [r]⟩ x = decide (x = r) := by simp [Dec.rejB]
theorem acc_no (l : List Int) (x : Int) : Dec.accB ⟨[], l⟩ x = false := by simp [Dec.accB]
theorem rej_no (l : List Int) (x : Int) : Dec.rejB ⟨l, []⟩ x = false := by simp [Dec.rejB]
/-- a change by a new revision, and what decides it -/
theorem undo_law {o x : Head} {rev k : Int} {s : St} (hq : Good o) (hs : SetSpec o rev k s x 0) (h0 : rev ≠ 0) (hr : rev ∉ revsL o) :
    goneB (Dec.accB ⟨[], [rev]⟩) (Dec.rejB ⟨[], [rev]⟩) x = false ∧ decH (Dec.accB ⟨[], [rev]⟩) (Dec.rejB ⟨[], [rev]⟩) x = o ∧
    goneB (Dec.accB ⟨[rev], []⟩) (Dec.rejB ⟨[rev], []⟩) x = false ∧ getP (decH (Dec.accB ⟨[rev], []⟩) (Dec.rejB ⟨[rev], []⟩) x).props k = s ∧ (layersK (decH (Dec.accB ⟨[rev], []⟩) (Dec.rejB ⟨[rev], []⟩) x).layers k = [] ∨ rev ∉ revsL x) := by
  have hi := revs_ins h0 hr
  have hd := revs_del hr
  have hy := revs_lay hr
  have hx := hs.good hq
  have hins := hs.ins
  have hdels : x.dels = o.dels := by
    unfold SetSpec at hs
    split at hs
    · rw [hs.1]
    · split at hs
      · have := hs.2; cases this
      · exact hs.1.dels
  have hmove : x.move = o.move := by
    unfold SetSpec at hs
    split at hs
    · rw [hs.1]
    · split at hs
      · have := hs.2; cases this
      · exact hs.1.move
  have g1 : goneB (Dec.accB ⟨[], [rev]⟩) (Dec.rejB ⟨[], [rev]⟩) x = false := by
    unfold goneB
    rw [rej_one, hins, decide_eq_false hi, Bool.and_false, Bool.false_or]
    exact List.any_eq_false.2 fun d _ => by rw [acc_no]; simp
  have g2 : goneB (Dec.accB ⟨[rev], []⟩) (Dec.rejB ⟨[rev], []⟩) x = false := by
    unfold goneB
    rw [rej_no, Bool.and_false, Bool.false_or, hdels]
    exact List.any_eq_false.2 fun d hdm => by rw [acc_one]; simp [hd d hdm]
  have s1 := decH_spec hx g1
  have s2 := decH_spec hx g2
  have hok : ∀ k', ∀ z ∈ layersK o.layers k', z.rev ≠ rev := fun k' z hz => hy z (layersK_mem.1 hz).1
  have key : (x = o ∧ getP o.props k = s) ∨ KeySpec o x k s (layersK o.layers k ++ [⟨rev, k, (getP o.props k).val, (getP o.props k).set⟩]) := by
    unfold SetSpec at hs
    split at hs
    · rename_i h; exact .inl ⟨hs.1, h⟩
    · split at hs
      · have := hs.2; cases this
      · have hk := hs.1
        have e : setG rev o.ins k s (getP o.props k) (layersK o.layers k) = layersK o.layers k ++ [⟨rev, k, (getP o.props k).val, (getP o.props k).set⟩] := by
          unfold setG
          rw [if_neg (by simp [h0, hi]), if_neg]
          intro h
          cases hg : (layersK o.layers k).getLast? with
          | none => rw [hg] at h; simp at h
          | some z =>
            rw [hg] at h
            simp at h
            exact hok k z (List.mem_of_getLast? hg) h
        rw [e] at hk
        exact .inr hk
  have acc1 : ∀ y : Layr, Dec.accB ⟨[], [rev]⟩ y.rev = false := fun y => acc_no _ _
  have rej2 : ∀ y : Layr, Dec.rejB ⟨[rev], []⟩ y.rev = false := fun y => rej_no _ _
  have rej1 : ∀ k', ∀ y ∈ layersK o.layers k', Dec.rejB ⟨[], [rev]⟩ y.rev = false := fun k' y hy => by rw [rej_one]; exact decide_eq_false (hok k' y hy)
  have acc2 : ∀ k', ∀ y ∈ layersK o.layers k', Dec.accB ⟨[rev], []⟩ y.rev = false := fun k' y hy => by rw [acc_one]; exact decide_eq_false (hok k' y hy)
  refine ⟨g1, ?_, g2, ?_, ?_⟩
  · refine s1.good.ext hq ?_ ?_ ?_ (fun k' => ?_) (fun k' => ?_)
    · rw [s1.ins, acc_no, Bool.and_false, hins]; rfl
    · rw [s1.move, acc_no, Bool.and_false, hmove]; rfl
    · rw [s1.dels, hdels, List.filter_eq_self]
      intro d hdm
      rw [rej_one, decide_eq_false (hd d hdm)]; rfl
    · rw [s1.props]
      rcases key with ⟨rfl, _⟩ | hk
      · rw [step_none (fun y _ => acc1 y) (rej1 k')]
      · rw [hk.props, hk.layers]
        by_cases e : k' = k
        · subst e
          rw [if_pos rfl, if_pos rfl, step_undo (fun y _ => acc1 y) (rej1 k') (by rw [rej_one]; simp)]
          rfl
        · rw [if_neg e, if_neg e, step_none (fun y _ => acc1 y) (rej1 k')]
    · rw [s1.layers]
      rcases key with ⟨rfl, _⟩ | hk
      · rw [step_none (fun y _ => acc1 y) (rej1 k')]
      · rw [hk.props, hk.layers]
        by_cases e : k' = k
        · subst e
          rw [if_pos rfl, if_pos rfl, step_undo (fun y _ => acc1 y) (rej1 k') (by rw [rej_one]; simp)]
        · rw [if_neg e, if_neg e, step_none (fun y _ => acc1 y) (rej1 k')]
  · rw [s2.props]
    rcases key with ⟨rfl, h⟩ | hk
    · rw [step_none (acc2 k) (fun y _ => rej2 y), h]
    · rw [hk.props, hk.layers, if_pos rfl, if_pos rfl, step_last (by rw [acc_one]; simp)]
  · rcases key with ⟨rfl, h⟩ | hk
    · exact .inr hr
    · refine .inl ?_
      rw [s2.layers, hk.props, hk.layers, if_pos rfl, if_pos rfl, step_last (by rw [acc_one]; simp)]
end Go.Proofs.Ythniohgeojenaaa
