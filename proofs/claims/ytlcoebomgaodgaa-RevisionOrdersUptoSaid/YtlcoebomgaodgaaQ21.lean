/-
  stableCmpFunc of at most 40 revisions.
-/
import Derived.Test.YtlcoebomgaodgaaQ20
namespace Go.Proofs.Ytlcoebomgaodgaa
open Go
set_option linter.unusedVariables false
set_option linter.unusedSimpArgs false
attribute [local irreducible] wpA opsA drJ drQ drE Ef Ev Shift Fn
set_option maxRecDepth 100000 in
set_option maxHeartbeats 4000000 in
theorem stable_many {H : Hp} {ao : Option Addr} {no co : Nat} {l : List Rev} (hl : l.length = no) (h20 : 20 ≤ no) (hm : no ≤ 40) :
    Fn Try.prog 91 [.slice ao no co, .int .i64 (no : Int), chronV] H [.row (.slice ao no co) 3 (l.map rrow)] fun v H' I' => v = .tuple #[] ∧ H' = H ∧ I' = [.row (.slice ao no co) 3 ((isort l).map rrow)] := by
  obtain ⟨a, b, rfl, ha, hb⟩ : ∃ a b, l = a ++ b ∧ a.length = 20 ∧ b.length + 20 = no := ⟨l.take 20, l.drop 20, (List.take_append_drop ..).symm, by rw [List.length_take]; omega, by rw [List.length_drop]; omega⟩
  clear hl
  refine Fn_of _ _ Try.func91 rfl Try.ntmps91 rfl fun c => ?_
  refine A_rowaddr (q := 0) rfl ?_
  intro r1 r2 r3 r4 r5
  obtain ⟨bb, rfl⟩ : ∃ bb, ao = some ⟨bb, 0, none⟩ := by
    cases ao with
    | none => have := (r3 rfl).1; simp at this; rw [this.1] at ha; simp at ha
    | some ad => obtain ⟨bb, rfl⟩ := r5 _ rfl; exact ⟨bb, rfl⟩
  have hi1 := fun Hx => insSort_fn (H := Hx) (ao := some ⟨bb, 0, none⟩) (no := no) (co := co) (lo := 0) (hi := 20) (pre := []) (seg := a) (post := b) rfl (by omega) (by omega) (by omega)
  simp only [List.nil_append] at hi1
  have hi2 := fun Hx => insSort_fn (H := Hx) (ao := some ⟨bb, 0, none⟩) (no := no) (co := co) (lo := 20) (hi := no) (pre := isort a) (seg := b) (post := []) (by rw [isort_len]; omega) (by omega) (by simp) (by omega)
  simp only [List.append_nil] at hi2
  have hi3 := fun Hx => insSort_fn (H := Hx) (ao := some ⟨bb, 0, none⟩) (no := no) (co := co) (lo := no) (hi := no) (pre := isort a ++ isort b) (seg := []) (post := []) (by rw [List.length_append, isort_len, isort_len]; omega) rfl (by simp) (by omega)
  simp only [List.append_nil, show isort [] = ([] : List Rev) from rfl] at hi3
  have hsm : no ≠ 20 → _ := fun (hne : no ≠ 20) Hx => symMerge 40 Hx bb no co [] (isort a) (isort b) [] 0 20 (no : Int) (by rw [isort_len, isort_len]; omega) (by rw [isort_len]; omega) (by rw [isort_len]; omega) rfl (by rw [isort_len]; simp; omega) (by rw [isort_len, isort_len]; simp; omega) (by rw [isort_len, isort_len]; simp; omega) (by omega) (isort_spec a).1 (isort_spec b).1
  simp only [List.nil_append, List.append_nil, isort_two] at hsm
  repeat' (first | refine O_nil ?_ | refine A_seq ?_ | refine A_region ?_ | refine A_block ?_ | (show opsA _ _ _ _ _ _ _; refine O_ev WideF.wide rfl (Ev_pure rfl) rfl rfl ?_))
  refine A_loopu (fun m st => ∃ (k : Nat) (ta tb : Int) (css : List (List Value)), m = 2 - k ∧ ((k = 0 ∧ ta = 0 ∧ tb = 20 ∧ css = (a ++ b).map rrow) ∨ (k = 1 ∧ ta = 20 ∧ tb = 40 ∧ css = (isort a ++ b).map rrow) ∨ (k = 2 ∧ no = 40 ∧ ta = 40 ∧ tb = 60 ∧ css = (isort a ++ isort b).map rrow)) ∧ st = ⟨63, [(0, .slice (some ⟨bb, 0, none⟩) no co), (1, .int .i64 (no : Int)), (2, chronV), (6, .int .i64 20), (7, .int .i64 ta), (8, .int .i64 tb)], H, [.row (.slice (some ⟨bb, 0, none⟩) no co) 3 css], [], []⟩) ?_ ?_
  · exact Shift.to ⟨_, 0, _, _, _, rfl, .inl ⟨rfl, rfl, rfl, rfl⟩, rfl⟩ ⟨rfl, rfl, rfl, ⟨rfl, rfl, rfl, rfl, rfl, rfl, trivial⟩, Own.subi [0] (by decide) rfl rfl⟩
  have h20e : no = 20 → isort a ++ isort b = isort (a ++ b) := fun e => by
    have : b = [] := List.eq_nil_of_length_eq_zero (by omega)
    subst this
    rw [List.append_nil, show isort [] = ([] : List Rev) from rfl, List.append_nil]
  rintro m st ⟨k, ta, tb, css, rfl, hk, rfl⟩
  rcases hk with ⟨rfl, rfl, rfl, rfl⟩ | ⟨rfl, rfl, rfl, rfl⟩ | ⟨rfl, h40, rfl, rfl, rfl⟩
  · repeat' (first | (refine O_ef rfl (Ef_call (I := [_]) WideF.wide (hi1 _) ⟨rfl, rfl, rfl, rfl, trivial⟩ rfl ?_); rintro v H2 I2 hle2 ⟨rfl, hH2, rfl⟩; obtain rfl := hH2.symm) | refine O_nil ?_ | refine A_seq ?_ | refine A_region ?_ | refine A_skip ?_ | refine A_block ?_ | (show opsA _ _ _ _ _ _ _; first | refine O_ev WideF.wide rfl (Ev_pure rfl) rfl rfl ?_ | (show opsA _ _ _ _ (⟨_, .binOp _ _ _ _ _, _, _, _, _⟩ :: _) _ _; refine O_ev WideF.wide rfl (Ev_add rfl rfl (wi64 (by omega))) rfl rfl ?_)) | (show wpA _ _ _ (.cond _ _ _) _ _ _ _; (refine A_if rfl (fun h => ?_) (fun h => ?_) <;> try (exfalso; omega))))
    all_goals first
      | (exfalso; omega)
      | exact Shift.to ⟨_, by decide, 1, _, _, _, rfl, .inr (.inl ⟨rfl, rfl, rfl, rfl⟩), rfl⟩ ⟨rfl, rfl, rfl, ⟨rfl, rfl, rfl, rfl, rfl, rfl, trivial⟩, Own.subi [0] (by decide) rfl rfl⟩
  · by_cases h40 : no = 40
    · subst h40
      repeat' (first | (refine O_ef rfl (Ef_call (I := [_]) WideF.wide (hi2 _) ⟨rfl, rfl, rfl, rfl, trivial⟩ rfl ?_); rintro v H2 I2 hle2 ⟨rfl, hH2, rfl⟩; obtain rfl := hH2.symm) | refine O_nil ?_ | refine A_seq ?_ | refine A_region ?_ | refine A_skip ?_ | refine A_block ?_ | (show opsA _ _ _ _ _ _ _; first | refine O_ev WideF.wide rfl (Ev_pure rfl) rfl rfl ?_ | (show opsA _ _ _ _ (⟨_, .binOp _ _ _ _ _, _, _, _, _⟩ :: _) _ _; refine O_ev WideF.wide rfl (Ev_add rfl rfl (wi64 (by omega))) rfl rfl ?_)) | (show wpA _ _ _ (.cond _ _ _) _ _ _ _; (refine A_if rfl (fun h => ?_) (fun h => ?_) <;> try (exfalso; omega))))
      all_goals first
        | (exfalso; omega)
        | exact Shift.to ⟨_, by decide, 2, _, _, _, rfl, .inr (.inr ⟨rfl, rfl, rfl, rfl, rfl⟩), rfl⟩ ⟨rfl, rfl, rfl, ⟨rfl, rfl, rfl, rfl, rfl, rfl, trivial⟩, Own.subi [0] (by decide) rfl rfl⟩
    · repeat' (first | (refine O_ef rfl (Ef_call (I := [_]) WideF.wide (hi2 _) ⟨rfl, rfl, rfl, rfl, trivial⟩ rfl ?_); rintro v H2 I2 hle2 ⟨rfl, hH2, rfl⟩; obtain rfl := hH2.symm) | refine O_nil ?_ | refine A_seq ?_ | refine A_region ?_ | refine A_block ?_ | (show opsA _ _ _ _ _ _ _; refine O_ev WideF.wide rfl (Ev_pure rfl) rfl rfl ?_) | (show wpA _ _ _ (.exit _) _ _ _ _; refine A_exit rfl ?_) | (show wpA _ _ _ (.cond _ _ _) _ _ _ _; (refine A_if rfl (fun h => ?_) (fun h => ?_) <;> try (exfalso; omega))))
      all_goals try (exfalso; omega)
      refine A_loopu (fun m st => ∃ (k : Nat) (tb : Int) (css : List (List Value)), m = k ∧ ((k = 1 ∧ tb = 20 ∧ css = (isort a ++ isort b).map rrow) ∨ (k = 0 ∧ tb = 40 ∧ css = (isort (a ++ b)).map rrow)) ∧ st = ⟨63, [(0, .slice (some ⟨bb, 0, none⟩) no co), (1, .int .i64 (no : Int)), (2, chronV), (6, .int .i64 tb)], H, [.row (.slice (some ⟨bb, 0, none⟩) no co) 3 css], [], []⟩) ?_ ?_
      · exact Shift.to ⟨_, 1, _, _, rfl, .inl ⟨rfl, rfl, rfl⟩, rfl⟩ ⟨rfl, rfl, rfl, ⟨rfl, rfl, rfl, rfl, trivial⟩, Own.subi [0] (by decide) rfl rfl⟩
      rintro m st ⟨k, tb, css, rfl, hk, rfl⟩
      rcases hk with ⟨rfl, rfl, rfl⟩ | ⟨rfl, rfl, rfl⟩
      · by_cases he : no = 20
        · rw [h20e he]
          repeat' (first | refine O_nil ?_ | refine A_seq ?_ | refine A_region ?_ | (show opsA _ _ _ _ _ _ _; refine O_ev WideF.wide rfl (Ev_pure rfl) rfl rfl ?_) | (show wpA _ _ _ (.exit _) _ _ _ _; refine A_exit rfl ?_) | (show wpA _ _ _ (.cond _ _ _) _ _ _ _; (refine A_if rfl (fun h => ?_) (fun h => ?_) <;> try (exfalso; omega))))
          all_goals first
            | (exfalso; omega)
            | exact End_m (Ret0 rfl) ⟨rfl, rfl, rfl⟩
        · repeat' (first | refine O_nil ?_ | refine A_seq ?_ | refine A_region ?_ | refine A_skip ?_ | refine A_block ?_ | (show opsA _ _ _ _ _ _ _; first | refine O_ev WideF.wide rfl (Ev_pure rfl) rfl rfl ?_ | (show opsA _ _ _ _ (⟨_, .binOp _ _ _ _ _, _, _, _, _⟩ :: _) _ _; refine O_ev WideF.wide rfl (Ev_mul rfl rfl (wi64 (by omega))) rfl rfl ?_)) | (show wpA _ _ _ (.cond _ _ _) _ _ _ _; (refine A_if rfl (fun h => ?_) (fun h => ?_) <;> try (exfalso; omega))))
          all_goals try (exfalso; omega)
          refine A_loopu (fun m st => m = 0 ∧ st = ⟨63, [(0, .slice (some ⟨bb, 0, none⟩) no co), (1, .int .i64 (no : Int)), (2, chronV), (6, .int .i64 20), (7, .int .i64 0), (8, .int .i64 40)], H, [.row (.slice (some ⟨bb, 0, none⟩) no co) 3 ((isort a ++ isort b).map rrow)], [], []⟩) ?_ ?_
          · exact Shift.to ⟨_, rfl, rfl⟩ ⟨rfl, rfl, rfl, ⟨rfl, rfl, rfl, rfl, rfl, rfl, trivial⟩, Own.subi [0] (by decide) rfl rfl⟩
          rintro m st ⟨rfl, rfl⟩
          repeat' (first | (refine O_ef rfl (Ef_call (I := [_]) WideF.wide (hsm he _) ⟨rfl, rfl, rfl, rfl, rfl, trivial⟩ rfl ?_); rintro v H2 I2 hle2 ⟨rfl, hH2, rfl⟩; obtain rfl := hH2.symm) | refine O_nil ?_ | refine A_seq ?_ | refine A_region ?_ | (show opsA _ _ _ _ _ _ _; first | refine O_ev WideF.wide rfl (Ev_pure rfl) rfl rfl ?_ | (show opsA _ _ _ _ (⟨_, .binOp _ _ _ _ _, _, _, _, _⟩ :: _) _ _; first | refine O_ev WideF.wide rfl (Ev_add rfl rfl (wi64 (by omega))) rfl rfl ?_ | refine O_ev WideF.wide rfl (Ev_mul rfl rfl (wi64 (by omega))) rfl rfl ?_)) | (show wpA _ _ _ (.exit _) _ _ _ _; refine A_exit rfl ?_) | (show wpA _ _ _ (.cond _ _ _) _ _ _ _; (refine A_if rfl (fun h => ?_) (fun h => ?_) <;> try (exfalso; omega))))
          all_goals first
            | (exfalso; omega)
            | exact Shift.to ⟨_, by decide, 0, _, _, rfl, .inr ⟨rfl, rfl, rfl⟩, rfl⟩ ⟨rfl, rfl, rfl, ⟨rfl, rfl, rfl, rfl, trivial⟩, Own.subi [0] (by decide) rfl rfl⟩
      · repeat' (first | refine O_nil ?_ | refine A_seq ?_ | refine A_region ?_ | (show opsA _ _ _ _ _ _ _; refine O_ev WideF.wide rfl (Ev_pure rfl) rfl rfl ?_) | (show wpA _ _ _ (.exit _) _ _ _ _; refine A_exit rfl ?_) | (show wpA _ _ _ (.cond _ _ _) _ _ _ _; (refine A_if rfl (fun h => ?_) (fun h => ?_) <;> try (exfalso; omega))))
        all_goals first
          | (exfalso; omega)
          | exact End_m (Ret0 rfl) ⟨rfl, rfl, rfl⟩
  · subst h40
    repeat' (first | (refine O_ef rfl (Ef_call (I := [_]) WideF.wide (hi3 _) ⟨rfl, rfl, rfl, rfl, trivial⟩ rfl ?_); rintro v H2 I2 hle2 ⟨rfl, hH2, rfl⟩; obtain rfl := hH2.symm) | refine O_nil ?_ | refine A_seq ?_ | refine A_region ?_ | refine A_block ?_ | (show opsA _ _ _ _ _ _ _; refine O_ev WideF.wide rfl (Ev_pure rfl) rfl rfl ?_) | (show wpA _ _ _ (.exit _) _ _ _ _; refine A_exit rfl ?_) | (show wpA _ _ _ (.cond _ _ _) _ _ _ _; (refine A_if rfl (fun h => ?_) (fun h => ?_) <;> try (exfalso; omega))))
    all_goals try (exfalso; omega)
    refine A_loopu (fun m st => ∃ (k : Nat) (tb : Int) (css : List (List Value)), m = k ∧ ((k = 1 ∧ tb = 20 ∧ css = (isort a ++ isort b).map rrow) ∨ (k = 0 ∧ tb = 40 ∧ css = (isort (a ++ b)).map rrow)) ∧ st = ⟨63, [(0, .slice (some ⟨bb, 0, none⟩) 40 co), (1, .int .i64 40), (2, chronV), (6, .int .i64 tb)], H, [.row (.slice (some ⟨bb, 0, none⟩) 40 co) 3 css], [], []⟩) ?_ ?_
    · exact Shift.to ⟨_, 1, _, _, rfl, .inl ⟨rfl, rfl, rfl⟩, rfl⟩ ⟨rfl, rfl, rfl, ⟨rfl, rfl, rfl, rfl, trivial⟩, Own.subi [0] (by decide) rfl rfl⟩
    rintro m st ⟨k, tb, css, rfl, hk, rfl⟩
    rcases hk with ⟨rfl, rfl, rfl⟩ | ⟨rfl, rfl, rfl⟩
    · repeat' (first | refine O_nil ?_ | refine A_seq ?_ | refine A_region ?_ | refine A_skip ?_ | refine A_block ?_ | (show opsA _ _ _ _ _ _ _; first | refine O_ev WideF.wide rfl (Ev_pure rfl) rfl rfl ?_ | (show opsA _ _ _ _ (⟨_, .binOp _ _ _ _ _, _, _, _, _⟩ :: _) _ _; refine O_ev WideF.wide rfl (Ev_mul rfl rfl (wi64 (by omega))) rfl rfl ?_)) | (show wpA _ _ _ (.cond _ _ _) _ _ _ _; (refine A_if rfl (fun h => ?_) (fun h => ?_) <;> try (exfalso; omega))))
      all_goals try (exfalso; omega)
      refine A_loopu (fun m st => ∃ (ta tb : Int) (css : List (List Value)), ((m = 1 ∧ ta = 0 ∧ tb = 40 ∧ css = (isort a ++ isort b).map rrow) ∨ (m = 0 ∧ ta = 40 ∧ tb = 80 ∧ css = (isort (a ++ b)).map rrow)) ∧ st = ⟨63, [(0, .slice (some ⟨bb, 0, none⟩) 40 co), (1, .int .i64 40), (2, chronV), (6, .int .i64 20), (7, .int .i64 ta), (8, .int .i64 tb)], H, [.row (.slice (some ⟨bb, 0, none⟩) 40 co) 3 css], [], []⟩) ?_ ?_
      · exact Shift.to ⟨_, _, _, _, .inl ⟨rfl, rfl, rfl, rfl⟩, rfl⟩ ⟨rfl, rfl, rfl, ⟨rfl, rfl, rfl, rfl, rfl, rfl, trivial⟩, Own.subi [0] (by decide) rfl rfl⟩
      rintro m st ⟨ta, tb, css, ⟨rfl, rfl, rfl, rfl⟩ | ⟨rfl, rfl, rfl, rfl⟩, rfl⟩
      · repeat' (first | (refine O_ef rfl (Ef_call (I := [_]) WideF.wide (hsm (by omega) _) ⟨rfl, rfl, rfl, rfl, rfl, trivial⟩ rfl ?_); rintro v H2 I2 hle2 ⟨rfl, hH2, rfl⟩; obtain rfl := hH2.symm) | refine O_nil ?_ | refine A_seq ?_ | refine A_region ?_ | refine A_skip ?_ | refine A_block ?_ | (show opsA _ _ _ _ _ _ _; first | refine O_ev WideF.wide rfl (Ev_pure rfl) rfl rfl ?_ | (show opsA _ _ _ _ (⟨_, .binOp _ _ _ _ _, _, _, _, _⟩ :: _) _ _; first | refine O_ev WideF.wide rfl (Ev_add rfl rfl (wi64 (by omega))) rfl rfl ?_ | refine O_ev WideF.wide rfl (Ev_mul rfl rfl (wi64 (by omega))) rfl rfl ?_)) | (show wpA _ _ _ (.cond _ _ _) _ _ _ _; (refine A_if rfl (fun h => ?_) (fun h => ?_) <;> try (exfalso; omega))))
        all_goals first
          | (exfalso; omega)
          | exact Shift.to ⟨_, by decide, _, _, _, .inr ⟨rfl, rfl, rfl, rfl⟩, rfl⟩ ⟨rfl, rfl, rfl, ⟨rfl, rfl, rfl, rfl, rfl, rfl, trivial⟩, Own.subi [0] (by decide) rfl rfl⟩
      · repeat' (first | refine O_nil ?_ | refine A_seq ?_ | refine A_region ?_ | refine A_skip ?_ | (show opsA _ _ _ _ _ _ _; first | refine O_ev WideF.wide rfl (Ev_pure rfl) rfl rfl ?_ | (show opsA _ _ _ _ (⟨_, .binOp _ _ _ _ _, _, _, _, _⟩ :: _) _ _; first | refine O_ev WideF.wide rfl (Ev_add rfl rfl (wi64 (by omega))) rfl rfl ?_ | refine O_ev WideF.wide rfl (Ev_mul rfl rfl (wi64 (by omega))) rfl rfl ?_)) | (show wpA _ _ _ (.exit _) _ _ _ _; refine A_exit rfl ?_) | (show wpA _ _ _ (.cond _ _ _) _ _ _ _; (refine A_if rfl (fun h => ?_) (fun h => ?_) <;> try (exfalso; omega))))
        all_goals first
          | (exfalso; omega)
          | exact Shift.to ⟨_, by decide, 0, _, _, rfl, .inr ⟨rfl, rfl, rfl⟩, rfl⟩ ⟨rfl, rfl, rfl, ⟨rfl, rfl, rfl, rfl, trivial⟩, Own.subi [0] (by decide) rfl rfl⟩
    · repeat' (first | refine O_nil ?_ | refine A_seq ?_ | refine A_region ?_ | (show opsA _ _ _ _ _ _ _; refine O_ev WideF.wide rfl (Ev_pure rfl) rfl rfl ?_) | (show wpA _ _ _ (.exit _) _ _ _ _; refine A_exit rfl ?_) | (show wpA _ _ _ (.cond _ _ _) _ _ _ _; (refine A_if rfl (fun h => ?_) (fun h => ?_) <;> try (exfalso; omega))))
      all_goals first
        | (exfalso; omega)
        | exact End_m (Ret0 rfl) ⟨rfl, rfl, rfl⟩
theorem stable40 : Stable 40 := fun H ao no co l hl hn => by
  by_cases h : no < 20
  · exact stable_few hl h
  · exact stable_many hl (by omega) hn
end Go.Proofs.Ytlcoebomgaodgaa
