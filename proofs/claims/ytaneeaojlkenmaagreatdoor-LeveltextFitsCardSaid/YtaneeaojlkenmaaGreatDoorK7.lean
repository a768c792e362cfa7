/-
  Format and the reference's Format hand back what the definition says.
-/
import Derived.Test.YtaneeaojlkenmaaGreatDoorK6
namespace Go.Proofs.YtaneeaojlkenmaaGreatDoor
open Go Go.Lib
set_option linter.unusedVariables false
set_option linter.unusedSimpArgs false
attribute [local irreducible] wpA opsA drJ drQ drE Ef Ev Shift Fn
theorem fmtE_in {f : Int} {n : Nat} (h : okF f) (h2 : loF f ≤ n ∧ n ≤ hiF f) : fmtE f n = (textF f n, 0) := by
  unfold fmtE
  rw [if_pos h, if_pos h2]; rfl
theorem fmtE_out {f n : Int} (h : okF f) (h2 : ¬ (loF f ≤ n ∧ n ≤ hiF f)) : fmtE f n = ([], 2) := by
  unfold fmtE
  rw [if_pos h, if_neg h2]
theorem fmtE_no {f n : Int} (h : ¬ okF f) : fmtE f n = ([], 3) := by
  unfold fmtE
  rw [if_neg h]
theorem okF_cases {f : Int} (h : okF f) : f = 1 ∨ f = 2 ∨ f = 3 ∨ f = 4 ∨ f = 5 ∨ f = 6 ∨ f = 7 := by
  obtain ⟨h1, h2⟩ := h
  omega
set_option maxRecDepth 100000 in
set_option maxHeartbeats 1000000 in
theorem Format_fn {H : Hp} (hE : EnvH H) (f n : Int) : Fn Tryz.prog 64 [.int .i64 f, .int .i64 n] H [] fun v _ I => v = fmtV f n ∧ I = [] := by
  by_cases hok : okF f
  · by_cases hin : loF f ≤ n ∧ n ≤ hiF f
    · have h0 := inF_nat (f := f) (n := n) ⟨hok, hin⟩
      obtain ⟨N, rfl⟩ : ∃ N : Nat, n = N := ⟨n.toNat, by omega⟩
      unfold fmtV
      rw [fmtE_in hok hin]
      rcases okF_cases hok with rfl | rfl | rfl | rfl | rfl | rfl | rfl
      · have hin : (0 : Int) ≤ N ∧ (N : Int) ≤ 999999 := hin
        exact Format_case (s := decDigits N) (fun _ => Range_fn) hin.1 hin.2 rfl fun Hx _ => (Itoa_fn (by omega)).mono fun v H' I h => ⟨h.1, h.2.2⟩
      · have hin : (1 : Int) ≤ N ∧ (N : Int) ≤ 999999 := hin
        exact Format_case (s := ltr N) (fun _ => Range_fn) hin.1 hin.2 rfl fun Hx _ => letters_fn N Hx (by omega)
      · have hin : (1 : Int) ≤ N ∧ (N : Int) ≤ 999999 := hin
        exact Format_case (s := upper (ltr N)) (fun _ => Range_fn) hin.1 hin.2 rfl fun Hx _ => upperLetters_fn (by omega)
      · have hin : (1 : Int) ≤ N ∧ (N : Int) ≤ 3999 := hin
        exact Format_case (s := rom N) (fun _ => Range_fn) hin.1 hin.2 rfl fun Hx hx => roman_fn (hE.mono hx) (by omega)
      · have hin : (1 : Int) ≤ N ∧ (N : Int) ≤ 3999 := hin
        exact Format_case (s := upper (rom N)) (fun _ => Range_fn) hin.1 hin.2 rfl fun Hx hx => upperRoman_fn (hE.mono hx) (by omega)
      · have hin : (1 : Int) ≤ N ∧ (N : Int) ≤ 999999 := hin
        exact Format_case (s := decDigits N ++ ending N) (fun _ => Range_fn) hin.1 hin.2 rfl fun Hx _ => ordinal_fn (by omega)
      · have hin : (1 : Int) ≤ N ∧ (N : Int) ≤ 999999 := hin
        exact Format_case (s := [226, 128, 162]) (fun _ => Range_fn) hin.1 hin.2 rfl fun Hx _ => bullet_fn
    · unfold fmtV
      rw [fmtE_out hok hin]
      have hR := Range_fn (H := H) (f := f)
      unfold rangeV at hR
      rw [if_pos hok, if_pos hok, if_pos hok] at hR
      generalize loF f = lo at *
      generalize hiF f = hi at *
      refine Fn_of _ _ Tryz.func64 rfl Tryz.ntmps64 rfl fun c => ?_
      repeat' (first | (refine O_ef rfl (Ef_callp WideF.wide hR ⟨rfl, trivial⟩ rfl ?_)) | refine O_nil ?_ | refine A_seq ?_ | refine A_region ?_ | refine A_ret ?_ | refine A_block ?_ | (show opsA _ _ _ _ _ _ _; first | (refine O_split rfl rfl (fun h => ?_) (fun h => ?_) <;> try (exfalso; omega)) | refine O_ev WideF.wide rfl (Ev_pure rfl) rfl rfl ?_ | refine O_skip WideF.wide rfl rfl rfl ?_) | (show wpA _ _ _ (.cond _ _ _) _ _ _ _; first | (refine A_if rfl (fun h => ?_) (fun h => ?_) <;> try (exfalso; omega)) | refine A_iftrue rfl ?_))
      all_goals first
        | (exfalso; omega)
        | exact End_e (Ret2 rfl rfl rfl) ⟨rfl, rfl⟩
  · unfold fmtV
    rw [fmtE_no hok]
    have hR := Range_fn (H := H) (f := f)
    unfold rangeV at hR
    rw [if_neg hok, if_neg hok, if_neg hok] at hR
    refine Fn_of _ _ Tryz.func64 rfl Tryz.ntmps64 rfl fun c => ?_
    repeat' (first | (refine O_ef rfl (Ef_callp WideF.wide hR ⟨rfl, trivial⟩ rfl ?_)) | refine O_nil ?_ | refine A_seq ?_ | refine A_region ?_ | refine A_ret ?_ | refine A_block ?_ | (show opsA _ _ _ _ _ _ _; refine O_ev WideF.wide rfl (Ev_pure rfl) rfl rfl ?_) | (show wpA _ _ _ (.cond _ _ _) _ _ _ _; (refine A_if rfl (fun h => ?_) (fun h => ?_) <;> try (exfalso; omega))))
    all_goals first
      | (exfalso; omega)
      | exact End_e (Ret2 rfl rfl rfl) ⟨rfl, rfl⟩
set_option maxRecDepth 100000 in
set_option maxHeartbeats 4000000 in
theorem rFormat_fn {H : Hp} (f n : Int) : Fn Tryz.prog 65 [.int .i64 f, .int .i64 n] H [] fun v _ I => v = fmtV f n ∧ I = [] := by
  by_cases hok : okF f
  · by_cases hin : loF f ≤ n ∧ n ≤ hiF f
    · have h0 := inF_nat (f := f) (n := n) ⟨hok, hin⟩
      obtain ⟨N, rfl⟩ : ∃ N : Nat, n = N := ⟨n.toNat, by omega⟩
      unfold fmtV
      rw [fmtE_in hok hin]
      have hR := rRange_fn (H := H) (f := f)
      unfold rangeR at hR
      rw [if_pos hok, if_pos hok, decide_eq_true hok] at hR
      have hdg := fun Hx => Digits_fn N Hx (by omega)
      have hlt := fun Hx => rLetters_fn (H := Hx) (n := N) (by omega)
      have hsf := fun Hx => Suffix_fn (H := Hx) (n := N) (by omega)
      have hup := fun Hx => upper_fn (H := Hx) (l := ltr N) (by have := ltr_len N 5 (by omega); omega)
      have hll := dec_len N 5 (by omega)
      have hel := ending_len N
      rcases okF_cases hok with rfl | rfl | rfl | rfl | rfl | rfl | rfl
      · have hin : (0 : Int) ≤ N ∧ (N : Int) ≤ 999999 := hin
        refine Fn_of _ _ Tryz.func65 rfl Tryz.ntmps65 rfl fun c => ?_
        repeat' (first | (refine O_ef rfl (Ef_callp WideF.wide hR ⟨rfl, trivial⟩ rfl ?_)) | (refine O_ef rfl (Ef_call (I := []) WideF.wide (hdg _) ⟨rfl, trivial⟩ rfl ?_); rintro v H1 I1 hle1 ⟨rfl, rfl⟩) | refine O_nil ?_ | refine A_seq ?_ | refine A_region ?_ | refine A_skip ?_ | refine A_ret ?_ | refine A_block ?_ | (show opsA _ _ _ _ _ _ _; first | (refine O_split rfl rfl (fun h => ?_) (fun h => ?_) <;> try (exfalso; omega)) | refine O_ev WideF.wide rfl (Ev_pure rfl) rfl rfl ?_ | (show opsA _ _ _ _ (⟨_, .unOp _ _ _, _, _, _, _⟩ :: _) _ _; refine O_ev WideF.wide rfl (Ev_notb rfl) rfl rfl ?_)) | (show wpA _ _ _ (.cond _ _ _) _ _ _ _; first | (refine A_if rfl (fun h => ?_) (fun h => ?_) <;> try (exfalso; omega)) | refine A_iffalse rfl ?_))
        all_goals first
          | (exfalso; simp only [loF, hiF] at *; omega)
          | exact End_e (Ret2 rfl rfl rfl) ⟨rfl, rfl⟩
      · have hin : (1 : Int) ≤ N ∧ (N : Int) ≤ 999999 := hin
        refine Fn_of _ _ Tryz.func65 rfl Tryz.ntmps65 rfl fun c => ?_
        repeat' (first | (refine O_ef rfl (Ef_callp WideF.wide hR ⟨rfl, trivial⟩ rfl ?_)) | (refine O_ef rfl (Ef_call (I := []) WideF.wide (hlt _) ⟨rfl, trivial⟩ rfl ?_); rintro v H1 I1 hle1 ⟨rfl, rfl⟩) | refine O_nil ?_ | refine A_seq ?_ | refine A_region ?_ | refine A_skip ?_ | refine A_ret ?_ | refine A_block ?_ | (show opsA _ _ _ _ _ _ _; first | (refine O_split rfl rfl (fun h => ?_) (fun h => ?_) <;> try (exfalso; omega)) | refine O_ev WideF.wide rfl (Ev_pure rfl) rfl rfl ?_ | (show opsA _ _ _ _ (⟨_, .unOp _ _ _, _, _, _, _⟩ :: _) _ _; refine O_ev WideF.wide rfl (Ev_notb rfl) rfl rfl ?_)) | (show wpA _ _ _ (.cond _ _ _) _ _ _ _; first | (refine A_if rfl (fun h => ?_) (fun h => ?_) <;> try (exfalso; omega)) | refine A_iffalse rfl ?_))
        all_goals first
          | (exfalso; simp only [loF, hiF] at *; omega)
          | exact End_e (Ret2 rfl rfl rfl) ⟨rfl, rfl⟩
      · have hin : (1 : Int) ≤ N ∧ (N : Int) ≤ 999999 := hin
        refine Fn_of _ _ Tryz.func65 rfl Tryz.ntmps65 rfl fun c => ?_
        repeat' (first | (refine O_ef rfl (Ef_callp WideF.wide hR ⟨rfl, trivial⟩ rfl ?_)) | (refine O_ef rfl (Ef_call (I := []) WideF.wide (hlt _) ⟨rfl, trivial⟩ rfl ?_); rintro v H1 I1 hle1 ⟨rfl, rfl⟩) | (refine O_ef rfl (Ef_call (I := []) WideF.wide (hup _) ⟨rfl, trivial⟩ rfl ?_); rintro v H2 I2 hle2 ⟨rfl, rfl⟩) | refine O_nil ?_ | refine A_seq ?_ | refine A_region ?_ | refine A_skip ?_ | refine A_ret ?_ | refine A_block ?_ | (show opsA _ _ _ _ _ _ _; first | (refine O_split rfl rfl (fun h => ?_) (fun h => ?_) <;> try (exfalso; omega)) | refine O_ev WideF.wide rfl (Ev_pure rfl) rfl rfl ?_ | (show opsA _ _ _ _ (⟨_, .unOp _ _ _, _, _, _, _⟩ :: _) _ _; refine O_ev WideF.wide rfl (Ev_notb rfl) rfl rfl ?_)) | (show wpA _ _ _ (.cond _ _ _) _ _ _ _; first | (refine A_if rfl (fun h => ?_) (fun h => ?_) <;> try (exfalso; omega)) | refine A_iffalse rfl ?_))
        all_goals first
          | (exfalso; simp only [loF, hiF] at *; omega)
          | exact End_e (Ret2 rfl rfl rfl) ⟨rfl, rfl⟩
      · have hin : (1 : Int) ≤ N ∧ (N : Int) ≤ 3999 := hin
        have hrm := fun Hx => rRoman_fn (H := Hx) (n := N) (by omega)
        refine Fn_of _ _ Tryz.func65 rfl Tryz.ntmps65 rfl fun c => ?_
        repeat' (first | (refine O_ef rfl (Ef_callp WideF.wide hR ⟨rfl, trivial⟩ rfl ?_)) | (refine O_ef rfl (Ef_call (I := []) WideF.wide (hrm _) ⟨rfl, trivial⟩ rfl ?_); rintro v H1 I1 hle1 ⟨rfl, rfl⟩) | refine O_nil ?_ | refine A_seq ?_ | refine A_region ?_ | refine A_skip ?_ | refine A_ret ?_ | refine A_block ?_ | (show opsA _ _ _ _ _ _ _; first | (refine O_split rfl rfl (fun h => ?_) (fun h => ?_) <;> try (exfalso; omega)) | refine O_ev WideF.wide rfl (Ev_pure rfl) rfl rfl ?_ | (show opsA _ _ _ _ (⟨_, .unOp _ _ _, _, _, _, _⟩ :: _) _ _; refine O_ev WideF.wide rfl (Ev_notb rfl) rfl rfl ?_)) | (show wpA _ _ _ (.cond _ _ _) _ _ _ _; first | (refine A_if rfl (fun h => ?_) (fun h => ?_) <;> try (exfalso; omega)) | refine A_iffalse rfl ?_))
        all_goals first
          | (exfalso; simp only [loF, hiF] at *; omega)
          | exact End_e (Ret2 rfl rfl rfl) ⟨rfl, rfl⟩
      · have hin : (1 : Int) ≤ N ∧ (N : Int) ≤ 3999 := hin
        have hrm := fun Hx => rRoman_fn (H := Hx) (n := N) (by omega)
        have hup2 := fun Hx => upper_fn (H := Hx) (l := rom N) (by have := rom_len (n := N) (by omega); omega)
        refine Fn_of _ _ Tryz.func65 rfl Tryz.ntmps65 rfl fun c => ?_
        repeat' (first | (refine O_ef rfl (Ef_callp WideF.wide hR ⟨rfl, trivial⟩ rfl ?_)) | (refine O_ef rfl (Ef_call (I := []) WideF.wide (hrm _) ⟨rfl, trivial⟩ rfl ?_); rintro v H1 I1 hle1 ⟨rfl, rfl⟩) | (refine O_ef rfl (Ef_call (I := []) WideF.wide (hup2 _) ⟨rfl, trivial⟩ rfl ?_); rintro v H2 I2 hle2 ⟨rfl, rfl⟩) | refine O_nil ?_ | refine A_seq ?_ | refine A_region ?_ | refine A_skip ?_ | refine A_ret ?_ | refine A_block ?_ | (show opsA _ _ _ _ _ _ _; first | (refine O_split rfl rfl (fun h => ?_) (fun h => ?_) <;> try (exfalso; omega)) | refine O_ev WideF.wide rfl (Ev_pure rfl) rfl rfl ?_ | (show opsA _ _ _ _ (⟨_, .unOp _ _ _, _, _, _, _⟩ :: _) _ _; refine O_ev WideF.wide rfl (Ev_notb rfl) rfl rfl ?_)) | (show wpA _ _ _ (.cond _ _ _) _ _ _ _; first | (refine A_if rfl (fun h => ?_) (fun h => ?_) <;> try (exfalso; omega)) | refine A_iffalse rfl ?_))
        all_goals first
          | (exfalso; simp only [loF, hiF] at *; omega)
          | exact End_e (Ret2 rfl rfl rfl) ⟨rfl, rfl⟩
      · have hin : (1 : Int) ≤ N ∧ (N : Int) ≤ 999999 := hin
        refine Fn_of _ _ Tryz.func65 rfl Tryz.ntmps65 rfl fun c => ?_
        repeat' (first | (refine O_ef rfl (Ef_callp WideF.wide hR ⟨rfl, trivial⟩ rfl ?_)) | (refine O_ef rfl (Ef_call (I := []) WideF.wide (hdg _) ⟨rfl, trivial⟩ rfl ?_); rintro v H1 I1 hle1 ⟨rfl, rfl⟩) | (refine O_ef rfl (Ef_callp WideF.wide (hsf _) ⟨rfl, trivial⟩ rfl ?_)) | (refine O_ev WideF.wide rfl (Ev_scat rfl rfl (by omega)) rfl rfl ?_) | refine O_nil ?_ | refine A_seq ?_ | refine A_region ?_ | refine A_skip ?_ | refine A_ret ?_ | refine A_block ?_ | (show opsA _ _ _ _ _ _ _; first | (refine O_split rfl rfl (fun h => ?_) (fun h => ?_) <;> try (exfalso; omega)) | refine O_ev WideF.wide rfl (Ev_pure rfl) rfl rfl ?_ | (show opsA _ _ _ _ (⟨_, .unOp _ _ _, _, _, _, _⟩ :: _) _ _; refine O_ev WideF.wide rfl (Ev_notb rfl) rfl rfl ?_)) | (show wpA _ _ _ (.cond _ _ _) _ _ _ _; first | (refine A_if rfl (fun h => ?_) (fun h => ?_) <;> try (exfalso; omega)) | refine A_iffalse rfl ?_))
        all_goals first
          | (exfalso; simp only [loF, hiF] at *; omega)
          | exact End_e (Ret2 rfl rfl rfl) ⟨rfl, rfl⟩
      · have hin : (1 : Int) ≤ N ∧ (N : Int) ≤ 999999 := hin
        refine Fn_of _ _ Tryz.func65 rfl Tryz.ntmps65 rfl fun c => ?_
        repeat' (first | (refine O_ef rfl (Ef_callp WideF.wide hR ⟨rfl, trivial⟩ rfl ?_)) | refine O_nil ?_ | refine A_seq ?_ | refine A_region ?_ | refine A_skip ?_ | refine A_ret ?_ | refine A_block ?_ | (show opsA _ _ _ _ _ _ _; first | (refine O_split rfl rfl (fun h => ?_) (fun h => ?_) <;> try (exfalso; omega)) | refine O_ev WideF.wide rfl (Ev_pure rfl) rfl rfl ?_ | (show opsA _ _ _ _ (⟨_, .unOp _ _ _, _, _, _, _⟩ :: _) _ _; refine O_ev WideF.wide rfl (Ev_notb rfl) rfl rfl ?_)) | (show wpA _ _ _ (.cond _ _ _) _ _ _ _; first | (refine A_if rfl (fun h => ?_) (fun h => ?_) <;> try (exfalso; omega)) | refine A_iffalse rfl ?_))
        all_goals first
          | (exfalso; simp only [loF, hiF] at *; omega)
          | exact End_e (Ret2 rfl rfl rfl) ⟨rfl, rfl⟩
    · unfold fmtV
      rw [fmtE_out hok hin]
      have hR := rRange_fn (H := H) (f := f)
      unfold rangeR at hR
      rw [if_pos hok, if_pos hok, decide_eq_true hok] at hR
      generalize loF f = lo at *
      generalize hiF f = hi at *
      refine Fn_of _ _ Tryz.func65 rfl Tryz.ntmps65 rfl fun c => ?_
      repeat' (first | (refine O_ef rfl (Ef_callp WideF.wide hR ⟨rfl, trivial⟩ rfl ?_)) | refine O_nil ?_ | refine A_seq ?_ | refine A_region ?_ | refine A_skip ?_ | refine A_ret ?_ | (show opsA _ _ _ _ _ _ _; first | (refine O_split rfl rfl (fun h => ?_) (fun h => ?_) <;> try (exfalso; omega)) | refine O_ev WideF.wide rfl (Ev_pure rfl) rfl rfl ?_ | (show opsA _ _ _ _ (⟨_, .unOp _ _ _, _, _, _, _⟩ :: _) _ _; refine O_ev WideF.wide rfl (Ev_notb rfl) rfl rfl ?_) | refine O_skip WideF.wide rfl rfl rfl ?_) | (show wpA _ _ _ (.cond _ _ _) _ _ _ _; first | (refine A_if rfl (fun h => ?_) (fun h => ?_) <;> try (exfalso; omega)) | refine A_iftrue rfl ?_ | refine A_iffalse rfl ?_))
      all_goals first
        | (exfalso; omega)
        | exact End_e (Ret2 rfl rfl rfl) ⟨rfl, rfl⟩
  · unfold fmtV
    rw [fmtE_no hok]
    have hR := rRange_fn (H := H) (f := f)
    unfold rangeR at hR
    rw [if_neg hok, if_neg hok, decide_eq_false hok] at hR
    refine Fn_of _ _ Tryz.func65 rfl Tryz.ntmps65 rfl fun c => ?_
    repeat' (first | (refine O_ef rfl (Ef_callp WideF.wide hR ⟨rfl, trivial⟩ rfl ?_)) | refine O_nil ?_ | refine A_seq ?_ | refine A_region ?_ | refine A_ret ?_ | (show opsA _ _ _ _ _ _ _; first | refine O_ev WideF.wide rfl (Ev_pure rfl) rfl rfl ?_ | (show opsA _ _ _ _ (⟨_, .unOp _ _ _, _, _, _, _⟩ :: _) _ _; refine O_ev WideF.wide rfl (Ev_notb rfl) rfl rfl ?_)) | (show wpA _ _ _ (.cond _ _ _) _ _ _ _; refine A_iftrue rfl ?_))
    all_goals first
      | (exfalso; omega)
      | exact End_e (Ret2 rfl rfl rfl) ⟨rfl, rfl⟩
end Go.Proofs.YtaneeaojlkenmaaGreatDoor
