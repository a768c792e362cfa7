/-
  The walks of the functions that write numerals, first part: the reference.
-/
import Derived.Test.YtaneeaojlkenmaaGreatDoorK3
namespace Go.Proofs.YtaneeaojlkenmaaGreatDoor
open Go Go.Lib
set_option linter.unusedVariables false
set_option linter.unusedSimpArgs false
attribute [local irreducible] wpA opsA drJ drQ drE Ef Ev Shift Fn
def rangeV (f : Int) : Value := .tuple [.int .i64 (if okF f then loF f else 0), .int .i64 (if okF f then hiF f else 0), .int .i64 (if okF f then 0 else 3)].toArray
def rangeR (f : Int) : Value := .tuple [.int .i64 (if okF f then loF f else 0), .int .i64 (if okF f then hiF f else 0), .bool (decide (okF f))].toArray
set_option maxRecDepth 100000 in
theorem Range_fn {H : Hp} {f : Int} : FnP Tryz.prog 82 [.int .i64 f] H (rangeV f) := by
  refine Fn_of _ _ Tryz.func82 rfl Tryz.ntmps82 rfl fun c => ?_
  repeat' (first | refine O_nil ?_ | refine A_seq ?_ | refine A_region ?_ | refine A_skip ?_ | refine A_ret ?_ | refine A_block ?_ | (show opsA _ _ _ _ _ _ _; refine O_ev WideF.wide rfl (Ev_pure rfl) rfl rfl ?_) | (show wpA _ _ _ (.cond _ _ _) _ _ _ _; (refine A_if rfl (fun h => ?_) (fun h => ?_) <;> try (exfalso; omega))))
  all_goals
    refine End_p (Ret3 rfl rfl rfl rfl) ?_
    first
      | (subst_vars; rfl)
      | (have hno : ¬ okF f := by unfold okF; omega
         unfold rangeV
         simp only [if_neg hno])
set_option maxRecDepth 100000 in
theorem rRange_fn {H : Hp} {f : Int} : FnP Tryz.prog 84 [.int .i64 f] H (rangeR f) := by
  refine Fn_of _ _ Tryz.func84 rfl Tryz.ntmps84 rfl fun c => ?_
  repeat' (first | refine O_nil ?_ | refine A_seq ?_ | refine A_region ?_ | refine A_skip ?_ | refine A_ret ?_ | refine A_block ?_ | (show opsA _ _ _ _ _ _ _; refine O_ev WideF.wide rfl (Ev_pure rfl) rfl rfl ?_) | (show wpA _ _ _ (.cond _ _ _) _ _ _ _; (refine A_if rfl (fun h => ?_) (fun h => ?_) <;> try (exfalso; omega))))
  all_goals
    refine End_p (Ret3 rfl rfl rfl rfl) ?_
    first
      | (subst_vars; rfl)
      | (have hno : ¬ okF f := by unfold okF; omega
         unfold rangeR
         simp only [if_neg hno, decide_eq_false hno])
set_option maxRecDepth 100000 in
theorem Suffix_fn {H : Hp} {n : Nat} (hn : n ≤ 999999) : FnP Tryz.prog 89 [.int .i64 n] H (sv (ending n)) := by
  refine Fn_of _ _ Tryz.func89 rfl Tryz.ntmps89 rfl fun c => ?_
  repeat' (first | refine O_nil ?_ | refine A_seq ?_ | refine A_region ?_ | refine A_skip ?_ | refine A_ret ?_ | refine A_block ?_ | (show opsA _ _ _ _ _ _ _; first | (refine O_split rfl rfl (fun h => ?_) (fun h => ?_) <;> try (exfalso; omega)) | refine O_ev WideF.wide rfl (Ev_pure rfl) rfl rfl ?_ | (show opsA _ _ _ _ (⟨_, .binOp _ _ _ _ _, _, _, _, _⟩ :: _) _ _; refine O_ev WideF.wide rfl (Ev_remp rfl rfl (by omega) (by omega)) rfl rfl ?_) | refine O_skip WideF.wide rfl rfl rfl ?_) | (show wpA _ _ _ (.cond _ _ _) _ _ _ _; first | (refine A_if rfl (fun h => ?_) (fun h => ?_) <;> try (exfalso; omega)) | refine A_iffalse rfl ?_))
  all_goals
    refine End_p (Ret1 rfl rfl) ?_
    unfold ending
    (repeat' split) <;> first | rfl | (exfalso; omega)
set_option maxRecDepth 100000 in
set_option maxHeartbeats 4000000 in
theorem letter_fn {H : Hp} {c : UInt8} {m : Int} (hm : m = c.toNat) : FnP Tryz.prog 119 [.int .u8 m] H (.int .i64 (rval c)) := by
  have hc : ∀ k : UInt8, c = k ↔ m = k.toNat := fun k => by rw [hm]; constructor; · rintro rfl; rfl
                                                            · intro h; exact UInt8.toNat_inj.1 (by omega)
  refine Fn_of _ _ Tryz.func119 rfl Tryz.ntmps119 rfl fun c => ?_
  repeat' (first | refine O_nil ?_ | refine A_seq ?_ | refine A_region ?_ | refine A_skip ?_ | refine A_ret ?_ | refine A_block ?_ | (show opsA _ _ _ _ _ _ _; refine O_ev WideF.wide rfl (Ev_pure rfl) rfl rfl ?_) | (show wpA _ _ _ (.cond _ _ _) _ _ _ _; (refine A_if rfl (fun h => ?_) (fun h => ?_) <;> try (exfalso; omega))))
  all_goals
    refine End_p (Ret1 rfl rfl) ?_
    unfold rval
    simp only [hc]
    (repeat' split) <;> first | rfl | (exfalso; simp at *; omega)
set_option maxRecDepth 100000 in
theorem Digits_fn (n : Nat) : ∀ (H : Hp), n ≤ 999999 → Fn Tryz.prog 85 [.int .i64 n] H [] fun v _ I => v = sv (decDigits n) ∧ I = [] := by
  induction n using Nat.strongRecOn with
  | _ n ih =>
    intro H hn
    refine Fn_of _ _ Tryz.func85 rfl Tryz.ntmps85 rfl fun c => ?_
    have e1 : (48 + (n : Int) % 10).toNat = 48 + n % 10 := by omega
    by_cases h9 : 9 < n
    · have hr : ∀ Hx, Fn Tryz.prog 85 [.int .i64 ((n : Int) / 10)] Hx [] fun v _ I => v = sv (decDigits (n / 10)) ∧ I = [] := fun Hx => by
        have := ih (n / 10) (by omega) Hx (by omega)
        simpa using this
      have hl : (decDigits (n / 10)).length ≤ 6 := dec_len _ 5 (by omega)
      repeat' (first | (refine O_ev WideF.wide rfl (Ev_conv (k2 := .u8) rfl (wu8 (by omega))) rfl rfl ?_) | (refine O_ev WideF.wide rfl (Ev_conv1 (i := 0) rfl rfl (by omega)) rfl rfl ?_) | (refine O_ef rfl (Ef_call (I := []) WideF.wide (hr _) ⟨rfl, trivial⟩ rfl ?_); rintro v H1 I1 hle1 ⟨rfl, rfl⟩) | (refine O_ev WideF.wide rfl (Ev_scat rfl rfl (by simp; omega)) rfl rfl ?_) | refine O_nil ?_ | refine A_seq ?_ | refine A_region ?_ | refine A_ret ?_ | (show opsA _ _ _ _ _ _ _; first | refine O_ev WideF.wide rfl (Ev_pure rfl) rfl rfl ?_ | (show opsA _ _ _ _ (⟨_, .buildSlice _ _ _, _, _, _, _⟩ :: _) _ _; (refine O_ef rfl (Ef_build11 WideF.wide rfl rfl rfl ?_); intro b)) | (show opsA _ _ _ _ (⟨_, .binOp _ _ _ _ _, _, _, _, _⟩ :: _) _ _; first | refine O_ev WideF.wide rfl (Ev_add rfl rfl (wi64 (by omega))) rfl rfl ?_ | refine O_ev WideF.wide rfl (Ev_quop rfl rfl (by omega) (by omega)) rfl rfl ?_ | refine O_ev WideF.wide rfl (Ev_remp rfl rfl (by omega) (by omega)) rfl rfl ?_)) | (show wpA _ _ _ (.cond _ _ _) _ _ _ _; (refine A_if rfl (fun h => ?_) (fun h => ?_) <;> try (exfalso; omega))))
      refine End_e (Ret1 rfl rfl) ⟨?_, rfl⟩
      rw [dec_big (n := n) (by omega), e1]
    · repeat' (first | (refine O_ev WideF.wide rfl (Ev_conv (k2 := .u8) rfl (wu8 (by omega))) rfl rfl ?_) | (refine O_ev WideF.wide rfl (Ev_conv1 (i := 0) rfl rfl (by omega)) rfl rfl ?_) | refine O_nil ?_ | refine A_seq ?_ | refine A_region ?_ | refine A_skip ?_ | refine A_ret ?_ | (show opsA _ _ _ _ _ _ _; first | refine O_ev WideF.wide rfl (Ev_pure rfl) rfl rfl ?_ | (show opsA _ _ _ _ (⟨_, .buildSlice _ _ _, _, _, _, _⟩ :: _) _ _; (refine O_ef rfl (Ef_build11 WideF.wide rfl rfl rfl ?_); intro b)) | (show opsA _ _ _ _ (⟨_, .binOp _ _ _ _ _, _, _, _, _⟩ :: _) _ _; first | refine O_ev WideF.wide rfl (Ev_add rfl rfl (wi64 (by omega))) rfl rfl ?_ | refine O_ev WideF.wide rfl (Ev_remp rfl rfl (by omega) (by omega)) rfl rfl ?_)) | (show wpA _ _ _ (.cond _ _ _) _ _ _ _; (refine A_if rfl (fun h => ?_) (fun h => ?_) <;> try (exfalso; omega))))
      refine End_e (Ret1 rfl rfl) ⟨?_, rfl⟩
      rw [dec_small (n := n) (by omega), e1, Nat.mod_eq_of_lt (by omega)]
set_option maxRecDepth 100000 in
theorem rLetters_fn {H : Hp} {n : Nat} (hn : n ≤ 999999) : Fn Tryz.prog 86 [.int .i64 n] H [] fun v _ I => v = sv (ltr n) ∧ I = [] := by
  have hlen := ltr_len n 5 (by omega)
  refine Fn_of _ _ Tryz.func86 rfl Tryz.ntmps86 rfl fun c => ?_
  repeat' (first | refine O_nil ?_ | refine A_seq ?_ | refine A_region ?_ | refine A_block ?_ | (show opsA _ _ _ _ _ _ _; refine O_ev WideF.wide rfl (Ev_pure rfl) rfl rfl ?_))
  refine A_loopu (fun m s => ∃ (k : Nat) (t : List UInt8) (H1 : Hp), m = k ∧ k ≤ 999999 ∧ ltr k ++ t = ltr n ∧ s = ⟨19, [(0, .int .i64 (k : Int)), (3, sv t)], H1, [], [], []⟩) ?_ ?_
  · exact Shift.to ⟨_, n, [], H, rfl, hn, by simp, rfl⟩ ⟨rfl, rfl, rfl, ⟨rfl, rfl, trivial⟩, Own.sub_nil _⟩
  · rintro m s ⟨k, t, H1, hm, hk, ht, rfl⟩
    by_cases h0 : 0 < k
    · have e1 := ltr_pos h0
      have ht2 : t.length ≤ 5 := by have := congrArg List.length ht; rw [List.length_append] at this; omega
      have e2 : (97 + ((k : Int) - 1) % 26).toNat = 97 + (k - 1) % 26 := by omega
      have e3 : ((k : Int) - 1) / 26 = (((k - 1) / 26 : Nat) : Int) := by omega
      repeat' (first | (refine O_ev WideF.wide rfl (Ev_conv (k2 := .u8) rfl (wu8 (by omega))) rfl rfl ?_) | (refine O_ev WideF.wide rfl (Ev_conv1 (i := 0) rfl rfl (by omega)) rfl rfl ?_) | (refine O_ev WideF.wide rfl (Ev_scat rfl rfl (by simp; omega)) rfl rfl ?_) | refine O_nil ?_ | refine A_seq ?_ | refine A_region ?_ | refine A_skip ?_ | refine A_block ?_ | (show opsA _ _ _ _ _ _ _; first | refine O_ev WideF.wide rfl (Ev_pure rfl) rfl rfl ?_ | (show opsA _ _ _ _ (⟨_, .buildSlice _ _ _, _, _, _, _⟩ :: _) _ _; (refine O_ef rfl (Ef_build11 WideF.wide rfl rfl rfl ?_); intro b)) | (show opsA _ _ _ _ (⟨_, .binOp _ _ _ _ _, _, _, _, _⟩ :: _) _ _; first | refine O_ev WideF.wide rfl (Ev_add rfl rfl (wi64 (by omega))) rfl rfl ?_ | refine O_ev WideF.wide rfl (Ev_sub rfl rfl (wi64 (by omega))) rfl rfl ?_ | refine O_ev WideF.wide rfl (Ev_quop rfl rfl (by omega) (by omega)) rfl rfl ?_ | refine O_ev WideF.wide rfl (Ev_remp rfl rfl (by omega) (by omega)) rfl rfl ?_)) | (show wpA _ _ _ (.cond _ _ _) _ _ _ _; (refine A_if rfl (fun h => ?_) (fun h => ?_) <;> try (exfalso; omega))))
      rw [e2, e3]
      refine Shift.to ⟨_, ?_, (k - 1) / 26, _, H1, rfl, by omega, ?_, rfl⟩ ⟨rfl, rfl, rfl, ⟨rfl, rfl, trivial⟩, Own.sub_nil _⟩
      · omega
      · rw [← ht, e1]; simp
    · repeat' (first | refine O_nil ?_ | refine A_seq ?_ | refine A_region ?_ | refine A_ret ?_ | (show opsA _ _ _ _ _ _ _; refine O_ev WideF.wide rfl (Ev_pure rfl) rfl rfl ?_) | (show wpA _ _ _ (.exit _) _ _ _ _; refine A_exit rfl ?_) | (show wpA _ _ _ (.cond _ _ _) _ _ _ _; (refine A_if rfl (fun h => ?_) (fun h => ?_) <;> try (exfalso; omega))))
      have : k = 0 := by omega
      subst this
      rw [ltr_zero, List.nil_append] at ht
      subst ht
      exact End_e (Ret1 rfl rfl) ⟨rfl, rfl⟩
end Go.Proofs.YtaneeaojlkenmaaGreatDoor
