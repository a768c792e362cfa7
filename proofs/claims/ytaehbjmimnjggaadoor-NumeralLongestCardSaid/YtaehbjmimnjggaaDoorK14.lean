/-
  NumeralOrdinals, Detect, NumeralDetects.
-/
import Derived.Test.YtaehbjmimnjggaaDoorK11
namespace Go.Proofs.YtaehbjmimnjggaaDoor
open Go Go.Lib
set_option linter.unusedVariables false
set_option linter.unusedSimpArgs false
attribute [local irreducible] wpA opsA drJ drQ drE Ef Ev Shift Fn
theorem ending_cases (n : Nat) : (n / 10 % 10 = 1 ∧ ending n = [116, 104]) ∨ (n / 10 % 10 ≠ 1 ∧ n % 10 = 1 ∧ ending n = [115, 116]) ∨ (n / 10 % 10 ≠ 1 ∧ n % 10 = 2 ∧ ending n = [110, 100]) ∨ (n / 10 % 10 ≠ 1 ∧ n % 10 = 3 ∧ ending n = [114, 100])
    ∨ (n / 10 % 10 ≠ 1 ∧ ¬ (1 ≤ n % 10 ∧ n % 10 ≤ 3) ∧ ending n = [116, 104]) := by
  unfold ending
  by_cases h1 : n / 10 % 10 = 1
  · exact .inl ⟨h1, if_pos h1⟩
  · rw [if_neg h1]
    by_cases h2 : n % 10 = 1
    · exact .inr (.inl ⟨h1, h2, if_pos h2⟩)
    · rw [if_neg h2]
      by_cases h3 : n % 10 = 2
      · exact .inr (.inr (.inl ⟨h1, h3, if_pos h3⟩))
      · rw [if_neg h3]
        by_cases h4 : n % 10 = 3
        · exact .inr (.inr (.inr (.inl ⟨h1, h4, if_pos h4⟩)))
        · exact .inr (.inr (.inr (.inr ⟨h1, by omega, if_neg h4⟩)))
set_option maxRecDepth 100000 in
set_option maxHeartbeats 2000000 in
theorem NumeralOrdinals_fn {H : Hp} (hE : EnvH H) (n : Int) : Fn Tryd.prog 8 [.int .i64 n] H [] fun v _ I => v = .bool true ∧ I = [] := by
  have h3 := Format_fn hE 6 n
  have h4 := fun Hx (hx : HLe H Hx) => Format_fn (hE.mono hx) 1 n
  have hk := fun Hx (hx : HLe H Hx) => known_fn (hE.mono hx)
  unfold fmtV at h3 h4
  by_cases hin : 1 ≤ n ∧ n ≤ 999999
  · obtain ⟨N, rfl⟩ : ∃ N : Nat, n = N := ⟨n.toNat, by omega⟩
    have e6 : fmtE 6 N = (decDigits N ++ ending N, 0) := fmtE_in (by decide) ⟨hin.1, hin.2⟩
    have e1 : fmtE 1 N = (decDigits N, 0) := fmtE_in (by decide) ⟨Int.le_trans (by decide) hin.1, hin.2⟩
    rw [e6] at h3
    rw [e1] at h4
    dsimp only at h3 h4
    have hl := ending_len N
    have hd := dec_len N 5 (by omega)
    have hL : (decDigits N ++ ending N).length = (decDigits N).length + 2 := by rw [List.length_append, hl]
    have eT : (decDigits N ++ ending N).take (((decDigits N).length : Nat) : Int).toNat = decDigits N := by simp
    have eD : (decDigits N ++ ending N).drop (((decDigits N).length : Nat) : Int).toNat = ending N := by simp
    rcases ending_cases N with ⟨c1, ce⟩ | ⟨c1, c2, ce⟩ | ⟨c1, c2, ce⟩ | ⟨c1, c2, ce⟩ | ⟨c1, c2, ce⟩
    · rw [ce] at h3 hL eT eD
      refine Fn_of _ _ Tryd.func8 rfl Tryd.ntmps8 rfl fun c => ?_
      repeat' (first | (refine O_ef rfl (Ef_call (I := []) WideF.wide h3 ⟨rfl, rfl, trivial⟩ rfl ?_); rintro v H1 I1 hle1 ⟨rfl, rfl⟩) | (refine O_ef rfl (Ef_call (I := []) WideF.wide (h4 _ hle1) ⟨rfl, rfl, trivial⟩ rfl ?_); rintro v H2 I2 hle2 ⟨rfl, rfl⟩) | (refine O_ef rfl (Ef_call (I := []) WideF.wide (hk _ (hle1.trans hle2)) trivial rfl ?_); rintro v H3 I3 hle3 ⟨rfl, rfl⟩) | (refine O_ev WideF.wide rfl (Ev_ssliceh rfl rfl (by omega) (by omega)) rfl rfl ?_; rw [eT]) | (refine O_ev WideF.wide rfl (Ev_sslicel rfl rfl (by omega) (by omega)) rfl rfl ?_; rw [eD]) | (refine O_ev WideF.wide rfl (Ev_snes rfl rfl) rfl rfl ?_) | (refine O_ev WideF.wide rfl (Ev_seqs rfl rfl) rfl rfl ?_) | refine O_nil ?_ | refine A_seq ?_ | refine A_region ?_ | refine A_skip ?_ | refine A_ret ?_ | (show opsA _ _ _ _ _ _ _; first | (refine O_split rfl rfl (fun h => ?_) (fun h => ?_) <;> try (exfalso; omega)) | refine O_ev WideF.wide rfl (Ev_pure rfl) rfl rfl ?_ | (show opsA _ _ _ _ (⟨_, .call _, _, _, _, _⟩ :: _) _ _; refine O_ev WideF.wide rfl (Ev_slen rfl) rfl rfl ?_) | (show opsA _ _ _ _ (⟨_, .binOp _ _ _ _ _, _, _, _, _⟩ :: _) _ _; first | refine O_ev WideF.wide rfl (Ev_add rfl rfl (wi64 (by omega))) rfl rfl ?_ | refine O_ev WideF.wide rfl (Ev_quop rfl rfl (by omega) (by omega)) rfl rfl ?_ | refine O_ev WideF.wide rfl (Ev_remp rfl rfl (by omega) (by omega)) rfl rfl ?_) | (show opsA _ _ _ _ (⟨_, .unOp _ _ _, _, _, _, _⟩ :: _) _ _; refine O_ev WideF.wide rfl (Ev_notb rfl) rfl rfl ?_) | refine O_skip WideF.wide rfl rfl rfl ?_) | (show wpA _ _ _ (.cond _ _ _) _ _ _ _; first | (refine A_if rfl (fun h => ?_) (fun h => ?_) <;> try (exfalso; omega)) | refine A_iffalse rfl ?_))
      all_goals first
        | (exfalso; omega)
        | exact End_e (Ret1 rfl rfl) ⟨rfl, rfl⟩
    · have hr : (N : Int) % 10 = 1 := by omega
      rw [ce] at h3 hL eT eD
      refine Fn_of _ _ Tryd.func8 rfl Tryd.ntmps8 rfl fun c => ?_
      repeat' (first | (refine O_ef rfl (Ef_call (I := []) WideF.wide h3 ⟨rfl, rfl, trivial⟩ rfl ?_); rintro v H1 I1 hle1 ⟨rfl, rfl⟩) | (refine O_ef rfl (Ef_call (I := []) WideF.wide (h4 _ hle1) ⟨rfl, rfl, trivial⟩ rfl ?_); rintro v H2 I2 hle2 ⟨rfl, rfl⟩) | (refine O_ef rfl (Ef_call (I := []) WideF.wide (hk _ (hle1.trans hle2)) trivial rfl ?_); rintro v H3 I3 hle3 ⟨rfl, rfl⟩) | (refine O_ev WideF.wide rfl (Ev_ssliceh rfl rfl (by omega) (by omega)) rfl rfl ?_; rw [eT]) | (refine O_ev WideF.wide rfl (Ev_sslicel rfl rfl (by omega) (by omega)) rfl rfl ?_; rw [eD]) | (refine O_ev WideF.wide rfl (Ev_snes rfl rfl) rfl rfl ?_) | (refine O_ev WideF.wide rfl (Ev_seqs rfl rfl) rfl rfl ?_) | (refine O_ev WideF.wide rfl (Ev_remp rfl rfl (by omega) (by omega)) rfl rfl ?_; rw [hr]) | (refine O_ef rfl (Ef_buildn WideF.wide (k := 1) (xs := [_, _, _]) (vs := [_, _, _]) rfl ⟨rfl, rfl, rfl, trivial⟩ rfl rfl rfl rfl rfl rfl ?_); intro bb) | (refine O_ev WideF.wide rfl (Ev_loadR1 (i := 0) (q := 0) (d := 0) rfl rfl rfl rfl rfl) rfl rfl ?_) | refine O_nil ?_ | refine A_seq ?_ | refine A_region ?_ | refine A_skip ?_ | refine A_ret ?_ | (show opsA _ _ _ _ _ _ _; first | (refine O_split rfl rfl (fun h => ?_) (fun h => ?_) <;> try (exfalso; omega)) | refine O_ev WideF.wide rfl (Ev_pure rfl) rfl rfl ?_ | (show opsA _ _ _ _ (⟨_, .indexAddr _ _ _, _, _, _, _⟩ :: _) _ _; refine O_ev WideF.wide rfl (Ev_indexAddr rfl rfl (by omega) (by omega)) rfl rfl ?_) | (show opsA _ _ _ _ (⟨_, .call _, _, _, _, _⟩ :: _) _ _; refine O_ev WideF.wide rfl (Ev_slen rfl) rfl rfl ?_) | (show opsA _ _ _ _ (⟨_, .binOp _ _ _ _ _, _, _, _, _⟩ :: _) _ _; first | refine O_ev WideF.wide rfl (Ev_add rfl rfl (wi64 (by omega))) rfl rfl ?_ | refine O_ev WideF.wide rfl (Ev_sub rfl rfl (wi64 (by omega))) rfl rfl ?_ | refine O_ev WideF.wide rfl (Ev_quop rfl rfl (by omega) (by omega)) rfl rfl ?_ | refine O_ev WideF.wide rfl (Ev_remp rfl rfl (by omega) (by omega)) rfl rfl ?_) | (show opsA _ _ _ _ (⟨_, .unOp _ _ _, _, _, _, _⟩ :: _) _ _; refine O_ev WideF.wide rfl (Ev_notb rfl) rfl rfl ?_)) | (show wpA _ _ _ (.cond _ _ _) _ _ _ _; first | (refine A_if rfl (fun h => ?_) (fun h => ?_) <;> try (exfalso; omega)) | refine A_iffalse rfl ?_))
      all_goals first
        | (exfalso; omega)
        | exact End_e (Ret1 rfl rfl) ⟨rfl, rfl⟩
    · have hr : (N : Int) % 10 = 2 := by omega
      rw [ce] at h3 hL eT eD
      refine Fn_of _ _ Tryd.func8 rfl Tryd.ntmps8 rfl fun c => ?_
      repeat' (first | (refine O_ef rfl (Ef_call (I := []) WideF.wide h3 ⟨rfl, rfl, trivial⟩ rfl ?_); rintro v H1 I1 hle1 ⟨rfl, rfl⟩) | (refine O_ef rfl (Ef_call (I := []) WideF.wide (h4 _ hle1) ⟨rfl, rfl, trivial⟩ rfl ?_); rintro v H2 I2 hle2 ⟨rfl, rfl⟩) | (refine O_ef rfl (Ef_call (I := []) WideF.wide (hk _ (hle1.trans hle2)) trivial rfl ?_); rintro v H3 I3 hle3 ⟨rfl, rfl⟩) | (refine O_ev WideF.wide rfl (Ev_ssliceh rfl rfl (by omega) (by omega)) rfl rfl ?_; rw [eT]) | (refine O_ev WideF.wide rfl (Ev_sslicel rfl rfl (by omega) (by omega)) rfl rfl ?_; rw [eD]) | (refine O_ev WideF.wide rfl (Ev_snes rfl rfl) rfl rfl ?_) | (refine O_ev WideF.wide rfl (Ev_seqs rfl rfl) rfl rfl ?_) | (refine O_ev WideF.wide rfl (Ev_remp rfl rfl (by omega) (by omega)) rfl rfl ?_; rw [hr]) | (refine O_ef rfl (Ef_buildn WideF.wide (k := 1) (xs := [_, _, _]) (vs := [_, _, _]) rfl ⟨rfl, rfl, rfl, trivial⟩ rfl rfl rfl rfl rfl rfl ?_); intro bb) | (refine O_ev WideF.wide rfl (Ev_loadR1 (i := 1) (q := 0) (d := 0) rfl rfl rfl rfl rfl) rfl rfl ?_) | refine O_nil ?_ | refine A_seq ?_ | refine A_region ?_ | refine A_skip ?_ | refine A_ret ?_ | (show opsA _ _ _ _ _ _ _; first | (refine O_split rfl rfl (fun h => ?_) (fun h => ?_) <;> try (exfalso; omega)) | refine O_ev WideF.wide rfl (Ev_pure rfl) rfl rfl ?_ | (show opsA _ _ _ _ (⟨_, .indexAddr _ _ _, _, _, _, _⟩ :: _) _ _; refine O_ev WideF.wide rfl (Ev_indexAddr rfl rfl (by omega) (by omega)) rfl rfl ?_) | (show opsA _ _ _ _ (⟨_, .call _, _, _, _, _⟩ :: _) _ _; refine O_ev WideF.wide rfl (Ev_slen rfl) rfl rfl ?_) | (show opsA _ _ _ _ (⟨_, .binOp _ _ _ _ _, _, _, _, _⟩ :: _) _ _; first | refine O_ev WideF.wide rfl (Ev_add rfl rfl (wi64 (by omega))) rfl rfl ?_ | refine O_ev WideF.wide rfl (Ev_sub rfl rfl (wi64 (by omega))) rfl rfl ?_ | refine O_ev WideF.wide rfl (Ev_quop rfl rfl (by omega) (by omega)) rfl rfl ?_ | refine O_ev WideF.wide rfl (Ev_remp rfl rfl (by omega) (by omega)) rfl rfl ?_) | (show opsA _ _ _ _ (⟨_, .unOp _ _ _, _, _, _, _⟩ :: _) _ _; refine O_ev WideF.wide rfl (Ev_notb rfl) rfl rfl ?_)) | (show wpA _ _ _ (.cond _ _ _) _ _ _ _; first | (refine A_if rfl (fun h => ?_) (fun h => ?_) <;> try (exfalso; omega)) | refine A_iffalse rfl ?_))
      all_goals first
        | (exfalso; omega)
        | exact End_e (Ret1 rfl rfl) ⟨rfl, rfl⟩
    · have hr : (N : Int) % 10 = 3 := by omega
      rw [ce] at h3 hL eT eD
      refine Fn_of _ _ Tryd.func8 rfl Tryd.ntmps8 rfl fun c => ?_
      repeat' (first | (refine O_ef rfl (Ef_call (I := []) WideF.wide h3 ⟨rfl, rfl, trivial⟩ rfl ?_); rintro v H1 I1 hle1 ⟨rfl, rfl⟩) | (refine O_ef rfl (Ef_call (I := []) WideF.wide (h4 _ hle1) ⟨rfl, rfl, trivial⟩ rfl ?_); rintro v H2 I2 hle2 ⟨rfl, rfl⟩) | (refine O_ef rfl (Ef_call (I := []) WideF.wide (hk _ (hle1.trans hle2)) trivial rfl ?_); rintro v H3 I3 hle3 ⟨rfl, rfl⟩) | (refine O_ev WideF.wide rfl (Ev_ssliceh rfl rfl (by omega) (by omega)) rfl rfl ?_; rw [eT]) | (refine O_ev WideF.wide rfl (Ev_sslicel rfl rfl (by omega) (by omega)) rfl rfl ?_; rw [eD]) | (refine O_ev WideF.wide rfl (Ev_snes rfl rfl) rfl rfl ?_) | (refine O_ev WideF.wide rfl (Ev_seqs rfl rfl) rfl rfl ?_) | (refine O_ev WideF.wide rfl (Ev_remp rfl rfl (by omega) (by omega)) rfl rfl ?_; rw [hr]) | (refine O_ef rfl (Ef_buildn WideF.wide (k := 1) (xs := [_, _, _]) (vs := [_, _, _]) rfl ⟨rfl, rfl, rfl, trivial⟩ rfl rfl rfl rfl rfl rfl ?_); intro bb) | (refine O_ev WideF.wide rfl (Ev_loadR1 (i := 2) (q := 0) (d := 0) rfl rfl rfl rfl rfl) rfl rfl ?_) | refine O_nil ?_ | refine A_seq ?_ | refine A_region ?_ | refine A_skip ?_ | refine A_ret ?_ | (show opsA _ _ _ _ _ _ _; first | (refine O_split rfl rfl (fun h => ?_) (fun h => ?_) <;> try (exfalso; omega)) | refine O_ev WideF.wide rfl (Ev_pure rfl) rfl rfl ?_ | (show opsA _ _ _ _ (⟨_, .indexAddr _ _ _, _, _, _, _⟩ :: _) _ _; refine O_ev WideF.wide rfl (Ev_indexAddr rfl rfl (by omega) (by omega)) rfl rfl ?_) | (show opsA _ _ _ _ (⟨_, .call _, _, _, _, _⟩ :: _) _ _; refine O_ev WideF.wide rfl (Ev_slen rfl) rfl rfl ?_) | (show opsA _ _ _ _ (⟨_, .binOp _ _ _ _ _, _, _, _, _⟩ :: _) _ _; first | refine O_ev WideF.wide rfl (Ev_add rfl rfl (wi64 (by omega))) rfl rfl ?_ | refine O_ev WideF.wide rfl (Ev_sub rfl rfl (wi64 (by omega))) rfl rfl ?_ | refine O_ev WideF.wide rfl (Ev_quop rfl rfl (by omega) (by omega)) rfl rfl ?_ | refine O_ev WideF.wide rfl (Ev_remp rfl rfl (by omega) (by omega)) rfl rfl ?_) | (show opsA _ _ _ _ (⟨_, .unOp _ _ _, _, _, _, _⟩ :: _) _ _; refine O_ev WideF.wide rfl (Ev_notb rfl) rfl rfl ?_)) | (show wpA _ _ _ (.cond _ _ _) _ _ _ _; first | (refine A_if rfl (fun h => ?_) (fun h => ?_) <;> try (exfalso; omega)) | refine A_iffalse rfl ?_))
      all_goals first
        | (exfalso; omega)
        | exact End_e (Ret1 rfl rfl) ⟨rfl, rfl⟩
    · rw [ce] at h3 hL eT eD
      refine Fn_of _ _ Tryd.func8 rfl Tryd.ntmps8 rfl fun c => ?_
      repeat' (first | (refine O_ef rfl (Ef_call (I := []) WideF.wide h3 ⟨rfl, rfl, trivial⟩ rfl ?_); rintro v H1 I1 hle1 ⟨rfl, rfl⟩) | (refine O_ef rfl (Ef_call (I := []) WideF.wide (h4 _ hle1) ⟨rfl, rfl, trivial⟩ rfl ?_); rintro v H2 I2 hle2 ⟨rfl, rfl⟩) | (refine O_ef rfl (Ef_call (I := []) WideF.wide (hk _ (hle1.trans hle2)) trivial rfl ?_); rintro v H3 I3 hle3 ⟨rfl, rfl⟩) | (refine O_ev WideF.wide rfl (Ev_ssliceh rfl rfl (by omega) (by omega)) rfl rfl ?_; rw [eT]) | (refine O_ev WideF.wide rfl (Ev_sslicel rfl rfl (by omega) (by omega)) rfl rfl ?_; rw [eD]) | (refine O_ev WideF.wide rfl (Ev_snes rfl rfl) rfl rfl ?_) | (refine O_ev WideF.wide rfl (Ev_seqs rfl rfl) rfl rfl ?_) | refine O_nil ?_ | refine A_seq ?_ | refine A_region ?_ | refine A_skip ?_ | refine A_ret ?_ | (show opsA _ _ _ _ _ _ _; first | (refine O_split rfl rfl (fun h => ?_) (fun h => ?_) <;> try (exfalso; omega)) | refine O_ev WideF.wide rfl (Ev_pure rfl) rfl rfl ?_ | (show opsA _ _ _ _ (⟨_, .call _, _, _, _, _⟩ :: _) _ _; refine O_ev WideF.wide rfl (Ev_slen rfl) rfl rfl ?_) | (show opsA _ _ _ _ (⟨_, .binOp _ _ _ _ _, _, _, _, _⟩ :: _) _ _; first | refine O_ev WideF.wide rfl (Ev_add rfl rfl (wi64 (by omega))) rfl rfl ?_ | refine O_ev WideF.wide rfl (Ev_quop rfl rfl (by omega) (by omega)) rfl rfl ?_ | refine O_ev WideF.wide rfl (Ev_remp rfl rfl (by omega) (by omega)) rfl rfl ?_) | (show opsA _ _ _ _ (⟨_, .unOp _ _ _, _, _, _, _⟩ :: _) _ _; refine O_ev WideF.wide rfl (Ev_notb rfl) rfl rfl ?_) | refine O_skip WideF.wide rfl rfl rfl ?_) | (show wpA _ _ _ (.cond _ _ _) _ _ _ _; first | (refine A_if rfl (fun h => ?_) (fun h => ?_) <;> try (exfalso; omega)) | refine A_iffalse rfl ?_))
      all_goals first
        | (exfalso; omega)
        | exact End_e (Ret1 rfl rfl) ⟨rfl, rfl⟩
  · have e6 : fmtE 6 n = ([], 2) := fmtE_out (by decide) hin
    rw [e6] at h3
    dsimp only at h3
    refine Fn_of _ _ Tryd.func8 rfl Tryd.ntmps8 rfl fun c => ?_
    repeat' (first | (refine O_ef rfl (Ef_call (I := []) WideF.wide h3 ⟨rfl, rfl, trivial⟩ rfl ?_); rintro v H1 I1 hle1 ⟨rfl, rfl⟩) | (refine O_ef rfl (Ef_call (I := []) WideF.wide (h4 _ hle1) ⟨rfl, rfl, trivial⟩ rfl ?_); rintro v H2 I2 hle2 ⟨rfl, rfl⟩) | (refine O_ef rfl (Ef_call (I := []) WideF.wide (hk _ (hle1.trans hle2)) trivial rfl ?_); rintro v H3 I3 hle3 ⟨rfl, rfl⟩) | (refine O_ef rfl (Ef_call (I := []) WideF.wide (hk _ ((hle1.trans hle2).trans hle3)) trivial rfl ?_); rintro v H4 I4 hle4 ⟨rfl, rfl⟩) | (refine O_ev WideF.wide rfl (Ev_gtr rfl rfl) rfl rfl ?_; rw [decide_eq_true (show (999999 : Int) < n by omega)]) | (refine O_ev WideF.wide rfl (Ev_eqis rfl rfl) rfl rfl ?_) | (refine O_ev WideF.wide rfl (Ev_eqbs rfl rfl) rfl rfl ?_) | refine O_nil ?_ | refine A_seq ?_ | refine A_region ?_ | refine A_ret ?_ | (show opsA _ _ _ _ _ _ _; first | (refine O_split rfl rfl (fun h => ?_) (fun h => ?_) <;> try (exfalso; omega)) | refine O_ev WideF.wide rfl (Ev_pure rfl) rfl rfl ?_ | (show opsA _ _ _ _ (⟨_, .unOp _ _ _, _, _, _, _⟩ :: _) _ _; refine O_ev WideF.wide rfl (Ev_notb rfl) rfl rfl ?_) | refine O_skip WideF.wide rfl rfl rfl ?_) | (show wpA _ _ _ (.cond _ _ _) _ _ _ _; refine A_iftrue rfl ?_))
    all_goals first
      | (exfalso; omega)
      | exact End_e (Ret1 rfl rfl) ⟨rfl, rfl⟩
/-! ### Detect -/
def irow (x : Int) : List Value := [.int .i64 x]
theorem irow_one (l : List Int) : ∀ cs ∈ l.map irow, ∀ u ∈ cs, u.oneCell' = true := by
  intro cs hcs u hu
  obtain ⟨x, _, rfl⟩ := List.mem_map.1 hcs
  simp [irow] at hu; subst hu; rfl
theorem HRow.cong {H : Hp} {a : Option Addr} {n c k : Nat} {css css' : List (List Value)} (h : HRow H a n c k css) (e : css' = css) : HRow H a n c k css' := e ▸ h
theorem End_s {c : Ctx} {P : Program} {fn : Func} {n : Nat} {e : Env} {H : Hp} {M L : Own} {v : Value} {post : Value → Hp → Own → Prop} (h : RetOk P fn ⟨n, e, H, M, L, []⟩ v) (hs : Shift c (fun s' => s'.L = [] ∧ post v s'.H s'.M) ⟨n, e, H, M, L, []⟩) :
    Shift c (EndOf c P fn post) ⟨n, e, H, M, L, []⟩ := Shift.pure ⟨v, h, rfl, hs⟩
noncomputable def detS (s : List UInt8) : Nat → List Int
  | 0 => []
  | k + 1 => if (parseE ((k : Int) + 1) s).2 = 0 then detS s k ++ [(k : Int) + 1] else detS s k
theorem detS_len (s : List UInt8) : ∀ k, (detS s k).length ≤ k
  | 0 => Nat.le_refl _
  | k + 1 => by
    have := detS_len s k
    rw [detS]; split <;> simp <;> omega
set_option maxRecDepth 100000 in
set_option maxHeartbeats 2000000 in
theorem Detect_fn {H : Hp} (hE : EnvH H) {s : List UInt8} (hs : s.length ≤ 1000) : Fn Tryd.prog 20 [sv s] H [] fun v H' I => (∃ a n c, v = .slice a n c ∧ HRow H' a n c 1 ((detS s 6).map irow)) ∧ I = [] := by
  refine Fn_of _ _ Tryd.func20 rfl Tryd.ntmps20 rfl fun c => ?_
  refine A_nilrow 1 ?_
  repeat' (first | refine O_nil ?_ | refine A_seq ?_ | refine A_region ?_ | refine A_block ?_ | (show opsA _ _ _ _ _ _ _; refine O_ev WideF.wide rfl (Ev_pure rfl) rfl rfl ?_))
  refine A_loopu (fun m st => ∃ (k : Nat) (a : Option Addr) (n c : Nat) (p : List (List Value)) (H1 : Hp), m = 6 - k ∧ k ≤ 6 ∧ p.length = n ∧ p = (detS s k).map irow ∧ HLe H H1 ∧ st = ⟨24, [(0, sv s), (3, .slice a n c), (4, .int .i64 ((k : Int) + 1))], H1, [.row (.slice a n c) 1 p], [], []⟩) ?_ ?_
  · exact Shift.to ⟨_, 0, none, 0, 0, [], H, rfl, by omega, rfl, rfl, HLe.refl _, rfl⟩ ⟨rfl, rfl, rfl, ⟨rfl, rfl, rfl, trivial⟩, Own.subi [0] (by decide) rfl rfl⟩
  · rintro m st ⟨k, a, n, cc, p, H1, rfl, hk, hpn, hpp, hle, rfl⟩
    have hkl := detS_len s k
    have hpl : p.length = (detS s k).length := by rw [hpp]; simp
    by_cases hlt : k < 6
    · have h3 := Parse_fn (hE.mono hle) ((k : Int) + 1) hs
      unfold parseV at h3
      have hsn : detS s (k + 1) = if (parseE ((k : Int) + 1) s).2 = 0 then detS s k ++ [(k : Int) + 1] else detS s k := rfl
      by_cases he : (parseE ((k : Int) + 1) s).2 = 0
      · rw [if_pos he] at hsn
        rw [he] at h3
        repeat' (first | (refine O_ef rfl (Ef_call (I := []) WideF.wide h3 ⟨rfl, rfl, trivial⟩ rfl ?_); rintro v H2 I2 hle2 ⟨rfl, rfl⟩) | refine O_nil ?_ | refine A_seq ?_ | refine A_region ?_ | refine A_skip ?_ | refine A_block ?_ | (show opsA _ _ _ _ _ _ _; first | refine O_ev WideF.wide rfl (Ev_pure rfl) rfl rfl ?_ | (show opsA _ _ _ _ (⟨_, .call _, _, _, _, _⟩ :: _) _ _; (refine O_f1 (O_ef rfl (Ef_appendR WideF.wide rfl rfl rfl rfl rfl (by simp; omega) (by simp; omega) rfl ?_)); intro a cp)) | (show opsA _ _ _ _ (⟨_, .buildSlice _ _ _, _, _, _, _⟩ :: _) _ _; (refine O_ef rfl (Ef_build11 WideF.wide rfl rfl rfl ?_); intro b)) | (show opsA _ _ _ _ (⟨_, .binOp _ _ _ _ _, _, _, _, _⟩ :: _) _ _; refine O_ev WideF.wide rfl (Ev_add rfl rfl (wi64 (by omega))) rfl rfl ?_)) | (show wpA _ _ _ (.cond _ _ _) _ _ _ _; (refine A_if rfl (fun h => ?_) (fun h => ?_) <;> try (exfalso; omega))))
        all_goals first
          | (exfalso; omega)
          | (refine Shift.to ⟨_, ?_, k + 1, _, _, _, p ++ [irow ((k : Int) + 1)], H2, rfl, by omega, rfl, by rw [hsn, hpp]; simp, hle.trans hle2, rfl⟩ ⟨rfl, rfl, rfl, ⟨rfl, rfl, rfl, trivial⟩, Own.subi [0] (by decide) rfl rfl⟩
             omega)
      · rw [if_neg he] at hsn
        repeat' (first | (refine O_ef rfl (Ef_call (I := []) WideF.wide h3 ⟨rfl, rfl, trivial⟩ rfl ?_); rintro v H2 I2 hle2 ⟨rfl, rfl⟩) | refine O_nil ?_ | refine A_seq ?_ | refine A_region ?_ | refine A_skip ?_ | refine A_block ?_ | (show opsA _ _ _ _ _ _ _; first | refine O_ev WideF.wide rfl (Ev_pure rfl) rfl rfl ?_ | (show opsA _ _ _ _ (⟨_, .binOp _ _ _ _ _, _, _, _, _⟩ :: _) _ _; refine O_ev WideF.wide rfl (Ev_add rfl rfl (wi64 (by omega))) rfl rfl ?_)) | (show wpA _ _ _ (.cond _ _ _) _ _ _ _; (refine A_if rfl (fun h => ?_) (fun h => ?_) <;> try (exfalso; omega))))
        all_goals first
          | (exfalso; omega)
          | (exfalso; exact he (by assumption))
          | (refine Shift.to ⟨_, ?_, k + 1, a, n, cc, p, H2, rfl, by omega, hpn, by rw [hsn, hpp], hle.trans hle2, rfl⟩ ⟨rfl, rfl, rfl, ⟨rfl, rfl, rfl, trivial⟩, Own.subi [0] (by decide) rfl rfl⟩
             omega)
    · have : k = 6 := by omega
      subst this
      repeat' (first | refine O_nil ?_ | refine A_seq ?_ | refine A_region ?_ | refine A_ret ?_ | (show opsA _ _ _ _ _ _ _; refine O_ev WideF.wide rfl (Ev_pure rfl) rfl rfl ?_) | (show wpA _ _ _ (.exit _) _ _ _ _; refine A_exit rfl ?_) | (show wpA _ _ _ (.cond _ _ _) _ _ _ _; (refine A_if rfl (fun h => ?_) (fun h => ?_) <;> try (exfalso; omega))))
      all_goals first
        | (exfalso; omega)
        | (refine End_s (Ret1 rfl rfl) ?_
           refine Shift.lek ⟨24, [], H1, [.row (.slice a n cc) 1 p], [], []⟩ ⟨rfl, rfl, rfl, trivial, Own.subi [0] (by decide) rfl rfl⟩ ?_
           exact Shift_freeze (by rw [hpp]; exact irow_one _) fun H2 hle2 hr1 => Shift.pure ⟨rfl, ⟨a, n, cc, rfl, hr1.cong hpp.symm⟩, rfl⟩)
set_option maxRecDepth 100000 in
set_option maxHeartbeats 2000000 in
theorem NumeralDetects_fn {H : Hp} (hE : EnvH H) (s : List UInt8) : Fn Tryd.prog 9 [sv s] H [] fun v _ I => v = .bool true ∧ I = [] := by
  have hc := cut_fn (H := H) (s := s)
  have hs := cut_len s
  have h3 := Detect_fn hE (cut_len s)
  have hk := fun Hx (hx : HLe H Hx) => known_fn (hE.mono hx)
  generalize s.take 40 = s1 at *
  refine Fn_of _ _ Tryd.func9 rfl Tryd.ntmps9 rfl fun c => ?_
  refine A_nilrow 1 ?_
  repeat' (first | (refine O_ef rfl (Ef_callp WideF.wide hc ⟨rfl, trivial⟩ rfl ?_)) | (refine O_ef rfl (Ef_call (I := []) WideF.wide h3 ⟨rfl, trivial⟩ rfl ?_); rintro v H1 I1 hle1 ⟨⟨a1, n1, c1, rfl, r1⟩, rfl⟩) | refine O_nil ?_ | refine A_seq ?_ | refine A_region ?_ | refine A_block ?_ | (show opsA _ _ _ _ _ _ _; refine O_ev WideF.wide rfl (Ev_pure rfl) rfl rfl ?_))
  have l1 := r1.len
  simp only [List.length_map] at l1
  have hd6 := detS_len s1 6
  refine A_loopu (fun m st => ∃ (k : Nat) (a : Option Addr) (n c : Nat) (p : List (List Value)) (H2 : Hp), m = 6 - k ∧ k ≤ 6 ∧ p.length = n ∧ p = (detS s1 k).map irow ∧ HLe H1 H2 ∧ st = ⟨53, [(0, sv s1), (3, .slice a1 n1 c1), (4, .slice a n c), (5, .int .i64 ((k : Int) + 1))], H2, [.row (.slice a n c) 1 p], [], []⟩) ?_ ?_
  · exact Shift.to ⟨_, 0, none, 0, 0, [], H1, rfl, by omega, rfl, rfl, HLe.refl _, rfl⟩ ⟨rfl, rfl, rfl, ⟨rfl, rfl, rfl, rfl, trivial⟩, Own.subi [0] (by decide) rfl rfl⟩
  rintro m st ⟨k, a, n, cc, p, H2, rfl, hk6, hpn, hpp, hle, rfl⟩
  have hkl := detS_len s1 k
  have hpl : p.length = (detS s1 k).length := by rw [hpp]; simp
  by_cases hlt : k < 6
  · have h5 := rParse_fn (H := H2) ((k : Int) + 1) hs
    unfold parseV at h5
    have hsn : detS s1 (k + 1) = if (parseE ((k : Int) + 1) s1).2 = 0 then detS s1 k ++ [(k : Int) + 1] else detS s1 k := rfl
    by_cases he : (parseE ((k : Int) + 1) s1).2 = 0
    · rw [if_pos he] at hsn
      rw [he] at h5
      repeat' (first | (refine O_ef rfl (Ef_call (I := []) WideF.wide h5 ⟨rfl, rfl, trivial⟩ rfl ?_); rintro v H3 I3 hle3 ⟨rfl, rfl⟩) | refine O_nil ?_ | refine A_seq ?_ | refine A_region ?_ | refine A_skip ?_ | refine A_block ?_ | (show opsA _ _ _ _ _ _ _; first | refine O_ev WideF.wide rfl (Ev_pure rfl) rfl rfl ?_ | (show opsA _ _ _ _ (⟨_, .call _, _, _, _, _⟩ :: _) _ _; (refine O_f1 (O_ef rfl (Ef_appendR WideF.wide rfl rfl rfl rfl rfl (by simp; omega) (by simp; omega) rfl ?_)); intro a cp)) | (show opsA _ _ _ _ (⟨_, .buildSlice _ _ _, _, _, _, _⟩ :: _) _ _; (refine O_ef rfl (Ef_build11 WideF.wide rfl rfl rfl ?_); intro b)) | (show opsA _ _ _ _ (⟨_, .binOp _ _ _ _ _, _, _, _, _⟩ :: _) _ _; refine O_ev WideF.wide rfl (Ev_add rfl rfl (wi64 (by omega))) rfl rfl ?_)) | (show wpA _ _ _ (.cond _ _ _) _ _ _ _; (refine A_if rfl (fun h => ?_) (fun h => ?_) <;> try (exfalso; omega))))
      all_goals first
        | (exfalso; omega)
        | (refine Shift.to ⟨_, ?_, k + 1, _, _, _, p ++ [irow ((k : Int) + 1)], H3, rfl, by omega, rfl, by rw [hsn, hpp]; simp, hle.trans hle3, rfl⟩ ⟨rfl, rfl, rfl, ⟨rfl, rfl, rfl, rfl, trivial⟩, Own.subi [0] (by decide) rfl rfl⟩
           omega)
    · rw [if_neg he] at hsn
      repeat' (first | (refine O_ef rfl (Ef_call (I := []) WideF.wide h5 ⟨rfl, rfl, trivial⟩ rfl ?_); rintro v H3 I3 hle3 ⟨rfl, rfl⟩) | refine O_nil ?_ | refine A_seq ?_ | refine A_region ?_ | refine A_skip ?_ | refine A_block ?_ | (show opsA _ _ _ _ _ _ _; first | refine O_ev WideF.wide rfl (Ev_pure rfl) rfl rfl ?_ | (show opsA _ _ _ _ (⟨_, .binOp _ _ _ _ _, _, _, _, _⟩ :: _) _ _; refine O_ev WideF.wide rfl (Ev_add rfl rfl (wi64 (by omega))) rfl rfl ?_)) | (show wpA _ _ _ (.cond _ _ _) _ _ _ _; (refine A_if rfl (fun h => ?_) (fun h => ?_) <;> try (exfalso; omega))))
      all_goals first
        | (exfalso; omega)
        | (exfalso; exact he (by assumption))
        | (refine Shift.to ⟨_, ?_, k + 1, a, n, cc, p, H3, rfl, by omega, hpn, by rw [hsn, hpp], hle.trans hle3, rfl⟩ ⟨rfl, rfl, rfl, ⟨rfl, rfl, rfl, rfl, trivial⟩, Own.subi [0] (by decide) rfl rfl⟩
           omega)
  · have : k = 6 := by omega
    subst this
    refine A_freeze (by rw [hpp]; exact irow_one _) ?_
    intro H3 hle3 r2
    have r2 : HRow H3 a n cc 1 ((detS s1 6).map irow) := r2.cong hpp.symm
    have r1 := (r1.mono hle).mono hle3
    have l2 := r2.len
    simp only [List.length_map] at l2
    repeat' (first | (refine O_ef rfl (Ef_call (I := []) WideF.wide (hk _ ((hle1.trans hle).trans hle3)) trivial rfl ?_); rintro v H4 I4 hle4 ⟨rfl, rfl⟩) | refine O_nil ?_ | refine A_seq ?_ | refine A_region ?_ | refine A_skip ?_ | refine A_block ?_ | (show opsA _ _ _ _ _ _ _; first | refine O_ev WideF.wide rfl (Ev_pure rfl) rfl rfl ?_ | (show opsA _ _ _ _ (⟨_, .call _, _, _, _, _⟩ :: _) _ _; refine O_ev WideF.wide rfl (Ev_llen rfl) rfl rfl ?_) | (show opsA _ _ _ _ (⟨_, .unOp _ _ _, _, _, _, _⟩ :: _) _ _; refine O_ev WideF.wide rfl (Ev_notb rfl) rfl rfl ?_)) | (show wpA _ _ _ (.exit _) _ _ _ _; refine A_exit rfl ?_) | (show wpA _ _ _ (.cond _ _ _) _ _ _ _; (refine A_if rfl (fun h => ?_) (fun h => ?_) <;> try (exfalso; omega))))
    all_goals try (exfalso; omega)
    have r1 := r1.mono hle4
    have r2 := r2.mono hle4
    refine A_loopu (fun m st => ∃ (i : Nat) (a1 a : Option Addr), m = n - i ∧ i ≤ n ∧ HRow H4 a1 n1 c1 1 ((detS s1 6).map irow) ∧ HRow H4 a n cc 1 ((detS s1 6).map irow) ∧ st = ⟨53, [(3, .slice a1 n1 c1), (4, .slice a n cc), (8, .int .i64 (i : Int))], H4, [], [], []⟩) ?_ ?_
    · exact Shift.to ⟨_, 0, a1, a, rfl, by omega, r1, r2, rfl⟩ ⟨rfl, rfl, rfl, ⟨rfl, rfl, rfl, trivial⟩, Own.sub_nil _⟩
    · rintro m st ⟨i, a1, a, rfl, hi, r1, r2, rfl⟩
      by_cases hlt : i < n
      · obtain ⟨b1, o1, x1, rfl, hx1, hc1⟩ := r1.atm i (by omega)
        obtain ⟨b2, o2, x2, rfl, hx2, hc2⟩ := r2.atm i (by omega)
        rw [hx1] at hx2
        cases hx2
        unfold irow at hc1 hc2
        repeat' (first | (refine A_drawL WideF.wide (.q 0 (.q 1 (.q 2 (.q 3 (.q 4 (.q 5 (.q 6 (.q 7 (.q 8 (.done [])))))))))) [] (by decide +kernel) ?_) | (refine D_ev rfl (Ev_loadH1 rfl (hc1 0 _ rfl)) rfl rfl ?_) | (refine D_ev rfl (Ev_loadH1 rfl (hc2 0 _ rfl)) rfl rfl ?_) | (refine D_ev rfl (Ev_neis rfl rfl) rfl rfl ?_) | refine O_nil ?_ | refine A_seq ?_ | refine A_region ?_ | refine A_skip ?_ | refine A_block ?_ | (show drJ _ _ _ _ _ _ _ (.q _ _) _; refine D_q rfl ?_) | (show drJ _ _ _ _ _ _ _ (.done _) _; refine D_done ?_; simp only [List.cons_append, List.nil_append]) | (show drQ _ _ _ _ _ _; first | refine D_ev rfl (Ev_pure rfl) rfl rfl ?_ | (show drQ _ _ _ ⟨_, .indexAddr _ _ _, _, _, _, _⟩ _ _; refine D_ev rfl (Ev_indexAddr rfl rfl (by omega) (by omega)) rfl rfl ?_)) | (show opsA _ _ _ _ _ _ _; first | refine O_ev WideF.wide rfl (Ev_pure rfl) rfl rfl ?_ | (show opsA _ _ _ _ (⟨_, .call _, _, _, _, _⟩ :: _) _ _; refine O_ev WideF.wide rfl (Ev_llen rfl) rfl rfl ?_) | (show opsA _ _ _ _ (⟨_, .binOp _ _ _ _ _, _, _, _, _⟩ :: _) _ _; refine O_ev WideF.wide rfl (Ev_add rfl rfl (wi64 (by omega))) rfl rfl ?_)) | (show wpA _ _ _ (.cond _ _ _) _ _ _ _; first | (refine A_if rfl (fun h => ?_) (fun h => ?_) <;> try (exfalso; omega)) | refine A_iffalse rfl ?_))
        all_goals first
          | (exfalso; omega)
          | (refine Shift.to ⟨_, ?_, i + 1, _, _, rfl, by omega, r1, r2, rfl⟩ ⟨rfl, rfl, rfl, ⟨rfl, rfl, rfl, trivial⟩, Own.sub_nil _⟩
             omega)
      · repeat' (first | refine O_nil ?_ | refine A_seq ?_ | refine A_region ?_ | refine A_ret ?_ | (show opsA _ _ _ _ _ _ _; first | refine O_ev WideF.wide rfl (Ev_pure rfl) rfl rfl ?_ | (show opsA _ _ _ _ (⟨_, .call _, _, _, _, _⟩ :: _) _ _; refine O_ev WideF.wide rfl (Ev_llen rfl) rfl rfl ?_)) | (show wpA _ _ _ (.exit _) _ _ _ _; refine A_exit rfl ?_) | (show wpA _ _ _ (.cond _ _ _) _ _ _ _; (refine A_if rfl (fun h => ?_) (fun h => ?_) <;> try (exfalso; omega))))
        all_goals first
          | (exfalso; omega)
          | exact End_e (Ret1 rfl rfl) ⟨rfl, rfl⟩
end Go.Proofs.YtaehbjmimnjggaaDoor
