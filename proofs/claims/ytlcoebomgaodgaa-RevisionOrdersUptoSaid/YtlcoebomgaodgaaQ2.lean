/-
  Check of a table (program and law), cut, one, Fresh.
-/
import Derived.Test.YtlcoebomgaodgaaQ1
namespace Go.Proofs.Ytlcoebomgaodgaa
open Go
set_option linter.unusedVariables false
set_option linter.unusedSimpArgs false
theorem drop_get {α : Type} {l : List α} {i : Nat} {x : α} (h : l[i]? = some x) : l.drop i = x :: l.drop (i + 1) := by
  obtain ⟨hi, rfl⟩ := List.getElem?_eq_some_iff.1 h
  rw [List.drop_eq_getElem_cons hi]
def pid (l : List Rev) : Nat → Option Int
  | 0 => none
  | j + 1 => (l[j]?).map Rev.id
theorem chkL_bad {p : Option Int} {y : Rev} {t : List Rev} (h : chkRev y ≠ 0) : chkL p (y :: t) = chkRev y := by rw [chkL, if_pos h]
theorem chkL_gap {p : Option Int} {y : Rev} {t : List Rev} (h : chkRev y = 0) (hg : gap p y ≠ 0) : chkL p (y :: t) = gap p y := by rw [chkL, if_neg (by simpa using h), if_pos hg]
theorem chkL_step {p : Option Int} {y : Rev} {t : List Rev} (h : chkRev y = 0) (hg : gap p y = 0) : chkL p (y :: t) = chkL (some y.id) t := by rw [chkL, if_neg (by simpa using h), if_neg (by simpa using hg)]
theorem gap_some (q : Int) (r : Rev) : gap (some q) r = if r.id = q then 7 else if r.id < q then 6 else 0 := rfl
attribute [local irreducible] wpA opsA drJ drQ drE Ef Ev Shift Fn
set_option maxRecDepth 100000 in
set_option maxHeartbeats 1000000 in
theorem Check_fn {H : Hp} {a : Option Addr} {n cq : Nat} {l : List Rev} (hx : HRow H a n cq 3 (l.map rrow)) : FnP Try.prog 16 [.slice a n cq] H (.int .i64 (chk l)) := by
  have e1 : l.length = n := by have := hx.len; simpa using this
  refine Fn_of _ _ Try.func16 rfl Try.ntmps16 rfl fun c => ?_
  by_cases hbig : 256 < n
  · repeat' (first | refine O_nil ?_ | refine A_seq ?_ | refine A_region ?_ | refine A_ret ?_ | (show opsA _ _ _ _ _ _ _; first | refine O_ev WideF.wide rfl (Ev_pure rfl) rfl rfl ?_ | (show opsA _ _ _ _ (⟨_, .call _, _, _, _, _⟩ :: _) _ _; refine O_ev WideF.wide rfl (Ev_llen rfl) rfl rfl ?_)) | (show wpA _ _ _ (.cond _ _ _) _ _ _ _; (refine A_if rfl (fun h => ?_) (fun h => ?_) <;> try (exfalso; omega))))
    all_goals first
      | (exfalso; omega)
      | ((refine End_p (Ret1 rfl rfl) ?_)
         unfold chk
         rw [if_pos (by omega)])
  · have hc0 : chk l = chkL none l := by unfold chk; rw [if_neg (by omega)]
    rw [hc0]
    repeat' (first | refine O_nil ?_ | refine A_seq ?_ | refine A_region ?_ | refine A_skip ?_ | refine A_block ?_ | (show opsA _ _ _ _ _ _ _; first | refine O_ev WideF.wide rfl (Ev_pure rfl) rfl rfl ?_ | (show opsA _ _ _ _ (⟨_, .call _, _, _, _, _⟩ :: _) _ _; refine O_ev WideF.wide rfl (Ev_llen rfl) rfl rfl ?_)) | (show wpA _ _ _ (.cond _ _ _) _ _ _ _; (refine A_if rfl (fun h => ?_) (fun h => ?_) <;> try (exfalso; omega))))
    all_goals try (exfalso; omega)
    refine A_loopu (fun m st => ∃ (i : Nat), m = n - i ∧ i ≤ n ∧ chkL none l = chkL (pid l i) (l.drop i) ∧ st = ⟨37, [(0, .slice a n cq), (9, .slice a n cq), (10, .int .i64 (n : Int)), (11, .int .i64 (i : Int))], H, [], [], []⟩) ?_ ?_
    · exact Shift.to ⟨_, 0, rfl, by omega, rfl, rfl⟩ ⟨rfl, rfl, rfl, ⟨rfl, rfl, rfl, rfl, trivial⟩, Own.sub_nil _⟩
    · rintro m st ⟨i, rfl, hi, hd, rfl⟩
      by_cases hlt : i < n
      · obtain ⟨b, o, y, ha, hy, hc⟩ := hx.atm i hlt
        have hyc := fun Hx => CheckRev_fn (H := Hx) (r := y)
        rw [drop_get hy] at hd
        unfold rrow at hc hyc
        have hnext : pid l (i + 1) = some y.id := by show (l[i]?).map Rev.id = _; rw [hy]; rfl
        by_cases h0 : chkRev y = 0
        · rw [h0] at hyc
          cases i with
          | zero =>
            rw [chkL_step h0 rfl] at hd
            subst ha
            repeat' (first | (refine O_ev WideF.wide rfl (Ev_loadH rfl hc rfl) rfl rfl ?_) | (refine O_ef rfl (Ef_callp WideF.wide (hyc _) ⟨rfl, trivial⟩ rfl ?_)) | refine O_nil ?_ | refine A_seq ?_ | refine A_region ?_ | refine A_skip ?_ | refine A_block ?_ | (show opsA _ _ _ _ _ _ _; first | refine O_ev WideF.wide rfl (Ev_pure rfl) rfl rfl ?_ | (show opsA _ _ _ _ (⟨_, .load _ _, _, _, _, _⟩ :: _) _ _; refine O_ev WideF.wide rfl (Ev_loadB (i := 0) rfl rfl rfl) rfl rfl ?_) | (show opsA _ _ _ _ (⟨_, .indexAddr _ _ _, _, _, _, _⟩ :: _) _ _; refine O_ev WideF.wide rfl (Ev_indexAddr rfl rfl (by omega) (by omega)) rfl rfl ?_) | (show opsA _ _ _ _ (⟨_, .binOp _ _ _ _ _, _, _, _, _⟩ :: _) _ _; refine O_ev WideF.wide rfl (Ev_add rfl rfl (wi64 (by omega))) rfl rfl ?_) | (show opsA _ _ _ _ (⟨_, .alloc _, _, _, _, _⟩ :: _) _ _; (refine O_ef rfl (Ef_alloc WideF.wide rfl ?_); intro b)) | (show opsA _ _ _ _ (⟨_, .store _ _ _, _, _, _, _⟩ :: _) _ _; refine O_ef rfl (Ef_storew WideF.wide rfl rfl rfl rfl rfl ?_))) | (show wpA _ _ _ (.exit _) _ _ _ _; refine A_exit rfl ?_) | (show wpA _ _ _ (.cond _ _ _) _ _ _ _; (refine A_if rfl (fun h => ?_) (fun h => ?_) <;> try (exfalso; omega))))
            all_goals first
              | (exfalso; omega)
              | (refine Shift.to ⟨_, ?_, 1, rfl, by omega, by rw [hd, hnext], rfl⟩ ⟨rfl, rfl, rfl, ⟨rfl, rfl, rfl, rfl, trivial⟩, Own.sub_nil _⟩
                 omega)
          | succ j =>
            obtain ⟨b', o', y', ha', hy', hc'⟩ := hx.atm j (by omega)
            rw [ha] at ha'
            cases ha'
            unfold rrow at hc'
            have hj : ((j + 1 : Nat) : Int) - 1 = (j : Int) := by omega
            have hpid : pid l (j + 1) = some y'.id := by show (l[j]?).map Rev.id = _; rw [hy']; rfl
            rw [hpid] at hd
            have hcm := fun Hx => Compare_fn (H := Hx) (x := y.id) (y := y'.id)
            subst ha
            rcases Int.lt_trichotomy y.id y'.id with hc3 | hc3 | hc3
            · have e3 : cmpI y.id y'.id = -1 := by unfold cmpI; rw [if_pos hc3]
              have e4 : gap (some y'.id) y = 6 := by rw [gap_some, if_neg (by omega), if_pos hc3]
              rw [chkL_gap h0 (by rw [e4]; decide), e4] at hd
              rw [e3] at hcm
              repeat' (first | (refine A_drawL WideF.wide (.q 0 (.q 1 (.q 2 (.q 3 (.q 4 (.q 5 (.q 6 (.q 7 (.e 8 (.done [])))))))))) [] (by decide +kernel) ?_) | (refine O_ev WideF.wide rfl (Ev_loadH rfl hc rfl) rfl rfl ?_) | (refine O_ef rfl (Ef_callp WideF.wide (hyc _) ⟨rfl, trivial⟩ rfl ?_)) | (refine D_ev rfl (Ev_sub rfl rfl (wi64 (by omega))) rfl rfl ?_; rw [hj]) | (refine D_ev rfl (Ev_loadH1 rfl (hc' 0 _ rfl)) rfl rfl ?_) | (refine E_ef rfl (Ef_callp WideF.wide (hcm _) ⟨rfl, rfl, trivial⟩ rfl ?_); refine ⟨Grow.same rfl rfl, ?_⟩) | refine O_nil ?_ | refine A_seq ?_ | refine A_region ?_ | refine A_skip ?_ | refine A_ret ?_ | refine A_block ?_ | (show drJ _ _ _ _ _ _ _ (.q _ _) _; refine D_q rfl ?_) | (show drJ _ _ _ _ _ _ _ (.e _ _) _; refine D_e rfl ?_) | (show drJ _ _ _ _ _ _ _ (.done _) _; refine D_done ?_; simp only [List.cons_append, List.nil_append]) | (show drQ _ _ _ _ _ _; first | refine D_ev rfl (Ev_pure rfl) rfl rfl ?_ | (show drQ _ _ _ ⟨_, .load _ _, _, _, _, _⟩ _ _; refine D_ev rfl (Ev_loadB1 (i := 0) rfl rfl rfl) rfl rfl ?_) | (show drQ _ _ _ ⟨_, .indexAddr _ _ _, _, _, _, _⟩ _ _; refine D_ev rfl (Ev_indexAddr rfl rfl (by omega) (by omega)) rfl rfl ?_) | (show drQ _ _ _ ⟨_, .fieldAddr _ _ _, _, _, _, _⟩ _ _; refine D_ev rfl (Ev_fieldAddr rfl rfl rfl) rfl rfl ?_)) | (show opsA _ _ _ _ _ _ _; first | refine O_ev WideF.wide rfl (Ev_pure rfl) rfl rfl ?_ | (show opsA _ _ _ _ (⟨_, .load _ _, _, _, _, _⟩ :: _) _ _; refine O_ev WideF.wide rfl (Ev_loadB (i := 0) rfl rfl rfl) rfl rfl ?_) | (show opsA _ _ _ _ (⟨_, .indexAddr _ _ _, _, _, _, _⟩ :: _) _ _; refine O_ev WideF.wide rfl (Ev_indexAddr rfl rfl (by omega) (by omega)) rfl rfl ?_) | (show opsA _ _ _ _ (⟨_, .alloc _, _, _, _, _⟩ :: _) _ _; (refine O_ef rfl (Ef_alloc WideF.wide rfl ?_); intro b)) | (show opsA _ _ _ _ (⟨_, .store _ _ _, _, _, _, _⟩ :: _) _ _; refine O_ef rfl (Ef_storew WideF.wide rfl rfl rfl rfl rfl ?_))) | (show wpA _ _ _ (.cond _ _ _) _ _ _ _; (refine A_if rfl (fun h => ?_) (fun h => ?_) <;> try (exfalso; omega))))
              all_goals first
                | (exfalso; omega)
                | exact End_p (Ret1 rfl rfl) (by rw [hd])
            · have e3 : cmpI y.id y'.id = 0 := by unfold cmpI; rw [if_neg (by omega), if_neg (by omega)]
              have e4 : gap (some y'.id) y = 7 := by rw [gap_some, if_pos hc3]
              rw [chkL_gap h0 (by rw [e4]; decide), e4] at hd
              rw [e3] at hcm
              repeat' (first | (refine A_drawL WideF.wide (.q 0 (.q 1 (.q 2 (.q 3 (.q 4 (.q 5 (.q 6 (.q 7 (.e 8 (.done [])))))))))) [] (by decide +kernel) ?_) | (refine O_ev WideF.wide rfl (Ev_loadH rfl hc rfl) rfl rfl ?_) | (refine O_ef rfl (Ef_callp WideF.wide (hyc _) ⟨rfl, trivial⟩ rfl ?_)) | (refine D_ev rfl (Ev_sub rfl rfl (wi64 (by omega))) rfl rfl ?_; rw [hj]) | (refine D_ev rfl (Ev_loadH1 rfl (hc' 0 _ rfl)) rfl rfl ?_) | (refine E_ef rfl (Ef_callp WideF.wide (hcm _) ⟨rfl, rfl, trivial⟩ rfl ?_); refine ⟨Grow.same rfl rfl, ?_⟩) | refine O_nil ?_ | refine A_seq ?_ | refine A_region ?_ | refine A_skip ?_ | refine A_ret ?_ | refine A_block ?_ | (show drJ _ _ _ _ _ _ _ (.q _ _) _; refine D_q rfl ?_) | (show drJ _ _ _ _ _ _ _ (.e _ _) _; refine D_e rfl ?_) | (show drJ _ _ _ _ _ _ _ (.done _) _; refine D_done ?_; simp only [List.cons_append, List.nil_append]) | (show drQ _ _ _ _ _ _; first | refine D_ev rfl (Ev_pure rfl) rfl rfl ?_ | (show drQ _ _ _ ⟨_, .load _ _, _, _, _, _⟩ _ _; refine D_ev rfl (Ev_loadB1 (i := 0) rfl rfl rfl) rfl rfl ?_) | (show drQ _ _ _ ⟨_, .indexAddr _ _ _, _, _, _, _⟩ _ _; refine D_ev rfl (Ev_indexAddr rfl rfl (by omega) (by omega)) rfl rfl ?_) | (show drQ _ _ _ ⟨_, .fieldAddr _ _ _, _, _, _, _⟩ _ _; refine D_ev rfl (Ev_fieldAddr rfl rfl rfl) rfl rfl ?_)) | (show opsA _ _ _ _ _ _ _; first | refine O_ev WideF.wide rfl (Ev_pure rfl) rfl rfl ?_ | (show opsA _ _ _ _ (⟨_, .load _ _, _, _, _, _⟩ :: _) _ _; refine O_ev WideF.wide rfl (Ev_loadB (i := 0) rfl rfl rfl) rfl rfl ?_) | (show opsA _ _ _ _ (⟨_, .indexAddr _ _ _, _, _, _, _⟩ :: _) _ _; refine O_ev WideF.wide rfl (Ev_indexAddr rfl rfl (by omega) (by omega)) rfl rfl ?_) | (show opsA _ _ _ _ (⟨_, .alloc _, _, _, _, _⟩ :: _) _ _; (refine O_ef rfl (Ef_alloc WideF.wide rfl ?_); intro b)) | (show opsA _ _ _ _ (⟨_, .store _ _ _, _, _, _, _⟩ :: _) _ _; refine O_ef rfl (Ef_storew WideF.wide rfl rfl rfl rfl rfl ?_))) | (show wpA _ _ _ (.cond _ _ _) _ _ _ _; (refine A_if rfl (fun h => ?_) (fun h => ?_) <;> try (exfalso; omega))))
              all_goals first
                | (exfalso; omega)
                | exact End_p (Ret1 rfl rfl) (by rw [hd])
            · have e3 : cmpI y.id y'.id = 1 := by unfold cmpI; rw [if_neg (by omega), if_pos hc3]
              have e4 : gap (some y'.id) y = 0 := by rw [gap_some, if_neg (by omega), if_neg (by omega)]
              rw [chkL_step h0 e4] at hd
              rw [e3] at hcm
              repeat' (first | (refine A_drawL WideF.wide (.q 0 (.q 1 (.q 2 (.q 3 (.q 4 (.q 5 (.q 6 (.q 7 (.e 8 (.done [])))))))))) [] (by decide +kernel) ?_) | (refine O_ev WideF.wide rfl (Ev_loadH rfl hc rfl) rfl rfl ?_) | (refine O_ef rfl (Ef_callp WideF.wide (hyc _) ⟨rfl, trivial⟩ rfl ?_)) | (refine D_ev rfl (Ev_sub rfl rfl (wi64 (by omega))) rfl rfl ?_; rw [hj]) | (refine D_ev rfl (Ev_loadH1 rfl (hc' 0 _ rfl)) rfl rfl ?_) | (refine E_ef rfl (Ef_callp WideF.wide (hcm _) ⟨rfl, rfl, trivial⟩ rfl ?_); refine ⟨Grow.same rfl rfl, ?_⟩) | refine O_nil ?_ | refine A_seq ?_ | refine A_region ?_ | refine A_skip ?_ | refine A_block ?_ | (show drJ _ _ _ _ _ _ _ (.q _ _) _; refine D_q rfl ?_) | (show drJ _ _ _ _ _ _ _ (.e _ _) _; refine D_e rfl ?_) | (show drJ _ _ _ _ _ _ _ (.done _) _; refine D_done ?_; simp only [List.cons_append, List.nil_append]) | (show drQ _ _ _ _ _ _; first | refine D_ev rfl (Ev_pure rfl) rfl rfl ?_ | (show drQ _ _ _ ⟨_, .load _ _, _, _, _, _⟩ _ _; refine D_ev rfl (Ev_loadB1 (i := 0) rfl rfl rfl) rfl rfl ?_) | (show drQ _ _ _ ⟨_, .indexAddr _ _ _, _, _, _, _⟩ _ _; refine D_ev rfl (Ev_indexAddr rfl rfl (by omega) (by omega)) rfl rfl ?_) | (show drQ _ _ _ ⟨_, .fieldAddr _ _ _, _, _, _, _⟩ _ _; refine D_ev rfl (Ev_fieldAddr rfl rfl rfl) rfl rfl ?_)) | (show opsA _ _ _ _ _ _ _; first | refine O_ev WideF.wide rfl (Ev_pure rfl) rfl rfl ?_ | (show opsA _ _ _ _ (⟨_, .load _ _, _, _, _, _⟩ :: _) _ _; refine O_ev WideF.wide rfl (Ev_loadB (i := 0) rfl rfl rfl) rfl rfl ?_) | (show opsA _ _ _ _ (⟨_, .indexAddr _ _ _, _, _, _, _⟩ :: _) _ _; refine O_ev WideF.wide rfl (Ev_indexAddr rfl rfl (by omega) (by omega)) rfl rfl ?_) | (show opsA _ _ _ _ (⟨_, .binOp _ _ _ _ _, _, _, _, _⟩ :: _) _ _; refine O_ev WideF.wide rfl (Ev_add rfl rfl (wi64 (by omega))) rfl rfl ?_) | (show opsA _ _ _ _ (⟨_, .alloc _, _, _, _, _⟩ :: _) _ _; (refine O_ef rfl (Ef_alloc WideF.wide rfl ?_); intro b)) | (show opsA _ _ _ _ (⟨_, .store _ _ _, _, _, _, _⟩ :: _) _ _; refine O_ef rfl (Ef_storew WideF.wide rfl rfl rfl rfl rfl ?_))) | (show wpA _ _ _ (.cond _ _ _) _ _ _ _; (refine A_if rfl (fun h => ?_) (fun h => ?_) <;> try (exfalso; omega))))
              all_goals first
                | (exfalso; omega)
                | (refine Shift.to ⟨_, ?_, j + 1 + 1, rfl, by omega, by rw [hd, hnext], rfl⟩ ⟨rfl, rfl, rfl, ⟨rfl, rfl, rfl, rfl, trivial⟩, Own.sub_nil _⟩
                   omega)
        · rw [chkL_bad h0] at hd
          subst ha
          repeat' (first | (refine O_ev WideF.wide rfl (Ev_loadH rfl hc rfl) rfl rfl ?_) | (refine O_ef rfl (Ef_callp WideF.wide (hyc _) ⟨rfl, trivial⟩ rfl ?_)) | refine O_nil ?_ | refine A_seq ?_ | refine A_region ?_ | refine A_skip ?_ | refine A_ret ?_ | refine A_block ?_ | (show opsA _ _ _ _ _ _ _; first | refine O_ev WideF.wide rfl (Ev_pure rfl) rfl rfl ?_ | (show opsA _ _ _ _ (⟨_, .load _ _, _, _, _, _⟩ :: _) _ _; refine O_ev WideF.wide rfl (Ev_loadB (i := 0) rfl rfl rfl) rfl rfl ?_) | (show opsA _ _ _ _ (⟨_, .indexAddr _ _ _, _, _, _, _⟩ :: _) _ _; refine O_ev WideF.wide rfl (Ev_indexAddr rfl rfl (by omega) (by omega)) rfl rfl ?_) | (show opsA _ _ _ _ (⟨_, .alloc _, _, _, _, _⟩ :: _) _ _; (refine O_ef rfl (Ef_alloc WideF.wide rfl ?_); intro b)) | (show opsA _ _ _ _ (⟨_, .store _ _ _, _, _, _, _⟩ :: _) _ _; refine O_ef rfl (Ef_storew WideF.wide rfl rfl rfl rfl rfl ?_))) | (show wpA _ _ _ (.cond _ _ _) _ _ _ _; (refine A_if rfl (fun h => ?_) (fun h => ?_) <;> try (exfalso; omega))))
          all_goals first
            | (exfalso; omega)
            | (exfalso; exact h0 (by assumption))
            | exact End_p (Ret1 rfl rfl) (by rw [hd])
      · rw [List.drop_eq_nil_of_le (by omega)] at hd
        repeat' (first | refine O_nil ?_ | refine A_seq ?_ | refine A_region ?_ | refine A_ret ?_ | (show opsA _ _ _ _ _ _ _; refine O_ev WideF.wide rfl (Ev_pure rfl) rfl rfl ?_) | (show wpA _ _ _ (.exit _) _ _ _ _; refine A_exit rfl ?_) | (show wpA _ _ _ (.cond _ _ _) _ _ _ _; (refine A_if rfl (fun h => ?_) (fun h => ?_) <;> try (exfalso; omega))))
        all_goals first
          | (exfalso; omega)
          | exact End_p (Ret1 rfl rfl) (by rw [hd, chkL])
set_option maxRecDepth 100000 in
set_option maxHeartbeats 1000000 in
theorem lcheck_fn {H : Hp} {a : Option Addr} {n cq : Nat} {l : List Rev} (hx : HRow H a n cq 3 (l.map rrow)) : FnP Try.prog 17 [.slice a n cq] H (.int .i64 (chk l)) := by
  have e1 : l.length = n := by have := hx.len; simpa using this
  refine Fn_of _ _ Try.func17 rfl Try.ntmps17 rfl fun c => ?_
  by_cases hbig : 256 < n
  · repeat' (first | refine O_nil ?_ | refine A_seq ?_ | refine A_region ?_ | refine A_ret ?_ | (show opsA _ _ _ _ _ _ _; first | refine O_ev WideF.wide rfl (Ev_pure rfl) rfl rfl ?_ | (show opsA _ _ _ _ (⟨_, .call _, _, _, _, _⟩ :: _) _ _; refine O_ev WideF.wide rfl (Ev_llen rfl) rfl rfl ?_)) | (show wpA _ _ _ (.cond _ _ _) _ _ _ _; (refine A_if rfl (fun h => ?_) (fun h => ?_) <;> try (exfalso; omega))))
    all_goals first
      | (exfalso; omega)
      | ((refine End_p (Ret1 rfl rfl) ?_)
         unfold chk
         rw [if_pos (by omega)])
  · have hc0 : chk l = chkL none l := by unfold chk; rw [if_neg (by omega)]
    rw [hc0]
    repeat' (first | refine O_nil ?_ | refine A_seq ?_ | refine A_region ?_ | refine A_skip ?_ | refine A_block ?_ | (show opsA _ _ _ _ _ _ _; first | refine O_ev WideF.wide rfl (Ev_pure rfl) rfl rfl ?_ | (show opsA _ _ _ _ (⟨_, .call _, _, _, _, _⟩ :: _) _ _; refine O_ev WideF.wide rfl (Ev_llen rfl) rfl rfl ?_)) | (show wpA _ _ _ (.cond _ _ _) _ _ _ _; (refine A_if rfl (fun h => ?_) (fun h => ?_) <;> try (exfalso; omega))))
    all_goals try (exfalso; omega)
    refine A_loopu (fun m st => ∃ (i : Nat), m = n - i ∧ i ≤ n ∧ chkL none l = chkL (pid l i) (l.drop i) ∧ st = ⟨54, [(0, .slice a n cq), (3, .int .i64 (i : Int))], H, [], [], []⟩) ?_ ?_
    · exact Shift.to ⟨_, 0, rfl, by omega, rfl, rfl⟩ ⟨rfl, rfl, rfl, ⟨rfl, rfl, trivial⟩, Own.sub_nil _⟩
    · rintro m st ⟨i, rfl, hi, hd, rfl⟩
      by_cases hlt : i < n
      · obtain ⟨b, o, y, ha, hy, hc⟩ := hx.atm i hlt
        have hyc := fun Hx => lcheckRev_fn (H := Hx) (r := y)
        rw [drop_get hy] at hd
        unfold rrow at hc hyc
        have hnext : pid l (i + 1) = some y.id := by show (l[i]?).map Rev.id = _; rw [hy]; rfl
        by_cases h0 : chkRev y = 0
        · rw [h0] at hyc
          cases i with
          | zero =>
            rw [chkL_step h0 rfl] at hd
            subst ha
            repeat' (first | (refine A_drawL WideF.wide (.q 0 (.q 1 (.q 2 (.q 3 (.q 4 (.q 5 (.q 6 (.q 7 (.q 8 (.q 9 (.q 10 (.q 11 (.q 12 (.q 13 (.q 14 (.q 15 (.done []))))))))))))))))) [] (by decide +kernel) ?_) | (refine A_drawL WideF.wide (.q 0 (.q 1 (.q 2 (.q 3 (.q 4 (.q 5 (.q 6 (.q 7 (.q 8 (.q 9 (.q 10 (.q 11 (.q 12 (.q 13 (.q 14 (.q 15 (.done []))))))))))))))))) [] (by decide +kernel) ?_) | (refine O_ev WideF.wide rfl (Ev_loadH rfl hc rfl) rfl rfl ?_) | (refine O_ef rfl (Ef_callp WideF.wide (hyc _) ⟨rfl, trivial⟩ rfl ?_)) | refine O_nil ?_ | refine A_seq ?_ | refine A_region ?_ | refine A_skip ?_ | refine A_block ?_ | (show drJ _ _ _ _ _ _ _ (.q _ _) _; refine D_q rfl ?_) | (show drJ _ _ _ _ _ _ _ (.done _) _; refine D_done ?_; simp only [List.cons_append, List.nil_append]) | (show drQ _ _ _ _ _ _; first | (refine D_split rfl rfl (fun h => ?_) (fun h => ?_) <;> try (exfalso; omega)) | refine D_ev rfl (Ev_pure rfl) rfl rfl ?_ | refine D_skip rfl rfl rfl ?_) | (show opsA _ _ _ _ _ _ _; first | refine O_ev WideF.wide rfl (Ev_pure rfl) rfl rfl ?_ | (show opsA _ _ _ _ (⟨_, .indexAddr _ _ _, _, _, _, _⟩ :: _) _ _; refine O_ev WideF.wide rfl (Ev_indexAddr rfl rfl (by omega) (by omega)) rfl rfl ?_) | (show opsA _ _ _ _ (⟨_, .call _, _, _, _, _⟩ :: _) _ _; refine O_ev WideF.wide rfl (Ev_llen rfl) rfl rfl ?_) | (show opsA _ _ _ _ (⟨_, .binOp _ _ _ _ _, _, _, _, _⟩ :: _) _ _; refine O_ev WideF.wide rfl (Ev_add rfl rfl (wi64 (by omega))) rfl rfl ?_)) | (show wpA _ _ _ (.cond _ _ _) _ _ _ _; first | (refine A_if rfl (fun h => ?_) (fun h => ?_) <;> try (exfalso; omega)) | refine A_iffalse rfl ?_))
            all_goals first
              | (exfalso; omega)
              | (refine Shift.to ⟨_, ?_, 1, rfl, by omega, by rw [hd, hnext], rfl⟩ ⟨rfl, rfl, rfl, ⟨rfl, rfl, trivial⟩, Own.sub_nil _⟩
                 omega)
          | succ j =>
            obtain ⟨b', o', y', ha', hy', hc'⟩ := hx.atm j (by omega)
            rw [ha] at ha'
            cases ha'
            unfold rrow at hc'
            have hj : ((j + 1 : Nat) : Int) - 1 = (j : Int) := by omega
            have hpid : pid l (j + 1) = some y'.id := by show (l[j]?).map Rev.id = _; rw [hy']; rfl
            rw [hpid] at hd
            subst ha
            rcases Int.lt_trichotomy y.id y'.id with hc3 | hc3 | hc3
            · have e4 : gap (some y'.id) y = 6 := by rw [gap_some, if_neg (by omega), if_pos hc3]
              rw [chkL_gap h0 (by rw [e4]; decide), e4] at hd
              repeat' (first | (refine A_drawL WideF.wide (.q 0 (.q 1 (.q 2 (.q 3 (.q 4 (.q 5 (.q 6 (.q 7 (.q 8 (.q 9 (.q 10 (.q 11 (.q 12 (.q 13 (.q 14 (.q 15 (.done []))))))))))))))))) [] (by decide +kernel) ?_) | (refine A_drawL WideF.wide (.q 0 (.q 1 (.q 2 (.q 3 (.q 4 (.q 5 (.q 6 (.q 7 (.q 8 (.q 9 (.q 10 (.q 11 (.q 12 (.q 13 (.q 14 (.q 15 (.done []))))))))))))))))) [] (by decide +kernel) ?_) | (refine O_ev WideF.wide rfl (Ev_loadH rfl hc rfl) rfl rfl ?_) | (refine O_ef rfl (Ef_callp WideF.wide (hyc _) ⟨rfl, trivial⟩ rfl ?_)) | (refine D_ev rfl (Ev_sub rfl rfl (wi64 (by omega))) rfl rfl ?_; rw [hj]) | (refine D_ev rfl (Ev_loadH1 rfl (hc' 0 _ rfl)) rfl rfl ?_) | (refine D_ev rfl (Ev_loadH1 rfl (hc 0 _ rfl)) rfl rfl ?_) | refine O_nil ?_ | refine A_seq ?_ | refine A_region ?_ | refine A_skip ?_ | refine A_ret ?_ | refine A_block ?_ | (show drJ _ _ _ _ _ _ _ (.q _ _) _; refine D_q rfl ?_) | (show drJ _ _ _ _ _ _ _ (.done _) _; refine D_done ?_; simp only [List.cons_append, List.nil_append]) | (show drQ _ _ _ _ _ _; first | (refine D_split rfl rfl (fun h => ?_) (fun h => ?_) <;> try (exfalso; omega)) | refine D_ev rfl (Ev_pure rfl) rfl rfl ?_ | (show drQ _ _ _ ⟨_, .indexAddr _ _ _, _, _, _, _⟩ _ _; refine D_ev rfl (Ev_indexAddr rfl rfl (by omega) (by omega)) rfl rfl ?_) | (show drQ _ _ _ ⟨_, .fieldAddr _ _ _, _, _, _, _⟩ _ _; refine D_ev rfl (Ev_fieldAddr rfl rfl rfl) rfl rfl ?_)) | (show opsA _ _ _ _ _ _ _; first | refine O_ev WideF.wide rfl (Ev_pure rfl) rfl rfl ?_ | (show opsA _ _ _ _ (⟨_, .indexAddr _ _ _, _, _, _, _⟩ :: _) _ _; refine O_ev WideF.wide rfl (Ev_indexAddr rfl rfl (by omega) (by omega)) rfl rfl ?_) | (show opsA _ _ _ _ (⟨_, .call _, _, _, _, _⟩ :: _) _ _; refine O_ev WideF.wide rfl (Ev_llen rfl) rfl rfl ?_)) | (show wpA _ _ _ (.cond _ _ _) _ _ _ _; (refine A_if rfl (fun h => ?_) (fun h => ?_) <;> try (exfalso; omega))))
              all_goals first
                | (exfalso; omega)
                | exact End_p (Ret1 rfl rfl) (by rw [hd])
            · have e4 : gap (some y'.id) y = 7 := by rw [gap_some, if_pos hc3]
              rw [chkL_gap h0 (by rw [e4]; decide), e4] at hd
              repeat' (first | (refine A_drawL WideF.wide (.q 0 (.q 1 (.q 2 (.q 3 (.q 4 (.q 5 (.q 6 (.q 7 (.q 8 (.q 9 (.q 10 (.q 11 (.q 12 (.q 13 (.q 14 (.q 15 (.done []))))))))))))))))) [] (by decide +kernel) ?_) | (refine A_drawL WideF.wide (.q 0 (.q 1 (.q 2 (.q 3 (.q 4 (.q 5 (.q 6 (.q 7 (.q 8 (.q 9 (.q 10 (.q 11 (.q 12 (.q 13 (.q 14 (.q 15 (.done []))))))))))))))))) [] (by decide +kernel) ?_) | (refine O_ev WideF.wide rfl (Ev_loadH rfl hc rfl) rfl rfl ?_) | (refine O_ef rfl (Ef_callp WideF.wide (hyc _) ⟨rfl, trivial⟩ rfl ?_)) | (refine D_ev rfl (Ev_sub rfl rfl (wi64 (by omega))) rfl rfl ?_; rw [hj]) | (refine D_ev rfl (Ev_loadH1 rfl (hc' 0 _ rfl)) rfl rfl ?_) | (refine D_ev rfl (Ev_loadH1 rfl (hc 0 _ rfl)) rfl rfl ?_) | refine O_nil ?_ | refine A_seq ?_ | refine A_region ?_ | refine A_skip ?_ | refine A_ret ?_ | refine A_block ?_ | (show drJ _ _ _ _ _ _ _ (.q _ _) _; refine D_q rfl ?_) | (show drJ _ _ _ _ _ _ _ (.done _) _; refine D_done ?_; simp only [List.cons_append, List.nil_append]) | (show drQ _ _ _ _ _ _; first | (refine D_split rfl rfl (fun h => ?_) (fun h => ?_) <;> try (exfalso; omega)) | refine D_ev rfl (Ev_pure rfl) rfl rfl ?_ | (show drQ _ _ _ ⟨_, .indexAddr _ _ _, _, _, _, _⟩ _ _; refine D_ev rfl (Ev_indexAddr rfl rfl (by omega) (by omega)) rfl rfl ?_) | (show drQ _ _ _ ⟨_, .fieldAddr _ _ _, _, _, _, _⟩ _ _; refine D_ev rfl (Ev_fieldAddr rfl rfl rfl) rfl rfl ?_)) | (show opsA _ _ _ _ _ _ _; first | refine O_ev WideF.wide rfl (Ev_pure rfl) rfl rfl ?_ | (show opsA _ _ _ _ (⟨_, .indexAddr _ _ _, _, _, _, _⟩ :: _) _ _; refine O_ev WideF.wide rfl (Ev_indexAddr rfl rfl (by omega) (by omega)) rfl rfl ?_) | (show opsA _ _ _ _ (⟨_, .call _, _, _, _, _⟩ :: _) _ _; refine O_ev WideF.wide rfl (Ev_llen rfl) rfl rfl ?_)) | (show wpA _ _ _ (.cond _ _ _) _ _ _ _; (refine A_if rfl (fun h => ?_) (fun h => ?_) <;> try (exfalso; omega))))
              all_goals first
                | (exfalso; omega)
                | exact End_p (Ret1 rfl rfl) (by rw [hd])
            · have e4 : gap (some y'.id) y = 0 := by rw [gap_some, if_neg (by omega), if_neg (by omega)]
              rw [chkL_step h0 e4] at hd
              repeat' (first | (refine A_drawL WideF.wide (.q 0 (.q 1 (.q 2 (.q 3 (.q 4 (.q 5 (.q 6 (.q 7 (.q 8 (.q 9 (.q 10 (.q 11 (.q 12 (.q 13 (.q 14 (.q 15 (.done []))))))))))))))))) [] (by decide +kernel) ?_) | (refine A_drawL WideF.wide (.q 0 (.q 1 (.q 2 (.q 3 (.q 4 (.q 5 (.q 6 (.q 7 (.q 8 (.q 9 (.q 10 (.q 11 (.q 12 (.q 13 (.q 14 (.q 15 (.done []))))))))))))))))) [] (by decide +kernel) ?_) | (refine O_ev WideF.wide rfl (Ev_loadH rfl hc rfl) rfl rfl ?_) | (refine O_ef rfl (Ef_callp WideF.wide (hyc _) ⟨rfl, trivial⟩ rfl ?_)) | (refine D_ev rfl (Ev_sub rfl rfl (wi64 (by omega))) rfl rfl ?_; rw [hj]) | (refine D_ev rfl (Ev_loadH1 rfl (hc' 0 _ rfl)) rfl rfl ?_) | (refine D_ev rfl (Ev_loadH1 rfl (hc 0 _ rfl)) rfl rfl ?_) | refine O_nil ?_ | refine A_seq ?_ | refine A_region ?_ | refine A_skip ?_ | refine A_block ?_ | (show drJ _ _ _ _ _ _ _ (.q _ _) _; refine D_q rfl ?_) | (show drJ _ _ _ _ _ _ _ (.done _) _; refine D_done ?_; simp only [List.cons_append, List.nil_append]) | (show drQ _ _ _ _ _ _; first | (refine D_split rfl rfl (fun h => ?_) (fun h => ?_) <;> try (exfalso; omega)) | refine D_ev rfl (Ev_pure rfl) rfl rfl ?_ | (show drQ _ _ _ ⟨_, .indexAddr _ _ _, _, _, _, _⟩ _ _; refine D_ev rfl (Ev_indexAddr rfl rfl (by omega) (by omega)) rfl rfl ?_) | (show drQ _ _ _ ⟨_, .fieldAddr _ _ _, _, _, _, _⟩ _ _; refine D_ev rfl (Ev_fieldAddr rfl rfl rfl) rfl rfl ?_)) | (show opsA _ _ _ _ _ _ _; first | refine O_ev WideF.wide rfl (Ev_pure rfl) rfl rfl ?_ | (show opsA _ _ _ _ (⟨_, .indexAddr _ _ _, _, _, _, _⟩ :: _) _ _; refine O_ev WideF.wide rfl (Ev_indexAddr rfl rfl (by omega) (by omega)) rfl rfl ?_) | (show opsA _ _ _ _ (⟨_, .call _, _, _, _, _⟩ :: _) _ _; refine O_ev WideF.wide rfl (Ev_llen rfl) rfl rfl ?_) | (show opsA _ _ _ _ (⟨_, .binOp _ _ _ _ _, _, _, _, _⟩ :: _) _ _; refine O_ev WideF.wide rfl (Ev_add rfl rfl (wi64 (by omega))) rfl rfl ?_)) | (show wpA _ _ _ (.cond _ _ _) _ _ _ _; (refine A_if rfl (fun h => ?_) (fun h => ?_) <;> try (exfalso; omega))))
              all_goals first
                | (exfalso; omega)
                | (refine Shift.to ⟨_, ?_, j + 1 + 1, rfl, by omega, by rw [hd, hnext], rfl⟩ ⟨rfl, rfl, rfl, ⟨rfl, rfl, trivial⟩, Own.sub_nil _⟩
                   omega)
        · rw [chkL_bad h0] at hd
          subst ha
          repeat' (first | (refine O_ev WideF.wide rfl (Ev_loadH rfl hc rfl) rfl rfl ?_) | (refine O_ef rfl (Ef_callp WideF.wide (hyc _) ⟨rfl, trivial⟩ rfl ?_)) | refine O_nil ?_ | refine A_seq ?_ | refine A_region ?_ | refine A_skip ?_ | refine A_ret ?_ | refine A_block ?_ | (show opsA _ _ _ _ _ _ _; first | refine O_ev WideF.wide rfl (Ev_pure rfl) rfl rfl ?_ | (show opsA _ _ _ _ (⟨_, .indexAddr _ _ _, _, _, _, _⟩ :: _) _ _; refine O_ev WideF.wide rfl (Ev_indexAddr rfl rfl (by omega) (by omega)) rfl rfl ?_) | (show opsA _ _ _ _ (⟨_, .call _, _, _, _, _⟩ :: _) _ _; refine O_ev WideF.wide rfl (Ev_llen rfl) rfl rfl ?_)) | (show wpA _ _ _ (.cond _ _ _) _ _ _ _; (refine A_if rfl (fun h => ?_) (fun h => ?_) <;> try (exfalso; omega))))
          all_goals first
            | (exfalso; omega)
            | (exfalso; exact h0 (by assumption))
            | exact End_p (Ret1 rfl rfl) (by rw [hd])
      · rw [List.drop_eq_nil_of_le (by omega)] at hd
        repeat' (first | refine O_nil ?_ | refine A_seq ?_ | refine A_region ?_ | refine A_ret ?_ | (show opsA _ _ _ _ _ _ _; first | refine O_ev WideF.wide rfl (Ev_pure rfl) rfl rfl ?_ | (show opsA _ _ _ _ (⟨_, .call _, _, _, _, _⟩ :: _) _ _; refine O_ev WideF.wide rfl (Ev_llen rfl) rfl rfl ?_)) | (show wpA _ _ _ (.exit _) _ _ _ _; refine A_exit rfl ?_) | (show wpA _ _ _ (.cond _ _ _) _ _ _ _; (refine A_if rfl (fun h => ?_) (fun h => ?_) <;> try (exfalso; omega))))
        all_goals first
          | (exfalso; omega)
          | exact End_p (Ret1 rfl rfl) (by rw [hd, chkL])
theorem take60 (s : List UInt8) : s.take (if (60 : Int) < (s.length : Int) then (60 : Int) else (s.length : Int)).toNat = s.take 60 := by
  by_cases h : 60 < s.length
  · rw [if_pos (by omega)]; rfl
  · rw [if_neg (by omega), List.take_of_length_le (by omega), List.take_of_length_le (by omega)]
set_option maxRecDepth 100000 in
theorem one_fn {H : Hp} {r : Rev} (hl : r.author.length < 1099511627776) : FnP Try.prog 11 [.agg (rrow r).toArray] H (.agg (rrow (one60 r)).toArray) := by
  unfold rrow one60
  have e := take60 r.author
  refine Fn_of _ _ Try.func11 rfl Try.ntmps11 rfl fun c => ?_
  repeat' (first | (refine O_ev WideF.wide rfl (Ev_mini rfl rfl) rfl rfl ?_) | (refine O_ev WideF.wide rfl (Ev_ssliceh rfl rfl (by split <;> omega) (by split <;> omega)) rfl rfl ?_; rw [e]) | refine O_nil ?_ | refine A_seq ?_ | refine A_region ?_ | refine A_ret ?_ | (show opsA _ _ _ _ _ _ _; first | (show opsA _ _ _ _ (⟨_, .load _ _, _, _, _, _⟩ :: _) _ _; first | refine O_ev WideF.wide rfl (Ev_loadB1 (i := 1) rfl rfl rfl) rfl rfl ?_ | refine O_ev WideF.wide rfl (Ev_loadB (i := 0) rfl rfl rfl) rfl rfl ?_) | (show opsA _ _ _ _ (⟨_, .fieldAddr _ _ _, _, _, _, _⟩ :: _) _ _; refine O_ev WideF.wide rfl (Ev_fieldAddr rfl rfl rfl) rfl rfl ?_) | (show opsA _ _ _ _ (⟨_, .call _, _, _, _, _⟩ :: _) _ _; refine O_ev WideF.wide rfl (Ev_slen rfl) rfl rfl ?_) | (show opsA _ _ _ _ (⟨_, .alloc _, _, _, _, _⟩ :: _) _ _; (refine O_ef rfl (Ef_alloc WideF.wide rfl ?_); intro b)) | (show opsA _ _ _ _ (⟨_, .box _ _, _, _, _, _⟩ :: _) _ _; (refine O_ef rfl (Ef_boxa WideF.wide rfl rfl ?_); intro b)) | (show opsA _ _ _ _ (⟨_, .store _ _ _, _, _, _, _⟩ :: _) _ _; first | refine O_f1 (O_ef rfl (Ef_storew WideF.wide rfl rfl rfl rfl rfl ?_)) | refine O_f1 (O_ef rfl (Ef_store1 WideF.wide rfl rfl rfl rfl rfl ?_)))))
  exact End_p (RetC rfl rfl (i := 0) rfl rfl) rfl
set_option maxRecDepth 100000 in
theorem cut_fn {H : Hp} {a : Option Addr} {n cq : Nat} {l : List Rev} (hx : HRow H a n cq 3 (l.map rrow)) (hn : n < 1099511627776) (hl : ∀ r ∈ l, r.author.length < 1099511627776) : Fn Try.prog 12 [.slice a n cq] H [] (RevsIs (cutL l)) := by
  have e1 : l.length = n := by have := hx.len; simpa using this
  refine Fn_of _ _ Try.func12 rfl Try.ntmps12 rfl fun c => ?_
  refine A_nilrow 3 ?_
  repeat' (first | refine O_nil ?_ | refine A_seq ?_ | refine A_region ?_ | refine A_block ?_ | (show opsA _ _ _ _ _ _ _; refine O_ev WideF.wide rfl (Ev_pure rfl) rfl rfl ?_))
  refine A_loopu (fun m st => ∃ (i : Nat) (a' : Option Addr) (n' c' : Nat) (p : List (List Value)), m = n - i ∧ i ≤ n ∧ i ≤ 40 ∧ p.length = n' ∧ n' = i ∧ p = ((l.take i).map one60).map rrow ∧ st = ⟨33, [(0, .slice a n cq), (3, .slice a' n' c'), (4, .int .i64 (i : Int))], H, [.row (.slice a' n' c') 3 p], [], []⟩) ?_ ?_
  · exact Shift.to ⟨_, 0, none, 0, 0, [], rfl, by omega, by omega, rfl, rfl, rfl, rfl⟩ ⟨rfl, rfl, rfl, ⟨rfl, rfl, rfl, trivial⟩, Own.subi [0] (by decide) rfl rfl⟩
  · rintro m st ⟨i, a', n', c', p, rfl, hi, hi4, hpn, hni, hp, rfl⟩
    by_cases hlt : i < n ∧ i < 40
    · obtain ⟨b, o, y, rfl, hy, hc⟩ := hx.atm i hlt.1
      have hyl := hl y (List.mem_of_getElem? hy)
      unfold rrow at hc
      have e := take60 y.author
      repeat' (first | (refine O_ev WideF.wide rfl (Ev_loadH rfl hc rfl) rfl rfl ?_) | (refine O_ev WideF.wide rfl (Ev_mini rfl rfl) rfl rfl ?_) | (refine O_ev WideF.wide rfl (Ev_ssliceh rfl rfl (by split <;> omega) (by split <;> omega)) rfl rfl ?_; rw [e]) | refine O_nil ?_ | refine A_seq ?_ | refine A_region ?_ | refine A_skip ?_ | refine A_block ?_ | (show opsA _ _ _ _ _ _ _; first | (refine O_split rfl rfl (fun h => ?_) (fun h => ?_) <;> try (exfalso; omega)) | refine O_ev WideF.wide rfl (Ev_pure rfl) rfl rfl ?_ | (show opsA _ _ _ _ (⟨_, .load _ _, _, _, _, _⟩ :: _) _ _; first | refine O_ev WideF.wide rfl (Ev_loadB1 (i := 0) rfl rfl rfl) rfl rfl ?_ | refine O_ev WideF.wide rfl (Ev_loadB (i := 0) rfl rfl rfl) rfl rfl ?_) | (show opsA _ _ _ _ (⟨_, .indexAddr _ _ _, _, _, _, _⟩ :: _) _ _; refine O_ev WideF.wide rfl (Ev_indexAddr rfl rfl (by omega) (by omega)) rfl rfl ?_) | (show opsA _ _ _ _ (⟨_, .fieldAddr _ _ _, _, _, _, _⟩ :: _) _ _; refine O_ev WideF.wide rfl (Ev_fieldAddr rfl rfl rfl) rfl rfl ?_) | (show opsA _ _ _ _ (⟨_, .call _, _, _, _, _⟩ :: _) _ _; first | refine O_ev WideF.wide rfl (Ev_llen rfl) rfl rfl ?_ | refine O_ev WideF.wide rfl (Ev_slen rfl) rfl rfl ?_ | (refine O_f2 (O_ef rfl (Ef_appendR WideF.wide rfl rfl rfl rfl rfl (by simp; omega) (by simp; omega) rfl ?_)); intro a cp)) | (show opsA _ _ _ _ (⟨_, .buildSlice _ _ _, _, _, _, _⟩ :: _) _ _; (refine O_ef rfl (Ef_build1a WideF.wide rfl rfl rfl rfl rfl ?_); intro b)) | (show opsA _ _ _ _ (⟨_, .binOp _ _ _ _ _, _, _, _, _⟩ :: _) _ _; refine O_ev WideF.wide rfl (Ev_add rfl rfl (wi64 (by omega))) rfl rfl ?_) | (show opsA _ _ _ _ (⟨_, .alloc _, _, _, _, _⟩ :: _) _ _; (refine O_ef rfl (Ef_alloc WideF.wide rfl ?_); intro b)) | (show opsA _ _ _ _ (⟨_, .store _ _ _, _, _, _, _⟩ :: _) _ _; first | refine O_ef rfl (Ef_storew WideF.wide rfl rfl rfl rfl rfl ?_) | refine O_ef rfl (Ef_store1 WideF.wide rfl rfl rfl rfl rfl ?_))) | (show wpA _ _ _ (.cond _ _ _) _ _ _ _; (refine A_if rfl (fun h => ?_) (fun h => ?_) <;> try (exfalso; omega))))
      all_goals first
        | (exfalso; omega)
        | (refine Shift.to ⟨_, ?_, i + 1, _, _, _, p ++ [rrow (one60 y)], rfl, by omega, by omega, rfl, by simp; omega, by rw [hp, take_get hy]; simp, rfl⟩ ⟨rfl, rfl, rfl, ⟨rfl, rfl, rfl, trivial⟩, Own.subi [0] (by decide) rfl rfl⟩
           omega)
    · have hcut : p = (cutL l).map rrow := by
        rw [hp]; unfold cutL
        by_cases h40 : i = 40
        · rw [h40]
        · rw [List.take_of_length_le (i := i) (by omega), List.take_of_length_le (by omega)]
      by_cases hin : i < n
      · repeat' (first | refine O_nil ?_ | refine A_seq ?_ | refine A_region ?_ | refine A_ret ?_ | (show opsA _ _ _ _ _ _ _; first | (refine O_split rfl rfl (fun h => ?_) (fun h => ?_) <;> try (exfalso; omega)) | refine O_ev WideF.wide rfl (Ev_pure rfl) rfl rfl ?_ | (show opsA _ _ _ _ (⟨_, .call _, _, _, _, _⟩ :: _) _ _; refine O_ev WideF.wide rfl (Ev_llen rfl) rfl rfl ?_)) | (show wpA _ _ _ (.exit _) _ _ _ _; refine A_exit rfl ?_) | (show wpA _ _ _ (.cond _ _ _) _ _ _ _; (refine A_if rfl (fun h => ?_) (fun h => ?_) <;> try (exfalso; omega))))
        all_goals first
          | (exfalso; omega)
          | (refine End_s (Ret1 rfl rfl) ?_
             refine Shift.lek ⟨33, [], H, [.row (.slice a' n' c') 3 p], [], []⟩ ⟨rfl, rfl, rfl, trivial, Own.subi [0] (by decide) rfl rfl⟩ ?_
             exact Shift_freeze (by rw [hcut]; exact rrow_one _) fun H2 hle2 hr1 => Shift.pure ⟨rfl, ⟨a', n', c', rfl, hr1.cong hcut.symm⟩, rfl⟩)
      · repeat' (first | refine O_nil ?_ | refine A_seq ?_ | refine A_region ?_ | refine A_ret ?_ | (show opsA _ _ _ _ _ _ _; first | (refine O_split rfl rfl (fun h => ?_) (fun h => ?_) <;> try (exfalso; omega)) | refine O_ev WideF.wide rfl (Ev_pure rfl) rfl rfl ?_ | (show opsA _ _ _ _ (⟨_, .call _, _, _, _, _⟩ :: _) _ _; refine O_ev WideF.wide rfl (Ev_llen rfl) rfl rfl ?_) | refine O_skip WideF.wide rfl rfl rfl ?_) | (show wpA _ _ _ (.exit _) _ _ _ _; refine A_exit rfl ?_) | (show wpA _ _ _ (.cond _ _ _) _ _ _ _; refine A_iffalse rfl ?_))
        all_goals first
          | (exfalso; omega)
          | (refine End_s (Ret1 rfl rfl) ?_
             refine Shift.lek ⟨33, [], H, [.row (.slice a' n' c') 3 p], [], []⟩ ⟨rfl, rfl, rfl, trivial, Own.subi [0] (by decide) rfl rfl⟩ ?_
             exact Shift_freeze (by rw [hcut]; exact rrow_one _) fun H2 hle2 hr1 => Shift.pure ⟨rfl, ⟨a', n', c', rfl, hr1.cong hcut.symm⟩, rfl⟩)
/-! ### a fresh id -/
def lastId (l : List Rev) : Int := match l.getLast? with | some r => r.id | none => 0
def freshE (l : List Rev) : Int × Int := if chk l ≠ 0 then (0, chk l) else if l = [] then (1, 0) else if 1073741824 < lastId l + 1 then (0, 9) else (lastId l + 1, 0)
def freshV (l : List Rev) : Value := .tuple [.int .i64 (freshE l).1, .int .i64 (freshE l).2].toArray
theorem last_at {l : List Rev} {n : Nat} (h : l.length = n) (h0 : 0 < n) {y : Rev} (hy : l[n - 1]? = some y) : lastId l = y.id := by
  unfold lastId
  rw [List.getLast?_eq_getElem?, h, hy]
set_option maxRecDepth 100000 in
theorem Fresh_fn {H : Hp} {a : Option Addr} {n cq : Nat} {l : List Rev} (hx : HRow H a n cq 3 (l.map rrow)) : FnP Try.prog 18 [.slice a n cq] H (freshV l) := by
  have e1 : l.length = n := by have := hx.len; simpa using this
  have hck := Check_fn hx
  unfold freshV
  by_cases h0 : chk l = 0
  · have hz := chk_zero.1 h0
    rw [h0] at hck
    by_cases hn : n = 0
    · subst hn
      have hl : l = [] := List.length_eq_zero_iff.1 e1
      have e : freshE l = (1, 0) := by unfold freshE; rw [if_neg (by simpa using h0), if_pos hl]
      rw [e]
      refine Fn_of _ _ Try.func18 rfl Try.ntmps18 rfl fun c => ?_
      repeat' (first | (refine O_ef rfl (Ef_callp WideF.wide hck ⟨rfl, trivial⟩ rfl ?_)) | refine O_nil ?_ | refine A_seq ?_ | refine A_region ?_ | refine A_skip ?_ | refine A_ret ?_ | (show opsA _ _ _ _ _ _ _; first | refine O_ev WideF.wide rfl (Ev_pure rfl) rfl rfl ?_ | (show opsA _ _ _ _ (⟨_, .call _, _, _, _, _⟩ :: _) _ _; refine O_ev WideF.wide rfl (Ev_llen rfl) rfl rfl ?_)) | (show wpA _ _ _ (.cond _ _ _) _ _ _ _; (refine A_if rfl (fun h => ?_) (fun h => ?_) <;> try (exfalso; omega))))
      all_goals first
        | (exfalso; omega)
        | exact End_p (Ret2 rfl rfl rfl) rfl
    · obtain ⟨b, o, y, rfl, hy, hc⟩ := hx.atm (n - 1) (by omega)
      have hid := chkRev_id (hz.2.1 y (List.mem_of_getElem? hy))
      have hj : (n : Int) - 1 = ((n - 1 : Nat) : Int) := by omega
      have hla := last_at e1 (by omega) hy
      have hl : l ≠ [] := fun h => hn (by rw [← e1, h]; rfl)
      unfold rrow at hc
      by_cases hbg : 1073741824 < y.id + 1
      · have e : freshE l = (0, 9) := by unfold freshE; rw [if_neg (by simpa using h0), if_neg hl, hla, if_pos hbg]
        rw [e]
        refine Fn_of _ _ Try.func18 rfl Try.ntmps18 rfl fun c => ?_
        repeat' (first | (refine O_ef rfl (Ef_callp WideF.wide hck ⟨rfl, trivial⟩ rfl ?_)) | (refine O_ev WideF.wide rfl (Ev_sub rfl rfl (wi64 (by omega))) rfl rfl ?_; rw [hj]) | (refine O_ev WideF.wide rfl (Ev_loadH1 rfl (hc 0 _ rfl)) rfl rfl ?_) | refine O_nil ?_ | refine A_seq ?_ | refine A_region ?_ | refine A_skip ?_ | refine A_ret ?_ | (show opsA _ _ _ _ _ _ _; first | refine O_ev WideF.wide rfl (Ev_pure rfl) rfl rfl ?_ | (show opsA _ _ _ _ (⟨_, .indexAddr _ _ _, _, _, _, _⟩ :: _) _ _; refine O_ev WideF.wide rfl (Ev_indexAddr rfl rfl (by omega) (by omega)) rfl rfl ?_) | (show opsA _ _ _ _ (⟨_, .fieldAddr _ _ _, _, _, _, _⟩ :: _) _ _; refine O_ev WideF.wide rfl (Ev_fieldAddr rfl rfl rfl) rfl rfl ?_) | (show opsA _ _ _ _ (⟨_, .call _, _, _, _, _⟩ :: _) _ _; refine O_ev WideF.wide rfl (Ev_llen rfl) rfl rfl ?_) | (show opsA _ _ _ _ (⟨_, .binOp _ _ _ _ _, _, _, _, _⟩ :: _) _ _; refine O_ev WideF.wide rfl (Ev_add rfl rfl (wi64 (by omega))) rfl rfl ?_)) | (show wpA _ _ _ (.cond _ _ _) _ _ _ _; (refine A_if rfl (fun h => ?_) (fun h => ?_) <;> try (exfalso; omega))))
        all_goals first
          | (exfalso; omega)
          | exact End_p (Ret2 rfl rfl rfl) rfl
      · have e : freshE l = (y.id + 1, 0) := by unfold freshE; rw [if_neg (by simpa using h0), if_neg hl, hla, if_neg hbg]
        rw [e]
        refine Fn_of _ _ Try.func18 rfl Try.ntmps18 rfl fun c => ?_
        repeat' (first | (refine O_ef rfl (Ef_callp WideF.wide hck ⟨rfl, trivial⟩ rfl ?_)) | (refine O_ev WideF.wide rfl (Ev_sub rfl rfl (wi64 (by omega))) rfl rfl ?_; rw [hj]) | (refine O_ev WideF.wide rfl (Ev_loadH1 rfl (hc 0 _ rfl)) rfl rfl ?_) | refine O_nil ?_ | refine A_seq ?_ | refine A_region ?_ | refine A_skip ?_ | refine A_ret ?_ | (show opsA _ _ _ _ _ _ _; first | refine O_ev WideF.wide rfl (Ev_pure rfl) rfl rfl ?_ | (show opsA _ _ _ _ (⟨_, .indexAddr _ _ _, _, _, _, _⟩ :: _) _ _; refine O_ev WideF.wide rfl (Ev_indexAddr rfl rfl (by omega) (by omega)) rfl rfl ?_) | (show opsA _ _ _ _ (⟨_, .fieldAddr _ _ _, _, _, _, _⟩ :: _) _ _; refine O_ev WideF.wide rfl (Ev_fieldAddr rfl rfl rfl) rfl rfl ?_) | (show opsA _ _ _ _ (⟨_, .call _, _, _, _, _⟩ :: _) _ _; refine O_ev WideF.wide rfl (Ev_llen rfl) rfl rfl ?_) | (show opsA _ _ _ _ (⟨_, .binOp _ _ _ _ _, _, _, _, _⟩ :: _) _ _; refine O_ev WideF.wide rfl (Ev_add rfl rfl (wi64 (by omega))) rfl rfl ?_)) | (show wpA _ _ _ (.cond _ _ _) _ _ _ _; (refine A_if rfl (fun h => ?_) (fun h => ?_) <;> try (exfalso; omega))))
        all_goals first
          | (exfalso; omega)
          | exact End_p (Ret2 rfl rfl rfl) rfl
  · have e : freshE l = (0, chk l) := by unfold freshE; rw [if_pos h0]
    rw [e]
    refine Fn_of _ _ Try.func18 rfl Try.ntmps18 rfl fun c => ?_
    repeat' (first | (refine O_ef rfl (Ef_callp WideF.wide hck ⟨rfl, trivial⟩ rfl ?_)) | refine O_nil ?_ | refine A_seq ?_ | refine A_region ?_ | refine A_ret ?_ | (show opsA _ _ _ _ _ _ _; refine O_ev WideF.wide rfl (Ev_pure rfl) rfl rfl ?_) | (show wpA _ _ _ (.cond _ _ _) _ _ _ _; (refine A_if rfl (fun h => ?_) (fun h => ?_) <;> try (exfalso; omega))))
    all_goals first
      | (exfalso; omega)
      | (exfalso; exact h0 (by assumption))
      | exact End_p (Ret2 rfl rfl rfl) rfl
end Go.Proofs.Ytlcoebomgaodgaa
