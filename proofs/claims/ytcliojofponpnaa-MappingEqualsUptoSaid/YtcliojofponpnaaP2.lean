/-
  splice.Check and Size where only items are given.
-/
import Derived.Test.YtcliojofponpnaaP1
namespace Go.Proofs.Ytcliojofponpnaa
open Go
set_option linter.unusedVariables false
set_option linter.unusedSimpArgs false
attribute [local irreducible] wpA opsA drJ drQ drE Ef Ev Shift Fn
attribute [local irreducible] unr
abbrev nilV : Value := .slice none 0 0
abbrev zHead : List Value := [nilV, .int .i64 0, .int .i64 0, nilV, nilV]
def head0 : Head := ⟨[], 0, 0, [], []⟩
theorem zHeadH (H : Hp) : HeadH H zHead head0 := ⟨none, 0, 0, none, 0, 0, none, 0, 0, rfl, HRow.nil' H 2, HRow.nil' H 2, HRow.nil' H 4⟩
theorem EqHead_zero {H : Hp} : FnP Try.prog 44 [.agg zHead.toArray, .agg zHead.toArray] H (.bool true) := by
  have h := EqualHead_fn (zHeadH H) (zHeadH H) (by decide)
  rwa [decide_eq_true rfl] at h
theorem Equal_nil {H : Hp} : FnP Try.prog 17 [nilV, nilV] H (.bool true) := by
  have hf : FlowH H none 0 0 [] := FlowH.nil H
  have h := Equal_fn hf hf (by decide)
  rwa [decide_eq_true rfl] at h
set_option maxRecDepth 100000 in
theorem EqRev_nil {H : Hp} : FnP Try.prog 64 [nilV, nilV] H (.bool true) := by
  refine Fn_of _ _ Try.func64 rfl Try.ntmps64 rfl fun c => ?_
  repeat' (first | (show wpA _ _ _ (.loop _) _ _ _ _; refine A_unroll 1 ?_) | (show unr _ _ _ _ _ _ _ _; refine U_succ ?_) | refine O_nil ?_ | refine A_seq ?_ | refine A_region ?_ | refine A_skip ?_ | refine A_ret ?_ | refine A_block ?_ | (show opsA _ _ _ _ _ _ _; first | refine O_ev WideF.wide rfl (Ev_pure rfl) rfl rfl ?_ | (show opsA _ _ _ _ (⟨_, .call _, _, _, _, _⟩ :: _) _ _; refine O_ev WideF.wide rfl (Ev_llen rfl) rfl rfl ?_)) | (show wpA _ _ _ (.exit _) _ _ _ _; refine A_exit rfl ?_) | (show wpA _ _ _ (.cond _ _ _) _ _ _ _; (refine A_if rfl (fun h => ?_) (fun h => ?_) <;> try (exfalso; omega))))
  all_goals first
    | (exfalso; omega)
    | ((refine End_p (Ret1 rfl rfl) ?_); rfl)
    | (exfalso; exact absurd rfl (by assumption))
set_option maxRecDepth 100000 in
theorem EqComment_nil {H : Hp} : FnP Try.prog 67 [nilV, nilV] H (.bool true) := by
  refine Fn_of _ _ Try.func67 rfl Try.ntmps67 rfl fun c => ?_
  repeat' (first | (show wpA _ _ _ (.loop _) _ _ _ _; refine A_unroll 1 ?_) | (show unr _ _ _ _ _ _ _ _; refine U_succ ?_) | refine O_nil ?_ | refine A_seq ?_ | refine A_region ?_ | refine A_skip ?_ | refine A_ret ?_ | refine A_block ?_ | (show opsA _ _ _ _ _ _ _; first | refine O_ev WideF.wide rfl (Ev_pure rfl) rfl rfl ?_ | (show opsA _ _ _ _ (⟨_, .call _, _, _, _, _⟩ :: _) _ _; refine O_ev WideF.wide rfl (Ev_llen rfl) rfl rfl ?_)) | (show wpA _ _ _ (.exit _) _ _ _ _; refine A_exit rfl ?_) | (show wpA _ _ _ (.cond _ _ _) _ _ _ _; (refine A_if rfl (fun h => ?_) (fun h => ?_) <;> try (exfalso; omega))))
  all_goals first
    | (exfalso; omega)
    | ((refine End_p (Ret1 rfl rfl) ?_); rfl)
    | (exfalso; exact absurd rfl (by assumption))
set_option maxRecDepth 100000 in
theorem EqVar_nil {H : Hp} : FnP Try.prog 68 [nilV, nilV] H (.bool true) := by
  refine Fn_of _ _ Try.func68 rfl Try.ntmps68 rfl fun c => ?_
  repeat' (first | (show wpA _ _ _ (.loop _) _ _ _ _; refine A_unroll 1 ?_) | (show unr _ _ _ _ _ _ _ _; refine U_succ ?_) | refine O_nil ?_ | refine A_seq ?_ | refine A_region ?_ | refine A_skip ?_ | refine A_ret ?_ | refine A_block ?_ | (show opsA _ _ _ _ _ _ _; first | refine O_ev WideF.wide rfl (Ev_pure rfl) rfl rfl ?_ | (show opsA _ _ _ _ (⟨_, .call _, _, _, _, _⟩ :: _) _ _; refine O_ev WideF.wide rfl (Ev_llen rfl) rfl rfl ?_)) | (show wpA _ _ _ (.exit _) _ _ _ _; refine A_exit rfl ?_) | (show wpA _ _ _ (.cond _ _ _) _ _ _ _; (refine A_if rfl (fun h => ?_) (fun h => ?_) <;> try (exfalso; omega))))
  all_goals first
    | (exfalso; omega)
    | ((refine End_p (Ret1 rfl rfl) ?_); rfl)
    | (exfalso; exact absurd rfl (by assumption))
set_option maxRecDepth 100000 in
theorem EqList_nil {H : Hp} {f : Value} : FnP Try.prog 66 [nilV, nilV, f] H (.bool true) := by
  refine Fn_of _ _ Try.func66 rfl Try.ntmps66 rfl fun c => ?_
  repeat' (first | (show wpA _ _ _ (.loop _) _ _ _ _; refine A_unroll 1 ?_) | (show unr _ _ _ _ _ _ _ _; refine U_succ ?_) | refine O_nil ?_ | refine A_seq ?_ | refine A_region ?_ | refine A_skip ?_ | refine A_ret ?_ | refine A_block ?_ | (show opsA _ _ _ _ _ _ _; first | refine O_ev WideF.wide rfl (Ev_pure rfl) rfl rfl ?_ | (show opsA _ _ _ _ (⟨_, .call _, _, _, _, _⟩ :: _) _ _; refine O_ev WideF.wide rfl (Ev_llen rfl) rfl rfl ?_)) | (show wpA _ _ _ (.exit _) _ _ _ _; refine A_exit rfl ?_) | (show wpA _ _ _ (.cond _ _ _) _ _ _ _; (refine A_if rfl (fun h => ?_) (fun h => ?_) <;> try (exfalso; omega))))
  all_goals first
    | (exfalso; omega)
    | ((refine End_p (Ret1 rfl rfl) ?_); rfl)
    | (exfalso; exact absurd rfl (by assumption))
set_option maxRecDepth 100000 in
theorem EqStyle_nil {H : Hp} {f : Value} : FnP Try.prog 75 [nilV, nilV, f] H (.bool true) := by
  refine Fn_of _ _ Try.func75 rfl Try.ntmps75 rfl fun c => ?_
  repeat' (first | (show wpA _ _ _ (.loop _) _ _ _ _; refine A_unroll 1 ?_) | (show unr _ _ _ _ _ _ _ _; refine U_succ ?_) | refine O_nil ?_ | refine A_seq ?_ | refine A_region ?_ | refine A_skip ?_ | refine A_ret ?_ | refine A_block ?_ | (show opsA _ _ _ _ _ _ _; first | refine O_ev WideF.wide rfl (Ev_pure rfl) rfl rfl ?_ | (show opsA _ _ _ _ (⟨_, .call _, _, _, _, _⟩ :: _) _ _; refine O_ev WideF.wide rfl (Ev_llen rfl) rfl rfl ?_)) | (show wpA _ _ _ (.exit _) _ _ _ _; refine A_exit rfl ?_) | (show wpA _ _ _ (.cond _ _ _) _ _ _ _; (refine A_if rfl (fun h => ?_) (fun h => ?_) <;> try (exfalso; omega))))
  all_goals first
    | (exfalso; omega)
    | ((refine End_p (Ret1 rfl rfl) ?_); rfl)
    | (exfalso; exact absurd rfl (by assumption))
set_option maxRecDepth 100000 in
theorem EqSheet_nil {H : Hp} : FnP Try.prog 65 [nilV, nilV] H (.bool true) := by
  have h := fun Hx f => EqStyle_nil (H := Hx) (f := f)
  refine Fn_of _ _ Try.func65 rfl Try.ntmps65 rfl fun c => ?_
  repeat' (first | (refine O_ef rfl (Ef_callp WideF.wide (h _ _) ⟨rfl, rfl, rfl, trivial⟩ rfl ?_)) | refine O_nil ?_ | refine A_seq ?_ | refine A_region ?_ | refine A_ret ?_ | (show opsA _ _ _ _ _ _ _; refine O_ev WideF.wide rfl (Ev_pure rfl) rfl rfl ?_))
  (refine End_p (Ret1 rfl rfl) ?_)
  rfl
abbrev zSet : List Value := [nilV, nilV, nilV, nilV]
abbrev zDoc : List Value := nilV :: (zHead ++ nilV :: zSet)
theorem zDoc_one : ∀ u ∈ zDoc, u.oneCell' = true := by decide
set_option maxRecDepth 100000 in
set_option maxHeartbeats 1000000 in
theorem EqDoc_zero {H : Hp} : Fn Try.prog 58 [.agg zDoc.toArray, .agg zDoc.toArray] H [] fun v _ I => v = .bool true ∧ I = [] := by
  have h1 := fun Hx => Equal_nil (H := Hx)
  have h2 := fun Hx => EqHead_zero (H := Hx)
  have h3 := fun Hx => EqRev_nil (H := Hx)
  have h4 := fun Hx => EqSheet_nil (H := Hx)
  have h5 := fun Hx f => EqList_nil (H := Hx) (f := f)
  have h6 := fun Hx => EqComment_nil (H := Hx)
  have h7 := fun Hx => EqVar_nil (H := Hx)
  refine Fn_of _ _ Try.func58 rfl Try.ntmps58 rfl fun c => ?_
  repeat' (first | (show opsA _ _ _ _ (⟨some 2, .box _ _, _, _, _, _⟩ :: _) _ _; refine O_ef rfl (Ef_boxa WideF.wide (cs := zDoc) rfl rfl ?_); intro b2; refine O_freezeBox zDoc_one ?_; intro H2 hle2 hb2) | (show opsA _ _ _ _ (⟨some 3, .box _ _, _, _, _, _⟩ :: _) _ _; refine O_ef rfl (Ef_boxa WideF.wide (cs := zDoc) rfl rfl ?_); intro b3; refine O_freezeBox zDoc_one ?_; intro H3 hle3 hb3; have hb2 := hb2.mono hle3) | (refine A_drawM WideF.wide (.q 0 (.q 1 (.q 2 (.q 3 (.f 4 (.e 5 (.e 6 (.e 7 (.done [])))) 5 (.e 4 (.e 6 (.e 7 (.done []))))))))) [] (by decide +kernel) ?_) | (show drQ _ _ _ ⟨_, .load _ _, _, _, _, _⟩ _ _; first | refine D_ev rfl (Ev_loadH rfl (hb2.sub 7 4) rfl) rfl rfl ?_ | refine D_ev rfl (Ev_loadH rfl (hb3.sub 7 4) rfl) rfl rfl ?_) | (show opsA _ _ _ _ (⟨_, .load _ _, _, _, _, _⟩ :: _) _ _; first | refine O_ev WideF.wide rfl (Ev_loadH1 rfl (hb2 0 _ rfl)) rfl rfl ?_ | refine O_ev WideF.wide rfl (Ev_loadH1 rfl (hb3 0 _ rfl)) rfl rfl ?_ | refine O_ev WideF.wide rfl (Ev_loadH rfl (hb2.sub 1 5) rfl) rfl rfl ?_ | refine O_ev WideF.wide rfl (Ev_loadH rfl (hb3.sub 1 5) rfl) rfl rfl ?_ | refine O_ev WideF.wide rfl (Ev_loadH1 rfl (hb2 6 _ rfl)) rfl rfl ?_ | refine O_ev WideF.wide rfl (Ev_loadH1 rfl (hb3 6 _ rfl)) rfl rfl ?_) | (refine O_ef rfl (Ef_callp WideF.wide (h1 _) ⟨rfl, rfl, trivial⟩ rfl ?_)) | (refine O_ef rfl (Ef_callp WideF.wide (h2 _) ⟨rfl, rfl, trivial⟩ rfl ?_)) | (refine O_ef rfl (Ef_callp WideF.wide (h3 _) ⟨rfl, rfl, trivial⟩ rfl ?_)) | (refine O_ef rfl (Ef_callp WideF.wide (h4 _) ⟨rfl, rfl, trivial⟩ rfl ?_)) | (refine O_ef rfl (Ef_callp WideF.wide (h5 _ _) ⟨rfl, rfl, rfl, trivial⟩ rfl ?_)) | (refine O_ef rfl (Ef_callp WideF.wide (h6 _) ⟨rfl, rfl, trivial⟩ rfl ?_)) | (refine O_ef rfl (Ef_callp WideF.wide (h7 _) ⟨rfl, rfl, trivial⟩ rfl ?_)) | refine O_nil ?_ | refine A_seq ?_ | refine A_region ?_ | refine A_ret ?_ | (show drJ _ _ _ _ _ _ _ (.q _ _) _; refine D_q rfl ?_) | (show drJ _ _ _ _ _ _ _ (.e _ _) _; refine D_e rfl ?_) | (show drJ _ _ _ _ _ _ _ (.f _ _ _ _) _; refine D_f rfl rfl ?_ ?_) | (show drJ _ _ _ _ _ _ _ (.done _) _; refine D_done ?_; simp only [List.cons_append, List.nil_append]) | (show drQ _ _ _ _ _ _; (show drQ _ _ _ ⟨_, .fieldAddr _ _ _, _, _, _, _⟩ _ _; refine D_ev rfl (Ev_fieldAddr rfl rfl rfl) rfl rfl ?_)) | (show drE _ _ _ _ _ _ _; first | (show drE _ _ _ _ ⟨_, .alloc _, _, _, _, _⟩ _ _; (refine E_ef rfl (Ef_alloc WideF.wide rfl ?_); intro b; refine ⟨Grow.same rfl rfl, ?_⟩)) | (show drE _ _ _ _ ⟨_, .store _ _ _, _, _, _, _⟩ _ _; first | (refine E_ef rfl (Ef_storew WideF.wide rfl rfl rfl rfl rfl ?_); refine ⟨Grow.same rfl rfl, ?_⟩) | (refine E_ef rfl (Ef_f1 (Ef_storew WideF.wide rfl rfl rfl rfl rfl ?_)); refine ⟨Grow.same rfl rfl, ?_⟩))) | (show opsA _ _ _ _ _ _ _; first | refine O_ev WideF.wide rfl (Ev_pure rfl) rfl rfl ?_ | (show opsA _ _ _ _ (⟨_, .load _ _, _, _, _, _⟩ :: _) _ _; first | refine O_ev WideF.wide rfl (Ev_loadB1 (i := 0) rfl rfl rfl) rfl rfl ?_ | refine O_ev WideF.wide rfl (Ev_loadB1 (i := 1) rfl rfl rfl) rfl rfl ?_) | (show opsA _ _ _ _ (⟨_, .fieldAddr _ _ _, _, _, _, _⟩ :: _) _ _; refine O_ev WideF.wide rfl (Ev_fieldAddr rfl rfl rfl) rfl rfl ?_)))
  all_goals first
    | (exfalso; omega)
    | exact End_e (Ret1 rfl rfl) ⟨rfl, rfl⟩
    | trace_state
end Go.Proofs.Ytcliojofponpnaa
