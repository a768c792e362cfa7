/-
  What the example of mapping reaches at nothing; Map and Unit of a step without other flows. Printed by genP1.py.
-/
import Derived.Test.YtcliojofponpnaaP0
namespace Go.Proofs.Ytcliojofponpnaa
open Go
set_option linter.unusedVariables false
set_option linter.unusedSimpArgs false
attribute [local irreducible] wpA opsA drJ drQ drE Ef Ev Shift Fn
attribute [local irreducible] unr
set_option maxRecDepth 100000 in
theorem idxGone_nil {H : Hp} {f : Value} : FnP Try.prog 19 [.slice none 0 0, f] H (.int .i64 (-1)) := by
  refine Fn_of _ _ Try.func19 rfl Try.ntmps19 rfl fun c => ?_
  repeat' (first | (show wpA _ _ _ (.loop _) _ _ _ _; refine A_unroll 1 ?_) | (show unr _ _ _ _ _ _ _ _; refine U_succ ?_) | refine O_nil ?_ | refine A_seq ?_ | refine A_region ?_ | refine A_ret ?_ | refine A_block ?_ | (show opsA _ _ _ _ _ _ _; first | refine O_ev WideF.wide rfl (Ev_pure rfl) rfl rfl ?_ | (show opsA _ _ _ _ (⟨_, .call _, _, _, _, _⟩ :: _) _ _; refine O_ev WideF.wide rfl (Ev_llen rfl) rfl rfl ?_)) | (show wpA _ _ _ (.exit _) _ _ _ _; refine A_exit rfl ?_) | (show wpA _ _ _ (.cond _ _ _) _ _ _ _; (refine A_if rfl (fun h => ?_) (fun h => ?_) <;> try (exfalso; omega))))
  all_goals first
    | (exfalso; omega)
    | ((refine End_p (Ret1 rfl rfl) ?_); rfl)
set_option maxRecDepth 100000 in
theorem idxKept_nil {H : Hp} {f : Value} : FnP Try.prog 21 [.slice none 0 0, f] H (.int .i64 (-1)) := by
  refine Fn_of _ _ Try.func21 rfl Try.ntmps21 rfl fun c => ?_
  repeat' (first | (show wpA _ _ _ (.loop _) _ _ _ _; refine A_unroll 1 ?_) | (show unr _ _ _ _ _ _ _ _; refine U_succ ?_) | refine O_nil ?_ | refine A_seq ?_ | refine A_region ?_ | refine A_ret ?_ | refine A_block ?_ | (show opsA _ _ _ _ _ _ _; first | refine O_ev WideF.wide rfl (Ev_pure rfl) rfl rfl ?_ | (show opsA _ _ _ _ (⟨_, .call _, _, _, _, _⟩ :: _) _ _; refine O_ev WideF.wide rfl (Ev_llen rfl) rfl rfl ?_)) | (show wpA _ _ _ (.exit _) _ _ _ _; refine A_exit rfl ?_) | (show wpA _ _ _ (.cond _ _ _) _ _ _ _; (refine A_if rfl (fun h => ?_) (fun h => ?_) <;> try (exfalso; omega))))
  all_goals first
    | (exfalso; omega)
    | ((refine End_p (Ret1 rfl rfl) ?_); rfl)
set_option maxRecDepth 100000 in
theorem idxRow_nil {H : Hp} {f : Value} : FnP Try.prog 42 [.slice none 0 0, f] H (.int .i64 (-1)) := by
  refine Fn_of _ _ Try.func42 rfl Try.ntmps42 rfl fun c => ?_
  repeat' (first | (show wpA _ _ _ (.loop _) _ _ _ _; refine A_unroll 1 ?_) | (show unr _ _ _ _ _ _ _ _; refine U_succ ?_) | refine O_nil ?_ | refine A_seq ?_ | refine A_region ?_ | refine A_ret ?_ | refine A_block ?_ | (show opsA _ _ _ _ _ _ _; first | refine O_ev WideF.wide rfl (Ev_pure rfl) rfl rfl ?_ | (show opsA _ _ _ _ (⟨_, .call _, _, _, _, _⟩ :: _) _ _; refine O_ev WideF.wide rfl (Ev_llen rfl) rfl rfl ?_)) | (show wpA _ _ _ (.exit _) _ _ _ _; refine A_exit rfl ?_) | (show wpA _ _ _ (.cond _ _ _) _ _ _ _; (refine A_if rfl (fun h => ?_) (fun h => ?_) <;> try (exfalso; omega))))
  all_goals first
    | (exfalso; omega)
    | ((refine End_p (Ret1 rfl rfl) ?_); rfl)
set_option maxRecDepth 100000 in
theorem idxCell_nil {H : Hp} {f : Value} : FnP Try.prog 43 [.slice none 0 0, f] H (.int .i64 (-1)) := by
  refine Fn_of _ _ Try.func43 rfl Try.ntmps43 rfl fun c => ?_
  repeat' (first | (show wpA _ _ _ (.loop _) _ _ _ _; refine A_unroll 1 ?_) | (show unr _ _ _ _ _ _ _ _; refine U_succ ?_) | refine O_nil ?_ | refine A_seq ?_ | refine A_region ?_ | refine A_ret ?_ | refine A_block ?_ | (show opsA _ _ _ _ _ _ _; first | refine O_ev WideF.wide rfl (Ev_pure rfl) rfl rfl ?_ | (show opsA _ _ _ _ (⟨_, .call _, _, _, _, _⟩ :: _) _ _; refine O_ev WideF.wide rfl (Ev_llen rfl) rfl rfl ?_)) | (show wpA _ _ _ (.exit _) _ _ _ _; refine A_exit rfl ?_) | (show wpA _ _ _ (.cond _ _ _) _ _ _ _; (refine A_if rfl (fun h => ?_) (fun h => ?_) <;> try (exfalso; omega))))
  all_goals first
    | (exfalso; omega)
    | ((refine End_p (Ret1 rfl rfl) ?_); rfl)
set_option maxRecDepth 100000 in
theorem ctRow_nil {H : Hp} {f : Value} : FnP Try.prog 26 [.slice none 0 0, f] H (.bool false) := by
  have h := fun Hx f => idxRow_nil (H := Hx) (f := f)
  refine Fn_of _ _ Try.func26 rfl Try.ntmps26 rfl fun c => ?_
  repeat' (first | (refine O_ef rfl (Ef_callp WideF.wide (h _ _) ⟨rfl, rfl, trivial⟩ rfl ?_)) | refine O_nil ?_ | refine A_seq ?_ | refine A_region ?_ | refine A_ret ?_ | (show opsA _ _ _ _ _ _ _; refine O_ev WideF.wide rfl (Ev_pure rfl) rfl rfl ?_))
  (refine End_p (Ret1 rfl rfl) ?_)
  rfl
set_option maxRecDepth 100000 in
theorem ctCell_nil {H : Hp} {f : Value} : FnP Try.prog 28 [.slice none 0 0, f] H (.bool false) := by
  have h := fun Hx f => idxCell_nil (H := Hx) (f := f)
  refine Fn_of _ _ Try.func28 rfl Try.ntmps28 rfl fun c => ?_
  repeat' (first | (refine O_ef rfl (Ef_callp WideF.wide (h _ _) ⟨rfl, rfl, trivial⟩ rfl ?_)) | refine O_nil ?_ | refine A_seq ?_ | refine A_region ?_ | refine A_ret ?_ | (show opsA _ _ _ _ _ _ _; refine O_ev WideF.wide rfl (Ev_pure rfl) rfl rfl ?_))
  (refine End_p (Ret1 rfl rfl) ?_)
  rfl
abbrev zGone : List Value := [.int .i64 0, .int .i64 0, .int .i64 0, .int .i64 0, .int .i64 0]
abbrev stepV (a b c d : Int) : Value := .agg [.int .i64 a, .int .i64 b, .int .i64 c, .int .i64 d, .slice none 0 0, .slice none 0 0].toArray
abbrev posV (a b : Int) : Value := .agg [.int .i64 a, .int .i64 b].toArray
set_option maxRecDepth 100000 in
theorem gone_nil {H : Hp} {a b c d q : Int} : Fn Try.prog 12 [stepV a b c d, .int .i64 q] H [] fun v _ I => v = .tuple [.agg zGone.toArray, .bool false].toArray ∧ I = [] := by
  have h := fun Hx f => idxGone_nil (H := Hx) (f := f)
  refine Fn_of _ _ Try.func12 rfl Try.ntmps12 rfl fun c => ?_
  repeat' (first | (refine O_ev WideF.wide rfl (Ev_makeFunc (vs := []) (us := [_]) rfl rfl) rfl rfl ?_) | (refine O_ef rfl (Ef_callp WideF.wide (h _ _) ⟨rfl, rfl, trivial⟩ rfl ?_)) | refine O_nil ?_ | refine A_seq ?_ | refine A_region ?_ | refine A_ret ?_ | (show opsA _ _ _ _ _ _ _; first | refine O_ev WideF.wide rfl (Ev_pure rfl) rfl rfl ?_ | (show opsA _ _ _ _ (⟨_, .load _ _, _, _, _, _⟩ :: _) _ _; refine O_ev WideF.wide rfl (Ev_loadB1 (i := 2) rfl rfl rfl) rfl rfl ?_) | (show opsA _ _ _ _ (⟨_, .fieldAddr _ _ _, _, _, _, _⟩ :: _) _ _; refine O_ev WideF.wide rfl (Ev_fieldAddr rfl rfl rfl) rfl rfl ?_) | (show opsA _ _ _ _ (⟨_, .build _ _, _, _, _, _⟩ :: _) _ _; refine O_ev WideF.wide rfl (Ev_build (vs := []) trivial rfl) rfl rfl ?_) | (show opsA _ _ _ _ (⟨_, .alloc _, _, _, _, _⟩ :: _) _ _; (refine O_ef rfl (Ef_alloc WideF.wide rfl ?_); intro b)) | (show opsA _ _ _ _ (⟨_, .box _ _, _, _, _, _⟩ :: _) _ _; first | (refine O_ef rfl (Ef_box1 WideF.wide rfl rfl rfl ?_); intro b) | (refine O_ef rfl (Ef_boxa WideF.wide rfl rfl ?_); intro b)) | (show opsA _ _ _ _ (⟨_, .store _ _ _, _, _, _, _⟩ :: _) _ _; refine O_ef rfl (Ef_storew WideF.wide rfl rfl rfl rfl rfl ?_))) | (show wpA _ _ _ (.cond _ _ _) _ _ _ _; (refine A_if rfl (fun h => ?_) (fun h => ?_) <;> try (exfalso; omega))))
  all_goals first
    | (exfalso; omega)
    | exact End_e (RetC2 (i := 0) rfl rfl rfl rfl rfl) ⟨rfl, rfl⟩
    | trace_state
set_option maxRecDepth 100000 in
theorem kept_nil {H : Hp} {a b c d q : Int} : Fn Try.prog 13 [stepV a b c d, .int .i64 q] H [] fun v _ I => v = .tuple [posV 0 0, .bool false].toArray ∧ I = [] := by
  have h := fun Hx f => idxKept_nil (H := Hx) (f := f)
  refine Fn_of _ _ Try.func13 rfl Try.ntmps13 rfl fun c => ?_
  repeat' (first | (refine O_ev WideF.wide rfl (Ev_makeFunc (vs := []) (us := [_]) rfl rfl) rfl rfl ?_) | (refine O_ef rfl (Ef_callp WideF.wide (h _ _) ⟨rfl, rfl, trivial⟩ rfl ?_)) | refine O_nil ?_ | refine A_seq ?_ | refine A_region ?_ | refine A_ret ?_ | (show opsA _ _ _ _ _ _ _; first | refine O_ev WideF.wide rfl (Ev_pure rfl) rfl rfl ?_ | (show opsA _ _ _ _ (⟨_, .load _ _, _, _, _, _⟩ :: _) _ _; refine O_ev WideF.wide rfl (Ev_loadB1 (i := 2) rfl rfl rfl) rfl rfl ?_) | (show opsA _ _ _ _ (⟨_, .fieldAddr _ _ _, _, _, _, _⟩ :: _) _ _; refine O_ev WideF.wide rfl (Ev_fieldAddr rfl rfl rfl) rfl rfl ?_) | (show opsA _ _ _ _ (⟨_, .build _ _, _, _, _, _⟩ :: _) _ _; refine O_ev WideF.wide rfl (Ev_build (vs := []) trivial rfl) rfl rfl ?_) | (show opsA _ _ _ _ (⟨_, .alloc _, _, _, _, _⟩ :: _) _ _; (refine O_ef rfl (Ef_alloc WideF.wide rfl ?_); intro b)) | (show opsA _ _ _ _ (⟨_, .box _ _, _, _, _, _⟩ :: _) _ _; first | (refine O_ef rfl (Ef_box1 WideF.wide rfl rfl rfl ?_); intro b) | (refine O_ef rfl (Ef_boxa WideF.wide rfl rfl ?_); intro b)) | (show opsA _ _ _ _ (⟨_, .store _ _ _, _, _, _, _⟩ :: _) _ _; refine O_ef rfl (Ef_storew WideF.wide rfl rfl rfl rfl rfl ?_))) | (show wpA _ _ _ (.cond _ _ _) _ _ _ _; (refine A_if rfl (fun h => ?_) (fun h => ?_) <;> try (exfalso; omega))))
  all_goals first
    | (exfalso; omega)
    | exact End_e (RetC2 (i := 0) rfl rfl rfl rfl rfl) ⟨rfl, rfl⟩
    | trace_state
set_option maxRecDepth 100000 in
theorem Map_1 {H : Hp} : Fn Try.prog 7 [stepV 3 1 2 3, posV 3 2, .int .i64 1] H [] fun v _ I => v = .tuple [posV 3 1, .bool false].toArray ∧ I = [] := by
  have h1 := fun Hx => gone_nil (H := Hx) (a := 3) (b := 1) (c := 2) (d := 3) (q := 3)
  have h2 := fun Hx => kept_nil (H := Hx) (a := 3) (b := 1) (c := 2) (d := 3) (q := 3)
  refine Fn_of _ _ Try.func7 rfl Try.ntmps7 rfl fun c => ?_
  repeat' (first | (refine O_ef rfl (Ef_call (I := []) WideF.wide (h1 _) ⟨rfl, rfl, trivial⟩ rfl ?_); rintro v H1 I1 hle1 ⟨rfl, rfl⟩) | (refine O_ef rfl (Ef_call (I := []) WideF.wide (h2 _) ⟨rfl, rfl, trivial⟩ rfl ?_); rintro v H2 I2 hle2 ⟨rfl, rfl⟩) | refine O_nil ?_ | refine A_seq ?_ | refine A_region ?_ | refine A_skip ?_ | refine A_ret ?_ | refine A_block ?_ | (show opsA _ _ _ _ _ _ _; first | (refine O_split rfl rfl (fun h => ?_) (fun h => ?_) <;> try (exfalso; omega)) | refine O_ev WideF.wide rfl (Ev_pure rfl) rfl rfl ?_ | (show opsA _ _ _ _ (⟨_, .load _ _, _, _, _, _⟩ :: _) _ _; first | refine O_ev WideF.wide rfl (Ev_loadB1 (i := 1) rfl rfl rfl) rfl rfl ?_ | refine O_ev WideF.wide rfl (Ev_loadB1 (i := 2) rfl rfl rfl) rfl rfl ?_ | refine O_ev WideF.wide rfl (Ev_loadB1 (i := 3) rfl rfl rfl) rfl rfl ?_ | refine O_ev WideF.wide rfl (Ev_loadB1 (i := 4) rfl rfl rfl) rfl rfl ?_ | refine O_ev WideF.wide rfl (Ev_loadB (i := 2) rfl rfl rfl) rfl rfl ?_ | refine O_ev WideF.wide rfl (Ev_loadB (i := 3) rfl rfl rfl) rfl rfl ?_) | (show opsA _ _ _ _ (⟨_, .fieldAddr _ _ _, _, _, _, _⟩ :: _) _ _; refine O_ev WideF.wide rfl (Ev_fieldAddr rfl rfl rfl) rfl rfl ?_) | (show opsA _ _ _ _ (⟨_, .binOp _ _ _ _ _, _, _, _, _⟩ :: _) _ _; refine O_ev WideF.wide rfl (Ev_add rfl rfl (wi64 (by omega))) rfl rfl ?_) | (show opsA _ _ _ _ (⟨_, .build _ _, _, _, _, _⟩ :: _) _ _; refine O_ev WideF.wide rfl (Ev_build (vs := [(_, _), (_, _)]) ⟨rfl, rfl, rfl, rfl, trivial⟩ rfl) rfl rfl ?_) | (show opsA _ _ _ _ (⟨_, .alloc _, _, _, _, _⟩ :: _) _ _; (refine O_ef rfl (Ef_alloc WideF.wide rfl ?_); intro b)) | (show opsA _ _ _ _ (⟨_, .box _ _, _, _, _, _⟩ :: _) _ _; (refine O_ef rfl (Ef_boxa WideF.wide rfl rfl ?_); intro b)) | (show opsA _ _ _ _ (⟨_, .store _ _ _, _, _, _, _⟩ :: _) _ _; first | refine O_ef rfl (Ef_storew WideF.wide rfl rfl rfl rfl rfl ?_) | refine O_f2 (O_ef rfl (Ef_storew WideF.wide rfl rfl rfl rfl rfl ?_))) | refine O_skip WideF.wide rfl rfl rfl ?_) | (show wpA _ _ _ (.cond _ _ _) _ _ _ _; first | (refine A_if rfl (fun h => ?_) (fun h => ?_) <;> try (exfalso; omega)) | refine A_iffalse rfl ?_))
  all_goals first
    | (exfalso; omega)
    | exact End_e (RetC2 (i := 0) rfl rfl rfl rfl rfl) ⟨rfl, rfl⟩
    | exact End_e (RetC2 (i := 2) rfl rfl rfl rfl rfl) ⟨rfl, rfl⟩
    | trace_state
set_option maxRecDepth 100000 in
theorem Map_2 {H : Hp} : Fn Try.prog 7 [stepV 3 1 2 3, posV 3 3, .int .i64 2] H [] fun v _ I => v = .tuple [posV 3 4, .bool true].toArray ∧ I = [] := by
  have h1 := fun Hx => gone_nil (H := Hx) (a := 3) (b := 1) (c := 2) (d := 3) (q := 3)
  have h2 := fun Hx => kept_nil (H := Hx) (a := 3) (b := 1) (c := 2) (d := 3) (q := 3)
  refine Fn_of _ _ Try.func7 rfl Try.ntmps7 rfl fun c => ?_
  repeat' (first | (refine O_ef rfl (Ef_call (I := []) WideF.wide (h1 _) ⟨rfl, rfl, trivial⟩ rfl ?_); rintro v H1 I1 hle1 ⟨rfl, rfl⟩) | (refine O_ef rfl (Ef_call (I := []) WideF.wide (h2 _) ⟨rfl, rfl, trivial⟩ rfl ?_); rintro v H2 I2 hle2 ⟨rfl, rfl⟩) | refine O_nil ?_ | refine A_seq ?_ | refine A_region ?_ | refine A_skip ?_ | refine A_ret ?_ | refine A_block ?_ | (show opsA _ _ _ _ _ _ _; first | (refine O_split rfl rfl (fun h => ?_) (fun h => ?_) <;> try (exfalso; omega)) | refine O_ev WideF.wide rfl (Ev_pure rfl) rfl rfl ?_ | (show opsA _ _ _ _ (⟨_, .load _ _, _, _, _, _⟩ :: _) _ _; first | refine O_ev WideF.wide rfl (Ev_loadB1 (i := 1) rfl rfl rfl) rfl rfl ?_ | refine O_ev WideF.wide rfl (Ev_loadB1 (i := 2) rfl rfl rfl) rfl rfl ?_ | refine O_ev WideF.wide rfl (Ev_loadB1 (i := 3) rfl rfl rfl) rfl rfl ?_ | refine O_ev WideF.wide rfl (Ev_loadB1 (i := 4) rfl rfl rfl) rfl rfl ?_ | refine O_ev WideF.wide rfl (Ev_loadB (i := 2) rfl rfl rfl) rfl rfl ?_ | refine O_ev WideF.wide rfl (Ev_loadB (i := 3) rfl rfl rfl) rfl rfl ?_) | (show opsA _ _ _ _ (⟨_, .fieldAddr _ _ _, _, _, _, _⟩ :: _) _ _; refine O_ev WideF.wide rfl (Ev_fieldAddr rfl rfl rfl) rfl rfl ?_) | (show opsA _ _ _ _ (⟨_, .binOp _ _ _ _ _, _, _, _, _⟩ :: _) _ _; first | refine O_ev WideF.wide rfl (Ev_add rfl rfl (wi64 (by omega))) rfl rfl ?_ | refine O_ev WideF.wide rfl (Ev_sub rfl rfl (wi64 (by omega))) rfl rfl ?_) | (show opsA _ _ _ _ (⟨_, .build _ _, _, _, _, _⟩ :: _) _ _; refine O_ev WideF.wide rfl (Ev_build (vs := [(_, _), (_, _)]) ⟨rfl, rfl, rfl, rfl, trivial⟩ rfl) rfl rfl ?_) | (show opsA _ _ _ _ (⟨_, .alloc _, _, _, _, _⟩ :: _) _ _; (refine O_ef rfl (Ef_alloc WideF.wide rfl ?_); intro b)) | (show opsA _ _ _ _ (⟨_, .box _ _, _, _, _, _⟩ :: _) _ _; (refine O_ef rfl (Ef_boxa WideF.wide rfl rfl ?_); intro b)) | (show opsA _ _ _ _ (⟨_, .store _ _ _, _, _, _, _⟩ :: _) _ _; first | refine O_ef rfl (Ef_storew WideF.wide rfl rfl rfl rfl rfl ?_) | refine O_f2 (O_ef rfl (Ef_storew WideF.wide rfl rfl rfl rfl rfl ?_))) | refine O_skip WideF.wide rfl rfl rfl ?_) | (show wpA _ _ _ (.cond _ _ _) _ _ _ _; first | (refine A_if rfl (fun h => ?_) (fun h => ?_) <;> try (exfalso; omega)) | refine A_iffalse rfl ?_))
  all_goals first
    | (exfalso; omega)
    | exact End_e (RetC2 (i := 0) rfl rfl rfl rfl rfl) ⟨rfl, rfl⟩
    | exact End_e (RetC2 (i := 2) rfl rfl rfl rfl rfl) ⟨rfl, rfl⟩
    | trace_state
set_option maxRecDepth 100000 in
theorem Unit_1 {H : Hp} : Fn Try.prog 8 [stepV 3 1 2 3, posV 3 3] H [] fun v _ I => v = .tuple [posV 3 4, .bool true].toArray ∧ I = [] := by
  have h1 := fun Hx => gone_nil (H := Hx) (a := 3) (b := 1) (c := 2) (d := 3) (q := 3)
  have h2 := fun Hx => kept_nil (H := Hx) (a := 3) (b := 1) (c := 2) (d := 3) (q := 3)
  refine Fn_of _ _ Try.func8 rfl Try.ntmps8 rfl fun c => ?_
  repeat' (first | (refine O_ef rfl (Ef_call (I := []) WideF.wide (h1 _) ⟨rfl, rfl, trivial⟩ rfl ?_); rintro v H1 I1 hle1 ⟨rfl, rfl⟩) | (refine O_ef rfl (Ef_call (I := []) WideF.wide (h2 _) ⟨rfl, rfl, trivial⟩ rfl ?_); rintro v H2 I2 hle2 ⟨rfl, rfl⟩) | refine O_nil ?_ | refine A_seq ?_ | refine A_region ?_ | refine A_ret ?_ | refine A_block ?_ | (show opsA _ _ _ _ _ _ _; first | (refine O_split rfl rfl (fun h => ?_) (fun h => ?_) <;> try (exfalso; omega)) | refine O_ev WideF.wide rfl (Ev_pure rfl) rfl rfl ?_ | (show opsA _ _ _ _ (⟨_, .load _ _, _, _, _, _⟩ :: _) _ _; first | refine O_ev WideF.wide rfl (Ev_loadB1 (i := 1) rfl rfl rfl) rfl rfl ?_ | refine O_ev WideF.wide rfl (Ev_loadB1 (i := 2) rfl rfl rfl) rfl rfl ?_ | refine O_ev WideF.wide rfl (Ev_loadB1 (i := 3) rfl rfl rfl) rfl rfl ?_ | refine O_ev WideF.wide rfl (Ev_loadB1 (i := 4) rfl rfl rfl) rfl rfl ?_ | refine O_ev WideF.wide rfl (Ev_loadB (i := 2) rfl rfl rfl) rfl rfl ?_ | refine O_ev WideF.wide rfl (Ev_loadB (i := 3) rfl rfl rfl) rfl rfl ?_) | (show opsA _ _ _ _ (⟨_, .fieldAddr _ _ _, _, _, _, _⟩ :: _) _ _; refine O_ev WideF.wide rfl (Ev_fieldAddr rfl rfl rfl) rfl rfl ?_) | (show opsA _ _ _ _ (⟨_, .binOp _ _ _ _ _, _, _, _, _⟩ :: _) _ _; first | refine O_ev WideF.wide rfl (Ev_add rfl rfl (wi64 (by omega))) rfl rfl ?_ | refine O_ev WideF.wide rfl (Ev_sub rfl rfl (wi64 (by omega))) rfl rfl ?_) | (show opsA _ _ _ _ (⟨_, .build _ _, _, _, _, _⟩ :: _) _ _; refine O_ev WideF.wide rfl (Ev_build (vs := [(_, _), (_, _)]) ⟨rfl, rfl, rfl, rfl, trivial⟩ rfl) rfl rfl ?_) | (show opsA _ _ _ _ (⟨_, .alloc _, _, _, _, _⟩ :: _) _ _; (refine O_ef rfl (Ef_alloc WideF.wide rfl ?_); intro b)) | (show opsA _ _ _ _ (⟨_, .box _ _, _, _, _, _⟩ :: _) _ _; (refine O_ef rfl (Ef_boxa WideF.wide rfl rfl ?_); intro b)) | (show opsA _ _ _ _ (⟨_, .store _ _ _, _, _, _, _⟩ :: _) _ _; first | refine O_ef rfl (Ef_storew WideF.wide rfl rfl rfl rfl rfl ?_) | refine O_f2 (O_ef rfl (Ef_storew WideF.wide rfl rfl rfl rfl rfl ?_)))) | (show wpA _ _ _ (.cond _ _ _) _ _ _ _; first | (refine A_if rfl (fun h => ?_) (fun h => ?_) <;> try (exfalso; omega)) | refine A_iffalse rfl ?_))
  all_goals first
    | (exfalso; omega)
    | exact End_e (RetC2 (i := 0) rfl rfl rfl rfl rfl) ⟨rfl, rfl⟩
    | exact End_e (RetC2 (i := 2) rfl rfl rfl rfl rfl) ⟨rfl, rfl⟩
    | trace_state
end Go.Proofs.Ytcliojofponpnaa
