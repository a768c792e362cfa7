/-
  splice.Check and Size where only items are given.
-/
import Derived.Test.YtcliojofponpnaaP2
namespace Go.Proofs.Ytcliojofponpnaa
open Go
set_option linter.unusedVariables false
set_option linter.unusedSimpArgs false
attribute [local irreducible] wpA opsA drJ drQ drE Ef Ev Shift Fn
attribute [local irreducible] unr
set_option maxRecDepth 100000 in
theorem Sett_zero {H : Hp} : Fn Try.prog 47 [.agg zSet.toArray, .agg zSet.toArray] H [] fun v _ I => v = .bool true ∧ I = [] := by
  have h1 := fun Hx => EqDoc_zero (H := Hx)
  refine Fn_of _ _ Try.func47 rfl Try.ntmps47 rfl fun c => ?_
  repeat' (first | (refine O_ev WideF.wide rfl (Ev_build (vs := [(3, .agg zSet.toArray)]) ⟨rfl, rfl, trivial⟩ rfl) rfl rfl ?_) | (refine O_ef rfl (Ef_call (I := []) WideF.wide (h1 _) ⟨rfl, rfl, trivial⟩ rfl ?_); rintro v H1 I1 hle1 ⟨rfl, rfl⟩) | refine O_nil ?_ | refine A_seq ?_ | refine A_region ?_ | refine A_ret ?_ | (show opsA _ _ _ _ _ _ _; first | refine O_ev WideF.wide rfl (Ev_pure rfl) rfl rfl ?_ | (show opsA _ _ _ _ (⟨_, .load _ _, _, _, _, _⟩ :: _) _ _; first | refine O_ev WideF.wide rfl (Ev_loadB (i := 0) rfl rfl rfl) rfl rfl ?_ | refine O_ev WideF.wide rfl (Ev_loadB (i := 1) rfl rfl rfl) rfl rfl ?_) | (show opsA _ _ _ _ (⟨_, .box _ _, _, _, _, _⟩ :: _) _ _; (refine O_ef rfl (Ef_boxa WideF.wide rfl rfl ?_); intro b))))
  exact End_e (Ret1 rfl rfl) ⟨rfl, rfl⟩
/-- a piece of items alone -/
abbrev pieceL (a : Option Addr) (n c : Nat) : List Value := .slice a n c :: nilV :: nilV :: (zHead ++ zSet)
abbrev useL : List Value := [.bool true, .bool true, .bool false, .bool true, .bool false, .bool false, .bool false, .bool false]
set_option maxRecDepth 100000 in
set_option maxHeartbeats 1000000 in
theorem spare_fn {H : Hp} {a : Option Addr} {n c : Nat} : Fn Try.prog 37 [.agg useL.toArray, .agg (pieceL a n c).toArray] H [] fun v _ I => v = .bool false ∧ I = [] := by
  have h1 := fun Hx => EqHead_zero (H := Hx)
  have h2 := fun Hx => Sett_zero (H := Hx)
  refine Fn_of _ _ Try.func37 rfl Try.ntmps37 rfl fun c => ?_
  repeat' (first | (refine O_ef rfl (Ef_callp WideF.wide (h1 _) ⟨rfl, rfl, trivial⟩ rfl ?_)) | (refine O_ef rfl (Ef_call (I := []) WideF.wide (h2 _) ⟨rfl, rfl, trivial⟩ rfl ?_); rintro v H1 I1 hle1 ⟨rfl, rfl⟩) | refine O_nil ?_ | refine A_seq ?_ | refine A_region ?_ | refine A_ret ?_ | (show opsA _ _ _ _ _ _ _; first | (refine O_split rfl rfl (fun h => ?_) (fun h => ?_) <;> try (exfalso; omega)) | refine O_ev WideF.wide rfl (Ev_pure rfl) rfl rfl ?_ | (show opsA _ _ _ _ (⟨_, .load _ _, _, _, _, _⟩ :: _) _ _; first | refine O_ev WideF.wide rfl (Ev_loadB1 (i := 0) rfl rfl rfl) rfl rfl ?_ | refine O_ev WideF.wide rfl (Ev_loadB1 (i := 1) rfl rfl rfl) rfl rfl ?_ | refine O_ev WideF.wide rfl (Ev_loadBs (i := 0) rfl rfl rfl rfl) rfl rfl ?_) | (show opsA _ _ _ _ (⟨_, .fieldAddr _ _ _, _, _, _, _⟩ :: _) _ _; refine O_ev WideF.wide rfl (Ev_fieldAddr rfl rfl rfl) rfl rfl ?_) | (show opsA _ _ _ _ (⟨_, .call _, _, _, _, _⟩ :: _) _ _; refine O_ev WideF.wide rfl (Ev_llen rfl) rfl rfl ?_) | (show opsA _ _ _ _ (⟨_, .unOp _ _ _, _, _, _, _⟩ :: _) _ _; refine O_ev WideF.wide rfl (Ev_notb rfl) rfl rfl ?_) | (show opsA _ _ _ _ (⟨_, .build _ _, _, _, _, _⟩ :: _) _ _; refine O_ev WideF.wide rfl (Ev_build (vs := []) trivial rfl) rfl rfl ?_) | (show opsA _ _ _ _ (⟨_, .box _ _, _, _, _, _⟩ :: _) _ _; (refine O_ef rfl (Ef_boxa WideF.wide rfl rfl ?_); intro b)) | refine O_skip WideF.wide rfl rfl rfl ?_))
  all_goals first
    | (exfalso; omega)
    | exact End_e (Ret1 rfl rfl) ⟨rfl, rfl⟩
    | trace_state
abbrev uV (l : List Nat) : Value := .agg ((List.range 8).map fun i => Value.bool (l.contains i)).toArray
abbrev kindKvs : List (Int × Value) := [(1, .agg useL.toArray), (2, .agg [.bool true, .bool true, .bool false, .bool false, .bool true, .bool false, .bool false, .bool false].toArray), (3, .agg [.bool true, .bool true, .bool true, .bool false, .bool false, .bool true, .bool false, .bool false].toArray), (4, .agg [.bool true, .bool true, .bool false, .bool false, .bool false, .bool false, .bool true, .bool false].toArray), (5, .agg [.bool true, .bool true, .bool true, .bool false, .bool false, .bool false, .bool true, .bool false].toArray), (6, .agg [.bool false, .bool false, .bool false, .bool false, .bool false, .bool false, .bool true, .bool false].toArray), (7, .agg [.bool false, .bool false, .bool false, .bool false, .bool false, .bool false, .bool false, .bool true].toArray)]
set_option maxRecDepth 100000 in
set_option maxHeartbeats 1000000 in
theorem kinds_fn {H : Hp} : Fn Try.prog 36 [] H [] fun v H' I => ∃ b, v = .map (some b) ∧ I = [.obj b (mobj kindKvs)] ∧ H' = H := by
  refine Fn_of _ _ Try.func36 rfl Try.ntmps36 rfl fun c => ?_
  repeat' (first | (refine O_ef rfl (Ef_makeMap WideF.wide rfl ?_); intro b) | (refine O_ef rfl (Ef_mapIns WideF.wide rfl rfl rfl (by simp [mhas]) ?_)) | refine O_nil ?_ | refine A_seq ?_ | refine A_region ?_ | refine A_ret ?_ | (show opsA _ _ _ _ _ _ _; first | refine O_ev WideF.wide rfl (Ev_pure rfl) rfl rfl ?_ | (show opsA _ _ _ _ (⟨_, .build _ _, _, _, _, _⟩ :: _) _ _; first | refine O_ev WideF.wide rfl (Ev_build (vs := [(_, _)]) ⟨rfl, rfl, trivial⟩ rfl) rfl rfl ?_ | refine O_ev WideF.wide rfl (Ev_build (vs := [(_, _), (_, _), (_, _)]) ⟨rfl, rfl, rfl, rfl, rfl, rfl, trivial⟩ rfl) rfl rfl ?_ | refine O_ev WideF.wide rfl (Ev_build (vs := [(_, _), (_, _), (_, _), (_, _)]) ⟨rfl, rfl, rfl, rfl, rfl, rfl, rfl, rfl, trivial⟩ rfl) rfl rfl ?_)))
  exact End_m (Ret1 rfl rfl) ⟨_, rfl, rfl, rfl⟩
theorem ctRow_nil' {H : Hp} {f : Value} : FnP Try.prog 26 [nilV, f] H (.bool false) := ctRow_nil
set_option maxRecDepth 100000 in
theorem normalCells_nil {H : Hp} : FnP Try.prog 49 [nilV] H (.bool true) := by
  have h := fun Hx f => ctCell_nil (H := Hx) (f := f)
  refine Fn_of _ _ Try.func49 rfl Try.ntmps49 rfl fun c => ?_
  repeat' (first | (refine O_ef rfl (Ef_callp WideF.wide (h _ _) ⟨rfl, rfl, trivial⟩ rfl ?_)) | refine O_nil ?_ | refine A_seq ?_ | refine A_region ?_ | refine A_ret ?_ | (show opsA _ _ _ _ _ _ _; first | refine O_ev WideF.wide rfl (Ev_pure rfl) rfl rfl ?_ | (show opsA _ _ _ _ (⟨_, .unOp _ _ _, _, _, _, _⟩ :: _) _ _; refine O_ev WideF.wide rfl (Ev_notb rfl) rfl rfl ?_)))
  (refine End_p (Ret1 rfl rfl) ?_)
  rfl
set_option maxRecDepth 100000 in
set_option maxHeartbeats 1000000 in
theorem checkPiece_fn {H : Hp} {a : Option Addr} {n cp : Nat} {l : List Item} (hx : FlowH H a n cp l) (hm : massL l < 34359738368) (hok : okL l) (hno : l = normL l) :
    Fn Try.prog 38 [.agg (pieceL a n cp).toArray] H [] fun v _ I => v = .int .i64 0 ∧ I = [] := by
  have h1 := fun Hx (h : HLe H Hx) => Len_fn (hx.mono h) (by omega)
  have h2 := fun Hx (h : HLe H Hx) => IsNormal_fn (hx.mono h) hm
  have h3 := fun Hx => normalCells_nil (H := Hx)
  have h4 := fun Hx f => ctRow_nil (H := Hx) (f := f)
  have e1 : lenE l = 0 := if_pos hok
  rw [e1] at h1
  rw [decide_eq_true hno] at h2
  refine Fn_of _ _ Try.func38 rfl Try.ntmps38 rfl fun c => ?_
  repeat' (first | (refine O_ef rfl (Ef_callp WideF.wide (h1 _ (HLe.refl _)) ⟨rfl, trivial⟩ rfl ?_)) | (refine O_ef rfl (Ef_call (I := []) WideF.wide (h2 _ (HLe.refl _)) ⟨rfl, trivial⟩ rfl ?_); rintro v H1 I1 hle1 ⟨rfl, rfl⟩) | (refine O_ef rfl (Ef_callp WideF.wide (h3 _) ⟨rfl, trivial⟩ rfl ?_)) | (refine O_ef rfl (Ef_callp WideF.wide (h4 _ _) ⟨rfl, rfl, trivial⟩ rfl ?_)) | refine O_nil ?_ | refine A_seq ?_ | refine A_region ?_ | refine A_skip ?_ | refine A_ret ?_ | (show opsA _ _ _ _ _ _ _; first | refine O_ev WideF.wide rfl (Ev_pure rfl) rfl rfl ?_ | (show opsA _ _ _ _ (⟨_, .load _ _, _, _, _, _⟩ :: _) _ _; refine O_ev WideF.wide rfl (Ev_loadB1 (i := 0) rfl rfl rfl) rfl rfl ?_) | (show opsA _ _ _ _ (⟨_, .fieldAddr _ _ _, _, _, _, _⟩ :: _) _ _; refine O_ev WideF.wide rfl (Ev_fieldAddr rfl rfl rfl) rfl rfl ?_) | (show opsA _ _ _ _ (⟨_, .unOp _ _ _, _, _, _, _⟩ :: _) _ _; refine O_ev WideF.wide rfl (Ev_notb rfl) rfl rfl ?_) | (show opsA _ _ _ _ (⟨_, .box _ _, _, _, _, _⟩ :: _) _ _; (refine O_ef rfl (Ef_boxa WideF.wide rfl rfl ?_); intro b))) | (show wpA _ _ _ (.cond _ _ _) _ _ _ _; first | (refine A_if rfl (fun h => ?_) (fun h => ?_) <;> try (exfalso; omega)) | refine A_iffalse rfl ?_))
  all_goals first
    | (exfalso; omega)
    | exact End_e (Ret1 rfl rfl) ⟨rfl, rfl⟩
    | trace_state
set_option maxRecDepth 100000 in
theorem size_fn {H : Hp} {a : Option Addr} {n cp : Nat} {l : List Item} (hx : FlowH H a n cp l) (hm : massL l < 34359738368) :
    Fn Try.prog 24 [.int .i64 1, .agg (pieceL a n cp).toArray] H [] fun v _ I => v = .int .i64 (lenV l) ∧ I = [] := by
  have h1 := Len_fn hx (by omega)
  refine Fn_of _ _ Try.func24 rfl Try.ntmps24 rfl fun c => ?_
  repeat' (first | (refine O_ef rfl (Ef_callp WideF.wide (h1) ⟨rfl, trivial⟩ rfl ?_)) | refine O_nil ?_ | refine A_seq ?_ | refine A_region ?_ | refine A_ret ?_ | refine A_block ?_ | (show opsA _ _ _ _ _ _ _; first | refine O_ev WideF.wide rfl (Ev_pure rfl) rfl rfl ?_ | (show opsA _ _ _ _ (⟨_, .load _ _, _, _, _, _⟩ :: _) _ _; refine O_ev WideF.wide rfl (Ev_loadB1 (i := 0) rfl rfl rfl) rfl rfl ?_) | (show opsA _ _ _ _ (⟨_, .fieldAddr _ _ _, _, _, _, _⟩ :: _) _ _; refine O_ev WideF.wide rfl (Ev_fieldAddr rfl rfl rfl) rfl rfl ?_) | (show opsA _ _ _ _ (⟨_, .box _ _, _, _, _, _⟩ :: _) _ _; (refine O_ef rfl (Ef_boxa WideF.wide rfl rfl ?_); intro b))) | (show wpA _ _ _ (.cond _ _ _) _ _ _ _; (refine A_if rfl (fun h => ?_) (fun h => ?_) <;> try (exfalso; omega))))
  all_goals first
    | (exfalso; omega)
    | exact End_e (Ret1 rfl rfl) ⟨rfl, rfl⟩
    | trace_state
end Go.Proofs.Ytcliojofponpnaa
