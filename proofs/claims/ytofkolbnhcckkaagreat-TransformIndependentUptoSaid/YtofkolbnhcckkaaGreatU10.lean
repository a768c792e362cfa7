/-
  transform.Over, Independent. Printed by genU10.py.
-/
import Derived.Test.YtofkolbnhcckkaaGreatU9
namespace Go.Proofs.YtofkolbnhcckkaaGreat
open Go
set_option linter.unusedVariables false
set_option linter.unusedSimpArgs false
attribute [local irreducible] wpA opsA drJ drQ drE Ef Ev Shift Fn
def zPiece : Piece := ⟨[], [], [], head0, sett0⟩
def zSpl : Splice := ⟨0, 0, 0, 0, zPiece, zPiece⟩
abbrev zP12 : List Value := [nilV, nilV, nilV, nilV, .int .i64 0, .int .i64 0, nilV, nilV, nilV, nilV, nilV, nilV]
theorem zPieceH (H : Hp) : PieceH H zP12 zPiece :=
  ⟨none, 0, 0, none, 0, 0, none, 0, 0, zHead, [nilV, nilV, nilV, nilV], rfl, FlowH.nil H, ⟨[], HRow.nil' H 6, .nil⟩, ⟨[], HRow.nil' H 7, .nil⟩, zHeadH H, sett0H H⟩
abbrev z28 : List Value := [.int .i64 0, .int .i64 0, .int .i64 0, .int .i64 0, nilV, nilV, nilV, nilV, .int .i64 0, .int .i64 0, nilV, nilV, nilV, nilV, nilV, nilV, nilV, nilV, nilV, nilV, .int .i64 0, .int .i64 0, nilV, nilV, nilV, nilV, nilV, nilV]
theorem zSplH (H : Hp) : SplH H z28 zSpl := ⟨zP12, zP12, rfl, zPieceH H, zPieceH H⟩
theorem zSpl_fine : zSpl.fine := by
  have h : zPiece.fine := ⟨by decide, by decide, (fun s hs => by cases hs), by decide, (fun s hs => by cases hs), by decide, by decide⟩
  exact ⟨h, h⟩
/-- the error of Over, and its splice -/
noncomputable def ovE (s t : Splice) (first : Bool) : Int := if ¬ chk s = 0 then chk s else if ¬ chk t = 0 then chk t else if farP s ∨ farP t then 2 else if mvd s t first = none then 23 else 0
noncomputable def ovS (s t : Splice) (first : Bool) : Splice := if ovE s t first = 0 then (match mvd s t first with | some p => { s with at_ := p.1, sub := p.2 } | none => zSpl) else zSpl
theorem ovS_fine {s t : Splice} {first : Bool} (hm : s.fine) : (ovS s t first).fine := by
  unfold ovS
  split
  · split
    · exact hm
    · exact zSpl_fine
  · exact zSpl_fine
theorem ovS_err {s t : Splice} {first : Bool} {e : Int} (h : ovE s t first = e) (he : e ≠ 0) : ovS s t first = zSpl := by unfold ovS; rw [if_neg (by rw [h]; exact he)]
theorem ovS_ok {s t : Splice} {first : Bool} {a b : Int} (h : ovE s t first = 0) (hm : mvd s t first = some (a, b)) : ovS s t first = { s with at_ := a, sub := b } := by unfold ovS; rw [if_pos h, hm]
/-- what Over hands back -/
def OvR (s t : Splice) (first : Bool) (v : Value) (H : Hp) : Prop := ∃ cs : List Value, v = .tuple [.agg cs.toArray, .int .i64 (ovE s t first)].toArray ∧ SplH H cs (ovS s t first)
theorem OvR.err {s t : Splice} {first : Bool} {H : Hp} {e : Int} (h : ovE s t first = e) (he : e ≠ 0) : OvR s t first (.tuple [.agg (z28).toArray, .int .i64 e].toArray) H := ⟨_, by rw [h], by rw [ovS_err h he]; exact zSplH H⟩
theorem OvR.of {s t : Splice} {first : Bool} {H : Hp} {a b : Int} {cs : List Value} (h : ovE s t first = 0) (hm : mvd s t first = some (a, b)) (hc : SplH H cs { s with at_ := a, sub := b }) : OvR s t first (.tuple [.agg cs.toArray, .int .i64 0].toArray) H := ⟨_, by rw [h], by rw [ovS_ok h hm]; exact hc⟩
theorem SplH.at2 {H : Hp} {k i a b a' b' : Int} {ocs ncs : List Value} {o n : Piece} (h : SplH H (.int .i64 k :: .int .i64 i :: .int .i64 a :: .int .i64 b :: (ocs ++ ncs)) ⟨k, i, a, b, o, n⟩) (hl : ocs.length = 12) : SplH H (.int .i64 k :: .int .i64 i :: .int .i64 a' :: .int .i64 b' :: (ocs ++ ncs)) ⟨k, i, a', b', o, n⟩ := by
  obtain ⟨o', n', e, h1, h2⟩ := h.ex
  have e1 : ocs ++ ncs = o' ++ n' := by simpa using e
  obtain ⟨rfl, rfl⟩ := List.append_inj e1 (by rw [hl, h1.one.1])
  exact ⟨_, _, rfl, h1, h2⟩
set_option maxRecDepth 100000 in
set_option maxHeartbeats 8000000 in
theorem Over_fn {H : Hp} {cs cs' : List Value} {s t : Splice} {first : Bool} (hx : SplH H cs s) (hx' : SplH H cs' t) (hm : s.fine) (hm' : t.fine) :
    Fn Tryz.prog 7 [.agg cs.toArray, .agg cs'.toArray, .bool first] H [] fun v H' I => OvR s t first v H' ∧ I = [] := by
  obtain ⟨ocs, ncs, rfl, p1, p2⟩ := hx.ex
  obtain ⟨ocs', ncs', rfl, p1', p2'⟩ := hx'.ex
  obtain ⟨o1, o2, o3, o4, o5, o6, o7, o8, o9, o10, o11, o12, rfl⟩ := list12 p1.one.1
  obtain ⟨u1, u2, u3, u4, u5, u6, u7, u8, u9, u10, u11, u12, rfl⟩ := list12 p2.one.1
  obtain ⟨v1, v2, v3, v4, v5, v6, v7, v8, v9, v10, v11, v12, rfl⟩ := list12 p1'.one.1
  obtain ⟨w1, w2, w3, w4, w5, w6, w7, w8, w9, w10, w11, w12, rfl⟩ := list12 p2'.one.1
  have k1 := fun Hx (h : HLe H Hx) => Check_fn (hx.mono h) hm
  have k2 := fun Hx (h : HLe H Hx) => Check_fn (hx'.mono h) hm'
  have k3 := fun Hx (h : HLe H Hx) => far_fn (hx.mono h)
  have k4 := fun Hx (h : HLe H Hx) => far_fn (hx'.mono h)
  have k5 := fun Hx (h : HLe H Hx) => spClone_fn (hx.mono h) hm
  have k6 := fun Hx (h : HLe H Hx) (a : chk s = 0) (b : chk t = 0) (c : ¬ farP s) (d : ¬ farP t) => moved_fn (first := first) (hx.mono h) (hx'.mono h) hm hm' a b c d
  have he := ovE.eq_1 s t first
  by_cases e1 : chk s = 0
  case neg =>
    rw [if_pos e1] at he
    refine Fn_of _ _ Tryz.func7 rfl Tryz.ntmps7 rfl fun c => ?_
    repeat' (first | (show opsA _ _ _ _ (⟨some 3, .box _ _, _, _, _, _⟩ :: _) _ _; refine O_ef rfl (Ef_boxa WideF.wide (cs := _ :: _ :: _ :: _ :: ([_, _, _, _, _, _, _, _, _, _, _, _] ++ [_, _, _, _, _, _, _, _, _, _, _, _])) rfl rfl ?_); intro b3; refine O_freezeBox hx.one.2 ?_; intro H3 hle3 hb3; have g := hle3) | (show opsA _ _ _ _ (⟨some 4, .box _ _, _, _, _, _⟩ :: _) _ _; refine O_ef rfl (Ef_boxa WideF.wide (cs := _ :: _ :: _ :: _ :: ([_, _, _, _, _, _, _, _, _, _, _, _] ++ [_, _, _, _, _, _, _, _, _, _, _, _])) rfl rfl ?_); intro b4; refine O_freezeBox hx'.one.2 ?_; intro H4 hle4 hb4; have hb3 := hb3.mono hle4; have g := g.trans hle4) | (show opsA _ _ _ _ (⟨_, .load _ _, _, _, _, _⟩ :: _) _ _; first | refine O_ev WideF.wide rfl (Ev_loadH rfl hb3 rfl) rfl rfl ?_ | refine O_ev WideF.wide rfl (Ev_loadH rfl hb4 rfl) rfl rfl ?_) | (refine O_ef rfl (Ef_call (I := []) WideF.wide (k1 _ g) ⟨rfl, trivial⟩ rfl ?_); rintro v H5 I5 hle5 ⟨rfl, rfl⟩) | refine O_nil ?_ | refine A_seq ?_ | refine A_region ?_ | refine A_ret ?_ | (show opsA _ _ _ _ _ _ _; first | refine O_ev WideF.wide rfl (Ev_pure rfl) rfl rfl ?_ | (show opsA _ _ _ _ (⟨_, .build _ _, _, _, _, _⟩ :: _) _ _; refine O_ev WideF.wide rfl (Ev_build (vs := []) trivial rfl) rfl rfl ?_) | (show opsA _ _ _ _ (⟨_, .alloc _, _, _, _, _⟩ :: _) _ _; (refine O_ef rfl (Ef_alloc WideF.wide rfl ?_); intro b)) | (show opsA _ _ _ _ (⟨_, .store _ _ _, _, _, _, _⟩ :: _) _ _; refine O_ef rfl (Ef_storew WideF.wide rfl rfl rfl rfl rfl ?_))) | (show wpA _ _ _ (.cond _ _ _) _ _ _ _; (refine A_if rfl (fun h => ?_) (fun h => ?_) <;> try (exfalso; omega))))
    all_goals first
      | (exfalso; omega)
      | exact End_e (RetC2 (i := 0) rfl rfl rfl rfl rfl) ⟨OvR.err he e1, rfl⟩
      | trace_state
  rw [if_neg (by simpa using e1)] at he
  rw [e1] at k1
  by_cases e2 : chk t = 0
  case neg =>
    rw [if_pos e2] at he
    refine Fn_of _ _ Tryz.func7 rfl Tryz.ntmps7 rfl fun c => ?_
    repeat' (first | (show opsA _ _ _ _ (⟨some 3, .box _ _, _, _, _, _⟩ :: _) _ _; refine O_ef rfl (Ef_boxa WideF.wide (cs := _ :: _ :: _ :: _ :: ([_, _, _, _, _, _, _, _, _, _, _, _] ++ [_, _, _, _, _, _, _, _, _, _, _, _])) rfl rfl ?_); intro b3; refine O_freezeBox hx.one.2 ?_; intro H3 hle3 hb3; have g := hle3) | (show opsA _ _ _ _ (⟨some 4, .box _ _, _, _, _, _⟩ :: _) _ _; refine O_ef rfl (Ef_boxa WideF.wide (cs := _ :: _ :: _ :: _ :: ([_, _, _, _, _, _, _, _, _, _, _, _] ++ [_, _, _, _, _, _, _, _, _, _, _, _])) rfl rfl ?_); intro b4; refine O_freezeBox hx'.one.2 ?_; intro H4 hle4 hb4; have hb3 := hb3.mono hle4; have g := g.trans hle4) | (show opsA _ _ _ _ (⟨_, .load _ _, _, _, _, _⟩ :: _) _ _; first | refine O_ev WideF.wide rfl (Ev_loadH rfl hb3 rfl) rfl rfl ?_ | refine O_ev WideF.wide rfl (Ev_loadH rfl hb4 rfl) rfl rfl ?_) | (refine O_ef rfl (Ef_call (I := []) WideF.wide (k1 _ g) ⟨rfl, trivial⟩ rfl ?_); rintro v H5 I5 hle5 ⟨rfl, rfl⟩); have hb3 := hb3.mono hle5; have hb4 := hb4.mono hle5; have g := g.trans hle5 | (refine O_ef rfl (Ef_call (I := []) WideF.wide (k2 _ g) ⟨rfl, trivial⟩ rfl ?_); rintro v H6 I6 hle6 ⟨rfl, rfl⟩) | refine O_nil ?_ | refine A_seq ?_ | refine A_region ?_ | refine A_skip ?_ | refine A_ret ?_ | (show opsA _ _ _ _ _ _ _; first | refine O_ev WideF.wide rfl (Ev_pure rfl) rfl rfl ?_ | (show opsA _ _ _ _ (⟨_, .build _ _, _, _, _, _⟩ :: _) _ _; refine O_ev WideF.wide rfl (Ev_build (vs := []) trivial rfl) rfl rfl ?_) | (show opsA _ _ _ _ (⟨_, .alloc _, _, _, _, _⟩ :: _) _ _; (refine O_ef rfl (Ef_alloc WideF.wide rfl ?_); intro b)) | (show opsA _ _ _ _ (⟨_, .store _ _ _, _, _, _, _⟩ :: _) _ _; refine O_ef rfl (Ef_storew WideF.wide rfl rfl rfl rfl rfl ?_))) | (show wpA _ _ _ (.cond _ _ _) _ _ _ _; (refine A_if rfl (fun h => ?_) (fun h => ?_) <;> try (exfalso; omega))))
    all_goals first
      | (exfalso; omega)
      | exact End_e (RetC2 (i := 0) rfl rfl rfl rfl rfl) ⟨OvR.err he e2, rfl⟩
      | (exfalso; exact absurd rfl (by assumption))
      | trace_state
  rw [if_neg (by simpa using e2)] at he
  rw [e2] at k2
  by_cases e3 : farP s ∨ farP t
  case pos =>
    rw [if_pos e3] at he
    refine Fn_of _ _ Tryz.func7 rfl Tryz.ntmps7 rfl fun c => ?_
    repeat' (first | (show opsA _ _ _ _ (⟨some 3, .box _ _, _, _, _, _⟩ :: _) _ _; refine O_ef rfl (Ef_boxa WideF.wide (cs := _ :: _ :: _ :: _ :: ([_, _, _, _, _, _, _, _, _, _, _, _] ++ [_, _, _, _, _, _, _, _, _, _, _, _])) rfl rfl ?_); intro b3; refine O_freezeBox hx.one.2 ?_; intro H3 hle3 hb3; have g := hle3) | (show opsA _ _ _ _ (⟨some 4, .box _ _, _, _, _, _⟩ :: _) _ _; refine O_ef rfl (Ef_boxa WideF.wide (cs := _ :: _ :: _ :: _ :: ([_, _, _, _, _, _, _, _, _, _, _, _] ++ [_, _, _, _, _, _, _, _, _, _, _, _])) rfl rfl ?_); intro b4; refine O_freezeBox hx'.one.2 ?_; intro H4 hle4 hb4; have hb3 := hb3.mono hle4; have g := g.trans hle4) | (show opsA _ _ _ _ (⟨_, .load _ _, _, _, _, _⟩ :: _) _ _; first | refine O_ev WideF.wide rfl (Ev_loadH rfl hb3 rfl) rfl rfl ?_ | refine O_ev WideF.wide rfl (Ev_loadH rfl hb4 rfl) rfl rfl ?_) | (refine O_ef rfl (Ef_call (I := []) WideF.wide (k1 _ g) ⟨rfl, trivial⟩ rfl ?_); rintro v H5 I5 hle5 ⟨rfl, rfl⟩); have hb3 := hb3.mono hle5; have hb4 := hb4.mono hle5; have g := g.trans hle5 | (refine O_ef rfl (Ef_call (I := []) WideF.wide (k2 _ g) ⟨rfl, trivial⟩ rfl ?_); rintro v H6 I6 hle6 ⟨rfl, rfl⟩); have hb3 := hb3.mono hle6; have hb4 := hb4.mono hle6; have g := g.trans hle6 | (refine O_ef rfl (Ef_callp WideF.wide (k3 _ g) ⟨rfl, trivial⟩ rfl ?_)) | (refine O_ef rfl (Ef_callp WideF.wide (k4 _ g) ⟨rfl, trivial⟩ rfl ?_)) | refine O_nil ?_ | refine A_seq ?_ | refine A_region ?_ | refine A_skip ?_ | refine A_ret ?_ | (show opsA _ _ _ _ _ _ _; first | (refine O_split rfl rfl (fun h => ?_) (fun h => ?_) <;> try (exfalso; omega)) | refine O_ev WideF.wide rfl (Ev_pure rfl) rfl rfl ?_ | (show opsA _ _ _ _ (⟨_, .build _ _, _, _, _, _⟩ :: _) _ _; refine O_ev WideF.wide rfl (Ev_build (vs := []) trivial rfl) rfl rfl ?_) | (show opsA _ _ _ _ (⟨_, .alloc _, _, _, _, _⟩ :: _) _ _; (refine O_ef rfl (Ef_alloc WideF.wide rfl ?_); intro b)) | (show opsA _ _ _ _ (⟨_, .store _ _ _, _, _, _, _⟩ :: _) _ _; refine O_ef rfl (Ef_storew WideF.wide rfl rfl rfl rfl rfl ?_)) | refine O_skip WideF.wide rfl rfl rfl ?_) | (show wpA _ _ _ (.cond _ _ _) _ _ _ _; first | (refine A_if rfl (fun h => ?_) (fun h => ?_) <;> try (exfalso; omega)) | refine A_iftrue rfl ?_))
    all_goals first
      | (exfalso; omega)
      | exact End_e (RetC2 (i := 0) rfl rfl rfl rfl rfl) ⟨OvR.err he (by decide), rfl⟩
      | (exfalso; exact absurd rfl (by assumption))
      | (exfalso; rcases e3 with e3 | e3 <;> contradiction)
      | skip
    all_goals try (exfalso; simp_all; done)
    all_goals trace_state
  obtain ⟨fs, ft⟩ := not_or.1 e3
  rw [if_neg e3] at he
  replace k3 := fun Hx h => k3 Hx h
  replace k6 := fun Hx (h : HLe H Hx) => k6 Hx h e1 e2 fs ft
  rw [decide_eq_false fs] at k3
  rw [decide_eq_false ft] at k4
  refine Fn_of _ _ Tryz.func7 rfl Tryz.ntmps7 rfl fun c => ?_
  repeat' (first | (show opsA _ _ _ _ (⟨some 3, .box _ _, _, _, _, _⟩ :: _) _ _; refine O_ef rfl (Ef_boxa WideF.wide (cs := _ :: _ :: _ :: _ :: ([_, _, _, _, _, _, _, _, _, _, _, _] ++ [_, _, _, _, _, _, _, _, _, _, _, _])) rfl rfl ?_); intro b3; refine O_freezeBox hx.one.2 ?_; intro H3 hle3 hb3; have g := hle3) | (show opsA _ _ _ _ (⟨some 4, .box _ _, _, _, _, _⟩ :: _) _ _; refine O_ef rfl (Ef_boxa WideF.wide (cs := _ :: _ :: _ :: _ :: ([_, _, _, _, _, _, _, _, _, _, _, _] ++ [_, _, _, _, _, _, _, _, _, _, _, _])) rfl rfl ?_); intro b4; refine O_freezeBox hx'.one.2 ?_; intro H4 hle4 hb4; have hb3 := hb3.mono hle4; have g := g.trans hle4) | (show opsA _ _ _ _ (⟨_, .load _ _, _, _, _, _⟩ :: _) _ _; first | refine O_ev WideF.wide rfl (Ev_loadH rfl hb3 rfl) rfl rfl ?_ | refine O_ev WideF.wide rfl (Ev_loadH rfl hb4 rfl) rfl rfl ?_) | (refine O_ef rfl (Ef_call (I := []) WideF.wide (k1 _ g) ⟨rfl, trivial⟩ rfl ?_); rintro v H5 I5 hle5 ⟨rfl, rfl⟩); have hb3 := hb3.mono hle5; have hb4 := hb4.mono hle5; have g := g.trans hle5 | (refine O_ef rfl (Ef_call (I := []) WideF.wide (k2 _ g) ⟨rfl, trivial⟩ rfl ?_); rintro v H6 I6 hle6 ⟨rfl, rfl⟩); have hb3 := hb3.mono hle6; have hb4 := hb4.mono hle6; have g := g.trans hle6 | (refine O_ef rfl (Ef_callp WideF.wide (k3 _ g) ⟨rfl, trivial⟩ rfl ?_)) | (refine O_ef rfl (Ef_callp WideF.wide (k4 _ g) ⟨rfl, trivial⟩ rfl ?_)) | (refine O_ef rfl (Ef_call (I := []) WideF.wide (k5 _ g) ⟨rfl, trivial⟩ rfl ?_); rintro v H7 I7 hle7 ⟨⟨ccs, rfl, hsc⟩, rfl⟩); have hb3 := hb3.mono hle7; have hb4 := hb4.mono hle7; have g := g.trans hle7; obtain ⟨oc, nc, rfl, y1, y2⟩ := hsc.ex; obtain ⟨a1, a2, a3, a4, a5, a6, a7, a8, a9, a10, a11, a12, rfl⟩ := list12 y1.one.1; obtain ⟨d1, d2, d3, d4, d5, d6, d7, d8, d9, d10, d11, d12, rfl⟩ := list12 y2.one.1 | (refine O_ef rfl (Ef_storew WideF.wide rfl rfl rfl (List.all_eq_true.2 hsc.one.2) rfl ?_)) | (refine O_ef rfl (Ef_call (I := []) WideF.wide (k6 _ g) ⟨rfl, rfl, rfl, trivial⟩ rfl ?_); rintro v H8 I8 hle8 ⟨⟨ma, mb, ok, rfl, hmv⟩, rfl⟩); cases ok | (refine O_f1 (O_ef rfl (Ef_storew WideF.wide rfl rfl rfl (List.all_eq_true.2 (hsc.at2 (a' := ma) (b' := mb) rfl).one.2) rfl ?_))) | refine O_nil ?_ | refine A_seq ?_ | refine A_region ?_ | refine A_skip ?_ | refine A_ret ?_ | (show opsA _ _ _ _ _ _ _; first | refine O_ev WideF.wide rfl (Ev_pure rfl) rfl rfl ?_ | (show opsA _ _ _ _ (⟨_, .load _ _, _, _, _, _⟩ :: _) _ _; refine O_ev WideF.wide rfl (Ev_loadB (i := 0) rfl rfl rfl) rfl rfl ?_) | (show opsA _ _ _ _ (⟨_, .fieldAddr _ _ _, _, _, _, _⟩ :: _) _ _; refine O_ev WideF.wide rfl (Ev_fieldAddr rfl rfl rfl) rfl rfl ?_) | (show opsA _ _ _ _ (⟨_, .unOp _ _ _, _, _, _, _⟩ :: _) _ _; refine O_ev WideF.wide rfl (Ev_notb rfl) rfl rfl ?_) | (show opsA _ _ _ _ (⟨_, .build _ _, _, _, _, _⟩ :: _) _ _; refine O_ev WideF.wide rfl (Ev_build (vs := []) trivial rfl) rfl rfl ?_) | (show opsA _ _ _ _ (⟨_, .alloc _, _, _, _, _⟩ :: _) _ _; (refine O_ef rfl (Ef_alloc WideF.wide rfl ?_); intro b)) | (show opsA _ _ _ _ (⟨_, .store _ _ _, _, _, _, _⟩ :: _) _ _; first | refine O_ef rfl (Ef_store1 WideF.wide rfl rfl rfl rfl rfl ?_) | refine O_f1 (O_ef rfl (Ef_storew WideF.wide rfl rfl rfl rfl rfl ?_)))) | (show wpA _ _ _ (.cond _ _ _) _ _ _ _; first | (refine A_if rfl (fun h => ?_) (fun h => ?_) <;> try (exfalso; omega)) | refine A_iftrue rfl ?_ | refine A_iffalse rfl ?_))
  all_goals first
    | (exfalso; omega)
    | (exfalso; exact absurd rfl (by assumption))
    | (rw [if_pos (by simpa using hmv)] at he; exact End_e (RetC2 (i := 0) rfl rfl rfl rfl rfl) ⟨OvR.err he (by decide), rfl⟩)
    | (rw [if_neg (by simp [hmv])] at he; exact End_e (RetC2 (i := 0) rfl rfl rfl rfl rfl) ⟨OvR.of he (by simpa using hmv) ((hsc.mono hle8).at2 rfl), rfl⟩)
    | trace_state

/-! ### Independent -/
noncomputable def sameB (s t : Splice) : Bool := decide (ovE s t true = 0 ∧ ovE s t false = 0 ∧ ovS s t true = ovS s t false)
noncomputable def indB (s t : Splice) : Bool := sameB s t && sameB t s
set_option maxRecDepth 100000 in
set_option maxHeartbeats 4000000 in
theorem same1_fn {H : Hp} {cs cs' : List Value} {s t : Splice} (hx : SplH H cs s) (hx' : SplH H cs' t) (hm : s.fine) (hm' : t.fine) :
    Fn Tryz.prog 19 [.agg cs.toArray, .agg cs'.toArray] H [] fun v H' I => v = .bool (sameB s t) ∧ I = [] := by
  obtain ⟨ocs, ncs, rfl, p1, p2⟩ := hx.ex
  obtain ⟨ocs', ncs', rfl, p1', p2'⟩ := hx'.ex
  obtain ⟨o1, o2, o3, o4, o5, o6, o7, o8, o9, o10, o11, o12, rfl⟩ := list12 p1.one.1
  obtain ⟨u1, u2, u3, u4, u5, u6, u7, u8, u9, u10, u11, u12, rfl⟩ := list12 p2.one.1
  obtain ⟨v1, v2, v3, v4, v5, v6, v7, v8, v9, v10, v11, v12, rfl⟩ := list12 p1'.one.1
  obtain ⟨w1, w2, w3, w4, w5, w6, w7, w8, w9, w10, w11, w12, rfl⟩ := list12 p2'.one.1
  have k1 := fun Hx (h : HLe H Hx) => Over_fn (first := true) (hx.mono h) (hx'.mono h) hm hm'
  have k2 := fun Hx (h : HLe H Hx) => Over_fn (first := false) (hx.mono h) (hx'.mono h) hm hm'
  refine Fn_of _ _ Tryz.func19 rfl Tryz.ntmps19 rfl fun c => ?_
  repeat' (first | (show opsA _ _ _ _ (⟨some 2, .box _ _, _, _, _, _⟩ :: _) _ _; refine O_ef rfl (Ef_boxa WideF.wide (cs := _ :: _ :: _ :: _ :: ([_, _, _, _, _, _, _, _, _, _, _, _] ++ [_, _, _, _, _, _, _, _, _, _, _, _])) rfl rfl ?_); intro b2; refine O_freezeBox hx.one.2 ?_; intro H2 hle2 hb2; have g := hle2) | (show opsA _ _ _ _ (⟨some 3, .box _ _, _, _, _, _⟩ :: _) _ _; refine O_ef rfl (Ef_boxa WideF.wide (cs := _ :: _ :: _ :: _ :: ([_, _, _, _, _, _, _, _, _, _, _, _] ++ [_, _, _, _, _, _, _, _, _, _, _, _])) rfl rfl ?_); intro b3; refine O_freezeBox hx'.one.2 ?_; intro H3 hle3 hb3; have hb2 := hb2.mono hle3; have g := g.trans hle3) | (show opsA _ _ _ _ (⟨_, .load _ _, _, _, _, _⟩ :: _) _ _; first | refine O_ev WideF.wide rfl (Ev_loadH rfl hb2 rfl) rfl rfl ?_ | refine O_ev WideF.wide rfl (Ev_loadH rfl hb3 rfl) rfl rfl ?_) | (refine O_ef rfl (Ef_call (I := []) WideF.wide (k1 _ g) ⟨rfl, rfl, rfl, trivial⟩ rfl ?_); rintro v H7 I7 hle7 ⟨⟨c1, rfl, s1⟩, rfl⟩); have hb2 := hb2.mono hle7; have hb3 := hb3.mono hle7; have g := g.trans hle7; obtain ⟨oc, nc, rfl, y1, y2⟩ := s1.ex; obtain ⟨a1, a2, a3, a4, a5, a6, a7, a8, a9, a10, a11, a12, rfl⟩ := list12 y1.one.1; obtain ⟨d1, d2, d3, d4, d5, d6, d7, d8, d9, d10, d11, d12, rfl⟩ := list12 y2.one.1 | (refine O_ef rfl (Ef_storew WideF.wide rfl rfl rfl (List.all_eq_true.2 s1.one.2) rfl ?_)) | (refine O_ef rfl (Ef_call (I := []) WideF.wide (k2 _ g) ⟨rfl, rfl, rfl, trivial⟩ rfl ?_); rintro v H8 I8 hle8 ⟨⟨c2, rfl, s2⟩, rfl⟩); have g := g.trans hle8; obtain ⟨oc', nc', rfl, z1, z2⟩ := s2.ex; obtain ⟨x1, x2, x3, x4, x5, x6, x7, x8, x9, x10, x11, x12, rfl⟩ := list12 z1.one.1; obtain ⟨e1, e2, e3, e4, e5, e6, e7, e8, e9, e10, e11, e12, rfl⟩ := list12 z2.one.1 | (refine O_ef rfl (Ef_storew WideF.wide rfl rfl rfl (List.all_eq_true.2 s2.one.2) rfl ?_)) | (refine O_ef rfl (Ef_call (I := []) WideF.wide (spEqual_fn (s1.mono hle8) s2 (ovS_fine hm)) ⟨rfl, rfl, trivial⟩ rfl ?_); rintro v H9 I9 hle9 ⟨rfl, rfl⟩) | refine O_nil ?_ | refine A_seq ?_ | refine A_region ?_ | refine A_ret ?_ | (show opsA _ _ _ _ _ _ _; first | (refine O_split rfl rfl (fun h => ?_) (fun h => ?_) <;> try (exfalso; omega)) | refine O_ev WideF.wide rfl (Ev_pure rfl) rfl rfl ?_ | (show opsA _ _ _ _ (⟨_, .load _ _, _, _, _, _⟩ :: _) _ _; first | refine O_ev WideF.wide rfl (Ev_loadB (i := 0) rfl rfl rfl) rfl rfl ?_ | refine O_ev WideF.wide rfl (Ev_loadB (i := 1) rfl rfl rfl) rfl rfl ?_) | (show opsA _ _ _ _ (⟨_, .alloc _, _, _, _, _⟩ :: _) _ _; (refine O_ef rfl (Ef_alloc WideF.wide rfl ?_); intro b)) | refine O_skip WideF.wide rfl rfl rfl ?_))
  all_goals first
    | (exfalso; omega)
    | (refine End_e (Ret1 rfl rfl) ⟨?_, rfl⟩; refine congrArg Value.bool ?_; unfold sameB; simp [*]; done)
    | trace_state
set_option maxRecDepth 100000 in
set_option maxHeartbeats 4000000 in
theorem Independent_fn {H : Hp} {cs cs' : List Value} {s t : Splice} (hx : SplH H cs s) (hx' : SplH H cs' t) (hm : s.fine) (hm' : t.fine) :
    Fn Tryz.prog 10 [.agg cs.toArray, .agg cs'.toArray] H [] fun v H' I => v = .bool (indB s t) ∧ I = [] := by
  obtain ⟨ocs, ncs, rfl, p1, p2⟩ := hx.ex
  obtain ⟨ocs', ncs', rfl, p1', p2'⟩ := hx'.ex
  obtain ⟨o1, o2, o3, o4, o5, o6, o7, o8, o9, o10, o11, o12, rfl⟩ := list12 p1.one.1
  obtain ⟨u1, u2, u3, u4, u5, u6, u7, u8, u9, u10, u11, u12, rfl⟩ := list12 p2.one.1
  obtain ⟨v1, v2, v3, v4, v5, v6, v7, v8, v9, v10, v11, v12, rfl⟩ := list12 p1'.one.1
  obtain ⟨w1, w2, w3, w4, w5, w6, w7, w8, w9, w10, w11, w12, rfl⟩ := list12 p2'.one.1
  have k1 := fun Hx (h : HLe H Hx) => same1_fn (hx.mono h) (hx'.mono h) hm hm'
  have k2 := fun Hx (h : HLe H Hx) => same1_fn (hx'.mono h) (hx.mono h) hm' hm
  have hi := indB.eq_1 s t
  cases hb : sameB s t <;> rw [hb] at k1 hi
  all_goals
    refine Fn_of _ _ Tryz.func10 rfl Tryz.ntmps10 rfl fun c => ?_
    repeat' (first | (show opsA _ _ _ _ (⟨some 2, .box _ _, _, _, _, _⟩ :: _) _ _; refine O_ef rfl (Ef_boxa WideF.wide (cs := _ :: _ :: _ :: _ :: ([_, _, _, _, _, _, _, _, _, _, _, _] ++ [_, _, _, _, _, _, _, _, _, _, _, _])) rfl rfl ?_); intro b2; refine O_freezeBox hx.one.2 ?_; intro H2 hle2 hb2; have g := hle2) | (show opsA _ _ _ _ (⟨some 3, .box _ _, _, _, _, _⟩ :: _) _ _; refine O_ef rfl (Ef_boxa WideF.wide (cs := _ :: _ :: _ :: _ :: ([_, _, _, _, _, _, _, _, _, _, _, _] ++ [_, _, _, _, _, _, _, _, _, _, _, _])) rfl rfl ?_); intro b3; refine O_freezeBox hx'.one.2 ?_; intro H3 hle3 hb3; have hb2 := hb2.mono hle3; have g := g.trans hle3) | (show opsA _ _ _ _ (⟨_, .load _ _, _, _, _, _⟩ :: _) _ _; first | refine O_ev WideF.wide rfl (Ev_loadH rfl hb2 rfl) rfl rfl ?_ | refine O_ev WideF.wide rfl (Ev_loadH rfl hb3 rfl) rfl rfl ?_) | (refine O_ef rfl (Ef_callv (I := []) WideF.wide (k1 _ g) rfl ⟨rfl, rfl, trivial⟩ rfl ?_); rintro v H7 I7 hle7 ⟨rfl, rfl⟩; have hb2 := hb2.mono hle7; have hb3 := hb3.mono hle7; have g := g.trans hle7) | (refine O_ef rfl (Ef_callv (I := []) WideF.wide (k2 _ g) rfl ⟨rfl, rfl, trivial⟩ rfl ?_); rintro v H8 I8 hle8 ⟨rfl, rfl⟩) | refine O_nil ?_ | refine A_seq ?_ | refine A_region ?_ | refine A_ret ?_ | (show opsA _ _ _ _ _ _ _; first | refine O_ev WideF.wide rfl (Ev_pure rfl) rfl rfl ?_ | refine O_skip WideF.wide rfl rfl rfl ?_))
    all_goals first
      | (exfalso; omega)
      | (refine End_e (Ret1 rfl rfl) ⟨?_, rfl⟩; rw [hi]; simp; done)
      | (refine End_e (Ret1 rfl rfl) ⟨?_, rfl⟩; rw [hi]; rfl)
      | trace_state

end Go.Proofs.YtofkolbnhcckkaaGreat
