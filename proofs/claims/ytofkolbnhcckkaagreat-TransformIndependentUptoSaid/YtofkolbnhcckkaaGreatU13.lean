/-
  The law's over. Printed by genU13.py.
-/
import Derived.Test.YtofkolbnhcckkaaGreatU12
namespace Go.Proofs.YtofkolbnhcckkaaGreat
open Go
set_option linter.unusedVariables false
set_option linter.unusedSimpArgs false
attribute [local irreducible] wpA opsA drJ drQ drE Ef Ev Shift Fn
theorem far4 {s t : Splice} {x : Int} (h : x ∈ [s.at_, s.sub, t.at_, t.sub]) (hx : x < 0 ∨ 1099511627776 < x) : farP s ∨ farP t := by
  unfold farP
  simp only [List.mem_cons, List.not_mem_nil, or_false] at h
  rcases h with rfl | rfl | rfl | rfl <;> omega
theorem near4 {s t : Splice} (h : ∀ j x, j < 4 → [s.at_, s.sub, t.at_, t.sub][j]? = some x → 0 ≤ x ∧ x ≤ 1099511627776) : ¬ (farP s ∨ farP t) := by
  have h0 := h 0 _ (by decide) rfl
  have h1 := h 1 _ (by decide) rfl
  have h2 := h 2 _ (by decide) rfl
  have h3 := h 3 _ (by decide) rfl
  unfold farP
  omega
set_option maxRecDepth 100000 in
set_option maxHeartbeats 8000000 in
theorem lover_fn {H : Hp} {cs cs' : List Value} {s t : Splice} {first : Bool} (hx : SplH H cs s) (hx' : SplH H cs' t) (hm : s.fine) (hm' : t.fine) :
    Fn Tryz.prog 8 [.agg cs.toArray, .agg cs'.toArray, .bool first] H [] fun v H' I => OvR s t first v H' ∧ I = [] := by
  obtain ⟨ocs, ncs, rfl, p1, p2⟩ := hx.ex
  obtain ⟨ocs', ncs', rfl, p1', p2'⟩ := hx'.ex
  obtain ⟨o1, o2, o3, o4, o5, o6, o7, o8, o9, o10, o11, o12, rfl⟩ := list12 p1.one.1
  obtain ⟨u1, u2, u3, u4, u5, u6, u7, u8, u9, u10, u11, u12, rfl⟩ := list12 p2.one.1
  obtain ⟨v1, v2, v3, v4, v5, v6, v7, v8, v9, v10, v11, v12, rfl⟩ := list12 p1'.one.1
  obtain ⟨w1, w2, w3, w4, w5, w6, w7, w8, w9, w10, w11, w12, rfl⟩ := list12 p2'.one.1
  have k1 := fun Hx (h : HLe H Hx) => Check_fn (hx.mono h) hm
  have k2 := fun Hx (h : HLe H Hx) => Check_fn (hx'.mono h) hm'
  have k6 := fun Hx (h : HLe H Hx) (a : chk s = 0) (b : chk t = 0) (c : ¬ farP s) (d : ¬ farP t) => lmoved_fn (first := first) (hx.mono h) (hx'.mono h) hm hm' a b c d
  have he := ovE.eq_1 s t first
  by_cases e1 : chk s = 0
  case neg =>
    rw [if_pos e1] at he
    refine Fn_of _ _ Tryz.func8 rfl Tryz.ntmps8 rfl fun c => ?_
    repeat' (first | (show opsA _ _ _ _ (⟨some 3, .box _ _, _, _, _, _⟩ :: _) _ _; refine O_ef rfl (Ef_boxa WideF.wide (cs := _ :: _ :: _ :: _ :: ([_, _, _, _, _, _, _, _, _, _, _, _] ++ [_, _, _, _, _, _, _, _, _, _, _, _])) rfl rfl ?_); intro b3; refine O_freezeBox hx.one.2 ?_; intro H3 hle3 hb3; have g := hle3) | (show opsA _ _ _ _ (⟨some 4, .box _ _, _, _, _, _⟩ :: _) _ _; refine O_ef rfl (Ef_boxa WideF.wide (cs := _ :: _ :: _ :: _ :: ([_, _, _, _, _, _, _, _, _, _, _, _] ++ [_, _, _, _, _, _, _, _, _, _, _, _])) rfl rfl ?_); intro b4; refine O_freezeBox hx'.one.2 ?_; intro H4 hle4 hb4; have hb3 := hb3.mono hle4; have g := g.trans hle4) | (show opsA _ _ _ _ (⟨_, .load _ _, _, _, _, _⟩ :: _) _ _; first | refine O_ev WideF.wide rfl (Ev_loadH rfl hb3 rfl) rfl rfl ?_ | refine O_ev WideF.wide rfl (Ev_loadH rfl hb4 rfl) rfl rfl ?_ | refine O_ev WideF.wide rfl (Ev_loadH1 rfl (hb3 2 _ rfl)) rfl rfl ?_ | refine O_ev WideF.wide rfl (Ev_loadH1 rfl (hb3 3 _ rfl)) rfl rfl ?_ | refine O_ev WideF.wide rfl (Ev_loadH1 rfl (hb4 2 _ rfl)) rfl rfl ?_ | refine O_ev WideF.wide rfl (Ev_loadH1 rfl (hb4 3 _ rfl)) rfl rfl ?_) | (refine O_ef rfl (Ef_call (I := []) WideF.wide (k1 _ g) ⟨rfl, trivial⟩ rfl ?_); rintro v H5 I5 hle5 ⟨rfl, rfl⟩) | refine O_nil ?_ | refine A_seq ?_ | refine A_region ?_ | refine A_ret ?_ | (show opsA _ _ _ _ _ _ _; first | refine O_ev WideF.wide rfl (Ev_pure rfl) rfl rfl ?_ | (show opsA _ _ _ _ (⟨_, .build _ _, _, _, _, _⟩ :: _) _ _; refine O_ev WideF.wide rfl (Ev_build (vs := []) trivial rfl) rfl rfl ?_) | (show opsA _ _ _ _ (⟨_, .alloc _, _, _, _, _⟩ :: _) _ _; (refine O_ef rfl (Ef_alloc WideF.wide rfl ?_); intro b)) | (show opsA _ _ _ _ (⟨_, .store _ _ _, _, _, _, _⟩ :: _) _ _; refine O_ef rfl (Ef_storew WideF.wide rfl rfl rfl rfl rfl ?_))) | (show wpA _ _ _ (.cond _ _ _) _ _ _ _; (refine A_if rfl (fun h => ?_) (fun h => ?_) <;> try (exfalso; omega))))
    all_goals first
      | (exfalso; omega)
      | exact End_e (RetC2 (i := 0) rfl rfl rfl rfl rfl) ⟨OvR.err he e1, rfl⟩
      | trace_state
  rw [if_neg (by simpa using e1)] at he
  rw [e1] at k1
  by_cases e2 : chk t = 0
  case neg =>
    rw [if_pos e2] at he
    refine Fn_of _ _ Tryz.func8 rfl Tryz.ntmps8 rfl fun c => ?_
    repeat' (first | (show opsA _ _ _ _ (⟨some 3, .box _ _, _, _, _, _⟩ :: _) _ _; refine O_ef rfl (Ef_boxa WideF.wide (cs := _ :: _ :: _ :: _ :: ([_, _, _, _, _, _, _, _, _, _, _, _] ++ [_, _, _, _, _, _, _, _, _, _, _, _])) rfl rfl ?_); intro b3; refine O_freezeBox hx.one.2 ?_; intro H3 hle3 hb3; have g := hle3) | (show opsA _ _ _ _ (⟨some 4, .box _ _, _, _, _, _⟩ :: _) _ _; refine O_ef rfl (Ef_boxa WideF.wide (cs := _ :: _ :: _ :: _ :: ([_, _, _, _, _, _, _, _, _, _, _, _] ++ [_, _, _, _, _, _, _, _, _, _, _, _])) rfl rfl ?_); intro b4; refine O_freezeBox hx'.one.2 ?_; intro H4 hle4 hb4; have hb3 := hb3.mono hle4; have g := g.trans hle4) | (show opsA _ _ _ _ (⟨_, .load _ _, _, _, _, _⟩ :: _) _ _; first | refine O_ev WideF.wide rfl (Ev_loadH rfl hb3 rfl) rfl rfl ?_ | refine O_ev WideF.wide rfl (Ev_loadH rfl hb4 rfl) rfl rfl ?_ | refine O_ev WideF.wide rfl (Ev_loadH1 rfl (hb3 2 _ rfl)) rfl rfl ?_ | refine O_ev WideF.wide rfl (Ev_loadH1 rfl (hb3 3 _ rfl)) rfl rfl ?_ | refine O_ev WideF.wide rfl (Ev_loadH1 rfl (hb4 2 _ rfl)) rfl rfl ?_ | refine O_ev WideF.wide rfl (Ev_loadH1 rfl (hb4 3 _ rfl)) rfl rfl ?_) | (refine O_ef rfl (Ef_call (I := []) WideF.wide (k1 _ g) ⟨rfl, trivial⟩ rfl ?_); rintro v H5 I5 hle5 ⟨rfl, rfl⟩); have hb3 := hb3.mono hle5; have hb4 := hb4.mono hle5; have g := g.trans hle5 | (refine O_ef rfl (Ef_call (I := []) WideF.wide (k2 _ g) ⟨rfl, trivial⟩ rfl ?_); rintro v H6 I6 hle6 ⟨rfl, rfl⟩) | refine O_nil ?_ | refine A_seq ?_ | refine A_region ?_ | refine A_skip ?_ | refine A_ret ?_ | (show opsA _ _ _ _ _ _ _; first | refine O_ev WideF.wide rfl (Ev_pure rfl) rfl rfl ?_ | (show opsA _ _ _ _ (⟨_, .build _ _, _, _, _, _⟩ :: _) _ _; refine O_ev WideF.wide rfl (Ev_build (vs := []) trivial rfl) rfl rfl ?_) | (show opsA _ _ _ _ (⟨_, .alloc _, _, _, _, _⟩ :: _) _ _; (refine O_ef rfl (Ef_alloc WideF.wide rfl ?_); intro b)) | (show opsA _ _ _ _ (⟨_, .store _ _ _, _, _, _, _⟩ :: _) _ _; refine O_ef rfl (Ef_storew WideF.wide rfl rfl rfl rfl rfl ?_))) | (show wpA _ _ _ (.cond _ _ _) _ _ _ _; (refine A_if rfl (fun h => ?_) (fun h => ?_) <;> try (exfalso; omega))))
    all_goals first
      | (exfalso; omega)
      | exact End_e (RetC2 (i := 0) rfl rfl rfl rfl rfl) ⟨OvR.err he e2, rfl⟩
      | (exfalso; exact absurd rfl (by assumption))
      | trace_state
  rw [if_neg (by simpa using e2)] at he
  rw [e2] at k2
  have hL : ∀ cs ∈ [s.at_, s.sub, t.at_, t.sub].map irow, ∀ u ∈ cs, u.oneCell' = true := irow_one _
  refine Fn_of _ _ Tryz.func8 rfl Tryz.ntmps8 rfl fun c => ?_
  repeat' (first | (show opsA _ _ _ _ (⟨some 3, .box _ _, _, _, _, _⟩ :: _) _ _; refine O_ef rfl (Ef_boxa WideF.wide (cs := _ :: _ :: _ :: _ :: ([_, _, _, _, _, _, _, _, _, _, _, _] ++ [_, _, _, _, _, _, _, _, _, _, _, _])) rfl rfl ?_); intro b3; refine O_freezeBox hx.one.2 ?_; intro H3 hle3 hb3; have g := hle3) | (show opsA _ _ _ _ (⟨some 4, .box _ _, _, _, _, _⟩ :: _) _ _; refine O_ef rfl (Ef_boxa WideF.wide (cs := _ :: _ :: _ :: _ :: ([_, _, _, _, _, _, _, _, _, _, _, _] ++ [_, _, _, _, _, _, _, _, _, _, _, _])) rfl rfl ?_); intro b4; refine O_freezeBox hx'.one.2 ?_; intro H4 hle4 hb4; have hb3 := hb3.mono hle4; have g := g.trans hle4) | (show opsA _ _ _ _ (⟨_, .load _ _, _, _, _, _⟩ :: _) _ _; first | refine O_ev WideF.wide rfl (Ev_loadH rfl hb3 rfl) rfl rfl ?_ | refine O_ev WideF.wide rfl (Ev_loadH rfl hb4 rfl) rfl rfl ?_ | refine O_ev WideF.wide rfl (Ev_loadH1 rfl (hb3 2 _ rfl)) rfl rfl ?_ | refine O_ev WideF.wide rfl (Ev_loadH1 rfl (hb3 3 _ rfl)) rfl rfl ?_ | refine O_ev WideF.wide rfl (Ev_loadH1 rfl (hb4 2 _ rfl)) rfl rfl ?_ | refine O_ev WideF.wide rfl (Ev_loadH1 rfl (hb4 3 _ rfl)) rfl rfl ?_) | (refine O_ef rfl (Ef_call (I := []) WideF.wide (k1 _ g) ⟨rfl, trivial⟩ rfl ?_); rintro v H5 I5 hle5 ⟨rfl, rfl⟩); have hb3 := hb3.mono hle5; have hb4 := hb4.mono hle5; have g := g.trans hle5 | (refine O_ef rfl (Ef_call (I := []) WideF.wide (k2 _ g) ⟨rfl, trivial⟩ rfl ?_); rintro v H6 I6 hle6 ⟨rfl, rfl⟩); have hb3 := hb3.mono hle6; have hb4 := hb4.mono hle6; have g := g.trans hle6 | (refine O_ef rfl (Ef_buildn WideF.wide (k := 1) (xs := [_, _, _, _]) (vs := [_, _, _, _]) rfl ⟨rfl, rfl, rfl, rfl, trivial⟩ rfl rfl rfl rfl rfl rfl ?_); intro bl; refine O_freeze (css := [s.at_, s.sub, t.at_, t.sub].map irow) hL ?_; intro H7 hle7 hr7; have hb3 := hb3.mono hle7; have hb4 := hb4.mono hle7; have g := g.trans hle7) | refine O_nil ?_ | refine A_seq ?_ | refine A_region ?_ | refine A_skip ?_ | refine A_block ?_ | (show opsA _ _ _ _ _ _ _; first | refine O_ev WideF.wide rfl (Ev_pure rfl) rfl rfl ?_ | (show opsA _ _ _ _ (⟨_, .fieldAddr _ _ _, _, _, _, _⟩ :: _) _ _; refine O_ev WideF.wide rfl (Ev_fieldAddr rfl rfl rfl) rfl rfl ?_) | (show opsA _ _ _ _ (⟨_, .alloc _, _, _, _, _⟩ :: _) _ _; (refine O_ef rfl (Ef_alloc WideF.wide rfl ?_); intro b))) | (show wpA _ _ _ (.cond _ _ _) _ _ _ _; (refine A_if rfl (fun h => ?_) (fun h => ?_) <;> try (exfalso; omega))))
  all_goals try (exfalso; first | omega | exact absurd rfl (by assumption))
  refine A_loopu (fun q st => ∃ (i : Nat), q = 4 - i ∧ i ≤ 4 ∧ (∀ j x, j < i → [s.at_, s.sub, t.at_, t.sub][j]? = some x → 0 ≤ x ∧ x ≤ 1099511627776) ∧ st = ⟨63, [(2, .bool first), (3, .pointer (some ⟨b3, 0, none⟩)), (4, .pointer (some ⟨b4, 0, none⟩)), (6, .pointer (some ⟨b, 0, none⟩)), (10, .slice (some ⟨bl, 0, none⟩) 4 4), (11, .int .i64 i)], H7, [.box b z28], [], []⟩) ?_ ?_
  · exact Shift.to ⟨_, 0, rfl, by omega, (fun j x hj => absurd hj (by omega)), rfl⟩ ⟨rfl, rfl, rfl, ⟨rfl, rfl, rfl, rfl, rfl, rfl, trivial⟩, Own.subi [0] (by decide) rfl rfl⟩
  rintro q st ⟨i, rfl, hi, hall, rfl⟩
  by_cases hlt : i < 4
  · obtain ⟨bb, bo, x, hbe, hxi, hc⟩ := hr7.atm i (by simpa using hlt)
    cases hbe
    unfold irow at hc
    by_cases hin : 0 ≤ x ∧ x ≤ 1099511627776
    · repeat' (first | (refine O_ev WideF.wide rfl (Ev_loadH1 rfl (hc 0 _ rfl)) rfl rfl ?_) | refine O_nil ?_ | refine A_seq ?_ | refine A_region ?_ | refine A_skip ?_ | refine A_block ?_ | (show opsA _ _ _ _ _ _ _; first | (refine O_split rfl rfl (fun h => ?_) (fun h => ?_) <;> try (exfalso; omega)) | refine O_ev WideF.wide rfl (Ev_pure rfl) rfl rfl ?_ | (show opsA _ _ _ _ (⟨_, .indexAddr _ _ _, _, _, _, _⟩ :: _) _ _; refine O_ev WideF.wide rfl (Ev_indexAddr rfl rfl (by omega) (by omega)) rfl rfl ?_) | (show opsA _ _ _ _ (⟨_, .binOp _ _ _ _ _, _, _, _, _⟩ :: _) _ _; refine O_ev WideF.wide rfl (Ev_add rfl rfl (wi64 (by omega))) rfl rfl ?_)) | (show wpA _ _ _ (.cond _ _ _) _ _ _ _; (refine A_if rfl (fun h => ?_) (fun h => ?_) <;> try (exfalso; omega))))
      all_goals try (exfalso; omega)
      refine Shift.to ⟨_, by omega, i + 1, rfl, by omega, fun j y hj hy => ?_, rfl⟩ ⟨rfl, rfl, rfl, ⟨rfl, rfl, rfl, rfl, rfl, rfl, trivial⟩, Own.subi [0] (by decide) rfl rfl⟩
      by_cases hji : j = i
      · subst hji; rw [hxi] at hy; cases hy; exact hin
      · exact hall j y (by omega) hy
    · rw [if_pos (far4 (List.mem_of_getElem? hxi) (by omega))] at he
      repeat' (first | (refine O_ev WideF.wide rfl (Ev_loadH1 rfl (hc 0 _ rfl)) rfl rfl ?_) | refine O_nil ?_ | refine A_seq ?_ | refine A_region ?_ | refine A_skip ?_ | refine A_ret ?_ | refine A_block ?_ | (show opsA _ _ _ _ _ _ _; first | (refine O_split rfl rfl (fun h => ?_) (fun h => ?_) <;> try (exfalso; omega)) | refine O_ev WideF.wide rfl (Ev_pure rfl) rfl rfl ?_ | (show opsA _ _ _ _ (⟨_, .indexAddr _ _ _, _, _, _, _⟩ :: _) _ _; refine O_ev WideF.wide rfl (Ev_indexAddr rfl rfl (by omega) (by omega)) rfl rfl ?_) | (show opsA _ _ _ _ (⟨_, .build _ _, _, _, _, _⟩ :: _) _ _; refine O_ev WideF.wide rfl (Ev_build (vs := []) trivial rfl) rfl rfl ?_) | (show opsA _ _ _ _ (⟨_, .store _ _ _, _, _, _, _⟩ :: _) _ _; refine O_ef rfl (Ef_storew WideF.wide rfl rfl rfl rfl rfl ?_)) | refine O_skip WideF.wide rfl rfl rfl ?_) | (show wpA _ _ _ (.cond _ _ _) _ _ _ _; first | (refine A_if rfl (fun h => ?_) (fun h => ?_) <;> try (exfalso; omega)) | refine A_iftrue rfl ?_))
      all_goals first
        | (exfalso; omega)
        | exact End_e (RetC2 (i := 0) rfl rfl rfl rfl rfl) ⟨OvR.err he (by decide), rfl⟩
        | trace_state
  · obtain rfl : i = 4 := by omega
    have e3 := near4 hall
    obtain ⟨fs, ft⟩ := not_or.1 e3
    rw [if_neg e3] at he
    replace k6 := fun Hx (h : HLe H Hx) => k6 Hx h e1 e2 fs ft
    repeat' (first | (show opsA _ _ _ _ (⟨_, .load _ _, _, _, _, _⟩ :: _) _ _; first | refine O_ev WideF.wide rfl (Ev_loadH rfl hb3 rfl) rfl rfl ?_ | refine O_ev WideF.wide rfl (Ev_loadH rfl hb4 rfl) rfl rfl ?_ | refine O_ev WideF.wide rfl (Ev_loadH1 rfl (hb3 2 _ rfl)) rfl rfl ?_ | refine O_ev WideF.wide rfl (Ev_loadH1 rfl (hb3 3 _ rfl)) rfl rfl ?_ | refine O_ev WideF.wide rfl (Ev_loadH1 rfl (hb4 2 _ rfl)) rfl rfl ?_ | refine O_ev WideF.wide rfl (Ev_loadH1 rfl (hb4 3 _ rfl)) rfl rfl ?_) | (refine O_ef rfl (Ef_call (I := []) WideF.wide (k6 _ g) ⟨rfl, rfl, rfl, trivial⟩ rfl ?_); rintro v H8 I8 hle8 ⟨⟨ccs, ma, mb, ok, rfl, hmv, hsc⟩, rfl⟩); obtain ⟨oc, nc, rfl, y1, y2⟩ := hsc.ex; obtain ⟨a1, a2, a3, a4, a5, a6, a7, a8, a9, a10, a11, a12, rfl⟩ := list12 y1.one.1; obtain ⟨d1, d2, d3, d4, d5, d6, d7, d8, d9, d10, d11, d12, rfl⟩ := list12 y2.one.1; cases ok | (refine O_ef rfl (Ef_storew WideF.wide rfl rfl rfl (List.all_eq_true.2 hsc.one.2) rfl ?_)) | (refine O_f1 (O_ef rfl (Ef_storew WideF.wide rfl rfl rfl (List.all_eq_true.2 hsc.one.2) rfl ?_))) | refine O_nil ?_ | refine A_seq ?_ | refine A_region ?_ | refine A_skip ?_ | refine A_ret ?_ | (show opsA _ _ _ _ _ _ _; first | refine O_ev WideF.wide rfl (Ev_pure rfl) rfl rfl ?_ | (show opsA _ _ _ _ (⟨_, .load _ _, _, _, _, _⟩ :: _) _ _; refine O_ev WideF.wide rfl (Ev_loadB (i := 0) rfl rfl rfl) rfl rfl ?_) | (show opsA _ _ _ _ (⟨_, .unOp _ _ _, _, _, _, _⟩ :: _) _ _; refine O_ev WideF.wide rfl (Ev_notb rfl) rfl rfl ?_) | (show opsA _ _ _ _ (⟨_, .build _ _, _, _, _, _⟩ :: _) _ _; refine O_ev WideF.wide rfl (Ev_build (vs := []) trivial rfl) rfl rfl ?_) | (show opsA _ _ _ _ (⟨_, .alloc _, _, _, _, _⟩ :: _) _ _; (refine O_ef rfl (Ef_alloc WideF.wide rfl ?_); intro b)) | (show opsA _ _ _ _ (⟨_, .store _ _ _, _, _, _, _⟩ :: _) _ _; refine O_f1 (O_ef rfl (Ef_storew WideF.wide rfl rfl rfl rfl rfl ?_)))) | (show wpA _ _ _ (.exit _) _ _ _ _; refine A_exit rfl ?_) | (show wpA _ _ _ (.cond _ _ _) _ _ _ _; first | (refine A_if rfl (fun h => ?_) (fun h => ?_) <;> try (exfalso; omega)) | refine A_iftrue rfl ?_ | refine A_iffalse rfl ?_))
    all_goals first
      | (exfalso; omega)
      | (exfalso; exact absurd rfl (by assumption))
      | (rw [if_pos (by simpa using hmv)] at he; exact End_e (RetC2 (i := 0) rfl rfl rfl rfl rfl) ⟨OvR.err he (by decide), rfl⟩)
      | (rw [if_neg (by simp [hmv])] at he; exact End_e (RetC2 (i := 0) rfl rfl rfl rfl rfl) ⟨OvR.of he (by simpa using hmv) hsc, rfl⟩)
      | trace_state

end Go.Proofs.YtofkolbnhcckkaaGreat
