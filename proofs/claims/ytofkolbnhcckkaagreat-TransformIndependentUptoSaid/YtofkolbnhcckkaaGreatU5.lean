/-
  document.Clone of settings, clonePiece, splice.Clone. Printed by genU5.py.
-/
import Derived.Test.YtofkolbnhcckkaaGreatU4
namespace Go.Proofs.YtofkolbnhcckkaaGreat
open Go
set_option linter.unusedVariables false
set_option linter.unusedSimpArgs false
attribute [local irreducible] wpA opsA drJ drQ drE Ef Ev Shift Fn
set_option maxRecDepth 100000 in
theorem CloneRev_nil {H : Hp} : FnP Tryz.prog 83 [nilV] H nilV := by
  refine Fn_of _ _ Tryz.func83 rfl Tryz.ntmps83 rfl fun c => ?_
  repeat' (first | (refine O_ev WideF.wide rfl (Ev_eqnil rfl rfl) rfl rfl ?_) | refine O_nil ?_ | refine A_seq ?_ | refine A_region ?_ | refine A_ret ?_ | (show opsA _ _ _ _ _ _ _; refine O_ev WideF.wide rfl (Ev_pure rfl) rfl rfl ?_) | (show wpA _ _ _ (.cond _ _ _) _ _ _ _; refine A_iftrue rfl ?_))
  (refine End_p (Ret1 rfl rfl) ?_)
  rfl
theorem zDocS_one {a b c d : Value} (h1 : a.oneCell' = true) (h2 : b.oneCell' = true) (h3 : c.oneCell' = true) (h4 : d.oneCell' = true) : ∀ u ∈ zDocS [a, b, c, d], u.oneCell' = true := by
  intro u hu
  simp [zDocS, zHead] at hu
  rcases hu with rfl | rfl | rfl | rfl | rfl | rfl | rfl | rfl
  all_goals first | rfl | assumption
set_option maxRecDepth 100000 in
set_option maxHeartbeats 4000000 in
theorem docClone_fn {H : Hp} {cs : List Value} {x : Sett} (hx : SettH H cs x) (hm : x.fine) : Fn Tryz.prog 54 [.agg (zDocS cs).toArray] H [] fun v H' I' => (∃ f h1 h2 h3 h4 h5 r, ∃ cs' : List Value, v = .agg (f :: h1 :: h2 :: h3 :: h4 :: h5 :: r :: cs').toArray ∧ SettH H' cs' x) ∧ I' = [] := by
  have c4 := fun Hx (h : HLe H Hx) => cloneSettings_fn (hx.mono h) hm
  have c1 := fun Hx => Clone_fr (FlowH.nil Hx) (by decide)
  have c2 := fun Hx => CloneHead_fr (zHeadH Hx) (by decide)
  have c3 := fun Hx => CloneRev_nil (H := Hx)
  obtain ⟨sa, sn, sc, la, ln, lc, ca, cn, cc, va, vn, vc, rfl, -⟩ := hx.ex
  have hone := zDocS_one (a := .slice sa sn sc) (b := .slice la ln lc) (c := .slice ca cn cc) (d := .slice va vn vc) rfl rfl rfl rfl
  refine Fn_of _ _ Tryz.func54 rfl Tryz.ntmps54 rfl fun c => ?_
  repeat' (first | (refine O_ef rfl (Ef_boxa WideF.wide (cs := zDocS _) rfl rfl ?_); intro b1; refine O_freezeBox hone ?_; intro H1 hle1 hb1; have g := hle1) | (refine A_drawM WideF.wide (.q 0 (.q 1 (.q 3 (.q 4 (.q 6 (.q 7 (.q 9 (.q 10 (.e 2 (.e 5 (.e 8 (.e 11 (.q 12 (.done [13])))))))))))))) [13] (by decide +kernel) ?_) | (show drQ _ _ _ ⟨_, .load _ _, _, _, _, _⟩ _ _; first | refine D_ev rfl (Ev_loadH1 rfl (hb1 0 _ rfl)) rfl rfl ?_ | refine D_ev rfl (Ev_loadH1 rfl (hb1 6 _ rfl)) rfl rfl ?_ | refine D_ev rfl (Ev_loadH rfl (hb1.sub 1 5) rfl) rfl rfl ?_ | refine D_ev rfl (Ev_loadH rfl (hb1.sub 7 4) rfl) rfl rfl ?_) | (refine E_ef rfl (Ef_call (I := []) WideF.wide (c1 _) ⟨rfl, trivial⟩ rfl ?_); rintro v H2 I2 hle2 ⟨⟨oa, on, oc, rfl, -⟩, rfl⟩; refine ⟨⟨hle2, rfl⟩, ?_⟩); have hb1 := hb1.mono hle2; have g := g.trans hle2 | (refine E_ef rfl (Ef_call (I := []) WideF.wide (c2 _) ⟨rfl, trivial⟩ rfl ?_); rintro v H3 I3 hle3 ⟨⟨pa, pn, pc, da, dn, dc, qa, qn, qc, rfl, -, -, -⟩, rfl⟩; refine ⟨⟨hle3, rfl⟩, ?_⟩); have hb1 := hb1.mono hle3; have g := g.trans hle3 | (refine E_ef rfl (Ef_callp WideF.wide (c3 _) ⟨rfl, trivial⟩ rfl ?_); refine ⟨Grow.same rfl rfl, ?_⟩) | (refine E_ef rfl (Ef_call (I := []) WideF.wide (c4 _ g) ⟨rfl, trivial⟩ rfl ?_); rintro v H4 I4 hle4 ⟨⟨cs', rfl, hs⟩, rfl⟩; refine ⟨⟨hle4, rfl⟩, ?_⟩); obtain ⟨sa', sn', sc', la', ln', lc', ca', cn', cc', va', vn', vc', rfl, -⟩ := hs.ex | refine O_nil ?_ | refine A_seq ?_ | refine A_region ?_ | refine A_ret ?_ | (show drJ _ _ _ _ _ _ _ (.q _ _) _; refine D_q rfl ?_) | (show drJ _ _ _ _ _ _ _ (.e _ _) _; refine D_e rfl ?_) | (show drJ _ _ _ _ _ _ _ (.done _) _; refine D_done ?_; simp only [List.cons_append, List.nil_append]) | (show drQ _ _ _ _ _ _; first | (show drQ _ _ _ ⟨_, .fieldAddr _ _ _, _, _, _, _⟩ _ _; refine D_ev rfl (Ev_fieldAddr rfl rfl rfl) rfl rfl ?_) | (show drQ _ _ _ ⟨_, .build _ _, _, _, _, _⟩ _ _; refine D_ev rfl (Ev_build (vs := [(_, _), (_, _), (_, _), (_, _)]) ⟨rfl, rfl, rfl, rfl, rfl, rfl, rfl, rfl, trivial⟩ rfl) rfl rfl ?_)) | (show opsA _ _ _ _ _ _ _; first | (show opsA _ _ _ _ (⟨_, .alloc _, _, _, _, _⟩ :: _) _ _; (refine O_ef rfl (Ef_alloc WideF.wide rfl ?_); intro b)) | (show opsA _ _ _ _ (⟨_, .store _ _ _, _, _, _, _⟩ :: _) _ _; refine O_ef rfl (Ef_storew WideF.wide rfl rfl rfl rfl rfl ?_))))
  all_goals first
    | exact End_e (RetC rfl rfl (i := 0) rfl rfl) ⟨⟨_, _, _, _, _, _, _, _, rfl, hs⟩, rfl⟩
    | trace_state

set_option maxRecDepth 100000 in
set_option maxHeartbeats 8000000 in
theorem clonePiece_fn {H : Hp} {cs : List Value} {p : Piece} (hx : PieceH H cs p) (hm : p.fine) : Fn Tryz.prog 24 [.agg cs.toArray] H [] fun v H' I' => (∃ cs', v = .agg cs'.toArray ∧ PieceH H' cs' p) ∧ I' = [] := by
  have hone := hx.one.2
  obtain ⟨ia, iN, ic, ra, rn, rc, ca, cn, cc, hcs, scs, rfl, p1, p2, p3, p4, p5⟩ := hx.ex
  obtain ⟨m1, m2⟩ := hm
  have c1 := fun Hx (h : HLe H Hx) => Clone_fr (p1.mono h) (by omega)
  have c2 := fun Hx (h : HLe H Hx) => CloneHead_fr (p4.mono h) (by omega)
  have c3 := fun Hx (h : HLe H Hx) => docClone_fn (p5.mono h) m2
  have q2 := p2.len
  have q3 := p3.len
  have hrl := massR_len p.rows
  have hcl := massC_len p.cells
  obtain ⟨qa, qn, qc, da, dn, dc, la, ln, lc, rfl, -⟩ := p4.ex
  obtain ⟨sa, sn, sc, ua, un, uc, ka, kn, kc, va, vn, vc, rfl, -⟩ := p5.ex
  refine Fn_of _ _ Tryz.func24 rfl Tryz.ntmps24 rfl fun c => ?_
  refine A_seq ?_
  repeat' (first | (refine O_ef rfl (Ef_boxa WideF.wide (cs := _ :: _ :: _ :: ([_, _, _, _, _] ++ [_, _, _, _])) rfl rfl ?_); intro b1; refine O_freezeBox hone ?_; intro H1 hle1 hb1; have g := hle1) | refine O_nil ?_ | refine A_seq ?_ | refine A_region ?_ | (show opsA _ _ _ _ _ _ _; (show opsA _ _ _ _ (⟨_, .alloc _, _, _, _, _⟩ :: _) _ _; (refine O_ef rfl (Ef_alloc WideF.wide rfl ?_); intro b))))
  refine A_cutu (fun st => ∃ (H5 : Hp) (b2 b3 : Nat) (oa : Option Addr) (on oc : Nat) (h1 h2 h3 h4 h5 s1 s2 s3 s4 : Value), HLe H H5 ∧ HLe H1 H5 ∧ FlowH H5 oa on oc p.items ∧ HeadH H5 [h1, h2, h3, h4, h5] p.head ∧ SettH H5 [s1, s2, s3, s4] p.sett ∧ st = ⟨51, [(1, .pointer (some ⟨b1, 0, none⟩)), (2, .pointer (some ⟨b2, 0, none⟩)), (3, .pointer (some ⟨b3, 0, none⟩))], H5, [.box b3 [.slice oa on oc, nilV, nilV, h1, h2, h3, h4, h5, s1, s2, s3, s4], .box b2 [nilV, nilV, nilV, nilV, .int .i64 0, .int .i64 0, nilV, nilV, nilV, nilV, nilV, nilV]], [], []⟩) ?_ ?_
  · have hb0 := hb1
    repeat' (first | (refine A_drawM WideF.wide (.q 0 (.q 1 (.q 3 (.q 4 (.q 6 (.q 7 (.q 8 (.f 2 (.f 5 (.f 9 (.q 10 (.q 11 (.e 12 (.e 13 (.done []))))) 12 (.e 9 (.q 10 (.q 11 (.e 13 (.done [])))))) 12 (.e 5 (.e 9 (.q 10 (.q 11 (.e 13 (.done []))))))) 12 (.e 2 (.e 5 (.e 9 (.q 10 (.q 11 (.e 13 (.done []))))))))))))))) [] (by decide +kernel) ?_) | (show drQ _ _ _ ⟨_, .load _ _, _, _, _, _⟩ _ _; first | refine D_ev rfl (Ev_loadH1 rfl (hb0 0 _ rfl)) rfl rfl ?_ | refine D_ev rfl (Ev_loadH rfl (hb0.sub 3 5) rfl) rfl rfl ?_ | refine D_ev rfl (Ev_loadH rfl (hb0.sub 8 4) rfl) rfl rfl ?_) | (refine E_ef rfl (Ef_call (I := []) WideF.wide (c1 _ g) ⟨rfl, trivial⟩ rfl ?_); rintro v H2 I2 hle2 ⟨⟨oa, on, oc, rfl, f1⟩, rfl⟩; refine ⟨⟨hle2, rfl⟩, ?_⟩); replace f1 := FlowH.mono Hd_le f1; have hb0 := hb0.mono hle2; have g := g.trans hle2 | (refine E_ef rfl (Ef_call (I := []) WideF.wide (c2 _ g) ⟨rfl, trivial⟩ rfl ?_); rintro v H3 I3 hle3 ⟨⟨pa', pn', pc', da', dn', dc', qa', qn', qc', rfl, f2, f3, f4⟩, rfl⟩; refine ⟨⟨hle3, rfl⟩, ?_⟩); have f2 := f2.mono Hd_le; have f3 := f3.mono Hd_le; have f4 := f4.mono Hd_le; have f1 := FlowH.mono hle3 f1; have hb0 := hb0.mono hle3; have g := g.trans hle3 | (refine D_ev rfl (Ev_build (vs := [(3, .agg [_, _, _, _].toArray)]) ⟨rfl, rfl, trivial⟩ rfl) rfl rfl ?_) | (refine D_ev rfl (Ev_fieldn rfl rfl) rfl rfl ?_) | (refine E_ef rfl (Ef_call (I := []) WideF.wide (c3 _ g) ⟨rfl, trivial⟩ rfl ?_); rintro v H4 I4 hle4 ⟨⟨f, h1, h2, h3, h4, h5, r, cs', rfl, hs⟩, rfl⟩; refine ⟨⟨hle4, rfl⟩, ?_⟩); obtain ⟨sa', sn', sc', ta', tn', tc', ca', cn', cc', va', vn', vc', rfl, -⟩ := hs.ex; have f1 := FlowH.mono hle4 f1; have f2 := f2.mono hle4; have f3 := f3.mono hle4; have f4 := f4.mono hle4; have g := g.trans hle4 | refine O_nil ?_ | (show drJ _ _ _ _ _ _ _ (.q _ _) _; refine D_q rfl ?_) | (show drJ _ _ _ _ _ _ _ (.e _ _) _; refine D_e rfl ?_) | (show drJ _ _ _ _ _ _ _ (.f _ _ _ _) _; refine D_f rfl rfl ?_ ?_) | (show drJ _ _ _ _ _ _ _ (.done _) _; refine D_done ?_; simp only [List.cons_append, List.nil_append]) | (show drQ _ _ _ _ _ _; first | (show drQ _ _ _ ⟨_, .fieldAddr _ _ _, _, _, _, _⟩ _ _; refine D_ev rfl (Ev_fieldAddr rfl rfl rfl) rfl rfl ?_) | (show drQ _ _ _ ⟨_, .build _ _, _, _, _, _⟩ _ _; refine D_ev rfl (Ev_build (vs := [(_, _), (_, _), (_, _)]) ⟨rfl, rfl, rfl, rfl, rfl, rfl, trivial⟩ rfl) rfl rfl ?_)) | (show drE _ _ _ _ _ _ _; first | (show drE _ _ _ _ ⟨_, .alloc _, _, _, _, _⟩ _ _; (refine E_ef rfl (Ef_alloc WideF.wide rfl ?_); intro b; refine ⟨Grow.same rfl rfl, ?_⟩)) | (show drE _ _ _ _ ⟨_, .store _ _ _, _, _, _, _⟩ _ _; (refine E_ef rfl (Ef_storew WideF.wide rfl rfl rfl rfl rfl ?_); refine ⟨Grow.same rfl rfl, ?_⟩))))
    all_goals first
      | exact Shift.to ⟨_, _, _, _, _, _, _, _, _, _, _, _, _, _, _, g, (hle2.trans hle3).trans hle4, f1, ⟨⟨_, _, _, _, _, _, _, _, _, rfl, f2, f3, f4⟩⟩, hs, rfl⟩ ⟨rfl, rfl, rfl, ⟨rfl, rfl, rfl, trivial⟩, Own.subi [0, 1] (by decide) rfl rfl⟩
      | trace_state
  clear g
  rintro st ⟨H5, b2, b3, oa, on, oc, h1, h2, h3, h4, h5, s1, s2, s3, s4, g, g1, f1, f2, f3, rfl⟩
  have hb1 := hb1.mono g1

  repeat' (first | (refine O_ev WideF.wide rfl (Ev_loadH1 rfl (hb1 1 _ rfl)) rfl rfl ?_) | refine O_nil ?_ | refine A_seq ?_ | refine A_region ?_ | refine A_block ?_ | (show opsA _ _ _ _ _ _ _; first | refine O_ev WideF.wide rfl (Ev_pure rfl) rfl rfl ?_ | (show opsA _ _ _ _ (⟨_, .fieldAddr _ _ _, _, _, _, _⟩ :: _) _ _; refine O_ev WideF.wide rfl (Ev_fieldAddr rfl rfl rfl) rfl rfl ?_) | (show opsA _ _ _ _ (⟨_, .call _, _, _, _, _⟩ :: _) _ _; refine O_ev WideF.wide rfl (Ev_llen rfl) rfl rfl ?_)))
  refine A_nilrow 6 ?_
  refine A_loopu (fun q st => ∃ (H6 : Hp) (i : Nat) (wa : Option Addr) (wn wc : Nat) (css : List (List Value)), q = rn - i ∧ i ≤ rn ∧ HLe H5 H6 ∧ css.length = wn ∧ All2 (RowH H6) css (p.rows.take i) ∧ st = ⟨51, [(1, .pointer (some ⟨b1, 0, none⟩)), (2, .pointer (some ⟨b2, 0, none⟩)), (3, .pointer (some ⟨b3, 0, none⟩)), (21, .slice ra rn rc), (22, .int .i64 rn), (23, .int .i64 i)], H6, [.row (.slice wa wn wc) 6 css, .box b3 [.slice oa on oc, .slice wa wn wc, nilV, h1, h2, h3, h4, h5, s1, s2, s3, s4], .box b2 [nilV, nilV, nilV, nilV, .int .i64 0, .int .i64 0, nilV, nilV, nilV, nilV, nilV, nilV]], [], []⟩) ?_ ?_
  · exact Shift.to ⟨_, H5, 0, none, 0, 0, [], rfl, by omega, HLe.refl _, rfl, .nil, rfl⟩ ⟨rfl, rfl, rfl, ⟨rfl, rfl, rfl, rfl, rfl, rfl, trivial⟩, Own.subi [0, 1, 2] (by decide) rfl rfl⟩
  rintro q st ⟨H6, i, wa, wn, wc, css, rfl, hi, hle6, hcl1, hR, rfl⟩
  have hRl := hR.length
  rw [List.length_take] at hRl
  by_cases hlt : i < rn
  · obtain ⟨bb, bo, rcs, y, rfl, hy, hyc, hyk, hc⟩ := (p2.mono (g.trans hle6)).at i hlt
    have hmm := massR_mem' (List.mem_of_getElem? hy)
    have ck := CloneRow_fr (Clone_all (massR p.rows + 1)) hyc (by omega) (by omega)
    obtain ⟨pa, pn, pc, ea, en, ec, fa, fn, fc, ga, gn, gc, rfl, -⟩ := hyc.cells
    have htk := take_get hy
    repeat' (first | (refine O_ev WideF.wide rfl (Ev_loadH rfl hc rfl) rfl rfl ?_) | (refine A_drawM WideF.wide (.q 0 (.f 1 (.e 2 (.e 3 (.e 4 (.e 5 (.q 6 (.e 7 (.done []))))))) 2 (.f 1 (.e 3 (.e 4 (.e 5 (.q 6 (.e 7 (.done [])))))) 3 (.f 1 (.e 4 (.e 5 (.q 6 (.e 7 (.done []))))) 4 (.e 1 (.e 5 (.q 6 (.e 7 (.done []))))))))) [] (by decide +kernel) ?_) | (refine E_ef rfl (Ef_ev WideF.wide (Ev_loadB (i := 0) rfl rfl rfl) rfl rfl ?_); refine ⟨Grow.same rfl rfl, ?_⟩) | (refine E_ef rfl (Ef_ev WideF.wide (Ev_loadB1 (i := 2) rfl rfl rfl) rfl rfl ?_); refine ⟨Grow.same rfl rfl, ?_⟩) | (refine E_ef rfl (Ef_ev WideF.wide (Ev_loadB1 (i := 3) rfl rfl rfl) rfl rfl ?_); refine ⟨Grow.same rfl rfl, ?_⟩) | (refine E_ef rfl (Ef_call (I := []) WideF.wide (ck) ⟨rfl, trivial⟩ rfl ?_); rintro v H7 I7 hle7 ⟨⟨cs', rfl, hr'⟩, rfl⟩; refine ⟨⟨hle7, rfl⟩, ?_⟩); obtain ⟨pa', pn', pc', ea', en', ec', fa', fn', fc', ga', gn', gc', rfl, -⟩ := RowH.cells hr' | refine O_nil ?_ | refine A_seq ?_ | refine A_region ?_ | refine A_skip ?_ | refine A_block ?_ | (show drJ _ _ _ _ _ _ _ (.q _ _) _; refine D_q rfl ?_) | (show drJ _ _ _ _ _ _ _ (.e _ _) _; refine D_e rfl ?_) | (show drJ _ _ _ _ _ _ _ (.f _ _ _ _) _; refine D_f rfl rfl ?_ ?_) | (show drJ _ _ _ _ _ _ _ (.done _) _; refine D_done ?_; simp only [List.cons_append, List.nil_append]) | (show drQ _ _ _ _ _ _; (show drQ _ _ _ ⟨_, .fieldAddr _ _ _, _, _, _, _⟩ _ _; refine D_ev rfl (Ev_fieldAddr rfl rfl rfl) rfl rfl ?_)) | (show drE _ _ _ _ _ _ _; first | (show drE _ _ _ _ ⟨_, .call _, _, _, _, _⟩ _ _; (refine E_ef rfl (Ef_f2 (Ef_appendR WideF.wide rfl rfl rfl rfl rfl (by simp; omega) (by simp; omega) rfl ?_)); intro a cp; refine ⟨Grow.same rfl rfl, ?_⟩)) | (show drE _ _ _ _ ⟨_, .buildSlice _ _ _, _, _, _, _⟩ _ _; (refine E_ef rfl (Ef_build1a WideF.wide rfl rfl rfl rfl rfl ?_); intro b; refine ⟨Grow.same rfl rfl, ?_⟩)) | (show drE _ _ _ _ ⟨_, .store _ _ _, _, _, _, _⟩ _ _; (refine E_ef rfl (Ef_f2 (Ef_store1 WideF.wide rfl rfl rfl rfl rfl ?_)); refine ⟨Grow.same rfl rfl, ?_⟩))) | (show opsA _ _ _ _ _ _ _; first | refine O_ev WideF.wide rfl (Ev_pure rfl) rfl rfl ?_ | (show opsA _ _ _ _ (⟨_, .indexAddr _ _ _, _, _, _, _⟩ :: _) _ _; refine O_ev WideF.wide rfl (Ev_indexAddr rfl rfl (by omega) (by omega)) rfl rfl ?_) | (show opsA _ _ _ _ (⟨_, .binOp _ _ _ _ _, _, _, _, _⟩ :: _) _ _; refine O_ev WideF.wide rfl (Ev_add rfl rfl (wi64 (by omega))) rfl rfl ?_) | (show opsA _ _ _ _ (⟨_, .alloc _, _, _, _, _⟩ :: _) _ _; (refine O_ef rfl (Ef_alloc WideF.wide rfl ?_); intro b)) | (show opsA _ _ _ _ (⟨_, .store _ _ _, _, _, _, _⟩ :: _) _ _; refine O_ef rfl (Ef_storew WideF.wide rfl rfl rfl rfl rfl ?_))) | (show wpA _ _ _ (.cond _ _ _) _ _ _ _; (refine A_if rfl (fun h => ?_) (fun h => ?_) <;> try (exfalso; omega))))
    all_goals first
      | (refine Shift.to ⟨_, by omega, H7, i + 1, _, _, _, _, rfl, by omega, hle6.trans hle7, rfl, ?_, rfl⟩ ⟨rfl, rfl, rfl, ⟨rfl, rfl, rfl, rfl, rfl, rfl, trivial⟩, Own.subi [1, 0, 2] (by decide) rfl rfl⟩
         rw [htk]
         exact (hR.mono fun _ _ h => h.mono hle7).append (.one (hr'.mono Hd_le)))
      | (refine Shift.to ⟨_, by omega, H7, i + 1, _, _, _, _, rfl, by omega, hle6.trans hle7, rfl, ?_, rfl⟩ ⟨rfl, rfl, rfl, ⟨rfl, rfl, rfl, rfl, rfl, rfl, trivial⟩, Own.subi [1, 0, 3] (by decide) rfl rfl⟩
         rw [htk]
         exact (hR.mono fun _ _ h => h.mono hle7).append (.one (hr'.mono Hd_le)))
      | trace_state
  · obtain rfl : rn = i := by omega
    rw [List.take_of_length_le (by omega)] at hR
    refine A_freeze (hR.ones1 fun _ _ h => h.one) ?_
    intro H7 hle7 hr7
    have rowsOk : RowsS H7 wa wn wc p.rows := ⟨css, hr7, hR.mono fun _ _ h => h.mono hle7⟩
    have g7 := g.trans (hle6.trans hle7)
    have hb2 := hb1.mono (hle6.trans hle7)
    clear hr7 hR hRl hcl1
    repeat' (first | (refine O_ev WideF.wide rfl (Ev_loadH1 rfl (hb2 2 _ rfl)) rfl rfl ?_) | refine O_nil ?_ | refine A_seq ?_ | refine A_region ?_ | refine A_block ?_ | (show opsA _ _ _ _ _ _ _; first | refine O_ev WideF.wide rfl (Ev_pure rfl) rfl rfl ?_ | (show opsA _ _ _ _ (⟨_, .fieldAddr _ _ _, _, _, _, _⟩ :: _) _ _; refine O_ev WideF.wide rfl (Ev_fieldAddr rfl rfl rfl) rfl rfl ?_) | (show opsA _ _ _ _ (⟨_, .call _, _, _, _, _⟩ :: _) _ _; refine O_ev WideF.wide rfl (Ev_llen rfl) rfl rfl ?_)) | (show wpA _ _ _ (.exit _) _ _ _ _; refine A_exit rfl ?_) | (show wpA _ _ _ (.cond _ _ _) _ _ _ _; (refine A_if rfl (fun h => ?_) (fun h => ?_) <;> try (exfalso; omega))))
    refine A_nilrow 7 ?_
    refine A_loopu (fun q st => ∃ (H8 : Hp) (i : Nat) (ya : Option Addr) (yn yc : Nat) (css : List (List Value)), q = cn - i ∧ i ≤ cn ∧ HLe H7 H8 ∧ css.length = yn ∧ All2 (CellH H8) css (p.cells.take i) ∧ st = ⟨51, [(2, .pointer (some ⟨b2, 0, none⟩)), (3, .pointer (some ⟨b3, 0, none⟩)), (36, .slice ca cn cc), (37, .int .i64 cn), (38, .int .i64 i)], H8, [.row (.slice ya yn yc) 7 css, .box b3 [.slice oa on oc, .slice wa wn wc, .slice ya yn yc, h1, h2, h3, h4, h5, s1, s2, s3, s4], .box b2 [nilV, nilV, nilV, nilV, .int .i64 0, .int .i64 0, nilV, nilV, nilV, nilV, nilV, nilV]], [], []⟩) ?_ ?_
    · exact Shift.to ⟨_, H7, 0, none, 0, 0, [], rfl, by omega, HLe.refl _, rfl, .nil, rfl⟩ ⟨rfl, rfl, rfl, ⟨rfl, rfl, rfl, rfl, rfl, trivial⟩, Own.subi [0, 1, 2] (by decide) rfl rfl⟩
    rintro q st ⟨H8, i, ya, yn, yc, css, rfl, hi, hle8, hcl1, hR, rfl⟩
    have hRl := hR.length
    rw [List.length_take] at hRl
    by_cases hlt : i < cn
    · obtain ⟨bb, bo, rcs, y, rfl, hy, hyc, hyk, hc⟩ := (p3.mono (g7.trans hle8)).at i hlt
      have hmm := massC_mem' (List.mem_of_getElem? hy)
      have ck := CloneCell_fr (Clone_all (massC p.cells + 1)) hyc (by omega) (by omega)
      obtain ⟨pa, pn, pc, ea, en, ec, fa, fn, fc, ga, gn, gc, rfl, -⟩ := hyc.cells
      have htk := take_get hy
      repeat' (first | (refine O_ev WideF.wide rfl (Ev_loadH rfl hc rfl) rfl rfl ?_) | (refine A_drawM WideF.wide (.q 0 (.f 1 (.e 2 (.e 3 (.e 4 (.e 5 (.q 6 (.e 7 (.done []))))))) 2 (.f 1 (.e 3 (.e 4 (.e 5 (.q 6 (.e 7 (.done [])))))) 3 (.f 1 (.e 4 (.e 5 (.q 6 (.e 7 (.done []))))) 4 (.e 1 (.e 5 (.q 6 (.e 7 (.done []))))))))) [] (by decide +kernel) ?_) | (refine E_ef rfl (Ef_ev WideF.wide (Ev_loadB (i := 0) rfl rfl rfl) rfl rfl ?_); refine ⟨Grow.same rfl rfl, ?_⟩) | (refine E_ef rfl (Ef_ev WideF.wide (Ev_loadB1 (i := 2) rfl rfl rfl) rfl rfl ?_); refine ⟨Grow.same rfl rfl, ?_⟩) | (refine E_ef rfl (Ef_ev WideF.wide (Ev_loadB1 (i := 3) rfl rfl rfl) rfl rfl ?_); refine ⟨Grow.same rfl rfl, ?_⟩) | (refine E_ef rfl (Ef_call (I := []) WideF.wide (ck) ⟨rfl, trivial⟩ rfl ?_); rintro v H9 I9 hle9 ⟨⟨cs', rfl, hr'⟩, rfl⟩; refine ⟨⟨hle9, rfl⟩, ?_⟩); obtain ⟨pa', pn', pc', ea', en', ec', fa', fn', fc', ga', gn', gc', rfl, -⟩ := CellH.cells hr' | refine O_nil ?_ | refine A_seq ?_ | refine A_region ?_ | refine A_skip ?_ | refine A_block ?_ | (show drJ _ _ _ _ _ _ _ (.q _ _) _; refine D_q rfl ?_) | (show drJ _ _ _ _ _ _ _ (.e _ _) _; refine D_e rfl ?_) | (show drJ _ _ _ _ _ _ _ (.f _ _ _ _) _; refine D_f rfl rfl ?_ ?_) | (show drJ _ _ _ _ _ _ _ (.done _) _; refine D_done ?_; simp only [List.cons_append, List.nil_append]) | (show drQ _ _ _ _ _ _; (show drQ _ _ _ ⟨_, .fieldAddr _ _ _, _, _, _, _⟩ _ _; refine D_ev rfl (Ev_fieldAddr rfl rfl rfl) rfl rfl ?_)) | (show drE _ _ _ _ _ _ _; first | (show drE _ _ _ _ ⟨_, .call _, _, _, _, _⟩ _ _; (refine E_ef rfl (Ef_f2 (Ef_appendR WideF.wide rfl rfl rfl rfl rfl (by simp; omega) (by simp; omega) rfl ?_)); intro a cp; refine ⟨Grow.same rfl rfl, ?_⟩)) | (show drE _ _ _ _ ⟨_, .buildSlice _ _ _, _, _, _, _⟩ _ _; (refine E_ef rfl (Ef_build1a WideF.wide rfl rfl rfl rfl rfl ?_); intro b; refine ⟨Grow.same rfl rfl, ?_⟩)) | (show drE _ _ _ _ ⟨_, .store _ _ _, _, _, _, _⟩ _ _; (refine E_ef rfl (Ef_f2 (Ef_store1 WideF.wide rfl rfl rfl rfl rfl ?_)); refine ⟨Grow.same rfl rfl, ?_⟩))) | (show opsA _ _ _ _ _ _ _; first | refine O_ev WideF.wide rfl (Ev_pure rfl) rfl rfl ?_ | (show opsA _ _ _ _ (⟨_, .indexAddr _ _ _, _, _, _, _⟩ :: _) _ _; refine O_ev WideF.wide rfl (Ev_indexAddr rfl rfl (by omega) (by omega)) rfl rfl ?_) | (show opsA _ _ _ _ (⟨_, .binOp _ _ _ _ _, _, _, _, _⟩ :: _) _ _; refine O_ev WideF.wide rfl (Ev_add rfl rfl (wi64 (by omega))) rfl rfl ?_) | (show opsA _ _ _ _ (⟨_, .alloc _, _, _, _, _⟩ :: _) _ _; (refine O_ef rfl (Ef_alloc WideF.wide rfl ?_); intro b)) | (show opsA _ _ _ _ (⟨_, .store _ _ _, _, _, _, _⟩ :: _) _ _; refine O_ef rfl (Ef_storew WideF.wide rfl rfl rfl rfl rfl ?_))) | (show wpA _ _ _ (.cond _ _ _) _ _ _ _; (refine A_if rfl (fun h => ?_) (fun h => ?_) <;> try (exfalso; omega))))
      all_goals first
        | (refine Shift.to ⟨_, by omega, H9, i + 1, _, _, _, _, rfl, by omega, hle8.trans hle9, rfl, ?_, rfl⟩ ⟨rfl, rfl, rfl, ⟨rfl, rfl, rfl, rfl, rfl, trivial⟩, Own.subi [1, 0, 2] (by decide) rfl rfl⟩
           rw [htk]
           exact (hR.mono fun _ _ h => h.mono hle9).append (.one (hr'.mono Hd_le)))
        | (refine Shift.to ⟨_, by omega, H9, i + 1, _, _, _, _, rfl, by omega, hle8.trans hle9, rfl, ?_, rfl⟩ ⟨rfl, rfl, rfl, ⟨rfl, rfl, rfl, rfl, rfl, trivial⟩, Own.subi [1, 0, 3] (by decide) rfl rfl⟩
           rw [htk]
           exact (hR.mono fun _ _ h => h.mono hle9).append (.one (hr'.mono Hd_le)))
        | trace_state
    · obtain rfl : cn = i := by omega
      rw [List.take_of_length_le (by omega)] at hR
      refine A_freeze (hR.ones1 fun _ _ h => h.one) ?_
      intro H9 hle9 hr9
      have cellsOk : CellsS H9 ya yn yc p.cells := ⟨css, hr9, hR.mono fun _ _ h => h.mono hle9⟩
      have gg := (hle6.trans hle7).trans (hle8.trans hle9)
      obtain ⟨x1, x2, x3, x4, x5, x6, x7, x8, x9, x10, x11, x12⟩ : h1.oneCell' = true ∧ h2.oneCell' = true ∧ h3.oneCell' = true ∧ h4.oneCell' = true ∧ h5.oneCell' = true ∧ s1.oneCell' = true ∧ s2.oneCell' = true ∧ s3.oneCell' = true ∧ s4.oneCell' = true ∧ True ∧ True ∧ True := by
        obtain ⟨_, _, _, _, _, _, _, _, _, e1, -⟩ := f2.ex
        obtain ⟨_, _, _, _, _, _, _, _, _, _, _, _, e2, -⟩ := f3.ex
        cases e1; cases e2
        exact ⟨rfl, rfl, rfl, rfl, rfl, rfl, rfl, rfl, rfl, trivial, trivial, trivial⟩
      have hall : [.slice oa on oc, .slice wa wn wc, .slice ya yn yc, h1, h2, h3, h4, h5, s1, s2, s3, s4].all (·.oneCell') = true := by
        refine List.all_eq_true.2 fun u hu => ?_
        simp only [List.mem_cons, List.not_mem_nil, or_false] at hu
        rcases hu with rfl | rfl | rfl | rfl | rfl | rfl | rfl | rfl | rfl | rfl | rfl | rfl
        all_goals first | rfl | assumption
      repeat' (first | (refine O_f1 (O_ef rfl (Ef_storew WideF.wide rfl rfl rfl hall rfl ?_))) | refine O_nil ?_ | refine A_seq ?_ | refine A_region ?_ | refine A_ret ?_ | (show opsA _ _ _ _ _ _ _; first | refine O_ev WideF.wide rfl (Ev_pure rfl) rfl rfl ?_ | (show opsA _ _ _ _ (⟨_, .load _ _, _, _, _, _⟩ :: _) _ _; refine O_ev WideF.wide rfl (Ev_loadB (i := 0) rfl rfl rfl) rfl rfl ?_)) | (show wpA _ _ _ (.exit _) _ _ _ _; refine A_exit rfl ?_) | (show wpA _ _ _ (.cond _ _ _) _ _ _ _; (refine A_if rfl (fun h => ?_) (fun h => ?_) <;> try (exfalso; omega))))
      refine End_e (RetC rfl rfl (i := 0) rfl rfl) ⟨⟨_, rfl, ⟨oa, on, oc, wa, wn, wc, ya, yn, yc, [h1, h2, h3, h4, h5], [s1, s2, s3, s4], rfl, f1.mono gg, rowsOk.mono (hle8.trans hle9), cellsOk, f2.mono gg, f3.mono gg⟩⟩, rfl⟩
theorem spOnes {a b c d : Int} {l1 l2 : List Value} (h1 : ∀ u ∈ l1, u.oneCell' = true) (h2 : ∀ u ∈ l2, u.oneCell' = true) : ∀ u ∈ .int .i64 a :: .int .i64 b :: .int .i64 c :: .int .i64 d :: (l1 ++ l2), Value.oneCell' u = true := by
  intro u hu
  simp only [List.mem_cons, List.mem_append] at hu
  rcases hu with rfl | rfl | rfl | rfl | hu | hu
  · rfl
  · rfl
  · rfl
  · rfl
  · exact h1 u hu
  · exact h2 u hu
set_option maxRecDepth 100000 in
set_option maxHeartbeats 4000000 in
theorem spClone_fn {H : Hp} {cs : List Value} {s : Splice} (hx : SplH H cs s) (hm : s.fine) : Fn Tryz.prog 15 [.agg cs.toArray] H [] fun v H' I' => (∃ cs', v = .agg cs'.toArray ∧ SplH H' cs' s) ∧ I' = [] := by
  obtain ⟨ocs, ncs, rfl, p1, p2⟩ := hx.ex
  have c1 := fun Hx (h : HLe H Hx) => clonePiece_fn (p1.mono h) hm.1
  have c2 := fun Hx (h : HLe H Hx) => clonePiece_fn (p2.mono h) hm.2
  obtain ⟨o1, o2, o3, o4, o5, o6, o7, o8, o9, o10, o11, o12, rfl⟩ := list12 p1.one.1
  obtain ⟨u1, u2, u3, u4, u5, u6, u7, u8, u9, u10, u11, u12, rfl⟩ := list12 p2.one.1
  have g := HLe.refl H
  have h12 : ∀ (l : List Value), (∀ u ∈ l, u.oneCell' = true) → l.all (·.oneCell') = true := fun l h => List.all_eq_true.2 h
  refine Fn_of _ _ Tryz.func15 rfl Tryz.ntmps15 rfl fun c => ?_
  repeat' (first | (refine A_drawM WideF.wide (.q 0 (.q 3 (.f 1 (.f 2 (.e 4 (.q 6 (.e 5 (.e 7 (.q 8 (.e 9 (.done []))))))) 4 (.e 2 (.q 6 (.e 5 (.e 7 (.q 8 (.e 9 (.done [])))))))) 4 (.e 1 (.e 2 (.q 6 (.e 5 (.e 7 (.q 8 (.e 9 (.done []))))))))))) [] (by decide +kernel) ?_) | (refine E_ef rfl (Ef_ev WideF.wide (Ev_loadBs (i := 1) rfl rfl rfl rfl) rfl rfl ?_); refine ⟨Grow.same rfl rfl, ?_⟩) | (refine E_ef rfl (Ef_call (I := []) WideF.wide (c1 _ g) ⟨rfl, trivial⟩ rfl ?_); rintro v H1 I1 hle1 ⟨⟨cs1, rfl, r1⟩, rfl⟩; refine ⟨⟨hle1, rfl⟩, ?_⟩); have g := g.trans hle1; have y1 := r1.one; obtain ⟨a1, a2, a3, a4, a5, a6, a7, a8, a9, a10, a11, a12, rfl⟩ := list12 y1.1 | (refine E_ef rfl (Ef_call (I := []) WideF.wide (c2 _ g) ⟨rfl, trivial⟩ rfl ?_); rintro v H2 I2 hle2 ⟨⟨cs2, rfl, r2⟩, rfl⟩; refine ⟨⟨hle2, rfl⟩, ?_⟩); have g := g.trans hle2; have y2 := r2.one; obtain ⟨d1, d2, d3, d4, d5, d6, d7, d8, d9, d10, d11, d12, rfl⟩ := list12 y2.1 | (refine E_ef rfl (Ef_f1 (Ef_storea WideF.wide rfl rfl rfl (h12 _ (by first | exact y1.2 | exact y2.2)) rfl rfl ?_)); refine ⟨Grow.same rfl rfl, ?_⟩) | (refine E_ef rfl (Ef_storea WideF.wide rfl rfl rfl (h12 _ (by first | exact y1.2 | exact y2.2)) rfl rfl ?_); refine ⟨Grow.same rfl rfl, ?_⟩) | (refine O_f1 (O_ef rfl (Ef_storew WideF.wide rfl rfl rfl (h12 _ ?_) rfl ?_))) | refine O_nil ?_ | refine A_seq ?_ | refine A_region ?_ | refine A_ret ?_ | (show drJ _ _ _ _ _ _ _ (.q _ _) _; refine D_q rfl ?_) | (show drJ _ _ _ _ _ _ _ (.e _ _) _; refine D_e rfl ?_) | (show drJ _ _ _ _ _ _ _ (.f _ _ _ _) _; refine D_f rfl rfl ?_ ?_) | (show drJ _ _ _ _ _ _ _ (.done _) _; refine D_done ?_; simp only [List.cons_append, List.nil_append]) | (show drQ _ _ _ _ _ _; (show drQ _ _ _ ⟨_, .fieldAddr _ _ _, _, _, _, _⟩ _ _; refine D_ev rfl (Ev_fieldAddr rfl rfl rfl) rfl rfl ?_)) | (show opsA _ _ _ _ _ _ _; first | (show opsA _ _ _ _ (⟨_, .load _ _, _, _, _, _⟩ :: _) _ _; refine O_ev WideF.wide rfl (Ev_loadB (i := 0) rfl rfl rfl) rfl rfl ?_) | (show opsA _ _ _ _ (⟨_, .alloc _, _, _, _, _⟩ :: _) _ _; (refine O_ef rfl (Ef_alloc WideF.wide rfl ?_); intro b)) | (show opsA _ _ _ _ (⟨_, .box _ _, _, _, _, _⟩ :: _) _ _; (refine O_ef rfl (Ef_boxa WideF.wide rfl rfl ?_); intro b))))
  all_goals first
    | (show ∀ u ∈ .int .i64 s.kind :: .int .i64 s.id :: .int .i64 s.at_ :: .int .i64 s.sub :: ([a1, a2, a3, a4, a5, a6, a7, a8, a9, a10, a11, a12] ++ [d1, d2, d3, d4, d5, d6, d7, d8, d9, d10, d11, d12]), Value.oneCell' u = true; exact spOnes y1.2 y2.2)
    | exact End_e (RetC rfl rfl (i := 0) rfl rfl) ⟨⟨_, rfl, ⟨⟨[a1, a2, a3, a4, a5, a6, a7, a8, a9, a10, a11, a12], [d1, d2, d3, d4, d5, d6, d7, d8, d9, d10, d11, d12], rfl, r1.mono hle2, r2⟩⟩⟩, rfl⟩
    | exact End_e (RetC rfl rfl (i := 1) rfl rfl) ⟨⟨_, rfl, ⟨⟨[a1, a2, a3, a4, a5, a6, a7, a8, a9, a10, a11, a12], [d1, d2, d3, d4, d5, d6, d7, d8, d9, d10, d11, d12], rfl, r1.mono hle2, r2⟩⟩⟩, rfl⟩
    | trace_state

end Go.Proofs.YtofkolbnhcckkaaGreat
