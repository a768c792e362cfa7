/-
  MarkBases.
-/
import Derived.Test.YthniohgeojenaaaS4
import Derived.Test.YthniohgeojenaaaM22
import Derived.Test.YthniohgeojenaaaM17
namespace Go.Proofs.Ythniohgeojenaaa
open Go
set_option linter.unusedVariables false
set_option linter.unusedSimpArgs false
attribute [local irreducible] wpA opsA drJ drQ drE Ef Ev Shift Fn
set_option maxRecDepth 100000 in
set_option maxHeartbeats 8000000 in
theorem MarkBases_fn {H : Hp} {hcs : List Value} {q : Head} {key rev : Int} (hh : HeadH H hcs q) (hl : q.mass < 1073741824) :
    Fn Try.prog 10 [.agg hcs.toArray, .int .i64 key, .int .i64 rev] H [] fun v _ I' => v = .bool true ∧ I' = [] := by
  obtain ⟨pa, pn, pc, da, dn, dc, la, ln, lc, rfl, h1, h2, h3⟩ := hh.ex
  have hord := ordered_fn hh hl
  refine Fn_of _ _ Try.func10 rfl Try.ntmps10 rfl fun c => ?_
  refine A_seq ?_
  refine A_cutu (fun s => ∃ b3, s = ⟨87, [(1, .int .i64 key), (2, .int .i64 rev), (3, ptr b3), (6, .bool false)], H, [.box b3 [.slice pa pn pc, .int .i64 q.ins, .int .i64 q.move, .slice da dn dc, .slice la ln lc]], [], []⟩) ?_ ?_
  · repeat' (first | refine O_nil ?_ | refine A_region ?_ | (show opsA _ _ _ _ _ _ _; first | refine O_ev WideF.wide rfl (Ev_pure rfl) rfl rfl ?_ | (show opsA _ _ _ _ (⟨_, .box _ _, _, _, _, _⟩ :: _) _ _; (refine O_ef rfl (Ef_boxa WideF.wide rfl rfl ?_); intro b))))
    exact Shift.to ⟨_, rfl⟩ ⟨rfl, rfl, rfl, ⟨rfl, rfl, rfl, rfl, trivial⟩, Own.subi [0] (by decide) rfl rfl⟩
  rintro s ⟨b3, rfl⟩
  refine A_seq ?_
  refine A_cutu (fun s => ∃ (H1 : Hp) (cs1 : List Value), HeadH H1 cs1 (ordH q) ∧ s = ⟨87, [(1, .int .i64 key), (2, .int .i64 rev), (3, ptr b3), (6, .bool false)], H1, [.box b3 cs1], [], []⟩) ?_ ?_
  · repeat' (first | (refine O_ef rfl (Ef_call (I := []) WideF.wide hord ⟨rfl, trivial⟩ rfl ?_); rintro v H1 I1 hle1 ⟨⟨cs1, rfl, hcs1⟩, rfl⟩; obtain ⟨pa1, pn1, pc1, da1, dn1, dc1, la1, ln1, lc1, rfl, h11, h21, h31⟩ := hcs1.ex) | refine O_nil ?_ | refine A_region ?_ | (show opsA _ _ _ _ _ _ _; first | (show opsA _ _ _ _ (⟨_, .load _ _, _, _, _, _⟩ :: _) _ _; refine O_ev WideF.wide rfl (Ev_loadB (i := 0) rfl rfl rfl) rfl rfl ?_) | (show opsA _ _ _ _ (⟨_, .store _ _ _, _, _, _, _⟩ :: _) _ _; refine O_ef rfl (Ef_storew WideF.wide rfl rfl rfl rfl rfl ?_))))
    exact Shift.to ⟨_, _, hcs1, rfl⟩ ⟨rfl, rfl, rfl, ⟨rfl, rfl, rfl, rfl, trivial⟩, Own.subi [0] (by decide) rfl rfl⟩
  rintro s ⟨H1, cs1, hcs1, rfl⟩
  have hgood := ordH_good q
  have hmass := ordH_mass q
  generalize ordH q = o at *
  obtain ⟨pa1, pn1, pc1, da1, dn1, dc1, la1, ln1, lc1, rfl, h11, h21, h31⟩ := hcs1.ex
  have l2 := h21.len
  have l3 := h31.len
  simp only [List.length_map] at l2 l3
  have hm := hmass
  unfold Head.mass at hm
  have hbase := Base_fn (k := key) hcs1 hgood.inc (by omega)
  have hlay := fun Hx (hx : HLe H1 Hx) => Layers_fn (k := key) (hcs1.mono hx) (by omega)
  have hllo := fun Hx (hx : HLe H1 Hx) => layersOf_fn (k := key) (hcs1.mono hx) (by omega)
  have hsta := fun Hx (hx : HLe H1 Hx) => states_fn (k := key) (hcs1.mono hx) hgood.inc (by omega)
  have hlrv := fun Hx (hx : HLe H1 Hx) => lawRevs_fn (hcs1.mono hx) (by omega)
  have hrv := fun Hx (hx : HLe H1 Hx) => Revs_fn (hcs1.mono hx) (by omega)
  have huse := fun Hx (hx : HLe H1 Hx) => Uses_fn (rev := rev) (hcs1.mono hx) (by omega)
  have hgl : (layersK o.layers key).length ≤ o.layers.length := List.length_filter_le _ _
  have hst0 := states_at (getP o.props key) (layersK o.layers key) 0 (by omega)
  rw [List.drop_zero] at hst0
  generalize hP : getP o.props key = P0 at *
  generalize hG : layersK o.layers key = g at *
  generalize hS : nxt P0 g = s0 at *
  have hr0 := revs0_len o
  have hrl : (revsL o).length ≤ 241 := by unfold revsL; simp; omega
  have hsl := sortI_len (revsL o)
  refine A_seq ?_
  refine A_cutu (fun s => ∃ (H2 : Hp), HLe H1 H2 ∧ s = ⟨87, [(7, .int .i64 s0.val), (8, .bool s0.set), (1, .int .i64 key), (2, .int .i64 rev), (3, ptr b3), (6, .bool false)], H2, [.box b3 [.slice pa1 pn1 pc1, .int .i64 o.ins, .int .i64 o.move, .slice da1 dn1 dc1, .slice la1 ln1 lc1]], [], []⟩) ?_ ?_
  · repeat' (first | (refine O_ef rfl (Ef_call (I := []) WideF.wide hbase ⟨rfl, rfl, trivial⟩ rfl ?_); rintro v H2 I2 hle2 ⟨rfl, rfl⟩) | refine O_nil ?_ | refine A_region ?_ | (show opsA _ _ _ _ _ _ _; first | refine O_ev WideF.wide rfl (Ev_pure rfl) rfl rfl ?_ | (show opsA _ _ _ _ (⟨_, .load _ _, _, _, _, _⟩ :: _) _ _; refine O_ev WideF.wide rfl (Ev_loadB (i := 0) rfl rfl rfl) rfl rfl ?_)))
    exact Shift.to ⟨_, hle2, rfl⟩ ⟨rfl, rfl, rfl, ⟨rfl, rfl, rfl, rfl, rfl, rfl, trivial⟩, Own.subi [0] (by decide) rfl rfl⟩
  rintro s ⟨H2, hle2, rfl⟩
  refine A_seq ?_
  refine A_cutu (fun s => ∃ (H3 : Hp) (ya : Option Addr) (yc : Nat) (za : Option Addr) (zc : Nat), HLe H1 H3 ∧ HRow H3 ya g.length yc 4 (g.map lrow) ∧ HRow H3 za g.length zc 4 (g.map lrow) ∧ s = ⟨87, [(9, .slice ya g.length yc), (10, .slice za g.length zc), (7, .int .i64 s0.val), (8, .bool s0.set), (1, .int .i64 key), (2, .int .i64 rev), (3, ptr b3), (6, .bool false)], H3, [.box b3 [.slice pa1 pn1 pc1, .int .i64 o.ins, .int .i64 o.move, .slice da1 dn1 dc1, .slice la1 ln1 lc1]], [], []⟩) ?_ ?_
  · (refine A_drawL WideF.wide (.q 0 (.q 1 (.q 3 (.q 4 (.e 2 (.e 5 (.q 6 (.q 7 (.done []))))))))) [] (by decide +kernel) ?_)
    repeat' (first | (refine E_ef rfl (Ef_call (I := []) WideF.wide (hlay _ hle2) ⟨rfl, rfl, trivial⟩ rfl ?_); rintro v H3 I3 hle3 ⟨⟨ya, yn, yc, rfl, hy⟩, rfl⟩; have hyn := hy.len; simp only [List.length_map] at hyn; subst hyn; refine ⟨⟨hle3, rfl⟩, ?_⟩) | (refine E_ef rfl (Ef_call (I := []) WideF.wide (hllo _ (hle2.trans hle3)) ⟨rfl, rfl, trivial⟩ rfl ?_); rintro v H4 I4 hle4 ⟨⟨za, zn, zc, rfl, hz⟩, rfl⟩; have hzn := hz.len; simp only [List.length_map] at hzn; subst hzn; refine ⟨⟨hle4, rfl⟩, ?_⟩) | refine O_nil ?_ | (show drJ _ _ _ _ _ _ _ (.q _ _) _; refine D_q rfl ?_) | (show drJ _ _ _ _ _ _ _ (.e _ _) _; refine D_e rfl ?_) | (show drJ _ _ _ _ _ _ _ (.done _) _; refine D_done ?_; simp only [List.cons_append, List.nil_append]) | (show drQ _ _ _ _ _ _; first | refine D_ev rfl (Ev_pure rfl) rfl rfl ?_ | (show drQ _ _ _ ⟨_, .load _ _, _, _, _, _⟩ _ _; refine D_ev rfl (Ev_loadB (i := 0) rfl rfl rfl) rfl rfl ?_)))
    all_goals exact Shift.to ⟨_, _, _, _, _, hle2.trans (hle3.trans hle4), hy.mono hle4, hz, rfl⟩ ⟨rfl, rfl, rfl, ⟨rfl, rfl, rfl, rfl, rfl, rfl, rfl, rfl, trivial⟩, Own.subi [0] (by decide) rfl rfl⟩
  rintro s ⟨H3, ya, yc, za, zc, hle13, hy, hz, rfl⟩
  have hss := fun Hx (ra : Option Addr) (rn rc : Nat) (ra' : Option Addr) (rn' rc' : Nat) (h : HRow Hx ra rn rc 1 ((sortI (revsL o)).map irow)) (h' : HRow Hx ra' rn' rc' 1 ((sortI (revsL o)).map irow)) => sameInts_fn h h' (by have := h.len; simp at this; omega)
  simp only [decide_true] at hss
  have hhas := fun Hx (ra : Option Addr) (rn rc : Nat) (h : HRow Hx ra rn rc 1 ((sortI (revsL o)).map irow)) => lhas_fn (x := rev) h (by have := h.len; simp at this; omega)
  rw [show decide (rev ∈ sortI (revsL o)) = decide (rev ∈ revsL o) from decide_eq_decide.2 sortI_mem] at hhas
  repeat' (first | (refine O_ef rfl (Ef_call (I := []) WideF.wide (hsta _ hle13) ⟨rfl, rfl, trivial⟩ rfl ?_); rintro v H4 I4 hle4 ⟨⟨sa, sn, sc, rfl, hsr⟩, rfl⟩; have hsn := hsr.len; simp only [List.length_map, List.length_append, List.length_cons, List.length_nil] at hsn; obtain ⟨sb, so, st1, rfl, hst1, hcs1'⟩ := hsr.atm 0 (by omega); rw [hst0] at hst1; cases hst1; unfold stc at hcs1') | (refine O_ev WideF.wide rfl (Ev_loadH rfl hcs1' rfl) rfl rfl ?_) | (refine O_ef rfl (Ef_call (I := []) WideF.wide (hlrv _ (hle13.trans hle4)) ⟨rfl, trivial⟩ rfl ?_); rintro v H5 I5 hle5 ⟨⟨ra, rn, rc, rfl, hr5⟩, rfl⟩) | (refine O_ef rfl (Ef_call (I := []) WideF.wide known_fn trivial rfl ?_); rintro v H6 I6 hle6 ⟨rfl, rfl⟩) | (refine O_ev WideF.wide rfl (Ev_nebs rfl rfl) rfl rfl ?_) | (refine O_ef rfl (Ef_call (I := []) WideF.wide (hrv _ (hle13.trans (hle4.trans (hle5.trans hle6)))) ⟨rfl, trivial⟩ rfl ?_); rintro v H7 I7 hle7 ⟨⟨ra7, rn7, rc7, rfl, hr7⟩, rfl⟩) | (refine O_ef rfl (Ef_callp WideF.wide (hss _ _ _ _ _ _ _ hr7 (hr5.mono (hle6.trans hle7))) ⟨rfl, rfl, trivial⟩ rfl ?_)) | (refine O_ef rfl (Ef_call (I := []) WideF.wide (huse _ (hle13.trans (hle4.trans (hle5.trans (hle6.trans hle7))))) ⟨rfl, rfl, trivial⟩ rfl ?_); rintro v H8 I8 hle8 ⟨rfl, rfl⟩) | (refine O_ef rfl (Ef_callp WideF.wide (hhas _ _ _ _ (hr5.mono (hle6.trans (hle7.trans hle8)))) ⟨rfl, rfl, trivial⟩ rfl ?_)) | refine O_nil ?_ | refine A_seq ?_ | refine A_region ?_ | refine A_skip ?_ | refine A_block ?_ | (show opsA _ _ _ _ _ _ _; first | (refine O_split rfl rfl (fun h => ?_) (fun h => ?_) <;> try (exfalso; omega)) | refine O_ev WideF.wide rfl (Ev_pure rfl) rfl rfl ?_ | (show opsA _ _ _ _ (⟨_, .load _ _, _, _, _, _⟩ :: _) _ _; first | refine O_ev WideF.wide rfl (Ev_loadB1 (i := 0) rfl rfl rfl) rfl rfl ?_ | refine O_ev WideF.wide rfl (Ev_loadB (i := 0) rfl rfl rfl) rfl rfl ?_ | refine O_ev WideF.wide rfl (Ev_loadB (i := 1) rfl rfl rfl) rfl rfl ?_) | (show opsA _ _ _ _ (⟨_, .indexAddr _ _ _, _, _, _, _⟩ :: _) _ _; refine O_ev WideF.wide rfl (Ev_indexAddr rfl rfl (by omega) (by omega)) rfl rfl ?_) | (show opsA _ _ _ _ (⟨_, .fieldAddr _ _ _, _, _, _, _⟩ :: _) _ _; refine O_ev WideF.wide rfl (Ev_fieldAddr rfl rfl rfl) rfl rfl ?_) | (show opsA _ _ _ _ (⟨_, .call _, _, _, _, _⟩ :: _) _ _; refine O_ev WideF.wide rfl (Ev_llen rfl) rfl rfl ?_) | (show opsA _ _ _ _ (⟨_, .unOp _ _ _, _, _, _, _⟩ :: _) _ _; refine O_ev WideF.wide rfl (Ev_notb rfl) rfl rfl ?_) | (show opsA _ _ _ _ (⟨_, .alloc _, _, _, _, _⟩ :: _) _ _; (refine O_ef rfl (Ef_alloc WideF.wide rfl ?_); intro b)) | (show opsA _ _ _ _ (⟨_, .store _ _ _, _, _, _, _⟩ :: _) _ _; refine O_ef rfl (Ef_storew WideF.wide rfl rfl rfl rfl rfl ?_))) | (show wpA _ _ _ (.cond _ _ _) _ _ _ _; refine A_iffalse rfl ?_))
  have hle38 := hle4.trans (hle5.trans (hle6.trans (hle7.trans hle8)))
  have hy := hy.mono hle38
  have hz := hz.mono hle38
  refine A_loopu (fun m s => ∃ i : Nat, m = g.length - i ∧ i ≤ g.length ∧ s = ⟨87, [(13, .int .i64 i), (9, .slice ya g.length yc), (10, .slice za g.length zc), (6, .bool false)], H8, [], [], []⟩) ?_ ?_
  · exact Shift.to ⟨_, 0, rfl, by omega, rfl⟩ ⟨rfl, rfl, rfl, ⟨rfl, rfl, rfl, rfl, trivial⟩, Own.subi [] (by decide) rfl rfl⟩
  · rintro m s ⟨i, rfl, hi, rfl⟩
    by_cases hlt : i < g.length
    · obtain ⟨b1, o1, y, rfl, hyi, hc⟩ := hy.atm i hlt
      obtain ⟨b2, o2, y2, rfl, hyi2, hc2⟩ := hz.atm i hlt
      rw [hyi] at hyi2
      cases hyi2
      unfold lrow at hc hc2
      have eqk : ∀ w, (Op.equalIn 10000 75 (.agg [.int .i64 y.rev, .int .i64 y.key, .int .i64 y.before, .bool y.had].toArray) (.agg [.int .i64 y.rev, .int .i64 y.key, .int .i64 y.before, .bool y.had].toArray)).run Try.prog w = .ok (decide True) w := fun w => by
        have h := eq_layer y.rev y.key y.before y.rev y.key y.before y.had y.had w
        simpa using h
      repeat' (first | (refine A_drawL WideF.wide (.q 0 (.q 1 (.q 2 (.q 3 (.q 4 (.q 5 (.q 6 (.q 7 (.q 8 (.done [])))))))))) [] (by decide +kernel) ?_) | (refine D_ev rfl (Ev_loadH rfl hc rfl) rfl rfl ?_) | (refine D_ev rfl (Ev_loadH rfl hc2 rfl) rfl rfl ?_) | (refine D_ev rfl (Ev_neS rfl rfl Try.eqGuardType75 eqk) rfl rfl ?_) | refine O_nil ?_ | refine A_seq ?_ | refine A_region ?_ | refine A_skip ?_ | refine A_ret ?_ | refine A_block ?_ | (show drJ _ _ _ _ _ _ _ (.q _ _) _; refine D_q rfl ?_) | (show drJ _ _ _ _ _ _ _ (.done _) _; refine D_done ?_; simp only [List.cons_append, List.nil_append]) | (show drQ _ _ _ _ _ _; first | refine D_ev rfl (Ev_pure rfl) rfl rfl ?_ | (show drQ _ _ _ ⟨_, .indexAddr _ _ _, _, _, _, _⟩ _ _; refine D_ev rfl (Ev_indexAddr rfl rfl (by omega) (by omega)) rfl rfl ?_)) | (show opsA _ _ _ _ _ _ _; first | refine O_ev WideF.wide rfl (Ev_pure rfl) rfl rfl ?_ | (show opsA _ _ _ _ (⟨_, .call _, _, _, _, _⟩ :: _) _ _; refine O_ev WideF.wide rfl (Ev_llen rfl) rfl rfl ?_) | (show opsA _ _ _ _ (⟨_, .binOp _ _ _ _ _, _, _, _, _⟩ :: _) _ _; refine O_ev WideF.wide rfl (Ev_add rfl rfl (wi64 (by omega))) rfl rfl ?_)) | (show wpA _ _ _ (.cond _ _ _) _ _ _ _; (refine A_if rfl (fun h => ?_) (fun h => ?_) <;> try (exfalso; omega))))
      all_goals first
        | (refine Shift.to ⟨_, ?_, i + 1, rfl, by omega, rfl⟩ ⟨rfl, rfl, rfl, ⟨rfl, rfl, rfl, rfl, trivial⟩, Own.subi [] (by decide) rfl rfl⟩; omega)
        | exact absurd trivial (by assumption)
    · have hin : g.length = i := by omega
      repeat' (first | refine O_nil ?_ | refine A_seq ?_ | refine A_region ?_ | refine A_ret ?_ | (show opsA _ _ _ _ _ _ _; first | refine O_ev WideF.wide rfl (Ev_pure rfl) rfl rfl ?_ | (show opsA _ _ _ _ (⟨_, .call _, _, _, _, _⟩ :: _) _ _; refine O_ev WideF.wide rfl (Ev_llen rfl) rfl rfl ?_)) | (show wpA _ _ _ (.exit _) _ _ _ _; refine A_exit rfl ?_) | (show wpA _ _ _ (.cond _ _ _) _ _ _ _; (refine A_if rfl (fun h => ?_) (fun h => ?_) <;> try (exfalso; omega))))
      exact End_e (Ret1 rfl rfl) ⟨rfl, rfl⟩
end Go.Proofs.Ythniohgeojenaaa
