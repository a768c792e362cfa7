/-
  MarkEnds: the walk.
-/
import Derived.Test.YthniohgeojenaaaM22
import Derived.Test.YthniohgeojenaaaM20
namespace Go.Proofs.Ythniohgeojenaaa
open Go
set_option linter.unusedVariables false
set_option linter.unusedSimpArgs false
attribute [local irreducible] wpA opsA drJ drQ drE Ef Ev Shift Fn
set_option maxRecDepth 100000 in
set_option maxHeartbeats 4000000 in
theorem MarkEnds_fn {H : Hp} {hcs : List Value} {q : Head} (hh : HeadH H hcs q) (hl : q.mass < 1073741824) :
    Fn Try.prog 4 [.agg hcs.toArray] H [] fun v _ I' => v = .bool true ∧ I' = [] := by
  obtain ⟨pa, pn, pc, da, dn, dc, la, ln, lc, rfl, h1, h2, h3⟩ := hh.ex
  have hord := ordered_fn hh hl
  refine Fn_of _ _ Try.func4 rfl Try.ntmps4 rfl fun c => ?_
  refine A_seq ?_
  refine A_cutu (fun s => ∃ b1, s = ⟨129, [(1, ptr b1), (2, .bool false)], H, [.box b1 [.slice pa pn pc, .int .i64 q.ins, .int .i64 q.move, .slice da dn dc, .slice la ln lc]], [], []⟩) ?_ ?_
  · repeat' (first | refine O_nil ?_ | refine A_region ?_ | (show opsA _ _ _ _ _ _ _; first | refine O_ev WideF.wide rfl (Ev_pure rfl) rfl rfl ?_ | (show opsA _ _ _ _ (⟨_, .box _ _, _, _, _, _⟩ :: _) _ _; (refine O_ef rfl (Ef_boxa WideF.wide rfl rfl ?_); intro b))))
    exact Shift.to ⟨_, rfl⟩ ⟨rfl, rfl, rfl, ⟨rfl, rfl, trivial⟩, Own.subi [0] (by decide) rfl rfl⟩
  rintro s ⟨b1, rfl⟩
  refine A_seq ?_
  refine A_cutu (fun s => ∃ (H1 : Hp) (cs1 : List Value), HeadH H1 cs1 (ordH q) ∧ s = ⟨129, [(1, ptr b1), (2, .bool false)], H1, [.box b1 cs1], [], []⟩) ?_ ?_
  · repeat' (first | (refine O_ef rfl (Ef_call (I := []) WideF.wide hord ⟨rfl, trivial⟩ rfl ?_); rintro v H1 I1 hle1 ⟨⟨cs1, rfl, hcs1⟩, rfl⟩; obtain ⟨pa1, pn1, pc1, da1, dn1, dc1, la1, ln1, lc1, rfl, h11, h21, h31⟩ := hcs1.ex) | refine O_nil ?_ | refine A_region ?_ | (show opsA _ _ _ _ _ _ _; first | (show opsA _ _ _ _ (⟨_, .load _ _, _, _, _, _⟩ :: _) _ _; refine O_ev WideF.wide rfl (Ev_loadB (i := 0) rfl rfl rfl) rfl rfl ?_) | (show opsA _ _ _ _ (⟨_, .store _ _ _, _, _, _, _⟩ :: _) _ _; refine O_ef rfl (Ef_storew WideF.wide rfl rfl rfl rfl rfl ?_))))
    exact Shift.to ⟨_, _, hcs1, rfl⟩ ⟨rfl, rfl, rfl, ⟨rfl, rfl, trivial⟩, Own.subi [0] (by decide) rfl rfl⟩
  rintro s ⟨H1, cs1, hcs1, rfl⟩
  have hgood := ordH_good q
  have hmass := ordH_mass q
  have hmove := ordH_move q
  generalize ordH q = o at *
  obtain ⟨pa1, pn1, pc1, da1, dn1, dc1, la1, ln1, lc1, rfl, h11, h21, h31⟩ := hcs1.ex
  have l2 := h21.len
  have l3 := h31.len
  simp only [List.length_map] at l2 l3
  have e2 : o.dels = [] ↔ (dn1 : Int) = 0 := by rw [← l2, ← List.length_eq_zero_iff]; omega
  have e3 : o.layers = [] ↔ (ln1 : Int) = 0 := by rw [← l3, ← List.length_eq_zero_iff]; omega
  have hO : Fn Try.prog 19 [.agg [.slice pa1 pn1 pc1, .int .i64 o.ins, .int .i64 o.move, .slice da1 dn1 dc1, .slice la1 ln1 lc1].toArray] H1 [] fun v H' I' => (∃ cs, v = .tuple [.agg cs.toArray, .bool (decide (o.ins = 0))].toArray ∧ HeadH H' cs (decH (fun _ => false) (fun _ => true) o)) ∧ I' = [] := by
    have h := Original_fn hcs1 hgood.inc (by omega)
    unfold DecideIs at h
    rwa [show (!goneB (fun _ => false) (fun _ => true) o) = decide (o.ins = 0) by rw [gone_orig]; simp] at h
  have hF : ∀ Hx, HLe H1 Hx → Fn Try.prog 20 [.agg [.slice pa1 pn1 pc1, .int .i64 o.ins, .int .i64 o.move, .slice da1 dn1 dc1, .slice la1 ln1 lc1].toArray] Hx [] fun v H' I' => (∃ cs, v = .tuple [.agg cs.toArray, .bool (decide ((dn1 : Int) = 0))].toArray ∧ HeadH H' cs (decH (fun _ => true) (fun _ => false) o)) ∧ I' = [] := by
    intro Hx hx
    have h := Final_fn (hcs1.mono hx) hgood.inc (by omega)
    unfold DecideIs at h
    rwa [show (!goneB (fun _ => true) (fun _ => false) o) = decide ((dn1 : Int) = 0) by rw [gone_final]; simp only [e2]; simp] at h
  have hP := fun Hx (hx : HLe H1 Hx) => Plain_fn (hcs1.mono hx) (by omega)
  have hV : ∀ Hx, HLe H1 Hx → FnP Try.prog 23 [.agg [.slice pa1 pn1 pc1, .int .i64 o.ins, .int .i64 o.move, .slice da1 dn1 dc1, .slice la1 ln1 lc1].toArray] Hx (.bool (decide ((dn1 : Int) = 0))) := by
    intro Hx hx
    have h := Visible_fn (hcs1.mono hx)
    simp only [e2] at h
    exact h
  have hE := fun Hx (hx : HLe H1 Hx) => Existed_fn (hcs1.mono hx)
  have hI : ∀ Hx, HLe H1 Hx → FnP Try.prog 24 [.agg [.slice pa1 pn1 pc1, .int .i64 o.ins, .int .i64 o.move, .slice da1 dn1 dc1, .slice la1 ln1 lc1].toArray] Hx (.bool (decide (o.ins = 0 ∧ o.move = 0 ∧ (dn1 : Int) = 0 ∧ (ln1 : Int) = 0))) := by
    intro Hx hx
    have h := IsPlain_fn (hcs1.mono hx)
    simp only [e2, e3] at h
    exact h
  repeat' (first | (refine O_ef rfl (Ef_call (I := []) WideF.wide hO ⟨rfl, trivial⟩ rfl ?_); rintro v H2 I2 hle2 ⟨⟨cs2, rfl, hcs2⟩, rfl⟩; obtain ⟨pa2, pn2, pc2, da2, dn2, dc2, la2, ln2, lc2, rfl, h12, h22, h32⟩ := hcs2.ex) | (refine O_ef rfl (Ef_call (I := []) WideF.wide (hF _ hle2) ⟨rfl, trivial⟩ rfl ?_); rintro v H3 I3 hle3 ⟨⟨cs3, rfl, hcs3⟩, rfl⟩; obtain ⟨pa3, pn3, pc3, da3, dn3, dc3, la3, ln3, lc3, rfl, h13, h23, h33⟩ := hcs3.ex) | (refine O_ef rfl (Ef_call (I := []) WideF.wide (hP _ (hle2.trans hle3)) ⟨rfl, trivial⟩ rfl ?_); rintro v H4 I4 hle4 ⟨⟨cs4, rfl, hcs4⟩, rfl⟩; obtain ⟨pa4, pn4, pc4, da4, dn4, dc4, la4, ln4, lc4, rfl, h14, h24, h34⟩ := hcs4.ex) | refine O_nil ?_ | refine A_seq ?_ | refine A_region ?_ | (show opsA _ _ _ _ _ _ _; first | refine O_ev WideF.wide rfl (Ev_pure rfl) rfl rfl ?_ | (show opsA _ _ _ _ (⟨_, .load _ _, _, _, _, _⟩ :: _) _ _; first | refine O_ev WideF.wide rfl (Ev_loadB (i := 0) rfl rfl rfl) rfl rfl ?_ | refine O_ev WideF.wide rfl (Ev_loadB (i := 1) rfl rfl rfl) rfl rfl ?_ | refine O_ev WideF.wide rfl (Ev_loadB (i := 2) rfl rfl rfl) rfl rfl ?_ | refine O_ev WideF.wide rfl (Ev_loadBs (i := 3) rfl rfl rfl rfl) rfl rfl ?_) | (show opsA _ _ _ _ (⟨_, .fieldAddr _ _ _, _, _, _, _⟩ :: _) _ _; refine O_ev WideF.wide rfl (Ev_fieldAddr rfl rfl rfl) rfl rfl ?_) | (show opsA _ _ _ _ (⟨_, .alloc _, _, _, _, _⟩ :: _) _ _; (refine O_ef rfl (Ef_alloc WideF.wide rfl ?_); intro b)) | (show opsA _ _ _ _ (⟨_, .store _ _ _, _, _, _, _⟩ :: _) _ _; refine O_ef rfl (Ef_storew WideF.wide rfl rfl rfl rfl rfl ?_))))
  have hA4 := hcs2.mono (hle3.trans hle4)
  have hB4 := hcs3.mono hle4
  have hle14 := hle2.trans (hle3.trans hle4)
  have hcs14 := hcs1.mono hle14
  have hQ := fun Hx (hx : HLe H4 Hx) => EqualHead_fn (hcs4.mono hx) (cs' := [.slice pa1 pn1 pc1, .int .i64 0, .int .i64 0, .slice none 0 0, .slice none 0 0]) (g' := ⟨o.props, 0, 0, [], []⟩) ⟨⟨pa1, pn1, pc1, none, 0, 0, none, 0, 0, rfl, (h11.mono hle14).mono hx, HRow.nil' _ _, HRow.nil' _ _⟩⟩ (by show o.props.length + 0 + 0 < _; unfold Head.mass at hmass; omega)
  simp only [decide_true] at hQ
  clear hP hF hO
  refine A_cutu (fun s => ∃ (H5 : Hp) (b3 b5 b7 : Nat), HLe H4 H5 ∧ s = ⟨129, [(89, .bool false), (1, ptr b1), (2, .bool false), (3, ptr b3), (4, .bool (decide (o.ins = 0))), (5, ptr b5), (6, .bool (decide ((dn1 : Int) = 0))), (7, ptr b7)], H5,
    [.box b1 [.slice pa1 pn1 pc1, .int .i64 o.ins, .int .i64 o.move, .slice da1 dn1 dc1, .slice la1 ln1 lc1],
     .box b3 [.slice pa2 pn2 pc2, .int .i64 (decH (fun _ => false) (fun _ => true) o).ins, .int .i64 (decH (fun _ => false) (fun _ => true) o).move, .slice da2 dn2 dc2, .slice la2 ln2 lc2],
     .box b5 [.slice pa3 pn3 pc3, .int .i64 (decH (fun _ => true) (fun _ => false) o).ins, .int .i64 (decH (fun _ => true) (fun _ => false) o).move, .slice da3 dn3 dc3, .slice la3 ln3 lc3],
     .box b7 [.slice pa4 pn4 pc4, .int .i64 0, .int .i64 0, .slice da4 dn4 dc4, .slice la4 ln4 lc4]], [], []⟩) ?_ ?_
  · (refine A_drawL WideF.wide (.e 0 (.q 1 (.q 2 (.q 3 (.q 4 (.q 5 (.q 6 (.q 7 (.q 8 (.q 9 (.q 10 (.q 11 (.q 12 (.q 13 (.q 14 (.q 15 (.q 16 (.q 17 (.q 18 (.q 20 (.e 19 (.q 21 (.q 22 (.q 23 (.q 24 (.q 26 (.e 25 (.q 27 (.q 28 (.q 29 (.q 30 (.q 31 (.q 32 (.q 33 (.e 34 (.q 35 (.q 36 (.q 37 (.q 38 (.q 40 (.q 41 (.q 42 (.e 39 (.q 43 (.q 44 (.q 45 (.q 46 (.q 47 (.q 48 (.q 49 (.q 50 (.q 51 (.q 52 (.q 53 (.q 54 (.q 55 (.q 56 (.q 57 (.q 58 (.q 59 (.q 60 (.q 61 (.done []))))))))))))))))))))))))))))))))))))))))))))))))))))))))))))))) [] (by decide +kernel) ?_)
    repeat' (first | (refine E_ef rfl (Ef_call (I := []) WideF.wide known_fn trivial rfl ?_); rintro v H5 I5 hle5 ⟨rfl, rfl⟩; refine ⟨⟨hle5, rfl⟩, ?_⟩) | (refine D_ev rfl (Ev_nebs rfl rfl) rfl rfl ?_) | (refine D_ev rfl (Ev_nebw rfl rfl (by first | (rw [decide_eq_decide]; omega) | (rw [decide_eq_false_iff_not]; omega))) rfl rfl ?_) | (refine E_ef rfl (Ef_callp WideF.wide (hE _ (hle14.trans hle5)) ⟨rfl, trivial⟩ rfl ?_); refine ⟨Grow.same rfl rfl, ?_⟩) | (refine E_ef rfl (Ef_callp WideF.wide (hV _ (hle14.trans hle5)) ⟨rfl, trivial⟩ rfl ?_); refine ⟨Grow.same rfl rfl, ?_⟩) | (refine E_ef rfl (Ef_callp WideF.wide (hI _ (hle14.trans hle5)) ⟨rfl, trivial⟩ rfl ?_); refine ⟨Grow.same rfl rfl, ?_⟩) | (refine E_ef rfl (Ef_callp WideF.wide (hQ _ hle5) ⟨rfl, rfl, trivial⟩ rfl ?_); refine ⟨Grow.same rfl rfl, ?_⟩) | refine O_nil ?_ | (show drJ _ _ _ _ _ _ _ (.q _ _) _; refine D_q rfl ?_) | (show drJ _ _ _ _ _ _ _ (.e _ _) _; refine D_e rfl ?_) | (show drJ _ _ _ _ _ _ _ (.done _) _; refine D_done ?_; simp only [List.cons_append, List.nil_append]) | (show drQ _ _ _ _ _ _; first | (refine D_split rfl rfl (fun h => ?_) (fun h => ?_) <;> try (exfalso; omega)) | refine D_ev rfl (Ev_pure rfl) rfl rfl ?_ | (show drQ _ _ _ ⟨_, .load _ _, _, _, _, _⟩ _ _; first | refine D_ev rfl (Ev_loadB1 (i := 0) rfl rfl rfl) rfl rfl ?_ | refine D_ev rfl (Ev_loadB1 (i := 4) rfl rfl rfl) rfl rfl ?_ | refine D_ev rfl (Ev_loadB (i := 1) rfl rfl rfl) rfl rfl ?_ | refine D_ev rfl (Ev_loadB (i := 4) rfl rfl rfl) rfl rfl ?_) | (show drQ _ _ _ ⟨_, .fieldAddr _ _ _, _, _, _, _⟩ _ _; refine D_ev rfl (Ev_fieldAddr rfl rfl rfl) rfl rfl ?_) | (show drQ _ _ _ ⟨_, .call _, _, _, _, _⟩ _ _; refine D_ev rfl (Ev_llen rfl) rfl rfl ?_) | (show drQ _ _ _ ⟨_, .unOp _ _ _, _, _, _, _⟩ _ _; refine D_ev rfl (Ev_notb rfl) rfl rfl ?_) | (show drQ _ _ _ ⟨_, .build _ _, _, _, _, _⟩ _ _; refine D_ev rfl (Ev_build (vs := [(_, _)]) ⟨rfl, rfl, trivial⟩ rfl) rfl rfl ?_) | refine D_skip rfl rfl rfl ?_))
    all_goals exact Shift.to ⟨_, _, _, _, hle5, rfl⟩ ⟨rfl, rfl, rfl, ⟨rfl, rfl, rfl, rfl, rfl, rfl, rfl, rfl, trivial⟩, Own.subi [4, 3, 2, 1] (by decide) rfl rfl⟩
  rintro s ⟨H5, b3, b5, b7, hle5, rfl⟩
  have hko := keysOf_fn (hcs14.mono hle5) (by omega)
  clear hQ hI hE hV
  have hA5 := hA4.mono hle5
  have hB5 := hB4.mono hle5
  have hC5 := hcs4.mono hle5
  have hq5 := hcs14.mono hle5
  repeat' (first | (refine O_ef rfl (Ef_call (I := []) WideF.wide hko ⟨rfl, trivial⟩ rfl ?_); rintro v H6 I6 hle6 ⟨⟨ka, kn, kc, rfl, hk⟩, rfl⟩) | refine O_nil ?_ | refine A_seq ?_ | refine A_region ?_ | refine A_skip ?_ | refine A_block ?_ | (show opsA _ _ _ _ _ _ _; first | refine O_ev WideF.wide rfl (Ev_pure rfl) rfl rfl ?_ | (show opsA _ _ _ _ (⟨_, .load _ _, _, _, _, _⟩ :: _) _ _; first | refine O_ev WideF.wide rfl (Ev_loadB1 (i := 0) rfl rfl rfl) rfl rfl ?_ | refine O_ev WideF.wide rfl (Ev_loadB (i := 1) rfl rfl rfl) rfl rfl ?_) | (show opsA _ _ _ _ (⟨_, .fieldAddr _ _ _, _, _, _, _⟩ :: _) _ _; refine O_ev WideF.wide rfl (Ev_fieldAddr rfl rfl rfl) rfl rfl ?_) | (show opsA _ _ _ _ (⟨_, .build _ _, _, _, _, _⟩ :: _) _ _; refine O_ev WideF.wide rfl (Ev_build (vs := [(_, _)]) ⟨rfl, rfl, trivial⟩ rfl) rfl rfl ?_) | (show opsA _ _ _ _ (⟨_, .alloc _, _, _, _, _⟩ :: _) _ _; (refine O_ef rfl (Ef_alloc WideF.wide rfl ?_); intro b)) | (show opsA _ _ _ _ (⟨_, .store _ _ _, _, _, _, _⟩ :: _) _ _; refine O_ef rfl (Ef_storew WideF.wide rfl rfl rfl rfl rfl ?_))) | (show wpA _ _ _ (.cond _ _ _) _ _ _ _; refine A_iffalse rfl ?_))
  have hkl : (keysL o.layers).length = kn := by have := hk.len; simpa using this
  have hkn := keysL_len o.layers
  have hb0 : HeadH H6 [.slice pa1 pn1 pc1, .int .i64 0, .int .i64 0, .slice none 0 0, .slice none 0 0] ⟨o.props, 0, 0, [], []⟩ := ⟨⟨pa1, pn1, pc1, none, 0, 0, none, 0, 0, rfl, ((h11.mono hle14).mono hle5).mono hle6, HRow.nil' _ _, HRow.nil' _ _⟩⟩
  have hm3 : o.props.length ≤ 120 ∧ o.layers.length ≤ 120 := by unfold Head.mass at hmass; omega
  refine A_loopu (fun m s => ∃ (j : Nat) (H7 : Hp) (cs : List Value) (b9 : Nat), m = kn - j ∧ j ≤ kn ∧ HLe H6 H7 ∧ HeadH H7 cs ⟨foldW (baseS o) ((keysL o.layers).take j) o.props, 0, 0, [], []⟩ ∧ s = ⟨129, [(11, .int .i64 j), (10, .slice ka kn kc), (9, ptr b9), (1, ptr b1), (2, .bool false), (3, ptr b3), (4, .bool (decide (o.ins = 0))), (5, ptr b5), (6, .bool (decide ((dn1 : Int) = 0))), (7, ptr b7)], H7,
    [.box b9 cs, .box b1 [.slice pa1 pn1 pc1, .int .i64 o.ins, .int .i64 o.move, .slice da1 dn1 dc1, .slice la1 ln1 lc1],
     .box b3 [.slice pa2 pn2 pc2, .int .i64 (decH (fun _ => false) (fun _ => true) o).ins, .int .i64 (decH (fun _ => false) (fun _ => true) o).move, .slice da2 dn2 dc2, .slice la2 ln2 lc2],
     .box b5 [.slice pa3 pn3 pc3, .int .i64 (decH (fun _ => true) (fun _ => false) o).ins, .int .i64 (decH (fun _ => true) (fun _ => false) o).move, .slice da3 dn3 dc3, .slice la3 ln3 lc3],
     .box b7 [.slice pa4 pn4 pc4, .int .i64 0, .int .i64 0, .slice da4 dn4 dc4, .slice la4 ln4 lc4]], [], []⟩) ?_ ?_
  · exact Shift.to ⟨_, 0, H6, _, _, rfl, by omega, HLe.refl _, hb0, rfl⟩ ⟨rfl, rfl, rfl, ⟨rfl, rfl, rfl, rfl, rfl, rfl, rfl, rfl, rfl, rfl, trivial⟩, Own.subi [0, 1, 2, 3, 4] (by decide) rfl rfl⟩
  · rintro m s ⟨j, H7, cs, b9, rfl, hj, hle7, ho, rfl⟩
    obtain ⟨wi, wl, wg⟩ := foldW_spec (baseS_ok hgood) ((keysL o.layers).take j) o.props hgood.inc
    have hktl : ((keysL o.layers).take j).length ≤ kn := by rw [List.length_take]; omega
    obtain ⟨pa9, pn9, pc9, da9, dn9, dc9, la9, ln9, lc9, rfl, h19, h29, h39⟩ := ho.ex
    by_cases hlt : j < kn
    · obtain ⟨b', ob, key, rfl, hkj, hkc⟩ := (hk.mono hle7).atm j hlt
      unfold irow at hkc
      have hkc : ∀ Hx, HLe H7 Hx → Hx b' (ob + j * 1 + 0) = some (.int .i64 key) := fun Hx hx => hx _ _ _ (hkc 0 _ rfl)
      have hst := states_fn (k := key) ((hq5.mono hle6).mono hle7) hgood.inc (by omega)
      have hwi := fun Hx (hx : HLe H7 Hx) => lawWith_fn (k := key) (s := baseS o key) (ho.mono hx) wi (by show (foldW _ _ _).length < _; omega)
      repeat' (first | refine O_nil ?_ | refine A_seq ?_ | refine A_region ?_ | refine A_skip ?_ | refine A_block ?_ | (show opsA _ _ _ _ _ _ _; first | refine O_ev WideF.wide rfl (Ev_pure rfl) rfl rfl ?_ | (show opsA _ _ _ _ (⟨_, .call _, _, _, _, _⟩ :: _) _ _; refine O_ev WideF.wide rfl (Ev_llen rfl) rfl rfl ?_)) | (show wpA _ _ _ (.cond _ _ _) _ _ _ _; (refine A_if rfl (fun h => ?_) (fun h => ?_) <;> try (exfalso; omega))))
      (refine A_drawi WideF.wide (.q 0 (.q 1 (.q 2 (.q 3 (.q 4 (.q 5 (.q 6 (.q 7 (.q 8 (.q 9 (.e 10 (.q 11 (.q 12 (.r (.e 13 (.e 14 (.done []))))))))))))))))) [13, 14] [] [0, 1, 2, 3, 4] (by decide +kernel) (by decide) rfl ?_; simp only [Own.picks, Own.rget, List.cons_append, List.nil_append, List.append_nil])
      repeat' (first | (refine D_ev rfl (Ev_loadH1 rfl (hkc _ (HLe.refl _))) rfl rfl ?_) | (refine E_ef rfl (Ef_call (I := []) WideF.wide hst ⟨rfl, rfl, trivial⟩ rfl ?_); rintro v H8 I8 hle8 ⟨⟨sa, sn, sc, rfl, hsr⟩, rfl⟩; have hsn := hsr.len; simp only [List.length_map, List.length_append, List.length_cons, List.length_nil] at hsn; obtain ⟨sb, so, st1, rfl, hst1, hcs1⟩ := hsr.atm 0 (by omega); have hst1' := states_at (getP o.props key) (layersK o.layers key) 0 (by omega); rw [hst1] at hst1'; cases hst1'; unfold stc at hcs1; refine ⟨⟨hle8, rfl⟩, ?_⟩) | (refine D_ev rfl (Ev_loadH rfl hcs1 rfl) rfl rfl ?_) | (refine E_ef rfl (Ef_call (I := []) WideF.wide (hwi _ hle8) ⟨rfl, rfl, rfl, trivial⟩ rfl ?_); rintro v H9 I9 hle9 ⟨⟨cs9, rfl, hcs9⟩, rfl⟩; obtain ⟨pa8, pn8, pc8, da8, dn8, dc8, la8, ln8, lc8, rfl, h18, h28, h38⟩ := hcs9.ex; refine ⟨⟨hle9, rfl⟩, ?_⟩) | refine O_nil ?_ | refine A_region ?_ | (show drJ _ _ _ _ _ _ _ (.q _ _) _; refine D_q rfl ?_) | (show drJ _ _ _ _ _ _ _ (.e _ _) _; refine D_e rfl ?_) | (show drJ _ _ _ _ _ _ _ (.r _) _; refine D_r ?_; simp only [List.cons_append, List.nil_append]) | (show drJ _ _ _ _ _ _ _ (.done _) _; refine D_done ?_; simp only [List.cons_append, List.nil_append]) | (show drQ _ _ _ _ _ _; first | refine D_ev rfl (Ev_pure rfl) rfl rfl ?_ | (show drQ _ _ _ ⟨_, .load _ _, _, _, _, _⟩ _ _; first | refine D_ev rfl (Ev_loadB (i := 0) rfl rfl rfl) rfl rfl ?_ | refine D_ev rfl (Ev_loadB (i := 1) rfl rfl rfl) rfl rfl ?_) | (show drQ _ _ _ ⟨_, .indexAddr _ _ _, _, _, _, _⟩ _ _; refine D_ev rfl (Ev_indexAddr rfl rfl (by omega) (by omega)) rfl rfl ?_)) | (show drE _ _ _ _ _ _ _; (show drE _ _ _ _ ⟨_, .store _ _ _, _, _, _, _⟩ _ _; (refine E_ef rfl (Ef_storew WideF.wide rfl rfl rfl rfl rfl ?_); refine ⟨Grow.same rfl rfl, ?_⟩))) | (show opsA _ _ _ _ _ _ _; first | refine O_ev WideF.wide rfl (Ev_pure rfl) rfl rfl ?_ | (show opsA _ _ _ _ (⟨_, .binOp _ _ _ _ _, _, _, _, _⟩ :: _) _ _; refine O_ev WideF.wide rfl (Ev_add rfl rfl (wi64 (by omega))) rfl rfl ?_)))
      refine Shift.to ⟨_, ?_, j + 1, H9, _, b9, rfl, by omega, hle7.trans (hle8.trans hle9), by rw [baseP_step o hkj]; exact hcs9, rfl⟩ ⟨rfl, rfl, rfl, ⟨rfl, rfl, rfl, rfl, rfl, rfl, rfl, rfl, rfl, rfl, trivial⟩, Own.subi [0, 1, 2, 3, 4] (by decide) rfl rfl⟩
      omega
    · have hjk : kn = j := by omega
      subst hjk
      have ho' : HeadH H7 [.slice pa9 pn9 pc9, .int .i64 0, .int .i64 0, .slice da9 dn9 dc9, .slice la9 ln9 lc9] ⟨baseP o, 0, 0, [], []⟩ := by
        rw [List.take_of_length_le (by omega)] at ho; exact ho
      have hz : ∀ Hx, HeadH Hx zHead Head.none := fun Hx => ⟨⟨none, 0, 0, none, 0, 0, none, 0, 0, rfl, HRow.nil' _ _, HRow.nil' _ _, HRow.nil' _ _⟩⟩
      have hle57 := hle6.trans hle7
      have hmA := decH_mass (fun _ => false) (fun _ => true) o
      have hmB := decH_mass (fun _ => true) (fun _ => false) o
      have q1 : o.ins = 0 → FnP Try.prog 18 [_, .agg [.slice pa9 pn9 pc9, .int .i64 0, .int .i64 0, .slice da9 dn9 dc9, .slice la9 ln9 lc9].toArray] H7 (.bool true) := fun h => by
        have hq := EqualHead_fn (hA5.mono hle57) ho' (by omega)
        rwa [decide_eq_true (orig_eq hgood h (hmove h))] at hq
      have q2 : ¬ o.ins = 0 → FnP Try.prog 18 [_, .agg zHead.toArray] H7 (.bool true) := fun h => by
        have hq := EqualHead_fn (hA5.mono hle57) (hz H7) (by omega)
        rwa [decide_eq_true (decH_gone (by rw [gone_orig]; simp [h]))] at hq
      have q3 : (dn1 : Int) = 0 → FnP Try.prog 18 [_, .agg [.slice pa4 pn4 pc4, .int .i64 0, .int .i64 0, .slice da4 dn4 dc4, .slice la4 ln4 lc4].toArray] H7 (.bool true) := fun h => by
        have hq := EqualHead_fn (hB5.mono hle57) (hC5.mono hle57) (by omega)
        rwa [decide_eq_true (final_eq hgood (e2.2 h) hmove)] at hq
      have q4 : ¬ (dn1 : Int) = 0 → FnP Try.prog 18 [_, .agg zHead.toArray] H7 (.bool true) := fun h => by
        have hq := EqualHead_fn (hB5.mono hle57) (hz H7) (by omega)
        rwa [decide_eq_true (decH_gone (by rw [gone_final]; exact decide_eq_true fun hd => h (e2.1 hd)))] at hq
      repeat' (first | (refine O_ef rfl (Ef_callp WideF.wide (q1 (by omega)) ⟨rfl, rfl, trivial⟩ rfl ?_)) | (refine O_ef rfl (Ef_callp WideF.wide (q2 (by omega)) ⟨rfl, rfl, trivial⟩ rfl ?_)) | (refine O_ef rfl (Ef_callp WideF.wide (q3 (by omega)) ⟨rfl, rfl, trivial⟩ rfl ?_)) | (refine O_ef rfl (Ef_callp WideF.wide (q4 (by omega)) ⟨rfl, rfl, trivial⟩ rfl ?_)) | refine O_nil ?_ | refine A_seq ?_ | refine A_region ?_ | refine A_skip ?_ | refine A_ret ?_ | (show opsA _ _ _ _ _ _ _; first | refine O_ev WideF.wide rfl (Ev_pure rfl) rfl rfl ?_ | (show opsA _ _ _ _ (⟨_, .load _ _, _, _, _, _⟩ :: _) _ _; first | refine O_ev WideF.wide rfl (Ev_loadB (i := 0) rfl rfl rfl) rfl rfl ?_ | refine O_ev WideF.wide rfl (Ev_loadB (i := 1) rfl rfl rfl) rfl rfl ?_ | refine O_ev WideF.wide rfl (Ev_loadB (i := 2) rfl rfl rfl) rfl rfl ?_ | refine O_ev WideF.wide rfl (Ev_loadB (i := 3) rfl rfl rfl) rfl rfl ?_ | refine O_ev WideF.wide rfl (Ev_loadB (i := 4) rfl rfl rfl) rfl rfl ?_) | (show opsA _ _ _ _ (⟨_, .call _, _, _, _, _⟩ :: _) _ _; refine O_ev WideF.wide rfl (Ev_llen rfl) rfl rfl ?_) | (show opsA _ _ _ _ (⟨_, .unOp _ _ _, _, _, _, _⟩ :: _) _ _; refine O_ev WideF.wide rfl (Ev_not rfl) rfl rfl ?_) | (show opsA _ _ _ _ (⟨_, .build _ _, _, _, _, _⟩ :: _) _ _; refine O_ev WideF.wide rfl (Ev_build (vs := []) trivial rfl) rfl rfl ?_) | (show opsA _ _ _ _ (⟨_, .store _ _ _, _, _, _, _⟩ :: _) _ _; first | refine O_ef rfl (Ef_storew WideF.wide rfl rfl rfl rfl rfl ?_) | refine O_f4 (O_ef rfl (Ef_storew WideF.wide rfl rfl rfl rfl rfl ?_)))) | (show wpA _ _ _ (.exit _) _ _ _ _; refine A_exit rfl ?_) | (show wpA _ _ _ (.cond _ _ _) _ _ _ _; (refine A_if rfl (fun h => ?_) (fun h => ?_) <;> try (exfalso; omega))))
      all_goals exact End_e (Ret1 rfl rfl) ⟨rfl, rfl⟩
end Go.Proofs.Ythniohgeojenaaa
