/-
  MarkUnites: the walk.
-/
import Derived.Test.YthniohgeojenaaaS13
namespace Go.Proofs.Ythniohgeojenaaa
open Go
set_option linter.unusedVariables false
set_option linter.unusedSimpArgs false
theorem walkG_len {rej : Int → Bool} {p : St} : ∀ (l : List Layr) (now : St), (walkG rej p now l).2.length ≤ l.length
  | [], now => by simp [walkG]
  | y :: r, now => by
    have h1 := walkG_len (rej := rej) (p := p) r now
    have h2 := walkG_len (rej := rej) (p := p) r (nxt p r)
    rw [walkG]
    split
    · simp; omega
    · simp; omega
theorem stepG_len (acc rej : Int → Bool) (p : St) (g : List Layr) : (stepG acc rej p g).2.length ≤ g.length := by
  have h := walkG_len (rej := rej) (p := p) (g.drop (firstA acc g)) (nxt p (g.drop (firstA acc g)))
  rw [List.length_drop] at h
  unfold stepG
  omega
theorem decL_len {acc rej : Int → Bool} {pr0 : List Prp} : ∀ (n : Nat) (l : List Layr) (pr : List Prp) (out : List Layr), l.length ≤ n → (decL acc rej pr0 l pr out).1.length ≤ pr.length + l.length ∧ (decL acc rej pr0 l pr out).2.length ≤ out.length + l.length
  | n, [], pr, out, _ => by rw [decL_nil]; simp
  | 0, y :: r, pr, out, h => by simp at h
  | n + 1, y :: r, pr, out, h => by
    have hm : 1 ≤ grp y.key (y :: r) := by rw [grp, if_pos rfl]; omega
    have hle := grp_le y.key (y :: r)
    rw [decL_step (l := y :: r) (y := y) (m := grp y.key (y :: r)) rfl rfl]
    have ih := decL_len (acc := acc) (rej := rej) (pr0 := pr0) n ((y :: r).drop (grp y.key (y :: r))) (withP pr y.key (stepG acc rej (getP pr0 y.key) ((y :: r).take (grp y.key (y :: r)))).1) (out ++ (stepG acc rej (getP pr0 y.key) ((y :: r).take (grp y.key (y :: r)))).2) (by rw [List.length_drop]; simp at h ⊢; omega)
    have h1 := withP_len pr y.key (stepG acc rej (getP pr0 y.key) ((y :: r).take (grp y.key (y :: r)))).1
    have h2 := stepG_len acc rej (getP pr0 y.key) ((y :: r).take (grp y.key (y :: r)))
    rw [List.length_drop, List.length_append] at ih
    rw [List.length_take] at h2
    omega
theorem decH_mass (acc rej : Int → Bool) (q : Head) : (decH acc rej q).mass ≤ q.mass + q.layers.length := by
  have h := decL_len (acc := acc) (rej := rej) (pr0 := q.props) q.layers.length q.layers q.props [] (Nat.le_refl _)
  have h2 : (q.dels.filter (fun d => !rej d.rev)).length ≤ q.dels.length := List.length_filter_le _ _
  unfold decH
  split
  · simp [Head.none, Head.mass]
  · unfold Head.mass
    simp only [List.length_nil] at h
    simp only
    omega
theorem validD_len (d : Dec) : (validD d).acc.length ≤ 40 ∧ (validD d).rej.length ≤ 40 := by
  constructor
  · have h1 := sortI_len (validA d.acc)
    have h2 : (validA d.acc).length ≤ (d.acc.take 40).length := List.length_filter_le _ _
    rw [List.length_take] at h2
    show (sortI (validA d.acc)).length ≤ _
    omega
  · have h1 := sortI_len (validR (sortI (validA d.acc)) d.rej)
    have h2 : (validR (sortI (validA d.acc)) d.rej).length ≤ (d.rej.take 40).length := List.length_filter_le _ _
    rw [List.length_take] at h2
    show (sortI (validR (sortI (validA d.acc)) d.rej)).length ≤ _
    omega
theorem uniD_len (d e : Dec) : (uniD d e).acc.length ≤ d.acc.length + e.acc.length ∧ (uniD d e).rej.length ≤ d.rej.length + e.rej.length := by
  have h1 := sortI_len (d.acc ++ e.acc)
  have h2 := sortI_len (d.rej ++ e.rej)
  rw [List.length_append] at h1 h2
  exact ⟨h1, h2⟩
theorem unite_two {A B : Dec} {q : Head} (hq : Good q) (h : chkD (uniD A B) = 0) :
    (goneB A.accB A.rejB q = true → goneB (uniD A B).accB (uniD A B).rejB q = true ∧ decH A.accB A.rejB q = decH (uniD A B).accB (uniD A B).rejB q) ∧
    (goneB A.accB A.rejB q = false → goneB B.accB B.rejB (decH A.accB A.rejB q) = goneB (uniD A B).accB (uniD A B).rejB q ∧ decH B.accB B.rejB (decH A.accB A.rejB q) = decH (uniD A B).accB (uniD A B).rejB q) := by
  obtain ⟨h1, h2⟩ := uni_apart h
  obtain ⟨u1, u2⟩ := unite_law hq h1 h2
  rw [uni_acc, uni_rej]
  exact ⟨fun hg => ⟨u1 hg, by rw [decH_gone hg, decH_gone (u1 hg)]⟩, u2⟩
theorem unite_two' {A B : Dec} {q : Head} (hq : Good q) (h : chkD (uniD A B) = 0) :
    (goneB B.accB B.rejB q = true → goneB (uniD A B).accB (uniD A B).rejB q = true ∧ decH B.accB B.rejB q = decH (uniD A B).accB (uniD A B).rejB q) ∧
    (goneB B.accB B.rejB q = false → goneB A.accB A.rejB (decH B.accB B.rejB q) = goneB (uniD A B).accB (uniD A B).rejB q ∧ decH A.accB A.rejB (decH B.accB B.rejB q) = decH (uniD A B).accB (uniD A B).rejB q) := by
  obtain ⟨h1, h2⟩ := uni_apart h
  obtain ⟨u1, u2⟩ := unite_law hq h2 h1
  have e1 : (fun x => A.accB x || B.accB x) = fun x => B.accB x || A.accB x := funext fun x => Bool.or_comm _ _
  have e2 : (fun x => A.rejB x || B.rejB x) = fun x => B.rejB x || A.rejB x := funext fun x => Bool.or_comm _ _
  rw [uni_acc, uni_rej, e1, e2]
  exact ⟨fun hg => ⟨u1 hg, by rw [decH_gone hg, decH_gone (u1 hg)]⟩, u2⟩
attribute [local irreducible] wpA opsA drJ drQ drE Ef Ev Shift Fn
set_option maxRecDepth 100000 in
set_option maxHeartbeats 8000000 in
theorem MarkUnites_fn {H : Hp} {hcs dcs ecs : List Value} {q0 : Head} {dA dB : Dec} (hh : HeadH H hcs q0) (hd : DecH H dcs dA) (he : DecH H ecs dB) (hl : q0.mass < 1073741824) (m1 : dA.acc.length < 1073741824) (m2 : dA.rej.length < 1073741824) (m3 : dB.acc.length < 1073741824) (m4 : dB.rej.length < 1073741824) :
    Fn Try.prog 11 [.agg hcs.toArray, .agg dcs.toArray, .agg ecs.toArray] H [] fun v _ I' => v = .bool true ∧ I' = [] := by
  obtain ⟨pa, pn, pc, da, dn, dc, la, ln, lc, rfl, h1, h2, h3⟩ := hh.ex
  obtain ⟨aa, an, ac, ra, rn, rc, rfl, g1, g2⟩ := hd.ex
  obtain ⟨ba, bn, bc, sa, sn, sc, rfl, g3, g4⟩ := he.ex
  have ho := ordered_fn hh hl
  have hv := fun Hx (hx : HLe H Hx) => valid_fn (hd.mono hx) m1 m2
  have hw := fun Hx (hx : HLe H Hx) => valid_fn (he.mono hx) m3 m4
  have lA := validD_len dA
  have lB := validD_len dB
  have iA1 : Inc (validD dA).acc := sortI_inc _
  have iA2 : Inc (validD dA).rej := sortI_inc _
  have iB1 : Inc (validD dB).acc := sortI_inc _
  have iB2 : Inc (validD dB).rej := sortI_inc _
  have cA := valid_chk dA
  have cB := valid_chk dB
  have hgood := ordH_good q0
  have hmass := ordH_mass q0
  generalize validD dA = A at *
  generalize validD dB = B at *
  generalize ordH q0 = q at *
  refine Fn_of _ _ Try.func11 rfl Try.ntmps11 rfl fun c => ?_
  refine A_seq ?_
  refine A_cutu (fun s => ∃ b3 b4 b5, s = ⟨88, [(3, ptr b3), (4, ptr b4), (5, ptr b5), (6, .bool false)], H, [.box b3 [.slice pa pn pc, .int .i64 q0.ins, .int .i64 q0.move, .slice da dn dc, .slice la ln lc], .box b4 [.slice aa an ac, .slice ra rn rc], .box b5 [.slice ba bn bc, .slice sa sn sc]], [], []⟩) ?_ ?_
  · repeat' (first | refine O_nil ?_ | refine A_region ?_ | (show opsA _ _ _ _ _ _ _; first | refine O_ev WideF.wide rfl (Ev_pure rfl) rfl rfl ?_ | (show opsA _ _ _ _ (⟨_, .box _ _, _, _, _, _⟩ :: _) _ _; (refine O_ef rfl (Ef_boxa WideF.wide rfl rfl ?_); intro b))))
    exact Shift.to ⟨_, _, _, rfl⟩ ⟨rfl, rfl, rfl, ⟨rfl, rfl, rfl, rfl, trivial⟩, Own.subi [2, 1, 0] (by decide) rfl rfl⟩
  rintro s ⟨b3, b4, b5, rfl⟩
  refine A_seq ?_
  refine A_cutu (fun s => ∃ (H1 : Hp) (cs1 ds1 es1 : List Value), HeadH H1 cs1 q ∧ DecH H1 ds1 A ∧ DecH H1 es1 B ∧ s = ⟨88, [(3, ptr b3), (4, ptr b4), (5, ptr b5), (6, .bool false)], H1, [.box b3 cs1, .box b4 ds1, .box b5 es1], [], []⟩) ?_ ?_
  · (refine A_drawi WideF.wide (.q 0 (.q 2 (.q 4 (.e 1 (.e 3 (.r (.e 5 (.e 6 (.e 7 (.e 8 (.done []))))))))))) [5, 6, 7, 8] [] [0, 1, 2] (by decide +kernel) (by decide) rfl ?_; simp only [Own.picks, Own.rget, List.cons_append, List.nil_append, List.append_nil])
    repeat' (first | (refine E_ef rfl (Ef_call (I := []) WideF.wide ho ⟨rfl, trivial⟩ rfl ?_); rintro v H1 I1 hle1 ⟨⟨cs1, rfl, hcs1⟩, rfl⟩; obtain ⟨pa1, pn1, pc1, da1, dn1, dc1, la1, ln1, lc1, rfl, h11, h21, h31⟩ := hcs1.ex; refine ⟨⟨hle1, rfl⟩, ?_⟩) | (refine E_ef rfl (Ef_call (I := []) WideF.wide (hv _ hle1) ⟨rfl, trivial⟩ rfl ?_); rintro v H2 I2 hle2 ⟨⟨ds2, rfl, hds2⟩, rfl⟩; obtain ⟨aa2, an2, ac2, ra2, rn2, rc2, rfl, g12, g22⟩ := hds2.ex; refine ⟨⟨hle2, rfl⟩, ?_⟩) | (refine E_ef rfl (Ef_call (I := []) WideF.wide (hw _ (hle1.trans hle2)) ⟨rfl, trivial⟩ rfl ?_); rintro v H3 I3 hle3 ⟨⟨es3, rfl, hes3⟩, rfl⟩; obtain ⟨aa3, an3, ac3, ra3, rn3, rc3, rfl, g13, g23⟩ := hes3.ex; refine ⟨⟨hle3, rfl⟩, ?_⟩) | refine O_nil ?_ | (show drJ _ _ _ _ _ _ _ (.q _ _) _; refine D_q rfl ?_) | (show drJ _ _ _ _ _ _ _ (.e _ _) _; refine D_e rfl ?_) | (show drJ _ _ _ _ _ _ _ (.r _) _; refine D_r ?_; simp only [List.cons_append, List.nil_append]) | (show drJ _ _ _ _ _ _ _ (.done _) _; refine D_done ?_; simp only [List.cons_append, List.nil_append]) | (show drQ _ _ _ _ _ _; (show drQ _ _ _ ⟨_, .load _ _, _, _, _, _⟩ _ _; first | refine D_ev rfl (Ev_loadB (i := 0) rfl rfl rfl) rfl rfl ?_ | refine D_ev rfl (Ev_loadB (i := 1) rfl rfl rfl) rfl rfl ?_ | refine D_ev rfl (Ev_loadB (i := 2) rfl rfl rfl) rfl rfl ?_)) | (show drE _ _ _ _ _ _ _; (show drE _ _ _ _ ⟨_, .store _ _ _, _, _, _, _⟩ _ _; first | (refine E_ef rfl (Ef_storew WideF.wide rfl rfl rfl rfl rfl ?_); refine ⟨Grow.same rfl rfl, ?_⟩) | (refine E_ef rfl (Ef_f1 (Ef_storew WideF.wide rfl rfl rfl rfl rfl ?_)); refine ⟨Grow.same rfl rfl, ?_⟩) | (refine E_ef rfl (Ef_f2 (Ef_storew WideF.wide rfl rfl rfl rfl rfl ?_)); refine ⟨Grow.same rfl rfl, ?_⟩))))
    exact Shift.to ⟨_, _, _, _, hcs1.mono (hle2.trans hle3), hds2.mono hle3, hes3, rfl⟩ ⟨rfl, rfl, rfl, ⟨rfl, rfl, rfl, rfl, trivial⟩, Own.subi [2, 1, 0] (by decide) rfl rfl⟩
  rintro s ⟨H1, cs1, ds1, es1, hcs1, hds1, hes1, rfl⟩
  obtain ⟨pa1, pn1, pc1, da1, dn1, dc1, la1, ln1, lc1, rfl, h11, h21, h31⟩ := hcs1.ex
  obtain ⟨aa1, an1, ac1, ra1, rn1, rc1, rfl, g11, g21⟩ := hds1.ex
  obtain ⟨ba1, bn1, bc1, sa1, sn1, sc1, rfl, g31, g41⟩ := hes1.ex
  have hun := Union_fn hds1 hes1 (by omega) (by omega) (by omega) (by omega)
  unfold UnionIs at hun
  by_cases hz : chkD (uniD A B) = 0
  · have e : unD A B = (uniD A B, 0) := by unfold unD; rw [if_neg (by simp [cA]), if_neg (by simp [cB]), if_neg (by simp [hz])]
    rw [e] at hun
    have lU := uniD_len A B
    have iU1 : Inc (uniD A B).acc := sortI_inc _
    have iU2 : Inc (uniD A B).rej := sortI_inc _
    obtain ⟨f1, f2⟩ := unite_two hgood hz
    obtain ⟨f3, f4⟩ := unite_two' hgood hz
    have gdA := decH_good (acc := A.accB) (rej := A.rejB) hgood
    have gdB := decH_good (acc := B.accB) (rej := B.rejB) hgood
    have msA := decH_mass A.accB A.rejB q
    have msB := decH_mass B.accB B.rejB q
    have msU := decH_mass (uniD A B).accB (uniD A B).rejB q
    have mq : q.layers.length ≤ q.mass := by unfold Head.mass; omega
    have hdU := fun Hx (hx : HLe H1 Hx) dx (hdx : DecH Hx dx (uniD A B)) => Decide_fn (hcs1.mono hx) hdx hgood.inc (by omega) iU1 iU2 (by omega) (by omega)
    have hdA := fun Hx (hx : HLe H1 Hx) => Decide_fn (hcs1.mono hx) (hds1.mono hx) hgood.inc (by omega) iA1 iA2 (by omega) (by omega)
    have hdB := fun Hx (hx : HLe H1 Hx) => Decide_fn (hcs1.mono hx) (hes1.mono hx) hgood.inc (by omega) iB1 iB2 (by omega) (by omega)
    have hdAB := fun Hx (hx : HLe H1 Hx) cx (hcx : HeadH Hx cx (decH A.accB A.rejB q)) => Decide_fn hcx (hes1.mono hx) gdA.inc (by omega) iB1 iB2 (by omega) (by omega)
    have hdBA := fun Hx (hx : HLe H1 Hx) cx (hcx : HeadH Hx cx (decH B.accB B.rejB q)) => Decide_fn hcx (hds1.mono hx) gdB.inc (by omega) iA1 iA2 (by omega) (by omega)
    have hEq : ∀ Hx cs cs', HeadH Hx cs (decH (uniD A B).accB (uniD A B).rejB q) → HeadH Hx cs' (decH (uniD A B).accB (uniD A B).rejB q) → FnP Try.prog 18 [.agg cs.toArray, .agg cs'.toArray] Hx (.bool true) := fun Hx cs cs' x x' => by
      have h := EqualHead_fn x x' (by omega)
      rwa [decide_eq_true rfl] at h
    unfold DecideIs at hdU hdA hdB hdAB hdBA
    generalize goneB (uniD A B).accB (uniD A B).rejB q = gU at *
    generalize decH (uniD A B).accB (uniD A B).rejB q = hU at *
    generalize goneB A.accB A.rejB q = gA at *
    generalize decH A.accB A.rejB q = hA at *
    generalize goneB B.accB B.rejB q = gB at *
    generalize decH B.accB B.rejB q = hB at *
    refine A_seq ?_
    refine A_cutu (fun s => ∃ (H2 : Hp) (us : List Value) (b7 : Nat), HLe H1 H2 ∧ DecH H2 us (uniD A B) ∧ s = ⟨88, [(3, ptr b3), (4, ptr b4), (5, ptr b5), (6, .bool false), (7, ptr b7), (8, .int .i64 0)], H2, [.box b3 [.slice pa1 pn1 pc1, .int .i64 q.ins, .int .i64 q.move, .slice da1 dn1 dc1, .slice la1 ln1 lc1], .box b4 [.slice aa1 an1 ac1, .slice ra1 rn1 rc1], .box b5 [.slice ba1 bn1 bc1, .slice sa1 sn1 sc1], .box b7 us], [], []⟩) ?_ ?_
    · repeat' (first | (refine O_ef rfl (Ef_call (I := []) WideF.wide hun ⟨rfl, rfl, trivial⟩ rfl ?_); rintro v H2 I2 hle2 ⟨⟨us, rfl, hus⟩, rfl⟩; obtain ⟨ua, un, uc, va, vn, vc, rfl, k1, k2⟩ := hus.ex) | refine O_nil ?_ | refine A_region ?_ | (show opsA _ _ _ _ _ _ _; first | refine O_ev WideF.wide rfl (Ev_pure rfl) rfl rfl ?_ | (show opsA _ _ _ _ (⟨_, .load _ _, _, _, _, _⟩ :: _) _ _; first | refine O_ev WideF.wide rfl (Ev_loadB (i := 1) rfl rfl rfl) rfl rfl ?_ | refine O_ev WideF.wide rfl (Ev_loadB (i := 2) rfl rfl rfl) rfl rfl ?_) | (show opsA _ _ _ _ (⟨_, .alloc _, _, _, _, _⟩ :: _) _ _; (refine O_ef rfl (Ef_alloc WideF.wide rfl ?_); intro b)) | (show opsA _ _ _ _ (⟨_, .store _ _ _, _, _, _, _⟩ :: _) _ _; refine O_ef rfl (Ef_storew WideF.wide rfl rfl rfl rfl rfl ?_))))
      exact Shift.to ⟨_, _, _, hle2, hus, rfl⟩ ⟨rfl, rfl, rfl, ⟨rfl, rfl, rfl, rfl, rfl, rfl, trivial⟩, Own.subi [1, 2, 3, 0] (by decide) rfl rfl⟩
    rintro s ⟨H2, us, b7, hle2, hus, rfl⟩
    obtain ⟨ua, un, uc, va, vn, vc, rfl, k1, k2⟩ := hus.ex
    refine A_seq ?_
    refine A_cutu (fun s => ∃ (H3 : Hp), HLe H2 H3 ∧ s = ⟨88, [(3, ptr b3), (4, ptr b4), (5, ptr b5), (6, .bool false), (7, ptr b7), (8, .int .i64 0), (32, .bool false)], H3, [.box b3 [.slice pa1 pn1 pc1, .int .i64 q.ins, .int .i64 q.move, .slice da1 dn1 dc1, .slice la1 ln1 lc1], .box b4 [.slice aa1 an1 ac1, .slice ra1 rn1 rc1], .box b5 [.slice ba1 bn1 bc1, .slice sa1 sn1 sc1], .box b7 [.slice ua un uc, .slice va vn vc]], [], []⟩) ?_ ?_
    · repeat' (first | (refine O_ef rfl (Ef_call (I := []) WideF.wide known_fn trivial rfl ?_); rintro v H3 I3 hle3 ⟨rfl, rfl⟩) | refine O_nil ?_ | refine A_seq ?_ | refine A_region ?_ | refine A_skip ?_ | (show opsA _ _ _ _ _ _ _; first | refine O_ev WideF.wide rfl (Ev_pure rfl) rfl rfl ?_ | (show opsA _ _ _ _ (⟨_, .unOp _ _ _, _, _, _, _⟩ :: _) _ _; refine O_ev WideF.wide rfl (Ev_notb rfl) rfl rfl ?_)) | (show wpA _ _ _ (.cond _ _ _) _ _ _ _; (refine A_if rfl (fun h => ?_) (fun h => ?_) <;> try (exfalso; omega))))
      exact Shift.to ⟨_, hle3, rfl⟩ ⟨rfl, rfl, rfl, ⟨rfl, rfl, rfl, rfl, rfl, rfl, rfl, trivial⟩, Own.subi [0, 1, 2, 3] (by decide) rfl rfl⟩
    rintro s ⟨H3, hle3, rfl⟩
    have hle13 := hle2.trans hle3
    refine A_seq ?_
    refine A_cutu (fun s => ∃ (H4 : Hp) (cs9 : List Value) (b9 : Nat), HLe H1 H4 ∧ HeadH H4 cs9 hU ∧ s = ⟨88, [(3, ptr b3), (4, ptr b4), (5, ptr b5), (6, .bool false), (9, ptr b9), (10, .bool (!gU))], H4, [.box b3 [.slice pa1 pn1 pc1, .int .i64 q.ins, .int .i64 q.move, .slice da1 dn1 dc1, .slice la1 ln1 lc1], .box b4 [.slice aa1 an1 ac1, .slice ra1 rn1 rc1], .box b5 [.slice ba1 bn1 bc1, .slice sa1 sn1 sc1], .box b9 cs9], [], []⟩) ?_ ?_
    · repeat' (first | (refine O_ef rfl (Ef_call (I := []) WideF.wide (hdU _ hle13 _ (hus.mono hle3)) ⟨rfl, rfl, trivial⟩ rfl ?_); rintro v H4 I4 hle4 ⟨⟨cs4, rfl, hcs4⟩, rfl⟩; obtain ⟨pa4, pn4, pc4, da4, dn4, dc4, la4, ln4, lc4, rfl, _, _, _⟩ := hcs4.ex) | refine O_nil ?_ | refine A_region ?_ | (show opsA _ _ _ _ _ _ _; first | refine O_ev WideF.wide rfl (Ev_pure rfl) rfl rfl ?_ | (show opsA _ _ _ _ (⟨_, .load _ _, _, _, _, _⟩ :: _) _ _; first | refine O_ev WideF.wide rfl (Ev_loadB (i := 0) rfl rfl rfl) rfl rfl ?_ | refine O_ev WideF.wide rfl (Ev_loadB (i := 3) rfl rfl rfl) rfl rfl ?_) | (show opsA _ _ _ _ (⟨_, .alloc _, _, _, _, _⟩ :: _) _ _; (refine O_ef rfl (Ef_alloc WideF.wide rfl ?_); intro b)) | (show opsA _ _ _ _ (⟨_, .store _ _ _, _, _, _, _⟩ :: _) _ _; refine O_ef rfl (Ef_storew WideF.wide rfl rfl rfl rfl rfl ?_))))
      exact Shift.to ⟨_, _, _, hle13.trans hle4, hcs4, rfl⟩ ⟨rfl, rfl, rfl, ⟨rfl, rfl, rfl, rfl, rfl, rfl, trivial⟩, Own.subi [1, 2, 3, 0] (by decide) rfl rfl⟩
    rintro s ⟨H4, cs9, b9, hle4, hcs9, rfl⟩
    obtain ⟨pa9, pn9, pc9, da9, dn9, dc9, la9, ln9, lc9, rfl, _, _, _⟩ := hcs9.ex
    refine A_seq ?_
    refine A_cutu (fun s => ∃ (H5 : Hp) (cs5 : List Value) (b11 : Nat), HLe H4 H5 ∧ HeadH H5 cs5 hA ∧ s = ⟨88, [(3, ptr b3), (4, ptr b4), (5, ptr b5), (6, .bool false), (9, ptr b9), (10, .bool (!gU)), (11, ptr b11), (12, .bool (!gA))], H5, [.box b3 [.slice pa1 pn1 pc1, .int .i64 q.ins, .int .i64 q.move, .slice da1 dn1 dc1, .slice la1 ln1 lc1], .box b4 [.slice aa1 an1 ac1, .slice ra1 rn1 rc1], .box b5 [.slice ba1 bn1 bc1, .slice sa1 sn1 sc1], .box b9 [.slice pa9 pn9 pc9, .int .i64 hU.ins, .int .i64 hU.move, .slice da9 dn9 dc9, .slice la9 ln9 lc9], .box b11 cs5], [], []⟩) ?_ ?_
    · repeat' (first | (refine O_ef rfl (Ef_call (I := []) WideF.wide (hdA _ hle4) ⟨rfl, rfl, trivial⟩ rfl ?_); rintro v H5 I5 hle5 ⟨⟨cs5, rfl, hcs5⟩, rfl⟩; obtain ⟨pa5, pn5, pc5, da5, dn5, dc5, la5, ln5, lc5, rfl, _, _, _⟩ := hcs5.ex) | refine O_nil ?_ | refine A_region ?_ | (show opsA _ _ _ _ _ _ _; first | refine O_ev WideF.wide rfl (Ev_pure rfl) rfl rfl ?_ | (show opsA _ _ _ _ (⟨_, .load _ _, _, _, _, _⟩ :: _) _ _; first | refine O_ev WideF.wide rfl (Ev_loadB (i := 0) rfl rfl rfl) rfl rfl ?_ | refine O_ev WideF.wide rfl (Ev_loadB (i := 1) rfl rfl rfl) rfl rfl ?_) | (show opsA _ _ _ _ (⟨_, .alloc _, _, _, _, _⟩ :: _) _ _; (refine O_ef rfl (Ef_alloc WideF.wide rfl ?_); intro b)) | (show opsA _ _ _ _ (⟨_, .store _ _ _, _, _, _, _⟩ :: _) _ _; refine O_ef rfl (Ef_storew WideF.wide rfl rfl rfl rfl rfl ?_))))
      exact Shift.to ⟨_, _, _, hle5, hcs5, rfl⟩ ⟨rfl, rfl, rfl, ⟨rfl, rfl, rfl, rfl, rfl, rfl, rfl, rfl, trivial⟩, Own.subi [1, 2, 3, 4, 0] (by decide) rfl rfl⟩
    rintro s ⟨H5, cs5, b11, hle5, hcs5, rfl⟩
    obtain ⟨pa5, pn5, pc5, da5, dn5, dc5, la5, ln5, lc5, rfl, _, _, _⟩ := hcs5.ex
    have hle15 := hle4.trans hle5
    refine A_seq ?_
    refine A_cutu (fun s => ∃ (H6 : Hp) (cs6 : List Value), HLe H5 H6 ∧ HeadH H6 cs6 hU ∧ s = ⟨88, [(3, ptr b3), (4, ptr b4), (5, ptr b5), (6, .bool false), (9, ptr b9), (10, .bool (!gU)), (11, ptr b11), (12, .bool (!gU))], H6, [.box b3 [.slice pa1 pn1 pc1, .int .i64 q.ins, .int .i64 q.move, .slice da1 dn1 dc1, .slice la1 ln1 lc1], .box b4 [.slice aa1 an1 ac1, .slice ra1 rn1 rc1], .box b5 [.slice ba1 bn1 bc1, .slice sa1 sn1 sc1], .box b9 [.slice pa9 pn9 pc9, .int .i64 hU.ins, .int .i64 hU.move, .slice da9 dn9 dc9, .slice la9 ln9 lc9], .box b11 cs6], [], []⟩) ?_ ?_
    · cases gA with
      | true =>
        obtain ⟨e1, e2⟩ := f1 rfl
        subst e1 e2
        repeat' (first | refine O_nil ?_ | refine A_seq ?_ | refine A_region ?_ | refine A_skip ?_ | (show opsA _ _ _ _ _ _ _; refine O_ev WideF.wide rfl (Ev_pure rfl) rfl rfl ?_) | (show wpA _ _ _ (.cond _ _ _) _ _ _ _; refine A_iffalse rfl ?_))
        exact Shift.to ⟨_, _, HLe.refl _, hcs5, rfl⟩ ⟨rfl, rfl, rfl, ⟨rfl, rfl, rfl, rfl, rfl, rfl, rfl, rfl, trivial⟩, Own.subi [0, 1, 2, 3, 4] (by decide) rfl rfl⟩
      | false =>
        obtain ⟨e1, e2⟩ := f2 rfl
        simp only [e1, e2] at hdAB
        repeat' (first | (refine O_ef rfl (Ef_call (I := []) WideF.wide (hdAB _ hle15 _ hcs5) ⟨rfl, rfl, trivial⟩ rfl ?_); rintro v H6 I6 hle6 ⟨⟨cs6, rfl, hcs6⟩, rfl⟩; obtain ⟨pa6, pn6, pc6, da6, dn6, dc6, la6, ln6, lc6, rfl, _, _, _⟩ := hcs6.ex) | refine O_nil ?_ | refine A_seq ?_ | refine A_region ?_ | (show opsA _ _ _ _ _ _ _; first | refine O_ev WideF.wide rfl (Ev_pure rfl) rfl rfl ?_ | (show opsA _ _ _ _ (⟨_, .load _ _, _, _, _, _⟩ :: _) _ _; first | refine O_ev WideF.wide rfl (Ev_loadB (i := 2) rfl rfl rfl) rfl rfl ?_ | refine O_ev WideF.wide rfl (Ev_loadB (i := 4) rfl rfl rfl) rfl rfl ?_) | (show opsA _ _ _ _ (⟨_, .store _ _ _, _, _, _, _⟩ :: _) _ _; refine O_f4 (O_ef rfl (Ef_storew WideF.wide rfl rfl rfl rfl rfl ?_)))) | (show wpA _ _ _ (.cond _ _ _) _ _ _ _; refine A_iftrue rfl ?_))
        exact Shift.to ⟨_, _, hle6, hcs6, rfl⟩ ⟨rfl, rfl, rfl, ⟨rfl, rfl, rfl, rfl, rfl, rfl, rfl, rfl, trivial⟩, Own.subi [1, 2, 3, 4, 0] (by decide) rfl rfl⟩
    rintro s ⟨H6, cs6, hle6, hcs6, rfl⟩
    obtain ⟨pa6, pn6, pc6, da6, dn6, dc6, la6, ln6, lc6, rfl, _, _, _⟩ := hcs6.ex
    have hle16 := hle15.trans hle6
    refine A_seq ?_
    refine A_cutu (fun s => ∃ (H7 : Hp) (cs7 : List Value) (b13 : Nat), HLe H6 H7 ∧ HeadH H7 cs7 hB ∧ s = ⟨88, [(3, ptr b3), (4, ptr b4), (5, ptr b5), (6, .bool false), (9, ptr b9), (10, .bool (!gU)), (11, ptr b11), (12, .bool (!gU)), (13, ptr b13), (14, .bool (!gB))], H7, [.box b3 [.slice pa1 pn1 pc1, .int .i64 q.ins, .int .i64 q.move, .slice da1 dn1 dc1, .slice la1 ln1 lc1], .box b4 [.slice aa1 an1 ac1, .slice ra1 rn1 rc1], .box b5 [.slice ba1 bn1 bc1, .slice sa1 sn1 sc1], .box b9 [.slice pa9 pn9 pc9, .int .i64 hU.ins, .int .i64 hU.move, .slice da9 dn9 dc9, .slice la9 ln9 lc9], .box b11 [.slice pa6 pn6 pc6, .int .i64 hU.ins, .int .i64 hU.move, .slice da6 dn6 dc6, .slice la6 ln6 lc6], .box b13 cs7], [], []⟩) ?_ ?_
    · repeat' (first | (refine O_ef rfl (Ef_call (I := []) WideF.wide (hdB _ hle16) ⟨rfl, rfl, trivial⟩ rfl ?_); rintro v H7 I7 hle7 ⟨⟨cs7, rfl, hcs7⟩, rfl⟩; obtain ⟨pa7, pn7, pc7, da7, dn7, dc7, la7, ln7, lc7, rfl, _, _, _⟩ := hcs7.ex) | refine O_nil ?_ | refine A_region ?_ | (show opsA _ _ _ _ _ _ _; first | refine O_ev WideF.wide rfl (Ev_pure rfl) rfl rfl ?_ | (show opsA _ _ _ _ (⟨_, .load _ _, _, _, _, _⟩ :: _) _ _; first | refine O_ev WideF.wide rfl (Ev_loadB (i := 0) rfl rfl rfl) rfl rfl ?_ | refine O_ev WideF.wide rfl (Ev_loadB (i := 2) rfl rfl rfl) rfl rfl ?_) | (show opsA _ _ _ _ (⟨_, .alloc _, _, _, _, _⟩ :: _) _ _; (refine O_ef rfl (Ef_alloc WideF.wide rfl ?_); intro b)) | (show opsA _ _ _ _ (⟨_, .store _ _ _, _, _, _, _⟩ :: _) _ _; refine O_ef rfl (Ef_storew WideF.wide rfl rfl rfl rfl rfl ?_))))
      exact Shift.to ⟨_, _, _, hle7, hcs7, rfl⟩ ⟨rfl, rfl, rfl, ⟨rfl, rfl, rfl, rfl, rfl, rfl, rfl, rfl, rfl, rfl, trivial⟩, Own.subi [1, 2, 3, 4, 5, 0] (by decide) rfl rfl⟩
    rintro s ⟨H7, cs7, b13, hle7, hcs7, rfl⟩
    obtain ⟨pa7, pn7, pc7, da7, dn7, dc7, la7, ln7, lc7, rfl, _, _, _⟩ := hcs7.ex
    have hle17 := hle16.trans hle7
    refine A_seq ?_
    refine A_cutu (fun s => ∃ (H8 : Hp) (cs8 : List Value), HLe H7 H8 ∧ HeadH H8 cs8 hU ∧ s = ⟨88, [(6, .bool false), (9, ptr b9), (10, .bool (!gU)), (11, ptr b11), (12, .bool (!gU)), (13, ptr b13), (14, .bool (!gU))], H8, [.box b9 [.slice pa9 pn9 pc9, .int .i64 hU.ins, .int .i64 hU.move, .slice da9 dn9 dc9, .slice la9 ln9 lc9], .box b11 [.slice pa6 pn6 pc6, .int .i64 hU.ins, .int .i64 hU.move, .slice da6 dn6 dc6, .slice la6 ln6 lc6], .box b13 cs8], [], []⟩) ?_ ?_
    · cases gB with
      | true =>
        obtain ⟨e1, e2⟩ := f3 rfl
        subst e1 e2
        repeat' (first | refine O_nil ?_ | refine A_seq ?_ | refine A_region ?_ | refine A_skip ?_ | (show opsA _ _ _ _ _ _ _; refine O_ev WideF.wide rfl (Ev_pure rfl) rfl rfl ?_) | (show wpA _ _ _ (.cond _ _ _) _ _ _ _; refine A_iffalse rfl ?_))
        exact Shift.to ⟨_, _, HLe.refl _, hcs7, rfl⟩ ⟨rfl, rfl, rfl, ⟨rfl, rfl, rfl, rfl, rfl, rfl, rfl, trivial⟩, Own.subi [3, 4, 5] (by decide) rfl rfl⟩
      | false =>
        obtain ⟨e1, e2⟩ := f4 rfl
        simp only [e1, e2] at hdBA
        repeat' (first | (refine O_ef rfl (Ef_call (I := []) WideF.wide (hdBA _ hle17 _ hcs7) ⟨rfl, rfl, trivial⟩ rfl ?_); rintro v H8 I8 hle8 ⟨⟨cs8, rfl, hcs8⟩, rfl⟩; obtain ⟨pa8, pn8, pc8, da8, dn8, dc8, la8, ln8, lc8, rfl, _, _, _⟩ := hcs8.ex) | refine O_nil ?_ | refine A_seq ?_ | refine A_region ?_ | (show opsA _ _ _ _ _ _ _; first | refine O_ev WideF.wide rfl (Ev_pure rfl) rfl rfl ?_ | (show opsA _ _ _ _ (⟨_, .load _ _, _, _, _, _⟩ :: _) _ _; first | refine O_ev WideF.wide rfl (Ev_loadB (i := 1) rfl rfl rfl) rfl rfl ?_ | refine O_ev WideF.wide rfl (Ev_loadB (i := 5) rfl rfl rfl) rfl rfl ?_) | (show opsA _ _ _ _ (⟨_, .store _ _ _, _, _, _, _⟩ :: _) _ _; refine O_f5 (O_ef rfl (Ef_storew WideF.wide rfl rfl rfl rfl rfl ?_)))) | (show wpA _ _ _ (.cond _ _ _) _ _ _ _; refine A_iftrue rfl ?_))
        exact Shift.to ⟨_, _, hle8, hcs8, rfl⟩ ⟨rfl, rfl, rfl, ⟨rfl, rfl, rfl, rfl, rfl, rfl, rfl, trivial⟩, Own.subi [4, 5, 0] (by decide) rfl rfl⟩
    rintro s ⟨H8, cs8, hle8, hcs8, rfl⟩
    have hx6 := hcs6.mono (hle7.trans hle8)
    have hx9 := hcs9.mono (hle5.trans (hle6.trans (hle7.trans hle8)))
    obtain ⟨pa8, pn8, pc8, da8, dn8, dc8, la8, ln8, lc8, rfl, _, _, _⟩ := hcs8.ex
    repeat' (first | (refine O_ev WideF.wide rfl (Ev_eqbs rfl rfl) rfl rfl ?_) | (refine O_ef rfl (Ef_callp WideF.wide (hEq _ _ _ hx6 hx9) ⟨rfl, rfl, trivial⟩ rfl ?_)) | (refine O_ef rfl (Ef_callp WideF.wide (hEq _ _ _ hcs8 hx9) ⟨rfl, rfl, trivial⟩ rfl ?_)) | refine O_nil ?_ | refine A_seq ?_ | refine A_region ?_ | refine A_ret ?_ | (show opsA _ _ _ _ _ _ _; first | refine O_ev WideF.wide rfl (Ev_pure rfl) rfl rfl ?_ | (show opsA _ _ _ _ (⟨_, .load _ _, _, _, _, _⟩ :: _) _ _; first | refine O_ev WideF.wide rfl (Ev_loadB (i := 0) rfl rfl rfl) rfl rfl ?_ | refine O_ev WideF.wide rfl (Ev_loadB (i := 1) rfl rfl rfl) rfl rfl ?_ | refine O_ev WideF.wide rfl (Ev_loadB (i := 2) rfl rfl rfl) rfl rfl ?_)))
    exact End_e (Ret1 rfl rfl) ⟨rfl, rfl⟩
  · have e23 := uniD_err cA cB hz
    have e : unD A B = (noD, 23) := by unfold unD; rw [if_neg (by simp [cA]), if_neg (by simp [cB]), if_pos hz, e23]
    rw [e] at hun
    refine A_seq ?_
    refine A_cutu (fun s => ∃ (H2 : Hp) (us : List Value) (b7 : Nat), HLe H1 H2 ∧ DecH H2 us noD ∧ s = ⟨88, [(6, .bool false), (8, .int .i64 23)], H2, [], [], []⟩) ?_ ?_
    · repeat' (first | (refine O_ef rfl (Ef_call (I := []) WideF.wide hun ⟨rfl, rfl, trivial⟩ rfl ?_); rintro v H2 I2 hle2 ⟨⟨us, rfl, hus⟩, rfl⟩; obtain ⟨ua, un, uc, va, vn, vc, rfl, k1, k2⟩ := hus.ex) | refine O_nil ?_ | refine A_region ?_ | (show opsA _ _ _ _ _ _ _; first | refine O_ev WideF.wide rfl (Ev_pure rfl) rfl rfl ?_ | (show opsA _ _ _ _ (⟨_, .load _ _, _, _, _, _⟩ :: _) _ _; first | refine O_ev WideF.wide rfl (Ev_loadB (i := 1) rfl rfl rfl) rfl rfl ?_ | refine O_ev WideF.wide rfl (Ev_loadB (i := 2) rfl rfl rfl) rfl rfl ?_) | (show opsA _ _ _ _ (⟨_, .alloc _, _, _, _, _⟩ :: _) _ _; (refine O_ef rfl (Ef_alloc WideF.wide rfl ?_); intro b)) | (show opsA _ _ _ _ (⟨_, .store _ _ _, _, _, _, _⟩ :: _) _ _; refine O_ef rfl (Ef_storew WideF.wide rfl rfl rfl rfl rfl ?_))))
      exact Shift.to ⟨_, _, b3, hle2, hus, rfl⟩ ⟨rfl, rfl, rfl, ⟨rfl, rfl, trivial⟩, Own.subi [] (by decide) rfl rfl⟩
    rintro s ⟨H2, us, b7, hle2, hus, rfl⟩
    repeat' (first | (refine O_ef rfl (Ef_call (I := []) WideF.wide known_fn trivial rfl ?_); rintro v H3 I3 hle3 ⟨rfl, rfl⟩) | refine O_nil ?_ | refine A_seq ?_ | refine A_region ?_ | refine A_ret ?_ | (show opsA _ _ _ _ _ _ _; first | refine O_ev WideF.wide rfl (Ev_pure rfl) rfl rfl ?_ | (show opsA _ _ _ _ (⟨_, .unOp _ _ _, _, _, _, _⟩ :: _) _ _; refine O_ev WideF.wide rfl (Ev_notb rfl) rfl rfl ?_)) | (show wpA _ _ _ (.cond _ _ _) _ _ _ _; (refine A_if rfl (fun h => ?_) (fun h => ?_) <;> try (exfalso; omega))))
    all_goals first
      | (exfalso; omega)
      | exact End_e (Ret1 rfl rfl) ⟨rfl, rfl⟩
end Go.Proofs.Ythniohgeojenaaa
