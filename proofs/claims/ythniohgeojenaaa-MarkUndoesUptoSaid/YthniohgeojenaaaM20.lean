/-
  MarkDecides: the walk.
-/
import Derived.Test.YthniohgeojenaaaM22
namespace Go.Proofs.Ythniohgeojenaaa
open Go
set_option linter.unusedVariables false
set_option linter.unusedSimpArgs false
theorem walkG_len {rej : Int → Bool} {p : St} : ∀ (l : List Layr) (now : St), (walkG rej p now l).2.length ≤ l.length
  | [], now => by simp [walkG]
  | y :: r, now => by
    have h1 := walkG_len (rej := rej) (p := p) r now
    have h2 := walkG_len (rej := rej) (p := p) r (nxt p r)
    rw [walkG]
    split
    · simp; omega
    · simp; omega
theorem stepG_len (acc rej : Int → Bool) (p : St) (g : List Layr) : (stepG acc rej p g).2.length ≤ g.length := by
  have h := walkG_len (rej := rej) (p := p) (g.drop (firstA acc g)) (nxt p (g.drop (firstA acc g)))
  rw [List.length_drop] at h
  unfold stepG
  omega
theorem decL_len {acc rej : Int → Bool} {pr0 : List Prp} : ∀ (n : Nat) (l : List Layr) (pr : List Prp) (out : List Layr), l.length ≤ n → (decL acc rej pr0 l pr out).1.length ≤ pr.length + l.length ∧ (decL acc rej pr0 l pr out).2.length ≤ out.length + l.length
  | n, [], pr, out, _ => by rw [decL_nil]; simp
  | 0, y :: r, pr, out, h => by simp at h
  | n + 1, y :: r, pr, out, h => by
    have hm : 1 ≤ grp y.key (y :: r) := by rw [grp, if_pos rfl]; omega
    have hle := grp_le y.key (y :: r)
    rw [decL_step (l := y :: r) (y := y) (m := grp y.key (y :: r)) rfl rfl]
    have ih := decL_len (acc := acc) (rej := rej) (pr0 := pr0) n ((y :: r).drop (grp y.key (y :: r))) (withP pr y.key (stepG acc rej (getP pr0 y.key) ((y :: r).take (grp y.key (y :: r)))).1) (out ++ (stepG acc rej (getP pr0 y.key) ((y :: r).take (grp y.key (y :: r)))).2) (by rw [List.length_drop]; simp at h ⊢; omega)
    have h1 := withP_len pr y.key (stepG acc rej (getP pr0 y.key) ((y :: r).take (grp y.key (y :: r)))).1
    have h2 := stepG_len acc rej (getP pr0 y.key) ((y :: r).take (grp y.key (y :: r)))
    rw [List.length_drop, List.length_append] at ih
    rw [List.length_take] at h2
    omega
theorem decH_mass (acc rej : Int → Bool) (q : Head) : (decH acc rej q).mass ≤ q.mass + q.layers.length := by
  have h := decL_len (acc := acc) (rej := rej) (pr0 := q.props) q.layers.length q.layers q.props [] (Nat.le_refl _)
  have h2 : (q.dels.filter (fun d => !rej d.rev)).length ≤ q.dels.length := List.length_filter_le _ _
  unfold decH
  split
  · simp [Head.none, Head.mass]
  · unfold Head.mass
    simp only [List.length_nil] at h
    simp only
    omega
attribute [local irreducible] wpA opsA drJ drQ drE Ef Ev Shift Fn
set_option maxRecDepth 100000 in
set_option maxHeartbeats 4000000 in
theorem MarkDecides_fn {H : Hp} {hcs dcs : List Value} {q : Head} {d : Dec} (hh : HeadH H hcs q) (hd : DecH H dcs d) (hl : q.mass < 1073741824) (m1 : d.acc.length < 1073741824) (m2 : d.rej.length < 1073741824) :
    Fn Try.prog 3 [.agg hcs.toArray, .agg dcs.toArray] H [] fun v _ I' => v = .bool true ∧ I' = [] := by
  obtain ⟨pa, pn, pc, da, dn, dc, la, ln, lc, rfl, h1, h2, h3⟩ := hh.ex
  obtain ⟨aa, an, ac, ra, rn, rc, rfl, g1, g2⟩ := hd.ex
  have ho := ordered_fn hh hl
  have hv := fun Hx (hx : HLe H Hx) => valid_fn (hd.mono hx) m1 m2
  refine Fn_of _ _ Try.func3 rfl Try.ntmps3 rfl fun c => ?_
  refine A_seq ?_
  refine A_cutu (fun s => ∃ b2 b3, s = ⟨38, [(2, ptr b2), (3, ptr b3), (4, .bool false)], H, [.box b2 [.slice pa pn pc, .int .i64 q.ins, .int .i64 q.move, .slice da dn dc, .slice la ln lc], .box b3 [.slice aa an ac, .slice ra rn rc]], [], []⟩) ?_ ?_
  · repeat' (first | refine O_nil ?_ | refine A_region ?_ | (show opsA _ _ _ _ _ _ _; first | refine O_ev WideF.wide rfl (Ev_pure rfl) rfl rfl ?_ | (show opsA _ _ _ _ (⟨_, .box _ _, _, _, _, _⟩ :: _) _ _; (refine O_ef rfl (Ef_boxa WideF.wide rfl rfl ?_); intro b))))
    exact Shift.to ⟨_, _, rfl⟩ ⟨rfl, rfl, rfl, ⟨rfl, rfl, rfl, trivial⟩, Own.subi [1, 0] (by decide) rfl rfl⟩
  rintro s ⟨b2, b3, rfl⟩
  refine A_seq ?_
  refine A_cutu (fun s => ∃ (H1 : Hp) (cs1 ds1 : List Value), HeadH H1 cs1 (ordH q) ∧ DecH H1 ds1 (validD d) ∧ s = ⟨38, [(2, ptr b2), (3, ptr b3), (4, .bool false)], H1, [.box b2 cs1, .box b3 ds1], [], []⟩) ?_ ?_
  · (refine A_drawi WideF.wide (.q 0 (.q 2 (.e 1 (.r (.e 3 (.e 4 (.e 5 (.done [])))))))) [3, 4, 5] [] [0, 1] (by decide +kernel) (by decide) rfl ?_; simp only [Own.picks, Own.rget, List.cons_append, List.nil_append, List.append_nil])
    repeat' (first | (refine E_ef rfl (Ef_call (I := []) WideF.wide ho ⟨rfl, trivial⟩ rfl ?_); rintro v H1 I1 hle1 ⟨⟨cs1, rfl, hcs1⟩, rfl⟩; obtain ⟨pa1, pn1, pc1, da1, dn1, dc1, la1, ln1, lc1, rfl, h11, h21, h31⟩ := hcs1.ex; refine ⟨⟨hle1, rfl⟩, ?_⟩) | (refine E_ef rfl (Ef_call (I := []) WideF.wide (hv _ hle1) ⟨rfl, trivial⟩ rfl ?_); rintro v H2 I2 hle2 ⟨⟨ds2, rfl, hds2⟩, rfl⟩; obtain ⟨aa2, an2, ac2, ra2, rn2, rc2, rfl, g12, g22⟩ := hds2.ex; refine ⟨⟨hle2, rfl⟩, ?_⟩) | refine O_nil ?_ | (show drJ _ _ _ _ _ _ _ (.q _ _) _; refine D_q rfl ?_) | (show drJ _ _ _ _ _ _ _ (.e _ _) _; refine D_e rfl ?_) | (show drJ _ _ _ _ _ _ _ (.r _) _; refine D_r ?_; simp only [List.cons_append, List.nil_append]) | (show drJ _ _ _ _ _ _ _ (.done _) _; refine D_done ?_; simp only [List.cons_append, List.nil_append]) | (show drQ _ _ _ _ _ _; (show drQ _ _ _ ⟨_, .load _ _, _, _, _, _⟩ _ _; first | refine D_ev rfl (Ev_loadB (i := 0) rfl rfl rfl) rfl rfl ?_ | refine D_ev rfl (Ev_loadB (i := 1) rfl rfl rfl) rfl rfl ?_)) | (show drE _ _ _ _ _ _ _; (show drE _ _ _ _ ⟨_, .store _ _ _, _, _, _, _⟩ _ _; first | (refine E_ef rfl (Ef_storew WideF.wide rfl rfl rfl rfl rfl ?_); refine ⟨Grow.same rfl rfl, ?_⟩) | (refine E_ef rfl (Ef_f1 (Ef_storew WideF.wide rfl rfl rfl rfl rfl ?_)); refine ⟨Grow.same rfl rfl, ?_⟩))))
    exact Shift.to ⟨_, _, _, hcs1.mono hle2, hds2, rfl⟩ ⟨rfl, rfl, rfl, ⟨rfl, rfl, rfl, trivial⟩, Own.subi [1, 0] (by decide) rfl rfl⟩
  rintro s ⟨H1, cs1, ds1, hcs1, hds1, rfl⟩
  obtain ⟨pa1, pn1, pc1, da1, dn1, dc1, la1, ln1, lc1, rfl, h11, h21, h31⟩ := hcs1.ex
  obtain ⟨aa1, an1, ac1, ra1, rn1, rc1, rfl, g11, g21⟩ := hds1.ex
  have hmass := ordH_mass q
  have b1 : (validD d).acc.length < 68719476736 := by
    have h1 := sortI_len (validA d.acc)
    have h2 : (validA d.acc).length ≤ (d.acc.take 40).length := List.length_filter_le _ _
    rw [List.length_take] at h2
    show (sortI (validA d.acc)).length < _
    omega
  have b2' : (validD d).rej.length < 68719476736 := by
    have h1 := sortI_len (validR (sortI (validA d.acc)) d.rej)
    have h2 : (validR (sortI (validA d.acc)) d.rej).length ≤ (d.rej.take 40).length := List.length_filter_le _ _
    rw [List.length_take] at h2
    show (sortI (validR (sortI (validA d.acc)) d.rej)).length < _
    omega
  have hdc := Decide_fn hcs1 hds1 (ordH_inc q) (by omega) (sortI_inc _) (sortI_inc _) b1 b2'
  have ea : an1 = (validD d).acc.length := by have := g11.len; simpa using this.symm
  have er : rn1 = (validD d).rej.length := by have := g21.len; simpa using this.symm
  have b1'' : an1 < 1073741824 := by
    have h1 := sortI_len (validA d.acc)
    have h2 : (validA d.acc).length ≤ (d.acc.take 40).length := List.length_filter_le _ _
    rw [List.length_take] at h2
    have h3 : (validD d).acc.length = (sortI (validA d.acc)).length := rfl
    omega
  have b2'' : rn1 < 1073741824 := by
    have h1 := sortI_len (validR (sortI (validA d.acc)) d.rej)
    have h2 : (validR (sortI (validA d.acc)) d.rej).length ≤ (d.rej.take 40).length := List.length_filter_le _ _
    rw [List.length_take] at h2
    have h3 : (validD d).rej.length = (sortI (validR (sortI (validA d.acc)) d.rej)).length := rfl
    omega
  have hlw := fun Hx (hx : HLe H1 Hx) => lawDecide_fn (d := validD d) (hcs1.mono hx) (ordH_inc q) (by omega) (g11.mono hx) (g21.mono hx) b1'' b2''
  have heq := law_eq (acc := (validD d).accB) (rej := (validD d).rejB) (ordH_asc q) (ordH_ok q)
  refine A_seq ?_
  refine A_cutu (fun s => ∃ (H2 : Hp) (cs2 : List Value) (b5 : Nat), HLe H1 H2 ∧ HeadH H2 cs2 (decH (validD d).accB (validD d).rejB (ordH q)) ∧ s = ⟨38, [(2, ptr b2), (3, ptr b3), (4, .bool false), (5, ptr b5), (6, .bool (!goneB (validD d).accB (validD d).rejB (ordH q)))], H2, [.box b2 [.slice pa1 pn1 pc1, .int .i64 (ordH q).ins, .int .i64 (ordH q).move, .slice da1 dn1 dc1, .slice la1 ln1 lc1], .box b3 [.slice aa1 an1 ac1, .slice ra1 rn1 rc1], .box b5 cs2], [], []⟩) ?_ ?_
  · repeat' (first | (refine O_ef rfl (Ef_call (I := []) WideF.wide hdc ⟨rfl, rfl, trivial⟩ rfl ?_); rintro v H2 I2 hle2 ⟨⟨cs2, rfl, hcs2⟩, rfl⟩; obtain ⟨pa2, pn2, pc2, da2, dn2, dc2, la2, ln2, lc2, rfl, h12, h22, h32⟩ := hcs2.ex) | refine O_nil ?_ | refine A_region ?_ | (show opsA _ _ _ _ _ _ _; first | refine O_ev WideF.wide rfl (Ev_pure rfl) rfl rfl ?_ | (show opsA _ _ _ _ (⟨_, .load _ _, _, _, _, _⟩ :: _) _ _; first | refine O_ev WideF.wide rfl (Ev_loadB (i := 0) rfl rfl rfl) rfl rfl ?_ | refine O_ev WideF.wide rfl (Ev_loadB (i := 1) rfl rfl rfl) rfl rfl ?_) | (show opsA _ _ _ _ (⟨_, .alloc _, _, _, _, _⟩ :: _) _ _; (refine O_ef rfl (Ef_alloc WideF.wide rfl ?_); intro b)) | (show opsA _ _ _ _ (⟨_, .store _ _ _, _, _, _, _⟩ :: _) _ _; refine O_ef rfl (Ef_storew WideF.wide rfl rfl rfl rfl rfl ?_))))
    exact Shift.to ⟨H2, _, _, hle2, hcs2, rfl⟩ ⟨rfl, rfl, rfl, ⟨rfl, rfl, rfl, rfl, rfl, trivial⟩, Own.subi [1, 2, 0] (by decide) rfl rfl⟩
  rintro s ⟨H2, cs2, b5, hle2, hcs2, rfl⟩
  refine A_seq ?_
  refine A_cutu (fun s => ∃ (H3 : Hp) (cs3 : List Value) (b7 : Nat), HLe H2 H3 ∧ HeadH H3 cs3 (decH (validD d).accB (validD d).rejB (ordH q)) ∧ s = ⟨38, [(4, .bool false), (5, ptr b5), (6, .bool (!goneB (validD d).accB (validD d).rejB (ordH q))), (7, ptr b7), (8, .bool (!goneB (validD d).accB (validD d).rejB (ordH q)))], H3, [.box b5 cs2, .box b7 cs3], [], []⟩) ?_ ?_
  · repeat' (first | (refine O_ef rfl (Ef_call (I := []) WideF.wide (hlw _ hle2) ⟨rfl, rfl, rfl, trivial⟩ rfl ?_); rintro v H3 I3 hle3 ⟨⟨cs3, rfl, hcs3⟩, rfl⟩; rw [heq] at hcs3; obtain ⟨pa3, pn3, pc3, da3, dn3, dc3, la3, ln3, lc3, rfl, h13, h23, h33⟩ := hcs3.ex) | refine O_nil ?_ | refine A_region ?_ | (show opsA _ _ _ _ _ _ _; first | refine O_ev WideF.wide rfl (Ev_pure rfl) rfl rfl ?_ | (show opsA _ _ _ _ (⟨_, .load _ _, _, _, _, _⟩ :: _) _ _; first | refine O_ev WideF.wide rfl (Ev_loadB1 (i := 1) rfl rfl rfl) rfl rfl ?_ | refine O_ev WideF.wide rfl (Ev_loadB (i := 0) rfl rfl rfl) rfl rfl ?_) | (show opsA _ _ _ _ (⟨_, .fieldAddr _ _ _, _, _, _, _⟩ :: _) _ _; refine O_ev WideF.wide rfl (Ev_fieldAddr rfl rfl rfl) rfl rfl ?_) | (show opsA _ _ _ _ (⟨_, .alloc _, _, _, _, _⟩ :: _) _ _; (refine O_ef rfl (Ef_alloc WideF.wide rfl ?_); intro b)) | (show opsA _ _ _ _ (⟨_, .store _ _ _, _, _, _, _⟩ :: _) _ _; refine O_ef rfl (Ef_storew WideF.wide rfl rfl rfl rfl rfl ?_))))
    exact Shift.to ⟨H3, _, _, hle3, hcs3, rfl⟩ ⟨rfl, rfl, rfl, ⟨rfl, rfl, rfl, rfl, rfl, trivial⟩, Own.subi [3, 0] (by decide) rfl rfl⟩
  rintro s ⟨H3, cs3, b7, hle3, hcs3, rfl⟩
  have hm : (decH (validD d).accB (validD d).rejB (ordH q)).mass < 68719476736 := by
    have h1 := decH_mass (validD d).accB (validD d).rejB (ordH q)
    have h2 : (ordH q).layers.length ≤ (ordH q).mass := by unfold Head.mass; omega
    omega
  have heqh := fun Hx (hx : HLe H3 Hx) => EqualHead_fn (hcs2.mono (hle3.trans hx)) (hcs3.mono hx) hm
  simp only [decide_true] at heqh
  obtain ⟨pa2, pn2, pc2, da2, dn2, dc2, la2, ln2, lc2, rfl, h12, h22, h32⟩ := hcs2.ex
  obtain ⟨pa3, pn3, pc3, da3, dn3, dc3, la3, ln3, lc3, rfl, h13, h23, h33⟩ := hcs3.ex
  repeat' (first | (refine O_ef rfl (Ef_call (I := []) WideF.wide known_fn trivial rfl ?_); rintro v H4 I4 hle4 ⟨rfl, rfl⟩) | (refine O_ev WideF.wide rfl (Ev_nebs rfl rfl) rfl rfl ?_) | (refine O_ef rfl (Ef_callp WideF.wide (heqh _ hle4) ⟨rfl, rfl, trivial⟩ rfl ?_)) | refine O_nil ?_ | refine A_seq ?_ | refine A_region ?_ | refine A_skip ?_ | refine A_ret ?_ | (show opsA _ _ _ _ _ _ _; first | refine O_ev WideF.wide rfl (Ev_pure rfl) rfl rfl ?_ | (show opsA _ _ _ _ (⟨_, .load _ _, _, _, _, _⟩ :: _) _ _; first | refine O_ev WideF.wide rfl (Ev_loadB (i := 0) rfl rfl rfl) rfl rfl ?_ | refine O_ev WideF.wide rfl (Ev_loadB (i := 1) rfl rfl rfl) rfl rfl ?_) | (show opsA _ _ _ _ (⟨_, .unOp _ _ _, _, _, _, _⟩ :: _) _ _; refine O_ev WideF.wide rfl (Ev_notb rfl) rfl rfl ?_)) | (show wpA _ _ _ (.cond _ _ _) _ _ _ _; refine A_iffalse rfl ?_))
  exact End_e (Ret1 rfl rfl) ⟨rfl, rfl⟩
end Go.Proofs.Ythniohgeojenaaa
