/-
  MarkRemains.
-/
import Derived.Test.YthniohgeojenaaaS4
import Derived.Test.YthniohgeojenaaaM20
import Derived.Test.YthniohgeojenaaaM26
namespace Go.Proofs.Ythniohgeojenaaa
open Go
set_option linter.unusedVariables false
set_option linter.unusedSimpArgs false
/-! ### the plain law -/
theorem walk_revs {rej : Int → Bool} {p : St} : ∀ (l : List Layr) (now : St), ∀ y ∈ (walkG rej p now l).2, ∃ z ∈ l, y.rev = z.rev ∧ rej z.rev = false
  | [], now, y, h => by simp [walkG] at h
  | z :: r, now, y, h => by
    rw [walkG] at h
    split at h
    · obtain ⟨w, hw, h1, h2⟩ := walk_revs r now y h
      exact ⟨w, List.mem_cons_of_mem _ hw, h1, h2⟩
    · rename_i hz
      rcases List.mem_cons.1 h with rfl | h
      · exact ⟨z, by simp, rfl, by simpa using hz⟩
      · obtain ⟨w, hw, h1, h2⟩ := walk_revs r _ y h
        exact ⟨w, List.mem_cons_of_mem _ hw, h1, h2⟩
theorem drop_acc {acc : Int → Bool} : ∀ {l : List Layr}, ∀ z ∈ l.drop (firstA acc l), acc z.rev = false
  | [], z, h => by simp at h
  | y :: r, z, h => by
    rw [firstA] at h
    split at h
    · rw [List.drop_succ_cons] at h; exact drop_acc z h
    · rename_i h0
      have h0 : firstA acc r = 0 := by omega
      split at h
      · rw [List.drop_succ_cons] at h
        exact drop_acc z (by rw [h0]; exact h)
      · rename_i hy
        rw [List.drop_zero] at h
        rcases List.mem_cons.1 h with rfl | h
        · simpa using hy
        · exact drop_acc z (by rw [h0]; exact h)
/-- what is left uses no decided revision, and no other ones -/
theorem rem_revs {acc rej : Int → Bool} {q : Head} (hq : Good q) (hg : goneB acc rej q = false) : ∀ x ∈ revsL (decH acc rej q), acc x = false ∧ rej x = false ∧ x ∈ revsL q := by
  intro x hx
  have hs := decH_spec hq hg
  unfold goneB at hg
  rw [Bool.or_eq_false_iff] at hg
  unfold revsL at hx ⊢
  rcases List.mem_append.1 hx with hx | hx
  · rcases List.mem_append.1 hx with hx | hx
    · unfold revs0 at hx
      split at hx
      · cases hx
      · rename_i hi
        simp only [List.mem_singleton] at hx
        rw [hs.ins] at hi hx
        by_cases h1 : (decide (q.ins ≠ 0) && acc q.ins) = true
        · rw [if_pos h1] at hi; exact absurd rfl hi
        · rw [if_neg h1] at hi hx
          subst hx
          have hd : decide (q.ins ≠ 0) = true := decide_eq_true hi
          rw [hd, Bool.true_and] at h1 hg
          refine ⟨by simpa using h1, hg.1, ?_⟩
          apply List.mem_append_left; apply List.mem_append_left
          unfold revs0; rw [if_neg hi]; simp
    · rw [hs.dels] at hx
      obtain ⟨d, hd, rfl⟩ := List.mem_map.1 hx
      obtain ⟨hd1, hd2⟩ := List.mem_filter.1 hd
      refine ⟨by have := List.any_eq_false.1 hg.2 d hd1; simpa using this, by simpa using hd2, ?_⟩
      apply List.mem_append_left; apply List.mem_append_right
      exact List.mem_map_of_mem hd1
  · obtain ⟨y, hy, rfl⟩ := List.mem_map.1 hx
    have hyk : y ∈ layersK (decH acc rej q).layers y.key := layersK_mem.2 ⟨hy, rfl⟩
    rw [hs.layers] at hyk
    obtain ⟨z, hz, h1, h2⟩ := walk_revs _ _ y hyk
    have h3 := drop_acc z hz
    have h4 := (layersK_mem.1 (List.mem_of_mem_drop hz)).1
    rw [h1]
    exact ⟨h3, h2, List.mem_append_right _ (List.mem_map_of_mem h4)⟩
attribute [local irreducible] wpA opsA drJ drQ drE Ef Ev Shift Fn
set_option maxRecDepth 100000 in
set_option maxHeartbeats 8000000 in
theorem MarkRemains_fn {H : Hp} {hcs dcs : List Value} {q : Head} {d : Dec} (hh : HeadH H hcs q) (hd : DecH H dcs d) (hl : q.mass < 1073741824) (m1 : d.acc.length < 1073741824) (m2 : d.rej.length < 1073741824) :
    Fn Try.prog 9 [.agg hcs.toArray, .agg dcs.toArray] H [] fun v _ I' => v = .bool true ∧ I' = [] := by
  obtain ⟨pa, pn, pc, da, dn, dc, la, ln, lc, rfl, h1, h2, h3⟩ := hh.ex
  obtain ⟨aa, an, ac, ra, rn, rc, rfl, g1, g2⟩ := hd.ex
  have ho := ordered_fn hh hl
  have hv := fun Hx (hx : HLe H Hx) => valid_fn (hd.mono hx) m1 m2
  refine Fn_of _ _ Try.func9 rfl Try.ntmps9 rfl fun c => ?_
  refine A_seq ?_
  refine A_cutu (fun s => ∃ b2 b3, s = ⟨63, [(2, ptr b2), (3, ptr b3), (4, .bool false)], H, [.box b2 [.slice pa pn pc, .int .i64 q.ins, .int .i64 q.move, .slice da dn dc, .slice la ln lc], .box b3 [.slice aa an ac, .slice ra rn rc]], [], []⟩) ?_ ?_
  · repeat' (first | refine O_nil ?_ | refine A_region ?_ | (show opsA _ _ _ _ _ _ _; first | refine O_ev WideF.wide rfl (Ev_pure rfl) rfl rfl ?_ | (show opsA _ _ _ _ (⟨_, .box _ _, _, _, _, _⟩ :: _) _ _; (refine O_ef rfl (Ef_boxa WideF.wide rfl rfl ?_); intro b))))
    exact Shift.to ⟨_, _, rfl⟩ ⟨rfl, rfl, rfl, ⟨rfl, rfl, rfl, trivial⟩, Own.subi [1, 0] (by decide) rfl rfl⟩
  rintro s ⟨b2, b3, rfl⟩
  refine A_seq ?_
  refine A_cutu (fun s => ∃ (H1 : Hp) (cs1 ds1 : List Value), HeadH H1 cs1 (ordH q) ∧ DecH H1 ds1 (validD d) ∧ s = ⟨63, [(2, ptr b2), (3, ptr b3), (4, .bool false)], H1, [.box b2 cs1, .box b3 ds1], [], []⟩) ?_ ?_
  · (refine A_drawi WideF.wide (.q 0 (.q 2 (.e 1 (.r (.e 3 (.e 4 (.e 5 (.done [])))))))) [3, 4, 5] [] [0, 1] (by decide +kernel) (by decide) rfl ?_; simp only [Own.picks, Own.rget, List.cons_append, List.nil_append, List.append_nil])
    repeat' (first | (refine E_ef rfl (Ef_call (I := []) WideF.wide ho ⟨rfl, trivial⟩ rfl ?_); rintro v H1 I1 hle1 ⟨⟨cs1, rfl, hcs1⟩, rfl⟩; obtain ⟨pa1, pn1, pc1, da1, dn1, dc1, la1, ln1, lc1, rfl, h11, h21, h31⟩ := hcs1.ex; refine ⟨⟨hle1, rfl⟩, ?_⟩) | (refine E_ef rfl (Ef_call (I := []) WideF.wide (hv _ hle1) ⟨rfl, trivial⟩ rfl ?_); rintro v H2 I2 hle2 ⟨⟨ds2, rfl, hds2⟩, rfl⟩; obtain ⟨aa2, an2, ac2, ra2, rn2, rc2, rfl, g12, g22⟩ := hds2.ex; refine ⟨⟨hle2, rfl⟩, ?_⟩) | refine O_nil ?_ | (show drJ _ _ _ _ _ _ _ (.q _ _) _; refine D_q rfl ?_) | (show drJ _ _ _ _ _ _ _ (.e _ _) _; refine D_e rfl ?_) | (show drJ _ _ _ _ _ _ _ (.r _) _; refine D_r ?_; simp only [List.cons_append, List.nil_append]) | (show drJ _ _ _ _ _ _ _ (.done _) _; refine D_done ?_; simp only [List.cons_append, List.nil_append]) | (show drQ _ _ _ _ _ _; (show drQ _ _ _ ⟨_, .load _ _, _, _, _, _⟩ _ _; first | refine D_ev rfl (Ev_loadB (i := 0) rfl rfl rfl) rfl rfl ?_ | refine D_ev rfl (Ev_loadB (i := 1) rfl rfl rfl) rfl rfl ?_)) | (show drE _ _ _ _ _ _ _; (show drE _ _ _ _ ⟨_, .store _ _ _, _, _, _, _⟩ _ _; first | (refine E_ef rfl (Ef_storew WideF.wide rfl rfl rfl rfl rfl ?_); refine ⟨Grow.same rfl rfl, ?_⟩) | (refine E_ef rfl (Ef_f1 (Ef_storew WideF.wide rfl rfl rfl rfl rfl ?_)); refine ⟨Grow.same rfl rfl, ?_⟩))))
    exact Shift.to ⟨_, _, _, hcs1.mono hle2, hds2, rfl⟩ ⟨rfl, rfl, rfl, ⟨rfl, rfl, rfl, trivial⟩, Own.subi [1, 0] (by decide) rfl rfl⟩
  rintro s ⟨H1, cs1, ds1, hcs1, hds1, rfl⟩
  obtain ⟨pa1, pn1, pc1, da1, dn1, dc1, la1, ln1, lc1, rfl, h11, h21, h31⟩ := hcs1.ex
  obtain ⟨aa1, an1, ac1, ra1, rn1, rc1, rfl, g11, g21⟩ := hds1.ex
  have hgood := ordH_good q
  have hmass := ordH_mass q
  have b1 : (validD d).acc.length ≤ 40 := by
    have h1 := sortI_len (validA d.acc)
    have h2 : (validA d.acc).length ≤ (d.acc.take 40).length := List.length_filter_le _ _
    rw [List.length_take] at h2
    show (sortI (validA d.acc)).length ≤ _
    omega
  have b2' : (validD d).rej.length ≤ 40 := by
    have h1 := sortI_len (validR (sortI (validA d.acc)) d.rej)
    have h2 : (validR (sortI (validA d.acc)) d.rej).length ≤ (d.rej.take 40).length := List.length_filter_le _ _
    rw [List.length_take] at h2
    show (sortI (validR (sortI (validA d.acc)) d.rej)).length ≤ _
    omega
  have hdc := Decide_fn hcs1 hds1 hgood.inc (by omega) (sortI_inc _) (sortI_inc _) (by omega) (by omega)
  generalize ordH q = o at *
  generalize validD d = dd at *
  have ea : dd.acc.length = an1 := by have := g11.len; simpa using this
  have er : dd.rej.length = rn1 := by have := g21.len; simpa using this
  have l2 := h21.len
  have l3 := h31.len
  simp only [List.length_map] at l2 l3
  have hm := hmass
  unfold Head.mass at hm
  have hma : ∀ Hx, HLe H1 Hx → ∀ x, FnP Try.prog 40 [.slice aa1 an1 ac1, .int .i64 x] Hx (.bool (dd.accB x)) := fun Hx hx x => lhas_fn (g11.mono hx) (by omega)
  have hmr : ∀ Hx, HLe H1 Hx → ∀ x, FnP Try.prog 40 [.slice ra1 rn1 rc1, .int .i64 x] Hx (.bool (dd.rejB x)) := fun Hx hx x => lhas_fn (g21.mono hx) (by omega)
  have hus : ∀ Hx, HLe H1 Hx → ∀ x, _ := fun Hx hx x => Uses_fn (rev := x) (hcs1.mono hx) (by omega)
  have hdm := decH_mass dd.accB dd.rejB o
  generalize dd.accB = acc at *
  generalize dd.rejB = rej at *
  refine A_seq ?_
  refine A_cutu (fun s => ∃ (H2 : Hp) (cs2 : List Value) (b5 : Nat), HLe H1 H2 ∧ HeadH H2 cs2 (decH acc rej o) ∧ s = ⟨63, [(2, ptr b2), (3, ptr b3), (4, .bool false), (5, ptr b5), (6, .bool (!goneB acc rej o))], H2, [.box b2 [.slice pa1 pn1 pc1, .int .i64 o.ins, .int .i64 o.move, .slice da1 dn1 dc1, .slice la1 ln1 lc1], .box b3 [.slice aa1 an1 ac1, .slice ra1 rn1 rc1], .box b5 cs2], [], []⟩) ?_ ?_
  · repeat' (first | (refine O_ef rfl (Ef_call (I := []) WideF.wide hdc ⟨rfl, rfl, trivial⟩ rfl ?_); rintro v H2 I2 hle2 ⟨⟨cs2, rfl, hcs2⟩, rfl⟩; obtain ⟨pa2, pn2, pc2, da2, dn2, dc2, la2, ln2, lc2, rfl, h12, h22, h32⟩ := hcs2.ex) | refine O_nil ?_ | refine A_region ?_ | (show opsA _ _ _ _ _ _ _; first | refine O_ev WideF.wide rfl (Ev_pure rfl) rfl rfl ?_ | (show opsA _ _ _ _ (⟨_, .load _ _, _, _, _, _⟩ :: _) _ _; first | refine O_ev WideF.wide rfl (Ev_loadB (i := 0) rfl rfl rfl) rfl rfl ?_ | refine O_ev WideF.wide rfl (Ev_loadB (i := 1) rfl rfl rfl) rfl rfl ?_) | (show opsA _ _ _ _ (⟨_, .alloc _, _, _, _, _⟩ :: _) _ _; (refine O_ef rfl (Ef_alloc WideF.wide rfl ?_); intro b)) | (show opsA _ _ _ _ (⟨_, .store _ _ _, _, _, _, _⟩ :: _) _ _; refine O_ef rfl (Ef_storew WideF.wide rfl rfl rfl rfl rfl ?_))))
    exact Shift.to ⟨H2, _, _, hle2, hcs2, rfl⟩ ⟨rfl, rfl, rfl, ⟨rfl, rfl, rfl, rfl, rfl, trivial⟩, Own.subi [1, 2, 0] (by decide) rfl rfl⟩
  rintro s ⟨H2, cs2, b5, hle2, hcs2, rfl⟩
  cases hgo : goneB acc rej o with
  | true =>
    rw [decH_gone hgo] at hcs2
    have hgn := fun Hx (hx : HLe H2 Hx) => gone_fn (hcs2.mono hx) (by decide)
    simp only [decide_true] at hgn
    obtain ⟨pa2, pn2, pc2, da2, dn2, dc2, la2, ln2, lc2, rfl, _, _, _⟩ := hcs2.ex
    repeat' (first | (have hle24 := hle3; refine O_ef rfl (Ef_call (I := []) WideF.wide known_fn trivial rfl ?_); rintro v H4 I4 hle4 ⟨rfl, rfl⟩) | (refine O_ef rfl (Ef_call (I := []) WideF.wide known_fn trivial rfl ?_); rintro v H3 I3 hle3 ⟨rfl, rfl⟩) | (refine O_ef rfl (Ef_callp WideF.wide (hgn _ (hle3.trans hle4)) ⟨rfl, trivial⟩ rfl ?_)) | refine O_nil ?_ | refine A_seq ?_ | refine A_region ?_ | refine A_ret ?_ | (show opsA _ _ _ _ _ _ _; first | refine O_ev WideF.wide rfl (Ev_pure rfl) rfl rfl ?_ | (show opsA _ _ _ _ (⟨_, .load _ _, _, _, _, _⟩ :: _) _ _; refine O_ev WideF.wide rfl (Ev_loadB (i := 2) rfl rfl rfl) rfl rfl ?_) | (show opsA _ _ _ _ (⟨_, .unOp _ _ _, _, _, _, _⟩ :: _) _ _; refine O_ev WideF.wide rfl (Ev_notb rfl) rfl rfl ?_)) | (show wpA _ _ _ (.cond _ _ _) _ _ _ _; refine A_iftrue rfl ?_))
    all_goals exact End_e (Ret1 rfl rfl) ⟨rfl, rfl⟩
  | false =>
    have hrem := rem_revs hgood hgo
    have hrv := fun Hx (hx : HLe H2 Hx) => Revs_fn (hcs2.mono hx) (by omega)
    obtain ⟨pa2, pn2, pc2, da2, dn2, dc2, la2, ln2, lc2, rfl, _, _, _⟩ := hcs2.ex
    repeat' (first | (refine O_ef rfl (Ef_call (I := []) WideF.wide known_fn trivial rfl ?_); rintro v H3 I3 hle3 ⟨rfl, rfl⟩) | (refine O_ef rfl (Ef_call (I := []) WideF.wide (hrv _ hle3) ⟨rfl, trivial⟩ rfl ?_); rintro v H4 I4 hle4 ⟨⟨va, vn, vc, rfl, hvr⟩, rfl⟩) | refine O_nil ?_ | refine A_seq ?_ | refine A_region ?_ | refine A_skip ?_ | refine A_block ?_ | (show opsA _ _ _ _ _ _ _; first | refine O_ev WideF.wide rfl (Ev_pure rfl) rfl rfl ?_ | (show opsA _ _ _ _ (⟨_, .load _ _, _, _, _, _⟩ :: _) _ _; refine O_ev WideF.wide rfl (Ev_loadB (i := 2) rfl rfl rfl) rfl rfl ?_) | (show opsA _ _ _ _ (⟨_, .unOp _ _ _, _, _, _, _⟩ :: _) _ _; refine O_ev WideF.wide rfl (Ev_notb rfl) rfl rfl ?_)) | (show wpA _ _ _ (.cond _ _ _) _ _ _ _; refine A_iffalse rfl ?_))
    have hvl : (sortI (revsL (decH acc rej o))).length = vn := by have := hvr.len; simpa using this
    have hle14 := hle2.trans (hle3.trans hle4)
    have hsl := sortI_len (revsL (decH acc rej o))
    have hrl : (revsL (decH acc rej o)).length ≤ 500 := by
      have := revs0_len (decH acc rej o)
      have h2 : o.layers.length ≤ o.mass := by unfold Head.mass; omega
      unfold Head.mass at hdm
      unfold revsL; simp; omega
    refine A_loopu (fun m s => ∃ (i : Nat) (H5 : Hp), m = vn - i ∧ i ≤ vn ∧ HLe H4 H5 ∧ s = ⟨63, [(7, .slice va vn vc), (8, .int .i64 i), (2, ptr b2), (3, ptr b3), (4, .bool false)], H5, [.box b2 [.slice pa1 pn1 pc1, .int .i64 o.ins, .int .i64 o.move, .slice da1 dn1 dc1, .slice la1 ln1 lc1], .box b3 [.slice aa1 an1 ac1, .slice ra1 rn1 rc1]], [], []⟩) ?_ ?_
    · exact Shift.to ⟨_, 0, _, rfl, by omega, HLe.refl _, rfl⟩ ⟨rfl, rfl, rfl, ⟨rfl, rfl, rfl, rfl, rfl, trivial⟩, Own.subi [0, 1] (by decide) rfl rfl⟩
    · rintro m s ⟨i, H5, rfl, hi, hle5, rfl⟩
      by_cases hlt : i < vn
      · obtain ⟨b', ob, x, rfl, hxi, hc⟩ := (hvr.mono hle5).atm i hlt
        unfold irow at hc
        obtain ⟨x1, x2, x3⟩ := hrem x (sortI_mem.1 (List.mem_of_getElem? hxi))
        have fa := hma _ (hle14.trans hle5) x
        have fr := hmr _ (hle14.trans hle5) x
        have fu := hus _ (hle14.trans hle5) x
        rw [x1] at fa
        rw [x2] at fr
        rw [decide_eq_true x3] at fu
        repeat' (first | (refine A_drawL WideF.wide (.q 0 (.q 1 (.q 2 (.q 3 (.q 4 (.q 5 (.e 6 (.q 7 (.q 8 (.q 9 (.q 10 (.q 11 (.q 12 (.q 13 (.e 14 (.q 15 (.q 16 (.q 17 (.q 18 (.q 19 (.q 20 (.q 21 (.e 22 (.q 23 (.q 24 (.done [])))))))))))))))))))))))))) [] (by decide +kernel) ?_) | (refine D_ev rfl (Ev_loadH1 rfl (hc 0 _ rfl)) rfl rfl ?_) | (refine E_ef rfl (Ef_callp WideF.wide fa ⟨rfl, rfl, trivial⟩ rfl ?_); refine ⟨Grow.same rfl rfl, ?_⟩) | (refine E_ef rfl (Ef_callp WideF.wide fr ⟨rfl, rfl, trivial⟩ rfl ?_); refine ⟨Grow.same rfl rfl, ?_⟩) | (refine E_ef rfl (Ef_call (I := []) WideF.wide fu ⟨rfl, rfl, trivial⟩ rfl ?_); rintro v H6 I6 hle6 ⟨rfl, rfl⟩; refine ⟨⟨hle6, rfl⟩, ?_⟩) | refine O_nil ?_ | refine A_seq ?_ | refine A_region ?_ | refine A_skip ?_ | refine A_block ?_ | (show drJ _ _ _ _ _ _ _ (.q _ _) _; refine D_q rfl ?_) | (show drJ _ _ _ _ _ _ _ (.e _ _) _; refine D_e rfl ?_) | (show drJ _ _ _ _ _ _ _ (.done _) _; refine D_done ?_; simp only [List.cons_append, List.nil_append]) | (show drQ _ _ _ _ _ _; first | refine D_ev rfl (Ev_pure rfl) rfl rfl ?_ | (show drQ _ _ _ ⟨_, .load _ _, _, _, _, _⟩ _ _; first | refine D_ev rfl (Ev_loadB1 (i := 1) rfl rfl rfl) rfl rfl ?_ | refine D_ev rfl (Ev_loadB (i := 0) rfl rfl rfl) rfl rfl ?_) | (show drQ _ _ _ ⟨_, .indexAddr _ _ _, _, _, _, _⟩ _ _; refine D_ev rfl (Ev_indexAddr rfl rfl (by omega) (by omega)) rfl rfl ?_) | (show drQ _ _ _ ⟨_, .fieldAddr _ _ _, _, _, _, _⟩ _ _; refine D_ev rfl (Ev_fieldAddr rfl rfl rfl) rfl rfl ?_) | (show drQ _ _ _ ⟨_, .unOp _ _ _, _, _, _, _⟩ _ _; refine D_ev rfl (Ev_notb rfl) rfl rfl ?_)) | (show opsA _ _ _ _ _ _ _; first | refine O_ev WideF.wide rfl (Ev_pure rfl) rfl rfl ?_ | (show opsA _ _ _ _ (⟨_, .call _, _, _, _, _⟩ :: _) _ _; refine O_ev WideF.wide rfl (Ev_llen rfl) rfl rfl ?_) | (show opsA _ _ _ _ (⟨_, .binOp _ _ _ _ _, _, _, _, _⟩ :: _) _ _; refine O_ev WideF.wide rfl (Ev_add rfl rfl (wi64 (by omega))) rfl rfl ?_)) | (show wpA _ _ _ (.cond _ _ _) _ _ _ _; first | (refine A_if rfl (fun h => ?_) (fun h => ?_) <;> try (exfalso; omega)) | refine A_iffalse rfl ?_))
        refine Shift.to ⟨_, ?_, i + 1, H6, rfl, by omega, hle5.trans hle6, rfl⟩ ⟨rfl, rfl, rfl, ⟨rfl, rfl, rfl, rfl, rfl, trivial⟩, Own.subi [0, 1] (by decide) rfl rfl⟩
        omega
      · have hin : vn = i := by omega
        repeat' (first | refine O_nil ?_ | refine A_seq ?_ | refine A_region ?_ | refine A_ret ?_ | (show opsA _ _ _ _ _ _ _; first | refine O_ev WideF.wide rfl (Ev_pure rfl) rfl rfl ?_ | (show opsA _ _ _ _ (⟨_, .call _, _, _, _, _⟩ :: _) _ _; refine O_ev WideF.wide rfl (Ev_llen rfl) rfl rfl ?_)) | (show wpA _ _ _ (.exit _) _ _ _ _; refine A_exit rfl ?_) | (show wpA _ _ _ (.cond _ _ _) _ _ _ _; (refine A_if rfl (fun h => ?_) (fun h => ?_) <;> try (exfalso; omega))))
        exact End_e (Ret1 rfl rfl) ⟨rfl, rfl⟩
end Go.Proofs.Ythniohgeojenaaa
