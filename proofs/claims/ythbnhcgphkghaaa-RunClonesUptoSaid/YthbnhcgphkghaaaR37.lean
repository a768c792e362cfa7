/-
  The reference's Copy: an equal copy, in memory of its own.
-/
import Derived.Test.YthbnhcgphkghaaaR36
namespace Go.Proofs.Ythbnhcgphkghaaa
open Go
set_option linter.unusedVariables false
set_option linter.unusedSimpArgs false
attribute [local irreducible] wpA opsA drJ drQ drE Ef Ev Shift Fn
set_option maxRecDepth 100000 in
theorem copyHead_fr {H : Hp} {hcs : List Value} {h : Head} (hh : HeadH H hcs h) (hl : h.mass < 68719476736) : Fn Try.prog 72 [.agg hcs.toArray] H [] fun v H' I' => (∃ pa pn pc da dn dc la ln lc, v = .agg [.slice pa pn pc, .int .i64 h.ins, .int .i64 h.move, .slice da dn dc, .slice la ln lc].toArray ∧
    HRow (Hd H H') pa pn pc 2 (h.props.map prow) ∧ HRow (Hd H H') da dn dc 2 (h.dels.map drow) ∧ HRow (Hd H H') la ln lc 4 (h.layers.map lrow)) ∧ I' = [] := by
  obtain ⟨pa, pn, pc, da, dn, dc, la, ln, lc, rfl, h1, h2, h3⟩ := hh.ex
  have l1 := h1.len
  have l2 := h2.len
  have l3 := h3.len
  simp only [List.length_map] at l1 l2 l3
  unfold Head.mass at hl
  refine Fn_of _ _ Try.func72 rfl Try.ntmps72 rfl fun c => ?_
  repeat' (first | (refine O_nilrow 2 (O_ef rfl (Ef_appendH WideF.wide rfl rfl h1 rfl rfl (by simp; omega) (by simp; omega) rfl ?_)); intro a1 c1) | (refine O_nilrow 2 (O_ef rfl (Ef_appendH WideF.wide rfl rfl h2 rfl rfl (by simp; omega) (by simp; omega) rfl ?_)); intro a2 c2) | (refine O_nilrow 4 (O_ef rfl (Ef_appendH WideF.wide rfl rfl h3 rfl rfl (by simp; omega) (by simp; omega) rfl ?_)); intro a3 c3) | refine O_nil ?_ | refine A_seq ?_ | refine A_region ?_ | refine A_ret ?_ | (show opsA _ _ _ _ _ _ _; first | (show opsA _ _ _ _ (⟨_, .load _ _, _, _, _, _⟩ :: _) _ _; first | refine O_ev WideF.wide rfl (Ev_loadB1 (i := 0) rfl rfl rfl) rfl rfl ?_ | refine O_ev WideF.wide rfl (Ev_loadB1 (i := 1) rfl rfl rfl) rfl rfl ?_ | refine O_ev WideF.wide rfl (Ev_loadB1 (i := 2) rfl rfl rfl) rfl rfl ?_ | refine O_ev WideF.wide rfl (Ev_loadB1 (i := 3) rfl rfl rfl) rfl rfl ?_ | refine O_ev WideF.wide rfl (Ev_loadB1 (i := 4) rfl rfl rfl) rfl rfl ?_ | refine O_ev WideF.wide rfl (Ev_loadB (i := 0) rfl rfl rfl) rfl rfl ?_) | (show opsA _ _ _ _ (⟨_, .fieldAddr _ _ _, _, _, _, _⟩ :: _) _ _; refine O_ev WideF.wide rfl (Ev_fieldAddr rfl rfl rfl) rfl rfl ?_) | (show opsA _ _ _ _ (⟨_, .build _ _, _, _, _, _⟩ :: _) _ _; first | refine O_ev WideF.wide rfl (Ev_build (vs := [(_, _)]) ⟨rfl, rfl, trivial⟩ rfl) rfl rfl ?_ | refine O_ev WideF.wide rfl (Ev_build (vs := [(_, _), (_, _)]) ⟨rfl, rfl, rfl, rfl, trivial⟩ rfl) rfl rfl ?_) | (show opsA _ _ _ _ (⟨_, .alloc _, _, _, _, _⟩ :: _) _ _; (refine O_ef rfl (Ef_alloc WideF.wide rfl ?_); intro b)) | (show opsA _ _ _ _ (⟨_, .box _ _, _, _, _, _⟩ :: _) _ _; (refine O_ef rfl (Ef_boxa WideF.wide rfl rfl ?_); intro b)) | (show opsA _ _ _ _ (⟨_, .store _ _ _, _, _, _, _⟩ :: _) _ _; first | refine O_ef rfl (Ef_storew WideF.wide rfl rfl rfl rfl rfl ?_) | refine O_f1 (O_ef rfl (Ef_store1 WideF.wide rfl rfl rfl rfl rfl ?_)) | refine O_f4 (O_ef rfl (Ef_storew WideF.wide rfl rfl rfl rfl rfl ?_)))))
  refine End_s (RetC rfl rfl (i := 0) rfl rfl) (Shift.lek ⟨37, [], _, [.row (.slice a1 ([] ++ List.map prow h.props).length c1) 2 ([] ++ h.props.map prow), .row (.slice a2 ([] ++ List.map drow h.dels).length c2) 2 ([] ++ h.dels.map drow), .row (.slice a3 ([] ++ List.map lrow h.layers).length c3) 4 ([] ++ h.layers.map lrow)], [], []⟩ ⟨rfl, rfl, rfl, trivial, Own.subi [4, 3, 2] (by decide) rfl rfl⟩ ?_)
  simp only [List.nil_append]
  refine Shift_freezeD H (HLe.refl _) (prow_one _) fun H1 hle1 r1 => Shift_freezeD H hle1 (drow_one _) fun H2 hle2 r2 => Shift_freezeD H (hle1.trans hle2) (lrow_one _) fun H3 hle3 r3 => Shift.pure ⟨rfl, ⟨a1, _, c1, a2, _, c2, a3, _, c3, rfl, r1.mono (Hd_up (hle2.trans hle3)), r2.mono (Hd_up hle3), r3⟩, rfl⟩

def CopyC (N : Nat) : Prop := ∀ (H : Hp) (a : Option Addr) (n cp : Nat) (l : List Item), FlowH H a n cp l → massL l < N → massL l < 68719476736 → Fn Try.prog 41 [.slice a n cp] H [] fun v H' I' => (∃ oa on oc, v = .slice oa on oc ∧ FlowH (Hd H H') oa on oc l) ∧ I' = []
abbrev cpSt (H : Hp) (a : Option Addr) (n cp i : Nat) (oa : Option Addr) (oc : Nat) (css : List (List Value)) : Sta := ⟨101, [(0, .slice a n cp), (3, .slice oa css.length oc), (4, .int .i64 i)], H, [.row (.slice oa css.length oc) 11 css], [], []⟩
abbrev cqSt (H : Hp) (a : Option Addr) (n cp i : Nat) (oa : Option Addr) (oc : Nat) (css : List (List Value)) (b5 : Nat) (xs : List Value) (ya : Option Addr) (yc : Nat) (yss : List (List Value)) (k : Nat) : Sta :=
  ⟨101, [(0, .slice a n cp), (3, .slice oa css.length oc), (4, .int .i64 i), (5, .pointer (some ⟨b5, 0, none⟩)), (6, .int .i64 k)], H, [.row (.slice ya yss.length yc) 6 yss, .box b5 (xs ++ [.slice ya yss.length yc]), .row (.slice oa css.length oc) 11 css], [], []⟩
abbrev crSt (H : Hp) (a : Option Addr) (n cp i : Nat) (oa : Option Addr) (oc : Nat) (css : List (List Value)) (b5 : Nat) (xs : List Value) (ya : Option Addr) (yc : Nat) (yss : List (List Value)) (k : Nat) (b7 : Nat) (rs : List Value) (za : Option Addr) (zc : Nat) (zss : List (List Value)) (j : Nat) : Sta :=
  ⟨101, [(0, .slice a n cp), (3, .slice oa css.length oc), (4, .int .i64 i), (5, .pointer (some ⟨b5, 0, none⟩)), (6, .int .i64 k), (7, .pointer (some ⟨b7, 0, none⟩)), (8, .int .i64 j)], H, [.row (.slice za zss.length zc) 7 zss, .box b7 (rs ++ [.slice za zss.length zc]), .row (.slice ya yss.length yc) 6 yss, .box b5 (xs ++ [.slice ya yss.length yc]), .row (.slice oa css.length oc) 11 css], [], []⟩
set_option maxHeartbeats 8000000 in
set_option maxRecDepth 100000 in
theorem Copy_step {N : Nat} (hN : CopyC N) : CopyC (N + 1) := by
  intro H a n cp l hx0 hlN hl
  have hn := hx0.len
  have hml := massL_len l
  refine Fn_of _ _ Try.func41 rfl Try.ntmps41 rfl fun c => ?_
  refine A_nilrow 11 ?_
  repeat' (first | refine O_nil ?_ | refine A_seq ?_ | refine A_region ?_ | refine A_block ?_ | (show opsA _ _ _ _ _ _ _; refine O_ev WideF.wide rfl (Ev_pure rfl) rfl rfl ?_))
  refine A_loopu (fun m s => ∃ (H1 : Hp) (i : Nat) (oa : Option Addr) (oc : Nat) (css : List (List Value)), m = n - i ∧ i ≤ n ∧ HLe H H1 ∧ All2 (ItemH (Hd H H1)) css (l.take i) ∧ s = cpSt H1 a n cp i oa oc css) ?_ ?_
  · exact Shift.to ⟨_, H, 0, none, 0, [], rfl, by omega, HLe.refl _, by simp; exact .nil, rfl⟩ ⟨rfl, rfl, rfl, ⟨rfl, rfl, rfl, trivial⟩, Own.subi [0] (by decide) rfl rfl⟩
  · rintro m s ⟨H1, i, oa, oc, css, rfl, hi, hle1, hcss, rfl⟩
    have hcl := hcss.length
    simp only [List.length_take] at hcl
    by_cases hlt : i < n
    · have hx := hx0.mono hle1
      obtain ⟨b', o, cs, x, rfl, hxi, hxc, hk, hc⟩ := hx.at i hlt
      have hm := massL_get hxi
      have hm2 := massL_mem hxi
      obtain ⟨pa, pn, pc, da, dn, dc, la, ln, lc, fa, fn, fc, ra, rn, rc, rfl, h1, h2, h3, h4, h5⟩ := hxc.cells
      have hrn := h5.len
      have hrm := massR_len x.rows
      have hh : HeadH H1 [.slice pa pn pc, .int .i64 x.head.ins, .int .i64 x.head.move, .slice da dn dc, .slice la ln lc] x.head := ⟨pa, pn, pc, da, dn, dc, la, ln, lc, rfl, h1, h2, h3⟩
      have k1 := copyHead_fr hh (by omega)
      repeat' (first | (refine A_drawi WideF.wide (.q 0 (.q 1 (.q 3 (.q 4 (.e 2 (.r (.q 6 (.e 5 (.e 7 (.q 8 (.e 9 (.q 10 (.e 11 (.done [])))))))))))))) [5, 6, 7, 8, 9, 10, 11] [1] [0] (by decide +kernel) (by decide) rfl ?_; simp only [Own.picks, Own.rget, List.cons_append, List.nil_append, List.append_nil]) | (refine E_ef rfl (Ef_call (I := []) WideF.wide k1 ⟨rfl, trivial⟩ rfl ?_); rintro v H2 I2 hle2 ⟨⟨pa', pn', pc', da', dn', dc', la', ln', lc', rfl, r1, r2, r3⟩, rfl⟩; refine ⟨⟨hle2, rfl⟩, ?_⟩) | (refine E_ef rfl (Ef_call (I := []) WideF.wide (hN _ _ _ _ _ (h4.mono hle2) (by omega) (by omega)) ⟨rfl, trivial⟩ rfl ?_); rintro v H3 I3 hle3 ⟨⟨xa, xn, xc, rfl, hf⟩, rfl⟩; refine ⟨⟨hle3, rfl⟩, ?_⟩) | refine O_nil ?_ | refine A_seq ?_ | refine A_region ?_ | refine A_skip ?_ | refine A_block ?_ | (show drJ _ _ _ _ _ _ _ (.q _ _) _; refine D_q rfl ?_) | (show drJ _ _ _ _ _ _ _ (.e _ _) _; refine D_e rfl ?_) | (show drJ _ _ _ _ _ _ _ (.r _) _; refine D_r ?_; simp only [List.cons_append, List.nil_append]) | (show drJ _ _ _ _ _ _ _ (.done _) _; refine D_done ?_; simp only [List.cons_append, List.nil_append]) | (show drQ _ _ _ _ _ _; first | (show drQ _ _ _ ⟨_, .load _ _, _, _, _, _⟩ _ _; first | refine D_ev rfl (Ev_loadB1 (i := 0) rfl rfl rfl) rfl rfl ?_ | refine D_ev rfl (Ev_loadBs (i := 0) rfl rfl rfl rfl) rfl rfl ?_) | (show drQ _ _ _ ⟨_, .fieldAddr _ _ _, _, _, _, _⟩ _ _; refine D_ev rfl (Ev_fieldAddr rfl rfl rfl) rfl rfl ?_)) | (show drE _ _ _ _ _ _ _; (show drE _ _ _ _ ⟨_, .store _ _ _, _, _, _, _⟩ _ _; first | (refine E_ef rfl (Ef_store1 WideF.wide rfl rfl rfl rfl rfl ?_); refine ⟨Grow.same rfl rfl, ?_⟩) | (refine E_ef rfl (Ef_f1 (Ef_storea WideF.wide rfl rfl rfl rfl rfl rfl ?_)); refine ⟨Grow.same rfl rfl, ?_⟩))) | (show opsA _ _ _ _ _ _ _; first | refine O_ev WideF.wide rfl (Ev_pure rfl) rfl rfl ?_ | (show opsA _ _ _ _ (⟨_, .load _ _, _, _, _, _⟩ :: _) _ _; refine O_ev WideF.wide rfl (Ev_loadH rfl (by assumption) (by rfl)) rfl rfl ?_) | (show opsA _ _ _ _ (⟨_, .indexAddr _ _ _, _, _, _, _⟩ :: _) _ _; refine O_ev WideF.wide rfl (Ev_indexAddr rfl rfl (by omega) (by omega)) rfl rfl ?_) | (show opsA _ _ _ _ (⟨_, .call _, _, _, _, _⟩ :: _) _ _; refine O_ev WideF.wide rfl (Ev_llen rfl) rfl rfl ?_) | (show opsA _ _ _ _ (⟨_, .alloc _, _, _, _, _⟩ :: _) _ _; (refine O_ef rfl (Ef_alloc WideF.wide rfl ?_); intro b)) | (show opsA _ _ _ _ (⟨_, .store _ _ _, _, _, _, _⟩ :: _) _ _; refine O_ef rfl (Ef_storew WideF.wide rfl rfl rfl rfl rfl ?_))) | (show wpA _ _ _ (.cond _ _ _) _ _ _ _; (refine A_if rfl (fun h => ?_) (fun h => ?_) <;> try (exfalso; omega))))
      obtain ⟨b5, hb5⟩ : ∃ b5, b5 = b := ⟨_, rfl⟩
      subst hb5
      have hle13 : HLe H1 H3 := hle2.trans hle3
      refine A_nilrow 6 ?_
      refine A_loopu (fun m s => ∃ (H4 : Hp) (k : Nat) (ya : Option Addr) (yc : Nat) (yss : List (List Value)), m = rn - k ∧ k ≤ rn ∧ HLe H3 H4 ∧ All2 (RowH (Hd H H4)) yss (x.rows.take k) ∧ s = cqSt H4 (some ⟨b', o, none⟩) n cp i oa oc css b5 [.int .i64 x.kind, .int .i64 x.code, .int .i64 x.id, sv x.text, .slice pa' pn' pc', .int .i64 x.head.ins, .int .i64 x.head.move, .slice da' dn' dc', .slice la' ln' lc', .slice xa xn xc] ya yc yss k) ?_ ?_
      · exact Shift.to ⟨_, H3, 0, none, 0, [], rfl, by omega, HLe.refl _, by simp; exact .nil, rfl⟩ ⟨rfl, rfl, rfl, ⟨rfl, rfl, rfl, rfl, rfl, trivial⟩, Own.subi [0, 1, 2] (by decide) rfl rfl⟩
      · rintro m s ⟨H4, k, ya, yc, yss, rfl, hkn, hle4, hyss, rfl⟩
        have hyl := hyss.length
        simp only [List.length_take] at hyl
        have hle14 : HLe H1 H4 := hle13.trans hle4
        have q10 : H4 b' (o + i * 11 + 10) = some (.slice ra rn rc) := hle14 _ _ _ (hc 10 _ rfl)
        by_cases hkl : k < rn
        · obtain ⟨rb, ro, rcs, r, rfl, hri, hrc, hrk, hrH⟩ := (h5.mono hle14).at k hkl
          have hrmm := massR_mem hri
          obtain ⟨qa, qn, qc, ua, un, uc, va, vn, vc, ca, cn, cc, rfl, g1, g2, g3, g4⟩ := hrc.cells
          have hcn := g4.len
          have hcm := massC_len r.2
          have hrh : HeadH H4 [.slice qa qn qc, .int .i64 r.1.ins, .int .i64 r.1.move, .slice ua un uc, .slice va vn vc] r.1 := ⟨_, _, _, _, _, _, _, _, _, rfl, g1, g2, g3⟩
          have k2 := copyHead_fr hrh (by omega)
          have hhc : HCells H4 rb (ro + k * 6 + 0) [.slice qa qn qc, .int .i64 r.1.ins, .int .i64 r.1.move, .slice ua un uc, .slice va vn vc] := hrH.sub 0 5
          repeat' (first | (refine O_ev WideF.wide rfl (Ev_loadH1 rfl q10) rfl rfl ?_) | (refine O_ev WideF.wide rfl (Ev_loadH rfl hhc rfl) rfl rfl ?_) | (refine O_ef rfl (Ef_call (I := []) WideF.wide k2 ⟨rfl, trivial⟩ rfl ?_); rintro v H5 I5 hle5 ⟨⟨qa', qn', qc', ua', un', uc', va', vn', vc', rfl, s1, s2, s3⟩, rfl⟩) | refine O_nil ?_ | refine A_seq ?_ | refine A_region ?_ | refine A_skip ?_ | refine A_block ?_ | (show opsA _ _ _ _ _ _ _; first | refine O_ev WideF.wide rfl (Ev_pure rfl) rfl rfl ?_ | (show opsA _ _ _ _ (⟨_, .indexAddr _ _ _, _, _, _, _⟩ :: _) _ _; refine O_ev WideF.wide rfl (Ev_indexAddr rfl rfl (by omega) (by omega)) rfl rfl ?_) | (show opsA _ _ _ _ (⟨_, .fieldAddr _ _ _, _, _, _, _⟩ :: _) _ _; refine O_ev WideF.wide rfl (Ev_fieldAddr rfl rfl rfl) rfl rfl ?_) | (show opsA _ _ _ _ (⟨_, .call _, _, _, _, _⟩ :: _) _ _; refine O_ev WideF.wide rfl (Ev_llen rfl) rfl rfl ?_) | (show opsA _ _ _ _ (⟨_, .build _ _, _, _, _, _⟩ :: _) _ _; refine O_ev WideF.wide rfl (Ev_build (vs := [(_, _)]) ⟨rfl, rfl, trivial⟩ rfl) rfl rfl ?_) | (show opsA _ _ _ _ (⟨_, .alloc _, _, _, _, _⟩ :: _) _ _; (refine O_ef rfl (Ef_alloc WideF.wide rfl ?_); intro b)) | (show opsA _ _ _ _ (⟨_, .store _ _ _, _, _, _, _⟩ :: _) _ _; refine O_ef rfl (Ef_storew WideF.wide rfl rfl rfl rfl rfl ?_))) | (show wpA _ _ _ (.cond _ _ _) _ _ _ _; (refine A_if rfl (fun h => ?_) (fun h => ?_) <;> try (exfalso; omega))))
          obtain ⟨b7, hb7⟩ : ∃ b7, b7 = b := ⟨_, rfl⟩
          subst hb7
          refine A_nilrow 7 ?_
          refine A_loopu (fun m s => ∃ (H6 : Hp) (j : Nat) (za : Option Addr) (zc : Nat) (zss : List (List Value)), m = cn - j ∧ j ≤ cn ∧ HLe H5 H6 ∧ All2 (CellH (Hd H H6)) zss (r.2.take j) ∧ s = crSt H6 (some ⟨b', o, none⟩) n cp i oa oc css b5 [.int .i64 x.kind, .int .i64 x.code, .int .i64 x.id, sv x.text, .slice pa' pn' pc', .int .i64 x.head.ins, .int .i64 x.head.move, .slice da' dn' dc', .slice la' ln' lc', .slice xa xn xc] ya yc yss k b7 [.slice qa' qn' qc', .int .i64 r.1.ins, .int .i64 r.1.move, .slice ua' un' uc', .slice va' vn' vc'] za zc zss j) ?_ ?_
          · exact Shift.to ⟨_, H5, 0, none, 0, [], rfl, by omega, HLe.refl _, by simp; exact .nil, rfl⟩ ⟨rfl, rfl, rfl, ⟨rfl, rfl, rfl, rfl, rfl, rfl, rfl, trivial⟩, Own.subi [0, 1, 2, 3, 4] (by decide) rfl rfl⟩
          · rintro m s ⟨H6, j, za, zc, zss, rfl, hjn, hle6, hzss, rfl⟩
            have hzl := hzss.length
            simp only [List.length_take] at hzl
            have hle46 : HLe H4 H6 := hle5.trans hle6
            have q10' : H6 b' (o + i * 11 + 10) = some (.slice (some ⟨rb, ro, none⟩) rn rc) := hle46 _ _ _ q10
            have q5' : H6 rb (ro + k * 6 + 5) = some (.slice ca cn cc) := hle46 _ _ _ (hrH 5 _ rfl)
            by_cases hjl : j < cn
            · obtain ⟨cb, co, ccs, y, rfl, hyj, hyc, hyk2, hyH⟩ := (g4.mono hle46).at j hjl
              have hymm := massC_mem hyj
              obtain ⟨ta, tn, tc, ea, en, ec, ga, gn, gc, wa, wn, wc, rfl, w1, w2, w3, w4⟩ := hyc.cells
              have hyh : HeadH H6 [.slice ta tn tc, .int .i64 y.2.1.ins, .int .i64 y.2.1.move, .slice ea en ec, .slice ga gn gc] y.2.1 := ⟨_, _, _, _, _, _, _, _, _, rfl, w1, w2, w3⟩
              have k3 := copyHead_fr hyh (by omega)
              repeat' (first | (refine A_drawi WideF.wide (.q 0 (.q 1 (.q 2 (.q 3 (.q 4 (.q 5 (.q 7 (.q 8 (.e 6 (.e 9 (.q 10 (.e 11 (.r (.e 12 (.q 13 (.e 14 (.done []))))))))))))))))) [12, 13, 14] [1, 3, 4, 5] [0, 2] (by decide +kernel) (by decide) rfl ?_; simp only [Own.picks, Own.rget, List.cons_append, List.nil_append, List.append_nil]) | (refine O_ev WideF.wide rfl (Ev_loadH1 rfl q10') rfl rfl ?_) | (refine O_ev WideF.wide rfl (Ev_loadH1 rfl q5') rfl rfl ?_) | (refine O_ev WideF.wide rfl (Ev_loadH rfl hyH rfl) rfl rfl ?_) | (refine E_ef rfl (Ef_call (I := []) WideF.wide k3 ⟨rfl, trivial⟩ rfl ?_); rintro v H7 I7 hle7 ⟨⟨ta', tn', tc', ea', en', ec', ga', gn', gc', rfl, t1, t2, t3⟩, rfl⟩; refine ⟨⟨hle7, rfl⟩, ?_⟩) | (refine E_ef rfl (Ef_call (I := []) WideF.wide (hN _ _ _ _ _ (w4.mono hle7) (by omega) (by omega)) ⟨rfl, trivial⟩ rfl ?_); rintro v H8 I8 hle8 ⟨⟨va2, vn2, vc2, rfl, hf2⟩, rfl⟩; refine ⟨⟨hle8, rfl⟩, ?_⟩) | refine O_nil ?_ | refine A_seq ?_ | refine A_region ?_ | refine A_skip ?_ | refine A_block ?_ | (show drJ _ _ _ _ _ _ _ (.q _ _) _; refine D_q rfl ?_) | (show drJ _ _ _ _ _ _ _ (.e _ _) _; refine D_e rfl ?_) | (show drJ _ _ _ _ _ _ _ (.r _) _; refine D_r ?_; simp only [List.cons_append, List.nil_append]) | (show drJ _ _ _ _ _ _ _ (.done _) _; refine D_done ?_; simp only [List.cons_append, List.nil_append]) | (show drQ _ _ _ _ _ _; first | (show drQ _ _ _ ⟨_, .load _ _, _, _, _, _⟩ _ _; first | refine D_ev rfl (Ev_loadB1 (i := 0) rfl rfl rfl) rfl rfl ?_ | refine D_ev rfl (Ev_loadB1 (i := 1) rfl rfl rfl) rfl rfl ?_ | refine D_ev rfl (Ev_loadBs (i := 0) rfl rfl rfl rfl) rfl rfl ?_) | (show drQ _ _ _ ⟨_, .fieldAddr _ _ _, _, _, _, _⟩ _ _; refine D_ev rfl (Ev_fieldAddr rfl rfl rfl) rfl rfl ?_) | (show drQ _ _ _ ⟨_, .build _ _, _, _, _, _⟩ _ _; refine D_ev rfl (Ev_build (vs := [(_, _), (_, _), (_, _)]) ⟨rfl, rfl, rfl, rfl, rfl, rfl, trivial⟩ rfl) rfl rfl ?_)) | (show drE _ _ _ _ _ _ _; first | (show drE _ _ _ _ ⟨_, .call _, _, _, _, _⟩ _ _; (refine E_ef rfl (Ef_f1 (Ef_appendR WideF.wide rfl rfl rfl rfl rfl (by simp; omega) (by simp; omega) rfl ?_)); intro a cp; refine ⟨Grow.same rfl rfl, ?_⟩)) | (show drE _ _ _ _ ⟨_, .buildSlice _ _ _, _, _, _, _⟩ _ _; (refine E_ef rfl (Ef_build1a WideF.wide rfl rfl rfl rfl rfl ?_); intro b; refine ⟨Grow.same rfl rfl, ?_⟩)) | (show drE _ _ _ _ ⟨_, .store _ _ _, _, _, _, _⟩ _ _; (refine E_ef rfl (Ef_f5 (Ef_store1 WideF.wide rfl rfl rfl rfl rfl ?_)); refine ⟨Grow.same rfl rfl, ?_⟩))) | (show opsA _ _ _ _ _ _ _; first | refine O_ev WideF.wide rfl (Ev_pure rfl) rfl rfl ?_ | (show opsA _ _ _ _ (⟨_, .indexAddr _ _ _, _, _, _, _⟩ :: _) _ _; refine O_ev WideF.wide rfl (Ev_indexAddr rfl rfl (by omega) (by omega)) rfl rfl ?_) | (show opsA _ _ _ _ (⟨_, .fieldAddr _ _ _, _, _, _, _⟩ :: _) _ _; refine O_ev WideF.wide rfl (Ev_fieldAddr rfl rfl rfl) rfl rfl ?_) | (show opsA _ _ _ _ (⟨_, .call _, _, _, _, _⟩ :: _) _ _; refine O_ev WideF.wide rfl (Ev_llen rfl) rfl rfl ?_) | (show opsA _ _ _ _ (⟨_, .binOp _ _ _ _ _, _, _, _, _⟩ :: _) _ _; refine O_ev WideF.wide rfl (Ev_add rfl rfl (wi64 (by omega))) rfl rfl ?_) | (show opsA _ _ _ _ (⟨_, .alloc _, _, _, _, _⟩ :: _) _ _; (refine O_ef rfl (Ef_alloc WideF.wide rfl ?_); intro b)) | (show opsA _ _ _ _ (⟨_, .store _ _ _, _, _, _, _⟩ :: _) _ _; refine O_ef rfl (Ef_storew WideF.wide rfl rfl rfl rfl rfl ?_))) | (show wpA _ _ _ (.cond _ _ _) _ _ _ _; (refine A_if rfl (fun h => ?_) (fun h => ?_) <;> try (exfalso; omega))))
              refine Shift.to ⟨_, ?_, H8, j + 1, _, _, _, rfl, by omega, hle6.trans (hle7.trans hle8), ?_, rfl⟩ ⟨rfl, rfl, rfl, ⟨rfl, rfl, rfl, rfl, rfl, rfl, rfl, trivial⟩, Own.subi [1, 0, 2, 3, 4] (by decide) rfl rfl⟩
              · omega
              · have hle16 : HLe H H6 := hle1.trans (hle14.trans hle46)
                rw [take_get hyj]
                exact (hzss.mono fun _ _ h => h.mono (Hd_up (hle7.trans hle8))).append (All2.one (CellH.of (x := y) (t1.mono (Hd_both hle16 hle8)) (t2.mono (Hd_both hle16 hle8)) (t3.mono (Hd_both hle16 hle8)) (hf2.mono (Hd_down (hle16.trans hle7)))))
            · have hjn' : cn = j := by omega
              subst hjn'
              rw [show r.2.take cn = r.2 by rw [← hcn, List.take_length]] at hzss
              have hle16 : HLe H H6 := hle1.trans (hle14.trans hle46)
              refine A_freezeD H hle16 (hzss.ones fun _ _ h => h.one) ?_
              intro H7 hle7 hr7
              replace q10' := hle7 _ _ _ q10'
              replace q5' := hle7 _ _ _ q5'
              repeat' (first | (refine O_ev WideF.wide rfl (Ev_loadH1 rfl q10') rfl rfl ?_) | (refine O_ev WideF.wide rfl (Ev_loadH1 rfl q5') rfl rfl ?_) | refine O_nil ?_ | refine A_seq ?_ | refine A_region ?_ | (show opsA _ _ _ _ _ _ _; first | refine O_ev WideF.wide rfl (Ev_pure rfl) rfl rfl ?_ | (show opsA _ _ _ _ (⟨_, .load _ _, _, _, _, _⟩ :: _) _ _; first | refine O_ev WideF.wide rfl (Ev_loadB1 (i := 2) rfl rfl rfl) rfl rfl ?_ | refine O_ev WideF.wide rfl (Ev_loadB (i := 0) rfl rfl rfl) rfl rfl ?_) | (show opsA _ _ _ _ (⟨_, .indexAddr _ _ _, _, _, _, _⟩ :: _) _ _; refine O_ev WideF.wide rfl (Ev_indexAddr rfl rfl (by omega) (by omega)) rfl rfl ?_) | (show opsA _ _ _ _ (⟨_, .fieldAddr _ _ _, _, _, _, _⟩ :: _) _ _; refine O_ev WideF.wide rfl (Ev_fieldAddr rfl rfl rfl) rfl rfl ?_) | (show opsA _ _ _ _ (⟨_, .call _, _, _, _, _⟩ :: _) _ _; first | refine O_ev WideF.wide rfl (Ev_llen rfl) rfl rfl ?_ | (refine O_f2 (O_ef rfl (Ef_appendR WideF.wide rfl rfl rfl rfl rfl (by simp; omega) (by simp; omega) rfl ?_)); intro a cp)) | (show opsA _ _ _ _ (⟨_, .buildSlice _ _ _, _, _, _, _⟩ :: _) _ _; (refine O_ef rfl (Ef_build1a WideF.wide rfl rfl rfl rfl rfl ?_); intro b)) | (show opsA _ _ _ _ (⟨_, .binOp _ _ _ _ _, _, _, _, _⟩ :: _) _ _; refine O_ev WideF.wide rfl (Ev_add rfl rfl (wi64 (by omega))) rfl rfl ?_) | (show opsA _ _ _ _ (⟨_, .store _ _ _, _, _, _, _⟩ :: _) _ _; refine O_f2 (O_ef rfl (Ef_store1 WideF.wide rfl rfl rfl rfl rfl ?_)))) | (show wpA _ _ _ (.exit _) _ _ _ _; refine A_exit rfl ?_) | (show wpA _ _ _ (.cond _ _ _) _ _ _ _; (refine A_if rfl (fun h => ?_) (fun h => ?_) <;> try (exfalso; omega))))
              refine Shift.to ⟨_, ?_, H7, k + 1, _, _, _, rfl, by omega, hle4.trans (hle46.trans hle7), ?_, rfl⟩ ⟨rfl, rfl, rfl, ⟨rfl, rfl, rfl, rfl, rfl, trivial⟩, Own.subi [1, 0, 3] (by decide) rfl rfl⟩
              · omega
              · rw [take_get hri]
                have hle57 : HLe H5 H7 := hle6.trans hle7
                have hle04 : HLe H H4 := hle1.trans hle14
                exact (hyss.mono fun _ _ h => h.mono (Hd_up (hle46.trans hle7))).append (All2.one (RowH.of (x := r) (s1.mono (Hd_both hle04 hle57)) (s2.mono (Hd_both hle04 hle57)) (s3.mono (Hd_both hle04 hle57)) ⟨zss, hr7, hzss.mono fun _ _ h => h.mono (Hd_up hle7)⟩))
        · have hkn' : rn = k := by omega
          subst hkn'
          rw [show x.rows.take rn = x.rows by rw [← hrn, List.take_length]] at hyss
          have hle04 : HLe H H4 := hle1.trans hle14
          refine A_freezeD H hle04 (hyss.ones fun _ _ h => h.one) ?_
          intro H5 hle5 hr5
          replace q10 := hle5 _ _ _ q10
          repeat' (first | (refine O_ev WideF.wide rfl (Ev_loadH1 rfl q10) rfl rfl ?_) | refine O_nil ?_ | refine A_seq ?_ | refine A_region ?_ | (show opsA _ _ _ _ _ _ _; first | refine O_ev WideF.wide rfl (Ev_pure rfl) rfl rfl ?_ | (show opsA _ _ _ _ (⟨_, .load _ _, _, _, _, _⟩ :: _) _ _; refine O_ev WideF.wide rfl (Ev_loadB (i := 0) rfl rfl rfl) rfl rfl ?_) | (show opsA _ _ _ _ (⟨_, .indexAddr _ _ _, _, _, _, _⟩ :: _) _ _; refine O_ev WideF.wide rfl (Ev_indexAddr rfl rfl (by omega) (by omega)) rfl rfl ?_) | (show opsA _ _ _ _ (⟨_, .fieldAddr _ _ _, _, _, _, _⟩ :: _) _ _; refine O_ev WideF.wide rfl (Ev_fieldAddr rfl rfl rfl) rfl rfl ?_) | (show opsA _ _ _ _ (⟨_, .call _, _, _, _, _⟩ :: _) _ _; first | refine O_ev WideF.wide rfl (Ev_llen rfl) rfl rfl ?_ | (refine O_f2 (O_ef rfl (Ef_appendR WideF.wide rfl rfl rfl rfl rfl (by simp; omega) (by simp; omega) rfl ?_)); intro a cp)) | (show opsA _ _ _ _ (⟨_, .buildSlice _ _ _, _, _, _, _⟩ :: _) _ _; (refine O_ef rfl (Ef_build1a WideF.wide rfl rfl rfl rfl rfl ?_); intro b)) | (show opsA _ _ _ _ (⟨_, .binOp _ _ _ _ _, _, _, _, _⟩ :: _) _ _; refine O_ev WideF.wide rfl (Ev_add rfl rfl (wi64 (by omega))) rfl rfl ?_)) | (show wpA _ _ _ (.exit _) _ _ _ _; refine A_exit rfl ?_) | (show wpA _ _ _ (.cond _ _ _) _ _ _ _; (refine A_if rfl (fun h => ?_) (fun h => ?_) <;> try (exfalso; omega))))
          refine Shift.to ⟨_, ?_, H5, i + 1, _, _, _, rfl, by omega, hle04.trans hle5, ?_, rfl⟩ ⟨rfl, rfl, rfl, ⟨rfl, rfl, rfl, trivial⟩, Own.subi [0] (by decide) rfl rfl⟩
          · omega
          · rw [take_get hxi]
            have hle25 : HLe H2 H5 := hle3.trans (hle4.trans hle5)
            have hle35 : HLe H3 H5 := hle4.trans hle5
            have := ItemH.of (H := Hd H H5) (x := x) (r1.mono (Hd_both hle1 hle25)) (r2.mono (Hd_both hle1 hle25)) (r3.mono (Hd_both hle1 hle25)) (hf.mono (Hd_both (hle1.trans hle2) hle35)) ⟨yss, hr5, hyss.mono fun _ _ h => h.mono (Hd_up hle5)⟩
            exact (hcss.mono fun _ _ h => h.mono (Hd_up (hle14.trans hle5))).append (All2.one this)
    · have hin : n = i := by omega
      subst hin
      have htk : l.take n = l := by rw [← hn, List.take_length]
      rw [htk] at hcss
      repeat' (first | refine O_nil ?_ | refine A_seq ?_ | refine A_region ?_ | refine A_ret ?_ | (show opsA _ _ _ _ _ _ _; first | refine O_ev WideF.wide rfl (Ev_pure rfl) rfl rfl ?_ | (show opsA _ _ _ _ (⟨_, .call _, _, _, _, _⟩ :: _) _ _; refine O_ev WideF.wide rfl (Ev_llen rfl) rfl rfl ?_)) | (show wpA _ _ _ (.exit _) _ _ _ _; refine A_exit rfl ?_) | (show wpA _ _ _ (.cond _ _ _) _ _ _ _; (refine A_if rfl (fun h => ?_) (fun h => ?_) <;> try (exfalso; omega))))
      refine End_s (Ret1 rfl rfl) (Shift.lek ⟨101, [], H1, [.row (.slice oa css.length oc) 11 css], [], []⟩ ⟨rfl, rfl, rfl, trivial, Own.subi [0] (by decide) rfl rfl⟩ (Shift_freezeD H hle1 (hcss.ones fun _ _ h => h.one) fun H4 hle4 hr4 => Shift.pure ⟨rfl, ⟨oa, css.length, oc, rfl, ⟨css, hr4, hcss.mono fun _ _ h => h.mono (Hd_up hle4)⟩⟩, rfl⟩))
theorem Copy_all : ∀ N, CopyC N
  | 0 => fun _ _ _ _ _ _ h => absurd h (by omega)
  | N + 1 => Copy_step (Copy_all N)
/-- the reference's Copy returns a copy in memory of its own -/
theorem Copy_fr {H : Hp} {a : Option Addr} {n cp : Nat} {l : List Item} (hx : FlowH H a n cp l) (hl : massL l < 68719476736) : Fn Try.prog 41 [.slice a n cp] H [] fun v H' I' => (∃ oa on oc, v = .slice oa on oc ∧ FlowH (Hd H H') oa on oc l) ∧ I' = [] :=
  Copy_all (massL l + 1) H a n cp l hx (by omega) hl
end Go.Proofs.Ythbnhcgphkghaaa
