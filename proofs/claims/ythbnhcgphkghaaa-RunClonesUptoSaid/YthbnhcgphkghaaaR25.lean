/-
  The reference's Normal.
-/
import Derived.Test.YthbnhcgphkghaaaD3
namespace Go.Proofs.Ythbnhcgphkghaaa
open Go
set_option linter.unusedVariables false
set_option linter.unusedSimpArgs false
attribute [local irreducible] wpA opsA drJ drQ drE Ef Ev Shift Fn

def RNormC (N : Nat) : Prop := ∀ (H : Hp) (a : Option Addr) (n cp : Nat) (l : List Item), FlowH H a n cp l → massL l < N → massL l < 68719476736 → Fn Try.prog 28 [.slice a n cp] H [] fun v H' I' => (∃ oa on oc, v = .slice oa on oc ∧ FlowH H' oa on oc (normL l)) ∧ I' = []

abbrev rnSt (H : Hp) (a : Option Addr) (n cp i : Nat) (oa : Option Addr) (on oc : Nat) (css : List (List Value)) : Sta := ⟨137, [(0, .slice a n cp), (3, .slice oa on oc), (4, .int .i64 i)], H, [.row (.slice oa on oc) 11 css], [], []⟩
abbrev rrSt (H : Hp) (a : Option Addr) (n cp i : Nat) (oa : Option Addr) (on oc : Nat) (css : List (List Value)) (b5 : Nat) (xs : List Value) (ya : Option Addr) (yc : Nat) (yss : List (List Value)) (k : Nat) : Sta :=
  ⟨137, [(0, .slice a n cp), (3, .slice oa on oc), (4, .int .i64 i), (5, .pointer (some ⟨b5, 0, none⟩)), (6, .slice ya yss.length yc), (7, .int .i64 k)], H, [.row (.slice ya yss.length yc) 6 yss, .box b5 xs, .row (.slice oa on oc) 11 css], [], []⟩
abbrev rcSt (H : Hp) (a : Option Addr) (n cp i : Nat) (oa : Option Addr) (on oc : Nat) (css : List (List Value)) (b5 : Nat) (xs : List Value) (ya : Option Addr) (yc : Nat) (yss : List (List Value)) (k : Nat) (b8 : Nat) (rs : List Value) (za : Option Addr) (zc : Nat) (zss : List (List Value)) (j : Nat) : Sta :=
  ⟨137, [(0, .slice a n cp), (3, .slice oa on oc), (4, .int .i64 i), (5, .pointer (some ⟨b5, 0, none⟩)), (6, .slice ya yss.length yc), (7, .int .i64 k), (8, .pointer (some ⟨b8, 0, none⟩)), (9, .slice za zss.length zc), (10, .int .i64 j)], H, [.row (.slice za zss.length zc) 7 zss, .box b8 rs, .row (.slice ya yss.length yc) 6 yss, .box b5 xs, .row (.slice oa on oc) 11 css], [], []⟩
set_option maxHeartbeats 8000000 in
set_option maxRecDepth 100000 in
theorem rNormal_step {N : Nat} (hN : RNormC N) : RNormC (N + 1) := by
  intro H a n cp l hx0 hlN hl
  have hn := hx0.len
  have hml := massL_len l
  refine Fn_of _ _ Try.func28 rfl Try.ntmps28 rfl fun c => ?_
  refine A_nilrow 11 ?_
  repeat' (first | refine O_nil ?_ | refine A_seq ?_ | refine A_region ?_ | refine A_block ?_ | (show opsA _ _ _ _ _ _ _; refine O_ev WideF.wide rfl (Ev_pure rfl) rfl rfl ?_))
  refine A_loopu (fun m s => ∃ (H1 : Hp) (i : Nat) (oa : Option Addr) (on oc : Nat) (css : List (List Value)), m = n - i ∧ i ≤ n ∧ HLe H H1 ∧ css.length = on ∧ All2 (ItemH H1) css (normL (l.take i)) ∧ s = rnSt H1 a n cp i oa on oc css) ?_ ?_
  · exact Shift.to ⟨_, H, 0, none, 0, 0, [], rfl, by omega, HLe.refl _, rfl, by simp [normL]; exact .nil, rfl⟩ ⟨rfl, rfl, rfl, ⟨rfl, rfl, rfl, trivial⟩, Own.subi [0] (by decide) rfl rfl⟩
  · rintro m s ⟨H1, i, oa, on, oc, css, rfl, hi, hle1, hon, hcss, rfl⟩
    have hcl := hcss.length
    have hnb := normL_b l i
    by_cases hlt : i < n
    · have hx := hx0.mono hle1
      obtain ⟨b', o, cs, x, rfl, hxi, hxc, hk, hc⟩ := hx.at i hlt
      have hm := massL_get hxi
      have hm2 := massL_mem hxi
      have hsn := normL_snoc hxi
      obtain ⟨pa, pn, pc, da, dn, dc, la, ln, lc, fa, fn, fc, ra, rn, rc, rfl, h1, h2, h3, h4, h5⟩ := hxc.cells
      have hrn := h5.len
      have hrm := massR_len x.rows
      repeat' (first | (refine O_ef rfl (Ef_call (I := []) WideF.wide (hN _ _ _ _ _ h4 (by omega) (by omega)) ⟨rfl, trivial⟩ rfl ?_); rintro v H2 I2 hle2 ⟨⟨xa, xn, xc, rfl, hf⟩, rfl⟩) | refine O_nil ?_ | refine A_seq ?_ | refine A_region ?_ | refine A_skip ?_ | refine A_block ?_ | (show opsA _ _ _ _ _ _ _; first | refine O_ev WideF.wide rfl (Ev_pure rfl) rfl rfl ?_ | (show opsA _ _ _ _ (⟨_, .load _ _, _, _, _, _⟩ :: _) _ _; first | refine O_ev WideF.wide rfl (Ev_loadB1 (i := 0) rfl rfl rfl) rfl rfl ?_ | refine O_ev WideF.wide rfl (Ev_loadH rfl (by assumption) (by rfl)) rfl rfl ?_) | (show opsA _ _ _ _ (⟨_, .indexAddr _ _ _, _, _, _, _⟩ :: _) _ _; refine O_ev WideF.wide rfl (Ev_indexAddr rfl rfl (by omega) (by omega)) rfl rfl ?_) | (show opsA _ _ _ _ (⟨_, .fieldAddr _ _ _, _, _, _, _⟩ :: _) _ _; refine O_ev WideF.wide rfl (Ev_fieldAddr rfl rfl rfl) rfl rfl ?_) | (show opsA _ _ _ _ (⟨_, .call _, _, _, _, _⟩ :: _) _ _; refine O_ev WideF.wide rfl (Ev_llen rfl) rfl rfl ?_) | (show opsA _ _ _ _ (⟨_, .alloc _, _, _, _, _⟩ :: _) _ _; (refine O_ef rfl (Ef_alloc WideF.wide rfl ?_); intro b)) | (show opsA _ _ _ _ (⟨_, .store _ _ _, _, _, _, _⟩ :: _) _ _; first | refine O_ef rfl (Ef_storew WideF.wide rfl rfl rfl rfl rfl ?_) | refine O_ef rfl (Ef_store1 WideF.wide rfl rfl rfl rfl rfl ?_))) | (show wpA _ _ _ (.cond _ _ _) _ _ _ _; (refine A_if rfl (fun h => ?_) (fun h => ?_) <;> try (exfalso; omega))))
      obtain ⟨b5, hb5⟩ : ∃ b5, b5 = b := ⟨_, rfl⟩
      subst hb5
      refine A_nilrow 6 ?_
      refine A_loopu (fun m s => ∃ (H3 : Hp) (k : Nat) (ya : Option Addr) (yc : Nat) (yss : List (List Value)), m = rn - k ∧ k ≤ rn ∧ HLe H2 H3 ∧ All2 (RowH H3) yss (keepR ((x.rows.take k).map normRow)) ∧ s = rrSt H3 (some ⟨b', o, none⟩) n cp i oa on oc css b5 [.int .i64 x.kind, .int .i64 x.code, .int .i64 x.id, sv x.text, .slice pa pn pc, .int .i64 x.head.ins, .int .i64 x.head.move, .slice da dn dc, .slice la ln lc, .slice xa xn xc, .slice ra rn rc] ya yc yss k) ?_ ?_
      · exact Shift.to ⟨_, H2, 0, none, 0, [], rfl, by omega, HLe.refl _, by simp [keepR]; exact .nil, rfl⟩ ⟨rfl, rfl, rfl, ⟨rfl, rfl, rfl, rfl, rfl, rfl, trivial⟩, Own.subi [0, 1, 2] (by decide) rfl rfl⟩
      · rintro m s ⟨H3, k, ya, yc, yss, rfl, hkn, hle3, hyss, rfl⟩
        have hyl := hyss.length
        have hyk := keepR_len ((x.rows.take k).map normRow)
        simp only [List.length_map, List.length_take] at hyk
        by_cases hkl : k < rn
        · obtain ⟨rb, ro, rcs, r, rfl, hri, hrc, hrk, hrH⟩ := (h5.mono (hle2.trans hle3)).at k hkl
          have hrmm := massR_mem hri
          obtain ⟨qa, qn, qc, ua, un, uc, va, vn, vc, ca, cn, cc, rfl, g1, g2, g3, g4⟩ := hrc.cells
          have hcn := g4.len
          have hcm := massC_len r.2
          repeat' (first | refine O_nil ?_ | refine A_seq ?_ | refine A_region ?_ | refine A_skip ?_ | refine A_block ?_ | (show opsA _ _ _ _ _ _ _; first | refine O_ev WideF.wide rfl (Ev_pure rfl) rfl rfl ?_ | (show opsA _ _ _ _ (⟨_, .load _ _, _, _, _, _⟩ :: _) _ _; first | refine O_ev WideF.wide rfl (Ev_loadB1 (i := 1) rfl rfl rfl) rfl rfl ?_ | refine O_ev WideF.wide rfl (Ev_loadH rfl (by assumption) (by rfl)) rfl rfl ?_) | (show opsA _ _ _ _ (⟨_, .indexAddr _ _ _, _, _, _, _⟩ :: _) _ _; refine O_ev WideF.wide rfl (Ev_indexAddr rfl rfl (by omega) (by omega)) rfl rfl ?_) | (show opsA _ _ _ _ (⟨_, .fieldAddr _ _ _, _, _, _, _⟩ :: _) _ _; refine O_ev WideF.wide rfl (Ev_fieldAddr rfl rfl rfl) rfl rfl ?_) | (show opsA _ _ _ _ (⟨_, .call _, _, _, _, _⟩ :: _) _ _; refine O_ev WideF.wide rfl (Ev_llen rfl) rfl rfl ?_) | (show opsA _ _ _ _ (⟨_, .alloc _, _, _, _, _⟩ :: _) _ _; (refine O_ef rfl (Ef_alloc WideF.wide rfl ?_); intro b)) | (show opsA _ _ _ _ (⟨_, .store _ _ _, _, _, _, _⟩ :: _) _ _; refine O_ef rfl (Ef_storew WideF.wide rfl rfl rfl rfl rfl ?_))) | (show wpA _ _ _ (.cond _ _ _) _ _ _ _; (refine A_if rfl (fun h => ?_) (fun h => ?_) <;> try (exfalso; omega))))
          obtain ⟨b8, hb8⟩ : ∃ b8, b8 = b := ⟨_, rfl⟩
          subst hb8
          refine A_nilrow 7 ?_
          refine A_loopu (fun m s => ∃ (H4 : Hp) (j : Nat) (za : Option Addr) (zc : Nat) (zss : List (List Value)), m = cn - j ∧ j ≤ cn ∧ HLe H3 H4 ∧ All2 (CellH H4) zss ((r.2.take j).map normCell) ∧ s = rcSt H4 (some ⟨b', o, none⟩) n cp i oa on oc css b5 [.int .i64 x.kind, .int .i64 x.code, .int .i64 x.id, sv x.text, .slice pa pn pc, .int .i64 x.head.ins, .int .i64 x.head.move, .slice da dn dc, .slice la ln lc, .slice xa xn xc, .slice (some ⟨rb, ro, none⟩) rn rc] ya yc yss k b8 [.slice qa qn qc, .int .i64 r.1.ins, .int .i64 r.1.move, .slice ua un uc, .slice va vn vc, .slice ca cn cc] za zc zss j) ?_ ?_
          · exact Shift.to ⟨_, H3, 0, none, 0, [], rfl, by omega, HLe.refl _, by simp; exact .nil, rfl⟩ ⟨rfl, rfl, rfl, ⟨rfl, rfl, rfl, rfl, rfl, rfl, rfl, rfl, rfl, trivial⟩, Own.subi [0, 1, 2, 3, 4] (by decide) rfl rfl⟩
          · rintro m s ⟨H4, j, za, zc, zss, rfl, hjn, hle4, hzss, rfl⟩
            have hzl := hzss.length
            simp only [List.length_map, List.length_take] at hzl
            by_cases hjl : j < cn
            · obtain ⟨cb, co, ccs, y, rfl, hyj, hyc, hyk2, hyH⟩ := (g4.mono hle4).at j hjl
              have hymm := massC_mem hyj
              obtain ⟨ta, tn, tc, ea, en, ec, ga, gn, gc, wa, wn, wc, rfl, w1, w2, w3, w4⟩ := hyc.cells
              repeat' (first | (refine O_ef rfl (Ef_call (I := []) WideF.wide (hN _ _ _ _ _ w4 (by omega) (by omega)) ⟨rfl, trivial⟩ rfl ?_); rintro v H5 I5 hle5 ⟨⟨xa', xn', xc', rfl, hf'⟩, rfl⟩) | refine O_nil ?_ | refine A_seq ?_ | refine A_region ?_ | refine A_skip ?_ | refine A_block ?_ | (show opsA _ _ _ _ _ _ _; first | refine O_ev WideF.wide rfl (Ev_pure rfl) rfl rfl ?_ | (show opsA _ _ _ _ (⟨_, .load _ _, _, _, _, _⟩ :: _) _ _; first | refine O_ev WideF.wide rfl (Ev_loadB1 (i := 0) rfl rfl rfl) rfl rfl ?_ | refine O_ev WideF.wide rfl (Ev_loadB1 (i := 1) rfl rfl rfl) rfl rfl ?_ | refine O_ev WideF.wide rfl (Ev_loadB (i := 0) rfl rfl rfl) rfl rfl ?_ | refine O_ev WideF.wide rfl (Ev_loadH rfl (by assumption) (by rfl)) rfl rfl ?_) | (show opsA _ _ _ _ (⟨_, .indexAddr _ _ _, _, _, _, _⟩ :: _) _ _; refine O_ev WideF.wide rfl (Ev_indexAddr rfl rfl (by omega) (by omega)) rfl rfl ?_) | (show opsA _ _ _ _ (⟨_, .fieldAddr _ _ _, _, _, _, _⟩ :: _) _ _; refine O_ev WideF.wide rfl (Ev_fieldAddr rfl rfl rfl) rfl rfl ?_) | (show opsA _ _ _ _ (⟨_, .call _, _, _, _, _⟩ :: _) _ _; first | refine O_ev WideF.wide rfl (Ev_llen rfl) rfl rfl ?_ | (refine O_f2 (O_ef rfl (Ef_appendR WideF.wide rfl rfl rfl rfl rfl (by simp; omega) (by simp; omega) rfl ?_)); intro a cp)) | (show opsA _ _ _ _ (⟨_, .buildSlice _ _ _, _, _, _, _⟩ :: _) _ _; (refine O_ef rfl (Ef_build1a WideF.wide rfl rfl rfl rfl rfl ?_); intro b)) | (show opsA _ _ _ _ (⟨_, .binOp _ _ _ _ _, _, _, _, _⟩ :: _) _ _; refine O_ev WideF.wide rfl (Ev_add rfl rfl (wi64 (by omega))) rfl rfl ?_) | (show opsA _ _ _ _ (⟨_, .alloc _, _, _, _, _⟩ :: _) _ _; (refine O_ef rfl (Ef_alloc WideF.wide rfl ?_); intro b)) | (show opsA _ _ _ _ (⟨_, .store _ _ _, _, _, _, _⟩ :: _) _ _; first | refine O_ef rfl (Ef_storew WideF.wide rfl rfl rfl rfl rfl ?_) | refine O_ef rfl (Ef_store1 WideF.wide rfl rfl rfl rfl rfl ?_))) | (show wpA _ _ _ (.cond _ _ _) _ _ _ _; (refine A_if rfl (fun h => ?_) (fun h => ?_) <;> try (exfalso; omega))))
              refine Shift.to ⟨_, ?_, H5, j + 1, _, _, _, rfl, by omega, hle4.trans hle5, ?_, rfl⟩ ⟨rfl, rfl, rfl, ⟨rfl, rfl, rfl, rfl, rfl, rfl, rfl, rfl, rfl, trivial⟩, Own.subi [0, 2, 3, 4, 5] (by decide) rfl rfl⟩
              · omega
              · rw [take_get hyj, List.map_append]
                exact (hzss.mono fun _ _ h => h.mono hle5).append (All2.one (CellH.of (x := normCell y) (w1.mono hle5) (w2.mono hle5) (w3.mono hle5) hf'))
            · have hjn' : cn = j := by omega
              subst hjn'
              rw [show r.2.take cn = r.2 by rw [← hcn, List.take_length]] at hzss
              refine A_freeze (hzss.ones fun _ _ h => h.one) ?_
              intro H5 hle5 hr5
              have hle35 : HLe H3 H5 := hle4.trans hle5
              repeat' (first | refine O_nil ?_ | refine A_seq ?_ | refine A_region ?_ | refine A_skip ?_ | (show opsA _ _ _ _ _ _ _; first | refine O_ev WideF.wide rfl (Ev_pure rfl) rfl rfl ?_ | (show opsA _ _ _ _ (⟨_, .load _ _, _, _, _, _⟩ :: _) _ _; first | refine O_ev WideF.wide rfl (Ev_loadB1 (i := 0) rfl rfl rfl) rfl rfl ?_ | refine O_ev WideF.wide rfl (Ev_loadB (i := 0) rfl rfl rfl) rfl rfl ?_) | (show opsA _ _ _ _ (⟨_, .fieldAddr _ _ _, _, _, _, _⟩ :: _) _ _; refine O_ev WideF.wide rfl (Ev_fieldAddr rfl rfl rfl) rfl rfl ?_) | (show opsA _ _ _ _ (⟨_, .call _, _, _, _, _⟩ :: _) _ _; first | refine O_ev WideF.wide rfl (Ev_llen rfl) rfl rfl ?_ | (refine O_f2 (O_ef rfl (Ef_appendR WideF.wide rfl rfl rfl rfl rfl (by simp; omega) (by simp; omega) rfl ?_)); intro a cp)) | (show opsA _ _ _ _ (⟨_, .buildSlice _ _ _, _, _, _, _⟩ :: _) _ _; (refine O_ef rfl (Ef_build1a WideF.wide rfl rfl rfl rfl rfl ?_); intro b)) | (show opsA _ _ _ _ (⟨_, .binOp _ _ _ _ _, _, _, _, _⟩ :: _) _ _; refine O_ev WideF.wide rfl (Ev_add rfl rfl (wi64 (by omega))) rfl rfl ?_) | (show opsA _ _ _ _ (⟨_, .store _ _ _, _, _, _, _⟩ :: _) _ _; refine O_ef rfl (Ef_store1 WideF.wide rfl rfl rfl rfl rfl ?_))) | (show wpA _ _ _ (.exit _) _ _ _ _; refine A_exit rfl ?_) | (show wpA _ _ _ (.cond _ _ _) _ _ _ _; (refine A_if rfl (fun h => ?_) (fun h => ?_) <;> try (exfalso; omega))))
              · refine Shift.to ⟨_, ?_, H5, k + 1, _, _, _, rfl, by omega, hle3.trans hle35, ?_, rfl⟩ ⟨rfl, rfl, rfl, ⟨rfl, rfl, rfl, rfl, rfl, rfl, trivial⟩, Own.subi [0, 2, 3] (by decide) rfl rfl⟩
                · omega
                · rw [take_get hri, List.map_append, keepR_append]
                  refine (hyss.mono fun _ _ h => h.mono hle35).append ?_
                  have hkr : keepR [normRow r] = [normRow r] := by
                    refine keepR_all ?_
                    intro q hq h0
                    rw [List.mem_singleton] at hq
                    subst hq
                    have hr2 : r.2 = [] := by simpa [normRow] using h0
                    rw [hr2, List.length_nil] at hcn
                    omega
                  rw [List.map_singleton, hkr]
                  exact All2.one (RowH.of (x := normRow r) (g1.mono hle35) (g2.mono hle35) (g3.mono hle35) ⟨zss, hr5, hzss.mono fun _ _ h => h.mono hle5⟩)
              · refine Shift.to ⟨_, ?_, H5, k + 1, _, _, _, rfl, by omega, hle3.trans hle35, ?_, rfl⟩ ⟨rfl, rfl, rfl, ⟨rfl, rfl, rfl, rfl, rfl, rfl, trivial⟩, Own.subi [1, 2, 3] (by decide) rfl rfl⟩
                · omega
                · rw [take_get hri, List.map_append, keepR_append]
                  have h0 : r.2 = [] := List.eq_nil_of_length_eq_zero (by omega)
                  have h1 : keepR [normRow r] = [] := by simp [keepR, normRow, h0]
                  rw [List.map_singleton, h1, List.append_nil]
                  exact hyss.mono fun _ _ h => h.mono hle35
        · have hkn' : rn = k := by omega
          subst hkn'
          rw [show x.rows.take rn = x.rows by rw [← hrn, List.take_length]] at hyss
          clear hyl
          have hyl := hyss.length
          refine A_freeze (hyss.ones fun _ _ h => h.one) ?_
          intro H6 hle6 hr6
          have hle16 : HLe H1 H6 := hle2.trans (hle3.trans hle6)
          have hle26 : HLe H2 H6 := hle3.trans hle6
          have hcss6 := hcss.mono (R' := ItemH H6) fun _ _ h => h.mono hle16
          have hit : ItemH H6 [.int .i64 x.kind, .int .i64 x.code, .int .i64 x.id, sv x.text, .slice pa pn pc, .int .i64 x.head.ins, .int .i64 x.head.move, .slice da dn dc, .slice la ln lc, .slice xa xn xc, .slice ya yss.length yc] (normItem x) := by
            rw [normItem_eq]
            exact ItemH.of (x := .mk x.kind x.code x.id x.text x.head (normL x.flow) (keepR (x.rows.map normRow))) (h1.mono hle16) (h2.mono hle16) (h3.mono hle16) (hf.mono hle26) ⟨yss, hr6, hyss.mono fun _ _ h => h.mono hle6⟩
          repeat' (first | refine O_nil ?_ | refine A_seq ?_ | refine A_region ?_ | refine A_skip ?_ | refine A_block ?_ | (show opsA _ _ _ _ _ _ _; first | (refine O_split rfl rfl (fun h => ?_) (fun h => ?_) <;> try (exfalso; omega)) | refine O_ev WideF.wide rfl (Ev_pure rfl) rfl rfl ?_ | (show opsA _ _ _ _ (⟨_, .load _ _, _, _, _, _⟩ :: _) _ _; refine O_ev WideF.wide rfl (Ev_loadB1 (i := 0) rfl rfl rfl) rfl rfl ?_) | (show opsA _ _ _ _ (⟨_, .fieldAddr _ _ _, _, _, _, _⟩ :: _) _ _; refine O_ev WideF.wide rfl (Ev_fieldAddr rfl rfl rfl) rfl rfl ?_) | (show opsA _ _ _ _ (⟨_, .call _, _, _, _, _⟩ :: _) _ _; refine O_ev WideF.wide rfl (Ev_llen rfl) rfl rfl ?_) | (show opsA _ _ _ _ (⟨_, .binOp _ _ _ _ _, _, _, _, _⟩ :: _) _ _; first | refine O_ev WideF.wide rfl (Ev_add rfl rfl (wi64 (by omega))) rfl rfl ?_ | refine O_ev WideF.wide rfl (Ev_seql rfl rfl) rfl rfl ?_) | (show opsA _ _ _ _ (⟨_, .store _ _ _, _, _, _, _⟩ :: _) _ _; refine O_ef rfl (Ef_store1 WideF.wide rfl rfl rfl rfl rfl ?_)) | refine O_skip WideF.wide rfl rfl rfl ?_) | (show wpA _ _ _ (.exit _) _ _ _ _; refine A_exit rfl ?_) | (show wpA _ _ _ (.cond _ _ _) _ _ _ _; first | (refine A_if rfl (fun h => ?_) (fun h => ?_) <;> try (exfalso; omega)) | refine A_iffalse rfl ?_))
          any_goals (
            show Shift _ _ _
            refine Shift.to ⟨_, ?_, H6, i + 1, oa, on, oc, css, rfl, by omega, hle1.trans hle16, hon, ?_, rfl⟩ ⟨rfl, rfl, rfl, ⟨rfl, rfl, rfl, trivial⟩, Own.subi [1] (by decide) rfl rfl⟩
            · omega
            · rw [hsn, pushI_no]
              · exact hcss6
              · rw [normItem_kind, normItem_rows, normItem_text]
                first | exact .inl ⟨by omega, List.eq_nil_of_length_eq_zero (by omega)⟩ | exact .inr ⟨by omega, by assumption⟩)
          all_goals
            have hnv : ¬ ((normItem x).kind = 7 ∧ (normItem x).rows = [] ∨ (normItem x).kind = 1 ∧ (normItem x).text = []) := by
              rw [normItem_kind, normItem_rows, normItem_text]
              rintro (⟨q1, q2⟩ | ⟨q1, q2⟩)
              · rw [q2, List.length_nil] at hyl; omega
              · first | omega | exact absurd q2 (by assumption)
            refine A_sub (s' := ⟨137, [(0, .slice (some ⟨b', o, none⟩) n cp), (3, .slice oa on oc), (4, .int .i64 i), (5, .pointer (some ⟨b5, 0, none⟩)), (12, .int .i64 on)], H6, [.box b5 [.int .i64 x.kind, .int .i64 x.code, .int .i64 x.id, sv x.text, .slice pa pn pc, .int .i64 x.head.ins, .int .i64 x.head.move, .slice da dn dc, .slice la ln lc, .slice xa xn xc, .slice ya yss.length yc], .row (.slice oa on oc) 11 css], [], []⟩) ⟨rfl, rfl, rfl, ⟨rfl, rfl, rfl, rfl, rfl, trivial⟩, Own.subi [0, 1] (by decide) rfl rfl⟩ ?_
            by_cases hce : css = []
            · subst hce
              have hz : on = 0 := by simpa using hon.symm
              subst hz
              generalize hnl : normL (l.take i) = out at *
              cases hcss6
              rw [pushI_nil hnv] at hsn
              repeat' (first | (refine A_drawi WideF.wide (.q 0 (.q 1 (.q 2 (.q 3 (.q 4 (.q 5 (.q 6 (.q 7 (.q 8 (.q 9 (.q 10 (.q 11 (.q 12 (.q 13 (.q 14 (.q 15 (.q 16 (.q 17 (.q 18 (.q 19 (.q 20 (.q 21 (.q 22 (.q 23 (.q 24 (.e 25 (.q 26 (.q 27 (.done []))))))))))))))))))))))))))))) [] [] [0, 1] (by decide +kernel) (by decide) rfl ?_; simp only [Own.picks, Own.rget, List.cons_append, List.nil_append, List.append_nil]) | (refine O_f2 (O_ef rfl (Ef_appendR WideF.wide rfl rfl rfl rfl rfl (by simp) (by simp) rfl ?_)); intro a' cp') | refine O_nil ?_ | refine A_region ?_ | (show drJ _ _ _ _ _ _ _ (.q _ _) _; refine D_q rfl ?_) | (show drJ _ _ _ _ _ _ _ (.e _ _) _; refine D_e rfl ?_) | (show drJ _ _ _ _ _ _ _ (.done _) _; refine D_done ?_; simp only [List.cons_append, List.nil_append]) | (show drQ _ _ _ _ _ _; first | (refine D_split rfl rfl (fun h => ?_) (fun h => ?_) <;> try (exfalso; omega)) | refine D_ev rfl (Ev_pure rfl) rfl rfl ?_ | (show drQ _ _ _ ⟨_, .load _ _, _, _, _, _⟩ _ _; refine D_ev rfl (Ev_loadB1 (i := 0) rfl rfl rfl) rfl rfl ?_) | (show drQ _ _ _ ⟨_, .fieldAddr _ _ _, _, _, _, _⟩ _ _; refine D_ev rfl (Ev_fieldAddr rfl rfl rfl) rfl rfl ?_) | refine D_skip rfl rfl rfl ?_) | (show drE _ _ _ _ _ _ _; refine E_skip rfl rfl rfl ?_) | (show opsA _ _ _ _ _ _ _; first | refine O_ev WideF.wide rfl (Ev_pure rfl) rfl rfl ?_ | (show opsA _ _ _ _ (⟨_, .load _ _, _, _, _, _⟩ :: _) _ _; refine O_ev WideF.wide rfl (Ev_loadB (i := 0) rfl rfl rfl) rfl rfl ?_) | (show opsA _ _ _ _ (⟨_, .buildSlice _ _ _, _, _, _, _⟩ :: _) _ _; (refine O_ef rfl (Ef_build1a WideF.wide rfl rfl rfl rfl rfl ?_); intro b)) | (show opsA _ _ _ _ (⟨_, .binOp _ _ _ _ _, _, _, _, _⟩ :: _) _ _; refine O_ev WideF.wide rfl (Ev_add rfl rfl (wi64 (by omega))) rfl rfl ?_)) | (show wpA _ _ _ (.cond _ _ _) _ _ _ _; refine A_iffalse rfl ?_))
              all_goals
                refine Shift.to ⟨_, ?_, H6, i + 1, _, _, _, _, rfl, by omega, hle1.trans hle16, rfl, ?_, rfl⟩ ⟨rfl, rfl, rfl, ⟨rfl, rfl, rfl, trivial⟩, Own.subi [0] (by decide) rfl rfl⟩
                · omega
                · rw [hsn]; exact All2.one hit
            · obtain ⟨dss, last, ds, y, rfl, hds, hdss, hly⟩ := hcss6.snoc_inv hce
              have hon' : on = dss.length + 1 := by rw [← hon]; simp
              have hym : y.head.mass < 68719476736 := by
                obtain ⟨z, hz, hzh⟩ := normL_head i (show y ∈ normL (l.take i) by rw [hds]; simp)
                have := massL_mem' hz
                rw [hzh]; omega
              have hyt : y.text.length ≤ massL l := by
                have := hnb.1
                rw [hds, textL_append] at this
                simp [textL] at this
                omega
              rw [hds, pushI_snoc hnv, normItem_kind, normItem_head, normItem_text] at hsn
              have hget : (dss ++ [last])[dss.length]? = some last := snoc_at _ _
              have hth : HeadH H6 [.slice pa pn pc, .int .i64 x.head.ins, .int .i64 x.head.move, .slice da dn dc, .slice la ln lc] x.head := ⟨_, _, _, _, _, _, _, _, _, rfl, h1.mono hle16, h2.mono hle16, h3.mono hle16⟩
              obtain ⟨qa, qn, qc, ua, un, uc, va, vn, vc, wa, wn, wc, za, zn, zc, rfl, y1, y2, y3, _⟩ := hly.cells
              have hyh : HeadH H6 [.slice qa qn qc, .int .i64 y.head.ins, .int .i64 y.head.move, .slice ua un uc, .slice va vn vc] y.head := ⟨_, _, _, _, _, _, _, _, _, rfl, y1, y2, y3⟩
              have heq := rEqualHead_fn hyh hth hym
              refine A_rowaddr (q := 1) rfl ?_
              intro e1 e2 e3 e4 e5
              obtain ⟨ob, rfl⟩ : ∃ ob, oa = some ⟨ob, 0, none⟩ := by
                cases oa with
                | none => have := (e3 rfl).1; simp at this
                | some ad => obtain ⟨ob, rfl⟩ := e5 _ rfl; exact ⟨ob, rfl⟩
              repeat' (first | (refine A_drawi WideF.wide (.q 0 (.q 1 (.q 2 (.q 3 (.q 4 (.q 5 (.q 6 (.q 7 (.q 8 (.q 9 (.q 10 (.q 11 (.q 12 (.q 13 (.q 14 (.q 15 (.q 16 (.q 17 (.q 18 (.q 19 (.q 20 (.q 21 (.q 22 (.q 23 (.q 24 (.e 25 (.q 26 (.q 27 (.done []))))))))))))))))))))))))))))) [] [] [0, 1] (by decide +kernel) (by decide) rfl ?_; simp only [Own.picks, Own.rget, List.cons_append, List.nil_append, List.append_nil]) | (refine A_drawi WideF.wide (.p 0 (.p 1 (.p 2 (.q 3 (.p 4 (.q 5 (.q 6 (.q 7 (.q 8 (.q 9 (.q 10 (.r (.q 11 (.q 12 (.q 13 (.e 14 (.done []))))))))))))))))) [11, 12, 13, 14] [] [0, 1] (by decide +kernel) (by decide) rfl ?_; simp only [Own.picks, Own.rget, List.cons_append, List.nil_append, List.append_nil]) | (refine D_ev rfl (Ev_loadR1 (q := 1) (d := 0) rfl rfl hget (by omega) rfl) rfl rfl ?_) | (refine D_ev rfl (Ev_loadR1 (q := 1) (d := 3) rfl rfl hget (by omega) rfl) rfl rfl ?_) | (refine D_ev rfl (Ev_loadRs (q := 1) (d := 4) rfl rfl hget (by omega) rfl rfl) rfl rfl ?_) | (refine E_ef rfl (Ef_callp WideF.wide heq ⟨rfl, rfl, trivial⟩ rfl ?_); refine ⟨Grow.same rfl rfl, ?_⟩) | (refine E_ef rfl (Ef_f1 (Ef_storeR1 WideF.wide (dd := 3) rfl rfl hget (by omega) rfl rfl rfl rfl ?_)); refine ⟨Grow.same rfl rfl, ?_⟩) | refine O_nil ?_ | refine A_region ?_ | (show drJ _ _ _ _ _ _ _ (.q _ _) _; refine D_q rfl ?_) | (show drJ _ _ _ _ _ _ _ (.e _ _) _; refine D_e rfl ?_) | (show drJ _ _ _ _ _ _ _ (.r _) _; refine D_r ?_; simp only [List.cons_append, List.nil_append]) | (show drJ _ _ _ _ _ _ _ (.done _) _; refine D_done ?_; simp only [List.cons_append, List.nil_append]) | (show drQ _ _ _ _ _ _; first | (refine D_split rfl rfl (fun h => ?_) (fun h => ?_) <;> try (exfalso; omega)) | refine D_ev rfl (Ev_pure rfl) rfl rfl ?_ | (show drQ _ _ _ ⟨_, .load _ _, _, _, _, _⟩ _ _; first | refine D_ev rfl (Ev_loadB1 (i := 0) rfl rfl rfl) rfl rfl ?_ | refine D_ev rfl (Ev_loadBs (i := 0) rfl rfl rfl rfl) rfl rfl ?_) | (show drQ _ _ _ ⟨_, .indexAddr _ _ _, _, _, _, _⟩ _ _; refine D_ev rfl (Ev_indexAddr rfl rfl (by omega) (by omega)) rfl rfl ?_) | (show drQ _ _ _ ⟨_, .fieldAddr _ _ _, _, _, _, _⟩ _ _; refine D_ev rfl (Ev_fieldAddr rfl rfl rfl) rfl rfl ?_) | (show drQ _ _ _ ⟨_, .binOp _ _ _ _ _, _, _, _, _⟩ _ _; first | refine D_ev rfl (Ev_sub rfl rfl (wi64 (by omega))) rfl rfl ?_ | refine D_ev rfl (Ev_scat rfl rfl (by omega)) rfl rfl ?_) | refine D_skip rfl rfl rfl ?_) | (show drJ _ _ _ _ _ _ _ (.p _ _) _; refine D_p rfl ?_) | (show drP _ _ _ _ _ _; first | refine D_pv rfl (Ev_pure rfl) rfl rfl ?_ | (show drP _ _ _ ⟨_, .binOp _ _ _ _ _, _, _, _, _⟩ _ _; refine D_pv rfl (Ev_sub rfl rfl (wi64 (by omega))) rfl rfl ?_)) | (show drE _ _ _ _ _ _ _; refine E_skip rfl rfl rfl ?_) | (show opsA _ _ _ _ _ _ _; first | refine O_ev WideF.wide rfl (Ev_pure rfl) rfl rfl ?_ | (show opsA _ _ _ _ (⟨_, .load _ _, _, _, _, _⟩ :: _) _ _; refine O_ev WideF.wide rfl (Ev_loadB (i := 0) rfl rfl rfl) rfl rfl ?_) | (show opsA _ _ _ _ (⟨_, .call _, _, _, _, _⟩ :: _) _ _; (refine O_f2 (O_ef rfl (Ef_appendR WideF.wide rfl rfl rfl rfl rfl (by simp; omega) (by simp; omega) rfl ?_)); intro a cp)) | (show opsA _ _ _ _ (⟨_, .buildSlice _ _ _, _, _, _, _⟩ :: _) _ _; (refine O_ef rfl (Ef_build1a WideF.wide rfl rfl rfl rfl rfl ?_); intro b)) | (show opsA _ _ _ _ (⟨_, .binOp _ _ _ _ _, _, _, _, _⟩ :: _) _ _; refine O_ev WideF.wide rfl (Ev_add rfl rfl (wi64 (by omega))) rfl rfl ?_)) | (show wpA _ _ _ (.cond _ _ _) _ _ _ _; first | (refine A_if rfl (fun h => ?_) (fun h => ?_) <;> try (exfalso; omega)) | refine A_iffalse rfl ?_))
              all_goals first
                | (refine Shift.to ⟨_, ?_, H6, i + 1, some ⟨ob, 0, none⟩, on, oc, _, rfl, by omega, hle1.trans hle16, ?_, ?_, rfl⟩ ⟨rfl, rfl, rfl, ⟨rfl, rfl, rfl, trivial⟩, Own.subi [0] (by decide) rfl rfl⟩
                   · omega
                   · simp; omega
                   · rw [hsn, if_pos ⟨by assumption, by assumption, by assumption⟩, snoc_set]
                     exact hdss.append (All2.one hly.setText))
                | (refine Shift.to ⟨_, ?_, H6, i + 1, _, _, _, _, rfl, by omega, hle1.trans hle16, rfl, ?_, rfl⟩ ⟨rfl, rfl, rfl, ⟨rfl, rfl, rfl, trivial⟩, Own.subi [0] (by decide) rfl rfl⟩
                   · omega
                   · rw [hsn, if_neg (by rintro ⟨q1, q2, q3⟩; first | omega | exact absurd q1 (by assumption) | exact absurd q2 (by assumption) | exact absurd q3 (by assumption))]
                     exact (hdss.append (All2.one hly)).append (All2.one hit))
    · have hin : n = i := by omega
      subst hin
      have htk : l.take n = l := by rw [← hn, List.take_length]
      rw [htk] at hcss
      repeat' (first | refine O_nil ?_ | refine A_seq ?_ | refine A_region ?_ | refine A_ret ?_ | (show opsA _ _ _ _ _ _ _; first | refine O_ev WideF.wide rfl (Ev_pure rfl) rfl rfl ?_ | (show opsA _ _ _ _ (⟨_, .call _, _, _, _, _⟩ :: _) _ _; refine O_ev WideF.wide rfl (Ev_llen rfl) rfl rfl ?_)) | (show wpA _ _ _ (.exit _) _ _ _ _; refine A_exit rfl ?_) | (show wpA _ _ _ (.cond _ _ _) _ _ _ _; (refine A_if rfl (fun h => ?_) (fun h => ?_) <;> try (exfalso; omega))))
      exact End_row (Ret1 rfl rfl) hcss.one_all fun H' hle hr => ⟨⟨oa, on, oc, rfl, ⟨css, hr, hcss.mono fun _ _ h => h.mono hle⟩⟩, rfl⟩
theorem rNormal_all : ∀ N, RNormC N
  | 0 => fun _ _ _ _ _ _ h => absurd h (by omega)
  | N + 1 => rNormal_step (rNormal_all N)
/-- the reference's Normal returns the normal form -/
theorem rNormal_fn {H : Hp} {a : Option Addr} {n cp : Nat} {l : List Item} (hx : FlowH H a n cp l) (hl : massL l < 68719476736) : Fn Try.prog 28 [.slice a n cp] H [] fun v H' I' => (∃ oa on oc, v = .slice oa on oc ∧ FlowH H' oa on oc (normL l)) ∧ I' = [] :=
  rNormal_all (massL l + 1) H a n cp l hx (by omega) hl
end Go.Proofs.Ythbnhcgphkghaaa
