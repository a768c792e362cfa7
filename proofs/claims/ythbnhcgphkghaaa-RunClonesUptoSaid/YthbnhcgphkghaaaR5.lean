/-
  The reference's weight of a flow: two numbers, whichever.
-/
import Derived.Test.YthbnhcgphkghaaaR4
namespace Go.Proofs.Ythbnhcgphkghaaa
open Go
set_option linter.unusedVariables false
set_option linter.unusedSimpArgs false
attribute [local irreducible] wpA opsA drJ drQ drE Ef Ev Shift Fn

def WPost (B : Nat) (H : Hp) : Value → Hp → Own → Prop := fun v H' I' => (∃ w d : Int, v = .tuple [.int .i64 w, .int .i64 d].toArray ∧ 0 ≤ w ∧ w ≤ B ∧ 0 ≤ d ∧ d ≤ B + 1) ∧ H' = H ∧ I' = []
abbrev wSt (H : Hp) (a : Option Addr) (n cp : Nat) (w d : Int) (i : Nat) : Sta := ⟨176, [(0, .slice a n cp), (2, .int .i64 w), (3, .int .i64 d), (4, .int .i64 i)], H, [], [], []⟩
abbrev wSt2 (H : Hp) (a : Option Addr) (n cp : Nat) (w d : Int) (i k : Nat) : Sta := ⟨176, [(0, .slice a n cp), (2, .int .i64 w), (3, .int .i64 d), (4, .int .i64 i), (7, .int .i64 k)], H, [], [], []⟩
abbrev wSt3 (H : Hp) (a : Option Addr) (n cp : Nat) (w d : Int) (i k b : Nat) (rcs : List Value) (j : Nat) : Sta := ⟨176, [(0, .slice a n cp), (2, .int .i64 w), (3, .int .i64 d), (4, .int .i64 i), (7, .int .i64 k), (8, .pointer (some ⟨b, 0, none⟩)), (9, .int .i64 j)], H, [.box b rcs], [], []⟩
set_option maxRecDepth 100000 in
set_option maxHeartbeats 2000000 in
theorem Weight_fn : ∀ (N : Nat) {H : Hp} {a : Option Addr} {n cp : Nat} {l : List Item}, FlowH H a n cp l → massL l ≤ N → N < 68719476736 → Fn Try.prog 46 [.slice a n cp] H [] (WPost (massL l) H) := by
  intro N
  induction N using Nat.strongRecOn with
  | _ N ih =>
  intro H a n cp l hx hN hN2
  have hn := hx.len
  have hll := massL_len l
  refine Fn_of _ _ Try.func46 rfl Try.ntmps46 rfl fun c => ?_
  repeat' (first | refine O_nil ?_ | refine A_seq ?_ | refine A_region ?_ | refine A_block ?_ | (show opsA _ _ _ _ _ _ _; first | refine O_ev WideF.wide rfl (Ev_pure rfl) rfl rfl ?_ | (show opsA _ _ _ _ (⟨_, .call _, _, _, _, _⟩ :: _) _ _; refine O_ev WideF.wide rfl (Ev_llen rfl) rfl rfl ?_)))
  refine A_loopu (fun m s => ∃ (i : Nat) (w d : Int), m = n - i ∧ i ≤ n ∧ 0 ≤ w ∧ w ≤ massL (l.take i) + (n - i) ∧ 0 ≤ d ∧ d ≤ massL (l.take i) + 1 ∧ s = wSt H a n cp w d i) ?_ ?_
  · exact Shift.to ⟨_, 0, n, 1, rfl, by omega, by omega, by simp [massL], by omega, by omega, rfl⟩ ⟨rfl, rfl, rfl, ⟨rfl, rfl, rfl, rfl, trivial⟩, Own.sub_nil _⟩
  · rintro m s ⟨i, w, d, rfl, hi, hw0, hw1, hd0, hd1, rfl⟩
    have hm0 : massL (l.take i) + (n - i) ≤ massL l := by
      have : massL (l.take i ++ l.drop i) = massL l := by rw [List.take_append_drop]
      have hd := massL_len (l.drop i)
      rw [List.length_drop] at hd
      rw [massL_append] at this; omega
    by_cases hlt : i < n
    · obtain ⟨b', o, cs, x, rfl, hxi, hxc, hk, hc⟩ := hx.at i hlt
      have hm := massL_get hxi
      have hm2 := massL_mem hxi
      have hxm := x.mass_eq
      have hts : massL (l.take (i + 1)) = massL (l.take i) + x.mass := by rw [take_get hxi, massL_append]; simp [massL]
      obtain ⟨pa, pn, pc, da, dn, dc, la, ln, lc, fa, fn, fc, ra, rn, rc, rfl, hp1, hp2, hp3, hfl, hrw⟩ := hxc.cells
      have hpn : pn = x.head.props.length := by have := hp1.len; simp at this; omega
      have hdn : dn = x.head.dels.length := by have := hp2.len; simp at this; omega
      have hln : ln = x.head.layers.length := by have := hp3.len; simp at this; omega
      have hhm : x.head.mass = pn + dn + ln := by rw [hpn, hdn, hln]; rfl
      have hwf := ih (massL x.flow) (by omega) hfl (Nat.le_refl _) (by omega)
      repeat' (first | (refine A_drawi WideF.wide (.q 0 (.q 1 (.q 2 (.q 3 (.q 4 (.q 5 (.q 6 (.q 7 (.q 8 (.q 9 (.q 10 (.q 11 (.q 12 (.q 13 (.q 14 (.q 15 (.q 16 (.q 17 (.q 18 (.q 19 (.q 20 (.q 21 (.q 22 (.q 23 (.q 24 (.q 25 (.q 26 (.q 27 (.q 28 (.q 29 (.q 30 (.q 31 (.q 32 (.q 33 (.q 34 (.q 35 (.done []))))))))))))))))))))))))))))))))))))) [] [] [] (by decide +kernel) (by decide) rfl ?_; simp only [Own.picks, Own.rget, List.cons_append, List.nil_append, List.append_nil]) | (refine O_ef rfl (Ef_call (I := []) WideF.wide hwf ⟨rfl, trivial⟩ rfl ?_); rintro u H2 I' hle2 ⟨⟨w1, d1, rfl, hw10, hw11, hd10, hd11⟩, rfl, rfl⟩) | refine O_nil ?_ | refine A_seq ?_ | refine A_region ?_ | refine A_skip ?_ | refine A_ret ?_ | refine A_block ?_ | (show drJ _ _ _ _ _ _ _ (.q _ _) _; refine D_q rfl ?_) | (show drJ _ _ _ _ _ _ _ (.done _) _; refine D_done ?_; simp only [List.cons_append, List.nil_append]) | (show drQ _ _ _ _ _ _; first | refine D_ev rfl (Ev_pure rfl) rfl rfl ?_ | (show drQ _ _ _ ⟨_, .load _ _, _, _, _, _⟩ _ _; first | refine D_ev rfl (Ev_loadH1 rfl (hc 3 _ rfl)) rfl rfl ?_ | refine D_ev rfl (Ev_loadH1 rfl (hc 4 _ rfl)) rfl rfl ?_ | refine D_ev rfl (Ev_loadH1 rfl (hc 7 _ rfl)) rfl rfl ?_ | refine D_ev rfl (Ev_loadH1 rfl (hc 8 _ rfl)) rfl rfl ?_) | (show drQ _ _ _ ⟨_, .indexAddr _ _ _, _, _, _, _⟩ _ _; refine D_ev rfl (Ev_indexAddr rfl rfl (by omega) (by omega)) rfl rfl ?_) | (show drQ _ _ _ ⟨_, .fieldAddr _ _ _, _, _, _, _⟩ _ _; refine D_ev rfl (Ev_fieldAddr rfl rfl rfl) rfl rfl ?_) | (show drQ _ _ _ ⟨_, .call _, _, _, _, _⟩ _ _; first | refine D_ev rfl (Ev_llen rfl) rfl rfl ?_ | refine D_ev rfl (Ev_slen rfl) rfl rfl ?_) | (show drQ _ _ _ ⟨_, .binOp _ _ _ _ _, _, _, _, _⟩ _ _; first | refine D_ev rfl (Ev_add rfl rfl (wi64 (by omega))) rfl rfl ?_ | refine D_ev rfl (Ev_quop rfl rfl (by omega) (by omega)) rfl rfl ?_)) | (show opsA _ _ _ _ _ _ _; first | (refine O_split rfl rfl (fun h => ?_) (fun h => ?_) <;> try (exfalso; omega)) | refine O_ev WideF.wide rfl (Ev_pure rfl) rfl rfl ?_ | (show opsA _ _ _ _ (⟨_, .load _ _, _, _, _, _⟩ :: _) _ _; refine O_ev WideF.wide rfl (Ev_loadH1 rfl (hc 9 _ rfl)) rfl rfl ?_) | (show opsA _ _ _ _ (⟨_, .indexAddr _ _ _, _, _, _, _⟩ :: _) _ _; refine O_ev WideF.wide rfl (Ev_indexAddr rfl rfl (by omega) (by omega)) rfl rfl ?_) | (show opsA _ _ _ _ (⟨_, .fieldAddr _ _ _, _, _, _, _⟩ :: _) _ _; refine O_ev WideF.wide rfl (Ev_fieldAddr rfl rfl rfl) rfl rfl ?_) | (show opsA _ _ _ _ (⟨_, .call _, _, _, _, _⟩ :: _) _ _; first | refine O_ev WideF.wide rfl (Ev_llen rfl) rfl rfl ?_ | refine O_ev WideF.wide rfl (Ev_maxi rfl rfl) rfl rfl ?_) | (show opsA _ _ _ _ (⟨_, .binOp _ _ _ _ _, _, _, _, _⟩ :: _) _ _; refine O_ev WideF.wide rfl (Ev_add rfl rfl (wi64 (by omega))) rfl rfl ?_)) | (show wpA _ _ _ (.exit _) _ _ _ _; refine A_exit rfl ?_) | (show wpA _ _ _ (.cond _ _ _) _ _ _ _; (refine A_if rfl (fun h => ?_) (fun h => ?_) <;> try (exfalso; omega))))
      · have hwb : w + pn + dn + ln + x.text.length / 20 + w1 ≤ massL (l.take i) + (n - i) + x.head.mass + x.text.length + massL x.flow := by omega
        have hrn := hrw.len
        have hrl := massR_len x.rows
        refine A_loopu (fun m s => ∃ (k : Nat) (w d : Int), m = rn - k ∧ k ≤ rn ∧ 0 ≤ w ∧ w ≤ massL (l.take i) + (n - i) + x.head.mass + x.text.length + massL x.flow + massR (x.rows.take k) ∧ 0 ≤ d ∧ d ≤ massL (l.take i) + x.mass + 1 ∧ s = wSt2 H2 (some ⟨b', o, none⟩) n cp w d i k) ?_ ?_
        · refine Shift.to ⟨_, 0, _, _, rfl, by omega, ?_, ?_, ?_, ?_, rfl⟩ ⟨rfl, rfl, rfl, ⟨rfl, rfl, rfl, rfl, rfl, trivial⟩, Own.sub_nil _⟩
          · omega
          · simp only [List.take_zero, massR]; omega
          · split <;> omega
          · split <;> omega
        · rintro m s ⟨k, w, d, rfl, hki, hw0, hw1, hd0, hd1, rfl⟩
          have hm4 : massR (x.rows.take k) ≤ massR x.rows := by
            have : massR (x.rows.take k ++ x.rows.drop k) = massR x.rows := by rw [List.take_append_drop]
            rw [massR_append] at this; omega
          by_cases hlk : k < rn
          · obtain ⟨rb, ro, rcs, r, rfl, hri, hrc, hrk, hcr⟩ := hrw.at k hlk
            have hm5 := massR_get hri
            have hm6 := massR_mem hri
            have hts2 : massR (x.rows.take (k + 1)) = massR (x.rows.take k) + (1 + r.1.mass + massC r.2) := by rw [take_get hri, massR_append]; obtain ⟨r1, r2⟩ := r; simp [massR]
            obtain ⟨pa2, pn2, pc2, da2, dn2, dc2, la2, ln2, lc2, ca, cn, cc, rfl, hq1, hq2, hq3, hcl⟩ := hrc.cells
            have hpn2 : pn2 = r.1.props.length := by have := hq1.len; simp at this; omega
            have hdn2 : dn2 = r.1.dels.length := by have := hq2.len; simp at this; omega
            have hln2 : ln2 = r.1.layers.length := by have := hq3.len; simp at this; omega
            have hhm2 : r.1.mass = pn2 + dn2 + ln2 := by rw [hpn2, hdn2, hln2]; rfl
            have hcn := hcl.len
            have hcll := massC_len r.2
            repeat' (first | refine O_nil ?_ | refine A_seq ?_ | refine A_region ?_ | refine A_skip ?_ | refine A_block ?_ | (show opsA _ _ _ _ _ _ _; first | (refine O_split rfl rfl (fun h => ?_) (fun h => ?_) <;> try (exfalso; omega)) | refine O_ev WideF.wide rfl (Ev_pure rfl) rfl rfl ?_ | (show opsA _ _ _ _ (⟨_, .load _ _, _, _, _, _⟩ :: _) _ _; first | refine O_ev WideF.wide rfl (Ev_loadB1 (i := 0) rfl rfl rfl) rfl rfl ?_ | refine O_ev WideF.wide rfl (Ev_loadH1 rfl (hc 10 _ rfl)) rfl rfl ?_ | refine O_ev WideF.wide rfl (Ev_loadH rfl (by assumption) (by rfl)) rfl rfl ?_) | (show opsA _ _ _ _ (⟨_, .indexAddr _ _ _, _, _, _, _⟩ :: _) _ _; refine O_ev WideF.wide rfl (Ev_indexAddr rfl rfl (by omega) (by omega)) rfl rfl ?_) | (show opsA _ _ _ _ (⟨_, .fieldAddr _ _ _, _, _, _, _⟩ :: _) _ _; refine O_ev WideF.wide rfl (Ev_fieldAddr rfl rfl rfl) rfl rfl ?_) | (show opsA _ _ _ _ (⟨_, .call _, _, _, _, _⟩ :: _) _ _; refine O_ev WideF.wide rfl (Ev_llen rfl) rfl rfl ?_) | (show opsA _ _ _ _ (⟨_, .binOp _ _ _ _ _, _, _, _, _⟩ :: _) _ _; refine O_ev WideF.wide rfl (Ev_add rfl rfl (wi64 (by omega))) rfl rfl ?_) | (show opsA _ _ _ _ (⟨_, .alloc _, _, _, _, _⟩ :: _) _ _; (refine O_ef rfl (Ef_alloc WideF.wide rfl ?_); intro b)) | (show opsA _ _ _ _ (⟨_, .store _ _ _, _, _, _, _⟩ :: _) _ _; refine O_ef rfl (Ef_storew WideF.wide rfl rfl rfl rfl rfl ?_))) | (show wpA _ _ _ (.exit _) _ _ _ _; refine A_exit rfl ?_) | (show wpA _ _ _ (.cond _ _ _) _ _ _ _; (refine A_if rfl (fun h => ?_) (fun h => ?_) <;> try (exfalso; omega))))
            · refine A_loopu (fun m s => ∃ (j : Nat) (w d : Int), m = cn - j ∧ j ≤ cn ∧ 0 ≤ w ∧ w ≤ massL (l.take i) + (n - i) + x.head.mass + x.text.length + massL x.flow + massR (x.rows.take k) + 1 + r.1.mass + massC (r.2.take j) ∧ 0 ≤ d ∧ d ≤ massL (l.take i) + x.mass + 1 ∧ s = wSt3 H2 (some ⟨b', o, none⟩) n cp w d i k b [.slice pa2 pn2 pc2, .int .i64 r.1.ins, .int .i64 r.1.move, .slice da2 dn2 dc2, .slice la2 ln2 lc2, .slice ca cn cc] j) ?_ ?_
              · refine Shift.to ⟨_, 0, _, _, rfl, by omega, ?_, ?_, hd0, hd1, rfl⟩ ⟨rfl, rfl, rfl, ⟨rfl, rfl, rfl, rfl, rfl, rfl, rfl, trivial⟩, Own.subi [0] (by decide) rfl rfl⟩
                · omega
                · simp only [List.take_zero, massC]; omega
              · rintro m s ⟨j, w, d, rfl, hji, hw0, hw1, hd0, hd1, rfl⟩
                have hm7 : massC (r.2.take j) ≤ massC r.2 := by
                  have : massC (r.2.take j ++ r.2.drop j) = massC r.2 := by rw [List.take_append_drop]
                  rw [massC_append] at this; omega
                by_cases hlj : j < cn
                · obtain ⟨cb, co, ccs, y, rfl, hci, hcc, hck, hcH⟩ := hcl.at j hlj
                  have hm8 := massC_get hci
                  have hm9 := massC_mem hci
                  have hts3 : massC (r.2.take (j + 1)) = massC (r.2.take j) + (1 + y.2.1.mass + massL y.2.2) := by rw [take_get hci, massC_append]; obtain ⟨y1, y2, y3⟩ := y; simp [massC]
                  obtain ⟨pa3, pn3, pc3, da3, dn3, dc3, la3, ln3, lc3, ga, gn, gc, rfl, hz1, hz2, hz3, hgl⟩ := hcc.cells
                  have hpn3 : pn3 = y.2.1.props.length := by have := hz1.len; simp at this; omega
                  have hdn3 : dn3 = y.2.1.dels.length := by have := hz2.len; simp at this; omega
                  have hln3 : ln3 = y.2.1.layers.length := by have := hz3.len; simp at this; omega
                  have hhm3 : y.2.1.mass = pn3 + dn3 + ln3 := by rw [hpn3, hdn3, hln3]; rfl
                  have hwg := ih (massL y.2.2) (by omega) hgl (Nat.le_refl _) (by omega)
                  have hc := hcH
                  repeat' (first | (refine A_drawi WideF.wide (.q 0 (.q 1 (.q 2 (.q 3 (.q 4 (.q 5 (.q 6 (.q 7 (.q 8 (.q 9 (.q 10 (.q 11 (.q 12 (.q 13 (.q 14 (.q 15 (.q 16 (.q 17 (.q 18 (.q 19 (.q 20 (.q 21 (.q 22 (.q 23 (.q 24 (.q 25 (.q 26 (.q 27 (.q 28 (.q 29 (.q 30 (.q 31 (.q 32 (.q 33 (.q 34 (.q 35 (.q 36 (.q 37 (.q 38 (.done [])))))))))))))))))))))))))))))))))))))))) [] [] [0] (by decide +kernel) (by decide) rfl ?_; simp only [Own.picks, Own.rget, List.cons_append, List.nil_append, List.append_nil]) | (refine O_ef rfl (Ef_call (I := []) WideF.wide hwg ⟨rfl, trivial⟩ rfl ?_); rintro u H3 I' hle3 ⟨⟨w2, d2, rfl, hw20, hw21, hd20, hd21⟩, rfl, rfl⟩) | refine O_nil ?_ | refine A_seq ?_ | refine A_region ?_ | refine A_skip ?_ | refine A_block ?_ | (show drJ _ _ _ _ _ _ _ (.q _ _) _; refine D_q rfl ?_) | (show drJ _ _ _ _ _ _ _ (.done _) _; refine D_done ?_; simp only [List.cons_append, List.nil_append]) | (show drQ _ _ _ _ _ _; first | refine D_ev rfl (Ev_pure rfl) rfl rfl ?_ | (show drQ _ _ _ ⟨_, .load _ _, _, _, _, _⟩ _ _; first | refine D_ev rfl (Ev_loadB1 (i := 0) rfl rfl rfl) rfl rfl ?_ | refine D_ev rfl (Ev_loadH1 rfl (hc 1 _ rfl)) rfl rfl ?_ | refine D_ev rfl (Ev_loadH1 rfl (hc 4 _ rfl)) rfl rfl ?_ | refine D_ev rfl (Ev_loadH1 rfl (hc 5 _ rfl)) rfl rfl ?_) | (show drQ _ _ _ ⟨_, .indexAddr _ _ _, _, _, _, _⟩ _ _; refine D_ev rfl (Ev_indexAddr rfl rfl (by omega) (by omega)) rfl rfl ?_) | (show drQ _ _ _ ⟨_, .fieldAddr _ _ _, _, _, _, _⟩ _ _; refine D_ev rfl (Ev_fieldAddr rfl rfl rfl) rfl rfl ?_) | (show drQ _ _ _ ⟨_, .call _, _, _, _, _⟩ _ _; first | refine D_ev rfl (Ev_llen rfl) rfl rfl ?_ | refine D_ev rfl (Ev_maxi rfl rfl) rfl rfl ?_) | (show drQ _ _ _ ⟨_, .binOp _ _ _ _ _, _, _, _, _⟩ _ _; refine D_ev rfl (Ev_add rfl rfl (wi64 (by omega))) rfl rfl ?_)) | (show opsA _ _ _ _ _ _ _; first | (refine O_split rfl rfl (fun h => ?_) (fun h => ?_) <;> try (exfalso; omega)) | refine O_ev WideF.wide rfl (Ev_pure rfl) rfl rfl ?_ | (show opsA _ _ _ _ (⟨_, .load _ _, _, _, _, _⟩ :: _) _ _; first | refine O_ev WideF.wide rfl (Ev_loadB1 (i := 0) rfl rfl rfl) rfl rfl ?_ | refine O_ev WideF.wide rfl (Ev_loadH1 rfl (hc 6 _ rfl)) rfl rfl ?_) | (show opsA _ _ _ _ (⟨_, .indexAddr _ _ _, _, _, _, _⟩ :: _) _ _; refine O_ev WideF.wide rfl (Ev_indexAddr rfl rfl (by omega) (by omega)) rfl rfl ?_) | (show opsA _ _ _ _ (⟨_, .fieldAddr _ _ _, _, _, _, _⟩ :: _) _ _; refine O_ev WideF.wide rfl (Ev_fieldAddr rfl rfl rfl) rfl rfl ?_) | (show opsA _ _ _ _ (⟨_, .call _, _, _, _, _⟩ :: _) _ _; refine O_ev WideF.wide rfl (Ev_llen rfl) rfl rfl ?_) | (show opsA _ _ _ _ (⟨_, .binOp _ _ _ _ _, _, _, _, _⟩ :: _) _ _; refine O_ev WideF.wide rfl (Ev_add rfl rfl (wi64 (by omega))) rfl rfl ?_)) | (show wpA _ _ _ (.exit _) _ _ _ _; refine A_exit rfl ?_) | (show wpA _ _ _ (.cond _ _ _) _ _ _ _; (refine A_if rfl (fun h => ?_) (fun h => ?_) <;> try (exfalso; omega))))
                  · refine Shift.to ⟨_, ?_, j + 1, _, _, rfl, by omega, ?_, ?_, ?_, ?_, rfl⟩ ⟨rfl, rfl, rfl, ⟨rfl, rfl, rfl, rfl, rfl, rfl, rfl, trivial⟩, Own.subi [0] (by decide) rfl rfl⟩
                    · omega
                    · omega
                    · omega
                    · split <;> omega
                    · split <;> omega
                  · refine Shift.to ⟨_, ?_, k + 1, _, _, rfl, by omega, ?_, ?_, ?_, ?_, rfl⟩ ⟨rfl, rfl, rfl, ⟨rfl, rfl, rfl, rfl, rfl, trivial⟩, Own.sub_nil _⟩
                    all_goals omega
                · have hjn : j = cn := by omega
                  subst hjn
                  have htk : r.2.take j = r.2 := by rw [← hcn, List.take_length]
                  rw [htk] at hw1
                  repeat' (first | refine O_nil ?_ | refine A_seq ?_ | refine A_region ?_ | (show opsA _ _ _ _ _ _ _; first | (refine O_split rfl rfl (fun h => ?_) (fun h => ?_) <;> try (exfalso; omega)) | refine O_ev WideF.wide rfl (Ev_pure rfl) rfl rfl ?_ | (show opsA _ _ _ _ (⟨_, .load _ _, _, _, _, _⟩ :: _) _ _; refine O_ev WideF.wide rfl (Ev_loadB1 (i := 0) rfl rfl rfl) rfl rfl ?_) | (show opsA _ _ _ _ (⟨_, .fieldAddr _ _ _, _, _, _, _⟩ :: _) _ _; refine O_ev WideF.wide rfl (Ev_fieldAddr rfl rfl rfl) rfl rfl ?_) | (show opsA _ _ _ _ (⟨_, .call _, _, _, _, _⟩ :: _) _ _; refine O_ev WideF.wide rfl (Ev_llen rfl) rfl rfl ?_) | (show opsA _ _ _ _ (⟨_, .binOp _ _ _ _ _, _, _, _, _⟩ :: _) _ _; refine O_ev WideF.wide rfl (Ev_add rfl rfl (wi64 (by omega))) rfl rfl ?_) | refine O_skip WideF.wide rfl rfl rfl ?_) | (show wpA _ _ _ (.exit _) _ _ _ _; refine A_exit rfl ?_) | (show wpA _ _ _ (.cond _ _ _) _ _ _ _; refine A_iffalse rfl ?_))
                  refine Shift.to ⟨_, ?_, k + 1, _, _, rfl, by omega, ?_, ?_, ?_, ?_, rfl⟩ ⟨rfl, rfl, rfl, ⟨rfl, rfl, rfl, rfl, rfl, trivial⟩, Own.sub_nil _⟩
                  all_goals omega
            · refine Shift.to ⟨_, ?_, i + 1, _, _, rfl, by omega, ?_, ?_, ?_, ?_, rfl⟩ ⟨rfl, rfl, rfl, ⟨rfl, rfl, rfl, rfl, trivial⟩, Own.sub_nil _⟩
              all_goals omega
          · have hkn : k = rn := by omega
            subst hkn
            have htk : x.rows.take k = x.rows := by rw [← hrn, List.take_length]
            rw [htk] at hw1
            repeat' (first | refine O_nil ?_ | refine A_seq ?_ | refine A_region ?_ | (show opsA _ _ _ _ _ _ _; first | (refine O_split rfl rfl (fun h => ?_) (fun h => ?_) <;> try (exfalso; omega)) | refine O_ev WideF.wide rfl (Ev_pure rfl) rfl rfl ?_ | (show opsA _ _ _ _ (⟨_, .load _ _, _, _, _, _⟩ :: _) _ _; refine O_ev WideF.wide rfl (Ev_loadH1 rfl (hc 10 _ rfl)) rfl rfl ?_) | (show opsA _ _ _ _ (⟨_, .indexAddr _ _ _, _, _, _, _⟩ :: _) _ _; refine O_ev WideF.wide rfl (Ev_indexAddr rfl rfl (by omega) (by omega)) rfl rfl ?_) | (show opsA _ _ _ _ (⟨_, .fieldAddr _ _ _, _, _, _, _⟩ :: _) _ _; refine O_ev WideF.wide rfl (Ev_fieldAddr rfl rfl rfl) rfl rfl ?_) | (show opsA _ _ _ _ (⟨_, .call _, _, _, _, _⟩ :: _) _ _; refine O_ev WideF.wide rfl (Ev_llen rfl) rfl rfl ?_) | (show opsA _ _ _ _ (⟨_, .binOp _ _ _ _ _, _, _, _, _⟩ :: _) _ _; refine O_ev WideF.wide rfl (Ev_add rfl rfl (wi64 (by omega))) rfl rfl ?_) | refine O_skip WideF.wide rfl rfl rfl ?_) | (show wpA _ _ _ (.exit _) _ _ _ _; refine A_exit rfl ?_) | (show wpA _ _ _ (.cond _ _ _) _ _ _ _; refine A_iffalse rfl ?_))
            refine Shift.to ⟨_, ?_, i + 1, _, _, rfl, by omega, ?_, ?_, ?_, ?_, rfl⟩ ⟨rfl, rfl, rfl, ⟨rfl, rfl, rfl, rfl, trivial⟩, Own.sub_nil _⟩
            all_goals omega
      · refine End_e (Ret2 rfl rfl rfl) ⟨⟨_, _, rfl, ?_, ?_, ?_, ?_⟩, rfl, rfl⟩
        all_goals omega
    · have hin : i = n := by omega
      subst hin
      have htk : l.take i = l := by rw [← hn, List.take_length]
      rw [htk] at hw1 hd1
      repeat' (first | refine O_nil ?_ | refine A_seq ?_ | refine A_region ?_ | refine A_ret ?_ | (show opsA _ _ _ _ _ _ _; first | (refine O_split rfl rfl (fun h => ?_) (fun h => ?_) <;> try (exfalso; omega)) | refine O_ev WideF.wide rfl (Ev_pure rfl) rfl rfl ?_ | (show opsA _ _ _ _ (⟨_, .call _, _, _, _, _⟩ :: _) _ _; refine O_ev WideF.wide rfl (Ev_llen rfl) rfl rfl ?_) | refine O_skip WideF.wide rfl rfl rfl ?_) | (show wpA _ _ _ (.exit _) _ _ _ _; refine A_exit rfl ?_) | (show wpA _ _ _ (.cond _ _ _) _ _ _ _; refine A_iffalse rfl ?_))
      all_goals (refine End_e (Ret2 rfl rfl rfl) ⟨⟨_, _, rfl, ?_, ?_, ?_, ?_⟩, rfl, rfl⟩ <;> omega)

/-- several flows, one behind another: their slices' values are a persistent row -/
inductive FlowsH (H : Hp) : List (List Value) → List (List Item) → Prop where
  | nil : FlowsH H [] []
  | cons {a : Option Addr} {n c : Nat} {l : List Item} {css : List (List Value)} {ls : List (List Item)} (h : FlowH H a n c l) (t : FlowsH H css ls) : FlowsH H ([.slice a n c] :: css) (l :: ls)
theorem FlowsH.get {H : Hp} {css : List (List Value)} {ls : List (List Item)} (h : FlowsH H css ls) : ∀ {i : Nat} {cs : List Value}, css[i]? = some cs → ∃ a n c l, cs = [.slice a n c] ∧ ls[i]? = some l ∧ FlowH H a n c l := by
  induction h with
  | nil => intro i cs hi; simp at hi
  | cons h t ih =>
    intro i cs hi
    cases i with
    | zero => simp at hi; subst hi; exact ⟨_, _, _, _, rfl, by simp, h⟩
    | succ i => simp at hi; obtain ⟨a, n, c, l, h1, h2, h3⟩ := ih hi; exact ⟨a, n, c, l, h1, by simpa using h2, h3⟩
theorem FlowsH.length {H : Hp} {css : List (List Value)} {ls : List (List Item)} (h : FlowsH H css ls) : css.length = ls.length := by induction h with | nil => rfl | cons _ _ ih => simp [ih]
set_option maxRecDepth 100000 in
theorem Small_fn {H : Hp} {a : Option Addr} {n cp : Nat} {css : List (List Value)} {ls : List (List Item)} (hr : HRow H a n cp 1 css) (hf : FlowsH H css ls) (hl : ∀ l ∈ ls, massL l < 68719476736) (hn : n < 1000) :
    Fn Try.prog 15 [.slice a n cp] H [] fun v H' I' => (∃ b : Bool, v = .bool b) ∧ H' = H ∧ I' = [] := by
  have hlen := hr.len
  refine Fn_of _ _ Try.func15 rfl Try.ntmps15 rfl fun c => ?_
  repeat' (first | refine O_nil ?_ | refine A_seq ?_ | refine A_region ?_ | refine A_block ?_ | (show opsA _ _ _ _ _ _ _; refine O_ev WideF.wide rfl (Ev_pure rfl) rfl rfl ?_))
  refine A_loopu (fun m s => ∃ i : Nat, m = n - i ∧ i ≤ n ∧ s = ⟨26, [(0, .slice a n cp), (3, .int .i64 i)], H, [], [], []⟩) ?_ ?_
  · exact Shift.to ⟨_, 0, rfl, by omega, rfl⟩ ⟨rfl, rfl, rfl, ⟨rfl, rfl, trivial⟩, Own.sub_nil _⟩
  · rintro m s ⟨i, rfl, hi, rfl⟩
    by_cases hlt : i < n
    · obtain ⟨b', o, cs, rfl, hcs, hk, hc⟩ := hr.at i hlt
      obtain ⟨fa, fn, fc, l, rfl, hli, hfl⟩ := hf.get hcs
      have hw := Weight_fn (massL l) hfl (Nat.le_refl _) (hl l (List.mem_of_getElem? hli))
      repeat' (first | (refine O_ef rfl (Ef_call (I := []) WideF.wide hw ⟨rfl, trivial⟩ rfl ?_); rintro u H3 I' hle3 ⟨⟨w2, d2, rfl, hw20, hw21, hd20, hd21⟩, rfl, rfl⟩) | refine O_nil ?_ | refine A_seq ?_ | refine A_region ?_ | refine A_skip ?_ | refine A_ret ?_ | refine A_block ?_ | (show opsA _ _ _ _ _ _ _; first | (refine O_split rfl rfl (fun h => ?_) (fun h => ?_) <;> try (exfalso; omega)) | refine O_ev WideF.wide rfl (Ev_pure rfl) rfl rfl ?_ | (show opsA _ _ _ _ (⟨_, .load _ _, _, _, _, _⟩ :: _) _ _; refine O_ev WideF.wide rfl (Ev_loadH1 rfl (hc 0 _ rfl)) rfl rfl ?_) | (show opsA _ _ _ _ (⟨_, .indexAddr _ _ _, _, _, _, _⟩ :: _) _ _; refine O_ev WideF.wide rfl (Ev_indexAddr rfl rfl (by omega) (by omega)) rfl rfl ?_) | (show opsA _ _ _ _ (⟨_, .call _, _, _, _, _⟩ :: _) _ _; refine O_ev WideF.wide rfl (Ev_llen rfl) rfl rfl ?_) | (show opsA _ _ _ _ (⟨_, .binOp _ _ _ _ _, _, _, _, _⟩ :: _) _ _; refine O_ev WideF.wide rfl (Ev_add rfl rfl (wi64 (by omega))) rfl rfl ?_) | refine O_skip WideF.wide rfl rfl rfl ?_) | (show wpA _ _ _ (.cond _ _ _) _ _ _ _; first | (refine A_if rfl (fun h => ?_) (fun h => ?_) <;> try (exfalso; omega)) | refine A_iftrue rfl ?_))
      all_goals first
        | exact End_e (Ret1 rfl rfl) ⟨⟨_, rfl⟩, rfl, rfl⟩
        | (refine Shift.to ⟨_, ?_, i + 1, rfl, by omega, rfl⟩ ⟨rfl, rfl, rfl, ⟨rfl, rfl, trivial⟩, Own.sub_nil _⟩; omega)
    · repeat' (first | refine O_nil ?_ | refine A_seq ?_ | refine A_region ?_ | refine A_ret ?_ | (show opsA _ _ _ _ _ _ _; first | refine O_ev WideF.wide rfl (Ev_pure rfl) rfl rfl ?_ | (show opsA _ _ _ _ (⟨_, .call _, _, _, _, _⟩ :: _) _ _; refine O_ev WideF.wide rfl (Ev_llen rfl) rfl rfl ?_)) | (show wpA _ _ _ (.exit _) _ _ _ _; refine A_exit rfl ?_) | (show wpA _ _ _ (.cond _ _ _) _ _ _ _; (refine A_if rfl (fun h => ?_) (fun h => ?_) <;> try (exfalso; omega))))
      exact End_e (Ret1 rfl rfl) ⟨⟨_, rfl⟩, rfl, rfl⟩
end Go.Proofs.Ythbnhcgphkghaaa
