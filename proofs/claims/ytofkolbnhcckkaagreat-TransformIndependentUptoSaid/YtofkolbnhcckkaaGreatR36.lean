/-
  run.Clone and its parts: equal copies, in memory of their own.
-/
import Derived.Test.YtofkolbnhcckkaaGreatR18
namespace Go.Proofs.YtofkolbnhcckkaaGreat
open Go
set_option linter.unusedVariables false
set_option linter.unusedSimpArgs false

/-- the facts that have come to H -/
def Hd (H H' : Hp) : Hp := fun b o => match H b o with
  | some _ => none
  | none => H' b o
theorem Hd_some {H H' : Hp} {b o : Nat} {v : Value} : Hd H H' b o = some v ↔ H b o = none ∧ H' b o = some v := by
  unfold Hd
  cases h : H b o <;> simp
theorem Hd_le {H H' : Hp} : HLe (Hd H H') H' := fun b o v h => (Hd_some.1 h).2
theorem Hd_up {H H1 H2 : Hp} (h : HLe H1 H2) : HLe (Hd H H1) (Hd H H2) := fun b o v hv => Hd_some.2 ⟨(Hd_some.1 hv).1, h _ _ _ (Hd_some.1 hv).2⟩
theorem Hd_down {H H1 H2 : Hp} (h : HLe H H1) : HLe (Hd H1 H2) (Hd H H2) := fun b o v hv => by
  obtain ⟨h1, h2⟩ := Hd_some.1 hv
  refine Hd_some.2 ⟨?_, h2⟩
  cases hb : H b o with
  | none => rfl
  | some u => rw [h _ _ _ hb] at h1; cases h1
theorem Hd_both {H H1 H2 H3 : Hp} (h : HLe H H1) (h2 : HLe H2 H3) : HLe (Hd H1 H2) (Hd H H3) := (Hd_down h).trans (Hd_up h2)
theorem Holds.freezeD {c : Ctx} {H0 H : Hp} {R : Own} {w : World} {a : Option Addr} {n' cp k : Nat} {css : List (List Value)} (h0 : HLe H0 H) (h : Holds c H (.row (.slice a n' cp) k css :: R) w) (h1 : ∀ cs ∈ css, ∀ u ∈ cs, u.oneCell' = true) :
    ∃ H', HLe H H' ∧ HRow (Hd H0 H') a n' cp k css ∧ Holds c H' R w := by
  obtain ⟨H', hle, hr, hh⟩ := h.freeze h1
  refine ⟨H', hle, ⟨hr.len, hr.cap, hr.nil, fun i cs hi => ?_⟩, hh⟩
  obtain ⟨h2, b, o, rfl, h3⟩ := hr.el i cs hi
  refine ⟨h2, b, o, rfl, fun j v hj => Hd_some.2 ⟨?_, h3 j v hj⟩⟩
  have hb := h.apart b (by simp [Own.blocks, Res.blocks]) (o + i * k + j)
  cases hq : H0 b (o + i * k + j) with
  | none => rfl
  | some u => rw [h0 _ _ _ hq] at hb; cases hb
theorem Shift_freezeD {c : Ctx} {K : SP} {n : Nat} {e : Env} {H : Hp} {M L : Own} {D : List Deferred} {a : Option Addr} {n' cp k : Nat} {css : List (List Value)} (H0 : Hp) (h0 : HLe H0 H) (h1 : ∀ cs ∈ css, ∀ u ∈ cs, u.oneCell' = true)
    (h : ∀ H', HLe H H' → HRow (Hd H0 H') a n' cp k css → Shift c K ⟨n, e, H', M, L, D⟩) : Shift c K ⟨n, e, H, .row (.slice a n' cp) k css :: M, L, D⟩ := fun ac w hs => by
  obtain ⟨H', hle, hr, hh⟩ := Holds.freezeD (R := M ++ L) h0 hs.holds h1
  exact h H' hle hr ac w ⟨hs.defers, hs.size, hs.env, hh⟩
theorem O_freezeD {F : Fence} {P : Program} {ops l : List Oper} {c : Ctx} {K : SP} {n : Nat} {e : Env} {H : Hp} {M L : Own} {D : List Deferred} {a : Option Addr} {n' cp k : Nat} {css : List (List Value)} (H0 : Hp) (h0 : HLe H0 H) (h1 : ∀ cs ∈ css, ∀ u ∈ cs, u.oneCell' = true)
    (h : ∀ H', HLe H H' → HRow (Hd H0 H') a n' cp k css → opsA F P c ops l K ⟨n, e, H', M, L, D⟩) : opsA F P c ops l K ⟨n, e, H, .row (.slice a n' cp) k css :: M, L, D⟩ := fun ac w hs => by
  obtain ⟨H', hle, hr, hh⟩ := Holds.freezeD (R := M ++ L) h0 hs.holds h1
  exact h H' hle hr ac w ⟨hs.defers, hs.size, hs.env, hh⟩
theorem A_freezeD {F : Fence} {P : Program} {code : Code} {c : Ctx} {K R : SP} {X : List (Nat × SP)} {n : Nat} {e : Env} {H : Hp} {M L : Own} {D : List Deferred} {a : Option Addr} {n' cp k : Nat} {css : List (List Value)} (H0 : Hp) (h0 : HLe H0 H) (h1 : ∀ cs ∈ css, ∀ u ∈ cs, u.oneCell' = true)
    (h : ∀ H', HLe H H' → HRow (Hd H0 H') a n' cp k css → wpA F P c code K X R ⟨n, e, H', M, L, D⟩) : wpA F P c code K X R ⟨n, e, H, .row (.slice a n' cp) k css :: M, L, D⟩ := fun ac w hs => by
  obtain ⟨H', hle, hr, hh⟩ := Holds.freezeD (R := M ++ L) h0 hs.holds h1
  exact h H' hle hr ac w ⟨hs.defers, hs.size, hs.env, hh⟩
attribute [local irreducible] wpA opsA drJ drQ drE Ef Ev Shift Fn
theorem CloneHead_fr {H : Hp} {hcs : List Value} {h : Head} (hh : HeadH H hcs h) (hl : h.mass < 68719476736) : Fn Tryz.prog 53 [.agg hcs.toArray] H [] fun v H' I' => (∃ pa pn pc da dn dc la ln lc, v = .agg [.slice pa pn pc, .int .i64 h.ins, .int .i64 h.move, .slice da dn dc, .slice la ln lc].toArray ∧
    HRow (Hd H H') pa pn pc 2 (h.props.map prow) ∧ HRow (Hd H H') da dn dc 2 (h.dels.map drow) ∧ HRow (Hd H H') la ln lc 4 (h.layers.map lrow)) ∧ I' = [] := by
  refine (CloneHead_own hh hl).shift ?_
  rintro c w v H' I' hw ⟨rfl, pa, pn, pc, da, dn, dc, la, ln, lc, rfl, rfl⟩
  obtain ⟨H1, hle1, hr1, hw1⟩ := hw.freezeD (HLe.refl _) (prow_one _)
  obtain ⟨H2, hle2, hr2, hw2⟩ := hw1.freezeD hle1 (drow_one _)
  obtain ⟨H3, hle3, hr3, hw3⟩ := hw2.freezeD (hle1.trans hle2) (lrow_one _)
  exact ⟨H3, [], hw3, ⟨pa, pn, pc, da, dn, dc, la, ln, lc, rfl, hr1.mono (Hd_up (hle2.trans hle3)), hr2.mono (Hd_up hle3), hr3⟩, rfl⟩
set_option maxRecDepth 100000 in
theorem eachRow_fr {H : Hp} {a : Option Addr} {n cp f : Nat} {l : List Row} [hfc : FunC Tryz.prog f] (hx0 : SlH H RowH 6 a n cp l) (hl : n < 68719476736)
    (hf : ∀ H1 cs x, HLe H H1 → x ∈ l → RowH H1 cs x → Fn Tryz.prog f [.agg cs.toArray] H1 [] fun v H' I' => (∃ cs', v = .agg cs'.toArray ∧ RowH (Hd H1 H') cs' x) ∧ I' = []) :
    Fn Tryz.prog 79 [.slice a n cp, .func (.func f) #[] #[]] H [] fun v H' I' => ∃ oa oc css, v = .slice oa css.length oc ∧ I' = [.row v 6 css] ∧ All2 (RowH (Hd H H')) css l := by
  have hn := hx0.len
  refine Fn_of _ _ Tryz.func79 rfl Tryz.ntmps79 rfl fun c => ?_
  refine A_nilrow 6 ?_
  repeat' (first | refine O_nil ?_ | refine A_seq ?_ | refine A_region ?_ | refine A_block ?_ | (show opsA _ _ _ _ _ _ _; first | refine O_ev WideF.wide rfl (Ev_pure rfl) rfl rfl ?_ | (show opsA _ _ _ _ (⟨_, .call _, _, _, _, _⟩ :: _) _ _; refine O_ev WideF.wide rfl (Ev_llen rfl) rfl rfl ?_)))
  refine A_loopu (fun m s => ∃ (H1 : Hp) (i : Nat) (oa : Option Addr) (oc : Nat) (css : List (List Value)), m = n - i ∧ i ≤ n ∧ HLe H H1 ∧ All2 (RowH (Hd H H1)) css (l.take i) ∧ s = eachRowSt H1 f a n cp i oa oc css) ?_ ?_
  · exact Shift.to ⟨_, H, 0, none, 0, [], rfl, by omega, HLe.refl _, by simp; exact .nil, rfl⟩ ⟨rfl, rfl, rfl, ⟨rfl, rfl, rfl, rfl, rfl, trivial⟩, Own.subi [0] (by decide) rfl rfl⟩
  · rintro m s ⟨H1, i, oa, oc, css, rfl, hi, hle1, hcss, rfl⟩
    have hcl := hcss.length
    simp only [List.length_take] at hcl
    by_cases hlt : i < n
    · have hx : SlH H1 RowH 6 a n cp l := hx0.mono' (fun _ _ h => h.mono hle1) hle1
      obtain ⟨b', o, cs, x, rfl, hxi, hxc, hk, hc⟩ := hx.at i hlt
      have hcall := hf H1 cs x hle1 (List.mem_of_getElem? hxi) hxc
      obtain ⟨pa, pn, pc, da, dn, dc, la, ln, lc, ca, cn, cc, rfl, _⟩ := hxc.cells
      repeat' (first | (refine O_ef rfl (Ef_callv (I := []) WideF.wide hcall rfl ⟨rfl, trivial⟩ rfl ?_); rintro v H2 I' hle2 ⟨⟨cs', rfl, hxc2⟩, rfl⟩; obtain ⟨pa', pn', pc', da', dn', dc', la', ln', lc', ca', cn', cc', rfl, _⟩ := hxc2.cells) | refine O_nil ?_ | refine A_seq ?_ | refine A_region ?_ | refine A_skip ?_ | refine A_block ?_ | (show opsA _ _ _ _ _ _ _; first | refine O_ev WideF.wide rfl (Ev_pure rfl) rfl rfl ?_ | (show opsA _ _ _ _ (⟨_, .load _ _, _, _, _, _⟩ :: _) _ _; first | refine O_ev WideF.wide rfl (Ev_loadB (i := 0) rfl rfl rfl) rfl rfl ?_ | refine O_ev WideF.wide rfl (Ev_loadH rfl (by assumption) (by rfl)) rfl rfl ?_) | (show opsA _ _ _ _ (⟨_, .indexAddr _ _ _, _, _, _, _⟩ :: _) _ _; refine O_ev WideF.wide rfl (Ev_indexAddr rfl rfl (by omega) (by omega)) rfl rfl ?_) | (show opsA _ _ _ _ (⟨_, .call _, _, _, _, _⟩ :: _) _ _; (refine O_f2 (O_ef rfl (Ef_appendR WideF.wide rfl rfl rfl rfl rfl (by simp; omega) (by simp; omega) rfl ?_)); intro a cp)) | (show opsA _ _ _ _ (⟨_, .buildSlice _ _ _, _, _, _, _⟩ :: _) _ _; (refine O_ef rfl (Ef_build1a WideF.wide rfl rfl rfl rfl rfl ?_); intro b)) | (show opsA _ _ _ _ (⟨_, .binOp _ _ _ _ _, _, _, _, _⟩ :: _) _ _; refine O_ev WideF.wide rfl (Ev_add rfl rfl (wi64 (by omega))) rfl rfl ?_) | (show opsA _ _ _ _ (⟨_, .alloc _, _, _, _, _⟩ :: _) _ _; (refine O_ef rfl (Ef_alloc WideF.wide rfl ?_); intro b)) | (show opsA _ _ _ _ (⟨_, .store _ _ _, _, _, _, _⟩ :: _) _ _; refine O_ef rfl (Ef_storew WideF.wide rfl rfl rfl rfl rfl ?_))) | (show wpA _ _ _ (.cond _ _ _) _ _ _ _; (refine A_if rfl (fun h => ?_) (fun h => ?_) <;> try (exfalso; omega))))
      refine Shift.to ⟨_, ?_, H2, i + 1, _, _, _, rfl, by omega, hle1.trans hle2, ?_, rfl⟩ ⟨rfl, rfl, rfl, ⟨rfl, rfl, rfl, rfl, rfl, trivial⟩, Own.subi [0] (by decide) rfl rfl⟩
      · omega
      · rw [take_get hxi]; exact (hcss.mono fun _ _ h => h.mono (Hd_up hle2)).append (All2.one (hxc2.mono (Hd_down hle1)))
    · have hin : n = i := by omega
      subst hin
      have htk : l.take n = l := by rw [← hn, List.take_length]
      rw [htk] at hcss
      repeat' (first | refine O_nil ?_ | refine A_seq ?_ | refine A_region ?_ | refine A_ret ?_ | (show opsA _ _ _ _ _ _ _; refine O_ev WideF.wide rfl (Ev_pure rfl) rfl rfl ?_) | (show wpA _ _ _ (.exit _) _ _ _ _; refine A_exit rfl ?_) | (show wpA _ _ _ (.cond _ _ _) _ _ _ _; (refine A_if rfl (fun h => ?_) (fun h => ?_) <;> try (exfalso; omega))))
      exact End_m (Ret1 rfl rfl) ⟨oa, oc, css, rfl, rfl, hcss⟩
set_option maxRecDepth 100000 in
theorem eachCell_fr {H : Hp} {a : Option Addr} {n cp f : Nat} {l : List Cell} [hfc : FunC Tryz.prog f] (hx0 : SlH H CellH 7 a n cp l) (hl : n < 68719476736)
    (hf : ∀ H1 cs x, HLe H H1 → x ∈ l → CellH H1 cs x → Fn Tryz.prog f [.agg cs.toArray] H1 [] fun v H' I' => (∃ cs', v = .agg cs'.toArray ∧ CellH (Hd H1 H') cs' x) ∧ I' = []) :
    Fn Tryz.prog 85 [.slice a n cp, .func (.func f) #[] #[]] H [] fun v H' I' => ∃ oa oc css, v = .slice oa css.length oc ∧ I' = [.row v 7 css] ∧ All2 (CellH (Hd H H')) css l := by
  have hn := hx0.len
  refine Fn_of _ _ Tryz.func85 rfl Tryz.ntmps85 rfl fun c => ?_
  refine A_nilrow 7 ?_
  repeat' (first | refine O_nil ?_ | refine A_seq ?_ | refine A_region ?_ | refine A_block ?_ | (show opsA _ _ _ _ _ _ _; first | refine O_ev WideF.wide rfl (Ev_pure rfl) rfl rfl ?_ | (show opsA _ _ _ _ (⟨_, .call _, _, _, _, _⟩ :: _) _ _; refine O_ev WideF.wide rfl (Ev_llen rfl) rfl rfl ?_)))
  refine A_loopu (fun m s => ∃ (H1 : Hp) (i : Nat) (oa : Option Addr) (oc : Nat) (css : List (List Value)), m = n - i ∧ i ≤ n ∧ HLe H H1 ∧ All2 (CellH (Hd H H1)) css (l.take i) ∧ s = eachCellSt H1 f a n cp i oa oc css) ?_ ?_
  · exact Shift.to ⟨_, H, 0, none, 0, [], rfl, by omega, HLe.refl _, by simp; exact .nil, rfl⟩ ⟨rfl, rfl, rfl, ⟨rfl, rfl, rfl, rfl, rfl, trivial⟩, Own.subi [0] (by decide) rfl rfl⟩
  · rintro m s ⟨H1, i, oa, oc, css, rfl, hi, hle1, hcss, rfl⟩
    have hcl := hcss.length
    simp only [List.length_take] at hcl
    by_cases hlt : i < n
    · have hx : SlH H1 CellH 7 a n cp l := hx0.mono' (fun _ _ h => h.mono hle1) hle1
      obtain ⟨b', o, cs, x, rfl, hxi, hxc, hk, hc⟩ := hx.at i hlt
      have hcall := hf H1 cs x hle1 (List.mem_of_getElem? hxi) hxc
      obtain ⟨pa, pn, pc, da, dn, dc, la, ln, lc, fa, fn, fc, rfl, _⟩ := hxc.cells
      repeat' (first | (refine O_ef rfl (Ef_callv (I := []) WideF.wide hcall rfl ⟨rfl, trivial⟩ rfl ?_); rintro v H2 I' hle2 ⟨⟨cs', rfl, hxc2⟩, rfl⟩; obtain ⟨pa', pn', pc', da', dn', dc', la', ln', lc', fa', fn', fc', rfl, _⟩ := hxc2.cells) | refine O_nil ?_ | refine A_seq ?_ | refine A_region ?_ | refine A_skip ?_ | refine A_block ?_ | (show opsA _ _ _ _ _ _ _; first | refine O_ev WideF.wide rfl (Ev_pure rfl) rfl rfl ?_ | (show opsA _ _ _ _ (⟨_, .load _ _, _, _, _, _⟩ :: _) _ _; first | refine O_ev WideF.wide rfl (Ev_loadB (i := 0) rfl rfl rfl) rfl rfl ?_ | refine O_ev WideF.wide rfl (Ev_loadH rfl (by assumption) (by rfl)) rfl rfl ?_) | (show opsA _ _ _ _ (⟨_, .indexAddr _ _ _, _, _, _, _⟩ :: _) _ _; refine O_ev WideF.wide rfl (Ev_indexAddr rfl rfl (by omega) (by omega)) rfl rfl ?_) | (show opsA _ _ _ _ (⟨_, .call _, _, _, _, _⟩ :: _) _ _; (refine O_f2 (O_ef rfl (Ef_appendR WideF.wide rfl rfl rfl rfl rfl (by simp; omega) (by simp; omega) rfl ?_)); intro a cp)) | (show opsA _ _ _ _ (⟨_, .buildSlice _ _ _, _, _, _, _⟩ :: _) _ _; (refine O_ef rfl (Ef_build1a WideF.wide rfl rfl rfl rfl rfl ?_); intro b)) | (show opsA _ _ _ _ (⟨_, .binOp _ _ _ _ _, _, _, _, _⟩ :: _) _ _; refine O_ev WideF.wide rfl (Ev_add rfl rfl (wi64 (by omega))) rfl rfl ?_) | (show opsA _ _ _ _ (⟨_, .alloc _, _, _, _, _⟩ :: _) _ _; (refine O_ef rfl (Ef_alloc WideF.wide rfl ?_); intro b)) | (show opsA _ _ _ _ (⟨_, .store _ _ _, _, _, _, _⟩ :: _) _ _; refine O_ef rfl (Ef_storew WideF.wide rfl rfl rfl rfl rfl ?_))) | (show wpA _ _ _ (.cond _ _ _) _ _ _ _; (refine A_if rfl (fun h => ?_) (fun h => ?_) <;> try (exfalso; omega))))
      refine Shift.to ⟨_, ?_, H2, i + 1, _, _, _, rfl, by omega, hle1.trans hle2, ?_, rfl⟩ ⟨rfl, rfl, rfl, ⟨rfl, rfl, rfl, rfl, rfl, trivial⟩, Own.subi [0] (by decide) rfl rfl⟩
      · omega
      · rw [take_get hxi]; exact (hcss.mono fun _ _ h => h.mono (Hd_up hle2)).append (All2.one (hxc2.mono (Hd_down hle1)))
    · have hin : n = i := by omega
      subst hin
      have htk : l.take n = l := by rw [← hn, List.take_length]
      rw [htk] at hcss
      repeat' (first | refine O_nil ?_ | refine A_seq ?_ | refine A_region ?_ | refine A_ret ?_ | (show opsA _ _ _ _ _ _ _; refine O_ev WideF.wide rfl (Ev_pure rfl) rfl rfl ?_) | (show wpA _ _ _ (.exit _) _ _ _ _; refine A_exit rfl ?_) | (show wpA _ _ _ (.cond _ _ _) _ _ _ _; (refine A_if rfl (fun h => ?_) (fun h => ?_) <;> try (exfalso; omega))))
      exact End_m (Ret1 rfl rfl) ⟨oa, oc, css, rfl, rfl, hcss⟩
set_option maxRecDepth 100000 in
theorem eachItem_fr {H : Hp} {a : Option Addr} {n cp f : Nat} {l : List Item} [hfc : FunC Tryz.prog f] (hx0 : SlH H ItemH 11 a n cp l) (hl : n < 68719476736)
    (hf : ∀ H1 cs x, HLe H H1 → x ∈ l → ItemH H1 cs x → Fn Tryz.prog f [.agg cs.toArray] H1 [] fun v H' I' => (∃ cs', v = .agg cs'.toArray ∧ ItemH (Hd H1 H') cs' x) ∧ I' = []) :
    Fn Tryz.prog 77 [.slice a n cp, .func (.func f) #[] #[]] H [] fun v H' I' => ∃ oa oc css, v = .slice oa css.length oc ∧ I' = [.row v 11 css] ∧ All2 (ItemH (Hd H H')) css l := by
  have hn := hx0.len
  refine Fn_of _ _ Tryz.func77 rfl Tryz.ntmps77 rfl fun c => ?_
  refine A_nilrow 11 ?_
  repeat' (first | refine O_nil ?_ | refine A_seq ?_ | refine A_region ?_ | refine A_block ?_ | (show opsA _ _ _ _ _ _ _; first | refine O_ev WideF.wide rfl (Ev_pure rfl) rfl rfl ?_ | (show opsA _ _ _ _ (⟨_, .call _, _, _, _, _⟩ :: _) _ _; refine O_ev WideF.wide rfl (Ev_llen rfl) rfl rfl ?_)))
  refine A_loopu (fun m s => ∃ (H1 : Hp) (i : Nat) (oa : Option Addr) (oc : Nat) (css : List (List Value)), m = n - i ∧ i ≤ n ∧ HLe H H1 ∧ All2 (ItemH (Hd H H1)) css (l.take i) ∧ s = eachItemSt H1 f a n cp i oa oc css) ?_ ?_
  · exact Shift.to ⟨_, H, 0, none, 0, [], rfl, by omega, HLe.refl _, by simp; exact .nil, rfl⟩ ⟨rfl, rfl, rfl, ⟨rfl, rfl, rfl, rfl, rfl, trivial⟩, Own.subi [0] (by decide) rfl rfl⟩
  · rintro m s ⟨H1, i, oa, oc, css, rfl, hi, hle1, hcss, rfl⟩
    have hcl := hcss.length
    simp only [List.length_take] at hcl
    by_cases hlt : i < n
    · have hx : SlH H1 ItemH 11 a n cp l := hx0.mono' (fun _ _ h => h.mono hle1) hle1
      obtain ⟨b', o, cs, x, rfl, hxi, hxc, hk, hc⟩ := hx.at i hlt
      have hcall := hf H1 cs x hle1 (List.mem_of_getElem? hxi) hxc
      obtain ⟨pa, pn, pc, da, dn, dc, la, ln, lc, fa, fn, fc, ra, rn, rc, rfl, _⟩ := hxc.cells
      repeat' (first | (refine O_ef rfl (Ef_callv (I := []) WideF.wide hcall rfl ⟨rfl, trivial⟩ rfl ?_); rintro v H2 I' hle2 ⟨⟨cs', rfl, hxc2⟩, rfl⟩; obtain ⟨pa', pn', pc', da', dn', dc', la', ln', lc', fa', fn', fc', ra', rn', rc', rfl, _⟩ := hxc2.cells) | refine O_nil ?_ | refine A_seq ?_ | refine A_region ?_ | refine A_skip ?_ | refine A_block ?_ | (show opsA _ _ _ _ _ _ _; first | refine O_ev WideF.wide rfl (Ev_pure rfl) rfl rfl ?_ | (show opsA _ _ _ _ (⟨_, .load _ _, _, _, _, _⟩ :: _) _ _; first | refine O_ev WideF.wide rfl (Ev_loadB (i := 0) rfl rfl rfl) rfl rfl ?_ | refine O_ev WideF.wide rfl (Ev_loadH rfl (by assumption) (by rfl)) rfl rfl ?_) | (show opsA _ _ _ _ (⟨_, .indexAddr _ _ _, _, _, _, _⟩ :: _) _ _; refine O_ev WideF.wide rfl (Ev_indexAddr rfl rfl (by omega) (by omega)) rfl rfl ?_) | (show opsA _ _ _ _ (⟨_, .call _, _, _, _, _⟩ :: _) _ _; (refine O_f2 (O_ef rfl (Ef_appendR WideF.wide rfl rfl rfl rfl rfl (by simp; omega) (by simp; omega) rfl ?_)); intro a cp)) | (show opsA _ _ _ _ (⟨_, .buildSlice _ _ _, _, _, _, _⟩ :: _) _ _; (refine O_ef rfl (Ef_build1a WideF.wide rfl rfl rfl rfl rfl ?_); intro b)) | (show opsA _ _ _ _ (⟨_, .binOp _ _ _ _ _, _, _, _, _⟩ :: _) _ _; refine O_ev WideF.wide rfl (Ev_add rfl rfl (wi64 (by omega))) rfl rfl ?_) | (show opsA _ _ _ _ (⟨_, .alloc _, _, _, _, _⟩ :: _) _ _; (refine O_ef rfl (Ef_alloc WideF.wide rfl ?_); intro b)) | (show opsA _ _ _ _ (⟨_, .store _ _ _, _, _, _, _⟩ :: _) _ _; refine O_ef rfl (Ef_storew WideF.wide rfl rfl rfl rfl rfl ?_))) | (show wpA _ _ _ (.cond _ _ _) _ _ _ _; (refine A_if rfl (fun h => ?_) (fun h => ?_) <;> try (exfalso; omega))))
      refine Shift.to ⟨_, ?_, H2, i + 1, _, _, _, rfl, by omega, hle1.trans hle2, ?_, rfl⟩ ⟨rfl, rfl, rfl, ⟨rfl, rfl, rfl, rfl, rfl, trivial⟩, Own.subi [0] (by decide) rfl rfl⟩
      · omega
      · rw [take_get hxi]; exact (hcss.mono fun _ _ h => h.mono (Hd_up hle2)).append (All2.one (hxc2.mono (Hd_down hle1)))
    · have hin : n = i := by omega
      subst hin
      have htk : l.take n = l := by rw [← hn, List.take_length]
      rw [htk] at hcss
      repeat' (first | refine O_nil ?_ | refine A_seq ?_ | refine A_region ?_ | refine A_ret ?_ | (show opsA _ _ _ _ _ _ _; refine O_ev WideF.wide rfl (Ev_pure rfl) rfl rfl ?_) | (show wpA _ _ _ (.exit _) _ _ _ _; refine A_exit rfl ?_) | (show wpA _ _ _ (.cond _ _ _) _ _ _ _; (refine A_if rfl (fun h => ?_) (fun h => ?_) <;> try (exfalso; omega))))
      exact End_m (Ret1 rfl rfl) ⟨oa, oc, css, rfl, rfl, hcss⟩

def CloneC (N : Nat) : Prop := ∀ (H : Hp) (a : Option Addr) (n cp : Nat) (l : List Item), FlowH H a n cp l → massL l < N → massL l < 68719476736 → Fn Tryz.prog 52 [.slice a n cp] H [] fun v H' I' => (∃ oa on oc, v = .slice oa on oc ∧ FlowH (Hd H H') oa on oc l) ∧ I' = []

set_option maxRecDepth 100000 in
theorem CloneCell_fr {N : Nat} (hN : CloneC N) {H : Hp} {cs : List Value} {x : Cell} (hx : CellH H cs x) (hl : massL x.2.2 < N) (hl2 : x.2.1.mass + massL x.2.2 < 68719476736) : Fn Tryz.prog 56 [.agg cs.toArray] H [] fun v H' I' => (∃ cs', v = .agg cs'.toArray ∧ CellH (Hd H H') cs' x) ∧ I' = [] := by
  obtain ⟨pa, pn, pc, da, dn, dc, la, ln, lc, fa, fn, fc, rfl, h1, h2, h3, h4⟩ := hx.cells
  have hh : HeadH H [.slice pa pn pc, .int .i64 x.2.1.ins, .int .i64 x.2.1.move, .slice da dn dc, .slice la ln lc] x.2.1 := ⟨pa, pn, pc, da, dn, dc, la, ln, lc, rfl, h1, h2, h3⟩
  have c1 := CloneHead_fr hh (by omega)
  refine Fn_of _ _ Tryz.func56 rfl Tryz.ntmps56 rfl fun c => ?_
  repeat' (first | refine O_nil ?_ | refine A_seq ?_ | refine A_region ?_ | (show opsA _ _ _ _ _ _ _; first | (show opsA _ _ _ _ (⟨_, .alloc _, _, _, _, _⟩ :: _) _ _; (refine O_ef rfl (Ef_alloc WideF.wide rfl ?_); intro b)) | (show opsA _ _ _ _ (⟨_, .box _ _, _, _, _, _⟩ :: _) _ _; (refine O_ef rfl (Ef_boxa WideF.wide rfl rfl ?_); intro b))))
  (refine A_drawi WideF.wide (.q 0 (.q 1 (.q 2 (.q 3 (.q 5 (.q 6 (.e 4 (.e 7 (.r (.q 8 (.e 9 (.done [])))))))))))) [8, 9] [0] [1] (by decide +kernel) (by decide) rfl ?_; simp only [Own.picks, Own.rget, List.cons_append, List.nil_append, List.append_nil])
  repeat' (first | (refine E_ef rfl (Ef_call (I := []) WideF.wide c1 ⟨rfl, trivial⟩ rfl ?_); rintro v H1 I1 hle1 ⟨⟨pa', pn', pc', da', dn', dc', la', ln', lc', rfl, r1, r2, r3⟩, rfl⟩; refine ⟨⟨hle1, rfl⟩, ?_⟩) | (refine E_ef rfl (Ef_call (I := []) WideF.wide (hN _ _ _ _ _ (h4.mono hle1) hl (by omega)) ⟨rfl, trivial⟩ rfl ?_); rintro v H2 I2 hle2 ⟨⟨oa, on, oc, rfl, hf⟩, rfl⟩; refine ⟨⟨hle2, rfl⟩, ?_⟩) | refine O_nil ?_ | refine A_ret ?_ | (show drJ _ _ _ _ _ _ _ (.q _ _) _; refine D_q rfl ?_) | (show drJ _ _ _ _ _ _ _ (.e _ _) _; refine D_e rfl ?_) | (show drJ _ _ _ _ _ _ _ (.r _) _; refine D_r ?_; simp only [List.cons_append, List.nil_append]) | (show drJ _ _ _ _ _ _ _ (.done _) _; refine D_done ?_; simp only [List.cons_append, List.nil_append]) | (show drQ _ _ _ _ _ _; first | (show drQ _ _ _ ⟨_, .load _ _, _, _, _, _⟩ _ _; first | refine D_ev rfl (Ev_loadB1 (i := 0) rfl rfl rfl) rfl rfl ?_ | refine D_ev rfl (Ev_loadBs (i := 0) rfl rfl rfl rfl) rfl rfl ?_) | (show drQ _ _ _ ⟨_, .fieldAddr _ _ _, _, _, _, _⟩ _ _; refine D_ev rfl (Ev_fieldAddr rfl rfl rfl) rfl rfl ?_) | (show drQ _ _ _ ⟨_, .build _ _, _, _, _, _⟩ _ _; refine D_ev rfl (Ev_build (vs := [(_, _), (_, _), (_, _)]) ⟨rfl, rfl, rfl, rfl, rfl, rfl, trivial⟩ rfl) rfl rfl ?_)) | (show drE _ _ _ _ _ _ _; (show drE _ _ _ _ ⟨_, .store _ _ _, _, _, _, _⟩ _ _; (refine E_ef rfl (Ef_storew WideF.wide rfl rfl rfl rfl rfl ?_); refine ⟨Grow.same rfl rfl, ?_⟩))))
  exact End_e (RetC rfl rfl (i := 0) rfl rfl) ⟨⟨[.int .i64 x.1, .slice pa' pn' pc', .int .i64 x.2.1.ins, .int .i64 x.2.1.move, .slice da' dn' dc', .slice la' ln' lc', .slice oa on oc], rfl, CellH.of (x := x) (r1.mono (Hd_up hle2)) (r2.mono (Hd_up hle2)) (r3.mono (Hd_up hle2)) (hf.mono (Hd_down hle1))⟩, rfl⟩
set_option maxRecDepth 100000 in
theorem CloneRow_fr {N : Nat} (hN : CloneC N) {H : Hp} {cs : List Value} {x : Row} (hx : RowH H cs x) (hl : massC x.2 < N) (hl2 : x.1.mass + massC x.2 < 68719476736) : Fn Tryz.prog 55 [.agg cs.toArray] H [] fun v H' I' => (∃ cs', v = .agg cs'.toArray ∧ RowH (Hd H H') cs' x) ∧ I' = [] := by
  obtain ⟨pa, pn, pc, da, dn, dc, la, ln, lc, ca, cn, cc, rfl, h1, h2, h3, h4⟩ := hx.cells
  have hcn := h4.len
  have hcm := massC_len x.2
  have hh : HeadH H [.slice pa pn pc, .int .i64 x.1.ins, .int .i64 x.1.move, .slice da dn dc, .slice la ln lc] x.1 := ⟨pa, pn, pc, da, dn, dc, la, ln, lc, rfl, h1, h2, h3⟩
  have c1 := CloneHead_fr hh (by omega)
  have c2 : ∀ H1, HLe H H1 → Fn Tryz.prog 85 [.slice ca cn cc, .func (.func 56) #[] #[]] H1 [] fun v H' I' => ∃ oa oc css, v = .slice oa css.length oc ∧ I' = [.row v 7 css] ∧ All2 (CellH (Hd H1 H')) css x.2 := fun H1 hle1 =>
    eachCell_fr (h4.mono hle1) (by omega) fun H2 cs y _ hy hyc => CloneCell_fr hN hyc (by have := massC_mem' hy; omega) (by have := massC_mem' hy; omega)
  refine Fn_of _ _ Tryz.func55 rfl Tryz.ntmps55 rfl fun c => ?_
  repeat' (first | refine O_nil ?_ | refine A_seq ?_ | refine A_region ?_ | (show opsA _ _ _ _ _ _ _; first | (show opsA _ _ _ _ (⟨_, .alloc _, _, _, _, _⟩ :: _) _ _; (refine O_ef rfl (Ef_alloc WideF.wide rfl ?_); intro b)) | (show opsA _ _ _ _ (⟨_, .box _ _, _, _, _, _⟩ :: _) _ _; (refine O_ef rfl (Ef_boxa WideF.wide rfl rfl ?_); intro b))))
  (refine A_drawi WideF.wide (.q 0 (.q 1 (.q 3 (.q 4 (.e 2 (.r (.e 5 (.q 6 (.e 7 (.done [])))))))))) [5, 6, 7] [0] [1] (by decide +kernel) (by decide) rfl ?_; simp only [Own.picks, Own.rget, List.cons_append, List.nil_append, List.append_nil])
  repeat' (first | (refine E_ef rfl (Ef_call (I := []) WideF.wide c1 ⟨rfl, trivial⟩ rfl ?_); rintro v H1 I1 hle1 ⟨⟨pa', pn', pc', da', dn', dc', la', ln', lc', rfl, r1, r2, r3⟩, rfl⟩; refine ⟨⟨hle1, rfl⟩, ?_⟩) | (refine E_ef rfl (Ef_call (I := []) WideF.wide (c2 _ hle1) ⟨rfl, rfl, trivial⟩ rfl ?_); rintro v H2 I2 hle2 ⟨oa, oc, css, rfl, rfl, hcs⟩; refine ⟨⟨hle2, rfl⟩, ?_⟩) | refine O_nil ?_ | refine A_ret ?_ | (show drJ _ _ _ _ _ _ _ (.q _ _) _; refine D_q rfl ?_) | (show drJ _ _ _ _ _ _ _ (.e _ _) _; refine D_e rfl ?_) | (show drJ _ _ _ _ _ _ _ (.r _) _; refine D_r ?_; simp only [List.cons_append, List.nil_append]) | (show drJ _ _ _ _ _ _ _ (.done _) _; refine D_done ?_; simp only [List.cons_append, List.nil_append]) | (show drQ _ _ _ _ _ _; first | (show drQ _ _ _ ⟨_, .load _ _, _, _, _, _⟩ _ _; first | refine D_ev rfl (Ev_loadB1 (i := 0) rfl rfl rfl) rfl rfl ?_ | refine D_ev rfl (Ev_loadBs (i := 0) rfl rfl rfl rfl) rfl rfl ?_) | (show drQ _ _ _ ⟨_, .fieldAddr _ _ _, _, _, _, _⟩ _ _; refine D_ev rfl (Ev_fieldAddr rfl rfl rfl) rfl rfl ?_) | (show drQ _ _ _ ⟨_, .build _ _, _, _, _, _⟩ _ _; refine D_ev rfl (Ev_build (vs := [(_, _), (_, _)]) ⟨rfl, rfl, rfl, rfl, trivial⟩ rfl) rfl rfl ?_)) | (show drE _ _ _ _ _ _ _; (show drE _ _ _ _ ⟨_, .store _ _ _, _, _, _, _⟩ _ _; (refine E_ef rfl (Ef_f1 (Ef_storew WideF.wide rfl rfl rfl rfl rfl ?_)); refine ⟨Grow.same rfl rfl, ?_⟩))))
  refine End_s (RetC rfl rfl (i := 0) rfl rfl) (Shift.lek ⟨10, [], H2, [.row (.slice oa css.length oc) 7 css], [], []⟩ ⟨rfl, rfl, rfl, trivial, Own.subi [1] (by decide) rfl rfl⟩ (Shift_freezeD H (hle1.trans hle2) (hcs.ones fun _ _ h => h.one) fun H3 hle3 hr3 => Shift.pure ⟨rfl, ⟨[.slice pa' pn' pc', .int .i64 x.1.ins, .int .i64 x.1.move, .slice da' dn' dc', .slice la' ln' lc', .slice oa css.length oc], rfl, ?_⟩, rfl⟩))
  exact RowH.of (x := x) (r1.mono (Hd_up (hle2.trans hle3))) (r2.mono (Hd_up (hle2.trans hle3))) (r3.mono (Hd_up (hle2.trans hle3))) ⟨css, hr3, hcs.mono fun _ _ h => h.mono (Hd_both hle1 hle3)⟩
set_option maxRecDepth 100000 in
theorem CloneItem_fr {N : Nat} (hN : CloneC N) {H : Hp} {cs : List Value} {x : Item} (hx : ItemH H cs x) (hl : massL x.flow < N) (hl1 : massR x.rows ≤ N) (hl2 : x.mass < 68719476736) : Fn Tryz.prog 78 [.agg cs.toArray] H [] fun v H' I' => (∃ cs', v = .agg cs'.toArray ∧ ItemH (Hd H H') cs' x) ∧ I' = [] := by
  obtain ⟨pa, pn, pc, da, dn, dc, la, ln, lc, fa, fn, fc, ra, rn, rc, rfl, h1, h2, h3, h4, h5⟩ := hx.cells
  have hme := x.mass_eq
  have hrn := h5.len
  have hrm := massR_len x.rows
  have hh : HeadH H [.slice pa pn pc, .int .i64 x.head.ins, .int .i64 x.head.move, .slice da dn dc, .slice la ln lc] x.head := ⟨pa, pn, pc, da, dn, dc, la, ln, lc, rfl, h1, h2, h3⟩
  have c1 := CloneHead_fr hh (by omega)
  have c2 : ∀ H1, HLe H H1 → Fn Tryz.prog 79 [.slice ra rn rc, .func (.func 55) #[] #[]] H1 [] fun v H' I' => ∃ oa oc css, v = .slice oa css.length oc ∧ I' = [.row v 6 css] ∧ All2 (RowH (Hd H1 H')) css x.rows := fun H1 hle1 =>
    eachRow_fr (h5.mono hle1) (by omega) fun H2 cs y _ hy hyc => CloneRow_fr hN hyc (by have := massR_mem' hy; omega) (by have := massR_mem' hy; omega)
  refine Fn_of _ _ Tryz.func78 rfl Tryz.ntmps78 rfl fun c => ?_
  repeat' (first | refine O_nil ?_ | refine A_seq ?_ | refine A_region ?_ | (show opsA _ _ _ _ _ _ _; first | (show opsA _ _ _ _ (⟨_, .alloc _, _, _, _, _⟩ :: _) _ _; (refine O_ef rfl (Ef_alloc WideF.wide rfl ?_); intro b)) | (show opsA _ _ _ _ (⟨_, .box _ _, _, _, _, _⟩ :: _) _ _; (refine O_ef rfl (Ef_boxa WideF.wide rfl rfl ?_); intro b))))
  (refine A_drawi WideF.wide (.q 0 (.q 1 (.q 3 (.q 4 (.q 6 (.q 7 (.e 2 (.p 9 (.e 5 (.r (.e 8 (.e 10 (.q 11 (.e 12 (.q 13 (.e 14 (.done []))))))))))))))))) [8, 10, 11, 12, 13, 14] [0] [1] (by decide +kernel) (by decide) rfl ?_; simp only [Own.picks, Own.rget, List.cons_append, List.nil_append, List.append_nil])
  repeat' (first | (refine E_ef rfl (Ef_call (I := []) WideF.wide c1 ⟨rfl, trivial⟩ rfl ?_); rintro v H1 I1 hle1 ⟨⟨pa', pn', pc', da', dn', dc', la', ln', lc', rfl, r1, r2, r3⟩, rfl⟩; refine ⟨⟨hle1, rfl⟩, ?_⟩) | (refine E_ef rfl (Ef_call (I := []) WideF.wide (hN _ _ _ _ _ (h4.mono hle1) hl (by omega)) ⟨rfl, trivial⟩ rfl ?_); rintro v H2 I2 hle2 ⟨⟨oa, on, oc, rfl, hf⟩, rfl⟩; refine ⟨⟨hle2, rfl⟩, ?_⟩) | (refine E_ef rfl (Ef_call (I := []) WideF.wide (c2 _ (hle1.trans hle2)) ⟨rfl, rfl, trivial⟩ rfl ?_); rintro v H3 I3 hle3 ⟨ya, yc, css, rfl, rfl, hcs⟩; refine ⟨⟨hle3, rfl⟩, ?_⟩) | refine O_nil ?_ | refine A_seq ?_ | refine A_region ?_ | refine A_ret ?_ | (show drJ _ _ _ _ _ _ _ (.q _ _) _; refine D_q rfl ?_) | (show drJ _ _ _ _ _ _ _ (.e _ _) _; refine D_e rfl ?_) | (show drJ _ _ _ _ _ _ _ (.r _) _; refine D_r ?_; simp only [List.cons_append, List.nil_append]) | (show drJ _ _ _ _ _ _ _ (.done _) _; refine D_done ?_; simp only [List.cons_append, List.nil_append]) | (show drQ _ _ _ _ _ _; first | (show drQ _ _ _ ⟨_, .load _ _, _, _, _, _⟩ _ _; first | refine D_ev rfl (Ev_loadB1 (i := 0) rfl rfl rfl) rfl rfl ?_ | refine D_ev rfl (Ev_loadBs (i := 0) rfl rfl rfl rfl) rfl rfl ?_) | (show drQ _ _ _ ⟨_, .fieldAddr _ _ _, _, _, _, _⟩ _ _; refine D_ev rfl (Ev_fieldAddr rfl rfl rfl) rfl rfl ?_)) | (show drJ _ _ _ _ _ _ _ (.p _ _) _; refine D_p rfl ?_) | (show drP _ _ _ _ _ _; (show drP _ _ _ ⟨_, .fieldAddr _ _ _, _, _, _, _⟩ _ _; refine D_pv rfl (Ev_fieldAddr rfl rfl rfl) rfl rfl ?_)) | (show drE _ _ _ _ _ _ _; (show drE _ _ _ _ ⟨_, .store _ _ _, _, _, _, _⟩ _ _; first | (refine E_ef rfl (Ef_store1 WideF.wide rfl rfl rfl rfl rfl ?_); refine ⟨Grow.same rfl rfl, ?_⟩) | (refine E_ef rfl (Ef_f2 (Ef_storea WideF.wide rfl rfl rfl rfl rfl rfl ?_)); refine ⟨Grow.same rfl rfl, ?_⟩))) | (show opsA _ _ _ _ _ _ _; first | (show opsA _ _ _ _ (⟨_, .load _ _, _, _, _, _⟩ :: _) _ _; refine O_ev WideF.wide rfl (Ev_loadB (i := 0) rfl rfl rfl) rfl rfl ?_) | (show opsA _ _ _ _ (⟨_, .store _ _ _, _, _, _, _⟩ :: _) _ _; refine O_f2 (O_ef rfl (Ef_storew WideF.wide rfl rfl rfl rfl rfl ?_)))))
  refine End_s (RetC rfl rfl (i := 0) rfl rfl) (Shift.lek ⟨16, [], H3, [.row (.slice ya css.length yc) 6 css], [], []⟩ ⟨rfl, rfl, rfl, trivial, Own.subi [2] (by decide) rfl rfl⟩ (Shift_freezeD H (hle1.trans (hle2.trans hle3)) (hcs.ones fun _ _ h => h.one) fun H4 hle4 hr4 => Shift.pure ⟨rfl, ⟨[.int .i64 x.kind, .int .i64 x.code, .int .i64 x.id, sv x.text, .slice pa' pn' pc', .int .i64 x.head.ins, .int .i64 x.head.move, .slice da' dn' dc', .slice la' ln' lc', .slice oa on oc, .slice ya css.length yc], rfl, ?_⟩, rfl⟩))
  have hle14 : HLe H1 H4 := hle2.trans (hle3.trans hle4)
  have hle24 : HLe H2 H4 := hle3.trans hle4
  have := ItemH.of (H := Hd H H4) (x := x) (r1.mono (Hd_up hle14)) (r2.mono (Hd_up hle14)) (r3.mono (Hd_up hle14)) (hf.mono (Hd_both hle1 hle24)) ⟨css, hr4, hcs.mono fun _ _ h => h.mono (Hd_both (hle1.trans hle2) hle4)⟩
  exact this
set_option maxRecDepth 100000 in
theorem Clone_step {N : Nat} (hN : CloneC N) : CloneC (N + 1) := by
  intro H a n cp l hx hl hl2
  have hn := hx.len
  have hml := massL_len l
  have hcall := eachItem_fr hx (by omega) (f := 78) fun H1 cs x _ hm hxc => CloneItem_fr hN hxc (by have := massL_mem' hm; have := x.mass_eq; omega) (by have := massL_mem' hm; have := x.mass_eq; omega) (by have := massL_mem' hm; have := x.mass_eq; omega)
  refine Fn_of _ _ Tryz.func52 rfl Tryz.ntmps52 rfl fun c => ?_
  repeat' (first | (refine O_ef rfl (Ef_call (I := []) WideF.wide hcall ⟨rfl, rfl, trivial⟩ rfl ?_); rintro v H1 I1 hle1 ⟨oa, oc, css, rfl, rfl, hcs⟩) | refine O_nil ?_ | refine A_seq ?_ | refine A_region ?_ | refine A_ret ?_ | (show opsA _ _ _ _ _ _ _; refine O_ev WideF.wide rfl (Ev_pure rfl) rfl rfl ?_))
  refine End_s (Ret1 rfl rfl) (Shift.lek ⟨5, [], H1, [.row (.slice oa css.length oc) 11 css], [], []⟩ ⟨rfl, rfl, rfl, trivial, Own.subi [0] (by decide) rfl rfl⟩ (Shift_freezeD H hle1 (hcs.ones fun _ _ h => h.one) fun H4 hle4 hr4 => Shift.pure ⟨rfl, ⟨oa, css.length, oc, rfl, ⟨css, hr4, hcs.mono fun _ _ h => h.mono (Hd_up hle4)⟩⟩, rfl⟩))
theorem Clone_all : ∀ N, CloneC N
  | 0 => fun _ _ _ _ _ _ h => absurd h (by omega)
  | N + 1 => Clone_step (Clone_all N)
/-- run.Clone returns a copy in memory of its own -/
theorem Clone_fr {H : Hp} {a : Option Addr} {n cp : Nat} {l : List Item} (hx : FlowH H a n cp l) (hl : massL l < 68719476736) : Fn Tryz.prog 52 [.slice a n cp] H [] fun v H' I' => (∃ oa on oc, v = .slice oa on oc ∧ FlowH (Hd H H') oa on oc l) ∧ I' = [] :=
  Clone_all (massL l + 1) H a n cp l hx (by omega) hl
end Go.Proofs.YtofkolbnhcckkaaGreat
