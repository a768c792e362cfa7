/-
  run.each, at rows, cells, items.
-/
import Derived.Test.YtcliojofponpnaaR14
namespace Go.Proofs.Ytcliojofponpnaa
open Go
set_option linter.unusedVariables false
set_option linter.unusedSimpArgs false
attribute [local irreducible] wpA opsA drJ drQ drE Ef Ev Shift Fn

theorem SlH.mono' {α : Type} {H H' : Hp} {R : Hp → List Value → α → Prop} (hR : ∀ cs x, R H cs x → R H' cs x) (hl : HLe H H') {k : Nat} {a : Option Addr} {n c : Nat} {l : List α} (h : SlH H R k a n c l) : SlH H' R k a n c l := by
  obtain ⟨css, h1, h2⟩ := h.ex
  exact ⟨css, h1.mono hl, h2.mono hR⟩
theorem All2.ones {α : Type} {R : List Value → α → Prop} (hR : ∀ cs x, R cs x → ∀ u ∈ cs, u.oneCell' = true) {css : List (List Value)} {l : List α} (h : All2 R css l) : ∀ cs ∈ css, ∀ u ∈ cs, u.oneCell' = true := by
  induction h with
  | nil => simp
  | cons h t ih => intro cs hcs; rcases List.mem_cons.1 hcs with rfl | hcs; exact hR _ _ h; exact ih cs hcs
abbrev eachRowSt (H : Hp) (f : Nat) (a : Option Addr) (n cp i : Nat) (oa : Option Addr) (oc : Nat) (css : List (List Value)) : Sta := ⟨22, [(1, .func (.func f) #[] #[]), (5, .slice oa css.length oc), (8, .slice a n cp), (9, .int .i64 n), (10, .int .i64 i)], H, [.row (.slice oa css.length oc) 6 css], [], []⟩
set_option maxRecDepth 100000 in
theorem eachRow_fn {H : Hp} {a : Option Addr} {n cp f : Nat} {l : List Row} {g : Row → Row} [hfc : FunC Try.prog f] (hx0 : SlH H RowH 6 a n cp l) (hl : n < 68719476736)
    (hf : ∀ H1 cs x, HLe H H1 → x ∈ l → RowH H1 cs x → Fn Try.prog f [.agg cs.toArray] H1 [] fun v H' I' => (∃ cs', v = .agg cs'.toArray ∧ RowH H' cs' (g x)) ∧ I' = []) :
    Fn Try.prog 71 [.slice a n cp, .func (.func f) #[] #[]] H [] fun v H' I' => ∃ oa oc css, v = .slice oa css.length oc ∧ I' = [.row v 6 css] ∧ All2 (RowH H') css (l.map g) := by
  have hn := hx0.len
  refine Fn_of _ _ Try.func71 rfl Try.ntmps71 rfl fun c => ?_
  refine A_nilrow 6 ?_
  repeat' (first | refine O_nil ?_ | refine A_seq ?_ | refine A_region ?_ | refine A_block ?_ | (show opsA _ _ _ _ _ _ _; first | refine O_ev WideF.wide rfl (Ev_pure rfl) rfl rfl ?_ | (show opsA _ _ _ _ (⟨_, .call _, _, _, _, _⟩ :: _) _ _; refine O_ev WideF.wide rfl (Ev_llen rfl) rfl rfl ?_)))
  refine A_loopu (fun m s => ∃ (H1 : Hp) (i : Nat) (oa : Option Addr) (oc : Nat) (css : List (List Value)), m = n - i ∧ i ≤ n ∧ HLe H H1 ∧ All2 (RowH H1) css ((l.take i).map g) ∧ s = eachRowSt H1 f a n cp i oa oc css) ?_ ?_
  · exact Shift.to ⟨_, H, 0, none, 0, [], rfl, by omega, HLe.refl _, by simp; exact .nil, rfl⟩ ⟨rfl, rfl, rfl, ⟨rfl, rfl, rfl, rfl, rfl, trivial⟩, Own.subi [0] (by decide) rfl rfl⟩
  · rintro m s ⟨H1, i, oa, oc, css, rfl, hi, hle1, hcss, rfl⟩
    have hcl := hcss.length
    simp only [List.length_map, List.length_take] at hcl
    by_cases hlt : i < n
    · have hx : SlH H1 RowH 6 a n cp l := hx0.mono' (fun _ _ h => h.mono hle1) hle1
      obtain ⟨b', o, cs, x, rfl, hxi, hxc, hk, hc⟩ := hx.at i hlt
      have hcall := hf H1 cs x hle1 (List.mem_of_getElem? hxi) hxc
      obtain ⟨pa, pn, pc, da, dn, dc, la, ln, lc, ca, cn, cc, rfl, _⟩ := hxc.cells
      repeat' (first | (refine O_ef rfl (Ef_callv (I := []) WideF.wide hcall rfl ⟨rfl, trivial⟩ rfl ?_); rintro v H2 I' hle2 ⟨⟨cs', rfl, hxc2⟩, rfl⟩; obtain ⟨pa', pn', pc', da', dn', dc', la', ln', lc', ca', cn', cc', rfl, _⟩ := hxc2.cells) | refine O_nil ?_ | refine A_seq ?_ | refine A_region ?_ | refine A_skip ?_ | refine A_block ?_ | (show opsA _ _ _ _ _ _ _; first | refine O_ev WideF.wide rfl (Ev_pure rfl) rfl rfl ?_ | (show opsA _ _ _ _ (⟨_, .load _ _, _, _, _, _⟩ :: _) _ _; first | refine O_ev WideF.wide rfl (Ev_loadB (i := 0) rfl rfl rfl) rfl rfl ?_ | refine O_ev WideF.wide rfl (Ev_loadH rfl (by assumption) (by rfl)) rfl rfl ?_) | (show opsA _ _ _ _ (⟨_, .indexAddr _ _ _, _, _, _, _⟩ :: _) _ _; refine O_ev WideF.wide rfl (Ev_indexAddr rfl rfl (by omega) (by omega)) rfl rfl ?_) | (show opsA _ _ _ _ (⟨_, .call _, _, _, _, _⟩ :: _) _ _; (refine O_f2 (O_ef rfl (Ef_appendR WideF.wide rfl rfl rfl rfl rfl (by simp; omega) (by simp; omega) rfl ?_)); intro a cp)) | (show opsA _ _ _ _ (⟨_, .buildSlice _ _ _, _, _, _, _⟩ :: _) _ _; (refine O_ef rfl (Ef_build1a WideF.wide rfl rfl rfl rfl rfl ?_); intro b)) | (show opsA _ _ _ _ (⟨_, .binOp _ _ _ _ _, _, _, _, _⟩ :: _) _ _; refine O_ev WideF.wide rfl (Ev_add rfl rfl (wi64 (by omega))) rfl rfl ?_) | (show opsA _ _ _ _ (⟨_, .alloc _, _, _, _, _⟩ :: _) _ _; (refine O_ef rfl (Ef_alloc WideF.wide rfl ?_); intro b)) | (show opsA _ _ _ _ (⟨_, .store _ _ _, _, _, _, _⟩ :: _) _ _; refine O_ef rfl (Ef_storew WideF.wide rfl rfl rfl rfl rfl ?_))) | (show wpA _ _ _ (.cond _ _ _) _ _ _ _; (refine A_if rfl (fun h => ?_) (fun h => ?_) <;> try (exfalso; omega))))
      refine Shift.to ⟨_, ?_, H2, i + 1, _, _, _, rfl, by omega, hle1.trans hle2, ?_, rfl⟩ ⟨rfl, rfl, rfl, ⟨rfl, rfl, rfl, rfl, rfl, trivial⟩, Own.subi [0] (by decide) rfl rfl⟩
      · omega
      · rw [take_get hxi, List.map_append]; exact (hcss.mono fun _ _ h => h.mono hle2).append (All2.one hxc2)
    · have hin : n = i := by omega
      subst hin
      have htk : l.take n = l := by rw [← hn, List.take_length]
      rw [htk] at hcss
      repeat' (first | refine O_nil ?_ | refine A_seq ?_ | refine A_region ?_ | refine A_ret ?_ | (show opsA _ _ _ _ _ _ _; refine O_ev WideF.wide rfl (Ev_pure rfl) rfl rfl ?_) | (show wpA _ _ _ (.exit _) _ _ _ _; refine A_exit rfl ?_) | (show wpA _ _ _ (.cond _ _ _) _ _ _ _; (refine A_if rfl (fun h => ?_) (fun h => ?_) <;> try (exfalso; omega))))
      exact End_m (Ret1 rfl rfl) ⟨oa, oc, css, rfl, rfl, hcss⟩
abbrev eachCellSt (H : Hp) (f : Nat) (a : Option Addr) (n cp i : Nat) (oa : Option Addr) (oc : Nat) (css : List (List Value)) : Sta := ⟨22, [(1, .func (.func f) #[] #[]), (5, .slice oa css.length oc), (8, .slice a n cp), (9, .int .i64 n), (10, .int .i64 i)], H, [.row (.slice oa css.length oc) 7 css], [], []⟩
set_option maxRecDepth 100000 in
theorem eachCell_fn {H : Hp} {a : Option Addr} {n cp f : Nat} {l : List Cell} {g : Cell → Cell} [hfc : FunC Try.prog f] (hx0 : SlH H CellH 7 a n cp l) (hl : n < 68719476736)
    (hf : ∀ H1 cs x, HLe H H1 → x ∈ l → CellH H1 cs x → Fn Try.prog f [.agg cs.toArray] H1 [] fun v H' I' => (∃ cs', v = .agg cs'.toArray ∧ CellH H' cs' (g x)) ∧ I' = []) :
    Fn Try.prog 81 [.slice a n cp, .func (.func f) #[] #[]] H [] fun v H' I' => ∃ oa oc css, v = .slice oa css.length oc ∧ I' = [.row v 7 css] ∧ All2 (CellH H') css (l.map g) := by
  have hn := hx0.len
  refine Fn_of _ _ Try.func81 rfl Try.ntmps81 rfl fun c => ?_
  refine A_nilrow 7 ?_
  repeat' (first | refine O_nil ?_ | refine A_seq ?_ | refine A_region ?_ | refine A_block ?_ | (show opsA _ _ _ _ _ _ _; first | refine O_ev WideF.wide rfl (Ev_pure rfl) rfl rfl ?_ | (show opsA _ _ _ _ (⟨_, .call _, _, _, _, _⟩ :: _) _ _; refine O_ev WideF.wide rfl (Ev_llen rfl) rfl rfl ?_)))
  refine A_loopu (fun m s => ∃ (H1 : Hp) (i : Nat) (oa : Option Addr) (oc : Nat) (css : List (List Value)), m = n - i ∧ i ≤ n ∧ HLe H H1 ∧ All2 (CellH H1) css ((l.take i).map g) ∧ s = eachCellSt H1 f a n cp i oa oc css) ?_ ?_
  · exact Shift.to ⟨_, H, 0, none, 0, [], rfl, by omega, HLe.refl _, by simp; exact .nil, rfl⟩ ⟨rfl, rfl, rfl, ⟨rfl, rfl, rfl, rfl, rfl, trivial⟩, Own.subi [0] (by decide) rfl rfl⟩
  · rintro m s ⟨H1, i, oa, oc, css, rfl, hi, hle1, hcss, rfl⟩
    have hcl := hcss.length
    simp only [List.length_map, List.length_take] at hcl
    by_cases hlt : i < n
    · have hx : SlH H1 CellH 7 a n cp l := hx0.mono' (fun _ _ h => h.mono hle1) hle1
      obtain ⟨b', o, cs, x, rfl, hxi, hxc, hk, hc⟩ := hx.at i hlt
      have hcall := hf H1 cs x hle1 (List.mem_of_getElem? hxi) hxc
      obtain ⟨pa, pn, pc, da, dn, dc, la, ln, lc, fa, fn, fc, rfl, _⟩ := hxc.cells
      repeat' (first | (refine O_ef rfl (Ef_callv (I := []) WideF.wide hcall rfl ⟨rfl, trivial⟩ rfl ?_); rintro v H2 I' hle2 ⟨⟨cs', rfl, hxc2⟩, rfl⟩; obtain ⟨pa', pn', pc', da', dn', dc', la', ln', lc', fa', fn', fc', rfl, _⟩ := hxc2.cells) | refine O_nil ?_ | refine A_seq ?_ | refine A_region ?_ | refine A_skip ?_ | refine A_block ?_ | (show opsA _ _ _ _ _ _ _; first | refine O_ev WideF.wide rfl (Ev_pure rfl) rfl rfl ?_ | (show opsA _ _ _ _ (⟨_, .load _ _, _, _, _, _⟩ :: _) _ _; first | refine O_ev WideF.wide rfl (Ev_loadB (i := 0) rfl rfl rfl) rfl rfl ?_ | refine O_ev WideF.wide rfl (Ev_loadH rfl (by assumption) (by rfl)) rfl rfl ?_) | (show opsA _ _ _ _ (⟨_, .indexAddr _ _ _, _, _, _, _⟩ :: _) _ _; refine O_ev WideF.wide rfl (Ev_indexAddr rfl rfl (by omega) (by omega)) rfl rfl ?_) | (show opsA _ _ _ _ (⟨_, .call _, _, _, _, _⟩ :: _) _ _; (refine O_f2 (O_ef rfl (Ef_appendR WideF.wide rfl rfl rfl rfl rfl (by simp; omega) (by simp; omega) rfl ?_)); intro a cp)) | (show opsA _ _ _ _ (⟨_, .buildSlice _ _ _, _, _, _, _⟩ :: _) _ _; (refine O_ef rfl (Ef_build1a WideF.wide rfl rfl rfl rfl rfl ?_); intro b)) | (show opsA _ _ _ _ (⟨_, .binOp _ _ _ _ _, _, _, _, _⟩ :: _) _ _; refine O_ev WideF.wide rfl (Ev_add rfl rfl (wi64 (by omega))) rfl rfl ?_) | (show opsA _ _ _ _ (⟨_, .alloc _, _, _, _, _⟩ :: _) _ _; (refine O_ef rfl (Ef_alloc WideF.wide rfl ?_); intro b)) | (show opsA _ _ _ _ (⟨_, .store _ _ _, _, _, _, _⟩ :: _) _ _; refine O_ef rfl (Ef_storew WideF.wide rfl rfl rfl rfl rfl ?_))) | (show wpA _ _ _ (.cond _ _ _) _ _ _ _; (refine A_if rfl (fun h => ?_) (fun h => ?_) <;> try (exfalso; omega))))
      refine Shift.to ⟨_, ?_, H2, i + 1, _, _, _, rfl, by omega, hle1.trans hle2, ?_, rfl⟩ ⟨rfl, rfl, rfl, ⟨rfl, rfl, rfl, rfl, rfl, trivial⟩, Own.subi [0] (by decide) rfl rfl⟩
      · omega
      · rw [take_get hxi, List.map_append]; exact (hcss.mono fun _ _ h => h.mono hle2).append (All2.one hxc2)
    · have hin : n = i := by omega
      subst hin
      have htk : l.take n = l := by rw [← hn, List.take_length]
      rw [htk] at hcss
      repeat' (first | refine O_nil ?_ | refine A_seq ?_ | refine A_region ?_ | refine A_ret ?_ | (show opsA _ _ _ _ _ _ _; refine O_ev WideF.wide rfl (Ev_pure rfl) rfl rfl ?_) | (show wpA _ _ _ (.exit _) _ _ _ _; refine A_exit rfl ?_) | (show wpA _ _ _ (.cond _ _ _) _ _ _ _; (refine A_if rfl (fun h => ?_) (fun h => ?_) <;> try (exfalso; omega))))
      exact End_m (Ret1 rfl rfl) ⟨oa, oc, css, rfl, rfl, hcss⟩
end Go.Proofs.Ytcliojofponpnaa
