/-
  The reference's comparisons of cells, rows, items and flows.
-/
import Derived.Test.YthbnhcgphkghaaaR6
namespace Go.Proofs.Ythbnhcgphkghaaa
open Go
set_option linter.unusedVariables false
set_option linter.unusedSimpArgs false
attribute [local irreducible] wpA opsA drJ drQ drE Ef Ev Shift Fn

noncomputable instance decItem : DecidableEq Item := fun a b => Classical.propDecidable (a = b)
theorem HeadH.of {H : Hp} {h : Head} {pa : Option Addr} {pn pc : Nat} {da : Option Addr} {dn dc : Nat} {la : Option Addr} {ln lc : Nat}
    (h1 : HRow H pa pn pc 2 (h.props.map prow)) (h2 : HRow H da dn dc 2 (h.dels.map drow)) (h3 : HRow H la ln lc 4 (h.layers.map lrow)) :
    HeadH H [.slice pa pn pc, .int .i64 h.ins, .int .i64 h.move, .slice da dn dc, .slice la ln lc] h := ⟨pa, pn, pc, da, dn, dc, la, ln, lc, rfl, h1, h2, h3⟩
/-- the comparison of flows of less than N -/
def EqF (f : FuncId) (H : Hp) (N : Nat) : Prop := ∀ {a : Option Addr} {n c : Nat} {a' : Option Addr} {n' c' : Nat} {l l' : List Item}, FlowH H a n c l → FlowH H a' n' c' l' → massL l < N → FnP Try.prog f [.slice a n c, .slice a' n' c'] H (.bool (decide (l = l')))

set_option maxRecDepth 100000 in
theorem rEqualCell_fn {H : Hp} {N : Nat} (ih : EqF 23 H N) {cs cs' : List Value} {x x' : Cell} (hx : CellH H cs x) (hx' : CellH H cs' x') (hm : x.2.1.mass + massL x.2.2 < N) (hN : N < 68719476736) :
    FnP Try.prog 38 [.agg cs.toArray, .agg cs'.toArray] H (.bool (decide (x = x'))) := by
  obtain ⟨pa, pn, pc, da, dn, dc, la, ln, lc, fa, fn, fc, rfl, hp, hd, hl, hf⟩ := hx.cells
  obtain ⟨pa', pn', pc', da', dn', dc', la', ln', lc', fa', fn', fc', rfl, hp', hd', hl', hf'⟩ := hx'.cells
  have hh := rEqualHead_fn (HeadH.of hp hd hl) (HeadH.of hp' hd' hl') (by omega)
  have he := ih hf hf' (by omega)
  refine Fn_of _ _ Try.func38 rfl Try.ntmps38 rfl fun c => ?_
  repeat' (first | (refine O_ef rfl (Ef_callp WideF.wide hh ⟨rfl, rfl, trivial⟩ rfl ?_)) | (refine O_ef rfl (Ef_callp WideF.wide he ⟨rfl, rfl, trivial⟩ rfl ?_)) | refine O_nil ?_ | refine A_seq ?_ | refine A_region ?_ | refine A_ret ?_ | (show opsA _ _ _ _ _ _ _; first | (refine O_split rfl rfl (fun h => ?_) (fun h => ?_) <;> try (exfalso; omega)) | refine O_ev WideF.wide rfl (Ev_pure rfl) rfl rfl ?_ | (show opsA _ _ _ _ (⟨_, .load _ _, _, _, _, _⟩ :: _) _ _; first | refine O_ev WideF.wide rfl (Ev_loadB1 (i := 0) rfl rfl rfl) rfl rfl ?_ | refine O_ev WideF.wide rfl (Ev_loadB1 (i := 1) rfl rfl rfl) rfl rfl ?_ | refine O_ev WideF.wide rfl (Ev_loadBs (i := 0) rfl rfl rfl rfl) rfl rfl ?_ | refine O_ev WideF.wide rfl (Ev_loadBs (i := 1) rfl rfl rfl rfl) rfl rfl ?_) | (show opsA _ _ _ _ (⟨_, .fieldAddr _ _ _, _, _, _, _⟩ :: _) _ _; refine O_ev WideF.wide rfl (Ev_fieldAddr rfl rfl rfl) rfl rfl ?_) | (show opsA _ _ _ _ (⟨_, .box _ _, _, _, _, _⟩ :: _) _ _; (refine O_ef rfl (Ef_boxa WideF.wide rfl rfl ?_); intro b)) | refine O_skip WideF.wide rfl rfl rfl ?_))
  all_goals ((refine End_p (Ret1 rfl rfl) ?_); refine congrArg Value.bool ?_; rw [Bool.eq_iff_iff]; simp [Prod.ext_iff, *])
abbrev eq2St (n : Nat) (H : Hp) (cs cs' : List Value) (b2 b3 i : Nat) : Sta := ⟨n, [(2, .pointer (some ⟨b2, 0, none⟩)), (3, .pointer (some ⟨b3, 0, none⟩)), (4, .bool false), (5, .int .i64 i)], H, [.box b3 cs', .box b2 cs], [], []⟩
set_option maxRecDepth 100000 in
set_option maxHeartbeats 1000000 in
theorem rEqualRow_fn {H : Hp} {N : Nat} (ih : EqF 23 H N) {cs cs' : List Value} {x x' : Row} (hx : RowH H cs x) (hx' : RowH H cs' x') (hm : x.1.mass + massC x.2 < N) (hN : N < 68719476736) :
    FnP Try.prog 34 [.agg cs.toArray, .agg cs'.toArray] H (.bool (decide (x = x'))) := by
  obtain ⟨pa, pn, pc, da, dn, dc, la, ln, lc, fa, fn, fc, rfl, hp, hd, hl, hf⟩ := hx.cells
  obtain ⟨pa', pn', pc', da', dn', dc', la', ln', lc', fa', fn', fc', rfl, hp', hd', hl', hf'⟩ := hx'.cells
  have hh := rEqualHead_fn (HeadH.of hp hd hl) (HeadH.of hp' hd' hl') (by omega)
  have hfn := hf.len
  have hfn' := hf'.len
  have hcl := massC_len x.2
  have no : ∀ {q : Prop}, ¬ q → (x = x' → q) → decide (x = x') = false := fun hq hh => decide_eq_false fun e => hq (hh e)
  refine Fn_of _ _ Try.func34 rfl Try.ntmps34 rfl fun c => ?_
  repeat' (first | (refine O_ef rfl (Ef_callp WideF.wide hh ⟨rfl, rfl, trivial⟩ rfl ?_)) | refine O_nil ?_ | refine A_seq ?_ | refine A_region ?_ | refine A_skip ?_ | refine A_ret ?_ | refine A_block ?_ | (show opsA _ _ _ _ _ _ _; first | (refine O_split rfl rfl (fun h => ?_) (fun h => ?_) <;> try (exfalso; omega)) | refine O_ev WideF.wide rfl (Ev_pure rfl) rfl rfl ?_ | (show opsA _ _ _ _ (⟨_, .load _ _, _, _, _, _⟩ :: _) _ _; first | refine O_ev WideF.wide rfl (Ev_loadB1 (i := 0) rfl rfl rfl) rfl rfl ?_ | refine O_ev WideF.wide rfl (Ev_loadB1 (i := 1) rfl rfl rfl) rfl rfl ?_ | refine O_ev WideF.wide rfl (Ev_loadBs (i := 0) rfl rfl rfl rfl) rfl rfl ?_ | refine O_ev WideF.wide rfl (Ev_loadBs (i := 1) rfl rfl rfl rfl) rfl rfl ?_) | (show opsA _ _ _ _ (⟨_, .fieldAddr _ _ _, _, _, _, _⟩ :: _) _ _; refine O_ev WideF.wide rfl (Ev_fieldAddr rfl rfl rfl) rfl rfl ?_) | (show opsA _ _ _ _ (⟨_, .call _, _, _, _, _⟩ :: _) _ _; refine O_ev WideF.wide rfl (Ev_llen rfl) rfl rfl ?_) | (show opsA _ _ _ _ (⟨_, .unOp _ _ _, _, _, _, _⟩ :: _) _ _; refine O_ev WideF.wide rfl (Ev_not rfl) rfl rfl ?_) | (show opsA _ _ _ _ (⟨_, .box _ _, _, _, _, _⟩ :: _) _ _; (refine O_ef rfl (Ef_boxa WideF.wide rfl rfl ?_); intro b)) | refine O_skip WideF.wide rfl rfl rfl ?_) | (show wpA _ _ _ (.cond _ _ _) _ _ _ _; first | (refine A_if rfl (fun h => ?_) (fun h => ?_) <;> try (exfalso; omega)) | refine A_iftrue rfl ?_))
  · (refine End_p (Ret1 rfl rfl) ?_)
    rw [no (by assumption) (fun e => by rw [e])]
  · (refine End_p (Ret1 rfl rfl) ?_)
    rw [no (show ¬ fn = fn' by omega) (fun e => by subst e; omega)]
  · refine A_loopu (fun m s => ∃ (i b2 b3 : Nat), m = fn - i ∧ i ≤ fn ∧ (∀ j, j < i → x.2[j]? = x'.2[j]?) ∧ s = eq2St 40 H [.slice pa pn pc, .int .i64 x.1.ins, .int .i64 x.1.move, .slice da dn dc, .slice la ln lc, .slice fa fn fc] [.slice pa' pn' pc', .int .i64 x'.1.ins, .int .i64 x'.1.move, .slice da' dn' dc', .slice la' ln' lc', .slice fa' fn' fc'] b2 b3 i) ?_ ?_
    · exact Shift.to ⟨_, 0, _, _, rfl, by omega, fun j hj => absurd hj (by omega), rfl⟩ ⟨rfl, rfl, rfl, ⟨rfl, rfl, rfl, rfl, trivial⟩, Own.subi [0, 1] (by decide) rfl rfl⟩
    · rintro m s ⟨i, b2, b3, rfl, hi, hall, rfl⟩
      by_cases hlt : i < fn
      · obtain ⟨b, o, ccs, y, rfl, hyi, hyc, hyk, hc⟩ := hf.at i hlt
        obtain ⟨b', o', ccs', y', rfl, hyi', hyc', hyk', hc'⟩ := hf'.at i (by omega)
        have hm2 := massC_mem hyi
        have hcell := rEqualCell_fn ih hyc hyc' (by omega) hN
        have hxx : x = x' → y = y' := fun e => by subst e; rw [hyi] at hyi'; exact Option.some.inj hyi'
        repeat' (first | (refine A_drawi WideF.wide (.q 0 (.q 1 (.q 2 (.q 3 (.q 4 (.q 5 (.q 6 (.q 7 (.q 8 (.q 9 (.e 10 (.q 11 (.done []))))))))))))) [] [] [0, 1] (by decide +kernel) (by decide) rfl ?_; simp only [Own.picks, Own.rget, List.cons_append, List.nil_append, List.append_nil]) | (refine E_ef rfl (Ef_callp WideF.wide hcell ⟨rfl, rfl, trivial⟩ rfl ?_); refine ⟨Grow.same rfl rfl, ?_⟩) | (refine D_ev rfl (Ev_loadH rfl (by assumption) (by assumption)) rfl rfl ?_) | refine O_nil ?_ | refine A_seq ?_ | refine A_region ?_ | refine A_skip ?_ | refine A_ret ?_ | refine A_block ?_ | (show drJ _ _ _ _ _ _ _ (.q _ _) _; refine D_q rfl ?_) | (show drJ _ _ _ _ _ _ _ (.e _ _) _; refine D_e rfl ?_) | (show drJ _ _ _ _ _ _ _ (.done _) _; refine D_done ?_; simp only [List.cons_append, List.nil_append]) | (show drQ _ _ _ _ _ _; first | refine D_ev rfl (Ev_pure rfl) rfl rfl ?_ | (show drQ _ _ _ ⟨_, .load _ _, _, _, _, _⟩ _ _; first | refine D_ev rfl (Ev_loadB1 (i := 0) rfl rfl rfl) rfl rfl ?_ | refine D_ev rfl (Ev_loadB1 (i := 1) rfl rfl rfl) rfl rfl ?_) | (show drQ _ _ _ ⟨_, .indexAddr _ _ _, _, _, _, _⟩ _ _; refine D_ev rfl (Ev_indexAddr rfl rfl (by omega) (by omega)) rfl rfl ?_) | (show drQ _ _ _ ⟨_, .fieldAddr _ _ _, _, _, _, _⟩ _ _; refine D_ev rfl (Ev_fieldAddr rfl rfl rfl) rfl rfl ?_) | (show drQ _ _ _ ⟨_, .unOp _ _ _, _, _, _, _⟩ _ _; refine D_ev rfl (Ev_not rfl) rfl rfl ?_)) | (show opsA _ _ _ _ _ _ _; first | refine O_ev WideF.wide rfl (Ev_pure rfl) rfl rfl ?_ | (show opsA _ _ _ _ (⟨_, .load _ _, _, _, _, _⟩ :: _) _ _; refine O_ev WideF.wide rfl (Ev_loadB1 (i := 1) rfl rfl rfl) rfl rfl ?_) | (show opsA _ _ _ _ (⟨_, .fieldAddr _ _ _, _, _, _, _⟩ :: _) _ _; refine O_ev WideF.wide rfl (Ev_fieldAddr rfl rfl rfl) rfl rfl ?_) | (show opsA _ _ _ _ (⟨_, .call _, _, _, _, _⟩ :: _) _ _; refine O_ev WideF.wide rfl (Ev_llen rfl) rfl rfl ?_) | (show opsA _ _ _ _ (⟨_, .binOp _ _ _ _ _, _, _, _, _⟩ :: _) _ _; refine O_ev WideF.wide rfl (Ev_add rfl rfl (wi64 (by omega))) rfl rfl ?_)) | (show wpA _ _ _ (.cond _ _ _) _ _ _ _; (refine A_if rfl (fun h => ?_) (fun h => ?_) <;> try (exfalso; omega))))
        · (refine End_p (Ret1 rfl rfl) ?_)
          rw [no (by assumption) (fun e => hxx e)]
        · refine Shift.to ⟨_, ?_, i + 1, _, _, rfl, by omega, fun j hj => ?_, rfl⟩ ⟨rfl, rfl, rfl, ⟨rfl, rfl, rfl, rfl, trivial⟩, Own.subi [0, 1] (by decide) rfl rfl⟩
          · omega
          · by_cases hji : j = i
            · subst hji
              have hq : y = y' := Decidable.not_not.1 (by assumption)
              rw [hyi, hyi', hq]
            · exact hall j (by omega)
      · have hin : fn = i := by omega
        subst hin
        have he2 : x.2 = x'.2 := list_ext (by omega) fun j hj => hall j (by omega)
        repeat' (first | refine O_nil ?_ | refine A_seq ?_ | refine A_region ?_ | refine A_ret ?_ | (show opsA _ _ _ _ _ _ _; first | refine O_ev WideF.wide rfl (Ev_pure rfl) rfl rfl ?_ | (show opsA _ _ _ _ (⟨_, .load _ _, _, _, _, _⟩ :: _) _ _; refine O_ev WideF.wide rfl (Ev_loadB1 (i := 1) rfl rfl rfl) rfl rfl ?_) | (show opsA _ _ _ _ (⟨_, .fieldAddr _ _ _, _, _, _, _⟩ :: _) _ _; refine O_ev WideF.wide rfl (Ev_fieldAddr rfl rfl rfl) rfl rfl ?_) | (show opsA _ _ _ _ (⟨_, .call _, _, _, _, _⟩ :: _) _ _; refine O_ev WideF.wide rfl (Ev_llen rfl) rfl rfl ?_)) | (show wpA _ _ _ (.exit _) _ _ _ _; refine A_exit rfl ?_) | (show wpA _ _ _ (.cond _ _ _) _ _ _ _; (refine A_if rfl (fun h => ?_) (fun h => ?_) <;> try (exfalso; omega))))
        (refine End_p (Ret1 rfl rfl) ?_)
        rw [decide_eq_true (Prod.ext (Decidable.not_not.1 (by assumption)) he2)]
end Go.Proofs.Ythbnhcgphkghaaa
