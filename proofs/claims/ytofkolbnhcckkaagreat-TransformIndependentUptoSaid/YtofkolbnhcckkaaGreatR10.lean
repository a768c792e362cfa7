/-
  run: comparisons of cells, rows, items and flows (printed by gen10.py).
-/
import Derived.Test.YtofkolbnhcckkaaGreatR9
namespace Go.Proofs.YtofkolbnhcckkaaGreat
open Go
set_option linter.unusedVariables false
set_option linter.unusedSimpArgs false
attribute [local irreducible] wpA opsA drJ drQ drE Ef Ev Shift Fn

theorem RowH.one {H : Hp} {cs : List Value} {x : Row} (h : RowH H cs x) : ∀ u ∈ cs, u.oneCell' = true := by
  obtain ⟨pa', pn', pc', da', dn', dc', la', ln', lc', fa', fn', fc', rfl, _⟩ := h.cells
  intro u hu
  simp at hu
  rcases hu with rfl | rfl | rfl | rfl | rfl | rfl <;> rfl
theorem CellH.one {H : Hp} {cs : List Value} {x : Cell} (h : CellH H cs x) : ∀ u ∈ cs, u.oneCell' = true := by
  obtain ⟨pa', pn', pc', da', dn', dc', la', ln', lc', fa', fn', fc', rfl, _⟩ := h.cells
  intro u hu
  simp at hu
  rcases hu with rfl | rfl | rfl | rfl | rfl | rfl | rfl <;> rfl
abbrev sefSt (H : Hp) (f : FuncId) (a : Option Addr) (n c : Nat) (a' : Option Addr) (n' c' : Nat) (i : Nat) : Sta := ⟨32, [(0, .slice a n c), (1, .slice a' n' c'), (2, .func (.func f) #[] #[]), (6, .bool false), (15, .slice a n c), (16, .int .i64 n), (17, .int .i64 i)], H, [], [], []⟩

set_option maxRecDepth 100000 in
theorem sEqualFuncItem_fn {H : Hp} {a : Option Addr} {n cq : Nat} {a' : Option Addr} {n' cq' : Nat} {l l' : List Item} (hx : SlH H ItemH 11 a n cq l) (hx' : SlH H ItemH 11 a' n' cq' l') (hm : n < 68719476736)
    (hf : ∀ {cs cs' : List Value} {i : Nat} {x x' : Item}, l[i]? = some x → ItemH H cs x → ItemH H cs' x' → FnP Tryz.prog 67 [.agg cs.toArray, .agg cs'.toArray] H (.bool (decide (x = x')))) :
    FnP Tryz.prog 66 [.slice a n cq, .slice a' n' cq', .func (.func 67) #[] #[]] H (.bool (decide (l = l'))) := by
  have e1 := hx.len
  have e2 := hx'.len
  have no : ∀ {q : Prop}, ¬ q → (l = l' → q) → decide (l = l') = false := fun hq hh => decide_eq_false fun e => hq (hh e)
  refine Fn_of _ _ Tryz.func66 rfl Tryz.ntmps66 rfl fun c => ?_
  repeat' (first | refine O_nil ?_ | refine A_seq ?_ | refine A_region ?_ | refine A_skip ?_ | refine A_ret ?_ | refine A_block ?_ | (show opsA _ _ _ _ _ _ _; first | refine O_ev WideF.wide rfl (Ev_pure rfl) rfl rfl ?_ | (show opsA _ _ _ _ (⟨_, .call _, _, _, _, _⟩ :: _) _ _; refine O_ev WideF.wide rfl (Ev_llen rfl) rfl rfl ?_)) | (show wpA _ _ _ (.cond _ _ _) _ _ _ _; (refine A_if rfl (fun h => ?_) (fun h => ?_) <;> try (exfalso; omega))))
  · (refine End_p (Ret1 rfl rfl) ?_)
    rw [no (show ¬ n = n' by omega) (fun e => by subst e; omega)]
  · refine A_loopu (fun m s => ∃ i : Nat, m = n - i ∧ i ≤ n ∧ (∀ j, j < i → l[j]? = l'[j]?) ∧ s = sefSt H 67 a n cq a' n' cq' i) ?_ ?_
    · exact Shift.to ⟨_, 0, rfl, by omega, fun j hj => absurd hj (by omega), rfl⟩ ⟨rfl, rfl, rfl, ⟨rfl, rfl, rfl, rfl, rfl, rfl, rfl, trivial⟩, Own.sub_nil _⟩
    · rintro m s ⟨i, rfl, hi, hall, rfl⟩
      by_cases hlt : i < n
      · obtain ⟨b, o, cs, y, rfl, hyi, hyc, hyk, hc⟩ := hx.at i hlt
        obtain ⟨b', o', cs', y', rfl, hyi', hyc', hyk', hc'⟩ := hx'.at i (by omega)
        have hxx : l = l' → y = y' := fun e => by subst e; rw [hyi] at hyi'; exact Option.some.inj hyi'
        have hcall := hf hyi hyc hyc'
        repeat' (first | (refine O_ev WideF.wide rfl (Ev_loadH rfl (by assumption) (by assumption)) rfl rfl ?_) | (refine O_ev WideF.wide rfl (Ev_loadB (i := 0) rfl rfl (by assumption)) rfl rfl ?_) | (refine O_ev WideF.wide rfl (Ev_loadB (i := 1) rfl rfl (by assumption)) rfl rfl ?_) | (refine O_ef rfl (Ef_storew WideF.wide rfl rfl (by assumption) (by first | exact List.all_eq_true.2 hyc.one | exact List.all_eq_true.2 hyc'.one) (by simp [hyk, hyk']) ?_)) | (refine O_ef rfl (Ef_callvp WideF.wide hcall rfl ⟨rfl, rfl, trivial⟩ rfl ?_)) | refine O_nil ?_ | refine A_seq ?_ | refine A_region ?_ | refine A_skip ?_ | refine A_ret ?_ | refine A_block ?_ | (show opsA _ _ _ _ _ _ _; first | refine O_ev WideF.wide rfl (Ev_pure rfl) rfl rfl ?_ | (show opsA _ _ _ _ (⟨_, .indexAddr _ _ _, _, _, _, _⟩ :: _) _ _; refine O_ev WideF.wide rfl (Ev_indexAddr rfl rfl (by omega) (by omega)) rfl rfl ?_) | (show opsA _ _ _ _ (⟨_, .binOp _ _ _ _ _, _, _, _, _⟩ :: _) _ _; refine O_ev WideF.wide rfl (Ev_add rfl rfl (wi64 (by omega))) rfl rfl ?_) | (show opsA _ _ _ _ (⟨_, .unOp _ _ _, _, _, _, _⟩ :: _) _ _; refine O_ev WideF.wide rfl (Ev_not rfl) rfl rfl ?_) | (show opsA _ _ _ _ (⟨_, .alloc _, _, _, _, _⟩ :: _) _ _; (refine O_ef rfl (Ef_alloc WideF.wide rfl ?_); intro b))) | (show wpA _ _ _ (.cond _ _ _) _ _ _ _; (refine A_if rfl (fun h => ?_) (fun h => ?_) <;> try (exfalso; omega))))
        · (refine End_p (Ret1 rfl rfl) ?_)
          rw [no (by assumption) (fun e => hxx e)]
        · refine Shift.to ⟨_, ?_, i + 1, rfl, by omega, fun j hj => ?_, rfl⟩ ⟨rfl, rfl, rfl, ⟨rfl, rfl, rfl, rfl, rfl, rfl, rfl, trivial⟩, Own.sub_nil _⟩
          · omega
          · by_cases hji : j = i
            · subst hji
              have hq : y = y' := Decidable.not_not.1 (by assumption)
              rw [hyi, hyi', hq]
            · exact hall j (by omega)
      · have hin : n = i := by omega
        subst hin
        have he2 : l = l' := list_ext (by omega) fun j hj => hall j (by omega)
        repeat' (first | refine O_nil ?_ | refine A_seq ?_ | refine A_region ?_ | refine A_ret ?_ | (show opsA _ _ _ _ _ _ _; refine O_ev WideF.wide rfl (Ev_pure rfl) rfl rfl ?_) | (show wpA _ _ _ (.exit _) _ _ _ _; refine A_exit rfl ?_) | (show wpA _ _ _ (.cond _ _ _) _ _ _ _; (refine A_if rfl (fun h => ?_) (fun h => ?_) <;> try (exfalso; omega))))
        (refine End_p (Ret1 rfl rfl) ?_)
        rw [decide_eq_true he2]

set_option maxRecDepth 100000 in
theorem sEqualFuncRow_fn {H : Hp} {a : Option Addr} {n cq : Nat} {a' : Option Addr} {n' cq' : Nat} {l l' : List Row} (hx : SlH H RowH 6 a n cq l) (hx' : SlH H RowH 6 a' n' cq' l') (hm : n < 68719476736)
    (hf : ∀ {cs cs' : List Value} {i : Nat} {x x' : Row}, l[i]? = some x → RowH H cs x → RowH H cs' x' → FnP Tryz.prog 41 [.agg cs.toArray, .agg cs'.toArray] H (.bool (decide (x = x')))) :
    FnP Tryz.prog 40 [.slice a n cq, .slice a' n' cq', .func (.func 41) #[] #[]] H (.bool (decide (l = l'))) := by
  have e1 := hx.len
  have e2 := hx'.len
  have no : ∀ {q : Prop}, ¬ q → (l = l' → q) → decide (l = l') = false := fun hq hh => decide_eq_false fun e => hq (hh e)
  refine Fn_of _ _ Tryz.func40 rfl Tryz.ntmps40 rfl fun c => ?_
  repeat' (first | refine O_nil ?_ | refine A_seq ?_ | refine A_region ?_ | refine A_skip ?_ | refine A_ret ?_ | refine A_block ?_ | (show opsA _ _ _ _ _ _ _; first | refine O_ev WideF.wide rfl (Ev_pure rfl) rfl rfl ?_ | (show opsA _ _ _ _ (⟨_, .call _, _, _, _, _⟩ :: _) _ _; refine O_ev WideF.wide rfl (Ev_llen rfl) rfl rfl ?_)) | (show wpA _ _ _ (.cond _ _ _) _ _ _ _; (refine A_if rfl (fun h => ?_) (fun h => ?_) <;> try (exfalso; omega))))
  · (refine End_p (Ret1 rfl rfl) ?_)
    rw [no (show ¬ n = n' by omega) (fun e => by subst e; omega)]
  · refine A_loopu (fun m s => ∃ i : Nat, m = n - i ∧ i ≤ n ∧ (∀ j, j < i → l[j]? = l'[j]?) ∧ s = sefSt H 41 a n cq a' n' cq' i) ?_ ?_
    · exact Shift.to ⟨_, 0, rfl, by omega, fun j hj => absurd hj (by omega), rfl⟩ ⟨rfl, rfl, rfl, ⟨rfl, rfl, rfl, rfl, rfl, rfl, rfl, trivial⟩, Own.sub_nil _⟩
    · rintro m s ⟨i, rfl, hi, hall, rfl⟩
      by_cases hlt : i < n
      · obtain ⟨b, o, cs, y, rfl, hyi, hyc, hyk, hc⟩ := hx.at i hlt
        obtain ⟨b', o', cs', y', rfl, hyi', hyc', hyk', hc'⟩ := hx'.at i (by omega)
        have hxx : l = l' → y = y' := fun e => by subst e; rw [hyi] at hyi'; exact Option.some.inj hyi'
        have hcall := hf hyi hyc hyc'
        repeat' (first | (refine O_ev WideF.wide rfl (Ev_loadH rfl (by assumption) (by assumption)) rfl rfl ?_) | (refine O_ev WideF.wide rfl (Ev_loadB (i := 0) rfl rfl (by assumption)) rfl rfl ?_) | (refine O_ev WideF.wide rfl (Ev_loadB (i := 1) rfl rfl (by assumption)) rfl rfl ?_) | (refine O_ef rfl (Ef_storew WideF.wide rfl rfl (by assumption) (by first | exact List.all_eq_true.2 hyc.one | exact List.all_eq_true.2 hyc'.one) (by simp [hyk, hyk']) ?_)) | (refine O_ef rfl (Ef_callvp WideF.wide hcall rfl ⟨rfl, rfl, trivial⟩ rfl ?_)) | refine O_nil ?_ | refine A_seq ?_ | refine A_region ?_ | refine A_skip ?_ | refine A_ret ?_ | refine A_block ?_ | (show opsA _ _ _ _ _ _ _; first | refine O_ev WideF.wide rfl (Ev_pure rfl) rfl rfl ?_ | (show opsA _ _ _ _ (⟨_, .indexAddr _ _ _, _, _, _, _⟩ :: _) _ _; refine O_ev WideF.wide rfl (Ev_indexAddr rfl rfl (by omega) (by omega)) rfl rfl ?_) | (show opsA _ _ _ _ (⟨_, .binOp _ _ _ _ _, _, _, _, _⟩ :: _) _ _; refine O_ev WideF.wide rfl (Ev_add rfl rfl (wi64 (by omega))) rfl rfl ?_) | (show opsA _ _ _ _ (⟨_, .unOp _ _ _, _, _, _, _⟩ :: _) _ _; refine O_ev WideF.wide rfl (Ev_not rfl) rfl rfl ?_) | (show opsA _ _ _ _ (⟨_, .alloc _, _, _, _, _⟩ :: _) _ _; (refine O_ef rfl (Ef_alloc WideF.wide rfl ?_); intro b))) | (show wpA _ _ _ (.cond _ _ _) _ _ _ _; (refine A_if rfl (fun h => ?_) (fun h => ?_) <;> try (exfalso; omega))))
        · (refine End_p (Ret1 rfl rfl) ?_)
          rw [no (by assumption) (fun e => hxx e)]
        · refine Shift.to ⟨_, ?_, i + 1, rfl, by omega, fun j hj => ?_, rfl⟩ ⟨rfl, rfl, rfl, ⟨rfl, rfl, rfl, rfl, rfl, rfl, rfl, trivial⟩, Own.sub_nil _⟩
          · omega
          · by_cases hji : j = i
            · subst hji
              have hq : y = y' := Decidable.not_not.1 (by assumption)
              rw [hyi, hyi', hq]
            · exact hall j (by omega)
      · have hin : n = i := by omega
        subst hin
        have he2 : l = l' := list_ext (by omega) fun j hj => hall j (by omega)
        repeat' (first | refine O_nil ?_ | refine A_seq ?_ | refine A_region ?_ | refine A_ret ?_ | (show opsA _ _ _ _ _ _ _; refine O_ev WideF.wide rfl (Ev_pure rfl) rfl rfl ?_) | (show wpA _ _ _ (.exit _) _ _ _ _; refine A_exit rfl ?_) | (show wpA _ _ _ (.cond _ _ _) _ _ _ _; (refine A_if rfl (fun h => ?_) (fun h => ?_) <;> try (exfalso; omega))))
        (refine End_p (Ret1 rfl rfl) ?_)
        rw [decide_eq_true he2]

set_option maxRecDepth 100000 in
theorem sEqualFuncCell_fn {H : Hp} {a : Option Addr} {n cq : Nat} {a' : Option Addr} {n' cq' : Nat} {l l' : List Cell} (hx : SlH H CellH 7 a n cq l) (hx' : SlH H CellH 7 a' n' cq' l') (hm : n < 68719476736)
    (hf : ∀ {cs cs' : List Value} {i : Nat} {x x' : Cell}, l[i]? = some x → CellH H cs x → CellH H cs' x' → FnP Tryz.prog 43 [.agg cs.toArray, .agg cs'.toArray] H (.bool (decide (x = x')))) :
    FnP Tryz.prog 42 [.slice a n cq, .slice a' n' cq', .func (.func 43) #[] #[]] H (.bool (decide (l = l'))) := by
  have e1 := hx.len
  have e2 := hx'.len
  have no : ∀ {q : Prop}, ¬ q → (l = l' → q) → decide (l = l') = false := fun hq hh => decide_eq_false fun e => hq (hh e)
  refine Fn_of _ _ Tryz.func42 rfl Tryz.ntmps42 rfl fun c => ?_
  repeat' (first | refine O_nil ?_ | refine A_seq ?_ | refine A_region ?_ | refine A_skip ?_ | refine A_ret ?_ | refine A_block ?_ | (show opsA _ _ _ _ _ _ _; first | refine O_ev WideF.wide rfl (Ev_pure rfl) rfl rfl ?_ | (show opsA _ _ _ _ (⟨_, .call _, _, _, _, _⟩ :: _) _ _; refine O_ev WideF.wide rfl (Ev_llen rfl) rfl rfl ?_)) | (show wpA _ _ _ (.cond _ _ _) _ _ _ _; (refine A_if rfl (fun h => ?_) (fun h => ?_) <;> try (exfalso; omega))))
  · (refine End_p (Ret1 rfl rfl) ?_)
    rw [no (show ¬ n = n' by omega) (fun e => by subst e; omega)]
  · refine A_loopu (fun m s => ∃ i : Nat, m = n - i ∧ i ≤ n ∧ (∀ j, j < i → l[j]? = l'[j]?) ∧ s = sefSt H 43 a n cq a' n' cq' i) ?_ ?_
    · exact Shift.to ⟨_, 0, rfl, by omega, fun j hj => absurd hj (by omega), rfl⟩ ⟨rfl, rfl, rfl, ⟨rfl, rfl, rfl, rfl, rfl, rfl, rfl, trivial⟩, Own.sub_nil _⟩
    · rintro m s ⟨i, rfl, hi, hall, rfl⟩
      by_cases hlt : i < n
      · obtain ⟨b, o, cs, y, rfl, hyi, hyc, hyk, hc⟩ := hx.at i hlt
        obtain ⟨b', o', cs', y', rfl, hyi', hyc', hyk', hc'⟩ := hx'.at i (by omega)
        have hxx : l = l' → y = y' := fun e => by subst e; rw [hyi] at hyi'; exact Option.some.inj hyi'
        have hcall := hf hyi hyc hyc'
        repeat' (first | (refine O_ev WideF.wide rfl (Ev_loadH rfl (by assumption) (by assumption)) rfl rfl ?_) | (refine O_ev WideF.wide rfl (Ev_loadB (i := 0) rfl rfl (by assumption)) rfl rfl ?_) | (refine O_ev WideF.wide rfl (Ev_loadB (i := 1) rfl rfl (by assumption)) rfl rfl ?_) | (refine O_ef rfl (Ef_storew WideF.wide rfl rfl (by assumption) (by first | exact List.all_eq_true.2 hyc.one | exact List.all_eq_true.2 hyc'.one) (by simp [hyk, hyk']) ?_)) | (refine O_ef rfl (Ef_callvp WideF.wide hcall rfl ⟨rfl, rfl, trivial⟩ rfl ?_)) | refine O_nil ?_ | refine A_seq ?_ | refine A_region ?_ | refine A_skip ?_ | refine A_ret ?_ | refine A_block ?_ | (show opsA _ _ _ _ _ _ _; first | refine O_ev WideF.wide rfl (Ev_pure rfl) rfl rfl ?_ | (show opsA _ _ _ _ (⟨_, .indexAddr _ _ _, _, _, _, _⟩ :: _) _ _; refine O_ev WideF.wide rfl (Ev_indexAddr rfl rfl (by omega) (by omega)) rfl rfl ?_) | (show opsA _ _ _ _ (⟨_, .binOp _ _ _ _ _, _, _, _, _⟩ :: _) _ _; refine O_ev WideF.wide rfl (Ev_add rfl rfl (wi64 (by omega))) rfl rfl ?_) | (show opsA _ _ _ _ (⟨_, .unOp _ _ _, _, _, _, _⟩ :: _) _ _; refine O_ev WideF.wide rfl (Ev_not rfl) rfl rfl ?_) | (show opsA _ _ _ _ (⟨_, .alloc _, _, _, _, _⟩ :: _) _ _; (refine O_ef rfl (Ef_alloc WideF.wide rfl ?_); intro b))) | (show wpA _ _ _ (.cond _ _ _) _ _ _ _; (refine A_if rfl (fun h => ?_) (fun h => ?_) <;> try (exfalso; omega))))
        · (refine End_p (Ret1 rfl rfl) ?_)
          rw [no (by assumption) (fun e => hxx e)]
        · refine Shift.to ⟨_, ?_, i + 1, rfl, by omega, fun j hj => ?_, rfl⟩ ⟨rfl, rfl, rfl, ⟨rfl, rfl, rfl, rfl, rfl, rfl, rfl, trivial⟩, Own.sub_nil _⟩
          · omega
          · by_cases hji : j = i
            · subst hji
              have hq : y = y' := Decidable.not_not.1 (by assumption)
              rw [hyi, hyi', hq]
            · exact hall j (by omega)
      · have hin : n = i := by omega
        subst hin
        have he2 : l = l' := list_ext (by omega) fun j hj => hall j (by omega)
        repeat' (first | refine O_nil ?_ | refine A_seq ?_ | refine A_region ?_ | refine A_ret ?_ | (show opsA _ _ _ _ _ _ _; refine O_ev WideF.wide rfl (Ev_pure rfl) rfl rfl ?_) | (show wpA _ _ _ (.exit _) _ _ _ _; refine A_exit rfl ?_) | (show wpA _ _ _ (.cond _ _ _) _ _ _ _; (refine A_if rfl (fun h => ?_) (fun h => ?_) <;> try (exfalso; omega))))
        (refine End_p (Ret1 rfl rfl) ?_)
        rw [decide_eq_true he2]

end Go.Proofs.YtofkolbnhcckkaaGreat
