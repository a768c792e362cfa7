/-
  run: comparisons of heads (printed by gen9.py).
-/
import Derived.Test.YtofkolbnhcckkaaGreatR6
namespace Go.Proofs.YtofkolbnhcckkaaGreat
open Go
set_option linter.unusedVariables false
set_option linter.unusedSimpArgs false
attribute [local irreducible] wpA opsA drJ drQ drE Ef Ev Shift Fn

abbrev seqSt (H : Hp) (a : Option Addr) (n c : Nat) (a' : Option Addr) (n' c' : Nat) (i : Nat) : Sta := ⟨26, [(0, .slice a n c), (1, .slice a' n' c'), (4, .bool false), (11, .slice a n c), (12, .int .i64 n), (13, .int .i64 i)], H, [], [], []⟩

set_option maxRecDepth 100000 in
theorem sEqualPrp_fn {H : Hp} {a : Option Addr} {n cq : Nat} {a' : Option Addr} {n' cq' : Nat} {l l' : List Prp} (hx : HRow H a n cq 2 (l.map prow)) (hx' : HRow H a' n' cq' 2 (l'.map prow)) (hm : n < 68719476736) : FnP Tryz.prog 68 [.slice a n cq, .slice a' n' cq'] H (.bool (decide (l = l'))) := by
  have e1 : l.length = n := by have := hx.len; simpa using this
  have e2 : l'.length = n' := by have := hx'.len; simpa using this
  have no : ∀ {q : Prop}, ¬ q → (l = l' → q) → decide (l = l') = false := fun hq hh => decide_eq_false fun e => hq (hh e)
  refine Fn_of _ _ Tryz.func68 rfl Tryz.ntmps68 rfl fun c => ?_
  repeat' (first | refine O_nil ?_ | refine A_seq ?_ | refine A_region ?_ | refine A_skip ?_ | refine A_ret ?_ | refine A_block ?_ | (show opsA _ _ _ _ _ _ _; first | refine O_ev WideF.wide rfl (Ev_pure rfl) rfl rfl ?_ | (show opsA _ _ _ _ (⟨_, .call _, _, _, _, _⟩ :: _) _ _; refine O_ev WideF.wide rfl (Ev_llen rfl) rfl rfl ?_)) | (show wpA _ _ _ (.cond _ _ _) _ _ _ _; (refine A_if rfl (fun h => ?_) (fun h => ?_) <;> try (exfalso; omega))))
  · (refine End_p (Ret1 rfl rfl) ?_)
    rw [no (show ¬ n = n' by omega) (fun e => by subst e; omega)]
  · refine A_loopu (fun m s => ∃ i : Nat, m = n - i ∧ i ≤ n ∧ (∀ j, j < i → l[j]? = l'[j]?) ∧ s = seqSt H a n cq a' n' cq' i) ?_ ?_
    · exact Shift.to ⟨_, 0, rfl, by omega, fun j hj => absurd hj (by omega), rfl⟩ ⟨rfl, rfl, rfl, ⟨rfl, rfl, rfl, rfl, rfl, rfl, trivial⟩, Own.sub_nil _⟩
    · rintro m s ⟨i, rfl, hi, hall, rfl⟩
      by_cases hlt : i < n
      · obtain ⟨b, o, y, rfl, hyi, hc⟩ := hx.atm i hlt
        obtain ⟨b', o', y', rfl, hyi', hc'⟩ := hx'.atm i (by omega)
        have hxx : l = l' → y = y' := fun e => by subst e; rw [hyi] at hyi'; exact Option.some.inj hyi'
        repeat' (first | (refine A_drawi WideF.wide (.q 0 (.q 1 (.q 2 (.q 3 (.q 4 (.q 5 (.q 6 (.q 7 (.q 8 (.done [])))))))))) [] [] [] (by decide +kernel) (by decide) rfl ?_; simp only [Own.picks, Own.rget, List.cons_append, List.nil_append, List.append_nil]) | (refine D_ev rfl (Ev_neS rfl rfl Tryz.eqGuardType125 (eq_prop _ _ _ _)) rfl rfl ?_) | refine O_nil ?_ | refine A_seq ?_ | refine A_region ?_ | refine A_skip ?_ | refine A_ret ?_ | refine A_block ?_ | (show drJ _ _ _ _ _ _ _ (.q _ _) _; refine D_q rfl ?_) | (show drJ _ _ _ _ _ _ _ (.done _) _; refine D_done ?_; simp only [List.cons_append, List.nil_append]) | (show drQ _ _ _ _ _ _; first | refine D_ev rfl (Ev_pure rfl) rfl rfl ?_ | (show drQ _ _ _ ⟨_, .load _ _, _, _, _, _⟩ _ _; refine D_ev rfl (Ev_loadH rfl (by assumption) (by rfl)) rfl rfl ?_) | (show drQ _ _ _ ⟨_, .indexAddr _ _ _, _, _, _, _⟩ _ _; refine D_ev rfl (Ev_indexAddr rfl rfl (by omega) (by omega)) rfl rfl ?_)) | (show opsA _ _ _ _ _ _ _; first | refine O_ev WideF.wide rfl (Ev_pure rfl) rfl rfl ?_ | (show opsA _ _ _ _ (⟨_, .binOp _ _ _ _ _, _, _, _, _⟩ :: _) _ _; refine O_ev WideF.wide rfl (Ev_add rfl rfl (wi64 (by omega))) rfl rfl ?_)) | (show wpA _ _ _ (.cond _ _ _) _ _ _ _; (refine A_if rfl (fun h => ?_) (fun h => ?_) <;> try (exfalso; omega))))
        · (refine End_p (Ret1 rfl rfl) ?_)
          rw [no (by assumption) (fun e => by rw [hxx e]; simp)]
        · refine Shift.to ⟨_, ?_, i + 1, rfl, by omega, fun j hj => ?_, rfl⟩ ⟨rfl, rfl, rfl, ⟨rfl, rfl, rfl, rfl, rfl, rfl, trivial⟩, Own.sub_nil _⟩
          · omega
          · by_cases hji : j = i
            · subst hji
              rw [hyi, hyi']
              have hq := Decidable.not_not.1 (by assumption)
              cases y; cases y'; simp at hq ⊢; exact hq
            · exact hall j (by omega)
      · have hin : n = i := by omega
        subst hin
        have he2 : l = l' := list_ext (by omega) fun j hj => hall j (by omega)
        repeat' (first | refine O_nil ?_ | refine A_seq ?_ | refine A_region ?_ | refine A_ret ?_ | (show opsA _ _ _ _ _ _ _; refine O_ev WideF.wide rfl (Ev_pure rfl) rfl rfl ?_) | (show wpA _ _ _ (.exit _) _ _ _ _; refine A_exit rfl ?_) | (show wpA _ _ _ (.cond _ _ _) _ _ _ _; (refine A_if rfl (fun h => ?_) (fun h => ?_) <;> try (exfalso; omega))))
        (refine End_p (Ret1 rfl rfl) ?_)
        rw [decide_eq_true he2]

set_option maxRecDepth 100000 in
theorem sEqualDele_fn {H : Hp} {a : Option Addr} {n cq : Nat} {a' : Option Addr} {n' cq' : Nat} {l l' : List Dele} (hx : HRow H a n cq 2 (l.map drow)) (hx' : HRow H a' n' cq' 2 (l'.map drow)) (hm : n < 68719476736) : FnP Tryz.prog 69 [.slice a n cq, .slice a' n' cq'] H (.bool (decide (l = l'))) := by
  have e1 : l.length = n := by have := hx.len; simpa using this
  have e2 : l'.length = n' := by have := hx'.len; simpa using this
  have no : ∀ {q : Prop}, ¬ q → (l = l' → q) → decide (l = l') = false := fun hq hh => decide_eq_false fun e => hq (hh e)
  refine Fn_of _ _ Tryz.func69 rfl Tryz.ntmps69 rfl fun c => ?_
  repeat' (first | refine O_nil ?_ | refine A_seq ?_ | refine A_region ?_ | refine A_skip ?_ | refine A_ret ?_ | refine A_block ?_ | (show opsA _ _ _ _ _ _ _; first | refine O_ev WideF.wide rfl (Ev_pure rfl) rfl rfl ?_ | (show opsA _ _ _ _ (⟨_, .call _, _, _, _, _⟩ :: _) _ _; refine O_ev WideF.wide rfl (Ev_llen rfl) rfl rfl ?_)) | (show wpA _ _ _ (.cond _ _ _) _ _ _ _; (refine A_if rfl (fun h => ?_) (fun h => ?_) <;> try (exfalso; omega))))
  · (refine End_p (Ret1 rfl rfl) ?_)
    rw [no (show ¬ n = n' by omega) (fun e => by subst e; omega)]
  · refine A_loopu (fun m s => ∃ i : Nat, m = n - i ∧ i ≤ n ∧ (∀ j, j < i → l[j]? = l'[j]?) ∧ s = seqSt H a n cq a' n' cq' i) ?_ ?_
    · exact Shift.to ⟨_, 0, rfl, by omega, fun j hj => absurd hj (by omega), rfl⟩ ⟨rfl, rfl, rfl, ⟨rfl, rfl, rfl, rfl, rfl, rfl, trivial⟩, Own.sub_nil _⟩
    · rintro m s ⟨i, rfl, hi, hall, rfl⟩
      by_cases hlt : i < n
      · obtain ⟨b, o, y, rfl, hyi, hc⟩ := hx.atm i hlt
        obtain ⟨b', o', y', rfl, hyi', hc'⟩ := hx'.atm i (by omega)
        have hxx : l = l' → y = y' := fun e => by subst e; rw [hyi] at hyi'; exact Option.some.inj hyi'
        repeat' (first | (refine A_drawi WideF.wide (.q 0 (.q 1 (.q 2 (.q 3 (.q 4 (.q 5 (.q 6 (.q 7 (.q 8 (.done [])))))))))) [] [] [] (by decide +kernel) (by decide) rfl ?_; simp only [Own.picks, Own.rget, List.cons_append, List.nil_append, List.append_nil]) | (refine D_ev rfl (Ev_neS rfl rfl Tryz.eqGuardType128 (eq_del _ _ _ _)) rfl rfl ?_) | refine O_nil ?_ | refine A_seq ?_ | refine A_region ?_ | refine A_skip ?_ | refine A_ret ?_ | refine A_block ?_ | (show drJ _ _ _ _ _ _ _ (.q _ _) _; refine D_q rfl ?_) | (show drJ _ _ _ _ _ _ _ (.done _) _; refine D_done ?_; simp only [List.cons_append, List.nil_append]) | (show drQ _ _ _ _ _ _; first | refine D_ev rfl (Ev_pure rfl) rfl rfl ?_ | (show drQ _ _ _ ⟨_, .load _ _, _, _, _, _⟩ _ _; refine D_ev rfl (Ev_loadH rfl (by assumption) (by rfl)) rfl rfl ?_) | (show drQ _ _ _ ⟨_, .indexAddr _ _ _, _, _, _, _⟩ _ _; refine D_ev rfl (Ev_indexAddr rfl rfl (by omega) (by omega)) rfl rfl ?_)) | (show opsA _ _ _ _ _ _ _; first | refine O_ev WideF.wide rfl (Ev_pure rfl) rfl rfl ?_ | (show opsA _ _ _ _ (⟨_, .binOp _ _ _ _ _, _, _, _, _⟩ :: _) _ _; refine O_ev WideF.wide rfl (Ev_add rfl rfl (wi64 (by omega))) rfl rfl ?_)) | (show wpA _ _ _ (.cond _ _ _) _ _ _ _; (refine A_if rfl (fun h => ?_) (fun h => ?_) <;> try (exfalso; omega))))
        · (refine End_p (Ret1 rfl rfl) ?_)
          rw [no (by assumption) (fun e => by rw [hxx e]; simp)]
        · refine Shift.to ⟨_, ?_, i + 1, rfl, by omega, fun j hj => ?_, rfl⟩ ⟨rfl, rfl, rfl, ⟨rfl, rfl, rfl, rfl, rfl, rfl, trivial⟩, Own.sub_nil _⟩
          · omega
          · by_cases hji : j = i
            · subst hji
              rw [hyi, hyi']
              have hq := Decidable.not_not.1 (by assumption)
              cases y; cases y'; simp at hq ⊢; exact hq
            · exact hall j (by omega)
      · have hin : n = i := by omega
        subst hin
        have he2 : l = l' := list_ext (by omega) fun j hj => hall j (by omega)
        repeat' (first | refine O_nil ?_ | refine A_seq ?_ | refine A_region ?_ | refine A_ret ?_ | (show opsA _ _ _ _ _ _ _; refine O_ev WideF.wide rfl (Ev_pure rfl) rfl rfl ?_) | (show wpA _ _ _ (.exit _) _ _ _ _; refine A_exit rfl ?_) | (show wpA _ _ _ (.cond _ _ _) _ _ _ _; (refine A_if rfl (fun h => ?_) (fun h => ?_) <;> try (exfalso; omega))))
        (refine End_p (Ret1 rfl rfl) ?_)
        rw [decide_eq_true he2]

set_option maxRecDepth 100000 in
theorem sEqualLayr_fn {H : Hp} {a : Option Addr} {n cq : Nat} {a' : Option Addr} {n' cq' : Nat} {l l' : List Layr} (hx : HRow H a n cq 4 (l.map lrow)) (hx' : HRow H a' n' cq' 4 (l'.map lrow)) (hm : n < 68719476736) : FnP Tryz.prog 70 [.slice a n cq, .slice a' n' cq'] H (.bool (decide (l = l'))) := by
  have e1 : l.length = n := by have := hx.len; simpa using this
  have e2 : l'.length = n' := by have := hx'.len; simpa using this
  have no : ∀ {q : Prop}, ¬ q → (l = l' → q) → decide (l = l') = false := fun hq hh => decide_eq_false fun e => hq (hh e)
  refine Fn_of _ _ Tryz.func70 rfl Tryz.ntmps70 rfl fun c => ?_
  repeat' (first | refine O_nil ?_ | refine A_seq ?_ | refine A_region ?_ | refine A_skip ?_ | refine A_ret ?_ | refine A_block ?_ | (show opsA _ _ _ _ _ _ _; first | refine O_ev WideF.wide rfl (Ev_pure rfl) rfl rfl ?_ | (show opsA _ _ _ _ (⟨_, .call _, _, _, _, _⟩ :: _) _ _; refine O_ev WideF.wide rfl (Ev_llen rfl) rfl rfl ?_)) | (show wpA _ _ _ (.cond _ _ _) _ _ _ _; (refine A_if rfl (fun h => ?_) (fun h => ?_) <;> try (exfalso; omega))))
  · (refine End_p (Ret1 rfl rfl) ?_)
    rw [no (show ¬ n = n' by omega) (fun e => by subst e; omega)]
  · refine A_loopu (fun m s => ∃ i : Nat, m = n - i ∧ i ≤ n ∧ (∀ j, j < i → l[j]? = l'[j]?) ∧ s = seqSt H a n cq a' n' cq' i) ?_ ?_
    · exact Shift.to ⟨_, 0, rfl, by omega, fun j hj => absurd hj (by omega), rfl⟩ ⟨rfl, rfl, rfl, ⟨rfl, rfl, rfl, rfl, rfl, rfl, trivial⟩, Own.sub_nil _⟩
    · rintro m s ⟨i, rfl, hi, hall, rfl⟩
      by_cases hlt : i < n
      · obtain ⟨b, o, y, rfl, hyi, hc⟩ := hx.atm i hlt
        obtain ⟨b', o', y', rfl, hyi', hc'⟩ := hx'.atm i (by omega)
        have hxx : l = l' → y = y' := fun e => by subst e; rw [hyi] at hyi'; exact Option.some.inj hyi'
        repeat' (first | (refine A_drawi WideF.wide (.q 0 (.q 1 (.q 2 (.q 3 (.q 4 (.q 5 (.q 6 (.q 7 (.q 8 (.done [])))))))))) [] [] [] (by decide +kernel) (by decide) rfl ?_; simp only [Own.picks, Own.rget, List.cons_append, List.nil_append, List.append_nil]) | (refine D_ev rfl (Ev_neS rfl rfl Tryz.eqGuardType131 (eq_layer _ _ _ _ _ _ _ _)) rfl rfl ?_) | refine O_nil ?_ | refine A_seq ?_ | refine A_region ?_ | refine A_skip ?_ | refine A_ret ?_ | refine A_block ?_ | (show drJ _ _ _ _ _ _ _ (.q _ _) _; refine D_q rfl ?_) | (show drJ _ _ _ _ _ _ _ (.done _) _; refine D_done ?_; simp only [List.cons_append, List.nil_append]) | (show drQ _ _ _ _ _ _; first | refine D_ev rfl (Ev_pure rfl) rfl rfl ?_ | (show drQ _ _ _ ⟨_, .load _ _, _, _, _, _⟩ _ _; refine D_ev rfl (Ev_loadH rfl (by assumption) (by rfl)) rfl rfl ?_) | (show drQ _ _ _ ⟨_, .indexAddr _ _ _, _, _, _, _⟩ _ _; refine D_ev rfl (Ev_indexAddr rfl rfl (by omega) (by omega)) rfl rfl ?_)) | (show opsA _ _ _ _ _ _ _; first | refine O_ev WideF.wide rfl (Ev_pure rfl) rfl rfl ?_ | (show opsA _ _ _ _ (⟨_, .binOp _ _ _ _ _, _, _, _, _⟩ :: _) _ _; refine O_ev WideF.wide rfl (Ev_add rfl rfl (wi64 (by omega))) rfl rfl ?_)) | (show wpA _ _ _ (.cond _ _ _) _ _ _ _; (refine A_if rfl (fun h => ?_) (fun h => ?_) <;> try (exfalso; omega))))
        · (refine End_p (Ret1 rfl rfl) ?_)
          rw [no (by assumption) (fun e => by rw [hxx e]; simp)]
        · refine Shift.to ⟨_, ?_, i + 1, rfl, by omega, fun j hj => ?_, rfl⟩ ⟨rfl, rfl, rfl, ⟨rfl, rfl, rfl, rfl, rfl, rfl, trivial⟩, Own.sub_nil _⟩
          · omega
          · by_cases hji : j = i
            · subst hji
              rw [hyi, hyi']
              have hq := Decidable.not_not.1 (by assumption)
              cases y; cases y'; simp at hq ⊢; exact hq
            · exact hall j (by omega)
      · have hin : n = i := by omega
        subst hin
        have he2 : l = l' := list_ext (by omega) fun j hj => hall j (by omega)
        repeat' (first | refine O_nil ?_ | refine A_seq ?_ | refine A_region ?_ | refine A_ret ?_ | (show opsA _ _ _ _ _ _ _; refine O_ev WideF.wide rfl (Ev_pure rfl) rfl rfl ?_) | (show wpA _ _ _ (.exit _) _ _ _ _; refine A_exit rfl ?_) | (show wpA _ _ _ (.cond _ _ _) _ _ _ _; (refine A_if rfl (fun h => ?_) (fun h => ?_) <;> try (exfalso; omega))))
        (refine End_p (Ret1 rfl rfl) ?_)
        rw [decide_eq_true he2]

theorem Head.ext_iff' (x y : Head) : x = y ↔ x.props = y.props ∧ x.ins = y.ins ∧ x.move = y.move ∧ x.dels = y.dels ∧ x.layers = y.layers := by
  cases x; cases y; simp
set_option maxRecDepth 100000 in
theorem EqualHead_fn {H : Hp} {cs cs' : List Value} {g g' : Head} (hx : HeadH H cs g) (hx' : HeadH H cs' g') (hm : g.mass < 68719476736) : FnP Tryz.prog 44 [.agg cs.toArray, .agg cs'.toArray] H (.bool (decide (g = g'))) := by
  obtain ⟨pa, pn, pc, da, dn, dc, la, ln, lc, rfl, hp, hd, hl⟩ := hx.ex
  obtain ⟨pa', pn', pc', da', dn', dc', la', ln', lc', rfl, hp', hd', hl'⟩ := hx'.ex
  have e1 : g.props.length = pn := by have := hp.len; simpa using this
  have e2 : g.dels.length = dn := by have := hd.len; simpa using this
  have e3 : g.layers.length = ln := by have := hl.len; simpa using this
  have hmm : g.mass = pn + dn + ln := by rw [← e1, ← e2, ← e3]; rfl
  have f1 := sEqualPrp_fn hp hp' (by omega)
  have f2 := sEqualDele_fn hd hd' (by omega)
  have f3 := sEqualLayr_fn hl hl' (by omega)
  refine Fn_of _ _ Tryz.func44 rfl Tryz.ntmps44 rfl fun c => ?_
  repeat' (first | (refine O_ef rfl (Ef_callp WideF.wide f1 ⟨rfl, rfl, trivial⟩ rfl ?_)) | (refine O_ef rfl (Ef_callp WideF.wide f2 ⟨rfl, rfl, trivial⟩ rfl ?_)) | (refine O_ef rfl (Ef_callp WideF.wide f3 ⟨rfl, rfl, trivial⟩ rfl ?_)) | refine O_nil ?_ | refine A_seq ?_ | refine A_region ?_ | refine A_ret ?_ | (show opsA _ _ _ _ _ _ _; first | (refine O_split rfl rfl (fun h => ?_) (fun h => ?_) <;> try (exfalso; omega)) | refine O_ev WideF.wide rfl (Ev_pure rfl) rfl rfl ?_ | (show opsA _ _ _ _ (⟨_, .load _ _, _, _, _, _⟩ :: _) _ _; first | refine O_ev WideF.wide rfl (Ev_loadB1 (i := 0) rfl rfl rfl) rfl rfl ?_ | refine O_ev WideF.wide rfl (Ev_loadB1 (i := 1) rfl rfl rfl) rfl rfl ?_) | (show opsA _ _ _ _ (⟨_, .fieldAddr _ _ _, _, _, _, _⟩ :: _) _ _; refine O_ev WideF.wide rfl (Ev_fieldAddr rfl rfl rfl) rfl rfl ?_) | (show opsA _ _ _ _ (⟨_, .box _ _, _, _, _, _⟩ :: _) _ _; (refine O_ef rfl (Ef_boxa WideF.wide rfl rfl ?_); intro b)) | refine O_skip WideF.wide rfl rfl rfl ?_))
  all_goals ((refine End_p (Ret1 rfl rfl) ?_); refine congrArg Value.bool ?_; rw [Bool.eq_iff_iff]; simp [Head.ext_iff' g g', *])
end Go.Proofs.YtofkolbnhcckkaaGreat
