/-
  Equality and copies of heads (printed by genM.py).
-/
import Derived.Test.YthniohgeojenaaaM0
namespace Go.Proofs.Ythniohgeojenaaa
open Go
set_option linter.unusedVariables false
set_option linter.unusedSimpArgs false
attribute [local irreducible] wpA opsA drJ drQ drE Ef Ev Shift Fn

theorem eq_prop (a b c d : Int) : ∀ w, (Op.equalIn 10000 56 (.agg [.int .i64 a, .int .i64 b].toArray) (.agg [.int .i64 c, .int .i64 d].toArray)).run Try.prog w = .ok (decide (a = c ∧ b = d)) w := fun w => by
  have key : ∀ m : Nat, (Op.equalIn (m + 2) 56 (.agg [.int .i64 a, .int .i64 b].toArray) (.agg [.int .i64 c, .int .i64 d].toArray)).run Try.prog w = .ok (decide (a = c ∧ b = d)) w := fun m => by
    have hf := fieldsOf_of Try.underlying56
    rw [run_equalIn_agg (P := Try.prog) w (m + 1) _ _ _ (by rw [hf]; exact Try.underlying56) Try.stoodInHeld56, hf]
    have h1 := fun x y : Int => run_equalIn_int (P := Try.prog) w m 3 .i64 .i64 x y Try.underlying3
    simp [Op.eqFields, part, Try.isAgg3, h1]
    by_cases h2 : a = c <;> by_cases h3 : b = d <;> simp [h2, h3]
  exact key 9998
theorem eq_del (a b c d : Int) : ∀ w, (Op.equalIn 10000 54 (.agg [.int .i64 a, .int .i64 b].toArray) (.agg [.int .i64 c, .int .i64 d].toArray)).run Try.prog w = .ok (decide (a = c ∧ b = d)) w := fun w => by
  have key : ∀ m : Nat, (Op.equalIn (m + 2) 54 (.agg [.int .i64 a, .int .i64 b].toArray) (.agg [.int .i64 c, .int .i64 d].toArray)).run Try.prog w = .ok (decide (a = c ∧ b = d)) w := fun m => by
    have hf := fieldsOf_of Try.underlying54
    rw [run_equalIn_agg (P := Try.prog) w (m + 1) _ _ _ (by rw [hf]; exact Try.underlying54) Try.stoodInHeld54, hf]
    have h1 := fun x y : Int => run_equalIn_int (P := Try.prog) w m 3 .i64 .i64 x y Try.underlying3
    simp [Op.eqFields, part, Try.isAgg3, h1]
    by_cases h2 : a = c <;> by_cases h3 : b = d <;> simp [h2, h3]
  exact key 9998
theorem eq_layer (a b c a' b' c' : Int) (h h' : Bool) : ∀ w, (Op.equalIn 10000 75 (.agg [.int .i64 a, .int .i64 b, .int .i64 c, .bool h].toArray) (.agg [.int .i64 a', .int .i64 b', .int .i64 c', .bool h'].toArray)).run Try.prog w = .ok (decide (a = a' ∧ b = b' ∧ c = c' ∧ h = h')) w := fun w => by
  have key : ∀ m : Nat, (Op.equalIn (m + 2) 75 (.agg [.int .i64 a, .int .i64 b, .int .i64 c, .bool h].toArray) (.agg [.int .i64 a', .int .i64 b', .int .i64 c', .bool h'].toArray)).run Try.prog w = .ok (decide (a = a' ∧ b = b' ∧ c = c' ∧ h = h')) w := fun m => by
    have hf := fieldsOf_of Try.underlying75
    rw [run_equalIn_agg (P := Try.prog) w (m + 1) _ _ _ (by rw [hf]; exact Try.underlying75) Try.stoodInHeld75, hf]
    have h1 := fun x y : Int => run_equalIn_int (P := Try.prog) w m 3 .i64 .i64 x y Try.underlying3
    have h2 := fun x y : Bool => run_equalIn_bool' (P := Try.prog) w m 4 x y Try.underlying4
    simp [Op.eqFields, part, Try.isAgg3, Try.isAgg4, h1, h2]
    by_cases e1 : a = a' <;> by_cases e2 : b = b' <;> by_cases e3 : c = c' <;> by_cases e4 : h = h' <;> simp [e1, e2, e3, e4]
  exact key 9998

abbrev seqSt (H : Hp) (a : Option Addr) (n c : Nat) (a' : Option Addr) (n' c' : Nat) (i : Nat) : Sta := ⟨26, [(0, .slice a n c), (1, .slice a' n' c'), (4, .bool false), (11, .slice a n c), (12, .int .i64 n), (13, .int .i64 i)], H, [], [], []⟩

set_option maxRecDepth 100000 in
theorem sEqualPrp_fn {H : Hp} {a : Option Addr} {n cq : Nat} {a' : Option Addr} {n' cq' : Nat} {l l' : List Prp} (hx : HRow H a n cq 2 (l.map prow)) (hx' : HRow H a' n' cq' 2 (l'.map prow)) (hm : n < 68719476736) : FnP Try.prog 52 [.slice a n cq, .slice a' n' cq'] H (.bool (decide (l = l'))) := by
  have e1 : l.length = n := by have := hx.len; simpa using this
  have e2 : l'.length = n' := by have := hx'.len; simpa using this
  have no : ∀ {q : Prop}, ¬ q → (l = l' → q) → decide (l = l') = false := fun hq hh => decide_eq_false fun e => hq (hh e)
  refine Fn_of _ _ Try.func52 rfl Try.ntmps52 rfl fun c => ?_
  repeat' (first | refine O_nil ?_ | refine A_seq ?_ | refine A_region ?_ | refine A_skip ?_ | refine A_ret ?_ | refine A_block ?_ | (show opsA _ _ _ _ _ _ _; first | refine O_ev WideF.wide rfl (Ev_pure rfl) rfl rfl ?_ | (show opsA _ _ _ _ (⟨_, .call _, _, _, _, _⟩ :: _) _ _; refine O_ev WideF.wide rfl (Ev_llen rfl) rfl rfl ?_)) | (show wpA _ _ _ (.cond _ _ _) _ _ _ _; (refine A_if rfl (fun h => ?_) (fun h => ?_) <;> try (exfalso; omega))))
  · (refine End_p (Ret1 rfl rfl) ?_)
    rw [no (show ¬ n = n' by omega) (fun e => by subst e; omega)]
  · refine A_loopu (fun m s => ∃ i : Nat, m = n - i ∧ i ≤ n ∧ (∀ j, j < i → l[j]? = l'[j]?) ∧ s = seqSt H a n cq a' n' cq' i) ?_ ?_
    · exact Shift.to ⟨_, 0, rfl, by omega, fun j hj => absurd hj (by omega), rfl⟩ ⟨rfl, rfl, rfl, ⟨rfl, rfl, rfl, rfl, rfl, rfl, trivial⟩, Own.sub_nil _⟩
    · rintro m s ⟨i, rfl, hi, hall, rfl⟩
      by_cases hlt : i < n
      · obtain ⟨b, o, y, rfl, hyi, hc⟩ := hx.atm i hlt
        obtain ⟨b', o', y', rfl, hyi', hc'⟩ := hx'.atm i (by omega)
        have hxx : l = l' → y = y' := fun e => by subst e; rw [hyi] at hyi'; exact Option.some.inj hyi'
        repeat' (first | (refine A_drawi WideF.wide (.q 0 (.q 1 (.q 2 (.q 3 (.q 4 (.q 5 (.q 6 (.q 7 (.q 8 (.done [])))))))))) [] [] [] (by decide +kernel) (by decide) rfl ?_; simp only [Own.picks, Own.rget, List.cons_append, List.nil_append, List.append_nil]) | (refine D_ev rfl (Ev_neS rfl rfl Try.eqGuardType56 (eq_prop _ _ _ _)) rfl rfl ?_) | refine O_nil ?_ | refine A_seq ?_ | refine A_region ?_ | refine A_skip ?_ | refine A_ret ?_ | refine A_block ?_ | (show drJ _ _ _ _ _ _ _ (.q _ _) _; refine D_q rfl ?_) | (show drJ _ _ _ _ _ _ _ (.done _) _; refine D_done ?_; simp only [List.cons_append, List.nil_append]) | (show drQ _ _ _ _ _ _; first | refine D_ev rfl (Ev_pure rfl) rfl rfl ?_ | (show drQ _ _ _ ⟨_, .load _ _, _, _, _, _⟩ _ _; refine D_ev rfl (Ev_loadH rfl (by assumption) (by rfl)) rfl rfl ?_) | (show drQ _ _ _ ⟨_, .indexAddr _ _ _, _, _, _, _⟩ _ _; refine D_ev rfl (Ev_indexAddr rfl rfl (by omega) (by omega)) rfl rfl ?_)) | (show opsA _ _ _ _ _ _ _; first | refine O_ev WideF.wide rfl (Ev_pure rfl) rfl rfl ?_ | (show opsA _ _ _ _ (⟨_, .binOp _ _ _ _ _, _, _, _, _⟩ :: _) _ _; refine O_ev WideF.wide rfl (Ev_add rfl rfl (wi64 (by omega))) rfl rfl ?_)) | (show wpA _ _ _ (.cond _ _ _) _ _ _ _; (refine A_if rfl (fun h => ?_) (fun h => ?_) <;> try (exfalso; omega))))
        · (refine End_p (Ret1 rfl rfl) ?_)
          rw [no (by assumption) (fun e => by rw [hxx e]; simp)]
        · refine Shift.to ⟨_, ?_, i + 1, rfl, by omega, fun j hj => ?_, rfl⟩ ⟨rfl, rfl, rfl, ⟨rfl, rfl, rfl, rfl, rfl, rfl, trivial⟩, Own.sub_nil _⟩
          · omega
          · by_cases hji : j = i
            · subst hji
              rw [hyi, hyi']
              have hq := Decidable.not_not.1 (by assumption)
              cases y; cases y'; simp at hq ⊢; exact hq
            · exact hall j (by omega)
      · have hin : n = i := by omega
        subst hin
        have he2 : l = l' := list_ext (by omega) fun j hj => hall j (by omega)
        repeat' (first | refine O_nil ?_ | refine A_seq ?_ | refine A_region ?_ | refine A_ret ?_ | (show opsA _ _ _ _ _ _ _; refine O_ev WideF.wide rfl (Ev_pure rfl) rfl rfl ?_) | (show wpA _ _ _ (.exit _) _ _ _ _; refine A_exit rfl ?_) | (show wpA _ _ _ (.cond _ _ _) _ _ _ _; (refine A_if rfl (fun h => ?_) (fun h => ?_) <;> try (exfalso; omega))))
        (refine End_p (Ret1 rfl rfl) ?_)
        rw [decide_eq_true he2]

set_option maxRecDepth 100000 in
theorem sEqualDele_fn {H : Hp} {a : Option Addr} {n cq : Nat} {a' : Option Addr} {n' cq' : Nat} {l l' : List Dele} (hx : HRow H a n cq 2 (l.map drow)) (hx' : HRow H a' n' cq' 2 (l'.map drow)) (hm : n < 68719476736) : FnP Try.prog 53 [.slice a n cq, .slice a' n' cq'] H (.bool (decide (l = l'))) := by
  have e1 : l.length = n := by have := hx.len; simpa using this
  have e2 : l'.length = n' := by have := hx'.len; simpa using this
  have no : ∀ {q : Prop}, ¬ q → (l = l' → q) → decide (l = l') = false := fun hq hh => decide_eq_false fun e => hq (hh e)
  refine Fn_of _ _ Try.func53 rfl Try.ntmps53 rfl fun c => ?_
  repeat' (first | refine O_nil ?_ | refine A_seq ?_ | refine A_region ?_ | refine A_skip ?_ | refine A_ret ?_ | refine A_block ?_ | (show opsA _ _ _ _ _ _ _; first | refine O_ev WideF.wide rfl (Ev_pure rfl) rfl rfl ?_ | (show opsA _ _ _ _ (⟨_, .call _, _, _, _, _⟩ :: _) _ _; refine O_ev WideF.wide rfl (Ev_llen rfl) rfl rfl ?_)) | (show wpA _ _ _ (.cond _ _ _) _ _ _ _; (refine A_if rfl (fun h => ?_) (fun h => ?_) <;> try (exfalso; omega))))
  · (refine End_p (Ret1 rfl rfl) ?_)
    rw [no (show ¬ n = n' by omega) (fun e => by subst e; omega)]
  · refine A_loopu (fun m s => ∃ i : Nat, m = n - i ∧ i ≤ n ∧ (∀ j, j < i → l[j]? = l'[j]?) ∧ s = seqSt H a n cq a' n' cq' i) ?_ ?_
    · exact Shift.to ⟨_, 0, rfl, by omega, fun j hj => absurd hj (by omega), rfl⟩ ⟨rfl, rfl, rfl, ⟨rfl, rfl, rfl, rfl, rfl, rfl, trivial⟩, Own.sub_nil _⟩
    · rintro m s ⟨i, rfl, hi, hall, rfl⟩
      by_cases hlt : i < n
      · obtain ⟨b, o, y, rfl, hyi, hc⟩ := hx.atm i hlt
        obtain ⟨b', o', y', rfl, hyi', hc'⟩ := hx'.atm i (by omega)
        have hxx : l = l' → y = y' := fun e => by subst e; rw [hyi] at hyi'; exact Option.some.inj hyi'
        repeat' (first | (refine A_drawi WideF.wide (.q 0 (.q 1 (.q 2 (.q 3 (.q 4 (.q 5 (.q 6 (.q 7 (.q 8 (.done [])))))))))) [] [] [] (by decide +kernel) (by decide) rfl ?_; simp only [Own.picks, Own.rget, List.cons_append, List.nil_append, List.append_nil]) | (refine D_ev rfl (Ev_neS rfl rfl Try.eqGuardType54 (eq_del _ _ _ _)) rfl rfl ?_) | refine O_nil ?_ | refine A_seq ?_ | refine A_region ?_ | refine A_skip ?_ | refine A_ret ?_ | refine A_block ?_ | (show drJ _ _ _ _ _ _ _ (.q _ _) _; refine D_q rfl ?_) | (show drJ _ _ _ _ _ _ _ (.done _) _; refine D_done ?_; simp only [List.cons_append, List.nil_append]) | (show drQ _ _ _ _ _ _; first | refine D_ev rfl (Ev_pure rfl) rfl rfl ?_ | (show drQ _ _ _ ⟨_, .load _ _, _, _, _, _⟩ _ _; refine D_ev rfl (Ev_loadH rfl (by assumption) (by rfl)) rfl rfl ?_) | (show drQ _ _ _ ⟨_, .indexAddr _ _ _, _, _, _, _⟩ _ _; refine D_ev rfl (Ev_indexAddr rfl rfl (by omega) (by omega)) rfl rfl ?_)) | (show opsA _ _ _ _ _ _ _; first | refine O_ev WideF.wide rfl (Ev_pure rfl) rfl rfl ?_ | (show opsA _ _ _ _ (⟨_, .binOp _ _ _ _ _, _, _, _, _⟩ :: _) _ _; refine O_ev WideF.wide rfl (Ev_add rfl rfl (wi64 (by omega))) rfl rfl ?_)) | (show wpA _ _ _ (.cond _ _ _) _ _ _ _; (refine A_if rfl (fun h => ?_) (fun h => ?_) <;> try (exfalso; omega))))
        · (refine End_p (Ret1 rfl rfl) ?_)
          rw [no (by assumption) (fun e => by rw [hxx e]; simp)]
        · refine Shift.to ⟨_, ?_, i + 1, rfl, by omega, fun j hj => ?_, rfl⟩ ⟨rfl, rfl, rfl, ⟨rfl, rfl, rfl, rfl, rfl, rfl, trivial⟩, Own.sub_nil _⟩
          · omega
          · by_cases hji : j = i
            · subst hji
              rw [hyi, hyi']
              have hq := Decidable.not_not.1 (by assumption)
              cases y; cases y'; simp at hq ⊢; exact hq
            · exact hall j (by omega)
      · have hin : n = i := by omega
        subst hin
        have he2 : l = l' := list_ext (by omega) fun j hj => hall j (by omega)
        repeat' (first | refine O_nil ?_ | refine A_seq ?_ | refine A_region ?_ | refine A_ret ?_ | (show opsA _ _ _ _ _ _ _; refine O_ev WideF.wide rfl (Ev_pure rfl) rfl rfl ?_) | (show wpA _ _ _ (.exit _) _ _ _ _; refine A_exit rfl ?_) | (show wpA _ _ _ (.cond _ _ _) _ _ _ _; (refine A_if rfl (fun h => ?_) (fun h => ?_) <;> try (exfalso; omega))))
        (refine End_p (Ret1 rfl rfl) ?_)
        rw [decide_eq_true he2]

set_option maxRecDepth 100000 in
theorem sEqualLayr_fn {H : Hp} {a : Option Addr} {n cq : Nat} {a' : Option Addr} {n' cq' : Nat} {l l' : List Layr} (hx : HRow H a n cq 4 (l.map lrow)) (hx' : HRow H a' n' cq' 4 (l'.map lrow)) (hm : n < 68719476736) : FnP Try.prog 54 [.slice a n cq, .slice a' n' cq'] H (.bool (decide (l = l'))) := by
  have e1 : l.length = n := by have := hx.len; simpa using this
  have e2 : l'.length = n' := by have := hx'.len; simpa using this
  have no : ∀ {q : Prop}, ¬ q → (l = l' → q) → decide (l = l') = false := fun hq hh => decide_eq_false fun e => hq (hh e)
  refine Fn_of _ _ Try.func54 rfl Try.ntmps54 rfl fun c => ?_
  repeat' (first | refine O_nil ?_ | refine A_seq ?_ | refine A_region ?_ | refine A_skip ?_ | refine A_ret ?_ | refine A_block ?_ | (show opsA _ _ _ _ _ _ _; first | refine O_ev WideF.wide rfl (Ev_pure rfl) rfl rfl ?_ | (show opsA _ _ _ _ (⟨_, .call _, _, _, _, _⟩ :: _) _ _; refine O_ev WideF.wide rfl (Ev_llen rfl) rfl rfl ?_)) | (show wpA _ _ _ (.cond _ _ _) _ _ _ _; (refine A_if rfl (fun h => ?_) (fun h => ?_) <;> try (exfalso; omega))))
  · (refine End_p (Ret1 rfl rfl) ?_)
    rw [no (show ¬ n = n' by omega) (fun e => by subst e; omega)]
  · refine A_loopu (fun m s => ∃ i : Nat, m = n - i ∧ i ≤ n ∧ (∀ j, j < i → l[j]? = l'[j]?) ∧ s = seqSt H a n cq a' n' cq' i) ?_ ?_
    · exact Shift.to ⟨_, 0, rfl, by omega, fun j hj => absurd hj (by omega), rfl⟩ ⟨rfl, rfl, rfl, ⟨rfl, rfl, rfl, rfl, rfl, rfl, trivial⟩, Own.sub_nil _⟩
    · rintro m s ⟨i, rfl, hi, hall, rfl⟩
      by_cases hlt : i < n
      · obtain ⟨b, o, y, rfl, hyi, hc⟩ := hx.atm i hlt
        obtain ⟨b', o', y', rfl, hyi', hc'⟩ := hx'.atm i (by omega)
        have hxx : l = l' → y = y' := fun e => by subst e; rw [hyi] at hyi'; exact Option.some.inj hyi'
        repeat' (first | (refine A_drawi WideF.wide (.q 0 (.q 1 (.q 2 (.q 3 (.q 4 (.q 5 (.q 6 (.q 7 (.q 8 (.done [])))))))))) [] [] [] (by decide +kernel) (by decide) rfl ?_; simp only [Own.picks, Own.rget, List.cons_append, List.nil_append, List.append_nil]) | (refine D_ev rfl (Ev_neS rfl rfl Try.eqGuardType75 (eq_layer _ _ _ _ _ _ _ _)) rfl rfl ?_) | refine O_nil ?_ | refine A_seq ?_ | refine A_region ?_ | refine A_skip ?_ | refine A_ret ?_ | refine A_block ?_ | (show drJ _ _ _ _ _ _ _ (.q _ _) _; refine D_q rfl ?_) | (show drJ _ _ _ _ _ _ _ (.done _) _; refine D_done ?_; simp only [List.cons_append, List.nil_append]) | (show drQ _ _ _ _ _ _; first | refine D_ev rfl (Ev_pure rfl) rfl rfl ?_ | (show drQ _ _ _ ⟨_, .load _ _, _, _, _, _⟩ _ _; refine D_ev rfl (Ev_loadH rfl (by assumption) (by rfl)) rfl rfl ?_) | (show drQ _ _ _ ⟨_, .indexAddr _ _ _, _, _, _, _⟩ _ _; refine D_ev rfl (Ev_indexAddr rfl rfl (by omega) (by omega)) rfl rfl ?_)) | (show opsA _ _ _ _ _ _ _; first | refine O_ev WideF.wide rfl (Ev_pure rfl) rfl rfl ?_ | (show opsA _ _ _ _ (⟨_, .binOp _ _ _ _ _, _, _, _, _⟩ :: _) _ _; refine O_ev WideF.wide rfl (Ev_add rfl rfl (wi64 (by omega))) rfl rfl ?_)) | (show wpA _ _ _ (.cond _ _ _) _ _ _ _; (refine A_if rfl (fun h => ?_) (fun h => ?_) <;> try (exfalso; omega))))
        · (refine End_p (Ret1 rfl rfl) ?_)
          rw [no (by assumption) (fun e => by rw [hxx e]; simp)]
        · refine Shift.to ⟨_, ?_, i + 1, rfl, by omega, fun j hj => ?_, rfl⟩ ⟨rfl, rfl, rfl, ⟨rfl, rfl, rfl, rfl, rfl, rfl, trivial⟩, Own.sub_nil _⟩
          · omega
          · by_cases hji : j = i
            · subst hji
              rw [hyi, hyi']
              have hq := Decidable.not_not.1 (by assumption)
              cases y; cases y'; simp at hq ⊢; exact hq
            · exact hall j (by omega)
      · have hin : n = i := by omega
        subst hin
        have he2 : l = l' := list_ext (by omega) fun j hj => hall j (by omega)
        repeat' (first | refine O_nil ?_ | refine A_seq ?_ | refine A_region ?_ | refine A_ret ?_ | (show opsA _ _ _ _ _ _ _; refine O_ev WideF.wide rfl (Ev_pure rfl) rfl rfl ?_) | (show wpA _ _ _ (.exit _) _ _ _ _; refine A_exit rfl ?_) | (show wpA _ _ _ (.cond _ _ _) _ _ _ _; (refine A_if rfl (fun h => ?_) (fun h => ?_) <;> try (exfalso; omega))))
        (refine End_p (Ret1 rfl rfl) ?_)
        rw [decide_eq_true he2]

theorem Head.ext_iff' (x y : Head) : x = y ↔ x.props = y.props ∧ x.ins = y.ins ∧ x.move = y.move ∧ x.dels = y.dels ∧ x.layers = y.layers := by
  cases x; cases y; simp
set_option maxRecDepth 100000 in
theorem EqualHead_fn {H : Hp} {cs cs' : List Value} {g g' : Head} (hx : HeadH H cs g) (hx' : HeadH H cs' g') (hm : g.mass < 68719476736) : FnP Try.prog 18 [.agg cs.toArray, .agg cs'.toArray] H (.bool (decide (g = g'))) := by
  obtain ⟨pa, pn, pc, da, dn, dc, la, ln, lc, rfl, hp, hd, hl⟩ := hx.ex
  obtain ⟨pa', pn', pc', da', dn', dc', la', ln', lc', rfl, hp', hd', hl'⟩ := hx'.ex
  have e1 : g.props.length = pn := by have := hp.len; simpa using this
  have e2 : g.dels.length = dn := by have := hd.len; simpa using this
  have e3 : g.layers.length = ln := by have := hl.len; simpa using this
  have hmm : g.mass = pn + dn + ln := by rw [← e1, ← e2, ← e3]; rfl
  have f1 := sEqualPrp_fn hp hp' (by omega)
  have f2 := sEqualDele_fn hd hd' (by omega)
  have f3 := sEqualLayr_fn hl hl' (by omega)
  refine Fn_of _ _ Try.func18 rfl Try.ntmps18 rfl fun c => ?_
  repeat' (first | (refine O_ef rfl (Ef_callp WideF.wide f1 ⟨rfl, rfl, trivial⟩ rfl ?_)) | (refine O_ef rfl (Ef_callp WideF.wide f2 ⟨rfl, rfl, trivial⟩ rfl ?_)) | (refine O_ef rfl (Ef_callp WideF.wide f3 ⟨rfl, rfl, trivial⟩ rfl ?_)) | refine O_nil ?_ | refine A_seq ?_ | refine A_region ?_ | refine A_ret ?_ | (show opsA _ _ _ _ _ _ _; first | (refine O_split rfl rfl (fun h => ?_) (fun h => ?_) <;> try (exfalso; omega)) | refine O_ev WideF.wide rfl (Ev_pure rfl) rfl rfl ?_ | (show opsA _ _ _ _ (⟨_, .load _ _, _, _, _, _⟩ :: _) _ _; first | refine O_ev WideF.wide rfl (Ev_loadB1 (i := 0) rfl rfl rfl) rfl rfl ?_ | refine O_ev WideF.wide rfl (Ev_loadB1 (i := 1) rfl rfl rfl) rfl rfl ?_) | (show opsA _ _ _ _ (⟨_, .fieldAddr _ _ _, _, _, _, _⟩ :: _) _ _; refine O_ev WideF.wide rfl (Ev_fieldAddr rfl rfl rfl) rfl rfl ?_) | (show opsA _ _ _ _ (⟨_, .box _ _, _, _, _, _⟩ :: _) _ _; (refine O_ef rfl (Ef_boxa WideF.wide rfl rfl ?_); intro b)) | refine O_skip WideF.wide rfl rfl rfl ?_))
  all_goals ((refine End_p (Ret1 rfl rfl) ?_); refine congrArg Value.bool ?_; rw [Bool.eq_iff_iff]; simp [Head.ext_iff' g g', *])
set_option maxRecDepth 100000 in
theorem CloneProp_fn {H : Hp} {a : Option Addr} {n cp : Nat} {css : List (List Value)} (hr : HRow H a n cp 2 css) (hl : n < 68719476736) : Fn Try.prog 83 [.slice a n cp] H [] fun v H' I' => H' = H ∧ ∃ a' c', v = .slice a' n c' ∧ I' = [.row v 2 css] := by
  have hn := hr.len
  cases a with
  | none =>
    obtain ⟨rfl, rfl⟩ := hr.nil rfl
    have hcss : css = [] := List.eq_nil_of_length_eq_zero hn
    subst hcss
    refine Fn_of _ _ Try.func83 rfl Try.ntmps83 rfl fun c => ?_
    refine A_nilrow 2 ?_
    repeat' (first | (refine O_ev WideF.wide rfl (Ev_eqnil rfl rfl) rfl rfl ?_) | refine O_nil ?_ | refine A_seq ?_ | refine A_region ?_ | refine A_ret ?_ | (show opsA _ _ _ _ _ _ _; refine O_ev WideF.wide rfl (Ev_pure rfl) rfl rfl ?_) | (show wpA _ _ _ (.cond _ _ _) _ _ _ _; refine A_iftrue rfl ?_))
    exact End_m (Ret1 rfl rfl) ⟨rfl, none, 0, rfl, rfl⟩
  | some ad =>
    refine Fn_of _ _ Try.func83 rfl Try.ntmps83 rfl fun c => ?_
    repeat' (first | (refine O_ev WideF.wide rfl (Ev_eqnil rfl rfl) rfl rfl ?_) | (refine O_ef rfl (Ef_build0 WideF.wide rfl ?_); intro b) | (refine O_ef rfl (Ef_appendH WideF.wide rfl rfl hr rfl rfl (by simp; omega) (by simp; omega) rfl ?_); intro a' c') | refine O_nil ?_ | refine A_seq ?_ | refine A_region ?_ | refine A_skip ?_ | refine A_ret ?_ | (show opsA _ _ _ _ _ _ _; refine O_ev WideF.wide rfl (Ev_pure rfl) rfl rfl ?_) | (show wpA _ _ _ (.cond _ _ _) _ _ _ _; refine A_iffalse rfl ?_))
    exact End_m (Ret1 rfl rfl) ⟨rfl, a', c', by simp [hn], by simp⟩
set_option maxRecDepth 100000 in
theorem CloneDel_fn {H : Hp} {a : Option Addr} {n cp : Nat} {css : List (List Value)} (hr : HRow H a n cp 2 css) (hl : n < 68719476736) : Fn Try.prog 86 [.slice a n cp] H [] fun v H' I' => H' = H ∧ ∃ a' c', v = .slice a' n c' ∧ I' = [.row v 2 css] := by
  have hn := hr.len
  cases a with
  | none =>
    obtain ⟨rfl, rfl⟩ := hr.nil rfl
    have hcss : css = [] := List.eq_nil_of_length_eq_zero hn
    subst hcss
    refine Fn_of _ _ Try.func86 rfl Try.ntmps86 rfl fun c => ?_
    refine A_nilrow 2 ?_
    repeat' (first | (refine O_ev WideF.wide rfl (Ev_eqnil rfl rfl) rfl rfl ?_) | refine O_nil ?_ | refine A_seq ?_ | refine A_region ?_ | refine A_ret ?_ | (show opsA _ _ _ _ _ _ _; refine O_ev WideF.wide rfl (Ev_pure rfl) rfl rfl ?_) | (show wpA _ _ _ (.cond _ _ _) _ _ _ _; refine A_iftrue rfl ?_))
    exact End_m (Ret1 rfl rfl) ⟨rfl, none, 0, rfl, rfl⟩
  | some ad =>
    refine Fn_of _ _ Try.func86 rfl Try.ntmps86 rfl fun c => ?_
    repeat' (first | (refine O_ev WideF.wide rfl (Ev_eqnil rfl rfl) rfl rfl ?_) | (refine O_ef rfl (Ef_build0 WideF.wide rfl ?_); intro b) | (refine O_ef rfl (Ef_appendH WideF.wide rfl rfl hr rfl rfl (by simp; omega) (by simp; omega) rfl ?_); intro a' c') | refine O_nil ?_ | refine A_seq ?_ | refine A_region ?_ | refine A_skip ?_ | refine A_ret ?_ | (show opsA _ _ _ _ _ _ _; refine O_ev WideF.wide rfl (Ev_pure rfl) rfl rfl ?_) | (show wpA _ _ _ (.cond _ _ _) _ _ _ _; refine A_iffalse rfl ?_))
    exact End_m (Ret1 rfl rfl) ⟨rfl, a', c', by simp [hn], by simp⟩
set_option maxRecDepth 100000 in
theorem CloneLayer_fn {H : Hp} {a : Option Addr} {n cp : Nat} {css : List (List Value)} (hr : HRow H a n cp 4 css) (hl : n < 68719476736) : Fn Try.prog 87 [.slice a n cp] H [] fun v H' I' => H' = H ∧ ∃ a' c', v = .slice a' n c' ∧ I' = [.row v 4 css] := by
  have hn := hr.len
  cases a with
  | none =>
    obtain ⟨rfl, rfl⟩ := hr.nil rfl
    have hcss : css = [] := List.eq_nil_of_length_eq_zero hn
    subst hcss
    refine Fn_of _ _ Try.func87 rfl Try.ntmps87 rfl fun c => ?_
    refine A_nilrow 4 ?_
    repeat' (first | (refine O_ev WideF.wide rfl (Ev_eqnil rfl rfl) rfl rfl ?_) | refine O_nil ?_ | refine A_seq ?_ | refine A_region ?_ | refine A_ret ?_ | (show opsA _ _ _ _ _ _ _; refine O_ev WideF.wide rfl (Ev_pure rfl) rfl rfl ?_) | (show wpA _ _ _ (.cond _ _ _) _ _ _ _; refine A_iftrue rfl ?_))
    exact End_m (Ret1 rfl rfl) ⟨rfl, none, 0, rfl, rfl⟩
  | some ad =>
    refine Fn_of _ _ Try.func87 rfl Try.ntmps87 rfl fun c => ?_
    repeat' (first | (refine O_ev WideF.wide rfl (Ev_eqnil rfl rfl) rfl rfl ?_) | (refine O_ef rfl (Ef_build0 WideF.wide rfl ?_); intro b) | (refine O_ef rfl (Ef_appendH WideF.wide rfl rfl hr rfl rfl (by simp; omega) (by simp; omega) rfl ?_); intro a' c') | refine O_nil ?_ | refine A_seq ?_ | refine A_region ?_ | refine A_skip ?_ | refine A_ret ?_ | (show opsA _ _ _ _ _ _ _; refine O_ev WideF.wide rfl (Ev_pure rfl) rfl rfl ?_) | (show wpA _ _ _ (.cond _ _ _) _ _ _ _; refine A_iffalse rfl ?_))
    exact End_m (Ret1 rfl rfl) ⟨rfl, a', c', by simp [hn], by simp⟩

set_option maxRecDepth 100000 in
/-- the head's three rows are its own -/
theorem CloneHead_own {H : Hp} {hcs : List Value} {h : Head} (hh : HeadH H hcs h) (hl : h.mass < 68719476736) : Fn Try.prog 61 [.agg hcs.toArray] H [] fun v H' I' => H' = H ∧
    ∃ pa pn pc da dn dc la ln lc, v = .agg [.slice pa pn pc, .int .i64 h.ins, .int .i64 h.move, .slice da dn dc, .slice la ln lc].toArray ∧
      I' = [.row (.slice pa pn pc) 2 (h.props.map prow), .row (.slice da dn dc) 2 (h.dels.map drow), .row (.slice la ln lc) 4 (h.layers.map lrow)] := by
  obtain ⟨pa, pn, pc, da, dn, dc, la, ln, lc, rfl, h1, h2, h3⟩ := hh.ex
  have l1 := h1.len
  have l2 := h2.len
  have l3 := h3.len
  simp only [List.length_map] at l1 l2 l3
  unfold Head.mass at hl
  have c1 := CloneProp_fn h1 (by omega)
  have c2 := CloneDel_fn h2 (by omega)
  have c3 := CloneLayer_fn h3 (by omega)
  refine Fn_of _ _ Try.func61 rfl Try.ntmps61 rfl fun c => ?_
  repeat' (first | (refine O_ef rfl (Ef_call (I := []) WideF.wide c1 ⟨rfl, trivial⟩ rfl ?_); rintro v H1 I1 hle1 ⟨rfl, pa', pc', rfl, rfl⟩) | refine O_nil ?_ | refine A_seq ?_ | refine A_region ?_ | (show opsA _ _ _ _ _ _ _; first | (show opsA _ _ _ _ (⟨_, .load _ _, _, _, _, _⟩ :: _) _ _; refine O_ev WideF.wide rfl (Ev_loadB1 (i := 1) rfl rfl rfl) rfl rfl ?_) | (show opsA _ _ _ _ (⟨_, .fieldAddr _ _ _, _, _, _, _⟩ :: _) _ _; refine O_ev WideF.wide rfl (Ev_fieldAddr rfl rfl rfl) rfl rfl ?_) | (show opsA _ _ _ _ (⟨_, .alloc _, _, _, _, _⟩ :: _) _ _; (refine O_ef rfl (Ef_alloc WideF.wide rfl ?_); intro b)) | (show opsA _ _ _ _ (⟨_, .box _ _, _, _, _, _⟩ :: _) _ _; (refine O_ef rfl (Ef_boxa WideF.wide rfl rfl ?_); intro b)) | (show opsA _ _ _ _ (⟨_, .store _ _ _, _, _, _, _⟩ :: _) _ _; refine O_f2 (O_ef rfl (Ef_store1 WideF.wide rfl rfl rfl rfl rfl ?_)))))
  (refine A_drawi WideF.wide (.q 0 (.q 1 (.q 2 (.q 4 (.q 5 (.q 6 (.e 3 (.r (.q 8 (.q 9 (.e 7 (.e 10 (.q 11 (.q 12 (.e 13 (.done [])))))))))))))))) [7, 8, 9, 10, 11, 12, 13] [1, 2] [0] (by decide +kernel) (by decide) rfl ?_; simp only [Own.picks, Own.rget, List.cons_append, List.nil_append, List.append_nil])
  repeat' (first | (refine E_ef rfl (Ef_call (I := []) WideF.wide c2 ⟨rfl, trivial⟩ rfl ?_); rintro v H2 I2 hle2 ⟨rfl, da', dc', rfl, rfl⟩; refine ⟨Grow.same rfl rfl, ?_⟩) | (refine E_ef rfl (Ef_call (I := []) WideF.wide c3 ⟨rfl, trivial⟩ rfl ?_); rintro v H3 I3 hle3 ⟨rfl, la', lc', rfl, rfl⟩; refine ⟨Grow.same rfl rfl, ?_⟩) | refine O_nil ?_ | refine A_seq ?_ | refine A_region ?_ | refine A_ret ?_ | (show drJ _ _ _ _ _ _ _ (.q _ _) _; refine D_q rfl ?_) | (show drJ _ _ _ _ _ _ _ (.e _ _) _; refine D_e rfl ?_) | (show drJ _ _ _ _ _ _ _ (.r _) _; refine D_r ?_; simp only [List.cons_append, List.nil_append]) | (show drJ _ _ _ _ _ _ _ (.done _) _; refine D_done ?_; simp only [List.cons_append, List.nil_append]) | (show drQ _ _ _ _ _ _; first | (show drQ _ _ _ ⟨_, .load _ _, _, _, _, _⟩ _ _; refine D_ev rfl (Ev_loadB1 (i := 0) rfl rfl rfl) rfl rfl ?_) | (show drQ _ _ _ ⟨_, .fieldAddr _ _ _, _, _, _, _⟩ _ _; refine D_ev rfl (Ev_fieldAddr rfl rfl rfl) rfl rfl ?_)) | (show drE _ _ _ _ _ _ _; (show drE _ _ _ _ ⟨_, .store _ _ _, _, _, _, _⟩ _ _; first | (refine E_ef rfl (Ef_store1 WideF.wide rfl rfl rfl rfl rfl ?_); refine ⟨Grow.same rfl rfl, ?_⟩) | (refine E_ef rfl (Ef_f4 (Ef_store1 WideF.wide rfl rfl rfl rfl rfl ?_)); refine ⟨Grow.same rfl rfl, ?_⟩))) | (show opsA _ _ _ _ _ _ _; first | (show opsA _ _ _ _ (⟨_, .load _ _, _, _, _, _⟩ :: _) _ _; refine O_ev WideF.wide rfl (Ev_loadB (i := 0) rfl rfl rfl) rfl rfl ?_) | (show opsA _ _ _ _ (⟨_, .store _ _ _, _, _, _, _⟩ :: _) _ _; refine O_f4 (O_ef rfl (Ef_storew WideF.wide rfl rfl rfl rfl rfl ?_)))))
  refine End_s (RetC rfl rfl (i := 0) rfl rfl) ?_
  refine Shift.lek ⟨20, [], _, [.row (.slice pa' pn pc') 2 (h.props.map prow), .row (.slice da' dn dc') 2 (h.dels.map drow), .row (.slice la' ln lc') 4 (h.layers.map lrow)], [], []⟩ ⟨rfl, rfl, rfl, trivial, Own.subi [4, 3, 2] (by decide) rfl rfl⟩ ?_
  exact Shift.pure ⟨rfl, rfl, pa', pn, pc', da', dn, dc', la', ln, lc', rfl, rfl⟩
theorem CloneHead_fn {H : Hp} {hcs : List Value} {h : Head} (hh : HeadH H hcs h) (hl : h.mass < 68719476736) : Fn Try.prog 61 [.agg hcs.toArray] H [] fun v H' I' => (∃ pa pn pc da dn dc la ln lc, v = .agg [.slice pa pn pc, .int .i64 h.ins, .int .i64 h.move, .slice da dn dc, .slice la ln lc].toArray ∧
    HRow H' pa pn pc 2 (h.props.map prow) ∧ HRow H' da dn dc 2 (h.dels.map drow) ∧ HRow H' la ln lc 4 (h.layers.map lrow)) ∧ I' = [] := by
  refine (CloneHead_own hh hl).shift ?_
  rintro c w v H' I' hw ⟨rfl, pa, pn, pc, da, dn, dc, la, ln, lc, rfl, rfl⟩
  obtain ⟨H1, hle1, hr1, hw1⟩ := hw.freeze (prow_one _)
  obtain ⟨H2, hle2, hr2, hw2⟩ := hw1.freeze (drow_one _)
  obtain ⟨H3, hle3, hr3, hw3⟩ := hw2.freeze (lrow_one _)
  exact ⟨H3, [], hw3, ⟨pa, pn, pc, da, dn, dc, la, ln, lc, rfl, hr1.mono (hle2.trans hle3), hr2.mono hle3, hr3⟩, rfl⟩
end Go.Proofs.Ythniohgeojenaaa
