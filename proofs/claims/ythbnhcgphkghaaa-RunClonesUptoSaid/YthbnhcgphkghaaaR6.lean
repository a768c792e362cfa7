/-
  The reference's comparisons.
-/
import Derived.Test.YthbnhcgphkghaaaR5
namespace Go.Proofs.Ythbnhcgphkghaaa
open Go
set_option linter.unusedVariables false
set_option linter.unusedSimpArgs false
attribute [local irreducible] wpA opsA drJ drQ drE Ef Ev Shift Fn

theorem eq_prop (a b c d : Int) : ∀ w, (Op.equalIn 10000 70 (.agg [.int .i64 a, .int .i64 b].toArray) (.agg [.int .i64 c, .int .i64 d].toArray)).run Try.prog w = .ok (decide (a = c ∧ b = d)) w := fun w => by
  have key : ∀ m : Nat, (Op.equalIn (m + 2) 70 (.agg [.int .i64 a, .int .i64 b].toArray) (.agg [.int .i64 c, .int .i64 d].toArray)).run Try.prog w = .ok (decide (a = c ∧ b = d)) w := fun m => by
    have hf := fieldsOf_of Try.underlying70
    rw [run_equalIn_agg (P := Try.prog) w (m + 1) _ _ _ (by rw [hf]; exact Try.underlying70) Try.stoodInHeld70, hf]
    have h1 := fun x y : Int => run_equalIn_int (P := Try.prog) w m 3 .i64 .i64 x y Try.underlying3
    simp [Op.eqFields, part, Try.isAgg3, h1]
    by_cases h2 : a = c <;> by_cases h3 : b = d <;> simp [h2, h3]
  exact key 9998
theorem eq_del (a b c d : Int) : ∀ w, (Op.equalIn 10000 72 (.agg [.int .i64 a, .int .i64 b].toArray) (.agg [.int .i64 c, .int .i64 d].toArray)).run Try.prog w = .ok (decide (a = c ∧ b = d)) w := fun w => by
  have key : ∀ m : Nat, (Op.equalIn (m + 2) 72 (.agg [.int .i64 a, .int .i64 b].toArray) (.agg [.int .i64 c, .int .i64 d].toArray)).run Try.prog w = .ok (decide (a = c ∧ b = d)) w := fun m => by
    have hf := fieldsOf_of Try.underlying72
    rw [run_equalIn_agg (P := Try.prog) w (m + 1) _ _ _ (by rw [hf]; exact Try.underlying72) Try.stoodInHeld72, hf]
    have h1 := fun x y : Int => run_equalIn_int (P := Try.prog) w m 3 .i64 .i64 x y Try.underlying3
    simp [Op.eqFields, part, Try.isAgg3, h1]
    by_cases h2 : a = c <;> by_cases h3 : b = d <;> simp [h2, h3]
  exact key 9998
theorem eq_layer (a b c a' b' c' : Int) (h h' : Bool) : ∀ w, (Op.equalIn 10000 104 (.agg [.int .i64 a, .int .i64 b, .int .i64 c, .bool h].toArray) (.agg [.int .i64 a', .int .i64 b', .int .i64 c', .bool h'].toArray)).run Try.prog w = .ok (decide (a = a' ∧ b = b' ∧ c = c' ∧ h = h')) w := fun w => by
  have key : ∀ m : Nat, (Op.equalIn (m + 2) 104 (.agg [.int .i64 a, .int .i64 b, .int .i64 c, .bool h].toArray) (.agg [.int .i64 a', .int .i64 b', .int .i64 c', .bool h'].toArray)).run Try.prog w = .ok (decide (a = a' ∧ b = b' ∧ c = c' ∧ h = h')) w := fun m => by
    have hf := fieldsOf_of Try.underlying104
    rw [run_equalIn_agg (P := Try.prog) w (m + 1) _ _ _ (by rw [hf]; exact Try.underlying104) Try.stoodInHeld104, hf]
    have h1 := fun x y : Int => run_equalIn_int (P := Try.prog) w m 3 .i64 .i64 x y Try.underlying3
    have h2 := fun x y : Bool => run_equalIn_bool' (P := Try.prog) w m 4 x y Try.underlying4
    simp [Op.eqFields, part, Try.isAgg3, Try.isAgg4, h1, h2]
    by_cases e1 : a = a' <;> by_cases e2 : b = b' <;> by_cases e3 : c = c' <;> by_cases e4 : h = h' <;> simp [e1, e2, e3, e4]
  exact key 9998

theorem list_ext {α : Type} {l l' : List α} (hl : l.length = l'.length) (h : ∀ j, j < l.length → l[j]? = l'[j]?) : l = l' := by
  apply List.ext_getElem?
  intro j
  by_cases hj : j < l.length
  · exact h j hj
  · rw [List.getElem?_eq_none (by omega), List.getElem?_eq_none (by omega)]
/-- the element of a row of data at a place -/
theorem HRow.atm {H : Hp} {α : Type} {f : α → List Value} {l : List α} {a : Option Addr} {n c k : Nat} (h : HRow H a n c k (l.map f)) (i : Nat) (hi : i < n) :
    ∃ b o x, a = some ⟨b, o, none⟩ ∧ l[i]? = some x ∧ HCells H b (o + i * k) (f x) := by
  obtain ⟨b, o, cs, ha, hcs, _, hc⟩ := h.at i hi
  rw [List.getElem?_map] at hcs
  obtain ⟨x, hx, rfl⟩ := Option.map_eq_some_iff.1 hcs
  exact ⟨b, o, x, ha, hx, hc⟩
abbrev eqhSt (H : Hp) (cs cs' m m' : List Value) (b2 b3 b5 b6 : Nat) (e : Env) : Sta := ⟨107, [(2, .pointer (some ⟨b2, 0, none⟩)), (3, .pointer (some ⟨b3, 0, none⟩)), (4, .bool false), (5, .pointer (some ⟨b5, 0, none⟩)), (6, .pointer (some ⟨b6, 0, none⟩))] ++ e, H, [.box b2 cs, .box b3 cs', .box b5 m, .box b6 m'], [], []⟩
set_option maxRecDepth 100000 in
set_option maxHeartbeats 2000000 in
theorem rEqualHead_fn {H : Hp} {cs cs' : List Value} {g g' : Head} (hx : HeadH H cs g) (hx' : HeadH H cs' g') (hm : g.mass < 68719476736) : FnP Try.prog 27 [.agg cs.toArray, .agg cs'.toArray] H (.bool (decide (g = g'))) := by
  obtain ⟨pa, pn, pc, da, dn, dc, la, ln, lc, rfl, hp, hd, hl⟩ := hx.ex
  obtain ⟨pa', pn', pc', da', dn', dc', la', ln', lc', rfl, hp', hd', hl'⟩ := hx'.ex
  have e1 : g.props.length = pn := by have := hp.len; simpa using this
  have e2 : g.dels.length = dn := by have := hd.len; simpa using this
  have e3 : g.layers.length = ln := by have := hl.len; simpa using this
  have e1' : g'.props.length = pn' := by have := hp'.len; simpa using this
  have e2' : g'.dels.length = dn' := by have := hd'.len; simpa using this
  have e3' : g'.layers.length = ln' := by have := hl'.len; simpa using this
  have hmm : g.mass = pn + dn + ln := by rw [← e1, ← e2, ← e3]; rfl
  refine Fn_of _ _ Try.func27 rfl Try.ntmps27 rfl fun c => ?_
  repeat' (first | (refine A_cutu (fun s => ∃ b2 b3 b5 b6, s = eqhSt H [.slice pa pn pc, .int .i64 g.ins, .int .i64 g.move, .slice da dn dc, .slice la ln lc] [.slice pa' pn' pc', .int .i64 g'.ins, .int .i64 g'.move, .slice da' dn' dc', .slice la' ln' lc'] [.int .i64 g.ins, .int .i64 g.move, .slice da dn dc, .slice la ln lc] [.int .i64 g'.ins, .int .i64 g'.move, .slice da' dn' dc', .slice la' ln' lc'] b2 b3 b5 b6 []) (A_drawi WideF.wide (.q 0 (.q 1 (.q 2 (.q 3 (.f 4 (.e 5 (.e 6 (.e 7 (.done [])))) 5 (.e 4 (.e 6 (.e 7 (.done []))))))))) [] [] [0, 1] (by decide +kernel) (by decide) rfl ?_) ?_; simp only [Own.picks, Own.rget, List.cons_append, List.nil_append, List.append_nil]) | refine O_nil ?_ | refine A_seq ?_ | refine A_region ?_ | (show drJ _ _ _ _ _ _ _ (.q _ _) _; refine D_q rfl ?_) | (show drJ _ _ _ _ _ _ _ (.e _ _) _; refine D_e rfl ?_) | (show drJ _ _ _ _ _ _ _ (.f _ _ _ _) _; refine D_f rfl rfl ?_ ?_) | (show drJ _ _ _ _ _ _ _ (.done _) _; refine D_done ?_; simp only [List.cons_append, List.nil_append]) | (show drQ _ _ _ _ _ _; first | (show drQ _ _ _ ⟨_, .load _ _, _, _, _, _⟩ _ _; first | refine D_ev rfl (Ev_loadBs (i := 0) rfl rfl rfl rfl) rfl rfl ?_ | refine D_ev rfl (Ev_loadBs (i := 1) rfl rfl rfl rfl) rfl rfl ?_) | (show drQ _ _ _ ⟨_, .fieldAddr _ _ _, _, _, _, _⟩ _ _; refine D_ev rfl (Ev_fieldAddr rfl rfl rfl) rfl rfl ?_)) | (show drE _ _ _ _ _ _ _; first | (show drE _ _ _ _ ⟨_, .alloc _, _, _, _, _⟩ _ _; (refine E_ef rfl (Ef_alloc WideF.wide rfl ?_); intro b; refine ⟨Grow.same rfl rfl, ?_⟩)) | (show drE _ _ _ _ ⟨_, .store _ _ _, _, _, _, _⟩ _ _; first | (refine E_ef rfl (Ef_storew WideF.wide rfl rfl rfl rfl rfl ?_); refine ⟨Grow.same rfl rfl, ?_⟩) | (refine E_ef rfl (Ef_f1 (Ef_storew WideF.wide rfl rfl rfl rfl rfl ?_)); refine ⟨Grow.same rfl rfl, ?_⟩))) | (show opsA _ _ _ _ _ _ _; first | refine O_ev WideF.wide rfl (Ev_pure rfl) rfl rfl ?_ | (show opsA _ _ _ _ (⟨_, .box _ _, _, _, _, _⟩ :: _) _ _; (refine O_ef rfl (Ef_boxa WideF.wide rfl rfl ?_); intro b))))
  · exact Shift.to ⟨_, _, _, _, rfl⟩ ⟨rfl, rfl, rfl, ⟨rfl, rfl, rfl, rfl, rfl, trivial⟩, Own.subi [3, 2, 1, 0] (by decide) rfl rfl⟩
  · exact Shift.to ⟨_, _, _, _, rfl⟩ ⟨rfl, rfl, rfl, ⟨rfl, rfl, rfl, rfl, rfl, trivial⟩, Own.subi [3, 2, 1, 0] (by decide) rfl rfl⟩
  · rintro s ⟨b2, b3, b5, b6, rfl⟩
    have no : ∀ {q : Prop}, ¬ q → (g = g' → q) → decide (g = g') = false := fun hq hh => decide_eq_false fun e => hq (hh e)
    repeat' (first | refine O_nil ?_ | refine A_seq ?_ | refine A_region ?_ | refine A_skip ?_ | refine A_ret ?_ | refine A_block ?_ | (show opsA _ _ _ _ _ _ _; first | (refine O_split rfl rfl (fun h => ?_) (fun h => ?_) <;> try (exfalso; omega)) | refine O_ev WideF.wide rfl (Ev_pure rfl) rfl rfl ?_ | (show opsA _ _ _ _ (⟨_, .load _ _, _, _, _, _⟩ :: _) _ _; first | refine O_ev WideF.wide rfl (Ev_loadB1 (i := 0) rfl rfl rfl) rfl rfl ?_ | refine O_ev WideF.wide rfl (Ev_loadB1 (i := 1) rfl rfl rfl) rfl rfl ?_ | refine O_ev WideF.wide rfl (Ev_loadB1 (i := 2) rfl rfl rfl) rfl rfl ?_ | refine O_ev WideF.wide rfl (Ev_loadB1 (i := 3) rfl rfl rfl) rfl rfl ?_) | (show opsA _ _ _ _ (⟨_, .fieldAddr _ _ _, _, _, _, _⟩ :: _) _ _; refine O_ev WideF.wide rfl (Ev_fieldAddr rfl rfl rfl) rfl rfl ?_) | (show opsA _ _ _ _ (⟨_, .call _, _, _, _, _⟩ :: _) _ _; refine O_ev WideF.wide rfl (Ev_llen rfl) rfl rfl ?_) | refine O_skip WideF.wide rfl rfl rfl ?_) | (show wpA _ _ _ (.cond _ _ _) _ _ _ _; first | (refine A_if rfl (fun h => ?_) (fun h => ?_) <;> try (exfalso; omega)) | refine A_iftrue rfl ?_))
    · (refine End_p (Ret1 rfl rfl) ?_)
      rw [no (show ¬ pn = pn' by omega) (fun e => by subst e; omega)]
    · (refine End_p (Ret1 rfl rfl) ?_)
      rw [no (by assumption) (fun e => by rw [e])]
    · (refine End_p (Ret1 rfl rfl) ?_)
      rw [no (by assumption) (fun e => by rw [e])]
    · (refine End_p (Ret1 rfl rfl) ?_)
      rw [no (show ¬ dn = dn' by omega) (fun e => by subst e; omega)]
    · (refine End_p (Ret1 rfl rfl) ?_)
      rw [no (show ¬ ln = ln' by omega) (fun e => by subst e; omega)]
    · refine A_loopu (fun m s => ∃ i : Nat, m = pn - i ∧ i ≤ pn ∧ (∀ j, j < i → g.props[j]? = g'.props[j]?) ∧ s = eqhSt H [.slice pa pn pc, .int .i64 g.ins, .int .i64 g.move, .slice da dn dc, .slice la ln lc] [.slice pa' pn' pc', .int .i64 g'.ins, .int .i64 g'.move, .slice da' dn' dc', .slice la' ln' lc'] [.int .i64 g.ins, .int .i64 g.move, .slice da dn dc, .slice la ln lc] [.int .i64 g'.ins, .int .i64 g'.move, .slice da' dn' dc', .slice la' ln' lc'] b2 b3 b5 b6 [(7, .int .i64 i)]) ?_ ?_
      · exact Shift.to ⟨_, 0, rfl, by omega, fun j hj => absurd hj (by omega), rfl⟩ ⟨rfl, rfl, rfl, ⟨rfl, rfl, rfl, rfl, rfl, rfl, trivial⟩, Own.subi [0, 1, 2, 3] (by decide) rfl rfl⟩
      · rintro m s ⟨i, rfl, hi, hall, rfl⟩
        by_cases hlt : i < pn
        · obtain ⟨b, o, x, rfl, hxi, hc⟩ := hp.atm i hlt
          obtain ⟨b', o', x', rfl, hxi', hc'⟩ := hp'.atm i (by omega)
          have hxx : g = g' → x = x' := fun e => by subst e; rw [hxi] at hxi'; exact Option.some.inj hxi'
          repeat' (first | (refine A_drawi WideF.wide (.q 0 (.q 1 (.q 2 (.q 3 (.q 4 (.q 5 (.q 6 (.q 7 (.q 8 (.q 9 (.q 10 (.done [])))))))))))) [] [] [0, 1, 2, 3] (by decide +kernel) (by decide) rfl ?_; simp only [Own.picks, Own.rget, List.cons_append, List.nil_append, List.append_nil]) | (refine D_ev rfl (Ev_neS rfl rfl Try.eqGuardType70 (eq_prop _ _ _ _)) rfl rfl ?_) | refine O_nil ?_ | refine A_seq ?_ | refine A_region ?_ | refine A_skip ?_ | refine A_ret ?_ | refine A_block ?_ | (show drJ _ _ _ _ _ _ _ (.q _ _) _; refine D_q rfl ?_) | (show drJ _ _ _ _ _ _ _ (.done _) _; refine D_done ?_; simp only [List.cons_append, List.nil_append]) | (show drQ _ _ _ _ _ _; first | refine D_ev rfl (Ev_pure rfl) rfl rfl ?_ | (show drQ _ _ _ ⟨_, .load _ _, _, _, _, _⟩ _ _; first | refine D_ev rfl (Ev_loadB1 (i := 0) rfl rfl rfl) rfl rfl ?_ | refine D_ev rfl (Ev_loadB1 (i := 1) rfl rfl rfl) rfl rfl ?_ | refine D_ev rfl (Ev_loadH rfl (by assumption) (by rfl)) rfl rfl ?_) | (show drQ _ _ _ ⟨_, .indexAddr _ _ _, _, _, _, _⟩ _ _; refine D_ev rfl (Ev_indexAddr rfl rfl (by omega) (by omega)) rfl rfl ?_) | (show drQ _ _ _ ⟨_, .fieldAddr _ _ _, _, _, _, _⟩ _ _; refine D_ev rfl (Ev_fieldAddr rfl rfl rfl) rfl rfl ?_)) | (show opsA _ _ _ _ _ _ _; first | refine O_ev WideF.wide rfl (Ev_pure rfl) rfl rfl ?_ | (show opsA _ _ _ _ (⟨_, .load _ _, _, _, _, _⟩ :: _) _ _; refine O_ev WideF.wide rfl (Ev_loadB1 (i := 0) rfl rfl rfl) rfl rfl ?_) | (show opsA _ _ _ _ (⟨_, .fieldAddr _ _ _, _, _, _, _⟩ :: _) _ _; refine O_ev WideF.wide rfl (Ev_fieldAddr rfl rfl rfl) rfl rfl ?_) | (show opsA _ _ _ _ (⟨_, .call _, _, _, _, _⟩ :: _) _ _; refine O_ev WideF.wide rfl (Ev_llen rfl) rfl rfl ?_) | (show opsA _ _ _ _ (⟨_, .binOp _ _ _ _ _, _, _, _, _⟩ :: _) _ _; refine O_ev WideF.wide rfl (Ev_add rfl rfl (wi64 (by omega))) rfl rfl ?_)) | (show wpA _ _ _ (.cond _ _ _) _ _ _ _; (refine A_if rfl (fun h => ?_) (fun h => ?_) <;> try (exfalso; omega))))
          · (refine End_p (Ret1 rfl rfl) ?_)
            rw [no (by assumption) (fun e => by rw [hxx e]; simp)]
          · refine Shift.to ⟨_, ?_, i + 1, rfl, by omega, fun j hj => ?_, rfl⟩ ⟨rfl, rfl, rfl, ⟨rfl, rfl, rfl, rfl, rfl, rfl, trivial⟩, Own.subi [0, 1, 2, 3] (by decide) rfl rfl⟩
            · omega
            · by_cases hji : j = i
              · subst hji
                rw [hxi, hxi']
                have hq := Decidable.not_not.1 (by assumption)
                cases x; cases x'; simp at hq ⊢; exact hq
              · exact hall j (by omega)
        · have hin : pn = i := by omega
          subst hin
          have hprops : g.props = g'.props := list_ext (by omega) fun j hj => hall j (by omega)
          repeat' (first | refine O_nil ?_ | refine A_seq ?_ | refine A_region ?_ | refine A_block ?_ | (show opsA _ _ _ _ _ _ _; first | refine O_ev WideF.wide rfl (Ev_pure rfl) rfl rfl ?_ | (show opsA _ _ _ _ (⟨_, .load _ _, _, _, _, _⟩ :: _) _ _; refine O_ev WideF.wide rfl (Ev_loadB1 (i := 0) rfl rfl rfl) rfl rfl ?_) | (show opsA _ _ _ _ (⟨_, .fieldAddr _ _ _, _, _, _, _⟩ :: _) _ _; refine O_ev WideF.wide rfl (Ev_fieldAddr rfl rfl rfl) rfl rfl ?_) | (show opsA _ _ _ _ (⟨_, .call _, _, _, _, _⟩ :: _) _ _; refine O_ev WideF.wide rfl (Ev_llen rfl) rfl rfl ?_)) | (show wpA _ _ _ (.exit _) _ _ _ _; refine A_exit rfl ?_) | (show wpA _ _ _ (.cond _ _ _) _ _ _ _; (refine A_if rfl (fun h => ?_) (fun h => ?_) <;> try (exfalso; omega))))
          refine A_loopu (fun m s => ∃ i : Nat, m = dn - i ∧ i ≤ dn ∧ (∀ j, j < i → g.dels[j]? = g'.dels[j]?) ∧ s = eqhSt H [.slice pa pn pc, .int .i64 g.ins, .int .i64 g.move, .slice da dn dc, .slice la ln lc] [.slice pa' pn' pc', .int .i64 g'.ins, .int .i64 g'.move, .slice da' dn' dc', .slice la' ln' lc'] [.int .i64 g.ins, .int .i64 g.move, .slice da dn dc, .slice la ln lc] [.int .i64 g'.ins, .int .i64 g'.move, .slice da' dn' dc', .slice la' ln' lc'] b2 b3 b5 b6 [(8, .int .i64 i)]) ?_ ?_
          · exact Shift.to ⟨_, 0, rfl, by omega, fun j hj => absurd hj (by omega), rfl⟩ ⟨rfl, rfl, rfl, ⟨rfl, rfl, rfl, rfl, rfl, rfl, trivial⟩, Own.subi [0, 1, 2, 3] (by decide) rfl rfl⟩
          · rintro m s ⟨i, rfl, hi, hall, rfl⟩
            by_cases hlt : i < dn
            · obtain ⟨b, o, x, rfl, hxi, hc⟩ := hd.atm i hlt
              obtain ⟨b', o', x', rfl, hxi', hc'⟩ := hd'.atm i (by omega)
              have hxx : g = g' → x = x' := fun e => by subst e; rw [hxi] at hxi'; exact Option.some.inj hxi'
              repeat' (first | (refine A_drawi WideF.wide (.q 0 (.q 1 (.q 2 (.q 3 (.q 4 (.q 5 (.q 6 (.q 7 (.q 8 (.q 9 (.q 10 (.done [])))))))))))) [] [] [0, 1, 2, 3] (by decide +kernel) (by decide) rfl ?_; simp only [Own.picks, Own.rget, List.cons_append, List.nil_append, List.append_nil]) | (refine D_ev rfl (Ev_neS rfl rfl Try.eqGuardType72 (eq_del _ _ _ _)) rfl rfl ?_) | refine O_nil ?_ | refine A_seq ?_ | refine A_region ?_ | refine A_skip ?_ | refine A_ret ?_ | refine A_block ?_ | (show drJ _ _ _ _ _ _ _ (.q _ _) _; refine D_q rfl ?_) | (show drJ _ _ _ _ _ _ _ (.done _) _; refine D_done ?_; simp only [List.cons_append, List.nil_append]) | (show drQ _ _ _ _ _ _; first | refine D_ev rfl (Ev_pure rfl) rfl rfl ?_ | (show drQ _ _ _ ⟨_, .load _ _, _, _, _, _⟩ _ _; first | refine D_ev rfl (Ev_loadB1 (i := 2) rfl rfl rfl) rfl rfl ?_ | refine D_ev rfl (Ev_loadB1 (i := 3) rfl rfl rfl) rfl rfl ?_ | refine D_ev rfl (Ev_loadH rfl (by assumption) (by rfl)) rfl rfl ?_) | (show drQ _ _ _ ⟨_, .indexAddr _ _ _, _, _, _, _⟩ _ _; refine D_ev rfl (Ev_indexAddr rfl rfl (by omega) (by omega)) rfl rfl ?_) | (show drQ _ _ _ ⟨_, .fieldAddr _ _ _, _, _, _, _⟩ _ _; refine D_ev rfl (Ev_fieldAddr rfl rfl rfl) rfl rfl ?_)) | (show opsA _ _ _ _ _ _ _; first | refine O_ev WideF.wide rfl (Ev_pure rfl) rfl rfl ?_ | (show opsA _ _ _ _ (⟨_, .load _ _, _, _, _, _⟩ :: _) _ _; refine O_ev WideF.wide rfl (Ev_loadB1 (i := 2) rfl rfl rfl) rfl rfl ?_) | (show opsA _ _ _ _ (⟨_, .fieldAddr _ _ _, _, _, _, _⟩ :: _) _ _; refine O_ev WideF.wide rfl (Ev_fieldAddr rfl rfl rfl) rfl rfl ?_) | (show opsA _ _ _ _ (⟨_, .call _, _, _, _, _⟩ :: _) _ _; refine O_ev WideF.wide rfl (Ev_llen rfl) rfl rfl ?_) | (show opsA _ _ _ _ (⟨_, .binOp _ _ _ _ _, _, _, _, _⟩ :: _) _ _; refine O_ev WideF.wide rfl (Ev_add rfl rfl (wi64 (by omega))) rfl rfl ?_)) | (show wpA _ _ _ (.cond _ _ _) _ _ _ _; (refine A_if rfl (fun h => ?_) (fun h => ?_) <;> try (exfalso; omega))))
              · (refine End_p (Ret1 rfl rfl) ?_)
                rw [no (by assumption) (fun e => by rw [hxx e]; simp)]
              · refine Shift.to ⟨_, ?_, i + 1, rfl, by omega, fun j hj => ?_, rfl⟩ ⟨rfl, rfl, rfl, ⟨rfl, rfl, rfl, rfl, rfl, rfl, trivial⟩, Own.subi [0, 1, 2, 3] (by decide) rfl rfl⟩
                · omega
                · by_cases hji : j = i
                  · subst hji
                    rw [hxi, hxi']
                    have hq := Decidable.not_not.1 (by assumption)
                    cases x; cases x'; simp at hq ⊢; exact hq
                  · exact hall j (by omega)
            · have hin : dn = i := by omega
              subst hin
              have hdels : g.dels = g'.dels := list_ext (by omega) fun j hj => hall j (by omega)
              repeat' (first | refine O_nil ?_ | refine A_seq ?_ | refine A_region ?_ | refine A_block ?_ | (show opsA _ _ _ _ _ _ _; first | refine O_ev WideF.wide rfl (Ev_pure rfl) rfl rfl ?_ | (show opsA _ _ _ _ (⟨_, .load _ _, _, _, _, _⟩ :: _) _ _; refine O_ev WideF.wide rfl (Ev_loadB1 (i := 2) rfl rfl rfl) rfl rfl ?_) | (show opsA _ _ _ _ (⟨_, .fieldAddr _ _ _, _, _, _, _⟩ :: _) _ _; refine O_ev WideF.wide rfl (Ev_fieldAddr rfl rfl rfl) rfl rfl ?_) | (show opsA _ _ _ _ (⟨_, .call _, _, _, _, _⟩ :: _) _ _; refine O_ev WideF.wide rfl (Ev_llen rfl) rfl rfl ?_)) | (show wpA _ _ _ (.exit _) _ _ _ _; refine A_exit rfl ?_) | (show wpA _ _ _ (.cond _ _ _) _ _ _ _; (refine A_if rfl (fun h => ?_) (fun h => ?_) <;> try (exfalso; omega))))
              refine A_loopu (fun m s => ∃ i : Nat, m = ln - i ∧ i ≤ ln ∧ (∀ j, j < i → g.layers[j]? = g'.layers[j]?) ∧ s = eqhSt H [.slice pa pn pc, .int .i64 g.ins, .int .i64 g.move, .slice da dn dc, .slice la ln lc] [.slice pa' pn' pc', .int .i64 g'.ins, .int .i64 g'.move, .slice da' dn' dc', .slice la' ln' lc'] [.int .i64 g.ins, .int .i64 g.move, .slice da dn dc, .slice la ln lc] [.int .i64 g'.ins, .int .i64 g'.move, .slice da' dn' dc', .slice la' ln' lc'] b2 b3 b5 b6 [(9, .int .i64 i)]) ?_ ?_
              · exact Shift.to ⟨_, 0, rfl, by omega, fun j hj => absurd hj (by omega), rfl⟩ ⟨rfl, rfl, rfl, ⟨rfl, rfl, rfl, rfl, rfl, rfl, trivial⟩, Own.subi [0, 1, 2, 3] (by decide) rfl rfl⟩
              · rintro m s ⟨i, rfl, hi, hall, rfl⟩
                by_cases hlt : i < ln
                · obtain ⟨b, o, x, rfl, hxi, hc⟩ := hl.atm i hlt
                  obtain ⟨b', o', x', rfl, hxi', hc'⟩ := hl'.atm i (by omega)
                  have hxx : g = g' → x = x' := fun e => by subst e; rw [hxi] at hxi'; exact Option.some.inj hxi'
                  repeat' (first | (refine A_drawi WideF.wide (.q 0 (.q 1 (.q 2 (.q 3 (.q 4 (.q 5 (.q 6 (.q 7 (.q 8 (.q 9 (.q 10 (.done [])))))))))))) [] [] [0, 1, 2, 3] (by decide +kernel) (by decide) rfl ?_; simp only [Own.picks, Own.rget, List.cons_append, List.nil_append, List.append_nil]) | (refine D_ev rfl (Ev_neS rfl rfl Try.eqGuardType104 (eq_layer _ _ _ _ _ _ _ _)) rfl rfl ?_) | refine O_nil ?_ | refine A_seq ?_ | refine A_region ?_ | refine A_skip ?_ | refine A_ret ?_ | refine A_block ?_ | (show drJ _ _ _ _ _ _ _ (.q _ _) _; refine D_q rfl ?_) | (show drJ _ _ _ _ _ _ _ (.done _) _; refine D_done ?_; simp only [List.cons_append, List.nil_append]) | (show drQ _ _ _ _ _ _; first | refine D_ev rfl (Ev_pure rfl) rfl rfl ?_ | (show drQ _ _ _ ⟨_, .load _ _, _, _, _, _⟩ _ _; first | refine D_ev rfl (Ev_loadB1 (i := 2) rfl rfl rfl) rfl rfl ?_ | refine D_ev rfl (Ev_loadB1 (i := 3) rfl rfl rfl) rfl rfl ?_ | refine D_ev rfl (Ev_loadH rfl (by assumption) (by rfl)) rfl rfl ?_) | (show drQ _ _ _ ⟨_, .indexAddr _ _ _, _, _, _, _⟩ _ _; refine D_ev rfl (Ev_indexAddr rfl rfl (by omega) (by omega)) rfl rfl ?_) | (show drQ _ _ _ ⟨_, .fieldAddr _ _ _, _, _, _, _⟩ _ _; refine D_ev rfl (Ev_fieldAddr rfl rfl rfl) rfl rfl ?_)) | (show opsA _ _ _ _ _ _ _; first | refine O_ev WideF.wide rfl (Ev_pure rfl) rfl rfl ?_ | (show opsA _ _ _ _ (⟨_, .load _ _, _, _, _, _⟩ :: _) _ _; refine O_ev WideF.wide rfl (Ev_loadB1 (i := 2) rfl rfl rfl) rfl rfl ?_) | (show opsA _ _ _ _ (⟨_, .fieldAddr _ _ _, _, _, _, _⟩ :: _) _ _; refine O_ev WideF.wide rfl (Ev_fieldAddr rfl rfl rfl) rfl rfl ?_) | (show opsA _ _ _ _ (⟨_, .call _, _, _, _, _⟩ :: _) _ _; refine O_ev WideF.wide rfl (Ev_llen rfl) rfl rfl ?_) | (show opsA _ _ _ _ (⟨_, .binOp _ _ _ _ _, _, _, _, _⟩ :: _) _ _; refine O_ev WideF.wide rfl (Ev_add rfl rfl (wi64 (by omega))) rfl rfl ?_)) | (show wpA _ _ _ (.cond _ _ _) _ _ _ _; (refine A_if rfl (fun h => ?_) (fun h => ?_) <;> try (exfalso; omega))))
                  · (refine End_p (Ret1 rfl rfl) ?_)
                    rw [no (by assumption) (fun e => by rw [hxx e]; simp)]
                  · refine Shift.to ⟨_, ?_, i + 1, rfl, by omega, fun j hj => ?_, rfl⟩ ⟨rfl, rfl, rfl, ⟨rfl, rfl, rfl, rfl, rfl, rfl, trivial⟩, Own.subi [0, 1, 2, 3] (by decide) rfl rfl⟩
                    · omega
                    · by_cases hji : j = i
                      · subst hji
                        rw [hxi, hxi']
                        have hq := Decidable.not_not.1 (by assumption)
                        cases x; cases x'; simp at hq ⊢; exact hq
                      · exact hall j (by omega)
                · have hin : ln = i := by omega
                  subst hin
                  have hlayers : g.layers = g'.layers := list_ext (by omega) fun j hj => hall j (by omega)
                  repeat' (first | refine O_nil ?_ | refine A_seq ?_ | refine A_region ?_ | refine A_ret ?_ | (show opsA _ _ _ _ _ _ _; first | refine O_ev WideF.wide rfl (Ev_pure rfl) rfl rfl ?_ | (show opsA _ _ _ _ (⟨_, .load _ _, _, _, _, _⟩ :: _) _ _; refine O_ev WideF.wide rfl (Ev_loadB1 (i := 2) rfl rfl rfl) rfl rfl ?_) | (show opsA _ _ _ _ (⟨_, .fieldAddr _ _ _, _, _, _, _⟩ :: _) _ _; refine O_ev WideF.wide rfl (Ev_fieldAddr rfl rfl rfl) rfl rfl ?_) | (show opsA _ _ _ _ (⟨_, .call _, _, _, _, _⟩ :: _) _ _; refine O_ev WideF.wide rfl (Ev_llen rfl) rfl rfl ?_)) | (show wpA _ _ _ (.exit _) _ _ _ _; refine A_exit rfl ?_) | (show wpA _ _ _ (.cond _ _ _) _ _ _ _; (refine A_if rfl (fun h => ?_) (fun h => ?_) <;> try (exfalso; omega))))
                  (refine End_p (Ret1 rfl rfl) ?_)
                  have e : g = g' := by
                    cases g; cases g'
                    simp only [Head.mk.injEq]
                    exact ⟨hprops, Decidable.not_not.1 (by assumption), Decidable.not_not.1 (by assumption), hdels, hlayers⟩
                  rw [decide_eq_true e]
end Go.Proofs.Ythbnhcgphkghaaa
