/-
  The reference's comparisons of items and flows.
-/
import Derived.Test.YthbnhcgphkghaaaR7
namespace Go.Proofs.Ythbnhcgphkghaaa
open Go
set_option linter.unusedVariables false
set_option linter.unusedSimpArgs false
attribute [local irreducible] wpA opsA drJ drQ drE Ef Ev Shift Fn

theorem Item.ext_iff' (x y : Item) : x = y ↔ x.kind = y.kind ∧ x.code = y.code ∧ x.id = y.id ∧ x.text = y.text ∧ x.head = y.head ∧ x.flow = y.flow ∧ x.rows = y.rows := by
  cases x; cases y
  simp [Item.kind, Item.code, Item.id, Item.text, Item.head, Item.flow, Item.rows]
set_option maxRecDepth 100000 in
set_option maxHeartbeats 1000000 in
theorem rEqualItem_fn {H : Hp} {N : Nat} (ih : EqF 23 H N) {cs cs' : List Value} {x x' : Item} (hx : ItemH H cs x) (hx' : ItemH H cs' x') (hm : x.head.mass + massL x.flow + massR x.rows < N) (hN : N < 68719476736) :
    FnP Try.prog 25 [.agg cs.toArray, .agg cs'.toArray] H (.bool (decide (x = x'))) := by
  obtain ⟨pa, pn, pc, da, dn, dc, la, ln, lc, ga, gn, gc, fa, fn, fc, rfl, hp, hd, hl, hg, hf⟩ := hx.cells
  obtain ⟨pa', pn', pc', da', dn', dc', la', ln', lc', ga', gn', gc', fa', fn', fc', rfl, hp', hd', hl', hg', hf'⟩ := hx'.cells
  have hh := rEqualHead_fn (HeadH.of hp hd hl) (HeadH.of hp' hd' hl') (by omega)
  have hflow := ih hg hg' (by omega)
  have hfn := hf.len
  have hfn' := hf'.len
  have hcl := massR_len x.rows
  have no : ∀ {q : Prop}, ¬ q → (x = x' → q) → decide (x = x') = false := fun hq hh => decide_eq_false fun e => hq (hh e)
  refine Fn_of _ _ Try.func25 rfl Try.ntmps25 rfl fun c => ?_
  repeat' (first | (refine O_ef rfl (Ef_callp WideF.wide hh ⟨rfl, rfl, trivial⟩ rfl ?_)) | refine O_nil ?_ | refine A_seq ?_ | refine A_region ?_ | refine A_skip ?_ | refine A_ret ?_ | refine A_block ?_ | (show opsA _ _ _ _ _ _ _; first | (refine O_split rfl rfl (fun h => ?_) (fun h => ?_) <;> try (exfalso; omega)) | refine O_ev WideF.wide rfl (Ev_pure rfl) rfl rfl ?_ | (show opsA _ _ _ _ (⟨_, .load _ _, _, _, _, _⟩ :: _) _ _; first | refine O_ev WideF.wide rfl (Ev_loadB1 (i := 0) rfl rfl rfl) rfl rfl ?_ | refine O_ev WideF.wide rfl (Ev_loadB1 (i := 1) rfl rfl rfl) rfl rfl ?_ | refine O_ev WideF.wide rfl (Ev_loadBs (i := 0) rfl rfl rfl rfl) rfl rfl ?_ | refine O_ev WideF.wide rfl (Ev_loadBs (i := 1) rfl rfl rfl rfl) rfl rfl ?_) | (show opsA _ _ _ _ (⟨_, .fieldAddr _ _ _, _, _, _, _⟩ :: _) _ _; refine O_ev WideF.wide rfl (Ev_fieldAddr rfl rfl rfl) rfl rfl ?_) | (show opsA _ _ _ _ (⟨_, .call _, _, _, _, _⟩ :: _) _ _; refine O_ev WideF.wide rfl (Ev_llen rfl) rfl rfl ?_) | (show opsA _ _ _ _ (⟨_, .binOp _ _ _ _ _, _, _, _, _⟩ :: _) _ _; refine O_ev WideF.wide rfl (Ev_sneq rfl rfl) rfl rfl ?_) | (show opsA _ _ _ _ (⟨_, .unOp _ _ _, _, _, _, _⟩ :: _) _ _; refine O_ev WideF.wide rfl (Ev_not rfl) rfl rfl ?_) | (show opsA _ _ _ _ (⟨_, .box _ _, _, _, _, _⟩ :: _) _ _; (refine O_ef rfl (Ef_boxa WideF.wide rfl rfl ?_); intro b)) | refine O_skip WideF.wide rfl rfl rfl ?_) | (show wpA _ _ _ (.cond _ _ _) _ _ _ _; first | (refine A_if rfl (fun h => ?_) (fun h => ?_) <;> try (exfalso; omega)) | refine A_iftrue rfl ?_))
  · (refine End_p (Ret1 rfl rfl) ?_)
    rw [no (by assumption) (fun e => by rw [e])]
  · (refine End_p (Ret1 rfl rfl) ?_)
    rw [no (by assumption) (fun e => by rw [e])]
  · (refine End_p (Ret1 rfl rfl) ?_)
    rw [no (by assumption) (fun e => by rw [e])]
  · (refine End_p (Ret1 rfl rfl) ?_)
    rw [no (by assumption) (fun e => by rw [e])]
  · (refine End_p (Ret1 rfl rfl) ?_)
    rw [no (by assumption) (fun e => by rw [e])]
  · (refine End_p (Ret1 rfl rfl) ?_)
    rw [no (show ¬ fn = fn' by omega) (fun e => by subst e; omega)]
  · refine A_loopu (fun m s => ∃ (i b2 b3 : Nat), m = fn - i ∧ i ≤ fn ∧ (∀ j, j < i → x.rows[j]? = x'.rows[j]?) ∧ s = eq2St 73 H [.int .i64 x.kind, .int .i64 x.code, .int .i64 x.id, sv x.text, .slice pa pn pc, .int .i64 x.head.ins, .int .i64 x.head.move, .slice da dn dc, .slice la ln lc, .slice ga gn gc, .slice fa fn fc] [.int .i64 x'.kind, .int .i64 x'.code, .int .i64 x'.id, sv x'.text, .slice pa' pn' pc', .int .i64 x'.head.ins, .int .i64 x'.head.move, .slice da' dn' dc', .slice la' ln' lc', .slice ga' gn' gc', .slice fa' fn' fc'] b2 b3 i) ?_ ?_
    · exact Shift.to ⟨_, 0, _, _, rfl, by omega, fun j hj => absurd hj (by omega), rfl⟩ ⟨rfl, rfl, rfl, ⟨rfl, rfl, rfl, rfl, trivial⟩, Own.subi [0, 1] (by decide) rfl rfl⟩
    · rintro m s ⟨i, b2, b3, rfl, hi, hall, rfl⟩
      by_cases hlt : i < fn
      · obtain ⟨b, o, ccs, y, rfl, hyi, hyc, hyk, hc⟩ := hf.at i hlt
        obtain ⟨b', o', ccs', y', rfl, hyi', hyc', hyk', hc'⟩ := hf'.at i (by omega)
        have hm2 := massR_mem hyi
        have hcell := rEqualRow_fn ih hyc hyc' (by omega) hN
        have hxx : x = x' → y = y' := fun e => by subst e; rw [hyi] at hyi'; exact Option.some.inj hyi'
        repeat' (first | (refine A_drawi WideF.wide (.q 0 (.q 1 (.q 2 (.q 3 (.q 4 (.q 5 (.q 6 (.q 7 (.q 8 (.q 9 (.e 10 (.q 11 (.done []))))))))))))) [] [] [0, 1] (by decide +kernel) (by decide) rfl ?_; simp only [Own.picks, Own.rget, List.cons_append, List.nil_append, List.append_nil]) | (refine E_ef rfl (Ef_callp WideF.wide hcell ⟨rfl, rfl, trivial⟩ rfl ?_); refine ⟨Grow.same rfl rfl, ?_⟩) | (refine D_ev rfl (Ev_loadH rfl (by assumption) (by assumption)) rfl rfl ?_) | refine O_nil ?_ | refine A_seq ?_ | refine A_region ?_ | refine A_skip ?_ | refine A_ret ?_ | refine A_block ?_ | (show drJ _ _ _ _ _ _ _ (.q _ _) _; refine D_q rfl ?_) | (show drJ _ _ _ _ _ _ _ (.e _ _) _; refine D_e rfl ?_) | (show drJ _ _ _ _ _ _ _ (.done _) _; refine D_done ?_; simp only [List.cons_append, List.nil_append]) | (show drQ _ _ _ _ _ _; first | refine D_ev rfl (Ev_pure rfl) rfl rfl ?_ | (show drQ _ _ _ ⟨_, .load _ _, _, _, _, _⟩ _ _; first | refine D_ev rfl (Ev_loadB1 (i := 0) rfl rfl rfl) rfl rfl ?_ | refine D_ev rfl (Ev_loadB1 (i := 1) rfl rfl rfl) rfl rfl ?_) | (show drQ _ _ _ ⟨_, .indexAddr _ _ _, _, _, _, _⟩ _ _; refine D_ev rfl (Ev_indexAddr rfl rfl (by omega) (by omega)) rfl rfl ?_) | (show drQ _ _ _ ⟨_, .fieldAddr _ _ _, _, _, _, _⟩ _ _; refine D_ev rfl (Ev_fieldAddr rfl rfl rfl) rfl rfl ?_) | (show drQ _ _ _ ⟨_, .unOp _ _ _, _, _, _, _⟩ _ _; refine D_ev rfl (Ev_not rfl) rfl rfl ?_)) | (show opsA _ _ _ _ _ _ _; first | refine O_ev WideF.wide rfl (Ev_pure rfl) rfl rfl ?_ | (show opsA _ _ _ _ (⟨_, .load _ _, _, _, _, _⟩ :: _) _ _; refine O_ev WideF.wide rfl (Ev_loadB1 (i := 1) rfl rfl rfl) rfl rfl ?_) | (show opsA _ _ _ _ (⟨_, .fieldAddr _ _ _, _, _, _, _⟩ :: _) _ _; refine O_ev WideF.wide rfl (Ev_fieldAddr rfl rfl rfl) rfl rfl ?_) | (show opsA _ _ _ _ (⟨_, .call _, _, _, _, _⟩ :: _) _ _; refine O_ev WideF.wide rfl (Ev_llen rfl) rfl rfl ?_) | (show opsA _ _ _ _ (⟨_, .binOp _ _ _ _ _, _, _, _, _⟩ :: _) _ _; refine O_ev WideF.wide rfl (Ev_add rfl rfl (wi64 (by omega))) rfl rfl ?_)) | (show wpA _ _ _ (.cond _ _ _) _ _ _ _; (refine A_if rfl (fun h => ?_) (fun h => ?_) <;> try (exfalso; omega))))
        · (refine End_p (Ret1 rfl rfl) ?_)
          rw [no (by assumption) (fun e => hxx e)]
        · refine Shift.to ⟨_, ?_, i + 1, _, _, rfl, by omega, fun j hj => ?_, rfl⟩ ⟨rfl, rfl, rfl, ⟨rfl, rfl, rfl, rfl, trivial⟩, Own.subi [0, 1] (by decide) rfl rfl⟩
          · omega
          · by_cases hji : j = i
            · subst hji
              have hq : y = y' := Decidable.not_not.1 (by assumption)
              rw [hyi, hyi', hq]
            · exact hall j (by omega)
      · have hin : fn = i := by omega
        subst hin
        have he2 : x.rows = x'.rows := list_ext (by omega) fun j hj => hall j (by omega)
        repeat' (first | (refine O_ef rfl (Ef_callp WideF.wide hflow ⟨rfl, rfl, trivial⟩ rfl ?_)) | refine O_nil ?_ | refine A_seq ?_ | refine A_region ?_ | refine A_ret ?_ | (show opsA _ _ _ _ _ _ _; first | refine O_ev WideF.wide rfl (Ev_pure rfl) rfl rfl ?_ | (show opsA _ _ _ _ (⟨_, .load _ _, _, _, _, _⟩ :: _) _ _; first | refine O_ev WideF.wide rfl (Ev_loadB1 (i := 0) rfl rfl rfl) rfl rfl ?_ | refine O_ev WideF.wide rfl (Ev_loadB1 (i := 1) rfl rfl rfl) rfl rfl ?_) | (show opsA _ _ _ _ (⟨_, .fieldAddr _ _ _, _, _, _, _⟩ :: _) _ _; refine O_ev WideF.wide rfl (Ev_fieldAddr rfl rfl rfl) rfl rfl ?_) | (show opsA _ _ _ _ (⟨_, .call _, _, _, _, _⟩ :: _) _ _; refine O_ev WideF.wide rfl (Ev_llen rfl) rfl rfl ?_)) | (show wpA _ _ _ (.exit _) _ _ _ _; refine A_exit rfl ?_) | (show wpA _ _ _ (.cond _ _ _) _ _ _ _; (refine A_if rfl (fun h => ?_) (fun h => ?_) <;> try (exfalso; omega))))
        (refine End_p (Ret1 rfl rfl) ?_)
        refine congrArg Value.bool ?_
        have k1 : x.kind = x'.kind := Decidable.not_not.1 (by assumption)
        have k2 : x.code = x'.code := Decidable.not_not.1 (by assumption)
        have k3 : x.id = x'.id := Decidable.not_not.1 (by assumption)
        have k4 : x.text = x'.text := Decidable.not_not.1 (by assumption)
        have k5 : x.head = x'.head := Decidable.not_not.1 (by assumption)
        rw [Bool.eq_iff_iff]
        simp [Item.ext_iff' x x', k1, k2, k3, k4, k5, he2]
abbrev eqfSt (H : Hp) (a : Option Addr) (n c : Nat) (a' : Option Addr) (n' c' : Nat) (i : Nat) : Sta := ⟨27, [(0, .slice a n c), (1, .slice a' n' c'), (4, .bool false), (5, .int .i64 i)], H, [], [], []⟩
set_option maxRecDepth 100000 in
set_option maxHeartbeats 1000000 in
theorem rEqual_ih {H : Hp} : ∀ N : Nat, N < 68719476736 → EqF 23 H N := by
  intro N
  induction N with
  | zero => intro _ a n c a' n' c' l l' _ _ h; exact absurd h (by omega)
  | succ N ih =>
    intro hN a n cq a' n' cq' l l' hx hx' hm
    have ih : EqF 23 H N := @ih (by omega)
    have hfn := hx.len
    have hfn' := hx'.len
    have hcl := massL_len l
    have no : ∀ {q : Prop}, ¬ q → (l = l' → q) → decide (l = l') = false := fun hq hh => decide_eq_false fun e => hq (hh e)
    refine Fn_of _ _ Try.func23 rfl Try.ntmps23 rfl fun c => ?_
    repeat' (first | refine O_nil ?_ | refine A_seq ?_ | refine A_region ?_ | refine A_skip ?_ | refine A_ret ?_ | refine A_block ?_ | (show opsA _ _ _ _ _ _ _; first | refine O_ev WideF.wide rfl (Ev_pure rfl) rfl rfl ?_ | (show opsA _ _ _ _ (⟨_, .call _, _, _, _, _⟩ :: _) _ _; refine O_ev WideF.wide rfl (Ev_llen rfl) rfl rfl ?_)) | (show wpA _ _ _ (.cond _ _ _) _ _ _ _; (refine A_if rfl (fun h => ?_) (fun h => ?_) <;> try (exfalso; omega))))
    · (refine End_p (Ret1 rfl rfl) ?_)
      rw [no (show ¬ n = n' by omega) (fun e => by subst e; omega)]
    · refine A_loopu (fun m s => ∃ i : Nat, m = n - i ∧ i ≤ n ∧ (∀ j, j < i → l[j]? = l'[j]?) ∧ s = eqfSt H a n cq a' n' cq' i) ?_ ?_
      · exact Shift.to ⟨_, 0, rfl, by omega, fun j hj => absurd hj (by omega), rfl⟩ ⟨rfl, rfl, rfl, ⟨rfl, rfl, rfl, rfl, trivial⟩, Own.sub_nil _⟩
      · rintro m s ⟨i, rfl, hi, hall, rfl⟩
        by_cases hlt : i < n
        · obtain ⟨b, o, ccs, y, rfl, hyi, hyc, hyk, hc⟩ := hx.at i hlt
          obtain ⟨b', o', ccs', y', rfl, hyi', hyc', hyk', hc'⟩ := hx'.at i (by omega)
          have hm2 := massL_mem hyi
          have hcell := rEqualItem_fn ih hyc hyc' (by omega) (by omega)
          have hxx : l = l' → y = y' := fun e => by subst e; rw [hyi] at hyi'; exact Option.some.inj hyi'
          repeat' (first | (refine A_drawi WideF.wide (.q 0 (.q 1 (.q 2 (.q 3 (.q 4 (.q 5 (.q 6 (.q 7 (.e 8 (.q 9 (.done []))))))))))) [] [] [] (by decide +kernel) (by decide) rfl ?_; simp only [Own.picks, Own.rget, List.cons_append, List.nil_append, List.append_nil]) | (refine E_ef rfl (Ef_callp WideF.wide hcell ⟨rfl, rfl, trivial⟩ rfl ?_); refine ⟨Grow.same rfl rfl, ?_⟩) | (refine D_ev rfl (Ev_loadH rfl (by assumption) (by assumption)) rfl rfl ?_) | refine O_nil ?_ | refine A_seq ?_ | refine A_region ?_ | refine A_skip ?_ | refine A_ret ?_ | refine A_block ?_ | (show drJ _ _ _ _ _ _ _ (.q _ _) _; refine D_q rfl ?_) | (show drJ _ _ _ _ _ _ _ (.e _ _) _; refine D_e rfl ?_) | (show drJ _ _ _ _ _ _ _ (.done _) _; refine D_done ?_; simp only [List.cons_append, List.nil_append]) | (show drQ _ _ _ _ _ _; first | refine D_ev rfl (Ev_pure rfl) rfl rfl ?_ | (show drQ _ _ _ ⟨_, .indexAddr _ _ _, _, _, _, _⟩ _ _; refine D_ev rfl (Ev_indexAddr rfl rfl (by omega) (by omega)) rfl rfl ?_) | (show drQ _ _ _ ⟨_, .unOp _ _ _, _, _, _, _⟩ _ _; refine D_ev rfl (Ev_not rfl) rfl rfl ?_)) | (show opsA _ _ _ _ _ _ _; first | refine O_ev WideF.wide rfl (Ev_pure rfl) rfl rfl ?_ | (show opsA _ _ _ _ (⟨_, .call _, _, _, _, _⟩ :: _) _ _; refine O_ev WideF.wide rfl (Ev_llen rfl) rfl rfl ?_) | (show opsA _ _ _ _ (⟨_, .binOp _ _ _ _ _, _, _, _, _⟩ :: _) _ _; refine O_ev WideF.wide rfl (Ev_add rfl rfl (wi64 (by omega))) rfl rfl ?_)) | (show wpA _ _ _ (.cond _ _ _) _ _ _ _; (refine A_if rfl (fun h => ?_) (fun h => ?_) <;> try (exfalso; omega))))
          · (refine End_p (Ret1 rfl rfl) ?_)
            rw [no (by assumption) (fun e => hxx e)]
          · refine Shift.to ⟨_, ?_, i + 1, rfl, by omega, fun j hj => ?_, rfl⟩ ⟨rfl, rfl, rfl, ⟨rfl, rfl, rfl, rfl, trivial⟩, Own.sub_nil _⟩
            · omega
            · by_cases hji : j = i
              · subst hji
                have hq : y = y' := Decidable.not_not.1 (by assumption)
                rw [hyi, hyi', hq]
              · exact hall j (by omega)
        · have hin : n = i := by omega
          subst hin
          have he2 : l = l' := list_ext (by omega) fun j hj => hall j (by omega)
          repeat' (first | refine O_nil ?_ | refine A_seq ?_ | refine A_region ?_ | refine A_ret ?_ | (show opsA _ _ _ _ _ _ _; first | refine O_ev WideF.wide rfl (Ev_pure rfl) rfl rfl ?_ | (show opsA _ _ _ _ (⟨_, .call _, _, _, _, _⟩ :: _) _ _; refine O_ev WideF.wide rfl (Ev_llen rfl) rfl rfl ?_)) | (show wpA _ _ _ (.exit _) _ _ _ _; refine A_exit rfl ?_) | (show wpA _ _ _ (.cond _ _ _) _ _ _ _; (refine A_if rfl (fun h => ?_) (fun h => ?_) <;> try (exfalso; omega))))
          (refine End_p (Ret1 rfl rfl) ?_)
          rw [decide_eq_true he2]
theorem rEqual_fn {H : Hp} {a : Option Addr} {n c : Nat} {a' : Option Addr} {n' c' : Nat} {l l' : List Item} (hx : FlowH H a n c l) (hx' : FlowH H a' n' c' l') (hm : massL l < 68719476735) : FnP Try.prog 23 [.slice a n c, .slice a' n' c'] H (.bool (decide (l = l'))) :=
  rEqual_ih (massL l + 1) (by omega) hx hx' (by omega)
end Go.Proofs.Ythbnhcgphkghaaa
