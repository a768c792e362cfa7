/-
  The law's equal; MappingEquals.
-/
import Derived.Test.YtcliojofponpnaaP9
namespace Go.Proofs.Ytcliojofponpnaa
open Go
set_option linter.unusedVariables false
set_option linter.unusedSimpArgs false
attribute [local irreducible] wpA opsA drJ drQ drE Ef Ev Shift Fn
set_option maxRecDepth 100000 in
set_option maxHeartbeats 4000000 in
theorem lequal_fn {H : Hp} {cs cs' : List Value} {s s' : St} (hx : StH H cs s) (hx' : StH H cs' s') (hm : s.gone.length < 68719476736 ∧ s.kept.length < 68719476736) (hm' : s'.gone.length < 68719476736 ∧ s'.kept.length < 68719476736) :
    Fn Try.prog 6 [.agg cs.toArray, .agg cs'.toArray] H [] fun v _ I => v = .bool (decide (s = s')) ∧ I = [] := by
  obtain ⟨ga, gn, gc, ka, kn, kc, rfl, hg, hk⟩ := hx.ex
  obtain ⟨ga', gn', gc', ka', kn', kc', rfl, hg', hk'⟩ := hx'.ex
  have e1 := hg.len
  have e2 := hk.len
  have e3 := hg'.len
  have e4 := hk'.len
  rw [List.length_map] at e1 e2 e3 e4
  obtain ⟨f, a, o, w, g, k⟩ := s
  obtain ⟨f', a', o', w', g', k'⟩ := s'
  dsimp only at *
  refine Fn_of _ _ Try.func6 rfl Try.ntmps6 rfl fun c => ?_
  repeat' (first | (show opsA _ _ _ _ (⟨some 2, .box _ _, _, _, _, _⟩ :: _) _ _; refine O_ef rfl (Ef_boxa WideF.wide (cs := [.int .i64 f, .int .i64 a, .int .i64 o, .int .i64 w, .slice ga gn gc, .slice ka kn kc]) rfl rfl ?_); intro b2; refine O_freezeBox (stc_one rfl rfl) ?_; intro H2 hle2 hb2) | (show opsA _ _ _ _ (⟨some 3, .box _ _, _, _, _, _⟩ :: _) _ _; refine O_ef rfl (Ef_boxa WideF.wide (cs := [.int .i64 f', .int .i64 a', .int .i64 o', .int .i64 w', .slice ga' gn' gc', .slice ka' kn' kc']) rfl rfl ?_); intro b3; refine O_freezeBox (stc_one rfl rfl) ?_; intro H3 hle3 hb3; have hb2 := hb2.mono hle3; have gl := hle2.trans hle3) | (show opsA _ _ _ _ (⟨_, .load _ _, _, _, _, _⟩ :: _) _ _; first | refine O_ev WideF.wide rfl (Ev_loadH1 rfl (hb2 0 _ rfl)) rfl rfl ?_ | refine O_ev WideF.wide rfl (Ev_loadH1 rfl (hb3 0 _ rfl)) rfl rfl ?_ | refine O_ev WideF.wide rfl (Ev_loadH1 rfl (hb2 1 _ rfl)) rfl rfl ?_ | refine O_ev WideF.wide rfl (Ev_loadH1 rfl (hb3 1 _ rfl)) rfl rfl ?_ | refine O_ev WideF.wide rfl (Ev_loadH1 rfl (hb2 2 _ rfl)) rfl rfl ?_ | refine O_ev WideF.wide rfl (Ev_loadH1 rfl (hb3 2 _ rfl)) rfl rfl ?_ | refine O_ev WideF.wide rfl (Ev_loadH1 rfl (hb2 3 _ rfl)) rfl rfl ?_ | refine O_ev WideF.wide rfl (Ev_loadH1 rfl (hb3 3 _ rfl)) rfl rfl ?_ | refine O_ev WideF.wide rfl (Ev_loadH1 rfl (hb2 4 _ rfl)) rfl rfl ?_ | refine O_ev WideF.wide rfl (Ev_loadH1 rfl (hb3 4 _ rfl)) rfl rfl ?_ | refine O_ev WideF.wide rfl (Ev_loadH1 rfl (hb2 5 _ rfl)) rfl rfl ?_ | refine O_ev WideF.wide rfl (Ev_loadH1 rfl (hb3 5 _ rfl)) rfl rfl ?_) | refine O_nil ?_ | refine A_seq ?_ | refine A_region ?_ | refine A_skip ?_ | refine A_ret ?_ | refine A_block ?_ | (show opsA _ _ _ _ _ _ _; first | (refine O_split rfl rfl (fun h => ?_) (fun h => ?_) <;> try (exfalso; omega)) | refine O_ev WideF.wide rfl (Ev_pure rfl) rfl rfl ?_ | (show opsA _ _ _ _ (⟨_, .fieldAddr _ _ _, _, _, _, _⟩ :: _) _ _; refine O_ev WideF.wide rfl (Ev_fieldAddr rfl rfl rfl) rfl rfl ?_) | (show opsA _ _ _ _ (⟨_, .call _, _, _, _, _⟩ :: _) _ _; refine O_ev WideF.wide rfl (Ev_llen rfl) rfl rfl ?_) | refine O_skip WideF.wide rfl rfl rfl ?_) | (show wpA _ _ _ (.cond _ _ _) _ _ _ _; first | (refine A_if rfl (fun h => ?_) (fun h => ?_) <;> try (exfalso; omega)) | refine A_iftrue rfl ?_))
  all_goals first
    | (exfalso; omega)
    | (refine End_e (Ret1 rfl rfl) ⟨congrArg Value.bool (decide_eq_false (fun e => ?_)).symm, rfl⟩; cases e; first | omega | exact absurd rfl (by assumption))
    | skip
  refine A_loopu (fun m st => ∃ i : Nat, m = gn - i ∧ i ≤ gn ∧ (∀ j, j < i → g[j]? = g'[j]?) ∧ st = ⟨87, [(2, .pointer (some ⟨b2, 0, none⟩)), (3, .pointer (some ⟨b3, 0, none⟩)), (4, .bool false), (5, .int .i64 (i : Int))], H3, [], [], []⟩) ?_ ?_
  · exact Shift.to ⟨_, 0, rfl, by omega, fun j hj => absurd hj (by omega), rfl⟩ ⟨rfl, rfl, rfl, ⟨rfl, rfl, rfl, rfl, trivial⟩, Own.sub_nil _⟩
  · rintro m st ⟨i, rfl, hi, hall, rfl⟩
    by_cases hlt : i < gn
    · obtain ⟨b, o1, y, rfl, hyi, hc⟩ := (hg.mono gl).atm i hlt
      obtain ⟨b', o1', y', rfl, hyi', hc'⟩ := (hg'.mono gl).atm i (by omega)
      repeat' (first | (show opsA _ _ _ _ (⟨_, .load _ _, _, _, _, _⟩ :: _) _ _; refine O_ev WideF.wide rfl (Ev_loadH1 rfl (hb2 4 _ rfl)) rfl rfl ?_) | (refine A_drawM WideF.wide (.q 0 (.q 1 (.q 2 (.q 3 (.q 4 (.q 5 (.q 6 (.q 7 (.q 8 (.q 9 (.q 10 (.done [])))))))))))) [] (by decide +kernel) ?_) | (refine D_ev rfl (Ev_neS rfl rfl Try.eqGuardType61 (eq_gone _ _)) rfl rfl ?_) | (show drQ _ _ _ ⟨_, .load _ _, _, _, _, _⟩ _ _; first | refine D_ev rfl (Ev_loadH1 rfl (hb2 4 _ rfl)) rfl rfl ?_ | refine D_ev rfl (Ev_loadH1 rfl (hb3 4 _ rfl)) rfl rfl ?_ | refine D_ev rfl (Ev_loadH rfl hc rfl) rfl rfl ?_ | refine D_ev rfl (Ev_loadH rfl hc' rfl) rfl rfl ?_) | refine O_nil ?_ | refine A_seq ?_ | refine A_region ?_ | refine A_skip ?_ | refine A_ret ?_ | refine A_block ?_ | (show drJ _ _ _ _ _ _ _ (.q _ _) _; refine D_q rfl ?_) | (show drJ _ _ _ _ _ _ _ (.done _) _; refine D_done ?_; simp only [List.cons_append, List.nil_append]) | (show drQ _ _ _ _ _ _; first | refine D_ev rfl (Ev_pure rfl) rfl rfl ?_ | (show drQ _ _ _ ⟨_, .indexAddr _ _ _, _, _, _, _⟩ _ _; refine D_ev rfl (Ev_indexAddr rfl rfl (by omega) (by omega)) rfl rfl ?_) | (show drQ _ _ _ ⟨_, .fieldAddr _ _ _, _, _, _, _⟩ _ _; refine D_ev rfl (Ev_fieldAddr rfl rfl rfl) rfl rfl ?_)) | (show opsA _ _ _ _ _ _ _; first | refine O_ev WideF.wide rfl (Ev_pure rfl) rfl rfl ?_ | (show opsA _ _ _ _ (⟨_, .fieldAddr _ _ _, _, _, _, _⟩ :: _) _ _; refine O_ev WideF.wide rfl (Ev_fieldAddr rfl rfl rfl) rfl rfl ?_) | (show opsA _ _ _ _ (⟨_, .call _, _, _, _, _⟩ :: _) _ _; refine O_ev WideF.wide rfl (Ev_llen rfl) rfl rfl ?_) | (show opsA _ _ _ _ (⟨_, .binOp _ _ _ _ _, _, _, _, _⟩ :: _) _ _; refine O_ev WideF.wide rfl (Ev_add rfl rfl (wi64 (by omega))) rfl rfl ?_)) | (show wpA _ _ _ (.cond _ _ _) _ _ _ _; (refine A_if rfl (fun h => ?_) (fun h => ?_) <;> try (exfalso; omega))))
      all_goals try (exfalso; omega)
      · refine End_e (Ret1 rfl rfl) ⟨congrArg Value.bool (decide_eq_false (fun e => ?_)).symm, rfl⟩
        cases e
        rw [hyi] at hyi'
        exact absurd (Option.some.inj hyi') (by assumption)
      · refine Shift.to ⟨_, ?_, i + 1, rfl, by omega, fun j hj => ?_, rfl⟩ ⟨rfl, rfl, rfl, ⟨rfl, rfl, rfl, rfl, trivial⟩, Own.sub_nil _⟩
        · omega
        · by_cases hji : j = i
          · subst hji
            rw [hyi, hyi']
            exact congrArg some (Decidable.not_not.1 (by assumption))
          · exact hall j (by omega)
    · have hgg : g = g' := list_ext (by omega) fun j hj => hall j (by omega)
      repeat' (first | (show opsA _ _ _ _ (⟨_, .load _ _, _, _, _, _⟩ :: _) _ _; refine O_ev WideF.wide rfl (Ev_loadH1 rfl (hb2 4 _ rfl)) rfl rfl ?_) | refine O_nil ?_ | refine A_seq ?_ | refine A_region ?_ | refine A_block ?_ | (show opsA _ _ _ _ _ _ _; first | refine O_ev WideF.wide rfl (Ev_pure rfl) rfl rfl ?_ | (show opsA _ _ _ _ (⟨_, .fieldAddr _ _ _, _, _, _, _⟩ :: _) _ _; refine O_ev WideF.wide rfl (Ev_fieldAddr rfl rfl rfl) rfl rfl ?_) | (show opsA _ _ _ _ (⟨_, .call _, _, _, _, _⟩ :: _) _ _; refine O_ev WideF.wide rfl (Ev_llen rfl) rfl rfl ?_)) | (show wpA _ _ _ (.exit _) _ _ _ _; refine A_exit rfl ?_) | (show wpA _ _ _ (.cond _ _ _) _ _ _ _; (refine A_if rfl (fun h => ?_) (fun h => ?_) <;> try (exfalso; omega))))
      all_goals try (exfalso; omega)
      refine A_loopu (fun m st => ∃ i : Nat, m = kn - i ∧ i ≤ kn ∧ (∀ j, j < i → k[j]? = k'[j]?) ∧ st = ⟨87, [(2, .pointer (some ⟨b2, 0, none⟩)), (3, .pointer (some ⟨b3, 0, none⟩)), (4, .bool false), (6, .int .i64 (i : Int))], H3, [], [], []⟩) ?_ ?_
      · exact Shift.to ⟨_, 0, rfl, by omega, fun j hj => absurd hj (by omega), rfl⟩ ⟨rfl, rfl, rfl, ⟨rfl, rfl, rfl, rfl, trivial⟩, Own.sub_nil _⟩
      · rintro m st ⟨i, rfl, hi, hall, rfl⟩
        by_cases hlt : i < kn
        · obtain ⟨b, o1, y, rfl, hyi, hc⟩ := (hk.mono gl).atm i hlt
          obtain ⟨b', o1', y', rfl, hyi', hc'⟩ := (hk'.mono gl).atm i (by omega)
          repeat' (first | (show opsA _ _ _ _ (⟨_, .load _ _, _, _, _, _⟩ :: _) _ _; refine O_ev WideF.wide rfl (Ev_loadH1 rfl (hb2 5 _ rfl)) rfl rfl ?_) | (refine A_drawM WideF.wide (.q 0 (.q 1 (.q 2 (.q 3 (.q 4 (.q 5 (.q 6 (.q 7 (.q 8 (.q 9 (.q 10 (.done [])))))))))))) [] (by decide +kernel) ?_) | (refine D_ev rfl (Ev_neS rfl rfl Try.eqGuardType64 (eq_kept _ _)) rfl rfl ?_) | (show drQ _ _ _ ⟨_, .load _ _, _, _, _, _⟩ _ _; first | refine D_ev rfl (Ev_loadH1 rfl (hb2 5 _ rfl)) rfl rfl ?_ | refine D_ev rfl (Ev_loadH1 rfl (hb3 5 _ rfl)) rfl rfl ?_ | refine D_ev rfl (Ev_loadH rfl hc rfl) rfl rfl ?_ | refine D_ev rfl (Ev_loadH rfl hc' rfl) rfl rfl ?_) | refine O_nil ?_ | refine A_seq ?_ | refine A_region ?_ | refine A_skip ?_ | refine A_ret ?_ | refine A_block ?_ | (show drJ _ _ _ _ _ _ _ (.q _ _) _; refine D_q rfl ?_) | (show drJ _ _ _ _ _ _ _ (.done _) _; refine D_done ?_; simp only [List.cons_append, List.nil_append]) | (show drQ _ _ _ _ _ _; first | refine D_ev rfl (Ev_pure rfl) rfl rfl ?_ | (show drQ _ _ _ ⟨_, .indexAddr _ _ _, _, _, _, _⟩ _ _; refine D_ev rfl (Ev_indexAddr rfl rfl (by omega) (by omega)) rfl rfl ?_) | (show drQ _ _ _ ⟨_, .fieldAddr _ _ _, _, _, _, _⟩ _ _; refine D_ev rfl (Ev_fieldAddr rfl rfl rfl) rfl rfl ?_)) | (show opsA _ _ _ _ _ _ _; first | refine O_ev WideF.wide rfl (Ev_pure rfl) rfl rfl ?_ | (show opsA _ _ _ _ (⟨_, .fieldAddr _ _ _, _, _, _, _⟩ :: _) _ _; refine O_ev WideF.wide rfl (Ev_fieldAddr rfl rfl rfl) rfl rfl ?_) | (show opsA _ _ _ _ (⟨_, .call _, _, _, _, _⟩ :: _) _ _; refine O_ev WideF.wide rfl (Ev_llen rfl) rfl rfl ?_) | (show opsA _ _ _ _ (⟨_, .binOp _ _ _ _ _, _, _, _, _⟩ :: _) _ _; refine O_ev WideF.wide rfl (Ev_add rfl rfl (wi64 (by omega))) rfl rfl ?_)) | (show wpA _ _ _ (.cond _ _ _) _ _ _ _; (refine A_if rfl (fun h => ?_) (fun h => ?_) <;> try (exfalso; omega))))
          all_goals try (exfalso; omega)
          · refine End_e (Ret1 rfl rfl) ⟨congrArg Value.bool (decide_eq_false (fun e => ?_)).symm, rfl⟩
            cases e
            rw [hyi] at hyi'
            exact absurd (Option.some.inj hyi') (by assumption)
          · refine Shift.to ⟨_, ?_, i + 1, rfl, by omega, fun j hj => ?_, rfl⟩ ⟨rfl, rfl, rfl, ⟨rfl, rfl, rfl, rfl, trivial⟩, Own.sub_nil _⟩
            · omega
            · by_cases hji : j = i
              · subst hji
                rw [hyi, hyi']
                exact congrArg some (Decidable.not_not.1 (by assumption))
              · exact hall j (by omega)
        · have hkk : k = k' := list_ext (by omega) fun j hj => hall j (by omega)
          repeat' (first | (show opsA _ _ _ _ (⟨_, .load _ _, _, _, _, _⟩ :: _) _ _; refine O_ev WideF.wide rfl (Ev_loadH1 rfl (hb2 5 _ rfl)) rfl rfl ?_) | refine O_nil ?_ | refine A_seq ?_ | refine A_region ?_ | refine A_ret ?_ | (show opsA _ _ _ _ _ _ _; first | refine O_ev WideF.wide rfl (Ev_pure rfl) rfl rfl ?_ | (show opsA _ _ _ _ (⟨_, .fieldAddr _ _ _, _, _, _, _⟩ :: _) _ _; refine O_ev WideF.wide rfl (Ev_fieldAddr rfl rfl rfl) rfl rfl ?_) | (show opsA _ _ _ _ (⟨_, .call _, _, _, _, _⟩ :: _) _ _; refine O_ev WideF.wide rfl (Ev_llen rfl) rfl rfl ?_)) | (show wpA _ _ _ (.exit _) _ _ _ _; refine A_exit rfl ?_) | (show wpA _ _ _ (.cond _ _ _) _ _ _ _; (refine A_if rfl (fun h => ?_) (fun h => ?_) <;> try (exfalso; omega))))
          all_goals first
            | (exfalso; omega)
            | (refine End_e (Ret1 rfl rfl) ⟨congrArg Value.bool (decide_eq_true ?_).symm, rfl⟩; subst hgg hkk; rw [St.mk.injEq]; exact ⟨by omega, by omega, by omega, by omega, rfl, rfl⟩)
set_option maxRecDepth 100000 in
set_option maxHeartbeats 4000000 in
theorem MappingEquals_fn {H : Hp} {cs cs' : List Value} {s s' : St} (hx : StH H cs s) (hx' : StH H cs' s') (hm : s.gone.length < 68719476736 ∧ s.kept.length < 68719476736) (hm' : s'.gone.length < 68719476736 ∧ s'.kept.length < 68719476736) :
    Fn Try.prog 3 [.agg cs.toArray, .agg cs'.toArray] H [] fun v _ I => v = .bool true ∧ I = [] := by
  have hk := fun Hx => known_fn (H := Hx)
  have h1 := fun Hx (h : HLe H Hx) => mEqual_fn (hx.mono h) (hx'.mono h) hm
  have h2 := fun Hx (h : HLe H Hx) => mEqual_fn (hx.mono h) (hx.mono h) hm
  have h3 := fun Hx (h : HLe H Hx) => lequal_fn (hx.mono h) (hx'.mono h) hm hm'
  simp only [decide_true] at h2
  obtain ⟨ga, gn, gc, ka, kn, kc, rfl, hg, hkk⟩ := hx.ex
  obtain ⟨ga', gn', gc', ka', kn', kc', rfl, hg', hkk'⟩ := hx'.ex
  generalize decide (s = s') = eqv at *
  refine Fn_of _ _ Try.func3 rfl Try.ntmps3 rfl fun c => ?_
  repeat' (first | (show opsA _ _ _ _ (⟨some 2, .box _ _, _, _, _, _⟩ :: _) _ _; refine O_ef rfl (Ef_boxa WideF.wide (cs := [.int .i64 s.flow, .int .i64 s.at_, .int .i64 s.old, .int .i64 s.new, .slice ga gn gc, .slice ka kn kc]) rfl rfl ?_); intro b2; refine O_freezeBox (stc_one rfl rfl) ?_; intro H2 hle2 hb2) | (show opsA _ _ _ _ (⟨some 3, .box _ _, _, _, _, _⟩ :: _) _ _; refine O_ef rfl (Ef_boxa WideF.wide (cs := [.int .i64 s'.flow, .int .i64 s'.at_, .int .i64 s'.old, .int .i64 s'.new, .slice ga' gn' gc', .slice ka' kn' kc']) rfl rfl ?_); intro b3; refine O_freezeBox (stc_one rfl rfl) ?_; intro H3 hle3 hb3; have hb2 := hb2.mono hle3; have gl := hle2.trans hle3; clear hle2 hle3) | (refine O_ef rfl (Ef_call (I := []) WideF.wide (hk _) trivial rfl ?_); rintro v H4 I4 hle4 ⟨rfl, rfl⟩); have hb2 := hb2.mono hle4; have hb3 := hb3.mono hle4; have gl := gl.trans hle4; clear hle4 | (show opsA _ _ _ _ (⟨_, .load _ _, _, _, _, _⟩ :: _) _ _; first | refine O_ev WideF.wide rfl (Ev_loadH1 rfl (hb2 4 _ rfl)) rfl rfl ?_ | refine O_ev WideF.wide rfl (Ev_loadH1 rfl (hb3 4 _ rfl)) rfl rfl ?_ | refine O_ev WideF.wide rfl (Ev_loadH1 rfl (hb2 5 _ rfl)) rfl rfl ?_ | refine O_ev WideF.wide rfl (Ev_loadH1 rfl (hb3 5 _ rfl)) rfl rfl ?_) | (refine A_drawM WideF.wide (.q 0 (.q 1 (.q 3 (.q 4 (.e 2 (.e 5 (.q 6 (.q 7 (.q 8 (.q 9 (.e 10 (.q 11 (.q 12 (.done [])))))))))))))) [] (by decide +kernel) ?_) | (show drQ _ _ _ ⟨_, .load _ _, _, _, _, _⟩ _ _; first | refine D_ev rfl (Ev_loadH rfl hb2 rfl) rfl rfl ?_ | refine D_ev rfl (Ev_loadH rfl hb3 rfl) rfl rfl ?_) | (refine E_ef rfl (Ef_callp WideF.wide (h1 _ gl) ⟨rfl, rfl, trivial⟩ rfl ?_); refine ⟨Grow.same rfl rfl, ?_⟩) | (refine E_ef rfl (Ef_call (I := []) WideF.wide (h3 _ gl) ⟨rfl, rfl, trivial⟩ rfl ?_); rintro v H5 I5 hle5 ⟨rfl, rfl⟩; refine ⟨⟨hle5, rfl⟩, ?_⟩); have hb2 := hb2.mono hle5; have hb3 := hb3.mono hle5; have gl := gl.trans hle5; clear hle5 | (refine E_ef rfl (Ef_callp WideF.wide (h2 _ gl) ⟨rfl, rfl, trivial⟩ rfl ?_); refine ⟨Grow.same rfl rfl, ?_⟩) | (refine D_ev rfl (Ev_eqbs rfl rfl) rfl rfl ?_) | refine O_nil ?_ | refine A_seq ?_ | refine A_region ?_ | refine A_skip ?_ | refine A_ret ?_ | (show drJ _ _ _ _ _ _ _ (.q _ _) _; refine D_q rfl ?_) | (show drJ _ _ _ _ _ _ _ (.e _ _) _; refine D_e rfl ?_) | (show drJ _ _ _ _ _ _ _ (.done _) _; refine D_done ?_; simp only [List.cons_append, List.nil_append]) | (show drQ _ _ _ _ _ _; refine D_ev rfl (Ev_pure rfl) rfl rfl ?_) | (show opsA _ _ _ _ _ _ _; first | (refine O_split rfl rfl (fun h => ?_) (fun h => ?_) <;> try (exfalso; omega)) | refine O_ev WideF.wide rfl (Ev_pure rfl) rfl rfl ?_ | (show opsA _ _ _ _ (⟨_, .fieldAddr _ _ _, _, _, _, _⟩ :: _) _ _; refine O_ev WideF.wide rfl (Ev_fieldAddr rfl rfl rfl) rfl rfl ?_) | (show opsA _ _ _ _ (⟨_, .call _, _, _, _, _⟩ :: _) _ _; refine O_ev WideF.wide rfl (Ev_llen rfl) rfl rfl ?_) | (show opsA _ _ _ _ (⟨_, .unOp _ _ _, _, _, _, _⟩ :: _) _ _; refine O_ev WideF.wide rfl (Ev_notb rfl) rfl rfl ?_) | refine O_skip WideF.wide rfl rfl rfl ?_) | (show wpA _ _ _ (.cond _ _ _) _ _ _ _; first | (refine A_if rfl (fun h => ?_) (fun h => ?_) <;> try (exfalso; omega)) | refine A_iftrue rfl ?_))
  all_goals first
    | (exfalso; omega)
    | exact End_e (Ret1 rfl rfl) ⟨rfl, rfl⟩
    | trace_state
end Go.Proofs.Ytcliojofponpnaa
