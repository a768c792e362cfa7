/-
  LeveltextParses, LeveltextReturns, LeveltextUses, LeveltextShifts.
-/
import Derived.Test.YtaneeaojlkenmaaGreatDoorL21
namespace Go.Proofs.YtaneeaojlkenmaaGreatDoor
open Go Go.Lib
set_option linter.unusedVariables false
set_option linter.unusedSimpArgs false
theorem HRow.n_eq {H : Hp} {α : Type} {f : α → List Value} {l : List α} {a : Option Addr} {n c k : Nat} (h : HRow H a n c k (l.map f)) : n = l.length := by have := h.len; rw [List.length_map] at this; exact this.symm
theorem take80 (s : List UInt8) : (s.take 80).length < 1099511627776 := by rw [List.length_take]; omega
attribute [local irreducible] wpA opsA drJ drQ drE Ef Ev Shift Fn
set_option maxRecDepth 100000 in
theorem mcut_fn {H : Hp} {s : List UInt8} : FnP Tryz.prog 13 [sv s] H (sv (s.take 80)) := by
  refine Fn_of _ _ Tryz.func13 rfl Tryz.ntmps13 rfl fun c => ?_
  by_cases h : 80 < s.length
  · have e1 : (if (80 : Int) < (s.length : Int) then (80 : Int) else (s.length : Int)) = 80 := if_pos (by omega)
    repeat' (first | (refine O_ev WideF.wide rfl (Ev_mini rfl rfl) rfl rfl ?_; rw [e1]) | (refine O_ev WideF.wide rfl (Ev_ssliceh rfl rfl (by omega) (by omega)) rfl rfl ?_) | refine O_nil ?_ | refine A_seq ?_ | refine A_region ?_ | refine A_ret ?_ | (show opsA _ _ _ _ _ _ _; first | refine O_ev WideF.wide rfl (Ev_pure rfl) rfl rfl ?_ | (show opsA _ _ _ _ (⟨_, .call _, _, _, _, _⟩ :: _) _ _; refine O_ev WideF.wide rfl (Ev_slen rfl) rfl rfl ?_)))
    exact End_p (Ret1 rfl rfl) rfl
  · have e1 : (if (80 : Int) < (s.length : Int) then (80 : Int) else (s.length : Int)) = s.length := if_neg (by omega)
    repeat' (first | (refine O_ev WideF.wide rfl (Ev_mini rfl rfl) rfl rfl ?_; rw [e1]) | (refine O_ev WideF.wide rfl (Ev_ssliceh rfl rfl (by omega) (by omega)) rfl rfl ?_) | refine O_nil ?_ | refine A_seq ?_ | refine A_region ?_ | refine A_ret ?_ | (show opsA _ _ _ _ _ _ _; first | refine O_ev WideF.wide rfl (Ev_pure rfl) rfl rfl ?_ | (show opsA _ _ _ _ (⟨_, .call _, _, _, _, _⟩ :: _) _ _; refine O_ev WideF.wide rfl (Ev_slen rfl) rfl rfl ?_)))
    refine End_p (Ret1 rfl rfl) ?_
    rw [List.take_of_length_le (l := s) (i := 80) (by omega)]
    simp
set_option maxRecDepth 100000 in
theorem LeveltextParses_fn {H : Hp} (hE : EnvH H) {s : List UInt8} : Fn Tryz.prog 3 [sv s] H [] fun v _ I => v = .bool true ∧ I = [] := by
  have hc := fun Hx => mcut_fn (H := Hx) (s := s)
  have h1 := fun Hx => lParse_fn (H := Hx) (take80 s)
  have h2 := fun Hx => rParse10_fn (H := Hx) (take80 s)
  have hk := fun Hx (h : HLe H Hx) => known_fn (hE.mono h)
  have hpl := parts_len (s := s.take 80)
  unfold ParseH at h1 h2
  generalize tplE (s.take 80) = t at *
  obtain ⟨ps, e⟩ := t
  dsimp only at h1 h2 hpl
  have hpt := fun Hx a n c (h : HRow Hx a n c 3 (ps.map prow)) (hn : n < 68719476736) => parts_fn h hn
  unfold PtsIs at hpt
  have hsm := fun Hx a n c a' n' c' (h : HRow Hx a n c 3 (ps.map prow)) (h' : HRow Hx a' n' c' 3 (ps.map prow)) (hn : n < 68719476736) => Same_fn h h' hn
  simp only [decide_true] at hsm
  refine Fn_of _ _ Tryz.func3 rfl Tryz.ntmps3 rfl fun c => ?_
  repeat' (first | (refine O_ef rfl (Ef_callp WideF.wide (hc _) ⟨rfl, trivial⟩ rfl ?_)) | (refine O_ef rfl (Ef_call (I := []) WideF.wide (h1 _) ⟨rfl, trivial⟩ rfl ?_); rintro v H1 I1 hle1 ⟨a1, n1, c1, rfl, r1, rfl⟩) | (refine O_ef rfl (Ef_call (I := []) WideF.wide (h2 _) ⟨rfl, trivial⟩ rfl ?_); rintro v H2 I2 hle2 ⟨a2, n2, c2, rfl, r2, rfl⟩) | (refine O_ef rfl (Ef_call (I := []) WideF.wide (hk _ (hle1.trans hle2)) trivial rfl ?_); rintro v H3 I3 hle3 ⟨rfl, rfl⟩) | (refine O_ev WideF.wide rfl (Ev_eqis rfl rfl) rfl rfl ?_) | (refine O_ef rfl (Ef_call (I := []) WideF.wide (hpt _ _ _ _ (r1.mono (hle2.trans hle3)) (by have := r1.n_eq; omega)) ⟨rfl, trivial⟩ rfl ?_); rintro v H4 I4 hle4 ⟨a4, n4, c4, rfl, r4, rfl⟩) | (refine O_ef rfl (Ef_callp WideF.wide (hsm _ _ _ _ _ _ _ r4 (r2.mono (hle3.trans hle4)) (by have := r4.n_eq; omega)) ⟨rfl, rfl, trivial⟩ rfl ?_)) | refine O_nil ?_ | refine A_seq ?_ | refine A_region ?_ | refine A_ret ?_ | (show opsA _ _ _ _ _ _ _; refine O_ev WideF.wide rfl (Ev_pure rfl) rfl rfl ?_))
  all_goals first
    | exact End_e (Ret1 rfl rfl) ⟨rfl, rfl⟩
    | (exfalso; exact absurd trivial (by assumption))
set_option maxRecDepth 100000 in
set_option maxHeartbeats 1000000 in
theorem LeveltextReturns_fn {H : Hp} (hE : EnvH H) (hM : MaxH H) {s : List UInt8} : Fn Tryz.prog 11 [sv s] H [] fun v _ I => v = .bool true ∧ I = [] := by
  have hc := fun Hx => mcut_fn (H := Hx) (s := s)
  have h1 := fun Hx => lParse_fn (H := Hx) (take80 s)
  have hk := fun Hx (h : HLe H Hx) => known_fn (hE.mono h)
  have hpl := parts_len (s := s.take 80)
  have hll := lit_len (s := s.take 80)
  have hpo := parts_ok (s := s.take 80)
  have hpr := fun Hx (h : HLe H Hx) a n c (hr : HRow Hx a n c 3 ((tplE (s.take 80)).1.map prow)) (hn : n ≤ 1000) => Print_fn (hM.mono h) hr hn (fun p hp => by
    have h1 := hll p hp
    have h2 := hpo p hp
    unfold PartOk at h2
    exact ⟨by omega, by constructor <;> omega⟩)
  unfold ParseH at h1
  unfold prtV at hpr
  by_cases he : (tplE (s.take 80)).2 = 0
  · have e' : tplE (s.take 80) = ((tplE (s.take 80)).1, 0) := by rw [← he]
    rw [prt_returns e'] at hpr
    rw [he] at h1
    generalize (tplE (s.take 80)).1 = ps at *
    dsimp only at hpr
    refine Fn_of _ _ Tryz.func11 rfl Tryz.ntmps11 rfl fun c => ?_
    repeat' (first | (refine O_ef rfl (Ef_callp WideF.wide (hc _) ⟨rfl, trivial⟩ rfl ?_)) | (refine O_ef rfl (Ef_call (I := []) WideF.wide (h1 _) ⟨rfl, trivial⟩ rfl ?_); rintro v H1 I1 hle1 ⟨a1, n1, c1, rfl, r1, rfl⟩) | (refine O_ef rfl (Ef_call (I := []) WideF.wide (hk _ hle1) trivial rfl ?_); rintro v H3 I3 hle3 ⟨rfl, rfl⟩) | (refine O_ef rfl (Ef_call (I := []) WideF.wide (hpr _ (hle1.trans hle3) _ _ _ (r1.mono hle3) (by have := r1.n_eq; omega)) ⟨rfl, trivial⟩ rfl ?_); rintro v H4 I4 hle4 ⟨rfl, rfl⟩) | (refine O_ev WideF.wide rfl (Ev_seqs rfl rfl) rfl rfl ?_) | refine O_nil ?_ | refine A_seq ?_ | refine A_region ?_ | refine A_skip ?_ | refine A_ret ?_ | (show opsA _ _ _ _ _ _ _; first | (refine O_split rfl rfl (fun h => ?_) (fun h => ?_) <;> try (exfalso; omega)) | refine O_ev WideF.wide rfl (Ev_pure rfl) rfl rfl ?_ | (show opsA _ _ _ _ (⟨_, .unOp _ _ _, _, _, _, _⟩ :: _) _ _; refine O_ev WideF.wide rfl (Ev_notb rfl) rfl rfl ?_)) | (show wpA _ _ _ (.cond _ _ _) _ _ _ _; (refine A_if rfl (fun h => ?_) (fun h => ?_) <;> try (exfalso; omega))))
    all_goals first
      | exact End_e (Ret1 rfl rfl) ⟨rfl, rfl⟩
      | (exfalso; exact absurd trivial (by assumption))
  · generalize (tplE (s.take 80)).2 = e at *
    refine Fn_of _ _ Tryz.func11 rfl Tryz.ntmps11 rfl fun c => ?_
    repeat' (first | (refine O_ef rfl (Ef_callp WideF.wide (hc _) ⟨rfl, trivial⟩ rfl ?_)) | (refine O_ef rfl (Ef_call (I := []) WideF.wide (h1 _) ⟨rfl, trivial⟩ rfl ?_); rintro v H1 I1 hle1 ⟨a1, n1, c1, rfl, r1, rfl⟩) | (refine O_ef rfl (Ef_call (I := []) WideF.wide (hk _ (by first | exact hle1 | exact hle1.trans hle3)) trivial rfl ?_); rintro v H3 I3 hle3 ⟨rfl, rfl⟩) | refine O_nil ?_ | refine A_seq ?_ | refine A_region ?_ | refine A_ret ?_ | (show opsA _ _ _ _ _ _ _; first | refine O_ev WideF.wide rfl (Ev_pure rfl) rfl rfl ?_ | (show opsA _ _ _ _ (⟨_, .unOp _ _ _, _, _, _, _⟩ :: _) _ _; refine O_ev WideF.wide rfl (Ev_notb rfl) rfl rfl ?_)) | (show wpA _ _ _ (.cond _ _ _) _ _ _ _; (refine A_if rfl (fun h => ?_) (fun h => ?_) <;> try (exfalso; omega))))
    all_goals first
      | exact End_e (Ret1 rfl rfl) ⟨rfl, rfl⟩
      | (exfalso; omega)
set_option maxRecDepth 100000 in
set_option maxHeartbeats 1000000 in
theorem LeveltextUses_fn {H : Hp} (hE : EnvH H) {s : List UInt8} : Fn Tryz.prog 12 [sv s] H [] fun v _ I => v = .bool true ∧ I = [] := by
  have hc := fun Hx => mcut_fn (H := Hx) (s := s)
  have h1 := fun Hx => lUsed_fn (H := Hx) (take80 s)
  have h2 := fun Hx => rParse10_fn (H := Hx) (take80 s)
  have hk := fun Hx (h : HLe H Hx) => known_fn (hE.mono h)
  have hpl := parts_len (s := s.take 80)
  unfold UsedH at h1
  unfold ParseH at h2
  generalize tplE (s.take 80) = t at *
  obtain ⟨ps, e⟩ := t
  dsimp only at h1 h2 hpl
  have hus := fun Hx a n c (h : HRow Hx a n c 3 (ps.map prow)) (hn : n < 68719476736) => rUsed_fn h hn
  unfold IntsIs at hus
  have hul : (usedL ps).length ≤ 9 := usedUp_len ps 9
  generalize usedL ps = us at *
  refine Fn_of _ _ Tryz.func12 rfl Tryz.ntmps12 rfl fun c => ?_
  repeat' (first | (refine O_ef rfl (Ef_callp WideF.wide (hc _) ⟨rfl, trivial⟩ rfl ?_)) | (refine O_ef rfl (Ef_call (I := []) WideF.wide (h1 _) ⟨rfl, trivial⟩ rfl ?_); rintro v H1 I1 hle1 ⟨a1, n1, c1, rfl, r1, rfl⟩); obtain rfl := r1.n_eq | (refine O_ef rfl (Ef_call (I := []) WideF.wide (h2 _) ⟨rfl, trivial⟩ rfl ?_); rintro v H2 I2 hle2 ⟨a2, n2, c2, rfl, r2, rfl⟩) | (refine O_ef rfl (Ef_call (I := []) WideF.wide (hus _ _ _ _ r2 (by have := r2.n_eq; omega)) ⟨rfl, trivial⟩ rfl ?_); rintro v H4 I4 hle4 ⟨a4, n4, c4, rfl, r4, rfl⟩); obtain rfl := r4.n_eq | (refine O_ef rfl (Ef_call (I := []) WideF.wide (hk _ ((hle1.trans hle2).trans hle4)) trivial rfl ?_); rintro v H3 I3 hle3 ⟨rfl, rfl⟩) | (refine O_ev WideF.wide rfl (Ev_neis rfl rfl) rfl rfl ?_) | refine O_nil ?_ | refine A_seq ?_ | refine A_region ?_ | refine A_skip ?_ | refine A_block ?_ | (show opsA _ _ _ _ _ _ _; first | refine O_ev WideF.wide rfl (Ev_pure rfl) rfl rfl ?_ | (show opsA _ _ _ _ (⟨_, .call _, _, _, _, _⟩ :: _) _ _; refine O_ev WideF.wide rfl (Ev_llen rfl) rfl rfl ?_) | (show opsA _ _ _ _ (⟨_, .unOp _ _ _, _, _, _, _⟩ :: _) _ _; refine O_ev WideF.wide rfl (Ev_notb rfl) rfl rfl ?_)) | (show wpA _ _ _ (.cond _ _ _) _ _ _ _; refine A_iffalse rfl ?_))
  all_goals try (exfalso; omega)
  have r1 := r1.mono ((hle2.trans hle4).trans hle3)
  have r4 := r4.mono hle3
  refine A_loopu (fun m st => ∃ i : Nat, m = us.length - i ∧ i ≤ us.length ∧ st = ⟨52, [(3, .slice a1 us.length c1), (7, .slice a4 us.length c4), (8, .int .i64 i)], H3, [], [], []⟩) ?_ ?_
  · exact Shift.to ⟨_, 0, rfl, by omega, rfl⟩ ⟨rfl, rfl, rfl, ⟨rfl, rfl, rfl, trivial⟩, Own.sub_nil _⟩
  · rintro m st ⟨i, rfl, hi, rfl⟩
    by_cases hlt : i < us.length
    · obtain ⟨b, o, y, rfl, hyi, hc1⟩ := r1.atm i hlt
      obtain ⟨b', o', y', rfl, hyi', hc2⟩ := r4.atm i hlt
      rw [hyi] at hyi'
      cases hyi'
      unfold irow at hc1 hc2
      repeat' (first | (refine A_drawM WideF.wide (.q 0 (.q 1 (.q 2 (.q 3 (.q 4 (.q 5 (.q 6 (.q 7 (.q 8 (.done [])))))))))) [] (by decide +kernel) ?_) | (refine D_ev rfl (Ev_loadH1 rfl (hc1 0 _ rfl)) rfl rfl ?_) | (refine D_ev rfl (Ev_loadH1 rfl (hc2 0 _ rfl)) rfl rfl ?_) | (refine D_ev rfl (Ev_neis rfl rfl) rfl rfl ?_) | refine O_nil ?_ | refine A_seq ?_ | refine A_region ?_ | refine A_skip ?_ | refine A_block ?_ | (show drJ _ _ _ _ _ _ _ (.q _ _) _; refine D_q rfl ?_) | (show drJ _ _ _ _ _ _ _ (.done _) _; refine D_done ?_; simp only [List.cons_append, List.nil_append]) | (show drQ _ _ _ _ _ _; first | refine D_ev rfl (Ev_pure rfl) rfl rfl ?_ | (show drQ _ _ _ ⟨_, .indexAddr _ _ _, _, _, _, _⟩ _ _; refine D_ev rfl (Ev_indexAddr rfl rfl (by omega) (by omega)) rfl rfl ?_)) | (show opsA _ _ _ _ _ _ _; first | refine O_ev WideF.wide rfl (Ev_pure rfl) rfl rfl ?_ | (show opsA _ _ _ _ (⟨_, .call _, _, _, _, _⟩ :: _) _ _; refine O_ev WideF.wide rfl (Ev_llen rfl) rfl rfl ?_) | (show opsA _ _ _ _ (⟨_, .binOp _ _ _ _ _, _, _, _, _⟩ :: _) _ _; refine O_ev WideF.wide rfl (Ev_add rfl rfl (wi64 (by omega))) rfl rfl ?_)) | (show wpA _ _ _ (.cond _ _ _) _ _ _ _; first | (refine A_if rfl (fun h => ?_) (fun h => ?_) <;> try (exfalso; omega)) | refine A_iffalse rfl ?_))
      all_goals try (exfalso; omega)
      refine Shift.to ⟨_, ?_, i + 1, rfl, by omega, rfl⟩ ⟨rfl, rfl, rfl, ⟨rfl, rfl, rfl, trivial⟩, Own.sub_nil _⟩
      omega
    · repeat' (first | refine O_nil ?_ | refine A_seq ?_ | refine A_region ?_ | refine A_ret ?_ | (show opsA _ _ _ _ _ _ _; first | refine O_ev WideF.wide rfl (Ev_pure rfl) rfl rfl ?_ | (show opsA _ _ _ _ (⟨_, .call _, _, _, _, _⟩ :: _) _ _; refine O_ev WideF.wide rfl (Ev_llen rfl) rfl rfl ?_)) | (show wpA _ _ _ (.exit _) _ _ _ _; refine A_exit rfl ?_) | (show wpA _ _ _ (.cond _ _ _) _ _ _ _; (refine A_if rfl (fun h => ?_) (fun h => ?_) <;> try (exfalso; omega))))
      all_goals first
        | (exfalso; omega)
        | exact End_e (Ret1 rfl rfl) ⟨rfl, rfl⟩
end Go.Proofs.YtaneeaojlkenmaaGreatDoor
