import Derived.Test.YtnoadopmeoohmaaGreatDoorZ22
/-
  lazy, eval. Printed by genF24.py.
-/
namespace Go.Proofs.YtnoadopmeoohmaaGreatDoor
open Go
set_option linter.unusedVariables false
set_option linter.unusedSimpArgs false
theorem lzy_if (p0 p1 p2 : Val × Int) : lzyV 5 [p0, p1, p2] = if (cond1 p0).2 ≠ 0 then (zV, (cond1 p0).2) else if (cond1 p0).1 = true then p1 else p2 := by
  unfold lzyV
  show (if (cond1 p0).2 ≠ 0 then (zV, (cond1 p0).2) else if (5 : Int) = 5 then (if (cond1 p0).1 = true then p1 else p2) else _) = _
  split
  · rfl
  · rw [if_pos rfl]
theorem lzy_ao (op : Int) (h : op ≠ 5) (p0 p1 : Val × Int) : lzyV op [p0, p1] = if (cond1 p0).2 ≠ 0 then (zV, (cond1 p0).2) else if (cond1 p0).1 = decide (op = 6) then (booV (cond1 p0).1, 0) else if (cond1 p1).2 ≠ 0 then (zV, (cond1 p1).2) else (booV (cond1 p1).1, 0) := by
  unfold lzyV
  show (if (cond1 p0).2 ≠ 0 then (zV, (cond1 p0).2) else if op = 5 then _ else if (cond1 p0).1 = decide (op = 6) then (booV (cond1 p0).1, 0) else if (cond1 p1).2 ≠ 0 then (zV, (cond1 p1).2) else (booV (cond1 p1).1, 0)) = _
  split
  · rfl
  · first | rfl | rw [if_neg h]
theorem node_at {H : Hp} {a : Option Addr} {n c : Nat} {l : List Nd} (hs : NodesS H a n c l) (i : Nat) (hi : i < n) {y : Nd} (hy : l[i]? = some y) : ∃ b o ya yn yc, a = some ⟨b, o, none⟩ ∧ NodeH H (ncs y ya yn yc) y ∧ HCells H b (o + i * 4) (ncs y ya yn yc) := by
  obtain ⟨b, o, cs, y', rfl, hy', hyc, _, hce⟩ := hs.at i hi
  rw [hy] at hy'
  cases hy'
  obtain ⟨ya, yn, yc, rfl, _⟩ := hyc.cells
  exact ⟨b, o, ya, yn, yc, rfl, hyc, hce⟩
attribute [local irreducible] wpA opsA drJ drQ drE Ef Ev Shift Fn
set_option maxRecDepth 100000 in
set_option maxHeartbeats 8000000 in
theorem lazyIf_fn {H : Hp} {num : Int} {text : List UInt8} {a : Option Addr} {cp : Nat} {y0 y1 y2 : Nd} {ea : Option Addr} {en ec : Nat} {env : List Bnd} (hs : NodesS H a 3 cp [y0, y1, y2]) (k0 : EvN ea en ec env H y0) (k1 : EvN ea en ec env H y1) (k2 : EvN ea en ec env H y2) :
    Fn Tryz.prog 95 [.agg [.int .i64 5, .int .i64 num, sv text, .slice a 3 cp].toArray, .slice ea en ec] H [] fun v _ I => v = rVE (lzyV 5 [evE env y0, evE env y1, evE env y2]) ∧ I = [] := by
  obtain ⟨b, oo, a0, n0, c0, rfl, hn0, hc0⟩ := node_at hs 0 (by omega) (y := y0) rfl
  obtain ⟨b', oo', a1, n1, c1, heq, hn1, hc1⟩ := node_at hs 1 (by omega) (y := y1) rfl
  cases heq
  obtain ⟨b', oo', a2, n2, c2, heq, hn2, hc2⟩ := node_at hs 2 (by omega) (y := y2) rfl
  cases heq
  have kc := fun Hx hle => condition_fn (H := Hx) (hn0.mono hle) (k0.mono hle)
  have e1 := fun Hx (hle : HLe H Hx) => k1 Hx _ hle (hn1.mono hle)
  have e2 := fun Hx (hle : HLe H Hx) => k2 Hx _ hle (hn2.mono hle)
  rw [lzy_if]
  obtain ⟨⟨q, e⟩, hq⟩ : ∃ p, p = cond1 (evE env y0) := ⟨_, rfl⟩
  rw [← hq] at kc ⊢
  dsimp only at kc ⊢
  by_cases he : e = 0
  · rw [if_neg (fun h => h he)]
    rw [he] at kc
    cases q
    · simp only [Bool.false_eq_true, if_false]
      refine Fn_of _ _ Tryz.func95 rfl Tryz.ntmps95 rfl fun c => ?_
      repeat' (first | (refine O_ef rfl (Ef_boxa WideF.wide (cs := [.int .i64 5, .int .i64 num, sv text, .slice _ 3 cp]) rfl rfl ?_); intro b9; refine O_freezeBox (by intro u hu; simp at hu; rcases hu with rfl | rfl | rfl | rfl <;> rfl) ?_; intro H1 hle1 hc) | (refine O_ev WideF.wide rfl (Ev_loadH rfl (hc0.mono hle1) rfl) rfl rfl ?_) | (show opsA _ _ _ _ (⟨some 15, .call _, _, _, _, _⟩ :: _) _ _; refine O_ef rfl (Ef_call (I := []) WideF.wide (kc _ hle1) ⟨rfl, rfl, trivial⟩ rfl ?_); rintro v15 H15 I15 hl15 ⟨rfl, rfl⟩) | (refine O_ev WideF.wide rfl (Ev_loadH1 rfl (hl15 _ _ _ (hc 0 _ rfl))) rfl rfl ?_) | (refine O_ev WideF.wide rfl (Ev_loadH1 rfl (hl15 _ _ _ (hc 3 _ rfl))) rfl rfl ?_) | (refine O_ev WideF.wide rfl (Ev_loadH rfl (hc2.mono (hle1.trans hl15)) rfl) rfl rfl ?_) | (show opsA _ _ _ _ (⟨some 39, .call _, _, _, _, _⟩ :: _) _ _; refine O_ef rfl (Ef_call (I := []) WideF.wide (e2 _ (hle1.trans hl15)) ⟨rfl, rfl, trivial⟩ rfl ?_); rintro v39 H39 I39 hl39 ⟨rfl, rfl⟩) | refine O_nil ?_ | refine A_seq ?_ | refine A_region ?_ | refine A_skip ?_ | refine A_ret ?_ | (show opsA _ _ _ _ _ _ _; first | refine O_ev WideF.wide rfl (Ev_pure rfl) rfl rfl ?_ | (show opsA _ _ _ _ (⟨_, .load _ _, _, _, _, _⟩ :: _) _ _; refine O_ev WideF.wide rfl (Ev_loadH1 rfl (hc 3 _ rfl)) rfl rfl ?_) | (show opsA _ _ _ _ (⟨_, .indexAddr _ _ _, _, _, _, _⟩ :: _) _ _; refine O_ev WideF.wide rfl (Ev_indexAddr rfl rfl (by omega) (by omega)) rfl rfl ?_) | (show opsA _ _ _ _ (⟨_, .fieldAddr _ _ _, _, _, _, _⟩ :: _) _ _; refine O_ev WideF.wide rfl (Ev_fieldAddr rfl rfl rfl) rfl rfl ?_) | (show opsA _ _ _ _ (⟨_, .alloc _, _, _, _, _⟩ :: _) _ _; (refine O_ef rfl (Ef_alloc WideF.wide rfl ?_); intro b)) | (show opsA _ _ _ _ (⟨_, .store _ _ _, _, _, _, _⟩ :: _) _ _; refine O_ef rfl (Ef_storew WideF.wide rfl rfl rfl rfl rfl ?_))) | (show wpA _ _ _ (.cond _ _ _) _ _ _ _; first | (refine A_if rfl (fun h => ?_) (fun h => ?_) <;> try (exfalso; omega)) | refine A_iffalse rfl ?_))
      all_goals first
        | (exfalso; omega)
        | (exfalso; contradiction)
        | (exfalso; exact absurd trivial (by assumption))
        | (exfalso; exact absurd rfl (by assumption))
        | exact End_e (RetC2 (i := 0) rfl rfl rfl rfl rfl) ⟨rfl, rfl⟩
        | trace_state
    · simp only [if_true]
      refine Fn_of _ _ Tryz.func95 rfl Tryz.ntmps95 rfl fun c => ?_
      repeat' (first | (refine O_ef rfl (Ef_boxa WideF.wide (cs := [.int .i64 5, .int .i64 num, sv text, .slice _ 3 cp]) rfl rfl ?_); intro b9; refine O_freezeBox (by intro u hu; simp at hu; rcases hu with rfl | rfl | rfl | rfl <;> rfl) ?_; intro H1 hle1 hc) | (refine O_ev WideF.wide rfl (Ev_loadH rfl (hc0.mono hle1) rfl) rfl rfl ?_) | (show opsA _ _ _ _ (⟨some 15, .call _, _, _, _, _⟩ :: _) _ _; refine O_ef rfl (Ef_call (I := []) WideF.wide (kc _ hle1) ⟨rfl, rfl, trivial⟩ rfl ?_); rintro v15 H15 I15 hl15 ⟨rfl, rfl⟩) | (refine O_ev WideF.wide rfl (Ev_loadH1 rfl (hl15 _ _ _ (hc 0 _ rfl))) rfl rfl ?_) | (refine O_ev WideF.wide rfl (Ev_loadH1 rfl (hl15 _ _ _ (hc 3 _ rfl))) rfl rfl ?_) | (refine O_ev WideF.wide rfl (Ev_loadH rfl (hc1.mono (hle1.trans hl15)) rfl) rfl rfl ?_) | (show opsA _ _ _ _ (⟨some 31, .call _, _, _, _, _⟩ :: _) _ _; refine O_ef rfl (Ef_call (I := []) WideF.wide (e1 _ (hle1.trans hl15)) ⟨rfl, rfl, trivial⟩ rfl ?_); rintro v31 H31 I31 hl31 ⟨rfl, rfl⟩) | refine O_nil ?_ | refine A_seq ?_ | refine A_region ?_ | refine A_skip ?_ | refine A_ret ?_ | (show opsA _ _ _ _ _ _ _; first | refine O_ev WideF.wide rfl (Ev_pure rfl) rfl rfl ?_ | (show opsA _ _ _ _ (⟨_, .load _ _, _, _, _, _⟩ :: _) _ _; refine O_ev WideF.wide rfl (Ev_loadH1 rfl (hc 3 _ rfl)) rfl rfl ?_) | (show opsA _ _ _ _ (⟨_, .indexAddr _ _ _, _, _, _, _⟩ :: _) _ _; refine O_ev WideF.wide rfl (Ev_indexAddr rfl rfl (by omega) (by omega)) rfl rfl ?_) | (show opsA _ _ _ _ (⟨_, .fieldAddr _ _ _, _, _, _, _⟩ :: _) _ _; refine O_ev WideF.wide rfl (Ev_fieldAddr rfl rfl rfl) rfl rfl ?_) | (show opsA _ _ _ _ (⟨_, .alloc _, _, _, _, _⟩ :: _) _ _; (refine O_ef rfl (Ef_alloc WideF.wide rfl ?_); intro b)) | (show opsA _ _ _ _ (⟨_, .store _ _ _, _, _, _, _⟩ :: _) _ _; refine O_ef rfl (Ef_storew WideF.wide rfl rfl rfl rfl rfl ?_))) | (show wpA _ _ _ (.cond _ _ _) _ _ _ _; first | (refine A_if rfl (fun h => ?_) (fun h => ?_) <;> try (exfalso; omega)) | refine A_iftrue rfl ?_))
      all_goals first
        | (exfalso; omega)
        | (exfalso; contradiction)
        | (exfalso; exact absurd trivial (by assumption))
        | (exfalso; exact absurd rfl (by assumption))
        | exact End_e (RetC2 (i := 0) rfl rfl rfl rfl rfl) ⟨rfl, rfl⟩
        | trace_state
  · rw [if_pos he]
    refine Fn_of _ _ Tryz.func95 rfl Tryz.ntmps95 rfl fun c => ?_
    repeat' (first | (refine O_ef rfl (Ef_boxa WideF.wide (cs := [.int .i64 5, .int .i64 num, sv text, .slice _ 3 cp]) rfl rfl ?_); intro b9; refine O_freezeBox (by intro u hu; simp at hu; rcases hu with rfl | rfl | rfl | rfl <;> rfl) ?_; intro H1 hle1 hc) | (refine O_ev WideF.wide rfl (Ev_loadH rfl (hc0.mono hle1) rfl) rfl rfl ?_) | (show opsA _ _ _ _ (⟨some 15, .call _, _, _, _, _⟩ :: _) _ _; refine O_ef rfl (Ef_call (I := []) WideF.wide (kc _ hle1) ⟨rfl, rfl, trivial⟩ rfl ?_); rintro v15 H15 I15 hl15 ⟨rfl, rfl⟩) | refine O_nil ?_ | refine A_seq ?_ | refine A_region ?_ | refine A_ret ?_ | (show opsA _ _ _ _ _ _ _; first | refine O_ev WideF.wide rfl (Ev_pure rfl) rfl rfl ?_ | (show opsA _ _ _ _ (⟨_, .load _ _, _, _, _, _⟩ :: _) _ _; refine O_ev WideF.wide rfl (Ev_loadH1 rfl (hc 3 _ rfl)) rfl rfl ?_) | (show opsA _ _ _ _ (⟨_, .indexAddr _ _ _, _, _, _, _⟩ :: _) _ _; refine O_ev WideF.wide rfl (Ev_indexAddr rfl rfl (by omega) (by omega)) rfl rfl ?_) | (show opsA _ _ _ _ (⟨_, .fieldAddr _ _ _, _, _, _, _⟩ :: _) _ _; refine O_ev WideF.wide rfl (Ev_fieldAddr rfl rfl rfl) rfl rfl ?_) | (show opsA _ _ _ _ (⟨_, .build _ _, _, _, _, _⟩ :: _) _ _; refine O_ev WideF.wide rfl (Ev_build (vs := []) trivial rfl) rfl rfl ?_) | (show opsA _ _ _ _ (⟨_, .alloc _, _, _, _, _⟩ :: _) _ _; (refine O_ef rfl (Ef_alloc WideF.wide rfl ?_); intro b)) | (show opsA _ _ _ _ (⟨_, .store _ _ _, _, _, _, _⟩ :: _) _ _; refine O_ef rfl (Ef_storew WideF.wide rfl rfl rfl rfl rfl ?_))) | (show wpA _ _ _ (.cond _ _ _) _ _ _ _; (refine A_if rfl (fun h => ?_) (fun h => ?_) <;> try (exfalso; omega))))
    all_goals first
      | (exfalso; omega)
      | (exfalso; contradiction)
      | (exfalso; exact absurd trivial (by assumption))
      | (exfalso; exact absurd rfl (by assumption))
      | exact End_e (RetC2 (i := 0) rfl rfl rfl rfl rfl) ⟨rfl, rfl⟩
      | trace_state
set_option maxRecDepth 100000 in
set_option maxHeartbeats 8000000 in
theorem lazy6_fn {H : Hp} {num : Int} {text : List UInt8} {a : Option Addr} {cp : Nat} {y0 y1 : Nd} {ea : Option Addr} {en ec : Nat} {env : List Bnd} (hs : NodesS H a 2 cp [y0, y1]) (k0 : EvN ea en ec env H y0) (k1 : EvN ea en ec env H y1) :
    Fn Tryz.prog 95 [.agg [.int .i64 6, .int .i64 num, sv text, .slice a 2 cp].toArray, .slice ea en ec] H [] fun v _ I => v = rVE (lzyV 6 [evE env y0, evE env y1]) ∧ I = [] := by
  obtain ⟨b, oo, a0, n0, c0, rfl, hn0, hc0⟩ := node_at hs 0 (by omega) (y := y0) rfl
  obtain ⟨b', oo', a1, n1, c1, heq, hn1, hc1⟩ := node_at hs 1 (by omega) (y := y1) rfl
  cases heq
  have kc := fun Hx hle => condition_fn (H := Hx) (hn0.mono hle) (k0.mono hle)
  have kd := fun Hx hle => condition_fn (H := Hx) (hn1.mono hle) (k1.mono hle)
  rw [lzy_ao 6 (by decide)]
  obtain ⟨⟨q, e⟩, hq⟩ : ∃ p, p = cond1 (evE env y0) := ⟨_, rfl⟩
  obtain ⟨⟨q1, e1⟩, hq1⟩ : ∃ p, p = cond1 (evE env y1) := ⟨_, rfl⟩
  rw [← hq] at kc
  rw [← hq1] at kd
  rw [← hq, ← hq1]
  dsimp only at kc kd ⊢
  by_cases he : e = 0
  · rw [if_neg (fun h => h he)]
    rw [he] at kc
    by_cases hs : q = true
    · subst hs
      rw [if_pos (by decide)]
      refine Fn_of _ _ Tryz.func95 rfl Tryz.ntmps95 rfl fun c => ?_
      repeat' (first | (refine O_ef rfl (Ef_boxa WideF.wide (cs := [.int .i64 6, .int .i64 num, sv text, .slice _ 2 cp]) rfl rfl ?_); intro b9; refine O_freezeBox (by intro u hu; simp at hu; rcases hu with rfl | rfl | rfl | rfl <;> rfl) ?_; intro H1 hle1 hc) | (refine O_ev WideF.wide rfl (Ev_loadH rfl (hc0.mono hle1) rfl) rfl rfl ?_) | (show opsA _ _ _ _ (⟨some 15, .call _, _, _, _, _⟩ :: _) _ _; refine O_ef rfl (Ef_call (I := []) WideF.wide (kc _ hle1) ⟨rfl, rfl, trivial⟩ rfl ?_); rintro v15 H15 I15 hl15 ⟨rfl, rfl⟩) | (refine O_ev WideF.wide rfl (Ev_loadH1 rfl (hl15 _ _ _ (hc 0 _ rfl))) rfl rfl ?_) | (refine O_ev WideF.wide rfl (Ev_loadH1 rfl (hl15 _ _ _ (hc 3 _ rfl))) rfl rfl ?_) | (refine O_ev WideF.wide rfl (Ev_eqb rfl rfl) rfl rfl ?_) | (refine O_ev WideF.wide rfl (Ev_loadH rfl (hc1.mono (hle1.trans hl15)) rfl) rfl rfl ?_) | (show opsA _ _ _ _ (⟨some 55, .call _, _, _, _, _⟩ :: _) _ _; refine O_ef rfl (Ef_call (I := []) WideF.wide (kd _ (hle1.trans hl15)) ⟨rfl, rfl, trivial⟩ rfl ?_); rintro v55 H55 I55 hl55 ⟨rfl, rfl⟩) | (refine O_ef rfl (Ef_call (I := []) WideF.wide (boolean_fn (b := _)) ⟨rfl, trivial⟩ rfl ?_); rintro v1 H1 I1 hle1 ⟨rfl, rfl⟩) | refine O_nil ?_ | refine A_seq ?_ | refine A_region ?_ | refine A_skip ?_ | refine A_ret ?_ | (show opsA _ _ _ _ _ _ _; first | refine O_ev WideF.wide rfl (Ev_pure rfl) rfl rfl ?_ | (show opsA _ _ _ _ (⟨_, .load _ _, _, _, _, _⟩ :: _) _ _; refine O_ev WideF.wide rfl (Ev_loadH1 rfl (hc 3 _ rfl)) rfl rfl ?_) | (show opsA _ _ _ _ (⟨_, .indexAddr _ _ _, _, _, _, _⟩ :: _) _ _; refine O_ev WideF.wide rfl (Ev_indexAddr rfl rfl (by omega) (by omega)) rfl rfl ?_) | (show opsA _ _ _ _ (⟨_, .fieldAddr _ _ _, _, _, _, _⟩ :: _) _ _; refine O_ev WideF.wide rfl (Ev_fieldAddr rfl rfl rfl) rfl rfl ?_) | (show opsA _ _ _ _ (⟨_, .build _ _, _, _, _, _⟩ :: _) _ _; refine O_ev WideF.wide rfl (Ev_build (vs := []) trivial rfl) rfl rfl ?_) | (show opsA _ _ _ _ (⟨_, .alloc _, _, _, _, _⟩ :: _) _ _; (refine O_ef rfl (Ef_alloc WideF.wide rfl ?_); intro b)) | (show opsA _ _ _ _ (⟨_, .store _ _ _, _, _, _, _⟩ :: _) _ _; refine O_ef rfl (Ef_storew WideF.wide rfl rfl rfl rfl rfl ?_))) | (show wpA _ _ _ (.cond _ _ _) _ _ _ _; (refine A_if rfl (fun h => ?_) (fun h => ?_) <;> try (exfalso; omega))))
      all_goals first
        | (exfalso; omega)
        | (exfalso; contradiction)
        | (exfalso; exact absurd trivial (by assumption))
        | (exfalso; exact absurd rfl (by assumption))
        | exact End_e (RetC2 (i := 0) rfl rfl rfl rfl rfl) ⟨rfl, rfl⟩
        | trace_state
    · have hs' : q = false := by cases q <;> first | rfl | exact absurd rfl hs
      subst hs'
      rw [if_neg (by decide)]
      by_cases he1 : e1 = 0
      · rw [if_neg (fun h => h he1)]
        rw [he1] at kd
        refine Fn_of _ _ Tryz.func95 rfl Tryz.ntmps95 rfl fun c => ?_
        repeat' (first | (refine O_ef rfl (Ef_boxa WideF.wide (cs := [.int .i64 6, .int .i64 num, sv text, .slice _ 2 cp]) rfl rfl ?_); intro b9; refine O_freezeBox (by intro u hu; simp at hu; rcases hu with rfl | rfl | rfl | rfl <;> rfl) ?_; intro H1 hle1 hc) | (refine O_ev WideF.wide rfl (Ev_loadH rfl (hc0.mono hle1) rfl) rfl rfl ?_) | (show opsA _ _ _ _ (⟨some 15, .call _, _, _, _, _⟩ :: _) _ _; refine O_ef rfl (Ef_call (I := []) WideF.wide (kc _ hle1) ⟨rfl, rfl, trivial⟩ rfl ?_); rintro v15 H15 I15 hl15 ⟨rfl, rfl⟩) | (refine O_ev WideF.wide rfl (Ev_loadH1 rfl (hl15 _ _ _ (hc 0 _ rfl))) rfl rfl ?_) | (refine O_ev WideF.wide rfl (Ev_loadH1 rfl (hl15 _ _ _ (hc 3 _ rfl))) rfl rfl ?_) | (refine O_ev WideF.wide rfl (Ev_eqb rfl rfl) rfl rfl ?_) | (refine O_ev WideF.wide rfl (Ev_loadH rfl (hc1.mono (hle1.trans hl15)) rfl) rfl rfl ?_) | (show opsA _ _ _ _ (⟨some 55, .call _, _, _, _, _⟩ :: _) _ _; refine O_ef rfl (Ef_call (I := []) WideF.wide (kd _ (hle1.trans hl15)) ⟨rfl, rfl, trivial⟩ rfl ?_); rintro v55 H55 I55 hl55 ⟨rfl, rfl⟩) | (refine O_ef rfl (Ef_call (I := []) WideF.wide (boolean_fn (b := _)) ⟨rfl, trivial⟩ rfl ?_); rintro v1 H1 I1 hle1 ⟨rfl, rfl⟩) | refine O_nil ?_ | refine A_seq ?_ | refine A_region ?_ | refine A_skip ?_ | refine A_ret ?_ | (show opsA _ _ _ _ _ _ _; first | refine O_ev WideF.wide rfl (Ev_pure rfl) rfl rfl ?_ | (show opsA _ _ _ _ (⟨_, .load _ _, _, _, _, _⟩ :: _) _ _; refine O_ev WideF.wide rfl (Ev_loadH1 rfl (hc 3 _ rfl)) rfl rfl ?_) | (show opsA _ _ _ _ (⟨_, .indexAddr _ _ _, _, _, _, _⟩ :: _) _ _; refine O_ev WideF.wide rfl (Ev_indexAddr rfl rfl (by omega) (by omega)) rfl rfl ?_) | (show opsA _ _ _ _ (⟨_, .fieldAddr _ _ _, _, _, _, _⟩ :: _) _ _; refine O_ev WideF.wide rfl (Ev_fieldAddr rfl rfl rfl) rfl rfl ?_) | (show opsA _ _ _ _ (⟨_, .alloc _, _, _, _, _⟩ :: _) _ _; (refine O_ef rfl (Ef_alloc WideF.wide rfl ?_); intro b)) | (show opsA _ _ _ _ (⟨_, .store _ _ _, _, _, _, _⟩ :: _) _ _; refine O_ef rfl (Ef_storew WideF.wide rfl rfl rfl rfl rfl ?_))) | (show wpA _ _ _ (.cond _ _ _) _ _ _ _; (refine A_if rfl (fun h => ?_) (fun h => ?_) <;> try (exfalso; omega))))
        all_goals first
          | (exfalso; omega)
          | (exfalso; contradiction)
          | (exfalso; exact absurd trivial (by assumption))
          | (exfalso; exact absurd rfl (by assumption))
          | exact End_e (RetC2 (i := 0) rfl rfl rfl rfl rfl) ⟨rfl, rfl⟩
          | trace_state
      · rw [if_pos he1]
        refine Fn_of _ _ Tryz.func95 rfl Tryz.ntmps95 rfl fun c => ?_
        repeat' (first | (refine O_ef rfl (Ef_boxa WideF.wide (cs := [.int .i64 6, .int .i64 num, sv text, .slice _ 2 cp]) rfl rfl ?_); intro b9; refine O_freezeBox (by intro u hu; simp at hu; rcases hu with rfl | rfl | rfl | rfl <;> rfl) ?_; intro H1 hle1 hc) | (refine O_ev WideF.wide rfl (Ev_loadH rfl (hc0.mono hle1) rfl) rfl rfl ?_) | (show opsA _ _ _ _ (⟨some 15, .call _, _, _, _, _⟩ :: _) _ _; refine O_ef rfl (Ef_call (I := []) WideF.wide (kc _ hle1) ⟨rfl, rfl, trivial⟩ rfl ?_); rintro v15 H15 I15 hl15 ⟨rfl, rfl⟩) | (refine O_ev WideF.wide rfl (Ev_loadH1 rfl (hl15 _ _ _ (hc 0 _ rfl))) rfl rfl ?_) | (refine O_ev WideF.wide rfl (Ev_loadH1 rfl (hl15 _ _ _ (hc 3 _ rfl))) rfl rfl ?_) | (refine O_ev WideF.wide rfl (Ev_eqb rfl rfl) rfl rfl ?_) | (refine O_ev WideF.wide rfl (Ev_loadH rfl (hc1.mono (hle1.trans hl15)) rfl) rfl rfl ?_) | (show opsA _ _ _ _ (⟨some 55, .call _, _, _, _, _⟩ :: _) _ _; refine O_ef rfl (Ef_call (I := []) WideF.wide (kd _ (hle1.trans hl15)) ⟨rfl, rfl, trivial⟩ rfl ?_); rintro v55 H55 I55 hl55 ⟨rfl, rfl⟩) | (refine O_ef rfl (Ef_call (I := []) WideF.wide (boolean_fn (b := _)) ⟨rfl, trivial⟩ rfl ?_); rintro v1 H1 I1 hle1 ⟨rfl, rfl⟩) | refine O_nil ?_ | refine A_seq ?_ | refine A_region ?_ | refine A_skip ?_ | refine A_ret ?_ | (show opsA _ _ _ _ _ _ _; first | refine O_ev WideF.wide rfl (Ev_pure rfl) rfl rfl ?_ | (show opsA _ _ _ _ (⟨_, .load _ _, _, _, _, _⟩ :: _) _ _; refine O_ev WideF.wide rfl (Ev_loadH1 rfl (hc 3 _ rfl)) rfl rfl ?_) | (show opsA _ _ _ _ (⟨_, .indexAddr _ _ _, _, _, _, _⟩ :: _) _ _; refine O_ev WideF.wide rfl (Ev_indexAddr rfl rfl (by omega) (by omega)) rfl rfl ?_) | (show opsA _ _ _ _ (⟨_, .fieldAddr _ _ _, _, _, _, _⟩ :: _) _ _; refine O_ev WideF.wide rfl (Ev_fieldAddr rfl rfl rfl) rfl rfl ?_) | (show opsA _ _ _ _ (⟨_, .build _ _, _, _, _, _⟩ :: _) _ _; refine O_ev WideF.wide rfl (Ev_build (vs := []) trivial rfl) rfl rfl ?_) | (show opsA _ _ _ _ (⟨_, .alloc _, _, _, _, _⟩ :: _) _ _; (refine O_ef rfl (Ef_alloc WideF.wide rfl ?_); intro b)) | (show opsA _ _ _ _ (⟨_, .store _ _ _, _, _, _, _⟩ :: _) _ _; refine O_ef rfl (Ef_storew WideF.wide rfl rfl rfl rfl rfl ?_))) | (show wpA _ _ _ (.cond _ _ _) _ _ _ _; (refine A_if rfl (fun h => ?_) (fun h => ?_) <;> try (exfalso; omega))))
        all_goals first
          | (exfalso; omega)
          | (exfalso; contradiction)
          | (exfalso; exact absurd trivial (by assumption))
          | (exfalso; exact absurd rfl (by assumption))
          | exact End_e (RetC2 (i := 0) rfl rfl rfl rfl rfl) ⟨rfl, rfl⟩
          | trace_state
  · rw [if_pos he]
    refine Fn_of _ _ Tryz.func95 rfl Tryz.ntmps95 rfl fun c => ?_
    repeat' (first | (refine O_ef rfl (Ef_boxa WideF.wide (cs := [.int .i64 6, .int .i64 num, sv text, .slice _ 2 cp]) rfl rfl ?_); intro b9; refine O_freezeBox (by intro u hu; simp at hu; rcases hu with rfl | rfl | rfl | rfl <;> rfl) ?_; intro H1 hle1 hc) | (refine O_ev WideF.wide rfl (Ev_loadH rfl (hc0.mono hle1) rfl) rfl rfl ?_) | (show opsA _ _ _ _ (⟨some 15, .call _, _, _, _, _⟩ :: _) _ _; refine O_ef rfl (Ef_call (I := []) WideF.wide (kc _ hle1) ⟨rfl, rfl, trivial⟩ rfl ?_); rintro v15 H15 I15 hl15 ⟨rfl, rfl⟩) | refine O_nil ?_ | refine A_seq ?_ | refine A_region ?_ | refine A_ret ?_ | (show opsA _ _ _ _ _ _ _; first | refine O_ev WideF.wide rfl (Ev_pure rfl) rfl rfl ?_ | (show opsA _ _ _ _ (⟨_, .load _ _, _, _, _, _⟩ :: _) _ _; refine O_ev WideF.wide rfl (Ev_loadH1 rfl (hc 3 _ rfl)) rfl rfl ?_) | (show opsA _ _ _ _ (⟨_, .indexAddr _ _ _, _, _, _, _⟩ :: _) _ _; refine O_ev WideF.wide rfl (Ev_indexAddr rfl rfl (by omega) (by omega)) rfl rfl ?_) | (show opsA _ _ _ _ (⟨_, .fieldAddr _ _ _, _, _, _, _⟩ :: _) _ _; refine O_ev WideF.wide rfl (Ev_fieldAddr rfl rfl rfl) rfl rfl ?_) | (show opsA _ _ _ _ (⟨_, .build _ _, _, _, _, _⟩ :: _) _ _; refine O_ev WideF.wide rfl (Ev_build (vs := []) trivial rfl) rfl rfl ?_) | (show opsA _ _ _ _ (⟨_, .alloc _, _, _, _, _⟩ :: _) _ _; (refine O_ef rfl (Ef_alloc WideF.wide rfl ?_); intro b)) | (show opsA _ _ _ _ (⟨_, .store _ _ _, _, _, _, _⟩ :: _) _ _; refine O_ef rfl (Ef_storew WideF.wide rfl rfl rfl rfl rfl ?_))) | (show wpA _ _ _ (.cond _ _ _) _ _ _ _; (refine A_if rfl (fun h => ?_) (fun h => ?_) <;> try (exfalso; omega))))
    all_goals first
      | (exfalso; omega)
      | (exfalso; contradiction)
      | (exfalso; exact absurd trivial (by assumption))
      | (exfalso; exact absurd rfl (by assumption))
      | exact End_e (RetC2 (i := 0) rfl rfl rfl rfl rfl) ⟨rfl, rfl⟩
      | trace_state
set_option maxRecDepth 100000 in
set_option maxHeartbeats 8000000 in
theorem lazy7_fn {H : Hp} {num : Int} {text : List UInt8} {a : Option Addr} {cp : Nat} {y0 y1 : Nd} {ea : Option Addr} {en ec : Nat} {env : List Bnd} (hs : NodesS H a 2 cp [y0, y1]) (k0 : EvN ea en ec env H y0) (k1 : EvN ea en ec env H y1) :
    Fn Tryz.prog 95 [.agg [.int .i64 7, .int .i64 num, sv text, .slice a 2 cp].toArray, .slice ea en ec] H [] fun v _ I => v = rVE (lzyV 7 [evE env y0, evE env y1]) ∧ I = [] := by
  obtain ⟨b, oo, a0, n0, c0, rfl, hn0, hc0⟩ := node_at hs 0 (by omega) (y := y0) rfl
  obtain ⟨b', oo', a1, n1, c1, heq, hn1, hc1⟩ := node_at hs 1 (by omega) (y := y1) rfl
  cases heq
  have kc := fun Hx hle => condition_fn (H := Hx) (hn0.mono hle) (k0.mono hle)
  have kd := fun Hx hle => condition_fn (H := Hx) (hn1.mono hle) (k1.mono hle)
  rw [lzy_ao 7 (by decide)]
  obtain ⟨⟨q, e⟩, hq⟩ : ∃ p, p = cond1 (evE env y0) := ⟨_, rfl⟩
  obtain ⟨⟨q1, e1⟩, hq1⟩ : ∃ p, p = cond1 (evE env y1) := ⟨_, rfl⟩
  rw [← hq] at kc
  rw [← hq1] at kd
  rw [← hq, ← hq1]
  dsimp only at kc kd ⊢
  by_cases he : e = 0
  · rw [if_neg (fun h => h he)]
    rw [he] at kc
    by_cases hs : q = false
    · subst hs
      rw [if_pos (by decide)]
      refine Fn_of _ _ Tryz.func95 rfl Tryz.ntmps95 rfl fun c => ?_
      repeat' (first | (refine O_ef rfl (Ef_boxa WideF.wide (cs := [.int .i64 7, .int .i64 num, sv text, .slice _ 2 cp]) rfl rfl ?_); intro b9; refine O_freezeBox (by intro u hu; simp at hu; rcases hu with rfl | rfl | rfl | rfl <;> rfl) ?_; intro H1 hle1 hc) | (refine O_ev WideF.wide rfl (Ev_loadH rfl (hc0.mono hle1) rfl) rfl rfl ?_) | (show opsA _ _ _ _ (⟨some 15, .call _, _, _, _, _⟩ :: _) _ _; refine O_ef rfl (Ef_call (I := []) WideF.wide (kc _ hle1) ⟨rfl, rfl, trivial⟩ rfl ?_); rintro v15 H15 I15 hl15 ⟨rfl, rfl⟩) | (refine O_ev WideF.wide rfl (Ev_loadH1 rfl (hl15 _ _ _ (hc 0 _ rfl))) rfl rfl ?_) | (refine O_ev WideF.wide rfl (Ev_loadH1 rfl (hl15 _ _ _ (hc 3 _ rfl))) rfl rfl ?_) | (refine O_ev WideF.wide rfl (Ev_eqb rfl rfl) rfl rfl ?_) | (refine O_ev WideF.wide rfl (Ev_loadH rfl (hc1.mono (hle1.trans hl15)) rfl) rfl rfl ?_) | (show opsA _ _ _ _ (⟨some 55, .call _, _, _, _, _⟩ :: _) _ _; refine O_ef rfl (Ef_call (I := []) WideF.wide (kd _ (hle1.trans hl15)) ⟨rfl, rfl, trivial⟩ rfl ?_); rintro v55 H55 I55 hl55 ⟨rfl, rfl⟩) | (refine O_ef rfl (Ef_call (I := []) WideF.wide (boolean_fn (b := _)) ⟨rfl, trivial⟩ rfl ?_); rintro v1 H1 I1 hle1 ⟨rfl, rfl⟩) | refine O_nil ?_ | refine A_seq ?_ | refine A_region ?_ | refine A_skip ?_ | refine A_ret ?_ | (show opsA _ _ _ _ _ _ _; first | refine O_ev WideF.wide rfl (Ev_pure rfl) rfl rfl ?_ | (show opsA _ _ _ _ (⟨_, .load _ _, _, _, _, _⟩ :: _) _ _; refine O_ev WideF.wide rfl (Ev_loadH1 rfl (hc 3 _ rfl)) rfl rfl ?_) | (show opsA _ _ _ _ (⟨_, .indexAddr _ _ _, _, _, _, _⟩ :: _) _ _; refine O_ev WideF.wide rfl (Ev_indexAddr rfl rfl (by omega) (by omega)) rfl rfl ?_) | (show opsA _ _ _ _ (⟨_, .fieldAddr _ _ _, _, _, _, _⟩ :: _) _ _; refine O_ev WideF.wide rfl (Ev_fieldAddr rfl rfl rfl) rfl rfl ?_) | (show opsA _ _ _ _ (⟨_, .build _ _, _, _, _, _⟩ :: _) _ _; refine O_ev WideF.wide rfl (Ev_build (vs := []) trivial rfl) rfl rfl ?_) | (show opsA _ _ _ _ (⟨_, .alloc _, _, _, _, _⟩ :: _) _ _; (refine O_ef rfl (Ef_alloc WideF.wide rfl ?_); intro b)) | (show opsA _ _ _ _ (⟨_, .store _ _ _, _, _, _, _⟩ :: _) _ _; refine O_ef rfl (Ef_storew WideF.wide rfl rfl rfl rfl rfl ?_))) | (show wpA _ _ _ (.cond _ _ _) _ _ _ _; (refine A_if rfl (fun h => ?_) (fun h => ?_) <;> try (exfalso; omega))))
      all_goals first
        | (exfalso; omega)
        | (exfalso; contradiction)
        | (exfalso; exact absurd trivial (by assumption))
        | (exfalso; exact absurd rfl (by assumption))
        | exact End_e (RetC2 (i := 0) rfl rfl rfl rfl rfl) ⟨rfl, rfl⟩
        | trace_state
    · have hs' : q = true := by cases q <;> first | rfl | exact absurd rfl hs
      subst hs'
      rw [if_neg (by decide)]
      by_cases he1 : e1 = 0
      · rw [if_neg (fun h => h he1)]
        rw [he1] at kd
        refine Fn_of _ _ Tryz.func95 rfl Tryz.ntmps95 rfl fun c => ?_
        repeat' (first | (refine O_ef rfl (Ef_boxa WideF.wide (cs := [.int .i64 7, .int .i64 num, sv text, .slice _ 2 cp]) rfl rfl ?_); intro b9; refine O_freezeBox (by intro u hu; simp at hu; rcases hu with rfl | rfl | rfl | rfl <;> rfl) ?_; intro H1 hle1 hc) | (refine O_ev WideF.wide rfl (Ev_loadH rfl (hc0.mono hle1) rfl) rfl rfl ?_) | (show opsA _ _ _ _ (⟨some 15, .call _, _, _, _, _⟩ :: _) _ _; refine O_ef rfl (Ef_call (I := []) WideF.wide (kc _ hle1) ⟨rfl, rfl, trivial⟩ rfl ?_); rintro v15 H15 I15 hl15 ⟨rfl, rfl⟩) | (refine O_ev WideF.wide rfl (Ev_loadH1 rfl (hl15 _ _ _ (hc 0 _ rfl))) rfl rfl ?_) | (refine O_ev WideF.wide rfl (Ev_loadH1 rfl (hl15 _ _ _ (hc 3 _ rfl))) rfl rfl ?_) | (refine O_ev WideF.wide rfl (Ev_eqb rfl rfl) rfl rfl ?_) | (refine O_ev WideF.wide rfl (Ev_loadH rfl (hc1.mono (hle1.trans hl15)) rfl) rfl rfl ?_) | (show opsA _ _ _ _ (⟨some 55, .call _, _, _, _, _⟩ :: _) _ _; refine O_ef rfl (Ef_call (I := []) WideF.wide (kd _ (hle1.trans hl15)) ⟨rfl, rfl, trivial⟩ rfl ?_); rintro v55 H55 I55 hl55 ⟨rfl, rfl⟩) | (refine O_ef rfl (Ef_call (I := []) WideF.wide (boolean_fn (b := _)) ⟨rfl, trivial⟩ rfl ?_); rintro v1 H1 I1 hle1 ⟨rfl, rfl⟩) | refine O_nil ?_ | refine A_seq ?_ | refine A_region ?_ | refine A_skip ?_ | refine A_ret ?_ | (show opsA _ _ _ _ _ _ _; first | refine O_ev WideF.wide rfl (Ev_pure rfl) rfl rfl ?_ | (show opsA _ _ _ _ (⟨_, .load _ _, _, _, _, _⟩ :: _) _ _; refine O_ev WideF.wide rfl (Ev_loadH1 rfl (hc 3 _ rfl)) rfl rfl ?_) | (show opsA _ _ _ _ (⟨_, .indexAddr _ _ _, _, _, _, _⟩ :: _) _ _; refine O_ev WideF.wide rfl (Ev_indexAddr rfl rfl (by omega) (by omega)) rfl rfl ?_) | (show opsA _ _ _ _ (⟨_, .fieldAddr _ _ _, _, _, _, _⟩ :: _) _ _; refine O_ev WideF.wide rfl (Ev_fieldAddr rfl rfl rfl) rfl rfl ?_) | (show opsA _ _ _ _ (⟨_, .alloc _, _, _, _, _⟩ :: _) _ _; (refine O_ef rfl (Ef_alloc WideF.wide rfl ?_); intro b)) | (show opsA _ _ _ _ (⟨_, .store _ _ _, _, _, _, _⟩ :: _) _ _; refine O_ef rfl (Ef_storew WideF.wide rfl rfl rfl rfl rfl ?_))) | (show wpA _ _ _ (.cond _ _ _) _ _ _ _; (refine A_if rfl (fun h => ?_) (fun h => ?_) <;> try (exfalso; omega))))
        all_goals first
          | (exfalso; omega)
          | (exfalso; contradiction)
          | (exfalso; exact absurd trivial (by assumption))
          | (exfalso; exact absurd rfl (by assumption))
          | exact End_e (RetC2 (i := 0) rfl rfl rfl rfl rfl) ⟨rfl, rfl⟩
          | trace_state
      · rw [if_pos he1]
        refine Fn_of _ _ Tryz.func95 rfl Tryz.ntmps95 rfl fun c => ?_
        repeat' (first | (refine O_ef rfl (Ef_boxa WideF.wide (cs := [.int .i64 7, .int .i64 num, sv text, .slice _ 2 cp]) rfl rfl ?_); intro b9; refine O_freezeBox (by intro u hu; simp at hu; rcases hu with rfl | rfl | rfl | rfl <;> rfl) ?_; intro H1 hle1 hc) | (refine O_ev WideF.wide rfl (Ev_loadH rfl (hc0.mono hle1) rfl) rfl rfl ?_) | (show opsA _ _ _ _ (⟨some 15, .call _, _, _, _, _⟩ :: _) _ _; refine O_ef rfl (Ef_call (I := []) WideF.wide (kc _ hle1) ⟨rfl, rfl, trivial⟩ rfl ?_); rintro v15 H15 I15 hl15 ⟨rfl, rfl⟩) | (refine O_ev WideF.wide rfl (Ev_loadH1 rfl (hl15 _ _ _ (hc 0 _ rfl))) rfl rfl ?_) | (refine O_ev WideF.wide rfl (Ev_loadH1 rfl (hl15 _ _ _ (hc 3 _ rfl))) rfl rfl ?_) | (refine O_ev WideF.wide rfl (Ev_eqb rfl rfl) rfl rfl ?_) | (refine O_ev WideF.wide rfl (Ev_loadH rfl (hc1.mono (hle1.trans hl15)) rfl) rfl rfl ?_) | (show opsA _ _ _ _ (⟨some 55, .call _, _, _, _, _⟩ :: _) _ _; refine O_ef rfl (Ef_call (I := []) WideF.wide (kd _ (hle1.trans hl15)) ⟨rfl, rfl, trivial⟩ rfl ?_); rintro v55 H55 I55 hl55 ⟨rfl, rfl⟩) | (refine O_ef rfl (Ef_call (I := []) WideF.wide (boolean_fn (b := _)) ⟨rfl, trivial⟩ rfl ?_); rintro v1 H1 I1 hle1 ⟨rfl, rfl⟩) | refine O_nil ?_ | refine A_seq ?_ | refine A_region ?_ | refine A_skip ?_ | refine A_ret ?_ | (show opsA _ _ _ _ _ _ _; first | refine O_ev WideF.wide rfl (Ev_pure rfl) rfl rfl ?_ | (show opsA _ _ _ _ (⟨_, .load _ _, _, _, _, _⟩ :: _) _ _; refine O_ev WideF.wide rfl (Ev_loadH1 rfl (hc 3 _ rfl)) rfl rfl ?_) | (show opsA _ _ _ _ (⟨_, .indexAddr _ _ _, _, _, _, _⟩ :: _) _ _; refine O_ev WideF.wide rfl (Ev_indexAddr rfl rfl (by omega) (by omega)) rfl rfl ?_) | (show opsA _ _ _ _ (⟨_, .fieldAddr _ _ _, _, _, _, _⟩ :: _) _ _; refine O_ev WideF.wide rfl (Ev_fieldAddr rfl rfl rfl) rfl rfl ?_) | (show opsA _ _ _ _ (⟨_, .build _ _, _, _, _, _⟩ :: _) _ _; refine O_ev WideF.wide rfl (Ev_build (vs := []) trivial rfl) rfl rfl ?_) | (show opsA _ _ _ _ (⟨_, .alloc _, _, _, _, _⟩ :: _) _ _; (refine O_ef rfl (Ef_alloc WideF.wide rfl ?_); intro b)) | (show opsA _ _ _ _ (⟨_, .store _ _ _, _, _, _, _⟩ :: _) _ _; refine O_ef rfl (Ef_storew WideF.wide rfl rfl rfl rfl rfl ?_))) | (show wpA _ _ _ (.cond _ _ _) _ _ _ _; (refine A_if rfl (fun h => ?_) (fun h => ?_) <;> try (exfalso; omega))))
        all_goals first
          | (exfalso; omega)
          | (exfalso; contradiction)
          | (exfalso; exact absurd trivial (by assumption))
          | (exfalso; exact absurd rfl (by assumption))
          | exact End_e (RetC2 (i := 0) rfl rfl rfl rfl rfl) ⟨rfl, rfl⟩
          | trace_state
  · rw [if_pos he]
    refine Fn_of _ _ Tryz.func95 rfl Tryz.ntmps95 rfl fun c => ?_
    repeat' (first | (refine O_ef rfl (Ef_boxa WideF.wide (cs := [.int .i64 7, .int .i64 num, sv text, .slice _ 2 cp]) rfl rfl ?_); intro b9; refine O_freezeBox (by intro u hu; simp at hu; rcases hu with rfl | rfl | rfl | rfl <;> rfl) ?_; intro H1 hle1 hc) | (refine O_ev WideF.wide rfl (Ev_loadH rfl (hc0.mono hle1) rfl) rfl rfl ?_) | (show opsA _ _ _ _ (⟨some 15, .call _, _, _, _, _⟩ :: _) _ _; refine O_ef rfl (Ef_call (I := []) WideF.wide (kc _ hle1) ⟨rfl, rfl, trivial⟩ rfl ?_); rintro v15 H15 I15 hl15 ⟨rfl, rfl⟩) | refine O_nil ?_ | refine A_seq ?_ | refine A_region ?_ | refine A_ret ?_ | (show opsA _ _ _ _ _ _ _; first | refine O_ev WideF.wide rfl (Ev_pure rfl) rfl rfl ?_ | (show opsA _ _ _ _ (⟨_, .load _ _, _, _, _, _⟩ :: _) _ _; refine O_ev WideF.wide rfl (Ev_loadH1 rfl (hc 3 _ rfl)) rfl rfl ?_) | (show opsA _ _ _ _ (⟨_, .indexAddr _ _ _, _, _, _, _⟩ :: _) _ _; refine O_ev WideF.wide rfl (Ev_indexAddr rfl rfl (by omega) (by omega)) rfl rfl ?_) | (show opsA _ _ _ _ (⟨_, .fieldAddr _ _ _, _, _, _, _⟩ :: _) _ _; refine O_ev WideF.wide rfl (Ev_fieldAddr rfl rfl rfl) rfl rfl ?_) | (show opsA _ _ _ _ (⟨_, .build _ _, _, _, _, _⟩ :: _) _ _; refine O_ev WideF.wide rfl (Ev_build (vs := []) trivial rfl) rfl rfl ?_) | (show opsA _ _ _ _ (⟨_, .alloc _, _, _, _, _⟩ :: _) _ _; (refine O_ef rfl (Ef_alloc WideF.wide rfl ?_); intro b)) | (show opsA _ _ _ _ (⟨_, .store _ _ _, _, _, _, _⟩ :: _) _ _; refine O_ef rfl (Ef_storew WideF.wide rfl rfl rfl rfl rfl ?_))) | (show wpA _ _ _ (.cond _ _ _) _ _ _ _; (refine A_if rfl (fun h => ?_) (fun h => ?_) <;> try (exfalso; omega))))
    all_goals first
      | (exfalso; omega)
      | (exfalso; contradiction)
      | (exfalso; exact absurd trivial (by assumption))
      | (exfalso; exact absurd rfl (by assumption))
      | exact End_e (RetC2 (i := 0) rfl rfl rfl rfl rfl) ⟨rfl, rfl⟩
      | trace_state
end Go.Proofs.YtnoadopmeoohmaaGreatDoor
