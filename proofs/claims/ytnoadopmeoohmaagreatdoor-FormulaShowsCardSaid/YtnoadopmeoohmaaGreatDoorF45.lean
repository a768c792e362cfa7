/-
  The law Shows. Printed by genF45.py.
-/
import Derived.Test.YtnoadopmeoohmaaGreatDoorF41
namespace Go.Proofs.YtnoadopmeoohmaaGreatDoor
open Go
set_option linter.unusedVariables false
set_option linter.unusedSimpArgs false
theorem vl_one (v : Val) : ∀ u ∈ vlrow v, u.oneCell' = true := vlrow_one [v] _ (by simp)
theorem int_true : intR trueS = (0, 14) := by decide
theorem int_false : intR falseS = (0, 14) := by decide
attribute [local irreducible] wpA opsA drJ drQ drE Ef Ev Shift Fn

theorem intR_I (s : List UInt8) : I64 (intR s).1 := by
  have hd := digR_b (Lib.trimPrefix s [45])
  unfold intR
  split
  · exact (⟨by decide, by decide⟩ : I64 0)
  · dsimp only
    split
    · exact ⟨by omega, by omega⟩
    · exact ⟨by omega, by omega⟩

set_option maxRecDepth 100000 in
set_option maxHeartbeats 8000000 in
theorem Shows_true {H : Hp} {k n : Int} {t s l : List UInt8} (hV : VarsH H) (hx : I64 n) (hl : s.take (if (300 : Int) < (s.length : Int) then (300 : Int) else (s.length : Int)).toNat = l) (hll : l.length ≤ 300) (hc0 : l = trueS) :
    Fn Tryz.prog 9 [rV ⟨k, n, t⟩, sv s] H [] fun v _ I => v = .bool true ∧ I = [] := by
  have hone := vl_one ⟨k, n, t⟩
  have kK := fun Hx (h : HLe H Hx) => known_fn (hV.mono h)
  have kI := fun Hx => integer_fn (H := Hx) (s := l) (by omega)
  have kR := fun Hx (h : HLe H Hx) => Read_fn (s := l) (by omega) (hV.mono h)
  have kS := fun Hx => Show_fn (H := Hx) (x := ⟨k, n, t⟩) hx
  have kL := fun Hx => show_fn (H := Hx) (x := ⟨k, n, t⟩) hx
  have kT := fun Hx => truth_t (H := Hx) (x := ())
  have kU := fun Hx => truth_f (H := Hx) (x := ())
  have hsh := shw_rd l
  subst hc0
  have he : rdV trueS = ⟨3, 1, []⟩ := rfl
  simp only [int_true] at kI
  show Fn Tryz.prog 9 [.agg [.int .i64 k, .int .i64 n, sv t].toArray, sv s] H [] _
  have kZ := fun Hx => Show_fn (H := Hx) (x := ⟨3, 1, []⟩) (⟨by decide, by decide⟩)
  rw [he] at hsh
  simp only [hsh] at kZ
  simp only [he] at kR
  refine Fn_of _ _ Tryz.func9 rfl Tryz.ntmps9 rfl fun c => ?_
  repeat' (first | (refine O_ef rfl (Ef_boxa WideF.wide (cs := [.int .i64 k, .int .i64 n, sv t]) rfl rfl ?_); intro b2; refine O_freezeBox hone ?_; intro H1 hle1 hc) | (refine O_ev WideF.wide rfl (Ev_mini rfl rfl) rfl rfl ?_) | (refine O_ev WideF.wide rfl (Ev_ssliceh rfl rfl (by split <;> omega) (by split <;> omega)) rfl rfl ?_; rw [hl]) | (show opsA _ _ _ _ (⟨some 14, .call _, _, _, _, _⟩ :: _) _ _; refine O_ef rfl (Ef_call (I := []) WideF.wide (kK _ hle1) trivial rfl ?_); rintro v2 H2 I2 hle2 ⟨rfl, rfl⟩) | (show opsA _ _ _ _ (⟨some 22, .call _, _, _, _, _⟩ :: _) _ _; refine O_ef rfl (Ef_call (I := []) WideF.wide (kK _ (hle1.trans hle2)) trivial rfl ?_); rintro v9 H9 I9 hle9 ⟨rfl, rfl⟩) | (show opsA _ _ _ _ (⟨some 18, .load _ _, _, _, _, _⟩ :: _) _ _; refine O_ev WideF.wide rfl (Ev_loadH1 rfl (hc.mono hle2 2 _ rfl)) rfl rfl ?_) | (refine O_ef rfl (Ef_callp WideF.wide (kI _) ⟨rfl, trivial⟩ rfl ?_)) | (show opsA _ _ _ _ (⟨some 46, .call _, _, _, _, _⟩ :: _) _ _; refine O_ef rfl (Ef_call (I := []) WideF.wide (kT _) ⟨rfl, trivial⟩ rfl ?_); rintro v3 H3 I3 hle3 ⟨rfl, rfl⟩) | (show opsA _ _ _ _ (⟨some 48, .call _, _, _, _, _⟩ :: _) _ _; refine O_ef rfl (Ef_call (I := []) WideF.wide (kR _ ((hle1.trans hle2).trans hle3)) ⟨rfl, trivial⟩ rfl ?_); rintro v4 H4 I4 hle4 ⟨rfl, rfl⟩) | (show wpA _ _ _ (.region 11 _ _) _ _ _ _; refine A_freezeBox (cs := vlrow (⟨3, 1, []⟩)) (vl_one _) ?_; intro H5 hle5 hb8; refine A_freezeBox (cs := vlrow (⟨3, 1, []⟩)) (vl_one _) ?_; intro H6 hle6 hb5; (refine A_drawM WideF.wide (.q 0 (.q 2 (.e 1 (.e 3 (.q 4 (.q 5 (.q 6 (.q 7 (.q 8 (.q 9 (.q 10 (.q 11 (.q 13 (.e 12 (.q 14 (.q 15 (.q 16 (.done [])))))))))))))))))) [] (by decide +kernel) ?_)) | (refine D_ev rfl (Ev_loadH rfl (((((hc.mono hle2).mono hle3).mono hle4).mono hle5).mono hle6) rfl) rfl rfl ?_) | (refine D_ev rfl (Ev_loadH rfl (hb8.mono hle6) rfl) rfl rfl ?_) | (refine D_ev rfl (Ev_loadH rfl hb5 rfl) rfl rfl ?_) | (refine E_ef rfl (Ef_callp WideF.wide (kS _) ⟨rfl, trivial⟩ rfl ?_); refine ⟨Grow.same rfl rfl, ?_⟩) | (refine E_ef rfl (Ef_callp WideF.wide (kL _) ⟨rfl, trivial⟩ rfl ?_); refine ⟨Grow.same rfl rfl, ?_⟩) | (refine E_ef rfl (Ef_callp WideF.wide (kZ _) ⟨rfl, trivial⟩ rfl ?_); refine ⟨Grow.same rfl rfl, ?_⟩) | (refine D_ev rfl (Ev_seqs rfl rfl) rfl rfl ?_) | (refine D_ev rfl (Ev_eqS rfl rfl Tryz.eqGuardType37 (eq_val (⟨3, 1, []⟩) (⟨3, 1, []⟩))) rfl rfl ?_) | refine O_nil ?_ | refine A_seq ?_ | refine A_region ?_ | refine A_skip ?_ | refine A_ret ?_ | (show drJ _ _ _ _ _ _ _ (.q _ _) _; refine D_q rfl ?_) | (show drJ _ _ _ _ _ _ _ (.e _ _) _; refine D_e rfl ?_) | (show drJ _ _ _ _ _ _ _ (.done _) _; refine D_done ?_; simp only [List.cons_append, List.nil_append]) | (show drQ _ _ _ _ _ _; first | (refine D_split rfl rfl (fun h => ?_) (fun h => ?_) <;> try (exfalso; omega)) | refine D_ev rfl (Ev_pure rfl) rfl rfl ?_ | refine D_skip rfl rfl rfl ?_) | (show drE _ _ _ _ _ _ _; refine E_skip rfl rfl rfl ?_) | (show opsA _ _ _ _ _ _ _; first | (refine O_split rfl rfl (fun h => ?_) (fun h => ?_) <;> try (exfalso; omega)) | refine O_ev WideF.wide rfl (Ev_pure rfl) rfl rfl ?_ | (show opsA _ _ _ _ (⟨_, .fieldAddr _ _ _, _, _, _, _⟩ :: _) _ _; refine O_ev WideF.wide rfl (Ev_fieldAddr rfl rfl rfl) rfl rfl ?_) | (show opsA _ _ _ _ (⟨_, .call _, _, _, _, _⟩ :: _) _ _; refine O_ev WideF.wide rfl (Ev_slen rfl) rfl rfl ?_) | (show opsA _ _ _ _ (⟨_, .binOp _ _ _ _ _, _, _, _, _⟩ :: _) _ _; refine O_ev WideF.wide rfl (Ev_seql rfl rfl) rfl rfl ?_) | (show opsA _ _ _ _ (⟨_, .unOp _ _ _, _, _, _, _⟩ :: _) _ _; refine O_ev WideF.wide rfl (Ev_notb rfl) rfl rfl ?_) | (show opsA _ _ _ _ (⟨_, .build _ _, _, _, _, _⟩ :: _) _ _; refine O_ev WideF.wide rfl (Ev_build (vs := [(_, _), (_, _)]) ⟨rfl, rfl, rfl, rfl, trivial⟩ rfl) rfl rfl ?_) | (show opsA _ _ _ _ (⟨_, .alloc _, _, _, _, _⟩ :: _) _ _; (refine O_ef rfl (Ef_alloc WideF.wide rfl ?_); intro b)) | (show opsA _ _ _ _ (⟨_, .store _ _ _, _, _, _, _⟩ :: _) _ _; refine O_ef rfl (Ef_storew WideF.wide rfl rfl rfl rfl rfl ?_)) | refine O_skip WideF.wide rfl rfl rfl ?_) | (show wpA _ _ _ (.cond _ _ _) _ _ _ _; first | (refine A_if rfl (fun h => ?_) (fun h => ?_) <;> try (exfalso; omega)) | refine A_iftrue rfl ?_ | refine A_iffalse rfl ?_))
  all_goals first
    | (exfalso; omega)
    | (exfalso; contradiction)
    | (exfalso; exact absurd trivial (by assumption))
    | (exfalso; exact absurd rfl (by assumption))
    | exact End_e (Ret1 rfl rfl) ⟨rfl, rfl⟩
    | (refine End_e (Ret1 rfl rfl) ⟨?_, rfl⟩; simp; done)
    | trace_state

set_option maxRecDepth 100000 in
set_option maxHeartbeats 8000000 in
theorem Shows_false {H : Hp} {k n : Int} {t s l : List UInt8} (hV : VarsH H) (hx : I64 n) (hl : s.take (if (300 : Int) < (s.length : Int) then (300 : Int) else (s.length : Int)).toNat = l) (hll : l.length ≤ 300) (hc0 : l = falseS) :
    Fn Tryz.prog 9 [rV ⟨k, n, t⟩, sv s] H [] fun v _ I => v = .bool true ∧ I = [] := by
  have hone := vl_one ⟨k, n, t⟩
  have kK := fun Hx (h : HLe H Hx) => known_fn (hV.mono h)
  have kI := fun Hx => integer_fn (H := Hx) (s := l) (by omega)
  have kR := fun Hx (h : HLe H Hx) => Read_fn (s := l) (by omega) (hV.mono h)
  have kS := fun Hx => Show_fn (H := Hx) (x := ⟨k, n, t⟩) hx
  have kL := fun Hx => show_fn (H := Hx) (x := ⟨k, n, t⟩) hx
  have kT := fun Hx => truth_t (H := Hx) (x := ())
  have kU := fun Hx => truth_f (H := Hx) (x := ())
  have hsh := shw_rd l
  subst hc0
  have he : rdV falseS = ⟨3, 0, []⟩ := rfl
  simp only [int_false] at kI
  show Fn Tryz.prog 9 [.agg [.int .i64 k, .int .i64 n, sv t].toArray, sv s] H [] _
  have kZ := fun Hx => Show_fn (H := Hx) (x := ⟨3, 0, []⟩) (⟨by decide, by decide⟩)
  rw [he] at hsh
  simp only [hsh] at kZ
  simp only [he] at kR
  refine Fn_of _ _ Tryz.func9 rfl Tryz.ntmps9 rfl fun c => ?_
  repeat' (first | (refine O_ef rfl (Ef_boxa WideF.wide (cs := [.int .i64 k, .int .i64 n, sv t]) rfl rfl ?_); intro b2; refine O_freezeBox hone ?_; intro H1 hle1 hc) | (refine O_ev WideF.wide rfl (Ev_mini rfl rfl) rfl rfl ?_) | (refine O_ev WideF.wide rfl (Ev_ssliceh rfl rfl (by split <;> omega) (by split <;> omega)) rfl rfl ?_; rw [hl]) | (show opsA _ _ _ _ (⟨some 14, .call _, _, _, _, _⟩ :: _) _ _; refine O_ef rfl (Ef_call (I := []) WideF.wide (kK _ hle1) trivial rfl ?_); rintro v2 H2 I2 hle2 ⟨rfl, rfl⟩) | (show opsA _ _ _ _ (⟨some 22, .call _, _, _, _, _⟩ :: _) _ _; refine O_ef rfl (Ef_call (I := []) WideF.wide (kK _ (hle1.trans hle2)) trivial rfl ?_); rintro v9 H9 I9 hle9 ⟨rfl, rfl⟩) | (show opsA _ _ _ _ (⟨some 18, .load _ _, _, _, _, _⟩ :: _) _ _; refine O_ev WideF.wide rfl (Ev_loadH1 rfl (hc.mono hle2 2 _ rfl)) rfl rfl ?_) | (refine O_ef rfl (Ef_callp WideF.wide (kI _) ⟨rfl, trivial⟩ rfl ?_)) | (show opsA _ _ _ _ (⟨some 46, .call _, _, _, _, _⟩ :: _) _ _; refine O_ef rfl (Ef_call (I := []) WideF.wide (kU _) ⟨rfl, trivial⟩ rfl ?_); rintro v3 H3 I3 hle3 ⟨rfl, rfl⟩) | (show opsA _ _ _ _ (⟨some 48, .call _, _, _, _, _⟩ :: _) _ _; refine O_ef rfl (Ef_call (I := []) WideF.wide (kR _ ((hle1.trans hle2).trans hle3)) ⟨rfl, trivial⟩ rfl ?_); rintro v4 H4 I4 hle4 ⟨rfl, rfl⟩) | (show wpA _ _ _ (.region 11 _ _) _ _ _ _; refine A_freezeBox (cs := vlrow (⟨3, 0, []⟩)) (vl_one _) ?_; intro H5 hle5 hb8; refine A_freezeBox (cs := vlrow (⟨3, 0, []⟩)) (vl_one _) ?_; intro H6 hle6 hb5; (refine A_drawM WideF.wide (.q 0 (.q 2 (.e 1 (.e 3 (.q 4 (.q 5 (.q 6 (.q 7 (.q 8 (.q 9 (.q 10 (.q 11 (.q 13 (.e 12 (.q 14 (.q 15 (.q 16 (.done [])))))))))))))))))) [] (by decide +kernel) ?_)) | (refine D_ev rfl (Ev_loadH rfl (((((hc.mono hle2).mono hle3).mono hle4).mono hle5).mono hle6) rfl) rfl rfl ?_) | (refine D_ev rfl (Ev_loadH rfl (hb8.mono hle6) rfl) rfl rfl ?_) | (refine D_ev rfl (Ev_loadH rfl hb5 rfl) rfl rfl ?_) | (refine E_ef rfl (Ef_callp WideF.wide (kS _) ⟨rfl, trivial⟩ rfl ?_); refine ⟨Grow.same rfl rfl, ?_⟩) | (refine E_ef rfl (Ef_callp WideF.wide (kL _) ⟨rfl, trivial⟩ rfl ?_); refine ⟨Grow.same rfl rfl, ?_⟩) | (refine E_ef rfl (Ef_callp WideF.wide (kZ _) ⟨rfl, trivial⟩ rfl ?_); refine ⟨Grow.same rfl rfl, ?_⟩) | (refine D_ev rfl (Ev_seqs rfl rfl) rfl rfl ?_) | (refine D_ev rfl (Ev_eqS rfl rfl Tryz.eqGuardType37 (eq_val (⟨3, 0, []⟩) (⟨3, 0, []⟩))) rfl rfl ?_) | refine O_nil ?_ | refine A_seq ?_ | refine A_region ?_ | refine A_skip ?_ | refine A_ret ?_ | (show drJ _ _ _ _ _ _ _ (.q _ _) _; refine D_q rfl ?_) | (show drJ _ _ _ _ _ _ _ (.e _ _) _; refine D_e rfl ?_) | (show drJ _ _ _ _ _ _ _ (.done _) _; refine D_done ?_; simp only [List.cons_append, List.nil_append]) | (show drQ _ _ _ _ _ _; first | (refine D_split rfl rfl (fun h => ?_) (fun h => ?_) <;> try (exfalso; omega)) | refine D_ev rfl (Ev_pure rfl) rfl rfl ?_ | refine D_skip rfl rfl rfl ?_) | (show drE _ _ _ _ _ _ _; refine E_skip rfl rfl rfl ?_) | (show opsA _ _ _ _ _ _ _; first | (refine O_split rfl rfl (fun h => ?_) (fun h => ?_) <;> try (exfalso; omega)) | refine O_ev WideF.wide rfl (Ev_pure rfl) rfl rfl ?_ | (show opsA _ _ _ _ (⟨_, .fieldAddr _ _ _, _, _, _, _⟩ :: _) _ _; refine O_ev WideF.wide rfl (Ev_fieldAddr rfl rfl rfl) rfl rfl ?_) | (show opsA _ _ _ _ (⟨_, .call _, _, _, _, _⟩ :: _) _ _; refine O_ev WideF.wide rfl (Ev_slen rfl) rfl rfl ?_) | (show opsA _ _ _ _ (⟨_, .binOp _ _ _ _ _, _, _, _, _⟩ :: _) _ _; refine O_ev WideF.wide rfl (Ev_seql rfl rfl) rfl rfl ?_) | (show opsA _ _ _ _ (⟨_, .unOp _ _ _, _, _, _, _⟩ :: _) _ _; refine O_ev WideF.wide rfl (Ev_notb rfl) rfl rfl ?_) | (show opsA _ _ _ _ (⟨_, .build _ _, _, _, _, _⟩ :: _) _ _; refine O_ev WideF.wide rfl (Ev_build (vs := [(_, _), (_, _)]) ⟨rfl, rfl, rfl, rfl, trivial⟩ rfl) rfl rfl ?_) | (show opsA _ _ _ _ (⟨_, .alloc _, _, _, _, _⟩ :: _) _ _; (refine O_ef rfl (Ef_alloc WideF.wide rfl ?_); intro b)) | (show opsA _ _ _ _ (⟨_, .store _ _ _, _, _, _, _⟩ :: _) _ _; refine O_ef rfl (Ef_storew WideF.wide rfl rfl rfl rfl rfl ?_)) | refine O_skip WideF.wide rfl rfl rfl ?_) | (show wpA _ _ _ (.cond _ _ _) _ _ _ _; first | (refine A_if rfl (fun h => ?_) (fun h => ?_) <;> try (exfalso; omega)) | refine A_iftrue rfl ?_ | refine A_iffalse rfl ?_))
  all_goals first
    | (exfalso; omega)
    | (exfalso; contradiction)
    | (exfalso; exact absurd trivial (by assumption))
    | (exfalso; exact absurd rfl (by assumption))
    | exact End_e (Ret1 rfl rfl) ⟨rfl, rfl⟩
    | (refine End_e (Ret1 rfl rfl) ⟨?_, rfl⟩; simp; done)
    | trace_state

set_option maxRecDepth 100000 in
set_option maxHeartbeats 8000000 in
theorem Shows_num {H : Hp} {k n : Int} {t s l : List UInt8} (hV : VarsH H) (hx : I64 n) (hl : s.take (if (300 : Int) < (s.length : Int) then (300 : Int) else (s.length : Int)).toNat = l) (hll : l.length ≤ 300) (hc1 : ¬ l = trueS) (hc2 : ¬ l = falseS) (hi : (intR l).2 = 0) (h3 : ¬ l = [45, 48]) :
    Fn Tryz.prog 9 [rV ⟨k, n, t⟩, sv s] H [] fun v _ I => v = .bool true ∧ I = [] := by
  have hone := vl_one ⟨k, n, t⟩
  have kK := fun Hx (h : HLe H Hx) => known_fn (hV.mono h)
  have kI := fun Hx => integer_fn (H := Hx) (s := l) (by omega)
  have kR := fun Hx (h : HLe H Hx) => Read_fn (s := l) (by omega) (hV.mono h)
  have kS := fun Hx => Show_fn (H := Hx) (x := ⟨k, n, t⟩) hx
  have kL := fun Hx => show_fn (H := Hx) (x := ⟨k, n, t⟩) hx
  have kT := fun Hx => truth_t (H := Hx) (x := ())
  have kU := fun Hx => truth_f (H := Hx) (x := ())
  have hsh := shw_rd l
  have hc1' : ¬ l = [116, 114, 117, 101] := hc1
  have hc2' : ¬ l = [102, 97, 108, 115, 101] := hc2
  obtain ⟨⟨a, b⟩, hab⟩ : ∃ p, p = intR l := ⟨_, rfl⟩
  have hr : rdV l = if (intR l).2 = 0 ∧ l ≠ [45, 48] then numV (intR l).1 else txtV l := by unfold rdV; rw [if_neg (fun h => h.elim hc1 hc2)]
  rw [← hab] at hr hi
  simp only [← hab] at kI
  dsimp only at hr hi kI
  have he : rdV l = ⟨1, a, []⟩ := hr.trans (if_pos ⟨hi, h3⟩)
  show Fn Tryz.prog 9 [.agg [.int .i64 k, .int .i64 n, sv t].toArray, sv s] H [] _
  have kZ := fun Hx => Show_fn (H := Hx) (x := ⟨1, a, []⟩) (by have := intR_I l; rw [← hab] at this; exact this)
  rw [he] at hsh
  simp only [hsh] at kZ
  simp only [he] at kR
  refine Fn_of _ _ Tryz.func9 rfl Tryz.ntmps9 rfl fun c => ?_
  repeat' (first | (refine O_ef rfl (Ef_boxa WideF.wide (cs := [.int .i64 k, .int .i64 n, sv t]) rfl rfl ?_); intro b2; refine O_freezeBox hone ?_; intro H1 hle1 hc) | (refine O_ev WideF.wide rfl (Ev_mini rfl rfl) rfl rfl ?_) | (refine O_ev WideF.wide rfl (Ev_ssliceh rfl rfl (by split <;> omega) (by split <;> omega)) rfl rfl ?_; rw [hl]) | (show opsA _ _ _ _ (⟨some 14, .call _, _, _, _, _⟩ :: _) _ _; refine O_ef rfl (Ef_call (I := []) WideF.wide (kK _ hle1) trivial rfl ?_); rintro v2 H2 I2 hle2 ⟨rfl, rfl⟩) | (show opsA _ _ _ _ (⟨some 22, .call _, _, _, _, _⟩ :: _) _ _; refine O_ef rfl (Ef_call (I := []) WideF.wide (kK _ (hle1.trans hle2)) trivial rfl ?_); rintro v9 H9 I9 hle9 ⟨rfl, rfl⟩) | (show opsA _ _ _ _ (⟨some 18, .load _ _, _, _, _, _⟩ :: _) _ _; refine O_ev WideF.wide rfl (Ev_loadH1 rfl (hc.mono hle2 2 _ rfl)) rfl rfl ?_) | (refine O_ef rfl (Ef_callp WideF.wide (kI _) ⟨rfl, trivial⟩ rfl ?_)) | (show opsA _ _ _ _ (⟨some 48, .call _, _, _, _, _⟩ :: _) _ _; refine O_ef rfl (Ef_call (I := []) WideF.wide (kR _ ((hle1.trans hle2))) ⟨rfl, trivial⟩ rfl ?_); rintro v4 H4 I4 hle4 ⟨rfl, rfl⟩) | (show wpA _ _ _ (.region 11 _ _) _ _ _ _; refine A_freezeBox (cs := vlrow (⟨1, a, []⟩)) (vl_one _) ?_; intro H5 hle5 hb8; refine A_freezeBox (cs := vlrow (⟨1, a, []⟩)) (vl_one _) ?_; intro H6 hle6 hb5; (refine A_drawM WideF.wide (.q 0 (.q 2 (.e 1 (.e 3 (.q 4 (.q 5 (.q 6 (.q 7 (.q 8 (.q 9 (.q 10 (.q 11 (.q 13 (.e 12 (.q 14 (.q 15 (.q 16 (.done [])))))))))))))))))) [] (by decide +kernel) ?_)) | (refine D_ev rfl (Ev_loadH rfl (((((hc.mono hle2)).mono hle4).mono hle5).mono hle6) rfl) rfl rfl ?_) | (refine D_ev rfl (Ev_loadH rfl (hb8.mono hle6) rfl) rfl rfl ?_) | (refine D_ev rfl (Ev_loadH rfl hb5 rfl) rfl rfl ?_) | (refine E_ef rfl (Ef_callp WideF.wide (kS _) ⟨rfl, trivial⟩ rfl ?_); refine ⟨Grow.same rfl rfl, ?_⟩) | (refine E_ef rfl (Ef_callp WideF.wide (kL _) ⟨rfl, trivial⟩ rfl ?_); refine ⟨Grow.same rfl rfl, ?_⟩) | (refine E_ef rfl (Ef_callp WideF.wide (kZ _) ⟨rfl, trivial⟩ rfl ?_); refine ⟨Grow.same rfl rfl, ?_⟩) | (refine D_ev rfl (Ev_seqs rfl rfl) rfl rfl ?_) | (refine D_ev rfl (Ev_eqS rfl rfl Tryz.eqGuardType37 (eq_val (⟨1, a, []⟩) (⟨1, a, []⟩))) rfl rfl ?_) | refine O_nil ?_ | refine A_seq ?_ | refine A_region ?_ | refine A_skip ?_ | refine A_ret ?_ | (show drJ _ _ _ _ _ _ _ (.q _ _) _; refine D_q rfl ?_) | (show drJ _ _ _ _ _ _ _ (.e _ _) _; refine D_e rfl ?_) | (show drJ _ _ _ _ _ _ _ (.done _) _; refine D_done ?_; simp only [List.cons_append, List.nil_append]) | (show drQ _ _ _ _ _ _; first | (refine D_split rfl rfl (fun h => ?_) (fun h => ?_) <;> try (exfalso; omega)) | refine D_ev rfl (Ev_pure rfl) rfl rfl ?_ | refine D_skip rfl rfl rfl ?_) | (show drE _ _ _ _ _ _ _; refine E_skip rfl rfl rfl ?_) | (show opsA _ _ _ _ _ _ _; first | (refine O_split rfl rfl (fun h => ?_) (fun h => ?_) <;> try (exfalso; omega)) | refine O_ev WideF.wide rfl (Ev_pure rfl) rfl rfl ?_ | (show opsA _ _ _ _ (⟨_, .fieldAddr _ _ _, _, _, _, _⟩ :: _) _ _; refine O_ev WideF.wide rfl (Ev_fieldAddr rfl rfl rfl) rfl rfl ?_) | (show opsA _ _ _ _ (⟨_, .call _, _, _, _, _⟩ :: _) _ _; refine O_ev WideF.wide rfl (Ev_slen rfl) rfl rfl ?_) | (show opsA _ _ _ _ (⟨_, .binOp _ _ _ _ _, _, _, _, _⟩ :: _) _ _; first | refine O_ev WideF.wide rfl (Ev_seql rfl rfl) rfl rfl ?_ | refine O_ev WideF.wide rfl (Ev_sneq rfl rfl) rfl rfl ?_) | (show opsA _ _ _ _ (⟨_, .unOp _ _ _, _, _, _, _⟩ :: _) _ _; refine O_ev WideF.wide rfl (Ev_notb rfl) rfl rfl ?_) | (show opsA _ _ _ _ (⟨_, .build _ _, _, _, _, _⟩ :: _) _ _; refine O_ev WideF.wide rfl (Ev_build (vs := [(_, _), (_, _)]) ⟨rfl, rfl, rfl, rfl, trivial⟩ rfl) rfl rfl ?_) | (show opsA _ _ _ _ (⟨_, .alloc _, _, _, _, _⟩ :: _) _ _; (refine O_ef rfl (Ef_alloc WideF.wide rfl ?_); intro b)) | (show opsA _ _ _ _ (⟨_, .store _ _ _, _, _, _, _⟩ :: _) _ _; refine O_ef rfl (Ef_storew WideF.wide rfl rfl rfl rfl rfl ?_)) | refine O_skip WideF.wide rfl rfl rfl ?_) | (show wpA _ _ _ (.cond _ _ _) _ _ _ _; first | (refine A_if rfl (fun h => ?_) (fun h => ?_) <;> try (exfalso; omega)) | refine A_iftrue rfl ?_))
  all_goals first
    | (exfalso; omega)
    | (exfalso; contradiction)
    | (exfalso; exact absurd trivial (by assumption))
    | (exfalso; exact absurd rfl (by assumption))
    | exact End_e (Ret1 rfl rfl) ⟨rfl, rfl⟩
    | (refine End_e (Ret1 rfl rfl) ⟨?_, rfl⟩; simp; done)
    | trace_state

set_option maxRecDepth 100000 in
set_option maxHeartbeats 8000000 in
theorem Shows_dash {H : Hp} {k n : Int} {t s l : List UInt8} (hV : VarsH H) (hx : I64 n) (hl : s.take (if (300 : Int) < (s.length : Int) then (300 : Int) else (s.length : Int)).toNat = l) (hll : l.length ≤ 300) (hc1 : ¬ l = trueS) (hc2 : ¬ l = falseS) (hi : (intR l).2 = 0) (h3 : l = [45, 48]) :
    Fn Tryz.prog 9 [rV ⟨k, n, t⟩, sv s] H [] fun v _ I => v = .bool true ∧ I = [] := by
  have hone := vl_one ⟨k, n, t⟩
  have kK := fun Hx (h : HLe H Hx) => known_fn (hV.mono h)
  have kI := fun Hx => integer_fn (H := Hx) (s := l) (by omega)
  have kR := fun Hx (h : HLe H Hx) => Read_fn (s := l) (by omega) (hV.mono h)
  have kS := fun Hx => Show_fn (H := Hx) (x := ⟨k, n, t⟩) hx
  have kL := fun Hx => show_fn (H := Hx) (x := ⟨k, n, t⟩) hx
  have kT := fun Hx => truth_t (H := Hx) (x := ())
  have kU := fun Hx => truth_f (H := Hx) (x := ())
  have hsh := shw_rd l
  have hc1' : ¬ l = [116, 114, 117, 101] := hc1
  have hc2' : ¬ l = [102, 97, 108, 115, 101] := hc2
  obtain ⟨⟨a, b⟩, hab⟩ : ∃ p, p = intR l := ⟨_, rfl⟩
  have hr : rdV l = if (intR l).2 = 0 ∧ l ≠ [45, 48] then numV (intR l).1 else txtV l := by unfold rdV; rw [if_neg (fun h => h.elim hc1 hc2)]
  rw [← hab] at hr hi
  simp only [← hab] at kI
  dsimp only at hr hi kI
  have he : rdV l = ⟨2, 0, l⟩ := hr.trans (if_neg (fun h => h.2 h3))
  show Fn Tryz.prog 9 [.agg [.int .i64 k, .int .i64 n, sv t].toArray, sv s] H [] _
  have kZ := fun Hx => Show_fn (H := Hx) (x := ⟨2, 0, l⟩) ((⟨by decide, by decide⟩ : I64 0))
  rw [he] at hsh
  simp only [hsh] at kZ
  simp only [he] at kR
  refine Fn_of _ _ Tryz.func9 rfl Tryz.ntmps9 rfl fun c => ?_
  repeat' (first | (refine O_ef rfl (Ef_boxa WideF.wide (cs := [.int .i64 k, .int .i64 n, sv t]) rfl rfl ?_); intro b2; refine O_freezeBox hone ?_; intro H1 hle1 hc) | (refine O_ev WideF.wide rfl (Ev_mini rfl rfl) rfl rfl ?_) | (refine O_ev WideF.wide rfl (Ev_ssliceh rfl rfl (by split <;> omega) (by split <;> omega)) rfl rfl ?_; rw [hl]) | (show opsA _ _ _ _ (⟨some 14, .call _, _, _, _, _⟩ :: _) _ _; refine O_ef rfl (Ef_call (I := []) WideF.wide (kK _ hle1) trivial rfl ?_); rintro v2 H2 I2 hle2 ⟨rfl, rfl⟩) | (show opsA _ _ _ _ (⟨some 22, .call _, _, _, _, _⟩ :: _) _ _; refine O_ef rfl (Ef_call (I := []) WideF.wide (kK _ (hle1.trans hle2)) trivial rfl ?_); rintro v9 H9 I9 hle9 ⟨rfl, rfl⟩) | (show opsA _ _ _ _ (⟨some 18, .load _ _, _, _, _, _⟩ :: _) _ _; refine O_ev WideF.wide rfl (Ev_loadH1 rfl (hc.mono hle2 2 _ rfl)) rfl rfl ?_) | (refine O_ef rfl (Ef_callp WideF.wide (kI _) ⟨rfl, trivial⟩ rfl ?_)) | (show opsA _ _ _ _ (⟨some 48, .call _, _, _, _, _⟩ :: _) _ _; refine O_ef rfl (Ef_call (I := []) WideF.wide (kR _ ((hle1.trans hle2))) ⟨rfl, trivial⟩ rfl ?_); rintro v4 H4 I4 hle4 ⟨rfl, rfl⟩) | (show wpA _ _ _ (.region 11 _ _) _ _ _ _; refine A_freezeBox (cs := vlrow (⟨2, 0, l⟩)) (vl_one _) ?_; intro H5 hle5 hb8; refine A_freezeBox (cs := vlrow (⟨2, 0, l⟩)) (vl_one _) ?_; intro H6 hle6 hb5; (refine A_drawM WideF.wide (.q 0 (.q 2 (.e 1 (.e 3 (.q 4 (.q 5 (.q 6 (.q 7 (.q 8 (.q 9 (.q 10 (.q 11 (.q 13 (.e 12 (.q 14 (.q 15 (.q 16 (.done [])))))))))))))))))) [] (by decide +kernel) ?_)) | (refine D_ev rfl (Ev_loadH rfl (((((hc.mono hle2)).mono hle4).mono hle5).mono hle6) rfl) rfl rfl ?_) | (refine D_ev rfl (Ev_loadH rfl (hb8.mono hle6) rfl) rfl rfl ?_) | (refine D_ev rfl (Ev_loadH rfl hb5 rfl) rfl rfl ?_) | (refine E_ef rfl (Ef_callp WideF.wide (kS _) ⟨rfl, trivial⟩ rfl ?_); refine ⟨Grow.same rfl rfl, ?_⟩) | (refine E_ef rfl (Ef_callp WideF.wide (kL _) ⟨rfl, trivial⟩ rfl ?_); refine ⟨Grow.same rfl rfl, ?_⟩) | (refine E_ef rfl (Ef_callp WideF.wide (kZ _) ⟨rfl, trivial⟩ rfl ?_); refine ⟨Grow.same rfl rfl, ?_⟩) | (refine D_ev rfl (Ev_seqs rfl rfl) rfl rfl ?_) | (refine D_ev rfl (Ev_eqS rfl rfl Tryz.eqGuardType37 (eq_val (⟨2, 0, l⟩) (⟨2, 0, l⟩))) rfl rfl ?_) | refine O_nil ?_ | refine A_seq ?_ | refine A_region ?_ | refine A_skip ?_ | refine A_ret ?_ | (show drJ _ _ _ _ _ _ _ (.q _ _) _; refine D_q rfl ?_) | (show drJ _ _ _ _ _ _ _ (.e _ _) _; refine D_e rfl ?_) | (show drJ _ _ _ _ _ _ _ (.done _) _; refine D_done ?_; simp only [List.cons_append, List.nil_append]) | (show drQ _ _ _ _ _ _; first | (refine D_split rfl rfl (fun h => ?_) (fun h => ?_) <;> try (exfalso; omega)) | refine D_ev rfl (Ev_pure rfl) rfl rfl ?_ | refine D_skip rfl rfl rfl ?_) | (show drE _ _ _ _ _ _ _; refine E_skip rfl rfl rfl ?_) | (show opsA _ _ _ _ _ _ _; first | (refine O_split rfl rfl (fun h => ?_) (fun h => ?_) <;> try (exfalso; omega)) | refine O_ev WideF.wide rfl (Ev_pure rfl) rfl rfl ?_ | (show opsA _ _ _ _ (⟨_, .fieldAddr _ _ _, _, _, _, _⟩ :: _) _ _; refine O_ev WideF.wide rfl (Ev_fieldAddr rfl rfl rfl) rfl rfl ?_) | (show opsA _ _ _ _ (⟨_, .call _, _, _, _, _⟩ :: _) _ _; refine O_ev WideF.wide rfl (Ev_slen rfl) rfl rfl ?_) | (show opsA _ _ _ _ (⟨_, .binOp _ _ _ _ _, _, _, _, _⟩ :: _) _ _; first | refine O_ev WideF.wide rfl (Ev_seql rfl rfl) rfl rfl ?_ | refine O_ev WideF.wide rfl (Ev_sneq rfl rfl) rfl rfl ?_) | (show opsA _ _ _ _ (⟨_, .unOp _ _ _, _, _, _, _⟩ :: _) _ _; refine O_ev WideF.wide rfl (Ev_notb rfl) rfl rfl ?_) | (show opsA _ _ _ _ (⟨_, .build _ _, _, _, _, _⟩ :: _) _ _; refine O_ev WideF.wide rfl (Ev_build (vs := [(_, _), (_, _)]) ⟨rfl, rfl, rfl, rfl, trivial⟩ rfl) rfl rfl ?_) | (show opsA _ _ _ _ (⟨_, .alloc _, _, _, _, _⟩ :: _) _ _; (refine O_ef rfl (Ef_alloc WideF.wide rfl ?_); intro b)) | (show opsA _ _ _ _ (⟨_, .store _ _ _, _, _, _, _⟩ :: _) _ _; refine O_ef rfl (Ef_storew WideF.wide rfl rfl rfl rfl rfl ?_)) | refine O_skip WideF.wide rfl rfl rfl ?_) | (show wpA _ _ _ (.cond _ _ _) _ _ _ _; first | (refine A_if rfl (fun h => ?_) (fun h => ?_) <;> try (exfalso; omega)) | refine A_iftrue rfl ?_))
  all_goals first
    | (exfalso; omega)
    | (exfalso; contradiction)
    | (exfalso; exact absurd trivial (by assumption))
    | (exfalso; exact absurd rfl (by assumption))
    | exact End_e (Ret1 rfl rfl) ⟨rfl, rfl⟩
    | (refine End_e (Ret1 rfl rfl) ⟨?_, rfl⟩; simp; done)
    | trace_state

set_option maxRecDepth 100000 in
set_option maxHeartbeats 8000000 in
theorem Shows_txt {H : Hp} {k n : Int} {t s l : List UInt8} (hV : VarsH H) (hx : I64 n) (hl : s.take (if (300 : Int) < (s.length : Int) then (300 : Int) else (s.length : Int)).toNat = l) (hll : l.length ≤ 300) (hc1 : ¬ l = trueS) (hc2 : ¬ l = falseS) (hi : ¬ (intR l).2 = 0) :
    Fn Tryz.prog 9 [rV ⟨k, n, t⟩, sv s] H [] fun v _ I => v = .bool true ∧ I = [] := by
  have hone := vl_one ⟨k, n, t⟩
  have kK := fun Hx (h : HLe H Hx) => known_fn (hV.mono h)
  have kI := fun Hx => integer_fn (H := Hx) (s := l) (by omega)
  have kR := fun Hx (h : HLe H Hx) => Read_fn (s := l) (by omega) (hV.mono h)
  have kS := fun Hx => Show_fn (H := Hx) (x := ⟨k, n, t⟩) hx
  have kL := fun Hx => show_fn (H := Hx) (x := ⟨k, n, t⟩) hx
  have kT := fun Hx => truth_t (H := Hx) (x := ())
  have kU := fun Hx => truth_f (H := Hx) (x := ())
  have hsh := shw_rd l
  have hc1' : ¬ l = [116, 114, 117, 101] := hc1
  have hc2' : ¬ l = [102, 97, 108, 115, 101] := hc2
  obtain ⟨⟨a, b⟩, hab⟩ : ∃ p, p = intR l := ⟨_, rfl⟩
  have hr : rdV l = if (intR l).2 = 0 ∧ l ≠ [45, 48] then numV (intR l).1 else txtV l := by unfold rdV; rw [if_neg (fun h => h.elim hc1 hc2)]
  rw [← hab] at hr hi
  simp only [← hab] at kI
  dsimp only at hr hi kI
  have he : rdV l = ⟨2, 0, l⟩ := hr.trans (if_neg (fun h => hi h.1))
  show Fn Tryz.prog 9 [.agg [.int .i64 k, .int .i64 n, sv t].toArray, sv s] H [] _
  have kZ := fun Hx => Show_fn (H := Hx) (x := ⟨2, 0, l⟩) ((⟨by decide, by decide⟩ : I64 0))
  rw [he] at hsh
  simp only [hsh] at kZ
  simp only [he] at kR
  refine Fn_of _ _ Tryz.func9 rfl Tryz.ntmps9 rfl fun c => ?_
  repeat' (first | (refine O_ef rfl (Ef_boxa WideF.wide (cs := [.int .i64 k, .int .i64 n, sv t]) rfl rfl ?_); intro b2; refine O_freezeBox hone ?_; intro H1 hle1 hc) | (refine O_ev WideF.wide rfl (Ev_mini rfl rfl) rfl rfl ?_) | (refine O_ev WideF.wide rfl (Ev_ssliceh rfl rfl (by split <;> omega) (by split <;> omega)) rfl rfl ?_; rw [hl]) | (show opsA _ _ _ _ (⟨some 14, .call _, _, _, _, _⟩ :: _) _ _; refine O_ef rfl (Ef_call (I := []) WideF.wide (kK _ hle1) trivial rfl ?_); rintro v2 H2 I2 hle2 ⟨rfl, rfl⟩) | (show opsA _ _ _ _ (⟨some 22, .call _, _, _, _, _⟩ :: _) _ _; refine O_ef rfl (Ef_call (I := []) WideF.wide (kK _ (hle1.trans hle2)) trivial rfl ?_); rintro v9 H9 I9 hle9 ⟨rfl, rfl⟩) | (show opsA _ _ _ _ (⟨some 18, .load _ _, _, _, _, _⟩ :: _) _ _; refine O_ev WideF.wide rfl (Ev_loadH1 rfl (hc.mono hle2 2 _ rfl)) rfl rfl ?_) | (refine O_ef rfl (Ef_callp WideF.wide (kI _) ⟨rfl, trivial⟩ rfl ?_)) | (show opsA _ _ _ _ (⟨some 48, .call _, _, _, _, _⟩ :: _) _ _; refine O_ef rfl (Ef_call (I := []) WideF.wide (kR _ ((hle1.trans hle2))) ⟨rfl, trivial⟩ rfl ?_); rintro v4 H4 I4 hle4 ⟨rfl, rfl⟩) | (show wpA _ _ _ (.region 11 _ _) _ _ _ _; refine A_freezeBox (cs := vlrow (⟨2, 0, l⟩)) (vl_one _) ?_; intro H5 hle5 hb8; refine A_freezeBox (cs := vlrow (⟨2, 0, l⟩)) (vl_one _) ?_; intro H6 hle6 hb5; (refine A_drawM WideF.wide (.q 0 (.q 2 (.e 1 (.e 3 (.q 4 (.q 5 (.q 6 (.q 7 (.q 8 (.q 9 (.q 10 (.q 11 (.q 13 (.e 12 (.q 14 (.q 15 (.q 16 (.done [])))))))))))))))))) [] (by decide +kernel) ?_)) | (refine D_ev rfl (Ev_loadH rfl (((((hc.mono hle2)).mono hle4).mono hle5).mono hle6) rfl) rfl rfl ?_) | (refine D_ev rfl (Ev_loadH rfl (hb8.mono hle6) rfl) rfl rfl ?_) | (refine D_ev rfl (Ev_loadH rfl hb5 rfl) rfl rfl ?_) | (refine E_ef rfl (Ef_callp WideF.wide (kS _) ⟨rfl, trivial⟩ rfl ?_); refine ⟨Grow.same rfl rfl, ?_⟩) | (refine E_ef rfl (Ef_callp WideF.wide (kL _) ⟨rfl, trivial⟩ rfl ?_); refine ⟨Grow.same rfl rfl, ?_⟩) | (refine E_ef rfl (Ef_callp WideF.wide (kZ _) ⟨rfl, trivial⟩ rfl ?_); refine ⟨Grow.same rfl rfl, ?_⟩) | (refine D_ev rfl (Ev_seqs rfl rfl) rfl rfl ?_) | (refine D_ev rfl (Ev_eqS rfl rfl Tryz.eqGuardType37 (eq_val (⟨2, 0, l⟩) (⟨2, 0, l⟩))) rfl rfl ?_) | refine O_nil ?_ | refine A_seq ?_ | refine A_region ?_ | refine A_skip ?_ | refine A_ret ?_ | (show drJ _ _ _ _ _ _ _ (.q _ _) _; refine D_q rfl ?_) | (show drJ _ _ _ _ _ _ _ (.e _ _) _; refine D_e rfl ?_) | (show drJ _ _ _ _ _ _ _ (.done _) _; refine D_done ?_; simp only [List.cons_append, List.nil_append]) | (show drQ _ _ _ _ _ _; first | (refine D_split rfl rfl (fun h => ?_) (fun h => ?_) <;> try (exfalso; omega)) | refine D_ev rfl (Ev_pure rfl) rfl rfl ?_ | refine D_skip rfl rfl rfl ?_) | (show drE _ _ _ _ _ _ _; refine E_skip rfl rfl rfl ?_) | (show opsA _ _ _ _ _ _ _; first | (refine O_split rfl rfl (fun h => ?_) (fun h => ?_) <;> try (exfalso; omega)) | refine O_ev WideF.wide rfl (Ev_pure rfl) rfl rfl ?_ | (show opsA _ _ _ _ (⟨_, .fieldAddr _ _ _, _, _, _, _⟩ :: _) _ _; refine O_ev WideF.wide rfl (Ev_fieldAddr rfl rfl rfl) rfl rfl ?_) | (show opsA _ _ _ _ (⟨_, .call _, _, _, _, _⟩ :: _) _ _; refine O_ev WideF.wide rfl (Ev_slen rfl) rfl rfl ?_) | (show opsA _ _ _ _ (⟨_, .binOp _ _ _ _ _, _, _, _, _⟩ :: _) _ _; refine O_ev WideF.wide rfl (Ev_seql rfl rfl) rfl rfl ?_) | (show opsA _ _ _ _ (⟨_, .unOp _ _ _, _, _, _, _⟩ :: _) _ _; refine O_ev WideF.wide rfl (Ev_notb rfl) rfl rfl ?_) | (show opsA _ _ _ _ (⟨_, .build _ _, _, _, _, _⟩ :: _) _ _; refine O_ev WideF.wide rfl (Ev_build (vs := [(_, _), (_, _)]) ⟨rfl, rfl, rfl, rfl, trivial⟩ rfl) rfl rfl ?_) | (show opsA _ _ _ _ (⟨_, .alloc _, _, _, _, _⟩ :: _) _ _; (refine O_ef rfl (Ef_alloc WideF.wide rfl ?_); intro b)) | (show opsA _ _ _ _ (⟨_, .store _ _ _, _, _, _, _⟩ :: _) _ _; refine O_ef rfl (Ef_storew WideF.wide rfl rfl rfl rfl rfl ?_)) | refine O_skip WideF.wide rfl rfl rfl ?_) | (show wpA _ _ _ (.cond _ _ _) _ _ _ _; first | (refine A_if rfl (fun h => ?_) (fun h => ?_) <;> try (exfalso; omega)) | refine A_iftrue rfl ?_ | refine A_iffalse rfl ?_))
  all_goals first
    | (exfalso; omega)
    | (exfalso; contradiction)
    | (exfalso; exact absurd trivial (by assumption))
    | (exfalso; exact absurd rfl (by assumption))
    | exact End_e (Ret1 rfl rfl) ⟨rfl, rfl⟩
    | (refine End_e (Ret1 rfl rfl) ⟨?_, rfl⟩; simp; done)
    | trace_state

theorem FormulaShows_fn {H : Hp} {x : Val} {s : List UInt8} (hV : VarsH H) (hx : I64 x.num) :
    Fn Tryz.prog 9 [rV x, sv s] H [] fun v _ I => v = .bool true ∧ I = [] := by
  obtain ⟨k, n, t⟩ := x
  obtain ⟨l, hl⟩ : ∃ l, s.take (if (300 : Int) < (s.length : Int) then (300 : Int) else (s.length : Int)).toNat = l := ⟨_, rfl⟩
  have hll : l.length ≤ 300 := by rw [← hl, List.length_take]; split <;> omega
  by_cases hc1 : l = trueS
  · exact Shows_true hV hx hl hll hc1
  by_cases hc2 : l = falseS
  · exact Shows_false hV hx hl hll hc2
  by_cases hi : (intR l).2 = 0
  · by_cases h3 : l = [45, 48]
    · exact Shows_dash hV hx hl hll hc1 hc2 hi h3
    · exact Shows_num hV hx hl hll hc1 hc2 hi h3
  · exact Shows_txt hV hx hl hll hc1 hc2 hi
end Go.Proofs.YtnoadopmeoohmaaGreatDoor
