/-
  The law's check of one node. Printed by genF47.py.
  The law's check. Printed by genF48.py.
-/
import Derived.Test.YtnoadopmeoohmaaGreatDoorF36
namespace Go.Proofs.YtnoadopmeoohmaaGreatDoor
open Go
set_option linter.unusedVariables false
set_option linter.unusedSimpArgs false
section
/-- what the law's node gives: functions of many arguments may have up to 1000 -/
noncomputable def lnT (op num : Int) (text : List UInt8) (nargs : Int) : Int :=
  if op = 5 then (if num ≠ 0 then 15 else if (fnc text).2.2 = false then 30 else if nargs < (fnc text).1 ∨ (fnc text).2.1 < nargs then 15 else 0) else chkT op num text nargs
noncomputable def lnN (x : Nd) : Int := lnT x.op x.num x.text x.args.length
attribute [local irreducible] wpA opsA drJ drQ drE Ef Ev Shift Fn

set_option maxRecDepth 100000 in
set_option maxHeartbeats 16000000 in
theorem lnode_bad {H : Hp} {op num : Int} {text : List UInt8} {a : Option Addr} {n cp : Nat} (hn : n < 4611686018427387904) (ht : text.length < 4611686018427387904) (hop : op < 1 ∨ 21 < op) :
    Fn Tryz.prog 37 [.agg [.int .i64 op, .int .i64 num, sv text, .slice a n cp].toArray] H [] fun v _ I => v = .int .i64 (chkT op num text n) ∧ I = [] := by
  refine Fn_of _ _ Tryz.func37 rfl Tryz.ntmps37 rfl fun c => ?_
  repeat' (first | (refine O_ef rfl (Ef_boxa WideF.wide (cs := [.int .i64 op, .int .i64 num, sv text, .slice a n cp]) rfl rfl ?_); intro b1; refine O_freezeBox (by intro u hu; simp at hu; rcases hu with rfl | rfl | rfl | rfl <;> rfl) ?_; intro H1 hle1 hc) | refine O_nil ?_ | refine A_seq ?_ | refine A_region ?_ | refine A_ret ?_ | (show opsA _ _ _ _ _ _ _; first | (refine O_split rfl rfl (fun h => ?_) (fun h => ?_) <;> try (exfalso; omega)) | refine O_ev WideF.wide rfl (Ev_pure rfl) rfl rfl ?_ | (show opsA _ _ _ _ (⟨_, .load _ _, _, _, _, _⟩ :: _) _ _; refine O_ev WideF.wide rfl (Ev_loadH1 rfl (hc 0 _ rfl)) rfl rfl ?_) | (show opsA _ _ _ _ (⟨_, .fieldAddr _ _ _, _, _, _, _⟩ :: _) _ _; refine O_ev WideF.wide rfl (Ev_fieldAddr rfl rfl rfl) rfl rfl ?_) | refine O_skip WideF.wide rfl rfl rfl ?_) | (show wpA _ _ _ (.cond _ _ _) _ _ _ _; first | (refine A_if rfl (fun h => ?_) (fun h => ?_) <;> try (exfalso; omega)) | refine A_iftrue rfl ?_))
  all_goals first
    | (exfalso; omega)
    | (exfalso; contradiction)
    | (exfalso; exact absurd trivial (by assumption))
    | (exfalso; exact absurd rfl (by assumption))
    | (refine End_e (Ret1 rfl rfl) ⟨congrArg (Value.int .i64) ?_, rfl⟩; unfold chkT; grind)
    | trace_state

set_option maxRecDepth 100000 in
set_option maxHeartbeats 16000000 in
theorem lnode_op {H : Hp} {op num : Int} {text : List UInt8} {a : Option Addr} {n cp : Nat} (hn : n < 4611686018427387904) (ht : text.length < 4611686018427387904) (hop : 5 < op ∧ op ≤ 21) :
    Fn Tryz.prog 37 [.agg [.int .i64 op, .int .i64 num, sv text, .slice a n cp].toArray] H [] fun v _ I => v = .int .i64 (chkT op num text n) ∧ I = [] := by
  refine Fn_of _ _ Tryz.func37 rfl Tryz.ntmps37 rfl fun c => ?_
  repeat' (first | (refine O_ef rfl (Ef_boxa WideF.wide (cs := [.int .i64 op, .int .i64 num, sv text, .slice a n cp]) rfl rfl ?_); intro b1; refine O_freezeBox (by intro u hu; simp at hu; rcases hu with rfl | rfl | rfl | rfl <;> rfl) ?_; intro H1 hle1 hc) | (show wpA _ _ _ (.region 5 _ _) _ _ _ _; (refine A_drawM WideF.wide (.q 0 (.q 1 (.q 2 (.q 3 (.q 4 (.q 5 (.q 6 (.q 7 (.q 8 (.q 9 (.q 10 (.q 11 (.q 12 (.q 13 (.q 14 (.q 15 (.q 16 (.q 17 (.q 18 (.q 19 (.q 20 (.q 21 (.q 22 (.q 23 (.q 24 (.q 25 (.e 26 (.q 27 (.q 28 (.q 29 (.done []))))))))))))))))))))))))))))))) [] (by decide +kernel) ?_)) | (refine E_ef rfl (Ef_callp WideF.wide (arguments_fn) ⟨rfl, trivial⟩ rfl ?_); refine ⟨Grow.same rfl rfl, ?_⟩) | refine O_nil ?_ | refine A_seq ?_ | refine A_region ?_ | refine A_skip ?_ | refine A_ret ?_ | refine A_block ?_ | (show drJ _ _ _ _ _ _ _ (.q _ _) _; refine D_q rfl ?_) | (show drJ _ _ _ _ _ _ _ (.e _ _) _; refine D_e rfl ?_) | (show drJ _ _ _ _ _ _ _ (.done _) _; refine D_done ?_; simp only [List.cons_append, List.nil_append]) | (show drQ _ _ _ _ _ _; first | (refine D_split rfl rfl (fun h => ?_) (fun h => ?_) <;> try (exfalso; omega)) | refine D_ev rfl (Ev_pure rfl) rfl rfl ?_ | (show drQ _ _ _ ⟨_, .load _ _, _, _, _, _⟩ _ _; first | refine D_ev rfl (Ev_loadH1 rfl (hc 0 _ rfl)) rfl rfl ?_ | refine D_ev rfl (Ev_loadH1 rfl (hc 1 _ rfl)) rfl rfl ?_ | refine D_ev rfl (Ev_loadH1 rfl (hc 2 _ rfl)) rfl rfl ?_ | refine D_ev rfl (Ev_loadH1 rfl (hc 3 _ rfl)) rfl rfl ?_) | (show drQ _ _ _ ⟨_, .fieldAddr _ _ _, _, _, _, _⟩ _ _; refine D_ev rfl (Ev_fieldAddr rfl rfl rfl) rfl rfl ?_) | (show drQ _ _ _ ⟨_, .call _, _, _, _, _⟩ _ _; refine D_ev rfl (Ev_llen rfl) rfl rfl ?_) | (show drQ _ _ _ ⟨_, .binOp _ _ _ _ _, _, _, _, _⟩ _ _; refine D_ev rfl (Ev_sneq rfl rfl) rfl rfl ?_) | (show drQ _ _ _ ⟨_, .unOp _ _ _, _, _, _, _⟩ _ _; refine D_ev rfl (Ev_not rfl) rfl rfl ?_) | refine D_skip rfl rfl rfl ?_) | (show drE _ _ _ _ _ _ _; refine E_skip rfl rfl rfl ?_) | (show opsA _ _ _ _ _ _ _; first | (refine O_split rfl rfl (fun h => ?_) (fun h => ?_) <;> try (exfalso; omega)) | refine O_ev WideF.wide rfl (Ev_pure rfl) rfl rfl ?_ | (show opsA _ _ _ _ (⟨_, .load _ _, _, _, _, _⟩ :: _) _ _; refine O_ev WideF.wide rfl (Ev_loadH1 rfl (hc 0 _ rfl)) rfl rfl ?_) | (show opsA _ _ _ _ (⟨_, .fieldAddr _ _ _, _, _, _, _⟩ :: _) _ _; refine O_ev WideF.wide rfl (Ev_fieldAddr rfl rfl rfl) rfl rfl ?_)) | (show wpA _ _ _ (.cond _ _ _) _ _ _ _; first | (refine A_if rfl (fun h => ?_) (fun h => ?_) <;> try (exfalso; omega)) | refine A_iftrue rfl ?_))
  all_goals first
    | (exfalso; omega)
    | (exfalso; contradiction)
    | (exfalso; exact absurd trivial (by assumption))
    | (exfalso; exact absurd rfl (by assumption))
    | (refine End_e (Ret1 rfl rfl) ⟨congrArg (Value.int .i64) ?_, rfl⟩; unfold chkT; grind)
    | trace_state

set_option maxRecDepth 100000 in
set_option maxHeartbeats 16000000 in
theorem lnode_1 {H : Hp} {num : Int} {text : List UInt8} {a : Option Addr} {n cp : Nat} (hn : n < 4611686018427387904) (ht : text.length < 4611686018427387904) :
    Fn Tryz.prog 37 [.agg [.int .i64 1, .int .i64 num, sv text, .slice a n cp].toArray] H [] fun v _ I => v = .int .i64 (chkT 1 num text n) ∧ I = [] := by
  refine Fn_of _ _ Tryz.func37 rfl Tryz.ntmps37 rfl fun c => ?_
  repeat' (first | (refine O_ef rfl (Ef_boxa WideF.wide (cs := [.int .i64 1, .int .i64 num, sv text, .slice a n cp]) rfl rfl ?_); intro b1; refine O_freezeBox (by intro u hu; simp at hu; rcases hu with rfl | rfl | rfl | rfl <;> rfl) ?_; intro H1 hle1 hc) | (show wpA _ _ _ (.region 5 _ _) _ _ _ _; (refine A_drawM WideF.wide (.q 0 (.q 1 (.q 2 (.q 3 (.q 4 (.q 5 (.q 6 (.q 7 (.q 8 (.q 9 (.q 10 (.q 11 (.q 12 (.q 13 (.q 14 (.q 15 (.q 16 (.q 17 (.q 18 (.q 19 (.q 20 (.q 21 (.q 22 (.q 23 (.q 24 (.q 25 (.e 26 (.q 27 (.q 28 (.q 29 (.done []))))))))))))))))))))))))))))))) [] (by decide +kernel) ?_)) | (refine E_ef rfl (Ef_callp WideF.wide (arguments_fn) ⟨rfl, trivial⟩ rfl ?_); refine ⟨Grow.same rfl rfl, ?_⟩) | refine O_nil ?_ | refine A_seq ?_ | refine A_region ?_ | refine A_skip ?_ | refine A_ret ?_ | refine A_block ?_ | (show drJ _ _ _ _ _ _ _ (.q _ _) _; refine D_q rfl ?_) | (show drJ _ _ _ _ _ _ _ (.e _ _) _; refine D_e rfl ?_) | (show drJ _ _ _ _ _ _ _ (.done _) _; refine D_done ?_; simp only [List.cons_append, List.nil_append]) | (show drQ _ _ _ _ _ _; first | (refine D_split rfl rfl (fun h => ?_) (fun h => ?_) <;> try (exfalso; omega)) | refine D_ev rfl (Ev_pure rfl) rfl rfl ?_ | (show drQ _ _ _ ⟨_, .load _ _, _, _, _, _⟩ _ _; first | refine D_ev rfl (Ev_loadH1 rfl (hc 0 _ rfl)) rfl rfl ?_ | refine D_ev rfl (Ev_loadH1 rfl (hc 2 _ rfl)) rfl rfl ?_ | refine D_ev rfl (Ev_loadH1 rfl (hc 3 _ rfl)) rfl rfl ?_) | (show drQ _ _ _ ⟨_, .fieldAddr _ _ _, _, _, _, _⟩ _ _; refine D_ev rfl (Ev_fieldAddr rfl rfl rfl) rfl rfl ?_) | (show drQ _ _ _ ⟨_, .call _, _, _, _, _⟩ _ _; refine D_ev rfl (Ev_llen rfl) rfl rfl ?_) | (show drQ _ _ _ ⟨_, .binOp _ _ _ _ _, _, _, _, _⟩ _ _; refine D_ev rfl (Ev_sneq rfl rfl) rfl rfl ?_) | (show drQ _ _ _ ⟨_, .unOp _ _ _, _, _, _, _⟩ _ _; first | refine D_ev rfl (Ev_not rfl) rfl rfl ?_ | refine D_ev rfl (Ev_notb rfl) rfl rfl ?_) | refine D_skip rfl rfl rfl ?_) | (show drE _ _ _ _ _ _ _; refine E_skip rfl rfl rfl ?_) | (show opsA _ _ _ _ _ _ _; first | (refine O_split rfl rfl (fun h => ?_) (fun h => ?_) <;> try (exfalso; omega)) | refine O_ev WideF.wide rfl (Ev_pure rfl) rfl rfl ?_ | (show opsA _ _ _ _ (⟨_, .load _ _, _, _, _, _⟩ :: _) _ _; first | refine O_ev WideF.wide rfl (Ev_loadH1 rfl (hc 0 _ rfl)) rfl rfl ?_ | refine O_ev WideF.wide rfl (Ev_loadH1 rfl (hc 1 _ rfl)) rfl rfl ?_) | (show opsA _ _ _ _ (⟨_, .fieldAddr _ _ _, _, _, _, _⟩ :: _) _ _; refine O_ev WideF.wide rfl (Ev_fieldAddr rfl rfl rfl) rfl rfl ?_) | refine O_skip WideF.wide rfl rfl rfl ?_) | (show wpA _ _ _ (.cond _ _ _) _ _ _ _; first | (refine A_if rfl (fun h => ?_) (fun h => ?_) <;> try (exfalso; omega)) | refine A_iftrue rfl ?_))
  all_goals first
    | (exfalso; omega)
    | (exfalso; contradiction)
    | (exfalso; exact absurd trivial (by assumption))
    | (exfalso; exact absurd rfl (by assumption))
    | (refine End_e (Ret1 rfl rfl) ⟨congrArg (Value.int .i64) ?_, rfl⟩; unfold chkT; grind)
    | trace_state

set_option maxRecDepth 100000 in
set_option maxHeartbeats 16000000 in
theorem lnode_3 {H : Hp} {num : Int} {text : List UInt8} {a : Option Addr} {n cp : Nat} (hn : n < 4611686018427387904) (ht : text.length < 4611686018427387904) :
    Fn Tryz.prog 37 [.agg [.int .i64 3, .int .i64 num, sv text, .slice a n cp].toArray] H [] fun v _ I => v = .int .i64 (chkT 3 num text n) ∧ I = [] := by
  refine Fn_of _ _ Tryz.func37 rfl Tryz.ntmps37 rfl fun c => ?_
  repeat' (first | (refine O_ef rfl (Ef_boxa WideF.wide (cs := [.int .i64 3, .int .i64 num, sv text, .slice a n cp]) rfl rfl ?_); intro b1; refine O_freezeBox (by intro u hu; simp at hu; rcases hu with rfl | rfl | rfl | rfl <;> rfl) ?_; intro H1 hle1 hc) | (show wpA _ _ _ (.region 5 _ _) _ _ _ _; (refine A_drawM WideF.wide (.q 0 (.q 1 (.q 2 (.q 3 (.q 4 (.q 5 (.q 6 (.q 7 (.q 8 (.q 9 (.q 10 (.q 11 (.q 12 (.q 13 (.q 14 (.q 15 (.q 16 (.q 17 (.q 18 (.q 19 (.q 20 (.q 21 (.q 22 (.q 23 (.q 24 (.q 25 (.e 26 (.q 27 (.q 28 (.q 29 (.done []))))))))))))))))))))))))))))))) [] (by decide +kernel) ?_)) | (refine E_ef rfl (Ef_callp WideF.wide (arguments_fn) ⟨rfl, trivial⟩ rfl ?_); refine ⟨Grow.same rfl rfl, ?_⟩) | refine O_nil ?_ | refine A_seq ?_ | refine A_region ?_ | refine A_skip ?_ | refine A_ret ?_ | refine A_block ?_ | (show drJ _ _ _ _ _ _ _ (.q _ _) _; refine D_q rfl ?_) | (show drJ _ _ _ _ _ _ _ (.e _ _) _; refine D_e rfl ?_) | (show drJ _ _ _ _ _ _ _ (.done _) _; refine D_done ?_; simp only [List.cons_append, List.nil_append]) | (show drQ _ _ _ _ _ _; first | (refine D_split rfl rfl (fun h => ?_) (fun h => ?_) <;> try (exfalso; omega)) | refine D_ev rfl (Ev_pure rfl) rfl rfl ?_ | (show drQ _ _ _ ⟨_, .load _ _, _, _, _, _⟩ _ _; first | refine D_ev rfl (Ev_loadH1 rfl (hc 0 _ rfl)) rfl rfl ?_ | refine D_ev rfl (Ev_loadH1 rfl (hc 2 _ rfl)) rfl rfl ?_ | refine D_ev rfl (Ev_loadH1 rfl (hc 3 _ rfl)) rfl rfl ?_) | (show drQ _ _ _ ⟨_, .fieldAddr _ _ _, _, _, _, _⟩ _ _; refine D_ev rfl (Ev_fieldAddr rfl rfl rfl) rfl rfl ?_) | (show drQ _ _ _ ⟨_, .call _, _, _, _, _⟩ _ _; refine D_ev rfl (Ev_llen rfl) rfl rfl ?_) | (show drQ _ _ _ ⟨_, .binOp _ _ _ _ _, _, _, _, _⟩ _ _; refine D_ev rfl (Ev_sneq rfl rfl) rfl rfl ?_) | (show drQ _ _ _ ⟨_, .unOp _ _ _, _, _, _, _⟩ _ _; refine D_ev rfl (Ev_not rfl) rfl rfl ?_) | refine D_skip rfl rfl rfl ?_) | (show drE _ _ _ _ _ _ _; refine E_skip rfl rfl rfl ?_) | (show opsA _ _ _ _ _ _ _; first | (refine O_split rfl rfl (fun h => ?_) (fun h => ?_) <;> try (exfalso; omega)) | refine O_ev WideF.wide rfl (Ev_pure rfl) rfl rfl ?_ | (show opsA _ _ _ _ (⟨_, .load _ _, _, _, _, _⟩ :: _) _ _; first | refine O_ev WideF.wide rfl (Ev_loadH1 rfl (hc 0 _ rfl)) rfl rfl ?_ | refine O_ev WideF.wide rfl (Ev_loadH1 rfl (hc 1 _ rfl)) rfl rfl ?_) | (show opsA _ _ _ _ (⟨_, .fieldAddr _ _ _, _, _, _, _⟩ :: _) _ _; refine O_ev WideF.wide rfl (Ev_fieldAddr rfl rfl rfl) rfl rfl ?_) | refine O_skip WideF.wide rfl rfl rfl ?_) | (show wpA _ _ _ (.cond _ _ _) _ _ _ _; first | (refine A_if rfl (fun h => ?_) (fun h => ?_) <;> try (exfalso; omega)) | refine A_iftrue rfl ?_))
  all_goals first
    | (exfalso; omega)
    | (exfalso; contradiction)
    | (exfalso; exact absurd trivial (by assumption))
    | (exfalso; exact absurd rfl (by assumption))
    | (refine End_e (Ret1 rfl rfl) ⟨congrArg (Value.int .i64) ?_, rfl⟩; unfold chkT; grind)
    | trace_state

set_option maxRecDepth 100000 in
set_option maxHeartbeats 16000000 in
theorem lnode_2 {H : Hp} {num : Int} {text : List UInt8} {a : Option Addr} {n cp : Nat} (hn : n < 4611686018427387904) (ht : text.length < 4611686018427387904) :
    Fn Tryz.prog 37 [.agg [.int .i64 2, .int .i64 num, sv text, .slice a n cp].toArray] H [] fun v _ I => v = .int .i64 (chkT 2 num text n) ∧ I = [] := by
  have kv := fun Hx => Valid_fn Hx text ht
  have kc := fun Hx => lcontrol_fn (H := Hx) (l := text) ht
  by_cases hv : valid text <;> by_cases hct : ctl text <;> simp only [hv, hct, decide_true, decide_false] at kv kc
  all_goals
    refine Fn_of _ _ Tryz.func37 rfl Tryz.ntmps37 rfl fun c => ?_
    repeat' (first | (refine O_ef rfl (Ef_boxa WideF.wide (cs := [.int .i64 2, .int .i64 num, sv text, .slice a n cp]) rfl rfl ?_); intro b1; refine O_freezeBox (by intro u hu; simp at hu; rcases hu with rfl | rfl | rfl | rfl <;> rfl) ?_; intro H1 hle1 hc) | (show wpA _ _ _ (.region 5 _ _) _ _ _ _; (refine A_drawM WideF.wide (.q 0 (.q 1 (.q 2 (.q 3 (.q 4 (.q 5 (.q 6 (.q 7 (.q 8 (.q 9 (.q 10 (.q 11 (.q 12 (.q 13 (.q 14 (.q 15 (.q 16 (.q 17 (.q 18 (.q 19 (.q 20 (.q 21 (.q 22 (.q 23 (.q 24 (.q 25 (.e 26 (.q 27 (.q 28 (.q 29 (.done []))))))))))))))))))))))))))))))) [] (by decide +kernel) ?_)) | (refine E_ef rfl (Ef_callp WideF.wide (arguments_fn) ⟨rfl, trivial⟩ rfl ?_); refine ⟨Grow.same rfl rfl, ?_⟩) | (refine O_ef rfl (Ef_callp WideF.wide (kv _) ⟨rfl, trivial⟩ rfl ?_)) | (refine O_ef rfl (Ef_callp WideF.wide (kc _) ⟨rfl, trivial⟩ rfl ?_)) | refine O_nil ?_ | refine A_seq ?_ | refine A_region ?_ | refine A_skip ?_ | refine A_ret ?_ | refine A_block ?_ | (show drJ _ _ _ _ _ _ _ (.q _ _) _; refine D_q rfl ?_) | (show drJ _ _ _ _ _ _ _ (.e _ _) _; refine D_e rfl ?_) | (show drJ _ _ _ _ _ _ _ (.done _) _; refine D_done ?_; simp only [List.cons_append, List.nil_append]) | (show drQ _ _ _ _ _ _; first | (refine D_split rfl rfl (fun h => ?_) (fun h => ?_) <;> try (exfalso; omega)) | refine D_ev rfl (Ev_pure rfl) rfl rfl ?_ | (show drQ _ _ _ ⟨_, .load _ _, _, _, _, _⟩ _ _; first | refine D_ev rfl (Ev_loadH1 rfl (hc 0 _ rfl)) rfl rfl ?_ | refine D_ev rfl (Ev_loadH1 rfl (hc 1 _ rfl)) rfl rfl ?_ | refine D_ev rfl (Ev_loadH1 rfl (hc 3 _ rfl)) rfl rfl ?_) | (show drQ _ _ _ ⟨_, .fieldAddr _ _ _, _, _, _, _⟩ _ _; refine D_ev rfl (Ev_fieldAddr rfl rfl rfl) rfl rfl ?_) | (show drQ _ _ _ ⟨_, .call _, _, _, _, _⟩ _ _; refine D_ev rfl (Ev_llen rfl) rfl rfl ?_) | (show drQ _ _ _ ⟨_, .unOp _ _ _, _, _, _, _⟩ _ _; first | refine D_ev rfl (Ev_not rfl) rfl rfl ?_ | refine D_ev rfl (Ev_notb rfl) rfl rfl ?_) | refine D_skip rfl rfl rfl ?_) | (show drE _ _ _ _ _ _ _; refine E_skip rfl rfl rfl ?_) | (show opsA _ _ _ _ _ _ _; first | (refine O_split rfl rfl (fun h => ?_) (fun h => ?_) <;> try (exfalso; omega)) | refine O_ev WideF.wide rfl (Ev_pure rfl) rfl rfl ?_ | (show opsA _ _ _ _ (⟨_, .load _ _, _, _, _, _⟩ :: _) _ _; first | refine O_ev WideF.wide rfl (Ev_loadH1 rfl (hc 0 _ rfl)) rfl rfl ?_ | refine O_ev WideF.wide rfl (Ev_loadH1 rfl (hc 2 _ rfl)) rfl rfl ?_) | (show opsA _ _ _ _ (⟨_, .fieldAddr _ _ _, _, _, _, _⟩ :: _) _ _; refine O_ev WideF.wide rfl (Ev_fieldAddr rfl rfl rfl) rfl rfl ?_) | (show opsA _ _ _ _ (⟨_, .call _, _, _, _, _⟩ :: _) _ _; refine O_ev WideF.wide rfl (Ev_slen rfl) rfl rfl ?_) | (show opsA _ _ _ _ (⟨_, .unOp _ _ _, _, _, _, _⟩ :: _) _ _; refine O_ev WideF.wide rfl (Ev_notb rfl) rfl rfl ?_) | refine O_skip WideF.wide rfl rfl rfl ?_) | (show wpA _ _ _ (.cond _ _ _) _ _ _ _; first | (refine A_if rfl (fun h => ?_) (fun h => ?_) <;> try (exfalso; omega)) | refine A_iftrue rfl ?_ | refine A_iffalse rfl ?_))
    all_goals first
      | (exfalso; omega)
      | (exfalso; contradiction)
      | (exfalso; exact absurd trivial (by assumption))
      | (exfalso; exact absurd rfl (by assumption))
      | (refine End_e (Ret1 rfl rfl) ⟨congrArg (Value.int .i64) ?_, rfl⟩; unfold chkT; grind)
      | trace_state

set_option maxRecDepth 100000 in
set_option maxHeartbeats 16000000 in
theorem lnode_4 {H : Hp} {num : Int} {text : List UInt8} {a : Option Addr} {n cp : Nat} (hn : n < 4611686018427387904) (ht : text.length < 4611686018427387904) :
    Fn Tryz.prog 37 [.agg [.int .i64 4, .int .i64 num, sv text, .slice a n cp].toArray] H [] fun v _ I => v = .int .i64 (chkT 4 num text n) ∧ I = [] := by
  have ki := fun Hx => lidentifier_fn (H := Hx) (l := text) ht
  have kr := fun Hx => lreserved_fn (H := Hx) (s := text)
  by_cases hi : idt text ∧ text.length ≤ 40 <;> cases hr : resv text <;> simp only [hi, hr, decide_true, decide_false, and_self] at ki kr
  all_goals
    refine Fn_of _ _ Tryz.func37 rfl Tryz.ntmps37 rfl fun c => ?_
    repeat' (first | (refine O_ef rfl (Ef_boxa WideF.wide (cs := [.int .i64 4, .int .i64 num, sv text, .slice a n cp]) rfl rfl ?_); intro b1; refine O_freezeBox (by intro u hu; simp at hu; rcases hu with rfl | rfl | rfl | rfl <;> rfl) ?_; intro H1 hle1 hc) | (show wpA _ _ _ (.region 5 _ _) _ _ _ _; (refine A_drawM WideF.wide (.q 0 (.q 1 (.q 2 (.q 3 (.q 4 (.q 5 (.q 6 (.q 7 (.q 8 (.q 9 (.q 10 (.q 11 (.q 12 (.q 13 (.q 14 (.q 15 (.q 16 (.q 17 (.q 18 (.q 19 (.q 20 (.q 21 (.q 22 (.q 23 (.q 24 (.q 25 (.e 26 (.q 27 (.q 28 (.q 29 (.done []))))))))))))))))))))))))))))))) [] (by decide +kernel) ?_)) | (refine E_ef rfl (Ef_callp WideF.wide (arguments_fn) ⟨rfl, trivial⟩ rfl ?_); refine ⟨Grow.same rfl rfl, ?_⟩) | (refine O_ef rfl (Ef_callp WideF.wide (ki _) ⟨rfl, trivial⟩ rfl ?_)) | (refine O_ef rfl (Ef_callp WideF.wide (kr _) ⟨rfl, trivial⟩ rfl ?_)) | refine O_nil ?_ | refine A_seq ?_ | refine A_region ?_ | refine A_skip ?_ | refine A_ret ?_ | refine A_block ?_ | (show drJ _ _ _ _ _ _ _ (.q _ _) _; refine D_q rfl ?_) | (show drJ _ _ _ _ _ _ _ (.e _ _) _; refine D_e rfl ?_) | (show drJ _ _ _ _ _ _ _ (.done _) _; refine D_done ?_; simp only [List.cons_append, List.nil_append]) | (show drQ _ _ _ _ _ _; first | (refine D_split rfl rfl (fun h => ?_) (fun h => ?_) <;> try (exfalso; omega)) | refine D_ev rfl (Ev_pure rfl) rfl rfl ?_ | (show drQ _ _ _ ⟨_, .load _ _, _, _, _, _⟩ _ _; first | refine D_ev rfl (Ev_loadH1 rfl (hc 0 _ rfl)) rfl rfl ?_ | refine D_ev rfl (Ev_loadH1 rfl (hc 1 _ rfl)) rfl rfl ?_ | refine D_ev rfl (Ev_loadH1 rfl (hc 3 _ rfl)) rfl rfl ?_) | (show drQ _ _ _ ⟨_, .fieldAddr _ _ _, _, _, _, _⟩ _ _; refine D_ev rfl (Ev_fieldAddr rfl rfl rfl) rfl rfl ?_) | (show drQ _ _ _ ⟨_, .call _, _, _, _, _⟩ _ _; refine D_ev rfl (Ev_llen rfl) rfl rfl ?_) | (show drQ _ _ _ ⟨_, .unOp _ _ _, _, _, _, _⟩ _ _; first | refine D_ev rfl (Ev_not rfl) rfl rfl ?_ | refine D_ev rfl (Ev_notb rfl) rfl rfl ?_) | refine D_skip rfl rfl rfl ?_) | (show drE _ _ _ _ _ _ _; refine E_skip rfl rfl rfl ?_) | (show opsA _ _ _ _ _ _ _; first | (refine O_split rfl rfl (fun h => ?_) (fun h => ?_) <;> try (exfalso; omega)) | refine O_ev WideF.wide rfl (Ev_pure rfl) rfl rfl ?_ | (show opsA _ _ _ _ (⟨_, .load _ _, _, _, _, _⟩ :: _) _ _; first | refine O_ev WideF.wide rfl (Ev_loadH1 rfl (hc 0 _ rfl)) rfl rfl ?_ | refine O_ev WideF.wide rfl (Ev_loadH1 rfl (hc 2 _ rfl)) rfl rfl ?_) | (show opsA _ _ _ _ (⟨_, .fieldAddr _ _ _, _, _, _, _⟩ :: _) _ _; refine O_ev WideF.wide rfl (Ev_fieldAddr rfl rfl rfl) rfl rfl ?_) | (show opsA _ _ _ _ (⟨_, .unOp _ _ _, _, _, _, _⟩ :: _) _ _; refine O_ev WideF.wide rfl (Ev_notb rfl) rfl rfl ?_) | refine O_skip WideF.wide rfl rfl rfl ?_) | (show wpA _ _ _ (.cond _ _ _) _ _ _ _; first | (refine A_if rfl (fun h => ?_) (fun h => ?_) <;> try (exfalso; omega)) | refine A_iftrue rfl ?_ | refine A_iffalse rfl ?_))
    all_goals first
      | (exfalso; omega)
      | (exfalso; contradiction)
      | (exfalso; exact absurd trivial (by assumption))
      | (exfalso; exact absurd rfl (by assumption))
      | (refine End_e (Ret1 rfl rfl) ⟨congrArg (Value.int .i64) ?_, rfl⟩; unfold chkT; grind)
      | trace_state

set_option maxRecDepth 100000 in
set_option maxHeartbeats 16000000 in
theorem lnode_5 {H : Hp} {num : Int} {text : List UInt8} {a : Option Addr} {n cp : Nat} (hn : n < 4611686018427387904) (ht : text.length < 4611686018427387904) :
    Fn Tryz.prog 37 [.agg [.int .i64 5, .int .i64 num, sv text, .slice a n cp].toArray] H [] fun v _ I => v = .int .i64 (lnT 5 num text n) ∧ I = [] := by
  have kf := fun Hx => function_fn (H := Hx) (s := text)
  have e : lnT 5 num text n = if num ≠ 0 then 15 else if (fnc text).2.2 = false then 30 else if (n : Int) < (fnc text).1 ∨ (fnc text).2.1 < (n : Int) then 15 else 0 := by unfold lnT; rw [if_pos rfl]
  rw [e]
  obtain ⟨⟨lo, hi, ok⟩, hp⟩ : ∃ p, p = fnc text := ⟨_, rfl⟩
  rw [← hp] at kf ⊢
  dsimp only at kf ⊢
  cases ok
  all_goals
    refine Fn_of _ _ Tryz.func37 rfl Tryz.ntmps37 rfl fun c => ?_
    repeat' (first | (refine O_ef rfl (Ef_boxa WideF.wide (cs := [.int .i64 5, .int .i64 num, sv text, .slice a n cp]) rfl rfl ?_); intro b1; refine O_freezeBox (by intro u hu; simp at hu; rcases hu with rfl | rfl | rfl | rfl <;> rfl) ?_; intro H1 hle1 hc) | (show wpA _ _ _ (.region 5 _ _) _ _ _ _; (refine A_drawM WideF.wide (.q 0 (.q 1 (.q 2 (.q 3 (.q 4 (.q 5 (.q 6 (.q 7 (.q 8 (.q 9 (.q 10 (.q 11 (.q 12 (.q 13 (.q 14 (.q 15 (.q 16 (.q 17 (.q 18 (.q 19 (.q 20 (.q 21 (.q 22 (.q 23 (.q 24 (.q 25 (.e 26 (.q 27 (.q 28 (.q 29 (.done []))))))))))))))))))))))))))))))) [] (by decide +kernel) ?_)) | (refine O_ef rfl (Ef_callp WideF.wide (kf _) ⟨rfl, trivial⟩ rfl ?_)) | refine O_nil ?_ | refine A_seq ?_ | refine A_region ?_ | refine A_skip ?_ | refine A_ret ?_ | refine A_block ?_ | (show drJ _ _ _ _ _ _ _ (.q _ _) _; refine D_q rfl ?_) | (show drJ _ _ _ _ _ _ _ (.e _ _) _; refine D_e rfl ?_) | (show drJ _ _ _ _ _ _ _ (.done _) _; refine D_done ?_; simp only [List.cons_append, List.nil_append]) | (show drQ _ _ _ _ _ _; first | (refine D_split rfl rfl (fun h => ?_) (fun h => ?_) <;> try (exfalso; omega)) | refine D_ev rfl (Ev_pure rfl) rfl rfl ?_ | (show drQ _ _ _ ⟨_, .load _ _, _, _, _, _⟩ _ _; first | refine D_ev rfl (Ev_loadH1 rfl (hc 0 _ rfl)) rfl rfl ?_ | refine D_ev rfl (Ev_loadH1 rfl (hc 1 _ rfl)) rfl rfl ?_) | (show drQ _ _ _ ⟨_, .fieldAddr _ _ _, _, _, _, _⟩ _ _; refine D_ev rfl (Ev_fieldAddr rfl rfl rfl) rfl rfl ?_) | (show drQ _ _ _ ⟨_, .unOp _ _ _, _, _, _, _⟩ _ _; refine D_ev rfl (Ev_not rfl) rfl rfl ?_) | refine D_skip rfl rfl rfl ?_) | (show drE _ _ _ _ _ _ _; refine E_skip rfl rfl rfl ?_) | (show opsA _ _ _ _ _ _ _; first | (refine O_split rfl rfl (fun h => ?_) (fun h => ?_) <;> try (exfalso; omega)) | refine O_ev WideF.wide rfl (Ev_pure rfl) rfl rfl ?_ | (show opsA _ _ _ _ (⟨_, .load _ _, _, _, _, _⟩ :: _) _ _; first | refine O_ev WideF.wide rfl (Ev_loadH1 rfl (hc 0 _ rfl)) rfl rfl ?_ | refine O_ev WideF.wide rfl (Ev_loadH1 rfl (hc 2 _ rfl)) rfl rfl ?_ | refine O_ev WideF.wide rfl (Ev_loadH1 rfl (hc 3 _ rfl)) rfl rfl ?_) | (show opsA _ _ _ _ (⟨_, .fieldAddr _ _ _, _, _, _, _⟩ :: _) _ _; refine O_ev WideF.wide rfl (Ev_fieldAddr rfl rfl rfl) rfl rfl ?_) | (show opsA _ _ _ _ (⟨_, .call _, _, _, _, _⟩ :: _) _ _; refine O_ev WideF.wide rfl (Ev_llen rfl) rfl rfl ?_) | (show opsA _ _ _ _ (⟨_, .unOp _ _ _, _, _, _, _⟩ :: _) _ _; refine O_ev WideF.wide rfl (Ev_notb rfl) rfl rfl ?_) | refine O_skip WideF.wide rfl rfl rfl ?_) | (show wpA _ _ _ (.cond _ _ _) _ _ _ _; first | (refine A_if rfl (fun h => ?_) (fun h => ?_) <;> try (exfalso; omega)) | refine A_iftrue rfl ?_ | refine A_iffalse rfl ?_))
    all_goals first
      | (exfalso; omega)
      | (exfalso; contradiction)
      | (exfalso; exact absurd trivial (by assumption))
      | (exfalso; exact absurd rfl (by assumption))
      | (refine End_e (Ret1 rfl rfl) ⟨congrArg (Value.int .i64) ?_, rfl⟩; grind)
      | trace_state

theorem lnT_of {op num : Int} {text : List UInt8} {n : Int} (h : ¬ op = 5) : lnT op num text n = chkT op num text n := by unfold lnT; rw [if_neg h]
theorem lnode_fn {H : Hp} {cs : List Value} {x : Nd} (hx : NodeH H cs x) (hm : x.mass < 34359738368) : Fn Tryz.prog 37 [.agg cs.toArray] H [] fun v _ I => v = .int .i64 (lnN x) ∧ I = [] := by
  obtain ⟨a, n, cp, rfl, hs⟩ := hx.cells
  have e1 := hs.len
  have e2 := massN_len x.args
  have e3 := x.mass_eq
  unfold lnN
  rw [e1]
  have hn : n < 4611686018427387904 := by omega
  have ht : x.text.length < 4611686018427387904 := by omega
  obtain ⟨op, num, text, args⟩ := x
  show Fn Tryz.prog 37 [.agg [.int .i64 op, .int .i64 num, sv text, .slice a n cp].toArray] H [] fun v _ I => v = .int .i64 (lnT op num text n) ∧ I = []
  by_cases h5 : op = 5
  · subst h5; exact lnode_5 hn ht
  rw [lnT_of h5]
  by_cases h1 : op = 1
  · subst h1; exact lnode_1 hn ht
  by_cases h2 : op = 2
  · subst h2; exact lnode_2 hn ht
  by_cases h3 : op = 3
  · subst h3; exact lnode_3 hn ht
  by_cases h4 : op = 4
  · subst h4; exact lnode_4 hn ht
  by_cases h6 : op < 1 ∨ 21 < op
  · exact lnode_bad hn ht h6
  · exact lnode_op hn ht (by omega)
/-! what the two checks have in common -/
theorem fnc_arg (s : List UInt8) : (fnArg s = none ∧ (fnc s).2.2 = false) ∨ ∃ lo hi hi' : Int, fnArg s = some (lo, hi) ∧ fnc s = (lo, hi', true) ∧ hi ≤ hi' ∧ (hi = hi' ∨ hi = 256) := by
  unfold fnArg fnc
  by_cases h1 : s = [109, 105, 110] ∨ s = [109, 97, 120]
  · rw [if_pos h1, if_pos h1]; exact .inr ⟨1, 256, 1000, rfl, rfl, by decide, .inr rfl⟩
  rw [if_neg h1, if_neg h1]
  by_cases h2 : s = [115, 117, 109]
  · rw [if_pos h2, if_pos h2]; exact .inr ⟨0, 256, 1000, rfl, rfl, by decide, .inr rfl⟩
  rw [if_neg h2, if_neg h2]
  by_cases h3 : s = [97, 98, 115] ∨ s = [108, 101, 110] ∨ s = [117, 112, 112, 101, 114] ∨ s = [108, 111, 119, 101, 114] ∨ s = [116, 101, 120, 116] ∨ s = [110, 117, 109, 98, 101, 114]
  · rw [if_pos h3, if_pos h3]; exact .inr ⟨1, 1, 1, rfl, rfl, by decide, .inl rfl⟩
  rw [if_neg h3, if_neg h3]
  by_cases h4 : s = [105, 102]
  · rw [if_pos h4, if_pos h4]; exact .inr ⟨3, 3, 3, rfl, rfl, by decide, .inl rfl⟩
  · rw [if_neg h4, if_neg h4]; exact .inl ⟨rfl, rfl⟩
theorem chk5 (num : Int) (text : List UInt8) (n : Int) : chkT 5 num text n = if num ≠ 0 then 15 else match fnArg text with | none => 30 | some (a, b) => if n < a ∨ b < n then 15 else 0 := by
  unfold chkT
  rw [if_neg (by decide)]
  by_cases h : num = 0
  · subst h
    rw [if_neg (by simp), if_neg (by decide), if_neg (by decide), if_neg (by decide), if_neg (by decide), if_pos rfl, if_neg (by simp)]
    cases fnArg text <;> rfl
  · rw [if_pos (.inl ⟨by decide, h⟩), if_pos h]
theorem ln_of_chk {x : Nd} (h : chkN x = 0) : lnN x = 0 := by
  unfold chkN at h
  unfold lnN
  by_cases h5 : x.op = 5
  · rw [h5] at h ⊢
    rw [chk5] at h
    unfold lnT
    rw [if_pos rfl]
    by_cases hn : x.num = 0
    · rw [if_neg (fun h9 => h9 hn)] at h ⊢
      rcases fnc_arg x.text with ⟨e1, e2⟩ | ⟨lo, hi, hi', e1, e2, e3, e4⟩
      · rw [e1] at h; exact absurd (show (30 : Int) = 0 from h) (by decide)
      · rw [e1] at h
        rw [e2]
        dsimp only at h ⊢
        rw [if_neg (by decide)]
        split at h
        · exact absurd h (by decide)
        · rename_i h9; rw [if_neg (by omega)]
    · rw [if_pos hn] at h; exact absurd h (by decide)
  · rw [lnT_of h5]; exact h
theorem chk_of_ln {x : Nd} (h : lnN x = 0) (hl : (x.args.length : Int) ≤ 256) : chkN x = 0 := by
  unfold lnN at h
  unfold chkN
  by_cases h5 : x.op = 5
  · rw [h5] at h ⊢
    rw [chk5]
    unfold lnT at h
    rw [if_pos rfl] at h
    by_cases hn : x.num = 0
    · rw [if_neg (fun h9 => h9 hn)] at h ⊢
      rcases fnc_arg x.text with ⟨e1, e2⟩ | ⟨lo, hi, hi', e1, e2, e3, e4⟩
      · rw [if_pos e2] at h; exact absurd h (by decide)
      · rw [e2] at h
        rw [e1]
        dsimp only at h ⊢
        rw [if_neg (by decide)] at h
        split at h
        · exact absurd h (by decide)
        · rename_i h9; rw [if_neg (by omega)]
    · rw [if_pos hn] at h; exact absurd h (by decide)
  · rw [lnT_of h5] at h; exact h
/-- the law's check, on a stack of nodes with their levels -/
noncomputable def lck : Nat → List (Nd × Int) → Int → Int
  | 0, _, _ => 0
  | _ + 1, [], _ => 0
  | k + 1, p :: r, v => if 256 ≤ v then 9 else if 32 < p.2 then 17 else if lnN p.1 ≠ 0 then lnN p.1 else lck k (p.1.args.map (fun y => (y, p.2 + 1)) ++ r) (v + 1)
noncomputable def LCK (st : List (Nd × Int)) (v : Int) : Int := lck (257 - v).toNat st v
theorem LCK_nil {v : Int} : LCK [] v = 0 := by
  unfold LCK
  cases (257 - v).toNat <;> rfl
theorem LCK_cons {p : Nd × Int} {r : List (Nd × Int)} {v : Int} (h : v ≤ 256) : LCK (p :: r) v = if 256 ≤ v then 9 else if 32 < p.2 then 17 else if lnN p.1 ≠ 0 then lnN p.1 else LCK (p.1.args.map (fun y => (y, p.2 + 1)) ++ r) (v + 1) := by
  have e : (257 - v).toNat = (257 - (v + 1)).toNat + 1 := by omega
  unfold LCK
  rw [e]
  rfl
theorem visL_hd {x : Nd} {l : List Nd} {v lv : Int} (h : (visL (x :: l) v lv).1 = 0) : (vis x v lv).1 = 0 ∧ (visL l (vis x v lv).2 lv).1 = 0 := by
  rw [visL_cons] at h
  by_cases hx : (vis x v lv).1 = 0
  · rw [if_pos hx] at h; exact ⟨hx, h⟩
  · rw [if_neg hx] at h; exact absurd h hx
mutual
theorem vis_cnt : ∀ (x : Nd) (v lv : Int), 0 ≤ v → v ≤ 256 → (vis x v lv).1 = 0 → v + 1 ≤ (vis x v lv).2
  | .mk op num text args, v, lv, h0, h1, h => by
    rw [vis_eq] at h ⊢
    by_cases hA : 256 ≤ v
    · rw [if_pos hA] at h; exact absurd (show (9 : Int) = 0 from h) (by decide)
    rw [if_neg hA] at h ⊢
    by_cases hB : 32 < lv
    · rw [if_pos hB] at h; exact absurd (show (17 : Int) = 0 from h) (by decide)
    rw [if_neg hB] at h ⊢
    by_cases hC : chkN (.mk op num text args) = 0
    · rw [if_neg (fun h9 => h9 hC)]
      exact (visL_le args (v + 1) (lv + 1) (by omega) (by omega)).1
    · rw [if_pos hC] at h; exact absurd h hC
end
theorem visL_cnt : ∀ (l : List Nd) (v lv : Int), 0 ≤ v → v ≤ 256 → (visL l v lv).1 = 0 → v + l.length ≤ (visL l v lv).2
  | [], v, lv, _, _, _ => by rw [visL_nil]; simp
  | x :: l, v, lv, h0, h1, h => by
    have hh := visL_hd h
    have hx := vis_cnt x v lv h0 h1 hh.1
    have hb := vis_le x v lv h0 h1
    have hl := visL_cnt l (vis x v lv).2 lv (by omega) hb.2 hh.2
    rw [visL_cons, if_pos hh.1, List.length_cons]
    omega
mutual
theorem lck_vis : ∀ (x : Nd) (lv : Int) (r : List (Nd × Int)) (v : Int), 0 ≤ v → v ≤ 256 → (LCK ((x, lv) :: r) v = 0 ↔ (vis x v lv).1 = 0 ∧ LCK r (vis x v lv).2 = 0)
  | .mk op num text args, lv, r, v, h0, h1 => by
    have ih := lck_visL args (lv + 1) r (v + 1)
    rw [LCK_cons h1, vis_eq]
    by_cases hA : 256 ≤ v
    · rw [if_pos hA, if_pos hA]
      exact ⟨fun h => absurd h (by decide), fun h => absurd (show (9 : Int) = 0 from h.1) (by decide)⟩
    rw [if_neg hA, if_neg hA]
    by_cases hB : 32 < lv
    · rw [if_pos hB, if_pos hB]
      exact ⟨fun h => absurd h (by decide), fun h => absurd (show (17 : Int) = 0 from h.1) (by decide)⟩
    rw [if_neg hB, if_neg hB]
    have ih := ih (by omega) (by omega)
    by_cases hL : lnN (.mk op num text args) = 0
    · rw [if_neg (fun h9 => h9 hL)]
      by_cases hC : chkN (.mk op num text args) = 0
      · rw [if_neg (fun h9 => h9 hC)]
        exact ih
      · rw [if_pos hC]
        refine ⟨fun h => ?_, fun h => absurd h.1 hC⟩
        have h9 := (ih.1 h).1
        have hc := visL_cnt args (v + 1) (lv + 1) (by omega) (by omega) h9
        have hb := (visL_le args (v + 1) (lv + 1) (by omega) (by omega)).2
        exact absurd (chk_of_ln hL (by show (args.length : Int) ≤ 256; omega)) hC
    · rw [if_pos hL]
      by_cases hC : chkN (.mk op num text args) = 0
      · exact absurd (ln_of_chk hC) hL
      · rw [if_pos hC]
        exact ⟨fun h => absurd h hL, fun h => absurd h.1 hC⟩
theorem lck_visL : ∀ (l : List Nd) (lv : Int) (r : List (Nd × Int)) (v : Int), 0 ≤ v → v ≤ 256 → (LCK (l.map (fun y => (y, lv)) ++ r) v = 0 ↔ (visL l v lv).1 = 0 ∧ LCK r (visL l v lv).2 = 0)
  | [], lv, r, v, _, _ => by
    rw [visL_nil]
    exact ⟨fun h => ⟨rfl, h⟩, fun h => h.2⟩
  | x :: l, lv, r, v, h0, h1 => by
    have hx := lck_vis x lv (l.map (fun y => (y, lv)) ++ r) v h0 h1
    have hb := vis_le x v lv h0 h1
    have hl := lck_visL l lv r (vis x v lv).2 (by omega) hb.2
    rw [visL_cons]
    show LCK ((x, lv) :: (l.map (fun y => (y, lv)) ++ r)) v = 0 ↔ _
    rw [hx]
    by_cases h : (vis x v lv).1 = 0
    · rw [if_pos h]
      exact ⟨fun h9 => hl.1 h9.2, fun h9 => ⟨h, hl.2 h9⟩⟩
    · rw [if_neg h]
      exact ⟨fun h9 => absurd h9.1 h, fun h9 => absurd h9.1 h⟩
end
theorem lck_chkE (x : Nd) : LCK [(x, 1)] 0 = 0 ↔ chkE x = 0 := by
  rw [lck_vis x 1 [] 0 (by decide) (by decide)]
  unfold chkE
  exact ⟨fun h => h.1, fun h => ⟨h, LCK_nil⟩⟩
end
def ItemH (H : Hp) (cs : List Value) (p : Nd × Int) : Prop := ∃ cs', cs = cs' ++ [.int .i64 p.2] ∧ NodeH H cs' p.1
theorem ItemH.mono {H H' : Hp} (hl : HLe H H') {cs : List Value} {p : Nd × Int} (h : ItemH H cs p) : ItemH H' cs p := by
  obtain ⟨cs', h1, h2⟩ := h
  exact ⟨cs', h1, h2.mono hl⟩
theorem All2.snoc_inv {α : Type} {R : List Value → α → Prop} {l : List α} {x : α} : ∀ {css : List (List Value)}, All2 R css (l ++ [x]) → ∃ c0 c, css = c0 ++ [c] ∧ All2 R c0 l ∧ R c x := by
  induction l with
  | nil =>
    intro css h
    cases h with
    | cons h t => cases t; exact ⟨[], _, rfl, .nil, h⟩
  | cons y l ih =>
    intro css h
    cases h with
    | cons h t =>
      obtain ⟨c0, c, rfl, h1, h2⟩ := ih t
      exact ⟨_ :: c0, c, rfl, .cons h h1, h2⟩
def stM : List (Nd × Int) → Nat
  | [] => 0
  | p :: r => p.1.mass + stM r
theorem stM_append : ∀ a b : List (Nd × Int), stM (a ++ b) = stM a + stM b
  | [], b => by simp [stM]
  | p :: a, b => by rw [List.cons_append, stM, stM, stM_append a b]; omega
theorem stM_map (lv : Int) : ∀ l : List Nd, stM (l.map fun y => (y, lv)) = massN l
  | [] => rfl
  | x :: l => by rw [List.map_cons, stM, massN, stM_map lv l]
theorem stM_len : ∀ l : List (Nd × Int), l.length ≤ stM l
  | [] => Nat.le_refl _
  | p :: l => by have := stM_len l; have := p.1.mass_eq; rw [List.length_cons, stM]; omega
theorem All2.lenI {H : Hp} {css : List (List Value)} {l : List (Nd × Int)} (h : All2 (ItemH H) css l) : css.length = l.length := by
  induction h with
  | nil => rfl
  | cons _ _ ih => simp [ih]
attribute [local irreducible] wpA opsA drJ drQ drE Ef Ev Shift Fn
set_option maxRecDepth 100000 in
set_option maxHeartbeats 16000000 in
theorem lcheck_fn {H : Hp} {cs : List Value} {x : Nd} (hx : NodeH H cs x) (hm : x.mass < 34359738368) : Fn Tryz.prog 15 [.agg cs.toArray] H [] fun v _ I => v = .int .i64 (LCK [(x, 1)] 0) ∧ I = [] := by
  have hone := hx.one
  obtain ⟨a, n, cp, rfl, hs⟩ := hx.cells
  refine Fn_of _ _ Tryz.func15 rfl Tryz.ntmps15 rfl fun c => ?_
  repeat' (first | (refine O_ef rfl (Ef_boxa WideF.wide (cs := [.int .i64 x.op, .int .i64 x.num, sv x.text, .slice a n cp]) rfl rfl ?_); intro b2; refine O_freezeBox hone ?_; intro H1 hle1 hc) | (refine O_ev WideF.wide rfl (Ev_loadH rfl hc rfl) rfl rfl ?_) | refine O_nil ?_ | refine A_seq ?_ | refine A_region ?_ | refine A_block ?_ | (show opsA _ _ _ _ _ _ _; first | refine O_ev WideF.wide rfl (Ev_pure rfl) rfl rfl ?_ | (show opsA _ _ _ _ (⟨_, .buildSlice _ _ _, _, _, _, _⟩ :: _) _ _; (refine O_ef rfl (Ef_build1a WideF.wide rfl rfl rfl rfl rfl ?_); intro b)) | (show opsA _ _ _ _ (⟨_, .build _ _, _, _, _, _⟩ :: _) _ _; refine O_ev WideF.wide rfl (Ev_build (vs := [(_, _), (_, _)]) ⟨rfl, rfl, rfl, rfl, trivial⟩ rfl) rfl rfl ?_)))
  refine A_loopu (fun q s => ∃ (v : Int) (st : List (Nd × Int)) (Hq : Hp) (css : List (List Value)) (sa : Option Addr) (sn sc : Nat), q = (257 - v).toNat ∧ 0 ≤ v ∧ v ≤ 256 ∧ HLe H1 Hq ∧ css.length = sn ∧ All2 (ItemH Hq) css st.reverse ∧ stM st ≤ x.mass ∧ (∀ p ∈ st, 0 ≤ p.2 ∧ p.2 ≤ 33) ∧ LCK [(x, 1)] 0 = LCK st v ∧
    s = ⟨62, [(3, .slice sa sn sc), (4, .int .i64 v)], Hq, [.row (.slice sa sn sc) 5 css], [], []⟩) ?_ ?_
  · exact Shift.to ⟨_, 0, [(x, 1)], H1, _, _, _, _, rfl, by decide, by decide, HLe.refl _, rfl, .cons ⟨[.int .i64 x.op, .int .i64 x.num, sv x.text, .slice a n cp], rfl, hx.mono hle1⟩ .nil, by simp [stM], by simp, rfl, rfl⟩ ⟨rfl, rfl, rfl, ⟨rfl, rfl, trivial⟩, Own.subi [0] (by decide) rfl rfl⟩
  rintro q s ⟨v, st, Hq, css, sa, sn, sc, rfl, hv0, hv1, hleq, hsn, hal, hst, hlv, hLe, rfl⟩
  rw [hLe]
  match st, hal, hst, hlv with
  | [], hal, hst, hlv =>
    have : css = [] := by cases hal; rfl
    subst this
    obtain rfl : sn = 0 := by rw [← hsn]; rfl
    rw [LCK_nil]
    repeat' (first | refine O_nil ?_ | refine A_seq ?_ | refine A_region ?_ | refine A_ret ?_ | (show opsA _ _ _ _ _ _ _; first | refine O_ev WideF.wide rfl (Ev_pure rfl) rfl rfl ?_ | (show opsA _ _ _ _ (⟨_, .call _, _, _, _, _⟩ :: _) _ _; refine O_ev WideF.wide rfl (Ev_llen rfl) rfl rfl ?_)) | (show wpA _ _ _ (.exit _) _ _ _ _; refine A_exit rfl ?_) | (show wpA _ _ _ (.cond _ _ _) _ _ _ _; (refine A_if rfl (fun h => ?_) (fun h => ?_) <;> try (exfalso; omega))))
    all_goals first
      | (exfalso; omega)
      | (exfalso; contradiction)
      | (exfalso; exact absurd trivial (by assumption))
      | (exfalso; exact absurd rfl (by assumption))
      | exact End_e (Ret1 rfl rfl) ⟨rfl, rfl⟩
      | trace_state
  | (y, lv) :: r, hal, hst, hlv =>
    rw [List.reverse_cons] at hal
    obtain ⟨c0, cl, rfl, ha0, cs', hcl, hy⟩ := hal.snoc_inv
    replace hy : NodeH Hq cs' y := hy
    obtain ⟨ya, yn, yc, rfl, hys⟩ := hy.cells
    replace hcl : cl = [.int .i64 y.op, .int .i64 y.num, sv y.text, .slice ya yn yc, .int .i64 lv] := hcl
    subst hcl
    clear hal
    have hone5 : ∀ u ∈ [Value.int .i64 y.op, .int .i64 y.num, sv y.text, .slice ya yn yc, .int .i64 lv], u.oneCell' = true := by
      intro u hu
      simp at hu
      rcases hu with rfl | rfl | rfl | rfl | rfl <;> rfl
    have hlvl : 0 ≤ lv ∧ lv ≤ 33 := hlv (y, lv) (by simp)
    replace hst : y.mass + stM r ≤ x.mass := hst
    have hnd : y.mass < 34359738368 := by omega
    refine A_rowaddr (q := 0) rfl (fun _ hcap _ _ _ => ?_)
    rw [List.length_append, List.length_singleton] at hcap
    obtain ⟨k, hk⟩ : ∃ k, k = c0.length := ⟨_, rfl⟩
    obtain rfl : sn = k + 1 := by rw [← hsn, hk]; simp
    have hkb : k < 34359738368 := by
      have e1 := ha0.lenI
      have e2 := stM_len r
      rw [List.length_reverse] at e1
      omega
    have hgl : (c0 ++ [[Value.int .i64 y.op, .int .i64 y.num, sv y.text, .slice ya yn yc, .int .i64 lv]])[k]? = some [.int .i64 y.op, .int .i64 y.num, sv y.text, .slice ya yn yc, .int .i64 lv] := by rw [hk]; simp
    have htk : (c0 ++ [[Value.int .i64 y.op, .int .i64 y.num, sv y.text, .slice ya yn yc, .int .i64 lv]]).take k = c0 := by rw [hk]; simp
    have kN := fun Hx (h : HLe Hq Hx) => lnode_fn (hy.mono h) hnd
    have hem := y.mass_eq
    have hk1 : (((k + 1 : Nat) : Int) - 1).toNat = k := by omega
    have hyl := hys.len
    have hynm := massN_len y.args
    rw [LCK_cons hv1]
    by_cases hA : 256 ≤ v
    · rw [if_pos hA]
      repeat' (first | (refine O_ef rfl (Ef_idxRow WideF.wide (q := 0) rfl rfl rfl (by omega) (by omega) rfl ?_); intro b6 hb6; subst hb6) | (refine O_ev WideF.wide rfl (Ev_loadR (q := 0) (i := k) rfl rfl hgl (by omega) rfl) rfl rfl ?_) | (show wpA _ _ _ (.region 6 _ _) _ _ _ _; refine A_freezeBox (cs := [.int .i64 y.op, .int .i64 y.num, sv y.text, .slice ya yn yc, .int .i64 lv]) hone5 ?_; intro H2 hle2 hc; refine A_region ?_) | (refine O_ev WideF.wide rfl (Ev_lsliceh rfl rfl (by omega) (by omega)) rfl rfl ?_; rw [hk1]; refine O_cut (j := k) (by omega) ?_; rw [htk]) | refine O_nil ?_ | refine A_seq ?_ | refine A_region ?_ | refine A_skip ?_ | refine A_ret ?_ | refine A_block ?_ | (show opsA _ _ _ _ _ _ _; first | refine O_ev WideF.wide rfl (Ev_pure rfl) rfl rfl ?_ | (show opsA _ _ _ _ (⟨_, .call _, _, _, _, _⟩ :: _) _ _; refine O_ev WideF.wide rfl (Ev_llen rfl) rfl rfl ?_) | (show opsA _ _ _ _ (⟨_, .binOp _ _ _ _ _, _, _, _, _⟩ :: _) _ _; refine O_ev WideF.wide rfl (Ev_sub rfl rfl (wi64 (by omega))) rfl rfl ?_) | (show opsA _ _ _ _ (⟨_, .alloc _, _, _, _, _⟩ :: _) _ _; (refine O_ef rfl (Ef_alloc WideF.wide rfl ?_); intro b)) | (show opsA _ _ _ _ (⟨_, .store _ _ _, _, _, _, _⟩ :: _) _ _; refine O_ef rfl (Ef_storew WideF.wide rfl rfl rfl rfl rfl ?_))) | (show wpA _ _ _ (.cond _ _ _) _ _ _ _; (refine A_if rfl (fun h => ?_) (fun h => ?_) <;> try (exfalso; omega))))
      all_goals first
        | (exfalso; omega)
        | (exfalso; contradiction)
        | (exfalso; exact absurd trivial (by assumption))
        | (exfalso; exact absurd rfl (by assumption))
        | exact End_e (Ret1 rfl rfl) ⟨rfl, rfl⟩
        | trace_state
    rw [if_neg hA]
    by_cases hB : 32 < lv
    · rw [if_pos hB]
      repeat' (first | (refine O_ef rfl (Ef_idxRow WideF.wide (q := 0) rfl rfl rfl (by omega) (by omega) rfl ?_); intro b6 hb6; subst hb6) | (refine O_ev WideF.wide rfl (Ev_loadR (q := 0) (i := k) rfl rfl hgl (by omega) rfl) rfl rfl ?_) | (show wpA _ _ _ (.region 6 _ _) _ _ _ _; refine A_freezeBox (cs := [.int .i64 y.op, .int .i64 y.num, sv y.text, .slice ya yn yc, .int .i64 lv]) hone5 ?_; intro H2 hle2 hc; refine A_region ?_) | (refine O_ev WideF.wide rfl (Ev_lsliceh rfl rfl (by omega) (by omega)) rfl rfl ?_; rw [hk1]; refine O_cut (j := k) (by omega) ?_; rw [htk]) | refine O_nil ?_ | refine A_seq ?_ | refine A_region ?_ | refine A_skip ?_ | refine A_ret ?_ | refine A_block ?_ | (show opsA _ _ _ _ _ _ _; first | refine O_ev WideF.wide rfl (Ev_pure rfl) rfl rfl ?_ | (show opsA _ _ _ _ (⟨_, .load _ _, _, _, _, _⟩ :: _) _ _; refine O_ev WideF.wide rfl (Ev_loadH1 rfl (hc 4 _ rfl)) rfl rfl ?_) | (show opsA _ _ _ _ (⟨_, .fieldAddr _ _ _, _, _, _, _⟩ :: _) _ _; refine O_ev WideF.wide rfl (Ev_fieldAddr rfl rfl rfl) rfl rfl ?_) | (show opsA _ _ _ _ (⟨_, .call _, _, _, _, _⟩ :: _) _ _; refine O_ev WideF.wide rfl (Ev_llen rfl) rfl rfl ?_) | (show opsA _ _ _ _ (⟨_, .binOp _ _ _ _ _, _, _, _, _⟩ :: _) _ _; refine O_ev WideF.wide rfl (Ev_sub rfl rfl (wi64 (by omega))) rfl rfl ?_) | (show opsA _ _ _ _ (⟨_, .alloc _, _, _, _, _⟩ :: _) _ _; (refine O_ef rfl (Ef_alloc WideF.wide rfl ?_); intro b)) | (show opsA _ _ _ _ (⟨_, .store _ _ _, _, _, _, _⟩ :: _) _ _; refine O_ef rfl (Ef_storew WideF.wide rfl rfl rfl rfl rfl ?_))) | (show wpA _ _ _ (.cond _ _ _) _ _ _ _; (refine A_if rfl (fun h => ?_) (fun h => ?_) <;> try (exfalso; omega))))
      all_goals first
        | (exfalso; omega)
        | (exfalso; contradiction)
        | (exfalso; exact absurd trivial (by assumption))
        | (exfalso; exact absurd rfl (by assumption))
        | exact End_e (Ret1 rfl rfl) ⟨rfl, rfl⟩
        | trace_state
    rw [if_neg hB]
    by_cases hC : lnN y = 0
    · rw [if_neg (fun h => h hC)]
      rw [hC] at kN
      repeat' (first | (refine O_ef rfl (Ef_idxRow WideF.wide (q := 0) rfl rfl rfl (by omega) (by omega) rfl ?_); intro b6 hb6; subst hb6) | (refine O_ev WideF.wide rfl (Ev_loadR (q := 0) (i := k) rfl rfl hgl (by omega) rfl) rfl rfl ?_) | (show wpA _ _ _ (.region 6 _ _) _ _ _ _; refine A_freezeBox (cs := [.int .i64 y.op, .int .i64 y.num, sv y.text, .slice ya yn yc, .int .i64 lv]) hone5 ?_; intro H2 hle2 hc; refine A_region ?_) | (refine O_ev WideF.wide rfl (Ev_lsliceh rfl rfl (by omega) (by omega)) rfl rfl ?_; rw [hk1]; refine O_cut (j := k) (by omega) ?_; rw [htk]) | (refine O_ev WideF.wide rfl (Ev_loadH rfl (hc.sub 0 4) rfl) rfl rfl ?_) | (refine O_ef rfl (Ef_call (I := []) WideF.wide (kN _ hle2) ⟨rfl, trivial⟩ rfl ?_); rintro v3 H3 I3 hle3 ⟨rfl, rfl⟩) | (show opsA _ _ _ _ (⟨some 42, .load _ _, _, _, _, _⟩ :: _) _ _; refine O_ev WideF.wide rfl (Ev_loadH1 rfl (hc.mono hle3 3 _ rfl)) rfl rfl ?_) | refine O_nil ?_ | refine A_seq ?_ | refine A_region ?_ | refine A_skip ?_ | refine A_block ?_ | (show opsA _ _ _ _ _ _ _; first | refine O_ev WideF.wide rfl (Ev_pure rfl) rfl rfl ?_ | (show opsA _ _ _ _ (⟨_, .load _ _, _, _, _, _⟩ :: _) _ _; refine O_ev WideF.wide rfl (Ev_loadH1 rfl (hc 4 _ rfl)) rfl rfl ?_) | (show opsA _ _ _ _ (⟨_, .fieldAddr _ _ _, _, _, _, _⟩ :: _) _ _; refine O_ev WideF.wide rfl (Ev_fieldAddr rfl rfl rfl) rfl rfl ?_) | (show opsA _ _ _ _ (⟨_, .call _, _, _, _, _⟩ :: _) _ _; refine O_ev WideF.wide rfl (Ev_llen rfl) rfl rfl ?_) | (show opsA _ _ _ _ (⟨_, .binOp _ _ _ _ _, _, _, _, _⟩ :: _) _ _; refine O_ev WideF.wide rfl (Ev_sub rfl rfl (wi64 (by omega))) rfl rfl ?_) | (show opsA _ _ _ _ (⟨_, .alloc _, _, _, _, _⟩ :: _) _ _; (refine O_ef rfl (Ef_alloc WideF.wide rfl ?_); intro b)) | (show opsA _ _ _ _ (⟨_, .store _ _ _, _, _, _, _⟩ :: _) _ _; refine O_ef rfl (Ef_storew WideF.wide rfl rfl rfl rfl rfl ?_))) | (show wpA _ _ _ (.cond _ _ _) _ _ _ _; (refine A_if rfl (fun h => ?_) (fun h => ?_) <;> try (exfalso; omega))))
      refine A_loopu (fun q s => ∃ (i : Nat) (H5 : Hp) (css : List (List Value)) (sa2 : Option Addr) (sn sc : Nat), i = q ∧ i ≤ yn ∧ HLe H3 H5 ∧ css.length = sn ∧ All2 (ItemH H5) css ((y.args.drop i).map (fun z => (z, lv + 1)) ++ r).reverse ∧
        s = ⟨62, [(3, .slice sa2 sn sc), (4, .int .i64 v), (5, .pointer (some ⟨b, 0, none⟩)), (7, .int .i64 ((i : Int) - 1))], H5, [.row (.slice sa2 sn sc) 5 css], [], []⟩) ?_ ?_
      · exact Shift.to ⟨_, yn, H3, c0, _, _, _, rfl, Nat.le_refl _, HLe.refl _, hk.symm, (by rw [List.drop_of_length_le (by omega)]; exact ha0.mono fun _ _ h => h.mono (hle2.trans hle3)), rfl⟩ ⟨rfl, rfl, rfl, ⟨rfl, rfl, rfl, rfl, trivial⟩, Own.subi [0] (by decide) rfl rfl⟩
      rintro q s ⟨i, H5, css5, sa5, sn5, sc5, rfl, hi, hle5, hsn5, hal5, rfl⟩
      have hc5 := (hc.mono hle3).mono hle5
      have hm5 : css5.length ≤ massN (y.args.drop i) + stM r := by
        have e1 := hal5.lenI
        have e2 := stM_len ((y.args.drop i).map (fun z => (z, lv + 1)) ++ r)
        rw [stM_append, stM_map] at e2
        rw [List.length_reverse] at e1
        omega
      have hm6 : massN (y.args.drop i) ≤ massN y.args := by
        have h9 := massN_append (y.args.take i) (y.args.drop i)
        rw [List.take_append_drop] at h9
        omega
      by_cases hlt : 0 < i
      · obtain ⟨j, rfl⟩ : ∃ j, i = j + 1 := ⟨i - 1, by omega⟩
        have h7 : ((j + 1 : Nat) : Int) - 1 = (j : Int) := by omega
        rw [h7]
        obtain ⟨bb, bo, rcs, z, hbb, hz, hzc, hzk, hce⟩ := (NodesS.mono ((hle2.trans hle3).trans hle5) hys).at j (by omega)
        subst hbb
        obtain ⟨za, zn, zc, rfl, -⟩ := hzc.cells
        have hd : y.args.drop j = z :: y.args.drop (j + 1) := by
          obtain ⟨hlt', hz'⟩ := List.getElem?_eq_some_iff.1 hz
          rw [List.drop_eq_getElem_cons hlt', hz']
        have hnew : All2 (ItemH H5) (css5 ++ [[.int .i64 z.op, .int .i64 z.num, sv z.text, .slice za zn zc, .int .i64 (lv + 1)]]) ((y.args.drop j).map (fun z => (z, lv + 1)) ++ r).reverse := by
          rw [hd, List.map_cons, List.cons_append, List.reverse_cons]
          exact hal5.append (All2.one ⟨_, rfl, hzc⟩)
        repeat' (first | (refine A_drawM WideF.wide (.q 0 (.q 1 (.q 2 (.q 3 (.q 4 (.q 5 (.q 6 (.q 7 (.q 8 (.q 9 (.q 10 (.e 11 (.e 12 (.q 13 (.done []))))))))))))))) [] (by decide +kernel) ?_) | (refine D_ev rfl (Ev_loadH1 rfl (hc5 3 _ rfl)) rfl rfl ?_) | (refine D_ev rfl (Ev_loadH1 rfl (hc5 4 _ rfl)) rfl rfl ?_) | (refine D_ev rfl (Ev_loadH rfl hce rfl) rfl rfl ?_) | refine O_nil ?_ | refine A_seq ?_ | refine A_region ?_ | refine A_skip ?_ | refine A_block ?_ | (show drJ _ _ _ _ _ _ _ (.q _ _) _; refine D_q rfl ?_) | (show drJ _ _ _ _ _ _ _ (.e _ _) _; refine D_e rfl ?_) | (show drJ _ _ _ _ _ _ _ (.done _) _; refine D_done ?_; simp only [List.cons_append, List.nil_append]) | (show drQ _ _ _ _ _ _; first | refine D_ev rfl (Ev_pure rfl) rfl rfl ?_ | (show drQ _ _ _ ⟨_, .indexAddr _ _ _, _, _, _, _⟩ _ _; refine D_ev rfl (Ev_indexAddr rfl rfl (by omega) (by omega)) rfl rfl ?_) | (show drQ _ _ _ ⟨_, .fieldAddr _ _ _, _, _, _, _⟩ _ _; refine D_ev rfl (Ev_fieldAddr rfl rfl rfl) rfl rfl ?_) | (show drQ _ _ _ ⟨_, .binOp _ _ _ _ _, _, _, _, _⟩ _ _; refine D_ev rfl (Ev_add rfl rfl (wi64 (by omega))) rfl rfl ?_) | (show drQ _ _ _ ⟨_, .build _ _, _, _, _, _⟩ _ _; refine D_ev rfl (Ev_build (vs := [(_, _), (_, _)]) ⟨rfl, rfl, rfl, rfl, trivial⟩ rfl) rfl rfl ?_)) | (show drE _ _ _ _ _ _ _; first | (show drE _ _ _ _ ⟨_, .call _, _, _, _, _⟩ _ _; (refine E_ef rfl (Ef_f1 (Ef_appendR WideF.wide rfl rfl rfl rfl rfl (by simp; omega) (by simp; omega) rfl ?_)); intro a cp; refine ⟨Grow.same rfl rfl, ?_⟩)) | (show drE _ _ _ _ ⟨_, .buildSlice _ _ _, _, _, _, _⟩ _ _; (refine E_ef rfl (Ef_build1a WideF.wide rfl rfl rfl rfl rfl ?_); intro b; refine ⟨Grow.same rfl rfl, ?_⟩))) | (show opsA _ _ _ _ _ _ _; first | refine O_ev WideF.wide rfl (Ev_pure rfl) rfl rfl ?_ | (show opsA _ _ _ _ (⟨_, .binOp _ _ _ _ _, _, _, _, _⟩ :: _) _ _; refine O_ev WideF.wide rfl (Ev_sub rfl rfl (wi64 (by omega))) rfl rfl ?_)) | (show wpA _ _ _ (.cond _ _ _) _ _ _ _; (refine A_if rfl (fun h => ?_) (fun h => ?_) <;> try (exfalso; omega))))
        all_goals first
          | (exfalso; omega)
          | (exfalso; contradiction)
          | (exfalso; exact absurd trivial (by assumption))
          | (exfalso; exact absurd rfl (by assumption))
          | exact Shift.to ⟨_, by omega, j, H5, _, _, _, _, rfl, by omega, hle5, by simp [hsn5], hnew, rfl⟩ ⟨rfl, rfl, rfl, ⟨rfl, rfl, rfl, rfl, trivial⟩, Own.subi [0] (by decide) rfl rfl⟩
          | trace_state
      · obtain rfl : i = 0 := by omega
        repeat' (first | refine O_nil ?_ | refine A_seq ?_ | refine A_region ?_ | (show opsA _ _ _ _ _ _ _; first | refine O_ev WideF.wide rfl (Ev_pure rfl) rfl rfl ?_ | (show opsA _ _ _ _ (⟨_, .binOp _ _ _ _ _, _, _, _, _⟩ :: _) _ _; refine O_ev WideF.wide rfl (Ev_add rfl rfl (wi64 (by omega))) rfl rfl ?_)) | (show wpA _ _ _ (.exit _) _ _ _ _; refine A_exit rfl ?_) | (show wpA _ _ _ (.cond _ _ _) _ _ _ _; (refine A_if rfl (fun h => ?_) (fun h => ?_) <;> try (exfalso; omega))))
        all_goals first
          | (exfalso; omega)
          | (exfalso; contradiction)
          | (exfalso; exact absurd trivial (by assumption))
          | (exfalso; exact absurd rfl (by assumption))
          | exact Shift.to ⟨_, by omega, v + 1, y.args.map (fun z => (z, lv + 1)) ++ r, H5, css5, _, _, _, rfl, by omega, by omega, ((hleq.trans hle2).trans hle3).trans hle5, hsn5, hal5, (by rw [stM_append, stM_map]; omega), (fun p hp => (List.mem_append.1 hp).elim (fun h => by obtain ⟨z, _, rfl⟩ := List.mem_map.1 h; exact ⟨by show 0 ≤ lv + 1; omega, by show lv + 1 ≤ 33; omega⟩) (fun h => hlv p (List.mem_cons_of_mem _ h))), rfl, rfl⟩ ⟨rfl, rfl, rfl, ⟨rfl, rfl, trivial⟩, Own.subi [0] (by decide) rfl rfl⟩
          | trace_state
    · rw [if_pos hC]
      repeat' (first | (refine O_ef rfl (Ef_idxRow WideF.wide (q := 0) rfl rfl rfl (by omega) (by omega) rfl ?_); intro b6 hb6; subst hb6) | (refine O_ev WideF.wide rfl (Ev_loadR (q := 0) (i := k) rfl rfl hgl (by omega) rfl) rfl rfl ?_) | (show wpA _ _ _ (.region 6 _ _) _ _ _ _; refine A_freezeBox (cs := [.int .i64 y.op, .int .i64 y.num, sv y.text, .slice ya yn yc, .int .i64 lv]) hone5 ?_; intro H2 hle2 hc; refine A_region ?_) | (refine O_ev WideF.wide rfl (Ev_lsliceh rfl rfl (by omega) (by omega)) rfl rfl ?_; rw [hk1]; refine O_cut (j := k) (by omega) ?_; rw [htk]) | (refine O_ev WideF.wide rfl (Ev_loadH rfl (hc.sub 0 4) rfl) rfl rfl ?_) | (refine O_ef rfl (Ef_call (I := []) WideF.wide (kN _ hle2) ⟨rfl, trivial⟩ rfl ?_); rintro v3 H3 I3 hle3 ⟨rfl, rfl⟩) | refine O_nil ?_ | refine A_seq ?_ | refine A_region ?_ | refine A_skip ?_ | refine A_ret ?_ | refine A_block ?_ | (show opsA _ _ _ _ _ _ _; first | refine O_ev WideF.wide rfl (Ev_pure rfl) rfl rfl ?_ | (show opsA _ _ _ _ (⟨_, .load _ _, _, _, _, _⟩ :: _) _ _; refine O_ev WideF.wide rfl (Ev_loadH1 rfl (hc 4 _ rfl)) rfl rfl ?_) | (show opsA _ _ _ _ (⟨_, .fieldAddr _ _ _, _, _, _, _⟩ :: _) _ _; refine O_ev WideF.wide rfl (Ev_fieldAddr rfl rfl rfl) rfl rfl ?_) | (show opsA _ _ _ _ (⟨_, .call _, _, _, _, _⟩ :: _) _ _; refine O_ev WideF.wide rfl (Ev_llen rfl) rfl rfl ?_) | (show opsA _ _ _ _ (⟨_, .binOp _ _ _ _ _, _, _, _, _⟩ :: _) _ _; refine O_ev WideF.wide rfl (Ev_sub rfl rfl (wi64 (by omega))) rfl rfl ?_) | (show opsA _ _ _ _ (⟨_, .alloc _, _, _, _, _⟩ :: _) _ _; (refine O_ef rfl (Ef_alloc WideF.wide rfl ?_); intro b)) | (show opsA _ _ _ _ (⟨_, .store _ _ _, _, _, _, _⟩ :: _) _ _; refine O_ef rfl (Ef_storew WideF.wide rfl rfl rfl rfl rfl ?_))) | (show wpA _ _ _ (.cond _ _ _) _ _ _ _; (refine A_if rfl (fun h => ?_) (fun h => ?_) <;> try (exfalso; omega))))
      all_goals first
        | (exfalso; omega)
        | (exfalso; contradiction)
        | (exfalso; exact absurd trivial (by assumption))
        | (exfalso; exact absurd rfl (by assumption))
        | exact End_e (Ret1 rfl rfl) ⟨rfl, rfl⟩
        | trace_state
end Go.Proofs.YtnoadopmeoohmaaGreatDoor
