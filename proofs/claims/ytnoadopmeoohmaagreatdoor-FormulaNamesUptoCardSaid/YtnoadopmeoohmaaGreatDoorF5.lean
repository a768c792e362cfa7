/-
  Small functions on values, of both sides. Printed by genF4.py.
  The law's fine: some result. Printed by genF5.py.
-/
import Derived.Test.YtnoadopmeoohmaaGreatDoorF3
import Derived.Test.YtnoadopmeoohmaaGreatDoorP0
import Derived.Test.YtnoadopmeoohmaaGreatDoorC1
namespace Go.Proofs.YtnoadopmeoohmaaGreatDoor
open Go
set_option linter.unusedVariables false
set_option linter.unusedSimpArgs false
section
def zV : Val := ⟨0, 0, []⟩
def numV (n : Int) : Val := ⟨1, n, []⟩
def txtV (s : List UInt8) : Val := ⟨2, 0, s⟩
def booV (b : Bool) : Val := ⟨3, if b then 1 else 0, []⟩
/-- a value, or the error if it is out of range -/
def chkV (v : Val) : Val × Int := if v.kind = 1 ∧ (v.num < -1099511627776 ∨ 1099511627776 < v.num) then (zV, 29) else if v.kind = 2 ∧ 1024 < v.text.length then (zV, 10) else (v, 0)
abbrev rV (v : Val) : Value := .agg (vlrow v).toArray
abbrev rVE (p : Val × Int) : Value := .tuple [rV p.1, .int .i64 p.2].toArray
attribute [local irreducible] wpA opsA drJ drQ drE Ef Ev Shift Fn

set_option maxRecDepth 100000 in
theorem boolean_t {H : Hp} {x : Unit} : Fn Tryz.prog 60 [.bool true] H [] fun v _ I => v = rV (booV true) ∧ I = [] := by
  refine Fn_of _ _ Tryz.func60 rfl Tryz.ntmps60 rfl fun c => ?_
  repeat' (first | refine O_nil ?_ | refine A_seq ?_ | refine A_region ?_ | refine A_ret ?_ | (show opsA _ _ _ _ _ _ _; first | refine O_ev WideF.wide rfl (Ev_pure rfl) rfl rfl ?_ | (show opsA _ _ _ _ (⟨_, .load _ _, _, _, _, _⟩ :: _) _ _; refine O_ev WideF.wide rfl (Ev_loadB (i := 0) rfl rfl rfl) rfl rfl ?_) | (show opsA _ _ _ _ (⟨_, .fieldAddr _ _ _, _, _, _, _⟩ :: _) _ _; refine O_ev WideF.wide rfl (Ev_fieldAddr rfl rfl rfl) rfl rfl ?_) | (show opsA _ _ _ _ (⟨_, .build _ _, _, _, _, _⟩ :: _) _ _; refine O_ev WideF.wide rfl (Ev_build (vs := [(_, _)]) ⟨rfl, rfl, trivial⟩ rfl) rfl rfl ?_) | (show opsA _ _ _ _ (⟨_, .alloc _, _, _, _, _⟩ :: _) _ _; (refine O_ef rfl (Ef_alloc WideF.wide rfl ?_); intro b)) | (show opsA _ _ _ _ (⟨_, .store _ _ _, _, _, _, _⟩ :: _) _ _; first | refine O_ef rfl (Ef_storew WideF.wide rfl rfl rfl rfl rfl ?_) | refine O_ef rfl (Ef_store1 WideF.wide rfl rfl rfl rfl rfl ?_) | refine O_f1 (O_ef rfl (Ef_storew WideF.wide rfl rfl rfl rfl rfl ?_)))) | (show wpA _ _ _ (.cond _ _ _) _ _ _ _; refine A_iftrue rfl ?_))
  all_goals first
    | (exfalso; omega)
    | exact End_e (RetC rfl rfl (i := 0) rfl rfl) ⟨rfl, rfl⟩
    | trace_state

set_option maxRecDepth 100000 in
theorem boolean_f {H : Hp} {x : Unit} : Fn Tryz.prog 60 [.bool false] H [] fun v _ I => v = rV (booV false) ∧ I = [] := by
  refine Fn_of _ _ Tryz.func60 rfl Tryz.ntmps60 rfl fun c => ?_
  repeat' (first | refine O_nil ?_ | refine A_seq ?_ | refine A_region ?_ | refine A_skip ?_ | refine A_ret ?_ | (show opsA _ _ _ _ _ _ _; first | refine O_ev WideF.wide rfl (Ev_pure rfl) rfl rfl ?_ | (show opsA _ _ _ _ (⟨_, .load _ _, _, _, _, _⟩ :: _) _ _; refine O_ev WideF.wide rfl (Ev_loadB (i := 0) rfl rfl rfl) rfl rfl ?_) | (show opsA _ _ _ _ (⟨_, .build _ _, _, _, _, _⟩ :: _) _ _; refine O_ev WideF.wide rfl (Ev_build (vs := [(_, _)]) ⟨rfl, rfl, trivial⟩ rfl) rfl rfl ?_) | (show opsA _ _ _ _ (⟨_, .alloc _, _, _, _, _⟩ :: _) _ _; (refine O_ef rfl (Ef_alloc WideF.wide rfl ?_); intro b)) | (show opsA _ _ _ _ (⟨_, .store _ _ _, _, _, _, _⟩ :: _) _ _; first | refine O_ef rfl (Ef_storew WideF.wide rfl rfl rfl rfl rfl ?_) | refine O_f1 (O_ef rfl (Ef_storew WideF.wide rfl rfl rfl rfl rfl ?_)))) | (show wpA _ _ _ (.cond _ _ _) _ _ _ _; refine A_iffalse rfl ?_))
  all_goals first
    | (exfalso; omega)
    | exact End_e (RetC rfl rfl (i := 0) rfl rfl) ⟨rfl, rfl⟩
    | trace_state

set_option maxRecDepth 100000 in
theorem truth_t {H : Hp} {x : Unit} : Fn Tryz.prog 27 [.bool true] H [] fun v _ I => v = rV (booV true) ∧ I = [] := by
  refine Fn_of _ _ Tryz.func27 rfl Tryz.ntmps27 rfl fun c => ?_
  repeat' (first | refine O_nil ?_ | refine A_seq ?_ | refine A_region ?_ | refine A_ret ?_ | (show opsA _ _ _ _ _ _ _; first | refine O_ev WideF.wide rfl (Ev_pure rfl) rfl rfl ?_ | (show opsA _ _ _ _ (⟨_, .build _ _, _, _, _, _⟩ :: _) _ _; refine O_ev WideF.wide rfl (Ev_build (vs := [(_, _), (_, _)]) ⟨rfl, rfl, rfl, rfl, trivial⟩ rfl) rfl rfl ?_) | (show opsA _ _ _ _ (⟨_, .alloc _, _, _, _, _⟩ :: _) _ _; (refine O_ef rfl (Ef_alloc WideF.wide rfl ?_); intro b)) | (show opsA _ _ _ _ (⟨_, .store _ _ _, _, _, _, _⟩ :: _) _ _; refine O_ef rfl (Ef_storew WideF.wide rfl rfl rfl rfl rfl ?_))) | (show wpA _ _ _ (.cond _ _ _) _ _ _ _; refine A_iftrue rfl ?_))
  all_goals first
    | (exfalso; omega)
    | exact End_e (RetC rfl rfl (i := 0) rfl rfl) ⟨rfl, rfl⟩
    | trace_state

set_option maxRecDepth 100000 in
theorem truth_f {H : Hp} {x : Unit} : Fn Tryz.prog 27 [.bool false] H [] fun v _ I => v = rV (booV false) ∧ I = [] := by
  refine Fn_of _ _ Tryz.func27 rfl Tryz.ntmps27 rfl fun c => ?_
  repeat' (first | refine O_nil ?_ | refine A_seq ?_ | refine A_region ?_ | refine A_skip ?_ | refine A_ret ?_ | (show opsA _ _ _ _ _ _ _; first | refine O_ev WideF.wide rfl (Ev_pure rfl) rfl rfl ?_ | (show opsA _ _ _ _ (⟨_, .build _ _, _, _, _, _⟩ :: _) _ _; refine O_ev WideF.wide rfl (Ev_build (vs := [(_, _)]) ⟨rfl, rfl, trivial⟩ rfl) rfl rfl ?_) | (show opsA _ _ _ _ (⟨_, .alloc _, _, _, _, _⟩ :: _) _ _; (refine O_ef rfl (Ef_alloc WideF.wide rfl ?_); intro b)) | (show opsA _ _ _ _ (⟨_, .store _ _ _, _, _, _, _⟩ :: _) _ _; refine O_ef rfl (Ef_storew WideF.wide rfl rfl rfl rfl rfl ?_))) | (show wpA _ _ _ (.cond _ _ _) _ _ _ _; refine A_iffalse rfl ?_))
  all_goals first
    | (exfalso; omega)
    | exact End_e (RetC rfl rfl (i := 0) rfl rfl) ⟨rfl, rfl⟩
    | trace_state

set_option maxRecDepth 100000 in
theorem text_fn {H : Hp} {s : List UInt8} : Fn Tryz.prog 62 [sv s] H [] fun v _ I => v = rV (txtV s) ∧ I = [] := by
  refine Fn_of _ _ Tryz.func62 rfl Tryz.ntmps62 rfl fun c => ?_
  repeat' (first | refine O_nil ?_ | refine A_seq ?_ | refine A_region ?_ | refine A_ret ?_ | (show opsA _ _ _ _ _ _ _; first | refine O_ev WideF.wide rfl (Ev_pure rfl) rfl rfl ?_ | (show opsA _ _ _ _ (⟨_, .build _ _, _, _, _, _⟩ :: _) _ _; refine O_ev WideF.wide rfl (Ev_build (vs := [(_, _), (_, _)]) ⟨rfl, rfl, rfl, rfl, trivial⟩ rfl) rfl rfl ?_) | (show opsA _ _ _ _ (⟨_, .alloc _, _, _, _, _⟩ :: _) _ _; (refine O_ef rfl (Ef_alloc WideF.wide rfl ?_); intro b)) | (show opsA _ _ _ _ (⟨_, .store _ _ _, _, _, _, _⟩ :: _) _ _; refine O_ef rfl (Ef_storew WideF.wide rfl rfl rfl rfl rfl ?_))))
  all_goals first
    | (exfalso; omega)
    | exact End_e (RetC rfl rfl (i := 0) rfl rfl) ⟨rfl, rfl⟩
    | trace_state

set_option maxRecDepth 100000 in
theorem number_fn {H : Hp} {n : Int} : Fn Tryz.prog 106 [.int .i64 n] H [] fun v _ I => v = rV (numV n) ∧ I = [] := by
  refine Fn_of _ _ Tryz.func106 rfl Tryz.ntmps106 rfl fun c => ?_
  repeat' (first | refine O_nil ?_ | refine A_seq ?_ | refine A_region ?_ | refine A_ret ?_ | (show opsA _ _ _ _ _ _ _; first | refine O_ev WideF.wide rfl (Ev_pure rfl) rfl rfl ?_ | (show opsA _ _ _ _ (⟨_, .build _ _, _, _, _, _⟩ :: _) _ _; refine O_ev WideF.wide rfl (Ev_build (vs := [(_, _), (_, _)]) ⟨rfl, rfl, rfl, rfl, trivial⟩ rfl) rfl rfl ?_) | (show opsA _ _ _ _ (⟨_, .alloc _, _, _, _, _⟩ :: _) _ _; (refine O_ef rfl (Ef_alloc WideF.wide rfl ?_); intro b)) | (show opsA _ _ _ _ (⟨_, .store _ _ _, _, _, _, _⟩ :: _) _ _; refine O_ef rfl (Ef_storew WideF.wide rfl rfl rfl rfl rfl ?_))))
  all_goals first
    | (exfalso; omega)
    | exact End_e (RetC rfl rfl (i := 0) rfl rfl) ⟨rfl, rfl⟩
    | trace_state

set_option maxRecDepth 100000 in
theorem checked_fn {H : Hp} {x : Val} (hl : x.text.length < 4611686018427387904) : Fn Tryz.prog 123 [rV x] H [] fun v _ I => v = rVE (chkV x) ∧ I = [] := by
  obtain ⟨k, n, s⟩ := x
  dsimp only at hl
  have h1 : k = 1 ∧ (n < -1099511627776 ∨ 1099511627776 < n) → chkV ⟨k, n, s⟩ = (zV, 29) := fun h => if_pos h
  have h2 : ¬ (k = 1 ∧ (n < -1099511627776 ∨ 1099511627776 < n)) → k = 2 ∧ 1024 < s.length → chkV ⟨k, n, s⟩ = (zV, 10) := fun h h' => (if_neg h).trans (if_pos h')
  have h3 : ¬ (k = 1 ∧ (n < -1099511627776 ∨ 1099511627776 < n)) → ¬ (k = 2 ∧ 1024 < s.length) → chkV ⟨k, n, s⟩ = (⟨k, n, s⟩, 0) := fun h h' => (if_neg h).trans (if_neg h')
  refine Fn_of _ _ Tryz.func123 rfl Tryz.ntmps123 rfl fun c => ?_
  repeat' (first | (refine O_ef rfl (Ef_boxa WideF.wide (cs := [.int .i64 k, .int .i64 n, sv s]) rfl rfl ?_); intro b1) | refine O_nil ?_ | refine A_seq ?_ | refine A_region ?_ | refine A_skip ?_ | refine A_ret ?_ | refine A_block ?_ | (show opsA _ _ _ _ _ _ _; first | (refine O_split rfl rfl (fun h => ?_) (fun h => ?_) <;> try (exfalso; omega)) | refine O_ev WideF.wide rfl (Ev_pure rfl) rfl rfl ?_ | (show opsA _ _ _ _ (⟨_, .load _ _, _, _, _, _⟩ :: _) _ _; first | refine O_ev WideF.wide rfl (Ev_loadB1 (i := 1) rfl rfl rfl) rfl rfl ?_ | refine O_ev WideF.wide rfl (Ev_loadB (i := 1) rfl rfl rfl) rfl rfl ?_) | (show opsA _ _ _ _ (⟨_, .fieldAddr _ _ _, _, _, _, _⟩ :: _) _ _; refine O_ev WideF.wide rfl (Ev_fieldAddr rfl rfl rfl) rfl rfl ?_) | (show opsA _ _ _ _ (⟨_, .call _, _, _, _, _⟩ :: _) _ _; refine O_ev WideF.wide rfl (Ev_slen rfl) rfl rfl ?_) | (show opsA _ _ _ _ (⟨_, .build _ _, _, _, _, _⟩ :: _) _ _; refine O_ev WideF.wide rfl (Ev_build (vs := []) trivial rfl) rfl rfl ?_) | (show opsA _ _ _ _ (⟨_, .alloc _, _, _, _, _⟩ :: _) _ _; (refine O_ef rfl (Ef_alloc WideF.wide rfl ?_); intro b)) | (show opsA _ _ _ _ (⟨_, .store _ _ _, _, _, _, _⟩ :: _) _ _; refine O_ef rfl (Ef_storew WideF.wide rfl rfl rfl rfl rfl ?_)) | refine O_skip WideF.wide rfl rfl rfl ?_) | (show wpA _ _ _ (.cond _ _ _) _ _ _ _; first | (refine A_if rfl (fun h => ?_) (fun h => ?_) <;> try (exfalso; omega)) | refine A_iftrue rfl ?_ | refine A_iffalse rfl ?_))
  all_goals first
    | (exfalso; omega)
    | (rw [h1 (by omega)]; exact End_e (RetC2 (i := 0) rfl rfl rfl rfl rfl) ⟨rfl, rfl⟩)
    | (rw [h2 (by omega) (by omega)]; exact End_e (RetC2 (i := 0) rfl rfl rfl rfl rfl) ⟨rfl, rfl⟩)
    | (rw [h3 (by omega) (by omega)]; exact End_e (RetC2 (i := 0) rfl rfl rfl rfl rfl) ⟨rfl, rfl⟩)
    | (rw [h1 (by omega)]; exact End_e (RetC2 (i := 1) rfl rfl rfl rfl rfl) ⟨rfl, rfl⟩)
    | (rw [h2 (by omega) (by omega)]; exact End_e (RetC2 (i := 1) rfl rfl rfl rfl rfl) ⟨rfl, rfl⟩)
    | (rw [h3 (by omega) (by omega)]; exact End_e (RetC2 (i := 1) rfl rfl rfl rfl rfl) ⟨rfl, rfl⟩)
    | trace_state
end
attribute [local irreducible] wpA opsA drJ drQ drE Ef Ev Shift Fn
set_option maxRecDepth 100000 in
set_option maxHeartbeats 4000000 in
theorem fine_fn {H : Hp} {a : Option Addr} {n cp : Nat} {l : List Bnd} (hx : HRow H a n cp 4 (l.map bdrow)) (hm : ∀ x ∈ l, x.val.text.length < 4611686018427387904) :
    Fn Tryz.prog 23 [.slice a n cp] H [] fun v _ I => (∃ r : Bool, v = .bool r) ∧ I = [] := by
  by_cases hn : 20 < n
  · refine Fn_of _ _ Tryz.func23 rfl Tryz.ntmps23 rfl fun c => ?_
    repeat' (first | refine O_nil ?_ | refine A_seq ?_ | refine A_region ?_ | refine A_ret ?_ | (show opsA _ _ _ _ _ _ _; first | refine O_ev WideF.wide rfl (Ev_pure rfl) rfl rfl ?_ | (show opsA _ _ _ _ (⟨_, .call _, _, _, _, _⟩ :: _) _ _; refine O_ev WideF.wide rfl (Ev_llen rfl) rfl rfl ?_)) | (show wpA _ _ _ (.cond _ _ _) _ _ _ _; (refine A_if rfl (fun h => ?_) (fun h => ?_) <;> try (exfalso; omega))))
    all_goals first
      | (exfalso; omega)
      | exact End_e (Ret1 rfl rfl) ⟨⟨_, rfl⟩, rfl⟩
      | trace_state
  refine Fn_of _ _ Tryz.func23 rfl Tryz.ntmps23 rfl fun c => ?_
  repeat' (first | refine O_nil ?_ | refine A_seq ?_ | refine A_region ?_ | refine A_skip ?_ | refine A_block ?_ | (show opsA _ _ _ _ _ _ _; first | refine O_ev WideF.wide rfl (Ev_pure rfl) rfl rfl ?_ | (show opsA _ _ _ _ (⟨_, .call _, _, _, _, _⟩ :: _) _ _; refine O_ev WideF.wide rfl (Ev_llen rfl) rfl rfl ?_)) | (show wpA _ _ _ (.cond _ _ _) _ _ _ _; (refine A_if rfl (fun h => ?_) (fun h => ?_) <;> try (exfalso; omega))))
  all_goals try (exfalso; omega)
  refine A_loopu (fun q s => ∃ i : Nat, q = n - i ∧ i ≤ n ∧ s = ⟨68, [(0, .slice a n cp), (3, .int .i64 i)], H, [], [], []⟩) ?_ ?_
  · exact Shift.to ⟨_, 0, rfl, by omega, rfl⟩ ⟨rfl, rfl, rfl, ⟨rfl, rfl, trivial⟩, Own.sub_nil _⟩
  rintro q s ⟨i, rfl, hi, rfl⟩
  by_cases hlt : i < n
  · obtain ⟨b, o, x, rfl, hxi, hc⟩ := hx.atm i hlt
    have hv0 := hm x (List.mem_of_getElem? hxi)
    have k1 := Valid_fn H x.val.text hv0
    cases hv : decide (valid x.val.text) <;> rw [hv] at k1
    all_goals
      repeat' (first | (refine O_ev WideF.wide rfl (Ev_loadH rfl (hc.sub 1 3) rfl) rfl rfl ?_) | (refine O_ef rfl (Ef_callp WideF.wide (k1) ⟨rfl, trivial⟩ rfl ?_)) | refine O_nil ?_ | refine A_seq ?_ | refine A_region ?_ | refine A_skip ?_ | refine A_ret ?_ | refine A_block ?_ | (show opsA _ _ _ _ _ _ _; first | (refine O_split rfl rfl (fun h => ?_) (fun h => ?_) <;> try (exfalso; omega)) | refine O_ev WideF.wide rfl (Ev_pure rfl) rfl rfl ?_ | (show opsA _ _ _ _ (⟨_, .load _ _, _, _, _, _⟩ :: _) _ _; refine O_ev WideF.wide rfl (Ev_loadB1 (i := 0) rfl rfl rfl) rfl rfl ?_) | (show opsA _ _ _ _ (⟨_, .indexAddr _ _ _, _, _, _, _⟩ :: _) _ _; refine O_ev WideF.wide rfl (Ev_indexAddr rfl rfl (by omega) (by omega)) rfl rfl ?_) | (show opsA _ _ _ _ (⟨_, .fieldAddr _ _ _, _, _, _, _⟩ :: _) _ _; refine O_ev WideF.wide rfl (Ev_fieldAddr rfl rfl rfl) rfl rfl ?_) | (show opsA _ _ _ _ (⟨_, .call _, _, _, _, _⟩ :: _) _ _; first | refine O_ev WideF.wide rfl (Ev_llen rfl) rfl rfl ?_ | refine O_ev WideF.wide rfl (Ev_slen rfl) rfl rfl ?_) | (show opsA _ _ _ _ (⟨_, .binOp _ _ _ _ _, _, _, _, _⟩ :: _) _ _; first | refine O_ev WideF.wide rfl (Ev_add rfl rfl (wi64 (by omega))) rfl rfl ?_ | refine O_ev WideF.wide rfl (Ev_sneq rfl rfl) rfl rfl ?_) | (show opsA _ _ _ _ (⟨_, .unOp _ _ _, _, _, _, _⟩ :: _) _ _; refine O_ev WideF.wide rfl (Ev_notb rfl) rfl rfl ?_) | (show opsA _ _ _ _ (⟨_, .alloc _, _, _, _, _⟩ :: _) _ _; (refine O_ef rfl (Ef_alloc WideF.wide rfl ?_); intro b)) | (show opsA _ _ _ _ (⟨_, .store _ _ _, _, _, _, _⟩ :: _) _ _; refine O_ef rfl (Ef_storew WideF.wide rfl rfl rfl rfl rfl ?_)) | refine O_skip WideF.wide rfl rfl rfl ?_) | (show wpA _ _ _ (.cond _ _ _) _ _ _ _; first | (refine A_if rfl (fun h => ?_) (fun h => ?_) <;> try (exfalso; omega)) | refine A_iftrue rfl ?_ | refine A_iffalse rfl ?_))
      all_goals first
        | (exfalso; omega)
        | (exfalso; exact absurd rfl (by assumption))
        | exact End_e (Ret1 rfl rfl) ⟨⟨_, rfl⟩, rfl⟩
        | exact Shift.to ⟨_, by omega, i + 1, rfl, by omega, rfl⟩ ⟨rfl, rfl, rfl, ⟨rfl, rfl, trivial⟩, Own.sub_nil _⟩
        | trace_state
  · obtain rfl : n = i := by omega
    repeat' (first | refine O_nil ?_ | refine A_seq ?_ | refine A_region ?_ | refine A_ret ?_ | (show opsA _ _ _ _ _ _ _; first | refine O_ev WideF.wide rfl (Ev_pure rfl) rfl rfl ?_ | (show opsA _ _ _ _ (⟨_, .call _, _, _, _, _⟩ :: _) _ _; refine O_ev WideF.wide rfl (Ev_llen rfl) rfl rfl ?_)) | (show wpA _ _ _ (.exit _) _ _ _ _; refine A_exit rfl ?_) | (show wpA _ _ _ (.cond _ _ _) _ _ _ _; (refine A_if rfl (fun h => ?_) (fun h => ?_) <;> try (exfalso; omega))))
    all_goals first
      | (exfalso; omega)
      | exact End_e (Ret1 rfl rfl) ⟨⟨_, rfl⟩, rfl⟩
      | trace_state
end Go.Proofs.YtnoadopmeoohmaaGreatDoor
