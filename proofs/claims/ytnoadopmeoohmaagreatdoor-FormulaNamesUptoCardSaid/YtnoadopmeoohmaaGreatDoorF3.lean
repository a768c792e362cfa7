/-
  Letters, digits, identifiers of both sides; the law's control and function. Printed by genF3.py.
-/
import Derived.Test.YtnoadopmeoohmaaGreatDoorF2
namespace Go.Proofs.YtnoadopmeoohmaaGreatDoor
open Go
set_option linter.unusedVariables false
set_option linter.unusedSimpArgs false
def ltr (b : Int) : Prop := 97 ≤ b ∧ b ≤ 122 ∨ 65 ≤ b ∧ b ≤ 90
def dgt (b : Int) : Prop := 48 ≤ b ∧ b ≤ 57
instance (b : Int) : Decidable (ltr b) := inferInstanceAs (Decidable (_ ∨ _))
instance (b : Int) : Decidable (dgt b) := inferInstanceAs (Decidable (_ ∧ _))
def idc (l : List UInt8) (i : Int) : Prop := ltr (bat l i) ∨ 0 < i ∧ (dgt (bat l i) ∨ bat l i = 95)
instance (l : List UInt8) (i : Int) : Decidable (idc l i) := inferInstanceAs (Decidable (_ ∨ _))
def idt (l : List UInt8) : Prop := l ≠ [] ∧ ∀ i : Nat, i < l.length → idc l i
instance (l : List UInt8) : Decidable (idt l) := inferInstanceAs (Decidable (_ ∧ _))
def ctl (l : List UInt8) : Prop := ∃ i : Nat, i < l.length ∧ (bat l i < 32 ∨ bat l i = 127)
instance (l : List UInt8) : Decidable (ctl l) := inferInstanceAs (Decidable (∃ i : Nat, i < l.length ∧ (bat l i < 32 ∨ bat l i = 127)))
theorem ior_nat : ∀ n : Nat, n < 256 → ((97 ≤ ior .u8 (n : Int) 32 ∧ ior .u8 (n : Int) 32 ≤ 122) ↔ ltr (n : Int)) := by decide +kernel
theorem ior_ltr (l : List UInt8) (i : Int) : (97 ≤ ior .u8 (bat l i) 32 ∧ ior .u8 (bat l i) 32 ≤ 122) ↔ (97 ≤ bat l i ∧ bat l i ≤ 122 ∨ 65 ≤ bat l i ∧ bat l i ≤ 90) := by
  have h1 := bat_hi l i
  have h0 : bat l i = ((bat l i).toNat : Int) := by have := bat_lo l i; omega
  have h := ior_nat (bat l i).toNat (by omega)
  rw [← h0] at h
  exact h
def fnc (s : List UInt8) : Int × Int × Bool :=
  if s = [109, 105, 110] ∨ s = [109, 97, 120] then (1, 1000, true) else if s = [115, 117, 109] then (0, 1000, true) else
  if s = [97, 98, 115] ∨ s = [108, 101, 110] ∨ s = [117, 112, 112, 101, 114] ∨ s = [108, 111, 119, 101, 114] ∨ s = [116, 101, 120, 116] ∨ s = [110, 117, 109, 98, 101, 114] then (1, 1, true) else
  if s = [105, 102] then (3, 3, true) else (0, 0, false)
attribute [local irreducible] wpA opsA drJ drQ drE Ef Ev Shift Fn
theorem letter_fn {H : Hp} {b : Int} : FnP Tryz.prog 124 [.int .u8 b] H (.bool (decide (ltr b))) := by
  refine Fn_of _ _ Tryz.func124 rfl Tryz.ntmps124 rfl fun c => ?_
  repeat' (first | refine O_nil ?_ | refine A_seq ?_ | refine A_region ?_ | refine A_ret ?_ | (show opsA _ _ _ _ _ _ _; first | (refine O_split rfl rfl (fun h => ?_) (fun h => ?_) <;> try (exfalso; omega)) | refine O_ev WideF.wide rfl (Ev_pure rfl) rfl rfl ?_ | refine O_skip WideF.wide rfl rfl rfl ?_))
  all_goals first
    | (exfalso; omega)
    | ((refine End_p (Ret1 rfl rfl) ?_); refine congrArg Value.bool ?_; unfold ltr; grind)
    | trace_state
theorem digit_fn {H : Hp} {b : Int} : FnP Tryz.prog 59 [.int .u8 b] H (.bool (decide (dgt b))) := by
  refine Fn_of _ _ Tryz.func59 rfl Tryz.ntmps59 rfl fun c => ?_
  repeat' (first | refine O_nil ?_ | refine A_seq ?_ | refine A_region ?_ | refine A_ret ?_ | (show opsA _ _ _ _ _ _ _; first | (refine O_split rfl rfl (fun h => ?_) (fun h => ?_) <;> try (exfalso; omega)) | refine O_ev WideF.wide rfl (Ev_pure rfl) rfl rfl ?_ | refine O_skip WideF.wide rfl rfl rfl ?_))
  all_goals first
    | (exfalso; omega)
    | ((refine End_p (Ret1 rfl rfl) ?_); refine congrArg Value.bool ?_; unfold dgt; grind)
    | trace_state
theorem function_fn {H : Hp} {s : List UInt8} : FnP Tryz.prog 78 [sv s] H (.tuple [.int .i64 (fnc s).1, .int .i64 (fnc s).2.1, .bool (fnc s).2.2].toArray) := by
  refine Fn_of _ _ Tryz.func78 rfl Tryz.ntmps78 rfl fun c => ?_
  repeat' (first | refine O_nil ?_ | refine A_seq ?_ | refine A_region ?_ | refine A_skip ?_ | refine A_ret ?_ | refine A_block ?_ | (show opsA _ _ _ _ _ _ _; first | refine O_ev WideF.wide rfl (Ev_pure rfl) rfl rfl ?_ | (show opsA _ _ _ _ (⟨_, .binOp _ _ _ _ _, _, _, _, _⟩ :: _) _ _; refine O_ev WideF.wide rfl (Ev_seql rfl rfl) rfl rfl ?_)) | (show wpA _ _ _ (.cond _ _ _) _ _ _ _; (refine A_if rfl (fun h => ?_) (fun h => ?_) <;> try (exfalso; omega))))
  all_goals first
    | (exfalso; omega)
    | (exfalso; contradiction)
    | ((refine End_p (Ret3 rfl rfl rfl rfl) ?_); simp [fnc, *]; done)
    | (exfalso; simp_all; done)
    | trace_state
set_option maxRecDepth 100000 in
set_option maxHeartbeats 4000000 in
theorem lcontrol_fn {H : Hp} {l : List UInt8} (hl : l.length < 4611686018427387904) : FnP Tryz.prog 75 [sv l] H (.bool (decide (ctl l))) := by
  refine Fn_of _ _ Tryz.func75 rfl Tryz.ntmps75 rfl fun c => ?_
  repeat' (first | refine O_nil ?_ | refine A_seq ?_ | refine A_region ?_ | refine A_block ?_ | (show opsA _ _ _ _ _ _ _; refine O_ev WideF.wide rfl (Ev_pure rfl) rfl rfl ?_))
  refine A_loopu (fun q s => ∃ i : Nat, q = l.length - i ∧ i ≤ l.length ∧ (∀ j : Nat, j < i → ¬ (bat l j < 32 ∨ bat l j = 127)) ∧ s = ⟨20, [(0, sv l), (3, .int .i64 i)], H, [], [], []⟩) ?_ ?_
  · exact Shift.to ⟨_, 0, rfl, by omega, fun j hj => absurd hj (by omega), rfl⟩ ⟨rfl, rfl, rfl, ⟨rfl, rfl, trivial⟩, Own.sub_nil _⟩
  rintro q s ⟨i, rfl, hi, hall, rfl⟩
  by_cases hlt : i < l.length
  · repeat' (first | refine O_nil ?_ | refine A_seq ?_ | refine A_region ?_ | refine A_skip ?_ | refine A_ret ?_ | refine A_block ?_ | (show opsA _ _ _ _ _ _ _; first | (refine O_split rfl rfl (fun h => ?_) (fun h => ?_) <;> try (exfalso; omega)) | refine O_ev WideF.wide rfl (Ev_pure rfl) rfl rfl ?_ | (show opsA _ _ _ _ (⟨_, .call _, _, _, _, _⟩ :: _) _ _; refine O_ev WideF.wide rfl (Ev_slen rfl) rfl rfl ?_) | (show opsA _ _ _ _ (⟨_, .binOp _ _ _ _ _, _, _, _, _⟩ :: _) _ _; refine O_ev WideF.wide rfl (Ev_add rfl rfl (wi64 (by omega))) rfl rfl ?_) | (show opsA _ _ _ _ (⟨_, .index _ _ _, _, _, _, _⟩ :: _) _ _; refine O_ev WideF.wide rfl (Ev_sindex rfl rfl (by omega) (by omega)) rfl rfl ?_) | refine O_skip WideF.wide rfl rfl rfl ?_) | (show wpA _ _ _ (.cond _ _ _) _ _ _ _; first | (refine A_if rfl (fun h => ?_) (fun h => ?_) <;> try (exfalso; omega)) | refine A_iftrue rfl ?_))
    all_goals first
      | (exfalso; omega)
      | exact Shift.to ⟨_, by omega, i + 1, rfl, by omega, fun j hj => (if h9 : j = i then (by subst h9; omega) else hall j (by omega)), rfl⟩ ⟨rfl, rfl, rfl, ⟨rfl, rfl, trivial⟩, Own.sub_nil _⟩
      | ((refine End_p (Ret1 rfl rfl) ?_); refine congrArg Value.bool ?_; exact (decide_eq_true ⟨i, hlt, by omega⟩).symm)
      | trace_state
  · obtain rfl : l.length = i := by omega
    repeat' (first | refine O_nil ?_ | refine A_seq ?_ | refine A_region ?_ | refine A_ret ?_ | (show opsA _ _ _ _ _ _ _; first | refine O_ev WideF.wide rfl (Ev_pure rfl) rfl rfl ?_ | (show opsA _ _ _ _ (⟨_, .call _, _, _, _, _⟩ :: _) _ _; refine O_ev WideF.wide rfl (Ev_slen rfl) rfl rfl ?_)) | (show wpA _ _ _ (.exit _) _ _ _ _; refine A_exit rfl ?_) | (show wpA _ _ _ (.cond _ _ _) _ _ _ _; (refine A_if rfl (fun h => ?_) (fun h => ?_) <;> try (exfalso; omega))))
    all_goals first
      | (exfalso; omega)
      | ((refine End_p (Ret1 rfl rfl) ?_); refine congrArg Value.bool ?_; exact (decide_eq_false (fun ⟨j, hj, h9⟩ => hall j hj h9)).symm)
      | trace_state
set_option maxRecDepth 100000 in
set_option maxHeartbeats 4000000 in
theorem identifier_fn {H : Hp} {l : List UInt8} (hl : l.length < 4611686018427387904) : FnP Tryz.prog 71 [sv l] H (.bool (decide (idt l))) := by
  refine Fn_of _ _ Tryz.func71 rfl Tryz.ntmps71 rfl fun c => ?_
  repeat' (first | refine O_nil ?_ | refine A_seq ?_ | refine A_region ?_ | refine A_block ?_ | (show opsA _ _ _ _ _ _ _; first | refine O_ev WideF.wide rfl (Ev_pure rfl) rfl rfl ?_ | (show opsA _ _ _ _ (⟨_, .call _, _, _, _, _⟩ :: _) _ _; refine O_ev WideF.wide rfl (Ev_slen rfl) rfl rfl ?_)))
  refine A_loopu (fun q s => ∃ i : Nat, q = l.length - i ∧ i ≤ l.length ∧ (∀ j : Nat, j < i → idc l j) ∧ s = ⟨45, [(0, sv l), (6, .int .i64 l.length), (7, .int .i64 i)], H, [], [], []⟩) ?_ ?_
  · exact Shift.to ⟨_, 0, rfl, by omega, fun j hj => absurd hj (by omega), rfl⟩ ⟨rfl, rfl, rfl, ⟨rfl, rfl, rfl, trivial⟩, Own.sub_nil _⟩
  rintro q s ⟨i, rfl, hi, hall, rfl⟩
  have hio := ior_ltr l i
  by_cases hlt : i < l.length
  · repeat' (first | refine O_nil ?_ | refine A_seq ?_ | refine A_region ?_ | refine A_skip ?_ | refine A_ret ?_ | refine A_block ?_ | (show opsA _ _ _ _ _ _ _; first | (refine O_split rfl rfl (fun h => ?_) (fun h => ?_) <;> try (exfalso; omega)) | refine O_ev WideF.wide rfl (Ev_pure rfl) rfl rfl ?_ | (show opsA _ _ _ _ (⟨_, .binOp _ _ _ _ _, _, _, _, _⟩ :: _) _ _; first | refine O_ev WideF.wide rfl (Ev_add rfl rfl (wi64 (by omega))) rfl rfl ?_ | refine O_ev WideF.wide rfl (Ev_or rfl rfl) rfl rfl ?_) | (show opsA _ _ _ _ (⟨_, .index _ _ _, _, _, _, _⟩ :: _) _ _; refine O_ev WideF.wide rfl (Ev_sindex rfl rfl (by omega) (by omega)) rfl rfl ?_) | refine O_skip WideF.wide rfl rfl rfl ?_) | (show wpA _ _ _ (.cond _ _ _) _ _ _ _; first | (refine A_if rfl (fun h => ?_) (fun h => ?_) <;> try (exfalso; omega)) | refine A_iftrue rfl ?_ | refine A_iffalse rfl ?_))
    all_goals first
      | (exfalso; omega)
      | exact Shift.to ⟨_, by omega, i + 1, rfl, by omega, fun j hj => (if h9 : j = i then (by subst h9; unfold idc ltr dgt; omega) else hall j (by omega)), rfl⟩ ⟨rfl, rfl, rfl, ⟨rfl, rfl, rfl, trivial⟩, Own.sub_nil _⟩
      | ((refine End_p (Ret1 rfl rfl) ?_); refine congrArg Value.bool ?_; exact (decide_eq_false (fun h9 => absurd (h9.2 i hlt) (by unfold idc ltr dgt; omega))).symm)
      | trace_state
  · obtain rfl : l.length = i := by omega
    have he : idt l ↔ l ≠ [] := ⟨fun h => h.1, fun h => ⟨h, hall⟩⟩
    repeat' (first | refine O_nil ?_ | refine A_seq ?_ | refine A_region ?_ | refine A_ret ?_ | (show opsA _ _ _ _ _ _ _; first | refine O_ev WideF.wide rfl (Ev_pure rfl) rfl rfl ?_ | (show opsA _ _ _ _ (⟨_, .binOp _ _ _ _ _, _, _, _, _⟩ :: _) _ _; refine O_ev WideF.wide rfl (Ev_sneq rfl rfl) rfl rfl ?_)) | (show wpA _ _ _ (.exit _) _ _ _ _; refine A_exit rfl ?_) | (show wpA _ _ _ (.cond _ _ _) _ _ _ _; (refine A_if rfl (fun h => ?_) (fun h => ?_) <;> try (exfalso; omega))))
    all_goals first
      | (exfalso; omega)
      | ((refine End_p (Ret1 rfl rfl) ?_); refine congrArg Value.bool ?_; simp [he]; done)
      | trace_state
set_option maxRecDepth 100000 in
set_option maxHeartbeats 4000000 in
theorem lidentifier_fn {H : Hp} {l : List UInt8} (hl : l.length < 4611686018427387904) : FnP Tryz.prog 76 [sv l] H (.bool (decide (idt l ∧ l.length ≤ 40))) := by
  refine Fn_of _ _ Tryz.func76 rfl Tryz.ntmps76 rfl fun c => ?_
  repeat' (first | refine O_nil ?_ | refine A_seq ?_ | refine A_region ?_ | refine A_block ?_ | (show opsA _ _ _ _ _ _ _; refine O_ev WideF.wide rfl (Ev_pure rfl) rfl rfl ?_))
  refine A_loopu (fun q s => ∃ i : Nat, q = l.length - i ∧ i ≤ l.length ∧ (∀ j : Nat, j < i → idc l j) ∧ s = ⟨40, [(0, sv l), (3, .int .i64 i)], H, [], [], []⟩) ?_ ?_
  · exact Shift.to ⟨_, 0, rfl, by omega, fun j hj => absurd hj (by omega), rfl⟩ ⟨rfl, rfl, rfl, ⟨rfl, rfl, trivial⟩, Own.sub_nil _⟩
  rintro q s ⟨i, rfl, hi, hall, rfl⟩
  by_cases hlt : i < l.length
  · by_cases h1 : ltr (bat l i) <;> by_cases h2 : dgt (bat l i)
    all_goals
      have k1 := letter_fn (H := H) (b := bat l i)
      have k2 := digit_fn (H := H) (b := bat l i)
      simp only [h1, h2, decide_true, decide_false] at k1 k2
      repeat' (first | (refine O_ef rfl (Ef_callp WideF.wide (k1) ⟨rfl, trivial⟩ rfl ?_)) | (refine O_ef rfl (Ef_callp WideF.wide (k2) ⟨rfl, trivial⟩ rfl ?_)) | refine O_nil ?_ | refine A_seq ?_ | refine A_region ?_ | refine A_skip ?_ | refine A_ret ?_ | refine A_block ?_ | (show opsA _ _ _ _ _ _ _; first | (refine O_split rfl rfl (fun h => ?_) (fun h => ?_) <;> try (exfalso; omega)) | refine O_ev WideF.wide rfl (Ev_pure rfl) rfl rfl ?_ | (show opsA _ _ _ _ (⟨_, .call _, _, _, _, _⟩ :: _) _ _; refine O_ev WideF.wide rfl (Ev_slen rfl) rfl rfl ?_) | (show opsA _ _ _ _ (⟨_, .binOp _ _ _ _ _, _, _, _, _⟩ :: _) _ _; refine O_ev WideF.wide rfl (Ev_add rfl rfl (wi64 (by omega))) rfl rfl ?_) | (show opsA _ _ _ _ (⟨_, .index _ _ _, _, _, _, _⟩ :: _) _ _; refine O_ev WideF.wide rfl (Ev_sindex rfl rfl (by omega) (by omega)) rfl rfl ?_) | (show opsA _ _ _ _ (⟨_, .unOp _ _ _, _, _, _, _⟩ :: _) _ _; refine O_ev WideF.wide rfl (Ev_notb rfl) rfl rfl ?_) | refine O_skip WideF.wide rfl rfl rfl ?_) | (show wpA _ _ _ (.cond _ _ _) _ _ _ _; first | (refine A_if rfl (fun h => ?_) (fun h => ?_) <;> try (exfalso; omega)) | refine A_iftrue rfl ?_ | refine A_iffalse rfl ?_))
      all_goals first
        | (exfalso; omega)
        | exact Shift.to ⟨_, by omega, i + 1, rfl, by omega, fun j hj => (if h9 : j = i then (by subst h9; unfold idc; simp only [h1, h2, true_or, false_or, true_and, and_true, or_true]; omega) else hall j (by omega)), rfl⟩ ⟨rfl, rfl, rfl, ⟨rfl, rfl, trivial⟩, Own.sub_nil _⟩
        | exact Shift.to ⟨_, by omega, i + 1, rfl, by omega, fun j hj => (if h9 : j = i then (by subst h9; exact .inl h1) else hall j (by omega)), rfl⟩ ⟨rfl, rfl, rfl, ⟨rfl, rfl, trivial⟩, Own.sub_nil _⟩
        | ((refine End_p (Ret1 rfl rfl) ?_); refine congrArg Value.bool ?_; exact (decide_eq_false (fun h9 => absurd (h9.1.2 i hlt) (by unfold idc; simp only [h1, h2, false_or]; omega))).symm)
        | trace_state
  · obtain rfl : l.length = i := by omega
    have he : idt l ↔ 1 ≤ (l.length : Int) := by
      constructor
      · intro h; have : l.length ≠ 0 := fun h0 => h.1 (List.length_eq_zero_iff.1 h0); omega
      · intro h; exact ⟨fun h0 => by subst h0; simp at h, hall⟩
    repeat' (first | refine O_nil ?_ | refine A_seq ?_ | refine A_region ?_ | refine A_ret ?_ | (show opsA _ _ _ _ _ _ _; first | (refine O_split rfl rfl (fun h => ?_) (fun h => ?_) <;> try (exfalso; omega)) | refine O_ev WideF.wide rfl (Ev_pure rfl) rfl rfl ?_ | (show opsA _ _ _ _ (⟨_, .call _, _, _, _, _⟩ :: _) _ _; refine O_ev WideF.wide rfl (Ev_slen rfl) rfl rfl ?_) | refine O_skip WideF.wide rfl rfl rfl ?_) | (show wpA _ _ _ (.exit _) _ _ _ _; refine A_exit rfl ?_) | (show wpA _ _ _ (.cond _ _ _) _ _ _ _; (refine A_if rfl (fun h => ?_) (fun h => ?_) <;> try (exfalso; omega))))
    all_goals first
      | (exfalso; omega)
      | ((refine End_p (Ret1 rfl rfl) ?_); refine congrArg Value.bool ?_; simp only [he]; grind)
      | trace_state

end Go.Proofs.YtnoadopmeoohmaaGreatDoor
