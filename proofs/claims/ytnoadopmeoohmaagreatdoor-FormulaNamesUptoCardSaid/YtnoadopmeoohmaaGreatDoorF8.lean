/-
  strings.ContainsFunc; the program's control; spaces, digits, letters of the scanner. Printed by genF8.py.
-/
import Derived.Test.YtnoadopmeoohmaaGreatDoorF6
import Derived.Test.YtnoadopmeoohmaaGreatDoorF7
namespace Go.Proofs.YtnoadopmeoohmaaGreatDoor
open Go
set_option linter.unusedVariables false
set_option linter.unusedSimpArgs false
attribute [local irreducible] wpA opsA drJ drQ drE Ef Ev Shift Fn
theorem get_byte (l : List UInt8) (i : Nat) (h : i < l.length) : ∃ c : UInt8, l[i]? = some c ∧ bat l i = ((c.toNat : Nat) : Int) ∧ l.drop i = c :: l.drop (i + 1) := by
  refine ⟨l[i], by simp [h], by simp [bat, h], List.drop_eq_getElem_cons h⟩
set_option maxRecDepth 100000 in
set_option maxHeartbeats 4000000 in
theorem indexFunc_fn {f : FuncId} [FunC Tryz.prog f] {pr : Int → Bool} (hf : ∀ (H : Hp) (r : Int), FnP Tryz.prog f [.int .i32 r] H (.bool (pr r))) (hc : ∀ r : Int, 128 ≤ r → pr r = pr 128) {H : Hp} {l : List UInt8} (hl : l.length < 4611686018427387904) :
    Fn Tryz.prog 180 [sv l, .func (.func f) #[] #[], .bool true] H [] fun v H' I => (∃ k : Int, v = .int .i64 k ∧ (0 ≤ k ↔ ∃ j : Nat, j < l.length ∧ pr (bat l j) = true)) ∧ H' = H ∧ I = [] := by
  refine Fn_of _ _ Tryz.func180 rfl Tryz.ntmps180 rfl fun c => ?_
  repeat' (first | (refine O_ef rfl (Ef_rangeS WideF.wide rfl rfl ?_); intro r) | refine O_nil ?_ | refine A_seq ?_ | refine A_region ?_ | refine A_block ?_ | (show opsA _ _ _ _ _ _ _; refine O_ev WideF.wide rfl (Ev_pure rfl) rfl rfl ?_))
  refine A_loopu (fun q s => ∃ p : Nat, q = l.length - p ∧ (∀ j : Nat, j < p → j < l.length → pr (bat l j) = false) ∧ s = ⟨21, [(0, sv l), (1, .func (.func f) #[] #[]), (2, .bool true), (10, .pointer (some ⟨r, 0, none⟩))], H, [.obj r (sit l p)], [], []⟩) ?_ ?_
  · exact Shift.to ⟨_, 0, rfl, fun j hj => absurd hj (by omega), rfl⟩ ⟨rfl, rfl, rfl, ⟨rfl, rfl, rfl, rfl, trivial⟩, Own.subi [0] (by decide) rfl rfl⟩
  rintro q s ⟨p, rfl, hall, rfl⟩
  by_cases hlt : p < l.length
  · have hcall := hf H (((rdec l p).1 : Nat) : Int)
    have hw : 1 ≤ (rdec l p).2 ∧ pr (((rdec l p).1 : Nat) : Int) = pr (bat l p) ∧ ∀ j : Nat, p ≤ j → j < p + (rdec l p).2 → j < l.length → pr (bat l j) = pr (bat l p) := by
      by_cases hb : bat l p < 128
      · have h1 := rdec_low hb
        refine ⟨by omega, by rw [h1.1], fun j h2 h3 _ => ?_⟩
        obtain rfl : j = p := by omega
        rfl
      · have h1 := rdec_high (l := l) (i := p) (by omega)
        refine ⟨h1.2.1, (hc _ (by omega)).trans (hc _ (by omega)).symm, fun j h2 h3 _ => ?_⟩
        have h4 := (h1.2.2 (j - p) (by omega)).1
        rw [show p + (j - p) = j by omega] at h4
        exact (hc _ h4).trans (hc _ (by omega)).symm
    obtain ⟨hw1, hw2, hw3⟩ := hw
    cases hb : pr (((rdec l p).1 : Nat) : Int) <;> rw [hb] at hcall
    · repeat' (first | (refine O_ef rfl (Ef_nextS WideF.wide rfl rfl hlt ?_)) | (refine O_ef rfl (Ef_callvp WideF.wide hcall rfl ⟨rfl, trivial⟩ rfl ?_)) | (refine O_ev WideF.wide rfl (Ev_eqb rfl rfl) rfl rfl ?_) | refine O_nil ?_ | refine A_seq ?_ | refine A_region ?_ | refine A_skip ?_ | refine A_ret ?_ | refine A_block ?_ | (show opsA _ _ _ _ _ _ _; refine O_ev WideF.wide rfl (Ev_pure rfl) rfl rfl ?_) | (show wpA _ _ _ (.cond _ _ _) _ _ _ _; first | (refine A_if rfl (fun h => ?_) (fun h => ?_) <;> try (exfalso; omega)) | refine A_iftrue rfl ?_))
      all_goals first
        | exact Shift.to ⟨_, by omega, p + (rdec l p).2, rfl, fun j hj hjl => (if h9 : j < p then hall j h9 hjl else (hw3 j (by omega) hj hjl).trans (hw2.symm.trans hb)), rfl⟩ ⟨rfl, rfl, rfl, ⟨rfl, rfl, rfl, rfl, trivial⟩, Own.subi [0] (by decide) rfl rfl⟩
        | (exfalso; contradiction)
        | (exfalso; exact absurd rfl (by assumption))
        | trace_state
    · repeat' (first | (refine O_ef rfl (Ef_nextS WideF.wide rfl rfl hlt ?_)) | (refine O_ef rfl (Ef_callvp WideF.wide hcall rfl ⟨rfl, trivial⟩ rfl ?_)) | (refine O_ev WideF.wide rfl (Ev_eqb rfl rfl) rfl rfl ?_) | refine O_nil ?_ | refine A_seq ?_ | refine A_region ?_ | refine A_skip ?_ | refine A_ret ?_ | refine A_block ?_ | (show opsA _ _ _ _ _ _ _; refine O_ev WideF.wide rfl (Ev_pure rfl) rfl rfl ?_) | (show wpA _ _ _ (.cond _ _ _) _ _ _ _; first | (refine A_if rfl (fun h => ?_) (fun h => ?_) <;> try (exfalso; omega)) | refine A_iftrue rfl ?_))
      all_goals first
        | exact End_e (Ret1 rfl rfl) ⟨⟨_, rfl, fun _ => ⟨p, hlt, hw2.symm.trans hb⟩, fun _ => by omega⟩, rfl, rfl⟩
        | (exfalso; contradiction)
        | (exfalso; exact absurd rfl (by assumption))
        | trace_state
  · repeat' (first | (refine O_ef rfl (Ef_nextS0 WideF.wide rfl rfl hlt ?_)) | refine O_nil ?_ | refine A_seq ?_ | refine A_region ?_ | refine A_ret ?_ | (show opsA _ _ _ _ _ _ _; refine O_ev WideF.wide rfl (Ev_pure rfl) rfl rfl ?_) | (show wpA _ _ _ (.exit _) _ _ _ _; refine A_exit rfl ?_) | (show wpA _ _ _ (.cond _ _ _) _ _ _ _; refine A_iffalse rfl ?_))
    all_goals first
      | exact End_e (Ret1 rfl rfl) ⟨⟨_, rfl, fun h9 => absurd h9 (by omega), fun ⟨j, h1, h2⟩ => absurd h2 (by rw [hall j (by omega) h1]; decide)⟩, rfl, rfl⟩
      | trace_state
theorem IndexFunc_fn {f : FuncId} [FunC Tryz.prog f] {pr : Int → Bool} (hf : ∀ (H : Hp) (r : Int), FnP Tryz.prog f [.int .i32 r] H (.bool (pr r))) (hc : ∀ r : Int, 128 ≤ r → pr r = pr 128) {H : Hp} {l : List UInt8} (hl : l.length < 4611686018427387904) :
    Fn Tryz.prog 148 [sv l, .func (.func f) #[] #[]] H [] fun v H' I => (∃ k : Int, v = .int .i64 k ∧ (0 ≤ k ↔ ∃ j : Nat, j < l.length ∧ pr (bat l j) = true)) ∧ H' = H ∧ I = [] := by
  have hcall := indexFunc_fn hf hc (H := H) hl
  refine Fn_of _ _ Tryz.func148 rfl Tryz.ntmps148 rfl fun c => ?_
  repeat' (first | (refine O_ef rfl (Ef_call0 WideF.wide hcall ⟨rfl, rfl, rfl, trivial⟩ rfl ?_); rintro v H2 I2 hle2 ⟨⟨k, rfl, hk⟩, rfl, rfl⟩) | refine O_nil ?_ | refine A_seq ?_ | refine A_region ?_ | refine A_ret ?_ | (show opsA _ _ _ _ _ _ _; refine O_ev WideF.wide rfl (Ev_pure rfl) rfl rfl ?_))
  exact End_e (Ret1 rfl rfl) ⟨⟨_, rfl, hk⟩, rfl, rfl⟩
theorem ContainsFunc_fn {f : FuncId} [FunC Tryz.prog f] {pr : Int → Bool} (hf : ∀ (H : Hp) (r : Int), FnP Tryz.prog f [.int .i32 r] H (.bool (pr r))) (hc : ∀ r : Int, 128 ≤ r → pr r = pr 128) {H : Hp} {l : List UInt8} (hl : l.length < 4611686018427387904) :
    FnP Tryz.prog 112 [sv l, .func (.func f) #[] #[]] H (.bool (decide (∃ j : Nat, j < l.length ∧ pr (bat l j) = true))) := by
  have hcall := IndexFunc_fn hf hc (H := H) hl
  refine Fn_of _ _ Tryz.func112 rfl Tryz.ntmps112 rfl fun c => ?_
  repeat' (first | (refine O_ef rfl (Ef_call0 WideF.wide hcall ⟨rfl, rfl, trivial⟩ rfl ?_); rintro v H2 I2 hle2 ⟨⟨k, rfl, hk⟩, rfl, rfl⟩) | refine O_nil ?_ | refine A_seq ?_ | refine A_region ?_ | refine A_ret ?_ | (show opsA _ _ _ _ _ _ _; refine O_ev WideF.wide rfl (Ev_pure rfl) rfl rfl ?_))
  refine End_p (Ret1 rfl rfl) (congrArg Value.bool ?_)
  simp only [hk]
theorem control1_fn {H : Hp} {r : Int} : FnP Tryz.prog 113 [.int .i32 r] H (.bool (decide (r < 32 ∨ r = 127))) := by
  refine Fn_of _ _ Tryz.func113 rfl Tryz.ntmps113 rfl fun c => ?_
  repeat' (first | refine O_nil ?_ | refine A_seq ?_ | refine A_region ?_ | refine A_ret ?_ | (show opsA _ _ _ _ _ _ _; first | (refine O_split rfl rfl (fun h => ?_) (fun h => ?_) <;> try (exfalso; omega)) | refine O_ev WideF.wide rfl (Ev_pure rfl) rfl rfl ?_ | refine O_skip WideF.wide rfl rfl rfl ?_))
  all_goals first
    | (exfalso; omega)
    | ((refine End_p (Ret1 rfl rfl) ?_); refine congrArg Value.bool ?_; grind)
    | trace_state
theorem control_fn {H : Hp} {l : List UInt8} (hl : l.length < 4611686018427387904) : FnP Tryz.prog 70 [sv l] H (.bool (decide (ctl l))) := by
  have hcall := ContainsFunc_fn (f := 113) (pr := fun r => decide (r < 32 ∨ r = 127)) (fun H r => control1_fn) (fun r h => decide_eq_decide.2 (by omega)) (H := H) hl
  simp only [decide_eq_true_eq] at hcall
  refine Fn_of _ _ Tryz.func70 rfl Tryz.ntmps70 rfl fun c => ?_
  repeat' (first | (refine O_ef rfl (Ef_callp WideF.wide (hcall) ⟨rfl, rfl, trivial⟩ rfl ?_)) | refine O_nil ?_ | refine A_seq ?_ | refine A_region ?_ | refine A_ret ?_ | (show opsA _ _ _ _ _ _ _; refine O_ev WideF.wide rfl (Ev_pure rfl) rfl rfl ?_))
  exact End_p (Ret1 rfl rfl) rfl
theorem digits1_fn {H : Hp} {r : Int} : FnP Tryz.prog 142 [.int .i32 r] H (.bool (decide (r < 48 ∨ 57 < r))) := by
  refine Fn_of _ _ Tryz.func142 rfl Tryz.ntmps142 rfl fun c => ?_
  repeat' (first | refine O_nil ?_ | refine A_seq ?_ | refine A_region ?_ | refine A_ret ?_ | (show opsA _ _ _ _ _ _ _; first | (refine O_split rfl rfl (fun h => ?_) (fun h => ?_) <;> try (exfalso; omega)) | refine O_ev WideF.wide rfl (Ev_pure rfl) rfl rfl ?_ | refine O_skip WideF.wide rfl rfl rfl ?_))
  all_goals first
    | (exfalso; omega)
    | ((refine End_p (Ret1 rfl rfl) ?_); refine congrArg Value.bool ?_; grind)
    | trace_state
theorem space_fn {H : Hp} {b : Int} : FnP Tryz.prog 126 [.int .u8 b] H (.bool (decide (b = 32 ∨ b = 9))) := by
  refine Fn_of _ _ Tryz.func126 rfl Tryz.ntmps126 rfl fun c => ?_
  repeat' (first | refine O_nil ?_ | refine A_seq ?_ | refine A_region ?_ | refine A_ret ?_ | (show opsA _ _ _ _ _ _ _; first | (refine O_split rfl rfl (fun h => ?_) (fun h => ?_) <;> try (exfalso; omega)) | refine O_ev WideF.wide rfl (Ev_pure rfl) rfl rfl ?_ | refine O_skip WideF.wide rfl rfl rfl ?_))
  all_goals first
    | (exfalso; omega)
    | ((refine End_p (Ret1 rfl rfl) ?_); refine congrArg Value.bool ?_; grind)
    | trace_state
theorem scan2_fn {H : Hp} {b : Int} : FnP Tryz.prog 128 [.int .u8 b] H (.bool (decide (dgt b))) := by
  refine Fn_of _ _ Tryz.func128 rfl Tryz.ntmps128 rfl fun c => ?_
  repeat' (first | refine O_nil ?_ | refine A_seq ?_ | refine A_region ?_ | refine A_ret ?_ | (show opsA _ _ _ _ _ _ _; first | (refine O_split rfl rfl (fun h => ?_) (fun h => ?_) <;> try (exfalso; omega)) | refine O_ev WideF.wide rfl (Ev_pure rfl) rfl rfl ?_ | refine O_skip WideF.wide rfl rfl rfl ?_))
  all_goals first
    | (exfalso; omega)
    | ((refine End_p (Ret1 rfl rfl) ?_); refine congrArg Value.bool ?_; unfold dgt; grind)
    | trace_state
theorem isDg_eq (c : UInt8) : isDg c = decide (dgt ((c.toNat : Nat) : Int)) := by
  rw [Bool.eq_iff_iff, decide_eq_true_eq]
  unfold isDg dgt
  simp only [Bool.and_eq_true, Nat.ble_eq]
  omega
theorem isLt_eq (c : UInt8) : isLt c = decide (ltr ((c.toNat : Nat) : Int)) := by
  rw [Bool.eq_iff_iff, decide_eq_true_eq]
  unfold isLt ltr
  simp only [Bool.and_eq_true, Bool.or_eq_true, Nat.ble_eq]
  omega
theorem byte_eq (c : UInt8) (n : Nat) (hn : n < 256) : c = UInt8.ofNat n ↔ c.toNat = n := by
  constructor
  · rintro rfl; simp; omega
  · intro h; rw [← h]; simp
theorem isSp_eq (c : UInt8) : isSp c = decide (((c.toNat : Nat) : Int) = 32 ∨ ((c.toNat : Nat) : Int) = 9) := by
  unfold isSp
  have h1 := byte_eq c 32 (by decide)
  have h2 := byte_eq c 9 (by decide)
  rw [Bool.eq_iff_iff]
  simp only [Bool.or_eq_true, beq_iff_eq, decide_eq_true_eq]
  rw [show (32 : UInt8) = UInt8.ofNat 32 from rfl, show (9 : UInt8) = UInt8.ofNat 9 from rfl, h1, h2]
  omega
theorem isWd_eq (c : UInt8) : isWd c = decide (ltr ((c.toNat : Nat) : Int) ∨ dgt ((c.toNat : Nat) : Int) ∨ ((c.toNat : Nat) : Int) = 95) := by
  unfold isWd
  have h1 := byte_eq c 95 (by decide)
  rw [isLt_eq, isDg_eq, Bool.eq_iff_iff]
  simp only [Bool.or_eq_true, beq_iff_eq, decide_eq_true_eq]
  rw [show (95 : UInt8) = UInt8.ofNat 95 from rfl, h1, or_assoc]
  refine or_congr Iff.rfl (or_congr Iff.rfl ?_)
  omega
theorem idt_one (c : UInt8) : idt [c] ↔ ltr ((c.toNat : Nat) : Int) := by
  unfold idt idc
  constructor
  · intro ⟨_, h⟩
    have := h 0 (by simp)
    simpa [bat] using this
  · intro h
    refine ⟨by simp, fun i hi => ?_⟩
    simp at hi
    subst hi
    left
    simpa [bat] using h
theorem idt_two (c : UInt8) : idt [97, c] ↔ (ltr ((c.toNat : Nat) : Int) ∨ dgt ((c.toNat : Nat) : Int) ∨ ((c.toNat : Nat) : Int) = 95) := by
  unfold idt idc
  constructor
  · intro ⟨_, h⟩
    have := h 1 (by simp)
    simpa [bat] using this
  · intro h
    refine ⟨by simp, fun i hi => ?_⟩
    have : i = 0 ∨ i = 1 := by simp at hi; omega
    rcases this with rfl | rfl
    · left; simp [bat, ltr]
    · simpa [bat] using h

end Go.Proofs.YtnoadopmeoohmaaGreatDoor
