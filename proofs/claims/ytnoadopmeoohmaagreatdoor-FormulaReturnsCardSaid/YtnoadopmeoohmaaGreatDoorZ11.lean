import Derived.Test.YtnoadopmeoohmaaGreatDoorZ09
import Derived.Test.YtnoadopmeoohmaaGreatDoorZ10
import Derived.Test.YtnoadopmeoohmaaGreatDoorZ08
/-
  digits, toNumber, Show, Read, Clone, FormatBool. Printed by genF12.py.
-/
namespace Go.Proofs.YtnoadopmeoohmaaGreatDoor
open Go
set_option linter.unusedVariables false
set_option linter.unusedSimpArgs false
attribute [local irreducible] wpA opsA drJ drQ drE Ef Ev Shift Fn
theorem dval_ge : ∀ (l : List UInt8) (n : Nat), n ≤ dval l n
  | [], n => Nat.le_refl n
  | c :: l, n => by
    have := dval_ge l (n * 10 + (c.toNat - 48))
    simp only [dval]
    omega
theorem isDg_bounds {c : UInt8} (h : isDg c = true) : 48 ≤ c.toNat ∧ c.toNat ≤ 57 := by
  unfold isDg at h
  simpa only [Bool.and_eq_true, Nat.ble_eq] using h
theorem parse10_ok : ∀ (l : List UInt8) (n : Nat), (∀ b ∈ l, isDg b = true) → dval l n < 18446744073709551616 → Lib.parseUint10 n l = .ok (dval l n)
  | [], n, _, _ => rfl
  | c :: l, n, h, hd => by
    have hc := isDg_bounds (h c (by simp))
    have hg := dval_ge l (n * 10 + (c.toNat - 48))
    have hd' : dval l (n * 10 + (c.toNat - 48)) < 18446744073709551616 := hd
    unfold Lib.parseUint10
    rw [if_pos hc, if_neg (by omega), if_neg (by omega)]
    exact parse10_ok l _ (fun b hb => h b (by simp [hb])) hd'
theorem parse10_big : ∀ (l : List UInt8) (n : Nat), (∀ b ∈ l, isDg b = true) → n < 18446744073709551616 → 18446744073709551616 ≤ dval l n → Lib.parseUint10 n l = .range
  | [], n, _, hn, hd => by
    have hd' : 18446744073709551616 ≤ n := hd
    omega
  | c :: l, n, h, hn, hd => by
    have hc := isDg_bounds (h c (by simp))
    have hd' : 18446744073709551616 ≤ dval l (n * 10 + (c.toNat - 48)) := hd
    unfold Lib.parseUint10
    rw [if_pos hc]
    by_cases h1 : 1844674407370955162 ≤ n
    · rw [if_pos h1]
    · rw [if_neg h1]
      by_cases h2 : 18446744073709551616 ≤ n * 10 + (c.toNat - 48)
      · rw [if_pos h2]
      · rw [if_neg h2]
        exact parse10_big l _ (fun b hb => h b (by simp [hb])) (by omega) hd'
theorem atoi_of {l : List UInt8} (h0 : l ≠ []) (h : ∀ b ∈ l, isDg b = true) : Lib.atoiAll l = match Lib.parseUint10 0 l with
    | .«syntax» => .«syntax»
    | .range => .range
    | .ok u => if 9223372036854775808 ≤ u then .range else .ok (u : Int) := by
  cases l with
  | nil => exact absurd rfl h0
  | cons c r =>
    have hc := isDg_bounds (h c (by simp))
    have h45 : ¬ c.toNat = 45 := by omega
    have h43 : ¬ c.toNat = 43 := by omega
    unfold Lib.atoiAll
    simp only [h45, h43, or_self, if_false, not_false_eq_true, true_and, false_and]
    unfold Lib.parseMag
    rw [if_neg (by simp)]
    cases Lib.parseUint10 0 (c :: r) <;> rfl
theorem atoi_ok {l : List UInt8} (h0 : l ≠ []) (h : ∀ b ∈ l, isDg b = true) (hb : dval l 0 < 9223372036854775808) : Lib.atoiAll l = .ok ((dval l 0 : Nat) : Int) := by
  rw [atoi_of h0 h, parse10_ok l 0 h (by omega)]
  dsimp only
  rw [if_neg (by omega)]
theorem atoi_big {l : List UInt8} (h0 : l ≠ []) (h : ∀ b ∈ l, isDg b = true) (hb : ¬ dval l 0 < 9223372036854775808) : Lib.atoiAll l = .range := by
  rw [atoi_of h0 h]
  by_cases h1 : dval l 0 < 18446744073709551616
  · rw [parse10_ok l 0 h h1]
    dsimp only
    rw [if_pos (by omega)]
  · rw [parse10_big l 0 h (by omega) (by omega)]
set_option maxRecDepth 100000 in
set_option maxHeartbeats 4000000 in
theorem digits_fn {H : Hp} {l : List UInt8} (hl : l.length ≤ 1000000000) (hV : VarsH H) :
    FnP Tryz.prog 105 [sv l] H (.tuple [.int .i64 (digR l).1, .int .i64 (digR l).2].toArray) := by
  have hcall := ContainsFunc_fn (f := 142) (pr := fun r => decide (r < 48 ∨ 57 < r)) (fun H r => digits1_fn) (fun r h => decide_eq_decide.2 (by omega)) (H := H) (l := l) (by omega)
  have hb : (∃ j : Nat, j < l.length ∧ decide (bat l j < 48 ∨ 57 < bat l j) = true) ↔ l.any (fun b => !isDg b) = true := by
    rw [List.any_eq_true]
    constructor
    · rintro ⟨j, hj, h⟩
      refine ⟨l[j], List.getElem_mem hj, ?_⟩
      have e : bat l j = ((l[j].toNat : Nat) : Int) := by simp [bat, hj]
      rw [e] at h
      rw [isDg_eq]
      simp only [decide_eq_true_eq] at h
      simp only [Bool.not_eq_true', decide_eq_false_iff_not]
      unfold dgt
      omega
    · rintro ⟨c, hc, h⟩
      obtain ⟨j, hj, rfl⟩ := List.getElem_of_mem hc
      refine ⟨j, hj, ?_⟩
      have e : bat l j = ((l[j].toNat : Nat) : Int) := by simp [bat, hj]
      rw [e]
      rw [isDg_eq] at h
      simp only [Bool.not_eq_true', decide_eq_false_iff_not] at h
      unfold dgt at h
      simp only [decide_eq_true_eq]
      omega
  simp only [hb] at hcall
  have hid : Tryz.prog.underlying 124 = some (.interface (Tryz.prog.methodsAt 124)) := by kernel_rfl
  by_cases h0 : l = []
  · have e1 : digR l = (0, 14) := by unfold digR; rw [if_pos (.inl h0)]
    rw [e1]
    subst h0
    refine Fn_of _ _ Tryz.func105 rfl Tryz.ntmps105 rfl fun c => ?_
    repeat' (first | (refine O_ev WideF.wide rfl (Ev_seqs rfl rfl) rfl rfl ?_) | refine O_nil ?_ | refine A_seq ?_ | refine A_region ?_ | refine A_ret ?_ | (show opsA _ _ _ _ _ _ _; first | refine O_ev WideF.wide rfl (Ev_pure rfl) rfl rfl ?_ | refine O_skip WideF.wide rfl rfl rfl ?_) | (show wpA _ _ _ (.cond _ _ _) _ _ _ _; refine A_iftrue rfl ?_))
    all_goals first
      | (exfalso; omega)
      | exact End_p (Ret2 rfl rfl rfl) rfl
      | trace_state
  have hpos : 0 < l.length := List.length_pos_iff.2 h0
  by_cases ha : l.any (fun b => !isDg b) = true
  · have e1 : digR l = (0, 14) := by unfold digR; rw [if_pos (.inr (.inl ha))]
    rw [e1]
    simp only [ha, decide_true] at hcall
    refine Fn_of _ _ Tryz.func105 rfl Tryz.ntmps105 rfl fun c => ?_
    repeat' (first | (refine O_ef rfl (Ef_callp WideF.wide (hcall) ⟨rfl, rfl, trivial⟩ rfl ?_)) | refine O_nil ?_ | refine A_seq ?_ | refine A_region ?_ | refine A_ret ?_ | (show opsA _ _ _ _ _ _ _; first | (refine O_split rfl rfl (fun h => ?_) (fun h => ?_) <;> try (exfalso; omega)) | refine O_ev WideF.wide rfl (Ev_pure rfl) rfl rfl ?_ | (show opsA _ _ _ _ (⟨_, .binOp _ _ _ _ _, _, _, _, _⟩ :: _) _ _; refine O_ev WideF.wide rfl (Ev_seql rfl rfl) rfl rfl ?_) | refine O_skip WideF.wide rfl rfl rfl ?_) | (show wpA _ _ _ (.cond _ _ _) _ _ _ _; refine A_iftrue rfl ?_))
    all_goals first
      | (exfalso; omega)
      | (exfalso; contradiction)
      | exact End_p (Ret2 rfl rfl rfl) rfl
      | trace_state
  have hall : ∀ b ∈ l, isDg b = true := fun b hb' => by
    cases hd : isDg b with
    | true => rfl
    | false => exact absurd (List.any_eq_true.2 ⟨b, hb', by rw [hd]; rfl⟩) ha
  have h48 : l.head? = some 48 ↔ bat l 0 = 48 := by
    cases l with
    | nil => exact absurd rfl h0
    | cons c r =>
      have := byte_eq c 48 (by decide)
      simp only [List.head?_cons, Option.some.injEq]
      show c = 48 ↔ ((c.toNat : Nat) : Int) = 48
      exact ⟨fun h9 => (by rw [h9]; rfl), fun h9 => this.2 (by omega)⟩
  simp only [ha, decide_false] at hcall
  by_cases hz : 1 < l.length ∧ bat l 0 = 48
  · have e1 : digR l = (0, 14) := by unfold digR; rw [if_pos (.inr (.inr ⟨hz.1, h48.2 hz.2⟩))]
    rw [e1]
    refine Fn_of _ _ Tryz.func105 rfl Tryz.ntmps105 rfl fun c => ?_
    repeat' (first | (refine O_ef rfl (Ef_callp WideF.wide (hcall) ⟨rfl, rfl, trivial⟩ rfl ?_)) | refine O_nil ?_ | refine A_seq ?_ | refine A_region ?_ | refine A_ret ?_ | (show opsA _ _ _ _ _ _ _; first | (refine O_split rfl rfl (fun h => ?_) (fun h => ?_) <;> try (exfalso; omega)) | refine O_ev WideF.wide rfl (Ev_pure rfl) rfl rfl ?_ | (show opsA _ _ _ _ (⟨_, .call _, _, _, _, _⟩ :: _) _ _; refine O_ev WideF.wide rfl (Ev_slen rfl) rfl rfl ?_) | (show opsA _ _ _ _ (⟨_, .binOp _ _ _ _ _, _, _, _, _⟩ :: _) _ _; refine O_ev WideF.wide rfl (Ev_seql rfl rfl) rfl rfl ?_) | (show opsA _ _ _ _ (⟨_, .index _ _ _, _, _, _, _⟩ :: _) _ _; refine O_ev WideF.wide rfl (Ev_sindex rfl rfl (by omega) (by omega)) rfl rfl ?_) | refine O_skip WideF.wide rfl rfl rfl ?_) | (show wpA _ _ _ (.cond _ _ _) _ _ _ _; first | (refine A_if rfl (fun h => ?_) (fun h => ?_) <;> try (exfalso; omega)) | refine A_iftrue rfl ?_))
    all_goals first
      | (exfalso; omega)
      | (exfalso; contradiction)
      | exact End_p (Ret2 rfl rfl rfl) rfl
      | trace_state
  have e1 : digR l = ((if 1099511627776 < dval l 0 then ((0 : Int), (29 : Int)) else (((dval l 0 : Nat) : Int), (0 : Int))) : Int × Int) := by
    unfold digR
    rw [if_neg (fun h => h.elim h0 fun h => h.elim ha fun h => hz ⟨h.1, h48.1 h.2⟩)]
  by_cases hbig : dval l 0 < 9223372036854775808
  · have hat := atoi_ok h0 hall hbig
    have kat := Atoi_fn (H := H) hl hV (by rw [hat]; simp)
    by_cases hm : 1099511627776 < dval l 0
    all_goals
      first | rw [if_pos hm] at e1 | rw [if_neg hm] at e1
      rw [e1]
      refine Fn_of _ _ Tryz.func105 rfl Tryz.ntmps105 rfl fun c => ?_
      repeat' (first | (refine O_ef rfl (Ef_callp WideF.wide (hcall) ⟨rfl, rfl, trivial⟩ rfl ?_)) | (refine O_ef rfl (Ef_call0 WideF.wide kat ⟨rfl, trivial⟩ rfl ?_); rintro v H3 I3 hle3 ⟨hv, rfl, rfl⟩; rw [hat] at hv; obtain ⟨k, hk, rfl⟩ : ∃ k : Int, ((dval l 0 : Nat) : Int) = k ∧ v = .tuple [.int .i64 k, .nilIface].toArray := hv.elim (fun ⟨k, h1, h2⟩ => ⟨k, (by cases h1; rfl), h2⟩) (fun h => absurd h.1 (by simp)); subst hk) | (refine O_ev WideF.wide rfl (Ev_neN hid rfl) rfl rfl ?_) | refine O_nil ?_ | refine A_seq ?_ | refine A_region ?_ | refine A_skip ?_ | refine A_ret ?_ | (show opsA _ _ _ _ _ _ _; first | (refine O_split rfl rfl (fun h => ?_) (fun h => ?_) <;> try (exfalso; omega)) | refine O_ev WideF.wide rfl (Ev_pure rfl) rfl rfl ?_ | (show opsA _ _ _ _ (⟨_, .call _, _, _, _, _⟩ :: _) _ _; refine O_ev WideF.wide rfl (Ev_slen rfl) rfl rfl ?_) | (show opsA _ _ _ _ (⟨_, .binOp _ _ _ _ _, _, _, _, _⟩ :: _) _ _; refine O_ev WideF.wide rfl (Ev_seql rfl rfl) rfl rfl ?_) | (show opsA _ _ _ _ (⟨_, .index _ _ _, _, _, _, _⟩ :: _) _ _; refine O_ev WideF.wide rfl (Ev_sindex rfl rfl (by omega) (by omega)) rfl rfl ?_) | refine O_skip WideF.wide rfl rfl rfl ?_) | (show wpA _ _ _ (.cond _ _ _) _ _ _ _; first | (refine A_if rfl (fun h => ?_) (fun h => ?_) <;> try (exfalso; omega)) | refine A_iftrue rfl ?_ | refine A_iffalse rfl ?_))
      all_goals first
        | (exfalso; omega)
        | (exfalso; contradiction)
        | exact End_p (Ret2 rfl rfl rfl) rfl
        | trace_state
  · have hat := atoi_big h0 hall hbig
    have kat := Atoi_fn (H := H) hl hV (by rw [hat]; simp)
    rw [if_pos (by omega)] at e1
    rw [e1]
    refine Fn_of _ _ Tryz.func105 rfl Tryz.ntmps105 rfl fun c => ?_
    repeat' (first | (refine O_ef rfl (Ef_callp WideF.wide (hcall) ⟨rfl, rfl, trivial⟩ rfl ?_)) | (refine O_ef rfl (Ef_call0 WideF.wide kat ⟨rfl, trivial⟩ rfl ?_); rintro v H3 I3 hle3 ⟨hv, rfl, rfl⟩; rw [hat] at hv; obtain ⟨k, te, pe, rfl⟩ : ∃ (k : Int) (te : TypeId) (pe : Value), v = .tuple [.int .i64 k, .iface te pe].toArray := hv.elim (fun ⟨k, h1, h2⟩ => absurd h1 (by simp)) (fun h => h.2)) | (refine O_ev WideF.wide rfl (Ev_neI hid rfl) rfl rfl ?_) | refine O_nil ?_ | refine A_seq ?_ | refine A_region ?_ | refine A_skip ?_ | refine A_ret ?_ | (show opsA _ _ _ _ _ _ _; first | (refine O_split rfl rfl (fun h => ?_) (fun h => ?_) <;> try (exfalso; omega)) | refine O_ev WideF.wide rfl (Ev_pure rfl) rfl rfl ?_ | (show opsA _ _ _ _ (⟨_, .call _, _, _, _, _⟩ :: _) _ _; refine O_ev WideF.wide rfl (Ev_slen rfl) rfl rfl ?_) | (show opsA _ _ _ _ (⟨_, .binOp _ _ _ _ _, _, _, _, _⟩ :: _) _ _; refine O_ev WideF.wide rfl (Ev_seql rfl rfl) rfl rfl ?_) | (show opsA _ _ _ _ (⟨_, .index _ _ _, _, _, _, _⟩ :: _) _ _; refine O_ev WideF.wide rfl (Ev_sindex rfl rfl (by omega) (by omega)) rfl rfl ?_) | refine O_skip WideF.wide rfl rfl rfl ?_) | (show wpA _ _ _ (.cond _ _ _) _ _ _ _; first | (refine A_if rfl (fun h => ?_) (fun h => ?_) <;> try (exfalso; omega)) | refine A_iftrue rfl ?_ | refine A_iffalse rfl ?_))
    all_goals first
      | (exfalso; omega)
      | (exfalso; contradiction)
      | exact End_p (Ret2 rfl rfl rfl) rfl
      | trace_state
theorem Clone_fn {H : Hp} {l : List UInt8} (hl : l.length ≤ 281474976710656) : FnP Tryz.prog 40 [sv l] H (sv l) := by
  have k := sliteClone_fn (H := H) hl
  refine Fn_of _ _ Tryz.func40 rfl Tryz.ntmps40 rfl fun c => ?_
  repeat' (first | (refine O_ef rfl (Ef_callp WideF.wide (k) ⟨rfl, trivial⟩ rfl ?_)) | refine O_nil ?_ | refine A_seq ?_ | refine A_region ?_ | refine A_ret ?_ | (show opsA _ _ _ _ _ _ _; refine O_ev WideF.wide rfl (Ev_pure rfl) rfl rfl ?_))
  exact End_p (Ret1 rfl rfl) rfl
def fbool (b : Bool) : List UInt8 := if b then [116, 114, 117, 101] else [102, 97, 108, 115, 101]
theorem fbI_true {H : Hp} : FnP Tryz.prog 108 [.bool true] H (sv (fbool true)) := by
  have k := trivial
  refine Fn_of _ _ Tryz.func108 rfl Tryz.ntmps108 rfl fun c => ?_
  repeat' (first | refine O_nil ?_ | refine A_seq ?_ | refine A_region ?_ | refine A_ret ?_ | (show opsA _ _ _ _ _ _ _; refine O_ev WideF.wide rfl (Ev_pure rfl) rfl rfl ?_) | (show wpA _ _ _ (.cond _ _ _) _ _ _ _; refine A_iftrue rfl ?_))
  all_goals first
    | (exfalso; contradiction)
    | (exfalso; exact absurd rfl (by assumption))
    | exact End_p (Ret1 rfl rfl) rfl
    | trace_state
theorem FormatBool_true {H : Hp} : FnP Tryz.prog 64 [.bool true] H (sv (fbool true)) := by
  have k := fbI_true (H := H)
  refine Fn_of _ _ Tryz.func64 rfl Tryz.ntmps64 rfl fun c => ?_
  repeat' (first | (refine O_ef rfl (Ef_callp WideF.wide (k) ⟨rfl, trivial⟩ rfl ?_)) | refine O_nil ?_ | refine A_seq ?_ | refine A_region ?_ | refine A_ret ?_ | (show opsA _ _ _ _ _ _ _; refine O_ev WideF.wide rfl (Ev_pure rfl) rfl rfl ?_))
  all_goals first
    | (exfalso; contradiction)
    | (exfalso; exact absurd rfl (by assumption))
    | exact End_p (Ret1 rfl rfl) rfl
    | trace_state
theorem fbI_false {H : Hp} : FnP Tryz.prog 108 [.bool false] H (sv (fbool false)) := by
  have k := trivial
  refine Fn_of _ _ Tryz.func108 rfl Tryz.ntmps108 rfl fun c => ?_
  repeat' (first | refine O_nil ?_ | refine A_seq ?_ | refine A_region ?_ | refine A_skip ?_ | refine A_ret ?_ | (show opsA _ _ _ _ _ _ _; refine O_ev WideF.wide rfl (Ev_pure rfl) rfl rfl ?_) | (show wpA _ _ _ (.cond _ _ _) _ _ _ _; refine A_iffalse rfl ?_))
  all_goals first
    | (exfalso; contradiction)
    | (exfalso; exact absurd rfl (by assumption))
    | exact End_p (Ret1 rfl rfl) rfl
    | trace_state
theorem FormatBool_false {H : Hp} : FnP Tryz.prog 64 [.bool false] H (sv (fbool false)) := by
  have k := fbI_false (H := H)
  refine Fn_of _ _ Tryz.func64 rfl Tryz.ntmps64 rfl fun c => ?_
  repeat' (first | (refine O_ef rfl (Ef_callp WideF.wide (k) ⟨rfl, trivial⟩ rfl ?_)) | refine O_nil ?_ | refine A_seq ?_ | refine A_region ?_ | refine A_ret ?_ | (show opsA _ _ _ _ _ _ _; refine O_ev WideF.wide rfl (Ev_pure rfl) rfl rfl ?_))
  all_goals first
    | (exfalso; contradiction)
    | (exfalso; exact absurd rfl (by assumption))
    | exact End_p (Ret1 rfl rfl) rfl
    | trace_state
def shwV (v : Val) : List UInt8 := if v.kind = 1 then Lib.itoa v.num else if v.kind = 2 then v.text else if v.kind = 3 then fbool (decide (v.num = 1)) else []
set_option maxRecDepth 100000 in
theorem Show_fn {H : Hp} {x : Val} (hx : I64 x.num) : FnP Tryz.prog 29 [rV x] H (sv (shwV x)) := by
  obtain ⟨k, n, s⟩ := x
  dsimp only at hx
  have ki := ItoaI_fn (H := H) hx
  have e : shwV ⟨k, n, s⟩ = if k = 1 then Lib.itoa n else if k = 2 then s else if k = 3 then fbool (decide (n = 1)) else [] := rfl
  rw [e]
  show FnP Tryz.prog 29 [.agg [.int .i64 k, .int .i64 n, sv s].toArray] H _
  have kb : FnP Tryz.prog 64 [.bool (decide (n = 1))] H (sv (fbool (decide (n = 1)))) := by
    by_cases h1 : n = 1
    · simp only [h1, decide_true]; exact FormatBool_true
    · simp only [h1, decide_false]; exact FormatBool_false
  by_cases k1 : k = 1
  · subst k1
    refine Fn_of _ _ Tryz.func29 rfl Tryz.ntmps29 rfl fun c => ?_
    repeat' (first | (refine O_ef rfl (Ef_boxa WideF.wide (cs := [.int .i64 _, .int .i64 _, sv s]) rfl rfl ?_); intro b1) | (refine O_ef rfl (Ef_callp WideF.wide (ki) ⟨rfl, trivial⟩ rfl ?_)) | refine O_nil ?_ | refine A_seq ?_ | refine A_region ?_ | refine A_ret ?_ | refine A_block ?_ | (show opsA _ _ _ _ _ _ _; first | refine O_ev WideF.wide rfl (Ev_pure rfl) rfl rfl ?_ | (show opsA _ _ _ _ (⟨_, .load _ _, _, _, _, _⟩ :: _) _ _; refine O_ev WideF.wide rfl (Ev_loadB1 (i := 0) rfl rfl rfl) rfl rfl ?_) | (show opsA _ _ _ _ (⟨_, .fieldAddr _ _ _, _, _, _, _⟩ :: _) _ _; refine O_ev WideF.wide rfl (Ev_fieldAddr rfl rfl rfl) rfl rfl ?_)) | (show wpA _ _ _ (.cond _ _ _) _ _ _ _; (refine A_if rfl (fun h => ?_) (fun h => ?_) <;> try (exfalso; omega))))
    all_goals first
      | (exfalso; omega)
      | exact End_p (Ret1 rfl rfl) rfl
      | trace_state
  by_cases k2 : k = 2
  · subst k2
    refine Fn_of _ _ Tryz.func29 rfl Tryz.ntmps29 rfl fun c => ?_
    repeat' (first | (refine O_ef rfl (Ef_boxa WideF.wide (cs := [.int .i64 _, .int .i64 _, sv s]) rfl rfl ?_); intro b1) | refine O_nil ?_ | refine A_seq ?_ | refine A_region ?_ | refine A_ret ?_ | refine A_block ?_ | (show opsA _ _ _ _ _ _ _; first | refine O_ev WideF.wide rfl (Ev_pure rfl) rfl rfl ?_ | (show opsA _ _ _ _ (⟨_, .load _ _, _, _, _, _⟩ :: _) _ _; refine O_ev WideF.wide rfl (Ev_loadB1 (i := 0) rfl rfl rfl) rfl rfl ?_) | (show opsA _ _ _ _ (⟨_, .fieldAddr _ _ _, _, _, _, _⟩ :: _) _ _; refine O_ev WideF.wide rfl (Ev_fieldAddr rfl rfl rfl) rfl rfl ?_)) | (show wpA _ _ _ (.cond _ _ _) _ _ _ _; (refine A_if rfl (fun h => ?_) (fun h => ?_) <;> try (exfalso; omega))))
    all_goals first
      | (exfalso; omega)
      | exact End_p (Ret1 rfl rfl) rfl
      | trace_state
  by_cases k3 : k = 3
  · subst k3
    refine Fn_of _ _ Tryz.func29 rfl Tryz.ntmps29 rfl fun c => ?_
    repeat' (first | (refine O_ef rfl (Ef_boxa WideF.wide (cs := [.int .i64 _, .int .i64 _, sv s]) rfl rfl ?_); intro b1) | (refine O_ef rfl (Ef_callp WideF.wide (kb) ⟨rfl, trivial⟩ rfl ?_)) | refine O_nil ?_ | refine A_seq ?_ | refine A_region ?_ | refine A_ret ?_ | refine A_block ?_ | (show opsA _ _ _ _ _ _ _; first | refine O_ev WideF.wide rfl (Ev_pure rfl) rfl rfl ?_ | (show opsA _ _ _ _ (⟨_, .load _ _, _, _, _, _⟩ :: _) _ _; refine O_ev WideF.wide rfl (Ev_loadB1 (i := 0) rfl rfl rfl) rfl rfl ?_) | (show opsA _ _ _ _ (⟨_, .fieldAddr _ _ _, _, _, _, _⟩ :: _) _ _; refine O_ev WideF.wide rfl (Ev_fieldAddr rfl rfl rfl) rfl rfl ?_)) | (show wpA _ _ _ (.cond _ _ _) _ _ _ _; (refine A_if rfl (fun h => ?_) (fun h => ?_) <;> try (exfalso; omega))))
    all_goals first
      | (exfalso; omega)
      | exact End_p (Ret1 rfl rfl) rfl
      | trace_state
  · rw [if_neg k1, if_neg k2, if_neg k3]
    refine Fn_of _ _ Tryz.func29 rfl Tryz.ntmps29 rfl fun c => ?_
    repeat' (first | (refine O_ef rfl (Ef_boxa WideF.wide (cs := [.int .i64 _, .int .i64 _, sv s]) rfl rfl ?_); intro b1) | refine O_nil ?_ | refine A_seq ?_ | refine A_region ?_ | refine A_skip ?_ | refine A_ret ?_ | refine A_block ?_ | (show opsA _ _ _ _ _ _ _; first | refine O_ev WideF.wide rfl (Ev_pure rfl) rfl rfl ?_ | (show opsA _ _ _ _ (⟨_, .load _ _, _, _, _, _⟩ :: _) _ _; refine O_ev WideF.wide rfl (Ev_loadB1 (i := 0) rfl rfl rfl) rfl rfl ?_) | (show opsA _ _ _ _ (⟨_, .fieldAddr _ _ _, _, _, _, _⟩ :: _) _ _; refine O_ev WideF.wide rfl (Ev_fieldAddr rfl rfl rfl) rfl rfl ?_)) | (show wpA _ _ _ (.cond _ _ _) _ _ _ _; (refine A_if rfl (fun h => ?_) (fun h => ?_) <;> try (exfalso; omega))))
    all_goals first
      | (exfalso; omega)
      | exact End_p (Ret1 rfl rfl) rfl
      | trace_state
end Go.Proofs.YtnoadopmeoohmaaGreatDoor
/-
  codepoint: counting the code points, their places.
-/
namespace Go.Proofs.YtnoadopmeoohmaaGreatDoor
open Go
set_option linter.unusedVariables false
set_option linter.unusedSimpArgs false
attribute [local irreducible] wpA opsA drJ drQ drE Ef Ev Shift Fn
/-- is a byte the first one of an encoding? -/
def isHead (c : UInt8) : Bool := c.toNat < 0x80 || 0xC0 ≤ c.toNat
/-- the places of these bytes -/
def heads : List UInt8 → Nat → List Nat
  | [], _ => []
  | c :: r, k => if isHead c then k :: heads r (k + 1) else heads r (k + 1)
theorem heads_append (a b : List UInt8) : ∀ k, heads (a ++ b) k = heads a k ++ heads b (k + a.length) := by
  induction a with
  | nil => intro k; simp [heads]
  | cons c r ih =>
    intro k
    have e : k + 1 + r.length = k + (r.length + 1) := by omega
    simp only [List.cons_append, heads, ih, List.length_cons, e]
    split <;> simp
theorem heads_none {l : List UInt8} (h : ∀ c ∈ l, isHead c = false) : ∀ k, heads l k = [] := by
  induction l with
  | nil => intro k; rfl
  | cons c r ih => intro k; simp only [heads, h c (by simp), Bool.false_eq_true, if_false]; exact ih (fun x hx => h x (List.mem_cons_of_mem _ hx)) _
theorem heads_shift (l : List UInt8) : ∀ k m, heads l (k + m) = (heads l k).map (· + m) := by
  induction l with
  | nil => intro k m; rfl
  | cons c r ih =>
    intro k m
    have e : k + m + 1 = k + 1 + m := by omega
    simp only [heads, e, ih]
    split <;> simp
theorem heads_length_le (l : List UInt8) (k : Nat) : (heads l k).length ≤ l.length := by
  induction l generalizing k with
  | nil => simp [heads]
  | cons c r ih => simp only [heads]; split <;> simp <;> have := ih (k + 1) <;> omega
theorem heads_take_succ (l : List UInt8) (i : Nat) (hi : i < l.length) : heads (l.take (i + 1)) 0 = heads (l.take i) 0 ++ (if isHead l[i] then [i] else []) := by
  rw [List.take_succ_eq_append_getElem hi, heads_append]
  simp only [List.length_take, Nat.zero_add, Nat.min_eq_left (Nat.le_of_lt hi), heads]
theorem mask_head : ∀ n : Fin 256, (iand .u8 (n.val : Int) 192 = 128) ↔ (128 ≤ n.val ∧ n.val < 192) := by decide +kernel
theorem bat_get {l : List UInt8} {i : Nat} (hi : i < l.length) : bat l i = (l[i].toNat : Int) := by simp [bat, List.getD, hi]
theorem isHead_iff {l : List UInt8} {i : Nat} (hi : i < l.length) : isHead l[i] = true ↔ ¬ iand .u8 (bat l i) 192 = 128 := by
  have h := mask_head ⟨l[i].toNat, l[i].toNat_lt⟩
  rw [bat_get hi, h]
  simp only [isHead, Bool.or_eq_true, decide_eq_true_eq]
  omega
/-- an encoding: a first byte, and bytes that are none -/
theorem enc_shape {l : List UInt8} (hl : l ≠ []) (h : enc l 0 ≠ 0) : ∃ c r, l.take (enc l 0).toNat = c :: r ∧ isHead c = true ∧ (∀ x ∈ r, isHead x = false) ∧ (enc l 0).toNat = r.length + 1 := by
  have hpos : 0 < l.length := List.length_pos_iff.2 hl
  have hb := enc_b l 0
  have hf := enc_fits l 0 (by omega) (by omega)
  cases hlc : l with
  | nil => exact absurd hlc hl
  | cons c r0 =>
    have hc0 : bat l 0 = (c.toNat : Int) := by rw [hlc]; rfl
    have hget : ∀ j : Nat, j < r0.length → bat l (((j : Nat) : Int) + 1) = (r0[j]!.toNat : Int) := fun j hj => by
      rw [hlc]
      unfold bat
      have : (((j : Nat) : Int) + 1).toNat = j + 1 := by omega
      rw [this]
      simp [List.getD, hj]
    rw [← hlc]
    obtain ⟨m, hm⟩ : ∃ m, (enc l 0).toNat = m + 1 := ⟨(enc l 0).toNat - 1, by omega⟩
    have hlen : l.length = r0.length + 1 := by rw [hlc]; rfl
    have htk : l.take (m + 1) = c :: r0.take m := by rw [hlc, List.take_succ_cons]
    rw [hm]
    refine ⟨c, r0.take m, htk, ?_, ?_, ?_⟩
    · simp only [isHead, Bool.or_eq_true, decide_eq_true_eq]
      have ht := tailSize_le (bat l 0)
      by_cases hlt : bat l 0 < 0x80
      · left; omega
      · right
        by_cases hz : tailSize (bat l 0) = 0
        · exfalso; apply h; unfold enc; rw [if_neg hlt, if_pos hz]
        · have : ¬ (bat l 0 < 0xC2 ∨ 0xF4 < bat l 0) := fun hh => hz (by unfold tailSize; rw [if_neg hlt, if_pos hh])
          omega
    · intro x hx
      obtain ⟨j, hj⟩ := List.getElem?_of_mem hx
      rw [List.getElem?_take] at hj
      split at hj
      · rename_i hjn
        have hjr : j < r0.length := (List.getElem?_eq_some_iff.1 hj).1
        have hxj : r0[j]! = x := by simp [List.getElem!_eq_getElem?_getD, hj]
        have hg := hget j hjr
        rw [hxj] at hg
        have hge : 0x80 ≤ bat l ((j : Int) + 1) ∧ bat l ((j : Int) + 1) ≤ 0xBF := by
          have hjn' : j + 1 < (enc l 0).toNat := by omega
          clear hm htk hjn hb hf hg hxj hj hx
          have henc := h
          unfold enc at hjn' henc
          split at hjn'
          · omega
          · split at hjn'
            · omega
            · split at hjn'
              · rename_i h1 h2 h3
                obtain ⟨_, ⟨h4, h5⟩, h6, h7⟩ := h3
                have hlow : 0x80 ≤ tailLow (bat l 0) := by unfold tailLow; repeat' split <;> omega
                have hhigh : tailHigh (bat l 0) ≤ 0xBF := by unfold tailHigh; repeat' split <;> omega
                have hts := tailSize_le (bat l 0)
                have hcase : j = 0 ∨ j = 1 ∨ j = 2 := by omega
                rcases hcase with rfl | rfl | rfl
                · exact ⟨Int.le_trans hlow h4, Int.le_trans h5 hhigh⟩
                · exact h6 (by omega)
                · exact h7 (by omega)
              · omega
        simp only [isHead, Bool.or_eq_false_iff, decide_eq_false_iff_not]
        omega
      · cases hj
    · simp only [List.length_take]
      omega
theorem chars_spec : ∀ (n : Nat) (l : List UInt8), l.length ≤ n → ∀ cs, chars l = some cs → cs.flatten = l ∧ (heads l 0).length = cs.length ∧ ∀ u, u < cs.length → (heads l 0)[u]? = some (cs.take u).flatten.length := by
  intro n
  induction n with
  | zero =>
    intro l hl cs hcs
    have : l = [] := List.eq_nil_of_length_eq_zero (by omega)
    subst this
    rw [chars_nil] at hcs
    cases hcs
    simp [heads]
  | succ n ih =>
    intro l hl cs hcs
    by_cases hn : l = []
    · subst hn
      rw [chars_nil] at hcs
      cases hcs
      simp [heads]
    · by_cases h0 : enc l 0 = 0
      · rw [chars_no hn h0] at hcs; cases hcs
      · rw [chars_step hn h0] at hcs
        obtain ⟨ds, hds, rfl⟩ := Option.map_eq_some_iff.1 hcs
        obtain ⟨c, r, hct, hc, hr, hcl⟩ := enc_shape hn h0
        have hpos : 0 < l.length := List.length_pos_iff.2 hn
        obtain ⟨h1, h2, h3⟩ := ih (l.drop (enc l 0).toNat) (by rw [List.length_drop]; omega) ds hds
        have hsplit : l = (c :: r) ++ l.drop (enc l 0).toNat := by rw [← hct, List.take_append_drop]
        have hh : heads l 0 = 0 :: (heads (l.drop (enc l 0).toNat) 0).map (· + (r.length + 1)) := by
          generalize l.drop (enc l 0).toNat = t at hsplit ⊢
          rw [hsplit, heads_append, Nat.zero_add, List.length_cons]
          have hk := heads_shift t 0 (r.length + 1)
          rw [Nat.zero_add] at hk
          rw [hk]
          have hz : heads (c :: r) 0 = [0] := by
            rw [heads, if_pos hc, heads_none hr]
          rw [hz]
          rfl
        refine ⟨?_, ?_, ?_⟩
        · rw [List.flatten_cons, h1, List.take_append_drop]
        · rw [hh]; simp [h2]
        · intro u hu
          rw [hh]
          cases u with
          | zero => rw [List.take_zero, List.getElem?_cons_zero]; rfl
          | succ u =>
            simp only [List.length_cons] at hu
            rw [List.getElem?_cons_succ, List.getElem?_map, h3 u (by omega), hct]
            simp only [Option.map_some, List.take_succ_cons, List.flatten_cons, List.length_append, List.length_cons]
            exact congrArg some (Nat.add_comm _ _)
/-- the number of code points, 0 if the string is not valid -/
def nchars (l : List UInt8) : Nat := ((chars l).getD []).length
theorem nchars_heads {l : List UInt8} (h : valid l) : (heads l 0).length = nchars l := by
  obtain ⟨cs, hcs⟩ := Option.isSome_iff_exists.1 h
  have := (chars_spec l.length l (Nat.le_refl _) cs hcs).2.1
  simp [nchars, hcs, this]
abbrev countSt (H : Hp) (l : List UInt8) (i : Nat) : Sta := ⟨22, [(0, sv l), (2, .int .i64 (heads (l.take i) 0).length), (9, .int .i64 l.length), (10, .int .i64 i)], H, [], [], []⟩
/-- the error number of a string -/
def utf8 (l : List UInt8) : Int := if valid l then 0 else 12
def count (l : List UInt8) : Int := if valid l then nchars l else 0
set_option maxRecDepth 100000 in
theorem Count_fn (H : Hp) (l : List UInt8) (hl : l.length < 4611686018427387904) : FnP Tryz.prog 99 [sv l] H (.tuple [.int .i64 (count l), .int .i64 (utf8 l)].toArray) := by
  have hv := Valid_fn H l hl
  refine Fn_of _ _ Tryz.func99 rfl Tryz.ntmps99 rfl fun c => ?_
  repeat' (first | (refine O_ef rfl (Ef_callp WideF.wide hv ⟨rfl, trivial⟩ rfl ?_)) | refine O_nil ?_ | refine A_seq ?_ | refine A_region ?_ | refine A_skip ?_ | refine A_ret ?_ | refine A_block ?_ | (show opsA _ _ _ _ _ _ _; first | refine O_ev WideF.wide rfl (Ev_pure rfl) rfl rfl ?_ | (show opsA _ _ _ _ (⟨_, .call _, _, _, _, _⟩ :: _) _ _; refine O_ev WideF.wide rfl (Ev_slen rfl) rfl rfl ?_) | (show opsA _ _ _ _ (⟨_, .unOp _ _ _, _, _, _, _⟩ :: _) _ _; refine O_ev WideF.wide rfl (Ev_not rfl) rfl rfl ?_)) | (show wpA _ _ _ (.cond _ _ _) _ _ _ _; (refine A_if rfl (fun h => ?_) (fun h => ?_) <;> try (exfalso; omega))))
  · (refine End_p (Ret2 rfl rfl rfl) ?_)
    simp [count, utf8, h]
  · have hval : valid l := Decidable.not_not.1 h
    refine A_loopu (fun n s => ∃ i : Nat, n = l.length - i ∧ i ≤ l.length ∧ s = countSt H l i) ?_ ?_
    · exact Shift.to ⟨_, 0, rfl, by omega, rfl⟩ ⟨rfl, rfl, rfl, ⟨rfl, rfl, rfl, rfl, trivial⟩, Own.sub_nil _⟩
    · rintro n s ⟨i, rfl, hi, rfl⟩
      have hle := heads_length_le (l.take i) 0
      have hlt : (l.take i).length ≤ i := List.length_take_le _ _
      by_cases hlt : i < l.length
      · have hs := heads_take_succ l i hlt
        have hm := isHead_iff hlt
        repeat' (first | refine O_nil ?_ | refine A_seq ?_ | refine A_region ?_ | refine A_skip ?_ | refine A_block ?_ | (show opsA _ _ _ _ _ _ _; first | refine O_ev WideF.wide rfl (Ev_pure rfl) rfl rfl ?_ | (show opsA _ _ _ _ (⟨_, .binOp _ _ _ _ _, _, _, _, _⟩ :: _) _ _; first | refine O_ev WideF.wide rfl (Ev_add rfl rfl (wi64 (by omega))) rfl rfl ?_ | refine O_ev WideF.wide rfl (Ev_and rfl rfl) rfl rfl ?_) | (show opsA _ _ _ _ (⟨_, .index _ _ _, _, _, _, _⟩ :: _) _ _; refine O_ev WideF.wide rfl (Ev_sindex rfl rfl (by omega) (by omega)) rfl rfl ?_)) | (show wpA _ _ _ (.cond _ _ _) _ _ _ _; (refine A_if rfl (fun h => ?_) (fun h => ?_) <;> try (exfalso; omega))))
        · refine Shift.to ⟨_, ?_, i + 1, rfl, by omega, rfl⟩ ⟨rfl, rfl, rfl, ⟨rfl, ?_, rfl, rfl, trivial⟩, Own.sub_nil _⟩
          · omega
          · rw [hs, if_pos (hm.2 (by assumption))]; simp; rfl
        · refine Shift.to ⟨_, ?_, i + 1, rfl, by omega, rfl⟩ ⟨rfl, rfl, rfl, ⟨rfl, ?_, rfl, rfl, trivial⟩, Own.sub_nil _⟩
          · omega
          · have hno : isHead l[i] = false := by
              cases hb : isHead l[i] with
              | false => rfl
              | true => exact absurd (hm.1 hb) (by assumption)
            rw [hs, hno]; simp; rfl
      · have : i = l.length := by omega
        subst this
        repeat' (first | refine O_nil ?_ | refine A_seq ?_ | refine A_region ?_ | refine A_ret ?_ | (show opsA _ _ _ _ _ _ _; refine O_ev WideF.wide rfl (Ev_pure rfl) rfl rfl ?_) | (show wpA _ _ _ (.exit _) _ _ _ _; refine A_exit rfl ?_) | (show wpA _ _ _ (.cond _ _ _) _ _ _ _; (refine A_if rfl (fun h => ?_) (fun h => ?_) <;> try (exfalso; omega))))
        (refine End_p (Ret2 rfl rfl rfl) ?_)
        rw [List.take_length, nchars_heads hval]
        simp [count, utf8, hval]
end Go.Proofs.YtnoadopmeoohmaaGreatDoor
