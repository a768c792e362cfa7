/-
  digits, toNumber, Show, Read, Clone, FormatBool. Printed by genF12.py.
-/
import Derived.Test.YtnoadopmeoohmaaGreatDoorF8
import Derived.Test.YtnoadopmeoohmaaGreatDoorK3
namespace Go.Proofs.YtnoadopmeoohmaaGreatDoor
open Go
set_option linter.unusedVariables false
set_option linter.unusedSimpArgs false
attribute [local irreducible] wpA opsA drJ drQ drE Ef Ev Shift Fn
theorem dval_ge : ∀ (l : List UInt8) (n : Nat), n ≤ dval l n
  | [], n => Nat.le_refl n
  | c :: l, n => by
    have := dval_ge l (n * 10 + (c.toNat - 48))
    simp only [dval]
    omega
theorem isDg_bounds {c : UInt8} (h : isDg c = true) : 48 ≤ c.toNat ∧ c.toNat ≤ 57 := by
  unfold isDg at h
  simpa only [Bool.and_eq_true, Nat.ble_eq] using h
theorem parse10_ok : ∀ (l : List UInt8) (n : Nat), (∀ b ∈ l, isDg b = true) → dval l n < 18446744073709551616 → Lib.parseUint10 n l = .ok (dval l n)
  | [], n, _, _ => rfl
  | c :: l, n, h, hd => by
    have hc := isDg_bounds (h c (by simp))
    have hg := dval_ge l (n * 10 + (c.toNat - 48))
    have hd' : dval l (n * 10 + (c.toNat - 48)) < 18446744073709551616 := hd
    unfold Lib.parseUint10
    rw [if_pos hc, if_neg (by omega), if_neg (by omega)]
    exact parse10_ok l _ (fun b hb => h b (by simp [hb])) hd'
theorem parse10_big : ∀ (l : List UInt8) (n : Nat), (∀ b ∈ l, isDg b = true) → n < 18446744073709551616 → 18446744073709551616 ≤ dval l n → Lib.parseUint10 n l = .range
  | [], n, _, hn, hd => by
    have hd' : 18446744073709551616 ≤ n := hd
    omega
  | c :: l, n, h, hn, hd => by
    have hc := isDg_bounds (h c (by simp))
    have hd' : 18446744073709551616 ≤ dval l (n * 10 + (c.toNat - 48)) := hd
    unfold Lib.parseUint10
    rw [if_pos hc]
    by_cases h1 : 1844674407370955162 ≤ n
    · rw [if_pos h1]
    · rw [if_neg h1]
      by_cases h2 : 18446744073709551616 ≤ n * 10 + (c.toNat - 48)
      · rw [if_pos h2]
      · rw [if_neg h2]
        exact parse10_big l _ (fun b hb => h b (by simp [hb])) (by omega) hd'
theorem atoi_of {l : List UInt8} (h0 : l ≠ []) (h : ∀ b ∈ l, isDg b = true) : Lib.atoiAll l = match Lib.parseUint10 0 l with
    | .«syntax» => .«syntax»
    | .range => .range
    | .ok u => if 9223372036854775808 ≤ u then .range else .ok (u : Int) := by
  cases l with
  | nil => exact absurd rfl h0
  | cons c r =>
    have hc := isDg_bounds (h c (by simp))
    have h45 : ¬ c.toNat = 45 := by omega
    have h43 : ¬ c.toNat = 43 := by omega
    unfold Lib.atoiAll
    simp only [h45, h43, or_self, if_false, not_false_eq_true, true_and, false_and]
    unfold Lib.parseMag
    rw [if_neg (by simp)]
    cases Lib.parseUint10 0 (c :: r) <;> rfl
theorem atoi_ok {l : List UInt8} (h0 : l ≠ []) (h : ∀ b ∈ l, isDg b = true) (hb : dval l 0 < 9223372036854775808) : Lib.atoiAll l = .ok ((dval l 0 : Nat) : Int) := by
  rw [atoi_of h0 h, parse10_ok l 0 h (by omega)]
  dsimp only
  rw [if_neg (by omega)]
theorem atoi_big {l : List UInt8} (h0 : l ≠ []) (h : ∀ b ∈ l, isDg b = true) (hb : ¬ dval l 0 < 9223372036854775808) : Lib.atoiAll l = .range := by
  rw [atoi_of h0 h]
  by_cases h1 : dval l 0 < 18446744073709551616
  · rw [parse10_ok l 0 h h1]
    dsimp only
    rw [if_pos (by omega)]
  · rw [parse10_big l 0 h (by omega) (by omega)]
set_option maxRecDepth 100000 in
set_option maxHeartbeats 4000000 in
theorem digits_fn {H : Hp} {l : List UInt8} (hl : l.length ≤ 1000000000) (hV : VarsH H) :
    FnP Tryz.prog 105 [sv l] H (.tuple [.int .i64 (digR l).1, .int .i64 (digR l).2].toArray) := by
  have hcall := ContainsFunc_fn (f := 142) (pr := fun r => decide (r < 48 ∨ 57 < r)) (fun H r => digits1_fn) (fun r h => decide_eq_decide.2 (by omega)) (H := H) (l := l) (by omega)
  have hb : (∃ j : Nat, j < l.length ∧ decide (bat l j < 48 ∨ 57 < bat l j) = true) ↔ l.any (fun b => !isDg b) = true := by
    rw [List.any_eq_true]
    constructor
    · rintro ⟨j, hj, h⟩
      refine ⟨l[j], List.getElem_mem hj, ?_⟩
      have e : bat l j = ((l[j].toNat : Nat) : Int) := by simp [bat, hj]
      rw [e] at h
      rw [isDg_eq]
      simp only [decide_eq_true_eq] at h
      simp only [Bool.not_eq_true', decide_eq_false_iff_not]
      unfold dgt
      omega
    · rintro ⟨c, hc, h⟩
      obtain ⟨j, hj, rfl⟩ := List.getElem_of_mem hc
      refine ⟨j, hj, ?_⟩
      have e : bat l j = ((l[j].toNat : Nat) : Int) := by simp [bat, hj]
      rw [e]
      rw [isDg_eq] at h
      simp only [Bool.not_eq_true', decide_eq_false_iff_not] at h
      unfold dgt at h
      simp only [decide_eq_true_eq]
      omega
  simp only [hb] at hcall
  have hid : Tryz.prog.underlying 124 = some (.interface (Tryz.prog.methodsAt 124)) := by kernel_rfl
  by_cases h0 : l = []
  · have e1 : digR l = (0, 14) := by unfold digR; rw [if_pos (.inl h0)]
    rw [e1]
    subst h0
    refine Fn_of _ _ Tryz.func105 rfl Tryz.ntmps105 rfl fun c => ?_
    repeat' (first | (refine O_ev WideF.wide rfl (Ev_seqs rfl rfl) rfl rfl ?_) | refine O_nil ?_ | refine A_seq ?_ | refine A_region ?_ | refine A_ret ?_ | (show opsA _ _ _ _ _ _ _; first | refine O_ev WideF.wide rfl (Ev_pure rfl) rfl rfl ?_ | refine O_skip WideF.wide rfl rfl rfl ?_) | (show wpA _ _ _ (.cond _ _ _) _ _ _ _; refine A_iftrue rfl ?_))
    all_goals first
      | (exfalso; omega)
      | exact End_p (Ret2 rfl rfl rfl) rfl
      | trace_state
  have hpos : 0 < l.length := List.length_pos_iff.2 h0
  by_cases ha : l.any (fun b => !isDg b) = true
  · have e1 : digR l = (0, 14) := by unfold digR; rw [if_pos (.inr (.inl ha))]
    rw [e1]
    simp only [ha, decide_true] at hcall
    refine Fn_of _ _ Tryz.func105 rfl Tryz.ntmps105 rfl fun c => ?_
    repeat' (first | (refine O_ef rfl (Ef_callp WideF.wide (hcall) ⟨rfl, rfl, trivial⟩ rfl ?_)) | refine O_nil ?_ | refine A_seq ?_ | refine A_region ?_ | refine A_ret ?_ | (show opsA _ _ _ _ _ _ _; first | (refine O_split rfl rfl (fun h => ?_) (fun h => ?_) <;> try (exfalso; omega)) | refine O_ev WideF.wide rfl (Ev_pure rfl) rfl rfl ?_ | (show opsA _ _ _ _ (⟨_, .binOp _ _ _ _ _, _, _, _, _⟩ :: _) _ _; refine O_ev WideF.wide rfl (Ev_seql rfl rfl) rfl rfl ?_) | refine O_skip WideF.wide rfl rfl rfl ?_) | (show wpA _ _ _ (.cond _ _ _) _ _ _ _; refine A_iftrue rfl ?_))
    all_goals first
      | (exfalso; omega)
      | (exfalso; contradiction)
      | exact End_p (Ret2 rfl rfl rfl) rfl
      | trace_state
  have hall : ∀ b ∈ l, isDg b = true := fun b hb' => by
    cases hd : isDg b with
    | true => rfl
    | false => exact absurd (List.any_eq_true.2 ⟨b, hb', by rw [hd]; rfl⟩) ha
  have h48 : l.head? = some 48 ↔ bat l 0 = 48 := by
    cases l with
    | nil => exact absurd rfl h0
    | cons c r =>
      have := byte_eq c 48 (by decide)
      simp only [List.head?_cons, Option.some.injEq]
      show c = 48 ↔ ((c.toNat : Nat) : Int) = 48
      exact ⟨fun h9 => (by rw [h9]; rfl), fun h9 => this.2 (by omega)⟩
  simp only [ha, decide_false] at hcall
  by_cases hz : 1 < l.length ∧ bat l 0 = 48
  · have e1 : digR l = (0, 14) := by unfold digR; rw [if_pos (.inr (.inr ⟨hz.1, h48.2 hz.2⟩))]
    rw [e1]
    refine Fn_of _ _ Tryz.func105 rfl Tryz.ntmps105 rfl fun c => ?_
    repeat' (first | (refine O_ef rfl (Ef_callp WideF.wide (hcall) ⟨rfl, rfl, trivial⟩ rfl ?_)) | refine O_nil ?_ | refine A_seq ?_ | refine A_region ?_ | refine A_ret ?_ | (show opsA _ _ _ _ _ _ _; first | (refine O_split rfl rfl (fun h => ?_) (fun h => ?_) <;> try (exfalso; omega)) | refine O_ev WideF.wide rfl (Ev_pure rfl) rfl rfl ?_ | (show opsA _ _ _ _ (⟨_, .call _, _, _, _, _⟩ :: _) _ _; refine O_ev WideF.wide rfl (Ev_slen rfl) rfl rfl ?_) | (show opsA _ _ _ _ (⟨_, .binOp _ _ _ _ _, _, _, _, _⟩ :: _) _ _; refine O_ev WideF.wide rfl (Ev_seql rfl rfl) rfl rfl ?_) | (show opsA _ _ _ _ (⟨_, .index _ _ _, _, _, _, _⟩ :: _) _ _; refine O_ev WideF.wide rfl (Ev_sindex rfl rfl (by omega) (by omega)) rfl rfl ?_) | refine O_skip WideF.wide rfl rfl rfl ?_) | (show wpA _ _ _ (.cond _ _ _) _ _ _ _; first | (refine A_if rfl (fun h => ?_) (fun h => ?_) <;> try (exfalso; omega)) | refine A_iftrue rfl ?_))
    all_goals first
      | (exfalso; omega)
      | (exfalso; contradiction)
      | exact End_p (Ret2 rfl rfl rfl) rfl
      | trace_state
  have e1 : digR l = ((if 1099511627776 < dval l 0 then ((0 : Int), (29 : Int)) else (((dval l 0 : Nat) : Int), (0 : Int))) : Int × Int) := by
    unfold digR
    rw [if_neg (fun h => h.elim h0 fun h => h.elim ha fun h => hz ⟨h.1, h48.1 h.2⟩)]
  by_cases hbig : dval l 0 < 9223372036854775808
  · have hat := atoi_ok h0 hall hbig
    have kat := Atoi_fn (H := H) hl hV (by rw [hat]; simp)
    by_cases hm : 1099511627776 < dval l 0
    all_goals
      first | rw [if_pos hm] at e1 | rw [if_neg hm] at e1
      rw [e1]
      refine Fn_of _ _ Tryz.func105 rfl Tryz.ntmps105 rfl fun c => ?_
      repeat' (first | (refine O_ef rfl (Ef_callp WideF.wide (hcall) ⟨rfl, rfl, trivial⟩ rfl ?_)) | (refine O_ef rfl (Ef_call0 WideF.wide kat ⟨rfl, trivial⟩ rfl ?_); rintro v H3 I3 hle3 ⟨hv, rfl, rfl⟩; rw [hat] at hv; obtain ⟨k, hk, rfl⟩ : ∃ k : Int, ((dval l 0 : Nat) : Int) = k ∧ v = .tuple [.int .i64 k, .nilIface].toArray := hv.elim (fun ⟨k, h1, h2⟩ => ⟨k, (by cases h1; rfl), h2⟩) (fun h => absurd h.1 (by simp)); subst hk) | (refine O_ev WideF.wide rfl (Ev_neN hid rfl) rfl rfl ?_) | refine O_nil ?_ | refine A_seq ?_ | refine A_region ?_ | refine A_skip ?_ | refine A_ret ?_ | (show opsA _ _ _ _ _ _ _; first | (refine O_split rfl rfl (fun h => ?_) (fun h => ?_) <;> try (exfalso; omega)) | refine O_ev WideF.wide rfl (Ev_pure rfl) rfl rfl ?_ | (show opsA _ _ _ _ (⟨_, .call _, _, _, _, _⟩ :: _) _ _; refine O_ev WideF.wide rfl (Ev_slen rfl) rfl rfl ?_) | (show opsA _ _ _ _ (⟨_, .binOp _ _ _ _ _, _, _, _, _⟩ :: _) _ _; refine O_ev WideF.wide rfl (Ev_seql rfl rfl) rfl rfl ?_) | (show opsA _ _ _ _ (⟨_, .index _ _ _, _, _, _, _⟩ :: _) _ _; refine O_ev WideF.wide rfl (Ev_sindex rfl rfl (by omega) (by omega)) rfl rfl ?_) | refine O_skip WideF.wide rfl rfl rfl ?_) | (show wpA _ _ _ (.cond _ _ _) _ _ _ _; first | (refine A_if rfl (fun h => ?_) (fun h => ?_) <;> try (exfalso; omega)) | refine A_iftrue rfl ?_ | refine A_iffalse rfl ?_))
      all_goals first
        | (exfalso; omega)
        | (exfalso; contradiction)
        | exact End_p (Ret2 rfl rfl rfl) rfl
        | trace_state
  · have hat := atoi_big h0 hall hbig
    have kat := Atoi_fn (H := H) hl hV (by rw [hat]; simp)
    rw [if_pos (by omega)] at e1
    rw [e1]
    refine Fn_of _ _ Tryz.func105 rfl Tryz.ntmps105 rfl fun c => ?_
    repeat' (first | (refine O_ef rfl (Ef_callp WideF.wide (hcall) ⟨rfl, rfl, trivial⟩ rfl ?_)) | (refine O_ef rfl (Ef_call0 WideF.wide kat ⟨rfl, trivial⟩ rfl ?_); rintro v H3 I3 hle3 ⟨hv, rfl, rfl⟩; rw [hat] at hv; obtain ⟨k, te, pe, rfl⟩ : ∃ (k : Int) (te : TypeId) (pe : Value), v = .tuple [.int .i64 k, .iface te pe].toArray := hv.elim (fun ⟨k, h1, h2⟩ => absurd h1 (by simp)) (fun h => h.2)) | (refine O_ev WideF.wide rfl (Ev_neI hid rfl) rfl rfl ?_) | refine O_nil ?_ | refine A_seq ?_ | refine A_region ?_ | refine A_skip ?_ | refine A_ret ?_ | (show opsA _ _ _ _ _ _ _; first | (refine O_split rfl rfl (fun h => ?_) (fun h => ?_) <;> try (exfalso; omega)) | refine O_ev WideF.wide rfl (Ev_pure rfl) rfl rfl ?_ | (show opsA _ _ _ _ (⟨_, .call _, _, _, _, _⟩ :: _) _ _; refine O_ev WideF.wide rfl (Ev_slen rfl) rfl rfl ?_) | (show opsA _ _ _ _ (⟨_, .binOp _ _ _ _ _, _, _, _, _⟩ :: _) _ _; refine O_ev WideF.wide rfl (Ev_seql rfl rfl) rfl rfl ?_) | (show opsA _ _ _ _ (⟨_, .index _ _ _, _, _, _, _⟩ :: _) _ _; refine O_ev WideF.wide rfl (Ev_sindex rfl rfl (by omega) (by omega)) rfl rfl ?_) | refine O_skip WideF.wide rfl rfl rfl ?_) | (show wpA _ _ _ (.cond _ _ _) _ _ _ _; first | (refine A_if rfl (fun h => ?_) (fun h => ?_) <;> try (exfalso; omega)) | refine A_iftrue rfl ?_ | refine A_iffalse rfl ?_))
    all_goals first
      | (exfalso; omega)
      | (exfalso; contradiction)
      | exact End_p (Ret2 rfl rfl rfl) rfl
      | trace_state
theorem Clone_fn {H : Hp} {l : List UInt8} (hl : l.length ≤ 281474976710656) : FnP Tryz.prog 40 [sv l] H (sv l) := by
  have k := sliteClone_fn (H := H) hl
  refine Fn_of _ _ Tryz.func40 rfl Tryz.ntmps40 rfl fun c => ?_
  repeat' (first | (refine O_ef rfl (Ef_callp WideF.wide (k) ⟨rfl, trivial⟩ rfl ?_)) | refine O_nil ?_ | refine A_seq ?_ | refine A_region ?_ | refine A_ret ?_ | (show opsA _ _ _ _ _ _ _; refine O_ev WideF.wide rfl (Ev_pure rfl) rfl rfl ?_))
  exact End_p (Ret1 rfl rfl) rfl
def fbool (b : Bool) : List UInt8 := if b then [116, 114, 117, 101] else [102, 97, 108, 115, 101]

theorem fbI_true {H : Hp} : FnP Tryz.prog 108 [.bool true] H (sv (fbool true)) := by
  have k := trivial
  refine Fn_of _ _ Tryz.func108 rfl Tryz.ntmps108 rfl fun c => ?_
  repeat' (first | refine O_nil ?_ | refine A_seq ?_ | refine A_region ?_ | refine A_ret ?_ | (show opsA _ _ _ _ _ _ _; refine O_ev WideF.wide rfl (Ev_pure rfl) rfl rfl ?_) | (show wpA _ _ _ (.cond _ _ _) _ _ _ _; refine A_iftrue rfl ?_))
  all_goals first
    | (exfalso; contradiction)
    | (exfalso; exact absurd rfl (by assumption))
    | exact End_p (Ret1 rfl rfl) rfl
    | trace_state

theorem FormatBool_true {H : Hp} : FnP Tryz.prog 64 [.bool true] H (sv (fbool true)) := by
  have k := fbI_true (H := H)
  refine Fn_of _ _ Tryz.func64 rfl Tryz.ntmps64 rfl fun c => ?_
  repeat' (first | (refine O_ef rfl (Ef_callp WideF.wide (k) ⟨rfl, trivial⟩ rfl ?_)) | refine O_nil ?_ | refine A_seq ?_ | refine A_region ?_ | refine A_ret ?_ | (show opsA _ _ _ _ _ _ _; refine O_ev WideF.wide rfl (Ev_pure rfl) rfl rfl ?_))
  all_goals first
    | (exfalso; contradiction)
    | (exfalso; exact absurd rfl (by assumption))
    | exact End_p (Ret1 rfl rfl) rfl
    | trace_state

theorem fbI_false {H : Hp} : FnP Tryz.prog 108 [.bool false] H (sv (fbool false)) := by
  have k := trivial
  refine Fn_of _ _ Tryz.func108 rfl Tryz.ntmps108 rfl fun c => ?_
  repeat' (first | refine O_nil ?_ | refine A_seq ?_ | refine A_region ?_ | refine A_skip ?_ | refine A_ret ?_ | (show opsA _ _ _ _ _ _ _; refine O_ev WideF.wide rfl (Ev_pure rfl) rfl rfl ?_) | (show wpA _ _ _ (.cond _ _ _) _ _ _ _; refine A_iffalse rfl ?_))
  all_goals first
    | (exfalso; contradiction)
    | (exfalso; exact absurd rfl (by assumption))
    | exact End_p (Ret1 rfl rfl) rfl
    | trace_state

theorem FormatBool_false {H : Hp} : FnP Tryz.prog 64 [.bool false] H (sv (fbool false)) := by
  have k := fbI_false (H := H)
  refine Fn_of _ _ Tryz.func64 rfl Tryz.ntmps64 rfl fun c => ?_
  repeat' (first | (refine O_ef rfl (Ef_callp WideF.wide (k) ⟨rfl, trivial⟩ rfl ?_)) | refine O_nil ?_ | refine A_seq ?_ | refine A_region ?_ | refine A_ret ?_ | (show opsA _ _ _ _ _ _ _; refine O_ev WideF.wide rfl (Ev_pure rfl) rfl rfl ?_))
  all_goals first
    | (exfalso; contradiction)
    | (exfalso; exact absurd rfl (by assumption))
    | exact End_p (Ret1 rfl rfl) rfl
    | trace_state

def shwV (v : Val) : List UInt8 := if v.kind = 1 then Lib.itoa v.num else if v.kind = 2 then v.text else if v.kind = 3 then fbool (decide (v.num = 1)) else []
set_option maxRecDepth 100000 in
theorem Show_fn {H : Hp} {x : Val} (hx : I64 x.num) : FnP Tryz.prog 29 [rV x] H (sv (shwV x)) := by
  obtain ⟨k, n, s⟩ := x
  dsimp only at hx
  have ki := ItoaI_fn (H := H) hx
  have e : shwV ⟨k, n, s⟩ = if k = 1 then Lib.itoa n else if k = 2 then s else if k = 3 then fbool (decide (n = 1)) else [] := rfl
  rw [e]
  show FnP Tryz.prog 29 [.agg [.int .i64 k, .int .i64 n, sv s].toArray] H _
  have kb : FnP Tryz.prog 64 [.bool (decide (n = 1))] H (sv (fbool (decide (n = 1)))) := by
    by_cases h1 : n = 1
    · simp only [h1, decide_true]; exact FormatBool_true
    · simp only [h1, decide_false]; exact FormatBool_false
  by_cases k1 : k = 1
  · subst k1
    refine Fn_of _ _ Tryz.func29 rfl Tryz.ntmps29 rfl fun c => ?_
    repeat' (first | (refine O_ef rfl (Ef_boxa WideF.wide (cs := [.int .i64 _, .int .i64 _, sv s]) rfl rfl ?_); intro b1) | (refine O_ef rfl (Ef_callp WideF.wide (ki) ⟨rfl, trivial⟩ rfl ?_)) | refine O_nil ?_ | refine A_seq ?_ | refine A_region ?_ | refine A_ret ?_ | refine A_block ?_ | (show opsA _ _ _ _ _ _ _; first | refine O_ev WideF.wide rfl (Ev_pure rfl) rfl rfl ?_ | (show opsA _ _ _ _ (⟨_, .load _ _, _, _, _, _⟩ :: _) _ _; refine O_ev WideF.wide rfl (Ev_loadB1 (i := 0) rfl rfl rfl) rfl rfl ?_) | (show opsA _ _ _ _ (⟨_, .fieldAddr _ _ _, _, _, _, _⟩ :: _) _ _; refine O_ev WideF.wide rfl (Ev_fieldAddr rfl rfl rfl) rfl rfl ?_)) | (show wpA _ _ _ (.cond _ _ _) _ _ _ _; (refine A_if rfl (fun h => ?_) (fun h => ?_) <;> try (exfalso; omega))))
    all_goals first
      | (exfalso; omega)
      | exact End_p (Ret1 rfl rfl) rfl
      | trace_state
  by_cases k2 : k = 2
  · subst k2
    refine Fn_of _ _ Tryz.func29 rfl Tryz.ntmps29 rfl fun c => ?_
    repeat' (first | (refine O_ef rfl (Ef_boxa WideF.wide (cs := [.int .i64 _, .int .i64 _, sv s]) rfl rfl ?_); intro b1) | refine O_nil ?_ | refine A_seq ?_ | refine A_region ?_ | refine A_ret ?_ | refine A_block ?_ | (show opsA _ _ _ _ _ _ _; first | refine O_ev WideF.wide rfl (Ev_pure rfl) rfl rfl ?_ | (show opsA _ _ _ _ (⟨_, .load _ _, _, _, _, _⟩ :: _) _ _; refine O_ev WideF.wide rfl (Ev_loadB1 (i := 0) rfl rfl rfl) rfl rfl ?_) | (show opsA _ _ _ _ (⟨_, .fieldAddr _ _ _, _, _, _, _⟩ :: _) _ _; refine O_ev WideF.wide rfl (Ev_fieldAddr rfl rfl rfl) rfl rfl ?_)) | (show wpA _ _ _ (.cond _ _ _) _ _ _ _; (refine A_if rfl (fun h => ?_) (fun h => ?_) <;> try (exfalso; omega))))
    all_goals first
      | (exfalso; omega)
      | exact End_p (Ret1 rfl rfl) rfl
      | trace_state
  by_cases k3 : k = 3
  · subst k3
    refine Fn_of _ _ Tryz.func29 rfl Tryz.ntmps29 rfl fun c => ?_
    repeat' (first | (refine O_ef rfl (Ef_boxa WideF.wide (cs := [.int .i64 _, .int .i64 _, sv s]) rfl rfl ?_); intro b1) | (refine O_ef rfl (Ef_callp WideF.wide (kb) ⟨rfl, trivial⟩ rfl ?_)) | refine O_nil ?_ | refine A_seq ?_ | refine A_region ?_ | refine A_ret ?_ | refine A_block ?_ | (show opsA _ _ _ _ _ _ _; first | refine O_ev WideF.wide rfl (Ev_pure rfl) rfl rfl ?_ | (show opsA _ _ _ _ (⟨_, .load _ _, _, _, _, _⟩ :: _) _ _; refine O_ev WideF.wide rfl (Ev_loadB1 (i := 0) rfl rfl rfl) rfl rfl ?_) | (show opsA _ _ _ _ (⟨_, .fieldAddr _ _ _, _, _, _, _⟩ :: _) _ _; refine O_ev WideF.wide rfl (Ev_fieldAddr rfl rfl rfl) rfl rfl ?_)) | (show wpA _ _ _ (.cond _ _ _) _ _ _ _; (refine A_if rfl (fun h => ?_) (fun h => ?_) <;> try (exfalso; omega))))
    all_goals first
      | (exfalso; omega)
      | exact End_p (Ret1 rfl rfl) rfl
      | trace_state
  · rw [if_neg k1, if_neg k2, if_neg k3]
    refine Fn_of _ _ Tryz.func29 rfl Tryz.ntmps29 rfl fun c => ?_
    repeat' (first | (refine O_ef rfl (Ef_boxa WideF.wide (cs := [.int .i64 _, .int .i64 _, sv s]) rfl rfl ?_); intro b1) | refine O_nil ?_ | refine A_seq ?_ | refine A_region ?_ | refine A_skip ?_ | refine A_ret ?_ | refine A_block ?_ | (show opsA _ _ _ _ _ _ _; first | refine O_ev WideF.wide rfl (Ev_pure rfl) rfl rfl ?_ | (show opsA _ _ _ _ (⟨_, .load _ _, _, _, _, _⟩ :: _) _ _; refine O_ev WideF.wide rfl (Ev_loadB1 (i := 0) rfl rfl rfl) rfl rfl ?_) | (show opsA _ _ _ _ (⟨_, .fieldAddr _ _ _, _, _, _, _⟩ :: _) _ _; refine O_ev WideF.wide rfl (Ev_fieldAddr rfl rfl rfl) rfl rfl ?_)) | (show wpA _ _ _ (.cond _ _ _) _ _ _ _; (refine A_if rfl (fun h => ?_) (fun h => ?_) <;> try (exfalso; omega))))
    all_goals first
      | (exfalso; omega)
      | exact End_p (Ret1 rfl rfl) rfl
      | trace_state

end Go.Proofs.YtnoadopmeoohmaaGreatDoor
