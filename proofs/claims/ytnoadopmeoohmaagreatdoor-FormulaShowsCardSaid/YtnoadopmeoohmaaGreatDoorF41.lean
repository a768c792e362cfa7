/-
  The law Shows: its plain part. Numbers and their texts.
  The law's decimal, show, integer; Read; the law Shows. Printed by genF41.py.
-/
import Derived.Test.YtnoadopmeoohmaaGreatDoorF36
namespace Go.Proofs.YtnoadopmeoohmaaGreatDoor
open Go
set_option linter.unusedVariables false
set_option linter.unusedSimpArgs false
section
def trueS : List UInt8 := [116, 114, 117, 101]
def falseS : List UInt8 := [102, 97, 108, 115, 101]
/-- what the law's integer gives -/
def intR (s : List UInt8) : Int × Int :=
  if (digR (Lib.trimPrefix s [45])).2 ≠ 0 then (0, (digR (Lib.trimPrefix s [45])).2)
  else (if (Lib.trimPrefix s [45]).length < s.length then -(digR (Lib.trimPrefix s [45])).1 else (digR (Lib.trimPrefix s [45])).1, 0)
theorem toNum_txt (s : List UInt8) : toNum (txtV s) = if (intR s).2 ≠ 0 then (zV, (intR s).2) else (numV (intR s).1, 0) := by
  have hb := digR_b (Lib.trimPrefix s [45])
  have e : toNum (txtV s) = if (digR (Lib.trimPrefix s [45])).2 ≠ 0 then (zV, (digR (Lib.trimPrefix s [45])).2)
    else (numV (if (Lib.trimPrefix s [45]).length < s.length then w64 (0 - (digR (Lib.trimPrefix s [45])).1) else (digR (Lib.trimPrefix s [45])).1), 0) := by
    unfold toNum
    rw [if_neg (fun h => h rfl)]
    rfl
  rw [e]
  unfold intR
  by_cases h : (digR (Lib.trimPrefix s [45])).2 = 0
  · simp only [h, ne_eq, not_true_eq_false, if_false]
    rw [w64_self _ ⟨by omega, by omega⟩, Int.zero_sub]
  · simp only [h, ne_eq, not_false_eq_true, if_true]
def rdV (s : List UInt8) : Val := if s = trueS ∨ s = falseS then booV (decide (s = trueS)) else if (intR s).2 = 0 ∧ s ≠ [45, 48] then numV (intR s).1 else txtV s
theorem trim_dash (t : List UInt8) : Lib.trimPrefix (45 :: t) [45] = t := by simp [Lib.trimPrefix, Lib.hasPrefix]
theorem trim_other {s : List UInt8} (h : s.head? ≠ some 45) : Lib.trimPrefix s [45] = s := by
  cases s with
  | nil => rfl
  | cons c r =>
    have h1 : ¬ c = 45 := fun h9 => h (by rw [h9]; rfl)
    unfold Lib.trimPrefix Lib.hasPrefix
    rw [if_neg]
    simp
    exact fun h9 => h1 (by first | exact h9 | exact h9.symm)
theorem dval_append : ∀ (a b : List UInt8) (n : Nat), dval (a ++ b) n = dval b (dval a n)
  | [], _, _ => rfl
  | _ :: a, b, _ => dval_append a b _
theorem dval_pos {c : UInt8} {r : List UInt8} (h : isDg c = true) (h0 : c ≠ 48) (n : Nat) : 1 ≤ dval (c :: r) n := by
  have h1 := isDg_bounds h
  have hc : c.toNat ≠ 48 := fun h9 => h0 ((byte_eq c 48 (by decide)).2 h9)
  have h2 := dval_ge r (n * 10 + (c.toNat - 48))
  show 1 ≤ dval r (n * 10 + (c.toNat - 48))
  omega
theorem dec_dval : ∀ (n : Nat) (t : List UInt8), t.length = n → t ≠ [] → (∀ b ∈ t, isDg b = true) → ¬ (1 < t.length ∧ t.head? = some 48) → Lib.decDigits (dval t 0) = t := by
  intro n
  induction n with
  | zero => intro t hl h0; exact absurd (List.length_eq_zero_iff.1 hl) h0
  | succ n ih =>
    intro t hl h0 hd hz
    obtain ⟨u, c, rfl⟩ : ∃ u c, t = u ++ [c] := ⟨t.dropLast, t.getLast h0, (List.dropLast_concat_getLast h0).symm⟩
    have hc := isDg_bounds (hd c (by simp))
    have e : dval (u ++ [c]) 0 = dval u 0 * 10 + (c.toNat - 48) := by rw [dval_append]; rfl
    have ec : UInt8.ofNat (48 + (c.toNat - 48)) = c := by rw [show 48 + (c.toNat - 48) = c.toNat by omega]; simp
    rw [e]
    by_cases hu : u = []
    · subst hu
      have h9 : dval [] 0 = 0 := rfl
      rw [h9, Lib.decDigits, dif_pos (by omega), show 48 + (0 * 10 + (c.toNat - 48)) = 48 + (c.toNat - 48) by omega, ec]
      rfl
    · have hhd : (u ++ [c]).head? = u.head? := by cases u with | nil => exact absurd rfl hu | cons d r => rfl
      have hul : 0 < u.length := List.length_pos_iff.2 hu
      have h48 : u.head? ≠ some 48 := fun h9 => hz ⟨by simp; omega, by rw [hhd, h9]⟩
      have hp : 1 ≤ dval u 0 := by
        cases u with
        | nil => exact absurd rfl hu
        | cons d r => exact dval_pos (hd d (by simp)) (fun h9 => h48 (by rw [h9]; rfl)) 0
      rw [Lib.decDigits, dif_neg (by omega)]
      have h1 : (dval u 0 * 10 + (c.toNat - 48)) / 10 = dval u 0 := by omega
      have h2 : (dval u 0 * 10 + (c.toNat - 48)) % 10 = c.toNat - 48 := by omega
      rw [h1, h2, ec, ih u (by simpa using hl) hu (fun b hb => hd b (by simp [hb])) (fun h9 => h48 h9.2)]
theorem digR_ok {p : List UInt8} (h : (digR p).2 = 0) : p ≠ [] ∧ (∀ b ∈ p, isDg b = true) ∧ ¬ (1 < p.length ∧ p.head? = some 48) ∧ (digR p).1 = ((dval p 0 : Nat) : Int) := by
  unfold digR at h ⊢
  by_cases h1 : p = [] ∨ p.any (fun b => !isDg b) = true ∨ (1 < p.length ∧ p.head? = some 48)
  · rw [if_pos h1] at h; exact absurd h (by decide)
  · rw [if_neg h1] at h ⊢
    by_cases h2 : 1099511627776 < dval p 0
    · rw [if_pos h2] at h; exact absurd h (by decide)
    · rw [if_neg h2] at h ⊢
      refine ⟨fun h9 => h1 (.inl h9), fun b hb => ?_, fun h9 => h1 (.inr (.inr h9)), rfl⟩
      cases hd : isDg b with
      | true => rfl
      | false => exact absurd (.inr (.inl (List.any_eq_true.2 ⟨b, hb, by rw [hd]; rfl⟩))) h1
theorem shw_rd (s : List UInt8) : shwV (rdV s) = s := by
  unfold rdV
  by_cases ht : s = trueS ∨ s = falseS
  · rw [if_pos ht]
    rcases ht with rfl | rfl
    · rw [decide_eq_true rfl]; rfl
    · rw [decide_eq_false (by decide)]; rfl
  rw [if_neg ht]
  by_cases hi : (intR s).2 = 0 ∧ s ≠ [45, 48]
  · rw [if_pos hi]
    obtain ⟨hi, hne⟩ := hi
    show Lib.itoa (intR s).1 = s
    have h0 : (digR (Lib.trimPrefix s [45])).2 = 0 := by
      unfold intR at hi
      by_cases h : (digR (Lib.trimPrefix s [45])).2 = 0
      · exact h
      · rw [if_pos h] at hi; exact hi
    obtain ⟨p0, p1, p2, p3⟩ := digR_ok h0
    have hdec := dec_dval _ _ rfl p0 p1 p2
    have e : (intR s).1 = if (Lib.trimPrefix s [45]).length < s.length then -((dval (Lib.trimPrefix s [45]) 0 : Nat) : Int) else ((dval (Lib.trimPrefix s [45]) 0 : Nat) : Int) := by
      unfold intR
      rw [if_neg (fun h => h h0), p3]
    rw [e]
    by_cases hh : s.head? = some 45
    · obtain ⟨t, rfl⟩ : ∃ t, s = 45 :: t := by
        cases s with
        | nil => cases hh
        | cons c r => exact ⟨r, by rw [List.head?_cons, Option.some.injEq] at hh; rw [hh]⟩
      rw [trim_dash] at hdec ⊢
      rw [if_pos (by simp)]
      have hpos : 1 ≤ dval t 0 := by
        rcases Nat.eq_zero_or_pos (dval t 0) with h9 | h9
        · rw [h9, Lib.decDigits, dif_pos (by decide)] at hdec
          exact absurd (by rw [← hdec]; rfl) hne
        · exact h9
      unfold Lib.itoa
      rw [if_pos (by omega), show (-((dval t 0 : Nat) : Int)).natAbs = dval t 0 by omega, hdec]
    · rw [trim_other hh] at hdec ⊢
      rw [if_neg (by omega)]
      unfold Lib.itoa
      rw [if_neg (by omega), Int.toNat_natCast, hdec]
  · rw [if_neg hi]
    rfl
/-! the law's decimal -/
theorem dec_tdiv {n : Int} (h : n < 0) : (n.tdiv 10).natAbs = n.natAbs / 10 := by rw [Int.natAbs_tdiv]; rfl
theorem itoa_n1 {n : Int} (h : n < 0) (h2 : -10 < n) : Lib.itoa n = [45, UInt8.ofNat (48 - n).toNat] := by
  unfold Lib.itoa
  rw [if_pos h, Lib.decDigits, dif_pos (by omega), show (48 - n).toNat = 48 + n.natAbs by omega]
theorem itoa_n2 {n : Int} (h : n ≤ -10) : Lib.itoa n = Lib.itoa (n.tdiv 10) ++ [UInt8.ofNat (48 - n.tmod 10).toNat] := by
  have e1 := dec_tdiv (n := n) (by omega)
  have e2 := Int.mul_tdiv_add_tmod n 10
  have hq : n.tdiv 10 < 0 := by
    have : ((n.tdiv 10).natAbs : Int) = n.natAbs / 10 := by rw [e1]; rfl
    have h3 := Int.tmod_lt_of_pos n (show (0 : Int) < 10 by decide)
    have h4 := Int.lt_tmod_of_pos n (show (0 : Int) < 10 by decide)
    omega
  have h4 := Int.lt_tmod_of_pos n (show (0 : Int) < 10 by decide)
  have h3 := Int.tmod_lt_of_pos n (show (0 : Int) < 10 by decide)
  unfold Lib.itoa
  rw [if_pos (by omega), if_pos hq, Lib.decDigits, dif_neg (by omega), e1, show (48 - n.tmod 10).toNat = 48 + n.natAbs % 10 by omega]
  rfl
theorem itoa_p1 {n : Int} (h : 0 ≤ n) (h2 : n < 10) : Lib.itoa n = [UInt8.ofNat (48 + n).toNat] := by
  unfold Lib.itoa
  rw [if_neg (by omega), Lib.decDigits, dif_pos (by omega), show (48 + n).toNat = 48 + n.toNat by omega]
theorem itoa_p2 {n : Int} (h : 10 ≤ n) : Lib.itoa n = Lib.itoa (n / 10) ++ [UInt8.ofNat (48 + n % 10).toNat] := by
  unfold Lib.itoa
  rw [if_neg (by omega), if_neg (by omega), Lib.decDigits, dif_neg (by omega), show (n / 10).toNat = n.toNat / 10 by omega, show (48 + n % 10).toNat = 48 + n.toNat % 10 by omega]
end
def DecC (N : Nat) : Prop := ∀ (H : Hp) (n : Int), I64 n → n.natAbs < N → FnP Tryz.prog 51 [.int .i64 n] H (sv (Lib.itoa n))
attribute [local irreducible] wpA opsA drJ drQ drE Ef Ev Shift Fn
set_option maxRecDepth 100000 in
set_option maxHeartbeats 4000000 in
theorem decimal_step {N : Nat} (hN : DecC N) : DecC (N + 1) := by
  intro H n hn hlt
  obtain ⟨hn0, hn1⟩ := hn
  by_cases hA : n < 0 ∧ -10 < n
  · rw [itoa_n1 hA.1 hA.2]
    refine Fn_of _ _ Tryz.func51 rfl Tryz.ntmps51 rfl fun c => ?_
    repeat' (first | (refine O_ev WideF.wide rfl (Ev_sub rfl rfl (wi64 (by omega))) rfl rfl ?_) | (refine O_ev WideF.wide rfl (Ev_conv (k2 := .u8) rfl (wu8 (by omega))) rfl rfl ?_) | (refine O_ev WideF.wide rfl (Ev_conv1 (i := 0) rfl rfl (by omega)) rfl rfl ?_) | (refine O_ev WideF.wide rfl (Ev_scat rfl rfl (by simp)) rfl rfl ?_) | refine O_nil ?_ | refine A_seq ?_ | refine A_region ?_ | refine A_ret ?_ | (show opsA _ _ _ _ _ _ _; first | (refine O_split rfl rfl (fun h => ?_) (fun h => ?_) <;> try (exfalso; omega)) | refine O_ev WideF.wide rfl (Ev_pure rfl) rfl rfl ?_ | (show opsA _ _ _ _ (⟨_, .buildSlice _ _ _, _, _, _, _⟩ :: _) _ _; (refine O_ef rfl (Ef_build11 WideF.wide rfl rfl rfl ?_); intro b))) | (show wpA _ _ _ (.cond _ _ _) _ _ _ _; (refine A_if rfl (fun h => ?_) (fun h => ?_) <;> try (exfalso; omega))))
    all_goals first
      | (exfalso; omega)
      | (exfalso; contradiction)
      | (exfalso; exact absurd trivial (by assumption))
      | (exfalso; exact absurd rfl (by assumption))
      | exact End_p (Ret1 rfl rfl) rfl
      | trace_state
  by_cases hB : n < 0
  · have hq := Int.mul_tdiv_add_tmod n 10
    have h3 := Int.tmod_lt_of_pos n (show (0 : Int) < 10 by decide)
    have h4 := Int.lt_tmod_of_pos n (show (0 : Int) < 10 by decide)
    have h5 := dec_tdiv hB
    have hI : I64 (n.tdiv 10) := ⟨by omega, by omega⟩
    have hr := hN H (n.tdiv 10) hI (by omega)
    have hlen := itoa_len hI
    rw [itoa_n2 (by omega)]
    refine Fn_of _ _ Tryz.func51 rfl Tryz.ntmps51 rfl fun c => ?_
    repeat' (first | (refine A_drawM WideF.wide (.q 0 (.q 1 (.q 3 (.q 4 (.q 5 (.q 6 (.f 2 (.e 7 (.e 8 (.q 9 (.q 10 (.done []))))) 7 (.f 2 (.e 8 (.q 9 (.q 10 (.done [])))) 8 (.e 2 (.q 9 (.q 10 (.done [])))))))))))) [] (by decide +kernel) ?_) | (refine D_ev rfl (Ev_quo rfl rfl (by decide) (wi64 (by omega))) rfl rfl ?_) | (refine D_ev rfl (Ev_rem rfl rfl (by decide)) rfl rfl ?_) | (refine D_ev rfl (Ev_conv (k2 := .u8) rfl (wu8 (by omega))) rfl rfl ?_) | (refine E_ef rfl (Ef_ev WideF.wide (Ev_conv1 (i := 0) rfl rfl (by omega)) rfl rfl ?_); refine ⟨Grow.same rfl rfl, ?_⟩) | (refine E_ef rfl (Ef_callp WideF.wide (hr) ⟨rfl, trivial⟩ rfl ?_); refine ⟨Grow.same rfl rfl, ?_⟩) | (refine D_ev rfl (Ev_scat rfl rfl (by simp; omega)) rfl rfl ?_) | refine O_nil ?_ | refine A_seq ?_ | refine A_region ?_ | refine A_skip ?_ | refine A_ret ?_ | (show drJ _ _ _ _ _ _ _ (.q _ _) _; refine D_q rfl ?_) | (show drJ _ _ _ _ _ _ _ (.e _ _) _; refine D_e rfl ?_) | (show drJ _ _ _ _ _ _ _ (.f _ _ _ _) _; refine D_f rfl rfl ?_ ?_) | (show drJ _ _ _ _ _ _ _ (.done _) _; refine D_done ?_; simp only [List.cons_append, List.nil_append]) | (show drQ _ _ _ _ _ _; first | refine D_ev rfl (Ev_pure rfl) rfl rfl ?_ | (show drQ _ _ _ ⟨_, .binOp _ _ _ _ _, _, _, _, _⟩ _ _; refine D_ev rfl (Ev_sub rfl rfl (wi64 (by omega))) rfl rfl ?_)) | (show drE _ _ _ _ _ _ _; (show drE _ _ _ _ ⟨_, .buildSlice _ _ _, _, _, _, _⟩ _ _; (refine E_ef rfl (Ef_build11 WideF.wide rfl rfl rfl ?_); intro b; refine ⟨Grow.same rfl rfl, ?_⟩))) | (show opsA _ _ _ _ _ _ _; first | (refine O_split rfl rfl (fun h => ?_) (fun h => ?_) <;> try (exfalso; omega)) | refine O_ev WideF.wide rfl (Ev_pure rfl) rfl rfl ?_) | (show wpA _ _ _ (.cond _ _ _) _ _ _ _; (refine A_if rfl (fun h => ?_) (fun h => ?_) <;> try (exfalso; omega))))
    all_goals first
      | (exfalso; omega)
      | (exfalso; contradiction)
      | (exfalso; exact absurd trivial (by assumption))
      | (exfalso; exact absurd rfl (by assumption))
      | exact End_p (Ret1 rfl rfl) rfl
      | trace_state
  by_cases hC : n < 10
  · rw [itoa_p1 (by omega) hC]
    refine Fn_of _ _ Tryz.func51 rfl Tryz.ntmps51 rfl fun c => ?_
    repeat' (first | (refine O_ev WideF.wide rfl (Ev_conv (k2 := .u8) rfl (wu8 (by omega))) rfl rfl ?_) | (refine O_ev WideF.wide rfl (Ev_conv1 (i := 0) rfl rfl (by omega)) rfl rfl ?_) | refine O_nil ?_ | refine A_seq ?_ | refine A_region ?_ | refine A_skip ?_ | refine A_ret ?_ | (show opsA _ _ _ _ _ _ _; first | (refine O_split rfl rfl (fun h => ?_) (fun h => ?_) <;> try (exfalso; omega)) | refine O_ev WideF.wide rfl (Ev_pure rfl) rfl rfl ?_ | (show opsA _ _ _ _ (⟨_, .buildSlice _ _ _, _, _, _, _⟩ :: _) _ _; (refine O_ef rfl (Ef_build11 WideF.wide rfl rfl rfl ?_); intro b)) | (show opsA _ _ _ _ (⟨_, .binOp _ _ _ _ _, _, _, _, _⟩ :: _) _ _; refine O_ev WideF.wide rfl (Ev_add rfl rfl (wi64 (by omega))) rfl rfl ?_) | refine O_skip WideF.wide rfl rfl rfl ?_) | (show wpA _ _ _ (.cond _ _ _) _ _ _ _; first | (refine A_if rfl (fun h => ?_) (fun h => ?_) <;> try (exfalso; omega)) | refine A_iffalse rfl ?_))
    all_goals first
      | (exfalso; omega)
      | (exfalso; contradiction)
      | (exfalso; exact absurd trivial (by assumption))
      | (exfalso; exact absurd rfl (by assumption))
      | exact End_p (Ret1 rfl rfl) rfl
      | trace_state
  · have hI : I64 (n / 10) := ⟨by omega, by omega⟩
    have hr := hN H (n / 10) hI (by omega)
    have hlen := itoa_len hI
    rw [itoa_p2 (by omega)]
    refine Fn_of _ _ Tryz.func51 rfl Tryz.ntmps51 rfl fun c => ?_
    repeat' (first | (refine A_drawM WideF.wide (.q 0 (.q 1 (.q 3 (.q 4 (.q 5 (.q 6 (.f 2 (.e 7 (.e 8 (.q 9 (.q 10 (.done []))))) 7 (.f 2 (.e 8 (.q 9 (.q 10 (.done [])))) 8 (.e 2 (.q 9 (.q 10 (.done [])))))))))))) [] (by decide +kernel) ?_) | (refine D_ev rfl (Ev_conv (k2 := .u8) rfl (wu8 (by omega))) rfl rfl ?_) | (refine E_ef rfl (Ef_ev WideF.wide (Ev_conv1 (i := 0) rfl rfl (by omega)) rfl rfl ?_); refine ⟨Grow.same rfl rfl, ?_⟩) | (refine E_ef rfl (Ef_callp WideF.wide (hr) ⟨rfl, trivial⟩ rfl ?_); refine ⟨Grow.same rfl rfl, ?_⟩) | (refine D_ev rfl (Ev_scat rfl rfl (by simp; omega)) rfl rfl ?_) | refine O_nil ?_ | refine A_seq ?_ | refine A_region ?_ | refine A_skip ?_ | refine A_ret ?_ | (show drJ _ _ _ _ _ _ _ (.q _ _) _; refine D_q rfl ?_) | (show drJ _ _ _ _ _ _ _ (.e _ _) _; refine D_e rfl ?_) | (show drJ _ _ _ _ _ _ _ (.f _ _ _ _) _; refine D_f rfl rfl ?_ ?_) | (show drJ _ _ _ _ _ _ _ (.done _) _; refine D_done ?_; simp only [List.cons_append, List.nil_append]) | (show drQ _ _ _ _ _ _; first | refine D_ev rfl (Ev_pure rfl) rfl rfl ?_ | (show drQ _ _ _ ⟨_, .binOp _ _ _ _ _, _, _, _, _⟩ _ _; first | refine D_ev rfl (Ev_add rfl rfl (wi64 (by omega))) rfl rfl ?_ | refine D_ev rfl (Ev_quop rfl rfl (by omega) (by omega)) rfl rfl ?_ | refine D_ev rfl (Ev_remp rfl rfl (by omega) (by omega)) rfl rfl ?_)) | (show drE _ _ _ _ _ _ _; (show drE _ _ _ _ ⟨_, .buildSlice _ _ _, _, _, _, _⟩ _ _; (refine E_ef rfl (Ef_build11 WideF.wide rfl rfl rfl ?_); intro b; refine ⟨Grow.same rfl rfl, ?_⟩))) | (show opsA _ _ _ _ _ _ _; first | (refine O_split rfl rfl (fun h => ?_) (fun h => ?_) <;> try (exfalso; omega)) | refine O_ev WideF.wide rfl (Ev_pure rfl) rfl rfl ?_ | refine O_skip WideF.wide rfl rfl rfl ?_) | (show wpA _ _ _ (.cond _ _ _) _ _ _ _; first | (refine A_if rfl (fun h => ?_) (fun h => ?_) <;> try (exfalso; omega)) | refine A_iffalse rfl ?_))
    all_goals first
      | (exfalso; omega)
      | (exfalso; contradiction)
      | (exfalso; exact absurd trivial (by assumption))
      | (exfalso; exact absurd rfl (by assumption))
      | exact End_p (Ret1 rfl rfl) rfl
      | trace_state
theorem decimal_all : ∀ N, DecC N
  | 0 => fun _ _ _ h => absurd h (by omega)
  | N + 1 => decimal_step (decimal_all N)
theorem decimal_fn {H : Hp} {n : Int} (hn : I64 n) : FnP Tryz.prog 51 [.int .i64 n] H (sv (Lib.itoa n)) := decimal_all (n.natAbs + 1) H n hn (by omega)
set_option maxRecDepth 100000 in
theorem show_fn {H : Hp} {x : Val} (hx : I64 x.num) : FnP Tryz.prog 30 [rV x] H (sv (shwV x)) := by
  obtain ⟨k, n, s⟩ := x
  dsimp only at hx
  have ki := decimal_fn (H := H) hx
  have e : shwV ⟨k, n, s⟩ = if k = 1 then Lib.itoa n else if k = 2 then s else if k = 3 then fbool (decide (n = 1)) else [] := rfl
  rw [e]
  show FnP Tryz.prog 30 [.agg [.int .i64 k, .int .i64 n, sv s].toArray] H _
  by_cases k1 : k = 1
  · subst k1
    refine Fn_of _ _ Tryz.func30 rfl Tryz.ntmps30 rfl fun c => ?_
    repeat' (first | (refine O_ef rfl (Ef_boxa WideF.wide (cs := [.int .i64 _, .int .i64 _, sv s]) rfl rfl ?_); intro b1) | (refine O_ef rfl (Ef_callp WideF.wide (ki) ⟨rfl, trivial⟩ rfl ?_)) | refine O_nil ?_ | refine A_seq ?_ | refine A_region ?_ | refine A_ret ?_ | refine A_block ?_ | (show opsA _ _ _ _ _ _ _; first | refine O_ev WideF.wide rfl (Ev_pure rfl) rfl rfl ?_ | (show opsA _ _ _ _ (⟨_, .load _ _, _, _, _, _⟩ :: _) _ _; refine O_ev WideF.wide rfl (Ev_loadB1 (i := 0) rfl rfl rfl) rfl rfl ?_) | (show opsA _ _ _ _ (⟨_, .fieldAddr _ _ _, _, _, _, _⟩ :: _) _ _; refine O_ev WideF.wide rfl (Ev_fieldAddr rfl rfl rfl) rfl rfl ?_)) | (show wpA _ _ _ (.cond _ _ _) _ _ _ _; (refine A_if rfl (fun h => ?_) (fun h => ?_) <;> try (exfalso; omega))))
    all_goals first
      | (exfalso; omega)
      | (exfalso; contradiction)
      | (exfalso; exact absurd trivial (by assumption))
      | (exfalso; exact absurd rfl (by assumption))
      | exact End_p (Ret1 rfl rfl) rfl
      | trace_state
  by_cases k2 : k = 2
  · subst k2
    refine Fn_of _ _ Tryz.func30 rfl Tryz.ntmps30 rfl fun c => ?_
    repeat' (first | (refine O_ef rfl (Ef_boxa WideF.wide (cs := [.int .i64 _, .int .i64 _, sv s]) rfl rfl ?_); intro b1) | refine O_nil ?_ | refine A_seq ?_ | refine A_region ?_ | refine A_ret ?_ | refine A_block ?_ | (show opsA _ _ _ _ _ _ _; first | refine O_ev WideF.wide rfl (Ev_pure rfl) rfl rfl ?_ | (show opsA _ _ _ _ (⟨_, .load _ _, _, _, _, _⟩ :: _) _ _; refine O_ev WideF.wide rfl (Ev_loadB1 (i := 0) rfl rfl rfl) rfl rfl ?_) | (show opsA _ _ _ _ (⟨_, .fieldAddr _ _ _, _, _, _, _⟩ :: _) _ _; refine O_ev WideF.wide rfl (Ev_fieldAddr rfl rfl rfl) rfl rfl ?_)) | (show wpA _ _ _ (.cond _ _ _) _ _ _ _; (refine A_if rfl (fun h => ?_) (fun h => ?_) <;> try (exfalso; omega))))
    all_goals first
      | (exfalso; omega)
      | (exfalso; contradiction)
      | (exfalso; exact absurd trivial (by assumption))
      | (exfalso; exact absurd rfl (by assumption))
      | exact End_p (Ret1 rfl rfl) rfl
      | trace_state
  by_cases k3 : k = 3
  · subst k3
    by_cases n1 : n = 1
    · subst n1
      refine Fn_of _ _ Tryz.func30 rfl Tryz.ntmps30 rfl fun c => ?_
      repeat' (first | (refine O_ef rfl (Ef_boxa WideF.wide (cs := [.int .i64 _, .int .i64 _, sv s]) rfl rfl ?_); intro b1) | refine O_nil ?_ | refine A_seq ?_ | refine A_region ?_ | refine A_ret ?_ | refine A_block ?_ | (show opsA _ _ _ _ _ _ _; first | refine O_ev WideF.wide rfl (Ev_pure rfl) rfl rfl ?_ | (show opsA _ _ _ _ (⟨_, .load _ _, _, _, _, _⟩ :: _) _ _; refine O_ev WideF.wide rfl (Ev_loadB1 (i := 0) rfl rfl rfl) rfl rfl ?_) | (show opsA _ _ _ _ (⟨_, .fieldAddr _ _ _, _, _, _, _⟩ :: _) _ _; refine O_ev WideF.wide rfl (Ev_fieldAddr rfl rfl rfl) rfl rfl ?_)) | (show wpA _ _ _ (.cond _ _ _) _ _ _ _; (refine A_if rfl (fun h => ?_) (fun h => ?_) <;> try (exfalso; omega))))
      all_goals first
        | (exfalso; omega)
        | (exfalso; contradiction)
        | (exfalso; exact absurd trivial (by assumption))
        | (exfalso; exact absurd rfl (by assumption))
        | exact End_p (Ret1 rfl rfl) rfl
        | trace_state
    · rw [if_neg (by decide), if_neg (by decide), if_pos rfl, decide_eq_false n1]
      refine Fn_of _ _ Tryz.func30 rfl Tryz.ntmps30 rfl fun c => ?_
      repeat' (first | (refine O_ef rfl (Ef_boxa WideF.wide (cs := [.int .i64 _, .int .i64 _, sv s]) rfl rfl ?_); intro b1) | refine O_nil ?_ | refine A_seq ?_ | refine A_region ?_ | refine A_skip ?_ | refine A_ret ?_ | refine A_block ?_ | (show opsA _ _ _ _ _ _ _; first | refine O_ev WideF.wide rfl (Ev_pure rfl) rfl rfl ?_ | (show opsA _ _ _ _ (⟨_, .load _ _, _, _, _, _⟩ :: _) _ _; refine O_ev WideF.wide rfl (Ev_loadB1 (i := 0) rfl rfl rfl) rfl rfl ?_) | (show opsA _ _ _ _ (⟨_, .fieldAddr _ _ _, _, _, _, _⟩ :: _) _ _; refine O_ev WideF.wide rfl (Ev_fieldAddr rfl rfl rfl) rfl rfl ?_)) | (show wpA _ _ _ (.cond _ _ _) _ _ _ _; (refine A_if rfl (fun h => ?_) (fun h => ?_) <;> try (exfalso; omega))))
      all_goals first
        | (exfalso; omega)
        | (exfalso; contradiction)
        | (exfalso; exact absurd trivial (by assumption))
        | (exfalso; exact absurd rfl (by assumption))
        | exact End_p (Ret1 rfl rfl) rfl
        | trace_state
  · rw [if_neg k1, if_neg k2, if_neg k3]
    refine Fn_of _ _ Tryz.func30 rfl Tryz.ntmps30 rfl fun c => ?_
    repeat' (first | (refine O_ef rfl (Ef_boxa WideF.wide (cs := [.int .i64 _, .int .i64 _, sv s]) rfl rfl ?_); intro b1) | refine O_nil ?_ | refine A_seq ?_ | refine A_region ?_ | refine A_skip ?_ | refine A_ret ?_ | refine A_block ?_ | (show opsA _ _ _ _ _ _ _; first | refine O_ev WideF.wide rfl (Ev_pure rfl) rfl rfl ?_ | (show opsA _ _ _ _ (⟨_, .load _ _, _, _, _, _⟩ :: _) _ _; refine O_ev WideF.wide rfl (Ev_loadB1 (i := 0) rfl rfl rfl) rfl rfl ?_) | (show opsA _ _ _ _ (⟨_, .fieldAddr _ _ _, _, _, _, _⟩ :: _) _ _; refine O_ev WideF.wide rfl (Ev_fieldAddr rfl rfl rfl) rfl rfl ?_)) | (show wpA _ _ _ (.cond _ _ _) _ _ _ _; (refine A_if rfl (fun h => ?_) (fun h => ?_) <;> try (exfalso; omega))))
    all_goals first
      | (exfalso; omega)
      | (exfalso; contradiction)
      | (exfalso; exact absurd trivial (by assumption))
      | (exfalso; exact absurd rfl (by assumption))
      | exact End_p (Ret1 rfl rfl) rfl
      | trace_state

theorem dval_take {p : List UInt8} {i : Nat} (h : i < p.length) : ((dval (p.take (i + 1)) 0 : Nat) : Int) = ((dval (p.take i) 0 : Nat) : Int) * 10 + (((p[i]).toNat - 48 : Nat) : Int) := by
  rw [take_getN (List.getElem?_eq_getElem h), dval_append]
  simp [dval]
theorem dval_mono {p : List UInt8} (i : Nat) : dval (p.take i) 0 ≤ dval p 0 := by
  have h := dval_append (p.take i) (p.drop i) 0
  rw [List.take_append_drop] at h
  rw [h]
  exact dval_ge _ _
theorem digR_bad {p : List UInt8} (h : p = [] ∨ (1 < p.length ∧ p.head? = some 48)) : digR p = (0, 14) := by
  unfold digR
  rw [if_pos (h.elim .inl fun h => .inr (.inr h))]
theorem digR_no {p : List UInt8} {b : UInt8} (hb : b ∈ p) (h : isDg b = false) : digR p = (0, 14) := by
  unfold digR
  rw [if_pos (.inr (.inl (List.any_eq_true.2 ⟨b, hb, by rw [h]; rfl⟩)))]
theorem digR_good {p : List UInt8} (h0 : p ≠ []) (hz : ¬ (1 < p.length ∧ p.head? = some 48)) (h : ∀ b ∈ p, isDg b = true) : digR p = (if 1099511627776 < dval p 0 then ((0 : Int), (29 : Int)) else (((dval p 0 : Nat) : Int), (0 : Int))) := by
  unfold digR
  rw [if_neg]
  rintro (h1 | h1 | h1)
  · exact h0 h1
  · obtain ⟨b, hb, h2⟩ := List.any_eq_true.1 h1
    rw [h b hb] at h2
    exact absurd h2 (by decide)
  · exact hz h1
theorem intR_of {s p : List UInt8} {a b : Int} (hp : Lib.trimPrefix s [45] = p) (hd : digR p = (a, b)) : intR s = if b ≠ 0 then (0, b) else (if p.length < s.length then -a else a, 0) := by
  unfold intR
  rw [hp, hd]

set_option maxRecDepth 100000 in
set_option maxHeartbeats 4000000 in
theorem integer_fn {H : Hp} {s : List UInt8} (hs : s.length ≤ 1000) : FnP Tryz.prog 26 [sv s] H (.tuple [.int .i64 (intR s).1, .int .i64 (intR s).2].toArray) := by
  by_cases hh : s.head? = some 45
  · obtain ⟨p, rfl⟩ : ∃ t, s = 45 :: t := by
      cases s with
      | nil => cases hh
      | cons c r => exact ⟨r, by rw [List.head?_cons, Option.some.injEq] at hh; rw [hh]⟩
    have hp := trim_dash p
    have hb : bat (45 :: p) 0 = 45 := rfl
    have hl : (45 :: p).length = p.length + 1 := rfl
    obtain ⟨s, hse⟩ : ∃ s, s = 45 :: p := ⟨_, rfl⟩
    have hd1 : s.drop 1 = p := by rw [hse]; rfl
    rw [← hse] at hp hb hl hs ⊢
    by_cases h0 : p = []
    · rw [intR_of hp (digR_bad (.inl h0)), if_pos (by decide)]
      subst h0
      refine Fn_of _ _ Tryz.func26 rfl Tryz.ntmps26 rfl fun c => ?_
      repeat' (first | (refine O_ev WideF.wide rfl (Ev_sslicel rfl rfl (by omega) (by omega)) rfl rfl ?_; rw [show List.drop (Int.toNat 1) s = _ from hd1]) | refine O_nil ?_ | refine A_seq ?_ | refine A_region ?_ | refine A_skip ?_ | refine A_ret ?_ | refine A_block ?_ | (show opsA _ _ _ _ _ _ _; first | (refine O_split rfl rfl (fun h => ?_) (fun h => ?_) <;> try (exfalso; omega)) | refine O_ev WideF.wide rfl (Ev_pure rfl) rfl rfl ?_ | (show opsA _ _ _ _ (⟨_, .call _, _, _, _, _⟩ :: _) _ _; refine O_ev WideF.wide rfl (Ev_slen rfl) rfl rfl ?_) | (show opsA _ _ _ _ (⟨_, .index _ _ _, _, _, _, _⟩ :: _) _ _; refine O_ev WideF.wide rfl (Ev_sindex rfl rfl (by omega) (by omega)) rfl rfl ?_) | refine O_skip WideF.wide rfl rfl rfl ?_) | (show wpA _ _ _ (.cond _ _ _) _ _ _ _; first | (refine A_if rfl (fun h => ?_) (fun h => ?_) <;> try (exfalso; omega)) | refine A_iftrue rfl ?_ | refine A_iffalse rfl ?_))
      all_goals first
        | (exfalso; omega)
        | (exfalso; contradiction)
        | (exfalso; exact absurd trivial (by assumption))
        | (exfalso; exact absurd rfl (by assumption))
        | exact End_p (Ret2 rfl rfl rfl) rfl
        | trace_state
    have hpos : 0 < p.length := List.length_pos_iff.2 h0
    have h48 : p.head? = some 48 ↔ bat p 0 = 48 := by
      cases p with
      | nil => exact absurd rfl h0
      | cons c r =>
        have := byte_eq c 48 (by decide)
        simp only [List.head?_cons, Option.some.injEq]
        show c = 48 ↔ ((c.toNat : Nat) : Int) = 48
        exact ⟨fun h9 => (by rw [h9]; rfl), fun h9 => this.2 (by omega)⟩
    by_cases hz : 1 < p.length ∧ bat p 0 = 48
    · rw [intR_of hp (digR_bad (.inr ⟨hz.1, h48.2 hz.2⟩)), if_pos (by decide)]
      refine Fn_of _ _ Tryz.func26 rfl Tryz.ntmps26 rfl fun c => ?_
      repeat' (first | (refine O_ev WideF.wide rfl (Ev_sslicel rfl rfl (by omega) (by omega)) rfl rfl ?_; rw [show List.drop (Int.toNat 1) s = _ from hd1]) | refine O_nil ?_ | refine A_seq ?_ | refine A_region ?_ | refine A_ret ?_ | (show opsA _ _ _ _ _ _ _; first | (refine O_split rfl rfl (fun h => ?_) (fun h => ?_) <;> try (exfalso; omega)) | refine O_ev WideF.wide rfl (Ev_pure rfl) rfl rfl ?_ | (show opsA _ _ _ _ (⟨_, .call _, _, _, _, _⟩ :: _) _ _; refine O_ev WideF.wide rfl (Ev_slen rfl) rfl rfl ?_) | (show opsA _ _ _ _ (⟨_, .index _ _ _, _, _, _, _⟩ :: _) _ _; refine O_ev WideF.wide rfl (Ev_sindex rfl rfl (by omega) (by omega)) rfl rfl ?_)) | (show wpA _ _ _ (.cond _ _ _) _ _ _ _; (refine A_if rfl (fun h => ?_) (fun h => ?_) <;> try (exfalso; omega))))
      all_goals first
        | (exfalso; omega)
        | (exfalso; contradiction)
        | (exfalso; exact absurd trivial (by assumption))
        | (exfalso; exact absurd rfl (by assumption))
        | exact End_p (Ret2 rfl rfl rfl) rfl
        | trace_state
    have hz' : ¬ (1 < p.length ∧ p.head? = some 48) := fun h => hz ⟨h.1, h48.1 h.2⟩
    by_cases hq : bat p 0 = 48
    all_goals
      refine Fn_of _ _ Tryz.func26 rfl Tryz.ntmps26 rfl fun c => ?_
      repeat' (first | (refine O_ev WideF.wide rfl (Ev_sslicel rfl rfl (by omega) (by omega)) rfl rfl ?_; rw [show List.drop (Int.toNat 1) s = _ from hd1]) | refine O_nil ?_ | refine A_seq ?_ | refine A_region ?_ | refine A_skip ?_ | refine A_block ?_ | (show opsA _ _ _ _ _ _ _; first | (refine O_split rfl rfl (fun h => ?_) (fun h => ?_) <;> try (exfalso; omega)) | refine O_ev WideF.wide rfl (Ev_pure rfl) rfl rfl ?_ | (show opsA _ _ _ _ (⟨_, .call _, _, _, _, _⟩ :: _) _ _; refine O_ev WideF.wide rfl (Ev_slen rfl) rfl rfl ?_) | (show opsA _ _ _ _ (⟨_, .index _ _ _, _, _, _, _⟩ :: _) _ _; refine O_ev WideF.wide rfl (Ev_sindex rfl rfl (by omega) (by omega)) rfl rfl ?_) | refine O_skip WideF.wide rfl rfl rfl ?_) | (show wpA _ _ _ (.cond _ _ _) _ _ _ _; first | (refine A_if rfl (fun h => ?_) (fun h => ?_) <;> try (exfalso; omega)) | refine A_iffalse rfl ?_))
      all_goals try (exfalso; omega)
      refine A_loopu (fun q s' => ∃ i : Nat, q = p.length - i ∧ i ≤ p.length ∧ (∀ (j : Nat) (c : UInt8), j < i → p[j]? = some c → isDg c = true) ∧ s' = ⟨67, [(0, sv s), (4, sv p), (5, .int .i64 i)], H, [], [], []⟩) ?_ ?_
      · exact Shift.to ⟨_, 0, rfl, by omega, fun j _ h3 => absurd h3 (by omega), rfl⟩ ⟨rfl, rfl, rfl, ⟨rfl, rfl, rfl, trivial⟩, Own.sub_nil _⟩
      rintro q s' ⟨i, rfl, hi, hall, rfl⟩
      by_cases hlt : i < p.length
      · obtain ⟨c, hc1, hc2, hc3⟩ := get_byte p i hlt
        have hcall := digit_fn (H := H) (b := bat p i)
        have e9 : decide (dgt (bat p i)) = isDg c := by rw [isDg_eq, hc2]
        rw [e9] at hcall
        cases hb : isDg c <;> rw [hb] at hcall
        · rw [intR_of hp (digR_no (List.mem_of_getElem? hc1) hb), if_pos (by decide)]
          repeat' (first | (refine O_ef rfl (Ef_callp WideF.wide (hcall) ⟨rfl, trivial⟩ rfl ?_)) | refine O_nil ?_ | refine A_seq ?_ | refine A_region ?_ | refine A_skip ?_ | refine A_ret ?_ | refine A_block ?_ | (show opsA _ _ _ _ _ _ _; first | refine O_ev WideF.wide rfl (Ev_pure rfl) rfl rfl ?_ | (show opsA _ _ _ _ (⟨_, .call _, _, _, _, _⟩ :: _) _ _; refine O_ev WideF.wide rfl (Ev_slen rfl) rfl rfl ?_) | (show opsA _ _ _ _ (⟨_, .index _ _ _, _, _, _, _⟩ :: _) _ _; refine O_ev WideF.wide rfl (Ev_sindex rfl rfl (by omega) (by omega)) rfl rfl ?_) | (show opsA _ _ _ _ (⟨_, .unOp _ _ _, _, _, _, _⟩ :: _) _ _; refine O_ev WideF.wide rfl (Ev_notb rfl) rfl rfl ?_)) | (show wpA _ _ _ (.cond _ _ _) _ _ _ _; first | (refine A_if rfl (fun h => ?_) (fun h => ?_) <;> try (exfalso; omega)) | refine A_iftrue rfl ?_))
          all_goals first
            | (exfalso; omega)
            | (exfalso; contradiction)
            | (exfalso; exact absurd trivial (by assumption))
            | (exfalso; exact absurd rfl (by assumption))
            | exact End_p (Ret2 rfl rfl rfl) rfl
            | trace_state
        · repeat' (first | (refine O_ef rfl (Ef_callp WideF.wide (hcall) ⟨rfl, trivial⟩ rfl ?_)) | refine O_nil ?_ | refine A_seq ?_ | refine A_region ?_ | refine A_skip ?_ | refine A_block ?_ | (show opsA _ _ _ _ _ _ _; first | refine O_ev WideF.wide rfl (Ev_pure rfl) rfl rfl ?_ | (show opsA _ _ _ _ (⟨_, .call _, _, _, _, _⟩ :: _) _ _; refine O_ev WideF.wide rfl (Ev_slen rfl) rfl rfl ?_) | (show opsA _ _ _ _ (⟨_, .binOp _ _ _ _ _, _, _, _, _⟩ :: _) _ _; refine O_ev WideF.wide rfl (Ev_add rfl rfl (wi64 (by omega))) rfl rfl ?_) | (show opsA _ _ _ _ (⟨_, .index _ _ _, _, _, _, _⟩ :: _) _ _; refine O_ev WideF.wide rfl (Ev_sindex rfl rfl (by omega) (by omega)) rfl rfl ?_) | (show opsA _ _ _ _ (⟨_, .unOp _ _ _, _, _, _, _⟩ :: _) _ _; refine O_ev WideF.wide rfl (Ev_notb rfl) rfl rfl ?_)) | (show wpA _ _ _ (.cond _ _ _) _ _ _ _; first | (refine A_if rfl (fun h => ?_) (fun h => ?_) <;> try (exfalso; omega)) | refine A_iffalse rfl ?_))
          all_goals first
            | (exfalso; omega)
            | (exfalso; contradiction)
            | (exfalso; exact absurd trivial (by assumption))
            | (exfalso; exact absurd rfl (by assumption))
            | exact Shift.to ⟨_, by omega, i + 1, rfl, by omega, fun j c' h3 h4 => (if h9 : j = i then (by subst h9; rw [hc1] at h4; cases h4; exact hb) else hall j c' (by omega) h4), rfl⟩ ⟨rfl, rfl, rfl, ⟨rfl, rfl, rfl, trivial⟩, Own.sub_nil _⟩
            | trace_state
      · obtain rfl : p.length = i := by omega
        have hdg : ∀ b ∈ p, isDg b = true := fun b hb => by
          obtain ⟨j, hj, rfl⟩ := List.getElem_of_mem hb
          exact hall j _ hj (List.getElem?_eq_getElem hj)
        have hgood := digR_good h0 hz' hdg
        repeat' (first | refine O_nil ?_ | refine A_seq ?_ | refine A_region ?_ | refine A_block ?_ | (show opsA _ _ _ _ _ _ _; first | refine O_ev WideF.wide rfl (Ev_pure rfl) rfl rfl ?_ | (show opsA _ _ _ _ (⟨_, .call _, _, _, _, _⟩ :: _) _ _; refine O_ev WideF.wide rfl (Ev_slen rfl) rfl rfl ?_)) | (show wpA _ _ _ (.exit _) _ _ _ _; refine A_exit rfl ?_) | (show wpA _ _ _ (.cond _ _ _) _ _ _ _; (refine A_if rfl (fun h => ?_) (fun h => ?_) <;> try (exfalso; omega))))
        all_goals try (exfalso; omega)
        refine A_loopu (fun q s' => ∃ i : Nat, q = p.length - i ∧ i ≤ p.length ∧ dval (p.take i) 0 ≤ 1099511627776 ∧ s' = ⟨67, [(0, sv s), (4, sv p), (6, .int .i64 ((dval (p.take i) 0 : Nat) : Int)), (7, .int .i64 i)], H, [], [], []⟩) ?_ ?_
        · exact Shift.to ⟨_, 0, rfl, by omega, by simp [dval], rfl⟩ ⟨rfl, rfl, rfl, ⟨rfl, rfl, rfl, rfl, trivial⟩, Own.sub_nil _⟩
        rintro q s' ⟨i, rfl, hi, hv, rfl⟩
        by_cases hlt : i < p.length
        · have hstep := dval_take hlt
          have hdi := isDg_bounds (hdg _ (List.getElem_mem hlt))
          have hbi : bat p i = (p[i].toNat : Int) := by simp [bat, hlt]
          have hmo := dval_mono (p := p) (i + 1)
          by_cases hov : 1099511627776 < dval (p.take (i + 1)) 0
          · rw [if_pos (by omega)] at hgood
            rw [intR_of hp hgood, if_pos (by decide)]
            repeat' (first | (refine O_ev WideF.wide rfl (Ev_sub rfl rfl (wu8 (by omega))) rfl rfl ?_) | (refine O_ev WideF.wide rfl (Ev_add (r := ((dval (p.take (i + 1)) 0 : Nat) : Int)) rfl rfl ((wi64 (by omega)).trans (by omega))) rfl rfl ?_) | refine O_nil ?_ | refine A_seq ?_ | refine A_region ?_ | refine A_skip ?_ | refine A_ret ?_ | refine A_block ?_ | (show opsA _ _ _ _ _ _ _; first | refine O_ev WideF.wide rfl (Ev_pure rfl) rfl rfl ?_ | (show opsA _ _ _ _ (⟨_, .call _, _, _, _, _⟩ :: _) _ _; refine O_ev WideF.wide rfl (Ev_slen rfl) rfl rfl ?_) | (show opsA _ _ _ _ (⟨_, .binOp _ _ _ _ _, _, _, _, _⟩ :: _) _ _; refine O_ev WideF.wide rfl (Ev_mul rfl rfl (wi64 (by omega))) rfl rfl ?_) | (show opsA _ _ _ _ (⟨_, .index _ _ _, _, _, _, _⟩ :: _) _ _; refine O_ev WideF.wide rfl (Ev_sindex rfl rfl (by omega) (by omega)) rfl rfl ?_) | (show opsA _ _ _ _ (⟨_, .convert _ _ _, _, _, _, _⟩ :: _) _ _; refine O_ev WideF.wide rfl (Ev_conv (k2 := .i64) rfl (wi64 (by omega))) rfl rfl ?_)) | (show wpA _ _ _ (.cond _ _ _) _ _ _ _; (refine A_if rfl (fun h => ?_) (fun h => ?_) <;> try (exfalso; omega))))
            all_goals first
              | (exfalso; omega)
              | (exfalso; contradiction)
              | (exfalso; exact absurd trivial (by assumption))
              | (exfalso; exact absurd rfl (by assumption))
              | exact End_p (Ret2 rfl rfl rfl) rfl
              | trace_state
          · repeat' (first | (refine O_ev WideF.wide rfl (Ev_sub rfl rfl (wu8 (by omega))) rfl rfl ?_) | (show opsA _ _ _ _ (⟨some 56, .binOp _ _ _ _ _, _, _, _, _⟩ :: _) _ _; refine O_ev WideF.wide rfl (Ev_add (r := ((dval (p.take (i + 1)) 0 : Nat) : Int)) rfl rfl ((wi64 (by omega)).trans (by omega))) rfl rfl ?_) | refine O_nil ?_ | refine A_seq ?_ | refine A_region ?_ | refine A_skip ?_ | refine A_block ?_ | (show opsA _ _ _ _ _ _ _; first | refine O_ev WideF.wide rfl (Ev_pure rfl) rfl rfl ?_ | (show opsA _ _ _ _ (⟨_, .call _, _, _, _, _⟩ :: _) _ _; refine O_ev WideF.wide rfl (Ev_slen rfl) rfl rfl ?_) | (show opsA _ _ _ _ (⟨_, .binOp _ _ _ _ _, _, _, _, _⟩ :: _) _ _; first | refine O_ev WideF.wide rfl (Ev_add rfl rfl (wi64 (by omega))) rfl rfl ?_ | refine O_ev WideF.wide rfl (Ev_mul rfl rfl (wi64 (by omega))) rfl rfl ?_) | (show opsA _ _ _ _ (⟨_, .index _ _ _, _, _, _, _⟩ :: _) _ _; refine O_ev WideF.wide rfl (Ev_sindex rfl rfl (by omega) (by omega)) rfl rfl ?_) | (show opsA _ _ _ _ (⟨_, .convert _ _ _, _, _, _, _⟩ :: _) _ _; refine O_ev WideF.wide rfl (Ev_conv (k2 := .i64) rfl (wi64 (by omega))) rfl rfl ?_)) | (show wpA _ _ _ (.cond _ _ _) _ _ _ _; (refine A_if rfl (fun h => ?_) (fun h => ?_) <;> try (exfalso; omega))))
            all_goals first
              | (exfalso; omega)
              | (exfalso; contradiction)
              | (exfalso; exact absurd trivial (by assumption))
              | (exfalso; exact absurd rfl (by assumption))
              | exact Shift.to ⟨_, by omega, i + 1, rfl, by omega, by omega, rfl⟩ ⟨rfl, rfl, rfl, ⟨rfl, rfl, rfl, rfl, trivial⟩, Own.sub_nil _⟩
              | trace_state
        · obtain rfl : p.length = i := by omega
          rw [List.take_of_length_le (Nat.le_refl _)] at hv ⊢
          rw [if_neg (by omega)] at hgood
          rw [intR_of hp hgood, if_neg (fun h => h rfl), if_pos (by omega)]
          repeat' (first | (refine O_ev WideF.wide rfl (Ev_neg (r := -((dval p 0 : Nat) : Int)) rfl ((wi64 (by omega)).trans (by omega))) rfl rfl ?_) | refine O_nil ?_ | refine A_seq ?_ | refine A_region ?_ | refine A_ret ?_ | (show opsA _ _ _ _ _ _ _; first | refine O_ev WideF.wide rfl (Ev_pure rfl) rfl rfl ?_ | (show opsA _ _ _ _ (⟨_, .call _, _, _, _, _⟩ :: _) _ _; refine O_ev WideF.wide rfl (Ev_slen rfl) rfl rfl ?_)) | (show wpA _ _ _ (.exit _) _ _ _ _; refine A_exit rfl ?_) | (show wpA _ _ _ (.cond _ _ _) _ _ _ _; (refine A_if rfl (fun h => ?_) (fun h => ?_) <;> try (exfalso; omega))))
          all_goals first
            | (exfalso; omega)
            | (exfalso; contradiction)
            | (exfalso; exact absurd trivial (by assumption))
            | (exfalso; exact absurd rfl (by assumption))
            | exact End_p (Ret2 rfl rfl rfl) rfl
            | trace_state
  · have hp := trim_other hh
    have hb : ¬ (0 < s.length ∧ bat s 0 = 45) := fun h => hh (by
      cases s with
      | nil => exact absurd h.1 (by decide)
      | cons c r =>
        have h9 : ((c.toNat : Nat) : Int) = 45 := h.2
        rw [List.head?_cons, (byte_eq c 45 (by decide)).2 (by omega)]
        rfl)
    obtain ⟨p, hpe⟩ : ∃ p, p = s := ⟨_, rfl⟩
    subst hpe
    by_cases h0 : p = []
    · rw [intR_of hp (digR_bad (.inl h0)), if_pos (by decide)]
      subst h0
      refine Fn_of _ _ Tryz.func26 rfl Tryz.ntmps26 rfl fun c => ?_
      repeat' (first | refine O_nil ?_ | refine A_seq ?_ | refine A_region ?_ | refine A_skip ?_ | refine A_ret ?_ | refine A_block ?_ | (show opsA _ _ _ _ _ _ _; first | (refine O_split rfl rfl (fun h => ?_) (fun h => ?_) <;> try (exfalso; omega)) | refine O_ev WideF.wide rfl (Ev_pure rfl) rfl rfl ?_ | (show opsA _ _ _ _ (⟨_, .call _, _, _, _, _⟩ :: _) _ _; refine O_ev WideF.wide rfl (Ev_slen rfl) rfl rfl ?_) | (show opsA _ _ _ _ (⟨_, .index _ _ _, _, _, _, _⟩ :: _) _ _; refine O_ev WideF.wide rfl (Ev_sindex rfl rfl (by omega) (by omega)) rfl rfl ?_) | refine O_skip WideF.wide rfl rfl rfl ?_) | (show wpA _ _ _ (.cond _ _ _) _ _ _ _; first | (refine A_if rfl (fun h => ?_) (fun h => ?_) <;> try (exfalso; omega)) | refine A_iftrue rfl ?_ | refine A_iffalse rfl ?_))
      all_goals first
        | (exfalso; omega)
        | (exfalso; contradiction)
        | (exfalso; exact absurd trivial (by assumption))
        | (exfalso; exact absurd rfl (by assumption))
        | exact End_p (Ret2 rfl rfl rfl) rfl
        | trace_state
    have hpos : 0 < p.length := List.length_pos_iff.2 h0
    have h48 : p.head? = some 48 ↔ bat p 0 = 48 := by
      cases p with
      | nil => exact absurd rfl h0
      | cons c r =>
        have := byte_eq c 48 (by decide)
        simp only [List.head?_cons, Option.some.injEq]
        show c = 48 ↔ ((c.toNat : Nat) : Int) = 48
        exact ⟨fun h9 => (by rw [h9]; rfl), fun h9 => this.2 (by omega)⟩
    by_cases hz : 1 < p.length ∧ bat p 0 = 48
    · rw [intR_of hp (digR_bad (.inr ⟨hz.1, h48.2 hz.2⟩)), if_pos (by decide)]
      refine Fn_of _ _ Tryz.func26 rfl Tryz.ntmps26 rfl fun c => ?_
      repeat' (first | refine O_nil ?_ | refine A_seq ?_ | refine A_region ?_ | refine A_skip ?_ | refine A_ret ?_ | (show opsA _ _ _ _ _ _ _; first | (refine O_split rfl rfl (fun h => ?_) (fun h => ?_) <;> try (exfalso; omega)) | refine O_ev WideF.wide rfl (Ev_pure rfl) rfl rfl ?_ | (show opsA _ _ _ _ (⟨_, .call _, _, _, _, _⟩ :: _) _ _; refine O_ev WideF.wide rfl (Ev_slen rfl) rfl rfl ?_) | (show opsA _ _ _ _ (⟨_, .index _ _ _, _, _, _, _⟩ :: _) _ _; refine O_ev WideF.wide rfl (Ev_sindex rfl rfl (by omega) (by omega)) rfl rfl ?_)) | (show wpA _ _ _ (.cond _ _ _) _ _ _ _; (refine A_if rfl (fun h => ?_) (fun h => ?_) <;> try (exfalso; omega))))
      all_goals first
        | (exfalso; omega)
        | (exfalso; contradiction)
        | (exfalso; exact absurd trivial (by assumption))
        | (exfalso; exact absurd rfl (by assumption))
        | exact End_p (Ret2 rfl rfl rfl) rfl
        | trace_state
    have hz' : ¬ (1 < p.length ∧ p.head? = some 48) := fun h => hz ⟨h.1, h48.1 h.2⟩
    by_cases hq : bat p 0 = 48
    all_goals
      refine Fn_of _ _ Tryz.func26 rfl Tryz.ntmps26 rfl fun c => ?_
      repeat' (first | refine O_nil ?_ | refine A_seq ?_ | refine A_region ?_ | refine A_skip ?_ | refine A_block ?_ | (show opsA _ _ _ _ _ _ _; first | (refine O_split rfl rfl (fun h => ?_) (fun h => ?_) <;> try (exfalso; omega)) | refine O_ev WideF.wide rfl (Ev_pure rfl) rfl rfl ?_ | (show opsA _ _ _ _ (⟨_, .call _, _, _, _, _⟩ :: _) _ _; refine O_ev WideF.wide rfl (Ev_slen rfl) rfl rfl ?_) | (show opsA _ _ _ _ (⟨_, .index _ _ _, _, _, _, _⟩ :: _) _ _; refine O_ev WideF.wide rfl (Ev_sindex rfl rfl (by omega) (by omega)) rfl rfl ?_) | refine O_skip WideF.wide rfl rfl rfl ?_) | (show wpA _ _ _ (.cond _ _ _) _ _ _ _; first | (refine A_if rfl (fun h => ?_) (fun h => ?_) <;> try (exfalso; omega)) | refine A_iffalse rfl ?_))
      all_goals try (exfalso; omega)
      refine A_loopu (fun q s' => ∃ i : Nat, q = p.length - i ∧ i ≤ p.length ∧ (∀ (j : Nat) (c : UInt8), j < i → p[j]? = some c → isDg c = true) ∧ s' = ⟨67, [(0, sv p), (4, sv p), (5, .int .i64 i)], H, [], [], []⟩) ?_ ?_
      · exact Shift.to ⟨_, 0, rfl, by omega, fun j _ h3 => absurd h3 (by omega), rfl⟩ ⟨rfl, rfl, rfl, ⟨rfl, rfl, rfl, trivial⟩, Own.sub_nil _⟩
      rintro q s' ⟨i, rfl, hi, hall, rfl⟩
      by_cases hlt : i < p.length
      · obtain ⟨c, hc1, hc2, hc3⟩ := get_byte p i hlt
        have hcall := digit_fn (H := H) (b := bat p i)
        have e9 : decide (dgt (bat p i)) = isDg c := by rw [isDg_eq, hc2]
        rw [e9] at hcall
        cases hb : isDg c <;> rw [hb] at hcall
        · rw [intR_of hp (digR_no (List.mem_of_getElem? hc1) hb), if_pos (by decide)]
          repeat' (first | (refine O_ef rfl (Ef_callp WideF.wide (hcall) ⟨rfl, trivial⟩ rfl ?_)) | refine O_nil ?_ | refine A_seq ?_ | refine A_region ?_ | refine A_skip ?_ | refine A_ret ?_ | refine A_block ?_ | (show opsA _ _ _ _ _ _ _; first | refine O_ev WideF.wide rfl (Ev_pure rfl) rfl rfl ?_ | (show opsA _ _ _ _ (⟨_, .call _, _, _, _, _⟩ :: _) _ _; refine O_ev WideF.wide rfl (Ev_slen rfl) rfl rfl ?_) | (show opsA _ _ _ _ (⟨_, .index _ _ _, _, _, _, _⟩ :: _) _ _; refine O_ev WideF.wide rfl (Ev_sindex rfl rfl (by omega) (by omega)) rfl rfl ?_) | (show opsA _ _ _ _ (⟨_, .unOp _ _ _, _, _, _, _⟩ :: _) _ _; refine O_ev WideF.wide rfl (Ev_notb rfl) rfl rfl ?_)) | (show wpA _ _ _ (.cond _ _ _) _ _ _ _; first | (refine A_if rfl (fun h => ?_) (fun h => ?_) <;> try (exfalso; omega)) | refine A_iftrue rfl ?_))
          all_goals first
            | (exfalso; omega)
            | (exfalso; contradiction)
            | (exfalso; exact absurd trivial (by assumption))
            | (exfalso; exact absurd rfl (by assumption))
            | exact End_p (Ret2 rfl rfl rfl) rfl
            | trace_state
        · repeat' (first | (refine O_ef rfl (Ef_callp WideF.wide (hcall) ⟨rfl, trivial⟩ rfl ?_)) | refine O_nil ?_ | refine A_seq ?_ | refine A_region ?_ | refine A_skip ?_ | refine A_block ?_ | (show opsA _ _ _ _ _ _ _; first | refine O_ev WideF.wide rfl (Ev_pure rfl) rfl rfl ?_ | (show opsA _ _ _ _ (⟨_, .call _, _, _, _, _⟩ :: _) _ _; refine O_ev WideF.wide rfl (Ev_slen rfl) rfl rfl ?_) | (show opsA _ _ _ _ (⟨_, .binOp _ _ _ _ _, _, _, _, _⟩ :: _) _ _; refine O_ev WideF.wide rfl (Ev_add rfl rfl (wi64 (by omega))) rfl rfl ?_) | (show opsA _ _ _ _ (⟨_, .index _ _ _, _, _, _, _⟩ :: _) _ _; refine O_ev WideF.wide rfl (Ev_sindex rfl rfl (by omega) (by omega)) rfl rfl ?_) | (show opsA _ _ _ _ (⟨_, .unOp _ _ _, _, _, _, _⟩ :: _) _ _; refine O_ev WideF.wide rfl (Ev_notb rfl) rfl rfl ?_)) | (show wpA _ _ _ (.cond _ _ _) _ _ _ _; first | (refine A_if rfl (fun h => ?_) (fun h => ?_) <;> try (exfalso; omega)) | refine A_iffalse rfl ?_))
          all_goals first
            | (exfalso; omega)
            | (exfalso; contradiction)
            | (exfalso; exact absurd trivial (by assumption))
            | (exfalso; exact absurd rfl (by assumption))
            | exact Shift.to ⟨_, by omega, i + 1, rfl, by omega, fun j c' h3 h4 => (if h9 : j = i then (by subst h9; rw [hc1] at h4; cases h4; exact hb) else hall j c' (by omega) h4), rfl⟩ ⟨rfl, rfl, rfl, ⟨rfl, rfl, rfl, trivial⟩, Own.sub_nil _⟩
            | trace_state
      · obtain rfl : p.length = i := by omega
        have hdg : ∀ b ∈ p, isDg b = true := fun b hb => by
          obtain ⟨j, hj, rfl⟩ := List.getElem_of_mem hb
          exact hall j _ hj (List.getElem?_eq_getElem hj)
        have hgood := digR_good h0 hz' hdg
        repeat' (first | refine O_nil ?_ | refine A_seq ?_ | refine A_region ?_ | refine A_block ?_ | (show opsA _ _ _ _ _ _ _; first | refine O_ev WideF.wide rfl (Ev_pure rfl) rfl rfl ?_ | (show opsA _ _ _ _ (⟨_, .call _, _, _, _, _⟩ :: _) _ _; refine O_ev WideF.wide rfl (Ev_slen rfl) rfl rfl ?_)) | (show wpA _ _ _ (.exit _) _ _ _ _; refine A_exit rfl ?_) | (show wpA _ _ _ (.cond _ _ _) _ _ _ _; (refine A_if rfl (fun h => ?_) (fun h => ?_) <;> try (exfalso; omega))))
        all_goals try (exfalso; omega)
        refine A_loopu (fun q s' => ∃ i : Nat, q = p.length - i ∧ i ≤ p.length ∧ dval (p.take i) 0 ≤ 1099511627776 ∧ s' = ⟨67, [(0, sv p), (4, sv p), (6, .int .i64 ((dval (p.take i) 0 : Nat) : Int)), (7, .int .i64 i)], H, [], [], []⟩) ?_ ?_
        · exact Shift.to ⟨_, 0, rfl, by omega, by simp [dval], rfl⟩ ⟨rfl, rfl, rfl, ⟨rfl, rfl, rfl, rfl, trivial⟩, Own.sub_nil _⟩
        rintro q s' ⟨i, rfl, hi, hv, rfl⟩
        by_cases hlt : i < p.length
        · have hstep := dval_take hlt
          have hdi := isDg_bounds (hdg _ (List.getElem_mem hlt))
          have hbi : bat p i = (p[i].toNat : Int) := by simp [bat, hlt]
          have hmo := dval_mono (p := p) (i + 1)
          by_cases hov : 1099511627776 < dval (p.take (i + 1)) 0
          · rw [if_pos (by omega)] at hgood
            rw [intR_of hp hgood, if_pos (by decide)]
            repeat' (first | (refine O_ev WideF.wide rfl (Ev_sub rfl rfl (wu8 (by omega))) rfl rfl ?_) | (refine O_ev WideF.wide rfl (Ev_add (r := ((dval (p.take (i + 1)) 0 : Nat) : Int)) rfl rfl ((wi64 (by omega)).trans (by omega))) rfl rfl ?_) | refine O_nil ?_ | refine A_seq ?_ | refine A_region ?_ | refine A_skip ?_ | refine A_ret ?_ | refine A_block ?_ | (show opsA _ _ _ _ _ _ _; first | refine O_ev WideF.wide rfl (Ev_pure rfl) rfl rfl ?_ | (show opsA _ _ _ _ (⟨_, .call _, _, _, _, _⟩ :: _) _ _; refine O_ev WideF.wide rfl (Ev_slen rfl) rfl rfl ?_) | (show opsA _ _ _ _ (⟨_, .binOp _ _ _ _ _, _, _, _, _⟩ :: _) _ _; refine O_ev WideF.wide rfl (Ev_mul rfl rfl (wi64 (by omega))) rfl rfl ?_) | (show opsA _ _ _ _ (⟨_, .index _ _ _, _, _, _, _⟩ :: _) _ _; refine O_ev WideF.wide rfl (Ev_sindex rfl rfl (by omega) (by omega)) rfl rfl ?_) | (show opsA _ _ _ _ (⟨_, .convert _ _ _, _, _, _, _⟩ :: _) _ _; refine O_ev WideF.wide rfl (Ev_conv (k2 := .i64) rfl (wi64 (by omega))) rfl rfl ?_)) | (show wpA _ _ _ (.cond _ _ _) _ _ _ _; (refine A_if rfl (fun h => ?_) (fun h => ?_) <;> try (exfalso; omega))))
            all_goals first
              | (exfalso; omega)
              | (exfalso; contradiction)
              | (exfalso; exact absurd trivial (by assumption))
              | (exfalso; exact absurd rfl (by assumption))
              | exact End_p (Ret2 rfl rfl rfl) rfl
              | trace_state
          · repeat' (first | (refine O_ev WideF.wide rfl (Ev_sub rfl rfl (wu8 (by omega))) rfl rfl ?_) | (show opsA _ _ _ _ (⟨some 56, .binOp _ _ _ _ _, _, _, _, _⟩ :: _) _ _; refine O_ev WideF.wide rfl (Ev_add (r := ((dval (p.take (i + 1)) 0 : Nat) : Int)) rfl rfl ((wi64 (by omega)).trans (by omega))) rfl rfl ?_) | refine O_nil ?_ | refine A_seq ?_ | refine A_region ?_ | refine A_skip ?_ | refine A_block ?_ | (show opsA _ _ _ _ _ _ _; first | refine O_ev WideF.wide rfl (Ev_pure rfl) rfl rfl ?_ | (show opsA _ _ _ _ (⟨_, .call _, _, _, _, _⟩ :: _) _ _; refine O_ev WideF.wide rfl (Ev_slen rfl) rfl rfl ?_) | (show opsA _ _ _ _ (⟨_, .binOp _ _ _ _ _, _, _, _, _⟩ :: _) _ _; first | refine O_ev WideF.wide rfl (Ev_add rfl rfl (wi64 (by omega))) rfl rfl ?_ | refine O_ev WideF.wide rfl (Ev_mul rfl rfl (wi64 (by omega))) rfl rfl ?_) | (show opsA _ _ _ _ (⟨_, .index _ _ _, _, _, _, _⟩ :: _) _ _; refine O_ev WideF.wide rfl (Ev_sindex rfl rfl (by omega) (by omega)) rfl rfl ?_) | (show opsA _ _ _ _ (⟨_, .convert _ _ _, _, _, _, _⟩ :: _) _ _; refine O_ev WideF.wide rfl (Ev_conv (k2 := .i64) rfl (wi64 (by omega))) rfl rfl ?_)) | (show wpA _ _ _ (.cond _ _ _) _ _ _ _; (refine A_if rfl (fun h => ?_) (fun h => ?_) <;> try (exfalso; omega))))
            all_goals first
              | (exfalso; omega)
              | (exfalso; contradiction)
              | (exfalso; exact absurd trivial (by assumption))
              | (exfalso; exact absurd rfl (by assumption))
              | exact Shift.to ⟨_, by omega, i + 1, rfl, by omega, by omega, rfl⟩ ⟨rfl, rfl, rfl, ⟨rfl, rfl, rfl, rfl, trivial⟩, Own.sub_nil _⟩
              | trace_state
        · obtain rfl : p.length = i := by omega
          rw [List.take_of_length_le (Nat.le_refl _)] at hv ⊢
          rw [if_neg (by omega)] at hgood
          rw [intR_of hp hgood, if_neg (fun h => h rfl), if_neg (by omega)]
          repeat' (first | refine O_nil ?_ | refine A_seq ?_ | refine A_region ?_ | refine A_skip ?_ | refine A_ret ?_ | (show opsA _ _ _ _ _ _ _; first | refine O_ev WideF.wide rfl (Ev_pure rfl) rfl rfl ?_ | (show opsA _ _ _ _ (⟨_, .call _, _, _, _, _⟩ :: _) _ _; refine O_ev WideF.wide rfl (Ev_slen rfl) rfl rfl ?_)) | (show wpA _ _ _ (.exit _) _ _ _ _; refine A_exit rfl ?_) | (show wpA _ _ _ (.cond _ _ _) _ _ _ _; (refine A_if rfl (fun h => ?_) (fun h => ?_) <;> try (exfalso; omega))))
          all_goals first
            | (exfalso; omega)
            | (exfalso; contradiction)
            | (exfalso; exact absurd trivial (by assumption))
            | (exfalso; exact absurd rfl (by assumption))
            | exact End_p (Ret2 rfl rfl rfl) rfl
            | trace_state

set_option maxRecDepth 100000 in
set_option maxHeartbeats 4000000 in
theorem Read_fn {H : Hp} {s : List UInt8} (hs : s.length ≤ 1000) (hV : VarsH H) : Fn Tryz.prog 28 [sv s] H [] fun v _ I => v = rV (rdV s) ∧ I = [] := by
  by_cases h1 : s = trueS
  · subst h1
    have kb := fun Hx => boolean_t (H := Hx) (x := ())
    refine Fn_of _ _ Tryz.func28 rfl Tryz.ntmps28 rfl fun c => ?_
    repeat' (first | (refine O_ef rfl (Ef_call (I := []) WideF.wide (kb _) ⟨rfl, trivial⟩ rfl ?_); rintro v1 H1 I1 hle1 ⟨rfl, rfl⟩) | refine O_nil ?_ | refine A_seq ?_ | refine A_region ?_ | refine A_skip ?_ | refine A_ret ?_ | (show opsA _ _ _ _ _ _ _; first | (refine O_split rfl rfl (fun h => ?_) (fun h => ?_) <;> try (exfalso; omega)) | refine O_ev WideF.wide rfl (Ev_pure rfl) rfl rfl ?_ | (show opsA _ _ _ _ (⟨_, .binOp _ _ _ _ _, _, _, _, _⟩ :: _) _ _; refine O_ev WideF.wide rfl (Ev_seql rfl rfl) rfl rfl ?_) | (show opsA _ _ _ _ (⟨_, .alloc _, _, _, _, _⟩ :: _) _ _; (refine O_ef rfl (Ef_alloc WideF.wide rfl ?_); intro b)) | (show opsA _ _ _ _ (⟨_, .store _ _ _, _, _, _, _⟩ :: _) _ _; refine O_ef rfl (Ef_storew WideF.wide rfl rfl rfl rfl rfl ?_)) | refine O_skip WideF.wide rfl rfl rfl ?_) | (show wpA _ _ _ (.cond _ _ _) _ _ _ _; first | (refine A_if rfl (fun h => ?_) (fun h => ?_) <;> try (exfalso; omega)) | refine A_iftrue rfl ?_))
    all_goals first
      | (exfalso; omega)
      | (exfalso; contradiction)
      | (exfalso; exact absurd trivial (by assumption))
      | (exfalso; exact absurd rfl (by assumption))
      | exact End_e (RetC (i := 0) rfl rfl rfl rfl) ⟨rfl, rfl⟩
      | trace_state
  by_cases h2 : s = falseS
  · subst h2
    have kb := fun Hx => boolean_f (H := Hx) (x := ())
    refine Fn_of _ _ Tryz.func28 rfl Tryz.ntmps28 rfl fun c => ?_
    repeat' (first | (refine O_ef rfl (Ef_call (I := []) WideF.wide (kb _) ⟨rfl, trivial⟩ rfl ?_); rintro v1 H1 I1 hle1 ⟨rfl, rfl⟩) | refine O_nil ?_ | refine A_seq ?_ | refine A_region ?_ | refine A_skip ?_ | refine A_ret ?_ | (show opsA _ _ _ _ _ _ _; first | (refine O_split rfl rfl (fun h => ?_) (fun h => ?_) <;> try (exfalso; omega)) | refine O_ev WideF.wide rfl (Ev_pure rfl) rfl rfl ?_ | (show opsA _ _ _ _ (⟨_, .binOp _ _ _ _ _, _, _, _, _⟩ :: _) _ _; refine O_ev WideF.wide rfl (Ev_seql rfl rfl) rfl rfl ?_) | (show opsA _ _ _ _ (⟨_, .alloc _, _, _, _, _⟩ :: _) _ _; (refine O_ef rfl (Ef_alloc WideF.wide rfl ?_); intro b)) | (show opsA _ _ _ _ (⟨_, .store _ _ _, _, _, _, _⟩ :: _) _ _; refine O_ef rfl (Ef_storew WideF.wide rfl rfl rfl rfl rfl ?_)) | refine O_skip WideF.wide rfl rfl rfl ?_) | (show wpA _ _ _ (.cond _ _ _) _ _ _ _; first | (refine A_if rfl (fun h => ?_) (fun h => ?_) <;> try (exfalso; omega)) | refine A_iftrue rfl ?_))
    all_goals first
      | (exfalso; omega)
      | (exfalso; contradiction)
      | (exfalso; exact absurd trivial (by assumption))
      | (exfalso; exact absurd rfl (by assumption))
      | exact End_e (RetC (i := 0) rfl rfl rfl rfl) ⟨rfl, rfl⟩
      | trace_state
  have kt := fun Hx => text_fn (H := Hx) (s := s)
  have kc := fun Hx => Clone_fn (H := Hx) (l := s) (by omega)
  have kn := fun Hx (hx : HLe H Hx) bq (hr : HRow Hx (some ⟨bq, 0, none⟩) 1 1 3 ([txtV s].map vlrow)) => toNumber_fn hr (by decide) (by decide) (by show s.length ≤ _; omega) (hV.mono hx)
  have e1 : v0 [txtV s] = txtV s := rfl
  have e2 : rdV s = if (intR s).2 = 0 ∧ s ≠ [45, 48] then numV (intR s).1 else txtV s := by unfold rdV; rw [if_neg (fun h => h.elim h1 h2)]
  have h1' : ¬ s = [116, 114, 117, 101] := h1
  have h2' : ¬ s = [102, 97, 108, 115, 101] := h2
  simp only [e1, toNum_txt] at kn
  rw [e2]
  by_cases hi : (intR s).2 = 0
  · simp only [hi, ne_eq, not_true_eq_false, if_false] at kn
    by_cases h3 : s = [45, 48]
    · rw [if_neg (fun h => h.2 h3)]
      refine Fn_of _ _ Tryz.func28 rfl Tryz.ntmps28 rfl fun c => ?_
      repeat' (first | (show opsA _ _ _ _ (⟨some 16, .call _, _, _, _, _⟩ :: _) _ _; refine O_ef rfl (Ef_call (I := []) WideF.wide (kt _) ⟨rfl, trivial⟩ rfl ?_); rintro v1 H1 I1 hle1 ⟨rfl, rfl⟩) | (refine O_ef rfl (Ef_build1a WideF.wide (cs := vlrow (txtV s)) rfl rfl rfl rfl rfl ?_); intro bq; refine O_freeze (css := [txtV s].map vlrow) (vlrow_one _) ?_; intro H2 hle2 hr2) | (refine O_ef rfl (Ef_call (I := []) WideF.wide (kn _ (hle1.trans hle2) _ hr2) ⟨rfl, trivial⟩ rfl ?_); rintro v3 H3 I3 hle3 ⟨rfl, rfl⟩) | (refine O_ef rfl (Ef_callp WideF.wide (kc _) ⟨rfl, trivial⟩ rfl ?_)) | (show opsA _ _ _ _ (⟨some 30, .call _, _, _, _, _⟩ :: _) _ _; refine O_ef rfl (Ef_call (I := []) WideF.wide (kt _) ⟨rfl, trivial⟩ rfl ?_); rintro v4 H4 I4 hle4 ⟨rfl, rfl⟩) | refine O_nil ?_ | refine A_seq ?_ | refine A_region ?_ | refine A_skip ?_ | refine A_ret ?_ | (show opsA _ _ _ _ _ _ _; first | (refine O_split rfl rfl (fun h => ?_) (fun h => ?_) <;> try (exfalso; omega)) | refine O_ev WideF.wide rfl (Ev_pure rfl) rfl rfl ?_ | (show opsA _ _ _ _ (⟨_, .load _ _, _, _, _, _⟩ :: _) _ _; refine O_ev WideF.wide rfl (Ev_loadB (i := 0) rfl rfl rfl) rfl rfl ?_) | (show opsA _ _ _ _ (⟨_, .binOp _ _ _ _ _, _, _, _, _⟩ :: _) _ _; first | refine O_ev WideF.wide rfl (Ev_seql rfl rfl) rfl rfl ?_ | refine O_ev WideF.wide rfl (Ev_sneq rfl rfl) rfl rfl ?_) | (show opsA _ _ _ _ (⟨_, .alloc _, _, _, _, _⟩ :: _) _ _; (refine O_ef rfl (Ef_alloc WideF.wide rfl ?_); intro b)) | (show opsA _ _ _ _ (⟨_, .store _ _ _, _, _, _, _⟩ :: _) _ _; first | refine O_ef rfl (Ef_storew WideF.wide rfl rfl rfl rfl rfl ?_) | refine O_f1 (O_ef rfl (Ef_storew WideF.wide rfl rfl rfl rfl rfl ?_))) | refine O_skip WideF.wide rfl rfl rfl ?_) | (show wpA _ _ _ (.cond _ _ _) _ _ _ _; first | (refine A_if rfl (fun h => ?_) (fun h => ?_) <;> try (exfalso; omega)) | refine A_iftrue rfl ?_))
      all_goals first
        | (exfalso; omega)
        | (exfalso; contradiction)
        | (exfalso; exact absurd trivial (by assumption))
        | (exfalso; exact absurd rfl (by assumption))
        | exact End_e (RetC (i := 0) rfl rfl rfl rfl) ⟨rfl, rfl⟩
        | exact End_e (RetC (i := 1) rfl rfl rfl rfl) ⟨rfl, rfl⟩
        | trace_state
    · rw [if_pos ⟨hi, h3⟩]
      refine Fn_of _ _ Tryz.func28 rfl Tryz.ntmps28 rfl fun c => ?_
      repeat' (first | (show opsA _ _ _ _ (⟨some 16, .call _, _, _, _, _⟩ :: _) _ _; refine O_ef rfl (Ef_call (I := []) WideF.wide (kt _) ⟨rfl, trivial⟩ rfl ?_); rintro v1 H1 I1 hle1 ⟨rfl, rfl⟩) | (refine O_ef rfl (Ef_build1a WideF.wide (cs := vlrow (txtV s)) rfl rfl rfl rfl rfl ?_); intro bq; refine O_freeze (css := [txtV s].map vlrow) (vlrow_one _) ?_; intro H2 hle2 hr2) | (refine O_ef rfl (Ef_call (I := []) WideF.wide (kn _ (hle1.trans hle2) _ hr2) ⟨rfl, trivial⟩ rfl ?_); rintro v3 H3 I3 hle3 ⟨rfl, rfl⟩) | (refine O_ef rfl (Ef_callp WideF.wide (kc _) ⟨rfl, trivial⟩ rfl ?_)) | (show opsA _ _ _ _ (⟨some 30, .call _, _, _, _, _⟩ :: _) _ _; refine O_ef rfl (Ef_call (I := []) WideF.wide (kt _) ⟨rfl, trivial⟩ rfl ?_); rintro v4 H4 I4 hle4 ⟨rfl, rfl⟩) | refine O_nil ?_ | refine A_seq ?_ | refine A_region ?_ | refine A_skip ?_ | refine A_ret ?_ | (show opsA _ _ _ _ _ _ _; first | (refine O_split rfl rfl (fun h => ?_) (fun h => ?_) <;> try (exfalso; omega)) | refine O_ev WideF.wide rfl (Ev_pure rfl) rfl rfl ?_ | (show opsA _ _ _ _ (⟨_, .load _ _, _, _, _, _⟩ :: _) _ _; refine O_ev WideF.wide rfl (Ev_loadB (i := 0) rfl rfl rfl) rfl rfl ?_) | (show opsA _ _ _ _ (⟨_, .binOp _ _ _ _ _, _, _, _, _⟩ :: _) _ _; first | refine O_ev WideF.wide rfl (Ev_seql rfl rfl) rfl rfl ?_ | refine O_ev WideF.wide rfl (Ev_sneq rfl rfl) rfl rfl ?_) | (show opsA _ _ _ _ (⟨_, .alloc _, _, _, _, _⟩ :: _) _ _; (refine O_ef rfl (Ef_alloc WideF.wide rfl ?_); intro b)) | (show opsA _ _ _ _ (⟨_, .store _ _ _, _, _, _, _⟩ :: _) _ _; first | refine O_ef rfl (Ef_storew WideF.wide rfl rfl rfl rfl rfl ?_) | refine O_f1 (O_ef rfl (Ef_storew WideF.wide rfl rfl rfl rfl rfl ?_))) | refine O_skip WideF.wide rfl rfl rfl ?_) | (show wpA _ _ _ (.cond _ _ _) _ _ _ _; first | (refine A_if rfl (fun h => ?_) (fun h => ?_) <;> try (exfalso; omega)) | refine A_iftrue rfl ?_))
      all_goals first
        | (exfalso; omega)
        | (exfalso; contradiction)
        | (exfalso; exact absurd trivial (by assumption))
        | (exfalso; exact absurd rfl (by assumption))
        | exact End_e (RetC (i := 0) rfl rfl rfl rfl) ⟨rfl, rfl⟩
        | exact End_e (RetC (i := 1) rfl rfl rfl rfl) ⟨rfl, rfl⟩
        | trace_state
  · simp only [hi, ne_eq, not_false_eq_true, if_true] at kn
    rw [if_neg (fun h => hi h.1)]
    refine Fn_of _ _ Tryz.func28 rfl Tryz.ntmps28 rfl fun c => ?_
    repeat' (first | (show opsA _ _ _ _ (⟨some 16, .call _, _, _, _, _⟩ :: _) _ _; refine O_ef rfl (Ef_call (I := []) WideF.wide (kt _) ⟨rfl, trivial⟩ rfl ?_); rintro v1 H1 I1 hle1 ⟨rfl, rfl⟩) | (refine O_ef rfl (Ef_build1a WideF.wide (cs := vlrow (txtV s)) rfl rfl rfl rfl rfl ?_); intro bq; refine O_freeze (css := [txtV s].map vlrow) (vlrow_one _) ?_; intro H2 hle2 hr2) | (refine O_ef rfl (Ef_call (I := []) WideF.wide (kn _ (hle1.trans hle2) _ hr2) ⟨rfl, trivial⟩ rfl ?_); rintro v3 H3 I3 hle3 ⟨rfl, rfl⟩) | (refine O_ef rfl (Ef_callp WideF.wide (kc _) ⟨rfl, trivial⟩ rfl ?_)) | (show opsA _ _ _ _ (⟨some 30, .call _, _, _, _, _⟩ :: _) _ _; refine O_ef rfl (Ef_call (I := []) WideF.wide (kt _) ⟨rfl, trivial⟩ rfl ?_); rintro v4 H4 I4 hle4 ⟨rfl, rfl⟩) | refine O_nil ?_ | refine A_seq ?_ | refine A_region ?_ | refine A_skip ?_ | refine A_ret ?_ | (show opsA _ _ _ _ _ _ _; first | (refine O_split rfl rfl (fun h => ?_) (fun h => ?_) <;> try (exfalso; omega)) | refine O_ev WideF.wide rfl (Ev_pure rfl) rfl rfl ?_ | (show opsA _ _ _ _ (⟨_, .binOp _ _ _ _ _, _, _, _, _⟩ :: _) _ _; refine O_ev WideF.wide rfl (Ev_seql rfl rfl) rfl rfl ?_) | (show opsA _ _ _ _ (⟨_, .alloc _, _, _, _, _⟩ :: _) _ _; (refine O_ef rfl (Ef_alloc WideF.wide rfl ?_); intro b)) | (show opsA _ _ _ _ (⟨_, .store _ _ _, _, _, _, _⟩ :: _) _ _; first | refine O_ef rfl (Ef_storew WideF.wide rfl rfl rfl rfl rfl ?_) | refine O_f1 (O_ef rfl (Ef_storew WideF.wide rfl rfl rfl rfl rfl ?_))) | refine O_skip WideF.wide rfl rfl rfl ?_) | (show wpA _ _ _ (.cond _ _ _) _ _ _ _; first | (refine A_if rfl (fun h => ?_) (fun h => ?_) <;> try (exfalso; omega)) | refine A_iftrue rfl ?_ | refine A_iffalse rfl ?_))
    all_goals first
      | (exfalso; omega)
      | (exfalso; contradiction)
      | (exfalso; exact absurd trivial (by assumption))
      | (exfalso; exact absurd rfl (by assumption))
      | exact End_e (RetC (i := 0) rfl rfl rfl rfl) ⟨rfl, rfl⟩
      | exact End_e (RetC (i := 1) rfl rfl rfl rfl) ⟨rfl, rfl⟩
      | trace_state
end Go.Proofs.YtnoadopmeoohmaaGreatDoor
