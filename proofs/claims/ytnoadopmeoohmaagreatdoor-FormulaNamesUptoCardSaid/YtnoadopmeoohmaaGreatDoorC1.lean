/-
  codepoint: what the functions compute.
-/
import Derived.Test.YtnoadopmeoohmaaGreatDoorT
namespace Go.Proofs.YtnoadopmeoohmaaGreatDoor
open Go
set_option linter.unusedVariables false
set_option linter.unusedSimpArgs false
attribute [local irreducible] wpA opsA Ef Ev Shift Fn
def tailLow (b : Int) : Int := if b = 0xE0 then 0xA0 else if b = 0xF0 then 0x90 else 0x80
def tailHigh (b : Int) : Int := if b = 0xED then 0x9F else if b = 0xF4 then 0x8F else 0xBF
def tailSize (b : Int) : Int := if b < 0x80 then 1 else if b < 0xC2 ∨ 0xF4 < b then 0 else if b < 0xE0 then 2 else if b < 0xF0 then 3 else 4
set_option maxRecDepth 100000 in
theorem tail_fn (H : Hp) (b : Int) (h0 : 0 ≤ b) (h1 : b < 256) : FnP Tryz.prog 125 [.int .u8 b] H (.tuple [.int .u8 (tailLow b), .int .u8 (tailHigh b), .int .i64 (tailSize b)].toArray) := by
  refine Fn_of _ _ Tryz.func125 rfl Tryz.ntmps125 rfl fun c => ?_
  repeat' (first | refine O_nil ?_ | refine A_seq ?_ | refine A_region ?_ | refine A_skip ?_ | refine A_ret ?_ | refine A_block ?_ | (show opsA _ _ _ _ _ _ _; first | (refine O_split rfl rfl (fun h => ?_) (fun h => ?_) <;> try (exfalso; omega)) | refine O_ev WideF.wide rfl (Ev_pure rfl) rfl rfl ?_ | refine O_skip WideF.wide rfl rfl rfl ?_) | (show wpA _ _ _ (.cond _ _ _) _ _ _ _; first | (refine A_if rfl (fun h => ?_) (fun h => ?_) <;> try (exfalso; omega)) | refine A_iftrue rfl ?_))

  all_goals refine End_p (Ret3 rfl rfl rfl rfl) ?_
  all_goals (unfold tailLow tailHigh tailSize; repeat' split) <;> first | rfl | (exfalso; omega)

/-- the number of bytes of the encoding that begins at a place; 0 if none does -/
def enc (l : List UInt8) (i : Int) : Int :=
  if bat l i < 0x80 then 1
  else if tailSize (bat l i) = 0 then 0
  else if i + tailSize (bat l i) ≤ l.length ∧ (tailLow (bat l i) ≤ bat l (i + 1) ∧ bat l (i + 1) ≤ tailHigh (bat l i)) ∧ (3 ≤ tailSize (bat l i) → 0x80 ≤ bat l (i + 2) ∧ bat l (i + 2) ≤ 0xBF) ∧ (4 ≤ tailSize (bat l i) → 0x80 ≤ bat l (i + 3) ∧ bat l (i + 3) ≤ 0xBF)
  then tailSize (bat l i) else 0
/-- the first k bytes fit -/
def okTo (l : List UInt8) (i k : Int) : Prop :=
  i + k ≤ l.length ∧ (2 ≤ k → tailLow (bat l i) ≤ bat l (i + 1) ∧ bat l (i + 1) ≤ tailHigh (bat l i)) ∧ (3 ≤ k → 0x80 ≤ bat l (i + 2) ∧ bat l (i + 2) ≤ 0xBF) ∧ (4 ≤ k → 0x80 ≤ bat l (i + 3) ∧ bat l (i + 3) ≤ 0xBF)
theorem tailSize_le (b : Int) : 0 ≤ tailSize b ∧ tailSize b ≤ 4 := by unfold tailSize; repeat' split <;> omega
theorem tailSize_one {b : Int} (h : tailSize b = 1) : b < 0x80 := by
  unfold tailSize at h; repeat' split at h <;> omega
theorem tailSize_lt {b : Int} (h : b < 0x80) : tailSize b = 1 := by unfold tailSize; rw [if_pos h]
theorem tailLow_b (b : Int) : 0 ≤ tailLow b ∧ tailLow b < 256 := by unfold tailLow; repeat' split <;> omega
theorem tailHigh_b (b : Int) : 0 ≤ tailHigh b ∧ tailHigh b < 256 := by unfold tailHigh; repeat' split <;> omega
theorem enc_ok {l : List UInt8} {i : Int} (h : 1 < tailSize (bat l i)) (hk : okTo l i (tailSize (bat l i))) : enc l i = tailSize (bat l i) := by
  have h0 : ¬ bat l i < 0x80 := fun hh => by rw [tailSize_lt hh] at h; omega
  unfold enc
  rw [if_neg h0, if_neg (by omega), if_pos ⟨hk.1, hk.2.1 (by omega), hk.2.2.1, hk.2.2.2⟩]
theorem enc_no {l : List UInt8} {i : Int} (h : 1 < tailSize (bat l i)) (hk : ¬ okTo l i (tailSize (bat l i))) : enc l i = 0 := by
  have h0 : ¬ bat l i < 0x80 := fun hh => by rw [tailSize_lt hh] at h; omega
  unfold enc
  rw [if_neg h0, if_neg (by omega), if_neg (fun hh => hk ⟨hh.1, fun _ => hh.2.1, hh.2.2.1, hh.2.2.2⟩)]

theorem okTo_at {l : List UInt8} {i t k : Int} (h : okTo l i t) (h1 : 1 ≤ k) (hk : k < t) (ht : t ≤ 4) :
    (if k = 1 then tailLow (bat l i) else 0x80) ≤ bat l (i + k) ∧ bat l (i + k) ≤ (if k = 1 then tailHigh (bat l i) else 0xBF) := by
  obtain ⟨o1, o2, o3, o4⟩ := h
  have hc : k = 1 ∨ k = 2 ∨ k = 3 := by omega
  rcases hc with rfl | rfl | rfl
  · simpa using o2 (by omega)
  · simpa using o3 (by omega)
  · simpa using o4 (by omega)
theorem okTo_succ {l : List UInt8} {i k : Int} (h : okTo l i k) (h1 : 1 ≤ k) (h4 : k < 4) (hl : i + k < l.length)
    (h2 : (if k = 1 then tailLow (bat l i) else 0x80) ≤ bat l (i + k)) (h3 : bat l (i + k) ≤ (if k = 1 then tailHigh (bat l i) else 0xBF)) : okTo l i (k + 1) := by
  obtain ⟨o1, o2, o3, o4⟩ := h
  have hc : k = 1 ∨ k = 2 ∨ k = 3 := by omega
  rcases hc with rfl | rfl | rfl
  · simp only [if_true] at h2 h3
    exact ⟨by omega, fun _ => ⟨h2, h3⟩, fun h => by omega, fun h => by omega⟩
  · simp at h2 h3
    exact ⟨by omega, fun _ => o2 (by omega), fun _ => ⟨h2, h3⟩, fun h => by omega⟩
  · simp at h2 h3
    exact ⟨by omega, fun _ => o2 (by omega), fun _ => o3 (by omega), fun _ => ⟨h2, h3⟩⟩

abbrev decSt (H : Hp) (l : List UInt8) (i p k : Int) : Sta := ⟨74, [(0, sv l), (1, .int .i64 i), (4, .int .i64 p), (5, .int .i64 k), (8, .int .u8 (if k = 1 then tailLow (bat l i) else 0x80)), (9, .int .u8 (if k = 1 then tailHigh (bat l i) else 0xBF)), (10, .int .i64 (tailSize (bat l i)))], H, [], [], []⟩

set_option maxRecDepth 100000 in
theorem decode_fn (H : Hp) (l : List UInt8) (i : Int) (h0 : 0 ≤ i) (h1 : i < l.length) (hl : l.length < 4611686018427387904) :
    Fn Tryz.prog 79 [sv l, .int .i64 i] H [] fun v H' I' => (∃ p sz : Int, v = .tuple [.int .i64 p, .int .i64 sz, .bool (decide (enc l i ≠ 0))].toArray ∧ 0 ≤ sz ∧ sz ≤ 4 ∧ (enc l i ≠ 0 → sz = enc l i)) ∧ H' = H ∧ I' = [] := by
  have hb0 := bat_lo l i
  have hb1 := bat_hi l i
  have hts := tailSize_le (bat l i)
  refine Fn_of _ _ Tryz.func79 rfl Tryz.ntmps79 rfl fun c => ?_
  repeat' (first | (refine O_ef rfl (Ef_callp WideF.wide (tail_fn H (bat l i) hb0 hb1) ⟨rfl, trivial⟩ rfl ?_)) | refine O_nil ?_ | refine A_seq ?_ | refine A_region ?_ | refine A_skip ?_ | refine A_ret ?_ | refine A_block ?_ | (show opsA _ _ _ _ _ _ _; first | refine O_ev WideF.wide rfl (Ev_pure rfl) rfl rfl ?_ | (show opsA _ _ _ _ (⟨_, .binOp _ _ _ _ _, _, _, _, _⟩ :: _) _ _; first | refine O_ev WideF.wide rfl (Ev_and rfl rfl) rfl rfl ?_ | refine O_ev WideF.wide rfl (Ev_shr rfl rfl (by omega) (by simp [IntKind.bits]; omega)) rfl rfl ?_) | (show opsA _ _ _ _ (⟨_, .index _ _ _, _, _, _, _⟩ :: _) _ _; refine O_ev WideF.wide rfl (Ev_sindex rfl rfl (by omega) (by omega)) rfl rfl ?_) | (show opsA _ _ _ _ (⟨_, .convert _ _ _, _, _, _, _⟩ :: _) _ _; refine O_ev WideF.wide rfl (Ev_conv (k2 := .i64) rfl (wi64 (bat_i64 _ _))) rfl rfl ?_)) | (show wpA _ _ _ (.cond _ _ _) _ _ _ _; (refine A_if rfl (fun h => ?_) (fun h => ?_) <;> try (exfalso; omega))))
  · have he : enc l i = 0 := by unfold enc; rw [if_neg (fun hh => by rw [tailSize_lt hh] at h; omega), if_pos h]
    refine Shift.pure ⟨_, Ret3 rfl rfl rfl rfl, rfl, Shift.pure ⟨rfl, ⟨0, 0, ?_, by omega, by omega, by omega⟩, rfl, rfl⟩⟩
    rw [he]; rfl
  · have he : enc l i = 1 := by unfold enc; rw [if_pos (tailSize_one h)]
    refine Shift.pure ⟨_, Ret3 rfl rfl rfl rfl, rfl, Shift.pure ⟨rfl, ⟨bat l i, 1, ?_, by omega, by omega, by omega⟩, rfl, rfl⟩⟩
    rw [he]; rfl
  · rename_i hz
    have ht1 : 1 < tailSize (bat l i) := by omega
    refine A_loopu (fun n s => ∃ p k : Int, n = (4 - k).toNat ∧ 1 ≤ k ∧ k ≤ tailSize (bat l i) ∧ okTo l i k ∧ s = decSt H l i p k) ?_ ?_
    · exact Shift.to ⟨3, _, 1, rfl, by omega, by omega, ⟨by omega, by omega, by omega, by omega⟩, rfl⟩ ⟨rfl, rfl, rfl, ⟨rfl, rfl, rfl, rfl, rfl, rfl, rfl, trivial⟩, Own.sub_nil _⟩
    · rintro n s ⟨p, k, rfl, hk1, hk2, hok, rfl⟩
      have hin : i + k ≤ l.length := hok.1
      repeat' (first | refine O_nil ?_ | refine A_seq ?_ | refine A_region ?_ | refine A_skip ?_ | refine A_ret ?_ | refine A_block ?_ | (show opsA _ _ _ _ _ _ _; first | (refine O_split rfl rfl (fun h => ?_) (fun h => ?_) <;> try (exfalso; omega)) | refine O_ev WideF.wide rfl (Ev_pure rfl) rfl rfl ?_ | (show opsA _ _ _ _ (⟨_, .call _, _, _, _, _⟩ :: _) _ _; refine O_ev WideF.wide rfl (Ev_slen rfl) rfl rfl ?_) | (show opsA _ _ _ _ (⟨_, .binOp _ _ _ _ _, _, _, _, _⟩ :: _) _ _; first | refine O_ev WideF.wide rfl (Ev_add rfl rfl (wi64 (by omega))) rfl rfl ?_ | refine O_ev WideF.wide rfl (Ev_and rfl rfl) rfl rfl ?_ | refine O_ev WideF.wide rfl (Ev_or rfl rfl) rfl rfl ?_ | refine O_ev WideF.wide rfl (Ev_shl rfl rfl (by decide) (by decide) rfl) rfl rfl ?_) | (show opsA _ _ _ _ (⟨_, .index _ _ _, _, _, _, _⟩ :: _) _ _; refine O_ev WideF.wide rfl (Ev_sindex rfl rfl (by omega) (by omega)) rfl rfl ?_) | (show opsA _ _ _ _ (⟨_, .convert _ _ _, _, _, _, _⟩ :: _) _ _; refine O_ev WideF.wide rfl (Ev_conv (k2 := .i64) rfl (wi64 (bat_i64 _ _))) rfl rfl ?_) | refine O_skip WideF.wide rfl rfl rfl ?_) | (show wpA _ _ _ (.exit _) _ _ _ _; refine A_exit rfl ?_) | (show wpA _ _ _ (.cond _ _ _) _ _ _ _; first | (refine A_if rfl (fun h => ?_) (fun h => ?_) <;> try (exfalso; omega)) | refine A_iftrue rfl ?_))
      · have he : enc l i = 0 := enc_no ht1 fun hh => by have := hh.1; omega
        refine Shift.pure ⟨_, Ret3 rfl rfl rfl rfl, rfl, Shift.pure ⟨rfl, ⟨0, k, ?_, by omega, by omega, by omega⟩, rfl, rfl⟩⟩
        rw [he]; rfl
      · have he : enc l i = 0 := enc_no ht1 fun hh => by have := okTo_at hh hk1 (by omega) hts.2; omega
        refine Shift.pure ⟨_, Ret3 rfl rfl rfl rfl, rfl, Shift.pure ⟨rfl, ⟨0, k, ?_, by omega, by omega, by omega⟩, rfl, rfl⟩⟩
        rw [he]; rfl
      · have he : enc l i = 0 := enc_no ht1 fun hh => by have := okTo_at hh hk1 (by omega) hts.2; omega
        refine Shift.pure ⟨_, Ret3 rfl rfl rfl rfl, rfl, Shift.pure ⟨rfl, ⟨0, k, ?_, by omega, by omega, by omega⟩, rfl, rfl⟩⟩
        rw [he]; rfl
      · refine Shift.to ⟨(4 - (k + 1)).toNat, by omega, _, k + 1, rfl, by omega, by omega, okTo_succ hok hk1 (by omega) (by omega) (by omega) (by omega), rfl⟩ ⟨rfl, rfl, rfl, ⟨rfl, rfl, rfl, rfl, ?_, ?_, rfl, trivial⟩, Own.sub_nil _⟩
        · have e1 : (if k + 1 = 1 then tailLow (bat l i) else 0x80) = 0x80 := if_neg (by omega)
          rw [e1]; rfl
        · have e1 : (if k + 1 = 1 then tailHigh (bat l i) else 0xBF) = 0xBF := if_neg (by omega)
          rw [e1]; rfl
      · have he := enc_ok ht1 (show okTo l i (tailSize (bat l i)) by rw [show tailSize (bat l i) = k by omega]; exact hok)
        refine Shift.pure ⟨_, Ret3 rfl rfl rfl rfl, rfl, Shift.pure ⟨rfl, ⟨p, k, ?_, by omega, by omega, by omega⟩, rfl, rfl⟩⟩
        rw [he, decide_eq_true (by omega)]

theorem enc_b (l : List UInt8) (i : Int) : 0 ≤ enc l i ∧ enc l i ≤ 4 := by
  have := tailSize_le (bat l i)
  unfold enc; repeat' split <;> omega
theorem bat_drop (l : List UInt8) (n : Nat) (k : Int) (hk : 0 ≤ k) : bat (l.drop n) k = bat l (n + k) := by
  unfold bat
  have : ((n : Int) + k).toNat = n + k.toNat := by omega
  simp [List.getD, List.getElem?_drop, this]
theorem enc_drop (l : List UInt8) (n : Nat) (hn : n ≤ l.length) : enc (l.drop n) 0 = enc l n := by
  have h0 : bat (l.drop n) 0 = bat l n := by simpa using bat_drop l n 0 (by omega)
  have h1 : bat (l.drop n) 1 = bat l (n + 1) := bat_drop l n 1 (by omega)
  have h2 : bat (l.drop n) 2 = bat l (n + 2) := bat_drop l n 2 (by omega)
  have h3 : bat (l.drop n) 3 = bat l (n + 3) := bat_drop l n 3 (by omega)
  have hl : ∀ t : Int, (0 : Int) + t ≤ ((l.drop n).length : Int) ↔ (n : Int) + t ≤ l.length := fun t => by rw [List.length_drop]; omega
  unfold enc
  simp only [Int.zero_add, h0, h1, h2, h3] at *
  simp only [hl]
theorem enc_fits (l : List UInt8) (i : Int) (h0 : 0 ≤ i) (h : i < l.length) : i + enc l i ≤ l.length := by
  unfold enc
  split
  · omega
  · split
    · omega
    · split
      · rename_i h; exact h.1
      · omega

/-- the encodings of a string's code points; none if it is not valid -/
def chars (l : List UInt8) : Option (List (List UInt8)) :=
  if hn : l = [] then some [] else if h : enc l 0 = 0 then none else (chars (l.drop (enc l 0).toNat)).map (l.take (enc l 0).toNat :: ·)
termination_by l.length
decreasing_by
  have := enc_b l 0
  have hl : 0 < l.length := List.length_pos_iff.2 hn
  simp only [List.length_drop]
  omega
def valid (l : List UInt8) : Prop := (chars l).isSome = true
instance (l : List UInt8) : Decidable (valid l) := by unfold valid; infer_instance
theorem chars_nil' {l : List UInt8} (hl : l = []) : chars l = some [] := by rw [chars, dif_pos hl]
theorem chars_nil : chars [] = some [] := chars_nil' rfl
theorem chars_no {l : List UInt8} (hl : l ≠ []) (h : enc l 0 = 0) : chars l = none := by rw [chars, dif_neg hl, dif_pos h]
theorem chars_step {l : List UInt8} (hl : l ≠ []) (h : enc l 0 ≠ 0) : chars l = (chars (l.drop (enc l 0).toNat)).map (l.take (enc l 0).toNat :: ·) := by rw [chars, dif_neg hl, dif_neg h]
theorem valid_nil : valid [] := by unfold valid; rw [chars_nil]; rfl
theorem valid_no {l : List UInt8} (hl : l ≠ []) (h : enc l 0 = 0) : ¬ valid l := by unfold valid; rw [chars_no hl h]; simp
theorem valid_step {l : List UInt8} (hl : l ≠ []) (h : enc l 0 ≠ 0) : valid l ↔ valid (l.drop (enc l 0).toNat) := by unfold valid; rw [chars_step hl h]; simp
theorem valid_drop {l : List UInt8} {n : Nat} (hn : n < l.length) (h : enc l n ≠ 0) : valid (l.drop n) ↔ valid (l.drop (n + (enc l n).toNat)) := by
  have hne : l.drop n ≠ [] := by intro hh; have := congrArg List.length hh; simp at this; omega
  have he := enc_drop l n (by omega)
  rw [valid_step hne (by rw [he]; exact h), he, List.drop_drop]
theorem valid_drop_no {l : List UInt8} {n : Nat} (hn : n < l.length) (h : enc l n = 0) : ¬ valid (l.drop n) := by
  have hne : l.drop n ≠ [] := by intro hh; have := congrArg List.length hh; simp at this; omega
  have he := enc_drop l n (by omega)
  exact valid_no hne (by rw [he]; exact h)

abbrev firstSt (H : Hp) (l : List UInt8) (a : Nat) : Sta := ⟨24, [(0, sv l), (3, .int .i64 a)], H, [], [], []⟩
set_option maxRecDepth 100000 in
theorem First_fn (H : Hp) (l : List UInt8) (hl : l.length < 4611686018427387904) :
    Fn Tryz.prog 38 [sv l] H [] fun v H' I' => (∃ n : Int, v = .int .i64 n ∧ -1 ≤ n ∧ n < l.length + 1 ∧ (n < 0 ↔ valid l)) ∧ H' = H ∧ I' = [] := by
  refine Fn_of _ _ Tryz.func38 rfl Tryz.ntmps38 rfl fun c => ?_
  repeat' (first | refine O_nil ?_ | refine A_seq ?_ | refine A_region ?_ | refine A_block ?_ | (show opsA _ _ _ _ _ _ _; refine O_ev WideF.wide rfl (Ev_pure rfl) rfl rfl ?_))
  refine A_loopu (fun n s => ∃ a : Nat, n = l.length - a ∧ a ≤ l.length ∧ (valid l ↔ valid (l.drop a)) ∧ s = firstSt H l a) ?_ ?_
  · exact Shift.to ⟨_, 0, rfl, by omega, by simp, rfl⟩ ⟨rfl, rfl, rfl, ⟨rfl, rfl, trivial⟩, Own.sub_nil _⟩
  · rintro n s ⟨a, rfl, ha, hv, rfl⟩
    by_cases hlt : a < l.length
    · have hd := decode_fn H l a (by omega) (by omega) hl
      have he := enc_b l a
      have hf := enc_fits l a (by omega) (by omega)
      repeat' (first | (refine O_ef rfl (Ef_call (I := []) WideF.wide hd ⟨rfl, rfl, trivial⟩ rfl ?_); rintro v H' I' hle ⟨⟨p, sz, rfl, hs0, hs4, hs⟩, rfl, rfl⟩) | refine O_nil ?_ | refine A_seq ?_ | refine A_region ?_ | refine A_skip ?_ | refine A_ret ?_ | refine A_block ?_ | (show opsA _ _ _ _ _ _ _; first | refine O_ev WideF.wide rfl (Ev_pure rfl) rfl rfl ?_ | (show opsA _ _ _ _ (⟨_, .call _, _, _, _, _⟩ :: _) _ _; refine O_ev WideF.wide rfl (Ev_slen rfl) rfl rfl ?_) | (show opsA _ _ _ _ (⟨_, .binOp _ _ _ _ _, _, _, _, _⟩ :: _) _ _; refine O_ev WideF.wide rfl (Ev_add rfl rfl (wi64 (by omega))) rfl rfl ?_) | (show opsA _ _ _ _ (⟨_, .unOp _ _ _, _, _, _, _⟩ :: _) _ _; refine O_ev WideF.wide rfl (Ev_not rfl) rfl rfl ?_)) | (show wpA _ _ _ (.cond _ _ _) _ _ _ _; (refine A_if rfl (fun h => ?_) (fun h => ?_) <;> try (exfalso; omega))))
      · refine Shift.pure ⟨_, Ret1 rfl rfl, rfl, Shift.pure ⟨rfl, ⟨a, rfl, by omega, by omega, ?_⟩, rfl, rfl⟩⟩
        have := valid_drop_no hlt (by omega)
        constructor
        · intro h; omega
        · intro h; exact absurd (hv.1 h) this
      · have hne : enc l a ≠ 0 := by omega
        have hsz := hs hne
        refine Shift.to ⟨_, ?_, a + (enc l a).toNat, rfl, by omega, hv.trans (valid_drop hlt hne), rfl⟩ ⟨rfl, rfl, rfl, ⟨rfl, ?_, trivial⟩, Own.sub_nil _⟩
        · omega
        · show some _ = some _
          rw [hsz]
          congr 2
          omega
    · have hal : a = l.length := by omega
      subst hal
      repeat' (first | refine O_nil ?_ | refine A_seq ?_ | refine A_region ?_ | refine A_ret ?_ | (show opsA _ _ _ _ _ _ _; first | refine O_ev WideF.wide rfl (Ev_pure rfl) rfl rfl ?_ | (show opsA _ _ _ _ (⟨_, .call _, _, _, _, _⟩ :: _) _ _; refine O_ev WideF.wide rfl (Ev_slen rfl) rfl rfl ?_)) | (show wpA _ _ _ (.exit _) _ _ _ _; refine A_exit rfl ?_) | (show wpA _ _ _ (.cond _ _ _) _ _ _ _; (refine A_if rfl (fun h => ?_) (fun h => ?_) <;> try (exfalso; omega))))
      refine Shift.pure ⟨_, Ret1 rfl rfl, rfl, Shift.pure ⟨rfl, ⟨-1, rfl, by omega, by omega, ?_⟩, rfl, rfl⟩⟩
      constructor
      · intro _; rw [hv, List.drop_length]; exact valid_nil
      · intro _; omega

set_option maxRecDepth 100000 in
theorem Valid_fn (H : Hp) (l : List UInt8) (hl : l.length < 4611686018427387904) : FnP Tryz.prog 55 [sv l] H (.bool (decide (valid l))) := by
  have hd := First_fn H l hl
  refine Fn_of _ _ Tryz.func55 rfl Tryz.ntmps55 rfl fun c => ?_
  repeat' (first | (refine O_ef rfl (Ef_call (I := []) WideF.wide hd ⟨rfl, trivial⟩ rfl ?_); rintro v H' I' hle ⟨⟨n, rfl, h1, h2, h3⟩, rfl, rfl⟩) | refine O_nil ?_ | refine A_seq ?_ | refine A_region ?_ | refine A_ret ?_ | (show opsA _ _ _ _ _ _ _; refine O_ev WideF.wide rfl (Ev_pure rfl) rfl rfl ?_))
  (refine End_p (Ret1 rfl rfl) ?_)
  simp only [h3]
end Go.Proofs.YtnoadopmeoohmaaGreatDoor
