/-
  codepoint: the places of the code points; the reference's characters.
-/
import Derived.Test.YthbnhcgphkghaaaC2
namespace Go.Proofs.Ythbnhcgphkghaaa
open Go
set_option linter.unusedVariables false
set_option linter.unusedSimpArgs false
attribute [local irreducible] wpA opsA drJ drQ drE Ef Ev Shift Fn

/-- rows of ints -/
def irow (l : List Nat) : List (List Value) := l.map fun (k : Nat) => [.int .i64 k]
theorem irow_one (l : List Nat) : ∀ cs ∈ irow l, ∀ u ∈ cs, u.oneCell' = true := by
  intro cs hcs u hu
  obtain ⟨k, _, rfl⟩ := List.mem_map.1 hcs
  simp at hu; subst hu; rfl
abbrev begSt (H : Hp) (l : List UInt8) (i : Nat) (a : Option Addr) (cp : Nat) (css : List (List Value)) : Sta := ⟨25, [(0, sv l), (3, .slice a css.length cp), (6, .int .i64 l.length), (7, .int .i64 i)], H, [.row (.slice a css.length cp) 1 css], [], []⟩
set_option maxRecDepth 100000 in
theorem begins_fn (H : Hp) (l : List UInt8) (hl : l.length < 1099511627776) :
    Fn Try.prog 83 [sv l] H [] fun v H' I' => (∃ a n cp, v = .slice a n cp ∧ HRow H' a n cp 1 (irow (heads l 0 ++ [l.length]))) ∧ I' = [] := by
  refine Fn_of _ _ Try.func83 rfl Try.ntmps83 rfl fun c => ?_
  refine A_nilrow 1 ?_
  repeat' (first | refine O_nil ?_ | refine A_seq ?_ | refine A_region ?_ | refine A_block ?_ | (show opsA _ _ _ _ _ _ _; first | refine O_ev WideF.wide rfl (Ev_pure rfl) rfl rfl ?_ | (show opsA _ _ _ _ (⟨_, .call _, _, _, _, _⟩ :: _) _ _; refine O_ev WideF.wide rfl (Ev_slen rfl) rfl rfl ?_)))
  · refine A_loopu (fun n s => ∃ (i : Nat) (a : Option Addr) (cp : Nat) (css : List (List Value)), n = l.length - i ∧ i ≤ l.length ∧ css = irow (heads (l.take i) 0) ∧ s = begSt H l i a cp css) ?_ ?_
    · exact Shift.to ⟨_, 0, none, 0, [], rfl, by omega, rfl, rfl⟩ ⟨rfl, rfl, rfl, ⟨rfl, rfl, rfl, rfl, trivial⟩, Own.subi [0] (by decide) rfl rfl⟩
    · rintro n s ⟨i, a, cp, css, rfl, hi, hcss, rfl⟩
      have hle := heads_length_le (l.take i) 0
      have hlt : (l.take i).length ≤ i := List.length_take_le _ _
      have hil : css.length ≤ i := by rw [hcss]; simp only [irow, List.length_map]; omega
      by_cases hlt : i < l.length
      · have hs := heads_take_succ l i hlt
        have hm := isHead_iff hlt
        repeat' (first | refine O_nil ?_ | refine A_seq ?_ | refine A_region ?_ | refine A_skip ?_ | refine A_block ?_ | (show opsA _ _ _ _ _ _ _; first | refine O_ev WideF.wide rfl (Ev_pure rfl) rfl rfl ?_ | (show opsA _ _ _ _ (⟨_, .call _, _, _, _, _⟩ :: _) _ _; (refine O_f1 (O_ef rfl (Ef_appendR WideF.wide rfl rfl rfl rfl rfl (by simp; omega) (by simp; omega) rfl ?_)); intro a cp)) | (show opsA _ _ _ _ (⟨_, .buildSlice _ _ _, _, _, _, _⟩ :: _) _ _; (refine O_ef rfl (Ef_build11 WideF.wide rfl rfl rfl ?_); intro b)) | (show opsA _ _ _ _ (⟨_, .binOp _ _ _ _ _, _, _, _, _⟩ :: _) _ _; first | refine O_ev WideF.wide rfl (Ev_add rfl rfl (wi64 (by omega))) rfl rfl ?_ | refine O_ev WideF.wide rfl (Ev_and rfl rfl) rfl rfl ?_) | (show opsA _ _ _ _ (⟨_, .index _ _ _, _, _, _, _⟩ :: _) _ _; refine O_ev WideF.wide rfl (Ev_sindex rfl rfl (by omega) (by omega)) rfl rfl ?_)) | (show wpA _ _ _ (.cond _ _ _) _ _ _ _; (refine A_if rfl (fun h => ?_) (fun h => ?_) <;> try (exfalso; omega))))
        · refine Shift.to ⟨_, ?_, i + 1, a, cp, _, rfl, by omega, ?_, rfl⟩ ⟨rfl, rfl, rfl, ⟨rfl, rfl, rfl, rfl, trivial⟩, Own.subi [0] (by decide) rfl rfl⟩
          · omega
          · rw [hs, if_pos (hm.2 (by assumption)), hcss]; simp [irow]
        · refine Shift.to ⟨_, ?_, i + 1, a, cp, css, rfl, by omega, ?_, rfl⟩ ⟨rfl, rfl, rfl, ⟨rfl, rfl, rfl, rfl, trivial⟩, Own.subi [0] (by decide) rfl rfl⟩
          · omega
          · have hno : isHead l[i] = false := by
              cases hb : isHead l[i] with
              | false => rfl
              | true => exact absurd (hm.1 hb) (by assumption)
            rw [hs, hno, hcss]; simp
      · have : i = l.length := by omega
        subst this
        repeat' (first | refine O_nil ?_ | refine A_seq ?_ | refine A_region ?_ | refine A_ret ?_ | (show opsA _ _ _ _ _ _ _; first | refine O_ev WideF.wide rfl (Ev_pure rfl) rfl rfl ?_ | (show opsA _ _ _ _ (⟨_, .call _, _, _, _, _⟩ :: _) _ _; first | refine O_ev WideF.wide rfl (Ev_slen rfl) rfl rfl ?_ | (refine O_f1 (O_ef rfl (Ef_appendR WideF.wide rfl rfl rfl rfl rfl (by simp; omega) (by simp; omega) rfl ?_)); intro a cp)) | (show opsA _ _ _ _ (⟨_, .buildSlice _ _ _, _, _, _, _⟩ :: _) _ _; (refine O_ef rfl (Ef_build11 WideF.wide rfl rfl rfl ?_); intro b))) | (show wpA _ _ _ (.exit _) _ _ _ _; refine A_exit rfl ?_) | (show wpA _ _ _ (.cond _ _ _) _ _ _ _; (refine A_if rfl (fun h => ?_) (fun h => ?_) <;> try (exfalso; omega))))
        rename_i a' cp'
        have e : css ++ [[.int .i64 l.length]] = irow (heads l 0 ++ [l.length]) := by rw [hcss, List.take_length]; simp [irow]
        rw [e]
        refine Shift.pure ⟨_, Ret1 rfl rfl, rfl, Shift_freeze (irow_one _) fun H' hle hr => Shift.pure ⟨rfl, ⟨_, _, _, rfl, hr⟩, rfl⟩⟩

abbrev iat (l : List Nat) (u : Nat) : Int := ((l.getD u 0 : Nat) : Int)
/-- the offset of a code point -/
def offset (l : List UInt8) (u : Int) : Int := if valid l ∧ 0 ≤ u ∧ u ≤ nchars l then iat (heads l 0 ++ [l.length]) u.toNat else 0
def offErr (l : List UInt8) (u : Int) : Int := if valid l then (if 0 ≤ u ∧ u ≤ nchars l then 0 else 2) else 12
set_option maxRecDepth 100000 in
theorem Offset_fn (H : Hp) (l : List UInt8) (u : Int) (hl : l.length < 1099511627776) :
    Fn Try.prog 79 [sv l, .int .i64 u] H [] fun v H' I' => v = .tuple [.int .i64 (offset l u), .int .i64 (offErr l u)].toArray ∧ I' = [] := by
  have hv := Valid_fn H l (by omega)
  have hb := begins_fn H l hl
  refine Fn_of _ _ Try.func79 rfl Try.ntmps79 rfl fun c => ?_
  repeat' (first | (refine O_ef rfl (Ef_callp WideF.wide hv ⟨rfl, trivial⟩ rfl ?_)) | (refine O_ef rfl (Ef_call (I := []) WideF.wide hb ⟨rfl, trivial⟩ rfl ?_); rintro v H' I' hle ⟨⟨a, n, cp, rfl, hr⟩, rfl⟩) | refine O_nil ?_ | refine A_seq ?_ | refine A_region ?_ | refine A_skip ?_ | refine A_ret ?_ | (show opsA _ _ _ _ _ _ _; first | (refine O_split rfl rfl (fun h => ?_) (fun h => ?_) <;> try (exfalso; omega)) | refine O_ev WideF.wide rfl (Ev_pure rfl) rfl rfl ?_ | (show opsA _ _ _ _ (⟨_, .call _, _, _, _, _⟩ :: _) _ _; refine O_ev WideF.wide rfl (Ev_llen rfl) rfl rfl ?_) | (show opsA _ _ _ _ (⟨_, .unOp _ _ _, _, _, _, _⟩ :: _) _ _; refine O_ev WideF.wide rfl (Ev_not rfl) rfl rfl ?_) | refine O_skip WideF.wide rfl rfl rfl ?_) | (show wpA _ _ _ (.cond _ _ _) _ _ _ _; first | (refine A_if rfl (fun h => ?_) (fun h => ?_) <;> try (exfalso; omega)) | refine A_iftrue rfl ?_))
  · refine End_e (Ret2 rfl rfl rfl) ⟨?_, rfl⟩
    simp [offset, offErr, h]
  · refine End_e (Ret2 rfl rfl rfl) ⟨?_, rfl⟩
    have : ¬ 0 ≤ u := by omega
    have hval : valid l := Decidable.not_not.1 (by assumption)
    simp [offset, offErr, this, hval]
  · have hn := hr.len
    have hval : valid l := Decidable.not_not.1 (by assumption)
    simp only [irow, List.length_map, List.length_append, List.length_singleton, nchars_heads hval] at hn
    refine End_e (Ret2 rfl rfl rfl) ⟨?_, rfl⟩
    have : ¬ u ≤ nchars l := by omega
    simp [offset, offErr, this, hval]
  · have hn := hr.len
    have hval : valid l := Decidable.not_not.1 (by assumption)
    have hn2 := hn
    simp only [irow, List.length_map, List.length_append, List.length_singleton, nchars_heads hval] at hn2
    obtain ⟨b, o, cs, rfl, hcs, hk, hc⟩ := hr.at u.toNat (by omega)
    have hget : ∃ k, (heads l 0 ++ [l.length])[u.toNat]? = some k ∧ cs = [.int .i64 k] := by
      simp only [irow, List.getElem?_map] at hcs
      obtain ⟨k, hkk, rfl⟩ := Option.map_eq_some_iff.1 hcs
      exact ⟨k, hkk, rfl⟩
    obtain ⟨k, hk2, rfl⟩ := hget
    have h0 : H' b (o + u.toNat * 1) = some (.int .i64 k) := hc 0 _ rfl
    repeat' (first | refine O_nil ?_ | refine A_ret ?_ | (show opsA _ _ _ _ _ _ _; first | refine O_ev WideF.wide rfl (Ev_pure rfl) rfl rfl ?_ | (show opsA _ _ _ _ (⟨_, .load _ _, _, _, _, _⟩ :: _) _ _; refine O_ev WideF.wide rfl (Ev_loadH1 rfl (hc 0 _ rfl)) rfl rfl ?_) | (show opsA _ _ _ _ (⟨_, .indexAddr _ _ _, _, _, _, _⟩ :: _) _ _; refine O_ev WideF.wide rfl (Ev_indexAddr rfl rfl (by omega) (by omega)) rfl rfl ?_)))
    refine End_e (Ret2 rfl rfl rfl) ⟨?_, rfl⟩
    have h1 : 0 ≤ u := by omega
    have h2 : u ≤ nchars l := by omega
    simp [offset, offErr, h1, h2, hval, iat, List.getD, hk2]

/-! ### the reference's decoder -/
theorem mask_low : ∀ n : Fin 256, iand .i64 (n.val : Int) 31 = n.val % 32 ∧ iand .i64 (n.val : Int) 15 = n.val % 16 ∧ iand .i64 (n.val : Int) 7 = n.val % 8 := by decide +kernel
theorem mask_low' {b : Int} (h0 : 0 ≤ b) (h1 : b < 256) : iand .i64 b 31 = b % 32 ∧ iand .i64 b 15 = b % 16 ∧ iand .i64 b 7 = b % 8 := by
  have := mask_low ⟨b.toNat, by omega⟩
  simp only at this
  rw [show ((b.toNat : Nat) : Int) = b by omega] at this
  exact this
def isTail (b : Int) : Prop := 128 ≤ b ∧ b < 192
/-- the number of an encoding's first k bytes -/
def rpt (l : List UInt8) (i p : Int) : Nat → Int
  | 0 => p
  | k + 1 => rpt l i p k * 64 + bat l (i + (k + 1 : Nat)) - 128
structure RSt (l : List UInt8) (i n low : Int) : Prop where
  sh : (n = 2 ∧ low = 128 ∧ 194 ≤ bat l i ∧ bat l i < 224) ∨ (n = 3 ∧ low = 2048 ∧ 224 ≤ bat l i ∧ bat l i < 240) ∨ (n = 4 ∧ low = 65536 ∧ 240 ≤ bat l i ∧ bat l i < 245)
theorem RSt.p0 {l : List UInt8} {i n low : Int} (h : RSt l i n low) : iand .i64 (bat l i) (255 / 2 ^ (n + 1).toNat) = bat l i - (if n = 2 then 192 else if n = 3 then 224 else 240) := by
  have h0 := bat_lo l i
  have h1 := bat_hi l i
  obtain ⟨m1, m2, m3⟩ := mask_low' h0 h1
  rcases h.sh with ⟨rfl, _, h2, h3⟩ | ⟨rfl, _, h2, h3⟩ | ⟨rfl, _, h2, h3⟩
  · rw [show (255 : Int) / 2 ^ ((2 : Int) + 1).toNat = 31 by decide, m1]; simp; omega
  · rw [show (255 : Int) / 2 ^ ((3 : Int) + 1).toNat = 15 by decide, m2]; simp; omega
  · rw [show (255 : Int) / 2 ^ ((4 : Int) + 1).toNat = 7 by decide, m3]; simp; omega
theorem RSt.ts {l : List UInt8} {i n low : Int} (h : RSt l i n low) : tailSize (bat l i) = n := by
  unfold tailSize
  rcases h.sh with ⟨rfl, _, h2, h3⟩ | ⟨rfl, _, h2, h3⟩ | ⟨rfl, _, h2, h3⟩ <;> (repeat' split) <;> omega
/-- a part of it is no byte that follows -/
theorem RSt.no_tail {l : List UInt8} {i n low k : Int} (h : RSt l i n low) (h1 : 1 ≤ k) (h2 : k < n) (hk : ¬ isTail (bat l (i + k))) : enc l i = 0 := by
  have ht := h.ts
  have hn : 1 < n := by rcases h.sh with ⟨rfl, _⟩ | ⟨rfl, _⟩ | ⟨rfl, _⟩ <;> omega
  have hn4 : n ≤ 4 := by rcases h.sh with ⟨rfl, _⟩ | ⟨rfl, _⟩ | ⟨rfl, _⟩ <;> omega
  refine enc_no (by omega) fun hh => ?_
  have := okTo_at hh h1 (by omega) (by omega)
  have hb1 : 128 ≤ tailLow (bat l i) := by unfold tailLow; repeat' split <;> omega
  have hb2 : tailHigh (bat l i) ≤ 191 := by unfold tailHigh; repeat' split <;> omega
  unfold isTail at hk
  split at this <;> omega
theorem RSt.short {l : List UInt8} {i n low : Int} (h : RSt l i n low) (hl : l.length < i + n) : enc l i = 0 := by
  have ht := h.ts
  have hn : 1 < n := by rcases h.sh with ⟨rfl, _⟩ | ⟨rfl, _⟩ | ⟨rfl, _⟩ <;> omega
  refine enc_no (by omega) fun hh => ?_
  have := hh.1
  omega
theorem RSt.all {l : List UInt8} {i n low p : Int} (h : RSt l i n low) (hp : p = rpt l i (iand .i64 (bat l i) (255 / 2 ^ (n + 1).toNat)) (n.toNat - 1)) (hl : i + n ≤ l.length) (ht : ∀ j : Nat, 1 ≤ j → j < n.toNat → isTail (bat l (i + j))) :
    enc l i = if p < low ∨ 1114111 < p ∨ (55296 ≤ p ∧ p < 57344) then 0 else n := by
  have hts := h.ts
  rw [h.p0] at hp
  rcases h.sh with ⟨rfl, rfl, h2, h3⟩ | ⟨rfl, rfl, h2, h3⟩ | ⟨rfl, rfl, h2, h3⟩
  · have t1 : isTail (bat l (i + 1)) := ht 1 (by omega) (by omega)
    have hp' : p = (bat l i - 192) * 64 + bat l (i + 1) - 128 := by rw [hp]; rfl
    unfold isTail at t1
    rw [if_neg (by omega), enc_ok (by omega) ⟨by omega, ?_, fun hh => by omega, fun hh => by omega⟩, hts]
    intro _
    unfold tailLow tailHigh
    repeat' split <;> omega
  · have t1 : isTail (bat l (i + 1)) := ht 1 (by omega) (by omega)
    have t2 : isTail (bat l (i + 2)) := ht 2 (by omega) (by omega)
    have hp' : p = ((bat l i - 224) * 64 + bat l (i + 1) - 128) * 64 + bat l (i + 2) - 128 := by rw [hp]; rfl
    unfold isTail at t1 t2
    clear hp ht
    by_cases hb : bat l i = 0xE0 ∧ bat l (i + 1) < 0xA0 ∨ bat l i = 0xED ∧ 0x9F < bat l (i + 1)
    · rw [if_pos (by omega)]
      refine enc_no (by omega) fun hh => ?_
      have := hh.2.1 (by omega)
      unfold tailLow tailHigh at this
      repeat' split at this <;> omega
    · rw [if_neg (by omega), enc_ok (by omega) ⟨by omega, ?_, fun _ => by omega, fun hh => by omega⟩, hts]
      intro _
      unfold tailLow tailHigh
      repeat' split <;> omega
  · have t1 : isTail (bat l (i + 1)) := ht 1 (by omega) (by omega)
    have t2 : isTail (bat l (i + 2)) := ht 2 (by omega) (by omega)
    have t3 : isTail (bat l (i + 3)) := ht 3 (by omega) (by omega)
    have hp' : p = (((bat l i - 240) * 64 + bat l (i + 1) - 128) * 64 + bat l (i + 2) - 128) * 64 + bat l (i + 3) - 128 := by rw [hp]; rfl
    unfold isTail at t1 t2 t3
    clear hp ht
    by_cases hb : bat l i = 0xF0 ∧ bat l (i + 1) < 0x90 ∨ bat l i = 0xF4 ∧ 0x8F < bat l (i + 1)
    · rw [if_pos (by omega)]
      refine enc_no (by omega) fun hh => ?_
      have := hh.2.1 (by omega)
      unfold tailLow tailHigh at this
      repeat' split at this <;> omega
    · rw [if_neg (by omega), enc_ok (by omega) ⟨by omega, ?_, fun _ => by omega, fun _ => by omega⟩, hts]
      intro _
      unfold tailLow tailHigh
      repeat' split <;> omega

abbrev sizeSt (H : Hp) (l : List UInt8) (i n low p k : Int) : Sta := ⟨88, [(0, sv l), (1, .int .i64 i), (5, .int .i64 (bat l i)), (6, .int .i64 n), (7, .int .i64 low), (8, .int .i64 p), (9, .int .i64 k)], H, [], [], []⟩
/-- the number so far is small -/
def Few (p k : Int) : Prop := 0 ≤ p ∧ (k ≤ 1 → p < 32) ∧ (k ≤ 2 → p < 2048) ∧ (k ≤ 3 → p < 131072) ∧ p < 8388608
theorem RSt.few {l : List UInt8} {i n low : Int} (h : RSt l i n low) : Few (iand .i64 (bat l i) (255 / 2 ^ (n + 1).toNat)) 1 := by
  rw [h.p0]
  unfold Few
  rcases h.sh with ⟨rfl, rfl, h2, h3⟩ | ⟨rfl, rfl, h2, h3⟩ | ⟨rfl, rfl, h2, h3⟩ <;> simp <;> omega
theorem RSt.n_b {l : List UInt8} {i n low : Int} (h : RSt l i n low) : 1 < n ∧ n ≤ 4 := by rcases h.sh with ⟨rfl, _⟩ | ⟨rfl, _⟩ | ⟨rfl, _⟩ <;> omega
theorem size_loop {H : Hp} {l : List UInt8} {i n low : Int} (hst : RSt l i n low) {c : Ctx} {P : Program} {code : Code} {K : SP} {X : List (Nat × SP)} {R : SP} {s : Sta} (hin : i + n ≤ l.length) (hle : Sta.le (sizeSt H l i n low (iand .i64 (bat l i) (255 / 2 ^ (n + 1).toNat)) 1) s)
    (hr : ∀ (k : Nat) (p : Int), 1 ≤ k → (k : Int) ≤ n → Few p k → ((k : Int) = n → enc l i = if p < low ∨ 1114111 < p ∨ (55296 ≤ p ∧ p < 57344) then 0 else n) →
      wpA Fence.wide P c code (Shift c fun s' => (k : Int) < n ∧ isTail (bat l (i + k)) ∧ s' = sizeSt H l i n low (p * 64 + bat l (i + k) - 128) (k + 1)) X R (sizeSt H l i n low p k)) :
    wpA Fence.wide P c (.loop code) K X R s := by
  have hn := hst.n_b
  refine A_loopu (fun m s => ∃ (k : Nat) (p : Int), m = 4 - k ∧ 1 ≤ k ∧ (k : Int) ≤ n ∧ Few p k ∧ p = rpt l i (iand .i64 (bat l i) (255 / 2 ^ (n + 1).toNat)) (k - 1) ∧ (∀ j : Nat, 1 ≤ j → j < k → isTail (bat l (i + j))) ∧ s = sizeSt H l i n low p k) ?_ ?_
  · exact Shift.to ⟨3, 1, _, rfl, by omega, by omega, hst.few, rfl, fun j h1 h2 => by omega, rfl⟩ hle
  · rintro m s ⟨k, p, rfl, hk1, hk2, hf, hp, ht, rfl⟩
    refine A_mono (hr k p hk1 hk2 hf fun hkn => ?_) (fun s hs => hs.map ?_) fun _ h => h
    · have hkn' : n.toNat = k := by omega
      exact hst.all (by rw [hkn']; exact hp) hin (by rw [hkn']; exact ht)
    · rintro s' ⟨h1, h2, rfl⟩
      have hb := h2
      unfold isTail at hb
      refine ⟨4 - (k + 1), by omega, k + 1, _, rfl, by omega, by omega, ?_, ?_, fun j hj1 hj2 => ?_, rfl⟩
      · unfold Few at hf ⊢
        omega
      · obtain ⟨k, rfl⟩ : ∃ q, k = q + 1 := ⟨k - 1, by omega⟩
        rw [hp]; rfl
      · by_cases hjk : j = k
        · subst hjk; exact h2
        · exact ht j hj1 (by omega)
set_option maxRecDepth 100000 in
set_option maxHeartbeats 1000000 in
theorem size_fn (H : Hp) (l : List UInt8) (i : Int) (h0 : 0 ≤ i) (h1 : i < l.length) (hl : l.length < 4611686018427387904) : FnP Try.prog 52 [sv l, .int .i64 i] H (.int .i64 (enc l i)) := by
  have hb0 := bat_lo l i
  have hb1 := bat_hi l i
  refine Fn_of _ _ Try.func52 rfl Try.ntmps52 rfl fun c => ?_
  repeat' (first | refine O_nil ?_ | refine A_seq ?_ | refine A_region ?_ | refine A_skip ?_ | refine A_ret ?_ | refine A_block ?_ | (show opsA _ _ _ _ _ _ _; first | (refine O_split rfl rfl (fun h => ?_) (fun h => ?_) <;> try (exfalso; omega)) | refine O_ev WideF.wide rfl (Ev_pure rfl) rfl rfl ?_ | (show opsA _ _ _ _ (⟨_, .call _, _, _, _, _⟩ :: _) _ _; refine O_ev WideF.wide rfl (Ev_slen rfl) rfl rfl ?_) | (show opsA _ _ _ _ (⟨_, .binOp _ _ _ _ _, _, _, _, _⟩ :: _) _ _; first | refine O_ev WideF.wide rfl (Ev_add rfl rfl (wi64 (by omega))) rfl rfl ?_ | refine O_ev WideF.wide rfl (Ev_and rfl rfl) rfl rfl ?_ | refine O_ev WideF.wide rfl (Ev_shr rfl rfl (by decide) (by decide)) rfl rfl ?_) | (show opsA _ _ _ _ (⟨_, .index _ _ _, _, _, _, _⟩ :: _) _ _; refine O_ev WideF.wide rfl (Ev_sindex rfl rfl (by omega) (by omega)) rfl rfl ?_) | (show opsA _ _ _ _ (⟨_, .convert _ _ _, _, _, _, _⟩ :: _) _ _; refine O_ev WideF.wide rfl (Ev_conv (k2 := .i64) rfl (wi64 (bat_i64 _ _))) rfl rfl ?_) | refine O_skip WideF.wide rfl rfl rfl ?_) | (show wpA _ _ _ (.cond _ _ _) _ _ _ _; first | (refine A_if rfl (fun h => ?_) (fun h => ?_) <;> try (exfalso; omega)) | refine A_iffalse rfl ?_))
  · refine End_p (Ret1 rfl rfl) ?_; unfold enc; rw [if_pos (by assumption)]
  · refine End_p (Ret1 rfl rfl) ?_; rw [RSt.short (n := 2) (low := 128) ⟨.inl ⟨rfl, rfl, by omega, by omega⟩⟩ (by omega)]
  · have hst : RSt l i 2 128 := ⟨.inl ⟨rfl, rfl, by omega, by omega⟩⟩
    refine size_loop hst (by omega) ⟨rfl, rfl, rfl, ⟨rfl, rfl, rfl, rfl, rfl, rfl, rfl, trivial⟩, Own.sub_nil _⟩ fun k p hk1 hk2 hf he => ?_
    have hlo := bat_lo l (i + k)
    have hhi := bat_hi l (i + k)
    unfold Few at hf
    repeat' (first | refine O_nil ?_ | refine A_seq ?_ | refine A_region ?_ | refine A_skip ?_ | refine A_ret ?_ | refine A_block ?_ | (show opsA _ _ _ _ _ _ _; first | (refine O_split rfl rfl (fun h => ?_) (fun h => ?_) <;> try (exfalso; omega)) | refine O_ev WideF.wide rfl (Ev_pure rfl) rfl rfl ?_ | (show opsA _ _ _ _ (⟨_, .binOp _ _ _ _ _, _, _, _, _⟩ :: _) _ _; first | refine O_ev WideF.wide rfl (Ev_add rfl rfl (wi64 (by omega))) rfl rfl ?_ | refine O_ev WideF.wide rfl (Ev_sub rfl rfl (wi64 (by omega))) rfl rfl ?_ | refine O_ev WideF.wide rfl (Ev_mul rfl rfl (wi64 (by omega))) rfl rfl ?_) | (show opsA _ _ _ _ (⟨_, .index _ _ _, _, _, _, _⟩ :: _) _ _; refine O_ev WideF.wide rfl (Ev_sindex rfl rfl (by omega) (by omega)) rfl rfl ?_) | (show opsA _ _ _ _ (⟨_, .convert _ _ _, _, _, _, _⟩ :: _) _ _; refine O_ev WideF.wide rfl (Ev_conv (k2 := .i64) rfl (wi64 (bat_i64 _ _))) rfl rfl ?_) | refine O_skip WideF.wide rfl rfl rfl ?_) | (show wpA _ _ _ (.exit _) _ _ _ _; refine A_exit rfl ?_) | (show wpA _ _ _ (.cond _ _ _) _ _ _ _; first | (refine A_if rfl (fun h => ?_) (fun h => ?_) <;> try (exfalso; omega)) | refine A_iftrue rfl ?_ | refine A_iffalse rfl ?_))
    all_goals first
      | (refine End_p (Ret1 rfl rfl) ?_; rw [hst.no_tail (k := k) (by omega) (by omega) (by unfold isTail; omega)])
      | exact Shift.to ⟨by omega, ⟨by omega, by omega⟩, rfl⟩ ⟨rfl, rfl, rfl, ⟨rfl, rfl, rfl, rfl, rfl, rfl, rfl, trivial⟩, Own.sub_nil _⟩
      | (have e := he (by omega); rw [if_pos (by omega)] at e; refine End_p (Ret1 rfl rfl) ?_; rw [e])
      | (have e := he (by omega); rw [if_neg (by omega)] at e; refine End_p (Ret1 rfl rfl) ?_; rw [e])
  · refine End_p (Ret1 rfl rfl) ?_; rw [RSt.short (n := 3) (low := 2048) ⟨.inr (.inl ⟨rfl, rfl, by omega, by omega⟩)⟩ (by omega)]
  · have hst : RSt l i 3 2048 := ⟨.inr (.inl ⟨rfl, rfl, by omega, by omega⟩)⟩
    refine size_loop hst (by omega) ⟨rfl, rfl, rfl, ⟨rfl, rfl, rfl, rfl, rfl, rfl, rfl, trivial⟩, Own.sub_nil _⟩ fun k p hk1 hk2 hf he => ?_
    have hlo := bat_lo l (i + k)
    have hhi := bat_hi l (i + k)
    unfold Few at hf
    repeat' (first | refine O_nil ?_ | refine A_seq ?_ | refine A_region ?_ | refine A_skip ?_ | refine A_ret ?_ | refine A_block ?_ | (show opsA _ _ _ _ _ _ _; first | (refine O_split rfl rfl (fun h => ?_) (fun h => ?_) <;> try (exfalso; omega)) | refine O_ev WideF.wide rfl (Ev_pure rfl) rfl rfl ?_ | (show opsA _ _ _ _ (⟨_, .binOp _ _ _ _ _, _, _, _, _⟩ :: _) _ _; first | refine O_ev WideF.wide rfl (Ev_add rfl rfl (wi64 (by omega))) rfl rfl ?_ | refine O_ev WideF.wide rfl (Ev_sub rfl rfl (wi64 (by omega))) rfl rfl ?_ | refine O_ev WideF.wide rfl (Ev_mul rfl rfl (wi64 (by omega))) rfl rfl ?_) | (show opsA _ _ _ _ (⟨_, .index _ _ _, _, _, _, _⟩ :: _) _ _; refine O_ev WideF.wide rfl (Ev_sindex rfl rfl (by omega) (by omega)) rfl rfl ?_) | (show opsA _ _ _ _ (⟨_, .convert _ _ _, _, _, _, _⟩ :: _) _ _; refine O_ev WideF.wide rfl (Ev_conv (k2 := .i64) rfl (wi64 (bat_i64 _ _))) rfl rfl ?_) | refine O_skip WideF.wide rfl rfl rfl ?_) | (show wpA _ _ _ (.exit _) _ _ _ _; refine A_exit rfl ?_) | (show wpA _ _ _ (.cond _ _ _) _ _ _ _; first | (refine A_if rfl (fun h => ?_) (fun h => ?_) <;> try (exfalso; omega)) | refine A_iftrue rfl ?_ | refine A_iffalse rfl ?_))
    all_goals first
      | (refine End_p (Ret1 rfl rfl) ?_; rw [hst.no_tail (k := k) (by omega) (by omega) (by unfold isTail; omega)])
      | exact Shift.to ⟨by omega, ⟨by omega, by omega⟩, rfl⟩ ⟨rfl, rfl, rfl, ⟨rfl, rfl, rfl, rfl, rfl, rfl, rfl, trivial⟩, Own.sub_nil _⟩
      | (have e := he (by omega); rw [if_pos (by omega)] at e; refine End_p (Ret1 rfl rfl) ?_; rw [e])
      | (have e := he (by omega); rw [if_neg (by omega)] at e; refine End_p (Ret1 rfl rfl) ?_; rw [e])
  · refine End_p (Ret1 rfl rfl) ?_; rw [RSt.short (n := 4) (low := 65536) ⟨.inr (.inr ⟨rfl, rfl, by omega, by omega⟩)⟩ (by omega)]
  · have hst : RSt l i 4 65536 := ⟨.inr (.inr ⟨rfl, rfl, by omega, by omega⟩)⟩
    refine size_loop hst (by omega) ⟨rfl, rfl, rfl, ⟨rfl, rfl, rfl, rfl, rfl, rfl, rfl, trivial⟩, Own.sub_nil _⟩ fun k p hk1 hk2 hf he => ?_
    have hlo := bat_lo l (i + k)
    have hhi := bat_hi l (i + k)
    unfold Few at hf
    repeat' (first | refine O_nil ?_ | refine A_seq ?_ | refine A_region ?_ | refine A_skip ?_ | refine A_ret ?_ | refine A_block ?_ | (show opsA _ _ _ _ _ _ _; first | (refine O_split rfl rfl (fun h => ?_) (fun h => ?_) <;> try (exfalso; omega)) | refine O_ev WideF.wide rfl (Ev_pure rfl) rfl rfl ?_ | (show opsA _ _ _ _ (⟨_, .binOp _ _ _ _ _, _, _, _, _⟩ :: _) _ _; first | refine O_ev WideF.wide rfl (Ev_add rfl rfl (wi64 (by omega))) rfl rfl ?_ | refine O_ev WideF.wide rfl (Ev_sub rfl rfl (wi64 (by omega))) rfl rfl ?_ | refine O_ev WideF.wide rfl (Ev_mul rfl rfl (wi64 (by omega))) rfl rfl ?_) | (show opsA _ _ _ _ (⟨_, .index _ _ _, _, _, _, _⟩ :: _) _ _; refine O_ev WideF.wide rfl (Ev_sindex rfl rfl (by omega) (by omega)) rfl rfl ?_) | (show opsA _ _ _ _ (⟨_, .convert _ _ _, _, _, _, _⟩ :: _) _ _; refine O_ev WideF.wide rfl (Ev_conv (k2 := .i64) rfl (wi64 (bat_i64 _ _))) rfl rfl ?_) | refine O_skip WideF.wide rfl rfl rfl ?_) | (show wpA _ _ _ (.exit _) _ _ _ _; refine A_exit rfl ?_) | (show wpA _ _ _ (.cond _ _ _) _ _ _ _; first | (refine A_if rfl (fun h => ?_) (fun h => ?_) <;> try (exfalso; omega)) | refine A_iftrue rfl ?_))
    all_goals first
      | (refine End_p (Ret1 rfl rfl) ?_; rw [hst.no_tail (k := k) (by omega) (by omega) (by unfold isTail; omega)])
      | exact Shift.to ⟨by omega, ⟨by omega, by omega⟩, rfl⟩ ⟨rfl, rfl, rfl, ⟨rfl, rfl, rfl, rfl, rfl, rfl, rfl, trivial⟩, Own.sub_nil _⟩
      | (have e := he (by omega); rw [if_pos (by omega)] at e; refine End_p (Ret1 rfl rfl) ?_; rw [e])
      | (have e := he (by omega); rw [if_neg (by omega)] at e; refine End_p (Ret1 rfl rfl) ?_; rw [e])
  all_goals (refine End_p (Ret1 rfl rfl) ?_; unfold enc; rw [if_neg (by omega), if_pos (by unfold tailSize; rw [if_neg (by omega), if_pos (by omega)])])
end Go.Proofs.Ythbnhcgphkghaaa
