/-
  Numerals as data: digits, letters, Roman numerals, and the way back.
-/
import Derived.Test.YtaneeaojlkenmaaGreatDoorA4
import Derived.Lib.ItoaNum
import Derived.Lib.Repeat
import Derived.Lib.Case
namespace Go.Proofs.YtaneeaojlkenmaaGreatDoor
open Go Go.Lib
set_option linter.unusedVariables false
set_option linter.unusedSimpArgs false
def ltr : Nat → List UInt8
  | 0 => []
  | n + 1 => ltr (n / 26) ++ [UInt8.ofNat (97 + n % 26)]
decreasing_by omega
def signL : List (Nat × List UInt8) := [(1000, [109]), (900, [99, 109]), (500, [100]), (400, [99, 100]), (100, [99]), (90, [120, 99]), (50, [108]), (40, [120, 108]), (10, [120]), (9, [105, 120]), (5, [118]), (4, [105, 118]), (1, [105])]
def romL : List (Nat × List UInt8) → Nat → List UInt8
  | [], _ => []
  | (v, t) :: r, n => repeatL t (n / v) ++ romL r (n % v)
def rom (n : Nat) : List UInt8 := romL signL n
def ending (n : Nat) : List UInt8 :=
  if n / 10 % 10 = 1 then [116, 104] else if n % 10 = 1 then [115, 116] else if n % 10 = 2 then [110, 100] else if n % 10 = 3 then [114, 100] else [116, 104]
def upper (l : List UInt8) : List UInt8 := l.map upperB
def textF (f : Int) (n : Nat) : List UInt8 :=
  if f = 1 then decDigits n else if f = 2 then ltr n else if f = 3 then upper (ltr n) else if f = 4 then rom n else if f = 5 then upper (rom n) else if f = 6 then decDigits n ++ ending n else [226, 128, 162]
def loF (f : Int) : Int := if f = 1 then 0 else 1
def hiF (f : Int) : Int := if f = 4 ∨ f = 5 then 3999 else 999999
def okF (f : Int) : Prop := 1 ≤ f ∧ f ≤ 7
instance (f : Int) : Decidable (okF f) := by unfold okF; infer_instance
def inF (f n : Int) : Prop := okF f ∧ loF f ≤ n ∧ n ≤ hiF f
instance (f n : Int) : Decidable (inF f n) := by unfold inF; infer_instance
/-- what Format hands back -/
def fmtE (f n : Int) : List UInt8 × Int := if okF f then (if loF f ≤ n ∧ n ≤ hiF f then (textF f n.toNat, 0) else ([], 2)) else ([], 3)
theorem fmtE_ok {f n : Int} {s : List UInt8} : fmtE f n = (s, 0) ↔ inF f n ∧ s = textF f n.toNat := by
  unfold fmtE inF
  by_cases h : okF f
  · rw [if_pos h]
    by_cases h2 : loF f ≤ n ∧ n ≤ hiF f
    · rw [if_pos h2]; constructor
      · intro e; cases e; exact ⟨⟨h, h2⟩, rfl⟩
      · rintro ⟨_, rfl⟩; rfl
    · rw [if_neg h2]; constructor
      · intro e; cases e
      · rintro ⟨⟨_, h3⟩, _⟩; exact absurd h3 h2
  · rw [if_neg h]; constructor
    · intro e; cases e
    · rintro ⟨⟨h3, _⟩, _⟩; exact absurd h3 h
theorem inF_nat {f n : Int} (h : inF f n) : 0 ≤ n ∧ n ≤ 999999 := by
  obtain ⟨_, h1, h2⟩ := h
  unfold loF at h1
  unfold hiF at h2
  split at h1 <;> split at h2 <;> omega
/-! ### decimal digits -/
theorem dec_small {n : Nat} (h : n < 10) : decDigits n = [UInt8.ofNat (48 + n)] := by rw [decDigits, dif_pos h]
theorem dec_big {n : Nat} (h : ¬ n < 10) : decDigits n = decDigits (n / 10) ++ [UInt8.ofNat (48 + n % 10)] := by rw [decDigits, dif_neg h]
def dgS : List UInt8 → Int → Int
  | [], n => n
  | c :: r, n => if c.toNat < 48 ∨ 57 < c.toNat ∨ 999999 < n then -1 else dgS r (10 * n + (c.toNat - 48))
theorem dgS_step {d : Nat} (hd : d < 10) {n : Int} (hn : n ≤ 999999) (r : List UInt8) : dgS (UInt8.ofNat (48 + d) :: r) n = dgS r (10 * n + d) := by
  have e : (UInt8.ofNat (48 + d)).toNat = 48 + d := by simp; omega
  rw [dgS, e, if_neg (by omega)]
  congr 2
  omega
theorem dgS_dec (m : Nat) (r : List UInt8) (hm : m ≤ 999999) : dgS (decDigits m ++ r) 0 = dgS r m := by
  induction m using Nat.strongRecOn generalizing r with
  | _ m ih =>
    by_cases h : m < 10
    · rw [dec_small h, List.cons_append, List.nil_append, dgS_step h (by omega)]
      congr 1
      omega
    · rw [dec_big h, List.append_assoc, ih (m / 10) (by omega) _ (by omega), List.cons_append, List.nil_append, dgS_step (by omega) (by omega)]
      congr 1
      omega
def vdS : List UInt8 → Int → Int
  | [], n => n
  | c :: r, n => if 48 ≤ c.toNat ∧ c.toNat ≤ 57 then vdS r (n * 10 + c.toNat - 48) else n
theorem vdS_step {d : Nat} (hd : d < 10) {n : Int} (r : List UInt8) : vdS (UInt8.ofNat (48 + d) :: r) n = vdS r (10 * n + d) := by
  have e : (UInt8.ofNat (48 + d)).toNat = 48 + d := by simp; omega
  rw [vdS, e, if_pos (by omega)]
  congr 1
  omega
theorem vdS_dec (m : Nat) (r : List UInt8) : vdS (decDigits m ++ r) 0 = vdS r m := by
  induction m using Nat.strongRecOn generalizing r with
  | _ m ih =>
    by_cases h : m < 10
    · rw [dec_small h, List.cons_append, List.nil_append, vdS_step h]
      congr 1
      omega
    · rw [dec_big h, List.append_assoc, ih (m / 10) (by omega), List.cons_append, List.nil_append, vdS_step (by omega)]
      congr 1
      omega
theorem dec_len (m : Nat) : ∀ k, m < 10 ^ (k + 1) → (decDigits m).length ≤ k + 1 := by
  induction m using Nat.strongRecOn with
  | _ m ih =>
    intro k hk
    by_cases h : m < 10
    · rw [dec_small h]; simp
    · rw [dec_big h, List.length_append]
      cases k with
      | zero => simp at hk; omega
      | succ k =>
        have := ih (m / 10) (by omega) k (by rw [Nat.pow_succ] at hk; omega)
        simp only [List.length_singleton]
        omega
theorem dec_pos (m : Nat) : 1 ≤ (decDigits m).length := by
  by_cases h : m < 10
  · rw [dec_small h]; simp
  · rw [dec_big h]; simp
theorem ending_len (m : Nat) : (ending m).length = 2 := by unfold ending; (repeat' split) <;> rfl
theorem ending_no (m : Nat) (j : Nat) (n : Int) : vdS ((ending m).take j) n = n := by
  have : ∃ a b, ending m = [a, b] ∧ 57 < a.toNat := by unfold ending; (repeat' split) <;> exact ⟨_, _, rfl, by decide⟩
  obtain ⟨a, b, e, ha⟩ := this
  rw [e]
  cases j with
  | zero => rfl
  | succ j => rw [List.take_succ_cons, vdS, if_neg (by omega)]
/-! ### letters -/
theorem ltr_zero : ltr 0 = [] := by rw [ltr]
theorem ltr_succ (n : Nat) : ltr (n + 1) = ltr (n / 26) ++ [UInt8.ofNat (97 + n % 26)] := by rw [ltr]
theorem ltr_pos {n : Nat} (h : 0 < n) : ltr n = ltr ((n - 1) / 26) ++ [UInt8.ofNat (97 + (n - 1) % 26)] := by
  cases n with
  | zero => omega
  | succ n => rw [ltr_succ]; simp
def ltS : List UInt8 → Int → Int
  | [], n => n
  | c :: r, n => if 999999 < n then -1 else ltS r (26 * n + (((c ||| 32) - 97).toNat : Nat) + 1)
theorem letter_or : ∀ j : Fin 26, ((UInt8.ofNat (97 + j.val) ||| 32) - 97).toNat = j.val ∧ ((upperB (UInt8.ofNat (97 + j.val)) ||| 32) - 97).toNat = j.val ∧ (UInt8.ofNat (97 + j.val)).toNat = 97 + j.val ∧ (upperB (UInt8.ofNat (97 + j.val))).toNat = 65 + j.val := by decide
theorem ltS_ltr (g : UInt8 → UInt8) (hg : ∀ j : Nat, j < 26 → ((g (UInt8.ofNat (97 + j)) ||| 32) - 97).toNat = j) (m : Nat) (r : List UInt8) (hm : m ≤ 999999) : ltS ((ltr m).map g ++ r) 0 = ltS r m := by
  induction m using Nat.strongRecOn generalizing r with
  | _ m ih =>
    cases m with
    | zero => rw [ltr_zero]; rfl
    | succ n =>
      rw [ltr_succ, List.map_append, List.append_assoc, ih (n / 26) (by omega) _ (by omega), List.map_cons, List.map_nil, List.cons_append, List.nil_append, ltS, if_neg (by omega), hg _ (Nat.mod_lt _ (by omega))]
      congr 1
      omega
def vlS (b : Int) : List UInt8 → Int → Int
  | [], n => n
  | c :: r, n => vlS b r (n * 26 + c.toNat - b + 1)
theorem vlS_ltr (g : UInt8 → UInt8) (b : Nat) (hg : ∀ j : Nat, j < 26 → (g (UInt8.ofNat (97 + j))).toNat = b + j) (m : Nat) (r : List UInt8) : vlS b ((ltr m).map g ++ r) 0 = vlS b r m := by
  induction m using Nat.strongRecOn generalizing r with
  | _ m ih =>
    cases m with
    | zero => rw [ltr_zero]; rfl
    | succ n =>
      rw [ltr_succ, List.map_append, List.append_assoc, ih (n / 26) (by omega), List.map_cons, List.map_nil, List.cons_append, List.nil_append, vlS, hg _ (Nat.mod_lt _ (by omega))]
      congr 1
      omega
theorem ltr_len (m : Nat) : ∀ k, m < 26 ^ k → (ltr m).length ≤ k := by
  induction m using Nat.strongRecOn with
  | _ m ih =>
    intro k hk
    cases m with
    | zero => rw [ltr_zero]; simp
    | succ n =>
      rw [ltr_succ, List.length_append]
      cases k with
      | zero => simp at hk
      | succ k =>
        have := ih (n / 26) (by omega) k (by rw [Nat.pow_succ] at hk; omega)
        simp only [List.length_singleton]
        omega
theorem ltr_some {m : Nat} (h : 0 < m) : 1 ≤ (ltr m).length := by rw [ltr_pos h]; simp
/-! ### Roman numerals -/
def rval (c : UInt8) : Int := if c = 105 ∨ c = 73 then 1 else if c = 118 ∨ c = 86 then 5 else if c = 120 ∨ c = 88 then 10 else if c = 108 ∨ c = 76 then 50 else if c = 99 ∨ c = 67 then 100 else if c = 100 ∨ c = 68 then 500 else if c = 109 ∨ c = 77 then 1000 else 0
def vrS : Nat → List UInt8 → Int → Int
  | 0, _, n => n
  | _, [], n => n
  | k + 1, c :: r, n => vrS k r (n + (match r with | [] => rval c | c2 :: _ => if rval c < rval c2 then - rval c else rval c))
set_option maxRecDepth 100000 in
theorem vrS_rom : ∀ m : Fin 4000, vrS 20 (rom m.val) 0 = m.val ∧ vrS 20 (upper (rom m.val)) 0 = m.val ∧ (rom m.val).length ≤ 15 := by decide +kernel
end Go.Proofs.YtaneeaojlkenmaaGreatDoor
