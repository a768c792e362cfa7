/-
  Filling and fitting as data (plain Lean): the numeral of a placeholder, the numbers a string can denote (program and reference), labels that fit.
-/
import Derived.Test.YtaneeaojlkenmaaGreatDoorL2
import Derived.Test.YtaneeaojlkenmaaGreatDoorK8
namespace Go.Proofs.YtaneeaojlkenmaaGreatDoor
open Go Go.Lib
set_option linter.unusedVariables false
set_option linter.unusedSimpArgs false
/-- the numeral of a number for a placeholder of a level with a format -/
def digT (f n : Int) (pl : Bool) : List UInt8 :=
  if pl = false ∧ (fmtE f n).2 = 0 then (fmtE f n).1 else if (fmtE 1 n).2 = 0 then (fmtE 1 n).1 else [63]
def prs (f : Int) (s : List UInt8) : Option Int := if okF f ∧ f ≠ 7 ∧ s ≠ [] ∧ fmtE f (valueS f s) = (s, 0) then some (valueS f s) else none
theorem value_fmt {f n : Int} {s : List UInt8} (h7 : f ≠ 7) (h : fmtE f n = (s, 0)) : valueS f s = n := by
  obtain ⟨a1, a2⟩ := fmtE_ok.1 h
  have p1 := (inF_nat a1).1
  have e1 : ((n.toNat : Nat) : Int) = n := by omega
  have v := value_text (f := f) (m := n.toNat) (by rw [e1]; exact a1) h7
  rw [← a2] at v
  omega
theorem prs_iff {f n : Int} {s : List UInt8} : prs f s = some n ↔ f ≠ 7 ∧ s ≠ [] ∧ fmtE f n = (s, 0) := by
  unfold prs
  constructor
  · intro h
    split at h
    · next h' => cases h; exact h'.2
    · cases h
  · rintro ⟨h7, hs, h⟩
    have hok := (fmtE_ok.1 h).1.1
    rw [value_fmt h7 h, if_pos ⟨hok, h7, hs, h⟩]
theorem prs_some {f n : Int} {s : List UInt8} (h : prs f s = some n) : parseE f s = (n, 0) := by
  obtain ⟨h7, hs, hf⟩ := prs_iff.1 h
  exact parse_hit (fmtE_ok.1 hf).1.1 h7 hs hf
theorem prs_none {f : Int} {s : List UInt8} (h : prs f s = none) : (parseE f s).2 ≠ 0 := by
  by_cases hok : ¬ okF f ∨ f = 7
  · rw [parse_no hok]; decide
  · have h1 : okF f := Classical.byContradiction fun h' => hok (.inl h')
    have h7 : f ≠ 7 := fun h' => hok (.inr h')
    by_cases hs : s = []
    · rw [hs, parse_nil h1 h7]; decide
    · rw [parse_miss h1 h7 hs fun n hn => ?_]
      · decide
      · rw [prs_iff.2 ⟨h7, hs, hn⟩] at h; cases h
/-- the numbers that a string can denote, of the program -/
def candP (f : Int) (pl : Bool) (s : List UInt8) (k : Int) : List Int :=
  if 0 ≤ k then (if digT f k pl = s then [k] else [])
  else if f = 7 ∧ pl = false then (if digT f 1 false = s then [-1] else if s = [48] ∧ k = -2 then [0] else [])
  else (if pl then [] else (prs f s).toList) ++
    (match prs 1 s with | some n => if digT f n pl = s ∧ (k = -2 ∨ 1 ≤ n) ∧ n ∉ (if pl then [] else (prs f s).toList) then [n] else [] | none => [])
/-- the format that counts -/
def gF (f : Int) (pl : Bool) : Int := if pl then 1 else f
/-- of the reference -/
def candR (f : Int) (pl : Bool) (s : List UInt8) : List Int :=
  (if gF f pl = 7 ∧ digT f 1 pl = s then [1] else []) ++ (if gF f pl ≠ 7 then (prs (gF f pl) s).toList else []) ++
    (match prs 1 s with | some n => if gF f pl ≠ 1 ∧ digT f n pl = s then [n] else [] | none => [])
def stepR (b : Bool) (c old : Int) : Option Int :=
  if b = true ∧ c = 1 then (if old = -1 then some (-2) else if old = -2 ∨ 0 < old then some old else none)
  else if old = -1 ∨ old = c ∨ old = -2 ∧ 0 < c then some c else none
def bul (f : Int) (pl : Bool) : Bool := decide (pl = false ∧ f = 7)
def cnv (k : Int) : Int := if k = -2 then -1 else if k = -1 then -2 else k
/-- what the program may know of a number -/
def Know (f : Int) (k : Int) : Prop := k = -2 ∨ (k = -1 ∧ f = 7) ∨ (0 ≤ k ∧ k ≤ 999999)
theorem fmt1 {n : Int} (h : 0 ≤ n ∧ n ≤ 999999) : fmtE 1 n = (decDigits n.toNat, 0) := by
  unfold fmtE
  rw [if_pos (by decide), if_pos ⟨h.1, h.2⟩]; rfl
theorem fmt_zero {f n : Int} (h : (fmtE f n).2 = 0) : fmtE f n = ((fmtE f n).1, 0) := by rw [← h]
theorem dig_fmt {f n : Int} {pl : Bool} (h : (fmtE (gF f pl) n).2 = 0) : digT f n pl = (fmtE (gF f pl) n).1 := by
  cases pl with
  | false => exact if_pos ⟨rfl, h⟩
  | true => exact (if_neg (by simp)).trans (if_pos h)
theorem dig_dec {f n : Int} {pl : Bool} (h : (fmtE (gF f pl) n).2 ≠ 0) (hn : 0 ≤ n ∧ n ≤ 999999) : digT f n pl = decDigits n.toNat := by
  unfold digT gF at *
  rw [if_neg (by
    rintro ⟨rfl, h2⟩
    exact h h2), fmt1 hn, if_pos rfl]
theorem dec_ne (n : Nat) : decDigits n ≠ [] := by
  have := dec_pos n
  intro h; rw [h] at this; simp at this
theorem prs1 {n : Int} (h : 0 ≤ n ∧ n ≤ 999999) : prs 1 (decDigits n.toNat) = some n := prs_iff.2 ⟨by decide, dec_ne _, fmt1 h⟩
theorem prs1_of {n : Int} {s : List UInt8} (h : prs 1 s = some n) : 0 ≤ n ∧ n ≤ 999999 ∧ s = decDigits n.toNat := by
  obtain ⟨_, _, h⟩ := prs_iff.1 h
  obtain ⟨h1, h2⟩ := fmtE_ok.1 h
  have := inF_nat h1
  exact ⟨this.1, this.2, h2⟩
theorem prs_bnd {f n : Int} {s : List UInt8} (h : prs f s = some n) : 0 ≤ n ∧ n ≤ 999999 := by
  obtain ⟨_, _, h⟩ := prs_iff.1 h
  exact inF_nat (fmtE_ok.1 h).1
theorem bul_text {n : Int} (h : 1 ≤ n ∧ n ≤ 999999) : digT 7 n false = [226, 128, 162] := by
  have : fmtE 7 n = ([226, 128, 162], 0) := by
    unfold fmtE
    rw [if_pos (by decide), if_pos ⟨h.1, h.2⟩]; rfl
  unfold digT
  rw [this, if_pos ⟨rfl, rfl⟩]
theorem bul_zero : digT 7 0 false = [48] := by decide +kernel
theorem bul_nodec {n : Nat} : decDigits n ≠ [226, 128, 162] := by
  intro h
  by_cases h1 : n < 10
  · rw [dec_small h1] at h; have := congrArg List.length h; simp at this
  · rw [dec_big h1] at h
    have h2 := congrArg List.getLast? h
    simp only [List.getLast?_append, List.getLast?_singleton, Option.some_or] at h2
    have h3 := congrArg (fun o => (o.map UInt8.toNat)) h2
    simp at h3
    omega
theorem text_len {f n : Int} (h : inF f n) : (textF f n.toNat).length ≤ 15 := by
  have hb := inF_nat h
  obtain ⟨hok, h1, h2⟩ := h
  rcases okF_cases hok with rfl | rfl | rfl | rfl | rfl | rfl | rfl
  · have := dec_len n.toNat 5 (by omega); show (decDigits n.toNat).length ≤ 15; omega
  · have := ltr_len n.toNat 5 (by omega); show (ltr n.toNat).length ≤ 15; omega
  · have := ltr_len n.toNat 5 (by omega); show (upper (ltr n.toNat)).length ≤ 15; simp [upper]; omega
  · exact rom_len (by have : n ≤ 3999 := h2; omega)
  · have := rom_len (n := n.toNat) (by have : n ≤ 3999 := h2; omega); show (upper (rom n.toNat)).length ≤ 15; simp [upper]; omega
  · have := dec_len n.toNat 5 (by omega); have := ending_len n.toNat; show (decDigits n.toNat ++ ending n.toNat).length ≤ 15; rw [List.length_append]; omega
  · show 3 ≤ 15; decide
theorem fmt_len {f n : Int} : (fmtE f n).1.length ≤ 15 := by
  by_cases h : (fmtE f n).2 = 0
  · obtain ⟨h1, h2⟩ := fmtE_ok.1 (fmt_zero h)
    rw [h2]; exact text_len h1
  · have : (fmtE f n).1 = [] := by
      unfold fmtE at h ⊢
      split
      · split
        · next h1 h2 => rw [if_pos h1, if_pos h2] at h; exact absurd rfl h
        · rfl
      · rfl
    rw [this]; decide
theorem dig_len {f n : Int} {pl : Bool} : (digT f n pl).length ≤ 15 := by
  unfold digT
  split
  · exact fmt_len
  · split
    · exact fmt_len
    · decide
theorem text_ne {f n : Int} (h : inF f n) : textF f n.toNat ≠ [] := by
  have hb := inF_nat h
  obtain ⟨hok, h1, h2⟩ := h
  have key : ∀ l : List UInt8, 1 ≤ l.length → l ≠ [] := fun l hl e => by rw [e] at hl; simp at hl
  rcases okF_cases hok with rfl | rfl | rfl | rfl | rfl | rfl | rfl
  · exact dec_ne _
  · exact key _ (ltr_some (by have : 1 ≤ n := h1; omega))
  · exact key _ (by show 1 ≤ (upper (ltr n.toNat)).length; simp only [upper, List.length_map]; exact ltr_some (by have : 1 ≤ n := h1; omega))
  · have := (vrS_rom ⟨n.toNat, by have : n ≤ 3999 := h2; omega⟩).1
    intro e
    have e' : rom n.toNat = [] := e
    simp only [e'] at this
    have h0 : vrS 20 [] 0 = 0 := rfl
    rw [h0] at this
    have : 1 ≤ n := h1
    omega
  · have := (vrS_rom ⟨n.toNat, by have : n ≤ 3999 := h2; omega⟩).2.1
    intro e
    have e' : upper (rom n.toNat) = [] := e
    simp only [e'] at this
    have h0 : vrS 20 [] 0 = 0 := rfl
    rw [h0] at this
    have : 1 ≤ n := h1
    omega
  · exact fun e => dec_ne _ (List.append_eq_nil_iff.1 e).1
  · exact (by decide : ([226, 128, 162] : List UInt8) ≠ [])
theorem dig_ne {f n : Int} {pl : Bool} : digT f n pl ≠ [] := by
  unfold digT
  split
  · next h => obtain ⟨h1, h2⟩ := fmtE_ok.1 (fmt_zero h.2); rw [h2]; exact text_ne h1
  · split
    · next h => obtain ⟨h1, h2⟩ := fmtE_ok.1 (fmt_zero h); rw [h2]; exact text_ne h1
    · decide
theorem prs_len {f n : Int} {s : List UInt8} (h : prs f s = some n) : s.length ≤ 15 := by
  obtain ⟨_, _, h⟩ := prs_iff.1 h
  obtain ⟨h1, h2⟩ := fmtE_ok.1 h
  rw [h2]; exact text_len h1
theorem mem_tail {f c k : Int} {pl : Bool} {s : List UInt8} {a : List Int} : (c ∈ (match prs 1 s with | some n => if digT f n pl = s ∧ (k = -2 ∨ 1 ≤ n) ∧ n ∉ a then [n] else [] | none => [])) ↔ prs 1 s = some c ∧ digT f c pl = s ∧ (k = -2 ∨ 1 ≤ c) ∧ c ∉ a := by
  cases h : prs 1 s with
  | none => simp
  | some n =>
    simp only [Option.some.injEq]
    split
    · next h' => simp only [List.mem_singleton]; constructor
                 · rintro rfl; exact ⟨rfl, h'⟩
                 · rintro ⟨rfl, _⟩; rfl
    · next h' => simp only [List.not_mem_nil, false_iff]; rintro ⟨rfl, h2⟩; exact h' h2
theorem mem_tailR {f g c : Int} {pl : Bool} {s : List UInt8} : (c ∈ (match prs 1 s with | some n => if g ≠ 1 ∧ digT f n pl = s then [n] else [] | none => [])) ↔ prs 1 s = some c ∧ g ≠ 1 ∧ digT f c pl = s := by
  cases h : prs 1 s with
  | none => simp
  | some n =>
    simp only [Option.some.injEq]
    split
    · next h' => simp only [List.mem_singleton]; constructor
                 · rintro rfl; exact ⟨rfl, h'⟩
                 · rintro ⟨rfl, _⟩; rfl
    · next h' => simp only [List.not_mem_nil, false_iff]; rintro ⟨rfl, h2⟩; exact h' h2
theorem mem_candR {f c : Int} {pl : Bool} {s : List UInt8} : c ∈ candR f pl s ↔ (gF f pl = 7 ∧ digT f 1 pl = s ∧ c = 1) ∨ (gF f pl ≠ 7 ∧ prs (gF f pl) s = some c) ∨ (prs 1 s = some c ∧ gF f pl ≠ 1 ∧ digT f c pl = s) := by
  unfold candR
  rw [List.mem_append, List.mem_append, mem_tailR]
  constructor
  · rintro ((h | h) | h)
    · split at h
      · next h' => simp at h; exact .inl ⟨h'.1, h'.2, h⟩
      · simp at h
    · split at h
      · next h' => simp at h; exact .inr (.inl ⟨h', h⟩)
      · simp at h
    · exact .inr (.inr h)
  · rintro (⟨h1, h2, rfl⟩ | ⟨h1, h2⟩ | h)
    · exact .inl (.inl (by rw [if_pos ⟨h1, h2⟩]; simp))
    · exact .inl (.inr (by rw [if_pos h1]; simp [h2]))
    · exact .inr h
theorem mem_candP_neg {f c k : Int} {pl : Bool} {s : List UInt8} (hk : ¬ 0 ≤ k) (hb : ¬ (f = 7 ∧ pl = false)) :
    c ∈ candP f pl s k ↔ (pl = false ∧ prs f s = some c) ∨ (prs 1 s = some c ∧ digT f c pl = s ∧ (k = -2 ∨ 1 ≤ c) ∧ c ∉ (if pl then [] else (prs f s).toList)) := by
  unfold candP
  rw [if_neg hk, if_neg hb, List.mem_append, mem_tail]
  cases pl <;> simp
theorem mem_candP_pos {f c k : Int} {pl : Bool} {s : List UInt8} (hk : 0 ≤ k) : c ∈ candP f pl s k ↔ digT f k pl = s ∧ c = k := by
  unfold candP
  rw [if_pos hk]
  split <;> simp_all
theorem mem_candP_bul {c k : Int} {s : List UInt8} (hk : ¬ 0 ≤ k) : c ∈ candP 7 false s k ↔ (s = [226, 128, 162] ∧ c = -1) ∨ (s = [48] ∧ k = -2 ∧ c = 0) := by
  unfold candP
  rw [if_neg hk, if_pos ⟨rfl, rfl⟩, bul_text (by decide)]
  by_cases h1 : ([226, 128, 162] : List UInt8) = s
  · subst h1; simp
  · rw [if_neg h1]
    have h1' : s ≠ [226, 128, 162] := fun h => h1 h.symm
    by_cases h2 : s = [48] ∧ k = -2
    · rw [if_pos h2]; simp [h1', h2]
    · rw [if_neg h2]; simp [h1']; intro h3 h4; exact absurd ⟨h3, h4⟩ h2
theorem mem_candR_bul {c : Int} {s : List UInt8} : c ∈ candR 7 false s ↔ (s = [226, 128, 162] ∧ c = 1) ∨ (s = [48] ∧ c = 0) := by
  rw [mem_candR, show gF 7 false = 7 from rfl, bul_text (by decide)]
  constructor
  · rintro (⟨_, h, rfl⟩ | ⟨h, _⟩ | ⟨h, _, h2⟩)
    · exact .inl ⟨h.symm, rfl⟩
    · exact absurd rfl h
    · obtain ⟨h3, h4, h5⟩ := prs1_of h
      by_cases h6 : c = 0
      · subst h6; exact .inr ⟨by rw [← h2, bul_zero], rfl⟩
      · rw [bul_text ⟨by omega, h4⟩] at h2
        rw [← h2] at h5
        exact absurd h5.symm bul_nodec
  · rintro (⟨rfl, rfl⟩ | ⟨rfl, rfl⟩)
    · exact .inl ⟨rfl, rfl, rfl⟩
    · refine .inr (.inr ⟨?_, by decide, bul_zero⟩)
      have := prs1 (n := 0) (by decide)
      have e : decDigits (0 : Int).toNat = [48] := by rw [show (0 : Int).toNat = 0 from rfl, dec_small (by decide)]; rfl
      rwa [e] at this
theorem step_bul {k m : Int} {s : List UInt8} (hk : Know 7 k) : (∃ c ∈ candR 7 false s, stepR true c (cnv k) = some m) ↔ ∃ n ∈ candP 7 false s k, m = cnv n := by
  have hR : (∃ c ∈ candR 7 false s, stepR true c (cnv k) = some m) ↔ (s = [226, 128, 162] ∧ stepR true 1 (cnv k) = some m) ∨ (s = [48] ∧ stepR true 0 (cnv k) = some m) := by
    constructor
    · rintro ⟨c, hc, h⟩
      rcases mem_candR_bul.1 hc with ⟨rfl, rfl⟩ | ⟨rfl, rfl⟩
      · exact .inl ⟨rfl, h⟩
      · exact .inr ⟨rfl, h⟩
    · rintro (⟨rfl, h⟩ | ⟨rfl, h⟩)
      · exact ⟨1, mem_candR_bul.2 (.inl ⟨rfl, rfl⟩), h⟩
      · exact ⟨0, mem_candR_bul.2 (.inr ⟨rfl, rfl⟩), h⟩
  rw [hR]
  have hne : ([226, 128, 162] : List UInt8) ≠ [48] := by decide
  rcases hk with rfl | ⟨rfl, _⟩ | ⟨h0, h1⟩
  · have s1 : stepR true 1 (cnv (-2)) = some (-2) := by decide
    have s2 : stepR true 0 (cnv (-2)) = some 0 := by decide
    rw [s1, s2]
    constructor
    · rintro (⟨rfl, h⟩ | ⟨rfl, h⟩)
      · exact ⟨-1, (mem_candP_bul (by decide)).2 (.inl ⟨rfl, rfl⟩), by cases h; decide⟩
      · exact ⟨0, (mem_candP_bul (by decide)).2 (.inr ⟨rfl, rfl, rfl⟩), by cases h; decide⟩
    · rintro ⟨n, hn, rfl⟩
      rcases (mem_candP_bul (by decide)).1 hn with ⟨rfl, rfl⟩ | ⟨rfl, _, rfl⟩
      · exact .inl ⟨rfl, by decide⟩
      · exact .inr ⟨rfl, by decide⟩
  · have s1 : stepR true 1 (cnv (-1)) = some (-2) := by decide
    have s2 : stepR true 0 (cnv (-1)) = none := by decide
    rw [s1, s2]
    constructor
    · rintro (⟨rfl, h⟩ | ⟨rfl, h⟩)
      · exact ⟨-1, (mem_candP_bul (by decide)).2 (.inl ⟨rfl, rfl⟩), by cases h; decide⟩
      · cases h
    · rintro ⟨n, hn, rfl⟩
      rcases (mem_candP_bul (by decide)).1 hn with ⟨rfl, rfl⟩ | ⟨_, h, _⟩
      · exact .inl ⟨rfl, by decide⟩
      · cases h
  · have e : cnv k = k := by unfold cnv; rw [if_neg (by omega), if_neg (by omega)]
    have hP : (∃ n ∈ candP 7 false s k, m = cnv n) ↔ digT 7 k false = s ∧ m = k := by
      constructor
      · rintro ⟨n, hn, rfl⟩
        obtain ⟨h, rfl⟩ := (mem_candP_pos h0).1 hn
        exact ⟨h, e⟩
      · rintro ⟨h, rfl⟩
        exact ⟨m, (mem_candP_pos h0).2 ⟨h, rfl⟩, e.symm⟩
    rw [hP, e]
    by_cases hz : k = 0
    · subst hz
      have s1 : stepR true 1 0 = none := by decide
      have s2 : stepR true 0 0 = some 0 := by decide
      rw [s1, s2, bul_zero]
      constructor
      · rintro (⟨_, h⟩ | ⟨rfl, h⟩)
        · cases h
        · cases h; exact ⟨rfl, rfl⟩
      · rintro ⟨rfl, rfl⟩
        exact .inr ⟨rfl, rfl⟩
    · have s1 : stepR true 1 k = some k := by unfold stepR; rw [if_pos ⟨rfl, rfl⟩, if_neg (by omega), if_pos (.inr (by omega))]
      have s2 : stepR true 0 k = none := by unfold stepR; rw [if_neg (by simp), if_neg (by omega)]
      rw [s1, s2, bul_text ⟨by omega, h1⟩]
      constructor
      · rintro (⟨rfl, h⟩ | ⟨_, h⟩)
        · cases h; exact ⟨rfl, rfl⟩
        · cases h
      · rintro ⟨rfl, rfl⟩
        exact .inl ⟨rfl, rfl⟩
theorem step_num {f k m : Int} {pl : Bool} {s : List UInt8} (hk : Know f k) (hs : s ≠ []) (hb : ¬ (f = 7 ∧ pl = false)) : (∃ c ∈ candR f pl s, stepR false c (cnv k) = some m) ↔ ∃ n ∈ candP f pl s k, m = cnv n := by
  have hg : gF f pl ≠ 7 := by
    unfold gF
    cases pl with
    | false => intro h; exact hb ⟨h, rfl⟩
    | true => show (1 : Int) ≠ 7; decide
  have hR : ∀ c, c ∈ candR f pl s ↔ prs (gF f pl) s = some c ∨ (prs 1 s = some c ∧ gF f pl ≠ 1 ∧ digT f c pl = s) := fun c => by
    rw [mem_candR]
    constructor
    · rintro (⟨h, _⟩ | ⟨_, h⟩ | h)
      · exact absurd h hg
      · exact .inl h
      · exact .inr h
    · rintro (h | h)
      · exact .inr (.inl ⟨hg, h⟩)
      · exact .inr (.inr h)
  have hst : ∀ c, stepR false c (cnv k) = if cnv k = -1 ∨ cnv k = c ∨ cnv k = -2 ∧ 0 < c then some c else none := fun c => by unfold stepR; rw [if_neg (by simp)]
  have hpos : ∀ c, c ∈ candR f pl s → 0 ≤ c ∧ c ≤ 999999 := fun c hc => by
    rcases (hR c).1 hc with h | ⟨h, _⟩
    · exact prs_bnd h
    · exact prs_bnd h
  have hcn : ∀ c : Int, 0 ≤ c → cnv c = c := fun c hc => by unfold cnv; rw [if_neg (by omega), if_neg (by omega)]
  by_cases h0 : 0 ≤ k
  · have h1 : k ≤ 999999 := by rcases hk with h | ⟨h, _⟩ | h <;> omega
    have hkey : k ∈ candR f pl s ↔ digT f k pl = s := by
      rw [hR]
      constructor
      · rintro (h | ⟨_, _, h⟩)
        · obtain ⟨_, _, h2⟩ := prs_iff.1 h
          rw [dig_fmt (by rw [h2]), h2]
        · exact h
      · intro h
        by_cases hf : (fmtE (gF f pl) k).2 = 0
        · rw [dig_fmt hf] at h
          exact .inl (prs_iff.2 ⟨hg, hs, (fmt_zero hf).trans (by rw [h])⟩)
        · rw [dig_dec hf ⟨h0, h1⟩] at h
          refine .inr ⟨by rw [← h]; exact prs1 ⟨h0, h1⟩, fun h2 => hf ?_, by rw [dig_dec hf ⟨h0, h1⟩, h]⟩
          rw [h2, fmt1 ⟨h0, h1⟩]
    constructor
    · rintro ⟨c, hc, h⟩
      rw [hst, hcn k h0] at h
      split at h
      · next h2 =>
        cases h
        have : k = m := by omega
        subst this
        exact ⟨k, (mem_candP_pos h0).2 ⟨hkey.1 hc, rfl⟩, (hcn k h0).symm⟩
      · cases h
    · rintro ⟨n, hn, rfl⟩
      obtain ⟨h, rfl⟩ := (mem_candP_pos h0).1 hn
      refine ⟨n, hkey.2 h, ?_⟩
      rw [hst, hcn n h0, if_pos (.inr (.inl rfl))]
  · have hP := fun c => mem_candP_neg (f := f) (c := c) (k := k) (pl := pl) (s := s) h0 hb
    have hk' : k = -2 ∨ (k = -1 ∧ pl = true ∧ f = 7) := by
      rcases hk with h | ⟨h, h7⟩ | h
      · exact .inl h
      · refine .inr ⟨h, ?_, h7⟩
        cases pl with
        | true => rfl
        | false => exact absurd ⟨h7, rfl⟩ hb
      · omega
    have hgo : ∀ c, 0 ≤ c → (stepR false c (cnv k) = some m ↔ c = m ∧ (k = -2 ∨ 1 ≤ c)) := fun c hc => by
      rw [hst]
      have : (cnv k = -1 ∨ cnv k = c ∨ cnv k = -2 ∧ 0 < c) ↔ (k = -2 ∨ 1 ≤ c) := by
        rcases hk' with rfl | ⟨rfl, _⟩
        · simp [cnv]
        · have : cnv (-1) = -2 := by decide
          rw [this]; omega
      by_cases h : k = -2 ∨ 1 ≤ c
      · rw [if_pos (this.2 h)]
        constructor
        · intro h2; cases h2; exact ⟨rfl, h⟩
        · rintro ⟨rfl, _⟩; rfl
      · rw [if_neg (fun h2 => h (this.1 h2))]
        constructor
        · intro h2; cases h2
        · rintro ⟨_, h2⟩; exact absurd h2 h
    have hmem : ∀ c, (k = -2 ∨ 1 ≤ c) → (c ∈ candR f pl s ↔ c ∈ candP f pl s k) := fun c hc => by
      rw [hR, hP]
      constructor
      · rintro (h | ⟨h, h2, h3⟩)
        · cases pl with
          | false => exact .inl ⟨rfl, h⟩
          | true =>
            have h' : prs 1 s = some c := h
            obtain ⟨_, _, h2⟩ := prs_iff.1 h'
            refine .inr ⟨h', ?_, hc, by simp⟩
            have := dig_fmt (f := f) (n := c) (pl := true) (by show (fmtE 1 c).2 = 0; rw [h2])
            rw [this]; show (fmtE 1 c).1 = s; rw [h2]
        · by_cases ha : pl = false ∧ prs f s = some c
          · exact .inl ha
          · refine .inr ⟨h, h3, hc, ?_⟩
            cases pl with
            | true => simp
            | false =>
              simp only [Bool.false_eq_true, if_false, Option.mem_toList]
              intro h4; exact ha ⟨rfl, h4⟩
      · rintro (⟨rfl, h⟩ | ⟨h, h2, _, _⟩)
        · exact .inl h
        · by_cases h1 : gF f pl = 1
          · rw [h1]; exact .inl h
          · exact .inr ⟨h, h1, h2⟩
    have hposP : ∀ c, c ∈ candP f pl s k → 0 ≤ c ∧ (k = -2 ∨ 1 ≤ c) := fun c hc => by
      rcases (hP c).1 hc with ⟨h, h2⟩ | ⟨h, _, h2, _⟩
      · refine ⟨(prs_bnd h2).1, .inl ?_⟩
        rcases hk' with h3 | ⟨_, h3, _⟩
        · exact h3
        · rw [h] at h3; cases h3
      · exact ⟨(prs_bnd h).1, h2⟩
    constructor
    · rintro ⟨c, hc, h⟩
      obtain ⟨rfl, h2⟩ := (hgo c (hpos c hc).1).1 h
      exact ⟨c, (hmem c h2).1 hc, (hcn c (hpos c hc).1).symm⟩
    · rintro ⟨n, hn, rfl⟩
      obtain ⟨h1, h2⟩ := hposP n hn
      refine ⟨n, (hmem n h2).2 hn, ?_⟩
      rw [hcn n h1] at *
      exact (hgo n h1).2 ⟨rfl, h2⟩
theorem step_same {f k m : Int} {pl : Bool} {s : List UInt8} (hk : Know f k) (hs : s ≠ []) : (∃ c ∈ candR f pl s, stepR (bul f pl) c (cnv k) = some m) ↔ ∃ n ∈ candP f pl s k, m = cnv n := by
  unfold bul
  by_cases hb : f = 7 ∧ pl = false
  · obtain ⟨rfl, rfl⟩ := hb
    exact step_bul hk
  · rw [decide_eq_false (fun h => hb ⟨h.2, h.1⟩)]
    exact step_num hk hs hb
theorem cand_know {f k n : Int} {pl : Bool} {s : List UInt8} (hk : Know f k) (h : n ∈ candP f pl s k) : Know f n := by
  by_cases h0 : 0 ≤ k
  · obtain ⟨_, rfl⟩ := (mem_candP_pos h0).1 h; exact hk
  · by_cases hb : f = 7 ∧ pl = false
    · obtain ⟨rfl, rfl⟩ := hb
      rcases (mem_candP_bul h0).1 h with ⟨_, rfl⟩ | ⟨_, _, rfl⟩
      · exact .inr (.inl ⟨rfl, rfl⟩)
      · exact .inr (.inr (by decide))
    · rcases (mem_candP_neg h0 hb).1 h with ⟨_, h⟩ | ⟨h, _⟩ <;> exact .inr (.inr (prs_bnd h))
theorem cand_len {f k n : Int} {pl : Bool} {s : List UInt8} (h : n ∈ candP f pl s k) : s.length ≤ 15 := by
  by_cases h0 : 0 ≤ k
  · obtain ⟨h, _⟩ := (mem_candP_pos h0).1 h; rw [← h]; exact dig_len
  · by_cases hb : f = 7 ∧ pl = false
    · obtain ⟨rfl, rfl⟩ := hb
      rcases (mem_candP_bul h0).1 h with ⟨rfl, _⟩ | ⟨rfl, _⟩ <;> decide
    · rcases (mem_candP_neg h0 hb).1 h with ⟨_, h⟩ | ⟨h, _⟩ <;> exact prs_len h
theorem cnv_inj {a b : Int} (ha : -2 ≤ a) (hb : -2 ≤ b) (h : cnv a = cnv b) : a = b := by
  unfold cnv at h
  (repeat' split at h) <;> omega
/-! ### labels -/
def fmtOf (fs : List Int) (p : Pt) : Int := fs.getD (p.lev - 1).toNat 1
def mtP (fs : List Int) : List Pt → List UInt8 → List Int → Bool
  | [], s, _ => decide (s = [])
  | p :: r, s, N => if p.lev = 0 then p.lit.isPrefixOf s && mtP fs r (s.drop p.lit.length) N
    else (List.range (min s.length 16)).any fun j => (candP (fmtOf fs p) p.plain (s.take (j + 1)) (N.getD p.lev.toNat 0)).any fun n => mtP fs r (s.drop (j + 1)) (N.set p.lev.toNat n)
def mtR (fs : List Int) : List Pt → List UInt8 → List Int → Bool
  | [], s, _ => decide (s = [])
  | p :: r, s, M => if p.lev = 0 then p.lit.isPrefixOf s && mtR fs r (s.drop p.lit.length) M
    else (List.range s.length).any fun j => (candR (fmtOf fs p) p.plain (s.take (j + 1))).any fun c => match stepR (bul (fmtOf fs p) p.plain) c (M.getD (p.lev - 1).toNat 0) with
      | some m => mtR fs r (s.drop (j + 1)) (M.set (p.lev - 1).toNat m)
      | none => false
structure Same2 (fs N M : List Int) : Prop where
  n : N.length = 10
  m : M.length = 9
  eq : ∀ j, j < 9 → M.getD j 0 = cnv (N.getD (j + 1) 0) ∧ Know (fs.getD j 1) (N.getD (j + 1) 0)
theorem getD_set {l : List Int} {i j : Nat} {v d : Int} (hi : i < l.length) : (l.set i v).getD j d = if j = i then v else l.getD j d := by
  simp only [List.getD, List.getElem?_set]
  by_cases h : j = i
  · subst h; simp [hi]
  · rw [if_neg (fun e => h e.symm), if_neg h]
theorem Same2.set {fs N M : List Int} (h : Same2 fs N M) {i : Nat} (hi : i < 9) {n : Int} (hk : Know (fs.getD i 1) n) : Same2 fs (N.set (i + 1) n) (M.set i (cnv n)) := by
  refine ⟨by rw [List.length_set]; exact h.n, by rw [List.length_set]; exact h.m, fun j hj => ?_⟩
  rw [getD_set (by rw [h.m]; exact hi), getD_set (by rw [h.n]; omega)]
  by_cases hji : j = i
  · subst hji; rw [if_pos rfl, if_pos rfl]; exact ⟨rfl, hk⟩
  · rw [if_neg hji, if_neg (by omega)]; exact h.eq j hj
def PartOk (p : Pt) : Prop := p.lev = 0 ∨ 1 ≤ p.lev ∧ p.lev ≤ 9
theorem fit_same (fs : List Int) : ∀ (l : List Pt) (s : List UInt8) (N M : List Int), (∀ p ∈ l, PartOk p) → Same2 fs N M → mtP fs l s N = mtR fs l s M
  | [], _, _, _, _, _ => rfl
  | p :: r, s, N, M, hp, h2 => by
    have hr : ∀ q ∈ r, PartOk q := fun q hq => hp q (List.mem_cons_of_mem _ hq)
    unfold mtP mtR
    by_cases h0 : p.lev = 0
    · rw [if_pos h0, if_pos h0, fit_same fs r _ N M hr h2]
    · rw [if_neg h0, if_neg h0]
      have hl : 1 ≤ p.lev ∧ p.lev ≤ 9 := (hp p (by simp)).elim (fun h => absurd h h0) id
      have e1 : p.lev.toNat = (p.lev - 1).toNat + 1 := by omega
      obtain ⟨i, hi⟩ : ∃ i, i = (p.lev - 1).toNat := ⟨_, rfl⟩
      have hi9 : i < 9 := by omega
      rw [e1, ← hi]
      have hfm : fmtOf fs p = fs.getD i 1 := by unfold fmtOf; rw [← hi]
      rw [hfm]
      obtain ⟨q1, q2⟩ := h2.eq i hi9
      rw [Bool.eq_iff_iff, List.any_eq_true, List.any_eq_true]
      constructor
      · rintro ⟨j, hj, h⟩
        rw [List.mem_range] at hj
        rw [List.any_eq_true] at h
        obtain ⟨n, hn, h⟩ := h
        have hne : s.take (j + 1) ≠ [] := fun e => by have := congrArg List.length e; simp only [List.length_take, List.length_nil] at this; omega
        obtain ⟨c, hc, hst⟩ := (step_same q2 hne).2 ⟨n, hn, rfl⟩
        refine ⟨j, by rw [List.mem_range]; omega, List.any_eq_true.2 ⟨c, hc, ?_⟩⟩
        rw [q1, hst]
        rw [fit_same fs r _ _ _ hr (h2.set hi9 (cand_know q2 hn))] at h
        exact h
      · rintro ⟨j, hj, h⟩
        rw [List.mem_range] at hj
        rw [List.any_eq_true] at h
        obtain ⟨c, hc, h⟩ := h
        have hne : s.take (j + 1) ≠ [] := fun e => by have := congrArg List.length e; simp only [List.length_take, List.length_nil] at this; omega
        split at h
        · next m hst =>
          rw [q1] at hst
          obtain ⟨n, hn, rfl⟩ := (step_same q2 hne).1 ⟨c, hc, hst⟩
          have hlen := cand_len hn
          rw [List.length_take] at hlen
          refine ⟨j, by rw [List.mem_range]; omega, List.any_eq_true.2 ⟨n, hn, ?_⟩⟩
          rw [fit_same fs r _ _ _ hr (h2.set hi9 (cand_know q2 hn))]
          exact h
        · cases h
/-- what is filled in -/
def fillS (fs : List Int) (l : List Pt) (ns : List Int) : List UInt8 := l.flatMap fun p => if p.lev = 0 then p.lit else digT (fmtOf fs p) (ns.getD (p.lev - 1).toNat 0) p.plain
structure Agree (fs N ns : List Int) : Prop where
  n : N.length = 10
  eq : ∀ j, j < 9 → 0 ≤ ns.getD j 0 ∧ ns.getD j 0 ≤ 999999 ∧ (N.getD (j + 1) 0 = -2 ∨ N.getD (j + 1) 0 = ns.getD j 0 ∨ (N.getD (j + 1) 0 = -1 ∧ fs.getD j 1 = 7 ∧ 1 ≤ ns.getD j 0))
theorem Agree.set {fs N ns : List Int} (h : Agree fs N ns) {i : Nat} (hi : i < 9) {n : Int} (hk : n = ns.getD i 0 ∨ (n = -1 ∧ fs.getD i 1 = 7 ∧ 1 ≤ ns.getD i 0)) : Agree fs (N.set (i + 1) n) ns := by
  refine ⟨by rw [List.length_set]; exact h.n, fun j hj => ⟨(h.eq j hj).1, (h.eq j hj).2.1, ?_⟩⟩
  rw [getD_set (by rw [h.n]; omega)]
  by_cases hji : j = i
  · subst hji; rw [if_pos rfl]; exact .inr hk
  · rw [if_neg (by omega)]; exact (h.eq j hj).2.2
/-- the numeral is among the candidates -/
theorem cand_hit {f k v : Int} {pl : Bool} (hv : 0 ≤ v ∧ v ≤ 999999) (hk : k = -2 ∨ k = v ∨ (k = -1 ∧ f = 7 ∧ 1 ≤ v)) : ∃ n ∈ candP f pl (digT f v pl) k, n = v ∨ (n = -1 ∧ f = 7 ∧ 1 ≤ v) := by
  by_cases h0 : 0 ≤ k
  · have : k = v := by omega
    subst this
    exact ⟨k, (mem_candP_pos h0).2 ⟨rfl, rfl⟩, .inl rfl⟩
  · by_cases hb : f = 7 ∧ pl = false
    · obtain ⟨rfl, rfl⟩ := hb
      by_cases hz : v = 0
      · subst hz
        refine ⟨0, (mem_candP_bul h0).2 (.inr ⟨bul_zero, by omega, rfl⟩), .inl rfl⟩
      · exact ⟨-1, (mem_candP_bul h0).2 (.inl ⟨bul_text ⟨by omega, hv.2⟩, rfl⟩), .inr ⟨rfl, rfl, by omega⟩⟩
    · have hP := fun c => mem_candP_neg (f := f) (c := c) (k := k) (pl := pl) (s := digT f v pl) h0 hb
      have hkv : k = -2 ∨ 1 ≤ v := by omega
      refine ⟨v, (hP v).2 ?_, .inl rfl⟩
      by_cases hf : pl = false ∧ (fmtE f v).2 = 0
      · obtain ⟨rfl, hf⟩ := hf
        refine .inl ⟨rfl, prs_iff.2 ⟨fun h => hb ⟨h, rfl⟩, dig_ne, ?_⟩⟩
        rw [dig_fmt (pl := false) hf]
        exact fmt_zero hf
      · have e : digT f v pl = decDigits v.toNat := by
          unfold digT
          rw [if_neg hf, fmt1 hv, if_pos rfl]
        by_cases ha : pl = false ∧ prs f (digT f v pl) = some v
        · exact .inl ha
        · refine .inr ⟨by rw [e]; exact prs1 hv, rfl, hkv, ?_⟩
          cases pl with
          | true => simp
          | false =>
            simp only [Bool.false_eq_true, if_false, Option.mem_toList]
            intro h4; exact ha ⟨rfl, h4⟩
theorem fit_fill (fs : List Int) : ∀ (l : List Pt) (N ns : List Int), (∀ p ∈ l, PartOk p) → Agree fs N ns → mtP fs l (fillS fs l ns) N = true
  | [], _, _, _, _ => rfl
  | p :: r, N, ns, hp, h2 => by
    have hr : ∀ q ∈ r, PartOk q := fun q hq => hp q (List.mem_cons_of_mem _ hq)
    unfold mtP
    have ef : fillS fs (p :: r) ns = (if p.lev = 0 then p.lit else digT (fmtOf fs p) (ns.getD (p.lev - 1).toNat 0) p.plain) ++ fillS fs r ns := by unfold fillS; rw [List.flatMap_cons]
    by_cases h0 : p.lev = 0
    · rw [if_pos h0] at ef
      rw [if_pos h0, ef, List.drop_left, fit_fill fs r N ns hr h2, Bool.and_true]
      rw [List.isPrefixOf_iff_prefix]
      exact List.prefix_append _ _
    · rw [if_neg h0] at ef
      rw [if_neg h0, ef]
      have hl : 1 ≤ p.lev ∧ p.lev ≤ 9 := (hp p (by simp)).elim (fun h => absurd h h0) id
      have e1 : p.lev.toNat = (p.lev - 1).toNat + 1 := by omega
      obtain ⟨i, hi⟩ : ∃ i, i = (p.lev - 1).toNat := ⟨_, rfl⟩
      have hi9 : i < 9 := by omega
      rw [e1, ← hi]
      have hfm : fmtOf fs p = fs.getD i 1 := by unfold fmtOf; rw [← hi]
      rw [hfm]
      obtain ⟨q1, q2, q3⟩ := h2.eq i hi9
      obtain ⟨n, hn, hn2⟩ := cand_hit (f := fs.getD i 1) (pl := p.plain) ⟨q1, q2⟩ q3
      have hlen := dig_len (f := fs.getD i 1) (n := ns.getD i 0) (pl := p.plain)
      have hpos := List.length_pos_iff.2 (dig_ne (f := fs.getD i 1) (n := ns.getD i 0) (pl := p.plain))
      generalize digT (fs.getD i 1) (ns.getD i 0) p.plain = t at *
      have e2 : t.length - 1 + 1 = t.length := by omega
      refine List.any_eq_true.2 ⟨t.length - 1, by rw [List.mem_range, List.length_append]; omega, List.any_eq_true.2 ⟨n, ?_, ?_⟩⟩
      · rw [e2, List.take_left]; exact hn
      · rw [e2, List.drop_left]
        exact fit_fill fs r _ ns hr (h2.set hi9 hn2)
theorem fill_len (fs : List Int) (ns : List Int) : ∀ l : List Pt, (fillS fs l ns).length ≤ (txt l).length + 15 * places l
  | [] => by simp [fillS]
  | p :: r => by
    have ih := fill_len fs ns r
    have e1 : fillS fs (p :: r) ns = (if p.lev = 0 then p.lit else digT (fmtOf fs p) (ns.getD (p.lev - 1).toNat 0) p.plain) ++ fillS fs r ns := by unfold fillS; rw [List.flatMap_cons]
    have e2 : txt (p :: r) = wrt p ++ txt r := by unfold txt; rw [List.flatMap_cons]
    have e3 : places (p :: r) = (if p.lev = 0 then 0 else 1) + places r := by
      unfold places
      rw [List.filter_cons]
      by_cases h : p.lev = 0
      · rw [if_pos h, if_neg (by simp [h])]; omega
      · rw [if_neg h, if_pos (by simp [h]), List.length_cons]; omega
    have hesc : ∀ l : List UInt8, l.length ≤ (esc l).length := fun l => by
      induction l with
      | nil => simp [esc]
      | cons b l ih =>
        have : esc (b :: l) = (if b = 37 then [37, 37] else [b]) ++ esc l := by unfold esc; rw [List.flatMap_cons]
        rw [this, List.length_append, List.length_cons]
        split <;> simp <;> omega
    rw [e1, e2, e3, List.length_append, List.length_append]
    by_cases h : p.lev = 0
    · have : wrt p = esc p.lit := by unfold wrt; rw [if_pos h]
      rw [if_pos h, if_pos h, this]
      have := hesc p.lit
      omega
    · rw [if_neg h, if_neg h]
      have := dig_len (f := fmtOf fs p) (n := ns.getD (p.lev - 1).toNat 0) (pl := p.plain)
      omega
/-- what a label does not depend on -/
theorem fill_other (fs ns ns' : List Int) : ∀ l : List Pt, (∀ p ∈ l, p.lev ≠ 0 → ns.getD (p.lev - 1).toNat 0 = ns'.getD (p.lev - 1).toNat 0) → fillS fs l ns = fillS fs l ns' := fun l h => by
  unfold fillS
  induction l with
  | nil => rfl
  | cons p r ih =>
    rw [List.flatMap_cons, List.flatMap_cons, ih fun q hq => h q (List.mem_cons_of_mem _ hq)]
    congr 1
    by_cases h0 : p.lev = 0
    · rw [if_pos h0, if_pos h0]
    · rw [if_neg h0, if_neg h0, h p (by simp) h0]
end Go.Proofs.YtaneeaojlkenmaaGreatDoor
