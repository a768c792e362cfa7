/-
  The way back from a numeral: plain.
-/
import Derived.Test.YtaneeaojlkenmaaGreatDoorK7
namespace Go.Proofs.YtaneeaojlkenmaaGreatDoor
open Go Go.Lib
set_option linter.unusedVariables false
set_option linter.unusedSimpArgs false
def valueS (f : Int) (s : List UInt8) : Int :=
  if f = 4 ∨ f = 5 then vrS 20 s 0 else if f = 2 then vlS 97 (s.take 6) 0 else if f = 3 then vlS 65 (s.take 6) 0 else vdS (s.take 7) 0
theorem map_id' (l : List UInt8) : l.map (fun x => x) = l := by simp
theorem value_text {f : Int} {m : Nat} (h : inF f m) (h7 : f ≠ 7) : valueS f (textF f m) = m := by
  have hb := inF_nat h
  obtain ⟨hok, h1, h2⟩ := h
  rcases okF_cases hok with rfl | rfl | rfl | rfl | rfl | rfl | rfl
  · have hl := dec_len m 5 (by omega)
    show vdS ((decDigits m).take 7) 0 = m
    rw [List.take_of_length_le (by omega)]
    have := vdS_dec m []
    simpa [vdS] using this
  · have hl := ltr_len m 5 (by omega)
    show vlS 97 ((ltr m).take 6) 0 = m
    rw [List.take_of_length_le (by omega)]
    have := vlS_ltr (fun x => x) 97 (fun j hj => (letter_or ⟨j, hj⟩).2.2.1) m []
    rw [map_id', List.append_nil] at this
    exact this
  · have hl := ltr_len m 5 (by omega)
    show vlS 65 ((upper (ltr m)).take 6) 0 = m
    rw [List.take_of_length_le (by simp [upper]; omega)]
    have := vlS_ltr upperB 65 (fun j hj => (letter_or ⟨j, hj⟩).2.2.2) m []
    rw [List.append_nil] at this
    exact this
  · have h2 : (m : Int) ≤ 3999 := h2
    exact (vrS_rom ⟨m, by omega⟩).1
  · have h2 : (m : Int) ≤ 3999 := h2
    exact (vrS_rom ⟨m, by omega⟩).2.1
  · have hl := dec_len m 5 (by omega)
    show vdS ((decDigits m ++ ending m).take 7) 0 = m
    rw [List.take_append, List.take_of_length_le (by omega)]
    have := vdS_dec m ((ending m).take (7 - (decDigits m).length))
    rw [this, ending_no]
  · exact absurd rfl h7
/-- a numeral is one number's alone -/
theorem fmtE_inj {f n n' : Int} {s : List UInt8} (h7 : f ≠ 7) (h : fmtE f n = (s, 0)) (h' : fmtE f n' = (s, 0)) : n = n' := by
  obtain ⟨a1, a2⟩ := fmtE_ok.1 h
  obtain ⟨b1, b2⟩ := fmtE_ok.1 h'
  have p1 := (inF_nat a1).1
  have p2 := (inF_nat b1).1
  have e1 : ((n.toNat : Nat) : Int) = n := by omega
  have e2 : ((n'.toNat : Nat) : Int) = n' := by omega
  have v1 := value_text (f := f) (m := n.toNat) (by rw [e1]; exact a1) h7
  have v2 := value_text (f := f) (m := n'.toNat) (by rw [e2]; exact b1) h7
  rw [← a2] at v1
  rw [← b2] at v2
  omega
/-- what Parse hands back -/
noncomputable def parseE (f : Int) (s : List UInt8) : Int × Int :=
  open Classical in if ¬ okF f ∨ f = 7 then (0, 3) else if s = [] then (0, 11) else if h : ∃ n, fmtE f n = (s, 0) then (h.choose, 0) else (0, 14)
theorem parse_hit {f n : Int} {s : List UInt8} (hok : okF f) (h7 : f ≠ 7) (hs : s ≠ []) (h : fmtE f n = (s, 0)) : parseE f s = (n, 0) := by
  unfold parseE
  rw [if_neg (by simp [hok, h7]), if_neg hs, dif_pos ⟨n, h⟩]
  have := (⟨n, h⟩ : ∃ n, fmtE f n = (s, 0)).choose_spec
  rw [fmtE_inj h7 this h]
theorem parse_miss {f : Int} {s : List UInt8} (hok : okF f) (h7 : f ≠ 7) (hs : s ≠ []) (h : ∀ n, fmtE f n ≠ (s, 0)) : parseE f s = (0, 14) := by
  unfold parseE
  rw [if_neg (by simp [hok, h7]), if_neg hs, dif_neg (by rintro ⟨n, hn⟩; exact h n hn)]
theorem parse_no {f : Int} {s : List UInt8} (h : ¬ okF f ∨ f = 7) : parseE f s = (0, 3) := by
  unfold parseE
  rw [if_pos h]
theorem parse_nil {f : Int} (hok : okF f) (h7 : f ≠ 7) : parseE f [] = (0, 11) := by
  unfold parseE
  rw [if_neg (by simp [hok, h7]), if_pos rfl]
/-- by any guess that finds what is there -/
theorem parse_by {f g : Int} {s : List UInt8} (hok : okF f) (h7 : f ≠ 7) (hs : s ≠ []) (hg : ∀ m : Nat, inF f m → s = textF f m → g = m) : parseE f s = if fmtE f g = (s, 0) then (g, 0) else (0, 14) := by
  by_cases h : fmtE f g = (s, 0)
  · rw [if_pos h, parse_hit hok h7 hs h]
  · rw [if_neg h, parse_miss hok h7 hs fun n hn => ?_]
    obtain ⟨a1, a2⟩ := fmtE_ok.1 hn
    have p1 := (inF_nat a1).1
    have e1 : ((n.toNat : Nat) : Int) = n := by omega
    have := hg n.toNat (by rw [e1]; exact a1) a2
    rw [e1] at this
    rw [this] at h
    exact h hn
/-! ### how a Roman numeral is taken apart -/
def bndR (i : Nat) : Nat := (4000 :: signL.map Prod.fst).getD i 0
def preOk (l : List (Nat × List UInt8)) (k : Nat) : Bool := match l with
  | (v, t) :: r => !(t.isPrefixOf (romL ((v, t) :: r) k)) || decide (v ≤ k)
  | [] => true
set_option maxRecDepth 100000 in
theorem pre_all : ∀ i : Fin 13, ∀ k : Fin (bndR i.val), preOk (signL.drop i.val) k.val = true := by decide +kernel
theorem pre_ge {i k v : Nat} {t : List UInt8} {r : List (Nat × List UInt8)} (hi : i < 13) (hd : signL.drop i = (v, t) :: r) (hk : k < bndR i) (h : t.isPrefixOf (romL ((v, t) :: r) k) = true) : v ≤ k := by
  have := pre_all ⟨i, hi⟩ ⟨k, hk⟩
  simp only [hd, preOk, h, Bool.not_true, Bool.false_or, decide_eq_true_eq] at this
  exact this
theorem bnd_next {i v : Nat} {t : List UInt8} {r : List (Nat × List UInt8)} (hi : i < 13) (hd : signL.drop i = (v, t) :: r) : bndR (i + 1) = v := by
  have h0 : signL[i]? = some (v, t) := by
    have := congrArg List.head? hd
    rw [List.head?_drop] at this
    exact this
  unfold bndR
  rw [List.getD_cons_succ, List.getD, List.getElem?_map, h0]
  rfl
/-- lower case of what is written -/
theorem lower_asc {l : List UInt8} (h : ∀ b ∈ l, b.toNat < 128) : toLowerD l = l.map lowerB := toLowerD_ascii l h
set_option maxRecDepth 100000 in
theorem lower_rom : ∀ m : Fin 4000, (rom m.val).map lowerB = rom m.val ∧ (upper (rom m.val)).map lowerB = rom m.val := by decide +kernel
theorem upper_ascii {l : List UInt8} (h : ∀ b ∈ l, b.toNat < 128) : ∀ b ∈ upper l, b.toNat < 128 := by
  intro b hb
  obtain ⟨x, hx, rfl⟩ := List.mem_map.1 hb
  have hx := h x hx
  by_cases hc : 97 ≤ x.toNat ∧ x.toNat ≤ 122
  · have := upperB_lo hc.1 hc.2
    omega
  · rw [upperB_hi hc]; exact hx
theorem lower_text {f : Int} {m : Nat} (hf : f = 4 ∨ f = 5) (hm : m ≤ 3999) : toLowerD (textF f m) = rom m := by
  rcases hf with rfl | rfl
  · show toLowerD (rom m) = rom m
    rw [lower_asc (rom_ascii m)]
    exact (lower_rom ⟨m, by omega⟩).1
  · show toLowerD (upper (rom m)) = rom m
    rw [lower_asc (upper_ascii (rom_ascii m))]
    exact (lower_rom ⟨m, by omega⟩).2
end Go.Proofs.YtaneeaojlkenmaaGreatDoor
