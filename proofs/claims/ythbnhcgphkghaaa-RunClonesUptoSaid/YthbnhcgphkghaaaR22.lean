/-
  The law RunTexts.
-/
import Derived.Test.YthbnhcgphkghaaaR21
namespace Go.Proofs.Ythbnhcgphkghaaa
open Go
set_option linter.unusedVariables false
set_option linter.unusedSimpArgs false

theorem bat_append {a b : List UInt8} {i : Int} (h0 : 0 ≤ i) (h : i < a.length) : bat (a ++ b) i = bat a i := by
  have hi : i.toNat < a.length := by omega
  simp [bat, List.getD, List.getElem?_append_left hi]
theorem enc_append {a b : List UInt8} (ha : a ≠ []) (h : enc a 0 ≠ 0) : enc (a ++ b) 0 = enc a 0 := by
  have hl : 0 < a.length := List.length_pos_iff.2 ha
  have h0 : bat (a ++ b) 0 = bat a 0 := bat_append (by omega) (by omega)
  have hf := enc_fits a 0 (by omega) (by omega)
  unfold enc at h hf ⊢
  rw [h0]
  split
  · rfl
  · rename_i h1
    rw [if_neg h1] at h hf
    split
    · rfl
    · rename_i h2
      rw [if_neg h2] at h hf
      split at h
      · rename_i h3
        obtain ⟨q1, q2, q3, q4⟩ := h3
        have hts := tailSize_le (bat a 0)
        have h2t : 2 ≤ tailSize (bat a 0) := by
          unfold tailSize at h2 ⊢
          repeat' split
          all_goals first | omega | (simp at h2; omega) | skip
          all_goals (try (rename_i z; omega))
        have hb1 : bat (a ++ b) (0 + 1) = bat a (0 + 1) := bat_append (by omega) (by omega)
        have hb2 : 3 ≤ tailSize (bat a 0) → bat (a ++ b) (0 + 2) = bat a (0 + 2) := fun hh => bat_append (by omega) (by omega)
        have hb3 : 4 ≤ tailSize (bat a 0) → bat (a ++ b) (0 + 3) = bat a (0 + 3) := fun hh => bat_append (by omega) (by omega)
        rw [if_pos ⟨by simp; omega, by rw [hb1]; exact q2, fun hh => by rw [hb2 hh]; exact q3 hh, fun hh => by rw [hb3 hh]; exact q4 hh⟩, if_pos ⟨q1, q2, q3, q4⟩]
      · exact absurd rfl h
theorem chars_append : ∀ (n : Nat) (a b : List UInt8) (cs : List (List UInt8)), a.length ≤ n → chars a = some cs → chars (a ++ b) = (chars b).map (cs ++ ·) := by
  intro n
  induction n with
  | zero =>
    intro a b cs h hc
    have : a = [] := List.eq_nil_of_length_eq_zero (by omega)
    subst this
    rw [chars_nil] at hc
    cases hc
    simp
  | succ n ih =>
    intro a b cs h hc
    by_cases ha : a = []
    · subst ha
      rw [chars_nil] at hc
      cases hc
      simp
    · by_cases he : enc a 0 = 0
      · rw [chars_no ha he] at hc; cases hc
      · have hb := enc_b a 0
        have hf := enc_fits a 0 (by omega) (by have := List.length_pos_iff.2 ha; omega)
        rw [chars_step ha he] at hc
        obtain ⟨cs', hc', rfl⟩ := Option.map_eq_some_iff.1 hc
        have hea := enc_append (b := b) ha he
        have hne : a ++ b ≠ [] := by simp [ha]
        rw [chars_step hne (by rw [hea]; exact he), hea, List.take_append_of_le_length (by omega), List.drop_append_of_le_length (by omega), ih _ b cs' (by simp; omega) hc']
        cases chars b <;> simp
theorem valid_append {a b : List UInt8} (ha : valid a) (hb : valid b) : valid (a ++ b) ∧ charsOf (a ++ b) = charsOf a ++ charsOf b := by
  unfold valid at ha hb
  obtain ⟨ca, hca⟩ := Option.isSome_iff_exists.1 ha
  obtain ⟨cb, hcb⟩ := Option.isSome_iff_exists.1 hb
  have h := chars_append a.length a b ca (Nat.le_refl _) hca
  rw [hcb] at h
  unfold valid charsOf
  rw [h, hca, hcb]
  simp
theorem chars_three (c d e : UInt8) (h : enc [c, d, e] 0 = 3) : chars [c, d, e] = some [[c, d, e]] := by
  rw [chars_step (by simp) (by rw [h]; omega), h]
  show (chars []).map _ = _
  rw [chars_nil]
  rfl
theorem chr_chars (x : Item) : chars (chr x) = some [chr x] := by
  unfold chr
  repeat' split
  all_goals first | exact chars_one _ (by decide +kernel) | exact chars_three _ _ _ (by decide +kernel)
theorem itext_ok {x : Item} (h : x.ok) : valid (itext x) ∧ (charsOf (itext x)).length = x.split.length := by
  unfold itext Item.split
  by_cases hk : x.kind = 1
  · rw [if_pos hk, if_pos hk]
    exact ⟨h hk, by simp⟩
  · rw [if_neg hk, if_neg hk]
    unfold valid charsOf
    rw [chr_chars]
    simp
theorem ftext_ok : ∀ {l : List Item}, okL l → valid (ftext l) ∧ (charsOf (ftext l)).length = (unitsL l).length
  | [], _ => ⟨valid_nil, by simp [ftext, unitsL, charsOf, chars_nil]⟩
  | x :: l, h => by
    obtain ⟨h1, h2⟩ := itext_ok (h x (by simp))
    obtain ⟨h3, h4⟩ := ftext_ok (l := l) fun y hy => h y (by simp [hy])
    obtain ⟨h5, h6⟩ := valid_append h1 h3
    refine ⟨h5, ?_⟩
    rw [ftext, h6, List.length_append, h2, h4]
    simp [unitsL]
attribute [local irreducible] wpA opsA drJ drQ drE Ef Ev Shift Fn
set_option maxHeartbeats 2000000 in
set_option maxRecDepth 100000 in
theorem RunTexts_fn {H : Hp} {a : Option Addr} {n cq : Nat} {l : List Item} (hx0 : FlowH H a n cq l) (hm : massL l < 34359738368) :
    Fn Try.prog 4 [.slice a n cq] H [] fun v _ I' => v = .bool true ∧ I' = [] := by
  have hn := hx0.len
  have hml := massL_len l
  have hfl := ftext_len l
  refine Fn_of _ _ Try.func4 rfl Try.ntmps4 rfl fun c => ?_
  repeat' (first | (refine O_ef rfl (Ef_call (I := []) WideF.wide known_fn trivial rfl ?_); rintro v H1 I1 hle1 ⟨rfl, rfl⟩) | (refine O_ef rfl (Ef_buildn WideF.wide (xs := [_]) (vs := [.slice _ _ _]) rfl ⟨rfl, trivial⟩ rfl rfl rfl rfl rfl rfl ?_); intro bl; refine O_freeze (ones_of rfl) ?_; intro H2 hle2 hr2; have hx := hx0.mono (hle1.trans hle2); have hsm := Small_fn (ls := [l]) hr2 (.cons hx .nil) (by intro y hy; simp at hy; subst hy; omega) (by omega); have e1 := Text_fn hx (by omega); have e2 := rText_fn hx (by omega)) | (refine O_ef rfl (Ef_call (I := []) WideF.wide hsm ⟨rfl, trivial⟩ rfl ?_); rintro v H3 I3 hle3 ⟨⟨sb, rfl⟩, rfl, rfl⟩; cases sb) | (refine O_ef rfl (Ef_callp WideF.wide e1 ⟨rfl, trivial⟩ rfl ?_)) | (refine O_ef rfl (Ef_call (I := []) WideF.wide (Characters_fn _ (ftext l) (by omega)) ⟨rfl, trivial⟩ rfl ?_); rintro v H4 I4 hle4 ⟨⟨ca, cn, cc, rfl, hcr⟩, rfl⟩) | (refine O_ef rfl (Ef_call (I := []) WideF.wide (Units_fn (hx.mono hle4) (by omega)) ⟨rfl, trivial⟩ rfl ?_); rintro v H5 I5 hle5 ⟨⟨ua, un, uc, rfl, hu⟩, rfl⟩; have e3 := rText_fn (hx.mono (hle4.trans hle5)) (by omega)) | (refine O_ef rfl (Ef_callp WideF.wide e3 ⟨rfl, trivial⟩ rfl ?_)) | refine O_nil ?_ | refine A_seq ?_ | refine A_region ?_ | refine A_skip ?_ | refine A_ret ?_ | (show opsA _ _ _ _ _ _ _; first | (refine O_split rfl rfl (fun h => ?_) (fun h => ?_) <;> try (exfalso; omega)) | refine O_ev WideF.wide rfl (Ev_pure rfl) rfl rfl ?_ | (show opsA _ _ _ _ (⟨_, .call _, _, _, _, _⟩ :: _) _ _; refine O_ev WideF.wide rfl (Ev_llen rfl) rfl rfl ?_) | (show opsA _ _ _ _ (⟨_, .binOp _ _ _ _ _, _, _, _, _⟩ :: _) _ _; refine O_ev WideF.wide rfl (Ev_seql rfl rfl) rfl rfl ?_) | (show opsA _ _ _ _ (⟨_, .unOp _ _ _, _, _, _, _⟩ :: _) _ _; first | refine O_ev WideF.wide rfl (Ev_not rfl) rfl rfl ?_ | refine O_ev WideF.wide rfl (Ev_notb rfl) rfl rfl ?_) | refine O_skip WideF.wide rfl rfl rfl ?_) | (show wpA _ _ _ (.cond _ _ _) _ _ _ _; first | refine A_iftrue rfl ?_ | refine A_iffalse rfl ?_))
  · exact End_e (Ret1 rfl rfl) ⟨rfl, rfl⟩
  · exact End_e (Ret1 rfl rfl) ⟨rfl, rfl⟩
  · have hok : okL l := Decidable.not_not.1 (by assumption)
    rw [if_pos hok] at hu
    have q1 := hcr.len
    have q2 := hu.len
    have q3 := (ftext_ok hok).2
    simp only [srow, List.length_map] at q1
    refine End_e (Ret1 rfl rfl) ⟨?_, rfl⟩
    rw [decide_eq_true]
    omega
  · have hok : okL l := Decidable.not_not.1 (by assumption)
    exact absurd (ftext_ok hok).1 (by assumption)
  · exact absurd rfl (by assumption)
end Go.Proofs.Ythbnhcgphkghaaa
