/-
  The reference's list of characters.
-/
import Derived.Test.YthbnhcgphkghaaaC3
namespace Go.Proofs.Ythbnhcgphkghaaa
open Go
set_option linter.unusedVariables false
set_option linter.unusedSimpArgs false
attribute [local irreducible] wpA opsA drJ drQ drE Ef Ev Shift Fn

/-- rows of strings -/
def srow (l : List (List UInt8)) : List (List Value) := l.map fun k => [sv k]
theorem srow_one (l : List (List UInt8)) : ∀ cs ∈ srow l, ∀ u ∈ cs, u.oneCell' = true := by
  intro cs hcs u hu
  obtain ⟨k, _, rfl⟩ := List.mem_map.1 hcs
  simp at hu; subst hu; rfl
def charsOf (l : List UInt8) : List (List UInt8) := (chars l).getD []
abbrev charSt (H : Hp) (l : List UInt8) (i : Nat) (a : Option Addr) (cp : Nat) (css : List (List Value)) : Sta := ⟨29, [(0, sv l), (4, .slice a css.length cp), (5, .int .i64 i)], H, [.row (.slice a css.length cp) 1 css], [], []⟩
set_option maxRecDepth 100000 in
theorem Characters_fn (H : Hp) (l : List UInt8) (hl : l.length < 1099511627776) :
    Fn Try.prog 20 [sv l] H [] fun v H' I' => (∃ a n cp, v = .tuple [.slice a n cp, .bool (decide (valid l))].toArray ∧ HRow H' a n cp 1 (srow (charsOf l))) ∧ I' = [] := by
  refine Fn_of _ _ Try.func20 rfl Try.ntmps20 rfl fun c => ?_
  refine A_nilrow 1 ?_
  repeat' (first | refine O_nil ?_ | refine A_seq ?_ | refine A_region ?_ | refine A_block ?_ | (show opsA _ _ _ _ _ _ _; refine O_ev WideF.wide rfl (Ev_pure rfl) rfl rfl ?_))
  refine A_loopu (fun n s => ∃ (i : Nat) (a : Option Addr) (cp : Nat) (cs : List (List UInt8)) (css : List (List Value)), n = l.length - i ∧ i ≤ l.length ∧ cs.length ≤ i ∧ chars l = (chars (l.drop i)).map (cs ++ ·) ∧ css = srow cs ∧ s = charSt H l i a cp css) ?_ ?_
  · exact Shift.to ⟨_, 0, none, 0, [], [], rfl, by omega, by simp, by simp, rfl, rfl⟩ ⟨rfl, rfl, rfl, ⟨rfl, rfl, rfl, trivial⟩, Own.subi [0] (by decide) rfl rfl⟩
  · rintro n s ⟨i, a, cp, cs, css, rfl, hi, hcl, hch, hcss, rfl⟩
    have hil : css.length ≤ i := by rw [hcss]; simpa [srow] using hcl
    by_cases hlt : i < l.length
    · have hd := size_fn H l i (by omega) (by omega) (by omega)
      have he := enc_b l i
      have hf := enc_fits l i (by omega) (by omega)
      have hdr := enc_drop l i hi
      have hne : l.drop i ≠ [] := by intro hh; have := congrArg List.length hh; simp at this; omega
      repeat' (first | (refine O_ef rfl (Ef_callp WideF.wide hd ⟨rfl, rfl, trivial⟩ rfl ?_)) | refine O_nil ?_ | refine A_seq ?_ | refine A_region ?_ | refine A_skip ?_ | refine A_ret ?_ | refine A_block ?_ | (show opsA _ _ _ _ _ _ _; first | refine O_ev WideF.wide rfl (Ev_pure rfl) rfl rfl ?_ | (show opsA _ _ _ _ (⟨_, .call _, _, _, _, _⟩ :: _) _ _; first | refine O_ev WideF.wide rfl (Ev_slen rfl) rfl rfl ?_ | (refine O_f1 (O_ef rfl (Ef_appendR WideF.wide rfl rfl rfl rfl rfl (by simp; omega) (by simp; omega) rfl ?_)); intro a cp)) | (show opsA _ _ _ _ (⟨_, .buildSlice _ _ _, _, _, _, _⟩ :: _) _ _; (refine O_ef rfl (Ef_build11 WideF.wide rfl rfl rfl ?_); intro b)) | (show opsA _ _ _ _ (⟨_, .binOp _ _ _ _ _, _, _, _, _⟩ :: _) _ _; refine O_ev WideF.wide rfl (Ev_add rfl rfl (wi64 (by omega))) rfl rfl ?_) | (show opsA _ _ _ _ (⟨_, .slice _ _ _ _ _, _, _, _, _⟩ :: _) _ _; refine O_ev WideF.wide rfl (Ev_sslice rfl rfl rfl (by omega) (by omega) (by omega)) rfl rfl ?_)) | (show wpA _ _ _ (.cond _ _ _) _ _ _ _; (refine A_if rfl (fun h => ?_) (fun h => ?_) <;> try (exfalso; omega))))
      · have h0 : chars l = none := by rw [hch, chars_no hne (by rw [hdr]; assumption)]; rfl
        refine End_e (Ret2 rfl rfl rfl) ⟨⟨none, 0, 0, ?_, ?_⟩, rfl⟩
        · rw [decide_eq_false (by unfold valid; rw [h0]; simp)]
        · unfold charsOf; rw [h0]; exact HRow.nil' _ _
      · have e1 : ((i : Int) + enc l i).toNat = i + (enc l i).toNat := by omega
        refine Shift.to ⟨_, ?_, i + (enc l i).toNat, a, cp, cs ++ [(l.take ((i : Int) + enc l i).toNat).drop i], _, rfl, by omega, ?_, ?_, ?_, rfl⟩ ⟨rfl, rfl, rfl, ⟨rfl, rfl, ?_, trivial⟩, Own.subi [0] (by decide) rfl rfl⟩
        · omega
        · simp; omega
        · rw [hch, chars_step hne (by rw [hdr]; assumption), hdr, List.drop_drop, e1, Option.map_map]
          congr 1
          funext x
          simp [List.drop_take]
        · rw [hcss]; simp [srow]
        · show some (Value.int .i64 ((i : Int) + enc l i)) = some (.int .i64 ((i + (enc l i).toNat : Nat) : Int))
          congr 2; omega
    · have : i = l.length := by omega
      subst this
      repeat' (first | refine O_nil ?_ | refine A_seq ?_ | refine A_region ?_ | refine A_ret ?_ | (show opsA _ _ _ _ _ _ _; first | refine O_ev WideF.wide rfl (Ev_pure rfl) rfl rfl ?_ | (show opsA _ _ _ _ (⟨_, .call _, _, _, _, _⟩ :: _) _ _; refine O_ev WideF.wide rfl (Ev_slen rfl) rfl rfl ?_)) | (show wpA _ _ _ (.exit _) _ _ _ _; refine A_exit rfl ?_) | (show wpA _ _ _ (.cond _ _ _) _ _ _ _; (refine A_if rfl (fun h => ?_) (fun h => ?_) <;> try (exfalso; omega))))
      have h0 : chars l = some cs := by rw [hch, List.drop_length, chars_nil]; simp
      have h1 : css = srow (charsOf l) := by unfold charsOf; rw [h0, hcss]; rfl
      rw [h1]
      refine Shift.pure ⟨_, Ret2 rfl rfl rfl, rfl, Shift_freeze (srow_one _) fun H' hle hr => Shift.pure ⟨rfl, ⟨_, _, _, ?_, hr⟩, rfl⟩⟩
      rw [decide_eq_true (by unfold valid; rw [h0]; rfl)]
end Go.Proofs.Ythbnhcgphkghaaa
