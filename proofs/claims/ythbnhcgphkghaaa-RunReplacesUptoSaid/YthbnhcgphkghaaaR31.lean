/-
  The law RunSplits.
-/
import Derived.Test.YthbnhcgphkghaaaR30
import Derived.Test.YthbnhcgphkghaaaR28
namespace Go.Proofs.Ythbnhcgphkghaaa
open Go
set_option linter.unusedVariables false
set_option linter.unusedSimpArgs false
theorem HRow.upto {H : Hp} {a : Option Addr} {n c k : Nat} {css : List (List Value)} (h : HRow H a n c k css) {j : Nat} (hj : j ≤ n) : HRow H a j c k (css.take j) := by
  have hc := h.cap
  refine ⟨by rw [List.length_take, h.len]; omega, by omega, fun hn => ?_, fun q cs hq => ?_⟩
  · have := h.nil hn; omega
  · rw [List.getElem?_take] at hq
    split at hq
    · exact h.el q cs hq
    · cases hq
theorem SlH.upto {α : Type} {H : Hp} {R : Hp → List Value → α → Prop} {k : Nat} {a : Option Addr} {n c : Nat} {l : List α} (h : SlH H R k a n c l) {j : Nat} (hj : j ≤ n) : SlH H R k a j c (l.take j) := by
  obtain ⟨css, h1, h2⟩ := h.ex
  exact ⟨_, h1.upto hj, h2.take j⟩
theorem flow_from {H : Hp} {a : Option Addr} {n c : Nat} {l : List Item} (h : FlowH H a n c l) {i : Nat} (h1 : i ≤ n) :
    FlowH H (if c = i then a else a.map (·.add (i * 11))) (n - i) (c - i) (l.drop i) := by
  have := flow_sliceU h h1 (Nat.le_refl n)
  rwa [show l.take n = l by rw [← h.len, List.take_length]] at this
theorem normL_halves {l : List Item} (h : okL l) (k : Nat) : normL [normL ((unitsL l).take k), normL ((unitsL l).drop k)].flatten = normL l := by
  simp only [List.flatten_cons, List.flatten_nil, List.append_nil]
  rw [normL_appL, normL_appR, List.take_append_drop, normL_units h]
theorem massL_cut (l : List Item) (k : Nat) : massL (l.take k) + massL (l.drop k) = massL l := by rw [← massL_append, List.take_append_drop]
attribute [local irreducible] wpA opsA drJ drQ drE Ef Ev Shift Fn
set_option maxHeartbeats 2000000 in
set_option maxRecDepth 100000 in
theorem RunSplits_fn {H : Hp} {a : Option Addr} {n cq : Nat} {l : List Item} {f : Int} (hx0 : FlowH H a n cq l) (hm : massL l < 1073741824) (hf : -9223372036854775808 ≤ f ∧ f < 9223372036854775808) :
    Fn Try.prog 11 [.slice a n cq, .int .i64 f] H [] fun v _ I' => v = .bool true ∧ I' = [] := by
  have hn := hx0.len
  have hml := massL_len l
  have hul := unitsL_len l
  have hub := usum_b l
  have hum := unitsL_mass l
  refine Fn_of _ _ Try.func11 rfl Try.ntmps11 rfl fun c => ?_
  repeat' (first | (refine O_ef rfl (Ef_call (I := []) WideF.wide known_fn trivial rfl ?_); rintro v H1 I1 hle1 ⟨rfl, rfl⟩) | (refine O_ef rfl (Ef_buildn WideF.wide (xs := [_]) (vs := [.slice _ _ _]) rfl ⟨rfl, trivial⟩ rfl rfl rfl rfl rfl rfl ?_); intro bl; refine O_freeze (ones_of rfl) ?_; intro H2 hle2 hr2; have hx := hx0.mono (hle1.trans hle2); have hsm := Small2_fn (ls := [l]) hr2 (.cons hx .nil) (by intro y hy; simp at hy; subst hy; omega) (by omega)) | (refine O_ef rfl (Ef_call (I := []) WideF.wide hsm ⟨rfl, trivial⟩ rfl ?_); rintro v H3 I3 hle3 ⟨⟨sb, rfl, hsb⟩, rfl, rfl⟩; cases sb; rotate_left; have hsl := hsb rfl l (by simp); have hsq := mul_small hsl; clear hsm hsb; skip) | (refine O_ef rfl (Ef_call (I := []) WideF.wide (Split_fn (at_ := f) hx (by omega)) ⟨rfl, rfl, trivial⟩ rfl ?_); rintro v H4 I4 hle4 ⟨⟨sa, sn, sc, ta, tn, tc, rfl, hs, ht⟩, rfl⟩; rcases rngE_case l f f with ⟨hc1, hrg⟩ | ⟨hc1, hc2, hrg⟩ | ⟨hc1, hc2, hc3, hc4, hrg⟩ <;> rw [hrg] at hs ht ⊢ <;> first | (rw [if_neg (by decide : ¬ ((12 : Int) = 0))] at hs ht; have hs0 := hs.nil_inv; have ht0 := ht.nil_inv) | (rw [if_neg (by decide : ¬ ((2 : Int) = 0))] at hs ht; have hs0 := hs.nil_inv; have ht0 := ht.nil_inv) | (rw [if_pos rfl, normL_left hc1] at hs; rw [if_pos rfl, normL_right hc1] at ht; have hcut := massL_cut (unitsL l) f.toNat; have hm1 := normL_mass ((unitsL l).take f.toNat); have hm2 := normL_mass ((unitsL l).drop f.toNat); have hm3 := normL_mass l)) | (refine O_ef rfl (Ef_call (I := []) WideF.wide (Units_fn (hx.mono hle4) (by omega)) ⟨rfl, trivial⟩ rfl ?_); rintro v H5 I5 hle5 ⟨⟨ua, un, uc, rfl, hu⟩, rfl⟩; first | (rw [decide_eq_true hc1]; rw [if_pos hc1] at hu; have hunl := hu.len; have husm := usum_units hc1; have hucap := hu.cap) | (rw [decide_eq_false hc1])) | (refine O_ev WideF.wide rfl (Ev_lsliceh rfl rfl (by omega) (by omega)) rfl rfl ?_) | (refine O_ev WideF.wide rfl (Ev_lslicel rfl rfl (by omega) (by omega)) rfl rfl ?_) | (refine O_ef rfl (Ef_call (I := []) WideF.wide (rNormal_fn (hu.upto (j := f.toNat) (by omega)) (by omega)) ⟨rfl, trivial⟩ rfl ?_); rintro v H6 I6 hle6 ⟨⟨wa, wn, wc, rfl, hw⟩, rfl⟩; have e1 := rEqual_same (hs.mono (hle5.trans hle6)) hw (by omega) rfl) | (refine O_ef rfl (Ef_callp WideF.wide e1 ⟨rfl, rfl, trivial⟩ rfl ?_)) | (refine O_ef rfl (Ef_call (I := []) WideF.wide (rNormal_fn (flow_from (hu.mono hle6) (i := f.toNat) (by omega)) (by omega)) ⟨rfl, trivial⟩ rfl ?_); rintro v H7 I7 hle7 ⟨⟨wa', wn', wc', rfl, hw'⟩, rfl⟩; have e2 := rEqual_same (ht.mono (hle5.trans (hle6.trans hle7))) hw' (by omega) rfl) | (refine O_ef rfl (Ef_callp WideF.wide e2 ⟨rfl, rfl, trivial⟩ rfl ?_)) | (refine O_ef rfl (Ef_buildn WideF.wide (xs := [_, _]) (vs := [.slice _ _ _, .slice _ _ _]) rfl ⟨rfl, rfl, trivial⟩ rfl rfl rfl rfl rfl rfl ?_); intro bm; refine O_freeze (ones_of rfl) ?_; intro H8 hle8 hr8; have hle48 : HLe H4 H8 := hle5.trans (hle6.trans (hle7.trans hle8)); have hcc := Concat_fn (ls := [normL ((unitsL l).take f.toNat), normL ((unitsL l).drop f.toNat)]) hr8 (.cons (hs.mono hle48) (.cons (ht.mono hle48) .nil)) (by simp [massL_append]; omega) (by omega); rw [normL_halves hc1] at hcc) | (refine O_ef rfl (Ef_call (I := []) WideF.wide hcc ⟨rfl, trivial⟩ rfl ?_); rintro v H9 I9 hle9 ⟨⟨xa, xn, xc, rfl, hc9⟩, rfl⟩) | (refine O_ef rfl (Ef_call (I := []) WideF.wide (rNormal_fn (hx.mono (hle4.trans (hle48.trans hle9))) (by omega)) ⟨rfl, trivial⟩ rfl ?_); rintro v H10 I10 hle10 ⟨⟨ya, yn, yc, rfl, hy⟩, rfl⟩; have e3 := rEqual_same (hc9.mono hle10) hy (by omega) rfl) | (refine O_ef rfl (Ef_callp WideF.wide e3 ⟨rfl, rfl, trivial⟩ rfl ?_)) | refine O_nil ?_ | refine A_seq ?_ | refine A_region ?_ | refine A_skip ?_ | refine A_ret ?_ | refine A_block ?_ | (show opsA _ _ _ _ _ _ _; first | (refine O_split rfl rfl (fun h => ?_) (fun h => ?_) <;> try (exfalso; omega)) | refine O_ev WideF.wide rfl (Ev_pure rfl) rfl rfl ?_ | (show opsA _ _ _ _ (⟨_, .call _, _, _, _, _⟩ :: _) _ _; refine O_ev WideF.wide rfl (Ev_llen rfl) rfl rfl ?_) | (show opsA _ _ _ _ (⟨_, .binOp _ _ _ _ _, _, _, _, _⟩ :: _) _ _; refine O_ev WideF.wide rfl (Ev_add rfl rfl (wi64 (by omega))) rfl rfl ?_) | (show opsA _ _ _ _ (⟨_, .unOp _ _ _, _, _, _, _⟩ :: _) _ _; refine O_ev WideF.wide rfl (Ev_notb rfl) rfl rfl ?_) | refine O_skip WideF.wide rfl rfl rfl ?_) | (show wpA _ _ _ (.cond _ _ _) _ _ _ _; first | (refine A_if rfl (fun h => ?_) (fun h => ?_) <;> try (exfalso; omega)) | refine A_iftrue rfl ?_ | refine A_iffalse rfl ?_))
  all_goals first
    | exact End_e (Ret1 rfl rfl) ⟨rfl, rfl⟩
    | (subst hs0 ht0; exact End_e (Ret1 rfl rfl) ⟨rfl, rfl⟩)
    | (trace_state; sorry)
end Go.Proofs.Ythbnhcgphkghaaa
