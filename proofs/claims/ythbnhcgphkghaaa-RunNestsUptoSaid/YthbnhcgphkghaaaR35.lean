/-
  The law RunNests.
-/
import Derived.Test.YthbnhcgphkghaaaD4
namespace Go.Proofs.Ythbnhcgphkghaaa
open Go
set_option linter.unusedVariables false
set_option linter.unusedSimpArgs false
theorem rng_ok {l : List Item} {f t : Int} (h : okL l) (h1 : 0 ≤ f) (h2 : f ≤ t) (h3 : t ≤ usum l) : rngE l f t = 0 := by
  unfold rngE; rw [if_pos h, if_neg (by omega)]
attribute [local irreducible] wpA opsA drJ drQ drE Ef Ev Shift Fn
set_option maxHeartbeats 4000000 in
set_option maxRecDepth 100000 in
theorem RunNests_fn {H : Hp} {a0 : Option Addr} {n cq : Nat} {l : List Item} {u0 u1 u2 u3 : Int} (hx : FlowH H a0 n cq l) (hml : massL l < 1073741824) (q0 : 0 ≤ u0 ∧ u0 < 65536) (q1 : 0 ≤ u1 ∧ u1 < 65536) (q2 : 0 ≤ u2 ∧ u2 < 65536) (q3 : 0 ≤ u3 ∧ u3 < 65536) :
    Fn Try.prog 8 [.slice a0 n cq, .agg [.int .u16 u0, .int .u16 u1, .int .u16 u2, .int .u16 u3].toArray] H [] fun v _ I' => v = .bool true ∧ I' = [] := by
  have hn := hx.len
  have hnm := normL_mass l
  have hub := usum_b (normL l)
  have hul := unitsL_mass (normL l)
  have hmq : massL l ≤ 6000 → massL (unitsL (normL l)) ≤ 36000000 := fun h => Nat.le_trans hul (mul_small (by omega))
  have hokc := Classical.em (okL (normL l))
  obtain ⟨f, hf⟩ : ∃ f, f = u0 % (usum (normL l) + 1) := ⟨_, rfl⟩
  have f0 : 0 ≤ f := by rw [hf]; exact Int.emod_nonneg _ (by omega)
  have f1 : f < usum (normL l) + 1 := by rw [hf]; exact Int.emod_lt_of_pos _ (by omega)
  obtain ⟨t, ht⟩ : ∃ t, t = u1 % (usum (normL l) - f + 1) := ⟨_, rfl⟩
  have t0 : 0 ≤ t := by rw [ht]; exact Int.emod_nonneg _ (by omega)
  have t1 : t < usum (normL l) - f + 1 := by rw [ht]; exact Int.emod_lt_of_pos _ (by omega)
  obtain ⟨a, ha⟩ : ∃ a, a = u2 % (f + t - f + 1) := ⟨_, rfl⟩
  have a0' : 0 ≤ a := by rw [ha]; exact Int.emod_nonneg _ (by omega)
  have a1 : a < f + t - f + 1 := by rw [ha]; exact Int.emod_lt_of_pos _ (by omega)
  obtain ⟨bb, hbb⟩ : ∃ bb, bb = u3 % (f + t - f - a + 1) := ⟨_, rfl⟩
  have b0 : 0 ≤ bb := by rw [hbb]; exact Int.emod_nonneg _ (by omega)
  have b1 : bb < f + t - f - a + 1 := by rw [hbb]; exact Int.emod_lt_of_pos _ (by omega)
  have hnest : ∀ h : okL (normL l), _ := fun h => nest (normL_stable l) (normL_twice (massL l + 1) l (by omega)).2 h (f := f.toNat) (t := (f + t).toNat) (a := a.toNat) (b := (a + bb).toNat) (by omega) (by have := usum_units h; omega) (by omega) (by omega)
  have hr1 : rngE (normL l) f (f + t) = if okL (normL l) then 0 else 12 := by
    by_cases h : okL (normL l)
    · rw [if_pos h, rng_ok h (by omega) (by omega) (by omega)]
    · rw [if_neg h]; unfold rngE; rw [if_neg h]
  have hr3 : rngE (normL l) (f + a) (f + (a + bb)) = if okL (normL l) then 0 else 12 := by
    by_cases h : okL (normL l)
    · rw [if_pos h, rng_ok h (by omega) (by omega) (by omega)]
    · rw [if_neg h]; unfold rngE; rw [if_neg h]
  have e1 : (f + (a + bb)).toNat = f.toNat + (a + bb).toNat := by omega
  have e2 : (f + a).toNat = f.toNat + a.toNat := by omega
  have p1 := massL_part (unitsL (normL l)) f.toNat (f + t).toNat
  have p2 := normL_mass (((unitsL (normL l)).take (f + t).toNat).drop f.toNat)
  have p3 := massL_part (unitsL (normL l)) (f.toNat + a.toNat) (f.toNat + (a + bb).toNat)
  have p4 := normL_mass (((unitsL (normL l)).take (f.toNat + (a + bb).toNat)).drop (f.toNat + a.toNat))
  refine Fn_of _ _ Try.func8 rfl Try.ntmps8 rfl fun c => ?_
  repeat' (first | (refine O_ef rfl (Ef_call (I := []) WideF.wide known_fn trivial rfl ?_); rintro v H' I' hk ⟨rfl, rfl⟩; (try have hx := hx.mono hk); (try have hm := hm.mono hk); (try have h1 := h1.mono hk); (try have h2 := h2.mono hk); (try have h3 := h3.mono hk)) | (refine O_ef rfl (Ef_buildn WideF.wide (xs := [_]) (vs := [.slice _ _ _]) rfl ⟨rfl, trivial⟩ rfl rfl rfl rfl rfl rfl ?_); intro bl; refine O_freeze (ones_of rfl) ?_; intro H' hk hr; (try have hx := hx.mono hk); (try have hm := hm.mono hk); (try have h1 := h1.mono hk); (try have h2 := h2.mono hk); (try have h3 := h3.mono hk); have hsm := Small2_fn (ls := [l]) hr (.cons hx .nil) (by intro y hy; simp at hy; subst hy; omega) (by omega)) | (refine O_ef rfl (Ef_call (I := []) WideF.wide hsm ⟨rfl, trivial⟩ rfl ?_); rintro v H' I' hk ⟨⟨sb, rfl, hsb⟩, rfl, rfl⟩; cases sb; rotate_left; have hsl := hsb rfl l (by simp); have hsq := mul_small hsl; have hmm := hmq hsl; clear hsm hsb; skip) | (refine O_ef rfl (Ef_call (I := []) WideF.wide (rNormal_fn hx (by omega)) ⟨rfl, trivial⟩ rfl ?_); rintro v H' I' hk ⟨⟨ma, mn, mc, rfl, hm⟩, rfl⟩; (try have hx := hx.mono hk); (try have hm := hm.mono hk); (try have h1 := h1.mono hk); (try have h2 := h2.mono hk); (try have h3 := h3.mono hk); have hLm := Len_fn hm (by omega); rcases hokc with hok | hok <;> first | rw [lenV, lenE, if_pos hok, if_pos hok] at hLm | rw [lenV, lenE, if_neg hok, if_neg hok] at hLm) | (refine O_ef rfl (Ef_callp WideF.wide hLm ⟨rfl, trivial⟩ rfl ?_)) | (refine O_ev WideF.wide rfl (Ev_remp rfl rfl (by omega) (by omega)) rfl rfl ?_; rw [← hf]) | (refine O_ev WideF.wide rfl (Ev_remp rfl rfl (by omega) (by omega)) rfl rfl ?_; rw [← ht]) | (refine O_ev WideF.wide rfl (Ev_remp rfl rfl (by omega) (by omega)) rfl rfl ?_; rw [← ha]) | (refine O_ev WideF.wide rfl (Ev_remp rfl rfl (by omega) (by omega)) rfl rfl ?_; rw [← hbb]) | (refine O_ef rfl (Ef_call (I := []) WideF.wide (Slice_fn (f := f) (t := f + t) hm (by omega)) ⟨rfl, rfl, rfl, trivial⟩ rfl ?_); rintro v H' I' hk ⟨⟨xa, xn, xc, rfl, h1⟩, rfl⟩; (try have hx := hx.mono hk); (try have hm := hm.mono hk); (try have h1 := h1.mono hk); (try have h2 := h2.mono hk); (try have h3 := h3.mono hk); rw [hr1, if_pos hok] at h1 ⊢; rw [if_pos rfl, normL_part hok] at h1; obtain ⟨g1, g2, g3, g4, g5⟩ := hnest hok) | (refine O_ef rfl (Ef_call (I := []) WideF.wide (Slice_fn (f := a) (t := a + bb) h1 (by omega)) ⟨rfl, rfl, rfl, trivial⟩ rfl ?_); rintro v H' I' hk ⟨⟨ya, yn, yc, rfl, h2⟩, rfl⟩; (try have hx := hx.mono hk); (try have hm := hm.mono hk); (try have h1 := h1.mono hk); (try have h2 := h2.mono hk); (try have h3 := h3.mono hk); rw [rng_ok g1 (by omega) (by omega) (by omega)] at h2 ⊢; rw [if_pos rfl, normL_part g1, g3] at h2) | (refine O_ef rfl (Ef_call (I := []) WideF.wide (Slice_fn (f := f + a) (t := f + (a + bb)) hm (by omega)) ⟨rfl, rfl, rfl, trivial⟩ rfl ?_); rintro v H' I' hk ⟨⟨za, zn, zc, rfl, h3⟩, rfl⟩; (try have hx := hx.mono hk); (try have hm := hm.mono hk); (try have h1 := h1.mono hk); (try have h2 := h2.mono hk); (try have h3 := h3.mono hk); rw [hr3, if_pos hok] at h3 ⊢; rw [if_pos rfl, normL_part hok] at h3; rw [e1, e2] at h3; have hLy := Len_fn h2 (by omega); rw [lenV, lenE, if_pos g4, if_pos g4, g5] at hLy; have hEq := Equal_fn h2 h3 (by omega); rw [decide_eq_true rfl] at hEq; have hIs := IsNormal_fn h2 (by omega); rw [normL_idem, decide_eq_true rfl] at hIs) | (refine O_ef rfl (Ef_callp WideF.wide hLy ⟨rfl, trivial⟩ rfl ?_)) | (refine O_ef rfl (Ef_callp WideF.wide hEq ⟨rfl, rfl, trivial⟩ rfl ?_)) | (refine O_ef rfl (Ef_call (I := []) WideF.wide hIs ⟨rfl, trivial⟩ rfl ?_); rintro v H' I' hk ⟨rfl, rfl⟩) | refine O_nil ?_ | refine A_seq ?_ | refine A_region ?_ | refine A_skip ?_ | refine A_ret ?_ | (show opsA _ _ _ _ _ _ _; first | (refine O_split rfl rfl (fun h => ?_) (fun h => ?_) <;> try (exfalso; omega)) | refine O_ev WideF.wide rfl (Ev_pure rfl) rfl rfl ?_ | (show opsA _ _ _ _ (⟨_, .load _ _, _, _, _, _⟩ :: _) _ _; refine O_ev WideF.wide rfl (Ev_loadB1 (i := 0) rfl rfl rfl) rfl rfl ?_) | (show opsA _ _ _ _ (⟨_, .fieldAddr _ _ _, _, _, _, _⟩ :: _) _ _; refine O_ev WideF.wide rfl (Ev_fieldAddr rfl rfl rfl) rfl rfl ?_) | (show opsA _ _ _ _ (⟨_, .binOp _ _ _ _ _, _, _, _, _⟩ :: _) _ _; first | refine O_ev WideF.wide rfl (Ev_add rfl rfl (wi64 (by omega))) rfl rfl ?_ | refine O_ev WideF.wide rfl (Ev_sub rfl rfl (wi64 (by omega))) rfl rfl ?_) | (show opsA _ _ _ _ (⟨_, .unOp _ _ _, _, _, _, _⟩ :: _) _ _; refine O_ev WideF.wide rfl (Ev_notb rfl) rfl rfl ?_) | (show opsA _ _ _ _ (⟨_, .convert _ _ _, _, _, _, _⟩ :: _) _ _; refine O_ev WideF.wide rfl (Ev_conv (k2 := .i64) rfl (wi64 (by omega))) rfl rfl ?_) | (show opsA _ _ _ _ (⟨_, .box _ _, _, _, _, _⟩ :: _) _ _; (refine O_ef rfl (Ef_boxa WideF.wide rfl rfl ?_); intro b)) | refine O_skip WideF.wide rfl rfl rfl ?_) | (show wpA _ _ _ (.cond _ _ _) _ _ _ _; first | (refine A_if rfl (fun h => ?_) (fun h => ?_) <;> try (exfalso; omega)) | refine A_iftrue rfl ?_ | refine A_iffalse rfl ?_))
  all_goals first
    | exact End_e (Ret1 rfl rfl) ⟨rfl, rfl⟩
    | (trace_state; sorry)
end Go.Proofs.Ythbnhcgphkghaaa
