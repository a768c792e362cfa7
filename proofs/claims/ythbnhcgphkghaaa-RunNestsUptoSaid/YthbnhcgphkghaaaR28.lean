/-
  The law RunSlices.
-/
import Derived.Test.YthbnhcgphkghaaaR27
namespace Go.Proofs.Ythbnhcgphkghaaa
open Go
set_option linter.unusedVariables false
set_option linter.unusedSimpArgs false
theorem flow_sliceU {H : Hp} {a : Option Addr} {n c : Nat} {l : List Item} (h : FlowH H a n c l) {i j : Nat} (h1 : i ≤ j) (h2 : j ≤ n) :
    FlowH H (if c = i then a else a.map (·.add (i * 11))) (j - i) (c - i) ((l.take j).drop i) := by
  have := SlH.slice h h1 h2
  rwa [show (l.drop i).take (j - i) = (l.take j).drop i by rw [List.drop_take]] at this
theorem rngE_case (l : List Item) (f t : Int) : (¬ okL l ∧ rngE l f t = 12) ∨ (okL l ∧ (f < 0 ∨ t < f ∨ usum l < t) ∧ rngE l f t = 2) ∨ (okL l ∧ 0 ≤ f ∧ f ≤ t ∧ t ≤ usum l ∧ rngE l f t = 0) := by
  unfold rngE
  by_cases h : okL l
  · rw [if_pos h]
    by_cases h2 : f < 0 ∨ t < f ∨ usum l < t
    · rw [if_pos h2]; exact .inr (.inl ⟨h, h2, rfl⟩)
    · rw [if_neg h2]; exact .inr (.inr ⟨h, by omega, by omega, by omega, rfl⟩)
  · rw [if_neg h]; exact .inl ⟨h, rfl⟩
theorem setText_mass_le {x : Item} {t : List UInt8} (h : t.length ≤ x.text.length) : (x.setText t).mass ≤ x.mass := by
  have := setText_mass x t; omega
theorem massL_bound {l : List Item} {M : Nat} (h : ∀ x ∈ l, x.mass ≤ M) : massL l ≤ l.length * M := by
  induction l with
  | nil => simp [massL]
  | cons x l ih =>
    have h1 := h x (by simp)
    have h2 := ih fun y hy => h y (by simp [hy])
    rw [massL, List.length_cons, Nat.succ_mul]; omega
theorem flatten_mem_len {cs : List (List UInt8)} {c : List UInt8} (h : c ∈ cs) : c.length ≤ cs.flatten.length := by
  induction cs with
  | nil => cases h
  | cons d cs ih =>
    rw [List.flatten_cons, List.length_append]
    rcases List.mem_cons.1 h with rfl | h
    · omega
    · have := ih h; omega
theorem split_mass (x : Item) : massL x.split ≤ x.mass * x.mass := by
  have hme := x.mass_eq
  unfold Item.split
  split
  · have hb : ∀ y ∈ (charsOf x.text).map x.setText, y.mass ≤ x.mass := by
      intro y hy
      obtain ⟨c, hc, rfl⟩ := List.mem_map.1 hy
      refine setText_mass_le ?_
      unfold charsOf at hc
      cases hch : chars x.text with
      | none => rw [hch] at hc; simp at hc
      | some cs =>
        rw [hch] at hc
        obtain ⟨h1, _, _⟩ := chars_spec x.text.length x.text (Nat.le_refl _) cs hch
        have := flatten_mem_len (cs := cs) (c := c) hc
        rwa [h1] at this
    have h1 := massL_bound hb
    have h2 := charsOf_len x.text
    rw [List.length_map] at h1
    exact Nat.le_trans h1 (Nat.mul_le_mul_right _ (by omega))
  · simp only [massL, Nat.add_zero]
    have : 1 ≤ x.mass := by omega
    exact Nat.le_mul_of_pos_left _ this
theorem unitsL_mass (l : List Item) : massL (unitsL l) ≤ massL l * massL l := by
  induction l with
  | nil => simp [unitsL, massL]
  | cons x l ih =>
    have h1 := split_mass x
    have : unitsL (x :: l) = x.split ++ unitsL l := by simp [unitsL]
    rw [this, massL_append, massL]
    have h2 : (x.mass + massL l) * (x.mass + massL l) = x.mass * x.mass + massL l * massL l + 2 * (x.mass * massL l) := by
      rw [Nat.add_mul, Nat.mul_add, Nat.mul_add, Nat.mul_comm (massL l) x.mass]; omega
    omega
theorem massL_part (l : List Item) (i j : Nat) : massL ((l.take j).drop i) ≤ massL l := by
  have h1 : massL (l.take j) + massL (l.drop j) = massL l := by rw [← massL_append, List.take_append_drop]
  have h2 : massL ((l.take j).take i) + massL ((l.take j).drop i) = massL (l.take j) := by rw [← massL_append, List.take_append_drop]
  omega
theorem mul_small {m : Nat} (h : m ≤ 6000) : m * m ≤ 36000000 := Nat.mul_le_mul h h
attribute [local irreducible] wpA opsA drJ drQ drE Ef Ev Shift Fn
set_option maxHeartbeats 2000000 in
set_option maxRecDepth 100000 in
theorem RunSlices_fn {H : Hp} {a : Option Addr} {n cq : Nat} {l : List Item} {f t : Int} (hx0 : FlowH H a n cq l) (hm : massL l < 1073741824) (hf : -9223372036854775808 ≤ f ∧ f < 9223372036854775808) (ht : -9223372036854775808 ≤ t ∧ t < 9223372036854775808) :
    Fn Try.prog 7 [.slice a n cq, .int .i64 f, .int .i64 t] H [] fun v _ I' => v = .bool true ∧ I' = [] := by
  have hn := hx0.len
  have hml := massL_len l
  have hul := unitsL_len l
  have hub := usum_b l
  have hum := unitsL_mass l
  refine Fn_of _ _ Try.func7 rfl Try.ntmps7 rfl fun c => ?_
  repeat' (first | (refine O_ef rfl (Ef_call (I := []) WideF.wide known_fn trivial rfl ?_); rintro v H1 I1 hle1 ⟨rfl, rfl⟩) | (refine O_ef rfl (Ef_buildn WideF.wide (xs := [_]) (vs := [.slice _ _ _]) rfl ⟨rfl, trivial⟩ rfl rfl rfl rfl rfl rfl ?_); intro bl; refine O_freeze (ones_of rfl) ?_; intro H2 hle2 hr2; have hx := hx0.mono (hle1.trans hle2); have hsm := Small2_fn (ls := [l]) hr2 (.cons hx .nil) (by intro y hy; simp at hy; subst hy; omega) (by omega)) | (refine O_ef rfl (Ef_call (I := []) WideF.wide hsm ⟨rfl, trivial⟩ rfl ?_); rintro v H3 I3 hle3 ⟨⟨sb, rfl, hsb⟩, rfl, rfl⟩; cases sb; rotate_left; have hsl := hsb rfl l (by simp); have hsq := mul_small hsl; clear hsm hsb; skip) | (refine O_ef rfl (Ef_call (I := []) WideF.wide (Slice_fn (f := f) (t := t) hx (by omega)) ⟨rfl, rfl, rfl, trivial⟩ rfl ?_); rintro v H4 I4 hle4 ⟨⟨sa, sn, sc, rfl, hs⟩, rfl⟩; rcases rngE_case l f t with ⟨hc1, hrg⟩ | ⟨hc1, hc2, hrg⟩ | ⟨hc1, hc2, hc3, hc4, hrg⟩ <;> rw [hrg] at hs ⊢ <;> first | (rw [if_neg (by decide : ¬ ((12 : Int) = 0))] at hs; have hs0 := hs.nil_inv) | (rw [if_neg (by decide : ¬ ((2 : Int) = 0))] at hs; have hs0 := hs.nil_inv) | (rw [if_pos rfl, normL_part hc1] at hs)) | (refine O_ef rfl (Ef_call (I := []) WideF.wide (Units_fn (hx.mono hle4) (by omega)) ⟨rfl, trivial⟩ rfl ?_); rintro v H5 I5 hle5 ⟨⟨ua, un, uc, rfl, hu⟩, rfl⟩; first | (rw [decide_eq_true hc1]; rw [if_pos hc1] at hu; have hunl := hu.len; have husm := usum_units hc1; have hucap := hu.cap; have hmp := massL_part (unitsL l) f.toNat t.toNat) | (rw [decide_eq_false hc1])) | (refine O_ev WideF.wide rfl (Ev_lslice rfl rfl rfl (by omega) (by omega) (by omega)) rfl rfl ?_) | (refine O_ef rfl (Ef_call (I := []) WideF.wide (rNormal_fn (flow_sliceU hu (i := f.toNat) (j := t.toNat) (by omega) (by omega)) (by omega)) ⟨rfl, trivial⟩ rfl ?_); rintro v H6 I6 hle6 ⟨⟨wa, wn, wc, rfl, hw⟩, rfl⟩; have hnm := normL_mass (((unitsL l).take t.toNat).drop f.toNat); have e1 := rEqual_same (hs.mono (hle5.trans hle6)) hw (by omega) rfl) | (refine O_ef rfl (Ef_callp WideF.wide e1 ⟨rfl, rfl, trivial⟩ rfl ?_)) | refine O_nil ?_ | refine A_seq ?_ | refine A_region ?_ | refine A_skip ?_ | refine A_ret ?_ | refine A_block ?_ | (show opsA _ _ _ _ _ _ _; first | (refine O_split rfl rfl (fun h => ?_) (fun h => ?_) <;> try (exfalso; omega)) | refine O_ev WideF.wide rfl (Ev_pure rfl) rfl rfl ?_ | (show opsA _ _ _ _ (⟨_, .call _, _, _, _, _⟩ :: _) _ _; refine O_ev WideF.wide rfl (Ev_llen rfl) rfl rfl ?_) | (show opsA _ _ _ _ (⟨_, .unOp _ _ _, _, _, _, _⟩ :: _) _ _; refine O_ev WideF.wide rfl (Ev_notb rfl) rfl rfl ?_) | refine O_skip WideF.wide rfl rfl rfl ?_) | (show wpA _ _ _ (.cond _ _ _) _ _ _ _; first | (refine A_if rfl (fun h => ?_) (fun h => ?_) <;> try (exfalso; omega)) | refine A_iftrue rfl ?_ | refine A_iffalse rfl ?_))
  all_goals first
    | exact End_e (Ret1 rfl rfl) ⟨rfl, rfl⟩
    | (subst hs0; exact End_e (Ret1 rfl rfl) ⟨rfl, rfl⟩)
    | (trace_state; sorry)
end Go.Proofs.Ythbnhcgphkghaaa
