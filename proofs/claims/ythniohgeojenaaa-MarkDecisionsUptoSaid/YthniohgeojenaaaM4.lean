/-
  slices.Delete (printed by genM3.py).
-/
import Derived.Test.YthniohgeojenaaaM3
namespace Go.Proofs.Ythniohgeojenaaa
open Go
set_option linter.unusedVariables false
set_option linter.unusedSimpArgs false
theorem Shift_cut {c : Ctx} {K : SP} {n k nn cp : Nat} {e : Env} {H : Hp} {M L : Own} {D : List Deferred} {a : Option Addr} {css : List (List Value)} (j : Nat) (hj : j ≤ nn) (h : Shift c K ⟨n, e, H, .row (.slice a j cp) k (css.take j) :: M, L, D⟩) : Shift c K ⟨n, e, H, .row (.slice a nn cp) k css :: M, L, D⟩ := fun ac w hs =>
  h ac w ⟨hs.defers, hs.size, hs.env, hs.holds.cut j hj⟩
attribute [local irreducible] wpA opsA drJ drQ drE Ef Ev Shift Fn
theorem del_eqProp {α : Type} {css : List α} {z : α} {i n m : Nat} (hn : css.length = n) (hi : i < n) :
    ((css.take i ++ (css.drop (i + 1)).take (n - (i + 1)) ++ css.drop (n - 1)).take (n - 1) ++ List.replicate m z).take (n - 1) = css.eraseIdx i := by
  have e1 : (css.drop (i + 1)).take (n - (i + 1)) = css.drop (i + 1) := List.take_of_length_le (by simp; omega)
  have e2 : (css.take i ++ css.drop (i + 1)).length = n - 1 := by simp; omega
  rw [e1, List.take_append_of_le_length (l₁ := css.take i ++ css.drop (i + 1)) (by omega), List.take_of_length_le (l := css.take i ++ css.drop (i + 1)) (by omega), List.take_append_of_le_length (by omega), List.take_of_length_le (by omega), List.eraseIdx_eq_take_drop_succ]
set_option maxRecDepth 100000 in
set_option maxHeartbeats 2000000 in
theorem delProp_fn {H : Hp} {a : Option Addr} {n cp i : Nat} {css : List (List Value)} (hi : i < n) (h1 : ∀ cs ∈ css, ∀ u ∈ cs, u.oneCell' = true) (hm : n < 68719476736) :
    Fn Try.prog 85 [.slice a n cp, .int .i64 i, .int .i64 (i + 1 : Nat)] H [.row (.slice a n cp) 2 css] fun v H' I' => H' = H ∧ ∃ a' c', v = .slice a' (n - 1) c' ∧ I' = [.row (.slice a' (n - 1) c') 2 (css.eraseIdx i)] := by
  refine Fn_of _ _ Try.func85 rfl Try.ntmps85 rfl fun c => ?_
  refine A_rowaddr (q := 0) rfl ?_
  intro r1 r2 r3 r4 r5
  obtain ⟨sb, rfl⟩ : ∃ sb, a = some ⟨sb, 0, none⟩ := by
    cases a with
    | none => have := (r3 rfl).1; subst this; simp at r1; omega
    | some ad => obtain ⟨sb, rfl⟩ := r5 _ rfl; exact ⟨sb, rfl⟩
  repeat' (first | (refine O_ev WideF.wide rfl (Ev_lslice3 rfl rfl rfl rfl (by omega) (by omega) (by omega) (by omega)) rfl rfl ?_) | (refine A_drawi WideF.wide (.q 0 (.q 1 (.q 2 (.q 3 (.q 4 (.q 5 (.e 6 (.q 7 (.done []))))))))) [] [0] [] (by decide +kernel) (by decide) rfl ?_; simp only [Own.picks, Own.rget, List.cons_append, List.nil_append, List.append_nil]) | (refine D_ev rfl (Ev_lslicel rfl rfl (by omega) (by omega)) rfl rfl ?_) | (refine D_ev rfl (Ev_lsliceh rfl rfl (by omega) (by omega)) rfl rfl ?_) | (refine E_ef rfl (Ef_appendSelf (j := i + 1) (nn := n) WideF.wide rfl rfl (by omega) (by omega) (by omega) (by by_cases hq : cp = i + 1 <;> first | exact .inl (by omega) | exact .inr (by rw [if_neg (by omega)]; simp [Addr.add_lit])) (fun cs hcs => h1 cs (List.mem_of_mem_drop (List.mem_of_mem_take hcs))) rfl ?_); refine ⟨Grow.same rfl rfl, ?_⟩) | refine O_nil ?_ | refine A_seq ?_ | refine A_region ?_ | refine A_skip ?_ | (show drJ _ _ _ _ _ _ _ (.q _ _) _; refine D_q rfl ?_) | (show drJ _ _ _ _ _ _ _ (.e _ _) _; refine D_e rfl ?_) | (show drJ _ _ _ _ _ _ _ (.done _) _; refine D_done ?_; simp only [List.cons_append, List.nil_append]) | (show drQ _ _ _ _ _ _; refine D_ev rfl (Ev_pure rfl) rfl rfl ?_) | (show opsA _ _ _ _ _ _ _; first | refine O_ev WideF.wide rfl (Ev_pure rfl) rfl rfl ?_ | (show opsA _ _ _ _ (⟨_, .call _, _, _, _, _⟩ :: _) _ _; refine O_ev WideF.wide rfl (Ev_llen rfl) rfl rfl ?_)) | (show wpA _ _ _ (.cond _ _ _) _ _ _ _; (refine A_if rfl (fun h => ?_) (fun h => ?_) <;> try (exfalso; omega))))
  simp only [Int.toNat_natCast, show i + (n - (i + 1)) = n - 1 by omega]
  have hn1 : (n : Int) - ((n - 1 : Nat) : Int) = 1 := by omega
  have hlen : (css.take i ++ (css.drop (i + 1)).take (n - (i + 1)) ++ css.drop (n - 1)).length = n := by
    rw [List.length_append, List.length_append, List.length_take, List.length_take, List.length_drop, List.length_drop]; omega
  repeat' (first | (refine O_ev WideF.wide rfl (Ev_lslice rfl rfl rfl (by omega) (by omega) (by omega)) rfl rfl ?_) | (refine O_ef rfl (Ef_clearR WideF.wide (j := n - 1) rfl (by rw [hlen]; simp only [Int.toNat_natCast]; omega) (.inr ⟨sb, rfl, by rw [if_neg (by omega)]; simp [Addr.add_lit]⟩) rfl (List.all_eq_true.1 rfl) ?_)) | refine O_nil ?_ | refine A_seq ?_ | refine A_region ?_ | refine A_ret ?_ | (show opsA _ _ _ _ _ _ _; refine O_ev WideF.wide rfl (Ev_pure rfl) rfl rfl ?_))
  refine End_s (Ret1 rfl rfl) (Shift.lek ⟨33, [], H, [.row (.slice (some ⟨sb, 0, none⟩) n cp) 2 _], [], []⟩ ⟨rfl, rfl, rfl, trivial, Own.subi [0] (by decide) rfl rfl⟩ (Shift_cut (n - 1) (by omega) (Shift.pure ⟨rfl, rfl, _, _, rfl, ?_⟩)))
  rw [del_eqProp r1.symm hi]
theorem del_eqLayer {α : Type} {css : List α} {z : α} {i n m : Nat} (hn : css.length = n) (hi : i < n) :
    ((css.take i ++ (css.drop (i + 1)).take (n - (i + 1)) ++ css.drop (n - 1)).take (n - 1) ++ List.replicate m z).take (n - 1) = css.eraseIdx i := by
  have e1 : (css.drop (i + 1)).take (n - (i + 1)) = css.drop (i + 1) := List.take_of_length_le (by simp; omega)
  have e2 : (css.take i ++ css.drop (i + 1)).length = n - 1 := by simp; omega
  rw [e1, List.take_append_of_le_length (l₁ := css.take i ++ css.drop (i + 1)) (by omega), List.take_of_length_le (l := css.take i ++ css.drop (i + 1)) (by omega), List.take_append_of_le_length (by omega), List.take_of_length_le (by omega), List.eraseIdx_eq_take_drop_succ]
set_option maxRecDepth 100000 in
set_option maxHeartbeats 2000000 in
theorem delLayer_fn {H : Hp} {a : Option Addr} {n cp i : Nat} {css : List (List Value)} (hi : i < n) (h1 : ∀ cs ∈ css, ∀ u ∈ cs, u.oneCell' = true) (hm : n < 68719476736) :
    Fn Try.prog 68 [.slice a n cp, .int .i64 i, .int .i64 (i + 1 : Nat)] H [.row (.slice a n cp) 4 css] fun v H' I' => H' = H ∧ ∃ a' c', v = .slice a' (n - 1) c' ∧ I' = [.row (.slice a' (n - 1) c') 4 (css.eraseIdx i)] := by
  refine Fn_of _ _ Try.func68 rfl Try.ntmps68 rfl fun c => ?_
  refine A_rowaddr (q := 0) rfl ?_
  intro r1 r2 r3 r4 r5
  obtain ⟨sb, rfl⟩ : ∃ sb, a = some ⟨sb, 0, none⟩ := by
    cases a with
    | none => have := (r3 rfl).1; subst this; simp at r1; omega
    | some ad => obtain ⟨sb, rfl⟩ := r5 _ rfl; exact ⟨sb, rfl⟩
  repeat' (first | (refine O_ev WideF.wide rfl (Ev_lslice3 rfl rfl rfl rfl (by omega) (by omega) (by omega) (by omega)) rfl rfl ?_) | (refine A_drawi WideF.wide (.q 0 (.q 1 (.q 2 (.q 3 (.q 4 (.q 5 (.e 6 (.q 7 (.done []))))))))) [] [0] [] (by decide +kernel) (by decide) rfl ?_; simp only [Own.picks, Own.rget, List.cons_append, List.nil_append, List.append_nil]) | (refine D_ev rfl (Ev_lslicel rfl rfl (by omega) (by omega)) rfl rfl ?_) | (refine D_ev rfl (Ev_lsliceh rfl rfl (by omega) (by omega)) rfl rfl ?_) | (refine E_ef rfl (Ef_appendSelf (j := i + 1) (nn := n) WideF.wide rfl rfl (by omega) (by omega) (by omega) (by by_cases hq : cp = i + 1 <;> first | exact .inl (by omega) | exact .inr (by rw [if_neg (by omega)]; simp [Addr.add_lit])) (fun cs hcs => h1 cs (List.mem_of_mem_drop (List.mem_of_mem_take hcs))) rfl ?_); refine ⟨Grow.same rfl rfl, ?_⟩) | refine O_nil ?_ | refine A_seq ?_ | refine A_region ?_ | refine A_skip ?_ | (show drJ _ _ _ _ _ _ _ (.q _ _) _; refine D_q rfl ?_) | (show drJ _ _ _ _ _ _ _ (.e _ _) _; refine D_e rfl ?_) | (show drJ _ _ _ _ _ _ _ (.done _) _; refine D_done ?_; simp only [List.cons_append, List.nil_append]) | (show drQ _ _ _ _ _ _; refine D_ev rfl (Ev_pure rfl) rfl rfl ?_) | (show opsA _ _ _ _ _ _ _; first | refine O_ev WideF.wide rfl (Ev_pure rfl) rfl rfl ?_ | (show opsA _ _ _ _ (⟨_, .call _, _, _, _, _⟩ :: _) _ _; refine O_ev WideF.wide rfl (Ev_llen rfl) rfl rfl ?_)) | (show wpA _ _ _ (.cond _ _ _) _ _ _ _; (refine A_if rfl (fun h => ?_) (fun h => ?_) <;> try (exfalso; omega))))
  simp only [Int.toNat_natCast, show i + (n - (i + 1)) = n - 1 by omega]
  have hn1 : (n : Int) - ((n - 1 : Nat) : Int) = 1 := by omega
  have hlen : (css.take i ++ (css.drop (i + 1)).take (n - (i + 1)) ++ css.drop (n - 1)).length = n := by
    rw [List.length_append, List.length_append, List.length_take, List.length_take, List.length_drop, List.length_drop]; omega
  repeat' (first | (refine O_ev WideF.wide rfl (Ev_lslice rfl rfl rfl (by omega) (by omega) (by omega)) rfl rfl ?_) | (refine O_ef rfl (Ef_clearR WideF.wide (j := n - 1) rfl (by rw [hlen]; simp only [Int.toNat_natCast]; omega) (.inr ⟨sb, rfl, by rw [if_neg (by omega)]; simp [Addr.add_lit]⟩) rfl (List.all_eq_true.1 rfl) ?_)) | refine O_nil ?_ | refine A_seq ?_ | refine A_region ?_ | refine A_ret ?_ | (show opsA _ _ _ _ _ _ _; refine O_ev WideF.wide rfl (Ev_pure rfl) rfl rfl ?_))
  refine End_s (Ret1 rfl rfl) (Shift.lek ⟨33, [], H, [.row (.slice (some ⟨sb, 0, none⟩) n cp) 4 _], [], []⟩ ⟨rfl, rfl, rfl, trivial, Own.subi [0] (by decide) rfl rfl⟩ (Shift_cut (n - 1) (by omega) (Shift.pure ⟨rfl, rfl, _, _, rfl, ?_⟩)))
  rw [del_eqLayer r1.symm hi]
end Go.Proofs.Ythniohgeojenaaa
