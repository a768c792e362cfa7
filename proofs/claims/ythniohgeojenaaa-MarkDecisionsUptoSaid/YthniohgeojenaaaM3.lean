/-
  slices.Insert, slices.Delete (printed by genM3.py).
-/
import Derived.Test.YthniohgeojenaaaM2
namespace Go.Proofs.Ythniohgeojenaaa
open Go
set_option linter.unusedVariables false
set_option linter.unusedSimpArgs false
section
variable {P : Program} {e : Env} {H : Hp} {R : Own} {dst : Option Tmp} {ty : TypeId} {pos : String} {after : Array Edge} {g : Option (Nat × Bool)} {x y z u : Operand} {t : TypeId}
/-- x[i:j:m] -/
theorem Ev_lslice3 {el n c s : Nat} {ag : Bool} {ad : Option Addr} {i j m : Int} {k1 k2 k3 : IntKind} [ht : UndC P t (.slice el)] [hs : TyC P el ag s] (hx : e.eval x = some (.slice ad n c)) (hy : e.eval y = some (.int k1 i)) (hz : e.eval z = some (.int k2 j)) (hu : e.eval u = some (.int k3 m)) (h0 : 0 ≤ i) (h1 : i ≤ j) (h2 : j ≤ m) (h3 : m ≤ c) :
    Ev P ⟨dst, .slice t x (some y) (some z) (some u), ty, pos, after, g⟩ e H R (.slice (if m.toNat = i.toNat then ad else ad.map (·.add (i.toNat * s))) (j.toNat - i.toNat) (m.toNat - i.toNat)) := fun a w he _ _ => by
  have hb0 : Sem.run P (Instr.sliceBound (.int k3 m) c .slice3Acap) w = .ok m.toNat w := run_sliceBound w k3 m c .slice3Acap (by omega) h3
  have hb1 : Sem.run P (Instr.sliceBound (.int k2 j) m.toNat .slice3B) w = .ok j.toNat w := run_sliceBound w k2 j m.toNat .slice3B (by omega) (by omega)
  have hb2 : Sem.run P (Instr.sliceBound (.int k1 i) j.toNat .slice3C) w = .ok i.toNat w := run_sliceBound w k1 i j.toNat .slice3C h0 (by omega)
  simp only [execOp, he.eval hx, Option.map_some, he.eval hy, he.eval hz, he.eval hu, Instr.sliceAt, Sem.run_bind, ht.run, Result.andThen_ok, Instr.slice, Instr.sliceBounds, Sem.run_pure, hb0, hb1, hb2, Option.isSome_some, if_true, hs.sizeOf]
end
theorem ins_new {α : Type} {css : List α} {z v : α} {i n : Nat} (hn : css.length = n) (hi : i ≤ n) :
    ((css.take i ++ List.replicate (n + 1 - i) z).take i ++ [v] ++ (css.take i ++ List.replicate (n + 1 - i) z).drop (i + 1)).take (i + 1) ++ (css.drop i).take (n - i) ++ ((css.take i ++ List.replicate (n + 1 - i) z).take i ++ [v] ++ (css.take i ++ List.replicate (n + 1 - i) z).drop (i + 1)).drop (i + 1 + (n - i)) = css.take i ++ v :: css.drop i := by
  have h1 : (css.take i).length = i := by simp; omega
  have hA : (css.take i ++ List.replicate (n + 1 - i) z).length = n + 1 := by simp; omega
  have e1 : (css.take i ++ List.replicate (n + 1 - i) z).take i = css.take i := by rw [List.take_append_of_le_length (by omega), List.take_of_length_le (by omega)]
  have e2 : (css.take i ++ [v]).length = i + 1 := by simp; omega
  have e3 : (css.drop i).take (n - i) = css.drop i := List.take_of_length_le (by simp; omega)
  have e5 : (css.take i ++ [v] ++ (css.take i ++ List.replicate (n + 1 - i) z).drop (i + 1)).length = n + 1 := by rw [List.length_append, e2, List.length_drop, hA]; omega
  have e6 : (css.take i ++ [v] ++ (css.take i ++ List.replicate (n + 1 - i) z).drop (i + 1)).drop (i + 1 + (n - i)) = [] := List.drop_of_length_le (by omega)
  have e7 : (css.take i ++ [v] ++ (css.take i ++ List.replicate (n + 1 - i) z).drop (i + 1)).take (i + 1) = css.take i ++ [v] := by rw [List.take_append_of_le_length (by omega), List.take_of_length_le (by omega)]
  rw [e1, e3, e6, e7]
  simp
theorem sl_if {c i b j : Nat} (h : c ≠ i) : (if c = i then some (⟨b, 0, none⟩ : Addr) else Option.map (fun x : Addr => x.add j) (some ⟨b, 0, none⟩)) = some ⟨b, j, none⟩ := by
  rw [if_neg h]; simp [Addr.add_lit]
theorem ins_same {α : Type} {css junk : List α} {v : α} {i n : Nat} (hn : css.length = n) (hj : junk.length = 1) (hi : i < n) :
    ((css ++ junk).take (i + 1) ++ ((css ++ junk).drop i).take (n - i) ++ (css ++ junk).drop (i + 1 + (n - i))).take i ++ [v] ++ ((css ++ junk).take (i + 1) ++ ((css ++ junk).drop i).take (n - i) ++ (css ++ junk).drop (i + 1 + (n - i))).drop (i + 1) = css.take i ++ v :: css.drop i := by
  have e1 : (css ++ junk).take (i + 1) = css.take (i + 1) := List.take_append_of_le_length (by omega)
  have e2 : ((css ++ junk).drop i).take (n - i) = css.drop i := by
    rw [List.drop_append_of_le_length (by omega), List.take_append_of_le_length (by simp; omega), List.take_of_length_le (by simp; omega)]
  have e3 : (css ++ junk).drop (i + 1 + (n - i)) = [] := List.drop_of_length_le (by simp; omega)
  have e4 : (css.take (i + 1)).length = i + 1 := by simp; omega
  rw [e1, e2, e3, List.append_nil, List.take_append_of_le_length (by omega), List.take_take, Nat.min_eq_left (by omega), List.drop_append_of_le_length (by omega), List.drop_of_length_le (by omega)]
  simp
attribute [local irreducible] wpA opsA drJ drQ drE Ef Ev Shift Fn
theorem ovProp : ∀ args w, (callFunc 102 args).run Try.prog w = ((Extern.SlicesOverlaps.overlaps #[22, 22] #[4] args).run Try.prog w).andThen fun v w' => .ok (.value v) w' := fun args w => by
  rw [run_callFunc_extern Try.func102 (by kernel_rfl) (by kernel_rfl) (by kernel_rfl) (e := Extern.SlicesOverlaps.overlaps #[22, 22] #[4]) (by kernel_rfl)]
set_option maxRecDepth 100000 in
set_option maxHeartbeats 2000000 in
theorem insProp_fn {H : Hp} {a va : Option Addr} {n cp vc i : Nat} {css : List (List Value)} {nv : List Value} (hi : i ≤ n) (h1 : ∀ cs ∈ css, ∀ u ∈ cs, u.oneCell' = true) (h2 : ∀ u ∈ nv, u.oneCell' = true) (hm : n < 68719476736) :
    Fn Try.prog 84 [.slice a n cp, .int .i64 i, .slice va 1 vc] H [.row (.slice a n cp) 2 css, .row (.slice va 1 vc) 2 [nv]] fun v H' I' => H' = H ∧ ∃ a' c', v = .slice a' (n + 1) c' ∧ I' = [.row (.slice a' (n + 1) c') 2 (css.take i ++ nv :: css.drop i)] := by
  have onv' : ∀ cs ∈ [nv], ∀ u ∈ cs, u.oneCell' = true := fun cs hcs => by rw [List.mem_singleton] at hcs; subst hcs; exact h2
  have onv : ([nv].all fun cs => cs.all (·.oneCell')) = true := List.all_eq_true.2 fun cs hcs => List.all_eq_true.2 (onv' cs hcs)
  refine Fn_of _ _ Try.func84 rfl Try.ntmps84 rfl fun c => ?_
  refine A_rowaddr (q := 0) rfl ?_
  intro r1 r2 r3 r4 r5
  refine A_rowaddr (q := 1) rfl ?_
  intro s1 s2 s3 s4 s5
  obtain ⟨vb, rfl⟩ : ∃ vb, va = some ⟨vb, 0, none⟩ := by
    cases va with
    | none => have := (s3 rfl).1; simp at this
    | some ad => obtain ⟨vb, rfl⟩ := s5 _ rfl; exact ⟨vb, rfl⟩
  by_cases hin : i = n
  · repeat' (first | (refine O_ev WideF.wide rfl (Ev_lslicel rfl rfl (by omega) (by omega)) rfl rfl ?_) | (refine O_ef rfl (Ef_appendR WideF.wide rfl rfl rfl rfl onv (by simp; omega) (by simp; omega) rfl ?_); intro a1 c1) | refine O_nil ?_ | refine A_seq ?_ | refine A_region ?_ | refine A_skip ?_ | refine A_ret ?_ | (show opsA _ _ _ _ _ _ _; first | refine O_ev WideF.wide rfl (Ev_pure rfl) rfl rfl ?_ | (show opsA _ _ _ _ (⟨_, .call _, _, _, _, _⟩ :: _) _ _; refine O_ev WideF.wide rfl (Ev_llen rfl) rfl rfl ?_)) | (show wpA _ _ _ (.cond _ _ _) _ _ _ _; (refine A_if rfl (fun h => ?_) (fun h => ?_) <;> try (exfalso; omega))))
    have hl : (css ++ [nv]).length = n + 1 := by simp; omega
    simp only [hl]
    refine End_m (Ret1 rfl rfl) ⟨rfl, _, _, rfl, ?_⟩
    subst hin
    rw [List.take_of_length_le (by omega), List.drop_of_length_le (by omega)]
  · obtain ⟨sb, rfl⟩ : ∃ sb, a = some ⟨sb, 0, none⟩ := by
      cases a with
      | none => have := (r3 rfl).1; subst this; simp at r1; omega
      | some ad => obtain ⟨sb, rfl⟩ := r5 _ rfl; exact ⟨sb, rfl⟩
    by_cases hgr : cp < n + 1
    · repeat' (first | (refine O_ev WideF.wide rfl (Ev_lslicel rfl rfl (by omega) (by omega)) rfl rfl ?_) | (refine O_ev WideF.wide rfl (Ev_lsliceh rfl rfl (by omega) (by omega)) rfl rfl ?_) | (refine O_ef rfl (Ef_growZ (m := n + 1 - i) WideF.wide rfl rfl (by omega) (by omega) hi (by omega) rfl rfl (by omega) (by omega) rfl ?_); intro nb nc hnc) | (refine O_f2 (O_f1 (O_ef rfl (Ef_copyR (i := i) WideF.wide rfl rfl (by omega) (by omega) (.inr (by rw [if_neg (by omega)]; simp [Addr.add_lit])) onv' rfl rfl ?_)))) | (refine A_drawi WideF.wide (.q 0 (.q 1 (.q 2 (.q 3 (.q 4 (.q 5 (.q 6 (.q 7 (.e 8 (.done [])))))))))) [] [0, 2, 1] [] (by decide +kernel) (by decide) rfl ?_; simp only [Own.picks, Own.rget, List.cons_append, List.nil_append, List.append_nil]) | (refine D_ev rfl (Ev_lslicel rfl rfl (by omega) (by omega)) rfl rfl ?_) | (refine E_ef rfl (Ef_copyT (i := i + 1) (j := i) (q := n - i) WideF.wide rfl rfl (by omega) (by omega) (by omega) (by first | exact .inr (by rw [if_neg (by omega)]; simp [Addr.add_lit]) | exact .inl (by omega)) (by first | exact .inr (by rw [if_neg (by omega)]; simp [Addr.add_lit]) | exact .inl (by omega)) (fun cs hcs => h1 cs (List.mem_of_mem_drop (List.mem_of_mem_take hcs))) rfl rfl ?_); refine ⟨Grow.same rfl rfl, ?_⟩) | refine O_nil ?_ | refine A_seq ?_ | refine A_region ?_ | refine A_skip ?_ | refine A_ret ?_ | (show drJ _ _ _ _ _ _ _ (.q _ _) _; refine D_q rfl ?_) | (show drJ _ _ _ _ _ _ _ (.e _ _) _; refine D_e rfl ?_) | (show drJ _ _ _ _ _ _ _ (.done _) _; refine D_done ?_; simp only [List.cons_append, List.nil_append]) | (show drQ _ _ _ _ _ _; first | refine D_ev rfl (Ev_pure rfl) rfl rfl ?_ | (show drQ _ _ _ ⟨_, .binOp _ _ _ _ _, _, _, _, _⟩ _ _; refine D_ev rfl (Ev_add rfl rfl (wi64 (by omega))) rfl rfl ?_)) | (show opsA _ _ _ _ _ _ _; first | refine O_ev WideF.wide rfl (Ev_pure rfl) rfl rfl ?_ | (show opsA _ _ _ _ (⟨_, .call _, _, _, _, _⟩ :: _) _ _; first | refine O_ev WideF.wide rfl (Ev_llen rfl) rfl rfl ?_ | refine O_ev WideF.wide rfl (Ev_lcap rfl) rfl rfl ?_) | (show opsA _ _ _ _ (⟨_, .binOp _ _ _ _ _, _, _, _, _⟩ :: _) _ _; first | refine O_ev WideF.wide rfl (Ev_add rfl rfl (wi64 (by omega))) rfl rfl ?_ | refine O_ev WideF.wide rfl (Ev_sub rfl rfl (wi64 (by omega))) rfl rfl ?_)) | (show wpA _ _ _ (.cond _ _ _) _ _ _ _; (refine A_if rfl (fun h => ?_) (fun h => ?_) <;> try (exfalso; omega))))
      have hit : ((i : Int).toNat) = i := by simp
      simp only [hit, show i + (n + 1 - i) = n + 1 by omega]
      rw [ins_new r1.symm hi]
      exact End_s (Ret1 rfl rfl) (Shift.lek ⟨95, [], H, [.row (.slice (some ⟨nb, 0, none⟩) (n + 1) nc) 2 (css.take i ++ nv :: css.drop i)], [], []⟩ ⟨rfl, rfl, rfl, trivial, Own.subi [0] (by decide) rfl rfl⟩ (Shift.pure ⟨rfl, rfl, _, _, rfl, rfl⟩))
    · have ojk : ∀ junk : List (List Value), junk.length = 1 → ∀ cs ∈ ((css ++ junk).drop i).take (n - i), ∀ u ∈ cs, u.oneCell' = true := fun junk hj cs hcs => by
        rw [List.drop_append_of_le_length (by omega), List.take_append_of_le_length (by simp; omega)] at hcs
        exact h1 cs (List.mem_of_mem_drop (List.mem_of_mem_take hcs))
      repeat' (first | (refine O_more 1 (by omega) ?_; intro junk hj1 hj2; refine O_ev WideF.wide rfl (Ev_lsliceh rfl rfl (by omega) (by omega)) rfl rfl ?_) | (refine O_ev WideF.wide rfl (Ev_lslicel rfl rfl (by omega) (by omega)) rfl rfl ?_) | (refine A_drawi WideF.wide (.q 0 (.q 1 (.q 2 (.q 3 (.q 4 (.q 5 (.q 6 (.q 7 (.e 8 (.done [])))))))))) [] [0, 1] [] (by decide +kernel) (by decide) rfl ?_; simp only [Own.picks, Own.rget, List.cons_append, List.nil_append, List.append_nil]) | (refine D_ev rfl (Ev_lslicel rfl rfl (by omega) (by omega)) rfl rfl ?_) | (refine E_ef rfl (Ef_copyS (i := i + 1) (j := i) (q := n - i) WideF.wide rfl rfl (by omega) (by omega) (by omega) (by first | exact .inr (by rw [if_neg (by omega)]; simp [Addr.add_lit]) | exact .inl (by omega)) (by first | exact .inr (by rw [if_neg (by omega)]; simp [Addr.add_lit]) | exact .inl (by omega)) (ojk junk hj1) rfl rfl ?_); refine ⟨Grow.same rfl rfl, ?_⟩) | (refine O_ef rfl (Ef_copyR (i := i) WideF.wide rfl rfl (by omega) (by omega) (.inr (by rw [if_neg (by omega)]; simp [Addr.add_lit])) onv' rfl rfl ?_)) | (refine O_ef rfl (Ef_overlaps WideF.wide ovProp rfl (congrArg some (congrArg (fun z => Value.slice z _ _) (sl_if (by omega)))) (by simp; omega) (by omega) rfl ?_)) | refine O_nil ?_ | refine A_seq ?_ | refine A_region ?_ | refine A_skip ?_ | refine A_ret ?_ | (show drJ _ _ _ _ _ _ _ (.q _ _) _; refine D_q rfl ?_) | (show drJ _ _ _ _ _ _ _ (.e _ _) _; refine D_e rfl ?_) | (show drJ _ _ _ _ _ _ _ (.done _) _; refine D_done ?_; simp only [List.cons_append, List.nil_append]) | (show drQ _ _ _ _ _ _; first | refine D_ev rfl (Ev_pure rfl) rfl rfl ?_ | (show drQ _ _ _ ⟨_, .binOp _ _ _ _ _, _, _, _, _⟩ _ _; refine D_ev rfl (Ev_add rfl rfl (wi64 (by omega))) rfl rfl ?_)) | (show opsA _ _ _ _ _ _ _; first | refine O_ev WideF.wide rfl (Ev_pure rfl) rfl rfl ?_ | (show opsA _ _ _ _ (⟨_, .call _, _, _, _, _⟩ :: _) _ _; first | refine O_ev WideF.wide rfl (Ev_llen rfl) rfl rfl ?_ | refine O_ev WideF.wide rfl (Ev_lcap rfl) rfl rfl ?_) | (show opsA _ _ _ _ (⟨_, .binOp _ _ _ _ _, _, _, _, _⟩ :: _) _ _; refine O_ev WideF.wide rfl (Ev_add rfl rfl (wi64 (by omega))) rfl rfl ?_) | (show opsA _ _ _ _ (⟨_, .unOp _ _ _, _, _, _, _⟩ :: _) _ _; refine O_ev WideF.wide rfl (Ev_notb rfl) rfl rfl ?_)) | (show wpA _ _ _ (.cond _ _ _) _ _ _ _; first | (refine A_if rfl (fun h => ?_) (fun h => ?_) <;> try (exfalso; omega)) | refine A_iftrue rfl ?_))
      have hit : ((i : Int).toNat) = i := by simp
      have hnt : ((n : Int) + ((1 : Nat) : Int)).toNat = n + 1 := by omega
      simp only [hit, hnt]
      rw [ins_same r1.symm hj1 (by omega)]
      exact End_s (Ret1 rfl rfl) (Shift.lek ⟨95, [], H, [.row (.slice (some ⟨sb, 0, none⟩) (n + 1) cp) 2 (css.take i ++ nv :: css.drop i)], [], []⟩ ⟨rfl, rfl, rfl, trivial, Own.subi [0] (by decide) rfl rfl⟩ (Shift.pure ⟨rfl, rfl, _, _, rfl, rfl⟩))
theorem ovDel : ∀ args w, (callFunc 89 args).run Try.prog w = ((Extern.SlicesOverlaps.overlaps #[23, 23] #[4] args).run Try.prog w).andThen fun v w' => .ok (.value v) w' := fun args w => by
  rw [run_callFunc_extern Try.func89 (by kernel_rfl) (by kernel_rfl) (by kernel_rfl) (e := Extern.SlicesOverlaps.overlaps #[23, 23] #[4]) (by kernel_rfl)]
set_option maxRecDepth 100000 in
set_option maxHeartbeats 2000000 in
theorem insDel_fn {H : Hp} {a va : Option Addr} {n cp vc i : Nat} {css : List (List Value)} {nv : List Value} (hi : i ≤ n) (h1 : ∀ cs ∈ css, ∀ u ∈ cs, u.oneCell' = true) (h2 : ∀ u ∈ nv, u.oneCell' = true) (hm : n < 68719476736) :
    Fn Try.prog 65 [.slice a n cp, .int .i64 i, .slice va 1 vc] H [.row (.slice a n cp) 2 css, .row (.slice va 1 vc) 2 [nv]] fun v H' I' => H' = H ∧ ∃ a' c', v = .slice a' (n + 1) c' ∧ I' = [.row (.slice a' (n + 1) c') 2 (css.take i ++ nv :: css.drop i)] := by
  have onv' : ∀ cs ∈ [nv], ∀ u ∈ cs, u.oneCell' = true := fun cs hcs => by rw [List.mem_singleton] at hcs; subst hcs; exact h2
  have onv : ([nv].all fun cs => cs.all (·.oneCell')) = true := List.all_eq_true.2 fun cs hcs => List.all_eq_true.2 (onv' cs hcs)
  refine Fn_of _ _ Try.func65 rfl Try.ntmps65 rfl fun c => ?_
  refine A_rowaddr (q := 0) rfl ?_
  intro r1 r2 r3 r4 r5
  refine A_rowaddr (q := 1) rfl ?_
  intro s1 s2 s3 s4 s5
  obtain ⟨vb, rfl⟩ : ∃ vb, va = some ⟨vb, 0, none⟩ := by
    cases va with
    | none => have := (s3 rfl).1; simp at this
    | some ad => obtain ⟨vb, rfl⟩ := s5 _ rfl; exact ⟨vb, rfl⟩
  by_cases hin : i = n
  · repeat' (first | (refine O_ev WideF.wide rfl (Ev_lslicel rfl rfl (by omega) (by omega)) rfl rfl ?_) | (refine O_ef rfl (Ef_appendR WideF.wide rfl rfl rfl rfl onv (by simp; omega) (by simp; omega) rfl ?_); intro a1 c1) | refine O_nil ?_ | refine A_seq ?_ | refine A_region ?_ | refine A_skip ?_ | refine A_ret ?_ | (show opsA _ _ _ _ _ _ _; first | refine O_ev WideF.wide rfl (Ev_pure rfl) rfl rfl ?_ | (show opsA _ _ _ _ (⟨_, .call _, _, _, _, _⟩ :: _) _ _; refine O_ev WideF.wide rfl (Ev_llen rfl) rfl rfl ?_)) | (show wpA _ _ _ (.cond _ _ _) _ _ _ _; (refine A_if rfl (fun h => ?_) (fun h => ?_) <;> try (exfalso; omega))))
    have hl : (css ++ [nv]).length = n + 1 := by simp; omega
    simp only [hl]
    refine End_m (Ret1 rfl rfl) ⟨rfl, _, _, rfl, ?_⟩
    subst hin
    rw [List.take_of_length_le (by omega), List.drop_of_length_le (by omega)]
  · obtain ⟨sb, rfl⟩ : ∃ sb, a = some ⟨sb, 0, none⟩ := by
      cases a with
      | none => have := (r3 rfl).1; subst this; simp at r1; omega
      | some ad => obtain ⟨sb, rfl⟩ := r5 _ rfl; exact ⟨sb, rfl⟩
    by_cases hgr : cp < n + 1
    · repeat' (first | (refine O_ev WideF.wide rfl (Ev_lslicel rfl rfl (by omega) (by omega)) rfl rfl ?_) | (refine O_ev WideF.wide rfl (Ev_lsliceh rfl rfl (by omega) (by omega)) rfl rfl ?_) | (refine O_ef rfl (Ef_growZ (m := n + 1 - i) WideF.wide rfl rfl (by omega) (by omega) hi (by omega) rfl rfl (by omega) (by omega) rfl ?_); intro nb nc hnc) | (refine O_f2 (O_f1 (O_ef rfl (Ef_copyR (i := i) WideF.wide rfl rfl (by omega) (by omega) (.inr (by rw [if_neg (by omega)]; simp [Addr.add_lit])) onv' rfl rfl ?_)))) | (refine A_drawi WideF.wide (.q 0 (.q 1 (.q 2 (.q 3 (.q 4 (.q 5 (.q 6 (.q 7 (.e 8 (.done [])))))))))) [] [0, 2, 1] [] (by decide +kernel) (by decide) rfl ?_; simp only [Own.picks, Own.rget, List.cons_append, List.nil_append, List.append_nil]) | (refine D_ev rfl (Ev_lslicel rfl rfl (by omega) (by omega)) rfl rfl ?_) | (refine E_ef rfl (Ef_copyT (i := i + 1) (j := i) (q := n - i) WideF.wide rfl rfl (by omega) (by omega) (by omega) (by first | exact .inr (by rw [if_neg (by omega)]; simp [Addr.add_lit]) | exact .inl (by omega)) (by first | exact .inr (by rw [if_neg (by omega)]; simp [Addr.add_lit]) | exact .inl (by omega)) (fun cs hcs => h1 cs (List.mem_of_mem_drop (List.mem_of_mem_take hcs))) rfl rfl ?_); refine ⟨Grow.same rfl rfl, ?_⟩) | refine O_nil ?_ | refine A_seq ?_ | refine A_region ?_ | refine A_skip ?_ | refine A_ret ?_ | (show drJ _ _ _ _ _ _ _ (.q _ _) _; refine D_q rfl ?_) | (show drJ _ _ _ _ _ _ _ (.e _ _) _; refine D_e rfl ?_) | (show drJ _ _ _ _ _ _ _ (.done _) _; refine D_done ?_; simp only [List.cons_append, List.nil_append]) | (show drQ _ _ _ _ _ _; first | refine D_ev rfl (Ev_pure rfl) rfl rfl ?_ | (show drQ _ _ _ ⟨_, .binOp _ _ _ _ _, _, _, _, _⟩ _ _; refine D_ev rfl (Ev_add rfl rfl (wi64 (by omega))) rfl rfl ?_)) | (show opsA _ _ _ _ _ _ _; first | refine O_ev WideF.wide rfl (Ev_pure rfl) rfl rfl ?_ | (show opsA _ _ _ _ (⟨_, .call _, _, _, _, _⟩ :: _) _ _; first | refine O_ev WideF.wide rfl (Ev_llen rfl) rfl rfl ?_ | refine O_ev WideF.wide rfl (Ev_lcap rfl) rfl rfl ?_) | (show opsA _ _ _ _ (⟨_, .binOp _ _ _ _ _, _, _, _, _⟩ :: _) _ _; first | refine O_ev WideF.wide rfl (Ev_add rfl rfl (wi64 (by omega))) rfl rfl ?_ | refine O_ev WideF.wide rfl (Ev_sub rfl rfl (wi64 (by omega))) rfl rfl ?_)) | (show wpA _ _ _ (.cond _ _ _) _ _ _ _; (refine A_if rfl (fun h => ?_) (fun h => ?_) <;> try (exfalso; omega))))
      have hit : ((i : Int).toNat) = i := by simp
      simp only [hit, show i + (n + 1 - i) = n + 1 by omega]
      rw [ins_new r1.symm hi]
      exact End_s (Ret1 rfl rfl) (Shift.lek ⟨95, [], H, [.row (.slice (some ⟨nb, 0, none⟩) (n + 1) nc) 2 (css.take i ++ nv :: css.drop i)], [], []⟩ ⟨rfl, rfl, rfl, trivial, Own.subi [0] (by decide) rfl rfl⟩ (Shift.pure ⟨rfl, rfl, _, _, rfl, rfl⟩))
    · have ojk : ∀ junk : List (List Value), junk.length = 1 → ∀ cs ∈ ((css ++ junk).drop i).take (n - i), ∀ u ∈ cs, u.oneCell' = true := fun junk hj cs hcs => by
        rw [List.drop_append_of_le_length (by omega), List.take_append_of_le_length (by simp; omega)] at hcs
        exact h1 cs (List.mem_of_mem_drop (List.mem_of_mem_take hcs))
      repeat' (first | (refine O_more 1 (by omega) ?_; intro junk hj1 hj2; refine O_ev WideF.wide rfl (Ev_lsliceh rfl rfl (by omega) (by omega)) rfl rfl ?_) | (refine O_ev WideF.wide rfl (Ev_lslicel rfl rfl (by omega) (by omega)) rfl rfl ?_) | (refine A_drawi WideF.wide (.q 0 (.q 1 (.q 2 (.q 3 (.q 4 (.q 5 (.q 6 (.q 7 (.e 8 (.done [])))))))))) [] [0, 1] [] (by decide +kernel) (by decide) rfl ?_; simp only [Own.picks, Own.rget, List.cons_append, List.nil_append, List.append_nil]) | (refine D_ev rfl (Ev_lslicel rfl rfl (by omega) (by omega)) rfl rfl ?_) | (refine E_ef rfl (Ef_copyS (i := i + 1) (j := i) (q := n - i) WideF.wide rfl rfl (by omega) (by omega) (by omega) (by first | exact .inr (by rw [if_neg (by omega)]; simp [Addr.add_lit]) | exact .inl (by omega)) (by first | exact .inr (by rw [if_neg (by omega)]; simp [Addr.add_lit]) | exact .inl (by omega)) (ojk junk hj1) rfl rfl ?_); refine ⟨Grow.same rfl rfl, ?_⟩) | (refine O_ef rfl (Ef_copyR (i := i) WideF.wide rfl rfl (by omega) (by omega) (.inr (by rw [if_neg (by omega)]; simp [Addr.add_lit])) onv' rfl rfl ?_)) | (refine O_ef rfl (Ef_overlaps WideF.wide ovDel rfl (congrArg some (congrArg (fun z => Value.slice z _ _) (sl_if (by omega)))) (by simp; omega) (by omega) rfl ?_)) | refine O_nil ?_ | refine A_seq ?_ | refine A_region ?_ | refine A_skip ?_ | refine A_ret ?_ | (show drJ _ _ _ _ _ _ _ (.q _ _) _; refine D_q rfl ?_) | (show drJ _ _ _ _ _ _ _ (.e _ _) _; refine D_e rfl ?_) | (show drJ _ _ _ _ _ _ _ (.done _) _; refine D_done ?_; simp only [List.cons_append, List.nil_append]) | (show drQ _ _ _ _ _ _; first | refine D_ev rfl (Ev_pure rfl) rfl rfl ?_ | (show drQ _ _ _ ⟨_, .binOp _ _ _ _ _, _, _, _, _⟩ _ _; refine D_ev rfl (Ev_add rfl rfl (wi64 (by omega))) rfl rfl ?_)) | (show opsA _ _ _ _ _ _ _; first | refine O_ev WideF.wide rfl (Ev_pure rfl) rfl rfl ?_ | (show opsA _ _ _ _ (⟨_, .call _, _, _, _, _⟩ :: _) _ _; first | refine O_ev WideF.wide rfl (Ev_llen rfl) rfl rfl ?_ | refine O_ev WideF.wide rfl (Ev_lcap rfl) rfl rfl ?_) | (show opsA _ _ _ _ (⟨_, .binOp _ _ _ _ _, _, _, _, _⟩ :: _) _ _; refine O_ev WideF.wide rfl (Ev_add rfl rfl (wi64 (by omega))) rfl rfl ?_) | (show opsA _ _ _ _ (⟨_, .unOp _ _ _, _, _, _, _⟩ :: _) _ _; refine O_ev WideF.wide rfl (Ev_notb rfl) rfl rfl ?_)) | (show wpA _ _ _ (.cond _ _ _) _ _ _ _; first | (refine A_if rfl (fun h => ?_) (fun h => ?_) <;> try (exfalso; omega)) | refine A_iftrue rfl ?_))
      have hit : ((i : Int).toNat) = i := by simp
      have hnt : ((n : Int) + ((1 : Nat) : Int)).toNat = n + 1 := by omega
      simp only [hit, hnt]
      rw [ins_same r1.symm hj1 (by omega)]
      exact End_s (Ret1 rfl rfl) (Shift.lek ⟨95, [], H, [.row (.slice (some ⟨sb, 0, none⟩) (n + 1) cp) 2 (css.take i ++ nv :: css.drop i)], [], []⟩ ⟨rfl, rfl, rfl, trivial, Own.subi [0] (by decide) rfl rfl⟩ (Shift.pure ⟨rfl, rfl, _, _, rfl, rfl⟩))
theorem ovLayer : ∀ args w, (callFunc 91 args).run Try.prog w = ((Extern.SlicesOverlaps.overlaps #[24, 24] #[4] args).run Try.prog w).andThen fun v w' => .ok (.value v) w' := fun args w => by
  rw [run_callFunc_extern Try.func91 (by kernel_rfl) (by kernel_rfl) (by kernel_rfl) (e := Extern.SlicesOverlaps.overlaps #[24, 24] #[4]) (by kernel_rfl)]
set_option maxRecDepth 100000 in
set_option maxHeartbeats 2000000 in
theorem insLayer_fn {H : Hp} {a va : Option Addr} {n cp vc i : Nat} {css : List (List Value)} {nv : List Value} (hi : i ≤ n) (h1 : ∀ cs ∈ css, ∀ u ∈ cs, u.oneCell' = true) (h2 : ∀ u ∈ nv, u.oneCell' = true) (hm : n < 68719476736) :
    Fn Try.prog 69 [.slice a n cp, .int .i64 i, .slice va 1 vc] H [.row (.slice a n cp) 4 css, .row (.slice va 1 vc) 4 [nv]] fun v H' I' => H' = H ∧ ∃ a' c', v = .slice a' (n + 1) c' ∧ I' = [.row (.slice a' (n + 1) c') 4 (css.take i ++ nv :: css.drop i)] := by
  have onv' : ∀ cs ∈ [nv], ∀ u ∈ cs, u.oneCell' = true := fun cs hcs => by rw [List.mem_singleton] at hcs; subst hcs; exact h2
  have onv : ([nv].all fun cs => cs.all (·.oneCell')) = true := List.all_eq_true.2 fun cs hcs => List.all_eq_true.2 (onv' cs hcs)
  refine Fn_of _ _ Try.func69 rfl Try.ntmps69 rfl fun c => ?_
  refine A_rowaddr (q := 0) rfl ?_
  intro r1 r2 r3 r4 r5
  refine A_rowaddr (q := 1) rfl ?_
  intro s1 s2 s3 s4 s5
  obtain ⟨vb, rfl⟩ : ∃ vb, va = some ⟨vb, 0, none⟩ := by
    cases va with
    | none => have := (s3 rfl).1; simp at this
    | some ad => obtain ⟨vb, rfl⟩ := s5 _ rfl; exact ⟨vb, rfl⟩
  by_cases hin : i = n
  · repeat' (first | (refine O_ev WideF.wide rfl (Ev_lslicel rfl rfl (by omega) (by omega)) rfl rfl ?_) | (refine O_ef rfl (Ef_appendR WideF.wide rfl rfl rfl rfl onv (by simp; omega) (by simp; omega) rfl ?_); intro a1 c1) | refine O_nil ?_ | refine A_seq ?_ | refine A_region ?_ | refine A_skip ?_ | refine A_ret ?_ | (show opsA _ _ _ _ _ _ _; first | refine O_ev WideF.wide rfl (Ev_pure rfl) rfl rfl ?_ | (show opsA _ _ _ _ (⟨_, .call _, _, _, _, _⟩ :: _) _ _; refine O_ev WideF.wide rfl (Ev_llen rfl) rfl rfl ?_)) | (show wpA _ _ _ (.cond _ _ _) _ _ _ _; (refine A_if rfl (fun h => ?_) (fun h => ?_) <;> try (exfalso; omega))))
    have hl : (css ++ [nv]).length = n + 1 := by simp; omega
    simp only [hl]
    refine End_m (Ret1 rfl rfl) ⟨rfl, _, _, rfl, ?_⟩
    subst hin
    rw [List.take_of_length_le (by omega), List.drop_of_length_le (by omega)]
  · obtain ⟨sb, rfl⟩ : ∃ sb, a = some ⟨sb, 0, none⟩ := by
      cases a with
      | none => have := (r3 rfl).1; subst this; simp at r1; omega
      | some ad => obtain ⟨sb, rfl⟩ := r5 _ rfl; exact ⟨sb, rfl⟩
    by_cases hgr : cp < n + 1
    · repeat' (first | (refine O_ev WideF.wide rfl (Ev_lslicel rfl rfl (by omega) (by omega)) rfl rfl ?_) | (refine O_ev WideF.wide rfl (Ev_lsliceh rfl rfl (by omega) (by omega)) rfl rfl ?_) | (refine O_ef rfl (Ef_growZ (m := n + 1 - i) WideF.wide rfl rfl (by omega) (by omega) hi (by omega) rfl rfl (by omega) (by omega) rfl ?_); intro nb nc hnc) | (refine O_f2 (O_f1 (O_ef rfl (Ef_copyR (i := i) WideF.wide rfl rfl (by omega) (by omega) (.inr (by rw [if_neg (by omega)]; simp [Addr.add_lit])) onv' rfl rfl ?_)))) | (refine A_drawi WideF.wide (.q 0 (.q 1 (.q 2 (.q 3 (.q 4 (.q 5 (.q 6 (.q 7 (.e 8 (.done [])))))))))) [] [0, 2, 1] [] (by decide +kernel) (by decide) rfl ?_; simp only [Own.picks, Own.rget, List.cons_append, List.nil_append, List.append_nil]) | (refine D_ev rfl (Ev_lslicel rfl rfl (by omega) (by omega)) rfl rfl ?_) | (refine E_ef rfl (Ef_copyT (i := i + 1) (j := i) (q := n - i) WideF.wide rfl rfl (by omega) (by omega) (by omega) (by first | exact .inr (by rw [if_neg (by omega)]; simp [Addr.add_lit]) | exact .inl (by omega)) (by first | exact .inr (by rw [if_neg (by omega)]; simp [Addr.add_lit]) | exact .inl (by omega)) (fun cs hcs => h1 cs (List.mem_of_mem_drop (List.mem_of_mem_take hcs))) rfl rfl ?_); refine ⟨Grow.same rfl rfl, ?_⟩) | refine O_nil ?_ | refine A_seq ?_ | refine A_region ?_ | refine A_skip ?_ | refine A_ret ?_ | (show drJ _ _ _ _ _ _ _ (.q _ _) _; refine D_q rfl ?_) | (show drJ _ _ _ _ _ _ _ (.e _ _) _; refine D_e rfl ?_) | (show drJ _ _ _ _ _ _ _ (.done _) _; refine D_done ?_; simp only [List.cons_append, List.nil_append]) | (show drQ _ _ _ _ _ _; first | refine D_ev rfl (Ev_pure rfl) rfl rfl ?_ | (show drQ _ _ _ ⟨_, .binOp _ _ _ _ _, _, _, _, _⟩ _ _; refine D_ev rfl (Ev_add rfl rfl (wi64 (by omega))) rfl rfl ?_)) | (show opsA _ _ _ _ _ _ _; first | refine O_ev WideF.wide rfl (Ev_pure rfl) rfl rfl ?_ | (show opsA _ _ _ _ (⟨_, .call _, _, _, _, _⟩ :: _) _ _; first | refine O_ev WideF.wide rfl (Ev_llen rfl) rfl rfl ?_ | refine O_ev WideF.wide rfl (Ev_lcap rfl) rfl rfl ?_) | (show opsA _ _ _ _ (⟨_, .binOp _ _ _ _ _, _, _, _, _⟩ :: _) _ _; first | refine O_ev WideF.wide rfl (Ev_add rfl rfl (wi64 (by omega))) rfl rfl ?_ | refine O_ev WideF.wide rfl (Ev_sub rfl rfl (wi64 (by omega))) rfl rfl ?_)) | (show wpA _ _ _ (.cond _ _ _) _ _ _ _; (refine A_if rfl (fun h => ?_) (fun h => ?_) <;> try (exfalso; omega))))
      have hit : ((i : Int).toNat) = i := by simp
      simp only [hit, show i + (n + 1 - i) = n + 1 by omega]
      rw [ins_new r1.symm hi]
      exact End_s (Ret1 rfl rfl) (Shift.lek ⟨95, [], H, [.row (.slice (some ⟨nb, 0, none⟩) (n + 1) nc) 4 (css.take i ++ nv :: css.drop i)], [], []⟩ ⟨rfl, rfl, rfl, trivial, Own.subi [0] (by decide) rfl rfl⟩ (Shift.pure ⟨rfl, rfl, _, _, rfl, rfl⟩))
    · have ojk : ∀ junk : List (List Value), junk.length = 1 → ∀ cs ∈ ((css ++ junk).drop i).take (n - i), ∀ u ∈ cs, u.oneCell' = true := fun junk hj cs hcs => by
        rw [List.drop_append_of_le_length (by omega), List.take_append_of_le_length (by simp; omega)] at hcs
        exact h1 cs (List.mem_of_mem_drop (List.mem_of_mem_take hcs))
      repeat' (first | (refine O_more 1 (by omega) ?_; intro junk hj1 hj2; refine O_ev WideF.wide rfl (Ev_lsliceh rfl rfl (by omega) (by omega)) rfl rfl ?_) | (refine O_ev WideF.wide rfl (Ev_lslicel rfl rfl (by omega) (by omega)) rfl rfl ?_) | (refine A_drawi WideF.wide (.q 0 (.q 1 (.q 2 (.q 3 (.q 4 (.q 5 (.q 6 (.q 7 (.e 8 (.done [])))))))))) [] [0, 1] [] (by decide +kernel) (by decide) rfl ?_; simp only [Own.picks, Own.rget, List.cons_append, List.nil_append, List.append_nil]) | (refine D_ev rfl (Ev_lslicel rfl rfl (by omega) (by omega)) rfl rfl ?_) | (refine E_ef rfl (Ef_copyS (i := i + 1) (j := i) (q := n - i) WideF.wide rfl rfl (by omega) (by omega) (by omega) (by first | exact .inr (by rw [if_neg (by omega)]; simp [Addr.add_lit]) | exact .inl (by omega)) (by first | exact .inr (by rw [if_neg (by omega)]; simp [Addr.add_lit]) | exact .inl (by omega)) (ojk junk hj1) rfl rfl ?_); refine ⟨Grow.same rfl rfl, ?_⟩) | (refine O_ef rfl (Ef_copyR (i := i) WideF.wide rfl rfl (by omega) (by omega) (.inr (by rw [if_neg (by omega)]; simp [Addr.add_lit])) onv' rfl rfl ?_)) | (refine O_ef rfl (Ef_overlaps WideF.wide ovLayer rfl (congrArg some (congrArg (fun z => Value.slice z _ _) (sl_if (by omega)))) (by simp; omega) (by omega) rfl ?_)) | refine O_nil ?_ | refine A_seq ?_ | refine A_region ?_ | refine A_skip ?_ | refine A_ret ?_ | (show drJ _ _ _ _ _ _ _ (.q _ _) _; refine D_q rfl ?_) | (show drJ _ _ _ _ _ _ _ (.e _ _) _; refine D_e rfl ?_) | (show drJ _ _ _ _ _ _ _ (.done _) _; refine D_done ?_; simp only [List.cons_append, List.nil_append]) | (show drQ _ _ _ _ _ _; first | refine D_ev rfl (Ev_pure rfl) rfl rfl ?_ | (show drQ _ _ _ ⟨_, .binOp _ _ _ _ _, _, _, _, _⟩ _ _; refine D_ev rfl (Ev_add rfl rfl (wi64 (by omega))) rfl rfl ?_)) | (show opsA _ _ _ _ _ _ _; first | refine O_ev WideF.wide rfl (Ev_pure rfl) rfl rfl ?_ | (show opsA _ _ _ _ (⟨_, .call _, _, _, _, _⟩ :: _) _ _; first | refine O_ev WideF.wide rfl (Ev_llen rfl) rfl rfl ?_ | refine O_ev WideF.wide rfl (Ev_lcap rfl) rfl rfl ?_) | (show opsA _ _ _ _ (⟨_, .binOp _ _ _ _ _, _, _, _, _⟩ :: _) _ _; refine O_ev WideF.wide rfl (Ev_add rfl rfl (wi64 (by omega))) rfl rfl ?_) | (show opsA _ _ _ _ (⟨_, .unOp _ _ _, _, _, _, _⟩ :: _) _ _; refine O_ev WideF.wide rfl (Ev_notb rfl) rfl rfl ?_)) | (show wpA _ _ _ (.cond _ _ _) _ _ _ _; first | (refine A_if rfl (fun h => ?_) (fun h => ?_) <;> try (exfalso; omega)) | refine A_iftrue rfl ?_))
      have hit : ((i : Int).toNat) = i := by simp
      have hnt : ((n : Int) + ((1 : Nat) : Int)).toNat = n + 1 := by omega
      simp only [hit, hnt]
      rw [ins_same r1.symm hj1 (by omega)]
      exact End_s (Ret1 rfl rfl) (Shift.lek ⟨95, [], H, [.row (.slice (some ⟨sb, 0, none⟩) (n + 1) cp) 4 (css.take i ++ nv :: css.drop i)], [], []⟩ ⟨rfl, rfl, rfl, trivial, Own.subi [0] (by decide) rfl rfl⟩ (Shift.pure ⟨rfl, rfl, _, _, rfl, rfl⟩))
end Go.Proofs.Ythniohgeojenaaa
