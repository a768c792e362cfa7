/-
  NumeralOrders.
-/
import Derived.Test.YtaehbjmimnjggaaDoorK14
namespace Go.Proofs.YtaehbjmimnjggaaDoor
open Go Go.Lib
set_option linter.unusedVariables false
set_option linter.unusedSimpArgs false
/-! ### the plain law: numerals are ordered by length, and then bytewise -/
def ordL (s t : List UInt8) : Bool := decide (s.length < t.length) || (decide (s.length = t.length) && Op.bytesLess s t)
theorem bl_irr : ∀ s, Op.bytesLess s s = false
  | [] => rfl
  | a :: r => by simp [Op.bytesLess, bl_irr r]
theorem bl_asym : ∀ s t, Op.bytesLess s t = true → Op.bytesLess t s = false
  | [], [], h => by simp [Op.bytesLess] at h
  | [], b :: y, h => rfl
  | a :: x, [], h => by simp [Op.bytesLess] at h
  | a :: x, b :: y, h => by
    simp only [Op.bytesLess, Bool.or_eq_true, decide_eq_true_eq, Bool.and_eq_true, beq_iff_eq] at h
    simp only [Op.bytesLess, Bool.or_eq_false_iff, decide_eq_false_iff_not, Bool.and_eq_false_iff, beq_eq_false_iff_ne]
    rcases h with h | ⟨h1, h2⟩
    · rw [UInt8.lt_iff_toNat_lt] at h
      refine ⟨by rw [UInt8.lt_iff_toNat_lt]; omega, .inl fun e => ?_⟩
      rw [e] at h; omega
    · subst h1
      exact ⟨by rw [UInt8.lt_iff_toNat_lt]; omega, .inr (bl_asym x y h2)⟩
theorem ordL_true {s t : List UInt8} : ordL s t = true ↔ s.length < t.length ∨ s.length = t.length ∧ Op.bytesLess s t = true := by simp [ordL]
theorem ordL_irr (s : List UInt8) : ordL s s = false := by simp [ordL, bl_irr]
theorem ordL_asym {s t : List UInt8} (h : ordL s t = true) : ordL t s = false := by
  rw [ordL_true] at h
  rw [Bool.eq_false_iff, ne_eq, ordL_true]
  rcases h with h | ⟨h1, h2⟩
  · rintro (h3 | ⟨h3, _⟩) <;> omega
  · rintro (h3 | ⟨_, h3⟩)
    · omega
    · rw [bl_asym _ _ h2] at h3; cases h3
theorem bl_snoc {c d : UInt8} : ∀ {x y : List UInt8}, x.length = y.length → Op.bytesLess x y = true → Op.bytesLess (x ++ [c]) (y ++ [d]) = true
  | [], [], _, h => by simp [Op.bytesLess] at h
  | [], _ :: _, hl, _ => by simp at hl
  | _ :: _, [], hl, _ => by simp at hl
  | a :: x, b :: y, hl, h => by
    simp only [Op.bytesLess, Bool.or_eq_true, decide_eq_true_eq, Bool.and_eq_true, beq_iff_eq, List.cons_append] at h ⊢
    rcases h with h | ⟨h1, h2⟩
    · exact .inl h
    · exact .inr ⟨h1, bl_snoc (by simpa using hl) h2⟩
theorem bl_last {c d : UInt8} (h : c < d) : ∀ {x : List UInt8}, Op.bytesLess (x ++ [c]) (x ++ [d]) = true
  | [] => by simp [Op.bytesLess, h]
  | a :: x => by simp [Op.bytesLess, bl_last h]
theorem ordL_snoc {c d : UInt8} {x y : List UInt8} (h : ordL x y = true) : ordL (x ++ [c]) (y ++ [d]) = true := by
  rw [ordL_true] at h ⊢
  simp only [List.length_append, List.length_singleton]
  rcases h with h | ⟨h1, h2⟩
  · exact .inl (by omega)
  · exact .inr ⟨by omega, bl_snoc h1 h2⟩
theorem ordL_last {c d : UInt8} {x : List UInt8} (h : c < d) : ordL (x ++ [c]) (x ++ [d]) = true := by
  rw [ordL_true]
  exact .inr ⟨by simp, bl_last h⟩
theorem ordL_le {s t : List UInt8} (h : ordL s t = true) : s.length ≤ t.length := by
  rw [ordL_true] at h
  omega
theorem dig_lt {i j : Nat} (h : i < j) (hj : j < 10) : UInt8.ofNat (48 + i) < UInt8.ofNat (48 + j) := by
  rw [UInt8.lt_iff_toNat_lt]; simp; omega
theorem dec_lt (b : Nat) : ∀ a, a < b → ordL (decDigits a) (decDigits b) = true := by
  induction b using Nat.strongRecOn with
  | _ b ih =>
    intro a hab
    by_cases hb : b < 10
    · rw [dec_small hb, dec_small (by omega : a < 10)]
      exact ordL_last (x := []) (dig_lt hab hb)
    · rw [dec_big hb]
      by_cases ha : a < 10
      · rw [dec_small ha, ordL_true]
        have := dec_pos (b / 10)
        exact .inl (by simp; omega)
      · rw [dec_big ha]
        by_cases hq : a / 10 < b / 10
        · exact ordL_snoc (ih _ (by omega) _ hq)
        · rw [show a / 10 = b / 10 by omega]
          exact ordL_last (dig_lt (by omega) (by omega))
theorem ltr_lt (g : UInt8 → UInt8) (hg : ∀ i j : Nat, i < j → j < 26 → g (UInt8.ofNat (97 + i)) < g (UInt8.ofNat (97 + j))) (b : Nat) : ∀ a, a < b → ordL ((ltr a).map g) ((ltr b).map g) = true := by
  induction b using Nat.strongRecOn with
  | _ b ih =>
    intro a hab
    cases b with
    | zero => omega
    | succ b =>
      rw [ltr_succ, List.map_append]
      cases a with
      | zero => rw [ltr_zero, ordL_true]; exact .inl (by simp)
      | succ a =>
        rw [ltr_succ, List.map_append]
        by_cases hq : a / 26 < b / 26
        · exact ordL_snoc (ih _ (by omega) _ hq)
        · rw [show a / 26 = b / 26 by omega]
          exact ordL_last (hg _ _ (by omega) (by omega))
theorem ord_all {f : Nat → List UInt8} (h : ∀ b a, a < b → ordL (f a) (f b) = true) (a b : Nat) : ordL (f a) (f b) = decide (a < b) := by
  by_cases h1 : a < b
  · rw [h b a h1, decide_eq_true h1]
  · rw [decide_eq_false h1]
    by_cases h2 : a = b
    · subst h2; exact ordL_irr _
    · exact ordL_asym (h a b (by omega))
theorem let_lt {i j : Nat} (h : i < j) (hj : j < 26) : UInt8.ofNat (97 + i) < UInt8.ofNat (97 + j) := by
  rw [UInt8.lt_iff_toNat_lt]; simp; omega
theorem upp_lt {i j : Nat} (h : i < j) (hj : j < 26) : upperB (UInt8.ofNat (97 + i)) < upperB (UInt8.ofNat (97 + j)) := by
  have h1 := (letter_or ⟨i, by omega⟩).2.2.2
  have h2 := (letter_or ⟨j, hj⟩).2.2.2
  simp only at h1 h2
  rw [UInt8.lt_iff_toNat_lt, h1, h2]
  omega
theorem text_ord {f : Int} (hf : f = 1 ∨ f = 2 ∨ f = 3) (a b : Nat) : ordL (textF f a) (textF f b) = decide (a < b) := by
  rcases hf with rfl | rfl | rfl
  · exact ord_all (f := decDigits) dec_lt a b
  · exact ord_all (f := ltr) (fun b a h => by have := ltr_lt (fun x => x) (fun i j h1 h2 => let_lt h1 h2) b a h; rwa [map_id', map_id'] at this) a b
  · exact ord_all (f := fun n => upper (ltr n)) (fun b a h => ltr_lt upperB (fun i j h1 h2 => upp_lt h1 h2) b a h) a b
theorem Ev_slss {P : Program} {e : Env} {H : Hp} {R : Own} {dst : Option Tmp} {ty : TypeId} {pos : String} {after : Array Edge} {g : Option (Nat × Bool)} {x y : Operand} {t t2 : TypeId} {s s2 : List UInt8} (hx : e.eval x = some (sv s)) (hy : e.eval y = some (sv s2)) : Ev P ⟨dst, .binOp .lss t x y t2, ty, pos, after, g⟩ e H R (.bool (Op.bytesLess s s2)) := fun a w he _ _ => by
  simp only [execOp, he.eval hx, he.eval hy, eqGuard_at_string, binOp_string_lss, Sem.run_bind, Sem.run_pure, Result.andThen_ok, ByteArray.toList_mk]
attribute [local irreducible] wpA opsA drJ drQ drE Ef Ev Shift Fn
def fmt3 : List (List Value) := [[.int .i64 1], [.int .i64 2], [.int .i64 3]]
set_option maxRecDepth 100000 in
set_option maxHeartbeats 4000000 in
theorem NumeralOrders_fn {H : Hp} (hE : EnvH H) (a b : Int) : Fn Tryd.prog 6 [.int .i64 a, .int .i64 b] H [] fun v _ I => v = .bool true ∧ I = [] := by
  have hk := known_fn hE
  have h3 := fun Hx (hx : HLe H Hx) f n => Format_fn (hE.mono hx) f n
  unfold fmtV at h3
  refine Fn_of _ _ Tryd.func6 rfl Tryd.ntmps6 rfl fun c => ?_
  repeat' (first | (refine O_ef rfl (Ef_call (I := []) WideF.wide hk trivial rfl ?_); rintro v H1 I1 hle1 ⟨rfl, rfl⟩) | (refine O_ef rfl (Ef_buildn WideF.wide (k := 1) (xs := [_, _, _]) (vs := [_, _, _]) rfl ⟨rfl, rfl, rfl, trivial⟩ rfl rfl rfl rfl rfl rfl ?_); intro bb) | refine O_nil ?_ | refine A_seq ?_ | refine A_region ?_ | refine A_skip ?_ | refine A_block ?_ | (show opsA _ _ _ _ _ _ _; first | refine O_ev WideF.wide rfl (Ev_pure rfl) rfl rfl ?_ | (show opsA _ _ _ _ (⟨_, .call _, _, _, _, _⟩ :: _) _ _; refine O_ev WideF.wide rfl (Ev_llen rfl) rfl rfl ?_) | (show opsA _ _ _ _ (⟨_, .unOp _ _ _, _, _, _, _⟩ :: _) _ _; refine O_ev WideF.wide rfl (Ev_notb rfl) rfl rfl ?_)) | (show wpA _ _ _ (.cond _ _ _) _ _ _ _; refine A_iffalse rfl ?_))
  refine A_freeze (css := fmt3) (ones_of rfl) ?_
  intro H2 hle2 rr
  refine A_loopu (fun m st => ∃ (i : Nat) (H3 : Hp) (pa : Option Addr), m = 3 - i ∧ i ≤ 3 ∧ HLe H H3 ∧ HRow H3 pa 3 3 1 fmt3 ∧ st = ⟨61, [(0, .int .i64 a), (1, .int .i64 b), (14, .slice pa 3 3), (15, .int .i64 3), (16, .int .i64 (i : Int))], H3, [], [], []⟩) ?_ ?_
  · exact Shift.to ⟨_, 0, H2, _, rfl, by omega, hle1.trans hle2, rr, rfl⟩ ⟨rfl, rfl, rfl, ⟨rfl, rfl, rfl, rfl, rfl, trivial⟩, Own.sub_nil _⟩
  · rintro m st ⟨i, H3, pa, rfl, hi, hle, rr, rfl⟩
    by_cases hlt : i < 3
    · obtain ⟨bv, ov, x, rfl, hx, hcv⟩ := HRow.atm (f := fun f : Int => [Value.int .i64 f]) (l := [1, 2, 3]) rr i hlt
      have hf : x = 1 ∨ x = 2 ∨ x = 3 := by
        rcases (by omega : i = 0 ∨ i = 1 ∨ i = 2) with rfl | rfl | rfl <;> (simp at hx; omega)
      have hcv : HCells H3 bv (ov + i * 1) [.int .i64 x] := hcv
      have h4 := h3 _ hle x a
      have h5 := fun Hx hx => h3 Hx hx x b
      have hstep : HRow H3 (some ⟨bv, ov, none⟩) 3 3 1 fmt3 := rr
      by_cases hin : inF x a ∧ inF x b
      · obtain ⟨ia, ib⟩ := hin
        have na := inF_nat ia
        have nb := inF_nat ib
        obtain ⟨A, rfl⟩ : ∃ N : Nat, a = N := ⟨a.toNat, by omega⟩
        obtain ⟨B, rfl⟩ : ∃ N : Nat, b = N := ⟨b.toNat, by omega⟩
        rw [fmtE_in ia.1 ia.2] at h4
        rw [fmtE_in ib.1 ib.2] at h5
        dsimp only at h4 h5
        have hord := text_ord hf A B
        have hla := text_len ia
        have hlb := text_len ib
        have hcast : decide ((A : Int) < (B : Int)) = decide (A < B) := by simp
        rw [← hcast] at hord
        generalize textF x A = s at *
        generalize textF x B = t at *
        rcases Nat.lt_trichotomy s.length t.length with hl | hl | hl
        · have hdec : decide ((A : Int) < (B : Int)) = true := by rw [← hord, ordL_true]; exact .inl hl
          repeat' (first | (refine O_ev WideF.wide rfl (Ev_loadH1 rfl (hcv 0 _ rfl)) rfl rfl ?_) | (refine O_ef rfl (Ef_call (I := []) WideF.wide h4 ⟨rfl, rfl, trivial⟩ rfl ?_); rintro v H4 I4 hle4 ⟨rfl, rfl⟩) | (refine O_ef rfl (Ef_call (I := []) WideF.wide (h5 _ (hle.trans hle4)) ⟨rfl, rfl, trivial⟩ rfl ?_); rintro v H5 I5 hle5 ⟨rfl, rfl⟩) | (refine O_ev WideF.wide rfl (Ev_lss rfl rfl) rfl rfl ?_; rw [hdec]) | (refine O_ev WideF.wide rfl (Ev_nebs rfl rfl) rfl rfl ?_) | refine O_nil ?_ | refine A_seq ?_ | refine A_region ?_ | refine A_skip ?_ | refine A_block ?_ | (show opsA _ _ _ _ _ _ _; first | (refine O_split rfl rfl (fun h => ?_) (fun h => ?_) <;> try (exfalso; omega)) | refine O_ev WideF.wide rfl (Ev_pure rfl) rfl rfl ?_ | (show opsA _ _ _ _ (⟨_, .indexAddr _ _ _, _, _, _, _⟩ :: _) _ _; refine O_ev WideF.wide rfl (Ev_indexAddr rfl rfl (by omega) (by omega)) rfl rfl ?_) | (show opsA _ _ _ _ (⟨_, .call _, _, _, _, _⟩ :: _) _ _; refine O_ev WideF.wide rfl (Ev_slen rfl) rfl rfl ?_) | (show opsA _ _ _ _ (⟨_, .binOp _ _ _ _ _, _, _, _, _⟩ :: _) _ _; refine O_ev WideF.wide rfl (Ev_add rfl rfl (wi64 (by omega))) rfl rfl ?_) | refine O_skip WideF.wide rfl rfl rfl ?_) | (show wpA _ _ _ (.cond _ _ _) _ _ _ _; first | (refine A_if rfl (fun h => ?_) (fun h => ?_) <;> try (exfalso; omega)) | refine A_iffalse rfl ?_))
          all_goals first
            | (exfalso; omega)
            | (refine Shift.to ⟨_, ?_, i + 1, H5, _, rfl, by omega, (hle.trans hle4).trans hle5, (hstep.mono hle4).mono hle5, rfl⟩ ⟨rfl, rfl, rfl, ⟨rfl, rfl, rfl, rfl, rfl, trivial⟩, Own.sub_nil _⟩
               omega)
        · have hdec : decide ((A : Int) < (B : Int)) = Op.bytesLess s t := by rw [← hord]; simp [ordL, hl]
          repeat' (first | (refine O_ev WideF.wide rfl (Ev_loadH1 rfl (hcv 0 _ rfl)) rfl rfl ?_) | (refine O_ef rfl (Ef_call (I := []) WideF.wide h4 ⟨rfl, rfl, trivial⟩ rfl ?_); rintro v H4 I4 hle4 ⟨rfl, rfl⟩) | (refine O_ef rfl (Ef_call (I := []) WideF.wide (h5 _ (hle.trans hle4)) ⟨rfl, rfl, trivial⟩ rfl ?_); rintro v H5 I5 hle5 ⟨rfl, rfl⟩) | (refine O_ev WideF.wide rfl (Ev_slss rfl rfl) rfl rfl ?_) | (refine O_ev WideF.wide rfl (Ev_lss rfl rfl) rfl rfl ?_; rw [hdec]) | (refine O_ev WideF.wide rfl (Ev_nebs rfl rfl) rfl rfl ?_) | refine O_nil ?_ | refine A_seq ?_ | refine A_region ?_ | refine A_skip ?_ | refine A_block ?_ | (show opsA _ _ _ _ _ _ _; first | (refine O_split rfl rfl (fun h => ?_) (fun h => ?_) <;> try (exfalso; omega)) | refine O_ev WideF.wide rfl (Ev_pure rfl) rfl rfl ?_ | (show opsA _ _ _ _ (⟨_, .indexAddr _ _ _, _, _, _, _⟩ :: _) _ _; refine O_ev WideF.wide rfl (Ev_indexAddr rfl rfl (by omega) (by omega)) rfl rfl ?_) | (show opsA _ _ _ _ (⟨_, .call _, _, _, _, _⟩ :: _) _ _; refine O_ev WideF.wide rfl (Ev_slen rfl) rfl rfl ?_) | (show opsA _ _ _ _ (⟨_, .binOp _ _ _ _ _, _, _, _, _⟩ :: _) _ _; refine O_ev WideF.wide rfl (Ev_add rfl rfl (wi64 (by omega))) rfl rfl ?_)) | (show wpA _ _ _ (.cond _ _ _) _ _ _ _; first | (refine A_if rfl (fun h => ?_) (fun h => ?_) <;> try (exfalso; omega)) | refine A_iffalse rfl ?_))
          all_goals first
            | (exfalso; omega)
            | (refine Shift.to ⟨_, ?_, i + 1, H5, _, rfl, by omega, (hle.trans hle4).trans hle5, (hstep.mono hle4).mono hle5, rfl⟩ ⟨rfl, rfl, rfl, ⟨rfl, rfl, rfl, rfl, rfl, trivial⟩, Own.sub_nil _⟩
               omega)
        · have hdec : decide ((A : Int) < (B : Int)) = false := by
            rw [← hord, Bool.eq_false_iff, ne_eq, ordL_true]
            omega
          repeat' (first | (refine O_ev WideF.wide rfl (Ev_loadH1 rfl (hcv 0 _ rfl)) rfl rfl ?_) | (refine O_ef rfl (Ef_call (I := []) WideF.wide h4 ⟨rfl, rfl, trivial⟩ rfl ?_); rintro v H4 I4 hle4 ⟨rfl, rfl⟩) | (refine O_ef rfl (Ef_call (I := []) WideF.wide (h5 _ (hle.trans hle4)) ⟨rfl, rfl, trivial⟩ rfl ?_); rintro v H5 I5 hle5 ⟨rfl, rfl⟩) | (refine O_ev WideF.wide rfl (Ev_lss rfl rfl) rfl rfl ?_; rw [hdec]) | (refine O_ev WideF.wide rfl (Ev_nebs rfl rfl) rfl rfl ?_) | refine O_nil ?_ | refine A_seq ?_ | refine A_region ?_ | refine A_skip ?_ | refine A_block ?_ | (show opsA _ _ _ _ _ _ _; first | (refine O_split rfl rfl (fun h => ?_) (fun h => ?_) <;> try (exfalso; omega)) | refine O_ev WideF.wide rfl (Ev_pure rfl) rfl rfl ?_ | (show opsA _ _ _ _ (⟨_, .indexAddr _ _ _, _, _, _, _⟩ :: _) _ _; refine O_ev WideF.wide rfl (Ev_indexAddr rfl rfl (by omega) (by omega)) rfl rfl ?_) | (show opsA _ _ _ _ (⟨_, .call _, _, _, _, _⟩ :: _) _ _; refine O_ev WideF.wide rfl (Ev_slen rfl) rfl rfl ?_) | (show opsA _ _ _ _ (⟨_, .binOp _ _ _ _ _, _, _, _, _⟩ :: _) _ _; refine O_ev WideF.wide rfl (Ev_add rfl rfl (wi64 (by omega))) rfl rfl ?_) | refine O_skip WideF.wide rfl rfl rfl ?_) | (show wpA _ _ _ (.cond _ _ _) _ _ _ _; first | (refine A_if rfl (fun h => ?_) (fun h => ?_) <;> try (exfalso; omega)) | refine A_iffalse rfl ?_))
          all_goals first
            | (exfalso; omega)
            | (refine Shift.to ⟨_, ?_, i + 1, H5, _, rfl, by omega, (hle.trans hle4).trans hle5, (hstep.mono hle4).mono hle5, rfl⟩ ⟨rfl, rfl, rfl, ⟨rfl, rfl, rfl, rfl, rfl, trivial⟩, Own.sub_nil _⟩
               omega)
      · have hne : (fmtE x a).2 ≠ 0 ∨ (fmtE x b).2 ≠ 0 := by
          by_cases h0 : (fmtE x a).2 = 0
          · right
            intro h1
            exact hin ⟨(fmtE_ok (s := (fmtE x a).1).1 (Prod.ext rfl h0)).1, (fmtE_ok (s := (fmtE x b).1).1 (Prod.ext rfl h1)).1⟩
          · exact .inl h0
        repeat' (first | (refine O_ev WideF.wide rfl (Ev_loadH1 rfl (hcv 0 _ rfl)) rfl rfl ?_) | (refine O_ef rfl (Ef_call (I := []) WideF.wide h4 ⟨rfl, rfl, trivial⟩ rfl ?_); rintro v H4 I4 hle4 ⟨rfl, rfl⟩) | (refine O_ef rfl (Ef_call (I := []) WideF.wide (h5 _ (hle.trans hle4)) ⟨rfl, rfl, trivial⟩ rfl ?_); rintro v H5 I5 hle5 ⟨rfl, rfl⟩) | refine O_nil ?_ | refine A_seq ?_ | refine A_region ?_ | refine A_skip ?_ | refine A_block ?_ | (show opsA _ _ _ _ _ _ _; first | (refine O_split rfl rfl (fun h => ?_) (fun h => ?_) <;> try (exfalso; omega)) | refine O_ev WideF.wide rfl (Ev_pure rfl) rfl rfl ?_ | (show opsA _ _ _ _ (⟨_, .indexAddr _ _ _, _, _, _, _⟩ :: _) _ _; refine O_ev WideF.wide rfl (Ev_indexAddr rfl rfl (by omega) (by omega)) rfl rfl ?_) | (show opsA _ _ _ _ (⟨_, .binOp _ _ _ _ _, _, _, _, _⟩ :: _) _ _; refine O_ev WideF.wide rfl (Ev_add rfl rfl (wi64 (by omega))) rfl rfl ?_) | refine O_skip WideF.wide rfl rfl rfl ?_) | (show wpA _ _ _ (.exit _) _ _ _ _; refine A_exit rfl ?_) | (show wpA _ _ _ (.cond _ _ _) _ _ _ _; first | (refine A_if rfl (fun h => ?_) (fun h => ?_) <;> try (exfalso; omega)) | refine A_iftrue rfl ?_))
        all_goals first
          | (exfalso; omega)
          | (refine Shift.to ⟨_, ?_, i + 1, H5, _, rfl, by omega, (hle.trans hle4).trans hle5, (hstep.mono hle4).mono hle5, rfl⟩ ⟨rfl, rfl, rfl, ⟨rfl, rfl, rfl, rfl, rfl, trivial⟩, Own.sub_nil _⟩
             omega)
    · repeat' (first | refine O_nil ?_ | refine A_seq ?_ | refine A_region ?_ | refine A_ret ?_ | (show opsA _ _ _ _ _ _ _; refine O_ev WideF.wide rfl (Ev_pure rfl) rfl rfl ?_) | (show wpA _ _ _ (.exit _) _ _ _ _; refine A_exit rfl ?_) | (show wpA _ _ _ (.cond _ _ _) _ _ _ _; (refine A_if rfl (fun h => ?_) (fun h => ?_) <;> try (exfalso; omega))))
      all_goals first
        | (exfalso; omega)
        | exact End_e (Ret1 rfl rfl) ⟨rfl, rfl⟩
end Go.Proofs.YtaehbjmimnjggaaDoor
