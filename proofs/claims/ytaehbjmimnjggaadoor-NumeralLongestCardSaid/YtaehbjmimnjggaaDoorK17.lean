/-
  NumeralLongest.
-/
import Derived.Test.YtaehbjmimnjggaaDoorK16
namespace Go.Proofs.YtaehbjmimnjggaaDoor
open Go Go.Lib
set_option linter.unusedVariables false
set_option linter.unusedSimpArgs false
/-- the first one of the longest numerals from lo up to below hi -/
def Best (f : Int) (lo hi j : Nat) : Prop := lo ≤ j ∧ j < hi ∧ (∀ i, lo ≤ i → i < hi → (textF f i).length ≤ (textF f j).length) ∧ ∀ i, lo ≤ i → i < j → (textF f i).length < (textF f j).length
theorem Best.uniq {f : Int} {lo hi j j' : Nat} (h : Best f lo hi j) (h' : Best f lo hi j') : j = j' := by
  obtain ⟨a1, a2, a3, a4⟩ := h
  obtain ⟨b1, b2, b3, b4⟩ := h'
  rcases Nat.lt_trichotomy j j' with hl | hl | hl
  · have := b4 j a1 hl; have := a3 j' b1 b2; omega
  · exact hl
  · have := a4 j' b1 hl; have := b3 j a1 a2; omega
/-- what a scan has found before hi -/
def Scan (f : Int) (lo hi : Nat) (w : List UInt8) : Prop := (hi = lo ∧ w = []) ∨ ∃ j, Best f lo hi j ∧ w = textF f j
theorem Scan.hit {f : Int} {lo hi : Nat} {w : List UInt8} (h : Scan f lo hi w) (hl : lo ≤ hi) (hb : w.length < (textF f hi).length) : Scan f lo (hi + 1) (textF f hi) := by
  refine .inr ⟨hi, ⟨hl, by omega, fun i h1 h2 => ?_, fun i h1 h2 => ?_⟩, rfl⟩
  · rcases h with ⟨rfl, rfl⟩ | ⟨j, ⟨c1, c2, c3, c4⟩, rfl⟩
    · rw [show i = hi by omega]; exact Nat.le_refl _
    · by_cases hi2 : i = hi
      · rw [hi2]; exact Nat.le_refl _
      · have := c3 i h1 (by omega); omega
  · rcases h with ⟨rfl, rfl⟩ | ⟨j, ⟨c1, c2, c3, c4⟩, rfl⟩
    · omega
    · have := c3 i h1 (by omega); omega
theorem Scan.miss {f : Int} {lo hi : Nat} {w : List UInt8} (h : Scan f lo hi w) (hl : lo ≤ hi) (hp : 0 < (textF f hi).length) (hb : ¬ w.length < (textF f hi).length) : Scan f lo (hi + 1) w := by
  rcases h with ⟨rfl, rfl⟩ | ⟨j, ⟨c1, c2, c3, c4⟩, rfl⟩
  · simp at hb; rw [hb] at hp; simp at hp
  · refine .inr ⟨j, ⟨c1, by omega, fun i h1 h2 => ?_, c4⟩, rfl⟩
    by_cases hi2 : i = hi
    · rw [hi2]; omega
    · exact c3 i h1 (by omega)
theorem Scan.best {f : Int} {lo hi : Nat} {w : List UInt8} (h : Scan f lo hi w) (hl : lo < hi) : ∃ j, Best f lo hi j ∧ w = textF f j := by
  rcases h with ⟨rfl, _⟩ | h
  · omega
  · exact h
theorem Scan.len {f : Int} {lo hi : Nat} {w : List UInt8} (h : Scan f lo hi w) (hf : ∀ i, lo ≤ i → i < hi → (textF f i).length ≤ 15) : w.length ≤ 15 := by
  rcases h with ⟨_, rfl⟩ | ⟨j, ⟨c1, c2, _⟩, rfl⟩
  · simp
  · exact hf j c1 c2
theorem len_mono {f : Int} (h4 : f ≠ 4) (h5 : f ≠ 5) (hok : okF f) {a b : Nat} (h : a ≤ b) : (textF f a).length ≤ (textF f b).length := by
  by_cases he : a = b
  · rw [he]; exact Nat.le_refl _
  have hlt : a < b := by omega
  have hord : ∀ g : Int, (g = 1 ∨ g = 2 ∨ g = 3) → (textF g a).length ≤ (textF g b).length := fun g hg => ordL_le (by rw [text_ord hg]; exact decide_eq_true hlt)
  rcases okF_cases hok with rfl | rfl | rfl | rfl | rfl | rfl | rfl
  · exact hord 1 (.inl rfl)
  · exact hord 2 (.inr (.inl rfl))
  · exact hord 3 (.inr (.inr rfl))
  · exact absurd rfl h4
  · exact absurd rfl h5
  · have := hord 1 (.inl rfl)
    show (decDigits a ++ ending a).length ≤ (decDigits b ++ ending b).length
    rw [List.length_append, List.length_append, ending_len, ending_len]
    exact Nat.add_le_add_right this 2
  · exact Nat.le_refl _
def loN (f : Int) : Nat := if f = 1 then 0 else 1
theorem loN_eq (f : Int) : ((loN f : Nat) : Int) = loF f := by unfold loN loF; split <;> rfl
theorem in_of {f : Int} {m i : Nat} (h : inF f m) (h1 : loN f ≤ i) (h2 : i ≤ m) : inF f i := by
  have := loN_eq f
  exact ⟨h.1, by omega, by have := h.2.2; omega⟩
def LongIs (f : Int) (m : Nat) (v : Value) : Prop := ∃ j, Best f (loN f) (m + 1) j ∧ v = sv (textF f j)
attribute [local irreducible] wpA opsA drJ drQ drE Ef Ev Shift Fn
set_option maxRecDepth 100000 in
set_option maxHeartbeats 2000000 in
theorem longest_fn {H : Hp} (hE : EnvH H) {f : Int} {m : Nat} (hin : inF f m) (h4 : f ≠ 4) (h5 : f ≠ 5) : Fn Tryd.prog 32 [.int .i64 f, .int .i64 (loN f : Nat), .int .i64 m] H [] fun v _ I => LongIs f m v ∧ I = [] := by
  have hlo : loN f ≤ m := by have := loN_eq f; have := hin.2.1; omega
  have hb := inF_nat hin
  have h3 := fun Hx (hx : HLe H Hx) i (h1 : loN f ≤ i) (h2 : i ≤ m) => (show Fn Tryd.prog 14 [.int .i64 f, .int .i64 ((i : Nat) : Int)] Hx [] fun v _ I => v = .tuple [sv (textF f i), .int .i64 0].toArray ∧ I = [] by
    have h := Format_fn (hE.mono hx) f i
    unfold fmtV at h
    rw [fmtE_in hin.1 (in_of hin h1 h2).2] at h
    exact h)
  have hm := text_len hin
  have h6 := h3 _ (HLe.refl _) m hlo (Nat.le_refl _)
  generalize hq : loN f = q at *
  refine Fn_of _ _ Tryd.func32 rfl Tryd.ntmps32 rfl fun c => ?_
  repeat' (first | (refine O_ef rfl (Ef_call (I := []) WideF.wide h6 ⟨rfl, rfl, trivial⟩ rfl ?_); rintro v H1 I1 hle1 ⟨rfl, rfl⟩) | refine O_nil ?_ | refine A_seq ?_ | refine A_region ?_ | refine A_block ?_ | (show opsA _ _ _ _ _ _ _; refine O_ev WideF.wide rfl (Ev_pure rfl) rfl rfl ?_))
  refine A_loopu (fun t st => ∃ (lo hi : Nat) (H2 : Hp), t = hi - lo ∧ q ≤ lo ∧ lo ≤ hi ∧ hi ≤ m ∧ (∀ i, q ≤ i → i < lo → (textF f i).length < (textF f m).length) ∧ (textF f hi).length = (textF f m).length ∧ HLe H H2 ∧ st = ⟨54, [(0, .int .i64 f), (7, sv (textF f m)), (9, .int .i64 (lo : Int)), (10, .int .i64 (hi : Int))], H2, [], [], []⟩) ?_ ?_
  · exact Shift.to ⟨_, q, m, H1, rfl, Nat.le_refl _, hlo, Nat.le_refl _, fun i h1 h2 => by omega, rfl, hle1, rfl⟩ ⟨rfl, rfl, rfl, ⟨rfl, rfl, rfl, rfl, trivial⟩, Own.sub_nil _⟩
  · rintro t st ⟨lo, hi, H2, rfl, hql, hlh, hhm, hsm, heq, hle, rfl⟩
    by_cases hlt : lo < hi
    · have hmid : (lo : Int) + ((hi : Int) - lo) / 2 = ((lo + (hi - lo) / 2 : Nat) : Int) := by omega
      have hm1 : lo ≤ lo + (hi - lo) / 2 ∧ lo + (hi - lo) / 2 < hi := by omega
      generalize lo + (hi - lo) / 2 = mid at *
      have h7 := h3 _ hle mid (by omega) (by omega)
      have htl := text_len (in_of hin (i := mid) (by omega) (by omega))
      by_cases hc : (textF f mid).length < (textF f m).length
      · repeat' (first | (refine O_ev WideF.wide rfl (Ev_add rfl rfl (wi64 (by omega))) rfl rfl ?_; rw [hmid]) | (refine O_ef rfl (Ef_call (I := []) WideF.wide h7 ⟨rfl, rfl, trivial⟩ rfl ?_); rintro v H3 I3 hle3 ⟨rfl, rfl⟩) | refine O_nil ?_ | refine A_seq ?_ | refine A_region ?_ | refine A_skip ?_ | refine A_block ?_ | (show opsA _ _ _ _ _ _ _; first | refine O_ev WideF.wide rfl (Ev_pure rfl) rfl rfl ?_ | (show opsA _ _ _ _ (⟨_, .call _, _, _, _, _⟩ :: _) _ _; refine O_ev WideF.wide rfl (Ev_slen rfl) rfl rfl ?_) | (show opsA _ _ _ _ (⟨_, .binOp _ _ _ _ _, _, _, _, _⟩ :: _) _ _; first | refine O_ev WideF.wide rfl (Ev_add rfl rfl (wi64 (by omega))) rfl rfl ?_ | refine O_ev WideF.wide rfl (Ev_sub rfl rfl (wi64 (by omega))) rfl rfl ?_ | refine O_ev WideF.wide rfl (Ev_quop rfl rfl (by omega) (by omega)) rfl rfl ?_)) | (show wpA _ _ _ (.cond _ _ _) _ _ _ _; (refine A_if rfl (fun h => ?_) (fun h => ?_) <;> try (exfalso; omega))))
        all_goals first
          | (exfalso; omega)
          | (refine Shift.to ⟨_, ?_, mid + 1, hi, H3, rfl, by omega, by omega, hhm, fun i h1 h2 => ?_, heq, hle.trans hle3, rfl⟩ ⟨rfl, rfl, rfl, ⟨rfl, rfl, rfl, rfl, trivial⟩, Own.sub_nil _⟩
             · omega
             · have := len_mono h4 h5 hin.1 (show i ≤ mid by omega); omega)
      · have hmm := len_mono h4 h5 hin.1 (show mid ≤ m by omega)
        repeat' (first | (refine O_ev WideF.wide rfl (Ev_add rfl rfl (wi64 (by omega))) rfl rfl ?_; rw [hmid]) | (refine O_ef rfl (Ef_call (I := []) WideF.wide h7 ⟨rfl, rfl, trivial⟩ rfl ?_); rintro v H3 I3 hle3 ⟨rfl, rfl⟩) | refine O_nil ?_ | refine A_seq ?_ | refine A_region ?_ | refine A_skip ?_ | refine A_block ?_ | (show opsA _ _ _ _ _ _ _; first | refine O_ev WideF.wide rfl (Ev_pure rfl) rfl rfl ?_ | (show opsA _ _ _ _ (⟨_, .call _, _, _, _, _⟩ :: _) _ _; refine O_ev WideF.wide rfl (Ev_slen rfl) rfl rfl ?_) | (show opsA _ _ _ _ (⟨_, .binOp _ _ _ _ _, _, _, _, _⟩ :: _) _ _; first | refine O_ev WideF.wide rfl (Ev_sub rfl rfl (wi64 (by omega))) rfl rfl ?_ | refine O_ev WideF.wide rfl (Ev_quop rfl rfl (by omega) (by omega)) rfl rfl ?_)) | (show wpA _ _ _ (.cond _ _ _) _ _ _ _; (refine A_if rfl (fun h => ?_) (fun h => ?_) <;> try (exfalso; omega))))
        all_goals first
          | (exfalso; omega)
          | (refine Shift.to ⟨_, ?_, lo, mid, H3, rfl, by omega, by omega, by omega, hsm, by omega, hle.trans hle3, rfl⟩ ⟨rfl, rfl, rfl, ⟨rfl, rfl, rfl, rfl, trivial⟩, Own.sub_nil _⟩
             omega)
    · have : lo = hi := by omega
      subst this
      have h7 := h3 _ hle lo hql hhm
      repeat' (first | (refine O_ef rfl (Ef_call (I := []) WideF.wide h7 ⟨rfl, rfl, trivial⟩ rfl ?_); rintro v H3 I3 hle3 ⟨rfl, rfl⟩) | refine O_nil ?_ | refine A_seq ?_ | refine A_region ?_ | refine A_ret ?_ | (show opsA _ _ _ _ _ _ _; refine O_ev WideF.wide rfl (Ev_pure rfl) rfl rfl ?_) | (show wpA _ _ _ (.exit _) _ _ _ _; refine A_exit rfl ?_) | (show wpA _ _ _ (.cond _ _ _) _ _ _ _; (refine A_if rfl (fun h => ?_) (fun h => ?_) <;> try (exfalso; omega))))
      all_goals first
        | (exfalso; omega)
        | (refine End_e (Ret1 rfl rfl) ⟨⟨lo, ⟨by omega, by omega, fun i h1 h2 => ?_, fun i h1 h2 => ?_⟩, rfl⟩, rfl⟩
           · have := len_mono h4 h5 hin.1 (show i ≤ m by omega); omega
           · have := hsm i (by omega) h2; omega)
set_option maxRecDepth 100000 in
set_option maxHeartbeats 2000000 in
theorem Longest_in {H : Hp} (hE : EnvH H) {f : Int} {m : Nat} (hin : inF f m) : Fn Tryd.prog 23 [.int .i64 f, .int .i64 m] H [] fun v _ I => (∃ j, Best f (loN f) (m + 1) j ∧ v = .tuple [sv (textF f j), .int .i64 0].toArray) ∧ I = [] := by
  have hb := inF_nat hin
  have hlo : loN f ≤ m := by have := loN_eq f; have := hin.2.1; omega
  have h2 := fun Hx => Range_fn (H := Hx) (f := f)
  unfold rangeV at h2
  rw [if_pos hin.1, if_pos hin.1, if_pos hin.1, ← loN_eq] at h2
  have h3 := fun Hx (hx : HLe H Hx) i (h1 : loN f ≤ i) (h2 : i ≤ m) => (show Fn Tryd.prog 14 [.int .i64 f, .int .i64 ((i : Nat) : Int)] Hx [] fun v _ I => v = .tuple [sv (textF f i), .int .i64 0].toArray ∧ I = [] by
    have h := Format_fn (hE.mono hx) f i
    unfold fmtV at h
    rw [fmtE_in hin.1 (in_of hin h1 h2).2] at h
    exact h)
  have h6 := h3 _ (HLe.refl _) m hlo (Nat.le_refl _)
  by_cases hr : f = 4 ∨ f = 5
  · refine Fn_of _ _ Tryd.func23 rfl Tryd.ntmps23 rfl fun c => ?_
    repeat' (first | (refine O_ef rfl (Ef_call (I := []) WideF.wide h6 ⟨rfl, rfl, trivial⟩ rfl ?_); rintro v H1 I1 hle1 ⟨rfl, rfl⟩) | (refine O_ef rfl (Ef_callp WideF.wide (h2 _) ⟨rfl, trivial⟩ rfl ?_)) | refine O_nil ?_ | refine A_seq ?_ | refine A_region ?_ | refine A_skip ?_ | refine A_block ?_ | (show opsA _ _ _ _ _ _ _; first | (refine O_split rfl rfl (fun h => ?_) (fun h => ?_) <;> try (exfalso; omega)) | refine O_ev WideF.wide rfl (Ev_pure rfl) rfl rfl ?_ | refine O_skip WideF.wide rfl rfl rfl ?_) | (show wpA _ _ _ (.cond _ _ _) _ _ _ _; first | (refine A_if rfl (fun h => ?_) (fun h => ?_) <;> try (exfalso; omega)) | refine A_iffalse rfl ?_))
    all_goals try (exfalso; omega)
    all_goals
      refine A_loopu (fun t st => ∃ (k : Nat) (w : List UInt8) (H2 : Hp), t = m + 1 - k ∧ loN f ≤ k ∧ k ≤ m + 1 ∧ Scan f (loN f) k w ∧ HLe H H2 ∧ st = ⟨59, [(0, .int .i64 f), (1, .int .i64 (m : Int)), (11, sv w), (12, .int .i64 (k : Int))], H2, [], [], []⟩) ?_ ?_
      · exact Shift.to ⟨_, loN f, [], H1, rfl, Nat.le_refl _, by omega, .inl ⟨rfl, rfl⟩, hle1, rfl⟩ ⟨rfl, rfl, rfl, ⟨rfl, rfl, rfl, rfl, trivial⟩, Own.sub_nil _⟩
      · rintro t st ⟨k, w, H2, rfl, hk0, hk, hsc, hle, rfl⟩
        by_cases hlt : k ≤ m
        · have h7 := h3 _ hle k hk0 hlt
          have hki := in_of hin hk0 hlt
          have htl := text_len hki
          have hts : 0 < (textF f k).length := List.length_pos_iff.2 (text_some hki)
          have hwl := hsc.len fun i h1 h2 => text_len (in_of hin h1 (by omega))
          by_cases hc : w.length < (textF f k).length
          · have hsc2 := hsc.hit hk0 hc
            repeat' (first | (refine O_ef rfl (Ef_call (I := []) WideF.wide h7 ⟨rfl, rfl, trivial⟩ rfl ?_); rintro v H3 I3 hle3 ⟨rfl, rfl⟩) | refine O_nil ?_ | refine A_seq ?_ | refine A_region ?_ | refine A_skip ?_ | refine A_block ?_ | (show opsA _ _ _ _ _ _ _; first | refine O_ev WideF.wide rfl (Ev_pure rfl) rfl rfl ?_ | (show opsA _ _ _ _ (⟨_, .call _, _, _, _, _⟩ :: _) _ _; refine O_ev WideF.wide rfl (Ev_slen rfl) rfl rfl ?_) | (show opsA _ _ _ _ (⟨_, .binOp _ _ _ _ _, _, _, _, _⟩ :: _) _ _; refine O_ev WideF.wide rfl (Ev_add rfl rfl (wi64 (by omega))) rfl rfl ?_)) | (show wpA _ _ _ (.cond _ _ _) _ _ _ _; (refine A_if rfl (fun h => ?_) (fun h => ?_) <;> try (exfalso; omega))))
            all_goals first
              | (exfalso; omega)
              | (refine Shift.to ⟨_, ?_, k + 1, _, H3, rfl, by omega, by omega, hsc2, hle.trans hle3, rfl⟩ ⟨rfl, rfl, rfl, ⟨rfl, rfl, rfl, rfl, trivial⟩, Own.sub_nil _⟩
                 omega)
          · have hsc2 := hsc.miss hk0 hts hc
            repeat' (first | (refine O_ef rfl (Ef_call (I := []) WideF.wide h7 ⟨rfl, rfl, trivial⟩ rfl ?_); rintro v H3 I3 hle3 ⟨rfl, rfl⟩) | refine O_nil ?_ | refine A_seq ?_ | refine A_region ?_ | refine A_skip ?_ | refine A_block ?_ | (show opsA _ _ _ _ _ _ _; first | refine O_ev WideF.wide rfl (Ev_pure rfl) rfl rfl ?_ | (show opsA _ _ _ _ (⟨_, .call _, _, _, _, _⟩ :: _) _ _; refine O_ev WideF.wide rfl (Ev_slen rfl) rfl rfl ?_) | (show opsA _ _ _ _ (⟨_, .binOp _ _ _ _ _, _, _, _, _⟩ :: _) _ _; refine O_ev WideF.wide rfl (Ev_add rfl rfl (wi64 (by omega))) rfl rfl ?_)) | (show wpA _ _ _ (.cond _ _ _) _ _ _ _; (refine A_if rfl (fun h => ?_) (fun h => ?_) <;> try (exfalso; omega))))
            all_goals first
              | (exfalso; omega)
              | (refine Shift.to ⟨_, ?_, k + 1, _, H3, rfl, by omega, by omega, hsc2, hle.trans hle3, rfl⟩ ⟨rfl, rfl, rfl, ⟨rfl, rfl, rfl, rfl, trivial⟩, Own.sub_nil _⟩
                 omega)
        · have : k = m + 1 := by omega
          subst this
          obtain ⟨j, hj, rfl⟩ := hsc.best (by omega)
          repeat' (first | refine O_nil ?_ | refine A_seq ?_ | refine A_region ?_ | refine A_ret ?_ | (show opsA _ _ _ _ _ _ _; refine O_ev WideF.wide rfl (Ev_pure rfl) rfl rfl ?_) | (show wpA _ _ _ (.exit _) _ _ _ _; refine A_exit rfl ?_) | (show wpA _ _ _ (.cond _ _ _) _ _ _ _; (refine A_if rfl (fun h => ?_) (fun h => ?_) <;> try (exfalso; omega))))
          all_goals first
            | (exfalso; omega)
            | exact End_e (Ret2 rfl rfl rfl) ⟨⟨j, hj, rfl⟩, rfl⟩
  · have h8 := fun Hx (hx : HLe H Hx) => longest_fn (hE.mono hx) hin (fun h => hr (.inl h)) (fun h => hr (.inr h))
    refine Fn_of _ _ Tryd.func23 rfl Tryd.ntmps23 rfl fun c => ?_
    repeat' (first | (refine O_ef rfl (Ef_call (I := []) WideF.wide h6 ⟨rfl, rfl, trivial⟩ rfl ?_); rintro v H1 I1 hle1 ⟨rfl, rfl⟩) | (refine O_ef rfl (Ef_callp WideF.wide (h2 _) ⟨rfl, trivial⟩ rfl ?_)) | (refine O_ef rfl (Ef_call (I := []) WideF.wide (h8 _ hle1) ⟨rfl, rfl, rfl, trivial⟩ rfl ?_); rintro v H2 I2 hle2 ⟨⟨j, hj, rfl⟩, rfl⟩) | refine O_nil ?_ | refine A_seq ?_ | refine A_region ?_ | refine A_skip ?_ | refine A_ret ?_ | (show opsA _ _ _ _ _ _ _; first | (refine O_split rfl rfl (fun h => ?_) (fun h => ?_) <;> try (exfalso; omega)) | refine O_ev WideF.wide rfl (Ev_pure rfl) rfl rfl ?_) | (show wpA _ _ _ (.cond _ _ _) _ _ _ _; (refine A_if rfl (fun h => ?_) (fun h => ?_) <;> try (exfalso; omega))))
    all_goals first
      | (exfalso; omega)
      | exact End_e (Ret2 rfl rfl rfl) ⟨⟨j, hj, rfl⟩, rfl⟩
set_option maxRecDepth 100000 in
set_option maxHeartbeats 2000000 in
theorem Longest_out {H : Hp} (hE : EnvH H) {f n : Int} (hin : ¬ inF f n) : Fn Tryd.prog 23 [.int .i64 f, .int .i64 n] H [] fun v _ I => v = .tuple [sv [], .int .i64 (fmtE f n).2].toArray ∧ I = [] := by
  have h6 := Format_fn hE f n
  unfold fmtV at h6
  have hne : (fmtE f n).2 ≠ 0 := fun h0 => hin (fmtE_ok (s := (fmtE f n).1).1 (Prod.ext rfl h0)).1
  refine Fn_of _ _ Tryd.func23 rfl Tryd.ntmps23 rfl fun c => ?_
  repeat' (first | (refine O_ef rfl (Ef_call (I := []) WideF.wide h6 ⟨rfl, rfl, trivial⟩ rfl ?_); rintro v H1 I1 hle1 ⟨rfl, rfl⟩) | refine O_nil ?_ | refine A_seq ?_ | refine A_region ?_ | refine A_ret ?_ | (show opsA _ _ _ _ _ _ _; refine O_ev WideF.wide rfl (Ev_pure rfl) rfl rfl ?_) | (show wpA _ _ _ (.cond _ _ _) _ _ _ _; (refine A_if rfl (fun h => ?_) (fun h => ?_) <;> try (exfalso; omega))))
  all_goals first
    | (exfalso; omega)
    | (exfalso; exact hne (by assumption))
    | exact End_e (Ret2 rfl rfl rfl) ⟨rfl, rfl⟩
set_option maxRecDepth 100000 in
set_option maxHeartbeats 2000000 in
theorem Longest_law {H : Hp} (hE : EnvH H) (f n n0 : Int) (hn : n ≤ 2000) (h0 : n = n0 ∧ n0 ≤ 2000 ∨ n = n0 % 2000 ∧ 2000 < n0) : Fn Tryd.prog 11 [.int .i64 f, .int .i64 n0] H [] fun v _ I => v = .bool true ∧ I = [] := by
  have hk := fun Hx (hx : HLe H Hx) => known_fn (hE.mono hx)
  have h2 := fun Hx => rRange_fn (H := Hx) (f := f)
  unfold rangeR at h2
  by_cases hin : inF f n
  · have hb := inF_nat hin
    obtain ⟨m, rfl⟩ : ∃ N : Nat, n = N := ⟨n.toNat, by omega⟩
    have hlo : loN f ≤ m := by have := loN_eq f; have := hin.2.1; omega
    rw [if_pos hin.1, if_pos hin.1, ← loN_eq] at h2
    have h1 := Longest_in hE hin
    have h3 := fun Hx i (h1 : loN f ≤ i) (h2 : i ≤ m) => (show Fn Tryd.prog 15 [.int .i64 f, .int .i64 ((i : Nat) : Int)] Hx [] fun v _ I => v = .tuple [sv (textF f i), .int .i64 0].toArray ∧ I = [] by
      have h := rFormat_fn (H := Hx) f i
      unfold fmtV at h
      rw [fmtE_in hin.1 (in_of hin h1 h2).2] at h
      exact h)
    have h6 := fun Hx => h3 Hx m hlo (Nat.le_refl _)
    refine Fn_of _ _ Tryd.func11 rfl Tryd.ntmps11 rfl fun c => ?_
    refine A_seq ?_
    refine A_region ?_
    refine O_ev WideF.wide rfl (Ev_pure rfl) rfl rfl ?_
    refine O_nil ?_
    refine A_seq ?_
    refine A_cutu (fun st => st = ⟨74, [(0, .int .i64 f), (1, .int .i64 (m : Int))], H, [], [], []⟩) ?_ ?_
    · rcases h0 with ⟨he, h0⟩ | ⟨he, h0⟩
      · repeat' (first | refine O_nil ?_ | refine A_seq ?_ | refine A_region ?_ | refine A_skip ?_ | (show opsA _ _ _ _ _ _ _; refine O_ev WideF.wide rfl (Ev_pure rfl) rfl rfl ?_) | (show wpA _ _ _ (.cond _ _ _) _ _ _ _; (refine A_if rfl (fun h => ?_) (fun h => ?_) <;> try (exfalso; omega))))
        all_goals first
          | (exfalso; omega)
          | (rw [← he]; exact Shift.to rfl ⟨rfl, rfl, rfl, ⟨rfl, rfl, trivial⟩, Own.sub_nil _⟩)
      · repeat' (first | refine O_nil ?_ | refine A_seq ?_ | refine A_region ?_ | (show opsA _ _ _ _ _ _ _; first | refine O_ev WideF.wide rfl (Ev_pure rfl) rfl rfl ?_ | (show opsA _ _ _ _ (⟨_, .binOp _ _ _ _ _, _, _, _, _⟩ :: _) _ _; refine O_ev WideF.wide rfl (Ev_remp rfl rfl (by omega) (by omega)) rfl rfl ?_)) | (show wpA _ _ _ (.cond _ _ _) _ _ _ _; (refine A_if rfl (fun h => ?_) (fun h => ?_) <;> try (exfalso; omega))))
        all_goals first
          | (exfalso; omega)
          | (rw [← he]; exact Shift.to rfl ⟨rfl, rfl, rfl, ⟨rfl, rfl, trivial⟩, Own.sub_nil _⟩)
    rintro st rfl
    repeat' (first | (refine O_ef rfl (Ef_call (I := []) WideF.wide h1 ⟨rfl, rfl, trivial⟩ rfl ?_); rintro v H1 I1 hle1 ⟨⟨j, hj, rfl⟩, rfl⟩) | (refine O_ef rfl (Ef_call (I := []) WideF.wide (hk _ hle1) trivial rfl ?_); rintro v H2 I2 hle2 ⟨rfl, rfl⟩) | (refine O_ef rfl (Ef_callp WideF.wide (h2 _) ⟨rfl, trivial⟩ rfl ?_)) | (refine O_ef rfl (Ef_call (I := []) WideF.wide (h6 _) ⟨rfl, rfl, trivial⟩ rfl ?_); rintro v H3 I3 hle3 ⟨rfl, rfl⟩) | refine O_nil ?_ | refine A_seq ?_ | refine A_region ?_ | refine A_skip ?_ | refine A_block ?_ | (show opsA _ _ _ _ _ _ _; first | refine O_ev WideF.wide rfl (Ev_pure rfl) rfl rfl ?_ | (show opsA _ _ _ _ (⟨_, .unOp _ _ _, _, _, _, _⟩ :: _) _ _; refine O_ev WideF.wide rfl (Ev_notb rfl) rfl rfl ?_)) | (show wpA _ _ _ (.cond _ _ _) _ _ _ _; first | (refine A_if rfl (fun h => ?_) (fun h => ?_) <;> try (exfalso; omega)) | refine A_iffalse rfl ?_))
    all_goals try (exfalso; omega)
    refine A_loopu (fun t st => ∃ (k : Nat) (w : List UInt8) (H4 : Hp), t = m + 1 - k ∧ loN f ≤ k ∧ k ≤ m + 1 ∧ Scan f (loN f) k w ∧ st = ⟨74, [(0, .int .i64 f), (1, .int .i64 (m : Int)), (5, sv (textF f j)), (6, .int .i64 0), (12, sv w), (13, .int .i64 (k : Int))], H4, [], [], []⟩) ?_ ?_
    · exact Shift.to ⟨_, loN f, [], H3, rfl, Nat.le_refl _, by omega, .inl ⟨rfl, rfl⟩, rfl⟩ ⟨rfl, rfl, rfl, ⟨rfl, rfl, rfl, rfl, rfl, rfl, trivial⟩, Own.sub_nil _⟩
    · rintro t st ⟨k, w, H4, rfl, hk0, hkm, hsc, rfl⟩
      by_cases hlt : k ≤ m
      · have h7 := h3 H4 k hk0 hlt
        have hki := in_of hin hk0 hlt
        have htl := text_len hki
        have hts : 0 < (textF f k).length := List.length_pos_iff.2 (text_some hki)
        have hwl := hsc.len fun i h1 h2 => text_len (in_of hin h1 (by omega))
        by_cases hc : w.length < (textF f k).length
        · have hsc2 := hsc.hit hk0 hc
          repeat' (first | (refine O_ef rfl (Ef_call (I := []) WideF.wide h7 ⟨rfl, rfl, trivial⟩ rfl ?_); rintro v H5 I5 hle5 ⟨rfl, rfl⟩) | refine O_nil ?_ | refine A_seq ?_ | refine A_region ?_ | refine A_skip ?_ | refine A_block ?_ | (show opsA _ _ _ _ _ _ _; first | refine O_ev WideF.wide rfl (Ev_pure rfl) rfl rfl ?_ | (show opsA _ _ _ _ (⟨_, .call _, _, _, _, _⟩ :: _) _ _; refine O_ev WideF.wide rfl (Ev_slen rfl) rfl rfl ?_) | (show opsA _ _ _ _ (⟨_, .binOp _ _ _ _ _, _, _, _, _⟩ :: _) _ _; refine O_ev WideF.wide rfl (Ev_add rfl rfl (wi64 (by omega))) rfl rfl ?_)) | (show wpA _ _ _ (.cond _ _ _) _ _ _ _; (refine A_if rfl (fun h => ?_) (fun h => ?_) <;> try (exfalso; omega))))
          all_goals first
            | (exfalso; omega)
            | (refine Shift.to ⟨_, ?_, k + 1, _, H5, rfl, by omega, by omega, hsc2, rfl⟩ ⟨rfl, rfl, rfl, ⟨rfl, rfl, rfl, rfl, rfl, rfl, trivial⟩, Own.sub_nil _⟩
               omega)
        · have hsc2 := hsc.miss hk0 hts hc
          repeat' (first | (refine O_ef rfl (Ef_call (I := []) WideF.wide h7 ⟨rfl, rfl, trivial⟩ rfl ?_); rintro v H5 I5 hle5 ⟨rfl, rfl⟩) | refine O_nil ?_ | refine A_seq ?_ | refine A_region ?_ | refine A_skip ?_ | refine A_block ?_ | (show opsA _ _ _ _ _ _ _; first | refine O_ev WideF.wide rfl (Ev_pure rfl) rfl rfl ?_ | (show opsA _ _ _ _ (⟨_, .call _, _, _, _, _⟩ :: _) _ _; refine O_ev WideF.wide rfl (Ev_slen rfl) rfl rfl ?_) | (show opsA _ _ _ _ (⟨_, .binOp _ _ _ _ _, _, _, _, _⟩ :: _) _ _; refine O_ev WideF.wide rfl (Ev_add rfl rfl (wi64 (by omega))) rfl rfl ?_)) | (show wpA _ _ _ (.cond _ _ _) _ _ _ _; (refine A_if rfl (fun h => ?_) (fun h => ?_) <;> try (exfalso; omega))))
          all_goals first
            | (exfalso; omega)
            | (refine Shift.to ⟨_, ?_, k + 1, _, H5, rfl, by omega, by omega, hsc2, rfl⟩ ⟨rfl, rfl, rfl, ⟨rfl, rfl, rfl, rfl, rfl, rfl, trivial⟩, Own.sub_nil _⟩
               omega)
      · have : k = m + 1 := by omega
        subst this
        obtain ⟨j', hj', rfl⟩ := hsc.best (by omega)
        obtain rfl := hj.uniq hj'
        repeat' (first | (refine O_ev WideF.wide rfl (Ev_seqs rfl rfl) rfl rfl ?_) | (refine O_ev WideF.wide rfl (Ev_eqis rfl rfl) rfl rfl ?_) | refine O_nil ?_ | refine A_seq ?_ | refine A_region ?_ | refine A_ret ?_ | (show opsA _ _ _ _ _ _ _; refine O_ev WideF.wide rfl (Ev_pure rfl) rfl rfl ?_) | (show wpA _ _ _ (.exit _) _ _ _ _; refine A_exit rfl ?_) | (show wpA _ _ _ (.cond _ _ _) _ _ _ _; (refine A_if rfl (fun h => ?_) (fun h => ?_) <;> try (exfalso; omega))))
        all_goals first
          | (exfalso; omega)
          | exact End_e (Ret1 rfl rfl) ⟨rfl, rfl⟩
  · have h1 := Longest_out hE hin
    have h6 := fun Hx => rFormat_fn (H := Hx) f n
    unfold fmtV at h6
    have hne : (fmtE f n).2 ≠ 0 := fun h0 => hin (fmtE_ok (s := (fmtE f n).1).1 (Prod.ext rfl h0)).1
    refine Fn_of _ _ Tryd.func11 rfl Tryd.ntmps11 rfl fun c => ?_
    refine A_seq ?_
    refine A_region ?_
    refine O_ev WideF.wide rfl (Ev_pure rfl) rfl rfl ?_
    refine O_nil ?_
    refine A_seq ?_
    refine A_cutu (fun st => st = ⟨74, [(0, .int .i64 f), (1, .int .i64 n)], H, [], [], []⟩) ?_ ?_
    · rcases h0 with ⟨he, h0⟩ | ⟨he, h0⟩
      · repeat' (first | refine O_nil ?_ | refine A_seq ?_ | refine A_region ?_ | refine A_skip ?_ | (show opsA _ _ _ _ _ _ _; refine O_ev WideF.wide rfl (Ev_pure rfl) rfl rfl ?_) | (show wpA _ _ _ (.cond _ _ _) _ _ _ _; (refine A_if rfl (fun h => ?_) (fun h => ?_) <;> try (exfalso; omega))))
        all_goals first
          | (exfalso; omega)
          | (rw [he]; exact Shift.to rfl ⟨rfl, rfl, rfl, ⟨rfl, rfl, trivial⟩, Own.sub_nil _⟩)
      · repeat' (first | refine O_nil ?_ | refine A_seq ?_ | refine A_region ?_ | (show opsA _ _ _ _ _ _ _; first | refine O_ev WideF.wide rfl (Ev_pure rfl) rfl rfl ?_ | (show opsA _ _ _ _ (⟨_, .binOp _ _ _ _ _, _, _, _, _⟩ :: _) _ _; refine O_ev WideF.wide rfl (Ev_remp rfl rfl (by omega) (by omega)) rfl rfl ?_)) | (show wpA _ _ _ (.cond _ _ _) _ _ _ _; (refine A_if rfl (fun h => ?_) (fun h => ?_) <;> try (exfalso; omega))))
        all_goals first
          | (exfalso; omega)
          | (rw [he]; exact Shift.to rfl ⟨rfl, rfl, rfl, ⟨rfl, rfl, trivial⟩, Own.sub_nil _⟩)
    rintro st rfl
    repeat' (first | (refine O_ef rfl (Ef_call (I := []) WideF.wide h1 ⟨rfl, rfl, trivial⟩ rfl ?_); rintro v H1 I1 hle1 ⟨rfl, rfl⟩) | (refine O_ef rfl (Ef_call (I := []) WideF.wide (hk _ hle1) trivial rfl ?_); rintro v H2 I2 hle2 ⟨rfl, rfl⟩) | (refine O_ef rfl (Ef_callp WideF.wide (h2 _) ⟨rfl, trivial⟩ rfl ?_)) | (refine O_ef rfl (Ef_call (I := []) WideF.wide (h6 _) ⟨rfl, rfl, trivial⟩ rfl ?_); rintro v H3 I3 hle3 ⟨rfl, rfl⟩) | (refine O_ev WideF.wide rfl (Ev_seqs rfl rfl) rfl rfl ?_) | (refine O_ev WideF.wide rfl (Ev_eqis rfl rfl) rfl rfl ?_) | refine O_nil ?_ | refine A_seq ?_ | refine A_region ?_ | refine A_skip ?_ | refine A_ret ?_ | (show opsA _ _ _ _ _ _ _; first | refine O_ev WideF.wide rfl (Ev_pure rfl) rfl rfl ?_ | (show opsA _ _ _ _ (⟨_, .unOp _ _ _, _, _, _, _⟩ :: _) _ _; refine O_ev WideF.wide rfl (Ev_notb rfl) rfl rfl ?_)) | (show wpA _ _ _ (.cond _ _ _) _ _ _ _; first | (refine A_if rfl (fun h => ?_) (fun h => ?_) <;> try (exfalso; omega)) | refine A_iffalse rfl ?_))
    all_goals first
      | (exfalso; omega)
      | (exfalso; exact hne (by assumption))
      | exact End_e (Ret1 rfl rfl) ⟨rfl, rfl⟩
theorem NumeralLongest_fn {H : Hp} (hE : EnvH H) (f n : Int) (hi : -9223372036854775808 ≤ n ∧ n < 9223372036854775808) : Fn Tryd.prog 11 [.int .i64 f, .int .i64 n] H [] fun v _ I => v = .bool true ∧ I = [] := by
  by_cases h : n ≤ 2000
  · exact Longest_law hE f n n h (.inl ⟨rfl, h⟩)
  · exact Longest_law hE f (n % 2000) n (by omega) (.inr ⟨rfl, by omega⟩)
end Go.Proofs.YtaehbjmimnjggaaDoor
