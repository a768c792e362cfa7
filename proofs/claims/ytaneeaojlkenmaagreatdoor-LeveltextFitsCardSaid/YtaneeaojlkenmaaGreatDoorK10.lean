/-
  Parse, and the reference's Parse.
-/
import Derived.Test.YtaneeaojlkenmaaGreatDoorK9
namespace Go.Proofs.YtaneeaojlkenmaaGreatDoor
open Go Go.Lib
set_option linter.unusedVariables false
set_option linter.unusedSimpArgs false
attribute [local irreducible] wpA opsA drJ drQ drE Ef Ev Shift Fn
theorem dgS_text {m : Nat} (hm : m ≤ 999999) : dgS (decDigits m) 0 = m := by
  have := dgS_dec m [] hm
  simpa [dgS] using this
set_option maxRecDepth 100000 in
set_option maxHeartbeats 1000000 in
theorem guess_fn {H : Hp} (hE : EnvH H) {f : Int} {s : List UInt8} (hok : okF f) (h7 : f ≠ 7) (hs : s.length ≤ 1000) : Fn Tryz.prog 117 [.int .i64 f, sv s] H [] fun v _ I => GuessIs f s v I := by
  rcases okF_cases hok with rfl | rfl | rfl | rfl | rfl | rfl | rfl
  · have hd := digits_fn (H := H) hs
    refine Fn_of _ _ Tryz.func117 rfl Tryz.ntmps117 rfl fun c => ?_
    repeat' (first | (refine O_ef rfl (Ef_call (I := []) WideF.wide hd ⟨rfl, trivial⟩ rfl ?_); rintro v H1 I1 hle1 ⟨rfl, rfl⟩) | refine O_nil ?_ | refine A_seq ?_ | refine A_region ?_ | refine A_ret ?_ | refine A_block ?_ | (show opsA _ _ _ _ _ _ _; refine O_ev WideF.wide rfl (Ev_pure rfl) rfl rfl ?_) | (show wpA _ _ _ (.cond _ _ _) _ _ _ _; (refine A_if rfl (fun h => ?_) (fun h => ?_) <;> try (exfalso; omega))))
    refine End_e (Ret1 rfl rfl) ⟨⟨_, rfl, fun m hm hr => ?_⟩, rfl⟩
    have hb := inF_nat hm
    rw [hr]
    exact dgS_text (by omega)
  · refine (guess_letters (.inl rfl) hs).mono fun v H' I' ⟨h1, h2⟩ => ⟨⟨_, h1, fun m hm hr => ?_⟩, h2⟩
    have hb := inF_nat hm
    have := ltS_ltr (fun x => x) (fun j hj => (letter_or ⟨j, hj⟩).1) m [] (by omega)
    rw [map_id', List.append_nil] at this
    rw [hr]
    exact this
  · refine (guess_letters (.inr rfl) hs).mono fun v H' I' ⟨h1, h2⟩ => ⟨⟨_, h1, fun m hm hr => ?_⟩, h2⟩
    have hb := inF_nat hm
    have := ltS_ltr upperB (fun j hj => (letter_or ⟨j, hj⟩).2.1) m [] (by omega)
    rw [List.append_nil] at this
    rw [hr]
    exact this
  · refine (guess_roman hE (.inl rfl) hs).mono fun v H' I' ⟨⟨g, h1, hg⟩, h2⟩ => ⟨⟨g, h1, fun m hm hr => ?_⟩, h2⟩
    obtain ⟨_, b1, b2⟩ := hm
    have b1 : (1 : Int) ≤ m := b1
    have b2 : (m : Int) ≤ 3999 := b2
    exact hg m (by omega) (by omega) (by rw [hr]; exact lower_text (.inl rfl) (by omega))
  · refine (guess_roman hE (.inr rfl) hs).mono fun v H' I' ⟨⟨g, h1, hg⟩, h2⟩ => ⟨⟨g, h1, fun m hm hr => ?_⟩, h2⟩
    obtain ⟨_, b1, b2⟩ := hm
    have b1 : (1 : Int) ≤ m := b1
    have b2 : (m : Int) ≤ 3999 := b2
    exact hg m (by omega) (by omega) (by rw [hr]; exact lower_text (.inr rfl) (by omega))
  · have hd := fun j => digits_fn (H := H) (s := s.take j) (by rw [List.length_take]; omega)
    refine Fn_of _ _ Tryz.func117 rfl Tryz.ntmps117 rfl fun c => ?_
    repeat' (first | (refine O_ev WideF.wide rfl (Ev_ssliceh rfl rfl (by omega) (by omega)) rfl rfl ?_) | (refine O_ef rfl (Ef_call (I := []) WideF.wide (hd _) ⟨rfl, trivial⟩ rfl ?_); rintro v H1 I1 hle1 ⟨rfl, rfl⟩) | refine O_nil ?_ | refine A_seq ?_ | refine A_region ?_ | refine A_ret ?_ | refine A_block ?_ | (show opsA _ _ _ _ _ _ _; first | refine O_ev WideF.wide rfl (Ev_pure rfl) rfl rfl ?_ | (show opsA _ _ _ _ (⟨_, .call _, _, _, _, _⟩ :: _) _ _; first | refine O_ev WideF.wide rfl (Ev_maxi rfl rfl) rfl rfl ?_ | refine O_ev WideF.wide rfl (Ev_slen rfl) rfl rfl ?_) | (show opsA _ _ _ _ (⟨_, .binOp _ _ _ _ _, _, _, _, _⟩ :: _) _ _; refine O_ev WideF.wide rfl (Ev_sub rfl rfl (wi64 (by omega))) rfl rfl ?_)) | (show wpA _ _ _ (.cond _ _ _) _ _ _ _; (refine A_if rfl (fun h => ?_) (fun h => ?_) <;> try (exfalso; omega))))
    refine End_e (Ret1 rfl rfl) ⟨⟨_, rfl, fun m hm hr => ?_⟩, rfl⟩
    have hb := inF_nat hm
    have hl := ending_len m
    have e1 : s.length = (decDigits m).length + 2 := by rw [hr]; show (decDigits m ++ ending m).length = _; rw [List.length_append, hl]
    have e2 : s = decDigits m ++ ending m := hr
    have e3 : s.take (decDigits m).length = decDigits m := by rw [e2]; simp
    have e4 : (if 0 < (s.length : Int) - 2 then (s.length : Int) - 2 else 0).toNat = (decDigits m).length := by have := dec_pos m; rw [if_pos (by omega)]; omega
    rw [e4, e3]
    exact dgS_text (by omega)
  · exact absurd rfl h7
/-! ### the reference's way back -/
theorem vrS_step {k : Nat} {c : UInt8} {r : List UInt8} {n : Int} : vrS (k + 1) (c :: r) n = vrS k r (n + (match r with | [] => rval c | c2 :: _ => if rval c < rval c2 then - rval c else rval c)) := rfl
theorem rval_le (c : UInt8) : 0 ≤ rval c ∧ rval c ≤ 1000 := by unfold rval; (repeat' split) <;> omega
set_option maxRecDepth 100000 in
set_option maxHeartbeats 4000000 in
theorem value_roman {H : Hp} {f : Int} {s : List UInt8} (hf : f = 4 ∨ f = 5) (hs : s.length ≤ 1000) : Fn Tryz.prog 94 [.int .i64 f, sv s] H [] fun v _ I => v = .int .i64 (vrS 20 s 0) ∧ I = [] := by
  refine Fn_of _ _ Tryz.func94 rfl Tryz.ntmps94 rfl fun c => ?_
  rcases hf with rfl | rfl
  all_goals
    repeat' (first | refine O_nil ?_ | refine A_seq ?_ | refine A_region ?_ | refine A_skip ?_ | refine A_block ?_ | (show opsA _ _ _ _ _ _ _; refine O_ev WideF.wide rfl (Ev_pure rfl) rfl rfl ?_) | (show wpA _ _ _ (.cond _ _ _) _ _ _ _; (refine A_if rfl (fun h => ?_) (fun h => ?_) <;> try (exfalso; omega))))
    refine A_loopu (fun m st => ∃ (i : Nat) (n : Int), m = s.length - i ∧ i ≤ s.length ∧ i ≤ 20 ∧ vrS 20 s 0 = vrS (20 - i) (s.drop i) n ∧ -1000 * (i : Int) ≤ n ∧ n ≤ 1000 * (i : Int) ∧ st = ⟨124, [(1, sv s), (5, .int .i64 n), (6, .int .i64 i)], H, [], [], []⟩) ?_ ?_
    · exact Shift.to ⟨_, 0, 0, rfl, by omega, by omega, rfl, by omega, by omega, rfl⟩ ⟨rfl, rfl, rfl, ⟨rfl, rfl, rfl, trivial⟩, Own.sub_nil _⟩
    · rintro m st ⟨i, n, hm, hi, hi2, hd, hn0, hn1, rfl⟩
      by_cases hlt : i < s.length ∧ i < 20
      · obtain ⟨x, hx, _, hb⟩ := drop_at hlt.1
        have hlx := fun Hx => letter_fn (H := Hx) (c := x) (m := bat s (i : Int)) hb
        have hxl := rval_le x
        rw [hx, show 20 - i = (20 - (i + 1)) + 1 by omega, vrS_step] at hd
        by_cases hn : i + 1 < s.length
        · obtain ⟨y, hy, _, hby⟩ := drop_at hn
          have hby : bat s ((i : Int) + 1) = (y.toNat : Int) := by rw [← hby]; rfl
          have hly := fun Hx => letter_fn (H := Hx) (c := y) (m := bat s ((i : Int) + 1)) hby
          rw [hy] at hd
          simp only at hd
          repeat' (first | (refine O_ef rfl (Ef_callp WideF.wide (hlx _) ⟨rfl, trivial⟩ rfl ?_)) | (refine O_ef rfl (Ef_callp WideF.wide (hly _) ⟨rfl, trivial⟩ rfl ?_)) | (refine O_ev WideF.wide rfl (Ev_neg rfl (wi64 (by omega))) rfl rfl ?_) | refine O_nil ?_ | refine A_seq ?_ | refine A_region ?_ | refine A_skip ?_ | refine A_block ?_ | (show opsA _ _ _ _ _ _ _; first | (refine O_split rfl rfl (fun h => ?_) (fun h => ?_) <;> try (exfalso; omega)) | refine O_ev WideF.wide rfl (Ev_pure rfl) rfl rfl ?_ | (show opsA _ _ _ _ (⟨_, .call _, _, _, _, _⟩ :: _) _ _; refine O_ev WideF.wide rfl (Ev_slen rfl) rfl rfl ?_) | (show opsA _ _ _ _ (⟨_, .binOp _ _ _ _ _, _, _, _, _⟩ :: _) _ _; refine O_ev WideF.wide rfl (Ev_add rfl rfl (wi64 (by omega))) rfl rfl ?_) | (show opsA _ _ _ _ (⟨_, .index _ _ _, _, _, _, _⟩ :: _) _ _; refine O_ev WideF.wide rfl (Ev_sindex rfl rfl (by omega) (by omega)) rfl rfl ?_)) | (show wpA _ _ _ (.cond _ _ _) _ _ _ _; (refine A_if rfl (fun h => ?_) (fun h => ?_) <;> try (exfalso; omega))))
          all_goals first
            | (exfalso; omega)
            | (rw [if_pos (by omega)] at hd
               refine Shift.to ⟨_, ?_, i + 1, _, rfl, by omega, by omega, ?_, by omega, by omega, rfl⟩ ⟨rfl, rfl, rfl, ⟨rfl, rfl, rfl, trivial⟩, Own.sub_nil _⟩
               · omega
               · rw [hd, hy, Int.zero_sub])
            | (rw [if_neg (by omega)] at hd
               refine Shift.to ⟨_, ?_, i + 1, _, rfl, by omega, by omega, ?_, by omega, by omega, rfl⟩ ⟨rfl, rfl, rfl, ⟨rfl, rfl, rfl, trivial⟩, Own.sub_nil _⟩
               · omega
               · rw [hd, hy])
        · have he : s.drop (i + 1) = [] := List.drop_eq_nil_of_le (by omega)
          rw [he] at hd
          simp only at hd
          repeat' (first | (refine O_ef rfl (Ef_callp WideF.wide (hlx _) ⟨rfl, trivial⟩ rfl ?_)) | refine O_nil ?_ | refine A_seq ?_ | refine A_region ?_ | refine A_skip ?_ | refine A_block ?_ | (show opsA _ _ _ _ _ _ _; first | (refine O_split rfl rfl (fun h => ?_) (fun h => ?_) <;> try (exfalso; omega)) | refine O_ev WideF.wide rfl (Ev_pure rfl) rfl rfl ?_ | (show opsA _ _ _ _ (⟨_, .call _, _, _, _, _⟩ :: _) _ _; refine O_ev WideF.wide rfl (Ev_slen rfl) rfl rfl ?_) | (show opsA _ _ _ _ (⟨_, .binOp _ _ _ _ _, _, _, _, _⟩ :: _) _ _; refine O_ev WideF.wide rfl (Ev_add rfl rfl (wi64 (by omega))) rfl rfl ?_) | (show opsA _ _ _ _ (⟨_, .index _ _ _, _, _, _, _⟩ :: _) _ _; refine O_ev WideF.wide rfl (Ev_sindex rfl rfl (by omega) (by omega)) rfl rfl ?_) | refine O_skip WideF.wide rfl rfl rfl ?_) | (show wpA _ _ _ (.cond _ _ _) _ _ _ _; first | (refine A_if rfl (fun h => ?_) (fun h => ?_) <;> try (exfalso; omega)) | refine A_iffalse rfl ?_))
          all_goals first
            | (exfalso; omega)
            | (refine Shift.to ⟨_, ?_, i + 1, _, rfl, by omega, by omega, ?_, by omega, by omega, rfl⟩ ⟨rfl, rfl, rfl, ⟨rfl, rfl, rfl, trivial⟩, Own.sub_nil _⟩
               · omega
               · rw [hd, he])
      · have he : vrS (20 - i) (s.drop i) n = n := by
          by_cases h20 : i < 20
          · have : s.drop i = [] := List.drop_eq_nil_of_le (by omega)
            rw [this]
            cases 20 - i <;> rfl
          · rw [show 20 - i = 0 by omega]; cases s.drop i <;> rfl
        rw [he] at hd
        by_cases hll : i < s.length
        · repeat' (first | refine O_nil ?_ | refine A_seq ?_ | refine A_region ?_ | refine A_ret ?_ | (show opsA _ _ _ _ _ _ _; first | (refine O_split rfl rfl (fun h => ?_) (fun h => ?_) <;> try (exfalso; omega)) | refine O_ev WideF.wide rfl (Ev_pure rfl) rfl rfl ?_ | (show opsA _ _ _ _ (⟨_, .call _, _, _, _, _⟩ :: _) _ _; refine O_ev WideF.wide rfl (Ev_slen rfl) rfl rfl ?_)) | (show wpA _ _ _ (.exit _) _ _ _ _; refine A_exit rfl ?_) | (show wpA _ _ _ (.cond _ _ _) _ _ _ _; (refine A_if rfl (fun h => ?_) (fun h => ?_) <;> try (exfalso; omega))))
          all_goals first
            | (exfalso; omega)
            | exact End_e (Ret1 rfl rfl) ⟨by rw [hd], rfl⟩
        · repeat' (first | refine O_nil ?_ | refine A_seq ?_ | refine A_region ?_ | refine A_ret ?_ | (show opsA _ _ _ _ _ _ _; first | (refine O_split rfl rfl (fun h => ?_) (fun h => ?_) <;> try (exfalso; omega)) | refine O_ev WideF.wide rfl (Ev_pure rfl) rfl rfl ?_ | (show opsA _ _ _ _ (⟨_, .call _, _, _, _, _⟩ :: _) _ _; refine O_ev WideF.wide rfl (Ev_slen rfl) rfl rfl ?_) | refine O_skip WideF.wide rfl rfl rfl ?_) | (show wpA _ _ _ (.exit _) _ _ _ _; refine A_exit rfl ?_) | (show wpA _ _ _ (.cond _ _ _) _ _ _ _; refine A_iffalse rfl ?_))
          all_goals first
            | (exfalso; omega)
            | exact End_e (Ret1 rfl rfl) ⟨by rw [hd], rfl⟩
set_option maxRecDepth 100000 in
set_option maxHeartbeats 2000000 in
theorem value_letters2 {H : Hp} {s : List UInt8} (hs : s.length ≤ 1000) : Fn Tryz.prog 94 [.int .i64 2, sv s] H [] fun v _ I => v = .int .i64 (vlS 97 (s.take 6) 0) ∧ I = [] := by
  refine Fn_of _ _ Tryz.func94 rfl Tryz.ntmps94 rfl fun c => ?_
  repeat' (first | refine O_nil ?_ | refine A_seq ?_ | refine A_region ?_ | refine A_block ?_ | (show opsA _ _ _ _ _ _ _; refine O_ev WideF.wide rfl (Ev_pure rfl) rfl rfl ?_) | (show wpA _ _ _ (.cond _ _ _) _ _ _ _; (refine A_if rfl (fun h => ?_) (fun h => ?_) <;> try (exfalso; omega))))
  refine A_loopu (fun m st => ∃ (i : Nat) (n : Int), m = s.length - i ∧ i ≤ s.length ∧ i ≤ 6 ∧ vlS 97 (s.take 6) 0 = vlS 97 ((s.drop i).take (6 - i)) n ∧ -(300 * (26 ^ i : Nat) : Int) + 10 ≤ n ∧ n ≤ 300 * (26 ^ i : Nat) - 10 ∧ st = ⟨124, [(1, sv s), (5, .int .i64 n), (8, .int .i64 i)], H, [], [], []⟩) ?_ ?_
  · exact Shift.to ⟨_, 0, 0, rfl, by omega, by omega, rfl, by decide, by decide, rfl⟩ ⟨rfl, rfl, rfl, ⟨rfl, rfl, rfl, trivial⟩, Own.sub_nil _⟩
  · rintro m st ⟨i, n, hm, hi, hi2, hd, hn0, hn1, rfl⟩
    have hp : 26 ^ i ≤ 26 ^ 6 := Nat.pow_le_pow_right (by omega) hi2
    have hp0 : 1 ≤ 26 ^ i := Nat.one_le_pow _ _ (by omega)
    have hp1 : 26 ^ (i + 1) = 26 ^ i * 26 := Nat.pow_succ _ _
    by_cases hlt : i < s.length ∧ i < 6
    · obtain ⟨x, hx, _, hb⟩ := drop_at hlt.1
      have hxl := UInt8.toNat_lt x
      rw [hx, show 6 - i = (6 - (i + 1)) + 1 by omega, List.take_succ_cons, vlS] at hd
      rw [← hb] at hd
      repeat' (first | refine O_nil ?_ | refine A_seq ?_ | refine A_region ?_ | refine A_skip ?_ | refine A_block ?_ | (show opsA _ _ _ _ _ _ _; first | (refine O_split rfl rfl (fun h => ?_) (fun h => ?_) <;> try (exfalso; omega)) | refine O_ev WideF.wide rfl (Ev_pure rfl) rfl rfl ?_ | (show opsA _ _ _ _ (⟨_, .call _, _, _, _, _⟩ :: _) _ _; refine O_ev WideF.wide rfl (Ev_slen rfl) rfl rfl ?_) | (show opsA _ _ _ _ (⟨_, .binOp _ _ _ _ _, _, _, _, _⟩ :: _) _ _; first | refine O_ev WideF.wide rfl (Ev_add rfl rfl (wi64 (by omega))) rfl rfl ?_ | refine O_ev WideF.wide rfl (Ev_sub rfl rfl (wi64 (by omega))) rfl rfl ?_ | refine O_ev WideF.wide rfl (Ev_mul rfl rfl (wi64 (by omega))) rfl rfl ?_) | (show opsA _ _ _ _ (⟨_, .index _ _ _, _, _, _, _⟩ :: _) _ _; refine O_ev WideF.wide rfl (Ev_sindex rfl rfl (by omega) (by omega)) rfl rfl ?_) | (show opsA _ _ _ _ (⟨_, .convert _ _ _, _, _, _, _⟩ :: _) _ _; refine O_ev WideF.wide rfl (Ev_conv (k2 := .i64) rfl (wi64 (bat_i64 _ _))) rfl rfl ?_)) | (show wpA _ _ _ (.cond _ _ _) _ _ _ _; (refine A_if rfl (fun h => ?_) (fun h => ?_) <;> try (exfalso; omega))))
      all_goals first
        | (exfalso; omega)
        | (refine Shift.to ⟨_, ?_, i + 1, _, rfl, by omega, by omega, hd, by rw [hp1]; omega, by rw [hp1]; omega, rfl⟩ ⟨rfl, rfl, rfl, ⟨rfl, rfl, rfl, trivial⟩, Own.sub_nil _⟩
           omega)
    · have he : (s.drop i).take (6 - i) = [] := by
        by_cases h6 : i < 6
        · rw [List.drop_eq_nil_of_le (by omega), List.take_nil]
        · rw [show 6 - i = 0 by omega, List.take_zero]
      rw [he, vlS] at hd
      by_cases hll : i < s.length
      · repeat' (first | refine O_nil ?_ | refine A_seq ?_ | refine A_region ?_ | refine A_ret ?_ | (show opsA _ _ _ _ _ _ _; first | (refine O_split rfl rfl (fun h => ?_) (fun h => ?_) <;> try (exfalso; omega)) | refine O_ev WideF.wide rfl (Ev_pure rfl) rfl rfl ?_ | (show opsA _ _ _ _ (⟨_, .call _, _, _, _, _⟩ :: _) _ _; refine O_ev WideF.wide rfl (Ev_slen rfl) rfl rfl ?_)) | (show wpA _ _ _ (.exit _) _ _ _ _; refine A_exit rfl ?_) | (show wpA _ _ _ (.cond _ _ _) _ _ _ _; (refine A_if rfl (fun h => ?_) (fun h => ?_) <;> try (exfalso; omega))))
        all_goals first
          | (exfalso; omega)
          | exact End_e (Ret1 rfl rfl) ⟨by rw [hd], rfl⟩
      · repeat' (first | refine O_nil ?_ | refine A_seq ?_ | refine A_region ?_ | refine A_ret ?_ | (show opsA _ _ _ _ _ _ _; first | (refine O_split rfl rfl (fun h => ?_) (fun h => ?_) <;> try (exfalso; omega)) | refine O_ev WideF.wide rfl (Ev_pure rfl) rfl rfl ?_ | (show opsA _ _ _ _ (⟨_, .call _, _, _, _, _⟩ :: _) _ _; refine O_ev WideF.wide rfl (Ev_slen rfl) rfl rfl ?_) | refine O_skip WideF.wide rfl rfl rfl ?_) | (show wpA _ _ _ (.exit _) _ _ _ _; refine A_exit rfl ?_) | (show wpA _ _ _ (.cond _ _ _) _ _ _ _; refine A_iffalse rfl ?_))
        all_goals first
          | (exfalso; omega)
          | exact End_e (Ret1 rfl rfl) ⟨by rw [hd], rfl⟩
set_option maxRecDepth 100000 in
set_option maxHeartbeats 2000000 in
theorem value_letters3 {H : Hp} {s : List UInt8} (hs : s.length ≤ 1000) : Fn Tryz.prog 94 [.int .i64 3, sv s] H [] fun v _ I => v = .int .i64 (vlS 65 (s.take 6) 0) ∧ I = [] := by
  refine Fn_of _ _ Tryz.func94 rfl Tryz.ntmps94 rfl fun c => ?_
  repeat' (first | refine O_nil ?_ | refine A_seq ?_ | refine A_region ?_ | refine A_block ?_ | (show opsA _ _ _ _ _ _ _; refine O_ev WideF.wide rfl (Ev_pure rfl) rfl rfl ?_) | (show wpA _ _ _ (.cond _ _ _) _ _ _ _; (refine A_if rfl (fun h => ?_) (fun h => ?_) <;> try (exfalso; omega))))
  refine A_loopu (fun m st => ∃ (i : Nat) (n : Int), m = s.length - i ∧ i ≤ s.length ∧ i ≤ 6 ∧ vlS 65 (s.take 6) 0 = vlS 65 ((s.drop i).take (6 - i)) n ∧ -(300 * (26 ^ i : Nat) : Int) + 10 ≤ n ∧ n ≤ 300 * (26 ^ i : Nat) - 10 ∧ st = ⟨124, [(1, sv s), (5, .int .i64 n), (9, .int .i64 i)], H, [], [], []⟩) ?_ ?_
  · exact Shift.to ⟨_, 0, 0, rfl, by omega, by omega, rfl, by decide, by decide, rfl⟩ ⟨rfl, rfl, rfl, ⟨rfl, rfl, rfl, trivial⟩, Own.sub_nil _⟩
  · rintro m st ⟨i, n, hm, hi, hi2, hd, hn0, hn1, rfl⟩
    have hp : 26 ^ i ≤ 26 ^ 6 := Nat.pow_le_pow_right (by omega) hi2
    have hp0 : 1 ≤ 26 ^ i := Nat.one_le_pow _ _ (by omega)
    have hp1 : 26 ^ (i + 1) = 26 ^ i * 26 := Nat.pow_succ _ _
    by_cases hlt : i < s.length ∧ i < 6
    · obtain ⟨x, hx, _, hb⟩ := drop_at hlt.1
      have hxl := UInt8.toNat_lt x
      rw [hx, show 6 - i = (6 - (i + 1)) + 1 by omega, List.take_succ_cons, vlS] at hd
      rw [← hb] at hd
      repeat' (first | refine O_nil ?_ | refine A_seq ?_ | refine A_region ?_ | refine A_skip ?_ | refine A_block ?_ | (show opsA _ _ _ _ _ _ _; first | (refine O_split rfl rfl (fun h => ?_) (fun h => ?_) <;> try (exfalso; omega)) | refine O_ev WideF.wide rfl (Ev_pure rfl) rfl rfl ?_ | (show opsA _ _ _ _ (⟨_, .call _, _, _, _, _⟩ :: _) _ _; refine O_ev WideF.wide rfl (Ev_slen rfl) rfl rfl ?_) | (show opsA _ _ _ _ (⟨_, .binOp _ _ _ _ _, _, _, _, _⟩ :: _) _ _; first | refine O_ev WideF.wide rfl (Ev_add rfl rfl (wi64 (by omega))) rfl rfl ?_ | refine O_ev WideF.wide rfl (Ev_sub rfl rfl (wi64 (by omega))) rfl rfl ?_ | refine O_ev WideF.wide rfl (Ev_mul rfl rfl (wi64 (by omega))) rfl rfl ?_) | (show opsA _ _ _ _ (⟨_, .index _ _ _, _, _, _, _⟩ :: _) _ _; refine O_ev WideF.wide rfl (Ev_sindex rfl rfl (by omega) (by omega)) rfl rfl ?_) | (show opsA _ _ _ _ (⟨_, .convert _ _ _, _, _, _, _⟩ :: _) _ _; refine O_ev WideF.wide rfl (Ev_conv (k2 := .i64) rfl (wi64 (bat_i64 _ _))) rfl rfl ?_)) | (show wpA _ _ _ (.cond _ _ _) _ _ _ _; (refine A_if rfl (fun h => ?_) (fun h => ?_) <;> try (exfalso; omega))))
      all_goals first
        | (exfalso; omega)
        | (refine Shift.to ⟨_, ?_, i + 1, _, rfl, by omega, by omega, hd, by rw [hp1]; omega, by rw [hp1]; omega, rfl⟩ ⟨rfl, rfl, rfl, ⟨rfl, rfl, rfl, trivial⟩, Own.sub_nil _⟩
           omega)
    · have he : (s.drop i).take (6 - i) = [] := by
        by_cases h6 : i < 6
        · rw [List.drop_eq_nil_of_le (by omega), List.take_nil]
        · rw [show 6 - i = 0 by omega, List.take_zero]
      rw [he, vlS] at hd
      by_cases hll : i < s.length
      · repeat' (first | refine O_nil ?_ | refine A_seq ?_ | refine A_region ?_ | refine A_ret ?_ | (show opsA _ _ _ _ _ _ _; first | (refine O_split rfl rfl (fun h => ?_) (fun h => ?_) <;> try (exfalso; omega)) | refine O_ev WideF.wide rfl (Ev_pure rfl) rfl rfl ?_ | (show opsA _ _ _ _ (⟨_, .call _, _, _, _, _⟩ :: _) _ _; refine O_ev WideF.wide rfl (Ev_slen rfl) rfl rfl ?_)) | (show wpA _ _ _ (.exit _) _ _ _ _; refine A_exit rfl ?_) | (show wpA _ _ _ (.cond _ _ _) _ _ _ _; (refine A_if rfl (fun h => ?_) (fun h => ?_) <;> try (exfalso; omega))))
        all_goals first
          | (exfalso; omega)
          | exact End_e (Ret1 rfl rfl) ⟨by rw [hd], rfl⟩
      · repeat' (first | refine O_nil ?_ | refine A_seq ?_ | refine A_region ?_ | refine A_ret ?_ | (show opsA _ _ _ _ _ _ _; first | (refine O_split rfl rfl (fun h => ?_) (fun h => ?_) <;> try (exfalso; omega)) | refine O_ev WideF.wide rfl (Ev_pure rfl) rfl rfl ?_ | (show opsA _ _ _ _ (⟨_, .call _, _, _, _, _⟩ :: _) _ _; refine O_ev WideF.wide rfl (Ev_slen rfl) rfl rfl ?_) | refine O_skip WideF.wide rfl rfl rfl ?_) | (show wpA _ _ _ (.exit _) _ _ _ _; refine A_exit rfl ?_) | (show wpA _ _ _ (.cond _ _ _) _ _ _ _; refine A_iffalse rfl ?_))
        all_goals first
          | (exfalso; omega)
          | exact End_e (Ret1 rfl rfl) ⟨by rw [hd], rfl⟩
set_option maxRecDepth 100000 in
set_option maxHeartbeats 2000000 in
theorem value_digits {H : Hp} {f : Int} {s : List UInt8} (hf : f = 1 ∨ f = 6) (hs : s.length ≤ 1000) : Fn Tryz.prog 94 [.int .i64 f, sv s] H [] fun v _ I => v = .int .i64 (vdS (s.take 7) 0) ∧ I = [] := by
  refine Fn_of _ _ Tryz.func94 rfl Tryz.ntmps94 rfl fun c => ?_
  rcases hf with rfl | rfl
  all_goals
    repeat' (first | refine O_nil ?_ | refine A_seq ?_ | refine A_region ?_ | refine A_skip ?_ | refine A_block ?_ | (show opsA _ _ _ _ _ _ _; refine O_ev WideF.wide rfl (Ev_pure rfl) rfl rfl ?_) | (show wpA _ _ _ (.cond _ _ _) _ _ _ _; (refine A_if rfl (fun h => ?_) (fun h => ?_) <;> try (exfalso; omega))))
    refine A_loopu (fun m st => ∃ (i : Nat) (n : Int), m = s.length - i ∧ i ≤ s.length ∧ i ≤ 7 ∧ vdS (s.take 7) 0 = vdS ((s.drop i).take (7 - i)) n ∧ 0 ≤ n ∧ n ≤ (10 ^ i : Nat) - 1 ∧ st = ⟨124, [(1, sv s), (5, .int .i64 n), (10, .int .i64 i)], H, [], [], []⟩) ?_ ?_
    · exact Shift.to ⟨_, 0, 0, rfl, by omega, by omega, rfl, by decide, by decide, rfl⟩ ⟨rfl, rfl, rfl, ⟨rfl, rfl, rfl, trivial⟩, Own.sub_nil _⟩
    · rintro m st ⟨i, n, hm, hi, hi2, hd, hn0, hn1, rfl⟩
      have hp : 10 ^ i ≤ 10 ^ 7 := Nat.pow_le_pow_right (by omega) hi2
      have hp0 : 1 ≤ 10 ^ i := Nat.one_le_pow _ _ (by omega)
      have hp1 : 10 ^ (i + 1) = 10 ^ i * 10 := Nat.pow_succ _ _
      have hfin : ∀ k : Int, vdS ((s.drop i).take (7 - i)) n = k → vdS (s.take 7) 0 = k := fun k hk => hd.trans hk
      by_cases hlt : i < s.length ∧ i < 7
      · obtain ⟨x, hx, _, hb⟩ := drop_at hlt.1
        have hxl := UInt8.toNat_lt x
        rw [hx, show 7 - i = (7 - (i + 1)) + 1 by omega, List.take_succ_cons, vdS] at hd
        by_cases hc : 48 ≤ x.toNat ∧ x.toNat ≤ 57
        · rw [if_pos hc, ← hb] at hd
          repeat' (first | refine O_nil ?_ | refine A_seq ?_ | refine A_region ?_ | refine A_skip ?_ | refine A_block ?_ | (show opsA _ _ _ _ _ _ _; first | (refine O_split rfl rfl (fun h => ?_) (fun h => ?_) <;> try (exfalso; omega)) | refine O_ev WideF.wide rfl (Ev_pure rfl) rfl rfl ?_ | (show opsA _ _ _ _ (⟨_, .call _, _, _, _, _⟩ :: _) _ _; refine O_ev WideF.wide rfl (Ev_slen rfl) rfl rfl ?_) | (show opsA _ _ _ _ (⟨_, .binOp _ _ _ _ _, _, _, _, _⟩ :: _) _ _; first | refine O_ev WideF.wide rfl (Ev_add rfl rfl (wi64 (by omega))) rfl rfl ?_ | refine O_ev WideF.wide rfl (Ev_sub rfl rfl (wi64 (by omega))) rfl rfl ?_ | refine O_ev WideF.wide rfl (Ev_mul rfl rfl (wi64 (by omega))) rfl rfl ?_) | (show opsA _ _ _ _ (⟨_, .index _ _ _, _, _, _, _⟩ :: _) _ _; refine O_ev WideF.wide rfl (Ev_sindex rfl rfl (by omega) (by omega)) rfl rfl ?_) | (show opsA _ _ _ _ (⟨_, .convert _ _ _, _, _, _, _⟩ :: _) _ _; refine O_ev WideF.wide rfl (Ev_conv (k2 := .i64) rfl (wi64 (bat_i64 _ _))) rfl rfl ?_)) | (show wpA _ _ _ (.cond _ _ _) _ _ _ _; (refine A_if rfl (fun h => ?_) (fun h => ?_) <;> try (exfalso; omega))))
          all_goals first
            | (exfalso; omega)
            | (refine Shift.to ⟨_, ?_, i + 1, _, rfl, by omega, by omega, hd, by omega, by rw [hp1]; omega, rfl⟩ ⟨rfl, rfl, rfl, ⟨rfl, rfl, rfl, trivial⟩, Own.sub_nil _⟩
               omega)
        · rw [if_neg hc] at hd
          repeat' (first | refine O_nil ?_ | refine A_seq ?_ | refine A_region ?_ | refine A_ret ?_ | (show opsA _ _ _ _ _ _ _; first | (refine O_split rfl rfl (fun h => ?_) (fun h => ?_) <;> try (exfalso; omega)) | refine O_ev WideF.wide rfl (Ev_pure rfl) rfl rfl ?_ | (show opsA _ _ _ _ (⟨_, .call _, _, _, _, _⟩ :: _) _ _; refine O_ev WideF.wide rfl (Ev_slen rfl) rfl rfl ?_) | (show opsA _ _ _ _ (⟨_, .index _ _ _, _, _, _, _⟩ :: _) _ _; refine O_ev WideF.wide rfl (Ev_sindex rfl rfl (by omega) (by omega)) rfl rfl ?_) | refine O_skip WideF.wide rfl rfl rfl ?_) | (show wpA _ _ _ (.exit _) _ _ _ _; refine A_exit rfl ?_) | (show wpA _ _ _ (.cond _ _ _) _ _ _ _; first | (refine A_if rfl (fun h => ?_) (fun h => ?_) <;> try (exfalso; omega)) | refine A_iffalse rfl ?_))
          all_goals first
            | (exfalso; omega)
            | exact End_e (Ret1 rfl rfl) ⟨by rw [hd], rfl⟩
      · have he : (s.drop i).take (7 - i) = [] := by
          by_cases h6 : i < 7
          · rw [List.drop_eq_nil_of_le (by omega), List.take_nil]
          · rw [show 7 - i = 0 by omega, List.take_zero]
        rw [he, vdS] at hd
        by_cases hll : i < s.length
        · repeat' (first | refine O_nil ?_ | refine A_seq ?_ | refine A_region ?_ | refine A_ret ?_ | (show opsA _ _ _ _ _ _ _; first | (refine O_split rfl rfl (fun h => ?_) (fun h => ?_) <;> try (exfalso; omega)) | refine O_ev WideF.wide rfl (Ev_pure rfl) rfl rfl ?_ | (show opsA _ _ _ _ (⟨_, .call _, _, _, _, _⟩ :: _) _ _; refine O_ev WideF.wide rfl (Ev_slen rfl) rfl rfl ?_) | refine O_skip WideF.wide rfl rfl rfl ?_) | (show wpA _ _ _ (.exit _) _ _ _ _; refine A_exit rfl ?_) | (show wpA _ _ _ (.cond _ _ _) _ _ _ _; refine A_iffalse rfl ?_))
          all_goals first
            | (exfalso; omega)
            | exact End_e (Ret1 rfl rfl) ⟨by rw [hd], rfl⟩
        · repeat' (first | refine O_nil ?_ | refine A_seq ?_ | refine A_region ?_ | refine A_ret ?_ | (show opsA _ _ _ _ _ _ _; first | (refine O_split rfl rfl (fun h => ?_) (fun h => ?_) <;> try (exfalso; omega)) | refine O_ev WideF.wide rfl (Ev_pure rfl) rfl rfl ?_ | (show opsA _ _ _ _ (⟨_, .call _, _, _, _, _⟩ :: _) _ _; refine O_ev WideF.wide rfl (Ev_slen rfl) rfl rfl ?_) | refine O_skip WideF.wide rfl rfl rfl ?_) | (show wpA _ _ _ (.exit _) _ _ _ _; refine A_exit rfl ?_) | (show wpA _ _ _ (.cond _ _ _) _ _ _ _; refine A_iffalse rfl ?_))
          all_goals first
            | (exfalso; omega)
            | exact End_e (Ret1 rfl rfl) ⟨by rw [hd], rfl⟩
theorem value_fn {H : Hp} {f : Int} {s : List UInt8} (hok : okF f) (h7 : f ≠ 7) (hs : s.length ≤ 1000) : Fn Tryz.prog 94 [.int .i64 f, sv s] H [] fun v _ I => v = .int .i64 (valueS f s) ∧ I = [] := by
  rcases okF_cases hok with rfl | rfl | rfl | rfl | rfl | rfl | rfl
  · exact value_digits (.inl rfl) hs
  · exact value_letters2 hs
  · exact value_letters3 hs
  · exact value_roman (.inl rfl) hs
  · exact value_roman (.inr rfl) hs
  · exact value_digits (.inr rfl) hs
  · exact absurd rfl h7
noncomputable def parseV (f : Int) (s : List UInt8) : Value := .tuple [.int .i64 (parseE f s).1, .int .i64 (parseE f s).2].toArray
set_option maxRecDepth 100000 in
set_option maxHeartbeats 2000000 in
theorem Parse_fn {H : Hp} (hE : EnvH H) (f : Int) {s : List UInt8} (hs : s.length ≤ 1000) : Fn Tryz.prog 92 [.int .i64 f, sv s] H [] fun v _ I => v = parseV f s ∧ I = [] := by
  unfold parseV
  have hR := Range_fn (H := H) (f := f)
  unfold rangeV at hR
  by_cases hok : okF f
  · rw [if_pos hok, if_pos hok, if_pos hok] at hR
    generalize loF f = lo at hR
    generalize hiF f = hi at hR
    by_cases h7 : f = 7
    · rw [parse_no (.inr h7)]
      refine Fn_of _ _ Tryz.func92 rfl Tryz.ntmps92 rfl fun c => ?_
      repeat' (first | (refine O_ef rfl (Ef_callp WideF.wide hR ⟨rfl, trivial⟩ rfl ?_)) | refine O_nil ?_ | refine A_seq ?_ | refine A_region ?_ | refine A_ret ?_ | (show opsA _ _ _ _ _ _ _; first | (refine O_split rfl rfl (fun h => ?_) (fun h => ?_) <;> try (exfalso; omega)) | refine O_ev WideF.wide rfl (Ev_pure rfl) rfl rfl ?_) | (show wpA _ _ _ (.cond _ _ _) _ _ _ _; (refine A_if rfl (fun h => ?_) (fun h => ?_) <;> try (exfalso; omega))))
      all_goals first
        | (exfalso; omega)
        | exact End_e (Ret2 rfl rfl rfl) ⟨rfl, rfl⟩
    · by_cases hn : s = []
      · subst hn
        rw [parse_nil hok h7]
        refine Fn_of _ _ Tryz.func92 rfl Tryz.ntmps92 rfl fun c => ?_
        repeat' (first | (refine O_ef rfl (Ef_callp WideF.wide hR ⟨rfl, trivial⟩ rfl ?_)) | refine O_nil ?_ | refine A_seq ?_ | refine A_region ?_ | refine A_skip ?_ | refine A_ret ?_ | (show opsA _ _ _ _ _ _ _; first | (refine O_split rfl rfl (fun h => ?_) (fun h => ?_) <;> try (exfalso; omega)) | refine O_ev WideF.wide rfl (Ev_pure rfl) rfl rfl ?_ | (show opsA _ _ _ _ (⟨_, .binOp _ _ _ _ _, _, _, _, _⟩ :: _) _ _; refine O_ev WideF.wide rfl (Ev_seql rfl rfl) rfl rfl ?_)) | (show wpA _ _ _ (.cond _ _ _) _ _ _ _; (refine A_if rfl (fun h => ?_) (fun h => ?_) <;> try (exfalso; omega))))
        all_goals first
          | (exfalso; omega)
          | (exfalso; simp at *; done)
          | exact End_e (Ret2 rfl rfl rfl) ⟨rfl, rfl⟩
      · have hg := guess_fn hE hok h7 hs
        have hF := fun Hx (hx : HLe H Hx) g => Format_fn (hE.mono hx) f g
        have hby := fun (g : Int) (h : ∀ m : Nat, inF f m → s = textF f m → g = m) => parse_by (g := g) hok h7 hn h
        unfold fmtV at hF
        refine Fn_of _ _ Tryz.func92 rfl Tryz.ntmps92 rfl fun c => ?_
        repeat' (first | (refine O_ef rfl (Ef_callp WideF.wide hR ⟨rfl, trivial⟩ rfl ?_)) | (refine O_ef rfl (Ef_call (I := []) WideF.wide hg ⟨rfl, rfl, trivial⟩ rfl ?_); rintro v H1 I1 hle1 ⟨⟨g, rfl, hgm⟩, rfl⟩) | (refine O_ef rfl (Ef_call (I := []) WideF.wide (hF _ hle1 g) ⟨rfl, rfl, trivial⟩ rfl ?_); rintro v H2 I2 hle2 ⟨rfl, rfl⟩) | refine O_nil ?_ | refine A_seq ?_ | refine A_region ?_ | refine A_skip ?_ | refine A_ret ?_ | (show opsA _ _ _ _ _ _ _; first | (refine O_split rfl rfl (fun h => ?_) (fun h => ?_) <;> try (exfalso; omega)) | refine O_ev WideF.wide rfl (Ev_pure rfl) rfl rfl ?_ | (show opsA _ _ _ _ (⟨_, .binOp _ _ _ _ _, _, _, _, _⟩ :: _) _ _; first | refine O_ev WideF.wide rfl (Ev_seql rfl rfl) rfl rfl ?_ | refine O_ev WideF.wide rfl (Ev_sneq rfl rfl) rfl rfl ?_) | refine O_skip WideF.wide rfl rfl rfl ?_) | (show wpA _ _ _ (.cond _ _ _) _ _ _ _; first | (refine A_if rfl (fun h => ?_) (fun h => ?_) <;> try (exfalso; omega)) | refine A_iftrue rfl ?_))
        all_goals first
          | (exfalso; omega)
          | (exfalso; contradiction)
          | (refine End_e (Ret2 rfl rfl rfl) ⟨?_, rfl⟩
             rw [hby g hgm]
             by_cases hh : fmtE f g = (s, 0)
             · rw [if_pos hh]
               first
                 | done
                 | rfl
                 | (exfalso
                    have h1 := congrArg Prod.fst hh
                    have h2 := congrArg Prod.snd hh
                    simp only at h1 h2
                    first | contradiction | omega)
             · rw [if_neg hh]
               first
                 | done
                 | rfl
                 | (exfalso
                    apply hh
                    exact Prod.ext (by first | assumption | (simp at *; assumption)) (by first | assumption | omega)))
  · rw [if_neg hok, if_neg hok, if_neg hok] at hR
    rw [parse_no (.inl hok)]
    refine Fn_of _ _ Tryz.func92 rfl Tryz.ntmps92 rfl fun c => ?_
    repeat' (first | (refine O_ef rfl (Ef_callp WideF.wide hR ⟨rfl, trivial⟩ rfl ?_)) | refine O_nil ?_ | refine A_seq ?_ | refine A_region ?_ | refine A_ret ?_ | (show opsA _ _ _ _ _ _ _; first | (refine O_split rfl rfl (fun h => ?_) (fun h => ?_) <;> try (exfalso; omega)) | refine O_ev WideF.wide rfl (Ev_pure rfl) rfl rfl ?_ | refine O_skip WideF.wide rfl rfl rfl ?_) | (show wpA _ _ _ (.cond _ _ _) _ _ _ _; refine A_iftrue rfl ?_))
    all_goals first
      | (exfalso; omega)
      | exact End_e (Ret2 rfl rfl rfl) ⟨rfl, rfl⟩
set_option maxRecDepth 100000 in
set_option maxHeartbeats 2000000 in
theorem rParse_fn {H : Hp} (f : Int) {s : List UInt8} (hs : s.length ≤ 1000) : Fn Tryz.prog 69 [.int .i64 f, sv s] H [] fun v _ I => v = parseV f s ∧ I = [] := by
  unfold parseV
  have hR := rRange_fn (H := H) (f := f)
  unfold rangeR at hR
  by_cases hok : okF f
  · rw [if_pos hok, if_pos hok, decide_eq_true hok] at hR
    generalize loF f = lo at hR
    generalize hiF f = hi at hR
    by_cases h7 : f = 7
    · rw [parse_no (.inr h7)]
      refine Fn_of _ _ Tryz.func69 rfl Tryz.ntmps69 rfl fun c => ?_
      repeat' (first | (refine O_ef rfl (Ef_callp WideF.wide hR ⟨rfl, trivial⟩ rfl ?_)) | refine O_nil ?_ | refine A_seq ?_ | refine A_region ?_ | refine A_ret ?_ | (show opsA _ _ _ _ _ _ _; first | refine O_ev WideF.wide rfl (Ev_pure rfl) rfl rfl ?_ | (show opsA _ _ _ _ (⟨_, .unOp _ _ _, _, _, _, _⟩ :: _) _ _; refine O_ev WideF.wide rfl (Ev_notb rfl) rfl rfl ?_)) | (show wpA _ _ _ (.cond _ _ _) _ _ _ _; (refine A_if rfl (fun h => ?_) (fun h => ?_) <;> try (exfalso; omega))))
      all_goals first
        | (exfalso; omega)
        | exact End_e (Ret2 rfl rfl rfl) ⟨rfl, rfl⟩
    · by_cases hn : s = []
      · subst hn
        rw [parse_nil hok h7]
        refine Fn_of _ _ Tryz.func69 rfl Tryz.ntmps69 rfl fun c => ?_
        repeat' (first | (refine O_ef rfl (Ef_callp WideF.wide hR ⟨rfl, trivial⟩ rfl ?_)) | refine O_nil ?_ | refine A_seq ?_ | refine A_region ?_ | refine A_skip ?_ | refine A_ret ?_ | (show opsA _ _ _ _ _ _ _; first | refine O_ev WideF.wide rfl (Ev_pure rfl) rfl rfl ?_ | (show opsA _ _ _ _ (⟨_, .binOp _ _ _ _ _, _, _, _, _⟩ :: _) _ _; refine O_ev WideF.wide rfl (Ev_seql rfl rfl) rfl rfl ?_) | (show opsA _ _ _ _ (⟨_, .unOp _ _ _, _, _, _, _⟩ :: _) _ _; refine O_ev WideF.wide rfl (Ev_notb rfl) rfl rfl ?_)) | (show wpA _ _ _ (.cond _ _ _) _ _ _ _; (refine A_if rfl (fun h => ?_) (fun h => ?_) <;> try (exfalso; omega))))
        all_goals first
          | (exfalso; omega)
          | (exfalso; simp at *; done)
          | exact End_e (Ret2 rfl rfl rfl) ⟨rfl, rfl⟩
      · have hg := value_fn (H := H) hok h7 hs
        have hF := fun Hx g => rFormat_fn (H := Hx) f g
        have hgm : ∀ m : Nat, inF f m → s = textF f m → valueS f s = m := fun m hm hr => by rw [hr]; exact value_text hm h7
        have hby := parse_by (g := valueS f s) hok h7 hn hgm
        generalize hgv : valueS f s = g at *
        unfold fmtV at hF
        refine Fn_of _ _ Tryz.func69 rfl Tryz.ntmps69 rfl fun c => ?_
        repeat' (first | (refine O_ef rfl (Ef_callp WideF.wide hR ⟨rfl, trivial⟩ rfl ?_)) | (refine O_ef rfl (Ef_call (I := []) WideF.wide hg ⟨rfl, rfl, trivial⟩ rfl ?_); rintro v H1 I1 hle1 ⟨rfl, rfl⟩) | (refine O_ef rfl (Ef_call (I := []) WideF.wide (hF _ g) ⟨rfl, rfl, trivial⟩ rfl ?_); rintro v H2 I2 hle2 ⟨rfl, rfl⟩) | refine O_nil ?_ | refine A_seq ?_ | refine A_region ?_ | refine A_skip ?_ | refine A_ret ?_ | (show opsA _ _ _ _ _ _ _; first | (refine O_split rfl rfl (fun h => ?_) (fun h => ?_) <;> try (exfalso; omega)) | refine O_ev WideF.wide rfl (Ev_pure rfl) rfl rfl ?_ | (show opsA _ _ _ _ (⟨_, .binOp _ _ _ _ _, _, _, _, _⟩ :: _) _ _; first | refine O_ev WideF.wide rfl (Ev_seql rfl rfl) rfl rfl ?_ | refine O_ev WideF.wide rfl (Ev_sneq rfl rfl) rfl rfl ?_) | (show opsA _ _ _ _ (⟨_, .unOp _ _ _, _, _, _, _⟩ :: _) _ _; refine O_ev WideF.wide rfl (Ev_notb rfl) rfl rfl ?_) | refine O_skip WideF.wide rfl rfl rfl ?_) | (show wpA _ _ _ (.cond _ _ _) _ _ _ _; first | (refine A_if rfl (fun h => ?_) (fun h => ?_) <;> try (exfalso; omega)) | refine A_iftrue rfl ?_))
        all_goals first
          | (exfalso; omega)
          | (exfalso; contradiction)
          | (refine End_e (Ret2 rfl rfl rfl) ⟨?_, rfl⟩
             rw [hby]
             by_cases hh : fmtE f g = (s, 0)
             · rw [if_pos hh]
               first
                 | done
                 | rfl
                 | (exfalso
                    have h1 := congrArg Prod.fst hh
                    have h2 := congrArg Prod.snd hh
                    simp only at h1 h2
                    first | contradiction | omega)
             · rw [if_neg hh]
               first
                 | done
                 | rfl
                 | (exfalso
                    apply hh
                    exact Prod.ext (by first | assumption | (simp at *; assumption)) (by first | assumption | omega)))
  · rw [if_neg hok, if_neg hok, decide_eq_false hok] at hR
    rw [parse_no (.inl hok)]
    refine Fn_of _ _ Tryz.func69 rfl Tryz.ntmps69 rfl fun c => ?_
    repeat' (first | (refine O_ef rfl (Ef_callp WideF.wide hR ⟨rfl, trivial⟩ rfl ?_)) | refine O_nil ?_ | refine A_seq ?_ | refine A_region ?_ | refine A_ret ?_ | (show opsA _ _ _ _ _ _ _; first | refine O_ev WideF.wide rfl (Ev_pure rfl) rfl rfl ?_ | (show opsA _ _ _ _ (⟨_, .unOp _ _ _, _, _, _, _⟩ :: _) _ _; refine O_ev WideF.wide rfl (Ev_notb rfl) rfl rfl ?_) | refine O_skip WideF.wide rfl rfl rfl ?_) | (show wpA _ _ _ (.cond _ _ _) _ _ _ _; refine A_iftrue rfl ?_))
    all_goals first
      | (exfalso; omega)
      | exact End_e (Ret2 rfl rfl rfl) ⟨rfl, rfl⟩
end Go.Proofs.YtaneeaojlkenmaaGreatDoor
