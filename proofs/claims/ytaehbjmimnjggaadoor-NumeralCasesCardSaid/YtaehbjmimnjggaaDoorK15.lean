/-
  NumeralCases.
-/
import Derived.Test.YtaehbjmimnjggaaDoorK14
namespace Go.Proofs.YtaehbjmimnjggaaDoor
open Go Go.Lib
set_option linter.unusedVariables false
set_option linter.unusedSimpArgs false
def runOk : UInt8 → Nat → List UInt8 → Bool
  | _, _, [] => true
  | p, c, x :: r => let c' := if x = p then c + 1 else 1; decide (c' ≤ 3) && runOk x c' r
set_option maxRecDepth 100000 in
theorem rom_good : ∀ m : Fin 4000, runOk 0 0 (rom m.val) = true ∧ ((rom m.val).all fun b => decide (97 ≤ b.toNat) && decide (b.toNat ≤ 122)) = true := by decide +kernel
theorem rom_low {m : Nat} (h : m ≤ 3999) : ∀ b ∈ rom m, 97 ≤ b.toNat ∧ b.toNat ≤ 122 := fun b hb => by
  have := List.all_eq_true.1 (rom_good ⟨m, by omega⟩).2 b hb
  simpa using this
theorem ltr_low (n : Nat) : ∀ b ∈ ltr n, 97 ≤ b.toNat ∧ b.toNat ≤ 122 := by
  induction n using Nat.strongRecOn with
  | _ n ih =>
    cases n with
    | zero => rw [ltr_zero]; intro b hb; cases hb
    | succ n =>
      rw [ltr_succ]
      intro b hb
      rcases List.mem_append.1 hb with hb | hb
      · exact ih (n / 26) (by omega) b hb
      · simp only [List.mem_singleton] at hb
        subst hb
        have := (letter_or ⟨n % 26, Nat.mod_lt _ (by omega)⟩).2.2.1
        simp only at this
        omega
theorem bat_at {s : List UInt8} {k : Nat} {x : UInt8} (h : s[k]? = some x) : bat s (k : Int) = (x.toNat : Int) := by
  unfold bat
  simp [List.getD, h]
theorem bat_upper {s : List UInt8} (hs : ∀ b ∈ s, 97 ≤ b.toNat ∧ b.toNat ≤ 122) {k : Nat} (h : k < s.length) : 97 ≤ bat s (k : Int) ∧ bat s (k : Int) ≤ 122 ∧ bat (upper s) (k : Int) = bat s (k : Int) - 32 := by
  have hx : s[k]? = some s[k] := List.getElem?_eq_getElem h
  have hm := hs _ (List.getElem_mem h)
  have hu : (upper s)[k]? = some (upperB s[k]) := by unfold upper; rw [List.getElem?_map, hx]; rfl
  rw [bat_at hx, bat_at hu, upperB_lo hm.1 hm.2]
  omega
theorem cases_text (n : Int) {i : Nat} (hi : i < 2) : ∃ s e, fmtE (2 + 2 * (i : Int)) n = (s, e) ∧ fmtE (3 + 2 * (i : Int)) n = (upper s, e) ∧ (∀ b ∈ s, 97 ≤ b.toNat ∧ b.toNat ≤ 122) ∧ (i = 1 → runOk 0 0 s = true) ∧ s.length ≤ 15 := by
  rcases (by omega : i = 0 ∨ i = 1) with rfl | rfl
  · by_cases h : (1 : Int) ≤ n ∧ n ≤ 999999
    · obtain ⟨N, rfl⟩ : ∃ N : Nat, n = N := ⟨n.toNat, by omega⟩
      have hl := ltr_len N 5 (by omega)
      exact ⟨ltr N, 0, fmtE_in (f := 2) (by decide) ⟨h.1, h.2⟩, fmtE_in (f := 3) (by decide) ⟨h.1, h.2⟩, ltr_low N, fun h => (by cases h), by omega⟩
    · exact ⟨[], 2, fmtE_out (f := 2) (by decide) h, fmtE_out (f := 3) (by decide) h, (fun b hb => by cases hb), fun h => (by cases h), by simp⟩
  · by_cases h : (1 : Int) ≤ n ∧ n ≤ 3999
    · obtain ⟨N, rfl⟩ : ∃ N : Nat, n = N := ⟨n.toNat, by omega⟩
      exact ⟨rom N, 0, fmtE_in (f := 4) (by decide) ⟨h.1, h.2⟩, fmtE_in (f := 5) (by decide) ⟨h.1, h.2⟩, rom_low (by omega), fun _ => (rom_good ⟨N, by omega⟩).1, rom_len (by omega)⟩
    · exact ⟨[], 2, fmtE_out (f := 4) (by decide) h, fmtE_out (f := 5) (by decide) h, (fun b hb => by cases hb), fun _ => rfl, by simp⟩
attribute [local irreducible] wpA opsA drJ drQ drE Ef Ev Shift Fn
set_option maxRecDepth 100000 in
set_option maxHeartbeats 4000000 in
theorem NumeralCases_fn {H : Hp} (hE : EnvH H) (n : Int) : Fn Tryd.prog 7 [.int .i64 n] H [] fun v _ I => v = .bool true ∧ I = [] := by
  have hk := known_fn hE
  have h3 := fun Hx (hx : HLe H Hx) f => Format_fn (hE.mono hx) f n
  unfold fmtV at h3
  refine Fn_of _ _ Tryd.func7 rfl Tryd.ntmps7 rfl fun c => ?_
  repeat' (first | (refine O_ef rfl (Ef_call (I := []) WideF.wide hk trivial rfl ?_); rintro v H1 I1 hle1 ⟨rfl, rfl⟩) | refine O_nil ?_ | refine A_seq ?_ | refine A_region ?_ | refine A_skip ?_ | refine A_block ?_ | (show opsA _ _ _ _ _ _ _; first | refine O_ev WideF.wide rfl (Ev_pure rfl) rfl rfl ?_ | (show opsA _ _ _ _ (⟨_, .unOp _ _ _, _, _, _, _⟩ :: _) _ _; refine O_ev WideF.wide rfl (Ev_notb rfl) rfl rfl ?_)) | (show wpA _ _ _ (.cond _ _ _) _ _ _ _; refine A_iffalse rfl ?_))
  refine A_loopu (fun m st => ∃ (i : Nat) (H1 : Hp), m = 2 - i ∧ i ≤ 2 ∧ HLe H H1 ∧ st = ⟨88, [(0, .int .i64 n), (3, .int .i64 (i : Int))], H1, [], [], []⟩) ?_ ?_
  · exact Shift.to ⟨_, 0, H1, rfl, by omega, hle1, rfl⟩ ⟨rfl, rfl, rfl, ⟨rfl, rfl, trivial⟩, Own.sub_nil _⟩
  · rintro m st ⟨i, H1, rfl, hi, hle, rfl⟩
    by_cases hlt : i < 2
    · obtain ⟨s, e, e1, e2, hlow, hrun, hlen⟩ := cases_text n hlt
      have h4 := h3 _ hle (2 + 2 * (i : Int))
      have h5 := fun Hx hx => h3 Hx hx (3 + 2 * (i : Int))
      rw [e1] at h4
      rw [e2] at h5
      dsimp only at h4 h5
      have hul : (upper s).length = s.length := by unfold upper; simp
      have hbu := fun k => bat_upper hlow (k := k)
      generalize hU : upper s = u at *
      repeat' (first | (refine O_ef rfl (Ef_call (I := []) WideF.wide h4 ⟨rfl, rfl, trivial⟩ rfl ?_); rintro v H2 I2 hle2 ⟨rfl, rfl⟩) | (refine O_ef rfl (Ef_call (I := []) WideF.wide (h5 _ (hle.trans hle2)) ⟨rfl, rfl, trivial⟩ rfl ?_); rintro v H3 I3 hle3 ⟨rfl, rfl⟩) | (refine O_ev WideF.wide rfl (Ev_neis rfl rfl) rfl rfl ?_) | refine O_nil ?_ | refine A_seq ?_ | refine A_region ?_ | refine A_skip ?_ | refine A_block ?_ | (show opsA _ _ _ _ _ _ _; first | refine O_ev WideF.wide rfl (Ev_pure rfl) rfl rfl ?_ | (show opsA _ _ _ _ (⟨_, .call _, _, _, _, _⟩ :: _) _ _; refine O_ev WideF.wide rfl (Ev_slen rfl) rfl rfl ?_) | (show opsA _ _ _ _ (⟨_, .binOp _ _ _ _ _, _, _, _, _⟩ :: _) _ _; first | refine O_ev WideF.wide rfl (Ev_add rfl rfl (wi64 (by omega))) rfl rfl ?_ | refine O_ev WideF.wide rfl (Ev_mul rfl rfl (wi64 (by omega))) rfl rfl ?_)) | (show wpA _ _ _ (.cond _ _ _) _ _ _ _; (refine A_if rfl (fun h => ?_) (fun h => ?_) <;> try (exfalso; omega))))
      all_goals try (exfalso; omega)
      refine A_loopu (fun m st => ∃ (k : Nat) (p : UInt8) (c : Nat), m = s.length - k ∧ k ≤ s.length ∧ (i = 1 → c ≤ 3) ∧ c ≤ k ∧ (0 < k → bat s ((k : Int) - 1) = (p.toNat : Int)) ∧ (k = 0 → p = 0 ∧ c = 0) ∧ (i = 1 → runOk p c (s.drop k) = true) ∧ st = ⟨88, [(0, .int .i64 n), (3, .int .i64 (i : Int)), (4, sv s), (6, sv u), (8, .int .i64 (c : Int)), (9, .int .i64 (k : Int))], H3, [], [], []⟩) ?_ ?_
      · exact Shift.to ⟨_, 0, 0, 0, rfl, by omega, fun _ => by omega, by omega, fun h => absurd h (by omega), fun _ => ⟨rfl, rfl⟩, hrun, rfl⟩ ⟨rfl, rfl, rfl, ⟨rfl, rfl, rfl, rfl, rfl, rfl, trivial⟩, Own.sub_nil _⟩
      · rintro m st ⟨k, p, c, rfl, hkl, hc3, hck, hp, hk0, hro, rfl⟩
        by_cases hkk : k < s.length
        · obtain ⟨b1, b2, b3⟩ := hbu k hkk
          obtain ⟨x, hx, hxs, hb⟩ := drop_at hkk
          rw [hx] at hro
          have hxp : k = 0 → x ≠ p := fun h0 hxe => by have := (hk0 h0).1; rw [← hxe] at this; rw [this] at hb; rw [hb] at b1; simp at b1
          by_cases hxq : x = p
          · have hro' : i = 1 → c + 1 ≤ 3 ∧ runOk x (c + 1) (s.drop (k + 1)) = true := fun h1 => by
              have := hro h1
              rw [runOk, if_pos hxq] at this
              simpa using this
            have hkp : 0 < k := Nat.pos_of_ne_zero fun h0 => hxp h0 hxq
            have hsame : bat s (k : Int) = bat s ((k : Int) - 1) := by rw [hp hkp, hb, hxq]
            have hq : i ≠ 1 ∨ c + 1 ≤ 3 := by
              by_cases h1 : i = 1
              · exact .inr (hro' h1).1
              · exact .inl h1
            repeat' (first | (refine A_drawL WideF.wide (.q 0 (.q 1 (.q 2 (.q 3 (.q 4 (.q 5 (.q 6 (.q 7 (.q 8 (.q 9 (.q 10 (.q 11 (.q 12 (.q 13 (.q 14 (.q 15 (.q 16 (.q 17 (.q 18 (.q 19 (.done []))))))))))))))))))))) [] (by decide +kernel) ?_) | (refine A_drawL WideF.wide (.q 0 (.q 1 (.q 2 (.q 3 (.q 4 (.q 5 (.q 6 (.q 7 (.q 8 (.q 9 (.q 10 (.q 11 (.done []))))))))))))) [] (by decide +kernel) ?_) | (refine D_ev rfl (Ev_sub rfl rfl (wu8 (by omega))) rfl rfl ?_) | refine O_nil ?_ | refine A_seq ?_ | refine A_region ?_ | refine A_skip ?_ | refine A_block ?_ | (show drJ _ _ _ _ _ _ _ (.q _ _) _; refine D_q rfl ?_) | (show drJ _ _ _ _ _ _ _ (.done _) _; refine D_done ?_; simp only [List.cons_append, List.nil_append]) | (show drQ _ _ _ _ _ _; first | (refine D_split rfl rfl (fun h => ?_) (fun h => ?_) <;> try (exfalso; omega)) | refine D_ev rfl (Ev_pure rfl) rfl rfl ?_ | (show drQ _ _ _ ⟨_, .binOp _ _ _ _ _, _, _, _, _⟩ _ _; refine D_ev rfl (Ev_sub rfl rfl (wi64 (by omega))) rfl rfl ?_) | (show drQ _ _ _ ⟨_, .index _ _ _, _, _, _, _⟩ _ _; refine D_ev rfl (Ev_sindex rfl rfl (by omega) (by omega)) rfl rfl ?_)) | (show opsA _ _ _ _ _ _ _; first | (refine O_split rfl rfl (fun h => ?_) (fun h => ?_) <;> try (exfalso; omega)) | refine O_ev WideF.wide rfl (Ev_pure rfl) rfl rfl ?_ | (show opsA _ _ _ _ (⟨_, .call _, _, _, _, _⟩ :: _) _ _; refine O_ev WideF.wide rfl (Ev_slen rfl) rfl rfl ?_) | (show opsA _ _ _ _ (⟨_, .binOp _ _ _ _ _, _, _, _, _⟩ :: _) _ _; refine O_ev WideF.wide rfl (Ev_add rfl rfl (wi64 (by omega))) rfl rfl ?_) | refine O_skip WideF.wide rfl rfl rfl ?_) | (show wpA _ _ _ (.cond _ _ _) _ _ _ _; first | (refine A_if rfl (fun h => ?_) (fun h => ?_) <;> try (exfalso; omega)) | refine A_iffalse rfl ?_))
            all_goals first
              | (exfalso; omega)
              | (refine Shift.to ⟨_, ?_, k + 1, x, c + 1, rfl, by omega, fun h => (hro' h).1, by omega, fun _ => by rw [← hb]; congr 1; omega, fun h => absurd h (by omega), fun h => (hro' h).2, rfl⟩ ⟨rfl, rfl, rfl, ⟨rfl, rfl, rfl, rfl, rfl, rfl, trivial⟩, Own.sub_nil _⟩
                 omega)
          · have hro' : i = 1 → runOk x 1 (s.drop (k + 1)) = true := fun h1 => by
              have := hro h1
              rw [runOk, if_neg hxq] at this
              simpa using this
            by_cases hk1 : k = 0
            · have hc0 := (hk0 hk1).2
              subst hk1
              subst hc0
              repeat' (first | (refine A_drawL WideF.wide (.q 0 (.q 1 (.q 2 (.q 3 (.q 4 (.q 5 (.q 6 (.q 7 (.q 8 (.q 9 (.q 10 (.q 11 (.q 12 (.q 13 (.q 14 (.q 15 (.q 16 (.q 17 (.q 18 (.q 19 (.done []))))))))))))))))))))) [] (by decide +kernel) ?_) | (refine A_drawL WideF.wide (.q 0 (.q 1 (.q 2 (.q 3 (.q 4 (.q 5 (.q 6 (.q 7 (.q 8 (.q 9 (.q 10 (.q 11 (.done []))))))))))))) [] (by decide +kernel) ?_) | (refine D_ev rfl (Ev_sub rfl rfl (wu8 (by omega))) rfl rfl ?_) | refine O_nil ?_ | refine A_seq ?_ | refine A_region ?_ | refine A_skip ?_ | refine A_block ?_ | (show drJ _ _ _ _ _ _ _ (.q _ _) _; refine D_q rfl ?_) | (show drJ _ _ _ _ _ _ _ (.done _) _; refine D_done ?_; simp only [List.cons_append, List.nil_append]) | (show drQ _ _ _ _ _ _; first | (refine D_split rfl rfl (fun h => ?_) (fun h => ?_) <;> try (exfalso; omega)) | refine D_ev rfl (Ev_pure rfl) rfl rfl ?_ | (show drQ _ _ _ ⟨_, .index _ _ _, _, _, _, _⟩ _ _; refine D_ev rfl (Ev_sindex rfl rfl (by omega) (by omega)) rfl rfl ?_) | refine D_skip rfl rfl rfl ?_) | (show opsA _ _ _ _ _ _ _; first | (refine O_split rfl rfl (fun h => ?_) (fun h => ?_) <;> try (exfalso; omega)) | refine O_ev WideF.wide rfl (Ev_pure rfl) rfl rfl ?_ | (show opsA _ _ _ _ (⟨_, .call _, _, _, _, _⟩ :: _) _ _; refine O_ev WideF.wide rfl (Ev_slen rfl) rfl rfl ?_) | (show opsA _ _ _ _ (⟨_, .binOp _ _ _ _ _, _, _, _, _⟩ :: _) _ _; refine O_ev WideF.wide rfl (Ev_add rfl rfl (wi64 (by omega))) rfl rfl ?_) | refine O_skip WideF.wide rfl rfl rfl ?_) | (show wpA _ _ _ (.cond _ _ _) _ _ _ _; first | (refine A_if rfl (fun h => ?_) (fun h => ?_) <;> try (exfalso; omega)) | refine A_iffalse rfl ?_))
              all_goals first
                | (exfalso; omega)
                | (refine Shift.to ⟨_, ?_, 0 + 1, x, 1, rfl, by omega, fun h => by omega, by omega, fun _ => by rw [← hb]; rfl, fun h => absurd h (by omega), fun h => hro' h, rfl⟩ ⟨rfl, rfl, rfl, ⟨rfl, rfl, rfl, rfl, rfl, rfl, trivial⟩, Own.sub_nil _⟩
                   omega)
            · have hdiff : bat s (k : Int) ≠ bat s ((k : Int) - 1) := by
                rw [hp (by omega), hb]
                intro h
                exact hxq (UInt8.toNat_inj.1 (by omega))
              repeat' (first | (refine A_drawL WideF.wide (.q 0 (.q 1 (.q 2 (.q 3 (.q 4 (.q 5 (.q 6 (.q 7 (.q 8 (.q 9 (.q 10 (.q 11 (.q 12 (.q 13 (.q 14 (.q 15 (.q 16 (.q 17 (.q 18 (.q 19 (.done []))))))))))))))))))))) [] (by decide +kernel) ?_) | (refine A_drawL WideF.wide (.q 0 (.q 1 (.q 2 (.q 3 (.q 4 (.q 5 (.q 6 (.q 7 (.q 8 (.q 9 (.q 10 (.q 11 (.done []))))))))))))) [] (by decide +kernel) ?_) | (refine D_ev rfl (Ev_sub rfl rfl (wu8 (by omega))) rfl rfl ?_) | refine O_nil ?_ | refine A_seq ?_ | refine A_region ?_ | refine A_skip ?_ | refine A_block ?_ | (show drJ _ _ _ _ _ _ _ (.q _ _) _; refine D_q rfl ?_) | (show drJ _ _ _ _ _ _ _ (.done _) _; refine D_done ?_; simp only [List.cons_append, List.nil_append]) | (show drQ _ _ _ _ _ _; first | (refine D_split rfl rfl (fun h => ?_) (fun h => ?_) <;> try (exfalso; omega)) | refine D_ev rfl (Ev_pure rfl) rfl rfl ?_ | (show drQ _ _ _ ⟨_, .binOp _ _ _ _ _, _, _, _, _⟩ _ _; refine D_ev rfl (Ev_sub rfl rfl (wi64 (by omega))) rfl rfl ?_) | (show drQ _ _ _ ⟨_, .index _ _ _, _, _, _, _⟩ _ _; refine D_ev rfl (Ev_sindex rfl rfl (by omega) (by omega)) rfl rfl ?_)) | (show opsA _ _ _ _ _ _ _; first | (refine O_split rfl rfl (fun h => ?_) (fun h => ?_) <;> try (exfalso; omega)) | refine O_ev WideF.wide rfl (Ev_pure rfl) rfl rfl ?_ | (show opsA _ _ _ _ (⟨_, .call _, _, _, _, _⟩ :: _) _ _; refine O_ev WideF.wide rfl (Ev_slen rfl) rfl rfl ?_) | (show opsA _ _ _ _ (⟨_, .binOp _ _ _ _ _, _, _, _, _⟩ :: _) _ _; refine O_ev WideF.wide rfl (Ev_add rfl rfl (wi64 (by omega))) rfl rfl ?_) | refine O_skip WideF.wide rfl rfl rfl ?_) | (show wpA _ _ _ (.cond _ _ _) _ _ _ _; first | (refine A_if rfl (fun h => ?_) (fun h => ?_) <;> try (exfalso; omega)) | refine A_iffalse rfl ?_))
              all_goals first
                | (exfalso; omega)
                | (refine Shift.to ⟨_, ?_, k + 1, x, 1, rfl, by omega, fun h => by omega, by omega, fun _ => by rw [← hb]; congr 1; omega, fun h => absurd h (by omega), fun h => hro' h, rfl⟩ ⟨rfl, rfl, rfl, ⟨rfl, rfl, rfl, rfl, rfl, rfl, trivial⟩, Own.sub_nil _⟩
                   omega)
        · repeat' (first | refine O_nil ?_ | refine A_seq ?_ | refine A_region ?_ | (show opsA _ _ _ _ _ _ _; first | refine O_ev WideF.wide rfl (Ev_pure rfl) rfl rfl ?_ | (show opsA _ _ _ _ (⟨_, .call _, _, _, _, _⟩ :: _) _ _; refine O_ev WideF.wide rfl (Ev_slen rfl) rfl rfl ?_) | (show opsA _ _ _ _ (⟨_, .binOp _ _ _ _ _, _, _, _, _⟩ :: _) _ _; refine O_ev WideF.wide rfl (Ev_add rfl rfl (wi64 (by omega))) rfl rfl ?_)) | (show wpA _ _ _ (.exit _) _ _ _ _; refine A_exit rfl ?_) | (show wpA _ _ _ (.cond _ _ _) _ _ _ _; (refine A_if rfl (fun h => ?_) (fun h => ?_) <;> try (exfalso; omega))))
          all_goals first
            | (exfalso; omega)
            | (refine Shift.to ⟨_, ?_, i + 1, H3, rfl, by omega, (hle.trans hle2).trans hle3, rfl⟩ ⟨rfl, rfl, rfl, ⟨rfl, rfl, trivial⟩, Own.sub_nil _⟩
               omega)
    · repeat' (first | refine O_nil ?_ | refine A_seq ?_ | refine A_region ?_ | refine A_ret ?_ | (show opsA _ _ _ _ _ _ _; refine O_ev WideF.wide rfl (Ev_pure rfl) rfl rfl ?_) | (show wpA _ _ _ (.exit _) _ _ _ _; refine A_exit rfl ?_) | (show wpA _ _ _ (.cond _ _ _) _ _ _ _; (refine A_if rfl (fun h => ?_) (fun h => ?_) <;> try (exfalso; omega))))
      all_goals first
        | (exfalso; omega)
        | exact End_e (Ret1 rfl rfl) ⟨rfl, rfl⟩
end Go.Proofs.YtaehbjmimnjggaaDoor
