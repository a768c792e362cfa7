/-
  The law's check.
-/
import Derived.Test.YthniohgeojenaaaS10
namespace Go.Proofs.Ythniohgeojenaaa
open Go
set_option linter.unusedVariables false
set_option linter.unusedSimpArgs false
attribute [local irreducible] wpA opsA drJ drQ drE Ef Ev Shift Fn
set_option maxRecDepth 100000 in
set_option maxHeartbeats 4000000 in
theorem check_fn {H : Hp} {dcs : List Value} {d : Dec} (hd : DecH H dcs d) (m1 : d.acc.length < 1073741824) (m2 : d.rej.length < 1073741824) :
    Fn Try.prog 37 [.agg dcs.toArray] H [] fun v _ I' => v = .int .i64 (chkD d) ∧ I' = [] := by
  obtain ⟨aa, an, ac, ra, rn, rc, rfl, g1, g2⟩ := hd.ex
  have l1 := g1.len
  have l2 := g2.len
  simp only [List.length_map] at l1 l2
  refine Fn_of _ _ Try.func37 rfl Try.ntmps37 rfl fun c => ?_
  refine A_seq ?_
  refine A_cutu (fun s => ∃ b1, s = ⟨85, [(1, ptr b1), (2, .int .i64 0)], H, [.box b1 [.slice aa an ac, .slice ra rn rc]], [], []⟩) ?_ ?_
  · repeat' (first | refine O_nil ?_ | refine A_region ?_ | (show opsA _ _ _ _ _ _ _; first | refine O_ev WideF.wide rfl (Ev_pure rfl) rfl rfl ?_ | (show opsA _ _ _ _ (⟨_, .box _ _, _, _, _, _⟩ :: _) _ _; (refine O_ef rfl (Ef_boxa WideF.wide rfl rfl ?_); intro b))))
    exact Shift.to ⟨_, rfl⟩ ⟨rfl, rfl, rfl, ⟨rfl, rfl, trivial⟩, Own.subi [0] (by decide) rfl rfl⟩
  rintro s ⟨b1, rfl⟩
  refine A_freezeBox (by intro u hu; simp at hu; rcases hu with rfl | rfl <;> rfl) ?_
  intro H1 hle1 hb1
  have g1 := g1.mono hle1
  have g2 := g2.mono hle1
  refine A_seq ?_
  refine A_cutu (fun s => ∃ bb, s = ⟨85, [(3, .slice (some ⟨bb, 0, none⟩) 2 2), (1, ptr b1), (2, .int .i64 0)], H1, [.row (.slice (some ⟨bb, 0, none⟩) 2 2) 1 ([⟨aa, an, ac, d.acc⟩, ⟨ra, rn, rc, d.rej⟩].map Lst.row)], [], []⟩) ?_ ?_
  · repeat' (first | (refine O_ev WideF.wide rfl (Ev_loadH1 rfl (hb1 0 _ rfl)) rfl rfl ?_) | (refine O_ev WideF.wide rfl (Ev_loadH1 rfl (hb1 1 _ rfl)) rfl rfl ?_) | (refine O_ef rfl (Ef_buildn WideF.wide (k := 1) (xs := [_, _]) (vs := [_, _]) rfl ⟨rfl, rfl, trivial⟩ rfl rfl rfl rfl rfl rfl ?_); intro bb) | refine O_nil ?_ | refine A_region ?_ | (show opsA _ _ _ _ _ _ _; first | refine O_ev WideF.wide rfl (Ev_pure rfl) rfl rfl ?_ | (show opsA _ _ _ _ (⟨_, .fieldAddr _ _ _, _, _, _, _⟩ :: _) _ _; refine O_ev WideF.wide rfl (Ev_fieldAddr rfl rfl rfl) rfl rfl ?_)))
    exact Shift.to ⟨_, rfl⟩ ⟨rfl, rfl, rfl, ⟨rfl, rfl, rfl, trivial⟩, Own.subi [0] (by decide) rfl rfl⟩
  rintro s ⟨bb, rfl⟩
  refine A_freeze (css := [⟨aa, an, ac, d.acc⟩, ⟨ra, rn, rc, d.rej⟩].map Lst.row) (by intro cs hcs u hu; simp [Lst.row] at hcs; rcases hcs with rfl | rfl <;> (simp at hu; subst hu; rfl)) ?_
  intro H2 hle2 hL
  refine A_seq ?_
  refine A_cutu (fun s => chkL d.acc = 0 ∧ chkL d.rej = 0 ∧ s = ⟨85, [(1, ptr b1), (2, .int .i64 0)], H2, [], [], []⟩) ?_ ?_
  · repeat' (first | refine O_nil ?_ | refine A_seq ?_ | refine A_region ?_ | refine A_block ?_ | (show opsA _ _ _ _ _ _ _; refine O_ev WideF.wide rfl (Ev_pure rfl) rfl rfl ?_))
    have g1 := g1.mono hle2
    have g2 := g2.mono hle2
    refine A_loopu (fun m s => ∃ (k : Nat), m = 2 - k ∧ k ≤ 2 ∧ (1 ≤ k → chkL d.acc = 0) ∧ (2 ≤ k → chkL d.rej = 0) ∧ s = ⟨85, [(3, .slice (some ⟨bb, 0, none⟩) 2 2), (4, .int .i64 k), (1, ptr b1), (2, .int .i64 0)], H2, [], [], []⟩) ?_ ?_
    · exact Shift.to ⟨_, 0, rfl, by omega, by omega, by omega, rfl⟩ ⟨rfl, rfl, rfl, ⟨rfl, rfl, rfl, rfl, trivial⟩, Own.subi [] (by decide) rfl rfl⟩
    · rintro m s ⟨k, rfl, hk, hk1, hk2, rfl⟩
      by_cases hlt : k < 2
      · obtain ⟨b', o, x, hbo, hxk, hc⟩ := hL.atm k hlt
        cases hbo
        have hx : x.l.length < 1073741824 ∧ HRow H2 x.a x.n x.c 1 (x.l.map irow) ∧ (∀ e, e ≠ 0 → chkL x.l = e → chkD d = e) ∧ (chkL x.l = 0 → (1 ≤ k + 1 → chkL d.acc = 0) ∧ (2 ≤ k + 1 → chkL d.rej = 0)) := by
          match k, hlt, hxk with
          | 0, _, hxk =>
            simp at hxk; subst hxk
            exact ⟨m1, g1, fun e he h => by unfold chkD; rw [if_pos (by rw [h]; exact he)]; exact h, fun h => ⟨fun _ => h, fun h2 => by omega⟩⟩
          | 1, _, hxk =>
            simp at hxk; subst hxk
            have h0 := hk1 (by omega)
            exact ⟨m2, g2, fun e he h => by unfold chkD; rw [if_neg (by rw [h0]; simp), if_pos (by rw [h]; exact he)]; exact h, fun h => ⟨fun _ => h0, fun _ => h⟩⟩
        obtain ⟨hxm, hxr, hxe, hxn⟩ := hx
        unfold Lst.row at hc
        obtain ⟨xa, xn, xc, xl⟩ := x
        simp only at hxm hxr hxe hxn hc
        have e2 : xl.length = xn := by have := hxr.len; simpa using this
        repeat' (first | (refine O_ev WideF.wide rfl (Ev_loadH1 rfl (hc 0 _ rfl)) rfl rfl ?_) | refine O_nil ?_ | refine A_seq ?_ | refine A_region ?_ | refine A_skip ?_ | refine A_block ?_ | (show opsA _ _ _ _ _ _ _; first | refine O_ev WideF.wide rfl (Ev_pure rfl) rfl rfl ?_ | (show opsA _ _ _ _ (⟨_, .indexAddr _ _ _, _, _, _, _⟩ :: _) _ _; refine O_ev WideF.wide rfl (Ev_indexAddr rfl rfl (by omega) (by omega)) rfl rfl ?_)) | (show wpA _ _ _ (.cond _ _ _) _ _ _ _; (refine A_if rfl (fun h => ?_) (fun h => ?_) <;> try (exfalso; omega))))
        refine A_loopu (fun m s => ∃ (i : Nat), m = xn - i ∧ i ≤ xn ∧ (∀ j, j < i → errAt xl j = 0) ∧ s = ⟨85, [(5, .slice xa xn xc), (6, .int .i64 i), (3, .slice (some ⟨bb, 0, none⟩) 2 2), (4, .int .i64 k), (1, ptr b1), (2, .int .i64 0)], H2, [], [], []⟩) ?_ ?_
        · exact Shift.to ⟨_, 0, rfl, by omega, fun j hj => absurd hj (by omega), rfl⟩ ⟨rfl, rfl, rfl, ⟨rfl, rfl, rfl, rfl, rfl, rfl, trivial⟩, Own.subi [] (by decide) rfl rfl⟩
        · rintro m s ⟨i, rfl, hi, hall, rfl⟩
          by_cases hil : i < xn
          · obtain ⟨b2, o2, y, rfl, hyi, hcy⟩ := hxr.atm i hil
            unfold irow at hcy
            have hret : ∀ e, e ≠ 0 → errAt xl i = e → chkD d = e := fun e he h => hxe e he (by rw [chkL_at (by omega) hall (by rw [h]; exact he), h])
            by_cases hbad : y < 1 ∨ 1073741824 < y
            · have hv := hret 22 (by omega) (errAt_bad hyi hbad)
              repeat' (first | (refine O_ev WideF.wide rfl (Ev_loadH1 rfl (hcy 0 _ rfl)) rfl rfl ?_) | refine O_nil ?_ | refine A_seq ?_ | refine A_region ?_ | refine A_skip ?_ | refine A_ret ?_ | refine A_block ?_ | (show opsA _ _ _ _ _ _ _; first | (refine O_split rfl rfl (fun h => ?_) (fun h => ?_) <;> try (exfalso; omega)) | refine O_ev WideF.wide rfl (Ev_pure rfl) rfl rfl ?_ | (show opsA _ _ _ _ (⟨_, .indexAddr _ _ _, _, _, _, _⟩ :: _) _ _; refine O_ev WideF.wide rfl (Ev_indexAddr rfl rfl (by omega) (by omega)) rfl rfl ?_) | (show opsA _ _ _ _ (⟨_, .call _, _, _, _, _⟩ :: _) _ _; refine O_ev WideF.wide rfl (Ev_llen rfl) rfl rfl ?_) | refine O_skip WideF.wide rfl rfl rfl ?_) | (show wpA _ _ _ (.cond _ _ _) _ _ _ _; first | (refine A_if rfl (fun h => ?_) (fun h => ?_) <;> try (exfalso; omega)) | refine A_iftrue rfl ?_))
              all_goals first
                | (exfalso; omega)
                | (refine End_e (Ret1 rfl rfl) ⟨?_, rfl⟩; rw [hv])
            · cases i with
              | zero =>
                have he := errAt_first hyi hbad
                repeat' (first | (refine O_ev WideF.wide rfl (Ev_loadH1 rfl (hcy 0 _ rfl)) rfl rfl ?_) | (refine A_drawL WideF.wide (.q 0 (.q 1 (.q 2 (.q 3 (.q 4 (.q 5 (.q 6 (.q 7 (.q 8 (.q 9 (.q 10 (.q 11 (.q 12 (.q 13 (.q 14 (.done [])))))))))))))))) [] (by decide +kernel) ?_) | (refine A_drawL WideF.wide (.q 0 (.q 1 (.q 2 (.q 3 (.q 4 (.q 5 (.q 6 (.q 7 (.q 8 (.q 9 (.q 10 (.q 11 (.q 12 (.q 13 (.q 14 (.done [])))))))))))))))) [] (by decide +kernel) ?_) | refine O_nil ?_ | refine A_seq ?_ | refine A_region ?_ | refine A_skip ?_ | refine A_block ?_ | (show drJ _ _ _ _ _ _ _ (.q _ _) _; refine D_q rfl ?_) | (show drJ _ _ _ _ _ _ _ (.done _) _; refine D_done ?_; simp only [List.cons_append, List.nil_append]) | (show drQ _ _ _ _ _ _; first | (refine D_split rfl rfl (fun h => ?_) (fun h => ?_) <;> try (exfalso; omega)) | refine D_ev rfl (Ev_pure rfl) rfl rfl ?_ | refine D_skip rfl rfl rfl ?_) | (show opsA _ _ _ _ _ _ _; first | (refine O_split rfl rfl (fun h => ?_) (fun h => ?_) <;> try (exfalso; omega)) | refine O_ev WideF.wide rfl (Ev_pure rfl) rfl rfl ?_ | (show opsA _ _ _ _ (⟨_, .indexAddr _ _ _, _, _, _, _⟩ :: _) _ _; refine O_ev WideF.wide rfl (Ev_indexAddr rfl rfl (by omega) (by omega)) rfl rfl ?_) | (show opsA _ _ _ _ (⟨_, .call _, _, _, _, _⟩ :: _) _ _; refine O_ev WideF.wide rfl (Ev_llen rfl) rfl rfl ?_) | (show opsA _ _ _ _ (⟨_, .binOp _ _ _ _ _, _, _, _, _⟩ :: _) _ _; refine O_ev WideF.wide rfl (Ev_add rfl rfl (wi64 (by omega))) rfl rfl ?_)) | (show wpA _ _ _ (.cond _ _ _) _ _ _ _; first | (refine A_if rfl (fun h => ?_) (fun h => ?_) <;> try (exfalso; omega)) | refine A_iffalse rfl ?_))
                all_goals first
                  | (exfalso; omega)
                  | (refine Shift.to ⟨_, ?_, 1, rfl, by omega, fun j hj => ?_, rfl⟩ ⟨rfl, rfl, rfl, ⟨rfl, rfl, rfl, rfl, rfl, rfl, trivial⟩, Own.subi [] (by decide) rfl rfl⟩
                     · omega
                     · obtain rfl : j = 0 := by omega
                       exact he)
              | succ i =>
                obtain ⟨b3, o3, z, hb3, hzi, hcz⟩ := hxr.atm i (by omega)
                cases hb3
                unfold irow at hcz
                have he := errAt_next hyi hzi hbad
                have hsub : IntKind.i64.wrap (((i + 1 : Nat) : Int) - 1) = (i : Int) := by rw [show ((i + 1 : Nat) : Int) - 1 = (i : Int) by omega]; exact wi64 (by omega)
                by_cases hyz : y = z
                · rw [if_pos hyz] at he
                  have hv := hret 7 (by omega) he
                  repeat' (first | (refine O_ev WideF.wide rfl (Ev_loadH1 rfl (hcy 0 _ rfl)) rfl rfl ?_) | (refine A_drawL WideF.wide (.q 0 (.q 1 (.q 2 (.q 3 (.q 4 (.q 5 (.q 6 (.q 7 (.q 8 (.q 9 (.q 10 (.q 11 (.q 12 (.q 13 (.q 14 (.done [])))))))))))))))) [] (by decide +kernel) ?_) | (refine A_drawL WideF.wide (.q 0 (.q 1 (.q 2 (.q 3 (.q 4 (.q 5 (.q 6 (.q 7 (.q 8 (.q 9 (.q 10 (.q 11 (.q 12 (.q 13 (.q 14 (.done [])))))))))))))))) [] (by decide +kernel) ?_) | (refine D_ev rfl (Ev_sub rfl rfl hsub) rfl rfl ?_) | (refine D_ev rfl (Ev_loadH1 rfl (hcy 0 _ rfl)) rfl rfl ?_) | (refine D_ev rfl (Ev_loadH1 rfl (hcz 0 _ rfl)) rfl rfl ?_) | refine O_nil ?_ | refine A_seq ?_ | refine A_region ?_ | refine A_skip ?_ | refine A_ret ?_ | refine A_block ?_ | (show drJ _ _ _ _ _ _ _ (.q _ _) _; refine D_q rfl ?_) | (show drJ _ _ _ _ _ _ _ (.done _) _; refine D_done ?_; simp only [List.cons_append, List.nil_append]) | (show drQ _ _ _ _ _ _; first | (refine D_split rfl rfl (fun h => ?_) (fun h => ?_) <;> try (exfalso; omega)) | refine D_ev rfl (Ev_pure rfl) rfl rfl ?_ | (show drQ _ _ _ ⟨_, .indexAddr _ _ _, _, _, _, _⟩ _ _; refine D_ev rfl (Ev_indexAddr rfl rfl (by omega) (by omega)) rfl rfl ?_)) | (show opsA _ _ _ _ _ _ _; first | (refine O_split rfl rfl (fun h => ?_) (fun h => ?_) <;> try (exfalso; omega)) | refine O_ev WideF.wide rfl (Ev_pure rfl) rfl rfl ?_ | (show opsA _ _ _ _ (⟨_, .indexAddr _ _ _, _, _, _, _⟩ :: _) _ _; refine O_ev WideF.wide rfl (Ev_indexAddr rfl rfl (by omega) (by omega)) rfl rfl ?_) | (show opsA _ _ _ _ (⟨_, .call _, _, _, _, _⟩ :: _) _ _; refine O_ev WideF.wide rfl (Ev_llen rfl) rfl rfl ?_)) | (show wpA _ _ _ (.cond _ _ _) _ _ _ _; (refine A_if rfl (fun h => ?_) (fun h => ?_) <;> try (exfalso; omega))))
                  all_goals first
                    | (exfalso; omega)
                    | (refine End_e (Ret1 rfl rfl) ⟨?_, rfl⟩; rw [hv])
                · rw [if_neg hyz] at he
                  by_cases hlz : y < z
                  · rw [if_pos hlz] at he
                    have hv := hret 6 (by omega) he
                    repeat' (first | (refine O_ev WideF.wide rfl (Ev_loadH1 rfl (hcy 0 _ rfl)) rfl rfl ?_) | (refine A_drawL WideF.wide (.q 0 (.q 1 (.q 2 (.q 3 (.q 4 (.q 5 (.q 6 (.q 7 (.q 8 (.q 9 (.q 10 (.q 11 (.q 12 (.q 13 (.q 14 (.done [])))))))))))))))) [] (by decide +kernel) ?_) | (refine A_drawL WideF.wide (.q 0 (.q 1 (.q 2 (.q 3 (.q 4 (.q 5 (.q 6 (.q 7 (.q 8 (.q 9 (.q 10 (.q 11 (.q 12 (.q 13 (.q 14 (.done [])))))))))))))))) [] (by decide +kernel) ?_) | (refine D_ev rfl (Ev_sub rfl rfl hsub) rfl rfl ?_) | (refine D_ev rfl (Ev_loadH1 rfl (hcy 0 _ rfl)) rfl rfl ?_) | (refine D_ev rfl (Ev_loadH1 rfl (hcz 0 _ rfl)) rfl rfl ?_) | refine O_nil ?_ | refine A_seq ?_ | refine A_region ?_ | refine A_skip ?_ | refine A_ret ?_ | refine A_block ?_ | (show drJ _ _ _ _ _ _ _ (.q _ _) _; refine D_q rfl ?_) | (show drJ _ _ _ _ _ _ _ (.done _) _; refine D_done ?_; simp only [List.cons_append, List.nil_append]) | (show drQ _ _ _ _ _ _; first | (refine D_split rfl rfl (fun h => ?_) (fun h => ?_) <;> try (exfalso; omega)) | refine D_ev rfl (Ev_pure rfl) rfl rfl ?_ | (show drQ _ _ _ ⟨_, .indexAddr _ _ _, _, _, _, _⟩ _ _; refine D_ev rfl (Ev_indexAddr rfl rfl (by omega) (by omega)) rfl rfl ?_)) | (show opsA _ _ _ _ _ _ _; first | (refine O_split rfl rfl (fun h => ?_) (fun h => ?_) <;> try (exfalso; omega)) | refine O_ev WideF.wide rfl (Ev_pure rfl) rfl rfl ?_ | (show opsA _ _ _ _ (⟨_, .indexAddr _ _ _, _, _, _, _⟩ :: _) _ _; refine O_ev WideF.wide rfl (Ev_indexAddr rfl rfl (by omega) (by omega)) rfl rfl ?_) | (show opsA _ _ _ _ (⟨_, .call _, _, _, _, _⟩ :: _) _ _; refine O_ev WideF.wide rfl (Ev_llen rfl) rfl rfl ?_)) | (show wpA _ _ _ (.cond _ _ _) _ _ _ _; (refine A_if rfl (fun h => ?_) (fun h => ?_) <;> try (exfalso; omega))))
                    all_goals first
                      | (exfalso; omega)
                      | (refine End_e (Ret1 rfl rfl) ⟨?_, rfl⟩; rw [hv])
                  · rw [if_neg hlz] at he
                    repeat' (first | (refine O_ev WideF.wide rfl (Ev_loadH1 rfl (hcy 0 _ rfl)) rfl rfl ?_) | (refine A_drawL WideF.wide (.q 0 (.q 1 (.q 2 (.q 3 (.q 4 (.q 5 (.q 6 (.q 7 (.q 8 (.q 9 (.q 10 (.q 11 (.q 12 (.q 13 (.q 14 (.done [])))))))))))))))) [] (by decide +kernel) ?_) | (refine A_drawL WideF.wide (.q 0 (.q 1 (.q 2 (.q 3 (.q 4 (.q 5 (.q 6 (.q 7 (.q 8 (.q 9 (.q 10 (.q 11 (.q 12 (.q 13 (.q 14 (.done [])))))))))))))))) [] (by decide +kernel) ?_) | (refine D_ev rfl (Ev_sub rfl rfl hsub) rfl rfl ?_) | (refine D_ev rfl (Ev_loadH1 rfl (hcy 0 _ rfl)) rfl rfl ?_) | (refine D_ev rfl (Ev_loadH1 rfl (hcz 0 _ rfl)) rfl rfl ?_) | refine O_nil ?_ | refine A_seq ?_ | refine A_region ?_ | refine A_skip ?_ | refine A_block ?_ | (show drJ _ _ _ _ _ _ _ (.q _ _) _; refine D_q rfl ?_) | (show drJ _ _ _ _ _ _ _ (.done _) _; refine D_done ?_; simp only [List.cons_append, List.nil_append]) | (show drQ _ _ _ _ _ _; first | (refine D_split rfl rfl (fun h => ?_) (fun h => ?_) <;> try (exfalso; omega)) | refine D_ev rfl (Ev_pure rfl) rfl rfl ?_ | (show drQ _ _ _ ⟨_, .indexAddr _ _ _, _, _, _, _⟩ _ _; refine D_ev rfl (Ev_indexAddr rfl rfl (by omega) (by omega)) rfl rfl ?_)) | (show opsA _ _ _ _ _ _ _; first | (refine O_split rfl rfl (fun h => ?_) (fun h => ?_) <;> try (exfalso; omega)) | refine O_ev WideF.wide rfl (Ev_pure rfl) rfl rfl ?_ | (show opsA _ _ _ _ (⟨_, .indexAddr _ _ _, _, _, _, _⟩ :: _) _ _; refine O_ev WideF.wide rfl (Ev_indexAddr rfl rfl (by omega) (by omega)) rfl rfl ?_) | (show opsA _ _ _ _ (⟨_, .call _, _, _, _, _⟩ :: _) _ _; refine O_ev WideF.wide rfl (Ev_llen rfl) rfl rfl ?_) | (show opsA _ _ _ _ (⟨_, .binOp _ _ _ _ _, _, _, _, _⟩ :: _) _ _; refine O_ev WideF.wide rfl (Ev_add rfl rfl (wi64 (by omega))) rfl rfl ?_)) | (show wpA _ _ _ (.cond _ _ _) _ _ _ _; (refine A_if rfl (fun h => ?_) (fun h => ?_) <;> try (exfalso; omega))))
                    all_goals first
                      | (exfalso; omega)
                      | (refine Shift.to ⟨_, ?_, i + 1 + 1, rfl, by omega, fun j hj => ?_, rfl⟩ ⟨rfl, rfl, rfl, ⟨rfl, rfl, rfl, rfl, rfl, rfl, trivial⟩, Own.subi [] (by decide) rfl rfl⟩
                         · omega
                         · by_cases hji : j = i + 1
                           · rw [hji]; exact he
                           · exact hall j (by omega))
          · have hin : xn = i := by omega
            have hz := hxn (chkL_ok fun j hj => hall j (by omega))
            repeat' (first | refine O_nil ?_ | refine A_seq ?_ | refine A_region ?_ | (show opsA _ _ _ _ _ _ _; first | refine O_ev WideF.wide rfl (Ev_pure rfl) rfl rfl ?_ | (show opsA _ _ _ _ (⟨_, .call _, _, _, _, _⟩ :: _) _ _; refine O_ev WideF.wide rfl (Ev_llen rfl) rfl rfl ?_) | (show opsA _ _ _ _ (⟨_, .binOp _ _ _ _ _, _, _, _, _⟩ :: _) _ _; refine O_ev WideF.wide rfl (Ev_add rfl rfl (wi64 (by omega))) rfl rfl ?_)) | (show wpA _ _ _ (.exit _) _ _ _ _; refine A_exit rfl ?_) | (show wpA _ _ _ (.cond _ _ _) _ _ _ _; (refine A_if rfl (fun h => ?_) (fun h => ?_) <;> try (exfalso; omega))))
            refine Shift.to ⟨_, ?_, k + 1, rfl, by omega, hz.1, hz.2, rfl⟩ ⟨rfl, rfl, rfl, ⟨rfl, rfl, rfl, rfl, trivial⟩, Own.subi [] (by decide) rfl rfl⟩
            omega
      · have hk2' : k = 2 := by omega
        repeat' (first | refine O_nil ?_ | refine A_seq ?_ | refine A_region ?_ | (show opsA _ _ _ _ _ _ _; refine O_ev WideF.wide rfl (Ev_pure rfl) rfl rfl ?_) | (show wpA _ _ _ (.exit _) _ _ _ _; refine A_exit rfl ?_) | (show wpA _ _ _ (.cond _ _ _) _ _ _ _; (refine A_if rfl (fun h => ?_) (fun h => ?_) <;> try (exfalso; omega))))
        exact Shift.to ⟨hk1 (by omega), hk2 (by omega), rfl⟩ ⟨rfl, rfl, rfl, ⟨rfl, rfl, trivial⟩, Own.subi [] (by decide) rfl rfl⟩
  rintro s ⟨hz1, hz2, rfl⟩
  have g1 := g1.mono hle2
  have g2 := g2.mono hle2
  have hb2 : HCells H2 b1 0 [.slice aa an ac, .slice ra rn rc] := fun j v hj => hle2 _ _ _ (hb1 j v hj)
  have hhas := fun x => lhas_fn (x := x) g2 (by omega)
  have hv : chkD d = if d.acc.any (fun x => decide (x ∈ d.rej)) then 23 else 0 := by unfold chkD; rw [if_neg (by simp [hz1]), if_neg (by simp [hz2])]
  rw [hv]
  repeat' (first | refine O_nil ?_ | refine A_seq ?_ | refine A_region ?_ | refine A_block ?_ | (show opsA _ _ _ _ _ _ _; refine O_ev WideF.wide rfl (Ev_pure rfl) rfl rfl ?_))
  refine A_loopu (fun m s => ∃ (i : Nat), m = an - i ∧ i ≤ an ∧ (∀ x ∈ d.acc.take i, x ∉ d.rej) ∧ s = ⟨85, [(7, .int .i64 i), (1, ptr b1), (2, .int .i64 0)], H2, [], [], []⟩) ?_ ?_
  · exact Shift.to ⟨_, 0, rfl, by omega, fun x hx => by simp at hx, rfl⟩ ⟨rfl, rfl, rfl, ⟨rfl, rfl, rfl, trivial⟩, Own.subi [] (by decide) rfl rfl⟩
  · rintro m s ⟨i, rfl, hi, hall, rfl⟩
    by_cases hil : i < an
    · obtain ⟨b2, o2, y, rfl, hyi, hcy⟩ := g1.atm i hil
      unfold irow at hcy
      have hy := hhas y
      by_cases hmy : y ∈ d.rej
      · rw [decide_eq_true hmy] at hy
        have hany : d.acc.any (fun x => decide (x ∈ d.rej)) = true := List.any_eq_true.2 ⟨y, List.mem_of_getElem? hyi, decide_eq_true hmy⟩
        rw [hany]
        repeat' (first | (refine O_ev WideF.wide rfl (Ev_loadH1 rfl (hb2 0 _ rfl)) rfl rfl ?_) | (refine A_drawL WideF.wide (.q 0 (.q 1 (.q 2 (.q 3 (.q 4 (.q 5 (.q 6 (.e 7 (.done []))))))))) [] (by decide +kernel) ?_) | (refine D_ev rfl (Ev_loadH1 rfl (hb2 0 _ rfl)) rfl rfl ?_) | (refine D_ev rfl (Ev_loadH1 rfl (hb2 1 _ rfl)) rfl rfl ?_) | (refine D_ev rfl (Ev_loadH1 rfl (hcy 0 _ rfl)) rfl rfl ?_) | (refine E_ef rfl (Ef_callp WideF.wide hy ⟨rfl, rfl, trivial⟩ rfl ?_); refine ⟨Grow.same rfl rfl, ?_⟩) | refine O_nil ?_ | refine A_seq ?_ | refine A_region ?_ | refine A_skip ?_ | refine A_ret ?_ | refine A_block ?_ | (show drJ _ _ _ _ _ _ _ (.q _ _) _; refine D_q rfl ?_) | (show drJ _ _ _ _ _ _ _ (.e _ _) _; refine D_e rfl ?_) | (show drJ _ _ _ _ _ _ _ (.done _) _; refine D_done ?_; simp only [List.cons_append, List.nil_append]) | (show drQ _ _ _ _ _ _; first | refine D_ev rfl (Ev_pure rfl) rfl rfl ?_ | (show drQ _ _ _ ⟨_, .indexAddr _ _ _, _, _, _, _⟩ _ _; refine D_ev rfl (Ev_indexAddr rfl rfl (by omega) (by omega)) rfl rfl ?_) | (show drQ _ _ _ ⟨_, .fieldAddr _ _ _, _, _, _, _⟩ _ _; refine D_ev rfl (Ev_fieldAddr rfl rfl rfl) rfl rfl ?_)) | (show opsA _ _ _ _ _ _ _; first | refine O_ev WideF.wide rfl (Ev_pure rfl) rfl rfl ?_ | (show opsA _ _ _ _ (⟨_, .fieldAddr _ _ _, _, _, _, _⟩ :: _) _ _; refine O_ev WideF.wide rfl (Ev_fieldAddr rfl rfl rfl) rfl rfl ?_) | (show opsA _ _ _ _ (⟨_, .call _, _, _, _, _⟩ :: _) _ _; refine O_ev WideF.wide rfl (Ev_llen rfl) rfl rfl ?_)) | (show wpA _ _ _ (.cond _ _ _) _ _ _ _; first | (refine A_if rfl (fun h => ?_) (fun h => ?_) <;> try (exfalso; omega)) | refine A_iftrue rfl ?_))
        all_goals exact End_e (Ret1 rfl rfl) ⟨rfl, rfl⟩
      · rw [decide_eq_false hmy] at hy
        repeat' (first | (refine O_ev WideF.wide rfl (Ev_loadH1 rfl (hb2 0 _ rfl)) rfl rfl ?_) | (refine A_drawL WideF.wide (.q 0 (.q 1 (.q 2 (.q 3 (.q 4 (.q 5 (.q 6 (.e 7 (.done []))))))))) [] (by decide +kernel) ?_) | (refine D_ev rfl (Ev_loadH1 rfl (hb2 0 _ rfl)) rfl rfl ?_) | (refine D_ev rfl (Ev_loadH1 rfl (hb2 1 _ rfl)) rfl rfl ?_) | (refine D_ev rfl (Ev_loadH1 rfl (hcy 0 _ rfl)) rfl rfl ?_) | (refine E_ef rfl (Ef_callp WideF.wide hy ⟨rfl, rfl, trivial⟩ rfl ?_); refine ⟨Grow.same rfl rfl, ?_⟩) | refine O_nil ?_ | refine A_seq ?_ | refine A_region ?_ | refine A_skip ?_ | refine A_block ?_ | (show drJ _ _ _ _ _ _ _ (.q _ _) _; refine D_q rfl ?_) | (show drJ _ _ _ _ _ _ _ (.e _ _) _; refine D_e rfl ?_) | (show drJ _ _ _ _ _ _ _ (.done _) _; refine D_done ?_; simp only [List.cons_append, List.nil_append]) | (show drQ _ _ _ _ _ _; first | refine D_ev rfl (Ev_pure rfl) rfl rfl ?_ | (show drQ _ _ _ ⟨_, .indexAddr _ _ _, _, _, _, _⟩ _ _; refine D_ev rfl (Ev_indexAddr rfl rfl (by omega) (by omega)) rfl rfl ?_) | (show drQ _ _ _ ⟨_, .fieldAddr _ _ _, _, _, _, _⟩ _ _; refine D_ev rfl (Ev_fieldAddr rfl rfl rfl) rfl rfl ?_)) | (show opsA _ _ _ _ _ _ _; first | refine O_ev WideF.wide rfl (Ev_pure rfl) rfl rfl ?_ | (show opsA _ _ _ _ (⟨_, .fieldAddr _ _ _, _, _, _, _⟩ :: _) _ _; refine O_ev WideF.wide rfl (Ev_fieldAddr rfl rfl rfl) rfl rfl ?_) | (show opsA _ _ _ _ (⟨_, .call _, _, _, _, _⟩ :: _) _ _; refine O_ev WideF.wide rfl (Ev_llen rfl) rfl rfl ?_) | (show opsA _ _ _ _ (⟨_, .binOp _ _ _ _ _, _, _, _, _⟩ :: _) _ _; refine O_ev WideF.wide rfl (Ev_add rfl rfl (wi64 (by omega))) rfl rfl ?_)) | (show wpA _ _ _ (.cond _ _ _) _ _ _ _; first | (refine A_if rfl (fun h => ?_) (fun h => ?_) <;> try (exfalso; omega)) | refine A_iffalse rfl ?_))
        refine Shift.to ⟨_, ?_, i + 1, rfl, by omega, fun x hx => ?_, rfl⟩ ⟨rfl, rfl, rfl, ⟨rfl, rfl, rfl, trivial⟩, Own.subi [] (by decide) rfl rfl⟩
        · omega
        · rw [take_get hyi] at hx
          rcases List.mem_append.1 hx with hx | hx
          · exact hall x hx
          · simp at hx; subst hx; exact hmy
    · have hin : an = i := by omega
      rw [List.take_of_length_le (by omega)] at hall
      have hany : d.acc.any (fun x => decide (x ∈ d.rej)) = false := List.any_eq_false.2 fun x hx => by simp [hall x hx]
      rw [hany]
      repeat' (first | (refine O_ev WideF.wide rfl (Ev_loadH1 rfl (hb2 0 _ rfl)) rfl rfl ?_) | refine O_nil ?_ | refine A_seq ?_ | refine A_region ?_ | refine A_ret ?_ | (show opsA _ _ _ _ _ _ _; first | refine O_ev WideF.wide rfl (Ev_pure rfl) rfl rfl ?_ | (show opsA _ _ _ _ (⟨_, .fieldAddr _ _ _, _, _, _, _⟩ :: _) _ _; refine O_ev WideF.wide rfl (Ev_fieldAddr rfl rfl rfl) rfl rfl ?_) | (show opsA _ _ _ _ (⟨_, .call _, _, _, _, _⟩ :: _) _ _; refine O_ev WideF.wide rfl (Ev_llen rfl) rfl rfl ?_)) | (show wpA _ _ _ (.exit _) _ _ _ _; refine A_exit rfl ?_) | (show wpA _ _ _ (.cond _ _ _) _ _ _ _; (refine A_if rfl (fun h => ?_) (fun h => ?_) <;> try (exfalso; omega))))
      exact End_e (Ret1 rfl rfl) ⟨rfl, rfl⟩
end Go.Proofs.Ythniohgeojenaaa
