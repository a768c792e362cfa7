/-
  the law's union.
-/
import Derived.Test.YthniohgeojenaaaS12
namespace Go.Proofs.Ythniohgeojenaaa
open Go
set_option linter.unusedVariables false
set_option linter.unusedSimpArgs false
theorem one3 (x y : List Int) : ∀ cs ∈ [] ++ x.map irow ++ y.map irow, ∀ u ∈ cs, u.oneCell' = true := fun cs hcs => by
  rw [List.nil_append, ← List.map_append] at hcs
  exact irow_one (x ++ y) cs hcs
attribute [local irreducible] wpA opsA drJ drQ drE Ef Ev Shift Fn
set_option maxRecDepth 100000 in
set_option maxHeartbeats 16000000 in
theorem lawUnion_fn {H : Hp} {acs bcs : List Value} {dA dB : Dec} (ha : DecH H acs dA) (hb : DecH H bcs dB) (m1 : dA.acc.length ≤ 4096) (m2 : dA.rej.length ≤ 4096) (m3 : dB.acc.length ≤ 4096) (m4 : dB.rej.length ≤ 4096) :
    Fn Try.prog 35 [.agg acs.toArray, .agg bcs.toArray] H [] (UnionIs dA dB) := by
  obtain ⟨aa, an, ac, ra, rn, rc, rfl, g1, g2⟩ := ha.ex
  obtain ⟨ba, bn, bc, sa, sn, sc, rfl, g3, g4⟩ := hb.ex
  have ck1 := check_fn ha (by omega) (by omega)
  have ck2 := fun Hx (hx : HLe H Hx) => check_fn (hb.mono hx) (by omega) (by omega)
  refine Fn_of _ _ Try.func35 rfl Try.ntmps35 rfl fun c => ?_
  refine A_seq ?_
  refine A_cutu (fun s => ∃ b2 b3 b4, s = ⟨43, [(2, ptr b2), (3, ptr b3), (4, ptr b4), (5, .int .i64 0)], H, [.box b2 [.slice aa an ac, .slice ra rn rc], .box b3 [.slice ba bn bc, .slice sa sn sc], .box b4 zDec], [], []⟩) ?_ ?_
  · repeat' (first | refine O_nil ?_ | refine A_region ?_ | (show opsA _ _ _ _ _ _ _; first | refine O_ev WideF.wide rfl (Ev_pure rfl) rfl rfl ?_ | (show opsA _ _ _ _ (⟨_, .alloc _, _, _, _, _⟩ :: _) _ _; (refine O_ef rfl (Ef_alloc WideF.wide rfl ?_); intro b)) | (show opsA _ _ _ _ (⟨_, .box _ _, _, _, _, _⟩ :: _) _ _; (refine O_ef rfl (Ef_boxa WideF.wide rfl rfl ?_); intro b))))
    exact Shift.to ⟨_, _, _, rfl⟩ ⟨rfl, rfl, rfl, ⟨rfl, rfl, rfl, rfl, trivial⟩, Own.subi [2, 1, 0] (by decide) rfl rfl⟩
  rintro s ⟨b2, b3, b4, rfl⟩
  by_cases hz1 : chkD dA = 0
  · rw [hz1] at ck1
    by_cases hz2 : chkD dB = 0
    · simp only [hz2] at ck2
      repeat' (first | (refine O_ef rfl (Ef_call (I := []) WideF.wide ck1 ⟨rfl, trivial⟩ rfl ?_); rintro v H1 I1 hle1 ⟨rfl, rfl⟩) | (refine O_ef rfl (Ef_call (I := []) WideF.wide (ck2 _ hle1) ⟨rfl, trivial⟩ rfl ?_); rintro v H2 I2 hle2 ⟨rfl, rfl⟩) | refine O_nil ?_ | refine A_seq ?_ | refine A_region ?_ | refine A_skip ?_ | (show opsA _ _ _ _ _ _ _; first | refine O_ev WideF.wide rfl (Ev_pure rfl) rfl rfl ?_ | (show opsA _ _ _ _ (⟨_, .load _ _, _, _, _, _⟩ :: _) _ _; first | refine O_ev WideF.wide rfl (Ev_loadB (i := 0) rfl rfl rfl) rfl rfl ?_ | refine O_ev WideF.wide rfl (Ev_loadB (i := 1) rfl rfl rfl) rfl rfl ?_)) | (show wpA _ _ _ (.cond _ _ _) _ _ _ _; (refine A_if rfl (fun h => ?_) (fun h => ?_) <;> try (exfalso; omega))))
      all_goals try (exfalso; omega)
      have hle2 := hle1.trans hle2
      have g1 := g1.mono hle2
      have g2 := g2.mono hle2
      have g3 := g3.mono hle2
      have g4 := g4.mono hle2
      have la := sortI_len (dA.acc ++ dB.acc)
      have lr := sortI_len (dA.rej ++ dB.rej)
      rw [List.length_append] at la lr
      have n1 : dA.acc.length = an := by have := g1.len; simpa using this
      have n2 : dA.rej.length = rn := by have := g2.len; simpa using this
      have n3 : dB.acc.length = bn := by have := g3.len; simpa using this
      have n4 : dB.rej.length = sn := by have := g4.len; simpa using this
      have hsA : ∀ Hx lb ln lc, HLe H2 Hx → HRow Hx lb ln lc 1 ([] ++ dA.acc.map irow ++ dB.acc.map irow) → Fn Try.prog 46 [.slice lb ln lc] Hx [] (IntsIs (uniD dA dB).acc) := fun Hx lb ln lc _ h => by
        have hl := h.len
        rw [List.nil_append, ← List.map_append] at h
        simp at hl
        exact sorted_fn h (by omega)
      have hsR : ∀ Hx lb ln lc, HLe H2 Hx → HRow Hx lb ln lc 1 ([] ++ dA.rej.map irow ++ dB.rej.map irow) → Fn Try.prog 46 [.slice lb ln lc] Hx [] (IntsIs (uniD dA dB).rej) := fun Hx lb ln lc _ h => by
        have hl := h.len
        rw [List.nil_append, ← List.map_append] at h
        simp at hl
        exact sorted_fn h (by omega)
      refine A_cutu (fun s => ∃ (H3 : Hp) (ucs : List Value) (b8 : Nat), HLe H2 H3 ∧ DecH H3 ucs (uniD dA dB) ∧ s = ⟨43, [(8, ptr b8), (2, ptr b2), (3, ptr b3), (4, ptr b4), (5, .int .i64 0)], H3, [.box b8 ucs, .box b2 [.slice aa an ac, .slice ra rn rc], .box b3 [.slice ba bn bc, .slice sa sn sc], .box b4 zDec], [], []⟩) ?_ ?_
      · (refine A_drawi WideF.wide (.p 1 (.q 2 (.q 4 (.q 5 (.p 9 (.q 10 (.q 12 (.q 13 (.g 0 (.g 3 (.g 6 (.g 7 (.f 8 (.f 11 (.f 14 (.f 15 (.p 16 (.e 17 (.r (.e 18 (.done []))))) 17 (.e 15 (.q 16 (.r (.e 18 (.done [])))))) 17 (.e 14 (.e 15 (.q 16 (.r (.e 18 (.done []))))))) 17 (.e 11 (.e 14 (.e 15 (.q 16 (.r (.e 18 (.done [])))))))) 17 (.e 8 (.e 11 (.e 14 (.e 15 (.q 16 (.r (.e 18 (.done []))))))))) 8 (.f 7 (.f 11 (.f 14 (.f 15 (.q 16 (.e 17 (.r (.e 18 (.done []))))) 17 (.e 15 (.q 16 (.r (.e 18 (.done [])))))) 17 (.e 14 (.e 15 (.q 16 (.r (.e 18 (.done []))))))) 17 (.e 11 (.e 14 (.e 15 (.q 16 (.r (.e 18 (.done [])))))))) 17 (.e 7 (.e 11 (.e 14 (.e 15 (.q 16 (.r (.e 18 (.done []))))))))) 17 (.f 7 (.e 8 (.e 11 (.e 14 (.e 15 (.q 16 (.r (.e 18 (.done [])))))))) 8 (.e 7 (.e 11 (.e 14 (.e 15 (.q 16 (.r (.e 18 (.done [])))))))))) 8 (.f 6 (.f 7 (.f 11 (.f 14 (.f 15 (.q 16 (.e 17 (.r (.e 18 (.done []))))) 17 (.e 15 (.q 16 (.r (.e 18 (.done [])))))) 17 (.e 14 (.e 15 (.q 16 (.r (.e 18 (.done []))))))) 17 (.e 11 (.e 14 (.e 15 (.q 16 (.r (.e 18 (.done [])))))))) 17 (.e 7 (.e 11 (.e 14 (.e 15 (.q 16 (.r (.e 18 (.done []))))))))) 17 (.e 6 (.e 7 (.e 11 (.e 14 (.e 15 (.q 16 (.r (.e 18 (.done [])))))))))) 17 (.f 6 (.f 7 (.e 8 (.e 11 (.e 14 (.e 15 (.q 16 (.r (.e 18 (.done [])))))))) 8 (.e 7 (.e 11 (.e 14 (.e 15 (.q 16 (.r (.e 18 (.done []))))))))) 8 (.e 6 (.e 7 (.e 11 (.e 14 (.e 15 (.q 16 (.r (.e 18 (.done []))))))))))) 8 (.f 3 (.f 6 (.f 7 (.f 11 (.f 14 (.f 15 (.q 16 (.e 17 (.r (.e 18 (.done []))))) 17 (.e 15 (.q 16 (.r (.e 18 (.done [])))))) 17 (.e 14 (.e 15 (.q 16 (.r (.e 18 (.done []))))))) 17 (.e 11 (.e 14 (.e 15 (.q 16 (.r (.e 18 (.done [])))))))) 17 (.e 7 (.e 11 (.e 14 (.e 15 (.q 16 (.r (.e 18 (.done []))))))))) 17 (.e 6 (.e 7 (.e 11 (.e 14 (.e 15 (.q 16 (.r (.e 18 (.done [])))))))))) 17 (.e 3 (.e 6 (.e 7 (.e 11 (.e 14 (.e 15 (.q 16 (.r (.e 18 (.done []))))))))))) 17 (.f 3 (.f 6 (.f 7 (.e 8 (.e 11 (.e 14 (.e 15 (.q 16 (.r (.e 18 (.done [])))))))) 8 (.e 7 (.e 11 (.e 14 (.e 15 (.q 16 (.r (.e 18 (.done []))))))))) 8 (.e 6 (.e 7 (.e 11 (.e 14 (.e 15 (.q 16 (.r (.e 18 (.done [])))))))))) 8 (.e 3 (.e 6 (.e 7 (.e 11 (.e 14 (.e 15 (.q 16 (.r (.e 18 (.done [])))))))))))) 8 (.f 0 (.f 3 (.f 6 (.f 7 (.f 11 (.f 14 (.f 15 (.q 16 (.e 17 (.r (.e 18 (.done []))))) 17 (.e 15 (.q 16 (.r (.e 18 (.done [])))))) 17 (.e 14 (.e 15 (.q 16 (.r (.e 18 (.done []))))))) 17 (.e 11 (.e 14 (.e 15 (.q 16 (.r (.e 18 (.done [])))))))) 17 (.e 7 (.e 11 (.e 14 (.e 15 (.q 16 (.r (.e 18 (.done []))))))))) 17 (.e 6 (.e 7 (.e 11 (.e 14 (.e 15 (.q 16 (.r (.e 18 (.done [])))))))))) 17 (.e 3 (.e 6 (.e 7 (.e 11 (.e 14 (.e 15 (.q 16 (.r (.e 18 (.done []))))))))))) 17 (.e 0 (.e 3 (.e 6 (.e 7 (.e 11 (.e 14 (.e 15 (.q 16 (.r (.e 18 (.done [])))))))))))) 17 (.f 0 (.f 3 (.f 6 (.f 7 (.e 8 (.e 11 (.e 14 (.e 15 (.q 16 (.r (.e 18 (.done [])))))))) 8 (.e 7 (.e 11 (.e 14 (.e 15 (.q 16 (.r (.e 18 (.done []))))))))) 8 (.e 6 (.e 7 (.e 11 (.e 14 (.e 15 (.q 16 (.r (.e 18 (.done [])))))))))) 8 (.e 3 (.e 6 (.e 7 (.e 11 (.e 14 (.e 15 (.q 16 (.r (.e 18 (.done []))))))))))) 8 (.e 0 (.e 3 (.e 6 (.e 7 (.e 11 (.e 14 (.e 15 (.q 16 (.r (.e 18 (.done []))))))))))))))))))))) [18] [] [0, 1, 2] (by decide +kernel) (by decide) rfl ?_; simp only [Own.picks, Own.rget, List.cons_append, List.nil_append, List.append_nil])
        repeat' (first | (refine E_ef rfl (Ef_build0 WideF.wide rfl ?_); intro bz; refine ⟨Grow.same rfl rfl, ?_⟩) | (refine E_ef rfl ?_; (first | refine Ef_appendH WideF.wide rfl rfl g1 rfl rfl (by simp <;> omega) (by simp <;> omega) rfl ?_ | refine Ef_f1 (Ef_appendH WideF.wide rfl rfl g1 rfl rfl (by simp <;> omega) (by simp <;> omega) rfl ?_) | refine Ef_f2 (Ef_appendH WideF.wide rfl rfl g1 rfl rfl (by simp <;> omega) (by simp <;> omega) rfl ?_)); intro xa xc; refine ⟨Grow.same rfl rfl, ?_⟩) | (refine E_ef rfl ?_; (first | refine Ef_appendH WideF.wide rfl rfl g3 rfl rfl (by simp <;> omega) (by simp <;> omega) rfl ?_ | refine Ef_f1 (Ef_appendH WideF.wide rfl rfl g3 rfl rfl (by simp <;> omega) (by simp <;> omega) rfl ?_) | refine Ef_f2 (Ef_appendH WideF.wide rfl rfl g3 rfl rfl (by simp <;> omega) (by simp <;> omega) rfl ?_)); intro xa xc; refine ⟨Grow.same rfl rfl, ?_⟩) | (refine E_ef rfl ?_; (first | refine Ef_appendH WideF.wide rfl rfl (g2.mono (hle3.trans hle4)) rfl rfl (by simp <;> omega) (by simp <;> omega) rfl ?_ | refine Ef_f1 (Ef_appendH WideF.wide rfl rfl (g2.mono (hle3.trans hle4)) rfl rfl (by simp <;> omega) (by simp <;> omega) rfl ?_) | refine Ef_f2 (Ef_appendH WideF.wide rfl rfl (g2.mono (hle3.trans hle4)) rfl rfl (by simp <;> omega) (by simp <;> omega) rfl ?_)); intro xa xc; refine ⟨Grow.same rfl rfl, ?_⟩) | (refine E_ef rfl ?_; (first | refine Ef_appendH WideF.wide rfl rfl (g4.mono (hle3.trans hle4)) rfl rfl (by simp <;> omega) (by simp <;> omega) rfl ?_ | refine Ef_f1 (Ef_appendH WideF.wide rfl rfl (g4.mono (hle3.trans hle4)) rfl rfl (by simp <;> omega) (by simp <;> omega) rfl ?_) | refine Ef_f2 (Ef_appendH WideF.wide rfl rfl (g4.mono (hle3.trans hle4)) rfl rfl (by simp <;> omega) (by simp <;> omega) rfl ?_)); intro xa xc; refine ⟨Grow.same rfl rfl, ?_⟩) | (refine E_ef rfl ?_; refine Ef_frz (one3 _ _) ?_; intro H3 hle3 r3; refine Ef_call (I := []) WideF.wide (hsA _ _ _ _ hle3 r3) ⟨rfl, trivial⟩ rfl ?_; rintro v H4 IH4 hle4 ⟨⟨ua, un, uc, rfl, hu⟩, rfl⟩; refine ⟨⟨hle3.trans hle4, rfl⟩, ?_⟩) | (refine E_ef rfl ?_; refine Ef_f1 ?_; refine Ef_frz (one3 _ _) ?_; intro H3 hle3 r3; refine Ef_call (I := []) WideF.wide (hsA _ _ _ _ hle3 r3) ⟨rfl, trivial⟩ rfl ?_; rintro v H4 IH4 hle4 ⟨⟨ua, un, uc, rfl, hu⟩, rfl⟩; refine ⟨⟨hle3.trans hle4, rfl⟩, ?_⟩) | (refine E_ef rfl ?_; refine Ef_f2 ?_; refine Ef_frz (one3 _ _) ?_; intro H3 hle3 r3; refine Ef_call (I := []) WideF.wide (hsA _ _ _ _ hle3 r3) ⟨rfl, trivial⟩ rfl ?_; rintro v H4 IH4 hle4 ⟨⟨ua, un, uc, rfl, hu⟩, rfl⟩; refine ⟨⟨hle3.trans hle4, rfl⟩, ?_⟩) | (refine E_ef rfl ?_; refine Ef_frz (one3 _ _) ?_; intro H5 hle5 r5; refine Ef_call (I := []) WideF.wide (hsR _ _ _ _ (hle3.trans (hle4.trans hle5)) r5) ⟨rfl, trivial⟩ rfl ?_; rintro v H6 IH6 hle6 ⟨⟨va, vn, vc, rfl, hv⟩, rfl⟩; refine ⟨⟨hle5.trans hle6, rfl⟩, ?_⟩) | (refine E_ef rfl ?_; refine Ef_f1 ?_; refine Ef_frz (one3 _ _) ?_; intro H5 hle5 r5; refine Ef_call (I := []) WideF.wide (hsR _ _ _ _ (hle3.trans (hle4.trans hle5)) r5) ⟨rfl, trivial⟩ rfl ?_; rintro v H6 IH6 hle6 ⟨⟨va, vn, vc, rfl, hv⟩, rfl⟩; refine ⟨⟨hle5.trans hle6, rfl⟩, ?_⟩) | refine O_nil ?_ | (show drJ _ _ _ _ _ _ _ (.q _ _) _; refine D_q rfl ?_) | (show drJ _ _ _ _ _ _ _ (.e _ _) _; refine D_e rfl ?_) | (show drJ _ _ _ _ _ _ _ (.f _ _ _ _) _; refine D_f rfl rfl ?_ ?_) | (show drJ _ _ _ _ _ _ _ (.g _ _ _ _ _ _) _; refine D_g rfl rfl rfl ?_ ?_ ?_) | (show drJ _ _ _ _ _ _ _ (.r _) _; refine D_r ?_; simp only [List.cons_append, List.nil_append]) | (show drJ _ _ _ _ _ _ _ (.done _) _; refine D_done ?_; simp only [List.cons_append, List.nil_append]) | (show drQ _ _ _ _ _ _; first | (show drQ _ _ _ ⟨_, .load _ _, _, _, _, _⟩ _ _; first | refine D_ev rfl (Ev_loadB1 (i := 0) rfl rfl rfl) rfl rfl ?_ | refine D_ev rfl (Ev_loadB1 (i := 1) rfl rfl rfl) rfl rfl ?_) | (show drQ _ _ _ ⟨_, .fieldAddr _ _ _, _, _, _, _⟩ _ _; refine D_ev rfl (Ev_fieldAddr rfl rfl rfl) rfl rfl ?_) | (show drQ _ _ _ ⟨_, .build _ _, _, _, _, _⟩ _ _; refine D_ev rfl (Ev_build (vs := [(_, _), (_, _)]) ⟨rfl, rfl, rfl, rfl, trivial⟩ rfl) rfl rfl ?_)) | (show drJ _ _ _ _ _ _ _ (.p _ _) _; refine D_p rfl ?_) | (show drP _ _ _ _ _ _; first | (show drP _ _ _ ⟨_, .fieldAddr _ _ _, _, _, _, _⟩ _ _; refine D_pv rfl (Ev_fieldAddr rfl rfl rfl) rfl rfl ?_) | (show drP _ _ _ ⟨_, .build _ _, _, _, _, _⟩ _ _; refine D_pv rfl (Ev_build (vs := [(_, _), (_, _)]) ⟨rfl, rfl, rfl, rfl, trivial⟩ rfl) rfl rfl ?_)) | (show drE _ _ _ _ _ _ _; first | (show drE _ _ _ _ ⟨_, .alloc _, _, _, _, _⟩ _ _; (refine E_ef rfl (Ef_alloc WideF.wide rfl ?_); intro b; refine ⟨Grow.same rfl rfl, ?_⟩)) | (show drE _ _ _ _ ⟨_, .store _ _ _, _, _, _, _⟩ _ _; (refine E_ef rfl (Ef_storew WideF.wide rfl rfl rfl rfl rfl ?_); refine ⟨Grow.same rfl rfl, ?_⟩))))
        all_goals exact Shift.to ⟨_, _, _, hle3.trans (hle4.trans (hle5.trans hle6)), ⟨⟨_, _, _, _, _, _, rfl, hu.mono (hle5.trans hle6), hv⟩⟩, rfl⟩ ⟨rfl, rfl, rfl, ⟨rfl, rfl, rfl, rfl, rfl, trivial⟩, Own.subi [0, 1, 2, 3] (by decide) rfl rfl⟩
      rintro s ⟨H3, ucs, b8, hle3, hu, rfl⟩
      have hck := check_fn hu (by show (sortI _).length < _; omega) (by show (sortI _).length < _; omega)
      obtain ⟨ca, cn, cq, da, dn, dq, rfl, _, _⟩ := hu.ex
      by_cases hz : chkD (uniD dA dB) = 0
      · have hun : unD dA dB = (uniD dA dB, 0) := by unfold unD; rw [if_neg (by simp [hz1]), if_neg (by simp [hz2]), if_neg (by simp [hz])]
        rw [hz] at hck
        repeat' (first | (refine O_ef rfl (Ef_call (I := []) WideF.wide hck ⟨rfl, trivial⟩ rfl ?_); rintro v H4 I4 hle4 ⟨rfl, rfl⟩) | refine O_nil ?_ | refine A_seq ?_ | refine A_region ?_ | refine A_skip ?_ | refine A_ret ?_ | (show opsA _ _ _ _ _ _ _; first | refine O_ev WideF.wide rfl (Ev_pure rfl) rfl rfl ?_ | (show opsA _ _ _ _ (⟨_, .load _ _, _, _, _, _⟩ :: _) _ _; refine O_ev WideF.wide rfl (Ev_loadB (i := 0) rfl rfl rfl) rfl rfl ?_) | (show opsA _ _ _ _ (⟨_, .store _ _ _, _, _, _, _⟩ :: _) _ _; refine O_f3 (O_ef rfl (Ef_storew WideF.wide rfl rfl rfl rfl rfl ?_)))) | (show wpA _ _ _ (.cond _ _ _) _ _ _ _; (refine A_if rfl (fun h => ?_) (fun h => ?_) <;> try (exfalso; omega))))
        all_goals first
          | (exfalso; omega)
          | (refine End_e (RetT2 rfl rfl (i := 0) rfl rfl rfl) ?_
             unfold UnionIs
             rw [hun]
             exact ⟨⟨_, rfl, hu.mono hle4⟩, rfl⟩)
      · have hun : unD dA dB = (noD, 23) := by unfold unD; rw [if_neg (by simp [hz1]), if_neg (by simp [hz2]), if_pos hz, uniD_err hz1 hz2 hz]
        repeat' (first | (refine O_ef rfl (Ef_call (I := []) WideF.wide hck ⟨rfl, trivial⟩ rfl ?_); rintro v H4 I4 hle4 ⟨rfl, rfl⟩) | refine O_nil ?_ | refine A_seq ?_ | refine A_region ?_ | refine A_ret ?_ | (show opsA _ _ _ _ _ _ _; first | refine O_ev WideF.wide rfl (Ev_pure rfl) rfl rfl ?_ | (show opsA _ _ _ _ (⟨_, .load _ _, _, _, _, _⟩ :: _) _ _; refine O_ev WideF.wide rfl (Ev_loadB (i := 0) rfl rfl rfl) rfl rfl ?_) | (show opsA _ _ _ _ (⟨_, .build _ _, _, _, _, _⟩ :: _) _ _; refine O_ev WideF.wide rfl (Ev_build (vs := []) trivial rfl) rfl rfl ?_) | (show opsA _ _ _ _ (⟨_, .store _ _ _, _, _, _, _⟩ :: _) _ _; refine O_f3 (O_ef rfl (Ef_storew WideF.wide rfl rfl rfl rfl rfl ?_)))) | (show wpA _ _ _ (.cond _ _ _) _ _ _ _; (refine A_if rfl (fun h => ?_) (fun h => ?_) <;> try (exfalso; omega))))
        all_goals first
          | (exfalso; omega)
          | (refine End_e (RetT2 rfl rfl (i := 0) rfl rfl rfl) ?_
             unfold UnionIs
             rw [hun]
             exact ⟨⟨_, rfl, noD_cells _⟩, rfl⟩)
    · have hun : unD dA dB = (noD, chkD dB) := by unfold unD; rw [if_neg (by simp [hz1]), if_pos hz2]
      repeat' (first | (refine O_ef rfl (Ef_call (I := []) WideF.wide ck1 ⟨rfl, trivial⟩ rfl ?_); rintro v H1 I1 hle1 ⟨rfl, rfl⟩) | (refine O_ef rfl (Ef_call (I := []) WideF.wide (ck2 _ hle1) ⟨rfl, trivial⟩ rfl ?_); rintro v H2 I2 hle2 ⟨rfl, rfl⟩) | refine O_nil ?_ | refine A_seq ?_ | refine A_region ?_ | refine A_skip ?_ | refine A_ret ?_ | (show opsA _ _ _ _ _ _ _; first | refine O_ev WideF.wide rfl (Ev_pure rfl) rfl rfl ?_ | (show opsA _ _ _ _ (⟨_, .load _ _, _, _, _, _⟩ :: _) _ _; first | refine O_ev WideF.wide rfl (Ev_loadB (i := 0) rfl rfl rfl) rfl rfl ?_ | refine O_ev WideF.wide rfl (Ev_loadB (i := 1) rfl rfl rfl) rfl rfl ?_) | (show opsA _ _ _ _ (⟨_, .build _ _, _, _, _, _⟩ :: _) _ _; refine O_ev WideF.wide rfl (Ev_build (vs := []) trivial rfl) rfl rfl ?_) | (show opsA _ _ _ _ (⟨_, .store _ _ _, _, _, _, _⟩ :: _) _ _; refine O_f2 (O_ef rfl (Ef_storew WideF.wide rfl rfl rfl rfl rfl ?_)))) | (show wpA _ _ _ (.cond _ _ _) _ _ _ _; (refine A_if rfl (fun h => ?_) (fun h => ?_) <;> try (exfalso; omega))))
      all_goals first
        | (exfalso; omega)
        | (refine End_e (RetT2 rfl rfl (i := 0) rfl rfl rfl) ?_
           unfold UnionIs
           rw [hun]
           exact ⟨⟨_, rfl, noD_cells _⟩, rfl⟩)
  · have hun : unD dA dB = (noD, chkD dA) := by unfold unD; rw [if_pos hz1]
    repeat' (first | (refine O_ef rfl (Ef_call (I := []) WideF.wide ck1 ⟨rfl, trivial⟩ rfl ?_); rintro v H1 I1 hle1 ⟨rfl, rfl⟩) | refine O_nil ?_ | refine A_seq ?_ | refine A_region ?_ | refine A_ret ?_ | (show opsA _ _ _ _ _ _ _; first | refine O_ev WideF.wide rfl (Ev_pure rfl) rfl rfl ?_ | (show opsA _ _ _ _ (⟨_, .load _ _, _, _, _, _⟩ :: _) _ _; refine O_ev WideF.wide rfl (Ev_loadB (i := 0) rfl rfl rfl) rfl rfl ?_) | (show opsA _ _ _ _ (⟨_, .build _ _, _, _, _, _⟩ :: _) _ _; refine O_ev WideF.wide rfl (Ev_build (vs := []) trivial rfl) rfl rfl ?_) | (show opsA _ _ _ _ (⟨_, .store _ _ _, _, _, _, _⟩ :: _) _ _; refine O_f2 (O_ef rfl (Ef_storew WideF.wide rfl rfl rfl rfl rfl ?_)))) | (show wpA _ _ _ (.cond _ _ _) _ _ _ _; (refine A_if rfl (fun h => ?_) (fun h => ?_) <;> try (exfalso; omega))))
    all_goals first
      | (exfalso; omega)
      | (refine End_e (RetT2 rfl rfl (i := 0) rfl rfl rfl) ?_
         unfold UnionIs
         rw [hun]
         exact ⟨⟨_, rfl, noD_cells _⟩, rfl⟩)
end Go.Proofs.Ythniohgeojenaaa
