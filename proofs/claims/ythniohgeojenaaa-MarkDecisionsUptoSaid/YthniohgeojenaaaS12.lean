/-
  mark.Union.
-/
import Derived.Test.YthniohgeojenaaaS11
import Derived.Test.YthniohgeojenaaaM14
namespace Go.Proofs.Ythniohgeojenaaa
open Go
set_option linter.unusedVariables false
set_option linter.unusedSimpArgs false
def uniD (a b : Dec) : Dec := ⟨sortI (a.acc ++ b.acc), sortI (a.rej ++ b.rej)⟩
def noD : Dec := ⟨[], []⟩
def unD (a b : Dec) : Dec × Int := if chkD a ≠ 0 then (noD, chkD a) else if chkD b ≠ 0 then (noD, chkD b) else if chkD (uniD a b) ≠ 0 then (noD, chkD (uniD a b)) else (uniD a b, 0)
theorem chkD_zero {d : Dec} (h : chkD d = 0) : chkL d.acc = 0 ∧ chkL d.rej = 0 ∧ ∀ x ∈ d.acc, x ∉ d.rej := by
  unfold chkD at h
  by_cases h1 : chkL d.acc = 0
  · rw [if_neg (by simp [h1])] at h
    by_cases h2 : chkL d.rej = 0
    · rw [if_neg (by simp [h2])] at h
      refine ⟨h1, h2, fun x hx hr => ?_⟩
      rw [if_pos (List.any_eq_true.2 ⟨x, hx, decide_eq_true hr⟩)] at h
      cases h
    · rw [if_pos h2] at h; exact absurd h h2
  · rw [if_pos h1] at h; exact absurd h h1
/-- a union's only error is a conflict -/
theorem uniD_err {a b : Dec} (ha : chkD a = 0) (hb : chkD b = 0) (h : chkD (uniD a b) ≠ 0) : chkD (uniD a b) = 23 := by
  obtain ⟨a1, a2, _⟩ := chkD_zero ha
  obtain ⟨b1, b2, _⟩ := chkD_zero hb
  have h1 : chkL (uniD a b).acc = 0 := chkL_of (sortI_inc _) fun x hx => by
    rcases List.mem_append.1 (sortI_mem.1 hx) with hx | hx
    · exact (chkL_inc a1).2 x hx
    · exact (chkL_inc b1).2 x hx
  have h2 : chkL (uniD a b).rej = 0 := chkL_of (sortI_inc _) fun x hx => by
    rcases List.mem_append.1 (sortI_mem.1 hx) with hx | hx
    · exact (chkL_inc a2).2 x hx
    · exact (chkL_inc b2).2 x hx
  unfold chkD at h ⊢
  rw [if_neg (by simp [h1]), if_neg (by simp [h2])] at h ⊢
  split
  · rfl
  · rename_i hn; rw [if_neg hn] at h; exact absurd rfl h
def UnionIs (a b : Dec) (v : Value) (H : Hp) (I : Own) : Prop := (∃ cs, v = .tuple [.agg cs.toArray, .int .i64 (unD a b).2].toArray ∧ DecH H cs (unD a b).1) ∧ I = []
theorem noD_cells (H : Hp) : DecH H zDec noD := ⟨⟨none, 0, 0, none, 0, 0, rfl, HRow.nil' _ _, HRow.nil' _ _⟩⟩
section
variable {F : Fence} {P : Program} {c : Ctx} {o : Oper} {K : SP} {n : Nat} {e : Env} {H : Hp} {M L : Own} {D : List Deferred}
theorem Ef_frz {a : Option Addr} {n' cp k : Nat} {css : List (List Value)} (h1 : ∀ cs ∈ css, ∀ u ∈ cs, u.oneCell' = true)
    (h : ∀ H', HLe H H' → HRow H' a n' cp k css → Ef F P c o ⟨n, e, H', M, L, D⟩ K) : Ef F P c o ⟨n, e, H, .row (.slice a n' cp) k css :: M, L, D⟩ K := fun ac w hs => by
  obtain ⟨H', hle, hr, hh⟩ := Holds.freeze (R := M ++ L) hs.holds h1
  exact h H' hle hr ac w ⟨hs.defers, hs.size, hs.env, hh⟩
end
attribute [local irreducible] wpA opsA drJ drQ drE Ef Ev Shift Fn
set_option maxRecDepth 100000 in
set_option maxHeartbeats 8000000 in
theorem Union_fn {H : Hp} {acs bcs : List Value} {dA dB : Dec} (ha : DecH H acs dA) (hb : DecH H bcs dB) (m1 : dA.acc.length ≤ 4096) (m2 : dA.rej.length ≤ 4096) (m3 : dB.acc.length ≤ 4096) (m4 : dB.rej.length ≤ 4096) :
    Fn Try.prog 34 [.agg acs.toArray, .agg bcs.toArray] H [] (UnionIs dA dB) := by
  obtain ⟨aa, an, ac, ra, rn, rc, rfl, g1, g2⟩ := ha.ex
  obtain ⟨ba, bn, bc, sa, sn, sc, rfl, g3, g4⟩ := hb.ex
  refine Fn_of _ _ Try.func34 rfl Try.ntmps34 rfl fun c => ?_
  refine A_seq ?_
  refine A_cutu (fun s => ∃ b2 b3 b4, s = ⟨46, [(2, ptr b2), (3, ptr b3), (4, ptr b4), (5, .int .i64 0)], H, [.box b2 [.slice aa an ac, .slice ra rn rc], .box b3 [.slice ba bn bc, .slice sa sn sc], .box b4 zDec], [], []⟩) ?_ ?_
  · repeat' (first | refine O_nil ?_ | refine A_region ?_ | (show opsA _ _ _ _ _ _ _; first | refine O_ev WideF.wide rfl (Ev_pure rfl) rfl rfl ?_ | (show opsA _ _ _ _ (⟨_, .alloc _, _, _, _, _⟩ :: _) _ _; (refine O_ef rfl (Ef_alloc WideF.wide rfl ?_); intro b)) | (show opsA _ _ _ _ (⟨_, .box _ _, _, _, _, _⟩ :: _) _ _; (refine O_ef rfl (Ef_boxa WideF.wide rfl rfl ?_); intro b))))
    exact Shift.to ⟨_, _, _, rfl⟩ ⟨rfl, rfl, rfl, ⟨rfl, rfl, rfl, rfl, trivial⟩, Own.subi [2, 1, 0] (by decide) rfl rfl⟩
  rintro s ⟨b2, b3, b4, rfl⟩
  refine A_seq ?_
  refine A_cutu (fun s => ∃ H2, HLe H H2 ∧ chkD dA = 0 ∧ chkD dB = 0 ∧ s = ⟨46, [(2, ptr b2), (3, ptr b3), (4, ptr b4), (5, .int .i64 0)], H2, [.box b2 [.slice aa an ac, .slice ra rn rc], .box b3 [.slice ba bn bc, .slice sa sn sc], .box b4 zDec], [], []⟩) ?_ ?_
  · repeat' (first | (refine O_ef rfl (Ef_buildn WideF.wide (k := 2) (xs := [_, _]) (vs := [_, _]) rfl ⟨rfl, rfl, trivial⟩ rfl rfl rfl rfl rfl rfl ?_); intro bb) | refine O_nil ?_ | refine A_seq ?_ | refine A_region ?_ | refine A_block ?_ | (show opsA _ _ _ _ _ _ _; first | refine O_ev WideF.wide rfl (Ev_pure rfl) rfl rfl ?_ | (show opsA _ _ _ _ (⟨_, .load _ _, _, _, _, _⟩ :: _) _ _; first | refine O_ev WideF.wide rfl (Ev_loadB (i := 0) rfl rfl rfl) rfl rfl ?_ | refine O_ev WideF.wide rfl (Ev_loadB (i := 1) rfl rfl rfl) rfl rfl ?_) | (show opsA _ _ _ _ (⟨_, .call _, _, _, _, _⟩ :: _) _ _; refine O_ev WideF.wide rfl (Ev_llen rfl) rfl rfl ?_)))
    refine A_freeze (css := [[.slice aa an ac, .slice ra rn rc], [.slice ba bn bc, .slice sa sn sc]]) (by intro cs hcs u hu; simp at hcs; rcases hcs with rfl | rfl <;> (simp at hu; rcases hu with rfl | rfl <;> rfl)) ?_
    intro H2 hle2 hL
    refine A_loopu (fun m s => ∃ (k : Nat) (H3 : Hp), m = 2 - k ∧ k ≤ 2 ∧ HLe H2 H3 ∧ (1 ≤ k → chkD dA = 0) ∧ (2 ≤ k → chkD dB = 0) ∧ s = ⟨46, [(13, .slice (some ⟨bb, 0, none⟩) 2 2), (14, .int .i64 2), (15, .int .i64 k), (2, ptr b2), (3, ptr b3), (4, ptr b4), (5, .int .i64 0)], H3, [.box b2 [.slice aa an ac, .slice ra rn rc], .box b3 [.slice ba bn bc, .slice sa sn sc], .box b4 zDec], [], []⟩) ?_ ?_
    · exact Shift.to ⟨_, 0, H2, rfl, by omega, HLe.refl _, by omega, by omega, rfl⟩ ⟨rfl, rfl, rfl, ⟨rfl, rfl, rfl, rfl, rfl, rfl, rfl, trivial⟩, Own.subi [0, 1, 2] (by decide) rfl rfl⟩
    · rintro m s ⟨k, H3, rfl, hk, hle3, hk1, hk2, rfl⟩
      have hle03 := hle2.trans hle3
      by_cases hlt : k < 2
      · obtain ⟨dB', o, cs, hbo, hcs, _, hc⟩ := (hL.mono hle3).at k hlt
        cases hbo
        obtain ⟨x, hx1, hx2, hx3, hx4⟩ : ∃ x : Dec, DecH H3 cs x ∧ (x.acc.length ≤ 4096 ∧ x.rej.length ≤ 4096) ∧ (chkD x ≠ 0 → unD dA dB = (noD, chkD x)) ∧ (chkD x = 0 → (1 ≤ k + 1 → chkD dA = 0) ∧ (2 ≤ k + 1 → chkD dB = 0)) := by
          match k, hlt, hcs with
          | 0, _, hcs =>
            simp at hcs; subst hcs
            exact ⟨dA, ha.mono hle03, ⟨m1, m2⟩, fun h => by unfold unD; rw [if_pos h], fun h => ⟨fun _ => h, fun h2 => by omega⟩⟩
          | 1, _, hcs =>
            simp at hcs; subst hcs
            have h0 := hk1 (by omega)
            exact ⟨dB, hb.mono hle03, ⟨m3, m4⟩, fun h => by unfold unD; rw [if_neg (by simp [h0]), if_pos h], fun h => ⟨fun _ => h0, fun _ => h⟩⟩
        have hck := CheckDecision_fn hx1 (by omega) (by omega)
        obtain ⟨ca, cn, cq, da, dn, dq, rfl, _, _⟩ := hx1.ex
        by_cases hz : chkD x = 0
        · rw [hz] at hck
          have hx4 := hx4 hz
          repeat' (first | (refine O_ev WideF.wide rfl (Ev_loadH rfl hc rfl) rfl rfl ?_) | (refine O_ef rfl (Ef_call (I := []) WideF.wide hck ⟨rfl, trivial⟩ rfl ?_); rintro v H4 I4 hle4 ⟨rfl, rfl⟩) | refine O_nil ?_ | refine A_seq ?_ | refine A_region ?_ | refine A_skip ?_ | refine A_block ?_ | (show opsA _ _ _ _ _ _ _; first | refine O_ev WideF.wide rfl (Ev_pure rfl) rfl rfl ?_ | (show opsA _ _ _ _ (⟨_, .load _ _, _, _, _, _⟩ :: _) _ _; refine O_ev WideF.wide rfl (Ev_loadB (i := 0) rfl rfl rfl) rfl rfl ?_) | (show opsA _ _ _ _ (⟨_, .indexAddr _ _ _, _, _, _, _⟩ :: _) _ _; refine O_ev WideF.wide rfl (Ev_indexAddr rfl rfl (by omega) (by omega)) rfl rfl ?_) | (show opsA _ _ _ _ (⟨_, .binOp _ _ _ _ _, _, _, _, _⟩ :: _) _ _; refine O_ev WideF.wide rfl (Ev_add rfl rfl (wi64 (by omega))) rfl rfl ?_) | (show opsA _ _ _ _ (⟨_, .alloc _, _, _, _, _⟩ :: _) _ _; (refine O_ef rfl (Ef_alloc WideF.wide rfl ?_); intro b)) | (show opsA _ _ _ _ (⟨_, .store _ _ _, _, _, _, _⟩ :: _) _ _; refine O_ef rfl (Ef_storew WideF.wide rfl rfl rfl rfl rfl ?_))) | (show wpA _ _ _ (.cond _ _ _) _ _ _ _; (refine A_if rfl (fun h => ?_) (fun h => ?_) <;> try (exfalso; omega))))
          refine Shift.to ⟨_, ?_, k + 1, H4, rfl, by omega, hle3.trans hle4, hx4.1, hx4.2, rfl⟩ ⟨rfl, rfl, rfl, ⟨rfl, rfl, rfl, rfl, rfl, rfl, rfl, trivial⟩, Own.subi [1, 2, 3] (by decide) rfl rfl⟩
          omega
        · have hun := hx3 hz
          repeat' (first | (refine O_ev WideF.wide rfl (Ev_loadH rfl hc rfl) rfl rfl ?_) | (refine O_ef rfl (Ef_call (I := []) WideF.wide hck ⟨rfl, trivial⟩ rfl ?_); rintro v H4 I4 hle4 ⟨rfl, rfl⟩) | refine O_nil ?_ | refine A_seq ?_ | refine A_region ?_ | refine A_skip ?_ | refine A_ret ?_ | refine A_block ?_ | (show opsA _ _ _ _ _ _ _; first | refine O_ev WideF.wide rfl (Ev_pure rfl) rfl rfl ?_ | (show opsA _ _ _ _ (⟨_, .load _ _, _, _, _, _⟩ :: _) _ _; refine O_ev WideF.wide rfl (Ev_loadB (i := 0) rfl rfl rfl) rfl rfl ?_) | (show opsA _ _ _ _ (⟨_, .indexAddr _ _ _, _, _, _, _⟩ :: _) _ _; refine O_ev WideF.wide rfl (Ev_indexAddr rfl rfl (by omega) (by omega)) rfl rfl ?_) | (show opsA _ _ _ _ (⟨_, .build _ _, _, _, _, _⟩ :: _) _ _; refine O_ev WideF.wide rfl (Ev_build (vs := []) trivial rfl) rfl rfl ?_) | (show opsA _ _ _ _ (⟨_, .alloc _, _, _, _, _⟩ :: _) _ _; (refine O_ef rfl (Ef_alloc WideF.wide rfl ?_); intro b)) | (show opsA _ _ _ _ (⟨_, .store _ _ _, _, _, _, _⟩ :: _) _ _; first | refine O_ef rfl (Ef_storew WideF.wide rfl rfl rfl rfl rfl ?_) | refine O_f3 (O_ef rfl (Ef_storew WideF.wide rfl rfl rfl rfl rfl ?_)))) | (show wpA _ _ _ (.cond _ _ _) _ _ _ _; (refine A_if rfl (fun h => ?_) (fun h => ?_) <;> try (exfalso; omega))))
          all_goals first
            | (exfalso; omega)
            | (refine End_e (RetT2 rfl rfl (i := 0) rfl rfl rfl) ?_
               unfold UnionIs
               rw [hun]
               exact ⟨⟨_, rfl, noD_cells _⟩, rfl⟩)
      · repeat' (first | refine O_nil ?_ | refine A_seq ?_ | refine A_region ?_ | (show opsA _ _ _ _ _ _ _; refine O_ev WideF.wide rfl (Ev_pure rfl) rfl rfl ?_) | (show wpA _ _ _ (.exit _) _ _ _ _; refine A_exit rfl ?_) | (show wpA _ _ _ (.cond _ _ _) _ _ _ _; (refine A_if rfl (fun h => ?_) (fun h => ?_) <;> try (exfalso; omega))))
        exact Shift.to ⟨H3, hle03, hk1 (by omega), hk2 (by omega), rfl⟩ ⟨rfl, rfl, rfl, ⟨rfl, rfl, rfl, rfl, trivial⟩, Own.subi [0, 1, 2] (by decide) rfl rfl⟩
  rintro s ⟨H2, hle2, hz1, hz2, rfl⟩
  have g1 := g1.mono hle2
  have g2 := g2.mono hle2
  have g3 := g3.mono hle2
  have g4 := g4.mono hle2
  have one2 : ∀ (x y : Lst), ∀ cs ∈ [x, y].map Lst.row, ∀ u ∈ cs, u.oneCell' = true := fun x y cs hcs u hu => by
    simp [Lst.row] at hcs
    rcases hcs with rfl | rfl <;> (simp at hu; subst hu; rfl)
  have hsA : ∀ Hx lb lc, HLe H2 Hx → HRow Hx lb 2 lc 1 ([⟨aa, an, ac, dA.acc⟩, ⟨ba, bn, bc, dB.acc⟩].map Lst.row) → Fn Try.prog 73 [.slice lb 2 lc] Hx [] (IntsIs (uniD dA dB).acc) := fun Hx lb lc hx h => by
    have h := set_fn h (fun z hz => by simp at hz; rcases hz with rfl | rfl; exact g1.mono hx; exact g3.mono hx) (by omega) (by simp [flat]; omega)
    simpa [flat, uniD] using h
  have hsR : ∀ Hx lb lc, HLe H2 Hx → HRow Hx lb 2 lc 1 ([⟨ra, rn, rc, dA.rej⟩, ⟨sa, sn, sc, dB.rej⟩].map Lst.row) → Fn Try.prog 73 [.slice lb 2 lc] Hx [] (IntsIs (uniD dA dB).rej) := fun Hx lb lc hx h => by
    have h := set_fn h (fun z hz => by simp at hz; rcases hz with rfl | rfl; exact g2.mono hx; exact g4.mono hx) (by omega) (by simp [flat]; omega)
    simpa [flat, uniD] using h
  have la := sortI_len (dA.acc ++ dB.acc)
  have lr := sortI_len (dA.rej ++ dB.rej)
  rw [List.length_append] at la lr
  refine A_seq ?_
  refine A_cutu (fun s => ∃ (H3 : Hp) (ucs : List Value) (b9 : Nat), HLe H2 H3 ∧ DecH H3 ucs (uniD dA dB) ∧ s = ⟨46, [(9, ptr b9), (2, ptr b2), (3, ptr b3), (4, ptr b4), (5, .int .i64 0)], H3, [.box b9 ucs, .box b2 [.slice aa an ac, .slice ra rn rc], .box b3 [.slice ba bn bc, .slice sa sn sc], .box b4 zDec], [], []⟩) ?_ ?_
  · (refine A_drawi WideF.wide (.q 0 (.q 1 (.q 2 (.q 3 (.q 6 (.q 7 (.q 8 (.q 9 (.g 4 (.g 5 (.f 10 (.f 11 (.p 12 (.e 13 (.r (.e 14 (.done []))))) 13 (.e 11 (.q 12 (.r (.e 14 (.done [])))))) 13 (.e 10 (.e 11 (.q 12 (.r (.e 14 (.done []))))))) 10 (.f 5 (.f 11 (.q 12 (.e 13 (.r (.e 14 (.done []))))) 13 (.e 11 (.q 12 (.r (.e 14 (.done [])))))) 13 (.e 5 (.e 11 (.q 12 (.r (.e 14 (.done []))))))) 13 (.f 5 (.e 10 (.e 11 (.q 12 (.r (.e 14 (.done [])))))) 10 (.e 5 (.e 11 (.q 12 (.r (.e 14 (.done [])))))))) 10 (.f 4 (.f 5 (.f 11 (.q 12 (.e 13 (.r (.e 14 (.done []))))) 13 (.e 11 (.q 12 (.r (.e 14 (.done [])))))) 13 (.e 5 (.e 11 (.q 12 (.r (.e 14 (.done []))))))) 13 (.e 4 (.e 5 (.e 11 (.q 12 (.r (.e 14 (.done [])))))))) 13 (.f 4 (.f 5 (.e 10 (.e 11 (.q 12 (.r (.e 14 (.done [])))))) 10 (.e 5 (.e 11 (.q 12 (.r (.e 14 (.done []))))))) 10 (.e 4 (.e 5 (.e 11 (.q 12 (.r (.e 14 (.done []))))))))))))))))) [14] [] [0, 1, 2] (by decide +kernel) (by decide) rfl ?_; simp only [Own.picks, Own.rget, List.cons_append, List.nil_append, List.append_nil])
    repeat' (first | (refine E_ef rfl (Ef_buildn WideF.wide (k := 1) (xs := [_, _]) (vs := [_, _]) rfl ⟨rfl, rfl, trivial⟩ rfl rfl rfl rfl rfl rfl ?_); intro bb; refine ⟨Grow.same rfl rfl, ?_⟩) | (refine E_ef rfl ?_; refine Ef_frz (css := [⟨aa, an, ac, dA.acc⟩, ⟨ba, bn, bc, dB.acc⟩].map Lst.row) (one2 _ _) ?_; intro H3 hle3 r3; refine Ef_call (I := []) WideF.wide (hsA _ _ _ hle3 r3) ⟨rfl, trivial⟩ rfl ?_; rintro v H4 IH4 hle4 ⟨⟨ua, un, uc, rfl, hu⟩, rfl⟩; refine ⟨⟨hle3.trans hle4, rfl⟩, ?_⟩) | (refine E_ef rfl ?_; refine Ef_f1 ?_; refine Ef_frz (css := [⟨aa, an, ac, dA.acc⟩, ⟨ba, bn, bc, dB.acc⟩].map Lst.row) (one2 _ _) ?_; intro H3 hle3 r3; refine Ef_call (I := []) WideF.wide (hsA _ _ _ hle3 r3) ⟨rfl, trivial⟩ rfl ?_; rintro v H4 IH4 hle4 ⟨⟨ua, un, uc, rfl, hu⟩, rfl⟩; refine ⟨⟨hle3.trans hle4, rfl⟩, ?_⟩) | (refine E_ef rfl ?_; refine Ef_f2 ?_; refine Ef_frz (css := [⟨aa, an, ac, dA.acc⟩, ⟨ba, bn, bc, dB.acc⟩].map Lst.row) (one2 _ _) ?_; intro H3 hle3 r3; refine Ef_call (I := []) WideF.wide (hsA _ _ _ hle3 r3) ⟨rfl, trivial⟩ rfl ?_; rintro v H4 IH4 hle4 ⟨⟨ua, un, uc, rfl, hu⟩, rfl⟩; refine ⟨⟨hle3.trans hle4, rfl⟩, ?_⟩) | (refine E_ef rfl ?_; refine Ef_frz (css := [⟨ra, rn, rc, dA.rej⟩, ⟨sa, sn, sc, dB.rej⟩].map Lst.row) (one2 _ _) ?_; intro H5 hle5 r5; refine Ef_call (I := []) WideF.wide (hsR _ _ _ (hle3.trans (hle4.trans hle5)) r5) ⟨rfl, trivial⟩ rfl ?_; rintro v H6 IH6 hle6 ⟨⟨va, vn, vc, rfl, hv⟩, rfl⟩; refine ⟨⟨hle5.trans hle6, rfl⟩, ?_⟩) | (refine E_ef rfl ?_; refine Ef_f1 ?_; refine Ef_frz (css := [⟨ra, rn, rc, dA.rej⟩, ⟨sa, sn, sc, dB.rej⟩].map Lst.row) (one2 _ _) ?_; intro H5 hle5 r5; refine Ef_call (I := []) WideF.wide (hsR _ _ _ (hle3.trans (hle4.trans hle5)) r5) ⟨rfl, trivial⟩ rfl ?_; rintro v H6 IH6 hle6 ⟨⟨va, vn, vc, rfl, hv⟩, rfl⟩; refine ⟨⟨hle5.trans hle6, rfl⟩, ?_⟩) | refine O_nil ?_ | (show drJ _ _ _ _ _ _ _ (.q _ _) _; refine D_q rfl ?_) | (show drJ _ _ _ _ _ _ _ (.e _ _) _; refine D_e rfl ?_) | (show drJ _ _ _ _ _ _ _ (.f _ _ _ _) _; refine D_f rfl rfl ?_ ?_) | (show drJ _ _ _ _ _ _ _ (.g _ _ _ _ _ _) _; refine D_g rfl rfl rfl ?_ ?_ ?_) | (show drJ _ _ _ _ _ _ _ (.r _) _; refine D_r ?_; simp only [List.cons_append, List.nil_append]) | (show drJ _ _ _ _ _ _ _ (.done _) _; refine D_done ?_; simp only [List.cons_append, List.nil_append]) | (show drQ _ _ _ _ _ _; first | (show drQ _ _ _ ⟨_, .load _ _, _, _, _, _⟩ _ _; first | refine D_ev rfl (Ev_loadB1 (i := 0) rfl rfl rfl) rfl rfl ?_ | refine D_ev rfl (Ev_loadB1 (i := 1) rfl rfl rfl) rfl rfl ?_) | (show drQ _ _ _ ⟨_, .fieldAddr _ _ _, _, _, _, _⟩ _ _; refine D_ev rfl (Ev_fieldAddr rfl rfl rfl) rfl rfl ?_) | (show drQ _ _ _ ⟨_, .build _ _, _, _, _, _⟩ _ _; refine D_ev rfl (Ev_build (vs := [(_, _), (_, _)]) ⟨rfl, rfl, rfl, rfl, trivial⟩ rfl) rfl rfl ?_)) | (show drJ _ _ _ _ _ _ _ (.p _ _) _; refine D_p rfl ?_) | (show drP _ _ _ _ _ _; (show drP _ _ _ ⟨_, .build _ _, _, _, _, _⟩ _ _; refine D_pv rfl (Ev_build (vs := [(_, _), (_, _)]) ⟨rfl, rfl, rfl, rfl, trivial⟩ rfl) rfl rfl ?_)) | (show drE _ _ _ _ _ _ _; first | (show drE _ _ _ _ ⟨_, .alloc _, _, _, _, _⟩ _ _; (refine E_ef rfl (Ef_alloc WideF.wide rfl ?_); intro b; refine ⟨Grow.same rfl rfl, ?_⟩)) | (show drE _ _ _ _ ⟨_, .store _ _ _, _, _, _, _⟩ _ _; (refine E_ef rfl (Ef_storew WideF.wide rfl rfl rfl rfl rfl ?_); refine ⟨Grow.same rfl rfl, ?_⟩))))
    all_goals exact Shift.to ⟨_, _, _, hle3.trans (hle4.trans (hle5.trans hle6)), ⟨⟨_, _, _, _, _, _, rfl, hu.mono (hle5.trans hle6), hv⟩⟩, rfl⟩ ⟨rfl, rfl, rfl, ⟨rfl, rfl, rfl, rfl, rfl, trivial⟩, Own.subi [0, 1, 2, 3] (by decide) rfl rfl⟩
  rintro s ⟨H3, ucs, b9, hle3, hu, rfl⟩
  have hck := CheckDecision_fn hu (by show (sortI _).length < _; omega) (by show (sortI _).length < _; omega)
  obtain ⟨ca, cn, cq, da, dn, dq, rfl, _, _⟩ := hu.ex
  by_cases hz : chkD (uniD dA dB) = 0
  · have hun : unD dA dB = (uniD dA dB, 0) := by unfold unD; rw [if_neg (by simp [hz1]), if_neg (by simp [hz2]), if_neg (by simp [hz])]
    rw [hz] at hck
    repeat' (first | (refine O_ef rfl (Ef_call (I := []) WideF.wide hck ⟨rfl, trivial⟩ rfl ?_); rintro v H4 I4 hle4 ⟨rfl, rfl⟩) | refine O_nil ?_ | refine A_seq ?_ | refine A_region ?_ | refine A_skip ?_ | refine A_ret ?_ | (show opsA _ _ _ _ _ _ _; first | refine O_ev WideF.wide rfl (Ev_pure rfl) rfl rfl ?_ | (show opsA _ _ _ _ (⟨_, .load _ _, _, _, _, _⟩ :: _) _ _; refine O_ev WideF.wide rfl (Ev_loadB (i := 0) rfl rfl rfl) rfl rfl ?_) | (show opsA _ _ _ _ (⟨_, .store _ _ _, _, _, _, _⟩ :: _) _ _; refine O_f3 (O_ef rfl (Ef_storew WideF.wide rfl rfl rfl rfl rfl ?_)))) | (show wpA _ _ _ (.cond _ _ _) _ _ _ _; (refine A_if rfl (fun h => ?_) (fun h => ?_) <;> try (exfalso; omega))))
    all_goals first
      | (exfalso; omega)
      | (refine End_e (RetT2 rfl rfl (i := 0) rfl rfl rfl) ?_
         unfold UnionIs
         rw [hun]
         exact ⟨⟨_, rfl, hu.mono hle4⟩, rfl⟩)
  · have hun : unD dA dB = (noD, chkD (uniD dA dB)) := by unfold unD; rw [if_neg (by simp [hz1]), if_neg (by simp [hz2]), if_pos hz]
    repeat' (first | (refine O_ef rfl (Ef_call (I := []) WideF.wide hck ⟨rfl, trivial⟩ rfl ?_); rintro v H4 I4 hle4 ⟨rfl, rfl⟩) | refine O_nil ?_ | refine A_seq ?_ | refine A_region ?_ | refine A_ret ?_ | (show opsA _ _ _ _ _ _ _; first | refine O_ev WideF.wide rfl (Ev_pure rfl) rfl rfl ?_ | (show opsA _ _ _ _ (⟨_, .load _ _, _, _, _, _⟩ :: _) _ _; refine O_ev WideF.wide rfl (Ev_loadB (i := 0) rfl rfl rfl) rfl rfl ?_) | (show opsA _ _ _ _ (⟨_, .build _ _, _, _, _, _⟩ :: _) _ _; refine O_ev WideF.wide rfl (Ev_build (vs := []) trivial rfl) rfl rfl ?_) | (show opsA _ _ _ _ (⟨_, .store _ _ _, _, _, _, _⟩ :: _) _ _; refine O_f3 (O_ef rfl (Ef_storew WideF.wide rfl rfl rfl rfl rfl ?_)))) | (show wpA _ _ _ (.cond _ _ _) _ _ _ _; (refine A_if rfl (fun h => ?_) (fun h => ?_) <;> try (exfalso; omega))))
    all_goals first
      | (exfalso; omega)
      | (refine End_e (RetT2 rfl rfl (i := 0) rfl rfl rfl) ?_
         unfold UnionIs
         rw [hun]
         exact ⟨⟨_, rfl, noD_cells _⟩, rfl⟩)
end Go.Proofs.Ythniohgeojenaaa
