/-
  LeveltextPrints.
-/
import Derived.Test.YtaneeaojlkenmaaGreatDoorL25
namespace Go.Proofs.YtaneeaojlkenmaaGreatDoor
open Go Go.Lib
set_option linter.unusedVariables false
set_option linter.unusedSimpArgs false
def cutP (p : Pt) : Pt := { p with lit := p.lit.take 80 }
theorem prt_cases (ps : List Pt) : (∃ s, prtE ps = (s, 0) ∧ tplE s = (ps, 0)) ∨ prtE ps = ([], 15) := by
  unfold prtE
  by_cases h : tplE (txtP ps) = (ps, 0)
  · rw [if_pos h]; exact .inl ⟨_, rfl, h⟩
  · rw [if_neg h]; exact .inr rfl
attribute [local irreducible] wpA opsA drJ drQ drE Ef Ev Shift Fn
set_option maxRecDepth 100000 in
set_option maxHeartbeats 4000000 in
theorem LeveltextPrints_fn {H : Hp} (hE : EnvH H) (hM : MaxH H) {a : Option Addr} {n cq : Nat} {l : List Pt} (hx : HRow H a n cq 3 (l.map prow)) (hlev : ∀ p ∈ l, I64 p.lev) :
    Fn Tryz.prog 10 [.slice a n cq] H [] fun v _ I => v = .bool true ∧ I = [] := by
  have hk := fun Hx (h : HLe H Hx) => known_fn (hE.mono h)
  have hc := fun Hx s => mcut_fn (H := Hx) (s := s)
  have e2 : l.length = n := by have := hx.len; simpa using this
  obtain ⟨m2, hm2, hm3, hm4⟩ : ∃ m2 : Nat, (if (30 : Int) < (n : Int) then (30 : Int) else (n : Int)) = (m2 : Int) ∧ m2 ≤ 30 ∧ m2 ≤ n := ⟨min 30 n, by split <;> omega, by omega, by omega⟩
  have hcap := hx.cap
  have hx' := hx.take hm4
  rw [← List.map_take] at hx'
  have e3 : (l.take m2).length = m2 := by rw [List.length_take]; omega
  have hlev' : ∀ p ∈ l.take m2, I64 p.lev := fun p hp => hlev p (List.mem_of_mem_take hp)
  clear hx hlev e2
  generalize l.take m2 = q at *
  refine Fn_of _ _ Tryz.func10 rfl Tryz.ntmps10 rfl fun c => ?_
  refine A_nilrow 3 ?_
  repeat' (first | (refine O_ev WideF.wide rfl (Ev_mini rfl rfl) rfl rfl ?_; rw [hm2]) | (refine O_ev WideF.wide rfl (Ev_lsliceh rfl rfl (by omega) (by omega)) rfl rfl ?_; rw [Int.toNat_natCast]) | refine O_nil ?_ | refine A_seq ?_ | refine A_region ?_ | refine A_block ?_ | (show opsA _ _ _ _ _ _ _; first | refine O_ev WideF.wide rfl (Ev_pure rfl) rfl rfl ?_ | (show opsA _ _ _ _ (⟨_, .call _, _, _, _, _⟩ :: _) _ _; refine O_ev WideF.wide rfl (Ev_llen rfl) rfl rfl ?_)))
  refine A_loopu (fun m st => ∃ (i : Nat) (a' : Option Addr) (c' : Nat) (acc : List Pt) (H1 : Hp), m = m2 - i ∧ i ≤ m2 ∧ acc.length = i ∧ acc = (q.take i).map cutP ∧ HLe H H1 ∧ st = ⟨83, [(0, .slice a m2 cq), (3, .slice a' acc.length c'), (4, .int .i64 i)], H1, [.row (.slice a' acc.length c') 3 (acc.map prow)], [], []⟩) ?_ ?_
  · exact Shift.to ⟨_, 0, none, 0, [], H, rfl, by omega, rfl, by simp, HLe.refl H, rfl⟩ ⟨rfl, rfl, rfl, ⟨rfl, rfl, rfl, trivial⟩, Own.subi [0] (by decide) rfl rfl⟩
  · rintro m st ⟨i, a', c', acc, H1, rfl, hi, hal, hacc, hl1, rfl⟩
    by_cases hlt : i < m2
    · obtain ⟨b, o, p, rfl, hpi, hcl⟩ := hx'.atm i hlt
      have hcl := hcl.mono hl1
      unfold prow at hcl
      have hnx : acc ++ [cutP p] = (q.take (i + 1)).map cutP := by rw [take_get hpi, List.map_append, hacc]; rfl
      repeat' (first | (refine A_drawM WideF.wide (.p 0 (.p 1 (.p 2 (.p 3 (.q 4 (.q 5 (.p 7 (.p 8 (.p 9 (.q 10 (.q 11 (.p 12 (.p 13 (.p 14 (.q 15 (.q 16 (.e 6 (.r (.q 17 (.e 18 (.e 19 (.q 20 (.done []))))))))))))))))))))))) [17, 18, 19, 20] (by decide +kernel) ?_) | (refine D_ev rfl (Ev_loadH1 rfl (hcl 0 _ rfl)) rfl rfl ?_) | (refine D_ev rfl (Ev_loadH1 rfl (hcl 1 _ rfl)) rfl rfl ?_) | (refine D_ev rfl (Ev_loadH1 rfl (hcl 2 _ rfl)) rfl rfl ?_) | (refine E_ef rfl (Ef_callp WideF.wide (hc _ _) ⟨rfl, trivial⟩ rfl ?_); refine ⟨Grow.same rfl rfl, ?_⟩) | refine O_nil ?_ | refine A_seq ?_ | refine A_region ?_ | refine A_skip ?_ | refine A_block ?_ | (show drJ _ _ _ _ _ _ _ (.q _ _) _; refine D_q rfl ?_) | (show drJ _ _ _ _ _ _ _ (.e _ _) _; refine D_e rfl ?_) | (show drJ _ _ _ _ _ _ _ (.r _) _; refine D_r ?_; simp only [List.cons_append, List.nil_append]) | (show drJ _ _ _ _ _ _ _ (.done _) _; refine D_done ?_; simp only [List.cons_append, List.nil_append]) | (show drQ _ _ _ _ _ _; first | refine D_ev rfl (Ev_pure rfl) rfl rfl ?_ | (show drQ _ _ _ ⟨_, .fieldAddr _ _ _, _, _, _, _⟩ _ _; refine D_ev rfl (Ev_fieldAddr rfl rfl rfl) rfl rfl ?_) | (show drQ _ _ _ ⟨_, .build _ _, _, _, _, _⟩ _ _; refine D_ev rfl (Ev_build (vs := [(_, _), (_, _), (_, _)]) ⟨rfl, rfl, rfl, rfl, rfl, rfl, trivial⟩ rfl) rfl rfl ?_)) | (show drJ _ _ _ _ _ _ _ (.p _ _) _; refine D_p rfl ?_) | (show drP _ _ _ _ _ _; first | refine D_pv rfl (Ev_pure rfl) rfl rfl ?_ | (show drP _ _ _ ⟨_, .indexAddr _ _ _, _, _, _, _⟩ _ _; refine D_pv rfl (Ev_indexAddr rfl rfl (by omega) (by omega)) rfl rfl ?_)) | (show drE _ _ _ _ _ _ _; first | (show drE _ _ _ _ ⟨_, .call _, _, _, _, _⟩ _ _; (refine E_ef rfl (Ef_f1 (Ef_appendR WideF.wide rfl rfl rfl rfl rfl (by simp; omega) (by simp; omega) rfl ?_)); intro a cp; refine ⟨Grow.same rfl rfl, ?_⟩)) | (show drE _ _ _ _ ⟨_, .buildSlice _ _ _, _, _, _, _⟩ _ _; (refine E_ef rfl (Ef_build1a WideF.wide rfl rfl rfl rfl rfl ?_); intro b; refine ⟨Grow.same rfl rfl, ?_⟩))) | (show opsA _ _ _ _ _ _ _; first | refine O_ev WideF.wide rfl (Ev_pure rfl) rfl rfl ?_ | (show opsA _ _ _ _ (⟨_, .call _, _, _, _, _⟩ :: _) _ _; refine O_ev WideF.wide rfl (Ev_llen rfl) rfl rfl ?_) | (show opsA _ _ _ _ (⟨_, .binOp _ _ _ _ _, _, _, _, _⟩ :: _) _ _; refine O_ev WideF.wide rfl (Ev_add rfl rfl (wi64 (by omega))) rfl rfl ?_)) | (show wpA _ _ _ (.cond _ _ _) _ _ _ _; (refine A_if rfl (fun h => ?_) (fun h => ?_) <;> try (exfalso; omega))))
      all_goals try (exfalso; omega)
      rw [show fillL [(0, 1), (1, 1), (2, 1)] [(0, sv (List.take 80 p.lit)), (1, Value.int IntKind.i64 p.lev), (2, Value.bool p.plain)] [Value.string { data := #[] }, Value.int IntKind.i64 0, Value.bool false] = prow (cutP p) from rfl, snoc_row (cutP p) rfl, List.length_map]
      refine Shift.to ⟨_, ?_, i + 1, _, _, acc ++ [cutP p], _, rfl, by omega, by rw [List.length_append]; simp; omega, hnx, hl1, rfl⟩ ⟨rfl, rfl, rfl, ⟨rfl, rfl, rfl, trivial⟩, Own.subi [0] (by decide) rfl rfl⟩
      omega
    · rw [List.take_of_length_le (by omega)] at hacc
      have hpr : ∀ p ∈ acc, p.lit.length ≤ 1000 ∧ I64 p.lev := by
        intro p hp
        rw [hacc] at hp
        obtain ⟨r, hr, rfl⟩ := List.mem_map.1 hp
        exact ⟨by show (r.lit.take 80).length ≤ 1000; rw [List.length_take]; omega, hlev' r hr⟩
      clear hacc hlev'
      generalize acc = ps at *
      have hp1 := fun Hx (h : HLe H1 Hx) a n c (hr : HRow Hx a n c 3 (ps.map prow)) (hn : n ≤ 1000) => Print_fn (hM.mono (hl1.trans h)) hr hn hpr
      have hp2 := fun Hx a n c (hr : HRow Hx a n c 3 (ps.map prow)) (hn : n ≤ 1000) => rPrint_fn hr hn hpr
      have hpt := fun Hx a n c (h : HRow Hx a n c 3 (ps.map prow)) (hn : n < 68719476736) => parts_fn h hn
      unfold PtsIs at hpt
      have hsm := fun Hx a n c a' n' c' (h : HRow Hx a n c 3 (ps.map prow)) (h' : HRow Hx a' n' c' 3 (ps.map prow)) (hn : n < 68719476736) => Same_fn h h' hn
      simp only [decide_true] at hsm
      unfold prtV at hp1 hp2
      rcases prt_cases ps with ⟨s, hs1, hs2⟩ | hs1
      · rw [hs1] at hp1 hp2
        dsimp only at hp1 hp2
        have hP := fun Hx => lParse_fn (H := Hx) (s := s) (by have := (tplE_ok hs2).2.1; omega)
        unfold ParseH at hP
        rw [hs2] at hP
        dsimp only at hP
        repeat' (first | (refine O_freeze (prow_one _) ?_; intro H2 hle2 r2; refine O_ef rfl (Ef_call (I := []) WideF.wide (hp1 _ hle2 _ _ _ r2 (by omega)) ⟨rfl, trivial⟩ rfl ?_); rintro v H3 I3 hle3 ⟨rfl, rfl⟩; have r3 := r2.mono hle3; have g3 := (hl1.trans hle2).trans hle3; clear r2 hle2 hle3) | (refine O_ef rfl (Ef_call (I := []) WideF.wide (hpt _ _ _ _ r3 (by omega)) ⟨rfl, trivial⟩ rfl ?_); rintro v H4 I4 hle4 ⟨a4, n4, c4, rfl, r4, rfl⟩); have hn4 := r4.n_eq; have r3 := r3.mono hle4; have g3 := g3.trans hle4; clear hle4 | (refine O_ef rfl (Ef_call (I := []) WideF.wide (hp2 _ _ _ _ r4 (by omega)) ⟨rfl, trivial⟩ rfl ?_); rintro v H5 I5 hle5 ⟨rfl, rfl⟩); have r3 := r3.mono hle5; have g3 := g3.trans hle5; clear hle5 | (refine O_ef rfl (Ef_call (I := []) WideF.wide (hk _ g3) trivial rfl ?_); rintro v H6 I6 hle6 ⟨rfl, rfl⟩); have r3 := r3.mono hle6; clear hle6 | refine O_nil ?_ | refine A_seq ?_ | refine A_region ?_ | refine A_skip ?_ | refine A_ret ?_ | (show opsA _ _ _ _ _ _ _; first | (refine O_split rfl rfl (fun h => ?_) (fun h => ?_) <;> try (exfalso; omega)) | refine O_ev WideF.wide rfl (Ev_pure rfl) rfl rfl ?_ | (show opsA _ _ _ _ (⟨_, .call _, _, _, _, _⟩ :: _) _ _; refine O_ev WideF.wide rfl (Ev_llen rfl) rfl rfl ?_) | (show opsA _ _ _ _ (⟨_, .binOp _ _ _ _ _, _, _, _, _⟩ :: _) _ _; refine O_ev WideF.wide rfl (Ev_sneq rfl rfl) rfl rfl ?_) | (show opsA _ _ _ _ (⟨_, .unOp _ _ _, _, _, _, _⟩ :: _) _ _; refine O_ev WideF.wide rfl (Ev_notb rfl) rfl rfl ?_) | refine O_skip WideF.wide rfl rfl rfl ?_) | (show wpA _ _ _ (.exit _) _ _ _ _; refine A_exit rfl ?_) | (show wpA _ _ _ (.cond _ _ _) _ _ _ _; first | (refine A_if rfl (fun h => ?_) (fun h => ?_) <;> try (exfalso; omega)) | refine A_iftrue rfl ?_))
        all_goals try (exfalso; omega)
        all_goals try (exfalso; exact absurd rfl (by assumption))
        repeat' (first | (refine O_ef rfl (Ef_call (I := []) WideF.wide (hP _) ⟨rfl, trivial⟩ rfl ?_); rintro v H7 I7 hle7 ⟨a7, n7, c7, rfl, r7, rfl⟩); have hn7 := r7.n_eq; have r3 := r3.mono hle7; clear hle7 | (refine O_ef rfl (Ef_call (I := []) WideF.wide (hpt _ _ _ _ r7 (by omega)) ⟨rfl, trivial⟩ rfl ?_); rintro v H8 I8 hle8 ⟨a8, n8, c8, rfl, r8, rfl⟩); have hn8 := r8.n_eq; have r3 := r3.mono hle8; clear r7 hle8 | (refine O_ef rfl (Ef_call (I := []) WideF.wide (hpt _ _ _ _ r3 (by omega)) ⟨rfl, trivial⟩ rfl ?_); rintro v H9 I9 hle9 ⟨a9, n9, c9, rfl, r9, rfl⟩); have hn9 := r9.n_eq; have r8 := r8.mono hle9; clear hle9 | (refine O_ef rfl (Ef_callp WideF.wide (hsm _ _ _ _ _ _ _ r8 r9 (by omega)) ⟨rfl, rfl, trivial⟩ rfl ?_)) | refine O_nil ?_ | refine A_seq ?_ | refine A_region ?_ | refine A_ret ?_ | (show opsA _ _ _ _ _ _ _; first | (refine O_split rfl rfl (fun h => ?_) (fun h => ?_) <;> try (exfalso; omega)) | refine O_ev WideF.wide rfl (Ev_pure rfl) rfl rfl ?_))
        all_goals first
          | (exfalso; omega)
          | (exfalso; exact absurd trivial (by assumption))
          | exact End_e (Ret1 rfl rfl) ⟨rfl, rfl⟩
          | (exfalso; exact absurd rfl (by assumption))
      · rw [hs1] at hp1 hp2
        dsimp only at hp1 hp2
        have hP := fun Hx => lParse_fn (H := Hx) (s := []) (by simp)
        unfold ParseH at hP
        repeat' (first | (refine O_freeze (prow_one _) ?_; intro H2 hle2 r2; refine O_ef rfl (Ef_call (I := []) WideF.wide (hp1 _ hle2 _ _ _ r2 (by omega)) ⟨rfl, trivial⟩ rfl ?_); rintro v H3 I3 hle3 ⟨rfl, rfl⟩; have r3 := r2.mono hle3; have g3 := (hl1.trans hle2).trans hle3; clear r2 hle2 hle3) | (refine O_ef rfl (Ef_call (I := []) WideF.wide (hpt _ _ _ _ r3 (by omega)) ⟨rfl, trivial⟩ rfl ?_); rintro v H4 I4 hle4 ⟨a4, n4, c4, rfl, r4, rfl⟩); have hn4 := r4.n_eq; have r3 := r3.mono hle4; have g3 := g3.trans hle4; clear hle4 | (refine O_ef rfl (Ef_call (I := []) WideF.wide (hp2 _ _ _ _ r4 (by omega)) ⟨rfl, trivial⟩ rfl ?_); rintro v H5 I5 hle5 ⟨rfl, rfl⟩); have r3 := r3.mono hle5; have g3 := g3.trans hle5; clear hle5 | (refine O_ef rfl (Ef_call (I := []) WideF.wide (hk _ g3) trivial rfl ?_); rintro v H6 I6 hle6 ⟨rfl, rfl⟩); have r3 := r3.mono hle6; clear hle6 | (refine O_ef rfl (Ef_call (I := []) WideF.wide (hP _) ⟨rfl, trivial⟩ rfl ?_); rintro v H7 I7 hle7 ⟨a7, n7, c7, rfl, r7, rfl⟩) | refine O_nil ?_ | refine A_seq ?_ | refine A_region ?_ | refine A_skip ?_ | refine A_ret ?_ | (show opsA _ _ _ _ _ _ _; first | (refine O_split rfl rfl (fun h => ?_) (fun h => ?_) <;> try (exfalso; omega)) | refine O_ev WideF.wide rfl (Ev_pure rfl) rfl rfl ?_ | (show opsA _ _ _ _ (⟨_, .call _, _, _, _, _⟩ :: _) _ _; refine O_ev WideF.wide rfl (Ev_llen rfl) rfl rfl ?_) | (show opsA _ _ _ _ (⟨_, .binOp _ _ _ _ _, _, _, _, _⟩ :: _) _ _; refine O_ev WideF.wide rfl (Ev_sneq rfl rfl) rfl rfl ?_) | (show opsA _ _ _ _ (⟨_, .unOp _ _ _, _, _, _, _⟩ :: _) _ _; refine O_ev WideF.wide rfl (Ev_notb rfl) rfl rfl ?_) | refine O_skip WideF.wide rfl rfl rfl ?_) | (show wpA _ _ _ (.exit _) _ _ _ _; refine A_exit rfl ?_) | (show wpA _ _ _ (.cond _ _ _) _ _ _ _; first | (refine A_if rfl (fun h => ?_) (fun h => ?_) <;> try (exfalso; omega)) | refine A_iftrue rfl ?_))
        all_goals first
          | (exfalso; omega)
          | (exfalso; exact absurd trivial (by assumption))
          | exact End_e (Ret1 rfl rfl) ⟨rfl, rfl⟩
          | (exfalso; exact absurd rfl (by assumption))
end Go.Proofs.YtaneeaojlkenmaaGreatDoor
