/-
  RevisionMerges.
-/
import Derived.Test.YtlcoebomgaodgaaQ13
namespace Go.Proofs.Ytlcoebomgaodgaa
open Go
set_option linter.unusedVariables false
set_option linter.unusedSimpArgs false
theorem MergeR.bad {a b out : List Rev} {e : Int} (h : MergeR a b out e) (hb : chk a ≠ 0 ∨ chk b ≠ 0 ∨ Conf a b) : e ≠ 0 ∧ out = [] := by
  rcases h with ⟨h1, rfl, h2⟩ | ⟨_, h1, rfl, h2⟩ | ⟨_, _, _, rfl, h2⟩ | ⟨h1, h2, w, hw, _⟩
  · exact ⟨h1, h2⟩
  · exact ⟨h1, h2⟩
  · exact ⟨by decide, h2⟩
  · rcases hb with hb | hb | hb
    · exact absurd h1 hb
    · exact absurd h2 hb
    · have := hw.no
      rw [List.take_length] at this
      exact absurd hb this
theorem MergeR.e1 {a b out : List Rev} {e : Int} (h : MergeR a b out e) (h1 : chk a ≠ 0) : e = chk a := by
  rcases h with ⟨_, h, _⟩ | ⟨h, _⟩ | ⟨h, _⟩ | ⟨h, _⟩
  · exact h
  all_goals exact absurd h h1
theorem MergeR.e2 {a b out : List Rev} {e : Int} (h : MergeR a b out e) (h0 : chk a = 0) (h1 : chk b ≠ 0) : e = chk b := by
  rcases h with ⟨h, _⟩ | ⟨_, _, h, _⟩ | ⟨_, h, _⟩ | ⟨_, h, _⟩
  · exact absurd h0 h
  · exact h
  all_goals exact absurd h h1
theorem MergeR.e3 {a b out : List Rev} {e : Int} (h : MergeR a b out e) (h0 : chk a = 0) (h1 : chk b = 0) (hc : Conf a b) : e = 23 := by
  rcases h with ⟨h, _⟩ | ⟨_, h, _⟩ | ⟨_, _, _, h, _⟩ | ⟨_, _, w, hw, _⟩
  · exact absurd h0 h
  · exact absurd h1 h
  · exact h
  · have := hw.no
    rw [List.take_length] at this
    exact absurd hc this
theorem MergeR.ok {a b out : List Rev} {e : Int} (h : MergeR a b out e) (h0 : chk a = 0) (h1 : chk b = 0) (hc : ¬ Conf a b) (hl : a.length + b.length ≤ 256) : e = 0 ∧ Inc (out.map Rev.id) ∧ ∀ r, r ∈ out ↔ r ∈ a ∨ r ∈ b := by
  rcases h with ⟨h, _⟩ | ⟨_, h, _⟩ | ⟨_, _, h, _⟩ | ⟨_, _, w, hw, h⟩
  · exact absurd h0 h
  · exact absurd h1 h
  · exact absurd h hc
  · have := hw.len
    rcases h with ⟨h, _⟩ | ⟨_, rfl, rfl⟩
    · omega
    · have hm := hw.mem
      rw [List.take_length] at hm
      exact ⟨rfl, hw.inc, hm⟩
theorem Mrg.fresh {a b w : List Rev} {j : Nat} {y : Rev} (h : Mrg a b j w) (hb : Inc (b.map Rev.id)) (hy : b[j]? = some y) (ha : ∀ r ∈ a, r.id ≠ y.id) : y.id ∉ w.map Rev.id := fun hm => by
  obtain ⟨z, hz, hzi⟩ := List.mem_map.1 hm
  rcases (h.mem z).1 hz with hz | hz
  · exact ha z hz hzi
  · obtain ⟨i, hi⟩ := List.mem_iff_getElem?.1 hz
    rw [List.getElem?_take] at hi
    split at hi
    · have hi' : (b.map Rev.id)[i]? = some z.id := by rw [List.getElem?_map, hi]; rfl
      have hj' : (b.map Rev.id)[j]? = some y.id := by rw [List.getElem?_map, hy]; rfl
      have := hb.lt hi' hj' (by omega)
      omega
    · cases hi
attribute [local irreducible] wpA opsA drJ drQ drE Ef Ev Shift Fn
set_option maxRecDepth 100000 in
set_option maxHeartbeats 4000000 in
theorem RevisionMerges_fn {H : Hp} {a : Option Addr} {n cq : Nat} {l : List Rev} {a' : Option Addr} {n' cq' : Nat} {l' : List Rev} (hx : HRow H a n cq 3 (l.map rrow)) (hx' : HRow H a' n' cq' 3 (l'.map rrow)) (hl : FineL l n) (hl' : FineL l' n') :
    Fn Try.prog 5 [.slice a n cq, .slice a' n' cq'] H [] fun v _ I => v = .bool true ∧ I = [] := by
  have hc1 := (cut_fn hx hl.1 hl.2).mono fun v H' I' h => h.at'
  have hc2 := fun Hx (hle : HLe H Hx) => (cut_fn (hx'.mono hle) hl'.1 hl'.2).mono fun v H' I' h => h.at'
  have hm1 := cutL_len l
  have hm2 := cutL_len l'
  generalize cutL l = p at hc1 hm1
  generalize cutL l' = q at hc2 hm2
  obtain ⟨N, hN⟩ : ∃ N, N = p.length := ⟨_, rfl⟩
  obtain ⟨N', hN'⟩ : ∃ N', N' = q.length := ⟨_, rfl⟩
  rw [← hN] at hc1
  rw [← hN'] at hc2
  have hg1 := fun Hx a1 c1 a2 c2 (r1 : HRow Hx a1 N c1 3 (p.map rrow)) (r2 : HRow Hx a2 N' c2 3 (q.map rrow)) => Merge_fn r1 r2
  have hg2 := fun Hx a1 c1 a2 c2 (r1 : HRow Hx a1 N c1 3 (p.map rrow)) (r2 : HRow Hx a2 N' c2 3 (q.map rrow)) => Merge_fn r2 r1
  have hk1 := fun Hx a1 c1 (r1 : HRow Hx a1 N c1 3 (p.map rrow)) => lcheck_fn r1
  have hk2 := fun Hx a1 c1 (r1 : HRow Hx a1 N' c1 3 (q.map rrow)) => lcheck_fn r1
  have hfd := fun Hx a1 c1 x (r1 : HRow Hx a1 N c1 3 (p.map rrow)) => find_fn (x := x) r1 (by omega)
  refine Fn_of _ _ Try.func5 rfl Try.ntmps5 rfl fun c => ?_
  by_cases h0 : chk p = 0
  · rw [h0] at hk1
    by_cases h1 : chk q = 0
    · have z0 := chk_zero.1 h0
      have z1 := chk_zero.1 h1
      rw [h1] at hk2
      repeat' (first | (refine O_ef rfl (Ef_call (I := []) WideF.wide hc1 ⟨rfl, trivial⟩ rfl ?_); rintro v H1 I1 hle1 ⟨⟨a1, c1, rfl, r1, _⟩, rfl⟩) | (refine O_ef rfl (Ef_call (I := []) WideF.wide (hc2 _ hle1) ⟨rfl, trivial⟩ rfl ?_); rintro v H2 I2 hle2 ⟨⟨a2, c2, rfl, r2, _⟩, rfl⟩; have r1 := r1.mono hle2) | (refine O_ef rfl (Ef_call (I := []) WideF.wide (hg1 _ _ _ _ _ r1 r2) ⟨rfl, rfl, trivial⟩ rfl ?_); rintro v H3 I3 hle3 ⟨out, e, hR, ⟨a3, n3, c3, rfl, r3⟩, rfl⟩; have r1 := r1.mono hle3; have r2 := r2.mono hle3) | (refine O_ef rfl (Ef_call (I := []) WideF.wide (hg2 _ _ _ _ _ r1 r2) ⟨rfl, rfl, trivial⟩ rfl ?_); rintro v H4 I4 hle4 ⟨out2, e2, hR2, ⟨a4, n4, c4, rfl, r4⟩, rfl⟩; have r1 := r1.mono hle4; have r2 := r2.mono hle4; have r3 := r3.mono hle4) | (refine O_ef rfl (Ef_call (I := []) WideF.wide known_fn trivial rfl ?_); rintro v H5 I5 hle5 ⟨rfl, rfl⟩; have r1 := r1.mono hle5; have r2 := r2.mono hle5; have r3 := r3.mono hle5; have r4 := r4.mono hle5) | (refine O_ef rfl (Ef_callp WideF.wide (hk1 _ _ _ r1) ⟨rfl, trivial⟩ rfl ?_)) | (refine O_ef rfl (Ef_callp WideF.wide (hk2 _ _ _ r2) ⟨rfl, trivial⟩ rfl ?_)) | refine O_nil ?_ | refine A_seq ?_ | refine A_region ?_ | refine A_skip ?_ | refine A_block ?_ | (show opsA _ _ _ _ _ _ _; first | refine O_ev WideF.wide rfl (Ev_pure rfl) rfl rfl ?_ | (show opsA _ _ _ _ (⟨_, .unOp _ _ _, _, _, _, _⟩ :: _) _ _; refine O_ev WideF.wide rfl (Ev_notb rfl) rfl rfl ?_)) | (show wpA _ _ _ (.cond _ _ _) _ _ _ _; first | (refine A_if rfl (fun h => ?_) (fun h => ?_) <;> try (exfalso; omega)) | refine A_iffalse rfl ?_))
      all_goals try (exfalso; omega)
      refine A_loopu (fun t st => ∃ (j : Nat) (w : List Rev) (aw : Option Addr) (nw cw : Nat) (want : Int) (Hk : Hp), t = N' - j ∧ j ≤ N' ∧ HLe H5 Hk ∧ HRow Hk aw nw cw 3 (w.map rrow) ∧ ((want = 0 ∧ Mrg p q j w) ∨ (want = 23 ∧ Conf p q)) ∧ st = ⟨102, [(0, .slice a1 N c1), (1, .slice a2 N' c2), (5, .slice a3 n3 c3), (6, .int .i64 e), (7, .slice a4 n4 c4), (8, .int .i64 e2), (9, .int .i64 want), (10, .slice aw nw cw), (11, .int .i64 (j : Int))], Hk, [], [], []⟩) ?_ ?_
      · exact Shift.to ⟨_, 0, p, a1, N, c1, 0, H5, rfl, by omega, HLe.refl _, r1, .inl ⟨rfl, Mrg.start z0.2.2⟩, rfl⟩ ⟨rfl, rfl, rfl, ⟨rfl, rfl, rfl, rfl, rfl, rfl, rfl, rfl, rfl, trivial⟩, Own.sub_nil _⟩
      rintro t st ⟨j, w, aw, nw, cw, want, Hk, rfl, hj, hle, rw', hcase, rfl⟩
      have r1 := r1.mono hle
      have r2 := r2.mono hle
      have r3 := r3.mono hle
      have r4 := r4.mono hle
      have hnw : w.length = nw := by have := rw'.len; rwa [List.length_map] at this
      rcases hcase with ⟨rfl, hM⟩ | ⟨rfl, hC⟩
      · have hMl := hM.len
        by_cases hlt : j < N'
        · obtain ⟨b, o, y, rfl, hy, hcy⟩ := r2.atm j hlt
          have hcz := hcy
          unfold rrow at hcz
          rcases findK_spec p y.id 0 with ⟨hk, hno⟩ | ⟨i, x, hk, _, hxi, hxy⟩
          · rw [List.drop_zero] at hno
            have hf := hfd Hk a1 c1 y.id r1
            rw [hk] at hf
            have hput := fun Hx (hl : HLe Hk Hx) => put_fn (r := y) (rw'.mono hl) (by omega)
            repeat' (first | (refine O_ev WideF.wide rfl (Ev_loadH1 rfl (hcz 0 _ rfl)) rfl rfl ?_) | (refine O_ev WideF.wide rfl (Ev_loadH rfl hcy rfl) rfl rfl ?_) | (refine O_ef rfl (Ef_callp WideF.wide hf ⟨rfl, rfl, trivial⟩ rfl ?_)) | (refine O_ef rfl (Ef_call (I := []) WideF.wide (hput _ (HLe.refl _)) ⟨rfl, rfl, trivial⟩ rfl ?_); rintro v H6 I6 hle6 ⟨⟨a6, n6, c6, rfl, r6⟩, rfl⟩) | refine O_nil ?_ | refine A_seq ?_ | refine A_region ?_ | refine A_skip ?_ | refine A_block ?_ | (show opsA _ _ _ _ _ _ _; first | (refine O_split rfl rfl (fun h => ?_) (fun h => ?_) <;> try (exfalso; omega)) | refine O_ev WideF.wide rfl (Ev_pure rfl) rfl rfl ?_ | (show opsA _ _ _ _ (⟨_, .indexAddr _ _ _, _, _, _, _⟩ :: _) _ _; refine O_ev WideF.wide rfl (Ev_indexAddr rfl rfl (by omega) (by omega)) rfl rfl ?_) | (show opsA _ _ _ _ (⟨_, .fieldAddr _ _ _, _, _, _, _⟩ :: _) _ _; refine O_ev WideF.wide rfl (Ev_fieldAddr rfl rfl rfl) rfl rfl ?_) | (show opsA _ _ _ _ (⟨_, .call _, _, _, _, _⟩ :: _) _ _; refine O_ev WideF.wide rfl (Ev_llen rfl) rfl rfl ?_) | (show opsA _ _ _ _ (⟨_, .binOp _ _ _ _ _, _, _, _, _⟩ :: _) _ _; refine O_ev WideF.wide rfl (Ev_add rfl rfl (wi64 (by omega))) rfl rfl ?_)) | (show wpA _ _ _ (.cond _ _ _) _ _ _ _; (refine A_if rfl (fun h => ?_) (fun h => ?_) <;> try (exfalso; omega))))
            all_goals first
              | (exfalso; omega)
              | (refine Shift.to ⟨_, ?_, j + 1, putL w y, _, _, _, 0, H6, rfl, by omega, hle.trans hle6, r6, .inl ⟨rfl, hM.put hy (hM.fresh z1.2.2 hy hno)⟩, rfl⟩ ⟨rfl, rfl, rfl, ⟨rfl, rfl, rfl, rfl, rfl, rfl, rfl, rfl, rfl, trivial⟩, Own.sub_nil _⟩
                 omega)
          · have hf := hfd Hk a1 c1 y.id r1
            rw [hk] at hf
            have hiN : i < N := by have := (List.getElem?_eq_some_iff.1 hxi).1; omega
            obtain ⟨b', o', x', rfl, hx', hcx⟩ := r1.atm i hiN
            rw [hxi] at hx'
            cases hx'
            repeat' (first | (refine A_drawL WideF.wide (.q 0 (.q 1 (.q 2 (.q 3 (.q 4 (.q 5 (.q 6 (.q 7 (.q 8 (.done [])))))))))) [] (by decide +kernel) ?_) | (refine O_ev WideF.wide rfl (Ev_loadH1 rfl (hcz 0 _ rfl)) rfl rfl ?_) | (refine O_ef rfl (Ef_callp WideF.wide hf ⟨rfl, rfl, trivial⟩ rfl ?_)) | (refine D_ev rfl (Ev_loadH rfl hcx rfl) rfl rfl ?_) | (refine D_ev rfl (Ev_loadH rfl hcy rfl) rfl rfl ?_) | (refine D_ev rfl (Ev_neS rfl rfl Try.eqGuardType23 (eq_rev x y)) rfl rfl ?_) | refine O_nil ?_ | refine A_seq ?_ | refine A_region ?_ | refine A_skip ?_ | refine A_block ?_ | (show drJ _ _ _ _ _ _ _ (.q _ _) _; refine D_q rfl ?_) | (show drJ _ _ _ _ _ _ _ (.done _) _; refine D_done ?_; simp only [List.cons_append, List.nil_append]) | (show drQ _ _ _ _ _ _; first | refine D_ev rfl (Ev_pure rfl) rfl rfl ?_ | (show drQ _ _ _ ⟨_, .indexAddr _ _ _, _, _, _, _⟩ _ _; refine D_ev rfl (Ev_indexAddr rfl rfl (by omega) (by omega)) rfl rfl ?_)) | (show opsA _ _ _ _ _ _ _; first | (refine O_split rfl rfl (fun h => ?_) (fun h => ?_) <;> try (exfalso; omega)) | refine O_ev WideF.wide rfl (Ev_pure rfl) rfl rfl ?_ | (show opsA _ _ _ _ (⟨_, .indexAddr _ _ _, _, _, _, _⟩ :: _) _ _; refine O_ev WideF.wide rfl (Ev_indexAddr rfl rfl (by omega) (by omega)) rfl rfl ?_) | (show opsA _ _ _ _ (⟨_, .fieldAddr _ _ _, _, _, _, _⟩ :: _) _ _; refine O_ev WideF.wide rfl (Ev_fieldAddr rfl rfl rfl) rfl rfl ?_) | (show opsA _ _ _ _ (⟨_, .call _, _, _, _, _⟩ :: _) _ _; refine O_ev WideF.wide rfl (Ev_llen rfl) rfl rfl ?_) | (show opsA _ _ _ _ (⟨_, .binOp _ _ _ _ _, _, _, _, _⟩ :: _) _ _; refine O_ev WideF.wide rfl (Ev_add rfl rfl (wi64 (by omega))) rfl rfl ?_)) | (show wpA _ _ _ (.cond _ _ _) _ _ _ _; (refine A_if rfl (fun h => ?_) (fun h => ?_) <;> try (exfalso; omega))))
            all_goals first
              | (exfalso; omega)
              | (have hne : ¬ x = y := by assumption
                 refine Shift.to ⟨_, ?_, j + 1, w, _, _, _, 23, Hk, rfl, by omega, hle, rw', .inr ⟨rfl, x, List.mem_of_getElem? hxi, y, List.mem_of_getElem? hy, hxy, hne⟩, rfl⟩ ⟨rfl, rfl, rfl, ⟨rfl, rfl, rfl, rfl, rfl, rfl, rfl, rfl, rfl, trivial⟩, Own.sub_nil _⟩
                 omega)
              | (have hne : ¬ ¬ x = y := by assumption
                 have hne := Decidable.not_not.1 hne
                 refine Shift.to ⟨_, ?_, j + 1, w, _, _, _, 0, Hk, rfl, by omega, hle, rw', .inl ⟨rfl, hM.same hy ((hM.mem y).2 (.inl (hne ▸ List.mem_of_getElem? hxi)))⟩, rfl⟩ ⟨rfl, rfl, rfl, ⟨rfl, rfl, rfl, rfl, rfl, rfl, rfl, rfl, rfl, trivial⟩, Own.sub_nil _⟩
                 omega)
        · have hjn : j = q.length := by omega
          rw [hjn] at hM
          have hno := hM.no
          rw [List.take_length] at hno
          obtain ⟨rfl, i1, m1⟩ := hR.ok h0 h1 hno (by omega)
          obtain ⟨rfl, i2, m2⟩ := hR2.ok h1 h0 (fun h => hno h.symm) (by omega)
          have hmem := hM.mem
          rw [List.take_length] at hmem
          have o1 : out = w := revs_ext i1 hM.inc fun r => by rw [m1, hmem]
          have o2 : out2 = w := revs_ext i2 hM.inc fun r => by rw [m2, hmem, or_comm]
          subst o1
          subst o2
          have hn3 : n3 = nw := by have := r3.len; rw [List.length_map] at this; omega
          have hn4 : n4 = nw := by have := r4.len; rw [List.length_map] at this; omega
          have s1 := sameRevs_self r3 rw' (by omega)
          have s2 := sameRevs_self r4 rw' (by omega)
          repeat' (first | (refine O_ev WideF.wide rfl (Ev_eqis rfl rfl) rfl rfl ?_) | (refine O_ef rfl (Ef_callp WideF.wide s1 ⟨rfl, rfl, trivial⟩ rfl ?_)) | (refine O_ef rfl (Ef_callp WideF.wide s2 ⟨rfl, rfl, trivial⟩ rfl ?_)) | refine O_nil ?_ | refine A_seq ?_ | refine A_region ?_ | refine A_skip ?_ | refine A_ret ?_ | (show opsA _ _ _ _ _ _ _; first | (refine O_split rfl rfl (fun h => ?_) (fun h => ?_) <;> try (exfalso; omega)) | refine O_ev WideF.wide rfl (Ev_pure rfl) rfl rfl ?_ | (show opsA _ _ _ _ (⟨_, .call _, _, _, _, _⟩ :: _) _ _; refine O_ev WideF.wide rfl (Ev_llen rfl) rfl rfl ?_) | refine O_skip WideF.wide rfl rfl rfl ?_) | (show wpA _ _ _ (.exit _) _ _ _ _; refine A_exit rfl ?_) | (show wpA _ _ _ (.cond _ _ _) _ _ _ _; first | (refine A_if rfl (fun h => ?_) (fun h => ?_) <;> try (exfalso; omega)) | refine A_iffalse rfl ?_))
          all_goals first
            | (exfalso; omega)
            | exact End_e (Ret1 rfl rfl) ⟨rfl, rfl⟩
      · obtain ⟨_, rfl⟩ := hR.bad (.inr (.inr hC))
        obtain rfl := hR.e3 h0 h1 hC
        obtain ⟨hne, _⟩ := hR2.bad (.inr (.inr hC.symm))
        obtain rfl : n3 = 0 := by have h9 := r3.len; simpa using h9.symm
        have hdec : decide (¬ e2 = 0) = true := decide_eq_true hne
        by_cases hlt : j < N'
        · repeat' (first | (refine O_ev WideF.wide rfl (Ev_eqis rfl rfl) rfl rfl ?_) | (refine O_ev WideF.wide rfl (Ev_neq rfl rfl) rfl rfl ?_; rw [hdec]) | refine O_nil ?_ | refine A_seq ?_ | refine A_region ?_ | refine A_ret ?_ | (show opsA _ _ _ _ _ _ _; first | (refine O_split rfl rfl (fun h => ?_) (fun h => ?_) <;> try (exfalso; omega)) | refine O_ev WideF.wide rfl (Ev_pure rfl) rfl rfl ?_ | (show opsA _ _ _ _ (⟨_, .call _, _, _, _, _⟩ :: _) _ _; refine O_ev WideF.wide rfl (Ev_llen rfl) rfl rfl ?_)) | (show wpA _ _ _ (.exit _) _ _ _ _; refine A_exit rfl ?_) | (show wpA _ _ _ (.cond _ _ _) _ _ _ _; (refine A_if rfl (fun h => ?_) (fun h => ?_) <;> try (exfalso; omega))))
          all_goals first
            | (exfalso; omega)
            | exact End_e (Ret1 rfl rfl) ⟨rfl, rfl⟩
        · repeat' (first | (refine O_ev WideF.wide rfl (Ev_eqis rfl rfl) rfl rfl ?_) | (refine O_ev WideF.wide rfl (Ev_neq rfl rfl) rfl rfl ?_; rw [hdec]) | refine O_nil ?_ | refine A_seq ?_ | refine A_region ?_ | refine A_ret ?_ | (show opsA _ _ _ _ _ _ _; first | (refine O_split rfl rfl (fun h => ?_) (fun h => ?_) <;> try (exfalso; omega)) | refine O_ev WideF.wide rfl (Ev_pure rfl) rfl rfl ?_ | (show opsA _ _ _ _ (⟨_, .call _, _, _, _, _⟩ :: _) _ _; refine O_ev WideF.wide rfl (Ev_llen rfl) rfl rfl ?_) | refine O_skip WideF.wide rfl rfl rfl ?_) | (show wpA _ _ _ (.exit _) _ _ _ _; refine A_exit rfl ?_) | (show wpA _ _ _ (.cond _ _ _) _ _ _ _; first | (refine A_if rfl (fun h => ?_) (fun h => ?_) <;> try (exfalso; omega)) | refine A_iffalse rfl ?_))
          all_goals first
            | (exfalso; omega)
            | exact End_e (Ret1 rfl rfl) ⟨rfl, rfl⟩
    · have hne0 := h1
      repeat' (first | (refine O_ef rfl (Ef_call (I := []) WideF.wide hc1 ⟨rfl, trivial⟩ rfl ?_); rintro v H1 I1 hle1 ⟨⟨a1, c1, rfl, r1, _⟩, rfl⟩) | (refine O_ef rfl (Ef_call (I := []) WideF.wide (hc2 _ hle1) ⟨rfl, trivial⟩ rfl ?_); rintro v H2 I2 hle2 ⟨⟨a2, c2, rfl, r2, _⟩, rfl⟩; have r1 := r1.mono hle2) | (refine O_ef rfl (Ef_call (I := []) WideF.wide (hg1 _ _ _ _ _ r1 r2) ⟨rfl, rfl, trivial⟩ rfl ?_); rintro v H3 I3 hle3 ⟨out, e, hR, ⟨a3, n3, c3, rfl, r3⟩, rfl⟩; have r1 := r1.mono hle3; have r2 := r2.mono hle3) | (refine O_ef rfl (Ef_call (I := []) WideF.wide (hg2 _ _ _ _ _ r1 r2) ⟨rfl, rfl, trivial⟩ rfl ?_); rintro v H4 I4 hle4 ⟨out2, e2, hR2, ⟨a4, n4, c4, rfl, r4⟩, rfl⟩; have r1 := r1.mono hle4; have r2 := r2.mono hle4; have r3 := r3.mono hle4) | (refine O_ef rfl (Ef_call (I := []) WideF.wide known_fn trivial rfl ?_); rintro v H5 I5 hle5 ⟨rfl, rfl⟩; have r1 := r1.mono hle5; have r2 := r2.mono hle5; have r3 := r3.mono hle5; have r4 := r4.mono hle5) | (refine O_ef rfl (Ef_callp WideF.wide (hk1 _ _ _ r1) ⟨rfl, trivial⟩ rfl ?_)) | (refine O_ef rfl (Ef_callp WideF.wide (hk2 _ _ _ r2) ⟨rfl, trivial⟩ rfl ?_)) | refine O_nil ?_ | refine A_seq ?_ | refine A_region ?_ | refine A_skip ?_ | refine A_block ?_ | (show opsA _ _ _ _ _ _ _; first | refine O_ev WideF.wide rfl (Ev_pure rfl) rfl rfl ?_ | (show opsA _ _ _ _ (⟨_, .unOp _ _ _, _, _, _, _⟩ :: _) _ _; refine O_ev WideF.wide rfl (Ev_notb rfl) rfl rfl ?_)) | (show wpA _ _ _ (.cond _ _ _) _ _ _ _; first | (refine A_if rfl (fun h => ?_) (fun h => ?_) <;> try (exfalso; omega)) | refine A_iffalse rfl ?_))
      all_goals try (exfalso; first | omega | exact hne0 (by assumption))
      obtain ⟨_, rfl⟩ := hR.bad (.inr (.inl h1))
      obtain rfl := hR.e2 h0 h1
      obtain ⟨hne, _⟩ := hR2.bad (.inl h1)
      obtain rfl : n3 = 0 := by have h9 := r3.len; simpa using h9.symm
      have hdec : decide (¬ e2 = 0) = true := decide_eq_true hne
      refine A_loopu (fun t st => t = 0 ∧ st = ⟨102, [(0, .slice a1 N c1), (1, .slice a2 N' c2), (5, .slice a3 0 c3), (6, .int .i64 (chk q)), (7, .slice a4 n4 c4), (8, .int .i64 e2), (9, .int .i64 (chk q)), (11, .int .i64 0)], H5, [], [], []⟩) ?_ ?_
      · exact Shift.to ⟨_, rfl, rfl⟩ ⟨rfl, rfl, rfl, ⟨rfl, rfl, rfl, rfl, rfl, rfl, rfl, rfl, trivial⟩, Own.sub_nil _⟩
      rintro t st ⟨rfl, rfl⟩
      repeat' (first | (refine O_ev WideF.wide rfl (Ev_eqis rfl rfl) rfl rfl ?_) | (refine O_ev WideF.wide rfl (Ev_neq rfl rfl) rfl rfl ?_; rw [hdec]) | refine O_nil ?_ | refine A_seq ?_ | refine A_region ?_ | refine A_ret ?_ | (show opsA _ _ _ _ _ _ _; first | (refine O_split rfl rfl (fun h => ?_) (fun h => ?_) <;> try (exfalso; omega)) | refine O_ev WideF.wide rfl (Ev_pure rfl) rfl rfl ?_ | (show opsA _ _ _ _ (⟨_, .call _, _, _, _, _⟩ :: _) _ _; refine O_ev WideF.wide rfl (Ev_llen rfl) rfl rfl ?_) | refine O_skip WideF.wide rfl rfl rfl ?_) | (show wpA _ _ _ (.exit _) _ _ _ _; refine A_exit rfl ?_) | (show wpA _ _ _ (.cond _ _ _) _ _ _ _; first | (refine A_if rfl (fun h => ?_) (fun h => ?_) <;> try (exfalso; omega)) | refine A_iffalse rfl ?_))
      all_goals first
        | (exfalso; omega)
        | (exfalso; exact hne0 (by assumption))
        | (exfalso; exact absurd hne0 (by assumption))
        | exact End_e (Ret1 rfl rfl) ⟨rfl, rfl⟩
  · have hne0 := h0
    repeat' (first | (refine O_ef rfl (Ef_call (I := []) WideF.wide hc1 ⟨rfl, trivial⟩ rfl ?_); rintro v H1 I1 hle1 ⟨⟨a1, c1, rfl, r1, _⟩, rfl⟩) | (refine O_ef rfl (Ef_call (I := []) WideF.wide (hc2 _ hle1) ⟨rfl, trivial⟩ rfl ?_); rintro v H2 I2 hle2 ⟨⟨a2, c2, rfl, r2, _⟩, rfl⟩; have r1 := r1.mono hle2) | (refine O_ef rfl (Ef_call (I := []) WideF.wide (hg1 _ _ _ _ _ r1 r2) ⟨rfl, rfl, trivial⟩ rfl ?_); rintro v H3 I3 hle3 ⟨out, e, hR, ⟨a3, n3, c3, rfl, r3⟩, rfl⟩; have r1 := r1.mono hle3; have r2 := r2.mono hle3) | (refine O_ef rfl (Ef_call (I := []) WideF.wide (hg2 _ _ _ _ _ r1 r2) ⟨rfl, rfl, trivial⟩ rfl ?_); rintro v H4 I4 hle4 ⟨out2, e2, hR2, ⟨a4, n4, c4, rfl, r4⟩, rfl⟩; have r1 := r1.mono hle4; have r2 := r2.mono hle4; have r3 := r3.mono hle4) | (refine O_ef rfl (Ef_call (I := []) WideF.wide known_fn trivial rfl ?_); rintro v H5 I5 hle5 ⟨rfl, rfl⟩; have r1 := r1.mono hle5; have r2 := r2.mono hle5; have r3 := r3.mono hle5; have r4 := r4.mono hle5) | (refine O_ef rfl (Ef_callp WideF.wide (hk1 _ _ _ r1) ⟨rfl, trivial⟩ rfl ?_)) | refine O_nil ?_ | refine A_seq ?_ | refine A_region ?_ | refine A_skip ?_ | refine A_block ?_ | (show opsA _ _ _ _ _ _ _; first | refine O_ev WideF.wide rfl (Ev_pure rfl) rfl rfl ?_ | (show opsA _ _ _ _ (⟨_, .unOp _ _ _, _, _, _, _⟩ :: _) _ _; refine O_ev WideF.wide rfl (Ev_notb rfl) rfl rfl ?_)) | (show wpA _ _ _ (.cond _ _ _) _ _ _ _; first | (refine A_if rfl (fun h => ?_) (fun h => ?_) <;> try (exfalso; omega)) | refine A_iffalse rfl ?_))
    all_goals try (exfalso; first | omega | exact hne0 (by assumption))
    obtain ⟨_, rfl⟩ := hR.bad (.inl h0)
    obtain rfl := hR.e1 h0
    obtain ⟨hne, _⟩ := hR2.bad (.inr (.inl h0))
    obtain rfl : n3 = 0 := by have h9 := r3.len; simpa using h9.symm
    have hdec : decide (¬ e2 = 0) = true := decide_eq_true hne
    refine A_loopu (fun t st => t = 0 ∧ st = ⟨102, [(0, .slice a1 N c1), (1, .slice a2 N' c2), (5, .slice a3 0 c3), (6, .int .i64 (chk p)), (7, .slice a4 n4 c4), (8, .int .i64 e2), (9, .int .i64 (chk p)), (11, .int .i64 0)], H5, [], [], []⟩) ?_ ?_
    · exact Shift.to ⟨_, rfl, rfl⟩ ⟨rfl, rfl, rfl, ⟨rfl, rfl, rfl, rfl, rfl, rfl, rfl, rfl, trivial⟩, Own.sub_nil _⟩
    rintro t st ⟨rfl, rfl⟩
    repeat' (first | (refine O_ev WideF.wide rfl (Ev_eqis rfl rfl) rfl rfl ?_) | (refine O_ev WideF.wide rfl (Ev_neq rfl rfl) rfl rfl ?_; rw [hdec]) | refine O_nil ?_ | refine A_seq ?_ | refine A_region ?_ | refine A_ret ?_ | (show opsA _ _ _ _ _ _ _; first | (refine O_split rfl rfl (fun h => ?_) (fun h => ?_) <;> try (exfalso; omega)) | refine O_ev WideF.wide rfl (Ev_pure rfl) rfl rfl ?_ | (show opsA _ _ _ _ (⟨_, .call _, _, _, _, _⟩ :: _) _ _; refine O_ev WideF.wide rfl (Ev_llen rfl) rfl rfl ?_) | refine O_skip WideF.wide rfl rfl rfl ?_) | (show wpA _ _ _ (.exit _) _ _ _ _; refine A_exit rfl ?_) | (show wpA _ _ _ (.cond _ _ _) _ _ _ _; first | (refine A_if rfl (fun h => ?_) (fun h => ?_) <;> try (exfalso; omega)) | refine A_iffalse rfl ?_))
    all_goals first
      | (exfalso; omega)
      | (exfalso; exact hne0 (by assumption))
      | (exfalso; exact absurd hne0 (by assumption))
      | exact End_e (Ret1 rfl rfl) ⟨rfl, rfl⟩
end Go.Proofs.Ytlcoebomgaodgaa
