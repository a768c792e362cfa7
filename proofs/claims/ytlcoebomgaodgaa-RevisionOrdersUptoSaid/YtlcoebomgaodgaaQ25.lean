/-
  RevisionOrders.
-/
import Derived.Test.YtlcoebomgaodgaaQ24
import Derived.Test.YtlcoebomgaodgaaQ21
import Derived.Test.YtlcoebomgaodgaaQ12
namespace Go.Proofs.Ytlcoebomgaodgaa
open Go
set_option linter.unusedVariables false
set_option linter.unusedSimpArgs false
theorem Ev_lslice3h {P : Program} {e : Env} {H : Hp} {R : Own} {dst : Option Tmp} {ty t : TypeId} {pos : String} {after : Array Edge} {g : Option (Nat × Bool)} {x z u : Operand} {el n c s : Nat} {ag : Bool} {ad : Option Addr} {j m : Int} {k2 k3 : IntKind} [ht : UndC P t (.slice el)] [hs : TyC P el ag s] (hx : e.eval x = some (.slice ad n c)) (hz : e.eval z = some (.int k2 j)) (hu : e.eval u = some (.int k3 m)) (h1 : 0 ≤ j) (h2 : j ≤ m) (h3 : m ≤ c) :
    Ev P ⟨dst, .slice t x none (some z) (some u), ty, pos, after, g⟩ e H R (.slice ad j.toNat m.toNat) := fun a w he _ _ => by
  have hb0 : Sem.run P (Instr.sliceBound (.int k3 m) c .slice3Acap) w = .ok m.toNat w := run_sliceBound w k3 m c .slice3Acap (by omega) h3
  have hb1 : Sem.run P (Instr.sliceBound (.int k2 j) m.toNat .slice3B) w = .ok j.toNat w := run_sliceBound w k2 j m.toNat .slice3B (by omega) (by omega)
  simp only [execOp, he.eval hx, Option.map_none, Option.map_some, he.eval hz, he.eval hu, Instr.sliceAt, Sem.run_bind, ht.run, Result.andThen_ok, Instr.slice, Instr.sliceBounds, Sem.run_pure, hb0, hb1, Option.isSome_some, if_true, hs.sizeOf, Nat.zero_mul, Nat.sub_zero]
  have ha : ad.map (fun x => x.add 0) = ad := by cases ad <;> simp [Addr.add_zero']
  rw [ha]
  split <;> rfl
theorem HRow.fit {H : Hp} {a : Option Addr} {n c k : Nat} {css : List (List Value)} (h : HRow H a n c k css) {j : Nat} (hj : j ≤ n) : HRow H a j j k (css.take j) :=
  have h' := h.upto hj
  ⟨h'.len, Nat.le_refl _, fun ha => ⟨(h'.nil ha).1, (h'.nil ha).1⟩, h'.el⟩
attribute [local irreducible] wpA opsA drJ drQ drE Ef Ev Shift Fn
set_option maxRecDepth 100000 in
set_option maxHeartbeats 8000000 in
theorem RevisionOrders_fn {H : Hp} {a : Option Addr} {n cq : Nat} {l : List Rev} (hx : HRow H a n cq 3 (l.map rrow)) (hl : FineL l n) :
    Fn Try.prog 10 [.slice a n cq] H [] fun v _ I => v = .bool true ∧ I = [] := by
  have hc := (cut_fn hx hl.1 hl.2).mono fun v H' I' h => h.at'
  have hm := cutL_len l
  generalize cutL l = m at hc hm
  obtain ⟨N, hN⟩ : ∃ N, N = m.length := ⟨_, rfl⟩
  rw [← hN] at hc hm
  refine Fn_of _ _ Try.func10 rfl Try.ntmps10 rfl fun c => ?_
  repeat' (first | (refine O_ef rfl (Ef_call (I := []) WideF.wide hc ⟨rfl, trivial⟩ rfl ?_); rintro v H1 I1 hle1 ⟨⟨a1, c1, rfl, r1, hc1⟩, rfl⟩) | (refine O_ef rfl (Ef_call (I := []) WideF.wide (Chronological_fn stable40 r1 (by omega) (by omega)) ⟨rfl, trivial⟩ rfl ?_); rintro v H2 I2 hle2 ⟨⟨ca, cn, cc, rfl, rC⟩, rfl⟩) | (refine O_ef rfl (Ef_call (I := []) WideF.wide (ByAuthor_fn (r1.mono hle2) (by omega)) ⟨rfl, trivial⟩ rfl ?_); rintro v H3 I3 hle3 ⟨⟨ga, gn, gc, ks, rfl, rG, hK⟩, rfl⟩) | (refine O_ef rfl (Ef_call (I := []) WideF.wide known_fn trivial rfl ?_); rintro v H4 I4 hle4 ⟨rfl, rfl⟩) | refine O_nil ?_ | refine A_seq ?_ | refine A_region ?_ | refine A_skip ?_ | refine A_block ?_ | (show opsA _ _ _ _ _ _ _; first | refine O_ev WideF.wide rfl (Ev_pure rfl) rfl rfl ?_ | (show opsA _ _ _ _ (⟨_, .unOp _ _ _, _, _, _, _⟩ :: _) _ _; refine O_ev WideF.wide rfl (Ev_notb rfl) rfl rfl ?_)) | (show wpA _ _ _ (.cond _ _ _) _ _ _ _; refine A_iffalse rfl ?_))
  have r0 := ((r1.mono hle2).mono hle3).mono hle4
  have rC0 := (rC.mono hle3).mono hle4
  have rG0 := rG.mono hle4
  have hKl := hK.len
  have e2 : ks.length = gn := by have := rG.len; simpa using this
  have e3 : (isort m).length = cn := by have := rC.len; simpa using this
  rw [isort_len] at e3
  refine A_loopu (fun q s => ∃ (i : Nat) (H5 : Hp) (wa : Option Addr) (wn wc : Nat), q = N - i ∧ i ≤ N ∧ HLe H4 H5 ∧ HRow H5 wa wn wc 3 ((isort (m.take i)).map rrow) ∧ s = ⟨200, [(0, .slice a1 N c1), (3, .slice ca cn cc), (4, .slice ga gn gc), (5, .slice wa wn wc), (6, .int .i64 i)], H5, [], [], []⟩) ?_ ?_
  · exact Shift.to ⟨_, 0, H4, none, 0, 0, rfl, by omega, HLe.refl _, HRow.nil' _ _, rfl⟩ ⟨rfl, rfl, rfl, ⟨rfl, rfl, rfl, rfl, rfl, trivial⟩, Own.sub_nil _⟩
  rintro q s ⟨i, H5, wa, wn, wc, rfl, hi, hle5, rW, rfl⟩
  have e4 : (isort (m.take i)).length = wn := by have := rW.len; simpa using this
  rw [isort_len, List.length_take] at e4
  by_cases hlt : i < N
  · obtain ⟨b, o, x, rfl, hxi, hc⟩ := (r0.mono hle5).atm i hlt
    have hsn : isort (m.take (i + 1)) = insR (isort (m.take i)) x := by rw [take_get hxi, isort_snoc]
    generalize hO : isort (m.take i) = O at rW hsn
    have hOl : O.length = wn := by rw [← hO, isort_len, List.length_take]; omega
    unfold rrow at hc
    repeat' (first | refine O_nil ?_ | refine A_seq ?_ | refine A_region ?_ | refine A_skip ?_ | refine A_block ?_ | (show opsA _ _ _ _ _ _ _; first | refine O_ev WideF.wide rfl (Ev_pure rfl) rfl rfl ?_ | (show opsA _ _ _ _ (⟨_, .call _, _, _, _, _⟩ :: _) _ _; refine O_ev WideF.wide rfl (Ev_llen rfl) rfl rfl ?_)) | (show wpA _ _ _ (.cond _ _ _) _ _ _ _; (refine A_if rfl (fun h => ?_) (fun h => ?_) <;> try (exfalso; omega))))
    refine A_loopu (fun q s => ∃ (k : Nat) (z : Int), q = k ∧ z = k ∧ k ≤ wn ∧ atR O x k = atR O x O.length ∧ s = ⟨200, [(7, .int .i64 z), (0, .slice (some ⟨b, o, none⟩) N c1), (3, .slice ca cn cc), (4, .slice ga gn gc), (5, .slice wa wn wc), (6, .int .i64 i)], H5, [], [], []⟩) ?_ ?_
    · exact Shift.to ⟨_, wn, _, rfl, rfl, Nat.le_refl _, by rw [hOl], rfl⟩ ⟨rfl, rfl, rfl, ⟨rfl, rfl, rfl, rfl, rfl, rfl, trivial⟩, Own.sub_nil _⟩
    rintro q s ⟨k, z, hq, hz, hk, hat, rfl⟩
    subst hz
    have hup := rW.fit hk
    have hlw := rW.slice (i := k) (j := wn) hk (Nat.le_refl _)
    have hone := rrow_one (insR O x)
    have hend : atR O x k = k → (O.map rrow).take k ++ [.int .i64 x.id, sv x.author, .int .i64 x.time] :: ((O.map rrow).drop k).take (wn - k) = (isort (m.take (i + 1))).map rrow := by
      intro hk2
      rw [hsn, insR, ← hat, hk2, List.take_of_length_le (show ((O.map rrow).drop k).length ≤ wn - k by simp; omega)]
      simp [List.map_take, List.map_drop, rrow]
    by_cases hk0 : k = 0
    · subst hk0
      have hend := hend rfl
      repeat' (first | (refine A_drawL WideF.wide (.q 0 (.q 1 (.q 2 (.q 3 (.q 4 (.q 5 (.q 6 (.q 7 (.q 8 (.q 9 (.q 10 (.q 11 (.q 12 (.q 13 (.q 14 (.q 15 (.q 16 (.q 17 (.q 18 (.q 19 (.q 20 (.q 21 (.q 22 (.q 23 (.q 24 (.q 25 (.q 26 (.q 27 (.q 28 (.q 29 (.q 30 (.q 31 (.q 32 (.q 33 (.q 34 (.q 35 (.q 36 (.q 37 (.q 38 (.q 39 (.q 40 (.q 41 (.q 42 (.q 43 (.done []))))))))))))))))))))))))))))))))))))))))))))) [] (by decide +kernel) ?_) | (refine A_drawi WideF.wide (.p 0 (.p 1 (.p 2 (.p 3 (.p 4 (.p 5 (.q 6 (.q 7 (.p 9 (.p 10 (.p 11 (.r (.e 8 (.e 12 (.e 13 (.q 14 (.done []))))))))))))))))) [8, 12, 13, 14] [] [] (by decide +kernel) (by decide) rfl ?_; simp only [Own.picks, Own.rget, List.cons_append, List.nil_append, List.append_nil]) | (refine D_ev rfl (Ev_loadH rfl hc rfl) rfl rfl ?_) | (refine D_pv rfl (Ev_lslice3h rfl rfl rfl (by omega) (by omega) (by have := rW.cap; omega)) rfl rfl ?_) | (refine D_pv rfl (Ev_lslicel rfl rfl (by omega) (by omega)) rfl rfl ?_) | (refine E_ef rfl (Ef_appendH WideF.wide rfl rfl hlw rfl rfl (by simp; omega) (by simp; omega) rfl ?_); intro a4 c4; refine ⟨Grow.same rfl rfl, ?_⟩) | (refine E_ef rfl (Ef_appendF WideF.wide rfl rfl hup (by simp) rfl rfl (by simp; omega) (by simp; omega) rfl ?_); intro b5 c5; refine ⟨Grow.same rfl rfl, ?_⟩) | refine O_nil ?_ | refine A_seq ?_ | refine A_region ?_ | (show drJ _ _ _ _ _ _ _ (.q _ _) _; refine D_q rfl ?_) | (show drJ _ _ _ _ _ _ _ (.e _ _) _; refine D_e rfl ?_) | (show drJ _ _ _ _ _ _ _ (.r _) _; refine D_r ?_; simp only [List.cons_append, List.nil_append]) | (show drJ _ _ _ _ _ _ _ (.done _) _; refine D_done ?_; simp only [List.cons_append, List.nil_append]) | (show drQ _ _ _ _ _ _; first | (refine D_split rfl rfl (fun h => ?_) (fun h => ?_) <;> try (exfalso; omega)) | refine D_ev rfl (Ev_pure rfl) rfl rfl ?_ | (show drQ _ _ _ ⟨_, .indexAddr _ _ _, _, _, _, _⟩ _ _; refine D_ev rfl (Ev_indexAddr rfl rfl (by omega) (by omega)) rfl rfl ?_) | refine D_skip rfl rfl rfl ?_) | (show drJ _ _ _ _ _ _ _ (.p _ _) _; refine D_p rfl ?_) | (show drP _ _ _ _ _ _; refine D_pv rfl (Ev_pure rfl) rfl rfl ?_) | (show drE _ _ _ _ _ _ _; (show drE _ _ _ _ ⟨_, .buildSlice _ _ _, _, _, _, _⟩ _ _; (refine E_ef rfl (Ef_build1a WideF.wide rfl rfl rfl rfl rfl ?_); intro b; refine ⟨Grow.same rfl rfl, ?_⟩))) | (show opsA _ _ _ _ _ _ _; first | refine O_ev WideF.wide rfl (Ev_pure rfl) rfl rfl ?_ | (show opsA _ _ _ _ (⟨_, .binOp _ _ _ _ _, _, _, _, _⟩ :: _) _ _; refine O_ev WideF.wide rfl (Ev_add rfl rfl (wi64 (by omega))) rfl rfl ?_)) | (show wpA _ _ _ (.exit _) _ _ _ _; refine A_exit rfl ?_) | (show wpA _ _ _ (.cond _ _ _) _ _ _ _; refine A_iffalse rfl ?_))
      all_goals
        refine Shift_freeze ?_ fun H6 hle6 hr6 => ?_
        · rw [hend]; exact rrow_one _
        exact Shift.to ⟨_, by omega, i + 1, H6, _, _, _, rfl, by omega, hle5.trans hle6, hr6.cong hend.symm, rfl⟩ ⟨rfl, rfl, rfl, ⟨rfl, rfl, rfl, rfl, rfl, trivial⟩, Own.sub_nil _⟩
    · obtain ⟨b2, o2, y, rfl, hy, hcy⟩ := rW.atm ((k : Int) - 1).toNat (by omega)
      have hk1 : ((k : Int) - 1).toNat = k - 1 := by omega
      have hatk : atR O x k = if ltR x y then atR O x (k - 1) else k := by
        obtain ⟨j, rfl⟩ : ∃ j, k = j + 1 := ⟨k - 1, by omega⟩
        rw [hk1, Nat.add_sub_cancel] at hy
        rw [atR, hy]
        simp
      unfold rrow at hcy
      by_cases hlr : ltR x y
      · have hl2 := ltR_iff.1 hlr
        rw [if_pos hlr, hat] at hatk
        repeat' (first | (refine A_drawL WideF.wide (.q 0 (.q 1 (.q 2 (.q 3 (.q 4 (.q 5 (.q 6 (.q 7 (.q 8 (.q 9 (.q 10 (.q 11 (.q 12 (.q 13 (.q 14 (.q 15 (.q 16 (.q 17 (.q 18 (.q 19 (.q 20 (.q 21 (.q 22 (.q 23 (.q 24 (.q 25 (.q 26 (.q 27 (.q 28 (.q 29 (.q 30 (.q 31 (.q 32 (.q 33 (.q 34 (.q 35 (.q 36 (.q 37 (.q 38 (.q 39 (.q 40 (.q 41 (.q 42 (.q 43 (.done []))))))))))))))))))))))))))))))))))))))))))))) [] (by decide +kernel) ?_) | (refine D_ev rfl (Ev_loadH1 rfl (hcy 2 _ rfl)) rfl rfl ?_) | (refine D_ev rfl (Ev_loadH1 rfl (hcy 0 _ rfl)) rfl rfl ?_) | (refine D_ev rfl (Ev_loadH1 rfl (hc 2 _ rfl)) rfl rfl ?_) | (refine D_ev rfl (Ev_loadH1 rfl (hc 0 _ rfl)) rfl rfl ?_) | refine O_nil ?_ | refine A_seq ?_ | refine A_region ?_ | refine A_skip ?_ | refine A_block ?_ | (show drJ _ _ _ _ _ _ _ (.q _ _) _; refine D_q rfl ?_) | (show drJ _ _ _ _ _ _ _ (.done _) _; refine D_done ?_; simp only [List.cons_append, List.nil_append]) | (show drQ _ _ _ _ _ _; first | (refine D_split rfl rfl (fun h => ?_) (fun h => ?_) <;> try (exfalso; omega)) | refine D_ev rfl (Ev_pure rfl) rfl rfl ?_ | (show drQ _ _ _ ⟨_, .indexAddr _ _ _, _, _, _, _⟩ _ _; refine D_ev rfl (Ev_indexAddr rfl rfl (by omega) (by omega)) rfl rfl ?_) | (show drQ _ _ _ ⟨_, .fieldAddr _ _ _, _, _, _, _⟩ _ _; refine D_ev rfl (Ev_fieldAddr rfl rfl rfl) rfl rfl ?_) | (show drQ _ _ _ ⟨_, .binOp _ _ _ _ _, _, _, _, _⟩ _ _; refine D_ev rfl (Ev_sub rfl rfl (wi64 (by omega))) rfl rfl ?_) | refine D_skip rfl rfl rfl ?_) | (show opsA _ _ _ _ _ _ _; first | refine O_ev WideF.wide rfl (Ev_pure rfl) rfl rfl ?_ | (show opsA _ _ _ _ (⟨_, .binOp _ _ _ _ _, _, _, _, _⟩ :: _) _ _; refine O_ev WideF.wide rfl (Ev_sub rfl rfl (wi64 (by omega))) rfl rfl ?_)) | (show wpA _ _ _ (.cond _ _ _) _ _ _ _; first | (refine A_if rfl (fun h => ?_) (fun h => ?_) <;> try (exfalso; omega)) | refine A_iftrue rfl ?_))
        all_goals first
          | (exfalso; omega)
          | exact Shift.to ⟨_, by omega, k - 1, _, rfl, (show (k : Int) - 1 = ((k - 1 : Nat) : Int) by omega), by omega, hatk.symm, rfl⟩ ⟨rfl, rfl, rfl, ⟨rfl, rfl, rfl, rfl, rfl, rfl, trivial⟩, Own.sub_nil _⟩
      · have hl2 : ¬ (x.time < y.time ∨ x.time = y.time ∧ x.id < y.id) := fun h => hlr (ltR_iff.2 h)
        rw [if_neg hlr] at hatk
        have hend := hend hatk
        repeat' (first | (refine A_drawL WideF.wide (.q 0 (.q 1 (.q 2 (.q 3 (.q 4 (.q 5 (.q 6 (.q 7 (.q 8 (.q 9 (.q 10 (.q 11 (.q 12 (.q 13 (.q 14 (.q 15 (.q 16 (.q 17 (.q 18 (.q 19 (.q 20 (.q 21 (.q 22 (.q 23 (.q 24 (.q 25 (.q 26 (.q 27 (.q 28 (.q 29 (.q 30 (.q 31 (.q 32 (.q 33 (.q 34 (.q 35 (.q 36 (.q 37 (.q 38 (.q 39 (.q 40 (.q 41 (.q 42 (.q 43 (.done []))))))))))))))))))))))))))))))))))))))))))))) [] (by decide +kernel) ?_) | (refine D_ev rfl (Ev_loadH1 rfl (hcy 2 _ rfl)) rfl rfl ?_) | (refine D_ev rfl (Ev_loadH1 rfl (hcy 0 _ rfl)) rfl rfl ?_) | (refine D_ev rfl (Ev_loadH1 rfl (hc 2 _ rfl)) rfl rfl ?_) | (refine D_ev rfl (Ev_loadH1 rfl (hc 0 _ rfl)) rfl rfl ?_) | (refine A_drawi WideF.wide (.p 0 (.p 1 (.p 2 (.p 3 (.p 4 (.p 5 (.q 6 (.q 7 (.p 9 (.p 10 (.p 11 (.r (.e 8 (.e 12 (.e 13 (.q 14 (.done []))))))))))))))))) [8, 12, 13, 14] [] [] (by decide +kernel) (by decide) rfl ?_; simp only [Own.picks, Own.rget, List.cons_append, List.nil_append, List.append_nil]) | (refine D_ev rfl (Ev_loadH rfl hc rfl) rfl rfl ?_) | (refine D_pv rfl (Ev_lslice3h rfl rfl rfl (by omega) (by omega) (by have := rW.cap; omega)) rfl rfl ?_) | (refine D_pv rfl (Ev_lslicel rfl rfl (by omega) (by omega)) rfl rfl ?_) | (refine E_ef rfl (Ef_appendH WideF.wide rfl rfl hlw rfl rfl (by simp; omega) (by simp; omega) rfl ?_); intro a4 c4; refine ⟨Grow.same rfl rfl, ?_⟩) | (refine E_ef rfl (Ef_appendF WideF.wide rfl rfl hup (by simp) rfl rfl (by simp; omega) (by simp; omega) rfl ?_); intro b5 c5; refine ⟨Grow.same rfl rfl, ?_⟩) | refine O_nil ?_ | refine A_seq ?_ | refine A_region ?_ | (show drJ _ _ _ _ _ _ _ (.q _ _) _; refine D_q rfl ?_) | (show drJ _ _ _ _ _ _ _ (.e _ _) _; refine D_e rfl ?_) | (show drJ _ _ _ _ _ _ _ (.r _) _; refine D_r ?_; simp only [List.cons_append, List.nil_append]) | (show drJ _ _ _ _ _ _ _ (.done _) _; refine D_done ?_; simp only [List.cons_append, List.nil_append]) | (show drQ _ _ _ _ _ _; first | (refine D_split rfl rfl (fun h => ?_) (fun h => ?_) <;> try (exfalso; omega)) | refine D_ev rfl (Ev_pure rfl) rfl rfl ?_ | (show drQ _ _ _ ⟨_, .indexAddr _ _ _, _, _, _, _⟩ _ _; refine D_ev rfl (Ev_indexAddr rfl rfl (by omega) (by omega)) rfl rfl ?_) | (show drQ _ _ _ ⟨_, .fieldAddr _ _ _, _, _, _, _⟩ _ _; refine D_ev rfl (Ev_fieldAddr rfl rfl rfl) rfl rfl ?_) | (show drQ _ _ _ ⟨_, .binOp _ _ _ _ _, _, _, _, _⟩ _ _; refine D_ev rfl (Ev_sub rfl rfl (wi64 (by omega))) rfl rfl ?_) | refine D_skip rfl rfl rfl ?_) | (show drJ _ _ _ _ _ _ _ (.p _ _) _; refine D_p rfl ?_) | (show drP _ _ _ _ _ _; refine D_pv rfl (Ev_pure rfl) rfl rfl ?_) | (show drE _ _ _ _ _ _ _; (show drE _ _ _ _ ⟨_, .buildSlice _ _ _, _, _, _, _⟩ _ _; (refine E_ef rfl (Ef_build1a WideF.wide rfl rfl rfl rfl rfl ?_); intro b; refine ⟨Grow.same rfl rfl, ?_⟩))) | (show opsA _ _ _ _ _ _ _; first | refine O_ev WideF.wide rfl (Ev_pure rfl) rfl rfl ?_ | (show opsA _ _ _ _ (⟨_, .binOp _ _ _ _ _, _, _, _, _⟩ :: _) _ _; refine O_ev WideF.wide rfl (Ev_add rfl rfl (wi64 (by omega))) rfl rfl ?_)) | (show wpA _ _ _ (.exit _) _ _ _ _; refine A_exit rfl ?_) | (show wpA _ _ _ (.cond _ _ _) _ _ _ _; first | (refine A_if rfl (fun h => ?_) (fun h => ?_) <;> try (exfalso; omega)) | refine A_iffalse rfl ?_))
        all_goals first
          | (exfalso; omega)
          | (refine Shift_freeze ?_ fun H6 hle6 hr6 => ?_
             · rw [hend]; exact rrow_one _
             · exact Shift.to ⟨_, by omega, i + 1, H6, _, _, _, rfl, by omega, hle5.trans hle6, hr6.cong hend.symm, rfl⟩ ⟨rfl, rfl, rfl, ⟨rfl, rfl, rfl, rfl, rfl, trivial⟩, Own.sub_nil _⟩)
  · obtain rfl : N = i := by omega
    rw [List.take_of_length_le (by omega)] at rW
    have r5 := r0.mono hle5
    have rC5 := rC0.mono hle5
    have rG5 := rG0.mono hle5
    repeat' (first | refine O_nil ?_ | refine A_seq ?_ | refine A_region ?_ | refine A_block ?_ | (show opsA _ _ _ _ _ _ _; first | refine O_ev WideF.wide rfl (Ev_pure rfl) rfl rfl ?_ | (show opsA _ _ _ _ (⟨_, .call _, _, _, _, _⟩ :: _) _ _; refine O_ev WideF.wide rfl (Ev_llen rfl) rfl rfl ?_)) | (show wpA _ _ _ (.exit _) _ _ _ _; refine A_exit rfl ?_) | (show wpA _ _ _ (.cond _ _ _) _ _ _ _; (refine A_if rfl (fun h => ?_) (fun h => ?_) <;> try (exfalso; omega))))
    refine A_loopu (fun q s => ∃ (j : Nat) (t : Int), q = gn - j ∧ j ≤ gn ∧ t = tot m (ks.take j) ∧ s = ⟨200, [(0, .slice a1 N c1), (3, .slice ca cn cc), (4, .slice ga gn gc), (5, .slice wa wn wc), (8, .int .i64 t), (9, .int .i64 j)], H5, [], [], []⟩) ?_ ?_
    · exact Shift.to ⟨_, 0, 0, rfl, by omega, rfl, rfl⟩ ⟨rfl, rfl, rfl, ⟨rfl, rfl, rfl, rfl, rfl, rfl, trivial⟩, Own.sub_nil _⟩
    rintro q s ⟨j, t, rfl, hj, ht, rfl⟩
    have htb := tot_bnd m (ks.take j)
    have htm : m.length * (ks.take j).length ≤ 40 * 40 := Nat.mul_le_mul (by omega) (by rw [List.length_take]; omega)
    have htb2 : 0 ≤ t ∧ t ≤ 1600 := by
      rw [ht]
      have : (m.length : Int) * ((ks.take j).length : Int) ≤ 1600 := by exact_mod_cast htm
      omega
    by_cases hlt : j < gn
    · obtain ⟨gb, go, k, rfl, hkj, hcg⟩ := rG5.atm j hlt
      have hsk : tot m (ks.take (j + 1)) = tot m (ks.take j) + (st k m).n := by rw [take_get hkj, tot_append]; simp [tot]
      have hkn := st_n k m
      have hnz : (st k m).n ≠ 0 := hkn.2.2.2 ((hK.mem k).1 (List.mem_of_getElem? hkj))
      unfold grow at hcg
      repeat' (first | refine O_nil ?_ | refine A_seq ?_ | refine A_region ?_ | refine A_skip ?_ | refine A_block ?_ | (show opsA _ _ _ _ _ _ _; first | refine O_ev WideF.wide rfl (Ev_pure rfl) rfl rfl ?_ | (show opsA _ _ _ _ (⟨_, .call _, _, _, _, _⟩ :: _) _ _; refine O_ev WideF.wide rfl (Ev_llen rfl) rfl rfl ?_)) | (show wpA _ _ _ (.cond _ _ _) _ _ _ _; (refine A_if rfl (fun h => ?_) (fun h => ?_) <;> try (exfalso; omega))))
      refine A_loopu (fun q s => ∃ (i : Nat) (n f u : Int), q = N - i ∧ i ≤ N ∧ n = (st k (m.take i)).n ∧ f = (st k (m.take i)).f ∧ u = (st k (m.take i)).t ∧ s = ⟨200, [(10, .int .i64 n), (11, .int .i64 f), (12, .int .i64 u), (13, .int .i64 i), (0, .slice a1 N c1), (3, .slice ca cn cc), (4, .slice (some ⟨gb, go, none⟩) gn gc), (5, .slice wa wn wc), (8, .int .i64 t), (9, .int .i64 j)], H5, [], [], []⟩) ?_ ?_
      · exact Shift.to ⟨_, 0, 0, 0, 0, rfl, by omega, rfl, rfl, rfl, rfl⟩ ⟨rfl, rfl, rfl, ⟨rfl, rfl, rfl, rfl, rfl, rfl, rfl, rfl, rfl, rfl, trivial⟩, Own.sub_nil _⟩
      rintro q s ⟨i, n, f, u, rfl, hi, hn, hf, hu, rfl⟩
      have hkn2 := st_n k (m.take i)
      rw [List.length_take] at hkn2
      by_cases hlt2 : i < N
      · obtain ⟨lb, lo, x, rfl, hxi, hcl⟩ := r5.atm i hlt2
        have hsx : st k (m.take (i + 1)) = stp k (st k (m.take i)) x := by rw [take_get hxi, st_snoc]
        unfold rrow at hcl
        by_cases hxk : x.author = k
        · by_cases hn0 : n = 0
          · have hsx2 : st k (m.take (i + 1)) = ⟨1, x.time, x.time⟩ := by rw [hsx, stp, if_pos hxk, if_pos (by omega)]
            repeat' (first | (refine A_drawL WideF.wide (.q 0 (.q 1 (.q 2 (.q 3 (.q 4 (.q 5 (.q 6 (.q 7 (.q 8 (.q 9 (.q 10 (.done [])))))))))))) [] (by decide +kernel) ?_) | (refine A_drawL WideF.wide (.q 0 (.q 1 (.q 2 (.q 3 (.q 4 (.q 5 (.q 6 (.q 7 (.q 8 (.q 9 (.q 10 (.q 11 (.done []))))))))))))) [] (by decide +kernel) ?_) | (refine A_drawL WideF.wide (.q 0 (.q 1 (.q 2 (.q 3 (.q 4 (.q 5 (.q 6 (.q 7 (.q 8 (.q 9 (.q 10 (.q 11 (.q 12 (.q 13 (.q 14 (.q 15 (.q 16 (.q 17 (.q 18 (.done [])))))))))))))))))))) [] (by decide +kernel) ?_) | (refine D_ev rfl (Ev_loadH1 rfl (hcl 1 _ rfl)) rfl rfl ?_) | (refine D_ev rfl (Ev_loadH1 rfl (hcg 0 _ rfl)) rfl rfl ?_) | (refine D_ev rfl (Ev_loadH1 rfl (hcl 2 _ rfl)) rfl rfl ?_) | (refine D_ev rfl (Ev_mini rfl rfl) rfl rfl ?_) | refine O_nil ?_ | refine A_seq ?_ | refine A_region ?_ | refine A_skip ?_ | refine A_block ?_ | (show drJ _ _ _ _ _ _ _ (.q _ _) _; refine D_q rfl ?_) | (show drJ _ _ _ _ _ _ _ (.done _) _; refine D_done ?_; simp only [List.cons_append, List.nil_append]) | (show drQ _ _ _ _ _ _; first | refine D_ev rfl (Ev_pure rfl) rfl rfl ?_ | (show drQ _ _ _ ⟨_, .indexAddr _ _ _, _, _, _, _⟩ _ _; refine D_ev rfl (Ev_indexAddr rfl rfl (by omega) (by omega)) rfl rfl ?_) | (show drQ _ _ _ ⟨_, .fieldAddr _ _ _, _, _, _, _⟩ _ _; refine D_ev rfl (Ev_fieldAddr rfl rfl rfl) rfl rfl ?_) | (show drQ _ _ _ ⟨_, .call _, _, _, _, _⟩ _ _; refine D_ev rfl (Ev_maxi rfl rfl) rfl rfl ?_) | (show drQ _ _ _ ⟨_, .binOp _ _ _ _ _, _, _, _, _⟩ _ _; first | refine D_ev rfl (Ev_add rfl rfl (wi64 (by omega))) rfl rfl ?_ | refine D_ev rfl (Ev_sneq rfl rfl) rfl rfl ?_)) | (show opsA _ _ _ _ _ _ _; first | refine O_ev WideF.wide rfl (Ev_pure rfl) rfl rfl ?_ | (show opsA _ _ _ _ (⟨_, .call _, _, _, _, _⟩ :: _) _ _; refine O_ev WideF.wide rfl (Ev_llen rfl) rfl rfl ?_) | (show opsA _ _ _ _ (⟨_, .binOp _ _ _ _ _, _, _, _, _⟩ :: _) _ _; refine O_ev WideF.wide rfl (Ev_add rfl rfl (wi64 (by omega))) rfl rfl ?_)) | (show wpA _ _ _ (.exit _) _ _ _ _; refine A_exit rfl ?_) | (show wpA _ _ _ (.cond _ _ _) _ _ _ _; (refine A_if rfl (fun h => ?_) (fun h => ?_) <;> try (exfalso; omega))))
            all_goals first
              | (exfalso; omega)
              | (exfalso; exact (by assumption : ¬ _) hxk)
              | exact Shift.to ⟨_, by omega, i + 1, _, _, _, rfl, by omega, by rw [hsx2]; simp only; omega, by rw [hsx2]; simp, by rw [hsx2]; simp, rfl⟩ ⟨rfl, rfl, rfl, ⟨rfl, rfl, rfl, rfl, rfl, rfl, rfl, rfl, rfl, rfl, trivial⟩, Own.sub_nil _⟩
          · have hsx2 : st k (m.take (i + 1)) = ⟨n + 1, if x.time < f then x.time else f, if u < x.time then x.time else u⟩ := by rw [hsx, stp, if_pos hxk, if_neg (by omega), hn, hf, hu]
            repeat' (first | (refine A_drawL WideF.wide (.q 0 (.q 1 (.q 2 (.q 3 (.q 4 (.q 5 (.q 6 (.q 7 (.q 8 (.q 9 (.q 10 (.done [])))))))))))) [] (by decide +kernel) ?_) | (refine A_drawL WideF.wide (.q 0 (.q 1 (.q 2 (.q 3 (.q 4 (.q 5 (.q 6 (.q 7 (.q 8 (.q 9 (.q 10 (.q 11 (.q 12 (.q 13 (.q 14 (.q 15 (.q 16 (.q 17 (.q 18 (.done [])))))))))))))))))))) [] (by decide +kernel) ?_) | (refine D_ev rfl (Ev_loadH1 rfl (hcl 1 _ rfl)) rfl rfl ?_) | (refine D_ev rfl (Ev_loadH1 rfl (hcg 0 _ rfl)) rfl rfl ?_) | (refine D_ev rfl (Ev_loadH1 rfl (hcl 2 _ rfl)) rfl rfl ?_) | (refine D_ev rfl (Ev_mini rfl rfl) rfl rfl ?_) | refine O_nil ?_ | refine A_seq ?_ | refine A_region ?_ | refine A_skip ?_ | refine A_block ?_ | (show drJ _ _ _ _ _ _ _ (.q _ _) _; refine D_q rfl ?_) | (show drJ _ _ _ _ _ _ _ (.done _) _; refine D_done ?_; simp only [List.cons_append, List.nil_append]) | (show drQ _ _ _ _ _ _; first | refine D_ev rfl (Ev_pure rfl) rfl rfl ?_ | (show drQ _ _ _ ⟨_, .indexAddr _ _ _, _, _, _, _⟩ _ _; refine D_ev rfl (Ev_indexAddr rfl rfl (by omega) (by omega)) rfl rfl ?_) | (show drQ _ _ _ ⟨_, .fieldAddr _ _ _, _, _, _, _⟩ _ _; refine D_ev rfl (Ev_fieldAddr rfl rfl rfl) rfl rfl ?_) | (show drQ _ _ _ ⟨_, .call _, _, _, _, _⟩ _ _; refine D_ev rfl (Ev_maxi rfl rfl) rfl rfl ?_) | (show drQ _ _ _ ⟨_, .binOp _ _ _ _ _, _, _, _, _⟩ _ _; first | refine D_ev rfl (Ev_add rfl rfl (wi64 (by omega))) rfl rfl ?_ | refine D_ev rfl (Ev_sneq rfl rfl) rfl rfl ?_)) | (show opsA _ _ _ _ _ _ _; first | refine O_ev WideF.wide rfl (Ev_pure rfl) rfl rfl ?_ | (show opsA _ _ _ _ (⟨_, .call _, _, _, _, _⟩ :: _) _ _; refine O_ev WideF.wide rfl (Ev_llen rfl) rfl rfl ?_) | (show opsA _ _ _ _ (⟨_, .binOp _ _ _ _ _, _, _, _, _⟩ :: _) _ _; refine O_ev WideF.wide rfl (Ev_add rfl rfl (wi64 (by omega))) rfl rfl ?_)) | (show wpA _ _ _ (.exit _) _ _ _ _; refine A_exit rfl ?_) | (show wpA _ _ _ (.cond _ _ _) _ _ _ _; (refine A_if rfl (fun h => ?_) (fun h => ?_) <;> try (exfalso; omega))))
            all_goals first
              | (exfalso; omega)
              | (exfalso; exact (by assumption : ¬ _) hxk)
              | exact Shift.to ⟨_, by omega, i + 1, _, _, _, rfl, by omega, by rw [hsx2], by rw [hsx2], by rw [hsx2], rfl⟩ ⟨rfl, rfl, rfl, ⟨rfl, rfl, rfl, rfl, rfl, rfl, rfl, rfl, rfl, rfl, trivial⟩, Own.sub_nil _⟩
        · have hsx2 : st k (m.take (i + 1)) = st k (m.take i) := by rw [hsx, stp, if_neg hxk]
          repeat' (first | (refine A_drawL WideF.wide (.q 0 (.q 1 (.q 2 (.q 3 (.q 4 (.q 5 (.q 6 (.q 7 (.q 8 (.q 9 (.q 10 (.done [])))))))))))) [] (by decide +kernel) ?_) | (refine D_ev rfl (Ev_loadH1 rfl (hcl 1 _ rfl)) rfl rfl ?_) | (refine D_ev rfl (Ev_loadH1 rfl (hcg 0 _ rfl)) rfl rfl ?_) | refine O_nil ?_ | refine A_seq ?_ | refine A_region ?_ | refine A_skip ?_ | refine A_block ?_ | (show drJ _ _ _ _ _ _ _ (.q _ _) _; refine D_q rfl ?_) | (show drJ _ _ _ _ _ _ _ (.done _) _; refine D_done ?_; simp only [List.cons_append, List.nil_append]) | (show drQ _ _ _ _ _ _; first | refine D_ev rfl (Ev_pure rfl) rfl rfl ?_ | (show drQ _ _ _ ⟨_, .indexAddr _ _ _, _, _, _, _⟩ _ _; refine D_ev rfl (Ev_indexAddr rfl rfl (by omega) (by omega)) rfl rfl ?_) | (show drQ _ _ _ ⟨_, .fieldAddr _ _ _, _, _, _, _⟩ _ _; refine D_ev rfl (Ev_fieldAddr rfl rfl rfl) rfl rfl ?_) | (show drQ _ _ _ ⟨_, .binOp _ _ _ _ _, _, _, _, _⟩ _ _; refine D_ev rfl (Ev_sneq rfl rfl) rfl rfl ?_)) | (show opsA _ _ _ _ _ _ _; first | refine O_ev WideF.wide rfl (Ev_pure rfl) rfl rfl ?_ | (show opsA _ _ _ _ (⟨_, .call _, _, _, _, _⟩ :: _) _ _; refine O_ev WideF.wide rfl (Ev_llen rfl) rfl rfl ?_) | (show opsA _ _ _ _ (⟨_, .binOp _ _ _ _ _, _, _, _, _⟩ :: _) _ _; refine O_ev WideF.wide rfl (Ev_add rfl rfl (wi64 (by omega))) rfl rfl ?_)) | (show wpA _ _ _ (.exit _) _ _ _ _; refine A_exit rfl ?_) | (show wpA _ _ _ (.cond _ _ _) _ _ _ _; (refine A_if rfl (fun h => ?_) (fun h => ?_) <;> try (exfalso; omega))))
          all_goals first
            | (exfalso; omega)
            | (exfalso; exact (by assumption : ¬ ¬ _) hxk)
            | exact Shift.to ⟨_, by omega, i + 1, _, _, _, rfl, by omega, by rw [hsx2]; exact hn, by rw [hsx2]; exact hf, by rw [hsx2]; exact hu, rfl⟩ ⟨rfl, rfl, rfl, ⟨rfl, rfl, rfl, rfl, rfl, rfl, rfl, rfl, rfl, rfl, trivial⟩, Own.sub_nil _⟩
      · obtain rfl : N = i := by omega
        rw [List.take_of_length_le (by omega)] at hn hf hu hkn2
        by_cases hj0 : j = 0
        · repeat' (first | (refine A_drawL WideF.wide (.q 0 (.q 1 (.q 2 (.q 3 (.q 4 (.q 5 (.q 6 (.q 7 (.q 8 (.q 9 (.q 10 (.q 11 (.q 12 (.q 13 (.q 14 (.q 15 (.q 16 (.q 17 (.q 18 (.q 19 (.q 20 (.q 21 (.q 22 (.q 23 (.q 24 (.q 25 (.q 26 (.q 27 (.q 28 (.q 29 (.q 30 (.q 31 (.q 32 (.q 33 (.q 34 (.q 35 (.q 36 (.q 37 (.q 38 (.q 39 (.q 40 (.q 41 (.q 42 (.q 43 (.q 44 (.q 45 (.q 46 (.done [])))))))))))))))))))))))))))))))))))))))))))))))) [] (by decide +kernel) ?_) | (refine D_ev rfl (Ev_loadH1 rfl (hcg 1 _ rfl)) rfl rfl ?_) | (refine D_ev rfl (Ev_loadH1 rfl (hcg 2 _ rfl)) rfl rfl ?_) | (refine D_ev rfl (Ev_loadH1 rfl (hcg 3 _ rfl)) rfl rfl ?_) | refine O_nil ?_ | refine A_seq ?_ | refine A_region ?_ | refine A_skip ?_ | (show drJ _ _ _ _ _ _ _ (.q _ _) _; refine D_q rfl ?_) | (show drJ _ _ _ _ _ _ _ (.done _) _; refine D_done ?_; simp only [List.cons_append, List.nil_append]) | (show drQ _ _ _ _ _ _; first | (refine D_split rfl rfl (fun h => ?_) (fun h => ?_) <;> try (exfalso; omega)) | refine D_ev rfl (Ev_pure rfl) rfl rfl ?_ | (show drQ _ _ _ ⟨_, .indexAddr _ _ _, _, _, _, _⟩ _ _; refine D_ev rfl (Ev_indexAddr rfl rfl (by omega) (by omega)) rfl rfl ?_) | (show drQ _ _ _ ⟨_, .fieldAddr _ _ _, _, _, _, _⟩ _ _; refine D_ev rfl (Ev_fieldAddr rfl rfl rfl) rfl rfl ?_) | refine D_skip rfl rfl rfl ?_) | (show opsA _ _ _ _ _ _ _; first | refine O_ev WideF.wide rfl (Ev_pure rfl) rfl rfl ?_ | (show opsA _ _ _ _ (⟨_, .call _, _, _, _, _⟩ :: _) _ _; refine O_ev WideF.wide rfl (Ev_llen rfl) rfl rfl ?_) | (show opsA _ _ _ _ (⟨_, .binOp _ _ _ _ _, _, _, _, _⟩ :: _) _ _; refine O_ev WideF.wide rfl (Ev_add rfl rfl (wi64 (by omega))) rfl rfl ?_)) | (show wpA _ _ _ (.exit _) _ _ _ _; refine A_exit rfl ?_) | (show wpA _ _ _ (.cond _ _ _) _ _ _ _; first | (refine A_if rfl (fun h => ?_) (fun h => ?_) <;> try (exfalso; omega)) | refine A_iffalse rfl ?_))
          all_goals first
            | (exfalso; omega)
            | exact Shift.to ⟨_, by omega, j + 1, _, rfl, by omega, by rw [hsk]; omega, rfl⟩ ⟨rfl, rfl, rfl, ⟨rfl, rfl, rfl, rfl, rfl, rfl, trivial⟩, Own.sub_nil _⟩
        · obtain ⟨gb2, go2, k2, he2, hkj2, hcg2⟩ := rG5.atm ((j : Int) - 1).toNat (by omega)
          cases he2
          have hbl : Op.bytesLess k2 k = true := hK.lt ((j : Int) - 1).toNat k2 k hkj2 (by rw [show ((j : Int) - 1).toNat + 1 = j by omega]; exact hkj)
          unfold grow at hcg2
          repeat' (first | (refine A_drawL WideF.wide (.q 0 (.q 1 (.q 2 (.q 3 (.q 4 (.q 5 (.q 6 (.q 7 (.q 8 (.q 9 (.q 10 (.q 11 (.q 12 (.q 13 (.q 14 (.q 15 (.q 16 (.q 17 (.q 18 (.q 19 (.q 20 (.q 21 (.q 22 (.q 23 (.q 24 (.q 25 (.q 26 (.q 27 (.q 28 (.q 29 (.q 30 (.q 31 (.q 32 (.q 33 (.q 34 (.q 35 (.q 36 (.q 37 (.q 38 (.q 39 (.q 40 (.q 41 (.q 42 (.q 43 (.q 44 (.q 45 (.q 46 (.done [])))))))))))))))))))))))))))))))))))))))))))))))) [] (by decide +kernel) ?_) | (refine D_ev rfl (Ev_loadH1 rfl (hcg 1 _ rfl)) rfl rfl ?_) | (refine D_ev rfl (Ev_loadH1 rfl (hcg 2 _ rfl)) rfl rfl ?_) | (refine D_ev rfl (Ev_loadH1 rfl (hcg 3 _ rfl)) rfl rfl ?_) | (refine D_ev rfl (Ev_loadH1 rfl (hcg2 0 _ rfl)) rfl rfl ?_) | (refine D_ev rfl (Ev_loadH1 rfl (hcg 0 _ rfl)) rfl rfl ?_) | (refine D_ev rfl (Ev_sgeq hbl rfl rfl) rfl rfl ?_) | refine O_nil ?_ | refine A_seq ?_ | refine A_region ?_ | refine A_skip ?_ | (show drJ _ _ _ _ _ _ _ (.q _ _) _; refine D_q rfl ?_) | (show drJ _ _ _ _ _ _ _ (.done _) _; refine D_done ?_; simp only [List.cons_append, List.nil_append]) | (show drQ _ _ _ _ _ _; first | (refine D_split rfl rfl (fun h => ?_) (fun h => ?_) <;> try (exfalso; omega)) | refine D_ev rfl (Ev_pure rfl) rfl rfl ?_ | (show drQ _ _ _ ⟨_, .indexAddr _ _ _, _, _, _, _⟩ _ _; refine D_ev rfl (Ev_indexAddr rfl rfl (by omega) (by omega)) rfl rfl ?_) | (show drQ _ _ _ ⟨_, .fieldAddr _ _ _, _, _, _, _⟩ _ _; refine D_ev rfl (Ev_fieldAddr rfl rfl rfl) rfl rfl ?_) | (show drQ _ _ _ ⟨_, .binOp _ _ _ _ _, _, _, _, _⟩ _ _; refine D_ev rfl (Ev_sub rfl rfl (wi64 (by omega))) rfl rfl ?_)) | (show opsA _ _ _ _ _ _ _; first | refine O_ev WideF.wide rfl (Ev_pure rfl) rfl rfl ?_ | (show opsA _ _ _ _ (⟨_, .call _, _, _, _, _⟩ :: _) _ _; refine O_ev WideF.wide rfl (Ev_llen rfl) rfl rfl ?_) | (show opsA _ _ _ _ (⟨_, .binOp _ _ _ _ _, _, _, _, _⟩ :: _) _ _; refine O_ev WideF.wide rfl (Ev_add rfl rfl (wi64 (by omega))) rfl rfl ?_)) | (show wpA _ _ _ (.exit _) _ _ _ _; refine A_exit rfl ?_) | (show wpA _ _ _ (.cond _ _ _) _ _ _ _; first | (refine A_if rfl (fun h => ?_) (fun h => ?_) <;> try (exfalso; omega)) | refine A_iffalse rfl ?_))
          all_goals first
            | (exfalso; omega)
            | exact Shift.to ⟨_, by omega, j + 1, _, rfl, by omega, by rw [hsk]; omega, rfl⟩ ⟨rfl, rfl, rfl, ⟨rfl, rfl, rfl, rfl, rfl, rfl, trivial⟩, Own.sub_nil _⟩
    · obtain rfl : gn = j := by omega
      rw [List.take_of_length_le (by omega), tot_all hK.nd m (fun r hr => (hK.mem _).2 ⟨r, hr, rfl⟩)] at ht
      have hsr := sameRevs_fn rC5 rW (by omega)
      rw [decide_eq_true rfl] at hsr
      repeat' (first | (refine O_ef rfl (Ef_callp WideF.wide hsr ⟨rfl, rfl, trivial⟩ rfl ?_)) | refine O_nil ?_ | refine A_seq ?_ | refine A_region ?_ | refine A_ret ?_ | (show opsA _ _ _ _ _ _ _; first | refine O_ev WideF.wide rfl (Ev_pure rfl) rfl rfl ?_ | (show opsA _ _ _ _ (⟨_, .call _, _, _, _, _⟩ :: _) _ _; refine O_ev WideF.wide rfl (Ev_llen rfl) rfl rfl ?_)) | (show wpA _ _ _ (.exit _) _ _ _ _; refine A_exit rfl ?_) | (show wpA _ _ _ (.cond _ _ _) _ _ _ _; (refine A_if rfl (fun h => ?_) (fun h => ?_) <;> try (exfalso; omega))))
      all_goals first
        | (exfalso; omega)
        | exact End_e (Ret1 rfl rfl) ⟨rfl, rfl⟩
        | (refine End_e (Ret1 rfl rfl) ⟨?_, rfl⟩; exact congrArg Value.bool (decide_eq_true (by omega)))
end Go.Proofs.Ytlcoebomgaodgaa
