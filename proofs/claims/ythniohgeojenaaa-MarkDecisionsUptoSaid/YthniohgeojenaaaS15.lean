/-
  MarkDecisions: the walk.
-/
import Derived.Test.YthniohgeojenaaaS14
import Derived.Test.YthniohgeojenaaaS4
import Derived.Test.YthniohgeojenaaaM17
namespace Go.Proofs.Ythniohgeojenaaa
open Go
set_option linter.unusedVariables false
set_option linter.unusedSimpArgs false
theorem Ev_eqis {P : Program} {e : Env} {H : Hp} {R : Own} {dst : Option Tmp} {ty : TypeId} {pos : String} {after : Array Edge} {g : Option (Nat × Bool)} {x y : Operand} {t t2 : TypeId} {k : IntKind} {v : Int} (hx : e.eval x = some (.int k v)) (hy : e.eval y = some (.int k v)) : Ev P ⟨dst, .binOp .eql t x y t2, ty, pos, after, g⟩ e H R (.bool true) := by
  have h := Ev_eql (P := P) (H := H) (R := R) (dst := dst) (ty := ty) (pos := pos) (after := after) (g := g) (t := t) (t2 := t2) hx hy
  rwa [decide_eq_true rfl] at h
attribute [local irreducible] wpA opsA drJ drQ drE Ef Ev Shift Fn
set_option maxRecDepth 100000 in
set_option maxHeartbeats 8000000 in
theorem MarkDecisions_fn {H : Hp} {dcs ecs : List Value} {dA dB : Dec} (hd : DecH H dcs dA) (he : DecH H ecs dB) (m1 : dA.acc.length < 1073741824) (m2 : dA.rej.length < 1073741824) (m3 : dB.acc.length < 1073741824) (m4 : dB.rej.length < 1073741824) :
    Fn Try.prog 8 [.agg dcs.toArray, .agg ecs.toArray] H [] fun v _ I' => v = .bool true ∧ I' = [] := by
  obtain ⟨aa, an, ac, ra, rn, rc, rfl, g1, g2⟩ := hd.ex
  obtain ⟨ba, bn, bc, sa, sn, sc, rfl, g3, g4⟩ := he.ex
  have n1 : dA.acc.length = an := by have := g1.len; simpa using this
  have n2 : dA.rej.length = rn := by have := g2.len; simpa using this
  have n3 : dB.acc.length = bn := by have := g3.len; simpa using this
  have n4 : dB.rej.length = sn := by have := g4.len; simpa using this
  refine Fn_of _ _ Try.func8 rfl Try.ntmps8 rfl fun c => ?_
  refine A_seq ?_
  refine A_cutu (fun s => ∃ b2 b3, s = ⟨79, [(2, ptr b2), (3, ptr b3), (4, .bool false)], H, [.box b2 [.slice aa an ac, .slice ra rn rc], .box b3 [.slice ba bn bc, .slice sa sn sc]], [], []⟩) ?_ ?_
  · repeat' (first | refine O_nil ?_ | refine A_region ?_ | (show opsA _ _ _ _ _ _ _; first | refine O_ev WideF.wide rfl (Ev_pure rfl) rfl rfl ?_ | (show opsA _ _ _ _ (⟨_, .box _ _, _, _, _, _⟩ :: _) _ _; (refine O_ef rfl (Ef_boxa WideF.wide rfl rfl ?_); intro b))))
    exact Shift.to ⟨_, _, rfl⟩ ⟨rfl, rfl, rfl, ⟨rfl, rfl, rfl, trivial⟩, Own.subi [1, 0] (by decide) rfl rfl⟩
  rintro s ⟨b2, b3, rfl⟩
  refine A_seq ?_
  refine A_cutu (fun s => ∃ (H1 : Hp), HLe H H1 ∧ (an ≤ 40 ∧ rn ≤ 40 ∧ bn ≤ 40 ∧ sn ≤ 40) ∧ s = ⟨79, [(2, ptr b2), (3, ptr b3), (4, .bool false)], H1, [.box b2 [.slice aa an ac, .slice ra rn rc], .box b3 [.slice ba bn bc, .slice sa sn sc]], [], []⟩) ?_ ?_
  · repeat' (first | (refine O_ef rfl (Ef_call (I := []) WideF.wide known_fn trivial rfl ?_); rintro v H1 I1 hle1 ⟨rfl, rfl⟩) | refine O_nil ?_ | refine A_seq ?_ | refine A_region ?_ | refine A_skip ?_ | refine A_ret ?_ | (show opsA _ _ _ _ _ _ _; first | (refine O_split rfl rfl (fun h => ?_) (fun h => ?_) <;> try (exfalso; omega)) | refine O_ev WideF.wide rfl (Ev_pure rfl) rfl rfl ?_ | (show opsA _ _ _ _ (⟨_, .load _ _, _, _, _, _⟩ :: _) _ _; first | refine O_ev WideF.wide rfl (Ev_loadB1 (i := 0) rfl rfl rfl) rfl rfl ?_ | refine O_ev WideF.wide rfl (Ev_loadB1 (i := 1) rfl rfl rfl) rfl rfl ?_) | (show opsA _ _ _ _ (⟨_, .fieldAddr _ _ _, _, _, _, _⟩ :: _) _ _; refine O_ev WideF.wide rfl (Ev_fieldAddr rfl rfl rfl) rfl rfl ?_) | (show opsA _ _ _ _ (⟨_, .call _, _, _, _, _⟩ :: _) _ _; refine O_ev WideF.wide rfl (Ev_llen rfl) rfl rfl ?_) | (show opsA _ _ _ _ (⟨_, .unOp _ _ _, _, _, _, _⟩ :: _) _ _; refine O_ev WideF.wide rfl (Ev_notb rfl) rfl rfl ?_) | refine O_skip WideF.wide rfl rfl rfl ?_) | (show wpA _ _ _ (.cond _ _ _) _ _ _ _; first | (refine A_if rfl (fun h => ?_) (fun h => ?_) <;> try (exfalso; omega)) | refine A_iftrue rfl ?_))
    all_goals first
      | (exfalso; simp at *; done)
      | exact End_e (Ret1 rfl rfl) ⟨rfl, rfl⟩
      | exact Shift.to ⟨_, hle1, (by simp at *; omega), rfl⟩ ⟨rfl, rfl, rfl, ⟨rfl, rfl, rfl, trivial⟩, Own.subi [0, 1] (by decide) rfl rfl⟩
  rintro s ⟨H1, hle1, ⟨q1, q2, q3, q4⟩, rfl⟩
  have hU := fun Hx (hx : HLe H Hx) => Union_fn (hd.mono hx) (he.mono hx) (by omega) (by omega) (by omega) (by omega)
  have hL := fun Hx (hx : HLe H Hx) => lawUnion_fn (hd.mono hx) (he.mono hx) (by omega) (by omega) (by omega) (by omega)
  have c1 := fun Hx (hx : HLe H Hx) => CheckDecision_fn (hd.mono hx) m1 m2
  have c2 := fun Hx (hx : HLe H Hx) => check_fn (hd.mono hx) m1 m2
  have c3 := fun Hx (hx : HLe H Hx) => CheckDecision_fn (he.mono hx) m3 m4
  have c4 := fun Hx (hx : HLe H Hx) => check_fn (he.mono hx) m3 m4
  unfold UnionIs at hU hL
  have hlen : (unD dA dB).1.acc.length ≤ 80 ∧ (unD dA dB).1.rej.length ≤ 80 := by
    have la := sortI_len (dA.acc ++ dB.acc)
    have lr := sortI_len (dA.rej ++ dB.rej)
    rw [List.length_append] at la lr
    unfold unD
    split
    · exact ⟨by show 0 ≤ 80; omega, by show 0 ≤ 80; omega⟩
    split
    · exact ⟨by show 0 ≤ 80; omega, by show 0 ≤ 80; omega⟩
    split
    · exact ⟨by show 0 ≤ 80; omega, by show 0 ≤ 80; omega⟩
    · exact ⟨by show (sortI _).length ≤ _; omega, by show (sortI _).length ≤ _; omega⟩
  obtain ⟨hl1, hl2⟩ := hlen
  generalize (unD dA dB).1 = U at *
  generalize (unD dA dB).2 = er at *
  refine A_seq ?_
  refine A_cutu (fun s => ∃ (H2 : Hp) (us : List Value) (b5 : Nat), HLe H1 H2 ∧ DecH H2 us U ∧ s = ⟨79, [(2, ptr b2), (3, ptr b3), (4, .bool false), (5, ptr b5), (6, .int .i64 er)], H2, [.box b2 [.slice aa an ac, .slice ra rn rc], .box b3 [.slice ba bn bc, .slice sa sn sc], .box b5 us], [], []⟩) ?_ ?_
  · repeat' (first | (refine O_ef rfl (Ef_call (I := []) WideF.wide (hU _ hle1) ⟨rfl, rfl, trivial⟩ rfl ?_); rintro v H2 I2 hle2 ⟨⟨us, rfl, hus⟩, rfl⟩; obtain ⟨ua, un, uc, va, vn, vc, rfl, k1, k2⟩ := hus.ex) | refine O_nil ?_ | refine A_region ?_ | (show opsA _ _ _ _ _ _ _; first | refine O_ev WideF.wide rfl (Ev_pure rfl) rfl rfl ?_ | (show opsA _ _ _ _ (⟨_, .load _ _, _, _, _, _⟩ :: _) _ _; first | refine O_ev WideF.wide rfl (Ev_loadB (i := 0) rfl rfl rfl) rfl rfl ?_ | refine O_ev WideF.wide rfl (Ev_loadB (i := 1) rfl rfl rfl) rfl rfl ?_) | (show opsA _ _ _ _ (⟨_, .alloc _, _, _, _, _⟩ :: _) _ _; (refine O_ef rfl (Ef_alloc WideF.wide rfl ?_); intro b)) | (show opsA _ _ _ _ (⟨_, .store _ _ _, _, _, _, _⟩ :: _) _ _; refine O_ef rfl (Ef_storew WideF.wide rfl rfl rfl rfl rfl ?_))))
    exact Shift.to ⟨_, _, _, hle2, hus, rfl⟩ ⟨rfl, rfl, rfl, ⟨rfl, rfl, rfl, rfl, rfl, trivial⟩, Own.subi [1, 2, 0] (by decide) rfl rfl⟩
  rintro s ⟨H2, us, b5, hle2, hus, rfl⟩
  obtain ⟨ua, un, uc, va, vn, vc, rfl, k1, k2⟩ := hus.ex
  have hle02 := hle1.trans hle2
  refine A_seq ?_
  refine A_cutu (fun s => ∃ (H3 : Hp) (ws : List Value) (b7 : Nat), HLe H2 H3 ∧ DecH H3 ws U ∧ s = ⟨79, [(2, ptr b2), (3, ptr b3), (4, .bool false), (5, ptr b5), (6, .int .i64 er), (7, ptr b7), (8, .int .i64 er)], H3, [.box b2 [.slice aa an ac, .slice ra rn rc], .box b3 [.slice ba bn bc, .slice sa sn sc], .box b5 [.slice ua un uc, .slice va vn vc], .box b7 ws], [], []⟩) ?_ ?_
  · repeat' (first | (refine O_ef rfl (Ef_call (I := []) WideF.wide (hL _ hle02) ⟨rfl, rfl, trivial⟩ rfl ?_); rintro v H3 I3 hle3 ⟨⟨ws, rfl, hws⟩, rfl⟩; obtain ⟨wa, wn, wc, za, zn, zc, rfl, k3, k4⟩ := hws.ex) | refine O_nil ?_ | refine A_region ?_ | (show opsA _ _ _ _ _ _ _; first | refine O_ev WideF.wide rfl (Ev_pure rfl) rfl rfl ?_ | (show opsA _ _ _ _ (⟨_, .load _ _, _, _, _, _⟩ :: _) _ _; first | refine O_ev WideF.wide rfl (Ev_loadB (i := 0) rfl rfl rfl) rfl rfl ?_ | refine O_ev WideF.wide rfl (Ev_loadB (i := 1) rfl rfl rfl) rfl rfl ?_) | (show opsA _ _ _ _ (⟨_, .alloc _, _, _, _, _⟩ :: _) _ _; (refine O_ef rfl (Ef_alloc WideF.wide rfl ?_); intro b)) | (show opsA _ _ _ _ (⟨_, .store _ _ _, _, _, _, _⟩ :: _) _ _; refine O_ef rfl (Ef_storew WideF.wide rfl rfl rfl rfl rfl ?_))))
    exact Shift.to ⟨_, _, _, hle3, hws, rfl⟩ ⟨rfl, rfl, rfl, ⟨rfl, rfl, rfl, rfl, rfl, rfl, rfl, trivial⟩, Own.subi [1, 2, 3, 0] (by decide) rfl rfl⟩
  rintro s ⟨H3, ws, b7, hle3, hws, rfl⟩
  obtain ⟨wa, wn, wc, za, zn, zc, rfl, k3, k4⟩ := hws.ex
  have hle03 := hle02.trans hle3
  have o1 : U.acc.length = un := by have := k1.len; simpa using this
  have o2 : U.rej.length = vn := by have := k2.len; simpa using this
  have hs1 : ∀ Hx, HLe H3 Hx → FnP Try.prog 38 [.slice ua un uc, .slice wa wn wc] Hx (.bool true) := fun Hx hx => by
    have h := sameInts_fn (k1.mono (hle3.trans hx)) (k3.mono hx) (by omega)
    rwa [decide_eq_true rfl] at h
  have hs2 : ∀ Hx, HLe H3 Hx → FnP Try.prog 38 [.slice va vn vc, .slice za zn zc] Hx (.bool true) := fun Hx hx => by
    have h := sameInts_fn (k2.mono (hle3.trans hx)) (k4.mono hx) (by omega)
    rwa [decide_eq_true rfl] at h
  refine A_seq ?_
  refine A_cutu (fun s => ∃ H7, s = ⟨79, [(4, .bool true)], H7, [], [], []⟩) ?_ ?_
  · (refine A_drawL WideF.wide (.q 0 (.q 2 (.e 1 (.e 3 (.q 4 (.q 5 (.q 6 (.q 8 (.e 7 (.e 9 (.q 10 (.q 11 (.q 12 (.q 13 (.q 14 (.q 15 (.q 16 (.q 17 (.q 18 (.q 19 (.q 20 (.q 21 (.e 22 (.q 23 (.q 24 (.q 25 (.q 26 (.q 27 (.q 28 (.e 29 (.q 30 (.q 31 (.done []))))))))))))))))))))))))))))))))) [] (by decide +kernel) ?_)
    repeat' (first | (refine E_ef rfl (Ef_call (I := []) WideF.wide (c1 _ hle03) ⟨rfl, trivial⟩ rfl ?_); rintro v H4 I4 hle4 ⟨rfl, rfl⟩; refine ⟨⟨hle4, rfl⟩, ?_⟩) | (refine E_ef rfl (Ef_call (I := []) WideF.wide (c2 _ (hle03.trans hle4)) ⟨rfl, trivial⟩ rfl ?_); rintro v H5 I5 hle5 ⟨rfl, rfl⟩; refine ⟨⟨hle5, rfl⟩, ?_⟩) | (refine E_ef rfl (Ef_call (I := []) WideF.wide (c3 _ (hle03.trans (hle4.trans hle5))) ⟨rfl, trivial⟩ rfl ?_); rintro v H6 I6 hle6 ⟨rfl, rfl⟩; refine ⟨⟨hle6, rfl⟩, ?_⟩) | (refine E_ef rfl (Ef_call (I := []) WideF.wide (c4 _ (hle03.trans (hle4.trans (hle5.trans hle6)))) ⟨rfl, trivial⟩ rfl ?_); rintro v H7 I7 hle7 ⟨rfl, rfl⟩; refine ⟨⟨hle7, rfl⟩, ?_⟩) | (refine D_ev rfl (Ev_eqis rfl rfl) rfl rfl ?_) | (refine E_ef rfl (Ef_callp WideF.wide (hs1 _ (hle4.trans (hle5.trans (hle6.trans hle7)))) ⟨rfl, rfl, trivial⟩ rfl ?_); refine ⟨Grow.same rfl rfl, ?_⟩) | (refine E_ef rfl (Ef_callp WideF.wide (hs2 _ (hle4.trans (hle5.trans (hle6.trans hle7)))) ⟨rfl, rfl, trivial⟩ rfl ?_); refine ⟨Grow.same rfl rfl, ?_⟩) | refine O_nil ?_ | (show drJ _ _ _ _ _ _ _ (.q _ _) _; refine D_q rfl ?_) | (show drJ _ _ _ _ _ _ _ (.e _ _) _; refine D_e rfl ?_) | (show drJ _ _ _ _ _ _ _ (.done _) _; refine D_done ?_; simp only [List.cons_append, List.nil_append]) | (show drQ _ _ _ _ _ _; first | refine D_ev rfl (Ev_pure rfl) rfl rfl ?_ | (show drQ _ _ _ ⟨_, .load _ _, _, _, _, _⟩ _ _; first | refine D_ev rfl (Ev_loadB1 (i := 2) rfl rfl rfl) rfl rfl ?_ | refine D_ev rfl (Ev_loadB1 (i := 3) rfl rfl rfl) rfl rfl ?_ | refine D_ev rfl (Ev_loadB (i := 0) rfl rfl rfl) rfl rfl ?_ | refine D_ev rfl (Ev_loadB (i := 1) rfl rfl rfl) rfl rfl ?_) | (show drQ _ _ _ ⟨_, .fieldAddr _ _ _, _, _, _, _⟩ _ _; refine D_ev rfl (Ev_fieldAddr rfl rfl rfl) rfl rfl ?_)))
    all_goals exact Shift.to ⟨_, rfl⟩ ⟨rfl, rfl, rfl, ⟨rfl, trivial⟩, Own.subi [] (by decide) rfl rfl⟩
  rintro s ⟨H7, rfl⟩
  repeat' (first | refine A_ret ?_)
  exact End_e (Ret1 rfl rfl) ⟨rfl, rfl⟩
end Go.Proofs.Ythniohgeojenaaa
