/-
  transform.moved, Over. Printed by genU9.py.
-/
import Derived.Test.YtofkolbnhcckkaaGreatU8
namespace Go.Proofs.YtofkolbnhcckkaaGreat
open Go
set_option linter.unusedVariables false
set_option linter.unusedSimpArgs false
attribute [local irreducible] wpA opsA drJ drQ drE Ef Ev Shift Fn
theorem lenV_b (l : List Item) : 0 ≤ lenV l ∧ lenV l ≤ massL l := by
  unfold lenV
  have := usum_b l
  split <;> omega
theorem size_b {k : Int} {p : Piece} (hm : p.fine) : 0 ≤ size k p ∧ size k p ≤ 1099511627776 := by
  have h1 := lenV_b p.items
  have h2 := massR_len p.rows
  have h3 := massC_len p.cells
  have h4 := hm.1
  unfold size
  split
  · omega
  split
  · omega
  split <;> omega
set_option maxRecDepth 100000 in
theorem rangeOf_fn {H : Hp} {cs : List Value} {s : Splice} {k : Int} (hx : SplH H cs s) (hm : s.fine) (hok : chk s = 0) : Fn Tryz.prog 29 [.agg cs.toArray, .int .i64 k] H [] fun v H' I => v = .agg (rng k (size s.kind s.old) (size s.kind s.new)).toArray ∧ I = [] := by
  have h1 := Size_fn hx hm hok
  obtain ⟨ocs, ncs, rfl, p1, p2⟩ := hx.ex
  obtain ⟨o1, o2, o3, o4, o5, o6, o7, o8, o9, o10, o11, o12, rfl⟩ := list12 p1.one.1
  obtain ⟨u1, u2, u3, u4, u5, u6, u7, u8, u9, u10, u11, u12, rfl⟩ := list12 p2.one.1
  refine Fn_of _ _ Tryz.func29 rfl Tryz.ntmps29 rfl fun c => ?_
  repeat' (first | (refine O_ef rfl (Ef_boxa WideF.wide (cs := _ :: _ :: _ :: _ :: ([_, _, _, _, _, _, _, _, _, _, _, _] ++ [_, _, _, _, _, _, _, _, _, _, _, _])) rfl rfl ?_); intro b3; refine O_freezeBox hx.one.2 ?_; intro H3 hle3 hb3) | (refine O_ev WideF.wide rfl (Ev_loadH rfl hb3 rfl) rfl rfl ?_) | (refine O_ef rfl (Ef_call (I := []) WideF.wide (Size_fn (hx.mono hle3) hm hok) ⟨rfl, trivial⟩ rfl ?_); rintro v H1 I1 hle1 ⟨rfl, rfl⟩) | refine O_nil ?_ | refine A_seq ?_ | refine A_region ?_ | refine A_ret ?_ | (show opsA _ _ _ _ _ _ _; first | refine O_ev WideF.wide rfl (Ev_pure rfl) rfl rfl ?_ | (show opsA _ _ _ _ (⟨_, .build _ _, _, _, _, _⟩ :: _) _ _; refine O_ev WideF.wide rfl (Ev_build (vs := [(_, _), (_, _), (_, _)]) ⟨rfl, rfl, rfl, rfl, rfl, rfl, trivial⟩ rfl) rfl rfl ?_) | (show opsA _ _ _ _ (⟨_, .alloc _, _, _, _, _⟩ :: _) _ _; (refine O_ef rfl (Ef_alloc WideF.wide rfl ?_); intro b)) | (show opsA _ _ _ _ (⟨_, .store _ _ _, _, _, _, _⟩ :: _) _ _; refine O_ef rfl (Ef_storew WideF.wide rfl rfl rfl rfl rfl ?_))))
  exact End_e (RetC rfl rfl (i := 0) rfl rfl) ⟨rfl, rfl⟩
set_option maxRecDepth 100000 in
theorem whole_fn {H : Hp} {cs : List Value} {s : Splice} (hx : SplH H cs s) : FnP Tryz.prog 25 [.agg cs.toArray] H (.bool (decide (s.kind = 6 ∨ s.kind = 7))) := by
  obtain ⟨ocs, ncs, rfl, p1, p2⟩ := hx.ex
  obtain ⟨o1, o2, o3, o4, o5, o6, o7, o8, o9, o10, o11, o12, rfl⟩ := list12 p1.one.1
  obtain ⟨u1, u2, u3, u4, u5, u6, u7, u8, u9, u10, u11, u12, rfl⟩ := list12 p2.one.1
  refine Fn_of _ _ Tryz.func25 rfl Tryz.ntmps25 rfl fun c => ?_
  repeat' (first | refine O_nil ?_ | refine A_seq ?_ | refine A_region ?_ | refine A_ret ?_ | (show opsA _ _ _ _ _ _ _; first | (refine O_split rfl rfl (fun h => ?_) (fun h => ?_) <;> try (exfalso; omega)) | refine O_ev WideF.wide rfl (Ev_pure rfl) rfl rfl ?_ | (show opsA _ _ _ _ (⟨_, .load _ _, _, _, _, _⟩ :: _) _ _; refine O_ev WideF.wide rfl (Ev_loadB1 (i := 0) rfl rfl rfl) rfl rfl ?_) | (show opsA _ _ _ _ (⟨_, .fieldAddr _ _ _, _, _, _, _⟩ :: _) _ _; refine O_ev WideF.wide rfl (Ev_fieldAddr rfl rfl rfl) rfl rfl ?_) | (show opsA _ _ _ _ (⟨_, .box _ _, _, _, _, _⟩ :: _) _ _; (refine O_ef rfl (Ef_boxa WideF.wide rfl rfl ?_); intro b)) | refine O_skip WideF.wide rfl rfl rfl ?_))
  all_goals first
    | (exfalso; omega)
    | ((refine End_p (Ret1 rfl rfl) ?_); refine congrArg Value.bool ?_; grind)
def farP (s : Splice) : Prop := s.at_ < 0 ∨ 1099511627776 < s.at_ ∨ s.sub < 0 ∨ 1099511627776 < s.sub
instance (s : Splice) : Decidable (farP s) := by unfold farP; infer_instance
set_option maxRecDepth 100000 in
theorem far_fn {H : Hp} {cs : List Value} {s : Splice} (hx : SplH H cs s) : FnP Tryz.prog 14 [.agg cs.toArray] H (.bool (decide (farP s))) := by
  obtain ⟨ocs, ncs, rfl, p1, p2⟩ := hx.ex
  obtain ⟨o1, o2, o3, o4, o5, o6, o7, o8, o9, o10, o11, o12, rfl⟩ := list12 p1.one.1
  obtain ⟨u1, u2, u3, u4, u5, u6, u7, u8, u9, u10, u11, u12, rfl⟩ := list12 p2.one.1
  refine Fn_of _ _ Tryz.func14 rfl Tryz.ntmps14 rfl fun c => ?_
  repeat' (first | refine O_nil ?_ | refine A_seq ?_ | refine A_region ?_ | refine A_ret ?_ | (show opsA _ _ _ _ _ _ _; first | (refine O_split rfl rfl (fun h => ?_) (fun h => ?_) <;> try (exfalso; omega)) | refine O_ev WideF.wide rfl (Ev_pure rfl) rfl rfl ?_ | (show opsA _ _ _ _ (⟨_, .load _ _, _, _, _, _⟩ :: _) _ _; refine O_ev WideF.wide rfl (Ev_loadB1 (i := 0) rfl rfl rfl) rfl rfl ?_) | (show opsA _ _ _ _ (⟨_, .fieldAddr _ _ _, _, _, _, _⟩ :: _) _ _; refine O_ev WideF.wide rfl (Ev_fieldAddr rfl rfl rfl) rfl rfl ?_) | (show opsA _ _ _ _ (⟨_, .box _ _, _, _, _, _⟩ :: _) _ _; (refine O_ef rfl (Ef_boxa WideF.wide rfl rfl ?_); intro b)) | refine O_skip WideF.wide rfl rfl rfl ?_))
  all_goals first
    | (exfalso; omega)
    | ((refine End_p (Ret1 rfl rfl) ?_); refine congrArg Value.bool ?_; unfold farP; grind)
/-! ### what becomes of the place of a splice -/
def clash (s t : Splice) : Prop := s.id ∈ idsP t.old ∨ t.id ∈ idsP s.old ∨ meet (idsP s.new) (idsP t.new)
noncomputable instance (s t : Splice) : Decidable (clash s t) := Classical.propDecidable _
noncomputable def mvd (s t : Splice) (first : Bool) : Option (Int × Int) :=
  if (s.kind = 6 ∨ s.kind = 7) ∨ t.kind = 6 ∨ t.kind = 7 then (if s.kind ≠ t.kind then some (s.at_, s.sub) else none)
  else if clash s t then none
  else if s.id ≠ t.id ∨ ¬ (s.kind = 1 ↔ t.kind = 1) then some (s.at_, s.sub)
  else if s.kind = 1 ∨ s.kind = 2 ∧ t.kind = 2 then (rOver s.at_ (size s.kind s.old) t.at_ (size t.kind t.old) (size t.kind t.new) first).map fun y => (y, s.sub)
  else if t.kind = 2 then (rIdx s.at_ t.at_ (size t.kind t.old) (size t.kind t.new)).map fun y => (y, s.sub)
  else if s.kind = 2 then (if rIdx t.at_ s.at_ (size s.kind s.old) (size s.kind s.new) = none then none else some (s.at_, s.sub))
  else if s.at_ ≠ t.at_ then some (s.at_, s.sub)
  else if s.kind = 4 ∨ t.kind = 4 then (if s.kind ≠ t.kind then some (s.at_, s.sub) else none)
  else if s.kind = 3 ∧ t.kind = 3 then (rOver s.sub (size s.kind s.old) t.sub (size t.kind t.old) (size t.kind t.new) first).map fun y => (s.at_, y)
  else if s.kind = 5 ∧ t.kind = 5 then (if s.sub ≠ t.sub then some (s.at_, s.sub) else none)
  else if t.kind = 3 then (rIdx s.sub t.sub (size t.kind t.old) (size t.kind t.new)).map fun y => (s.at_, y)
  else (if rIdx t.sub s.sub (size s.kind s.old) (size s.kind s.new) = none then none else some (s.at_, s.sub))
def MvR (X : Option (Int × Int)) (v : Value) : Prop := ∃ (a b : Int) (ok : Bool), v = .tuple [.int .i64 a, .int .i64 b, .bool ok].toArray ∧ X = if ok = true then some (a, b) else none
theorem Ev_nebd {P : Program} {e : Env} {H : Hp} {R : Own} {dst : Option Tmp} {ty : TypeId} {pos : String} {after : Array Edge} {g : Option (Nat × Bool)} {x y : Operand} {t t2 : TypeId} {p q : Prop} [Decidable p] [Decidable q] [ht : UndC P t .bool] (hx : e.eval x = some (.bool (decide p))) (hy : e.eval y = some (.bool (decide q))) : Ev P ⟨dst, .binOp .neq t x y t2, ty, pos, after, g⟩ e H R (.bool (decide (¬ (p ↔ q)))) := by
  have h := Ev_neb (P := P) (H := H) (R := R) (dst := dst) (ty := ty) (pos := pos) (after := after) (g := g) (t := t) (t2 := t2) hx hy
  have e1 : (!(decide p == decide q)) = decide (¬ (p ↔ q)) := by by_cases h1 : p <;> by_cases h2 : q <;> simp [h1, h2]
  rwa [e1] at h
theorem map_if {b : Bool} {y : Int} {X : Option Int} (h : X = if b = true then some y else none) (f : Int → Int × Int) : X.map f = if b = true then some (f y) else none := by
  rw [h]; cases b <;> rfl
set_option maxRecDepth 100000 in
set_option maxHeartbeats 8000000 in
theorem moved_fn {H : Hp} {cs cs' : List Value} {s t : Splice} {first : Bool} (hx : SplH H cs s) (hx' : SplH H cs' t) (hm : s.fine) (hm' : t.fine) (hs : chk s = 0) (ht : chk t = 0) (fs : ¬ farP s) (ft : ¬ farP t) :
    Fn Tryz.prog 16 [.agg cs.toArray, .agg cs'.toArray, .bool first] H [] fun v _ I => MvR (mvd s t first) v ∧ I = [] := by
  obtain ⟨ocs, ncs, rfl, p1, p2⟩ := hx.ex
  obtain ⟨ocs', ncs', rfl, p1', p2'⟩ := hx'.ex
  obtain ⟨o1, o2, o3, o4, o5, o6, o7, o8, o9, o10, o11, o12, rfl⟩ := list12 p1.one.1
  obtain ⟨u1, u2, u3, u4, u5, u6, u7, u8, u9, u10, u11, u12, rfl⟩ := list12 p2.one.1
  obtain ⟨v1, v2, v3, v4, v5, v6, v7, v8, v9, v10, v11, v12, rfl⟩ := list12 p1'.one.1
  obtain ⟨w1, w2, w3, w4, w5, w6, w7, w8, w9, w10, w11, w12, rfl⟩ := list12 p2'.one.1
  unfold farP at fs ft
  have z1 := size_b (k := s.kind) hm.1
  have z2 := size_b (k := s.kind) hm.2
  have z3 := size_b (k := t.kind) hm'.1
  have z4 := size_b (k := t.kind) hm'.2
  have k1 := fun Hx (h : HLe H Hx) => whole_fn (hx.mono h)
  have k2 := fun Hx (h : HLe H Hx) => whole_fn (hx'.mono h)
  have k3 := fun Hx (h : HLe H Hx) => Ids_fn (p1'.mono h) hm'.1
  have k4 := fun Hx (h : HLe H Hx) => Ids_fn (p1.mono h) hm.1
  have k5 := fun Hx (h : HLe H Hx) => common_fn (p2.mono h) (p2'.mono h) hm.2 hm'.2
  have k6 := fun Hx (h : HLe H Hx) k => rangeOf_fn (k := k) (hx.mono h) hm hs
  have k7 := fun Hx (h : HLe H Hx) k => rangeOf_fn (k := k) (hx'.mono h) hm' ht
  have q1 := fun Hx => rOver_fn (H := Hx) (b := s.at_) (k := size s.kind s.new) (a := t.at_) (first := first) (by omega) z1 (by omega) z3 z4
  have q2 := fun Hx => rOver_fn (H := Hx) (b := s.sub) (k := size s.kind s.new) (a := t.sub) (first := first) (by omega) z1 (by omega) z3 z4
  have q3 := fun Hx => rIndex_fn (H := Hx) (k := s.at_) (a := t.at_) (by omega) (by omega) z3 z4
  have q4 := fun Hx => rIndex_fn (H := Hx) (k := s.sub) (a := t.sub) (by omega) (by omega) z3 z4
  have q5 := fun Hx => rRemoves_fn (H := Hx) (k := t.at_) (a := s.at_) (by omega) (by omega) z1 z2
  have q6 := fun Hx => rRemoves_fn (H := Hx) (k := t.sub) (a := s.sub) (by omega) (by omega) z1 z2
  have hmv := mvd.eq_1 s t first
  unfold clash at hmv
  generalize size s.kind s.old = A at *
  generalize size s.kind s.new = B at *
  generalize size t.kind t.old = C at *
  generalize size t.kind t.new = D at *
  refine Fn_of _ _ Tryz.func16 rfl Tryz.ntmps16 rfl fun c => ?_
  repeat' (first | (show opsA _ _ _ _ (⟨some 3, .box _ _, _, _, _, _⟩ :: _) _ _; refine O_ef rfl (Ef_boxa WideF.wide (cs := _ :: _ :: _ :: _ :: ([_, _, _, _, _, _, _, _, _, _, _, _] ++ [_, _, _, _, _, _, _, _, _, _, _, _])) rfl rfl ?_); intro b3; refine O_freezeBox hx.one.2 ?_; intro H3 hle3 hb3; have g := hle3) | (show opsA _ _ _ _ (⟨some 4, .box _ _, _, _, _, _⟩ :: _) _ _; refine O_ef rfl (Ef_boxa WideF.wide (cs := _ :: _ :: _ :: _ :: ([_, _, _, _, _, _, _, _, _, _, _, _] ++ [_, _, _, _, _, _, _, _, _, _, _, _])) rfl rfl ?_); intro b4; refine O_freezeBox hx'.one.2 ?_; intro H4 hle4 hb4; have hb3 := hb3.mono hle4; have g := g.trans hle4) | (show opsA _ _ _ _ (⟨_, .load _ _, _, _, _, _⟩ :: _) _ _; first | refine O_ev WideF.wide rfl (Ev_loadH1 rfl (hb3 0 _ rfl)) rfl rfl ?_ | refine O_ev WideF.wide rfl (Ev_loadH1 rfl (hb3 1 _ rfl)) rfl rfl ?_ | refine O_ev WideF.wide rfl (Ev_loadH1 rfl (hb3 2 _ rfl)) rfl rfl ?_ | refine O_ev WideF.wide rfl (Ev_loadH1 rfl (hb3 3 _ rfl)) rfl rfl ?_ | refine O_ev WideF.wide rfl (Ev_loadH1 rfl (hb4 0 _ rfl)) rfl rfl ?_ | refine O_ev WideF.wide rfl (Ev_loadH1 rfl (hb4 1 _ rfl)) rfl rfl ?_ | refine O_ev WideF.wide rfl (Ev_loadH1 rfl (hb4 2 _ rfl)) rfl rfl ?_ | refine O_ev WideF.wide rfl (Ev_loadH1 rfl (hb4 3 _ rfl)) rfl rfl ?_ | refine O_ev WideF.wide rfl (Ev_loadH rfl (hb3.sub 4 12) rfl) rfl rfl ?_ | refine O_ev WideF.wide rfl (Ev_loadH rfl (hb4.sub 4 12) rfl) rfl rfl ?_ | refine O_ev WideF.wide rfl (Ev_loadH rfl (hb3.sub 16 12) rfl) rfl rfl ?_ | refine O_ev WideF.wide rfl (Ev_loadH rfl (hb4.sub 16 12) rfl) rfl rfl ?_ | refine O_ev WideF.wide rfl (Ev_loadH rfl hb3 rfl) rfl rfl ?_ | refine O_ev WideF.wide rfl (Ev_loadH rfl hb4 rfl) rfl rfl ?_) | (show drQ _ _ _ ⟨_, .load _ _, _, _, _, _⟩ _ _; first | refine D_ev rfl (Ev_loadH1 rfl (hb3 0 _ rfl)) rfl rfl ?_ | refine D_ev rfl (Ev_loadH1 rfl (hb3 1 _ rfl)) rfl rfl ?_ | refine D_ev rfl (Ev_loadH1 rfl (hb3 2 _ rfl)) rfl rfl ?_ | refine D_ev rfl (Ev_loadH1 rfl (hb3 3 _ rfl)) rfl rfl ?_ | refine D_ev rfl (Ev_loadH1 rfl (hb4 0 _ rfl)) rfl rfl ?_ | refine D_ev rfl (Ev_loadH1 rfl (hb4 1 _ rfl)) rfl rfl ?_ | refine D_ev rfl (Ev_loadH1 rfl (hb4 2 _ rfl)) rfl rfl ?_ | refine D_ev rfl (Ev_loadH1 rfl (hb4 3 _ rfl)) rfl rfl ?_ | refine D_ev rfl (Ev_loadH rfl (hb3.sub 4 12) rfl) rfl rfl ?_ | refine D_ev rfl (Ev_loadH rfl (hb4.sub 4 12) rfl) rfl rfl ?_ | refine D_ev rfl (Ev_loadH rfl (hb3.sub 16 12) rfl) rfl rfl ?_ | refine D_ev rfl (Ev_loadH rfl (hb4.sub 16 12) rfl) rfl rfl ?_ | refine D_ev rfl (Ev_loadH rfl hb3 rfl) rfl rfl ?_ | refine D_ev rfl (Ev_loadH rfl hb4 rfl) rfl rfl ?_) | (show wpA _ _ _ (.region 3 _ _) _ _ _ _; (refine A_drawM WideF.wide (.q 0 (.q 1 (.q 2 (.q 3 (.q 4 (.q 5 (.q 6 (.q 7 (.q 8 (.q 9 (.q 10 (.q 11 (.done []))))))))))))) [] (by decide +kernel) ?_)) | (show wpA _ _ _ (.region 4 _ _) _ _ _ _; (refine A_drawM WideF.wide (.q 0 (.q 1 (.q 3 (.q 4 (.e 2 (.e 5 (.q 6 (.q 7 (.q 8 (.q 10 (.q 11 (.e 9 (.e 12 (.q 13 (.q 14 (.q 15 (.q 16 (.q 17 (.q 18 (.e 19 (.q 20 (.q 21 (.done []))))))))))))))))))))))) [] (by decide +kernel) ?_)) | (show wpA _ _ _ (.region 7 _ _) _ _ _ _; (refine A_drawM WideF.wide (.q 0 (.q 1 (.q 2 (.q 3 (.q 4 (.q 5 (.q 6 (.done [])))))))) [] (by decide +kernel) ?_)) | (show wpA _ _ _ (.region 9 _ _) _ _ _ _; (refine A_drawM WideF.wide (.q 0 (.q 1 (.q 2 (.q 4 (.q 5 (.q 6 (.q 8 (.e 3 (.e 7 (.e 9 (.q 10 (.q 11 (.q 12 (.q 13 (.q 14 (.done [])))))))))))))))) [] (by decide +kernel) ?_)) | (show wpA _ _ _ (.region 10 _ _) _ _ _ _; (refine A_drawM WideF.wide (.q 0 (.q 1 (.q 2 (.q 3 (.q 4 (.q 5 (.q 6 (.done [])))))))) [] (by decide +kernel) ?_)) | (show wpA _ _ _ (.region 12 _ _) _ _ _ _; (refine A_drawM WideF.wide (.q 0 (.q 1 (.q 2 (.q 4 (.q 5 (.e 3 (.e 6 (.q 7 (.q 8 (.q 9 (.q 10 (.q 11 (.done []))))))))))))) [] (by decide +kernel) ?_)) | (show wpA _ _ _ (.region 13 _ _) _ _ _ _; (refine A_drawM WideF.wide (.q 0 (.q 1 (.q 2 (.q 3 (.q 4 (.q 5 (.q 6 (.done [])))))))) [] (by decide +kernel) ?_)) | (show wpA _ _ _ (.region 15 _ _) _ _ _ _; (refine A_drawM WideF.wide (.q 0 (.q 1 (.q 2 (.q 3 (.q 4 (.q 5 (.q 6 (.q 8 (.q 9 (.e 7 (.e 10 (.q 11 (.q 12 (.q 13 (.q 14 (.done [])))))))))))))))) [] (by decide +kernel) ?_)) | (show wpA _ _ _ (.region 17 _ _) _ _ _ _; (refine A_drawM WideF.wide (.q 0 (.q 1 (.q 2 (.q 3 (.q 4 (.q 5 (.q 6 (.done [])))))))) [] (by decide +kernel) ?_)) | (show wpA _ _ _ (.region 19 _ _) _ _ _ _; (refine A_drawM WideF.wide (.q 0 (.q 1 (.q 2 (.q 3 (.q 4 (.q 5 (.q 6 (.q 7 (.q 8 (.q 9 (.q 10 (.q 11 (.done []))))))))))))) [] (by decide +kernel) ?_)) | (show wpA _ _ _ (.region 21 _ _) _ _ _ _; (refine A_drawM WideF.wide (.q 0 (.q 1 (.q 2 (.q 4 (.q 5 (.q 6 (.q 8 (.e 3 (.e 7 (.e 9 (.q 10 (.q 11 (.q 12 (.q 13 (.q 14 (.done [])))))))))))))))) [] (by decide +kernel) ?_)) | (show wpA _ _ _ (.region 24 _ _) _ _ _ _; (refine A_drawM WideF.wide (.q 0 (.q 1 (.q 2 (.q 3 (.q 4 (.q 5 (.q 6 (.q 7 (.q 8 (.q 9 (.q 10 (.q 11 (.done []))))))))))))) [] (by decide +kernel) ?_)) | (show wpA _ _ _ (.region 26 _ _) _ _ _ _; (refine A_drawM WideF.wide (.q 0 (.q 1 (.q 2 (.q 4 (.q 5 (.e 3 (.e 6 (.q 7 (.q 8 (.q 9 (.q 10 (.q 11 (.done []))))))))))))) [] (by decide +kernel) ?_)) | (show wpA _ _ _ (.region 28 _ _) _ _ _ _; (refine A_drawM WideF.wide (.q 0 (.q 1 (.q 2 (.q 3 (.q 4 (.q 5 (.q 6 (.q 8 (.q 9 (.e 7 (.e 10 (.q 11 (.q 12 (.q 13 (.q 14 (.done [])))))))))))))))) [] (by decide +kernel) ?_)) | (refine O_ev WideF.wide rfl (Ev_nebd rfl rfl) rfl rfl ?_) | (refine O_ef rfl (Ef_callp WideF.wide (k1 _ g) ⟨rfl, trivial⟩ rfl ?_)) | (refine O_ef rfl (Ef_callp WideF.wide (k2 _ g) ⟨rfl, trivial⟩ rfl ?_)) | (refine E_ef rfl (Ef_call (I := []) WideF.wide (k3 _ g) ⟨rfl, trivial⟩ rfl ?_); rintro v H5 I5 hle5 ⟨⟨a5, n5, c5, l5, rfl, r5, m5, s5⟩, rfl⟩; refine ⟨⟨hle5, rfl⟩, ?_⟩); have hb3 := hb3.mono hle5; have hb4 := hb4.mono hle5; have g := g.trans hle5 | (refine E_ef rfl (Ef_call (I := []) WideF.wide (k4 _ g) ⟨rfl, trivial⟩ rfl ?_); rintro v H6 I6 hle6 ⟨⟨a6, n6, c6, l6, rfl, r6, m6, s6⟩, rfl⟩; refine ⟨⟨hle6, rfl⟩, ?_⟩); have hb3 := hb3.mono hle6; have hb4 := hb4.mono hle6; have g := g.trans hle6 | (refine E_ef rfl (Ef_callp WideF.wide (Contains_fn r6 m6 s6) ⟨rfl, rfl, trivial⟩ rfl ?_); refine ⟨Grow.same rfl rfl, ?_⟩) | (refine E_ef rfl (Ef_callp WideF.wide (Contains_fn r5 m5 s5) ⟨rfl, rfl, trivial⟩ rfl ?_); refine ⟨Grow.same rfl rfl, ?_⟩) | (refine E_ef rfl (Ef_call (I := []) WideF.wide (k5 _ g) ⟨rfl, rfl, trivial⟩ rfl ?_); rintro v H7 I7 hle7 ⟨rfl, rfl⟩; refine ⟨⟨hle7, rfl⟩, ?_⟩); have hb3 := hb3.mono hle7; have hb4 := hb4.mono hle7; have g := g.trans hle7 | (refine E_ef rfl (Ef_call (I := []) WideF.wide (k6 _ g _) ⟨rfl, rfl, trivial⟩ rfl ?_); rintro v H8 I8 hle8 ⟨rfl, rfl⟩; refine ⟨⟨hle8, rfl⟩, ?_⟩); have hb3 := hb3.mono hle8; have hb4 := hb4.mono hle8; have g := g.trans hle8 | (refine E_ef rfl (Ef_call (I := []) WideF.wide (k7 _ g _) ⟨rfl, rfl, trivial⟩ rfl ?_); rintro v H9 I9 hle9 ⟨rfl, rfl⟩; refine ⟨⟨hle9, rfl⟩, ?_⟩); have hb3 := hb3.mono hle9; have hb4 := hb4.mono hle9; have g := g.trans hle9 | (refine E_ef rfl (Ef_call (I := []) WideF.wide (q1 _) ⟨rfl, rfl, rfl, trivial⟩ rfl ?_); rintro v HA IA hleA ⟨⟨y, bb, rfl, hy⟩, rfl, rfl⟩; refine ⟨⟨HLe.refl _, rfl⟩, ?_⟩) | (refine E_ef rfl (Ef_call (I := []) WideF.wide (q2 _) ⟨rfl, rfl, rfl, trivial⟩ rfl ?_); rintro v HA IA hleA ⟨⟨y, bb, rfl, hy⟩, rfl, rfl⟩; refine ⟨⟨HLe.refl _, rfl⟩, ?_⟩) | (refine E_ef rfl (Ef_call (I := []) WideF.wide (q3 _) ⟨rfl, rfl, trivial⟩ rfl ?_); rintro v HA IA hleA ⟨⟨y, bb, rfl, hy⟩, rfl, rfl⟩; refine ⟨⟨HLe.refl _, rfl⟩, ?_⟩) | (refine E_ef rfl (Ef_call (I := []) WideF.wide (q4 _) ⟨rfl, rfl, trivial⟩ rfl ?_); rintro v HA IA hleA ⟨⟨y, bb, rfl, hy⟩, rfl, rfl⟩; refine ⟨⟨HLe.refl _, rfl⟩, ?_⟩) | (refine E_ef rfl (Ef_callp WideF.wide (q5 _) ⟨rfl, rfl, trivial⟩ rfl ?_); refine ⟨Grow.same rfl rfl, ?_⟩) | (refine E_ef rfl (Ef_callp WideF.wide (q6 _) ⟨rfl, rfl, trivial⟩ rfl ?_); refine ⟨Grow.same rfl rfl, ?_⟩) | refine O_nil ?_ | refine A_seq ?_ | refine A_region ?_ | refine A_skip ?_ | refine A_ret ?_ | refine A_block ?_ | (show drJ _ _ _ _ _ _ _ (.q _ _) _; refine D_q rfl ?_) | (show drJ _ _ _ _ _ _ _ (.e _ _) _; refine D_e rfl ?_) | (show drJ _ _ _ _ _ _ _ (.done _) _; refine D_done ?_; simp only [List.cons_append, List.nil_append]) | (show drQ _ _ _ _ _ _; first | (refine D_split rfl rfl (fun h => ?_) (fun h => ?_) <;> try (exfalso; omega)) | refine D_ev rfl (Ev_pure rfl) rfl rfl ?_ | (show drQ _ _ _ ⟨_, .fieldAddr _ _ _, _, _, _, _⟩ _ _; refine D_ev rfl (Ev_fieldAddr rfl rfl rfl) rfl rfl ?_) | (show drQ _ _ _ ⟨_, .unOp _ _ _, _, _, _, _⟩ _ _; refine D_ev rfl (Ev_not rfl) rfl rfl ?_) | refine D_skip rfl rfl rfl ?_) | (show drE _ _ _ _ _ _ _; refine E_skip rfl rfl rfl ?_) | (show opsA _ _ _ _ _ _ _; first | (refine O_split rfl rfl (fun h => ?_) (fun h => ?_) <;> try (exfalso; omega)) | refine O_ev WideF.wide rfl (Ev_pure rfl) rfl rfl ?_ | (show opsA _ _ _ _ (⟨_, .fieldAddr _ _ _, _, _, _, _⟩ :: _) _ _; refine O_ev WideF.wide rfl (Ev_fieldAddr rfl rfl rfl) rfl rfl ?_) | refine O_skip WideF.wide rfl rfl rfl ?_) | (show wpA _ _ _ (.cond _ _ _) _ _ _ _; first | (refine A_if rfl (fun h => ?_) (fun h => ?_) <;> try (exfalso; omega)) | refine A_iftrue rfl ?_ | refine A_iffalse rfl ?_))
  all_goals try (exfalso; omega)
  all_goals refine End_e (Ret3 rfl rfl rfl rfl) ⟨⟨_, _, _, rfl, ?_⟩, rfl⟩
  all_goals rw [hmv]
  all_goals try have hmap := map_if hy
  all_goals first
    | (simp [*]; done)
    | (simp [*]; intro hh; exfalso; omega)
    | (simp [*]; rw [if_pos (by omega)]; exact hmap _)
    | trace_state

end Go.Proofs.YtofkolbnhcckkaaGreat
