/-
  The law's moved and over. Printed by genU12.py.
-/
import Derived.Test.YtofkolbnhcckkaaGreatU11
namespace Go.Proofs.YtofkolbnhcckkaaGreat
open Go
set_option linter.unusedVariables false
set_option linter.unusedSimpArgs false
attribute [local irreducible] wpA opsA drJ drQ drE Ef Ev Shift Fn
theorem rIdx_none {k a n m m' : Int} : rIdx k a n m = none ↔ rIdx k a n m' = none := by
  unfold rIdx
  split
  · simp
  split <;> simp
def LmR (s t : Splice) (first : Bool) (v : Value) (H : Hp) : Prop := ∃ (cs : List Value) (a b : Int) (ok : Bool), v = .tuple [.agg cs.toArray, .bool ok].toArray ∧ (mvd s t first = if ok = true then some (a, b) else none) ∧ SplH H cs { s with at_ := a, sub := b }
set_option maxRecDepth 100000 in
set_option maxHeartbeats 16000000 in
theorem lmoved_fn {H : Hp} {cs cs' : List Value} {s t : Splice} {first : Bool} (hx : SplH H cs s) (hx' : SplH H cs' t) (hm : s.fine) (hm' : t.fine) (hs : chk s = 0) (ht : chk t = 0) (fs : ¬ farP s) (ft : ¬ farP t) :
    Fn Tryz.prog 17 [.agg cs.toArray, .agg cs'.toArray, .bool first] H [] fun v H' I => LmR s t first v H' ∧ I = [] := by
  obtain ⟨ocs, ncs, rfl, p1, p2⟩ := hx.ex
  obtain ⟨ocs', ncs', rfl, p1', p2'⟩ := hx'.ex
  obtain ⟨o1, o2, o3, o4, o5, o6, o7, o8, o9, o10, o11, o12, rfl⟩ := list12 p1.one.1
  obtain ⟨u1, u2, u3, u4, u5, u6, u7, u8, u9, u10, u11, u12, rfl⟩ := list12 p2.one.1
  obtain ⟨v1, v2, v3, v4, v5, v6, v7, v8, v9, v10, v11, v12, rfl⟩ := list12 p1'.one.1
  obtain ⟨w1, w2, w3, w4, w5, w6, w7, w8, w9, w10, w11, w12, rfl⟩ := list12 p2'.one.1
  unfold farP at fs ft
  have z1 := size_b (k := s.kind) hm.1
  have z2 := size_b (k := s.kind) hm.2
  have z3 := size_b (k := t.kind) hm'.1
  have z4 := size_b (k := t.kind) hm'.2
  have k1 := fun Hx (h : HLe H Hx) => Size_fn (hx.mono h) hm hs
  have k2 := fun Hx (h : HLe H Hx) => Size_fn (hx'.mono h) hm' ht
  have k3 := fun Hx (h : HLe H Hx) => pieceIds_fn (p1'.mono h) hm'.1
  have k4 := fun Hx (h : HLe H Hx) => pieceIds_fn (p1.mono h) hm.1
  have k5 := fun Hx (h : HLe H Hx) => pieceIds_fn (p2.mono h) hm.2
  have k6 := fun Hx (h : HLe H Hx) => pieceIds_fn (p2'.mono h) hm'.2
  have hmv := mvd.eq_1 s t first
  unfold clash at hmv
  generalize size s.kind s.old = A at *
  generalize size s.kind s.new = B at *
  generalize size t.kind t.old = C at *
  generalize size t.kind t.new = D at *
  simp only [rIdx_none (k := t.at_) (a := s.at_) (n := A) (m := B) (m' := 0), rIdx_none (k := t.sub) (a := s.sub) (n := A) (m := B) (m' := 0)] at hmv
  have q1 := fun Hx => lranges_fn (H := Hx) (b := s.at_) (a := t.at_) (first := first) (by omega) z1 (by omega) z3 z4
  have q2 := fun Hx => lranges_fn (H := Hx) (b := s.sub) (a := t.sub) (first := first) (by omega) z1 (by omega) z3 z4
  have q3 := fun Hx => lindex_fn (H := Hx) (k := s.at_) (a := t.at_) (by omega) (by omega) z3 z4
  have q4 := fun Hx => lindex_fn (H := Hx) (k := s.sub) (a := t.sub) (by omega) (by omega) z3 z4
  have q5 := fun Hx => lindex_fn (H := Hx) (k := t.at_) (a := s.at_) (m := 0) (by omega) (by omega) z1 (by decide)
  have q6 := fun Hx => lindex_fn (H := Hx) (k := t.sub) (a := s.sub) (m := 0) (by omega) (by omega) z1 (by decide)
  refine Fn_of _ _ Tryz.func17 rfl Tryz.ntmps17 rfl fun c => ?_
  repeat' (first | (show opsA _ _ _ _ (⟨some 4, .box _ _, _, _, _, _⟩ :: _) _ _; refine O_ef rfl (Ef_boxa WideF.wide (cs := _ :: _ :: _ :: _ :: ([_, _, _, _, _, _, _, _, _, _, _, _] ++ [_, _, _, _, _, _, _, _, _, _, _, _])) rfl rfl ?_); intro b4; refine O_freezeBox hx'.one.2 ?_; intro H4 hle4 hb4; have g := hle4) | (show opsA _ _ _ _ (⟨_, .load _ _, _, _, _, _⟩ :: _) _ _; first | refine O_ev WideF.wide rfl (Ev_loadH1 rfl (hb4 0 _ rfl)) rfl rfl ?_ | refine O_ev WideF.wide rfl (Ev_loadH1 rfl (hb4 1 _ rfl)) rfl rfl ?_ | refine O_ev WideF.wide rfl (Ev_loadH1 rfl (hb4 2 _ rfl)) rfl rfl ?_ | refine O_ev WideF.wide rfl (Ev_loadH1 rfl (hb4 3 _ rfl)) rfl rfl ?_ | refine O_ev WideF.wide rfl (Ev_loadH rfl (hb4.sub 4 12) rfl) rfl rfl ?_ | refine O_ev WideF.wide rfl (Ev_loadH rfl (hb4.sub 16 12) rfl) rfl rfl ?_ | refine O_ev WideF.wide rfl (Ev_loadH rfl hb4 rfl) rfl rfl ?_) | (show drQ _ _ _ ⟨_, .load _ _, _, _, _, _⟩ _ _; first | refine D_ev rfl (Ev_loadH1 rfl (hb4 0 _ rfl)) rfl rfl ?_ | refine D_ev rfl (Ev_loadH1 rfl (hb4 1 _ rfl)) rfl rfl ?_ | refine D_ev rfl (Ev_loadH1 rfl (hb4 2 _ rfl)) rfl rfl ?_ | refine D_ev rfl (Ev_loadH1 rfl (hb4 3 _ rfl)) rfl rfl ?_ | refine D_ev rfl (Ev_loadH rfl (hb4.sub 4 12) rfl) rfl rfl ?_ | refine D_ev rfl (Ev_loadH rfl (hb4.sub 16 12) rfl) rfl rfl ?_ | refine D_ev rfl (Ev_loadH rfl hb4 rfl) rfl rfl ?_) | (show wpA _ _ _ (.region 9 _ _) _ _ _ _; (refine A_drawi WideF.wide (.q 0 (.q 1 (.q 2 (.q 3 (.q 4 (.q 5 (.e 6 (.q 7 (.done []))))))))) [] [0] [1] (by decide +kernel) (by decide) rfl ?_; simp only [Own.picks, Own.rget, List.cons_append, List.nil_append, List.append_nil])) | (show wpA _ _ _ (.region 10 _ _) _ _ _ _; (refine A_drawi WideF.wide (.q 0 (.q 1 (.q 3 (.q 4 (.e 2 (.e 5 (.q 6 (.q 7 (.q 8 (.q 10 (.q 11 (.e 9 (.e 12 (.q 13 (.q 14 (.q 15 (.q 16 (.q 18 (.q 19 (.e 17 (.e 20 (.e 21 (.q 22 (.q 23 (.done []))))))))))))))))))))))))) [] [0] [1] (by decide +kernel) (by decide) rfl ?_; simp only [Own.picks, Own.rget, List.cons_append, List.nil_append, List.append_nil])) | (refine O_ef rfl (Ef_storew WideF.wide rfl rfl rfl (List.all_eq_true.2 hx.one.2) rfl ?_)) | (refine O_f1 (O_ef rfl (Ef_storew WideF.wide rfl rfl rfl (List.all_eq_true.2 (hx.at2 (a' := y) (b' := s.sub) rfl).one.2) rfl ?_))) | (refine O_f1 (O_ef rfl (Ef_storew WideF.wide rfl rfl rfl (List.all_eq_true.2 (hx.at2 (a' := s.at_) (b' := y) rfl).one.2) rfl ?_))) | (refine E_ef rfl (Ef_storew WideF.wide rfl rfl rfl (List.all_eq_true.2 hx.one.2) rfl ?_); refine ⟨Grow.same rfl rfl, ?_⟩) | (refine O_ef rfl (Ef_call (I := []) WideF.wide (k1 _ g) ⟨rfl, trivial⟩ rfl ?_); rintro v H5 I5 hle5 ⟨rfl, rfl⟩); have hb4 := hb4.mono hle5; have g := g.trans hle5 | (refine O_ef rfl (Ef_call (I := []) WideF.wide (k2 _ g) ⟨rfl, trivial⟩ rfl ?_); rintro v H6 I6 hle6 ⟨rfl, rfl⟩); have hb4 := hb4.mono hle6; have g := g.trans hle6 | (refine E_ef rfl (Ef_call (I := []) WideF.wide (k3 _ g) ⟨rfl, trivial⟩ rfl ?_); rintro v H7 I7 hle7 ⟨⟨a5, n5, c5, rfl, r5, m5⟩, rfl⟩; refine ⟨⟨hle7, rfl⟩, ?_⟩); have hb4 := hb4.mono hle7; have g := g.trans hle7 | (refine E_ef rfl (Ef_call (I := []) WideF.wide (k4 _ g) ⟨rfl, trivial⟩ rfl ?_); rintro v H8 I8 hle8 ⟨⟨a6, n6, c6, rfl, r6, m6⟩, rfl⟩; refine ⟨⟨hle8, rfl⟩, ?_⟩); have hb4 := hb4.mono hle8; have g := g.trans hle8 | (refine E_ef rfl (Ef_callp WideF.wide (lhas_fn r6 m6) ⟨rfl, rfl, trivial⟩ rfl ?_); refine ⟨Grow.same rfl rfl, ?_⟩) | (refine E_ef rfl (Ef_callp WideF.wide (lhas_fn r5 m5) ⟨rfl, rfl, trivial⟩ rfl ?_); refine ⟨Grow.same rfl rfl, ?_⟩) | (refine E_ef rfl (Ef_call (I := []) WideF.wide (k5 _ g) ⟨rfl, trivial⟩ rfl ?_); rintro v H9 I9 hle9 ⟨⟨a7, n7, c7, rfl, r7, m7⟩, rfl⟩; refine ⟨⟨hle9, rfl⟩, ?_⟩); have hb4 := hb4.mono hle9; have g := g.trans hle9 | (refine E_ef rfl (Ef_call (I := []) WideF.wide (k6 _ g) ⟨rfl, trivial⟩ rfl ?_); rintro v HB IB hleB ⟨⟨a8, n8, c8, rfl, r8, m8⟩, rfl⟩; refine ⟨⟨hleB, rfl⟩, ?_⟩); have hb4 := hb4.mono hleB; have g := g.trans hleB | (refine E_ef rfl (Ef_callp WideF.wide (lcommon_fn (r7.mono hleB) r8 m7 m8) ⟨rfl, rfl, trivial⟩ rfl ?_); refine ⟨Grow.same rfl rfl, ?_⟩) | (refine O_ef rfl (Ef_call (I := []) WideF.wide (q1 _) ⟨rfl, rfl, rfl, rfl, rfl, rfl, trivial⟩ rfl ?_); rintro v HA IA hleA ⟨⟨y, bb, rfl, hy⟩, rfl, rfl⟩) | (refine O_ef rfl (Ef_call (I := []) WideF.wide (q2 _) ⟨rfl, rfl, rfl, rfl, rfl, rfl, trivial⟩ rfl ?_); rintro v HA IA hleA ⟨⟨y, bb, rfl, hy⟩, rfl, rfl⟩) | (refine O_ef rfl (Ef_call (I := []) WideF.wide (q3 _) ⟨rfl, rfl, rfl, rfl, trivial⟩ rfl ?_); rintro v HA IA hleA ⟨⟨y, bb, rfl, hy⟩, rfl, rfl⟩) | (refine O_ef rfl (Ef_call (I := []) WideF.wide (q4 _) ⟨rfl, rfl, rfl, rfl, trivial⟩ rfl ?_); rintro v HA IA hleA ⟨⟨y, bb, rfl, hy⟩, rfl, rfl⟩) | (refine O_ef rfl (Ef_call (I := []) WideF.wide (q5 _) ⟨rfl, rfl, rfl, rfl, trivial⟩ rfl ?_); rintro v HA IA hleA ⟨⟨y, bb, rfl, hy⟩, rfl, rfl⟩) | (refine O_ef rfl (Ef_call (I := []) WideF.wide (q6 _) ⟨rfl, rfl, rfl, rfl, trivial⟩ rfl ?_); rintro v HA IA hleA ⟨⟨y, bb, rfl, hy⟩, rfl, rfl⟩) | refine O_nil ?_ | refine A_seq ?_ | refine A_region ?_ | refine A_skip ?_ | refine A_ret ?_ | refine A_block ?_ | (show drJ _ _ _ _ _ _ _ (.q _ _) _; refine D_q rfl ?_) | (show drJ _ _ _ _ _ _ _ (.e _ _) _; refine D_e rfl ?_) | (show drJ _ _ _ _ _ _ _ (.done _) _; refine D_done ?_; simp only [List.cons_append, List.nil_append]) | (show drQ _ _ _ _ _ _; first | (refine D_split rfl rfl (fun h => ?_) (fun h => ?_) <;> try (exfalso; omega)) | refine D_ev rfl (Ev_pure rfl) rfl rfl ?_ | (show drQ _ _ _ ⟨_, .load _ _, _, _, _, _⟩ _ _; first | refine D_ev rfl (Ev_loadB1 (i := 0) rfl rfl rfl) rfl rfl ?_ | refine D_ev rfl (Ev_loadB (i := 0) rfl rfl rfl) rfl rfl ?_ | refine D_ev rfl (Ev_loadBs (i := 0) rfl rfl rfl rfl) rfl rfl ?_) | (show drQ _ _ _ ⟨_, .fieldAddr _ _ _, _, _, _, _⟩ _ _; refine D_ev rfl (Ev_fieldAddr rfl rfl rfl) rfl rfl ?_) | refine D_skip rfl rfl rfl ?_) | (show drE _ _ _ _ _ _ _; refine E_skip rfl rfl rfl ?_) | (show opsA _ _ _ _ _ _ _; first | (refine O_split rfl rfl (fun h => ?_) (fun h => ?_) <;> try (exfalso; omega)) | refine O_ev WideF.wide rfl (Ev_pure rfl) rfl rfl ?_ | (show opsA _ _ _ _ (⟨_, .load _ _, _, _, _, _⟩ :: _) _ _; first | refine O_ev WideF.wide rfl (Ev_loadB1 (i := 1) rfl rfl rfl) rfl rfl ?_ | refine O_ev WideF.wide rfl (Ev_loadB (i := 0) rfl rfl rfl) rfl rfl ?_ | refine O_ev WideF.wide rfl (Ev_loadB (i := 1) rfl rfl rfl) rfl rfl ?_) | (show opsA _ _ _ _ (⟨_, .fieldAddr _ _ _, _, _, _, _⟩ :: _) _ _; refine O_ev WideF.wide rfl (Ev_fieldAddr rfl rfl rfl) rfl rfl ?_) | (show opsA _ _ _ _ (⟨_, .alloc _, _, _, _, _⟩ :: _) _ _; (refine O_ef rfl (Ef_alloc WideF.wide rfl ?_); intro b)) | (show opsA _ _ _ _ (⟨_, .box _ _, _, _, _, _⟩ :: _) _ _; (refine O_ef rfl (Ef_boxa WideF.wide rfl rfl ?_); intro b)) | (show opsA _ _ _ _ (⟨_, .store _ _ _, _, _, _, _⟩ :: _) _ _; refine O_f1 (O_ef rfl (Ef_store1 WideF.wide rfl rfl rfl rfl rfl ?_))) | refine O_skip WideF.wide rfl rfl rfl ?_) | (show wpA _ _ _ (.cond _ _ _) _ _ _ _; first | (refine A_if rfl (fun h => ?_) (fun h => ?_) <;> try (exfalso; omega)) | refine A_iftrue rfl ?_ | refine A_iffalse rfl ?_))
  all_goals try (exfalso; omega)
  all_goals first
    | refine End_e (RetC2 (i := 0) rfl rfl rfl rfl rfl) ⟨⟨_, s.at_, s.sub, _, rfl, ?_, (hx.mono g).at2 rfl⟩, rfl⟩
    | refine End_e (RetC2 (i := 1) rfl rfl rfl rfl rfl) ⟨⟨_, s.at_, s.sub, _, rfl, ?_, (hx.mono g).at2 rfl⟩, rfl⟩
    | refine End_e (RetC2 (i := 0) rfl rfl rfl rfl rfl) ⟨⟨_, y, s.sub, _, rfl, ?_, (hx.mono g).at2 rfl⟩, rfl⟩
    | refine End_e (RetC2 (i := 0) rfl rfl rfl rfl rfl) ⟨⟨_, s.at_, y, _, rfl, ?_, (hx.mono g).at2 rfl⟩, rfl⟩
    | trace_state
  all_goals rw [hmv]
  all_goals try have hmap := map_if hy
  all_goals first
    | (simp [*]; done)
    | (simp [*]; intro hh; exfalso; omega)
    | (simp [*]; rw [if_pos (by omega)]; exact hmap _)
    | (cases bb <;> simp_all; done)
    | (rw [if_neg (by omega), if_neg (by assumption)]; grind)
    | trace_state

end Go.Proofs.YtofkolbnhcckkaaGreat
