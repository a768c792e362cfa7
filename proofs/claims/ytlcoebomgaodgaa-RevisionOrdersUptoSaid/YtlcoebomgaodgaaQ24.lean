/-
  ByAuthor.
-/
import Derived.Test.YtlcoebomgaodgaaQ23
namespace Go.Proofs.Ytlcoebomgaodgaa
open Go
set_option linter.unusedVariables false
set_option linter.unusedSimpArgs false
attribute [local irreducible] wpA opsA drJ drQ drE Ef Ev Shift Fn
def GroupsIs (l : List Rev) (v : Value) (H : Hp) (I : Own) : Prop := (∃ a n c, ∃ ks : List (List UInt8), v = .slice a n c ∧ HRow H a n c 4 (ks.map fun k => grow k (st k l)) ∧ KeysOf ks l) ∧ I = []
abbrev byA (H : Hp) (a : Option Addr) (n cp mb i : Nat) (kvs : List (List UInt8 × Value)) : Sta := ⟨71, [(3, .map (some mb)), (12, .slice a n cp), (13, .int .i64 n), (14, .int .i64 i)], H, [.obj mb (smobj kvs)], [], []⟩
set_option maxRecDepth 100000 in
set_option maxHeartbeats 4000000 in
theorem ByAuthor_fn {H : Hp} {a : Option Addr} {n cp : Nat} {l : List Rev} (hx0 : HRow H a n cp 3 (l.map rrow)) (hn : n < 1048576) :
    Fn Try.prog 36 [.slice a n cp] H [] (GroupsIs l) := by
  have e1 : l.length = n := by have := hx0.len; simpa using this
  refine Fn_of _ _ Try.func36 rfl Try.ntmps36 rfl fun c => ?_
  repeat' (first | (refine O_ef rfl (Ef_makeMapT WideF.wide rfl ?_); intro mb) | refine O_nil ?_ | refine A_seq ?_ | refine A_region ?_ | refine A_block ?_ | (show opsA _ _ _ _ _ _ _; first | refine O_ev WideF.wide rfl (Ev_pure rfl) rfl rfl ?_ | (show opsA _ _ _ _ (⟨_, .call _, _, _, _, _⟩ :: _) _ _; refine O_ev WideF.wide rfl (Ev_llen rfl) rfl rfl ?_)))
  refine A_loopu (fun m s => ∃ (H1 : Hp) (i : Nat) (kvs : List (List UInt8 × Value)), m = n - i ∧ i ≤ n ∧ HLe H H1 ∧ GrpsOk kvs (l.take i) ∧ s = byA H1 a n cp mb i kvs) ?_ ?_
  · exact Shift.to ⟨_, H, 0, [], rfl, by omega, HLe.refl _, GrpsOk.nil, rfl⟩ ⟨rfl, rfl, rfl, ⟨rfl, rfl, rfl, rfl, trivial⟩, Own.subi [0] (by decide) rfl rfl⟩
  rintro m s ⟨H1, i, kvs, rfl, hi, hle1, hg, rfl⟩
  have hx := hx0.mono hle1
  by_cases hlt : i < n
  · obtain ⟨b, o, x, rfl, hxi, hc⟩ := hx.atm i hlt
    have hsn : l.take (i + 1) = l.take i ++ [x] := take_get hxi
    have hst := hg.step x
    rw [← hsn] at hst
    have hone : ∀ u ∈ [.int .i64 x.id, sv x.author, .int .i64 x.time], Value.oneCell' u = true := fun u hu => rrow_one [x] (rrow x) (by simp) u hu
    unfold rrow at hc
    have hnn := st_n x.author (l.take i)
    have hln : (l.take i).length = i := by rw [List.length_take]; omega
    by_cases hs : shas kvs x.author
    · have hget := hg.get (z := .agg #[.string ⟨#[]⟩, .int .i64 0, .int .i64 0, .int .i64 0]) hs
      have hnz : (st x.author (l.take i)).n ≠ 0 := hnn.2.2.2 ((hg.has _).1 hs)
      have hnew : grow x.author (st x.author (l.take (i + 1))) = [sv x.author, .int .i64 ((st x.author (l.take i)).n + 1), .int .i64 (if x.time < (st x.author (l.take i)).f then x.time else (st x.author (l.take i)).f), .int .i64 (if (st x.author (l.take i)).t < x.time then x.time else (st x.author (l.take i)).t)] := by
        rw [hsn, st_snoc, stp, if_pos rfl, if_neg hnz]; rfl
      rw [hnew] at hst
      unfold grow at hget
      repeat' (first | (refine O_ev WideF.wide rfl (Ev_loadH rfl hc rfl) rfl rfl ?_) | (refine O_ef rfl (Ef_storew (vs := [.int .i64 x.id, sv x.author, .int .i64 x.time]) WideF.wide rfl rfl rfl rfl rfl ?_); refine O_freezeBox hone ?_; intro H2 hle2 hc) | (refine O_ev WideF.wide rfl (Ev_lookG (i := 0) Try.zeroValue66 hget (decide_eq_true hs) rfl rfl rfl) rfl rfl ?_) | (refine A_drawM WideF.wide (.q 0 (.q 2 (.q 3 (.q 5 (.q 7 (.q 8 (.f 1 (.q 4 (.e 6 (.q 9 (.q 10 (.e 11 (.q 12 (.e 13 (.done [])))))))) 6 (.q 9 (.e 1 (.q 4 (.q 10 (.e 11 (.q 12 (.e 13 (.done []))))))))))))))) [] (by decide +kernel) ?_) | (refine E_ef rfl (Ef_ev WideF.wide (Ev_loadB1 (i := 0) rfl rfl rfl) rfl rfl ?_); refine ⟨Grow.same rfl rfl, ?_⟩) | (refine D_ev rfl (Ev_mini rfl rfl) rfl rfl ?_) | (refine O_f1 (O_ef rfl (Ef_mapPutT WideF.wide rfl rfl rfl ?_))) | refine O_nil ?_ | refine A_seq ?_ | refine A_region ?_ | refine A_skip ?_ | refine A_block ?_ | (show drJ _ _ _ _ _ _ _ (.q _ _) _; refine D_q rfl ?_) | (show drJ _ _ _ _ _ _ _ (.e _ _) _; refine D_e rfl ?_) | (show drJ _ _ _ _ _ _ _ (.f _ _ _ _) _; refine D_f rfl rfl ?_ ?_) | (show drJ _ _ _ _ _ _ _ (.done _) _; refine D_done ?_; simp only [List.cons_append, List.nil_append]) | (show drQ _ _ _ _ _ _; first | (show drQ _ _ _ ⟨_, .load _ _, _, _, _, _⟩ _ _; refine D_ev rfl (Ev_loadH1 rfl (hc 2 _ rfl)) rfl rfl ?_) | (show drQ _ _ _ ⟨_, .fieldAddr _ _ _, _, _, _, _⟩ _ _; refine D_ev rfl (Ev_fieldAddr rfl rfl rfl) rfl rfl ?_) | (show drQ _ _ _ ⟨_, .call _, _, _, _, _⟩ _ _; refine D_ev rfl (Ev_maxi rfl rfl) rfl rfl ?_)) | (show drE _ _ _ _ _ _ _; (show drE _ _ _ _ ⟨_, .store _ _ _, _, _, _, _⟩ _ _; (refine E_ef rfl (Ef_store1 WideF.wide rfl rfl rfl rfl rfl ?_); refine ⟨Grow.same rfl rfl, ?_⟩))) | (show opsA _ _ _ _ _ _ _; first | refine O_ev WideF.wide rfl (Ev_pure rfl) rfl rfl ?_ | (show opsA _ _ _ _ (⟨_, .load _ _, _, _, _, _⟩ :: _) _ _; first | refine O_ev WideF.wide rfl (Ev_loadB1 (i := 0) rfl rfl rfl) rfl rfl ?_ | refine O_ev WideF.wide rfl (Ev_loadB (i := 0) rfl rfl rfl) rfl rfl ?_ | refine O_ev WideF.wide rfl (Ev_loadH1 rfl (hc 1 _ rfl)) rfl rfl ?_) | (show opsA _ _ _ _ (⟨_, .indexAddr _ _ _, _, _, _, _⟩ :: _) _ _; refine O_ev WideF.wide rfl (Ev_indexAddr rfl rfl (by omega) (by omega)) rfl rfl ?_) | (show opsA _ _ _ _ (⟨_, .fieldAddr _ _ _, _, _, _, _⟩ :: _) _ _; refine O_ev WideF.wide rfl (Ev_fieldAddr rfl rfl rfl) rfl rfl ?_) | (show opsA _ _ _ _ (⟨_, .binOp _ _ _ _ _, _, _, _, _⟩ :: _) _ _; refine O_ev WideF.wide rfl (Ev_add rfl rfl (wi64 (by omega))) rfl rfl ?_) | (show opsA _ _ _ _ (⟨_, .unOp _ _ _, _, _, _, _⟩ :: _) _ _; refine O_ev WideF.wide rfl (Ev_notb rfl) rfl rfl ?_) | (show opsA _ _ _ _ (⟨_, .alloc _, _, _, _, _⟩ :: _) _ _; (refine O_ef rfl (Ef_alloc WideF.wide rfl ?_); intro b)) | (show opsA _ _ _ _ (⟨_, .store _ _ _, _, _, _, _⟩ :: _) _ _; first | refine O_ef rfl (Ef_storew WideF.wide rfl rfl rfl rfl rfl ?_) | refine O_ef rfl (Ef_store1 WideF.wide rfl rfl rfl rfl rfl ?_))) | (show wpA _ _ _ (.cond _ _ _) _ _ _ _; first | (refine A_if rfl (fun h => ?_) (fun h => ?_) <;> try (exfalso; omega)) | refine A_iffalse rfl ?_))
      all_goals exact Shift.to ⟨_, by omega, _, i + 1, _, rfl, by omega, hle1.trans hle2, hst, rfl⟩ ⟨rfl, rfl, rfl, ⟨rfl, rfl, rfl, rfl, trivial⟩, Own.subi [0] (by decide) rfl rfl⟩
    · have hget : sget (.agg #[.string ⟨#[]⟩, .int .i64 0, .int .i64 0, .int .i64 0]) kvs x.author = _ := sget_no hs
      have hz : (st x.author (l.take i)).n = 0 := by
        apply Classical.byContradiction
        exact fun h => hs ((hg.has _).2 (hnn.2.2.1 h))
      have hnew : grow x.author (st x.author (l.take (i + 1))) = [sv x.author, .int .i64 1, .int .i64 (if x.time < x.time then x.time else x.time), .int .i64 (if x.time < x.time then x.time else x.time)] := by
        rw [hsn, st_snoc, stp, if_pos rfl, if_pos hz, if_neg (by omega)]; rfl
      rw [hnew] at hst
      repeat' (first | (refine O_ev WideF.wide rfl (Ev_loadH rfl hc rfl) rfl rfl ?_) | (refine O_ef rfl (Ef_storew (vs := [.int .i64 x.id, sv x.author, .int .i64 x.time]) WideF.wide rfl rfl rfl rfl rfl ?_); refine O_freezeBox hone ?_; intro H2 hle2 hc) | (refine O_ev WideF.wide rfl (Ev_lookG (i := 0) Try.zeroValue66 hget (decide_eq_false hs) rfl rfl rfl) rfl rfl ?_) | (refine A_drawM WideF.wide (.q 0 (.q 2 (.q 3 (.q 5 (.q 7 (.q 8 (.f 1 (.q 4 (.e 6 (.q 9 (.q 10 (.e 11 (.q 12 (.e 13 (.done [])))))))) 6 (.q 9 (.e 1 (.q 4 (.q 10 (.e 11 (.q 12 (.e 13 (.done []))))))))))))))) [] (by decide +kernel) ?_) | (refine E_ef rfl (Ef_ev WideF.wide (Ev_loadB1 (i := 0) rfl rfl rfl) rfl rfl ?_); refine ⟨Grow.same rfl rfl, ?_⟩) | (refine D_ev rfl (Ev_mini rfl rfl) rfl rfl ?_) | (refine O_f1 (O_ef rfl (Ef_mapPutT WideF.wide rfl rfl rfl ?_))) | refine O_nil ?_ | refine A_seq ?_ | refine A_region ?_ | refine A_skip ?_ | refine A_block ?_ | (show drJ _ _ _ _ _ _ _ (.q _ _) _; refine D_q rfl ?_) | (show drJ _ _ _ _ _ _ _ (.e _ _) _; refine D_e rfl ?_) | (show drJ _ _ _ _ _ _ _ (.f _ _ _ _) _; refine D_f rfl rfl ?_ ?_) | (show drJ _ _ _ _ _ _ _ (.done _) _; refine D_done ?_; simp only [List.cons_append, List.nil_append]) | (show drQ _ _ _ _ _ _; first | (show drQ _ _ _ ⟨_, .load _ _, _, _, _, _⟩ _ _; refine D_ev rfl (Ev_loadH1 rfl (hc 2 _ rfl)) rfl rfl ?_) | (show drQ _ _ _ ⟨_, .fieldAddr _ _ _, _, _, _, _⟩ _ _; refine D_ev rfl (Ev_fieldAddr rfl rfl rfl) rfl rfl ?_) | (show drQ _ _ _ ⟨_, .call _, _, _, _, _⟩ _ _; refine D_ev rfl (Ev_maxi rfl rfl) rfl rfl ?_)) | (show drE _ _ _ _ _ _ _; (show drE _ _ _ _ ⟨_, .store _ _ _, _, _, _, _⟩ _ _; (refine E_ef rfl (Ef_store1 WideF.wide rfl rfl rfl rfl rfl ?_); refine ⟨Grow.same rfl rfl, ?_⟩))) | (show opsA _ _ _ _ _ _ _; first | refine O_ev WideF.wide rfl (Ev_pure rfl) rfl rfl ?_ | (show opsA _ _ _ _ (⟨_, .load _ _, _, _, _, _⟩ :: _) _ _; first | refine O_ev WideF.wide rfl (Ev_loadB1 (i := 0) rfl rfl rfl) rfl rfl ?_ | refine O_ev WideF.wide rfl (Ev_loadB (i := 0) rfl rfl rfl) rfl rfl ?_ | refine O_ev WideF.wide rfl (Ev_loadH1 rfl (hc 1 _ rfl)) rfl rfl ?_ | refine O_ev WideF.wide rfl (Ev_loadH1 rfl (hc 2 _ rfl)) rfl rfl ?_) | (show opsA _ _ _ _ (⟨_, .indexAddr _ _ _, _, _, _, _⟩ :: _) _ _; refine O_ev WideF.wide rfl (Ev_indexAddr rfl rfl (by omega) (by omega)) rfl rfl ?_) | (show opsA _ _ _ _ (⟨_, .fieldAddr _ _ _, _, _, _, _⟩ :: _) _ _; refine O_ev WideF.wide rfl (Ev_fieldAddr rfl rfl rfl) rfl rfl ?_) | (show opsA _ _ _ _ (⟨_, .binOp _ _ _ _ _, _, _, _, _⟩ :: _) _ _; refine O_ev WideF.wide rfl (Ev_add rfl rfl (wi64 (by omega))) rfl rfl ?_) | (show opsA _ _ _ _ (⟨_, .unOp _ _ _, _, _, _, _⟩ :: _) _ _; refine O_ev WideF.wide rfl (Ev_notb rfl) rfl rfl ?_) | (show opsA _ _ _ _ (⟨_, .build _ _, _, _, _, _⟩ :: _) _ _; refine O_ev WideF.wide rfl (Ev_build (vs := [(_, _), (_, _), (_, _)]) ⟨rfl, rfl, rfl, rfl, rfl, rfl, trivial⟩ rfl) rfl rfl ?_) | (show opsA _ _ _ _ (⟨_, .alloc _, _, _, _, _⟩ :: _) _ _; (refine O_ef rfl (Ef_alloc WideF.wide rfl ?_); intro b)) | (show opsA _ _ _ _ (⟨_, .store _ _ _, _, _, _, _⟩ :: _) _ _; first | refine O_ef rfl (Ef_storew WideF.wide rfl rfl rfl rfl rfl ?_) | refine O_ef rfl (Ef_store1 WideF.wide rfl rfl rfl rfl rfl ?_))) | (show wpA _ _ _ (.cond _ _ _) _ _ _ _; first | (refine A_if rfl (fun h => ?_) (fun h => ?_) <;> try (exfalso; omega)) | refine A_iftrue rfl ?_))
      all_goals exact Shift.to ⟨_, by omega, _, i + 1, _, rfl, by omega, hle1.trans hle2, hst, rfl⟩ ⟨rfl, rfl, rfl, ⟨rfl, rfl, rfl, rfl, trivial⟩, Own.subi [0] (by decide) rfl rfl⟩
  · obtain rfl : n = i := by omega
    rw [List.take_of_length_le (by omega)] at hg
    have hkl := hg.len
    have hso := fun (Hx : Hp) bi (hb : Hx bi 0 = some (.map (some mb))) => SortedS_fn (kvs := kvs) hb (by omega)
    simp only [← smobj_emap] at hso
    repeat' (first | (refine O_ef rfl (Ef_call (I := []) WideF.wide Keys_fn ⟨rfl, trivial⟩ rfl ?_); rintro v H2 I2 hle2 ⟨⟨bi, rfl, hb⟩, rfl⟩) | (refine O_ef rfl (Ef_call (I := [_]) WideF.wide (hso _ _ hb) ⟨rfl, trivial⟩ rfl ?_); rintro v H3 I3 hle3 ⟨ka, kn, kc, ks, rfl, hks, hkr, rfl⟩) | refine O_nil ?_ | refine A_seq ?_ | refine A_region ?_ | refine A_block ?_ | (show opsA _ _ _ _ _ _ _; first | refine O_ev WideF.wide rfl (Ev_pure rfl) rfl rfl ?_ | (show opsA _ _ _ _ (⟨_, .call _, _, _, _, _⟩ :: _) _ _; refine O_ev WideF.wide rfl (Ev_llen rfl) rfl rfl ?_)) | (show wpA _ _ _ (.exit _) _ _ _ _; refine A_exit rfl ?_) | (show wpA _ _ _ (.cond _ _ _) _ _ _ _; (refine A_if rfl (fun h => ?_) (fun h => ?_) <;> try (exfalso; omega))))
    have hK := KeysOf.of hg hks
    generalize srtS ks = kk at hK hkr
    have e2 : kk.length = kn := by have := hkr.len; simpa using this
    have e3 := hK.len
    refine A_nilrow 4 ?_
    refine A_loopu (fun m s => ∃ (i : Nat) (oa : Option Addr) (on oc : Nat) (p : List (List Value)), m = kn - i ∧ i ≤ kn ∧ p.length = on ∧ on = i ∧ p = (kk.take i).map (fun k => grow k (st k l)) ∧ s = ⟨71, [(3, .map (some mb)), (8, .slice oa on oc), (57, .slice ka kn kc), (58, .int .i64 kn), (59, .int .i64 i)], H3, [.row (.slice oa on oc) 4 p, .obj mb (smobj kvs)], [], []⟩) ?_ ?_
    · exact Shift.to ⟨_, 0, none, 0, 0, [], rfl, by omega, rfl, rfl, rfl, rfl⟩ ⟨rfl, rfl, rfl, ⟨rfl, rfl, rfl, rfl, rfl, trivial⟩, Own.subi [0, 1] (by decide) rfl rfl⟩
    rintro m s ⟨i, oa, on, oc, p, rfl, hi, hpn, rfl, hp, rfl⟩
    by_cases hlt : on < kn
    · obtain ⟨b, o, k, rfl, hki, hc⟩ := hkr.atm on hlt
      have hsk : kk.take (on + 1) = kk.take on ++ [k] := take_get hki
      have hget := hg.get (z := .agg #[.string ⟨#[]⟩, .int .i64 0, .int .i64 0, .int .i64 0]) ((hg.has k).2 ((hK.mem k).1 (List.mem_of_getElem? hki)))
      have hsn2 : p ++ [grow k (st k l)] = (kk.take (on + 1)).map (fun k => grow k (st k l)) := by rw [hp, hsk]; simp
      unfold srow at hc
      unfold grow at hget hsn2
      repeat' (first | (refine O_ev WideF.wide rfl (Ev_lookG0 (i := 1) Try.zeroValue66 hget rfl rfl rfl) rfl rfl ?_) | refine O_nil ?_ | refine A_seq ?_ | refine A_region ?_ | refine A_skip ?_ | refine A_block ?_ | (show opsA _ _ _ _ _ _ _; first | refine O_ev WideF.wide rfl (Ev_pure rfl) rfl rfl ?_ | (show opsA _ _ _ _ (⟨_, .load _ _, _, _, _, _⟩ :: _) _ _; refine O_ev WideF.wide rfl (Ev_loadH1 rfl (hc 0 _ rfl)) rfl rfl ?_) | (show opsA _ _ _ _ (⟨_, .indexAddr _ _ _, _, _, _, _⟩ :: _) _ _; refine O_ev WideF.wide rfl (Ev_indexAddr rfl rfl (by omega) (by omega)) rfl rfl ?_) | (show opsA _ _ _ _ (⟨_, .call _, _, _, _, _⟩ :: _) _ _; (refine O_f1 (O_ef rfl (Ef_appendR WideF.wide rfl rfl rfl rfl rfl (by simp; omega) (by simp; omega) rfl ?_)); intro a cp)) | (show opsA _ _ _ _ (⟨_, .buildSlice _ _ _, _, _, _, _⟩ :: _) _ _; (refine O_ef rfl (Ef_build1a WideF.wide rfl rfl rfl rfl rfl ?_); intro b)) | (show opsA _ _ _ _ (⟨_, .binOp _ _ _ _ _, _, _, _, _⟩ :: _) _ _; refine O_ev WideF.wide rfl (Ev_add rfl rfl (wi64 (by omega))) rfl rfl ?_)) | (show wpA _ _ _ (.cond _ _ _) _ _ _ _; (refine A_if rfl (fun h => ?_) (fun h => ?_) <;> try (exfalso; omega))))
      all_goals exact Shift.to ⟨_, by omega, on + 1, _, _, _, _, rfl, by omega, rfl, by simp; omega, hsn2, rfl⟩ ⟨rfl, rfl, rfl, ⟨rfl, rfl, rfl, rfl, rfl, trivial⟩, Own.subi [0, 1] (by decide) rfl rfl⟩
    · obtain rfl : on = kn := by omega
      rw [List.take_of_length_le (by omega)] at hp
      repeat' (first | refine O_nil ?_ | refine A_seq ?_ | refine A_region ?_ | refine A_ret ?_ | (show opsA _ _ _ _ _ _ _; refine O_ev WideF.wide rfl (Ev_pure rfl) rfl rfl ?_) | (show wpA _ _ _ (.exit _) _ _ _ _; refine A_exit rfl ?_) | (show wpA _ _ _ (.cond _ _ _) _ _ _ _; (refine A_if rfl (fun h => ?_) (fun h => ?_) <;> try (exfalso; omega))))
      subst hp
      exact End_row (Ret1 rfl rfl) (grow_one l kk) fun H' hle hr => ⟨⟨_, _, _, kk, rfl, hr, hK⟩, rfl⟩
end Go.Proofs.Ytlcoebomgaodgaa
