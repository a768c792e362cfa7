import Derived.Test.YtnoadopmeoohmaaGreatDoorZ38
/-
  The law Returns: Same on equal expressions; every Parse; the law.
-/
namespace Go.Proofs.YtnoadopmeoohmaaGreatDoor
open Go
set_option linter.unusedVariables false
set_option linter.unusedSimpArgs false
def SameN (H : Hp) (y : Nd) : Prop := ∀ (H' : Hp) (cs cs' : List Value), HLe H H' → NodeH H' cs y → NodeH H' cs' y → Fn Tryz.prog 31 [.agg cs.toArray, .agg cs'.toArray] H' [] fun v _ I => v = .bool true ∧ I = []
attribute [local irreducible] wpA opsA drJ drQ drE Ef Ev Shift Fn
set_option maxRecDepth 100000 in
set_option maxHeartbeats 4000000 in
theorem EqualFunc_fn {H : Hp} {a a2 : Option Addr} {n cp cp2 : Nat} {l : List Nd} (hs : NodesS H a n cp l) (hs2 : NodesS H a2 n cp2 l) (hn : n < 4611686018427387904) (hall : ∀ y ∈ l, SameN H y) :
    Fn Tryz.prog 65 [.slice a n cp, .slice a2 n cp2, .func (.func 31) [].toArray [].toArray] H [] fun v _ I => v = .bool true ∧ I = [] := by
  refine Fn_of _ _ Tryz.func65 rfl Tryz.ntmps65 rfl fun c => ?_
  repeat' (first | refine O_nil ?_ | refine A_seq ?_ | refine A_region ?_ | refine A_skip ?_ | refine A_block ?_ | (show opsA _ _ _ _ _ _ _; first | refine O_ev WideF.wide rfl (Ev_pure rfl) rfl rfl ?_ | (show opsA _ _ _ _ (⟨_, .call _, _, _, _, _⟩ :: _) _ _; refine O_ev WideF.wide rfl (Ev_llen rfl) rfl rfl ?_)) | (show wpA _ _ _ (.cond _ _ _) _ _ _ _; (refine A_if rfl (fun h => ?_) (fun h => ?_) <;> try (exfalso; omega))))
  all_goals try (exfalso; first | contradiction | exact absurd trivial (by assumption) | exact absurd rfl (by assumption))
  refine A_loopu (fun q st => ∃ (i : Nat) (Hq : Hp), q = n - i ∧ i ≤ n ∧ HLe H Hq ∧ st = ⟨32, [(1, .slice a2 n cp2), (2, .func (.func 31) [].toArray [].toArray), (15, .slice a n cp), (16, .int .i64 n), (17, .int .i64 i)], Hq, [], [], []⟩) ?_ ?_
  · exact Shift.to ⟨_, 0, _, rfl, by omega, HLe.refl _, rfl⟩ ⟨rfl, rfl, rfl, ⟨rfl, rfl, rfl, rfl, rfl, trivial⟩, Own.sub_nil _⟩
  rintro q st ⟨i, Hq, rfl, hi, hle, rfl⟩
  by_cases hlt : i < n
  · obtain ⟨bb, bo, rcs, y, rfl, hy, hyc, hyk, hc⟩ := (NodesS.mono hle hs).at i hlt
    obtain ⟨bb2, bo2, rcs2, y2, rfl, hy2, hyc2, hyk2, hc2⟩ := (NodesS.mono hle hs2).at i hlt
    obtain rfl : y = y2 := by rw [hy] at hy2; exact Option.some.inj hy2
    have hcall := hall y (List.mem_of_getElem? hy) Hq _ _ hle hyc hyc2
    obtain ⟨ya, yn, yc, rfl, -⟩ := hyc.cells
    obtain ⟨ya2, yn2, yc2, rfl, -⟩ := hyc2.cells
    repeat' (first | (refine O_ev WideF.wide rfl (Ev_loadH rfl hc rfl) rfl rfl ?_) | (refine O_ev WideF.wide rfl (Ev_loadH rfl hc2 rfl) rfl rfl ?_) | (refine O_ef rfl (Ef_callv (I := []) WideF.wide hcall rfl ⟨rfl, rfl, trivial⟩ rfl ?_); rintro v H3 I3 hle3 ⟨rfl, rfl⟩) | refine O_nil ?_ | refine A_seq ?_ | refine A_region ?_ | refine A_skip ?_ | refine A_block ?_ | (show opsA _ _ _ _ _ _ _; first | refine O_ev WideF.wide rfl (Ev_pure rfl) rfl rfl ?_ | (show opsA _ _ _ _ (⟨_, .load _ _, _, _, _, _⟩ :: _) _ _; first | refine O_ev WideF.wide rfl (Ev_loadB (i := 0) rfl rfl rfl) rfl rfl ?_ | refine O_ev WideF.wide rfl (Ev_loadB (i := 1) rfl rfl rfl) rfl rfl ?_) | (show opsA _ _ _ _ (⟨_, .indexAddr _ _ _, _, _, _, _⟩ :: _) _ _; refine O_ev WideF.wide rfl (Ev_indexAddr rfl rfl (by omega) (by omega)) rfl rfl ?_) | (show opsA _ _ _ _ (⟨_, .binOp _ _ _ _ _, _, _, _, _⟩ :: _) _ _; refine O_ev WideF.wide rfl (Ev_add rfl rfl (wi64 (by omega))) rfl rfl ?_) | (show opsA _ _ _ _ (⟨_, .unOp _ _ _, _, _, _, _⟩ :: _) _ _; refine O_ev WideF.wide rfl (Ev_notb rfl) rfl rfl ?_) | (show opsA _ _ _ _ (⟨_, .alloc _, _, _, _, _⟩ :: _) _ _; (refine O_ef rfl (Ef_alloc WideF.wide rfl ?_); intro b)) | (show opsA _ _ _ _ (⟨_, .store _ _ _, _, _, _, _⟩ :: _) _ _; refine O_ef rfl (Ef_storew WideF.wide rfl rfl rfl rfl rfl ?_))) | (show wpA _ _ _ (.cond _ _ _) _ _ _ _; first | (refine A_if rfl (fun h => ?_) (fun h => ?_) <;> try (exfalso; omega)) | refine A_iffalse rfl ?_))
    all_goals first
      | (exfalso; omega)
      | (exfalso; contradiction)
      | (exfalso; exact absurd trivial (by assumption))
      | (exfalso; exact absurd rfl (by assumption))
      | exact Shift.to ⟨_, by omega, i + 1, _, rfl, by omega, hle.trans hle3, rfl⟩ ⟨rfl, rfl, rfl, ⟨rfl, rfl, rfl, rfl, rfl, trivial⟩, Own.sub_nil _⟩
      | trace_state
  · obtain rfl : i = n := by omega
    repeat' (first | refine O_nil ?_ | refine A_seq ?_ | refine A_region ?_ | refine A_ret ?_ | (show opsA _ _ _ _ _ _ _; refine O_ev WideF.wide rfl (Ev_pure rfl) rfl rfl ?_) | (show wpA _ _ _ (.exit _) _ _ _ _; refine A_exit rfl ?_) | (show wpA _ _ _ (.cond _ _ _) _ _ _ _; (refine A_if rfl (fun h => ?_) (fun h => ?_) <;> try (exfalso; omega))))
    all_goals first
      | (exfalso; omega)
      | (exfalso; contradiction)
      | (exfalso; exact absurd trivial (by assumption))
      | (exfalso; exact absurd rfl (by assumption))
      | exact End_e (Ret1 rfl rfl) ⟨rfl, rfl⟩
      | trace_state
set_option maxRecDepth 100000 in
set_option maxHeartbeats 4000000 in
theorem Same_all : ∀ (N : Nat) (H : Hp) (x : Nd), x.mass < N → x.mass < 4611686018427387904 → SameN H x
  | 0, _, _, h, _ => absurd h (by omega)
  | N + 1, H, x, hm, hm2 => fun H' cs cs' hle hx hx' => by
    obtain ⟨a, n, cp, rfl, hs⟩ := hx.cells
    obtain ⟨a2, n2, cp2, rfl, hs2⟩ := hx'.cells
    have e1 := hs.len
    have e2 := hs2.len
    obtain rfl : n = n2 := by omega
    have e3 := massN_len x.args
    have e4 := x.mass_eq
    have kE := EqualFunc_fn hs hs2 (by omega) fun y hy => by
      obtain ⟨i, hi⟩ := List.mem_iff_getElem?.1 hy
      have := massN_get hi
      exact Same_all N H' y (by omega) (by omega)
    refine Fn_of _ _ Tryz.func31 rfl Tryz.ntmps31 rfl fun c => ?_
    repeat' (first | (refine O_ef rfl (Ef_boxa WideF.wide (cs := ncs _ _ _ _) rfl rfl ?_); intro bx) | (refine O_ef rfl (Ef_call (I := []) WideF.wide kE ⟨rfl, rfl, rfl, trivial⟩ rfl ?_); rintro v H3 I3 hle3 ⟨rfl, rfl⟩) | refine O_nil ?_ | refine A_seq ?_ | refine A_region ?_ | refine A_ret ?_ | (show opsA _ _ _ _ _ _ _; first | (refine O_split rfl rfl (fun h => ?_) (fun h => ?_) <;> try (exfalso; omega)) | refine O_ev WideF.wide rfl (Ev_pure rfl) rfl rfl ?_ | (show opsA _ _ _ _ (⟨_, .load _ _, _, _, _, _⟩ :: _) _ _; first | refine O_ev WideF.wide rfl (Ev_loadB1 (i := 0) rfl rfl rfl) rfl rfl ?_ | refine O_ev WideF.wide rfl (Ev_loadB1 (i := 1) rfl rfl rfl) rfl rfl ?_) | (show opsA _ _ _ _ (⟨_, .fieldAddr _ _ _, _, _, _, _⟩ :: _) _ _; refine O_ev WideF.wide rfl (Ev_fieldAddr rfl rfl rfl) rfl rfl ?_) | (show opsA _ _ _ _ (⟨_, .binOp _ _ _ _ _, _, _, _, _⟩ :: _) _ _; refine O_ev WideF.wide rfl (Ev_seql rfl rfl) rfl rfl ?_) | refine O_skip WideF.wide rfl rfl rfl ?_))
    all_goals first
      | (exfalso; omega)
      | (exfalso; contradiction)
      | (exfalso; exact absurd trivial (by assumption))
      | (exfalso; exact absurd rfl (by assumption))
      | exact End_e (Ret1 rfl rfl) ⟨rfl, rfl⟩
      | trace_state
/-- Parse gives an error, or an expression that is checked -/
theorem Parse_cases {s : List UInt8} (hl : s.length ≤ 1100) : (∀ H, VarsH H → Fn Tryz.prog 16 [sv s] H [] PErr) ∨
    ∃ nd t', valid s ∧ s.length ≤ 1024 ∧ prs s 1000000 1 (scn s 0) = .ok nd t' ∧ t'.kind = [46] ∧ chkE nd = 0 ∧ nd.mass ≤ 2048 := by
  by_cases h1 : 1024 < s.length
  · exact .inl fun H _ => Parse_long h1 (by omega)
  by_cases hv : valid s
  · have g := prs_fuel (s := s) (k := 1000000) (by omega) (by decide)
    cases hp : prs s 1000000 1 (scn s 0) with
    | no => rw [hp] at g; exact g.elim
    | err e p => exact .inl fun H hV => Parse_bad1 hv (by omega) hV (Nat.le_refl _) hp
    | ok nd t' =>
      have hm := prs_mass (by omega) hp
      by_cases hd : t'.kind = [46]
      · by_cases hc : chkE nd = 0
        · exact .inr ⟨nd, t', hv, by omega, rfl, hd, hc, hm⟩
        · exact .inl fun H hV => Parse_chk hv (by omega) hV (Nat.le_refl _) hp hd hc (by omega)
      · exact .inl fun H hV => Parse_bad2 hv (by omega) hV (Nat.le_refl _) hp hd
  · exact .inl fun H _ => Parse_inval (by omega) hv
def cutS (s : List UInt8) : List UInt8 := s.take (if (1100 : Int) < s.length then (1100 : Int) else s.length).toNat
theorem cutS_len (s : List UInt8) : (cutS s).length ≤ 1100 := by
  unfold cutS
  rw [List.length_take]
  split <;> omega
set_option maxRecDepth 100000 in
set_option maxHeartbeats 4000000 in
theorem Returns_err {H : Hp} {s : List UInt8} (hV : VarsH H) (hp : ∀ H, VarsH H → Fn Tryz.prog 16 [sv (cutS s)] H [] PErr) :
    Fn Tryz.prog 10 [sv s] H [] fun v _ I => v = .bool true ∧ I = [] := by
  have kP := hp H hV
  have kk := fun Hx (hx : HLe H Hx) => known_fn (H := Hx) (hV.mono hx)
  unfold cutS at kP
  refine Fn_of _ _ Tryz.func10 rfl Tryz.ntmps10 rfl fun c => ?_
  repeat' (first | (refine O_ev WideF.wide rfl (Ev_mini rfl rfl) rfl rfl ?_) | (refine O_ev WideF.wide rfl (Ev_ssliceh rfl rfl (by split <;> omega) (by split <;> omega)) rfl rfl ?_) | (refine O_ef rfl (Ef_call (I := []) WideF.wide kP ⟨rfl, trivial⟩ rfl ?_); rintro v1 H1 I1 hle1 ⟨⟨x1, er, her, rfl⟩, rfl⟩) | (show opsA _ _ _ _ (⟨some 24, .call _, _, _, _, _⟩ :: _) _ _; refine O_ef rfl (Ef_call (I := []) WideF.wide (kk _ hle1) trivial rfl ?_); rintro v2 H2 I2 hle2 ⟨rfl, rfl⟩) | (show opsA _ _ _ _ (⟨some 30, .call _, _, _, _, _⟩ :: _) _ _; refine O_ef rfl (Ef_call (I := []) WideF.wide (kk _ (hle1.trans hle2)) trivial rfl ?_); rintro v3 H3 I3 hle3 ⟨rfl, rfl⟩) | refine O_nil ?_ | refine A_seq ?_ | refine A_region ?_ | refine A_ret ?_ | (show opsA _ _ _ _ _ _ _; first | refine O_ev WideF.wide rfl (Ev_pure rfl) rfl rfl ?_ | (show opsA _ _ _ _ (⟨_, .call _, _, _, _, _⟩ :: _) _ _; refine O_ev WideF.wide rfl (Ev_slen rfl) rfl rfl ?_) | (show opsA _ _ _ _ (⟨_, .unOp _ _ _, _, _, _, _⟩ :: _) _ _; refine O_ev WideF.wide rfl (Ev_notb rfl) rfl rfl ?_) | (show opsA _ _ _ _ (⟨_, .alloc _, _, _, _, _⟩ :: _) _ _; (refine O_ef rfl (Ef_alloc WideF.wide rfl ?_); intro b)) | (show opsA _ _ _ _ (⟨_, .store _ _ _, _, _, _, _⟩ :: _) _ _; refine O_ef rfl (Ef_storew WideF.wide rfl rfl rfl rfl rfl ?_))) | (show wpA _ _ _ (.cond _ _ _) _ _ _ _; (refine A_if rfl (fun h => ?_) (fun h => ?_) <;> try (exfalso; omega))))
  all_goals first
    | (exfalso; omega)
    | (exfalso; contradiction)
    | (exfalso; exact absurd trivial (by assumption))
    | (exfalso; exact absurd rfl (by assumption))
    | exact End_e (Ret1 rfl rfl) ⟨rfl, rfl⟩
    | trace_state
set_option maxRecDepth 100000 in
set_option maxHeartbeats 8000000 in
theorem Returns_ok {H : Hp} {s : List UInt8} {nd : Nd} {t' : Tok} (hV : VarsH H) (hv : valid (cutS s)) (hls : (cutS s).length ≤ 1024) (hp : prs (cutS s) 1000000 1 (scn (cutS s) 0) = .ok nd t') (hd : t'.kind = [46]) (hc : chkE nd = 0) (hm : nd.mass ≤ 2048) :
    Fn Tryz.prog 10 [sv s] H [] fun v _ I => v = .bool true ∧ I = [] := by
  have kP := Parse_ok hv hls hV (Nat.le_refl _) hp hd hc (by omega)
  have kk := fun Hx (hx : HLe H Hx) => known_fn (H := Hx) (hV.mono hx)
  have kT := fun Hx (hx : HLe H Hx) a n cp (hs : NodesS Hx a n cp nd.args) => Print_fn (NodeH.of hs) (by omega) (hV.mono hx)
  unfold cutS at kP
  by_cases hlong : 1024 < (wr nd 0).length
  · have ep : prT nd = ([], 10) := by unfold prT; rw [if_neg (by rw [hc]; decide), if_pos hlong]
    rw [ep] at kT
    refine Fn_of _ _ Tryz.func10 rfl Tryz.ntmps10 rfl fun c => ?_
    repeat' (first | (refine O_ev WideF.wide rfl (Ev_mini rfl rfl) rfl rfl ?_) | (refine O_ev WideF.wide rfl (Ev_ssliceh rfl rfl (by split <;> omega) (by split <;> omega)) rfl rfl ?_) | (refine O_ef rfl (Ef_call (I := []) WideF.wide kP ⟨rfl, trivial⟩ rfl ?_); rintro v1 H1 I1 hle1 ⟨⟨a1, n1, c1, rfl, hs1⟩, rfl⟩) | (show opsA _ _ _ _ (⟨some 24, .call _, _, _, _, _⟩ :: _) _ _; refine O_ef rfl (Ef_call (I := []) WideF.wide (kk _ hle1) trivial rfl ?_); rintro v2 H2 I2 hle2 ⟨rfl, rfl⟩) | (show opsA _ _ _ _ (⟨some 33, .call _, _, _, _, _⟩ :: _) _ _; refine O_ef rfl (Ef_call (I := []) WideF.wide (kT _ (hle1.trans hle2) _ _ _ (hs1.mono hle2)) ⟨rfl, trivial⟩ rfl ?_); rintro v3 H3 I3 hle3 ⟨rfl, rfl⟩) | refine O_nil ?_ | refine A_seq ?_ | refine A_region ?_ | refine A_skip ?_ | refine A_ret ?_ | (show opsA _ _ _ _ _ _ _; first | refine O_ev WideF.wide rfl (Ev_pure rfl) rfl rfl ?_ | (show opsA _ _ _ _ (⟨_, .load _ _, _, _, _, _⟩ :: _) _ _; refine O_ev WideF.wide rfl (Ev_loadB (i := 0) rfl rfl rfl) rfl rfl ?_) | (show opsA _ _ _ _ (⟨_, .call _, _, _, _, _⟩ :: _) _ _; refine O_ev WideF.wide rfl (Ev_slen rfl) rfl rfl ?_) | (show opsA _ _ _ _ (⟨_, .unOp _ _ _, _, _, _, _⟩ :: _) _ _; refine O_ev WideF.wide rfl (Ev_notb rfl) rfl rfl ?_) | (show opsA _ _ _ _ (⟨_, .alloc _, _, _, _, _⟩ :: _) _ _; (refine O_ef rfl (Ef_alloc WideF.wide rfl ?_); intro b)) | (show opsA _ _ _ _ (⟨_, .store _ _ _, _, _, _, _⟩ :: _) _ _; refine O_ef rfl (Ef_storew WideF.wide rfl rfl rfl rfl rfl ?_))) | (show wpA _ _ _ (.cond _ _ _) _ _ _ _; (refine A_if rfl (fun h => ?_) (fun h => ?_) <;> try (exfalso; omega))))
    all_goals first
      | (exfalso; omega)
      | (exfalso; contradiction)
      | (exfalso; exact absurd trivial (by assumption))
      | (exfalso; exact absurd rfl (by assumption))
      | exact End_e (Ret1 rfl rfl) ⟨rfl, rfl⟩
      | trace_state
  · have ep : prT nd = (wr nd 0, 0) := by unfold prT; rw [if_neg (by rw [hc]; decide), if_neg hlong]
    rw [ep] at kT
    have hok := chkE_ok hc
    have hmw := mass_wr hok
    have kQ := fun Hx (hx : HLe H Hx) => Parse_ok (H := Hx) (wr_valid hok) (by omega) (hV.mono hx) (Nat.le_refl _) (reads hok 1000000 (by omega)) rfl hc (by omega)
    have kS := fun Hx a n cp a2 n2 cp2 (hs : NodesS Hx a n cp nd.args) (hs2 : NodesS Hx a2 n2 cp2 nd.args) => Same_all (nd.mass + 1) Hx nd (by omega) (by omega) Hx _ _ (HLe.refl _) (NodeH.of hs) (NodeH.of hs2)
    refine Fn_of _ _ Tryz.func10 rfl Tryz.ntmps10 rfl fun c => ?_
    repeat' (first | (refine O_ev WideF.wide rfl (Ev_mini rfl rfl) rfl rfl ?_) | (refine O_ev WideF.wide rfl (Ev_ssliceh rfl rfl (by split <;> omega) (by split <;> omega)) rfl rfl ?_) | (refine O_ef rfl (Ef_call (I := []) WideF.wide kP ⟨rfl, trivial⟩ rfl ?_); rintro v1 H1 I1 hle1 ⟨⟨a1, n1, c1, rfl, hs1⟩, rfl⟩) | (show opsA _ _ _ _ (⟨some 24, .call _, _, _, _, _⟩ :: _) _ _; refine O_ef rfl (Ef_call (I := []) WideF.wide (kk _ hle1) trivial rfl ?_); rintro v2 H2 I2 hle2 ⟨rfl, rfl⟩) | (show opsA _ _ _ _ (⟨some 33, .call _, _, _, _, _⟩ :: _) _ _; refine O_ef rfl (Ef_call (I := []) WideF.wide (kT _ (hle1.trans hle2) _ _ _ (hs1.mono hle2)) ⟨rfl, trivial⟩ rfl ?_); rintro v3 H3 I3 hle3 ⟨rfl, rfl⟩) | (show opsA _ _ _ _ (⟨some 42, .call _, _, _, _, _⟩ :: _) _ _; refine O_ef rfl (Ef_call (I := []) WideF.wide (kQ _ ((hle1.trans hle2).trans hle3)) ⟨rfl, trivial⟩ rfl ?_); rintro v4 H4 I4 hle4 ⟨⟨a2, n2, c2, rfl, hs2⟩, rfl⟩) | (show opsA _ _ _ _ (⟨some 48, .call _, _, _, _, _⟩ :: _) _ _; refine O_ef rfl (Ef_call (I := []) WideF.wide (kT _ (((hle1.trans hle2).trans hle3).trans hle4) _ _ _ hs2) ⟨rfl, trivial⟩ rfl ?_); rintro v5 H5 I5 hle5 ⟨rfl, rfl⟩) | (show opsA _ _ _ _ (⟨some 56, .call _, _, _, _, _⟩ :: _) _ _; refine O_ef rfl (Ef_call (I := []) WideF.wide (kS _ _ _ _ _ _ _ ((((hs1.mono hle2).mono hle3).mono hle4).mono hle5) (hs2.mono hle5)) ⟨rfl, rfl, trivial⟩ rfl ?_); rintro v6 H6 I6 hle6 ⟨rfl, rfl⟩) | refine O_nil ?_ | refine A_seq ?_ | refine A_region ?_ | refine A_skip ?_ | refine A_ret ?_ | (show opsA _ _ _ _ _ _ _; first | (refine O_split rfl rfl (fun h => ?_) (fun h => ?_) <;> try (exfalso; omega)) | refine O_ev WideF.wide rfl (Ev_pure rfl) rfl rfl ?_ | (show opsA _ _ _ _ (⟨_, .load _ _, _, _, _, _⟩ :: _) _ _; first | refine O_ev WideF.wide rfl (Ev_loadB (i := 0) rfl rfl rfl) rfl rfl ?_ | refine O_ev WideF.wide rfl (Ev_loadB (i := 1) rfl rfl rfl) rfl rfl ?_) | (show opsA _ _ _ _ (⟨_, .call _, _, _, _, _⟩ :: _) _ _; refine O_ev WideF.wide rfl (Ev_slen rfl) rfl rfl ?_) | (show opsA _ _ _ _ (⟨_, .binOp _ _ _ _ _, _, _, _, _⟩ :: _) _ _; refine O_ev WideF.wide rfl (Ev_seql rfl rfl) rfl rfl ?_) | (show opsA _ _ _ _ (⟨_, .unOp _ _ _, _, _, _, _⟩ :: _) _ _; refine O_ev WideF.wide rfl (Ev_notb rfl) rfl rfl ?_) | (show opsA _ _ _ _ (⟨_, .alloc _, _, _, _, _⟩ :: _) _ _; (refine O_ef rfl (Ef_alloc WideF.wide rfl ?_); intro b)) | (show opsA _ _ _ _ (⟨_, .store _ _ _, _, _, _, _⟩ :: _) _ _; refine O_ef rfl (Ef_storew WideF.wide rfl rfl rfl rfl rfl ?_))) | (show wpA _ _ _ (.cond _ _ _) _ _ _ _; (refine A_if rfl (fun h => ?_) (fun h => ?_) <;> try (exfalso; omega))))
    all_goals first
      | (exfalso; omega)
      | (exfalso; contradiction)
      | (exfalso; exact absurd trivial (by assumption))
      | (exfalso; exact absurd rfl (by assumption))
      | exact End_e (Ret1 rfl rfl) ⟨rfl, rfl⟩
      | exact End_e (Ret1 rfl rfl) ⟨by simp, rfl⟩
      | trace_state
theorem FormulaReturns_fn {H : Hp} {s : List UInt8} (hV : VarsH H) : Fn Tryz.prog 10 [sv s] H [] fun v _ I => v = .bool true ∧ I = [] := by
  rcases Parse_cases (cutS_len s) with h | ⟨nd, t', hv, hls, hp, hd, hc, hm⟩
  · exact Returns_err hV h
  · exact Returns_ok hV hv hls hp hd hc hm
end Go.Proofs.YtnoadopmeoohmaaGreatDoor
