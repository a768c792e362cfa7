/-
  splice.Check and Size of any splice. Printed by genU3.py.
-/
import Derived.Test.YtofkolbnhcckkaaGreatU2
namespace Go.Proofs.YtofkolbnhcckkaaGreat
open Go
set_option linter.unusedVariables false
set_option linter.unusedSimpArgs false
attribute [local irreducible] wpA opsA drJ drQ drE Ef Ev Shift Fn

set_option maxRecDepth 100000 in
theorem ixRow_fn {H : Hp} {a : Option Addr} {n cp f : Nat} {l : List Row} {pB : Row → Bool} [hfc : FunC Tryz.prog f] (hx0 : SlH H RowH 6 a n cp l) (hm : n < 68719476736)
    (hf : ∀ H1 cs x, HLe H H1 → x ∈ l → RowH H1 cs x → Fn Tryz.prog f [.agg cs.toArray] H1 [] fun v _ I => v = .bool (pB x) ∧ I = []) :
    Fn Tryz.prog 76 [.slice a n cp, .func (.func f) #[] #[]] H [] fun v _ I => ((v = .int .i64 (-1) ∧ l.any pB = false) ∨ ∃ i : Nat, v = .int .i64 i ∧ l.any pB = true) ∧ I = [] := by
  have e1 := hx0.len
  refine Fn_of _ _ Tryz.func76 rfl Tryz.ntmps76 rfl fun c => ?_
  repeat' (first | refine O_nil ?_ | refine A_seq ?_ | refine A_region ?_ | refine A_block ?_ | (show opsA _ _ _ _ _ _ _; first | refine O_ev WideF.wide rfl (Ev_pure rfl) rfl rfl ?_ | (show opsA _ _ _ _ (⟨_, .call _, _, _, _, _⟩ :: _) _ _; refine O_ev WideF.wide rfl (Ev_llen rfl) rfl rfl ?_)))
  refine A_loopu (fun m s => ∃ (i : Nat) (H1 : Hp), m = n - i ∧ i ≤ n ∧ HLe H H1 ∧ (l.take i).any pB = false ∧ s = ⟨19, [(0, .slice a n cp), (1, .func (.func f) #[] #[]), (7, .int .i64 n), (8, .int .i64 i)], H1, [], [], []⟩) ?_ ?_
  · exact Shift.to ⟨_, 0, H, rfl, by omega, HLe.refl _, rfl, rfl⟩ ⟨rfl, rfl, rfl, ⟨rfl, rfl, rfl, rfl, trivial⟩, Own.sub_nil _⟩
  rintro m s ⟨i, H1, rfl, hi, hle1, hall, rfl⟩
  by_cases hlt : i < n
  · have hx : SlH H1 RowH 6 a n cp l := hx0.monoR (fun _ _ h => h.mono hle1) hle1
    obtain ⟨b, o, cs, x, rfl, hxi, hxc, hk, hc⟩ := hx.at i hlt
    have hcall := hf H1 cs x hle1 (List.mem_of_getElem? hxi) hxc
    have hsn : (l.take (i + 1)).any pB = pB x := by rw [take_get hxi, List.any_append, hall]; simp
    cases hpb : pB x
    · rw [hpb] at hcall hsn
      repeat' (first | (refine O_ev WideF.wide rfl (Ev_loadH rfl hc hk) rfl rfl ?_) | (refine O_ef rfl (Ef_callv (I := []) (M' := []) WideF.wide hcall rfl ⟨rfl, trivial⟩ rfl ?_); rintro v H2 I2 hle2 ⟨rfl, rfl⟩) | refine O_nil ?_ | refine A_seq ?_ | refine A_region ?_ | refine A_skip ?_ | refine A_block ?_ | (show opsA _ _ _ _ _ _ _; first | refine O_ev WideF.wide rfl (Ev_pure rfl) rfl rfl ?_ | (show opsA _ _ _ _ (⟨_, .indexAddr _ _ _, _, _, _, _⟩ :: _) _ _; refine O_ev WideF.wide rfl (Ev_indexAddr rfl rfl (by omega) (by omega)) rfl rfl ?_) | (show opsA _ _ _ _ (⟨_, .binOp _ _ _ _ _, _, _, _, _⟩ :: _) _ _; refine O_ev WideF.wide rfl (Ev_add rfl rfl (wi64 (by omega))) rfl rfl ?_)) | (show wpA _ _ _ (.cond _ _ _) _ _ _ _; first | (refine A_if rfl (fun h => ?_) (fun h => ?_) <;> try (exfalso; omega)) | refine A_iffalse rfl ?_))
      exact Shift.to ⟨_, by omega, i + 1, H2, rfl, by omega, hle1.trans hle2, hsn, rfl⟩ ⟨rfl, rfl, rfl, ⟨rfl, rfl, rfl, rfl, trivial⟩, Own.sub_nil _⟩
    · rw [hpb] at hcall
      have hany : l.any pB = true := List.any_eq_true.2 ⟨x, List.mem_of_getElem? hxi, hpb⟩
      repeat' (first | (refine O_ev WideF.wide rfl (Ev_loadH rfl hc hk) rfl rfl ?_) | (refine O_ef rfl (Ef_callv (I := []) (M' := []) WideF.wide hcall rfl ⟨rfl, trivial⟩ rfl ?_); rintro v H2 I2 hle2 ⟨rfl, rfl⟩) | refine O_nil ?_ | refine A_seq ?_ | refine A_region ?_ | refine A_skip ?_ | refine A_ret ?_ | refine A_block ?_ | (show opsA _ _ _ _ _ _ _; first | refine O_ev WideF.wide rfl (Ev_pure rfl) rfl rfl ?_ | (show opsA _ _ _ _ (⟨_, .indexAddr _ _ _, _, _, _, _⟩ :: _) _ _; refine O_ev WideF.wide rfl (Ev_indexAddr rfl rfl (by omega) (by omega)) rfl rfl ?_)) | (show wpA _ _ _ (.cond _ _ _) _ _ _ _; first | (refine A_if rfl (fun h => ?_) (fun h => ?_) <;> try (exfalso; omega)) | refine A_iftrue rfl ?_))
      exact End_e (Ret1 rfl rfl) ⟨.inr ⟨i, rfl, hany⟩, rfl⟩
  · obtain rfl : n = i := by omega
    rw [List.take_of_length_le (by omega)] at hall
    repeat' (first | refine O_nil ?_ | refine A_seq ?_ | refine A_region ?_ | refine A_ret ?_ | (show opsA _ _ _ _ _ _ _; refine O_ev WideF.wide rfl (Ev_pure rfl) rfl rfl ?_) | (show wpA _ _ _ (.exit _) _ _ _ _; refine A_exit rfl ?_) | (show wpA _ _ _ (.cond _ _ _) _ _ _ _; (refine A_if rfl (fun h => ?_) (fun h => ?_) <;> try (exfalso; omega))))
    exact End_e (Ret1 rfl rfl) ⟨.inl ⟨rfl, hall⟩, rfl⟩
set_option maxRecDepth 100000 in
theorem ctRow_fn {H : Hp} {a : Option Addr} {n cp f : Nat} {l : List Row} {pB : Row → Bool} [hfc : FunC Tryz.prog f] (hx0 : SlH H RowH 6 a n cp l) (hm : n < 68719476736)
    (hf : ∀ H1 cs x, HLe H H1 → x ∈ l → RowH H1 cs x → Fn Tryz.prog f [.agg cs.toArray] H1 [] fun v _ I => v = .bool (pB x) ∧ I = []) :
    Fn Tryz.prog 50 [.slice a n cp, .func (.func f) #[] #[]] H [] fun v _ I => v = .bool (l.any pB) ∧ I = [] := by
  have h := ixRow_fn hx0 hm hf
  refine Fn_of _ _ Tryz.func50 rfl Tryz.ntmps50 rfl fun c => ?_
  repeat' (first | (refine O_ef rfl (Ef_call (I := []) WideF.wide h ⟨rfl, rfl, trivial⟩ rfl ?_); rintro v H1 I1 hle1 ⟨⟨rfl, ha⟩ | ⟨i, rfl, ha⟩, rfl⟩) | refine O_nil ?_ | refine A_seq ?_ | refine A_region ?_ | refine A_ret ?_ | (show opsA _ _ _ _ _ _ _; refine O_ev WideF.wide rfl (Ev_pure rfl) rfl rfl ?_))
  · refine End_e (Ret1 rfl rfl) ⟨?_, rfl⟩
    rw [ha]; exact congrArg Value.bool (decide_eq_false (by omega))
  · refine End_e (Ret1 rfl rfl) ⟨?_, rfl⟩
    rw [ha]; exact congrArg Value.bool (decide_eq_true (by omega))

set_option maxRecDepth 100000 in
theorem ixCell_fn {H : Hp} {a : Option Addr} {n cp f : Nat} {l : List Cell} {pB : Cell → Bool} [hfc : FunC Tryz.prog f] (hx0 : SlH H CellH 7 a n cp l) (hm : n < 68719476736)
    (hf : ∀ H1 cs x, HLe H H1 → x ∈ l → CellH H1 cs x → Fn Tryz.prog f [.agg cs.toArray] H1 [] fun v _ I => v = .bool (pB x) ∧ I = []) :
    Fn Tryz.prog 101 [.slice a n cp, .func (.func f) #[] #[]] H [] fun v _ I => ((v = .int .i64 (-1) ∧ l.any pB = false) ∨ ∃ i : Nat, v = .int .i64 i ∧ l.any pB = true) ∧ I = [] := by
  have e1 := hx0.len
  refine Fn_of _ _ Tryz.func101 rfl Tryz.ntmps101 rfl fun c => ?_
  repeat' (first | refine O_nil ?_ | refine A_seq ?_ | refine A_region ?_ | refine A_block ?_ | (show opsA _ _ _ _ _ _ _; first | refine O_ev WideF.wide rfl (Ev_pure rfl) rfl rfl ?_ | (show opsA _ _ _ _ (⟨_, .call _, _, _, _, _⟩ :: _) _ _; refine O_ev WideF.wide rfl (Ev_llen rfl) rfl rfl ?_)))
  refine A_loopu (fun m s => ∃ (i : Nat) (H1 : Hp), m = n - i ∧ i ≤ n ∧ HLe H H1 ∧ (l.take i).any pB = false ∧ s = ⟨19, [(0, .slice a n cp), (1, .func (.func f) #[] #[]), (7, .int .i64 n), (8, .int .i64 i)], H1, [], [], []⟩) ?_ ?_
  · exact Shift.to ⟨_, 0, H, rfl, by omega, HLe.refl _, rfl, rfl⟩ ⟨rfl, rfl, rfl, ⟨rfl, rfl, rfl, rfl, trivial⟩, Own.sub_nil _⟩
  rintro m s ⟨i, H1, rfl, hi, hle1, hall, rfl⟩
  by_cases hlt : i < n
  · have hx : SlH H1 CellH 7 a n cp l := hx0.monoR (fun _ _ h => h.mono hle1) hle1
    obtain ⟨b, o, cs, x, rfl, hxi, hxc, hk, hc⟩ := hx.at i hlt
    have hcall := hf H1 cs x hle1 (List.mem_of_getElem? hxi) hxc
    have hsn : (l.take (i + 1)).any pB = pB x := by rw [take_get hxi, List.any_append, hall]; simp
    cases hpb : pB x
    · rw [hpb] at hcall hsn
      repeat' (first | (refine O_ev WideF.wide rfl (Ev_loadH rfl hc hk) rfl rfl ?_) | (refine O_ef rfl (Ef_callv (I := []) (M' := []) WideF.wide hcall rfl ⟨rfl, trivial⟩ rfl ?_); rintro v H2 I2 hle2 ⟨rfl, rfl⟩) | refine O_nil ?_ | refine A_seq ?_ | refine A_region ?_ | refine A_skip ?_ | refine A_block ?_ | (show opsA _ _ _ _ _ _ _; first | refine O_ev WideF.wide rfl (Ev_pure rfl) rfl rfl ?_ | (show opsA _ _ _ _ (⟨_, .indexAddr _ _ _, _, _, _, _⟩ :: _) _ _; refine O_ev WideF.wide rfl (Ev_indexAddr rfl rfl (by omega) (by omega)) rfl rfl ?_) | (show opsA _ _ _ _ (⟨_, .binOp _ _ _ _ _, _, _, _, _⟩ :: _) _ _; refine O_ev WideF.wide rfl (Ev_add rfl rfl (wi64 (by omega))) rfl rfl ?_)) | (show wpA _ _ _ (.cond _ _ _) _ _ _ _; first | (refine A_if rfl (fun h => ?_) (fun h => ?_) <;> try (exfalso; omega)) | refine A_iffalse rfl ?_))
      exact Shift.to ⟨_, by omega, i + 1, H2, rfl, by omega, hle1.trans hle2, hsn, rfl⟩ ⟨rfl, rfl, rfl, ⟨rfl, rfl, rfl, rfl, trivial⟩, Own.sub_nil _⟩
    · rw [hpb] at hcall
      have hany : l.any pB = true := List.any_eq_true.2 ⟨x, List.mem_of_getElem? hxi, hpb⟩
      repeat' (first | (refine O_ev WideF.wide rfl (Ev_loadH rfl hc hk) rfl rfl ?_) | (refine O_ef rfl (Ef_callv (I := []) (M' := []) WideF.wide hcall rfl ⟨rfl, trivial⟩ rfl ?_); rintro v H2 I2 hle2 ⟨rfl, rfl⟩) | refine O_nil ?_ | refine A_seq ?_ | refine A_region ?_ | refine A_skip ?_ | refine A_ret ?_ | refine A_block ?_ | (show opsA _ _ _ _ _ _ _; first | refine O_ev WideF.wide rfl (Ev_pure rfl) rfl rfl ?_ | (show opsA _ _ _ _ (⟨_, .indexAddr _ _ _, _, _, _, _⟩ :: _) _ _; refine O_ev WideF.wide rfl (Ev_indexAddr rfl rfl (by omega) (by omega)) rfl rfl ?_)) | (show wpA _ _ _ (.cond _ _ _) _ _ _ _; first | (refine A_if rfl (fun h => ?_) (fun h => ?_) <;> try (exfalso; omega)) | refine A_iftrue rfl ?_))
      exact End_e (Ret1 rfl rfl) ⟨.inr ⟨i, rfl, hany⟩, rfl⟩
  · obtain rfl : n = i := by omega
    rw [List.take_of_length_le (by omega)] at hall
    repeat' (first | refine O_nil ?_ | refine A_seq ?_ | refine A_region ?_ | refine A_ret ?_ | (show opsA _ _ _ _ _ _ _; refine O_ev WideF.wide rfl (Ev_pure rfl) rfl rfl ?_) | (show wpA _ _ _ (.exit _) _ _ _ _; refine A_exit rfl ?_) | (show wpA _ _ _ (.cond _ _ _) _ _ _ _; (refine A_if rfl (fun h => ?_) (fun h => ?_) <;> try (exfalso; omega))))
    exact End_e (Ret1 rfl rfl) ⟨.inl ⟨rfl, hall⟩, rfl⟩
set_option maxRecDepth 100000 in
theorem ctCell_fn {H : Hp} {a : Option Addr} {n cp f : Nat} {l : List Cell} {pB : Cell → Bool} [hfc : FunC Tryz.prog f] (hx0 : SlH H CellH 7 a n cp l) (hm : n < 68719476736)
    (hf : ∀ H1 cs x, HLe H H1 → x ∈ l → CellH H1 cs x → Fn Tryz.prog f [.agg cs.toArray] H1 [] fun v _ I => v = .bool (pB x) ∧ I = []) :
    Fn Tryz.prog 74 [.slice a n cp, .func (.func f) #[] #[]] H [] fun v _ I => v = .bool (l.any pB) ∧ I = [] := by
  have h := ixCell_fn hx0 hm hf
  refine Fn_of _ _ Tryz.func74 rfl Tryz.ntmps74 rfl fun c => ?_
  repeat' (first | (refine O_ef rfl (Ef_call (I := []) WideF.wide h ⟨rfl, rfl, trivial⟩ rfl ?_); rintro v H1 I1 hle1 ⟨⟨rfl, ha⟩ | ⟨i, rfl, ha⟩, rfl⟩) | refine O_nil ?_ | refine A_seq ?_ | refine A_region ?_ | refine A_ret ?_ | (show opsA _ _ _ _ _ _ _; refine O_ev WideF.wide rfl (Ev_pure rfl) rfl rfl ?_))
  · refine End_e (Ret1 rfl rfl) ⟨?_, rfl⟩
    rw [ha]; exact congrArg Value.bool (decide_eq_false (by omega))
  · refine End_e (Ret1 rfl rfl) ⟨?_, rfl⟩
    rw [ha]; exact congrArg Value.bool (decide_eq_true (by omega))

/-! ### checkPiece -/
noncomputable def badCell (c : Cell) : Bool := decide (¬ c.2.2 = normL c.2.2)
noncomputable def badCells (l : List Cell) : Bool := l.any badCell
noncomputable def badRow (r : Row) : Bool := decide (r.2.length = 0) || badCells r.2
noncomputable def badPiece (p : Piece) : Bool := decide (¬ p.items = normL p.items) || badCells p.cells || p.rows.any badRow
noncomputable def chkP (p : Piece) : Int := if lenE p.items ≠ 0 then lenE p.items else if badPiece p = true then 15 else 0
set_option maxRecDepth 100000 in
theorem normal1_fn {H : Hp} {cs : List Value} {x : Cell} (hx : CellH H cs x) (hl : massL x.2.2 < 34359738368) : Fn Tryz.prog 75 [.agg cs.toArray] H [] fun v _ I => v = .bool (badCell x) ∧ I = [] := by
  obtain ⟨pa, pn, pc, da, dn, dc, la, ln, lc, fa, fn, fc, rfl, h1, h2, h3, h4⟩ := hx.cells
  have h := IsNormal_fn h4 hl
  refine Fn_of _ _ Tryz.func75 rfl Tryz.ntmps75 rfl fun c => ?_
  repeat' (first | (refine O_ef rfl (Ef_call (I := []) WideF.wide (h) ⟨rfl, trivial⟩ rfl ?_); rintro v H1 I1 hle1 ⟨rfl, rfl⟩) | refine O_nil ?_ | refine A_seq ?_ | refine A_region ?_ | refine A_ret ?_ | (show opsA _ _ _ _ _ _ _; first | refine O_ev WideF.wide rfl (Ev_pure rfl) rfl rfl ?_ | (show opsA _ _ _ _ (⟨_, .load _ _, _, _, _, _⟩ :: _) _ _; refine O_ev WideF.wide rfl (Ev_loadB1 (i := 0) rfl rfl rfl) rfl rfl ?_) | (show opsA _ _ _ _ (⟨_, .fieldAddr _ _ _, _, _, _, _⟩ :: _) _ _; refine O_ev WideF.wide rfl (Ev_fieldAddr rfl rfl rfl) rfl rfl ?_) | (show opsA _ _ _ _ (⟨_, .unOp _ _ _, _, _, _, _⟩ :: _) _ _; refine O_ev WideF.wide rfl (Ev_not rfl) rfl rfl ?_) | (show opsA _ _ _ _ (⟨_, .box _ _, _, _, _, _⟩ :: _) _ _; (refine O_ef rfl (Ef_boxa WideF.wide rfl rfl ?_); intro b))))
  exact End_e (Ret1 rfl rfl) ⟨rfl, rfl⟩
set_option maxRecDepth 100000 in
theorem normalCells_fn {H : Hp} {a : Option Addr} {n cp : Nat} {l : List Cell} (hx : CellsS H a n cp l) (hm : massC l < 34359738368) : Fn Tryz.prog 49 [.slice a n cp] H [] fun v _ I => v = .bool (!(badCells l)) ∧ I = [] := by
  have hcl := massC_len l
  have e1 := hx.len
  have h := ctCell_fn (f := 75) hx (by omega) fun H1 cs x hle1 hy hyc => normal1_fn hyc (by have := massC_mem' hy; omega)
  refine Fn_of _ _ Tryz.func49 rfl Tryz.ntmps49 rfl fun c => ?_
  repeat' (first | (refine O_ef rfl (Ef_call (I := []) WideF.wide (h) ⟨rfl, rfl, trivial⟩ rfl ?_); rintro v H1 I1 hle1 ⟨rfl, rfl⟩) | refine O_nil ?_ | refine A_seq ?_ | refine A_region ?_ | refine A_ret ?_ | (show opsA _ _ _ _ _ _ _; first | refine O_ev WideF.wide rfl (Ev_pure rfl) rfl rfl ?_ | (show opsA _ _ _ _ (⟨_, .unOp _ _ _, _, _, _, _⟩ :: _) _ _; refine O_ev WideF.wide rfl (Ev_notb rfl) rfl rfl ?_)))
  exact End_e (Ret1 rfl rfl) ⟨rfl, rfl⟩
set_option maxRecDepth 100000 in
theorem check1_fn {H : Hp} {cs : List Value} {x : Row} (hx : RowH H cs x) (hl : massC x.2 < 34359738368) : Fn Tryz.prog 51 [.agg cs.toArray] H [] fun v _ I => v = .bool (badRow x) ∧ I = [] := by
  obtain ⟨pa, pn, pc, da, dn, dc, la, ln, lc, fa, fn, fc, rfl, h1, h2, h3, h4⟩ := hx.cells
  have hk := normalCells_fn h4 hl
  have e1 := h4.len
  have e2 : badRow x = (decide (fn = 0) || badCells x.2) := by unfold badRow; rw [e1]
  cases hb : badCells x.2
  all_goals
    rw [hb] at hk e2
    refine Fn_of _ _ Tryz.func51 rfl Tryz.ntmps51 rfl fun c => ?_
    repeat' (first | (refine O_ef rfl (Ef_call (I := []) WideF.wide (hk) ⟨rfl, trivial⟩ rfl ?_); rintro v H1 I1 hle1 ⟨rfl, rfl⟩) | refine O_nil ?_ | refine A_seq ?_ | refine A_region ?_ | refine A_ret ?_ | (show opsA _ _ _ _ _ _ _; first | (refine O_split rfl rfl (fun h => ?_) (fun h => ?_) <;> try (exfalso; omega)) | refine O_ev WideF.wide rfl (Ev_pure rfl) rfl rfl ?_ | (show opsA _ _ _ _ (⟨_, .load _ _, _, _, _, _⟩ :: _) _ _; refine O_ev WideF.wide rfl (Ev_loadB1 (i := 0) rfl rfl rfl) rfl rfl ?_) | (show opsA _ _ _ _ (⟨_, .fieldAddr _ _ _, _, _, _, _⟩ :: _) _ _; refine O_ev WideF.wide rfl (Ev_fieldAddr rfl rfl rfl) rfl rfl ?_) | (show opsA _ _ _ _ (⟨_, .call _, _, _, _, _⟩ :: _) _ _; refine O_ev WideF.wide rfl (Ev_llen rfl) rfl rfl ?_) | (show opsA _ _ _ _ (⟨_, .unOp _ _ _, _, _, _, _⟩ :: _) _ _; refine O_ev WideF.wide rfl (Ev_notb rfl) rfl rfl ?_) | (show opsA _ _ _ _ (⟨_, .box _ _, _, _, _, _⟩ :: _) _ _; (refine O_ef rfl (Ef_boxa WideF.wide rfl rfl ?_); intro b)) | refine O_skip WideF.wide rfl rfl rfl ?_))
    all_goals (refine End_e (Ret1 rfl rfl) ⟨?_, rfl⟩; rw [e2]; refine congrArg Value.bool ?_; simp; try omega)
set_option maxRecDepth 100000 in
set_option maxHeartbeats 1000000 in
theorem checkPiece_fn {H : Hp} {cs : List Value} {p : Piece} (hx : PieceH H cs p) (hm : p.fine) : Fn Tryz.prog 23 [.agg cs.toArray] H [] fun v _ I => v = .int .i64 (chkP p) ∧ I = [] := by
  obtain ⟨ia, iN, ic, ra, rn, rc, ca, cn, cc, hcs, scs, rfl, p1, p2, p3, p4, p5⟩ := hx.ex
  obtain ⟨m1, m2⟩ := hm
  obtain ⟨qa, qn, qc, da, dn, dc, la, ln, lc, rfl, _⟩ := p4.ex
  obtain ⟨sa, sn, sc, ua, un, uc, ka, kn, kc, va, vn, vc, rfl, _⟩ := p5.ex
  have hrl := massR_len p.rows
  have e1 := p2.len
  have h1 := Len_fn p1 (by omega)
  have h2 := IsNormal_fn p1 (by omega)
  have h3 := fun Hx (h : HLe H Hx) => normalCells_fn (p3.mono h) (by omega)
  have h4 := fun Hx (h : HLe H Hx) => ctRow_fn (f := 51) (p2.mono h) (by omega) fun H1 cs x hle1 hy hyc => check1_fn hyc (by have := massR_mem' hy; omega)
  have e2 : chkP p = if lenE p.items ≠ 0 then lenE p.items else if (decide (¬ p.items = normL p.items) || badCells p.cells || p.rows.any badRow) = true then 15 else 0 := rfl
  cases hb1 : badCells p.cells <;> cases hb2 : p.rows.any badRow
  all_goals
    rw [hb1] at h3
    rw [hb2] at h4
    rw [hb1, hb2] at e2
    refine Fn_of _ _ Tryz.func23 rfl Tryz.ntmps23 rfl fun c => ?_
    repeat' (first | (refine O_ef rfl (Ef_callp WideF.wide (h1) ⟨rfl, trivial⟩ rfl ?_)) | (refine O_ef rfl (Ef_call (I := []) WideF.wide (h2) ⟨rfl, trivial⟩ rfl ?_); rintro v H1 I1 hle1 ⟨rfl, rfl⟩) | (refine O_ef rfl (Ef_call (I := []) WideF.wide (h3 _ hle1) ⟨rfl, trivial⟩ rfl ?_); rintro v H2 I2 hle2 ⟨rfl, rfl⟩) | (refine O_ef rfl (Ef_call (I := []) WideF.wide (h4 _ (hle1.trans hle2)) ⟨rfl, rfl, trivial⟩ rfl ?_); rintro v H3 I3 hle3 ⟨rfl, rfl⟩) | refine O_nil ?_ | refine A_seq ?_ | refine A_region ?_ | refine A_skip ?_ | refine A_ret ?_ | (show opsA _ _ _ _ _ _ _; first | (refine O_split rfl rfl (fun h => ?_) (fun h => ?_) <;> try (exfalso; omega)) | refine O_ev WideF.wide rfl (Ev_pure rfl) rfl rfl ?_ | (show opsA _ _ _ _ (⟨_, .load _ _, _, _, _, _⟩ :: _) _ _; refine O_ev WideF.wide rfl (Ev_loadB1 (i := 0) rfl rfl rfl) rfl rfl ?_) | (show opsA _ _ _ _ (⟨_, .fieldAddr _ _ _, _, _, _, _⟩ :: _) _ _; refine O_ev WideF.wide rfl (Ev_fieldAddr rfl rfl rfl) rfl rfl ?_) | (show opsA _ _ _ _ (⟨_, .unOp _ _ _, _, _, _, _⟩ :: _) _ _; first | refine O_ev WideF.wide rfl (Ev_not rfl) rfl rfl ?_ | refine O_ev WideF.wide rfl (Ev_notb rfl) rfl rfl ?_) | (show opsA _ _ _ _ (⟨_, .box _ _, _, _, _, _⟩ :: _) _ _; (refine O_ef rfl (Ef_boxa WideF.wide rfl rfl ?_); intro b)) | refine O_skip WideF.wide rfl rfl rfl ?_) | (show wpA _ _ _ (.cond _ _ _) _ _ _ _; first | (refine A_if rfl (fun h => ?_) (fun h => ?_) <;> try (exfalso; omega)) | refine A_iftrue rfl ?_ | refine A_iffalse rfl ?_))
    all_goals first
      | (exfalso; omega)
      | (refine End_e (Ret1 rfl rfl) ⟨?_, rfl⟩; rw [e2]; refine congrArg _ ?_; simp [*])
/-! ### the kinds -/
abbrev ucells (k : Int) : List Value := [.bool (decide (1 ≤ k ∧ k ≤ 5)), .bool (decide (1 ≤ k ∧ k ≤ 5)), .bool (decide (k = 3 ∨ k = 5)), .bool (decide (k = 1)), .bool (decide (k = 2)), .bool (decide (k = 3)), .bool (decide (4 ≤ k ∧ k ≤ 6)), .bool (decide (k = 7))]
def bl8 (l : List Nat) : Value := .agg ((List.range 8).map fun i => Value.bool (l.contains i)).toArray
abbrev kindKvs : List (Int × Value) := [(1, bl8 [0, 1, 3]), (2, bl8 [0, 1, 4]), (3, bl8 [0, 1, 2, 5]), (4, bl8 [0, 1, 6]), (5, bl8 [0, 1, 2, 6]), (6, bl8 [6]), (7, bl8 [7])]
set_option maxRecDepth 100000 in
set_option maxHeartbeats 1000000 in
theorem kinds_fn {H : Hp} : Fn Tryz.prog 21 [] H [] fun v H' I => ∃ b, v = .map (some b) ∧ I = [.obj b (mobj kindKvs)] ∧ H' = H := by
  refine Fn_of _ _ Tryz.func21 rfl Tryz.ntmps21 rfl fun c => ?_
  repeat' (first | (refine O_ef rfl (Ef_makeMap WideF.wide rfl ?_); intro b) | (refine O_ef rfl (Ef_mapIns WideF.wide rfl rfl rfl (by simp [mhas]) ?_)) | refine O_nil ?_ | refine A_seq ?_ | refine A_region ?_ | refine A_ret ?_ | (show opsA _ _ _ _ _ _ _; first | refine O_ev WideF.wide rfl (Ev_pure rfl) rfl rfl ?_ | (show opsA _ _ _ _ (⟨_, .build _ _, _, _, _, _⟩ :: _) _ _; first | refine O_ev WideF.wide rfl (Ev_build (vs := [(_, _)]) ⟨rfl, rfl, trivial⟩ rfl) rfl rfl ?_ | refine O_ev WideF.wide rfl (Ev_build (vs := [(_, _), (_, _), (_, _)]) ⟨rfl, rfl, rfl, rfl, rfl, rfl, trivial⟩ rfl) rfl rfl ?_ | refine O_ev WideF.wide rfl (Ev_build (vs := [(_, _), (_, _), (_, _), (_, _)]) ⟨rfl, rfl, rfl, rfl, rfl, rfl, rfl, rfl, trivial⟩ rfl) rfl rfl ?_)))
  exact End_m (Ret1 rfl rfl) ⟨_, rfl, rfl, rfl⟩
theorem kind_get (k : Int) (z : Value) (hz : z = bl8 []) : mget z kindKvs k = .agg (ucells k).toArray := by
  by_cases h : 1 ≤ k ∧ k ≤ 7
  · obtain rfl | rfl | rfl | rfl | rfl | rfl | rfl : k = 1 ∨ k = 2 ∨ k = 3 ∨ k = 4 ∨ k = 5 ∨ k = 6 ∨ k = 7 := by omega
    all_goals rfl
  · have h1 : ¬ mhas kindKvs k := by simp [mhas]; omega
    rw [mget_no h1, hz]
    have e1 : ¬ (1 ≤ k ∧ k ≤ 5) := by omega
    have e2 : ¬ (k = 3 ∨ k = 5) := by omega
    have e3 : ¬ k = 1 := by omega
    have e4 : ¬ k = 2 := by omega
    have e5 : ¬ k = 3 := by omega
    have e6 : ¬ (4 ≤ k ∧ k ≤ 6) := by omega
    have e7 : ¬ k = 7 := by omega
    simp only [ucells, decide_eq_false e1, decide_eq_false e2, decide_eq_false e3, decide_eq_false e4, decide_eq_false e5, decide_eq_false e6, decide_eq_false e7]
    rfl
theorem Ev_kind {e : Env} {H : Hp} {R : Own} {dst : Option Tmp} {ty : TypeId} {pos : String} {after : Array Edge} {g : Option (Nat × Bool)} {x y : Operand} {t b i : Nat} {kt : TypeId} {k : Int} [ht : UndC Tryz.prog t (.map kt 65)] [hk : UndC Tryz.prog kt (.int .i64)] (hx : e.eval x = some (.map (some b))) (hy : e.eval y = some (.int .i64 k)) (hR : oget R i = some (.obj b (mobj kindKvs))) :
    Ev Tryz.prog ⟨dst, .lookup t x y true, ty, pos, after, g⟩ e H R (.tuple [.agg (ucells k).toArray, .bool (decide (1 ≤ k ∧ k ≤ 7))].toArray) := by
  haveI : Decidable (mhas kindKvs k) := Classical.propDecidable _
  have h := Ev_lookupIok (t := t) (kt := kt) (et := 65) (dst := dst) (ty := ty) (pos := pos) (after := after) (g := g) (H := H) (kvs := kindKvs) (q := k) Tryz.zeroValue65 hx hy hR
  have hm : mhas kindKvs k ↔ (1 ≤ k ∧ k ≤ 7) := by simp [mhas]; omega
  rw [kind_get k (.agg #[.bool false, .bool false, .bool false, .bool false, .bool false, .bool false, .bool false, .bool false]) rfl, show decide (mhas kindKvs k) = decide (1 ≤ k ∧ k ≤ 7) by rw [Bool.eq_iff_iff]; simp [hm]] at h
  exact h
/-! ### spare, Check -/
def spareP (k : Int) (p : Piece) : Prop := (¬ k = 1 ∧ 0 < p.items.length) ∨ (¬ k = 2 ∧ 0 < p.rows.length) ∨ (¬ k = 3 ∧ 0 < p.cells.length) ∨ (¬ (4 ≤ k ∧ k ≤ 6) ∧ ¬ p.head = head0) ∨ (¬ k = 7 ∧ ¬ p.sett = sett0)
noncomputable instance (k : Int) (p : Piece) : Decidable (spareP k p) := Classical.propDecidable _
set_option maxRecDepth 100000 in
set_option maxHeartbeats 4000000 in
theorem spare_fn {H : Hp} {cs : List Value} {p : Piece} {k : Int} (hx : PieceH H cs p) (hm : p.fine) : Fn Tryz.prog 22 [.agg (ucells k).toArray, .agg cs.toArray] H [] fun v _ I => v = .bool (decide (spareP k p)) ∧ I = [] := by
  obtain ⟨ia, iN, ic, ra, rn, rc, ca, cn, cc, hcs, scs, rfl, p1, p2, p3, p4, p5⟩ := hx.ex
  obtain ⟨m1, m2⟩ := hm
  have h1 := fun Hx (h : HLe H Hx) => EqualHead_fn (p4.mono h) (zHeadH Hx) (by omega)
  have h2 := fun Hx (h : HLe H Hx) => Sett_fn (p5.mono h) (sett0H Hx) m2
  have e1 := p1.len
  have e2 := p2.len
  have e3 := p3.len
  have hs : spareP k p ↔ (¬ k = 1 ∧ 0 < iN) ∨ (¬ k = 2 ∧ 0 < rn) ∨ (¬ k = 3 ∧ 0 < cn) ∨ (¬ (4 ≤ k ∧ k ≤ 6) ∧ ¬ p.head = head0) ∨ (¬ k = 7 ∧ ¬ p.sett = sett0) := by unfold spareP; rw [e1, e2, e3]
  obtain ⟨qa, qn, qc, da, dn, dc, la, ln, lc, rfl, _⟩ := p4.ex
  obtain ⟨sa, sn, sc, ua, un, uc, ka, kn, kc, va, vn, vc, rfl, _⟩ := p5.ex
  generalize p.head = hd at h1 hs
  generalize p.sett = st at h2 hs
  have g := HLe.refl H
  refine Fn_of _ _ Tryz.func22 rfl Tryz.ntmps22 rfl fun c => ?_
  repeat' (first | (refine O_ef rfl (Ef_callp WideF.wide (h1 _ g) ⟨rfl, rfl, trivial⟩ rfl ?_)) | (refine O_ef rfl (Ef_call (I := []) WideF.wide (h2 _ g) ⟨rfl, rfl, trivial⟩ rfl ?_); rintro v H1 I1 hle1 ⟨rfl, rfl⟩) | refine O_nil ?_ | refine A_seq ?_ | refine A_region ?_ | refine A_ret ?_ | (show opsA _ _ _ _ _ _ _; first | (refine O_split rfl rfl (fun h => ?_) (fun h => ?_) <;> try (exfalso; omega)) | refine O_ev WideF.wide rfl (Ev_pure rfl) rfl rfl ?_ | (show opsA _ _ _ _ (⟨_, .load _ _, _, _, _, _⟩ :: _) _ _; first | refine O_ev WideF.wide rfl (Ev_loadB1 (i := 0) rfl rfl rfl) rfl rfl ?_ | refine O_ev WideF.wide rfl (Ev_loadB1 (i := 1) rfl rfl rfl) rfl rfl ?_ | refine O_ev WideF.wide rfl (Ev_loadBs (i := 0) rfl rfl rfl rfl) rfl rfl ?_) | (show opsA _ _ _ _ (⟨_, .fieldAddr _ _ _, _, _, _, _⟩ :: _) _ _; refine O_ev WideF.wide rfl (Ev_fieldAddr rfl rfl rfl) rfl rfl ?_) | (show opsA _ _ _ _ (⟨_, .call _, _, _, _, _⟩ :: _) _ _; refine O_ev WideF.wide rfl (Ev_llen rfl) rfl rfl ?_) | (show opsA _ _ _ _ (⟨_, .unOp _ _ _, _, _, _, _⟩ :: _) _ _; refine O_ev WideF.wide rfl (Ev_not rfl) rfl rfl ?_) | (show opsA _ _ _ _ (⟨_, .build _ _, _, _, _, _⟩ :: _) _ _; refine O_ev WideF.wide rfl (Ev_build (vs := []) trivial rfl) rfl rfl ?_) | (show opsA _ _ _ _ (⟨_, .box _ _, _, _, _, _⟩ :: _) _ _; (refine O_ef rfl (Ef_boxa WideF.wide rfl rfl ?_); intro b)) | refine O_skip WideF.wide rfl rfl rfl ?_))
  all_goals first
    | (exfalso; omega)
    | (refine End_e (Ret1 rfl rfl) ⟨?_, rfl⟩; refine congrArg Value.bool ?_; rw [Bool.eq_iff_iff]; simp only [decide_eq_true_eq, Bool.false_eq_true, true_iff, false_iff, iff_true, iff_false, hs]; grind)
noncomputable def fmtP (s : Splice) : Prop := (¬ (1 ≤ s.kind ∧ s.kind ≤ 5) ∧ ¬ s.id = 0) ∨ (¬ (1 ≤ s.kind ∧ s.kind ≤ 5) ∧ ¬ s.at_ = 0) ∨ (¬ (s.kind = 3 ∨ s.kind = 5) ∧ ¬ s.sub = 0) ∨ spareP s.kind s.old ∨ spareP s.kind s.new
noncomputable instance (s : Splice) : Decidable (fmtP s) := Classical.propDecidable _
noncomputable def chk (s : Splice) : Int := if ¬ (1 ≤ s.kind ∧ s.kind ≤ 7) then 3 else if fmtP s then 15 else if ¬ chkP s.old = 0 then chkP s.old else chkP s.new
theorem SplH.one {H : Hp} {cs : List Value} {s : Splice} (h : SplH H cs s) : cs.length = 28 ∧ ∀ u ∈ cs, u.oneCell' = true := by
  obtain ⟨o, n, rfl, h1, h2⟩ := h.ex
  obtain ⟨l1, o1⟩ := h1.one
  obtain ⟨l2, o2⟩ := h2.one
  refine ⟨by simp [l1, l2], fun u hu => ?_⟩
  simp only [List.mem_cons, List.mem_append] at hu
  rcases hu with rfl | rfl | rfl | rfl | hu | hu
  · rfl
  · rfl
  · rfl
  · rfl
  · exact o1 u hu
  · exact o2 u hu
set_option maxRecDepth 100000 in
set_option maxHeartbeats 4000000 in
theorem Check_fn {H : Hp} {cs : List Value} {s : Splice} (hx : SplH H cs s) (hm : s.fine) : Fn Tryz.prog 13 [.agg cs.toArray] H [] fun v _ I => v = .int .i64 (chk s) ∧ I = [] := by
  have hone := hx.one.2
  obtain ⟨ocs, ncs, rfl, p1, p2⟩ := hx.ex
  have h1 := fun Hx => kinds_fn (H := Hx)
  have h2 := fun Hx (h : HLe H Hx) => spare_fn (k := s.kind) (p1.mono h) hm.1
  have h3 := fun Hx (h : HLe H Hx) => spare_fn (k := s.kind) (p2.mono h) hm.2
  have h4 := fun Hx (h : HLe H Hx) => checkPiece_fn (p1.mono h) hm.1
  have h5 := fun Hx (h : HLe H Hx) => checkPiece_fn (p2.mono h) hm.2
  obtain ⟨o1, o2, o3, o4, o5, o6, o7, o8, o9, o10, o11, o12, rfl⟩ := list12 p1.one.1
  obtain ⟨u1, u2, u3, u4, u5, u6, u7, u8, u9, u10, u11, u12, rfl⟩ := list12 p2.one.1
  have hs : chk s = if ¬ (1 ≤ s.kind ∧ s.kind ≤ 7) then 3 else if fmtP s then 15 else if ¬ chkP s.old = 0 then chkP s.old else chkP s.new := rfl
  have hf : fmtP s ↔ (¬ (1 ≤ s.kind ∧ s.kind ≤ 5) ∧ ¬ s.id = 0) ∨ (¬ (1 ≤ s.kind ∧ s.kind ≤ 5) ∧ ¬ s.at_ = 0) ∨ (¬ (s.kind = 3 ∨ s.kind = 5) ∧ ¬ s.sub = 0) ∨ spareP s.kind s.old ∨ spareP s.kind s.new := Iff.rfl
  refine Fn_of _ _ Tryz.func13 rfl Tryz.ntmps13 rfl fun c => ?_
  repeat' (first | (refine O_ef rfl (Ef_boxa WideF.wide (cs := _ :: _ :: _ :: _ :: ([_, _, _, _, _, _, _, _, _, _, _, _] ++ [_, _, _, _, _, _, _, _, _, _, _, _])) rfl rfl ?_); intro b1; refine O_freezeBox hone ?_; intro H1 hle1 hb1; have g := hle1) | (refine A_drawM WideF.wide (.q 1 (.q 2 (.f 0 (.f 3 (.q 4 (.q 5 (.q 6 (.e 7 (.e 8 (.q 9 (.done []))))))) 7 (.e 3 (.q 4 (.q 5 (.q 6 (.e 8 (.q 9 (.done [])))))))) 7 (.e 0 (.e 3 (.q 4 (.q 5 (.q 6 (.e 8 (.q 9 (.done []))))))))))) [] (by decide +kernel) ?_) | (show drQ _ _ _ ⟨_, .load _ _, _, _, _, _⟩ _ _; refine D_ev rfl (Ev_loadH1 rfl (hb1 0 _ rfl)) rfl rfl ?_) | (refine E_ef rfl (Ef_call (I := []) WideF.wide (h1 _) trivial rfl ?_); rintro v H2 I2 hle2 ⟨bm, rfl, rfl, rfl⟩; refine ⟨⟨hle2, rfl⟩, ?_⟩); have hb1 := hb1.mono hle2; have g := g.trans hle2; clear hle2 | (refine E_ef rfl (Ef_ev WideF.wide (Ev_kind (i := 0) rfl rfl rfl) rfl rfl ?_); refine ⟨Grow.same rfl rfl, ?_⟩) | (refine E_ef rfl (Ef_ev WideF.wide (Ev_kind (i := 1) rfl rfl rfl) rfl rfl ?_); refine ⟨Grow.same rfl rfl, ?_⟩) | (show opsA _ _ _ _ (⟨_, .load _ _, _, _, _, _⟩ :: _) _ _; first | refine O_ev WideF.wide rfl (Ev_loadH1 rfl (hb1 1 _ rfl)) rfl rfl ?_ | refine O_ev WideF.wide rfl (Ev_loadH1 rfl (hb1 2 _ rfl)) rfl rfl ?_ | refine O_ev WideF.wide rfl (Ev_loadH1 rfl (hb1 3 _ rfl)) rfl rfl ?_ | refine O_ev WideF.wide rfl (Ev_loadH rfl (hb1.sub 4 12) rfl) rfl rfl ?_ | refine O_ev WideF.wide rfl (Ev_loadH rfl (hb1.sub 16 12) rfl) rfl rfl ?_) | (refine O_ef rfl (Ef_call (I := []) WideF.wide (h2 _ g) ⟨rfl, rfl, trivial⟩ rfl ?_); rintro v H3 I3 hle3 ⟨rfl, rfl⟩); have hb1 := hb1.mono hle3; have g := g.trans hle3; clear hle3 | (refine O_ef rfl (Ef_call (I := []) WideF.wide (h3 _ g) ⟨rfl, rfl, trivial⟩ rfl ?_); rintro v H3 I3 hle3 ⟨rfl, rfl⟩); have hb1 := hb1.mono hle3; have g := g.trans hle3; clear hle3 | (refine O_ef rfl (Ef_call (I := []) WideF.wide (h4 _ g) ⟨rfl, trivial⟩ rfl ?_); rintro v H4 I4 hle4 ⟨rfl, rfl⟩); have hb1 := hb1.mono hle4; have g := g.trans hle4; clear hle4 | (refine O_ef rfl (Ef_call (I := []) WideF.wide (h5 _ g) ⟨rfl, trivial⟩ rfl ?_); rintro v H5 I5 hle5 ⟨rfl, rfl⟩) | refine O_nil ?_ | refine A_seq ?_ | refine A_region ?_ | refine A_skip ?_ | refine A_ret ?_ | refine A_block ?_ | (show drJ _ _ _ _ _ _ _ (.q _ _) _; refine D_q rfl ?_) | (show drJ _ _ _ _ _ _ _ (.e _ _) _; refine D_e rfl ?_) | (show drJ _ _ _ _ _ _ _ (.f _ _ _ _) _; refine D_f rfl rfl ?_ ?_) | (show drJ _ _ _ _ _ _ _ (.done _) _; refine D_done ?_; simp only [List.cons_append, List.nil_append]) | (show drQ _ _ _ _ _ _; first | refine D_ev rfl (Ev_pure rfl) rfl rfl ?_ | (show drQ _ _ _ ⟨_, .fieldAddr _ _ _, _, _, _, _⟩ _ _; refine D_ev rfl (Ev_fieldAddr rfl rfl rfl) rfl rfl ?_)) | (show drE _ _ _ _ _ _ _; first | (show drE _ _ _ _ ⟨_, .alloc _, _, _, _, _⟩ _ _; (refine E_ef rfl (Ef_alloc WideF.wide rfl ?_); intro b; refine ⟨Grow.same rfl rfl, ?_⟩)) | (show drE _ _ _ _ ⟨_, .store _ _ _, _, _, _, _⟩ _ _; first | (refine E_ef rfl (Ef_storew WideF.wide rfl rfl rfl rfl rfl ?_); refine ⟨Grow.same rfl rfl, ?_⟩) | (refine E_ef rfl (Ef_f1 (Ef_storew WideF.wide rfl rfl rfl rfl rfl ?_)); refine ⟨Grow.same rfl rfl, ?_⟩))) | (show opsA _ _ _ _ _ _ _; first | (refine O_split rfl rfl (fun h => ?_) (fun h => ?_) <;> try (exfalso; omega)) | refine O_ev WideF.wide rfl (Ev_pure rfl) rfl rfl ?_ | (show opsA _ _ _ _ (⟨_, .load _ _, _, _, _, _⟩ :: _) _ _; first | refine O_ev WideF.wide rfl (Ev_loadB1 (i := 0) rfl rfl rfl) rfl rfl ?_ | refine O_ev WideF.wide rfl (Ev_loadB (i := 0) rfl rfl rfl) rfl rfl ?_) | (show opsA _ _ _ _ (⟨_, .fieldAddr _ _ _, _, _, _, _⟩ :: _) _ _; refine O_ev WideF.wide rfl (Ev_fieldAddr rfl rfl rfl) rfl rfl ?_) | (show opsA _ _ _ _ (⟨_, .unOp _ _ _, _, _, _, _⟩ :: _) _ _; refine O_ev WideF.wide rfl (Ev_not rfl) rfl rfl ?_) | refine O_skip WideF.wide rfl rfl rfl ?_) | (show wpA _ _ _ (.cond _ _ _) _ _ _ _; first | (refine A_if rfl (fun h => ?_) (fun h => ?_) <;> try (exfalso; omega)) | refine A_iftrue rfl ?_))
  all_goals first
    | (exfalso; omega)
    | (refine End_e (Ret1 rfl rfl) ⟨?_, rfl⟩; rw [hs]; refine congrArg _ ?_; grind)
/-! ### Size -/
def size (k : Int) (p : Piece) : Int := if k = 1 then lenV p.items else if k = 2 then p.rows.length else if k = 3 then p.cells.length else 1
set_option maxRecDepth 100000 in
theorem size_fn {H : Hp} {cs : List Value} {p : Piece} {k : Int} (hx : PieceH H cs p) (hm : p.fine) : FnP Tryz.prog 64 [.int .i64 k, .agg cs.toArray] H (.int .i64 (size k p)) := by
  obtain ⟨ia, iN, ic, ra, rn, rc, ca, cn, cc, hcs, scs, rfl, p1, p2, p3, p4, p5⟩ := hx.ex
  obtain ⟨m1, m2⟩ := hm
  obtain ⟨qa, qn, qc, da, dn, dc, la, ln, lc, rfl, _⟩ := p4.ex
  obtain ⟨sa, sn, sc, ua, un, uc, ka, kn, kc, va, vn, vc, rfl, _⟩ := p5.ex
  have h1 := Len_fn p1 (by omega)
  have e2 := p2.len
  have e3 := p3.len
  have hs : size k p = if k = 1 then lenV p.items else if k = 2 then (rn : Int) else if k = 3 then (cn : Int) else 1 := by unfold size; rw [e2, e3]
  refine Fn_of _ _ Tryz.func64 rfl Tryz.ntmps64 rfl fun c => ?_
  repeat' (first | (refine O_ef rfl (Ef_callp WideF.wide (h1) ⟨rfl, trivial⟩ rfl ?_)) | refine O_nil ?_ | refine A_seq ?_ | refine A_region ?_ | refine A_skip ?_ | refine A_ret ?_ | refine A_block ?_ | (show opsA _ _ _ _ _ _ _; first | refine O_ev WideF.wide rfl (Ev_pure rfl) rfl rfl ?_ | (show opsA _ _ _ _ (⟨_, .load _ _, _, _, _, _⟩ :: _) _ _; refine O_ev WideF.wide rfl (Ev_loadB1 (i := 0) rfl rfl rfl) rfl rfl ?_) | (show opsA _ _ _ _ (⟨_, .fieldAddr _ _ _, _, _, _, _⟩ :: _) _ _; refine O_ev WideF.wide rfl (Ev_fieldAddr rfl rfl rfl) rfl rfl ?_) | (show opsA _ _ _ _ (⟨_, .call _, _, _, _, _⟩ :: _) _ _; refine O_ev WideF.wide rfl (Ev_llen rfl) rfl rfl ?_) | (show opsA _ _ _ _ (⟨_, .box _ _, _, _, _, _⟩ :: _) _ _; (refine O_ef rfl (Ef_boxa WideF.wide rfl rfl ?_); intro b))) | (show wpA _ _ _ (.cond _ _ _) _ _ _ _; (refine A_if rfl (fun h => ?_) (fun h => ?_) <;> try (exfalso; omega))))
  all_goals ((refine End_p (Ret1 rfl rfl) ?_); rw [hs]; refine congrArg _ ?_; grind)
set_option maxRecDepth 100000 in
set_option maxHeartbeats 1000000 in
theorem Size_fn {H : Hp} {cs : List Value} {s : Splice} (hx : SplH H cs s) (hm : s.fine) (hok : chk s = 0) : Fn Tryz.prog 33 [.agg cs.toArray] H [] fun v _ I => v = .tuple [.int .i64 (size s.kind s.old), .int .i64 (size s.kind s.new)].toArray ∧ I = [] := by
  have hone := hx.one.2
  have h0 := fun Hx (h : HLe H Hx) => Check_fn (hx.mono h) hm
  rw [hok] at h0
  obtain ⟨ocs, ncs, rfl, p1, p2⟩ := hx.ex
  have h1 := fun Hx (h : HLe H Hx) => size_fn (k := s.kind) (p1.mono h) hm.1
  have h2 := fun Hx (h : HLe H Hx) => size_fn (k := s.kind) (p2.mono h) hm.2
  obtain ⟨o1, o2, o3, o4, o5, o6, o7, o8, o9, o10, o11, o12, rfl⟩ := list12 p1.one.1
  obtain ⟨u1, u2, u3, u4, u5, u6, u7, u8, u9, u10, u11, u12, rfl⟩ := list12 p2.one.1
  refine Fn_of _ _ Tryz.func33 rfl Tryz.ntmps33 rfl fun c => ?_
  repeat' (first | (refine O_ef rfl (Ef_boxa WideF.wide (cs := _ :: _ :: _ :: _ :: ([_, _, _, _, _, _, _, _, _, _, _, _] ++ [_, _, _, _, _, _, _, _, _, _, _, _])) rfl rfl ?_); intro b1; refine O_freezeBox hone ?_; intro H1 hle1 hb1; have g := hle1) | (show opsA _ _ _ _ (⟨_, .load _ _, _, _, _, _⟩ :: _) _ _; refine O_ev WideF.wide rfl (Ev_loadH rfl hb1 rfl) rfl rfl ?_) | (refine O_ef rfl (Ef_call (I := []) WideF.wide (h0 _ g) ⟨rfl, trivial⟩ rfl ?_); rintro v H2 I2 hle2 ⟨rfl, rfl⟩); have hb1 := hb1.mono hle2; have g := g.trans hle2; clear hle2 | (refine A_drawM WideF.wide (.q 0 (.q 1 (.q 2 (.q 3 (.q 5 (.q 6 (.q 7 (.q 8 (.e 4 (.e 9 (.q 10 (.q 11 (.done []))))))))))))) [] (by decide +kernel) ?_) | (show drQ _ _ _ ⟨_, .load _ _, _, _, _, _⟩ _ _; first | refine D_ev rfl (Ev_loadH1 rfl (hb1 0 _ rfl)) rfl rfl ?_ | refine D_ev rfl (Ev_loadH rfl (hb1.sub 4 12) rfl) rfl rfl ?_ | refine D_ev rfl (Ev_loadH rfl (hb1.sub 16 12) rfl) rfl rfl ?_) | (refine E_ef rfl (Ef_callp WideF.wide (h1 _ g) ⟨rfl, rfl, trivial⟩ rfl ?_); refine ⟨Grow.same rfl rfl, ?_⟩) | (refine E_ef rfl (Ef_callp WideF.wide (h2 _ g) ⟨rfl, rfl, trivial⟩ rfl ?_); refine ⟨Grow.same rfl rfl, ?_⟩) | refine O_nil ?_ | refine A_seq ?_ | refine A_region ?_ | refine A_skip ?_ | refine A_ret ?_ | (show drJ _ _ _ _ _ _ _ (.q _ _) _; refine D_q rfl ?_) | (show drJ _ _ _ _ _ _ _ (.e _ _) _; refine D_e rfl ?_) | (show drJ _ _ _ _ _ _ _ (.done _) _; refine D_done ?_; simp only [List.cons_append, List.nil_append]) | (show drQ _ _ _ _ _ _; first | refine D_ev rfl (Ev_pure rfl) rfl rfl ?_ | (show drQ _ _ _ ⟨_, .fieldAddr _ _ _, _, _, _, _⟩ _ _; refine D_ev rfl (Ev_fieldAddr rfl rfl rfl) rfl rfl ?_)) | (show opsA _ _ _ _ _ _ _; refine O_ev WideF.wide rfl (Ev_pure rfl) rfl rfl ?_) | (show wpA _ _ _ (.cond _ _ _) _ _ _ _; (refine A_if rfl (fun h => ?_) (fun h => ?_) <;> try (exfalso; omega))))
  all_goals first
    | (exfalso; omega)
    | exact End_e (Ret2 rfl rfl rfl) ⟨rfl, rfl⟩
    | (exfalso; exact absurd rfl (by assumption))

end Go.Proofs.YtofkolbnhcckkaaGreat
