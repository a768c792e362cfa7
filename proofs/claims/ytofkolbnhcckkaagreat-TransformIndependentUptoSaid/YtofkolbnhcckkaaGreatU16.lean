/-
  The law's count and Few: some result. Printed by genU16.py.
-/
import Derived.Test.YtofkolbnhcckkaaGreatU15
namespace Go.Proofs.YtofkolbnhcckkaaGreat
open Go
set_option linter.unusedVariables false
set_option linter.unusedSimpArgs false
theorem massL_snoc {l : List Item} {i : Nat} {x : Item} (h : l[i]? = some x) : massL (l.take (i + 1)) = massL (l.take i) + x.mass := by rw [take_get h, massL_append]; simp [massL]
theorem massR_snoc {l : List Row} {i : Nat} {x : Row} (h : l[i]? = some x) : massR (l.take (i + 1)) = massR (l.take i) + (1 + x.1.mass + massC x.2) := by rw [take_get h, massR_append]; obtain ⟨a, b⟩ := x; simp [massR]
theorem massC_snoc {l : List Cell} {i : Nat} {x : Cell} (h : l[i]? = some x) : massC (l.take (i + 1)) = massC (l.take i) + (1 + x.2.1.mass + massL x.2.2) := by rw [take_get h, massC_append]; obtain ⟨a, b, c⟩ := x; simp [massC]
attribute [local irreducible] wpA opsA drJ drQ drE Ef Ev Shift Fn
def CountC (N : Nat) : Prop := ∀ (H : Hp) (a : Option Addr) (n cp : Nat) (l : List Item) (b : Nat) (z lv : Int), FlowH H a n cp l → massL l < N → massL l < 34359738368 → massL l - 1099511627776 ≤ z → z ≤ 1000 → 0 ≤ lv → lv ≤ 1000 →
  Fn Tryz.prog 46 [.slice a n cp, .int .i64 lv, .pointer (some ⟨b, 0, none⟩)] H [.box b [.int .i64 z]] fun v _ I => ∃ (r : Bool) (z' : Int), v = .bool r ∧ I = [.box b [.int .i64 z']] ∧ z - massL l ≤ z' ∧ z' ≤ z
set_option maxRecDepth 100000 in
set_option maxHeartbeats 8000000 in
theorem count_step {N : Nat} (hN : CountC N) : CountC (N + 1) := by
  intro H a n cp l b z lv hl0 hm hm2 hz hz2 hlv hlv2
  have e1 := hl0.len
  have f1 := massL_len l
  refine Fn_of _ _ Tryz.func46 rfl Tryz.ntmps46 rfl fun c => ?_
  repeat' (first | refine O_nil ?_ | refine A_seq ?_ | refine A_region ?_ | refine A_block ?_ | (show opsA _ _ _ _ _ _ _; refine O_ev WideF.wide rfl (Ev_pure rfl) rfl rfl ?_))
  refine A_loopu (fun q s => ∃ (i : Nat) (H1 : Hp) (zi : Int), q = n - i ∧ i ≤ n ∧ HLe H H1 ∧ z - massL (l.take i) ≤ zi ∧ zi ≤ z ∧ s = ⟨133, [(0, .slice a n cp), (1, .int .i64 lv), (2, .pointer (some ⟨b, 0, none⟩)), (7, .int .i64 i)], H1, [.box b [.int .i64 zi]], [], []⟩) ?_ ?_
  · exact Shift.to ⟨_, 0, H, z, rfl, by omega, HLe.refl _, by simp [massL], Int.le_refl _, rfl⟩ ⟨rfl, rfl, rfl, ⟨rfl, rfl, rfl, rfl, trivial⟩, Own.subi [0] (by decide) rfl rfl⟩
  rintro q s ⟨i, H1, zi, rfl, hi, hle1, hzi, hzi2, rfl⟩
  by_cases hlt : i < n
  · obtain ⟨bb, bo, rcs, y, rfl, hy, hyc, hyk, hc⟩ := (FlowH.mono hle1 hl0).at i hlt
    have hme := y.mass_eq
    have hmg := massL_get hy
    have hsn := massL_snoc hy
    obtain ⟨pa, pn, pc, ea, en, ec, qa, qn, qc, fa, fn, fc, ra, rn, rc, rfl, hpr, -, -, hf, hr⟩ := hyc.cells
    have e2 := hr.len
    have f2 := massR_len y.rows
    have e3 := hpr.len
    rw [List.length_map] at e3
    have e4 : y.head.props.length ≤ y.head.mass := by unfold Head.mass; omega
    have hcall := fun Hx (h : HLe H1 Hx) (hlv1 : ¬ lv = 0) => hN Hx fa fn fc y.flow b (zi - 1) (lv - 1) (FlowH.mono h hf) (by omega) (by omega) (by omega) (by omega) (by omega) (by omega)
    by_cases hlv1 : lv = 0
    · repeat' (first | refine O_nil ?_ | refine A_seq ?_ | refine A_region ?_ | refine A_skip ?_ | refine A_ret ?_ | refine A_block ?_ | (show opsA _ _ _ _ _ _ _; first | (refine O_split rfl rfl (fun h => ?_) (fun h => ?_) <;> try (exfalso; omega)) | refine O_ev WideF.wide rfl (Ev_pure rfl) rfl rfl ?_ | (show opsA _ _ _ _ (⟨_, .load _ _, _, _, _, _⟩ :: _) _ _; refine O_ev WideF.wide rfl (Ev_loadB1 (i := 0) rfl rfl rfl) rfl rfl ?_) | (show opsA _ _ _ _ (⟨_, .call _, _, _, _, _⟩ :: _) _ _; refine O_ev WideF.wide rfl (Ev_llen rfl) rfl rfl ?_) | (show opsA _ _ _ _ (⟨_, .binOp _ _ _ _ _, _, _, _, _⟩ :: _) _ _; refine O_ev WideF.wide rfl (Ev_sub rfl rfl (wi64 (by omega))) rfl rfl ?_) | (show opsA _ _ _ _ (⟨_, .nilCheck _, _, _, _, _⟩ :: _) _ _; refine O_ev WideF.wide rfl (Ev_nilCheck rfl) rfl rfl ?_) | (show opsA _ _ _ _ (⟨_, .store _ _ _, _, _, _, _⟩ :: _) _ _; refine O_ef rfl (Ef_store1 WideF.wide rfl rfl rfl rfl rfl ?_)) | refine O_skip WideF.wide rfl rfl rfl ?_) | (show wpA _ _ _ (.cond _ _ _) _ _ _ _; first | (refine A_if rfl (fun h => ?_) (fun h => ?_) <;> try (exfalso; omega)) | refine A_iftrue rfl ?_))
      all_goals first
        | (exfalso; omega)
        | exact End_m (Ret1 rfl rfl) ⟨_, _, rfl, rfl, by omega, by omega⟩
        | trace_state
    · replace hcall := fun Hx h => hcall Hx h hlv1
      repeat' (first | (refine O_ef rfl (Ef_call (I := [_]) WideF.wide (hcall _ (HLe.refl _)) ⟨rfl, rfl, rfl, trivial⟩ rfl ?_); rintro v H2 I2 hle2 ⟨r, z2, rfl, rfl, hz1, hz3⟩; cases r) | refine O_nil ?_ | refine A_seq ?_ | refine A_region ?_ | refine A_skip ?_ | refine A_ret ?_ | refine A_block ?_ | (show opsA _ _ _ _ _ _ _; first | (refine O_split rfl rfl (fun h => ?_) (fun h => ?_) <;> try (exfalso; omega)) | refine O_ev WideF.wide rfl (Ev_pure rfl) rfl rfl ?_ | (show opsA _ _ _ _ (⟨_, .load _ _, _, _, _, _⟩ :: _) _ _; first | refine O_ev WideF.wide rfl (Ev_loadB1 (i := 0) rfl rfl rfl) rfl rfl ?_ | refine O_ev WideF.wide rfl (Ev_loadH1 rfl (hc 3 _ rfl)) rfl rfl ?_ | refine O_ev WideF.wide rfl (Ev_loadH1 rfl (hc 4 _ rfl)) rfl rfl ?_ | refine O_ev WideF.wide rfl (Ev_loadH1 rfl (hc 9 _ rfl)) rfl rfl ?_ | refine O_ev WideF.wide rfl (Ev_loadH1 rfl (hc 10 _ rfl)) rfl rfl ?_) | (show opsA _ _ _ _ (⟨_, .indexAddr _ _ _, _, _, _, _⟩ :: _) _ _; refine O_ev WideF.wide rfl (Ev_indexAddr rfl rfl (by omega) (by omega)) rfl rfl ?_) | (show opsA _ _ _ _ (⟨_, .fieldAddr _ _ _, _, _, _, _⟩ :: _) _ _; refine O_ev WideF.wide rfl (Ev_fieldAddr rfl rfl rfl) rfl rfl ?_) | (show opsA _ _ _ _ (⟨_, .call _, _, _, _, _⟩ :: _) _ _; first | refine O_ev WideF.wide rfl (Ev_llen rfl) rfl rfl ?_ | refine O_ev WideF.wide rfl (Ev_slen rfl) rfl rfl ?_) | (show opsA _ _ _ _ (⟨_, .binOp _ _ _ _ _, _, _, _, _⟩ :: _) _ _; refine O_ev WideF.wide rfl (Ev_sub rfl rfl (wi64 (by omega))) rfl rfl ?_) | (show opsA _ _ _ _ (⟨_, .unOp _ _ _, _, _, _, _⟩ :: _) _ _; refine O_ev WideF.wide rfl (Ev_notb rfl) rfl rfl ?_) | (show opsA _ _ _ _ (⟨_, .nilCheck _, _, _, _, _⟩ :: _) _ _; refine O_ev WideF.wide rfl (Ev_nilCheck rfl) rfl rfl ?_) | (show opsA _ _ _ _ (⟨_, .store _ _ _, _, _, _, _⟩ :: _) _ _; refine O_ef rfl (Ef_store1 WideF.wide rfl rfl rfl rfl rfl ?_)) | refine O_skip WideF.wide rfl rfl rfl ?_) | (show wpA _ _ _ (.cond _ _ _) _ _ _ _; first | (refine A_if rfl (fun h => ?_) (fun h => ?_) <;> try (exfalso; omega)) | refine A_iftrue rfl ?_ | refine A_iffalse rfl ?_))
      all_goals first
        | (exfalso; omega)
        | exact End_m (Ret1 rfl rfl) ⟨_, _, rfl, rfl, by omega, by omega⟩
        | skip
      refine A_loopu (fun q s => ∃ (j : Nat) (H3 : Hp) (zj : Int), q = rn - j ∧ j ≤ rn ∧ HLe H2 H3 ∧ z2 - massR (y.rows.take j) ≤ zj ∧ zj ≤ z2 ∧ s = ⟨133, [(0, .slice (some ⟨bb, bo, none⟩) n cp), (1, .int .i64 lv), (2, .pointer (some ⟨b, 0, none⟩)), (7, .int .i64 i), (8, .int .i64 j)], H3, [.box b [.int .i64 zj]], [], []⟩) ?_ ?_
      · exact Shift.to ⟨_, 0, H2, z2, rfl, by omega, HLe.refl _, by simp [massR], Int.le_refl _, rfl⟩ ⟨rfl, rfl, rfl, ⟨rfl, rfl, rfl, rfl, rfl, trivial⟩, Own.subi [0] (by decide) rfl rfl⟩
      rintro q s ⟨j, H3, zj, rfl, hj, hle3, hzj, hzj2, rfl⟩
      have hc3 := (hc.mono hle2).mono hle3
      by_cases hlt2 : j < rn
      · obtain ⟨cb, co, rcs, w, rfl, hw, hwc, hwk, hd⟩ := (RowsS.mono (hle2.trans hle3) hr).at j hlt2
        have hmw := massR_get hw
        have hsw := massR_snoc hw
        obtain ⟨pa', pn', pc', ea', en', ec', qa', qn', qc', ua, un, uc, rfl, -, -, -, hu⟩ := hwc.cells
        have e5 := hu.len
        have f5 := massC_len w.2
        clear hc
        have hc := hc3
        repeat' (first | (refine O_ev WideF.wide rfl (Ev_loadH1 rfl (hd 5 _ rfl)) rfl rfl ?_) | refine O_nil ?_ | refine A_seq ?_ | refine A_region ?_ | refine A_skip ?_ | refine A_ret ?_ | refine A_block ?_ | (show opsA _ _ _ _ _ _ _; first | refine O_ev WideF.wide rfl (Ev_pure rfl) rfl rfl ?_ | (show opsA _ _ _ _ (⟨_, .load _ _, _, _, _, _⟩ :: _) _ _; refine O_ev WideF.wide rfl (Ev_loadH1 rfl (hc 10 _ rfl)) rfl rfl ?_) | (show opsA _ _ _ _ (⟨_, .indexAddr _ _ _, _, _, _, _⟩ :: _) _ _; refine O_ev WideF.wide rfl (Ev_indexAddr rfl rfl (by omega) (by omega)) rfl rfl ?_) | (show opsA _ _ _ _ (⟨_, .fieldAddr _ _ _, _, _, _, _⟩ :: _) _ _; refine O_ev WideF.wide rfl (Ev_fieldAddr rfl rfl rfl) rfl rfl ?_) | (show opsA _ _ _ _ (⟨_, .call _, _, _, _, _⟩ :: _) _ _; refine O_ev WideF.wide rfl (Ev_llen rfl) rfl rfl ?_)) | (show wpA _ _ _ (.cond _ _ _) _ _ _ _; (refine A_if rfl (fun h => ?_) (fun h => ?_) <;> try (exfalso; omega))))
        all_goals first
          | (exfalso; omega)
          | exact End_m (Ret1 rfl rfl) ⟨_, _, rfl, rfl, by omega, by omega⟩
          | skip
        refine A_loopu (fun q s => ∃ (k : Nat) (H4 : Hp) (zk : Int), q = un - k ∧ k ≤ un ∧ HLe H3 H4 ∧ zj - massC (w.2.take k) ≤ zk ∧ zk ≤ zj ∧ s = ⟨133, [(0, .slice (some ⟨bb, bo, none⟩) n cp), (1, .int .i64 lv), (2, .pointer (some ⟨b, 0, none⟩)), (7, .int .i64 i), (8, .int .i64 j), (9, .int .i64 k)], H4, [.box b [.int .i64 zk]], [], []⟩) ?_ ?_
        · exact Shift.to ⟨_, 0, H3, zj, rfl, by omega, HLe.refl _, by simp [massC], Int.le_refl _, rfl⟩ ⟨rfl, rfl, rfl, ⟨rfl, rfl, rfl, rfl, rfl, rfl, trivial⟩, Own.subi [0] (by decide) rfl rfl⟩
        rintro q s ⟨k, H4, zk, rfl, hk, hle4, hzk, hzk2, rfl⟩
        have hc := hc3.mono hle4
        have hd := hd.mono hle4
        by_cases hlt3 : k < un
        · obtain ⟨kb, ko, rcs, x, rfl, hx, hxc, hxk, he⟩ := (CellsS.mono hle4 hu).at k hlt3
          have hmx := massC_get hx
          have hsx := massC_snoc hx
          obtain ⟨pa', pn', pc', ea', en', ec', qa', qn', qc', ga, gn, gc, rfl, -, -, -, hg⟩ := hxc.cells
          have hcall2 := hN H4 ga gn gc x.2.2 b (zk - 1) (lv - 1) hg (by omega) (by omega) (by omega) (by omega) (by omega) (by omega)
          repeat' (first | (refine O_ev WideF.wide rfl (Ev_loadH1 rfl (hd 5 _ rfl)) rfl rfl ?_) | (refine O_ev WideF.wide rfl (Ev_loadH1 rfl (he 6 _ rfl)) rfl rfl ?_) | (refine O_ef rfl (Ef_call (I := [_]) WideF.wide hcall2 ⟨rfl, rfl, rfl, trivial⟩ rfl ?_); rintro v H5 I5 hle5 ⟨r, z5, rfl, rfl, hz51, hz52⟩; cases r) | refine O_nil ?_ | refine A_seq ?_ | refine A_region ?_ | refine A_skip ?_ | refine A_ret ?_ | refine A_block ?_ | (show opsA _ _ _ _ _ _ _; first | (refine O_split rfl rfl (fun h => ?_) (fun h => ?_) <;> try (exfalso; omega)) | refine O_ev WideF.wide rfl (Ev_pure rfl) rfl rfl ?_ | (show opsA _ _ _ _ (⟨_, .load _ _, _, _, _, _⟩ :: _) _ _; first | refine O_ev WideF.wide rfl (Ev_loadB1 (i := 0) rfl rfl rfl) rfl rfl ?_ | refine O_ev WideF.wide rfl (Ev_loadH1 rfl (hc 10 _ rfl)) rfl rfl ?_) | (show opsA _ _ _ _ (⟨_, .indexAddr _ _ _, _, _, _, _⟩ :: _) _ _; refine O_ev WideF.wide rfl (Ev_indexAddr rfl rfl (by omega) (by omega)) rfl rfl ?_) | (show opsA _ _ _ _ (⟨_, .fieldAddr _ _ _, _, _, _, _⟩ :: _) _ _; refine O_ev WideF.wide rfl (Ev_fieldAddr rfl rfl rfl) rfl rfl ?_) | (show opsA _ _ _ _ (⟨_, .call _, _, _, _, _⟩ :: _) _ _; refine O_ev WideF.wide rfl (Ev_llen rfl) rfl rfl ?_) | (show opsA _ _ _ _ (⟨_, .binOp _ _ _ _ _, _, _, _, _⟩ :: _) _ _; first | refine O_ev WideF.wide rfl (Ev_add rfl rfl (wi64 (by omega))) rfl rfl ?_ | refine O_ev WideF.wide rfl (Ev_sub rfl rfl (wi64 (by omega))) rfl rfl ?_) | (show opsA _ _ _ _ (⟨_, .unOp _ _ _, _, _, _, _⟩ :: _) _ _; refine O_ev WideF.wide rfl (Ev_notb rfl) rfl rfl ?_) | (show opsA _ _ _ _ (⟨_, .nilCheck _, _, _, _, _⟩ :: _) _ _; refine O_ev WideF.wide rfl (Ev_nilCheck rfl) rfl rfl ?_) | (show opsA _ _ _ _ (⟨_, .store _ _ _, _, _, _, _⟩ :: _) _ _; refine O_ef rfl (Ef_store1 WideF.wide rfl rfl rfl rfl rfl ?_)) | refine O_skip WideF.wide rfl rfl rfl ?_) | (show wpA _ _ _ (.cond _ _ _) _ _ _ _; first | (refine A_if rfl (fun h => ?_) (fun h => ?_) <;> try (exfalso; omega)) | refine A_iftrue rfl ?_ | refine A_iffalse rfl ?_))
          all_goals first
            | (exfalso; omega)
            | exact End_m (Ret1 rfl rfl) ⟨_, _, rfl, rfl, by omega, by omega⟩
            | exact Shift.to ⟨_, by omega, k + 1, H5, z5, rfl, by omega, hle4.trans hle5, by omega, by omega, rfl⟩ ⟨rfl, rfl, rfl, ⟨rfl, rfl, rfl, rfl, rfl, rfl, trivial⟩, Own.subi [0] (by decide) rfl rfl⟩
            | trace_state
        · obtain rfl : un = k := by omega
          rw [List.take_of_length_le (by omega)] at hzk
          repeat' (first | (refine O_ev WideF.wide rfl (Ev_loadH1 rfl (hd 5 _ rfl)) rfl rfl ?_) | refine O_nil ?_ | refine A_seq ?_ | refine A_region ?_ | (show opsA _ _ _ _ _ _ _; first | refine O_ev WideF.wide rfl (Ev_pure rfl) rfl rfl ?_ | (show opsA _ _ _ _ (⟨_, .load _ _, _, _, _, _⟩ :: _) _ _; refine O_ev WideF.wide rfl (Ev_loadH1 rfl (hc 10 _ rfl)) rfl rfl ?_) | (show opsA _ _ _ _ (⟨_, .indexAddr _ _ _, _, _, _, _⟩ :: _) _ _; refine O_ev WideF.wide rfl (Ev_indexAddr rfl rfl (by omega) (by omega)) rfl rfl ?_) | (show opsA _ _ _ _ (⟨_, .fieldAddr _ _ _, _, _, _, _⟩ :: _) _ _; refine O_ev WideF.wide rfl (Ev_fieldAddr rfl rfl rfl) rfl rfl ?_) | (show opsA _ _ _ _ (⟨_, .call _, _, _, _, _⟩ :: _) _ _; refine O_ev WideF.wide rfl (Ev_llen rfl) rfl rfl ?_) | (show opsA _ _ _ _ (⟨_, .binOp _ _ _ _ _, _, _, _, _⟩ :: _) _ _; refine O_ev WideF.wide rfl (Ev_add rfl rfl (wi64 (by omega))) rfl rfl ?_)) | (show wpA _ _ _ (.exit _) _ _ _ _; refine A_exit rfl ?_) | (show wpA _ _ _ (.cond _ _ _) _ _ _ _; (refine A_if rfl (fun h => ?_) (fun h => ?_) <;> try (exfalso; omega))))
          all_goals first
            | (exfalso; omega)
            | exact Shift.to ⟨_, by omega, j + 1, H4, zk, rfl, by omega, hle3.trans hle4, by omega, by omega, rfl⟩ ⟨rfl, rfl, rfl, ⟨rfl, rfl, rfl, rfl, rfl, trivial⟩, Own.subi [0] (by decide) rfl rfl⟩
            | trace_state
      · obtain rfl : rn = j := by omega
        rw [List.take_of_length_le (by omega)] at hzj
        have hc := hc3
        repeat' (first | refine O_nil ?_ | refine A_seq ?_ | refine A_region ?_ | (show opsA _ _ _ _ _ _ _; first | refine O_ev WideF.wide rfl (Ev_pure rfl) rfl rfl ?_ | (show opsA _ _ _ _ (⟨_, .load _ _, _, _, _, _⟩ :: _) _ _; refine O_ev WideF.wide rfl (Ev_loadH1 rfl (hc 10 _ rfl)) rfl rfl ?_) | (show opsA _ _ _ _ (⟨_, .indexAddr _ _ _, _, _, _, _⟩ :: _) _ _; refine O_ev WideF.wide rfl (Ev_indexAddr rfl rfl (by omega) (by omega)) rfl rfl ?_) | (show opsA _ _ _ _ (⟨_, .fieldAddr _ _ _, _, _, _, _⟩ :: _) _ _; refine O_ev WideF.wide rfl (Ev_fieldAddr rfl rfl rfl) rfl rfl ?_) | (show opsA _ _ _ _ (⟨_, .call _, _, _, _, _⟩ :: _) _ _; refine O_ev WideF.wide rfl (Ev_llen rfl) rfl rfl ?_) | (show opsA _ _ _ _ (⟨_, .binOp _ _ _ _ _, _, _, _, _⟩ :: _) _ _; refine O_ev WideF.wide rfl (Ev_add rfl rfl (wi64 (by omega))) rfl rfl ?_)) | (show wpA _ _ _ (.exit _) _ _ _ _; refine A_exit rfl ?_) | (show wpA _ _ _ (.cond _ _ _) _ _ _ _; (refine A_if rfl (fun h => ?_) (fun h => ?_) <;> try (exfalso; omega))))
        all_goals first
          | (exfalso; omega)
          | exact Shift.to ⟨_, by omega, i + 1, H3, zj, rfl, by omega, (hle1.trans hle2).trans hle3, by omega, by omega, rfl⟩ ⟨rfl, rfl, rfl, ⟨rfl, rfl, rfl, rfl, trivial⟩, Own.subi [0] (by decide) rfl rfl⟩
          | trace_state
  · obtain rfl : n = i := by omega
    rw [List.take_of_length_le (by omega)] at hzi
    repeat' (first | refine O_nil ?_ | refine A_seq ?_ | refine A_region ?_ | refine A_ret ?_ | (show opsA _ _ _ _ _ _ _; first | refine O_ev WideF.wide rfl (Ev_pure rfl) rfl rfl ?_ | (show opsA _ _ _ _ (⟨_, .call _, _, _, _, _⟩ :: _) _ _; refine O_ev WideF.wide rfl (Ev_llen rfl) rfl rfl ?_)) | (show wpA _ _ _ (.exit _) _ _ _ _; refine A_exit rfl ?_) | (show wpA _ _ _ (.cond _ _ _) _ _ _ _; (refine A_if rfl (fun h => ?_) (fun h => ?_) <;> try (exfalso; omega))))
    all_goals first
      | (exfalso; omega)
      | exact End_m (Ret1 rfl rfl) ⟨_, _, rfl, rfl, by omega, by omega⟩
      | trace_state
theorem count_all : ∀ N, CountC N
  | 0 => fun H _ _ _ l _ _ _ _ h => absurd h (by omega)
  | N + 1 => count_step (count_all N)
set_option maxRecDepth 100000 in
theorem Few_fn {H : Hp} {a : Option Addr} {n cp : Nat} {l : List Item} (hx : FlowH H a n cp l) (hm : massL l < 34359738368) : Fn Tryz.prog 20 [.slice a n cp, .int .i64 100] H [] fun v _ I => (∃ r : Bool, v = .bool r) ∧ I = [] := by
  have hcall := fun b => count_all (massL l + 1) H a n cp l b 100 12 hx (by omega) hm (by omega) (by decide) (by decide) (by decide)
  refine Fn_of _ _ Tryz.func20 rfl Tryz.ntmps20 rfl fun c => ?_
  repeat' (first | (refine O_ef rfl (Ef_call (I := [_]) WideF.wide (hcall _) ⟨rfl, rfl, rfl, trivial⟩ rfl ?_); rintro v H5 I5 hle5 ⟨r, z5, rfl, rfl, hz51, hz52⟩) | refine O_nil ?_ | refine A_seq ?_ | refine A_region ?_ | refine A_ret ?_ | (show opsA _ _ _ _ _ _ _; first | refine O_ev WideF.wide rfl (Ev_pure rfl) rfl rfl ?_ | (show opsA _ _ _ _ (⟨_, .box _ _, _, _, _, _⟩ :: _) _ _; (refine O_ef rfl (Ef_box1 WideF.wide rfl rfl rfl ?_); intro b))))
  exact End_e (Ret1 rfl rfl) ⟨⟨_, rfl⟩, rfl⟩

end Go.Proofs.YtofkolbnhcckkaaGreat
