/-
  The law's ids, ranges and indices. Printed by genU11.py.
-/
import Derived.Test.YtofkolbnhcckkaaGreatU10
namespace Go.Proofs.YtofkolbnhcckkaaGreat
open Go
set_option linter.unusedVariables false
set_option linter.unusedSimpArgs false
attribute [local irreducible] wpA opsA drJ drQ drE Ef Ev Shift Fn
set_option maxRecDepth 100000 in
theorem lhas_fn {H : Hp} {a : Option Addr} {n cq : Nat} {l : List Int} {x : Int} (hx : HRow H a n cq 1 (l.map irow)) (hm : n < 68719476736) : FnP Tryz.prog 34 [.slice a n cq, .int .i64 x] H (.bool (decide (x ∈ l))) := by
  have e1 : l.length = n := by have := hx.len; simpa using this
  refine Fn_of _ _ Tryz.func34 rfl Tryz.ntmps34 rfl fun c => ?_
  repeat' (first | refine O_nil ?_ | refine A_seq ?_ | refine A_region ?_ | refine A_block ?_ | (show opsA _ _ _ _ _ _ _; refine O_ev WideF.wide rfl (Ev_pure rfl) rfl rfl ?_))
  refine A_loopu (fun m s => ∃ i : Nat, m = n - i ∧ i ≤ n ∧ x ∉ l.take i ∧ s = ⟨18, [(0, .slice a n cq), (1, .int .i64 x), (5, .int .i64 i)], H, [], [], []⟩) ?_ ?_
  · exact Shift.to ⟨_, 0, rfl, by omega, by simp, rfl⟩ ⟨rfl, rfl, rfl, ⟨rfl, rfl, rfl, trivial⟩, Own.sub_nil _⟩
  rintro m s ⟨i, rfl, hi, hno, rfl⟩
  by_cases hlt : i < n
  · obtain ⟨b, o, y, rfl, hyi, hc⟩ := hx.atm i hlt
    unfold irow at hc
    by_cases hxy : y = x
    · repeat' (first | (refine O_ev WideF.wide rfl (Ev_loadH1 rfl (hc 0 _ rfl)) rfl rfl ?_) | refine O_nil ?_ | refine A_seq ?_ | refine A_region ?_ | refine A_skip ?_ | refine A_ret ?_ | refine A_block ?_ | (show opsA _ _ _ _ _ _ _; first | refine O_ev WideF.wide rfl (Ev_pure rfl) rfl rfl ?_ | (show opsA _ _ _ _ (⟨_, .indexAddr _ _ _, _, _, _, _⟩ :: _) _ _; refine O_ev WideF.wide rfl (Ev_indexAddr rfl rfl (by omega) (by omega)) rfl rfl ?_) | (show opsA _ _ _ _ (⟨_, .call _, _, _, _, _⟩ :: _) _ _; refine O_ev WideF.wide rfl (Ev_llen rfl) rfl rfl ?_)) | (show wpA _ _ _ (.cond _ _ _) _ _ _ _; (refine A_if rfl (fun h => ?_) (fun h => ?_) <;> try (exfalso; omega))))
      refine End_p (Ret1 rfl rfl) ?_
      have : x ∈ l := hxy ▸ List.mem_of_getElem? hyi
      simp [this]
    · repeat' (first | (refine O_ev WideF.wide rfl (Ev_loadH1 rfl (hc 0 _ rfl)) rfl rfl ?_) | refine O_nil ?_ | refine A_seq ?_ | refine A_region ?_ | refine A_skip ?_ | refine A_block ?_ | (show opsA _ _ _ _ _ _ _; first | refine O_ev WideF.wide rfl (Ev_pure rfl) rfl rfl ?_ | (show opsA _ _ _ _ (⟨_, .indexAddr _ _ _, _, _, _, _⟩ :: _) _ _; refine O_ev WideF.wide rfl (Ev_indexAddr rfl rfl (by omega) (by omega)) rfl rfl ?_) | (show opsA _ _ _ _ (⟨_, .call _, _, _, _, _⟩ :: _) _ _; refine O_ev WideF.wide rfl (Ev_llen rfl) rfl rfl ?_) | (show opsA _ _ _ _ (⟨_, .binOp _ _ _ _ _, _, _, _, _⟩ :: _) _ _; refine O_ev WideF.wide rfl (Ev_add rfl rfl (wi64 (by omega))) rfl rfl ?_)) | (show wpA _ _ _ (.cond _ _ _) _ _ _ _; (refine A_if rfl (fun h => ?_) (fun h => ?_) <;> try (exfalso; omega))))
      refine Shift.to ⟨_, by omega, i + 1, rfl, by omega, ?_, rfl⟩ ⟨rfl, rfl, rfl, ⟨rfl, rfl, rfl, trivial⟩, Own.sub_nil _⟩
      rw [take_get hyi]; simp; exact ⟨hno, fun e => hxy e.symm⟩
  · obtain rfl : n = i := by omega
    rw [List.take_of_length_le (by omega)] at hno
    repeat' (first | refine O_nil ?_ | refine A_seq ?_ | refine A_region ?_ | refine A_ret ?_ | (show opsA _ _ _ _ _ _ _; first | refine O_ev WideF.wide rfl (Ev_pure rfl) rfl rfl ?_ | (show opsA _ _ _ _ (⟨_, .call _, _, _, _, _⟩ :: _) _ _; refine O_ev WideF.wide rfl (Ev_llen rfl) rfl rfl ?_)) | (show wpA _ _ _ (.exit _) _ _ _ _; refine A_exit rfl ?_) | (show wpA _ _ _ (.cond _ _ _) _ _ _ _; (refine A_if rfl (fun h => ?_) (fun h => ?_) <;> try (exfalso; omega))))
    refine End_p (Ret1 rfl rfl) ?_
    simp [hno]
set_option maxRecDepth 100000 in
theorem lcommon_fn {H : Hp} {a a' : Option Addr} {n cq n' cq' : Nat} {l l' : List Int} (hx : HRow H a n cq 1 (l.map irow)) (hx' : HRow H a' n' cq' 1 (l'.map irow)) (hm : n < 68719476736) (hm' : n' < 68719476736) : FnP Tryz.prog 36 [.slice a n cq, .slice a' n' cq'] H (.bool (decide (meet l l'))) := by
  have e1 : l.length = n := by have := hx.len; simpa using this
  refine Fn_of _ _ Tryz.func36 rfl Tryz.ntmps36 rfl fun c => ?_
  repeat' (first | refine O_nil ?_ | refine A_seq ?_ | refine A_region ?_ | refine A_block ?_ | (show opsA _ _ _ _ _ _ _; refine O_ev WideF.wide rfl (Ev_pure rfl) rfl rfl ?_))
  refine A_loopu (fun m s => ∃ i : Nat, m = n - i ∧ i ≤ n ∧ (¬ ∃ x ∈ l.take i, x ∈ l') ∧ s = ⟨18, [(0, .slice a n cq), (1, .slice a' n' cq'), (5, .int .i64 i)], H, [], [], []⟩) ?_ ?_
  · exact Shift.to ⟨_, 0, rfl, by omega, by simp, rfl⟩ ⟨rfl, rfl, rfl, ⟨rfl, rfl, rfl, trivial⟩, Own.sub_nil _⟩
  rintro m s ⟨i, rfl, hi, hno, rfl⟩
  by_cases hlt : i < n
  · obtain ⟨b, o, y, rfl, hyi, hc⟩ := hx.atm i hlt
    unfold irow at hc
    have h1 := lhas_fn (x := y) hx' hm'
    by_cases hxy : y ∈ l'
    · rw [decide_eq_true hxy] at h1
      repeat' (first | (refine O_ev WideF.wide rfl (Ev_loadH1 rfl (hc 0 _ rfl)) rfl rfl ?_) | (refine O_ef rfl (Ef_callp WideF.wide (h1) ⟨rfl, rfl, trivial⟩ rfl ?_)) | refine O_nil ?_ | refine A_seq ?_ | refine A_region ?_ | refine A_skip ?_ | refine A_ret ?_ | refine A_block ?_ | (show opsA _ _ _ _ _ _ _; first | refine O_ev WideF.wide rfl (Ev_pure rfl) rfl rfl ?_ | (show opsA _ _ _ _ (⟨_, .indexAddr _ _ _, _, _, _, _⟩ :: _) _ _; refine O_ev WideF.wide rfl (Ev_indexAddr rfl rfl (by omega) (by omega)) rfl rfl ?_) | (show opsA _ _ _ _ (⟨_, .call _, _, _, _, _⟩ :: _) _ _; refine O_ev WideF.wide rfl (Ev_llen rfl) rfl rfl ?_)) | (show wpA _ _ _ (.cond _ _ _) _ _ _ _; first | (refine A_if rfl (fun h => ?_) (fun h => ?_) <;> try (exfalso; omega)) | refine A_iftrue rfl ?_))
      refine End_p (Ret1 rfl rfl) ?_
      exact congrArg Value.bool (decide_eq_true (show meet l l' from ⟨y, List.mem_of_getElem? hyi, hxy⟩)).symm
    · rw [decide_eq_false hxy] at h1
      repeat' (first | (refine O_ev WideF.wide rfl (Ev_loadH1 rfl (hc 0 _ rfl)) rfl rfl ?_) | (refine O_ef rfl (Ef_callp WideF.wide (h1) ⟨rfl, rfl, trivial⟩ rfl ?_)) | refine O_nil ?_ | refine A_seq ?_ | refine A_region ?_ | refine A_skip ?_ | refine A_block ?_ | (show opsA _ _ _ _ _ _ _; first | refine O_ev WideF.wide rfl (Ev_pure rfl) rfl rfl ?_ | (show opsA _ _ _ _ (⟨_, .indexAddr _ _ _, _, _, _, _⟩ :: _) _ _; refine O_ev WideF.wide rfl (Ev_indexAddr rfl rfl (by omega) (by omega)) rfl rfl ?_) | (show opsA _ _ _ _ (⟨_, .call _, _, _, _, _⟩ :: _) _ _; refine O_ev WideF.wide rfl (Ev_llen rfl) rfl rfl ?_) | (show opsA _ _ _ _ (⟨_, .binOp _ _ _ _ _, _, _, _, _⟩ :: _) _ _; refine O_ev WideF.wide rfl (Ev_add rfl rfl (wi64 (by omega))) rfl rfl ?_)) | (show wpA _ _ _ (.cond _ _ _) _ _ _ _; first | (refine A_if rfl (fun h => ?_) (fun h => ?_) <;> try (exfalso; omega)) | refine A_iffalse rfl ?_))
      refine Shift.to ⟨_, by omega, i + 1, rfl, by omega, ?_, rfl⟩ ⟨rfl, rfl, rfl, ⟨rfl, rfl, rfl, trivial⟩, Own.sub_nil _⟩
      rw [take_get hyi]
      rintro ⟨x, hx, hxS⟩
      rcases List.mem_append.1 hx with hx | hx
      · exact hno ⟨x, hx, hxS⟩
      · rw [List.mem_singleton] at hx; subst hx; exact hxy hxS
  · obtain rfl : n = i := by omega
    rw [List.take_of_length_le (by omega)] at hno
    repeat' (first | refine O_nil ?_ | refine A_seq ?_ | refine A_region ?_ | refine A_ret ?_ | (show opsA _ _ _ _ _ _ _; first | refine O_ev WideF.wide rfl (Ev_pure rfl) rfl rfl ?_ | (show opsA _ _ _ _ (⟨_, .call _, _, _, _, _⟩ :: _) _ _; refine O_ev WideF.wide rfl (Ev_llen rfl) rfl rfl ?_)) | (show wpA _ _ _ (.exit _) _ _ _ _; refine A_exit rfl ?_) | (show wpA _ _ _ (.cond _ _ _) _ _ _ _; (refine A_if rfl (fun h => ?_) (fun h => ?_) <;> try (exfalso; omega))))
    refine End_p (Ret1 rfl rfl) ?_
    exact congrArg Value.bool (decide_eq_false (show ¬ meet l l' from hno)).symm
set_option maxRecDepth 100000 in
theorem lindex_fn {H : Hp} {k a n m : Int} (hk : 0 ≤ k ∧ k ≤ 1099511627776) (ha : 0 ≤ a ∧ a ≤ 1099511627776) (hn : 0 ≤ n ∧ n ≤ 1099511627776) (hm : 0 ≤ m ∧ m ≤ 1099511627776) : Fn Tryz.prog 38 [.int .i64 k, .int .i64 a, .int .i64 n, .int .i64 m] H [] fun v H' I => OptR (rIdx k a n m) v ∧ H' = H ∧ I = [] := by
  refine Fn_of _ _ Tryz.func38 rfl Tryz.ntmps38 rfl fun c => ?_
  repeat' (first | refine O_nil ?_ | refine A_seq ?_ | refine A_region ?_ | refine A_skip ?_ | refine A_ret ?_ | refine A_block ?_ | (show opsA _ _ _ _ _ _ _; first | refine O_ev WideF.wide rfl (Ev_pure rfl) rfl rfl ?_ | (show opsA _ _ _ _ (⟨_, .binOp _ _ _ _ _, _, _, _, _⟩ :: _) _ _; first | refine O_ev WideF.wide rfl (Ev_add rfl rfl (wi64 (by omega))) rfl rfl ?_ | refine O_ev WideF.wide rfl (Ev_sub rfl rfl (wi64 (by omega))) rfl rfl ?_)) | (show wpA _ _ _ (.cond _ _ _) _ _ _ _; (refine A_if rfl (fun h => ?_) (fun h => ?_) <;> try (exfalso; omega))))
  all_goals first
    | (exfalso; omega)
    | (refine End_e (Ret2 rfl rfl rfl) ⟨⟨_, _, rfl, ?_⟩, rfl, rfl⟩; unfold rIdx; grind)
set_option maxRecDepth 100000 in
set_option maxHeartbeats 1000000 in
theorem lranges_fn {H : Hp} {b c a n m : Int} {first : Bool} (hk : 0 ≤ b ∧ b ≤ 1099511627776) (hc : 0 ≤ c ∧ c ≤ 1099511627776) (ha : 0 ≤ a ∧ a ≤ 1099511627776) (hn : 0 ≤ n ∧ n ≤ 1099511627776) (hm : 0 ≤ m ∧ m ≤ 1099511627776) : Fn Tryz.prog 37 [.int .i64 b, .int .i64 c, .int .i64 a, .int .i64 n, .int .i64 m, .bool first] H [] fun v H' I => OptR (rOver b c a n m first) v ∧ H' = H ∧ I = [] := by
  cases first
  all_goals
    refine Fn_of _ _ Tryz.func37 rfl Tryz.ntmps37 rfl fun c => ?_
    repeat' (first | refine O_nil ?_ | refine A_seq ?_ | refine A_region ?_ | refine A_skip ?_ | refine A_ret ?_ | refine A_block ?_ | (show opsA _ _ _ _ _ _ _; first | (refine O_split rfl rfl (fun h => ?_) (fun h => ?_) <;> try (exfalso; omega)) | refine O_ev WideF.wide rfl (Ev_pure rfl) rfl rfl ?_ | (show opsA _ _ _ _ (⟨_, .binOp _ _ _ _ _, _, _, _, _⟩ :: _) _ _; first | refine O_ev WideF.wide rfl (Ev_add rfl rfl (wi64 (by omega))) rfl rfl ?_ | refine O_ev WideF.wide rfl (Ev_sub rfl rfl (wi64 (by omega))) rfl rfl ?_) | refine O_skip WideF.wide rfl rfl rfl ?_) | (show wpA _ _ _ (.cond _ _ _) _ _ _ _; first | (refine A_if rfl (fun h => ?_) (fun h => ?_) <;> try (exfalso; omega)) | refine A_iftrue rfl ?_ | refine A_iffalse rfl ?_))
    all_goals first
      | (exfalso; omega)
      | (refine End_e (Ret2 rfl rfl rfl) ⟨⟨_, _, rfl, ?_⟩, rfl, rfl⟩; unfold rOver; grind)
/-- numbers that were handed back -/
def IntsIs (l : List Int) (v : Value) (H : Hp) (I : Own) : Prop := (∃ a n c, v = .slice a n c ∧ HRow H a n c 1 (l.map irow)) ∧ I = []
def GatherC (N : Nat) : Prop := ∀ (H : Hp) (ia : Option Addr) (iN ic : Nat) (ra : Option Addr) (rn rc : Nat) (ca : Option Addr) (cn cc : Nat) (l : List Item) (r : List Row) (k : List Cell), FlowH H ia iN ic l → RowsS H ra rn rc r → CellsS H ca cn cc k → massL l + massR r + massC k < N → massL l + massR r + massC k < 34359738368 →
  Fn Tryz.prog 65 [.slice ia iN ic, .slice ra rn rc, .slice ca cn cc] H [] (IntsIs (idsL l ++ (idsR r ++ idsC k)))
theorem RowsS.nil (H : Hp) : RowsS H none 0 0 [] := ⟨[], HRow.nil' H 6, .nil⟩
theorem CellsS.nil (H : Hp) : CellsS H none 0 0 [] := ⟨[], HRow.nil' H 7, .nil⟩
set_option maxRecDepth 100000 in
set_option maxHeartbeats 8000000 in
theorem gather_step {N : Nat} (hN : GatherC N) : GatherC (N + 1) := by
  intro H ia iN ic ra rn rc ca cn cc l r k hl hr hk hm hm2
  have e1 := hl.len
  have e2 := hr.len
  have e3 := hk.len
  have f1 := massL_len l
  have f2 := massR_len r
  have f3 := massC_len k
  have i1 := idsL_len l
  have i2 := idsR_len r
  have i3 := idsC_len k
  refine Fn_of _ _ Tryz.func65 rfl Tryz.ntmps65 rfl fun c => ?_
  refine A_nilrow 1 ?_
  repeat' (first | refine O_nil ?_ | refine A_seq ?_ | refine A_region ?_ | refine A_block ?_ | (show opsA _ _ _ _ _ _ _; refine O_ev WideF.wide rfl (Ev_pure rfl) rfl rfl ?_))
  refine A_loopu (fun q s => ∃ (i : Nat) (H1 : Hp) (oa : Option Addr) (on oc : Nat) (p : List (List Value)), q = iN - i ∧ i ≤ iN ∧ HLe H H1 ∧ p.length = on ∧ p = (idsL (l.take i)).map irow ∧ s = ⟨88, [(0, .slice ia iN ic), (1, .slice ra rn rc), (2, .slice ca cn cc), (7, .slice oa on oc), (8, .int .i64 i)], H1, [.row (.slice oa on oc) 1 p], [], []⟩) ?_ ?_
  · exact Shift.to ⟨_, 0, H, none, 0, 0, [], rfl, by omega, HLe.refl _, rfl, rfl, rfl⟩ ⟨rfl, rfl, rfl, ⟨rfl, rfl, rfl, rfl, rfl, trivial⟩, Own.subi [0] (by decide) rfl rfl⟩
  rintro q s ⟨i, H1, oa, on, oc, p, rfl, hi, hle1, hon, hp, rfl⟩
  by_cases hlt : i < iN
  · obtain ⟨bb, bo, rcs, y, rfl, hy, hyc, hyk, hc⟩ := (FlowH.mono hle1 hl).at i hlt
    have hmm := massL_mem' (List.mem_of_getElem? hy)
    have hsn := idsL_snoc hy
    have hil : (idsL (l.take (i + 1))).length ≤ massL l := by
      have h1 := idsL_len (l.take (i + 1))
      have h2 := massL_append (l.take (i + 1)) (l.drop (i + 1))
      rw [List.take_append_drop] at h2
      omega
    obtain ⟨pa, pn, pc, ea, en, ec, qa, qn, qc, fa, fn, fc, ua, un, uc, rfl, -, -, -, hf, hu⟩ := hyc.cells
    have hcall := fun Hx (h : HLe H1 Hx) => hN Hx fa fn fc ua un uc none 0 0 y.flow y.rows [] (FlowH.mono h hf) (RowsS.mono h hu) (CellsS.nil Hx) (by simp only [massC]; omega) (by simp only [massC]; omega)
    have hpl : p.length = (idsL (l.take i)).length := by rw [hp, List.length_map]
    rw [idsI_eq] at hsn
    rw [hsn, List.length_append, List.length_append] at hil
    have hjl : (idsL y.flow ++ (idsR y.rows ++ idsC [])).length ≤ massL l := by
      have := idsL_len y.flow
      have := idsR_len y.rows
      simp only [List.length_append, idsC, List.length_nil]
      omega
    by_cases hk6 : y.kind = 6 ∨ y.kind = 7
    · rw [if_pos hk6] at hsn hil
      simp only [List.length_singleton] at hil
      repeat' (first | (show wpA _ _ _ (.region 7 _ _) _ _ _ _; (refine A_drawM WideF.wide (.q 0 (.q 1 (.q 2 (.q 3 (.q 4 (.q 5 (.q 6 (.q 7 (.q 8 (.q 9 (.q 10 (.e 11 (.e 12 (.q 13 (.done []))))))))))))))) [] (by decide +kernel) ?_)) | (refine E_ef rfl (Ef_call (I := []) WideF.wide (hcall _ (HLe.refl _)) ⟨rfl, rfl, rfl, trivial⟩ rfl ?_); rintro v H2 I2 hle2 ⟨⟨za, zn, zc, rfl, zr⟩, rfl⟩; refine ⟨⟨hle2, rfl⟩, ?_⟩); have zl := zr.len; rw [List.length_map] at zl | (refine E_ef rfl (Ef_appendH WideF.wide rfl rfl zr rfl rfl (by first | omega | (simp; omega)) (by first | omega | (simp; omega)) rfl ?_); intro a4 c4; refine ⟨Grow.same rfl rfl, ?_⟩) | refine O_nil ?_ | refine A_seq ?_ | refine A_region ?_ | refine A_skip ?_ | refine A_block ?_ | (show drJ _ _ _ _ _ _ _ (.q _ _) _; refine D_q rfl ?_) | (show drJ _ _ _ _ _ _ _ (.e _ _) _; refine D_e rfl ?_) | (show drJ _ _ _ _ _ _ _ (.done _) _; refine D_done ?_; simp only [List.cons_append, List.nil_append]) | (show drQ _ _ _ _ _ _; first | refine D_ev rfl (Ev_pure rfl) rfl rfl ?_ | (show drQ _ _ _ ⟨_, .load _ _, _, _, _, _⟩ _ _; first | refine D_ev rfl (Ev_loadH1 rfl (hc 9 _ rfl)) rfl rfl ?_ | refine D_ev rfl (Ev_loadH1 rfl (hc 10 _ rfl)) rfl rfl ?_) | (show drQ _ _ _ ⟨_, .indexAddr _ _ _, _, _, _, _⟩ _ _; refine D_ev rfl (Ev_indexAddr rfl rfl (by omega) (by omega)) rfl rfl ?_) | (show drQ _ _ _ ⟨_, .fieldAddr _ _ _, _, _, _, _⟩ _ _; refine D_ev rfl (Ev_fieldAddr rfl rfl rfl) rfl rfl ?_)) | (show opsA _ _ _ _ _ _ _; first | (refine O_split rfl rfl (fun h => ?_) (fun h => ?_) <;> try (exfalso; omega)) | refine O_ev WideF.wide rfl (Ev_pure rfl) rfl rfl ?_ | (show opsA _ _ _ _ (⟨_, .load _ _, _, _, _, _⟩ :: _) _ _; first | refine O_ev WideF.wide rfl (Ev_loadH1 rfl (hc 0 _ rfl)) rfl rfl ?_ | refine O_ev WideF.wide rfl (Ev_loadH1 rfl (hc 2 _ rfl)) rfl rfl ?_) | (show opsA _ _ _ _ (⟨_, .indexAddr _ _ _, _, _, _, _⟩ :: _) _ _; refine O_ev WideF.wide rfl (Ev_indexAddr rfl rfl (by omega) (by omega)) rfl rfl ?_) | (show opsA _ _ _ _ (⟨_, .fieldAddr _ _ _, _, _, _, _⟩ :: _) _ _; refine O_ev WideF.wide rfl (Ev_fieldAddr rfl rfl rfl) rfl rfl ?_) | (show opsA _ _ _ _ (⟨_, .call _, _, _, _, _⟩ :: _) _ _; first | refine O_ev WideF.wide rfl (Ev_llen rfl) rfl rfl ?_ | (refine O_f1 (O_ef rfl (Ef_appendR WideF.wide rfl rfl rfl rfl rfl (by simp; omega) (by simp; omega) rfl ?_)); intro a cp)) | (show opsA _ _ _ _ (⟨_, .buildSlice _ _ _, _, _, _, _⟩ :: _) _ _; (refine O_ef rfl (Ef_build11 WideF.wide rfl rfl rfl ?_); intro b)) | (show opsA _ _ _ _ (⟨_, .binOp _ _ _ _ _, _, _, _, _⟩ :: _) _ _; refine O_ev WideF.wide rfl (Ev_add rfl rfl (wi64 (by omega))) rfl rfl ?_) | refine O_skip WideF.wide rfl rfl rfl ?_) | (show wpA _ _ _ (.cond _ _ _) _ _ _ _; first | (refine A_if rfl (fun h => ?_) (fun h => ?_) <;> try (exfalso; omega)) | refine A_iftrue rfl ?_))
      all_goals first
        | (exfalso; omega)
        | exact Shift.to ⟨_, by omega, i + 1, H2, _, _, _, _, rfl, by omega, hle1.trans hle2, rfl, by rw [hsn, hp]; simp [irow, idsC], rfl⟩ ⟨rfl, rfl, rfl, ⟨rfl, rfl, rfl, rfl, rfl, trivial⟩, Own.subi [0] (by decide) rfl rfl⟩
        | trace_state
    · rw [if_neg hk6] at hsn hil
      simp only [List.length_nil] at hil
      repeat' (first | (show wpA _ _ _ (.region 7 _ _) _ _ _ _; (refine A_drawM WideF.wide (.q 0 (.q 1 (.q 2 (.q 3 (.q 4 (.q 5 (.q 6 (.q 7 (.q 8 (.q 9 (.q 10 (.e 11 (.e 12 (.q 13 (.done []))))))))))))))) [] (by decide +kernel) ?_)) | (refine E_ef rfl (Ef_call (I := []) WideF.wide (hcall _ (HLe.refl _)) ⟨rfl, rfl, rfl, trivial⟩ rfl ?_); rintro v H2 I2 hle2 ⟨⟨za, zn, zc, rfl, zr⟩, rfl⟩; refine ⟨⟨hle2, rfl⟩, ?_⟩); have zl := zr.len; rw [List.length_map] at zl | (refine E_ef rfl (Ef_appendH WideF.wide rfl rfl zr rfl rfl (by first | omega | (simp; omega)) (by first | omega | (simp; omega)) rfl ?_); intro a4 c4; refine ⟨Grow.same rfl rfl, ?_⟩) | refine O_nil ?_ | refine A_seq ?_ | refine A_region ?_ | refine A_skip ?_ | refine A_block ?_ | (show drJ _ _ _ _ _ _ _ (.q _ _) _; refine D_q rfl ?_) | (show drJ _ _ _ _ _ _ _ (.e _ _) _; refine D_e rfl ?_) | (show drJ _ _ _ _ _ _ _ (.done _) _; refine D_done ?_; simp only [List.cons_append, List.nil_append]) | (show drQ _ _ _ _ _ _; first | refine D_ev rfl (Ev_pure rfl) rfl rfl ?_ | (show drQ _ _ _ ⟨_, .load _ _, _, _, _, _⟩ _ _; first | refine D_ev rfl (Ev_loadH1 rfl (hc 9 _ rfl)) rfl rfl ?_ | refine D_ev rfl (Ev_loadH1 rfl (hc 10 _ rfl)) rfl rfl ?_) | (show drQ _ _ _ ⟨_, .indexAddr _ _ _, _, _, _, _⟩ _ _; refine D_ev rfl (Ev_indexAddr rfl rfl (by omega) (by omega)) rfl rfl ?_) | (show drQ _ _ _ ⟨_, .fieldAddr _ _ _, _, _, _, _⟩ _ _; refine D_ev rfl (Ev_fieldAddr rfl rfl rfl) rfl rfl ?_)) | (show opsA _ _ _ _ _ _ _; first | (refine O_split rfl rfl (fun h => ?_) (fun h => ?_) <;> try (exfalso; omega)) | refine O_ev WideF.wide rfl (Ev_pure rfl) rfl rfl ?_ | (show opsA _ _ _ _ (⟨_, .load _ _, _, _, _, _⟩ :: _) _ _; refine O_ev WideF.wide rfl (Ev_loadH1 rfl (hc 0 _ rfl)) rfl rfl ?_) | (show opsA _ _ _ _ (⟨_, .indexAddr _ _ _, _, _, _, _⟩ :: _) _ _; refine O_ev WideF.wide rfl (Ev_indexAddr rfl rfl (by omega) (by omega)) rfl rfl ?_) | (show opsA _ _ _ _ (⟨_, .fieldAddr _ _ _, _, _, _, _⟩ :: _) _ _; refine O_ev WideF.wide rfl (Ev_fieldAddr rfl rfl rfl) rfl rfl ?_) | (show opsA _ _ _ _ (⟨_, .call _, _, _, _, _⟩ :: _) _ _; refine O_ev WideF.wide rfl (Ev_llen rfl) rfl rfl ?_) | (show opsA _ _ _ _ (⟨_, .binOp _ _ _ _ _, _, _, _, _⟩ :: _) _ _; refine O_ev WideF.wide rfl (Ev_add rfl rfl (wi64 (by omega))) rfl rfl ?_)) | (show wpA _ _ _ (.cond _ _ _) _ _ _ _; (refine A_if rfl (fun h => ?_) (fun h => ?_) <;> try (exfalso; omega))))
      all_goals first
        | (exfalso; omega)
        | exact Shift.to ⟨_, by omega, i + 1, H2, _, _, _, _, rfl, by omega, hle1.trans hle2, rfl, by rw [hsn, hp]; simp [irow, idsC], rfl⟩ ⟨rfl, rfl, rfl, ⟨rfl, rfl, rfl, rfl, rfl, trivial⟩, Own.subi [0] (by decide) rfl rfl⟩
        | trace_state
  · obtain rfl : iN = i := by omega
    rw [List.take_of_length_le (by omega)] at hp
    repeat' (first | refine O_nil ?_ | refine A_seq ?_ | refine A_region ?_ | refine A_block ?_ | (show opsA _ _ _ _ _ _ _; first | refine O_ev WideF.wide rfl (Ev_pure rfl) rfl rfl ?_ | (show opsA _ _ _ _ (⟨_, .call _, _, _, _, _⟩ :: _) _ _; refine O_ev WideF.wide rfl (Ev_llen rfl) rfl rfl ?_)) | (show wpA _ _ _ (.exit _) _ _ _ _; refine A_exit rfl ?_) | (show wpA _ _ _ (.cond _ _ _) _ _ _ _; (refine A_if rfl (fun h => ?_) (fun h => ?_) <;> try (exfalso; omega))))
    refine A_loopu (fun q s => ∃ (i : Nat) (H2 : Hp) (oa : Option Addr) (on oc : Nat) (p : List (List Value)), q = rn - i ∧ i ≤ rn ∧ HLe H1 H2 ∧ p.length = on ∧ p = (idsL l ++ idsR (r.take i)).map irow ∧ s = ⟨88, [(1, .slice ra rn rc), (2, .slice ca cn cc), (7, .slice oa on oc), (9, .int .i64 i)], H2, [.row (.slice oa on oc) 1 p], [], []⟩) ?_ ?_
    · exact Shift.to ⟨_, 0, H1, oa, on, oc, p, rfl, by omega, HLe.refl _, hon, by rw [hp]; simp [idsR], rfl⟩ ⟨rfl, rfl, rfl, ⟨rfl, rfl, rfl, rfl, trivial⟩, Own.subi [0] (by decide) rfl rfl⟩
    clear hp hon
    rintro q s ⟨i, H2, oa, on, oc, p, rfl, hi, hle2, hon, hp, rfl⟩
    have hpl : p.length = (idsL l).length + (idsR (r.take i)).length := by rw [hp, List.length_map, List.length_append]
    by_cases hlt : i < rn
    · obtain ⟨bb, bo, rcs, y, rfl, hy, hyc, hyk, hc⟩ := (RowsS.mono (hle1.trans hle2) hr).at i hlt
      have hmm := massR_mem' (List.mem_of_getElem? hy)
      have hsn := idsR_snoc hy
      have hil : (idsR (r.take (i + 1))).length ≤ massR r := by
        have h1 := idsR_len (r.take (i + 1))
        have h2 := massR_append (r.take (i + 1)) (r.drop (i + 1))
        rw [List.take_append_drop] at h2
        omega
      rw [hsn, List.length_append] at hil
      obtain ⟨pa, pn, pc, ea, en, ec, qa, qn, qc, ua, un, uc, rfl, -, -, -, hu⟩ := hyc.cells
      have hcall := fun Hx (h : HLe H2 Hx) => hN Hx none 0 0 none 0 0 ua un uc [] [] y.2 (FlowH.nil Hx) (RowsS.nil Hx) (CellsS.mono h hu) (by simp only [massL, massR]; omega) (by simp only [massL, massR]; omega)
      have hjl : (idsL [] ++ (idsR [] ++ idsC y.2)).length ≤ massR r := by
        have := idsC_len y.2
        simp only [List.length_append, idsL, idsR, List.length_nil]
        omega
      repeat' (first | (refine O_ev WideF.wide rfl (Ev_loadH1 rfl (hc 5 _ rfl)) rfl rfl ?_) | (refine O_ef rfl (Ef_call (I := []) WideF.wide (hcall _ (HLe.refl _)) ⟨rfl, rfl, rfl, trivial⟩ rfl ?_); rintro v H3 I2 hle3 ⟨⟨za, zn, zc, rfl, zr⟩, rfl⟩); have zl := zr.len; rw [List.length_map] at zl | (refine O_ef rfl (Ef_appendH WideF.wide rfl rfl zr rfl rfl (by first | omega | (simp; omega)) (by first | omega | (simp; omega)) rfl ?_); intro a4 c4) | refine O_nil ?_ | refine A_seq ?_ | refine A_region ?_ | refine A_skip ?_ | refine A_block ?_ | (show opsA _ _ _ _ _ _ _; first | refine O_ev WideF.wide rfl (Ev_pure rfl) rfl rfl ?_ | (show opsA _ _ _ _ (⟨_, .indexAddr _ _ _, _, _, _, _⟩ :: _) _ _; refine O_ev WideF.wide rfl (Ev_indexAddr rfl rfl (by omega) (by omega)) rfl rfl ?_) | (show opsA _ _ _ _ (⟨_, .fieldAddr _ _ _, _, _, _, _⟩ :: _) _ _; refine O_ev WideF.wide rfl (Ev_fieldAddr rfl rfl rfl) rfl rfl ?_) | (show opsA _ _ _ _ (⟨_, .call _, _, _, _, _⟩ :: _) _ _; refine O_ev WideF.wide rfl (Ev_llen rfl) rfl rfl ?_) | (show opsA _ _ _ _ (⟨_, .binOp _ _ _ _ _, _, _, _, _⟩ :: _) _ _; refine O_ev WideF.wide rfl (Ev_add rfl rfl (wi64 (by omega))) rfl rfl ?_)) | (show wpA _ _ _ (.cond _ _ _) _ _ _ _; (refine A_if rfl (fun h => ?_) (fun h => ?_) <;> try (exfalso; omega))))
      all_goals first
        | exact Shift.to ⟨_, by omega, i + 1, H3, _, _, _, _, rfl, by omega, hle2.trans hle3, rfl, by rw [hsn, hp]; simp [irow, idsL, idsR], rfl⟩ ⟨rfl, rfl, rfl, ⟨rfl, rfl, rfl, rfl, trivial⟩, Own.subi [0] (by decide) rfl rfl⟩
        | trace_state
    · obtain rfl : rn = i := by omega
      rw [List.take_of_length_le (by omega)] at hp hpl
      repeat' (first | refine O_nil ?_ | refine A_seq ?_ | refine A_region ?_ | refine A_block ?_ | (show opsA _ _ _ _ _ _ _; first | refine O_ev WideF.wide rfl (Ev_pure rfl) rfl rfl ?_ | (show opsA _ _ _ _ (⟨_, .call _, _, _, _, _⟩ :: _) _ _; refine O_ev WideF.wide rfl (Ev_llen rfl) rfl rfl ?_)) | (show wpA _ _ _ (.exit _) _ _ _ _; refine A_exit rfl ?_) | (show wpA _ _ _ (.cond _ _ _) _ _ _ _; (refine A_if rfl (fun h => ?_) (fun h => ?_) <;> try (exfalso; omega))))
      refine A_loopu (fun q s => ∃ (i : Nat) (H3 : Hp) (oa : Option Addr) (on oc : Nat) (p : List (List Value)), q = cn - i ∧ i ≤ cn ∧ HLe H2 H3 ∧ p.length = on ∧ p = (idsL l ++ (idsR r ++ idsC (k.take i))).map irow ∧ s = ⟨88, [(2, .slice ca cn cc), (7, .slice oa on oc), (10, .int .i64 i)], H3, [.row (.slice oa on oc) 1 p], [], []⟩) ?_ ?_
      · exact Shift.to ⟨_, 0, H2, oa, on, oc, p, rfl, by omega, HLe.refl _, hon, by rw [hp]; simp [idsC], rfl⟩ ⟨rfl, rfl, rfl, ⟨rfl, rfl, rfl, trivial⟩, Own.subi [0] (by decide) rfl rfl⟩
      clear hp hon hpl
      rintro q s ⟨i, H3, oa, on, oc, p, rfl, hi, hle3, hon, hp, rfl⟩
      have hpl : p.length = (idsL l).length + ((idsR r).length + (idsC (k.take i)).length) := by rw [hp, List.length_map, List.length_append, List.length_append]
      by_cases hlt : i < cn
      · obtain ⟨bb, bo, rcs, y, rfl, hy, hyc, hyk, hc⟩ := (CellsS.mono ((hle1.trans hle2).trans hle3) hk).at i hlt
        have hmm := massC_mem' (List.mem_of_getElem? hy)
        have hsn := idsC_snoc hy
        have hil : (idsC (k.take (i + 1))).length ≤ massC k := by
          have h1 := idsC_len (k.take (i + 1))
          have h2 := massC_append (k.take (i + 1)) (k.drop (i + 1))
          rw [List.take_append_drop] at h2
          omega
        rw [hsn, List.length_append, List.length_cons] at hil
        obtain ⟨pa, pn, pc, ea, en, ec, qa, qn, qc, ua, un, uc, rfl, -, -, -, hu⟩ := hyc.cells
        have hcall := fun Hx (h : HLe H3 Hx) => hN Hx ua un uc none 0 0 none 0 0 y.2.2 [] [] (FlowH.mono h hu) (RowsS.nil Hx) (CellsS.nil Hx) (by simp only [massR, massC]; omega) (by simp only [massR, massC]; omega)
        have hjl : (idsL y.2.2 ++ (idsR [] ++ idsC [])).length ≤ massC k := by
          have := idsL_len y.2.2
          simp only [List.length_append, idsC, idsR, List.length_nil]
          omega
        repeat' (first | (show wpA _ _ _ (.region 15 _ _) _ _ _ _; (refine A_drawM WideF.wide (.q 0 (.q 1 (.q 2 (.q 3 (.q 4 (.q 5 (.q 8 (.q 9 (.q 10 (.q 11 (.q 12 (.e 6 (.e 7 (.e 13 (.e 14 (.q 15 (.done []))))))))))))))))) [] (by decide +kernel) ?_)) | (refine D_ev rfl (Ev_loadH1 rfl (hc 0 _ rfl)) rfl rfl ?_) | (refine D_ev rfl (Ev_loadH1 rfl (hc 6 _ rfl)) rfl rfl ?_) | (refine E_ef rfl (Ef_call (I := []) WideF.wide (hcall _ (HLe.refl _)) ⟨rfl, rfl, rfl, trivial⟩ rfl ?_); rintro v H4 I2 hle4 ⟨⟨za, zn, zc, rfl, zr⟩, rfl⟩; refine ⟨⟨hle4, rfl⟩, ?_⟩); have zl := zr.len; rw [List.length_map] at zl | (refine E_ef rfl (Ef_appendH WideF.wide rfl rfl zr rfl rfl (by first | omega | (simp; omega)) (by first | omega | (simp; omega)) rfl ?_); intro a4 c4; refine ⟨Grow.same rfl rfl, ?_⟩) | refine O_nil ?_ | refine A_seq ?_ | refine A_region ?_ | refine A_skip ?_ | refine A_block ?_ | (show drJ _ _ _ _ _ _ _ (.q _ _) _; refine D_q rfl ?_) | (show drJ _ _ _ _ _ _ _ (.e _ _) _; refine D_e rfl ?_) | (show drJ _ _ _ _ _ _ _ (.done _) _; refine D_done ?_; simp only [List.cons_append, List.nil_append]) | (show drQ _ _ _ _ _ _; first | refine D_ev rfl (Ev_pure rfl) rfl rfl ?_ | (show drQ _ _ _ ⟨_, .indexAddr _ _ _, _, _, _, _⟩ _ _; refine D_ev rfl (Ev_indexAddr rfl rfl (by omega) (by omega)) rfl rfl ?_) | (show drQ _ _ _ ⟨_, .fieldAddr _ _ _, _, _, _, _⟩ _ _; refine D_ev rfl (Ev_fieldAddr rfl rfl rfl) rfl rfl ?_)) | (show drE _ _ _ _ _ _ _; first | (show drE _ _ _ _ ⟨_, .call _, _, _, _, _⟩ _ _; (refine E_ef rfl (Ef_f1 (Ef_appendR WideF.wide rfl rfl rfl rfl rfl (by simp; omega) (by simp; omega) rfl ?_)); intro a cp; refine ⟨Grow.same rfl rfl, ?_⟩)) | (show drE _ _ _ _ ⟨_, .buildSlice _ _ _, _, _, _, _⟩ _ _; (refine E_ef rfl (Ef_build11 WideF.wide rfl rfl rfl ?_); intro b; refine ⟨Grow.same rfl rfl, ?_⟩))) | (show opsA _ _ _ _ _ _ _; first | refine O_ev WideF.wide rfl (Ev_pure rfl) rfl rfl ?_ | (show opsA _ _ _ _ (⟨_, .call _, _, _, _, _⟩ :: _) _ _; refine O_ev WideF.wide rfl (Ev_llen rfl) rfl rfl ?_) | (show opsA _ _ _ _ (⟨_, .binOp _ _ _ _ _, _, _, _, _⟩ :: _) _ _; refine O_ev WideF.wide rfl (Ev_add rfl rfl (wi64 (by omega))) rfl rfl ?_)) | (show wpA _ _ _ (.cond _ _ _) _ _ _ _; (refine A_if rfl (fun h => ?_) (fun h => ?_) <;> try (exfalso; omega))))
        all_goals first
          | exact Shift.to ⟨_, by omega, i + 1, H4, _, _, _, _, rfl, by omega, hle3.trans hle4, rfl, by rw [hsn, hp]; simp [irow, idsC, idsR], rfl⟩ ⟨rfl, rfl, rfl, ⟨rfl, rfl, rfl, trivial⟩, Own.subi [0] (by decide) rfl rfl⟩
          | trace_state
      · obtain rfl : cn = i := by omega
        rw [List.take_of_length_le (by omega)] at hp
        subst hp
        repeat' (first | refine O_nil ?_ | refine A_seq ?_ | refine A_region ?_ | refine A_ret ?_ | (show opsA _ _ _ _ _ _ _; first | refine O_ev WideF.wide rfl (Ev_pure rfl) rfl rfl ?_ | (show opsA _ _ _ _ (⟨_, .call _, _, _, _, _⟩ :: _) _ _; refine O_ev WideF.wide rfl (Ev_llen rfl) rfl rfl ?_)) | (show wpA _ _ _ (.exit _) _ _ _ _; refine A_exit rfl ?_) | (show wpA _ _ _ (.cond _ _ _) _ _ _ _; (refine A_if rfl (fun h => ?_) (fun h => ?_) <;> try (exfalso; omega))))
        exact End_row (Ret1 rfl rfl) (irow_one _) fun H' hle hr => ⟨⟨_, _, _, rfl, hr⟩, rfl⟩
theorem gather_all : ∀ N, GatherC N
  | 0 => fun H _ _ _ _ _ _ _ _ _ l r k _ _ _ h => absurd h (by omega)
  | N + 1 => gather_step (gather_all N)
set_option maxRecDepth 100000 in
theorem pieceIds_fn {H : Hp} {cs : List Value} {p : Piece} (hx : PieceH H cs p) (hm : p.fine) : Fn Tryz.prog 35 [.agg cs.toArray] H [] fun v H' I => (∃ a n c, v = .slice a n c ∧ HRow H' a n c 1 ((idsP p).map irow) ∧ n < 68719476736) ∧ I = [] := by
  obtain ⟨ia, iN, ic, ra, rn, rc, ca, cn, cc, hcs, scs, rfl, p1, p2, p3, p4, p5⟩ := hx.ex
  obtain ⟨m1, m2⟩ := hm
  obtain ⟨qa, qn, qc, da, dn, dc, la, ln, lc, rfl, -⟩ := p4.ex
  obtain ⟨sa, sn, sc, ua, un, uc, ka, kn, kc, va, vn, vc, rfl, -⟩ := p5.ex
  have h1 := gather_all (massL p.items + massR p.rows + massC p.cells + 1) H ia iN ic ra rn rc ca cn cc p.items p.rows p.cells p1 p2 p3 (by omega) (by omega)
  have hl1 := idsL_len p.items
  have hl2 := idsR_len p.rows
  have hl3 := idsC_len p.cells
  have hplen : (idsP p).length = (idsL p.items).length + ((idsR p.rows).length + (idsC p.cells).length) := by unfold idsP; simp
  refine Fn_of _ _ Tryz.func35 rfl Tryz.ntmps35 rfl fun c => ?_
  repeat' (first | (refine O_ef rfl (Ef_call (I := []) WideF.wide (h1) ⟨rfl, rfl, rfl, trivial⟩ rfl ?_); rintro v H2 I2 hle2 ⟨⟨za, zn, zc, rfl, zr⟩, rfl⟩) | refine O_nil ?_ | refine A_seq ?_ | refine A_region ?_ | refine A_ret ?_ | (show opsA _ _ _ _ _ _ _; first | refine O_ev WideF.wide rfl (Ev_pure rfl) rfl rfl ?_ | (show opsA _ _ _ _ (⟨_, .load _ _, _, _, _, _⟩ :: _) _ _; refine O_ev WideF.wide rfl (Ev_loadB1 (i := 0) rfl rfl rfl) rfl rfl ?_) | (show opsA _ _ _ _ (⟨_, .fieldAddr _ _ _, _, _, _, _⟩ :: _) _ _; refine O_ev WideF.wide rfl (Ev_fieldAddr rfl rfl rfl) rfl rfl ?_) | (show opsA _ _ _ _ (⟨_, .box _ _, _, _, _, _⟩ :: _) _ _; (refine O_ef rfl (Ef_boxa WideF.wide rfl rfl ?_); intro b))))
  refine End_e (Ret1 rfl rfl) ⟨⟨_, _, _, rfl, zr, ?_⟩, rfl⟩
  have zl := zr.len
  rw [List.length_map] at zl
  rw [← zl]
  show (idsP p).length < _
  omega

end Go.Proofs.YtofkolbnhcckkaaGreat
