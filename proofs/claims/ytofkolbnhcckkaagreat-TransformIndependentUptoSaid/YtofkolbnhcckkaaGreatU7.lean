/-
  transform.Ids: the ids of a piece, in order. Printed by genU6.py.
-/
import Derived.Test.YtofkolbnhcckkaaGreatU6
namespace Go.Proofs.YtofkolbnhcckkaaGreat
open Go
set_option linter.unusedVariables false
set_option linter.unusedSimpArgs false
mutual
def idsI : Item → List Int
  | .mk k _ i _ _ f r => (if k = 6 ∨ k = 7 then [i] else []) ++ (idsL f ++ idsR r)
def idsL : List Item → List Int
  | [] => []
  | x :: l => idsI x ++ idsL l
def idsR : List (Head × List (Int × Head × List Item)) → List Int
  | [] => []
  | (_, c) :: l => idsC c ++ idsR l
def idsC : List (Int × Head × List Item) → List Int
  | [] => []
  | (i, _, f) :: l => i :: (idsL f ++ idsC l)
end
theorem idsI_eq (x : Item) : idsI x = (if x.kind = 6 ∨ x.kind = 7 then [x.id] else []) ++ (idsL x.flow ++ idsR x.rows) := by cases x; rw [idsI]; rfl
theorem idsL_append (a b : List Item) : idsL (a ++ b) = idsL a ++ idsL b := by
  induction a with
  | nil => simp [idsL]
  | cons x l ih => simp only [List.cons_append, idsL, ih, List.append_assoc]
theorem idsR_append (a b : List Row) : idsR (a ++ b) = idsR a ++ idsR b := by
  induction a with
  | nil => simp [idsR]
  | cons x l ih => obtain ⟨h, c⟩ := x; simp only [List.cons_append, idsR, ih, List.append_assoc]
theorem idsC_append (a b : List Cell) : idsC (a ++ b) = idsC a ++ idsC b := by
  induction a with
  | nil => simp [idsC]
  | cons x l ih => obtain ⟨h, c, f⟩ := x; simp only [List.cons_append, idsC, ih, List.append_assoc]
theorem idsL_snoc {l : List Item} {i : Nat} {x : Item} (h : l[i]? = some x) : idsL (l.take (i + 1)) = idsL (l.take i) ++ idsI x := by rw [take_get h, idsL_append]; simp [idsL]
theorem idsR_snoc {l : List Row} {i : Nat} {x : Row} (h : l[i]? = some x) : idsR (l.take (i + 1)) = idsR (l.take i) ++ idsC x.2 := by rw [take_get h, idsR_append]; obtain ⟨a, b⟩ := x; simp [idsR]
theorem idsC_snoc {l : List Cell} {i : Nat} {x : Cell} (h : l[i]? = some x) : idsC (l.take (i + 1)) = idsC (l.take i) ++ (x.1 :: idsL x.2.2) := by rw [take_get h, idsC_append]; obtain ⟨a, b, c⟩ := x; simp [idsC]
mutual
theorem idsI_len : ∀ x : Item, (idsI x).length ≤ x.mass
  | .mk k _ i t h f r => by
    rw [idsI, Item.mass]
    have h1 := idsL_len f
    have h2 := idsR_len r
    simp only [List.length_append]
    split <;> simp <;> omega
theorem idsL_len : ∀ l : List Item, (idsL l).length ≤ massL l
  | [] => by simp [idsL]
  | x :: l => by rw [idsL, massL, List.length_append]; have := idsI_len x; have := idsL_len l; omega
theorem idsR_len : ∀ l : List (Head × List (Int × Head × List Item)), (idsR l).length ≤ massR l
  | [] => by simp [idsR]
  | (h, c) :: l => by rw [idsR, massR, List.length_append]; have := idsC_len c; have := idsR_len l; omega
theorem idsC_len : ∀ l : List (Int × Head × List Item), (idsC l).length ≤ massC l
  | [] => by simp [idsC]
  | (i, h, f) :: l => by rw [idsC, massC, List.length_cons, List.length_append]; have := idsL_len f; have := idsC_len l; omega
end
def addAll (kvs : List (Int × Value)) (l : List Int) : List (Int × Value) := l.foldl (fun m x => iput m x (.bool true)) kvs
theorem addAll_app (kvs : List (Int × Value)) (a b : List Int) : addAll kvs (a ++ b) = addAll (addAll kvs a) b := by unfold addAll; rw [List.foldl_append]
theorem addAll_cons (kvs : List (Int × Value)) (a : Int) (b : List Int) : addAll kvs (a :: b) = addAll (iput kvs a (.bool true)) b := rfl
theorem addAll_has {x : Int} : ∀ {l : List Int} {kvs : List (Int × Value)}, ihas (addAll kvs l) x ↔ ihas kvs x ∨ x ∈ l
  | [], kvs => by simp [addAll]
  | a :: r, kvs => by rw [addAll_cons, addAll_has, ihas_put, List.mem_cons, or_assoc]
theorem iput_len (kvs : List (Int × Value)) (x : Int) (v : Value) : (iput kvs x v).length ≤ kvs.length + 1 := by
  induction kvs with
  | nil => simp [iput]
  | cons p r ih =>
    unfold iput
    split
    · simp
    · simp only [List.length_cons]; omega
theorem addAll_len : ∀ (l : List Int) (kvs : List (Int × Value)), (addAll kvs l).length ≤ kvs.length + l.length
  | [], kvs => by simp [addAll]
  | a :: r, kvs => by rw [addAll_cons]; have := addAll_len r (iput kvs a (.bool true)); have := iput_len kvs a (.bool true); simp only [List.length_cons]; omega
attribute [local irreducible] wpA opsA drJ drQ drE Ef Ev Shift Fn
def CollectC (N : Nat) : Prop := ∀ (H : Hp) (a : Option Addr) (n cp : Nat) (l : List Item) (kvs : List (Int × Value)) (mb : Nat), FlowH H a n cp l → massL l < N → massL l < 68719476736 → Fn Tryz.prog 58 [.map (some mb), .slice a n cp] H [.obj mb (imobj kvs)] fun v _ I' => v = .tuple #[] ∧ I' = [.obj mb (imobj (addAll kvs (idsL l)))]
set_option maxRecDepth 100000 in
set_option maxHeartbeats 2000000 in
theorem collectCells_fn {N : Nat} (hN : CollectC N) {H : Hp} {a : Option Addr} {n cp : Nat} {l : List Cell} {kvs : List (Int × Value)} {mb : Nat} (hx0 : CellsS H a n cp l) (hl : massC l < N) (hl2 : massC l < 68719476736) :
    Fn Tryz.prog 59 [.map (some mb), .slice a n cp] H [.obj mb (imobj kvs)] fun v _ I' => v = .tuple #[] ∧ I' = [.obj mb (imobj (addAll kvs (idsC l)))] := by
  have e1 := hx0.len
  have hcl := massC_len l
  refine Fn_of _ _ Tryz.func59 rfl Tryz.ntmps59 rfl fun c => ?_
  repeat' (first | refine O_nil ?_ | refine A_seq ?_ | refine A_region ?_ | refine A_block ?_ | (show opsA _ _ _ _ _ _ _; first | refine O_ev WideF.wide rfl (Ev_pure rfl) rfl rfl ?_ | (show opsA _ _ _ _ (⟨_, .call _, _, _, _, _⟩ :: _) _ _; refine O_ev WideF.wide rfl (Ev_llen rfl) rfl rfl ?_)))
  refine A_loopu (fun q s => ∃ (i : Nat) (H1 : Hp) (kv : List (Int × Value)), q = n - i ∧ i ≤ n ∧ HLe H H1 ∧ kv = addAll kvs (idsC (l.take i)) ∧ s = ⟨20, [(0, .map (some mb)), (6, .slice a n cp), (7, .int .i64 n), (8, .int .i64 i)], H1, [.obj mb (imobj kv)], [], []⟩) ?_ ?_
  · exact Shift.to ⟨_, 0, H, _, rfl, by omega, HLe.refl _, rfl, rfl⟩ ⟨rfl, rfl, rfl, ⟨rfl, rfl, rfl, rfl, trivial⟩, Own.subi [0] (by decide) rfl rfl⟩
  rintro q s ⟨i, H1, kv, rfl, hi, hle1, hkv, rfl⟩
  by_cases hlt : i < n
  · obtain ⟨bb, bo, rcs, y, rfl, hy, hyc, hyk, hc⟩ := (hx0.mono hle1).at i hlt
    have hmm := massC_mem' (List.mem_of_getElem? hy)
    have hone := hyc.one
    obtain ⟨pa, pn, pc, ea, en, ec, fa, fn, fc, ga, gn, gc, rfl, -, -, -, hf⟩ := hyc.cells
    have hcall := fun Hx (h : HLe H1 Hx) kv => hN Hx ga gn gc y.2.2 kv mb (FlowH.mono h hf) (by omega) (by omega)
    have hsn := idsC_snoc hy
    repeat' (first | (refine O_ev WideF.wide rfl (Ev_loadH rfl hc rfl) rfl rfl ?_) | (refine O_ef rfl (Ef_storew (vs := [_, _, _, _, _, _, _]) WideF.wide rfl rfl rfl rfl rfl ?_); refine O_freezeBox hone ?_; intro H2 hle2 hc) | (refine O_ef rfl (Ef_mapPutJ WideF.wide rfl rfl rfl ?_)) | (refine O_ef rfl (Ef_call (I := [_]) WideF.wide (hcall _ hle2 _) ⟨rfl, rfl, trivial⟩ rfl ?_); rintro v H3 I3 hle3 ⟨rfl, rfl⟩) | refine O_nil ?_ | refine A_seq ?_ | refine A_region ?_ | refine A_skip ?_ | refine A_block ?_ | (show opsA _ _ _ _ _ _ _; first | refine O_ev WideF.wide rfl (Ev_pure rfl) rfl rfl ?_ | (show opsA _ _ _ _ (⟨_, .load _ _, _, _, _, _⟩ :: _) _ _; first | refine O_ev WideF.wide rfl (Ev_loadH1 rfl (hc 0 _ rfl)) rfl rfl ?_ | refine O_ev WideF.wide rfl (Ev_loadH1 rfl (hc 6 _ rfl)) rfl rfl ?_) | (show opsA _ _ _ _ (⟨_, .indexAddr _ _ _, _, _, _, _⟩ :: _) _ _; refine O_ev WideF.wide rfl (Ev_indexAddr rfl rfl (by omega) (by omega)) rfl rfl ?_) | (show opsA _ _ _ _ (⟨_, .fieldAddr _ _ _, _, _, _, _⟩ :: _) _ _; refine O_ev WideF.wide rfl (Ev_fieldAddr rfl rfl rfl) rfl rfl ?_) | (show opsA _ _ _ _ (⟨_, .binOp _ _ _ _ _, _, _, _, _⟩ :: _) _ _; refine O_ev WideF.wide rfl (Ev_add rfl rfl (wi64 (by omega))) rfl rfl ?_) | (show opsA _ _ _ _ (⟨_, .alloc _, _, _, _, _⟩ :: _) _ _; (refine O_ef rfl (Ef_alloc WideF.wide rfl ?_); intro b))) | (show wpA _ _ _ (.cond _ _ _) _ _ _ _; (refine A_if rfl (fun h => ?_) (fun h => ?_) <;> try (exfalso; omega))))
    all_goals first
      | exact Shift.to ⟨_, by omega, i + 1, H3, _, rfl, by omega, (hle1.trans hle2).trans hle3, by rw [hsn, addAll_app, ← hkv, addAll_cons], rfl⟩ ⟨rfl, rfl, rfl, ⟨rfl, rfl, rfl, rfl, trivial⟩, Own.subi [0] (by decide) rfl rfl⟩
      | trace_state
  · obtain rfl : n = i := by omega
    rw [List.take_of_length_le (by omega)] at hkv
    subst hkv
    repeat' (first | refine O_nil ?_ | refine A_seq ?_ | refine A_region ?_ | (show opsA _ _ _ _ _ _ _; refine O_ev WideF.wide rfl (Ev_pure rfl) rfl rfl ?_) | (show wpA _ _ _ (.exit _) _ _ _ _; refine A_exit rfl ?_) | (show wpA _ _ _ (.cond _ _ _) _ _ _ _; (refine A_if rfl (fun h => ?_) (fun h => ?_) <;> try (exfalso; omega))))
    exact End_m (Ret0 rfl) ⟨rfl, rfl⟩

set_option maxRecDepth 100000 in
set_option maxHeartbeats 4000000 in
theorem collect_step {N : Nat} (hN : CollectC N) : CollectC (N + 1) := by
  intro H a n cp l kvs mb hx0 hl hl2
  have e1 := hx0.len
  have hcl := massL_len l
  refine Fn_of _ _ Tryz.func58 rfl Tryz.ntmps58 rfl fun c => ?_
  repeat' (first | refine O_nil ?_ | refine A_seq ?_ | refine A_region ?_ | refine A_block ?_ | (show opsA _ _ _ _ _ _ _; first | refine O_ev WideF.wide rfl (Ev_pure rfl) rfl rfl ?_ | (show opsA _ _ _ _ (⟨_, .call _, _, _, _, _⟩ :: _) _ _; refine O_ev WideF.wide rfl (Ev_llen rfl) rfl rfl ?_)))
  refine A_loopu (fun q s => ∃ (i : Nat) (H1 : Hp) (kv : List (Int × Value)), q = n - i ∧ i ≤ n ∧ HLe H H1 ∧ kv = addAll kvs (idsL (l.take i)) ∧ s = ⟨42, [(0, .map (some mb)), (8, .slice a n cp), (9, .int .i64 n), (10, .int .i64 i)], H1, [.obj mb (imobj kv)], [], []⟩) ?_ ?_
  · exact Shift.to ⟨_, 0, H, _, rfl, by omega, HLe.refl _, rfl, rfl⟩ ⟨rfl, rfl, rfl, ⟨rfl, rfl, rfl, rfl, trivial⟩, Own.subi [0] (by decide) rfl rfl⟩
  rintro q s ⟨i, H1, kv, rfl, hi, hle1, hkv, rfl⟩
  by_cases hlt : i < n
  · obtain ⟨bb, bo, rcs, y, rfl, hy, hyc, hyk, hc⟩ := (FlowH.mono hle1 hx0).at i hlt
    have hmm := massL_mem' (List.mem_of_getElem? hy)
    have hone := ItemH.one hyc
    obtain ⟨pa, pn, pc, ea, en, ec, qa, qn, qc, fa, fn, fc, ra, rn, rc, rfl, -, -, -, hf, hr⟩ := hyc.cells
    have e2 := hr.len
    have hrl := massR_len y.rows
    by_cases hk6 : y.kind = 6
    · have hcall := fun Hx (h : HLe H1 Hx) kv => hN Hx fa fn fc y.flow kv mb (FlowH.mono h hf) (by omega) (by omega)
      have hsn := idsL_snoc hy
      rw [idsI_eq, if_pos (Or.inl hk6)] at hsn
      have hke : ∀ k, k = addAll (addAll (addAll kv [y.id]) (idsL y.flow)) (idsR y.rows) → k = addAll kvs (idsL (l.take (i + 1))) := by
        intro k hk
        rw [hk, hsn, addAll_app, addAll_app, addAll_app, ← hkv]
      repeat' (first | (refine O_ev WideF.wide rfl (Ev_loadH rfl hc rfl) rfl rfl ?_) | (refine O_ef rfl (Ef_storew (vs := [_, _, _, _, _, _, _, _, _, _, _]) WideF.wide rfl rfl rfl rfl rfl ?_); refine O_freezeBox hone ?_; intro H2 hle2 hc) | (refine O_ef rfl (Ef_mapPutJ WideF.wide rfl rfl rfl ?_)) | (refine O_ef rfl (Ef_call (I := [_]) WideF.wide (hcall _ hle2 _) ⟨rfl, rfl, trivial⟩ rfl ?_); rintro v H3 I3 hle3 ⟨rfl, rfl⟩; have hc := hc.mono hle3) | refine O_nil ?_ | refine A_seq ?_ | refine A_region ?_ | refine A_skip ?_ | refine A_block ?_ | (show opsA _ _ _ _ _ _ _; first | (refine O_split rfl rfl (fun h => ?_) (fun h => ?_) <;> try (exfalso; omega)) | refine O_ev WideF.wide rfl (Ev_pure rfl) rfl rfl ?_ | (show opsA _ _ _ _ (⟨_, .load _ _, _, _, _, _⟩ :: _) _ _; first | refine O_ev WideF.wide rfl (Ev_loadH1 rfl (hc 0 _ rfl)) rfl rfl ?_ | refine O_ev WideF.wide rfl (Ev_loadH1 rfl (hc 2 _ rfl)) rfl rfl ?_ | refine O_ev WideF.wide rfl (Ev_loadH1 rfl (hc 9 _ rfl)) rfl rfl ?_ | refine O_ev WideF.wide rfl (Ev_loadH1 rfl (hc 10 _ rfl)) rfl rfl ?_) | (show opsA _ _ _ _ (⟨_, .indexAddr _ _ _, _, _, _, _⟩ :: _) _ _; refine O_ev WideF.wide rfl (Ev_indexAddr rfl rfl (by omega) (by omega)) rfl rfl ?_) | (show opsA _ _ _ _ (⟨_, .fieldAddr _ _ _, _, _, _, _⟩ :: _) _ _; refine O_ev WideF.wide rfl (Ev_fieldAddr rfl rfl rfl) rfl rfl ?_) | (show opsA _ _ _ _ (⟨_, .call _, _, _, _, _⟩ :: _) _ _; refine O_ev WideF.wide rfl (Ev_llen rfl) rfl rfl ?_) | (show opsA _ _ _ _ (⟨_, .alloc _, _, _, _, _⟩ :: _) _ _; (refine O_ef rfl (Ef_alloc WideF.wide rfl ?_); intro b)) | refine O_skip WideF.wide rfl rfl rfl ?_) | (show wpA _ _ _ (.cond _ _ _) _ _ _ _; first | (refine A_if rfl (fun h => ?_) (fun h => ?_) <;> try (exfalso; omega)) | refine A_iftrue rfl ?_))
      all_goals try (exfalso; omega)
      refine A_loopu (fun q s => ∃ (j : Nat) (H4 : Hp) (kw : List (Int × Value)), q = rn - j ∧ j ≤ rn ∧ HLe H3 H4 ∧ kw = addAll (addAll (addAll kv [y.id]) (idsL y.flow)) (idsR (y.rows.take j)) ∧ s = ⟨42, [(0, .map (some mb)), (8, .slice (some ⟨bb, bo, none⟩) n cp), (9, .int .i64 n), (10, .int .i64 i), (30, .slice ra rn rc), (31, .int .i64 rn), (32, .int .i64 j)], H4, [.obj mb (imobj kw)], [], []⟩) ?_ ?_
      · exact Shift.to ⟨_, 0, H3, _, rfl, by omega, HLe.refl _, rfl, rfl⟩ ⟨rfl, rfl, rfl, ⟨rfl, rfl, rfl, rfl, rfl, rfl, rfl, trivial⟩, Own.subi [0] (by decide) rfl rfl⟩
      rintro q s ⟨j, H4, kw, rfl, hj, hle4, hkw, rfl⟩
      by_cases hlt2 : j < rn
      · obtain ⟨cb, co, rcs, z, rfl, hz, hzc, hzk, hc⟩ := (RowsS.mono ((hle2.trans hle3).trans hle4) hr).at j hlt2
        have hmz := massR_mem' (List.mem_of_getElem? hz)
        have hone := hzc.one
        obtain ⟨pa', pn', pc', ea', en', ec', fa', fn', fc', ga', gn', gc', rfl, -, -, -, hg⟩ := hzc.cells
        have hcc := fun Hx (h : HLe H4 Hx) kv => collectCells_fn hN (kvs := kv) (mb := mb) (CellsS.mono h hg) (by omega) (by omega)
        have hsz := idsR_snoc hz
        repeat' (first | (refine O_ev WideF.wide rfl (Ev_loadH rfl hc rfl) rfl rfl ?_) | (refine O_ef rfl (Ef_storew (vs := [_, _, _, _, _, _]) WideF.wide rfl rfl rfl rfl rfl ?_); refine O_freezeBox hone ?_; intro H5 hle5 hc) | (refine O_ef rfl (Ef_call (I := [_]) WideF.wide (hcc _ hle5 _) ⟨rfl, rfl, trivial⟩ rfl ?_); rintro v H6 I6 hle6 ⟨rfl, rfl⟩) | refine O_nil ?_ | refine A_seq ?_ | refine A_region ?_ | refine A_skip ?_ | refine A_block ?_ | (show opsA _ _ _ _ _ _ _; first | refine O_ev WideF.wide rfl (Ev_pure rfl) rfl rfl ?_ | (show opsA _ _ _ _ (⟨_, .load _ _, _, _, _, _⟩ :: _) _ _; refine O_ev WideF.wide rfl (Ev_loadH1 rfl (hc 5 _ rfl)) rfl rfl ?_) | (show opsA _ _ _ _ (⟨_, .indexAddr _ _ _, _, _, _, _⟩ :: _) _ _; refine O_ev WideF.wide rfl (Ev_indexAddr rfl rfl (by omega) (by omega)) rfl rfl ?_) | (show opsA _ _ _ _ (⟨_, .fieldAddr _ _ _, _, _, _, _⟩ :: _) _ _; refine O_ev WideF.wide rfl (Ev_fieldAddr rfl rfl rfl) rfl rfl ?_) | (show opsA _ _ _ _ (⟨_, .binOp _ _ _ _ _, _, _, _, _⟩ :: _) _ _; refine O_ev WideF.wide rfl (Ev_add rfl rfl (wi64 (by omega))) rfl rfl ?_) | (show opsA _ _ _ _ (⟨_, .alloc _, _, _, _, _⟩ :: _) _ _; (refine O_ef rfl (Ef_alloc WideF.wide rfl ?_); intro b))) | (show wpA _ _ _ (.cond _ _ _) _ _ _ _; (refine A_if rfl (fun h => ?_) (fun h => ?_) <;> try (exfalso; omega))))
        all_goals first
          | exact Shift.to ⟨_, by omega, j + 1, H6, _, rfl, by omega, (hle4.trans hle5).trans hle6, by rw [hsz, addAll_app, ← hkw], rfl⟩ ⟨rfl, rfl, rfl, ⟨rfl, rfl, rfl, rfl, rfl, rfl, rfl, trivial⟩, Own.subi [0] (by decide) rfl rfl⟩
          | trace_state
      · obtain rfl : rn = j := by omega
        rw [List.take_of_length_le (by omega)] at hkw
        repeat' (first | refine O_nil ?_ | refine A_seq ?_ | refine A_region ?_ | (show opsA _ _ _ _ _ _ _; first | refine O_ev WideF.wide rfl (Ev_pure rfl) rfl rfl ?_ | (show opsA _ _ _ _ (⟨_, .binOp _ _ _ _ _, _, _, _, _⟩ :: _) _ _; refine O_ev WideF.wide rfl (Ev_add rfl rfl (wi64 (by omega))) rfl rfl ?_)) | (show wpA _ _ _ (.exit _) _ _ _ _; refine A_exit rfl ?_) | (show wpA _ _ _ (.cond _ _ _) _ _ _ _; (refine A_if rfl (fun h => ?_) (fun h => ?_) <;> try (exfalso; omega))))
        all_goals first
          | exact Shift.to ⟨_, by omega, i + 1, H4, _, rfl, by omega, (hle1.trans hle2).trans (hle3.trans hle4), hke _ hkw, rfl⟩ ⟨rfl, rfl, rfl, ⟨rfl, rfl, rfl, rfl, trivial⟩, Own.subi [0] (by decide) rfl rfl⟩
          | trace_state
    by_cases hk7 : y.kind = 7
    · have hcall := fun Hx (h : HLe H1 Hx) kv => hN Hx fa fn fc y.flow kv mb (FlowH.mono h hf) (by omega) (by omega)
      have hsn := idsL_snoc hy
      rw [idsI_eq, if_pos (Or.inr hk7)] at hsn
      have hke : ∀ k, k = addAll (addAll (addAll kv [y.id]) (idsL y.flow)) (idsR y.rows) → k = addAll kvs (idsL (l.take (i + 1))) := by
        intro k hk
        rw [hk, hsn, addAll_app, addAll_app, addAll_app, ← hkv]
      repeat' (first | (refine O_ev WideF.wide rfl (Ev_loadH rfl hc rfl) rfl rfl ?_) | (refine O_ef rfl (Ef_storew (vs := [_, _, _, _, _, _, _, _, _, _, _]) WideF.wide rfl rfl rfl rfl rfl ?_); refine O_freezeBox hone ?_; intro H2 hle2 hc) | (refine O_ef rfl (Ef_mapPutJ WideF.wide rfl rfl rfl ?_)) | (refine O_ef rfl (Ef_call (I := [_]) WideF.wide (hcall _ hle2 _) ⟨rfl, rfl, trivial⟩ rfl ?_); rintro v H3 I3 hle3 ⟨rfl, rfl⟩; have hc := hc.mono hle3) | refine O_nil ?_ | refine A_seq ?_ | refine A_region ?_ | refine A_skip ?_ | refine A_block ?_ | (show opsA _ _ _ _ _ _ _; first | (refine O_split rfl rfl (fun h => ?_) (fun h => ?_) <;> try (exfalso; omega)) | refine O_ev WideF.wide rfl (Ev_pure rfl) rfl rfl ?_ | (show opsA _ _ _ _ (⟨_, .load _ _, _, _, _, _⟩ :: _) _ _; first | refine O_ev WideF.wide rfl (Ev_loadH1 rfl (hc 0 _ rfl)) rfl rfl ?_ | refine O_ev WideF.wide rfl (Ev_loadH1 rfl (hc 2 _ rfl)) rfl rfl ?_ | refine O_ev WideF.wide rfl (Ev_loadH1 rfl (hc 9 _ rfl)) rfl rfl ?_ | refine O_ev WideF.wide rfl (Ev_loadH1 rfl (hc 10 _ rfl)) rfl rfl ?_) | (show opsA _ _ _ _ (⟨_, .indexAddr _ _ _, _, _, _, _⟩ :: _) _ _; refine O_ev WideF.wide rfl (Ev_indexAddr rfl rfl (by omega) (by omega)) rfl rfl ?_) | (show opsA _ _ _ _ (⟨_, .fieldAddr _ _ _, _, _, _, _⟩ :: _) _ _; refine O_ev WideF.wide rfl (Ev_fieldAddr rfl rfl rfl) rfl rfl ?_) | (show opsA _ _ _ _ (⟨_, .call _, _, _, _, _⟩ :: _) _ _; refine O_ev WideF.wide rfl (Ev_llen rfl) rfl rfl ?_) | (show opsA _ _ _ _ (⟨_, .alloc _, _, _, _, _⟩ :: _) _ _; (refine O_ef rfl (Ef_alloc WideF.wide rfl ?_); intro b))) | (show wpA _ _ _ (.cond _ _ _) _ _ _ _; (refine A_if rfl (fun h => ?_) (fun h => ?_) <;> try (exfalso; omega))))
      all_goals try (exfalso; omega)
      refine A_loopu (fun q s => ∃ (j : Nat) (H4 : Hp) (kw : List (Int × Value)), q = rn - j ∧ j ≤ rn ∧ HLe H3 H4 ∧ kw = addAll (addAll (addAll kv [y.id]) (idsL y.flow)) (idsR (y.rows.take j)) ∧ s = ⟨42, [(0, .map (some mb)), (8, .slice (some ⟨bb, bo, none⟩) n cp), (9, .int .i64 n), (10, .int .i64 i), (30, .slice ra rn rc), (31, .int .i64 rn), (32, .int .i64 j)], H4, [.obj mb (imobj kw)], [], []⟩) ?_ ?_
      · exact Shift.to ⟨_, 0, H3, _, rfl, by omega, HLe.refl _, rfl, rfl⟩ ⟨rfl, rfl, rfl, ⟨rfl, rfl, rfl, rfl, rfl, rfl, rfl, trivial⟩, Own.subi [0] (by decide) rfl rfl⟩
      rintro q s ⟨j, H4, kw, rfl, hj, hle4, hkw, rfl⟩
      by_cases hlt2 : j < rn
      · obtain ⟨cb, co, rcs, z, rfl, hz, hzc, hzk, hc⟩ := (RowsS.mono ((hle2.trans hle3).trans hle4) hr).at j hlt2
        have hmz := massR_mem' (List.mem_of_getElem? hz)
        have hone := hzc.one
        obtain ⟨pa', pn', pc', ea', en', ec', fa', fn', fc', ga', gn', gc', rfl, -, -, -, hg⟩ := hzc.cells
        have hcc := fun Hx (h : HLe H4 Hx) kv => collectCells_fn hN (kvs := kv) (mb := mb) (CellsS.mono h hg) (by omega) (by omega)
        have hsz := idsR_snoc hz
        repeat' (first | (refine O_ev WideF.wide rfl (Ev_loadH rfl hc rfl) rfl rfl ?_) | (refine O_ef rfl (Ef_storew (vs := [_, _, _, _, _, _]) WideF.wide rfl rfl rfl rfl rfl ?_); refine O_freezeBox hone ?_; intro H5 hle5 hc) | (refine O_ef rfl (Ef_call (I := [_]) WideF.wide (hcc _ hle5 _) ⟨rfl, rfl, trivial⟩ rfl ?_); rintro v H6 I6 hle6 ⟨rfl, rfl⟩) | refine O_nil ?_ | refine A_seq ?_ | refine A_region ?_ | refine A_skip ?_ | refine A_block ?_ | (show opsA _ _ _ _ _ _ _; first | refine O_ev WideF.wide rfl (Ev_pure rfl) rfl rfl ?_ | (show opsA _ _ _ _ (⟨_, .load _ _, _, _, _, _⟩ :: _) _ _; refine O_ev WideF.wide rfl (Ev_loadH1 rfl (hc 5 _ rfl)) rfl rfl ?_) | (show opsA _ _ _ _ (⟨_, .indexAddr _ _ _, _, _, _, _⟩ :: _) _ _; refine O_ev WideF.wide rfl (Ev_indexAddr rfl rfl (by omega) (by omega)) rfl rfl ?_) | (show opsA _ _ _ _ (⟨_, .fieldAddr _ _ _, _, _, _, _⟩ :: _) _ _; refine O_ev WideF.wide rfl (Ev_fieldAddr rfl rfl rfl) rfl rfl ?_) | (show opsA _ _ _ _ (⟨_, .binOp _ _ _ _ _, _, _, _, _⟩ :: _) _ _; refine O_ev WideF.wide rfl (Ev_add rfl rfl (wi64 (by omega))) rfl rfl ?_) | (show opsA _ _ _ _ (⟨_, .alloc _, _, _, _, _⟩ :: _) _ _; (refine O_ef rfl (Ef_alloc WideF.wide rfl ?_); intro b))) | (show wpA _ _ _ (.cond _ _ _) _ _ _ _; (refine A_if rfl (fun h => ?_) (fun h => ?_) <;> try (exfalso; omega))))
        all_goals first
          | exact Shift.to ⟨_, by omega, j + 1, H6, _, rfl, by omega, (hle4.trans hle5).trans hle6, by rw [hsz, addAll_app, ← hkw], rfl⟩ ⟨rfl, rfl, rfl, ⟨rfl, rfl, rfl, rfl, rfl, rfl, rfl, trivial⟩, Own.subi [0] (by decide) rfl rfl⟩
          | trace_state
      · obtain rfl : rn = j := by omega
        rw [List.take_of_length_le (by omega)] at hkw
        repeat' (first | refine O_nil ?_ | refine A_seq ?_ | refine A_region ?_ | (show opsA _ _ _ _ _ _ _; first | refine O_ev WideF.wide rfl (Ev_pure rfl) rfl rfl ?_ | (show opsA _ _ _ _ (⟨_, .binOp _ _ _ _ _, _, _, _, _⟩ :: _) _ _; refine O_ev WideF.wide rfl (Ev_add rfl rfl (wi64 (by omega))) rfl rfl ?_)) | (show wpA _ _ _ (.exit _) _ _ _ _; refine A_exit rfl ?_) | (show wpA _ _ _ (.cond _ _ _) _ _ _ _; (refine A_if rfl (fun h => ?_) (fun h => ?_) <;> try (exfalso; omega))))
        all_goals first
          | exact Shift.to ⟨_, by omega, i + 1, H4, _, rfl, by omega, (hle1.trans hle2).trans (hle3.trans hle4), hke _ hkw, rfl⟩ ⟨rfl, rfl, rfl, ⟨rfl, rfl, rfl, rfl, trivial⟩, Own.subi [0] (by decide) rfl rfl⟩
          | trace_state
    · have hcall := fun Hx (h : HLe H1 Hx) kv => hN Hx fa fn fc y.flow kv mb (FlowH.mono h hf) (by omega) (by omega)
      have hsn := idsL_snoc hy
      rw [idsI_eq, if_neg (by omega)] at hsn
      have hke : ∀ k, k = addAll (addAll (addAll kv []) (idsL y.flow)) (idsR y.rows) → k = addAll kvs (idsL (l.take (i + 1))) := by
        intro k hk
        rw [hk, hsn, addAll_app, addAll_app, addAll_app, ← hkv]
      repeat' (first | (refine O_ev WideF.wide rfl (Ev_loadH rfl hc rfl) rfl rfl ?_) | (refine O_ef rfl (Ef_storew (vs := [_, _, _, _, _, _, _, _, _, _, _]) WideF.wide rfl rfl rfl rfl rfl ?_); refine O_freezeBox hone ?_; intro H2 hle2 hc) | (refine O_ef rfl (Ef_call (I := [_]) WideF.wide (hcall _ hle2 _) ⟨rfl, rfl, trivial⟩ rfl ?_); rintro v H3 I3 hle3 ⟨rfl, rfl⟩; have hc := hc.mono hle3) | refine O_nil ?_ | refine A_seq ?_ | refine A_region ?_ | refine A_skip ?_ | refine A_block ?_ | (show opsA _ _ _ _ _ _ _; first | (refine O_split rfl rfl (fun h => ?_) (fun h => ?_) <;> try (exfalso; omega)) | refine O_ev WideF.wide rfl (Ev_pure rfl) rfl rfl ?_ | (show opsA _ _ _ _ (⟨_, .load _ _, _, _, _, _⟩ :: _) _ _; first | refine O_ev WideF.wide rfl (Ev_loadH1 rfl (hc 0 _ rfl)) rfl rfl ?_ | refine O_ev WideF.wide rfl (Ev_loadH1 rfl (hc 9 _ rfl)) rfl rfl ?_ | refine O_ev WideF.wide rfl (Ev_loadH1 rfl (hc 10 _ rfl)) rfl rfl ?_) | (show opsA _ _ _ _ (⟨_, .indexAddr _ _ _, _, _, _, _⟩ :: _) _ _; refine O_ev WideF.wide rfl (Ev_indexAddr rfl rfl (by omega) (by omega)) rfl rfl ?_) | (show opsA _ _ _ _ (⟨_, .fieldAddr _ _ _, _, _, _, _⟩ :: _) _ _; refine O_ev WideF.wide rfl (Ev_fieldAddr rfl rfl rfl) rfl rfl ?_) | (show opsA _ _ _ _ (⟨_, .call _, _, _, _, _⟩ :: _) _ _; refine O_ev WideF.wide rfl (Ev_llen rfl) rfl rfl ?_) | (show opsA _ _ _ _ (⟨_, .alloc _, _, _, _, _⟩ :: _) _ _; (refine O_ef rfl (Ef_alloc WideF.wide rfl ?_); intro b))) | (show wpA _ _ _ (.cond _ _ _) _ _ _ _; (refine A_if rfl (fun h => ?_) (fun h => ?_) <;> try (exfalso; omega))))
      all_goals try (exfalso; omega)
      refine A_loopu (fun q s => ∃ (j : Nat) (H4 : Hp) (kw : List (Int × Value)), q = rn - j ∧ j ≤ rn ∧ HLe H3 H4 ∧ kw = addAll (addAll (addAll kv []) (idsL y.flow)) (idsR (y.rows.take j)) ∧ s = ⟨42, [(0, .map (some mb)), (8, .slice (some ⟨bb, bo, none⟩) n cp), (9, .int .i64 n), (10, .int .i64 i), (30, .slice ra rn rc), (31, .int .i64 rn), (32, .int .i64 j)], H4, [.obj mb (imobj kw)], [], []⟩) ?_ ?_
      · exact Shift.to ⟨_, 0, H3, _, rfl, by omega, HLe.refl _, rfl, rfl⟩ ⟨rfl, rfl, rfl, ⟨rfl, rfl, rfl, rfl, rfl, rfl, rfl, trivial⟩, Own.subi [0] (by decide) rfl rfl⟩
      rintro q s ⟨j, H4, kw, rfl, hj, hle4, hkw, rfl⟩
      by_cases hlt2 : j < rn
      · obtain ⟨cb, co, rcs, z, rfl, hz, hzc, hzk, hc⟩ := (RowsS.mono ((hle2.trans hle3).trans hle4) hr).at j hlt2
        have hmz := massR_mem' (List.mem_of_getElem? hz)
        have hone := hzc.one
        obtain ⟨pa', pn', pc', ea', en', ec', fa', fn', fc', ga', gn', gc', rfl, -, -, -, hg⟩ := hzc.cells
        have hcc := fun Hx (h : HLe H4 Hx) kv => collectCells_fn hN (kvs := kv) (mb := mb) (CellsS.mono h hg) (by omega) (by omega)
        have hsz := idsR_snoc hz
        repeat' (first | (refine O_ev WideF.wide rfl (Ev_loadH rfl hc rfl) rfl rfl ?_) | (refine O_ef rfl (Ef_storew (vs := [_, _, _, _, _, _]) WideF.wide rfl rfl rfl rfl rfl ?_); refine O_freezeBox hone ?_; intro H5 hle5 hc) | (refine O_ef rfl (Ef_call (I := [_]) WideF.wide (hcc _ hle5 _) ⟨rfl, rfl, trivial⟩ rfl ?_); rintro v H6 I6 hle6 ⟨rfl, rfl⟩) | refine O_nil ?_ | refine A_seq ?_ | refine A_region ?_ | refine A_skip ?_ | refine A_block ?_ | (show opsA _ _ _ _ _ _ _; first | refine O_ev WideF.wide rfl (Ev_pure rfl) rfl rfl ?_ | (show opsA _ _ _ _ (⟨_, .load _ _, _, _, _, _⟩ :: _) _ _; refine O_ev WideF.wide rfl (Ev_loadH1 rfl (hc 5 _ rfl)) rfl rfl ?_) | (show opsA _ _ _ _ (⟨_, .indexAddr _ _ _, _, _, _, _⟩ :: _) _ _; refine O_ev WideF.wide rfl (Ev_indexAddr rfl rfl (by omega) (by omega)) rfl rfl ?_) | (show opsA _ _ _ _ (⟨_, .fieldAddr _ _ _, _, _, _, _⟩ :: _) _ _; refine O_ev WideF.wide rfl (Ev_fieldAddr rfl rfl rfl) rfl rfl ?_) | (show opsA _ _ _ _ (⟨_, .binOp _ _ _ _ _, _, _, _, _⟩ :: _) _ _; refine O_ev WideF.wide rfl (Ev_add rfl rfl (wi64 (by omega))) rfl rfl ?_) | (show opsA _ _ _ _ (⟨_, .alloc _, _, _, _, _⟩ :: _) _ _; (refine O_ef rfl (Ef_alloc WideF.wide rfl ?_); intro b))) | (show wpA _ _ _ (.cond _ _ _) _ _ _ _; (refine A_if rfl (fun h => ?_) (fun h => ?_) <;> try (exfalso; omega))))
        all_goals first
          | exact Shift.to ⟨_, by omega, j + 1, H6, _, rfl, by omega, (hle4.trans hle5).trans hle6, by rw [hsz, addAll_app, ← hkw], rfl⟩ ⟨rfl, rfl, rfl, ⟨rfl, rfl, rfl, rfl, rfl, rfl, rfl, trivial⟩, Own.subi [0] (by decide) rfl rfl⟩
          | trace_state
      · obtain rfl : rn = j := by omega
        rw [List.take_of_length_le (by omega)] at hkw
        repeat' (first | refine O_nil ?_ | refine A_seq ?_ | refine A_region ?_ | (show opsA _ _ _ _ _ _ _; first | refine O_ev WideF.wide rfl (Ev_pure rfl) rfl rfl ?_ | (show opsA _ _ _ _ (⟨_, .binOp _ _ _ _ _, _, _, _, _⟩ :: _) _ _; refine O_ev WideF.wide rfl (Ev_add rfl rfl (wi64 (by omega))) rfl rfl ?_)) | (show wpA _ _ _ (.exit _) _ _ _ _; refine A_exit rfl ?_) | (show wpA _ _ _ (.cond _ _ _) _ _ _ _; (refine A_if rfl (fun h => ?_) (fun h => ?_) <;> try (exfalso; omega))))
        all_goals first
          | exact Shift.to ⟨_, by omega, i + 1, H4, _, rfl, by omega, (hle1.trans hle2).trans (hle3.trans hle4), hke _ hkw, rfl⟩ ⟨rfl, rfl, rfl, ⟨rfl, rfl, rfl, rfl, trivial⟩, Own.subi [0] (by decide) rfl rfl⟩
          | trace_state
  · obtain rfl : n = i := by omega
    rw [List.take_of_length_le (by omega)] at hkv
    subst hkv
    repeat' (first | refine O_nil ?_ | refine A_seq ?_ | refine A_region ?_ | (show opsA _ _ _ _ _ _ _; refine O_ev WideF.wide rfl (Ev_pure rfl) rfl rfl ?_) | (show wpA _ _ _ (.exit _) _ _ _ _; refine A_exit rfl ?_) | (show wpA _ _ _ (.cond _ _ _) _ _ _ _; (refine A_if rfl (fun h => ?_) (fun h => ?_) <;> try (exfalso; omega))))
    exact End_m (Ret0 rfl) ⟨rfl, rfl⟩
theorem collect_all : ∀ N, CollectC N
  | 0 => fun H a n cp l kvs mb _ h => absurd h (by omega)
  | N + 1 => collect_step (collect_all N)
def idsP (p : Piece) : List Int := idsL p.items ++ (idsR p.rows ++ idsC p.cells)
set_option maxRecDepth 100000 in
set_option maxHeartbeats 4000000 in
theorem Ids_fn {H : Hp} {cs : List Value} {p : Piece} (hx : PieceH H cs p) (hm : p.fine) : Fn Tryz.prog 27 [.agg cs.toArray] H [] fun v H' I => (∃ a n c, ∃ l : List Int, v = .slice a n c ∧ HRow H' a n c 1 (l.map irow) ∧ n < 68719476736 ∧ ∀ x, x ∈ l ↔ x ∈ idsP p) ∧ I = [] := by
  have hone := hx.one.2
  obtain ⟨ia, iN, ic, ra, rn, rc, ca, cn, cc, hcs, scs, rfl, p1, p2, p3, p4, p5⟩ := hx.ex
  obtain ⟨m1, m2⟩ := hm
  obtain ⟨qa, qn, qc, da, dn, dc, la, ln, lc, rfl, -⟩ := p4.ex
  obtain ⟨sa, sn, sc, ua, un, uc, ka, kn, kc, va, vn, vc, rfl, -⟩ := p5.ex
  have e2 := p2.len
  have hrl := massR_len p.rows
  have c1 := fun Hx (h : HLe H Hx) mb => collect_all (massL p.items + 1) Hx ia iN ic p.items [] mb (FlowH.mono h p1) (by omega) (by omega)
  refine Fn_of _ _ Tryz.func27 rfl Tryz.ntmps27 rfl fun c => ?_
  repeat' (first | (refine O_ef rfl (Ef_boxa WideF.wide (cs := _ :: _ :: _ :: ([_, _, _, _, _] ++ [_, _, _, _])) rfl rfl ?_); intro b1; refine O_freezeBox hone ?_; intro H1 hle1 hb1) | (refine O_ef rfl (Ef_makeMapJ WideF.wide rfl ?_); intro mb) | (refine O_ev WideF.wide rfl (Ev_loadH1 rfl (hb1 0 _ rfl)) rfl rfl ?_) | (refine O_ev WideF.wide rfl (Ev_loadH1 rfl (hle2 _ _ _ (hb1 1 _ rfl))) rfl rfl ?_) | (refine O_ef rfl (Ef_call (I := [_]) WideF.wide (c1 _ hle1 _) ⟨rfl, rfl, trivial⟩ rfl ?_); rintro v H2 I2 hle2 ⟨rfl, rfl⟩) | refine O_nil ?_ | refine A_seq ?_ | refine A_region ?_ | refine A_block ?_ | (show opsA _ _ _ _ _ _ _; first | refine O_ev WideF.wide rfl (Ev_pure rfl) rfl rfl ?_ | (show opsA _ _ _ _ (⟨_, .fieldAddr _ _ _, _, _, _, _⟩ :: _) _ _; refine O_ev WideF.wide rfl (Ev_fieldAddr rfl rfl rfl) rfl rfl ?_) | (show opsA _ _ _ _ (⟨_, .call _, _, _, _, _⟩ :: _) _ _; refine O_ev WideF.wide rfl (Ev_llen rfl) rfl rfl ?_)))
  refine A_loopu (fun q s => ∃ (j : Nat) (H4 : Hp) (kw : List (Int × Value)), q = rn - j ∧ j ≤ rn ∧ HLe H2 H4 ∧ kw = addAll (addAll [] (idsL p.items)) (idsR (p.rows.take j)) ∧ s = ⟨30, [(1, .pointer (some ⟨b1, 0, none⟩)), (3, .map (some mb)), (12, .slice ra rn rc), (13, .int .i64 rn), (14, .int .i64 j)], H4, [.obj mb (imobj kw)], [], []⟩) ?_ ?_
  · exact Shift.to ⟨_, 0, H2, _, rfl, by omega, HLe.refl _, rfl, rfl⟩ ⟨rfl, rfl, rfl, ⟨rfl, rfl, rfl, rfl, rfl, trivial⟩, Own.subi [0] (by decide) rfl rfl⟩
  rintro q s ⟨j, H4, kw, rfl, hj, hle4, hkw, rfl⟩
  by_cases hlt2 : j < rn
  · obtain ⟨cb, co, rcs, z, rfl, hz, hzc, hzk, hc⟩ := (RowsS.mono ((hle1.trans hle2).trans hle4) p2).at j hlt2
    have hmz := massR_mem' (List.mem_of_getElem? hz)
    have hone := hzc.one
    obtain ⟨pa', pn', pc', ea', en', ec', fa', fn', fc', ga', gn', gc', rfl, -, -, -, hg⟩ := hzc.cells
    have hcc := fun Hx (h : HLe H4 Hx) kv => collectCells_fn (collect_all (massR p.rows + 1)) (kvs := kv) (mb := mb) (CellsS.mono h hg) (by omega) (by omega)
    have hsz := idsR_snoc hz
    repeat' (first | (refine O_ev WideF.wide rfl (Ev_loadH rfl hc rfl) rfl rfl ?_) | (refine O_ef rfl (Ef_storew (vs := [_, _, _, _, _, _]) WideF.wide rfl rfl rfl rfl rfl ?_); refine O_freezeBox hone ?_; intro H5 hle5 hc) | (refine O_ef rfl (Ef_call (I := [_]) WideF.wide (hcc _ hle5 _) ⟨rfl, rfl, trivial⟩ rfl ?_); rintro v H6 I6 hle6 ⟨rfl, rfl⟩) | refine O_nil ?_ | refine A_seq ?_ | refine A_region ?_ | refine A_skip ?_ | refine A_block ?_ | (show opsA _ _ _ _ _ _ _; first | refine O_ev WideF.wide rfl (Ev_pure rfl) rfl rfl ?_ | (show opsA _ _ _ _ (⟨_, .load _ _, _, _, _, _⟩ :: _) _ _; refine O_ev WideF.wide rfl (Ev_loadH1 rfl (hc 5 _ rfl)) rfl rfl ?_) | (show opsA _ _ _ _ (⟨_, .indexAddr _ _ _, _, _, _, _⟩ :: _) _ _; refine O_ev WideF.wide rfl (Ev_indexAddr rfl rfl (by omega) (by omega)) rfl rfl ?_) | (show opsA _ _ _ _ (⟨_, .fieldAddr _ _ _, _, _, _, _⟩ :: _) _ _; refine O_ev WideF.wide rfl (Ev_fieldAddr rfl rfl rfl) rfl rfl ?_) | (show opsA _ _ _ _ (⟨_, .binOp _ _ _ _ _, _, _, _, _⟩ :: _) _ _; refine O_ev WideF.wide rfl (Ev_add rfl rfl (wi64 (by omega))) rfl rfl ?_) | (show opsA _ _ _ _ (⟨_, .alloc _, _, _, _, _⟩ :: _) _ _; (refine O_ef rfl (Ef_alloc WideF.wide rfl ?_); intro b))) | (show wpA _ _ _ (.cond _ _ _) _ _ _ _; (refine A_if rfl (fun h => ?_) (fun h => ?_) <;> try (exfalso; omega))))
    all_goals first
      | exact Shift.to ⟨_, by omega, j + 1, H6, _, rfl, by omega, (hle4.trans hle5).trans hle6, by rw [hsz, addAll_app, ← hkw], rfl⟩ ⟨rfl, rfl, rfl, ⟨rfl, rfl, rfl, rfl, rfl, trivial⟩, Own.subi [0] (by decide) rfl rfl⟩
      | trace_state
  · obtain rfl : rn = j := by omega
    rw [List.take_of_length_le (by omega)] at hkw
    have hc1 := hb1.mono (hle2.trans hle4)
    have hcc := fun Hx (h : HLe H4 Hx) kv => collectCells_fn (collect_all (massC p.cells + 1)) (kvs := kv) (mb := mb) (CellsS.mono (((hle1.trans hle2).trans hle4).trans h) p3) (by omega) (by omega)
    have hlen := addAll_len (idsP p) []
    have hl1 := idsL_len p.items
    have hl2 := idsR_len p.rows
    have hl3 := idsC_len p.cells
    have hkf : addAll kw (idsC p.cells) = addAll [] (idsP p) := by rw [hkw, idsP, addAll_app, addAll_app]
    have hplen : (idsP p).length = (idsL p.items).length + ((idsR p.rows).length + (idsC p.cells).length) := by unfold idsP; simp
    have hso := fun (Hx : Hp) bi (hb : Hx bi 0 = some (.map (some mb))) => SortedS_fn (kvs := addAll kw (idsC p.cells)) hb (by rw [hkf]; simp at hlen; omega)
    simp only [← imobj_emap] at hso
    repeat' (first | (refine O_ev WideF.wide rfl (Ev_loadH1 rfl (hc1 2 _ rfl)) rfl rfl ?_) | (refine O_ef rfl (Ef_call (I := [_]) WideF.wide (hcc _ (HLe.refl _) _) ⟨rfl, rfl, trivial⟩ rfl ?_); rintro v H6 I6 hle6 ⟨rfl, rfl⟩) | (refine O_ef rfl (Ef_call (I := []) WideF.wide Keys_fn ⟨rfl, trivial⟩ rfl ?_); rintro v H7 I7 hle7 ⟨⟨bi, rfl, hb⟩, rfl⟩) | (refine O_ef rfl (Ef_call (I := [_]) WideF.wide (hso _ _ hb) ⟨rfl, trivial⟩ rfl ?_); rintro v H8 I8 hle8 ⟨za, zn, zc, ks, rfl, hks, hkr, rfl⟩) | refine O_nil ?_ | refine A_seq ?_ | refine A_region ?_ | refine A_ret ?_ | (show opsA _ _ _ _ _ _ _; first | refine O_ev WideF.wide rfl (Ev_pure rfl) rfl rfl ?_ | (show opsA _ _ _ _ (⟨_, .fieldAddr _ _ _, _, _, _, _⟩ :: _) _ _; refine O_ev WideF.wide rfl (Ev_fieldAddr rfl rfl rfl) rfl rfl ?_)) | (show wpA _ _ _ (.exit _) _ _ _ _; refine A_exit rfl ?_) | (show wpA _ _ _ (.cond _ _ _) _ _ _ _; (refine A_if rfl (fun h => ?_) (fun h => ?_) <;> try (exfalso; omega))))
    refine End_e (Ret1 rfl rfl) ⟨⟨_, _, _, _, rfl, hkr, ?_, fun x => ?_⟩, rfl⟩
    · have h1 := hkr.len
      have h2 := (List.mergeSort_perm ks fun x y => decide (x ≤ y)).length_eq
      have h3 := hks.length_eq
      rw [List.length_map] at h1 h3
      have h4 : (srt ks).length = ks.length := h2
      rw [hkf] at h3
      simp at hlen
      omega
    · rw [srt_mem, hks.mem_iff]
      show ihas _ x ↔ _
      rw [hkf, addAll_has]
      exact ⟨fun h => h.resolve_left ihas_nil, .inr⟩
end Go.Proofs.YtofkolbnhcckkaaGreat
