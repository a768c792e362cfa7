/-
  Names of the program. Printed by genF49.py.
  Names of the law. Printed by genF50.py.
-/
import Derived.Test.YtnoadopmeoohmaaGreatDoorF21
import Derived.Test.YtnoadopmeoohmaaGreatDoorF46
namespace Go.Proofs.YtnoadopmeoohmaaGreatDoor
open Go
set_option linter.unusedVariables false
set_option linter.unusedSimpArgs false
section
abbrev KV := List (List UInt8 × Value)
mutual
def nmV : Nd → KV → KV
  | .mk op _ text args, kvs => nmVL args (if op = 4 then sput kvs text (.bool true) else kvs)
def nmVL : List Nd → KV → KV
  | [], kvs => kvs
  | x :: l, kvs => nmVL l (nmV x kvs)
end
theorem nmV_eq (x : Nd) (kvs : KV) : nmV x kvs = nmVL x.args (if x.op = 4 then sput kvs x.text (.bool true) else kvs) := by
  obtain ⟨op, num, text, args⟩ := x
  rw [nmV]
  rfl
theorem nmVL_nil (kvs : KV) : nmVL [] kvs = kvs := by rw [nmVL]
theorem nmVL_cons (x : Nd) (l : List Nd) (kvs : KV) : nmVL (x :: l) kvs = nmVL l (nmV x kvs) := by rw [nmVL]
theorem sput_len (x : List UInt8) (v : Value) : ∀ kvs : KV, (sput kvs x v).length ≤ kvs.length + 1
  | [] => Nat.le_refl _
  | p :: r => by
    unfold sput
    split
    · simp
    · have := sput_len x v r; simp; omega
mutual
theorem nmV_len : ∀ (x : Nd) (kvs : KV), (nmV x kvs).length ≤ kvs.length + x.mass
  | .mk op num text args, kvs => by
    have h1 := nmVL_len args (if op = 4 then sput kvs text (.bool true) else kvs)
    have h2 : (if op = 4 then sput kvs text (.bool true) else kvs).length ≤ kvs.length + 1 := by
      split
      · exact sput_len _ _ _
      · omega
    rw [nmV, Nd.mass]
    omega
theorem nmVL_len : ∀ (l : List Nd) (kvs : KV), (nmVL l kvs).length ≤ kvs.length + massN l
  | [], kvs => by rw [nmVL_nil]; omega
  | x :: l, kvs => by
    have h1 := nmV_len x kvs
    have h2 := nmVL_len l (nmV x kvs)
    rw [nmVL_cons, massN]
    omega
end
abbrev vnF (b1 b2 : Nat) : Value := .func (.func 66) #[] [.pointer (some ⟨b1, 0, none⟩), .pointer (some ⟨b2, 0, none⟩)].toArray
def NvC (N : Nat) : Prop := ∀ (H : Hp) (cs : List Value) (x : Nd) (kvs : KV) (b1 b2 mb : Nat), NodeH H cs x → x.mass < N → x.mass < 34359738368 → H b1 0 = some (.map (some mb)) → H b2 0 = some (vnF b1 b2) →
  Fn Tryz.prog 66 [.agg cs.toArray, .pointer (some ⟨b1, 0, none⟩), .pointer (some ⟨b2, 0, none⟩)] H [.obj mb (smobj kvs)] fun r _ I => r = .tuple #[] ∧ I = [.obj mb (smobj (nmV x kvs))]
attribute [local irreducible] wpA opsA drJ drQ drE Ef Ev Shift Fn
set_option maxRecDepth 100000 in
set_option maxHeartbeats 8000000 in
theorem nv_step {N : Nat} (hN : NvC N) : NvC (N + 1) := by
  intro H cs x kvs b1 b2 mb hx hm hm2 h1 h2
  have hone := hx.one
  obtain ⟨a, n, cp, rfl, hs⟩ := hx.cells
  have e1 := hs.len
  have e2 := massN_len x.args
  have e3 := x.mass_eq
  rw [nmV_eq]
  by_cases h4 : x.op = 4
  · rw [if_pos h4]
    refine Fn_of _ _ Tryz.func66 rfl Tryz.ntmps66 rfl fun c => ?_
    repeat' (first | (refine O_ef rfl (Ef_boxa WideF.wide (cs := [.int .i64 x.op, .int .i64 x.num, sv x.text, .slice a n cp]) rfl rfl ?_); intro b9; refine O_freezeBox hone ?_; intro H1 hle1 hc) | (refine O_ev WideF.wide rfl (Ev_loadH1 rfl (hle1 _ _ _ h1)) rfl rfl ?_) | (refine O_ef rfl (Ef_mapPutT WideF.wide rfl rfl rfl ?_)) | refine O_nil ?_ | refine A_seq ?_ | refine A_region ?_ | refine A_block ?_ | (show opsA _ _ _ _ _ _ _; first | refine O_ev WideF.wide rfl (Ev_pure rfl) rfl rfl ?_ | (show opsA _ _ _ _ (⟨_, .load _ _, _, _, _, _⟩ :: _) _ _; first | refine O_ev WideF.wide rfl (Ev_loadH1 rfl (hc 0 _ rfl)) rfl rfl ?_ | refine O_ev WideF.wide rfl (Ev_loadH1 rfl (hc 2 _ rfl)) rfl rfl ?_ | refine O_ev WideF.wide rfl (Ev_loadH1 rfl (hc 3 _ rfl)) rfl rfl ?_) | (show opsA _ _ _ _ (⟨_, .fieldAddr _ _ _, _, _, _, _⟩ :: _) _ _; refine O_ev WideF.wide rfl (Ev_fieldAddr rfl rfl rfl) rfl rfl ?_) | (show opsA _ _ _ _ (⟨_, .call _, _, _, _, _⟩ :: _) _ _; refine O_ev WideF.wide rfl (Ev_llen rfl) rfl rfl ?_)) | (show wpA _ _ _ (.cond _ _ _) _ _ _ _; (refine A_if rfl (fun h => ?_) (fun h => ?_) <;> try (exfalso; omega))))
    all_goals try (exfalso; omega)
    have h1' := hle1 _ _ _ h1
    have h2' := hle1 _ _ _ h2
    have hs' := NodesS.mono hle1 hs
    refine A_loopu (fun q s => ∃ (i : Nat) (Hq : Hp) (ki : KV), q = n - i ∧ i ≤ n ∧ HLe H1 Hq ∧ nmVL x.args (sput kvs x.text (.bool true)) = nmVL (x.args.drop i) ki ∧ s = ⟨23, [(1, .pointer (some ⟨b1, 0, none⟩)), (2, .pointer (some ⟨b2, 0, none⟩)), (13, .slice a n cp), (14, .int .i64 n), (15, .int .i64 i)], Hq, [.obj mb (smobj ki)], [], []⟩) ?_ ?_
    · exact Shift.to ⟨_, 0, _, _, rfl, by omega, HLe.refl _, rfl, rfl⟩ ⟨rfl, rfl, rfl, ⟨rfl, rfl, rfl, rfl, rfl, trivial⟩, Own.subi [0] (by decide) rfl rfl⟩
    rintro q s ⟨i, Hq, ki, rfl, hi, hleq, heq, rfl⟩
    have h1q := hleq _ _ _ h1'
    have h2q := hleq _ _ _ h2'
    by_cases hlt : i < n
    · obtain ⟨bb, bo, rcs, y, rfl, hy, hyc, hyk, hce⟩ := (NodesS.mono hleq hs').at i hlt
      have hmy := massN_get hy
      obtain ⟨ya, yn, yc, rfl, -⟩ := hyc.cells
      have hd : x.args.drop i = y :: x.args.drop (i + 1) := by
        obtain ⟨hlt', hy'⟩ := List.getElem?_eq_some_iff.1 hy
        rw [List.drop_eq_getElem_cons hlt', hy']
      rw [hd, nmVL_cons] at heq
      have hcall := hN Hq _ y ki b1 b2 mb hyc (by omega) (by omega) h1q h2q
      repeat' (first | (refine O_ev WideF.wide rfl (Ev_loadH rfl hce rfl) rfl rfl ?_) | (refine O_ev WideF.wide rfl (Ev_loadH1 rfl h2q) rfl rfl ?_) | (refine O_ef rfl (Ef_f1 (Ef_callc (I := [_]) (args := [.agg _]) (caps := [.pointer (some ⟨b1, 0, none⟩), .pointer (some ⟨b2, 0, none⟩)]) WideF.wide hcall rfl ⟨rfl, trivial⟩ rfl ?_)); rintro v5 H5 I5 hle5 ⟨rfl, rfl⟩) | refine O_nil ?_ | refine A_seq ?_ | refine A_region ?_ | refine A_skip ?_ | refine A_block ?_ | (show opsA _ _ _ _ _ _ _; first | refine O_ev WideF.wide rfl (Ev_pure rfl) rfl rfl ?_ | (show opsA _ _ _ _ (⟨_, .load _ _, _, _, _, _⟩ :: _) _ _; refine O_ev WideF.wide rfl (Ev_loadB (i := 0) rfl rfl rfl) rfl rfl ?_) | (show opsA _ _ _ _ (⟨_, .indexAddr _ _ _, _, _, _, _⟩ :: _) _ _; refine O_ev WideF.wide rfl (Ev_indexAddr rfl rfl (by omega) (by omega)) rfl rfl ?_) | (show opsA _ _ _ _ (⟨_, .binOp _ _ _ _ _, _, _, _, _⟩ :: _) _ _; refine O_ev WideF.wide rfl (Ev_add rfl rfl (wi64 (by omega))) rfl rfl ?_) | (show opsA _ _ _ _ (⟨_, .alloc _, _, _, _, _⟩ :: _) _ _; (refine O_ef rfl (Ef_alloc WideF.wide rfl ?_); intro b)) | (show opsA _ _ _ _ (⟨_, .store _ _ _, _, _, _, _⟩ :: _) _ _; refine O_ef rfl (Ef_storew WideF.wide rfl rfl rfl rfl rfl ?_))) | (show wpA _ _ _ (.cond _ _ _) _ _ _ _; (refine A_if rfl (fun h => ?_) (fun h => ?_) <;> try (exfalso; omega))))
      all_goals first
        | (exfalso; omega)
        | (exfalso; contradiction)
        | (exfalso; exact absurd trivial (by assumption))
        | (exfalso; exact absurd rfl (by assumption))
        | exact Shift.to ⟨_, by omega, i + 1, H5, _, rfl, by omega, hleq.trans hle5, heq, rfl⟩ ⟨rfl, rfl, rfl, ⟨rfl, rfl, rfl, rfl, rfl, trivial⟩, Own.subi [0] (by decide) rfl rfl⟩
        | trace_state
    · obtain rfl : i = n := by omega
      rw [List.drop_of_length_le (by omega), nmVL_nil] at heq
      rw [heq]
      repeat' (first | refine O_nil ?_ | refine A_seq ?_ | refine A_region ?_ | (show opsA _ _ _ _ _ _ _; refine O_ev WideF.wide rfl (Ev_pure rfl) rfl rfl ?_) | (show wpA _ _ _ (.exit _) _ _ _ _; refine A_exit rfl ?_) | (show wpA _ _ _ (.cond _ _ _) _ _ _ _; (refine A_if rfl (fun h => ?_) (fun h => ?_) <;> try (exfalso; omega))))
      all_goals first
        | (exfalso; omega)
        | (exfalso; contradiction)
        | (exfalso; exact absurd trivial (by assumption))
        | (exfalso; exact absurd rfl (by assumption))
        | exact End_m (Ret0 rfl) ⟨rfl, rfl⟩
        | trace_state
  · rw [if_neg h4]
    refine Fn_of _ _ Tryz.func66 rfl Tryz.ntmps66 rfl fun c => ?_
    repeat' (first | (refine O_ef rfl (Ef_boxa WideF.wide (cs := [.int .i64 x.op, .int .i64 x.num, sv x.text, .slice a n cp]) rfl rfl ?_); intro b9; refine O_freezeBox hone ?_; intro H1 hle1 hc) | refine O_nil ?_ | refine A_seq ?_ | refine A_region ?_ | refine A_skip ?_ | refine A_block ?_ | (show opsA _ _ _ _ _ _ _; first | refine O_ev WideF.wide rfl (Ev_pure rfl) rfl rfl ?_ | (show opsA _ _ _ _ (⟨_, .load _ _, _, _, _, _⟩ :: _) _ _; first | refine O_ev WideF.wide rfl (Ev_loadH1 rfl (hc 0 _ rfl)) rfl rfl ?_ | refine O_ev WideF.wide rfl (Ev_loadH1 rfl (hc 3 _ rfl)) rfl rfl ?_) | (show opsA _ _ _ _ (⟨_, .fieldAddr _ _ _, _, _, _, _⟩ :: _) _ _; refine O_ev WideF.wide rfl (Ev_fieldAddr rfl rfl rfl) rfl rfl ?_) | (show opsA _ _ _ _ (⟨_, .call _, _, _, _, _⟩ :: _) _ _; refine O_ev WideF.wide rfl (Ev_llen rfl) rfl rfl ?_)) | (show wpA _ _ _ (.cond _ _ _) _ _ _ _; (refine A_if rfl (fun h => ?_) (fun h => ?_) <;> try (exfalso; omega))))
    all_goals try (exfalso; omega)
    have h1' := hle1 _ _ _ h1
    have h2' := hle1 _ _ _ h2
    have hs' := NodesS.mono hle1 hs
    refine A_loopu (fun q s => ∃ (i : Nat) (Hq : Hp) (ki : KV), q = n - i ∧ i ≤ n ∧ HLe H1 Hq ∧ nmVL x.args kvs = nmVL (x.args.drop i) ki ∧ s = ⟨23, [(1, .pointer (some ⟨b1, 0, none⟩)), (2, .pointer (some ⟨b2, 0, none⟩)), (13, .slice a n cp), (14, .int .i64 n), (15, .int .i64 i)], Hq, [.obj mb (smobj ki)], [], []⟩) ?_ ?_
    · exact Shift.to ⟨_, 0, _, _, rfl, by omega, HLe.refl _, rfl, rfl⟩ ⟨rfl, rfl, rfl, ⟨rfl, rfl, rfl, rfl, rfl, trivial⟩, Own.subi [0] (by decide) rfl rfl⟩
    rintro q s ⟨i, Hq, ki, rfl, hi, hleq, heq, rfl⟩
    have h1q := hleq _ _ _ h1'
    have h2q := hleq _ _ _ h2'
    by_cases hlt : i < n
    · obtain ⟨bb, bo, rcs, y, rfl, hy, hyc, hyk, hce⟩ := (NodesS.mono hleq hs').at i hlt
      have hmy := massN_get hy
      obtain ⟨ya, yn, yc, rfl, -⟩ := hyc.cells
      have hd : x.args.drop i = y :: x.args.drop (i + 1) := by
        obtain ⟨hlt', hy'⟩ := List.getElem?_eq_some_iff.1 hy
        rw [List.drop_eq_getElem_cons hlt', hy']
      rw [hd, nmVL_cons] at heq
      have hcall := hN Hq _ y ki b1 b2 mb hyc (by omega) (by omega) h1q h2q
      repeat' (first | (refine O_ev WideF.wide rfl (Ev_loadH rfl hce rfl) rfl rfl ?_) | (refine O_ev WideF.wide rfl (Ev_loadH1 rfl h2q) rfl rfl ?_) | (refine O_ef rfl (Ef_f1 (Ef_callc (I := [_]) (args := [.agg _]) (caps := [.pointer (some ⟨b1, 0, none⟩), .pointer (some ⟨b2, 0, none⟩)]) WideF.wide hcall rfl ⟨rfl, trivial⟩ rfl ?_)); rintro v5 H5 I5 hle5 ⟨rfl, rfl⟩) | refine O_nil ?_ | refine A_seq ?_ | refine A_region ?_ | refine A_skip ?_ | refine A_block ?_ | (show opsA _ _ _ _ _ _ _; first | refine O_ev WideF.wide rfl (Ev_pure rfl) rfl rfl ?_ | (show opsA _ _ _ _ (⟨_, .load _ _, _, _, _, _⟩ :: _) _ _; refine O_ev WideF.wide rfl (Ev_loadB (i := 0) rfl rfl rfl) rfl rfl ?_) | (show opsA _ _ _ _ (⟨_, .indexAddr _ _ _, _, _, _, _⟩ :: _) _ _; refine O_ev WideF.wide rfl (Ev_indexAddr rfl rfl (by omega) (by omega)) rfl rfl ?_) | (show opsA _ _ _ _ (⟨_, .binOp _ _ _ _ _, _, _, _, _⟩ :: _) _ _; refine O_ev WideF.wide rfl (Ev_add rfl rfl (wi64 (by omega))) rfl rfl ?_) | (show opsA _ _ _ _ (⟨_, .alloc _, _, _, _, _⟩ :: _) _ _; (refine O_ef rfl (Ef_alloc WideF.wide rfl ?_); intro b)) | (show opsA _ _ _ _ (⟨_, .store _ _ _, _, _, _, _⟩ :: _) _ _; refine O_ef rfl (Ef_storew WideF.wide rfl rfl rfl rfl rfl ?_))) | (show wpA _ _ _ (.cond _ _ _) _ _ _ _; (refine A_if rfl (fun h => ?_) (fun h => ?_) <;> try (exfalso; omega))))
      all_goals first
        | (exfalso; omega)
        | (exfalso; contradiction)
        | (exfalso; exact absurd trivial (by assumption))
        | (exfalso; exact absurd rfl (by assumption))
        | exact Shift.to ⟨_, by omega, i + 1, H5, _, rfl, by omega, hleq.trans hle5, heq, rfl⟩ ⟨rfl, rfl, rfl, ⟨rfl, rfl, rfl, rfl, rfl, trivial⟩, Own.subi [0] (by decide) rfl rfl⟩
        | trace_state
    · obtain rfl : i = n := by omega
      rw [List.drop_of_length_le (by omega), nmVL_nil] at heq
      rw [heq]
      repeat' (first | refine O_nil ?_ | refine A_seq ?_ | refine A_region ?_ | (show opsA _ _ _ _ _ _ _; refine O_ev WideF.wide rfl (Ev_pure rfl) rfl rfl ?_) | (show wpA _ _ _ (.exit _) _ _ _ _; refine A_exit rfl ?_) | (show wpA _ _ _ (.cond _ _ _) _ _ _ _; (refine A_if rfl (fun h => ?_) (fun h => ?_) <;> try (exfalso; omega))))
      all_goals first
        | (exfalso; omega)
        | (exfalso; contradiction)
        | (exfalso; exact absurd trivial (by assumption))
        | (exfalso; exact absurd rfl (by assumption))
        | exact End_m (Ret0 rfl) ⟨rfl, rfl⟩
        | trace_state
theorem nv_all : ∀ N, NvC N
  | 0 => fun _ _ _ _ _ _ _ _ h => absurd h (by omega)
  | N + 1 => nv_step (nv_all N)
/-- what the program's Names gives -/
noncomputable def nmP (x : Nd) : List (List UInt8) := srtS ((nmV x []).map Prod.fst)
theorem strs_le (l : List (List UInt8)) : (srtS l).Pairwise (· ≤ ·) := by
  have h1 : (srtS l).Pairwise fun a b => (decide (a ≤ b)) = true := List.pairwise_mergeSort (fun a b c h1 h2 => by
    rw [decide_eq_true_eq] at *; exact List.le_trans h1 h2) (fun a b => by
    rw [Bool.or_eq_true, decide_eq_true_eq, decide_eq_true_eq]; exact List.le_total a b) l
  exact h1.imp fun h => by simpa using h
theorem srtS_of_perm {a b : List (List UInt8)} (h : a.Perm b) : srtS a = srtS b := by
  refine List.Perm.eq_of_pairwise (le := fun x y : List UInt8 => x ≤ y) ?_ (strs_le a) (strs_le b) ((srtS_perm a).trans (h.trans (srtS_perm b).symm))
  intro x y _ _ h1 h2
  exact Std.Antisymm.antisymm x y h1 h2
set_option maxRecDepth 100000 in
set_option maxHeartbeats 4000000 in
theorem Names_fn {H : Hp} {cs : List Value} {x : Nd} (hx : NodeH H cs x) (hm : x.mass < 1048576) :
    Fn Tryz.prog 32 [.agg cs.toArray] H [] fun v H' I => (∃ a n c, v = .slice a n c ∧ HRow H' a n c 1 ((if chkE x = 0 then nmP x else []).map srow)) ∧ I = [] := by
  have hone := hx.one
  have kC := fun Hx (h : HLe H Hx) => Check_fn (hx.mono h) (by omega)
  have kV := fun Hx (h : HLe H Hx) b1 b2 mb h1 h2 => nv_all (x.mass + 1) Hx cs x [] b1 b2 mb (hx.mono h) (by omega) (by omega) h1 h2
  have hlen : (nmV x []).length < 1048576 := by have := nmV_len x []; simp at this; omega
  obtain ⟨a, n, cp, rfl, hs⟩ := hx.cells
  by_cases h0 : chkE x = 0
  · rw [if_pos h0]
    rw [h0] at kC
    refine Fn_of _ _ Tryz.func32 rfl Tryz.ntmps32 rfl fun c => ?_
    repeat' (first | (refine O_ef rfl (Ef_boxa WideF.wide (cs := [.int .i64 x.op, .int .i64 x.num, sv x.text, .slice a n cp]) rfl rfl ?_); intro b9; refine O_freezeBox hone ?_; intro H1 hle1 hc) | (show opsA _ _ _ _ (⟨some 5, .load _ _, _, _, _, _⟩ :: _) _ _; refine O_ev WideF.wide rfl (Ev_loadH rfl hc rfl) rfl rfl ?_) | (refine O_ef rfl (Ef_call (I := []) WideF.wide (kC _ hle1) ⟨rfl, trivial⟩ rfl ?_); rintro v2 H2 I2 hle2 ⟨rfl, rfl⟩) | (refine O_ef rfl (Ef_makeMapT WideF.wide rfl ?_); intro mb) | (show opsA _ _ _ _ (⟨some 3, .alloc _, _, _, _, _⟩ :: _) _ _; refine O_ef rfl (Ef_alloc WideF.wide rfl ?_); intro b1) | (show opsA _ _ _ _ (⟨some 4, .alloc _, _, _, _, _⟩ :: _) _ _; refine O_ef rfl (Ef_alloc WideF.wide rfl ?_); intro b2) | (refine O_ev WideF.wide rfl (Ev_makeFunc (xs := []) (ys := [_, _]) (vs := []) (us := [_, _]) rfl rfl) rfl rfl ?_) | (show wpA _ _ _ (.region 6 _ _) _ _ _ _; refine A_freezeBox (cs := [vnF b1 b2]) (by intro u hu; simp at hu; subst hu; rfl) ?_; intro H3 hle3 hc2; refine A_freezeBox (cs := [.map (some mb)]) (by intro u hu; simp at hu; subst hu; rfl) ?_; intro H4 hle4 hc1; refine A_region ?_) | (show opsA _ _ _ _ (⟨some 10, .load _ _, _, _, _, _⟩ :: _) _ _; refine O_ev WideF.wide rfl (Ev_loadH1 rfl (hc2.mono hle4 0 _ rfl)) rfl rfl ?_) | (show opsA _ _ _ _ (⟨some 11, .load _ _, _, _, _, _⟩ :: _) _ _; refine O_ev WideF.wide rfl (Ev_loadH rfl (((hc.mono hle2).mono hle3).mono hle4) rfl) rfl rfl ?_) | (refine O_ef rfl (Ef_callc (I := [_]) (M' := []) (args := [.agg _]) (caps := [_, _]) WideF.wide (kV _ (((hle1.trans hle2).trans hle3).trans hle4) b1 b2 mb (hc1 0 _ rfl) (hc2.mono hle4 0 _ rfl)) rfl ⟨rfl, trivial⟩ rfl ?_); rintro v5 H5 I5 hle5 ⟨rfl, rfl⟩; rw [smobj_emap]) | (refine O_ev WideF.wide rfl (Ev_loadH1 rfl (hle5 _ _ _ (hc1 0 _ rfl))) rfl rfl ?_) | (refine O_ef rfl (Ef_call (I := []) WideF.wide (Keys_fn (H := H5) (mb := mb)) ⟨rfl, trivial⟩ rfl ?_); rintro v6 H6 I6 hle6 ⟨⟨b6, rfl, hb6⟩, rfl⟩) | (refine O_ef rfl (Ef_call (I := [_]) (M' := []) WideF.wide (SortedS_fn hb6 hlen) ⟨rfl, trivial⟩ rfl ?_); rintro v7 H7 I7 hle7 ⟨a7, n7, c7, ks, rfl, hks, hrow, rfl⟩) | refine O_nil ?_ | refine A_seq ?_ | refine A_region ?_ | refine A_skip ?_ | refine A_ret ?_ | (show opsA _ _ _ _ _ _ _; first | refine O_ev WideF.wide rfl (Ev_pure rfl) rfl rfl ?_ | (show opsA _ _ _ _ (⟨_, .store _ _ _, _, _, _, _⟩ :: _) _ _; refine O_ef rfl (Ef_store1 WideF.wide rfl rfl rfl rfl rfl ?_))) | (show wpA _ _ _ (.cond _ _ _) _ _ _ _; (refine A_if rfl (fun h => ?_) (fun h => ?_) <;> try (exfalso; omega))))
    exact End_e (Ret1 rfl rfl) ⟨⟨_, _, _, rfl, by unfold nmP; rw [← srtS_of_perm hks]; exact hrow⟩, rfl⟩
  · rw [if_neg h0]
    refine Fn_of _ _ Tryz.func32 rfl Tryz.ntmps32 rfl fun c => ?_
    repeat' (first | (refine O_ef rfl (Ef_boxa WideF.wide (cs := [.int .i64 x.op, .int .i64 x.num, sv x.text, .slice a n cp]) rfl rfl ?_); intro b9; refine O_freezeBox hone ?_; intro H1 hle1 hc) | (show opsA _ _ _ _ (⟨some 5, .load _ _, _, _, _, _⟩ :: _) _ _; refine O_ev WideF.wide rfl (Ev_loadH rfl hc rfl) rfl rfl ?_) | (refine O_ef rfl (Ef_call (I := []) WideF.wide (kC _ hle1) ⟨rfl, trivial⟩ rfl ?_); rintro v2 H2 I2 hle2 ⟨rfl, rfl⟩) | refine O_nil ?_ | refine A_seq ?_ | refine A_region ?_ | refine A_ret ?_ | (show opsA _ _ _ _ _ _ _; refine O_ev WideF.wide rfl (Ev_pure rfl) rfl rfl ?_) | (show wpA _ _ _ (.cond _ _ _) _ _ _ _; (refine A_if rfl (fun h => ?_) (fun h => ?_) <;> try (exfalso; omega))))
    all_goals first
      | (exfalso; omega)
      | (exfalso; contradiction)
      | (exfalso; exact absurd trivial (by assumption))
      | (exfalso; exact absurd rfl (by assumption))
      | exact End_e (Ret1 rfl rfl) ⟨⟨_, _, _, rfl, HRow.nil' _ 1⟩, rfl⟩
      | trace_state
end
theorem HRow.slice {H : Hp} {a : Option Addr} {n c k : Nat} {css : List (List Value)} (h : HRow H a n c k css) {i j : Nat} (h1 : i ≤ j) (h2 : j ≤ n) :
    HRow H (if c = i then a else a.map (·.add (i * k))) (j - i) (c - i) k ((css.drop i).take (j - i)) := by
  have hc := h.cap
  refine ⟨by rw [List.length_take, List.length_drop, h.len]; omega, by omega, fun hn => ?_, fun q cs hq => ?_⟩
  · have : a = none := by
      split at hn
      · exact hn
      · simpa using hn
    have := h.nil this
    omega
  · rw [List.getElem?_take] at hq
    split at hq
    · rename_i hlt
      rw [List.getElem?_drop] at hq
      obtain ⟨hl, b, o, ha, hcs⟩ := h.el (i + q) cs hq
      refine ⟨hl, b, o + i * k, ?_, ?_⟩
      · rw [if_neg (by omega), ha]
        simp [Addr.add_lit]
      · intro x v hx
        have := hcs x v hx
        rwa [show o + i * k + q * k + x = o + (i + q) * k + x by rw [Nat.add_mul]; omega]
    · cases hq
theorem HRow.upto {H : Hp} {a : Option Addr} {n c k : Nat} {css : List (List Value)} (h : HRow H a n c k css) {j : Nat} (hj : j ≤ n) : HRow H a j c k (css.take j) := by
  have hc := h.cap
  refine ⟨by rw [List.length_take, h.len]; omega, by omega, fun hn => ?_, fun q cs hq => ?_⟩
  · have := h.nil hn; omega
  · rw [List.getElem?_take] at hq
    split at hq
    · exact h.el q cs hq
    · cases hq
theorem Ev_slss {P : Program} {e : Env} {H : Hp} {R : Own} {dst : Option Tmp} {ty : TypeId} {pos : String} {after : Array Edge} {g : Option (Nat × Bool)} {x y : Operand} {t t2 : TypeId} {s s2 : List UInt8} (hx : e.eval x = some (sv s)) (hy : e.eval y = some (sv s2)) : Ev P ⟨dst, .binOp .lss t x y t2, ty, pos, after, g⟩ e H R (.bool (Op.bytesLess s s2)) := fun a w he _ _ => by
  simp only [execOp, he.eval hx, he.eval hy, eqGuard_at_string, binOp_string_lss, Sem.run_bind, Sem.run_pure, Result.andThen_ok, ByteArray.toList_mk]
theorem tw_at {α : Type} {p : α → Bool} : ∀ {l : List α} {i : Nat}, i ≤ l.length → (∀ (j : Nat) (y : α), j < i → l[j]? = some y → p y = true) → (∀ y, l[i]? = some y → p y = false) → (l.takeWhile p).length = i
  | [], i, hi, _, _ => by simp at hi; subst hi; rfl
  | x :: l, 0, _, _, he => by rw [List.takeWhile_cons, he x rfl]; rfl
  | x :: l, i + 1, hi, h, he => by
    rw [List.takeWhile_cons, h 0 x (by omega) rfl]
    have := tw_at (l := l) (i := i) (by simpa using hi) (fun j y hj hy => h (j + 1) y (by omega) (by simpa using hy)) (fun y hy => he y (by simpa using hy))
    simp [this]
def insP (l : List (List UInt8)) (s : List UInt8) : Nat := (l.takeWhile (fun x => Op.bytesLess x s)).length
def ins (l : List (List UInt8)) (s : List UInt8) : List (List UInt8) := if insP l s = l.length ∨ l[insP l s]? ≠ some s then l.take (insP l s) ++ [s] ++ l.drop (insP l s) else l
theorem ins_len (l : List (List UInt8)) (s : List UInt8) : (ins l s).length ≤ l.length + 1 := by
  unfold ins
  split
  · simp; omega
  · omega
mutual
def lnm : Nd → List (List UInt8) → List (List UInt8)
  | .mk op _ text args, l => lnmL args (if op = 4 then ins l text else l)
def lnmL : List Nd → List (List UInt8) → List (List UInt8)
  | [], l => l
  | x :: r, l => lnmL r (lnm x l)
end
theorem lnm_eq (x : Nd) (l : List (List UInt8)) : lnm x l = lnmL x.args (if x.op = 4 then ins l x.text else l) := by
  obtain ⟨op, num, text, args⟩ := x
  rw [lnm]
  rfl
theorem lnmL_nil (l : List (List UInt8)) : lnmL [] l = l := by rw [lnmL]
theorem lnmL_cons (x : Nd) (r : List Nd) (l : List (List UInt8)) : lnmL (x :: r) l = lnmL r (lnm x l) := by rw [lnmL]
mutual
theorem lnm_len : ∀ (x : Nd) (l : List (List UInt8)), (lnm x l).length ≤ l.length + x.mass
  | .mk op num text args, l => by
    have h1 := lnmL_len args (if op = 4 then ins l text else l)
    have h2 : (if op = 4 then ins l text else l).length ≤ l.length + 1 := by
      split
      · exact ins_len _ _
      · omega
    rw [lnm, Nd.mass]
    omega
theorem lnmL_len : ∀ (r : List Nd) (l : List (List UInt8)), (lnmL r l).length ≤ l.length + massN r
  | [], l => by rw [lnmL_nil]; omega
  | x :: r, l => by
    have h1 := lnm_len x l
    have h2 := lnmL_len r (lnm x l)
    rw [lnmL_cons, massN]
    omega
end
def LnC (N : Nat) : Prop := ∀ (H : Hp) (cs : List Value) (x : Nd) (a : Option Addr) (n c : Nat) (l : List (List UInt8)), NodeH H cs x → x.mass < N → HRow H a n c 1 (l.map srow) → n + x.mass ≤ 2097152 →
  Fn Tryz.prog 33 [.slice a n c, .agg cs.toArray] H [] fun v H' I => (∃ a' n' c', v = .slice a' n' c' ∧ HRow H' a' n' c' 1 ((lnm x l).map srow)) ∧ I = []
attribute [local irreducible] wpA opsA drJ drQ drE Ef Ev Shift Fn

set_option maxRecDepth 100000 in
set_option maxHeartbeats 16000000 in
theorem ln_step {N : Nat} (hN : LnC N) : LnC (N + 1) := by
  intro H cs x a n cc l hx hm hr hb
  have hone := hx.one
  obtain ⟨xa, xn, xc, rfl, hs⟩ := hx.cells
  have e1 := hs.len
  have e2 := massN_len x.args
  have e3 := x.mass_eq
  have hll0 := hr.len
  rw [List.length_map] at hll0
  rw [lnm_eq]
  by_cases h4 : x.op = 4
  · rw [if_pos h4]
    obtain ⟨k, hk⟩ : ∃ k, k = insP l x.text := ⟨_, rfl⟩
    refine Fn_of _ _ Tryz.func33 rfl Tryz.ntmps33 rfl fun c => ?_
    repeat' (first | (refine O_ef rfl (Ef_boxa WideF.wide (cs := [.int .i64 x.op, .int .i64 x.num, sv x.text, .slice xa xn xc]) rfl rfl ?_); intro b3; refine O_freezeBox hone ?_; intro H1 hle1 hc) | (show wpA _ _ _ (.block 0 _) _ _ _ _; refine A_cutu (fun st => k ≤ n ∧ (∀ y, l[k]? = some y → Op.bytesLess y x.text = false) ∧ st = ⟨66, [(0, .slice a n cc), (3, .pointer (some ⟨b3, 0, none⟩)), (5, .int .i64 k)], H1, [], [], []⟩) (A_block ?_) ?_) | refine O_nil ?_ | refine A_seq ?_ | refine A_region ?_ | (show opsA _ _ _ _ _ _ _; first | refine O_ev WideF.wide rfl (Ev_pure rfl) rfl rfl ?_ | (show opsA _ _ _ _ (⟨_, .load _ _, _, _, _, _⟩ :: _) _ _; refine O_ev WideF.wide rfl (Ev_loadH1 rfl (hc 0 _ rfl)) rfl rfl ?_) | (show opsA _ _ _ _ (⟨_, .fieldAddr _ _ _, _, _, _, _⟩ :: _) _ _; refine O_ev WideF.wide rfl (Ev_fieldAddr rfl rfl rfl) rfl rfl ?_)) | (show wpA _ _ _ (.cond _ _ _) _ _ _ _; (refine A_if rfl (fun h => ?_) (fun h => ?_) <;> try (exfalso; omega))))
    all_goals try (exfalso; omega)
    · have hr1 := hr.mono hle1
      refine A_loopu (fun q s => ∃ i : Nat, q = n - i ∧ i ≤ n ∧ (∀ (j : Nat) (y : List UInt8), j < i → l[j]? = some y → Op.bytesLess y x.text = true) ∧ s = ⟨66, [(0, .slice a n cc), (3, .pointer (some ⟨b3, 0, none⟩)), (5, .int .i64 i)], H1, [], [], []⟩) ?_ ?_
      · exact Shift.to ⟨_, 0, rfl, by omega, fun j _ h => absurd h (by omega), rfl⟩ ⟨rfl, rfl, rfl, ⟨rfl, rfl, rfl, trivial⟩, Own.sub_nil _⟩
      rintro q s ⟨i, rfl, hi, hall, rfl⟩
      by_cases hlt : i < n
      · obtain ⟨bb, bo, y, hbb, hy, hce⟩ := hr1.atm i hlt
        subst hbb
        cases hless : Op.bytesLess y x.text
        · have hki : k = i := by
            rw [hk]
            exact tw_at (by omega) hall fun z hz => by rw [hy] at hz; cases hz; exact hless
          subst hki
          repeat' (first | (refine A_drawM WideF.wide (.q 0 (.q 1 (.q 2 (.q 3 (.q 4 (.q 5 (.q 6 (.q 7 (.q 8 (.q 9 (.q 10 (.q 11 (.q 12 (.done [])))))))))))))) [] (by decide +kernel) ?_) | (refine D_ev rfl (Ev_loadH1 rfl (hce 0 _ rfl)) rfl rfl ?_) | (refine D_ev rfl (Ev_slss rfl rfl) rfl rfl ?_; rw [hless]) | refine O_nil ?_ | refine A_seq ?_ | (show drJ _ _ _ _ _ _ _ (.q _ _) _; refine D_q rfl ?_) | (show drJ _ _ _ _ _ _ _ (.done _) _; refine D_done ?_; simp only [List.cons_append, List.nil_append]) | (show drQ _ _ _ _ _ _; first | (refine D_split rfl rfl (fun h => ?_) (fun h => ?_) <;> try (exfalso; omega)) | refine D_ev rfl (Ev_pure rfl) rfl rfl ?_ | (show drQ _ _ _ ⟨_, .load _ _, _, _, _, _⟩ _ _; refine D_ev rfl (Ev_loadH1 rfl (hc 2 _ rfl)) rfl rfl ?_) | (show drQ _ _ _ ⟨_, .indexAddr _ _ _, _, _, _, _⟩ _ _; refine D_ev rfl (Ev_indexAddr rfl rfl (by omega) (by omega)) rfl rfl ?_) | (show drQ _ _ _ ⟨_, .fieldAddr _ _ _, _, _, _, _⟩ _ _; refine D_ev rfl (Ev_fieldAddr rfl rfl rfl) rfl rfl ?_) | (show drQ _ _ _ ⟨_, .call _, _, _, _, _⟩ _ _; refine D_ev rfl (Ev_llen rfl) rfl rfl ?_)) | (show wpA _ _ _ (.exit _) _ _ _ _; refine A_exit rfl ?_) | (show wpA _ _ _ (.cond _ _ _) _ _ _ _; refine A_iffalse rfl ?_))
          all_goals first
            | (exfalso; omega)
            | (exfalso; contradiction)
            | (exfalso; exact absurd trivial (by assumption))
            | (exfalso; exact absurd rfl (by assumption))
            | exact Shift.to ⟨by omega, (fun z hz => by rw [hy] at hz; cases hz; exact hless), rfl⟩ ⟨rfl, rfl, rfl, ⟨rfl, rfl, rfl, trivial⟩, Own.sub_nil _⟩
            | trace_state
        · repeat' (first | (refine A_drawM WideF.wide (.q 0 (.q 1 (.q 2 (.q 3 (.q 4 (.q 5 (.q 6 (.q 7 (.q 8 (.q 9 (.q 10 (.q 11 (.q 12 (.done [])))))))))))))) [] (by decide +kernel) ?_) | (refine D_ev rfl (Ev_loadH1 rfl (hce 0 _ rfl)) rfl rfl ?_) | (refine D_ev rfl (Ev_slss rfl rfl) rfl rfl ?_; rw [hless]) | refine O_nil ?_ | refine A_seq ?_ | refine A_region ?_ | refine A_skip ?_ | refine A_block ?_ | (show drJ _ _ _ _ _ _ _ (.q _ _) _; refine D_q rfl ?_) | (show drJ _ _ _ _ _ _ _ (.done _) _; refine D_done ?_; simp only [List.cons_append, List.nil_append]) | (show drQ _ _ _ _ _ _; first | (refine D_split rfl rfl (fun h => ?_) (fun h => ?_) <;> try (exfalso; omega)) | refine D_ev rfl (Ev_pure rfl) rfl rfl ?_ | (show drQ _ _ _ ⟨_, .load _ _, _, _, _, _⟩ _ _; refine D_ev rfl (Ev_loadH1 rfl (hc 2 _ rfl)) rfl rfl ?_) | (show drQ _ _ _ ⟨_, .indexAddr _ _ _, _, _, _, _⟩ _ _; refine D_ev rfl (Ev_indexAddr rfl rfl (by omega) (by omega)) rfl rfl ?_) | (show drQ _ _ _ ⟨_, .fieldAddr _ _ _, _, _, _, _⟩ _ _; refine D_ev rfl (Ev_fieldAddr rfl rfl rfl) rfl rfl ?_) | (show drQ _ _ _ ⟨_, .call _, _, _, _, _⟩ _ _; refine D_ev rfl (Ev_llen rfl) rfl rfl ?_)) | (show opsA _ _ _ _ _ _ _; first | refine O_ev WideF.wide rfl (Ev_pure rfl) rfl rfl ?_ | (show opsA _ _ _ _ (⟨_, .binOp _ _ _ _ _, _, _, _, _⟩ :: _) _ _; refine O_ev WideF.wide rfl (Ev_add rfl rfl (wi64 (by omega))) rfl rfl ?_)) | (show wpA _ _ _ (.cond _ _ _) _ _ _ _; refine A_iftrue rfl ?_))
          all_goals first
            | (exfalso; omega)
            | (exfalso; contradiction)
            | (exfalso; exact absurd trivial (by assumption))
            | (exfalso; exact absurd rfl (by assumption))
            | exact Shift.to ⟨_, by omega, i + 1, rfl, by omega, (fun j z hj hz => if h9 : j = i then (by subst h9; rw [hy] at hz; cases hz; exact hless) else hall j z (by omega) hz), rfl⟩ ⟨rfl, rfl, rfl, ⟨rfl, rfl, rfl, trivial⟩, Own.sub_nil _⟩
            | trace_state
      · obtain rfl : i = n := by omega
        have hki : k = i := by
          rw [hk]
          exact tw_at (by omega) hall fun z hz => by rw [List.getElem?_eq_none (by omega)] at hz; cases hz
        subst hki
        repeat' (first | (refine A_drawM WideF.wide (.q 0 (.q 1 (.q 2 (.q 3 (.q 4 (.q 5 (.q 6 (.q 7 (.q 8 (.q 9 (.q 10 (.q 11 (.q 12 (.done [])))))))))))))) [] (by decide +kernel) ?_) | refine O_nil ?_ | refine A_seq ?_ | (show drJ _ _ _ _ _ _ _ (.q _ _) _; refine D_q rfl ?_) | (show drJ _ _ _ _ _ _ _ (.done _) _; refine D_done ?_; simp only [List.cons_append, List.nil_append]) | (show drQ _ _ _ _ _ _; first | (refine D_split rfl rfl (fun h => ?_) (fun h => ?_) <;> try (exfalso; omega)) | refine D_ev rfl (Ev_pure rfl) rfl rfl ?_ | (show drQ _ _ _ ⟨_, .call _, _, _, _, _⟩ _ _; refine D_ev rfl (Ev_llen rfl) rfl rfl ?_) | refine D_skip rfl rfl rfl ?_) | (show wpA _ _ _ (.exit _) _ _ _ _; refine A_exit rfl ?_) | (show wpA _ _ _ (.cond _ _ _) _ _ _ _; refine A_iffalse rfl ?_))
        all_goals first
          | (exfalso; omega)
          | (exfalso; contradiction)
          | (exfalso; exact absurd trivial (by assumption))
          | (exfalso; exact absurd rfl (by assumption))
          | exact Shift.to ⟨by omega, (fun z hz => by rw [List.getElem?_eq_none (by omega)] at hz; cases hz), rfl⟩ ⟨rfl, rfl, rfl, ⟨rfl, rfl, rfl, trivial⟩, Own.sub_nil _⟩
          | trace_state
    · rintro st ⟨hkn, hnl, rfl⟩
      have hr1 := hr.mono hle1
      have hcap := hr1.cap
      have hlo : HRow H1 a k cc 1 ((l.take k).map srow) := (hr1.upto hkn).cong List.map_take
      have hhi : HRow H1 (if cc = k then a else a.map (·.add (k * 1))) (n - k) (cc - k) 1 ((l.drop k).map srow) := (hr1.slice hkn (Nat.le_refl n)).cong (by rw [List.map_drop, List.take_of_length_le (by simp; omega)])
      by_cases hin : k = n ∨ l[k]? ≠ some x.text
      · have hins' : ins l x.text = l.take k ++ [x.text] ++ l.drop k := by unfold ins; rw [← hk, if_pos (by rw [hll0]; exact hin)]
        have hins : (ins l x.text).map srow = (l.take k).map srow ++ [srow x.text] ++ (l.drop k).map srow := by rw [hins']; simp
        have hone2 : ∀ cs ∈ (l.take k).map srow ++ [srow x.text] ++ (l.drop k).map srow, ∀ u ∈ cs, u.oneCell' = true := by rw [← hins]; exact srow_one _
        have hinl : (ins l x.text).length = n + 1 := by rw [hins']; simp; omega
        by_cases hkn2 : k = n
        · repeat' (first | (refine A_drawM WideF.wide (.q 0 (.q 1 (.q 2 (.q 3 (.q 4 (.q 5 (.q 6 (.q 7 (.q 8 (.q 9 (.q 10 (.q 11 (.q 12 (.done [])))))))))))))) [] (by decide +kernel) ?_) | (refine A_drawM WideF.wide (.q 1 (.q 2 (.q 3 (.q 5 (.q 6 (.q 9 (.q 10 (.q 11 (.f 0 (.f 4 (.e 7 (.e 8 (.e 12 (.q 13 (.done []))))) 7 (.e 4 (.e 8 (.e 12 (.q 13 (.done [])))))) 7 (.e 0 (.e 4 (.e 8 (.e 12 (.q 13 (.done []))))))))))))))) [] (by decide +kernel) ?_) | (refine D_ev rfl (Ev_lsliceh rfl rfl (by omega) (by omega)) rfl rfl ?_) | (refine D_ev rfl (Ev_lslicel rfl rfl (by omega) (by omega)) rfl rfl ?_) | (refine E_ef rfl (Ef_build0 (k := 1) WideF.wide rfl ?_); intro b; refine ⟨Grow.same rfl rfl, ?_⟩) | (refine E_ef rfl (Ef_appendH WideF.wide rfl rfl hlo rfl rfl (by simp <;> omega) (by simp <;> omega) rfl ?_); intro a' c'; refine ⟨Grow.same rfl rfl, ?_⟩) | (refine E_ef rfl (Ef_appendR WideF.wide (news := [srow x.text]) rfl rfl rfl rfl rfl (by simp <;> omega) (by simp <;> omega) rfl ?_); intro a' c'; refine ⟨Grow.same rfl rfl, ?_⟩) | (refine E_ef rfl (Ef_appendH WideF.wide rfl rfl hhi rfl rfl (by simp <;> omega) (by simp <;> omega) rfl ?_); intro a' c'; refine ⟨Grow.same rfl rfl, ?_⟩) | (refine E_ef rfl (Ef_f1 (Ef_appendH WideF.wide rfl rfl hlo rfl rfl (by simp <;> omega) (by simp <;> omega) rfl ?_)); intro a' c'; refine ⟨Grow.same rfl rfl, ?_⟩) | (refine E_ef rfl (Ef_f1 (Ef_appendR WideF.wide (news := [srow x.text]) rfl rfl rfl rfl rfl (by simp <;> omega) (by simp <;> omega) rfl ?_)); intro a' c'; refine ⟨Grow.same rfl rfl, ?_⟩) | refine O_nil ?_ | refine A_seq ?_ | refine A_region ?_ | refine A_block ?_ | (show drJ _ _ _ _ _ _ _ (.q _ _) _; refine D_q rfl ?_) | (show drJ _ _ _ _ _ _ _ (.e _ _) _; refine D_e rfl ?_) | (show drJ _ _ _ _ _ _ _ (.f _ _ _ _) _; refine D_f rfl rfl ?_ ?_) | (show drJ _ _ _ _ _ _ _ (.done _) _; refine D_done ?_; simp only [List.cons_append, List.nil_append]) | (show drQ _ _ _ _ _ _; first | (refine D_split rfl rfl (fun h => ?_) (fun h => ?_) <;> try (exfalso; omega)) | refine D_ev rfl (Ev_pure rfl) rfl rfl ?_ | (show drQ _ _ _ ⟨_, .load _ _, _, _, _, _⟩ _ _; refine D_ev rfl (Ev_loadH1 rfl (hc 2 _ rfl)) rfl rfl ?_) | (show drQ _ _ _ ⟨_, .fieldAddr _ _ _, _, _, _, _⟩ _ _; refine D_ev rfl (Ev_fieldAddr rfl rfl rfl) rfl rfl ?_) | (show drQ _ _ _ ⟨_, .call _, _, _, _, _⟩ _ _; refine D_ev rfl (Ev_llen rfl) rfl rfl ?_) | refine D_skip rfl rfl rfl ?_) | (show drE _ _ _ _ _ _ _; (show drE _ _ _ _ ⟨_, .buildSlice _ _ _, _, _, _, _⟩ _ _; (refine E_ef rfl (Ef_build11 WideF.wide rfl rfl rfl ?_); intro b; refine ⟨Grow.same rfl rfl, ?_⟩))) | (show opsA _ _ _ _ _ _ _; refine O_ev WideF.wide rfl (Ev_pure rfl) rfl rfl ?_) | (show wpA _ _ _ (.cond _ _ _) _ _ _ _; refine A_iftrue rfl ?_))
          all_goals try (exfalso; omega)
          all_goals try (exfalso; exact absurd rfl (by assumption))
          all_goals
            refine A_loopu (fun q s => ∃ (i : Nat) (Hq : Hp) (ai : Option Addr) (ni ci : Nat) (li : List (List UInt8)), q = xn - i ∧ i ≤ xn ∧ HLe H1 Hq ∧ HRow Hq ai ni ci 1 (li.map srow) ∧ ni + massN (x.args.drop i) ≤ 2097152 ∧ lnmL x.args (ins l x.text) = lnmL (x.args.drop i) li ∧ s = ⟨66, [(0, .slice ai ni ci), (3, .pointer (some ⟨b3, 0, none⟩)), (6, .int .i64 i)], Hq, [], [], []⟩) ?_ ?_
            · refine Shift_freeze hone2 fun H5 hle5 hr5 => Shift.to ⟨_, 0, H5, _, _, _, ins l x.text, rfl, by omega, hle5, hr5.cong hins, by rw [List.drop_zero]; simp; omega, rfl, rfl⟩ ⟨rfl, rfl, rfl, ⟨rfl, rfl, rfl, trivial⟩, Own.sub_nil _⟩
            rintro q s ⟨i, Hq, ai, ni, ci, li, rfl, hi, hleq, hri, hbi, heq, rfl⟩
            have hcq := hc.mono hleq
            by_cases hlt : i < xn
            · obtain ⟨bb, bo, rcs, y, hbb, hy, hyc, hyk, hce⟩ := (NodesS.mono (hle1.trans hleq) hs).at i hlt
              subst hbb
              obtain ⟨ya, yn, yc, rfl, -⟩ := hyc.cells
              have hmy := massN_get hy
              have hd : x.args.drop i = y :: x.args.drop (i + 1) := by
                obtain ⟨hlt', hy'⟩ := List.getElem?_eq_some_iff.1 hy
                rw [List.drop_eq_getElem_cons hlt', hy']
              rw [hd, massN] at hbi
              rw [hd, lnmL_cons] at heq
              have hll := hri.len
              rw [List.length_map] at hll
              have hgr := lnm_len y li
              have hcall := hN Hq _ y ai ni ci li hyc (by omega) hri (by omega)
              repeat' (first | (refine O_ev WideF.wide rfl (Ev_loadH1 rfl (hcq 3 _ rfl)) rfl rfl ?_) | (refine O_ev WideF.wide rfl (Ev_loadH rfl hce rfl) rfl rfl ?_) | (refine O_ef rfl (Ef_call (I := []) WideF.wide hcall ⟨rfl, rfl, trivial⟩ rfl ?_); rintro v5 H5 I5 hle5 ⟨⟨a5, n5, c5, rfl, hr5⟩, rfl⟩) | refine O_nil ?_ | refine A_seq ?_ | refine A_region ?_ | refine A_skip ?_ | refine A_block ?_ | (show opsA _ _ _ _ _ _ _; first | refine O_ev WideF.wide rfl (Ev_pure rfl) rfl rfl ?_ | (show opsA _ _ _ _ (⟨_, .indexAddr _ _ _, _, _, _, _⟩ :: _) _ _; refine O_ev WideF.wide rfl (Ev_indexAddr rfl rfl (by omega) (by omega)) rfl rfl ?_) | (show opsA _ _ _ _ (⟨_, .fieldAddr _ _ _, _, _, _, _⟩ :: _) _ _; refine O_ev WideF.wide rfl (Ev_fieldAddr rfl rfl rfl) rfl rfl ?_) | (show opsA _ _ _ _ (⟨_, .call _, _, _, _, _⟩ :: _) _ _; refine O_ev WideF.wide rfl (Ev_llen rfl) rfl rfl ?_) | (show opsA _ _ _ _ (⟨_, .binOp _ _ _ _ _, _, _, _, _⟩ :: _) _ _; refine O_ev WideF.wide rfl (Ev_add rfl rfl (wi64 (by omega))) rfl rfl ?_)) | (show wpA _ _ _ (.cond _ _ _) _ _ _ _; (refine A_if rfl (fun h => ?_) (fun h => ?_) <;> try (exfalso; omega))))
              have hl5 := hr5.len
              rw [List.length_map] at hl5
              all_goals first
                | (exfalso; omega)
                | (exfalso; contradiction)
                | (exfalso; exact absurd trivial (by assumption))
                | (exfalso; exact absurd rfl (by assumption))
                | exact Shift.to ⟨_, by omega, i + 1, H5, _, _, _, _, rfl, by omega, hleq.trans hle5, hr5, by omega, heq, rfl⟩ ⟨rfl, rfl, rfl, ⟨rfl, rfl, rfl, trivial⟩, Own.sub_nil _⟩
                | trace_state
            · obtain rfl : i = xn := by omega
              rw [List.drop_of_length_le (by omega), lnmL_nil] at heq
              rw [heq]
              repeat' (first | (refine O_ev WideF.wide rfl (Ev_loadH1 rfl (hcq 3 _ rfl)) rfl rfl ?_) | refine O_nil ?_ | refine A_seq ?_ | refine A_region ?_ | refine A_ret ?_ | (show opsA _ _ _ _ _ _ _; first | refine O_ev WideF.wide rfl (Ev_pure rfl) rfl rfl ?_ | (show opsA _ _ _ _ (⟨_, .fieldAddr _ _ _, _, _, _, _⟩ :: _) _ _; refine O_ev WideF.wide rfl (Ev_fieldAddr rfl rfl rfl) rfl rfl ?_) | (show opsA _ _ _ _ (⟨_, .call _, _, _, _, _⟩ :: _) _ _; refine O_ev WideF.wide rfl (Ev_llen rfl) rfl rfl ?_)) | (show wpA _ _ _ (.exit _) _ _ _ _; refine A_exit rfl ?_) | (show wpA _ _ _ (.cond _ _ _) _ _ _ _; (refine A_if rfl (fun h => ?_) (fun h => ?_) <;> try (exfalso; omega))))
              all_goals first
                | (exfalso; omega)
                | (exfalso; contradiction)
                | (exfalso; exact absurd trivial (by assumption))
                | (exfalso; exact absurd rfl (by assumption))
                | exact End_e (Ret1 rfl rfl) ⟨⟨_, _, _, rfl, hri⟩, rfl⟩
                | trace_state

        · obtain ⟨bb, bo, y, hbb, hy, hce⟩ := hr1.atm k (by omega)
          have hne : ¬ y = x.text := fun h9 => (hin.resolve_left hkn2) (by rw [hy, h9])
          subst hbb
          repeat' (first | (refine A_drawM WideF.wide (.q 0 (.q 1 (.q 2 (.q 3 (.q 4 (.q 5 (.q 6 (.q 7 (.q 8 (.q 9 (.q 10 (.q 11 (.q 12 (.done [])))))))))))))) [] (by decide +kernel) ?_) | (refine A_drawM WideF.wide (.q 1 (.q 2 (.q 3 (.q 5 (.q 6 (.q 9 (.q 10 (.q 11 (.f 0 (.f 4 (.e 7 (.e 8 (.e 12 (.q 13 (.done []))))) 7 (.e 4 (.e 8 (.e 12 (.q 13 (.done [])))))) 7 (.e 0 (.e 4 (.e 8 (.e 12 (.q 13 (.done []))))))))))))))) [] (by decide +kernel) ?_) | (refine D_ev rfl (Ev_lsliceh rfl rfl (by omega) (by omega)) rfl rfl ?_) | (refine D_ev rfl (Ev_lslicel rfl rfl (by omega) (by omega)) rfl rfl ?_) | (refine E_ef rfl (Ef_build0 (k := 1) WideF.wide rfl ?_); intro b; refine ⟨Grow.same rfl rfl, ?_⟩) | (refine E_ef rfl (Ef_appendH WideF.wide rfl rfl hlo rfl rfl (by simp <;> omega) (by simp <;> omega) rfl ?_); intro a' c'; refine ⟨Grow.same rfl rfl, ?_⟩) | (refine E_ef rfl (Ef_appendR WideF.wide (news := [srow x.text]) rfl rfl rfl rfl rfl (by simp <;> omega) (by simp <;> omega) rfl ?_); intro a' c'; refine ⟨Grow.same rfl rfl, ?_⟩) | (refine E_ef rfl (Ef_appendH WideF.wide rfl rfl hhi rfl rfl (by simp <;> omega) (by simp <;> omega) rfl ?_); intro a' c'; refine ⟨Grow.same rfl rfl, ?_⟩) | (refine E_ef rfl (Ef_f1 (Ef_appendH WideF.wide rfl rfl hlo rfl rfl (by simp <;> omega) (by simp <;> omega) rfl ?_)); intro a' c'; refine ⟨Grow.same rfl rfl, ?_⟩) | (refine E_ef rfl (Ef_f1 (Ef_appendR WideF.wide (news := [srow x.text]) rfl rfl rfl rfl rfl (by simp <;> omega) (by simp <;> omega) rfl ?_)); intro a' c'; refine ⟨Grow.same rfl rfl, ?_⟩) | (refine D_ev rfl (Ev_loadH1 rfl (hce 0 _ rfl)) rfl rfl ?_) | refine O_nil ?_ | refine A_seq ?_ | refine A_region ?_ | refine A_skip ?_ | refine A_block ?_ | (show drJ _ _ _ _ _ _ _ (.q _ _) _; refine D_q rfl ?_) | (show drJ _ _ _ _ _ _ _ (.e _ _) _; refine D_e rfl ?_) | (show drJ _ _ _ _ _ _ _ (.f _ _ _ _) _; refine D_f rfl rfl ?_ ?_) | (show drJ _ _ _ _ _ _ _ (.done _) _; refine D_done ?_; simp only [List.cons_append, List.nil_append]) | (show drQ _ _ _ _ _ _; first | (refine D_split rfl rfl (fun h => ?_) (fun h => ?_) <;> try (exfalso; omega)) | refine D_ev rfl (Ev_pure rfl) rfl rfl ?_ | (show drQ _ _ _ ⟨_, .load _ _, _, _, _, _⟩ _ _; refine D_ev rfl (Ev_loadH1 rfl (hc 2 _ rfl)) rfl rfl ?_) | (show drQ _ _ _ ⟨_, .indexAddr _ _ _, _, _, _, _⟩ _ _; refine D_ev rfl (Ev_indexAddr rfl rfl (by omega) (by omega)) rfl rfl ?_) | (show drQ _ _ _ ⟨_, .fieldAddr _ _ _, _, _, _, _⟩ _ _; refine D_ev rfl (Ev_fieldAddr rfl rfl rfl) rfl rfl ?_) | (show drQ _ _ _ ⟨_, .call _, _, _, _, _⟩ _ _; refine D_ev rfl (Ev_llen rfl) rfl rfl ?_) | (show drQ _ _ _ ⟨_, .binOp _ _ _ _ _, _, _, _, _⟩ _ _; refine D_ev rfl (Ev_sneq rfl rfl) rfl rfl ?_)) | (show drE _ _ _ _ _ _ _; (show drE _ _ _ _ ⟨_, .buildSlice _ _ _, _, _, _, _⟩ _ _; (refine E_ef rfl (Ef_build11 WideF.wide rfl rfl rfl ?_); intro b; refine ⟨Grow.same rfl rfl, ?_⟩))) | (show opsA _ _ _ _ _ _ _; refine O_ev WideF.wide rfl (Ev_pure rfl) rfl rfl ?_) | (show wpA _ _ _ (.cond _ _ _) _ _ _ _; (refine A_if rfl (fun h => ?_) (fun h => ?_) <;> try (exfalso; omega))))
          all_goals try (exfalso; exact absurd hne (by assumption))
          all_goals try (exfalso; omega)
          all_goals try (exfalso; exact absurd rfl (by assumption))
          all_goals
            refine A_loopu (fun q s => ∃ (i : Nat) (Hq : Hp) (ai : Option Addr) (ni ci : Nat) (li : List (List UInt8)), q = xn - i ∧ i ≤ xn ∧ HLe H1 Hq ∧ HRow Hq ai ni ci 1 (li.map srow) ∧ ni + massN (x.args.drop i) ≤ 2097152 ∧ lnmL x.args (ins l x.text) = lnmL (x.args.drop i) li ∧ s = ⟨66, [(0, .slice ai ni ci), (3, .pointer (some ⟨b3, 0, none⟩)), (6, .int .i64 i)], Hq, [], [], []⟩) ?_ ?_
            · refine Shift_freeze hone2 fun H5 hle5 hr5 => Shift.to ⟨_, 0, H5, _, _, _, ins l x.text, rfl, by omega, hle5, hr5.cong hins, by rw [List.drop_zero]; simp; omega, rfl, rfl⟩ ⟨rfl, rfl, rfl, ⟨rfl, rfl, rfl, trivial⟩, Own.sub_nil _⟩
            rintro q s ⟨i, Hq, ai, ni, ci, li, rfl, hi, hleq, hri, hbi, heq, rfl⟩
            have hcq := hc.mono hleq
            by_cases hlt : i < xn
            · obtain ⟨bb, bo, rcs, y, hbb, hy, hyc, hyk, hce⟩ := (NodesS.mono (hle1.trans hleq) hs).at i hlt
              subst hbb
              obtain ⟨ya, yn, yc, rfl, -⟩ := hyc.cells
              have hmy := massN_get hy
              have hd : x.args.drop i = y :: x.args.drop (i + 1) := by
                obtain ⟨hlt', hy'⟩ := List.getElem?_eq_some_iff.1 hy
                rw [List.drop_eq_getElem_cons hlt', hy']
              rw [hd, massN] at hbi
              rw [hd, lnmL_cons] at heq
              have hll := hri.len
              rw [List.length_map] at hll
              have hgr := lnm_len y li
              have hcall := hN Hq _ y ai ni ci li hyc (by omega) hri (by omega)
              repeat' (first | (refine O_ev WideF.wide rfl (Ev_loadH1 rfl (hcq 3 _ rfl)) rfl rfl ?_) | (refine O_ev WideF.wide rfl (Ev_loadH rfl hce rfl) rfl rfl ?_) | (refine O_ef rfl (Ef_call (I := []) WideF.wide hcall ⟨rfl, rfl, trivial⟩ rfl ?_); rintro v5 H5 I5 hle5 ⟨⟨a5, n5, c5, rfl, hr5⟩, rfl⟩) | refine O_nil ?_ | refine A_seq ?_ | refine A_region ?_ | refine A_skip ?_ | refine A_block ?_ | (show opsA _ _ _ _ _ _ _; first | refine O_ev WideF.wide rfl (Ev_pure rfl) rfl rfl ?_ | (show opsA _ _ _ _ (⟨_, .indexAddr _ _ _, _, _, _, _⟩ :: _) _ _; refine O_ev WideF.wide rfl (Ev_indexAddr rfl rfl (by omega) (by omega)) rfl rfl ?_) | (show opsA _ _ _ _ (⟨_, .fieldAddr _ _ _, _, _, _, _⟩ :: _) _ _; refine O_ev WideF.wide rfl (Ev_fieldAddr rfl rfl rfl) rfl rfl ?_) | (show opsA _ _ _ _ (⟨_, .call _, _, _, _, _⟩ :: _) _ _; refine O_ev WideF.wide rfl (Ev_llen rfl) rfl rfl ?_) | (show opsA _ _ _ _ (⟨_, .binOp _ _ _ _ _, _, _, _, _⟩ :: _) _ _; refine O_ev WideF.wide rfl (Ev_add rfl rfl (wi64 (by omega))) rfl rfl ?_)) | (show wpA _ _ _ (.cond _ _ _) _ _ _ _; (refine A_if rfl (fun h => ?_) (fun h => ?_) <;> try (exfalso; omega))))
              have hl5 := hr5.len
              rw [List.length_map] at hl5
              all_goals first
                | (exfalso; omega)
                | (exfalso; contradiction)
                | (exfalso; exact absurd trivial (by assumption))
                | (exfalso; exact absurd rfl (by assumption))
                | exact Shift.to ⟨_, by omega, i + 1, H5, _, _, _, _, rfl, by omega, hleq.trans hle5, hr5, by omega, heq, rfl⟩ ⟨rfl, rfl, rfl, ⟨rfl, rfl, rfl, trivial⟩, Own.sub_nil _⟩
                | trace_state
            · obtain rfl : i = xn := by omega
              rw [List.drop_of_length_le (by omega), lnmL_nil] at heq
              rw [heq]
              repeat' (first | (refine O_ev WideF.wide rfl (Ev_loadH1 rfl (hcq 3 _ rfl)) rfl rfl ?_) | refine O_nil ?_ | refine A_seq ?_ | refine A_region ?_ | refine A_ret ?_ | (show opsA _ _ _ _ _ _ _; first | refine O_ev WideF.wide rfl (Ev_pure rfl) rfl rfl ?_ | (show opsA _ _ _ _ (⟨_, .fieldAddr _ _ _, _, _, _, _⟩ :: _) _ _; refine O_ev WideF.wide rfl (Ev_fieldAddr rfl rfl rfl) rfl rfl ?_) | (show opsA _ _ _ _ (⟨_, .call _, _, _, _, _⟩ :: _) _ _; refine O_ev WideF.wide rfl (Ev_llen rfl) rfl rfl ?_)) | (show wpA _ _ _ (.exit _) _ _ _ _; refine A_exit rfl ?_) | (show wpA _ _ _ (.cond _ _ _) _ _ _ _; (refine A_if rfl (fun h => ?_) (fun h => ?_) <;> try (exfalso; omega))))
              all_goals first
                | (exfalso; omega)
                | (exfalso; contradiction)
                | (exfalso; exact absurd trivial (by assumption))
                | (exfalso; exact absurd rfl (by assumption))
                | exact End_e (Ret1 rfl rfl) ⟨⟨_, _, _, rfl, hri⟩, rfl⟩
                | trace_state

      · have hkn2 : k < n := by
          rcases Nat.lt_or_ge k n with h | h
          · exact h
          · exact absurd (.inl (by omega)) hin
        have hat : l[k]? = some x.text := Classical.not_not.1 fun h => hin (.inr h)
        have hsame : ins l x.text = l := by unfold ins; rw [← hk, if_neg (by rw [hll0]; exact hin)]
        obtain ⟨bb, bo, y, hbb, hy, hce⟩ := hr1.atm k hkn2
        obtain rfl : y = x.text := by rw [hat] at hy; exact (Option.some.inj hy).symm
        subst hbb
        repeat' (first | (refine A_drawM WideF.wide (.q 0 (.q 1 (.q 2 (.q 3 (.q 4 (.q 5 (.q 6 (.q 7 (.q 8 (.q 9 (.q 10 (.q 11 (.q 12 (.done [])))))))))))))) [] (by decide +kernel) ?_) | (refine D_ev rfl (Ev_loadH1 rfl (hce 0 _ rfl)) rfl rfl ?_) | (refine D_ev rfl (Ev_sneq rfl rfl) rfl rfl ?_; rw [decide_eq_false (fun h => h rfl)]) | refine O_nil ?_ | refine A_seq ?_ | refine A_region ?_ | refine A_skip ?_ | refine A_block ?_ | (show drJ _ _ _ _ _ _ _ (.q _ _) _; refine D_q rfl ?_) | (show drJ _ _ _ _ _ _ _ (.done _) _; refine D_done ?_; simp only [List.cons_append, List.nil_append]) | (show drQ _ _ _ _ _ _; first | (refine D_split rfl rfl (fun h => ?_) (fun h => ?_) <;> try (exfalso; omega)) | refine D_ev rfl (Ev_pure rfl) rfl rfl ?_ | (show drQ _ _ _ ⟨_, .load _ _, _, _, _, _⟩ _ _; refine D_ev rfl (Ev_loadH1 rfl (hc 2 _ rfl)) rfl rfl ?_) | (show drQ _ _ _ ⟨_, .indexAddr _ _ _, _, _, _, _⟩ _ _; refine D_ev rfl (Ev_indexAddr rfl rfl (by omega) (by omega)) rfl rfl ?_) | (show drQ _ _ _ ⟨_, .fieldAddr _ _ _, _, _, _, _⟩ _ _; refine D_ev rfl (Ev_fieldAddr rfl rfl rfl) rfl rfl ?_) | (show drQ _ _ _ ⟨_, .call _, _, _, _, _⟩ _ _; refine D_ev rfl (Ev_llen rfl) rfl rfl ?_)) | (show opsA _ _ _ _ _ _ _; refine O_ev WideF.wide rfl (Ev_pure rfl) rfl rfl ?_) | (show wpA _ _ _ (.cond _ _ _) _ _ _ _; refine A_iffalse rfl ?_))
        all_goals try (exfalso; omega)
        all_goals try (exfalso; exact absurd rfl (by assumption))
        rw [hsame]
        refine A_loopu (fun q s => ∃ (i : Nat) (Hq : Hp) (ai : Option Addr) (ni ci : Nat) (li : List (List UInt8)), q = xn - i ∧ i ≤ xn ∧ HLe H1 Hq ∧ HRow Hq ai ni ci 1 (li.map srow) ∧ ni + massN (x.args.drop i) ≤ 2097152 ∧ lnmL x.args (l) = lnmL (x.args.drop i) li ∧ s = ⟨66, [(0, .slice ai ni ci), (3, .pointer (some ⟨b3, 0, none⟩)), (6, .int .i64 i)], Hq, [], [], []⟩) ?_ ?_
        · exact Shift.to ⟨_, 0, H1, _, n, cc, l, rfl, by omega, HLe.refl _, hr1, by rw [List.drop_zero]; omega, rfl, rfl⟩ ⟨rfl, rfl, rfl, ⟨rfl, rfl, rfl, trivial⟩, Own.sub_nil _⟩
        rintro q s ⟨i, Hq, ai, ni, ci, li, rfl, hi, hleq, hri, hbi, heq, rfl⟩
        have hcq := hc.mono hleq
        by_cases hlt : i < xn
        · obtain ⟨bb, bo, rcs, y, hbb, hy, hyc, hyk, hce⟩ := (NodesS.mono (hle1.trans hleq) hs).at i hlt
          subst hbb
          obtain ⟨ya, yn, yc, rfl, -⟩ := hyc.cells
          have hmy := massN_get hy
          have hd : x.args.drop i = y :: x.args.drop (i + 1) := by
            obtain ⟨hlt', hy'⟩ := List.getElem?_eq_some_iff.1 hy
            rw [List.drop_eq_getElem_cons hlt', hy']
          rw [hd, massN] at hbi
          rw [hd, lnmL_cons] at heq
          have hll := hri.len
          rw [List.length_map] at hll
          have hgr := lnm_len y li
          have hcall := hN Hq _ y ai ni ci li hyc (by omega) hri (by omega)
          repeat' (first | (refine O_ev WideF.wide rfl (Ev_loadH1 rfl (hcq 3 _ rfl)) rfl rfl ?_) | (refine O_ev WideF.wide rfl (Ev_loadH rfl hce rfl) rfl rfl ?_) | (refine O_ef rfl (Ef_call (I := []) WideF.wide hcall ⟨rfl, rfl, trivial⟩ rfl ?_); rintro v5 H5 I5 hle5 ⟨⟨a5, n5, c5, rfl, hr5⟩, rfl⟩) | refine O_nil ?_ | refine A_seq ?_ | refine A_region ?_ | refine A_skip ?_ | refine A_block ?_ | (show opsA _ _ _ _ _ _ _; first | refine O_ev WideF.wide rfl (Ev_pure rfl) rfl rfl ?_ | (show opsA _ _ _ _ (⟨_, .indexAddr _ _ _, _, _, _, _⟩ :: _) _ _; refine O_ev WideF.wide rfl (Ev_indexAddr rfl rfl (by omega) (by omega)) rfl rfl ?_) | (show opsA _ _ _ _ (⟨_, .fieldAddr _ _ _, _, _, _, _⟩ :: _) _ _; refine O_ev WideF.wide rfl (Ev_fieldAddr rfl rfl rfl) rfl rfl ?_) | (show opsA _ _ _ _ (⟨_, .call _, _, _, _, _⟩ :: _) _ _; refine O_ev WideF.wide rfl (Ev_llen rfl) rfl rfl ?_) | (show opsA _ _ _ _ (⟨_, .binOp _ _ _ _ _, _, _, _, _⟩ :: _) _ _; refine O_ev WideF.wide rfl (Ev_add rfl rfl (wi64 (by omega))) rfl rfl ?_)) | (show wpA _ _ _ (.cond _ _ _) _ _ _ _; (refine A_if rfl (fun h => ?_) (fun h => ?_) <;> try (exfalso; omega))))
          have hl5 := hr5.len
          rw [List.length_map] at hl5
          all_goals first
            | (exfalso; omega)
            | (exfalso; contradiction)
            | (exfalso; exact absurd trivial (by assumption))
            | (exfalso; exact absurd rfl (by assumption))
            | exact Shift.to ⟨_, by omega, i + 1, H5, _, _, _, _, rfl, by omega, hleq.trans hle5, hr5, by omega, heq, rfl⟩ ⟨rfl, rfl, rfl, ⟨rfl, rfl, rfl, trivial⟩, Own.sub_nil _⟩
            | trace_state
        · obtain rfl : i = xn := by omega
          rw [List.drop_of_length_le (by omega), lnmL_nil] at heq
          rw [heq]
          repeat' (first | (refine O_ev WideF.wide rfl (Ev_loadH1 rfl (hcq 3 _ rfl)) rfl rfl ?_) | refine O_nil ?_ | refine A_seq ?_ | refine A_region ?_ | refine A_ret ?_ | (show opsA _ _ _ _ _ _ _; first | refine O_ev WideF.wide rfl (Ev_pure rfl) rfl rfl ?_ | (show opsA _ _ _ _ (⟨_, .fieldAddr _ _ _, _, _, _, _⟩ :: _) _ _; refine O_ev WideF.wide rfl (Ev_fieldAddr rfl rfl rfl) rfl rfl ?_) | (show opsA _ _ _ _ (⟨_, .call _, _, _, _, _⟩ :: _) _ _; refine O_ev WideF.wide rfl (Ev_llen rfl) rfl rfl ?_)) | (show wpA _ _ _ (.exit _) _ _ _ _; refine A_exit rfl ?_) | (show wpA _ _ _ (.cond _ _ _) _ _ _ _; (refine A_if rfl (fun h => ?_) (fun h => ?_) <;> try (exfalso; omega))))
          all_goals first
            | (exfalso; omega)
            | (exfalso; contradiction)
            | (exfalso; exact absurd trivial (by assumption))
            | (exfalso; exact absurd rfl (by assumption))
            | exact End_e (Ret1 rfl rfl) ⟨⟨_, _, _, rfl, hri⟩, rfl⟩
            | trace_state
  · rw [if_neg h4]
    refine Fn_of _ _ Tryz.func33 rfl Tryz.ntmps33 rfl fun c => ?_
    repeat' (first | (refine O_ef rfl (Ef_boxa WideF.wide (cs := [.int .i64 x.op, .int .i64 x.num, sv x.text, .slice xa xn xc]) rfl rfl ?_); intro b3; refine O_freezeBox hone ?_; intro H1 hle1 hc) | refine O_nil ?_ | refine A_seq ?_ | refine A_region ?_ | refine A_skip ?_ | refine A_block ?_ | (show opsA _ _ _ _ _ _ _; first | refine O_ev WideF.wide rfl (Ev_pure rfl) rfl rfl ?_ | (show opsA _ _ _ _ (⟨_, .load _ _, _, _, _, _⟩ :: _) _ _; refine O_ev WideF.wide rfl (Ev_loadH1 rfl (hc 0 _ rfl)) rfl rfl ?_) | (show opsA _ _ _ _ (⟨_, .fieldAddr _ _ _, _, _, _, _⟩ :: _) _ _; refine O_ev WideF.wide rfl (Ev_fieldAddr rfl rfl rfl) rfl rfl ?_)) | (show wpA _ _ _ (.cond _ _ _) _ _ _ _; (refine A_if rfl (fun h => ?_) (fun h => ?_) <;> try (exfalso; omega))))
    all_goals try (exfalso; omega)
    have hr1 := hr.mono hle1
    refine A_loopu (fun q s => ∃ (i : Nat) (Hq : Hp) (ai : Option Addr) (ni ci : Nat) (li : List (List UInt8)), q = xn - i ∧ i ≤ xn ∧ HLe H1 Hq ∧ HRow Hq ai ni ci 1 (li.map srow) ∧ ni + massN (x.args.drop i) ≤ 2097152 ∧ lnmL x.args (l) = lnmL (x.args.drop i) li ∧ s = ⟨66, [(0, .slice ai ni ci), (3, .pointer (some ⟨b3, 0, none⟩)), (6, .int .i64 i)], Hq, [], [], []⟩) ?_ ?_
    · exact Shift.to ⟨_, 0, H1, _, n, cc, l, rfl, by omega, HLe.refl _, hr1, by rw [List.drop_zero]; omega, rfl, rfl⟩ ⟨rfl, rfl, rfl, ⟨rfl, rfl, rfl, trivial⟩, Own.sub_nil _⟩
    rintro q s ⟨i, Hq, ai, ni, ci, li, rfl, hi, hleq, hri, hbi, heq, rfl⟩
    have hcq := hc.mono hleq
    by_cases hlt : i < xn
    · obtain ⟨bb, bo, rcs, y, hbb, hy, hyc, hyk, hce⟩ := (NodesS.mono (hle1.trans hleq) hs).at i hlt
      subst hbb
      obtain ⟨ya, yn, yc, rfl, -⟩ := hyc.cells
      have hmy := massN_get hy
      have hd : x.args.drop i = y :: x.args.drop (i + 1) := by
        obtain ⟨hlt', hy'⟩ := List.getElem?_eq_some_iff.1 hy
        rw [List.drop_eq_getElem_cons hlt', hy']
      rw [hd, massN] at hbi
      rw [hd, lnmL_cons] at heq
      have hll := hri.len
      rw [List.length_map] at hll
      have hgr := lnm_len y li
      have hcall := hN Hq _ y ai ni ci li hyc (by omega) hri (by omega)
      repeat' (first | (refine O_ev WideF.wide rfl (Ev_loadH1 rfl (hcq 3 _ rfl)) rfl rfl ?_) | (refine O_ev WideF.wide rfl (Ev_loadH rfl hce rfl) rfl rfl ?_) | (refine O_ef rfl (Ef_call (I := []) WideF.wide hcall ⟨rfl, rfl, trivial⟩ rfl ?_); rintro v5 H5 I5 hle5 ⟨⟨a5, n5, c5, rfl, hr5⟩, rfl⟩) | refine O_nil ?_ | refine A_seq ?_ | refine A_region ?_ | refine A_skip ?_ | refine A_block ?_ | (show opsA _ _ _ _ _ _ _; first | refine O_ev WideF.wide rfl (Ev_pure rfl) rfl rfl ?_ | (show opsA _ _ _ _ (⟨_, .indexAddr _ _ _, _, _, _, _⟩ :: _) _ _; refine O_ev WideF.wide rfl (Ev_indexAddr rfl rfl (by omega) (by omega)) rfl rfl ?_) | (show opsA _ _ _ _ (⟨_, .fieldAddr _ _ _, _, _, _, _⟩ :: _) _ _; refine O_ev WideF.wide rfl (Ev_fieldAddr rfl rfl rfl) rfl rfl ?_) | (show opsA _ _ _ _ (⟨_, .call _, _, _, _, _⟩ :: _) _ _; refine O_ev WideF.wide rfl (Ev_llen rfl) rfl rfl ?_) | (show opsA _ _ _ _ (⟨_, .binOp _ _ _ _ _, _, _, _, _⟩ :: _) _ _; refine O_ev WideF.wide rfl (Ev_add rfl rfl (wi64 (by omega))) rfl rfl ?_)) | (show wpA _ _ _ (.cond _ _ _) _ _ _ _; (refine A_if rfl (fun h => ?_) (fun h => ?_) <;> try (exfalso; omega))))
      have hl5 := hr5.len
      rw [List.length_map] at hl5
      all_goals first
        | (exfalso; omega)
        | (exfalso; contradiction)
        | (exfalso; exact absurd trivial (by assumption))
        | (exfalso; exact absurd rfl (by assumption))
        | exact Shift.to ⟨_, by omega, i + 1, H5, _, _, _, _, rfl, by omega, hleq.trans hle5, hr5, by omega, heq, rfl⟩ ⟨rfl, rfl, rfl, ⟨rfl, rfl, rfl, trivial⟩, Own.sub_nil _⟩
        | trace_state
    · obtain rfl : i = xn := by omega
      rw [List.drop_of_length_le (by omega), lnmL_nil] at heq
      rw [heq]
      repeat' (first | (refine O_ev WideF.wide rfl (Ev_loadH1 rfl (hcq 3 _ rfl)) rfl rfl ?_) | refine O_nil ?_ | refine A_seq ?_ | refine A_region ?_ | refine A_ret ?_ | (show opsA _ _ _ _ _ _ _; first | refine O_ev WideF.wide rfl (Ev_pure rfl) rfl rfl ?_ | (show opsA _ _ _ _ (⟨_, .fieldAddr _ _ _, _, _, _, _⟩ :: _) _ _; refine O_ev WideF.wide rfl (Ev_fieldAddr rfl rfl rfl) rfl rfl ?_) | (show opsA _ _ _ _ (⟨_, .call _, _, _, _, _⟩ :: _) _ _; refine O_ev WideF.wide rfl (Ev_llen rfl) rfl rfl ?_)) | (show wpA _ _ _ (.exit _) _ _ _ _; refine A_exit rfl ?_) | (show wpA _ _ _ (.cond _ _ _) _ _ _ _; (refine A_if rfl (fun h => ?_) (fun h => ?_) <;> try (exfalso; omega))))
      all_goals first
        | (exfalso; omega)
        | (exfalso; contradiction)
        | (exfalso; exact absurd trivial (by assumption))
        | (exfalso; exact absurd rfl (by assumption))
        | exact End_e (Ret1 rfl rfl) ⟨⟨_, _, _, rfl, hri⟩, rfl⟩
        | trace_state
theorem ln_all : ∀ N, LnC N
  | 0 => fun _ _ _ _ _ _ _ _ h => absurd h (by omega)
  | N + 1 => ln_step (ln_all N)
end Go.Proofs.YtnoadopmeoohmaaGreatDoor
