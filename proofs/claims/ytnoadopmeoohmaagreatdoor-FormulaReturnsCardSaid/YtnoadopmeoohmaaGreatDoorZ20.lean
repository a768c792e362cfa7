import Derived.Test.YtnoadopmeoohmaaGreatDoorZ19
/-
  The check of one node: calls. Printed by genF20.py.
  Check. Printed by genF21.py.
-/
namespace Go.Proofs.YtnoadopmeoohmaaGreatDoor
open Go
set_option linter.unusedVariables false
set_option linter.unusedSimpArgs false
section
theorem FunsH.cases {H : Hp} {kvs : List (List UInt8 × Value)} (h : FunsH H kvs) (s : List UInt8) : (fnArg s = none ∧ ¬ shas kvs s) ∨ (∃ lo hi : Int, fnArg s = some (lo, hi) ∧ shas kvs s ∧ sget zFn kvs s = .agg [.int .i64 lo, .int .i64 hi, .nilFunc].toArray) ∨
    ∃ (lo hi : Int) (f : FuncId) (caps : List Value), fnArg s = some (lo, hi) ∧ shas kvs s ∧ sget zFn kvs s = .agg [.int .i64 lo, .int .i64 hi, .func (.func f) #[] caps.toArray].toArray := by
  rcases h s with h1 | ⟨lo, hi, fv, h1, h2, h3, h4, h5⟩
  · exact .inl h1
  · by_cases hs : s = [105, 102]
    · rw [h5 hs] at h3; exact .inr (.inl ⟨lo, hi, h1, h2, h3⟩)
    · obtain ⟨f, caps, rfl, _⟩ := h4 hs
      exact .inr (.inr ⟨lo, hi, f, caps, h1, h2, h3⟩)
attribute [local irreducible] wpA opsA drJ drQ drE Ef Ev Shift Fn
set_option maxRecDepth 100000 in
set_option maxHeartbeats 16000000 in
theorem check_5 {H : Hp} {num : Int} {text : List UInt8} {a : Option Addr} {n cp : Nat} (hn : n < 4611686018427387904) (ht : text.length < 4611686018427387904) :
    Fn Tryz.prog 36 [.agg [.int .i64 5, .int .i64 num, sv text, .slice a n cp].toArray] H [] fun v _ I => v = .int .i64 (chkT 5 num text n) ∧ I = [] := by
  refine Fn_of _ _ Tryz.func36 rfl Tryz.ntmps36 rfl fun c => ?_
  repeat' (first | (refine O_ef rfl (Ef_boxa WideF.wide (cs := [.int .i64 5, .int .i64 num, sv text, .slice a n cp]) rfl rfl ?_); intro b1; refine O_freezeBox (by intro u hu; simp at hu; rcases hu with rfl | rfl | rfl | rfl <;> rfl) ?_; intro H1 hle1 hc) | (show wpA _ _ _ (.region 1 _ _) _ _ _ _; (refine A_drawM WideF.wide (.q 0 (.q 1 (.q 2 (.q 3 (.q 4 (.q 5 (.q 6 (.q 7 (.q 8 (.q 9 (.q 10 (.q 11 (.q 12 (.q 13 (.q 14 (.q 15 (.q 16 (.q 17 (.q 18 (.q 19 (.q 20 (.q 21 (.q 22 (.done [])))))))))))))))))))))))) [] (by decide +kernel) ?_)) | (show wpA _ _ _ (.region 4 _ _) _ _ _ _; (refine A_drawM WideF.wide (.q 0 (.q 1 (.q 2 (.q 3 (.q 4 (.q 5 (.q 6 (.q 7 (.q 8 (.q 9 (.q 10 (.q 11 (.q 12 (.q 13 (.q 14 (.q 15 (.q 16 (.q 17 (.q 18 (.q 19 (.q 20 (.q 21 (.q 22 (.q 23 (.q 24 (.q 25 (.e 26 (.q 27 (.q 28 (.q 29 (.q 30 (.done [])))))))))))))))))))))))))))))))) [] (by decide +kernel) ?_)) | (show wpA _ _ _ (.region 24 _ _) _ _ _ _; (refine A_drawM WideF.wide (.q 1 (.q 2 (.f 0 (.f 3 (.q 4 (.q 5 (.q 6 (.e 7 (.e 8 (.q 9 (.done []))))))) 7 (.e 3 (.q 4 (.q 5 (.q 6 (.e 8 (.q 9 (.done [])))))))) 7 (.e 0 (.e 3 (.q 4 (.q 5 (.q 6 (.e 8 (.q 9 (.done []))))))))))) [] (by decide +kernel) ?_)) | (refine E_ef rfl (Ef_call (I := []) WideF.wide functions_fn trivial rfl ?_); rintro v2 H2 I2 hle2 ⟨mb, kvs, rfl, hF, rfl⟩; refine ⟨⟨hle2, rfl⟩, ?_⟩; rcases hF.cases text with ⟨hfn, hsh⟩ | ⟨lo, hi, hfn, hsh, hsg⟩ | ⟨lo, hi, f, caps, hfn, hsh, hsg⟩) | (refine E_ef rfl (Ef_ev WideF.wide (Ev_lookupTok (i := 0) Tryz.zeroValue106 rfl rfl rfl) rfl rfl ?_); refine ⟨Grow.same rfl rfl, ?_⟩; first | rw [decide_eq_false hsh, sget_no hsh] | rw [decide_eq_true hsh, hsg]) | (refine E_ef rfl (Ef_ev WideF.wide (Ev_lookupTok (i := 1) Tryz.zeroValue106 rfl rfl rfl) rfl rfl ?_); refine ⟨Grow.same rfl rfl, ?_⟩; first | rw [decide_eq_false hsh, sget_no hsh] | rw [decide_eq_true hsh, hsg]) | (refine O_ev WideF.wide rfl (Ev_loadH1 rfl (hle2 _ _ _ (hc 3 _ rfl))) rfl rfl ?_) | refine O_nil ?_ | refine A_seq ?_ | refine A_region ?_ | refine A_skip ?_ | refine A_ret ?_ | refine A_block ?_ | (show drJ _ _ _ _ _ _ _ (.q _ _) _; refine D_q rfl ?_) | (show drJ _ _ _ _ _ _ _ (.e _ _) _; refine D_e rfl ?_) | (show drJ _ _ _ _ _ _ _ (.f _ _ _ _) _; refine D_f rfl rfl ?_ ?_) | (show drJ _ _ _ _ _ _ _ (.done _) _; refine D_done ?_; simp only [List.cons_append, List.nil_append]) | (show drQ _ _ _ _ _ _; first | (refine D_split rfl rfl (fun h => ?_) (fun h => ?_) <;> try (exfalso; omega)) | refine D_ev rfl (Ev_pure rfl) rfl rfl ?_ | (show drQ _ _ _ ⟨_, .load _ _, _, _, _, _⟩ _ _; first | refine D_ev rfl (Ev_loadH1 rfl (hc 0 _ rfl)) rfl rfl ?_ | refine D_ev rfl (Ev_loadH1 rfl (hc 1 _ rfl)) rfl rfl ?_ | refine D_ev rfl (Ev_loadH1 rfl (hc 2 _ rfl)) rfl rfl ?_) | (show drQ _ _ _ ⟨_, .fieldAddr _ _ _, _, _, _, _⟩ _ _; refine D_ev rfl (Ev_fieldAddr rfl rfl rfl) rfl rfl ?_) | (show drQ _ _ _ ⟨_, .binOp _ _ _ _ _, _, _, _, _⟩ _ _; refine D_ev rfl (Ev_sneq rfl rfl) rfl rfl ?_) | (show drQ _ _ _ ⟨_, .unOp _ _ _, _, _, _, _⟩ _ _; refine D_ev rfl (Ev_not rfl) rfl rfl ?_) | refine D_skip rfl rfl rfl ?_) | (show drE _ _ _ _ _ _ _; first | (show drE _ _ _ _ ⟨_, .alloc _, _, _, _, _⟩ _ _; (refine E_ef rfl (Ef_alloc WideF.wide rfl ?_); intro b; refine ⟨Grow.same rfl rfl, ?_⟩)) | (show drE _ _ _ _ ⟨_, .store _ _ _, _, _, _, _⟩ _ _; first | (refine E_ef rfl (Ef_storew WideF.wide rfl rfl rfl rfl rfl ?_); refine ⟨Grow.same rfl rfl, ?_⟩) | (refine E_ef rfl (Ef_f1 (Ef_storew WideF.wide rfl rfl rfl rfl rfl ?_)); refine ⟨Grow.same rfl rfl, ?_⟩)) | refine E_skip rfl rfl rfl ?_) | (show opsA _ _ _ _ _ _ _; first | (refine O_split rfl rfl (fun h => ?_) (fun h => ?_) <;> try (exfalso; omega)) | refine O_ev WideF.wide rfl (Ev_pure rfl) rfl rfl ?_ | (show opsA _ _ _ _ (⟨_, .load _ _, _, _, _, _⟩ :: _) _ _; first | refine O_ev WideF.wide rfl (Ev_loadB1 (i := 0) rfl rfl rfl) rfl rfl ?_ | refine O_ev WideF.wide rfl (Ev_loadH1 rfl (hc 0 _ rfl)) rfl rfl ?_) | (show opsA _ _ _ _ (⟨_, .fieldAddr _ _ _, _, _, _, _⟩ :: _) _ _; refine O_ev WideF.wide rfl (Ev_fieldAddr rfl rfl rfl) rfl rfl ?_) | (show opsA _ _ _ _ (⟨_, .call _, _, _, _, _⟩ :: _) _ _; refine O_ev WideF.wide rfl (Ev_llen rfl) rfl rfl ?_) | (show opsA _ _ _ _ (⟨_, .unOp _ _ _, _, _, _, _⟩ :: _) _ _; refine O_ev WideF.wide rfl (Ev_notb rfl) rfl rfl ?_) | refine O_skip WideF.wide rfl rfl rfl ?_) | (show wpA _ _ _ (.cond _ _ _) _ _ _ _; first | (refine A_if rfl (fun h => ?_) (fun h => ?_) <;> try (exfalso; omega)) | refine A_iftrue rfl ?_ | refine A_iffalse rfl ?_))
  all_goals first
    | (exfalso; omega)
    | (exfalso; contradiction)
    | (exfalso; exact absurd trivial (by assumption))
    | (exfalso; exact absurd rfl (by assumption))
    | (refine End_e (Ret1 rfl rfl) ⟨congrArg (Value.int .i64) ?_, rfl⟩; unfold chkT; rw [hfn]; grind)
    | (refine End_e (Ret1 rfl rfl) ⟨congrArg (Value.int .i64) ?_, rfl⟩; unfold chkT; grind)
    | trace_state
theorem check_fn {H : Hp} {cs : List Value} {x : Nd} (hx : NodeH H cs x) (hm : x.mass < 34359738368) : Fn Tryz.prog 36 [.agg cs.toArray] H [] fun v _ I => v = .int .i64 (chkN x) ∧ I = [] := by
  obtain ⟨a, n, cp, rfl, hs⟩ := hx.cells
  have e1 := hs.len
  have e2 := massN_len x.args
  have e3 := x.mass_eq
  unfold chkN
  rw [e1]
  have hn : n < 4611686018427387904 := by omega
  have ht : x.text.length < 4611686018427387904 := by omega
  obtain ⟨op, num, text, args⟩ := x
  show Fn Tryz.prog 36 [.agg [.int .i64 op, .int .i64 num, sv text, .slice a n cp].toArray] H [] fun v _ I => v = .int .i64 (chkT op num text n) ∧ I = []
  by_cases h1 : op = 1
  · subst h1; exact check_1 hn ht
  by_cases h2 : op = 2
  · subst h2; exact check_2 hn ht
  by_cases h3 : op = 3
  · subst h3; exact check_3 hn ht
  by_cases h4 : op = 4
  · subst h4; exact check_4 hn ht
  by_cases h5 : op = 5
  · subst h5; exact check_5 hn ht
  by_cases h6 : op < 1 ∨ 21 < op
  · exact check_bad hn ht h6
  · exact check_op hn ht (by omega)
end
theorem vis_eq (x : Nd) (v lv : Int) : vis x v lv = if 256 ≤ v then (9, v) else if 32 < lv then (17, v) else if chkN x ≠ 0 then (chkN x, v + 1) else visL x.args (v + 1) (lv + 1) := by
  obtain ⟨op, num, text, args⟩ := x
  rw [vis]
  rfl
theorem visL_nil (v lv : Int) : visL [] v lv = (0, v) := by rw [visL]
theorem visL_cons (x : Nd) (l : List Nd) (v lv : Int) : visL (x :: l) v lv = if (vis x v lv).1 = 0 then visL l (vis x v lv).2 lv else vis x v lv := by rw [visL]
mutual
theorem vis_le : ∀ (x : Nd) (v lv : Int), 0 ≤ v → v ≤ 256 → v ≤ (vis x v lv).2 ∧ (vis x v lv).2 ≤ 256
  | .mk op num text args, v, lv, h0, h1 => by
    rw [vis]
    split
    · exact ⟨Int.le_refl _, h1⟩
    · split
      · exact ⟨Int.le_refl _, h1⟩
      · split
        · exact ⟨by dsimp only; omega, by dsimp only; omega⟩
        · have := visL_le args (v + 1) (lv + 1) (by omega) (by omega)
          exact ⟨by omega, this.2⟩
theorem visL_le : ∀ (l : List Nd) (v lv : Int), 0 ≤ v → v ≤ 256 → v ≤ (visL l v lv).2 ∧ (visL l v lv).2 ≤ 256
  | [], v, lv, h0, h1 => by rw [visL]; exact ⟨Int.le_refl _, h1⟩
  | x :: l, v, lv, h0, h1 => by
    rw [visL]
    have hx := vis_le x v lv h0 h1
    split
    · have := visL_le l (vis x v lv).2 lv (by omega) hx.2
      exact ⟨by omega, this.2⟩
    · exact hx
end
abbrev visF (b3 b4 : Nat) : Value := .func (.func 35) #[] [.pointer (some ⟨b3, 0, none⟩), .pointer (some ⟨b4, 0, none⟩)].toArray
def VisC (N : Nat) : Prop := ∀ (H : Hp) (cs : List Value) (x : Nd) (v lv : Int) (b3 b4 : Nat), NodeH H cs x → x.mass < N → x.mass < 34359738368 → 0 ≤ v → v ≤ 256 → 0 ≤ lv → lv ≤ 1000 → H b4 0 = some (visF b3 b4) →
  Fn Tryz.prog 35 [.agg cs.toArray, .int .i64 lv, .pointer (some ⟨b3, 0, none⟩), .pointer (some ⟨b4, 0, none⟩)] H [.box b3 [.int .i64 v]] fun r _ I => r = .int .i64 (vis x v lv).1 ∧ I = [.box b3 [.int .i64 (vis x v lv).2]]
attribute [local irreducible] wpA opsA drJ drQ drE Ef Ev Shift Fn
set_option maxRecDepth 100000 in
set_option maxHeartbeats 8000000 in
theorem vis_step {N : Nat} (hN : VisC N) : VisC (N + 1) := by
  intro H cs x v lv b3 b4 hx hm hm2 hv hv2 hl hl2 h4
  have hone := hx.one
  have kchk := fun Hx (hle : HLe H Hx) => check_fn (hx.mono hle) hm2
  obtain ⟨a, n, cp, rfl, hs⟩ := hx.cells
  have e1 := hs.len
  have e2 := massN_len x.args
  have e3 := x.mass_eq
  rw [vis_eq]
  by_cases hA : 256 ≤ v
  · rw [if_pos hA]
    refine Fn_of _ _ Tryz.func35 rfl Tryz.ntmps35 rfl fun c => ?_
    repeat' (first | (refine O_ef rfl (Ef_boxa WideF.wide (cs := [.int .i64 x.op, .int .i64 x.num, sv x.text, .slice a n cp]) rfl rfl ?_); intro b9; refine O_freezeBox hone ?_; intro H1 hle1 hc) | refine O_nil ?_ | refine A_seq ?_ | refine A_region ?_ | refine A_ret ?_ | refine A_block ?_ | (show opsA _ _ _ _ _ _ _; first | refine O_ev WideF.wide rfl (Ev_pure rfl) rfl rfl ?_ | (show opsA _ _ _ _ (⟨_, .load _ _, _, _, _, _⟩ :: _) _ _; refine O_ev WideF.wide rfl (Ev_loadB1 (i := 0) rfl rfl rfl) rfl rfl ?_)) | (show wpA _ _ _ (.cond _ _ _) _ _ _ _; (refine A_if rfl (fun h => ?_) (fun h => ?_) <;> try (exfalso; omega))))
    all_goals first
      | (exfalso; omega)
      | (exfalso; contradiction)
      | (exfalso; exact absurd trivial (by assumption))
      | (exfalso; exact absurd rfl (by assumption))
      | exact End_m (Ret1 rfl rfl) ⟨rfl, rfl⟩
      | trace_state
  rw [if_neg hA]
  by_cases hB : 32 < lv
  · rw [if_pos hB]
    refine Fn_of _ _ Tryz.func35 rfl Tryz.ntmps35 rfl fun c => ?_
    repeat' (first | (refine O_ef rfl (Ef_boxa WideF.wide (cs := [.int .i64 x.op, .int .i64 x.num, sv x.text, .slice a n cp]) rfl rfl ?_); intro b9; refine O_freezeBox hone ?_; intro H1 hle1 hc) | refine O_nil ?_ | refine A_seq ?_ | refine A_region ?_ | refine A_ret ?_ | refine A_block ?_ | (show opsA _ _ _ _ _ _ _; first | refine O_ev WideF.wide rfl (Ev_pure rfl) rfl rfl ?_ | (show opsA _ _ _ _ (⟨_, .load _ _, _, _, _, _⟩ :: _) _ _; refine O_ev WideF.wide rfl (Ev_loadB1 (i := 0) rfl rfl rfl) rfl rfl ?_)) | (show wpA _ _ _ (.cond _ _ _) _ _ _ _; (refine A_if rfl (fun h => ?_) (fun h => ?_) <;> try (exfalso; omega))))
    all_goals first
      | (exfalso; omega)
      | (exfalso; contradiction)
      | (exfalso; exact absurd trivial (by assumption))
      | (exfalso; exact absurd rfl (by assumption))
      | exact End_m (Ret1 rfl rfl) ⟨rfl, rfl⟩
      | trace_state
  rw [if_neg hB]
  by_cases hC : chkN x = 0
  · rw [if_neg (fun h => h hC)]
    rw [hC] at kchk
    refine Fn_of _ _ Tryz.func35 rfl Tryz.ntmps35 rfl fun c => ?_
    repeat' (first | (refine O_ef rfl (Ef_boxa WideF.wide (cs := [.int .i64 x.op, .int .i64 x.num, sv x.text, .slice a n cp]) rfl rfl ?_); intro b9; refine O_freezeBox hone ?_; intro H1 hle1 hc) | (refine O_ef rfl (Ef_call (I := []) WideF.wide (kchk _ hle1) ⟨rfl, trivial⟩ rfl ?_); rintro v2 H2 I2 hle2 ⟨rfl, rfl⟩) | (refine O_ev WideF.wide rfl (Ev_loadH1 rfl (hle2 _ _ _ (hc 3 _ rfl))) rfl rfl ?_) | refine O_nil ?_ | refine A_seq ?_ | refine A_region ?_ | refine A_skip ?_ | refine A_block ?_ | (show opsA _ _ _ _ _ _ _; first | refine O_ev WideF.wide rfl (Ev_pure rfl) rfl rfl ?_ | (show opsA _ _ _ _ (⟨_, .load _ _, _, _, _, _⟩ :: _) _ _; first | refine O_ev WideF.wide rfl (Ev_loadB1 (i := 0) rfl rfl rfl) rfl rfl ?_ | refine O_ev WideF.wide rfl (Ev_loadH rfl (by assumption) (by rfl)) rfl rfl ?_) | (show opsA _ _ _ _ (⟨_, .fieldAddr _ _ _, _, _, _, _⟩ :: _) _ _; refine O_ev WideF.wide rfl (Ev_fieldAddr rfl rfl rfl) rfl rfl ?_) | (show opsA _ _ _ _ (⟨_, .call _, _, _, _, _⟩ :: _) _ _; refine O_ev WideF.wide rfl (Ev_llen rfl) rfl rfl ?_) | (show opsA _ _ _ _ (⟨_, .binOp _ _ _ _ _, _, _, _, _⟩ :: _) _ _; refine O_ev WideF.wide rfl (Ev_add rfl rfl (wi64 (by omega))) rfl rfl ?_) | (show opsA _ _ _ _ (⟨_, .store _ _ _, _, _, _, _⟩ :: _) _ _; refine O_ef rfl (Ef_store1 WideF.wide rfl rfl rfl rfl rfl ?_))) | (show wpA _ _ _ (.cond _ _ _) _ _ _ _; (refine A_if rfl (fun h => ?_) (fun h => ?_) <;> try (exfalso; omega))))
    all_goals try (exfalso; omega)
    have h4' : H2 b4 0 = some (visF b3 b4) := hle2 _ _ _ (hle1 _ _ _ h4)
    have hs' := (hs.mono hle1).mono hle2
    refine A_loopu (fun q s => ∃ (i : Nat) (Hq : Hp) (vi : Int), q = n - i ∧ i ≤ n ∧ HLe H2 Hq ∧ 0 ≤ vi ∧ vi ≤ 256 ∧ visL x.args (v + 1) (lv + 1) = visL (x.args.drop i) vi (lv + 1) ∧ s = ⟨40, [(1, .int .i64 lv), (2, .pointer (some ⟨b3, 0, none⟩)), (3, .pointer (some ⟨b4, 0, none⟩)), (25, .slice a n cp), (26, .int .i64 n), (27, .int .i64 i)], Hq, [.box b3 [.int .i64 vi]], [], []⟩) ?_ ?_
    · exact Shift.to ⟨_, 0, _, v + 1, rfl, by omega, HLe.refl _, by omega, by omega, rfl, rfl⟩ ⟨rfl, rfl, rfl, ⟨rfl, rfl, rfl, rfl, rfl, rfl, trivial⟩, Own.subi [0] (by decide) rfl rfl⟩
    rintro q s ⟨i, Hq, vi, rfl, hi, hleq, hvi, hvi2, heq, rfl⟩
    by_cases hlt : i < n
    · obtain ⟨bb, bo, rcs, y, rfl, hy, hyc, hyk, hce⟩ := (NodesS.mono hleq hs').at i hlt
      have hmy := massN_get hy
      obtain ⟨ya, yn, yc, rfl, -⟩ := hyc.cells
      have hd : x.args.drop i = y :: x.args.drop (i + 1) := by
        obtain ⟨hlt', hy'⟩ := List.getElem?_eq_some_iff.1 hy
        rw [List.drop_eq_getElem_cons hlt', hy']
      rw [hd, visL_cons] at heq
      have hvl := vis_le y vi (lv + 1) hvi hvi2
      have hcall := hN Hq _ y vi (lv + 1) b3 b4 hyc (by omega) (by omega) hvi hvi2 (by omega) (by omega) (hleq _ _ _ h4')
      obtain ⟨⟨e, w⟩, hp⟩ : ∃ p, p = vis y vi (lv + 1) := ⟨_, rfl⟩
      rw [← hp] at hvl hcall heq
      dsimp only at hvl hcall heq
      have h4q := hleq _ _ _ h4'
      by_cases he : e = 0
      · rw [if_pos he] at heq
        rw [he] at hcall
        repeat' (first | (refine O_ev WideF.wide rfl (Ev_loadH rfl hce rfl) rfl rfl ?_) | (refine O_ev WideF.wide rfl (Ev_loadH1 rfl h4q) rfl rfl ?_) | (refine O_ef rfl (Ef_f1 (Ef_callc (I := [_]) (args := [.agg _, .int .i64 (lv + 1)]) (caps := [.pointer (some ⟨b3, 0, none⟩), .pointer (some ⟨b4, 0, none⟩)]) WideF.wide hcall rfl ⟨rfl, rfl, trivial⟩ rfl ?_)); rintro v5 H5 I5 hle5 ⟨rfl, rfl⟩) | refine O_nil ?_ | refine A_seq ?_ | refine A_region ?_ | refine A_skip ?_ | refine A_block ?_ | (show opsA _ _ _ _ _ _ _; first | refine O_ev WideF.wide rfl (Ev_pure rfl) rfl rfl ?_ | (show opsA _ _ _ _ (⟨_, .load _ _, _, _, _, _⟩ :: _) _ _; refine O_ev WideF.wide rfl (Ev_loadB (i := 0) rfl rfl rfl) rfl rfl ?_) | (show opsA _ _ _ _ (⟨_, .indexAddr _ _ _, _, _, _, _⟩ :: _) _ _; refine O_ev WideF.wide rfl (Ev_indexAddr rfl rfl (by omega) (by omega)) rfl rfl ?_) | (show opsA _ _ _ _ (⟨_, .binOp _ _ _ _ _, _, _, _, _⟩ :: _) _ _; refine O_ev WideF.wide rfl (Ev_add rfl rfl (wi64 (by omega))) rfl rfl ?_) | (show opsA _ _ _ _ (⟨_, .alloc _, _, _, _, _⟩ :: _) _ _; (refine O_ef rfl (Ef_alloc WideF.wide rfl ?_); intro b)) | (show opsA _ _ _ _ (⟨_, .store _ _ _, _, _, _, _⟩ :: _) _ _; refine O_ef rfl (Ef_storew WideF.wide rfl rfl rfl rfl rfl ?_))) | (show wpA _ _ _ (.cond _ _ _) _ _ _ _; (refine A_if rfl (fun h => ?_) (fun h => ?_) <;> try (exfalso; omega))))
        all_goals first
          | (exfalso; omega)
          | (exfalso; contradiction)
          | (exfalso; exact absurd trivial (by assumption))
          | (exfalso; exact absurd rfl (by assumption))
          | exact Shift.to ⟨_, by omega, i + 1, H5, w, rfl, by omega, hleq.trans hle5, by omega, hvl.2, heq, rfl⟩ ⟨rfl, rfl, rfl, ⟨rfl, rfl, rfl, rfl, rfl, rfl, trivial⟩, Own.subi [0] (by decide) rfl rfl⟩
          | trace_state
      · rw [if_neg he] at heq
        repeat' (first | (refine O_ev WideF.wide rfl (Ev_loadH rfl hce rfl) rfl rfl ?_) | (refine O_ev WideF.wide rfl (Ev_loadH1 rfl h4q) rfl rfl ?_) | (refine O_ef rfl (Ef_f1 (Ef_callc (I := [_]) (args := [.agg _, .int .i64 (lv + 1)]) (caps := [.pointer (some ⟨b3, 0, none⟩), .pointer (some ⟨b4, 0, none⟩)]) WideF.wide hcall rfl ⟨rfl, rfl, trivial⟩ rfl ?_)); rintro v5 H5 I5 hle5 ⟨rfl, rfl⟩) | refine O_nil ?_ | refine A_seq ?_ | refine A_region ?_ | refine A_skip ?_ | refine A_ret ?_ | refine A_block ?_ | (show opsA _ _ _ _ _ _ _; first | refine O_ev WideF.wide rfl (Ev_pure rfl) rfl rfl ?_ | (show opsA _ _ _ _ (⟨_, .load _ _, _, _, _, _⟩ :: _) _ _; refine O_ev WideF.wide rfl (Ev_loadB (i := 0) rfl rfl rfl) rfl rfl ?_) | (show opsA _ _ _ _ (⟨_, .indexAddr _ _ _, _, _, _, _⟩ :: _) _ _; refine O_ev WideF.wide rfl (Ev_indexAddr rfl rfl (by omega) (by omega)) rfl rfl ?_) | (show opsA _ _ _ _ (⟨_, .binOp _ _ _ _ _, _, _, _, _⟩ :: _) _ _; refine O_ev WideF.wide rfl (Ev_add rfl rfl (wi64 (by omega))) rfl rfl ?_) | (show opsA _ _ _ _ (⟨_, .alloc _, _, _, _, _⟩ :: _) _ _; (refine O_ef rfl (Ef_alloc WideF.wide rfl ?_); intro b)) | (show opsA _ _ _ _ (⟨_, .store _ _ _, _, _, _, _⟩ :: _) _ _; refine O_ef rfl (Ef_storew WideF.wide rfl rfl rfl rfl rfl ?_))) | (show wpA _ _ _ (.cond _ _ _) _ _ _ _; (refine A_if rfl (fun h => ?_) (fun h => ?_) <;> try (exfalso; omega))))
        all_goals first
          | (exfalso; omega)
          | (exfalso; contradiction)
          | (exfalso; exact absurd trivial (by assumption))
          | (exfalso; exact absurd rfl (by assumption))
          | (rw [heq]; exact End_s (Ret1 rfl rfl) (Shift.to (s' := ⟨_, [], _, [.box b3 [.int .i64 w]], [], []⟩) ⟨rfl, rfl, rfl⟩ ⟨rfl, rfl, rfl, trivial, Own.subi [0] (by decide) rfl rfl⟩))
          | trace_state
    · obtain rfl : i = n := by omega
      rw [List.drop_of_length_le (by omega), visL_nil] at heq
      rw [heq]
      repeat' (first | refine O_nil ?_ | refine A_seq ?_ | refine A_region ?_ | refine A_ret ?_ | (show opsA _ _ _ _ _ _ _; refine O_ev WideF.wide rfl (Ev_pure rfl) rfl rfl ?_) | (show wpA _ _ _ (.exit _) _ _ _ _; refine A_exit rfl ?_) | (show wpA _ _ _ (.cond _ _ _) _ _ _ _; (refine A_if rfl (fun h => ?_) (fun h => ?_) <;> try (exfalso; omega))))
      all_goals first
        | (exfalso; omega)
        | (exfalso; contradiction)
        | (exfalso; exact absurd trivial (by assumption))
        | (exfalso; exact absurd rfl (by assumption))
        | exact End_m (Ret1 rfl rfl) ⟨rfl, rfl⟩
        | trace_state
  · rw [if_pos hC]
    refine Fn_of _ _ Tryz.func35 rfl Tryz.ntmps35 rfl fun c => ?_
    repeat' (first | (refine O_ef rfl (Ef_boxa WideF.wide (cs := [.int .i64 x.op, .int .i64 x.num, sv x.text, .slice a n cp]) rfl rfl ?_); intro b9; refine O_freezeBox hone ?_; intro H1 hle1 hc) | (refine O_ef rfl (Ef_call (I := []) WideF.wide (kchk _ hle1) ⟨rfl, trivial⟩ rfl ?_); rintro v2 H2 I2 hle2 ⟨rfl, rfl⟩) | refine O_nil ?_ | refine A_seq ?_ | refine A_region ?_ | refine A_skip ?_ | refine A_ret ?_ | refine A_block ?_ | (show opsA _ _ _ _ _ _ _; first | refine O_ev WideF.wide rfl (Ev_pure rfl) rfl rfl ?_ | (show opsA _ _ _ _ (⟨_, .load _ _, _, _, _, _⟩ :: _) _ _; first | refine O_ev WideF.wide rfl (Ev_loadB1 (i := 0) rfl rfl rfl) rfl rfl ?_ | refine O_ev WideF.wide rfl (Ev_loadH rfl (by assumption) (by rfl)) rfl rfl ?_) | (show opsA _ _ _ _ (⟨_, .binOp _ _ _ _ _, _, _, _, _⟩ :: _) _ _; refine O_ev WideF.wide rfl (Ev_add rfl rfl (wi64 (by omega))) rfl rfl ?_) | (show opsA _ _ _ _ (⟨_, .store _ _ _, _, _, _, _⟩ :: _) _ _; refine O_ef rfl (Ef_store1 WideF.wide rfl rfl rfl rfl rfl ?_))) | (show wpA _ _ _ (.cond _ _ _) _ _ _ _; (refine A_if rfl (fun h => ?_) (fun h => ?_) <;> try (exfalso; omega))))
    all_goals first
      | (exfalso; omega)
      | (exfalso; contradiction)
      | (exfalso; exact absurd trivial (by assumption))
      | (exfalso; exact absurd rfl (by assumption))
      | exact End_m (Ret1 rfl rfl) ⟨rfl, rfl⟩
      | trace_state
theorem vis_all : ∀ N, VisC N
  | 0 => fun H _ x _ _ _ _ _ h => absurd h (by omega)
  | N + 1 => vis_step (vis_all N)
set_option maxRecDepth 100000 in
theorem Check_fn {H : Hp} {cs : List Value} {x : Nd} (hx : NodeH H cs x) (hm : x.mass < 34359738368) : Fn Tryz.prog 14 [.agg cs.toArray] H [] fun v _ I => v = .int .i64 (chkE x) ∧ I = [] := by
  have hone := hx.one
  have hcall := fun Hx (hle : HLe H Hx) b3 b4 h4 => vis_all (x.mass + 1) Hx cs x 0 1 b3 b4 (hx.mono hle) (by omega) hm (by decide) (by decide) (by decide) (by decide) h4
  obtain ⟨a, n, cp, rfl, hs⟩ := hx.cells
  refine Fn_of _ _ Tryz.func14 rfl Tryz.ntmps14 rfl fun c => ?_
  repeat' (first | (refine O_ef rfl (Ef_boxa WideF.wide (cs := [.int .i64 x.op, .int .i64 x.num, sv x.text, .slice a n cp]) rfl rfl ?_); intro b9; refine O_freezeBox hone ?_; intro H1 hle1 hc) | (refine O_ev WideF.wide rfl (Ev_makeFunc (xs := []) (ys := [_, _]) (vs := []) (us := [_, _]) rfl rfl) rfl rfl ?_) | (show wpA _ _ _ (.region 4 _ _) _ _ _ _; refine A_freezeBox (cs := [visF _ _]) (by intro u hu; simp at hu; subst hu; rfl) ?_; intro H3 hle3 hb4; refine A_region ?_) | (refine O_ev WideF.wide rfl (Ev_loadH1 rfl (hb4 0 _ rfl)) rfl rfl ?_) | (refine O_ev WideF.wide rfl (Ev_loadH rfl (hc.mono hle3) rfl) rfl rfl ?_) | (refine O_ef rfl (Ef_callc (I := [_]) (M' := []) (args := [.agg _, .int .i64 1]) (caps := [_, _]) WideF.wide (hcall _ (hle1.trans hle3) _ _ (hb4 0 _ rfl)) rfl ⟨rfl, rfl, trivial⟩ rfl ?_); rintro v5 H5 I5 hle5 ⟨rfl, rfl⟩) | refine O_nil ?_ | refine A_seq ?_ | refine A_region ?_ | refine A_ret ?_ | (show opsA _ _ _ _ _ _ _; first | refine O_ev WideF.wide rfl (Ev_pure rfl) rfl rfl ?_ | (show opsA _ _ _ _ (⟨_, .alloc _, _, _, _, _⟩ :: _) _ _; (refine O_ef rfl (Ef_alloc WideF.wide rfl ?_); intro b)) | (show opsA _ _ _ _ (⟨_, .store _ _ _, _, _, _, _⟩ :: _) _ _; refine O_ef rfl (Ef_store1 WideF.wide rfl rfl rfl rfl rfl ?_))))
  all_goals first
    | (exfalso; omega)
    | (exfalso; contradiction)
    | (exfalso; exact absurd trivial (by assumption))
    | (exfalso; exact absurd rfl (by assumption))
    | exact End_e (Ret1 rfl rfl) ⟨rfl, rfl⟩
    | trace_state
end Go.Proofs.YtnoadopmeoohmaaGreatDoor
