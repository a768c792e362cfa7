/-
  run: EqualCell, EqualRow, EqualItem, Equal.
-/
import Derived.Test.YtofkolbnhcckkaaGreatR10
namespace Go.Proofs.YtofkolbnhcckkaaGreat
open Go
set_option linter.unusedVariables false
set_option linter.unusedSimpArgs false
attribute [local irreducible] wpA opsA drJ drQ drE Ef Ev Shift Fn

set_option maxRecDepth 100000 in
theorem EqualCell_fn {H : Hp} {N : Nat} (ih : EqF 39 H N) {cs cs' : List Value} {x x' : Cell} (hx : CellH H cs x) (hx' : CellH H cs' x') (hm : x.2.1.mass + massL x.2.2 < N) (hN : N < 68719476736) :
    FnP Tryz.prog 43 [.agg cs.toArray, .agg cs'.toArray] H (.bool (decide (x = x'))) := by
  obtain ⟨pa, pn, pc, da, dn, dc, la, ln, lc, fa, fn, fc, rfl, hp, hd, hl, hf⟩ := hx.cells
  obtain ⟨pa', pn', pc', da', dn', dc', la', ln', lc', fa', fn', fc', rfl, hp', hd', hl', hf'⟩ := hx'.cells
  have hh := EqualHead_fn (HeadH.of hp hd hl) (HeadH.of hp' hd' hl') (by omega)
  have he := ih hf hf' (by omega)
  refine Fn_of _ _ Tryz.func43 rfl Tryz.ntmps43 rfl fun c => ?_
  repeat' (first | (refine O_ef rfl (Ef_callp WideF.wide hh ⟨rfl, rfl, trivial⟩ rfl ?_)) | (refine O_ef rfl (Ef_callp WideF.wide he ⟨rfl, rfl, trivial⟩ rfl ?_)) | refine O_nil ?_ | refine A_seq ?_ | refine A_region ?_ | refine A_ret ?_ | (show opsA _ _ _ _ _ _ _; first | (refine O_split rfl rfl (fun h => ?_) (fun h => ?_) <;> try (exfalso; omega)) | refine O_ev WideF.wide rfl (Ev_pure rfl) rfl rfl ?_ | (show opsA _ _ _ _ (⟨_, .load _ _, _, _, _, _⟩ :: _) _ _; first | refine O_ev WideF.wide rfl (Ev_loadB1 (i := 0) rfl rfl rfl) rfl rfl ?_ | refine O_ev WideF.wide rfl (Ev_loadB1 (i := 1) rfl rfl rfl) rfl rfl ?_ | refine O_ev WideF.wide rfl (Ev_loadBs (i := 0) rfl rfl rfl rfl) rfl rfl ?_ | refine O_ev WideF.wide rfl (Ev_loadBs (i := 1) rfl rfl rfl rfl) rfl rfl ?_) | (show opsA _ _ _ _ (⟨_, .fieldAddr _ _ _, _, _, _, _⟩ :: _) _ _; refine O_ev WideF.wide rfl (Ev_fieldAddr rfl rfl rfl) rfl rfl ?_) | (show opsA _ _ _ _ (⟨_, .box _ _, _, _, _, _⟩ :: _) _ _; (refine O_ef rfl (Ef_boxa WideF.wide rfl rfl ?_); intro b)) | refine O_skip WideF.wide rfl rfl rfl ?_))
  all_goals ((refine End_p (Ret1 rfl rfl) ?_); refine congrArg Value.bool ?_; rw [Bool.eq_iff_iff]; simp [Prod.ext_iff, *])
set_option maxRecDepth 100000 in
theorem EqualRow_fn {H : Hp} {N : Nat} (ih : EqF 39 H N) {cs cs' : List Value} {x x' : Row} (hx : RowH H cs x) (hx' : RowH H cs' x') (hm : x.1.mass + massC x.2 < N) (hN : N < 68719476736) :
    FnP Tryz.prog 41 [.agg cs.toArray, .agg cs'.toArray] H (.bool (decide (x = x'))) := by
  obtain ⟨pa, pn, pc, da, dn, dc, la, ln, lc, fa, fn, fc, rfl, hp, hd, hl, hf⟩ := hx.cells
  obtain ⟨pa', pn', pc', da', dn', dc', la', ln', lc', fa', fn', fc', rfl, hp', hd', hl', hf'⟩ := hx'.cells
  have hh := EqualHead_fn (HeadH.of hp hd hl) (HeadH.of hp' hd' hl') (by omega)
  have hcl := massC_len x.2
  have hfn := hf.len
  have he := sEqualFuncCell_fn hf hf' (by omega) fun hy h1 h2 => EqualCell_fn ih h1 h2 (by have := massC_mem hy; omega) hN
  refine Fn_of _ _ Tryz.func41 rfl Tryz.ntmps41 rfl fun c => ?_
  repeat' (first | (refine O_ef rfl (Ef_callp WideF.wide hh ⟨rfl, rfl, trivial⟩ rfl ?_)) | (refine O_ef rfl (Ef_callp WideF.wide he ⟨rfl, rfl, rfl, trivial⟩ rfl ?_)) | refine O_nil ?_ | refine A_seq ?_ | refine A_region ?_ | refine A_ret ?_ | (show opsA _ _ _ _ _ _ _; first | (refine O_split rfl rfl (fun h => ?_) (fun h => ?_) <;> try (exfalso; omega)) | refine O_ev WideF.wide rfl (Ev_pure rfl) rfl rfl ?_ | (show opsA _ _ _ _ (⟨_, .load _ _, _, _, _, _⟩ :: _) _ _; first | refine O_ev WideF.wide rfl (Ev_loadB1 (i := 0) rfl rfl rfl) rfl rfl ?_ | refine O_ev WideF.wide rfl (Ev_loadB1 (i := 1) rfl rfl rfl) rfl rfl ?_ | refine O_ev WideF.wide rfl (Ev_loadBs (i := 0) rfl rfl rfl rfl) rfl rfl ?_ | refine O_ev WideF.wide rfl (Ev_loadBs (i := 1) rfl rfl rfl rfl) rfl rfl ?_) | (show opsA _ _ _ _ (⟨_, .fieldAddr _ _ _, _, _, _, _⟩ :: _) _ _; refine O_ev WideF.wide rfl (Ev_fieldAddr rfl rfl rfl) rfl rfl ?_) | (show opsA _ _ _ _ (⟨_, .box _ _, _, _, _, _⟩ :: _) _ _; (refine O_ef rfl (Ef_boxa WideF.wide rfl rfl ?_); intro b)) | refine O_skip WideF.wide rfl rfl rfl ?_))
  all_goals ((refine End_p (Ret1 rfl rfl) ?_); refine congrArg Value.bool ?_; rw [Bool.eq_iff_iff]; simp [Prod.ext_iff, *])
set_option maxRecDepth 100000 in
set_option maxHeartbeats 1000000 in
theorem EqualItem_fn {H : Hp} {N : Nat} (ih : EqF 39 H N) {cs cs' : List Value} {x x' : Item} (hx : ItemH H cs x) (hx' : ItemH H cs' x') (hm : x.head.mass + massL x.flow + massR x.rows < N) (hN : N < 68719476736) :
    FnP Tryz.prog 67 [.agg cs.toArray, .agg cs'.toArray] H (.bool (decide (x = x'))) := by
  obtain ⟨pa, pn, pc, da, dn, dc, la, ln, lc, ga, gn, gc, fa, fn, fc, rfl, hp, hd, hl, hg, hf⟩ := hx.cells
  obtain ⟨pa', pn', pc', da', dn', dc', la', ln', lc', ga', gn', gc', fa', fn', fc', rfl, hp', hd', hl', hg', hf'⟩ := hx'.cells
  have hh := EqualHead_fn (HeadH.of hp hd hl) (HeadH.of hp' hd' hl') (by omega)
  have hcl := massR_len x.rows
  have hfn := hf.len
  have hflow := ih hg hg' (by omega)
  have he := sEqualFuncRow_fn hf hf' (by omega) fun hy h1 h2 => EqualRow_fn ih h1 h2 (by have := massR_mem hy; omega) hN
  refine Fn_of _ _ Tryz.func67 rfl Tryz.ntmps67 rfl fun c => ?_
  repeat' (first | (refine O_ef rfl (Ef_callp WideF.wide hh ⟨rfl, rfl, trivial⟩ rfl ?_)) | (refine O_ef rfl (Ef_callp WideF.wide hflow ⟨rfl, rfl, trivial⟩ rfl ?_)) | (refine O_ef rfl (Ef_callp WideF.wide he ⟨rfl, rfl, rfl, trivial⟩ rfl ?_)) | refine O_nil ?_ | refine A_seq ?_ | refine A_region ?_ | refine A_ret ?_ | (show opsA _ _ _ _ _ _ _; first | (refine O_split rfl rfl (fun h => ?_) (fun h => ?_) <;> try (exfalso; omega)) | refine O_ev WideF.wide rfl (Ev_pure rfl) rfl rfl ?_ | (show opsA _ _ _ _ (⟨_, .load _ _, _, _, _, _⟩ :: _) _ _; first | refine O_ev WideF.wide rfl (Ev_loadB1 (i := 0) rfl rfl rfl) rfl rfl ?_ | refine O_ev WideF.wide rfl (Ev_loadB1 (i := 1) rfl rfl rfl) rfl rfl ?_ | refine O_ev WideF.wide rfl (Ev_loadBs (i := 0) rfl rfl rfl rfl) rfl rfl ?_ | refine O_ev WideF.wide rfl (Ev_loadBs (i := 1) rfl rfl rfl rfl) rfl rfl ?_) | (show opsA _ _ _ _ (⟨_, .fieldAddr _ _ _, _, _, _, _⟩ :: _) _ _; refine O_ev WideF.wide rfl (Ev_fieldAddr rfl rfl rfl) rfl rfl ?_) | (show opsA _ _ _ _ (⟨_, .binOp _ _ _ _ _, _, _, _, _⟩ :: _) _ _; refine O_ev WideF.wide rfl (Ev_seql rfl rfl) rfl rfl ?_) | (show opsA _ _ _ _ (⟨_, .box _ _, _, _, _, _⟩ :: _) _ _; (refine O_ef rfl (Ef_boxa WideF.wide rfl rfl ?_); intro b)) | refine O_skip WideF.wide rfl rfl rfl ?_))
  all_goals ((refine End_p (Ret1 rfl rfl) ?_); refine congrArg Value.bool ?_; rw [Bool.eq_iff_iff]; simp [Item.ext_iff' x x', *])
set_option maxRecDepth 100000 in
theorem Equal_ih {H : Hp} : ∀ N : Nat, N < 68719476736 → EqF 39 H N := by
  intro N
  induction N with
  | zero => intro _ a n c a' n' c' l l' _ _ h; exact absurd h (by omega)
  | succ N ih =>
    intro hN a n cq a' n' cq' l l' hx hx' hm
    have ih : EqF 39 H N := @ih (by omega)
    have hfn := hx.len
    have hcl := massL_len l
    have he := sEqualFuncItem_fn hx hx' (by omega) fun hy h1 h2 => EqualItem_fn ih h1 h2 (by have := massL_mem hy; omega) (by omega)
    refine Fn_of _ _ Tryz.func39 rfl Tryz.ntmps39 rfl fun c => ?_
    repeat' (first | (refine O_ef rfl (Ef_callp WideF.wide he ⟨rfl, rfl, rfl, trivial⟩ rfl ?_)) | refine O_nil ?_ | refine A_seq ?_ | refine A_region ?_ | refine A_ret ?_ | (show opsA _ _ _ _ _ _ _; refine O_ev WideF.wide rfl (Ev_pure rfl) rfl rfl ?_))
    (refine End_p (Ret1 rfl rfl) ?_)
    rfl
theorem Equal_fn {H : Hp} {a : Option Addr} {n c : Nat} {a' : Option Addr} {n' c' : Nat} {l l' : List Item} (hx : FlowH H a n c l) (hx' : FlowH H a' n' c' l') (hm : massL l < 68719476735) : FnP Tryz.prog 39 [.slice a n c, .slice a' n' c'] H (.bool (decide (l = l'))) :=
  Equal_ih (massL l + 1) (by omega) hx hx' (by omega)
end Go.Proofs.YtofkolbnhcckkaaGreat
