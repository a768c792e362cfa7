/-
  The law RunEquals.
-/
import Derived.Test.YthbnhcgphkghaaaR20
namespace Go.Proofs.Ythbnhcgphkghaaa
open Go
set_option linter.unusedVariables false
set_option linter.unusedSimpArgs false
theorem Ev_nebs {P : Program} {e : Env} {H : Hp} {R : Own} {dst : Option Tmp} {ty : TypeId} {pos : String} {after : Array Edge} {g : Option (Nat × Bool)} {x y : Operand} {t t2 : TypeId} [ht : UndC P t .bool] {b : Bool} (hx : e.eval x = some (.bool b)) (hy : e.eval y = some (.bool b)) : Ev P ⟨dst, .binOp .neq t x y t2, ty, pos, after, g⟩ e H R (.bool false) := by
  have h := Ev_neb (P := P) (H := H) (R := R) (dst := dst) (ty := ty) (pos := pos) (after := after) (g := g) (t := t) (t2 := t2) hx hy
  have hb : (!(b == b)) = false := by cases b <;> rfl
  rwa [hb] at h
attribute [local irreducible] wpA opsA drJ drQ drE Ef Ev Shift Fn

abbrev reSt (H : Hp) (a : Option Addr) (n c : Nat) (a' : Option Addr) (n' c' : Nat) (i : Nat) : Sta := ⟨94, [(0, .slice a n c), (1, .slice a' n' c'), (5, .int .i64 i)], H, [], [], []⟩
set_option maxHeartbeats 2000000 in
set_option maxRecDepth 100000 in
theorem RunEquals_fn {H : Hp} {a : Option Addr} {n cq : Nat} {a' : Option Addr} {n' cq' : Nat} {l l' : List Item} (hx0 : FlowH H a n cq l) (hx0' : FlowH H a' n' cq' l') (hm : massL l < 34359738368) (hm' : massL l' < 34359738368) :
    Fn Try.prog 5 [.slice a n cq, .slice a' n' cq'] H [] fun v _ I' => v = .bool true ∧ I' = [] := by
  have hn := hx0.len
  have hn' := hx0'.len
  have hml := massL_len l
  have hml' := massL_len l'
  have hdc : decide (l' = l) = decide (l = l') := decide_eq_decide.2 eq_comm
  have hds : decide (l = l) = true := decide_eq_true rfl
  refine Fn_of _ _ Try.func5 rfl Try.ntmps5 rfl fun c => ?_
  repeat' (first | (refine O_ef rfl (Ef_call (I := []) WideF.wide known_fn trivial rfl ?_); rintro v H1 I1 hle1 ⟨rfl, rfl⟩) | (refine O_ef rfl (Ef_buildn WideF.wide (xs := [_, _]) (vs := [.slice _ _ _, .slice _ _ _]) rfl ⟨rfl, rfl, trivial⟩ rfl rfl rfl rfl rfl rfl ?_); intro bl; refine O_freeze (ones_of rfl) ?_; intro H2 hle2 hr2; have hx := hx0.mono (hle1.trans hle2); have hx' := hx0'.mono (hle1.trans hle2); have hsm := Small_fn (ls := [l, l']) hr2 (.cons hx (.cons hx' .nil)) (by intro y hy; simp at hy; rcases hy with rfl | rfl <;> omega) (by omega); have e1 := Equal_fn hx hx' (by omega); have e2 := rEqual_fn hx hx' (by omega); have e3 := Equal_fn hx' hx (by omega); rw [hdc] at e3; have e4 := Equal_fn hx hx (by omega); rw [hds] at e4) | (refine O_ef rfl (Ef_call (I := []) WideF.wide hsm ⟨rfl, trivial⟩ rfl ?_); rintro v H3 I3 hle3 ⟨⟨sb, rfl⟩, rfl, rfl⟩; cases sb) | (refine O_ef rfl (Ef_callp WideF.wide e1 ⟨rfl, rfl, trivial⟩ rfl ?_)) | (refine O_ef rfl (Ef_callp WideF.wide e2 ⟨rfl, rfl, trivial⟩ rfl ?_)) | (refine O_ef rfl (Ef_callp WideF.wide e3 ⟨rfl, rfl, trivial⟩ rfl ?_)) | (refine O_ef rfl (Ef_callp WideF.wide e4 ⟨rfl, rfl, trivial⟩ rfl ?_)) | (refine O_ev WideF.wide rfl (Ev_nebs rfl rfl) rfl rfl ?_) | refine O_nil ?_ | refine A_seq ?_ | refine A_region ?_ | refine A_skip ?_ | refine A_ret ?_ | refine A_block ?_ | (show opsA _ _ _ _ _ _ _; first | refine O_ev WideF.wide rfl (Ev_pure rfl) rfl rfl ?_ | (show opsA _ _ _ _ (⟨_, .unOp _ _ _, _, _, _, _⟩ :: _) _ _; refine O_ev WideF.wide rfl (Ev_notb rfl) rfl rfl ?_)) | (show wpA _ _ _ (.cond _ _ _) _ _ _ _; first | refine A_iftrue rfl ?_ | refine A_iffalse rfl ?_))
  · exact End_e (Ret1 rfl rfl) ⟨rfl, rfl⟩
  · refine A_loopu (fun m s => ∃ i : Nat, m = n - i ∧ i ≤ n ∧ i ≤ n' ∧ s = reSt H3 a n cq a' n' cq' i) ?_ ?_
    · exact Shift.to ⟨_, 0, rfl, by omega, by omega, rfl⟩ ⟨rfl, rfl, rfl, ⟨rfl, rfl, rfl, trivial⟩, Own.sub_nil _⟩
    · rintro m s ⟨i, rfl, hi, hi', rfl⟩
      by_cases hlt : i < n ∧ i < n'
      · obtain ⟨h1, h2⟩ := hlt
        obtain ⟨b, o, cs, x, rfl, hxi, hxc, hk, hc⟩ := hx.at i h1
        obtain ⟨b', o', cs', x', rfl, hxi', hxc', hk', hc'⟩ := hx'.at i h2
        have hm1 := massL_mem hxi
        have hm2 := massL_mem hxi'
        have f1 := EqualItem_fn (Equal_ih (massL l) (by omega)) hxc hxc' (by omega) (by omega)
        have f2 := rEqualItem_fn (rEqual_ih (massL l) (by omega)) hxc hxc' (by omega) (by omega)
        obtain ⟨pa, pn, pc, da, dn, dc, la, ln, lc, fa, fn, fc, ra, rn, rc, rfl, y1, y2, y3, _⟩ := hxc.cells
        obtain ⟨pa', pn', pc', da', dn', dc', la', ln', lc', fa', fn', fc', ra', rn', rc', rfl, z1, z2, z3, _⟩ := hxc'.cells
        have hh : HeadH H3 [.slice pa pn pc, .int .i64 x.head.ins, .int .i64 x.head.move, .slice da dn dc, .slice la ln lc] x.head := ⟨_, _, _, _, _, _, _, _, _, rfl, y1, y2, y3⟩
        have hh' : HeadH H3 [.slice pa' pn' pc', .int .i64 x'.head.ins, .int .i64 x'.head.move, .slice da' dn' dc', .slice la' ln' lc'] x'.head := ⟨_, _, _, _, _, _, _, _, _, rfl, z1, z2, z3⟩
        have f3 := EqualHead_fn hh hh' (by omega)
        have f4 := rEqualHead_fn hh hh' (by omega)
        have hc4 := hc.sub 4 5
        have hc4' := hc'.sub 4 5
        repeat' (first | (refine A_drawi WideF.wide (.q 0 (.q 1 (.q 2 (.q 3 (.q 4 (.q 5 (.q 6 (.q 7 (.q 9 (.q 10 (.q 11 (.q 12 (.q 13 (.q 14 (.q 15 (.q 16 (.e 8 (.e 17 (.q 18 (.q 19 (.q 20 (.q 21 (.q 22 (.q 23 (.q 24 (.q 25 (.q 26 (.q 27 (.q 28 (.q 29 (.q 31 (.q 32 (.q 33 (.q 34 (.q 35 (.q 36 (.q 37 (.q 38 (.q 39 (.q 40 (.e 30 (.e 41 (.q 42 (.q 43 (.done []))))))))))))))))))))))))))))))))))))))))))))) [] [] [] (by decide +kernel) (by decide) rfl ?_; simp only [Own.picks, Own.rget, List.cons_append, List.nil_append, List.append_nil]) | (refine D_ev rfl (Ev_loadH rfl (by assumption) (by rfl)) rfl rfl ?_) | (refine E_ef rfl (Ef_callp WideF.wide f1 ⟨rfl, rfl, trivial⟩ rfl ?_); refine ⟨Grow.same rfl rfl, ?_⟩) | (refine E_ef rfl (Ef_callp WideF.wide f2 ⟨rfl, rfl, trivial⟩ rfl ?_); refine ⟨Grow.same rfl rfl, ?_⟩) | (refine E_ef rfl (Ef_callp WideF.wide f3 ⟨rfl, rfl, trivial⟩ rfl ?_); refine ⟨Grow.same rfl rfl, ?_⟩) | (refine E_ef rfl (Ef_callp WideF.wide f4 ⟨rfl, rfl, trivial⟩ rfl ?_); refine ⟨Grow.same rfl rfl, ?_⟩) | (refine D_ev rfl (Ev_nebs rfl rfl) rfl rfl ?_) | refine O_nil ?_ | refine A_seq ?_ | refine A_region ?_ | refine A_skip ?_ | refine A_block ?_ | (show drJ _ _ _ _ _ _ _ (.q _ _) _; refine D_q rfl ?_) | (show drJ _ _ _ _ _ _ _ (.e _ _) _; refine D_e rfl ?_) | (show drJ _ _ _ _ _ _ _ (.done _) _; refine D_done ?_; simp only [List.cons_append, List.nil_append]) | (show drQ _ _ _ _ _ _; first | refine D_ev rfl (Ev_pure rfl) rfl rfl ?_ | (show drQ _ _ _ ⟨_, .indexAddr _ _ _, _, _, _, _⟩ _ _; refine D_ev rfl (Ev_indexAddr rfl rfl (by omega) (by omega)) rfl rfl ?_) | (show drQ _ _ _ ⟨_, .fieldAddr _ _ _, _, _, _, _⟩ _ _; refine D_ev rfl (Ev_fieldAddr rfl rfl rfl) rfl rfl ?_)) | (show opsA _ _ _ _ _ _ _; first | (refine O_split rfl rfl (fun h => ?_) (fun h => ?_) <;> try (exfalso; omega)) | refine O_ev WideF.wide rfl (Ev_pure rfl) rfl rfl ?_ | (show opsA _ _ _ _ (⟨_, .call _, _, _, _, _⟩ :: _) _ _; refine O_ev WideF.wide rfl (Ev_llen rfl) rfl rfl ?_) | (show opsA _ _ _ _ (⟨_, .binOp _ _ _ _ _, _, _, _, _⟩ :: _) _ _; refine O_ev WideF.wide rfl (Ev_add rfl rfl (wi64 (by omega))) rfl rfl ?_)) | (show wpA _ _ _ (.cond _ _ _) _ _ _ _; first | (refine A_if rfl (fun h => ?_) (fun h => ?_) <;> try (exfalso; omega)) | refine A_iffalse rfl ?_))
        refine Shift.to ⟨_, ?_, i + 1, rfl, by omega, by omega, rfl⟩ ⟨rfl, rfl, rfl, ⟨rfl, rfl, rfl, trivial⟩, Own.sub_nil _⟩
        omega
      · repeat' (first | refine O_nil ?_ | refine A_seq ?_ | refine A_region ?_ | refine A_ret ?_ | (show opsA _ _ _ _ _ _ _; first | (refine O_split rfl rfl (fun h => ?_) (fun h => ?_) <;> try (exfalso; omega)) | refine O_ev WideF.wide rfl (Ev_pure rfl) rfl rfl ?_ | (show opsA _ _ _ _ (⟨_, .call _, _, _, _, _⟩ :: _) _ _; refine O_ev WideF.wide rfl (Ev_llen rfl) rfl rfl ?_) | refine O_skip WideF.wide rfl rfl rfl ?_) | (show wpA _ _ _ (.exit _) _ _ _ _; refine A_exit rfl ?_) | (show wpA _ _ _ (.cond _ _ _) _ _ _ _; first | (refine A_if rfl (fun h => ?_) (fun h => ?_) <;> try (exfalso; omega)) | refine A_iffalse rfl ?_))
        all_goals exact End_e (Ret1 rfl rfl) ⟨rfl, rfl⟩
end Go.Proofs.Ythbnhcgphkghaaa
