/-
  obeluslaw11: bold, known.
-/
import Derived.Test.YthbnhcgphkghaaaR19
namespace Go.Proofs.Ythbnhcgphkghaaa
open Go
set_option linter.unusedVariables false
set_option linter.unusedSimpArgs false
attribute [local irreducible] wpA opsA drJ drQ drE Ef Ev Shift Fn

set_option maxRecDepth 100000 in
theorem bold_fn {H : Hp} : Fn Try.prog 45 [] H [] fun v H' I' => (∃ pa pn pc, v = .agg [.slice pa pn pc, .int .i64 0, .int .i64 0, .slice none 0 0, .slice none 0 0].toArray ∧ HRow H' pa pn pc 2 [[.int .i64 2, .int .i64 1]]) ∧ I' = [] := by
  refine Fn_of _ _ Try.func45 rfl Try.ntmps45 rfl fun c => ?_
  repeat' (first | refine O_nil ?_ | refine A_seq ?_ | refine A_region ?_ | refine A_ret ?_ | (show opsA _ _ _ _ _ _ _; first | (show opsA _ _ _ _ (⟨_, .buildSlice _ _ _, _, _, _, _⟩ :: _) _ _; (refine O_ef rfl (Ef_build1a WideF.wide rfl rfl rfl rfl rfl ?_); intro b)) | (show opsA _ _ _ _ (⟨_, .build _ _, _, _, _, _⟩ :: _) _ _; first | refine O_ev WideF.wide rfl (Ev_build (vs := [(_, _)]) ⟨rfl, rfl, trivial⟩ rfl) rfl rfl ?_ | refine O_ev WideF.wide rfl (Ev_build (vs := [(_, _), (_, _)]) ⟨rfl, rfl, rfl, rfl, trivial⟩ rfl) rfl rfl ?_) | (show opsA _ _ _ _ (⟨_, .alloc _, _, _, _, _⟩ :: _) _ _; (refine O_ef rfl (Ef_alloc WideF.wide rfl ?_); intro b)) | (show opsA _ _ _ _ (⟨_, .store _ _ _, _, _, _, _⟩ :: _) _ _; refine O_f1 (O_ef rfl (Ef_storew WideF.wide rfl rfl rfl rfl rfl ?_)))))
  refine End_s (RetC rfl rfl (i := 0) rfl rfl) (Shift.lek ⟨4, [], H, [.row (.slice (some ⟨_, 0, none⟩) 1 1) 2 [[.int .i64 2, .int .i64 1]]], [], []⟩ ⟨rfl, rfl, rfl, trivial, Own.subi [1] (by decide) rfl rfl⟩ (Shift_freeze (by intro cs hcs u hu; simp at hcs; subst hcs; simp at hu; rcases hu with rfl | rfl <;> rfl) fun H3 hle3 hr3 => Shift.pure ⟨rfl, ⟨_, _, _, rfl, hr3⟩, rfl⟩))

theorem kItemH (H : Hp) (k : Int) (t : List UInt8) (c : Int) : ItemH H [.int .i64 k, .int .i64 c, .int .i64 0, sv t, .slice none 0 0, .int .i64 0, .int .i64 0, .slice none 0 0, .slice none 0 0, .slice none 0 0, .slice none 0 0] (.mk k c 0 t hd0 [] []) :=
  ItemH.of (x := .mk k c 0 t hd0 [] []) (HRow.nil' H 2) (HRow.nil' H 2) (HRow.nil' H 4) (FlowH.nil H) ⟨[], HRow.nil' H 6, .nil⟩
theorem bItemH {H : Hp} {pa : Option Addr} {pn pc : Nat} (t : List UInt8) (h : HRow H pa pn pc 2 [[.int .i64 2, .int .i64 1]]) : ItemH H [.int .i64 1, .int .i64 0, .int .i64 0, sv t, .slice pa pn pc, .int .i64 0, .int .i64 0, .slice none 0 0, .slice none 0 0, .slice none 0 0, .slice none 0 0] (.mk 1 0 0 t hdB [] []) :=
  ItemH.of (x := .mk 1 0 0 t hdB [] []) h (HRow.nil' H 2) (HRow.nil' H 4) (FlowH.nil H) ⟨[], HRow.nil' H 6, .nil⟩
theorem ones_of {css : List (List Value)} (h : (css.all fun cs => cs.all (·.oneCell')) = true) : ∀ cs ∈ css, ∀ u ∈ cs, u.oneCell' = true := fun cs hcs => List.all_eq_true.1 (List.all_eq_true.1 h cs hcs)
theorem FlowH.nil_inv {H : Hp} {a : Option Addr} {n c : Nat} (h : FlowH H a n c []) : n = 0 := h.len.symm
theorem mass_k1 : massL k1 < 1000 ∧ massL k2 < 1000 := by
  constructor
  · simp [k1, kItem, massL, Item.mass, massR, Head.mass, hd0, hdB]
  · simp [k2, kItem, massL, Item.mass, massR, Head.mass, hd0]
set_option maxHeartbeats 1000000 in
set_option maxRecDepth 100000 in
theorem known_fn {H : Hp} : Fn Try.prog 14 [] H [] fun v H' I' => v = .bool true ∧ I' = [] := by
  obtain ⟨m1, m2⟩ := mass_k1
  refine Fn_of _ _ Try.func14 rfl Try.ntmps14 rfl fun c => ?_
  have e4 : lenV k1 = 4 := by unfold lenV; rw [if_pos k1_ok, usum_k1]
  have e5 : lenE k1 = 0 := by unfold lenE; rw [if_pos k1_ok]
  repeat' (first | (refine O_ef rfl (Ef_call (I := []) WideF.wide bold_fn trivial rfl ?_); rintro v H1 I1 hle1 ⟨⟨pa, pn, pc, rfl, hb⟩, rfl⟩) | (refine O_ef rfl (Ef_buildn WideF.wide (xs := [_, _, _]) (vs := [.agg [_, _, _, _, _, _, _, _, _, _, _].toArray, .agg [_, _, _, _, _, _, _, _, _, _, _].toArray, .agg [_, _, _, _, _, _, _, _, _, _, _].toArray]) rfl ⟨rfl, rfl, rfl, trivial⟩ rfl rfl rfl rfl rfl rfl ?_); intro bl; refine O_freeze (ones_of rfl) ?_; intro H2 hle2 hr2; have hk1 : FlowH H2 (some ⟨bl, 0, none⟩) 3 3 k1 := ⟨_, hr2, .cons (kItemH H2 1 [97, 98] 0) (.cons (bItemH [99] (hb.mono hle2)) (.cons (kItemH H2 2 [] 0) .nil))⟩; have hL1 := Len_fn hk1 (by omega); rw [e4, e5] at hL1) | (refine O_ef rfl (Ef_callp WideF.wide hL1 ⟨rfl, trivial⟩ rfl ?_)) | (refine O_ef rfl (Ef_call (I := []) WideF.wide (Index_fn hk1 (at_ := 2) (by omega) (by omega)) ⟨rfl, rfl, trivial⟩ rfl ?_); rintro v H3 I3 hle3 ⟨hix, rfl⟩; obtain rfl := k1_idx hix) | (refine O_ef rfl (Ef_call (I := []) WideF.wide (Split_fn (at_ := 1) (hk1.mono hle3) (by omega)) ⟨rfl, rfl, trivial⟩ rfl ?_); rintro v H4 I4 hle4 ⟨⟨la, ln, lc, ra, rn, rc, rfl, hL, hR⟩, rfl⟩; rw [k1_rng, if_pos rfl, k1_nl] at hL; rw [k1_rng, if_pos rfl, k1_nr] at hR; rw [k1_rng]) | (refine O_ef rfl (Ef_buildn WideF.wide (xs := [_, _, _, _]) (vs := [.agg [_, _, _, _, _, _, _, _, _, _, _].toArray, .agg [_, _, _, _, _, _, _, _, _, _, _].toArray, .agg [_, _, _, _, _, _, _, _, _, _, _].toArray, .agg [_, _, _, _, _, _, _, _, _, _, _].toArray]) rfl ⟨rfl, rfl, rfl, rfl, trivial⟩ rfl rfl rfl rfl rfl rfl ?_); intro bm; refine O_freeze (ones_of rfl) ?_; intro H5 hle5 hr5; have hk2 : FlowH H5 (some ⟨bm, 0, none⟩) 4 4 k2 := ⟨_, hr5, .cons (kItemH H5 1 [97] 0) (.cons (kItemH H5 4 [] 3) (.cons (kItemH H5 6 [] 0) (.cons (kItemH H5 2 [] 0) .nil)))⟩; have hT := Text_fn hk2 (by omega); rw [k2_text] at hT; have hL5 := hL.mono hle5; have hR5 := hR.mono hle5; obtain rfl : ln = 1 := hL.len.symm; obtain rfl : rn = 3 := hR.len.symm; obtain ⟨ab, ao, acs, ax, rfl, hax, haxc, hak, hac⟩ := hL5.at 0 (by omega); obtain ⟨bb, bo, bcs, bx, rfl, hbx, hbxc, hbk, hbc⟩ := hR5.at 0 (by omega); obtain rfl : kItem 1 [97] = ax := Option.some.inj hax; obtain rfl : kItem 1 [98] = bx := Option.some.inj hbx; obtain ⟨_, _, _, _, _, _, _, _, _, _, _, _, _, _, _, rfl, _⟩ := haxc.cells; obtain ⟨_, _, _, _, _, _, _, _, _, _, _, _, _, _, _, rfl, _⟩ := hbxc.cells; have hEq := Equal_fn hL5 hR5 (by show massL [kItem 1 [97]] < _; simp [kItem, massL, Item.mass, massR, Head.mass, hd0])) | (refine O_ev WideF.wide rfl (Ev_loadH1 rfl (hac 3 _ rfl)) rfl rfl ?_) | (refine O_ev WideF.wide rfl (Ev_loadH1 rfl (hbc 3 _ rfl)) rfl rfl ?_) | (refine O_ef rfl (Ef_callp WideF.wide hEq ⟨rfl, rfl, trivial⟩ rfl ?_)) | (refine O_ef rfl (Ef_callp WideF.wide hT ⟨rfl, trivial⟩ rfl ?_)) | refine O_nil ?_ | refine A_seq ?_ | refine A_region ?_ | refine A_ret ?_ | (show opsA _ _ _ _ _ _ _; first | (refine O_split rfl rfl (fun h => ?_) (fun h => ?_) <;> try (exfalso; omega)) | refine O_ev WideF.wide rfl (Ev_pure rfl) rfl rfl ?_ | (show opsA _ _ _ _ (⟨_, .indexAddr _ _ _, _, _, _, _⟩ :: _) _ _; refine O_ev WideF.wide rfl (Ev_indexAddr rfl rfl (by omega) (by omega)) rfl rfl ?_) | (show opsA _ _ _ _ (⟨_, .fieldAddr _ _ _, _, _, _, _⟩ :: _) _ _; refine O_ev WideF.wide rfl (Ev_fieldAddr rfl rfl rfl) rfl rfl ?_) | (show opsA _ _ _ _ (⟨_, .call _, _, _, _, _⟩ :: _) _ _; refine O_ev WideF.wide rfl (Ev_llen rfl) rfl rfl ?_) | (show opsA _ _ _ _ (⟨_, .binOp _ _ _ _ _, _, _, _, _⟩ :: _) _ _; refine O_ev WideF.wide rfl (Ev_seql rfl rfl) rfl rfl ?_) | (show opsA _ _ _ _ (⟨_, .unOp _ _ _, _, _, _, _⟩ :: _) _ _; refine O_ev WideF.wide rfl (Ev_not rfl) rfl rfl ?_) | (show opsA _ _ _ _ (⟨_, .build _ _, _, _, _, _⟩ :: _) _ _; first | refine O_ev WideF.wide rfl (Ev_build (vs := [(_, _)]) ⟨rfl, rfl, trivial⟩ rfl) rfl rfl ?_ | refine O_ev WideF.wide rfl (Ev_build (vs := [(_, _), (_, _)]) ⟨rfl, rfl, rfl, rfl, trivial⟩ rfl) rfl rfl ?_ | refine O_ev WideF.wide rfl (Ev_build (vs := [(_, _), (_, _), (_, _)]) ⟨rfl, rfl, rfl, rfl, rfl, rfl, trivial⟩ rfl) rfl rfl ?_) | refine O_skip WideF.wide rfl rfl rfl ?_))
  · refine End_e (Ret1 rfl rfl) ⟨?_, rfl⟩
    rw [decide_eq_true]
    intro h
    have := congrArg List.length h
    simp at this
  all_goals exact absurd rfl (by assumption)
end Go.Proofs.Ythbnhcgphkghaaa
