import Derived.Test.YtnoadopmeoohmaaGreatDoorZ21
import Derived.Test.YtnoadopmeoohmaaGreatDoorZ22
/-
  How operations are written. Printed by genF27.py.
  Texts of expressions as data. Printed by genF29.py.
-/
namespace Go.Proofs.YtnoadopmeoohmaaGreatDoor
open Go
set_option linter.unusedVariables false
set_option linter.unusedSimpArgs false
section
attribute [local irreducible] wpA opsA drJ drQ drE Ef Ev Shift Fn
theorem words_fill : ([((6 : Nat), (sv [111, 114] : Value)), ((7 : Nat), (sv [97, 110, 100] : Value)), ((9 : Nat), (sv [61] : Value)), ((10 : Nat), (sv [60, 62] : Value)), ((11 : Nat), (sv [60] : Value)), ((12 : Nat), (sv [60, 61] : Value)), ((13 : Nat), (sv [62] : Value)), ((14 : Nat), (sv [62, 61] : Value)), ((15 : Nat), (sv [43] : Value)), ((16 : Nat), (sv [45] : Value)), ((17 : Nat), (sv [38] : Value)), ((18 : Nat), (sv [42] : Value)), ((19 : Nat), (sv [47] : Value)), ((20 : Nat), (sv [37] : Value))] : List (Nat × Value)).foldl (fun cs p => cs.set p.1 p.2) (List.replicate 21 (sv [])) = wordL.map fun w => sv w := by kernel_rfl
theorem words_ok : (([((6 : Nat), (sv [111, 114] : Value)), ((7 : Nat), (sv [97, 110, 100] : Value)), ((9 : Nat), (sv [61] : Value)), ((10 : Nat), (sv [60, 62] : Value)), ((11 : Nat), (sv [60] : Value)), ((12 : Nat), (sv [60, 61] : Value)), ((13 : Nat), (sv [62] : Value)), ((14 : Nat), (sv [62, 61] : Value)), ((15 : Nat), (sv [43] : Value)), ((16 : Nat), (sv [45] : Value)), ((17 : Nat), (sv [38] : Value)), ((18 : Nat), (sv [42] : Value)), ((19 : Nat), (sv [47] : Value)), ((20 : Nat), (sv [37] : Value))] : List (Nat × Value)).all fun p => p.2.oneCell' && Nat.blt p.1 21) = true := by kernel_rfl
theorem words_one : ((wordL.map fun w => sv w).all fun v => v.oneCell') = true := by kernel_rfl
set_option maxRecDepth 100000 in
set_option maxHeartbeats 800000 in
theorem styles_fn {H : Hp} {op : Int} (h0 : 0 ≤ op) : Fn Tryz.prog 89 [.int .i64 op] H [] fun v _ I => v = .agg (rSt (stl op)).toArray ∧ I = [] := by
  have hw : ∀ {H' : Hp} {b : Nat}, HRow H' (some ⟨b, 0, none⟩) 21 21 1 (wordL.map fun w => [sv w]) → op ≤ 20 → H' b (0 + op.toNat * 1) = some (sv (wordL.getD op.toNat [])) := fun hr ho => by
    obtain ⟨b', o', x, heq, hx, hc⟩ := hr.atm op.toNat (by omega)
    cases heq
    have e : wordL.getD op.toNat [] = x := by simp [List.getD, hx]
    rw [e]
    exact hc 0 _ rfl

  by_cases c0 : op ≤ 5
  · rw [show stl op = ([], 8, 0, 0) by unfold stl; rw [if_pos c0]]
    refine Fn_of _ _ Tryz.func89 rfl Tryz.ntmps89 rfl fun c => ?_
    repeat' (first | (refine O_ef rfl (Ef_buildP WideF.wide (z0 := sv []) (xs := [(6, _), (7, _), (9, _), (10, _), (11, _), (12, _), (13, _), (14, _), (15, _), (16, _), (17, _), (18, _), (19, _), (20, _)]) (vs := [(6, sv [111, 114]), (7, sv [97, 110, 100]), (9, sv [61]), (10, sv [60, 62]), (11, sv [60]), (12, sv [60, 61]), (13, sv [62]), (14, sv [62, 61]), (15, sv [43]), (16, sv [45]), (17, sv [38]), (18, sv [42]), (19, sv [47]), (20, sv [37])]) (cells := wordL.map fun w => sv w) rfl ⟨rfl, rfl, rfl, rfl, rfl, rfl, rfl, rfl, rfl, rfl, rfl, rfl, rfl, rfl, rfl, rfl, rfl, rfl, rfl, rfl, rfl, rfl, rfl, rfl, rfl, rfl, rfl, rfl, trivial⟩ words_ok words_fill words_one rfl rfl rfl ?_); intro bw H1 hle1 hr1; rw [List.map_map] at hr1) | refine O_nil ?_ | refine A_seq ?_ | refine A_region ?_ | refine A_ret ?_ | refine A_block ?_ | (show opsA _ _ _ _ _ _ _; first | refine O_ev WideF.wide rfl (Ev_pure rfl) rfl rfl ?_ | (show opsA _ _ _ _ (⟨_, .build _ _, _, _, _, _⟩ :: _) _ _; refine O_ev WideF.wide rfl (Ev_build (vs := [(_, _), (_, _), (_, _), (_, _)]) ⟨rfl, rfl, rfl, rfl, rfl, rfl, rfl, rfl, trivial⟩ rfl) rfl rfl ?_) | (show opsA _ _ _ _ (⟨_, .alloc _, _, _, _, _⟩ :: _) _ _; (refine O_ef rfl (Ef_alloc WideF.wide rfl ?_); intro b)) | (show opsA _ _ _ _ (⟨_, .store _ _ _, _, _, _, _⟩ :: _) _ _; refine O_ef rfl (Ef_storew WideF.wide rfl rfl rfl rfl rfl ?_))) | (show wpA _ _ _ (.cond _ _ _) _ _ _ _; (refine A_if rfl (fun h => ?_) (fun h => ?_) <;> try (exfalso; omega))))
    all_goals first
      | (exfalso; omega)
      | (exfalso; contradiction)
      | (exfalso; exact absurd trivial (by assumption))
      | (exfalso; exact absurd rfl (by assumption))
      | exact End_e (RetC rfl rfl (i := 0) rfl rfl) ⟨rfl, rfl⟩
      | trace_state
  by_cases c1 : op = 6
  · rw [show stl op = (wordL.getD op.toNat [], 1, 1, 2) by unfold stl; rw [if_neg c0, if_pos c1]]
    refine Fn_of _ _ Tryz.func89 rfl Tryz.ntmps89 rfl fun c => ?_
    repeat' (first | (refine O_ef rfl (Ef_buildP WideF.wide (z0 := sv []) (xs := [(6, _), (7, _), (9, _), (10, _), (11, _), (12, _), (13, _), (14, _), (15, _), (16, _), (17, _), (18, _), (19, _), (20, _)]) (vs := [(6, sv [111, 114]), (7, sv [97, 110, 100]), (9, sv [61]), (10, sv [60, 62]), (11, sv [60]), (12, sv [60, 61]), (13, sv [62]), (14, sv [62, 61]), (15, sv [43]), (16, sv [45]), (17, sv [38]), (18, sv [42]), (19, sv [47]), (20, sv [37])]) (cells := wordL.map fun w => sv w) rfl ⟨rfl, rfl, rfl, rfl, rfl, rfl, rfl, rfl, rfl, rfl, rfl, rfl, rfl, rfl, rfl, rfl, rfl, rfl, rfl, rfl, rfl, rfl, rfl, rfl, rfl, rfl, rfl, rfl, trivial⟩ words_ok words_fill words_one rfl rfl rfl ?_); intro bw H1 hle1 hr1; rw [List.map_map] at hr1) | (refine O_ev WideF.wide rfl (Ev_loadH1 rfl (hw hr1 (by omega))) rfl rfl ?_) | refine O_nil ?_ | refine A_seq ?_ | refine A_region ?_ | refine A_ret ?_ | refine A_block ?_ | (show opsA _ _ _ _ _ _ _; first | refine O_ev WideF.wide rfl (Ev_pure rfl) rfl rfl ?_ | (show opsA _ _ _ _ (⟨_, .indexAddr _ _ _, _, _, _, _⟩ :: _) _ _; refine O_ev WideF.wide rfl (Ev_indexAddr rfl rfl (by omega) (by omega)) rfl rfl ?_) | (show opsA _ _ _ _ (⟨_, .build _ _, _, _, _, _⟩ :: _) _ _; refine O_ev WideF.wide rfl (Ev_build (vs := [(_, _), (_, _), (_, _), (_, _)]) ⟨rfl, rfl, rfl, rfl, rfl, rfl, rfl, rfl, trivial⟩ rfl) rfl rfl ?_) | (show opsA _ _ _ _ (⟨_, .alloc _, _, _, _, _⟩ :: _) _ _; (refine O_ef rfl (Ef_alloc WideF.wide rfl ?_); intro b)) | (show opsA _ _ _ _ (⟨_, .store _ _ _, _, _, _, _⟩ :: _) _ _; refine O_ef rfl (Ef_storew WideF.wide rfl rfl rfl rfl rfl ?_))) | (show wpA _ _ _ (.cond _ _ _) _ _ _ _; (refine A_if rfl (fun h => ?_) (fun h => ?_) <;> try (exfalso; omega))))
    all_goals first
      | (exfalso; omega)
      | (exfalso; contradiction)
      | (exfalso; exact absurd trivial (by assumption))
      | (exfalso; exact absurd rfl (by assumption))
      | exact End_e (RetC rfl rfl (i := 0) rfl rfl) ⟨rfl, rfl⟩
      | trace_state
  by_cases c2 : op = 7
  · rw [show stl op = (wordL.getD op.toNat [], 2, 2, 3) by unfold stl; rw [if_neg c0, if_neg c1, if_pos c2]]
    refine Fn_of _ _ Tryz.func89 rfl Tryz.ntmps89 rfl fun c => ?_
    repeat' (first | (refine O_ef rfl (Ef_buildP WideF.wide (z0 := sv []) (xs := [(6, _), (7, _), (9, _), (10, _), (11, _), (12, _), (13, _), (14, _), (15, _), (16, _), (17, _), (18, _), (19, _), (20, _)]) (vs := [(6, sv [111, 114]), (7, sv [97, 110, 100]), (9, sv [61]), (10, sv [60, 62]), (11, sv [60]), (12, sv [60, 61]), (13, sv [62]), (14, sv [62, 61]), (15, sv [43]), (16, sv [45]), (17, sv [38]), (18, sv [42]), (19, sv [47]), (20, sv [37])]) (cells := wordL.map fun w => sv w) rfl ⟨rfl, rfl, rfl, rfl, rfl, rfl, rfl, rfl, rfl, rfl, rfl, rfl, rfl, rfl, rfl, rfl, rfl, rfl, rfl, rfl, rfl, rfl, rfl, rfl, rfl, rfl, rfl, rfl, trivial⟩ words_ok words_fill words_one rfl rfl rfl ?_); intro bw H1 hle1 hr1; rw [List.map_map] at hr1) | (refine O_ev WideF.wide rfl (Ev_loadH1 rfl (hw hr1 (by omega))) rfl rfl ?_) | refine O_nil ?_ | refine A_seq ?_ | refine A_region ?_ | refine A_ret ?_ | refine A_block ?_ | (show opsA _ _ _ _ _ _ _; first | refine O_ev WideF.wide rfl (Ev_pure rfl) rfl rfl ?_ | (show opsA _ _ _ _ (⟨_, .indexAddr _ _ _, _, _, _, _⟩ :: _) _ _; refine O_ev WideF.wide rfl (Ev_indexAddr rfl rfl (by omega) (by omega)) rfl rfl ?_) | (show opsA _ _ _ _ (⟨_, .build _ _, _, _, _, _⟩ :: _) _ _; refine O_ev WideF.wide rfl (Ev_build (vs := [(_, _), (_, _), (_, _), (_, _)]) ⟨rfl, rfl, rfl, rfl, rfl, rfl, rfl, rfl, trivial⟩ rfl) rfl rfl ?_) | (show opsA _ _ _ _ (⟨_, .alloc _, _, _, _, _⟩ :: _) _ _; (refine O_ef rfl (Ef_alloc WideF.wide rfl ?_); intro b)) | (show opsA _ _ _ _ (⟨_, .store _ _ _, _, _, _, _⟩ :: _) _ _; refine O_ef rfl (Ef_storew WideF.wide rfl rfl rfl rfl rfl ?_))) | (show wpA _ _ _ (.cond _ _ _) _ _ _ _; (refine A_if rfl (fun h => ?_) (fun h => ?_) <;> try (exfalso; omega))))
    all_goals first
      | (exfalso; omega)
      | (exfalso; contradiction)
      | (exfalso; exact absurd trivial (by assumption))
      | (exfalso; exact absurd rfl (by assumption))
      | exact End_e (RetC rfl rfl (i := 0) rfl rfl) ⟨rfl, rfl⟩
      | trace_state
  by_cases c3 : op = 8
  · rw [show stl op = ([110, 111, 116, 32], 3, 3, 3) by unfold stl; rw [if_neg c0, if_neg c1, if_neg c2, if_pos c3]]
    refine Fn_of _ _ Tryz.func89 rfl Tryz.ntmps89 rfl fun c => ?_
    repeat' (first | (refine O_ef rfl (Ef_buildP WideF.wide (z0 := sv []) (xs := [(6, _), (7, _), (9, _), (10, _), (11, _), (12, _), (13, _), (14, _), (15, _), (16, _), (17, _), (18, _), (19, _), (20, _)]) (vs := [(6, sv [111, 114]), (7, sv [97, 110, 100]), (9, sv [61]), (10, sv [60, 62]), (11, sv [60]), (12, sv [60, 61]), (13, sv [62]), (14, sv [62, 61]), (15, sv [43]), (16, sv [45]), (17, sv [38]), (18, sv [42]), (19, sv [47]), (20, sv [37])]) (cells := wordL.map fun w => sv w) rfl ⟨rfl, rfl, rfl, rfl, rfl, rfl, rfl, rfl, rfl, rfl, rfl, rfl, rfl, rfl, rfl, rfl, rfl, rfl, rfl, rfl, rfl, rfl, rfl, rfl, rfl, rfl, rfl, rfl, trivial⟩ words_ok words_fill words_one rfl rfl rfl ?_); intro bw H1 hle1 hr1; rw [List.map_map] at hr1) | refine O_nil ?_ | refine A_seq ?_ | refine A_region ?_ | refine A_ret ?_ | refine A_block ?_ | (show opsA _ _ _ _ _ _ _; first | refine O_ev WideF.wide rfl (Ev_pure rfl) rfl rfl ?_ | (show opsA _ _ _ _ (⟨_, .build _ _, _, _, _, _⟩ :: _) _ _; refine O_ev WideF.wide rfl (Ev_build (vs := [(_, _), (_, _), (_, _), (_, _)]) ⟨rfl, rfl, rfl, rfl, rfl, rfl, rfl, rfl, trivial⟩ rfl) rfl rfl ?_) | (show opsA _ _ _ _ (⟨_, .alloc _, _, _, _, _⟩ :: _) _ _; (refine O_ef rfl (Ef_alloc WideF.wide rfl ?_); intro b)) | (show opsA _ _ _ _ (⟨_, .store _ _ _, _, _, _, _⟩ :: _) _ _; refine O_ef rfl (Ef_storew WideF.wide rfl rfl rfl rfl rfl ?_))) | (show wpA _ _ _ (.cond _ _ _) _ _ _ _; (refine A_if rfl (fun h => ?_) (fun h => ?_) <;> try (exfalso; omega))))
    all_goals first
      | (exfalso; omega)
      | (exfalso; contradiction)
      | (exfalso; exact absurd trivial (by assumption))
      | (exfalso; exact absurd rfl (by assumption))
      | exact End_e (RetC rfl rfl (i := 0) rfl rfl) ⟨rfl, rfl⟩
      | trace_state
  by_cases c4 : op ≤ 14
  · rw [show stl op = (wordL.getD op.toNat [], 4, 5, 5) by unfold stl; rw [if_neg c0, if_neg c1, if_neg c2, if_neg c3, if_pos c4]]
    refine Fn_of _ _ Tryz.func89 rfl Tryz.ntmps89 rfl fun c => ?_
    repeat' (first | (refine O_ef rfl (Ef_buildP WideF.wide (z0 := sv []) (xs := [(6, _), (7, _), (9, _), (10, _), (11, _), (12, _), (13, _), (14, _), (15, _), (16, _), (17, _), (18, _), (19, _), (20, _)]) (vs := [(6, sv [111, 114]), (7, sv [97, 110, 100]), (9, sv [61]), (10, sv [60, 62]), (11, sv [60]), (12, sv [60, 61]), (13, sv [62]), (14, sv [62, 61]), (15, sv [43]), (16, sv [45]), (17, sv [38]), (18, sv [42]), (19, sv [47]), (20, sv [37])]) (cells := wordL.map fun w => sv w) rfl ⟨rfl, rfl, rfl, rfl, rfl, rfl, rfl, rfl, rfl, rfl, rfl, rfl, rfl, rfl, rfl, rfl, rfl, rfl, rfl, rfl, rfl, rfl, rfl, rfl, rfl, rfl, rfl, rfl, trivial⟩ words_ok words_fill words_one rfl rfl rfl ?_); intro bw H1 hle1 hr1; rw [List.map_map] at hr1) | (refine O_ev WideF.wide rfl (Ev_loadH1 rfl (hw hr1 (by omega))) rfl rfl ?_) | refine O_nil ?_ | refine A_seq ?_ | refine A_region ?_ | refine A_ret ?_ | refine A_block ?_ | (show opsA _ _ _ _ _ _ _; first | refine O_ev WideF.wide rfl (Ev_pure rfl) rfl rfl ?_ | (show opsA _ _ _ _ (⟨_, .indexAddr _ _ _, _, _, _, _⟩ :: _) _ _; refine O_ev WideF.wide rfl (Ev_indexAddr rfl rfl (by omega) (by omega)) rfl rfl ?_) | (show opsA _ _ _ _ (⟨_, .build _ _, _, _, _, _⟩ :: _) _ _; refine O_ev WideF.wide rfl (Ev_build (vs := [(_, _), (_, _), (_, _), (_, _)]) ⟨rfl, rfl, rfl, rfl, rfl, rfl, rfl, rfl, trivial⟩ rfl) rfl rfl ?_) | (show opsA _ _ _ _ (⟨_, .alloc _, _, _, _, _⟩ :: _) _ _; (refine O_ef rfl (Ef_alloc WideF.wide rfl ?_); intro b)) | (show opsA _ _ _ _ (⟨_, .store _ _ _, _, _, _, _⟩ :: _) _ _; refine O_ef rfl (Ef_storew WideF.wide rfl rfl rfl rfl rfl ?_))) | (show wpA _ _ _ (.cond _ _ _) _ _ _ _; (refine A_if rfl (fun h => ?_) (fun h => ?_) <;> try (exfalso; omega))))
    all_goals first
      | (exfalso; omega)
      | (exfalso; contradiction)
      | (exfalso; exact absurd trivial (by assumption))
      | (exfalso; exact absurd rfl (by assumption))
      | exact End_e (RetC rfl rfl (i := 0) rfl rfl) ⟨rfl, rfl⟩
      | trace_state
  by_cases c5 : op ≤ 17
  · rw [show stl op = (wordL.getD op.toNat [], 5, 5, 6) by unfold stl; rw [if_neg c0, if_neg c1, if_neg c2, if_neg c3, if_neg c4, if_pos c5]]
    refine Fn_of _ _ Tryz.func89 rfl Tryz.ntmps89 rfl fun c => ?_
    repeat' (first | (refine O_ef rfl (Ef_buildP WideF.wide (z0 := sv []) (xs := [(6, _), (7, _), (9, _), (10, _), (11, _), (12, _), (13, _), (14, _), (15, _), (16, _), (17, _), (18, _), (19, _), (20, _)]) (vs := [(6, sv [111, 114]), (7, sv [97, 110, 100]), (9, sv [61]), (10, sv [60, 62]), (11, sv [60]), (12, sv [60, 61]), (13, sv [62]), (14, sv [62, 61]), (15, sv [43]), (16, sv [45]), (17, sv [38]), (18, sv [42]), (19, sv [47]), (20, sv [37])]) (cells := wordL.map fun w => sv w) rfl ⟨rfl, rfl, rfl, rfl, rfl, rfl, rfl, rfl, rfl, rfl, rfl, rfl, rfl, rfl, rfl, rfl, rfl, rfl, rfl, rfl, rfl, rfl, rfl, rfl, rfl, rfl, rfl, rfl, trivial⟩ words_ok words_fill words_one rfl rfl rfl ?_); intro bw H1 hle1 hr1; rw [List.map_map] at hr1) | (refine O_ev WideF.wide rfl (Ev_loadH1 rfl (hw hr1 (by omega))) rfl rfl ?_) | refine O_nil ?_ | refine A_seq ?_ | refine A_region ?_ | refine A_ret ?_ | refine A_block ?_ | (show opsA _ _ _ _ _ _ _; first | refine O_ev WideF.wide rfl (Ev_pure rfl) rfl rfl ?_ | (show opsA _ _ _ _ (⟨_, .indexAddr _ _ _, _, _, _, _⟩ :: _) _ _; refine O_ev WideF.wide rfl (Ev_indexAddr rfl rfl (by omega) (by omega)) rfl rfl ?_) | (show opsA _ _ _ _ (⟨_, .build _ _, _, _, _, _⟩ :: _) _ _; refine O_ev WideF.wide rfl (Ev_build (vs := [(_, _), (_, _), (_, _), (_, _)]) ⟨rfl, rfl, rfl, rfl, rfl, rfl, rfl, rfl, trivial⟩ rfl) rfl rfl ?_) | (show opsA _ _ _ _ (⟨_, .alloc _, _, _, _, _⟩ :: _) _ _; (refine O_ef rfl (Ef_alloc WideF.wide rfl ?_); intro b)) | (show opsA _ _ _ _ (⟨_, .store _ _ _, _, _, _, _⟩ :: _) _ _; refine O_ef rfl (Ef_storew WideF.wide rfl rfl rfl rfl rfl ?_))) | (show wpA _ _ _ (.cond _ _ _) _ _ _ _; (refine A_if rfl (fun h => ?_) (fun h => ?_) <;> try (exfalso; omega))))
    all_goals first
      | (exfalso; omega)
      | (exfalso; contradiction)
      | (exfalso; exact absurd trivial (by assumption))
      | (exfalso; exact absurd rfl (by assumption))
      | exact End_e (RetC rfl rfl (i := 0) rfl rfl) ⟨rfl, rfl⟩
      | trace_state
  by_cases c6 : op ≤ 20
  · rw [show stl op = (wordL.getD op.toNat [], 6, 6, 7) by unfold stl; rw [if_neg c0, if_neg c1, if_neg c2, if_neg c3, if_neg c4, if_neg c5, if_pos c6]]
    refine Fn_of _ _ Tryz.func89 rfl Tryz.ntmps89 rfl fun c => ?_
    repeat' (first | (refine O_ef rfl (Ef_buildP WideF.wide (z0 := sv []) (xs := [(6, _), (7, _), (9, _), (10, _), (11, _), (12, _), (13, _), (14, _), (15, _), (16, _), (17, _), (18, _), (19, _), (20, _)]) (vs := [(6, sv [111, 114]), (7, sv [97, 110, 100]), (9, sv [61]), (10, sv [60, 62]), (11, sv [60]), (12, sv [60, 61]), (13, sv [62]), (14, sv [62, 61]), (15, sv [43]), (16, sv [45]), (17, sv [38]), (18, sv [42]), (19, sv [47]), (20, sv [37])]) (cells := wordL.map fun w => sv w) rfl ⟨rfl, rfl, rfl, rfl, rfl, rfl, rfl, rfl, rfl, rfl, rfl, rfl, rfl, rfl, rfl, rfl, rfl, rfl, rfl, rfl, rfl, rfl, rfl, rfl, rfl, rfl, rfl, rfl, trivial⟩ words_ok words_fill words_one rfl rfl rfl ?_); intro bw H1 hle1 hr1; rw [List.map_map] at hr1) | (refine O_ev WideF.wide rfl (Ev_loadH1 rfl (hw hr1 (by omega))) rfl rfl ?_) | refine O_nil ?_ | refine A_seq ?_ | refine A_region ?_ | refine A_ret ?_ | refine A_block ?_ | (show opsA _ _ _ _ _ _ _; first | refine O_ev WideF.wide rfl (Ev_pure rfl) rfl rfl ?_ | (show opsA _ _ _ _ (⟨_, .indexAddr _ _ _, _, _, _, _⟩ :: _) _ _; refine O_ev WideF.wide rfl (Ev_indexAddr rfl rfl (by omega) (by omega)) rfl rfl ?_) | (show opsA _ _ _ _ (⟨_, .build _ _, _, _, _, _⟩ :: _) _ _; refine O_ev WideF.wide rfl (Ev_build (vs := [(_, _), (_, _), (_, _), (_, _)]) ⟨rfl, rfl, rfl, rfl, rfl, rfl, rfl, rfl, trivial⟩ rfl) rfl rfl ?_) | (show opsA _ _ _ _ (⟨_, .alloc _, _, _, _, _⟩ :: _) _ _; (refine O_ef rfl (Ef_alloc WideF.wide rfl ?_); intro b)) | (show opsA _ _ _ _ (⟨_, .store _ _ _, _, _, _, _⟩ :: _) _ _; refine O_ef rfl (Ef_storew WideF.wide rfl rfl rfl rfl rfl ?_))) | (show wpA _ _ _ (.cond _ _ _) _ _ _ _; (refine A_if rfl (fun h => ?_) (fun h => ?_) <;> try (exfalso; omega))))
    all_goals first
      | (exfalso; omega)
      | (exfalso; contradiction)
      | (exfalso; exact absurd trivial (by assumption))
      | (exfalso; exact absurd rfl (by assumption))
      | exact End_e (RetC rfl rfl (i := 0) rfl rfl) ⟨rfl, rfl⟩
      | trace_state
  · rw [show stl op = ([45], 7, 7, 7) by unfold stl; rw [if_neg c0, if_neg c1, if_neg c2, if_neg c3, if_neg c4, if_neg c5, if_neg c6]]
    refine Fn_of _ _ Tryz.func89 rfl Tryz.ntmps89 rfl fun c => ?_
    repeat' (first | (refine O_ef rfl (Ef_buildP WideF.wide (z0 := sv []) (xs := [(6, _), (7, _), (9, _), (10, _), (11, _), (12, _), (13, _), (14, _), (15, _), (16, _), (17, _), (18, _), (19, _), (20, _)]) (vs := [(6, sv [111, 114]), (7, sv [97, 110, 100]), (9, sv [61]), (10, sv [60, 62]), (11, sv [60]), (12, sv [60, 61]), (13, sv [62]), (14, sv [62, 61]), (15, sv [43]), (16, sv [45]), (17, sv [38]), (18, sv [42]), (19, sv [47]), (20, sv [37])]) (cells := wordL.map fun w => sv w) rfl ⟨rfl, rfl, rfl, rfl, rfl, rfl, rfl, rfl, rfl, rfl, rfl, rfl, rfl, rfl, rfl, rfl, rfl, rfl, rfl, rfl, rfl, rfl, rfl, rfl, rfl, rfl, rfl, rfl, trivial⟩ words_ok words_fill words_one rfl rfl rfl ?_); intro bw H1 hle1 hr1; rw [List.map_map] at hr1) | refine O_nil ?_ | refine A_seq ?_ | refine A_region ?_ | refine A_skip ?_ | refine A_ret ?_ | refine A_block ?_ | (show opsA _ _ _ _ _ _ _; first | refine O_ev WideF.wide rfl (Ev_pure rfl) rfl rfl ?_ | (show opsA _ _ _ _ (⟨_, .build _ _, _, _, _, _⟩ :: _) _ _; refine O_ev WideF.wide rfl (Ev_build (vs := [(_, _), (_, _), (_, _), (_, _)]) ⟨rfl, rfl, rfl, rfl, rfl, rfl, rfl, rfl, trivial⟩ rfl) rfl rfl ?_) | (show opsA _ _ _ _ (⟨_, .alloc _, _, _, _, _⟩ :: _) _ _; (refine O_ef rfl (Ef_alloc WideF.wide rfl ?_); intro b)) | (show opsA _ _ _ _ (⟨_, .store _ _ _, _, _, _, _⟩ :: _) _ _; refine O_ef rfl (Ef_storew WideF.wide rfl rfl rfl rfl rfl ?_))) | (show wpA _ _ _ (.cond _ _ _) _ _ _ _; (refine A_if rfl (fun h => ?_) (fun h => ?_) <;> try (exfalso; omega))))
    all_goals first
      | (exfalso; omega)
      | (exfalso; contradiction)
      | (exfalso; exact absurd trivial (by assumption))
      | (exfalso; exact absurd rfl (by assumption))
      | exact End_e (RetC rfl rfl (i := 0) rfl rfl) ⟨rfl, rfl⟩
      | trace_state
end
def jn : List (List UInt8) → List UInt8
  | [] => []
  | x :: r => x ++ r.flatMap fun y => 44 :: 32 :: y
theorem jn_snoc (l : List (List UInt8)) (y : List UInt8) : jn (l ++ [y]) = if l = [] then y else jn l ++ (44 :: 32 :: y) := by
  cases l with
  | nil => simp [jn]
  | cons x r => simp [jn, List.flatMap_append]
def bod (op num : Int) (text : List UInt8) (fs : List (Int → List UInt8)) : List UInt8 :=
  if op = 1 then Lib.itoa num else if op = 3 then fbool (decide (num = 1)) else if op = 2 then 34 :: (Lib.replaceAll text [34] [34, 34] ++ [34])
  else if op = 4 then text else if op = 5 then text ++ (40 :: (jn (fs.map fun f => f 0) ++ [41]))
  else if op = 8 ∨ op = 21 then (stl op).1 ++ (fs.getD 0 fun _ => []) (stl op).2.2.1
  else (fs.getD 0 fun _ => []) (stl op).2.2.1 ++ (32 :: ((stl op).1 ++ (32 :: (fs.getD 1 fun _ => []) (stl op).2.2.2)))
def par (b : Bool) (t : List UInt8) : List UInt8 := if b then 40 :: (t ++ [41]) else t
mutual
def wr : Nd → Int → List UInt8
  | .mk op num text args => fun lv => par (decide ((stl op).2.1 < lv)) (bod op num text (wrL args))
def wrL : List Nd → List (Int → List UInt8)
  | [] => []
  | x :: l => wr x :: wrL l
end
theorem wrL_map : ∀ l : List Nd, wrL l = l.map wr
  | [] => by rw [wrL]; rfl
  | x :: l => by rw [wrL, wrL_map l]; rfl
theorem wr_eq (x : Nd) (lv : Int) : wr x lv = par (decide ((stl x.op).2.1 < lv)) (bod x.op x.num x.text (x.args.map wr)) := by
  obtain ⟨op, num, text, args⟩ := x
  rw [wr, wrL_map]
  rfl
section
variable {P : Program} {c : Ctx} {fn : Func} {n : Nat} {e : Env} {H : Hp} {I1 L : Own} {f' : FuncId} {cap dargs : List Value} {dpost : Hp → Own → Prop} {post : Value → Hp → Own → Prop}
/-- one deferred call, which takes all that is owned -/
theorem EndD_one0 [hf : FunC P f'] (h : DFn P f' (dargs ++ cap) H I1 dpost) (hk : ∀ H' I', HLe H H' → dpost H' I' → EndOf c P fn post ⟨n, e, H', I', L, []⟩) :
    Shift c (fun s => EndD c P fn post s.D s) ⟨n, e, H, I1, L, [{ target := .fn (.func f') cap.toArray, args := dargs.toArray }]⟩ := by
  have := EndD_one (c := c) (fn := fn) (n := n) (e := e) (L := L) (post := post) (M' := []) h (fun H' I' hl hp => by simpa using hk H' I' hl hp)
  simpa using this
end
/-- the contract of write at a node -/
def WrN (H : Hp) (y : Nd) : Prop := ∀ (H' : Hp) (cs : List Value) (lv : Int) (b : Nat) (l : List UInt8) (I : Own), HLe H H' → NodeH H' cs y → BldIs b l I → l.length + (wr y lv).length ≤ 35184372088832 →
  Fn Tryz.prog 47 [.pointer (some ⟨b, 0, none⟩), .agg cs.toArray, .int .i64 lv] H' I fun _ _ I' => BldIs b (l ++ wr y lv) I'
end Go.Proofs.YtnoadopmeoohmaaGreatDoor
