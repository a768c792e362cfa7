/-
  The law's short.
-/
import Derived.Test.YtaneeaojlkenmaaGreatDoorL22
namespace Go.Proofs.YtaneeaojlkenmaaGreatDoor
open Go Go.Lib
set_option linter.unusedVariables false
set_option linter.unusedSimpArgs false
/-- what the laws take of the levels -/
def cutLv (x : Lv) : Lv := { x with tpl := x.tpl.take 80 }
def shortL (l : List Lv) : List Lv := (l.take 12).map cutLv
theorem shortL_len (l : List Lv) : (shortL l).length ≤ 12 := by unfold shortL; rw [List.length_map, List.length_take]; omega
theorem shortL_tpl (l : List Lv) : ∀ x ∈ shortL l, x.tpl.length < 1099511627776 := by
  intro x hx
  obtain ⟨y, _, rfl⟩ := List.mem_map.1 hx
  exact take80 y.tpl
theorem snoc_lv {acc : List Lv} (x : Lv) : acc.map lvrow ++ [lvrow x] = (acc ++ [x]).map lvrow := by rw [List.map_append]; rfl
theorem HRow.take {H : Hp} {a : Option Addr} {n c k : Nat} {css : List (List Value)} (h : HRow H a n c k css) {m : Nat} (hm : m ≤ n) : HRow H a m c k (css.take m) := by
  refine ⟨?_, Nat.le_trans hm h.cap, fun ha => ?_, fun i cs hi => ?_⟩
  · rw [List.length_take, h.len]; omega
  · have := h.nil ha; omega
  · rw [List.getElem?_take] at hi
    split at hi
    · exact h.el i cs hi
    · cases hi
attribute [local irreducible] wpA opsA drJ drQ drE Ef Ev Shift Fn
set_option maxRecDepth 100000 in
set_option maxHeartbeats 1000000 in
theorem short_fn {H : Hp} {a : Option Addr} {n cq : Nat} {l : List Lv} (hx : HRow H a n cq 4 (l.map lvrow)) :
    Fn Tryz.prog 19 [.slice a n cq] H [] fun v H' I => ∃ a' n' c', v = .slice a' n' c' ∧ HRow H' a' n' c' 4 ((shortL l).map lvrow) ∧ I = [] := by
  have e1 : l.length = n := by have := hx.len; simpa using this
  have hc := fun Hx s => mcut_fn (H := Hx) (s := s)
  refine Fn_of _ _ Tryz.func19 rfl Tryz.ntmps19 rfl fun c => ?_
  repeat' (first | refine O_nil ?_ | refine A_seq ?_ | refine A_region ?_ | refine A_block ?_ | (show opsA _ _ _ _ _ _ _; refine O_ev WideF.wide rfl (Ev_pure rfl) rfl rfl ?_))
  refine A_nilrow 4 ?_
  refine A_loopu (fun m st => ∃ (i : Nat) (a' : Option Addr) (c' : Nat) (acc : List Lv) (H1 : Hp), m = 12 - i ∧ i ≤ n ∧ i ≤ 12 ∧ acc.length = i ∧ acc = (l.take i).map cutLv ∧ HLe H H1 ∧ st = ⟨29, [(0, .slice a n cq), (3, .slice a' acc.length c'), (4, .int .i64 i)], H1, [.row (.slice a' acc.length c') 4 (acc.map lvrow)], [], []⟩) ?_ ?_
  · exact Shift.to ⟨_, 0, none, 0, [], H, rfl, by omega, by omega, rfl, by simp, HLe.refl H, rfl⟩ ⟨rfl, rfl, rfl, ⟨rfl, rfl, rfl, trivial⟩, Own.subi [0] (by decide) rfl rfl⟩
  · rintro m st ⟨i, a', c', acc, H1, rfl, hi, hi12, hal, hacc, hl1, rfl⟩
    by_cases hlt : i < n ∧ i < 12
    · obtain ⟨b, o, x, rfl, hxi, hcl⟩ := hx.atm i hlt.1
      have hcl := hcl.mono hl1
      unfold lvrow at hcl
      have hnx : acc ++ [cutLv x] = (l.take (i + 1)).map cutLv := by rw [take_get hxi, List.map_append, hacc]; rfl
      repeat' (first | (refine O_ev WideF.wide rfl (Ev_loadH rfl hcl rfl) rfl rfl ?_) | (refine O_ef rfl (Ef_callp WideF.wide (hc _ _) ⟨rfl, trivial⟩ rfl ?_)) | refine O_nil ?_ | refine A_seq ?_ | refine A_region ?_ | refine A_skip ?_ | refine A_block ?_ | (show opsA _ _ _ _ _ _ _; first | (refine O_split rfl rfl (fun h => ?_) (fun h => ?_) <;> try (exfalso; omega)) | refine O_ev WideF.wide rfl (Ev_pure rfl) rfl rfl ?_ | (show opsA _ _ _ _ (⟨_, .load _ _, _, _, _, _⟩ :: _) _ _; first | refine O_ev WideF.wide rfl (Ev_loadB1 (i := 0) rfl rfl rfl) rfl rfl ?_ | refine O_ev WideF.wide rfl (Ev_loadB (i := 0) rfl rfl rfl) rfl rfl ?_) | (show opsA _ _ _ _ (⟨_, .indexAddr _ _ _, _, _, _, _⟩ :: _) _ _; refine O_ev WideF.wide rfl (Ev_indexAddr rfl rfl (by omega) (by omega)) rfl rfl ?_) | (show opsA _ _ _ _ (⟨_, .fieldAddr _ _ _, _, _, _, _⟩ :: _) _ _; refine O_ev WideF.wide rfl (Ev_fieldAddr rfl rfl rfl) rfl rfl ?_) | (show opsA _ _ _ _ (⟨_, .call _, _, _, _, _⟩ :: _) _ _; first | refine O_ev WideF.wide rfl (Ev_llen rfl) rfl rfl ?_ | (refine O_f2 (O_ef rfl (Ef_appendR WideF.wide rfl rfl rfl rfl rfl (by simp; omega) (by simp; omega) rfl ?_)); intro a cp)) | (show opsA _ _ _ _ (⟨_, .buildSlice _ _ _, _, _, _, _⟩ :: _) _ _; (refine O_ef rfl (Ef_build1a WideF.wide rfl rfl rfl rfl rfl ?_); intro b)) | (show opsA _ _ _ _ (⟨_, .binOp _ _ _ _ _, _, _, _, _⟩ :: _) _ _; refine O_ev WideF.wide rfl (Ev_add rfl rfl (wi64 (by omega))) rfl rfl ?_) | (show opsA _ _ _ _ (⟨_, .alloc _, _, _, _, _⟩ :: _) _ _; (refine O_ef rfl (Ef_alloc WideF.wide rfl ?_); intro b)) | (show opsA _ _ _ _ (⟨_, .store _ _ _, _, _, _, _⟩ :: _) _ _; first | refine O_ef rfl (Ef_storew WideF.wide rfl rfl rfl rfl rfl ?_) | refine O_ef rfl (Ef_store1 WideF.wide rfl rfl rfl rfl rfl ?_))) | (show wpA _ _ _ (.cond _ _ _) _ _ _ _; (refine A_if rfl (fun h => ?_) (fun h => ?_) <;> try (exfalso; omega))))
      all_goals try (exfalso; omega)
      rw [show tset [Value.int IntKind.i64 x.fmt, Value.int IntKind.i64 x.start, sv x.tpl, Value.int IntKind.i64 x.restart] (0 + 2) (sv (List.take 80 x.tpl)) = lvrow (cutLv x) from rfl, snoc_lv, List.length_map]
      refine Shift.to ⟨_, ?_, i + 1, _, _, acc ++ [cutLv x], _, rfl, by omega, by omega, by rw [List.length_append]; simp; omega, hnx, hl1, rfl⟩ ⟨rfl, rfl, rfl, ⟨rfl, rfl, rfl, trivial⟩, Own.subi [0] (by decide) rfl rfl⟩
      omega
    · have hfin : acc = shortL l := by
        rw [hacc]; unfold shortL
        congr 1
        by_cases h12 : i = 12
        · subst h12; rfl
        · rw [List.take_of_length_le (by omega), List.take_of_length_le (by omega)]
      repeat' (first | refine O_nil ?_ | refine A_seq ?_ | refine A_region ?_ | refine A_ret ?_ | (show opsA _ _ _ _ _ _ _; first | (refine O_split rfl rfl (fun h => ?_) (fun h => ?_) <;> try (exfalso; omega)) | refine O_ev WideF.wide rfl (Ev_pure rfl) rfl rfl ?_ | (show opsA _ _ _ _ (⟨_, .call _, _, _, _, _⟩ :: _) _ _; refine O_ev WideF.wide rfl (Ev_llen rfl) rfl rfl ?_) | refine O_skip WideF.wide rfl rfl rfl ?_) | (show wpA _ _ _ (.exit _) _ _ _ _; refine A_exit rfl ?_) | (show wpA _ _ _ (.cond _ _ _) _ _ _ _; first | (refine A_if rfl (fun h => ?_) (fun h => ?_) <;> try (exfalso; omega)) | refine A_iffalse rfl ?_))
      all_goals try (exfalso; omega)
      all_goals try (exfalso; exact hlt ⟨by assumption, by omega⟩)
      all_goals exact End_row (Ret1 rfl rfl) (lvrow_one _) fun H' hle hr => ⟨_, _, _, rfl, by rw [← hfin]; exact hr, rfl⟩
theorem lvE_ok {l : List Lv} (h : chkLv l = 0) (q : Int) : lvE l q = if q < 1 ∨ (l.length : Int) < q then 2 else 0 := by
  unfold lvE; rw [h, if_neg (by simp)]
end Go.Proofs.YtaneeaojlkenmaaGreatDoor
