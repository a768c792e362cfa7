/-
  slices.Grow, slices.Concat at flows; run.Concat.
-/
import Derived.Test.YthbnhcgphkghaaaA12
import Derived.Test.YthbnhcgphkghaaaR27
namespace Go.Proofs.Ythbnhcgphkghaaa
open Go
set_option linter.unusedVariables false
set_option linter.unusedSimpArgs false
theorem FlowsH.mono {H H' : Hp} (hl : HLe H H') {css : List (List Value)} {ls : List (List Item)} (h : FlowsH H css ls) : FlowsH H' css ls := by
  induction h with
  | nil => exact .nil
  | cons h t ih => exact .cons (h.mono hl) ih
theorem flatten_take {ls : List (List Item)} {i : Nat} {l : List Item} (h : ls[i]? = some l) : (ls.take (i + 1)).flatten = (ls.take i).flatten ++ l := by
  rw [take_get h, List.flatten_append]; simp
theorem flatten_take_len (ls : List (List Item)) (i : Nat) : (ls.take i).flatten.length ≤ ls.flatten.length := by
  have : ls.flatten = (ls.take i).flatten ++ (ls.drop i).flatten := by rw [← List.flatten_append, List.take_append_drop]
  rw [this]; simp
attribute [local irreducible] wpA opsA drJ drQ drE Ef Ev Shift Fn

set_option maxRecDepth 100000 in
theorem Grow_fn {H : Hp} {m : Nat} (hm : m < 68719476736) : Fn Try.prog 80 [.slice none 0 0, .int .i64 m] H [] fun v H' I' => H' = H ∧ ∃ oa oc, v = .slice oa 0 oc ∧ I' = [.row v 11 []] := by
  refine Fn_of _ _ Try.func80 rfl Try.ntmps80 rfl fun c => ?_
  refine A_nilrow 11 ?_
  repeat' (first | (refine O_ev WideF.wide rfl (Ev_lsliceh rfl rfl (by omega) (by omega)) rfl rfl ?_) | (refine O_ef rfl (Ef_growR (m := m) WideF.wide rfl rfl (by omega) (by omega) rfl rfl (by omega) (by omega) rfl ?_); intro b cp hcp) | refine O_nil ?_ | refine A_seq ?_ | refine A_region ?_ | refine A_skip ?_ | refine A_ret ?_ | (show opsA _ _ _ _ _ _ _; first | refine O_ev WideF.wide rfl (Ev_pure rfl) rfl rfl ?_ | (show opsA _ _ _ _ (⟨_, .call _, _, _, _, _⟩ :: _) _ _; first | refine O_ev WideF.wide rfl (Ev_llen rfl) rfl rfl ?_ | refine O_ev WideF.wide rfl (Ev_lcap rfl) rfl rfl ?_) | (show opsA _ _ _ _ (⟨_, .binOp _ _ _ _ _, _, _, _, _⟩ :: _) _ _; refine O_ev WideF.wide rfl (Ev_sub rfl rfl (wi64 (by omega))) rfl rfl ?_)) | (show wpA _ _ _ (.cond _ _ _) _ _ _ _; (refine A_if rfl (fun h => ?_) (fun h => ?_) <;> try (exfalso; omega))))
  · exact End_m (Ret1 rfl rfl) ⟨rfl, _, _, rfl, rfl⟩
  · exact End_m (Ret1 rfl rfl) ⟨rfl, _, _, rfl, rfl⟩
abbrev scSt (H : Hp) (a : Option Addr) (n cp : Nat) (q : Int) (i : Nat) : Sta := ⟨36, [(0, .slice a n cp), (3, .int .i64 q), (9, .slice a n cp), (10, .int .i64 n), (11, .int .i64 i)], H, [], [], []⟩
abbrev sdSt (H : Hp) (a : Option Addr) (n cp : Nat) (oa : Option Addr) (oc : Nat) (css : List (List Value)) (i : Nat) : Sta := ⟨36, [(6, .slice oa css.length oc), (25, .slice a n cp), (26, .int .i64 n), (27, .int .i64 i)], H, [.row (.slice oa css.length oc) 11 css], [], []⟩
set_option maxRecDepth 100000 in
theorem SConcat_fn {H : Hp} {a : Option Addr} {n cp : Nat} {css : List (List Value)} {ls : List (List Item)} (hr : HRow H a n cp 1 css) (hf : FlowsH H css ls) (hl : massL ls.flatten < 68719476736) (hn : n < 1000) :
    Fn Try.prog 73 [.slice a n cp] H [] fun v H' I' => (∃ oa on oc, v = .slice oa on oc ∧ FlowH H' oa on oc ls.flatten) ∧ I' = [] := by
  have hlen := hr.len
  have hfl := hf.length
  have hml := massL_len ls.flatten
  refine Fn_of _ _ Try.func73 rfl Try.ntmps73 rfl fun c => ?_
  repeat' (first | refine O_nil ?_ | refine A_seq ?_ | refine A_region ?_ | refine A_block ?_ | (show opsA _ _ _ _ _ _ _; first | refine O_ev WideF.wide rfl (Ev_pure rfl) rfl rfl ?_ | (show opsA _ _ _ _ (⟨_, .call _, _, _, _, _⟩ :: _) _ _; refine O_ev WideF.wide rfl (Ev_llen rfl) rfl rfl ?_)))
  refine A_loopu (fun m s => ∃ (i : Nat) (q : Int), m = n - i ∧ i ≤ n ∧ q = ((ls.take i).flatten.length : Nat) ∧ s = scSt H a n cp q i) ?_ ?_
  · exact Shift.to ⟨_, 0, 0, rfl, by omega, by simp, rfl⟩ ⟨rfl, rfl, rfl, ⟨rfl, rfl, rfl, rfl, rfl, trivial⟩, Own.sub_nil _⟩
  · rintro m s ⟨i, q, rfl, hi, hq, rfl⟩
    have hql := flatten_take_len ls i
    by_cases hlt : i < n
    · obtain ⟨b', o, cs, rfl, hcs, hk, hc⟩ := hr.at i hlt
      obtain ⟨fa, fn, fc, l, rfl, hli, hfi⟩ := hf.get hcs
      have hfn := hfi.len
      have hq1 : (ls.take (i + 1)).flatten.length = (ls.take i).flatten.length + fn := by rw [flatten_take hli, List.length_append, hfn]
      have hql1 := flatten_take_len ls (i + 1)
      repeat' (first | refine O_nil ?_ | refine A_seq ?_ | refine A_region ?_ | refine A_skip ?_ | refine A_block ?_ | (show opsA _ _ _ _ _ _ _; first | refine O_ev WideF.wide rfl (Ev_pure rfl) rfl rfl ?_ | (show opsA _ _ _ _ (⟨_, .load _ _, _, _, _, _⟩ :: _) _ _; refine O_ev WideF.wide rfl (Ev_loadH1 rfl (hc 0 _ rfl)) rfl rfl ?_) | (show opsA _ _ _ _ (⟨_, .indexAddr _ _ _, _, _, _, _⟩ :: _) _ _; refine O_ev WideF.wide rfl (Ev_indexAddr rfl rfl (by omega) (by omega)) rfl rfl ?_) | (show opsA _ _ _ _ (⟨_, .call _, _, _, _, _⟩ :: _) _ _; refine O_ev WideF.wide rfl (Ev_llen rfl) rfl rfl ?_) | (show opsA _ _ _ _ (⟨_, .binOp _ _ _ _ _, _, _, _, _⟩ :: _) _ _; refine O_ev WideF.wide rfl (Ev_add rfl rfl (wi64 (by omega))) rfl rfl ?_)) | (show wpA _ _ _ (.cond _ _ _) _ _ _ _; (refine A_if rfl (fun h => ?_) (fun h => ?_) <;> try (exfalso; omega))))
      refine Shift.to ⟨_, ?_, i + 1, _, rfl, by omega, ?_, rfl⟩ ⟨rfl, rfl, rfl, ⟨rfl, rfl, rfl, rfl, rfl, trivial⟩, Own.sub_nil _⟩
      · omega
      · omega
    · have hin : n = i := by omega
      subst hin
      have hgr := Grow_fn (H := H) (m := (ls.take n).flatten.length) (by omega)
      rw [← hq] at hgr
      repeat' (first | (refine O_ef rfl (Ef_call (I := []) WideF.wide hgr ⟨rfl, rfl, trivial⟩ rfl ?_); rintro v H1 I1 hle1 ⟨rfl, oa, oc, rfl, rfl⟩) | refine O_nil ?_ | refine A_seq ?_ | refine A_region ?_ | refine A_block ?_ | (show opsA _ _ _ _ _ _ _; first | refine O_ev WideF.wide rfl (Ev_pure rfl) rfl rfl ?_ | (show opsA _ _ _ _ (⟨_, .call _, _, _, _, _⟩ :: _) _ _; refine O_ev WideF.wide rfl (Ev_llen rfl) rfl rfl ?_)) | (show wpA _ _ _ (.exit _) _ _ _ _; refine A_exit rfl ?_) | (show wpA _ _ _ (.cond _ _ _) _ _ _ _; (refine A_if rfl (fun h => ?_) (fun h => ?_) <;> try (exfalso; omega))))
      refine A_loopu (fun m s => ∃ (i : Nat) (oa : Option Addr) (oc : Nat) (css' : List (List Value)), m = n - i ∧ i ≤ n ∧ All2 (ItemH H1) css' (ls.take i).flatten ∧ s = sdSt H1 a n cp oa oc css' i) ?_ ?_
      · exact Shift.to ⟨_, 0, oa, oc, [], rfl, by omega, by simp; exact .nil, rfl⟩ ⟨rfl, rfl, rfl, ⟨rfl, rfl, rfl, rfl, trivial⟩, Own.subi [0] (by decide) rfl rfl⟩
      · rintro m s ⟨i, oa, oc, css', rfl, hi, hcss, rfl⟩
        have hcl := hcss.length
        have hql := flatten_take_len ls i
        by_cases hlt : i < n
        · obtain ⟨b', o, cs, rfl, hcs, hk, hc⟩ := hr.at i hlt
          obtain ⟨fa, fn, fc, l, rfl, hli, hfi⟩ := hf.get hcs
          have hfn := hfi.len
          have hq1 : (ls.take (i + 1)).flatten.length = (ls.take i).flatten.length + fn := by rw [flatten_take hli, List.length_append, hfn]
          have hql1 := flatten_take_len ls (i + 1)
          obtain ⟨news, hnr, hni⟩ := hfi.ex
          repeat' (first | (refine O_ef rfl (Ef_appendH WideF.wide rfl rfl hnr rfl rfl (by omega) (by omega) rfl ?_); intro a' c') | refine O_nil ?_ | refine A_seq ?_ | refine A_region ?_ | refine A_skip ?_ | refine A_block ?_ | (show opsA _ _ _ _ _ _ _; first | refine O_ev WideF.wide rfl (Ev_pure rfl) rfl rfl ?_ | (show opsA _ _ _ _ (⟨_, .load _ _, _, _, _, _⟩ :: _) _ _; refine O_ev WideF.wide rfl (Ev_loadH1 rfl (hc 0 _ rfl)) rfl rfl ?_) | (show opsA _ _ _ _ (⟨_, .indexAddr _ _ _, _, _, _, _⟩ :: _) _ _; refine O_ev WideF.wide rfl (Ev_indexAddr rfl rfl (by omega) (by omega)) rfl rfl ?_) | (show opsA _ _ _ _ (⟨_, .binOp _ _ _ _ _, _, _, _, _⟩ :: _) _ _; refine O_ev WideF.wide rfl (Ev_add rfl rfl (wi64 (by omega))) rfl rfl ?_)) | (show wpA _ _ _ (.cond _ _ _) _ _ _ _; (refine A_if rfl (fun h => ?_) (fun h => ?_) <;> try (exfalso; omega))))
          refine Shift.to ⟨_, ?_, i + 1, _, _, _, rfl, by omega, ?_, rfl⟩ ⟨rfl, rfl, rfl, ⟨rfl, rfl, rfl, rfl, trivial⟩, Own.subi [0] (by decide) rfl rfl⟩
          · omega
          · rw [flatten_take hli]; exact hcss.append hni
        · have hin : n = i := by omega
          subst hin
          have htk : (ls.take n).flatten = ls.flatten := by rw [← hlen, hfl, List.take_length]
          rw [htk] at hcss
          repeat' (first | refine O_nil ?_ | refine A_seq ?_ | refine A_region ?_ | refine A_ret ?_ | (show opsA _ _ _ _ _ _ _; refine O_ev WideF.wide rfl (Ev_pure rfl) rfl rfl ?_) | (show wpA _ _ _ (.exit _) _ _ _ _; refine A_exit rfl ?_) | (show wpA _ _ _ (.cond _ _ _) _ _ _ _; (refine A_if rfl (fun h => ?_) (fun h => ?_) <;> try (exfalso; omega))))
          exact End_row (Ret1 rfl rfl) hcss.one_all fun H' hle hr => ⟨⟨oa, _, oc, rfl, ⟨css', hr, hcss.mono fun _ _ h => h.mono hle⟩⟩, rfl⟩
set_option maxRecDepth 100000 in
theorem Concat_fn {H : Hp} {a : Option Addr} {n cp : Nat} {css : List (List Value)} {ls : List (List Item)} (hr : HRow H a n cp 1 css) (hf : FlowsH H css ls) (hl : massL ls.flatten < 68719476736) (hn : n < 1000) :
    Fn Try.prog 43 [.slice a n cp] H [] fun v H' I' => (∃ oa on oc, v = .slice oa on oc ∧ FlowH H' oa on oc (normL ls.flatten)) ∧ I' = [] := by
  refine Fn_of _ _ Try.func43 rfl Try.ntmps43 rfl fun c => ?_
  repeat' (first | (refine O_ef rfl (Ef_call (I := []) WideF.wide (SConcat_fn hr hf hl hn) ⟨rfl, trivial⟩ rfl ?_); rintro v H1 I1 hle1 ⟨⟨oa, on, oc, rfl, h1⟩, rfl⟩) | (refine O_ef rfl (Ef_call (I := []) WideF.wide (Normal_fn h1 hl) ⟨rfl, trivial⟩ rfl ?_); rintro v H2 I2 hle2 ⟨⟨oa', on', oc', rfl, h2⟩, rfl⟩) | refine O_nil ?_ | refine A_seq ?_ | refine A_region ?_ | refine A_ret ?_ | (show opsA _ _ _ _ _ _ _; refine O_ev WideF.wide rfl (Ev_pure rfl) rfl rfl ?_))
  exact End_e (Ret1 rfl rfl) ⟨⟨oa', on', oc', rfl, h2⟩, rfl⟩
end Go.Proofs.Ythbnhcgphkghaaa
