/-
  slices.IndexFunc and slices.DeleteFunc at rows, with the function of run.Normal: rows without a cell go.
-/
import Derived.Test.YtofkolbnhcckkaaGreatR15
namespace Go.Proofs.YtofkolbnhcckkaaGreat
open Go
set_option linter.unusedVariables false
set_option linter.unusedSimpArgs false
theorem Shift_cut {c : Ctx} {K : SP} {nn n cp k : Nat} {e : Env} {H : Hp} {M L : Own} {D : List Deferred} {a : Option Addr} {css : List (List Value)} (j : Nat) (hj : j ≤ n) (h : Shift c K ⟨nn, e, H, .row (.slice a j cp) k (css.take j) :: M, L, D⟩) : Shift c K ⟨nn, e, H, .row (.slice a n cp) k css :: M, L, D⟩ := fun ac w hs =>
  h ac w ⟨hs.defers, hs.size, hs.env, hs.holds.cut j hj⟩
attribute [local irreducible] wpA opsA drJ drQ drE Ef Ev Shift Fn

set_option maxRecDepth 100000 in
theorem Normal1_fn {H : Hp} {cs : List Value} {x : Row} (hx : RowH H cs x) : FnP Tryz.prog 100 [.agg cs.toArray] H (.bool (decide (x.2 = []))) := by
  obtain ⟨pa, pn, pc, da, dn, dc, la, ln, lc, ca, cn, cc, rfl, _, _, _, hcs⟩ := hx.cells
  have hl := hcs.len
  refine Fn_of _ _ Tryz.func100 rfl Tryz.ntmps100 rfl fun c => ?_
  repeat' (first | refine O_nil ?_ | refine A_seq ?_ | refine A_region ?_ | refine A_ret ?_ | (show opsA _ _ _ _ _ _ _; first | refine O_ev WideF.wide rfl (Ev_pure rfl) rfl rfl ?_ | (show opsA _ _ _ _ (⟨_, .load _ _, _, _, _, _⟩ :: _) _ _; refine O_ev WideF.wide rfl (Ev_loadB1 (i := 0) rfl rfl rfl) rfl rfl ?_) | (show opsA _ _ _ _ (⟨_, .fieldAddr _ _ _, _, _, _, _⟩ :: _) _ _; refine O_ev WideF.wide rfl (Ev_fieldAddr rfl rfl rfl) rfl rfl ?_) | (show opsA _ _ _ _ (⟨_, .call _, _, _, _, _⟩ :: _) _ _; refine O_ev WideF.wide rfl (Ev_llen rfl) rfl rfl ?_) | (show opsA _ _ _ _ (⟨_, .box _ _, _, _, _, _⟩ :: _) _ _; (refine O_ef rfl (Ef_boxa WideF.wide rfl rfl ?_); intro b))))
  (refine End_p (Ret1 rfl rfl) ?_)
  congr 2
  apply propext
  rw [← List.length_eq_zero_iff, hl]
  omega

/-- the first row without a cell -/
def FirstE (rows : List Row) (v : Value) : Prop := (v = .int .i64 (-1) ∧ ∀ x ∈ rows, x.2 ≠ []) ∨ ∃ (i : Nat) (x : Row), i < rows.length ∧ v = .int .i64 i ∧ rows[i]? = some x ∧ x.2 = [] ∧ ∀ y ∈ rows.take i, y.2 ≠ []
abbrev ixfSt (H : Hp) (b n cp i : Nat) (css : List (List Value)) : Sta := ⟨19, [(0, .slice (some ⟨b, 0, none⟩) n cp), (1, .func (.func 100) #[] #[]), (7, .int .i64 n), (8, .int .i64 i)], H, [.row (.slice (some ⟨b, 0, none⟩) n cp) 6 css], [], []⟩
set_option maxRecDepth 100000 in
theorem IndexFunc_fn {H : Hp} {a : Option Addr} {n cp : Nat} {css : List (List Value)} {rows : List Row} (hcss : All2 (RowH H) css rows) (hn : css.length = n) (hl : n < 68719476736) :
    Fn Tryz.prog 76 [.slice a n cp, .func (.func 100) #[] #[]] H [.row (.slice a n cp) 6 css] fun v H' I' => FirstE rows v ∧ H' = H ∧ I' = [.row (.slice a n cp) 6 css] := by
  have hrl := hcss.length
  refine Fn_of _ _ Tryz.func76 rfl Tryz.ntmps76 rfl fun c => ?_
  repeat' (first | refine O_nil ?_ | refine A_seq ?_ | refine A_region ?_ | refine A_block ?_ | (show opsA _ _ _ _ _ _ _; first | refine O_ev WideF.wide rfl (Ev_pure rfl) rfl rfl ?_ | (show opsA _ _ _ _ (⟨_, .call _, _, _, _, _⟩ :: _) _ _; refine O_ev WideF.wide rfl (Ev_llen rfl) rfl rfl ?_)))
  refine A_rowaddr (q := 0) rfl ?_
  intro r1 r2 r3 r4 r5
  cases a with
  | none =>
    obtain ⟨rfl, rfl⟩ := r3 rfl
    have hn0 : n = 0 := by simpa using hn.symm
    subst hn0
    cases hcss
    refine A_loopu (fun m s => m = 0 ∧ s = ⟨19, [(7, .int .i64 0), (8, .int .i64 0)], H, [.row (.slice none 0 0) 6 []], [], []⟩) ?_ ?_
    · exact Shift.to ⟨0, rfl, rfl⟩ ⟨rfl, rfl, rfl, ⟨rfl, rfl, trivial⟩, Own.subi [0] (by decide) rfl rfl⟩
    · rintro m s ⟨rfl, rfl⟩
      repeat' (first | refine O_nil ?_ | refine A_seq ?_ | refine A_region ?_ | refine A_ret ?_ | (show opsA _ _ _ _ _ _ _; refine O_ev WideF.wide rfl (Ev_pure rfl) rfl rfl ?_) | (show wpA _ _ _ (.exit _) _ _ _ _; refine A_exit rfl ?_) | (show wpA _ _ _ (.cond _ _ _) _ _ _ _; (refine A_if rfl (fun h => ?_) (fun h => ?_) <;> try (exfalso; omega))))
      exact End_m (Ret1 rfl rfl) ⟨.inl ⟨rfl, by simp⟩, rfl, rfl⟩
  | some ad =>
    obtain ⟨b, rfl⟩ := r5 _ rfl
    refine A_loopu (fun m s => ∃ i : Nat, m = n - i ∧ i ≤ n ∧ (∀ y ∈ rows.take i, y.2 ≠ []) ∧ s = ixfSt H b n cp i css) ?_ ?_
    · exact Shift.to ⟨_, 0, rfl, by omega, by simp, rfl⟩ ⟨rfl, rfl, rfl, ⟨rfl, rfl, rfl, rfl, trivial⟩, Own.subi [0] (by decide) rfl rfl⟩
    · rintro m s ⟨i, rfl, hi, hall, rfl⟩
      by_cases hlt : i < n
      · have hget : css[i]? = some css[i] := List.getElem?_eq_getElem (by omega)
        obtain ⟨x, hxi, hxc⟩ := hcss.get hget
        generalize css[i] = cs at *
        have hcall := Normal1_fn hxc
        obtain ⟨pa, pn, pc, da, dn, dc, la, ln, lc, ca, cn, cc, rfl, _⟩ := hxc.cells
        repeat' (first | (refine O_ev WideF.wide rfl (Ev_loadR (q := 0) rfl rfl hget (by simp) rfl) rfl rfl ?_) | (refine O_ef rfl (Ef_callvp WideF.wide hcall rfl ⟨rfl, trivial⟩ rfl ?_)) | refine O_nil ?_ | refine A_seq ?_ | refine A_region ?_ | refine A_skip ?_ | refine A_ret ?_ | refine A_block ?_ | (show opsA _ _ _ _ _ _ _; first | refine O_ev WideF.wide rfl (Ev_pure rfl) rfl rfl ?_ | (show opsA _ _ _ _ (⟨_, .indexAddr _ _ _, _, _, _, _⟩ :: _) _ _; refine O_ev WideF.wide rfl (Ev_indexAddr rfl rfl (by omega) (by omega)) rfl rfl ?_) | (show opsA _ _ _ _ (⟨_, .binOp _ _ _ _ _, _, _, _, _⟩ :: _) _ _; refine O_ev WideF.wide rfl (Ev_add rfl rfl (wi64 (by omega))) rfl rfl ?_)) | (show wpA _ _ _ (.cond _ _ _) _ _ _ _; (refine A_if rfl (fun h => ?_) (fun h => ?_) <;> try (exfalso; omega))))
        · exact End_m (Ret1 rfl rfl) ⟨.inr ⟨i, x, by omega, rfl, hxi, by assumption, hall⟩, rfl, rfl⟩
        · refine Shift.to ⟨_, ?_, i + 1, rfl, by omega, ?_, rfl⟩ ⟨rfl, rfl, rfl, ⟨rfl, rfl, rfl, rfl, trivial⟩, Own.subi [0] (by decide) rfl rfl⟩
          · omega
          · intro y hy
            rw [take_get hxi] at hy
            rcases List.mem_append.1 hy with h | h
            · exact hall y h
            · simp at h; subst h; assumption
      · have hin : n = i := by omega
        subst hin
        rw [show rows.take n = rows by rw [← hn, hrl, List.take_length]] at hall
        repeat' (first | refine O_nil ?_ | refine A_seq ?_ | refine A_region ?_ | refine A_ret ?_ | (show opsA _ _ _ _ _ _ _; refine O_ev WideF.wide rfl (Ev_pure rfl) rfl rfl ?_) | (show wpA _ _ _ (.exit _) _ _ _ _; refine A_exit rfl ?_) | (show wpA _ _ _ (.cond _ _ _) _ _ _ _; (refine A_if rfl (fun h => ?_) (fun h => ?_) <;> try (exfalso; omega))))
        exact End_m (Ret1 rfl rfl) ⟨.inl ⟨rfl, hall⟩, rfl, rfl⟩

def keepR (rows : List Row) : List Row := rows.filter fun x => decide (x.2 ≠ [])
theorem keepR_all {rows : List Row} (h : ∀ x ∈ rows, x.2 ≠ []) : keepR rows = rows := List.filter_eq_self.2 fun x hx => decide_eq_true (h x hx)
theorem keepR_append (a b : List Row) : keepR (a ++ b) = keepR a ++ keepR b := List.filter_append ..
theorem keepR_len (a : List Row) : (keepR a).length ≤ a.length := List.length_filter_le ..
abbrev delSt (H : Hp) (b n cp i j : Nat) (css : List (List Value)) : Sta := ⟨42, [(0, .slice (some ⟨b, 0, none⟩) n cp), (1, .func (.func 100) #[] #[]), (5, .int .i64 i), (6, .int .i64 j)], H, [.row (.slice (some ⟨b, 0, none⟩) n cp) 6 css], [], []⟩
set_option maxRecDepth 100000 in
theorem DeleteFunc_fn {H : Hp} {a : Option Addr} {n cp : Nat} {css : List (List Value)} {rows : List Row} (hcss : All2 (RowH H) css rows) (hn : css.length = n) (hl : n < 68719476736) :
    Fn Tryz.prog 98 [.slice a n cp, .func (.func 100) #[] #[]] H [.row (.slice a n cp) 6 css] fun v H' I' => H' = H ∧ ∃ oa oc css', v = .slice oa css'.length oc ∧ I' = [.row v 6 css'] ∧ All2 (RowH H) css' (keepR rows) := by
  have hrl := hcss.length
  have hix := IndexFunc_fn (a := a) (cp := cp) hcss hn hl
  refine Fn_of _ _ Tryz.func98 rfl Tryz.ntmps98 rfl fun c => ?_
  repeat' (first | (refine O_ef rfl (Ef_call0 WideF.wide hix ⟨rfl, rfl, trivial⟩ rfl ?_); rintro v H1 I1 hle1 ⟨⟨rfl, hall⟩ | ⟨i, x, hil, rfl, hxi, hxe, hall⟩, rfl, rfl⟩) | refine O_nil ?_ | refine A_seq ?_ | refine A_region ?_ | refine A_skip ?_ | refine A_ret ?_ | refine A_block ?_ | (show opsA _ _ _ _ _ _ _; first | refine O_ev WideF.wide rfl (Ev_pure rfl) rfl rfl ?_ | (show opsA _ _ _ _ (⟨_, .binOp _ _ _ _ _, _, _, _, _⟩ :: _) _ _; refine O_ev WideF.wide rfl (Ev_add rfl rfl (wi64 (by omega))) rfl rfl ?_)) | (show wpA _ _ _ (.cond _ _ _) _ _ _ _; (refine A_if rfl (fun h => ?_) (fun h => ?_) <;> try (exfalso; omega))))
  · exact End_m (Ret1 rfl rfl) ⟨rfl, a, cp, css, by rw [hn], rfl, by rw [keepR_all hall]; exact hcss⟩
  · have hin : i < n := by omega
    refine A_rowaddr (q := 0) rfl ?_
    intro r1 r2 r3 r4 r5
    obtain ⟨b, rfl⟩ : ∃ b, a = some ⟨b, 0, none⟩ := by
      cases a with
      | none => have := (r3 rfl).1; rw [this] at hn; simp at hn; omega
      | some ad => obtain ⟨b, rfl⟩ := r5 _ rfl; exact ⟨b, rfl⟩
    have hk0 : keepR (rows.take (i + 1)) = rows.take i := by
      rw [take_get hxi, keepR_append, keepR_all hall]
      simp [keepR, hxe]
    refine A_loopu (fun m s => ∃ (i j : Nat) (css' : List (List Value)), m = n - j ∧ i < j ∧ j ≤ n ∧ css'.length = n ∧ All2 (RowH H1) (css'.take i) (keepR (rows.take j)) ∧ css'.drop j = css.drop j ∧ s = delSt H1 b n cp i j css') ?_ ?_
    · exact Shift.to ⟨_, i, i + 1, css, rfl, by omega, by omega, hn, by rw [hk0]; exact hcss.take i, rfl, rfl⟩ ⟨rfl, rfl, rfl, ⟨rfl, rfl, rfl, rfl, trivial⟩, Own.subi [0] (by decide) rfl rfl⟩
    · rintro m s ⟨i, j, css', rfl, hij, hj, hcn, hkeep, hdrop, rfl⟩
      by_cases hlt : j < n
      · have hget : css[j]? = some css[j] := List.getElem?_eq_getElem (by omega)
        have hget' : css'[j]? = some css[j] := by
          have h1 : (css'.drop j)[0]? = (css.drop j)[0]? := by rw [hdrop]
          simpa [List.getElem?_drop, hget] using h1
        obtain ⟨y, hyj, hyc⟩ := hcss.get hget
        generalize css[j] = cs at *
        have hcall := Normal1_fn hyc
        have hone := hyc.one
        obtain ⟨pa, pn, pc, da, dn, dc, la, ln, lc, ca, cn, cc, rfl, _⟩ := hyc.cells
        refine A_rowaddr (q := 0) rfl ?_
        intro q1 q2 q3 q4 q5
        have hgi : css'[i]? = some css'[i] := List.getElem?_eq_getElem (by omega)
        have hci : css'[i].length = 6 := q4 _ (List.getElem_mem _)
        repeat' (first | (refine O_ev WideF.wide rfl (Ev_loadR (q := 0) rfl rfl hget' (by simp) rfl) rfl rfl ?_) | (refine O_ef rfl (Ef_callvp WideF.wide hcall rfl ⟨rfl, trivial⟩ rfl ?_)) | (refine O_f1 (O_ef rfl (Ef_storeR WideF.wide (dd := 0) rfl rfl hgi (by simp) rfl hone (Nat.le_of_ble_eq_true rfl) rfl ?_))) | refine O_nil ?_ | refine A_seq ?_ | refine A_region ?_ | refine A_skip ?_ | refine A_block ?_ | (show opsA _ _ _ _ _ _ _; first | refine O_ev WideF.wide rfl (Ev_pure rfl) rfl rfl ?_ | (show opsA _ _ _ _ (⟨_, .load _ _, _, _, _, _⟩ :: _) _ _; refine O_ev WideF.wide rfl (Ev_loadB (i := 0) rfl rfl rfl) rfl rfl ?_) | (show opsA _ _ _ _ (⟨_, .indexAddr _ _ _, _, _, _, _⟩ :: _) _ _; refine O_ev WideF.wide rfl (Ev_indexAddr rfl rfl (by omega) (by omega)) rfl rfl ?_) | (show opsA _ _ _ _ (⟨_, .call _, _, _, _, _⟩ :: _) _ _; refine O_ev WideF.wide rfl (Ev_llen rfl) rfl rfl ?_) | (show opsA _ _ _ _ (⟨_, .binOp _ _ _ _ _, _, _, _, _⟩ :: _) _ _; refine O_ev WideF.wide rfl (Ev_add rfl rfl (wi64 (by omega))) rfl rfl ?_) | (show opsA _ _ _ _ (⟨_, .unOp _ _ _, _, _, _, _⟩ :: _) _ _; refine O_ev WideF.wide rfl (Ev_not rfl) rfl rfl ?_) | (show opsA _ _ _ _ (⟨_, .alloc _, _, _, _, _⟩ :: _) _ _; (refine O_ef rfl (Ef_alloc WideF.wide rfl ?_); intro b)) | (show opsA _ _ _ _ (⟨_, .store _ _ _, _, _, _, _⟩ :: _) _ _; refine O_ef rfl (Ef_storew WideF.wide rfl rfl rfl rfl rfl ?_))) | (show wpA _ _ _ (.cond _ _ _) _ _ _ _; (refine A_if rfl (fun h => ?_) (fun h => ?_) <;> try (exfalso; omega))))
        · have hst : css'.set i (cput css'[i] 0 [.slice pa pn pc, .int .i64 y.1.ins, .int .i64 y.1.move, .slice da dn dc, .slice la ln lc, .slice ca cn cc]) = css'.set i [.slice pa pn pc, .int .i64 y.1.ins, .int .i64 y.1.move, .slice da dn dc, .slice la ln lc, .slice ca cn cc] := by
            congr 1
            simp [cput, hci]
          refine Shift.to ⟨_, ?_, i + 1, j + 1, _, rfl, by omega, by omega, ?_, ?_, ?_, rfl⟩ ⟨rfl, rfl, rfl, ⟨rfl, rfl, rfl, rfl, trivial⟩, Own.subi [0] (by decide) rfl rfl⟩
          · omega
          · simp [hcn]
          · rw [hst, take_get hyj, keepR_append, List.take_succ_eq_append_getElem (by simp; omega)]
            refine All2.append ?_ ?_
            · rw [List.take_set_of_le (by omega)]; exact hkeep
            · rw [List.getElem_set_self]
              have : keepR [y] = [y] := by simp [keepR]; assumption
              rw [this]; exact All2.one hyc
          · rw [hst, List.drop_set_of_lt (by omega), ← List.drop_drop, hdrop, List.drop_drop]
        · refine Shift.to ⟨_, ?_, i, j + 1, css', rfl, by omega, by omega, hcn, ?_, ?_, rfl⟩ ⟨rfl, rfl, rfl, ⟨rfl, rfl, rfl, rfl, trivial⟩, Own.subi [1] (by decide) rfl rfl⟩
          · omega
          · have : keepR [y] = [] := by simp [keepR]; exact Decidable.not_not.1 (by assumption)
            rw [take_get hyj, keepR_append, this, List.append_nil]; exact hkeep
          · rw [← List.drop_drop, hdrop, List.drop_drop]
      · have hjn : n = j := by omega
        subst hjn
        rw [show rows.take n = rows by rw [← hn, hrl, List.take_length]] at hkeep
        repeat' (first | (refine O_ev WideF.wide rfl (Ev_lslicel rfl rfl (by omega) (by omega)) rfl rfl ?_) | (refine O_ev WideF.wide rfl (Ev_lsliceh rfl rfl (by omega) (by omega)) rfl rfl ?_) | (refine O_ef rfl (Ef_clearR WideF.wide (j := i) rfl (by omega) (.inr ⟨b, rfl, by rw [if_neg (by omega)]; simp [Addr.add_lit]⟩) rfl (List.all_eq_true.1 rfl) ?_)) | refine O_nil ?_ | refine A_seq ?_ | refine A_region ?_ | refine A_ret ?_ | (show opsA _ _ _ _ _ _ _; first | refine O_ev WideF.wide rfl (Ev_pure rfl) rfl rfl ?_ | (show opsA _ _ _ _ (⟨_, .call _, _, _, _, _⟩ :: _) _ _; refine O_ev WideF.wide rfl (Ev_llen rfl) rfl rfl ?_)) | (show wpA _ _ _ (.exit _) _ _ _ _; refine A_exit rfl ?_) | (show wpA _ _ _ (.cond _ _ _) _ _ _ _; (refine A_if rfl (fun h => ?_) (fun h => ?_) <;> try (exfalso; omega))))
        have hlen : (css'.take i).length = i := by rw [List.length_take]; omega
        refine End_s (Ret1 (v := .slice (some ⟨b, 0, none⟩) i cp) rfl rfl) (Shift_cut i (by omega) ?_)
        rw [List.take_append_of_le_length (by omega), List.take_of_length_le (by omega)]
        exact Shift.pure ⟨rfl, rfl, some ⟨b, 0, none⟩, cp, css'.take i, by rw [hlen], rfl, hkeep⟩
end Go.Proofs.YtofkolbnhcckkaaGreat
