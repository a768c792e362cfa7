/-
  run.Normal.
-/
import Derived.Test.YtofkolbnhcckkaaGreatR17
namespace Go.Proofs.YtofkolbnhcckkaaGreat
open Go
set_option linter.unusedVariables false
set_option linter.unusedSimpArgs false
attribute [local irreducible] wpA opsA drJ drQ drE Ef Ev Shift Fn

theorem All2.snoc_inv {α : Type} {R : List Value → α → Prop} {css : List (List Value)} {l : List α} (h : All2 R css l) (hc : css ≠ []) : ∃ dss last ds y, css = dss ++ [last] ∧ l = ds ++ [y] ∧ All2 R dss ds ∧ R last y := by
  induction h with
  | nil => exact absurd rfl hc
  | @cons cs x css l h t ih =>
    by_cases hcs : css = []
    · subst hcs
      cases t
      exact ⟨[], cs, [], x, rfl, rfl, .nil, h⟩
    · obtain ⟨dss, last, ds, y, rfl, rfl, h1, h2⟩ := ih hcs
      exact ⟨cs :: dss, last, x :: ds, y, rfl, rfl, .cons h h1, h2⟩
def textL (l : List Item) : Nat := (l.map fun x => x.text.length).sum
theorem textL_append (a b : List Item) : textL (a ++ b) = textL a + textL b := by simp [textL]
theorem setText_text (x : Item) (t : List UInt8) : (x.setText t).text = t := by cases x; rfl
theorem setText_head (x : Item) (t : List UInt8) : (x.setText t).head = x.head := by cases x; rfl
theorem setText_kind (x : Item) (t : List UInt8) : (x.setText t).kind = x.kind := by cases x; rfl
theorem pushI_nil {x : Item} (h : ¬ (x.kind = 7 ∧ x.rows = [] ∨ x.kind = 1 ∧ x.text = [])) : pushI [] x = [x] := by unfold pushI; rw [if_neg h]; rfl
theorem pushI_no {out : List Item} {x : Item} (h : x.kind = 7 ∧ x.rows = [] ∨ x.kind = 1 ∧ x.text = []) : pushI out x = out := by unfold pushI; rw [if_pos h]
theorem pushI_snoc {ds : List Item} {x y : Item} (h : ¬ (x.kind = 7 ∧ x.rows = [] ∨ x.kind = 1 ∧ x.text = [])) :
    pushI (ds ++ [y]) x = if x.kind = 1 ∧ y.kind = 1 ∧ y.head = x.head then ds ++ [y.setText (y.text ++ x.text)] else ds ++ [y] ++ [x] := by
  unfold pushI
  rw [if_neg h]
  simp
theorem snoc_cases (l : List Item) : l = [] ∨ ∃ ds y, l = ds ++ [y] := by
  cases h : l.getLast? with
  | none => exact .inl (by simpa using h)
  | some y => obtain ⟨ds, rfl⟩ := List.getLast?_eq_some_iff.1 h; exact .inr ⟨ds, y, rfl⟩
theorem pushI_text (out : List Item) (x : Item) : textL (pushI out x) ≤ textL out + x.text.length := by
  by_cases h : x.kind = 7 ∧ x.rows = [] ∨ x.kind = 1 ∧ x.text = []
  · rw [pushI_no h]; omega
  · rcases snoc_cases out with rfl | ⟨ds, y, rfl⟩
    · rw [pushI_nil h]; simp [textL]
    · rw [pushI_snoc h]
      split <;> simp [textL, setText_text] <;> omega
theorem pushI_head {out : List Item} {x y : Item} (hy : y ∈ pushI out x) : (∃ z ∈ out, y.head = z.head) ∨ y.head = x.head := by
  by_cases h : x.kind = 7 ∧ x.rows = [] ∨ x.kind = 1 ∧ x.text = []
  · rw [pushI_no h] at hy; exact .inl ⟨y, hy, rfl⟩
  · rcases snoc_cases out with rfl | ⟨ds, z, rfl⟩
    · rw [pushI_nil h] at hy; simp at hy; subst hy; exact .inr rfl
    · rw [pushI_snoc h] at hy
      split at hy
      · rcases List.mem_append.1 hy with h1 | h1
        · exact .inl ⟨y, by simp [h1], rfl⟩
        · simp at h1; subst h1; exact .inl ⟨z, by simp, setText_head _ _⟩
      · rcases List.mem_append.1 hy with h1 | h1
        · exact .inl ⟨y, h1, rfl⟩
        · simp at h1; subst h1; exact .inr rfl
theorem pushI_len (out : List Item) (x : Item) : (pushI out x).length ≤ out.length + 1 := by
  by_cases h : x.kind = 7 ∧ x.rows = [] ∨ x.kind = 1 ∧ x.text = []
  · rw [pushI_no h]; omega
  · rcases snoc_cases out with rfl | ⟨ds, y, rfl⟩
    · rw [pushI_nil h]; simp
    · rw [pushI_snoc h]
      split <;> simp
theorem normL_snoc {l : List Item} {i : Nat} {x : Item} (h : l[i]? = some x) : normL (l.take (i + 1)) = pushI (normL (l.take i)) (normItem x) := by
  unfold normL
  rw [take_get h]
  simp
theorem normItem_text (x : Item) : (normItem x).text = x.text := by rw [normItem_eq]; rfl
theorem normL_b : ∀ (l : List Item) (i : Nat), textL (normL (l.take i)) ≤ massL l ∧ (normL (l.take i)).length ≤ i
  | l, 0 => by simp [normL, textL]
  | l, i + 1 => by
    have h1 : ∀ (l : List Item) (i : Nat), textL (normL (l.take i)) ≤ textL (l.take i) ∧ (normL (l.take i)).length ≤ i := by
      intro l i
      induction i with
      | zero => simp [normL, textL]
      | succ i ih =>
        cases hx : l[i]? with
        | none =>
          have hle : l.length ≤ i := by simpa using hx
          rw [List.take_of_length_le (by omega)] at ih ⊢
          omega
        | some x =>
          rw [normL_snoc hx, take_get hx, textL_append]
          have h2 := pushI_text (normL (l.take i)) (normItem x)
          have h3 := pushI_len (normL (l.take i)) (normItem x)
          rw [normItem_text] at h2
          have h4 : textL [x] = x.text.length := by simp [textL]
          omega
    have h2 := h1 l (i + 1)
    have h3 : ∀ l : List Item, textL l ≤ massL l := by
      intro l
      induction l with
      | nil => simp [textL]
      | cons x l ih => have := x.mass_eq; simp only [textL, List.map_cons, List.sum_cons, massL] at *; omega
    have h4 := h3 (l.take (i + 1))
    have h5 : massL (l.take (i + 1)) ≤ massL l := by
      have := massL_append (l.take (i + 1)) (l.drop (i + 1))
      rw [List.take_append_drop] at this
      omega
    omega
theorem normItem_head (x : Item) : (normItem x).head = x.head := by rw [normItem_eq]; rfl
theorem normItem_kind (x : Item) : (normItem x).kind = x.kind := by rw [normItem_eq]; rfl
theorem normItem_rows (x : Item) : (normItem x).rows = keepR (x.rows.map normRow) := by rw [normItem_eq]; rfl
theorem normL_head {l : List Item} : ∀ (i : Nat) {y : Item}, y ∈ normL (l.take i) → ∃ x ∈ l, y.head = x.head
  | 0, y, h => by simp [normL] at h
  | i + 1, y, h => by
    cases hx : l[i]? with
    | none =>
      have hle : l.length ≤ i := by simpa using hx
      rw [List.take_of_length_le (by omega)] at h
      exact normL_head i (by rw [List.take_of_length_le (by omega)]; exact h)
    | some x =>
      rw [normL_snoc hx] at h
      rcases pushI_head h with ⟨z, hz, he⟩ | he
      · obtain ⟨x', hx', he'⟩ := normL_head i hz
        exact ⟨x', hx', he.trans he'⟩
      · exact ⟨x, List.mem_of_getElem? hx, he.trans (normItem_head x)⟩
theorem massL_mem' {l : List Item} {x : Item} (h : x ∈ l) : x.text.length + x.head.mass + massL x.flow + massR x.rows < massL l := by
  obtain ⟨i, hi⟩ := List.getElem?_of_mem h
  exact massL_mem hi
abbrev nmSt (H : Hp) (a : Option Addr) (n cp i : Nat) (oa : Option Addr) (on oc : Nat) (css : List (List Value)) : Sta := ⟨93, [(3, .slice oa on oc), (7, .slice a n cp), (8, .int .i64 n), (9, .int .i64 i)], H, [.row (.slice oa on oc) 11 css], [], []⟩
set_option maxHeartbeats 4000000 in
set_option maxRecDepth 100000 in
theorem Normal_step {N : Nat} (hN : NormC N) : NormC (N + 1) := by
  intro H a n cp l hx0 hlN hl
  have hn := hx0.len
  have hml := massL_len l
  refine Fn_of _ _ Tryz.func73 rfl Tryz.ntmps73 rfl fun c => ?_
  refine A_nilrow 11 ?_
  repeat' (first | refine O_nil ?_ | refine A_seq ?_ | refine A_region ?_ | refine A_block ?_ | (show opsA _ _ _ _ _ _ _; first | refine O_ev WideF.wide rfl (Ev_pure rfl) rfl rfl ?_ | (show opsA _ _ _ _ (⟨_, .call _, _, _, _, _⟩ :: _) _ _; refine O_ev WideF.wide rfl (Ev_llen rfl) rfl rfl ?_)))
  refine A_loopu (fun m s => ∃ (H1 : Hp) (i : Nat) (oa : Option Addr) (on oc : Nat) (css : List (List Value)), m = n - i ∧ i ≤ n ∧ HLe H H1 ∧ css.length = on ∧ All2 (ItemH H1) css (normL (l.take i)) ∧ s = nmSt H1 a n cp i oa on oc css) ?_ ?_
  · exact Shift.to ⟨_, H, 0, none, 0, 0, [], rfl, by omega, HLe.refl _, rfl, by simp [normL]; exact .nil, rfl⟩ ⟨rfl, rfl, rfl, ⟨rfl, rfl, rfl, rfl, trivial⟩, Own.subi [0] (by decide) rfl rfl⟩
  · rintro m s ⟨H1, i, oa, on, oc, css, rfl, hi, hle1, hon, hcss, rfl⟩
    have hcl := hcss.length
    have hnb := normL_b l i
    by_cases hlt : i < n
    · have hx := hx0.mono hle1
      obtain ⟨b', o, cs, x, rfl, hxi, hxc, hk, hc⟩ := hx.at i hlt
      have hm := massL_get hxi
      have hm2 := massL_mem hxi
      have hsn := normL_snoc hxi
      obtain ⟨pa, pn, pc, da, dn, dc, la, ln, lc, fa, fn, fc, ra, rn, rc, rfl, h1, h2, h3, h4, h5⟩ := hxc.cells
      have hrn := h5.len
      have hrm := massR_len x.rows
      have hh : HeadH H1 [.slice pa pn pc, .int .i64 x.head.ins, .int .i64 x.head.move, .slice da dn dc, .slice la ln lc] x.head := ⟨pa, pn, pc, da, dn, dc, la, ln, lc, rfl, h1, h2, h3⟩
      have c1 := CloneHead_fn hh (by omega)
      have c2 : ∀ H2, HLe H1 H2 → Fn Tryz.prog 79 [.slice ra rn rc, .func (.func 99) #[] #[]] H2 [] fun v H' I' => ∃ oa oc css, v = .slice oa css.length oc ∧ I' = [.row v 6 css] ∧ All2 (RowH H') css (x.rows.map normRow) := fun H2 hle2 =>
        eachRow_fn (h5.mono hle2) (by omega) fun H3 cs y _ hy hyc => normalRow_fn hN hyc (by have := massR_mem' hy; omega) (by have := massR_mem' hy; omega)
      repeat' (first | (refine O_ef rfl (Ef_call (I := []) WideF.wide c1 ⟨rfl, trivial⟩ rfl ?_); rintro v H2 I2 hle2 ⟨⟨pa', pn', pc', da', dn', dc', la', ln', lc', rfl, r1, r2, r3⟩, rfl⟩) | (refine O_ef rfl (Ef_call (I := []) WideF.wide (hN _ _ _ _ _ (h4.mono hle2) (by omega) (by omega)) ⟨rfl, trivial⟩ rfl ?_); rintro v H3 I3 hle3 ⟨⟨xa, xn, xc, rfl, hf⟩, rfl⟩) | (refine O_ef rfl (Ef_call (I := []) WideF.wide (c2 _ (hle2.trans hle3)) ⟨rfl, rfl, trivial⟩ rfl ?_); rintro v H4 I4 hle4 ⟨ea, ec, ess, rfl, rfl, hess⟩; have hesl := hess.length; simp only [List.length_map] at hesl) | (refine O_ef rfl (Ef_call (I := [_]) WideF.wide (DeleteFunc_fn hess rfl (by omega)) ⟨rfl, rfl, trivial⟩ rfl ?_); rintro v H4' I5 hle5 ⟨rfl, ya, yc, yss, rfl, rfl, hyss⟩; refine O_freeze (hyss.ones fun _ _ h => h.one) ?_; intro H6 hle6 hr6) | refine O_nil ?_ | refine A_seq ?_ | refine A_region ?_ | refine A_skip ?_ | refine A_block ?_ | (show opsA _ _ _ _ _ _ _; first | (refine O_split rfl rfl (fun h => ?_) (fun h => ?_) <;> try (exfalso; omega)) | refine O_ev WideF.wide rfl (Ev_pure rfl) rfl rfl ?_ | (show opsA _ _ _ _ (⟨_, .load _ _, _, _, _, _⟩ :: _) _ _; first | refine O_ev WideF.wide rfl (Ev_loadB1 (i := 0) rfl rfl rfl) rfl rfl ?_ | refine O_ev WideF.wide rfl (Ev_loadBs (i := 0) rfl rfl rfl rfl) rfl rfl ?_ | refine O_ev WideF.wide rfl (Ev_loadH rfl (by assumption) (by rfl)) rfl rfl ?_) | (show opsA _ _ _ _ (⟨_, .indexAddr _ _ _, _, _, _, _⟩ :: _) _ _; refine O_ev WideF.wide rfl (Ev_indexAddr rfl rfl (by omega) (by omega)) rfl rfl ?_) | (show opsA _ _ _ _ (⟨_, .fieldAddr _ _ _, _, _, _, _⟩ :: _) _ _; refine O_ev WideF.wide rfl (Ev_fieldAddr rfl rfl rfl) rfl rfl ?_) | (show opsA _ _ _ _ (⟨_, .call _, _, _, _, _⟩ :: _) _ _; refine O_ev WideF.wide rfl (Ev_llen rfl) rfl rfl ?_) | (show opsA _ _ _ _ (⟨_, .binOp _ _ _ _ _, _, _, _, _⟩ :: _) _ _; first | refine O_ev WideF.wide rfl (Ev_add rfl rfl (wi64 (by omega))) rfl rfl ?_ | refine O_ev WideF.wide rfl (Ev_seql rfl rfl) rfl rfl ?_) | (show opsA _ _ _ _ (⟨_, .alloc _, _, _, _, _⟩ :: _) _ _; (refine O_ef rfl (Ef_alloc WideF.wide rfl ?_); intro b)) | (show opsA _ _ _ _ (⟨_, .store _ _ _, _, _, _, _⟩ :: _) _ _; first | refine O_ef rfl (Ef_storew WideF.wide rfl rfl rfl rfl rfl ?_) | refine O_ef rfl (Ef_store1 WideF.wide rfl rfl rfl rfl rfl ?_) | refine O_ef rfl (Ef_storea WideF.wide rfl rfl rfl rfl rfl rfl ?_)) | refine O_skip WideF.wide rfl rfl rfl ?_) | (show wpA _ _ _ (.cond _ _ _) _ _ _ _; first | (refine A_if rfl (fun h => ?_) (fun h => ?_) <;> try (exfalso; omega)) | refine A_iftrue rfl ?_ | refine A_iffalse rfl ?_))
      any_goals (
        show Shift _ _ _
        have hyl := hyss.length
        have hle16 : HLe H1 H6 := hle2.trans (hle3.trans (hle4.trans (hle5.trans hle6)))
        refine Shift.to ⟨_, ?_, H6, i + 1, oa, on, oc, css, rfl, by omega, hle1.trans hle16, hon, ?_, rfl⟩ ⟨rfl, rfl, rfl, ⟨rfl, rfl, rfl, rfl, trivial⟩, Own.subi [1] (by decide) rfl rfl⟩
        · omega
        · rw [hsn, pushI_no]
          · exact hcss.mono fun _ _ h => h.mono hle16
          · rw [normItem_kind, normItem_rows, normItem_text]
            first | exact .inl ⟨by omega, List.eq_nil_of_length_eq_zero (by omega)⟩ | exact .inr ⟨by omega, by assumption⟩)
      all_goals
        have hyl := hyss.length
        have hle16 : HLe H1 H6 := hle2.trans (hle3.trans (hle4.trans (hle5.trans hle6)))
        have hle36 : HLe H3 H6 := hle4.trans (hle5.trans hle6)
        have hle26 : HLe H2 H6 := hle3.trans hle36
        have hit : ItemH H6 [.int .i64 x.kind, .int .i64 x.code, .int .i64 x.id, sv x.text, .slice pa' pn' pc', .int .i64 x.head.ins, .int .i64 x.head.move, .slice da' dn' dc', .slice la' ln' lc', .slice xa xn xc, .slice ya yss.length yc] (normItem x) := by
          rw [normItem_eq]
          exact ItemH.of (x := .mk x.kind x.code x.id x.text x.head (normL x.flow) (keepR (x.rows.map normRow))) (r1.mono hle26) (r2.mono hle26) (r3.mono hle26) (hf.mono hle36) ⟨yss, hr6, hyss.mono fun _ _ h => h.mono (hle5.trans hle6)⟩
        have hnv : ¬ ((normItem x).kind = 7 ∧ (normItem x).rows = [] ∨ (normItem x).kind = 1 ∧ (normItem x).text = []) := by
          rw [normItem_kind, normItem_rows, normItem_text]
          rintro (⟨q1, q2⟩ | ⟨q1, q2⟩)
          · rw [q2, List.length_nil] at hyl; omega
          · first | omega | exact absurd q2 (by assumption)
        have hcss6 := hcss.mono (R' := ItemH H6) fun _ _ h => h.mono hle16
        refine A_sub (s' := ⟨93, [(3, .slice oa on oc), (5, .pointer (some ⟨b, 0, none⟩)), (6, .int .i64 on), (7, .slice (some ⟨b', o, none⟩) n cp), (8, .int .i64 n), (9, .int .i64 i)], H6, [.box b [.int .i64 x.kind, .int .i64 x.code, .int .i64 x.id, sv x.text, .slice pa' pn' pc', .int .i64 x.head.ins, .int .i64 x.head.move, .slice da' dn' dc', .slice la' ln' lc', .slice xa xn xc, .slice ya yss.length yc], .row (.slice oa on oc) 11 css], [], []⟩) ⟨rfl, rfl, rfl, ⟨rfl, rfl, rfl, rfl, rfl, rfl, trivial⟩, Own.subi [0, 1] (by decide) rfl rfl⟩ ?_
        by_cases hce : css = []
        · subst hce
          have hz : on = 0 := by simpa using hon.symm
          subst hz
          generalize hnl : normL (l.take i) = out at *
          cases hcss6
          rw [pushI_nil hnv] at hsn
          repeat' (first | (refine A_drawi WideF.wide (.q 0 (.q 1 (.q 2 (.q 3 (.q 4 (.q 5 (.q 6 (.q 7 (.q 8 (.q 9 (.q 10 (.q 11 (.q 12 (.q 13 (.q 14 (.q 15 (.q 16 (.q 17 (.q 18 (.q 19 (.q 20 (.q 21 (.q 22 (.q 23 (.q 24 (.e 25 (.q 26 (.q 27 (.done []))))))))))))))))))))))))))))) [] [] [0, 1] (by decide +kernel) (by decide) rfl ?_; simp only [Own.picks, Own.rget, List.cons_append, List.nil_append, List.append_nil]) | (refine O_f2 (O_ef rfl (Ef_appendR WideF.wide rfl rfl rfl rfl rfl (by simp) (by simp) rfl ?_)); intro a' cp') | refine O_nil ?_ | refine A_region ?_ | (show drJ _ _ _ _ _ _ _ (.q _ _) _; refine D_q rfl ?_) | (show drJ _ _ _ _ _ _ _ (.e _ _) _; refine D_e rfl ?_) | (show drJ _ _ _ _ _ _ _ (.done _) _; refine D_done ?_; simp only [List.cons_append, List.nil_append]) | (show drQ _ _ _ _ _ _; first | (refine D_split rfl rfl (fun h => ?_) (fun h => ?_) <;> try (exfalso; omega)) | refine D_ev rfl (Ev_pure rfl) rfl rfl ?_ | (show drQ _ _ _ ⟨_, .load _ _, _, _, _, _⟩ _ _; refine D_ev rfl (Ev_loadB1 (i := 0) rfl rfl rfl) rfl rfl ?_) | (show drQ _ _ _ ⟨_, .fieldAddr _ _ _, _, _, _, _⟩ _ _; refine D_ev rfl (Ev_fieldAddr rfl rfl rfl) rfl rfl ?_) | refine D_skip rfl rfl rfl ?_) | (show drE _ _ _ _ _ _ _; refine E_skip rfl rfl rfl ?_) | (show opsA _ _ _ _ _ _ _; first | refine O_ev WideF.wide rfl (Ev_pure rfl) rfl rfl ?_ | (show opsA _ _ _ _ (⟨_, .load _ _, _, _, _, _⟩ :: _) _ _; refine O_ev WideF.wide rfl (Ev_loadB (i := 0) rfl rfl rfl) rfl rfl ?_) | (show opsA _ _ _ _ (⟨_, .buildSlice _ _ _, _, _, _, _⟩ :: _) _ _; (refine O_ef rfl (Ef_build1a WideF.wide rfl rfl rfl rfl rfl ?_); intro b)) | (show opsA _ _ _ _ (⟨_, .binOp _ _ _ _ _, _, _, _, _⟩ :: _) _ _; refine O_ev WideF.wide rfl (Ev_add rfl rfl (wi64 (by omega))) rfl rfl ?_)) | (show wpA _ _ _ (.cond _ _ _) _ _ _ _; refine A_iffalse rfl ?_))
          all_goals
            refine Shift.to ⟨_, ?_, H6, i + 1, _, _, _, _, rfl, by omega, hle1.trans hle16, rfl, ?_, rfl⟩ ⟨rfl, rfl, rfl, ⟨rfl, rfl, rfl, rfl, trivial⟩, Own.subi [0] (by decide) rfl rfl⟩
            · omega
            · rw [hsn]; exact All2.one hit
        · obtain ⟨dss, last, ds, y, rfl, hds, hdss, hly⟩ := hcss6.snoc_inv hce
          have hon' : on = dss.length + 1 := by rw [← hon]; simp
          have hym : y.head.mass < 68719476736 := by
            obtain ⟨z, hz, hzh⟩ := normL_head i (show y ∈ normL (l.take i) by rw [hds]; simp)
            have := massL_mem' hz
            rw [hzh]; omega
          have hyt : y.text.length ≤ massL l := by
            have := hnb.1
            rw [hds, textL_append] at this
            simp [textL] at this
            omega
          rw [hds, pushI_snoc hnv, normItem_kind, normItem_head, normItem_text] at hsn
          have hget : (dss ++ [last])[dss.length]? = some last := snoc_at _ _
          have hth : HeadH H6 [.slice pa' pn' pc', .int .i64 x.head.ins, .int .i64 x.head.move, .slice da' dn' dc', .slice la' ln' lc'] x.head := ⟨_, _, _, _, _, _, _, _, _, rfl, r1.mono hle26, r2.mono hle26, r3.mono hle26⟩
          obtain ⟨qa, qn, qc, ua, un, uc, va, vn, vc, wa, wn, wc, za, zn, zc, rfl, y1, y2, y3, _⟩ := hly.cells
          have hyh : HeadH H6 [.slice qa qn qc, .int .i64 y.head.ins, .int .i64 y.head.move, .slice ua un uc, .slice va vn vc] y.head := ⟨_, _, _, _, _, _, _, _, _, rfl, y1, y2, y3⟩
          have heq := EqualHead_fn hyh hth hym
          refine A_rowaddr (q := 1) rfl ?_
          intro e1 e2 e3 e4 e5
          obtain ⟨ob, rfl⟩ : ∃ ob, oa = some ⟨ob, 0, none⟩ := by
            cases oa with
            | none => have := (e3 rfl).1; simp at this
            | some ad => obtain ⟨ob, rfl⟩ := e5 _ rfl; exact ⟨ob, rfl⟩
          repeat' (first | (refine A_drawi WideF.wide (.q 0 (.q 1 (.q 2 (.q 3 (.q 4 (.q 5 (.q 6 (.q 7 (.q 8 (.q 9 (.q 10 (.q 11 (.q 12 (.q 13 (.q 14 (.q 15 (.q 16 (.q 17 (.q 18 (.q 19 (.q 20 (.q 21 (.q 22 (.q 23 (.q 24 (.e 25 (.q 26 (.q 27 (.done []))))))))))))))))))))))))))))) [] [] [0, 1] (by decide +kernel) (by decide) rfl ?_; simp only [Own.picks, Own.rget, List.cons_append, List.nil_append, List.append_nil]) | (refine A_drawi WideF.wide (.q 0 (.p 1 (.q 2 (.q 3 (.q 4 (.q 5 (.q 6 (.q 7 (.r (.q 8 (.q 9 (.q 10 (.e 11 (.done [])))))))))))))) [8, 9, 10, 11] [] [0, 1] (by decide +kernel) (by decide) rfl ?_; simp only [Own.picks, Own.rget, List.cons_append, List.nil_append, List.append_nil]) | (refine D_ev rfl (Ev_loadR1 (q := 1) (d := 0) rfl rfl hget (by omega) rfl) rfl rfl ?_) | (refine D_ev rfl (Ev_loadR1 (q := 1) (d := 3) rfl rfl hget (by omega) rfl) rfl rfl ?_) | (refine D_ev rfl (Ev_loadRs (q := 1) (d := 4) rfl rfl hget (by omega) rfl rfl) rfl rfl ?_) | (refine E_ef rfl (Ef_callp WideF.wide heq ⟨rfl, rfl, trivial⟩ rfl ?_); refine ⟨Grow.same rfl rfl, ?_⟩) | (refine E_ef rfl (Ef_f1 (Ef_storeR1 WideF.wide (dd := 3) rfl rfl hget (by omega) rfl rfl rfl rfl ?_)); refine ⟨Grow.same rfl rfl, ?_⟩) | refine O_nil ?_ | refine A_region ?_ | (show drJ _ _ _ _ _ _ _ (.q _ _) _; refine D_q rfl ?_) | (show drJ _ _ _ _ _ _ _ (.e _ _) _; refine D_e rfl ?_) | (show drJ _ _ _ _ _ _ _ (.r _) _; refine D_r ?_; simp only [List.cons_append, List.nil_append]) | (show drJ _ _ _ _ _ _ _ (.done _) _; refine D_done ?_; simp only [List.cons_append, List.nil_append]) | (show drQ _ _ _ _ _ _; first | (refine D_split rfl rfl (fun h => ?_) (fun h => ?_) <;> try (exfalso; omega)) | refine D_ev rfl (Ev_pure rfl) rfl rfl ?_ | (show drQ _ _ _ ⟨_, .load _ _, _, _, _, _⟩ _ _; first | refine D_ev rfl (Ev_loadB1 (i := 0) rfl rfl rfl) rfl rfl ?_ | refine D_ev rfl (Ev_loadBs (i := 0) rfl rfl rfl rfl) rfl rfl ?_) | (show drQ _ _ _ ⟨_, .indexAddr _ _ _, _, _, _, _⟩ _ _; refine D_ev rfl (Ev_indexAddr rfl rfl (by omega) (by omega)) rfl rfl ?_) | (show drQ _ _ _ ⟨_, .fieldAddr _ _ _, _, _, _, _⟩ _ _; refine D_ev rfl (Ev_fieldAddr rfl rfl rfl) rfl rfl ?_) | (show drQ _ _ _ ⟨_, .binOp _ _ _ _ _, _, _, _, _⟩ _ _; first | refine D_ev rfl (Ev_sub rfl rfl (wi64 (by omega))) rfl rfl ?_ | refine D_ev rfl (Ev_scat rfl rfl (by omega)) rfl rfl ?_) | refine D_skip rfl rfl rfl ?_) | (show drJ _ _ _ _ _ _ _ (.p _ _) _; refine D_p rfl ?_) | (show drP _ _ _ _ _ _; refine D_pv rfl (Ev_pure rfl) rfl rfl ?_) | (show drE _ _ _ _ _ _ _; refine E_skip rfl rfl rfl ?_) | (show opsA _ _ _ _ _ _ _; first | refine O_ev WideF.wide rfl (Ev_pure rfl) rfl rfl ?_ | (show opsA _ _ _ _ (⟨_, .load _ _, _, _, _, _⟩ :: _) _ _; refine O_ev WideF.wide rfl (Ev_loadB (i := 0) rfl rfl rfl) rfl rfl ?_) | (show opsA _ _ _ _ (⟨_, .call _, _, _, _, _⟩ :: _) _ _; (refine O_f2 (O_ef rfl (Ef_appendR WideF.wide rfl rfl rfl rfl rfl (by simp; omega) (by simp; omega) rfl ?_)); intro a cp)) | (show opsA _ _ _ _ (⟨_, .buildSlice _ _ _, _, _, _, _⟩ :: _) _ _; (refine O_ef rfl (Ef_build1a WideF.wide rfl rfl rfl rfl rfl ?_); intro b)) | (show opsA _ _ _ _ (⟨_, .binOp _ _ _ _ _, _, _, _, _⟩ :: _) _ _; refine O_ev WideF.wide rfl (Ev_add rfl rfl (wi64 (by omega))) rfl rfl ?_)) | (show wpA _ _ _ (.cond _ _ _) _ _ _ _; first | (refine A_if rfl (fun h => ?_) (fun h => ?_) <;> try (exfalso; omega)) | refine A_iffalse rfl ?_))
          all_goals first
            | (refine Shift.to ⟨_, ?_, H6, i + 1, some ⟨ob, 0, none⟩, on, oc, _, rfl, by omega, hle1.trans hle16, ?_, ?_, rfl⟩ ⟨rfl, rfl, rfl, ⟨rfl, rfl, rfl, rfl, trivial⟩, Own.subi [0] (by decide) rfl rfl⟩
               · omega
               · simp; omega
               · rw [hsn, if_pos ⟨by assumption, by assumption, by assumption⟩, snoc_set]
                 exact hdss.append (All2.one hly.setText))
            | (refine Shift.to ⟨_, ?_, H6, i + 1, _, _, _, _, rfl, by omega, hle1.trans hle16, rfl, ?_, rfl⟩ ⟨rfl, rfl, rfl, ⟨rfl, rfl, rfl, rfl, trivial⟩, Own.subi [0] (by decide) rfl rfl⟩
               · omega
               · rw [hsn, if_neg (by rintro ⟨q1, q2, q3⟩; first | omega | exact absurd q1 (by assumption) | exact absurd q2 (by assumption) | exact absurd q3 (by assumption))]
                 exact (hdss.append (All2.one hly)).append (All2.one hit))
    · have hin : n = i := by omega
      subst hin
      have htk : l.take n = l := by rw [← hn, List.take_length]
      rw [htk] at hcss
      repeat' (first | refine O_nil ?_ | refine A_seq ?_ | refine A_region ?_ | refine A_ret ?_ | (show opsA _ _ _ _ _ _ _; refine O_ev WideF.wide rfl (Ev_pure rfl) rfl rfl ?_) | (show wpA _ _ _ (.exit _) _ _ _ _; refine A_exit rfl ?_) | (show wpA _ _ _ (.cond _ _ _) _ _ _ _; (refine A_if rfl (fun h => ?_) (fun h => ?_) <;> try (exfalso; omega))))
      exact End_row (Ret1 rfl rfl) hcss.one_all fun H' hle hr => ⟨⟨oa, on, oc, rfl, ⟨css, hr, hcss.mono fun _ _ h => h.mono hle⟩⟩, rfl⟩
theorem Normal_all : ∀ N, NormC N
  | 0 => fun _ _ _ _ _ _ h => absurd h (by omega)
  | N + 1 => Normal_step (Normal_all N)
/-- run.Normal returns the normal form -/
theorem Normal_fn {H : Hp} {a : Option Addr} {n cp : Nat} {l : List Item} (hx : FlowH H a n cp l) (hl : massL l < 68719476736) : Fn Tryz.prog 73 [.slice a n cp] H [] fun v H' I' => (∃ oa on oc, v = .slice oa on oc ∧ FlowH H' oa on oc (normL l)) ∧ I' = [] :=
  Normal_all (massL l + 1) H a n cp l hx (by omega) hl
end Go.Proofs.YtofkolbnhcckkaaGreat
