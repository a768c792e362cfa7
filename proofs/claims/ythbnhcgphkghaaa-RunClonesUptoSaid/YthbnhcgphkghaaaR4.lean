/-
  The reference's units.
-/
import Derived.Test.YthbnhcgphkghaaaR3
namespace Go.Proofs.Ythbnhcgphkghaaa
open Go
set_option linter.unusedVariables false
set_option linter.unusedSimpArgs false
attribute [local irreducible] wpA opsA drJ drQ drE Ef Ev Shift Fn

def Item.setText : Item → List UInt8 → Item
  | .mk k c i _ h f r, t => .mk k c i t h f r
theorem ItemH.setText {H : Hp} {x : Item} {pa : Option Addr} {pn pc : Nat} {da : Option Addr} {dn dc : Nat} {la : Option Addr} {ln lc : Nat} {fa : Option Addr} {fn fc : Nat} {ra : Option Addr} {rn rc : Nat} {s t : List UInt8}
    (h : ItemH H [.int .i64 x.kind, .int .i64 x.code, .int .i64 x.id, sv s, .slice pa pn pc, .int .i64 x.head.ins, .int .i64 x.head.move, .slice da dn dc, .slice la ln lc, .slice fa fn fc, .slice ra rn rc] x) :
    ItemH H [.int .i64 x.kind, .int .i64 x.code, .int .i64 x.id, sv t, .slice pa pn pc, .int .i64 x.head.ins, .int .i64 x.head.move, .slice da dn dc, .slice la ln lc, .slice fa fn fc, .slice ra rn rc] (x.setText t) := by
  obtain ⟨pa', pn', pc', da', dn', dc', la', ln', lc', fa', fn', fc', ra', rn', rc', he, h1, h2, h3, h4, h5⟩ := h.cells
  cases x
  simp only [List.cons.injEq, Value.slice.injEq] at he
  obtain ⟨_, _, _, _, ⟨rfl, rfl, rfl⟩, _, _, ⟨rfl, rfl, rfl⟩, ⟨rfl, rfl, rfl⟩, ⟨rfl, rfl, rfl⟩, ⟨rfl, rfl, rfl⟩, _⟩ := he
  exact ItemH.of (x := .mk _ _ _ t _ _ _) h1 h2 h3 h4 h5
theorem ItemH.one {H : Hp} {cs : List Value} {x : Item} (h : ItemH H cs x) : ∀ u ∈ cs, u.oneCell' = true := by
  obtain ⟨pa', pn', pc', da', dn', dc', la', ln', lc', fa', fn', fc', ra', rn', rc', rfl, _⟩ := h.cells
  intro u hu
  simp at hu
  rcases hu with rfl | rfl | rfl | rfl | rfl | rfl | rfl | rfl | rfl | rfl | rfl <;> rfl
theorem All2.one_all {H : Hp} {css : List (List Value)} {l : List Item} (h : All2 (ItemH H) css l) : ∀ cs ∈ css, ∀ u ∈ cs, u.oneCell' = true := by
  induction h with
  | nil => simp
  | cons h t ih => intro cs hcs; rcases List.mem_cons.1 hcs with rfl | hcs; exact h.one; exact ih cs hcs
/-- the items of one unit each -/
def Item.split (x : Item) : List Item := if x.kind = 1 then (charsOf x.text).map x.setText else [x]
def unitsL (l : List Item) : List Item := l.flatMap Item.split
theorem charsOf_len (l : List UInt8) : (charsOf l).length ≤ l.length := by
  by_cases h : valid l
  · have h1 := nchars_heads h
    have h2 := heads_length_le l 0
    unfold nchars at h1
    unfold charsOf
    omega
  · unfold valid at h
    unfold charsOf
    simp at h
    simp [h]
theorem split_len (x : Item) : x.split.length ≤ x.mass := by
  have := charsOf_len x.text
  have := x.mass_eq
  unfold Item.split
  split <;> simp <;> omega
theorem unitsL_append (a b : List Item) : unitsL (a ++ b) = unitsL a ++ unitsL b := by simp [unitsL]
theorem unitsL_len (l : List Item) : (unitsL l).length ≤ massL l := by
  induction l with
  | nil => simp [unitsL]
  | cons x l ih => have := split_len x; simp only [unitsL, List.flatMap_cons, List.length_append, massL] at *; omega

abbrev unSt (H : Hp) (a : Option Addr) (n cp i : Nat) (oa : Option Addr) (oc : Nat) (css : List (List Value)) : Sta := ⟨60, [(0, .slice a n cp), (4, .slice oa css.length oc), (5, .int .i64 i)], H, [.row (.slice oa css.length oc) 11 css], [], []⟩
abbrev unSt2 (H : Hp) (a : Option Addr) (n cp i : Nat) (oa : Option Addr) (oc : Nat) (css : List (List Value)) (ca : Option Addr) (cn cc k : Nat) : Sta := ⟨60, [(0, .slice a n cp), (4, .slice oa css.length oc), (5, .int .i64 i), (6, .slice ca cn cc), (8, .int .i64 k)], H, [.row (.slice oa css.length oc) 11 css], [], []⟩
set_option maxRecDepth 100000 in
theorem Units_fn {H : Hp} {a : Option Addr} {n cp : Nat} {l : List Item} (hx0 : FlowH H a n cp l) (hl : massL l < 68719476736) : Fn Try.prog 18 [.slice a n cp] H [] fun v H' I' => (∃ oa on oc, v = .tuple [.slice oa on oc, .bool (decide (okL l))].toArray ∧ FlowH H' oa on oc (if okL l then unitsL l else [])) ∧ I' = [] := by
  have hn := hx0.len
  have hll := massL_len l
  refine Fn_of _ _ Try.func18 rfl Try.ntmps18 rfl fun c => ?_
  refine A_nilrow 11 ?_
  repeat' (first | refine O_nil ?_ | refine A_seq ?_ | refine A_region ?_ | refine A_block ?_ | (show opsA _ _ _ _ _ _ _; refine O_ev WideF.wide rfl (Ev_pure rfl) rfl rfl ?_))
  refine A_loopu (fun m s => ∃ (H1 : Hp) (i : Nat) (oa : Option Addr) (oc : Nat) (css : List (List Value)), m = n - i ∧ i ≤ n ∧ HLe H H1 ∧ okL (l.take i) ∧ All2 (ItemH H1) css (unitsL (l.take i)) ∧ s = unSt H1 a n cp i oa oc css) ?_ ?_
  · exact Shift.to ⟨_, H, 0, none, 0, [], rfl, by omega, HLe.refl _, by simp [okL], by simp [unitsL]; exact .nil, rfl⟩ ⟨rfl, rfl, rfl, ⟨rfl, rfl, rfl, trivial⟩, Own.subi [0] (by decide) rfl rfl⟩
  · rintro m s ⟨H1, i, oa, oc, css, rfl, hi, hle1, hok, hcss, rfl⟩
    have hx := hx0.mono hle1
    have hcl := hcss.length
    have hul := unitsL_len (l.take i)
    by_cases hlt : i < n
    · obtain ⟨b', o, cs, x, rfl, hxi, hxc, hk, hc⟩ := hx.at i hlt
      have hm := massL_get hxi
      have hm2 := massL_mem hxi
      have ht2 : unitsL (l.take (i + 1)) = unitsL (l.take i) ++ x.split := by rw [take_get hxi, unitsL_append]; simp [unitsL]
      have hchr := Characters_fn H1 x.text (by omega)
      obtain ⟨pa, pn, pc, da, dn, dc, la, ln, lc, fa, fn, fc, ra, rn, rc, rfl, _⟩ := hxc.cells
      repeat' (first | (refine O_ef rfl (Ef_call (I := []) WideF.wide hchr ⟨rfl, trivial⟩ rfl ?_); rintro u H2 I' hle2 ⟨⟨ca, cn, cc, rfl, hcr⟩, rfl⟩) | refine O_nil ?_ | refine A_seq ?_ | refine A_region ?_ | refine A_skip ?_ | refine A_ret ?_ | refine A_block ?_ | (show opsA _ _ _ _ _ _ _; first | refine O_ev WideF.wide rfl (Ev_pure rfl) rfl rfl ?_ | (show opsA _ _ _ _ (⟨_, .load _ _, _, _, _, _⟩ :: _) _ _; first | refine O_ev WideF.wide rfl (Ev_loadH1 rfl (hc 0 _ rfl)) rfl rfl ?_ | refine O_ev WideF.wide rfl (Ev_loadH1 rfl (hc 3 _ rfl)) rfl rfl ?_ | refine O_ev WideF.wide rfl (Ev_loadH rfl (by assumption) (by rfl)) rfl rfl ?_) | (show opsA _ _ _ _ (⟨_, .indexAddr _ _ _, _, _, _, _⟩ :: _) _ _; refine O_ev WideF.wide rfl (Ev_indexAddr rfl rfl (by omega) (by omega)) rfl rfl ?_) | (show opsA _ _ _ _ (⟨_, .fieldAddr _ _ _, _, _, _, _⟩ :: _) _ _; refine O_ev WideF.wide rfl (Ev_fieldAddr rfl rfl rfl) rfl rfl ?_) | (show opsA _ _ _ _ (⟨_, .call _, _, _, _, _⟩ :: _) _ _; first | refine O_ev WideF.wide rfl (Ev_llen rfl) rfl rfl ?_ | (refine O_f1 (O_ef rfl (Ef_appendR WideF.wide rfl rfl rfl rfl rfl (by simp; omega) (by simp; omega) rfl ?_)); intro a cp)) | (show opsA _ _ _ _ (⟨_, .buildSlice _ _ _, _, _, _, _⟩ :: _) _ _; (refine O_ef rfl (Ef_build1a WideF.wide rfl rfl rfl rfl rfl ?_); intro b)) | (show opsA _ _ _ _ (⟨_, .binOp _ _ _ _ _, _, _, _, _⟩ :: _) _ _; refine O_ev WideF.wide rfl (Ev_add rfl rfl (wi64 (by omega))) rfl rfl ?_) | (show opsA _ _ _ _ (⟨_, .unOp _ _ _, _, _, _, _⟩ :: _) _ _; refine O_ev WideF.wide rfl (Ev_not rfl) rfl rfl ?_)) | (show wpA _ _ _ (.exit _) _ _ _ _; refine A_exit rfl ?_) | (show wpA _ _ _ (.cond _ _ _) _ _ _ _; (refine A_if rfl (fun h => ?_) (fun h => ?_) <;> try (exfalso; omega))))
      · have hsp : x.split = [x] := by unfold Item.split; rw [if_neg (by assumption)]
        refine Shift.to ⟨_, ?_, H1, i + 1, _, _, _, rfl, by omega, hle1, (okL_snoc hxi).2 ⟨hok, fun hh => absurd hh (by assumption)⟩, ?_, rfl⟩ ⟨rfl, rfl, rfl, ⟨rfl, rfl, rfl, trivial⟩, Own.subi [0] (by decide) rfl rfl⟩
        · omega
        · rw [ht2, hsp]; exact hcss.append (All2.one hxc)
      · have hno : ¬ okL l := fun hh => absurd (hh x (List.mem_of_getElem? hxi) (Decidable.not_not.1 (by assumption))) (by assumption)
        refine End_e (Ret2 rfl rfl rfl) ⟨⟨none, 0, 0, ?_, ?_⟩, rfl⟩
        · rw [decide_eq_false hno]
        · rw [if_neg hno]; exact FlowH.nil _
      · have hk1 : x.kind = 1 := Decidable.not_not.1 (by assumption)
        have hval : valid x.text := Decidable.not_not.1 (by assumption)
        have hsp : x.split = (charsOf x.text).map x.setText := by unfold Item.split; rw [if_pos hk1]
        have hcn : cn = (charsOf x.text).length := by have := hcr.len; simp [srow] at this; omega
        have hcl2 := charsOf_len x.text
        have hx2 := hx.mono hle2
        have hxc2 := hxc.mono hle2
        have hc2 := hc.mono hle2
        refine A_loopu (fun m s => ∃ (k : Nat) (oa : Option Addr) (oc : Nat) (css' : List (List Value)), m = cn - k ∧ k ≤ cn ∧ css'.length = css.length + k ∧ All2 (ItemH H2) css' (unitsL (l.take i) ++ ((charsOf x.text).take k).map x.setText) ∧ s = unSt2 H2 (some ⟨b', o, none⟩) n cp i oa oc css' ca cn cc k) ?_ ?_
        · exact Shift.to ⟨_, 0, oa, oc, css, rfl, by omega, rfl, by simpa using hcss.mono fun _ _ h => h.mono hle2, rfl⟩ ⟨rfl, rfl, rfl, ⟨rfl, rfl, rfl, rfl, rfl, trivial⟩, Own.subi [0] (by decide) rfl rfl⟩
        · rintro m s ⟨k, oa', oc', css', rfl, hki, hcl', hcss', rfl⟩
          by_cases hlk : k < cn
          · obtain ⟨cb, co, ccs, rfl, hcc, hck, hcH⟩ := hcr.at k hlk
            have hget : ∃ t, (charsOf x.text)[k]? = some t ∧ ccs = [sv t] := by
              simp only [srow, List.getElem?_map] at hcc
              obtain ⟨t, ht, rfl⟩ := Option.map_eq_some_iff.1 hcc
              exact ⟨t, ht, rfl⟩
            obtain ⟨t, ht, rfl⟩ := hget
            have h0 : H2 cb (co + k * 1) = some (sv t) := hcH 0 _ rfl
            repeat' (first | refine O_nil ?_ | refine A_seq ?_ | refine A_region ?_ | refine A_skip ?_ | refine A_block ?_ | (show opsA _ _ _ _ _ _ _; first | refine O_ev WideF.wide rfl (Ev_pure rfl) rfl rfl ?_ | (show opsA _ _ _ _ (⟨_, .load _ _, _, _, _, _⟩ :: _) _ _; first | refine O_ev WideF.wide rfl (Ev_loadB (i := 0) rfl rfl rfl) rfl rfl ?_ | refine O_ev WideF.wide rfl (Ev_loadH1 rfl (by assumption)) rfl rfl ?_ | refine O_ev WideF.wide rfl (Ev_loadH rfl (by assumption) (by rfl)) rfl rfl ?_) | (show opsA _ _ _ _ (⟨_, .indexAddr _ _ _, _, _, _, _⟩ :: _) _ _; refine O_ev WideF.wide rfl (Ev_indexAddr rfl rfl (by omega) (by omega)) rfl rfl ?_) | (show opsA _ _ _ _ (⟨_, .fieldAddr _ _ _, _, _, _, _⟩ :: _) _ _; refine O_ev WideF.wide rfl (Ev_fieldAddr rfl rfl rfl) rfl rfl ?_) | (show opsA _ _ _ _ (⟨_, .call _, _, _, _, _⟩ :: _) _ _; first | refine O_ev WideF.wide rfl (Ev_llen rfl) rfl rfl ?_ | (refine O_f2 (O_ef rfl (Ef_appendR WideF.wide rfl rfl rfl rfl rfl (by simp; omega) (by simp; omega) rfl ?_)); intro a cp)) | (show opsA _ _ _ _ (⟨_, .buildSlice _ _ _, _, _, _, _⟩ :: _) _ _; (refine O_ef rfl (Ef_build1a WideF.wide rfl rfl rfl rfl rfl ?_); intro b)) | (show opsA _ _ _ _ (⟨_, .binOp _ _ _ _ _, _, _, _, _⟩ :: _) _ _; refine O_ev WideF.wide rfl (Ev_add rfl rfl (wi64 (by omega))) rfl rfl ?_) | (show opsA _ _ _ _ (⟨_, .alloc _, _, _, _, _⟩ :: _) _ _; (refine O_ef rfl (Ef_alloc WideF.wide rfl ?_); intro b)) | (show opsA _ _ _ _ (⟨_, .store _ _ _, _, _, _, _⟩ :: _) _ _; first | refine O_ef rfl (Ef_storew WideF.wide rfl rfl rfl rfl rfl ?_) | refine O_ef rfl (Ef_store1 WideF.wide rfl rfl rfl rfl rfl ?_))) | (show wpA _ _ _ (.cond _ _ _) _ _ _ _; (refine A_if rfl (fun h => ?_) (fun h => ?_) <;> try (exfalso; omega))))
            refine Shift.to ⟨_, ?_, k + 1, _, _, _, rfl, by omega, ?_, ?_, rfl⟩ ⟨rfl, rfl, rfl, ⟨rfl, rfl, rfl, rfl, rfl, trivial⟩, Own.subi [0] (by decide) rfl rfl⟩
            · omega
            · simp; omega
            · rw [take_get ht, List.map_append, ← List.append_assoc]
              exact hcss'.append (All2.one hxc2.setText)
          · have hkn : k = cn := by omega
            subst hkn
            rw [hcn, List.take_length, ← hsp, ← ht2] at hcss'
            repeat' (first | refine O_nil ?_ | refine A_seq ?_ | refine A_region ?_ | (show opsA _ _ _ _ _ _ _; first | refine O_ev WideF.wide rfl (Ev_pure rfl) rfl rfl ?_ | (show opsA _ _ _ _ (⟨_, .call _, _, _, _, _⟩ :: _) _ _; refine O_ev WideF.wide rfl (Ev_llen rfl) rfl rfl ?_) | (show opsA _ _ _ _ (⟨_, .binOp _ _ _ _ _, _, _, _, _⟩ :: _) _ _; refine O_ev WideF.wide rfl (Ev_add rfl rfl (wi64 (by omega))) rfl rfl ?_)) | (show wpA _ _ _ (.exit _) _ _ _ _; refine A_exit rfl ?_) | (show wpA _ _ _ (.cond _ _ _) _ _ _ _; (refine A_if rfl (fun h => ?_) (fun h => ?_) <;> try (exfalso; omega))))
            refine Shift.to ⟨_, ?_, H2, i + 1, oa', oc', css', rfl, by omega, hle1.trans hle2, (okL_snoc hxi).2 ⟨hok, fun _ => hval⟩, hcss', rfl⟩ ⟨rfl, rfl, rfl, ⟨rfl, rfl, rfl, trivial⟩, Own.subi [0] (by decide) rfl rfl⟩
            omega
    · have hin : i = n := by omega
      subst hin
      have htk : l.take i = l := by rw [← hn, List.take_length]
      rw [htk] at hok hcss
      repeat' (first | refine O_nil ?_ | refine A_seq ?_ | refine A_region ?_ | refine A_ret ?_ | (show opsA _ _ _ _ _ _ _; first | refine O_ev WideF.wide rfl (Ev_pure rfl) rfl rfl ?_ | (show opsA _ _ _ _ (⟨_, .call _, _, _, _, _⟩ :: _) _ _; refine O_ev WideF.wide rfl (Ev_llen rfl) rfl rfl ?_)) | (show wpA _ _ _ (.exit _) _ _ _ _; refine A_exit rfl ?_) | (show wpA _ _ _ (.cond _ _ _) _ _ _ _; (refine A_if rfl (fun h => ?_) (fun h => ?_) <;> try (exfalso; omega))))
      refine End_row (Ret2 rfl rfl rfl) hcss.one_all fun H' hle hr => ⟨⟨oa, css.length, oc, ?_, ?_⟩, rfl⟩
      · rw [decide_eq_true hok]
      · rw [if_pos hok]; exact ⟨css, hr, hcss.mono fun _ _ h => h.mono hle⟩
end Go.Proofs.Ythbnhcgphkghaaa
