/-
  strings.Builder; the text of a flow.
-/
import Derived.Test.YthbnhcgphkghaaaR1
import Derived.Test.YthbnhcgphkghaaaA8
namespace Go.Proofs.Ythbnhcgphkghaaa
open Go
set_option linter.unusedVariables false
set_option linter.unusedSimpArgs false
attribute [local irreducible] wpA opsA drJ drQ drE Ef Ev Shift Fn

@[reducible, instance] def lies90 : LiesC Try.prog 90 2 := ⟨by kernel_rfl⟩
@[reducible, instance] def cells5 : CellsC Try.prog 5 1 := ⟨by kernel_rfl⟩
@[reducible, instance] def noEsc : ExtC Try.prog 82 := ⟨fun x w => by
  rw [run_callFunc_extern Try.func82 (by kernel_rfl) (by kernel_rfl) (by kernel_rfl) (e := Extern.AbiNoEscape.same) (by kernel_rfl)]
  rfl⟩
/-- a builder at block b that holds the bytes l -/
def BldIs (b : Nat) (l : List UInt8) (I : Own) : Prop := ∃ (p : Option Addr) (v : Value) (R : Own), (p = none ∨ p = some ⟨b, 0, none⟩) ∧ BufIs 5 v R l ∧ I = .obj b (cobj [.pointer p, v] 90) :: R
set_option maxRecDepth 100000 in
theorem copyCheck_fn (H : Hp) (b : Nat) (p : Option Addr) (v : Value) (hp : p = none ∨ p = some ⟨b, 0, none⟩) :
    Fn Try.prog 76 [.pointer (some ⟨b, 0, none⟩)] H [.obj b (cobj [.pointer p, v] 90)] fun _ H' I' => H' = H ∧ I' = [.obj b (cobj [.pointer (some ⟨b, 0, none⟩), v] 90)] := by
  rcases hp with rfl | rfl
  · refine Fn_of _ _ Try.func76 rfl Try.ntmps76 rfl fun c => ?_
    repeat' (first | refine O_nil ?_ | refine A_seq ?_ | refine A_region ?_ | (show opsA _ _ _ _ _ _ _; first | refine O_ev WideF.wide rfl (Ev_pure rfl) rfl rfl ?_ | (show opsA _ _ _ _ (⟨_, .load _ _, _, _, _, _⟩ :: _) _ _; refine O_ev WideF.wide rfl (Ev_loadO1 (i := 0) rfl rfl rfl) rfl rfl ?_) | (show opsA _ _ _ _ (⟨_, .fieldAddr _ _ _, _, _, _, _⟩ :: _) _ _; refine O_ev WideF.wide rfl (Ev_fieldAddr rfl rfl rfl) rfl rfl ?_) | (show opsA _ _ _ _ (⟨_, .call _, _, _, _, _⟩ :: _) _ _; refine O_ev WideF.wide rfl (Ev_ext rfl) rfl rfl ?_) | (show opsA _ _ _ _ (⟨_, .binOp _ _ _ _ _, _, _, _, _⟩ :: _) _ _; refine O_ev WideF.wide rfl (Ev_ptrnil rfl rfl) rfl rfl ?_) | (show opsA _ _ _ _ (⟨_, .convert _ _ _, _, _, _, _⟩ :: _) _ _; first | refine O_ev WideF.wide rfl (Ev_toUnsafe (i := 0) rfl rfl rfl rfl) rfl rfl ?_ | refine O_ev WideF.wide rfl (Ev_fromUnsafe (i := 0) rfl rfl rfl) rfl rfl ?_) | (show opsA _ _ _ _ (⟨_, .nilCheck _, _, _, _, _⟩ :: _) _ _; refine O_ev WideF.wide rfl (Ev_nilCheck rfl) rfl rfl ?_) | (show opsA _ _ _ _ (⟨_, .store _ _ _, _, _, _, _⟩ :: _) _ _; refine O_ef rfl (Ef_storeO1 WideF.wide rfl rfl rfl rfl rfl ?_))) | (show wpA _ _ _ (.cond _ _ _) _ _ _ _; refine A_iftrue rfl ?_))
    exact End_m (Ret0 rfl) ⟨rfl, rfl⟩
  · refine Fn_of _ _ Try.func76 rfl Try.ntmps76 rfl fun c => ?_
    repeat' (first | refine O_nil ?_ | refine A_seq ?_ | refine A_region ?_ | refine A_skip ?_ | (show opsA _ _ _ _ _ _ _; first | refine O_ev WideF.wide rfl (Ev_pure rfl) rfl rfl ?_ | (show opsA _ _ _ _ (⟨_, .load _ _, _, _, _, _⟩ :: _) _ _; refine O_ev WideF.wide rfl (Ev_loadO1 (i := 0) rfl rfl rfl) rfl rfl ?_) | (show opsA _ _ _ _ (⟨_, .fieldAddr _ _ _, _, _, _, _⟩ :: _) _ _; refine O_ev WideF.wide rfl (Ev_fieldAddr rfl rfl rfl) rfl rfl ?_) | (show opsA _ _ _ _ (⟨_, .binOp _ _ _ _ _, _, _, _, _⟩ :: _) _ _; first | refine O_ev WideF.wide rfl (Ev_ptrnil rfl rfl) rfl rfl ?_ | refine O_ev WideF.wide rfl (Ev_ptrsame rfl rfl) rfl rfl ?_) | (show opsA _ _ _ _ (⟨_, .nilCheck _, _, _, _, _⟩ :: _) _ _; refine O_ev WideF.wide rfl (Ev_nilCheck rfl) rfl rfl ?_)) | (show wpA _ _ _ (.cond _ _ _) _ _ _ _; refine A_iffalse rfl ?_))
    exact End_m (Ret0 rfl) ⟨rfl, rfl⟩
theorem BufIs.one {T : TypeId} {v : Value} {R : Own} {l : List UInt8} (h : BufIs T v R l) : v.oneCell' = true := by
  rcases h with ⟨rfl, _⟩ | ⟨b, cap, rest, rfl, _⟩ <;> rfl
theorem BldIs.new (b : Nat) : BldIs b [] [.obj b (cobj [.pointer none, .slice none 0 0] 90)] := ⟨none, _, [], .inl rfl, .inl ⟨rfl, rfl, rfl⟩, rfl⟩
set_option maxRecDepth 100000 in
theorem WriteString_fn (H : Hp) (b : Nat) (l s : List UInt8) (I : Own) (hI : BldIs b l I) (hl : l.length + s.length ≤ 70368744177664) :
    Fn Try.prog 49 [.pointer (some ⟨b, 0, none⟩), sv s] H I fun _ H' I' => H' = H ∧ BldIs b (l ++ s) I' := by
  obtain ⟨p, v, R, hp, hB, rfl⟩ := hI
  have hcc := copyCheck_fn H b p v hp
  refine Fn_of _ _ Try.func49 rfl Try.ntmps49 rfl fun c => ?_
  repeat' (first | (refine O_ef rfl (Ef_call (I := [_]) (M' := R) WideF.wide hcc ⟨rfl, trivial⟩ rfl ?_); rintro u H' I' hle ⟨rfl, rfl⟩) | (refine O_ef rfl (Ef_appendS1 WideF.wide rfl rfl hB rfl rfl hl rfl ?_); intro v' R' hB') | (refine O_ef rfl (Ef_storeO1 WideF.wide rfl rfl hB'.one rfl rfl ?_)) | refine O_nil ?_ | refine A_seq ?_ | refine A_region ?_ | refine A_ret ?_ | (show opsA _ _ _ _ _ _ _; first | refine O_ev WideF.wide rfl (Ev_pure rfl) rfl rfl ?_ | (show opsA _ _ _ _ (⟨_, .load _ _, _, _, _, _⟩ :: _) _ _; refine O_ev WideF.wide rfl (Ev_loadO1 (i := 0) rfl rfl rfl) rfl rfl ?_) | (show opsA _ _ _ _ (⟨_, .fieldAddr _ _ _, _, _, _, _⟩ :: _) _ _; refine O_ev WideF.wide rfl (Ev_fieldAddr rfl rfl rfl) rfl rfl ?_) | (show opsA _ _ _ _ (⟨_, .call _, _, _, _, _⟩ :: _) _ _; refine O_ev WideF.wide rfl (Ev_slen rfl) rfl rfl ?_) | (show opsA _ _ _ _ (⟨_, .nilCheck _, _, _, _, _⟩ :: _) _ _; refine O_ev WideF.wide rfl (Ev_nilCheck rfl) rfl rfl ?_)))
  exact End_m (Ret2 rfl rfl rfl) ⟨rfl, _, _, _, .inr rfl, hB', rfl⟩
set_option maxRecDepth 100000 in
theorem String_fn (H : Hp) (b : Nat) (l : List UInt8) (I : Own) (hI : BldIs b l I) (hl : l.length ≤ 70368744177664) :
    Fn Try.prog 51 [.pointer (some ⟨b, 0, none⟩)] H I fun v H' I' => v = sv l ∧ H' = H ∧ I' = [] := by
  obtain ⟨p, v, R, hp, hB, rfl⟩ := hI
  rcases hB with ⟨rfl, rfl, rfl⟩ | ⟨gb, cap, rest, rfl, rfl, hc, hc0, hlen⟩
  · refine Fn_of _ _ Try.func51 rfl Try.ntmps51 rfl fun c => ?_
    repeat' (first | ((refine A_drawi WideF.wide (.q 0 (.q 1 (.q 2 (.q 3 (.q 4 (.q 5 (.q 6 (.q 7 (.q 8 (.q 9 (.e 10 (.q 11 (.done []))))))))))))) [] [] [0] (by decide +kernel) (by decide) rfl ?_; simp only [Own.picks, Own.rget, List.cons_append, List.nil_append, List.append_nil])) | (refine D_ev rfl (Ev_sliceDataNil rfl) rfl rfl ?_) | (refine E_ef rfl (Ef_ev WideF.wide (Ev_strNil rfl rfl) rfl rfl ?_); refine ⟨Grow.same rfl rfl, ?_⟩) | refine O_nil ?_ | refine A_seq ?_ | refine A_region ?_ | refine A_ret ?_ | (show drJ _ _ _ _ _ _ _ (.q _ _) _; refine D_q rfl ?_) | (show drJ _ _ _ _ _ _ _ (.e _ _) _; refine D_e rfl ?_) | (show drJ _ _ _ _ _ _ _ (.done _) _; refine D_done ?_; simp only [List.cons_append, List.nil_append]) | (show drQ _ _ _ _ _ _; first | refine D_ev rfl (Ev_pure rfl) rfl rfl ?_ | (show drQ _ _ _ ⟨_, .load _ _, _, _, _, _⟩ _ _; refine D_ev rfl (Ev_loadO1 (i := 0) rfl rfl rfl) rfl rfl ?_) | (show drQ _ _ _ ⟨_, .fieldAddr _ _ _, _, _, _, _⟩ _ _; refine D_ev rfl (Ev_fieldAddr rfl rfl rfl) rfl rfl ?_) | (show drQ _ _ _ ⟨_, .call _, _, _, _, _⟩ _ _; refine D_ev rfl (Ev_llen rfl) rfl rfl ?_) | (show drQ _ _ _ ⟨_, .nilCheck _, _, _, _, _⟩ _ _; refine D_ev rfl (Ev_nilCheck rfl) rfl rfl ?_)) | (show opsA _ _ _ _ _ _ _; refine O_ev WideF.wide rfl (Ev_pure rfl) rfl rfl ?_))
    exact End_e (Ret1 rfl rfl) ⟨rfl, rfl, rfl⟩
  · refine Fn_of _ _ Try.func51 rfl Try.ntmps51 rfl fun c => ?_
    repeat' (first | ((refine A_drawi WideF.wide (.q 0 (.q 1 (.q 2 (.q 3 (.q 4 (.q 5 (.q 6 (.q 7 (.q 8 (.q 9 (.e 10 (.q 11 (.done []))))))))))))) [] [1] [0] (by decide +kernel) (by decide) rfl ?_; simp only [Own.picks, Own.rget, List.cons_append, List.nil_append, List.append_nil])) | (refine D_ev rfl (Ev_sliceData rfl hc0) rfl rfl ?_) | (refine E_ef rfl (Ef_bufString WideF.wide rfl rfl (by omega) rfl ?_); refine ⟨Grow.same rfl rfl, ?_⟩) | refine O_nil ?_ | refine A_seq ?_ | refine A_region ?_ | refine A_ret ?_ | (show drJ _ _ _ _ _ _ _ (.q _ _) _; refine D_q rfl ?_) | (show drJ _ _ _ _ _ _ _ (.e _ _) _; refine D_e rfl ?_) | (show drJ _ _ _ _ _ _ _ (.done _) _; refine D_done ?_; simp only [List.cons_append, List.nil_append]) | (show drQ _ _ _ _ _ _; first | refine D_ev rfl (Ev_pure rfl) rfl rfl ?_ | (show drQ _ _ _ ⟨_, .load _ _, _, _, _, _⟩ _ _; refine D_ev rfl (Ev_loadO1 (i := 0) rfl rfl rfl) rfl rfl ?_) | (show drQ _ _ _ ⟨_, .fieldAddr _ _ _, _, _, _, _⟩ _ _; refine D_ev rfl (Ev_fieldAddr rfl rfl rfl) rfl rfl ?_) | (show drQ _ _ _ ⟨_, .call _, _, _, _, _⟩ _ _; refine D_ev rfl (Ev_llen rfl) rfl rfl ?_) | (show drQ _ _ _ ⟨_, .nilCheck _, _, _, _, _⟩ _ _; refine D_ev rfl (Ev_nilCheck rfl) rfl rfl ?_)) | (show opsA _ _ _ _ _ _ _; refine O_ev WideF.wide rfl (Ev_pure rfl) rfl rfl ?_))
    exact End_e (Ret1 rfl rfl) ⟨rfl, rfl, rfl⟩

/-! ### characters -/
def chr (x : Item) : List UInt8 :=
  if x.kind = 2 then [10] else if x.kind = 3 then [29] else if x.kind = 5 ∨ x.kind = 6 ∨ x.kind = 7 ∨ x.kind = 8 then [239, 191, 188]
  else if x.kind = 4 then (if x.code = 1 then [11] else if x.code = 2 then [12] else if x.code = 3 then [9] else [239, 191, 189]) else [239, 191, 189]
set_option maxRecDepth 100000 in
theorem character_fn {H : Hp} {cs : List Value} {x : Item} (hx : ItemH H cs x) : FnP Try.prog 50 [.agg cs.toArray] H (sv (chr x)) := by
  obtain ⟨pa, pn, pc, da, dn, dc, la, ln, lc, fa, fn, fc, ra, rn, rc, rfl, _⟩ := hx.cells
  refine Fn_of _ _ Try.func50 rfl Try.ntmps50 rfl fun c => ?_
  repeat' (first | refine O_nil ?_ | refine A_seq ?_ | refine A_region ?_ | refine A_skip ?_ | refine A_ret ?_ | refine A_block ?_ | (show opsA _ _ _ _ _ _ _; first | refine O_ev WideF.wide rfl (Ev_pure rfl) rfl rfl ?_ | (show opsA _ _ _ _ (⟨_, .load _ _, _, _, _, _⟩ :: _) _ _; refine O_ev WideF.wide rfl (Ev_loadB1 (i := 0) rfl rfl rfl) rfl rfl ?_) | (show opsA _ _ _ _ (⟨_, .fieldAddr _ _ _, _, _, _, _⟩ :: _) _ _; refine O_ev WideF.wide rfl (Ev_fieldAddr rfl rfl rfl) rfl rfl ?_) | (show opsA _ _ _ _ (⟨_, .box _ _, _, _, _, _⟩ :: _) _ _; (refine O_ef rfl (Ef_boxa WideF.wide rfl rfl ?_); intro b))) | (show wpA _ _ _ (.cond _ _ _) _ _ _ _; (refine A_if rfl (fun h => ?_) (fun h => ?_) <;> try (exfalso; omega))))
  all_goals (refine End_p (Ret1 rfl rfl) ?_; simp [chr, *])
set_option maxRecDepth 100000 in
theorem Character_fn {H : Hp} {cs : List Value} {x : Item} (hx : ItemH H cs x) : FnP Try.prog 53 [.agg cs.toArray] H (sv (chr x)) := by
  obtain ⟨pa, pn, pc, da, dn, dc, la, ln, lc, fa, fn, fc, ra, rn, rc, rfl, _⟩ := hx.cells
  refine Fn_of _ _ Try.func53 rfl Try.ntmps53 rfl fun c => ?_
  repeat' (first | refine O_nil ?_ | refine A_seq ?_ | refine A_region ?_ | refine A_skip ?_ | refine A_ret ?_ | refine A_block ?_ | (show opsA _ _ _ _ _ _ _; first | refine O_ev WideF.wide rfl (Ev_pure rfl) rfl rfl ?_ | (show opsA _ _ _ _ (⟨_, .load _ _, _, _, _, _⟩ :: _) _ _; refine O_ev WideF.wide rfl (Ev_loadB1 (i := 0) rfl rfl rfl) rfl rfl ?_) | (show opsA _ _ _ _ (⟨_, .fieldAddr _ _ _, _, _, _, _⟩ :: _) _ _; refine O_ev WideF.wide rfl (Ev_fieldAddr rfl rfl rfl) rfl rfl ?_) | (show opsA _ _ _ _ (⟨_, .box _ _, _, _, _, _⟩ :: _) _ _; (refine O_ef rfl (Ef_boxa WideF.wide rfl rfl ?_); intro b))) | (show wpA _ _ _ (.cond _ _ _) _ _ _ _; (refine A_if rfl (fun h => ?_) (fun h => ?_) <;> try (exfalso; omega))))
  all_goals (refine End_p (Ret1 rfl rfl) ?_; simp [chr, *])
/-- the text of a flow -/
def itext (x : Item) : List UInt8 := if x.kind = 1 then x.text else chr x
def ftext : List Item → List UInt8
  | [] => []
  | x :: l => itext x ++ ftext l
theorem ftext_append (a b : List Item) : ftext (a ++ b) = ftext a ++ ftext b := by
  induction a with
  | nil => rfl
  | cons x l ih => simp [ftext, ih]
theorem chr_len (x : Item) : (chr x).length ≤ 3 := by unfold chr; (repeat' split) <;> decide
theorem itext_len (x : Item) : (itext x).length ≤ 3 * x.mass := by
  have := chr_len x
  have := x.mass_eq
  unfold itext
  split <;> omega
theorem ftext_len (l : List Item) : (ftext l).length ≤ 3 * massL l := by
  induction l with
  | nil => simp [ftext]
  | cons x l ih => have := itext_len x; simp only [ftext, massL, List.length_append]; omega
end Go.Proofs.Ythbnhcgphkghaaa
