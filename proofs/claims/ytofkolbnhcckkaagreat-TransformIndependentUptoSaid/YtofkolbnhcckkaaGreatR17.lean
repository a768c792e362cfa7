/-
  run.Normal: the normal form as data; a row and a cell.
-/
import Derived.Test.YtofkolbnhcckkaaGreatR16
import Derived.Test.YtofkolbnhcckkaaGreatT2
namespace Go.Proofs.YtofkolbnhcckkaaGreat
open Go
set_option linter.unusedVariables false
set_option linter.unusedSimpArgs false
attribute [local irreducible] wpA opsA drJ drQ drE Ef Ev Shift Fn

/-- one more item behind a flow in normal form -/
def pushI (out : List Item) (x : Item) : List Item :=
  if x.kind = 7 ∧ x.rows = [] ∨ x.kind = 1 ∧ x.text = [] then out
  else match out.getLast? with
    | none => out ++ [x]
    | some y => if x.kind = 1 ∧ y.kind = 1 ∧ y.head = x.head then out.dropLast ++ [y.setText (y.text ++ x.text)] else out ++ [x]
mutual
def normItem : Item → Item
  | .mk k c i t h f r => .mk k c i t h ((normMapL f).foldl pushI []) (keepR (normMapR r))
def normMapL : List Item → List Item
  | [] => []
  | x :: l => normItem x :: normMapL l
def normMapR : List (Head × List (Int × Head × List Item)) → List (Head × List (Int × Head × List Item))
  | [] => []
  | (h, c) :: r => (h, normMapC c) :: normMapR r
def normMapC : List (Int × Head × List Item) → List (Int × Head × List Item)
  | [] => []
  | (i, h, f) :: c => (i, h, (normMapL f).foldl pushI []) :: normMapC c
end
def normL (l : List Item) : List Item := (l.map normItem).foldl pushI []
def normCell (c : Cell) : Cell := (c.1, c.2.1, normL c.2.2)
def normRow (r : Row) : Row := (r.1, r.2.map normCell)
theorem normMapL_eq : ∀ l : List Item, normMapL l = l.map normItem
  | [] => by simp [normMapL]
  | x :: l => by simp [normMapL, normMapL_eq l]
theorem normMapC_eq : ∀ l : List Cell, normMapC l = l.map normCell
  | [] => by simp [normMapC]
  | (i, h, f) :: l => by simp [normMapC, normMapC_eq l, normCell, normL, normMapL_eq]
theorem normMapR_eq : ∀ l : List Row, normMapR l = l.map normRow
  | [] => by simp [normMapR]
  | (h, c) :: l => by simp [normMapR, normMapR_eq l, normRow, normMapC_eq]
theorem normItem_eq (x : Item) : normItem x = .mk x.kind x.code x.id x.text x.head (normL x.flow) (keepR (x.rows.map normRow)) := by
  cases x
  simp [normItem, normMapL_eq, normMapR_eq, normL, Item.kind, Item.code, Item.id, Item.text, Item.head, Item.flow, Item.rows]

def NormC (N : Nat) : Prop := ∀ (H : Hp) (a : Option Addr) (n cp : Nat) (l : List Item), FlowH H a n cp l → massL l < N → massL l < 68719476736 → Fn Tryz.prog 73 [.slice a n cp] H [] fun v H' I' => (∃ oa on oc, v = .slice oa on oc ∧ FlowH H' oa on oc (normL l)) ∧ I' = []

set_option maxRecDepth 100000 in
theorem normalCell_fn {N : Nat} (hN : NormC N) {H : Hp} {cs : List Value} {x : Cell} (hx : CellH H cs x) (hl : massL x.2.2 < N) (hl2 : x.2.1.mass + massL x.2.2 < 68719476736) : Fn Tryz.prog 114 [.agg cs.toArray] H [] fun v H' I' => (∃ cs', v = .agg cs'.toArray ∧ CellH H' cs' (normCell x)) ∧ I' = [] := by
  obtain ⟨pa, pn, pc, da, dn, dc, la, ln, lc, fa, fn, fc, rfl, h1, h2, h3, h4⟩ := hx.cells
  have hh : HeadH H [.slice pa pn pc, .int .i64 x.2.1.ins, .int .i64 x.2.1.move, .slice da dn dc, .slice la ln lc] x.2.1 := ⟨pa, pn, pc, da, dn, dc, la, ln, lc, rfl, h1, h2, h3⟩
  have c1 := CloneHead_fn hh (by omega)
  refine Fn_of _ _ Tryz.func114 rfl Tryz.ntmps114 rfl fun c => ?_
  repeat' (first | refine O_nil ?_ | refine A_seq ?_ | refine A_region ?_ | (show opsA _ _ _ _ _ _ _; first | (show opsA _ _ _ _ (⟨_, .alloc _, _, _, _, _⟩ :: _) _ _; (refine O_ef rfl (Ef_alloc WideF.wide rfl ?_); intro b)) | (show opsA _ _ _ _ (⟨_, .box _ _, _, _, _, _⟩ :: _) _ _; (refine O_ef rfl (Ef_boxa WideF.wide rfl rfl ?_); intro b))))
  (refine A_drawi WideF.wide (.q 0 (.q 1 (.q 2 (.q 3 (.q 5 (.q 6 (.e 4 (.e 7 (.r (.q 8 (.e 9 (.done [])))))))))))) [8, 9] [0] [1] (by decide +kernel) (by decide) rfl ?_; simp only [Own.picks, Own.rget, List.cons_append, List.nil_append, List.append_nil])
  repeat' (first | (refine E_ef rfl (Ef_call (I := []) WideF.wide c1 ⟨rfl, trivial⟩ rfl ?_); rintro v H1 I1 hle1 ⟨⟨pa', pn', pc', da', dn', dc', la', ln', lc', rfl, r1, r2, r3⟩, rfl⟩; refine ⟨⟨hle1, rfl⟩, ?_⟩) | (refine E_ef rfl (Ef_call (I := []) WideF.wide (hN _ _ _ _ _ (h4.mono hle1) hl (by omega)) ⟨rfl, trivial⟩ rfl ?_); rintro v H2 I2 hle2 ⟨⟨oa, on, oc, rfl, hf⟩, rfl⟩; refine ⟨⟨hle2, rfl⟩, ?_⟩) | refine O_nil ?_ | refine A_ret ?_ | (show drJ _ _ _ _ _ _ _ (.q _ _) _; refine D_q rfl ?_) | (show drJ _ _ _ _ _ _ _ (.e _ _) _; refine D_e rfl ?_) | (show drJ _ _ _ _ _ _ _ (.r _) _; refine D_r ?_; simp only [List.cons_append, List.nil_append]) | (show drJ _ _ _ _ _ _ _ (.done _) _; refine D_done ?_; simp only [List.cons_append, List.nil_append]) | (show drQ _ _ _ _ _ _; first | (show drQ _ _ _ ⟨_, .load _ _, _, _, _, _⟩ _ _; first | refine D_ev rfl (Ev_loadB1 (i := 0) rfl rfl rfl) rfl rfl ?_ | refine D_ev rfl (Ev_loadBs (i := 0) rfl rfl rfl rfl) rfl rfl ?_) | (show drQ _ _ _ ⟨_, .fieldAddr _ _ _, _, _, _, _⟩ _ _; refine D_ev rfl (Ev_fieldAddr rfl rfl rfl) rfl rfl ?_) | (show drQ _ _ _ ⟨_, .build _ _, _, _, _, _⟩ _ _; refine D_ev rfl (Ev_build (vs := [(_, _), (_, _), (_, _)]) ⟨rfl, rfl, rfl, rfl, rfl, rfl, trivial⟩ rfl) rfl rfl ?_)) | (show drE _ _ _ _ _ _ _; (show drE _ _ _ _ ⟨_, .store _ _ _, _, _, _, _⟩ _ _; (refine E_ef rfl (Ef_storew WideF.wide rfl rfl rfl rfl rfl ?_); refine ⟨Grow.same rfl rfl, ?_⟩))))
  exact End_e (RetC rfl rfl (i := 0) rfl rfl) ⟨⟨[.int .i64 x.1, .slice pa' pn' pc', .int .i64 x.2.1.ins, .int .i64 x.2.1.move, .slice da' dn' dc', .slice la' ln' lc', .slice oa on oc], rfl, CellH.of (x := normCell x) (r1.mono hle2) (r2.mono hle2) (r3.mono hle2) hf⟩, rfl⟩

theorem massC_mem' {l : List Cell} {x : Cell} (h : x ∈ l) : x.2.1.mass + massL x.2.2 < massC l := by
  obtain ⟨i, hi⟩ := List.getElem?_of_mem h
  exact massC_mem hi
theorem massR_mem' {l : List Row} {x : Row} (h : x ∈ l) : x.1.mass + massC x.2 < massR l := by
  obtain ⟨i, hi⟩ := List.getElem?_of_mem h
  exact massR_mem hi
set_option maxRecDepth 100000 in
theorem normalRow_fn {N : Nat} (hN : NormC N) {H : Hp} {cs : List Value} {x : Row} (hx : RowH H cs x) (hl : massC x.2 < N) (hl2 : x.1.mass + massC x.2 < 68719476736) : Fn Tryz.prog 99 [.agg cs.toArray] H [] fun v H' I' => (∃ cs', v = .agg cs'.toArray ∧ RowH H' cs' (normRow x)) ∧ I' = [] := by
  obtain ⟨pa, pn, pc, da, dn, dc, la, ln, lc, ca, cn, cc, rfl, h1, h2, h3, h4⟩ := hx.cells
  have hcn := h4.len
  have hcm := massC_len x.2
  have hh : HeadH H [.slice pa pn pc, .int .i64 x.1.ins, .int .i64 x.1.move, .slice da dn dc, .slice la ln lc] x.1 := ⟨pa, pn, pc, da, dn, dc, la, ln, lc, rfl, h1, h2, h3⟩
  have c1 := CloneHead_fn hh (by omega)
  have c2 : ∀ H1, HLe H H1 → Fn Tryz.prog 85 [.slice ca cn cc, .func (.func 114) #[] #[]] H1 [] fun v H' I' => ∃ oa oc css, v = .slice oa css.length oc ∧ I' = [.row v 7 css] ∧ All2 (CellH H') css (x.2.map normCell) := fun H1 hle1 =>
    eachCell_fn (h4.mono hle1) (by omega) fun H2 cs y _ hy hyc => normalCell_fn hN hyc (by have := massC_mem' hy; omega) (by have := massC_mem' hy; omega)
  refine Fn_of _ _ Tryz.func99 rfl Tryz.ntmps99 rfl fun c => ?_
  repeat' (first | refine O_nil ?_ | refine A_seq ?_ | refine A_region ?_ | (show opsA _ _ _ _ _ _ _; first | (show opsA _ _ _ _ (⟨_, .alloc _, _, _, _, _⟩ :: _) _ _; (refine O_ef rfl (Ef_alloc WideF.wide rfl ?_); intro b)) | (show opsA _ _ _ _ (⟨_, .box _ _, _, _, _, _⟩ :: _) _ _; (refine O_ef rfl (Ef_boxa WideF.wide rfl rfl ?_); intro b))))
  (refine A_drawi WideF.wide (.q 0 (.q 1 (.q 3 (.q 4 (.e 2 (.r (.e 5 (.q 6 (.e 7 (.done [])))))))))) [5, 6, 7] [0] [1] (by decide +kernel) (by decide) rfl ?_; simp only [Own.picks, Own.rget, List.cons_append, List.nil_append, List.append_nil])
  repeat' (first | (refine E_ef rfl (Ef_call (I := []) WideF.wide c1 ⟨rfl, trivial⟩ rfl ?_); rintro v H1 I1 hle1 ⟨⟨pa', pn', pc', da', dn', dc', la', ln', lc', rfl, r1, r2, r3⟩, rfl⟩; refine ⟨⟨hle1, rfl⟩, ?_⟩) | (refine E_ef rfl (Ef_call (I := []) WideF.wide (c2 _ hle1) ⟨rfl, rfl, trivial⟩ rfl ?_); rintro v H2 I2 hle2 ⟨oa, oc, css, rfl, rfl, hcs⟩; refine ⟨⟨hle2, rfl⟩, ?_⟩) | refine O_nil ?_ | refine A_ret ?_ | (show drJ _ _ _ _ _ _ _ (.q _ _) _; refine D_q rfl ?_) | (show drJ _ _ _ _ _ _ _ (.e _ _) _; refine D_e rfl ?_) | (show drJ _ _ _ _ _ _ _ (.r _) _; refine D_r ?_; simp only [List.cons_append, List.nil_append]) | (show drJ _ _ _ _ _ _ _ (.done _) _; refine D_done ?_; simp only [List.cons_append, List.nil_append]) | (show drQ _ _ _ _ _ _; first | (show drQ _ _ _ ⟨_, .load _ _, _, _, _, _⟩ _ _; first | refine D_ev rfl (Ev_loadB1 (i := 0) rfl rfl rfl) rfl rfl ?_ | refine D_ev rfl (Ev_loadBs (i := 0) rfl rfl rfl rfl) rfl rfl ?_) | (show drQ _ _ _ ⟨_, .fieldAddr _ _ _, _, _, _, _⟩ _ _; refine D_ev rfl (Ev_fieldAddr rfl rfl rfl) rfl rfl ?_) | (show drQ _ _ _ ⟨_, .build _ _, _, _, _, _⟩ _ _; refine D_ev rfl (Ev_build (vs := [(_, _), (_, _)]) ⟨rfl, rfl, rfl, rfl, trivial⟩ rfl) rfl rfl ?_)) | (show drE _ _ _ _ _ _ _; (show drE _ _ _ _ ⟨_, .store _ _ _, _, _, _, _⟩ _ _; (refine E_ef rfl (Ef_f1 (Ef_storew WideF.wide rfl rfl rfl rfl rfl ?_)); refine ⟨Grow.same rfl rfl, ?_⟩))))
  refine End_s (RetC rfl rfl (i := 0) rfl rfl) (Shift.lek ⟨10, [], H2, [.row (.slice oa css.length oc) 7 css], [], []⟩ ⟨rfl, rfl, rfl, trivial, Own.subi [1] (by decide) rfl rfl⟩ (Shift_freeze (hcs.ones fun _ _ h => h.one) fun H3 hle3 hr3 => Shift.pure ⟨rfl, ⟨[.slice pa' pn' pc', .int .i64 x.1.ins, .int .i64 x.1.move, .slice da' dn' dc', .slice la' ln' lc', .slice oa css.length oc], rfl, ?_⟩, rfl⟩))
  exact RowH.of (x := normRow x) (r1.mono (hle2.trans hle3)) (r2.mono (hle2.trans hle3)) (r3.mono (hle2.trans hle3)) ⟨css, hr3, hcs.mono fun _ _ h => h.mono hle3⟩
end Go.Proofs.YtofkolbnhcckkaaGreat
