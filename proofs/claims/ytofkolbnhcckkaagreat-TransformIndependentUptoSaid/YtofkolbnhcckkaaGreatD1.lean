/-
  Flows as data, and how they lie in memory.
-/
import Derived.Test.YtofkolbnhcckkaaGreatC2
namespace Go.Proofs.YtofkolbnhcckkaaGreat
open Go
set_option linter.unusedVariables false
set_option linter.unusedSimpArgs false

structure Prp where
  key : Int
  val : Int
  deriving DecidableEq
structure Dele where
  rev : Int
  move : Int
  deriving DecidableEq
structure Layr where
  rev : Int
  key : Int
  before : Int
  had : Bool
  deriving DecidableEq
structure Head where
  props : List Prp
  ins : Int
  move : Int
  dels : List Dele
  layers : List Layr
  deriving DecidableEq
inductive Item where
  | mk (kind code id : Int) (text : List UInt8) (head : Head) (flow : List Item) (rows : List (Head × List (Int × Head × List Item)))
abbrev Cell := Int × Head × List Item
abbrev Row := Head × List Cell
namespace Item
def kind : Item → Int | .mk k _ _ _ _ _ _ => k
def code : Item → Int | .mk _ c _ _ _ _ _ => c
def id : Item → Int | .mk _ _ i _ _ _ _ => i
def text : Item → List UInt8 | .mk _ _ _ t _ _ _ => t
def head : Item → Head | .mk _ _ _ _ h _ _ => h
def flow : Item → List Item | .mk _ _ _ _ _ f _ => f
def rows : Item → List Row | .mk _ _ _ _ _ _ r => r
end Item

def prow (p : Prp) : List Value := [.int .i64 p.key, .int .i64 p.val]
def drow (d : Dele) : List Value := [.int .i64 d.rev, .int .i64 d.move]
def lrow (l : Layr) : List Value := [.int .i64 l.rev, .int .i64 l.key, .int .i64 l.before, .bool l.had]

/-- the cells of a head -/
structure HeadH (H : Hp) (cs : List Value) (h : Head) : Prop where
  ex : ∃ (pa : Option Addr) (pn pc : Nat) (da : Option Addr) (dn dc : Nat) (la : Option Addr) (ln lc : Nat),
    cs = [.slice pa pn pc, .int .i64 h.ins, .int .i64 h.move, .slice da dn dc, .slice la ln lc] ∧
    HRow H pa pn pc 2 (h.props.map prow) ∧ HRow H da dn dc 2 (h.dels.map drow) ∧ HRow H la ln lc 4 (h.layers.map lrow)

mutual
inductive ItemH (H : Hp) : List Value → Item → Prop where
  | mk {kind code id : Int} {text : List UInt8} {head : Head} {flow : List Item} {rows : List Row} {hcs : List Value} {fa : Option Addr} {fn fc : Nat} {fcss : List (List Value)} {ra : Option Addr} {rn rc : Nat} {rcss : List (List Value)}
    (hh : HeadH H hcs head) (hf : HRow H fa fn fc 11 fcss) (hfi : ItemsH H fcss flow) (hr : HRow H ra rn rc 6 rcss) (hri : RowsH H rcss rows) :
    ItemH H ([.int .i64 kind, .int .i64 code, .int .i64 id, sv text] ++ hcs ++ [.slice fa fn fc, .slice ra rn rc]) (.mk kind code id text head flow rows)
inductive ItemsH (H : Hp) : List (List Value) → List Item → Prop where
  | nil : ItemsH H [] []
  | cons {cs : List Value} {x : Item} {css : List (List Value)} {l : List Item} (h : ItemH H cs x) (t : ItemsH H css l) : ItemsH H (cs :: css) (x :: l)
inductive CellH (H : Hp) : List Value → Cell → Prop where
  | mk {id : Int} {head : Head} {flow : List Item} {hcs : List Value} {fa : Option Addr} {fn fc : Nat} {fcss : List (List Value)} (hh : HeadH H hcs head) (hf : HRow H fa fn fc 11 fcss) (hfi : ItemsH H fcss flow) :
    CellH H (.int .i64 id :: (hcs ++ [.slice fa fn fc])) (id, head, flow)
inductive CellsH (H : Hp) : List (List Value) → List Cell → Prop where
  | nil : CellsH H [] []
  | cons {cs : List Value} {x : Cell} {css : List (List Value)} {l : List Cell} (h : CellH H cs x) (t : CellsH H css l) : CellsH H (cs :: css) (x :: l)
inductive RowH (H : Hp) : List Value → Row → Prop where
  | mk {head : Head} {cells : List Cell} {hcs : List Value} {ca : Option Addr} {cn cc : Nat} {ccss : List (List Value)} (hh : HeadH H hcs head) (hc : HRow H ca cn cc 7 ccss) (hci : CellsH H ccss cells) :
    RowH H (hcs ++ [.slice ca cn cc]) (head, cells)
inductive RowsH (H : Hp) : List (List Value) → List Row → Prop where
  | nil : RowsH H [] []
  | cons {cs : List Value} {x : Row} {css : List (List Value)} {l : List Row} (h : RowH H cs x) (t : RowsH H css l) : RowsH H (cs :: css) (x :: l)
end

theorem HeadH.mono {H H' : Hp} (hl : HLe H H') {cs : List Value} {h : Head} : HeadH H cs h → HeadH H' cs h := fun ⟨pa, pn, pc, da, dn, dc, la, ln, lc, e, h1, h2, h3⟩ => ⟨pa, pn, pc, da, dn, dc, la, ln, lc, e, h1.mono hl, h2.mono hl, h3.mono hl⟩
mutual
theorem ItemH.mono {H H' : Hp} (hl : HLe H H') {cs : List Value} {x : Item} : ItemH H cs x → ItemH H' cs x
  | .mk hh hf hfi hr hri => .mk (hh.mono hl) (hf.mono hl) (hfi.mono hl) (hr.mono hl) (hri.mono hl)
theorem ItemsH.mono {H H' : Hp} (hl : HLe H H') {css : List (List Value)} {l : List Item} : ItemsH H css l → ItemsH H' css l
  | .nil => .nil
  | .cons h t => .cons (h.mono hl) (t.mono hl)
theorem CellH.mono {H H' : Hp} (hl : HLe H H') {cs : List Value} {x : Cell} : CellH H cs x → CellH H' cs x
  | .mk hh hf hfi => .mk (hh.mono hl) (hf.mono hl) (hfi.mono hl)
theorem CellsH.mono {H H' : Hp} (hl : HLe H H') {css : List (List Value)} {l : List Cell} : CellsH H css l → CellsH H' css l
  | .nil => .nil
  | .cons h t => .cons (h.mono hl) (t.mono hl)
theorem RowH.mono {H H' : Hp} (hl : HLe H H') {cs : List Value} {x : Row} : RowH H cs x → RowH H' cs x
  | .mk hh hc hci => .mk (hh.mono hl) (hc.mono hl) (hci.mono hl)
theorem RowsH.mono {H H' : Hp} (hl : HLe H H') {css : List (List Value)} {l : List Row} : RowsH H css l → RowsH H' css l
  | .nil => .nil
  | .cons h t => .cons (h.mono hl) (t.mono hl)
end

/-- lists of cells and lists of data, one by one -/
inductive All2 {α : Type} (R : List Value → α → Prop) : List (List Value) → List α → Prop where
  | nil : All2 R [] []
  | cons {cs : List Value} {x : α} {css : List (List Value)} {l : List α} (h : R cs x) (t : All2 R css l) : All2 R (cs :: css) (x :: l)
theorem ItemsH.all {H : Hp} {css : List (List Value)} {l : List Item} (h : ItemsH H css l) : All2 (ItemH H) css l := by
  induction l generalizing css with
  | nil => cases h; exact .nil
  | cons x l ih => cases h with | cons h t => exact .cons h (ih t)
theorem ItemsH.of {H : Hp} {css : List (List Value)} {l : List Item} (h : All2 (ItemH H) css l) : ItemsH H css l := by
  induction h with
  | nil => exact .nil
  | cons h t ih => exact .cons h ih
theorem CellsH.all {H : Hp} {css : List (List Value)} {l : List Cell} (h : CellsH H css l) : All2 (CellH H) css l := by
  induction l generalizing css with
  | nil => cases h; exact .nil
  | cons x l ih => cases h with | cons h t => exact .cons h (ih t)
theorem CellsH.of {H : Hp} {css : List (List Value)} {l : List Cell} (h : All2 (CellH H) css l) : CellsH H css l := by
  induction h with
  | nil => exact .nil
  | cons h t ih => exact .cons h ih
theorem RowsH.all {H : Hp} {css : List (List Value)} {l : List Row} (h : RowsH H css l) : All2 (RowH H) css l := by
  induction l generalizing css with
  | nil => cases h; exact .nil
  | cons x l ih => cases h with | cons h t => exact .cons h (ih t)
theorem RowsH.of {H : Hp} {css : List (List Value)} {l : List Row} (h : All2 (RowH H) css l) : RowsH H css l := by
  induction h with
  | nil => exact .nil
  | cons h t ih => exact .cons h ih
section
variable {α β : Type} {R : List Value → α → Prop} {css css' : List (List Value)} {l l' : List α}
theorem All2.length (h : All2 R css l) : css.length = l.length := by induction h with | nil => rfl | cons _ _ ih => simp [ih]
theorem All2.append (h : All2 R css l) (h' : All2 R css' l') : All2 R (css ++ css') (l ++ l') := by
  induction h with
  | nil => exact h'
  | cons h t ih => exact .cons h ih
theorem All2.one {cs : List Value} {x : α} (h : R cs x) : All2 R [cs] [x] := .cons h .nil
theorem All2.get (h : All2 R css l) {i : Nat} {cs : List Value} (hi : css[i]? = some cs) : ∃ x, l[i]? = some x ∧ R cs x := by
  induction h generalizing i with
  | nil => simp at hi
  | cons h t ih => cases i with
    | zero => simp at hi; subst hi; exact ⟨_, by simp, h⟩
    | succ i => simp at hi; obtain ⟨x, h1, h2⟩ := ih hi; exact ⟨x, by simpa using h1, h2⟩
theorem All2.mono {R' : List Value → α → Prop} (hR : ∀ cs x, R cs x → R' cs x) (h : All2 R css l) : All2 R' css l := by
  induction h with
  | nil => exact .nil
  | cons h t ih => exact .cons (hR _ _ h) ih
theorem All2.take (h : All2 R css l) (n : Nat) : All2 R (css.take n) (l.take n) := by
  induction h generalizing n with
  | nil => simp; exact .nil
  | cons h t ih => cases n with
    | zero => exact .nil
    | succ n => exact .cons h (ih n)
theorem All2.drop (h : All2 R css l) (n : Nat) : All2 R (css.drop n) (l.drop n) := by
  induction h generalizing n with
  | nil => simp; exact .nil
  | cons h t ih => cases n with
    | zero => exact .cons h t
    | succ n => exact ih n
end

/-- a slice of data: k cells each -/
structure SlH {α : Type} (H : Hp) (R : Hp → List Value → α → Prop) (k : Nat) (a : Option Addr) (n c : Nat) (l : List α) : Prop where
  ex : ∃ css, HRow H a n c k css ∧ All2 (R H) css l
theorem SlH.len {α : Type} {H : Hp} {R : Hp → List Value → α → Prop} {k : Nat} {a : Option Addr} {n c : Nat} {l : List α} (h : SlH H R k a n c l) : l.length = n := by
  obtain ⟨css, h1, h2⟩ := h.ex
  rw [← h2.length, h1.len]
/-- the element at a place -/
theorem SlH.at {α : Type} {H : Hp} {R : Hp → List Value → α → Prop} {k : Nat} {a : Option Addr} {n c : Nat} {l : List α} (h : SlH H R k a n c l) (i : Nat) (hi : i < n) :
    ∃ b o cs x, a = some ⟨b, o, none⟩ ∧ l[i]? = some x ∧ R H cs x ∧ cs.length = k ∧ HCells H b (o + i * k) cs := by
  obtain ⟨css, h1, h2⟩ := h.ex
  obtain ⟨b, o, cs, ha, hcs, hk, hc⟩ := h1.at i hi
  obtain ⟨x, hx, hR⟩ := h2.get hcs
  exact ⟨b, o, cs, x, ha, hx, hR, hk, hc⟩
abbrev FlowH (H : Hp) := SlH (α := Item) H ItemH 11
abbrev RowsS (H : Hp) := SlH (α := Row) H RowH 6
abbrev CellsS (H : Hp) := SlH (α := Cell) H CellH 7
theorem FlowH.mono {H H' : Hp} (hl : HLe H H') {a : Option Addr} {n c : Nat} {l : List Item} (h : FlowH H a n c l) : FlowH H' a n c l := by
  obtain ⟨css, h1, h2⟩ := h.ex; exact ⟨css, h1.mono hl, h2.mono fun _ _ h => h.mono hl⟩
theorem RowsS.mono {H H' : Hp} (hl : HLe H H') {a : Option Addr} {n c : Nat} {l : List Row} (h : RowsS H a n c l) : RowsS H' a n c l := by
  obtain ⟨css, h1, h2⟩ := h.ex; exact ⟨css, h1.mono hl, h2.mono fun _ _ h => h.mono hl⟩
theorem CellsS.mono {H H' : Hp} (hl : HLe H H') {a : Option Addr} {n c : Nat} {l : List Cell} (h : CellsS H a n c l) : CellsS H' a n c l := by
  obtain ⟨css, h1, h2⟩ := h.ex; exact ⟨css, h1.mono hl, h2.mono fun _ _ h => h.mono hl⟩
theorem FlowH.nil (H : Hp) : FlowH H none 0 0 [] := ⟨[], HRow.nil' H 11, .nil⟩

/-- the cells of an item, written out -/
theorem ItemH.cells {H : Hp} {cs : List Value} {x : Item} (h : ItemH H cs x) : ∃ (pa : Option Addr) (pn pc : Nat) (da : Option Addr) (dn dc : Nat) (la : Option Addr) (ln lc : Nat) (fa : Option Addr) (fn fc : Nat) (ra : Option Addr) (rn rc : Nat),
    cs = [.int .i64 x.kind, .int .i64 x.code, .int .i64 x.id, sv x.text, .slice pa pn pc, .int .i64 x.head.ins, .int .i64 x.head.move, .slice da dn dc, .slice la ln lc, .slice fa fn fc, .slice ra rn rc] ∧
    HRow H pa pn pc 2 (x.head.props.map prow) ∧ HRow H da dn dc 2 (x.head.dels.map drow) ∧ HRow H la ln lc 4 (x.head.layers.map lrow) ∧ FlowH H fa fn fc x.flow ∧ RowsS H ra rn rc x.rows := by
  cases h with
  | mk hh hf hfi hr hri =>
    obtain ⟨pa, pn, pc, da, dn, dc, la, ln, lc, rfl, h1, h2, h3⟩ := hh.ex
    exact ⟨pa, pn, pc, da, dn, dc, la, ln, lc, _, _, _, _, _, _, rfl, h1, h2, h3, ⟨_, hf, hfi.all⟩, ⟨_, hr, hri.all⟩⟩
theorem ItemH.of {H : Hp} {x : Item} {pa : Option Addr} {pn pc : Nat} {da : Option Addr} {dn dc : Nat} {la : Option Addr} {ln lc : Nat} {fa : Option Addr} {fn fc : Nat} {ra : Option Addr} {rn rc : Nat}
    (h1 : HRow H pa pn pc 2 (x.head.props.map prow)) (h2 : HRow H da dn dc 2 (x.head.dels.map drow)) (h3 : HRow H la ln lc 4 (x.head.layers.map lrow)) (h4 : FlowH H fa fn fc x.flow) (h5 : RowsS H ra rn rc x.rows) :
    ItemH H [.int .i64 x.kind, .int .i64 x.code, .int .i64 x.id, sv x.text, .slice pa pn pc, .int .i64 x.head.ins, .int .i64 x.head.move, .slice da dn dc, .slice la ln lc, .slice fa fn fc, .slice ra rn rc] x := by
  obtain ⟨kind, code, id, text, head, flow, rows⟩ := x
  obtain ⟨fcss, hf, hfi⟩ := h4.ex
  obtain ⟨rcss, hr, hri⟩ := h5.ex
  exact ItemH.mk (hcs := [_, _, _, _, _]) ⟨pa, pn, pc, da, dn, dc, la, ln, lc, rfl, h1, h2, h3⟩ hf (ItemsH.of hfi) hr (RowsH.of hri)
theorem RowH.cells {H : Hp} {cs : List Value} {x : Row} (h : RowH H cs x) : ∃ (pa : Option Addr) (pn pc : Nat) (da : Option Addr) (dn dc : Nat) (la : Option Addr) (ln lc : Nat) (ca : Option Addr) (cn cc : Nat),
    cs = [.slice pa pn pc, .int .i64 x.1.ins, .int .i64 x.1.move, .slice da dn dc, .slice la ln lc, .slice ca cn cc] ∧
    HRow H pa pn pc 2 (x.1.props.map prow) ∧ HRow H da dn dc 2 (x.1.dels.map drow) ∧ HRow H la ln lc 4 (x.1.layers.map lrow) ∧ CellsS H ca cn cc x.2 := by
  cases h with
  | mk hh hc hci =>
    obtain ⟨pa, pn, pc, da, dn, dc, la, ln, lc, rfl, h1, h2, h3⟩ := hh.ex
    exact ⟨pa, pn, pc, da, dn, dc, la, ln, lc, _, _, _, rfl, h1, h2, h3, ⟨_, hc, hci.all⟩⟩
theorem RowH.of {H : Hp} {x : Row} {pa : Option Addr} {pn pc : Nat} {da : Option Addr} {dn dc : Nat} {la : Option Addr} {ln lc : Nat} {ca : Option Addr} {cn cc : Nat}
    (h1 : HRow H pa pn pc 2 (x.1.props.map prow)) (h2 : HRow H da dn dc 2 (x.1.dels.map drow)) (h3 : HRow H la ln lc 4 (x.1.layers.map lrow)) (h4 : CellsS H ca cn cc x.2) :
    RowH H [.slice pa pn pc, .int .i64 x.1.ins, .int .i64 x.1.move, .slice da dn dc, .slice la ln lc, .slice ca cn cc] x := by
  obtain ⟨head, cells⟩ := x
  obtain ⟨ccss, hc, hci⟩ := h4.ex
  exact RowH.mk (hcs := [_, _, _, _, _]) ⟨pa, pn, pc, da, dn, dc, la, ln, lc, rfl, h1, h2, h3⟩ hc (CellsH.of hci)
theorem CellH.cells {H : Hp} {cs : List Value} {x : Cell} (h : CellH H cs x) : ∃ (pa : Option Addr) (pn pc : Nat) (da : Option Addr) (dn dc : Nat) (la : Option Addr) (ln lc : Nat) (fa : Option Addr) (fn fc : Nat),
    cs = [.int .i64 x.1, .slice pa pn pc, .int .i64 x.2.1.ins, .int .i64 x.2.1.move, .slice da dn dc, .slice la ln lc, .slice fa fn fc] ∧
    HRow H pa pn pc 2 (x.2.1.props.map prow) ∧ HRow H da dn dc 2 (x.2.1.dels.map drow) ∧ HRow H la ln lc 4 (x.2.1.layers.map lrow) ∧ FlowH H fa fn fc x.2.2 := by
  cases h with
  | mk hh hf hfi =>
    obtain ⟨pa, pn, pc, da, dn, dc, la, ln, lc, rfl, h1, h2, h3⟩ := hh.ex
    exact ⟨pa, pn, pc, da, dn, dc, la, ln, lc, _, _, _, rfl, h1, h2, h3, ⟨_, hf, hfi.all⟩⟩
theorem CellH.of {H : Hp} {x : Cell} {pa : Option Addr} {pn pc : Nat} {da : Option Addr} {dn dc : Nat} {la : Option Addr} {ln lc : Nat} {fa : Option Addr} {fn fc : Nat}
    (h1 : HRow H pa pn pc 2 (x.2.1.props.map prow)) (h2 : HRow H da dn dc 2 (x.2.1.dels.map drow)) (h3 : HRow H la ln lc 4 (x.2.1.layers.map lrow)) (h4 : FlowH H fa fn fc x.2.2) :
    CellH H [.int .i64 x.1, .slice pa pn pc, .int .i64 x.2.1.ins, .int .i64 x.2.1.move, .slice da dn dc, .slice la ln lc, .slice fa fn fc] x := by
  obtain ⟨id, head, flow⟩ := x
  obtain ⟨fcss, hf, hfi⟩ := h4.ex
  exact CellH.mk (hcs := [_, _, _, _, _]) ⟨pa, pn, pc, da, dn, dc, la, ln, lc, rfl, h1, h2, h3⟩ hf (ItemsH.of hfi)
end Go.Proofs.YtofkolbnhcckkaaGreat
