/-
  What comparisons of heads, cells, rows and items need.
-/
import Derived.Test.YtofkolbnhcckkaaGreatR1
import Derived.Test.YtofkolbnhcckkaaGreatA11
namespace Go.Proofs.YtofkolbnhcckkaaGreat
open Go
set_option linter.unusedVariables false
set_option linter.unusedSimpArgs false
theorem eq_prop (a b c d : Int) : ∀ w, (Op.equalIn 10000 125 (.agg [.int .i64 a, .int .i64 b].toArray) (.agg [.int .i64 c, .int .i64 d].toArray)).run Tryz.prog w = .ok (decide (a = c ∧ b = d)) w := fun w => by
  have key : ∀ m : Nat, (Op.equalIn (m + 2) 125 (.agg [.int .i64 a, .int .i64 b].toArray) (.agg [.int .i64 c, .int .i64 d].toArray)).run Tryz.prog w = .ok (decide (a = c ∧ b = d)) w := fun m => by
    have hf := fieldsOf_of Tryz.underlying125
    rw [run_equalIn_agg (P := Tryz.prog) w (m + 1) _ _ _ (by rw [hf]; exact Tryz.underlying125) Tryz.stoodInHeld125, hf]
    have h1 := fun x y : Int => run_equalIn_int (P := Tryz.prog) w m 3 .i64 .i64 x y Tryz.underlying3
    simp [Op.eqFields, part, Tryz.isAgg3, h1]
    by_cases h2 : a = c <;> by_cases h3 : b = d <;> simp [h2, h3]
  exact key 9998
theorem eq_del (a b c d : Int) : ∀ w, (Op.equalIn 10000 128 (.agg [.int .i64 a, .int .i64 b].toArray) (.agg [.int .i64 c, .int .i64 d].toArray)).run Tryz.prog w = .ok (decide (a = c ∧ b = d)) w := fun w => by
  have key : ∀ m : Nat, (Op.equalIn (m + 2) 128 (.agg [.int .i64 a, .int .i64 b].toArray) (.agg [.int .i64 c, .int .i64 d].toArray)).run Tryz.prog w = .ok (decide (a = c ∧ b = d)) w := fun m => by
    have hf := fieldsOf_of Tryz.underlying128
    rw [run_equalIn_agg (P := Tryz.prog) w (m + 1) _ _ _ (by rw [hf]; exact Tryz.underlying128) Tryz.stoodInHeld128, hf]
    have h1 := fun x y : Int => run_equalIn_int (P := Tryz.prog) w m 3 .i64 .i64 x y Tryz.underlying3
    simp [Op.eqFields, part, Tryz.isAgg3, h1]
    by_cases h2 : a = c <;> by_cases h3 : b = d <;> simp [h2, h3]
  exact key 9998
theorem eq_layer (a b c a' b' c' : Int) (h h' : Bool) : ∀ w, (Op.equalIn 10000 131 (.agg [.int .i64 a, .int .i64 b, .int .i64 c, .bool h].toArray) (.agg [.int .i64 a', .int .i64 b', .int .i64 c', .bool h'].toArray)).run Tryz.prog w = .ok (decide (a = a' ∧ b = b' ∧ c = c' ∧ h = h')) w := fun w => by
  have key : ∀ m : Nat, (Op.equalIn (m + 2) 131 (.agg [.int .i64 a, .int .i64 b, .int .i64 c, .bool h].toArray) (.agg [.int .i64 a', .int .i64 b', .int .i64 c', .bool h'].toArray)).run Tryz.prog w = .ok (decide (a = a' ∧ b = b' ∧ c = c' ∧ h = h')) w := fun m => by
    have hf := fieldsOf_of Tryz.underlying131
    rw [run_equalIn_agg (P := Tryz.prog) w (m + 1) _ _ _ (by rw [hf]; exact Tryz.underlying131) Tryz.stoodInHeld131, hf]
    have h1 := fun x y : Int => run_equalIn_int (P := Tryz.prog) w m 3 .i64 .i64 x y Tryz.underlying3
    have h2 := fun x y : Bool => run_equalIn_bool' (P := Tryz.prog) w m 4 x y Tryz.underlying4
    simp [Op.eqFields, part, Tryz.isAgg3, Tryz.isAgg4, h1, h2]
    by_cases e1 : a = a' <;> by_cases e2 : b = b' <;> by_cases e3 : c = c' <;> by_cases e4 : h = h' <;> simp [e1, e2, e3, e4]
  exact key 9998

theorem list_ext {α : Type} {l l' : List α} (hl : l.length = l'.length) (h : ∀ j, j < l.length → l[j]? = l'[j]?) : l = l' := by
  apply List.ext_getElem?
  intro j
  by_cases hj : j < l.length
  · exact h j hj
  · rw [List.getElem?_eq_none (by omega), List.getElem?_eq_none (by omega)]
/-- the element of a row of data at a place -/
theorem HRow.atm {H : Hp} {α : Type} {f : α → List Value} {l : List α} {a : Option Addr} {n c k : Nat} (h : HRow H a n c k (l.map f)) (i : Nat) (hi : i < n) :
    ∃ b o x, a = some ⟨b, o, none⟩ ∧ l[i]? = some x ∧ HCells H b (o + i * k) (f x) := by
  obtain ⟨b, o, cs, ha, hcs, _, hc⟩ := h.at i hi
  rw [List.getElem?_map] at hcs
  obtain ⟨x, hx, rfl⟩ := Option.map_eq_some_iff.1 hcs
  exact ⟨b, o, x, ha, hx, hc⟩
noncomputable instance decItem : DecidableEq Item := fun a b => Classical.propDecidable (a = b)
theorem HeadH.of {H : Hp} {h : Head} {pa : Option Addr} {pn pc : Nat} {da : Option Addr} {dn dc : Nat} {la : Option Addr} {ln lc : Nat}
    (h1 : HRow H pa pn pc 2 (h.props.map prow)) (h2 : HRow H da dn dc 2 (h.dels.map drow)) (h3 : HRow H la ln lc 4 (h.layers.map lrow)) :
    HeadH H [.slice pa pn pc, .int .i64 h.ins, .int .i64 h.move, .slice da dn dc, .slice la ln lc] h := ⟨pa, pn, pc, da, dn, dc, la, ln, lc, rfl, h1, h2, h3⟩
/-- the comparison of flows of less than N -/
def EqF (f : FuncId) (H : Hp) (N : Nat) : Prop := ∀ {a : Option Addr} {n c : Nat} {a' : Option Addr} {n' c' : Nat} {l l' : List Item}, FlowH H a n c l → FlowH H a' n' c' l' → massL l < N → FnP Tryz.prog f [.slice a n c, .slice a' n' c'] H (.bool (decide (l = l')))

theorem Item.ext_iff' (x y : Item) : x = y ↔ x.kind = y.kind ∧ x.code = y.code ∧ x.id = y.id ∧ x.text = y.text ∧ x.head = y.head ∧ x.flow = y.flow ∧ x.rows = y.rows := by
  cases x; cases y
  simp [Item.kind, Item.code, Item.id, Item.text, Item.head, Item.flow, Item.rows]
def Item.setText : Item → List UInt8 → Item
  | .mk k c i _ h f r, t => .mk k c i t h f r
theorem ItemH.setText {H : Hp} {x : Item} {pa : Option Addr} {pn pc : Nat} {da : Option Addr} {dn dc : Nat} {la : Option Addr} {ln lc : Nat} {fa : Option Addr} {fn fc : Nat} {ra : Option Addr} {rn rc : Nat} {s t : List UInt8}
    (h : ItemH H [.int .i64 x.kind, .int .i64 x.code, .int .i64 x.id, sv s, .slice pa pn pc, .int .i64 x.head.ins, .int .i64 x.head.move, .slice da dn dc, .slice la ln lc, .slice fa fn fc, .slice ra rn rc] x) :
    ItemH H [.int .i64 x.kind, .int .i64 x.code, .int .i64 x.id, sv t, .slice pa pn pc, .int .i64 x.head.ins, .int .i64 x.head.move, .slice da dn dc, .slice la ln lc, .slice fa fn fc, .slice ra rn rc] (x.setText t) := by
  obtain ⟨pa', pn', pc', da', dn', dc', la', ln', lc', fa', fn', fc', ra', rn', rc', he, h1, h2, h3, h4, h5⟩ := h.cells
  cases x
  simp only [List.cons.injEq, Value.slice.injEq] at he
  obtain ⟨_, _, _, _, ⟨rfl, rfl, rfl⟩, _, _, ⟨rfl, rfl, rfl⟩, ⟨rfl, rfl, rfl⟩, ⟨rfl, rfl, rfl⟩, ⟨rfl, rfl, rfl⟩, _⟩ := he
  exact ItemH.of (x := .mk _ _ _ t _ _ _) h1 h2 h3 h4 h5
theorem ItemH.one {H : Hp} {cs : List Value} {x : Item} (h : ItemH H cs x) : ∀ u ∈ cs, u.oneCell' = true := by
  obtain ⟨pa', pn', pc', da', dn', dc', la', ln', lc', fa', fn', fc', ra', rn', rc', rfl, _⟩ := h.cells
  intro u hu
  simp at hu
  rcases hu with rfl | rfl | rfl | rfl | rfl | rfl | rfl | rfl | rfl | rfl | rfl <;> rfl
theorem All2.one_all {H : Hp} {css : List (List Value)} {l : List Item} (h : All2 (ItemH H) css l) : ∀ cs ∈ css, ∀ u ∈ cs, u.oneCell' = true := by
  induction h with
  | nil => simp
  | cons h t ih => intro cs hcs; rcases List.mem_cons.1 hcs with rfl | hcs; exact h.one; exact ih cs hcs
end Go.Proofs.YtofkolbnhcckkaaGreat
