/-
  Heads as data, and how they lie in memory (printed by genM.py).
-/
import Derived.Test.YthniohgeojenaaaA16
import Derived.Test.YthniohgeojenaaaT2
namespace Go.Proofs.Ythniohgeojenaaa
open Go
set_option linter.unusedVariables false
set_option linter.unusedSimpArgs false
structure Prp where
  key : Int
  val : Int
  deriving DecidableEq
structure Dele where
  rev : Int
  move : Int
  deriving DecidableEq
structure Layr where
  rev : Int
  key : Int
  before : Int
  had : Bool
  deriving DecidableEq
structure Head where
  props : List Prp
  ins : Int
  move : Int
  dels : List Dele
  layers : List Layr
  deriving DecidableEq
def prow (p : Prp) : List Value := [.int .i64 p.key, .int .i64 p.val]
def drow (d : Dele) : List Value := [.int .i64 d.rev, .int .i64 d.move]
def lrow (l : Layr) : List Value := [.int .i64 l.rev, .int .i64 l.key, .int .i64 l.before, .bool l.had]

/-- the cells of a head -/
structure HeadH (H : Hp) (cs : List Value) (h : Head) : Prop where
  ex : ∃ (pa : Option Addr) (pn pc : Nat) (da : Option Addr) (dn dc : Nat) (la : Option Addr) (ln lc : Nat),
    cs = [.slice pa pn pc, .int .i64 h.ins, .int .i64 h.move, .slice da dn dc, .slice la ln lc] ∧
    HRow H pa pn pc 2 (h.props.map prow) ∧ HRow H da dn dc 2 (h.dels.map drow) ∧ HRow H la ln lc 4 (h.layers.map lrow)

theorem HeadH.mono {H H' : Hp} (hl : HLe H H') {cs : List Value} {h : Head} : HeadH H cs h → HeadH H' cs h := fun ⟨pa, pn, pc, da, dn, dc, la, ln, lc, e, h1, h2, h3⟩ => ⟨pa, pn, pc, da, dn, dc, la, ln, lc, e, h1.mono hl, h2.mono hl, h3.mono hl⟩
/-- lists of cells and lists of data, one by one -/
inductive All2 {α : Type} (R : List Value → α → Prop) : List (List Value) → List α → Prop where
  | nil : All2 R [] []
  | cons {cs : List Value} {x : α} {css : List (List Value)} {l : List α} (h : R cs x) (t : All2 R css l) : All2 R (cs :: css) (x :: l)
section
variable {α β : Type} {R : List Value → α → Prop} {css css' : List (List Value)} {l l' : List α}
theorem All2.length (h : All2 R css l) : css.length = l.length := by induction h with | nil => rfl | cons _ _ ih => simp [ih]
theorem All2.append (h : All2 R css l) (h' : All2 R css' l') : All2 R (css ++ css') (l ++ l') := by
  induction h with
  | nil => exact h'
  | cons h t ih => exact .cons h ih
theorem All2.one {cs : List Value} {x : α} (h : R cs x) : All2 R [cs] [x] := .cons h .nil
theorem All2.get (h : All2 R css l) {i : Nat} {cs : List Value} (hi : css[i]? = some cs) : ∃ x, l[i]? = some x ∧ R cs x := by
  induction h generalizing i with
  | nil => simp at hi
  | cons h t ih => cases i with
    | zero => simp at hi; subst hi; exact ⟨_, by simp, h⟩
    | succ i => simp at hi; obtain ⟨x, h1, h2⟩ := ih hi; exact ⟨x, by simpa using h1, h2⟩
theorem All2.mono {R' : List Value → α → Prop} (hR : ∀ cs x, R cs x → R' cs x) (h : All2 R css l) : All2 R' css l := by
  induction h with
  | nil => exact .nil
  | cons h t ih => exact .cons (hR _ _ h) ih
theorem All2.take (h : All2 R css l) (n : Nat) : All2 R (css.take n) (l.take n) := by
  induction h generalizing n with
  | nil => simp; exact .nil
  | cons h t ih => cases n with
    | zero => exact .nil
    | succ n => exact .cons h (ih n)
theorem All2.drop (h : All2 R css l) (n : Nat) : All2 R (css.drop n) (l.drop n) := by
  induction h generalizing n with
  | nil => simp; exact .nil
  | cons h t ih => cases n with
    | zero => exact .cons h t
    | succ n => exact ih n
end

/-- a slice of data: k cells each -/
structure SlH {α : Type} (H : Hp) (R : Hp → List Value → α → Prop) (k : Nat) (a : Option Addr) (n c : Nat) (l : List α) : Prop where
  ex : ∃ css, HRow H a n c k css ∧ All2 (R H) css l
theorem SlH.len {α : Type} {H : Hp} {R : Hp → List Value → α → Prop} {k : Nat} {a : Option Addr} {n c : Nat} {l : List α} (h : SlH H R k a n c l) : l.length = n := by
  obtain ⟨css, h1, h2⟩ := h.ex
  rw [← h2.length, h1.len]
/-- the element at a place -/
theorem SlH.at {α : Type} {H : Hp} {R : Hp → List Value → α → Prop} {k : Nat} {a : Option Addr} {n c : Nat} {l : List α} (h : SlH H R k a n c l) (i : Nat) (hi : i < n) :
    ∃ b o cs x, a = some ⟨b, o, none⟩ ∧ l[i]? = some x ∧ R H cs x ∧ cs.length = k ∧ HCells H b (o + i * k) cs := by
  obtain ⟨css, h1, h2⟩ := h.ex
  obtain ⟨b, o, cs, ha, hcs, hk, hc⟩ := h1.at i hi
  obtain ⟨x, hx, hR⟩ := h2.get hcs
  exact ⟨b, o, cs, x, ha, hx, hR, hk, hc⟩
theorem SlH.mono {α : Type} {H H' : Hp} {R : Hp → List Value → α → Prop} (hR : ∀ cs x, R H cs x → R H' cs x) (hl : HLe H H') {k : Nat} {a : Option Addr} {n c : Nat} {l : List α} (h : SlH H R k a n c l) : SlH H' R k a n c l := by
  obtain ⟨css, h1, h2⟩ := h.ex
  exact ⟨css, h1.mono hl, h2.mono hR⟩
def Head.mass (h : Head) : Nat := h.props.length + h.dels.length + h.layers.length
theorem take_get {α : Type} {l : List α} {i : Nat} {x : α} (h : l[i]? = some x) : l.take (i + 1) = l.take i ++ [x] := by
  have hl := (List.getElem?_eq_some_iff.1 h).1
  rw [List.take_succ_eq_append_getElem hl]
  congr 2
  have := (List.getElem?_eq_some_iff.1 h).2
  rw [this]
theorem list_ext {α : Type} {l l' : List α} (hl : l.length = l'.length) (h : ∀ j, j < l.length → l[j]? = l'[j]?) : l = l' := by
  apply List.ext_getElem?
  intro j
  by_cases hj : j < l.length
  · exact h j hj
  · rw [List.getElem?_eq_none (by omega), List.getElem?_eq_none (by omega)]
/-- the element of a row of data at a place -/
theorem HRow.atm {H : Hp} {α : Type} {f : α → List Value} {l : List α} {a : Option Addr} {n c k : Nat} (h : HRow H a n c k (l.map f)) (i : Nat) (hi : i < n) :
    ∃ b o x, a = some ⟨b, o, none⟩ ∧ l[i]? = some x ∧ HCells H b (o + i * k) (f x) := by
  obtain ⟨b, o, cs, ha, hcs, _, hc⟩ := h.at i hi
  rw [List.getElem?_map] at hcs
  obtain ⟨x, hx, rfl⟩ := Option.map_eq_some_iff.1 hcs
  exact ⟨b, o, x, ha, hx, hc⟩
/-- what is handed back may be seen otherwise -/
theorem Fn.shift {P : Program} {f : FuncId} {args : List Value} {H : Hp} {I : Own} {post post' : Value → Hp → Own → Prop} (h : Fn P f args H I post)
    (hp : ∀ (c : Ctx) (w : World) v H' I', Holds c H' I' w → post v H' I' → ∃ H'' I'', Holds c H'' I'' w ∧ post' v H'' I'') : Fn P f args H I post' := by
  unfold Fn at *
  intro w hw
  refine (h w hw).mono ?_
  rintro e w' ⟨v, H', I', he, hh, hq⟩
  obtain ⟨H'', I'', h1, h2⟩ := hp _ w' v H' I' hh hq
  exact ⟨v, H'', I'', he, h1, h2⟩
theorem prow_one (l : List Prp) : ∀ cs ∈ l.map prow, ∀ u ∈ cs, u.oneCell' = true := by
  intro cs hcs u hu
  obtain ⟨p, _, rfl⟩ := List.mem_map.1 hcs
  simp [prow] at hu
  rcases hu with rfl | rfl <;> rfl
theorem drow_one (l : List Dele) : ∀ cs ∈ l.map drow, ∀ u ∈ cs, u.oneCell' = true := by
  intro cs hcs u hu
  obtain ⟨p, _, rfl⟩ := List.mem_map.1 hcs
  simp [drow] at hu
  rcases hu with rfl | rfl <;> rfl
theorem lrow_one (l : List Layr) : ∀ cs ∈ l.map lrow, ∀ u ∈ cs, u.oneCell' = true := by
  intro cs hcs u hu
  obtain ⟨p, _, rfl⟩ := List.mem_map.1 hcs
  simp [lrow] at hu
  rcases hu with rfl | rfl | rfl | rfl <;> rfl
theorem End_s {c : Ctx} {P : Program} {fn : Func} {n : Nat} {e : Env} {H : Hp} {M L : Own} {v : Value} {post : Value → Hp → Own → Prop} (h : RetOk P fn ⟨n, e, H, M, L, []⟩ v) (hs : Shift c (fun s' => s'.L = [] ∧ post v s'.H s'.M) ⟨n, e, H, M, L, []⟩) :
    Shift c (EndOf c P fn post) ⟨n, e, H, M, L, []⟩ := Shift.pure ⟨v, h, rfl, hs⟩
theorem ones_of {css : List (List Value)} (h : (css.all fun cs => cs.all (·.oneCell')) = true) : ∀ cs ∈ css, ∀ u ∈ cs, u.oneCell' = true := fun cs hcs => List.all_eq_true.1 (List.all_eq_true.1 h cs hcs)
theorem Ev_nebs {P : Program} {e : Env} {H : Hp} {R : Own} {dst : Option Tmp} {ty : TypeId} {pos : String} {after : Array Edge} {g : Option (Nat × Bool)} {x y : Operand} {t t2 : TypeId} [ht : UndC P t .bool] {b : Bool} (hx : e.eval x = some (.bool b)) (hy : e.eval y = some (.bool b)) : Ev P ⟨dst, .binOp .neq t x y t2, ty, pos, after, g⟩ e H R (.bool false) := by
  have h := Ev_neb (P := P) (H := H) (R := R) (dst := dst) (ty := ty) (pos := pos) (after := after) (g := g) (t := t) (t2 := t2) hx hy
  have hb : (!(b == b)) = false := by cases b <;> rfl
  rwa [hb] at h
theorem Ev_eqbs {P : Program} {e : Env} {H : Hp} {R : Own} {dst : Option Tmp} {ty : TypeId} {pos : String} {after : Array Edge} {g : Option (Nat × Bool)} {x y : Operand} {t t2 : TypeId} [ht : UndC P t .bool] {b : Bool} (hx : e.eval x = some (.bool b)) (hy : e.eval y = some (.bool b)) : Ev P ⟨dst, .binOp .eql t x y t2, ty, pos, after, g⟩ e H R (.bool true) := by
  have h := Ev_eqb (P := P) (H := H) (R := R) (dst := dst) (ty := ty) (pos := pos) (after := after) (g := g) (t := t) (t2 := t2) hx hy
  have hb : (b == b) = true := by cases b <;> rfl
  rwa [hb] at h
theorem HRow.slice {H : Hp} {a : Option Addr} {n c k : Nat} {css : List (List Value)} (h : HRow H a n c k css) {i j : Nat} (h1 : i ≤ j) (h2 : j ≤ n) :
    HRow H (if c = i then a else a.map (·.add (i * k))) (j - i) (c - i) k ((css.drop i).take (j - i)) := by
  have hc := h.cap
  refine ⟨by rw [List.length_take, List.length_drop, h.len]; omega, by omega, fun hn => ?_, fun q cs hq => ?_⟩
  · have : a = none := by
      split at hn
      · exact hn
      · simpa using hn
    have := h.nil this
    omega
  · rw [List.getElem?_take] at hq
    split at hq
    · rename_i hlt
      rw [List.getElem?_drop] at hq
      obtain ⟨hl, b, o, ha, hcs⟩ := h.el (i + q) cs hq
      refine ⟨hl, b, o + i * k, ?_, ?_⟩
      · rw [if_neg (by omega), ha]
        simp [Addr.add_lit]
      · intro x v hx
        have := hcs x v hx
        rwa [show o + i * k + q * k + x = o + (i + q) * k + x by rw [Nat.add_mul]; omega]
    · cases hq
theorem HRow.upto {H : Hp} {a : Option Addr} {n c k : Nat} {css : List (List Value)} (h : HRow H a n c k css) {j : Nat} (hj : j ≤ n) : HRow H a j c k (css.take j) := by
  have hc := h.cap
  refine ⟨by rw [List.length_take, h.len]; omega, by omega, fun hn => ?_, fun q cs hq => ?_⟩
  · have := h.nil hn; omega
  · rw [List.getElem?_take] at hq
    split at hq
    · exact h.el q cs hq
    · cases hq
end Go.Proofs.Ythniohgeojenaaa
