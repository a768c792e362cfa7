/-
  Reading memory: persistent facts, owned blocks; slices.
-/
import Derived.Test.YthniohgeojenaaaA3
namespace Go.Proofs.Ythniohgeojenaaa
open Go
set_option linter.unusedVariables false
set_option linter.unusedSimpArgs false

/-- the parts of a slice's value -/
structure SL where
  a : Option Addr
  n : Nat
  c : Nat
def SL.v (s : SL) : Value := .slice s.a s.n s.c

/-- a slice whose cells are persistent: css are its elements, k cells each -/
structure HRow (H : Hp) (a : Option Addr) (n c : Nat) (k : Nat) (css : List (List Value)) : Prop where
  len : css.length = n
  cap : n ≤ c
  nil : a = none → n = 0 ∧ c = 0
  el : ∀ i cs, css[i]? = some cs → cs.length = k ∧ ∃ b o, a = some ⟨b, o, none⟩ ∧ HCells H b (o + i * k) cs

def HLe (H H' : Hp) : Prop := ∀ b o v, H b o = some v → H' b o = some v
theorem HLe.refl (H : Hp) : HLe H H := fun _ _ _ h => h
theorem HLe.trans {H H' H'' : Hp} (h : HLe H H') (h' : HLe H' H'') : HLe H H'' := fun b o v x => h' b o v (h b o v x)
theorem HCells.mono {H H' : Hp} (hl : HLe H H') {b o : Nat} {cs : List Value} (h : HCells H b o cs) : HCells H' b o cs := fun j v hj => hl _ _ _ (h j v hj)
theorem HRow.mono {H H' : Hp} (hl : HLe H H') {a : Option Addr} {n c k : Nat} {css : List (List Value)} (h : HRow H a n c k css) : HRow H' a n c k css :=
  ⟨h.len, h.cap, h.nil, fun i cs hi => let ⟨h1, b, o, h2, h3⟩ := h.el i cs hi; ⟨h1, b, o, h2, h3.mono hl⟩⟩
theorem HRow.nil' (H : Hp) (k : Nat) : HRow H none 0 0 k [] := ⟨rfl, Nat.le_refl _, fun _ => ⟨rfl, rfl⟩, fun i cs h => by simp at h⟩
theorem HCells.sub {H : Hp} {b o : Nat} {cs : List Value} (h : HCells H b o cs) (i n : Nat) : HCells H b (o + i) ((cs.drop i).take n) := fun j v hj => by
  rw [List.getElem?_take] at hj
  split at hj
  · rw [List.getElem?_drop] at hj
    have := h (i + j) v hj
    rwa [← Nat.add_assoc] at this
  · cases hj
theorem HRow.at {H : Hp} {a : Option Addr} {n c k : Nat} {css : List (List Value)} (h : HRow H a n c k css) (i : Nat) (hi : i < n) :
    ∃ b o cs, a = some ⟨b, o, none⟩ ∧ css[i]? = some cs ∧ cs.length = k ∧ HCells H b (o + i * k) cs := by
  have hlt : i < css.length := by rw [h.len]; exact hi
  have hg : css[i]? = some css[i] := List.getElem?_eq_getElem hlt
  obtain ⟨h1, b, o, h2, h3⟩ := h.el i _ hg
  exact ⟨b, o, _, h2, hg, h1, h3⟩

/-- part of a list of cells -/
def csub (cs : List Value) (o k : Nat) : List Value := (cs.drop o).take k
def oget : Own → Nat → Option Res
  | [], _ => none
  | r :: _, 0 => some r
  | _ :: l, n + 1 => oget l n
theorem oget_mem {R : Own} {i : Nat} {r : Res} (h : oget R i = some r) : r ∈ R := by
  induction R generalizing i with
  | nil => simp [oget] at h
  | cons a l ih => cases i with
    | zero => simp [oget] at h; subst h; simp
    | succ i => simp [oget] at h; exact List.mem_cons_of_mem _ (ih h)

theorem cell_of_heap {w : World} {b i : Nat} {cs : Array Value} {T : TypeId} {fr : Nat × Nat} {v : Value} (h : w.heap[b]? = some (.cells cs T fr)) (hv : cs[i]? = some v) : w.cell? ⟨b, i, none⟩ = some v := by
  simp [World.cell?, h, hv]

section
variable {P : Program} {e : Env} {H : Hp} {R : Own} {dst : Option Tmp} {ty : TypeId} {pos : String} {after : Array Edge} {g : Option (Nat × Bool)} {x y z : Operand} {v : Value} {t t2 : TypeId} {k b o : Nat}

theorem run_load_agg [hT : TyC P t true k] {w : World} {cs : List Value} (hk : cs.length = k) (h : ∀ j v, cs[j]? = some v → w.cell? ⟨b, o + j, none⟩ = some v) :
    (Instr.loadAt t (.pointer (some ⟨b, o, none⟩))).run P w = .ok (.agg cs.toArray) w := by
  subst hk
  have h1 := run_loadCells_list (P := P) w ⟨b, o, none⟩ cs (fun j v hj => by rw [Addr.add_lit]; exact h j v hj)
  simp [Instr.loadAt, Instr.sureAddr, loadVar, hT.isAgg, hT.sizeOf, h1]
theorem run_load_one [hT : TyC P t false k] {w : World} (h : w.cell? ⟨b, o, none⟩ = some v) :
    (Instr.loadAt t (.pointer (some ⟨b, o, none⟩))).run P w = .ok v w := by
  simp [Instr.loadAt, Instr.sureAddr, loadVar, hT.isAgg, h]

/-- a struct of the persistent memory -/
theorem Ev_loadH [hT : TyC P t true k] {cs : List Value} (hx : e.eval x = some (.pointer (some ⟨b, o, none⟩))) (hc : HCells H b o cs) (hk : cs.length = k) :
    Ev P ⟨dst, .load t x, ty, pos, after, g⟩ e H R (.agg cs.toArray) := fun a w he hm _ => by
  have h1 := run_load_agg (P := P) (t := t) (w := w) hk (fun j v hj => (hm _ _ _ (hc j v hj)).1)
  simp [execOp, he.eval hx, h1]
theorem Ev_loadH1 [hT : TyC P t false k] (hx : e.eval x = some (.pointer (some ⟨b, o, none⟩))) (hc : H b o = some v) :
    Ev P ⟨dst, .load t x, ty, pos, after, g⟩ e H R v := fun a w he hm _ => by
  have h1 := run_load_one (P := P) (w := w) (t := t) ((hm _ _ _ hc).1)
  simp [execOp, he.eval hx, h1]
/-- an owned block, read whole -/
theorem Ev_loadB [hT : TyC P t true k] {i : Nat} {cs : List Value} (hx : e.eval x = some (.pointer (some ⟨b, 0, none⟩))) (hR : oget R i = some (.box b cs)) (hk : cs.length = k) :
    Ev P ⟨dst, .load t x, ty, pos, after, g⟩ e H R (.agg cs.toArray) := fun a w he _ hr => by
  obtain ⟨T, hb⟩ := hr _ (oget_mem hR)
  have h1 := run_load_agg (P := P) (t := t) (w := w) (b := b) (o := 0) hk (fun j v hj => cell_of_heap hb (by simpa using hj))
  simp [execOp, he.eval hx, h1]
/-- an owned block, a part of it -/
theorem Ev_loadBs [hT : TyC P t true k] {i : Nat} {cs cs' : List Value} (hx : e.eval x = some (.pointer (some ⟨b, o, none⟩))) (hR : oget R i = some (.box b cs)) (hs : csub cs o k = cs') (hk : Nat.beq cs'.length k = true) :
    Ev P ⟨dst, .load t x, ty, pos, after, g⟩ e H R (.agg cs'.toArray) := fun a w he _ hr => by
  obtain ⟨T, hb⟩ := hr _ (oget_mem hR)
  have h1 := run_load_agg (P := P) (t := t) (w := w) (b := b) (o := o) (cs := cs') (Nat.eq_of_beq_eq_true hk) (fun j v hj => cell_of_heap hb (by
    subst hs
    simp only [csub, List.getElem?_take] at hj
    split at hj
    · simpa using hj
    · cases hj))
  simp [execOp, he.eval hx, h1]
/-- an owned block, one cell of it -/
theorem Ev_loadB1 [hT : TyC P t false k] {i : Nat} {cs : List Value} (hx : e.eval x = some (.pointer (some ⟨b, o, none⟩))) (hR : oget R i = some (.box b cs)) (hv : tget cs o = some v) :
    Ev P ⟨dst, .load t x, ty, pos, after, g⟩ e H R v := fun a w he _ hr => by
  obtain ⟨T, hb⟩ := hr _ (oget_mem hR)
  rw [tget_eq] at hv
  have h1 := run_load_one (P := P) (w := w) (t := t) (cell_of_heap hb (i := o) (v := v) (by simpa using hv))
  simp [execOp, he.eval hx, h1]

/-- the cells of an owned row's element -/
theorem row_cell {w : World} {n c : Nat} {css : List (List Value)} (h : RowOk w (.slice (some ⟨b, 0, none⟩) n c) k css) {i : Nat} {cs : List Value} (hi : css[i]? = some cs) {j : Nat} (hj : cs[j]? = some v) :
    w.cell? ⟨b, i * k + j, none⟩ = some v := by
  rcases h with ⟨hv, _⟩ | ⟨b', cap, rest, T, hv, hk, hc, hb, _⟩
  · cases hv
  · cases hv
    refine cell_of_heap hb ?_
    have hjl : j < cs.length := (List.getElem?_eq_some_iff.1 hj).1
    have hil : i < css.length := (List.getElem?_eq_some_iff.1 hi).1
    have key : ∀ (css : List (List Value)) (i : Nat), (∀ cs ∈ css, cs.length = k) → css[i]? = some cs → (css.flatten ++ rest)[i * k + j]? = some v := by
      intro css
      induction css with
      | nil => intro i _ h; simp at h
      | cons d r ih =>
        intro i hk hi
        have hd : d.length = k := hk d (by simp)
        cases i with
        | zero =>
          simp at hi
          subst hi
          simp only [List.flatten_cons, List.append_assoc]
          rw [List.getElem?_append_left (by omega)]
          simpa using hj
        | succ i =>
          simp only [List.getElem?_cons_succ] at hi
          simp only [List.flatten_cons, List.append_assoc]
          rw [List.getElem?_append_right (by rw [hd, Nat.succ_mul]; omega)]
          rw [show (i + 1) * k + j - d.length = i * k + j by rw [hd, Nat.succ_mul]; omega]
          exact ih i (fun x hx => hk x (List.mem_cons_of_mem _ hx)) hi
    simpa using key css i hk hi
/-- an owned row: one element -/
theorem Ev_loadR [hT : TyC P t true k] {i n c q j : Nat} {cs : List Value} {css : List (List Value)} (hx : e.eval x = some (.pointer (some ⟨b, o, none⟩))) (hR : oget R q = some (.row (.slice (some ⟨b, 0, none⟩) n c) j css)) (hi : css[i]? = some cs) (ho : o = i * j) (hk : cs.length = k) :
    Ev P ⟨dst, .load t x, ty, pos, after, g⟩ e H R (.agg cs.toArray) := fun a w he _ hr => by
  have hrow := hr _ (oget_mem hR)
  subst ho
  have h1 := run_load_agg (P := P) (t := t) (w := w) (b := b) (o := i * j) hk (fun j v hj => row_cell hrow hi hj)
  simp [execOp, he.eval hx, h1]
theorem Ev_loadR1 [hT : TyC P t false k] {i n c q j d : Nat} {cs : List Value} {css : List (List Value)} (hx : e.eval x = some (.pointer (some ⟨b, o, none⟩))) (hR : oget R q = some (.row (.slice (some ⟨b, 0, none⟩) n c) j css)) (hi : css[i]? = some cs) (ho : o = i * j + d) (hv : tget cs d = some v) :
    Ev P ⟨dst, .load t x, ty, pos, after, g⟩ e H R v := fun a w he _ hr => by
  have hrow := hr _ (oget_mem hR)
  subst ho
  rw [tget_eq] at hv
  have h1 := run_load_one (P := P) (w := w) (t := t) (row_cell hrow hi hv)
  simp [execOp, he.eval hx, h1]
theorem Ev_loadRs [hT : TyC P t true k] {i n c q j d : Nat} {cs cs' : List Value} {css : List (List Value)} (hx : e.eval x = some (.pointer (some ⟨b, o, none⟩))) (hR : oget R q = some (.row (.slice (some ⟨b, 0, none⟩) n c) j css)) (hi : css[i]? = some cs) (ho : o = i * j + d) (hs : csub cs d k = cs') (hk : Nat.beq cs'.length k = true) :
    Ev P ⟨dst, .load t x, ty, pos, after, g⟩ e H R (.agg cs'.toArray) := fun a w he _ hr => by
  have hrow := hr _ (oget_mem hR)
  subst ho
  have h1 := run_load_agg (P := P) (t := t) (w := w) (b := b) (o := i * j + d) (cs := cs') (Nat.eq_of_beq_eq_true hk) (fun q v hj => by
    subst hs
    simp only [csub, List.getElem?_take] at hj
    split at hj
    · rw [Nat.add_assoc]; exact row_cell hrow hi (by simpa using hj)
    · cases hj)
  simp [execOp, he.eval hx, h1]

/-! addresses -/

theorem Ev_fieldAddr {i q s ft off : Nat} {ag : Bool} [hf : FieldC P t i ft off] [hq : TyC P ft ag s] (hx : e.eval x = some (.pointer (some ⟨b, o, none⟩))) (hs : Nat.beq s 0 = false) (ho : o + off = q) :
    Ev P ⟨dst, .fieldAddr t x i, ty, pos, after, g⟩ e H R (.pointer (some ⟨b, q, none⟩)) := fun a w he _ _ => by
  obtain ⟨fs, f, hu, hfi, rfl, rfl⟩ := hf.fld
  have hs' : s ≠ 0 := Nat.ne_of_beq_eq_false hs
  have hf' : fs[i]? = some f := by simpa using hfi
  simp only [execOp, he.eval hx, Instr.fieldAt, Sem.run_bind, run_underlying hu, Result.andThen_ok, hf', Instr.sureAddr, Sem.run_pure, fieldPlace, hq.sizeOf, hs', if_false, Addr.add_lit, ho]
theorem Ev_nilCheck {ad : Addr} (hx : e.eval x = some (.pointer (some ad))) : Ev P ⟨dst, .nilCheck x, ty, pos, after, g⟩ e H R (.pointer (some ad)) := fun a w he _ _ => by
  simp [execOp, he.eval hx]
/-- the place of a slice's element -/
theorem Ev_indexAddr {el n c s : Nat} {i : Int} {kk : IntKind} {ag : Bool} [ht : UndC P t (.slice el)] [hs : TyC P el ag s] (hx : e.eval x = some (.slice (some ⟨b, o, none⟩) n c)) (hy : e.eval y = some (.int kk i)) (h0 : 0 ≤ i) (h1 : i < n) :
    Ev P ⟨dst, .indexAddr t x y, ty, pos, after, g⟩ e H R (.pointer (some ⟨b, o + i.toNat * s, none⟩)) := fun a w he _ _ => by
  have hc : (0 : Int) ≤ i ∧ i < (n : Int) := ⟨h0, h1⟩
  simp [execOp, he.eval hx, he.eval hy, Instr.indexAt, asIntOf, ht.run, hs.sizeOf, hc, Addr.add_lit]
/-- a part of a struct's value -/
theorem Ev_field1 {i s ft off : Nat} {cs : List Value} [hf : FieldC P t i ft off] [hq : TyC P ft false s] (hx : e.eval x = some (.agg cs.toArray)) (hv : tget cs off = some v) :
    Ev P ⟨dst, .field t x i, ty, pos, after, g⟩ e H R v := fun a w he _ _ => by
  obtain ⟨fs, f, hu, hfi, rfl, rfl⟩ := hf.fld
  have hf' : fs[i]? = some f := by simpa using hfi
  rw [tget_eq] at hv
  simp [execOp, he.eval hx, Instr.field, run_underlying hu, hf', asAgg, part, hq.isAgg, hv]
theorem Ev_fieldn {i s ft off : Nat} {cs cs' : List Value} [hf : FieldC P t i ft off] [hq : TyC P ft true s] (hx : e.eval x = some (.agg cs.toArray)) (hs : csub cs off s = cs') :
    Ev P ⟨dst, .field t x i, ty, pos, after, g⟩ e H R (.agg cs'.toArray) := fun a w he _ _ => by
  obtain ⟨fs, f, hu, hfi, rfl, rfl⟩ := hf.fld
  have hf' : fs[i]? = some f := by simpa using hfi
  subst hs
  simp [execOp, he.eval hx, Instr.field, run_underlying hu, hf', asAgg, part, hq.isAgg, hq.sizeOf, csub, List.drop_take]

/-! slices -/
theorem Ev_llen {el n c : Nat} {ad : Option Addr} [ht : UndC P t (.slice el)] (hx : e.eval x = some (.slice ad n c)) : Ev P ⟨dst, .call { callee := .builtin .len, args := #[x], argTypes := #[t] }, ty, pos, after, g⟩ e H R (.int .i64 n) := fun a w he _ _ => by
  have h1 : (Builtin.len_ #[t] ty #[.slice ad n c]).run P w = .ok (goInt n) w := by simp [Builtin.len_, ht.run]
  simp [execOp, resolve, invoke, builtin, he.eval hx, h1, goInt]
theorem Ev_lcap {el n c : Nat} {ad : Option Addr} [ht : UndC P t (.slice el)] (hx : e.eval x = some (.slice ad n c)) : Ev P ⟨dst, .call { callee := .builtin .cap, args := #[x], argTypes := #[t] }, ty, pos, after, g⟩ e H R (.int .i64 c) := fun a w he _ _ => by
  have h1 : (Builtin.cap_ #[t] ty #[.slice ad n c]).run P w = .ok (goInt c) w := by simp [Builtin.cap_, ht.run]
  simp [execOp, resolve, invoke, builtin, he.eval hx, h1, goInt]
theorem run_eqnil {el n c n2 c2 : Nat} {ad : Option Addr} (ht : P.underlying t = some (.slice el)) (w : World) : (Op.equal t (.slice ad n c) (.slice none n2 c2)).run P w = .ok (ad.isNone) w := by
  have key : ∀ d, (Op.equalIn (d + 1) t (.slice ad n c) (.slice none n2 c2)).run P w = .ok (ad.isNone) w := fun d => by
    cases ad <;> simp [Op.equalIn, run_underlying ht]
  exact key 9999
theorem Ev_eqnil {el n c n2 c2 : Nat} {ad : Option Addr} [ht : UndC P t (.slice el)] (hx : e.eval x = some (.slice ad n c)) (hy : e.eval y = some (.slice none n2 c2)) : Ev P ⟨dst, .binOp .eql t x y t2, ty, pos, after, g⟩ e H R (.bool ad.isNone) := fun a w he _ _ => by
  simp [execOp, he.eval hx, he.eval hy, eqGuard_at_slice, binOp, run_eqnil ht.und]
theorem Ev_nenil {el n c n2 c2 : Nat} {ad : Option Addr} [ht : UndC P t (.slice el)] (hx : e.eval x = some (.slice ad n c)) (hy : e.eval y = some (.slice none n2 c2)) : Ev P ⟨dst, .binOp .neq t x y t2, ty, pos, after, g⟩ e H R (.bool (!ad.isNone)) := fun a w he _ _ => by
  simp [execOp, he.eval hx, he.eval hy, eqGuard_at_slice, binOp, run_eqnil ht.und]
/-- x[i:j] -/
theorem run_lslice {el n c s : Nat} {ag : Bool} {ad : Option Addr} {i j : Int} {k1 k2 : IntKind} (ht : UndC P t (.slice el)) (hs : TyC P el ag s) (h0 : 0 ≤ i) (h1 : i ≤ j) (h2 : j ≤ c) (w : World) :
    (Instr.sliceAt t (.slice ad n c) (some (.int k1 i)) (some (.int k2 j)) none).run P w = .ok (.slice (if c = i.toNat then ad else ad.map (·.add (i.toNat * s))) (j.toNat - i.toNat) (c - i.toNat)) w := by
  have hb1 : Sem.run P (Instr.sliceBound (.int k2 j) c .sliceAcap) w = .ok j.toNat w := run_sliceBound w k2 j c .sliceAcap (by omega) h2
  have hb2 : Sem.run P (Instr.sliceBound (.int k1 i) j.toNat .sliceB) w = .ok i.toNat w := run_sliceBound w k1 i j.toNat .sliceB h0 (by omega)
  simp only [Instr.sliceAt, Sem.run_bind, ht.run, Result.andThen_ok, Instr.slice, Instr.sliceBounds, Sem.run_pure, hb1, hb2, Option.isSome_none, Bool.false_eq_true, if_false, hs.sizeOf, if_true]
theorem Ev_lslice {el n c s : Nat} {ag : Bool} {ad : Option Addr} {i j : Int} {k1 k2 : IntKind} [ht : UndC P t (.slice el)] [hs : TyC P el ag s] (hx : e.eval x = some (.slice ad n c)) (hy : e.eval y = some (.int k1 i)) (hz : e.eval z = some (.int k2 j)) (h0 : 0 ≤ i) (h1 : i ≤ j) (h2 : j ≤ c) :
    Ev P ⟨dst, .slice t x (some y) (some z) none, ty, pos, after, g⟩ e H R (.slice (if c = i.toNat then ad else ad.map (·.add (i.toNat * s))) (j.toNat - i.toNat) (c - i.toNat)) := fun a w he _ _ => by
  have := run_lslice (P := P) (ad := ad) (n := n) (k1 := k1) (k2 := k2) ht hs h0 h1 h2 w
  simp only [execOp, he.eval hx, Option.map_some, he.eval hy, he.eval hz, Option.map_none, Sem.run_bind, this, Result.andThen_ok, Sem.run_pure]
theorem Ev_lslicel {el n c s : Nat} {ag : Bool} {ad : Option Addr} {i : Int} {k1 : IntKind} [ht : UndC P t (.slice el)] [hs : TyC P el ag s] (hx : e.eval x = some (.slice ad n c)) (hy : e.eval y = some (.int k1 i)) (h0 : 0 ≤ i) (h1 : i ≤ n) :
    Ev P ⟨dst, .slice t x (some y) none none, ty, pos, after, g⟩ e H R (.slice (if c = i.toNat then ad else ad.map (·.add (i.toNat * s))) (n - i.toNat) (c - i.toNat)) := fun a w he _ _ => by
  have hb2 : Sem.run P (Instr.sliceBound (.int k1 i) n .sliceB) w = .ok i.toNat w := run_sliceBound w k1 i n .sliceB h0 (by omega)
  simp only [execOp, he.eval hx, Option.map_some, he.eval hy, Option.map_none, Instr.sliceAt, Sem.run_bind, ht.run, Result.andThen_ok, Instr.slice, Instr.sliceBounds, Sem.run_pure, hb2, Option.isSome_none, Bool.false_eq_true, if_false, hs.sizeOf, if_true]
theorem Ev_lsliceh {el n c s : Nat} {ag : Bool} {ad : Option Addr} {j : Int} {k2 : IntKind} [ht : UndC P t (.slice el)] [hs : TyC P el ag s] (hx : e.eval x = some (.slice ad n c)) (hz : e.eval z = some (.int k2 j)) (h1 : 0 ≤ j) (h2 : j ≤ c) :
    Ev P ⟨dst, .slice t x none (some z) none, ty, pos, after, g⟩ e H R (.slice ad j.toNat c) := fun a w he _ _ => by
  have hb1 : Sem.run P (Instr.sliceBound (.int k2 j) c .sliceAcap) w = .ok j.toNat w := run_sliceBound w k2 j c .sliceAcap h1 h2
  simp only [execOp, he.eval hx, Option.map_some, he.eval hz, Option.map_none, Instr.sliceAt, Sem.run_bind, ht.run, Result.andThen_ok, Instr.slice, Instr.sliceBounds, Sem.run_pure, hb1, Option.isSome_none, Bool.false_eq_true, if_false, hs.sizeOf, if_true, Nat.zero_mul, Nat.sub_zero]
  have ha : ad.map (fun x => x.add 0) = ad := by cases ad <;> simp [Addr.add_zero']
  rw [ha]
  split <;> rfl

/-! function values -/
theorem Ev_makeFunc {f : Fn} {xs ys : List Operand} {vs us : List Value} (hx : xs.map e.eval = vs.map some) (hy : ys.map e.eval = us.map some) :
    Ev P ⟨dst, .makeFunc f xs.toArray ys.toArray, ty, pos, after, g⟩ e H R (.func f vs.toArray us.toArray) := fun a w he _ _ => by
  have key : ∀ (xs : List Operand) (vs : List Value), xs.map e.eval = vs.map some → xs.map a.eval = vs := by
    intro xs
    induction xs with
    | nil => intro vs h; cases vs <;> simp_all
    | cons q r ih => intro vs h; cases vs with
      | nil => simp at h
      | cons u us => simp only [List.map_cons, List.cons.injEq] at h ⊢; exact ⟨he.eval h.1, ih us h.2⟩
  simp [execOp, Instr.makeFunc, key xs vs hx, key ys us hy]
end
end Go.Proofs.Ythniohgeojenaaa
