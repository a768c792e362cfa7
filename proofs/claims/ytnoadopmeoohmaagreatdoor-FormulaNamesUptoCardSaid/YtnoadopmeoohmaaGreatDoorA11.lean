/-
  Whole objects as resources (their element type known), pointers, strings.Builder's operations.
  A range over a function: the iterator's rounds, the statement, the end of a function that holds one; results in cells.
  Owned rows, more: stores into an element, clear, a shorter slice of the same row.
  Struct literals.
-/
import Derived.Test.YtnoadopmeoohmaaGreatDoorA7
import Derived.Lib.Builder
import Derived.Lib.UnsafeStr
import Derived.Laws.Externs
import Derived.Laws.Pointers
import Derived.Laws.Append
import Derived.Laws.Small
import Derived.Laws.StructEq
import Derived.RangeFuncRecord
import Derived.Laws.Tables
namespace Go.Proofs.YtnoadopmeoohmaaGreatDoor
open Go
set_option linter.unusedVariables false
set_option linter.unusedSimpArgs false
section
/-! Whole objects as resources (their element type known), pointers, strings.Builder's operations. -/

/-- a row of variables, all of it -/
abbrev cobj (cs : List Value) (T : TypeId) : Obj := .cells cs.toArray T (0, 0)
class ExtC (P : Program) (f : FuncId) : Type where
  run : ∀ x w, (callFunc f #[x]).run P w = .ok (.value x) w
class LiesC (P : Program) (T : TypeId) (k : Nat) : Type where
  lies : liesAt P P.depth T (k / P.cellsOf T) 0 T 1 = true
class CellsC (P : Program) (T : TypeId) (k : outParam Nat) : Type where
  cells : P.cellsOf T = k

section
variable {P : Program} {e : Env} {H : Hp} {R : Own} {dst : Option Tmp} {ty : TypeId} {pos : String} {after : Array Edge} {g : Option (Nat × Bool)} {x y z : Operand} {v : Value} {t t2 : TypeId} {k b o : Nat}
theorem Ev_loadO1 [hT : TyC P t false k] {i : Nat} {cs : List Value} {T : TypeId} (hx : e.eval x = some (.pointer (some ⟨b, o, none⟩))) (hR : oget R i = some (.obj b (cobj cs T))) (hv : tget cs o = some v) :
    Ev P ⟨dst, .load t x, ty, pos, after, g⟩ e H R v := fun a w he _ hr => by
  have hb : w.heap[b]? = some (cobj cs T) := hr _ (oget_mem hR)
  rw [tget_eq] at hv
  have h1 := run_load_one (P := P) (t := t) (w := w) (b := b) (o := o) (cell_of_heap hb (by simpa using hv))
  simp [execOp, he.eval hx, h1]
/-- division of what is not negative -/
theorem Ev_quop {m n : Int} (hx : e.eval x = some (.int .i64 m)) (hy : e.eval y = some (.int .i64 n)) (h0 : 0 ≤ m ∧ m < 9223372036854775808) (hn : 0 < n) : Ev P ⟨dst, .binOp .quo t x y t2, ty, pos, after, g⟩ e H R (.int .i64 (m / n)) := by
  have e1 : m.tdiv n = m / n := Int.tdiv_eq_ediv_of_nonneg h0.1
  have h1 : 0 ≤ m / n := Int.ediv_nonneg h0.1 (by omega)
  have h2 : m / n ≤ m := Int.ediv_le_self _ h0.1
  exact Ev_quo hx hy (by omega) (by rw [e1]; exact wi64 (by omega))
theorem Ev_remp {m n : Int} (hx : e.eval x = some (.int .i64 m)) (hy : e.eval y = some (.int .i64 n)) (h0 : 0 ≤ m) (hn : 0 < n) : Ev P ⟨dst, .binOp .rem t x y t2, ty, pos, after, g⟩ e H R (.int .i64 (m % n)) := by
  have e1 : m.tmod n = m % n := Int.tmod_eq_emod_of_nonneg h0
  rw [← e1]
  exact Ev_rem hx hy (by omega)
theorem Ev_maxi {k1 : IntKind} {m1 m2 : Int} {ats : Array TypeId} (hx : e.eval x = some (.int k1 m1)) (hy : e.eval y = some (.int k1 m2)) : Ev P ⟨dst, .call { callee := .builtin .max, args := #[x, y], argTypes := ats }, ty, pos, after, g⟩ e H R (.int k1 (if m1 < m2 then m2 else m1)) := fun a w he _ _ => by
  have h1 := run_max_int2 (P := P) w ats ty k1 k1 m1 m2
  simp [execOp, resolve, invoke, builtin, he.eval hx, he.eval hy, h1]
theorem fieldsOf_of {fs : Array Field} (h : P.underlying t = some (.struct fs)) : P.fieldsOf t = fs := by unfold Program.fieldsOf; rw [h]
/-- two structs -/
theorem Ev_neS {xs ys : List Value} {p : Prop} [Decidable p] (hx : e.eval x = some (.agg xs.toArray)) (hy : e.eval y = some (.agg ys.toArray)) (hm : P.eqGuardType P.depth t = false) (hq : ∀ w, (Op.equalIn 10000 t (.agg xs.toArray) (.agg ys.toArray)).run P w = .ok (decide p) w) :
    Ev P ⟨dst, .binOp .neq t x y t2, ty, pos, after, g⟩ e H R (.bool (decide (¬ p))) := fun a w he _ _ => by
  simp only [execOp, he.eval hx, he.eval hy, Sem.run_bind, run_eqGuard_agg (P := P) w _ t x y xs.toArray ys.toArray hm, run_neq_struct (P := P) w t xs.toArray ys.toArray, hq w, Result.andThen_ok, Sem.run_pure, decide_not]
theorem Ev_eqS {xs ys : List Value} {p : Prop} [Decidable p] (hx : e.eval x = some (.agg xs.toArray)) (hy : e.eval y = some (.agg ys.toArray)) (hm : P.eqGuardType P.depth t = false) (hq : ∀ w, (Op.equalIn 10000 t (.agg xs.toArray) (.agg ys.toArray)).run P w = .ok (decide p) w) :
    Ev P ⟨dst, .binOp .eql t x y t2, ty, pos, after, g⟩ e H R (.bool (decide p)) := fun a w he _ _ => by
  simp only [execOp, he.eval hx, he.eval hy, Sem.run_bind, run_eqGuard_agg (P := P) w _ t x y xs.toArray ys.toArray hm, run_eql_struct (P := P) w t xs.toArray ys.toArray, hq w, Result.andThen_ok, Sem.run_pure]
theorem Ev_ptrnil {te : TypeId} {q : Option Addr} [ht : UndC P t (.pointer te)] (hx : e.eval x = some (.pointer q)) (hy : e.eval y = some (.pointer none)) : Ev P ⟨dst, .binOp .eql t x y t2, ty, pos, after, g⟩ e H R (.bool q.isNone) := fun a w he _ _ => by
  have hp : P.underlying t = some (.pointer (P.pointee t)) := by simp [Program.pointee, ht.und]
  have h1 := run_equal_pointer_nil (P := P) w t q hp
  simp [execOp, he.eval hx, he.eval hy, eqGuard_at_pointer, binOp, h1]
theorem Ev_ptrsame {te bytes : Nat} {q : Addr} [ht : UndC P t (.pointer te)] [hI : InfoC P te bytes] (hx : e.eval x = some (.pointer (some q))) (hy : e.eval y = some (.pointer (some q))) : Ev P ⟨dst, .binOp .neq t x y t2, ty, pos, after, g⟩ e H R (.bool false) := fun a w he _ _ => by
  obtain ⟨i, hi, _⟩ := hI.info
  have h1 := Lib.run_neq_ptr_same (P := P) w q ht.und (typeInfo_of_run hi)
  simp [execOp, he.eval hx, he.eval hy, eqGuard_at_pointer, h1]
theorem shape_of {w : World} {cs : List Value} {T : TypeId} (hb : w.heap[b]? = some (cobj cs T)) : w.shape? b = some (T, cs.length) := by simp [World.shape?, hb]
/-- *T to unsafe.Pointer and back, at a variable of its own -/
theorem Ev_toUnsafe {te bytes s : Nat} {ag : Bool} {zc : List Value} {i : Nat} {cs : List Value} {T : TypeId} [hs : UndC P t (.pointer te)] [hd : UndC P t2 .unsafePointer] [hI : InfoC P te bytes] [hT : TyC P te ag s] [hz : ZeroL P te zc]
    (hx : e.eval x = some (.pointer (some ⟨b, 0, none⟩))) (hR : oget R i = some (.obj b (cobj cs T))) (hs0 : Nat.blt 0 s = true) (hc0 : Nat.blt 0 cs.length = true) :
    Ev P ⟨dst, .convert t t2 x, ty, pos, after, g⟩ e H R (.pointer (some ⟨b, 0, none⟩)) := fun a w he _ hr => by
  have hb : w.heap[b]? = some (cobj cs T) := hr _ (oget_mem hR)
  obtain ⟨j, z, hj, hjs, _⟩ := info_of (P := P) (t := te) (hT := hT) (hI := hI) (hz := hz)
  have h0 : 0 < s := Nat.le_of_ble_eq_true hs0
  have h1 := Lib.run_to_unsafe (P := P) w ⟨b, 0, none⟩ hs.und hd.und hj (by omega) (shape_of hb) (Nat.le_of_ble_eq_true hc0)
  simp only [execOp, he.eval hx, Sem.run_bind, h1, Result.andThen_ok, Sem.run_pure]
theorem Ev_fromUnsafe {te bytes s : Nat} {ag : Bool} {zc : List Value} {i : Nat} {cs : List Value} [hs : UndC P t .unsafePointer] [hd : UndC P t2 (.pointer te)] [hI : InfoC P te bytes] [hT : TyC P te ag s] [hz : ZeroL P te zc] [hl : LiesC P te s]
    (hx : e.eval x = some (.pointer (some ⟨b, 0, none⟩))) (hR : oget R i = some (.obj b (cobj cs te))) (hcs : Nat.beq cs.length s = true) :
    Ev P ⟨dst, .convert t t2 x, ty, pos, after, g⟩ e H R (.pointer (some ⟨b, 0, none⟩)) := fun a w he _ hr => by
  have hb : w.heap[b]? = some (cobj cs te) := hr _ (oget_mem hR)
  obtain ⟨j, z, hj, hjs, _⟩ := info_of (P := P) (t := te) (hT := hT) (hI := hI) (hz := hz)
  have hsh := shape_of hb
  rw [Nat.eq_of_beq_eq_true hcs] at hsh
  have h1 := Lib.run_from_unsafe (P := P) w ⟨b, 0, none⟩ hs.und hd.und hj hsh hl.lies
  simp only [execOp, he.eval hx, Sem.run_bind, h1, Result.andThen_ok, Sem.run_pure]
/-- a call of a library entry that hands its argument back -/
theorem Ev_ext {f : FuncId} {at_ : Array TypeId} [hf : ExtC P f] (hx : e.eval x = some v) : Ev P ⟨dst, .call { callee := .value (.func f), args := #[x], argTypes := at_ }, ty, pos, after, g⟩ e H R v := fun a w he _ _ => by
  have h1 := hf.run v w
  have hm : (#[x] : Array Operand).map a.eval = #[v] := by simp [he.eval hx]
  simp only [execOp, resolve, hm, Act.eval, Deferred.ofValue, Sem.run_bind, Sem.run_pure, Result.andThen_ok, invoke, List.append_toArray, List.nil_append, List.append_nil, Array.empty_append, h1]
theorem Ev_sliceData {c n : Nat} {ad : Addr} {ats : Array TypeId} (hx : e.eval x = some (.slice (some ad) n c)) (hc : 0 < c) : Ev P ⟨dst, .call { callee := .builtin .unsafeSliceData, args := #[x], argTypes := ats }, ty, pos, after, g⟩ e H R (.pointer (some ad)) := fun a w he _ _ => by
  have h1 := Lib.run_unsafeSliceData_row (P := P) w ats ty ad n c (by omega)
  simp [execOp, resolve, invoke, builtin, he.eval hx, h1]
theorem Ev_sliceDataNil {c n : Nat} {ats : Array TypeId} (hx : e.eval x = some (.slice none n c)) : Ev P ⟨dst, .call { callee := .builtin .unsafeSliceData, args := #[x], argTypes := ats }, ty, pos, after, g⟩ e H R (.pointer none) := fun a w he _ _ => by
  have h1 := Lib.run_unsafeSliceData_nil (P := P) w ats ty n c
  simp [execOp, resolve, invoke, builtin, he.eval hx, h1]
end

section
variable {F : Fence} {P : Program} {c : Ctx} {o : Oper} {K : SP} {n : Nat} {e : Env} {H : Hp} {M M' L : Own} {D : List Deferred} {dst : Option Tmp} {d : Nat} {ty : TypeId} {pos : String} {after : Array Edge} {g : Option (Nat × Bool)} {x y z : Operand} {v : Value} {t t2 : TypeId} {k b off : Nat}
theorem Holds.allocO {c : Ctx} {H : Hp} {R : Own} {w : World} (h : Holds c H R w) (o : Obj) : Holds c H (.obj w.heap.size o :: R) (w.alloc o) := by
  refine Holds.frameH (I := []) (I' := [.obj w.heap.size o]) (R := R) h (Moves.alloc w _ _) (Own.ok_one (heap_alloc_new w o)) (Own.sep_one _) (fun b hb => ?_)
  simp [Own.blocks, Res.blocks] at hb
  exact .inl (by omega)
/-- var x T, its type known -/
theorem Ef_allocO (hF : WideF F) {zc : List Value} [hz : ZeroL P t zc] (hn : Nat.blt d n = true) (k : ∀ b, K ⟨n, (d, .pointer (some ⟨b, 0, none⟩)) :: e, H, .obj b (cobj zc t) :: M, L, D⟩) :
    Ef F P c ⟨some d, .alloc t, ty, pos, after, g⟩ ⟨n, e, H, M, L, D⟩ K := Ef_of_run hF fun a w hs => by
  obtain ⟨zv, hrun, hc⟩ := hz.zero
  refine ⟨_, w.alloc (cobj zc t), ?_, _, ok_put hs hn (hs.holds.allocO _), k _⟩
  subst hc
  simp [execOp, Instr.alloc, hrun, newVar, newRow, cobj]
theorem Holds.setObj {R : Own} {w : World} {cs cs' : List Value} {T : TypeId} (h : Holds c H (.obj b (cobj cs T) :: R) w) : Holds c H (.obj b (cobj cs' T) :: R) (w.setRow b cs'.toArray) := by
  have hb : w.heap[b]? = some (cobj cs T) := h.own (.obj b (cobj cs T)) (by simp)
  refine Holds.frameH (I := [.obj b (cobj cs T)]) (I' := [.obj b (cobj cs' T)]) (R := R) h ?_ (Own.ok_one (setRow_heap w b _ _ T _ hb)) (Own.sep_one _) (fun b' hb' => .inr (by simpa [Own.blocks, Res.blocks] using hb'))
  exact (Moves.setRow w b _).mono (by simp [Own.blocks, Res.blocks])
theorem Ef_storeO1 (hF : WideF F) {ag : Bool} {cs cs' : List Value} {T : TypeId} [hT : TyC P t ag 1] (hx : e.eval x = some (.pointer (some ⟨b, off, none⟩))) (hy : e.eval y = some v) (hv : v.oneCell' = true) (hl : Nat.blt off cs.length = true) (hc : tset cs off v = cs')
    (k : K ⟨n, e, H, .obj b (cobj cs' T) :: M, L, D⟩) : Ef F P c ⟨none, .store t x y, ty, pos, after, g⟩ ⟨n, e, H, .obj b (cobj cs T) :: M, L, D⟩ K := Ef_of_skip hF (by simp) fun a w hs => by
  have hb : w.heap[b]? = some (cobj cs T) := hs.holds.own (.obj b (cobj cs T)) (by simp)
  have hlt : off < cs.length := Nat.le_of_ble_eq_true hl
  have hvc : v.cells.toList = [v] := by cases v <;> first | rfl | (simp [Value.oneCell'] at hv)
  haveI : TyC P t ag [v].length := hT
  have hr := run_store_box (P := P) (t := t) (off := off) hb (show off + 1 ≤ cs.length from hlt) (by simpa using hv) hvc
  have he : cput cs off [v] = cs' := by
    rw [← hc, tset_eq]
    simp only [cput, List.length_singleton]
    rw [List.set_eq_take_append_cons_drop]
    simp [hlt]
  rw [he] at hr
  refine ⟨_, ?_, _, ok_keep hs (hs.holds.setObj (cs' := cs')), k⟩
  simp [execOp, hs.env.eval hx, hs.env.eval hy, hr]

/-! ### a buffer of bytes -/
abbrev bcells (l : List UInt8) : List Value := Lib.byteCells l
/-- the value v is a slice of the bytes l; R is what it owns -/
def BufIs (T : TypeId) (v : Value) (R : Own) (l : List UInt8) : Prop :=
  (v = .slice none 0 0 ∧ R = [] ∧ l = []) ∨ ∃ b cap rest, v = .slice (some ⟨b, 0, none⟩) l.length cap ∧ R = [.obj b (cobj (bcells l ++ rest) T)] ∧ l.length ≤ cap ∧ 0 < cap ∧ (bcells l ++ rest).length = cap

theorem strCells_sv (s : List UInt8) : Lib.strCells ⟨s.toArray⟩ = bcells s := by simp [Lib.strCells, Lib.byteCells]
theorem bcells_one (s : List UInt8) : ∀ u ∈ bcells s, u.oneCell' = true := by
  intro u hu
  simp only [Lib.byteCells, List.mem_map] at hu
  obtain ⟨b, _, rfl⟩ := hu
  rfl

/-- append(buf, s...): the buffer stands first -/
theorem Ef_appendS (hF : WideF F) {el bytes : Nat} {R : Own} {l s : List UInt8} {zc : List Value} [ht : UndC P t (.slice el)] [hu : UndC P t2 .string] [hT : TyC P el false 1] [hI : InfoC P el bytes] [hz : ZeroL P el zc]
    (hx : e.eval x = some v) (hy : e.eval y = some (sv s)) (hB : BufIs el v R l) (hb1 : Nat.beq bytes 1 = true) (hz1 : Nat.beq zc.length 1 = true) (hlen : l.length + s.length ≤ 70368744177664) (hn : Nat.blt d n = true)
    (kk : ∀ v' R', BufIs el v' R' (l ++ s) → K ⟨n, (d, v') :: e, H, R' ++ M, L, D⟩) :
    Ef F P c ⟨some d, .call { callee := .builtin .append, args := #[x, y], argTypes := #[t, t2] }, ty, pos, after, g⟩ ⟨n, e, H, R ++ M, L, D⟩ K := Ef_of_run hF fun a w hs => by
  obtain ⟨i, zv, hi, hsz, hby, hzz, hzc⟩ := info_of (P := P) (t := el) (hT := hT) (hI := hI) (hz := hz)
  have hb1' := Nat.eq_of_beq_eq_true hb1
  have hzl : zv.cells.size = 1 := by rw [← Nat.eq_of_beq_eq_true hz1, ← hzc]; simp
  subst hby
  have hss : (ByteArray.mk s.toArray).size = s.length := bs_size s
  have hexec : ∀ {u : Value} {w' : World}, (Builtin.append_ #[t, t2] ty #[v, sv s]).run P w = .ok u w' → (execOp a.eval ⟨some d, .call { callee := .builtin .append, args := #[x, y], argTypes := #[t, t2] }, ty, pos, after, g⟩).run P w = .ok (.value u) w' := fun h => by
    simp [execOp, resolve, invoke, builtin, hs.env.eval hx, hs.env.eval hy, Sem.run_bind, h]
  have hzero : ∀ q, (Builtin.zeroCells zv.cells q).toList.length = q := fun q => by rw [Array.length_toList, size_zeroCells, hzl, Nat.mul_one]
  have hbl : ∀ l : List UInt8, (bcells l).length = l.length := fun l => Lib.byteCells_length l
  rcases hB with ⟨rfl, rfl, rfl⟩ | ⟨b, cap, rest, rfl, rfl, hc, hc0, hl⟩
  · by_cases hs0 : s.length = 0
    · have : s = [] := List.eq_nil_of_length_eq_zero hs0
      subst this
      refine ⟨.slice none 0 0, w, hexec ?_, _, ok_put hs hn (M'' := [] ++ M) hs.holds, kk _ _ (.inl ⟨rfl, rfl, rfl⟩)⟩
      have h0 : (ByteArray.mk #[]).size = 0 := rfl
      have hf := Lib.run_firstCells_string (P := P) w 1 ⟨#[]⟩
      rw [h0] at hf
      simp [Builtin.append_, ht.run, hu.run, sizeOf, typeInfo, hi, hsz, Builtin.lenOf, h0, hf]
    · have hr := run_append_nil_string (P := P) w t t2 ty el i zv ht.und hu.und hi hzz ⟨s.toArray⟩ (by omega) (by rw [hss]; omega) (by rw [hss, hb1']; omega)
      rw [hss] at hr
      have hge := grownCap_ge w s.length 0 el
      have ea : (ByteArray.mk s.toArray).data.map (fun b => Value.int .u8 b.toNat) ++ Builtin.zeroCells zv.cells (grownCap w s.length 0 el - s.length) = (bcells s ++ (Builtin.zeroCells zv.cells (grownCap w s.length 0 el - s.length)).toList).toArray := by apply Array.ext'; simp [Lib.byteCells]
      rw [ea] at hr
      have hh := (hs.holds.drew).allocO (cobj (bcells s ++ (Builtin.zeroCells zv.cells (grownCap w s.length 0 el - s.length)).toList) el)
      refine ⟨_, _, hexec hr, _, ok_put hs hn (M'' := [.obj w.heap.size (cobj (bcells s ++ (Builtin.zeroCells zv.cells (grownCap w s.length 0 el - s.length)).toList) el)] ++ M) (by simpa using hh), kk _ _ (.inr ⟨w.heap.size, grownCap w s.length 0 el, _, by simp, rfl, by simpa using hge, by omega, ?_⟩)⟩
      simp only [List.nil_append, List.length_append, hzero, hbl]
      omega
  · have hb : w.heap[b]? = some (cobj (bcells l ++ rest) el) := hs.holds.own (.obj b _) (by simp)
    by_cases hroom : l.length + s.length ≤ cap
    · have hr := Lib.run_append_room_string (P := P) w t t2 ty el i ht.und hu.und hi hsz b l.length cap (bcells l ++ rest).toArray hb ⟨s.toArray⟩ (by rw [hss]; exact hroom) (by rw [hss]; simp only [List.size_toArray, hl]; exact hroom)
      rw [hss, strCells_sv] at hr
      have e1 : (bcells l ++ rest).toArray.toList.take l.length ++ bcells s ++ (bcells l ++ rest).toArray.toList.drop (l.length + s.length) = bcells (l ++ s) ++ rest.drop s.length := by
        have e0 : (bcells l ++ rest).take l.length = bcells l := by rw [← hbl l, List.take_left]
        have e2 : (bcells l ++ rest).drop (l.length + s.length) = rest.drop s.length := by rw [← List.drop_drop, ← hbl l, List.drop_left]
        simp only [e0, e2, Lib.byteCells_append]
      rw [e1] at hr
      have hh := Holds.setObj (R := M ++ L) (cs' := bcells (l ++ s) ++ rest.drop s.length) (by simpa using hs.holds)
      refine ⟨_, _, hexec hr, _, ok_put hs hn (M'' := [.obj b (cobj (bcells (l ++ s) ++ rest.drop s.length) el)] ++ M) (by simpa using hh), kk _ _ (.inr ⟨b, cap, _, by simp, rfl, by simpa using hroom, hc0, ?_⟩)⟩
      simp only [List.length_append, List.length_drop, hbl] at hl ⊢
      omega
    · have hr := Lib.run_append_grow_string (P := P) w t t2 ty el i zv ht.und hu.und hi hzz ⟨b, 0, none⟩ l.length cap (bcells l) (by rw [hsz, hbl, Nat.mul_one]) (fun j u hj => by
          rw [Addr.add_lit]
          refine cell_of_heap hb ?_
          simp only [Nat.zero_add, List.getElem?_toArray]
          rw [List.getElem?_append_left (List.getElem?_eq_some_iff.1 hj).1]
          exact hj) ⟨s.toArray⟩ (by rw [hss]; omega) (by rw [hss]; omega) (growslice_fits (by rw [hss]; omega) (by rw [hss, hb1']; omega))
      rw [hss, strCells_sv] at hr
      have hge := grownCap_ge w (l.length + s.length) cap el
      have ea : (bcells l).toArray ++ (bcells s).toArray ++ Builtin.zeroCells zv.cells (grownCap w (l.length + s.length) cap el - (l.length + s.length)) = (bcells (l ++ s) ++ (Builtin.zeroCells zv.cells (grownCap w (l.length + s.length) cap el - (l.length + s.length))).toList).toArray := by apply Array.ext'; simp [Lib.byteCells]
      rw [ea] at hr
      have hh0 : Holds c H (M ++ L) w := hs.holds.sublist (by simp)
      have hh := (hh0.drew).allocO (cobj (bcells (l ++ s) ++ (Builtin.zeroCells zv.cells (grownCap w (l.length + s.length) cap el - (l.length + s.length))).toList) el)
      refine ⟨_, _, hexec hr, _, ok_put hs hn (M'' := [.obj w.heap.size (cobj (bcells (l ++ s) ++ (Builtin.zeroCells zv.cells (grownCap w (l.length + s.length) cap el - (l.length + s.length))).toList) el)] ++ M) (by simpa using hh), kk _ _ (.inr ⟨w.heap.size, grownCap w (l.length + s.length) cap el, _, by simp, rfl, by simpa using hge, by omega, ?_⟩)⟩
      simp only [List.length_append, hzero, hbl]
      omega

theorem Ef_perm {s : Sta} {M1 M2 : Own} (h : M1.Perm M2) (k : Ef F P c o ⟨n, e, H, M2, L, D⟩ K) : Ef F P c o ⟨n, e, H, M1, L, D⟩ K := fun a w hs =>
  k a w ⟨hs.defers, hs.size, hs.env, own_perm (h.append_right L) hs.holds⟩
theorem Ef_f1 {r0 r1 : Res} (k : Ef F P c o ⟨n, e, H, r1 :: r0 :: M, L, D⟩ K) : Ef F P c o ⟨n, e, H, r0 :: r1 :: M, L, D⟩ K := fun a w hs => k a w ⟨hs.defers, hs.size, hs.env, own_perm ((perm_mid [r0] r1 M).append_right L) hs.holds⟩
theorem Ef_f2 {r0 r1 r2 : Res} (k : Ef F P c o ⟨n, e, H, r2 :: r0 :: r1 :: M, L, D⟩ K) : Ef F P c o ⟨n, e, H, r0 :: r1 :: r2 :: M, L, D⟩ K := fun a w hs => k a w ⟨hs.defers, hs.size, hs.env, own_perm ((perm_mid [r0, r1] r2 M).append_right L) hs.holds⟩
theorem Ef_f3 {r0 r1 r2 r3 : Res} (k : Ef F P c o ⟨n, e, H, r3 :: r0 :: r1 :: r2 :: M, L, D⟩ K) : Ef F P c o ⟨n, e, H, r0 :: r1 :: r2 :: r3 :: M, L, D⟩ K := fun a w hs => k a w ⟨hs.defers, hs.size, hs.env, own_perm ((perm_mid [r0, r1, r2] r3 M).append_right L) hs.holds⟩
theorem Ef_mapK {K' : SP} {s : Sta} (h : Ef F P c o s K') (hk : ∀ s a w, s.ok c a w → K' s → ∃ s', s'.ok c a w ∧ K s') : Ef F P c o s K := fun a w hs =>
  Oper.wpIn_both (fun a w ⟨s', hs', k⟩ => hk s' a w hs' k) (fun _ _ _ q => q) (h a w hs)
/-- .. the buffer stands behind another block -/
theorem Ef_appendS1 (hF : WideF F) {el bytes : Nat} {r0 : Res} {R : Own} {l s : List UInt8} {zc : List Value} [ht : UndC P t (.slice el)] [hu : UndC P t2 .string] [hT : TyC P el false 1] [hI : InfoC P el bytes] [hz : ZeroL P el zc]
    (hx : e.eval x = some v) (hy : e.eval y = some (sv s)) (hB : BufIs el v R l) (hb1 : Nat.beq bytes 1 = true) (hz1 : Nat.beq zc.length 1 = true) (hlen : l.length + s.length ≤ 70368744177664) (hn : Nat.blt d n = true)
    (kk : ∀ v' R', BufIs el v' R' (l ++ s) → K ⟨n, (d, v') :: e, H, r0 :: R', L, D⟩) :
    Ef F P c ⟨some d, .call { callee := .builtin .append, args := #[x, y], argTypes := #[t, t2] }, ty, pos, after, g⟩ ⟨n, e, H, r0 :: R, L, D⟩ K := by
  refine Ef_perm (s := ⟨n, e, H, r0 :: R, L, D⟩) (M2 := R ++ [r0]) (List.perm_append_comm (l₁ := [r0]) (l₂ := R)) ?_
  refine Ef_mapK (K' := fun s' => ∃ v' R', BufIs el v' R' (l ++ s) ∧ s' = ⟨n, (d, v') :: e, H, R' ++ [r0], L, D⟩) (Ef_appendS hF hx hy hB hb1 hz1 hlen hn fun v' R' hB' => ⟨v', R', hB', rfl⟩) ?_
  rintro s a w hs ⟨v', R', hB', rfl⟩
  exact ⟨⟨n, (d, v') :: e, H, r0 :: R', L, D⟩, ⟨hs.defers, hs.size, hs.env, own_perm ((List.perm_append_comm (l₁ := R') (l₂ := [r0])).append_right L) hs.holds⟩, kk v' R' hB'⟩

/-- unsafe.String(ptr, len) of a buffer: its bytes; the buffer is given up -/
theorem Moves.freeze (w : World) (a : Addr) (m : Nat) : Moves w (w.freeze a m) [a.block] := by
  unfold World.freeze
  split
  · exact Moves.refl _ _
  · exact ⟨rfl, rfl, rfl, by simp, fun k hk hn => by
      simp only [Array.getElem?_modify]
      rw [if_neg (fun h => hn (by simp [h]))]⟩
theorem Ef_ev (hF : WideF F) (h : Ev P o e H (M ++ L) v) (hd : o.dst = some d) (hn : Nat.blt d n = true) (kk : K ⟨n, (d, v) :: e, H, M, L, D⟩) : Ef F P c o ⟨n, e, H, M, L, D⟩ K := Ef_of_run hF fun a w hs =>
  ⟨v, w, h a w hs.env hs.holds.mem hs.holds.own, ⟨n, (d, v) :: e, H, M, L, D⟩, by rw [hd]; exact ok_put hs hn hs.holds, kk⟩
theorem Ev_strNil {R : Own} {pt t3 : TypeId} {q : Option Addr} (hx : e.eval x = some (.pointer q)) (hy : e.eval y = some (.int .i64 0)) : Ev P ⟨dst, .call { callee := .builtin .unsafeString, args := #[x, y], argTypes := #[pt, t3] }, ty, pos, after, g⟩ e H R (sv []) := fun a w he _ _ => by
  have h1 := Lib.run_unsafeString_none (P := P) w pt t3 ty q
  simp [execOp, resolve, invoke, builtin, he.eval hx, he.eval hy, h1]
  rfl
theorem Ef_bufString (hF : WideF F) {el pt : Nat} {l : List UInt8} {rest : List Value} {t3 : TypeId} [hp : UndC P pt (.pointer el)] [hcl : CellsC P el 1]
    (hx : e.eval x = some (.pointer (some ⟨b, 0, none⟩))) (hy : e.eval y = some (.int .i64 l.length)) (hlen : l.length ≤ 9223372036854775807) (hn : Nat.blt d n = true)
    (kk : K ⟨n, (d, sv l) :: e, H, M, L, D⟩) :
    Ef F P c ⟨some d, .call { callee := .builtin .unsafeString, args := #[x, y], argTypes := #[pt, t3] }, ty, pos, after, g⟩ ⟨n, e, H, .obj b (cobj (bcells l ++ rest) el) :: M, L, D⟩ K := Ef_of_run hF fun a w hs => by
  have hb : w.heap[b]? = some (cobj (bcells l ++ rest) el) := hs.holds.own (.obj b _) (by simp)
  have hexec : ∀ {u : Value} {w' : World}, (Builtin.unsafeString_ #[pt, t3] ty #[.pointer (some ⟨b, 0, none⟩), .int .i64 l.length]).run P w = .ok u w' → (execOp a.eval ⟨some d, .call { callee := .builtin .unsafeString, args := #[x, y], argTypes := #[pt, t3] }, ty, pos, after, g⟩).run P w = .ok (.value u) w' := fun h => by
    simp [execOp, resolve, invoke, builtin, hs.env.eval hx, hs.env.eval hy, Sem.run_bind, h]
  by_cases h0 : l = []
  · subst h0
    exact ⟨_, w, hexec (Lib.run_unsafeString_none (P := P) w pt t3 ty _), _, ok_put hs hn (hs.holds.sublist (by simp)), kk⟩
  · have hr := Lib.run_unsafeString_row (P := P) w pt t3 ty el hp.und hcl.cells b (bcells l ++ rest).length (shape_of hb) l h0 (by simp [Lib.byteCells]) hlen (fun j u hj => by
      rw [Addr.add_lit]
      refine cell_of_heap hb ?_
      have hjl := (List.getElem?_eq_some_iff.1 hj).1
      simp only [Nat.zero_add, List.getElem?_toArray]
      rw [List.getElem?_append_left (by simpa [Lib.byteCells] using hjl)]
      simp [Lib.byteCells, hj])
    refine ⟨_, _, hexec hr, _, ok_put hs hn (M'' := M) ?_, kk⟩
    have hf : Holds c H ([] ++ (M ++ L)) (w.freeze ⟨b, 0, none⟩ l.length) := Holds.frameH (I := [.obj b (cobj (bcells l ++ rest) el)]) (I' := []) (R := M ++ L) (by simpa using hs.holds)
      ((Moves.freeze w ⟨b, 0, none⟩ l.length).mono (by simp [Own.blocks, Res.blocks])) (Own.ok_nil _) Own.sep_nil (fun b' hb' => by cases hb')
    simpa using hf
/-- a call whose owned blocks stand behind another one -/
theorem Ef_call1 (hF : WideF F) {f : FuncId} {args : List Value} {I : Own} {r0 : Res} {post : Value → Hp → Own → Prop} {at_ : Array TypeId} [hf : FunC P f] {xs : Array Operand} (h : Fn P f args H I post) (hx : EvalAll e xs.toList args) (hn : Nat.blt d n = true)
    (k : ∀ v H' I', HLe H H' → post v H' I' → K ⟨n, (d, v) :: e, H', r0 :: I', L, D⟩) :
    Ef F P c ⟨some d, .call { callee := .value (.func f), args := xs, argTypes := at_ }, ty, pos, after, g⟩ ⟨n, e, H, r0 :: I, L, D⟩ K := by
  refine Ef_perm (s := ⟨n, e, H, r0 :: I, L, D⟩) (M2 := I ++ [r0]) (List.perm_append_comm (l₁ := [r0]) (l₂ := I)) ?_
  refine Ef_mapK (K' := fun s' => ∃ v H' I', HLe H H' ∧ post v H' I' ∧ s' = ⟨n, (d, v) :: e, H', I' ++ [r0], L, D⟩) (Ef_call (M' := [r0]) hF h hx hn fun v H' I' hle hp => ⟨v, H', I', hle, hp, rfl⟩) ?_
  rintro s a w hs ⟨v, H', I', hle, hp, rfl⟩
  exact ⟨⟨n, (d, v) :: e, H', r0 :: I', L, D⟩, ⟨hs.defers, hs.size, hs.env, own_perm ((List.perm_append_comm (l₁ := I') (l₂ := [r0])).append_right L) hs.holds⟩, k v H' I' hle hp⟩
/-- .. are all that is owned -/
theorem Ef_call0 (hF : WideF F) {f : FuncId} {args : List Value} {I : Own} {post : Value → Hp → Own → Prop} {at_ : Array TypeId} [hf : FunC P f] {xs : Array Operand} (h : Fn P f args H I post) (hx : EvalAll e xs.toList args) (hn : Nat.blt d n = true)
    (k : ∀ v H' I', HLe H H' → post v H' I' → K ⟨n, (d, v) :: e, H', I', L, D⟩) :
    Ef F P c ⟨some d, .call { callee := .value (.func f), args := xs, argTypes := at_ }, ty, pos, after, g⟩ ⟨n, e, H, I, L, D⟩ K := by
  have h1 := Ef_call (c := c) (K := K) (L := L) (D := D) (ty := ty) (pos := pos) (after := after) (g := g) (at_ := at_) (M' := []) hF h hx hn fun v H' I' hle hp => by simpa using k v H' I' hle hp
  simpa using h1
theorem Own.sub_tail (r : Res) (R : Own) : Own.sub (R ++ []) (r :: R ++ []) := by
  refine ⟨(List.range R.length).map (· + 1), ?_, ?_, ?_⟩
  · exact List.Pairwise.map _ (fun a b h => by omega) (List.nodup_range (n := R.length))
  · intro i hi
    obtain ⟨j, hj, rfl⟩ := List.mem_map.1 hi
    have := List.mem_range.1 hj
    simp; omega
  · rw [List.map_map]
    apply List.ext_getElem?
    intro i
    by_cases hi : i < R.length
    · simp [hi]
    · simp [hi, List.getElem?_eq_none (Nat.le_of_not_lt hi)]
/-- a call of a function value without captured variables -/
theorem Ef_callv (hF : WideF F) {f : FuncId} {args : List Value} {I : Own} {post : Value → Hp → Own → Prop} {at_ : Array TypeId} [hf : FunC P f] {xs : Array Operand} (h : Fn P f args H I post) (hz : e.eval z = some (.func (.func f) #[] #[])) (hx : EvalAll e xs.toList args) (hn : Nat.blt d n = true)
    (k : ∀ v H' I', HLe H H' → post v H' I' → K ⟨n, (d, v) :: e, H', I' ++ M', L, D⟩) :
    Ef F P c ⟨some d, .call { callee := .value z, args := xs, argTypes := at_ }, ty, pos, after, g⟩ ⟨n, e, H, I ++ M', L, D⟩ K := by
  intro a w hs
  have hm := EvalAll.map hs.env hx
  have hm' : xs.map a.eval = args.toArray := by
    apply Array.ext'
    simpa using hm
  have hz' := hs.env.eval hz
  have hr : (execOp a.eval ⟨some d, .call { callee := .value z, args := xs, argTypes := at_ }, ty, pos, after, g⟩).run P w = .ok (.enter f args.toArray) w := by
    simp only [execOp, resolve, hm', hz', Deferred.ofValue, Sem.run_bind, Sem.run_pure, Result.andThen_ok, invoke, List.append_toArray, List.nil_append]
    rw [List.append_nil, hf.run]
  refine ⟨fun f _ => hF.fn f, ?_⟩
  rw [Oper.semAt_eq _ _ _ (by simp), hr]
  refine ⟨(fun hd => (by rw [hF.depth] at hd; cases hd)), callsIn_of_calls hF ?_⟩
  have hh0 : Holds c H (I ++ (M' ++ L)) w := by have := hs.holds; simpa [List.append_assoc] using this
  refine (Calls_of_Fn h hh0).mono ?_
  rintro e' w' ⟨v, H', I', he, hle, hh, hq⟩
  subst he
  exact ⟨_, ok_put hs hn (M'' := I' ++ M') (by simpa [List.append_assoc] using hh), k v H' I' hle hq⟩
theorem Ef_callvp (hF : WideF F) {f : FuncId} {args : List Value} {u : Value} {at_ : Array TypeId} [hf : FunC P f] {xs : Array Operand} (h : FnP P f args H u) (hz : e.eval z = some (.func (.func f) #[] #[])) (hx : EvalAll e xs.toList args) (hn : Nat.blt d n = true)
    (k : K ⟨n, (d, u) :: e, H, M, L, D⟩) :
    Ef F P c ⟨some d, .call { callee := .value z, args := xs, argTypes := at_ }, ty, pos, after, g⟩ ⟨n, e, H, M, L, D⟩ K :=
  Ef_callv (I := []) (M' := M) hF h hz hx hn fun v' H' I' _ ⟨h1, h2, h3⟩ => by subst h1 h2 h3; exact k
end
end
section
/-! A range over a function: the iterator's rounds, the statement, the end of a function that holds one; results in cells. -/

/-! ### objects that are no cells -/
theorem Moves.putObj (w : World) (l : Nat) (o : Obj) : Moves w (w.putObj l o) [l] :=
  ⟨rfl, rfl, rfl, by simp, fun k _ hn => World.putObj_heap_other (by simpa using hn)⟩
theorem Holds.putObj {c : Ctx} {H : Hp} {R : Own} {w : World} {l : Nat} {o : Obj} (o' : Obj) (h : Holds c H (.obj l o :: R) w) : Holds c H (.obj l o' :: R) (w.putObj l o') := by
  have hb : w.heap[l]? = some o := h.own (.obj l o) (by simp)
  have hlt := (Array.getElem?_eq_some_iff.1 hb).1
  refine Holds.frameH (I := [.obj l o]) (I' := [.obj l o']) (R := R) h ?_ (Own.ok_one (World.putObj_heap_same hlt)) (Own.sep_one _) (fun b' hb' => .inr (by simpa [Own.blocks, Res.blocks] using hb'))
  exact (Moves.putObj w l o').mono (by simp [Own.blocks, Res.blocks])

/-! ### a round -/
def rdone (r : Loop) (j : Code) : Loop := { r with state := .done, pending := some j }
def rbusy (r : Loop) : Loop := { r with state := .busy }
def Fresh (r : Loop) : Prop := r.state = .ready ∧ r.pending = none
def tput (ps : Array Tmp) (args : Array Value) (tmps : Array Value) : Array Value := (ps.zip args).foldl (fun tmps (t, a) => tmps.setIfInBounds t a) tmps
def epush : List Tmp → List Value → Env → Env
  | p :: ps, v :: vs, e => epush ps vs ((p, v) :: e)
  | _, _, e => e
theorem tput_list (ps : List Tmp) (vs : List Value) (tmps : Array Value) : tput ps.toArray vs.toArray tmps = (ps.zip vs).foldl (fun tmps x => tmps.setIfInBounds x.1 x.2) tmps := by
  unfold tput
  rw [← Array.foldl_toList]
  simp
theorem tput_ok : ∀ (ps : List Tmp) (vs : List Value) (e : Env) (tmps : Array Value), EnvOk e ⟨tmps, []⟩ → (∀ p ∈ ps, p < tmps.size) →
    EnvOk (epush ps vs e) ⟨tput ps.toArray vs.toArray tmps, []⟩ ∧ (tput ps.toArray vs.toArray tmps).size = tmps.size
  | [], _, e, tmps, he, _ => by rw [tput_list]; exact ⟨he, rfl⟩
  | p :: ps, [], e, tmps, he, _ => by rw [tput_list]; exact ⟨he, rfl⟩
  | p :: ps, v :: vs, e, tmps, he, hp => by
    have h1 : tput (p :: ps).toArray (v :: vs).toArray tmps = tput ps.toArray vs.toArray (tmps.setIfInBounds p v) := by
      rw [tput_list, tput_list]; rfl
    rw [h1]
    have h2 := tput_ok ps vs ((p, v) :: e) (tmps.setIfInBounds p v) (he.put (d := p) (v := v) (hp p (by simp))) (fun q hq => by simpa using hp q (List.mem_cons_of_mem _ hq))
    simpa [epush] using h2

/-- The contract of one round: the record stands first. -/
def RoundFn (P : Program) (l : Nat) (r : Loop) (args : List Value) (H : Hp) (I : Own) (post : Value → Hp → Own → Prop) : Prop :=
  ∀ F, WideF F → ∀ w, Holds ⟨w, H, Own.blocks (.obj l (.loop r) :: I)⟩ H (.obj l (.loop r) :: I) w →
    RoundIn F 0 P l r.fn (tput r.params args.toArray r.tmps) r.assign r.body w fun e w' => ∃ v H' I', e = .returned v ∧ Holds ⟨w, H, Own.blocks (.obj l (.loop r) :: I)⟩ H' I' w' ∧ post v H' I'

theorem RoundFn.mono {P : Program} {l : Nat} {r : Loop} {args : List Value} {H : Hp} {I : Own} {post post' : Value → Hp → Own → Prop} (h : RoundFn P l r args H I post) (hp : ∀ v H' I', post v H' I' → post' v H' I') : RoundFn P l r args H I post' :=
  fun F hF w hw => (h F hF w hw).mono fun _ _ ⟨v, H', I', he, hh, hq⟩ => ⟨v, H', I', he, hh, hp _ _ _ hq⟩

/-- how a round's walk ends: off its end; by a jump j -/
def RendN (c : Ctx) (l : Nat) (r : Loop) (post : Value → Hp → Own → Prop) : SP :=
  Shift c fun s => s.L = [.obj l (.loop (rbusy r))] ∧ post (.bool true) s.H (.obj l (.loop r) :: s.M)
def RendJ (c : Ctx) (l : Nat) (r : Loop) (post : Value → Hp → Own → Prop) (j : Code) : SP :=
  Shift c fun s => s.L = [.obj l (.loop (rbusy r))] ∧ post (.bool false) s.H (.obj l (.loop (rdone r j)) :: s.M)
def rexits (c : Ctx) (l : Nat) (r : Loop) (post : Value → Hp → Own → Prop) (ids : List Nat) : List (Nat × SP) := ids.map fun id => (id, RendJ c l r post (.exit id))
theorem xfind_rexits {c : Ctx} {l : Nat} {r : Loop} {post : Value → Hp → Own → Prop} {ids : List Nat} {id : Nat} {K : SP} (h : xfind (rexits c l r post ids) id = some K) : K = RendJ c l r post (.exit id) := by
  induction ids with
  | nil => simp [rexits, xfind] at h
  | cons i t ih =>
    simp only [rexits, List.map_cons, xfind] at h
    cases hb : Nat.beq i id with
    | true => rw [hb] at h; simp at h; have := Nat.eq_of_beq_eq_true hb; subst this; exact h.symm
    | false => rw [hb] at h; exact ih h

theorem own_swap {c : Ctx} {H : Hp} {A : Own} {r : Res} {w : World} (h : Holds c H (A ++ [r]) w) : Holds c H (r :: A) w := own_perm (List.perm_append_comm (l₁ := A) (l₂ := [r])) h
theorem own_swap' {c : Ctx} {H : Hp} {A : Own} {r : Res} {w : World} (h : Holds c H (r :: A) w) : Holds c H (A ++ [r]) w := own_perm (List.perm_append_comm (l₁ := [r]) (l₂ := A)) h

theorem Round_of {P : Program} {l : Nat} {r : Loop} {args : List Value} {H : Hp} {I : Own} {post : Value → Hp → Own → Prop} {e : Env} {ps : List Tmp} {n : Nat} {assign body : Code} (ids : List Nat)
    (hr : Fresh r) (he : EnvOk e ⟨r.tmps, []⟩) (hps : r.params = ps.toArray) (has : r.assign = assign) (hbo : r.body = body) (hsn : r.tmps.size = n) (hlt : (ps.all fun p => Nat.blt p n) = true)
    (h : ∀ F, WideF F → ∀ c : Ctx, wpA F P c assign (fun s => s.L = [.obj l (.loop r)] ∧ wpA F P c body (RendN c l r post) (rexits c l r post ids) (RendJ c l r post .ret) { s with L := [.obj l (.loop (rbusy r))] }) [] (fun _ => False)
      ⟨n, epush ps args e, H, I, [.obj l (.loop r)], []⟩) : RoundFn P l r args H I post := by
  subst has hbo hsn
  replace hlt : ∀ p ∈ ps, p < r.tmps.size := fun p hp => Nat.le_of_ble_eq_true (List.all_eq_true.1 hlt p hp)
  intro F hF w hw
  refine roundIn_of_wpIn (hF.fn _) ?_
  have hFl := hF.inRound l
  obtain ⟨h1, h2⟩ := tput_ok ps args e r.tmps he hlt
  rw [← hps] at h1 h2
  refine wpIn_mono (h _ hFl ⟨w, H, Own.blocks (.obj l (.loop r) :: I)⟩ { tmps := tput r.params args.toArray r.tmps, defers := [] } w ⟨rfl, h2, h1, own_swap' hw⟩) ?_
  intro e a w' q
  cases e with
  | normal =>
    obtain ⟨s, hs, hL, hbody⟩ := q
    have hh := hs.holds
    rw [hL] at hh
    have hh2 := own_swap hh
    have hb : w'.heap[l]? = some (.loop r) := hh2.own (.obj l (.loop r)) (by simp)
    refine ⟨_, run_beginRound hb hr.1, ?_⟩
    have hs2 : Sta.ok ⟨w, H, Own.blocks (.obj l (.loop r) :: I)⟩ { s with L := [.obj l (.loop (rbusy r))] } a (w'.putObj l (.loop (rbusy r))) :=
      ⟨hs.defers, hs.size, hs.env, own_swap' (hh2.putObj (.loop (rbusy r)))⟩
    refine wpIn_mono (hbody _ _ hs2) ?_
    have fin : ∀ (j : Option Code) (r' : Loop) (v : Value) (s : Sta) (a : Act) (w₁ : World), v = .bool j.isNone → r' = { rbusy r with state := if j.isNone then .ready else .done, pending := j } →
        s.ok ⟨w, H, Own.blocks (.obj l (.loop r) :: I)⟩ a w₁ → (Shift ⟨w, H, Own.blocks (.obj l (.loop r) :: I)⟩ fun s => s.L = [.obj l (.loop (rbusy r))] ∧ post v s.H (.obj l (.loop r') :: s.M)) s →
        ∃ u w₂, (Instr.endRound l j).run P w₁ = .ok u w₂ ∧ ∃ v H' I', Ending.returned u = .returned v ∧ Holds ⟨w, H, Own.blocks (.obj l (.loop r) :: I)⟩ H' I' w₂ ∧ post v H' I' := by
      rintro j r' v s a w₁ rfl rfl hs hsh
      obtain ⟨s', hs', hL', hp⟩ := hsh a w₁ hs
      have hh' := hs'.holds
      rw [hL'] at hh'
      have hh3 := own_swap hh'
      have hb' : w₁.heap[l]? = some (.loop (rbusy r)) := hh3.own (.obj l (.loop (rbusy r))) (by simp)
      exact ⟨_, _, run_endRound j hb', _, _, _, rfl, hh3.putObj _, hp⟩
    intro e a₁ w₁ q
    cases e with
    | normal =>
      obtain ⟨s₁, hs₁, hsh⟩ := q
      refine fin none r _ s₁ a₁ w₁ rfl ?_ hs₁ hsh
      obtain ⟨st, pe, fn, tm, pa, asg, bo, de⟩ := r
      obtain ⟨rfl, rfl⟩ := hr
      rfl
    | ret => obtain ⟨s₁, hs₁, hsh⟩ := q; exact fin (some .ret) (rdone r .ret) _ s₁ a₁ w₁ rfl rfl hs₁ hsh
    | exit id =>
      obtain ⟨s₁, hs₁, K', hx, hsh⟩ := q
      rw [xfind_rexits hx] at hsh
      exact fin (some (.exit id)) (rdone r (.exit id)) _ s₁ a₁ w₁ rfl rfl hs₁ hsh
    | goto t => exact q.elim
    | panic ch => exact q.elim
    | outgrown => exact q.elim
  | exit id => obtain ⟨s, hs, K', hx, _⟩ := q; simp [xfind] at hx
  | ret => obtain ⟨s, hs, hx⟩ := q; exact hx
  | goto t => exact q.elim
  | panic ch => exact q.elim
  | outgrown => exact q.elim

section
variable {F : Fence} {P : Program} {c : Ctx} {o : Oper} {K : SP} {X : List (Nat × SP)} {R : SP} {n : Nat} {e : Env} {H : Hp} {M M' L I : Own} {D : List Deferred} {d : Nat} {ty : TypeId} {pos : String} {after : Array Edge} {g : Option (Nat × Bool)} {f : FuncId} {post : Value → Hp → Own → Prop} {at_ : Array TypeId} {args : List Value} {z : Operand}

/-- the iterator calls yield -/
theorem Ef_yield (hF : WideF F) {l : Nat} {r : Loop} {xs : Array Operand} (h : RoundFn P l r args H I post) (hz : e.eval z = some (.func (.yield l) #[] #[])) (hx : EvalAll e xs.toList args) (hps : r.params.size = args.length) (hn : Nat.blt d n = true)
    (k : ∀ v H' I', HLe H H' → post v H' I' → K ⟨n, (d, v) :: e, H', I' ++ M', L, D⟩) :
    Ef F P c ⟨some d, .call { callee := .value z, args := xs, argTypes := at_ }, ty, pos, after, g⟩ ⟨n, e, H, .obj l (.loop r) :: I ++ M', L, D⟩ K := by
  intro a w hs
  have hm := EvalAll.map hs.env hx
  have hm' : xs.map a.eval = args.toArray := by
    apply Array.ext'
    simpa using hm
  have hz' := hs.env.eval hz
  have hw : Holds c H ((.obj l (.loop r) :: I) ++ (M' ++ L)) w := by have := hs.holds; simpa [List.append_assoc] using this
  have hb : w.heap[l]? = some (.loop r) := hw.own (.obj l (.loop r)) (by simp)
  have hr : (execOp a.eval ⟨some d, .call { callee := .value z, args := xs, argTypes := at_ }, ty, pos, after, g⟩).run P w = .ok (.round l r.fn (tput r.params args.toArray r.tmps) r.assign r.body) w := by
    have hy := run_yield (P := P) (args := args.toArray) hb (by simp [hps])
    simp only [execOp, resolve, hm', hz', Deferred.ofValue, Sem.run_bind, Sem.run_pure, Result.andThen_ok, invoke, Array.empty_append]
    exact hy
  refine ⟨fun f _ => hF.fn f, ?_⟩
  rw [Oper.semAt_eq _ _ _ (by simp), hr]
  refine ⟨(fun hd => (by rw [hF.depth] at hd; cases hd)), ?_⟩
  have hsub := Own.sep_append.1 hw.sep
  have hI : ∀ b ∈ Own.blocks (.obj l (.loop r) :: I), b ∈ Own.blocks ((.obj l (.loop r) :: I) ++ (M' ++ L)) := fun b hb => by rw [Own.blocks_append]; exact List.mem_append_left _ hb
  have h0 : Holds ⟨w, H, Own.blocks (.obj l (.loop r) :: I)⟩ H (.obj l (.loop r) :: I) w :=
    ⟨hw.mem, fun q hq => hw.own q (List.mem_append_left _ hq), hsub.1, fun b hb => hw.apart b (hI b hb), fun b hb => .inr hb,
      ⟨rfl, rfl, rfl, Nat.le_refl _, fun _ _ _ => rfl⟩, fun _ _ _ h => h, fun _ _ _ h => .inl h, fun b o v h1 h2 => absurd (h1.symm.trans h2) (by simp), hw.callee hI⟩
  refine (h F hF w h0).mono ?_
  rintro e' w' ⟨v, H', I', he, hh, hq⟩
  subst he
  have hfr : Holds c H' (I' ++ (M' ++ L)) w' := hw.frame ⟨hh.old.os, hh.old.tape, hh.old.output, hh.old.size, hh.old.block⟩ hh.mem hh.hle hh.hnew hh.own hh.sep hh.apart hh.fresh hh.thaw
  exact ⟨_, ok_put hs hn (M'' := I' ++ M') (by simpa [List.append_assoc] using hfr), k v H' I' hh.hle hq⟩

/-- .. whose record, and all that the rounds need, stand behind one block of its own -/
theorem Ef_yield1 (hF : WideF F) {l : Nat} {r : Loop} {r0 : Res} {xs : Array Operand} (h : RoundFn P l r args H I post) (hz : e.eval z = some (.func (.yield l) #[] #[])) (hx : EvalAll e xs.toList args) (hps : r.params.size = args.length) (hn : Nat.blt d n = true)
    (k : ∀ v H' I', HLe H H' → post v H' I' → K ⟨n, (d, v) :: e, H', r0 :: I', L, D⟩) :
    Ef F P c ⟨some d, .call { callee := .value z, args := xs, argTypes := at_ }, ty, pos, after, g⟩ ⟨n, e, H, r0 :: .obj l (.loop r) :: I, L, D⟩ K := by
  refine Ef_perm (s := ⟨n, e, H, r0 :: .obj l (.loop r) :: I, L, D⟩) (M2 := .obj l (.loop r) :: I ++ [r0]) (List.perm_append_comm (l₁ := [r0]) (l₂ := .obj l (.loop r) :: I)) ?_
  refine Ef_mapK (K' := fun s' => ∃ v H' I', HLe H H' ∧ post v H' I' ∧ s' = ⟨n, (d, v) :: e, H', I' ++ [r0], L, D⟩) (Ef_yield (M' := [r0]) hF h hz hx hps hn fun v H' I' hle hp => ⟨v, H', I', hle, hp, rfl⟩) ?_
  rintro s a w hs ⟨v, H', I', hle, hp, rfl⟩
  exact ⟨⟨n, (d, v) :: e, H', r0 :: I', L, D⟩, ⟨hs.defers, hs.size, hs.env, own_perm ((List.perm_append_comm (l₁ := I') (l₂ := [r0])).append_right L) hs.holds⟩, k v H' I' hle hp⟩

/-- the mark of a range over a function -/
abbrev rmark (d : Nat) : Deferred := { target := .collected d, args := #[] }
/-- THE STATEMENT, at an outermost loop -/
theorem A_rangeFunc (hF : WideF F) (hro : F.round = none) {gf : FuncId} [hf : FunC P gf] {cap : List Value} {ps : List Tmp} {assign body : Code} (hg : e.eval z = some (.func (.func gf) #[] cap.toArray))
    (h : ∀ (dd l : Nat) (r : Loop), Fresh r → r.params = ps.toArray → r.assign = assign → r.body = body → r.tmps.size = n → EnvOk e ⟨r.tmps, []⟩ →
      ∃ post, Fn P gf (.func (.yield l) #[] #[] :: cap) H (.obj l (.loop r) :: M) post ∧
        ∀ v H' I', HLe H H' → post v H' I' → ∃ r' M', I' = .obj l (.loop r') :: M' ∧ r'.state ≠ .busy ∧
          (match r'.pending with
           | none => K ⟨n, e, H', .obj dd (.deferred (some [])) :: M', L, [rmark dd]⟩
           | some j => wpA F P c j K X R ⟨n, e, H', .obj dd (.deferred (some [])) :: M', L, [rmark dd]⟩)) :
    wpA F P c (.rangeFunc z ps.toArray assign body) K X R ⟨n, e, H, M, L, []⟩ := by
  intro a w hs
  refine wpIn_rangeFunc fun fn _ => ?_
  have henter := run_enterLoop_outer (P := P) (w := w) fn a.tmps ps.toArray assign body
  rw [← hro] at henter
  obtain ⟨post, hfn, hk⟩ := h w.heap.size (w.heap.size + 1) { state := .ready, pending := none, fn, tmps := a.tmps, params := ps.toArray, assign, body, defers := w.heap.size } ⟨rfl, rfl⟩ rfl rfl rfl hs.size hs.env
  have hgv := hs.env.eval hg
  have hcf := hf.run (#[.func (.yield (w.heap.size + 1)) #[] #[]] ++ cap.toArray)
  refine ⟨_, _, _, { target := .fn (.func gf) cap.toArray, args := #[.func (.yield (w.heap.size + 1)) #[] #[]] }, ?u1, gf, #[.func (.yield (w.heap.size + 1)) #[] #[]] ++ cap.toArray, ?u2, henter, ?c1, fun f' _ => hF.fn f', ?c2, ?c3, ?c4⟩
  case c3 => intro hd; rw [hF.depth] at hd; cases hd
  case c1 =>
    have hm : (#[Operand.const (.func (.yield (w.heap.size + 1)) #[] #[])] : Array Operand).map a.eval = #[.func (.yield (w.heap.size + 1)) #[] #[]] := by simp [Act.eval]
    simp only [resolve, hgv, Deferred.ofValue, Sem.run_pure, Array.empty_append, hm]
    rfl
  case c2 => simp only [invoke]; exact hcf _
  case c4 =>
    refine callsIn_of_calls hF ?_
    have hh := hs.holds
    have hh1 := (hh.allocO (.deferred (some []))).allocO (.loop { state := .ready, pending := none, fn, tmps := a.tmps, params := ps.toArray, assign, body, defers := w.heap.size })
    have hsz : (w.alloc (.deferred (some []))).heap.size = w.heap.size + 1 := by simp
    rw [hsz] at hh1
    have hh2 : Holds c H ((.obj (w.heap.size + 1) (.loop { state := .ready, pending := none, fn, tmps := a.tmps, params := ps.toArray, assign, body, defers := w.heap.size }) :: M) ++ (.obj w.heap.size (.deferred (some [])) :: L)) ((w.alloc (.deferred (some []))).alloc (.loop { state := .ready, pending := none, fn, tmps := a.tmps, params := ps.toArray, assign, body, defers := w.heap.size })) := by
      refine own_perm ?_ hh1
      refine List.Perm.cons _ ?_
      exact (List.perm_middle (l₁ := M) (l₂ := L)).symm
    have hargs : (#[.func (.yield (w.heap.size + 1)) #[] #[]] ++ cap.toArray : Array Value) = ((.func (.yield (w.heap.size + 1)) #[] #[]) :: cap : List Value).toArray := by simp
    rw [hargs]
    refine (Calls_of_Fn hfn hh2).mono ?_
    rintro e' w' ⟨v, H', I', rfl, hle, hh', hq⟩
    obtain ⟨r', M2, rfl, hst, hk'⟩ := hk v H' I' hle hq
    have hb : w'.heap[w.heap.size + 1]? = some (.loop r') := hh'.own (.obj _ (.loop r')) (by simp)
    have hh3 : Holds c H' (.obj w.heap.size (.deferred (some [])) :: M2 ++ L) (w'.putObj (w.heap.size + 1) (.loop { r' with state := .exhausted })) := by
      have h5 := Holds.putObj (R := M2 ++ (.obj w.heap.size (.deferred (some [])) :: L)) (.loop { r' with state := .exhausted }) (by simpa using hh')
      refine own_perm (List.perm_middle (l₁ := M2) (l₂ := L)) (h5.sublist (List.sublist_cons_self _ _))
    have hs' : Sta.ok c ⟨n, e, H', .obj w.heap.size (.deferred (some [])) :: M2, L, [rmark w.heap.size]⟩ { a with defers := [rmark w.heap.size] ++ a.defers } (w'.putObj (w.heap.size + 1) (.loop { r' with state := .exhausted })) :=
      ⟨by simp [hs.defers], hs.size, hs.env, hh3⟩
    refine ⟨r'.pending, _, run_endLoop hb hst, ?_⟩
    generalize w'.putObj (w.heap.size + 1) (.loop { r' with state := .exhausted }) = W at hs' ⊢
    cases hp : r'.pending with
    | none => rw [hp] at hk'; exact ⟨_, hs', hk'⟩
    | some j => rw [hp] at hk'; exact hk' _ _ hs'
end

/-! ### the end of a function that holds a range over a function -/
def EndOfM (c : Ctx) (P : Program) (fn : Func) (post : Value → Hp → Own → Prop) : SP := fun s =>
  EndOf c P fn post s ∨ ∃ dd M', s.D = [rmark dd] ∧ s.M = .obj dd (.deferred (some [])) :: M' ∧ ∃ v, RetOk P fn ⟨s.n, s.env, s.H, M', s.L, []⟩ v ∧ Shift c (fun s' => s'.L = [] ∧ post v s'.H s'.M) ⟨s.n, s.env, s.H, M', s.L, []⟩
section
variable {P : Program} {c : Ctx} {f : FuncId} {args : List Value} {H : Hp} {I : Own} {post : Value → Hp → Own → Prop}
theorem Fn_ofM (fn : Func) (code : Code) (hf : P.funcs[f]? = some fn) (hb : fn.body = some code) {N : Nat} (hN : fn.ntmps = N) (hle : Nat.ble args.length N = true)
    (h : ∀ c : Ctx, wpA Fence.wide P c code (Shift c (EndOfM c P fn post)) [] (Shift c (EndOfM c P fn post)) ⟨N, ofArgs 0 args, H, I, [], []⟩) :
    Fn P f args H I post := by
  intro w hw
  rw [← callsIn_wide (n := 0)]
  refine callsIn_of_wp_marks hf hb trivial (wpIn_mono (h _ { tmps := args.toArray ++ Array.replicate (fn.ntmps - args.toArray.size) undef, defers := [] } w ⟨rfl, ?_, ofArgs_ok args _, by simpa using hw⟩) ?_)
  · have := Nat.le_of_ble_eq_true hle
    simp [hN]; omega
  · intro e a w' q
    have fin : (∃ s, Sta.ok ⟨w, H, Own.blocks I⟩ s a w' ∧ (Shift ⟨w, H, Own.blocks I⟩ (EndOfM ⟨w, H, Own.blocks I⟩ P fn post)) s) →
        LeavesInM Fence.wide 0 P fn a.tmps (fun e w' => ∃ v H' I', e = .returned v ∧ Holds ⟨w, H, Own.blocks I⟩ H' I' w' ∧ post v H' I') a.defers .returning w' := by
      rintro ⟨s, hs, hsh⟩
      obtain ⟨s', hs', hend⟩ := hsh a w' hs
      rcases hend with ⟨v, hr, hd, hsh'⟩ | ⟨dd, M', hd, hM, v, hr, hsh'⟩
      · obtain ⟨s'', hs'', hl, hp⟩ := hsh' a w' hs'
        rw [hs'.defers.trans hd]
        refine ⟨v, hr a w' hs'.env hs'.holds.own, v, s''.H, s''.M, rfl, ?_, hp⟩
        have := hs''.holds
        rw [hl] at this
        simpa using this
      · rw [hs'.defers.trans hd]
        have hh := hs'.holds
        rw [hM] at hh
        have hb : w'.heap[dd]? = some (.deferred (some [])) := hh.own (.obj dd _) (by simp)
        refine ⟨by simp, .inl ⟨dd, _, rfl, run_takeDeferred hb, ?_⟩⟩
        have hh2 := (Holds.putObj (.deferred none) (by simpa using hh)).sublist (List.sublist_cons_self _ _)
        have hs2 : Sta.ok ⟨w, H, Own.blocks I⟩ ⟨s'.n, s'.env, s'.H, M', s'.L, []⟩ { a with defers := [] } (w'.putObj dd (.deferred none)) := ⟨rfl, hs'.size, hs'.env, hh2⟩
        obtain ⟨s'', hs'', hl, hp⟩ := hsh' _ _ hs2
        refine ⟨v, hr { a with defers := [] } _ hs2.env hs2.holds.own, v, s''.H, s''.M, rfl, ?_, hp⟩
        have := hs''.holds
        rw [hl] at this
        simpa using this
    cases e with
    | normal => exact fin q
    | ret => exact fin q
    | exit id => obtain ⟨s, hs, K', hx, _⟩ := q; simp [xfind] at hx
    | goto l => exact q
    | panic ch => exact q.elim
    | outgrown => exact q.elim
variable {fn : Func} {n : Nat} {e : Env} {M L : Own} {v : Value}
theorem EndM_of {s : Sta} (h : Shift c (EndOf c P fn post) s) : Shift c (EndOfM c P fn post) s := h.map fun _ h => .inl h
/-- behind the loop: what the end is without the mark -/
theorem EndM_mark {dd : Nat} (h : EndOf c P fn post ⟨n, e, H, M, L, []⟩) : Shift c (EndOfM c P fn post) ⟨n, e, H, .obj dd (.deferred (some [])) :: M, L, [rmark dd]⟩ := by
  obtain ⟨v, hr, _, hs⟩ := h
  exact Shift.pure (.inr ⟨dd, M, rfl, rfl, v, hr, hs⟩)

theorem EndM_e {dd : Nat} (h : RetOk P fn ⟨n, e, H, M, L, []⟩ v) (hv : post v H []) : Shift c (EndOfM c P fn post) ⟨n, e, H, .obj dd (.deferred (some [])) :: M, L, [rmark dd]⟩ :=
  EndM_mark ⟨v, h, rfl, fun _ _ hs => ⟨_, ok_drop hs, rfl, hv⟩⟩
theorem EndM_s {dd : Nat} (h : RetOk P fn ⟨n, e, H, M, L, []⟩ v) (hs : Shift c (fun s' => s'.L = [] ∧ post v s'.H s'.M) ⟨n, e, H, M, L, []⟩) : Shift c (EndOfM c P fn post) ⟨n, e, H, .obj dd (.deferred (some [])) :: M, L, [rmark dd]⟩ :=
  EndM_mark ⟨v, h, rfl, hs⟩

/-! ### results, some of them in variables -/
def ResOk (P : Program) (s : Sta) : ResultVar → Value → Prop
  | .tmp t, v => s.env.find t = some v
  | .cell t T, v => ∃ b i, s.env.find t = some (.pointer (some ⟨b, 0, none⟩)) ∧ oget s.M i = some (.box b [v]) ∧ Nonempty (TyC P T false 1)
def resOf (tmps : Array Value) : ResultVar → Sem Value
  | .tmp t => pure (tmps.getD t undef)
  | .cell a t => do loadVar t (← asAddr (tmps.getD a undef))
theorem results_eq (fn : Func) (tmps : Array Value) : results fn tmps = (do let vs ← fn.results.mapM (resOf tmps); pure (if h : vs.size = 1 then vs[0] else .tuple vs)) := by
  unfold results
  congr 1
theorem ResOk.run {s : Sta} {r : ResultVar} {v : Value} (h : ResOk P s r v) {a : Act} {w : World} (he : EnvOk s.env a) (hr : Own.ok (s.M ++ s.L) w) : (resOf a.tmps r).run P w = .ok v w := by
  cases r with
  | tmp t => simp [resOf, he _ _ h]
  | cell t T =>
    obtain ⟨b, i, h1, h2, ⟨hT⟩⟩ := h
    obtain ⟨T', hb⟩ := hr _ (List.mem_append_left _ (oget_mem h2))
    have h3 := run_load_one (P := P) (t := T) (w := w) (b := b) (o := 0) (v := v) (cell_of_heap hb (by simp))
    simp only [Instr.loadAt, Instr.sureAddr, Sem.run_bind, Sem.run_pure, Result.andThen_ok] at h3
    simp [resOf, he _ _ h1, asAddr, h3]
theorem run_mapM2 {f : ResultVar → Sem Value} {r1 r2 : ResultVar} {v1 v2 : Value} {w : World} (e1 : (f r1).run P w = .ok v1 w) (e2 : (f r2).run P w = .ok v2 w) : (#[r1, r2].mapM f).run P w = .ok [v1, v2].toArray w := by
  simp [map_eq_pure_bind, -bind_pure_comp, Sem.run_bind, e1, e2]
theorem run_mapM3 {f : ResultVar → Sem Value} {r1 r2 r3 : ResultVar} {v1 v2 v3 : Value} {w : World} (e1 : (f r1).run P w = .ok v1 w) (e2 : (f r2).run P w = .ok v2 w) (e3 : (f r3).run P w = .ok v3 w) : (#[r1, r2, r3].mapM f).run P w = .ok [v1, v2, v3].toArray w := by
  simp [map_eq_pure_bind, -bind_pure_comp, Sem.run_bind, e1, e2, e3]
theorem RetR2 {r1 r2 : ResultVar} {v1 v2 : Value} {D : List Deferred} (h : fn.results = #[r1, r2]) (h1 : ResOk P ⟨n, e, H, M, L, D⟩ r1 v1) (h2 : ResOk P ⟨n, e, H, M, L, D⟩ r2 v2) : RetOk P fn ⟨n, e, H, M, L, D⟩ (.tuple [v1, v2].toArray) := fun a w he hr => by
  rw [results_eq, h, Sem.run_bind, run_mapM2 (h1.run he hr) (h2.run he hr)]
  rfl
theorem RetR3 {r1 r2 r3 : ResultVar} {v1 v2 v3 : Value} {D : List Deferred} (h : fn.results = #[r1, r2, r3]) (h1 : ResOk P ⟨n, e, H, M, L, D⟩ r1 v1) (h2 : ResOk P ⟨n, e, H, M, L, D⟩ r2 v2) (h3 : ResOk P ⟨n, e, H, M, L, D⟩ r3 v3) : RetOk P fn ⟨n, e, H, M, L, D⟩ (.tuple [v1, v2, v3].toArray) := fun a w he hr => by
  rw [results_eq, h, Sem.run_bind, run_mapM3 (h1.run he hr) (h2.run he hr) (h3.run he hr)]
  rfl
end
end
section
/-! Owned rows, more: stores into an element, clear, a shorter slice of the same row. -/

theorem cput_left {A B vs : List Value} {d : Nat} (h : d + vs.length ≤ A.length) : cput (A ++ B) d vs = cput A d vs ++ B := by
  unfold cput
  rw [List.take_append_of_le_length (by omega), List.drop_append_of_le_length h]
  simp
theorem cput_right {A B vs : List Value} (o : Nat) : cput (A ++ B) (A.length + o) vs = A ++ cput B o vs := by
  unfold cput
  rw [List.take_append, List.drop_append, List.take_of_length_le (by omega), List.drop_of_length_le (by omega), show A.length + o - A.length = o by omega, show A.length + o + vs.length - A.length = o + vs.length by omega]
  simp
theorem flat_put {k d : Nat} {vs rest : List Value} : ∀ {css : List (List Value)} {i : Nat} {cs : List Value}, (∀ cs ∈ css, cs.length = k) → css[i]? = some cs → d + vs.length ≤ k →
    cput (css.flatten ++ rest) (i * k + d) vs = (css.set i (cput cs d vs)).flatten ++ rest
  | [], i, cs, _, h, _ => by simp at h
  | c0 :: r, 0, cs, hk, h, hd => by
    simp at h
    subst h
    have h0 := hk c0 (by simp)
    rw [List.flatten_cons, List.append_assoc, show 0 * k + d = d by omega, cput_left (by omega)]
    simp
  | c0 :: r, i + 1, cs, hk, h, hd => by
    simp at h
    have h0 := hk c0 (by simp)
    have ih := flat_put (rest := rest) (css := r) (i := i) (fun x hx => hk x (List.mem_cons_of_mem _ hx)) h hd
    rw [List.flatten_cons, List.append_assoc, show (i + 1) * k + d = c0.length + (i * k + d) by rw [h0, Nat.succ_mul]; omega, cput_right, ih]
    simp
theorem cput_length {cs vs : List Value} {d : Nat} (h : d + vs.length ≤ cs.length) : (cput cs d vs).length = cs.length := by
  simp only [cput, List.length_append, List.length_take, List.length_drop]; omega

section
variable {F : Fence} {P : Program} {c : Ctx} {o : Oper} {K : SP} {X : List (Nat × SP)} {R : SP} {ops l : List Oper} {code : Code} {n : Nat} {e : Env} {H : Hp} {M M' L : Own} {D : List Deferred} {dst : Option Tmp} {d : Nat} {ty : TypeId} {pos : String} {after : Array Edge} {g : Option (Nat × Bool)} {x y z : Operand} {v : Value} {t t2 : TypeId} {k b off : Nat}

/-- a part of an element -/
theorem Ef_storeR (hF : WideF F) {ag : Bool} {i dd nn cp kk : Nat} {css : List (List Value)} {cs cs' vs : List Value} [hT : TyC P t ag kk] (hx : e.eval x = some (.pointer (some ⟨b, off, none⟩))) (hy : e.eval y = some (.agg vs.toArray)) (hi : css[i]? = some cs) (ho : off = i * k + dd)
    (hk : vs.length = kk) (hv : ∀ u ∈ vs, u.oneCell' = true) (hl : dd + vs.length ≤ k) (hc : cput cs dd vs = cs')
    (kk' : K ⟨n, e, H, .row (.slice (some ⟨b, 0, none⟩) nn cp) k (css.set i cs') :: M, L, D⟩) : Ef F P c ⟨none, .store t x y, ty, pos, after, g⟩ ⟨n, e, H, .row (.slice (some ⟨b, 0, none⟩) nn cp) k css :: M, L, D⟩ K := Ef_of_skip hF (by simp) fun a w hs => by
  subst hk hc ho
  have hrow : RowOk w (.slice (some ⟨b, 0, none⟩) nn cp) k css := hs.holds.own (.row _ k css) (by simp)
  rcases hrow with ⟨hh, _⟩ | ⟨b', cap, rest, T, hh, hkk, hcap, hb, hlen⟩
  · cases hh
  · cases hh
    have hil : i < css.length := (List.getElem?_eq_some_iff.1 hi).1
    have hfl := flatten_length hkk
    have hik : i * k + k ≤ css.length * k := by rw [← Nat.succ_mul]; exact Nat.mul_le_mul_right _ hil
    have hr := run_store_box (P := P) (t := t) (off := i * k + dd) (vs := vs) (v := .agg vs.toArray) hb (by rw [List.length_append, hfl]; omega) hv rfl
    rw [flat_put hkk hi hl] at hr
    refine ⟨_, ?_, _, ok_keep hs (M'' := .row (.slice (some ⟨b, 0, none⟩) css.length cp) k (css.set i (cput cs dd vs)) :: M) (hs.holds.row (I := []) (v' := .slice (some ⟨b, 0, none⟩) css.length cp) (.inr ⟨b, cp, rest, T, by simp, ?_, by simpa using hcap, setRow_heap w b _ _ T _ hb, ?_⟩) ((Moves.setRow w b _).mono (by simp [vblocks])) (fun b' hb' => .inr hb')), kk'⟩
    · simp [execOp, hs.env.eval hx, hs.env.eval hy, hr]
    · intro q hq
      rcases List.mem_or_eq_of_mem_set hq with h | h
      · exact hkk q h
      · subst h; rw [cput_length (by rw [hkk cs (List.mem_of_getElem? hi)]; exact hl)]; exact hkk cs (List.mem_of_getElem? hi)
    · rw [List.length_append] at hlen ⊢
      rw [flatten_length (k := k) (css := css.set i (cput cs dd vs)) (fun q hq => ?_), List.length_set, ← hfl, hlen]
      rcases List.mem_or_eq_of_mem_set hq with h | h
      · exact hkk q h
      · subst h; rw [cput_length (by rw [hkk cs (List.mem_of_getElem? hi)]; exact hl)]; exact hkk cs (List.mem_of_getElem? hi)
/-- one cell of an element -/
theorem Ef_storeR1 (hF : WideF F) {ag : Bool} {i dd nn cp : Nat} {css : List (List Value)} {cs cs' : List Value} [hT : TyC P t ag 1] (hx : e.eval x = some (.pointer (some ⟨b, off, none⟩))) (hy : e.eval y = some v) (hi : css[i]? = some cs) (ho : off = i * k + dd)
    (hv : v.oneCell' = true) (hl : Nat.blt dd k = true) (hc : tset cs dd v = cs') (hcs : Nat.blt dd cs.length = true)
    (kk' : K ⟨n, e, H, .row (.slice (some ⟨b, 0, none⟩) nn cp) k (css.set i cs') :: M, L, D⟩) : Ef F P c ⟨none, .store t x y, ty, pos, after, g⟩ ⟨n, e, H, .row (.slice (some ⟨b, 0, none⟩) nn cp) k css :: M, L, D⟩ K := Ef_of_skip hF (by simp) fun a w hs => by
  have hl' : dd < k := Nat.le_of_ble_eq_true hl
  have hcs' : dd < cs.length := Nat.le_of_ble_eq_true hcs
  have hvc : v.cells.toList = [v] := by cases v <;> first | rfl | (simp [Value.oneCell'] at hv)
  have he : cput cs dd [v] = cs' := by
    rw [← hc, tset_eq]
    simp only [cput, List.length_singleton]
    rw [List.set_eq_take_append_cons_drop]
    simp [hcs']
  subst he ho
  haveI : TyC P t ag [v].length := hT
  have hrow : RowOk w (.slice (some ⟨b, 0, none⟩) nn cp) k css := hs.holds.own (.row _ k css) (by simp)
  rcases hrow with ⟨hh, _⟩ | ⟨b', cap, rest, T, hh, hkk, hcap, hb, hlen⟩
  · cases hh
  · cases hh
    have hil : i < css.length := (List.getElem?_eq_some_iff.1 hi).1
    have hfl := flatten_length hkk
    have hik : i * k + k ≤ css.length * k := by rw [← Nat.succ_mul]; exact Nat.mul_le_mul_right _ hil
    have hr := run_store_box (P := P) (t := t) (off := i * k + dd) (vs := [v]) (v := v) hb (by rw [List.length_append, hfl]; simp; omega) (by simpa using hv) hvc
    rw [flat_put hkk hi (by simp; omega)] at hr
    refine ⟨_, ?_, _, ok_keep hs (M'' := .row (.slice (some ⟨b, 0, none⟩) css.length cp) k (css.set i (cput cs dd [v])) :: M) (hs.holds.row (I := []) (v' := .slice (some ⟨b, 0, none⟩) css.length cp) (.inr ⟨b, cp, rest, T, by simp, ?_, by simpa using hcap, setRow_heap w b _ _ T _ hb, ?_⟩) ((Moves.setRow w b _).mono (by simp [vblocks])) (fun b' hb' => .inr hb')), kk'⟩
    · simp [execOp, hs.env.eval hx, hs.env.eval hy, hr]
    · intro q hq
      rcases List.mem_or_eq_of_mem_set hq with h | h
      · exact hkk q h
      · subst h; rw [cput_length (by simp; omega)]; exact hkk cs (List.mem_of_getElem? hi)
    · rw [List.length_append] at hlen ⊢
      rw [flatten_length (k := k) (css := css.set i (cput cs dd [v])) (fun q hq => ?_), List.length_set, ← hfl, hlen]
      rcases List.mem_or_eq_of_mem_set hq with h | h
      · exact hkk q h
      · subst h; rw [cput_length (by simp; omega)]; exact hkk cs (List.mem_of_getElem? hi)

/-- a shorter slice of the same row -/
theorem RowOk.cut {w : World} {a : Option Addr} {nn cp k : Nat} {css : List (List Value)} (h : RowOk w (.slice a nn cp) k css) (j : Nat) (hj : j ≤ nn) : RowOk w (.slice a j cp) k (css.take j) := by
  rcases h with ⟨hh, rfl⟩ | ⟨b, cap, rest, T, hh, hkk, hcap, hb, hlen⟩
  · cases hh
    have : j = 0 := by omega
    subst this
    exact .inl ⟨rfl, rfl⟩
  · cases hh
    refine .inr ⟨b, cp, (css.drop j).flatten ++ rest, T, ?_, fun q hq => hkk q (List.mem_of_mem_take hq), ?_, ?_, ?_⟩
    · simp; omega
    · simp; omega
    · rw [← List.append_assoc, ← List.flatten_append, List.take_append_drop]; exact hb
    · rw [← List.append_assoc, ← List.flatten_append, List.take_append_drop]; exact hlen
theorem Holds.cut {R : Own} {w : World} {a : Option Addr} {nn cp k : Nat} {css : List (List Value)} (h : Holds c H (.row (.slice a nn cp) k css :: R) w) (j : Nat) (hj : j ≤ nn) : Holds c H (.row (.slice a j cp) k (css.take j) :: R) w := by
  have hr : RowOk w (.slice a nn cp) k css := h.own (.row (.slice a nn cp) k css) (by simp)
  refine h.row (I := []) (hr.cut j hj) (Moves.refl _ _) fun b hb => .inr ?_
  cases a with
  | none => exact hb
  | some ad => exact hb
theorem O_cut {a : Option Addr} {nn cp : Nat} {css : List (List Value)} (j : Nat) (hj : j ≤ nn) (h : opsA F P c ops l K ⟨n, e, H, .row (.slice a j cp) k (css.take j) :: M, L, D⟩) : opsA F P c ops l K ⟨n, e, H, .row (.slice a nn cp) k css :: M, L, D⟩ := fun ac w hs =>
  h ac w ⟨hs.defers, hs.size, hs.env, hs.holds.cut j hj⟩
theorem A_cutRow {a : Option Addr} {nn cp : Nat} {css : List (List Value)} (j : Nat) (hj : j ≤ nn) (h : wpA F P c code K X R ⟨n, e, H, .row (.slice a j cp) k (css.take j) :: M, L, D⟩) : wpA F P c code K X R ⟨n, e, H, .row (.slice a nn cp) k css :: M, L, D⟩ := fun ac w hs =>
  h ac w ⟨hs.defers, hs.size, hs.env, hs.holds.cut j hj⟩

theorem rep_get {l : List Value} : ∀ (m i : Nat), i < m * l.length → (List.replicate m l).flatten[i]? = l[i % l.length]?
  | 0, i, h => by omega
  | m + 1, i, h => by
    rw [List.replicate_succ, List.flatten_cons]
    by_cases hi : i < l.length
    · rw [List.getElem?_append_left hi, Nat.mod_eq_of_lt hi]
    · rw [List.getElem?_append_right (by omega), rep_get m (i - l.length) (by rw [Nat.succ_mul] at h; omega), ← Nat.mod_eq_sub_mod (by omega)]
theorem zeroCells_list (z : Array Value) (m : Nat) : (Builtin.zeroCells z m).toList = (List.replicate m z.toList).flatten := by
  have hl : (List.replicate m z.toList).flatten.length = m * z.size := by
    rw [flatten_length (k := z.size) (fun q hq => by rw [List.eq_of_mem_replicate hq]; simp)]; simp
  apply List.ext_getElem?
  intro i
  by_cases hi : i < m * z.size
  · have h0 : 0 < z.size := by
      rcases Nat.eq_zero_or_pos z.size with h | h
      · rw [h] at hi; omega
      · exact h
    have hm := Nat.mod_lt i h0
    rw [rep_get m i (by simpa using hi)]
    simp [Builtin.zeroCells, hi, hm]
  · rw [List.getElem?_eq_none (by rw [Array.length_toList, size_zeroCells]; omega), List.getElem?_eq_none (by rw [hl]; omega)]
/-- clear(s[j:]) -/
theorem Ef_clearR (hF : WideF F) {el j m cc nn cp : Nat} {ag : Bool} {zc : List Value} {A a : Option Addr} {css : List (List Value)} [ht : UndC P t (.slice el)] [hT : TyC P el ag k] [hz : ZeroL P el zc]
    (hx : e.eval x = some (.slice A m cc)) (hjm : j + m = css.length) (hA : m = 0 ∨ ∃ b, a = some ⟨b, 0, none⟩ ∧ A = some ⟨b, j * k, none⟩) (hzk : zc.length = k) (hz1 : ∀ u ∈ zc, u.oneCell' = true)
    (kk : K ⟨n, e, H, .row (.slice a nn cp) k (css.take j ++ List.replicate m zc) :: M, L, D⟩) :
    Ef F P c ⟨none, .call { callee := .builtin .clear, args := #[x], argTypes := #[t] }, ty, pos, after, g⟩ ⟨n, e, H, .row (.slice a nn cp) k css :: M, L, D⟩ K := by
  intro ac w hs
  have key : ∃ w', (execOp ac.eval ⟨none, .call { callee := .builtin .clear, args := #[x], argTypes := #[t] }, ty, pos, after, g⟩).run P w = .ok (.value (.tuple #[])) w' ∧ Sta.ok c ⟨n, e, H, .row (.slice a nn cp) k (css.take j ++ List.replicate m zc) :: M, L, D⟩ ac w' := by
    have hexec : ∀ {u : Value} {w' : World}, (Builtin.clear_ #[t] ty #[.slice A m cc]).run P w = .ok u w' → (execOp ac.eval ⟨none, .call { callee := .builtin .clear, args := #[x], argTypes := #[t] }, ty, pos, after, g⟩).run P w = .ok (.value u) w' := fun h => by
      simp [execOp, resolve, invoke, builtin, hs.env.eval hx, Sem.run_bind, h]
    rcases Nat.eq_zero_or_pos m with h0 | h0
    · subst h0
      refine ⟨w, hexec ?_, ?_⟩
      · cases A <;> simp [Builtin.clear_, ht.run]
      · have : css.take j = css := List.take_of_length_le (by omega)
        rw [this]
        simpa using hs
    · rcases hA with hA | ⟨b, rfl, rfl⟩
      · omega
      · have hrow : RowOk w (.slice (some ⟨b, 0, none⟩) nn cp) k css := hs.holds.own (.row _ k css) (by simp)
        rcases hrow with ⟨hh, _⟩ | ⟨b', cap, rest, T, hh, hkk, hcap, hb, hlen⟩
        · cases hh
        · cases hh
          obtain ⟨zv, hzr, hzc⟩ := hz.zero
          have hfl := flatten_length hkk
          have hzl : (List.replicate m zc).flatten.length = m * k := by rw [flatten_length (k := k) (fun q hq => by rw [List.eq_of_mem_replicate hq]; exact hzk)]; simp
          have hmk : j * k + m * k = css.length * k := by rw [← Nat.add_mul, hjm]
          have hst := run_storeCells_at P b (j * k) T (List.replicate m zc).flatten 0 (css.flatten ++ rest).toArray w hb (by
            simp only [Nat.add_zero, List.size_toArray, List.length_append, hfl, hzl]; omega) (fun u hu => by
              obtain ⟨q, hq, huq⟩ := List.mem_flatten.1 hu
              rw [List.eq_of_mem_replicate hq] at huq
              exact hz1 u huq)
          have htk : ((css.flatten ++ rest).toArray.toList.take (j * k + 0) ++ (List.replicate m zc).flatten ++ (css.flatten ++ rest).toArray.toList.drop (j * k + 0 + (List.replicate m zc).flatten.length)) = (css.take j ++ List.replicate m zc).flatten ++ rest := by
            simp only [Nat.add_zero, hzl, hmk, ← hfl, List.drop_left, List.flatten_append]
            congr 2
            have h1 : css.flatten = (css.take j).flatten ++ (css.drop j).flatten := by rw [← List.flatten_append, List.take_append_drop]
            have h2 : (css.take j).flatten.length = j * k := by rw [flatten_length (k := k) (fun q hq => hkk q (List.mem_of_mem_take hq)), List.length_take, Nat.min_eq_left (by omega)]
            rw [h1, ← h2, List.append_assoc, List.take_left]
          rw [htk] at hst
          have hlen2 : (css.take j ++ List.replicate m zc).length = css.length := by simp; omega
          refine ⟨_, hexec ?_, ok_keep hs (M'' := .row (.slice (some ⟨b, 0, none⟩) css.length cp) k (css.take j ++ List.replicate m zc) :: M) (hs.holds.row (I := []) (v' := .slice (some ⟨b, 0, none⟩) css.length cp) (.inr ⟨b, cp, rest, T, by rw [hlen2], ?_, by rw [hlen2]; exact hcap, setRow_heap w b _ _ T _ hb, ?_⟩) ((Moves.setRow w b _).mono (by simp [vblocks])) (fun b' hb' => .inr hb'))⟩
          · have hm : m ≠ 0 := by omega
            obtain ⟨m', rfl⟩ : ∃ m', m = m' + 1 := ⟨m - 1, by omega⟩
            simp [Builtin.clear_, ht.run, hzr, zeroCells_list, hzc, hst]
          · intro q hq
            rcases List.mem_append.1 hq with h | h
            · exact hkk q (List.mem_of_mem_take h)
            · rw [List.eq_of_mem_replicate h]; exact hzk
          · rw [List.length_append, flatten_length (k := k) (fun q hq => ?_), hlen2, ← hfl, ← List.length_append, hlen]
            rcases List.mem_append.1 hq with h | h
            · exact hkk q (List.mem_of_mem_take h)
            · rw [List.eq_of_mem_replicate h]; exact hzk
  obtain ⟨w', hr, hok⟩ := key
  refine ⟨fun f _ => hF.fn f, ?_⟩
  rw [Oper.semAt_eq _ _ _ (by simp), hr]
  exact ⟨_, hok, kk⟩
/-- the place of an owned row's element -/
theorem run_indexAddr {el nn cp s : Nat} {ag : Bool} {i : Int} {kk : IntKind} [ht : UndC P t (.slice el)] [hs : TyC P el ag s] {a : Act} {w : World} (he : EnvOk e a) (hx : e.eval x = some (.slice (some ⟨b, 0, none⟩) nn cp)) (hy : e.eval y = some (.int kk i)) (h0 : 0 ≤ i) (h1 : i < nn) :
    (execOp a.eval ⟨dst, .indexAddr t x y, ty, pos, after, g⟩).run P w = .ok (.value (.pointer (some ⟨b, i.toNat * s, none⟩))) w := by
  have hc : (0 : Int) ≤ i ∧ i < (nn : Int) := ⟨h0, h1⟩
  simp [execOp, he.eval hx, he.eval hy, Instr.indexAt, asIntOf, ht.run, hs.sizeOf, hc, Addr.add_lit]
theorem Ef_idxRow (hF : WideF F) {el nn cp s q : Nat} {ag : Bool} {i : Int} {kk : IntKind} {a : Option Addr} {css : List (List Value)} [ht : UndC P t (.slice el)] [hs : TyC P el ag s] (hx : e.eval x = some (.slice a nn cp)) (hR : oget M q = some (.row (.slice a nn cp) k css)) (hy : e.eval y = some (.int kk i)) (h0 : 0 ≤ i) (h1 : i < nn) (hn : Nat.blt d n = true)
    (kq : ∀ b, a = some ⟨b, 0, none⟩ → K ⟨n, (d, .pointer (some ⟨b, i.toNat * s, none⟩)) :: e, H, M, L, D⟩) : Ef F P c ⟨some d, .indexAddr t x y, ty, pos, after, g⟩ ⟨n, e, H, M, L, D⟩ K := Ef_of_run hF fun ac w hs' => by
  have hr : RowOk w (.slice a nn cp) k css := hs'.holds.own _ (List.mem_append_left _ (oget_mem hR))
  obtain ⟨h1', h2, h3, h4, h5⟩ := hr.addr
  cases a with
  | none => exact absurd (h3 rfl).1 (by intro hh; rw [hh] at h1'; simp at h1'; omega)
  | some ad =>
    obtain ⟨b, rfl⟩ := h5 ad rfl
    exact ⟨_, w, run_indexAddr hs'.env hx hy h0 h1, _, ok_put hs' hn hs'.holds, kq b rfl⟩
theorem D_idxRow {el nn cp s q : Nat} {ag : Bool} {i : Int} {kk : IntKind} {a : Option Addr} {css : List (List Value)} {ops : List Oper} [ht : UndC P t (.slice el)] [hs : TyC P el ag s] (hx : e.eval x = some (.slice a nn cp)) (hR : oget M q = some (.row (.slice a nn cp) k css)) (hy : e.eval y = some (.int kk i)) (h0 : 0 ≤ i) (h1 : i < nn) (hw : want ops ⟨some d, .indexAddr t x y, ty, pos, after, g⟩ e = some true) (hn : Nat.blt d n = true)
    (kq : ∀ b, a = some ⟨b, 0, none⟩ → K ⟨n, (d, .pointer (some ⟨b, i.toNat * s, none⟩)) :: e, H, M, L, D⟩) : drQ P c ops ⟨some d, .indexAddr t x y, ty, pos, after, g⟩ ⟨n, e, H, M, L, D⟩ K := fun ac w hs' => by
  have hr : RowOk w (.slice a nn cp) k css := hs'.holds.own _ (List.mem_append_left _ (oget_mem hR))
  obtain ⟨h1', h2, h3, h4, h5⟩ := hr.addr
  cases a with
  | none => exact absurd (h3 rfl).1 (by intro hh; rw [hh] at h1'; simp at h1'; omega)
  | some ad =>
    obtain ⟨b, rfl⟩ := h5 ad rfl
    exact D_ev (c := c) (K := K) (P := P) hw (fun a' w' he _ _ => run_indexAddr he hx hy h0 h1) rfl hn (kq b rfl) ac w hs'

/-- some of the owned blocks are brought forward -/
def Own.rest (R : Own) (l : List Nat) : List Nat := (List.range R.length).filter fun i => !l.contains i
theorem Own.front (M : Own) (l : List Nat) (h1 : l.Nodup) (h2 : (l.all fun i => Nat.blt i M.length) = true) : M.Perm (M.picks l ++ M.picks (Own.rest M l)) := by
  have h3 : M = M.picks (List.range M.length) := by
    rw [Own.picks_eq]
    apply List.ext_getElem?
    intro i
    by_cases hi : i < M.length
    · simp [hi]
    · simp [hi, List.getElem?_eq_none (Nat.le_of_not_lt hi)]
  have h4 : (List.range M.length).Perm (l ++ Own.rest M l) := by
    rw [List.perm_ext_iff_of_nodup List.nodup_range]
    · intro a
      simp only [List.mem_range, List.mem_append, Own.rest, List.mem_filter, Bool.not_eq_true']
      constructor
      · intro ha
        by_cases hl : a ∈ l
        · exact .inl hl
        · exact .inr ⟨ha, by simpa using hl⟩
      · rintro (ha | ⟨ha, _⟩)
        · exact Nat.le_of_ble_eq_true (List.all_eq_true.1 h2 a ha)
        · exact ha
    · rw [List.nodup_append]
      refine ⟨h1, List.Pairwise.filter _ List.nodup_range, fun a ha b hb => ?_⟩
      simp only [Own.rest, List.mem_filter, Bool.not_eq_true'] at hb
      rintro rfl
      have := hb.2
      simp [ha] at this
  have h5 : (M.picks (List.range M.length)).Perm (M.picks (l ++ Own.rest M l)) := by
    rw [Own.picks_eq, Own.picks_eq]; exact h4.map _
  have h6 : M.picks (l ++ Own.rest M l) = M.picks l ++ M.picks (Own.rest M l) := by rw [Own.picks_eq, Own.picks_eq, Own.picks_eq, List.map_append]
  rw [← h6]
  exact (h3 ▸ List.Perm.refl M : M.Perm (M.picks (List.range M.length))).trans h5
theorem Ef_pick (ix : List Nat) {M2 : Own} (h1 : ix.Nodup) (h2 : (ix.all fun i => Nat.blt i M.length) = true) (hM : M.picks ix ++ M.picks (Own.rest M ix) = M2) (h : Ef F P c o ⟨n, e, H, M2, L, D⟩ K) : Ef F P c o ⟨n, e, H, M, L, D⟩ K :=
  Ef_perm (s := ⟨n, e, H, M, L, D⟩) (hM ▸ Own.front M ix h1 h2) h
theorem Ef_f4 {r0 r1 r2 r3 r4 : Res} (k : Ef F P c o ⟨n, e, H, r4 :: r0 :: r1 :: r2 :: r3 :: M, L, D⟩ K) : Ef F P c o ⟨n, e, H, r0 :: r1 :: r2 :: r3 :: r4 :: M, L, D⟩ K := fun a w hs => k a w ⟨hs.defers, hs.size, hs.env, own_perm ((perm_mid [r0, r1, r2, r3] r4 M).append_right L) hs.holds⟩
theorem Ef_f5 {r0 r1 r2 r3 r4 r5 : Res} (k : Ef F P c o ⟨n, e, H, r5 :: r0 :: r1 :: r2 :: r3 :: r4 :: M, L, D⟩ K) : Ef F P c o ⟨n, e, H, r0 :: r1 :: r2 :: r3 :: r4 :: r5 :: M, L, D⟩ K := fun a w hs => k a w ⟨hs.defers, hs.size, hs.env, own_perm ((perm_mid [r0, r1, r2, r3, r4] r5 M).append_right L) hs.holds⟩
theorem Ef_f6 {r0 r1 r2 r3 r4 r5 r6 : Res} (k : Ef F P c o ⟨n, e, H, r6 :: r0 :: r1 :: r2 :: r3 :: r4 :: r5 :: M, L, D⟩ K) : Ef F P c o ⟨n, e, H, r0 :: r1 :: r2 :: r3 :: r4 :: r5 :: r6 :: M, L, D⟩ K := fun a w hs => k a w ⟨hs.defers, hs.size, hs.env, own_perm ((perm_mid [r0, r1, r2, r3, r4, r5] r6 M).append_right L) hs.holds⟩
/-- the second but one goes behind the next: r1 r2 r0 to .. -/
theorem Ef_sw {r0 r1 : Res} (k : Ef F P c o ⟨n, e, H, r1 :: r0 :: M, L, D⟩ K) : Ef F P c o ⟨n, e, H, r0 :: r1 :: M, L, D⟩ K := Ef_f1 k
theorem RendN_to {l : Nat} {r : Loop} {post : Value → Hp → Own → Prop} {s s' : Sta} (hl : Sta.le s' s) (hL : s'.L = [.obj l (.loop (rbusy r))]) (h : post (.bool true) s'.H (.obj l (.loop r) :: s'.M)) : RendN c l r post s := Shift.to ⟨hL, h⟩ hl
theorem RendJ_to {l : Nat} {r : Loop} {post : Value → Hp → Own → Prop} {s s' : Sta} {j : Code} (hl : Sta.le s' s) (hL : s'.L = [.obj l (.loop (rbusy r))]) (h : post (.bool false) s'.H (.obj l (.loop (rdone r j)) :: s'.M)) : RendJ c l r post j s := Shift.to ⟨hL, h⟩ hl
theorem snoc_at {α : Type} (l : List α) (a : α) : (l ++ [a])[l.length]? = some a := by simp
theorem snoc_set {α : Type} (l : List α) (a b : α) : (l ++ [a]).set l.length b = l ++ [b] := by simp
end
end
section
/-! Struct literals. -/

/-- where the fields of a struct lie, and how many cells each takes -/
class BuildC (P : Program) (t : TypeId) (places : outParam (List (Nat × Nat))) : Type where
  places : ∃ fs, P.underlying t = some (.struct fs) ∧ fs.toList.mapM (fun f => (P.info? f.type).map fun i => (f.offset, i.size)) = some places
def pget : List (Nat × Nat) → Nat → Option (Nat × Nat)
  | [], _ => none
  | p :: _, 0 => some p
  | _ :: r, n + 1 => pget r n
theorem pget_eq (l : List (Nat × Nat)) (n : Nat) : pget l n = l[n]? := by
  induction l generalizing n with
  | nil => simp [pget]
  | cons o r ih => cases n with
    | zero => simp [pget]
    | succ n => simp [pget, ih]
inductive Fills (places : List (Nat × Nat)) : List (Nat × Value) → List Value → List Value → Prop where
  | nil {cs : List Value} : Fills places [] cs cs
  | one {i off : Nat} {v : Value} {rest : List (Nat × Value)} {cs r : List Value} (hp : pget places i = some (off, 1)) (hv : v.oneCell' = true) (hl : Nat.blt off cs.length = true) (h : Fills places rest (tset cs off v) r) : Fills places ((i, v) :: rest) cs r
  | agg {i off k : Nat} {vs : List Value} {rest : List (Nat × Value)} {cs r : List Value} (hp : pget places i = some (off, k)) (hk : Nat.beq vs.length k = true) (hl : Nat.ble (off + vs.length) cs.length = true) (h : Fills places rest (cput cs off vs) r) : Fills places ((i, .agg vs.toArray) :: rest) cs r
theorem fold_put : ∀ (vs : List Value) (j off : Nat) (cs : List Value), off + j + vs.length ≤ cs.length → (vs.zipIdx j).foldl (fun cs (x : Value × Nat) => cs.setIfInBounds (off + x.2) x.1) cs.toArray = (cput cs (off + j) vs).toArray
  | [], j, off, cs, h => by simp [cput]
  | v :: vs, j, off, cs, h => by
    simp only [List.length_cons] at h
    rw [List.zipIdx_cons, List.foldl_cons]
    have h1 : cs.toArray.setIfInBounds (off + j) v = (cs.set (off + j) v).toArray := by simp
    rw [h1, fold_put vs (j + 1) off (cs.set (off + j) v) (by simp; omega)]
    congr 1
    unfold cput
    have h2 : off + j < cs.length := by omega
    have h3 : off + (j + 1) = off + j + 1 := by omega
    rw [h3, List.set_eq_take_append_cons_drop, if_pos h2]
    have h4 : (cs.take (off + j)).length = off + j := by simp; omega
    rw [List.take_append, List.drop_append, h4]
    have e1 : off + j + 1 - (off + j) = 1 := by omega
    have e2 : off + j + 1 + vs.length - (off + j) = vs.length + 1 := by omega
    rw [e1, e2, List.take_of_length_le (by omega : (cs.take (off + j)).length ≤ off + j + 1), List.drop_of_length_le (by omega : (cs.take (off + j)).length ≤ off + j + 1 + vs.length)]
    simp [List.drop_drop]
    congr 1
    omega
theorem Fills.fill {places : List (Nat × Nat)} {parts : List (Nat × Value)} {cs r : List Value} (h : Fills places parts cs r) : Instr.fill (fun i => places[i]?) cs.toArray parts = some r.toArray := by
  induction h with
  | nil => rfl
  | @one i off v rest cs r hp hv hl h ih =>
    have hvc : v.cells = #[v] := by cases v <;> first | rfl | (simp [Value.oneCell'] at hv)
    rw [pget_eq] at hp
    have hl' : off < cs.length := Nat.le_of_ble_eq_true hl
    rw [tset_eq] at ih
    simp [Instr.fill, hp, hvc, ih]
    omega
  | @agg i off k vs rest cs r hp hk hl h ih =>
    rw [pget_eq] at hp
    have hk' := Nat.eq_of_beq_eq_true hk
    have hl' := Nat.le_of_ble_eq_true hl
    have hf := fold_put vs 0 off cs (by omega)
    simp only [Nat.add_zero] at hf
    simp only [Instr.fill, hp]
    have hc : (Value.agg vs.toArray).cells = vs.toArray := rfl
    rw [hc]
    have hz : vs.toArray.zipIdx.foldl (fun cs (x : Value × Nat) => cs.setIfInBounds (off + x.2) x.1) cs.toArray = (cput cs off vs).toArray := by
      rw [← hf]
      rw [← Array.foldl_toList]
      simp
    have hcond : ¬ ((vs.toArray.size ≠ k || off + vs.toArray.size > cs.toArray.size) = true) := by
      simp; omega
    rw [if_neg hcond]
    have hz' : vs.toArray.zipIdx.foldl (fun cs (c, j) => cs.setIfInBounds (off + j) c) cs.toArray = (cput cs off vs).toArray := hz
    rw [hz']
    exact ih
def fillL (places : List (Nat × Nat)) : List (Nat × Value) → List Value → List Value
  | [], cs => cs
  | (i, .agg vs) :: rest, cs => match pget places i with
    | some (off, _) => fillL places rest (cput cs off vs.toList)
    | none => cs
  | (i, v) :: rest, cs => match pget places i with
    | some (off, _) => fillL places rest (tset cs off v)
    | none => cs
def fillOk (places : List (Nat × Nat)) : List (Nat × Value) → List Value → Bool
  | [], _ => true
  | (i, .agg vs) :: rest, cs => match pget places i with
    | some (off, k) => Nat.beq vs.toList.length k && Nat.ble (off + vs.toList.length) cs.length && fillOk places rest (cput cs off vs.toList)
    | none => false
  | (i, v) :: rest, cs => match pget places i with
    | some (off, k) => Nat.beq k 1 && v.oneCell' && Nat.blt off cs.length && fillOk places rest (tset cs off v)
    | none => false
theorem Fills.of_ok {places : List (Nat × Nat)} : ∀ (parts : List (Nat × Value)) (cs : List Value), fillOk places parts cs = true → Fills places parts cs (fillL places parts cs)
  | [], cs, _ => .nil
  | (i, v) :: rest, cs, h => by
    cases v
    case agg vs =>
      unfold fillOk at h
      unfold fillL
      cases hp : pget places i with
      | none => simp [hp] at h
      | some q =>
        obtain ⟨off, k⟩ := q
        simp only [hp, Bool.and_eq_true] at h ⊢
        exact .agg (vs := vs.toList) hp h.1.1 h.1.2 (Fills.of_ok rest _ h.2)
    all_goals
      unfold fillOk at h
      unfold fillL
      cases hp : pget places i with
      | none => simp [hp] at h
      | some q =>
        obtain ⟨off, k⟩ := q
        simp only [hp, Bool.and_eq_true] at h ⊢
        have hk := Nat.eq_of_beq_eq_true h.1.1.1
        subst hk
        exact .one hp h.1.1.2 h.1.2 (Fills.of_ok rest _ h.2)
section
variable {P : Program} {e : Env} {H : Hp} {R : Own} {dst : Option Tmp} {ty : TypeId} {pos : String} {after : Array Edge} {g : Option (Nat × Bool)} {t : TypeId}
def EvalParts (e : Env) : List (Nat × Operand) → List (Nat × Value) → Prop
  | [], [] => True
  | (i, x) :: xs, (j, v) :: vs => i = j ∧ e.eval x = some v ∧ EvalParts e xs vs
  | _, _ => False
theorem EvalParts.map {e : Env} {a : Act} (he : EnvOk e a) : ∀ {xs : List (Nat × Operand)} {vs : List (Nat × Value)}, EvalParts e xs vs → xs.map (fun p => (p.1, a.eval p.2)) = vs
  | [], [], _ => rfl
  | (i, x) :: xs, (j, v) :: vs, h => by
    obtain ⟨rfl, h1, h2⟩ := h
    simp [he.eval h1, EvalParts.map he h2]
  | [], _ :: _, h => h.elim
  | _ :: _, [], h => by simp [EvalParts] at h
theorem Ev_build {places : List (Nat × Nat)} {zc : List Value} {xs : Array (Nat × Operand)} {vs : List (Nat × Value)} [hb : BuildC P t places] [hz : ZeroL P t zc] (hx : EvalParts e xs.toList vs) (hok : fillOk places vs zc = true) :
    Ev P ⟨dst, .build t xs, ty, pos, after, g⟩ e H R (.agg (fillL places vs zc).toArray) := fun a w he _ _ => by
  have hf := Fills.of_ok vs zc hok
  generalize fillL places vs zc = r at *
  obtain ⟨fs, hu, hp⟩ := hb.places
  obtain ⟨zv, hzr, hzc⟩ := hz.zero
  have hm := EvalParts.map he hx
  have hm' : xs.map (fun (i, x) => (i, a.eval x)) = vs.toArray := by
    apply Array.ext'
    simpa using hm
  have hfill := hf.fill
  have hzc' : zv.cells = zc.toArray := by apply Array.ext'; simpa using hzc
  have hpl : (fs.mapM fun f => do pure (f.offset, ← sizeOf f.type) : Sem (Array (Nat × Nat))).run P w = .ok places.toArray w := by
    have h1 := run_places (P := P) w fs.toList places hp
    have h2 : (fs.mapM fun f => do pure (f.offset, ← sizeOf f.type) : Sem (Array (Nat × Nat))) = List.toArray <$> fs.toList.mapM fun f => Prod.mk f.offset <$> sizeOf f.type := by
      rw [Array.mapM_eq_mapM_toList]
      simp
    rw [h2]
    simp only [map_eq_pure_bind, Sem.run_bind, Sem.run_pure] at h1 ⊢
    rw [h1]
    rfl
  have hrun : (Instr.build t vs.toArray).run P w = .ok (.agg r.toArray) w := by
    simp only [Instr.build, Sem.run_bind, hzr, Result.andThen_ok, run_underlying hu, hzc']
    rw [hpl]
    simp only [Result.andThen_ok]
    have : (fun (x : Nat) => places.toArray[x]?) = fun i => places[i]? := by funext i; simp
    rw [this, hfill]
    rfl
  simp only [execOp, hm', Sem.run_bind, hrun, Result.andThen_ok, Sem.run_pure]
end
end
end Go.Proofs.YtnoadopmeoohmaaGreatDoor
