import Derived.Test.YtnoadopmeoohmaaGreatDoorZ02
import Derived.Lib.Builder
import Derived.Lib.UnsafeStr
import Derived.Laws.Externs
import Derived.Laws.Pointers
import Derived.Laws.Append
import Derived.Laws.Small
import Derived.Laws.StructEq
import Derived.RangeFuncRecord
import Derived.Laws.Tables
/-
  Whole objects as resources (their element type known), pointers, strings.Builder's operations.
  A range over a function: the iterator's rounds, the statement, the end of a function that holds one; results in cells.
  Owned rows, more: stores into an element, clear, a shorter slice of the same row.
  Struct literals.
-/
namespace Go.Proofs.YtnoadopmeoohmaaGreatDoor
open Go
set_option linter.unusedVariables false
set_option linter.unusedSimpArgs false
section
/-! Whole objects as resources (their element type known), pointers, strings.Builder's operations. -/
/-- a row of variables, all of it -/
abbrev cobj (cs : List Value) (T : TypeId) : Obj := .cells cs.toArray T (0, 0)
class ExtC (P : Program) (f : FuncId) : Type where
  run : ∀ x w, (callFunc f #[x]).run P w = .ok (.value x) w
class LiesC (P : Program) (T : TypeId) (k : Nat) : Type where
  lies : liesAt P P.depth T (k / P.cellsOf T) 0 T 1 = true
class CellsC (P : Program) (T : TypeId) (k : outParam Nat) : Type where
  cells : P.cellsOf T = k
section
variable {P : Program} {e : Env} {H : Hp} {R : Own} {dst : Option Tmp} {ty : TypeId} {pos : String} {after : Array Edge} {g : Option (Nat × Bool)} {x y z : Operand} {v : Value} {t t2 : TypeId} {k b o : Nat}
theorem Ev_loadO1 [hT : TyC P t false k] {i : Nat} {cs : List Value} {T : TypeId} (hx : e.eval x = some (.pointer (some ⟨b, o, none⟩))) (hR : oget R i = some (.obj b (cobj cs T))) (hv : tget cs o = some v) :
    Ev P ⟨dst, .load t x, ty, pos, after, g⟩ e H R v := fun a w he _ hr => by
  have hb : w.heap[b]? = some (cobj cs T) := hr _ (oget_mem hR)
  rw [tget_eq] at hv
  have h1 := run_load_one (P := P) (t := t) (w := w) (b := b) (o := o) (cell_of_heap hb (by simpa using hv))
  simp [execOp, he.eval hx, h1]
theorem Ev_maxi {k1 : IntKind} {m1 m2 : Int} {ats : Array TypeId} (hx : e.eval x = some (.int k1 m1)) (hy : e.eval y = some (.int k1 m2)) : Ev P ⟨dst, .call { callee := .builtin .max, args := #[x, y], argTypes := ats }, ty, pos, after, g⟩ e H R (.int k1 (if m1 < m2 then m2 else m1)) := fun a w he _ _ => by
  have h1 := run_max_int2 (P := P) w ats ty k1 k1 m1 m2
  simp [execOp, resolve, invoke, builtin, he.eval hx, he.eval hy, h1]
theorem fieldsOf_of {fs : Array Field} (h : P.underlying t = some (.struct fs)) : P.fieldsOf t = fs := by unfold Program.fieldsOf; rw [h]
theorem Ev_eqS {xs ys : List Value} {p : Prop} [Decidable p] (hx : e.eval x = some (.agg xs.toArray)) (hy : e.eval y = some (.agg ys.toArray)) (hm : P.eqGuardType P.depth t = false) (hq : ∀ w, (Op.equalIn 10000 t (.agg xs.toArray) (.agg ys.toArray)).run P w = .ok (decide p) w) :
    Ev P ⟨dst, .binOp .eql t x y t2, ty, pos, after, g⟩ e H R (.bool (decide p)) := fun a w he _ _ => by
  simp only [execOp, he.eval hx, he.eval hy, Sem.run_bind, run_eqGuard_agg (P := P) w _ t x y xs.toArray ys.toArray hm, run_eql_struct (P := P) w t xs.toArray ys.toArray, hq w, Result.andThen_ok, Sem.run_pure]
theorem Ev_ptrnil {te : TypeId} {q : Option Addr} [ht : UndC P t (.pointer te)] (hx : e.eval x = some (.pointer q)) (hy : e.eval y = some (.pointer none)) : Ev P ⟨dst, .binOp .eql t x y t2, ty, pos, after, g⟩ e H R (.bool q.isNone) := fun a w he _ _ => by
  have hp : P.underlying t = some (.pointer (P.pointee t)) := by simp [Program.pointee, ht.und]
  have h1 := run_equal_pointer_nil (P := P) w t q hp
  simp [execOp, he.eval hx, he.eval hy, eqGuard_at_pointer, binOp, h1]
theorem Ev_ptrsame {te bytes : Nat} {q : Addr} [ht : UndC P t (.pointer te)] [hI : InfoC P te bytes] (hx : e.eval x = some (.pointer (some q))) (hy : e.eval y = some (.pointer (some q))) : Ev P ⟨dst, .binOp .neq t x y t2, ty, pos, after, g⟩ e H R (.bool false) := fun a w he _ _ => by
  obtain ⟨i, hi, _⟩ := hI.info
  have h1 := Lib.run_neq_ptr_same (P := P) w q ht.und (typeInfo_of_run hi)
  simp [execOp, he.eval hx, he.eval hy, eqGuard_at_pointer, h1]
theorem shape_of {w : World} {cs : List Value} {T : TypeId} (hb : w.heap[b]? = some (cobj cs T)) : w.shape? b = some (T, cs.length) := by simp [World.shape?, hb]
/-- *T to unsafe.Pointer and back, at a variable of its own -/
theorem Ev_toUnsafe {te bytes s : Nat} {ag : Bool} {zc : List Value} {i : Nat} {cs : List Value} {T : TypeId} [hs : UndC P t (.pointer te)] [hd : UndC P t2 .unsafePointer] [hI : InfoC P te bytes] [hT : TyC P te ag s] [hz : ZeroL P te zc]
    (hx : e.eval x = some (.pointer (some ⟨b, 0, none⟩))) (hR : oget R i = some (.obj b (cobj cs T))) (hs0 : Nat.blt 0 s = true) (hc0 : Nat.blt 0 cs.length = true) :
    Ev P ⟨dst, .convert t t2 x, ty, pos, after, g⟩ e H R (.pointer (some ⟨b, 0, none⟩)) := fun a w he _ hr => by
  have hb : w.heap[b]? = some (cobj cs T) := hr _ (oget_mem hR)
  obtain ⟨j, z, hj, hjs, _⟩ := info_of (P := P) (t := te) (hT := hT) (hI := hI) (hz := hz)
  have h0 : 0 < s := Nat.le_of_ble_eq_true hs0
  have h1 := Lib.run_to_unsafe (P := P) w ⟨b, 0, none⟩ hs.und hd.und hj (by omega) (shape_of hb) (Nat.le_of_ble_eq_true hc0)
  simp only [execOp, he.eval hx, Sem.run_bind, h1, Result.andThen_ok, Sem.run_pure]
theorem Ev_fromUnsafe {te bytes s : Nat} {ag : Bool} {zc : List Value} {i : Nat} {cs : List Value} [hs : UndC P t .unsafePointer] [hd : UndC P t2 (.pointer te)] [hI : InfoC P te bytes] [hT : TyC P te ag s] [hz : ZeroL P te zc] [hl : LiesC P te s]
    (hx : e.eval x = some (.pointer (some ⟨b, 0, none⟩))) (hR : oget R i = some (.obj b (cobj cs te))) (hcs : Nat.beq cs.length s = true) :
    Ev P ⟨dst, .convert t t2 x, ty, pos, after, g⟩ e H R (.pointer (some ⟨b, 0, none⟩)) := fun a w he _ hr => by
  have hb : w.heap[b]? = some (cobj cs te) := hr _ (oget_mem hR)
  obtain ⟨j, z, hj, hjs, _⟩ := info_of (P := P) (t := te) (hT := hT) (hI := hI) (hz := hz)
  have hsh := shape_of hb
  rw [Nat.eq_of_beq_eq_true hcs] at hsh
  have h1 := Lib.run_from_unsafe (P := P) w ⟨b, 0, none⟩ hs.und hd.und hj hsh hl.lies
  simp only [execOp, he.eval hx, Sem.run_bind, h1, Result.andThen_ok, Sem.run_pure]
/-- a call of a library entry that hands its argument back -/
theorem Ev_ext {f : FuncId} {at_ : Array TypeId} [hf : ExtC P f] (hx : e.eval x = some v) : Ev P ⟨dst, .call { callee := .value (.func f), args := #[x], argTypes := at_ }, ty, pos, after, g⟩ e H R v := fun a w he _ _ => by
  have h1 := hf.run v w
  have hm : (#[x] : Array Operand).map a.eval = #[v] := by simp [he.eval hx]
  simp only [execOp, resolve, hm, Act.eval, Deferred.ofValue, Sem.run_bind, Sem.run_pure, Result.andThen_ok, invoke, List.append_toArray, List.nil_append, List.append_nil, Array.empty_append, h1]
theorem Ev_sliceData {c n : Nat} {ad : Addr} {ats : Array TypeId} (hx : e.eval x = some (.slice (some ad) n c)) (hc : 0 < c) : Ev P ⟨dst, .call { callee := .builtin .unsafeSliceData, args := #[x], argTypes := ats }, ty, pos, after, g⟩ e H R (.pointer (some ad)) := fun a w he _ _ => by
  have h1 := Lib.run_unsafeSliceData_row (P := P) w ats ty ad n c (by omega)
  simp [execOp, resolve, invoke, builtin, he.eval hx, h1]
theorem Ev_sliceDataNil {c n : Nat} {ats : Array TypeId} (hx : e.eval x = some (.slice none n c)) : Ev P ⟨dst, .call { callee := .builtin .unsafeSliceData, args := #[x], argTypes := ats }, ty, pos, after, g⟩ e H R (.pointer none) := fun a w he _ _ => by
  have h1 := Lib.run_unsafeSliceData_nil (P := P) w ats ty n c
  simp [execOp, resolve, invoke, builtin, he.eval hx, h1]
end
section
variable {F : Fence} {P : Program} {c : Ctx} {o : Oper} {K : SP} {n : Nat} {e : Env} {H : Hp} {M M' L : Own} {D : List Deferred} {dst : Option Tmp} {d : Nat} {ty : TypeId} {pos : String} {after : Array Edge} {g : Option (Nat × Bool)} {x y z : Operand} {v : Value} {t t2 : TypeId} {k b off : Nat}
theorem Holds.allocO {c : Ctx} {H : Hp} {R : Own} {w : World} (h : Holds c H R w) (o : Obj) : Holds c H (.obj w.heap.size o :: R) (w.alloc o) := by
  refine Holds.frameH (I := []) (I' := [.obj w.heap.size o]) (R := R) h (Moves.alloc w _ _) (Own.ok_one (heap_alloc_new w o)) (Own.sep_one _) (fun b hb => ?_)
  simp [Own.blocks, Res.blocks] at hb
  exact .inl (by omega)
/-- var x T, its type known -/
theorem Ef_allocO (hF : WideF F) {zc : List Value} [hz : ZeroL P t zc] (hn : Nat.blt d n = true) (k : ∀ b, K ⟨n, (d, .pointer (some ⟨b, 0, none⟩)) :: e, H, .obj b (cobj zc t) :: M, L, D⟩) :
    Ef F P c ⟨some d, .alloc t, ty, pos, after, g⟩ ⟨n, e, H, M, L, D⟩ K := Ef_of_run hF fun a w hs => by
  obtain ⟨zv, hrun, hc⟩ := hz.zero
  refine ⟨_, w.alloc (cobj zc t), ?_, _, ok_put hs hn (hs.holds.allocO _), k _⟩
  subst hc
  simp [execOp, Instr.alloc, hrun, newVar, newRow, cobj]
theorem Holds.setObj {R : Own} {w : World} {cs cs' : List Value} {T : TypeId} (h : Holds c H (.obj b (cobj cs T) :: R) w) : Holds c H (.obj b (cobj cs' T) :: R) (w.setRow b cs'.toArray) := by
  have hb : w.heap[b]? = some (cobj cs T) := h.own (.obj b (cobj cs T)) (by simp)
  refine Holds.frameH (I := [.obj b (cobj cs T)]) (I' := [.obj b (cobj cs' T)]) (R := R) h ?_ (Own.ok_one (setRow_heap w b _ _ T _ hb)) (Own.sep_one _) (fun b' hb' => .inr (by simpa [Own.blocks, Res.blocks] using hb'))
  exact (Moves.setRow w b _).mono (by simp [Own.blocks, Res.blocks])
theorem Ef_storeO1 (hF : WideF F) {ag : Bool} {cs cs' : List Value} {T : TypeId} [hT : TyC P t ag 1] (hx : e.eval x = some (.pointer (some ⟨b, off, none⟩))) (hy : e.eval y = some v) (hv : v.oneCell' = true) (hl : Nat.blt off cs.length = true) (hc : tset cs off v = cs')
    (k : K ⟨n, e, H, .obj b (cobj cs' T) :: M, L, D⟩) : Ef F P c ⟨none, .store t x y, ty, pos, after, g⟩ ⟨n, e, H, .obj b (cobj cs T) :: M, L, D⟩ K := Ef_of_skip hF (by simp) fun a w hs => by
  have hb : w.heap[b]? = some (cobj cs T) := hs.holds.own (.obj b (cobj cs T)) (by simp)
  have hlt : off < cs.length := Nat.le_of_ble_eq_true hl
  have hvc : v.cells.toList = [v] := by cases v <;> first | rfl | (simp [Value.oneCell'] at hv)
  haveI : TyC P t ag [v].length := hT
  have hr := run_store_box (P := P) (t := t) (off := off) hb (show off + 1 ≤ cs.length from hlt) (by simpa using hv) hvc
  have he : cput cs off [v] = cs' := by
    rw [← hc, tset_eq]
    simp only [cput, List.length_singleton]
    rw [List.set_eq_take_append_cons_drop]
    simp [hlt]
  rw [he] at hr
  refine ⟨_, ?_, _, ok_keep hs (hs.holds.setObj (cs' := cs')), k⟩
  simp [execOp, hs.env.eval hx, hs.env.eval hy, hr]
/-! ### a buffer of bytes -/
abbrev bcells (l : List UInt8) : List Value := Lib.byteCells l
/-- the value v is a slice of the bytes l; R is what it owns -/
def BufIs (T : TypeId) (v : Value) (R : Own) (l : List UInt8) : Prop :=
  (v = .slice none 0 0 ∧ R = [] ∧ l = []) ∨ ∃ b cap rest, v = .slice (some ⟨b, 0, none⟩) l.length cap ∧ R = [.obj b (cobj (bcells l ++ rest) T)] ∧ l.length ≤ cap ∧ 0 < cap ∧ (bcells l ++ rest).length = cap
theorem strCells_sv (s : List UInt8) : Lib.strCells ⟨s.toArray⟩ = bcells s := by simp [Lib.strCells, Lib.byteCells]
/-- append(buf, s...): the buffer stands first -/
theorem Ef_appendS (hF : WideF F) {el bytes : Nat} {R : Own} {l s : List UInt8} {zc : List Value} [ht : UndC P t (.slice el)] [hu : UndC P t2 .string] [hT : TyC P el false 1] [hI : InfoC P el bytes] [hz : ZeroL P el zc]
    (hx : e.eval x = some v) (hy : e.eval y = some (sv s)) (hB : BufIs el v R l) (hb1 : Nat.beq bytes 1 = true) (hz1 : Nat.beq zc.length 1 = true) (hlen : l.length + s.length ≤ 70368744177664) (hn : Nat.blt d n = true)
    (kk : ∀ v' R', BufIs el v' R' (l ++ s) → K ⟨n, (d, v') :: e, H, R' ++ M, L, D⟩) :
    Ef F P c ⟨some d, .call { callee := .builtin .append, args := #[x, y], argTypes := #[t, t2] }, ty, pos, after, g⟩ ⟨n, e, H, R ++ M, L, D⟩ K := Ef_of_run hF fun a w hs => by
  obtain ⟨i, zv, hi, hsz, hby, hzz, hzc⟩ := info_of (P := P) (t := el) (hT := hT) (hI := hI) (hz := hz)
  have hb1' := Nat.eq_of_beq_eq_true hb1
  have hzl : zv.cells.size = 1 := by rw [← Nat.eq_of_beq_eq_true hz1, ← hzc]; simp
  subst hby
  have hss : (ByteArray.mk s.toArray).size = s.length := bs_size s
  have hexec : ∀ {u : Value} {w' : World}, (Builtin.append_ #[t, t2] ty #[v, sv s]).run P w = .ok u w' → (execOp a.eval ⟨some d, .call { callee := .builtin .append, args := #[x, y], argTypes := #[t, t2] }, ty, pos, after, g⟩).run P w = .ok (.value u) w' := fun h => by
    simp [execOp, resolve, invoke, builtin, hs.env.eval hx, hs.env.eval hy, Sem.run_bind, h]
  have hzero : ∀ q, (Builtin.zeroCells zv.cells q).toList.length = q := fun q => by rw [Array.length_toList, size_zeroCells, hzl, Nat.mul_one]
  have hbl : ∀ l : List UInt8, (bcells l).length = l.length := fun l => Lib.byteCells_length l
  rcases hB with ⟨rfl, rfl, rfl⟩ | ⟨b, cap, rest, rfl, rfl, hc, hc0, hl⟩
  · by_cases hs0 : s.length = 0
    · have : s = [] := List.eq_nil_of_length_eq_zero hs0
      subst this
      refine ⟨.slice none 0 0, w, hexec ?_, _, ok_put hs hn (M'' := [] ++ M) hs.holds, kk _ _ (.inl ⟨rfl, rfl, rfl⟩)⟩
      have h0 : (ByteArray.mk #[]).size = 0 := rfl
      have hf := Lib.run_firstCells_string (P := P) w 1 ⟨#[]⟩
      rw [h0] at hf
      simp [Builtin.append_, ht.run, hu.run, sizeOf, typeInfo, hi, hsz, Builtin.lenOf, h0, hf]
    · have hr := run_append_nil_string (P := P) w t t2 ty el i zv ht.und hu.und hi hzz ⟨s.toArray⟩ (by omega) (by rw [hss]; omega) (by rw [hss, hb1']; omega)
      rw [hss] at hr
      have hge := grownCap_ge w s.length 0 el
      have ea : (ByteArray.mk s.toArray).data.map (fun b => Value.int .u8 b.toNat) ++ Builtin.zeroCells zv.cells (grownCap w s.length 0 el - s.length) = (bcells s ++ (Builtin.zeroCells zv.cells (grownCap w s.length 0 el - s.length)).toList).toArray := by apply Array.ext'; simp [Lib.byteCells]
      rw [ea] at hr
      have hh := (hs.holds.drew).allocO (cobj (bcells s ++ (Builtin.zeroCells zv.cells (grownCap w s.length 0 el - s.length)).toList) el)
      refine ⟨_, _, hexec hr, _, ok_put hs hn (M'' := [.obj w.heap.size (cobj (bcells s ++ (Builtin.zeroCells zv.cells (grownCap w s.length 0 el - s.length)).toList) el)] ++ M) (by simpa using hh), kk _ _ (.inr ⟨w.heap.size, grownCap w s.length 0 el, _, by simp, rfl, by simpa using hge, by omega, ?_⟩)⟩
      simp only [List.nil_append, List.length_append, hzero, hbl]
      omega
  · have hb : w.heap[b]? = some (cobj (bcells l ++ rest) el) := hs.holds.own (.obj b _) (by simp)
    by_cases hroom : l.length + s.length ≤ cap
    · have hr := Lib.run_append_room_string (P := P) w t t2 ty el i ht.und hu.und hi hsz b l.length cap (bcells l ++ rest).toArray hb ⟨s.toArray⟩ (by rw [hss]; exact hroom) (by rw [hss]; simp only [List.size_toArray, hl]; exact hroom)
      rw [hss, strCells_sv] at hr
      have e1 : (bcells l ++ rest).toArray.toList.take l.length ++ bcells s ++ (bcells l ++ rest).toArray.toList.drop (l.length + s.length) = bcells (l ++ s) ++ rest.drop s.length := by
        have e0 : (bcells l ++ rest).take l.length = bcells l := by rw [← hbl l, List.take_left]
        have e2 : (bcells l ++ rest).drop (l.length + s.length) = rest.drop s.length := by rw [← List.drop_drop, ← hbl l, List.drop_left]
        simp only [e0, e2, Lib.byteCells_append]
      rw [e1] at hr
      have hh := Holds.setObj (R := M ++ L) (cs' := bcells (l ++ s) ++ rest.drop s.length) (by simpa using hs.holds)
      refine ⟨_, _, hexec hr, _, ok_put hs hn (M'' := [.obj b (cobj (bcells (l ++ s) ++ rest.drop s.length) el)] ++ M) (by simpa using hh), kk _ _ (.inr ⟨b, cap, _, by simp, rfl, by simpa using hroom, hc0, ?_⟩)⟩
      simp only [List.length_append, List.length_drop, hbl] at hl ⊢
      omega
    · have hr := Lib.run_append_grow_string (P := P) w t t2 ty el i zv ht.und hu.und hi hzz ⟨b, 0, none⟩ l.length cap (bcells l) (by rw [hsz, hbl, Nat.mul_one]) (fun j u hj => by
          rw [Addr.add_lit]
          refine cell_of_heap hb ?_
          simp only [Nat.zero_add, List.getElem?_toArray]
          rw [List.getElem?_append_left (List.getElem?_eq_some_iff.1 hj).1]
          exact hj) ⟨s.toArray⟩ (by rw [hss]; omega) (by rw [hss]; omega) (growslice_fits (by rw [hss]; omega) (by rw [hss, hb1']; omega))
      rw [hss, strCells_sv] at hr
      have hge := grownCap_ge w (l.length + s.length) cap el
      have ea : (bcells l).toArray ++ (bcells s).toArray ++ Builtin.zeroCells zv.cells (grownCap w (l.length + s.length) cap el - (l.length + s.length)) = (bcells (l ++ s) ++ (Builtin.zeroCells zv.cells (grownCap w (l.length + s.length) cap el - (l.length + s.length))).toList).toArray := by apply Array.ext'; simp [Lib.byteCells]
      rw [ea] at hr
      have hh0 : Holds c H (M ++ L) w := hs.holds.sublist (by simp)
      have hh := (hh0.drew).allocO (cobj (bcells (l ++ s) ++ (Builtin.zeroCells zv.cells (grownCap w (l.length + s.length) cap el - (l.length + s.length))).toList) el)
      refine ⟨_, _, hexec hr, _, ok_put hs hn (M'' := [.obj w.heap.size (cobj (bcells (l ++ s) ++ (Builtin.zeroCells zv.cells (grownCap w (l.length + s.length) cap el - (l.length + s.length))).toList) el)] ++ M) (by simpa using hh), kk _ _ (.inr ⟨w.heap.size, grownCap w (l.length + s.length) cap el, _, by simp, rfl, by simpa using hge, by omega, ?_⟩)⟩
      simp only [List.length_append, hzero, hbl]
      omega
theorem Ef_perm {s : Sta} {M1 M2 : Own} (h : M1.Perm M2) (k : Ef F P c o ⟨n, e, H, M2, L, D⟩ K) : Ef F P c o ⟨n, e, H, M1, L, D⟩ K := fun a w hs =>
  k a w ⟨hs.defers, hs.size, hs.env, own_perm (h.append_right L) hs.holds⟩
theorem Ef_f1 {r0 r1 : Res} (k : Ef F P c o ⟨n, e, H, r1 :: r0 :: M, L, D⟩ K) : Ef F P c o ⟨n, e, H, r0 :: r1 :: M, L, D⟩ K := fun a w hs => k a w ⟨hs.defers, hs.size, hs.env, own_perm ((perm_mid [r0] r1 M).append_right L) hs.holds⟩
theorem Ef_f2 {r0 r1 r2 : Res} (k : Ef F P c o ⟨n, e, H, r2 :: r0 :: r1 :: M, L, D⟩ K) : Ef F P c o ⟨n, e, H, r0 :: r1 :: r2 :: M, L, D⟩ K := fun a w hs => k a w ⟨hs.defers, hs.size, hs.env, own_perm ((perm_mid [r0, r1] r2 M).append_right L) hs.holds⟩
theorem Ef_f3 {r0 r1 r2 r3 : Res} (k : Ef F P c o ⟨n, e, H, r3 :: r0 :: r1 :: r2 :: M, L, D⟩ K) : Ef F P c o ⟨n, e, H, r0 :: r1 :: r2 :: r3 :: M, L, D⟩ K := fun a w hs => k a w ⟨hs.defers, hs.size, hs.env, own_perm ((perm_mid [r0, r1, r2] r3 M).append_right L) hs.holds⟩
theorem Ef_mapK {K' : SP} {s : Sta} (h : Ef F P c o s K') (hk : ∀ s a w, s.ok c a w → K' s → ∃ s', s'.ok c a w ∧ K s') : Ef F P c o s K := fun a w hs =>
  Oper.wpIn_both (fun a w ⟨s', hs', k⟩ => hk s' a w hs' k) (fun _ _ _ q => q) (h a w hs)
/-- .. the buffer stands behind another block -/
theorem Ef_appendS1 (hF : WideF F) {el bytes : Nat} {r0 : Res} {R : Own} {l s : List UInt8} {zc : List Value} [ht : UndC P t (.slice el)] [hu : UndC P t2 .string] [hT : TyC P el false 1] [hI : InfoC P el bytes] [hz : ZeroL P el zc]
    (hx : e.eval x = some v) (hy : e.eval y = some (sv s)) (hB : BufIs el v R l) (hb1 : Nat.beq bytes 1 = true) (hz1 : Nat.beq zc.length 1 = true) (hlen : l.length + s.length ≤ 70368744177664) (hn : Nat.blt d n = true)
    (kk : ∀ v' R', BufIs el v' R' (l ++ s) → K ⟨n, (d, v') :: e, H, r0 :: R', L, D⟩) :
    Ef F P c ⟨some d, .call { callee := .builtin .append, args := #[x, y], argTypes := #[t, t2] }, ty, pos, after, g⟩ ⟨n, e, H, r0 :: R, L, D⟩ K := by
  refine Ef_perm (s := ⟨n, e, H, r0 :: R, L, D⟩) (M2 := R ++ [r0]) (List.perm_append_comm (l₁ := [r0]) (l₂ := R)) ?_
  refine Ef_mapK (K' := fun s' => ∃ v' R', BufIs el v' R' (l ++ s) ∧ s' = ⟨n, (d, v') :: e, H, R' ++ [r0], L, D⟩) (Ef_appendS hF hx hy hB hb1 hz1 hlen hn fun v' R' hB' => ⟨v', R', hB', rfl⟩) ?_
  rintro s a w hs ⟨v', R', hB', rfl⟩
  exact ⟨⟨n, (d, v') :: e, H, r0 :: R', L, D⟩, ⟨hs.defers, hs.size, hs.env, own_perm ((List.perm_append_comm (l₁ := R') (l₂ := [r0])).append_right L) hs.holds⟩, kk v' R' hB'⟩
/-- unsafe.String(ptr, len) of a buffer: its bytes; the buffer is given up -/
theorem Moves.freeze (w : World) (a : Addr) (m : Nat) : Moves w (w.freeze a m) [a.block] := by
  unfold World.freeze
  split
  · exact Moves.refl _ _
  · exact ⟨rfl, rfl, rfl, by simp, fun k hk hn => by
      simp only [Array.getElem?_modify]
      rw [if_neg (fun h => hn (by simp [h]))]⟩
theorem Ef_ev (hF : WideF F) (h : Ev P o e H (M ++ L) v) (hd : o.dst = some d) (hn : Nat.blt d n = true) (kk : K ⟨n, (d, v) :: e, H, M, L, D⟩) : Ef F P c o ⟨n, e, H, M, L, D⟩ K := Ef_of_run hF fun a w hs =>
  ⟨v, w, h a w hs.env hs.holds.mem hs.holds.own, ⟨n, (d, v) :: e, H, M, L, D⟩, by rw [hd]; exact ok_put hs hn hs.holds, kk⟩
theorem Ev_strNil {R : Own} {pt t3 : TypeId} {q : Option Addr} (hx : e.eval x = some (.pointer q)) (hy : e.eval y = some (.int .i64 0)) : Ev P ⟨dst, .call { callee := .builtin .unsafeString, args := #[x, y], argTypes := #[pt, t3] }, ty, pos, after, g⟩ e H R (sv []) := fun a w he _ _ => by
  have h1 := Lib.run_unsafeString_none (P := P) w pt t3 ty q
  simp [execOp, resolve, invoke, builtin, he.eval hx, he.eval hy, h1]
  rfl
theorem Ef_bufString (hF : WideF F) {el pt : Nat} {l : List UInt8} {rest : List Value} {t3 : TypeId} [hp : UndC P pt (.pointer el)] [hcl : CellsC P el 1]
    (hx : e.eval x = some (.pointer (some ⟨b, 0, none⟩))) (hy : e.eval y = some (.int .i64 l.length)) (hlen : l.length ≤ 9223372036854775807) (hn : Nat.blt d n = true)
    (kk : K ⟨n, (d, sv l) :: e, H, M, L, D⟩) :
    Ef F P c ⟨some d, .call { callee := .builtin .unsafeString, args := #[x, y], argTypes := #[pt, t3] }, ty, pos, after, g⟩ ⟨n, e, H, .obj b (cobj (bcells l ++ rest) el) :: M, L, D⟩ K := Ef_of_run hF fun a w hs => by
  have hb : w.heap[b]? = some (cobj (bcells l ++ rest) el) := hs.holds.own (.obj b _) (by simp)
  have hexec : ∀ {u : Value} {w' : World}, (Builtin.unsafeString_ #[pt, t3] ty #[.pointer (some ⟨b, 0, none⟩), .int .i64 l.length]).run P w = .ok u w' → (execOp a.eval ⟨some d, .call { callee := .builtin .unsafeString, args := #[x, y], argTypes := #[pt, t3] }, ty, pos, after, g⟩).run P w = .ok (.value u) w' := fun h => by
    simp [execOp, resolve, invoke, builtin, hs.env.eval hx, hs.env.eval hy, Sem.run_bind, h]
  by_cases h0 : l = []
  · subst h0
    exact ⟨_, w, hexec (Lib.run_unsafeString_none (P := P) w pt t3 ty _), _, ok_put hs hn (hs.holds.sublist (by simp)), kk⟩
  · have hr := Lib.run_unsafeString_row (P := P) w pt t3 ty el hp.und hcl.cells b (bcells l ++ rest).length (shape_of hb) l h0 (by simp [Lib.byteCells]) hlen (fun j u hj => by
      rw [Addr.add_lit]
      refine cell_of_heap hb ?_
      have hjl := (List.getElem?_eq_some_iff.1 hj).1
      simp only [Nat.zero_add, List.getElem?_toArray]
      rw [List.getElem?_append_left (by simpa [Lib.byteCells] using hjl)]
      simp [Lib.byteCells, hj])
    refine ⟨_, _, hexec hr, _, ok_put hs hn (M'' := M) ?_, kk⟩
    have hf : Holds c H ([] ++ (M ++ L)) (w.freeze ⟨b, 0, none⟩ l.length) := Holds.frameH (I := [.obj b (cobj (bcells l ++ rest) el)]) (I' := []) (R := M ++ L) (by simpa using hs.holds)
      ((Moves.freeze w ⟨b, 0, none⟩ l.length).mono (by simp [Own.blocks, Res.blocks])) (Own.ok_nil _) Own.sep_nil (fun b' hb' => by cases hb')
    simpa using hf
/-- .. are all that is owned -/
theorem Ef_call0 (hF : WideF F) {f : FuncId} {args : List Value} {I : Own} {post : Value → Hp → Own → Prop} {at_ : Array TypeId} [hf : FunC P f] {xs : Array Operand} (h : Fn P f args H I post) (hx : EvalAll e xs.toList args) (hn : Nat.blt d n = true)
    (k : ∀ v H' I', HLe H H' → post v H' I' → K ⟨n, (d, v) :: e, H', I', L, D⟩) :
    Ef F P c ⟨some d, .call { callee := .value (.func f), args := xs, argTypes := at_ }, ty, pos, after, g⟩ ⟨n, e, H, I, L, D⟩ K := by
  have h1 := Ef_call (c := c) (K := K) (L := L) (D := D) (ty := ty) (pos := pos) (after := after) (g := g) (at_ := at_) (M' := []) hF h hx hn fun v H' I' hle hp => by simpa using k v H' I' hle hp
  simpa using h1
/-- a call of a function value without captured variables -/
theorem Ef_callv (hF : WideF F) {f : FuncId} {args : List Value} {I : Own} {post : Value → Hp → Own → Prop} {at_ : Array TypeId} [hf : FunC P f] {xs : Array Operand} (h : Fn P f args H I post) (hz : e.eval z = some (.func (.func f) #[] #[])) (hx : EvalAll e xs.toList args) (hn : Nat.blt d n = true)
    (k : ∀ v H' I', HLe H H' → post v H' I' → K ⟨n, (d, v) :: e, H', I' ++ M', L, D⟩) :
    Ef F P c ⟨some d, .call { callee := .value z, args := xs, argTypes := at_ }, ty, pos, after, g⟩ ⟨n, e, H, I ++ M', L, D⟩ K := by
  intro a w hs
  have hm := EvalAll.map hs.env hx
  have hm' : xs.map a.eval = args.toArray := by
    apply Array.ext'
    simpa using hm
  have hz' := hs.env.eval hz
  have hr : (execOp a.eval ⟨some d, .call { callee := .value z, args := xs, argTypes := at_ }, ty, pos, after, g⟩).run P w = .ok (.enter f args.toArray) w := by
    simp only [execOp, resolve, hm', hz', Deferred.ofValue, Sem.run_bind, Sem.run_pure, Result.andThen_ok, invoke, List.append_toArray, List.nil_append]
    rw [List.append_nil, hf.run]
  refine ⟨fun f _ => hF.fn f, ?_⟩
  rw [Oper.semAt_eq _ _ _ (by simp), hr]
  refine ⟨(fun hd => (by rw [hF.depth] at hd; cases hd)), callsIn_of_calls hF ?_⟩
  have hh0 : Holds c H (I ++ (M' ++ L)) w := by have := hs.holds; simpa [List.append_assoc] using this
  refine (Calls_of_Fn h hh0).mono ?_
  rintro e' w' ⟨v, H', I', he, hle, hh, hq⟩
  subst he
  exact ⟨_, ok_put hs hn (M'' := I' ++ M') (by simpa [List.append_assoc] using hh), k v H' I' hle hq⟩
theorem Ef_callvp (hF : WideF F) {f : FuncId} {args : List Value} {u : Value} {at_ : Array TypeId} [hf : FunC P f] {xs : Array Operand} (h : FnP P f args H u) (hz : e.eval z = some (.func (.func f) #[] #[])) (hx : EvalAll e xs.toList args) (hn : Nat.blt d n = true)
    (k : K ⟨n, (d, u) :: e, H, M, L, D⟩) :
    Ef F P c ⟨some d, .call { callee := .value z, args := xs, argTypes := at_ }, ty, pos, after, g⟩ ⟨n, e, H, M, L, D⟩ K :=
  Ef_callv (I := []) (M' := M) hF h hz hx hn fun v' H' I' _ ⟨h1, h2, h3⟩ => by subst h1 h2 h3; exact k
end
end
section
/-! A range over a function: the iterator's rounds, the statement, the end of a function that holds one; results in cells. -/
/-! ### objects that are no cells -/
theorem Moves.putObj (w : World) (l : Nat) (o : Obj) : Moves w (w.putObj l o) [l] :=
  ⟨rfl, rfl, rfl, by simp, fun k _ hn => World.putObj_heap_other (by simpa using hn)⟩
theorem Holds.putObj {c : Ctx} {H : Hp} {R : Own} {w : World} {l : Nat} {o : Obj} (o' : Obj) (h : Holds c H (.obj l o :: R) w) : Holds c H (.obj l o' :: R) (w.putObj l o') := by
  have hb : w.heap[l]? = some o := h.own (.obj l o) (by simp)
  have hlt := (Array.getElem?_eq_some_iff.1 hb).1
  refine Holds.frameH (I := [.obj l o]) (I' := [.obj l o']) (R := R) h ?_ (Own.ok_one (World.putObj_heap_same hlt)) (Own.sep_one _) (fun b' hb' => .inr (by simpa [Own.blocks, Res.blocks] using hb'))
  exact (Moves.putObj w l o').mono (by simp [Own.blocks, Res.blocks])
/-! ### a round -/
def rdone (r : Loop) (j : Code) : Loop := { r with state := .done, pending := some j }
def rbusy (r : Loop) : Loop := { r with state := .busy }
def Fresh (r : Loop) : Prop := r.state = .ready ∧ r.pending = none
def tput (ps : Array Tmp) (args : Array Value) (tmps : Array Value) : Array Value := (ps.zip args).foldl (fun tmps (t, a) => tmps.setIfInBounds t a) tmps
def epush : List Tmp → List Value → Env → Env
  | p :: ps, v :: vs, e => epush ps vs ((p, v) :: e)
  | _, _, e => e
/-- The contract of one round: the record stands first. -/
def RoundFn (P : Program) (l : Nat) (r : Loop) (args : List Value) (H : Hp) (I : Own) (post : Value → Hp → Own → Prop) : Prop :=
  ∀ F, WideF F → ∀ w, Holds ⟨w, H, Own.blocks (.obj l (.loop r) :: I), noPn⟩ H (.obj l (.loop r) :: I) w →
    RoundIn F 0 P l r.fn (tput r.params args.toArray r.tmps) r.assign r.body w fun e w' => ∃ v H' I', e = .returned v ∧ Holds ⟨w, H, Own.blocks (.obj l (.loop r) :: I), noPn⟩ H' I' w' ∧ post v H' I'
/-- how a round's walk ends: off its end; by a jump j -/
def RendN (c : Ctx) (l : Nat) (r : Loop) (post : Value → Hp → Own → Prop) : SP :=
  Shift c fun s => s.L = [.obj l (.loop (rbusy r))] ∧ post (.bool true) s.H (.obj l (.loop r) :: s.M)
def RendJ (c : Ctx) (l : Nat) (r : Loop) (post : Value → Hp → Own → Prop) (j : Code) : SP :=
  Shift c fun s => s.L = [.obj l (.loop (rbusy r))] ∧ post (.bool false) s.H (.obj l (.loop (rdone r j)) :: s.M)
def rexits (c : Ctx) (l : Nat) (r : Loop) (post : Value → Hp → Own → Prop) (ids : List Nat) : List (Nat × SP) := ids.map fun id => (id, RendJ c l r post (.exit id))
section
variable {F : Fence} {P : Program} {c : Ctx} {o : Oper} {K : SP} {X : List (Nat × SP)} {R : SP} {n : Nat} {e : Env} {H : Hp} {M M' L I : Own} {D : List Deferred} {d : Nat} {ty : TypeId} {pos : String} {after : Array Edge} {g : Option (Nat × Bool)} {f : FuncId} {post : Value → Hp → Own → Prop} {at_ : Array TypeId} {args : List Value} {z : Operand}
/-- the mark of a range over a function -/
abbrev rmark (d : Nat) : Deferred := { target := .collected d, args := #[] }
end
/-! ### the end of a function that holds a range over a function -/
def EndOfM (c : Ctx) (P : Program) (fn : Func) (post : Value → Hp → Own → Prop) : SP := fun s =>
  EndOf c P fn post s ∨ ∃ dd M', s.D = [rmark dd] ∧ s.M = .obj dd (.deferred (some [])) :: M' ∧ ∃ v, RetOk P fn ⟨s.n, s.env, s.H, M', s.L, []⟩ v ∧ Shift c (fun s' => s'.L = [] ∧ post v s'.H s'.M) ⟨s.n, s.env, s.H, M', s.L, []⟩
section
variable {P : Program} {c : Ctx} {f : FuncId} {args : List Value} {H : Hp} {I : Own} {post : Value → Hp → Own → Prop}
variable {fn : Func} {n : Nat} {e : Env} {M L : Own} {v : Value}
/-! ### results, some of them in variables -/
def ResOk (P : Program) (s : Sta) : ResultVar → Value → Prop
  | .tmp t, v => s.env.find t = some v
  | .cell t T, v => ∃ b i, s.env.find t = some (.pointer (some ⟨b, 0, none⟩)) ∧ oget s.M i = some (.box b [v]) ∧ Nonempty (TyC P T false 1)
def resOf (tmps : Array Value) : ResultVar → Sem Value
  | .tmp t => pure (tmps.getD t undef)
  | .cell a t => do loadVar t (← asAddr (tmps.getD a undef))
theorem results_eq (fn : Func) (tmps : Array Value) : results fn tmps = (do let vs ← fn.results.mapM (resOf tmps); pure (if h : vs.size = 1 then vs[0] else .tuple vs)) := by
  unfold results
  congr 1
theorem ResOk.run {s : Sta} {r : ResultVar} {v : Value} (h : ResOk P s r v) {a : Act} {w : World} (he : EnvOk s.env a) (hr : Own.ok (s.M ++ s.L) w) : (resOf a.tmps r).run P w = .ok v w := by
  cases r with
  | tmp t => simp [resOf, he _ _ h]
  | cell t T =>
    obtain ⟨b, i, h1, h2, ⟨hT⟩⟩ := h
    obtain ⟨T', hb⟩ := hr _ (List.mem_append_left _ (oget_mem h2))
    have h3 := run_load_one (P := P) (t := T) (w := w) (b := b) (o := 0) (v := v) (cell_of_heap hb (by simp))
    simp only [Instr.loadAt, Instr.sureAddr, Sem.run_bind, Sem.run_pure, Result.andThen_ok] at h3
    simp [resOf, he _ _ h1, asAddr, h3]
theorem run_mapM2 {f : ResultVar → Sem Value} {r1 r2 : ResultVar} {v1 v2 : Value} {w : World} (e1 : (f r1).run P w = .ok v1 w) (e2 : (f r2).run P w = .ok v2 w) : (#[r1, r2].mapM f).run P w = .ok [v1, v2].toArray w := by
  simp [map_eq_pure_bind, -bind_pure_comp, Sem.run_bind, e1, e2]
theorem run_mapM3 {f : ResultVar → Sem Value} {r1 r2 r3 : ResultVar} {v1 v2 v3 : Value} {w : World} (e1 : (f r1).run P w = .ok v1 w) (e2 : (f r2).run P w = .ok v2 w) (e3 : (f r3).run P w = .ok v3 w) : (#[r1, r2, r3].mapM f).run P w = .ok [v1, v2, v3].toArray w := by
  simp [map_eq_pure_bind, -bind_pure_comp, Sem.run_bind, e1, e2, e3]
end
end
section
/-! Owned rows, more: stores into an element, clear, a shorter slice of the same row. -/
section
variable {F : Fence} {P : Program} {c : Ctx} {o : Oper} {K : SP} {X : List (Nat × SP)} {R : SP} {ops l : List Oper} {code : Code} {n : Nat} {e : Env} {H : Hp} {M M' L : Own} {D : List Deferred} {dst : Option Tmp} {d : Nat} {ty : TypeId} {pos : String} {after : Array Edge} {g : Option (Nat × Bool)} {x y z : Operand} {v : Value} {t t2 : TypeId} {k b off : Nat}
/-- some of the owned blocks are brought forward -/
def Own.rest (R : Own) (l : List Nat) : List Nat := (List.range R.length).filter fun i => !l.contains i
theorem Own.front (M : Own) (l : List Nat) (h1 : l.Nodup) (h2 : (l.all fun i => Nat.blt i M.length) = true) : M.Perm (M.picks l ++ M.picks (Own.rest M l)) := by
  have h3 : M = M.picks (List.range M.length) := by
    rw [Own.picks_eq]
    apply List.ext_getElem?
    intro i
    by_cases hi : i < M.length
    · simp [hi]
    · simp [hi, List.getElem?_eq_none (Nat.le_of_not_lt hi)]
  have h4 : (List.range M.length).Perm (l ++ Own.rest M l) := by
    rw [List.perm_ext_iff_of_nodup List.nodup_range]
    · intro a
      simp only [List.mem_range, List.mem_append, Own.rest, List.mem_filter, Bool.not_eq_true']
      constructor
      · intro ha
        by_cases hl : a ∈ l
        · exact .inl hl
        · exact .inr ⟨ha, by simpa using hl⟩
      · rintro (ha | ⟨ha, _⟩)
        · exact Nat.le_of_ble_eq_true (List.all_eq_true.1 h2 a ha)
        · exact ha
    · rw [List.nodup_append]
      refine ⟨h1, List.Pairwise.filter _ List.nodup_range, fun a ha b hb => ?_⟩
      simp only [Own.rest, List.mem_filter, Bool.not_eq_true'] at hb
      rintro rfl
      have := hb.2
      simp [ha] at this
  have h5 : (M.picks (List.range M.length)).Perm (M.picks (l ++ Own.rest M l)) := by
    rw [Own.picks_eq, Own.picks_eq]; exact h4.map _
  have h6 : M.picks (l ++ Own.rest M l) = M.picks l ++ M.picks (Own.rest M l) := by rw [Own.picks_eq, Own.picks_eq, Own.picks_eq, List.map_append]
  rw [← h6]
  exact (h3 ▸ List.Perm.refl M : M.Perm (M.picks (List.range M.length))).trans h5
theorem Ef_pick (ix : List Nat) {M2 : Own} (h1 : ix.Nodup) (h2 : (ix.all fun i => Nat.blt i M.length) = true) (hM : M.picks ix ++ M.picks (Own.rest M ix) = M2) (h : Ef F P c o ⟨n, e, H, M2, L, D⟩ K) : Ef F P c o ⟨n, e, H, M, L, D⟩ K :=
  Ef_perm (s := ⟨n, e, H, M, L, D⟩) (hM ▸ Own.front M ix h1 h2) h
end
end
section
/-! Struct literals. -/
/-- where the fields of a struct lie, and how many cells each takes -/
class BuildC (P : Program) (t : TypeId) (places : outParam (List (Nat × Nat))) : Type where
  places : ∃ fs, P.underlying t = some (.struct fs) ∧ fs.toList.mapM (fun f => (P.info? f.type).map fun i => (f.offset, i.size)) = some places
def pget : List (Nat × Nat) → Nat → Option (Nat × Nat)
  | [], _ => none
  | p :: _, 0 => some p
  | _ :: r, n + 1 => pget r n
theorem pget_eq (l : List (Nat × Nat)) (n : Nat) : pget l n = l[n]? := by
  induction l generalizing n with
  | nil => simp [pget]
  | cons o r ih => cases n with
    | zero => simp [pget]
    | succ n => simp [pget, ih]
inductive Fills (places : List (Nat × Nat)) : List (Nat × Value) → List Value → List Value → Prop where
  | nil {cs : List Value} : Fills places [] cs cs
  | one {i off : Nat} {v : Value} {rest : List (Nat × Value)} {cs r : List Value} (hp : pget places i = some (off, 1)) (hv : v.oneCell' = true) (hl : Nat.blt off cs.length = true) (h : Fills places rest (tset cs off v) r) : Fills places ((i, v) :: rest) cs r
  | agg {i off k : Nat} {vs : List Value} {rest : List (Nat × Value)} {cs r : List Value} (hp : pget places i = some (off, k)) (hk : Nat.beq vs.length k = true) (hl : Nat.ble (off + vs.length) cs.length = true) (h : Fills places rest (cput cs off vs) r) : Fills places ((i, .agg vs.toArray) :: rest) cs r
theorem fold_put : ∀ (vs : List Value) (j off : Nat) (cs : List Value), off + j + vs.length ≤ cs.length → (vs.zipIdx j).foldl (fun cs (x : Value × Nat) => cs.setIfInBounds (off + x.2) x.1) cs.toArray = (cput cs (off + j) vs).toArray
  | [], j, off, cs, h => by simp [cput]
  | v :: vs, j, off, cs, h => by
    simp only [List.length_cons] at h
    rw [List.zipIdx_cons, List.foldl_cons]
    have h1 : cs.toArray.setIfInBounds (off + j) v = (cs.set (off + j) v).toArray := by simp
    rw [h1, fold_put vs (j + 1) off (cs.set (off + j) v) (by simp; omega)]
    congr 1
    unfold cput
    have h2 : off + j < cs.length := by omega
    have h3 : off + (j + 1) = off + j + 1 := by omega
    rw [h3, List.set_eq_take_append_cons_drop, if_pos h2]
    have h4 : (cs.take (off + j)).length = off + j := by simp; omega
    rw [List.take_append, List.drop_append, h4]
    have e1 : off + j + 1 - (off + j) = 1 := by omega
    have e2 : off + j + 1 + vs.length - (off + j) = vs.length + 1 := by omega
    rw [e1, e2, List.take_of_length_le (by omega : (cs.take (off + j)).length ≤ off + j + 1), List.drop_of_length_le (by omega : (cs.take (off + j)).length ≤ off + j + 1 + vs.length)]
    simp [List.drop_drop]
    congr 1
    omega
theorem Fills.fill {places : List (Nat × Nat)} {parts : List (Nat × Value)} {cs r : List Value} (h : Fills places parts cs r) : Instr.fill (fun i => places[i]?) cs.toArray parts = some r.toArray := by
  induction h with
  | nil => rfl
  | @one i off v rest cs r hp hv hl h ih =>
    have hvc : v.cells = #[v] := by cases v <;> first | rfl | (simp [Value.oneCell'] at hv)
    rw [pget_eq] at hp
    have hl' : off < cs.length := Nat.le_of_ble_eq_true hl
    rw [tset_eq] at ih
    simp [Instr.fill, hp, hvc, ih]
    omega
  | @agg i off k vs rest cs r hp hk hl h ih =>
    rw [pget_eq] at hp
    have hk' := Nat.eq_of_beq_eq_true hk
    have hl' := Nat.le_of_ble_eq_true hl
    have hf := fold_put vs 0 off cs (by omega)
    simp only [Nat.add_zero] at hf
    simp only [Instr.fill, hp]
    have hc : (Value.agg vs.toArray).cells = vs.toArray := rfl
    rw [hc]
    have hz : vs.toArray.zipIdx.foldl (fun cs (x : Value × Nat) => cs.setIfInBounds (off + x.2) x.1) cs.toArray = (cput cs off vs).toArray := by
      rw [← hf]
      rw [← Array.foldl_toList]
      simp
    have hcond : ¬ ((vs.toArray.size ≠ k || off + vs.toArray.size > cs.toArray.size) = true) := by
      simp; omega
    rw [if_neg hcond]
    have hz' : vs.toArray.zipIdx.foldl (fun cs (c, j) => cs.setIfInBounds (off + j) c) cs.toArray = (cput cs off vs).toArray := hz
    rw [hz']
    exact ih
def fillL (places : List (Nat × Nat)) : List (Nat × Value) → List Value → List Value
  | [], cs => cs
  | (i, .agg vs) :: rest, cs => match pget places i with
    | some (off, _) => fillL places rest (cput cs off vs.toList)
    | none => cs
  | (i, v) :: rest, cs => match pget places i with
    | some (off, _) => fillL places rest (tset cs off v)
    | none => cs
def fillOk (places : List (Nat × Nat)) : List (Nat × Value) → List Value → Bool
  | [], _ => true
  | (i, .agg vs) :: rest, cs => match pget places i with
    | some (off, k) => Nat.beq vs.toList.length k && Nat.ble (off + vs.toList.length) cs.length && fillOk places rest (cput cs off vs.toList)
    | none => false
  | (i, v) :: rest, cs => match pget places i with
    | some (off, k) => Nat.beq k 1 && v.oneCell' && Nat.blt off cs.length && fillOk places rest (tset cs off v)
    | none => false
theorem Fills.of_ok {places : List (Nat × Nat)} : ∀ (parts : List (Nat × Value)) (cs : List Value), fillOk places parts cs = true → Fills places parts cs (fillL places parts cs)
  | [], cs, _ => .nil
  | (i, v) :: rest, cs, h => by
    cases v
    case agg vs =>
      unfold fillOk at h
      unfold fillL
      cases hp : pget places i with
      | none => simp [hp] at h
      | some q =>
        obtain ⟨off, k⟩ := q
        simp only [hp, Bool.and_eq_true] at h ⊢
        exact .agg (vs := vs.toList) hp h.1.1 h.1.2 (Fills.of_ok rest _ h.2)
    all_goals
      unfold fillOk at h
      unfold fillL
      cases hp : pget places i with
      | none => simp [hp] at h
      | some q =>
        obtain ⟨off, k⟩ := q
        simp only [hp, Bool.and_eq_true] at h ⊢
        have hk := Nat.eq_of_beq_eq_true h.1.1.1
        subst hk
        exact .one hp h.1.1.2 h.1.2 (Fills.of_ok rest _ h.2)
section
variable {P : Program} {e : Env} {H : Hp} {R : Own} {dst : Option Tmp} {ty : TypeId} {pos : String} {after : Array Edge} {g : Option (Nat × Bool)} {t : TypeId}
def EvalParts (e : Env) : List (Nat × Operand) → List (Nat × Value) → Prop
  | [], [] => True
  | (i, x) :: xs, (j, v) :: vs => i = j ∧ e.eval x = some v ∧ EvalParts e xs vs
  | _, _ => False
theorem EvalParts.map {e : Env} {a : Act} (he : EnvOk e a) : ∀ {xs : List (Nat × Operand)} {vs : List (Nat × Value)}, EvalParts e xs vs → xs.map (fun p => (p.1, a.eval p.2)) = vs
  | [], [], _ => rfl
  | (i, x) :: xs, (j, v) :: vs, h => by
    obtain ⟨rfl, h1, h2⟩ := h
    simp [he.eval h1, EvalParts.map he h2]
  | [], _ :: _, h => h.elim
  | _ :: _, [], h => by simp [EvalParts] at h
theorem Ev_build {places : List (Nat × Nat)} {zc : List Value} {xs : Array (Nat × Operand)} {vs : List (Nat × Value)} [hb : BuildC P t places] [hz : ZeroL P t zc] (hx : EvalParts e xs.toList vs) (hok : fillOk places vs zc = true) :
    Ev P ⟨dst, .build t xs, ty, pos, after, g⟩ e H R (.agg (fillL places vs zc).toArray) := fun a w he _ _ => by
  have hf := Fills.of_ok vs zc hok
  generalize fillL places vs zc = r at *
  obtain ⟨fs, hu, hp⟩ := hb.places
  obtain ⟨zv, hzr, hzc⟩ := hz.zero
  have hm := EvalParts.map he hx
  have hm' : xs.map (fun (i, x) => (i, a.eval x)) = vs.toArray := by
    apply Array.ext'
    simpa using hm
  have hfill := hf.fill
  have hzc' : zv.cells = zc.toArray := by apply Array.ext'; simpa using hzc
  have hpl : (fs.mapM fun f => do pure (f.offset, ← sizeOf f.type) : Sem (Array (Nat × Nat))).run P w = .ok places.toArray w := by
    have h1 := run_places (P := P) w fs.toList places hp
    have h2 : (fs.mapM fun f => do pure (f.offset, ← sizeOf f.type) : Sem (Array (Nat × Nat))) = List.toArray <$> fs.toList.mapM fun f => Prod.mk f.offset <$> sizeOf f.type := by
      rw [Array.mapM_eq_mapM_toList]
      simp
    rw [h2]
    simp only [map_eq_pure_bind, Sem.run_bind, Sem.run_pure] at h1 ⊢
    rw [h1]
    rfl
  have hrun : (Instr.build t vs.toArray).run P w = .ok (.agg r.toArray) w := by
    simp only [Instr.build, Sem.run_bind, hzr, Result.andThen_ok, run_underlying hu, hzc']
    rw [hpl]
    simp only [Result.andThen_ok]
    have : (fun (x : Nat) => places.toArray[x]?) = fun i => places[i]? := by funext i; simp
    rw [this, hfill]
    rfl
  simp only [execOp, hm', Sem.run_bind, hrun, Result.andThen_ok, Sem.run_pure]
end
end
end Go.Proofs.YtnoadopmeoohmaaGreatDoor
