/-
  Whole objects as resources (their element type known), pointers, strings.Builder's operations.
-/
import Derived.Test.YthniohgeojenaaaA7
import Derived.Lib.Builder
import Derived.Lib.UnsafeStr
import Derived.Laws.Externs
import Derived.Laws.Pointers
import Derived.Laws.Append
import Derived.Laws.Small
import Derived.Laws.StructEq
namespace Go.Proofs.Ythniohgeojenaaa
open Go
set_option linter.unusedVariables false
set_option linter.unusedSimpArgs false

/-- a row of variables, all of it -/
abbrev cobj (cs : List Value) (T : TypeId) : Obj := .cells cs.toArray T (0, 0)
class ExtC (P : Program) (f : FuncId) : Type where
  run : ∀ x w, (callFunc f #[x]).run P w = .ok (.value x) w
class LiesC (P : Program) (T : TypeId) (k : Nat) : Type where
  lies : liesAt P P.depth T (k / P.cellsOf T) 0 T 1 = true
class CellsC (P : Program) (T : TypeId) (k : outParam Nat) : Type where
  cells : P.cellsOf T = k

section
variable {P : Program} {e : Env} {H : Hp} {R : Own} {dst : Option Tmp} {ty : TypeId} {pos : String} {after : Array Edge} {g : Option (Nat × Bool)} {x y z : Operand} {v : Value} {t t2 : TypeId} {k b o : Nat}
theorem Ev_loadO1 [hT : TyC P t false k] {i : Nat} {cs : List Value} {T : TypeId} (hx : e.eval x = some (.pointer (some ⟨b, o, none⟩))) (hR : oget R i = some (.obj b (cobj cs T))) (hv : tget cs o = some v) :
    Ev P ⟨dst, .load t x, ty, pos, after, g⟩ e H R v := fun a w he _ hr => by
  have hb : w.heap[b]? = some (cobj cs T) := hr _ (oget_mem hR)
  rw [tget_eq] at hv
  have h1 := run_load_one (P := P) (t := t) (w := w) (b := b) (o := o) (cell_of_heap hb (by simpa using hv))
  simp [execOp, he.eval hx, h1]
/-- division of what is not negative -/
theorem Ev_quop {m n : Int} (hx : e.eval x = some (.int .i64 m)) (hy : e.eval y = some (.int .i64 n)) (h0 : 0 ≤ m ∧ m < 9223372036854775808) (hn : 0 < n) : Ev P ⟨dst, .binOp .quo t x y t2, ty, pos, after, g⟩ e H R (.int .i64 (m / n)) := by
  have e1 : m.tdiv n = m / n := Int.tdiv_eq_ediv_of_nonneg h0.1
  have h1 : 0 ≤ m / n := Int.ediv_nonneg h0.1 (by omega)
  have h2 : m / n ≤ m := Int.ediv_le_self _ h0.1
  exact Ev_quo hx hy (by omega) (by rw [e1]; exact wi64 (by omega))
theorem Ev_remp {m n : Int} (hx : e.eval x = some (.int .i64 m)) (hy : e.eval y = some (.int .i64 n)) (h0 : 0 ≤ m) (hn : 0 < n) : Ev P ⟨dst, .binOp .rem t x y t2, ty, pos, after, g⟩ e H R (.int .i64 (m % n)) := by
  have e1 : m.tmod n = m % n := Int.tmod_eq_emod_of_nonneg h0
  rw [← e1]
  exact Ev_rem hx hy (by omega)
theorem Ev_maxi {k1 : IntKind} {m1 m2 : Int} {ats : Array TypeId} (hx : e.eval x = some (.int k1 m1)) (hy : e.eval y = some (.int k1 m2)) : Ev P ⟨dst, .call { callee := .builtin .max, args := #[x, y], argTypes := ats }, ty, pos, after, g⟩ e H R (.int k1 (if m1 < m2 then m2 else m1)) := fun a w he _ _ => by
  have h1 := run_max_int2 (P := P) w ats ty k1 k1 m1 m2
  simp [execOp, resolve, invoke, builtin, he.eval hx, he.eval hy, h1]
theorem fieldsOf_of {fs : Array Field} (h : P.underlying t = some (.struct fs)) : P.fieldsOf t = fs := by unfold Program.fieldsOf; rw [h]
/-- two structs -/
theorem Ev_neS {xs ys : List Value} {p : Prop} [Decidable p] (hx : e.eval x = some (.agg xs.toArray)) (hy : e.eval y = some (.agg ys.toArray)) (hm : P.eqGuardType P.depth t = false) (hq : ∀ w, (Op.equalIn 10000 t (.agg xs.toArray) (.agg ys.toArray)).run P w = .ok (decide p) w) :
    Ev P ⟨dst, .binOp .neq t x y t2, ty, pos, after, g⟩ e H R (.bool (decide (¬ p))) := fun a w he _ _ => by
  simp only [execOp, he.eval hx, he.eval hy, Sem.run_bind, run_eqGuard_agg (P := P) w _ t x y xs.toArray ys.toArray hm, run_neq_struct (P := P) w t xs.toArray ys.toArray, hq w, Result.andThen_ok, Sem.run_pure, decide_not]
theorem Ev_eqS {xs ys : List Value} {p : Prop} [Decidable p] (hx : e.eval x = some (.agg xs.toArray)) (hy : e.eval y = some (.agg ys.toArray)) (hm : P.eqGuardType P.depth t = false) (hq : ∀ w, (Op.equalIn 10000 t (.agg xs.toArray) (.agg ys.toArray)).run P w = .ok (decide p) w) :
    Ev P ⟨dst, .binOp .eql t x y t2, ty, pos, after, g⟩ e H R (.bool (decide p)) := fun a w he _ _ => by
  simp only [execOp, he.eval hx, he.eval hy, Sem.run_bind, run_eqGuard_agg (P := P) w _ t x y xs.toArray ys.toArray hm, run_eql_struct (P := P) w t xs.toArray ys.toArray, hq w, Result.andThen_ok, Sem.run_pure]
theorem Ev_ptrnil {te : TypeId} {q : Option Addr} [ht : UndC P t (.pointer te)] (hx : e.eval x = some (.pointer q)) (hy : e.eval y = some (.pointer none)) : Ev P ⟨dst, .binOp .eql t x y t2, ty, pos, after, g⟩ e H R (.bool q.isNone) := fun a w he _ _ => by
  have hp : P.underlying t = some (.pointer (P.pointee t)) := by simp [Program.pointee, ht.und]
  have h1 := run_equal_pointer_nil (P := P) w t q hp
  simp [execOp, he.eval hx, he.eval hy, eqGuard_at_pointer, binOp, h1]
theorem Ev_ptrsame {te bytes : Nat} {q : Addr} [ht : UndC P t (.pointer te)] [hI : InfoC P te bytes] (hx : e.eval x = some (.pointer (some q))) (hy : e.eval y = some (.pointer (some q))) : Ev P ⟨dst, .binOp .neq t x y t2, ty, pos, after, g⟩ e H R (.bool false) := fun a w he _ _ => by
  obtain ⟨i, hi, _⟩ := hI.info
  have h1 := Lib.run_neq_ptr_same (P := P) w q ht.und (typeInfo_of_run hi)
  simp [execOp, he.eval hx, he.eval hy, eqGuard_at_pointer, h1]
theorem shape_of {w : World} {cs : List Value} {T : TypeId} (hb : w.heap[b]? = some (cobj cs T)) : w.shape? b = some (T, cs.length) := by simp [World.shape?, hb]
/-- *T to unsafe.Pointer and back, at a variable of its own -/
theorem Ev_toUnsafe {te bytes s : Nat} {ag : Bool} {zc : List Value} {i : Nat} {cs : List Value} {T : TypeId} [hs : UndC P t (.pointer te)] [hd : UndC P t2 .unsafePointer] [hI : InfoC P te bytes] [hT : TyC P te ag s] [hz : ZeroL P te zc]
    (hx : e.eval x = some (.pointer (some ⟨b, 0, none⟩))) (hR : oget R i = some (.obj b (cobj cs T))) (hs0 : Nat.blt 0 s = true) (hc0 : Nat.blt 0 cs.length = true) :
    Ev P ⟨dst, .convert t t2 x, ty, pos, after, g⟩ e H R (.pointer (some ⟨b, 0, none⟩)) := fun a w he _ hr => by
  have hb : w.heap[b]? = some (cobj cs T) := hr _ (oget_mem hR)
  obtain ⟨j, z, hj, hjs, _⟩ := info_of (P := P) (t := te) (hT := hT) (hI := hI) (hz := hz)
  have h0 : 0 < s := Nat.le_of_ble_eq_true hs0
  have h1 := Lib.run_to_unsafe (P := P) w ⟨b, 0, none⟩ hs.und hd.und hj (by omega) (shape_of hb) (Nat.le_of_ble_eq_true hc0)
  simp only [execOp, he.eval hx, Sem.run_bind, h1, Result.andThen_ok, Sem.run_pure]
theorem Ev_fromUnsafe {te bytes s : Nat} {ag : Bool} {zc : List Value} {i : Nat} {cs : List Value} [hs : UndC P t .unsafePointer] [hd : UndC P t2 (.pointer te)] [hI : InfoC P te bytes] [hT : TyC P te ag s] [hz : ZeroL P te zc] [hl : LiesC P te s]
    (hx : e.eval x = some (.pointer (some ⟨b, 0, none⟩))) (hR : oget R i = some (.obj b (cobj cs te))) (hcs : Nat.beq cs.length s = true) :
    Ev P ⟨dst, .convert t t2 x, ty, pos, after, g⟩ e H R (.pointer (some ⟨b, 0, none⟩)) := fun a w he _ hr => by
  have hb : w.heap[b]? = some (cobj cs te) := hr _ (oget_mem hR)
  obtain ⟨j, z, hj, hjs, _⟩ := info_of (P := P) (t := te) (hT := hT) (hI := hI) (hz := hz)
  have hsh := shape_of hb
  rw [Nat.eq_of_beq_eq_true hcs] at hsh
  have h1 := Lib.run_from_unsafe (P := P) w ⟨b, 0, none⟩ hs.und hd.und hj hsh hl.lies
  simp only [execOp, he.eval hx, Sem.run_bind, h1, Result.andThen_ok, Sem.run_pure]
/-- a call of a library entry that hands its argument back -/
theorem Ev_ext {f : FuncId} {at_ : Array TypeId} [hf : ExtC P f] (hx : e.eval x = some v) : Ev P ⟨dst, .call { callee := .value (.func f), args := #[x], argTypes := at_ }, ty, pos, after, g⟩ e H R v := fun a w he _ _ => by
  have h1 := hf.run v w
  have hm : (#[x] : Array Operand).map a.eval = #[v] := by simp [he.eval hx]
  simp only [execOp, resolve, hm, Act.eval, Deferred.ofValue, Sem.run_bind, Sem.run_pure, Result.andThen_ok, invoke, List.append_toArray, List.nil_append, List.append_nil, Array.empty_append, h1]
theorem Ev_sliceData {c n : Nat} {ad : Addr} {ats : Array TypeId} (hx : e.eval x = some (.slice (some ad) n c)) (hc : 0 < c) : Ev P ⟨dst, .call { callee := .builtin .unsafeSliceData, args := #[x], argTypes := ats }, ty, pos, after, g⟩ e H R (.pointer (some ad)) := fun a w he _ _ => by
  have h1 := Lib.run_unsafeSliceData_row (P := P) w ats ty ad n c (by omega)
  simp [execOp, resolve, invoke, builtin, he.eval hx, h1]
theorem Ev_sliceDataNil {c n : Nat} {ats : Array TypeId} (hx : e.eval x = some (.slice none n c)) : Ev P ⟨dst, .call { callee := .builtin .unsafeSliceData, args := #[x], argTypes := ats }, ty, pos, after, g⟩ e H R (.pointer none) := fun a w he _ _ => by
  have h1 := Lib.run_unsafeSliceData_nil (P := P) w ats ty n c
  simp [execOp, resolve, invoke, builtin, he.eval hx, h1]
end

section
variable {F : Fence} {P : Program} {c : Ctx} {o : Oper} {K : SP} {n : Nat} {e : Env} {H : Hp} {M M' L : Own} {D : List Deferred} {dst : Option Tmp} {d : Nat} {ty : TypeId} {pos : String} {after : Array Edge} {g : Option (Nat × Bool)} {x y z : Operand} {v : Value} {t t2 : TypeId} {k b off : Nat}
theorem Holds.allocO {c : Ctx} {H : Hp} {R : Own} {w : World} (h : Holds c H R w) (o : Obj) : Holds c H (.obj w.heap.size o :: R) (w.alloc o) := by
  refine Holds.frameH (I := []) (I' := [.obj w.heap.size o]) (R := R) h (Moves.alloc w _ _) (Own.ok_one (heap_alloc_new w o)) (Own.sep_one _) (fun b hb => ?_)
  simp [Own.blocks, Res.blocks] at hb
  exact .inl (by omega)
/-- var x T, its type known -/
theorem Ef_allocO (hF : WideF F) {zc : List Value} [hz : ZeroL P t zc] (hn : Nat.blt d n = true) (k : ∀ b, K ⟨n, (d, .pointer (some ⟨b, 0, none⟩)) :: e, H, .obj b (cobj zc t) :: M, L, D⟩) :
    Ef F P c ⟨some d, .alloc t, ty, pos, after, g⟩ ⟨n, e, H, M, L, D⟩ K := Ef_of_run hF fun a w hs => by
  obtain ⟨zv, hrun, hc⟩ := hz.zero
  refine ⟨_, w.alloc (cobj zc t), ?_, _, ok_put hs hn (hs.holds.allocO _), k _⟩
  subst hc
  simp [execOp, Instr.alloc, hrun, newVar, newRow, cobj]
theorem Holds.setObj {R : Own} {w : World} {cs cs' : List Value} {T : TypeId} (h : Holds c H (.obj b (cobj cs T) :: R) w) : Holds c H (.obj b (cobj cs' T) :: R) (w.setRow b cs'.toArray) := by
  have hb : w.heap[b]? = some (cobj cs T) := h.own (.obj b (cobj cs T)) (by simp)
  refine Holds.frameH (I := [.obj b (cobj cs T)]) (I' := [.obj b (cobj cs' T)]) (R := R) h ?_ (Own.ok_one (setRow_heap w b _ _ T _ hb)) (Own.sep_one _) (fun b' hb' => .inr (by simpa [Own.blocks, Res.blocks] using hb'))
  exact (Moves.setRow w b _).mono (by simp [Own.blocks, Res.blocks])
theorem Ef_storeO1 (hF : WideF F) {ag : Bool} {cs cs' : List Value} {T : TypeId} [hT : TyC P t ag 1] (hx : e.eval x = some (.pointer (some ⟨b, off, none⟩))) (hy : e.eval y = some v) (hv : v.oneCell' = true) (hl : Nat.blt off cs.length = true) (hc : tset cs off v = cs')
    (k : K ⟨n, e, H, .obj b (cobj cs' T) :: M, L, D⟩) : Ef F P c ⟨none, .store t x y, ty, pos, after, g⟩ ⟨n, e, H, .obj b (cobj cs T) :: M, L, D⟩ K := Ef_of_skip hF (by simp) fun a w hs => by
  have hb : w.heap[b]? = some (cobj cs T) := hs.holds.own (.obj b (cobj cs T)) (by simp)
  have hlt : off < cs.length := Nat.le_of_ble_eq_true hl
  have hvc : v.cells.toList = [v] := by cases v <;> first | rfl | (simp [Value.oneCell'] at hv)
  haveI : TyC P t ag [v].length := hT
  have hr := run_store_box (P := P) (t := t) (off := off) hb (show off + 1 ≤ cs.length from hlt) (by simpa using hv) hvc
  have he : cput cs off [v] = cs' := by
    rw [← hc, tset_eq]
    simp only [cput, List.length_singleton]
    rw [List.set_eq_take_append_cons_drop]
    simp [hlt]
  rw [he] at hr
  refine ⟨_, ?_, _, ok_keep hs (hs.holds.setObj (cs' := cs')), k⟩
  simp [execOp, hs.env.eval hx, hs.env.eval hy, hr]

/-! ### a buffer of bytes -/
abbrev bcells (l : List UInt8) : List Value := Lib.byteCells l
/-- the value v is a slice of the bytes l; R is what it owns -/
def BufIs (T : TypeId) (v : Value) (R : Own) (l : List UInt8) : Prop :=
  (v = .slice none 0 0 ∧ R = [] ∧ l = []) ∨ ∃ b cap rest, v = .slice (some ⟨b, 0, none⟩) l.length cap ∧ R = [.obj b (cobj (bcells l ++ rest) T)] ∧ l.length ≤ cap ∧ 0 < cap ∧ (bcells l ++ rest).length = cap

theorem strCells_sv (s : List UInt8) : Lib.strCells ⟨s.toArray⟩ = bcells s := by simp [Lib.strCells, Lib.byteCells]
theorem bcells_one (s : List UInt8) : ∀ u ∈ bcells s, u.oneCell' = true := by
  intro u hu
  simp only [Lib.byteCells, List.mem_map] at hu
  obtain ⟨b, _, rfl⟩ := hu
  rfl

/-- append(buf, s...): the buffer stands first -/
theorem Ef_appendS (hF : WideF F) {el bytes : Nat} {R : Own} {l s : List UInt8} {zc : List Value} [ht : UndC P t (.slice el)] [hu : UndC P t2 .string] [hT : TyC P el false 1] [hI : InfoC P el bytes] [hz : ZeroL P el zc]
    (hx : e.eval x = some v) (hy : e.eval y = some (sv s)) (hB : BufIs el v R l) (hb1 : Nat.beq bytes 1 = true) (hz1 : Nat.beq zc.length 1 = true) (hlen : l.length + s.length ≤ 70368744177664) (hn : Nat.blt d n = true)
    (kk : ∀ v' R', BufIs el v' R' (l ++ s) → K ⟨n, (d, v') :: e, H, R' ++ M, L, D⟩) :
    Ef F P c ⟨some d, .call { callee := .builtin .append, args := #[x, y], argTypes := #[t, t2] }, ty, pos, after, g⟩ ⟨n, e, H, R ++ M, L, D⟩ K := Ef_of_run hF fun a w hs => by
  obtain ⟨i, zv, hi, hsz, hby, hzz, hzc⟩ := info_of (P := P) (t := el) (hT := hT) (hI := hI) (hz := hz)
  have hb1' := Nat.eq_of_beq_eq_true hb1
  have hzl : zv.cells.size = 1 := by rw [← Nat.eq_of_beq_eq_true hz1, ← hzc]; simp
  subst hby
  have hss : (ByteArray.mk s.toArray).size = s.length := bs_size s
  have hexec : ∀ {u : Value} {w' : World}, (Builtin.append_ #[t, t2] ty #[v, sv s]).run P w = .ok u w' → (execOp a.eval ⟨some d, .call { callee := .builtin .append, args := #[x, y], argTypes := #[t, t2] }, ty, pos, after, g⟩).run P w = .ok (.value u) w' := fun h => by
    simp [execOp, resolve, invoke, builtin, hs.env.eval hx, hs.env.eval hy, Sem.run_bind, h]
  have hzero : ∀ q, (Builtin.zeroCells zv.cells q).toList.length = q := fun q => by rw [Array.length_toList, size_zeroCells, hzl, Nat.mul_one]
  have hbl : ∀ l : List UInt8, (bcells l).length = l.length := fun l => Lib.byteCells_length l
  rcases hB with ⟨rfl, rfl, rfl⟩ | ⟨b, cap, rest, rfl, rfl, hc, hc0, hl⟩
  · by_cases hs0 : s.length = 0
    · have : s = [] := List.eq_nil_of_length_eq_zero hs0
      subst this
      refine ⟨.slice none 0 0, w, hexec ?_, _, ok_put hs hn (M'' := [] ++ M) hs.holds, kk _ _ (.inl ⟨rfl, rfl, rfl⟩)⟩
      have h0 : (ByteArray.mk #[]).size = 0 := rfl
      have hf := Lib.run_firstCells_string (P := P) w 1 ⟨#[]⟩
      rw [h0] at hf
      simp [Builtin.append_, ht.run, hu.run, sizeOf, typeInfo, hi, hsz, Builtin.lenOf, h0, hf]
    · have hr := run_append_nil_string (P := P) w t t2 ty el i zv ht.und hu.und hi hzz ⟨s.toArray⟩ (by omega) (by rw [hss]; omega) (by rw [hss, hb1']; omega)
      rw [hss] at hr
      have hge := grownCap_ge w s.length 0 el
      have ea : (ByteArray.mk s.toArray).data.map (fun b => Value.int .u8 b.toNat) ++ Builtin.zeroCells zv.cells (grownCap w s.length 0 el - s.length) = (bcells s ++ (Builtin.zeroCells zv.cells (grownCap w s.length 0 el - s.length)).toList).toArray := by apply Array.ext'; simp [Lib.byteCells]
      rw [ea] at hr
      have hh := (hs.holds.drew).allocO (cobj (bcells s ++ (Builtin.zeroCells zv.cells (grownCap w s.length 0 el - s.length)).toList) el)
      refine ⟨_, _, hexec hr, _, ok_put hs hn (M'' := [.obj w.heap.size (cobj (bcells s ++ (Builtin.zeroCells zv.cells (grownCap w s.length 0 el - s.length)).toList) el)] ++ M) (by simpa using hh), kk _ _ (.inr ⟨w.heap.size, grownCap w s.length 0 el, _, by simp, rfl, by simpa using hge, by omega, ?_⟩)⟩
      simp only [List.nil_append, List.length_append, hzero, hbl]
      omega
  · have hb : w.heap[b]? = some (cobj (bcells l ++ rest) el) := hs.holds.own (.obj b _) (by simp)
    by_cases hroom : l.length + s.length ≤ cap
    · have hr := Lib.run_append_room_string (P := P) w t t2 ty el i ht.und hu.und hi hsz b l.length cap (bcells l ++ rest).toArray hb ⟨s.toArray⟩ (by rw [hss]; exact hroom) (by rw [hss]; simp only [List.size_toArray, hl]; exact hroom)
      rw [hss, strCells_sv] at hr
      have e1 : (bcells l ++ rest).toArray.toList.take l.length ++ bcells s ++ (bcells l ++ rest).toArray.toList.drop (l.length + s.length) = bcells (l ++ s) ++ rest.drop s.length := by
        have e0 : (bcells l ++ rest).take l.length = bcells l := by rw [← hbl l, List.take_left]
        have e2 : (bcells l ++ rest).drop (l.length + s.length) = rest.drop s.length := by rw [← List.drop_drop, ← hbl l, List.drop_left]
        simp only [e0, e2, Lib.byteCells_append]
      rw [e1] at hr
      have hh := Holds.setObj (R := M ++ L) (cs' := bcells (l ++ s) ++ rest.drop s.length) (by simpa using hs.holds)
      refine ⟨_, _, hexec hr, _, ok_put hs hn (M'' := [.obj b (cobj (bcells (l ++ s) ++ rest.drop s.length) el)] ++ M) (by simpa using hh), kk _ _ (.inr ⟨b, cap, _, by simp, rfl, by simpa using hroom, hc0, ?_⟩)⟩
      simp only [List.length_append, List.length_drop, hbl] at hl ⊢
      omega
    · have hr := Lib.run_append_grow_string (P := P) w t t2 ty el i zv ht.und hu.und hi hzz ⟨b, 0, none⟩ l.length cap (bcells l) (by rw [hsz, hbl, Nat.mul_one]) (fun j u hj => by
          rw [Addr.add_lit]
          refine cell_of_heap hb ?_
          simp only [Nat.zero_add, List.getElem?_toArray]
          rw [List.getElem?_append_left (List.getElem?_eq_some_iff.1 hj).1]
          exact hj) ⟨s.toArray⟩ (by rw [hss]; omega) (by rw [hss]; omega) (growslice_fits (by rw [hss]; omega) (by rw [hss, hb1']; omega))
      rw [hss, strCells_sv] at hr
      have hge := grownCap_ge w (l.length + s.length) cap el
      have ea : (bcells l).toArray ++ (bcells s).toArray ++ Builtin.zeroCells zv.cells (grownCap w (l.length + s.length) cap el - (l.length + s.length)) = (bcells (l ++ s) ++ (Builtin.zeroCells zv.cells (grownCap w (l.length + s.length) cap el - (l.length + s.length))).toList).toArray := by apply Array.ext'; simp [Lib.byteCells]
      rw [ea] at hr
      have hh0 : Holds c H (M ++ L) w := hs.holds.sublist (by simp)
      have hh := (hh0.drew).allocO (cobj (bcells (l ++ s) ++ (Builtin.zeroCells zv.cells (grownCap w (l.length + s.length) cap el - (l.length + s.length))).toList) el)
      refine ⟨_, _, hexec hr, _, ok_put hs hn (M'' := [.obj w.heap.size (cobj (bcells (l ++ s) ++ (Builtin.zeroCells zv.cells (grownCap w (l.length + s.length) cap el - (l.length + s.length))).toList) el)] ++ M) (by simpa using hh), kk _ _ (.inr ⟨w.heap.size, grownCap w (l.length + s.length) cap el, _, by simp, rfl, by simpa using hge, by omega, ?_⟩)⟩
      simp only [List.length_append, hzero, hbl]
      omega

theorem Ef_perm {s : Sta} {M1 M2 : Own} (h : M1.Perm M2) (k : Ef F P c o ⟨n, e, H, M2, L, D⟩ K) : Ef F P c o ⟨n, e, H, M1, L, D⟩ K := fun a w hs =>
  k a w ⟨hs.defers, hs.size, hs.env, own_perm (h.append_right L) hs.holds⟩
theorem Ef_f1 {r0 r1 : Res} (k : Ef F P c o ⟨n, e, H, r1 :: r0 :: M, L, D⟩ K) : Ef F P c o ⟨n, e, H, r0 :: r1 :: M, L, D⟩ K := fun a w hs => k a w ⟨hs.defers, hs.size, hs.env, own_perm ((perm_mid [r0] r1 M).append_right L) hs.holds⟩
theorem Ef_f2 {r0 r1 r2 : Res} (k : Ef F P c o ⟨n, e, H, r2 :: r0 :: r1 :: M, L, D⟩ K) : Ef F P c o ⟨n, e, H, r0 :: r1 :: r2 :: M, L, D⟩ K := fun a w hs => k a w ⟨hs.defers, hs.size, hs.env, own_perm ((perm_mid [r0, r1] r2 M).append_right L) hs.holds⟩
theorem Ef_f3 {r0 r1 r2 r3 : Res} (k : Ef F P c o ⟨n, e, H, r3 :: r0 :: r1 :: r2 :: M, L, D⟩ K) : Ef F P c o ⟨n, e, H, r0 :: r1 :: r2 :: r3 :: M, L, D⟩ K := fun a w hs => k a w ⟨hs.defers, hs.size, hs.env, own_perm ((perm_mid [r0, r1, r2] r3 M).append_right L) hs.holds⟩
theorem Ef_mapK {K' : SP} {s : Sta} (h : Ef F P c o s K') (hk : ∀ s a w, s.ok c a w → K' s → ∃ s', s'.ok c a w ∧ K s') : Ef F P c o s K := fun a w hs =>
  Oper.wpIn_both (fun a w ⟨s', hs', k⟩ => hk s' a w hs' k) (fun _ _ _ q => q) (h a w hs)
/-- .. the buffer stands behind another block -/
theorem Ef_appendS1 (hF : WideF F) {el bytes : Nat} {r0 : Res} {R : Own} {l s : List UInt8} {zc : List Value} [ht : UndC P t (.slice el)] [hu : UndC P t2 .string] [hT : TyC P el false 1] [hI : InfoC P el bytes] [hz : ZeroL P el zc]
    (hx : e.eval x = some v) (hy : e.eval y = some (sv s)) (hB : BufIs el v R l) (hb1 : Nat.beq bytes 1 = true) (hz1 : Nat.beq zc.length 1 = true) (hlen : l.length + s.length ≤ 70368744177664) (hn : Nat.blt d n = true)
    (kk : ∀ v' R', BufIs el v' R' (l ++ s) → K ⟨n, (d, v') :: e, H, r0 :: R', L, D⟩) :
    Ef F P c ⟨some d, .call { callee := .builtin .append, args := #[x, y], argTypes := #[t, t2] }, ty, pos, after, g⟩ ⟨n, e, H, r0 :: R, L, D⟩ K := by
  refine Ef_perm (s := ⟨n, e, H, r0 :: R, L, D⟩) (M2 := R ++ [r0]) (List.perm_append_comm (l₁ := [r0]) (l₂ := R)) ?_
  refine Ef_mapK (K' := fun s' => ∃ v' R', BufIs el v' R' (l ++ s) ∧ s' = ⟨n, (d, v') :: e, H, R' ++ [r0], L, D⟩) (Ef_appendS hF hx hy hB hb1 hz1 hlen hn fun v' R' hB' => ⟨v', R', hB', rfl⟩) ?_
  rintro s a w hs ⟨v', R', hB', rfl⟩
  exact ⟨⟨n, (d, v') :: e, H, r0 :: R', L, D⟩, ⟨hs.defers, hs.size, hs.env, own_perm ((List.perm_append_comm (l₁ := R') (l₂ := [r0])).append_right L) hs.holds⟩, kk v' R' hB'⟩

/-- unsafe.String(ptr, len) of a buffer: its bytes; the buffer is given up -/
theorem Moves.freeze (w : World) (a : Addr) (m : Nat) : Moves w (w.freeze a m) [a.block] := by
  unfold World.freeze
  split
  · exact Moves.refl _ _
  · exact ⟨rfl, rfl, rfl, by simp, fun k hk hn => by
      simp only [Array.getElem?_modify]
      rw [if_neg (fun h => hn (by simp [h]))]⟩
theorem Ef_ev (hF : WideF F) (h : Ev P o e H (M ++ L) v) (hd : o.dst = some d) (hn : Nat.blt d n = true) (kk : K ⟨n, (d, v) :: e, H, M, L, D⟩) : Ef F P c o ⟨n, e, H, M, L, D⟩ K := Ef_of_run hF fun a w hs =>
  ⟨v, w, h a w hs.env hs.holds.mem hs.holds.own, ⟨n, (d, v) :: e, H, M, L, D⟩, by rw [hd]; exact ok_put hs hn hs.holds, kk⟩
theorem Ev_strNil {R : Own} {pt t3 : TypeId} {q : Option Addr} (hx : e.eval x = some (.pointer q)) (hy : e.eval y = some (.int .i64 0)) : Ev P ⟨dst, .call { callee := .builtin .unsafeString, args := #[x, y], argTypes := #[pt, t3] }, ty, pos, after, g⟩ e H R (sv []) := fun a w he _ _ => by
  have h1 := Lib.run_unsafeString_none (P := P) w pt t3 ty q
  simp [execOp, resolve, invoke, builtin, he.eval hx, he.eval hy, h1]
  rfl
theorem Ef_bufString (hF : WideF F) {el pt : Nat} {l : List UInt8} {rest : List Value} {t3 : TypeId} [hp : UndC P pt (.pointer el)] [hcl : CellsC P el 1]
    (hx : e.eval x = some (.pointer (some ⟨b, 0, none⟩))) (hy : e.eval y = some (.int .i64 l.length)) (hlen : l.length ≤ 9223372036854775807) (hn : Nat.blt d n = true)
    (kk : K ⟨n, (d, sv l) :: e, H, M, L, D⟩) :
    Ef F P c ⟨some d, .call { callee := .builtin .unsafeString, args := #[x, y], argTypes := #[pt, t3] }, ty, pos, after, g⟩ ⟨n, e, H, .obj b (cobj (bcells l ++ rest) el) :: M, L, D⟩ K := Ef_of_run hF fun a w hs => by
  have hb : w.heap[b]? = some (cobj (bcells l ++ rest) el) := hs.holds.own (.obj b _) (by simp)
  have hexec : ∀ {u : Value} {w' : World}, (Builtin.unsafeString_ #[pt, t3] ty #[.pointer (some ⟨b, 0, none⟩), .int .i64 l.length]).run P w = .ok u w' → (execOp a.eval ⟨some d, .call { callee := .builtin .unsafeString, args := #[x, y], argTypes := #[pt, t3] }, ty, pos, after, g⟩).run P w = .ok (.value u) w' := fun h => by
    simp [execOp, resolve, invoke, builtin, hs.env.eval hx, hs.env.eval hy, Sem.run_bind, h]
  by_cases h0 : l = []
  · subst h0
    exact ⟨_, w, hexec (Lib.run_unsafeString_none (P := P) w pt t3 ty _), _, ok_put hs hn (hs.holds.sublist (by simp)), kk⟩
  · have hr := Lib.run_unsafeString_row (P := P) w pt t3 ty el hp.und hcl.cells b (bcells l ++ rest).length (shape_of hb) l h0 (by simp [Lib.byteCells]) hlen (fun j u hj => by
      rw [Addr.add_lit]
      refine cell_of_heap hb ?_
      have hjl := (List.getElem?_eq_some_iff.1 hj).1
      simp only [Nat.zero_add, List.getElem?_toArray]
      rw [List.getElem?_append_left (by simpa [Lib.byteCells] using hjl)]
      simp [Lib.byteCells, hj])
    refine ⟨_, _, hexec hr, _, ok_put hs hn (M'' := M) ?_, kk⟩
    have hf : Holds c H ([] ++ (M ++ L)) (w.freeze ⟨b, 0, none⟩ l.length) := Holds.frameH (I := [.obj b (cobj (bcells l ++ rest) el)]) (I' := []) (R := M ++ L) (by simpa using hs.holds)
      ((Moves.freeze w ⟨b, 0, none⟩ l.length).mono (by simp [Own.blocks, Res.blocks])) (Own.ok_nil _) Own.sep_nil (fun b' hb' => by cases hb')
    simpa using hf
/-- a call whose owned blocks stand behind another one -/
theorem Ef_call1 (hF : WideF F) {f : FuncId} {args : List Value} {I : Own} {r0 : Res} {post : Value → Hp → Own → Prop} {at_ : Array TypeId} [hf : FunC P f] {xs : Array Operand} (h : Fn P f args H I post) (hx : EvalAll e xs.toList args) (hn : Nat.blt d n = true)
    (k : ∀ v H' I', HLe H H' → post v H' I' → K ⟨n, (d, v) :: e, H', r0 :: I', L, D⟩) :
    Ef F P c ⟨some d, .call { callee := .value (.func f), args := xs, argTypes := at_ }, ty, pos, after, g⟩ ⟨n, e, H, r0 :: I, L, D⟩ K := by
  refine Ef_perm (s := ⟨n, e, H, r0 :: I, L, D⟩) (M2 := I ++ [r0]) (List.perm_append_comm (l₁ := [r0]) (l₂ := I)) ?_
  refine Ef_mapK (K' := fun s' => ∃ v H' I', HLe H H' ∧ post v H' I' ∧ s' = ⟨n, (d, v) :: e, H', I' ++ [r0], L, D⟩) (Ef_call (M' := [r0]) hF h hx hn fun v H' I' hle hp => ⟨v, H', I', hle, hp, rfl⟩) ?_
  rintro s a w hs ⟨v, H', I', hle, hp, rfl⟩
  exact ⟨⟨n, (d, v) :: e, H', r0 :: I', L, D⟩, ⟨hs.defers, hs.size, hs.env, own_perm ((List.perm_append_comm (l₁ := I') (l₂ := [r0])).append_right L) hs.holds⟩, k v H' I' hle hp⟩
/-- .. are all that is owned -/
theorem Ef_call0 (hF : WideF F) {f : FuncId} {args : List Value} {I : Own} {post : Value → Hp → Own → Prop} {at_ : Array TypeId} [hf : FunC P f] {xs : Array Operand} (h : Fn P f args H I post) (hx : EvalAll e xs.toList args) (hn : Nat.blt d n = true)
    (k : ∀ v H' I', HLe H H' → post v H' I' → K ⟨n, (d, v) :: e, H', I', L, D⟩) :
    Ef F P c ⟨some d, .call { callee := .value (.func f), args := xs, argTypes := at_ }, ty, pos, after, g⟩ ⟨n, e, H, I, L, D⟩ K := by
  have h1 := Ef_call (c := c) (K := K) (L := L) (D := D) (ty := ty) (pos := pos) (after := after) (g := g) (at_ := at_) (M' := []) hF h hx hn fun v H' I' hle hp => by simpa using k v H' I' hle hp
  simpa using h1
theorem Own.sub_tail (r : Res) (R : Own) : Own.sub (R ++ []) (r :: R ++ []) := by
  refine ⟨(List.range R.length).map (· + 1), ?_, ?_, ?_⟩
  · exact List.Pairwise.map _ (fun a b h => by omega) (List.nodup_range (n := R.length))
  · intro i hi
    obtain ⟨j, hj, rfl⟩ := List.mem_map.1 hi
    have := List.mem_range.1 hj
    simp; omega
  · rw [List.map_map]
    apply List.ext_getElem?
    intro i
    by_cases hi : i < R.length
    · simp [hi]
    · simp [hi, List.getElem?_eq_none (Nat.le_of_not_lt hi)]
/-- a call of a function value without captured variables -/
theorem Ef_callv (hF : WideF F) {f : FuncId} {args : List Value} {I : Own} {post : Value → Hp → Own → Prop} {at_ : Array TypeId} [hf : FunC P f] {xs : Array Operand} (h : Fn P f args H I post) (hz : e.eval z = some (.func (.func f) #[] #[])) (hx : EvalAll e xs.toList args) (hn : Nat.blt d n = true)
    (k : ∀ v H' I', HLe H H' → post v H' I' → K ⟨n, (d, v) :: e, H', I' ++ M', L, D⟩) :
    Ef F P c ⟨some d, .call { callee := .value z, args := xs, argTypes := at_ }, ty, pos, after, g⟩ ⟨n, e, H, I ++ M', L, D⟩ K := by
  intro a w hs
  have hm := EvalAll.map hs.env hx
  have hm' : xs.map a.eval = args.toArray := by
    apply Array.ext'
    simpa using hm
  have hz' := hs.env.eval hz
  have hr : (execOp a.eval ⟨some d, .call { callee := .value z, args := xs, argTypes := at_ }, ty, pos, after, g⟩).run P w = .ok (.enter f args.toArray) w := by
    simp only [execOp, resolve, hm', hz', Deferred.ofValue, Sem.run_bind, Sem.run_pure, Result.andThen_ok, invoke, List.append_toArray, List.nil_append]
    rw [List.append_nil, hf.run]
  refine ⟨fun f _ => hF.fn f, ?_⟩
  rw [Oper.semAt_eq _ _ _ (by simp), hr]
  refine ⟨(fun hd => (by rw [hF.depth] at hd; cases hd)), callsIn_of_calls hF ?_⟩
  have hh0 : Holds c H (I ++ (M' ++ L)) w := by have := hs.holds; simpa [List.append_assoc] using this
  refine (Calls_of_Fn h hh0).mono ?_
  rintro e' w' ⟨v, H', I', he, hle, hh, hq⟩
  subst he
  exact ⟨_, ok_put hs hn (M'' := I' ++ M') (by simpa [List.append_assoc] using hh), k v H' I' hle hq⟩
theorem Ef_callvp (hF : WideF F) {f : FuncId} {args : List Value} {u : Value} {at_ : Array TypeId} [hf : FunC P f] {xs : Array Operand} (h : FnP P f args H u) (hz : e.eval z = some (.func (.func f) #[] #[])) (hx : EvalAll e xs.toList args) (hn : Nat.blt d n = true)
    (k : K ⟨n, (d, u) :: e, H, M, L, D⟩) :
    Ef F P c ⟨some d, .call { callee := .value z, args := xs, argTypes := at_ }, ty, pos, after, g⟩ ⟨n, e, H, M, L, D⟩ K :=
  Ef_callv (I := []) (M' := M) hF h hz hx hn fun v' H' I' _ ⟨h1, h2, h3⟩ => by subst h1 h2 h3; exact k
end
end Go.Proofs.Ythniohgeojenaaa
