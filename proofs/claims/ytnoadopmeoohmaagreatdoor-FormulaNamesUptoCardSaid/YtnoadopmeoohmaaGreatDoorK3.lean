/-
  Operations that numerals need: strings to bytes and back, arrays as values, maps written out.
-/
import Derived.Test.YtnoadopmeoohmaaGreatDoorE1
import Derived.Test.YtnoadopmeoohmaaGreatDoorP0
import Derived.Test.YtnoadopmeoohmaaGreatDoorK2
import Derived.Test.YtnoadopmeoohmaaGreatDoorT2
import Derived.Laws.IdiomStrings
namespace Go.Proofs.YtnoadopmeoohmaaGreatDoor
open Go
set_option linter.unusedVariables false
set_option linter.unusedSimpArgs false
section
variable {F : Fence} {P : Program} {c : Ctx} {ops : List Oper} {K : SP} {X : List (Nat × SP)} {R : SP}
end
section
variable {P : Program} {e : Env} {H : Hp} {R : Own} {dst : Option Tmp} {ty : TypeId} {pos : String} {after : Array Edge} {g : Option (Nat × Bool)} {x y z : Operand} {v : Value} {t t2 : TypeId} {k b o : Nat}
/-- a slice of one byte, as a string -/
theorem Ev_conv1 {i el : Nat} {m : Int} {cp : Nat} [hs : UndC P t (.slice el)] [he : UndC P el (.int .u8)] [hd : UndC P t2 .string] (hx : e.eval x = some (.slice (some ⟨b, 0, none⟩) 1 cp)) (hR : oget R i = some (.row (.slice (some ⟨b, 0, none⟩) 1 cp) 1 [[.int .u8 m]])) (hm : 0 ≤ m ∧ m < 256) :
    Ev P ⟨dst, .convert t t2 x, ty, pos, after, g⟩ e H R (sv [UInt8.ofNat m.toNat]) := fun a w hev _ hr => by
  have hrow : RowOk w (.slice (some ⟨b, 0, none⟩) 1 cp) 1 [[.int .u8 m]] := hr _ (oget_mem hR)
  rcases hrow with ⟨h, _⟩ | ⟨b', cap, rest, T, h, _, _, hb, _⟩
  · cases h
  · cases h
    have h1 := run_convert_bytes_back (P := P) w t t2 el ⟨b, 0, none⟩ cp [UInt8.ofNat m.toNat] hs.und he.und hd.und (fun j hj => by
      simp at hj
      subst hj
      have : w.cell? ⟨b, 0, none⟩ = some (.int .u8 m) := by
        simp [World.cell?, hb]
      simp only [List.getElem_cons_zero]
      have e1 : ((UInt8.ofNat m.toNat).toNat : Int) = m := by simp; omega
      rw [e1]
      simpa [Addr.add] using this)
    simp only [List.length_singleton] at h1
    simp [execOp, hev.eval hx, h1]
/-- a string's bytes: the block bears the run-time's mark -/
def sobj (l : List UInt8) (rest : List Value) (T : TypeId) : Obj := .cells (bcells l ++ rest).toArray T (l.length + rest.length, l.length + rest.length + 1)
theorem sobj_cell {w : World} {l : List UInt8} {rest : List Value} {T : TypeId} (hb : w.heap[b]? = some (sobj l rest T)) {i : Nat} (hi : i < l.length) : w.cell? ⟨b, i, none⟩ = some (.int .u8 (l.getD i 0).toNat) := by
  simp [World.cell?, hb, sobj, Lib.byteCells, List.getElem?_append_left, hi, List.getD]
theorem Ev_loadS [hT : TyC P t false 1] {i : Nat} {l : List UInt8} {rest : List Value} {T : TypeId} (hx : e.eval x = some (.pointer (some ⟨b, o, none⟩))) (hR : oget R i = some (.obj b (sobj l rest T))) (ho : o < l.length) :
    Ev P ⟨dst, .load t x, ty, pos, after, g⟩ e H R (.int .u8 (bat l o)) := fun a w he _ hr => by
  have hb : w.heap[b]? = some (sobj l rest T) := hr _ (oget_mem hR)
  have h1 := run_load_one (P := P) (t := t) (w := w) (b := b) (o := o) (sobj_cell hb ho)
  simp [execOp, he.eval hx, h1, bat]
theorem Ev_convS {i el n cp : Nat} {l : List UInt8} {rest : List Value} {T : TypeId} [hs : UndC P t (.slice el)] [he : UndC P el (.int .u8)] [hd : UndC P t2 .string] (hx : e.eval x = some (.slice (some ⟨b, 0, none⟩) n cp)) (hR : oget R i = some (.obj b (sobj l rest T))) (hn : l.length = n) :
    Ev P ⟨dst, .convert t t2 x, ty, pos, after, g⟩ e H R (sv l) := fun a w hev _ hr => by
  have hb : w.heap[b]? = some (sobj l rest T) := hr _ (oget_mem hR)
  subst hn
  have h1 := run_convert_bytes_back (P := P) w t t2 el ⟨b, 0, none⟩ cp l hs.und he.und hd.und (fun j hj => by
    have := sobj_cell hb hj
    rw [show (l.getD j 0) = l[j] by simp [List.getD, hj]] at this
    rw [Addr.add_lit]
    simpa using this)
  simp [execOp, hev.eval hx, h1]
/-- an element of an array that is a value -/
theorem Ev_aindex {el len : Nat} {i : Int} {kk : IntKind} {cs vs : List Value} [ht : UndC P t (.array len el)] [hT : TyC P el true k] (hx : e.eval x = some (.agg cs.toArray)) (hy : e.eval y = some (.int kk i)) (h0 : 0 ≤ i) (h1 : i < len) (hv : (cs.drop (i.toNat * k)).take k = vs) :
    Ev P ⟨dst, .index t x y, ty, pos, after, g⟩ e H R (.agg vs.toArray) := fun a w he _ _ => by
  have hp : (part el cs.toArray (i.toNat * k)).run P w = .ok (.agg vs.toArray) w := by
    have e1 : cs.toArray.extract (i.toNat * k) (i.toNat * k + k) = vs.toArray := by
      rw [← hv]
      apply Array.ext'
      simp
    simp only [part, hT.isAgg, hT.sizeOf, Sem.run_bind, Result.andThen_ok, if_true, Sem.run_pure, e1]
  simp [execOp, he.eval hx, he.eval hy, Instr.index, asIntOf, ht.run, h0, h1, hT.sizeOf, hp]
end
section
variable {F : Fence} {P : Program} {c : Ctx} {K : SP} {n : Nat} {e : Env} {H : Hp} {M L : Own} {D : List Deferred} {x y z : Operand} {d : Tmp} {ty t t2 : TypeId} {pos : String} {after : Array Edge} {g : Option (Nat × Bool)} {v : Value} {b off : Nat}
theorem Ef_strBytes (hF : WideF F) {el : Nat} {l : List UInt8} [hs : UndC P t .string] [hd : UndC P t2 (.slice el)] [he : UndC P el (.int .u8)] (hx : e.eval x = some (sv l)) (hn : Nat.blt d n = true)
    (kk : ∀ b cp rest, l.length + rest.length = cp → K ⟨n, (d, .slice (some ⟨b, 0, none⟩) l.length cp) :: e, H, .obj b (sobj l rest el) :: M, L, D⟩) :
    Ef F P c ⟨some d, .convert t t2 x, ty, pos, after, g⟩ ⟨n, e, H, M, L, D⟩ K := Ef_of_run hF fun a w hst => by
  have h1 := run_bytes_of_string (P := P) w t t2 el ⟨l.toArray⟩ hs.und hd.und he.und
  rw [bs_size] at h1
  have hcap := grownCap_ge w l.length 0 el
  have e1 : (Obj.cells (bytesRow ⟨l.toArray⟩ (grownCap w l.length 0 el)) el ((bytesRow ⟨l.toArray⟩ (grownCap w l.length 0 el)).size, (bytesRow ⟨l.toArray⟩ (grownCap w l.length 0 el)).size + 1)) = sobj l (List.replicate (grownCap w l.length 0 el - l.length) (Value.int .u8 0)) el := by
    have e2 : bytesRow ⟨l.toArray⟩ (grownCap w l.length 0 el) = (bcells l ++ List.replicate (grownCap w l.length 0 el - l.length) (Value.int .u8 0)).toArray := by
      unfold bytesRow
      rw [bs_size]
      apply Array.ext'
      simp [Lib.byteCells]
    unfold sobj
    rw [e2]
    simp [Lib.byteCells]
  rw [e1] at h1
  refine ⟨_, w.drew.alloc (sobj l (List.replicate (grownCap w l.length 0 el - l.length) (Value.int .u8 0)) el), ?_, _, ok_put hst hn (hst.holds.drew.allocO _), kk _ (grownCap w l.length 0 el) _ (by simp; omega)⟩
  simp [execOp, hst.env.eval hx, h1]
theorem Ef_storeS (hF : WideF F) {l : List UInt8} {rest : List Value} {T : TypeId} {u : UInt8} {m : Int} [hT : TyC P t false 1] (hx : e.eval x = some (.pointer (some ⟨b, off, none⟩))) (hy : e.eval y = some (.int .u8 m)) (hm : m = (u.toNat : Int)) (hl : off < l.length)
    (k : K ⟨n, e, H, .obj b (sobj (l.set off u) rest T) :: M, L, D⟩) : Ef F P c ⟨none, .store t x y, ty, pos, after, g⟩ ⟨n, e, H, .obj b (sobj l rest T) :: M, L, D⟩ K := Ef_of_skip hF (by simp) fun a w hs => by
  have hb : w.heap[b]? = some (sobj l rest T) := hs.holds.own (.obj b (sobj l rest T)) (by simp)
  subst hm
  have hcell := sobj_cell hb hl
  have hfr : w.frozen? ⟨b, off, none⟩ = false := by
    simp only [World.frozen?, hb, sobj]
    simp; omega
  have h1 := run_store P w ⟨b, off, none⟩ (.int .u8 (u.toNat : Int)) .plain rfl
  rw [hcell, hfr] at h1
  simp only [Bool.false_eq_true, if_false] at h1
  have hput : w.setCell ⟨b, off, none⟩ (.int .u8 (u.toNat : Int)) = w.putObj b (sobj (l.set off u) rest T) := by
    have hlt : b < w.heap.size := by
      rcases Nat.lt_or_ge b w.heap.size with h' | h'
      · exact h'
      · simp [Array.getElem?_eq_none h'] at hb
    unfold World.setCell World.putObj
    congr 1
    apply Array.ext_getElem?
    intro j
    rw [Array.getElem?_modify, Array.getElem?_setIfInBounds]
    by_cases hj : b = j
    · subst hj
      simp only [if_true]
      rw [hb]
      simp [sobj, hlt, Lib.byteCells, List.set_append, hl]
    · simp [hj]
  rw [hput] at h1
  refine ⟨w.putObj b (sobj (l.set off u) rest T), ?_, ⟨n, e, H, .obj b (sobj (l.set off u) rest T) :: M, L, D⟩, ⟨hs.defers, hs.size, hs.env, hs.holds.putObj _⟩, k⟩
  have hc : (Value.int .u8 (u.toNat : Int)).cells.toList = [.int .u8 (u.toNat : Int)] := rfl
  have hz : (Value.int .u8 (u.toNat : Int)).cells.size = 1 := rfl
  have h2 : (storeCells ⟨b, off, none⟩ [Value.int .u8 (u.toNat : Int)]).run P w = .ok () (w.putObj b (sobj (l.set off u) rest T)) := by
    simp [storeCells, h1, Addr.add]
  simp [execOp, hs.env.eval hx, hs.env.eval hy, Instr.storeAt, Instr.sureAddr, storeVar, hT.sizeOf, hz, hc, h2]
end
end Go.Proofs.YtnoadopmeoohmaaGreatDoor
