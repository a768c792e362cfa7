/-
  Appending zero elements to a nil slice.
-/
import Derived.Test.YthniohgeojenaaaA11
import Derived.Lib.AppendZerosOnto
namespace Go.Proofs.Ythniohgeojenaaa
open Go
set_option linter.unusedVariables false
set_option linter.unusedSimpArgs false
section
variable {F : Fence} {P : Program} {c : Ctx} {K : SP} {t t2 ty : TypeId} {pos : String} {after : Array Edge} {g : Option (Nat × Bool)} {n d k : Nat} {e : Env} {H : Hp} {M L : Own} {D : List Deferred} {x y : Operand}
theorem Ef_growR (hF : WideF F) {el bytes m : Nat} {q : Int} {ag : Bool} {zc : List Value} [ht : UndC P t (.slice el)] [hu : UndC P t2 (.int .i64)] [hT : TyC P el ag k] [hI : InfoC P el bytes] [hz : ZeroL P el zc]
    (hx : e.eval x = some (.slice none 0 0)) (hy : e.eval y = some (.int .i64 q)) (hq : q = (m : Nat)) (hm : 0 < m) (hzk : Nat.beq zc.length k = true) (hk : Nat.blt 0 k = true) (hbytes : m * bytes ≤ 140737488355328) (hlen : m ≤ 9223372036854775807) (hn : Nat.blt d n = true)
    (kk : ∀ b cp, m ≤ cp → K ⟨n, (d, .slice (some ⟨b, 0, none⟩) m cp) :: e, H, .row (.slice (some ⟨b, 0, none⟩) 0 cp) k [] :: M, L, D⟩) :
    Ef F P c ⟨some d, .call { callee := .builtin .append, args := #[x, y], argTypes := #[t, t2] }, ty, pos, after, g⟩ ⟨n, e, H, .row (.slice none 0 0) k [] :: M, L, D⟩ K := Ef_of_run hF fun a w hs => by
  obtain ⟨i, z, hi, hsz, hby, hzz, hzc⟩ := info_of (P := P) (t := el) (hT := hT) (hI := hI) (hz := hz)
  have hzk' := Nat.eq_of_beq_eq_true hzk
  have hk' := Nat.le_of_ble_eq_true hk
  have hzs : z.cells.size = k := by rw [← hzk', ← hzc]; simp
  subst hby
  subst hq
  have hr := Lib.run_append_grow_zeros (P := P) w t t2 ty el i z .i64 .i64 ht.und hu.und hi hzz none 0 0 [] (run_firstCells_none w.drew i.size 0 0 0) m hm (by rw [hsz]; exact hk') (by omega) (by omega) (by omega) (growslice_fits (by omega) (by rw [Nat.zero_add]; exact hbytes))
  simp only [Nat.zero_add] at hr
  have hge := grownCap_ge w m 0 el
  have hsize : ∀ q, (Builtin.zeroCells z.cells q).size = q * k := fun q => by rw [size_zeroCells, hzs]
  have hok : RowOk (w.drew.alloc (.cells (#[] ++ Builtin.zeroCells z.cells m ++ Builtin.zeroCells z.cells (grownCap w m 0 el - m)) el)) (.slice (some ⟨w.heap.size, 0, none⟩) 0 (grownCap w m 0 el)) k [] := by
    refine .inr ⟨w.heap.size, grownCap w m 0 el, (#[] ++ Builtin.zeroCells z.cells m ++ Builtin.zeroCells z.cells (grownCap w m 0 el - m)).toList, el, rfl, by simp, by simp, ?_, ?_⟩
    · have := heap_alloc_new w.drew (.cells (#[] ++ Builtin.zeroCells z.cells m ++ Builtin.zeroCells z.cells (grownCap w m 0 el - m)) el)
      simp only [List.flatten_nil, List.nil_append, Array.toArray_toList]; exact this
    · simp only [List.flatten_nil, List.nil_append, Array.length_toList, Array.size_append, hsize, Array.size_empty, Nat.zero_add, ← Nat.add_mul]
      congr 1
      omega
  have hmv : Moves w (w.drew.alloc (.cells (#[] ++ Builtin.zeroCells z.cells m ++ Builtin.zeroCells z.cells (grownCap w m 0 el - m)) el)) (vblocks (.slice none 0 0)) := (Moves.drew w _).trans (Moves.alloc w.drew _ _)
  have hh := hs.holds.row (I := []) hok hmv (fun b hb => .inl (by simp [vblocks] at hb; omega))
  refine ⟨_, _, ?_, _, ok_put hs hn (M'' := .row _ k [] :: M) (hh.sublist (by simp)), kk w.heap.size (grownCap w m 0 el) hge⟩
  simp [execOp, resolve, invoke, builtin, hs.env.eval hx, hs.env.eval hy, Sem.run_bind, hr]
end
end Go.Proofs.Ythniohgeojenaaa
