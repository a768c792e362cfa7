/-
  What the seat's package-level variables hold, as far as it is said of whole blocks (numerals: the table of powers of ten).
-/
import Derived.Test.YtnoadopmeoohmaaGreatDoorChecked
import Derived.Lib.LaidTab
import Derived.Lib.ItoaNum
import Derived.KernelRfl
namespace Go.Proofs.YtnoadopmeoohmaaGreatDoor
open Go
set_option linter.unusedVariables false
set_option linter.unusedSimpArgs false
/-- the blocks of the package-level variables -/
def NG : Nat := 8
def powCells : Array Value := (Lib.pow10Tab.map fun z => Value.int .u64 z).toArray
def Glob (w : World) : Prop := ∃ T fz, w.heap[0]? = some (.cells powCells T fz)
theorem Glob.of_blocks {w w' : World} (h : Glob w) (hb : ∀ k, k < NG → w'.heap[k]? = w.heap[k]?) : Glob w' := by
  obtain ⟨T, fz, h⟩ := h
  exact ⟨T, fz, (hb 0 (by decide)).trans h⟩
theorem Glob.tab {w : World} (h : Glob w) : Lib.TabIs Tryz.prog w "internal/strconv.uint64pow10" .u64 Lib.pow10Tab := by
  obtain ⟨T, fz, h⟩ := h
  have hn : Tryz.prog.globalNamed "internal/strconv.uint64pow10" = some 0 := by kernel_rfl
  unfold Lib.TabIs World.var?
  rw [hn]
  show (match w.heap[0]? with | some (.cells cs _ _) => some cs | _ => none) = _
  rw [h]
  rfl
end Go.Proofs.YtnoadopmeoohmaaGreatDoor
