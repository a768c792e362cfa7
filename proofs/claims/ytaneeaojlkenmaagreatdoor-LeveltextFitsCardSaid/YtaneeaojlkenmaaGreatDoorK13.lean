/-
  A witness world: the listed variables as their initialisers lay them.
-/
import Derived.Test.YtaneeaojlkenmaaGreatDoorK12
import Derived.Lib.LaidCaseMet
namespace Go.Proofs.YtaneeaojlkenmaaGreatDoor
open Go Go.Lib Go.RowKit Go.ChangeShapes Go.WideShapes Go.ChangeAt
set_option linter.unusedVariables false
set_option linter.unusedSimpArgs false
theorem prog_own : ownKnob Tryz.prog.godebug = none := by kernel_rfl
def litCells : DataW Unit → Array Value
  | .agg ds => (ds.filterMap fun d => match d with | .lit l => some l.value | _ => Option.none).toArray
  | _ => #[]
abbrev rowT : TypeId := lays159_ren.t 208
noncomputable def laidWorld (os : Os) : World :=
  let N := (World.settled Tryz.prog os).heap.size
  let w0 := World.holding Tryz.prog os ⟨#[.cells Lib.caseCells5 rowT], #[], []⟩
  let put (h : Array Obj) (g : Nat) (cs : Array Value) : Array Obj := h.modify g fun
    | .cells _ t frozen => .cells cs t frozen
    | o => o
  let h1 := put w0.heap 0 signCells.toArray
  let h2 := put h1 4 powCells
  let h3 := put h2 2 (Lib.firstTab.map fun z => Value.int .u8 z).toArray
  let h4 := put h3 3 ((List.range 16).flatMap fun i => [Value.int .u8 (Lib.accLo i), Value.int .u8 (Lib.accHi i)]).toArray
  let h5 := put h4 6 (litCells Rows.laid_math_bits_deBruijn32tab)
  let h6 := put h5 7 (litCells Rows.laid_math_bits_deBruijn64tab)
  let h7 := put h6 5 #[.slice (some ⟨N, 0, none⟩) 336 336]
  { w0 with heap := h7 }
noncomputable abbrev N0 : Nat := (World.settled Tryz.prog default).heap.size
noncomputable abbrev memW (os : Os) (args : Array Value) : World := ((laidWorld os).forCall (fun _ _ => 0) ⟨#[], args, []⟩).memory
theorem piece1 (os : Os) (args : Array Value) : LaidIn Tryz.prog (memW os args) [("math/bits.deBruijn32tab", Rows.laid_math_bits_deBruijn32tab), ("math/bits.deBruijn64tab", Rows.laid_math_bits_deBruijn64tab), ("internal/strconv.uint64pow10", Rows.laid_internal_strconv_uint64pow10), ("unicode/utf8.acceptRanges", Rows.laid_unicode_utf8_acceptRanges), ("obelus/numeral.signs", Rows.laid_obelus_numeral_signs)] [6, 7, 4, 3, 0] :=
  LaidIn.of_run _ 10 (by kernel_rfl) (by kernel_rfl) (by kernel_rfl) (by kernel_rfl)
theorem piece3 (os : Os) (args : Array Value) : LaidIn Tryz.prog (memW os args) [("unicode/utf8.first", Rows.laid_unicode_utf8_first)] [2] :=
  LaidIn.of_run _ 10 (by kernel_rfl) (by kernel_rfl) (by kernel_rfl) (by kernel_rfl)
set_option maxRecDepth 1000000 in
theorem piece2 (os : Os) (args : Array Value) : LaidIn Tryz.prog (memW os args) [("unicode.CaseRanges", Rows.laid_unicode_CaseRanges)] [5, N0] := by
  have hvar : (memW os args).heap[5]? = some (.cells #[.slice (some ⟨N0, 0, none⟩) caseA.size caseA.size] (lays159_ren.t 162) (0, 0)) := by kernel_rfl
  have hblk : (memW os args).heap[N0]? = some (.cells caseCells5 rowT (0, 0)) := by kernel_rfl
  have hgR : (5 : Nat) ≠ N0 := of_decide_eq_true (by kernel_rfl)
  have e : Rows.laid_unicode_CaseRanges = caseData := Pinned.caseRanges_eq
  rw [e]
  generalize memW os args = w at *
  generalize N0 = R at *
  have hT := caseTab_of_block hblk
  have hread := case_slice_reads case274 case206 caseX hT caseA_wf (by rw [caseA_size]; unfold maxLen; omega) 0
  rw [case_rows_data] at hread
  have hv : w.var? Tryz.prog "unicode.CaseRanges" = some #[.slice (some ⟨R, 0, none⟩) caseA.size caseA.size] := by
    unfold World.var?
    rw [caseX.n13]
    show (match w.heap[5]? with | some (.cells cs _ _) => some cs | _ => none) = _
    rw [hvar]
  refine LaidIn.one (g := 5) (t := lays159_ren.t 162) (fuel := 0 + 4) (p := MemPlace.row ⟨R, 0, none⟩ (caseA.size * 5)) [5, R] caseX.n13 caseX.y13 hv hread ?_ ?_ ?_
  · refine List.nodup_append.2 ⟨row_nodup _ _, row_nodup _ _, ?_⟩
    intro a ha b hb e
    obtain ⟨i, _, rfl⟩ := MemPlace.mem_row.1 ha
    obtain ⟨j, _, rfl⟩ := MemPlace.mem_row.1 hb
    simp at e
    exact hgR e.1
  · intro b off hp
    rcases List.mem_append.1 hp with hp | hp
    · obtain ⟨i, hi, e⟩ := MemPlace.mem_row.1 hp
      cases e
      refine ⟨⟨_, _, hvar⟩, fun u v hc => ?_⟩
      have hi : i < 1 := hi
      obtain rfl : i = 0 := by omega
      rw [Lib.cell_of_heap hvar] at hc
      simp at hc
    · obtain ⟨i, hi, e⟩ := MemPlace.mem_row.1 hp
      cases e
      refine ⟨⟨_, _, hblk⟩, fun u v hc => ?_⟩
      obtain ⟨c0, c1, c2, c3, c4⟩ := hT (i / 5) (by omega)
      have hi5 : 0 + i = 0 + i / 5 * 5 + i % 5 := by omega
      simp only at hc
      rw [hi5] at hc
      have hm : i % 5 < 5 := Nat.mod_lt _ (by omega)
      match hk : i % 5, hm with
      | 0, _ => rw [hk, Nat.add_zero, c0] at hc; cases hc
      | 1, _ => rw [hk, c1] at hc; cases hc
      | 2, _ => rw [hk, c2] at hc; cases hc
      | 3, _ => rw [hk, c3] at hc; cases hc
      | 4, _ => rw [hk, c4] at hc; cases hc
  · intro x hx
    rcases List.mem_append.1 hx with hx | hx
    · obtain ⟨i, _, rfl⟩ := MemPlace.mem_row.1 hx
      exact List.mem_cons_self
    · obtain ⟨i, _, rfl⟩ := MemPlace.mem_row.1 hx
      exact List.mem_cons_of_mem _ List.mem_cons_self
set_option maxRecDepth 1000000 in
theorem laid_met (os : Os) (args : Array Value) : laidMet Tryz.prog laidL (memW os args) :=
  (((piece1 os args).append (piece2 os args) (by kernel_rfl)).append (piece3 os args) (by kernel_rfl)).met
end Go.Proofs.YtaneeaojlkenmaaGreatDoor
