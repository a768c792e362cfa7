/-
  How four small numbers and rows are read.
-/
import Derived.Test.YthbnhcgphkghaaaB2
namespace Go.Proofs.Ythbnhcgphkghaaa
open Go Go.RowKit Go.WideShapes
set_option linter.unusedVariables false
set_option linter.unusedSimpArgs false
theorem cz55 : Try.prog.cellsOf 55 = 1 := by kernel_rfl
theorem cz57 : Try.prog.cellsOf 57 = 4 := by kernel_rfl
section
variable {T : Type} {enc : TypeId × Value → T} {w : World}
theorem rd_u16 {fuel : Nat} {v : Value} {y : DataW T × List MemPlace} (h : DataW.trod enc Try.prog w 0 (fun _ => true) true fuel 55 [v] = some y) : ∃ n, v = .int .u16 n ∧ 0 ≤ n ∧ n < 65536 := by
  obtain ⟨n', h, hx, hw⟩ := DataW.trod_int Try.underlying55 h
  simp only [List.cons.injEq, and_true] at h
  subst h
  refine ⟨n', rfl, ?_⟩
  simp [Lit.wf, IntKind.min, IntKind.max, IntKind.signed, IntKind.bits] at hw
  omega
set_option maxRecDepth 100000 in
/-- an argument of four small numbers -/
theorem arg_cut {v : Value} {d : DataW T} {ps : List MemPlace} {r : Reach} {base : Nat} (hv : Value.okWide Try.prog w r base 57 v) (h : DataW.Trod enc Try.prog w 0 (fun _ => true) true 57 v d ps) :
    ∃ n0 n1 n2 n3, v = .agg [.int .u16 n0, .int .u16 n1, .int .u16 n2, .int .u16 n3].toArray ∧ (0 ≤ n0 ∧ n0 < 65536) ∧ (0 ≤ n1 ∧ n1 < 65536) ∧ (0 ≤ n2 ∧ n2 < 65536) ∧ (0 ≤ n3 ∧ n3 < 65536) := by
  obtain ⟨cs, rfl, _⟩ := okWide_struct Try.underlying57 hv
  obtain ⟨fuel, hf⟩ := h
  obtain ⟨xs, n, rfl, hx, hl, hxl, hf⟩ := DataW.trod_struct Try.underlying57 hf
  have hc : (Value.agg cs).cells = cs := rfl
  rw [hc] at hf hl
  obtain ⟨v0, v1, v2, v3, hcs⟩ := len4 (hl.trans cz57)
  obtain ⟨y0, y1, y2, y3, rfl⟩ := len4 (show xs.length = 4 from hxl)
  rw [hcs] at hf
  have f0 : DataW.trod enc Try.prog w 0 (fun _ => true) true n 55 (([v0, v1, v2, v3].drop 0).take 1) = some y0 := (congrArg (fun q => DataW.trod enc Try.prog w 0 (fun _ => true) true n 55 (([v0, v1, v2, v3].drop 0).take q)) cz55).symm.trans (hf 0 _ rfl)
  have f1 : DataW.trod enc Try.prog w 0 (fun _ => true) true n 55 (([v0, v1, v2, v3].drop 1).take 1) = some y1 := (congrArg (fun q => DataW.trod enc Try.prog w 0 (fun _ => true) true n 55 (([v0, v1, v2, v3].drop 1).take q)) cz55).symm.trans (hf 1 _ rfl)
  have f2 : DataW.trod enc Try.prog w 0 (fun _ => true) true n 55 (([v0, v1, v2, v3].drop 2).take 1) = some y2 := (congrArg (fun q => DataW.trod enc Try.prog w 0 (fun _ => true) true n 55 (([v0, v1, v2, v3].drop 2).take q)) cz55).symm.trans (hf 2 _ rfl)
  have f3 : DataW.trod enc Try.prog w 0 (fun _ => true) true n 55 (([v0, v1, v2, v3].drop 3).take 1) = some y3 := (congrArg (fun q => DataW.trod enc Try.prog w 0 (fun _ => true) true n 55 (([v0, v1, v2, v3].drop 3).take q)) cz55).symm.trans (hf 3 _ rfl)
  obtain ⟨n0, rfl, b0⟩ := rd_u16 f0
  obtain ⟨n1, rfl, b1⟩ := rd_u16 f1
  obtain ⟨n2, rfl, b2⟩ := rd_u16 f2
  obtain ⟨n3, rfl, b3⟩ := rd_u16 f3
  refine ⟨n0, n1, n2, n3, ?_, b0, b1, b2, b3⟩
  congr 1
  rw [← hcs]
set_option maxRecDepth 100000 in
/-- an argument that is a row -/
theorem arg_row {v : Value} {d : DataW T} {ps : List MemPlace} {r : Reach} {base : Nat} (hv : Value.okWide Try.prog w r base 61 v) (h : DataW.Trod enc Try.prog w 0 (fun _ => true) true 61 v d ps) :
    ∃ cs x, v = .agg cs.toArray ∧ RowH (hp w) cs x ∧ 1 + x.1.mass + massC x.2 ≤ Rows.uptoBulk d := by
  obtain ⟨cs, rfl, _⟩ := okWide_struct Try.underlying61 hv
  obtain ⟨fuel, hf⟩ := h
  obtain ⟨x, h1, h2⟩ := rd_row (fun n _ => rd_all n) hf
  exact ⟨cs.toList, x, rfl, h1, h2⟩
end
end Go.Proofs.Ythbnhcgphkghaaa
