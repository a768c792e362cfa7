/-
  How flows are read. Its structs' laws written by wip/fw/genB2.py.
-/
import Derived.Test.YthbnhcgphkghaaaB1
namespace Go.Proofs.Ythbnhcgphkghaaa
open Go Go.RowKit
set_option linter.unusedVariables false
set_option linter.unusedSimpArgs false

theorem cz3 : Try.prog.cellsOf 3 = 1 := by kernel_rfl
theorem cz4 : Try.prog.cellsOf 4 = 1 := by kernel_rfl
theorem cz9 : Try.prog.cellsOf 9 = 1 := by kernel_rfl
theorem cz22 : Try.prog.cellsOf 22 = 1 := by kernel_rfl
theorem cz40 : Try.prog.cellsOf 40 = 1 := by kernel_rfl
theorem cz41 : Try.prog.cellsOf 41 = 1 := by kernel_rfl
theorem cz42 : Try.prog.cellsOf 42 = 1 := by kernel_rfl
theorem cz44 : Try.prog.cellsOf 44 = 4 := by kernel_rfl
theorem cz46 : Try.prog.cellsOf 46 = 5 := by kernel_rfl
theorem cz47 : Try.prog.cellsOf 47 = 1 := by kernel_rfl
theorem cz49 : Try.prog.cellsOf 49 = 11 := by kernel_rfl
theorem cz59 : Try.prog.cellsOf 59 = 1 := by kernel_rfl
theorem cz61 : Try.prog.cellsOf 61 = 6 := by kernel_rfl
theorem cz67 : Try.prog.cellsOf 67 = 7 := by kernel_rfl
theorem cz70 : Try.prog.cellsOf 70 = 2 := by kernel_rfl
theorem cz72 : Try.prog.cellsOf 72 = 2 := by kernel_rfl
theorem cz104 : Try.prog.cellsOf 104 = 4 := by kernel_rfl
theorem len2 {α : Type} {l : List α} (h : l.length = 2) : ∃ a0 a1, l = [a0, a1] := by
  match l, h with
  | [a0, a1], _ => exact ⟨a0, a1, rfl⟩
theorem len3 {α : Type} {l : List α} (h : l.length = 3) : ∃ a0 a1 a2, l = [a0, a1, a2] := by
  match l, h with
  | [a0, a1, a2], _ => exact ⟨a0, a1, a2, rfl⟩
theorem len4 {α : Type} {l : List α} (h : l.length = 4) : ∃ a0 a1 a2 a3, l = [a0, a1, a2, a3] := by
  match l, h with
  | [a0, a1, a2, a3], _ => exact ⟨a0, a1, a2, a3, rfl⟩
theorem len5 {α : Type} {l : List α} (h : l.length = 5) : ∃ a0 a1 a2 a3 a4, l = [a0, a1, a2, a3, a4] := by
  match l, h with
  | [a0, a1, a2, a3, a4], _ => exact ⟨a0, a1, a2, a3, a4, rfl⟩
theorem len6 {α : Type} {l : List α} (h : l.length = 6) : ∃ a0 a1 a2 a3 a4 a5, l = [a0, a1, a2, a3, a4, a5] := by
  match l, h with
  | [a0, a1, a2, a3, a4, a5], _ => exact ⟨a0, a1, a2, a3, a4, a5, rfl⟩
theorem len7 {α : Type} {l : List α} (h : l.length = 7) : ∃ a0 a1 a2 a3 a4 a5 a6, l = [a0, a1, a2, a3, a4, a5, a6] := by
  match l, h with
  | [a0, a1, a2, a3, a4, a5, a6], _ => exact ⟨a0, a1, a2, a3, a4, a5, a6, rfl⟩
theorem len11 {α : Type} {l : List α} (h : l.length = 11) : ∃ a0 a1 a2 a3 a4 a5 a6 a7 a8 a9 a10, l = [a0, a1, a2, a3, a4, a5, a6, a7, a8, a9, a10] := by
  match l, h with
  | [a0, a1, a2, a3, a4, a5, a6, a7, a8, a9, a10], _ => exact ⟨a0, a1, a2, a3, a4, a5, a6, a7, a8, a9, a10, rfl⟩
section
variable {T : Type} {enc : TypeId × Value → T} {w : World}
theorem rd44 {fuel : Nat} {cs : List Value} {y : DataW T × List MemPlace} (h : DataW.trod enc Try.prog w 0 (fun _ => true) true fuel 44 cs = some y) :
    ∃ (n : Nat) (v0 v1 v2 v3 : Value) (y0 y1 y2 y3 : DataW T × List MemPlace), fuel = n + 1 ∧ cs = [v0, v1, v2, v3] ∧ y.1 = .agg [y0.1, y1.1, y2.1, y3.1] ∧ DataW.trod enc Try.prog w 0 (fun _ => true) true n 3 [v0] = some y0 ∧ DataW.trod enc Try.prog w 0 (fun _ => true) true n 3 [v1] = some y1 ∧ DataW.trod enc Try.prog w 0 (fun _ => true) true n 41 [v2] = some y2 ∧ DataW.trod enc Try.prog w 0 (fun _ => true) true n 42 [v3] = some y3 := by
  obtain ⟨xs, n, rfl, rfl, hl, hxl, hf⟩ := DataW.trod_struct Try.underlying44 h
  obtain ⟨v0, v1, v2, v3, rfl⟩ := len4 (hl.trans cz44)
  obtain ⟨y0, y1, y2, y3, rfl⟩ := len4 (show xs.length = 4 from hxl)
  have f0 : DataW.trod enc Try.prog w 0 (fun _ => true) true n 3 (([v0, v1, v2, v3].drop 0).take 1) = some y0 := (congrArg (fun q => DataW.trod enc Try.prog w 0 (fun _ => true) true n 3 (([v0, v1, v2, v3].drop 0).take q)) cz3).symm.trans (hf 0 _ rfl)
  have f1 : DataW.trod enc Try.prog w 0 (fun _ => true) true n 3 (([v0, v1, v2, v3].drop 1).take 1) = some y1 := (congrArg (fun q => DataW.trod enc Try.prog w 0 (fun _ => true) true n 3 (([v0, v1, v2, v3].drop 1).take q)) cz3).symm.trans (hf 1 _ rfl)
  have f2 : DataW.trod enc Try.prog w 0 (fun _ => true) true n 41 (([v0, v1, v2, v3].drop 2).take 1) = some y2 := (congrArg (fun q => DataW.trod enc Try.prog w 0 (fun _ => true) true n 41 (([v0, v1, v2, v3].drop 2).take q)) cz41).symm.trans (hf 2 _ rfl)
  have f3 : DataW.trod enc Try.prog w 0 (fun _ => true) true n 42 (([v0, v1, v2, v3].drop 3).take 1) = some y3 := (congrArg (fun q => DataW.trod enc Try.prog w 0 (fun _ => true) true n 42 (([v0, v1, v2, v3].drop 3).take q)) cz42).symm.trans (hf 3 _ rfl)
  exact ⟨n, v0, v1, v2, v3, y0, y1, y2, y3, rfl, rfl, rfl, f0, f1, f2, f3⟩
theorem rd46 {fuel : Nat} {cs : List Value} {y : DataW T × List MemPlace} (h : DataW.trod enc Try.prog w 0 (fun _ => true) true fuel 46 cs = some y) :
    ∃ (n : Nat) (v0 v1 v2 v3 v4 : Value) (y0 y1 : DataW T × List MemPlace), fuel = n + 1 ∧ cs = [v0, v1, v2, v3, v4] ∧ y.1 = .agg [y0.1, y1.1] ∧ DataW.trod enc Try.prog w 0 (fun _ => true) true n 40 [v0] = some y0 ∧ DataW.trod enc Try.prog w 0 (fun _ => true) true n 44 [v1, v2, v3, v4] = some y1 := by
  obtain ⟨xs, n, rfl, rfl, hl, hxl, hf⟩ := DataW.trod_struct Try.underlying46 h
  obtain ⟨v0, v1, v2, v3, v4, rfl⟩ := len5 (hl.trans cz46)
  obtain ⟨y0, y1, rfl⟩ := len2 (show xs.length = 2 from hxl)
  have f0 : DataW.trod enc Try.prog w 0 (fun _ => true) true n 40 (([v0, v1, v2, v3, v4].drop 0).take 1) = some y0 := (congrArg (fun q => DataW.trod enc Try.prog w 0 (fun _ => true) true n 40 (([v0, v1, v2, v3, v4].drop 0).take q)) cz40).symm.trans (hf 0 _ rfl)
  have f1 : DataW.trod enc Try.prog w 0 (fun _ => true) true n 44 (([v0, v1, v2, v3, v4].drop 1).take 4) = some y1 := (congrArg (fun q => DataW.trod enc Try.prog w 0 (fun _ => true) true n 44 (([v0, v1, v2, v3, v4].drop 1).take q)) cz44).symm.trans (hf 1 _ rfl)
  exact ⟨n, v0, v1, v2, v3, v4, y0, y1, rfl, rfl, rfl, f0, f1⟩
theorem rd49 {fuel : Nat} {cs : List Value} {y : DataW T × List MemPlace} (h : DataW.trod enc Try.prog w 0 (fun _ => true) true fuel 49 cs = some y) :
    ∃ (n : Nat) (v0 v1 v2 v3 v4 v5 v6 v7 v8 v9 v10 : Value) (y0 y1 y2 y3 y4 y5 y6 : DataW T × List MemPlace), fuel = n + 1 ∧ cs = [v0, v1, v2, v3, v4, v5, v6, v7, v8, v9, v10] ∧ y.1 = .agg [y0.1, y1.1, y2.1, y3.1, y4.1, y5.1, y6.1] ∧ DataW.trod enc Try.prog w 0 (fun _ => true) true n 3 [v0] = some y0 ∧ DataW.trod enc Try.prog w 0 (fun _ => true) true n 3 [v1] = some y1 ∧ DataW.trod enc Try.prog w 0 (fun _ => true) true n 3 [v2] = some y2 ∧ DataW.trod enc Try.prog w 0 (fun _ => true) true n 9 [v3] = some y3 ∧ DataW.trod enc Try.prog w 0 (fun _ => true) true n 46 [v4, v5, v6, v7, v8] = some y4 ∧ DataW.trod enc Try.prog w 0 (fun _ => true) true n 22 [v9] = some y5 ∧ DataW.trod enc Try.prog w 0 (fun _ => true) true n 47 [v10] = some y6 := by
  obtain ⟨xs, n, rfl, rfl, hl, hxl, hf⟩ := DataW.trod_struct Try.underlying49 h
  obtain ⟨v0, v1, v2, v3, v4, v5, v6, v7, v8, v9, v10, rfl⟩ := len11 (hl.trans cz49)
  obtain ⟨y0, y1, y2, y3, y4, y5, y6, rfl⟩ := len7 (show xs.length = 7 from hxl)
  have f0 : DataW.trod enc Try.prog w 0 (fun _ => true) true n 3 (([v0, v1, v2, v3, v4, v5, v6, v7, v8, v9, v10].drop 0).take 1) = some y0 := (congrArg (fun q => DataW.trod enc Try.prog w 0 (fun _ => true) true n 3 (([v0, v1, v2, v3, v4, v5, v6, v7, v8, v9, v10].drop 0).take q)) cz3).symm.trans (hf 0 _ rfl)
  have f1 : DataW.trod enc Try.prog w 0 (fun _ => true) true n 3 (([v0, v1, v2, v3, v4, v5, v6, v7, v8, v9, v10].drop 1).take 1) = some y1 := (congrArg (fun q => DataW.trod enc Try.prog w 0 (fun _ => true) true n 3 (([v0, v1, v2, v3, v4, v5, v6, v7, v8, v9, v10].drop 1).take q)) cz3).symm.trans (hf 1 _ rfl)
  have f2 : DataW.trod enc Try.prog w 0 (fun _ => true) true n 3 (([v0, v1, v2, v3, v4, v5, v6, v7, v8, v9, v10].drop 2).take 1) = some y2 := (congrArg (fun q => DataW.trod enc Try.prog w 0 (fun _ => true) true n 3 (([v0, v1, v2, v3, v4, v5, v6, v7, v8, v9, v10].drop 2).take q)) cz3).symm.trans (hf 2 _ rfl)
  have f3 : DataW.trod enc Try.prog w 0 (fun _ => true) true n 9 (([v0, v1, v2, v3, v4, v5, v6, v7, v8, v9, v10].drop 3).take 1) = some y3 := (congrArg (fun q => DataW.trod enc Try.prog w 0 (fun _ => true) true n 9 (([v0, v1, v2, v3, v4, v5, v6, v7, v8, v9, v10].drop 3).take q)) cz9).symm.trans (hf 3 _ rfl)
  have f4 : DataW.trod enc Try.prog w 0 (fun _ => true) true n 46 (([v0, v1, v2, v3, v4, v5, v6, v7, v8, v9, v10].drop 4).take 5) = some y4 := (congrArg (fun q => DataW.trod enc Try.prog w 0 (fun _ => true) true n 46 (([v0, v1, v2, v3, v4, v5, v6, v7, v8, v9, v10].drop 4).take q)) cz46).symm.trans (hf 4 _ rfl)
  have f5 : DataW.trod enc Try.prog w 0 (fun _ => true) true n 22 (([v0, v1, v2, v3, v4, v5, v6, v7, v8, v9, v10].drop 9).take 1) = some y5 := (congrArg (fun q => DataW.trod enc Try.prog w 0 (fun _ => true) true n 22 (([v0, v1, v2, v3, v4, v5, v6, v7, v8, v9, v10].drop 9).take q)) cz22).symm.trans (hf 5 _ rfl)
  have f6 : DataW.trod enc Try.prog w 0 (fun _ => true) true n 47 (([v0, v1, v2, v3, v4, v5, v6, v7, v8, v9, v10].drop 10).take 1) = some y6 := (congrArg (fun q => DataW.trod enc Try.prog w 0 (fun _ => true) true n 47 (([v0, v1, v2, v3, v4, v5, v6, v7, v8, v9, v10].drop 10).take q)) cz47).symm.trans (hf 6 _ rfl)
  exact ⟨n, v0, v1, v2, v3, v4, v5, v6, v7, v8, v9, v10, y0, y1, y2, y3, y4, y5, y6, rfl, rfl, rfl, f0, f1, f2, f3, f4, f5, f6⟩
theorem rd61 {fuel : Nat} {cs : List Value} {y : DataW T × List MemPlace} (h : DataW.trod enc Try.prog w 0 (fun _ => true) true fuel 61 cs = some y) :
    ∃ (n : Nat) (v0 v1 v2 v3 v4 v5 : Value) (y0 y1 : DataW T × List MemPlace), fuel = n + 1 ∧ cs = [v0, v1, v2, v3, v4, v5] ∧ y.1 = .agg [y0.1, y1.1] ∧ DataW.trod enc Try.prog w 0 (fun _ => true) true n 46 [v0, v1, v2, v3, v4] = some y0 ∧ DataW.trod enc Try.prog w 0 (fun _ => true) true n 59 [v5] = some y1 := by
  obtain ⟨xs, n, rfl, rfl, hl, hxl, hf⟩ := DataW.trod_struct Try.underlying61 h
  obtain ⟨v0, v1, v2, v3, v4, v5, rfl⟩ := len6 (hl.trans cz61)
  obtain ⟨y0, y1, rfl⟩ := len2 (show xs.length = 2 from hxl)
  have f0 : DataW.trod enc Try.prog w 0 (fun _ => true) true n 46 (([v0, v1, v2, v3, v4, v5].drop 0).take 5) = some y0 := (congrArg (fun q => DataW.trod enc Try.prog w 0 (fun _ => true) true n 46 (([v0, v1, v2, v3, v4, v5].drop 0).take q)) cz46).symm.trans (hf 0 _ rfl)
  have f1 : DataW.trod enc Try.prog w 0 (fun _ => true) true n 59 (([v0, v1, v2, v3, v4, v5].drop 5).take 1) = some y1 := (congrArg (fun q => DataW.trod enc Try.prog w 0 (fun _ => true) true n 59 (([v0, v1, v2, v3, v4, v5].drop 5).take q)) cz59).symm.trans (hf 1 _ rfl)
  exact ⟨n, v0, v1, v2, v3, v4, v5, y0, y1, rfl, rfl, rfl, f0, f1⟩
theorem rd67 {fuel : Nat} {cs : List Value} {y : DataW T × List MemPlace} (h : DataW.trod enc Try.prog w 0 (fun _ => true) true fuel 67 cs = some y) :
    ∃ (n : Nat) (v0 v1 v2 v3 v4 v5 v6 : Value) (y0 y1 y2 : DataW T × List MemPlace), fuel = n + 1 ∧ cs = [v0, v1, v2, v3, v4, v5, v6] ∧ y.1 = .agg [y0.1, y1.1, y2.1] ∧ DataW.trod enc Try.prog w 0 (fun _ => true) true n 3 [v0] = some y0 ∧ DataW.trod enc Try.prog w 0 (fun _ => true) true n 46 [v1, v2, v3, v4, v5] = some y1 ∧ DataW.trod enc Try.prog w 0 (fun _ => true) true n 22 [v6] = some y2 := by
  obtain ⟨xs, n, rfl, rfl, hl, hxl, hf⟩ := DataW.trod_struct Try.underlying67 h
  obtain ⟨v0, v1, v2, v3, v4, v5, v6, rfl⟩ := len7 (hl.trans cz67)
  obtain ⟨y0, y1, y2, rfl⟩ := len3 (show xs.length = 3 from hxl)
  have f0 : DataW.trod enc Try.prog w 0 (fun _ => true) true n 3 (([v0, v1, v2, v3, v4, v5, v6].drop 0).take 1) = some y0 := (congrArg (fun q => DataW.trod enc Try.prog w 0 (fun _ => true) true n 3 (([v0, v1, v2, v3, v4, v5, v6].drop 0).take q)) cz3).symm.trans (hf 0 _ rfl)
  have f1 : DataW.trod enc Try.prog w 0 (fun _ => true) true n 46 (([v0, v1, v2, v3, v4, v5, v6].drop 1).take 5) = some y1 := (congrArg (fun q => DataW.trod enc Try.prog w 0 (fun _ => true) true n 46 (([v0, v1, v2, v3, v4, v5, v6].drop 1).take q)) cz46).symm.trans (hf 1 _ rfl)
  have f2 : DataW.trod enc Try.prog w 0 (fun _ => true) true n 22 (([v0, v1, v2, v3, v4, v5, v6].drop 6).take 1) = some y2 := (congrArg (fun q => DataW.trod enc Try.prog w 0 (fun _ => true) true n 22 (([v0, v1, v2, v3, v4, v5, v6].drop 6).take q)) cz22).symm.trans (hf 2 _ rfl)
  exact ⟨n, v0, v1, v2, v3, v4, v5, v6, y0, y1, y2, rfl, rfl, rfl, f0, f1, f2⟩
theorem rd70 {fuel : Nat} {cs : List Value} {y : DataW T × List MemPlace} (h : DataW.trod enc Try.prog w 0 (fun _ => true) true fuel 70 cs = some y) :
    ∃ (n : Nat) (v0 v1 : Value) (y0 y1 : DataW T × List MemPlace), fuel = n + 1 ∧ cs = [v0, v1] ∧ y.1 = .agg [y0.1, y1.1] ∧ DataW.trod enc Try.prog w 0 (fun _ => true) true n 3 [v0] = some y0 ∧ DataW.trod enc Try.prog w 0 (fun _ => true) true n 3 [v1] = some y1 := by
  obtain ⟨xs, n, rfl, rfl, hl, hxl, hf⟩ := DataW.trod_struct Try.underlying70 h
  obtain ⟨v0, v1, rfl⟩ := len2 (hl.trans cz70)
  obtain ⟨y0, y1, rfl⟩ := len2 (show xs.length = 2 from hxl)
  have f0 : DataW.trod enc Try.prog w 0 (fun _ => true) true n 3 (([v0, v1].drop 0).take 1) = some y0 := (congrArg (fun q => DataW.trod enc Try.prog w 0 (fun _ => true) true n 3 (([v0, v1].drop 0).take q)) cz3).symm.trans (hf 0 _ rfl)
  have f1 : DataW.trod enc Try.prog w 0 (fun _ => true) true n 3 (([v0, v1].drop 1).take 1) = some y1 := (congrArg (fun q => DataW.trod enc Try.prog w 0 (fun _ => true) true n 3 (([v0, v1].drop 1).take q)) cz3).symm.trans (hf 1 _ rfl)
  exact ⟨n, v0, v1, y0, y1, rfl, rfl, rfl, f0, f1⟩
theorem rd72 {fuel : Nat} {cs : List Value} {y : DataW T × List MemPlace} (h : DataW.trod enc Try.prog w 0 (fun _ => true) true fuel 72 cs = some y) :
    ∃ (n : Nat) (v0 v1 : Value) (y0 y1 : DataW T × List MemPlace), fuel = n + 1 ∧ cs = [v0, v1] ∧ y.1 = .agg [y0.1, y1.1] ∧ DataW.trod enc Try.prog w 0 (fun _ => true) true n 3 [v0] = some y0 ∧ DataW.trod enc Try.prog w 0 (fun _ => true) true n 3 [v1] = some y1 := by
  obtain ⟨xs, n, rfl, rfl, hl, hxl, hf⟩ := DataW.trod_struct Try.underlying72 h
  obtain ⟨v0, v1, rfl⟩ := len2 (hl.trans cz72)
  obtain ⟨y0, y1, rfl⟩ := len2 (show xs.length = 2 from hxl)
  have f0 : DataW.trod enc Try.prog w 0 (fun _ => true) true n 3 (([v0, v1].drop 0).take 1) = some y0 := (congrArg (fun q => DataW.trod enc Try.prog w 0 (fun _ => true) true n 3 (([v0, v1].drop 0).take q)) cz3).symm.trans (hf 0 _ rfl)
  have f1 : DataW.trod enc Try.prog w 0 (fun _ => true) true n 3 (([v0, v1].drop 1).take 1) = some y1 := (congrArg (fun q => DataW.trod enc Try.prog w 0 (fun _ => true) true n 3 (([v0, v1].drop 1).take q)) cz3).symm.trans (hf 1 _ rfl)
  exact ⟨n, v0, v1, y0, y1, rfl, rfl, rfl, f0, f1⟩
theorem rd104 {fuel : Nat} {cs : List Value} {y : DataW T × List MemPlace} (h : DataW.trod enc Try.prog w 0 (fun _ => true) true fuel 104 cs = some y) :
    ∃ (n : Nat) (v0 v1 v2 v3 : Value) (y0 y1 y2 y3 : DataW T × List MemPlace), fuel = n + 1 ∧ cs = [v0, v1, v2, v3] ∧ y.1 = .agg [y0.1, y1.1, y2.1, y3.1] ∧ DataW.trod enc Try.prog w 0 (fun _ => true) true n 3 [v0] = some y0 ∧ DataW.trod enc Try.prog w 0 (fun _ => true) true n 3 [v1] = some y1 ∧ DataW.trod enc Try.prog w 0 (fun _ => true) true n 3 [v2] = some y2 ∧ DataW.trod enc Try.prog w 0 (fun _ => true) true n 4 [v3] = some y3 := by
  obtain ⟨xs, n, rfl, rfl, hl, hxl, hf⟩ := DataW.trod_struct Try.underlying104 h
  obtain ⟨v0, v1, v2, v3, rfl⟩ := len4 (hl.trans cz104)
  obtain ⟨y0, y1, y2, y3, rfl⟩ := len4 (show xs.length = 4 from hxl)
  have f0 : DataW.trod enc Try.prog w 0 (fun _ => true) true n 3 (([v0, v1, v2, v3].drop 0).take 1) = some y0 := (congrArg (fun q => DataW.trod enc Try.prog w 0 (fun _ => true) true n 3 (([v0, v1, v2, v3].drop 0).take q)) cz3).symm.trans (hf 0 _ rfl)
  have f1 : DataW.trod enc Try.prog w 0 (fun _ => true) true n 3 (([v0, v1, v2, v3].drop 1).take 1) = some y1 := (congrArg (fun q => DataW.trod enc Try.prog w 0 (fun _ => true) true n 3 (([v0, v1, v2, v3].drop 1).take q)) cz3).symm.trans (hf 1 _ rfl)
  have f2 : DataW.trod enc Try.prog w 0 (fun _ => true) true n 3 (([v0, v1, v2, v3].drop 2).take 1) = some y2 := (congrArg (fun q => DataW.trod enc Try.prog w 0 (fun _ => true) true n 3 (([v0, v1, v2, v3].drop 2).take q)) cz3).symm.trans (hf 2 _ rfl)
  have f3 : DataW.trod enc Try.prog w 0 (fun _ => true) true n 4 (([v0, v1, v2, v3].drop 3).take 1) = some y3 := (congrArg (fun q => DataW.trod enc Try.prog w 0 (fun _ => true) true n 4 (([v0, v1, v2, v3].drop 3).take q)) cz4).symm.trans (hf 3 _ rfl)
  exact ⟨n, v0, v1, v2, v3, y0, y1, y2, y3, rfl, rfl, rfl, f0, f1, f2, f3⟩
theorem rd_int {fuel : Nat} {v : Value} {y : DataW T × List MemPlace} (h : DataW.trod enc Try.prog w 0 (fun _ => true) true fuel 3 [v] = some y) : ∃ n, v = .int .i64 n ∧ Rows.uptoBulk y.1 = 1 := by
  obtain ⟨n, hv, rfl, _⟩ := DataW.trod_int Try.underlying3 h
  exact ⟨n, by simpa using hv, rfl⟩
theorem rd_bool {fuel : Nat} {v : Value} {y : DataW T × List MemPlace} (h : DataW.trod enc Try.prog w 0 (fun _ => true) true fuel 4 [v] = some y) : ∃ b, v = .bool b ∧ Rows.uptoBulk y.1 = 1 := by
  obtain ⟨n, hv, rfl⟩ := DataW.trod_bool Try.underlying4 h
  exact ⟨n, by simpa using hv, rfl⟩
theorem rd_str {fuel : Nat} {v : Value} {y : DataW T × List MemPlace} (h : DataW.trod enc Try.prog w 0 (fun _ => true) true fuel 9 [v] = some y) : ∃ s, v = sv s ∧ Rows.uptoBulk y.1 = s.length + 1 := by
  obtain ⟨s, hv, rfl, _⟩ := DataW.trod_string Try.underlying9 h
  refine ⟨s.data.toList, ?_, by simp [Rows.uptoBulk]⟩
  simpa [sv] using hv
/-- a slice -/
theorem rd_slice {α : Type} {Rl : Hp → List Value → α → Prop} {t e k fuel : Nat} {v : Value} {y : DataW T × List MemPlace} {μ : α → Nat} (ht : Try.prog.underlying t = some (.slice e)) (hk : Try.prog.cellsOf e = k) (hk0 : 0 < k)
    (hone : ∀ cs x, Rl (hp w) cs x → ∀ u ∈ cs, u.oneCell' = true)
    (ih : ∀ n, n < fuel → ∀ cs y, DataW.trod enc Try.prog w 0 (fun _ => true) true n e cs = some y → ∃ x, Rl (hp w) cs x ∧ μ x ≤ Rows.uptoBulk y.1) (h : DataW.trod enc Try.prog w 0 (fun _ => true) true fuel t [v] = some y) :
    ∃ a n c l, v = .slice a n c ∧ SlH (hp w) Rl k a n c l ∧ (l.map μ).sum + 1 ≤ Rows.uptoBulk y.1 := by
  rcases DataW.trod_slice ht h with ⟨hv, rfl⟩ | ⟨a, len, cap, elems, rest, n, rfl, hv, rfl, _, hcap, _, hlen, hel, _, _⟩
  · simp at hv
    exact ⟨none, 0, 0, [], hv, ⟨[], HRow.nil' _ k, .nil⟩, by simp [Rows.uptoBulk]⟩
  · simp at hv
    obtain ⟨l, h1, h2⟩ := row_of hk hk0 hone hlen hcap hel (ih n (by omega))
    refine ⟨some a, len, cap, l, hv, h1, ?_⟩
    simp only [Rows.uptoBulk]
    omega

def PrpH (_ : Hp) (cs : List Value) (p : Prp) : Prop := cs = prow p
def DelH (_ : Hp) (cs : List Value) (p : Dele) : Prop := cs = drow p
def LayH (_ : Hp) (cs : List Value) (p : Layr) : Prop := cs = lrow p
theorem all2_map {α : Type} {f : α → List Value} {css : List (List Value)} {l : List α} (h : All2 (fun cs x => cs = f x) css l) : css = l.map f := by
  induction h with
  | nil => rfl
  | cons h t ih => simp [h, ih]
theorem sum_one {α : Type} (l : List α) : (l.map fun _ => 1).sum = l.length := by
  induction l with
  | nil => rfl
  | cons x l ih => simp [ih]; omega
theorem rd_props {fuel : Nat} {v : Value} {y : DataW T × List MemPlace} (h : DataW.trod enc Try.prog w 0 (fun _ => true) true fuel 40 [v] = some y) : ∃ a n c, ∃ l : List Prp, v = .slice a n c ∧ HRow (hp w) a n c 2 (l.map prow) ∧ l.length + 1 ≤ Rows.uptoBulk y.1 := by
  obtain ⟨a, n, c, l, rfl, ⟨css, h1, h2⟩, h3⟩ := rd_slice (Rl := PrpH) (μ := fun _ => 1) Try.underlying40 cz70 (by omega) (fun cs x hx u hu => prow_one [x] cs (by simp [show cs = prow x from hx]) u hu) (fun n _ cs y hy => by
    obtain ⟨m, v0, v1, y0, y1, rfl, rfl, hy1, g0, g1⟩ := rd70 hy
    obtain ⟨i0, rfl, b0⟩ := rd_int g0
    obtain ⟨i1, rfl, b1⟩ := rd_int g1
    exact ⟨⟨i0, i1⟩, rfl, by rw [hy1]; simp [Rows.uptoBulk]⟩) h
  rw [sum_one] at h3
  exact ⟨a, n, c, l, rfl, all2_map h2 ▸ h1, h3⟩
theorem rd_dels {fuel : Nat} {v : Value} {y : DataW T × List MemPlace} (h : DataW.trod enc Try.prog w 0 (fun _ => true) true fuel 41 [v] = some y) : ∃ a n c, ∃ l : List Dele, v = .slice a n c ∧ HRow (hp w) a n c 2 (l.map drow) ∧ l.length + 1 ≤ Rows.uptoBulk y.1 := by
  obtain ⟨a, n, c, l, rfl, ⟨css, h1, h2⟩, h3⟩ := rd_slice (Rl := DelH) (μ := fun _ => 1) Try.underlying41 cz72 (by omega) (fun cs x hx u hu => drow_one [x] cs (by simp [show cs = drow x from hx]) u hu) (fun n _ cs y hy => by
    obtain ⟨m, v0, v1, y0, y1, rfl, rfl, hy1, g0, g1⟩ := rd72 hy
    obtain ⟨i0, rfl, b0⟩ := rd_int g0
    obtain ⟨i1, rfl, b1⟩ := rd_int g1
    exact ⟨⟨i0, i1⟩, rfl, by rw [hy1]; simp [Rows.uptoBulk]⟩) h
  rw [sum_one] at h3
  exact ⟨a, n, c, l, rfl, all2_map h2 ▸ h1, h3⟩
theorem rd_layers {fuel : Nat} {v : Value} {y : DataW T × List MemPlace} (h : DataW.trod enc Try.prog w 0 (fun _ => true) true fuel 42 [v] = some y) : ∃ a n c, ∃ l : List Layr, v = .slice a n c ∧ HRow (hp w) a n c 4 (l.map lrow) ∧ l.length + 1 ≤ Rows.uptoBulk y.1 := by
  obtain ⟨a, n, c, l, rfl, ⟨css, h1, h2⟩, h3⟩ := rd_slice (Rl := LayH) (μ := fun _ => 1) Try.underlying42 cz104 (by omega) (fun cs x hx u hu => lrow_one [x] cs (by simp [show cs = lrow x from hx]) u hu) (fun n _ cs y hy => by
    obtain ⟨m, v0, v1, v2, v3, y0, y1, y2, y3, rfl, rfl, hy1, g0, g1, g2, g3⟩ := rd104 hy
    obtain ⟨i0, rfl, b0⟩ := rd_int g0
    obtain ⟨i1, rfl, b1⟩ := rd_int g1
    obtain ⟨i2, rfl, b2⟩ := rd_int g2
    obtain ⟨i3, rfl, b3⟩ := rd_bool g3
    exact ⟨⟨i0, i1, i2, i3⟩, rfl, by rw [hy1]; simp [Rows.uptoBulk]⟩) h
  rw [sum_one] at h3
  exact ⟨a, n, c, l, rfl, all2_map h2 ▸ h1, h3⟩
theorem rd_head {fuel : Nat} {cs : List Value} {y : DataW T × List MemPlace} (h : DataW.trod enc Try.prog w 0 (fun _ => true) true fuel 46 cs = some y) : ∃ g : Head, HeadH (hp w) cs g ∧ cs.length = 5 ∧ g.mass + 1 ≤ Rows.uptoBulk y.1 := by
  obtain ⟨m, v0, v1, v2, v3, v4, y0, y1, rfl, rfl, hy, g0, g1⟩ := rd46 h
  obtain ⟨a, n, c, l, rfl, p1, p2⟩ := rd_props g0
  obtain ⟨m', v1', v2', v3', v4', z0, z1, z2, z3, rfl, hvv, hz, q0, q1, q2, q3⟩ := rd44 g1
  simp only [List.cons.injEq, and_true] at hvv
  obtain ⟨rfl, rfl, rfl, rfl⟩ := hvv
  obtain ⟨i0, rfl, _⟩ := rd_int q0
  obtain ⟨i1, rfl, _⟩ := rd_int q1
  obtain ⟨a2, n2, c2, l2, rfl, p3, p4⟩ := rd_dels q2
  obtain ⟨a3, n3, c3, l3, rfl, p5, p6⟩ := rd_layers q3
  refine ⟨⟨l, i0, i1, l2, l3⟩, ⟨a, n, c, a2, n2, c2, a3, n3, c3, rfl, p1, p3, p5⟩, rfl, ?_⟩
  rw [hy]
  simp only [Rows.uptoBulk, Rows.uptoBulkAll, hz, Head.mass]
  omega

theorem massL_sum (l : List Item) : massL l = (l.map Item.mass).sum := by
  induction l with
  | nil => rfl
  | cons x l ih => simp [massL, ih]
theorem massC_sum (l : List Cell) : massC l = (l.map fun x => 1 + x.2.1.mass + massL x.2.2).sum := by
  induction l with
  | nil => rfl
  | cons x l ih => obtain ⟨i, h, f⟩ := x; simp [massC, ih]
theorem massR_sum (l : List Row) : massR l = (l.map fun x => 1 + x.1.mass + massC x.2).sum := by
  induction l with
  | nil => rfl
  | cons x l ih => obtain ⟨h, c⟩ := x; simp [massR, ih]
/-- what is said of all flows, rows and cells that are read in so many steps -/
def RdAll (enc : TypeId × Value → T) (w : World) (fuel : Nat) : Prop :=
  (∀ v y, DataW.trod enc Try.prog w 0 (fun _ => true) true fuel 22 [v] = some y → ∃ a n c l, v = .slice a n c ∧ FlowH (hp w) a n c l ∧ massL l + 1 ≤ Rows.uptoBulk y.1) ∧
  (∀ v y, DataW.trod enc Try.prog w 0 (fun _ => true) true fuel 47 [v] = some y → ∃ a n c l, v = .slice a n c ∧ RowsS (hp w) a n c l ∧ massR l + 1 ≤ Rows.uptoBulk y.1) ∧
  (∀ v y, DataW.trod enc Try.prog w 0 (fun _ => true) true fuel 59 [v] = some y → ∃ a n c l, v = .slice a n c ∧ CellsS (hp w) a n c l ∧ massC l + 1 ≤ Rows.uptoBulk y.1)
theorem rd_item {fuel : Nat} (ih : ∀ n, n < fuel → RdAll enc w n) {cs : List Value} {y : DataW T × List MemPlace} (h : DataW.trod enc Try.prog w 0 (fun _ => true) true fuel 49 cs = some y) : ∃ x, ItemH (hp w) cs x ∧ x.mass ≤ Rows.uptoBulk y.1 := by
  obtain ⟨m, v0, v1, v2, v3, v4, v5, v6, v7, v8, v9, v10, y0, y1, y2, y3, y4, y5, y6, rfl, rfl, hy, g0, g1, g2, g3, g4, g5, g6⟩ := rd49 h
  obtain ⟨i0, rfl, _⟩ := rd_int g0
  obtain ⟨i1, rfl, _⟩ := rd_int g1
  obtain ⟨i2, rfl, _⟩ := rd_int g2
  obtain ⟨s, rfl, bs⟩ := rd_str g3
  obtain ⟨hd, h1, _, h2⟩ := rd_head g4
  obtain ⟨a, n, c, l, rfl, p1, p2⟩ := (ih m (by omega)).1 _ _ g5
  obtain ⟨a', n', c', l', rfl, p3, p4⟩ := (ih m (by omega)).2.1 _ _ g6
  obtain ⟨pa, pn, pc, da, dn, dc, la, ln, lc, he, r1, r2, r3⟩ := h1.ex
  simp only [List.cons.injEq, and_true] at he
  obtain ⟨rfl, rfl, rfl, rfl, rfl⟩ := he
  refine ⟨.mk i0 i1 i2 s hd l l', ItemH.of (x := .mk i0 i1 i2 s hd l l') r1 r2 r3 p1 p3, ?_⟩
  rw [hy]
  simp only [Rows.uptoBulk, Rows.uptoBulkAll, Item.mass]
  omega
theorem rd_cell {fuel : Nat} (ih : ∀ n, n < fuel → RdAll enc w n) {cs : List Value} {y : DataW T × List MemPlace} (h : DataW.trod enc Try.prog w 0 (fun _ => true) true fuel 67 cs = some y) : ∃ x, CellH (hp w) cs x ∧ 1 + x.2.1.mass + massL x.2.2 ≤ Rows.uptoBulk y.1 := by
  obtain ⟨m, v0, v1, v2, v3, v4, v5, v6, y0, y1, y2, rfl, rfl, hy, g0, g1, g2⟩ := rd67 h
  obtain ⟨i0, rfl, _⟩ := rd_int g0
  obtain ⟨hd, h1, _, h2⟩ := rd_head g1
  obtain ⟨a, n, c, l, rfl, p1, p2⟩ := (ih m (by omega)).1 _ _ g2
  obtain ⟨pa, pn, pc, da, dn, dc, la, ln, lc, he, r1, r2, r3⟩ := h1.ex
  simp only [List.cons.injEq, and_true] at he
  obtain ⟨rfl, rfl, rfl, rfl, rfl⟩ := he
  refine ⟨(i0, hd, l), CellH.of (x := (i0, hd, l)) r1 r2 r3 p1, ?_⟩
  rw [hy]
  simp only [Rows.uptoBulk, Rows.uptoBulkAll]
  omega
theorem rd_row {fuel : Nat} (ih : ∀ n, n < fuel → RdAll enc w n) {cs : List Value} {y : DataW T × List MemPlace} (h : DataW.trod enc Try.prog w 0 (fun _ => true) true fuel 61 cs = some y) : ∃ x, RowH (hp w) cs x ∧ 1 + x.1.mass + massC x.2 ≤ Rows.uptoBulk y.1 := by
  obtain ⟨m, v0, v1, v2, v3, v4, v5, y0, y1, rfl, rfl, hy, g0, g1⟩ := rd61 h
  obtain ⟨hd, h1, _, h2⟩ := rd_head g0
  obtain ⟨a, n, c, l, rfl, p1, p2⟩ := (ih m (by omega)).2.2 _ _ g1
  obtain ⟨pa, pn, pc, da, dn, dc, la, ln, lc, he, r1, r2, r3⟩ := h1.ex
  simp only [List.cons.injEq, and_true] at he
  obtain ⟨rfl, rfl, rfl, rfl, rfl⟩ := he
  refine ⟨(hd, l), RowH.of (x := (hd, l)) r1 r2 r3 p1, ?_⟩
  rw [hy]
  simp only [Rows.uptoBulk, Rows.uptoBulkAll]
  omega
theorem rd_all : ∀ fuel, RdAll enc w fuel := by
  intro fuel
  induction fuel using Nat.strongRecOn with
  | _ fuel ih =>
    refine ⟨fun v y h => ?_, fun v y h => ?_, fun v y h => ?_⟩
    · obtain ⟨a, n, c, l, h1, h2, h3⟩ := rd_slice (Rl := ItemH) (μ := Item.mass) Try.underlying22 cz49 (by omega) (fun _ _ h => h.one) (fun n hn cs y hy => rd_item (fun m hm => ih m (by omega)) hy) h
      exact ⟨a, n, c, l, h1, h2, by rw [massL_sum]; exact h3⟩
    · obtain ⟨a, n, c, l, h1, h2, h3⟩ := rd_slice (Rl := RowH) (μ := fun x : Row => 1 + x.1.mass + massC x.2) Try.underlying47 cz61 (by omega) (fun _ _ h => h.one) (fun n hn cs y hy => rd_row (fun m hm => ih m (by omega)) hy) h
      exact ⟨a, n, c, l, h1, h2, by rw [massR_sum]; exact h3⟩
    · obtain ⟨a, n, c, l, h1, h2, h3⟩ := rd_slice (Rl := CellH) (μ := fun x : Cell => 1 + x.2.1.mass + massL x.2.2) Try.underlying59 cz67 (by omega) (fun _ _ h => h.one) (fun n hn cs y hy => rd_cell (fun m hm => ih m (by omega)) hy) h
      exact ⟨a, n, c, l, h1, h2, by rw [massC_sum]; exact h3⟩
/-- an argument that is a flow; the bound -/
theorem arg_flow {v : Value} {d : DataW T} {ps : List MemPlace} (h : DataW.Trod enc Try.prog w 0 (fun _ => true) true 22 v d ps) (hv : v.cells.toList = [v]) : ∃ a n c l, v = .slice a n c ∧ FlowH (hp w) a n c l ∧ massL l + 1 ≤ Rows.uptoBulk d := by
  obtain ⟨fuel, hf⟩ := h
  rw [hv] at hf
  exact (rd_all fuel).1 v (d, ps) hf
end
end Go.Proofs.Ythbnhcgphkghaaa
