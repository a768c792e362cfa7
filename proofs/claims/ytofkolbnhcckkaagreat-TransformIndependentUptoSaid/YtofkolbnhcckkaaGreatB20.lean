/-
  How splices are read. Printed by wip/fw/genB20.py.
-/
import Derived.Test.YtofkolbnhcckkaaGreatE2
import Derived.Test.YtofkolbnhcckkaaGreatU18
namespace Go.Proofs.YtofkolbnhcckkaaGreat
open Go Go.RowKit Go.WideShapes Go.ChangeShapes
set_option linter.unusedVariables false
set_option linter.unusedSimpArgs false
theorem cz3 : Tryz.prog.cellsOf 3 = 1 := by kernel_rfl
theorem cz4 : Tryz.prog.cellsOf 4 = 1 := by kernel_rfl
theorem cz9 : Tryz.prog.cellsOf 9 = 1 := by kernel_rfl
theorem cz22 : Tryz.prog.cellsOf 22 = 1 := by kernel_rfl
theorem cz23 : Tryz.prog.cellsOf 23 = 1 := by kernel_rfl
theorem cz24 : Tryz.prog.cellsOf 24 = 1 := by kernel_rfl
theorem cz25 : Tryz.prog.cellsOf 25 = 1 := by kernel_rfl
theorem cz26 : Tryz.prog.cellsOf 26 = 1 := by kernel_rfl
theorem cz27 : Tryz.prog.cellsOf 27 = 1 := by kernel_rfl
theorem cz29 : Tryz.prog.cellsOf 29 = 4 := by kernel_rfl
theorem cz31 : Tryz.prog.cellsOf 31 = 5 := by kernel_rfl
theorem cz32 : Tryz.prog.cellsOf 32 = 1 := by kernel_rfl
theorem cz33 : Tryz.prog.cellsOf 33 = 1 := by kernel_rfl
theorem cz34 : Tryz.prog.cellsOf 34 = 1 := by kernel_rfl
theorem cz35 : Tryz.prog.cellsOf 35 = 1 := by kernel_rfl
theorem cz37 : Tryz.prog.cellsOf 37 = 4 := by kernel_rfl
theorem cz39 : Tryz.prog.cellsOf 39 = 12 := by kernel_rfl
theorem cz41 : Tryz.prog.cellsOf 41 = 28 := by kernel_rfl
theorem cz60 : Tryz.prog.cellsOf 60 = 11 := by kernel_rfl
theorem cz62 : Tryz.prog.cellsOf 62 = 6 := by kernel_rfl
theorem cz90 : Tryz.prog.cellsOf 90 = 7 := by kernel_rfl
theorem cz125 : Tryz.prog.cellsOf 125 = 2 := by kernel_rfl
theorem cz128 : Tryz.prog.cellsOf 128 = 2 := by kernel_rfl
theorem cz131 : Tryz.prog.cellsOf 131 = 4 := by kernel_rfl
theorem cz150 : Tryz.prog.cellsOf 150 = 1 := by kernel_rfl
theorem cz152 : Tryz.prog.cellsOf 152 = 2 := by kernel_rfl
theorem cz155 : Tryz.prog.cellsOf 155 = 4 := by kernel_rfl
theorem cz162 : Tryz.prog.cellsOf 162 = 6 := by kernel_rfl
theorem cz165 : Tryz.prog.cellsOf 165 = 2 := by kernel_rfl
theorem cz171 : Tryz.prog.cellsOf 171 = 6 := by kernel_rfl
theorem len2 {α : Type} {l : List α} (h : l.length = 2) : ∃ a0 a1, l = [a0, a1] := by
  match l, h with
  | [a0, a1], _ => exact ⟨a0, a1, rfl⟩
theorem len3 {α : Type} {l : List α} (h : l.length = 3) : ∃ a0 a1 a2, l = [a0, a1, a2] := by
  match l, h with
  | [a0, a1, a2], _ => exact ⟨a0, a1, a2, rfl⟩
theorem len4 {α : Type} {l : List α} (h : l.length = 4) : ∃ a0 a1 a2 a3, l = [a0, a1, a2, a3] := by
  match l, h with
  | [a0, a1, a2, a3], _ => exact ⟨a0, a1, a2, a3, rfl⟩
theorem len5 {α : Type} {l : List α} (h : l.length = 5) : ∃ a0 a1 a2 a3 a4, l = [a0, a1, a2, a3, a4] := by
  match l, h with
  | [a0, a1, a2, a3, a4], _ => exact ⟨a0, a1, a2, a3, a4, rfl⟩
theorem len6 {α : Type} {l : List α} (h : l.length = 6) : ∃ a0 a1 a2 a3 a4 a5, l = [a0, a1, a2, a3, a4, a5] := by
  match l, h with
  | [a0, a1, a2, a3, a4, a5], _ => exact ⟨a0, a1, a2, a3, a4, a5, rfl⟩
theorem len7 {α : Type} {l : List α} (h : l.length = 7) : ∃ a0 a1 a2 a3 a4 a5 a6, l = [a0, a1, a2, a3, a4, a5, a6] := by
  match l, h with
  | [a0, a1, a2, a3, a4, a5, a6], _ => exact ⟨a0, a1, a2, a3, a4, a5, a6, rfl⟩
theorem len11 {α : Type} {l : List α} (h : l.length = 11) : ∃ a0 a1 a2 a3 a4 a5 a6 a7 a8 a9 a10, l = [a0, a1, a2, a3, a4, a5, a6, a7, a8, a9, a10] := by
  match l, h with
  | [a0, a1, a2, a3, a4, a5, a6, a7, a8, a9, a10], _ => exact ⟨a0, a1, a2, a3, a4, a5, a6, a7, a8, a9, a10, rfl⟩
theorem len12 {α : Type} {l : List α} (h : l.length = 12) : ∃ a0 a1 a2 a3 a4 a5 a6 a7 a8 a9 a10 a11, l = [a0, a1, a2, a3, a4, a5, a6, a7, a8, a9, a10, a11] := by
  match l, h with
  | [a0, a1, a2, a3, a4, a5, a6, a7, a8, a9, a10, a11], _ => exact ⟨a0, a1, a2, a3, a4, a5, a6, a7, a8, a9, a10, a11, rfl⟩
theorem len28 {α : Type} {l : List α} (h : l.length = 28) : ∃ a0 a1 a2 a3 a4 a5 a6 a7 a8 a9 a10 a11 a12 a13 a14 a15 a16 a17 a18 a19 a20 a21 a22 a23 a24 a25 a26 a27, l = [a0, a1, a2, a3, a4, a5, a6, a7, a8, a9, a10, a11, a12, a13, a14, a15, a16, a17, a18, a19, a20, a21, a22, a23, a24, a25, a26, a27] := by
  match l, h with
  | [a0, a1, a2, a3, a4, a5, a6, a7, a8, a9, a10, a11, a12, a13, a14, a15, a16, a17, a18, a19, a20, a21, a22, a23, a24, a25, a26, a27], _ => exact ⟨a0, a1, a2, a3, a4, a5, a6, a7, a8, a9, a10, a11, a12, a13, a14, a15, a16, a17, a18, a19, a20, a21, a22, a23, a24, a25, a26, a27, rfl⟩
section
variable {T : Type} {enc : TypeId × Value → T} {w : World}
theorem rd125 {fuel : Nat} {cs : List Value} {y : DataW T × List MemPlace} (h : DataW.trod enc Tryz.prog w 0 (fun _ => true) true fuel 125 cs = some y) :
    ∃ (n : Nat) (v0 v1 : Value) (y0 y1 : DataW T × List MemPlace), fuel = n + 1 ∧ cs = [v0, v1] ∧ y.1 = .agg [y0.1, y1.1] ∧ DataW.trod enc Tryz.prog w 0 (fun _ => true) true n 3 [v0] = some y0 ∧ DataW.trod enc Tryz.prog w 0 (fun _ => true) true n 3 [v1] = some y1 := by
  obtain ⟨xs, n, rfl, rfl, hl, hxl, hf⟩ := DataW.trod_struct Tryz.underlying125 h
  obtain ⟨v0, v1, rfl⟩ := len2 (hl.trans cz125)
  obtain ⟨y0, y1, rfl⟩ := len2 (show xs.length = 2 from hxl)
  have f0 : DataW.trod enc Tryz.prog w 0 (fun _ => true) true n 3 (([v0, v1].drop 0).take 1) = some y0 := (congrArg (fun q => DataW.trod enc Tryz.prog w 0 (fun _ => true) true n 3 (([v0, v1].drop 0).take q)) cz3).symm.trans (hf 0 _ rfl)
  have f1 : DataW.trod enc Tryz.prog w 0 (fun _ => true) true n 3 (([v0, v1].drop 1).take 1) = some y1 := (congrArg (fun q => DataW.trod enc Tryz.prog w 0 (fun _ => true) true n 3 (([v0, v1].drop 1).take q)) cz3).symm.trans (hf 1 _ rfl)
  exact ⟨n, v0, v1, y0, y1, rfl, rfl, rfl, f0, f1⟩
theorem rd128 {fuel : Nat} {cs : List Value} {y : DataW T × List MemPlace} (h : DataW.trod enc Tryz.prog w 0 (fun _ => true) true fuel 128 cs = some y) :
    ∃ (n : Nat) (v0 v1 : Value) (y0 y1 : DataW T × List MemPlace), fuel = n + 1 ∧ cs = [v0, v1] ∧ y.1 = .agg [y0.1, y1.1] ∧ DataW.trod enc Tryz.prog w 0 (fun _ => true) true n 3 [v0] = some y0 ∧ DataW.trod enc Tryz.prog w 0 (fun _ => true) true n 3 [v1] = some y1 := by
  obtain ⟨xs, n, rfl, rfl, hl, hxl, hf⟩ := DataW.trod_struct Tryz.underlying128 h
  obtain ⟨v0, v1, rfl⟩ := len2 (hl.trans cz128)
  obtain ⟨y0, y1, rfl⟩ := len2 (show xs.length = 2 from hxl)
  have f0 : DataW.trod enc Tryz.prog w 0 (fun _ => true) true n 3 (([v0, v1].drop 0).take 1) = some y0 := (congrArg (fun q => DataW.trod enc Tryz.prog w 0 (fun _ => true) true n 3 (([v0, v1].drop 0).take q)) cz3).symm.trans (hf 0 _ rfl)
  have f1 : DataW.trod enc Tryz.prog w 0 (fun _ => true) true n 3 (([v0, v1].drop 1).take 1) = some y1 := (congrArg (fun q => DataW.trod enc Tryz.prog w 0 (fun _ => true) true n 3 (([v0, v1].drop 1).take q)) cz3).symm.trans (hf 1 _ rfl)
  exact ⟨n, v0, v1, y0, y1, rfl, rfl, rfl, f0, f1⟩
theorem rd131 {fuel : Nat} {cs : List Value} {y : DataW T × List MemPlace} (h : DataW.trod enc Tryz.prog w 0 (fun _ => true) true fuel 131 cs = some y) :
    ∃ (n : Nat) (v0 v1 v2 v3 : Value) (y0 y1 y2 y3 : DataW T × List MemPlace), fuel = n + 1 ∧ cs = [v0, v1, v2, v3] ∧ y.1 = .agg [y0.1, y1.1, y2.1, y3.1] ∧ DataW.trod enc Tryz.prog w 0 (fun _ => true) true n 3 [v0] = some y0 ∧ DataW.trod enc Tryz.prog w 0 (fun _ => true) true n 3 [v1] = some y1 ∧ DataW.trod enc Tryz.prog w 0 (fun _ => true) true n 3 [v2] = some y2 ∧ DataW.trod enc Tryz.prog w 0 (fun _ => true) true n 4 [v3] = some y3 := by
  obtain ⟨xs, n, rfl, rfl, hl, hxl, hf⟩ := DataW.trod_struct Tryz.underlying131 h
  obtain ⟨v0, v1, v2, v3, rfl⟩ := len4 (hl.trans cz131)
  obtain ⟨y0, y1, y2, y3, rfl⟩ := len4 (show xs.length = 4 from hxl)
  have f0 : DataW.trod enc Tryz.prog w 0 (fun _ => true) true n 3 (([v0, v1, v2, v3].drop 0).take 1) = some y0 := (congrArg (fun q => DataW.trod enc Tryz.prog w 0 (fun _ => true) true n 3 (([v0, v1, v2, v3].drop 0).take q)) cz3).symm.trans (hf 0 _ rfl)
  have f1 : DataW.trod enc Tryz.prog w 0 (fun _ => true) true n 3 (([v0, v1, v2, v3].drop 1).take 1) = some y1 := (congrArg (fun q => DataW.trod enc Tryz.prog w 0 (fun _ => true) true n 3 (([v0, v1, v2, v3].drop 1).take q)) cz3).symm.trans (hf 1 _ rfl)
  have f2 : DataW.trod enc Tryz.prog w 0 (fun _ => true) true n 3 (([v0, v1, v2, v3].drop 2).take 1) = some y2 := (congrArg (fun q => DataW.trod enc Tryz.prog w 0 (fun _ => true) true n 3 (([v0, v1, v2, v3].drop 2).take q)) cz3).symm.trans (hf 2 _ rfl)
  have f3 : DataW.trod enc Tryz.prog w 0 (fun _ => true) true n 4 (([v0, v1, v2, v3].drop 3).take 1) = some y3 := (congrArg (fun q => DataW.trod enc Tryz.prog w 0 (fun _ => true) true n 4 (([v0, v1, v2, v3].drop 3).take q)) cz4).symm.trans (hf 3 _ rfl)
  exact ⟨n, v0, v1, v2, v3, y0, y1, y2, y3, rfl, rfl, rfl, f0, f1, f2, f3⟩
theorem rd29 {fuel : Nat} {cs : List Value} {y : DataW T × List MemPlace} (h : DataW.trod enc Tryz.prog w 0 (fun _ => true) true fuel 29 cs = some y) :
    ∃ (n : Nat) (v0 v1 v2 v3 : Value) (y0 y1 y2 y3 : DataW T × List MemPlace), fuel = n + 1 ∧ cs = [v0, v1, v2, v3] ∧ y.1 = .agg [y0.1, y1.1, y2.1, y3.1] ∧ DataW.trod enc Tryz.prog w 0 (fun _ => true) true n 3 [v0] = some y0 ∧ DataW.trod enc Tryz.prog w 0 (fun _ => true) true n 3 [v1] = some y1 ∧ DataW.trod enc Tryz.prog w 0 (fun _ => true) true n 26 [v2] = some y2 ∧ DataW.trod enc Tryz.prog w 0 (fun _ => true) true n 27 [v3] = some y3 := by
  obtain ⟨xs, n, rfl, rfl, hl, hxl, hf⟩ := DataW.trod_struct Tryz.underlying29 h
  obtain ⟨v0, v1, v2, v3, rfl⟩ := len4 (hl.trans cz29)
  obtain ⟨y0, y1, y2, y3, rfl⟩ := len4 (show xs.length = 4 from hxl)
  have f0 : DataW.trod enc Tryz.prog w 0 (fun _ => true) true n 3 (([v0, v1, v2, v3].drop 0).take 1) = some y0 := (congrArg (fun q => DataW.trod enc Tryz.prog w 0 (fun _ => true) true n 3 (([v0, v1, v2, v3].drop 0).take q)) cz3).symm.trans (hf 0 _ rfl)
  have f1 : DataW.trod enc Tryz.prog w 0 (fun _ => true) true n 3 (([v0, v1, v2, v3].drop 1).take 1) = some y1 := (congrArg (fun q => DataW.trod enc Tryz.prog w 0 (fun _ => true) true n 3 (([v0, v1, v2, v3].drop 1).take q)) cz3).symm.trans (hf 1 _ rfl)
  have f2 : DataW.trod enc Tryz.prog w 0 (fun _ => true) true n 26 (([v0, v1, v2, v3].drop 2).take 1) = some y2 := (congrArg (fun q => DataW.trod enc Tryz.prog w 0 (fun _ => true) true n 26 (([v0, v1, v2, v3].drop 2).take q)) cz26).symm.trans (hf 2 _ rfl)
  have f3 : DataW.trod enc Tryz.prog w 0 (fun _ => true) true n 27 (([v0, v1, v2, v3].drop 3).take 1) = some y3 := (congrArg (fun q => DataW.trod enc Tryz.prog w 0 (fun _ => true) true n 27 (([v0, v1, v2, v3].drop 3).take q)) cz27).symm.trans (hf 3 _ rfl)
  exact ⟨n, v0, v1, v2, v3, y0, y1, y2, y3, rfl, rfl, rfl, f0, f1, f2, f3⟩
theorem rd31 {fuel : Nat} {cs : List Value} {y : DataW T × List MemPlace} (h : DataW.trod enc Tryz.prog w 0 (fun _ => true) true fuel 31 cs = some y) :
    ∃ (n : Nat) (v0 v1 v2 v3 v4 : Value) (y0 y1 : DataW T × List MemPlace), fuel = n + 1 ∧ cs = [v0, v1, v2, v3, v4] ∧ y.1 = .agg [y0.1, y1.1] ∧ DataW.trod enc Tryz.prog w 0 (fun _ => true) true n 25 [v0] = some y0 ∧ DataW.trod enc Tryz.prog w 0 (fun _ => true) true n 29 [v1, v2, v3, v4] = some y1 := by
  obtain ⟨xs, n, rfl, rfl, hl, hxl, hf⟩ := DataW.trod_struct Tryz.underlying31 h
  obtain ⟨v0, v1, v2, v3, v4, rfl⟩ := len5 (hl.trans cz31)
  obtain ⟨y0, y1, rfl⟩ := len2 (show xs.length = 2 from hxl)
  have f0 : DataW.trod enc Tryz.prog w 0 (fun _ => true) true n 25 (([v0, v1, v2, v3, v4].drop 0).take 1) = some y0 := (congrArg (fun q => DataW.trod enc Tryz.prog w 0 (fun _ => true) true n 25 (([v0, v1, v2, v3, v4].drop 0).take q)) cz25).symm.trans (hf 0 _ rfl)
  have f1 : DataW.trod enc Tryz.prog w 0 (fun _ => true) true n 29 (([v0, v1, v2, v3, v4].drop 1).take 4) = some y1 := (congrArg (fun q => DataW.trod enc Tryz.prog w 0 (fun _ => true) true n 29 (([v0, v1, v2, v3, v4].drop 1).take q)) cz29).symm.trans (hf 1 _ rfl)
  exact ⟨n, v0, v1, v2, v3, v4, y0, y1, rfl, rfl, rfl, f0, f1⟩
theorem rd60 {fuel : Nat} {cs : List Value} {y : DataW T × List MemPlace} (h : DataW.trod enc Tryz.prog w 0 (fun _ => true) true fuel 60 cs = some y) :
    ∃ (n : Nat) (v0 v1 v2 v3 v4 v5 v6 v7 v8 v9 v10 : Value) (y0 y1 y2 y3 y4 y5 y6 : DataW T × List MemPlace), fuel = n + 1 ∧ cs = [v0, v1, v2, v3, v4, v5, v6, v7, v8, v9, v10] ∧ y.1 = .agg [y0.1, y1.1, y2.1, y3.1, y4.1, y5.1, y6.1] ∧ DataW.trod enc Tryz.prog w 0 (fun _ => true) true n 3 [v0] = some y0 ∧ DataW.trod enc Tryz.prog w 0 (fun _ => true) true n 3 [v1] = some y1 ∧ DataW.trod enc Tryz.prog w 0 (fun _ => true) true n 3 [v2] = some y2 ∧ DataW.trod enc Tryz.prog w 0 (fun _ => true) true n 9 [v3] = some y3 ∧ DataW.trod enc Tryz.prog w 0 (fun _ => true) true n 31 [v4, v5, v6, v7, v8] = some y4 ∧ DataW.trod enc Tryz.prog w 0 (fun _ => true) true n 22 [v9] = some y5 ∧ DataW.trod enc Tryz.prog w 0 (fun _ => true) true n 23 [v10] = some y6 := by
  obtain ⟨xs, n, rfl, rfl, hl, hxl, hf⟩ := DataW.trod_struct Tryz.underlying60 h
  obtain ⟨v0, v1, v2, v3, v4, v5, v6, v7, v8, v9, v10, rfl⟩ := len11 (hl.trans cz60)
  obtain ⟨y0, y1, y2, y3, y4, y5, y6, rfl⟩ := len7 (show xs.length = 7 from hxl)
  have f0 : DataW.trod enc Tryz.prog w 0 (fun _ => true) true n 3 (([v0, v1, v2, v3, v4, v5, v6, v7, v8, v9, v10].drop 0).take 1) = some y0 := (congrArg (fun q => DataW.trod enc Tryz.prog w 0 (fun _ => true) true n 3 (([v0, v1, v2, v3, v4, v5, v6, v7, v8, v9, v10].drop 0).take q)) cz3).symm.trans (hf 0 _ rfl)
  have f1 : DataW.trod enc Tryz.prog w 0 (fun _ => true) true n 3 (([v0, v1, v2, v3, v4, v5, v6, v7, v8, v9, v10].drop 1).take 1) = some y1 := (congrArg (fun q => DataW.trod enc Tryz.prog w 0 (fun _ => true) true n 3 (([v0, v1, v2, v3, v4, v5, v6, v7, v8, v9, v10].drop 1).take q)) cz3).symm.trans (hf 1 _ rfl)
  have f2 : DataW.trod enc Tryz.prog w 0 (fun _ => true) true n 3 (([v0, v1, v2, v3, v4, v5, v6, v7, v8, v9, v10].drop 2).take 1) = some y2 := (congrArg (fun q => DataW.trod enc Tryz.prog w 0 (fun _ => true) true n 3 (([v0, v1, v2, v3, v4, v5, v6, v7, v8, v9, v10].drop 2).take q)) cz3).symm.trans (hf 2 _ rfl)
  have f3 : DataW.trod enc Tryz.prog w 0 (fun _ => true) true n 9 (([v0, v1, v2, v3, v4, v5, v6, v7, v8, v9, v10].drop 3).take 1) = some y3 := (congrArg (fun q => DataW.trod enc Tryz.prog w 0 (fun _ => true) true n 9 (([v0, v1, v2, v3, v4, v5, v6, v7, v8, v9, v10].drop 3).take q)) cz9).symm.trans (hf 3 _ rfl)
  have f4 : DataW.trod enc Tryz.prog w 0 (fun _ => true) true n 31 (([v0, v1, v2, v3, v4, v5, v6, v7, v8, v9, v10].drop 4).take 5) = some y4 := (congrArg (fun q => DataW.trod enc Tryz.prog w 0 (fun _ => true) true n 31 (([v0, v1, v2, v3, v4, v5, v6, v7, v8, v9, v10].drop 4).take q)) cz31).symm.trans (hf 4 _ rfl)
  have f5 : DataW.trod enc Tryz.prog w 0 (fun _ => true) true n 22 (([v0, v1, v2, v3, v4, v5, v6, v7, v8, v9, v10].drop 9).take 1) = some y5 := (congrArg (fun q => DataW.trod enc Tryz.prog w 0 (fun _ => true) true n 22 (([v0, v1, v2, v3, v4, v5, v6, v7, v8, v9, v10].drop 9).take q)) cz22).symm.trans (hf 5 _ rfl)
  have f6 : DataW.trod enc Tryz.prog w 0 (fun _ => true) true n 23 (([v0, v1, v2, v3, v4, v5, v6, v7, v8, v9, v10].drop 10).take 1) = some y6 := (congrArg (fun q => DataW.trod enc Tryz.prog w 0 (fun _ => true) true n 23 (([v0, v1, v2, v3, v4, v5, v6, v7, v8, v9, v10].drop 10).take q)) cz23).symm.trans (hf 6 _ rfl)
  exact ⟨n, v0, v1, v2, v3, v4, v5, v6, v7, v8, v9, v10, y0, y1, y2, y3, y4, y5, y6, rfl, rfl, rfl, f0, f1, f2, f3, f4, f5, f6⟩
theorem rd62 {fuel : Nat} {cs : List Value} {y : DataW T × List MemPlace} (h : DataW.trod enc Tryz.prog w 0 (fun _ => true) true fuel 62 cs = some y) :
    ∃ (n : Nat) (v0 v1 v2 v3 v4 v5 : Value) (y0 y1 : DataW T × List MemPlace), fuel = n + 1 ∧ cs = [v0, v1, v2, v3, v4, v5] ∧ y.1 = .agg [y0.1, y1.1] ∧ DataW.trod enc Tryz.prog w 0 (fun _ => true) true n 31 [v0, v1, v2, v3, v4] = some y0 ∧ DataW.trod enc Tryz.prog w 0 (fun _ => true) true n 24 [v5] = some y1 := by
  obtain ⟨xs, n, rfl, rfl, hl, hxl, hf⟩ := DataW.trod_struct Tryz.underlying62 h
  obtain ⟨v0, v1, v2, v3, v4, v5, rfl⟩ := len6 (hl.trans cz62)
  obtain ⟨y0, y1, rfl⟩ := len2 (show xs.length = 2 from hxl)
  have f0 : DataW.trod enc Tryz.prog w 0 (fun _ => true) true n 31 (([v0, v1, v2, v3, v4, v5].drop 0).take 5) = some y0 := (congrArg (fun q => DataW.trod enc Tryz.prog w 0 (fun _ => true) true n 31 (([v0, v1, v2, v3, v4, v5].drop 0).take q)) cz31).symm.trans (hf 0 _ rfl)
  have f1 : DataW.trod enc Tryz.prog w 0 (fun _ => true) true n 24 (([v0, v1, v2, v3, v4, v5].drop 5).take 1) = some y1 := (congrArg (fun q => DataW.trod enc Tryz.prog w 0 (fun _ => true) true n 24 (([v0, v1, v2, v3, v4, v5].drop 5).take q)) cz24).symm.trans (hf 1 _ rfl)
  exact ⟨n, v0, v1, v2, v3, v4, v5, y0, y1, rfl, rfl, rfl, f0, f1⟩
theorem rd90 {fuel : Nat} {cs : List Value} {y : DataW T × List MemPlace} (h : DataW.trod enc Tryz.prog w 0 (fun _ => true) true fuel 90 cs = some y) :
    ∃ (n : Nat) (v0 v1 v2 v3 v4 v5 v6 : Value) (y0 y1 y2 : DataW T × List MemPlace), fuel = n + 1 ∧ cs = [v0, v1, v2, v3, v4, v5, v6] ∧ y.1 = .agg [y0.1, y1.1, y2.1] ∧ DataW.trod enc Tryz.prog w 0 (fun _ => true) true n 3 [v0] = some y0 ∧ DataW.trod enc Tryz.prog w 0 (fun _ => true) true n 31 [v1, v2, v3, v4, v5] = some y1 ∧ DataW.trod enc Tryz.prog w 0 (fun _ => true) true n 22 [v6] = some y2 := by
  obtain ⟨xs, n, rfl, rfl, hl, hxl, hf⟩ := DataW.trod_struct Tryz.underlying90 h
  obtain ⟨v0, v1, v2, v3, v4, v5, v6, rfl⟩ := len7 (hl.trans cz90)
  obtain ⟨y0, y1, y2, rfl⟩ := len3 (show xs.length = 3 from hxl)
  have f0 : DataW.trod enc Tryz.prog w 0 (fun _ => true) true n 3 (([v0, v1, v2, v3, v4, v5, v6].drop 0).take 1) = some y0 := (congrArg (fun q => DataW.trod enc Tryz.prog w 0 (fun _ => true) true n 3 (([v0, v1, v2, v3, v4, v5, v6].drop 0).take q)) cz3).symm.trans (hf 0 _ rfl)
  have f1 : DataW.trod enc Tryz.prog w 0 (fun _ => true) true n 31 (([v0, v1, v2, v3, v4, v5, v6].drop 1).take 5) = some y1 := (congrArg (fun q => DataW.trod enc Tryz.prog w 0 (fun _ => true) true n 31 (([v0, v1, v2, v3, v4, v5, v6].drop 1).take q)) cz31).symm.trans (hf 1 _ rfl)
  have f2 : DataW.trod enc Tryz.prog w 0 (fun _ => true) true n 22 (([v0, v1, v2, v3, v4, v5, v6].drop 6).take 1) = some y2 := (congrArg (fun q => DataW.trod enc Tryz.prog w 0 (fun _ => true) true n 22 (([v0, v1, v2, v3, v4, v5, v6].drop 6).take q)) cz22).symm.trans (hf 2 _ rfl)
  exact ⟨n, v0, v1, v2, v3, v4, v5, v6, y0, y1, y2, rfl, rfl, rfl, f0, f1, f2⟩
theorem rd155 {fuel : Nat} {cs : List Value} {y : DataW T × List MemPlace} (h : DataW.trod enc Tryz.prog w 0 (fun _ => true) true fuel 155 cs = some y) :
    ∃ (n : Nat) (v0 v1 v2 v3 : Value) (y0 y1 y2 y3 : DataW T × List MemPlace), fuel = n + 1 ∧ cs = [v0, v1, v2, v3] ∧ y.1 = .agg [y0.1, y1.1, y2.1, y3.1] ∧ DataW.trod enc Tryz.prog w 0 (fun _ => true) true n 3 [v0] = some y0 ∧ DataW.trod enc Tryz.prog w 0 (fun _ => true) true n 3 [v1] = some y1 ∧ DataW.trod enc Tryz.prog w 0 (fun _ => true) true n 9 [v2] = some y2 ∧ DataW.trod enc Tryz.prog w 0 (fun _ => true) true n 3 [v3] = some y3 := by
  obtain ⟨xs, n, rfl, rfl, hl, hxl, hf⟩ := DataW.trod_struct Tryz.underlying155 h
  obtain ⟨v0, v1, v2, v3, rfl⟩ := len4 (hl.trans cz155)
  obtain ⟨y0, y1, y2, y3, rfl⟩ := len4 (show xs.length = 4 from hxl)
  have f0 : DataW.trod enc Tryz.prog w 0 (fun _ => true) true n 3 (([v0, v1, v2, v3].drop 0).take 1) = some y0 := (congrArg (fun q => DataW.trod enc Tryz.prog w 0 (fun _ => true) true n 3 (([v0, v1, v2, v3].drop 0).take q)) cz3).symm.trans (hf 0 _ rfl)
  have f1 : DataW.trod enc Tryz.prog w 0 (fun _ => true) true n 3 (([v0, v1, v2, v3].drop 1).take 1) = some y1 := (congrArg (fun q => DataW.trod enc Tryz.prog w 0 (fun _ => true) true n 3 (([v0, v1, v2, v3].drop 1).take q)) cz3).symm.trans (hf 1 _ rfl)
  have f2 : DataW.trod enc Tryz.prog w 0 (fun _ => true) true n 9 (([v0, v1, v2, v3].drop 2).take 1) = some y2 := (congrArg (fun q => DataW.trod enc Tryz.prog w 0 (fun _ => true) true n 9 (([v0, v1, v2, v3].drop 2).take q)) cz9).symm.trans (hf 2 _ rfl)
  have f3 : DataW.trod enc Tryz.prog w 0 (fun _ => true) true n 3 (([v0, v1, v2, v3].drop 3).take 1) = some y3 := (congrArg (fun q => DataW.trod enc Tryz.prog w 0 (fun _ => true) true n 3 (([v0, v1, v2, v3].drop 3).take q)) cz3).symm.trans (hf 3 _ rfl)
  exact ⟨n, v0, v1, v2, v3, y0, y1, y2, y3, rfl, rfl, rfl, f0, f1, f2, f3⟩
theorem rd152 {fuel : Nat} {cs : List Value} {y : DataW T × List MemPlace} (h : DataW.trod enc Tryz.prog w 0 (fun _ => true) true fuel 152 cs = some y) :
    ∃ (n : Nat) (v0 v1 : Value) (y0 y1 : DataW T × List MemPlace), fuel = n + 1 ∧ cs = [v0, v1] ∧ y.1 = .agg [y0.1, y1.1] ∧ DataW.trod enc Tryz.prog w 0 (fun _ => true) true n 3 [v0] = some y0 ∧ DataW.trod enc Tryz.prog w 0 (fun _ => true) true n 150 [v1] = some y1 := by
  obtain ⟨xs, n, rfl, rfl, hl, hxl, hf⟩ := DataW.trod_struct Tryz.underlying152 h
  obtain ⟨v0, v1, rfl⟩ := len2 (hl.trans cz152)
  obtain ⟨y0, y1, rfl⟩ := len2 (show xs.length = 2 from hxl)
  have f0 : DataW.trod enc Tryz.prog w 0 (fun _ => true) true n 3 (([v0, v1].drop 0).take 1) = some y0 := (congrArg (fun q => DataW.trod enc Tryz.prog w 0 (fun _ => true) true n 3 (([v0, v1].drop 0).take q)) cz3).symm.trans (hf 0 _ rfl)
  have f1 : DataW.trod enc Tryz.prog w 0 (fun _ => true) true n 150 (([v0, v1].drop 1).take 1) = some y1 := (congrArg (fun q => DataW.trod enc Tryz.prog w 0 (fun _ => true) true n 150 (([v0, v1].drop 1).take q)) cz150).symm.trans (hf 1 _ rfl)
  exact ⟨n, v0, v1, y0, y1, rfl, rfl, rfl, f0, f1⟩
theorem rd162 {fuel : Nat} {cs : List Value} {y : DataW T × List MemPlace} (h : DataW.trod enc Tryz.prog w 0 (fun _ => true) true fuel 162 cs = some y) :
    ∃ (n : Nat) (v0 v1 v2 v3 v4 v5 : Value) (y0 y1 y2 y3 y4 y5 : DataW T × List MemPlace), fuel = n + 1 ∧ cs = [v0, v1, v2, v3, v4, v5] ∧ y.1 = .agg [y0.1, y1.1, y2.1, y3.1, y4.1, y5.1] ∧ DataW.trod enc Tryz.prog w 0 (fun _ => true) true n 3 [v0] = some y0 ∧ DataW.trod enc Tryz.prog w 0 (fun _ => true) true n 3 [v1] = some y1 ∧ DataW.trod enc Tryz.prog w 0 (fun _ => true) true n 9 [v2] = some y2 ∧ DataW.trod enc Tryz.prog w 0 (fun _ => true) true n 3 [v3] = some y3 ∧ DataW.trod enc Tryz.prog w 0 (fun _ => true) true n 9 [v4] = some y4 ∧ DataW.trod enc Tryz.prog w 0 (fun _ => true) true n 4 [v5] = some y5 := by
  obtain ⟨xs, n, rfl, rfl, hl, hxl, hf⟩ := DataW.trod_struct Tryz.underlying162 h
  obtain ⟨v0, v1, v2, v3, v4, v5, rfl⟩ := len6 (hl.trans cz162)
  obtain ⟨y0, y1, y2, y3, y4, y5, rfl⟩ := len6 (show xs.length = 6 from hxl)
  have f0 : DataW.trod enc Tryz.prog w 0 (fun _ => true) true n 3 (([v0, v1, v2, v3, v4, v5].drop 0).take 1) = some y0 := (congrArg (fun q => DataW.trod enc Tryz.prog w 0 (fun _ => true) true n 3 (([v0, v1, v2, v3, v4, v5].drop 0).take q)) cz3).symm.trans (hf 0 _ rfl)
  have f1 : DataW.trod enc Tryz.prog w 0 (fun _ => true) true n 3 (([v0, v1, v2, v3, v4, v5].drop 1).take 1) = some y1 := (congrArg (fun q => DataW.trod enc Tryz.prog w 0 (fun _ => true) true n 3 (([v0, v1, v2, v3, v4, v5].drop 1).take q)) cz3).symm.trans (hf 1 _ rfl)
  have f2 : DataW.trod enc Tryz.prog w 0 (fun _ => true) true n 9 (([v0, v1, v2, v3, v4, v5].drop 2).take 1) = some y2 := (congrArg (fun q => DataW.trod enc Tryz.prog w 0 (fun _ => true) true n 9 (([v0, v1, v2, v3, v4, v5].drop 2).take q)) cz9).symm.trans (hf 2 _ rfl)
  have f3 : DataW.trod enc Tryz.prog w 0 (fun _ => true) true n 3 (([v0, v1, v2, v3, v4, v5].drop 3).take 1) = some y3 := (congrArg (fun q => DataW.trod enc Tryz.prog w 0 (fun _ => true) true n 3 (([v0, v1, v2, v3, v4, v5].drop 3).take q)) cz3).symm.trans (hf 3 _ rfl)
  have f4 : DataW.trod enc Tryz.prog w 0 (fun _ => true) true n 9 (([v0, v1, v2, v3, v4, v5].drop 4).take 1) = some y4 := (congrArg (fun q => DataW.trod enc Tryz.prog w 0 (fun _ => true) true n 9 (([v0, v1, v2, v3, v4, v5].drop 4).take q)) cz9).symm.trans (hf 4 _ rfl)
  have f5 : DataW.trod enc Tryz.prog w 0 (fun _ => true) true n 4 (([v0, v1, v2, v3, v4, v5].drop 5).take 1) = some y5 := (congrArg (fun q => DataW.trod enc Tryz.prog w 0 (fun _ => true) true n 4 (([v0, v1, v2, v3, v4, v5].drop 5).take q)) cz4).symm.trans (hf 5 _ rfl)
  exact ⟨n, v0, v1, v2, v3, v4, v5, y0, y1, y2, y3, y4, y5, rfl, rfl, rfl, f0, f1, f2, f3, f4, f5⟩
theorem rd165 {fuel : Nat} {cs : List Value} {y : DataW T × List MemPlace} (h : DataW.trod enc Tryz.prog w 0 (fun _ => true) true fuel 165 cs = some y) :
    ∃ (n : Nat) (v0 v1 : Value) (y0 y1 : DataW T × List MemPlace), fuel = n + 1 ∧ cs = [v0, v1] ∧ y.1 = .agg [y0.1, y1.1] ∧ DataW.trod enc Tryz.prog w 0 (fun _ => true) true n 9 [v0] = some y0 ∧ DataW.trod enc Tryz.prog w 0 (fun _ => true) true n 9 [v1] = some y1 := by
  obtain ⟨xs, n, rfl, rfl, hl, hxl, hf⟩ := DataW.trod_struct Tryz.underlying165 h
  obtain ⟨v0, v1, rfl⟩ := len2 (hl.trans cz165)
  obtain ⟨y0, y1, rfl⟩ := len2 (show xs.length = 2 from hxl)
  have f0 : DataW.trod enc Tryz.prog w 0 (fun _ => true) true n 9 (([v0, v1].drop 0).take 1) = some y0 := (congrArg (fun q => DataW.trod enc Tryz.prog w 0 (fun _ => true) true n 9 (([v0, v1].drop 0).take q)) cz9).symm.trans (hf 0 _ rfl)
  have f1 : DataW.trod enc Tryz.prog w 0 (fun _ => true) true n 9 (([v0, v1].drop 1).take 1) = some y1 := (congrArg (fun q => DataW.trod enc Tryz.prog w 0 (fun _ => true) true n 9 (([v0, v1].drop 1).take q)) cz9).symm.trans (hf 1 _ rfl)
  exact ⟨n, v0, v1, y0, y1, rfl, rfl, rfl, f0, f1⟩
theorem rd171 {fuel : Nat} {cs : List Value} {y : DataW T × List MemPlace} (h : DataW.trod enc Tryz.prog w 0 (fun _ => true) true fuel 171 cs = some y) :
    ∃ (n : Nat) (v0 v1 v2 v3 v4 v5 : Value) (y0 y1 y2 y3 y4 y5 : DataW T × List MemPlace), fuel = n + 1 ∧ cs = [v0, v1, v2, v3, v4, v5] ∧ y.1 = .agg [y0.1, y1.1, y2.1, y3.1, y4.1, y5.1] ∧ DataW.trod enc Tryz.prog w 0 (fun _ => true) true n 3 [v0] = some y0 ∧ DataW.trod enc Tryz.prog w 0 (fun _ => true) true n 3 [v1] = some y1 ∧ DataW.trod enc Tryz.prog w 0 (fun _ => true) true n 9 [v2] = some y2 ∧ DataW.trod enc Tryz.prog w 0 (fun _ => true) true n 3 [v3] = some y3 ∧ DataW.trod enc Tryz.prog w 0 (fun _ => true) true n 3 [v4] = some y4 ∧ DataW.trod enc Tryz.prog w 0 (fun _ => true) true n 25 [v5] = some y5 := by
  obtain ⟨xs, n, rfl, rfl, hl, hxl, hf⟩ := DataW.trod_struct Tryz.underlying171 h
  obtain ⟨v0, v1, v2, v3, v4, v5, rfl⟩ := len6 (hl.trans cz171)
  obtain ⟨y0, y1, y2, y3, y4, y5, rfl⟩ := len6 (show xs.length = 6 from hxl)
  have f0 : DataW.trod enc Tryz.prog w 0 (fun _ => true) true n 3 (([v0, v1, v2, v3, v4, v5].drop 0).take 1) = some y0 := (congrArg (fun q => DataW.trod enc Tryz.prog w 0 (fun _ => true) true n 3 (([v0, v1, v2, v3, v4, v5].drop 0).take q)) cz3).symm.trans (hf 0 _ rfl)
  have f1 : DataW.trod enc Tryz.prog w 0 (fun _ => true) true n 3 (([v0, v1, v2, v3, v4, v5].drop 1).take 1) = some y1 := (congrArg (fun q => DataW.trod enc Tryz.prog w 0 (fun _ => true) true n 3 (([v0, v1, v2, v3, v4, v5].drop 1).take q)) cz3).symm.trans (hf 1 _ rfl)
  have f2 : DataW.trod enc Tryz.prog w 0 (fun _ => true) true n 9 (([v0, v1, v2, v3, v4, v5].drop 2).take 1) = some y2 := (congrArg (fun q => DataW.trod enc Tryz.prog w 0 (fun _ => true) true n 9 (([v0, v1, v2, v3, v4, v5].drop 2).take q)) cz9).symm.trans (hf 2 _ rfl)
  have f3 : DataW.trod enc Tryz.prog w 0 (fun _ => true) true n 3 (([v0, v1, v2, v3, v4, v5].drop 3).take 1) = some y3 := (congrArg (fun q => DataW.trod enc Tryz.prog w 0 (fun _ => true) true n 3 (([v0, v1, v2, v3, v4, v5].drop 3).take q)) cz3).symm.trans (hf 3 _ rfl)
  have f4 : DataW.trod enc Tryz.prog w 0 (fun _ => true) true n 3 (([v0, v1, v2, v3, v4, v5].drop 4).take 1) = some y4 := (congrArg (fun q => DataW.trod enc Tryz.prog w 0 (fun _ => true) true n 3 (([v0, v1, v2, v3, v4, v5].drop 4).take q)) cz3).symm.trans (hf 4 _ rfl)
  have f5 : DataW.trod enc Tryz.prog w 0 (fun _ => true) true n 25 (([v0, v1, v2, v3, v4, v5].drop 5).take 1) = some y5 := (congrArg (fun q => DataW.trod enc Tryz.prog w 0 (fun _ => true) true n 25 (([v0, v1, v2, v3, v4, v5].drop 5).take q)) cz25).symm.trans (hf 5 _ rfl)
  exact ⟨n, v0, v1, v2, v3, v4, v5, y0, y1, y2, y3, y4, y5, rfl, rfl, rfl, f0, f1, f2, f3, f4, f5⟩
theorem rd37 {fuel : Nat} {cs : List Value} {y : DataW T × List MemPlace} (h : DataW.trod enc Tryz.prog w 0 (fun _ => true) true fuel 37 cs = some y) :
    ∃ (n : Nat) (v0 v1 v2 v3 : Value) (y0 y1 y2 y3 : DataW T × List MemPlace), fuel = n + 1 ∧ cs = [v0, v1, v2, v3] ∧ y.1 = .agg [y0.1, y1.1, y2.1, y3.1] ∧ DataW.trod enc Tryz.prog w 0 (fun _ => true) true n 32 [v0] = some y0 ∧ DataW.trod enc Tryz.prog w 0 (fun _ => true) true n 33 [v1] = some y1 ∧ DataW.trod enc Tryz.prog w 0 (fun _ => true) true n 34 [v2] = some y2 ∧ DataW.trod enc Tryz.prog w 0 (fun _ => true) true n 35 [v3] = some y3 := by
  obtain ⟨xs, n, rfl, rfl, hl, hxl, hf⟩ := DataW.trod_struct Tryz.underlying37 h
  obtain ⟨v0, v1, v2, v3, rfl⟩ := len4 (hl.trans cz37)
  obtain ⟨y0, y1, y2, y3, rfl⟩ := len4 (show xs.length = 4 from hxl)
  have f0 : DataW.trod enc Tryz.prog w 0 (fun _ => true) true n 32 (([v0, v1, v2, v3].drop 0).take 1) = some y0 := (congrArg (fun q => DataW.trod enc Tryz.prog w 0 (fun _ => true) true n 32 (([v0, v1, v2, v3].drop 0).take q)) cz32).symm.trans (hf 0 _ rfl)
  have f1 : DataW.trod enc Tryz.prog w 0 (fun _ => true) true n 33 (([v0, v1, v2, v3].drop 1).take 1) = some y1 := (congrArg (fun q => DataW.trod enc Tryz.prog w 0 (fun _ => true) true n 33 (([v0, v1, v2, v3].drop 1).take q)) cz33).symm.trans (hf 1 _ rfl)
  have f2 : DataW.trod enc Tryz.prog w 0 (fun _ => true) true n 34 (([v0, v1, v2, v3].drop 2).take 1) = some y2 := (congrArg (fun q => DataW.trod enc Tryz.prog w 0 (fun _ => true) true n 34 (([v0, v1, v2, v3].drop 2).take q)) cz34).symm.trans (hf 2 _ rfl)
  have f3 : DataW.trod enc Tryz.prog w 0 (fun _ => true) true n 35 (([v0, v1, v2, v3].drop 3).take 1) = some y3 := (congrArg (fun q => DataW.trod enc Tryz.prog w 0 (fun _ => true) true n 35 (([v0, v1, v2, v3].drop 3).take q)) cz35).symm.trans (hf 3 _ rfl)
  exact ⟨n, v0, v1, v2, v3, y0, y1, y2, y3, rfl, rfl, rfl, f0, f1, f2, f3⟩
theorem rd39 {fuel : Nat} {cs : List Value} {y : DataW T × List MemPlace} (h : DataW.trod enc Tryz.prog w 0 (fun _ => true) true fuel 39 cs = some y) :
    ∃ (n : Nat) (v0 v1 v2 v3 v4 v5 v6 v7 v8 v9 v10 v11 : Value) (y0 y1 y2 y3 y4 : DataW T × List MemPlace), fuel = n + 1 ∧ cs = [v0, v1, v2, v3, v4, v5, v6, v7, v8, v9, v10, v11] ∧ y.1 = .agg [y0.1, y1.1, y2.1, y3.1, y4.1] ∧ DataW.trod enc Tryz.prog w 0 (fun _ => true) true n 22 [v0] = some y0 ∧ DataW.trod enc Tryz.prog w 0 (fun _ => true) true n 23 [v1] = some y1 ∧ DataW.trod enc Tryz.prog w 0 (fun _ => true) true n 24 [v2] = some y2 ∧ DataW.trod enc Tryz.prog w 0 (fun _ => true) true n 31 [v3, v4, v5, v6, v7] = some y3 ∧ DataW.trod enc Tryz.prog w 0 (fun _ => true) true n 37 [v8, v9, v10, v11] = some y4 := by
  obtain ⟨xs, n, rfl, rfl, hl, hxl, hf⟩ := DataW.trod_struct Tryz.underlying39 h
  obtain ⟨v0, v1, v2, v3, v4, v5, v6, v7, v8, v9, v10, v11, rfl⟩ := len12 (hl.trans cz39)
  obtain ⟨y0, y1, y2, y3, y4, rfl⟩ := len5 (show xs.length = 5 from hxl)
  have f0 : DataW.trod enc Tryz.prog w 0 (fun _ => true) true n 22 (([v0, v1, v2, v3, v4, v5, v6, v7, v8, v9, v10, v11].drop 0).take 1) = some y0 := (congrArg (fun q => DataW.trod enc Tryz.prog w 0 (fun _ => true) true n 22 (([v0, v1, v2, v3, v4, v5, v6, v7, v8, v9, v10, v11].drop 0).take q)) cz22).symm.trans (hf 0 _ rfl)
  have f1 : DataW.trod enc Tryz.prog w 0 (fun _ => true) true n 23 (([v0, v1, v2, v3, v4, v5, v6, v7, v8, v9, v10, v11].drop 1).take 1) = some y1 := (congrArg (fun q => DataW.trod enc Tryz.prog w 0 (fun _ => true) true n 23 (([v0, v1, v2, v3, v4, v5, v6, v7, v8, v9, v10, v11].drop 1).take q)) cz23).symm.trans (hf 1 _ rfl)
  have f2 : DataW.trod enc Tryz.prog w 0 (fun _ => true) true n 24 (([v0, v1, v2, v3, v4, v5, v6, v7, v8, v9, v10, v11].drop 2).take 1) = some y2 := (congrArg (fun q => DataW.trod enc Tryz.prog w 0 (fun _ => true) true n 24 (([v0, v1, v2, v3, v4, v5, v6, v7, v8, v9, v10, v11].drop 2).take q)) cz24).symm.trans (hf 2 _ rfl)
  have f3 : DataW.trod enc Tryz.prog w 0 (fun _ => true) true n 31 (([v0, v1, v2, v3, v4, v5, v6, v7, v8, v9, v10, v11].drop 3).take 5) = some y3 := (congrArg (fun q => DataW.trod enc Tryz.prog w 0 (fun _ => true) true n 31 (([v0, v1, v2, v3, v4, v5, v6, v7, v8, v9, v10, v11].drop 3).take q)) cz31).symm.trans (hf 3 _ rfl)
  have f4 : DataW.trod enc Tryz.prog w 0 (fun _ => true) true n 37 (([v0, v1, v2, v3, v4, v5, v6, v7, v8, v9, v10, v11].drop 8).take 4) = some y4 := (congrArg (fun q => DataW.trod enc Tryz.prog w 0 (fun _ => true) true n 37 (([v0, v1, v2, v3, v4, v5, v6, v7, v8, v9, v10, v11].drop 8).take q)) cz37).symm.trans (hf 4 _ rfl)
  exact ⟨n, v0, v1, v2, v3, v4, v5, v6, v7, v8, v9, v10, v11, y0, y1, y2, y3, y4, rfl, rfl, rfl, f0, f1, f2, f3, f4⟩
theorem rd41 {fuel : Nat} {cs : List Value} {y : DataW T × List MemPlace} (h : DataW.trod enc Tryz.prog w 0 (fun _ => true) true fuel 41 cs = some y) :
    ∃ (n : Nat) (v0 v1 v2 v3 v4 v5 v6 v7 v8 v9 v10 v11 v12 v13 v14 v15 v16 v17 v18 v19 v20 v21 v22 v23 v24 v25 v26 v27 : Value) (y0 y1 y2 y3 y4 y5 : DataW T × List MemPlace), fuel = n + 1 ∧ cs = [v0, v1, v2, v3, v4, v5, v6, v7, v8, v9, v10, v11, v12, v13, v14, v15, v16, v17, v18, v19, v20, v21, v22, v23, v24, v25, v26, v27] ∧ y.1 = .agg [y0.1, y1.1, y2.1, y3.1, y4.1, y5.1] ∧ DataW.trod enc Tryz.prog w 0 (fun _ => true) true n 3 [v0] = some y0 ∧ DataW.trod enc Tryz.prog w 0 (fun _ => true) true n 3 [v1] = some y1 ∧ DataW.trod enc Tryz.prog w 0 (fun _ => true) true n 3 [v2] = some y2 ∧ DataW.trod enc Tryz.prog w 0 (fun _ => true) true n 3 [v3] = some y3 ∧ DataW.trod enc Tryz.prog w 0 (fun _ => true) true n 39 [v4, v5, v6, v7, v8, v9, v10, v11, v12, v13, v14, v15] = some y4 ∧ DataW.trod enc Tryz.prog w 0 (fun _ => true) true n 39 [v16, v17, v18, v19, v20, v21, v22, v23, v24, v25, v26, v27] = some y5 := by
  obtain ⟨xs, n, rfl, rfl, hl, hxl, hf⟩ := DataW.trod_struct Tryz.underlying41 h
  obtain ⟨v0, v1, v2, v3, v4, v5, v6, v7, v8, v9, v10, v11, v12, v13, v14, v15, v16, v17, v18, v19, v20, v21, v22, v23, v24, v25, v26, v27, rfl⟩ := len28 (hl.trans cz41)
  obtain ⟨y0, y1, y2, y3, y4, y5, rfl⟩ := len6 (show xs.length = 6 from hxl)
  have f0 : DataW.trod enc Tryz.prog w 0 (fun _ => true) true n 3 (([v0, v1, v2, v3, v4, v5, v6, v7, v8, v9, v10, v11, v12, v13, v14, v15, v16, v17, v18, v19, v20, v21, v22, v23, v24, v25, v26, v27].drop 0).take 1) = some y0 := (congrArg (fun q => DataW.trod enc Tryz.prog w 0 (fun _ => true) true n 3 (([v0, v1, v2, v3, v4, v5, v6, v7, v8, v9, v10, v11, v12, v13, v14, v15, v16, v17, v18, v19, v20, v21, v22, v23, v24, v25, v26, v27].drop 0).take q)) cz3).symm.trans (hf 0 _ rfl)
  have f1 : DataW.trod enc Tryz.prog w 0 (fun _ => true) true n 3 (([v0, v1, v2, v3, v4, v5, v6, v7, v8, v9, v10, v11, v12, v13, v14, v15, v16, v17, v18, v19, v20, v21, v22, v23, v24, v25, v26, v27].drop 1).take 1) = some y1 := (congrArg (fun q => DataW.trod enc Tryz.prog w 0 (fun _ => true) true n 3 (([v0, v1, v2, v3, v4, v5, v6, v7, v8, v9, v10, v11, v12, v13, v14, v15, v16, v17, v18, v19, v20, v21, v22, v23, v24, v25, v26, v27].drop 1).take q)) cz3).symm.trans (hf 1 _ rfl)
  have f2 : DataW.trod enc Tryz.prog w 0 (fun _ => true) true n 3 (([v0, v1, v2, v3, v4, v5, v6, v7, v8, v9, v10, v11, v12, v13, v14, v15, v16, v17, v18, v19, v20, v21, v22, v23, v24, v25, v26, v27].drop 2).take 1) = some y2 := (congrArg (fun q => DataW.trod enc Tryz.prog w 0 (fun _ => true) true n 3 (([v0, v1, v2, v3, v4, v5, v6, v7, v8, v9, v10, v11, v12, v13, v14, v15, v16, v17, v18, v19, v20, v21, v22, v23, v24, v25, v26, v27].drop 2).take q)) cz3).symm.trans (hf 2 _ rfl)
  have f3 : DataW.trod enc Tryz.prog w 0 (fun _ => true) true n 3 (([v0, v1, v2, v3, v4, v5, v6, v7, v8, v9, v10, v11, v12, v13, v14, v15, v16, v17, v18, v19, v20, v21, v22, v23, v24, v25, v26, v27].drop 3).take 1) = some y3 := (congrArg (fun q => DataW.trod enc Tryz.prog w 0 (fun _ => true) true n 3 (([v0, v1, v2, v3, v4, v5, v6, v7, v8, v9, v10, v11, v12, v13, v14, v15, v16, v17, v18, v19, v20, v21, v22, v23, v24, v25, v26, v27].drop 3).take q)) cz3).symm.trans (hf 3 _ rfl)
  have f4 : DataW.trod enc Tryz.prog w 0 (fun _ => true) true n 39 (([v0, v1, v2, v3, v4, v5, v6, v7, v8, v9, v10, v11, v12, v13, v14, v15, v16, v17, v18, v19, v20, v21, v22, v23, v24, v25, v26, v27].drop 4).take 12) = some y4 := (congrArg (fun q => DataW.trod enc Tryz.prog w 0 (fun _ => true) true n 39 (([v0, v1, v2, v3, v4, v5, v6, v7, v8, v9, v10, v11, v12, v13, v14, v15, v16, v17, v18, v19, v20, v21, v22, v23, v24, v25, v26, v27].drop 4).take q)) cz39).symm.trans (hf 4 _ rfl)
  have f5 : DataW.trod enc Tryz.prog w 0 (fun _ => true) true n 39 (([v0, v1, v2, v3, v4, v5, v6, v7, v8, v9, v10, v11, v12, v13, v14, v15, v16, v17, v18, v19, v20, v21, v22, v23, v24, v25, v26, v27].drop 16).take 12) = some y5 := (congrArg (fun q => DataW.trod enc Tryz.prog w 0 (fun _ => true) true n 39 (([v0, v1, v2, v3, v4, v5, v6, v7, v8, v9, v10, v11, v12, v13, v14, v15, v16, v17, v18, v19, v20, v21, v22, v23, v24, v25, v26, v27].drop 16).take q)) cz39).symm.trans (hf 5 _ rfl)
  exact ⟨n, v0, v1, v2, v3, v4, v5, v6, v7, v8, v9, v10, v11, v12, v13, v14, v15, v16, v17, v18, v19, v20, v21, v22, v23, v24, v25, v26, v27, y0, y1, y2, y3, y4, y5, rfl, rfl, rfl, f0, f1, f2, f3, f4, f5⟩

def PrpH (_ : Hp) (cs : List Value) (p : Prp) : Prop := cs = prow p
def DelH (_ : Hp) (cs : List Value) (p : Dele) : Prop := cs = drow p
def LayH (_ : Hp) (cs : List Value) (p : Layr) : Prop := cs = lrow p
theorem rd_props {fuel : Nat} {v : Value} {y : DataW T × List MemPlace} (h : DataW.trod enc Tryz.prog w 0 (fun _ => true) true fuel 25 [v] = some y) : ∃ a n c, ∃ l : List Prp, v = .slice a n c ∧ HRow (hp w) a n c 2 (l.map prow) ∧ l.length + 1 ≤ Rows.uptoBulk y.1 := by
  obtain ⟨a, n, c, l, rfl, ⟨css, h1, h2⟩, h3⟩ := rd_slice (Rl := PrpH) (μ := fun _ => 1) Tryz.underlying25 cz125 (by omega) (fun cs x hx u hu => prow_one [x] cs (by simp [show cs = prow x from hx]) u hu) (fun n _ cs y hy => by
    obtain ⟨m, v0, v1, y0, y1, rfl, rfl, hy1, g0, g1⟩ := rd125 hy
    obtain ⟨i0, rfl, b0⟩ := rd_int g0
    obtain ⟨i1, rfl, b1⟩ := rd_int g1
    exact ⟨⟨i0, i1⟩, rfl, by rw [hy1]; simp [Rows.uptoBulk]⟩) h
  rw [sum_one] at h3
  exact ⟨a, n, c, l, rfl, all2_map h2 ▸ h1, h3⟩
theorem rd_dels {fuel : Nat} {v : Value} {y : DataW T × List MemPlace} (h : DataW.trod enc Tryz.prog w 0 (fun _ => true) true fuel 26 [v] = some y) : ∃ a n c, ∃ l : List Dele, v = .slice a n c ∧ HRow (hp w) a n c 2 (l.map drow) ∧ l.length + 1 ≤ Rows.uptoBulk y.1 := by
  obtain ⟨a, n, c, l, rfl, ⟨css, h1, h2⟩, h3⟩ := rd_slice (Rl := DelH) (μ := fun _ => 1) Tryz.underlying26 cz128 (by omega) (fun cs x hx u hu => drow_one [x] cs (by simp [show cs = drow x from hx]) u hu) (fun n _ cs y hy => by
    obtain ⟨m, v0, v1, y0, y1, rfl, rfl, hy1, g0, g1⟩ := rd128 hy
    obtain ⟨i0, rfl, b0⟩ := rd_int g0
    obtain ⟨i1, rfl, b1⟩ := rd_int g1
    exact ⟨⟨i0, i1⟩, rfl, by rw [hy1]; simp [Rows.uptoBulk]⟩) h
  rw [sum_one] at h3
  exact ⟨a, n, c, l, rfl, all2_map h2 ▸ h1, h3⟩
theorem rd_layers {fuel : Nat} {v : Value} {y : DataW T × List MemPlace} (h : DataW.trod enc Tryz.prog w 0 (fun _ => true) true fuel 27 [v] = some y) : ∃ a n c, ∃ l : List Layr, v = .slice a n c ∧ HRow (hp w) a n c 4 (l.map lrow) ∧ l.length + 1 ≤ Rows.uptoBulk y.1 := by
  obtain ⟨a, n, c, l, rfl, ⟨css, h1, h2⟩, h3⟩ := rd_slice (Rl := LayH) (μ := fun _ => 1) Tryz.underlying27 cz131 (by omega) (fun cs x hx u hu => lrow_one [x] cs (by simp [show cs = lrow x from hx]) u hu) (fun n _ cs y hy => by
    obtain ⟨m, v0, v1, v2, v3, y0, y1, y2, y3, rfl, rfl, hy1, g0, g1, g2, g3⟩ := rd131 hy
    obtain ⟨i0, rfl, b0⟩ := rd_int g0
    obtain ⟨i1, rfl, b1⟩ := rd_int g1
    obtain ⟨i2, rfl, b2⟩ := rd_int g2
    obtain ⟨i3, rfl, b3⟩ := rd_bool g3
    exact ⟨⟨i0, i1, i2, i3⟩, rfl, by rw [hy1]; simp [Rows.uptoBulk]⟩) h
  rw [sum_one] at h3
  exact ⟨a, n, c, l, rfl, all2_map h2 ▸ h1, h3⟩
theorem rd_head {fuel : Nat} {cs : List Value} {y : DataW T × List MemPlace} (h : DataW.trod enc Tryz.prog w 0 (fun _ => true) true fuel 31 cs = some y) : ∃ g : Head, HeadH (hp w) cs g ∧ cs.length = 5 ∧ g.mass + 1 ≤ Rows.uptoBulk y.1 := by
  obtain ⟨m, v0, v1, v2, v3, v4, y0, y1, rfl, rfl, hy, g0, g1⟩ := rd31 h
  obtain ⟨a, n, c, l, rfl, p1, p2⟩ := rd_props g0
  obtain ⟨m', v1', v2', v3', v4', z0, z1, z2, z3, rfl, hvv, hz, q0, q1, q2, q3⟩ := rd29 g1
  simp only [List.cons.injEq, and_true] at hvv
  obtain ⟨rfl, rfl, rfl, rfl⟩ := hvv
  obtain ⟨i0, rfl, _⟩ := rd_int q0
  obtain ⟨i1, rfl, _⟩ := rd_int q1
  obtain ⟨a2, n2, c2, l2, rfl, p3, p4⟩ := rd_dels q2
  obtain ⟨a3, n3, c3, l3, rfl, p5, p6⟩ := rd_layers q3
  refine ⟨⟨l, i0, i1, l2, l3⟩, ⟨a, n, c, a2, n2, c2, a3, n3, c3, rfl, p1, p3, p5⟩, rfl, ?_⟩
  rw [hy]
  simp only [Rows.uptoBulk, Rows.uptoBulkAll, hz, Head.mass]
  omega

theorem massL_sum (l : List Item) : massL l = (l.map Item.mass).sum := by
  induction l with
  | nil => rfl
  | cons x l ih => simp [massL, ih]
theorem massC_sum (l : List Cell) : massC l = (l.map fun x => 1 + x.2.1.mass + massL x.2.2).sum := by
  induction l with
  | nil => rfl
  | cons x l ih => obtain ⟨i, h, f⟩ := x; simp [massC, ih]
theorem massR_sum (l : List Row) : massR l = (l.map fun x => 1 + x.1.mass + massC x.2).sum := by
  induction l with
  | nil => rfl
  | cons x l ih => obtain ⟨h, c⟩ := x; simp [massR, ih]
/-- what is said of all flows, rows and cells that are read in so many steps -/
def RdAll (enc : TypeId × Value → T) (w : World) (fuel : Nat) : Prop :=
  (∀ v y, DataW.trod enc Tryz.prog w 0 (fun _ => true) true fuel 22 [v] = some y → ∃ a n c l, v = .slice a n c ∧ FlowH (hp w) a n c l ∧ massL l + 1 ≤ Rows.uptoBulk y.1) ∧
  (∀ v y, DataW.trod enc Tryz.prog w 0 (fun _ => true) true fuel 23 [v] = some y → ∃ a n c l, v = .slice a n c ∧ RowsS (hp w) a n c l ∧ massR l + 1 ≤ Rows.uptoBulk y.1) ∧
  (∀ v y, DataW.trod enc Tryz.prog w 0 (fun _ => true) true fuel 24 [v] = some y → ∃ a n c l, v = .slice a n c ∧ CellsS (hp w) a n c l ∧ massC l + 1 ≤ Rows.uptoBulk y.1)
theorem rd_item {fuel : Nat} (ih : ∀ n, n < fuel → RdAll enc w n) {cs : List Value} {y : DataW T × List MemPlace} (h : DataW.trod enc Tryz.prog w 0 (fun _ => true) true fuel 60 cs = some y) : ∃ x, ItemH (hp w) cs x ∧ x.mass ≤ Rows.uptoBulk y.1 := by
  obtain ⟨m, v0, v1, v2, v3, v4, v5, v6, v7, v8, v9, v10, y0, y1, y2, y3, y4, y5, y6, rfl, rfl, hy, g0, g1, g2, g3, g4, g5, g6⟩ := rd60 h
  obtain ⟨i0, rfl, _⟩ := rd_int g0
  obtain ⟨i1, rfl, _⟩ := rd_int g1
  obtain ⟨i2, rfl, _⟩ := rd_int g2
  obtain ⟨s, rfl, bs⟩ := rd_str g3
  obtain ⟨hd, h1, _, h2⟩ := rd_head g4
  obtain ⟨a, n, c, l, rfl, p1, p2⟩ := (ih m (by omega)).1 _ _ g5
  obtain ⟨a', n', c', l', rfl, p3, p4⟩ := (ih m (by omega)).2.1 _ _ g6
  obtain ⟨pa, pn, pc, da, dn, dc, la, ln, lc, he, r1, r2, r3⟩ := h1.ex
  simp only [List.cons.injEq, and_true] at he
  obtain ⟨rfl, rfl, rfl, rfl, rfl⟩ := he
  refine ⟨.mk i0 i1 i2 s hd l l', ItemH.of (x := .mk i0 i1 i2 s hd l l') r1 r2 r3 p1 p3, ?_⟩
  rw [hy]
  simp only [Rows.uptoBulk, Rows.uptoBulkAll, Item.mass]
  omega
theorem rd_cell {fuel : Nat} (ih : ∀ n, n < fuel → RdAll enc w n) {cs : List Value} {y : DataW T × List MemPlace} (h : DataW.trod enc Tryz.prog w 0 (fun _ => true) true fuel 90 cs = some y) : ∃ x, CellH (hp w) cs x ∧ 1 + x.2.1.mass + massL x.2.2 ≤ Rows.uptoBulk y.1 := by
  obtain ⟨m, v0, v1, v2, v3, v4, v5, v6, y0, y1, y2, rfl, rfl, hy, g0, g1, g2⟩ := rd90 h
  obtain ⟨i0, rfl, _⟩ := rd_int g0
  obtain ⟨hd, h1, _, h2⟩ := rd_head g1
  obtain ⟨a, n, c, l, rfl, p1, p2⟩ := (ih m (by omega)).1 _ _ g2
  obtain ⟨pa, pn, pc, da, dn, dc, la, ln, lc, he, r1, r2, r3⟩ := h1.ex
  simp only [List.cons.injEq, and_true] at he
  obtain ⟨rfl, rfl, rfl, rfl, rfl⟩ := he
  refine ⟨(i0, hd, l), CellH.of (x := (i0, hd, l)) r1 r2 r3 p1, ?_⟩
  rw [hy]
  simp only [Rows.uptoBulk, Rows.uptoBulkAll]
  omega
theorem rd_row {fuel : Nat} (ih : ∀ n, n < fuel → RdAll enc w n) {cs : List Value} {y : DataW T × List MemPlace} (h : DataW.trod enc Tryz.prog w 0 (fun _ => true) true fuel 62 cs = some y) : ∃ x, RowH (hp w) cs x ∧ 1 + x.1.mass + massC x.2 ≤ Rows.uptoBulk y.1 := by
  obtain ⟨m, v0, v1, v2, v3, v4, v5, y0, y1, rfl, rfl, hy, g0, g1⟩ := rd62 h
  obtain ⟨hd, h1, _, h2⟩ := rd_head g0
  obtain ⟨a, n, c, l, rfl, p1, p2⟩ := (ih m (by omega)).2.2 _ _ g1
  obtain ⟨pa, pn, pc, da, dn, dc, la, ln, lc, he, r1, r2, r3⟩ := h1.ex
  simp only [List.cons.injEq, and_true] at he
  obtain ⟨rfl, rfl, rfl, rfl, rfl⟩ := he
  refine ⟨(hd, l), RowH.of (x := (hd, l)) r1 r2 r3 p1, ?_⟩
  rw [hy]
  simp only [Rows.uptoBulk, Rows.uptoBulkAll]
  omega
theorem rd_all : ∀ fuel, RdAll enc w fuel := by
  intro fuel
  induction fuel using Nat.strongRecOn with
  | _ fuel ih =>
    refine ⟨fun v y h => ?_, fun v y h => ?_, fun v y h => ?_⟩
    · obtain ⟨a, n, c, l, h1, h2, h3⟩ := rd_slice (Rl := ItemH) (μ := Item.mass) Tryz.underlying22 cz60 (by omega) (fun _ _ h => h.one) (fun n hn cs y hy => rd_item (fun m hm => ih m (by omega)) hy) h
      exact ⟨a, n, c, l, h1, h2, by rw [massL_sum]; exact h3⟩
    · obtain ⟨a, n, c, l, h1, h2, h3⟩ := rd_slice (Rl := RowH) (μ := fun x : Row => 1 + x.1.mass + massC x.2) Tryz.underlying23 cz62 (by omega) (fun _ _ h => h.one) (fun n hn cs y hy => rd_row (fun m hm => ih m (by omega)) hy) h
      exact ⟨a, n, c, l, h1, h2, by rw [massR_sum]; exact h3⟩
    · obtain ⟨a, n, c, l, h1, h2, h3⟩ := rd_slice (Rl := CellH) (μ := fun x : Cell => 1 + x.2.1.mass + massL x.2.2) Tryz.underlying24 cz90 (by omega) (fun _ _ h => h.one) (fun n hn cs y hy => rd_cell (fun m hm => ih m (by omega)) hy) h
      exact ⟨a, n, c, l, h1, h2, by rw [massC_sum]; exact h3⟩

theorem sum_ge {α : Type} {μ : α → Nat} : ∀ {l : List α} {x : α}, x ∈ l → μ x ≤ (l.map μ).sum
  | a :: l, x, h => by
    rw [List.map_cons, List.sum_cons]
    rcases List.mem_cons.1 h with rfl | h
    · omega
    · have := sum_ge (μ := μ) h; omega
theorem sum_len {α : Type} {μ : α → Nat} : ∀ (l : List α), l.length ≤ (l.map fun x => μ x + 1).sum
  | [] => by simp
  | a :: l => by have := sum_len (μ := μ) l; rw [List.map_cons, List.sum_cons, List.length_cons]; omega
def LvlH (_ : Hp) (cs : List Value) (p : Lvl) : Prop := cs = lvrow p
def CmtH (_ : Hp) (cs : List Value) (p : Cmt) : Prop := cs = cmrow p
def VrH (_ : Hp) (cs : List Value) (p : Vr) : Prop := cs = vrrow p
theorem rd_levels {fuel : Nat} {v : Value} {y : DataW T × List MemPlace} (h : DataW.trod enc Tryz.prog w 0 (fun _ => true) true fuel 150 [v] = some y) : ∃ a n c, ∃ l : List Lvl, v = .slice a n c ∧ HRow (hp w) a n c 4 (l.map lvrow) ∧ l.length + 1 ≤ Rows.uptoBulk y.1 := by
  obtain ⟨a, n, c, l, rfl, ⟨css, h1, h2⟩, h3⟩ := rd_slice (Rl := LvlH) (μ := fun _ => 1) Tryz.underlying150 cz155 (by omega) (fun cs x hx u hu => lvrow_one [x] cs (by simp [show cs = lvrow x from hx]) u hu) (fun n _ cs y hy => by
    obtain ⟨m, v0, v1, v2, v3, y0, y1, y2, y3, rfl, rfl, hy1, g0, g1, g2, g3⟩ := rd155 hy
    obtain ⟨i0, rfl, _⟩ := rd_int g0
    obtain ⟨i1, rfl, _⟩ := rd_int g1
    obtain ⟨s2, rfl, _⟩ := rd_str g2
    obtain ⟨i3, rfl, _⟩ := rd_int g3
    exact ⟨⟨i0, i1, s2, i3⟩, rfl, by rw [hy1]; simp [Rows.uptoBulk]⟩) h
  rw [sum_one] at h3
  exact ⟨a, n, c, l, rfl, all2_map h2 ▸ h1, h3⟩
theorem rd_comments {fuel : Nat} {v : Value} {y : DataW T × List MemPlace} (h : DataW.trod enc Tryz.prog w 0 (fun _ => true) true fuel 34 [v] = some y) : ∃ a n c, ∃ l : List Cmt, v = .slice a n c ∧ HRow (hp w) a n c 6 (l.map cmrow) ∧ l.length + 1 ≤ Rows.uptoBulk y.1 := by
  obtain ⟨a, n, c, l, rfl, ⟨css, h1, h2⟩, h3⟩ := rd_slice (Rl := CmtH) (μ := fun _ => 1) Tryz.underlying34 cz162 (by omega) (fun cs x hx u hu => cmrow_one [x] cs (by simp [show cs = cmrow x from hx]) u hu) (fun n _ cs y hy => by
    obtain ⟨m, v0, v1, v2, v3, v4, v5, y0, y1, y2, y3, y4, y5, rfl, rfl, hy1, g0, g1, g2, g3, g4, g5⟩ := rd162 hy
    obtain ⟨i0, rfl, _⟩ := rd_int g0
    obtain ⟨i1, rfl, _⟩ := rd_int g1
    obtain ⟨s2, rfl, _⟩ := rd_str g2
    obtain ⟨i3, rfl, _⟩ := rd_int g3
    obtain ⟨s4, rfl, _⟩ := rd_str g4
    obtain ⟨i5, rfl, _⟩ := rd_bool g5
    exact ⟨⟨i0, i1, s2, i3, s4, i5⟩, rfl, by rw [hy1]; simp [Rows.uptoBulk]⟩) h
  rw [sum_one] at h3
  exact ⟨a, n, c, l, rfl, all2_map h2 ▸ h1, h3⟩
theorem rd_vars {fuel : Nat} {v : Value} {y : DataW T × List MemPlace} (h : DataW.trod enc Tryz.prog w 0 (fun _ => true) true fuel 35 [v] = some y) : ∃ a n c, ∃ l : List Vr, v = .slice a n c ∧ HRow (hp w) a n c 2 (l.map vrrow) ∧ l.length + 1 ≤ Rows.uptoBulk y.1 := by
  obtain ⟨a, n, c, l, rfl, ⟨css, h1, h2⟩, h3⟩ := rd_slice (Rl := VrH) (μ := fun _ => 1) Tryz.underlying35 cz165 (by omega) (fun cs x hx u hu => vrrow_one [x] cs (by simp [show cs = vrrow x from hx]) u hu) (fun n _ cs y hy => by
    obtain ⟨m, v0, v1, y0, y1, rfl, rfl, hy1, g0, g1⟩ := rd165 hy
    obtain ⟨s0, rfl, _⟩ := rd_str g0
    obtain ⟨s1, rfl, _⟩ := rd_str g1
    exact ⟨⟨s0, s1⟩, rfl, by rw [hy1]; simp [Rows.uptoBulk]⟩) h
  rw [sum_one] at h3
  exact ⟨a, n, c, l, rfl, all2_map h2 ▸ h1, h3⟩
theorem rd_styles {fuel : Nat} {v : Value} {y : DataW T × List MemPlace} (h : DataW.trod enc Tryz.prog w 0 (fun _ => true) true fuel 32 [v] = some y) : ∃ a n c, ∃ l : List Sty, v = .slice a n c ∧ SlH (hp w) StyH 6 a n c l ∧ l.length + 1 ≤ Rows.uptoBulk y.1 ∧ ∀ s ∈ l, s.props.length ≤ Rows.uptoBulk y.1 := by
  obtain ⟨a, n, c, l, rfl, h1, h3⟩ := rd_slice (Rl := StyH) (μ := fun s => s.props.length + 1) Tryz.underlying32 cz171 (by omega) (fun cs x hx => hx.one) (fun n _ cs y hy => by
    obtain ⟨m, v0, v1, v2, v3, v4, v5, y0, y1, y2, y3, y4, y5, rfl, rfl, hy1, g0, g1, g2, g3, g4, g5⟩ := rd171 hy
    obtain ⟨i0, rfl, _⟩ := rd_int g0
    obtain ⟨i1, rfl, _⟩ := rd_int g1
    obtain ⟨s2, rfl, _⟩ := rd_str g2
    obtain ⟨i3, rfl, _⟩ := rd_int g3
    obtain ⟨i4, rfl, _⟩ := rd_int g4
    obtain ⟨pa, pn, pc, pl, rfl, p1, p2⟩ := rd_props g5
    exact ⟨⟨i0, i1, s2, i3, i4, pl⟩, ⟨_, _, _, rfl, p1⟩, by rw [hy1]; simp only [Rows.uptoBulk, Rows.uptoBulkAll]; omega⟩) h
  have hl := sum_len (μ := fun s : Sty => s.props.length) l
  exact ⟨a, n, c, l, rfl, h1, by omega, fun r hr => by have h9 : r.props.length + 1 ≤ _ := sum_ge (μ := fun s : Sty => s.props.length + 1) hr; omega⟩
theorem rd_lists {fuel : Nat} {v : Value} {y : DataW T × List MemPlace} (h : DataW.trod enc Tryz.prog w 0 (fun _ => true) true fuel 33 [v] = some y) : ∃ a n c, ∃ l : List Lst, v = .slice a n c ∧ SlH (hp w) LstH 2 a n c l ∧ l.length + 1 ≤ Rows.uptoBulk y.1 ∧ ∀ s ∈ l, s.levels.length ≤ Rows.uptoBulk y.1 := by
  obtain ⟨a, n, c, l, rfl, h1, h3⟩ := rd_slice (Rl := LstH) (μ := fun s => s.levels.length + 1) Tryz.underlying33 cz152 (by omega) (fun cs x hx => hx.one) (fun n _ cs y hy => by
    obtain ⟨m, v0, v1, y0, y1, rfl, rfl, hy1, g0, g1⟩ := rd152 hy
    obtain ⟨i0, rfl, _⟩ := rd_int g0
    obtain ⟨pa, pn, pc, pl, rfl, p1, p2⟩ := rd_levels g1
    exact ⟨⟨i0, pl⟩, ⟨_, _, _, rfl, p1⟩, by rw [hy1]; simp only [Rows.uptoBulk, Rows.uptoBulkAll]; omega⟩) h
  have hl := sum_len (μ := fun s : Lst => s.levels.length) l
  exact ⟨a, n, c, l, rfl, h1, by omega, fun r hr => by have h9 : r.levels.length + 1 ≤ _ := sum_ge (μ := fun s : Lst => s.levels.length + 1) hr; omega⟩
theorem rd_sett {fuel : Nat} {cs : List Value} {y : DataW T × List MemPlace} (h : DataW.trod enc Tryz.prog w 0 (fun _ => true) true fuel 37 cs = some y) (hb : Rows.uptoBulk y.1 ≤ 1048576) : ∃ x : Sett, SettH (hp w) cs x ∧ x.fine := by
  obtain ⟨m, v0, v1, v2, v3, y0, y1, y2, y3, rfl, rfl, hy1, g0, g1, g2, g3⟩ := rd37 h
  obtain ⟨sa, sn, sc, sl, rfl, p1, p2, p3⟩ := rd_styles g0
  obtain ⟨la, ln, lc, ll, rfl, q1, q2, q3⟩ := rd_lists g1
  obtain ⟨ca, cn, cc, cl, rfl, r1, r2⟩ := rd_comments g2
  obtain ⟨va, vn, vc, vl, rfl, u1, u2⟩ := rd_vars g3
  rw [hy1] at hb
  simp only [Rows.uptoBulk, Rows.uptoBulkAll] at hb
  exact ⟨⟨sl, ll, cl, vl⟩, ⟨_, _, _, _, _, _, _, _, _, _, _, _, rfl, p1, q1, r1, u1⟩, ⟨by show sl.length < _; omega, fun s hs => by have := p3 s hs; omega, by show ll.length < _; omega, fun s hs => by have := q3 s hs; omega, by show cl.length < _; omega, by show vl.length < _; omega⟩⟩
theorem rd_piece {fuel : Nat} {cs : List Value} {y : DataW T × List MemPlace} (h : DataW.trod enc Tryz.prog w 0 (fun _ => true) true fuel 39 cs = some y) (hb : Rows.uptoBulk y.1 ≤ 1048576) : ∃ x : Piece, PieceH (hp w) cs x ∧ x.fine := by
  obtain ⟨m, v0, v1, v2, v3, v4, v5, v6, v7, v8, v9, v10, v11, y0, y1, y2, y3, y4, rfl, rfl, hy1, g0, g1, g2, g3, g4⟩ := rd39 h
  obtain ⟨ia, iN, ic, il, rfl, p1, p2⟩ := (rd_all m).1 _ _ g0
  obtain ⟨ra, rn, rc, rl, rfl, q1, q2⟩ := (rd_all m).2.1 _ _ g1
  obtain ⟨ca, cn, cc, cl, rfl, r1, r2⟩ := (rd_all m).2.2 _ _ g2
  obtain ⟨hd, u1, _, u2⟩ := rd_head g3
  rw [hy1] at hb
  simp only [Rows.uptoBulk, Rows.uptoBulkAll] at hb
  obtain ⟨st, w1, w2⟩ := rd_sett g4 (by omega)
  exact ⟨⟨il, rl, cl, hd, st⟩, ⟨_, _, _, _, _, _, _, _, _, _, _, rfl, p1, q1, r1, u1, w1⟩, ⟨by show massL il + massR rl + massC cl + hd.mass < _; omega, w2⟩⟩
set_option maxRecDepth 100000 in
theorem arg_splice {v : Value} {d : DataW T} {ps : List MemPlace} {r : Reach} {base : Nat} (hv : Value.okWide Tryz.prog w r base 41 v) (h : DataW.Trod enc Tryz.prog w 0 (fun _ => true) true 41 v d ps) (hb : Rows.uptoBulk d ≤ 1048576) :
    ∃ cs, ∃ s : Splice, v = .agg cs.toArray ∧ SplH (hp w) cs s ∧ s.fine := by
  obtain ⟨cs, rfl, _⟩ := okWide_struct Tryz.underlying41 hv
  obtain ⟨fuel, hf⟩ := h
  have hf' : DataW.trod enc Tryz.prog w 0 (fun _ => true) true fuel 41 cs.toList = some (d, ps) := hf
  obtain ⟨m, v0, v1, v2, v3, v4, v5, v6, v7, v8, v9, v10, v11, v12, v13, v14, v15, v16, v17, v18, v19, v20, v21, v22, v23, v24, v25, v26, v27, y0, y1, y2, y3, y4, y5, rfl, hcs, hy, g0, g1, g2, g3, g4, g5⟩ := rd41 hf'
  obtain ⟨i0, rfl, _⟩ := rd_int g0
  obtain ⟨i1, rfl, _⟩ := rd_int g1
  obtain ⟨i2, rfl, _⟩ := rd_int g2
  obtain ⟨i3, rfl, _⟩ := rd_int g3
  have hy : d = .agg [y0.1, y1.1, y2.1, y3.1, y4.1, y5.1] := hy
  rw [hy] at hb
  simp only [Rows.uptoBulk, Rows.uptoBulkAll] at hb
  obtain ⟨po, p1, p2⟩ := rd_piece g4 (by omega)
  obtain ⟨pn, q1, q2⟩ := rd_piece g5 (by omega)
  exact ⟨cs.toList, ⟨i0, i1, i2, i3, po, pn⟩, rfl, ⟨_, _, hcs, p1, q1⟩, p2, q2⟩
end
end Go.Proofs.YtofkolbnhcckkaaGreat
