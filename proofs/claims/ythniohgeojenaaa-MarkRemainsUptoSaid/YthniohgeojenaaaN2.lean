/-
  How heads, decisions and settings are read. Printed by wip/fw/genMB.py.
-/
import Derived.Test.YthniohgeojenaaaN1
import Derived.Test.YthniohgeojenaaaN0
import Derived.Test.YthniohgeojenaaaM10
namespace Go.Proofs.Ythniohgeojenaaa
open Go Go.RowKit Go.WideShapes
set_option linter.unusedVariables false
set_option linter.unusedSimpArgs false

theorem cz3 : Try.prog.cellsOf 3 = 1 := by kernel_rfl
theorem cz4 : Try.prog.cellsOf 4 = 1 := by kernel_rfl
theorem cz22 : Try.prog.cellsOf 22 = 1 := by kernel_rfl
theorem cz23 : Try.prog.cellsOf 23 = 1 := by kernel_rfl
theorem cz24 : Try.prog.cellsOf 24 = 1 := by kernel_rfl
theorem cz26 : Try.prog.cellsOf 26 = 4 := by kernel_rfl
theorem cz28 : Try.prog.cellsOf 28 = 5 := by kernel_rfl
theorem cz29 : Try.prog.cellsOf 29 = 1 := by kernel_rfl
theorem cz31 : Try.prog.cellsOf 31 = 2 := by kernel_rfl
theorem cz54 : Try.prog.cellsOf 54 = 2 := by kernel_rfl
theorem cz56 : Try.prog.cellsOf 56 = 2 := by kernel_rfl
theorem cz58 : Try.prog.cellsOf 58 = 3 := by kernel_rfl
theorem cz75 : Try.prog.cellsOf 75 = 4 := by kernel_rfl
theorem len2 {α : Type} {l : List α} (h : l.length = 2) : ∃ a0 a1, l = [a0, a1] := by
  match l, h with
  | [a0, a1], _ => exact ⟨a0, a1, rfl⟩
theorem len3 {α : Type} {l : List α} (h : l.length = 3) : ∃ a0 a1 a2, l = [a0, a1, a2] := by
  match l, h with
  | [a0, a1, a2], _ => exact ⟨a0, a1, a2, rfl⟩
theorem len4 {α : Type} {l : List α} (h : l.length = 4) : ∃ a0 a1 a2 a3, l = [a0, a1, a2, a3] := by
  match l, h with
  | [a0, a1, a2, a3], _ => exact ⟨a0, a1, a2, a3, rfl⟩
theorem len5 {α : Type} {l : List α} (h : l.length = 5) : ∃ a0 a1 a2 a3 a4, l = [a0, a1, a2, a3, a4] := by
  match l, h with
  | [a0, a1, a2, a3, a4], _ => exact ⟨a0, a1, a2, a3, a4, rfl⟩
section
variable {T : Type} {enc : TypeId × Value → T} {w : World}
theorem rd26 {fuel : Nat} {cs : List Value} {y : DataW T × List MemPlace} (h : DataW.trod enc Try.prog w 0 (fun _ => true) true fuel 26 cs = some y) :
    ∃ (n : Nat) (v0 v1 v2 v3 : Value) (y0 y1 y2 y3 : DataW T × List MemPlace), fuel = n + 1 ∧ cs = [v0, v1, v2, v3] ∧ y.1 = .agg [y0.1, y1.1, y2.1, y3.1] ∧ DataW.trod enc Try.prog w 0 (fun _ => true) true n 3 [v0] = some y0 ∧ DataW.trod enc Try.prog w 0 (fun _ => true) true n 3 [v1] = some y1 ∧ DataW.trod enc Try.prog w 0 (fun _ => true) true n 23 [v2] = some y2 ∧ DataW.trod enc Try.prog w 0 (fun _ => true) true n 24 [v3] = some y3 := by
  obtain ⟨xs, n, rfl, rfl, hl, hxl, hf⟩ := DataW.trod_struct Try.underlying26 h
  obtain ⟨v0, v1, v2, v3, rfl⟩ := len4 (hl.trans cz26)
  obtain ⟨y0, y1, y2, y3, rfl⟩ := len4 (show xs.length = 4 from hxl)
  have f0 : DataW.trod enc Try.prog w 0 (fun _ => true) true n 3 (([v0, v1, v2, v3].drop 0).take 1) = some y0 := (congrArg (fun q => DataW.trod enc Try.prog w 0 (fun _ => true) true n 3 (([v0, v1, v2, v3].drop 0).take q)) cz3).symm.trans (hf 0 _ rfl)
  have f1 : DataW.trod enc Try.prog w 0 (fun _ => true) true n 3 (([v0, v1, v2, v3].drop 1).take 1) = some y1 := (congrArg (fun q => DataW.trod enc Try.prog w 0 (fun _ => true) true n 3 (([v0, v1, v2, v3].drop 1).take q)) cz3).symm.trans (hf 1 _ rfl)
  have f2 : DataW.trod enc Try.prog w 0 (fun _ => true) true n 23 (([v0, v1, v2, v3].drop 2).take 1) = some y2 := (congrArg (fun q => DataW.trod enc Try.prog w 0 (fun _ => true) true n 23 (([v0, v1, v2, v3].drop 2).take q)) cz23).symm.trans (hf 2 _ rfl)
  have f3 : DataW.trod enc Try.prog w 0 (fun _ => true) true n 24 (([v0, v1, v2, v3].drop 3).take 1) = some y3 := (congrArg (fun q => DataW.trod enc Try.prog w 0 (fun _ => true) true n 24 (([v0, v1, v2, v3].drop 3).take q)) cz24).symm.trans (hf 3 _ rfl)
  exact ⟨n, v0, v1, v2, v3, y0, y1, y2, y3, rfl, rfl, rfl, f0, f1, f2, f3⟩
theorem rd28 {fuel : Nat} {cs : List Value} {y : DataW T × List MemPlace} (h : DataW.trod enc Try.prog w 0 (fun _ => true) true fuel 28 cs = some y) :
    ∃ (n : Nat) (v0 v1 v2 v3 v4 : Value) (y0 y1 : DataW T × List MemPlace), fuel = n + 1 ∧ cs = [v0, v1, v2, v3, v4] ∧ y.1 = .agg [y0.1, y1.1] ∧ DataW.trod enc Try.prog w 0 (fun _ => true) true n 22 [v0] = some y0 ∧ DataW.trod enc Try.prog w 0 (fun _ => true) true n 26 [v1, v2, v3, v4] = some y1 := by
  obtain ⟨xs, n, rfl, rfl, hl, hxl, hf⟩ := DataW.trod_struct Try.underlying28 h
  obtain ⟨v0, v1, v2, v3, v4, rfl⟩ := len5 (hl.trans cz28)
  obtain ⟨y0, y1, rfl⟩ := len2 (show xs.length = 2 from hxl)
  have f0 : DataW.trod enc Try.prog w 0 (fun _ => true) true n 22 (([v0, v1, v2, v3, v4].drop 0).take 1) = some y0 := (congrArg (fun q => DataW.trod enc Try.prog w 0 (fun _ => true) true n 22 (([v0, v1, v2, v3, v4].drop 0).take q)) cz22).symm.trans (hf 0 _ rfl)
  have f1 : DataW.trod enc Try.prog w 0 (fun _ => true) true n 26 (([v0, v1, v2, v3, v4].drop 1).take 4) = some y1 := (congrArg (fun q => DataW.trod enc Try.prog w 0 (fun _ => true) true n 26 (([v0, v1, v2, v3, v4].drop 1).take q)) cz26).symm.trans (hf 1 _ rfl)
  exact ⟨n, v0, v1, v2, v3, v4, y0, y1, rfl, rfl, rfl, f0, f1⟩
theorem rd31 {fuel : Nat} {cs : List Value} {y : DataW T × List MemPlace} (h : DataW.trod enc Try.prog w 0 (fun _ => true) true fuel 31 cs = some y) :
    ∃ (n : Nat) (v0 v1 : Value) (y0 y1 : DataW T × List MemPlace), fuel = n + 1 ∧ cs = [v0, v1] ∧ y.1 = .agg [y0.1, y1.1] ∧ DataW.trod enc Try.prog w 0 (fun _ => true) true n 29 [v0] = some y0 ∧ DataW.trod enc Try.prog w 0 (fun _ => true) true n 29 [v1] = some y1 := by
  obtain ⟨xs, n, rfl, rfl, hl, hxl, hf⟩ := DataW.trod_struct Try.underlying31 h
  obtain ⟨v0, v1, rfl⟩ := len2 (hl.trans cz31)
  obtain ⟨y0, y1, rfl⟩ := len2 (show xs.length = 2 from hxl)
  have f0 : DataW.trod enc Try.prog w 0 (fun _ => true) true n 29 (([v0, v1].drop 0).take 1) = some y0 := (congrArg (fun q => DataW.trod enc Try.prog w 0 (fun _ => true) true n 29 (([v0, v1].drop 0).take q)) cz29).symm.trans (hf 0 _ rfl)
  have f1 : DataW.trod enc Try.prog w 0 (fun _ => true) true n 29 (([v0, v1].drop 1).take 1) = some y1 := (congrArg (fun q => DataW.trod enc Try.prog w 0 (fun _ => true) true n 29 (([v0, v1].drop 1).take q)) cz29).symm.trans (hf 1 _ rfl)
  exact ⟨n, v0, v1, y0, y1, rfl, rfl, rfl, f0, f1⟩
theorem rd56 {fuel : Nat} {cs : List Value} {y : DataW T × List MemPlace} (h : DataW.trod enc Try.prog w 0 (fun _ => true) true fuel 56 cs = some y) :
    ∃ (n : Nat) (v0 v1 : Value) (y0 y1 : DataW T × List MemPlace), fuel = n + 1 ∧ cs = [v0, v1] ∧ y.1 = .agg [y0.1, y1.1] ∧ DataW.trod enc Try.prog w 0 (fun _ => true) true n 3 [v0] = some y0 ∧ DataW.trod enc Try.prog w 0 (fun _ => true) true n 3 [v1] = some y1 := by
  obtain ⟨xs, n, rfl, rfl, hl, hxl, hf⟩ := DataW.trod_struct Try.underlying56 h
  obtain ⟨v0, v1, rfl⟩ := len2 (hl.trans cz56)
  obtain ⟨y0, y1, rfl⟩ := len2 (show xs.length = 2 from hxl)
  have f0 : DataW.trod enc Try.prog w 0 (fun _ => true) true n 3 (([v0, v1].drop 0).take 1) = some y0 := (congrArg (fun q => DataW.trod enc Try.prog w 0 (fun _ => true) true n 3 (([v0, v1].drop 0).take q)) cz3).symm.trans (hf 0 _ rfl)
  have f1 : DataW.trod enc Try.prog w 0 (fun _ => true) true n 3 (([v0, v1].drop 1).take 1) = some y1 := (congrArg (fun q => DataW.trod enc Try.prog w 0 (fun _ => true) true n 3 (([v0, v1].drop 1).take q)) cz3).symm.trans (hf 1 _ rfl)
  exact ⟨n, v0, v1, y0, y1, rfl, rfl, rfl, f0, f1⟩
theorem rd54 {fuel : Nat} {cs : List Value} {y : DataW T × List MemPlace} (h : DataW.trod enc Try.prog w 0 (fun _ => true) true fuel 54 cs = some y) :
    ∃ (n : Nat) (v0 v1 : Value) (y0 y1 : DataW T × List MemPlace), fuel = n + 1 ∧ cs = [v0, v1] ∧ y.1 = .agg [y0.1, y1.1] ∧ DataW.trod enc Try.prog w 0 (fun _ => true) true n 3 [v0] = some y0 ∧ DataW.trod enc Try.prog w 0 (fun _ => true) true n 3 [v1] = some y1 := by
  obtain ⟨xs, n, rfl, rfl, hl, hxl, hf⟩ := DataW.trod_struct Try.underlying54 h
  obtain ⟨v0, v1, rfl⟩ := len2 (hl.trans cz54)
  obtain ⟨y0, y1, rfl⟩ := len2 (show xs.length = 2 from hxl)
  have f0 : DataW.trod enc Try.prog w 0 (fun _ => true) true n 3 (([v0, v1].drop 0).take 1) = some y0 := (congrArg (fun q => DataW.trod enc Try.prog w 0 (fun _ => true) true n 3 (([v0, v1].drop 0).take q)) cz3).symm.trans (hf 0 _ rfl)
  have f1 : DataW.trod enc Try.prog w 0 (fun _ => true) true n 3 (([v0, v1].drop 1).take 1) = some y1 := (congrArg (fun q => DataW.trod enc Try.prog w 0 (fun _ => true) true n 3 (([v0, v1].drop 1).take q)) cz3).symm.trans (hf 1 _ rfl)
  exact ⟨n, v0, v1, y0, y1, rfl, rfl, rfl, f0, f1⟩
theorem rd75 {fuel : Nat} {cs : List Value} {y : DataW T × List MemPlace} (h : DataW.trod enc Try.prog w 0 (fun _ => true) true fuel 75 cs = some y) :
    ∃ (n : Nat) (v0 v1 v2 v3 : Value) (y0 y1 y2 y3 : DataW T × List MemPlace), fuel = n + 1 ∧ cs = [v0, v1, v2, v3] ∧ y.1 = .agg [y0.1, y1.1, y2.1, y3.1] ∧ DataW.trod enc Try.prog w 0 (fun _ => true) true n 3 [v0] = some y0 ∧ DataW.trod enc Try.prog w 0 (fun _ => true) true n 3 [v1] = some y1 ∧ DataW.trod enc Try.prog w 0 (fun _ => true) true n 3 [v2] = some y2 ∧ DataW.trod enc Try.prog w 0 (fun _ => true) true n 4 [v3] = some y3 := by
  obtain ⟨xs, n, rfl, rfl, hl, hxl, hf⟩ := DataW.trod_struct Try.underlying75 h
  obtain ⟨v0, v1, v2, v3, rfl⟩ := len4 (hl.trans cz75)
  obtain ⟨y0, y1, y2, y3, rfl⟩ := len4 (show xs.length = 4 from hxl)
  have f0 : DataW.trod enc Try.prog w 0 (fun _ => true) true n 3 (([v0, v1, v2, v3].drop 0).take 1) = some y0 := (congrArg (fun q => DataW.trod enc Try.prog w 0 (fun _ => true) true n 3 (([v0, v1, v2, v3].drop 0).take q)) cz3).symm.trans (hf 0 _ rfl)
  have f1 : DataW.trod enc Try.prog w 0 (fun _ => true) true n 3 (([v0, v1, v2, v3].drop 1).take 1) = some y1 := (congrArg (fun q => DataW.trod enc Try.prog w 0 (fun _ => true) true n 3 (([v0, v1, v2, v3].drop 1).take q)) cz3).symm.trans (hf 1 _ rfl)
  have f2 : DataW.trod enc Try.prog w 0 (fun _ => true) true n 3 (([v0, v1, v2, v3].drop 2).take 1) = some y2 := (congrArg (fun q => DataW.trod enc Try.prog w 0 (fun _ => true) true n 3 (([v0, v1, v2, v3].drop 2).take q)) cz3).symm.trans (hf 2 _ rfl)
  have f3 : DataW.trod enc Try.prog w 0 (fun _ => true) true n 4 (([v0, v1, v2, v3].drop 3).take 1) = some y3 := (congrArg (fun q => DataW.trod enc Try.prog w 0 (fun _ => true) true n 4 (([v0, v1, v2, v3].drop 3).take q)) cz4).symm.trans (hf 3 _ rfl)
  exact ⟨n, v0, v1, v2, v3, y0, y1, y2, y3, rfl, rfl, rfl, f0, f1, f2, f3⟩
theorem rd58 {fuel : Nat} {cs : List Value} {y : DataW T × List MemPlace} (h : DataW.trod enc Try.prog w 0 (fun _ => true) true fuel 58 cs = some y) :
    ∃ (n : Nat) (v0 v1 v2 : Value) (y0 y1 : DataW T × List MemPlace), fuel = n + 1 ∧ cs = [v0, v1, v2] ∧ y.1 = .agg [y0.1, y1.1] ∧ DataW.trod enc Try.prog w 0 (fun _ => true) true n 56 [v0, v1] = some y0 ∧ DataW.trod enc Try.prog w 0 (fun _ => true) true n 4 [v2] = some y1 := by
  obtain ⟨xs, n, rfl, rfl, hl, hxl, hf⟩ := DataW.trod_struct Try.underlying58 h
  obtain ⟨v0, v1, v2, rfl⟩ := len3 (hl.trans cz58)
  obtain ⟨y0, y1, rfl⟩ := len2 (show xs.length = 2 from hxl)
  have f0 : DataW.trod enc Try.prog w 0 (fun _ => true) true n 56 (([v0, v1, v2].drop 0).take 2) = some y0 := (congrArg (fun q => DataW.trod enc Try.prog w 0 (fun _ => true) true n 56 (([v0, v1, v2].drop 0).take q)) cz56).symm.trans (hf 0 _ rfl)
  have f1 : DataW.trod enc Try.prog w 0 (fun _ => true) true n 4 (([v0, v1, v2].drop 2).take 1) = some y1 := (congrArg (fun q => DataW.trod enc Try.prog w 0 (fun _ => true) true n 4 (([v0, v1, v2].drop 2).take q)) cz4).symm.trans (hf 1 _ rfl)
  exact ⟨n, v0, v1, v2, y0, y1, rfl, rfl, rfl, f0, f1⟩
theorem rd_int {fuel : Nat} {v : Value} {y : DataW T × List MemPlace} (h : DataW.trod enc Try.prog w 0 (fun _ => true) true fuel 3 [v] = some y) : ∃ n, v = .int .i64 n ∧ Rows.uptoBulk y.1 = 1 := by
  obtain ⟨n, hv, rfl, _⟩ := DataW.trod_int Try.underlying3 h
  exact ⟨n, by simpa using hv, rfl⟩
theorem rd_bool {fuel : Nat} {v : Value} {y : DataW T × List MemPlace} (h : DataW.trod enc Try.prog w 0 (fun _ => true) true fuel 4 [v] = some y) : ∃ b, v = .bool b ∧ Rows.uptoBulk y.1 = 1 := by
  obtain ⟨n, hv, rfl⟩ := DataW.trod_bool Try.underlying4 h
  exact ⟨n, by simpa using hv, rfl⟩
/-- a slice -/
theorem rd_slice {α : Type} {Rl : Hp → List Value → α → Prop} {t e k fuel : Nat} {v : Value} {y : DataW T × List MemPlace} {μ : α → Nat} (ht : Try.prog.underlying t = some (.slice e)) (hk : Try.prog.cellsOf e = k) (hk0 : 0 < k)
    (hone : ∀ cs x, Rl (hp w) cs x → ∀ u ∈ cs, u.oneCell' = true)
    (ih : ∀ n, n < fuel → ∀ cs y, DataW.trod enc Try.prog w 0 (fun _ => true) true n e cs = some y → ∃ x, Rl (hp w) cs x ∧ μ x ≤ Rows.uptoBulk y.1) (h : DataW.trod enc Try.prog w 0 (fun _ => true) true fuel t [v] = some y) :
    ∃ a n c l, v = .slice a n c ∧ SlH (hp w) Rl k a n c l ∧ (l.map μ).sum + 1 ≤ Rows.uptoBulk y.1 := by
  rcases DataW.trod_slice ht h with ⟨hv, rfl⟩ | ⟨a, len, cap, elems, rest, n, rfl, hv, rfl, _, hcap, _, hlen, hel, _, _⟩
  · simp at hv
    exact ⟨none, 0, 0, [], hv, ⟨[], HRow.nil' _ k, .nil⟩, by simp [Rows.uptoBulk]⟩
  · simp at hv
    obtain ⟨l, h1, h2⟩ := row_of hk hk0 hone hlen hcap hel (ih n (by omega))
    refine ⟨some a, len, cap, l, hv, h1, ?_⟩
    simp only [Rows.uptoBulk]
    omega

def PrpH (_ : Hp) (cs : List Value) (p : Prp) : Prop := cs = prow p
def DelH (_ : Hp) (cs : List Value) (p : Dele) : Prop := cs = drow p
def LayH (_ : Hp) (cs : List Value) (p : Layr) : Prop := cs = lrow p
theorem all2_map {α : Type} {f : α → List Value} {css : List (List Value)} {l : List α} (h : All2 (fun cs x => cs = f x) css l) : css = l.map f := by
  induction h with
  | nil => rfl
  | cons h t ih => simp [h, ih]
theorem sum_one {α : Type} (l : List α) : (l.map fun _ => 1).sum = l.length := by
  induction l with
  | nil => rfl
  | cons x l ih => simp [ih]; omega
theorem rd_props {fuel : Nat} {v : Value} {y : DataW T × List MemPlace} (h : DataW.trod enc Try.prog w 0 (fun _ => true) true fuel 22 [v] = some y) : ∃ a n c, ∃ l : List Prp, v = .slice a n c ∧ HRow (hp w) a n c 2 (l.map prow) ∧ l.length + 1 ≤ Rows.uptoBulk y.1 := by
  obtain ⟨a, n, c, l, rfl, ⟨css, h1, h2⟩, h3⟩ := rd_slice (Rl := PrpH) (μ := fun _ => 1) Try.underlying22 cz56 (by omega) (fun cs x hx u hu => prow_one [x] cs (by simp [show cs = prow x from hx]) u hu) (fun n _ cs y hy => by
    obtain ⟨m, v0, v1, y0, y1, rfl, rfl, hy1, g0, g1⟩ := rd56 hy
    obtain ⟨i0, rfl, b0⟩ := rd_int g0
    obtain ⟨i1, rfl, b1⟩ := rd_int g1
    exact ⟨⟨i0, i1⟩, rfl, by rw [hy1]; simp [Rows.uptoBulk]⟩) h
  rw [sum_one] at h3
  exact ⟨a, n, c, l, rfl, all2_map h2 ▸ h1, h3⟩
theorem rd_dels {fuel : Nat} {v : Value} {y : DataW T × List MemPlace} (h : DataW.trod enc Try.prog w 0 (fun _ => true) true fuel 23 [v] = some y) : ∃ a n c, ∃ l : List Dele, v = .slice a n c ∧ HRow (hp w) a n c 2 (l.map drow) ∧ l.length + 1 ≤ Rows.uptoBulk y.1 := by
  obtain ⟨a, n, c, l, rfl, ⟨css, h1, h2⟩, h3⟩ := rd_slice (Rl := DelH) (μ := fun _ => 1) Try.underlying23 cz54 (by omega) (fun cs x hx u hu => drow_one [x] cs (by simp [show cs = drow x from hx]) u hu) (fun n _ cs y hy => by
    obtain ⟨m, v0, v1, y0, y1, rfl, rfl, hy1, g0, g1⟩ := rd54 hy
    obtain ⟨i0, rfl, b0⟩ := rd_int g0
    obtain ⟨i1, rfl, b1⟩ := rd_int g1
    exact ⟨⟨i0, i1⟩, rfl, by rw [hy1]; simp [Rows.uptoBulk]⟩) h
  rw [sum_one] at h3
  exact ⟨a, n, c, l, rfl, all2_map h2 ▸ h1, h3⟩
theorem rd_layers {fuel : Nat} {v : Value} {y : DataW T × List MemPlace} (h : DataW.trod enc Try.prog w 0 (fun _ => true) true fuel 24 [v] = some y) : ∃ a n c, ∃ l : List Layr, v = .slice a n c ∧ HRow (hp w) a n c 4 (l.map lrow) ∧ l.length + 1 ≤ Rows.uptoBulk y.1 := by
  obtain ⟨a, n, c, l, rfl, ⟨css, h1, h2⟩, h3⟩ := rd_slice (Rl := LayH) (μ := fun _ => 1) Try.underlying24 cz75 (by omega) (fun cs x hx u hu => lrow_one [x] cs (by simp [show cs = lrow x from hx]) u hu) (fun n _ cs y hy => by
    obtain ⟨m, v0, v1, v2, v3, y0, y1, y2, y3, rfl, rfl, hy1, g0, g1, g2, g3⟩ := rd75 hy
    obtain ⟨i0, rfl, b0⟩ := rd_int g0
    obtain ⟨i1, rfl, b1⟩ := rd_int g1
    obtain ⟨i2, rfl, b2⟩ := rd_int g2
    obtain ⟨i3, rfl, b3⟩ := rd_bool g3
    exact ⟨⟨i0, i1, i2, i3⟩, rfl, by rw [hy1]; simp [Rows.uptoBulk]⟩) h
  rw [sum_one] at h3
  exact ⟨a, n, c, l, rfl, all2_map h2 ▸ h1, h3⟩
theorem rd_head {fuel : Nat} {cs : List Value} {y : DataW T × List MemPlace} (h : DataW.trod enc Try.prog w 0 (fun _ => true) true fuel 28 cs = some y) : ∃ g : Head, HeadH (hp w) cs g ∧ cs.length = 5 ∧ g.mass + 1 ≤ Rows.uptoBulk y.1 := by
  obtain ⟨m, v0, v1, v2, v3, v4, y0, y1, rfl, rfl, hy, g0, g1⟩ := rd28 h
  obtain ⟨a, n, c, l, rfl, p1, p2⟩ := rd_props g0
  obtain ⟨m', v1', v2', v3', v4', z0, z1, z2, z3, rfl, hvv, hz, q0, q1, q2, q3⟩ := rd26 g1
  simp only [List.cons.injEq, and_true] at hvv
  obtain ⟨rfl, rfl, rfl, rfl⟩ := hvv
  obtain ⟨i0, rfl, _⟩ := rd_int q0
  obtain ⟨i1, rfl, _⟩ := rd_int q1
  obtain ⟨a2, n2, c2, l2, rfl, p3, p4⟩ := rd_dels q2
  obtain ⟨a3, n3, c3, l3, rfl, p5, p6⟩ := rd_layers q3
  refine ⟨⟨l, i0, i1, l2, l3⟩, ⟨a, n, c, a2, n2, c2, a3, n3, c3, rfl, p1, p3, p5⟩, rfl, ?_⟩
  rw [hy]
  simp only [Rows.uptoBulk, Rows.uptoBulkAll, hz, Head.mass]
  omega

def IntH (_ : Hp) (cs : List Value) (p : Int) : Prop := cs = irow p
theorem rd_ints {fuel : Nat} {v : Value} {y : DataW T × List MemPlace} (h : DataW.trod enc Try.prog w 0 (fun _ => true) true fuel 29 [v] = some y) : ∃ a n c, ∃ l : List Int, v = .slice a n c ∧ HRow (hp w) a n c 1 (l.map irow) ∧ l.length + 1 ≤ Rows.uptoBulk y.1 := by
  obtain ⟨a, n, c, l, rfl, ⟨css, h1, h2⟩, h3⟩ := rd_slice (Rl := IntH) (μ := fun _ => 1) Try.underlying29 cz3 (by omega) (fun cs x hx u hu => irow_one [x] cs (by simp [show cs = irow x from hx]) u hu) (fun n _ cs y hy => by
    obtain ⟨m, hv, hy2, _⟩ := DataW.trod_int Try.underlying3 hy
    exact ⟨m, by simpa [IntH, irow] using hv, by rw [hy2]; simp [Rows.uptoBulk]⟩) h
  rw [sum_one] at h3
  exact ⟨a, n, c, l, rfl, all2_map h2 ▸ h1, h3⟩
theorem rd_dec {fuel : Nat} {cs : List Value} {y : DataW T × List MemPlace} (h : DataW.trod enc Try.prog w 0 (fun _ => true) true fuel 31 cs = some y) : ∃ g : Dec, DecH (hp w) cs g ∧ g.acc.length + g.rej.length + 1 ≤ Rows.uptoBulk y.1 := by
  obtain ⟨m, v0, v1, y0, y1, rfl, rfl, hy, g0, g1⟩ := rd31 h
  obtain ⟨a, n, c, l, rfl, p1, p2⟩ := rd_ints g0
  obtain ⟨a', n', c', l', rfl, p3, p4⟩ := rd_ints g1
  refine ⟨⟨l, l'⟩, ⟨⟨a, n, c, a', n', c', rfl, p1, p3⟩⟩, ?_⟩
  rw [hy]
  simp only [Rows.uptoBulk, Rows.uptoBulkAll]
  omega
set_option maxRecDepth 100000 in
/-- an argument that is a head -/
theorem arg_head {v : Value} {d : DataW T} {ps : List MemPlace} {r : Reach} {base : Nat} (hv : Value.okWide Try.prog w r base 28 v) (h : DataW.Trod enc Try.prog w 0 (fun _ => true) true 28 v d ps) :
    ∃ cs x, v = .agg cs.toArray ∧ HeadH (hp w) cs x ∧ x.mass + 1 ≤ Rows.uptoBulk d := by
  obtain ⟨cs, rfl, _⟩ := okWide_struct Try.underlying28 hv
  obtain ⟨fuel, hf⟩ := h
  obtain ⟨x, h1, _, h2⟩ := rd_head hf
  exact ⟨cs.toList, x, rfl, h1, h2⟩
set_option maxRecDepth 100000 in
/-- an argument that is a decision -/
theorem arg_dec {v : Value} {d : DataW T} {ps : List MemPlace} {r : Reach} {base : Nat} (hv : Value.okWide Try.prog w r base 31 v) (h : DataW.Trod enc Try.prog w 0 (fun _ => true) true 31 v d ps) :
    ∃ cs x, v = .agg cs.toArray ∧ DecH (hp w) cs x ∧ x.acc.length + x.rej.length + 1 ≤ Rows.uptoBulk d := by
  obtain ⟨cs, rfl, _⟩ := okWide_struct Try.underlying31 hv
  obtain ⟨fuel, hf⟩ := h
  obtain ⟨x, h1, h2⟩ := rd_dec hf
  exact ⟨cs.toList, x, rfl, h1, h2⟩
theorem rd_set {fuel : Nat} {cs : List Value} {y : DataW T × List MemPlace} (h : DataW.trod enc Try.prog w 0 (fun _ => true) true fuel 58 cs = some y) : ∃ g : Sett, cs = srow g := by
  obtain ⟨m, v0, v1, v2, y0, y1, rfl, rfl, hy, g0, g1⟩ := rd58 h
  obtain ⟨m', u0, u1, z0, z1, rfl, hvv, hz, q0, q1⟩ := rd56 g0
  simp only [List.cons.injEq, and_true] at hvv
  obtain ⟨rfl, rfl⟩ := hvv
  obtain ⟨i0, rfl, _⟩ := rd_int q0
  obtain ⟨i1, rfl, _⟩ := rd_int q1
  obtain ⟨b, rfl, _⟩ := rd_bool g1
  exact ⟨⟨i0, i1, b⟩, rfl⟩
set_option maxRecDepth 100000 in
/-- an argument that is a setting -/
theorem arg_setting {v : Value} {d : DataW T} {ps : List MemPlace} {r : Reach} {base : Nat} (hv : Value.okWide Try.prog w r base 58 v) (h : DataW.Trod enc Try.prog w 0 (fun _ => true) true 58 v d ps) :
    ∃ x, v = .agg (srow x).toArray := by
  obtain ⟨cs, rfl, _⟩ := okWide_struct Try.underlying58 hv
  obtain ⟨fuel, hf⟩ := h
  obtain ⟨x, h1⟩ := rd_set hf
  exact ⟨x, by rw [← h1]; rfl⟩
end
end Go.Proofs.Ythniohgeojenaaa
