/-
  How steps are read. Printed by wip/fw/genB19.py.
-/
import Derived.Test.YtcliojofponpnaaE2
import Derived.Test.YtcliojofponpnaaP10
namespace Go.Proofs.Ytcliojofponpnaa
open Go Go.RowKit Go.WideShapes Go.ChangeShapes
set_option linter.unusedVariables false
set_option linter.unusedSimpArgs false
theorem cz3 : Try.prog.cellsOf 3 = 1 := by kernel_rfl
theorem cz22 : Try.prog.cellsOf 22 = 1 := by kernel_rfl
theorem cz23 : Try.prog.cellsOf 23 = 1 := by kernel_rfl
theorem cz25 : Try.prog.cellsOf 25 = 6 := by kernel_rfl
theorem cz29 : Try.prog.cellsOf 29 = 2 := by kernel_rfl
theorem cz61 : Try.prog.cellsOf 61 = 5 := by kernel_rfl
theorem cz64 : Try.prog.cellsOf 64 = 2 := by kernel_rfl
theorem len2 {α : Type} {l : List α} (h : l.length = 2) : ∃ a0 a1, l = [a0, a1] := by
  match l, h with
  | [a0, a1], _ => exact ⟨a0, a1, rfl⟩
theorem len3 {α : Type} {l : List α} (h : l.length = 3) : ∃ a0 a1 a2, l = [a0, a1, a2] := by
  match l, h with
  | [a0, a1, a2], _ => exact ⟨a0, a1, a2, rfl⟩
theorem len5 {α : Type} {l : List α} (h : l.length = 5) : ∃ a0 a1 a2 a3 a4, l = [a0, a1, a2, a3, a4] := by
  match l, h with
  | [a0, a1, a2, a3, a4], _ => exact ⟨a0, a1, a2, a3, a4, rfl⟩
theorem len6 {α : Type} {l : List α} (h : l.length = 6) : ∃ a0 a1 a2 a3 a4 a5, l = [a0, a1, a2, a3, a4, a5] := by
  match l, h with
  | [a0, a1, a2, a3, a4, a5], _ => exact ⟨a0, a1, a2, a3, a4, a5, rfl⟩
section
variable {T : Type} {enc : TypeId × Value → T} {w : World}
theorem rd25 {fuel : Nat} {cs : List Value} {y : DataW T × List MemPlace} (h : DataW.trod enc Try.prog w 0 (fun _ => true) true fuel 25 cs = some y) :
    ∃ (n : Nat) (v0 v1 v2 v3 v4 v5 : Value) (y0 y1 y2 y3 y4 y5 : DataW T × List MemPlace), fuel = n + 1 ∧ cs = [v0, v1, v2, v3, v4, v5] ∧ y.1 = .agg [y0.1, y1.1, y2.1, y3.1, y4.1, y5.1] ∧ DataW.trod enc Try.prog w 0 (fun _ => true) true n 3 [v0] = some y0 ∧ DataW.trod enc Try.prog w 0 (fun _ => true) true n 3 [v1] = some y1 ∧ DataW.trod enc Try.prog w 0 (fun _ => true) true n 3 [v2] = some y2 ∧ DataW.trod enc Try.prog w 0 (fun _ => true) true n 3 [v3] = some y3 ∧ DataW.trod enc Try.prog w 0 (fun _ => true) true n 22 [v4] = some y4 ∧ DataW.trod enc Try.prog w 0 (fun _ => true) true n 23 [v5] = some y5 := by
  obtain ⟨xs, n, rfl, rfl, hl, hxl, hf⟩ := DataW.trod_struct Try.underlying25 h
  obtain ⟨v0, v1, v2, v3, v4, v5, rfl⟩ := len6 (hl.trans cz25)
  obtain ⟨y0, y1, y2, y3, y4, y5, rfl⟩ := len6 (show xs.length = 6 from hxl)
  have f0 : DataW.trod enc Try.prog w 0 (fun _ => true) true n 3 (([v0, v1, v2, v3, v4, v5].drop 0).take 1) = some y0 := (congrArg (fun q => DataW.trod enc Try.prog w 0 (fun _ => true) true n 3 (([v0, v1, v2, v3, v4, v5].drop 0).take q)) cz3).symm.trans (hf 0 _ rfl)
  have f1 : DataW.trod enc Try.prog w 0 (fun _ => true) true n 3 (([v0, v1, v2, v3, v4, v5].drop 1).take 1) = some y1 := (congrArg (fun q => DataW.trod enc Try.prog w 0 (fun _ => true) true n 3 (([v0, v1, v2, v3, v4, v5].drop 1).take q)) cz3).symm.trans (hf 1 _ rfl)
  have f2 : DataW.trod enc Try.prog w 0 (fun _ => true) true n 3 (([v0, v1, v2, v3, v4, v5].drop 2).take 1) = some y2 := (congrArg (fun q => DataW.trod enc Try.prog w 0 (fun _ => true) true n 3 (([v0, v1, v2, v3, v4, v5].drop 2).take q)) cz3).symm.trans (hf 2 _ rfl)
  have f3 : DataW.trod enc Try.prog w 0 (fun _ => true) true n 3 (([v0, v1, v2, v3, v4, v5].drop 3).take 1) = some y3 := (congrArg (fun q => DataW.trod enc Try.prog w 0 (fun _ => true) true n 3 (([v0, v1, v2, v3, v4, v5].drop 3).take q)) cz3).symm.trans (hf 3 _ rfl)
  have f4 : DataW.trod enc Try.prog w 0 (fun _ => true) true n 22 (([v0, v1, v2, v3, v4, v5].drop 4).take 1) = some y4 := (congrArg (fun q => DataW.trod enc Try.prog w 0 (fun _ => true) true n 22 (([v0, v1, v2, v3, v4, v5].drop 4).take q)) cz22).symm.trans (hf 4 _ rfl)
  have f5 : DataW.trod enc Try.prog w 0 (fun _ => true) true n 23 (([v0, v1, v2, v3, v4, v5].drop 5).take 1) = some y5 := (congrArg (fun q => DataW.trod enc Try.prog w 0 (fun _ => true) true n 23 (([v0, v1, v2, v3, v4, v5].drop 5).take q)) cz23).symm.trans (hf 5 _ rfl)
  exact ⟨n, v0, v1, v2, v3, v4, v5, y0, y1, y2, y3, y4, y5, rfl, rfl, rfl, f0, f1, f2, f3, f4, f5⟩
theorem rd61 {fuel : Nat} {cs : List Value} {y : DataW T × List MemPlace} (h : DataW.trod enc Try.prog w 0 (fun _ => true) true fuel 61 cs = some y) :
    ∃ (n : Nat) (v0 v1 v2 v3 v4 : Value) (y0 y1 y2 : DataW T × List MemPlace), fuel = n + 1 ∧ cs = [v0, v1, v2, v3, v4] ∧ y.1 = .agg [y0.1, y1.1, y2.1] ∧ DataW.trod enc Try.prog w 0 (fun _ => true) true n 3 [v0] = some y0 ∧ DataW.trod enc Try.prog w 0 (fun _ => true) true n 29 [v1, v2] = some y1 ∧ DataW.trod enc Try.prog w 0 (fun _ => true) true n 29 [v3, v4] = some y2 := by
  obtain ⟨xs, n, rfl, rfl, hl, hxl, hf⟩ := DataW.trod_struct Try.underlying61 h
  obtain ⟨v0, v1, v2, v3, v4, rfl⟩ := len5 (hl.trans cz61)
  obtain ⟨y0, y1, y2, rfl⟩ := len3 (show xs.length = 3 from hxl)
  have f0 : DataW.trod enc Try.prog w 0 (fun _ => true) true n 3 (([v0, v1, v2, v3, v4].drop 0).take 1) = some y0 := (congrArg (fun q => DataW.trod enc Try.prog w 0 (fun _ => true) true n 3 (([v0, v1, v2, v3, v4].drop 0).take q)) cz3).symm.trans (hf 0 _ rfl)
  have f1 : DataW.trod enc Try.prog w 0 (fun _ => true) true n 29 (([v0, v1, v2, v3, v4].drop 1).take 2) = some y1 := (congrArg (fun q => DataW.trod enc Try.prog w 0 (fun _ => true) true n 29 (([v0, v1, v2, v3, v4].drop 1).take q)) cz29).symm.trans (hf 1 _ rfl)
  have f2 : DataW.trod enc Try.prog w 0 (fun _ => true) true n 29 (([v0, v1, v2, v3, v4].drop 3).take 2) = some y2 := (congrArg (fun q => DataW.trod enc Try.prog w 0 (fun _ => true) true n 29 (([v0, v1, v2, v3, v4].drop 3).take q)) cz29).symm.trans (hf 2 _ rfl)
  exact ⟨n, v0, v1, v2, v3, v4, y0, y1, y2, rfl, rfl, rfl, f0, f1, f2⟩
theorem rd29 {fuel : Nat} {cs : List Value} {y : DataW T × List MemPlace} (h : DataW.trod enc Try.prog w 0 (fun _ => true) true fuel 29 cs = some y) :
    ∃ (n : Nat) (v0 v1 : Value) (y0 y1 : DataW T × List MemPlace), fuel = n + 1 ∧ cs = [v0, v1] ∧ y.1 = .agg [y0.1, y1.1] ∧ DataW.trod enc Try.prog w 0 (fun _ => true) true n 3 [v0] = some y0 ∧ DataW.trod enc Try.prog w 0 (fun _ => true) true n 3 [v1] = some y1 := by
  obtain ⟨xs, n, rfl, rfl, hl, hxl, hf⟩ := DataW.trod_struct Try.underlying29 h
  obtain ⟨v0, v1, rfl⟩ := len2 (hl.trans cz29)
  obtain ⟨y0, y1, rfl⟩ := len2 (show xs.length = 2 from hxl)
  have f0 : DataW.trod enc Try.prog w 0 (fun _ => true) true n 3 (([v0, v1].drop 0).take 1) = some y0 := (congrArg (fun q => DataW.trod enc Try.prog w 0 (fun _ => true) true n 3 (([v0, v1].drop 0).take q)) cz3).symm.trans (hf 0 _ rfl)
  have f1 : DataW.trod enc Try.prog w 0 (fun _ => true) true n 3 (([v0, v1].drop 1).take 1) = some y1 := (congrArg (fun q => DataW.trod enc Try.prog w 0 (fun _ => true) true n 3 (([v0, v1].drop 1).take q)) cz3).symm.trans (hf 1 _ rfl)
  exact ⟨n, v0, v1, y0, y1, rfl, rfl, rfl, f0, f1⟩
theorem rd64 {fuel : Nat} {cs : List Value} {y : DataW T × List MemPlace} (h : DataW.trod enc Try.prog w 0 (fun _ => true) true fuel 64 cs = some y) :
    ∃ (n : Nat) (v0 v1 : Value) (y0 y1 : DataW T × List MemPlace), fuel = n + 1 ∧ cs = [v0, v1] ∧ y.1 = .agg [y0.1, y1.1] ∧ DataW.trod enc Try.prog w 0 (fun _ => true) true n 3 [v0] = some y0 ∧ DataW.trod enc Try.prog w 0 (fun _ => true) true n 3 [v1] = some y1 := by
  obtain ⟨xs, n, rfl, rfl, hl, hxl, hf⟩ := DataW.trod_struct Try.underlying64 h
  obtain ⟨v0, v1, rfl⟩ := len2 (hl.trans cz64)
  obtain ⟨y0, y1, rfl⟩ := len2 (show xs.length = 2 from hxl)
  have f0 : DataW.trod enc Try.prog w 0 (fun _ => true) true n 3 (([v0, v1].drop 0).take 1) = some y0 := (congrArg (fun q => DataW.trod enc Try.prog w 0 (fun _ => true) true n 3 (([v0, v1].drop 0).take q)) cz3).symm.trans (hf 0 _ rfl)
  have f1 : DataW.trod enc Try.prog w 0 (fun _ => true) true n 3 (([v0, v1].drop 1).take 1) = some y1 := (congrArg (fun q => DataW.trod enc Try.prog w 0 (fun _ => true) true n 3 (([v0, v1].drop 1).take q)) cz3).symm.trans (hf 1 _ rfl)
  exact ⟨n, v0, v1, y0, y1, rfl, rfl, rfl, f0, f1⟩

def GnH (_ : Hp) (cs : List Value) (p : Gn) : Prop := cs = gnrow p
def KpH (_ : Hp) (cs : List Value) (p : Kp) : Prop := cs = kprow p
theorem gnrow_one (l : List Gn) : ∀ cs ∈ l.map gnrow, ∀ u ∈ cs, u.oneCell' = true := by
  intro cs hcs u hu
  obtain ⟨p, _, rfl⟩ := List.mem_map.1 hcs
  simp only [gnrow, List.mem_cons, List.not_mem_nil, or_false] at hu
  rcases hu with rfl | rfl | rfl | rfl | rfl <;> rfl
theorem kprow_one (l : List Kp) : ∀ cs ∈ l.map kprow, ∀ u ∈ cs, u.oneCell' = true := by
  intro cs hcs u hu
  obtain ⟨p, _, rfl⟩ := List.mem_map.1 hcs
  simp only [kprow, List.mem_cons, List.not_mem_nil, or_false] at hu
  rcases hu with rfl | rfl <;> rfl
theorem rd_pos {fuel : Nat} {cs : List Value} {y : DataW T × List MemPlace} (h : DataW.trod enc Try.prog w 0 (fun _ => true) true fuel 29 cs = some y) : ∃ a b : Int, cs = [.int .i64 a, .int .i64 b] := by
  obtain ⟨m, v0, v1, y0, y1, rfl, rfl, _, g0, g1⟩ := rd29 h
  obtain ⟨i0, rfl, _⟩ := rd_int g0
  obtain ⟨i1, rfl, _⟩ := rd_int g1
  exact ⟨i0, i1, rfl⟩
theorem rd_gones {fuel : Nat} {v : Value} {y : DataW T × List MemPlace} (h : DataW.trod enc Try.prog w 0 (fun _ => true) true fuel 22 [v] = some y) : ∃ a n c, ∃ l : List Gn, v = .slice a n c ∧ HRow (hp w) a n c 5 (l.map gnrow) ∧ l.length + 1 ≤ Rows.uptoBulk y.1 := by
  obtain ⟨a, n, c, l, rfl, ⟨css, h1, h2⟩, h3⟩ := rd_slice (Rl := GnH) (μ := fun _ => 1) Try.underlying22 cz61 (by omega) (fun cs x hx u hu => gnrow_one [x] cs (by simp [show cs = gnrow x from hx]) u hu) (fun n _ cs y hy => by
    obtain ⟨m, v0, v1, v2, v3, v4, y0, y1, y2, rfl, rfl, hy2, g0, g1, g2⟩ := rd61 hy
    obtain ⟨i0, rfl, _⟩ := rd_int g0
    obtain ⟨i1, i2, e1⟩ := rd_pos g1
    obtain ⟨i3, i4, e2⟩ := rd_pos g2
    simp only [List.cons.injEq, and_true] at e1 e2
    obtain ⟨rfl, rfl⟩ := e1
    obtain ⟨rfl, rfl⟩ := e2
    exact ⟨⟨i0, i1, i2, i3, i4⟩, rfl, by rw [hy2]; simp [Rows.uptoBulk]⟩) h
  rw [sum_one] at h3
  exact ⟨a, n, c, l, rfl, all2_map h2 ▸ h1, h3⟩
theorem rd_kepts {fuel : Nat} {v : Value} {y : DataW T × List MemPlace} (h : DataW.trod enc Try.prog w 0 (fun _ => true) true fuel 23 [v] = some y) : ∃ a n c, ∃ l : List Kp, v = .slice a n c ∧ HRow (hp w) a n c 2 (l.map kprow) ∧ l.length + 1 ≤ Rows.uptoBulk y.1 := by
  obtain ⟨a, n, c, l, rfl, ⟨css, h1, h2⟩, h3⟩ := rd_slice (Rl := KpH) (μ := fun _ => 1) Try.underlying23 cz64 (by omega) (fun cs x hx u hu => kprow_one [x] cs (by simp [show cs = kprow x from hx]) u hu) (fun n _ cs y hy => by
    obtain ⟨m, v0, v1, y0, y1, rfl, rfl, hy2, g0, g1⟩ := rd64 hy
    obtain ⟨i0, rfl, _⟩ := rd_int g0
    obtain ⟨i1, rfl, _⟩ := rd_int g1
    exact ⟨⟨i0, i1⟩, rfl, by rw [hy2]; simp [Rows.uptoBulk]⟩) h
  rw [sum_one] at h3
  exact ⟨a, n, c, l, rfl, all2_map h2 ▸ h1, h3⟩
set_option maxRecDepth 100000 in
theorem arg_step {v : Value} {d : DataW T} {ps : List MemPlace} {r : Reach} {base : Nat} (hv : Value.okWide Try.prog w r base 25 v) (h : DataW.Trod enc Try.prog w 0 (fun _ => true) true 25 v d ps) :
    ∃ cs, ∃ s : St, v = .agg cs.toArray ∧ StH (hp w) cs s ∧ s.gone.length + s.kept.length ≤ Rows.uptoBulk d := by
  obtain ⟨cs, rfl, _⟩ := okWide_struct Try.underlying25 hv
  obtain ⟨fuel, hf⟩ := h
  have hf' : DataW.trod enc Try.prog w 0 (fun _ => true) true fuel 25 cs.toList = some (d, ps) := hf
  obtain ⟨m, v0, v1, v2, v3, v4, v5, y0, y1, y2, y3, y4, y5, rfl, hcs, hy, g0, g1, g2, g3, g4, g5⟩ := rd25 hf'
  obtain ⟨i0, rfl, _⟩ := rd_int g0
  obtain ⟨i1, rfl, _⟩ := rd_int g1
  obtain ⟨i2, rfl, _⟩ := rd_int g2
  obtain ⟨i3, rfl, _⟩ := rd_int g3
  obtain ⟨ga, gn, gc, gl, rfl, p1, p2⟩ := rd_gones g4
  obtain ⟨ka, kn, kc, kl, rfl, p3, p4⟩ := rd_kepts g5
  refine ⟨cs.toList, ⟨i0, i1, i2, i3, gl, kl⟩, rfl, ⟨ga, gn, gc, ka, kn, kc, hcs, p1, p3⟩, ?_⟩
  have hy : d = .agg [y0.1, y1.1, y2.1, y3.1, y4.1, y5.1] := hy
  rw [hy]
  simp only [Rows.uptoBulk, Rows.uptoBulkAll]
  show gl.length + kl.length ≤ _
  omega
end
end Go.Proofs.Ytcliojofponpnaa
