/-
  How revisions, tables, filters and numbers are read. Printed by wip/fw/genQB.py.
-/
import Derived.Test.YtlcoebomgaodgaaE2
import Derived.Test.YtlcoebomgaodgaaQ6
namespace Go.Proofs.Ytlcoebomgaodgaa
open Go Go.RowKit Go.WideShapes Go.ChangeShapes
set_option linter.unusedVariables false
set_option linter.unusedSimpArgs false
theorem cz3 : Try.prog.cellsOf 3 = 1 := by kernel_rfl
theorem cz9 : Try.prog.cellsOf 9 = 1 := by kernel_rfl
theorem cz23 : Try.prog.cellsOf 23 = 3 := by kernel_rfl
theorem cz24 : Try.prog.cellsOf 24 = 1 := by kernel_rfl
theorem cz40 : Try.prog.cellsOf 40 = 1 := by kernel_rfl
theorem cz41 : Try.prog.cellsOf 41 = 1 := by kernel_rfl
theorem cz43 : Try.prog.cellsOf 43 = 4 := by kernel_rfl
theorem len3 {α : Type} {l : List α} (h : l.length = 3) : ∃ a0 a1 a2, l = [a0, a1, a2] := by
  match l, h with
  | [a0, a1, a2], _ => exact ⟨a0, a1, a2, rfl⟩
theorem len4 {α : Type} {l : List α} (h : l.length = 4) : ∃ a0 a1 a2 a3, l = [a0, a1, a2, a3] := by
  match l, h with
  | [a0, a1, a2, a3], _ => exact ⟨a0, a1, a2, a3, rfl⟩
section
variable {T : Type} {enc : TypeId × Value → T} {w : World}
theorem rd23 {fuel : Nat} {cs : List Value} {y : DataW T × List MemPlace} (h : DataW.trod enc Try.prog w 0 (fun _ => true) true fuel 23 cs = some y) :
    ∃ (n : Nat) (v0 v1 v2 : Value) (y0 y1 y2 : DataW T × List MemPlace), fuel = n + 1 ∧ cs = [v0, v1, v2] ∧ y.1 = .agg [y0.1, y1.1, y2.1] ∧ DataW.trod enc Try.prog w 0 (fun _ => true) true n 3 [v0] = some y0 ∧ DataW.trod enc Try.prog w 0 (fun _ => true) true n 9 [v1] = some y1 ∧ DataW.trod enc Try.prog w 0 (fun _ => true) true n 3 [v2] = some y2 := by
  obtain ⟨xs, n, rfl, rfl, hl, hxl, hf⟩ := DataW.trod_struct Try.underlying23 h
  obtain ⟨v0, v1, v2, rfl⟩ := len3 (hl.trans cz23)
  obtain ⟨y0, y1, y2, rfl⟩ := len3 (show xs.length = 3 from hxl)
  have f0 : DataW.trod enc Try.prog w 0 (fun _ => true) true n 3 (([v0, v1, v2].drop 0).take 1) = some y0 := (congrArg (fun q => DataW.trod enc Try.prog w 0 (fun _ => true) true n 3 (([v0, v1, v2].drop 0).take q)) cz3).symm.trans (hf 0 _ rfl)
  have f1 : DataW.trod enc Try.prog w 0 (fun _ => true) true n 9 (([v0, v1, v2].drop 1).take 1) = some y1 := (congrArg (fun q => DataW.trod enc Try.prog w 0 (fun _ => true) true n 9 (([v0, v1, v2].drop 1).take q)) cz9).symm.trans (hf 1 _ rfl)
  have f2 : DataW.trod enc Try.prog w 0 (fun _ => true) true n 3 (([v0, v1, v2].drop 2).take 1) = some y2 := (congrArg (fun q => DataW.trod enc Try.prog w 0 (fun _ => true) true n 3 (([v0, v1, v2].drop 2).take q)) cz3).symm.trans (hf 2 _ rfl)
  exact ⟨n, v0, v1, v2, y0, y1, y2, rfl, rfl, rfl, f0, f1, f2⟩
theorem rd43 {fuel : Nat} {cs : List Value} {y : DataW T × List MemPlace} (h : DataW.trod enc Try.prog w 0 (fun _ => true) true fuel 43 cs = some y) :
    ∃ (n : Nat) (v0 v1 v2 v3 : Value) (y0 y1 y2 y3 : DataW T × List MemPlace), fuel = n + 1 ∧ cs = [v0, v1, v2, v3] ∧ y.1 = .agg [y0.1, y1.1, y2.1, y3.1] ∧ DataW.trod enc Try.prog w 0 (fun _ => true) true n 40 [v0] = some y0 ∧ DataW.trod enc Try.prog w 0 (fun _ => true) true n 3 [v1] = some y1 ∧ DataW.trod enc Try.prog w 0 (fun _ => true) true n 3 [v2] = some y2 ∧ DataW.trod enc Try.prog w 0 (fun _ => true) true n 41 [v3] = some y3 := by
  obtain ⟨xs, n, rfl, rfl, hl, hxl, hf⟩ := DataW.trod_struct Try.underlying43 h
  obtain ⟨v0, v1, v2, v3, rfl⟩ := len4 (hl.trans cz43)
  obtain ⟨y0, y1, y2, y3, rfl⟩ := len4 (show xs.length = 4 from hxl)
  have f0 : DataW.trod enc Try.prog w 0 (fun _ => true) true n 40 (([v0, v1, v2, v3].drop 0).take 1) = some y0 := (congrArg (fun q => DataW.trod enc Try.prog w 0 (fun _ => true) true n 40 (([v0, v1, v2, v3].drop 0).take q)) cz40).symm.trans (hf 0 _ rfl)
  have f1 : DataW.trod enc Try.prog w 0 (fun _ => true) true n 3 (([v0, v1, v2, v3].drop 1).take 1) = some y1 := (congrArg (fun q => DataW.trod enc Try.prog w 0 (fun _ => true) true n 3 (([v0, v1, v2, v3].drop 1).take q)) cz3).symm.trans (hf 1 _ rfl)
  have f2 : DataW.trod enc Try.prog w 0 (fun _ => true) true n 3 (([v0, v1, v2, v3].drop 2).take 1) = some y2 := (congrArg (fun q => DataW.trod enc Try.prog w 0 (fun _ => true) true n 3 (([v0, v1, v2, v3].drop 2).take q)) cz3).symm.trans (hf 2 _ rfl)
  have f3 : DataW.trod enc Try.prog w 0 (fun _ => true) true n 41 (([v0, v1, v2, v3].drop 3).take 1) = some y3 := (congrArg (fun q => DataW.trod enc Try.prog w 0 (fun _ => true) true n 41 (([v0, v1, v2, v3].drop 3).take q)) cz41).symm.trans (hf 3 _ rfl)
  exact ⟨n, v0, v1, v2, v3, y0, y1, y2, y3, rfl, rfl, rfl, f0, f1, f2, f3⟩

def RevH (_ : Hp) (cs : List Value) (p : Rev) : Prop := cs = rrow p
def IntH (_ : Hp) (cs : List Value) (p : Int) : Prop := cs = irow p
def StrH (_ : Hp) (cs : List Value) (p : List UInt8) : Prop := cs = srow p
theorem rd_rev {fuel : Nat} {cs : List Value} {y : DataW T × List MemPlace} (h : DataW.trod enc Try.prog w 0 (fun _ => true) true fuel 23 cs = some y) : ∃ r : Rev, cs = rrow r ∧ r.author.length + 1 ≤ Rows.uptoBulk y.1 := by
  obtain ⟨m, v0, v1, v2, y0, y1, y2, rfl, rfl, hy1, g0, g1, g2⟩ := rd23 h
  obtain ⟨i0, rfl, b0⟩ := rd_int g0
  obtain ⟨s1, rfl, b1⟩ := rd_str g1
  obtain ⟨i2, rfl, b2⟩ := rd_int g2
  exact ⟨⟨i0, s1, i2⟩, rfl, by rw [hy1]; simp only [Rows.uptoBulk, Rows.uptoBulkAll]; omega⟩
theorem sum_ge {α : Type} {μ : α → Nat} : ∀ {l : List α} {x : α}, x ∈ l → μ x ≤ (l.map μ).sum
  | a :: l, x, h => by
    rw [List.map_cons, List.sum_cons]
    rcases List.mem_cons.1 h with rfl | h
    · omega
    · have := sum_ge (μ := μ) h; omega
theorem sum_len {α : Type} {μ : α → Nat} : ∀ (l : List α), l.length ≤ (l.map fun x => μ x + 1).sum
  | [] => by simp
  | a :: l => by have := sum_len (μ := μ) l; rw [List.map_cons, List.sum_cons, List.length_cons]; omega
theorem rd_revs {fuel : Nat} {v : Value} {y : DataW T × List MemPlace} (h : DataW.trod enc Try.prog w 0 (fun _ => true) true fuel 24 [v] = some y) : ∃ a n c, ∃ l : List Rev, v = .slice a n c ∧ HRow (hp w) a n c 3 (l.map rrow) ∧ l.length + 1 ≤ Rows.uptoBulk y.1 ∧ ∀ r ∈ l, r.author.length ≤ Rows.uptoBulk y.1 := by
  obtain ⟨a, n, c, l, rfl, ⟨css, h1, h2⟩, h3⟩ := rd_slice (Rl := RevH) (μ := fun r => r.author.length + 1) Try.underlying24 cz23 (by omega) (fun cs x hx u hu => rrow_one [x] cs (by simp [show cs = rrow x from hx]) u hu) (fun n _ cs y hy => by
    obtain ⟨r, e, b⟩ := rd_rev hy
    exact ⟨r, e, b⟩) h
  have hl := sum_len (μ := fun r : Rev => r.author.length) l
  exact ⟨a, n, c, l, rfl, all2_map h2 ▸ h1, by omega, fun r hr => by have h9 : r.author.length + 1 ≤ _ := sum_ge (μ := fun r : Rev => r.author.length + 1) hr; omega⟩
theorem rd_ints {fuel : Nat} {v : Value} {y : DataW T × List MemPlace} (h : DataW.trod enc Try.prog w 0 (fun _ => true) true fuel 41 [v] = some y) : ∃ a n c, ∃ l : List Int, v = .slice a n c ∧ HRow (hp w) a n c 1 (l.map irow) ∧ l.length + 1 ≤ Rows.uptoBulk y.1 := by
  obtain ⟨a, n, c, l, rfl, ⟨css, h1, h2⟩, h3⟩ := rd_slice (Rl := IntH) (μ := fun _ => 1) Try.underlying41 cz3 (by omega) (fun cs x hx u hu => irow_one [x] cs (by simp [show cs = irow x from hx]) u hu) (fun n _ cs y hy => by
    obtain ⟨m, hv, hy2, _⟩ := DataW.trod_int Try.underlying3 hy
    exact ⟨m, by simpa [IntH, irow] using hv, by rw [hy2]; simp [Rows.uptoBulk]⟩) h
  rw [sum_one] at h3
  exact ⟨a, n, c, l, rfl, all2_map h2 ▸ h1, h3⟩
theorem rd_strs {fuel : Nat} {v : Value} {y : DataW T × List MemPlace} (h : DataW.trod enc Try.prog w 0 (fun _ => true) true fuel 40 [v] = some y) : ∃ a n c, ∃ l : List (List UInt8), v = .slice a n c ∧ HRow (hp w) a n c 1 (l.map srow) ∧ l.length + 1 ≤ Rows.uptoBulk y.1 := by
  obtain ⟨a, n, c, l, rfl, ⟨css, h1, h2⟩, h3⟩ := rd_slice (Rl := StrH) (μ := fun _ => 1) Try.underlying40 cz9 (by omega) (fun cs x hx u hu => srow_one [x] cs (by simp [show cs = srow x from hx]) u hu) (fun n _ cs y hy => by
    obtain ⟨m, hv, hy2, _⟩ := DataW.trod_string Try.underlying9 hy
    refine ⟨m.data.toList, by simpa [StrH, srow, sv] using hv, by rw [hy2]; simp [Rows.uptoBulk]⟩) h
  rw [sum_one] at h3
  exact ⟨a, n, c, l, rfl, all2_map h2 ▸ h1, h3⟩
theorem rd_filt {fuel : Nat} {cs : List Value} {y : DataW T × List MemPlace} (h : DataW.trod enc Try.prog w 0 (fun _ => true) true fuel 43 cs = some y) : Rows.uptoBulk y.1 ≤ 1048576 → ∃ f : Filt, FiltH (hp w) cs f := by
  obtain ⟨m, v0, v1, v2, v3, y0, y1, y2, y3, rfl, rfl, hy, g0, g1, g2, g3⟩ := rd43 h
  intro hb
  obtain ⟨a, n, c, l, rfl, p1, p2⟩ := rd_strs g0
  obtain ⟨i1, rfl, _⟩ := rd_int g1
  obtain ⟨i2, rfl, _⟩ := rd_int g2
  obtain ⟨a', n', c', l', rfl, p3, p4⟩ := rd_ints g3
  rw [hy] at hb
  simp only [Rows.uptoBulk, Rows.uptoBulkAll] at hb
  have q1 := p1.len
  have q3 := p3.len
  rw [List.length_map] at q1 q3
  exact ⟨⟨l, i1, i2, l'⟩, ⟨⟨a, n, c, a', n', c', rfl, p1, p3, by omega, by omega⟩⟩⟩
set_option maxRecDepth 100000 in
theorem arg_rev {v : Value} {d : DataW T} {ps : List MemPlace} {r : Reach} {base : Nat} (hv : Value.okWide Try.prog w r base 23 v) (h : DataW.Trod enc Try.prog w 0 (fun _ => true) true 23 v d ps) :
    ∃ x : Rev, v = .agg (rrow x).toArray ∧ x.author.length + 1 ≤ Rows.uptoBulk d := by
  obtain ⟨cs, rfl, _⟩ := okWide_struct Try.underlying23 hv
  obtain ⟨fuel, hf⟩ := h
  obtain ⟨x, h1, h2⟩ := rd_rev hf
  exact ⟨x, by rw [← h1]; rfl, h2⟩
set_option maxRecDepth 100000 in
theorem arg_filt {v : Value} {d : DataW T} {ps : List MemPlace} {r : Reach} {base : Nat} (hv : Value.okWide Try.prog w r base 43 v) (h : DataW.Trod enc Try.prog w 0 (fun _ => true) true 43 v d ps) (hb : Rows.uptoBulk d ≤ 1048576) :
    ∃ cs f, v = .agg cs.toArray ∧ FiltH (hp w) cs f := by
  obtain ⟨cs, rfl, _⟩ := okWide_struct Try.underlying43 hv
  obtain ⟨fuel, hf⟩ := h
  obtain ⟨f, h1⟩ := rd_filt hf hb
  exact ⟨cs.toList, f, rfl, h1⟩
set_option maxRecDepth 100000 in
theorem arg_revs {v : Value} {d : DataW T} {ps : List MemPlace} {r : Reach} {base : Nat} (hv : Value.okWide Try.prog w r base 24 v) (h : DataW.Trod enc Try.prog w 0 (fun _ => true) true 24 v d ps) :
    ∃ a n c, ∃ l : List Rev, v = .slice a n c ∧ HRow (hp w) a n c 3 (l.map rrow) ∧ n + 1 ≤ Rows.uptoBulk d ∧ ∀ r ∈ l, r.author.length ≤ Rows.uptoBulk d := by
  obtain ⟨fuel, hf⟩ := h
  have hc : v.cells.toList = [v] := by
    obtain ⟨a, n, c, rfl⟩ := okWide_slice Try.underlying24 hv; rfl
  rw [hc] at hf
  obtain ⟨a, n, c, l, rfl, h1, h2, h3⟩ := rd_revs hf
  have := h1.len
  rw [List.length_map] at this
  have h2 : l.length + 1 ≤ Rows.uptoBulk d := h2
  exact ⟨a, n, c, l, rfl, h1, by omega, h3⟩
set_option maxRecDepth 100000 in
theorem arg_ints {v : Value} {d : DataW T} {ps : List MemPlace} {r : Reach} {base : Nat} (hv : Value.okWide Try.prog w r base 41 v) (h : DataW.Trod enc Try.prog w 0 (fun _ => true) true 41 v d ps) :
    ∃ a n c, ∃ l : List Int, v = .slice a n c ∧ HRow (hp w) a n c 1 (l.map irow) ∧ n + 1 ≤ Rows.uptoBulk d := by
  obtain ⟨fuel, hf⟩ := h
  have hc : v.cells.toList = [v] := by
    obtain ⟨a, n, c, rfl⟩ := okWide_slice Try.underlying41 hv; rfl
  rw [hc] at hf
  obtain ⟨a, n, c, l, rfl, h1, h2⟩ := rd_ints hf
  have := h1.len
  rw [List.length_map] at this
  have h2 : l.length + 1 ≤ Rows.uptoBulk d := h2
  exact ⟨a, n, c, l, rfl, h1, by omega⟩
end
end Go.Proofs.Ytlcoebomgaodgaa
