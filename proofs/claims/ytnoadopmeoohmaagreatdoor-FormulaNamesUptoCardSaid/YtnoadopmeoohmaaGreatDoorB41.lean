/-
  How values, expressions and bindings are read. Printed by wip/fw/genB41.py.
-/
import Derived.Test.YtnoadopmeoohmaaGreatDoorF23
namespace Go.Proofs.YtnoadopmeoohmaaGreatDoor
open Go Go.RowKit Go.WideShapes Go.ChangeShapes
set_option linter.unusedVariables false
set_option linter.unusedSimpArgs false
theorem cz3 : Tryz.prog.cellsOf 3 = 1 := by kernel_rfl
theorem cz9 : Tryz.prog.cellsOf 9 = 1 := by kernel_rfl
theorem cz22 : Tryz.prog.cellsOf 22 = 1 := by kernel_rfl
theorem cz24 : Tryz.prog.cellsOf 24 = 4 := by kernel_rfl
theorem cz37 : Tryz.prog.cellsOf 37 = 3 := by kernel_rfl
theorem cz39 : Tryz.prog.cellsOf 39 = 4 := by kernel_rfl
theorem len2 {α : Type} {l : List α} (h : l.length = 2) : ∃ a0 a1, l = [a0, a1] := by
  match l, h with
  | [a0, a1], _ => exact ⟨a0, a1, rfl⟩
theorem len3 {α : Type} {l : List α} (h : l.length = 3) : ∃ a0 a1 a2, l = [a0, a1, a2] := by
  match l, h with
  | [a0, a1, a2], _ => exact ⟨a0, a1, a2, rfl⟩
theorem len4 {α : Type} {l : List α} (h : l.length = 4) : ∃ a0 a1 a2 a3, l = [a0, a1, a2, a3] := by
  match l, h with
  | [a0, a1, a2, a3], _ => exact ⟨a0, a1, a2, a3, rfl⟩
section
variable {T : Type} {enc : TypeId × Value → T} {w : World}
theorem rd37 {fuel : Nat} {cs : List Value} {y : DataW T × List MemPlace} (h : DataW.trod enc Tryz.prog w 0 (fun _ => true) true fuel 37 cs = some y) :
    ∃ (n : Nat) (v0 v1 v2 : Value) (y0 y1 y2 : DataW T × List MemPlace), fuel = n + 1 ∧ cs = [v0, v1, v2] ∧ y.1 = .agg [y0.1, y1.1, y2.1] ∧ DataW.trod enc Tryz.prog w 0 (fun _ => true) true n 3 [v0] = some y0 ∧ DataW.trod enc Tryz.prog w 0 (fun _ => true) true n 3 [v1] = some y1 ∧ DataW.trod enc Tryz.prog w 0 (fun _ => true) true n 9 [v2] = some y2 := by
  obtain ⟨xs, n, rfl, rfl, hl, hxl, hf⟩ := DataW.trod_struct Tryz.underlying37 h
  obtain ⟨v0, v1, v2, rfl⟩ := len3 (hl.trans cz37)
  obtain ⟨y0, y1, y2, rfl⟩ := len3 (show xs.length = 3 from hxl)
  have f0 : DataW.trod enc Tryz.prog w 0 (fun _ => true) true n 3 (([v0, v1, v2].drop 0).take 1) = some y0 := (congrArg (fun q => DataW.trod enc Tryz.prog w 0 (fun _ => true) true n 3 (([v0, v1, v2].drop 0).take q)) cz3).symm.trans (hf 0 _ rfl)
  have f1 : DataW.trod enc Tryz.prog w 0 (fun _ => true) true n 3 (([v0, v1, v2].drop 1).take 1) = some y1 := (congrArg (fun q => DataW.trod enc Tryz.prog w 0 (fun _ => true) true n 3 (([v0, v1, v2].drop 1).take q)) cz3).symm.trans (hf 1 _ rfl)
  have f2 : DataW.trod enc Tryz.prog w 0 (fun _ => true) true n 9 (([v0, v1, v2].drop 2).take 1) = some y2 := (congrArg (fun q => DataW.trod enc Tryz.prog w 0 (fun _ => true) true n 9 (([v0, v1, v2].drop 2).take q)) cz9).symm.trans (hf 2 _ rfl)
  exact ⟨n, v0, v1, v2, y0, y1, y2, rfl, rfl, rfl, f0, f1, f2⟩
theorem rd24 {fuel : Nat} {cs : List Value} {y : DataW T × List MemPlace} (h : DataW.trod enc Tryz.prog w 0 (fun _ => true) true fuel 24 cs = some y) :
    ∃ (n : Nat) (v0 v1 v2 v3 : Value) (y0 y1 y2 y3 : DataW T × List MemPlace), fuel = n + 1 ∧ cs = [v0, v1, v2, v3] ∧ y.1 = .agg [y0.1, y1.1, y2.1, y3.1] ∧ DataW.trod enc Tryz.prog w 0 (fun _ => true) true n 3 [v0] = some y0 ∧ DataW.trod enc Tryz.prog w 0 (fun _ => true) true n 3 [v1] = some y1 ∧ DataW.trod enc Tryz.prog w 0 (fun _ => true) true n 9 [v2] = some y2 ∧ DataW.trod enc Tryz.prog w 0 (fun _ => true) true n 22 [v3] = some y3 := by
  obtain ⟨xs, n, rfl, rfl, hl, hxl, hf⟩ := DataW.trod_struct Tryz.underlying24 h
  obtain ⟨v0, v1, v2, v3, rfl⟩ := len4 (hl.trans cz24)
  obtain ⟨y0, y1, y2, y3, rfl⟩ := len4 (show xs.length = 4 from hxl)
  have f0 : DataW.trod enc Tryz.prog w 0 (fun _ => true) true n 3 (([v0, v1, v2, v3].drop 0).take 1) = some y0 := (congrArg (fun q => DataW.trod enc Tryz.prog w 0 (fun _ => true) true n 3 (([v0, v1, v2, v3].drop 0).take q)) cz3).symm.trans (hf 0 _ rfl)
  have f1 : DataW.trod enc Tryz.prog w 0 (fun _ => true) true n 3 (([v0, v1, v2, v3].drop 1).take 1) = some y1 := (congrArg (fun q => DataW.trod enc Tryz.prog w 0 (fun _ => true) true n 3 (([v0, v1, v2, v3].drop 1).take q)) cz3).symm.trans (hf 1 _ rfl)
  have f2 : DataW.trod enc Tryz.prog w 0 (fun _ => true) true n 9 (([v0, v1, v2, v3].drop 2).take 1) = some y2 := (congrArg (fun q => DataW.trod enc Tryz.prog w 0 (fun _ => true) true n 9 (([v0, v1, v2, v3].drop 2).take q)) cz9).symm.trans (hf 2 _ rfl)
  have f3 : DataW.trod enc Tryz.prog w 0 (fun _ => true) true n 22 (([v0, v1, v2, v3].drop 3).take 1) = some y3 := (congrArg (fun q => DataW.trod enc Tryz.prog w 0 (fun _ => true) true n 22 (([v0, v1, v2, v3].drop 3).take q)) cz22).symm.trans (hf 3 _ rfl)
  exact ⟨n, v0, v1, v2, v3, y0, y1, y2, y3, rfl, rfl, rfl, f0, f1, f2, f3⟩
theorem rd39 {fuel : Nat} {cs : List Value} {y : DataW T × List MemPlace} (h : DataW.trod enc Tryz.prog w 0 (fun _ => true) true fuel 39 cs = some y) :
    ∃ (n : Nat) (v0 v1 v2 v3 : Value) (y0 y1 : DataW T × List MemPlace), fuel = n + 1 ∧ cs = [v0, v1, v2, v3] ∧ y.1 = .agg [y0.1, y1.1] ∧ DataW.trod enc Tryz.prog w 0 (fun _ => true) true n 9 [v0] = some y0 ∧ DataW.trod enc Tryz.prog w 0 (fun _ => true) true n 37 [v1, v2, v3] = some y1 := by
  obtain ⟨xs, n, rfl, rfl, hl, hxl, hf⟩ := DataW.trod_struct Tryz.underlying39 h
  obtain ⟨v0, v1, v2, v3, rfl⟩ := len4 (hl.trans cz39)
  obtain ⟨y0, y1, rfl⟩ := len2 (show xs.length = 2 from hxl)
  have f0 : DataW.trod enc Tryz.prog w 0 (fun _ => true) true n 9 (([v0, v1, v2, v3].drop 0).take 1) = some y0 := (congrArg (fun q => DataW.trod enc Tryz.prog w 0 (fun _ => true) true n 9 (([v0, v1, v2, v3].drop 0).take q)) cz9).symm.trans (hf 0 _ rfl)
  have f1 : DataW.trod enc Tryz.prog w 0 (fun _ => true) true n 37 (([v0, v1, v2, v3].drop 1).take 3) = some y1 := (congrArg (fun q => DataW.trod enc Tryz.prog w 0 (fun _ => true) true n 37 (([v0, v1, v2, v3].drop 1).take q)) cz37).symm.trans (hf 1 _ rfl)
  exact ⟨n, v0, v1, v2, v3, y0, y1, rfl, rfl, rfl, f0, f1⟩

theorem rd_i64 {fuel : Nat} {v : Value} {y : DataW T × List MemPlace} (h : DataW.trod enc Tryz.prog w 0 (fun _ => true) true fuel 3 [v] = some y) : ∃ n, v = .int .i64 n ∧ Rows.uptoBulk y.1 = 1 ∧ I64 n := by
  obtain ⟨n, hv, rfl, hw⟩ := DataW.trod_int Tryz.underlying3 h
  refine ⟨n, by simpa using hv, rfl, ?_⟩
  simp [Lit.wf, IntKind.min, IntKind.max, IntKind.signed, IntKind.bits] at hw
  exact ⟨by omega, by omega⟩
theorem rd_val {fuel : Nat} {cs : List Value} {y : DataW T × List MemPlace} (h : DataW.trod enc Tryz.prog w 0 (fun _ => true) true fuel 37 cs = some y) : ∃ r : Val, cs = vlrow r ∧ I64 r.num ∧ r.text.length + 3 ≤ Rows.uptoBulk y.1 := by
  obtain ⟨m, v0, v1, v2, y0, y1, y2, rfl, rfl, hy1, g0, g1, g2⟩ := rd37 h
  obtain ⟨i0, rfl, b0⟩ := rd_int g0
  obtain ⟨i1, rfl, b1, w1⟩ := rd_i64 g1
  obtain ⟨s2, rfl, b2⟩ := rd_str g2
  exact ⟨⟨i0, i1, s2⟩, rfl, w1, by rw [hy1]; simp only [Rows.uptoBulk, Rows.uptoBulkAll]; omega⟩
def BndP (_ : Hp) (cs : List Value) (b : Bnd) : Prop := cs = bdrow b ∧ I64 b.val.num
theorem rd_bind {fuel : Nat} {cs : List Value} {y : DataW T × List MemPlace} (h : DataW.trod enc Tryz.prog w 0 (fun _ => true) true fuel 39 cs = some y) : ∃ r : Bnd, BndP (hp w) cs r ∧ r.val.text.length + 1 ≤ Rows.uptoBulk y.1 := by
  obtain ⟨m, v0, v1, v2, v3, y0, y1, rfl, rfl, hy1, g0, g1⟩ := rd39 h
  obtain ⟨s0, rfl, b0⟩ := rd_str g0
  obtain ⟨x, hx, w1, b1⟩ := rd_val g1
  simp only [vlrow, List.cons.injEq, and_true] at hx
  obtain ⟨rfl, rfl, rfl⟩ := hx
  exact ⟨⟨s0, x⟩, ⟨rfl, w1⟩, by rw [hy1]; simp only [Rows.uptoBulk, Rows.uptoBulkAll]; omega⟩
theorem sum_ge {α : Type} {μ : α → Nat} : ∀ {l : List α} {x : α}, x ∈ l → μ x ≤ (l.map μ).sum
  | a :: l, x, h => by
    rw [List.map_cons, List.sum_cons]
    rcases List.mem_cons.1 h with rfl | h
    · omega
    · have := sum_ge (μ := μ) h; omega
theorem sum_len {α : Type} {μ : α → Nat} : ∀ (l : List α), l.length ≤ (l.map fun x => μ x + 1).sum
  | [] => by simp
  | a :: l => by have := sum_len (μ := μ) l; rw [List.map_cons, List.sum_cons, List.length_cons]; omega
theorem massN_sum : ∀ l : List Nd, massN l = (l.map Nd.mass).sum
  | [] => rfl
  | x :: l => by rw [massN, massN_sum l]; rfl
set_option maxRecDepth 100000 in
theorem rd_node : ∀ (fuel : Nat) (cs : List Value) (y : DataW T × List MemPlace), DataW.trod enc Tryz.prog w 0 (fun _ => true) true fuel 24 cs = some y → ∃ x : Nd, NodeH (hp w) cs x ∧ x.mass ≤ Rows.uptoBulk y.1 := by
  intro fuel
  induction fuel using Nat.strongRecOn with
  | _ fuel ih =>
    intro cs y h
    obtain ⟨m, v0, v1, v2, v3, y0, y1, y2, y3, rfl, rfl, hy1, g0, g1, g2, g3⟩ := rd24 h
    obtain ⟨i0, rfl, b0⟩ := rd_int g0
    obtain ⟨i1, rfl, b1⟩ := rd_int g1
    obtain ⟨s2, rfl, b2⟩ := rd_str g2
    obtain ⟨a, n, c, l, rfl, hl, b3⟩ := rd_slice (Rl := NodeH) (μ := Nd.mass) Tryz.underlying22 cz24 (by omega) (fun cs x hx => hx.one) (fun n hn cs y hy => ih n (by omega) cs y hy) g3
    refine ⟨.mk i0 i1 s2 l, NodeH.of (x := .mk i0 i1 s2 l) hl, ?_⟩
    rw [hy1]
    simp only [Nd.mass, massN_sum, Rows.uptoBulk, Rows.uptoBulkAll]
    omega
theorem rd_binds {fuel : Nat} {v : Value} {y : DataW T × List MemPlace} (h : DataW.trod enc Tryz.prog w 0 (fun _ => true) true fuel 40 [v] = some y) : ∃ a n c, ∃ l : List Bnd, v = .slice a n c ∧ HRow (hp w) a n c 4 (l.map bdrow) ∧ n + 1 ≤ Rows.uptoBulk y.1 ∧ ∀ b ∈ l, I64 b.val.num ∧ b.val.text.length ≤ Rows.uptoBulk y.1 := by
  obtain ⟨a, n, c, l, rfl, ⟨css, h1, h2⟩, h3⟩ := rd_slice (Rl := BndP) (μ := fun r => r.val.text.length + 1) Tryz.underlying40 cz39 (by omega) (fun cs x hx u hu => bdrow_one [x] cs (by simp [hx.1]) u hu) (fun n _ cs y hy => rd_bind hy) h
  have hl := sum_len (μ := fun r : Bnd => r.val.text.length) l
  have e : All2 (fun cs x => cs = bdrow x) css l := h2.mono fun _ _ h => h.1
  have hlen := h1.len
  have h2l := h2.length
  refine ⟨a, n, c, l, rfl, all2_map e ▸ h1, by omega, fun b hb => ⟨?_, ?_⟩⟩
  · obtain ⟨i, hi⟩ := List.mem_iff_getElem?.1 hb
    obtain ⟨cs, hc⟩ : ∃ cs, css[i]? = some cs := ⟨_, List.getElem?_eq_getElem (by have := (List.getElem?_eq_some_iff.1 hi).1; omega)⟩
    obtain ⟨x, hx, hR⟩ := h2.get hc
    rw [hi] at hx
    cases hx
    exact hR.2
  · have h9 : b.val.text.length + 1 ≤ _ := sum_ge (μ := fun r : Bnd => r.val.text.length + 1) hb
    omega
set_option maxRecDepth 100000 in
theorem arg_val {v : Value} {d : DataW T} {ps : List MemPlace} {r : Reach} {base : Nat} (hv : Value.okWide Tryz.prog w r base 37 v) (h : DataW.Trod enc Tryz.prog w 0 (fun _ => true) true 37 v d ps) :
    ∃ x : Val, v = rV x ∧ I64 x.num := by
  obtain ⟨cs, rfl, _⟩ := okWide_struct Tryz.underlying37 hv
  obtain ⟨fuel, hf⟩ := h
  have hf' : DataW.trod enc Tryz.prog w 0 (fun _ => true) true fuel 37 cs.toList = some (d, ps) := hf
  obtain ⟨x, hx, w1, _⟩ := rd_val hf'
  exact ⟨x, by show Value.agg cs = .agg (vlrow x).toArray; rw [← hx], w1⟩
set_option maxRecDepth 100000 in
theorem arg_node {v : Value} {d : DataW T} {ps : List MemPlace} {r : Reach} {base : Nat} (hv : Value.okWide Tryz.prog w r base 24 v) (h : DataW.Trod enc Tryz.prog w 0 (fun _ => true) true 24 v d ps) :
    ∃ cs, ∃ x : Nd, v = .agg cs.toArray ∧ NodeH (hp w) cs x ∧ x.mass ≤ Rows.uptoBulk d := by
  obtain ⟨cs, rfl, _⟩ := okWide_struct Tryz.underlying24 hv
  obtain ⟨fuel, hf⟩ := h
  have hf' : DataW.trod enc Tryz.prog w 0 (fun _ => true) true fuel 24 cs.toList = some (d, ps) := hf
  obtain ⟨x, hx, hb⟩ := rd_node fuel _ _ hf'
  exact ⟨cs.toList, x, rfl, hx, hb⟩
set_option maxRecDepth 100000 in
theorem arg_env {v : Value} {d : DataW T} {ps : List MemPlace} {r : Reach} {base : Nat} (hv : Value.okWide Tryz.prog w r base 40 v) (h : DataW.Trod enc Tryz.prog w 0 (fun _ => true) true 40 v d ps) (hb : Rows.uptoBulk d ≤ 1048576) :
    ∃ a n c, ∃ l : List Bnd, v = .slice a n c ∧ HRow (hp w) a n c 4 (l.map bdrow) ∧ n + 1 ≤ Rows.uptoBulk d ∧ EnvV l := by
  obtain ⟨fuel, hf⟩ := h
  have hc : v.cells.toList = [v] := by obtain ⟨a, n, c, rfl⟩ := okWide_slice Tryz.underlying40 hv; rfl
  rw [hc] at hf
  obtain ⟨a, n, c, l, rfl, h1, h2, h3⟩ := rd_binds hf
  have h2 : n + 1 ≤ Rows.uptoBulk d := h2
  exact ⟨a, n, c, l, rfl, h1, h2, fun b hb' => ⟨(h3 b hb').1, by have h9 : b.val.text.length ≤ Rows.uptoBulk d := (h3 b hb').2; omega⟩⟩
end
end Go.Proofs.YtnoadopmeoohmaaGreatDoor
