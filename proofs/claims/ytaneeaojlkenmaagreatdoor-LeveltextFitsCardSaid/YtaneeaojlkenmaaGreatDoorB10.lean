/-
  How levels, parts, numbers and arrays are read. Printed by wip/fw/genB10.py.
-/
import Derived.Test.YtaneeaojlkenmaaGreatDoorK12
import Derived.Test.YtaneeaojlkenmaaGreatDoorL18
namespace Go.Proofs.YtaneeaojlkenmaaGreatDoor
open Go Go.RowKit Go.WideShapes Go.ChangeShapes
set_option linter.unusedVariables false
set_option linter.unusedSimpArgs false
/-- lists of cells and lists of data, one by one -/
inductive All2 {α : Type} (R : List Value → α → Prop) : List (List Value) → List α → Prop where
  | nil : All2 R [] []
  | cons {cs : List Value} {x : α} {css : List (List Value)} {l : List α} (h : R cs x) (t : All2 R css l) : All2 R (cs :: css) (x :: l)
section
variable {α β : Type} {R : List Value → α → Prop} {css css' : List (List Value)} {l l' : List α}
theorem All2.length (h : All2 R css l) : css.length = l.length := by induction h with | nil => rfl | cons _ _ ih => simp [ih]
theorem All2.append (h : All2 R css l) (h' : All2 R css' l') : All2 R (css ++ css') (l ++ l') := by
  induction h with
  | nil => exact h'
  | cons h t ih => exact .cons h ih
theorem All2.one {cs : List Value} {x : α} (h : R cs x) : All2 R [cs] [x] := .cons h .nil
theorem All2.get (h : All2 R css l) {i : Nat} {cs : List Value} (hi : css[i]? = some cs) : ∃ x, l[i]? = some x ∧ R cs x := by
  induction h generalizing i with
  | nil => simp at hi
  | cons h t ih => cases i with
    | zero => simp at hi; subst hi; exact ⟨_, by simp, h⟩
    | succ i => simp at hi; obtain ⟨x, h1, h2⟩ := ih hi; exact ⟨x, by simpa using h1, h2⟩
theorem All2.mono {R' : List Value → α → Prop} (hR : ∀ cs x, R cs x → R' cs x) (h : All2 R css l) : All2 R' css l := by
  induction h with
  | nil => exact .nil
  | cons h t ih => exact .cons (hR _ _ h) ih
theorem All2.take (h : All2 R css l) (n : Nat) : All2 R (css.take n) (l.take n) := by
  induction h generalizing n with
  | nil => simp; exact .nil
  | cons h t ih => cases n with
    | zero => exact .nil
    | succ n => exact .cons h (ih n)
theorem All2.drop (h : All2 R css l) (n : Nat) : All2 R (css.drop n) (l.drop n) := by
  induction h generalizing n with
  | nil => simp; exact .nil
  | cons h t ih => cases n with
    | zero => exact .cons h t
    | succ n => exact ih n
end

/-- a slice of data: k cells each -/
structure SlH {α : Type} (H : Hp) (R : Hp → List Value → α → Prop) (k : Nat) (a : Option Addr) (n c : Nat) (l : List α) : Prop where
  ex : ∃ css, HRow H a n c k css ∧ All2 (R H) css l
theorem SlH.len {α : Type} {H : Hp} {R : Hp → List Value → α → Prop} {k : Nat} {a : Option Addr} {n c : Nat} {l : List α} (h : SlH H R k a n c l) : l.length = n := by
  obtain ⟨css, h1, h2⟩ := h.ex
  rw [← h2.length, h1.len]
/-- the element at a place -/
theorem SlH.at {α : Type} {H : Hp} {R : Hp → List Value → α → Prop} {k : Nat} {a : Option Addr} {n c : Nat} {l : List α} (h : SlH H R k a n c l) (i : Nat) (hi : i < n) :
    ∃ b o cs x, a = some ⟨b, o, none⟩ ∧ l[i]? = some x ∧ R H cs x ∧ cs.length = k ∧ HCells H b (o + i * k) cs := by
  obtain ⟨css, h1, h2⟩ := h.ex
  obtain ⟨b, o, cs, ha, hcs, hk, hc⟩ := h1.at i hi
  obtain ⟨x, hx, hR⟩ := h2.get hcs
  exact ⟨b, o, cs, x, ha, hx, hR, hk, hc⟩
theorem SlH.mono {α : Type} {H H' : Hp} {R : Hp → List Value → α → Prop} (hR : ∀ cs x, R H cs x → R H' cs x) (hl : HLe H H') {k : Nat} {a : Option Addr} {n c : Nat} {l : List α} (h : SlH H R k a n c l) : SlH H' R k a n c l := by
  obtain ⟨css, h1, h2⟩ := h.ex
  exact ⟨css, h1.mono hl, h2.mono hR⟩
section
variable {T : Type} {enc : TypeId × Value → T} {w : World}
theorem cells_spot {a : Addr} {k : Nat} {cs : List Value} (hk : 0 < k) (h : w.cells? 0 a k = some cs) : a.spot = none ∧ cs.length = k ∧ ∀ j v, cs[j]? = some v → w.cell? ⟨a.block, a.off + j, none⟩ = some v := by
  simp only [World.cells?, Nat.zero_le, if_true] at h
  have hl := mapM_some_length h
  simp only [List.length_range] at hl
  have hg : ∀ j, j < k → w.cell? (a.add j) = cs[j]? := fun j hj => mapM_some_get h j j (by simp [hj])
  have h0 := hg 0 hk
  have hs : a.spot = none := by
    obtain ⟨b, o, s⟩ := a
    cases s with
    | none => rfl
    | some q =>
      exfalso
      have : w.cell? ⟨b, o, some q⟩ = none := by
        unfold World.cell?
        cases w.heap[b]? with
        | none => rfl
        | some ob => cases ob <;> rfl
      rw [show (⟨b, o, some q⟩ : Addr).add 0 = ⟨b, o, some q⟩ from rfl, this] at h0
      rw [List.getElem?_eq_getElem (by omega)] at h0
      cases h0
  refine ⟨hs, hl, fun j v hj => ?_⟩
  have hj' : j < k := by have := (List.getElem?_eq_some_iff.1 hj).1; omega
  have := hg j hj'
  rw [hj] at this
  obtain ⟨b, o, s⟩ := a
  simp only at hs
  subst hs
  rwa [Addr.add_lit] at this

/-- a slice: each element read -/
theorem row_of {α : Type} {R : Hp → List Value → α → Prop} {e k fuel len cap : Nat} {a : Addr} {elems : List (DataW T × List MemPlace)} {μ : α → Nat} (hk : Tryz.prog.cellsOf e = k) (hk0 : 0 < k)
    (hone : ∀ cs x, R (hp w) cs x → ∀ u ∈ cs, u.oneCell' = true) (hlen : elems.length = len) (hcap : len ≤ cap)
    (hel : ∀ i, i < len → (w.cells? 0 (a.add (i * Tryz.prog.cellsOf e)) (Tryz.prog.cellsOf e)).bind (DataW.trod enc Tryz.prog w 0 (fun _ => true) true fuel e) = elems[i]?)
    (ih : ∀ cs y, DataW.trod enc Tryz.prog w 0 (fun _ => true) true fuel e cs = some y → ∃ x, R (hp w) cs x ∧ μ x ≤ Rows.uptoBulk y.1) :
    ∃ l, SlH (hp w) R k (some a) len cap l ∧ (l.map μ).sum ≤ Rows.uptoBulkAll (elems.map (·.1)) := by
  rw [hk] at hel
  have key : ∀ m, m ≤ len → ∃ css l, css.length = m ∧ (∀ i cs, css[i]? = some cs → cs.length = k ∧ a.spot = none ∧ ∀ j v, cs[j]? = some v → w.cell? ⟨a.block, a.off + i * k + j, none⟩ = some v) ∧ All2 (R (hp w)) css l ∧ (l.map μ).sum ≤ Rows.uptoBulkAll ((elems.take m).map (·.1)) := by
    intro m
    induction m with
    | zero => intro _; exact ⟨[], [], rfl, by simp, .nil, by simp⟩
    | succ m ihm =>
      intro hm
      obtain ⟨css, l, h1, h2, h3, h4⟩ := ihm (by omega)
      have hm' : m < elems.length := by omega
      have h5 := hel m (by omega)
      rw [List.getElem?_eq_getElem hm', Option.bind_eq_some_iff] at h5
      obtain ⟨cs, hcs, hy⟩ := h5
      obtain ⟨hs, hl, hc⟩ := cells_spot hk0 hcs
      obtain ⟨x, hx, hb⟩ := ih cs _ hy
      have ha : a.spot = none ∧ (a.add (m * k)).block = a.block ∧ (a.add (m * k)).off = a.off + m * k := by
        by_cases hz : m * k = 0
        · rw [hz] at hs ⊢; exact ⟨hs, rfl, rfl⟩
        · refine ⟨?_, by simp [Addr.add, hz], by simp [Addr.add, hz]⟩
          have h0 := hel 0 (by omega)
          rw [List.getElem?_eq_getElem (by omega), Option.bind_eq_some_iff] at h0
          obtain ⟨cs0, hcs0, _⟩ := h0
          rw [show 0 * k = 0 by omega] at hcs0
          exact (cells_spot hk0 hcs0).1
      refine ⟨css ++ [cs], l ++ [x], by simp [h1], ?_, h3.append (All2.one hx), ?_⟩
      · intro i cs' hi
        by_cases hlt : i < css.length
        · rw [List.getElem?_append_left hlt] at hi; exact h2 i cs' hi
        · rw [List.getElem?_append_right (by omega)] at hi
          have hi0 : i = m := by
            have := (List.getElem?_eq_some_iff.1 hi).1
            simp at this; omega
          subst hi0
          rw [h1, Nat.sub_self] at hi
          simp at hi
          subst hi
          refine ⟨hl, ha.1, fun j v hj => ?_⟩
          have := hc j v hj
          rwa [ha.2.1, ha.2.2] at this
      · rw [List.take_succ_eq_append_getElem hm', List.map_append, List.map_append, List.sum_append]
        have happ : ∀ a b : List (DataW T), Rows.uptoBulkAll (a ++ b) = Rows.uptoBulkAll a + Rows.uptoBulkAll b := by
          intro a b
          induction a with
          | nil => simp [Rows.uptoBulkAll]
          | cons y r ih => simp only [List.cons_append, Rows.uptoBulkAll, ih]; omega
        rw [happ]
        simp only [List.map_cons, List.map_nil, List.sum_cons, List.sum_nil, Rows.uptoBulkAll]
        omega
  obtain ⟨css, l, h1, h2, h3, h4⟩ := key len (Nat.le_refl _)
  rw [← hlen, List.take_length] at h4
  refine ⟨l, ⟨css, ⟨h1, hcap, fun h => (by cases h), fun i cs hi => ?_⟩, h3⟩, h4⟩
  obtain ⟨hl, hs, hc⟩ := h2 i cs hi
  refine ⟨hl, a.block, a.off, by obtain ⟨b, o, s⟩ := a; simp only at hs; subst hs; rfl, fun j v hj => ?_⟩
  obtain ⟨x, hx, hR⟩ := h3.get hi
  exact hp_cell (hc j v hj) (hone cs x hR v (List.mem_of_getElem? hj))
end
section
variable {T : Type} {enc : TypeId × Value → T} {w : World}
theorem rd_int {fuel : Nat} {v : Value} {y : DataW T × List MemPlace} (h : DataW.trod enc Tryz.prog w 0 (fun _ => true) true fuel 3 [v] = some y) : ∃ n, v = .int .i64 n ∧ Rows.uptoBulk y.1 = 1 := by
  obtain ⟨n, hv, rfl, _⟩ := DataW.trod_int Tryz.underlying3 h
  exact ⟨n, by simpa using hv, rfl⟩
theorem rd_bool {fuel : Nat} {v : Value} {y : DataW T × List MemPlace} (h : DataW.trod enc Tryz.prog w 0 (fun _ => true) true fuel 4 [v] = some y) : ∃ b, v = .bool b ∧ Rows.uptoBulk y.1 = 1 := by
  obtain ⟨n, hv, rfl⟩ := DataW.trod_bool Tryz.underlying4 h
  exact ⟨n, by simpa using hv, rfl⟩
theorem rd_str {fuel : Nat} {v : Value} {y : DataW T × List MemPlace} (h : DataW.trod enc Tryz.prog w 0 (fun _ => true) true fuel 9 [v] = some y) : ∃ s, v = sv s ∧ Rows.uptoBulk y.1 = s.length + 1 := by
  obtain ⟨s, hv, rfl, _⟩ := DataW.trod_string Tryz.underlying9 h
  refine ⟨s.data.toList, ?_, by simp [Rows.uptoBulk]⟩
  simpa [sv] using hv
/-- a slice -/
theorem rd_slice {α : Type} {Rl : Hp → List Value → α → Prop} {t e k fuel : Nat} {v : Value} {y : DataW T × List MemPlace} {μ : α → Nat} (ht : Tryz.prog.underlying t = some (.slice e)) (hk : Tryz.prog.cellsOf e = k) (hk0 : 0 < k)
    (hone : ∀ cs x, Rl (hp w) cs x → ∀ u ∈ cs, u.oneCell' = true)
    (ih : ∀ n, n < fuel → ∀ cs y, DataW.trod enc Tryz.prog w 0 (fun _ => true) true n e cs = some y → ∃ x, Rl (hp w) cs x ∧ μ x ≤ Rows.uptoBulk y.1) (h : DataW.trod enc Tryz.prog w 0 (fun _ => true) true fuel t [v] = some y) :
    ∃ a n c l, v = .slice a n c ∧ SlH (hp w) Rl k a n c l ∧ (l.map μ).sum + 1 ≤ Rows.uptoBulk y.1 := by
  rcases DataW.trod_slice ht h with ⟨hv, rfl⟩ | ⟨a, len, cap, elems, rest, n, rfl, hv, rfl, _, hcap, _, hlen, hel, _, _⟩
  · simp at hv
    exact ⟨none, 0, 0, [], hv, ⟨[], HRow.nil' _ k, .nil⟩, by simp [Rows.uptoBulk]⟩
  · simp at hv
    obtain ⟨l, h1, h2⟩ := row_of hk hk0 hone hlen hcap hel (ih n (by omega))
    refine ⟨some a, len, cap, l, hv, h1, ?_⟩
    simp only [Rows.uptoBulk]
    omega

theorem all2_map {α : Type} {f : α → List Value} {css : List (List Value)} {l : List α} (h : All2 (fun cs x => cs = f x) css l) : css = l.map f := by
  induction h with
  | nil => rfl
  | cons h t ih => simp [h, ih]
theorem sum_one {α : Type} (l : List α) : (l.map fun _ => 1).sum = l.length := by
  induction l with
  | nil => rfl
  | cons x l ih => simp [ih]; omega
end
theorem cz3 : Tryz.prog.cellsOf 3 = 1 := by kernel_rfl
theorem cz4 : Tryz.prog.cellsOf 4 = 1 := by kernel_rfl
theorem cz9 : Tryz.prog.cellsOf 9 = 1 := by kernel_rfl
theorem cz43 : Tryz.prog.cellsOf 43 = 4 := by kernel_rfl
theorem cz63 : Tryz.prog.cellsOf 63 = 3 := by kernel_rfl
theorem len3 {α : Type} {l : List α} (h : l.length = 3) : ∃ a0 a1 a2, l = [a0, a1, a2] := by
  match l, h with
  | [a0, a1, a2], _ => exact ⟨a0, a1, a2, rfl⟩
theorem len4 {α : Type} {l : List α} (h : l.length = 4) : ∃ a0 a1 a2 a3, l = [a0, a1, a2, a3] := by
  match l, h with
  | [a0, a1, a2, a3], _ => exact ⟨a0, a1, a2, a3, rfl⟩
section
variable {T : Type} {enc : TypeId × Value → T} {w : World}
theorem rd43 {fuel : Nat} {cs : List Value} {y : DataW T × List MemPlace} (h : DataW.trod enc Tryz.prog w 0 (fun _ => true) true fuel 43 cs = some y) :
    ∃ (n : Nat) (v0 v1 v2 v3 : Value) (y0 y1 y2 y3 : DataW T × List MemPlace), fuel = n + 1 ∧ cs = [v0, v1, v2, v3] ∧ y.1 = .agg [y0.1, y1.1, y2.1, y3.1] ∧ DataW.trod enc Tryz.prog w 0 (fun _ => true) true n 3 [v0] = some y0 ∧ DataW.trod enc Tryz.prog w 0 (fun _ => true) true n 3 [v1] = some y1 ∧ DataW.trod enc Tryz.prog w 0 (fun _ => true) true n 9 [v2] = some y2 ∧ DataW.trod enc Tryz.prog w 0 (fun _ => true) true n 3 [v3] = some y3 := by
  obtain ⟨xs, n, rfl, rfl, hl, hxl, hf⟩ := DataW.trod_struct Tryz.underlying43 h
  obtain ⟨v0, v1, v2, v3, rfl⟩ := len4 (hl.trans cz43)
  obtain ⟨y0, y1, y2, y3, rfl⟩ := len4 (show xs.length = 4 from hxl)
  have f0 : DataW.trod enc Tryz.prog w 0 (fun _ => true) true n 3 (([v0, v1, v2, v3].drop 0).take 1) = some y0 := (congrArg (fun q => DataW.trod enc Tryz.prog w 0 (fun _ => true) true n 3 (([v0, v1, v2, v3].drop 0).take q)) cz3).symm.trans (hf 0 _ rfl)
  have f1 : DataW.trod enc Tryz.prog w 0 (fun _ => true) true n 3 (([v0, v1, v2, v3].drop 1).take 1) = some y1 := (congrArg (fun q => DataW.trod enc Tryz.prog w 0 (fun _ => true) true n 3 (([v0, v1, v2, v3].drop 1).take q)) cz3).symm.trans (hf 1 _ rfl)
  have f2 : DataW.trod enc Tryz.prog w 0 (fun _ => true) true n 9 (([v0, v1, v2, v3].drop 2).take 1) = some y2 := (congrArg (fun q => DataW.trod enc Tryz.prog w 0 (fun _ => true) true n 9 (([v0, v1, v2, v3].drop 2).take q)) cz9).symm.trans (hf 2 _ rfl)
  have f3 : DataW.trod enc Tryz.prog w 0 (fun _ => true) true n 3 (([v0, v1, v2, v3].drop 3).take 1) = some y3 := (congrArg (fun q => DataW.trod enc Tryz.prog w 0 (fun _ => true) true n 3 (([v0, v1, v2, v3].drop 3).take q)) cz3).symm.trans (hf 3 _ rfl)
  exact ⟨n, v0, v1, v2, v3, y0, y1, y2, y3, rfl, rfl, rfl, f0, f1, f2, f3⟩
theorem rd63 {fuel : Nat} {cs : List Value} {y : DataW T × List MemPlace} (h : DataW.trod enc Tryz.prog w 0 (fun _ => true) true fuel 63 cs = some y) :
    ∃ (n : Nat) (v0 v1 v2 : Value) (y0 y1 y2 : DataW T × List MemPlace), fuel = n + 1 ∧ cs = [v0, v1, v2] ∧ y.1 = .agg [y0.1, y1.1, y2.1] ∧ DataW.trod enc Tryz.prog w 0 (fun _ => true) true n 9 [v0] = some y0 ∧ DataW.trod enc Tryz.prog w 0 (fun _ => true) true n 3 [v1] = some y1 ∧ DataW.trod enc Tryz.prog w 0 (fun _ => true) true n 4 [v2] = some y2 := by
  obtain ⟨xs, n, rfl, rfl, hl, hxl, hf⟩ := DataW.trod_struct Tryz.underlying63 h
  obtain ⟨v0, v1, v2, rfl⟩ := len3 (hl.trans cz63)
  obtain ⟨y0, y1, y2, rfl⟩ := len3 (show xs.length = 3 from hxl)
  have f0 : DataW.trod enc Tryz.prog w 0 (fun _ => true) true n 9 (([v0, v1, v2].drop 0).take 1) = some y0 := (congrArg (fun q => DataW.trod enc Tryz.prog w 0 (fun _ => true) true n 9 (([v0, v1, v2].drop 0).take q)) cz9).symm.trans (hf 0 _ rfl)
  have f1 : DataW.trod enc Tryz.prog w 0 (fun _ => true) true n 3 (([v0, v1, v2].drop 1).take 1) = some y1 := (congrArg (fun q => DataW.trod enc Tryz.prog w 0 (fun _ => true) true n 3 (([v0, v1, v2].drop 1).take q)) cz3).symm.trans (hf 1 _ rfl)
  have f2 : DataW.trod enc Tryz.prog w 0 (fun _ => true) true n 4 (([v0, v1, v2].drop 2).take 1) = some y2 := (congrArg (fun q => DataW.trod enc Tryz.prog w 0 (fun _ => true) true n 4 (([v0, v1, v2].drop 2).take q)) cz4).symm.trans (hf 2 _ rfl)
  exact ⟨n, v0, v1, v2, y0, y1, y2, rfl, rfl, rfl, f0, f1, f2⟩

theorem rd_intw {fuel : Nat} {v : Value} {y : DataW T × List MemPlace} (h : DataW.trod enc Tryz.prog w 0 (fun _ => true) true fuel 3 [v] = some y) : ∃ n, v = .int .i64 n ∧ I64 n := by
  obtain ⟨n, hv, rfl, hw⟩ := DataW.trod_int Tryz.underlying3 h
  refine ⟨n, by simpa using hv, ?_⟩
  simp [Lit.wf, IntKind.min, IntKind.max, IntKind.signed, IntKind.bits] at hw
  unfold I64
  omega
def LvH (_ : Hp) (cs : List Value) (p : Lv) : Prop := cs = lvrow p
def PtH (_ : Hp) (cs : List Value) (p : Pt) : Prop := cs = prow p ∧ I64 p.lev
def IntH (_ : Hp) (cs : List Value) (p : Int) : Prop := cs = irow p
set_option maxRecDepth 100000 in
theorem arg_lvs {v : Value} {d : DataW T} {ps : List MemPlace} {r : Reach} {base : Nat} (hv : Value.okWide Tryz.prog w r base 34 v) (h : DataW.Trod enc Tryz.prog w 0 (fun _ => true) true 34 v d ps) :
    ∃ a n c, ∃ l : List Lv, v = .slice a n c ∧ HRow (hp w) a n c 4 (l.map lvrow) := by
  obtain ⟨fuel, hf⟩ := h
  have hc : v.cells.toList = [v] := by obtain ⟨a, n, c, rfl⟩ := okWide_slice Tryz.underlying34 hv; rfl
  rw [hc] at hf
  obtain ⟨a, n, c, l, rfl, ⟨css, h1, h2⟩, _⟩ := rd_slice (Rl := LvH) (μ := fun _ => 0) Tryz.underlying34 cz43 (by omega) (fun cs x hx u hu => lvrow_one [x] cs (by simp [show cs = lvrow x from hx]) u hu) (fun n _ cs y hy => by
    obtain ⟨m, v0, v1, v2, v3, y0, y1, y2, y3, rfl, rfl, _, g0, g1, g2, g3⟩ := rd43 hy
    obtain ⟨i0, rfl, _⟩ := rd_int g0
    obtain ⟨i1, rfl, _⟩ := rd_int g1
    obtain ⟨s2, rfl, _⟩ := rd_str g2
    obtain ⟨i3, rfl, _⟩ := rd_int g3
    exact ⟨⟨i0, i1, s2, i3⟩, rfl, Nat.zero_le _⟩) hf
  exact ⟨a, n, c, l, rfl, all2_map h2 ▸ h1⟩
theorem all2_pts {H : Hp} {css : List (List Value)} {l : List Pt} (h : All2 (PtH H) css l) : css = l.map prow ∧ ∀ p ∈ l, I64 p.lev := by
  induction h with
  | nil => exact ⟨rfl, fun p hp => by cases hp⟩
  | cons h t ih =>
    refine ⟨by rw [h.1, ih.1]; rfl, fun p hp => ?_⟩
    rcases List.mem_cons.1 hp with rfl | hp
    · exact h.2
    · exact ih.2 p hp
set_option maxRecDepth 100000 in
theorem arg_pts {v : Value} {d : DataW T} {ps : List MemPlace} {r : Reach} {base : Nat} (hv : Value.okWide Tryz.prog w r base 23 v) (h : DataW.Trod enc Tryz.prog w 0 (fun _ => true) true 23 v d ps) :
    ∃ a n c, ∃ l : List Pt, v = .slice a n c ∧ HRow (hp w) a n c 3 (l.map prow) ∧ ∀ p ∈ l, I64 p.lev := by
  obtain ⟨fuel, hf⟩ := h
  have hc : v.cells.toList = [v] := by obtain ⟨a, n, c, rfl⟩ := okWide_slice Tryz.underlying23 hv; rfl
  rw [hc] at hf
  obtain ⟨a, n, c, l, rfl, ⟨css, h1, h2⟩, _⟩ := rd_slice (Rl := PtH) (μ := fun _ => 0) Tryz.underlying23 cz63 (by omega) (fun cs x hx u hu => prow_one [x] cs (by simp [show cs = prow x from hx.1]) u hu) (fun n _ cs y hy => by
    obtain ⟨m, v0, v1, v2, y0, y1, y2, rfl, rfl, _, g0, g1, g2⟩ := rd63 hy
    obtain ⟨s0, rfl, _⟩ := rd_str g0
    obtain ⟨i1, rfl, w1⟩ := rd_intw g1
    obtain ⟨b2, rfl, _⟩ := rd_bool g2
    exact ⟨⟨s0, i1, b2⟩, ⟨rfl, w1⟩, Nat.zero_le _⟩) hf
  obtain ⟨h3, h4⟩ := all2_pts h2
  exact ⟨a, n, c, l, rfl, h3 ▸ h1, h4⟩
set_option maxRecDepth 100000 in
theorem arg_ints {v : Value} {d : DataW T} {ps : List MemPlace} {r : Reach} {base : Nat} (hv : Value.okWide Tryz.prog w r base 39 v) (h : DataW.Trod enc Tryz.prog w 0 (fun _ => true) true 39 v d ps) :
    ∃ a n c, ∃ l : List Int, v = .slice a n c ∧ HRow (hp w) a n c 1 (l.map irow) := by
  obtain ⟨fuel, hf⟩ := h
  have hc : v.cells.toList = [v] := by obtain ⟨a, n, c, rfl⟩ := okWide_slice Tryz.underlying39 hv; rfl
  rw [hc] at hf
  obtain ⟨a, n, c, l, rfl, ⟨css, h1, h2⟩, _⟩ := rd_slice (Rl := IntH) (μ := fun _ => 0) Tryz.underlying39 cz3 (by omega) (fun cs x hx u hu => irow_one [x] cs (by simp [show cs = irow x from hx]) u hu) (fun n _ cs y hy => by
    obtain ⟨m, hv, hy2, _⟩ := DataW.trod_int Tryz.underlying3 hy
    exact ⟨m, by simpa [IntH, irow] using hv, Nat.zero_le _⟩) hf
  exact ⟨a, n, c, l, rfl, all2_map h2 ▸ h1⟩
def intOf : Value → Int
  | .int _ z => z
  | _ => 0
set_option maxRecDepth 100000 in
/-- an array of numbers -/
theorem arg_arr {t e n : Nat} {kd : IntKind} {v : Value} {d : DataW T} {ps : List MemPlace} {r : Reach} {base : Nat} (ht : Tryz.prog.underlying t = some (.array n e)) (he : Tryz.prog.underlying e = some (.int kd)) (hc1 : Tryz.prog.cellsOf e = 1) (hcn : Tryz.prog.cellsOf t = n)
    (hv : Value.okWide Tryz.prog w r base t v) (h : DataW.Trod enc Tryz.prog w 0 (fun _ => true) true t v d ps) : ∃ ns : List Int, v = .agg (ns.map (Value.int kd)).toArray ∧ ns.length = n ∧ ∀ x ∈ ns, (Lit.int kd x).wf = true := by
  simp only [Value.okWide, ht] at hv
  obtain ⟨cs, rfl, hsz, _⟩ := hv
  obtain ⟨fuel, hf⟩ := h
  obtain ⟨xs, m, rfl, _, hl, hxl, hall⟩ := DataW.trod_array (cs := cs.toList) ht hf
  have hcl : cs.toList.length = n := hl.trans hcn
  have key : ∀ i, i < n → ∃ z, cs.toList[i]? = some (.int kd z) ∧ (Lit.int kd z).wf = true := fun i hi => by
    have h1 := hall i hi
    rw [hc1, Nat.mul_one, List.getElem?_eq_getElem (by omega)] at h1
    obtain ⟨z, hz, _, hw⟩ := DataW.trod_int he h1
    refine ⟨z, ?_, hw⟩
    have h2 : ((cs.toList.drop i).take 1)[0]? = some (.int kd z) := by rw [hz]; rfl
    rw [List.getElem?_take, if_pos (by omega), List.getElem?_drop, Nat.add_zero] at h2
    exact h2
  have hcs : cs.toList = (cs.toList.map intOf).map (Value.int kd) := by
    apply List.ext_getElem?
    intro i
    by_cases hi : i < n
    · obtain ⟨z, hz, _⟩ := key i hi
      rw [List.getElem?_map, List.getElem?_map, hz]; rfl
    · rw [List.getElem?_eq_none (by omega), List.getElem?_eq_none (by rw [List.length_map, List.length_map]; omega)]
  refine ⟨cs.toList.map intOf, by rw [← hcs], by rw [List.length_map, hcl], fun x hx => ?_⟩
  obtain ⟨u, hu, rfl⟩ := List.mem_map.1 hx
  obtain ⟨i, hi, rfl⟩ := List.mem_iff_getElem.1 hu
  obtain ⟨z, hz, hw⟩ := key i (by omega)
  rw [List.getElem?_eq_getElem hi] at hz
  rw [Option.some.inj hz]
  exact hw
end
end Go.Proofs.YtaneeaojlkenmaaGreatDoor
