/-
  From the readings of the form to the facts of the abstract layer: all seats.
-/
import Derived.Test.YtnoadopmeoohmaaGreatDoorE1
import Derived.Test.YtnoadopmeoohmaaGreatDoorRows
import Derived.WalkKit
import Derived.ProofKit
import Derived.OpenShut
import Derived.JoinedCond
import Derived.ChangeArms
import Derived.ReadAgain
import Derived.Below
namespace Go.Proofs.YtnoadopmeoohmaaGreatDoor
open Go
set_option linter.unusedVariables false
set_option linter.unusedSimpArgs false
/-- lists of cells and lists of data, one by one -/
inductive All2 {α : Type} (R : List Value → α → Prop) : List (List Value) → List α → Prop where
  | nil : All2 R [] []
  | cons {cs : List Value} {x : α} {css : List (List Value)} {l : List α} (h : R cs x) (t : All2 R css l) : All2 R (cs :: css) (x :: l)
section
variable {α β : Type} {R : List Value → α → Prop} {css css' : List (List Value)} {l l' : List α}
theorem All2.length (h : All2 R css l) : css.length = l.length := by induction h with | nil => rfl | cons _ _ ih => simp [ih]
theorem All2.append (h : All2 R css l) (h' : All2 R css' l') : All2 R (css ++ css') (l ++ l') := by
  induction h with
  | nil => exact h'
  | cons h t ih => exact .cons h ih
theorem All2.one {cs : List Value} {x : α} (h : R cs x) : All2 R [cs] [x] := .cons h .nil
theorem All2.get (h : All2 R css l) {i : Nat} {cs : List Value} (hi : css[i]? = some cs) : ∃ x, l[i]? = some x ∧ R cs x := by
  induction h generalizing i with
  | nil => simp at hi
  | cons h t ih => cases i with
    | zero => simp at hi; subst hi; exact ⟨_, by simp, h⟩
    | succ i => simp at hi; obtain ⟨x, h1, h2⟩ := ih hi; exact ⟨x, by simpa using h1, h2⟩
theorem All2.mono {R' : List Value → α → Prop} (hR : ∀ cs x, R cs x → R' cs x) (h : All2 R css l) : All2 R' css l := by
  induction h with
  | nil => exact .nil
  | cons h t ih => exact .cons (hR _ _ h) ih
theorem All2.take (h : All2 R css l) (n : Nat) : All2 R (css.take n) (l.take n) := by
  induction h generalizing n with
  | nil => simp; exact .nil
  | cons h t ih => cases n with
    | zero => exact .nil
    | succ n => exact .cons h (ih n)
theorem All2.drop (h : All2 R css l) (n : Nat) : All2 R (css.drop n) (l.drop n) := by
  induction h generalizing n with
  | nil => simp; exact .nil
  | cons h t ih => cases n with
    | zero => exact .cons h t
    | succ n => exact ih n
end

/-- a slice of data: k cells each -/
structure SlH {α : Type} (H : Hp) (R : Hp → List Value → α → Prop) (k : Nat) (a : Option Addr) (n c : Nat) (l : List α) : Prop where
  ex : ∃ css, HRow H a n c k css ∧ All2 (R H) css l
theorem SlH.len {α : Type} {H : Hp} {R : Hp → List Value → α → Prop} {k : Nat} {a : Option Addr} {n c : Nat} {l : List α} (h : SlH H R k a n c l) : l.length = n := by
  obtain ⟨css, h1, h2⟩ := h.ex
  rw [← h2.length, h1.len]
/-- the element at a place -/
theorem SlH.at {α : Type} {H : Hp} {R : Hp → List Value → α → Prop} {k : Nat} {a : Option Addr} {n c : Nat} {l : List α} (h : SlH H R k a n c l) (i : Nat) (hi : i < n) :
    ∃ b o cs x, a = some ⟨b, o, none⟩ ∧ l[i]? = some x ∧ R H cs x ∧ cs.length = k ∧ HCells H b (o + i * k) cs := by
  obtain ⟨css, h1, h2⟩ := h.ex
  obtain ⟨b, o, cs, ha, hcs, hk, hc⟩ := h1.at i hi
  obtain ⟨x, hx, hR⟩ := h2.get hcs
  exact ⟨b, o, cs, x, ha, hx, hR, hk, hc⟩
theorem SlH.mono {α : Type} {H H' : Hp} {R : Hp → List Value → α → Prop} (hR : ∀ cs x, R H cs x → R H' cs x) (hl : HLe H H') {k : Nat} {a : Option Addr} {n c : Nat} {l : List α} (h : SlH H R k a n c l) : SlH H' R k a n c l := by
  obtain ⟨css, h1, h2⟩ := h.ex
  exact ⟨css, h1.mono hl, h2.mono hR⟩
section
open Go.RowKit Go.ChangeShapes Go.ChangeAt
/-! From the readings of the form to the facts of the abstract layer. -/

/-- all that lies in the world, as persistent facts -/
def hp (w : World) : Hp := fun b o => (w.cell? ⟨b, o, none⟩).filter (·.oneCell')
theorem hp_mem (w : World) : Mem (hp w) w := fun b o v h => by
  simp only [hp, Option.filter_eq_some_iff] at h
  exact h
theorem hp_cell {w : World} {b o : Nat} {v : Value} (h : w.cell? ⟨b, o, none⟩ = some v) (h1 : v.oneCell' = true) : hp w b o = some v := by
  simp only [hp, Option.filter_eq_some_iff]
  exact ⟨h, h1⟩
theorem Holds.start (w : World) (hg : Glob w) (hs : NG ≤ w.heap.size) : Holds ⟨w, hp w, []⟩ (hp w) [] w :=
  ⟨hp_mem w, Own.ok_nil w, Own.sep_nil, fun b hb => (by cases hb), fun b hb => (by cases hb), ⟨rfl, rfl, rfl, Nat.le_refl _, fun _ _ _ => rfl⟩, fun _ _ _ h => h, fun _ _ _ h => .inl h, fun b o v h1 h2 => absurd (h1.symm.trans h2) (by simp), ⟨hg, hs, fun b hb => (by cases hb)⟩⟩
/-- a contract over all that lies in the world -/
theorem Fn.start {P : Program} {f : FuncId} {args : List Value} {w : World} {post : Value → Hp → Own → Prop} (h : Fn P f args (hp w) [] post) (hg : Glob w) (hs : NG ≤ w.heap.size) :
    Calls P f args.toArray w fun e w' => ∃ v H' I', e = .returned v ∧ Below w.heap.size w w' ∧ post v H' I' := by
  refine (h w (by simpa [Own.blocks] using Holds.start w hg hs)).mono ?_
  rintro e w' ⟨v, H', I', rfl, hh, hq⟩
  exact ⟨v, H', I', rfl, ⟨hh.old.os, hh.old.tape, hh.old.output, hh.old.size, fun k hk => hh.old.block k hk (by simp [Own.blocks])⟩, hq⟩

theorem tkids : Kids Tryz.prog (· < Tryz.prog.types.size) := kids_rows (by kernel_rfl) (by kernel_rfl)
theorem tfull : ∀ t e, t < Tryz.prog.types.size → Tryz.prog.underlying t = some (.slice e) → 0 < Tryz.prog.cellsOf e := slices_full_of Tryz.prog (by kernel_rfl)

theorem trodAll_carry {T : Type} {enc : TypeId × Value → T} {P : Program} {w w' : World} {base : Nat} {sp : Nat → Bool} {held : Bool} : ∀ {ts : List TypeId} {vs : List Value} {ds : List (DataW T)} {ps : List MemPlace},
    DataW.TrodAll enc P w base sp held ts vs ds ps → (∀ p ∈ ps, w.sameAt w' p) → DataW.TrodAll enc P w' base sp held ts vs ds ps
  | [], [], [], _, h, _ => h
  | _ :: _, _ :: _, _ :: _, _, ⟨p, q, ⟨n, h1⟩, h2, e⟩, hs => ⟨p, q, ⟨n, DataW.trod_carry n _ _ _ h1 fun x hx => hs x (by rw [e]; exact List.mem_append_left _ hx)⟩, trodAll_carry h2 fun x hx => hs x (by rw [e]; exact List.mem_append_right _ hx), e⟩
/-- the law has answered true and has left alone what was there -/
theorem law_post {T : Type} {enc : TypeId × Value → T} {f : Func} {s : ChangeSpec} {apart : Bool} {W W' : World} {args : Array Value} {ds gs : List (DataW T)} {before : List MemPlace}
    (hW : DataW.Whole enc Tryz.prog f.params.toList s.vars apart W args.toList ds gs before) (hv : s.vars = []) (hts : ∀ t ∈ f.params.toList, t < Tryz.prog.types.size) (hr : f.resultTypes = #[4])
    (h1 : (s.fn T (ds ++ gs)).results = [.lit (.bool true)]) (h2 : (s.fn T (ds ++ gs)).args = ds) (h3 : (s.fn T (ds ++ gs)).vars = []) (hb : Below W.heap.size W W') :
    s.post enc Tryz.prog f apart true false false W args (.bool true) W' := by
  have hlt := hW.lt
  have hW' := hW
  obtain ⟨p, q, hA, hV, rfl, hfz, hnd⟩ := hW'
  rw [hv] at hV
  have hgs : gs = [] ∧ q = [] := by
    cases gs with
    | nil => exact ⟨rfl, hV⟩
    | cons g gs => exact hV.elim
  obtain ⟨rfl, rfl⟩ := hgs
  simp only [List.append_nil] at *
  refine ⟨ds, [], p, [], p, [], by simpa using hW, ?_, ?_, ?_, ?_, fun h => by cases h⟩
  · simp only [List.append_nil]
    rw [h1, hr]
    exact trodAll_cons_mk (shut_bool Tryz.underlying4 _) trodAll_mk0
  · simp only [List.append_nil]
    rw [h2]
    have := DataW.TrodAll.respare (spare' := fun b => decide (b < W.heap.size)) tkids tfull hts hA fun x hx => by simpa using hlt x hx
    exact trodAll_carry this fun x hx => hb.same (hlt x hx)
  · simp only [List.append_nil]
    rw [h3, hv]; exact rfl
  · exact hb.frame _

section
variable {T : Type} {enc : TypeId × Value → T} {w : World}
theorem cells_spot {a : Addr} {k : Nat} {cs : List Value} (hk : 0 < k) (h : w.cells? 0 a k = some cs) : a.spot = none ∧ cs.length = k ∧ ∀ j v, cs[j]? = some v → w.cell? ⟨a.block, a.off + j, none⟩ = some v := by
  simp only [World.cells?, Nat.zero_le, if_true] at h
  have hl := mapM_some_length h
  simp only [List.length_range] at hl
  have hg : ∀ j, j < k → w.cell? (a.add j) = cs[j]? := fun j hj => mapM_some_get h j j (by simp [hj])
  have h0 := hg 0 hk
  have hs : a.spot = none := by
    obtain ⟨b, o, s⟩ := a
    cases s with
    | none => rfl
    | some q =>
      exfalso
      have : w.cell? ⟨b, o, some q⟩ = none := by
        unfold World.cell?
        cases w.heap[b]? with
        | none => rfl
        | some ob => cases ob <;> rfl
      rw [show (⟨b, o, some q⟩ : Addr).add 0 = ⟨b, o, some q⟩ from rfl, this] at h0
      rw [List.getElem?_eq_getElem (by omega)] at h0
      cases h0
  refine ⟨hs, hl, fun j v hj => ?_⟩
  have hj' : j < k := by have := (List.getElem?_eq_some_iff.1 hj).1; omega
  have := hg j hj'
  rw [hj] at this
  obtain ⟨b, o, s⟩ := a
  simp only at hs
  subst hs
  rwa [Addr.add_lit] at this

/-- a slice: each element read -/
theorem row_of {α : Type} {R : Hp → List Value → α → Prop} {e k fuel len cap : Nat} {a : Addr} {elems : List (DataW T × List MemPlace)} {μ : α → Nat} (hk : Tryz.prog.cellsOf e = k) (hk0 : 0 < k)
    (hone : ∀ cs x, R (hp w) cs x → ∀ u ∈ cs, u.oneCell' = true) (hlen : elems.length = len) (hcap : len ≤ cap)
    (hel : ∀ i, i < len → (w.cells? 0 (a.add (i * Tryz.prog.cellsOf e)) (Tryz.prog.cellsOf e)).bind (DataW.trod enc Tryz.prog w 0 (fun _ => true) true fuel e) = elems[i]?)
    (ih : ∀ cs y, DataW.trod enc Tryz.prog w 0 (fun _ => true) true fuel e cs = some y → ∃ x, R (hp w) cs x ∧ μ x ≤ Rows.uptoBulk y.1) :
    ∃ l, SlH (hp w) R k (some a) len cap l ∧ (l.map μ).sum ≤ Rows.uptoBulkAll (elems.map (·.1)) := by
  rw [hk] at hel
  have key : ∀ m, m ≤ len → ∃ css l, css.length = m ∧ (∀ i cs, css[i]? = some cs → cs.length = k ∧ a.spot = none ∧ ∀ j v, cs[j]? = some v → w.cell? ⟨a.block, a.off + i * k + j, none⟩ = some v) ∧ All2 (R (hp w)) css l ∧ (l.map μ).sum ≤ Rows.uptoBulkAll ((elems.take m).map (·.1)) := by
    intro m
    induction m with
    | zero => intro _; exact ⟨[], [], rfl, by simp, .nil, by simp⟩
    | succ m ihm =>
      intro hm
      obtain ⟨css, l, h1, h2, h3, h4⟩ := ihm (by omega)
      have hm' : m < elems.length := by omega
      have h5 := hel m (by omega)
      rw [List.getElem?_eq_getElem hm', Option.bind_eq_some_iff] at h5
      obtain ⟨cs, hcs, hy⟩ := h5
      obtain ⟨hs, hl, hc⟩ := cells_spot hk0 hcs
      obtain ⟨x, hx, hb⟩ := ih cs _ hy
      have ha : a.spot = none ∧ (a.add (m * k)).block = a.block ∧ (a.add (m * k)).off = a.off + m * k := by
        by_cases hz : m * k = 0
        · rw [hz] at hs ⊢; exact ⟨hs, rfl, rfl⟩
        · refine ⟨?_, by simp [Addr.add, hz], by simp [Addr.add, hz]⟩
          have h0 := hel 0 (by omega)
          rw [List.getElem?_eq_getElem (by omega), Option.bind_eq_some_iff] at h0
          obtain ⟨cs0, hcs0, _⟩ := h0
          rw [show 0 * k = 0 by omega] at hcs0
          exact (cells_spot hk0 hcs0).1
      refine ⟨css ++ [cs], l ++ [x], by simp [h1], ?_, h3.append (All2.one hx), ?_⟩
      · intro i cs' hi
        by_cases hlt : i < css.length
        · rw [List.getElem?_append_left hlt] at hi; exact h2 i cs' hi
        · rw [List.getElem?_append_right (by omega)] at hi
          have hi0 : i = m := by
            have := (List.getElem?_eq_some_iff.1 hi).1
            simp at this; omega
          subst hi0
          rw [h1, Nat.sub_self] at hi
          simp at hi
          subst hi
          refine ⟨hl, ha.1, fun j v hj => ?_⟩
          have := hc j v hj
          rwa [ha.2.1, ha.2.2] at this
      · rw [List.take_succ_eq_append_getElem hm', List.map_append, List.map_append, List.sum_append]
        have happ : ∀ a b : List (DataW T), Rows.uptoBulkAll (a ++ b) = Rows.uptoBulkAll a + Rows.uptoBulkAll b := by
          intro a b
          induction a with
          | nil => simp [Rows.uptoBulkAll]
          | cons y r ih => simp only [List.cons_append, Rows.uptoBulkAll, ih]; omega
        rw [happ]
        simp only [List.map_cons, List.map_nil, List.sum_cons, List.sum_nil, Rows.uptoBulkAll]
        omega
  obtain ⟨css, l, h1, h2, h3, h4⟩ := key len (Nat.le_refl _)
  rw [← hlen, List.take_length] at h4
  refine ⟨l, ⟨css, ⟨h1, hcap, fun h => (by cases h), fun i cs hi => ?_⟩, h3⟩, h4⟩
  obtain ⟨hl, hs, hc⟩ := h2 i cs hi
  refine ⟨hl, a.block, a.off, by obtain ⟨b, o, s⟩ := a; simp only at hs; subst hs; rfl, fun j v hj => ?_⟩
  obtain ⟨x, hx, hR⟩ := h3.get hi
  exact hp_cell (hc j v hj) (hone cs x hR v (List.mem_of_getElem? hj))
end
end
section
open Go.RowKit Go.WideShapes
variable {T : Type} {enc : TypeId × Value → T} {w : World}
theorem rd_int {fuel : Nat} {v : Value} {y : DataW T × List MemPlace} (h : DataW.trod enc Tryz.prog w 0 (fun _ => true) true fuel 3 [v] = some y) : ∃ n, v = .int .i64 n ∧ Rows.uptoBulk y.1 = 1 := by
  obtain ⟨n, hv, rfl, _⟩ := DataW.trod_int Tryz.underlying3 h
  exact ⟨n, by simpa using hv, rfl⟩
theorem rd_bool {fuel : Nat} {v : Value} {y : DataW T × List MemPlace} (h : DataW.trod enc Tryz.prog w 0 (fun _ => true) true fuel 4 [v] = some y) : ∃ b, v = .bool b ∧ Rows.uptoBulk y.1 = 1 := by
  obtain ⟨n, hv, rfl⟩ := DataW.trod_bool Tryz.underlying4 h
  exact ⟨n, by simpa using hv, rfl⟩
theorem rd_str {fuel : Nat} {v : Value} {y : DataW T × List MemPlace} (h : DataW.trod enc Tryz.prog w 0 (fun _ => true) true fuel 9 [v] = some y) : ∃ s, v = sv s ∧ Rows.uptoBulk y.1 = s.length + 1 := by
  obtain ⟨s, hv, rfl, _⟩ := DataW.trod_string Tryz.underlying9 h
  refine ⟨s.data.toList, ?_, by simp [Rows.uptoBulk]⟩
  simpa [sv] using hv
/-- a slice -/
theorem rd_slice {α : Type} {Rl : Hp → List Value → α → Prop} {t e k fuel : Nat} {v : Value} {y : DataW T × List MemPlace} {μ : α → Nat} (ht : Tryz.prog.underlying t = some (.slice e)) (hk : Tryz.prog.cellsOf e = k) (hk0 : 0 < k)
    (hone : ∀ cs x, Rl (hp w) cs x → ∀ u ∈ cs, u.oneCell' = true)
    (ih : ∀ n, n < fuel → ∀ cs y, DataW.trod enc Tryz.prog w 0 (fun _ => true) true n e cs = some y → ∃ x, Rl (hp w) cs x ∧ μ x ≤ Rows.uptoBulk y.1) (h : DataW.trod enc Tryz.prog w 0 (fun _ => true) true fuel t [v] = some y) :
    ∃ a n c l, v = .slice a n c ∧ SlH (hp w) Rl k a n c l ∧ (l.map μ).sum + 1 ≤ Rows.uptoBulk y.1 := by
  rcases DataW.trod_slice ht h with ⟨hv, rfl⟩ | ⟨a, len, cap, elems, rest, n, rfl, hv, rfl, _, hcap, _, hlen, hel, _, _⟩
  · simp at hv
    exact ⟨none, 0, 0, [], hv, ⟨[], HRow.nil' _ k, .nil⟩, by simp [Rows.uptoBulk]⟩
  · simp at hv
    obtain ⟨l, h1, h2⟩ := row_of hk hk0 hone hlen hcap hel (ih n (by omega))
    refine ⟨some a, len, cap, l, hv, h1, ?_⟩
    simp only [Rows.uptoBulk]
    omega

theorem all2_map {α : Type} {f : α → List Value} {css : List (List Value)} {l : List α} (h : All2 (fun cs x => cs = f x) css l) : css = l.map f := by
  induction h with
  | nil => rfl
  | cons h t ih => simp [h, ih]
theorem sum_one {α : Type} (l : List α) : (l.map fun _ => 1).sum = l.length := by
  induction l with
  | nil => rfl
  | cons x l ih => simp [ih]; omega
end
end Go.Proofs.YtnoadopmeoohmaaGreatDoor
