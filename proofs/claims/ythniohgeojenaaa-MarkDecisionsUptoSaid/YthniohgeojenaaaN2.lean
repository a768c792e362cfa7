/-
  From the readings of the form to the facts of the abstract layer.
  Settings as data.
  How heads, decisions and settings are read. Printed by wip/fw/genMB.py.
-/
import Derived.Test.YthniohgeojenaaaM0
import Derived.Test.YthniohgeojenaaaRows
import Derived.Test.YthniohgeojenaaaM10
import Derived.WalkKit
import Derived.ProofKit
import Derived.OpenShut
import Derived.JoinedCond
import Derived.ChangeArms
import Derived.ReadAgain
import Derived.Below
namespace Go.Proofs.Ythniohgeojenaaa
open Go
set_option linter.unusedVariables false
set_option linter.unusedSimpArgs false
section
open Go.RowKit Go.ChangeShapes Go.ChangeAt
/-! From the readings of the form to the facts of the abstract layer. -/

/-- all that lies in the world, as persistent facts -/
def hp (w : World) : Hp := fun b o => (w.cell? ⟨b, o, none⟩).filter (·.oneCell')
theorem hp_mem (w : World) : Mem (hp w) w := fun b o v h => by
  simp only [hp, Option.filter_eq_some_iff] at h
  exact h
theorem hp_cell {w : World} {b o : Nat} {v : Value} (h : w.cell? ⟨b, o, none⟩ = some v) (h1 : v.oneCell' = true) : hp w b o = some v := by
  simp only [hp, Option.filter_eq_some_iff]
  exact ⟨h, h1⟩
theorem Holds.start (w : World) : Holds ⟨w, hp w, []⟩ (hp w) [] w :=
  ⟨hp_mem w, Own.ok_nil w, Own.sep_nil, fun b hb => (by cases hb), fun b hb => (by cases hb), ⟨rfl, rfl, rfl, Nat.le_refl _, fun _ _ _ => rfl⟩, fun _ _ _ h => h, fun _ _ _ h => .inl h, fun b o v h1 h2 => absurd (h1.symm.trans h2) (by simp)⟩
/-- a contract over all that lies in the world -/
theorem Fn.start {P : Program} {f : FuncId} {args : List Value} {w : World} {post : Value → Hp → Own → Prop} (h : Fn P f args (hp w) [] post) :
    Calls P f args.toArray w fun e w' => ∃ v H' I', e = .returned v ∧ Below w.heap.size w w' ∧ post v H' I' := by
  refine (h w (by simpa [Own.blocks] using Holds.start w)).mono ?_
  rintro e w' ⟨v, H', I', rfl, hh, hq⟩
  exact ⟨v, H', I', rfl, ⟨hh.old.os, hh.old.tape, hh.old.output, hh.old.size, fun k hk => hh.old.block k hk (by simp [Own.blocks])⟩, hq⟩

theorem tkids : Kids Try.prog (· < Try.prog.types.size) := kids_rows (by kernel_rfl) (by kernel_rfl)
theorem tfull : ∀ t e, t < Try.prog.types.size → Try.prog.underlying t = some (.slice e) → 0 < Try.prog.cellsOf e := slices_full_of Try.prog (by kernel_rfl)

theorem trodAll_carry {T : Type} {enc : TypeId × Value → T} {P : Program} {w w' : World} {base : Nat} {sp : Nat → Bool} {held : Bool} : ∀ {ts : List TypeId} {vs : List Value} {ds : List (DataW T)} {ps : List MemPlace},
    DataW.TrodAll enc P w base sp held ts vs ds ps → (∀ p ∈ ps, w.sameAt w' p) → DataW.TrodAll enc P w' base sp held ts vs ds ps
  | [], [], [], _, h, _ => h
  | _ :: _, _ :: _, _ :: _, _, ⟨p, q, ⟨n, h1⟩, h2, e⟩, hs => ⟨p, q, ⟨n, DataW.trod_carry n _ _ _ h1 fun x hx => hs x (by rw [e]; exact List.mem_append_left _ hx)⟩, trodAll_carry h2 fun x hx => hs x (by rw [e]; exact List.mem_append_right _ hx), e⟩
/-- the law has answered true and has left alone what was there -/
theorem law_post {T : Type} {enc : TypeId × Value → T} {f : Func} {s : ChangeSpec} {apart : Bool} {W W' : World} {args : Array Value} {ds gs : List (DataW T)} {before : List MemPlace}
    (hW : DataW.Whole enc Try.prog f.params.toList s.vars apart W args.toList ds gs before) (hv : s.vars = []) (hts : ∀ t ∈ f.params.toList, t < Try.prog.types.size) (hr : f.resultTypes = #[4])
    (h1 : (s.fn T (ds ++ gs)).results = [.lit (.bool true)]) (h2 : (s.fn T (ds ++ gs)).args = ds) (h3 : (s.fn T (ds ++ gs)).vars = []) (hb : Below W.heap.size W W') :
    s.post enc Try.prog f apart true false false W args (.bool true) W' := by
  have hlt := hW.lt
  have hW' := hW
  obtain ⟨p, q, hA, hV, rfl, hfz, hnd⟩ := hW'
  rw [hv] at hV
  have hgs : gs = [] ∧ q = [] := by
    cases gs with
    | nil => exact ⟨rfl, hV⟩
    | cons g gs => exact hV.elim
  obtain ⟨rfl, rfl⟩ := hgs
  simp only [List.append_nil] at *
  refine ⟨ds, [], p, [], p, [], by simpa using hW, ?_, ?_, ?_, ?_, fun h => by cases h⟩
  · simp only [List.append_nil]
    rw [h1, hr]
    exact trodAll_cons_mk (shut_bool Try.underlying4 _) trodAll_mk0
  · simp only [List.append_nil]
    rw [h2]
    have := DataW.TrodAll.respare (spare' := fun b => decide (b < W.heap.size)) tkids tfull hts hA fun x hx => by simpa using hlt x hx
    exact trodAll_carry this fun x hx => hb.same (hlt x hx)
  · simp only [List.append_nil]
    rw [h3, hv]; exact rfl
  · exact hb.frame _

section
variable {T : Type} {enc : TypeId × Value → T} {w : World}
theorem cells_spot {a : Addr} {k : Nat} {cs : List Value} (hk : 0 < k) (h : w.cells? 0 a k = some cs) : a.spot = none ∧ cs.length = k ∧ ∀ j v, cs[j]? = some v → w.cell? ⟨a.block, a.off + j, none⟩ = some v := by
  simp only [World.cells?, Nat.zero_le, if_true] at h
  have hl := mapM_some_length h
  simp only [List.length_range] at hl
  have hg : ∀ j, j < k → w.cell? (a.add j) = cs[j]? := fun j hj => mapM_some_get h j j (by simp [hj])
  have h0 := hg 0 hk
  have hs : a.spot = none := by
    obtain ⟨b, o, s⟩ := a
    cases s with
    | none => rfl
    | some q =>
      exfalso
      have : w.cell? ⟨b, o, some q⟩ = none := by
        unfold World.cell?
        cases w.heap[b]? with
        | none => rfl
        | some ob => cases ob <;> rfl
      rw [show (⟨b, o, some q⟩ : Addr).add 0 = ⟨b, o, some q⟩ from rfl, this] at h0
      rw [List.getElem?_eq_getElem (by omega)] at h0
      cases h0
  refine ⟨hs, hl, fun j v hj => ?_⟩
  have hj' : j < k := by have := (List.getElem?_eq_some_iff.1 hj).1; omega
  have := hg j hj'
  rw [hj] at this
  obtain ⟨b, o, s⟩ := a
  simp only at hs
  subst hs
  rwa [Addr.add_lit] at this

/-- a slice: each element read -/
theorem row_of {α : Type} {R : Hp → List Value → α → Prop} {e k fuel len cap : Nat} {a : Addr} {elems : List (DataW T × List MemPlace)} {μ : α → Nat} (hk : Try.prog.cellsOf e = k) (hk0 : 0 < k)
    (hone : ∀ cs x, R (hp w) cs x → ∀ u ∈ cs, u.oneCell' = true) (hlen : elems.length = len) (hcap : len ≤ cap)
    (hel : ∀ i, i < len → (w.cells? 0 (a.add (i * Try.prog.cellsOf e)) (Try.prog.cellsOf e)).bind (DataW.trod enc Try.prog w 0 (fun _ => true) true fuel e) = elems[i]?)
    (ih : ∀ cs y, DataW.trod enc Try.prog w 0 (fun _ => true) true fuel e cs = some y → ∃ x, R (hp w) cs x ∧ μ x ≤ Rows.uptoBulk y.1) :
    ∃ l, SlH (hp w) R k (some a) len cap l ∧ (l.map μ).sum ≤ Rows.uptoBulkAll (elems.map (·.1)) := by
  rw [hk] at hel
  have key : ∀ m, m ≤ len → ∃ css l, css.length = m ∧ (∀ i cs, css[i]? = some cs → cs.length = k ∧ a.spot = none ∧ ∀ j v, cs[j]? = some v → w.cell? ⟨a.block, a.off + i * k + j, none⟩ = some v) ∧ All2 (R (hp w)) css l ∧ (l.map μ).sum ≤ Rows.uptoBulkAll ((elems.take m).map (·.1)) := by
    intro m
    induction m with
    | zero => intro _; exact ⟨[], [], rfl, by simp, .nil, by simp⟩
    | succ m ihm =>
      intro hm
      obtain ⟨css, l, h1, h2, h3, h4⟩ := ihm (by omega)
      have hm' : m < elems.length := by omega
      have h5 := hel m (by omega)
      rw [List.getElem?_eq_getElem hm', Option.bind_eq_some_iff] at h5
      obtain ⟨cs, hcs, hy⟩ := h5
      obtain ⟨hs, hl, hc⟩ := cells_spot hk0 hcs
      obtain ⟨x, hx, hb⟩ := ih cs _ hy
      have ha : a.spot = none ∧ (a.add (m * k)).block = a.block ∧ (a.add (m * k)).off = a.off + m * k := by
        by_cases hz : m * k = 0
        · rw [hz] at hs ⊢; exact ⟨hs, rfl, rfl⟩
        · refine ⟨?_, by simp [Addr.add, hz], by simp [Addr.add, hz]⟩
          have h0 := hel 0 (by omega)
          rw [List.getElem?_eq_getElem (by omega), Option.bind_eq_some_iff] at h0
          obtain ⟨cs0, hcs0, _⟩ := h0
          rw [show 0 * k = 0 by omega] at hcs0
          exact (cells_spot hk0 hcs0).1
      refine ⟨css ++ [cs], l ++ [x], by simp [h1], ?_, h3.append (All2.one hx), ?_⟩
      · intro i cs' hi
        by_cases hlt : i < css.length
        · rw [List.getElem?_append_left hlt] at hi; exact h2 i cs' hi
        · rw [List.getElem?_append_right (by omega)] at hi
          have hi0 : i = m := by
            have := (List.getElem?_eq_some_iff.1 hi).1
            simp at this; omega
          subst hi0
          rw [h1, Nat.sub_self] at hi
          simp at hi
          subst hi
          refine ⟨hl, ha.1, fun j v hj => ?_⟩
          have := hc j v hj
          rwa [ha.2.1, ha.2.2] at this
      · rw [List.take_succ_eq_append_getElem hm', List.map_append, List.map_append, List.sum_append]
        have happ : ∀ a b : List (DataW T), Rows.uptoBulkAll (a ++ b) = Rows.uptoBulkAll a + Rows.uptoBulkAll b := by
          intro a b
          induction a with
          | nil => simp [Rows.uptoBulkAll]
          | cons y r ih => simp only [List.cons_append, Rows.uptoBulkAll, ih]; omega
        rw [happ]
        simp only [List.map_cons, List.map_nil, List.sum_cons, List.sum_nil, Rows.uptoBulkAll]
        omega
  obtain ⟨css, l, h1, h2, h3, h4⟩ := key len (Nat.le_refl _)
  rw [← hlen, List.take_length] at h4
  refine ⟨l, ⟨css, ⟨h1, hcap, fun h => (by cases h), fun i cs hi => ?_⟩, h3⟩, h4⟩
  obtain ⟨hl, hs, hc⟩ := h2 i cs hi
  refine ⟨hl, a.block, a.off, by obtain ⟨b, o, s⟩ := a; simp only at hs; subst hs; rfl, fun j v hj => ?_⟩
  obtain ⟨x, hx, hR⟩ := h3.get hi
  exact hp_cell (hc j v hj) (hone cs x hR v (List.mem_of_getElem? hj))
end
end
section
/-! Settings as data. -/
/-- what is set -/
structure Sett where
  key : Int
  val : Int
  clear : Bool
def srow (s : Sett) : List Value := [.int .i64 s.key, .int .i64 s.val, .bool s.clear]
end
section
open Go.RowKit Go.WideShapes
/-! How heads, decisions and settings are read. Printed by wip/fw/genMB.py. -/

theorem cz3 : Try.prog.cellsOf 3 = 1 := by kernel_rfl
theorem cz4 : Try.prog.cellsOf 4 = 1 := by kernel_rfl
theorem cz22 : Try.prog.cellsOf 22 = 1 := by kernel_rfl
theorem cz23 : Try.prog.cellsOf 23 = 1 := by kernel_rfl
theorem cz24 : Try.prog.cellsOf 24 = 1 := by kernel_rfl
theorem cz26 : Try.prog.cellsOf 26 = 4 := by kernel_rfl
theorem cz28 : Try.prog.cellsOf 28 = 5 := by kernel_rfl
theorem cz29 : Try.prog.cellsOf 29 = 1 := by kernel_rfl
theorem cz31 : Try.prog.cellsOf 31 = 2 := by kernel_rfl
theorem cz54 : Try.prog.cellsOf 54 = 2 := by kernel_rfl
theorem cz56 : Try.prog.cellsOf 56 = 2 := by kernel_rfl
theorem cz58 : Try.prog.cellsOf 58 = 3 := by kernel_rfl
theorem cz75 : Try.prog.cellsOf 75 = 4 := by kernel_rfl
theorem len2 {α : Type} {l : List α} (h : l.length = 2) : ∃ a0 a1, l = [a0, a1] := by
  match l, h with
  | [a0, a1], _ => exact ⟨a0, a1, rfl⟩
theorem len3 {α : Type} {l : List α} (h : l.length = 3) : ∃ a0 a1 a2, l = [a0, a1, a2] := by
  match l, h with
  | [a0, a1, a2], _ => exact ⟨a0, a1, a2, rfl⟩
theorem len4 {α : Type} {l : List α} (h : l.length = 4) : ∃ a0 a1 a2 a3, l = [a0, a1, a2, a3] := by
  match l, h with
  | [a0, a1, a2, a3], _ => exact ⟨a0, a1, a2, a3, rfl⟩
theorem len5 {α : Type} {l : List α} (h : l.length = 5) : ∃ a0 a1 a2 a3 a4, l = [a0, a1, a2, a3, a4] := by
  match l, h with
  | [a0, a1, a2, a3, a4], _ => exact ⟨a0, a1, a2, a3, a4, rfl⟩
section
variable {T : Type} {enc : TypeId × Value → T} {w : World}
theorem rd26 {fuel : Nat} {cs : List Value} {y : DataW T × List MemPlace} (h : DataW.trod enc Try.prog w 0 (fun _ => true) true fuel 26 cs = some y) :
    ∃ (n : Nat) (v0 v1 v2 v3 : Value) (y0 y1 y2 y3 : DataW T × List MemPlace), fuel = n + 1 ∧ cs = [v0, v1, v2, v3] ∧ y.1 = .agg [y0.1, y1.1, y2.1, y3.1] ∧ DataW.trod enc Try.prog w 0 (fun _ => true) true n 3 [v0] = some y0 ∧ DataW.trod enc Try.prog w 0 (fun _ => true) true n 3 [v1] = some y1 ∧ DataW.trod enc Try.prog w 0 (fun _ => true) true n 23 [v2] = some y2 ∧ DataW.trod enc Try.prog w 0 (fun _ => true) true n 24 [v3] = some y3 := by
  obtain ⟨xs, n, rfl, rfl, hl, hxl, hf⟩ := DataW.trod_struct Try.underlying26 h
  obtain ⟨v0, v1, v2, v3, rfl⟩ := len4 (hl.trans cz26)
  obtain ⟨y0, y1, y2, y3, rfl⟩ := len4 (show xs.length = 4 from hxl)
  have f0 : DataW.trod enc Try.prog w 0 (fun _ => true) true n 3 (([v0, v1, v2, v3].drop 0).take 1) = some y0 := (congrArg (fun q => DataW.trod enc Try.prog w 0 (fun _ => true) true n 3 (([v0, v1, v2, v3].drop 0).take q)) cz3).symm.trans (hf 0 _ rfl)
  have f1 : DataW.trod enc Try.prog w 0 (fun _ => true) true n 3 (([v0, v1, v2, v3].drop 1).take 1) = some y1 := (congrArg (fun q => DataW.trod enc Try.prog w 0 (fun _ => true) true n 3 (([v0, v1, v2, v3].drop 1).take q)) cz3).symm.trans (hf 1 _ rfl)
  have f2 : DataW.trod enc Try.prog w 0 (fun _ => true) true n 23 (([v0, v1, v2, v3].drop 2).take 1) = some y2 := (congrArg (fun q => DataW.trod enc Try.prog w 0 (fun _ => true) true n 23 (([v0, v1, v2, v3].drop 2).take q)) cz23).symm.trans (hf 2 _ rfl)
  have f3 : DataW.trod enc Try.prog w 0 (fun _ => true) true n 24 (([v0, v1, v2, v3].drop 3).take 1) = some y3 := (congrArg (fun q => DataW.trod enc Try.prog w 0 (fun _ => true) true n 24 (([v0, v1, v2, v3].drop 3).take q)) cz24).symm.trans (hf 3 _ rfl)
  exact ⟨n, v0, v1, v2, v3, y0, y1, y2, y3, rfl, rfl, rfl, f0, f1, f2, f3⟩
theorem rd28 {fuel : Nat} {cs : List Value} {y : DataW T × List MemPlace} (h : DataW.trod enc Try.prog w 0 (fun _ => true) true fuel 28 cs = some y) :
    ∃ (n : Nat) (v0 v1 v2 v3 v4 : Value) (y0 y1 : DataW T × List MemPlace), fuel = n + 1 ∧ cs = [v0, v1, v2, v3, v4] ∧ y.1 = .agg [y0.1, y1.1] ∧ DataW.trod enc Try.prog w 0 (fun _ => true) true n 22 [v0] = some y0 ∧ DataW.trod enc Try.prog w 0 (fun _ => true) true n 26 [v1, v2, v3, v4] = some y1 := by
  obtain ⟨xs, n, rfl, rfl, hl, hxl, hf⟩ := DataW.trod_struct Try.underlying28 h
  obtain ⟨v0, v1, v2, v3, v4, rfl⟩ := len5 (hl.trans cz28)
  obtain ⟨y0, y1, rfl⟩ := len2 (show xs.length = 2 from hxl)
  have f0 : DataW.trod enc Try.prog w 0 (fun _ => true) true n 22 (([v0, v1, v2, v3, v4].drop 0).take 1) = some y0 := (congrArg (fun q => DataW.trod enc Try.prog w 0 (fun _ => true) true n 22 (([v0, v1, v2, v3, v4].drop 0).take q)) cz22).symm.trans (hf 0 _ rfl)
  have f1 : DataW.trod enc Try.prog w 0 (fun _ => true) true n 26 (([v0, v1, v2, v3, v4].drop 1).take 4) = some y1 := (congrArg (fun q => DataW.trod enc Try.prog w 0 (fun _ => true) true n 26 (([v0, v1, v2, v3, v4].drop 1).take q)) cz26).symm.trans (hf 1 _ rfl)
  exact ⟨n, v0, v1, v2, v3, v4, y0, y1, rfl, rfl, rfl, f0, f1⟩
theorem rd31 {fuel : Nat} {cs : List Value} {y : DataW T × List MemPlace} (h : DataW.trod enc Try.prog w 0 (fun _ => true) true fuel 31 cs = some y) :
    ∃ (n : Nat) (v0 v1 : Value) (y0 y1 : DataW T × List MemPlace), fuel = n + 1 ∧ cs = [v0, v1] ∧ y.1 = .agg [y0.1, y1.1] ∧ DataW.trod enc Try.prog w 0 (fun _ => true) true n 29 [v0] = some y0 ∧ DataW.trod enc Try.prog w 0 (fun _ => true) true n 29 [v1] = some y1 := by
  obtain ⟨xs, n, rfl, rfl, hl, hxl, hf⟩ := DataW.trod_struct Try.underlying31 h
  obtain ⟨v0, v1, rfl⟩ := len2 (hl.trans cz31)
  obtain ⟨y0, y1, rfl⟩ := len2 (show xs.length = 2 from hxl)
  have f0 : DataW.trod enc Try.prog w 0 (fun _ => true) true n 29 (([v0, v1].drop 0).take 1) = some y0 := (congrArg (fun q => DataW.trod enc Try.prog w 0 (fun _ => true) true n 29 (([v0, v1].drop 0).take q)) cz29).symm.trans (hf 0 _ rfl)
  have f1 : DataW.trod enc Try.prog w 0 (fun _ => true) true n 29 (([v0, v1].drop 1).take 1) = some y1 := (congrArg (fun q => DataW.trod enc Try.prog w 0 (fun _ => true) true n 29 (([v0, v1].drop 1).take q)) cz29).symm.trans (hf 1 _ rfl)
  exact ⟨n, v0, v1, y0, y1, rfl, rfl, rfl, f0, f1⟩
theorem rd56 {fuel : Nat} {cs : List Value} {y : DataW T × List MemPlace} (h : DataW.trod enc Try.prog w 0 (fun _ => true) true fuel 56 cs = some y) :
    ∃ (n : Nat) (v0 v1 : Value) (y0 y1 : DataW T × List MemPlace), fuel = n + 1 ∧ cs = [v0, v1] ∧ y.1 = .agg [y0.1, y1.1] ∧ DataW.trod enc Try.prog w 0 (fun _ => true) true n 3 [v0] = some y0 ∧ DataW.trod enc Try.prog w 0 (fun _ => true) true n 3 [v1] = some y1 := by
  obtain ⟨xs, n, rfl, rfl, hl, hxl, hf⟩ := DataW.trod_struct Try.underlying56 h
  obtain ⟨v0, v1, rfl⟩ := len2 (hl.trans cz56)
  obtain ⟨y0, y1, rfl⟩ := len2 (show xs.length = 2 from hxl)
  have f0 : DataW.trod enc Try.prog w 0 (fun _ => true) true n 3 (([v0, v1].drop 0).take 1) = some y0 := (congrArg (fun q => DataW.trod enc Try.prog w 0 (fun _ => true) true n 3 (([v0, v1].drop 0).take q)) cz3).symm.trans (hf 0 _ rfl)
  have f1 : DataW.trod enc Try.prog w 0 (fun _ => true) true n 3 (([v0, v1].drop 1).take 1) = some y1 := (congrArg (fun q => DataW.trod enc Try.prog w 0 (fun _ => true) true n 3 (([v0, v1].drop 1).take q)) cz3).symm.trans (hf 1 _ rfl)
  exact ⟨n, v0, v1, y0, y1, rfl, rfl, rfl, f0, f1⟩
theorem rd54 {fuel : Nat} {cs : List Value} {y : DataW T × List MemPlace} (h : DataW.trod enc Try.prog w 0 (fun _ => true) true fuel 54 cs = some y) :
    ∃ (n : Nat) (v0 v1 : Value) (y0 y1 : DataW T × List MemPlace), fuel = n + 1 ∧ cs = [v0, v1] ∧ y.1 = .agg [y0.1, y1.1] ∧ DataW.trod enc Try.prog w 0 (fun _ => true) true n 3 [v0] = some y0 ∧ DataW.trod enc Try.prog w 0 (fun _ => true) true n 3 [v1] = some y1 := by
  obtain ⟨xs, n, rfl, rfl, hl, hxl, hf⟩ := DataW.trod_struct Try.underlying54 h
  obtain ⟨v0, v1, rfl⟩ := len2 (hl.trans cz54)
  obtain ⟨y0, y1, rfl⟩ := len2 (show xs.length = 2 from hxl)
  have f0 : DataW.trod enc Try.prog w 0 (fun _ => true) true n 3 (([v0, v1].drop 0).take 1) = some y0 := (congrArg (fun q => DataW.trod enc Try.prog w 0 (fun _ => true) true n 3 (([v0, v1].drop 0).take q)) cz3).symm.trans (hf 0 _ rfl)
  have f1 : DataW.trod enc Try.prog w 0 (fun _ => true) true n 3 (([v0, v1].drop 1).take 1) = some y1 := (congrArg (fun q => DataW.trod enc Try.prog w 0 (fun _ => true) true n 3 (([v0, v1].drop 1).take q)) cz3).symm.trans (hf 1 _ rfl)
  exact ⟨n, v0, v1, y0, y1, rfl, rfl, rfl, f0, f1⟩
theorem rd75 {fuel : Nat} {cs : List Value} {y : DataW T × List MemPlace} (h : DataW.trod enc Try.prog w 0 (fun _ => true) true fuel 75 cs = some y) :
    ∃ (n : Nat) (v0 v1 v2 v3 : Value) (y0 y1 y2 y3 : DataW T × List MemPlace), fuel = n + 1 ∧ cs = [v0, v1, v2, v3] ∧ y.1 = .agg [y0.1, y1.1, y2.1, y3.1] ∧ DataW.trod enc Try.prog w 0 (fun _ => true) true n 3 [v0] = some y0 ∧ DataW.trod enc Try.prog w 0 (fun _ => true) true n 3 [v1] = some y1 ∧ DataW.trod enc Try.prog w 0 (fun _ => true) true n 3 [v2] = some y2 ∧ DataW.trod enc Try.prog w 0 (fun _ => true) true n 4 [v3] = some y3 := by
  obtain ⟨xs, n, rfl, rfl, hl, hxl, hf⟩ := DataW.trod_struct Try.underlying75 h
  obtain ⟨v0, v1, v2, v3, rfl⟩ := len4 (hl.trans cz75)
  obtain ⟨y0, y1, y2, y3, rfl⟩ := len4 (show xs.length = 4 from hxl)
  have f0 : DataW.trod enc Try.prog w 0 (fun _ => true) true n 3 (([v0, v1, v2, v3].drop 0).take 1) = some y0 := (congrArg (fun q => DataW.trod enc Try.prog w 0 (fun _ => true) true n 3 (([v0, v1, v2, v3].drop 0).take q)) cz3).symm.trans (hf 0 _ rfl)
  have f1 : DataW.trod enc Try.prog w 0 (fun _ => true) true n 3 (([v0, v1, v2, v3].drop 1).take 1) = some y1 := (congrArg (fun q => DataW.trod enc Try.prog w 0 (fun _ => true) true n 3 (([v0, v1, v2, v3].drop 1).take q)) cz3).symm.trans (hf 1 _ rfl)
  have f2 : DataW.trod enc Try.prog w 0 (fun _ => true) true n 3 (([v0, v1, v2, v3].drop 2).take 1) = some y2 := (congrArg (fun q => DataW.trod enc Try.prog w 0 (fun _ => true) true n 3 (([v0, v1, v2, v3].drop 2).take q)) cz3).symm.trans (hf 2 _ rfl)
  have f3 : DataW.trod enc Try.prog w 0 (fun _ => true) true n 4 (([v0, v1, v2, v3].drop 3).take 1) = some y3 := (congrArg (fun q => DataW.trod enc Try.prog w 0 (fun _ => true) true n 4 (([v0, v1, v2, v3].drop 3).take q)) cz4).symm.trans (hf 3 _ rfl)
  exact ⟨n, v0, v1, v2, v3, y0, y1, y2, y3, rfl, rfl, rfl, f0, f1, f2, f3⟩
theorem rd58 {fuel : Nat} {cs : List Value} {y : DataW T × List MemPlace} (h : DataW.trod enc Try.prog w 0 (fun _ => true) true fuel 58 cs = some y) :
    ∃ (n : Nat) (v0 v1 v2 : Value) (y0 y1 : DataW T × List MemPlace), fuel = n + 1 ∧ cs = [v0, v1, v2] ∧ y.1 = .agg [y0.1, y1.1] ∧ DataW.trod enc Try.prog w 0 (fun _ => true) true n 56 [v0, v1] = some y0 ∧ DataW.trod enc Try.prog w 0 (fun _ => true) true n 4 [v2] = some y1 := by
  obtain ⟨xs, n, rfl, rfl, hl, hxl, hf⟩ := DataW.trod_struct Try.underlying58 h
  obtain ⟨v0, v1, v2, rfl⟩ := len3 (hl.trans cz58)
  obtain ⟨y0, y1, rfl⟩ := len2 (show xs.length = 2 from hxl)
  have f0 : DataW.trod enc Try.prog w 0 (fun _ => true) true n 56 (([v0, v1, v2].drop 0).take 2) = some y0 := (congrArg (fun q => DataW.trod enc Try.prog w 0 (fun _ => true) true n 56 (([v0, v1, v2].drop 0).take q)) cz56).symm.trans (hf 0 _ rfl)
  have f1 : DataW.trod enc Try.prog w 0 (fun _ => true) true n 4 (([v0, v1, v2].drop 2).take 1) = some y1 := (congrArg (fun q => DataW.trod enc Try.prog w 0 (fun _ => true) true n 4 (([v0, v1, v2].drop 2).take q)) cz4).symm.trans (hf 1 _ rfl)
  exact ⟨n, v0, v1, v2, y0, y1, rfl, rfl, rfl, f0, f1⟩
theorem rd_int {fuel : Nat} {v : Value} {y : DataW T × List MemPlace} (h : DataW.trod enc Try.prog w 0 (fun _ => true) true fuel 3 [v] = some y) : ∃ n, v = .int .i64 n ∧ Rows.uptoBulk y.1 = 1 := by
  obtain ⟨n, hv, rfl, _⟩ := DataW.trod_int Try.underlying3 h
  exact ⟨n, by simpa using hv, rfl⟩
theorem rd_bool {fuel : Nat} {v : Value} {y : DataW T × List MemPlace} (h : DataW.trod enc Try.prog w 0 (fun _ => true) true fuel 4 [v] = some y) : ∃ b, v = .bool b ∧ Rows.uptoBulk y.1 = 1 := by
  obtain ⟨n, hv, rfl⟩ := DataW.trod_bool Try.underlying4 h
  exact ⟨n, by simpa using hv, rfl⟩
/-- a slice -/
theorem rd_slice {α : Type} {Rl : Hp → List Value → α → Prop} {t e k fuel : Nat} {v : Value} {y : DataW T × List MemPlace} {μ : α → Nat} (ht : Try.prog.underlying t = some (.slice e)) (hk : Try.prog.cellsOf e = k) (hk0 : 0 < k)
    (hone : ∀ cs x, Rl (hp w) cs x → ∀ u ∈ cs, u.oneCell' = true)
    (ih : ∀ n, n < fuel → ∀ cs y, DataW.trod enc Try.prog w 0 (fun _ => true) true n e cs = some y → ∃ x, Rl (hp w) cs x ∧ μ x ≤ Rows.uptoBulk y.1) (h : DataW.trod enc Try.prog w 0 (fun _ => true) true fuel t [v] = some y) :
    ∃ a n c l, v = .slice a n c ∧ SlH (hp w) Rl k a n c l ∧ (l.map μ).sum + 1 ≤ Rows.uptoBulk y.1 := by
  rcases DataW.trod_slice ht h with ⟨hv, rfl⟩ | ⟨a, len, cap, elems, rest, n, rfl, hv, rfl, _, hcap, _, hlen, hel, _, _⟩
  · simp at hv
    exact ⟨none, 0, 0, [], hv, ⟨[], HRow.nil' _ k, .nil⟩, by simp [Rows.uptoBulk]⟩
  · simp at hv
    obtain ⟨l, h1, h2⟩ := row_of hk hk0 hone hlen hcap hel (ih n (by omega))
    refine ⟨some a, len, cap, l, hv, h1, ?_⟩
    simp only [Rows.uptoBulk]
    omega

def PrpH (_ : Hp) (cs : List Value) (p : Prp) : Prop := cs = prow p
def DelH (_ : Hp) (cs : List Value) (p : Dele) : Prop := cs = drow p
def LayH (_ : Hp) (cs : List Value) (p : Layr) : Prop := cs = lrow p
theorem all2_map {α : Type} {f : α → List Value} {css : List (List Value)} {l : List α} (h : All2 (fun cs x => cs = f x) css l) : css = l.map f := by
  induction h with
  | nil => rfl
  | cons h t ih => simp [h, ih]
theorem sum_one {α : Type} (l : List α) : (l.map fun _ => 1).sum = l.length := by
  induction l with
  | nil => rfl
  | cons x l ih => simp [ih]; omega
theorem rd_props {fuel : Nat} {v : Value} {y : DataW T × List MemPlace} (h : DataW.trod enc Try.prog w 0 (fun _ => true) true fuel 22 [v] = some y) : ∃ a n c, ∃ l : List Prp, v = .slice a n c ∧ HRow (hp w) a n c 2 (l.map prow) ∧ l.length + 1 ≤ Rows.uptoBulk y.1 := by
  obtain ⟨a, n, c, l, rfl, ⟨css, h1, h2⟩, h3⟩ := rd_slice (Rl := PrpH) (μ := fun _ => 1) Try.underlying22 cz56 (by omega) (fun cs x hx u hu => prow_one [x] cs (by simp [show cs = prow x from hx]) u hu) (fun n _ cs y hy => by
    obtain ⟨m, v0, v1, y0, y1, rfl, rfl, hy1, g0, g1⟩ := rd56 hy
    obtain ⟨i0, rfl, b0⟩ := rd_int g0
    obtain ⟨i1, rfl, b1⟩ := rd_int g1
    exact ⟨⟨i0, i1⟩, rfl, by rw [hy1]; simp [Rows.uptoBulk]⟩) h
  rw [sum_one] at h3
  exact ⟨a, n, c, l, rfl, all2_map h2 ▸ h1, h3⟩
theorem rd_dels {fuel : Nat} {v : Value} {y : DataW T × List MemPlace} (h : DataW.trod enc Try.prog w 0 (fun _ => true) true fuel 23 [v] = some y) : ∃ a n c, ∃ l : List Dele, v = .slice a n c ∧ HRow (hp w) a n c 2 (l.map drow) ∧ l.length + 1 ≤ Rows.uptoBulk y.1 := by
  obtain ⟨a, n, c, l, rfl, ⟨css, h1, h2⟩, h3⟩ := rd_slice (Rl := DelH) (μ := fun _ => 1) Try.underlying23 cz54 (by omega) (fun cs x hx u hu => drow_one [x] cs (by simp [show cs = drow x from hx]) u hu) (fun n _ cs y hy => by
    obtain ⟨m, v0, v1, y0, y1, rfl, rfl, hy1, g0, g1⟩ := rd54 hy
    obtain ⟨i0, rfl, b0⟩ := rd_int g0
    obtain ⟨i1, rfl, b1⟩ := rd_int g1
    exact ⟨⟨i0, i1⟩, rfl, by rw [hy1]; simp [Rows.uptoBulk]⟩) h
  rw [sum_one] at h3
  exact ⟨a, n, c, l, rfl, all2_map h2 ▸ h1, h3⟩
theorem rd_layers {fuel : Nat} {v : Value} {y : DataW T × List MemPlace} (h : DataW.trod enc Try.prog w 0 (fun _ => true) true fuel 24 [v] = some y) : ∃ a n c, ∃ l : List Layr, v = .slice a n c ∧ HRow (hp w) a n c 4 (l.map lrow) ∧ l.length + 1 ≤ Rows.uptoBulk y.1 := by
  obtain ⟨a, n, c, l, rfl, ⟨css, h1, h2⟩, h3⟩ := rd_slice (Rl := LayH) (μ := fun _ => 1) Try.underlying24 cz75 (by omega) (fun cs x hx u hu => lrow_one [x] cs (by simp [show cs = lrow x from hx]) u hu) (fun n _ cs y hy => by
    obtain ⟨m, v0, v1, v2, v3, y0, y1, y2, y3, rfl, rfl, hy1, g0, g1, g2, g3⟩ := rd75 hy
    obtain ⟨i0, rfl, b0⟩ := rd_int g0
    obtain ⟨i1, rfl, b1⟩ := rd_int g1
    obtain ⟨i2, rfl, b2⟩ := rd_int g2
    obtain ⟨i3, rfl, b3⟩ := rd_bool g3
    exact ⟨⟨i0, i1, i2, i3⟩, rfl, by rw [hy1]; simp [Rows.uptoBulk]⟩) h
  rw [sum_one] at h3
  exact ⟨a, n, c, l, rfl, all2_map h2 ▸ h1, h3⟩
theorem rd_head {fuel : Nat} {cs : List Value} {y : DataW T × List MemPlace} (h : DataW.trod enc Try.prog w 0 (fun _ => true) true fuel 28 cs = some y) : ∃ g : Head, HeadH (hp w) cs g ∧ cs.length = 5 ∧ g.mass + 1 ≤ Rows.uptoBulk y.1 := by
  obtain ⟨m, v0, v1, v2, v3, v4, y0, y1, rfl, rfl, hy, g0, g1⟩ := rd28 h
  obtain ⟨a, n, c, l, rfl, p1, p2⟩ := rd_props g0
  obtain ⟨m', v1', v2', v3', v4', z0, z1, z2, z3, rfl, hvv, hz, q0, q1, q2, q3⟩ := rd26 g1
  simp only [List.cons.injEq, and_true] at hvv
  obtain ⟨rfl, rfl, rfl, rfl⟩ := hvv
  obtain ⟨i0, rfl, _⟩ := rd_int q0
  obtain ⟨i1, rfl, _⟩ := rd_int q1
  obtain ⟨a2, n2, c2, l2, rfl, p3, p4⟩ := rd_dels q2
  obtain ⟨a3, n3, c3, l3, rfl, p5, p6⟩ := rd_layers q3
  refine ⟨⟨l, i0, i1, l2, l3⟩, ⟨a, n, c, a2, n2, c2, a3, n3, c3, rfl, p1, p3, p5⟩, rfl, ?_⟩
  rw [hy]
  simp only [Rows.uptoBulk, Rows.uptoBulkAll, hz, Head.mass]
  omega

def IntH (_ : Hp) (cs : List Value) (p : Int) : Prop := cs = irow p
theorem rd_ints {fuel : Nat} {v : Value} {y : DataW T × List MemPlace} (h : DataW.trod enc Try.prog w 0 (fun _ => true) true fuel 29 [v] = some y) : ∃ a n c, ∃ l : List Int, v = .slice a n c ∧ HRow (hp w) a n c 1 (l.map irow) ∧ l.length + 1 ≤ Rows.uptoBulk y.1 := by
  obtain ⟨a, n, c, l, rfl, ⟨css, h1, h2⟩, h3⟩ := rd_slice (Rl := IntH) (μ := fun _ => 1) Try.underlying29 cz3 (by omega) (fun cs x hx u hu => irow_one [x] cs (by simp [show cs = irow x from hx]) u hu) (fun n _ cs y hy => by
    obtain ⟨m, hv, hy2, _⟩ := DataW.trod_int Try.underlying3 hy
    exact ⟨m, by simpa [IntH, irow] using hv, by rw [hy2]; simp [Rows.uptoBulk]⟩) h
  rw [sum_one] at h3
  exact ⟨a, n, c, l, rfl, all2_map h2 ▸ h1, h3⟩
theorem rd_dec {fuel : Nat} {cs : List Value} {y : DataW T × List MemPlace} (h : DataW.trod enc Try.prog w 0 (fun _ => true) true fuel 31 cs = some y) : ∃ g : Dec, DecH (hp w) cs g ∧ g.acc.length + g.rej.length + 1 ≤ Rows.uptoBulk y.1 := by
  obtain ⟨m, v0, v1, y0, y1, rfl, rfl, hy, g0, g1⟩ := rd31 h
  obtain ⟨a, n, c, l, rfl, p1, p2⟩ := rd_ints g0
  obtain ⟨a', n', c', l', rfl, p3, p4⟩ := rd_ints g1
  refine ⟨⟨l, l'⟩, ⟨⟨a, n, c, a', n', c', rfl, p1, p3⟩⟩, ?_⟩
  rw [hy]
  simp only [Rows.uptoBulk, Rows.uptoBulkAll]
  omega
set_option maxRecDepth 100000 in
/-- an argument that is a head -/
theorem arg_head {v : Value} {d : DataW T} {ps : List MemPlace} {r : Reach} {base : Nat} (hv : Value.okWide Try.prog w r base 28 v) (h : DataW.Trod enc Try.prog w 0 (fun _ => true) true 28 v d ps) :
    ∃ cs x, v = .agg cs.toArray ∧ HeadH (hp w) cs x ∧ x.mass + 1 ≤ Rows.uptoBulk d := by
  obtain ⟨cs, rfl, _⟩ := okWide_struct Try.underlying28 hv
  obtain ⟨fuel, hf⟩ := h
  obtain ⟨x, h1, _, h2⟩ := rd_head hf
  exact ⟨cs.toList, x, rfl, h1, h2⟩
set_option maxRecDepth 100000 in
/-- an argument that is a decision -/
theorem arg_dec {v : Value} {d : DataW T} {ps : List MemPlace} {r : Reach} {base : Nat} (hv : Value.okWide Try.prog w r base 31 v) (h : DataW.Trod enc Try.prog w 0 (fun _ => true) true 31 v d ps) :
    ∃ cs x, v = .agg cs.toArray ∧ DecH (hp w) cs x ∧ x.acc.length + x.rej.length + 1 ≤ Rows.uptoBulk d := by
  obtain ⟨cs, rfl, _⟩ := okWide_struct Try.underlying31 hv
  obtain ⟨fuel, hf⟩ := h
  obtain ⟨x, h1, h2⟩ := rd_dec hf
  exact ⟨cs.toList, x, rfl, h1, h2⟩
theorem rd_set {fuel : Nat} {cs : List Value} {y : DataW T × List MemPlace} (h : DataW.trod enc Try.prog w 0 (fun _ => true) true fuel 58 cs = some y) : ∃ g : Sett, cs = srow g := by
  obtain ⟨m, v0, v1, v2, y0, y1, rfl, rfl, hy, g0, g1⟩ := rd58 h
  obtain ⟨m', u0, u1, z0, z1, rfl, hvv, hz, q0, q1⟩ := rd56 g0
  simp only [List.cons.injEq, and_true] at hvv
  obtain ⟨rfl, rfl⟩ := hvv
  obtain ⟨i0, rfl, _⟩ := rd_int q0
  obtain ⟨i1, rfl, _⟩ := rd_int q1
  obtain ⟨b, rfl, _⟩ := rd_bool g1
  exact ⟨⟨i0, i1, b⟩, rfl⟩
set_option maxRecDepth 100000 in
/-- an argument that is a setting -/
theorem arg_setting {v : Value} {d : DataW T} {ps : List MemPlace} {r : Reach} {base : Nat} (hv : Value.okWide Try.prog w r base 58 v) (h : DataW.Trod enc Try.prog w 0 (fun _ => true) true 58 v d ps) :
    ∃ x, v = .agg (srow x).toArray := by
  obtain ⟨cs, rfl, _⟩ := okWide_struct Try.underlying58 hv
  obtain ⟨fuel, hf⟩ := h
  obtain ⟨x, h1⟩ := rd_set hf
  exact ⟨x, by rw [← h1]; rfl⟩
end
end
end Go.Proofs.Ythniohgeojenaaa
