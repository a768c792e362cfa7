import Derived.Test.YtnoadopmeoohmaaGreatDoorZ03
import Derived.Test.YtnoadopmeoohmaaGreatDoorZ04
import Derived.KernelRfl
import Derived.Test.YtnoadopmeoohmaaGreatDoorZ05
import Derived.Test.YtnoadopmeoohmaaGreatDoorRows
import Derived.WalkKit
import Derived.ProofKit
import Derived.OpenShut
import Derived.JoinedCond
import Derived.ChangeArms
import Derived.ReadAgain
import Derived.Below
/-
  Where the fields of structs lie. Written by wip/tools/table2.py.
-/
namespace Go.Proofs.YtnoadopmeoohmaaGreatDoor
open Go
@[reducible, instance] def bd24 : BuildC Tryz.prog 24 [(0, 1), (1, 1), (2, 1), (3, 1)] := ⟨⟨_, Tryz.underlying24, by kernel_rfl⟩⟩
@[reducible, instance] def bd37 : BuildC Tryz.prog 37 [(0, 1), (1, 1), (2, 1)] := ⟨⟨_, Tryz.underlying37, by kernel_rfl⟩⟩
@[reducible, instance] def bd39 : BuildC Tryz.prog 39 [(0, 1), (1, 3)] := ⟨⟨_, Tryz.underlying39, by kernel_rfl⟩⟩
@[reducible, instance] def bd61 : BuildC Tryz.prog 61 [(0, 4), (4, 1)] := ⟨⟨_, Tryz.underlying61, by kernel_rfl⟩⟩
@[reducible, instance] def bd65 : BuildC Tryz.prog 65 [(0, 1), (1, 1)] := ⟨⟨_, Tryz.underlying65, by kernel_rfl⟩⟩
@[reducible, instance] def bd70 : BuildC Tryz.prog 70 [(0, 1), (1, 1), (2, 1)] := ⟨⟨_, Tryz.underlying70, by kernel_rfl⟩⟩
@[reducible, instance] def bd72 : BuildC Tryz.prog 72 [(0, 1), (1, 3)] := ⟨⟨_, Tryz.underlying72, by kernel_rfl⟩⟩
@[reducible, instance] def bd77 : BuildC Tryz.prog 77 [(0, 1), (1, 1), (2, 1)] := ⟨⟨_, Tryz.underlying77, by kernel_rfl⟩⟩
@[reducible, instance] def bd79 : BuildC Tryz.prog 79 [(0, 1), (1, 3), (4, 1), (5, 1), (6, 1)] := ⟨⟨_, Tryz.underlying79, by kernel_rfl⟩⟩
@[reducible, instance] def bd106 : BuildC Tryz.prog 106 [(0, 1), (1, 1), (2, 1)] := ⟨⟨_, Tryz.underlying106, by kernel_rfl⟩⟩
@[reducible, instance] def bd121 : BuildC Tryz.prog 121 [(0, 1), (1, 1), (2, 1), (3, 1)] := ⟨⟨_, Tryz.underlying121, by kernel_rfl⟩⟩
@[reducible, instance] def bd212 : BuildC Tryz.prog 212 [(0, 1), (1, 1)] := ⟨⟨_, Tryz.underlying212, by kernel_rfl⟩⟩
@[reducible, instance] def bd217 : BuildC Tryz.prog 217 [(0, 1), (1, 1), (2, 1)] := ⟨⟨_, Tryz.underlying217, by kernel_rfl⟩⟩
@[reducible, instance] def bd227 : BuildC Tryz.prog 227 [(0, 1)] := ⟨⟨_, Tryz.underlying227, by kernel_rfl⟩⟩
end Go.Proofs.YtnoadopmeoohmaaGreatDoor
/-
  Operations of all seats: rows of data, regions that hold all, comparisons that come out, ends that shift.
-/
namespace Go.Proofs.YtnoadopmeoohmaaGreatDoor
open Go
set_option linter.unusedVariables false
set_option linter.unusedSimpArgs false
/-- the element of a row of data at a place -/
theorem HRow.atm {H : Hp} {α : Type} {f : α → List Value} {l : List α} {a : Option Addr} {n c k : Nat} (h : HRow H a n c k (l.map f)) (i : Nat) (hi : i < n) :
    ∃ b o x, a = some ⟨b, o, none⟩ ∧ l[i]? = some x ∧ HCells H b (o + i * k) (f x) := by
  obtain ⟨b, o, cs, ha, hcs, _, hc⟩ := h.at i hi
  rw [List.getElem?_map] at hcs
  obtain ⟨x, hx, rfl⟩ := Option.map_eq_some_iff.1 hcs
  exact ⟨b, o, x, ha, hx, hc⟩
section
variable {F : Fence} {P : Program} {c : Ctx} {ops : List Oper} {K : SP} {X : List (Nat × SP)} {R : SP}
/-- a region that draws: all that is owned is held -/
theorem A_drawL (hF : WideF F) [hm : MixC P] {id n : Nat} {e : Env} {H : Hp} {M L : Own} {D : List Deferred} (p : Plan) (S : List Nat) (hp : p.all ops.toArray S = true) (h : drJ F P c ops K M L p ⟨n, e, H, [], M ++ L, D⟩) : wpA F P c (.region id ops.toArray true) K X R ⟨n, e, H, M, L, D⟩ :=
  A_draw (s := ⟨n, e, H, M, L, D⟩) (Lh := M) (M' := []) hF p S hp (Own.sub_refl _) h
/-- .. all stays at hand -/
theorem A_drawM (hF : WideF F) [hm : MixC P] {id n : Nat} {e : Env} {H : Hp} {M L : Own} {D : List Deferred} (p : Plan) (S : List Nat) (hp : p.all ops.toArray S = true) (h : drJ F P c ops K [] L p ⟨n, e, H, M, L, D⟩) : wpA F P c (.region id ops.toArray true) K X R ⟨n, e, H, M, L, D⟩ :=
  A_draw (s := ⟨n, e, H, M, L, D⟩) (Lh := []) (M' := M) hF p S hp (Own.sub_refl _) h
end
theorem ones_of {css : List (List Value)} (h : (css.all fun cs => cs.all (·.oneCell')) = true) : ∀ cs ∈ css, ∀ u ∈ cs, u.oneCell' = true := fun cs hcs => List.all_eq_true.1 (List.all_eq_true.1 h cs hcs)
section
variable {P : Program} {e : Env} {H : Hp} {R : Own} {dst : Option Tmp} {ty : TypeId} {pos : String} {after : Array Edge} {g : Option (Nat × Bool)} {x y : Operand} {t t2 : TypeId}
theorem Ev_seqs {s : List UInt8} (hx : e.eval x = some (sv s)) (hy : e.eval y = some (sv s)) : Ev P ⟨dst, .binOp .eql t x y t2, ty, pos, after, g⟩ e H R (.bool true) := by
  have h := Ev_seql (P := P) (H := H) (R := R) (dst := dst) (ty := ty) (pos := pos) (after := after) (g := g) (t := t) (t2 := t2) hx hy
  rwa [decide_eq_true rfl] at h
theorem Ev_mini {k1 : IntKind} {m1 m2 : Int} {ats : Array TypeId} (hx : e.eval x = some (.int k1 m1)) (hy : e.eval y = some (.int k1 m2)) : Ev P ⟨dst, .call { callee := .builtin .min, args := #[x, y], argTypes := ats }, ty, pos, after, g⟩ e H R (.int k1 (if m2 < m1 then m2 else m1)) := fun a w he _ _ => by
  have h1 := run_min_int2 (P := P) w ats ty k1 k1 m1 m2
  simp [execOp, resolve, invoke, builtin, he.eval hx, he.eval hy, h1]
end
theorem End_s {c : Ctx} {P : Program} {fn : Func} {n : Nat} {e : Env} {H : Hp} {M L : Own} {v : Value} {post : Value → Hp → Own → Prop} (h : RetOk P fn ⟨n, e, H, M, L, []⟩ v) (hs : Shift c (fun s' => s'.L = [] ∧ post v s'.H s'.M) ⟨n, e, H, M, L, []⟩) :
    Shift c (EndOf c P fn post) ⟨n, e, H, M, L, []⟩ := Shift.pure ⟨v, h, rfl, hs⟩
end Go.Proofs.YtnoadopmeoohmaaGreatDoor
/-
  From the readings of the form to the facts of the abstract layer: all seats.
-/
namespace Go.Proofs.YtnoadopmeoohmaaGreatDoor
open Go
set_option linter.unusedVariables false
set_option linter.unusedSimpArgs false
/-- lists of cells and lists of data, one by one -/
inductive All2 {α : Type} (R : List Value → α → Prop) : List (List Value) → List α → Prop where
  | nil : All2 R [] []
  | cons {cs : List Value} {x : α} {css : List (List Value)} {l : List α} (h : R cs x) (t : All2 R css l) : All2 R (cs :: css) (x :: l)
section
variable {α β : Type} {R : List Value → α → Prop} {css css' : List (List Value)} {l l' : List α}
theorem All2.length (h : All2 R css l) : css.length = l.length := by induction h with | nil => rfl | cons _ _ ih => simp [ih]
theorem All2.append (h : All2 R css l) (h' : All2 R css' l') : All2 R (css ++ css') (l ++ l') := by
  induction h with
  | nil => exact h'
  | cons h t ih => exact .cons h ih
theorem All2.get (h : All2 R css l) {i : Nat} {cs : List Value} (hi : css[i]? = some cs) : ∃ x, l[i]? = some x ∧ R cs x := by
  induction h generalizing i with
  | nil => simp at hi
  | cons h t ih => cases i with
    | zero => simp at hi; subst hi; exact ⟨_, by simp, h⟩
    | succ i => simp at hi; obtain ⟨x, h1, h2⟩ := ih hi; exact ⟨x, by simpa using h1, h2⟩
theorem All2.mono {R' : List Value → α → Prop} (hR : ∀ cs x, R cs x → R' cs x) (h : All2 R css l) : All2 R' css l := by
  induction h with
  | nil => exact .nil
  | cons h t ih => exact .cons (hR _ _ h) ih
end
/-- a slice of data: k cells each -/
structure SlH {α : Type} (H : Hp) (R : Hp → List Value → α → Prop) (k : Nat) (a : Option Addr) (n c : Nat) (l : List α) : Prop where
  ex : ∃ css, HRow H a n c k css ∧ All2 (R H) css l
theorem SlH.len {α : Type} {H : Hp} {R : Hp → List Value → α → Prop} {k : Nat} {a : Option Addr} {n c : Nat} {l : List α} (h : SlH H R k a n c l) : l.length = n := by
  obtain ⟨css, h1, h2⟩ := h.ex
  rw [← h2.length, h1.len]
/-- the element at a place -/
theorem SlH.at {α : Type} {H : Hp} {R : Hp → List Value → α → Prop} {k : Nat} {a : Option Addr} {n c : Nat} {l : List α} (h : SlH H R k a n c l) (i : Nat) (hi : i < n) :
    ∃ b o cs x, a = some ⟨b, o, none⟩ ∧ l[i]? = some x ∧ R H cs x ∧ cs.length = k ∧ HCells H b (o + i * k) cs := by
  obtain ⟨css, h1, h2⟩ := h.ex
  obtain ⟨b, o, cs, ha, hcs, hk, hc⟩ := h1.at i hi
  obtain ⟨x, hx, hR⟩ := h2.get hcs
  exact ⟨b, o, cs, x, ha, hx, hR, hk, hc⟩
section
open Go.RowKit Go.ChangeShapes Go.ChangeAt
/-! From the readings of the form to the facts of the abstract layer. -/
/-- all that lies in the world, as persistent facts -/
def hp (w : World) : Hp := fun b o => (w.cell? ⟨b, o, none⟩).filter (·.oneCell')
theorem hp_mem (w : World) : Mem (hp w) w := fun b o v h => by
  simp only [hp, Option.filter_eq_some_iff] at h
  exact h
theorem hp_cell {w : World} {b o : Nat} {v : Value} (h : w.cell? ⟨b, o, none⟩ = some v) (h1 : v.oneCell' = true) : hp w b o = some v := by
  simp only [hp, Option.filter_eq_some_iff]
  exact ⟨h, h1⟩
theorem Holds.start (w : World) (hg : Glob w) (hs : NG ≤ w.heap.size) : Holds ⟨w, hp w, [], noPn⟩ (hp w) [] w :=
  ⟨hp_mem w, Own.ok_nil w, Own.sep_nil, fun b hb => (by cases hb), fun b hb => (by cases hb), ⟨rfl, rfl, rfl, Nat.le_refl _, fun _ _ _ => rfl⟩, fun _ _ _ h => h, fun _ _ _ h => .inl h, fun b o v h1 h2 => absurd (h1.symm.trans h2) (by simp), ⟨hg, hs, fun b hb => (by cases hb)⟩⟩
/-- a contract over all that lies in the world -/
theorem Fn.start {P : Program} {f : FuncId} {args : List Value} {w : World} {post : Value → Hp → Own → Prop} (h : Fn P f args (hp w) [] post) (hg : Glob w) (hs : NG ≤ w.heap.size) :
    Calls P f args.toArray w fun e w' => ∃ v H' I', e = .returned v ∧ Below w.heap.size w w' ∧ post v H' I' := by
  refine (h w (by simpa [Own.blocks] using Holds.start w hg hs)).mono ?_
  rintro e w' ⟨v, H', I', rfl, hh, hq⟩
  exact ⟨v, H', I', rfl, ⟨hh.old.os, hh.old.tape, hh.old.output, hh.old.size, fun k hk => hh.old.block k hk (by simp [Own.blocks])⟩, hq⟩
theorem tkids : Kids Tryz.prog (· < Tryz.prog.types.size) := kids_rows (by kernel_rfl) (by kernel_rfl)
theorem tfull : ∀ t e, t < Tryz.prog.types.size → Tryz.prog.underlying t = some (.slice e) → 0 < Tryz.prog.cellsOf e := slices_full_of Tryz.prog (by kernel_rfl)
theorem trodAll_carry {T : Type} {enc : TypeId × Value → T} {P : Program} {w w' : World} {base : Nat} {sp : Nat → Bool} {held : Bool} : ∀ {ts : List TypeId} {vs : List Value} {ds : List (DataW T)} {ps : List MemPlace},
    DataW.TrodAll enc P w base sp held ts vs ds ps → (∀ p ∈ ps, w.sameAt w' p) → DataW.TrodAll enc P w' base sp held ts vs ds ps
  | [], [], [], _, h, _ => h
  | _ :: _, _ :: _, _ :: _, _, ⟨p, q, ⟨n, h1⟩, h2, e⟩, hs => ⟨p, q, ⟨n, DataW.trod_carry n _ _ _ h1 fun x hx => hs x (by rw [e]; exact List.mem_append_left _ hx)⟩, trodAll_carry h2 fun x hx => hs x (by rw [e]; exact List.mem_append_right _ hx), e⟩
/-- the law has answered true and has left alone what was there -/
theorem law_post {T : Type} {enc : TypeId × Value → T} {f : Func} {s : ChangeSpec} {apart : Bool} {W W' : World} {args : Array Value} {ds gs : List (DataW T)} {before : List MemPlace}
    (hW : DataW.Whole enc Tryz.prog f.params.toList s.vars apart W args.toList ds gs before) (hv : s.vars = []) (hts : ∀ t ∈ f.params.toList, t < Tryz.prog.types.size) (hr : f.resultTypes = #[4])
    (h1 : (s.fn T (ds ++ gs)).results = [.lit (.bool true)]) (h2 : (s.fn T (ds ++ gs)).args = ds) (h3 : (s.fn T (ds ++ gs)).vars = []) (hb : Below W.heap.size W W') :
    s.post enc Tryz.prog f apart true false false W args (.bool true) W' := by
  have hlt := hW.lt
  have hW' := hW
  obtain ⟨p, q, hA, hV, rfl, hfz, hnd⟩ := hW'
  rw [hv] at hV
  have hgs : gs = [] ∧ q = [] := by
    cases gs with
    | nil => exact ⟨rfl, hV⟩
    | cons g gs => exact hV.elim
  obtain ⟨rfl, rfl⟩ := hgs
  simp only [List.append_nil] at *
  refine ⟨ds, [], p, [], p, [], by simpa using hW, ?_, ?_, ?_, ?_, fun h => by cases h⟩
  · simp only [List.append_nil]
    rw [h1, hr]
    exact trodAll_cons_mk (shut_bool Tryz.underlying4 _) trodAll_mk0
  · simp only [List.append_nil]
    rw [h2]
    have := DataW.TrodAll.respare (spare' := fun b => decide (b < W.heap.size)) tkids tfull hts hA fun x hx => by simpa using hlt x hx
    exact trodAll_carry this fun x hx => hb.same (hlt x hx)
  · simp only [List.append_nil]
    rw [h3, hv]; exact rfl
  · exact hb.frame _
section
variable {T : Type} {enc : TypeId × Value → T} {w : World}
end
end
section
open Go.RowKit Go.WideShapes
variable {T : Type} {enc : TypeId × Value → T} {w : World}
end
end Go.Proofs.YtnoadopmeoohmaaGreatDoor
