/-
  Operations of all seats: rows of data, regions that hold all, comparisons that come out, ends that shift.
-/
import Derived.Test.YtnoadopmeoohmaaGreatDoorA16
import Derived.Test.YtnoadopmeoohmaaGreatDoorT2
namespace Go.Proofs.YtnoadopmeoohmaaGreatDoor
open Go
set_option linter.unusedVariables false
set_option linter.unusedSimpArgs false
/-- the element of a row of data at a place -/
theorem HRow.atm {H : Hp} {α : Type} {f : α → List Value} {l : List α} {a : Option Addr} {n c k : Nat} (h : HRow H a n c k (l.map f)) (i : Nat) (hi : i < n) :
    ∃ b o x, a = some ⟨b, o, none⟩ ∧ l[i]? = some x ∧ HCells H b (o + i * k) (f x) := by
  obtain ⟨b, o, cs, ha, hcs, _, hc⟩ := h.at i hi
  rw [List.getElem?_map] at hcs
  obtain ⟨x, hx, rfl⟩ := Option.map_eq_some_iff.1 hcs
  exact ⟨b, o, x, ha, hx, hc⟩
section
variable {F : Fence} {P : Program} {c : Ctx} {ops : List Oper} {K : SP} {X : List (Nat × SP)} {R : SP}
/-- a region that draws: all that is owned is held -/
theorem A_drawL (hF : WideF F) [hm : MixC P] {id n : Nat} {e : Env} {H : Hp} {M L : Own} {D : List Deferred} (p : Plan) (S : List Nat) (hp : p.all ops.toArray S = true) (h : drJ F P c ops K M L p ⟨n, e, H, [], M ++ L, D⟩) : wpA F P c (.region id ops.toArray true) K X R ⟨n, e, H, M, L, D⟩ :=
  A_draw (s := ⟨n, e, H, M, L, D⟩) (Lh := M) (M' := []) hF p S hp (Own.sub_refl _) h
/-- .. all stays at hand -/
theorem A_drawM (hF : WideF F) [hm : MixC P] {id n : Nat} {e : Env} {H : Hp} {M L : Own} {D : List Deferred} (p : Plan) (S : List Nat) (hp : p.all ops.toArray S = true) (h : drJ F P c ops K [] L p ⟨n, e, H, M, L, D⟩) : wpA F P c (.region id ops.toArray true) K X R ⟨n, e, H, M, L, D⟩ :=
  A_draw (s := ⟨n, e, H, M, L, D⟩) (Lh := []) (M' := M) hF p S hp (Own.sub_refl _) h
theorem Ef_yield0 {n d : Nat} {e : Env} {H : Hp} {I L : Own} {D : List Deferred} {ty : TypeId} {pos : String} {after : Array Edge} {g : Option (Nat × Bool)} {at_ : Array TypeId} {z : Operand} {args : List Value} {post : Value → Hp → Own → Prop} (hF : WideF F) {l : Nat} {r : Loop} {xs : Array Operand} (h : RoundFn P l r args H I post) (hz : e.eval z = some (.func (.yield l) #[] #[])) (hx : EvalAll e xs.toList args) (hps : r.params.size = args.length) (hn : Nat.blt d n = true)
    (k : ∀ v H' I', HLe H H' → post v H' I' → K ⟨n, (d, v) :: e, H', I', L, D⟩) :
    Ef F P c ⟨some d, .call { callee := .value z, args := xs, argTypes := at_ }, ty, pos, after, g⟩ ⟨n, e, H, .obj l (.loop r) :: (I ++ []), L, D⟩ K :=
  Ef_yield (M' := []) hF h hz hx hps hn fun v H' I' hle hp => by rw [List.append_nil]; exact k v H' I' hle hp
end
theorem ones_of {css : List (List Value)} (h : (css.all fun cs => cs.all (·.oneCell')) = true) : ∀ cs ∈ css, ∀ u ∈ cs, u.oneCell' = true := fun cs hcs => List.all_eq_true.1 (List.all_eq_true.1 h cs hcs)
theorem Ev_nebs {P : Program} {e : Env} {H : Hp} {R : Own} {dst : Option Tmp} {ty : TypeId} {pos : String} {after : Array Edge} {g : Option (Nat × Bool)} {x y : Operand} {t t2 : TypeId} [ht : UndC P t .bool] {b : Bool} (hx : e.eval x = some (.bool b)) (hy : e.eval y = some (.bool b)) : Ev P ⟨dst, .binOp .neq t x y t2, ty, pos, after, g⟩ e H R (.bool false) := by
  have h := Ev_neb (P := P) (H := H) (R := R) (dst := dst) (ty := ty) (pos := pos) (after := after) (g := g) (t := t) (t2 := t2) hx hy
  have hb : (!(b == b)) = false := by cases b <;> rfl
  rwa [hb] at h
theorem Ev_eqbs {P : Program} {e : Env} {H : Hp} {R : Own} {dst : Option Tmp} {ty : TypeId} {pos : String} {after : Array Edge} {g : Option (Nat × Bool)} {x y : Operand} {t t2 : TypeId} [ht : UndC P t .bool] {b : Bool} (hx : e.eval x = some (.bool b)) (hy : e.eval y = some (.bool b)) : Ev P ⟨dst, .binOp .eql t x y t2, ty, pos, after, g⟩ e H R (.bool true) := by
  have h := Ev_eqb (P := P) (H := H) (R := R) (dst := dst) (ty := ty) (pos := pos) (after := after) (g := g) (t := t) (t2 := t2) hx hy
  have hb : (b == b) = true := by cases b <;> rfl
  rwa [hb] at h
section
variable {P : Program} {e : Env} {H : Hp} {R : Own} {dst : Option Tmp} {ty : TypeId} {pos : String} {after : Array Edge} {g : Option (Nat × Bool)} {x y : Operand} {t t2 : TypeId}
theorem Ev_eqis {k : IntKind} {v : Int} (hx : e.eval x = some (.int k v)) (hy : e.eval y = some (.int k v)) : Ev P ⟨dst, .binOp .eql t x y t2, ty, pos, after, g⟩ e H R (.bool true) := by
  have h := Ev_eql (P := P) (H := H) (R := R) (dst := dst) (ty := ty) (pos := pos) (after := after) (g := g) (t := t) (t2 := t2) hx hy
  rwa [decide_eq_true rfl] at h
theorem Ev_neis {k : IntKind} {v : Int} (hx : e.eval x = some (.int k v)) (hy : e.eval y = some (.int k v)) : Ev P ⟨dst, .binOp .neq t x y t2, ty, pos, after, g⟩ e H R (.bool false) := by
  have h := Ev_neq (P := P) (H := H) (R := R) (dst := dst) (ty := ty) (pos := pos) (after := after) (g := g) (t := t) (t2 := t2) hx hy
  rwa [decide_eq_false (by simp)] at h
theorem Ev_seqs {s : List UInt8} (hx : e.eval x = some (sv s)) (hy : e.eval y = some (sv s)) : Ev P ⟨dst, .binOp .eql t x y t2, ty, pos, after, g⟩ e H R (.bool true) := by
  have h := Ev_seql (P := P) (H := H) (R := R) (dst := dst) (ty := ty) (pos := pos) (after := after) (g := g) (t := t) (t2 := t2) hx hy
  rwa [decide_eq_true rfl] at h
theorem Ev_snes {s : List UInt8} (hx : e.eval x = some (sv s)) (hy : e.eval y = some (sv s)) : Ev P ⟨dst, .binOp .neq t x y t2, ty, pos, after, g⟩ e H R (.bool false) := by
  have h := Ev_sneq (P := P) (H := H) (R := R) (dst := dst) (ty := ty) (pos := pos) (after := after) (g := g) (t := t) (t2 := t2) hx hy
  rwa [decide_eq_false (by simp)] at h
theorem Ev_mini {k1 : IntKind} {m1 m2 : Int} {ats : Array TypeId} (hx : e.eval x = some (.int k1 m1)) (hy : e.eval y = some (.int k1 m2)) : Ev P ⟨dst, .call { callee := .builtin .min, args := #[x, y], argTypes := ats }, ty, pos, after, g⟩ e H R (.int k1 (if m2 < m1 then m2 else m1)) := fun a w he _ _ => by
  have h1 := run_min_int2 (P := P) w ats ty k1 k1 m1 m2
  simp [execOp, resolve, invoke, builtin, he.eval hx, he.eval hy, h1]
end
theorem HRow.cong {H : Hp} {a : Option Addr} {n c k : Nat} {css css' : List (List Value)} (h : HRow H a n c k css) (e : css' = css) : HRow H a n c k css' := e ▸ h
theorem End_s {c : Ctx} {P : Program} {fn : Func} {n : Nat} {e : Env} {H : Hp} {M L : Own} {v : Value} {post : Value → Hp → Own → Prop} (h : RetOk P fn ⟨n, e, H, M, L, []⟩ v) (hs : Shift c (fun s' => s'.L = [] ∧ post v s'.H s'.M) ⟨n, e, H, M, L, []⟩) :
    Shift c (EndOf c P fn post) ⟨n, e, H, M, L, []⟩ := Shift.pure ⟨v, h, rfl, hs⟩
theorem take_get {α : Type} {l : List α} {i : Nat} {x : α} (h : l[i]? = some x) : l.take (i + 1) = l.take i ++ [x] := by
  obtain ⟨hi, rfl⟩ := List.getElem?_eq_some_iff.1 h
  rw [List.take_add_one, List.getElem?_eq_getElem hi]; rfl
theorem list_ext {α : Type} {l l' : List α} (h : l.length = l'.length) (hj : ∀ j, j < l.length → l[j]? = l'[j]?) : l = l' := by
  apply List.ext_getElem?
  intro j
  by_cases hl : j < l.length
  · exact hj j hl
  · rw [List.getElem?_eq_none (by omega), List.getElem?_eq_none (by omega)]
end Go.Proofs.YtnoadopmeoohmaaGreatDoor
