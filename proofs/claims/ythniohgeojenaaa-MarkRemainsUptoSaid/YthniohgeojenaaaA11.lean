/-
  Struct literals.
-/
import Derived.Test.YthniohgeojenaaaA10
import Derived.Laws.Tables
namespace Go.Proofs.Ythniohgeojenaaa
open Go
set_option linter.unusedVariables false
set_option linter.unusedSimpArgs false

/-- where the fields of a struct lie, and how many cells each takes -/
class BuildC (P : Program) (t : TypeId) (places : outParam (List (Nat × Nat))) : Type where
  places : ∃ fs, P.underlying t = some (.struct fs) ∧ fs.toList.mapM (fun f => (P.info? f.type).map fun i => (f.offset, i.size)) = some places
def pget : List (Nat × Nat) → Nat → Option (Nat × Nat)
  | [], _ => none
  | p :: _, 0 => some p
  | _ :: r, n + 1 => pget r n
theorem pget_eq (l : List (Nat × Nat)) (n : Nat) : pget l n = l[n]? := by
  induction l generalizing n with
  | nil => simp [pget]
  | cons o r ih => cases n with
    | zero => simp [pget]
    | succ n => simp [pget, ih]
inductive Fills (places : List (Nat × Nat)) : List (Nat × Value) → List Value → List Value → Prop where
  | nil {cs : List Value} : Fills places [] cs cs
  | one {i off : Nat} {v : Value} {rest : List (Nat × Value)} {cs r : List Value} (hp : pget places i = some (off, 1)) (hv : v.oneCell' = true) (hl : Nat.blt off cs.length = true) (h : Fills places rest (tset cs off v) r) : Fills places ((i, v) :: rest) cs r
  | agg {i off k : Nat} {vs : List Value} {rest : List (Nat × Value)} {cs r : List Value} (hp : pget places i = some (off, k)) (hk : Nat.beq vs.length k = true) (hl : Nat.ble (off + vs.length) cs.length = true) (h : Fills places rest (cput cs off vs) r) : Fills places ((i, .agg vs.toArray) :: rest) cs r
theorem fold_put : ∀ (vs : List Value) (j off : Nat) (cs : List Value), off + j + vs.length ≤ cs.length → (vs.zipIdx j).foldl (fun cs (x : Value × Nat) => cs.setIfInBounds (off + x.2) x.1) cs.toArray = (cput cs (off + j) vs).toArray
  | [], j, off, cs, h => by simp [cput]
  | v :: vs, j, off, cs, h => by
    simp only [List.length_cons] at h
    rw [List.zipIdx_cons, List.foldl_cons]
    have h1 : cs.toArray.setIfInBounds (off + j) v = (cs.set (off + j) v).toArray := by simp
    rw [h1, fold_put vs (j + 1) off (cs.set (off + j) v) (by simp; omega)]
    congr 1
    unfold cput
    have h2 : off + j < cs.length := by omega
    have h3 : off + (j + 1) = off + j + 1 := by omega
    rw [h3, List.set_eq_take_append_cons_drop, if_pos h2]
    have h4 : (cs.take (off + j)).length = off + j := by simp; omega
    rw [List.take_append, List.drop_append, h4]
    have e1 : off + j + 1 - (off + j) = 1 := by omega
    have e2 : off + j + 1 + vs.length - (off + j) = vs.length + 1 := by omega
    rw [e1, e2, List.take_of_length_le (by omega : (cs.take (off + j)).length ≤ off + j + 1), List.drop_of_length_le (by omega : (cs.take (off + j)).length ≤ off + j + 1 + vs.length)]
    simp [List.drop_drop]
    congr 1
    omega
theorem Fills.fill {places : List (Nat × Nat)} {parts : List (Nat × Value)} {cs r : List Value} (h : Fills places parts cs r) : Instr.fill (fun i => places[i]?) cs.toArray parts = some r.toArray := by
  induction h with
  | nil => rfl
  | @one i off v rest cs r hp hv hl h ih =>
    have hvc : v.cells = #[v] := by cases v <;> first | rfl | (simp [Value.oneCell'] at hv)
    rw [pget_eq] at hp
    have hl' : off < cs.length := Nat.le_of_ble_eq_true hl
    rw [tset_eq] at ih
    simp [Instr.fill, hp, hvc, ih]
    omega
  | @agg i off k vs rest cs r hp hk hl h ih =>
    rw [pget_eq] at hp
    have hk' := Nat.eq_of_beq_eq_true hk
    have hl' := Nat.le_of_ble_eq_true hl
    have hf := fold_put vs 0 off cs (by omega)
    simp only [Nat.add_zero] at hf
    simp only [Instr.fill, hp]
    have hc : (Value.agg vs.toArray).cells = vs.toArray := rfl
    rw [hc]
    have hz : vs.toArray.zipIdx.foldl (fun cs (x : Value × Nat) => cs.setIfInBounds (off + x.2) x.1) cs.toArray = (cput cs off vs).toArray := by
      rw [← hf]
      rw [← Array.foldl_toList]
      simp
    have hcond : ¬ ((vs.toArray.size ≠ k || off + vs.toArray.size > cs.toArray.size) = true) := by
      simp; omega
    rw [if_neg hcond]
    have hz' : vs.toArray.zipIdx.foldl (fun cs (c, j) => cs.setIfInBounds (off + j) c) cs.toArray = (cput cs off vs).toArray := hz
    rw [hz']
    exact ih
def fillL (places : List (Nat × Nat)) : List (Nat × Value) → List Value → List Value
  | [], cs => cs
  | (i, .agg vs) :: rest, cs => match pget places i with
    | some (off, _) => fillL places rest (cput cs off vs.toList)
    | none => cs
  | (i, v) :: rest, cs => match pget places i with
    | some (off, _) => fillL places rest (tset cs off v)
    | none => cs
def fillOk (places : List (Nat × Nat)) : List (Nat × Value) → List Value → Bool
  | [], _ => true
  | (i, .agg vs) :: rest, cs => match pget places i with
    | some (off, k) => Nat.beq vs.toList.length k && Nat.ble (off + vs.toList.length) cs.length && fillOk places rest (cput cs off vs.toList)
    | none => false
  | (i, v) :: rest, cs => match pget places i with
    | some (off, k) => Nat.beq k 1 && v.oneCell' && Nat.blt off cs.length && fillOk places rest (tset cs off v)
    | none => false
theorem Fills.of_ok {places : List (Nat × Nat)} : ∀ (parts : List (Nat × Value)) (cs : List Value), fillOk places parts cs = true → Fills places parts cs (fillL places parts cs)
  | [], cs, _ => .nil
  | (i, v) :: rest, cs, h => by
    cases v
    case agg vs =>
      unfold fillOk at h
      unfold fillL
      cases hp : pget places i with
      | none => simp [hp] at h
      | some q =>
        obtain ⟨off, k⟩ := q
        simp only [hp, Bool.and_eq_true] at h ⊢
        exact .agg (vs := vs.toList) hp h.1.1 h.1.2 (Fills.of_ok rest _ h.2)
    all_goals
      unfold fillOk at h
      unfold fillL
      cases hp : pget places i with
      | none => simp [hp] at h
      | some q =>
        obtain ⟨off, k⟩ := q
        simp only [hp, Bool.and_eq_true] at h ⊢
        have hk := Nat.eq_of_beq_eq_true h.1.1.1
        subst hk
        exact .one hp h.1.1.2 h.1.2 (Fills.of_ok rest _ h.2)
section
variable {P : Program} {e : Env} {H : Hp} {R : Own} {dst : Option Tmp} {ty : TypeId} {pos : String} {after : Array Edge} {g : Option (Nat × Bool)} {t : TypeId}
def EvalParts (e : Env) : List (Nat × Operand) → List (Nat × Value) → Prop
  | [], [] => True
  | (i, x) :: xs, (j, v) :: vs => i = j ∧ e.eval x = some v ∧ EvalParts e xs vs
  | _, _ => False
theorem EvalParts.map {e : Env} {a : Act} (he : EnvOk e a) : ∀ {xs : List (Nat × Operand)} {vs : List (Nat × Value)}, EvalParts e xs vs → xs.map (fun p => (p.1, a.eval p.2)) = vs
  | [], [], _ => rfl
  | (i, x) :: xs, (j, v) :: vs, h => by
    obtain ⟨rfl, h1, h2⟩ := h
    simp [he.eval h1, EvalParts.map he h2]
  | [], _ :: _, h => h.elim
  | _ :: _, [], h => by simp [EvalParts] at h
theorem Ev_build {places : List (Nat × Nat)} {zc : List Value} {xs : Array (Nat × Operand)} {vs : List (Nat × Value)} [hb : BuildC P t places] [hz : ZeroL P t zc] (hx : EvalParts e xs.toList vs) (hok : fillOk places vs zc = true) :
    Ev P ⟨dst, .build t xs, ty, pos, after, g⟩ e H R (.agg (fillL places vs zc).toArray) := fun a w he _ _ => by
  have hf := Fills.of_ok vs zc hok
  generalize fillL places vs zc = r at *
  obtain ⟨fs, hu, hp⟩ := hb.places
  obtain ⟨zv, hzr, hzc⟩ := hz.zero
  have hm := EvalParts.map he hx
  have hm' : xs.map (fun (i, x) => (i, a.eval x)) = vs.toArray := by
    apply Array.ext'
    simpa using hm
  have hfill := hf.fill
  have hzc' : zv.cells = zc.toArray := by apply Array.ext'; simpa using hzc
  have hpl : (fs.mapM fun f => do pure (f.offset, ← sizeOf f.type) : Sem (Array (Nat × Nat))).run P w = .ok places.toArray w := by
    have h1 := run_places (P := P) w fs.toList places hp
    have h2 : (fs.mapM fun f => do pure (f.offset, ← sizeOf f.type) : Sem (Array (Nat × Nat))) = List.toArray <$> fs.toList.mapM fun f => Prod.mk f.offset <$> sizeOf f.type := by
      rw [Array.mapM_eq_mapM_toList]
      simp
    rw [h2]
    simp only [map_eq_pure_bind, Sem.run_bind, Sem.run_pure] at h1 ⊢
    rw [h1]
    rfl
  have hrun : (Instr.build t vs.toArray).run P w = .ok (.agg r.toArray) w := by
    simp only [Instr.build, Sem.run_bind, hzr, Result.andThen_ok, run_underlying hu, hzc']
    rw [hpl]
    simp only [Result.andThen_ok]
    have : (fun (x : Nat) => places.toArray[x]?) = fun i => places[i]? := by funext i; simp
    rw [this, hfill]
    rfl
  simp only [execOp, hm', Sem.run_bind, hrun, Result.andThen_ok, Sem.run_pure]
end
end Go.Proofs.Ythniohgeojenaaa
