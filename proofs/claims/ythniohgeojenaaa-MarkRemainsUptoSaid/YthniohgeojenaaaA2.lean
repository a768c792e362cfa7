/-
  The judgement on lists of operations, and the operations that leave the world alone.
-/
import Derived.Test.YthniohgeojenaaaA1
namespace Go.Proofs.Ythniohgeojenaaa
open Go
set_option linter.unusedVariables false
set_option linter.unusedSimpArgs false

/-! ### facts on types, by instances -/
class TyC (P : Program) (t : TypeId) (agg : outParam Bool) (size : outParam Nat) : Type where
  isAgg : ∀ w, (isAgg t).run P w = .ok agg w
  sizeOf : ∀ w, (sizeOf t).run P w = .ok size w
class UndC (P : Program) (t : TypeId) (d : outParam TypeDesc) : Type where
  und : P.underlying t = some d
theorem UndC.run {P : Program} {t : TypeId} {d : TypeDesc} (h : UndC P t d) (w : World) : (underlying t).run P w = .ok d w := run_underlying h.und w
/-- field i of a struct type: its type, and where it lies -/
class FieldC (P : Program) (t : TypeId) (i : Nat) (ft : outParam Nat) (off : outParam Nat) : Type where
  fld : ∃ fs f, P.underlying t = some (.struct fs) ∧ fs.toList[i]? = some f ∧ f.type = ft ∧ f.offset = off
class ZeroC (P : Program) (t : TypeId) (z : outParam Value) : Type where
  run : ∀ w, (zeroValue t).run P w = .ok z w
class FunC (P : Program) (f : FuncId) : Type where
  run : ∀ args w, (callFunc f args).run P w = .ok (.enter f args) w

/-! ### lists of operations -/
def opget : List Oper → Nat → Option Oper
  | [], _ => none
  | o :: _, 0 => some o
  | _ :: r, n + 1 => opget r n
theorem opget_eq (l : List Oper) (n : Nat) : opget l n = l[n]? := by
  induction l generalizing n with
  | nil => simp [opget]
  | cons o r ih => cases n with
    | zero => simp [opget]
    | succ n => simp [opget, ih]

/-- the slot that a guard looks at -/
def gslot (ops : List Oper) (o : Oper) : Option Nat :=
  match o.guard with
  | none => none
  | some (j, _) => match opget ops j with
    | some oj => oj.dst
    | none => none
def want (ops : List Oper) (o : Oper) (e : Env) : Option Bool :=
  match o.guard with
  | none => some true
  | some (j, b) => match opget ops j with
    | some oj => match oj.dst with
      | some t => match e.find t with
        | some (.bool b') => some (match b', b with | true, true => true | false, false => true | _, _ => false)
        | some (.tuple _) => some false
        | _ => none
      | none => none
    | none => none

theorem wanted_of_want {ops : List Oper} {o : Oper} {e : Env} {a : Act} {b : Bool} (he : EnvOk e a) (h : want ops o e = some b) : Region.wanted o (yielded ops.toArray a.tmps) = b := by
  unfold want at h
  unfold Region.wanted
  split at h
  · rename_i hg; simp at h; subst h; simp [hg]
  · rename_i j b0 hg
    simp only [hg]
    rw [opget_eq] at h
    split at h
    · rename_i oj hj
      split at h
      · rename_i t ht
        split at h
        · rename_i b' hf
          have h1 := he t _ hf
          have h2 : yielded ops.toArray a.tmps j = some b' := by
            simp [yielded, hj, ht, h1]
          rw [h2]
          simp only [Option.some.injEq] at h
          subst h
          cases b' <;> cases b0 <;> rfl
        · rename_i vs hf
          have h1 := he t _ hf
          have h2 : yielded ops.toArray a.tmps j = none := by
            simp [yielded, hj, ht, h1]
          rw [h2]
          simp only [Option.some.injEq] at h
          subst h
          rfl
        · cases h
      · cases h
    · cases h

def opsA (F : Fence) (P : Program) (c : Ctx) (ops l : List Oper) (K : SP) (s : Sta) : Prop :=
  ∀ a w, s.ok c a w → wpListIn F 0 P ops.toArray (contQ c K [] (fun _ => False)) l a w

/-- What an operation yields, the world left as it is: it may look at the slots, at the persistent facts, and at the owned blocks R. -/
def Ev (P : Program) (o : Oper) (e : Env) (H : Hp) (R : Own) (v : Value) : Prop :=
  ∀ a w, EnvOk e a → Mem H w → Own.ok R w → (execOp a.eval o).run P w = .ok (.value v) w

/-- One step that may turn the world. -/
def Ef (F : Fence) (P : Program) (c : Ctx) (o : Oper) (s : Sta) (K : SP) : Prop :=
  ∀ a w, s.ok c a w → o.wpIn F 0 P a w (fun a' w' => ∃ s', s'.ok c a' w' ∧ K s') (fun _ _ _ => False)

theorem Oper.wpIn_both {F : Fence} {n : Nat} {P : Program} {o : Oper} {a : Act} {w : World} {K K' : Act → World → Prop} {Q Q' : Exit → Act → World → Prop} (h : ∀ a w, K a w → K' a w)
    (hq : ∀ e a w, Q e a w → Q' e a w) (hh : o.wpIn F n P a w K Q) : o.wpIn F n P a w K' Q' := by
  unfold Oper.wpIn at *
  refine ⟨hh.1, ?_⟩
  have hh := hh.2
  generalize (o.semAt F.round a.eval).run P w = r at *
  have hl : LetsOut Q → LetsOut Q' := fun ⟨a, w, x⟩ => ⟨a, w, hq _ _ _ x⟩
  cases r with
  | ok x w' =>
    cases x <;> simp only [Oper.uponIn] at hh ⊢ <;>
      first
        | exact h _ _ hh
        | exact ⟨hh.1, CallsIn.mono hh.2 (fun e w'' he => by cases e <;> first | exact h _ _ he | exact hq _ _ _ he | exact hl he)⟩
        | exact ⟨hh.1, RowsIn.mono hh.2 (fun _ _ he => h _ _ he)⟩
        | exact ⟨hh.1, RoundIn.mono hh.2 (fun e w'' he => by cases e <;> first | exact h _ _ he | exact hq _ _ _ he | exact hl he)⟩
  | halt x w' => cases x <;> simp only [Oper.uponIn] at hh ⊢ <;> first | exact hh | exact hq _ _ _ hh

section rules
variable {F : Fence} {P : Program} {c : Ctx} {ops rest : List Oper} {o : Oper} {K : SP} {X : List (Nat × SP)} {R : SP} {n : Nat} {e : Env} {H : Hp} {M L : Own} {D : List Deferred}

theorem A_region {id : Nat} {l : List Oper} {s : Sta} (h : opsA F P c l l K s) : wpA F P c (.region id l.toArray false) K X R s := fun a w hs =>
  wpIn_region_lit (by
    have := h a w hs
    refine (?_ : ∀ (l' : List Oper) a w, wpListIn F 0 P l.toArray (contQ c K [] (fun _ => False)) l' a w → wpListIn F 0 P l.toArray (contQ c K X R) l' a w) l a w this
    intro l'
    induction l' with
    | nil => intro a w h; exact h
    | cons o r ih =>
      intro a w h
      simp only [wpListIn] at h ⊢
      split
      · rename_i hw
        rw [if_pos hw] at h
        refine Oper.wpIn_both (fun a w => ih a w) (fun e a w q => ?_) h
        cases e with
        | normal => exact q
        | exit id => obtain ⟨s, hs, K', hx, _⟩ := q; simp [xfind] at hx
        | ret => obtain ⟨s, hs, hx⟩ := q; exact hx.elim
        | goto l => exact q
        | panic ch => exact q
        | outgrown => exact q
      · rename_i hw
        rw [if_neg hw] at h
        exact ⟨h.1, ih _ _ h.2⟩)

theorem O_nil {s : Sta} (h : K s) : opsA F P c ops [] K s := fun _ _ hs => ⟨s, hs, h⟩

theorem not_defer_of_value {ρ : Operand → Value} {o : Oper} {w w' : World} {v : Value} (h : (execOp ρ o).run P w = .ok (.value v) w') : ∀ cl, o.op ≠ .defer cl := by
  intro cl hcl
  unfold execOp at h
  simp only [hcl, Sem.run_bind] at h
  cases hr : (resolve ρ cl o.type).run P w with
  | ok d w1 => rw [hr] at h; simp at h
  | halt x w1 => rw [hr] at h; simp at h

/-- the step of an operation that yields v -/
theorem Ev.wpIn (hF : WideF F) {s : Sta} {Q : Exit → Act → World → Prop} {Kx : Act → World → Prop} {a : Act} {w : World} {v : Value} (he : EnvOk e a) (hm : Mem H w) {R : Own} (hr : Own.ok R w)
    (h : Ev P o e H R v) (k : Kx (a.put o.dst v) w) : o.wpIn F 0 P a w Kx Q := by
  have h1 := h a w he hm hr
  refine ⟨fun f _ => hF.fn f, ?_⟩
  rw [Oper.semAt_eq _ _ _ (not_defer_of_value h1), h1]
  exact k

theorem O_ev {d : Nat} {v : Value} (hF : WideF F) (hw : want ops o e = some true) (h : Ev P o e H (M ++ L) v) (hd : o.dst = some d) (hn : Nat.blt d n = true)
    (k : opsA F P c ops rest K ⟨n, (d, v) :: e, H, M, L, D⟩) : opsA F P c ops (o :: rest) K ⟨n, e, H, M, L, D⟩ := by
  intro a w hs
  have hw' := wanted_of_want hs.env hw
  simp only [wpListIn]
  rw [if_pos hw']
  refine Ev.wpIn hF (s := ⟨n, e, H, M, L, D⟩) hs.env hs.holds.mem hs.holds.own h ?_
  rw [hd]
  have hlt : d < a.tmps.size := by rw [hs.size]; exact Nat.le_of_ble_eq_true hn
  exact k _ _ ⟨hs.defers, by simpa [Act.put] using hs.size, hs.env.put hlt, hs.holds⟩

/-- an operation without a slot of its own whose value is dropped -/
theorem O_evn {v : Value} (hF : WideF F) (hw : want ops o e = some true) (h : Ev P o e H (M ++ L) v) (hd : o.dst = none)
    (k : opsA F P c ops rest K ⟨n, e, H, M, L, D⟩) : opsA F P c ops (o :: rest) K ⟨n, e, H, M, L, D⟩ := by
  intro a w hs
  have hw' := wanted_of_want hs.env hw
  simp only [wpListIn]
  rw [if_pos hw']
  refine Ev.wpIn hF (s := ⟨n, e, H, M, L, D⟩) hs.env hs.holds.mem hs.holds.own h ?_
  rw [hd]
  exact k _ _ hs

theorem O_skip {d : Nat} (hF : WideF F) (hw : want ops o e = some false) (hd : o.dst = some d) (hn : Nat.blt d n = true)
    (k : opsA F P c ops rest K ⟨n, (d, undef) :: e, H, M, L, D⟩) : opsA F P c ops (o :: rest) K ⟨n, e, H, M, L, D⟩ := by
  intro a w hs
  have hw' := wanted_of_want hs.env hw
  simp only [wpListIn]
  rw [if_neg (by rw [hw']; simp)]
  refine ⟨fun f _ => hF.fn f, ?_⟩
  rw [hd]
  have hlt : d < a.tmps.size := by rw [hs.size]; exact Nat.le_of_ble_eq_true hn
  exact k _ _ ⟨hs.defers, by simpa [Act.put] using hs.size, hs.env.put hlt, hs.holds⟩
theorem O_skipn (hF : WideF F) (hw : want ops o e = some false) (hd : o.dst = none)
    (k : opsA F P c ops rest K ⟨n, e, H, M, L, D⟩) : opsA F P c ops (o :: rest) K ⟨n, e, H, M, L, D⟩ := by
  intro a w hs
  have hw' := wanted_of_want hs.env hw
  simp only [wpListIn]
  rw [if_neg (by rw [hw']; simp)]
  refine ⟨fun f _ => hF.fn f, ?_⟩
  rw [hd]
  exact k _ _ hs

/-- the guard's test is not decided: both ways -/
theorem O_split {t : Nat} {p : Prop} [Decidable p] (hg : gslot ops o = some t) (hf : e.find t = some (.bool (decide p)))
    (ky : p → opsA F P c ops (o :: rest) K ⟨n, (t, .bool true) :: e, H, M, L, D⟩) (kn : ¬ p → opsA F P c ops (o :: rest) K ⟨n, (t, .bool false) :: e, H, M, L, D⟩) :
    opsA F P c ops (o :: rest) K ⟨n, e, H, M, L, D⟩ := by
  intro a w hs
  have key : ∀ b : Bool, (.bool (decide p) : Value) = .bool b → EnvOk ((t, .bool b) :: e) a := fun b hb t' v h => by
    simp only [Env.find] at h
    cases hbq : Nat.beq t t' with
    | true =>
      rw [hbq] at h; simp at h; subst h
      have : t = t' := Nat.eq_of_beq_eq_true hbq
      subst this
      rw [← hb]; exact hs.env _ _ hf
    | false => rw [hbq] at h; exact hs.env _ _ h
  by_cases hp : p
  · exact ky hp a w ⟨hs.defers, hs.size, key true (by simp [hp]), hs.holds⟩
  · exact kn hp a w ⟨hs.defers, hs.size, key false (by simp [hp]), hs.holds⟩
theorem O_splitb {t : Nat} {b : Bool} (hg : gslot ops o = some t) (hf : e.find t = some (.bool b))
    (ky : b = true → opsA F P c ops (o :: rest) K ⟨n, (t, .bool true) :: e, H, M, L, D⟩) (kn : b = false → opsA F P c ops (o :: rest) K ⟨n, (t, .bool false) :: e, H, M, L, D⟩) :
    opsA F P c ops (o :: rest) K ⟨n, e, H, M, L, D⟩ := by
  have hf' : e.find t = some (.bool (decide (b = true))) := by rw [hf]; cases b <;> rfl
  exact O_split hg hf' ky fun h => kn (by simpa using h)

theorem O_ef {s : Sta} (hw : want ops o s.env = some true) (h : Ef F P c o s (opsA F P c ops rest K)) : opsA F P c ops (o :: rest) K s := by
  intro a w hs
  have hw' := wanted_of_want hs.env hw
  simp only [wpListIn]
  rw [if_pos hw']
  refine Oper.wpIn_both (fun a' w' ⟨s', hs', k⟩ => k a' w' hs') (fun e a w q => q.elim) (h a w hs)
end rules
end Go.Proofs.Ythniohgeojenaaa
