/-
  Regions that draw their order: a plan (a canonical order) serves every order.
-/
import Derived.Test.YthniohgeojenaaaA6
namespace Go.Proofs.Ythniohgeojenaaa
open Go
set_option linter.unusedVariables false
set_option linter.unusedSimpArgs false

section
variable {F : Fence} {P : Program} {ops : Array Oper} {Qn : Act → World → Prop}

/-- only normal ends -/
def Nml (Qn : Act → World → Prop) : Exit → Act → World → Prop := fun e a w => e = .normal ∧ Qn a w
/-- every order of what is left; a step by an operation outside of S leaves a world of C -/
def anyC (F : Fence) (P : Program) (ops : Array Oper) (Qn : Act → World → Prop) (S : List Nat) (C : World → Prop) : Nat → Bool → Array Bool → Act → World → Prop
  | 0, _, listed, a, w => Region.ready .any ops listed = [] ∧ Qn a w
  | m + 1, cl, listed, a, w => (Region.ready .any ops listed = [] → Qn a w) ∧
    ∀ i ∈ Region.ready .any ops listed, wpOpIn F 0 P ops (Nml Qn) i (fun a' w' => (cl = true → i ∉ S → C w') ∧ anyC F P ops Qn S C m (cl && !S.contains i) (listed.setIfInBounds i true) a' w') a w

theorem anyC.mono {S : List Nat} {C C' : World → Prop} (hc : ∀ w, C w → C' w) : ∀ {m : Nat} {cl : Bool} {listed : Array Bool} {a : Act} {w : World}, anyC F P ops Qn S C m cl listed a w → anyC F P ops Qn S C' m cl listed a w
  | 0, _, _, _, _, h => h
  | _ + 1, _, _, _, _, h => ⟨h.1, fun i hi => wpOpIn_mono (fun _ _ h' => ⟨fun hl hn => hc _ (h'.1 hl hn), anyC.mono hc h'.2⟩) (h.2 i hi)⟩
theorem anyC.out {S : List Nat} {C : World → Prop} : ∀ {m : Nat} {cl : Bool} {listed : Array Bool} {a : Act} {w : World}, anyC F P ops Qn S C m cl listed a w → wpAnyIn F 0 P .any ops (Nml Qn) m listed a w
  | 0, _, _, _, _, h => ⟨h.1, rfl, h.2⟩
  | _ + 1, _, _, _, _, h => ⟨fun hr => ⟨rfl, h.1 hr⟩, fun i hi => wpOpIn_mono (fun _ _ h' => anyC.out h'.2) (h.2 i hi)⟩

/-- its value is v in every world of the class, or it is passed over -/
def Still (P : Program) (ops : Array Oper) (C : World → Prop) (o : Oper) (v : Value) (a : Act) : Prop :=
  (Region.wanted o (yielded ops a.tmps) = true ∧ ∀ w, C w → (execOp a.eval o).run P w = .ok (.value v) w) ∨ (Region.wanted o (yielded ops a.tmps) = false ∧ v = undef)
theorem Still.of_same {C : World → Prop} {o : Oper} {v : Value} {a a' : Act} (hy : Still P ops C o v a) (he : execOp a'.eval o = execOp a.eval o)
    (hw : Region.wanted o (yielded ops a'.tmps) = Region.wanted o (yielded ops a.tmps)) : Still P ops C o v a' := by
  unfold Still at *
  rw [he, hw]
  exact hy

def Calm (ops : Array Oper) : Prop := ∀ (j : Nat) (o : Oper), ops[j]? = some o → (∀ cs b, o.op ≠ .select cs b) ∧ ∀ cl, o.op ≠ .defer cl

theorem Still.wpOpIn (hF : WideF F) (hcalm : Calm ops) {C : World → Prop} {i : Nat} {o : Oper} {v : Value} {a : Act} {Q : Exit → Act → World → Prop} (hi : ops[i]? = some o) (hy : Still P ops C o v a) {K : Act → World → Prop} {w : World} (hc : C w) (h : K (a.put o.dst v) w) :
    wpOpIn F 0 P ops Q i K a w := by
  unfold Go.wpOpIn
  simp only [hi]
  rcases hy with ⟨hw, hv⟩ | ⟨hw, rfl⟩
  · simp only [hw, if_true, Oper.wpIn, Oper.semAt_eq _ _ _ (hcalm i o hi).2, hv w hc, Oper.uponIn]; exact ⟨fun f _ => hF.fn f, h⟩
  · simp only [hw, Bool.false_eq_true, if_false]; exact ⟨fun f _ => hF.fn f, h⟩

theorem Act.put_with (a : Act) (ds : List Deferred) (d : Option Tmp) (v : Value) : ({ a with defers := ds } : Act).put d v = { a.put d v with defers := ds } := by cases d <;> rfl

theorem uponIn_turn {o : Oper} {a a1 : Act} {K K' : Act → World → Prop} (hd : a1.defers = a.defers) (hk : ∀ ds u w, K (({ a1 with defers := ds } : Act).put o.dst u) w → K' (({ a with defers := ds } : Act).put o.dst u) w) {r : Result Next}
    (h : o.uponIn F 0 P a1 K (Nml Qn) r) : o.uponIn F 0 P a K' (Nml Qn) r := by
  have hk0 : ∀ u w, K (a1.put o.dst u) w → K' (a.put o.dst u) w := fun u w h => hk a.defers u w (by rw [← hd]; exact h)
  cases r with
  | ok x w' =>
    cases x <;> simp only [Oper.uponIn] at h ⊢
    case value u => exact hk0 _ _ h
    case skip => exact hk0 _ _ h
    case defer d => refine hk (d :: a.defers) _ _ ?_; rw [← hd]; exact h
    case enter f args =>
      refine ⟨h.1, CallsIn.mono h.2 fun e w'' he => ?_⟩
      cases e with
      | returned u => exact hk0 _ _ he
      | panicked ch => exact absurd he.1 (by simp)
      | outgrown => obtain ⟨_, _, hx⟩ := he; exact absurd hx.1 (by simp)
    case row row args => exact ⟨h.1, RowsIn.mono h.2 fun u w'' he => hk0 _ _ he⟩
    case round l f tmps assign body =>
      refine ⟨h.1, RoundIn.mono h.2 fun e w'' he => ?_⟩
      cases e with
      | returned u => exact hk0 _ _ he
      | panicked ch => exact absurd he.1 (by simp)
      | outgrown => obtain ⟨_, _, hx⟩ := he; exact absurd hx.1 (by simp)
  | halt x w' =>
    cases x <;> simp only [Oper.uponIn] at h ⊢
    case panic u => exact absurd h.1 (by simp)

theorem wpOpIn_turn (hF : WideF F) (hcalm : Calm ops) {j : Nat} {oi oj : Oper} {v : Value} (hi : ∃ i : Nat, ops[i]? = some oi) (hj : ops[j]? = some oj) (hap : oi.apart ops oj = true) {C : World → Prop} {K : Act → World → Prop} {a : Act} {w : World}
    (hy : Still P ops C oi v a) (h : wpOpIn F 0 P ops (Nml Qn) j K (a.put oi.dst v) w) :
    wpOpIn F 0 P ops (Nml Qn) j (fun a' w' => Still P ops C oi v a' ∧ K (a'.put oi.dst v) w') a w := by
  obtain ⟨i, hi⟩ := hi
  obtain ⟨h1, h2, h3⟩ := Oper.apart_spec hap
  have hsi := (hcalm i oi hi).1
  obtain ⟨hsj, hdj⟩ := hcalm j oj hj
  have keep : ∀ ds u, Still P ops C oi v (({ a with defers := ds } : Act).put oj.dst u) := fun ds u => by
    rw [Act.put_with]
    exact (hy.of_same (a' := a.put oj.dst u) (execOp_put oi hsi a oj.dst u h3) (wanted_put oi a oj.dst u h3)).of_same rfl rfl
  have turn : ∀ ds u w, K (({ a.put oi.dst v with defers := ds } : Act).put oj.dst u) w → Still P ops C oi v (({ a with defers := ds } : Act).put oj.dst u) ∧ K ((({ a with defers := ds } : Act).put oj.dst u).put oi.dst v) w := fun ds u w hk => by
    refine ⟨keep ds u, ?_⟩
    have h5 := Act.put_comm ({ a with defers := ds } : Act) (x := oi.dst) (y := oj.dst) v u h2
    rw [← h5]
    have h6 : ({ a with defers := ds } : Act).put oi.dst v = { a.put oi.dst v with defers := ds } := by cases oi.dst <;> rfl
    rw [h6]
    exact hk
  unfold wpOpIn at *
  simp only [hj] at *
  rw [wanted_put oj a oi.dst v h1] at h
  split
  · rename_i hw
    simp only [hw, if_true] at h
    refine ⟨fun f _ => hF.fn f, ?_⟩
    have h := h.2
    rw [Oper.semAt_eq _ _ _ hdj, execOp_put oj hsj a oi.dst v h1] at h
    rw [Oper.semAt_eq _ _ _ hdj]
    exact uponIn_turn (by cases oi.dst <;> rfl) turn h
  · rename_i hw
    simp only [hw] at h
    refine ⟨fun f _ => hF.fn f, ?_⟩
    have := turn a.defers undef w (by cases hd : oi.dst <;> (rw [hd] at h; exact h.2))
    exact this

/-- what is listed waited for what is listed -/
def Closed (ops : Array Oper) (listed : Array Bool) : Prop := ∀ (k : Nat) (ok : Oper), ops[k]? = some ok → listed.getD k false = true → ∀ e ∈ ok.after, Region.binds .any e = true → listed.getD e.on false = true
theorem Closed.set {listed : Array Bool} {j : Nat} (h : Closed ops listed) (hj : j ∈ Region.ready .any ops listed) : Closed ops (listed.setIfInBounds j true) := fun k ok hk hl e he hb => by
  by_cases hjk : j = k
  · subst hjk
    obtain ⟨_, o, ho, hall⟩ := mem_ready.1 hj
    rw [hk] at ho; cases ho
    exact getD_set_true (hall e he hb)
  · rw [getD_set_ne false hjk] at hl
    exact getD_set_true (h k ok hk hl e he hb)
def waits (ops : Array Oper) : Nat → Nat → Nat → Bool
  | 0, _, _ => false
  | m + 1, i, j => match ops[j]? with
    | some oj => oj.after.any fun e => Region.binds .any e && (e.on == i || waits ops m i e.on)
    | none => true
theorem waits_sound {listed : Array Bool} (hc : Closed ops listed) {i : Nat} : ∀ (m j : Nat) (oj : Oper), waits ops m i j = true → ops[j]? = some oj → (∀ e ∈ oj.after, Region.binds .any e = true → listed.getD e.on false = true) → (∀ k, listed.getD k false = true → ∃ o, ops[k]? = some o) → listed.getD i false = true
  | 0, _, _, h, _, _, _ => by simp [waits] at h
  | m + 1, j, oj, h, hj, hall, hin => by
    simp only [waits, hj] at h
    obtain ⟨e, he, hb⟩ := Array.any_eq_true'.1 h
    simp only [Bool.and_eq_true, Bool.or_eq_true, beq_iff_eq] at hb
    have hl := hall e he hb.1
    rcases hb.2 with h1 | h1
    · rw [← h1]; exact hl
    · obtain ⟨o, ho⟩ := hin e.on hl
      exact waits_sound hc m e.on o h1 ho (hc e.on o ho hl) hin

/-- a quiet operation that may come up now is taken first -/
theorem anyC_first (hF : WideF F) (hcalm : Calm ops) {S : List Nat} {C : World → Prop} {i : Nat} {oi : Oper} {v : Value} (hi : ops[i]? = some oi)
    (hS : ∀ j ∈ S, waits ops 4 i j = true) (hiS : i ∉ S) :
    ∀ (m : Nat) (listed : Array Bool) (a : Act) (w : World), Closed ops listed → listed.size = ops.size →
      (∀ j oj, ops[j]? = some oj → j ≠ i → listed.getD j true = false → (∀ e ∈ oj.after, Region.binds .any e = true → e.on ≠ i) → oi.apart ops oj = true) →
      i ∈ Region.ready .any ops listed → Still P ops C oi v a → C w →
      anyC F P ops Qn S C m true (listed.setIfInBounds i true) (a.put oi.dst v) w → anyC F P ops Qn S C (m + 1) true listed a w := by
  have hcl' : ∀ {j : Nat}, j ∉ S → (true && !S.contains j) = true := fun h => by simp [h]
  intro m
  induction m with
  | zero =>
    intro listed a w _ _ _ hr hy hc H
    refine ⟨fun h => (by rw [h] at hr; cases hr), fun j hj => ?_⟩
    by_cases hji : j = i
    · subst hji; exact hy.wpOpIn hF hcalm hi hc ⟨fun _ _ => hc, by rw [hcl' hiS]; exact H⟩
    · have := ready_mono hj hji
      rw [H.1] at this
      cases this
  | succ m ih =>
    intro listed a w hcl hsz hfree hr hy hc H
    refine ⟨fun h => (by rw [h] at hr; cases hr), fun j hj => ?_⟩
    by_cases hji : j = i
    · subst hji; exact hy.wpOpIn hF hcalm hi hc ⟨fun _ _ => hc, by rw [hcl' hiS]; exact H⟩
    · have h1 := H.2 j (ready_mono hj hji)
      obtain ⟨hjun, oj, hoj, hall⟩ := mem_ready.1 hj
      have hnot : ∀ e ∈ oj.after, Region.binds .any e = true → e.on ≠ i := fun e he hb heq => by
        have h1 := hall e he hb
        have h0 := (mem_ready.1 hr).1
        rw [heq] at h1
        rcases Nat.lt_or_ge i listed.size with h' | h'
        · simp [h'] at h0 h1; rw [h0] at h1; cases h1
        · simp [Array.getElem?_eq_none h'] at h1
      have hjS : j ∉ S := fun hjS => by
        have hiu := (mem_ready.1 hr).1
        have hil : i < listed.size := by rw [hsz]; exact (Array.getElem?_eq_some_iff.1 hi).1
        have := waits_sound hcl 4 j oj (hS j hjS) hoj hall fun k hk => by
          have hks : k < listed.size := by
            rcases Nat.lt_or_ge k listed.size with h' | h'
            · exact h'
            · simp [Array.getElem?_eq_none h'] at hk
          rw [hsz] at hks
          exact ⟨ops[k], by simp [hks]⟩
        simp only [Array.getD_eq_getD_getElem?, Array.getElem?_eq_getElem hil, Option.getD_some] at hiu this
        rw [hiu] at this; cases this
      have h2 := wpOpIn_turn hF hcalm ⟨i, hi⟩ hoj (hfree j oj hoj hji hjun hnot) hy h1
      have hfree' : ∀ k ok, ops[k]? = some ok → k ≠ i → (listed.setIfInBounds j true).getD k true = false →
          (∀ e ∈ ok.after, Region.binds .any e = true → e.on ≠ i) → oi.apart ops ok = true := fun k ok hk hki hun hno => by
        refine hfree k ok hk hki ?_ hno
        by_cases hjk : j = k
        · subst hjk; exact hjun
        · rw [getD_set_ne true hjk] at hun; exact hun
      refine wpOpIn_mono (fun a' w' h3 => ?_) h2
      obtain ⟨hst, hcw, hrest⟩ := h3
      rw [hcl' hjS] at hrest ⊢
      refine ⟨fun _ _ => hcw rfl hjS, ih (listed.setIfInBounds j true) a' w' (hcl.set hj) (by simpa using hsz) hfree' (ready_mono hr (Ne.symm hji)) hst (hcw rfl hjS) ?_⟩
      rw [Array.setIfInBounds_comm _ _ hji]
      exact hrest
/-- .. that looks at no memory -/
theorem anyC_pure (hF : WideF F) (hcalm : Calm ops) {S : List Nat} {C : World → Prop} {i : Nat} {oi : Oper} {v : Value} (hi : ops[i]? = some oi) (hiS : i ∉ S) :
    ∀ (m : Nat) (cl : Bool) (listed : Array Bool) (a : Act) (w : World), Closed ops listed → listed.size = ops.size →
      (∀ j oj, ops[j]? = some oj → j ≠ i → listed.getD j true = false → (∀ e ∈ oj.after, Region.binds .any e = true → e.on ≠ i) → oi.apart ops oj = true) →
      i ∈ Region.ready .any ops listed → Still P ops (fun _ => True) oi v a → (cl = true → C w) →
      anyC F P ops Qn S C m cl (listed.setIfInBounds i true) (a.put oi.dst v) w → anyC F P ops Qn S C (m + 1) cl listed a w := by
  have hcl' : ∀ {cl : Bool}, (cl && !S.contains i) = cl := fun {cl} => by simp [hiS]
  intro m
  induction m with
  | zero =>
    intro cl listed a w _ _ _ hr hy hc H
    refine ⟨fun h => (by rw [h] at hr; cases hr), fun j hj => ?_⟩
    by_cases hji : j = i
    · subst hji; exact hy.wpOpIn hF hcalm hi trivial ⟨fun hl _ => hc hl, by rw [hcl']; exact H⟩
    · have := ready_mono hj hji
      rw [H.1] at this
      cases this
  | succ m ih =>
    intro cl listed a w hcl hsz hfree hr hy hc H
    refine ⟨fun h => (by rw [h] at hr; cases hr), fun j hj => ?_⟩
    by_cases hji : j = i
    · subst hji; exact hy.wpOpIn hF hcalm hi trivial ⟨fun hl _ => hc hl, by rw [hcl']; exact H⟩
    · have h1 := H.2 j (ready_mono hj hji)
      obtain ⟨hjun, oj, hoj, hall⟩ := mem_ready.1 hj
      have hnot : ∀ e ∈ oj.after, Region.binds .any e = true → e.on ≠ i := fun e he hb heq => by
        have h1 := hall e he hb
        have h0 := (mem_ready.1 hr).1
        rw [heq] at h1
        rcases Nat.lt_or_ge i listed.size with h' | h'
        · simp [h'] at h0 h1; rw [h0] at h1; cases h1
        · simp [Array.getElem?_eq_none h'] at h1
      have h2 := wpOpIn_turn hF hcalm ⟨i, hi⟩ hoj (hfree j oj hoj hji hjun hnot) hy h1
      have hfree' : ∀ k ok, ops[k]? = some ok → k ≠ i → (listed.setIfInBounds j true).getD k true = false →
          (∀ e ∈ ok.after, Region.binds .any e = true → e.on ≠ i) → oi.apart ops ok = true := fun k ok hk hki hun hno => by
        refine hfree k ok hk hki ?_ hno
        by_cases hjk : j = k
        · subst hjk; exact hjun
        · rw [getD_set_ne true hjk] at hun; exact hun
      refine wpOpIn_mono (fun a' w' h3 => ?_) h2
      obtain ⟨hst, hcw, hrest⟩ := h3
      refine ⟨hcw, ih (cl && !S.contains j) (listed.setIfInBounds j true) a' w' (hcl.set hj) (by simpa using hsz) hfree' (ready_mono hr (Ne.symm hji)) hst (fun hl => ?_) ?_⟩
      · simp only [Bool.and_eq_true, Bool.not_eq_true'] at hl
        exact hcw hl.1 (by simpa using hl.2)
      · rw [Array.setIfInBounds_comm _ _ hji]
        exact hrest
end

/-! ### the plan -/
inductive Plan where
  | done (l : List Nat)
  | q (i : Nat) (t : Plan)
  | e (i : Nat) (t : Plan)
  | f (i : Nat) (t : Plan) (j : Nat) (u : Plan)
  | r (t : Plan)
  | p (i : Nat) (t : Plan)

def Plan.len : Plan → Nat
  | .done l => l.length
  | .q _ t => t.len + 1
  | .e _ t => t.len + 1
  | .f _ t _ _ => t.len + 1
  | .r t => t.len
  | .p _ t => t.len + 1

def seqOk (ops : Array Oper) (S : List Nat) : List Nat → Array Bool → Bool
  | [], listed => (Region.ready .any ops listed).isEmpty
  | i :: l, listed => S.contains i && (Region.ready .any ops listed == [i]) && seqOk ops S l (listed.setIfInBounds i true)
def Plan.ok (ops : Array Oper) (S : List Nat) : Plan → Array Bool → Bool
  | .done l, listed => seqOk ops S l listed
  | .p i t, listed => !S.contains i && (Region.ready .any ops listed).contains i && Region.free .any ops listed i && t.ok ops S (listed.setIfInBounds i true)
  | .q i t, listed => !S.contains i && (Region.ready .any ops listed).contains i && Region.free .any ops listed i && (S.all fun j => waits ops 4 i j) && t.ok ops S (listed.setIfInBounds i true)
  | .e i t, listed => !S.contains i && (Region.ready .any ops listed == [i]) && t.ok ops S (listed.setIfInBounds i true)
  | .f i t j u, listed => !S.contains i && !S.contains j && (Region.ready .any ops listed == [i, j]) && t.len == u.len && t.ok ops S (listed.setIfInBounds i true) && u.ok ops S (listed.setIfInBounds j true)
  | .r t, listed => ((List.range ops.size).all fun j => listed.getD j true || S.contains j) && t.ok ops [] listed
def calmB (ops : Array Oper) : Bool := ops.all fun o => match o.op with
  | .select _ _ => false
  | .defer _ => false
  | _ => true
theorem calm_of {ops : Array Oper} (h : calmB ops = true) : Calm ops := fun j o hj => by
  have := Array.all_eq_true_iff_forall_mem.1 h o (Array.mem_of_getElem? hj)
  constructor
  · intro cs b hh; simp [hh] at this
  · intro cl hh; simp [hh] at this

/-- the class of worlds at a state -/
def Cls (s : Sta) : World → Prop := fun w => Mem s.H w ∧ Own.ok s.L w
def Grow (s s' : Sta) : Prop := HLe s.H s'.H ∧ s'.L = s.L
theorem Grow.refl (s : Sta) : Grow s s := ⟨HLe.refl _, rfl⟩
theorem Grow.cls {c : Ctx} {s s' : Sta} {a : Act} {w : World} (h : Grow s s') (hs : s'.ok c a w) : Cls s w :=
  ⟨fun b o v hv => hs.holds.mem b o v (h.1 b o v hv), fun r hr => hs.holds.own r (List.mem_append_right _ (by rw [h.2]; exact hr))⟩
theorem Cls.self {c : Ctx} {s : Sta} {a : Act} {w : World} (hs : s.ok c a w) : Cls s w := (Grow.refl s).cls hs
def picks (ops : List Oper) : List Nat → List Oper
  | [] => []
  | i :: l => match opget ops i with
    | some o => o :: picks ops l
    | none => []
def drQ (P : Program) (c : Ctx) (ops : List Oper) (o : Oper) (s : Sta) (K : SP) : Prop := ∀ a w, s.ok c a w → ∃ v s', Still P ops.toArray (Cls s) o v a ∧ s'.ok c (a.put o.dst v) w ∧ Grow s s' ∧ K s'
def drP (P : Program) (c : Ctx) (ops : List Oper) (o : Oper) (s : Sta) (K : SP) : Prop := ∀ a w, s.ok c a w → ∃ v s', Still P ops.toArray (fun _ => True) o v a ∧ s'.ok c (a.put o.dst v) w ∧ Grow s s' ∧ K s'
def drE (F : Fence) (P : Program) (c : Ctx) (ops : List Oper) (o : Oper) (s : Sta) (K : SP) : Prop :=
  ∀ a w, s.ok c a w → if Region.wanted o (yielded ops.toArray a.tmps) = true then o.wpIn F 0 P a w (fun a' w' => ∃ s', s'.ok c a' w' ∧ Grow s s' ∧ K s') (fun _ _ _ => False)
    else ∃ s', s'.ok c (a.put o.dst undef) w ∧ Grow s s' ∧ K s'
def stepJ (F : Fence) (P : Program) (c : Ctx) (ops : List Oper) (i : Nat) (s : Sta) (K : SP) : Prop := ∃ o, opget ops i = some o ∧ drE F P c ops o s K

/-- the walk of a plan -/
def drJ (F : Fence) (P : Program) (c : Ctx) (ops : List Oper) (K : SP) (Lh L0 : Own) : Plan → SP
  | .done l, s => s.L = Lh ++ L0 ∧ opsA F P c ops (picks ops l) K ⟨s.n, s.env, s.H, s.M ++ Lh, L0, s.D⟩
  | .q i t, s => ∃ o, opget ops i = some o ∧ drQ P c ops o s (drJ F P c ops K Lh L0 t)
  | .e i t, s => stepJ F P c ops i s (drJ F P c ops K Lh L0 t)
  | .f i t j u, s => (stepJ F P c ops i s (drJ F P c ops K Lh L0 t)) ∧ (stepJ F P c ops j s (drJ F P c ops K Lh L0 u))
  | .p i t, s => ∃ o, opget ops i = some o ∧ drP P c ops o s (drJ F P c ops K Lh L0 t)
  | .r t, s => s.L = Lh ++ L0 ∧ drJ F P c ops K [] L0 t ⟨s.n, s.env, s.H, s.M ++ Lh, L0, s.D⟩

section
variable {F : Fence} {P : Program} {c : Ctx} {ops : List Oper} {K : SP} {X : List (Nat × SP)} {R : SP} {S : List Nat} {Lh L0 : Own}

theorem wpOpIn_of {i : Nat} {o : Oper} {Q : Exit → Act → World → Prop} {Kx : Act → World → Prop} {a : Act} {w : World} (hF : WideF F) (ho : opget ops i = some o)
    (h : if Region.wanted o (yielded ops.toArray a.tmps) = true then o.wpIn F 0 P a w Kx Q else Kx (a.put o.dst undef) w) : wpOpIn F 0 P ops.toArray Q i Kx a w := by
  rw [opget_eq] at ho
  unfold wpOpIn
  simp only [List.getElem?_toArray, ho]
  split
  · rename_i hw; simpa [hw] using h
  · rename_i hw; exact ⟨fun f _ => hF.fn f, by simpa [hw] using h⟩

theorem seq_sound (hF : WideF F) {C : World → Prop} : ∀ (l : List Nat) (cl : Bool) (listed : Array Bool) (a : Act) (w : World), seqOk ops.toArray S l listed = true →
    wpListIn F 0 P ops.toArray (contQ c K [] fun _ => False) (picks ops l) a w → anyC F P ops.toArray (fun a w => ∃ s, s.ok c a w ∧ K s) S C l.length cl listed a w := by
  intro l
  induction l with
  | nil => intro cl listed a w hok h; exact ⟨by simpa [seqOk] using hok, h⟩
  | cons i l ih =>
    intro cl listed a w hok h
    simp only [seqOk, Bool.and_eq_true] at hok
    obtain ⟨⟨hS, hr⟩, hok⟩ := hok
    have hr' := eq_of_beq hr
    refine ⟨fun h0 => (by rw [hr'] at h0; cases h0), fun j hj => ?_⟩
    have hj' := hj
    rw [hr'] at hj
    simp at hj
    subst hj
    obtain ⟨_, o, ho, _⟩ := mem_ready.1 hj'
    have ho' : opget ops j = some o := by rw [opget_eq]; simpa using ho
    refine wpOpIn_of hF ho' ?_
    simp only [picks, ho', wpListIn] at h
    have hnS : ∀ {w' : World}, cl = true → j ∉ S → C w' := fun _ hn => absurd (by simpa using hS) hn
    split
    · rename_i hw
      rw [if_pos hw] at h
      refine Oper.wpIn_both (fun a' w' hk => ⟨hnS, ih _ _ _ _ hok hk⟩) (fun e a w q => ?_) h
      cases e with
      | normal => exact ⟨rfl, q⟩
      | exit id => obtain ⟨s, hs, K', hx, _⟩ := q; simp [xfind] at hx
      | ret => obtain ⟨s, hs, hx⟩ := q; exact hx.elim
      | goto l => exact q.elim
      | panic ch => exact q.elim
      | outgrown => exact q.elim
    · rename_i hw
      rw [if_neg hw] at h
      exact ⟨hnS, ih _ _ _ _ hok h.2⟩

theorem anyC.rel {Qn : Act → World → Prop} {S S' : List Nat} {C C' : World → Prop} : ∀ (m : Nat) (cl cl' : Bool) (listed : Array Bool) (a : Act) (w : World), (∀ i, i < ops.toArray.size → listed.getD i true = true ∨ i ∈ S) →
    anyC F P ops.toArray Qn S' C' m cl' listed a w → anyC F P ops.toArray Qn S C m cl listed a w
  | 0, _, _, _, _, _, _, h => h
  | m + 1, cl, cl', listed, a, w, hall, h => ⟨h.1, fun i hi => wpOpIn_mono (fun a' w' h' => ⟨fun _ hn => (by
      obtain ⟨hu, o, ho, _⟩ := mem_ready.1 hi
      rcases hall i (Array.getElem?_eq_some_iff.1 ho).1 with h1 | h1
      · rw [h1] at hu; cases hu
      · exact absurd h1 hn), anyC.rel m _ _ (listed.setIfInBounds i true) a' w' (fun j hj => by
        by_cases hij : i = j
        · subst hij
          left
          simp [Array.getD_eq_getD_getElem?, Array.getElem?_setIfInBounds]
          split <;> simp
        · rw [getD_set_ne true hij]; exact hall j hj) h'.2⟩) (h.2 i hi)⟩
theorem Grow.cls_mono {s s' : Sta} (h : Grow s s') : ∀ w, Cls s' w → Cls s w := fun w hw => ⟨fun b o v hv => hw.1 b o v (h.1 b o v hv), by rw [← h.2]; exact hw.2⟩

theorem drJ_sound (hF : WideF F) (hcalm : Calm ops.toArray) : ∀ (p : Plan) (S : List Nat) (Lh : Own) (s : Sta) (listed : Array Bool) (a : Act) (w : World), Closed ops.toArray listed → listed.size = ops.toArray.size → p.ok ops.toArray S listed = true → s.ok c a w → drJ F P c ops K Lh L0 p s →
    anyC F P ops.toArray (fun a w => ∃ s, s.ok c a w ∧ K s) S (Cls s) p.len true listed a w := by
  have one : ∀ {S : List Nat} {Lh : Own} {i : Nat} {t : Plan} {s : Sta} {a : Act} {w : World} {listed : Array Bool}, ¬ i ∈ S → s.ok c a w →
      (∀ (s : Sta) (a : Act) (w : World), s.ok c a w → drJ F P c ops K Lh L0 t s → anyC F P ops.toArray (fun a w => ∃ s, s.ok c a w ∧ K s) S (Cls s) t.len true (listed.setIfInBounds i true) a w) →
      stepJ F P c ops i s (drJ F P c ops K Lh L0 t) →
      wpOpIn F 0 P ops.toArray (Nml fun a w => ∃ s, s.ok c a w ∧ K s) i (fun a' w' => (true = true → i ∉ S → Cls s w') ∧ anyC F P ops.toArray (fun a w => ∃ s, s.ok c a w ∧ K s) S (Cls s) t.len (true && !S.contains i) (listed.setIfInBounds i true) a' w') a w := by
    intro S Lh i t s a w listed hnS hs ih ⟨o, ho, h⟩
    have h1 := h a w hs
    have hk : ∀ a' w', (∃ s', s'.ok c a' w' ∧ Grow s s' ∧ drJ F P c ops K Lh L0 t s') → (true = true → i ∉ S → Cls s w') ∧ anyC F P ops.toArray (fun a w => ∃ s, s.ok c a w ∧ K s) S (Cls s) t.len (true && !S.contains i) (listed.setIfInBounds i true) a' w' :=
      fun a' w' ⟨s', hs', hg, hj⟩ => ⟨fun _ _ => hg.cls hs', by rw [show (true && !S.contains i) = true by simp [hnS]]; exact anyC.mono hg.cls_mono (ih s' a' w' hs' hj)⟩
    refine wpOpIn_of hF ho ?_
    split
    · rename_i hw
      rw [if_pos hw] at h1
      exact Oper.wpIn_both hk (fun e a w q => q.elim) h1
    · rename_i hw
      rw [if_neg hw] at h1
      exact hk _ _ h1
  intro p
  induction p with
  | done l =>
    intro S Lh s listed a w hcl hsz hok hs ⟨hL, h⟩
    refine seq_sound hF l true listed a w hok (h a w ⟨hs.defers, hs.size, hs.env, ?_⟩)
    have := hs.holds
    rw [hL] at this
    simpa [List.append_assoc] using this
  | q i t ih =>
    intro S Lh s listed a w hcl hsz hok hs ⟨o, ho, h⟩
    simp only [Plan.ok, Bool.and_eq_true] at hok
    obtain ⟨⟨⟨⟨hiS, hr⟩, hf⟩, hw⟩, hok⟩ := hok
    obtain ⟨v, s', hst, hs', hg, hj⟩ := h a w hs
    have hoi : ops.toArray[i]? = some o := by rw [opget_eq] at ho; simpa using ho
    exact anyC_first hF hcalm hoi (fun j hj => List.all_eq_true.1 hw j hj) (by simpa using hiS) t.len listed a w hcl hsz (Region.free_spec hoi hf) (by simpa using hr) hst (Cls.self hs) (anyC.mono hg.cls_mono (ih S Lh s' _ _ w (hcl.set (by simpa using hr)) (by simpa using hsz) hok hs' hj))
  | e i t ih =>
    intro S Lh s listed a w hcl hsz hok hs h
    simp only [Plan.ok, Bool.and_eq_true] at hok
    obtain ⟨⟨hS, hr⟩, hok⟩ := hok
    have hr' := eq_of_beq hr
    refine ⟨fun h0 => (by rw [hr'] at h0; cases h0), fun j hj => ?_⟩
    have hcl' := hcl.set hj
    rw [hr'] at hj
    simp at hj
    subst hj
    exact one (by simpa using hS) hs (fun s a w hs hj => ih S Lh s _ a w hcl' (by simpa using hsz) hok hs hj) h
  | f i t j u ih1 ih2 =>
    intro S Lh s listed a w hcl hsz hok hs ⟨h1, h2⟩
    simp only [Plan.ok, Bool.and_eq_true] at hok
    obtain ⟨⟨⟨⟨⟨hS1, hS2⟩, hr⟩, hlen⟩, hok1⟩, hok2⟩ := hok
    have hr' := eq_of_beq hr
    have hlen' := eq_of_beq hlen
    refine ⟨fun h0 => (by rw [hr'] at h0; cases h0), fun k hk => ?_⟩
    have hcl' := hcl.set hk
    rw [hr'] at hk
    simp at hk
    rcases hk with rfl | rfl
    · exact one (by simpa using hS1) hs (fun s a w hs hj => ih1 S Lh s _ a w hcl' (by simpa using hsz) hok1 hs hj) h1
    · have := one (listed := listed) (by simpa using hS2) hs (fun s a w hs hj => ih2 S Lh s _ a w hcl' (by simpa using hsz) hok2 hs hj) h2
      show wpOpIn F 0 P ops.toArray _ k (fun a' w' => _ ∧ anyC F P ops.toArray _ S (Cls s) t.len _ _ a' w') a w
      rw [hlen']
      exact this
  | p i t ih =>
    intro S Lh s listed a w hcl hsz hok hs ⟨o, ho, h⟩
    simp only [Plan.ok, Bool.and_eq_true] at hok
    obtain ⟨⟨⟨hiS, hr⟩, hf⟩, hok⟩ := hok
    obtain ⟨v, s', hst, hs', hg, hj⟩ := h a w hs
    have hoi : ops.toArray[i]? = some o := by rw [opget_eq] at ho; simpa using ho
    exact anyC_pure hF hcalm hoi (by simpa using hiS) t.len true listed a w hcl hsz (Region.free_spec hoi hf) (by simpa using hr) hst (fun _ => Cls.self hs) (anyC.mono hg.cls_mono (ih S Lh s' _ _ w (hcl.set (by simpa using hr)) (by simpa using hsz) hok hs' hj))
  | r t ih =>
    intro S Lh s listed a w hcl hsz hok hs ⟨hL, h⟩
    simp only [Plan.ok, Bool.and_eq_true] at hok
    refine anyC.rel t.len _ true listed a w (fun i hi => ?_) (ih [] [] ⟨s.n, s.env, s.H, s.M ++ Lh, L0, s.D⟩ listed a w hcl hsz hok.2 ⟨hs.defers, hs.size, hs.env, ?_⟩ h)
    · have := List.all_eq_true.1 hok.1 i (by simpa using hi)
      simpa using this
    · have := hs.holds
      rw [hL] at this
      simpa [List.append_assoc] using this

class MixC (P : Program) : Type where
  mixed : P.follows .mixedOrders = true
def Plan.all (ops : Array Oper) (S : List Nat) (p : Plan) : Bool := calmB ops && (p.len == ops.size) && p.ok ops S (Array.replicate ops.size false)
/-- the state at the head of the walk: the owned blocks that are held stand in L -/
theorem A_draw (hF : WideF F) [hm : MixC P] {id : Nat} {s : Sta} (p : Plan) (S : List Nat) (hp : p.all ops.toArray S = true) {M' : Own} (hr : Own.sub (M' ++ (Lh ++ s.L)) (s.M ++ s.L)) (h : drJ F P c ops K Lh s.L p ⟨s.n, s.env, s.H, M', Lh ++ s.L, s.D⟩) :
    wpA F P c (.region id ops.toArray true) K X R s := fun a w hs => by
  simp only [Plan.all, Bool.and_eq_true] at hp
  obtain ⟨⟨hc, hl⟩, hok⟩ := hp
  have hs' : Sta.ok c ⟨s.n, s.env, s.H, M', Lh ++ s.L, s.D⟩ a w.drew := ⟨hs.defers, hs.size, hs.env, (hs.holds.sub hr).drew⟩
  have h1 := anyC.out (drJ_sound hF (calm_of hc) p _ _ _ _ a w.drew (fun k ok _ hl => (by
    exfalso
    simp only [Array.getD_eq_getD_getElem?, Array.getElem?_replicate] at hl
    split at hl <;> simp at hl)) (by simp) hok hs' h)
  rw [eq_of_beq hl] at h1
  refine wpIn_mono (wpIn_region_any hm.mixed h1) ?_
  rintro e a w ⟨rfl, s, hs, hk⟩
  exact ⟨s, hs, hk⟩
def Own.rget : Own → Nat → Res
  | [], _ => .box 0 []
  | r :: _, 0 => r
  | _ :: l, n + 1 => Own.rget l n
theorem Own.rget_eq (R : Own) (n : Nat) : R.rget n = R.getD n (.box 0 []) := by
  induction R generalizing n with
  | nil => simp [Own.rget]
  | cons r l ih => cases n with
    | zero => simp [Own.rget]
    | succ n => simp [Own.rget, ih]
def Own.picks (R : Own) : List Nat → Own
  | [] => []
  | i :: l => R.rget i :: Own.picks R l
theorem Own.picks_eq (R : Own) (l : List Nat) : R.picks l = l.map fun i => R.getD i (.box 0 []) := by
  induction l with
  | nil => rfl
  | cons i l ih => simp [Own.picks, ih, Own.rget_eq]
theorem Own.sub_app {A M : Own} (L : Own) (h : Own.sub A M) : Own.sub (A ++ L) (M ++ L) := by
  obtain ⟨idx, hn, hlt, rfl⟩ := h
  refine ⟨idx ++ (List.range L.length).map (· + M.length), ?_, ?_, ?_⟩
  · rw [List.nodup_append]
    refine ⟨hn, List.Pairwise.map _ (fun a b h => by omega) (List.nodup_range (n := L.length)), fun a ha b hb => ?_⟩
    obtain ⟨j, hj, rfl⟩ := List.mem_map.1 hb
    have := hlt a ha
    omega
  · intro i hi
    rcases List.mem_append.1 hi with h | h
    · have := hlt i h; simp; omega
    · obtain ⟨j, hj, rfl⟩ := List.mem_map.1 h
      have := List.mem_range.1 hj
      simp; omega
  · rw [List.map_append, List.map_map]
    congr 1
    · apply List.map_congr_left
      intro i hi
      have := hlt i hi
      simp [List.getD, List.getElem?_append_left this]
    · apply List.ext_getElem?
      intro i
      by_cases hi : i < L.length
      · simp [hi, List.getD, List.getElem?_append_right]
      · simp [hi, List.getElem?_eq_none (Nat.le_of_not_lt hi)]
/-- .. which of the owned blocks stay at hand (mi), which are held (li) -/
theorem A_drawi (hF : WideF F) [hm : MixC P] {id n : Nat} {e : Env} {H : Hp} {M L : Own} {D : List Deferred} (p : Plan) (S : List Nat) (mi li : List Nat) (hp : p.all ops.toArray S = true) (h1 : (mi ++ li).Nodup) (h2 : ((mi ++ li).all fun i => Nat.blt i M.length) = true)
    (h : drJ F P c ops K (M.picks li) L p ⟨n, e, H, M.picks mi, M.picks li ++ L, D⟩) : wpA F P c (.region id ops.toArray true) K X R ⟨n, e, H, M, L, D⟩ :=
  A_draw (s := ⟨n, e, H, M, L, D⟩) hF p S hp (by
    rw [← List.append_assoc]
    refine Own.sub_app L (Own.subi (mi ++ li) h1 h2 ?_)
    rw [List.map_append, Own.picks_eq, Own.picks_eq]) h

/-! the rules of the walk -/
variable {i j d n : Nat} {t u : Plan} {s : Sta} {o : Oper} {e : Env} {H : Hp} {M L : Own} {D : List Deferred} {v : Value}
theorem D_done {l : List Nat} (h : opsA F P c ops (picks ops l) K ⟨n, e, H, M ++ Lh, L0, D⟩) : drJ F P c ops K Lh L0 (.done l) ⟨n, e, H, M, Lh ++ L0, D⟩ := ⟨rfl, h⟩
theorem D_r (h : drJ F P c ops K [] L0 t ⟨n, e, H, M ++ Lh, L0, D⟩) : drJ F P c ops K Lh L0 (.r t) ⟨n, e, H, M, Lh ++ L0, D⟩ := ⟨rfl, h⟩
theorem D_p (ho : opget ops i = some o) (h : drP P c ops o s (drJ F P c ops K Lh L0 t)) : drJ F P c ops K Lh L0 (.p i t) s := ⟨o, ho, h⟩
theorem D_pv (hw : want ops o e = some true) (h : Ev P o e (fun _ _ => none) [] v) (hd : o.dst = some d) (hn : Nat.blt d n = true) (k : K ⟨n, (d, v) :: e, H, M, L, D⟩) : drP P c ops o ⟨n, e, H, M, L, D⟩ K := fun a w hs => by
  have hlt : d < a.tmps.size := by rw [hs.size]; exact Nat.le_of_ble_eq_true hn
  exact ⟨v, ⟨n, (d, v) :: e, H, M, L, D⟩, .inl ⟨wanted_of_want hs.env hw, fun w' _ => h a w' hs.env (fun _ _ _ hh => by cases hh) (fun _ hr => by cases hr)⟩, by rw [hd]; exact ⟨hs.defers, by simpa [Act.put] using hs.size, hs.env.put hlt, hs.holds⟩, ⟨HLe.refl _, rfl⟩, k⟩
theorem D_q (ho : opget ops i = some o) (h : drQ P c ops o s (drJ F P c ops K Lh L0 t)) : drJ F P c ops K Lh L0 (.q i t) s := ⟨o, ho, h⟩
theorem D_e (ho : opget ops i = some o) (h : drE F P c ops o s (drJ F P c ops K Lh L0 t)) : drJ F P c ops K Lh L0 (.e i t) s := ⟨o, ho, h⟩
theorem D_f {o' : Oper} (ho : opget ops i = some o) (ho' : opget ops j = some o') (h : drE F P c ops o s (drJ F P c ops K Lh L0 t)) (h' : drE F P c ops o' s (drJ F P c ops K Lh L0 u)) : drJ F P c ops K Lh L0 (.f i t j u) s := ⟨⟨o, ho, h⟩, o', ho', h'⟩
theorem D_ev (hw : want ops o e = some true) (h : Ev P o e H L v) (hd : o.dst = some d) (hn : Nat.blt d n = true) (k : K ⟨n, (d, v) :: e, H, M, L, D⟩) : drQ P c ops o ⟨n, e, H, M, L, D⟩ K := fun a w hs => by
  have hlt : d < a.tmps.size := by rw [hs.size]; exact Nat.le_of_ble_eq_true hn
  exact ⟨v, ⟨n, (d, v) :: e, H, M, L, D⟩, .inl ⟨wanted_of_want hs.env hw, fun w' hw' => h a w' hs.env hw'.1 hw'.2⟩, by rw [hd]; exact ⟨hs.defers, by simpa [Act.put] using hs.size, hs.env.put hlt, hs.holds⟩, ⟨HLe.refl _, rfl⟩, k⟩
theorem D_skip (hw : want ops o e = some false) (hd : o.dst = some d) (hn : Nat.blt d n = true) (k : K ⟨n, (d, undef) :: e, H, M, L, D⟩) : drQ P c ops o ⟨n, e, H, M, L, D⟩ K := fun a w hs => by
  have hlt : d < a.tmps.size := by rw [hs.size]; exact Nat.le_of_ble_eq_true hn
  exact ⟨undef, ⟨n, (d, undef) :: e, H, M, L, D⟩, .inr ⟨wanted_of_want hs.env hw, rfl⟩, by rw [hd]; exact ⟨hs.defers, by simpa [Act.put] using hs.size, hs.env.put hlt, hs.holds⟩, ⟨HLe.refl _, rfl⟩, k⟩
theorem ok_split {p : Prop} [Decidable p] {t : Nat} {b : Bool} (hf : e.find t = some (.bool (decide p))) (hb : decide p = b) {a : Act} {w : World} (hs : Sta.ok c ⟨n, e, H, M, L, D⟩ a w) : Sta.ok c ⟨n, (t, .bool b) :: e, H, M, L, D⟩ a w :=
  ⟨hs.defers, hs.size, fun t' v h => by
    simp only [Env.find] at h
    cases hbq : Nat.beq t t' with
    | true =>
      rw [hbq] at h; simp at h; subst h
      have : t = t' := Nat.eq_of_beq_eq_true hbq
      subst this
      rw [← hb]; exact hs.env _ _ hf
    | false => rw [hbq] at h; exact hs.env _ _ h, hs.holds⟩
theorem D_split {p : Prop} [Decidable p] {t : Nat} (hg : gslot ops o = some t) (hf : e.find t = some (.bool (decide p)))
    (ky : p → drQ P c ops o ⟨n, (t, .bool true) :: e, H, M, L, D⟩ K) (kn : ¬ p → drQ P c ops o ⟨n, (t, .bool false) :: e, H, M, L, D⟩ K) : drQ P c ops o ⟨n, e, H, M, L, D⟩ K := fun a w hs => by
  by_cases hp : p
  · exact ky hp a w (ok_split hf (by simp [hp]) hs)
  · exact kn hp a w (ok_split hf (by simp [hp]) hs)
theorem E_split {p : Prop} [Decidable p] {t : Nat} (hg : gslot ops o = some t) (hf : e.find t = some (.bool (decide p)))
    (ky : p → drE F P c ops o ⟨n, (t, .bool true) :: e, H, M, L, D⟩ K) (kn : ¬ p → drE F P c ops o ⟨n, (t, .bool false) :: e, H, M, L, D⟩ K) : drE F P c ops o ⟨n, e, H, M, L, D⟩ K := fun a w hs => by
  by_cases hp : p
  · exact ky hp a w (ok_split hf (by simp [hp]) hs)
  · exact kn hp a w (ok_split hf (by simp [hp]) hs)
theorem E_ef {s : Sta} (hw : want ops o s.env = some true) (h : Ef F P c o s fun s' => Grow s s' ∧ K s') : drE F P c ops o s K := fun a w hs => by
  rw [if_pos (wanted_of_want hs.env hw)]
  exact h a w hs
theorem E_skip (hw : want ops o e = some false) (hd : o.dst = some d) (hn : Nat.blt d n = true) (k : K ⟨n, (d, undef) :: e, H, M, L, D⟩) : drE F P c ops o ⟨n, e, H, M, L, D⟩ K := fun a w hs => by
  have hlt : d < a.tmps.size := by rw [hs.size]; exact Nat.le_of_ble_eq_true hn
  rw [if_neg (by rw [wanted_of_want hs.env hw]; simp)]
  exact ⟨⟨n, (d, undef) :: e, H, M, L, D⟩, by rw [hd]; exact ⟨hs.defers, by simpa [Act.put] using hs.size, hs.env.put hlt, hs.holds⟩, ⟨HLe.refl _, rfl⟩, k⟩
theorem Grow.same {s s' : Sta} (hH : s.H = s'.H) (hL : s.L = s'.L) : Grow s s' := ⟨by rw [hH]; exact HLe.refl _, hL.symm⟩
end
end Go.Proofs.Ythniohgeojenaaa
