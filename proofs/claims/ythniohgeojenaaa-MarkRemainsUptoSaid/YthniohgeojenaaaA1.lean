/-
  An abstract layer over the fenced wp: symbolic slots, persistent heap facts, owned blocks; no world in sight.
-/
import Derived.WalkKit
import Derived.OrdersIn
import Derived.TacticsIn
import Derived.CallsIn
namespace Go.Proofs.Ythniohgeojenaaa
open Go
set_option linter.unusedVariables false
set_option linter.unusedSimpArgs false

/-! ### slots -/
abbrev Env := List (Nat × Value)
def Env.find : Env → Nat → Option Value
  | [], _ => none
  | (k, v) :: r, t => match Nat.beq k t with | true => some v | false => Env.find r t
def Env.eval (e : Env) : Operand → Option Value
  | .tmp t => e.find t
  | .const v => some v
  | .global g => some (.pointer (some ⟨g, 0, none⟩))
  | .func f => some (.func (.func f) #[] #[])
def EnvOk (e : Env) (a : Act) : Prop := ∀ t v, e.find t = some v → a.tmps[t]? = some v

theorem EnvOk.eval {e : Env} {a : Act} (h : EnvOk e a) {x : Operand} {v : Value} (hx : e.eval x = some v) : a.eval x = v := by
  cases x with
  | tmp t => have := h t v hx; simp [Act.eval, this]
  | const u => simpa [Env.eval, Act.eval] using hx
  | global g => simpa [Env.eval, Act.eval] using hx
  | func f => simpa [Env.eval, Act.eval] using hx

theorem EnvOk.put {e : Env} {a : Act} (h : EnvOk e a) {d : Nat} {v : Value} (hd : d < a.tmps.size) : EnvOk ((d, v) :: e) (a.put (some d) v) := by
  intro t u ht
  simp only [Env.find] at ht
  cases hb : Nat.beq d t with
  | true =>
    rw [hb] at ht
    have hdt : d = t := Nat.eq_of_beq_eq_true hb
    subst hdt
    simp at ht
    subst ht
    simp [Act.put, hd]
  | false =>
    rw [hb] at ht
    have hdt : d ≠ t := Nat.ne_of_beq_eq_false hb
    have := h t u ht
    simp [Act.put, Array.getElem?_setIfInBounds_ne hdt, this]

/-! ### persistent facts and owned blocks -/
abbrev Hp := Nat → Nat → Option Value
def Mem (H : Hp) (w : World) : Prop := ∀ b o v, H b o = some v → w.cell? ⟨b, o, none⟩ = some v ∧ v.oneCell' = true

inductive Res where
  | box (b : Nat) (cs : List Value)
  | row (v : Value) (k : Nat) (css : List (List Value))
  | obj (b : Nat) (o : Obj)

def Res.blocks : Res → List Nat
  | .box b _ => [b]
  | .row (.slice (some a) _ _) _ _ => [a.block]
  | .row _ _ _ => []
  | .obj b _ => [b]

def RowOk (w : World) (v : Value) (k : Nat) (css : List (List Value)) : Prop :=
  (v = .slice none 0 0 ∧ css = []) ∨
  ∃ b cap rest T, v = .slice (some ⟨b, 0, none⟩) css.length cap ∧ (∀ cs ∈ css, cs.length = k) ∧ css.length ≤ cap ∧
    w.heap[b]? = some (.cells (css.flatten ++ rest).toArray T (0, 0)) ∧ (css.flatten ++ rest).length = cap * k

def Res.ok (w : World) : Res → Prop
  | .box b cs => ∃ T, w.heap[b]? = some (.cells cs.toArray T (0, 0))
  | .row v k css => RowOk w v k css
  | .obj b o => w.heap[b]? = some o

abbrev Own := List Res
def Own.blocks (L : Own) : List Nat := L.flatMap Res.blocks
def Own.ok (L : Own) (w : World) : Prop := ∀ r ∈ L, r.ok w

theorem Res.ok_of_block {w w' : World} {r : Res} (h : r.ok w) (hb : ∀ b ∈ r.blocks, w'.heap[b]? = w.heap[b]?) : r.ok w' := by
  cases r with
  | box b cs => obtain ⟨T, h⟩ := h; exact ⟨T, (hb b (by simp [Res.blocks])).trans h⟩
  | row v k css =>
    rcases h with h | ⟨b, cap, rest, T, hv, h1, hc, h2, h3⟩
    · exact .inl h
    · subst hv; exact .inr ⟨b, cap, rest, T, rfl, h1, hc, (hb b (by simp [Res.blocks])).trans h2, h3⟩
  | obj b o => exact (hb b (by simp [Res.blocks])).trans h

theorem Res.block_lt {w : World} {r : Res} (h : r.ok w) : ∀ b ∈ r.blocks, b < w.heap.size := by
  intro b hb
  have key : ∀ {i : Nat} {o : Obj}, w.heap[i]? = some o → i < w.heap.size := fun {i o} h => by
    rcases Nat.lt_or_ge i w.heap.size with h' | h'
    · exact h'
    · simp [Array.getElem?_eq_none h'] at h
  cases r with
  | box b' cs => simp [Res.blocks] at hb; subst hb; obtain ⟨T, h⟩ := h; exact key h
  | row v k css =>
    rcases h with ⟨hv, _⟩ | ⟨b', cap, rest, T, hv, h1, hc, h2, h3⟩
    · subst hv; simp [Res.blocks] at hb
    · subst hv; simp [Res.blocks] at hb; subst hb; exact key h2
  | obj b' o => simp [Res.blocks] at hb; subst hb; exact key h

def Res.apart (r r' : Res) : Prop := ∀ b ∈ r.blocks, b ∉ r'.blocks
theorem Res.apart_symm {r r' : Res} (h : r.apart r') : r'.apart r := fun b hb hb' => h b hb' hb
def Own.Sep (R : Own) : Prop := R.Pairwise Res.apart
theorem Own.blocks_append (A B : Own) : Own.blocks (A ++ B) = Own.blocks A ++ Own.blocks B := by simp [Own.blocks]
theorem Own.mem_blocks {R : Own} {b : Nat} : b ∈ Own.blocks R ↔ ∃ r ∈ R, b ∈ r.blocks := List.mem_flatMap
theorem Own.sep_append {A B : Own} : Own.Sep (A ++ B) ↔ Own.Sep A ∧ Own.Sep B ∧ ∀ b ∈ Own.blocks A, b ∉ Own.blocks B := by
  unfold Own.Sep
  rw [List.pairwise_append]
  constructor
  · rintro ⟨h1, h2, h3⟩
    refine ⟨h1, h2, fun b hb hb' => ?_⟩
    obtain ⟨r, hr, hbr⟩ := Own.mem_blocks.1 hb
    obtain ⟨r', hr', hbr'⟩ := Own.mem_blocks.1 hb'
    exact h3 r hr r' hr' b hbr hbr'
  · rintro ⟨h1, h2, h3⟩
    exact ⟨h1, h2, fun r hr r' hr' b hb hb' => h3 b (Own.mem_blocks.2 ⟨r, hr, hb⟩) (Own.mem_blocks.2 ⟨r', hr', hb'⟩)⟩

/-! ### the context of one activation, and what holds -/
structure Ctx where
  w0 : World
  H0 : Hp
  X : List Nat

structure Old (c : Ctx) (w : World) : Prop where
  os : w.os = c.w0.os
  tape : w.tape = c.w0.tape
  output : w.output = c.w0.output
  size : c.w0.heap.size ≤ w.heap.size
  block : ∀ k, k < c.w0.heap.size → k ∉ c.X → w.heap[k]? = c.w0.heap[k]?

structure Holds (c : Ctx) (H : Hp) (R : Own) (w : World) : Prop where
  mem : Mem H w
  own : Own.ok R w
  sep : Own.Sep R
  apart : ∀ b ∈ Own.blocks R, ∀ o, H b o = none
  fresh : ∀ b ∈ Own.blocks R, c.w0.heap.size ≤ b ∨ b ∈ c.X
  old : Old c w
  hle : ∀ b o v, c.H0 b o = some v → H b o = some v
  hnew : ∀ b o v, H b o = some v → c.H0 b o = some v ∨ c.w0.heap.size ≤ b ∨ b ∈ c.X
  thaw : ∀ b o v, H b o = some v → c.H0 b o = none → ∃ cs T, w.heap[b]? = some (.cells cs T (0, 0))

theorem Holds.lt {c : Ctx} {H : Hp} {R : Own} {w : World} (h : Holds c H R w) : ∀ b ∈ Own.blocks R, b < w.heap.size := by
  intro b hb
  obtain ⟨r, hr, hbr⟩ := List.mem_flatMap.1 hb
  exact Res.block_lt (h.own r hr) b hbr

theorem Mem.lt {H : Hp} {w : World} (h : Mem H w) {b o : Nat} {v : Value} (hb : H b o = some v) : b < w.heap.size := by
  have := (h b o v hb).1
  exact World.block_lt_of_cell? w ⟨b, o, none⟩ this

structure Sta where
  n : Nat
  env : Env
  H : Hp
  M : Own
  L : Own
  D : List Deferred

structure Sta.ok (c : Ctx) (s : Sta) (a : Act) (w : World) : Prop where
  defers : a.defers = s.D
  size : a.tmps.size = s.n
  env : EnvOk s.env a
  holds : Holds c s.H (s.M ++ s.L) w

structure WideF (F : Fence) : Prop where
  fn : ∀ f, F.fn f
  depth : F.depth = none
  alive : F.alive = false

theorem WideF.wide : WideF Fence.wide := ⟨fun _ => trivial, rfl, rfl⟩
theorem WideF.inRound {F : Fence} (h : WideF F) (l : Nat) : WideF (F.inRound l) := ⟨h.fn, h.depth, h.alive⟩
theorem WideF.room {F : Fence} (h : WideF F) (k : Nat) : F.room k := fun d hd => by rw [h.depth] at hd; cases hd
theorem WideF.fenced {F : Fence} (h : WideF F) (P : Program) (m : Machine) : m.fenced P F := by
  intro g _
  refine ⟨fun ha => ?_, .inl (h.fn _), fun f _ => h.fn f, h.room _⟩
  rw [h.alive] at ha; cases ha

theorem callsIn_of_calls {F : Fence} (hF : WideF F) {n : Nat} {P : Program} {f : FuncId} {args : Array Value} {w : World} {R : Ending → World → Prop}
    (h : Calls P f args w R) : CallsIn F n P f args w R := by
  refine ⟨hF.fn f, fun cs _ => ?_⟩
  obtain ⟨e, w', fr, r, s, x⟩ := h cs
  refine ⟨e, w', fr, r, ?_, x⟩
  have key : ∀ {m m' : Machine}, Steps P m m' → StepsIn (Machine.fenced P F) P m m' := fun hs =>
    (StepsIn.of_steps hs).mono fun m _ => hF.fenced P m
  cases e with
  | returned v => exact key s
  | panicked ch => exact key s
  | outgrown => exact s

/-! ### the judgement on code -/
abbrev SP := Sta → Prop
def xfind : List (Nat × SP) → Nat → Option SP
  | [], _ => none
  | (k, v) :: r, t => match Nat.beq k t with | true => some v | false => xfind r t

def contQ (c : Ctx) (K : SP) (X : List (Nat × SP)) (R : SP) : Exit → Act → World → Prop
  | .normal, a, w => ∃ s, s.ok c a w ∧ K s
  | .exit id, a, w => ∃ s, s.ok c a w ∧ ∃ K', xfind X id = some K' ∧ K' s
  | .ret, a, w => ∃ s, s.ok c a w ∧ R s
  | _, _, _ => False

def wpA (F : Fence) (P : Program) (c : Ctx) (code : Code) (K : SP) (X : List (Nat × SP)) (R : SP) (s : Sta) : Prop :=
  ∀ a w, s.ok c a w → code.wpIn F 0 P (contQ c K X R) a w

section rules
variable {F : Fence} {P : Program} {c : Ctx} {K : SP} {X : List (Nat × SP)} {R : SP} {s : Sta}

theorem A_skip (h : K s) : wpA F P c .skip K X R s := fun _ _ hs => wpIn_skip ⟨s, hs, h⟩
theorem A_ret (h : R s) : wpA F P c .ret K X R s := fun _ _ hs => wpIn_ret ⟨s, hs, h⟩
theorem A_exit {id : Nat} {K' : SP} (hx : xfind X id = some K') (h : K' s) : wpA F P c (.exit id) K X R s := fun _ _ hs => wpIn_exit ⟨s, hs, K', hx, h⟩
theorem A_seq {x y : Code} (h : wpA F P c x (wpA F P c y K X R) X R s) : wpA F P c (.seq x y) K X R s := fun a w hs =>
  wpIn_seq (wpIn_mono (h a w hs) fun e a' w' q => by
    cases e with
    | normal => obtain ⟨s', hs', hk⟩ := q; exact hk a' w' hs'
    | exit id => exact q
    | ret => exact q
    | goto l => exact q
    | panic ch => exact q
    | outgrown => exact q)
theorem A_block {id : Nat} {x : Code} (h : wpA F P c x K ((id, K) :: X) R s) : wpA F P c (.block id x) K X R s := fun a w hs =>
  wpIn_block (wpIn_mono (h a w hs) fun e a' w' q => by
    cases e with
    | normal => exact q
    | exit id' =>
      obtain ⟨s', hs', K', hx, hk⟩ := q
      simp only [Exit.inBlock]
      simp only [xfind] at hx
      by_cases he : id' = id
      · subst he
        simp only [Nat.beq_refl] at hx
        simp at hx; subst hx
        simp only [if_true]
        exact ⟨s', hs', hk⟩
      · have hb : Nat.beq id id' = false := by
          cases hb : Nat.beq id id' with
          | true => exact absurd (Nat.eq_of_beq_eq_true hb).symm he
          | false => rfl
        rw [hb] at hx
        simp only [he, if_false]
        exact ⟨s', hs', K', hx, hk⟩
    | ret => exact q
    | goto l => exact q
    | panic ch => exact q
    | outgrown => exact q)
theorem A_if {x : Operand} {p : Prop} [Decidable p] {y z : Code} (hx : s.env.eval x = some (.bool (decide p))) (ht : p → wpA F P c y K X R s) (hf : ¬ p → wpA F P c z K X R s) :
    wpA F P c (.cond x y z) K X R s := fun a w hs =>
  wpIn_cond_split (hs.env.eval hx) (fun h => ht (of_decide_eq_true h) a w hs) (fun h => hf (of_decide_eq_false h) a w hs)
theorem A_ifb {x : Operand} {b : Bool} {y z : Code} (hx : s.env.eval x = some (.bool b)) (ht : b = true → wpA F P c y K X R s) (hf : b = false → wpA F P c z K X R s) :
    wpA F P c (.cond x y z) K X R s := fun a w hs =>
  wpIn_cond_split (hs.env.eval hx) (fun h => ht h a w hs) (fun h => hf h a w hs)
theorem A_iftrue {x : Operand} {y z : Code} (hx : s.env.eval x = some (.bool true)) (h : wpA F P c y K X R s) : wpA F P c (.cond x y z) K X R s := fun a w hs =>
  wpIn_cond_true (hs.env.eval hx) (h a w hs)
theorem A_iffalse {x : Operand} {y z : Code} (hx : s.env.eval x = some (.bool false)) (h : wpA F P c z K X R s) : wpA F P c (.cond x y z) K X R s := fun a w hs =>
  wpIn_cond_false (hs.env.eval hx) (h a w hs)

theorem A_mono {x : Code} {K' : SP} {R' : SP} (h : wpA F P c x K X R s) (hk : ∀ s, K s → K' s) (hr : ∀ s, R s → R' s) : wpA F P c x K' X R' s := fun a w hs =>
  wpIn_mono (h a w hs) fun e a' w' q => by
    cases e with
    | normal => obtain ⟨s', hs', q⟩ := q; exact ⟨s', hs', hk _ q⟩
    | ret => obtain ⟨s', hs', q⟩ := q; exact ⟨s', hs', hr _ q⟩
    | exit id => exact q
    | goto l => exact q
    | panic ch => exact q
    | outgrown => exact q
/-- a piece of code whose ways meet again in J -/
theorem A_cut {x : Code} (J : SP) (h : wpA F P c x J X R s) (hk : ∀ s, J s → K s) : wpA F P c x K X R s := A_mono h hk fun _ h => h

/-- A loop: I n s holds at the head of a round of which at most n more follow. -/
theorem A_loop {x : Code} (I : Nat → Sta → Prop) (n : Nat) (h0 : I n s)
    (round : ∀ n s, I n s → wpA F P c x (fun s' => ∃ m, m < n ∧ I m s') X R s) : wpA F P c (.loop x) K X R s := by
  intro a w hs b k cs hro hb hr
  have key : ∀ j s a w, Sta.ok c s a w → I j s →
      ∃ e a' w', contQ c K X R e a' w' ∧ ArrivesIn (Machine.fenced P F) P (lone (b.atR a (.code x :: .inLoop x :: k)) cs w) b k cs e a' w' := by
    intro j
    induction j using Nat.strongRecOn with
    | _ j ih =>
      intro s a w hs hI
      obtain ⟨e, a₁, w₁, hq, harr⟩ := round j s hI a w hs b (.inLoop x :: k) cs hro hb hr
      cases e with
      | normal =>
        obtain ⟨s₁, hs₁, m, hm, hI₁⟩ := hq
        obtain ⟨e₂, a₂, w₂, hq₂, harr₂⟩ := ih m hm s₁ a₁ w₁ hs₁ hI₁
        exact ⟨e₂, a₂, w₂, hq₂, .of_steps (StepsIn.trans harr (.one (fenced_calm hb hr rfl) stepR_inLoop)) harr₂⟩
      | exit id => exact ⟨.exit id, a₁, w₁, hq, .pass (x := .inLoop x) rfl (fun _ _ => .inl (by simp)) harr⟩
      | goto l => exact hq.elim
      | ret => exact ⟨.ret, a₁, w₁, hq, .pass (x := .inLoop x) rfl (fun _ _ => .inl (by simp)) harr⟩
      | panic ch => exact hq.elim
      | outgrown => exact hq.elim
  obtain ⟨e, a', w', hq, harr⟩ := key n s a w hs h0
  exact ⟨e, a', w', hq, .of_steps (.one (fenced_calm hb hr rfl) stepR_loop) harr⟩

/-! ### weakening: fewer slots, fewer owned blocks -/
def Env.le : Env → Env → Prop
  | [], _ => True
  | (t, v) :: r, e => e.find t = some v ∧ Env.le r e
theorem EnvOk.le {e e' : Env} {a : Act} (h : EnvOk e a) (hl : Env.le e' e) : EnvOk e' a := by
  intro t v ht
  induction e' with
  | nil => simp [Env.find] at ht
  | cons p r ih =>
    obtain ⟨k, u⟩ := p
    simp only [Env.find] at ht
    cases hb : Nat.beq k t with
    | true =>
      rw [hb] at ht; simp at ht; subst ht
      have : k = t := Nat.eq_of_beq_eq_true hb
      subst this
      exact h _ _ hl.1
    | false => rw [hb] at ht; exact ih hl.2 ht

/-- R' is R with some of its members left out, and others put elsewhere -/
def Own.sub (R' R : Own) : Prop := ∃ idx : List Nat, idx.Nodup ∧ (∀ i ∈ idx, i < R.length) ∧ R' = idx.map (fun i => R.getD i (.box 0 []))
theorem Own.subi (idx : List Nat) {R' R : Own} (h1 : idx.Nodup) (h2 : (idx.all fun i => Nat.blt i R.length) = true) (h3 : R' = idx.map (fun i => R.getD i (.box 0 []))) : Own.sub R' R :=
  ⟨idx, h1, fun i hi => Nat.le_of_ble_eq_true (List.all_eq_true.1 h2 i hi), h3⟩
theorem Own.sub_refl (R : Own) : Own.sub R R := by
  refine ⟨List.range R.length, List.nodup_range, fun i hi => by simpa using hi, ?_⟩
  apply List.ext_getElem?
  intro i
  by_cases hi : i < R.length
  · simp [hi]
  · simp [hi, List.getElem?_eq_none (Nat.le_of_not_lt hi)]
theorem Own.sub_mem {R R' : Own} (h : Own.sub R' R) : ∀ r ∈ R', r ∈ R := by
  obtain ⟨idx, hn, hlt, rfl⟩ := h
  intro r hr
  obtain ⟨i, hi, rfl⟩ := List.mem_map.1 hr
  have := hlt i hi
  simp [List.getD, List.getElem?_eq_getElem this]
theorem Own.sub_sep {R R' : Own} (h : Own.sub R' R) (hs : Own.Sep R) : Own.Sep R' := by
  obtain ⟨idx, hn, hlt, rfl⟩ := h
  unfold Own.Sep at *
  rw [List.pairwise_map]
  refine List.Pairwise.imp_of_mem ?_ hn
  intro i j hi hj hij
  have hi' := hlt i hi
  have hj' := hlt j hj
  simp only [List.getD, List.getElem?_eq_getElem hi', List.getElem?_eq_getElem hj', Option.getD_some]
  rw [List.pairwise_iff_getElem] at hs
  rcases Nat.lt_or_gt_of_ne hij with h | h
  · exact hs i j hi' hj' h
  · exact Res.apart_symm (hs j i hj' hi' h)

theorem Holds.sub {c : Ctx} {H : Hp} {R R' : Own} {w : World} (h : Holds c H R w) (hs : Own.sub R' R) : Holds c H R' w := by
  have hin : ∀ b ∈ Own.blocks R', b ∈ Own.blocks R := fun b hm => by
    obtain ⟨r, hr, hb⟩ := Own.mem_blocks.1 hm
    exact Own.mem_blocks.2 ⟨r, Own.sub_mem hs r hr, hb⟩
  exact ⟨h.mem, fun r hr => h.own r (Own.sub_mem hs r hr), Own.sub_sep hs h.sep, fun b hm => h.apart b (hin b hm), fun b hm => h.fresh b (hin b hm), h.old, h.hle, h.hnew, h.thaw⟩

theorem A_weak {x : Code} {s' : Sta} (hn : s.n = s'.n) (hD : s.D = s'.D) (hH : s.H = s'.H) (he : Env.le s'.env s.env) (hr : Own.sub (s'.M ++ s'.L) (s.M ++ s.L))
    (h : wpA F P c x K X R s') : wpA F P c x K X R s := fun a w hs =>
  h a w ⟨hs.defers.trans hD, hs.size.trans hn, hs.env.le he, by rw [← hH]; exact hs.holds.sub hr⟩

/-- weakening of a continuation: for the end of a round, of a piece that is cut -/
def Sta.le (s' s : Sta) : Prop := s.n = s'.n ∧ s.D = s'.D ∧ s.H = s'.H ∧ Env.le s'.env s.env ∧ Own.sub (s'.M ++ s'.L) (s.M ++ s.L)
theorem Sta.ok_le {c : Ctx} {s s' : Sta} {a : Act} {w : World} (h : s.ok c a w) (hl : Sta.le s' s) : s'.ok c a w :=
  ⟨h.defers.trans hl.2.1, h.size.trans hl.1, h.env.le hl.2.2.2.1, by rw [← hl.2.2.1]; exact h.holds.sub hl.2.2.2.2⟩
/-- what is known may be seen otherwise: fewer slots, fewer owned blocks, an owned block turned into persistent facts -/
def Shift (c : Ctx) (K : SP) : SP := fun s => ∀ a w, s.ok c a w → ∃ s', s'.ok c a w ∧ K s'
theorem Shift.pure (h : K s) : Shift c K s := fun _ _ hs => ⟨s, hs, h⟩
theorem Shift.map {K' : SP} (h : Shift c K s) (hk : ∀ s, K s → K' s) : Shift c K' s := fun a w hs => let ⟨s', hs', k⟩ := h a w hs; ⟨s', hs', hk s' k⟩
theorem Shift.le (s' : Sta) (hl : Sta.le s' s) (h : K s') : Shift c K s := fun _ _ hs => ⟨s', Sta.ok_le hs hl, h⟩
theorem Shift.lek (s' : Sta) (hl : Sta.le s' s) (h : Shift c K s') : Shift c K s := fun a w hs => h a w (Sta.ok_le hs hl)
theorem Shift.to {s' : Sta} (h : K s') (hl : Sta.le s' s) : Shift c K s := fun _ _ hs => ⟨s', Sta.ok_le hs hl, h⟩
theorem Own.sub_nil (R : Own) : Own.sub [] R := ⟨[], List.nodup_nil, fun i hi => (by cases hi), rfl⟩
theorem A_shift {x : Code} (h : Shift c (wpA F P c x K X R) s) : wpA F P c x K X R s := fun a w hs =>
  let ⟨_, hs', k⟩ := h a w hs; k a w hs'
theorem A_up {x : Code} (h : wpA F P c x (Shift c K) X R s) : wpA F P c x K X R s := fun a w hs =>
  wpIn_mono (h a w hs) fun e a' w' q => by
    cases e with
    | normal => obtain ⟨s', hs', q⟩ := q; obtain ⟨s'', hs'', q⟩ := q a' w' hs'; exact ⟨s'', hs'', q⟩
    | exit id => exact q
    | ret => exact q
    | goto l => exact q
    | panic ch => exact q
    | outgrown => exact q
theorem A_cutu {x : Code} (J : SP) (h : wpA F P c x (Shift c J) X R s) (hk : ∀ s, J s → K s) : wpA F P c x K X R s := A_cut J (A_up h) hk
theorem A_loopu {x : Code} (I : Nat → Sta → Prop) (h0 : Shift c (fun s => ∃ n, I n s) s)
    (round : ∀ n s, I n s → wpA F P c x (Shift c fun s' => ∃ m, m < n ∧ I m s') X R s) : wpA F P c (.loop x) K X R s := fun a w hs =>
  let ⟨s0, hs0, n, hI⟩ := h0 a w hs
  A_loop (s := s0) I n hI (fun n s h => A_up (round n s h)) a w hs0
end rules
end Go.Proofs.Ythniohgeojenaaa
