import Derived.Test.YtnoadopmeoohmaaGreatDoorChecked
import Derived.Lib.LaidTab
import Derived.Lib.ItoaNum
import Derived.KernelRfl
import Derived.WalkKit
import Derived.OrdersIn
import Derived.TacticsIn
import Derived.CallsIn
/-
  What the seat's package-level variables hold, as far as it is said of whole blocks (numerals: the table of powers of ten).
-/
namespace Go.Proofs.YtnoadopmeoohmaaGreatDoor
open Go
set_option linter.unusedVariables false
set_option linter.unusedSimpArgs false
/-- the blocks of the package-level variables -/
def NG : Nat := 8
def powCells : Array Value := (Lib.pow10Tab.map fun z => Value.int .u64 z).toArray
def Glob (w : World) : Prop := ∃ T fz, w.heap[0]? = some (.cells powCells T fz)
theorem Glob.of_blocks {w w' : World} (h : Glob w) (hb : ∀ k, k < NG → w'.heap[k]? = w.heap[k]?) : Glob w' := by
  obtain ⟨T, fz, h⟩ := h
  exact ⟨T, fz, (hb 0 (by decide)).trans h⟩
theorem Glob.tab {w : World} (h : Glob w) : Lib.TabIs Tryz.prog w "internal/strconv.uint64pow10" .u64 Lib.pow10Tab := by
  obtain ⟨T, fz, h⟩ := h
  have hn : Tryz.prog.globalNamed "internal/strconv.uint64pow10" = some 0 := by kernel_rfl
  unfold Lib.TabIs World.var?
  rw [hn]
  show (match w.heap[0]? with | some (.cells cs _ _) => some cs | _ => none) = _
  rw [h]
  rfl
end Go.Proofs.YtnoadopmeoohmaaGreatDoor
/-
  An abstract layer over the fenced wp: symbolic slots, persistent heap facts, owned blocks; no world in sight.
  The judgement on lists of operations, and the operations that leave the world alone.
  What the operations yield that leave the world alone.
  Reading memory: persistent facts, owned blocks; slices.
-/
namespace Go.Proofs.YtnoadopmeoohmaaGreatDoor
open Go
set_option linter.unusedVariables false
set_option linter.unusedSimpArgs false
section
/-! An abstract layer over the fenced wp: symbolic slots, persistent heap facts, owned blocks; no world in sight. -/
/-! ### slots -/
abbrev Env := List (Nat × Value)
def Env.find : Env → Nat → Option Value
  | [], _ => none
  | (k, v) :: r, t => match Nat.beq k t with | true => some v | false => Env.find r t
def Env.eval (e : Env) : Operand → Option Value
  | .tmp t => e.find t
  | .const v => some v
  | .global g => some (.pointer (some ⟨g, 0, none⟩))
  | .func f => some (.func (.func f) #[] #[])
def EnvOk (e : Env) (a : Act) : Prop := ∀ t v, e.find t = some v → a.tmps[t]? = some v
theorem EnvOk.eval {e : Env} {a : Act} (h : EnvOk e a) {x : Operand} {v : Value} (hx : e.eval x = some v) : a.eval x = v := by
  cases x with
  | tmp t => have := h t v hx; simp [Act.eval, this]
  | const u => simpa [Env.eval, Act.eval] using hx
  | global g => simpa [Env.eval, Act.eval] using hx
  | func f => simpa [Env.eval, Act.eval] using hx
theorem EnvOk.put {e : Env} {a : Act} (h : EnvOk e a) {d : Nat} {v : Value} (hd : d < a.tmps.size) : EnvOk ((d, v) :: e) (a.put (some d) v) := by
  intro t u ht
  simp only [Env.find] at ht
  cases hb : Nat.beq d t with
  | true =>
    rw [hb] at ht
    have hdt : d = t := Nat.eq_of_beq_eq_true hb
    subst hdt
    simp at ht
    subst ht
    simp [Act.put, hd]
  | false =>
    rw [hb] at ht
    have hdt : d ≠ t := Nat.ne_of_beq_eq_false hb
    have := h t u ht
    simp [Act.put, Array.getElem?_setIfInBounds_ne hdt, this]
/-! ### persistent facts and owned blocks -/
abbrev Hp := Nat → Nat → Option Value
def Mem (H : Hp) (w : World) : Prop := ∀ b o v, H b o = some v → w.cell? ⟨b, o, none⟩ = some v ∧ v.oneCell' = true
inductive Res where
  | box (b : Nat) (cs : List Value)
  | row (v : Value) (k : Nat) (css : List (List Value))
  | obj (b : Nat) (o : Obj)
def Res.blocks : Res → List Nat
  | .box b _ => [b]
  | .row (.slice (some a) _ _) _ _ => [a.block]
  | .row _ _ _ => []
  | .obj b _ => [b]
def RowOk (w : World) (v : Value) (k : Nat) (css : List (List Value)) : Prop :=
  (v = .slice none 0 0 ∧ css = []) ∨
  ∃ b cap rest T, v = .slice (some ⟨b, 0, none⟩) css.length cap ∧ (∀ cs ∈ css, cs.length = k) ∧ css.length ≤ cap ∧
    w.heap[b]? = some (.cells (css.flatten ++ rest).toArray T (0, 0)) ∧ (css.flatten ++ rest).length = cap * k
def Res.ok (w : World) : Res → Prop
  | .box b cs => ∃ T, w.heap[b]? = some (.cells cs.toArray T (0, 0))
  | .row v k css => RowOk w v k css
  | .obj b o => w.heap[b]? = some o
abbrev Own := List Res
def Own.blocks (L : Own) : List Nat := L.flatMap Res.blocks
def Own.ok (L : Own) (w : World) : Prop := ∀ r ∈ L, r.ok w
theorem Res.ok_of_block {w w' : World} {r : Res} (h : r.ok w) (hb : ∀ b ∈ r.blocks, w'.heap[b]? = w.heap[b]?) : r.ok w' := by
  cases r with
  | box b cs => obtain ⟨T, h⟩ := h; exact ⟨T, (hb b (by simp [Res.blocks])).trans h⟩
  | row v k css =>
    rcases h with h | ⟨b, cap, rest, T, hv, h1, hc, h2, h3⟩
    · exact .inl h
    · subst hv; exact .inr ⟨b, cap, rest, T, rfl, h1, hc, (hb b (by simp [Res.blocks])).trans h2, h3⟩
  | obj b o => exact (hb b (by simp [Res.blocks])).trans h
theorem Res.block_lt {w : World} {r : Res} (h : r.ok w) : ∀ b ∈ r.blocks, b < w.heap.size := by
  intro b hb
  have key : ∀ {i : Nat} {o : Obj}, w.heap[i]? = some o → i < w.heap.size := fun {i o} h => by
    rcases Nat.lt_or_ge i w.heap.size with h' | h'
    · exact h'
    · simp [Array.getElem?_eq_none h'] at h
  cases r with
  | box b' cs => simp [Res.blocks] at hb; subst hb; obtain ⟨T, h⟩ := h; exact key h
  | row v k css =>
    rcases h with ⟨hv, _⟩ | ⟨b', cap, rest, T, hv, h1, hc, h2, h3⟩
    · subst hv; simp [Res.blocks] at hb
    · subst hv; simp [Res.blocks] at hb; subst hb; exact key h2
  | obj b' o => simp [Res.blocks] at hb; subst hb; exact key h
def Res.apart (r r' : Res) : Prop := ∀ b ∈ r.blocks, b ∉ r'.blocks
theorem Res.apart_symm {r r' : Res} (h : r.apart r') : r'.apart r := fun b hb hb' => h b hb' hb
def Own.Sep (R : Own) : Prop := R.Pairwise Res.apart
theorem Own.blocks_append (A B : Own) : Own.blocks (A ++ B) = Own.blocks A ++ Own.blocks B := by simp [Own.blocks]
theorem Own.mem_blocks {R : Own} {b : Nat} : b ∈ Own.blocks R ↔ ∃ r ∈ R, b ∈ r.blocks := List.mem_flatMap
theorem Own.sep_append {A B : Own} : Own.Sep (A ++ B) ↔ Own.Sep A ∧ Own.Sep B ∧ ∀ b ∈ Own.blocks A, b ∉ Own.blocks B := by
  unfold Own.Sep
  rw [List.pairwise_append]
  constructor
  · rintro ⟨h1, h2, h3⟩
    refine ⟨h1, h2, fun b hb hb' => ?_⟩
    obtain ⟨r, hr, hbr⟩ := Own.mem_blocks.1 hb
    obtain ⟨r', hr', hbr'⟩ := Own.mem_blocks.1 hb'
    exact h3 r hr r' hr' b hbr hbr'
  · rintro ⟨h1, h2, h3⟩
    exact ⟨h1, h2, fun r hr r' hr' b hb hb' => h3 b (Own.mem_blocks.2 ⟨r, hr, hb⟩) (Own.mem_blocks.2 ⟨r', hr', hb'⟩)⟩
structure Sta where
  n : Nat
  env : Env
  H : Hp
  M : Own
  L : Own
  D : List Deferred
/-- no panic -/
def noPn : List PanicEntry → Sta → Prop := fun _ _ => False
/-! ### the context of one activation, and what holds -/
structure Ctx where
  w0 : World
  H0 : Hp
  X : List Nat
  pn : List PanicEntry → Sta → Prop
structure Old (c : Ctx) (w : World) : Prop where
  os : w.os = c.w0.os
  tape : w.tape = c.w0.tape
  output : w.output = c.w0.output
  size : c.w0.heap.size ≤ w.heap.size
  block : ∀ k, k < c.w0.heap.size → k ∉ c.X → w.heap[k]? = c.w0.heap[k]?
/-- the package-level variables, as they were, and not owned -/
structure GlobC (c : Ctx) : Prop where
  glob : Glob c.w0
  size : NG ≤ c.w0.heap.size
  apart : ∀ b ∈ c.X, NG ≤ b
structure Holds (c : Ctx) (H : Hp) (R : Own) (w : World) : Prop where
  mem : Mem H w
  own : Own.ok R w
  sep : Own.Sep R
  apart : ∀ b ∈ Own.blocks R, ∀ o, H b o = none
  fresh : ∀ b ∈ Own.blocks R, c.w0.heap.size ≤ b ∨ b ∈ c.X
  old : Old c w
  hle : ∀ b o v, c.H0 b o = some v → H b o = some v
  hnew : ∀ b o v, H b o = some v → c.H0 b o = some v ∨ c.w0.heap.size ≤ b ∨ b ∈ c.X
  thaw : ∀ b o v, H b o = some v → c.H0 b o = none → ∃ cs T, w.heap[b]? = some (.cells cs T (0, 0))
  gl : GlobC c
theorem Holds.glob {c : Ctx} {H : Hp} {R : Own} {w : World} (h : Holds c H R w) : Glob w :=
  h.gl.glob.of_blocks fun k hk => h.old.block k (Nat.lt_of_lt_of_le hk h.gl.size) fun hX => absurd (h.gl.apart k hX) (by omega)
theorem Holds.callee {c : Ctx} {H H' : Hp} {R I : Own} {w : World} (h : Holds c H R w) (hI : ∀ b ∈ Own.blocks I, b ∈ Own.blocks R) : GlobC ⟨w, H', Own.blocks I, noPn⟩ :=
  ⟨h.glob, Nat.le_trans h.gl.size h.old.size, fun b hb => (h.fresh b (hI b hb)).elim (fun h' => Nat.le_trans h.gl.size h') (h.gl.apart b)⟩
theorem Holds.lt {c : Ctx} {H : Hp} {R : Own} {w : World} (h : Holds c H R w) : ∀ b ∈ Own.blocks R, b < w.heap.size := by
  intro b hb
  obtain ⟨r, hr, hbr⟩ := List.mem_flatMap.1 hb
  exact Res.block_lt (h.own r hr) b hbr
theorem Mem.lt {H : Hp} {w : World} (h : Mem H w) {b o : Nat} {v : Value} (hb : H b o = some v) : b < w.heap.size := by
  have := (h b o v hb).1
  exact World.block_lt_of_cell? w ⟨b, o, none⟩ this
structure Sta.ok (c : Ctx) (s : Sta) (a : Act) (w : World) : Prop where
  defers : a.defers = s.D
  size : a.tmps.size = s.n
  env : EnvOk s.env a
  holds : Holds c s.H (s.M ++ s.L) w
structure WideF (F : Fence) : Prop where
  fn : ∀ f, F.fn f
  depth : F.depth = none
  alive : F.alive = false
theorem WideF.wide : WideF Fence.wide := ⟨fun _ => trivial, rfl, rfl⟩
theorem WideF.room {F : Fence} (h : WideF F) (k : Nat) : F.room k := fun d hd => by rw [h.depth] at hd; cases hd
theorem WideF.fenced {F : Fence} (h : WideF F) (P : Program) (m : Machine) : m.fenced P F := by
  intro g _
  refine ⟨fun ha => ?_, .inl (h.fn _), fun f _ => h.fn f, h.room _⟩
  rw [h.alive] at ha; cases ha
theorem callsIn_of_calls {F : Fence} (hF : WideF F) {n : Nat} {P : Program} {f : FuncId} {args : Array Value} {w : World} {R : Ending → World → Prop}
    (h : Calls P f args w R) : CallsIn F n P f args w R := by
  refine ⟨hF.fn f, fun cs _ => ?_⟩
  obtain ⟨e, w', fr, r, s, x⟩ := h cs
  refine ⟨e, w', fr, r, ?_, x⟩
  have key : ∀ {m m' : Machine}, Steps P m m' → StepsIn (Machine.fenced P F) P m m' := fun hs =>
    (StepsIn.of_steps hs).mono fun m _ => hF.fenced P m
  cases e with
  | returned v => exact key s
  | panicked ch => exact key s
  | outgrown => exact s
/-! ### the judgement on code -/
abbrev SP := Sta → Prop
def xfind : List (Nat × SP) → Nat → Option SP
  | [], _ => none
  | (k, v) :: r, t => match Nat.beq k t with | true => some v | false => xfind r t
def contQ (pn : List PanicEntry → SP) (c : Ctx) (K : SP) (X : List (Nat × SP)) (R : SP) : Exit → Act → World → Prop
  | .normal, a, w => ∃ s, s.ok c a w ∧ K s
  | .exit id, a, w => ∃ s, s.ok c a w ∧ ∃ K', xfind X id = some K' ∧ K' s
  | .ret, a, w => ∃ s, s.ok c a w ∧ R s
  | .panic ch, a, w => ∃ s, s.ok c a w ∧ pn ch s
  | _, _, _ => False
def wpA (F : Fence) (P : Program) (c : Ctx) (code : Code) (K : SP) (X : List (Nat × SP)) (R : SP) (s : Sta) : Prop :=
  ∀ a w, s.ok c a w → code.wpIn F 0 P (contQ c.pn c K X R) a w
section rules
variable {F : Fence} {P : Program} {c : Ctx} {K : SP} {X : List (Nat × SP)} {R : SP} {s : Sta}
theorem A_skip (h : K s) : wpA F P c .skip K X R s := fun _ _ hs => wpIn_skip ⟨s, hs, h⟩
theorem A_ret (h : R s) : wpA F P c .ret K X R s := fun _ _ hs => wpIn_ret ⟨s, hs, h⟩
theorem A_exit {id : Nat} {K' : SP} (hx : xfind X id = some K') (h : K' s) : wpA F P c (.exit id) K X R s := fun _ _ hs => wpIn_exit ⟨s, hs, K', hx, h⟩
theorem A_seq {x y : Code} (h : wpA F P c x (wpA F P c y K X R) X R s) : wpA F P c (.seq x y) K X R s := fun a w hs =>
  wpIn_seq (wpIn_mono (h a w hs) fun e a' w' q => by
    cases e with
    | normal => obtain ⟨s', hs', hk⟩ := q; exact hk a' w' hs'
    | exit id => exact q
    | ret => exact q
    | goto l => exact q
    | panic ch => exact q
    | outgrown => exact q)
theorem A_block {id : Nat} {x : Code} (h : wpA F P c x K ((id, K) :: X) R s) : wpA F P c (.block id x) K X R s := fun a w hs =>
  wpIn_block (wpIn_mono (h a w hs) fun e a' w' q => by
    cases e with
    | normal => exact q
    | exit id' =>
      obtain ⟨s', hs', K', hx, hk⟩ := q
      simp only [Exit.inBlock]
      simp only [xfind] at hx
      by_cases he : id' = id
      · subst he
        simp only [Nat.beq_refl] at hx
        simp at hx; subst hx
        simp only [if_true]
        exact ⟨s', hs', hk⟩
      · have hb : Nat.beq id id' = false := by
          cases hb : Nat.beq id id' with
          | true => exact absurd (Nat.eq_of_beq_eq_true hb).symm he
          | false => rfl
        rw [hb] at hx
        simp only [he, if_false]
        exact ⟨s', hs', K', hx, hk⟩
    | ret => exact q
    | goto l => exact q
    | panic ch => exact q
    | outgrown => exact q)
theorem A_if {x : Operand} {p : Prop} [Decidable p] {y z : Code} (hx : s.env.eval x = some (.bool (decide p))) (ht : p → wpA F P c y K X R s) (hf : ¬ p → wpA F P c z K X R s) :
    wpA F P c (.cond x y z) K X R s := fun a w hs =>
  wpIn_cond_split (hs.env.eval hx) (fun h => ht (of_decide_eq_true h) a w hs) (fun h => hf (of_decide_eq_false h) a w hs)
theorem A_iftrue {x : Operand} {y z : Code} (hx : s.env.eval x = some (.bool true)) (h : wpA F P c y K X R s) : wpA F P c (.cond x y z) K X R s := fun a w hs =>
  wpIn_cond_true (hs.env.eval hx) (h a w hs)
theorem A_iffalse {x : Operand} {y z : Code} (hx : s.env.eval x = some (.bool false)) (h : wpA F P c z K X R s) : wpA F P c (.cond x y z) K X R s := fun a w hs =>
  wpIn_cond_false (hs.env.eval hx) (h a w hs)
theorem A_mono {x : Code} {K' : SP} {R' : SP} (h : wpA F P c x K X R s) (hk : ∀ s, K s → K' s) (hr : ∀ s, R s → R' s) : wpA F P c x K' X R' s := fun a w hs =>
  wpIn_mono (h a w hs) fun e a' w' q => by
    cases e with
    | normal => obtain ⟨s', hs', q⟩ := q; exact ⟨s', hs', hk _ q⟩
    | ret => obtain ⟨s', hs', q⟩ := q; exact ⟨s', hs', hr _ q⟩
    | exit id => exact q
    | goto l => exact q
    | panic ch => exact q
    | outgrown => exact q
/-- A loop: I n s holds at the head of a round of which at most n more follow. -/
theorem A_loop {x : Code} (I : Nat → Sta → Prop) (n : Nat) (h0 : I n s)
    (round : ∀ n s, I n s → wpA F P c x (fun s' => ∃ m, m < n ∧ I m s') X R s) : wpA F P c (.loop x) K X R s := by
  intro a w hs b k cs hro hb hr
  have key : ∀ j s a w, Sta.ok c s a w → I j s →
      ∃ e a' w', contQ c.pn c K X R e a' w' ∧ ArrivesIn (Machine.fenced P F) P (lone (b.atR a (.code x :: .inLoop x :: k)) cs w) b k cs e a' w' := by
    intro j
    induction j using Nat.strongRecOn with
    | _ j ih =>
      intro s a w hs hI
      obtain ⟨e, a₁, w₁, hq, harr⟩ := round j s hI a w hs b (.inLoop x :: k) cs hro hb hr
      cases e with
      | normal =>
        obtain ⟨s₁, hs₁, m, hm, hI₁⟩ := hq
        obtain ⟨e₂, a₂, w₂, hq₂, harr₂⟩ := ih m hm s₁ a₁ w₁ hs₁ hI₁
        exact ⟨e₂, a₂, w₂, hq₂, .of_steps (StepsIn.trans harr (.one (fenced_calm hb hr rfl) stepR_inLoop)) harr₂⟩
      | exit id => exact ⟨.exit id, a₁, w₁, hq, .pass (x := .inLoop x) rfl (fun _ _ => .inl (by simp)) harr⟩
      | goto l => exact hq.elim
      | ret => exact ⟨.ret, a₁, w₁, hq, .pass (x := .inLoop x) rfl (fun _ _ => .inl (by simp)) harr⟩
      | panic ch => exact ⟨.panic ch, a₁, w₁, hq, .pass (x := .inLoop x) rfl (fun _ _ => .inl (by simp)) harr⟩
      | outgrown => exact hq.elim
  obtain ⟨e, a', w', hq, harr⟩ := key n s a w hs h0
  exact ⟨e, a', w', hq, .of_steps (.one (fenced_calm hb hr rfl) stepR_loop) harr⟩
/-! ### weakening: fewer slots, fewer owned blocks -/
def Env.le : Env → Env → Prop
  | [], _ => True
  | (t, v) :: r, e => e.find t = some v ∧ Env.le r e
theorem EnvOk.le {e e' : Env} {a : Act} (h : EnvOk e a) (hl : Env.le e' e) : EnvOk e' a := by
  intro t v ht
  induction e' with
  | nil => simp [Env.find] at ht
  | cons p r ih =>
    obtain ⟨k, u⟩ := p
    simp only [Env.find] at ht
    cases hb : Nat.beq k t with
    | true =>
      rw [hb] at ht; simp at ht; subst ht
      have : k = t := Nat.eq_of_beq_eq_true hb
      subst this
      exact h _ _ hl.1
    | false => rw [hb] at ht; exact ih hl.2 ht
/-- R' is R with some of its members left out, and others put elsewhere -/
def Own.sub (R' R : Own) : Prop := ∃ idx : List Nat, idx.Nodup ∧ (∀ i ∈ idx, i < R.length) ∧ R' = idx.map (fun i => R.getD i (.box 0 []))
theorem Own.subi (idx : List Nat) {R' R : Own} (h1 : idx.Nodup) (h2 : (idx.all fun i => Nat.blt i R.length) = true) (h3 : R' = idx.map (fun i => R.getD i (.box 0 []))) : Own.sub R' R :=
  ⟨idx, h1, fun i hi => Nat.le_of_ble_eq_true (List.all_eq_true.1 h2 i hi), h3⟩
theorem Own.sub_refl (R : Own) : Own.sub R R := by
  refine ⟨List.range R.length, List.nodup_range, fun i hi => by simpa using hi, ?_⟩
  apply List.ext_getElem?
  intro i
  by_cases hi : i < R.length
  · simp [hi]
  · simp [hi, List.getElem?_eq_none (Nat.le_of_not_lt hi)]
theorem Own.sub_mem {R R' : Own} (h : Own.sub R' R) : ∀ r ∈ R', r ∈ R := by
  obtain ⟨idx, hn, hlt, rfl⟩ := h
  intro r hr
  obtain ⟨i, hi, rfl⟩ := List.mem_map.1 hr
  have := hlt i hi
  simp [List.getD, List.getElem?_eq_getElem this]
theorem Own.sub_sep {R R' : Own} (h : Own.sub R' R) (hs : Own.Sep R) : Own.Sep R' := by
  obtain ⟨idx, hn, hlt, rfl⟩ := h
  unfold Own.Sep at *
  rw [List.pairwise_map]
  refine List.Pairwise.imp_of_mem ?_ hn
  intro i j hi hj hij
  have hi' := hlt i hi
  have hj' := hlt j hj
  simp only [List.getD, List.getElem?_eq_getElem hi', List.getElem?_eq_getElem hj', Option.getD_some]
  rw [List.pairwise_iff_getElem] at hs
  rcases Nat.lt_or_gt_of_ne hij with h | h
  · exact hs i j hi' hj' h
  · exact Res.apart_symm (hs j i hj' hi' h)
theorem Holds.sub {c : Ctx} {H : Hp} {R R' : Own} {w : World} (h : Holds c H R w) (hs : Own.sub R' R) : Holds c H R' w := by
  have hin : ∀ b ∈ Own.blocks R', b ∈ Own.blocks R := fun b hm => by
    obtain ⟨r, hr, hb⟩ := Own.mem_blocks.1 hm
    exact Own.mem_blocks.2 ⟨r, Own.sub_mem hs r hr, hb⟩
  exact ⟨h.mem, fun r hr => h.own r (Own.sub_mem hs r hr), Own.sub_sep hs h.sep, fun b hm => h.apart b (hin b hm), fun b hm => h.fresh b (hin b hm), h.old, h.hle, h.hnew, h.thaw, h.gl⟩
/-- weakening of a continuation: for the end of a round, of a piece that is cut -/
def Sta.le (s' s : Sta) : Prop := s.n = s'.n ∧ s.D = s'.D ∧ s.H = s'.H ∧ Env.le s'.env s.env ∧ Own.sub (s'.M ++ s'.L) (s.M ++ s.L)
theorem Sta.ok_le {c : Ctx} {s s' : Sta} {a : Act} {w : World} (h : s.ok c a w) (hl : Sta.le s' s) : s'.ok c a w :=
  ⟨h.defers.trans hl.2.1, h.size.trans hl.1, h.env.le hl.2.2.2.1, by rw [← hl.2.2.1]; exact h.holds.sub hl.2.2.2.2⟩
/-- what is known may be seen otherwise: fewer slots, fewer owned blocks, an owned block turned into persistent facts -/
def Shift (c : Ctx) (K : SP) : SP := fun s => ∀ a w, s.ok c a w → ∃ s', s'.ok c a w ∧ K s'
theorem Shift.pure (h : K s) : Shift c K s := fun _ _ hs => ⟨s, hs, h⟩
theorem Shift.lek (s' : Sta) (hl : Sta.le s' s) (h : Shift c K s') : Shift c K s := fun a w hs => h a w (Sta.ok_le hs hl)
theorem Shift.to {s' : Sta} (h : K s') (hl : Sta.le s' s) : Shift c K s := fun _ _ hs => ⟨s', Sta.ok_le hs hl, h⟩
theorem Own.sub_nil (R : Own) : Own.sub [] R := ⟨[], List.nodup_nil, fun i hi => (by cases hi), rfl⟩
theorem A_up {x : Code} (h : wpA F P c x (Shift c K) X R s) : wpA F P c x K X R s := fun a w hs =>
  wpIn_mono (h a w hs) fun e a' w' q => by
    cases e with
    | normal => obtain ⟨s', hs', q⟩ := q; obtain ⟨s'', hs'', q⟩ := q a' w' hs'; exact ⟨s'', hs'', q⟩
    | exit id => exact q
    | ret => exact q
    | goto l => exact q
    | panic ch => exact q
    | outgrown => exact q
theorem A_loopu {x : Code} (I : Nat → Sta → Prop) (h0 : Shift c (fun s => ∃ n, I n s) s)
    (round : ∀ n s, I n s → wpA F P c x (Shift c fun s' => ∃ m, m < n ∧ I m s') X R s) : wpA F P c (.loop x) K X R s := fun a w hs =>
  let ⟨s0, hs0, n, hI⟩ := h0 a w hs
  A_loop (s := s0) I n hI (fun n s h => A_up (round n s h)) a w hs0
end rules
end
section
/-! The judgement on lists of operations, and the operations that leave the world alone. -/
/-! ### facts on types, by instances -/
class TyC (P : Program) (t : TypeId) (agg : outParam Bool) (size : outParam Nat) : Type where
  isAgg : ∀ w, (isAgg t).run P w = .ok agg w
  sizeOf : ∀ w, (sizeOf t).run P w = .ok size w
class UndC (P : Program) (t : TypeId) (d : outParam TypeDesc) : Type where
  und : P.underlying t = some d
theorem UndC.run {P : Program} {t : TypeId} {d : TypeDesc} (h : UndC P t d) (w : World) : (underlying t).run P w = .ok d w := run_underlying h.und w
/-- field i of a struct type: its type, and where it lies -/
class FieldC (P : Program) (t : TypeId) (i : Nat) (ft : outParam Nat) (off : outParam Nat) : Type where
  fld : ∃ fs f, P.underlying t = some (.struct fs) ∧ fs.toList[i]? = some f ∧ f.type = ft ∧ f.offset = off
class ZeroC (P : Program) (t : TypeId) (z : outParam Value) : Type where
  run : ∀ w, (zeroValue t).run P w = .ok z w
class FunC (P : Program) (f : FuncId) : Type where
  run : ∀ args w, (callFunc f args).run P w = .ok (.enter f args) w
/-! ### lists of operations -/
def opget : List Oper → Nat → Option Oper
  | [], _ => none
  | o :: _, 0 => some o
  | _ :: r, n + 1 => opget r n
theorem opget_eq (l : List Oper) (n : Nat) : opget l n = l[n]? := by
  induction l generalizing n with
  | nil => simp [opget]
  | cons o r ih => cases n with
    | zero => simp [opget]
    | succ n => simp [opget, ih]
/-- the slot that a guard looks at -/
def gslot (ops : List Oper) (o : Oper) : Option Nat :=
  match o.guard with
  | none => none
  | some (j, _) => match opget ops j with
    | some oj => oj.dst
    | none => none
def want (ops : List Oper) (o : Oper) (e : Env) : Option Bool :=
  match o.guard with
  | none => some true
  | some (j, b) => match opget ops j with
    | some oj => match oj.dst with
      | some t => match e.find t with
        | some (.bool b') => some (match b', b with | true, true => true | false, false => true | _, _ => false)
        | some (.tuple _) => some false
        | _ => none
      | none => none
    | none => none
theorem wanted_of_want {ops : List Oper} {o : Oper} {e : Env} {a : Act} {b : Bool} (he : EnvOk e a) (h : want ops o e = some b) : Region.wanted o (yielded ops.toArray a.tmps) = b := by
  unfold want at h
  unfold Region.wanted
  split at h
  · rename_i hg; simp at h; subst h; simp [hg]
  · rename_i j b0 hg
    simp only [hg]
    rw [opget_eq] at h
    split at h
    · rename_i oj hj
      split at h
      · rename_i t ht
        split at h
        · rename_i b' hf
          have h1 := he t _ hf
          have h2 : yielded ops.toArray a.tmps j = some b' := by
            simp [yielded, hj, ht, h1]
          rw [h2]
          simp only [Option.some.injEq] at h
          subst h
          cases b' <;> cases b0 <;> rfl
        · rename_i vs hf
          have h1 := he t _ hf
          have h2 : yielded ops.toArray a.tmps j = none := by
            simp [yielded, hj, ht, h1]
          rw [h2]
          simp only [Option.some.injEq] at h
          subst h
          rfl
        · cases h
      · cases h
    · cases h
def opsA (F : Fence) (P : Program) (c : Ctx) (ops l : List Oper) (K : SP) (s : Sta) : Prop :=
  ∀ a w, s.ok c a w → wpListIn F 0 P ops.toArray (contQ noPn c K [] (fun _ => False)) l a w
/-- What an operation yields, the world left as it is: it may look at the slots, at the persistent facts, and at the owned blocks R. -/
def Ev (P : Program) (o : Oper) (e : Env) (H : Hp) (R : Own) (v : Value) : Prop :=
  ∀ a w, EnvOk e a → Mem H w → Own.ok R w → (execOp a.eval o).run P w = .ok (.value v) w
/-- One step that may turn the world. -/
def Ef (F : Fence) (P : Program) (c : Ctx) (o : Oper) (s : Sta) (K : SP) : Prop :=
  ∀ a w, s.ok c a w → o.wpIn F 0 P a w (fun a' w' => ∃ s', s'.ok c a' w' ∧ K s') (fun _ _ _ => False)
theorem Oper.wpIn_both {F : Fence} {n : Nat} {P : Program} {o : Oper} {a : Act} {w : World} {K K' : Act → World → Prop} {Q Q' : Exit → Act → World → Prop} (h : ∀ a w, K a w → K' a w)
    (hq : ∀ e a w, Q e a w → Q' e a w) (hh : o.wpIn F n P a w K Q) : o.wpIn F n P a w K' Q' := by
  unfold Oper.wpIn at *
  refine ⟨hh.1, ?_⟩
  have hh := hh.2
  generalize (o.semAt F.round a.eval).run P w = r at *
  have hl : LetsOut Q → LetsOut Q' := fun ⟨a, w, x⟩ => ⟨a, w, hq _ _ _ x⟩
  cases r with
  | ok x w' =>
    cases x <;> simp only [Oper.uponIn] at hh ⊢ <;>
      first
        | exact h _ _ hh
        | exact ⟨hh.1, CallsIn.mono hh.2 (fun e w'' he => by cases e <;> first | exact h _ _ he | exact hq _ _ _ he | exact hl he)⟩
        | exact ⟨hh.1, RowsIn.mono hh.2 (fun _ _ he => h _ _ he)⟩
        | exact ⟨hh.1, RoundIn.mono hh.2 (fun e w'' he => by cases e <;> first | exact h _ _ he | exact hq _ _ _ he | exact hl he)⟩
  | halt x w' => cases x <;> simp only [Oper.uponIn] at hh ⊢ <;> first | exact hh | exact hq _ _ _ hh
section rules
variable {F : Fence} {P : Program} {c : Ctx} {ops rest : List Oper} {o : Oper} {K : SP} {X : List (Nat × SP)} {R : SP} {n : Nat} {e : Env} {H : Hp} {M L : Own} {D : List Deferred}
theorem A_region {id : Nat} {l : List Oper} {s : Sta} (h : opsA F P c l l K s) : wpA F P c (.region id l.toArray false) K X R s := fun a w hs =>
  wpIn_region_lit (by
    have := h a w hs
    refine (?_ : ∀ (l' : List Oper) a w, wpListIn F 0 P l.toArray (contQ noPn c K [] (fun _ => False)) l' a w → wpListIn F 0 P l.toArray (contQ c.pn c K X R) l' a w) l a w this
    intro l'
    induction l' with
    | nil => intro a w h; exact h
    | cons o r ih =>
      intro a w h
      simp only [wpListIn] at h ⊢
      split
      · rename_i hw
        rw [if_pos hw] at h
        refine Oper.wpIn_both (fun a w => ih a w) (fun e a w q => ?_) h
        cases e with
        | normal => exact q
        | exit id => obtain ⟨s, hs, K', hx, _⟩ := q; simp [xfind] at hx
        | ret => obtain ⟨s, hs, hx⟩ := q; exact hx.elim
        | goto l => exact q
        | panic ch => obtain ⟨s, hs, hx⟩ := q; exact hx.elim
        | outgrown => exact q
      · rename_i hw
        rw [if_neg hw] at h
        exact ⟨h.1, ih _ _ h.2⟩)
theorem O_nil {s : Sta} (h : K s) : opsA F P c ops [] K s := fun _ _ hs => ⟨s, hs, h⟩
theorem not_defer_of_value {ρ : Operand → Value} {o : Oper} {w w' : World} {v : Value} (h : (execOp ρ o).run P w = .ok (.value v) w') : ∀ cl, o.op ≠ .defer cl := by
  intro cl hcl
  unfold execOp at h
  simp only [hcl, Sem.run_bind] at h
  cases hr : (resolve ρ cl o.type).run P w with
  | ok d w1 => rw [hr] at h; simp at h
  | halt x w1 => rw [hr] at h; simp at h
/-- the step of an operation that yields v -/
theorem Ev.wpIn (hF : WideF F) {s : Sta} {Q : Exit → Act → World → Prop} {Kx : Act → World → Prop} {a : Act} {w : World} {v : Value} (he : EnvOk e a) (hm : Mem H w) {R : Own} (hr : Own.ok R w)
    (h : Ev P o e H R v) (k : Kx (a.put o.dst v) w) : o.wpIn F 0 P a w Kx Q := by
  have h1 := h a w he hm hr
  refine ⟨fun f _ => hF.fn f, ?_⟩
  rw [Oper.semAt_eq _ _ _ (not_defer_of_value h1), h1]
  exact k
theorem O_ev {d : Nat} {v : Value} (hF : WideF F) (hw : want ops o e = some true) (h : Ev P o e H (M ++ L) v) (hd : o.dst = some d) (hn : Nat.blt d n = true)
    (k : opsA F P c ops rest K ⟨n, (d, v) :: e, H, M, L, D⟩) : opsA F P c ops (o :: rest) K ⟨n, e, H, M, L, D⟩ := by
  intro a w hs
  have hw' := wanted_of_want hs.env hw
  simp only [wpListIn]
  rw [if_pos hw']
  refine Ev.wpIn hF (s := ⟨n, e, H, M, L, D⟩) hs.env hs.holds.mem hs.holds.own h ?_
  rw [hd]
  have hlt : d < a.tmps.size := by rw [hs.size]; exact Nat.le_of_ble_eq_true hn
  exact k _ _ ⟨hs.defers, by simpa [Act.put] using hs.size, hs.env.put hlt, hs.holds⟩
theorem O_skip {d : Nat} (hF : WideF F) (hw : want ops o e = some false) (hd : o.dst = some d) (hn : Nat.blt d n = true)
    (k : opsA F P c ops rest K ⟨n, (d, undef) :: e, H, M, L, D⟩) : opsA F P c ops (o :: rest) K ⟨n, e, H, M, L, D⟩ := by
  intro a w hs
  have hw' := wanted_of_want hs.env hw
  simp only [wpListIn]
  rw [if_neg (by rw [hw']; simp)]
  refine ⟨fun f _ => hF.fn f, ?_⟩
  rw [hd]
  have hlt : d < a.tmps.size := by rw [hs.size]; exact Nat.le_of_ble_eq_true hn
  exact k _ _ ⟨hs.defers, by simpa [Act.put] using hs.size, hs.env.put hlt, hs.holds⟩
/-- the guard's test is not decided: both ways -/
theorem O_split {t : Nat} {p : Prop} [Decidable p] (hg : gslot ops o = some t) (hf : e.find t = some (.bool (decide p)))
    (ky : p → opsA F P c ops (o :: rest) K ⟨n, (t, .bool true) :: e, H, M, L, D⟩) (kn : ¬ p → opsA F P c ops (o :: rest) K ⟨n, (t, .bool false) :: e, H, M, L, D⟩) :
    opsA F P c ops (o :: rest) K ⟨n, e, H, M, L, D⟩ := by
  intro a w hs
  have key : ∀ b : Bool, (.bool (decide p) : Value) = .bool b → EnvOk ((t, .bool b) :: e) a := fun b hb t' v h => by
    simp only [Env.find] at h
    cases hbq : Nat.beq t t' with
    | true =>
      rw [hbq] at h; simp at h; subst h
      have : t = t' := Nat.eq_of_beq_eq_true hbq
      subst this
      rw [← hb]; exact hs.env _ _ hf
    | false => rw [hbq] at h; exact hs.env _ _ h
  by_cases hp : p
  · exact ky hp a w ⟨hs.defers, hs.size, key true (by simp [hp]), hs.holds⟩
  · exact kn hp a w ⟨hs.defers, hs.size, key false (by simp [hp]), hs.holds⟩
theorem O_ef {s : Sta} (hw : want ops o s.env = some true) (h : Ef F P c o s (opsA F P c ops rest K)) : opsA F P c ops (o :: rest) K s := by
  intro a w hs
  have hw' := wanted_of_want hs.env hw
  simp only [wpListIn]
  rw [if_pos hw']
  refine Oper.wpIn_both (fun a' w' ⟨s', hs', k⟩ => k a' w' hs') (fun e a w q => q.elim) (h a w hs)
end rules
end
section
/-! What the operations yield that leave the world alone. -/
/-- a string's value -/
abbrev sv (l : List UInt8) : Value := .string ⟨l.toArray⟩
/-- a byte of a string, as a number -/
def bat (l : List UInt8) (i : Int) : Int := ((l.getD i.toNat 0).toNat : Int)
theorem bat_lo (l : List UInt8) (i : Int) : 0 ≤ bat l i := by unfold bat; omega
theorem bat_hi (l : List UInt8) (i : Int) : bat l i < 256 := by
  unfold bat
  have := (l.getD i.toNat 0).toNat_lt
  omega
theorem bat_i64 (l : List UInt8) (i : Int) : -9223372036854775808 ≤ bat l i ∧ bat l i < 9223372036854775808 := by
  have := bat_lo l i; have := bat_hi l i; omega
/-- a row of known cells -/
def HCells (H : Hp) (b o : Nat) (cs : List Value) : Prop := ∀ j v, cs[j]? = some v → H b (o + j) = some v
def lo (k : IntKind) : Int := match k with | .i8 => -128 | .i16 => -32768 | .i32 => -2147483648 | .i64 => -9223372036854775808 | _ => 0
def hi (k : IntKind) : Int := match k with | .i8 => 128 | .i16 => 32768 | .i32 => 2147483648 | .i64 => 9223372036854775808 | .u8 => 256 | .u16 => 65536 | .u32 => 4294967296 | .u64 => 18446744073709551616
theorem wrap_id (k : IntKind) (x : Int) (h0 : lo k ≤ x) (h1 : x < hi k) : k.wrap x = x := by
  cases k <;> simp only [lo, hi] at h0 h1 <;> simp only [IntKind.wrap, IntKind.bits, IntKind.signed, Bool.true_and, Bool.false_and] <;>
    (first | (split <;> simp at * <;> omega) | (simp; omega))
theorem wi64 {x : Int} (h : -9223372036854775808 ≤ x ∧ x < 9223372036854775808) : IntKind.i64.wrap x = x := wrap_id .i64 x h.1 h.2
section
variable {P : Program} {e : Env} {H : Hp} {R : Own} {dst : Option Tmp} {ty : TypeId} {pos : String} {after : Array Edge} {g : Option (Nat × Bool)} {x y z : Operand} {v : Value}
theorem Ev_move (hx : e.eval x = some v) : Ev P ⟨dst, .move x, ty, pos, after, g⟩ e H R v := fun a w he _ _ => by
  simp [execOp, he.eval hx]
theorem Ev_assign (hx : e.eval x = some v) : Ev P ⟨dst, .assign x, ty, pos, after, g⟩ e H R v := fun a w he _ _ => by
  simp [execOp, he.eval hx]
theorem Ev_pickt (hx : e.eval x = some (.bool true)) (hy : e.eval y = some v) : Ev P ⟨dst, .pick x y z, ty, pos, after, g⟩ e H R v := fun a w he _ _ => by
  simp [execOp, he.eval hx, he.eval hy, asBool]
theorem Ev_pickf (hx : e.eval x = some (.bool false)) (hz : e.eval z = some v) : Ev P ⟨dst, .pick x y z, ty, pos, after, g⟩ e H R v := fun a w he _ _ => by
  simp [execOp, he.eval hx, he.eval hz, asBool]
def tget : List Value → Nat → Option Value
  | [], _ => none
  | v :: _, 0 => some v
  | _ :: r, n + 1 => tget r n
theorem tget_eq (l : List Value) (n : Nat) : tget l n = l[n]? := by
  induction l generalizing n with
  | nil => simp [tget]
  | cons o r ih => cases n with
    | zero => simp [tget]
    | succ n => simp [tget, ih]
theorem Ev_extract {vs : List Value} {i : Nat} (hx : e.eval x = some (.tuple vs.toArray)) (hi : tget vs i = some v) : Ev P ⟨dst, .extract x i, ty, pos, after, g⟩ e H R v := fun a w he _ _ => by
  rw [tget_eq] at hi
  simp [execOp, he.eval hx, Instr.extract, hi]
/-! ints -/
section ints
variable {k k2 : IntKind} {m n r : Int} {t t2 : TypeId}
theorem Ev_add (hx : e.eval x = some (.int k m)) (hy : e.eval y = some (.int k n)) (hr : k.wrap (m + n) = r) : Ev P ⟨dst, .binOp .add t x y t2, ty, pos, after, g⟩ e H R (.int k r) := fun a w he _ _ => by
  simp [execOp, he.eval hx, he.eval hy, eqGuard_add, binOp_add, Op.intArith, hr]
theorem Ev_sub (hx : e.eval x = some (.int k m)) (hy : e.eval y = some (.int k n)) (hr : k.wrap (m - n) = r) : Ev P ⟨dst, .binOp .sub t x y t2, ty, pos, after, g⟩ e H R (.int k r) := fun a w he _ _ => by
  simp [execOp, he.eval hx, he.eval hy, eqGuard_sub, binOp_sub, Op.intArith, hr]
theorem Ev_mul (hx : e.eval x = some (.int k m)) (hy : e.eval y = some (.int k n)) (hr : k.wrap (m * n) = r) : Ev P ⟨dst, .binOp .mul t x y t2, ty, pos, after, g⟩ e H R (.int k r) := fun a w he _ _ => by
  simp [execOp, he.eval hx, he.eval hy, eqGuard_mul, binOp_mul, Op.intArith, hr]
theorem Ev_quo (hx : e.eval x = some (.int k m)) (hy : e.eval y = some (.int k n)) (h0 : n ≠ 0) (hr : k.wrap (m.tdiv n) = r) : Ev P ⟨dst, .binOp .quo t x y t2, ty, pos, after, g⟩ e H R (.int k r) := fun a w he _ _ => by
  simp [execOp, he.eval hx, he.eval hy, eqGuard_quo, binOp_quo, Op.intDiv, hr, h0]
theorem Ev_rem (hx : e.eval x = some (.int k m)) (hy : e.eval y = some (.int k n)) (h0 : n ≠ 0) : Ev P ⟨dst, .binOp .rem t x y t2, ty, pos, after, g⟩ e H R (.int k (m.tmod n)) := fun a w he _ _ => by
  simp [execOp, he.eval hx, he.eval hy, eqGuard_rem, binOp_rem, Op.intDiv, h0]
def bitop (f : ∀ n, BitVec n → BitVec n → BitVec n) (k : IntKind) (m n : Int) : Int := k.wrap (f k.bits (BitVec.ofInt k.bits m) (BitVec.ofInt k.bits n)).toNat
def iand (k : IntKind) (m n : Int) : Int := bitop (fun _ a b => a &&& b) k m n
def ior (k : IntKind) (m n : Int) : Int := bitop (fun _ a b => a ||| b) k m n
def ixor (k : IntKind) (m n : Int) : Int := bitop (fun _ a b => a ^^^ b) k m n
theorem Ev_and (hx : e.eval x = some (.int k m)) (hy : e.eval y = some (.int k n)) : Ev P ⟨dst, .binOp .and t x y t2, ty, pos, after, g⟩ e H R (.int k (iand k m n)) := fun a w he _ _ => by
  simp [execOp, he.eval hx, he.eval hy, eqGuard_and, binOp_and, Op.intBits, iand, bitop]
theorem Ev_or (hx : e.eval x = some (.int k m)) (hy : e.eval y = some (.int k n)) : Ev P ⟨dst, .binOp .or t x y t2, ty, pos, after, g⟩ e H R (.int k (ior k m n)) := fun a w he _ _ => by
  simp [execOp, he.eval hx, he.eval hy, eqGuard_or, binOp_or, Op.intBits, ior, bitop]
theorem Ev_xor (hx : e.eval x = some (.int k m)) (hy : e.eval y = some (.int k n)) : Ev P ⟨dst, .binOp .xor t x y t2, ty, pos, after, g⟩ e H R (.int k (ixor k m n)) := fun a w he _ _ => by
  simp [execOp, he.eval hx, he.eval hy, eqGuard_xor, binOp_xor, Op.intBits, ixor, bitop]
theorem Ev_shl (hx : e.eval x = some (.int k m)) (hy : e.eval y = some (.int k2 n)) (h0 : 0 ≤ n) (h1 : n ≤ k.bits) (hr : k.wrap (m * 2 ^ n.toNat) = r) : Ev P ⟨dst, .binOp .shl t x y t2, ty, pos, after, g⟩ e H R (.int k r) := fun a w he _ _ => by
  simp [execOp, he.eval hx, he.eval hy, eqGuard_shl, binOp_shl, shift_shl k k2 m n h0 h1, hr]
theorem Ev_shr (hx : e.eval x = some (.int k m)) (hy : e.eval y = some (.int k2 n)) (h0 : 0 ≤ n) (h1 : n ≤ k.bits) : Ev P ⟨dst, .binOp .shr t x y t2, ty, pos, after, g⟩ e H R (.int k (m / 2 ^ n.toNat)) := fun a w he _ _ => by
  simp [execOp, he.eval hx, he.eval hy, eqGuard_shr, binOp_shr, shift_shr k k2 m n h0 h1]
theorem Ev_eql (hx : e.eval x = some (.int k m)) (hy : e.eval y = some (.int k n)) : Ev P ⟨dst, .binOp .eql t x y t2, ty, pos, after, g⟩ e H R (.bool (decide (m = n))) := fun a w he _ _ => by
  simp only [execOp, he.eval hx, he.eval hy, eqGuard_at_int, binOp_eql, Sem.run_bind, Sem.run_pure, Result.andThen_ok]
  congr 3
theorem Ev_neq (hx : e.eval x = some (.int k m)) (hy : e.eval y = some (.int k n)) : Ev P ⟨dst, .binOp .neq t x y t2, ty, pos, after, g⟩ e H R (.bool (decide (¬ m = n))) := fun a w he _ _ => by
  simp only [execOp, he.eval hx, he.eval hy, eqGuard_at_int, binOp_neq, Sem.run_bind, Sem.run_pure, Result.andThen_ok]
  congr 3
  rw [Bool.eq_iff_iff]; simp
theorem Ev_lss (hx : e.eval x = some (.int k m)) (hy : e.eval y = some (.int k n)) : Ev P ⟨dst, .binOp .lss t x y t2, ty, pos, after, g⟩ e H R (.bool (decide (m < n))) := fun a w he _ _ => by
  simp [execOp, he.eval hx, he.eval hy, eqGuard_lss, binOp_lss]
theorem Ev_leq (hx : e.eval x = some (.int k m)) (hy : e.eval y = some (.int k n)) : Ev P ⟨dst, .binOp .leq t x y t2, ty, pos, after, g⟩ e H R (.bool (decide (m ≤ n))) := fun a w he _ _ => by
  simp [execOp, he.eval hx, he.eval hy, eqGuard_leq, binOp_leq]
theorem Ev_gtr (hx : e.eval x = some (.int k m)) (hy : e.eval y = some (.int k n)) : Ev P ⟨dst, .binOp .gtr t x y t2, ty, pos, after, g⟩ e H R (.bool (decide (n < m))) := fun a w he _ _ => by
  simp [execOp, he.eval hx, he.eval hy, eqGuard_gtr, binOp_gtr]
theorem Ev_geq (hx : e.eval x = some (.int k m)) (hy : e.eval y = some (.int k n)) : Ev P ⟨dst, .binOp .geq t x y t2, ty, pos, after, g⟩ e H R (.bool (decide (n ≤ m))) := fun a w he _ _ => by
  simp [execOp, he.eval hx, he.eval hy, eqGuard_geq, binOp_geq]
theorem Ev_neg (hx : e.eval x = some (.int k m)) (hr : k.wrap (0 - m) = r) : Ev P ⟨dst, .unOp .neg t x, ty, pos, after, g⟩ e H R (.int k r) := fun a w he _ _ => by
  simp only [execOp, he.eval hx, Op.unary, Op.intArith, hr, Sem.run_bind, Sem.run_pure, Result.andThen_ok]
theorem Ev_conv {d : TypeDesc} [hs : UndC P t d] [hd : UndC P t2 (.int k2)] (hx : e.eval x = some (.int k m)) (hr : k2.wrap m = r) : Ev P ⟨dst, .convert t t2 x, ty, pos, after, g⟩ e H R (.int k2 r) := fun a w he _ _ => by
  simp only [execOp, he.eval hx, convert, Sem.run_bind, hs.run, hd.run, Result.andThen_ok]
  cases d <;> simp [Conv.intToInt, hr]
end ints
/-! bools -/
section bools
variable {t t2 : TypeId}
theorem Ev_not {p : Prop} [Decidable p] (hx : e.eval x = some (.bool (decide p))) : Ev P ⟨dst, .unOp .not t x, ty, pos, after, g⟩ e H R (.bool (decide (¬ p))) := fun a w he _ _ => by
  simp [execOp, he.eval hx, Op.unary, decide_not]
theorem Ev_notb {b : Bool} (hx : e.eval x = some (.bool b)) : Ev P ⟨dst, .unOp .not t x, ty, pos, after, g⟩ e H R (.bool (!b)) := fun a w he _ _ => by
  simp [execOp, he.eval hx, Op.unary]
theorem run_eqb {t : TypeId} (ht : P.underlying t = some .bool) (b b' : Bool) (w : World) : (Op.equal t (.bool b) (.bool b')).run P w = .ok (b == b') w := by
  have key : ∀ d, (Op.equalIn (d + 1) t (.bool b) (.bool b')).run P w = .ok (b == b') w := fun d => by
    simp only [Op.equalIn, run_underlying ht, Sem.run_bind, Sem.run_pure, Result.andThen_ok]
  exact key 9999
theorem Ev_eqb [ht : UndC P t .bool] {b b' : Bool} (hx : e.eval x = some (.bool b)) (hy : e.eval y = some (.bool b')) : Ev P ⟨dst, .binOp .eql t x y t2, ty, pos, after, g⟩ e H R (.bool (b == b')) := fun a w he _ _ => by
  simp [execOp, he.eval hx, he.eval hy, eqGuard_at_bool, binOp, run_eqb ht.und]
end bools
/-! strings -/
theorem bs_size (l : List UInt8) : (ByteArray.mk l.toArray).size = l.length := by
  show l.toArray.size = l.length
  simp
section strings
variable {t t2 : TypeId} {s s2 : List UInt8}
theorem Ev_slen [ht : UndC P t .string] (hx : e.eval x = some (sv s)) : Ev P ⟨dst, .call { callee := .builtin .len, args := #[x], argTypes := #[t] }, ty, pos, after, g⟩ e H R (.int .i64 s.length) := fun a w he _ _ => by
  have h1 := run_len_string (P := P) w t ty ⟨s.toArray⟩ ht.und
  rw [bs_size] at h1
  simp [execOp, resolve, invoke, builtin, he.eval hx, h1, goInt]
theorem Ev_sindex [ht : UndC P t .string] {k : IntKind} {i : Int} (hx : e.eval x = some (sv s)) (hy : e.eval y = some (.int k i)) (h0 : 0 ≤ i) (h1 : i < s.length) :
    Ev P ⟨dst, .index t x y, ty, pos, after, g⟩ e H R (.int .u8 (bat s i)) := fun a w he _ _ => by
  have hlt : i.toNat < s.length := by omega
  have hg : (ByteArray.mk s.toArray)[i.toNat]? = some s[i.toNat] := by
    rw [ByteArray.getElem?_lt' _ _ (by rw [bs_size]; exact hlt)]; rfl
  simp [execOp, he.eval hx, he.eval hy, Instr.index, asIntOf, ht.run, h0, hg, bat, List.getD, hlt]
theorem bs_extract (l : List UInt8) (a b : Nat) : (ByteArray.mk l.toArray).extract a b = ⟨((l.take b).drop a).toArray⟩ := by
  apply ByteArray.ext
  simp [List.drop_take]
theorem Ev_sslice [ht : UndC P t .string] {k k2 : IntKind} {i j : Int} (hx : e.eval x = some (sv s)) (hy : e.eval y = some (.int k i)) (hz : e.eval z = some (.int k2 j)) (h0 : 0 ≤ i) (h1 : i ≤ j) (h2 : j ≤ s.length) :
    Ev P ⟨dst, .slice t x (some y) (some z) none, ty, pos, after, g⟩ e H R (sv ((s.take j.toNat).drop i.toNat)) := fun a w he _ _ => by
  have hsz := bs_size s
  have hb1 : Sem.run P (Instr.sliceBound (.int k2 j) s.length .sliceAlen) w = .ok j.toNat w := run_sliceBound w k2 j s.length .sliceAlen (by omega) h2
  have hb2 : Sem.run P (Instr.sliceBound (.int k i) j.toNat .sliceB) w = .ok i.toNat w := run_sliceBound w k i j.toNat .sliceB h0 (by omega)
  simp only [execOp, Instr.sliceAt, he.eval hx, Option.map_some, he.eval hy, he.eval hz, Option.map_none, Sem.run_bind, ht.run, Result.andThen_ok, Instr.slice, Option.isSome_none, Bool.false_eq_true, if_false, Instr.sliceBounds, hsz, Sem.run_pure, hb1, hb2, bs_extract]
theorem Ev_sslicel [ht : UndC P t .string] {k : IntKind} {i : Int} (hx : e.eval x = some (sv s)) (hy : e.eval y = some (.int k i)) (h0 : 0 ≤ i) (h2 : i ≤ s.length) :
    Ev P ⟨dst, .slice t x (some y) none none, ty, pos, after, g⟩ e H R (sv (s.drop i.toNat)) := fun a w he _ _ => by
  have hsz := bs_size s
  have hb2 : Sem.run P (Instr.sliceBound (.int k i) s.length .sliceB) w = .ok i.toNat w := run_sliceBound w k i s.length .sliceB h0 h2
  have ht' : s.take s.length = s := List.take_length
  simp only [execOp, Instr.sliceAt, he.eval hx, Option.map_some, he.eval hy, Option.map_none, Sem.run_bind, ht.run, Result.andThen_ok, Instr.slice, Option.isSome_none, Bool.false_eq_true, if_false, Instr.sliceBounds, hsz, Sem.run_pure, hb2, bs_extract, ht']
theorem Ev_ssliceh [ht : UndC P t .string] {k2 : IntKind} {j : Int} (hx : e.eval x = some (sv s)) (hz : e.eval z = some (.int k2 j)) (h1 : 0 ≤ j) (h2 : j ≤ s.length) :
    Ev P ⟨dst, .slice t x none (some z) none, ty, pos, after, g⟩ e H R (sv (s.take j.toNat)) := fun a w he _ _ => by
  have hsz := bs_size s
  have hb1 : Sem.run P (Instr.sliceBound (.int k2 j) s.length .sliceAlen) w = .ok j.toNat w := run_sliceBound w k2 j s.length .sliceAlen h1 h2
  simp only [execOp, Instr.sliceAt, he.eval hx, Option.map_some, he.eval hz, Option.map_none, Sem.run_bind, ht.run, Result.andThen_ok, Instr.slice, Option.isSome_none, Bool.false_eq_true, if_false, Instr.sliceBounds, hsz, Sem.run_pure, hb1, bs_extract, List.drop_zero]
theorem Ev_scat (hx : e.eval x = some (sv s)) (hy : e.eval y = some (sv s2)) (hl : s.length + s2.length < 4611686018427387904) : Ev P ⟨dst, .binOp .add t x y t2, ty, pos, after, g⟩ e H R (sv (s ++ s2)) := fun a w he _ _ => by
  have h1 : ¬ (((s.length + s2.length : Nat) : Int) > 9223372036854775807) := by omega
  have h2 : (ByteArray.mk s.toArray) ++ (ByteArray.mk s2.toArray) = ⟨(s ++ s2).toArray⟩ := by
    apply ByteArray.ext; simp
  have hsz := bs_size
  simp only [execOp, he.eval hx, he.eval hy, eqGuard_add, binOp_string_add, Op.stringOp, Sem.run_bind, Sem.run_pure, Result.andThen_ok, hsz, IntKind.max_i64, if_neg h1, h2]
theorem Ev_seql (hx : e.eval x = some (sv s)) (hy : e.eval y = some (sv s2)) : Ev P ⟨dst, .binOp .eql t x y t2, ty, pos, after, g⟩ e H R (.bool (decide (s = s2))) := fun a w he _ _ => by
  simp only [execOp, he.eval hx, he.eval hy, eqGuard_at_string, binOp_string_eql, Sem.run_bind, Sem.run_pure, Result.andThen_ok, ByteArray.toList_mk]
  congr 3
  rw [Bool.eq_iff_iff]; simp
theorem Ev_sneq (hx : e.eval x = some (sv s)) (hy : e.eval y = some (sv s2)) : Ev P ⟨dst, .binOp .neq t x y t2, ty, pos, after, g⟩ e H R (.bool (decide (¬ s = s2))) := fun a w he _ _ => by
  simp only [execOp, he.eval hx, he.eval hy, eqGuard_at_string, binOp_string_neq, Sem.run_bind, Sem.run_pure, Result.andThen_ok, ByteArray.toList_mk]
  congr 3
  rw [Bool.eq_iff_iff]; simp
end strings
/-! many operations at one stroke: what is reckoned from the slots alone -/
def cmpPure (op : BinOp) (m n : Int) : Option Value :=
  match op with
  | .eql => some (.bool (decide (m = n)))
  | .neq => some (.bool (decide (¬ m = n)))
  | .lss => some (.bool (decide (m < n)))
  | .leq => some (.bool (decide (m ≤ n)))
  | .gtr => some (.bool (decide (n < m)))
  | .geq => some (.bool (decide (n ≤ m)))
  | _ => none
def kindEq : IntKind → IntKind → Bool
  | .i64, .i64 => true
  | .u8, .u8 => true
  | .i32, .i32 => true
  | .u16, .u16 => true
  | .u32, .u32 => true
  | .u64, .u64 => true
  | _, _ => false
theorem kindEq_eq {a b : IntKind} (h : kindEq a b = true) : a = b := by cases a <;> cases b <;> first | rfl | cases h
def evalPure (o : Op) (e : Env) : Option Value :=
  match o with
  | .move x => e.eval x
  | .assign x => e.eval x
  | .pick x y z => match e.eval x with
    | some (.bool true) => e.eval y
    | some (.bool false) => e.eval z
    | _ => none
  | .extract x i => match e.eval x with
    | some (.tuple vs) => tget vs.toList i
    | _ => none
  | .binOp op _ x y _ => match e.eval x with
    | some (.int k m) => match e.eval y with
      | some (.int k' n) => match kindEq k k' with
        | true => cmpPure op m n
        | false => none
      | _ => none
    | _ => none
  | _ => none
theorem Ev_pure {op : Op} (h : evalPure op e = some v) : Ev P ⟨dst, op, ty, pos, after, g⟩ e H R v := by
  cases op <;> simp only [evalPure] at h <;> try cases h
  case move x => exact Ev_move h
  case assign x => exact Ev_assign h
  case pick x y z =>
    split at h
    · rename_i hx; exact Ev_pickt hx h
    · rename_i hx; exact Ev_pickf hx h
    · cases h
  case extract x i =>
    split at h
    · rename_i vs hx; exact Ev_extract (vs := vs.toList) (by simpa using hx) h
    · cases h
  case binOp op t x y t2 =>
    split at h
    · rename_i k m hx
      split at h
      · rename_i k' n hy
        split at h
        · rename_i hk
          have := kindEq_eq hk
          subst this
          cases op <;> simp only [cmpPure] at h <;> try cases h
          · exact Ev_eql hx hy
          · exact Ev_neq hx hy
          · exact Ev_lss hx hy
          · exact Ev_leq hx hy
          · exact Ev_gtr hx hy
          · exact Ev_geq hx hy
        · cases h
      · cases h
    · cases h
end
end
section
/-! Reading memory: persistent facts, owned blocks; slices. -/
/-- the parts of a slice's value -/
structure SL where
  a : Option Addr
  n : Nat
  c : Nat
def SL.v (s : SL) : Value := .slice s.a s.n s.c
/-- a slice whose cells are persistent: css are its elements, k cells each -/
structure HRow (H : Hp) (a : Option Addr) (n c : Nat) (k : Nat) (css : List (List Value)) : Prop where
  len : css.length = n
  cap : n ≤ c
  nil : a = none → n = 0 ∧ c = 0
  el : ∀ i cs, css[i]? = some cs → cs.length = k ∧ ∃ b o, a = some ⟨b, o, none⟩ ∧ HCells H b (o + i * k) cs
def HLe (H H' : Hp) : Prop := ∀ b o v, H b o = some v → H' b o = some v
theorem HLe.refl (H : Hp) : HLe H H := fun _ _ _ h => h
theorem HLe.trans {H H' H'' : Hp} (h : HLe H H') (h' : HLe H' H'') : HLe H H'' := fun b o v x => h' b o v (h b o v x)
theorem HCells.mono {H H' : Hp} (hl : HLe H H') {b o : Nat} {cs : List Value} (h : HCells H b o cs) : HCells H' b o cs := fun j v hj => hl _ _ _ (h j v hj)
theorem HRow.mono {H H' : Hp} (hl : HLe H H') {a : Option Addr} {n c k : Nat} {css : List (List Value)} (h : HRow H a n c k css) : HRow H' a n c k css :=
  ⟨h.len, h.cap, h.nil, fun i cs hi => let ⟨h1, b, o, h2, h3⟩ := h.el i cs hi; ⟨h1, b, o, h2, h3.mono hl⟩⟩
theorem HRow.nil' (H : Hp) (k : Nat) : HRow H none 0 0 k [] := ⟨rfl, Nat.le_refl _, fun _ => ⟨rfl, rfl⟩, fun i cs h => by simp at h⟩
theorem HCells.sub {H : Hp} {b o : Nat} {cs : List Value} (h : HCells H b o cs) (i n : Nat) : HCells H b (o + i) ((cs.drop i).take n) := fun j v hj => by
  rw [List.getElem?_take] at hj
  split at hj
  · rw [List.getElem?_drop] at hj
    have := h (i + j) v hj
    rwa [← Nat.add_assoc] at this
  · cases hj
theorem HRow.at {H : Hp} {a : Option Addr} {n c k : Nat} {css : List (List Value)} (h : HRow H a n c k css) (i : Nat) (hi : i < n) :
    ∃ b o cs, a = some ⟨b, o, none⟩ ∧ css[i]? = some cs ∧ cs.length = k ∧ HCells H b (o + i * k) cs := by
  have hlt : i < css.length := by rw [h.len]; exact hi
  have hg : css[i]? = some css[i] := List.getElem?_eq_getElem hlt
  obtain ⟨h1, b, o, h2, h3⟩ := h.el i _ hg
  exact ⟨b, o, _, h2, hg, h1, h3⟩
/-- part of a list of cells -/
def csub (cs : List Value) (o k : Nat) : List Value := (cs.drop o).take k
def oget : Own → Nat → Option Res
  | [], _ => none
  | r :: _, 0 => some r
  | _ :: l, n + 1 => oget l n
theorem oget_mem {R : Own} {i : Nat} {r : Res} (h : oget R i = some r) : r ∈ R := by
  induction R generalizing i with
  | nil => simp [oget] at h
  | cons a l ih => cases i with
    | zero => simp [oget] at h; subst h; simp
    | succ i => simp [oget] at h; exact List.mem_cons_of_mem _ (ih h)
theorem cell_of_heap {w : World} {b i : Nat} {cs : Array Value} {T : TypeId} {fr : Nat × Nat} {v : Value} (h : w.heap[b]? = some (.cells cs T fr)) (hv : cs[i]? = some v) : w.cell? ⟨b, i, none⟩ = some v := by
  simp [World.cell?, h, hv]
section
variable {P : Program} {e : Env} {H : Hp} {R : Own} {dst : Option Tmp} {ty : TypeId} {pos : String} {after : Array Edge} {g : Option (Nat × Bool)} {x y z : Operand} {v : Value} {t t2 : TypeId} {k b o : Nat}
theorem run_load_agg [hT : TyC P t true k] {w : World} {cs : List Value} (hk : cs.length = k) (h : ∀ j v, cs[j]? = some v → w.cell? ⟨b, o + j, none⟩ = some v) :
    (Instr.loadAt t (.pointer (some ⟨b, o, none⟩))).run P w = .ok (.agg cs.toArray) w := by
  subst hk
  have h1 := run_loadCells_list (P := P) w ⟨b, o, none⟩ cs (fun j v hj => by rw [Addr.add_lit]; exact h j v hj)
  simp [Instr.loadAt, Instr.sureAddr, loadVar, hT.isAgg, hT.sizeOf, h1]
theorem run_load_one [hT : TyC P t false k] {w : World} (h : w.cell? ⟨b, o, none⟩ = some v) :
    (Instr.loadAt t (.pointer (some ⟨b, o, none⟩))).run P w = .ok v w := by
  simp [Instr.loadAt, Instr.sureAddr, loadVar, hT.isAgg, h]
/-- a struct of the persistent memory -/
theorem Ev_loadH [hT : TyC P t true k] {cs : List Value} (hx : e.eval x = some (.pointer (some ⟨b, o, none⟩))) (hc : HCells H b o cs) (hk : cs.length = k) :
    Ev P ⟨dst, .load t x, ty, pos, after, g⟩ e H R (.agg cs.toArray) := fun a w he hm _ => by
  have h1 := run_load_agg (P := P) (t := t) (w := w) hk (fun j v hj => (hm _ _ _ (hc j v hj)).1)
  simp [execOp, he.eval hx, h1]
theorem Ev_loadH1 [hT : TyC P t false k] (hx : e.eval x = some (.pointer (some ⟨b, o, none⟩))) (hc : H b o = some v) :
    Ev P ⟨dst, .load t x, ty, pos, after, g⟩ e H R v := fun a w he hm _ => by
  have h1 := run_load_one (P := P) (w := w) (t := t) ((hm _ _ _ hc).1)
  simp [execOp, he.eval hx, h1]
/-- an owned block, read whole -/
theorem Ev_loadB [hT : TyC P t true k] {i : Nat} {cs : List Value} (hx : e.eval x = some (.pointer (some ⟨b, 0, none⟩))) (hR : oget R i = some (.box b cs)) (hk : cs.length = k) :
    Ev P ⟨dst, .load t x, ty, pos, after, g⟩ e H R (.agg cs.toArray) := fun a w he _ hr => by
  obtain ⟨T, hb⟩ := hr _ (oget_mem hR)
  have h1 := run_load_agg (P := P) (t := t) (w := w) (b := b) (o := 0) hk (fun j v hj => cell_of_heap hb (by simpa using hj))
  simp [execOp, he.eval hx, h1]
/-- an owned block, a part of it -/
theorem Ev_loadBs [hT : TyC P t true k] {i : Nat} {cs cs' : List Value} (hx : e.eval x = some (.pointer (some ⟨b, o, none⟩))) (hR : oget R i = some (.box b cs)) (hs : csub cs o k = cs') (hk : Nat.beq cs'.length k = true) :
    Ev P ⟨dst, .load t x, ty, pos, after, g⟩ e H R (.agg cs'.toArray) := fun a w he _ hr => by
  obtain ⟨T, hb⟩ := hr _ (oget_mem hR)
  have h1 := run_load_agg (P := P) (t := t) (w := w) (b := b) (o := o) (cs := cs') (Nat.eq_of_beq_eq_true hk) (fun j v hj => cell_of_heap hb (by
    subst hs
    simp only [csub, List.getElem?_take] at hj
    split at hj
    · simpa using hj
    · cases hj))
  simp [execOp, he.eval hx, h1]
/-- an owned block, one cell of it -/
theorem Ev_loadB1 [hT : TyC P t false k] {i : Nat} {cs : List Value} (hx : e.eval x = some (.pointer (some ⟨b, o, none⟩))) (hR : oget R i = some (.box b cs)) (hv : tget cs o = some v) :
    Ev P ⟨dst, .load t x, ty, pos, after, g⟩ e H R v := fun a w he _ hr => by
  obtain ⟨T, hb⟩ := hr _ (oget_mem hR)
  rw [tget_eq] at hv
  have h1 := run_load_one (P := P) (w := w) (t := t) (cell_of_heap hb (i := o) (v := v) (by simpa using hv))
  simp [execOp, he.eval hx, h1]
/-! addresses -/
theorem Ev_fieldAddr {i q s ft off : Nat} {ag : Bool} [hf : FieldC P t i ft off] [hq : TyC P ft ag s] (hx : e.eval x = some (.pointer (some ⟨b, o, none⟩))) (hs : Nat.beq s 0 = false) (ho : o + off = q) :
    Ev P ⟨dst, .fieldAddr t x i, ty, pos, after, g⟩ e H R (.pointer (some ⟨b, q, none⟩)) := fun a w he _ _ => by
  obtain ⟨fs, f, hu, hfi, rfl, rfl⟩ := hf.fld
  have hs' : s ≠ 0 := Nat.ne_of_beq_eq_false hs
  have hf' : fs[i]? = some f := by simpa using hfi
  simp only [execOp, he.eval hx, Instr.fieldAt, Sem.run_bind, run_underlying hu, Result.andThen_ok, hf', Instr.sureAddr, Sem.run_pure, fieldPlace, hq.sizeOf, hs', if_false, Addr.add_lit, ho]
theorem Ev_nilCheck {ad : Addr} (hx : e.eval x = some (.pointer (some ad))) : Ev P ⟨dst, .nilCheck x, ty, pos, after, g⟩ e H R (.pointer (some ad)) := fun a w he _ _ => by
  simp [execOp, he.eval hx]
/-- the place of a slice's element -/
theorem Ev_indexAddr {el n c s : Nat} {i : Int} {kk : IntKind} {ag : Bool} [ht : UndC P t (.slice el)] [hs : TyC P el ag s] (hx : e.eval x = some (.slice (some ⟨b, o, none⟩) n c)) (hy : e.eval y = some (.int kk i)) (h0 : 0 ≤ i) (h1 : i < n) :
    Ev P ⟨dst, .indexAddr t x y, ty, pos, after, g⟩ e H R (.pointer (some ⟨b, o + i.toNat * s, none⟩)) := fun a w he _ _ => by
  have hc : (0 : Int) ≤ i ∧ i < (n : Int) := ⟨h0, h1⟩
  simp [execOp, he.eval hx, he.eval hy, Instr.indexAt, asIntOf, ht.run, hs.sizeOf, hc, Addr.add_lit]
/-- a part of a struct's value -/
theorem Ev_field1 {i s ft off : Nat} {cs : List Value} [hf : FieldC P t i ft off] [hq : TyC P ft false s] (hx : e.eval x = some (.agg cs.toArray)) (hv : tget cs off = some v) :
    Ev P ⟨dst, .field t x i, ty, pos, after, g⟩ e H R v := fun a w he _ _ => by
  obtain ⟨fs, f, hu, hfi, rfl, rfl⟩ := hf.fld
  have hf' : fs[i]? = some f := by simpa using hfi
  rw [tget_eq] at hv
  simp [execOp, he.eval hx, Instr.field, run_underlying hu, hf', asAgg, part, hq.isAgg, hv]
/-! slices -/
theorem Ev_llen {el n c : Nat} {ad : Option Addr} [ht : UndC P t (.slice el)] (hx : e.eval x = some (.slice ad n c)) : Ev P ⟨dst, .call { callee := .builtin .len, args := #[x], argTypes := #[t] }, ty, pos, after, g⟩ e H R (.int .i64 n) := fun a w he _ _ => by
  have h1 : (Builtin.len_ #[t] ty #[.slice ad n c]).run P w = .ok (goInt n) w := by simp [Builtin.len_, ht.run]
  simp [execOp, resolve, invoke, builtin, he.eval hx, h1, goInt]
/-! function values -/
theorem Ev_makeFunc {f : Fn} {xs ys : List Operand} {vs us : List Value} (hx : xs.map e.eval = vs.map some) (hy : ys.map e.eval = us.map some) :
    Ev P ⟨dst, .makeFunc f xs.toArray ys.toArray, ty, pos, after, g⟩ e H R (.func f vs.toArray us.toArray) := fun a w he _ _ => by
  have key : ∀ (xs : List Operand) (vs : List Value), xs.map e.eval = vs.map some → xs.map a.eval = vs := by
    intro xs
    induction xs with
    | nil => intro vs h; cases vs <;> simp_all
    | cons q r ih => intro vs h; cases vs with
      | nil => simp at h
      | cons u us => simp only [List.map_cons, List.cons.injEq] at h ⊢; exact ⟨he.eval h.1, ih us h.2⟩
  simp [execOp, Instr.makeFunc, key xs vs hx, key ys us hy]
end
end
end Go.Proofs.YtnoadopmeoohmaaGreatDoor
