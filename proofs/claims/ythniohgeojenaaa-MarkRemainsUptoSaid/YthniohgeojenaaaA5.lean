/-
  Operations that turn the world: new blocks, stores into owned blocks, calls; the contract of a function.
-/
import Derived.Test.YthniohgeojenaaaA4
namespace Go.Proofs.Ythniohgeojenaaa
open Go
set_option linter.unusedVariables false
set_option linter.unusedSimpArgs false

/-! ### the world moves on -/
structure Moves (w w' : World) (bs : List Nat) : Prop where
  os : w'.os = w.os
  tape : w'.tape = w.tape
  output : w'.output = w.output
  size : w.heap.size ≤ w'.heap.size
  block : ∀ k, k < w.heap.size → k ∉ bs → w'.heap[k]? = w.heap[k]?

theorem Moves.refl (w : World) (bs : List Nat) : Moves w w bs := ⟨rfl, rfl, rfl, Nat.le_refl _, fun _ _ _ => rfl⟩
theorem Moves.trans {w w1 w2 : World} {bs : List Nat} (h : Moves w w1 bs) (h' : Moves w1 w2 bs) : Moves w w2 bs :=
  ⟨h'.os.trans h.os, h'.tape.trans h.tape, h'.output.trans h.output, Nat.le_trans h.size h'.size, fun k hk hn => (h'.block k (Nat.lt_of_lt_of_le hk h.size) hn).trans (h.block k hk hn)⟩
theorem Moves.mono {w w' : World} {bs bs' : List Nat} (h : Moves w w' bs) (hs : ∀ b ∈ bs, b ∈ bs') : Moves w w' bs' :=
  ⟨h.os, h.tape, h.output, h.size, fun k hk hn => h.block k hk fun hb => hn (hs k hb)⟩
theorem Moves.alloc (w : World) (o : Obj) (bs : List Nat) : Moves w (w.alloc o) bs :=
  ⟨rfl, rfl, rfl, by simp, fun k hk _ => RowKit.Below.heap_alloc w o k hk⟩
theorem Moves.drew (w : World) (bs : List Nat) : Moves w w.drew bs := ⟨rfl, rfl, rfl, Nat.le_refl _, fun _ _ _ => rfl⟩
theorem Moves.setRow (w : World) (g : Nat) (cs : Array Value) : Moves w (w.setRow g cs) [g] :=
  ⟨rfl, rfl, rfl, by simp, fun k _ hn => setRow_other w g k cs (by simpa using hn)⟩

theorem Mem.moves {H : Hp} {w w' : World} {bs : List Nat} (h : Mem H w) (hm : Moves w w' bs) (hb : ∀ b ∈ bs, ∀ o, H b o = none) : Mem H w' := by
  intro b o v hv
  obtain ⟨h1, h2⟩ := h b o v hv
  refine ⟨?_, h2⟩
  have hlt := h.lt hv
  have hn : b ∉ bs := fun hm => by rw [hb b hm o] at hv; cases hv
  have := hm.block b hlt hn
  rw [World.cell?_of_block (w := w) (a := ⟨b, o, none⟩) this]
  exact h1
theorem Old.moves {c : Ctx} {w w' : World} {bs : List Nat} (h : Old c w) (hm : Moves w w' bs) (hb : ∀ b ∈ bs, c.w0.heap.size ≤ b ∨ b ∈ c.X) : Old c w' :=
  ⟨hm.os.trans h.os, hm.tape.trans h.tape, hm.output.trans h.output, Nat.le_trans h.size hm.size, fun k hk hn => by
    rw [hm.block k (Nat.lt_of_lt_of_le hk h.size) (fun hmem => by rcases hb k hmem with h1 | h1; exact absurd hk (by omega); exact hn h1)]
    exact h.block k hk hn⟩

/-- The frame of a step: the resources I at the front have become I', facts have been added, all else is as it was. -/
theorem Holds.frame {c : Ctx} {H H' : Hp} {I I' R : Own} {w w' : World} (h : Holds c H (I ++ R) w)
    (hm : Moves w w' (Own.blocks I)) (hmem : Mem H' w') (hle : HLe H H') (hnew : ∀ b o v, H' b o = some v → H b o = some v ∨ w.heap.size ≤ b ∨ b ∈ Own.blocks I)
    (hown : Own.ok I' w') (hsep : Own.Sep I') (hap : ∀ b ∈ Own.blocks I', ∀ o, H' b o = none) (hfr : ∀ b ∈ Own.blocks I', w.heap.size ≤ b ∨ b ∈ Own.blocks I)
    (hth : ∀ b o v, H' b o = some v → H b o = none → ∃ cs T, w'.heap[b]? = some (.cells cs T (0, 0))) :
    Holds c H' (I' ++ R) w' := by
  have hsepR := Own.sep_append.1 h.sep
  have hbR : ∀ b ∈ Own.blocks R, b ∈ Own.blocks (I ++ R) := fun b hb => by rw [Own.blocks_append]; exact List.mem_append_right _ hb
  have hbI : ∀ b ∈ Own.blocks I, b ∈ Own.blocks (I ++ R) := fun b hb => by rw [Own.blocks_append]; exact List.mem_append_left _ hb
  have hRlt : ∀ b ∈ Own.blocks R, b < w.heap.size := fun b hb => h.lt b (hbR b hb)
  have hRI : ∀ b ∈ Own.blocks R, b ∉ Own.blocks I := fun b hb hi => hsepR.2.2 b hi hb
  refine ⟨hmem, ?_, ?_, ?_, ?_, ?_, fun b o v hv => hle b o v (h.hle b o v hv), ?_, ?_⟩
  · intro r hr
    rcases List.mem_append.1 hr with hr | hr
    · exact hown r hr
    · refine Res.ok_of_block (h.own r (List.mem_append_right _ hr)) fun b hb => ?_
      have hbm : b ∈ Own.blocks R := Own.mem_blocks.2 ⟨r, hr, hb⟩
      exact hm.block b (hRlt b hbm) (hRI b hbm)
  · rw [Own.sep_append]
    refine ⟨hsep, hsepR.2.1, fun b hb hb' => ?_⟩
    rcases hfr b hb with h1 | h1
    · exact absurd (hRlt b hb') (by omega)
    · exact hRI b hb' h1
  · intro b hb o
    rw [Own.blocks_append] at hb
    rcases List.mem_append.1 hb with hb | hb
    · exact hap b hb o
    · cases hv : H' b o with
      | none => rfl
      | some v =>
        rcases hnew b o v hv with h1 | h1 | h1
        · rw [h.apart b (hbR b hb) o] at h1; cases h1
        · exact absurd (hRlt b hb) (by omega)
        · exact absurd h1 (hRI b hb)
  · intro b hb
    rw [Own.blocks_append] at hb
    rcases List.mem_append.1 hb with hb | hb
    · rcases hfr b hb with h1 | h1
      · exact .inl (Nat.le_trans h.old.size h1)
      · exact h.fresh b (hbI b h1)
    · exact h.fresh b (hbR b hb)
  · exact h.old.moves hm fun b hb => h.fresh b (hbI b hb)
  · intro b o v hv
    rcases hnew b o v hv with h1 | h1 | h1
    · exact h.hnew b o v h1
    · exact .inr (.inl (Nat.le_trans h.old.size h1))
    · exact .inr (h.fresh b (hbI b h1))
  · intro b o v hv h0
    cases hb : H b o with
    | none => exact hth b o v hv hb
    | some u =>
      obtain ⟨cs, T, hc⟩ := h.thaw b o u hb h0
      refine ⟨cs, T, ?_⟩
      rw [hm.block b (h.mem.lt hb) fun hi => by rw [h.apart b (hbI b hi) o] at hb; cases hb]
      exact hc

/-- facts stay as they are -/
theorem Holds.frameH {c : Ctx} {H : Hp} {I I' R : Own} {w w' : World} (h : Holds c H (I ++ R) w)
    (hm : Moves w w' (Own.blocks I)) (hown : Own.ok I' w') (hsep : Own.Sep I') (hfr : ∀ b ∈ Own.blocks I', w.heap.size ≤ b ∨ b ∈ Own.blocks I) : Holds c H (I' ++ R) w' := by
  have hIap : ∀ b ∈ Own.blocks I, ∀ o, H b o = none := fun b hb => h.apart b (by rw [Own.blocks_append]; exact List.mem_append_left _ hb)
  refine h.frame hm (h.mem.moves hm hIap) (HLe.refl H) (fun b o v hv => .inl hv) hown hsep (fun b hb o => ?_) hfr (fun b o v h1 h2 => by rw [h1] at h2; cases h2)
  rcases hfr b hb with h1 | h1
  · cases hv : H b o with
    | none => rfl
    | some v => exact absurd (h.mem.lt hv) (by omega)
  · exact hIap b h1 o

theorem Own.sep_one (r : Res) : Own.Sep [r] := by simp [Own.Sep]
theorem Own.sep_nil : Own.Sep [] := by simp [Own.Sep]
theorem Own.ok_one {r : Res} {w : World} (h : r.ok w) : Own.ok [r] w := fun r' hr => by simp at hr; subst hr; exact h
theorem Own.ok_nil (w : World) : Own.ok [] w := fun r' hr => by simp at hr
theorem Own.blocks_one (r : Res) : Own.blocks [r] = r.blocks := by simp [Own.blocks]
theorem Own.blocks_nil : Own.blocks [] = [] := rfl
theorem Own.blocks_cons (r : Res) (R : Own) : Own.blocks (r :: R) = r.blocks ++ Own.blocks R := by simp [Own.blocks]

theorem Holds.drew {c : Ctx} {H : Hp} {R : Own} {w : World} (h : Holds c H R w) : Holds c H R w.drew := by
  have := Holds.frameH (I := []) (I' := []) (R := R) h (Moves.drew w _) (Own.ok_nil _) Own.sep_nil (fun b hb => by cases hb)
  exact this
theorem Holds.alloc {c : Ctx} {H : Hp} {R : Own} {w : World} (h : Holds c H R w) (cs : List Value) (T : TypeId) : Holds c H (.box w.heap.size cs :: R) (w.alloc (.cells cs.toArray T (0, 0))) := by
  refine Holds.frameH (I := []) (I' := [.box w.heap.size cs]) (R := R) h (Moves.alloc w _ _) (Own.ok_one ⟨T, heap_alloc_new w _⟩) (Own.sep_one _) (fun b hb => ?_)
  simp [Own.blocks, Res.blocks] at hb
  exact .inl (by omega)

section
variable {F : Fence} {P : Program} {c : Ctx} {o : Oper} {K : SP} {n : Nat} {e : Env} {H : Hp} {M M' L : Own} {D : List Deferred} {dst : Option Tmp} {d : Nat} {ty : TypeId} {pos : String} {after : Array Edge} {g : Option (Nat × Bool)} {x y z : Operand} {v : Value} {t t2 : TypeId} {k b off : Nat}

theorem Ef_of_run (hF : WideF F) {s : Sta} (h : ∀ a w, s.ok c a w → ∃ v w', (execOp a.eval o).run P w = .ok (.value v) w' ∧ ∃ s', s'.ok c (a.put o.dst v) w' ∧ K s') : Ef F P c o s K := by
  intro a w hs
  obtain ⟨v, w', hr, hk⟩ := h a w hs
  refine ⟨fun f _ => hF.fn f, ?_⟩
  rw [Oper.semAt_eq _ _ _ (not_defer_of_value hr), hr]
  exact hk
theorem Ef_of_skip (hF : WideF F) {s : Sta} (hnd : ∀ cl, o.op ≠ .defer cl) (h : ∀ a w, s.ok c a w → ∃ w', (execOp a.eval o).run P w = .ok .skip w' ∧ ∃ s', s'.ok c (a.put o.dst undef) w' ∧ K s') : Ef F P c o s K := by
  intro a w hs
  obtain ⟨w', hr, hk⟩ := h a w hs
  refine ⟨fun f _ => hF.fn f, ?_⟩
  rw [Oper.semAt_eq _ _ _ hnd, hr]
  exact hk

/-- the slot d takes v -/
theorem ok_put {a : Act} {w w' : World} {H' : Hp} {M'' L' : Own} (hs : Sta.ok c ⟨n, e, H, M, L, D⟩ a w) (hn : Nat.blt d n = true) (hh : Holds c H' (M'' ++ L') w') :
    Sta.ok c ⟨n, (d, v) :: e, H', M'', L', D⟩ (a.put (some d) v) w' := by
  have hlt : d < a.tmps.size := by rw [hs.size]; exact Nat.le_of_ble_eq_true hn
  exact ⟨hs.defers, by simpa [Act.put] using hs.size, hs.env.put hlt, hh⟩
theorem ok_keep {a : Act} {w w' : World} {H' : Hp} {M'' L' : Own} (hs : Sta.ok c ⟨n, e, H, M, L, D⟩ a w) (hh : Holds c H' (M'' ++ L') w') :
    Sta.ok c ⟨n, e, H', M'', L', D⟩ a w' := ⟨hs.defers, hs.size, hs.env, hh⟩

class ZeroL (P : Program) (t : TypeId) (zc : outParam (List Value)) : Type where
  zero : ∃ zv, (∀ w, (zeroValue t).run P w = .ok zv w) ∧ zv.cells.toList = zc

/-- var x T -/
theorem Ef_alloc (hF : WideF F) {zc : List Value} [hz : ZeroL P t zc] (hn : Nat.blt d n = true) (k : ∀ b, K ⟨n, (d, .pointer (some ⟨b, 0, none⟩)) :: e, H, .box b zc :: M, L, D⟩) :
    Ef F P c ⟨some d, .alloc t, ty, pos, after, g⟩ ⟨n, e, H, M, L, D⟩ K := Ef_of_run hF fun a w hs => by
  obtain ⟨zv, hrun, hc⟩ := hz.zero
  refine ⟨_, w.alloc (.cells zc.toArray t (0, 0)), ?_, _, ok_put hs hn (hs.holds.alloc zc t), k _⟩
  subst hc
  simp [execOp, Instr.alloc, hrun, newVar, newRow]
/-- a variable with a first value: a struct -/
theorem Ef_boxa (hF : WideF F) {cs : List Value} (hx : e.eval x = some (.agg cs.toArray)) (hn : Nat.blt d n = true) (k : ∀ b, K ⟨n, (d, .pointer (some ⟨b, 0, none⟩)) :: e, H, .box b cs :: M, L, D⟩) :
    Ef F P c ⟨some d, .box t x, ty, pos, after, g⟩ ⟨n, e, H, M, L, D⟩ K := Ef_of_run hF fun a w hs => by
  refine ⟨_, w.alloc (.cells cs.toArray t (0, 0)), ?_, _, ok_put hs hn (hs.holds.alloc cs t), k _⟩
  simp [execOp, hs.env.eval hx, Instr.box, newVar, newRow, Value.cells]
theorem Ef_box1 (hF : WideF F) (hx : e.eval x = some v) (hv : v.oneCell' = true) (hn : Nat.blt d n = true) (k : ∀ b, K ⟨n, (d, .pointer (some ⟨b, 0, none⟩)) :: e, H, .box b [v] :: M, L, D⟩) :
    Ef F P c ⟨some d, .box t x, ty, pos, after, g⟩ ⟨n, e, H, M, L, D⟩ K := Ef_of_run hF fun a w hs => by
  have hc : v.cells = #[v] := by cases v <;> first | rfl | (simp [Value.oneCell'] at hv)
  refine ⟨_, w.alloc (.cells [v].toArray t (0, 0)), ?_, _, ok_put hs hn (hs.holds.alloc [v] t), k _⟩
  simp [execOp, hs.env.eval hx, Instr.box, newVar, newRow, hc]

/-! stores into an owned block; the block stands first -/
def cput (cs : List Value) (o : Nat) (vs : List Value) : List Value := cs.take o ++ vs ++ cs.drop (o + vs.length)
def tset : List Value → Nat → Value → List Value
  | [], _, _ => []
  | _ :: r, 0, v => v :: r
  | u :: r, n + 1, v => u :: tset r n v
theorem tset_eq (l : List Value) (n : Nat) (v : Value) : tset l n v = l.set n v := by
  induction l generalizing n with
  | nil => simp [tset]
  | cons o r ih => cases n with
    | zero => simp [tset]
    | succ n => simp [tset, ih]

theorem Holds.setBox {c : Ctx} {H : Hp} {R : Own} {w : World} {cs cs' : List Value} (h : Holds c H (.box b cs :: R) w) : Holds c H (.box b cs' :: R) (w.setRow b cs'.toArray) := by
  obtain ⟨T, hb⟩ := h.own (.box b cs) (by simp)
  refine Holds.frameH (I := [.box b cs]) (I' := [.box b cs']) (R := R) h ?_ (Own.ok_one ⟨T, setRow_heap w b _ _ T _ hb⟩) (Own.sep_one _) (fun b' hb' => .inr (by simpa [Own.blocks, Res.blocks] using hb'))
  exact (Moves.setRow w b _).mono (by simp [Own.blocks, Res.blocks])

theorem run_store_box {ag : Bool} {w : World} {T : TypeId} {cs vs : List Value} [hT : TyC P t ag vs.length] (hb : w.heap[b]? = some (.cells cs.toArray T (0, 0))) (hl : off + vs.length ≤ cs.length) (h1 : ∀ u ∈ vs, u.oneCell' = true) (hv : v.cells.toList = vs) :
    (Instr.storeAt t (.pointer (some ⟨b, off, none⟩)) v).run P w = .ok () (w.setRow b (cput cs off vs).toArray) := by
  have h2 := run_storeCells_at P b off T vs 0 cs.toArray w hb (by simpa using hl) h1
  have hsz : v.cells.size = vs.length := by rw [← hv]; simp
  simp only [Instr.storeAt, Instr.sureAddr, Sem.run_bind, Sem.run_pure, Result.andThen_ok, storeVar, hT.sizeOf, hsz, ne_eq, not_true_eq_false, if_false, hv, h2, Nat.add_zero, cput]

/-- one cell -/
theorem Ef_store1 (hF : WideF F) {ag : Bool} {cs cs' : List Value} [hT : TyC P t ag 1] (hx : e.eval x = some (.pointer (some ⟨b, off, none⟩))) (hy : e.eval y = some v) (hv : v.oneCell' = true) (hl : Nat.blt off cs.length = true) (hc : tset cs off v = cs')
    (k : K ⟨n, e, H, .box b cs' :: M, L, D⟩) : Ef F P c ⟨none, .store t x y, ty, pos, after, g⟩ ⟨n, e, H, .box b cs :: M, L, D⟩ K := Ef_of_skip hF (by simp) fun a w hs => by
  obtain ⟨T, hb⟩ := hs.holds.own (.box b cs) (by simp)
  have hlt : off < cs.length := Nat.le_of_ble_eq_true hl
  have hvc : v.cells.toList = [v] := by cases v <;> first | rfl | (simp [Value.oneCell'] at hv)
  haveI : TyC P t ag [v].length := hT
  have hr := run_store_box (P := P) (t := t) (off := off) hb (show off + 1 ≤ cs.length from hlt) (by simpa using hv) hvc
  have he : cput cs off [v] = cs' := by
    rw [← hc, tset_eq]
    simp only [cput, List.length_singleton]
    rw [List.set_eq_take_append_cons_drop]
    simp [hlt]
  rw [he] at hr
  refine ⟨_, ?_, _, ok_keep hs (hs.holds.setBox (cs' := cs')), k⟩
  simp [execOp, hs.env.eval hx, hs.env.eval hy, hr]
/-- a struct, or a part of one -/
theorem Ef_storea (hF : WideF F) {ag : Bool} {cs cs' vs : List Value} {k' : Nat} [hT : TyC P t ag k'] (hx : e.eval x = some (.pointer (some ⟨b, off, none⟩))) (hy : e.eval y = some (.agg vs.toArray)) (hk : Nat.beq vs.length k' = true) (hv : vs.all (·.oneCell') = true) (hl : Nat.ble (off + vs.length) cs.length = true)
    (hc : cput cs off vs = cs') (k : K ⟨n, e, H, .box b cs' :: M, L, D⟩) : Ef F P c ⟨none, .store t x y, ty, pos, after, g⟩ ⟨n, e, H, .box b cs :: M, L, D⟩ K := Ef_of_skip hF (by simp) fun a w hs => by
  obtain ⟨T, hb⟩ := hs.holds.own (.box b cs) (by simp)
  have hk' := Nat.eq_of_beq_eq_true hk
  subst hk'
  have hr := run_store_box (P := P) (t := t) (off := off) (vs := vs) (v := .agg vs.toArray) hb (Nat.le_of_ble_eq_true hl) (by simpa using hv) rfl
  rw [hc] at hr
  refine ⟨_, ?_, _, ok_keep hs (hs.holds.setBox (cs' := cs')), k⟩
  simp [execOp, hs.env.eval hx, hs.env.eval hy, hr]
/-- a whole variable -/
theorem Ef_storew (hF : WideF F) {ag : Bool} {cs vs : List Value} {k' : Nat} [hT : TyC P t ag k'] (hx : e.eval x = some (.pointer (some ⟨b, 0, none⟩))) (hy : e.eval y = some (.agg vs.toArray)) (hk : vs.length = k') (hv : vs.all (·.oneCell') = true) (hl : cs.length = vs.length)
    (k : K ⟨n, e, H, .box b vs :: M, L, D⟩) : Ef F P c ⟨none, .store t x y, ty, pos, after, g⟩ ⟨n, e, H, .box b cs :: M, L, D⟩ K := Ef_of_skip hF (by simp) fun a w hs => by
  obtain ⟨T, hb⟩ := hs.holds.own (.box b cs) (by simp)
  subst hk
  have hr := run_store_box (P := P) (t := t) (off := 0) (vs := vs) (v := .agg vs.toArray) hb (by omega) (by simpa using hv) rfl
  have he : cput cs 0 vs = vs := by simp [cput, ← hl]
  rw [he] at hr
  refine ⟨_, ?_, _, ok_keep hs (hs.holds.setBox (cs' := vs)), k⟩
  simp [execOp, hs.env.eval hx, hs.env.eval hy, hr]
end

/-! ### the contract of a function -/
def Fn (P : Program) (f : FuncId) (args : List Value) (H : Hp) (I : Own) (post : Value → Hp → Own → Prop) : Prop :=
  ∀ w, Holds ⟨w, H, Own.blocks I⟩ H I w → Calls P f args.toArray w fun e w' => ∃ v H' I', e = .returned v ∧ Holds ⟨w, H, Own.blocks I⟩ H' I' w' ∧ post v H' I'

theorem Fn.mono {P : Program} {f : FuncId} {args : List Value} {H : Hp} {I : Own} {post post' : Value → Hp → Own → Prop} (h : Fn P f args H I post) (hp : ∀ v H' I', post v H' I' → post' v H' I') : Fn P f args H I post' :=
  fun w hw => (h w hw).mono fun _ _ ⟨v, H', I', he, hh, hq⟩ => ⟨v, H', I', he, hh, hp _ _ _ hq⟩

def EvalAll (e : Env) : List Operand → List Value → Prop
  | [], [] => True
  | x :: xs, v :: vs => e.eval x = some v ∧ EvalAll e xs vs
  | _, _ => False
theorem EvalAll.map {e : Env} {a : Act} (he : EnvOk e a) : ∀ {xs : List Operand} {vs : List Value}, EvalAll e xs vs → xs.map a.eval = vs
  | [], [], _ => rfl
  | x :: xs, v :: vs, h => by simp [he.eval h.1, EvalAll.map he h.2]
  | [], _ :: _, h => h.elim
  | _ :: _, [], h => h.elim

section
variable {F : Fence} {P : Program} {c : Ctx} {o : Oper} {K : SP} {n : Nat} {e : Env} {H : Hp} {M M' L I : Own} {D : List Deferred} {d : Nat} {ty : TypeId} {pos : String} {after : Array Edge} {g : Option (Nat × Bool)} {f : FuncId} {post : Value → Hp → Own → Prop} {at_ : Array TypeId} {args : List Value}

/-- what a caller gets of a contract -/
theorem Calls_of_Fn (h : Fn P f args H I post) {w : World} (hw : Holds c H (I ++ M') w) :
    Calls P f args.toArray w fun e w' => ∃ v H' I', e = .returned v ∧ HLe H H' ∧ Holds c H' (I' ++ M') w' ∧ post v H' I' := by
  have hsub := Own.sep_append.1 hw.sep
  have hI : ∀ b ∈ Own.blocks I, b ∈ Own.blocks (I ++ M') := fun b hb => by rw [Own.blocks_append]; exact List.mem_append_left _ hb
  have h0 : Holds ⟨w, H, Own.blocks I⟩ H I w :=
    ⟨hw.mem, fun r hr => hw.own r (List.mem_append_left _ hr), hsub.1, fun b hb => hw.apart b (hI b hb), fun b hb => .inr hb,
      ⟨rfl, rfl, rfl, Nat.le_refl _, fun _ _ _ => rfl⟩, fun _ _ _ h => h, fun _ _ _ h => .inl h, fun b o v h1 h2 => absurd (h1.symm.trans h2) (by simp)⟩
  refine (h w h0).mono fun e w' ⟨v, H', I', he, hh, hq⟩ => ⟨v, H', I', he, hh.hle, ?_, hq⟩
  refine hw.frame ⟨hh.old.os, hh.old.tape, hh.old.output, hh.old.size, hh.old.block⟩ hh.mem hh.hle hh.hnew hh.own hh.sep hh.apart hh.fresh hh.thaw

theorem execOp_call [hf : FunC P f] {xs : Array Operand} {a : Act} {dst : Option Tmp} (he : EnvOk e a) (hx : EvalAll e xs.toList args) (w : World) :
    (execOp a.eval ⟨dst, .call { callee := .value (.func f), args := xs, argTypes := at_ }, ty, pos, after, g⟩).run P w = .ok (.enter f args.toArray) w := by
  have hm := EvalAll.map he hx
  have hm' : xs.map a.eval = args.toArray := by
    apply Array.ext'
    simpa using hm
  simp only [execOp, resolve, hm', Act.eval, Deferred.ofValue, Sem.run_bind, Sem.run_pure, Result.andThen_ok, invoke, List.append_toArray, List.nil_append]
  rw [List.append_nil, hf.run]

/-- a call of a named function -/
theorem Ef_call (hF : WideF F) [hf : FunC P f] {xs : Array Operand} (h : Fn P f args H I post) (hx : EvalAll e xs.toList args) (hn : Nat.blt d n = true)
    (k : ∀ v H' I', HLe H H' → post v H' I' → K ⟨n, (d, v) :: e, H', I' ++ M', L, D⟩) :
    Ef F P c ⟨some d, .call { callee := .value (.func f), args := xs, argTypes := at_ }, ty, pos, after, g⟩ ⟨n, e, H, I ++ M', L, D⟩ K := by
  intro a w hs
  have hr := execOp_call (P := P) (f := f) (ty := ty) (pos := pos) (after := after) (g := g) (at_ := at_) (dst := some d) hs.env hx w
  refine ⟨fun f _ => hF.fn f, ?_⟩
  rw [Oper.semAt_eq _ _ _ (by simp), hr]
  refine ⟨(fun hd => (by rw [hF.depth] at hd; cases hd)), callsIn_of_calls hF ?_⟩
  have hh0 : Holds c H (I ++ (M' ++ L)) w := by have := hs.holds; simpa [List.append_assoc] using this
  refine (Calls_of_Fn h hh0).mono ?_
  rintro e' w' ⟨v, H', I', he, hle, hh, hq⟩
  subst he
  exact ⟨_, ok_put hs hn (M'' := I' ++ M') (by simpa [List.append_assoc] using hh), k v H' I' hle hq⟩
/-- .. that only computes -/
def FnP (P : Program) (f : FuncId) (args : List Value) (H : Hp) (v : Value) : Prop := Fn P f args H [] fun v' H' I' => v' = v ∧ H' = H ∧ I' = []
theorem Ef_callp (hF : WideF F) [hf : FunC P f] {xs : Array Operand} {v : Value} (h : FnP P f args H v) (hx : EvalAll e xs.toList args) (hn : Nat.blt d n = true)
    (k : K ⟨n, (d, v) :: e, H, M, L, D⟩) :
    Ef F P c ⟨some d, .call { callee := .value (.func f), args := xs, argTypes := at_ }, ty, pos, after, g⟩ ⟨n, e, H, M, L, D⟩ K :=
  Ef_call (I := []) (M' := M) hF h hx hn fun v' H' I' _ ⟨h1, h2, h3⟩ => by subst h1 h2 h3; exact k

/-! ### from a walk to a contract -/
def ofArgs : Nat → List Value → Env
  | _, [] => []
  | i, v :: r => (i, v) :: ofArgs (i + 1) r
/-- the results of a function, read off the state -/
def RetOk (P : Program) (fn : Func) (s : Sta) (v : Value) : Prop := ∀ a w, EnvOk s.env a → Own.ok (s.M ++ s.L) w → (results fn a.tmps).run P w = .ok v w

theorem ofArgs_ok (args : List Value) (m : Nat) : ∀ t v, (ofArgs 0 args).find t = some v → (args.toArray ++ Array.replicate m undef)[t]? = some v := by
  have key : ∀ (args : List Value) (i t : Nat) (v : Value), (ofArgs i args).find t = some v → i ≤ t ∧ args[t - i]? = some v := by
    intro args
    induction args with
    | nil => intro i t v h; simp [ofArgs, Env.find] at h
    | cons u r ih =>
      intro i t v h
      simp only [ofArgs, Env.find] at h
      cases hb : Nat.beq i t with
      | true =>
        rw [hb] at h; simp at h; subst h
        have := Nat.eq_of_beq_eq_true hb
        subst this
        exact ⟨Nat.le_refl _, by simp⟩
      | false =>
        rw [hb] at h
        obtain ⟨h1, h2⟩ := ih (i + 1) t v h
        refine ⟨by omega, ?_⟩
        rw [show t - i = (t - (i + 1)) + 1 by omega]
        simpa using h2
  intro t v h
  obtain ⟨_, h2⟩ := key args 0 t v h
  have hlt : t < args.length := (List.getElem?_eq_some_iff.1 (by simpa using h2)).1
  rw [Array.getElem?_append_left (by simpa using hlt)]
  simpa using h2

/-- the end of a walk: the results are read off, then what is not handed on is given up -/
def EndOf (c : Ctx) (P : Program) (fn : Func) (post : Value → Hp → Own → Prop) : SP := fun s => ∃ v, RetOk P fn s v ∧ s.D = [] ∧ Shift c (fun s' => s'.L = [] ∧ post v s'.H s'.M) s

theorem Fn_of (fn : Func) (code : Code) (hf : P.funcs[f]? = some fn) (hb : fn.body = some code) {N : Nat} (hN : fn.ntmps = N) (hle : Nat.ble args.length N = true)
    (h : ∀ c : Ctx, wpA Fence.wide P c code (Shift c (EndOf c P fn post)) [] (Shift c (EndOf c P fn post)) ⟨N, ofArgs 0 args, H, I, [], []⟩) :
    Fn P f args H I post := by
  intro w hw
  rw [← callsIn_wide (n := 0)]
  refine callsIn_of_wp hf hb trivial (wpIn_mono (h _ { tmps := args.toArray ++ Array.replicate (fn.ntmps - args.toArray.size) undef, defers := [] } w ⟨rfl, ?_, ofArgs_ok args _, by simpa using hw⟩) ?_)
  · have := Nat.le_of_ble_eq_true hle
    simp [hN]; omega
  · intro e a w' q
    have fin : (∃ s, Sta.ok ⟨w, H, Own.blocks I⟩ s a w' ∧ (Shift ⟨w, H, Own.blocks I⟩ (EndOf ⟨w, H, Own.blocks I⟩ P fn post)) s) →
        a.defers = [] ∧ ∃ v, (results fn a.tmps).run P w' = .ok v w' ∧ ∃ v' H' I', Ending.returned v = .returned v' ∧ Holds ⟨w, H, Own.blocks I⟩ H' I' w' ∧ post v' H' I' := by
      rintro ⟨s, hs, hsh⟩
      obtain ⟨s', hs', v, hr, hd, hsh'⟩ := hsh a w' hs
      obtain ⟨s'', hs'', hl, hp⟩ := hsh' a w' hs'
      refine ⟨hs'.defers.trans hd, v, hr a w' hs'.env hs'.holds.own, v, s''.H, s''.M, rfl, ?_, hp⟩
      have := hs''.holds
      rw [hl] at this
      simpa using this
    cases e with
    | normal => exact fin q
    | ret => exact fin q
    | exit id => obtain ⟨s, hs, K', hx, _⟩ := q; simp [xfind] at hx
    | goto l => exact q
    | panic ch => exact q.elim
    | outgrown => exact q.elim
end
theorem Env.find_self_le (e : Env) : ∀ (a : Act), EnvOk e a → EnvOk e a := fun _ h => h
theorem ok_drop {c : Ctx} {n : Nat} {e : Env} {H : Hp} {M L : Own} {D : List Deferred} {a : Act} {w : World} (hs : Sta.ok c ⟨n, e, H, M, L, D⟩ a w) : Sta.ok c ⟨n, e, H, [], [], D⟩ a w :=
  ⟨hs.defers, hs.size, hs.env, hs.holds.sub ⟨[], by simp, by simp, rfl⟩⟩
theorem End_p {c : Ctx} {P : Program} {fn : Func} {n : Nat} {e : Env} {H : Hp} {M L : Own} {v v' : Value} (h : RetOk P fn ⟨n, e, H, M, L, []⟩ v) (hv : v = v') :
    Shift c (EndOf c P fn fun u H' I' => u = v' ∧ H' = H ∧ I' = []) ⟨n, e, H, M, L, []⟩ :=
  Shift.pure ⟨v, h, rfl, fun _ _ hs => ⟨_, ok_drop hs, rfl, hv, rfl, rfl⟩⟩
/-- .. and gives up what it owns -/
theorem End_e {c : Ctx} {P : Program} {fn : Func} {n : Nat} {e : Env} {H : Hp} {M L : Own} {v : Value} {post : Value → Hp → Own → Prop} (h : RetOk P fn ⟨n, e, H, M, L, []⟩ v) (hv : post v H []) :
    Shift c (EndOf c P fn post) ⟨n, e, H, M, L, []⟩ := Shift.pure ⟨v, h, rfl, fun _ _ hs => ⟨_, ok_drop hs, rfl, hv⟩⟩
/-- .. and hands on what it owns -/
theorem End_m {c : Ctx} {P : Program} {fn : Func} {n : Nat} {e : Env} {H : Hp} {M : Own} {v : Value} {post : Value → Hp → Own → Prop} (h : RetOk P fn ⟨n, e, H, M, [], []⟩ v) (hv : post v H M) :
    Shift c (EndOf c P fn post) ⟨n, e, H, M, [], []⟩ := Shift.pure ⟨v, h, rfl, Shift.pure ⟨rfl, hv⟩⟩

section
variable {P : Program} {fn : Func} {n : Nat} {e : Env} {H : Hp} {M L : Own} {D : List Deferred} {v v1 v2 v3 : Value} {t t1 t2 t3 : Nat}
theorem Ret0 (h : fn.results = #[]) : RetOk P fn ⟨n, e, H, M, L, D⟩ (.tuple #[]) := fun a w _ _ => results_none h _ _ _
theorem Ret1 (h : fn.results = #[.tmp t]) (h1 : e.find t = some v) : RetOk P fn ⟨n, e, H, M, L, D⟩ v := fun a w he _ => by
  rw [results_tmp h]; simp [he _ _ h1]
theorem Ret2 (h : fn.results = #[.tmp t1, .tmp t2]) (h1 : e.find t1 = some v1) (h2 : e.find t2 = some v2) : RetOk P fn ⟨n, e, H, M, L, D⟩ (.tuple [v1, v2].toArray) := fun a w he _ => by
  rw [results_tmp2 h]; simp [he _ _ h1, he _ _ h2]
theorem Ret3 (h : fn.results = #[.tmp t1, .tmp t2, .tmp t3]) (h1 : e.find t1 = some v1) (h2 : e.find t2 = some v2) (h3 : e.find t3 = some v3) : RetOk P fn ⟨n, e, H, M, L, D⟩ (.tuple [v1, v2, v3].toArray) := fun a w he _ => by
  rw [results_tmp3 h]; simp [he _ _ h1, he _ _ h2, he _ _ h3]
/-- a result that lies in a variable: a struct -/
theorem RetC {T k b i : Nat} {cs : List Value} [hT : TyC P T true k] (h : fn.results = #[.cell t T]) (h1 : e.find t = some (.pointer (some ⟨b, 0, none⟩))) (hR : oget M i = some (.box b cs)) (hk : cs.length = k) : RetOk P fn ⟨n, e, H, M, L, D⟩ (.agg cs.toArray) := fun a w he hr => by
  obtain ⟨T', hb⟩ := hr _ (List.mem_append_left _ (oget_mem hR))
  have h2 := run_load_agg (P := P) (t := T) (w := w) (b := b) (o := 0) hk (fun j v hj => cell_of_heap hb (by simpa using hj))
  simp only [Instr.loadAt, Instr.sureAddr, Sem.run_bind, Sem.run_pure, Result.andThen_ok] at h2
  simp [results, h, he _ _ h1, asAddr, h2]
end
end Go.Proofs.Ythniohgeojenaaa
