import Derived.Test.YtnoadopmeoohmaaGreatDoorZ01
import Derived.Great.BuildSlice
/-
  Operations that turn the world: new blocks, stores into owned blocks, calls; the contract of a function.
  Owned rows: literals of slices, append, stores into an element; owned blocks brought forward, or turned into persistent facts.
  Regions that draw their order: a plan (a canonical order) serves every order.
-/
namespace Go.Proofs.YtnoadopmeoohmaaGreatDoor
open Go
set_option linter.unusedVariables false
set_option linter.unusedSimpArgs false
section
/-! Operations that turn the world: new blocks, stores into owned blocks, calls; the contract of a function. -/
/-! ### the world moves on -/
structure Moves (w w' : World) (bs : List Nat) : Prop where
  os : w'.os = w.os
  tape : w'.tape = w.tape
  output : w'.output = w.output
  size : w.heap.size ≤ w'.heap.size
  block : ∀ k, k < w.heap.size → k ∉ bs → w'.heap[k]? = w.heap[k]?
theorem Moves.refl (w : World) (bs : List Nat) : Moves w w bs := ⟨rfl, rfl, rfl, Nat.le_refl _, fun _ _ _ => rfl⟩
theorem Moves.trans {w w1 w2 : World} {bs : List Nat} (h : Moves w w1 bs) (h' : Moves w1 w2 bs) : Moves w w2 bs :=
  ⟨h'.os.trans h.os, h'.tape.trans h.tape, h'.output.trans h.output, Nat.le_trans h.size h'.size, fun k hk hn => (h'.block k (Nat.lt_of_lt_of_le hk h.size) hn).trans (h.block k hk hn)⟩
theorem Moves.mono {w w' : World} {bs bs' : List Nat} (h : Moves w w' bs) (hs : ∀ b ∈ bs, b ∈ bs') : Moves w w' bs' :=
  ⟨h.os, h.tape, h.output, h.size, fun k hk hn => h.block k hk fun hb => hn (hs k hb)⟩
theorem Moves.alloc (w : World) (o : Obj) (bs : List Nat) : Moves w (w.alloc o) bs :=
  ⟨rfl, rfl, rfl, by simp, fun k hk _ => RowKit.Below.heap_alloc w o k hk⟩
theorem Moves.drew (w : World) (bs : List Nat) : Moves w w.drew bs := ⟨rfl, rfl, rfl, Nat.le_refl _, fun _ _ _ => rfl⟩
theorem Moves.setRow (w : World) (g : Nat) (cs : Array Value) : Moves w (w.setRow g cs) [g] :=
  ⟨rfl, rfl, rfl, by simp, fun k _ hn => setRow_other w g k cs (by simpa using hn)⟩
theorem Mem.moves {H : Hp} {w w' : World} {bs : List Nat} (h : Mem H w) (hm : Moves w w' bs) (hb : ∀ b ∈ bs, ∀ o, H b o = none) : Mem H w' := by
  intro b o v hv
  obtain ⟨h1, h2⟩ := h b o v hv
  refine ⟨?_, h2⟩
  have hlt := h.lt hv
  have hn : b ∉ bs := fun hm => by rw [hb b hm o] at hv; cases hv
  have := hm.block b hlt hn
  rw [World.cell?_of_block (w := w) (a := ⟨b, o, none⟩) this]
  exact h1
theorem Old.moves {c : Ctx} {w w' : World} {bs : List Nat} (h : Old c w) (hm : Moves w w' bs) (hb : ∀ b ∈ bs, c.w0.heap.size ≤ b ∨ b ∈ c.X) : Old c w' :=
  ⟨hm.os.trans h.os, hm.tape.trans h.tape, hm.output.trans h.output, Nat.le_trans h.size hm.size, fun k hk hn => by
    rw [hm.block k (Nat.lt_of_lt_of_le hk h.size) (fun hmem => by rcases hb k hmem with h1 | h1; exact absurd hk (by omega); exact hn h1)]
    exact h.block k hk hn⟩
/-- The frame of a step: the resources I at the front have become I', facts have been added, all else is as it was. -/
theorem Holds.frame {c : Ctx} {H H' : Hp} {I I' R : Own} {w w' : World} (h : Holds c H (I ++ R) w)
    (hm : Moves w w' (Own.blocks I)) (hmem : Mem H' w') (hle : HLe H H') (hnew : ∀ b o v, H' b o = some v → H b o = some v ∨ w.heap.size ≤ b ∨ b ∈ Own.blocks I)
    (hown : Own.ok I' w') (hsep : Own.Sep I') (hap : ∀ b ∈ Own.blocks I', ∀ o, H' b o = none) (hfr : ∀ b ∈ Own.blocks I', w.heap.size ≤ b ∨ b ∈ Own.blocks I)
    (hth : ∀ b o v, H' b o = some v → H b o = none → ∃ cs T, w'.heap[b]? = some (.cells cs T (0, 0))) :
    Holds c H' (I' ++ R) w' := by
  have hsepR := Own.sep_append.1 h.sep
  have hbR : ∀ b ∈ Own.blocks R, b ∈ Own.blocks (I ++ R) := fun b hb => by rw [Own.blocks_append]; exact List.mem_append_right _ hb
  have hbI : ∀ b ∈ Own.blocks I, b ∈ Own.blocks (I ++ R) := fun b hb => by rw [Own.blocks_append]; exact List.mem_append_left _ hb
  have hRlt : ∀ b ∈ Own.blocks R, b < w.heap.size := fun b hb => h.lt b (hbR b hb)
  have hRI : ∀ b ∈ Own.blocks R, b ∉ Own.blocks I := fun b hb hi => hsepR.2.2 b hi hb
  refine ⟨hmem, ?_, ?_, ?_, ?_, ?_, fun b o v hv => hle b o v (h.hle b o v hv), ?_, ?_, h.gl⟩
  · intro r hr
    rcases List.mem_append.1 hr with hr | hr
    · exact hown r hr
    · refine Res.ok_of_block (h.own r (List.mem_append_right _ hr)) fun b hb => ?_
      have hbm : b ∈ Own.blocks R := Own.mem_blocks.2 ⟨r, hr, hb⟩
      exact hm.block b (hRlt b hbm) (hRI b hbm)
  · rw [Own.sep_append]
    refine ⟨hsep, hsepR.2.1, fun b hb hb' => ?_⟩
    rcases hfr b hb with h1 | h1
    · exact absurd (hRlt b hb') (by omega)
    · exact hRI b hb' h1
  · intro b hb o
    rw [Own.blocks_append] at hb
    rcases List.mem_append.1 hb with hb | hb
    · exact hap b hb o
    · cases hv : H' b o with
      | none => rfl
      | some v =>
        rcases hnew b o v hv with h1 | h1 | h1
        · rw [h.apart b (hbR b hb) o] at h1; cases h1
        · exact absurd (hRlt b hb) (by omega)
        · exact absurd h1 (hRI b hb)
  · intro b hb
    rw [Own.blocks_append] at hb
    rcases List.mem_append.1 hb with hb | hb
    · rcases hfr b hb with h1 | h1
      · exact .inl (Nat.le_trans h.old.size h1)
      · exact h.fresh b (hbI b h1)
    · exact h.fresh b (hbR b hb)
  · exact h.old.moves hm fun b hb => h.fresh b (hbI b hb)
  · intro b o v hv
    rcases hnew b o v hv with h1 | h1 | h1
    · exact h.hnew b o v h1
    · exact .inr (.inl (Nat.le_trans h.old.size h1))
    · exact .inr (h.fresh b (hbI b h1))
  · intro b o v hv h0
    cases hb : H b o with
    | none => exact hth b o v hv hb
    | some u =>
      obtain ⟨cs, T, hc⟩ := h.thaw b o u hb h0
      refine ⟨cs, T, ?_⟩
      rw [hm.block b (h.mem.lt hb) fun hi => by rw [h.apart b (hbI b hi) o] at hb; cases hb]
      exact hc
/-- facts stay as they are -/
theorem Holds.frameH {c : Ctx} {H : Hp} {I I' R : Own} {w w' : World} (h : Holds c H (I ++ R) w)
    (hm : Moves w w' (Own.blocks I)) (hown : Own.ok I' w') (hsep : Own.Sep I') (hfr : ∀ b ∈ Own.blocks I', w.heap.size ≤ b ∨ b ∈ Own.blocks I) : Holds c H (I' ++ R) w' := by
  have hIap : ∀ b ∈ Own.blocks I, ∀ o, H b o = none := fun b hb => h.apart b (by rw [Own.blocks_append]; exact List.mem_append_left _ hb)
  refine h.frame hm (h.mem.moves hm hIap) (HLe.refl H) (fun b o v hv => .inl hv) hown hsep (fun b hb o => ?_) hfr (fun b o v h1 h2 => by rw [h1] at h2; cases h2)
  rcases hfr b hb with h1 | h1
  · cases hv : H b o with
    | none => rfl
    | some v => exact absurd (h.mem.lt hv) (by omega)
  · exact hIap b h1 o
theorem Own.sep_one (r : Res) : Own.Sep [r] := by simp [Own.Sep]
theorem Own.sep_nil : Own.Sep [] := by simp [Own.Sep]
theorem Own.ok_one {r : Res} {w : World} (h : r.ok w) : Own.ok [r] w := fun r' hr => by simp at hr; subst hr; exact h
theorem Own.ok_nil (w : World) : Own.ok [] w := fun r' hr => by simp at hr
theorem Own.blocks_one (r : Res) : Own.blocks [r] = r.blocks := by simp [Own.blocks]
theorem Holds.drew {c : Ctx} {H : Hp} {R : Own} {w : World} (h : Holds c H R w) : Holds c H R w.drew := by
  have := Holds.frameH (I := []) (I' := []) (R := R) h (Moves.drew w _) (Own.ok_nil _) Own.sep_nil (fun b hb => by cases hb)
  exact this
theorem Holds.alloc {c : Ctx} {H : Hp} {R : Own} {w : World} (h : Holds c H R w) (cs : List Value) (T : TypeId) : Holds c H (.box w.heap.size cs :: R) (w.alloc (.cells cs.toArray T (0, 0))) := by
  refine Holds.frameH (I := []) (I' := [.box w.heap.size cs]) (R := R) h (Moves.alloc w _ _) (Own.ok_one ⟨T, heap_alloc_new w _⟩) (Own.sep_one _) (fun b hb => ?_)
  simp [Own.blocks, Res.blocks] at hb
  exact .inl (by omega)
section
variable {F : Fence} {P : Program} {c : Ctx} {o : Oper} {K : SP} {n : Nat} {e : Env} {H : Hp} {M M' L : Own} {D : List Deferred} {dst : Option Tmp} {d : Nat} {ty : TypeId} {pos : String} {after : Array Edge} {g : Option (Nat × Bool)} {x y z : Operand} {v : Value} {t t2 : TypeId} {k b off : Nat}
theorem Ef_of_run (hF : WideF F) {s : Sta} (h : ∀ a w, s.ok c a w → ∃ v w', (execOp a.eval o).run P w = .ok (.value v) w' ∧ ∃ s', s'.ok c (a.put o.dst v) w' ∧ K s') : Ef F P c o s K := by
  intro a w hs
  obtain ⟨v, w', hr, hk⟩ := h a w hs
  refine ⟨fun f _ => hF.fn f, ?_⟩
  rw [Oper.semAt_eq _ _ _ (not_defer_of_value hr), hr]
  exact hk
theorem Ef_of_skip (hF : WideF F) {s : Sta} (hnd : ∀ cl, o.op ≠ .defer cl) (h : ∀ a w, s.ok c a w → ∃ w', (execOp a.eval o).run P w = .ok .skip w' ∧ ∃ s', s'.ok c (a.put o.dst undef) w' ∧ K s') : Ef F P c o s K := by
  intro a w hs
  obtain ⟨w', hr, hk⟩ := h a w hs
  refine ⟨fun f _ => hF.fn f, ?_⟩
  rw [Oper.semAt_eq _ _ _ hnd, hr]
  exact hk
/-- the slot d takes v -/
theorem ok_put {a : Act} {w w' : World} {H' : Hp} {M'' L' : Own} (hs : Sta.ok c ⟨n, e, H, M, L, D⟩ a w) (hn : Nat.blt d n = true) (hh : Holds c H' (M'' ++ L') w') :
    Sta.ok c ⟨n, (d, v) :: e, H', M'', L', D⟩ (a.put (some d) v) w' := by
  have hlt : d < a.tmps.size := by rw [hs.size]; exact Nat.le_of_ble_eq_true hn
  exact ⟨hs.defers, by simpa [Act.put] using hs.size, hs.env.put hlt, hh⟩
theorem ok_keep {a : Act} {w w' : World} {H' : Hp} {M'' L' : Own} (hs : Sta.ok c ⟨n, e, H, M, L, D⟩ a w) (hh : Holds c H' (M'' ++ L') w') :
    Sta.ok c ⟨n, e, H', M'', L', D⟩ a w' := ⟨hs.defers, hs.size, hs.env, hh⟩
class ZeroL (P : Program) (t : TypeId) (zc : outParam (List Value)) : Type where
  zero : ∃ zv, (∀ w, (zeroValue t).run P w = .ok zv w) ∧ zv.cells.toList = zc
/-- var x T -/
theorem Ef_alloc (hF : WideF F) {zc : List Value} [hz : ZeroL P t zc] (hn : Nat.blt d n = true) (k : ∀ b, K ⟨n, (d, .pointer (some ⟨b, 0, none⟩)) :: e, H, .box b zc :: M, L, D⟩) :
    Ef F P c ⟨some d, .alloc t, ty, pos, after, g⟩ ⟨n, e, H, M, L, D⟩ K := Ef_of_run hF fun a w hs => by
  obtain ⟨zv, hrun, hc⟩ := hz.zero
  refine ⟨_, w.alloc (.cells zc.toArray t (0, 0)), ?_, _, ok_put hs hn (hs.holds.alloc zc t), k _⟩
  subst hc
  simp [execOp, Instr.alloc, hrun, newVar, newRow]
/-- a variable with a first value: a struct -/
theorem Ef_boxa (hF : WideF F) {cs : List Value} (hx : e.eval x = some (.agg cs.toArray)) (hn : Nat.blt d n = true) (k : ∀ b, K ⟨n, (d, .pointer (some ⟨b, 0, none⟩)) :: e, H, .box b cs :: M, L, D⟩) :
    Ef F P c ⟨some d, .box t x, ty, pos, after, g⟩ ⟨n, e, H, M, L, D⟩ K := Ef_of_run hF fun a w hs => by
  refine ⟨_, w.alloc (.cells cs.toArray t (0, 0)), ?_, _, ok_put hs hn (hs.holds.alloc cs t), k _⟩
  simp [execOp, hs.env.eval hx, Instr.box, newVar, newRow, Value.cells]
theorem Ef_box1 (hF : WideF F) (hx : e.eval x = some v) (hv : v.oneCell' = true) (hn : Nat.blt d n = true) (k : ∀ b, K ⟨n, (d, .pointer (some ⟨b, 0, none⟩)) :: e, H, .box b [v] :: M, L, D⟩) :
    Ef F P c ⟨some d, .box t x, ty, pos, after, g⟩ ⟨n, e, H, M, L, D⟩ K := Ef_of_run hF fun a w hs => by
  have hc : v.cells = #[v] := by cases v <;> first | rfl | (simp [Value.oneCell'] at hv)
  refine ⟨_, w.alloc (.cells [v].toArray t (0, 0)), ?_, _, ok_put hs hn (hs.holds.alloc [v] t), k _⟩
  simp [execOp, hs.env.eval hx, Instr.box, newVar, newRow, hc]
/-! stores into an owned block; the block stands first -/
def cput (cs : List Value) (o : Nat) (vs : List Value) : List Value := cs.take o ++ vs ++ cs.drop (o + vs.length)
def tset : List Value → Nat → Value → List Value
  | [], _, _ => []
  | _ :: r, 0, v => v :: r
  | u :: r, n + 1, v => u :: tset r n v
theorem tset_eq (l : List Value) (n : Nat) (v : Value) : tset l n v = l.set n v := by
  induction l generalizing n with
  | nil => simp [tset]
  | cons o r ih => cases n with
    | zero => simp [tset]
    | succ n => simp [tset, ih]
theorem Holds.setBox {c : Ctx} {H : Hp} {R : Own} {w : World} {cs cs' : List Value} (h : Holds c H (.box b cs :: R) w) : Holds c H (.box b cs' :: R) (w.setRow b cs'.toArray) := by
  obtain ⟨T, hb⟩ := h.own (.box b cs) (by simp)
  refine Holds.frameH (I := [.box b cs]) (I' := [.box b cs']) (R := R) h ?_ (Own.ok_one ⟨T, setRow_heap w b _ _ T _ hb⟩) (Own.sep_one _) (fun b' hb' => .inr (by simpa [Own.blocks, Res.blocks] using hb'))
  exact (Moves.setRow w b _).mono (by simp [Own.blocks, Res.blocks])
theorem run_store_box {ag : Bool} {w : World} {T : TypeId} {cs vs : List Value} [hT : TyC P t ag vs.length] (hb : w.heap[b]? = some (.cells cs.toArray T (0, 0))) (hl : off + vs.length ≤ cs.length) (h1 : ∀ u ∈ vs, u.oneCell' = true) (hv : v.cells.toList = vs) :
    (Instr.storeAt t (.pointer (some ⟨b, off, none⟩)) v).run P w = .ok () (w.setRow b (cput cs off vs).toArray) := by
  have h2 := run_storeCells_at P b off T vs 0 cs.toArray w hb (by simpa using hl) h1
  have hsz : v.cells.size = vs.length := by rw [← hv]; simp
  simp only [Instr.storeAt, Instr.sureAddr, Sem.run_bind, Sem.run_pure, Result.andThen_ok, storeVar, hT.sizeOf, hsz, ne_eq, not_true_eq_false, if_false, hv, h2, Nat.add_zero, cput]
/-- one cell -/
theorem Ef_store1 (hF : WideF F) {ag : Bool} {cs cs' : List Value} [hT : TyC P t ag 1] (hx : e.eval x = some (.pointer (some ⟨b, off, none⟩))) (hy : e.eval y = some v) (hv : v.oneCell' = true) (hl : Nat.blt off cs.length = true) (hc : tset cs off v = cs')
    (k : K ⟨n, e, H, .box b cs' :: M, L, D⟩) : Ef F P c ⟨none, .store t x y, ty, pos, after, g⟩ ⟨n, e, H, .box b cs :: M, L, D⟩ K := Ef_of_skip hF (by simp) fun a w hs => by
  obtain ⟨T, hb⟩ := hs.holds.own (.box b cs) (by simp)
  have hlt : off < cs.length := Nat.le_of_ble_eq_true hl
  have hvc : v.cells.toList = [v] := by cases v <;> first | rfl | (simp [Value.oneCell'] at hv)
  haveI : TyC P t ag [v].length := hT
  have hr := run_store_box (P := P) (t := t) (off := off) hb (show off + 1 ≤ cs.length from hlt) (by simpa using hv) hvc
  have he : cput cs off [v] = cs' := by
    rw [← hc, tset_eq]
    simp only [cput, List.length_singleton]
    rw [List.set_eq_take_append_cons_drop]
    simp [hlt]
  rw [he] at hr
  refine ⟨_, ?_, _, ok_keep hs (hs.holds.setBox (cs' := cs')), k⟩
  simp [execOp, hs.env.eval hx, hs.env.eval hy, hr]
/-- a struct, or a part of one -/
theorem Ef_storea (hF : WideF F) {ag : Bool} {cs cs' vs : List Value} {k' : Nat} [hT : TyC P t ag k'] (hx : e.eval x = some (.pointer (some ⟨b, off, none⟩))) (hy : e.eval y = some (.agg vs.toArray)) (hk : Nat.beq vs.length k' = true) (hv : vs.all (·.oneCell') = true) (hl : Nat.ble (off + vs.length) cs.length = true)
    (hc : cput cs off vs = cs') (k : K ⟨n, e, H, .box b cs' :: M, L, D⟩) : Ef F P c ⟨none, .store t x y, ty, pos, after, g⟩ ⟨n, e, H, .box b cs :: M, L, D⟩ K := Ef_of_skip hF (by simp) fun a w hs => by
  obtain ⟨T, hb⟩ := hs.holds.own (.box b cs) (by simp)
  have hk' := Nat.eq_of_beq_eq_true hk
  subst hk'
  have hr := run_store_box (P := P) (t := t) (off := off) (vs := vs) (v := .agg vs.toArray) hb (Nat.le_of_ble_eq_true hl) (by simpa using hv) rfl
  rw [hc] at hr
  refine ⟨_, ?_, _, ok_keep hs (hs.holds.setBox (cs' := cs')), k⟩
  simp [execOp, hs.env.eval hx, hs.env.eval hy, hr]
/-- a whole variable -/
theorem Ef_storew (hF : WideF F) {ag : Bool} {cs vs : List Value} {k' : Nat} [hT : TyC P t ag k'] (hx : e.eval x = some (.pointer (some ⟨b, 0, none⟩))) (hy : e.eval y = some (.agg vs.toArray)) (hk : vs.length = k') (hv : vs.all (·.oneCell') = true) (hl : cs.length = vs.length)
    (k : K ⟨n, e, H, .box b vs :: M, L, D⟩) : Ef F P c ⟨none, .store t x y, ty, pos, after, g⟩ ⟨n, e, H, .box b cs :: M, L, D⟩ K := Ef_of_skip hF (by simp) fun a w hs => by
  obtain ⟨T, hb⟩ := hs.holds.own (.box b cs) (by simp)
  subst hk
  have hr := run_store_box (P := P) (t := t) (off := 0) (vs := vs) (v := .agg vs.toArray) hb (by omega) (by simpa using hv) rfl
  have he : cput cs 0 vs = vs := by simp [cput, ← hl]
  rw [he] at hr
  refine ⟨_, ?_, _, ok_keep hs (hs.holds.setBox (cs' := vs)), k⟩
  simp [execOp, hs.env.eval hx, hs.env.eval hy, hr]
end
/-! ### the contract of a function -/
def Fn (P : Program) (f : FuncId) (args : List Value) (H : Hp) (I : Own) (post : Value → Hp → Own → Prop) : Prop :=
  ∀ w, Holds ⟨w, H, Own.blocks I, noPn⟩ H I w → Calls P f args.toArray w fun e w' => ∃ v H' I', e = .returned v ∧ Holds ⟨w, H, Own.blocks I, noPn⟩ H' I' w' ∧ post v H' I'
def EvalAll (e : Env) : List Operand → List Value → Prop
  | [], [] => True
  | x :: xs, v :: vs => e.eval x = some v ∧ EvalAll e xs vs
  | _, _ => False
theorem EvalAll.map {e : Env} {a : Act} (he : EnvOk e a) : ∀ {xs : List Operand} {vs : List Value}, EvalAll e xs vs → xs.map a.eval = vs
  | [], [], _ => rfl
  | x :: xs, v :: vs, h => by simp [he.eval h.1, EvalAll.map he h.2]
  | [], _ :: _, h => h.elim
  | _ :: _, [], h => h.elim
section
variable {F : Fence} {P : Program} {c : Ctx} {o : Oper} {K : SP} {n : Nat} {e : Env} {H : Hp} {M M' L I : Own} {D : List Deferred} {d : Nat} {ty : TypeId} {pos : String} {after : Array Edge} {g : Option (Nat × Bool)} {f : FuncId} {post : Value → Hp → Own → Prop} {at_ : Array TypeId} {args : List Value}
/-- what a caller gets of a contract -/
theorem Calls_of_Fn (h : Fn P f args H I post) {w : World} (hw : Holds c H (I ++ M') w) :
    Calls P f args.toArray w fun e w' => ∃ v H' I', e = .returned v ∧ HLe H H' ∧ Holds c H' (I' ++ M') w' ∧ post v H' I' := by
  have hsub := Own.sep_append.1 hw.sep
  have hI : ∀ b ∈ Own.blocks I, b ∈ Own.blocks (I ++ M') := fun b hb => by rw [Own.blocks_append]; exact List.mem_append_left _ hb
  have h0 : Holds ⟨w, H, Own.blocks I, noPn⟩ H I w :=
    ⟨hw.mem, fun r hr => hw.own r (List.mem_append_left _ hr), hsub.1, fun b hb => hw.apart b (hI b hb), fun b hb => .inr hb,
      ⟨rfl, rfl, rfl, Nat.le_refl _, fun _ _ _ => rfl⟩, fun _ _ _ h => h, fun _ _ _ h => .inl h, fun b o v h1 h2 => absurd (h1.symm.trans h2) (by simp), hw.callee hI⟩
  refine (h w h0).mono fun e w' ⟨v, H', I', he, hh, hq⟩ => ⟨v, H', I', he, hh.hle, ?_, hq⟩
  refine hw.frame ⟨hh.old.os, hh.old.tape, hh.old.output, hh.old.size, hh.old.block⟩ hh.mem hh.hle hh.hnew hh.own hh.sep hh.apart hh.fresh hh.thaw
theorem execOp_call [hf : FunC P f] {xs : Array Operand} {a : Act} {dst : Option Tmp} (he : EnvOk e a) (hx : EvalAll e xs.toList args) (w : World) :
    (execOp a.eval ⟨dst, .call { callee := .value (.func f), args := xs, argTypes := at_ }, ty, pos, after, g⟩).run P w = .ok (.enter f args.toArray) w := by
  have hm := EvalAll.map he hx
  have hm' : xs.map a.eval = args.toArray := by
    apply Array.ext'
    simpa using hm
  simp only [execOp, resolve, hm', Act.eval, Deferred.ofValue, Sem.run_bind, Sem.run_pure, Result.andThen_ok, invoke, List.append_toArray, List.nil_append]
  rw [List.append_nil, hf.run]
/-- a call of a named function -/
theorem Ef_call (hF : WideF F) [hf : FunC P f] {xs : Array Operand} (h : Fn P f args H I post) (hx : EvalAll e xs.toList args) (hn : Nat.blt d n = true)
    (k : ∀ v H' I', HLe H H' → post v H' I' → K ⟨n, (d, v) :: e, H', I' ++ M', L, D⟩) :
    Ef F P c ⟨some d, .call { callee := .value (.func f), args := xs, argTypes := at_ }, ty, pos, after, g⟩ ⟨n, e, H, I ++ M', L, D⟩ K := by
  intro a w hs
  have hr := execOp_call (P := P) (f := f) (ty := ty) (pos := pos) (after := after) (g := g) (at_ := at_) (dst := some d) hs.env hx w
  refine ⟨fun f _ => hF.fn f, ?_⟩
  rw [Oper.semAt_eq _ _ _ (by simp), hr]
  refine ⟨(fun hd => (by rw [hF.depth] at hd; cases hd)), callsIn_of_calls hF ?_⟩
  have hh0 : Holds c H (I ++ (M' ++ L)) w := by have := hs.holds; simpa [List.append_assoc] using this
  refine (Calls_of_Fn h hh0).mono ?_
  rintro e' w' ⟨v, H', I', he, hle, hh, hq⟩
  subst he
  exact ⟨_, ok_put hs hn (M'' := I' ++ M') (by simpa [List.append_assoc] using hh), k v H' I' hle hq⟩
/-- .. that only computes -/
def FnP (P : Program) (f : FuncId) (args : List Value) (H : Hp) (v : Value) : Prop := Fn P f args H [] fun v' H' I' => v' = v ∧ H' = H ∧ I' = []
theorem Ef_callp (hF : WideF F) [hf : FunC P f] {xs : Array Operand} {v : Value} (h : FnP P f args H v) (hx : EvalAll e xs.toList args) (hn : Nat.blt d n = true)
    (k : K ⟨n, (d, v) :: e, H, M, L, D⟩) :
    Ef F P c ⟨some d, .call { callee := .value (.func f), args := xs, argTypes := at_ }, ty, pos, after, g⟩ ⟨n, e, H, M, L, D⟩ K :=
  Ef_call (I := []) (M' := M) hF h hx hn fun v' H' I' _ ⟨h1, h2, h3⟩ => by subst h1 h2 h3; exact k
/-! ### from a walk to a contract -/
def ofArgs : Nat → List Value → Env
  | _, [] => []
  | i, v :: r => (i, v) :: ofArgs (i + 1) r
/-- the results of a function, read off the state -/
def RetOk (P : Program) (fn : Func) (s : Sta) (v : Value) : Prop := ∀ a w, EnvOk s.env a → Own.ok (s.M ++ s.L) w → (results fn a.tmps).run P w = .ok v w
theorem ofArgs_ok (args : List Value) (m : Nat) : ∀ t v, (ofArgs 0 args).find t = some v → (args.toArray ++ Array.replicate m undef)[t]? = some v := by
  have key : ∀ (args : List Value) (i t : Nat) (v : Value), (ofArgs i args).find t = some v → i ≤ t ∧ args[t - i]? = some v := by
    intro args
    induction args with
    | nil => intro i t v h; simp [ofArgs, Env.find] at h
    | cons u r ih =>
      intro i t v h
      simp only [ofArgs, Env.find] at h
      cases hb : Nat.beq i t with
      | true =>
        rw [hb] at h; simp at h; subst h
        have := Nat.eq_of_beq_eq_true hb
        subst this
        exact ⟨Nat.le_refl _, by simp⟩
      | false =>
        rw [hb] at h
        obtain ⟨h1, h2⟩ := ih (i + 1) t v h
        refine ⟨by omega, ?_⟩
        rw [show t - i = (t - (i + 1)) + 1 by omega]
        simpa using h2
  intro t v h
  obtain ⟨_, h2⟩ := key args 0 t v h
  have hlt : t < args.length := (List.getElem?_eq_some_iff.1 (by simpa using h2)).1
  rw [Array.getElem?_append_left (by simpa using hlt)]
  simpa using h2
/-- the end of a walk: the results are read off, then what is not handed on is given up -/
def EndOf (c : Ctx) (P : Program) (fn : Func) (post : Value → Hp → Own → Prop) : SP := fun s => ∃ v, RetOk P fn s v ∧ s.D = [] ∧ Shift c (fun s' => s'.L = [] ∧ post v s'.H s'.M) s
theorem Fn_of (fn : Func) (code : Code) (hf : P.funcs[f]? = some fn) (hb : fn.body = some code) {N : Nat} (hN : fn.ntmps = N) (hle : Nat.ble args.length N = true)
    (h : ∀ c : Ctx, wpA Fence.wide P c code (Shift c (EndOf c P fn post)) [] (Shift c (EndOf c P fn post)) ⟨N, ofArgs 0 args, H, I, [], []⟩) :
    Fn P f args H I post := by
  intro w hw
  rw [← callsIn_wide (n := 0)]
  refine callsIn_of_wp hf hb trivial (wpIn_mono (h _ { tmps := args.toArray ++ Array.replicate (fn.ntmps - args.toArray.size) undef, defers := [] } w ⟨rfl, ?_, ofArgs_ok args _, by simpa using hw⟩) ?_)
  · have := Nat.le_of_ble_eq_true hle
    simp [hN]; omega
  · intro e a w' q
    have fin : (∃ s, Sta.ok ⟨w, H, Own.blocks I, noPn⟩ s a w' ∧ (Shift ⟨w, H, Own.blocks I, noPn⟩ (EndOf ⟨w, H, Own.blocks I, noPn⟩ P fn post)) s) →
        a.defers = [] ∧ ∃ v, (results fn a.tmps).run P w' = .ok v w' ∧ ∃ v' H' I', Ending.returned v = .returned v' ∧ Holds ⟨w, H, Own.blocks I, noPn⟩ H' I' w' ∧ post v' H' I' := by
      rintro ⟨s, hs, hsh⟩
      obtain ⟨s', hs', v, hr, hd, hsh'⟩ := hsh a w' hs
      obtain ⟨s'', hs'', hl, hp⟩ := hsh' a w' hs'
      refine ⟨hs'.defers.trans hd, v, hr a w' hs'.env hs'.holds.own, v, s''.H, s''.M, rfl, ?_, hp⟩
      have := hs''.holds
      rw [hl] at this
      simpa using this
    cases e with
    | normal => exact fin q
    | ret => exact fin q
    | exit id => obtain ⟨s, hs, K', hx, _⟩ := q; simp [xfind] at hx
    | goto l => exact q
    | panic ch => obtain ⟨s, hs, hx⟩ := q; exact hx.elim
    | outgrown => exact q.elim
end
theorem ok_drop {c : Ctx} {n : Nat} {e : Env} {H : Hp} {M L : Own} {D : List Deferred} {a : Act} {w : World} (hs : Sta.ok c ⟨n, e, H, M, L, D⟩ a w) : Sta.ok c ⟨n, e, H, [], [], D⟩ a w :=
  ⟨hs.defers, hs.size, hs.env, hs.holds.sub ⟨[], by simp, by simp, rfl⟩⟩
theorem End_p {c : Ctx} {P : Program} {fn : Func} {n : Nat} {e : Env} {H : Hp} {M L : Own} {v v' : Value} (h : RetOk P fn ⟨n, e, H, M, L, []⟩ v) (hv : v = v') :
    Shift c (EndOf c P fn fun u H' I' => u = v' ∧ H' = H ∧ I' = []) ⟨n, e, H, M, L, []⟩ :=
  Shift.pure ⟨v, h, rfl, fun _ _ hs => ⟨_, ok_drop hs, rfl, hv, rfl, rfl⟩⟩
/-- .. and gives up what it owns -/
theorem End_e {c : Ctx} {P : Program} {fn : Func} {n : Nat} {e : Env} {H : Hp} {M L : Own} {v : Value} {post : Value → Hp → Own → Prop} (h : RetOk P fn ⟨n, e, H, M, L, []⟩ v) (hv : post v H []) :
    Shift c (EndOf c P fn post) ⟨n, e, H, M, L, []⟩ := Shift.pure ⟨v, h, rfl, fun _ _ hs => ⟨_, ok_drop hs, rfl, hv⟩⟩
/-- .. and hands on what it owns -/
theorem End_m {c : Ctx} {P : Program} {fn : Func} {n : Nat} {e : Env} {H : Hp} {M : Own} {v : Value} {post : Value → Hp → Own → Prop} (h : RetOk P fn ⟨n, e, H, M, [], []⟩ v) (hv : post v H M) :
    Shift c (EndOf c P fn post) ⟨n, e, H, M, [], []⟩ := Shift.pure ⟨v, h, rfl, Shift.pure ⟨rfl, hv⟩⟩
section
variable {P : Program} {fn : Func} {n : Nat} {e : Env} {H : Hp} {M L : Own} {D : List Deferred} {v v1 v2 v3 : Value} {t t1 t2 t3 : Nat}
theorem Ret0 (h : fn.results = #[]) : RetOk P fn ⟨n, e, H, M, L, D⟩ (.tuple #[]) := fun a w _ _ => results_none h _ _ _
theorem Ret1 (h : fn.results = #[.tmp t]) (h1 : e.find t = some v) : RetOk P fn ⟨n, e, H, M, L, D⟩ v := fun a w he _ => by
  rw [results_tmp h]; simp [he _ _ h1]
theorem Ret2 (h : fn.results = #[.tmp t1, .tmp t2]) (h1 : e.find t1 = some v1) (h2 : e.find t2 = some v2) : RetOk P fn ⟨n, e, H, M, L, D⟩ (.tuple [v1, v2].toArray) := fun a w he _ => by
  rw [results_tmp2 h]; simp [he _ _ h1, he _ _ h2]
theorem Ret3 (h : fn.results = #[.tmp t1, .tmp t2, .tmp t3]) (h1 : e.find t1 = some v1) (h2 : e.find t2 = some v2) (h3 : e.find t3 = some v3) : RetOk P fn ⟨n, e, H, M, L, D⟩ (.tuple [v1, v2, v3].toArray) := fun a w he _ => by
  rw [results_tmp3 h]; simp [he _ _ h1, he _ _ h2, he _ _ h3]
/-- a result that lies in a variable: a struct -/
theorem RetC {T k b i : Nat} {cs : List Value} [hT : TyC P T true k] (h : fn.results = #[.cell t T]) (h1 : e.find t = some (.pointer (some ⟨b, 0, none⟩))) (hR : oget M i = some (.box b cs)) (hk : cs.length = k) : RetOk P fn ⟨n, e, H, M, L, D⟩ (.agg cs.toArray) := fun a w he hr => by
  obtain ⟨T', hb⟩ := hr _ (List.mem_append_left _ (oget_mem hR))
  have h2 := run_load_agg (P := P) (t := T) (w := w) (b := b) (o := 0) hk (fun j v hj => cell_of_heap hb (by simpa using hj))
  simp only [Instr.loadAt, Instr.sureAddr, Sem.run_bind, Sem.run_pure, Result.andThen_ok] at h2
  simp [results, h, he _ _ h1, asAddr, h2]
end
end
section
/-! Owned rows: literals of slices, append, stores into an element; owned blocks brought forward, or turned into persistent facts. -/
@[reducible] def ZeroL.ofAgg {P : Program} {t : TypeId} {cs : List Value} (h : ∀ w, (zeroValue t).run P w = .ok (.agg cs.toArray) w) : ZeroL P t cs := ⟨⟨_, h, by simp [Value.cells]⟩⟩
@[reducible] def ZeroL.ofOne {P : Program} {t : TypeId} {v : Value} (h : ∀ w, (zeroValue t).run P w = .ok v w) (hv : v.cells.toList = [v] := by rfl) : ZeroL P t [v] := ⟨⟨_, h, hv⟩⟩
class InfoC (P : Program) (t : TypeId) (bytes : outParam Nat) : Type where
  info : ∃ i, P.types[t]? = some i ∧ i.bytes = bytes
theorem typeInfo_of_run {P : Program} {t : TypeId} {i : TypeInfo} (h : P.types[t]? = some i) : P.info? t = some i := by
  have hlt : t < P.types.size := (Array.getElem?_eq_some_iff.1 h).1
  unfold Tables.info?
  simp [hlt]
  exact (Array.getElem?_eq_some_iff.1 h).2
theorem info_of {P : Program} {t : TypeId} {ag : Bool} {k bytes : Nat} {zc : List Value} [hT : TyC P t ag k] [hI : InfoC P t bytes] [hz : ZeroL P t zc] :
    ∃ i z, P.info? t = some i ∧ i.size = k ∧ i.bytes = bytes ∧ i.zero = some z ∧ z.cells.toList = zc := by
  obtain ⟨i, hi, hb⟩ := hI.info
  have hi' := typeInfo_of_run hi
  obtain ⟨zv, hzr, hzc⟩ := hz.zero
  have h1 := hT.sizeOf default
  have h2 := hzr default
  simp only [sizeOf, zeroValue, typeInfo, Sem.run_bind, run_program, Result.andThen_ok, hi', Sem.run_pure] at h1 h2
  refine ⟨i, zv, hi', by simpa using h1, hb, ?_, hzc⟩
  cases hzz : i.zero with
  | none => rw [hzz] at h2; simp at h2
  | some z => rw [hzz] at h2; simp at h2; rw [h2]
def vblocks : Value → List Nat
  | .slice (some a) _ _ => [a.block]
  | _ => []
theorem Res.blocks_row (v : Value) (k : Nat) (css : List (List Value)) : (Res.row v k css).blocks = vblocks v := by
  cases v with
  | slice a n c => cases a <;> rfl
  | _ => rfl
theorem flatten_length {k : Nat} : ∀ {css : List (List Value)}, (∀ cs ∈ css, cs.length = k) → css.flatten.length = css.length * k
  | [], _ => by simp
  | d :: r, h => by
    have h1 := h d (by simp)
    have ih := flatten_length (css := r) (fun x hx => h x (List.mem_cons_of_mem _ hx))
    simp only [List.flatten_cons, List.length_append, ih, h1, List.length_cons, Nat.succ_mul]
    omega
theorem RowOk.shape {w : World} {v : Value} {k : Nat} {css : List (List Value)} (h : RowOk w v k css) : ∃ a c, v = .slice a css.length c := by
  rcases h with ⟨rfl, rfl⟩ | ⟨b, cap, rest, T, rfl, _⟩
  · exact ⟨none, 0, rfl⟩
  · exact ⟨_, cap, rfl⟩
/-- append to an owned row -/
theorem run_append_row {P : Program} {w : World} {t e ty : TypeId} {k bytes : Nat} {ag : Bool} {zc : List Value} (ht : UndC P t (.slice e)) (hT : TyC P e ag k) (hI : InfoC P e bytes) (hz : ZeroL P e zc) (hzk : zc.length = k) (hk : 0 < k)
    {v : Value} {css news : List (List Value)} (hrow : RowOk w v k css) {A : Option Addr} {m c : Nat} (hm : news.length = m) (hnk : ∀ cs ∈ news, cs.length = k) (hA : A = none → m = 0)
    (hcells : ∀ a, A = some a → ∀ j u, news.flatten[j]? = some u → w.cell? (a.add j) = some u) (h1 : ∀ u ∈ news.flatten, u.oneCell' = true) (hbytes : (css.length + m) * bytes ≤ 140737488355328) (hlen : css.length + m ≤ 9223372036854775807) :
    ∃ v' w', (Builtin.append_ #[t, t] ty #[v, .slice A m c]).run P w = .ok v' w' ∧ RowOk w' v' k (css ++ news) ∧ Moves w w' (vblocks v) ∧ (∀ b ∈ vblocks v', w.heap.size ≤ b ∨ b ∈ vblocks v) := by
  obtain ⟨i, z, hi, hsz, hby, hzz, hzc⟩ := info_of (P := P) (t := e) (hT := hT) (hI := hI) (hz := hz)
  have hzs : z.cells.size = k := by rw [← hzk, ← hzc]; simp
  have hnl : news.flatten.length = m * i.size := by rw [flatten_length hnk, hm, hsz]
  subst hby
  by_cases hm0 : m = 0
  · have hn0 : news = [] := List.eq_nil_of_length_eq_zero (by omega)
    subst hn0
    subst hm0
    have h0 : ∀ w', (Builtin.firstCells k 0 (.slice A 0 c)).run P w' = .ok #[] w' := fun w' => by
      cases A <;> simp [Builtin.firstCells, loadCells, loadCellsFrom]
    rcases hrow with ⟨rfl, rfl⟩ | ⟨b, cap, rest, T, rfl, hkk, hc, hb, hl⟩
    · refine ⟨.slice none 0 0, w, ?_, .inl ⟨rfl, rfl⟩, Moves.refl _ _, by simp [vblocks]⟩
      simp [Builtin.append_, ht.run, sizeOf, typeInfo, hi, hsz, Builtin.lenOf, h0]
    · refine ⟨.slice (some ⟨b, 0, none⟩) css.length cap, w, ?_, .inr ⟨b, cap, rest, T, by simp, by simpa using hkk, by simpa using hc, by simpa using hb, by simpa using hl⟩, Moves.refl _ _, fun b' hb' => .inr (by simpa [vblocks] using hb')⟩
      have hcc : css.length + 0 ≤ cap := by omega
      simp [Builtin.append_, ht.run, sizeOf, typeInfo, hi, hsz, Builtin.lenOf, h0, hc, storeCells]
  · obtain ⟨a, rfl⟩ : ∃ a, A = some a := by cases A with
      | none => exact absurd (hA rfl) hm0
      | some a => exact ⟨a, rfl⟩
    have hcells' := hcells a rfl
    have hzero : ∀ q, (Builtin.zeroCells z.cells q).toList.length = q * k := fun q => by rw [Array.length_toList, size_zeroCells, hzs]
    rcases hrow with ⟨rfl, rfl⟩ | ⟨b, cap, rest, T, rfl, hkk, hc, hb, hl⟩
    · have hb0 := hbytes
      simp only [List.length_nil, Nat.zero_add] at hb0 hlen
      have hr := run_append_nil (P := P) w t ty e i z ht.und hi hzz a m c news.flatten hnl hcells' (by omega) (by omega) (by omega)
      have hge := grownCap_ge w m 0 e
      refine ⟨_, _, hr, .inr ⟨w.heap.size, grownCap w m 0 e, (Builtin.zeroCells z.cells (grownCap w m 0 e - m)).toList, e, by simp [hm], by simpa using hnk, by simpa [hm] using hge, ?_, ?_⟩, ?_, fun b hb => .inl (by simp [vblocks] at hb; omega)⟩
      · have := heap_alloc_new w.drew (.cells (news.flatten.toArray ++ Builtin.zeroCells z.cells (grownCap w m 0 e - m)) e)
        have ea : news.flatten.toArray ++ Builtin.zeroCells z.cells (grownCap w m 0 e - m) = (news.flatten ++ (Builtin.zeroCells z.cells (grownCap w m 0 e - m)).toList).toArray := by apply Array.ext'; simp
        rw [ea] at this ⊢
        simpa using this
      · rw [List.length_append, hzero]
        simp only [List.nil_append, hnl, hsz, ← Nat.add_mul]
        congr 1
        omega
      · exact (Moves.drew w _).trans (Moves.alloc w.drew _ _)
    · have hcl : css.flatten.length = css.length * i.size := by rw [flatten_length hkk, hsz]
      by_cases hroom : css.length + m ≤ cap
      · have hst := run_storeCells_at P b (css.length * k) T news.flatten 0 (css.flatten ++ rest).toArray w hb (by
          simp only [Nat.add_zero, List.size_toArray, hl, hnl, hsz, ← Nat.add_mul]
          exact Nat.mul_le_mul_right _ hroom) h1
        have hf := run_firstCells_some (P := P) w k m a m c news.flatten (by rw [hnl, hsz]) hcells'
        have htk : ((css.flatten ++ rest).toArray.toList.take (css.length * k + 0) ++ news.flatten ++ (css.flatten ++ rest).toArray.toList.drop (css.length * k + 0 + news.flatten.length)) =
            (css ++ news).flatten ++ rest.drop news.flatten.length := by
          have e1 : css.length * k = css.flatten.length := by rw [hcl, hsz]
          simp only [Nat.add_zero, e1, List.take_left, List.flatten_append]
          rw [← List.drop_drop, List.drop_left]
        rw [htk] at hst
        refine ⟨.slice (some ⟨b, 0, none⟩) (css.length + m) cap, _, ?_, .inr ⟨b, cap, rest.drop news.flatten.length, T, by simp [hm], ?_, by simpa [hm] using hroom, setRow_heap w b _ _ T _ hb, ?_⟩, (Moves.setRow w b _).mono (by simp [vblocks]), fun b' hb' => .inr (by simpa [vblocks] using hb')⟩
        · simp [Builtin.append_, ht.run, sizeOf, typeInfo, hi, hsz, Builtin.lenOf, hroom, hf, Addr.add_lit, hst]
        · intro cs hcs
          rcases List.mem_append.1 hcs with h | h
          · exact hkk cs h
          · exact hnk cs h
        · have hrl : rest.length = cap * k - css.length * k := by simp only [List.length_append, hcl, hsz] at hl; omega
          have h3 : (css.length + m) * k ≤ cap * k := Nat.mul_le_mul_right _ hroom
          rw [Nat.add_mul] at h3
          simp only [List.flatten_append, List.length_append, hcl, hnl, hsz, List.length_drop, hrl]
          omega
      · have hrow' : RowOk w (.slice (some ⟨b, 0, none⟩) css.length cap) k css := .inr ⟨b, cap, rest, T, rfl, hkk, hc, hb, hl⟩
        have holds : ∀ j u, css.flatten[j]? = some u → w.cell? ((⟨b, 0, none⟩ : Addr).add j) = some u := fun j u hj => by
          rw [Addr.add_lit]
          refine cell_of_heap hb ?_
          have hjl := (List.getElem?_eq_some_iff.1 hj).1
          simp only [Nat.zero_add, List.getElem?_toArray]
          rw [List.getElem?_append_left hjl]
          exact hj
        have hr := run_append_grow (P := P) w t ty e i z ht.und hi hzz ⟨b, 0, none⟩ css.length cap css.flatten hcl holds a m c news.flatten hnl hcells' (by omega) (by omega) (growslice_fits (by omega) hbytes)
        have hge := grownCap_ge w (css.length + m) cap e
        refine ⟨_, _, hr, .inr ⟨w.heap.size, grownCap w (css.length + m) cap e, (Builtin.zeroCells z.cells (grownCap w (css.length + m) cap e - (css.length + m))).toList, e, by simp [hm], ?_, by simpa [hm] using hge, ?_, ?_⟩, ?_, fun b' hb' => .inl (by simp [vblocks] at hb'; omega)⟩
        · intro cs hcs
          rcases List.mem_append.1 hcs with h | h
          · exact hkk cs h
          · exact hnk cs h
        · have := heap_alloc_new w.drew (.cells (css.flatten.toArray ++ news.flatten.toArray ++ Builtin.zeroCells z.cells (grownCap w (css.length + m) cap e - (css.length + m))) e)
          have ea : css.flatten.toArray ++ news.flatten.toArray ++ Builtin.zeroCells z.cells (grownCap w (css.length + m) cap e - (css.length + m)) = ((css ++ news).flatten ++ (Builtin.zeroCells z.cells (grownCap w (css.length + m) cap e - (css.length + m))).toList).toArray := by apply Array.ext'; simp
          rw [ea] at this ⊢
          exact this
        · rw [List.length_append, hzero]
          simp only [List.flatten_append, List.length_append, hcl, hnl, hsz, ← Nat.add_mul]
          congr 1
          omega
        · exact (Moves.drew w _).trans (Moves.alloc w.drew _ _)
section
variable {F : Fence} {P : Program} {c : Ctx} {o : Oper} {K : SP} {n : Nat} {e : Env} {H : Hp} {M M' L : Own} {D : List Deferred} {dst : Option Tmp} {d : Nat} {ty : TypeId} {pos : String} {after : Array Edge} {g : Option (Nat × Bool)} {x y z : Operand} {v : Value} {t t2 : TypeId} {k b off : Nat}
theorem execOp_append {a : Act} {v u : Value} (he : EnvOk e a) (hx : e.eval x = some v) (hy : e.eval y = some u) (w : World) :
    (execOp a.eval ⟨dst, .call { callee := .builtin .append, args := #[x, y], argTypes := #[t, t] }, ty, pos, after, g⟩).run P w = ((Builtin.append_ #[t, t] ty #[v, u]).run P w).andThen fun r w' => .ok (.value r) w' := by
  simp [execOp, resolve, invoke, builtin, he.eval hx, he.eval hy, Sem.run_bind]
theorem Holds.row {c : Ctx} {H : Hp} {I R : Own} {w w' : World} {v v' : Value} {k : Nat} {css css' : List (List Value)} (h : Holds c H (.row v k css :: R) w) (hr : RowOk w' v' k css') (hm : Moves w w' (vblocks v)) (hb : ∀ b ∈ vblocks v', w.heap.size ≤ b ∨ b ∈ vblocks v) :
    Holds c H (.row v' k css' :: R) w' := by
  refine Holds.frameH (I := [.row v k css]) (I' := [.row v' k css']) (R := R) h ?_ (Own.ok_one hr) (Own.sep_one _) (fun b' hb' => ?_)
  · rw [Own.blocks_one, Res.blocks_row]; exact hm
  · rw [Own.blocks_one, Res.blocks_row] at hb' ⊢; exact hb b' hb'
theorem Holds.sublist {R R' : Own} {w : World} (h : Holds c H R w) (hs : R'.Sublist R) : Holds c H R' w := by
  have hin : ∀ b ∈ Own.blocks R', b ∈ Own.blocks R := fun b hm => by
    obtain ⟨r, hr, hb⟩ := Own.mem_blocks.1 hm
    exact Own.mem_blocks.2 ⟨r, hs.subset hr, hb⟩
  exact ⟨h.mem, fun r hr => h.own r (hs.subset hr), List.Pairwise.sublist hs h.sep, fun b hm => h.apart b (hin b hm), fun b hm => h.fresh b (hin b hm), h.old, h.hle, h.hnew, h.thaw, h.gl⟩
/-- append to the owned row that stands first: what is appended is persistent -/
theorem Ef_appendH (hF : WideF F) {el bytes m cp : Nat} {ag : Bool} {zc : List Value} {css news : List (List Value)} {A : Option Addr} [ht : UndC P t (.slice el)] [hT : TyC P el ag k] [hI : InfoC P el bytes] [hz : ZeroL P el zc]
    (hx : e.eval x = some v) (hy : e.eval y = some (.slice A m cp)) (hH : HRow H A m cp k news) (hzk : Nat.beq zc.length k = true) (hk : Nat.blt 0 k = true) (hbytes : (css.length + m) * bytes ≤ 140737488355328) (hlen : css.length + m ≤ 9223372036854775807) (hn : Nat.blt d n = true)
    (kk : ∀ a cp, K ⟨n, (d, .slice a (css ++ news).length cp) :: e, H, .row (.slice a (css ++ news).length cp) k (css ++ news) :: M, L, D⟩) :
    Ef F P c ⟨some d, .call { callee := .builtin .append, args := #[x, y], argTypes := #[t, t] }, ty, pos, after, g⟩ ⟨n, e, H, .row v k css :: M, L, D⟩ K := Ef_of_run hF fun a w hs => by
  have hrow : RowOk w v k css := hs.holds.own (.row v k css) (by simp)
  have hmem := hs.holds.mem
  have hget : ∀ (j : Nat) u, news.flatten[j]? = some u → ∃ b o, A = some ⟨b, o, none⟩ ∧ H b (o + j) = some u := by
    have key : ∀ (l : List (List Value)) (i0 : Nat), (∀ i cs, l[i]? = some cs → cs.length = k ∧ ∃ b o, A = some ⟨b, o, none⟩ ∧ HCells H b (o + (i0 + i) * k) cs) → ∀ (j : Nat) u, l.flatten[j]? = some u → ∃ b o, A = some ⟨b, o, none⟩ ∧ H b (o + (i0 * k + j)) = some u := by
      intro l
      induction l with
      | nil => intro i0 _ j u h; simp at h
      | cons cs r ih =>
        intro i0 hl j u h
        obtain ⟨hck, b, o, hA, hc⟩ := hl 0 cs (by simp)
        by_cases hj : j < cs.length
        · simp only [List.flatten_cons] at h
          rw [List.getElem?_append_left hj] at h
          have := hc j u h
          exact ⟨b, o, hA, by rw [Nat.add_assoc, Nat.add_zero] at this; exact this⟩
        · simp only [List.flatten_cons] at h
          rw [List.getElem?_append_right (by omega)] at h
          obtain ⟨b', o', hA', hq⟩ := ih (i0 + 1) (fun i cs' hi => by have := hl (i + 1) cs' (by simpa using hi); rwa [show i0 + (i + 1) = i0 + 1 + i by omega] at this) _ u h
          refine ⟨b', o', hA', ?_⟩
          rw [show i0 * k + j = (i0 + 1) * k + (j - cs.length) by rw [Nat.succ_mul]; omega]
          exact hq
    intro j u h
    obtain ⟨b, o, hA, hq⟩ := key news 0 (fun i cs hi => by simpa using hH.el i cs hi) j u h
    exact ⟨b, o, hA, by simpa using hq⟩
  have hall : ∀ u ∈ news.flatten, u.oneCell' = true := fun u hu => by
    obtain ⟨j, hj⟩ := List.getElem?_of_mem hu
    obtain ⟨b, o, _, hq⟩ := hget j u hj
    exact (hmem _ _ _ hq).2
  have hm2 : ∀ cs ∈ news, cs.length = k := fun cs hcs => by
    obtain ⟨i, hi⟩ := List.getElem?_of_mem hcs
    exact (hH.el i cs hi).1
  obtain ⟨v', w', hr, hok, hmv, hbl⟩ := run_append_row (P := P) (ty := ty) ht hT hI hz (Nat.eq_of_beq_eq_true hzk) (Nat.le_of_ble_eq_true hk) hrow (A := A) (c := cp) hH.len hm2 (fun h => (hH.nil h).1)
    (fun ad had j u hj => by
      obtain ⟨b, o, hA, hq⟩ := hget j u hj
      rw [hA] at had; cases had
      rw [Addr.add_lit]
      exact (hmem _ _ _ hq).1) hall hbytes hlen
  obtain ⟨a', cp', rfl⟩ := RowOk.shape hok
  refine ⟨_, w', ?_, _, ok_put hs hn (M'' := .row _ k (css ++ news) :: M) (hs.holds.row (I := []) hok hmv hbl), kk a' cp'⟩
  rw [execOp_append hs.env hx hy, hr]; rfl
/-- a nil slice, and a row without elements: owned rows -/
theorem Holds.nilrow {R : Own} {w : World} (h : Holds c H R w) (k : Nat) : Holds c H (.row (.slice none 0 0) k [] :: R) w :=
  Holds.frameH (I := []) (I' := [.row (.slice none 0 0) k []]) (R := R) h (Moves.refl _ _) (Own.ok_one (.inl ⟨rfl, rfl⟩)) (Own.sep_one _) (fun b hb => by simp [Own.blocks, Res.blocks] at hb)
theorem Holds.allocRow {R : Own} {w : World} (h : Holds c H R w) (css : List (List Value)) (hk : ∀ cs ∈ css, cs.length = k) (T : TypeId) : Holds c H (.row (.slice (some ⟨w.heap.size, 0, none⟩) css.length css.length) k css :: R) (w.alloc (.cells css.flatten.toArray T (0, 0))) := by
  refine Holds.frameH (I := []) (I' := [.row (.slice (some ⟨w.heap.size, 0, none⟩) css.length css.length) k css]) (R := R) h (Moves.alloc w _ _) (Own.ok_one (.inr ⟨w.heap.size, css.length, [], T, rfl, hk, Nat.le_refl _, ?_, ?_⟩)) (Own.sep_one _) (fun b hb => ?_)
  · rw [List.append_nil]; exact heap_alloc_new w _
  · rw [List.append_nil, flatten_length hk]
  · simp [Own.blocks, Res.blocks] at hb
    exact .inl (by omega)
/-- a literal []T{x, y, ..} -/
theorem Ef_buildn (hF : WideF F) {el bytes len : Nat} {ag : Bool} {zc : List Value} {xs : List Operand} {vs : List Value} {css : List (List Value)} {ps : Array (Nat × Operand)} [ht : UndC P t (.slice el)] [hT : TyC P el ag k] [hI : InfoC P el bytes] [hz : ZeroL P el zc]
    (hps : ps.toList = (xs.zipIdx 0).map fun q => (q.2, q.1)) (hx : EvalAll e xs vs) (hv : vs.map (fun v => v.cells.toList) = css) (hlen : vs.length = len) (hpos : Nat.blt 0 (len * k) = true) (hsmall : Nat.ble (len * k) 16777216 = true) (hck : css.all (fun cs => Nat.beq cs.length k) = true) (hn : Nat.blt d n = true)
    (kk : ∀ b, K ⟨n, (d, .slice (some ⟨b, 0, none⟩) len len) :: e, H, .row (.slice (some ⟨b, 0, none⟩) len len) k css :: M, L, D⟩) :
    Ef F P c ⟨some d, .buildSlice t len ps, ty, pos, after, g⟩ ⟨n, e, H, M, L, D⟩ K := Ef_of_run hF fun a w hs => by
  obtain ⟨i, z, hi, hsz, hby, hzz, hzc⟩ := info_of (P := P) (t := el) (hT := hT) (hI := hI) (hz := hz)
  have hpos' : 0 < len * k := Nat.le_of_ble_eq_true hpos
  have hk0 : 0 < k := Nat.pos_of_mul_pos_left hpos'
  have hck' : ∀ cs ∈ css, cs.length = k := fun cs h => Nat.eq_of_beq_eq_true (List.all_eq_true.1 hck cs h)
  have hvk : ∀ v ∈ vs, v.cells.size = k := fun v h => by
    have := hck' v.cells.toList (by rw [← hv]; exact List.mem_map_of_mem h)
    simpa using this
  have hcl : css.length = len := by rw [← hv]; simpa using hlen
  have hpe : (ps.map fun (i, x) => (i, a.eval x)).toList = (vs.zipIdx 0).map fun q => (q.2, q.1) := by
    rw [Array.toList_map, hps, ← EvalAll.map hs.env hx, List.zipIdx_map, List.map_map, List.map_map]
    rfl
  have hfill := Great.fill_whole hk0 vs ((Array.range (len * k)).map (z.cells[· % z.cells.size]!)) hvk (by simp [hlen])
  have hflat : (vs.flatMap fun v => v.cells.toList) = css.flatten := by rw [← hv, List.flatMap_def]
  rw [hflat] at hfill
  have hrun := run_buildSlice (P := P) w t el len (ps.map fun (i, x) => (i, a.eval x)) css.flatten.toArray i z ht.und hi hzz (by rw [hsz]; have := Nat.le_of_ble_eq_true hsmall; omega) (by rw [hsz]; omega) (by rw [hsz, hpe]; exact hfill)
  refine ⟨.slice (some ⟨w.heap.size, 0, none⟩) len len, w.alloc (.cells css.flatten.toArray el (0, 0)), ?_, _, ok_put hs hn ?_, kk _⟩
  · simp only [execOp, Sem.run_bind, hrun, Result.andThen_ok, Sem.run_pure]
  · have := hs.holds.allocRow (k := k) css hck' el
    rw [hcl] at this
    exact this
end
section
variable {F : Fence} {P : Program} {c : Ctx} {o : Oper} {K : SP} {n : Nat} {e : Env} {H : Hp} {M M' L : Own} {D : List Deferred} {dst : Option Tmp} {d : Nat} {ty : TypeId} {pos : String} {after : Array Edge} {g : Option (Nat × Bool)} {x y z : Operand} {v : Value} {t t2 : TypeId} {k b off : Nat}
theorem Ef_build1a (hF : WideF F) {el bytes : Nat} {ag : Bool} {zc cs : List Value} [ht : UndC P t (.slice el)] [hT : TyC P el ag k] [hI : InfoC P el bytes] [hz : ZeroL P el zc]
    (hx : e.eval x = some (.agg cs.toArray)) (hk : cs.length = k) (hpos : Nat.blt 0 k = true) (hsmall : Nat.ble k 16777216 = true) (hn : Nat.blt d n = true)
    (kk : ∀ b, K ⟨n, (d, .slice (some ⟨b, 0, none⟩) 1 1) :: e, H, .row (.slice (some ⟨b, 0, none⟩) 1 1) k [cs] :: M, L, D⟩) :
    Ef F P c ⟨some d, .buildSlice t 1 #[(0, x)], ty, pos, after, g⟩ ⟨n, e, H, M, L, D⟩ K := by
  subst hk
  exact Ef_buildn hF (xs := [x]) (vs := [.agg cs.toArray]) (css := [cs]) rfl ⟨hx, trivial⟩ (by simp [Value.cells]) rfl (by rw [Nat.one_mul]; exact hpos) (by rw [Nat.one_mul]; exact hsmall) (by simp) hn kk
theorem Ef_build11 (hF : WideF F) {el bytes : Nat} {ag : Bool} {zc : List Value} [ht : UndC P t (.slice el)] [hT : TyC P el ag 1] [hI : InfoC P el bytes] [hz : ZeroL P el zc]
    (hx : e.eval x = some v) (hv : v.oneCell' = true) (hn : Nat.blt d n = true)
    (kk : ∀ b, K ⟨n, (d, .slice (some ⟨b, 0, none⟩) 1 1) :: e, H, .row (.slice (some ⟨b, 0, none⟩) 1 1) 1 [[v]] :: M, L, D⟩) :
    Ef F P c ⟨some d, .buildSlice t 1 #[(0, x)], ty, pos, after, g⟩ ⟨n, e, H, M, L, D⟩ K := by
  have hc : v.cells.toList = [v] := by cases v <;> first | rfl | (simp [Value.oneCell'] at hv)
  exact Ef_buildn hF (xs := [x]) (vs := [v]) (css := [[v]]) rfl ⟨hx, trivial⟩ (by simp [hc]) rfl rfl rfl (by simp) hn kk
end
/-! ### focus: an owned block is brought forward -/
section
variable {F : Fence} {P : Program} {c : Ctx} {ops l : List Oper} {K : SP} {X : List (Nat × SP)} {R : SP} {n : Nat} {e : Env} {H : Hp} {M L : Own} {D : List Deferred} {r0 r1 r2 r3 r4 r5 r6 r7 : Res} {code : Code}
theorem A_sub {s s' : Sta} (hl : Sta.le s' s) (h : wpA F P c code K X R s') : wpA F P c code K X R s := fun a w hs => h a w (Sta.ok_le hs hl)
theorem own_perm {A B : Own} (h : A.Perm B) {w : World} (hh : Holds c H A w) : Holds c H B w := by
  have hmem : ∀ b, b ∈ Own.blocks B ↔ b ∈ Own.blocks A := fun b => by
    rw [Own.mem_blocks, Own.mem_blocks]
    constructor
    · rintro ⟨r, hr, hb⟩; exact ⟨r, h.mem_iff.2 hr, hb⟩
    · rintro ⟨r, hr, hb⟩; exact ⟨r, h.mem_iff.1 hr, hb⟩
  refine ⟨hh.mem, fun r hr => hh.own r (h.mem_iff.2 hr), ?_, fun b hb => hh.apart b ((hmem b).1 hb), fun b hb => hh.fresh b ((hmem b).1 hb), hh.old, hh.hle, hh.hnew, hh.thaw, hh.gl⟩
  exact (h.pairwise_iff (fun hab => Res.apart_symm hab)).1 hh.sep
theorem O_perm {M' : Own} (h : M.Perm M') (k : opsA F P c ops l K ⟨n, e, H, M', L, D⟩) : opsA F P c ops l K ⟨n, e, H, M, L, D⟩ := fun a w hs =>
  k a w ⟨hs.defers, hs.size, hs.env, own_perm (h.append_right L) hs.holds⟩
theorem perm_mid (A : Own) (r : Res) (B : Own) : (A ++ r :: B).Perm (r :: (A ++ B)) := List.perm_middle
theorem O_f1 (k : opsA F P c ops l K ⟨n, e, H, r1 :: r0 :: M, L, D⟩) : opsA F P c ops l K ⟨n, e, H, r0 :: r1 :: M, L, D⟩ := O_perm (perm_mid [r0] r1 M) k
theorem O_f2 (k : opsA F P c ops l K ⟨n, e, H, r2 :: r0 :: r1 :: M, L, D⟩) : opsA F P c ops l K ⟨n, e, H, r0 :: r1 :: r2 :: M, L, D⟩ := O_perm (perm_mid [r0, r1] r2 M) k
theorem O_f3 (k : opsA F P c ops l K ⟨n, e, H, r3 :: r0 :: r1 :: r2 :: M, L, D⟩) : opsA F P c ops l K ⟨n, e, H, r0 :: r1 :: r2 :: r3 :: M, L, D⟩ := O_perm (perm_mid [r0, r1, r2] r3 M) k
theorem A_nilrow (k' : Nat) (k : wpA F P c code K X R ⟨n, e, H, .row (.slice none 0 0) k' [] :: M, L, D⟩) : wpA F P c code K X R ⟨n, e, H, M, L, D⟩ := fun a w hs =>
  k a w ⟨hs.defers, hs.size, hs.env, hs.holds.nilrow k'⟩
/-- an owned row becomes persistent -/
theorem Holds.freeze {R : Own} {w : World} {a : Option Addr} {n' cp k : Nat} {css : List (List Value)} (h : Holds c H (.row (.slice a n' cp) k css :: R) w) (h1 : ∀ cs ∈ css, ∀ u ∈ cs, u.oneCell' = true) :
    ∃ H', HLe H H' ∧ HRow H' a n' cp k css ∧ Holds c H' R w := by
  have hr : RowOk w (.slice a n' cp) k css := h.own _ (List.mem_cons_self)
  rcases hr with ⟨hv, hcss⟩ | ⟨b, cap, rest, T, hv, hk, hc, hb, hl⟩
  · cases hv; subst hcss
    exact ⟨H, HLe.refl _, HRow.nil' H k, h.sublist (List.sublist_cons_self _ _)⟩
  · cases hv
    have hbn : ∀ o, H b o = none := h.apart b (by simp [Own.blocks, Res.blocks])
    have hsep := Own.sep_append (A := [Res.row (.slice (some ⟨b, 0, none⟩) css.length cp) k css]) (B := R) |>.1 h.sep
    have hbR : b ∉ Own.blocks R := hsep.2.2 b (by simp [Own.blocks, Res.blocks])
    have hget : ∀ o v, css.flatten[o]? = some v → w.cell? ⟨b, o, none⟩ = some v := fun o v ho => cell_of_heap hb (by
      have hol := (List.getElem?_eq_some_iff.1 ho).1
      simp only [List.getElem?_toArray]
      rw [List.getElem?_append_left hol]
      exact ho)
    refine ⟨fun b' o => if b' = b then css.flatten[o]? else H b' o, ?_, ?_, ?_⟩
    · intro b' o v hv
      by_cases hbb : b' = b
      · subst hbb; rw [hbn] at hv; cases hv
      · simp only [hbb, if_false]; exact hv
    · refine ⟨rfl, hc, (fun h => (by cases h)), fun i cs hi => ⟨hk cs (List.mem_of_getElem? hi), b, 0, rfl, fun j v hj => ?_⟩⟩
      simp only [if_true, Nat.zero_add]
      have key : ∀ (css : List (List Value)) (i : Nat), (∀ cs ∈ css, cs.length = k) → css[i]? = some cs → css.flatten[i * k + j]? = some v := by
        have hjl : j < cs.length := (List.getElem?_eq_some_iff.1 hj).1
        intro css
        induction css with
        | nil => intro i _ h; simp at h
        | cons d r ih =>
          intro i hk hi
          have hd : d.length = k := hk d (by simp)
          cases i with
          | zero =>
            simp at hi
            subst hi
            simp only [List.flatten_cons]
            rw [List.getElem?_append_left (by omega)]
            simpa using hj
          | succ i =>
            simp only [List.getElem?_cons_succ] at hi
            simp only [List.flatten_cons]
            rw [List.getElem?_append_right (by rw [hd, Nat.succ_mul]; omega)]
            rw [show (i + 1) * k + j - d.length = i * k + j by rw [hd, Nat.succ_mul]; omega]
            exact ih i (fun x hx => hk x (List.mem_cons_of_mem _ hx)) hi
      exact key css i hk hi
    · have hh := h.sublist (List.sublist_cons_self (Res.row (.slice (some ⟨b, 0, none⟩) css.length cp) k css) R)
      refine ⟨?_, hh.own, hh.sep, ?_, hh.fresh, hh.old, ?_, ?_, ?_, hh.gl⟩
      · intro b' o v hv
        by_cases hbb : b' = b
        · subst hbb
          simp only [if_true] at hv
          refine ⟨hget o v hv, ?_⟩
          obtain ⟨cs, hcs, hu⟩ := List.mem_flatten.1 (List.mem_of_getElem? hv)
          exact h1 cs hcs v hu
        · simp only [hbb, if_false] at hv; exact hh.mem b' o v hv
      · intro b' hb' o
        have hne : b' ≠ b := fun e => hbR (e ▸ hb')
        simp only [hne, if_false]
        exact hh.apart b' hb' o
      · intro b' o v hv
        have := hh.hle b' o v hv
        by_cases hbb : b' = b
        · subst hbb; rw [hbn] at this; cases this
        · simp only [hbb, if_false]; exact this
      · intro b' o v hv
        by_cases hbb : b' = b
        · subst hbb
          rcases h.fresh b' (by simp [Own.blocks, Res.blocks]) with h | h
          · exact .inr (.inl h)
          · exact .inr (.inr h)
        · simp only [hbb, if_false] at hv; exact hh.hnew b' o v hv
      · intro b' o v hv h0
        by_cases hbb : b' = b
        · subst hbb; exact ⟨_, _, hb⟩
        · simp only [hbb, if_false] at hv; exact hh.thaw b' o v hv h0
theorem O_freeze {a : Option Addr} {n' cp k : Nat} {css : List (List Value)} (h1 : ∀ cs ∈ css, ∀ u ∈ cs, u.oneCell' = true)
    (h : ∀ H', HLe H H' → HRow H' a n' cp k css → opsA F P c ops l K ⟨n, e, H', M, L, D⟩) : opsA F P c ops l K ⟨n, e, H, .row (.slice a n' cp) k css :: M, L, D⟩ := fun ac w hs => by
  obtain ⟨H', hle, hr, hh⟩ := Holds.freeze (R := M ++ L) hs.holds h1
  exact h H' hle hr ac w ⟨hs.defers, hs.size, hs.env, hh⟩
theorem Shift_freeze {a : Option Addr} {n' cp k : Nat} {css : List (List Value)} (h1 : ∀ cs ∈ css, ∀ u ∈ cs, u.oneCell' = true)
    (h : ∀ H', HLe H H' → HRow H' a n' cp k css → Shift c K ⟨n, e, H', M, L, D⟩) : Shift c K ⟨n, e, H, .row (.slice a n' cp) k css :: M, L, D⟩ := fun ac w hs => by
  obtain ⟨H', hle, hr, hh⟩ := Holds.freeze (R := M ++ L) hs.holds h1
  exact h H' hle hr ac w ⟨hs.defers, hs.size, hs.env, hh⟩
/-- an owned block is a row of one element -/
theorem Holds.boxrow {R : Own} {w : World} {b : Nat} {cs : List Value} (h : Holds c H (.box b cs :: R) w) : Holds c H (.row (.slice (some ⟨b, 0, none⟩) 1 1) cs.length [cs] :: R) w := by
  obtain ⟨T, hb⟩ := h.own (.box b cs) List.mem_cons_self
  refine Holds.frameH (I := [.box b cs]) (I' := [.row (.slice (some ⟨b, 0, none⟩) 1 1) cs.length [cs]]) (R := R) h (Moves.refl _ _) (Own.ok_one (.inr ⟨b, 1, [], T, rfl, by simp, by simp, by simpa using hb, by simp⟩)) (Own.sep_one _) (fun b' hb' => .inr (by simpa [Own.blocks, Res.blocks] using hb'))
theorem Holds.freezeBox {R : Own} {w : World} {b : Nat} {cs : List Value} (h : Holds c H (.box b cs :: R) w) (h1 : ∀ u ∈ cs, u.oneCell' = true) : ∃ H', HLe H H' ∧ HCells H' b 0 cs ∧ Holds c H' R w := by
  obtain ⟨H', hle, hr, hh⟩ := h.boxrow.freeze (by simpa using h1)
  obtain ⟨_, b', o, hbo, hc⟩ := hr.el 0 cs (by simp)
  cases hbo
  exact ⟨H', hle, by simpa using hc, hh⟩
theorem O_freezeBox {b : Nat} {cs : List Value} (h1 : ∀ u ∈ cs, u.oneCell' = true) (h : ∀ H', HLe H H' → HCells H' b 0 cs → opsA F P c ops l K ⟨n, e, H', M, L, D⟩) : opsA F P c ops l K ⟨n, e, H, .box b cs :: M, L, D⟩ := fun ac w hs => by
  obtain ⟨H', hle, hr, hh⟩ := Holds.freezeBox (R := M ++ L) hs.holds h1
  exact h H' hle hr ac w ⟨hs.defers, hs.size, hs.env, hh⟩
theorem A_freezeBox {b : Nat} {cs : List Value} (h1 : ∀ u ∈ cs, u.oneCell' = true) (h : ∀ H', HLe H H' → HCells H' b 0 cs → wpA F P c code K X R ⟨n, e, H', M, L, D⟩) : wpA F P c code K X R ⟨n, e, H, .box b cs :: M, L, D⟩ := fun ac w hs => by
  obtain ⟨H', hle, hr, hh⟩ := Holds.freezeBox (R := M ++ L) hs.holds h1
  exact h H' hle hr ac w ⟨hs.defers, hs.size, hs.env, hh⟩
end
end
section
/-! Regions that draw their order: a plan (a canonical order) serves every order. -/
section
variable {F : Fence} {P : Program} {ops : Array Oper} {Qn : Act → World → Prop}
/-- only normal ends -/
def Nml (Qn : Act → World → Prop) : Exit → Act → World → Prop := fun e a w => e = .normal ∧ Qn a w
/-- every order of what is left; a step by an operation outside of S leaves a world of C -/
def anyC (F : Fence) (P : Program) (ops : Array Oper) (Qn : Act → World → Prop) (S : List Nat) (C : World → Prop) : Nat → Bool → Array Bool → Act → World → Prop
  | 0, _, listed, a, w => Region.ready .any ops listed = [] ∧ Qn a w
  | m + 1, cl, listed, a, w => (Region.ready .any ops listed = [] → Qn a w) ∧
    ∀ i ∈ Region.ready .any ops listed, wpOpIn F 0 P ops (Nml Qn) i (fun a' w' => (cl = true → i ∉ S → C w') ∧ anyC F P ops Qn S C m (cl && !S.contains i) (listed.setIfInBounds i true) a' w') a w
theorem anyC.mono {S : List Nat} {C C' : World → Prop} (hc : ∀ w, C w → C' w) : ∀ {m : Nat} {cl : Bool} {listed : Array Bool} {a : Act} {w : World}, anyC F P ops Qn S C m cl listed a w → anyC F P ops Qn S C' m cl listed a w
  | 0, _, _, _, _, h => h
  | _ + 1, _, _, _, _, h => ⟨h.1, fun i hi => wpOpIn_mono (fun _ _ h' => ⟨fun hl hn => hc _ (h'.1 hl hn), anyC.mono hc h'.2⟩) (h.2 i hi)⟩
theorem anyC.out {S : List Nat} {C : World → Prop} : ∀ {m : Nat} {cl : Bool} {listed : Array Bool} {a : Act} {w : World}, anyC F P ops Qn S C m cl listed a w → wpAnyIn F 0 P .any ops (Nml Qn) m listed a w
  | 0, _, _, _, _, h => ⟨h.1, rfl, h.2⟩
  | _ + 1, _, _, _, _, h => ⟨fun hr => ⟨rfl, h.1 hr⟩, fun i hi => wpOpIn_mono (fun _ _ h' => anyC.out h'.2) (h.2 i hi)⟩
/-- its value is v in every world of the class, or it is passed over -/
def Still (P : Program) (ops : Array Oper) (C : World → Prop) (o : Oper) (v : Value) (a : Act) : Prop :=
  (Region.wanted o (yielded ops a.tmps) = true ∧ ∀ w, C w → (execOp a.eval o).run P w = .ok (.value v) w) ∨ (Region.wanted o (yielded ops a.tmps) = false ∧ v = undef)
theorem Still.of_same {C : World → Prop} {o : Oper} {v : Value} {a a' : Act} (hy : Still P ops C o v a) (he : execOp a'.eval o = execOp a.eval o)
    (hw : Region.wanted o (yielded ops a'.tmps) = Region.wanted o (yielded ops a.tmps)) : Still P ops C o v a' := by
  unfold Still at *
  rw [he, hw]
  exact hy
def Calm (ops : Array Oper) : Prop := ∀ (j : Nat) (o : Oper), ops[j]? = some o → (∀ cs b, o.op ≠ .select cs b) ∧ ∀ cl, o.op ≠ .defer cl
theorem Still.wpOpIn (hF : WideF F) (hcalm : Calm ops) {C : World → Prop} {i : Nat} {o : Oper} {v : Value} {a : Act} {Q : Exit → Act → World → Prop} (hi : ops[i]? = some o) (hy : Still P ops C o v a) {K : Act → World → Prop} {w : World} (hc : C w) (h : K (a.put o.dst v) w) :
    wpOpIn F 0 P ops Q i K a w := by
  unfold Go.wpOpIn
  simp only [hi]
  rcases hy with ⟨hw, hv⟩ | ⟨hw, rfl⟩
  · simp only [hw, if_true, Oper.wpIn, Oper.semAt_eq _ _ _ (hcalm i o hi).2, hv w hc, Oper.uponIn]; exact ⟨fun f _ => hF.fn f, h⟩
  · simp only [hw, Bool.false_eq_true, if_false]; exact ⟨fun f _ => hF.fn f, h⟩
theorem Act.put_with (a : Act) (ds : List Deferred) (d : Option Tmp) (v : Value) : ({ a with defers := ds } : Act).put d v = { a.put d v with defers := ds } := by cases d <;> rfl
theorem uponIn_turn {o : Oper} {a a1 : Act} {K K' : Act → World → Prop} (hd : a1.defers = a.defers) (hk : ∀ ds u w, K (({ a1 with defers := ds } : Act).put o.dst u) w → K' (({ a with defers := ds } : Act).put o.dst u) w) {r : Result Next}
    (h : o.uponIn F 0 P a1 K (Nml Qn) r) : o.uponIn F 0 P a K' (Nml Qn) r := by
  have hk0 : ∀ u w, K (a1.put o.dst u) w → K' (a.put o.dst u) w := fun u w h => hk a.defers u w (by rw [← hd]; exact h)
  cases r with
  | ok x w' =>
    cases x <;> simp only [Oper.uponIn] at h ⊢
    case value u => exact hk0 _ _ h
    case skip => exact hk0 _ _ h
    case defer d => refine hk (d :: a.defers) _ _ ?_; rw [← hd]; exact h
    case enter f args =>
      refine ⟨h.1, CallsIn.mono h.2 fun e w'' he => ?_⟩
      cases e with
      | returned u => exact hk0 _ _ he
      | panicked ch => exact absurd he.1 (by simp)
      | outgrown => obtain ⟨_, _, hx⟩ := he; exact absurd hx.1 (by simp)
    case row row args => exact ⟨h.1, RowsIn.mono h.2 fun u w'' he => hk0 _ _ he⟩
    case round l f tmps assign body =>
      refine ⟨h.1, RoundIn.mono h.2 fun e w'' he => ?_⟩
      cases e with
      | returned u => exact hk0 _ _ he
      | panicked ch => exact absurd he.1 (by simp)
      | outgrown => obtain ⟨_, _, hx⟩ := he; exact absurd hx.1 (by simp)
  | halt x w' =>
    cases x <;> simp only [Oper.uponIn] at h ⊢
    case panic u => exact absurd h.1 (by simp)
theorem wpOpIn_turn (hF : WideF F) (hcalm : Calm ops) {j : Nat} {oi oj : Oper} {v : Value} (hi : ∃ i : Nat, ops[i]? = some oi) (hj : ops[j]? = some oj) (hap : oi.apart ops oj = true) {C : World → Prop} {K : Act → World → Prop} {a : Act} {w : World}
    (hy : Still P ops C oi v a) (h : wpOpIn F 0 P ops (Nml Qn) j K (a.put oi.dst v) w) :
    wpOpIn F 0 P ops (Nml Qn) j (fun a' w' => Still P ops C oi v a' ∧ K (a'.put oi.dst v) w') a w := by
  obtain ⟨i, hi⟩ := hi
  obtain ⟨h1, h2, h3⟩ := Oper.apart_spec hap
  have hsi := (hcalm i oi hi).1
  obtain ⟨hsj, hdj⟩ := hcalm j oj hj
  have keep : ∀ ds u, Still P ops C oi v (({ a with defers := ds } : Act).put oj.dst u) := fun ds u => by
    rw [Act.put_with]
    exact (hy.of_same (a' := a.put oj.dst u) (execOp_put oi hsi a oj.dst u h3) (wanted_put oi a oj.dst u h3)).of_same rfl rfl
  have turn : ∀ ds u w, K (({ a.put oi.dst v with defers := ds } : Act).put oj.dst u) w → Still P ops C oi v (({ a with defers := ds } : Act).put oj.dst u) ∧ K ((({ a with defers := ds } : Act).put oj.dst u).put oi.dst v) w := fun ds u w hk => by
    refine ⟨keep ds u, ?_⟩
    have h5 := Act.put_comm ({ a with defers := ds } : Act) (x := oi.dst) (y := oj.dst) v u h2
    rw [← h5]
    have h6 : ({ a with defers := ds } : Act).put oi.dst v = { a.put oi.dst v with defers := ds } := by cases oi.dst <;> rfl
    rw [h6]
    exact hk
  unfold wpOpIn at *
  simp only [hj] at *
  rw [wanted_put oj a oi.dst v h1] at h
  split
  · rename_i hw
    simp only [hw, if_true] at h
    refine ⟨fun f _ => hF.fn f, ?_⟩
    have h := h.2
    rw [Oper.semAt_eq _ _ _ hdj, execOp_put oj hsj a oi.dst v h1] at h
    rw [Oper.semAt_eq _ _ _ hdj]
    exact uponIn_turn (by cases oi.dst <;> rfl) turn h
  · rename_i hw
    simp only [hw] at h
    refine ⟨fun f _ => hF.fn f, ?_⟩
    have := turn a.defers undef w (by cases hd : oi.dst <;> (rw [hd] at h; exact h.2))
    exact this
/-- what is listed waited for what is listed -/
def Closed (ops : Array Oper) (listed : Array Bool) : Prop := ∀ (k : Nat) (ok : Oper), ops[k]? = some ok → listed.getD k false = true → ∀ e ∈ ok.after, Region.binds .any e = true → listed.getD e.on false = true
theorem Closed.set {listed : Array Bool} {j : Nat} (h : Closed ops listed) (hj : j ∈ Region.ready .any ops listed) : Closed ops (listed.setIfInBounds j true) := fun k ok hk hl e he hb => by
  by_cases hjk : j = k
  · subst hjk
    obtain ⟨_, o, ho, hall⟩ := mem_ready.1 hj
    rw [hk] at ho; cases ho
    exact getD_set_true (hall e he hb)
  · rw [getD_set_ne false hjk] at hl
    exact getD_set_true (h k ok hk hl e he hb)
def waits (ops : Array Oper) : Nat → Nat → Nat → Bool
  | 0, _, _ => false
  | m + 1, i, j => match ops[j]? with
    | some oj => oj.after.any fun e => Region.binds .any e && (e.on == i || waits ops m i e.on)
    | none => true
theorem waits_sound {listed : Array Bool} (hc : Closed ops listed) {i : Nat} : ∀ (m j : Nat) (oj : Oper), waits ops m i j = true → ops[j]? = some oj → (∀ e ∈ oj.after, Region.binds .any e = true → listed.getD e.on false = true) → (∀ k, listed.getD k false = true → ∃ o, ops[k]? = some o) → listed.getD i false = true
  | 0, _, _, h, _, _, _ => by simp [waits] at h
  | m + 1, j, oj, h, hj, hall, hin => by
    simp only [waits, hj] at h
    obtain ⟨e, he, hb⟩ := Array.any_eq_true'.1 h
    simp only [Bool.and_eq_true, Bool.or_eq_true, beq_iff_eq] at hb
    have hl := hall e he hb.1
    rcases hb.2 with h1 | h1
    · rw [← h1]; exact hl
    · obtain ⟨o, ho⟩ := hin e.on hl
      exact waits_sound hc m e.on o h1 ho (hc e.on o ho hl) hin
/-- a quiet operation that may come up now is taken first -/
theorem anyC_first (hF : WideF F) (hcalm : Calm ops) {S : List Nat} {C : World → Prop} {i : Nat} {oi : Oper} {v : Value} (hi : ops[i]? = some oi)
    (hS : ∀ j ∈ S, waits ops 4 i j = true) (hiS : i ∉ S) :
    ∀ (m : Nat) (listed : Array Bool) (a : Act) (w : World), Closed ops listed → listed.size = ops.size →
      (∀ j oj, ops[j]? = some oj → j ≠ i → listed.getD j true = false → (∀ e ∈ oj.after, Region.binds .any e = true → e.on ≠ i) → oi.apart ops oj = true) →
      i ∈ Region.ready .any ops listed → Still P ops C oi v a → C w →
      anyC F P ops Qn S C m true (listed.setIfInBounds i true) (a.put oi.dst v) w → anyC F P ops Qn S C (m + 1) true listed a w := by
  have hcl' : ∀ {j : Nat}, j ∉ S → (true && !S.contains j) = true := fun h => by simp [h]
  intro m
  induction m with
  | zero =>
    intro listed a w _ _ _ hr hy hc H
    refine ⟨fun h => (by rw [h] at hr; cases hr), fun j hj => ?_⟩
    by_cases hji : j = i
    · subst hji; exact hy.wpOpIn hF hcalm hi hc ⟨fun _ _ => hc, by rw [hcl' hiS]; exact H⟩
    · have := ready_mono hj hji
      rw [H.1] at this
      cases this
  | succ m ih =>
    intro listed a w hcl hsz hfree hr hy hc H
    refine ⟨fun h => (by rw [h] at hr; cases hr), fun j hj => ?_⟩
    by_cases hji : j = i
    · subst hji; exact hy.wpOpIn hF hcalm hi hc ⟨fun _ _ => hc, by rw [hcl' hiS]; exact H⟩
    · have h1 := H.2 j (ready_mono hj hji)
      obtain ⟨hjun, oj, hoj, hall⟩ := mem_ready.1 hj
      have hnot : ∀ e ∈ oj.after, Region.binds .any e = true → e.on ≠ i := fun e he hb heq => by
        have h1 := hall e he hb
        have h0 := (mem_ready.1 hr).1
        rw [heq] at h1
        rcases Nat.lt_or_ge i listed.size with h' | h'
        · simp [h'] at h0 h1; rw [h0] at h1; cases h1
        · simp [Array.getElem?_eq_none h'] at h1
      have hjS : j ∉ S := fun hjS => by
        have hiu := (mem_ready.1 hr).1
        have hil : i < listed.size := by rw [hsz]; exact (Array.getElem?_eq_some_iff.1 hi).1
        have := waits_sound hcl 4 j oj (hS j hjS) hoj hall fun k hk => by
          have hks : k < listed.size := by
            rcases Nat.lt_or_ge k listed.size with h' | h'
            · exact h'
            · simp [Array.getElem?_eq_none h'] at hk
          rw [hsz] at hks
          exact ⟨ops[k], by simp [hks]⟩
        simp only [Array.getD_eq_getD_getElem?, Array.getElem?_eq_getElem hil, Option.getD_some] at hiu this
        rw [hiu] at this; cases this
      have h2 := wpOpIn_turn hF hcalm ⟨i, hi⟩ hoj (hfree j oj hoj hji hjun hnot) hy h1
      have hfree' : ∀ k ok, ops[k]? = some ok → k ≠ i → (listed.setIfInBounds j true).getD k true = false →
          (∀ e ∈ ok.after, Region.binds .any e = true → e.on ≠ i) → oi.apart ops ok = true := fun k ok hk hki hun hno => by
        refine hfree k ok hk hki ?_ hno
        by_cases hjk : j = k
        · subst hjk; exact hjun
        · rw [getD_set_ne true hjk] at hun; exact hun
      refine wpOpIn_mono (fun a' w' h3 => ?_) h2
      obtain ⟨hst, hcw, hrest⟩ := h3
      rw [hcl' hjS] at hrest ⊢
      refine ⟨fun _ _ => hcw rfl hjS, ih (listed.setIfInBounds j true) a' w' (hcl.set hj) (by simpa using hsz) hfree' (ready_mono hr (Ne.symm hji)) hst (hcw rfl hjS) ?_⟩
      rw [Array.setIfInBounds_comm _ _ hji]
      exact hrest
/-- .. that looks at no memory -/
theorem anyC_pure (hF : WideF F) (hcalm : Calm ops) {S : List Nat} {C : World → Prop} {i : Nat} {oi : Oper} {v : Value} (hi : ops[i]? = some oi) (hiS : i ∉ S) :
    ∀ (m : Nat) (cl : Bool) (listed : Array Bool) (a : Act) (w : World), Closed ops listed → listed.size = ops.size →
      (∀ j oj, ops[j]? = some oj → j ≠ i → listed.getD j true = false → (∀ e ∈ oj.after, Region.binds .any e = true → e.on ≠ i) → oi.apart ops oj = true) →
      i ∈ Region.ready .any ops listed → Still P ops (fun _ => True) oi v a → (cl = true → C w) →
      anyC F P ops Qn S C m cl (listed.setIfInBounds i true) (a.put oi.dst v) w → anyC F P ops Qn S C (m + 1) cl listed a w := by
  have hcl' : ∀ {cl : Bool}, (cl && !S.contains i) = cl := fun {cl} => by simp [hiS]
  intro m
  induction m with
  | zero =>
    intro cl listed a w _ _ _ hr hy hc H
    refine ⟨fun h => (by rw [h] at hr; cases hr), fun j hj => ?_⟩
    by_cases hji : j = i
    · subst hji; exact hy.wpOpIn hF hcalm hi trivial ⟨fun hl _ => hc hl, by rw [hcl']; exact H⟩
    · have := ready_mono hj hji
      rw [H.1] at this
      cases this
  | succ m ih =>
    intro cl listed a w hcl hsz hfree hr hy hc H
    refine ⟨fun h => (by rw [h] at hr; cases hr), fun j hj => ?_⟩
    by_cases hji : j = i
    · subst hji; exact hy.wpOpIn hF hcalm hi trivial ⟨fun hl _ => hc hl, by rw [hcl']; exact H⟩
    · have h1 := H.2 j (ready_mono hj hji)
      obtain ⟨hjun, oj, hoj, hall⟩ := mem_ready.1 hj
      have hnot : ∀ e ∈ oj.after, Region.binds .any e = true → e.on ≠ i := fun e he hb heq => by
        have h1 := hall e he hb
        have h0 := (mem_ready.1 hr).1
        rw [heq] at h1
        rcases Nat.lt_or_ge i listed.size with h' | h'
        · simp [h'] at h0 h1; rw [h0] at h1; cases h1
        · simp [Array.getElem?_eq_none h'] at h1
      have h2 := wpOpIn_turn hF hcalm ⟨i, hi⟩ hoj (hfree j oj hoj hji hjun hnot) hy h1
      have hfree' : ∀ k ok, ops[k]? = some ok → k ≠ i → (listed.setIfInBounds j true).getD k true = false →
          (∀ e ∈ ok.after, Region.binds .any e = true → e.on ≠ i) → oi.apart ops ok = true := fun k ok hk hki hun hno => by
        refine hfree k ok hk hki ?_ hno
        by_cases hjk : j = k
        · subst hjk; exact hjun
        · rw [getD_set_ne true hjk] at hun; exact hun
      refine wpOpIn_mono (fun a' w' h3 => ?_) h2
      obtain ⟨hst, hcw, hrest⟩ := h3
      refine ⟨hcw, ih (cl && !S.contains j) (listed.setIfInBounds j true) a' w' (hcl.set hj) (by simpa using hsz) hfree' (ready_mono hr (Ne.symm hji)) hst (fun hl => ?_) ?_⟩
      · simp only [Bool.and_eq_true, Bool.not_eq_true'] at hl
        exact hcw hl.1 (by simpa using hl.2)
      · rw [Array.setIfInBounds_comm _ _ hji]
        exact hrest
end
/-! ### the plan -/
inductive Plan where
  | done (l : List Nat)
  | q (i : Nat) (t : Plan)
  | e (i : Nat) (t : Plan)
  | f (i : Nat) (t : Plan) (j : Nat) (u : Plan)
  | g (i : Nat) (t : Plan) (j : Nat) (u : Plan) (k : Nat) (v : Plan)
  | r (t : Plan)
  | p (i : Nat) (t : Plan)
def Plan.len : Plan → Nat
  | .done l => l.length
  | .q _ t => t.len + 1
  | .e _ t => t.len + 1
  | .f _ t _ _ => t.len + 1
  | .g _ t _ _ _ _ => t.len + 1
  | .r t => t.len
  | .p _ t => t.len + 1
def seqOk (ops : Array Oper) (S : List Nat) : List Nat → Array Bool → Bool
  | [], listed => (Region.ready .any ops listed).isEmpty
  | i :: l, listed => S.contains i && (Region.ready .any ops listed == [i]) && seqOk ops S l (listed.setIfInBounds i true)
def Plan.ok (ops : Array Oper) (S : List Nat) : Plan → Array Bool → Bool
  | .done l, listed => seqOk ops S l listed
  | .p i t, listed => !S.contains i && (Region.ready .any ops listed).contains i && Region.free .any ops listed i && t.ok ops S (listed.setIfInBounds i true)
  | .q i t, listed => !S.contains i && (Region.ready .any ops listed).contains i && Region.free .any ops listed i && (S.all fun j => waits ops 4 i j) && t.ok ops S (listed.setIfInBounds i true)
  | .e i t, listed => !S.contains i && (Region.ready .any ops listed == [i]) && t.ok ops S (listed.setIfInBounds i true)
  | .f i t j u, listed => !S.contains i && !S.contains j && (Region.ready .any ops listed == [i, j]) && t.len == u.len && t.ok ops S (listed.setIfInBounds i true) && u.ok ops S (listed.setIfInBounds j true)
  | .g i t j u k v, listed => !S.contains i && !S.contains j && !S.contains k && (Region.ready .any ops listed == [i, j, k]) && t.len == u.len && t.len == v.len && t.ok ops S (listed.setIfInBounds i true) && u.ok ops S (listed.setIfInBounds j true) && v.ok ops S (listed.setIfInBounds k true)
  | .r t, listed => ((List.range ops.size).all fun j => listed.getD j true || S.contains j) && t.ok ops [] listed
def calmB (ops : Array Oper) : Bool := ops.all fun o => match o.op with
  | .select _ _ => false
  | .defer _ => false
  | _ => true
theorem calm_of {ops : Array Oper} (h : calmB ops = true) : Calm ops := fun j o hj => by
  have := Array.all_eq_true_iff_forall_mem.1 h o (Array.mem_of_getElem? hj)
  constructor
  · intro cs b hh; simp [hh] at this
  · intro cl hh; simp [hh] at this
/-- the class of worlds at a state -/
def Cls (s : Sta) : World → Prop := fun w => Mem s.H w ∧ Own.ok s.L w
def Grow (s s' : Sta) : Prop := HLe s.H s'.H ∧ s'.L = s.L
theorem Grow.refl (s : Sta) : Grow s s := ⟨HLe.refl _, rfl⟩
theorem Grow.cls {c : Ctx} {s s' : Sta} {a : Act} {w : World} (h : Grow s s') (hs : s'.ok c a w) : Cls s w :=
  ⟨fun b o v hv => hs.holds.mem b o v (h.1 b o v hv), fun r hr => hs.holds.own r (List.mem_append_right _ (by rw [h.2]; exact hr))⟩
theorem Cls.self {c : Ctx} {s : Sta} {a : Act} {w : World} (hs : s.ok c a w) : Cls s w := (Grow.refl s).cls hs
def picks (ops : List Oper) : List Nat → List Oper
  | [] => []
  | i :: l => match opget ops i with
    | some o => o :: picks ops l
    | none => []
def drQ (P : Program) (c : Ctx) (ops : List Oper) (o : Oper) (s : Sta) (K : SP) : Prop := ∀ a w, s.ok c a w → ∃ v s', Still P ops.toArray (Cls s) o v a ∧ s'.ok c (a.put o.dst v) w ∧ Grow s s' ∧ K s'
def drP (P : Program) (c : Ctx) (ops : List Oper) (o : Oper) (s : Sta) (K : SP) : Prop := ∀ a w, s.ok c a w → ∃ v s', Still P ops.toArray (fun _ => True) o v a ∧ s'.ok c (a.put o.dst v) w ∧ Grow s s' ∧ K s'
def drE (F : Fence) (P : Program) (c : Ctx) (ops : List Oper) (o : Oper) (s : Sta) (K : SP) : Prop :=
  ∀ a w, s.ok c a w → if Region.wanted o (yielded ops.toArray a.tmps) = true then o.wpIn F 0 P a w (fun a' w' => ∃ s', s'.ok c a' w' ∧ Grow s s' ∧ K s') (fun _ _ _ => False)
    else ∃ s', s'.ok c (a.put o.dst undef) w ∧ Grow s s' ∧ K s'
def stepJ (F : Fence) (P : Program) (c : Ctx) (ops : List Oper) (i : Nat) (s : Sta) (K : SP) : Prop := ∃ o, opget ops i = some o ∧ drE F P c ops o s K
/-- the walk of a plan -/
def drJ (F : Fence) (P : Program) (c : Ctx) (ops : List Oper) (K : SP) (Lh L0 : Own) : Plan → SP
  | .done l, s => s.L = Lh ++ L0 ∧ opsA F P c ops (picks ops l) K ⟨s.n, s.env, s.H, s.M ++ Lh, L0, s.D⟩
  | .q i t, s => ∃ o, opget ops i = some o ∧ drQ P c ops o s (drJ F P c ops K Lh L0 t)
  | .e i t, s => stepJ F P c ops i s (drJ F P c ops K Lh L0 t)
  | .f i t j u, s => (stepJ F P c ops i s (drJ F P c ops K Lh L0 t)) ∧ (stepJ F P c ops j s (drJ F P c ops K Lh L0 u))
  | .g i t j u k v, s => (stepJ F P c ops i s (drJ F P c ops K Lh L0 t)) ∧ (stepJ F P c ops j s (drJ F P c ops K Lh L0 u)) ∧ (stepJ F P c ops k s (drJ F P c ops K Lh L0 v))
  | .p i t, s => ∃ o, opget ops i = some o ∧ drP P c ops o s (drJ F P c ops K Lh L0 t)
  | .r t, s => s.L = Lh ++ L0 ∧ drJ F P c ops K [] L0 t ⟨s.n, s.env, s.H, s.M ++ Lh, L0, s.D⟩
section
variable {F : Fence} {P : Program} {c : Ctx} {ops : List Oper} {K : SP} {X : List (Nat × SP)} {R : SP} {S : List Nat} {Lh L0 : Own}
theorem wpOpIn_of {i : Nat} {o : Oper} {Q : Exit → Act → World → Prop} {Kx : Act → World → Prop} {a : Act} {w : World} (hF : WideF F) (ho : opget ops i = some o)
    (h : if Region.wanted o (yielded ops.toArray a.tmps) = true then o.wpIn F 0 P a w Kx Q else Kx (a.put o.dst undef) w) : wpOpIn F 0 P ops.toArray Q i Kx a w := by
  rw [opget_eq] at ho
  unfold wpOpIn
  simp only [List.getElem?_toArray, ho]
  split
  · rename_i hw; simpa [hw] using h
  · rename_i hw; exact ⟨fun f _ => hF.fn f, by simpa [hw] using h⟩
theorem seq_sound (hF : WideF F) {C : World → Prop} : ∀ (l : List Nat) (cl : Bool) (listed : Array Bool) (a : Act) (w : World), seqOk ops.toArray S l listed = true →
    wpListIn F 0 P ops.toArray (contQ noPn c K [] fun _ => False) (picks ops l) a w → anyC F P ops.toArray (fun a w => ∃ s, s.ok c a w ∧ K s) S C l.length cl listed a w := by
  intro l
  induction l with
  | nil => intro cl listed a w hok h; exact ⟨by simpa [seqOk] using hok, h⟩
  | cons i l ih =>
    intro cl listed a w hok h
    simp only [seqOk, Bool.and_eq_true] at hok
    obtain ⟨⟨hS, hr⟩, hok⟩ := hok
    have hr' := eq_of_beq hr
    refine ⟨fun h0 => (by rw [hr'] at h0; cases h0), fun j hj => ?_⟩
    have hj' := hj
    rw [hr'] at hj
    simp at hj
    subst hj
    obtain ⟨_, o, ho, _⟩ := mem_ready.1 hj'
    have ho' : opget ops j = some o := by rw [opget_eq]; simpa using ho
    refine wpOpIn_of hF ho' ?_
    simp only [picks, ho', wpListIn] at h
    have hnS : ∀ {w' : World}, cl = true → j ∉ S → C w' := fun _ hn => absurd (by simpa using hS) hn
    split
    · rename_i hw
      rw [if_pos hw] at h
      refine Oper.wpIn_both (fun a' w' hk => ⟨hnS, ih _ _ _ _ hok hk⟩) (fun e a w q => ?_) h
      cases e with
      | normal => exact ⟨rfl, q⟩
      | exit id => obtain ⟨s, hs, K', hx, _⟩ := q; simp [xfind] at hx
      | ret => obtain ⟨s, hs, hx⟩ := q; exact hx.elim
      | goto l => exact q.elim
      | panic ch => obtain ⟨s, hs, hx⟩ := q; exact hx.elim
      | outgrown => exact q.elim
    · rename_i hw
      rw [if_neg hw] at h
      exact ⟨hnS, ih _ _ _ _ hok h.2⟩
theorem anyC.rel {Qn : Act → World → Prop} {S S' : List Nat} {C C' : World → Prop} : ∀ (m : Nat) (cl cl' : Bool) (listed : Array Bool) (a : Act) (w : World), (∀ i, i < ops.toArray.size → listed.getD i true = true ∨ i ∈ S) →
    anyC F P ops.toArray Qn S' C' m cl' listed a w → anyC F P ops.toArray Qn S C m cl listed a w
  | 0, _, _, _, _, _, _, h => h
  | m + 1, cl, cl', listed, a, w, hall, h => ⟨h.1, fun i hi => wpOpIn_mono (fun a' w' h' => ⟨fun _ hn => (by
      obtain ⟨hu, o, ho, _⟩ := mem_ready.1 hi
      rcases hall i (Array.getElem?_eq_some_iff.1 ho).1 with h1 | h1
      · rw [h1] at hu; cases hu
      · exact absurd h1 hn), anyC.rel m _ _ (listed.setIfInBounds i true) a' w' (fun j hj => by
        by_cases hij : i = j
        · subst hij
          left
          simp [Array.getD_eq_getD_getElem?, Array.getElem?_setIfInBounds]
          split <;> simp
        · rw [getD_set_ne true hij]; exact hall j hj) h'.2⟩) (h.2 i hi)⟩
theorem Grow.cls_mono {s s' : Sta} (h : Grow s s') : ∀ w, Cls s' w → Cls s w := fun w hw => ⟨fun b o v hv => hw.1 b o v (h.1 b o v hv), by rw [← h.2]; exact hw.2⟩
theorem drJ_sound (hF : WideF F) (hcalm : Calm ops.toArray) : ∀ (p : Plan) (S : List Nat) (Lh : Own) (s : Sta) (listed : Array Bool) (a : Act) (w : World), Closed ops.toArray listed → listed.size = ops.toArray.size → p.ok ops.toArray S listed = true → s.ok c a w → drJ F P c ops K Lh L0 p s →
    anyC F P ops.toArray (fun a w => ∃ s, s.ok c a w ∧ K s) S (Cls s) p.len true listed a w := by
  have one : ∀ {S : List Nat} {Lh : Own} {i : Nat} {t : Plan} {s : Sta} {a : Act} {w : World} {listed : Array Bool}, ¬ i ∈ S → s.ok c a w →
      (∀ (s : Sta) (a : Act) (w : World), s.ok c a w → drJ F P c ops K Lh L0 t s → anyC F P ops.toArray (fun a w => ∃ s, s.ok c a w ∧ K s) S (Cls s) t.len true (listed.setIfInBounds i true) a w) →
      stepJ F P c ops i s (drJ F P c ops K Lh L0 t) →
      wpOpIn F 0 P ops.toArray (Nml fun a w => ∃ s, s.ok c a w ∧ K s) i (fun a' w' => (true = true → i ∉ S → Cls s w') ∧ anyC F P ops.toArray (fun a w => ∃ s, s.ok c a w ∧ K s) S (Cls s) t.len (true && !S.contains i) (listed.setIfInBounds i true) a' w') a w := by
    intro S Lh i t s a w listed hnS hs ih ⟨o, ho, h⟩
    have h1 := h a w hs
    have hk : ∀ a' w', (∃ s', s'.ok c a' w' ∧ Grow s s' ∧ drJ F P c ops K Lh L0 t s') → (true = true → i ∉ S → Cls s w') ∧ anyC F P ops.toArray (fun a w => ∃ s, s.ok c a w ∧ K s) S (Cls s) t.len (true && !S.contains i) (listed.setIfInBounds i true) a' w' :=
      fun a' w' ⟨s', hs', hg, hj⟩ => ⟨fun _ _ => hg.cls hs', by rw [show (true && !S.contains i) = true by simp [hnS]]; exact anyC.mono hg.cls_mono (ih s' a' w' hs' hj)⟩
    refine wpOpIn_of hF ho ?_
    split
    · rename_i hw
      rw [if_pos hw] at h1
      exact Oper.wpIn_both hk (fun e a w q => q.elim) h1
    · rename_i hw
      rw [if_neg hw] at h1
      exact hk _ _ h1
  intro p
  induction p with
  | done l =>
    intro S Lh s listed a w hcl hsz hok hs ⟨hL, h⟩
    refine seq_sound hF l true listed a w hok (h a w ⟨hs.defers, hs.size, hs.env, ?_⟩)
    have := hs.holds
    rw [hL] at this
    simpa [List.append_assoc] using this
  | q i t ih =>
    intro S Lh s listed a w hcl hsz hok hs ⟨o, ho, h⟩
    simp only [Plan.ok, Bool.and_eq_true] at hok
    obtain ⟨⟨⟨⟨hiS, hr⟩, hf⟩, hw⟩, hok⟩ := hok
    obtain ⟨v, s', hst, hs', hg, hj⟩ := h a w hs
    have hoi : ops.toArray[i]? = some o := by rw [opget_eq] at ho; simpa using ho
    exact anyC_first hF hcalm hoi (fun j hj => List.all_eq_true.1 hw j hj) (by simpa using hiS) t.len listed a w hcl hsz (Region.free_spec hoi hf) (by simpa using hr) hst (Cls.self hs) (anyC.mono hg.cls_mono (ih S Lh s' _ _ w (hcl.set (by simpa using hr)) (by simpa using hsz) hok hs' hj))
  | e i t ih =>
    intro S Lh s listed a w hcl hsz hok hs h
    simp only [Plan.ok, Bool.and_eq_true] at hok
    obtain ⟨⟨hS, hr⟩, hok⟩ := hok
    have hr' := eq_of_beq hr
    refine ⟨fun h0 => (by rw [hr'] at h0; cases h0), fun j hj => ?_⟩
    have hcl' := hcl.set hj
    rw [hr'] at hj
    simp at hj
    subst hj
    exact one (by simpa using hS) hs (fun s a w hs hj => ih S Lh s _ a w hcl' (by simpa using hsz) hok hs hj) h
  | f i t j u ih1 ih2 =>
    intro S Lh s listed a w hcl hsz hok hs ⟨h1, h2⟩
    simp only [Plan.ok, Bool.and_eq_true] at hok
    obtain ⟨⟨⟨⟨⟨hS1, hS2⟩, hr⟩, hlen⟩, hok1⟩, hok2⟩ := hok
    have hr' := eq_of_beq hr
    have hlen' := eq_of_beq hlen
    refine ⟨fun h0 => (by rw [hr'] at h0; cases h0), fun k hk => ?_⟩
    have hcl' := hcl.set hk
    rw [hr'] at hk
    simp at hk
    rcases hk with rfl | rfl
    · exact one (by simpa using hS1) hs (fun s a w hs hj => ih1 S Lh s _ a w hcl' (by simpa using hsz) hok1 hs hj) h1
    · have := one (listed := listed) (by simpa using hS2) hs (fun s a w hs hj => ih2 S Lh s _ a w hcl' (by simpa using hsz) hok2 hs hj) h2
      show wpOpIn F 0 P ops.toArray _ k (fun a' w' => _ ∧ anyC F P ops.toArray _ S (Cls s) t.len _ _ a' w') a w
      rw [hlen']
      exact this
  | g i t j u m v ih1 ih2 ih3 =>
    intro S Lh s listed a w hcl hsz hok hs ⟨h1, h2, h3⟩
    simp only [Plan.ok, Bool.and_eq_true] at hok
    obtain ⟨⟨⟨⟨⟨⟨⟨⟨hS1, hS2⟩, hS3⟩, hr⟩, hlen⟩, hlen3⟩, hok1⟩, hok2⟩, hok3⟩ := hok
    have hr' := eq_of_beq hr
    have hlen' := eq_of_beq hlen
    have hlen3' := eq_of_beq hlen3
    refine ⟨fun h0 => (by rw [hr'] at h0; cases h0), fun k hk => ?_⟩
    have hcl' := hcl.set hk
    rw [hr'] at hk
    simp at hk
    rcases hk with rfl | rfl | rfl
    · exact one (by simpa using hS1) hs (fun s a w hs hj => ih1 S Lh s _ a w hcl' (by simpa using hsz) hok1 hs hj) h1
    · have := one (listed := listed) (by simpa using hS2) hs (fun s a w hs hj => ih2 S Lh s _ a w hcl' (by simpa using hsz) hok2 hs hj) h2
      show wpOpIn F 0 P ops.toArray _ k (fun a' w' => _ ∧ anyC F P ops.toArray _ S (Cls s) t.len _ _ a' w') a w
      rw [hlen']
      exact this
    · have := one (listed := listed) (by simpa using hS3) hs (fun s a w hs hj => ih3 S Lh s _ a w hcl' (by simpa using hsz) hok3 hs hj) h3
      show wpOpIn F 0 P ops.toArray _ k (fun a' w' => _ ∧ anyC F P ops.toArray _ S (Cls s) t.len _ _ a' w') a w
      rw [hlen3']
      exact this
  | p i t ih =>
    intro S Lh s listed a w hcl hsz hok hs ⟨o, ho, h⟩
    simp only [Plan.ok, Bool.and_eq_true] at hok
    obtain ⟨⟨⟨hiS, hr⟩, hf⟩, hok⟩ := hok
    obtain ⟨v, s', hst, hs', hg, hj⟩ := h a w hs
    have hoi : ops.toArray[i]? = some o := by rw [opget_eq] at ho; simpa using ho
    exact anyC_pure hF hcalm hoi (by simpa using hiS) t.len true listed a w hcl hsz (Region.free_spec hoi hf) (by simpa using hr) hst (fun _ => Cls.self hs) (anyC.mono hg.cls_mono (ih S Lh s' _ _ w (hcl.set (by simpa using hr)) (by simpa using hsz) hok hs' hj))
  | r t ih =>
    intro S Lh s listed a w hcl hsz hok hs ⟨hL, h⟩
    simp only [Plan.ok, Bool.and_eq_true] at hok
    refine anyC.rel t.len _ true listed a w (fun i hi => ?_) (ih [] [] ⟨s.n, s.env, s.H, s.M ++ Lh, L0, s.D⟩ listed a w hcl hsz hok.2 ⟨hs.defers, hs.size, hs.env, ?_⟩ h)
    · have := List.all_eq_true.1 hok.1 i (by simpa using hi)
      simpa using this
    · have := hs.holds
      rw [hL] at this
      simpa [List.append_assoc] using this
class MixC (P : Program) : Type where
  mixed : P.follows .mixedOrders = true
def Plan.all (ops : Array Oper) (S : List Nat) (p : Plan) : Bool := calmB ops && (p.len == ops.size) && p.ok ops S (Array.replicate ops.size false)
/-- the state at the head of the walk: the owned blocks that are held stand in L -/
theorem A_draw (hF : WideF F) [hm : MixC P] {id : Nat} {s : Sta} (p : Plan) (S : List Nat) (hp : p.all ops.toArray S = true) {M' : Own} (hr : Own.sub (M' ++ (Lh ++ s.L)) (s.M ++ s.L)) (h : drJ F P c ops K Lh s.L p ⟨s.n, s.env, s.H, M', Lh ++ s.L, s.D⟩) :
    wpA F P c (.region id ops.toArray true) K X R s := fun a w hs => by
  simp only [Plan.all, Bool.and_eq_true] at hp
  obtain ⟨⟨hc, hl⟩, hok⟩ := hp
  have hs' : Sta.ok c ⟨s.n, s.env, s.H, M', Lh ++ s.L, s.D⟩ a w.drew := ⟨hs.defers, hs.size, hs.env, (hs.holds.sub hr).drew⟩
  have h1 := anyC.out (drJ_sound hF (calm_of hc) p _ _ _ _ a w.drew (fun k ok _ hl => (by
    exfalso
    simp only [Array.getD_eq_getD_getElem?, Array.getElem?_replicate] at hl
    split at hl <;> simp at hl)) (by simp) hok hs' h)
  rw [eq_of_beq hl] at h1
  refine wpIn_mono (wpIn_region_any hm.mixed h1) ?_
  rintro e a w ⟨rfl, s, hs, hk⟩
  exact ⟨s, hs, hk⟩
def Own.rget : Own → Nat → Res
  | [], _ => .box 0 []
  | r :: _, 0 => r
  | _ :: l, n + 1 => Own.rget l n
theorem Own.rget_eq (R : Own) (n : Nat) : R.rget n = R.getD n (.box 0 []) := by
  induction R generalizing n with
  | nil => simp [Own.rget]
  | cons r l ih => cases n with
    | zero => simp [Own.rget]
    | succ n => simp [Own.rget, ih]
def Own.picks (R : Own) : List Nat → Own
  | [] => []
  | i :: l => R.rget i :: Own.picks R l
theorem Own.picks_eq (R : Own) (l : List Nat) : R.picks l = l.map fun i => R.getD i (.box 0 []) := by
  induction l with
  | nil => rfl
  | cons i l ih => simp [Own.picks, ih, Own.rget_eq]
theorem Own.sub_app {A M : Own} (L : Own) (h : Own.sub A M) : Own.sub (A ++ L) (M ++ L) := by
  obtain ⟨idx, hn, hlt, rfl⟩ := h
  refine ⟨idx ++ (List.range L.length).map (· + M.length), ?_, ?_, ?_⟩
  · rw [List.nodup_append]
    refine ⟨hn, List.Pairwise.map _ (fun a b h => by omega) (List.nodup_range (n := L.length)), fun a ha b hb => ?_⟩
    obtain ⟨j, hj, rfl⟩ := List.mem_map.1 hb
    have := hlt a ha
    omega
  · intro i hi
    rcases List.mem_append.1 hi with h | h
    · have := hlt i h; simp; omega
    · obtain ⟨j, hj, rfl⟩ := List.mem_map.1 h
      have := List.mem_range.1 hj
      simp; omega
  · rw [List.map_append, List.map_map]
    congr 1
    · apply List.map_congr_left
      intro i hi
      have := hlt i hi
      simp [List.getD, List.getElem?_append_left this]
    · apply List.ext_getElem?
      intro i
      by_cases hi : i < L.length
      · simp [hi, List.getD, List.getElem?_append_right]
      · simp [hi, List.getElem?_eq_none (Nat.le_of_not_lt hi)]
/-- .. which of the owned blocks stay at hand (mi), which are held (li) -/
theorem A_drawi (hF : WideF F) [hm : MixC P] {id n : Nat} {e : Env} {H : Hp} {M L : Own} {D : List Deferred} (p : Plan) (S : List Nat) (mi li : List Nat) (hp : p.all ops.toArray S = true) (h1 : (mi ++ li).Nodup) (h2 : ((mi ++ li).all fun i => Nat.blt i M.length) = true)
    (h : drJ F P c ops K (M.picks li) L p ⟨n, e, H, M.picks mi, M.picks li ++ L, D⟩) : wpA F P c (.region id ops.toArray true) K X R ⟨n, e, H, M, L, D⟩ :=
  A_draw (s := ⟨n, e, H, M, L, D⟩) hF p S hp (by
    rw [← List.append_assoc]
    refine Own.sub_app L (Own.subi (mi ++ li) h1 h2 ?_)
    rw [List.map_append, Own.picks_eq, Own.picks_eq]) h
/-! the rules of the walk -/
variable {i j d n : Nat} {t u : Plan} {s : Sta} {o : Oper} {e : Env} {H : Hp} {M L : Own} {D : List Deferred} {v : Value}
theorem D_done {l : List Nat} (h : opsA F P c ops (picks ops l) K ⟨n, e, H, M ++ Lh, L0, D⟩) : drJ F P c ops K Lh L0 (.done l) ⟨n, e, H, M, Lh ++ L0, D⟩ := ⟨rfl, h⟩
theorem D_r (h : drJ F P c ops K [] L0 t ⟨n, e, H, M ++ Lh, L0, D⟩) : drJ F P c ops K Lh L0 (.r t) ⟨n, e, H, M, Lh ++ L0, D⟩ := ⟨rfl, h⟩
theorem D_p (ho : opget ops i = some o) (h : drP P c ops o s (drJ F P c ops K Lh L0 t)) : drJ F P c ops K Lh L0 (.p i t) s := ⟨o, ho, h⟩
theorem D_pv (hw : want ops o e = some true) (h : Ev P o e (fun _ _ => none) [] v) (hd : o.dst = some d) (hn : Nat.blt d n = true) (k : K ⟨n, (d, v) :: e, H, M, L, D⟩) : drP P c ops o ⟨n, e, H, M, L, D⟩ K := fun a w hs => by
  have hlt : d < a.tmps.size := by rw [hs.size]; exact Nat.le_of_ble_eq_true hn
  exact ⟨v, ⟨n, (d, v) :: e, H, M, L, D⟩, .inl ⟨wanted_of_want hs.env hw, fun w' _ => h a w' hs.env (fun _ _ _ hh => by cases hh) (fun _ hr => by cases hr)⟩, by rw [hd]; exact ⟨hs.defers, by simpa [Act.put] using hs.size, hs.env.put hlt, hs.holds⟩, ⟨HLe.refl _, rfl⟩, k⟩
theorem D_q (ho : opget ops i = some o) (h : drQ P c ops o s (drJ F P c ops K Lh L0 t)) : drJ F P c ops K Lh L0 (.q i t) s := ⟨o, ho, h⟩
theorem D_e (ho : opget ops i = some o) (h : drE F P c ops o s (drJ F P c ops K Lh L0 t)) : drJ F P c ops K Lh L0 (.e i t) s := ⟨o, ho, h⟩
theorem D_f {o' : Oper} (ho : opget ops i = some o) (ho' : opget ops j = some o') (h : drE F P c ops o s (drJ F P c ops K Lh L0 t)) (h' : drE F P c ops o' s (drJ F P c ops K Lh L0 u)) : drJ F P c ops K Lh L0 (.f i t j u) s := ⟨⟨o, ho, h⟩, o', ho', h'⟩
theorem D_ev (hw : want ops o e = some true) (h : Ev P o e H L v) (hd : o.dst = some d) (hn : Nat.blt d n = true) (k : K ⟨n, (d, v) :: e, H, M, L, D⟩) : drQ P c ops o ⟨n, e, H, M, L, D⟩ K := fun a w hs => by
  have hlt : d < a.tmps.size := by rw [hs.size]; exact Nat.le_of_ble_eq_true hn
  exact ⟨v, ⟨n, (d, v) :: e, H, M, L, D⟩, .inl ⟨wanted_of_want hs.env hw, fun w' hw' => h a w' hs.env hw'.1 hw'.2⟩, by rw [hd]; exact ⟨hs.defers, by simpa [Act.put] using hs.size, hs.env.put hlt, hs.holds⟩, ⟨HLe.refl _, rfl⟩, k⟩
theorem D_skip (hw : want ops o e = some false) (hd : o.dst = some d) (hn : Nat.blt d n = true) (k : K ⟨n, (d, undef) :: e, H, M, L, D⟩) : drQ P c ops o ⟨n, e, H, M, L, D⟩ K := fun a w hs => by
  have hlt : d < a.tmps.size := by rw [hs.size]; exact Nat.le_of_ble_eq_true hn
  exact ⟨undef, ⟨n, (d, undef) :: e, H, M, L, D⟩, .inr ⟨wanted_of_want hs.env hw, rfl⟩, by rw [hd]; exact ⟨hs.defers, by simpa [Act.put] using hs.size, hs.env.put hlt, hs.holds⟩, ⟨HLe.refl _, rfl⟩, k⟩
theorem ok_split {p : Prop} [Decidable p] {t : Nat} {b : Bool} (hf : e.find t = some (.bool (decide p))) (hb : decide p = b) {a : Act} {w : World} (hs : Sta.ok c ⟨n, e, H, M, L, D⟩ a w) : Sta.ok c ⟨n, (t, .bool b) :: e, H, M, L, D⟩ a w :=
  ⟨hs.defers, hs.size, fun t' v h => by
    simp only [Env.find] at h
    cases hbq : Nat.beq t t' with
    | true =>
      rw [hbq] at h; simp at h; subst h
      have : t = t' := Nat.eq_of_beq_eq_true hbq
      subst this
      rw [← hb]; exact hs.env _ _ hf
    | false => rw [hbq] at h; exact hs.env _ _ h, hs.holds⟩
theorem D_split {p : Prop} [Decidable p] {t : Nat} (hg : gslot ops o = some t) (hf : e.find t = some (.bool (decide p)))
    (ky : p → drQ P c ops o ⟨n, (t, .bool true) :: e, H, M, L, D⟩ K) (kn : ¬ p → drQ P c ops o ⟨n, (t, .bool false) :: e, H, M, L, D⟩ K) : drQ P c ops o ⟨n, e, H, M, L, D⟩ K := fun a w hs => by
  by_cases hp : p
  · exact ky hp a w (ok_split hf (by simp [hp]) hs)
  · exact kn hp a w (ok_split hf (by simp [hp]) hs)
theorem E_ef {s : Sta} (hw : want ops o s.env = some true) (h : Ef F P c o s fun s' => Grow s s' ∧ K s') : drE F P c ops o s K := fun a w hs => by
  rw [if_pos (wanted_of_want hs.env hw)]
  exact h a w hs
theorem E_skip (hw : want ops o e = some false) (hd : o.dst = some d) (hn : Nat.blt d n = true) (k : K ⟨n, (d, undef) :: e, H, M, L, D⟩) : drE F P c ops o ⟨n, e, H, M, L, D⟩ K := fun a w hs => by
  have hlt : d < a.tmps.size := by rw [hs.size]; exact Nat.le_of_ble_eq_true hn
  rw [if_neg (by rw [wanted_of_want hs.env hw]; simp)]
  exact ⟨⟨n, (d, undef) :: e, H, M, L, D⟩, by rw [hd]; exact ⟨hs.defers, by simpa [Act.put] using hs.size, hs.env.put hlt, hs.holds⟩, ⟨HLe.refl _, rfl⟩, k⟩
theorem Grow.same {s s' : Sta} (hH : s.H = s'.H) (hL : s.L = s'.L) : Grow s s' := ⟨by rw [hH]; exact HLe.refl _, hL.symm⟩
end
end
end Go.Proofs.YtnoadopmeoohmaaGreatDoor
