/-
  A range over a function: the iterator's rounds, the statement, the end of a function that holds one; results in cells.
-/
import Derived.Test.YthniohgeojenaaaA8
import Derived.RangeFuncRecord
namespace Go.Proofs.Ythniohgeojenaaa
open Go
set_option linter.unusedVariables false
set_option linter.unusedSimpArgs false

/-! ### objects that are no cells -/
theorem Moves.putObj (w : World) (l : Nat) (o : Obj) : Moves w (w.putObj l o) [l] :=
  ⟨rfl, rfl, rfl, by simp, fun k _ hn => World.putObj_heap_other (by simpa using hn)⟩
theorem Holds.putObj {c : Ctx} {H : Hp} {R : Own} {w : World} {l : Nat} {o : Obj} (o' : Obj) (h : Holds c H (.obj l o :: R) w) : Holds c H (.obj l o' :: R) (w.putObj l o') := by
  have hb : w.heap[l]? = some o := h.own (.obj l o) (by simp)
  have hlt := (Array.getElem?_eq_some_iff.1 hb).1
  refine Holds.frameH (I := [.obj l o]) (I' := [.obj l o']) (R := R) h ?_ (Own.ok_one (World.putObj_heap_same hlt)) (Own.sep_one _) (fun b' hb' => .inr (by simpa [Own.blocks, Res.blocks] using hb'))
  exact (Moves.putObj w l o').mono (by simp [Own.blocks, Res.blocks])

/-! ### a round -/
def rdone (r : Loop) (j : Code) : Loop := { r with state := .done, pending := some j }
def rbusy (r : Loop) : Loop := { r with state := .busy }
def Fresh (r : Loop) : Prop := r.state = .ready ∧ r.pending = none
def tput (ps : Array Tmp) (args : Array Value) (tmps : Array Value) : Array Value := (ps.zip args).foldl (fun tmps (t, a) => tmps.setIfInBounds t a) tmps
def epush : List Tmp → List Value → Env → Env
  | p :: ps, v :: vs, e => epush ps vs ((p, v) :: e)
  | _, _, e => e
theorem tput_list (ps : List Tmp) (vs : List Value) (tmps : Array Value) : tput ps.toArray vs.toArray tmps = (ps.zip vs).foldl (fun tmps x => tmps.setIfInBounds x.1 x.2) tmps := by
  unfold tput
  rw [← Array.foldl_toList]
  simp
theorem tput_ok : ∀ (ps : List Tmp) (vs : List Value) (e : Env) (tmps : Array Value), EnvOk e ⟨tmps, []⟩ → (∀ p ∈ ps, p < tmps.size) →
    EnvOk (epush ps vs e) ⟨tput ps.toArray vs.toArray tmps, []⟩ ∧ (tput ps.toArray vs.toArray tmps).size = tmps.size
  | [], _, e, tmps, he, _ => by rw [tput_list]; exact ⟨he, rfl⟩
  | p :: ps, [], e, tmps, he, _ => by rw [tput_list]; exact ⟨he, rfl⟩
  | p :: ps, v :: vs, e, tmps, he, hp => by
    have h1 : tput (p :: ps).toArray (v :: vs).toArray tmps = tput ps.toArray vs.toArray (tmps.setIfInBounds p v) := by
      rw [tput_list, tput_list]; rfl
    rw [h1]
    have h2 := tput_ok ps vs ((p, v) :: e) (tmps.setIfInBounds p v) (he.put (d := p) (v := v) (hp p (by simp))) (fun q hq => by simpa using hp q (List.mem_cons_of_mem _ hq))
    simpa [epush] using h2

/-- The contract of one round: the record stands first. -/
def RoundFn (P : Program) (l : Nat) (r : Loop) (args : List Value) (H : Hp) (I : Own) (post : Value → Hp → Own → Prop) : Prop :=
  ∀ F, WideF F → ∀ w, Holds ⟨w, H, Own.blocks (.obj l (.loop r) :: I)⟩ H (.obj l (.loop r) :: I) w →
    RoundIn F 0 P l r.fn (tput r.params args.toArray r.tmps) r.assign r.body w fun e w' => ∃ v H' I', e = .returned v ∧ Holds ⟨w, H, Own.blocks (.obj l (.loop r) :: I)⟩ H' I' w' ∧ post v H' I'

theorem RoundFn.mono {P : Program} {l : Nat} {r : Loop} {args : List Value} {H : Hp} {I : Own} {post post' : Value → Hp → Own → Prop} (h : RoundFn P l r args H I post) (hp : ∀ v H' I', post v H' I' → post' v H' I') : RoundFn P l r args H I post' :=
  fun F hF w hw => (h F hF w hw).mono fun _ _ ⟨v, H', I', he, hh, hq⟩ => ⟨v, H', I', he, hh, hp _ _ _ hq⟩

/-- how a round's walk ends: off its end; by a jump j -/
def RendN (c : Ctx) (l : Nat) (r : Loop) (post : Value → Hp → Own → Prop) : SP :=
  Shift c fun s => s.L = [.obj l (.loop (rbusy r))] ∧ post (.bool true) s.H (.obj l (.loop r) :: s.M)
def RendJ (c : Ctx) (l : Nat) (r : Loop) (post : Value → Hp → Own → Prop) (j : Code) : SP :=
  Shift c fun s => s.L = [.obj l (.loop (rbusy r))] ∧ post (.bool false) s.H (.obj l (.loop (rdone r j)) :: s.M)
def rexits (c : Ctx) (l : Nat) (r : Loop) (post : Value → Hp → Own → Prop) (ids : List Nat) : List (Nat × SP) := ids.map fun id => (id, RendJ c l r post (.exit id))
theorem xfind_rexits {c : Ctx} {l : Nat} {r : Loop} {post : Value → Hp → Own → Prop} {ids : List Nat} {id : Nat} {K : SP} (h : xfind (rexits c l r post ids) id = some K) : K = RendJ c l r post (.exit id) := by
  induction ids with
  | nil => simp [rexits, xfind] at h
  | cons i t ih =>
    simp only [rexits, List.map_cons, xfind] at h
    cases hb : Nat.beq i id with
    | true => rw [hb] at h; simp at h; have := Nat.eq_of_beq_eq_true hb; subst this; exact h.symm
    | false => rw [hb] at h; exact ih h

theorem own_swap {c : Ctx} {H : Hp} {A : Own} {r : Res} {w : World} (h : Holds c H (A ++ [r]) w) : Holds c H (r :: A) w := own_perm (List.perm_append_comm (l₁ := A) (l₂ := [r])) h
theorem own_swap' {c : Ctx} {H : Hp} {A : Own} {r : Res} {w : World} (h : Holds c H (r :: A) w) : Holds c H (A ++ [r]) w := own_perm (List.perm_append_comm (l₁ := [r]) (l₂ := A)) h

theorem Round_of {P : Program} {l : Nat} {r : Loop} {args : List Value} {H : Hp} {I : Own} {post : Value → Hp → Own → Prop} {e : Env} {ps : List Tmp} {n : Nat} {assign body : Code} (ids : List Nat)
    (hr : Fresh r) (he : EnvOk e ⟨r.tmps, []⟩) (hps : r.params = ps.toArray) (has : r.assign = assign) (hbo : r.body = body) (hsn : r.tmps.size = n) (hlt : (ps.all fun p => Nat.blt p n) = true)
    (h : ∀ F, WideF F → ∀ c : Ctx, wpA F P c assign (fun s => s.L = [.obj l (.loop r)] ∧ wpA F P c body (RendN c l r post) (rexits c l r post ids) (RendJ c l r post .ret) { s with L := [.obj l (.loop (rbusy r))] }) [] (fun _ => False)
      ⟨n, epush ps args e, H, I, [.obj l (.loop r)], []⟩) : RoundFn P l r args H I post := by
  subst has hbo hsn
  replace hlt : ∀ p ∈ ps, p < r.tmps.size := fun p hp => Nat.le_of_ble_eq_true (List.all_eq_true.1 hlt p hp)
  intro F hF w hw
  refine roundIn_of_wpIn (hF.fn _) ?_
  have hFl := hF.inRound l
  obtain ⟨h1, h2⟩ := tput_ok ps args e r.tmps he hlt
  rw [← hps] at h1 h2
  refine wpIn_mono (h _ hFl ⟨w, H, Own.blocks (.obj l (.loop r) :: I)⟩ { tmps := tput r.params args.toArray r.tmps, defers := [] } w ⟨rfl, h2, h1, own_swap' hw⟩) ?_
  intro e a w' q
  cases e with
  | normal =>
    obtain ⟨s, hs, hL, hbody⟩ := q
    have hh := hs.holds
    rw [hL] at hh
    have hh2 := own_swap hh
    have hb : w'.heap[l]? = some (.loop r) := hh2.own (.obj l (.loop r)) (by simp)
    refine ⟨_, run_beginRound hb hr.1, ?_⟩
    have hs2 : Sta.ok ⟨w, H, Own.blocks (.obj l (.loop r) :: I)⟩ { s with L := [.obj l (.loop (rbusy r))] } a (w'.putObj l (.loop (rbusy r))) :=
      ⟨hs.defers, hs.size, hs.env, own_swap' (hh2.putObj (.loop (rbusy r)))⟩
    refine wpIn_mono (hbody _ _ hs2) ?_
    have fin : ∀ (j : Option Code) (r' : Loop) (v : Value) (s : Sta) (a : Act) (w₁ : World), v = .bool j.isNone → r' = { rbusy r with state := if j.isNone then .ready else .done, pending := j } →
        s.ok ⟨w, H, Own.blocks (.obj l (.loop r) :: I)⟩ a w₁ → (Shift ⟨w, H, Own.blocks (.obj l (.loop r) :: I)⟩ fun s => s.L = [.obj l (.loop (rbusy r))] ∧ post v s.H (.obj l (.loop r') :: s.M)) s →
        ∃ u w₂, (Instr.endRound l j).run P w₁ = .ok u w₂ ∧ ∃ v H' I', Ending.returned u = .returned v ∧ Holds ⟨w, H, Own.blocks (.obj l (.loop r) :: I)⟩ H' I' w₂ ∧ post v H' I' := by
      rintro j r' v s a w₁ rfl rfl hs hsh
      obtain ⟨s', hs', hL', hp⟩ := hsh a w₁ hs
      have hh' := hs'.holds
      rw [hL'] at hh'
      have hh3 := own_swap hh'
      have hb' : w₁.heap[l]? = some (.loop (rbusy r)) := hh3.own (.obj l (.loop (rbusy r))) (by simp)
      exact ⟨_, _, run_endRound j hb', _, _, _, rfl, hh3.putObj _, hp⟩
    intro e a₁ w₁ q
    cases e with
    | normal =>
      obtain ⟨s₁, hs₁, hsh⟩ := q
      refine fin none r _ s₁ a₁ w₁ rfl ?_ hs₁ hsh
      obtain ⟨st, pe, fn, tm, pa, as, bo, de⟩ := r
      obtain ⟨rfl, rfl⟩ := hr
      rfl
    | ret => obtain ⟨s₁, hs₁, hsh⟩ := q; exact fin (some .ret) (rdone r .ret) _ s₁ a₁ w₁ rfl rfl hs₁ hsh
    | exit id =>
      obtain ⟨s₁, hs₁, K', hx, hsh⟩ := q
      rw [xfind_rexits hx] at hsh
      exact fin (some (.exit id)) (rdone r (.exit id)) _ s₁ a₁ w₁ rfl rfl hs₁ hsh
    | goto t => exact q.elim
    | panic ch => exact q.elim
    | outgrown => exact q.elim
  | exit id => obtain ⟨s, hs, K', hx, _⟩ := q; simp [xfind] at hx
  | ret => obtain ⟨s, hs, hx⟩ := q; exact hx
  | goto t => exact q.elim
  | panic ch => exact q.elim
  | outgrown => exact q.elim

section
variable {F : Fence} {P : Program} {c : Ctx} {o : Oper} {K : SP} {X : List (Nat × SP)} {R : SP} {n : Nat} {e : Env} {H : Hp} {M M' L I : Own} {D : List Deferred} {d : Nat} {ty : TypeId} {pos : String} {after : Array Edge} {g : Option (Nat × Bool)} {f : FuncId} {post : Value → Hp → Own → Prop} {at_ : Array TypeId} {args : List Value} {z : Operand}

/-- the iterator calls yield -/
theorem Ef_yield (hF : WideF F) {l : Nat} {r : Loop} {xs : Array Operand} (h : RoundFn P l r args H I post) (hz : e.eval z = some (.func (.yield l) #[] #[])) (hx : EvalAll e xs.toList args) (hps : r.params.size = args.length) (hn : Nat.blt d n = true)
    (k : ∀ v H' I', HLe H H' → post v H' I' → K ⟨n, (d, v) :: e, H', I' ++ M', L, D⟩) :
    Ef F P c ⟨some d, .call { callee := .value z, args := xs, argTypes := at_ }, ty, pos, after, g⟩ ⟨n, e, H, .obj l (.loop r) :: I ++ M', L, D⟩ K := by
  intro a w hs
  have hm := EvalAll.map hs.env hx
  have hm' : xs.map a.eval = args.toArray := by
    apply Array.ext'
    simpa using hm
  have hz' := hs.env.eval hz
  have hw : Holds c H ((.obj l (.loop r) :: I) ++ (M' ++ L)) w := by have := hs.holds; simpa [List.append_assoc] using this
  have hb : w.heap[l]? = some (.loop r) := hw.own (.obj l (.loop r)) (by simp)
  have hr : (execOp a.eval ⟨some d, .call { callee := .value z, args := xs, argTypes := at_ }, ty, pos, after, g⟩).run P w = .ok (.round l r.fn (tput r.params args.toArray r.tmps) r.assign r.body) w := by
    have hy := run_yield (P := P) (args := args.toArray) hb (by simp [hps])
    simp only [execOp, resolve, hm', hz', Deferred.ofValue, Sem.run_bind, Sem.run_pure, Result.andThen_ok, invoke, Array.empty_append]
    exact hy
  refine ⟨fun f _ => hF.fn f, ?_⟩
  rw [Oper.semAt_eq _ _ _ (by simp), hr]
  refine ⟨(fun hd => (by rw [hF.depth] at hd; cases hd)), ?_⟩
  have hsub := Own.sep_append.1 hw.sep
  have hI : ∀ b ∈ Own.blocks (.obj l (.loop r) :: I), b ∈ Own.blocks ((.obj l (.loop r) :: I) ++ (M' ++ L)) := fun b hb => by rw [Own.blocks_append]; exact List.mem_append_left _ hb
  have h0 : Holds ⟨w, H, Own.blocks (.obj l (.loop r) :: I)⟩ H (.obj l (.loop r) :: I) w :=
    ⟨hw.mem, fun q hq => hw.own q (List.mem_append_left _ hq), hsub.1, fun b hb => hw.apart b (hI b hb), fun b hb => .inr hb,
      ⟨rfl, rfl, rfl, Nat.le_refl _, fun _ _ _ => rfl⟩, fun _ _ _ h => h, fun _ _ _ h => .inl h, fun b o v h1 h2 => absurd (h1.symm.trans h2) (by simp)⟩
  refine (h F hF w h0).mono ?_
  rintro e' w' ⟨v, H', I', he, hh, hq⟩
  subst he
  have hfr : Holds c H' (I' ++ (M' ++ L)) w' := hw.frame ⟨hh.old.os, hh.old.tape, hh.old.output, hh.old.size, hh.old.block⟩ hh.mem hh.hle hh.hnew hh.own hh.sep hh.apart hh.fresh hh.thaw
  exact ⟨_, ok_put hs hn (M'' := I' ++ M') (by simpa [List.append_assoc] using hfr), k v H' I' hh.hle hq⟩

/-- .. whose record, and all that the rounds need, stand behind one block of its own -/
theorem Ef_yield1 (hF : WideF F) {l : Nat} {r : Loop} {r0 : Res} {xs : Array Operand} (h : RoundFn P l r args H I post) (hz : e.eval z = some (.func (.yield l) #[] #[])) (hx : EvalAll e xs.toList args) (hps : r.params.size = args.length) (hn : Nat.blt d n = true)
    (k : ∀ v H' I', HLe H H' → post v H' I' → K ⟨n, (d, v) :: e, H', r0 :: I', L, D⟩) :
    Ef F P c ⟨some d, .call { callee := .value z, args := xs, argTypes := at_ }, ty, pos, after, g⟩ ⟨n, e, H, r0 :: .obj l (.loop r) :: I, L, D⟩ K := by
  refine Ef_perm (s := ⟨n, e, H, r0 :: .obj l (.loop r) :: I, L, D⟩) (M2 := .obj l (.loop r) :: I ++ [r0]) (List.perm_append_comm (l₁ := [r0]) (l₂ := .obj l (.loop r) :: I)) ?_
  refine Ef_mapK (K' := fun s' => ∃ v H' I', HLe H H' ∧ post v H' I' ∧ s' = ⟨n, (d, v) :: e, H', I' ++ [r0], L, D⟩) (Ef_yield (M' := [r0]) hF h hz hx hps hn fun v H' I' hle hp => ⟨v, H', I', hle, hp, rfl⟩) ?_
  rintro s a w hs ⟨v, H', I', hle, hp, rfl⟩
  exact ⟨⟨n, (d, v) :: e, H', r0 :: I', L, D⟩, ⟨hs.defers, hs.size, hs.env, own_perm ((List.perm_append_comm (l₁ := I') (l₂ := [r0])).append_right L) hs.holds⟩, k v H' I' hle hp⟩

/-- the mark of a range over a function -/
abbrev rmark (d : Nat) : Deferred := { target := .collected d, args := #[] }
/-- THE STATEMENT, at an outermost loop -/
theorem A_rangeFunc (hF : WideF F) (hro : F.round = none) {gf : FuncId} [hf : FunC P gf] {cap : List Value} {ps : List Tmp} {assign body : Code} (hg : e.eval z = some (.func (.func gf) #[] cap.toArray))
    (h : ∀ (dd l : Nat) (r : Loop), Fresh r → r.params = ps.toArray → r.assign = assign → r.body = body → r.tmps.size = n → EnvOk e ⟨r.tmps, []⟩ →
      ∃ post, Fn P gf (.func (.yield l) #[] #[] :: cap) H (.obj l (.loop r) :: M) post ∧
        ∀ v H' I', HLe H H' → post v H' I' → ∃ r' M', I' = .obj l (.loop r') :: M' ∧ r'.state ≠ .busy ∧
          (match r'.pending with
           | none => K ⟨n, e, H', .obj dd (.deferred (some [])) :: M', L, [rmark dd]⟩
           | some j => wpA F P c j K X R ⟨n, e, H', .obj dd (.deferred (some [])) :: M', L, [rmark dd]⟩)) :
    wpA F P c (.rangeFunc z ps.toArray assign body) K X R ⟨n, e, H, M, L, []⟩ := by
  intro a w hs
  refine wpIn_rangeFunc fun fn _ => ?_
  have henter := run_enterLoop_outer (P := P) (w := w) fn a.tmps ps.toArray assign body
  rw [← hro] at henter
  obtain ⟨post, hfn, hk⟩ := h w.heap.size (w.heap.size + 1) { state := .ready, pending := none, fn, tmps := a.tmps, params := ps.toArray, assign, body, defers := w.heap.size } ⟨rfl, rfl⟩ rfl rfl rfl hs.size hs.env
  have hgv := hs.env.eval hg
  have hcf := hf.run (#[.func (.yield (w.heap.size + 1)) #[] #[]] ++ cap.toArray)
  refine ⟨_, _, _, { target := .fn (.func gf) cap.toArray, args := #[.func (.yield (w.heap.size + 1)) #[] #[]] }, ?u1, gf, #[.func (.yield (w.heap.size + 1)) #[] #[]] ++ cap.toArray, ?u2, henter, ?c1, fun f' _ => hF.fn f', ?c2, ?c3, ?c4⟩
  case c3 => intro hd; rw [hF.depth] at hd; cases hd
  case c1 =>
    have hm : (#[Operand.const (.func (.yield (w.heap.size + 1)) #[] #[])] : Array Operand).map a.eval = #[.func (.yield (w.heap.size + 1)) #[] #[]] := by simp [Act.eval]
    simp only [resolve, hgv, Deferred.ofValue, Sem.run_pure, Array.empty_append, hm]
    rfl
  case c2 => simp only [invoke]; exact hcf _
  case c4 =>
    refine callsIn_of_calls hF ?_
    have hh := hs.holds
    have hh1 := (hh.allocO (.deferred (some []))).allocO (.loop { state := .ready, pending := none, fn, tmps := a.tmps, params := ps.toArray, assign, body, defers := w.heap.size })
    have hsz : (w.alloc (.deferred (some []))).heap.size = w.heap.size + 1 := by simp
    rw [hsz] at hh1
    have hh2 : Holds c H ((.obj (w.heap.size + 1) (.loop { state := .ready, pending := none, fn, tmps := a.tmps, params := ps.toArray, assign, body, defers := w.heap.size }) :: M) ++ (.obj w.heap.size (.deferred (some [])) :: L)) ((w.alloc (.deferred (some []))).alloc (.loop { state := .ready, pending := none, fn, tmps := a.tmps, params := ps.toArray, assign, body, defers := w.heap.size })) := by
      refine own_perm ?_ hh1
      refine List.Perm.cons _ ?_
      exact (List.perm_middle (l₁ := M) (l₂ := L)).symm
    have hargs : (#[.func (.yield (w.heap.size + 1)) #[] #[]] ++ cap.toArray : Array Value) = ((.func (.yield (w.heap.size + 1)) #[] #[]) :: cap : List Value).toArray := by simp
    rw [hargs]
    refine (Calls_of_Fn hfn hh2).mono ?_
    rintro e' w' ⟨v, H', I', rfl, hle, hh', hq⟩
    obtain ⟨r', M2, rfl, hst, hk'⟩ := hk v H' I' hle hq
    have hb : w'.heap[w.heap.size + 1]? = some (.loop r') := hh'.own (.obj _ (.loop r')) (by simp)
    have hh3 : Holds c H' (.obj w.heap.size (.deferred (some [])) :: M2 ++ L) (w'.putObj (w.heap.size + 1) (.loop { r' with state := .exhausted })) := by
      have h5 := Holds.putObj (R := M2 ++ (.obj w.heap.size (.deferred (some [])) :: L)) (.loop { r' with state := .exhausted }) (by simpa using hh')
      refine own_perm (List.perm_middle (l₁ := M2) (l₂ := L)) (h5.sublist (List.sublist_cons_self _ _))
    have hs' : Sta.ok c ⟨n, e, H', .obj w.heap.size (.deferred (some [])) :: M2, L, [rmark w.heap.size]⟩ { a with defers := [rmark w.heap.size] ++ a.defers } (w'.putObj (w.heap.size + 1) (.loop { r' with state := .exhausted })) :=
      ⟨by simp [hs.defers], hs.size, hs.env, hh3⟩
    refine ⟨r'.pending, _, run_endLoop hb hst, ?_⟩
    generalize w'.putObj (w.heap.size + 1) (.loop { r' with state := .exhausted }) = W at hs' ⊢
    cases hp : r'.pending with
    | none => rw [hp] at hk'; exact ⟨_, hs', hk'⟩
    | some j => rw [hp] at hk'; exact hk' _ _ hs'
end

/-! ### the end of a function that holds a range over a function -/
def EndOfM (c : Ctx) (P : Program) (fn : Func) (post : Value → Hp → Own → Prop) : SP := fun s =>
  EndOf c P fn post s ∨ ∃ dd M', s.D = [rmark dd] ∧ s.M = .obj dd (.deferred (some [])) :: M' ∧ ∃ v, RetOk P fn ⟨s.n, s.env, s.H, M', s.L, []⟩ v ∧ Shift c (fun s' => s'.L = [] ∧ post v s'.H s'.M) ⟨s.n, s.env, s.H, M', s.L, []⟩
section
variable {P : Program} {c : Ctx} {f : FuncId} {args : List Value} {H : Hp} {I : Own} {post : Value → Hp → Own → Prop}
theorem Fn_ofM (fn : Func) (code : Code) (hf : P.funcs[f]? = some fn) (hb : fn.body = some code) {N : Nat} (hN : fn.ntmps = N) (hle : Nat.ble args.length N = true)
    (h : ∀ c : Ctx, wpA Fence.wide P c code (Shift c (EndOfM c P fn post)) [] (Shift c (EndOfM c P fn post)) ⟨N, ofArgs 0 args, H, I, [], []⟩) :
    Fn P f args H I post := by
  intro w hw
  rw [← callsIn_wide (n := 0)]
  refine callsIn_of_wp_marks hf hb trivial (wpIn_mono (h _ { tmps := args.toArray ++ Array.replicate (fn.ntmps - args.toArray.size) undef, defers := [] } w ⟨rfl, ?_, ofArgs_ok args _, by simpa using hw⟩) ?_)
  · have := Nat.le_of_ble_eq_true hle
    simp [hN]; omega
  · intro e a w' q
    have fin : (∃ s, Sta.ok ⟨w, H, Own.blocks I⟩ s a w' ∧ (Shift ⟨w, H, Own.blocks I⟩ (EndOfM ⟨w, H, Own.blocks I⟩ P fn post)) s) →
        LeavesInM Fence.wide 0 P fn a.tmps (fun e w' => ∃ v H' I', e = .returned v ∧ Holds ⟨w, H, Own.blocks I⟩ H' I' w' ∧ post v H' I') a.defers .returning w' := by
      rintro ⟨s, hs, hsh⟩
      obtain ⟨s', hs', hend⟩ := hsh a w' hs
      rcases hend with ⟨v, hr, hd, hsh'⟩ | ⟨dd, M', hd, hM, v, hr, hsh'⟩
      · obtain ⟨s'', hs'', hl, hp⟩ := hsh' a w' hs'
        rw [hs'.defers.trans hd]
        refine ⟨v, hr a w' hs'.env hs'.holds.own, v, s''.H, s''.M, rfl, ?_, hp⟩
        have := hs''.holds
        rw [hl] at this
        simpa using this
      · rw [hs'.defers.trans hd]
        have hh := hs'.holds
        rw [hM] at hh
        have hb : w'.heap[dd]? = some (.deferred (some [])) := hh.own (.obj dd _) (by simp)
        refine ⟨by simp, .inl ⟨dd, _, rfl, run_takeDeferred hb, ?_⟩⟩
        have hh2 := (Holds.putObj (.deferred none) (by simpa using hh)).sublist (List.sublist_cons_self _ _)
        have hs2 : Sta.ok ⟨w, H, Own.blocks I⟩ ⟨s'.n, s'.env, s'.H, M', s'.L, []⟩ { a with defers := [] } (w'.putObj dd (.deferred none)) := ⟨rfl, hs'.size, hs'.env, hh2⟩
        obtain ⟨s'', hs'', hl, hp⟩ := hsh' _ _ hs2
        refine ⟨v, hr { a with defers := [] } _ hs2.env hs2.holds.own, v, s''.H, s''.M, rfl, ?_, hp⟩
        have := hs''.holds
        rw [hl] at this
        simpa using this
    cases e with
    | normal => exact fin q
    | ret => exact fin q
    | exit id => obtain ⟨s, hs, K', hx, _⟩ := q; simp [xfind] at hx
    | goto l => exact q
    | panic ch => exact q.elim
    | outgrown => exact q.elim
variable {fn : Func} {n : Nat} {e : Env} {M L : Own} {v : Value}
theorem EndM_of {s : Sta} (h : Shift c (EndOf c P fn post) s) : Shift c (EndOfM c P fn post) s := h.map fun _ h => .inl h
/-- behind the loop: what the end is without the mark -/
theorem EndM_mark {dd : Nat} (h : EndOf c P fn post ⟨n, e, H, M, L, []⟩) : Shift c (EndOfM c P fn post) ⟨n, e, H, .obj dd (.deferred (some [])) :: M, L, [rmark dd]⟩ := by
  obtain ⟨v, hr, _, hs⟩ := h
  exact Shift.pure (.inr ⟨dd, M, rfl, rfl, v, hr, hs⟩)

theorem EndM_e {dd : Nat} (h : RetOk P fn ⟨n, e, H, M, L, []⟩ v) (hv : post v H []) : Shift c (EndOfM c P fn post) ⟨n, e, H, .obj dd (.deferred (some [])) :: M, L, [rmark dd]⟩ :=
  EndM_mark ⟨v, h, rfl, fun _ _ hs => ⟨_, ok_drop hs, rfl, hv⟩⟩
theorem EndM_s {dd : Nat} (h : RetOk P fn ⟨n, e, H, M, L, []⟩ v) (hs : Shift c (fun s' => s'.L = [] ∧ post v s'.H s'.M) ⟨n, e, H, M, L, []⟩) : Shift c (EndOfM c P fn post) ⟨n, e, H, .obj dd (.deferred (some [])) :: M, L, [rmark dd]⟩ :=
  EndM_mark ⟨v, h, rfl, hs⟩

/-! ### results, some of them in variables -/
def ResOk (P : Program) (s : Sta) : ResultVar → Value → Prop
  | .tmp t, v => s.env.find t = some v
  | .cell t T, v => ∃ b i, s.env.find t = some (.pointer (some ⟨b, 0, none⟩)) ∧ oget s.M i = some (.box b [v]) ∧ Nonempty (TyC P T false 1)
def resOf (tmps : Array Value) : ResultVar → Sem Value
  | .tmp t => pure (tmps.getD t undef)
  | .cell a t => do loadVar t (← asAddr (tmps.getD a undef))
theorem results_eq (fn : Func) (tmps : Array Value) : results fn tmps = (do let vs ← fn.results.mapM (resOf tmps); pure (if h : vs.size = 1 then vs[0] else .tuple vs)) := by
  unfold results
  congr 1
theorem ResOk.run {s : Sta} {r : ResultVar} {v : Value} (h : ResOk P s r v) {a : Act} {w : World} (he : EnvOk s.env a) (hr : Own.ok (s.M ++ s.L) w) : (resOf a.tmps r).run P w = .ok v w := by
  cases r with
  | tmp t => simp [resOf, he _ _ h]
  | cell t T =>
    obtain ⟨b, i, h1, h2, ⟨hT⟩⟩ := h
    obtain ⟨T', hb⟩ := hr _ (List.mem_append_left _ (oget_mem h2))
    have h3 := run_load_one (P := P) (t := T) (w := w) (b := b) (o := 0) (v := v) (cell_of_heap hb (by simp))
    simp only [Instr.loadAt, Instr.sureAddr, Sem.run_bind, Sem.run_pure, Result.andThen_ok] at h3
    simp [resOf, he _ _ h1, asAddr, h3]
theorem run_mapM2 {f : ResultVar → Sem Value} {r1 r2 : ResultVar} {v1 v2 : Value} {w : World} (e1 : (f r1).run P w = .ok v1 w) (e2 : (f r2).run P w = .ok v2 w) : (#[r1, r2].mapM f).run P w = .ok [v1, v2].toArray w := by
  simp [map_eq_pure_bind, -bind_pure_comp, Sem.run_bind, e1, e2]
theorem run_mapM3 {f : ResultVar → Sem Value} {r1 r2 r3 : ResultVar} {v1 v2 v3 : Value} {w : World} (e1 : (f r1).run P w = .ok v1 w) (e2 : (f r2).run P w = .ok v2 w) (e3 : (f r3).run P w = .ok v3 w) : (#[r1, r2, r3].mapM f).run P w = .ok [v1, v2, v3].toArray w := by
  simp [map_eq_pure_bind, -bind_pure_comp, Sem.run_bind, e1, e2, e3]
theorem RetR2 {r1 r2 : ResultVar} {v1 v2 : Value} {D : List Deferred} (h : fn.results = #[r1, r2]) (h1 : ResOk P ⟨n, e, H, M, L, D⟩ r1 v1) (h2 : ResOk P ⟨n, e, H, M, L, D⟩ r2 v2) : RetOk P fn ⟨n, e, H, M, L, D⟩ (.tuple [v1, v2].toArray) := fun a w he hr => by
  rw [results_eq, h, Sem.run_bind, run_mapM2 (h1.run he hr) (h2.run he hr)]
  rfl
theorem RetR3 {r1 r2 r3 : ResultVar} {v1 v2 v3 : Value} {D : List Deferred} (h : fn.results = #[r1, r2, r3]) (h1 : ResOk P ⟨n, e, H, M, L, D⟩ r1 v1) (h2 : ResOk P ⟨n, e, H, M, L, D⟩ r2 v2) (h3 : ResOk P ⟨n, e, H, M, L, D⟩ r3 v3) : RetOk P fn ⟨n, e, H, M, L, D⟩ (.tuple [v1, v2, v3].toArray) := fun a w he hr => by
  rw [results_eq, h, Sem.run_bind, run_mapM3 (h1.run he hr) (h2.run he hr) (h3.run he hr)]
  rfl
end
end Go.Proofs.Ythniohgeojenaaa
