/-
  Several ranges over functions in one function; a callee that leaves what is owned alone.
-/
import Derived.Test.YtcliojofponpnaaP3
namespace Go.Proofs.Ytcliojofponpnaa
open Go
set_option linter.unusedVariables false
set_option linter.unusedSimpArgs false
section
variable {F : Fence} {P : Program} {c : Ctx} {K : SP} {X : List (Nat × SP)} {R : SP} {n : Nat} {e : Env} {H : Hp} {M L : Own} {z : Operand}
theorem A_rangeFuncD {D : List Deferred} (hF : WideF F) (hro : F.round = none) {gf : FuncId} [hf : FunC P gf] {cap : List Value} {ps : List Tmp} {assign body : Code} (hg : e.eval z = some (.func (.func gf) #[] cap.toArray))
    (h : ∀ (dd l : Nat) (r : Loop), Fresh r → r.params = ps.toArray → r.assign = assign → r.body = body → r.tmps.size = n → EnvOk e ⟨r.tmps, []⟩ →
      ∃ post, Fn P gf (.func (.yield l) #[] #[] :: cap) H (.obj l (.loop r) :: M) post ∧
        ∀ v H' I', HLe H H' → post v H' I' → ∃ r' M', I' = .obj l (.loop r') :: M' ∧ r'.state ≠ .busy ∧
          (match r'.pending with
           | none => K ⟨n, e, H', .obj dd (.deferred (some [])) :: M', L, rmark dd :: D⟩
           | some j => wpA F P c j K X R ⟨n, e, H', .obj dd (.deferred (some [])) :: M', L, rmark dd :: D⟩)) :
    wpA F P c (.rangeFunc z ps.toArray assign body) K X R ⟨n, e, H, M, L, D⟩ := by
  intro a w hs
  refine wpIn_rangeFunc fun fn _ => ?_
  have henter := run_enterLoop_outer (P := P) (w := w) fn a.tmps ps.toArray assign body
  rw [← hro] at henter
  obtain ⟨post, hfn, hk⟩ := h w.heap.size (w.heap.size + 1) { state := .ready, pending := none, fn, tmps := a.tmps, params := ps.toArray, assign, body, defers := w.heap.size } ⟨rfl, rfl⟩ rfl rfl rfl hs.size hs.env
  have hgv := hs.env.eval hg
  have hcf := hf.run (#[.func (.yield (w.heap.size + 1)) #[] #[]] ++ cap.toArray)
  refine ⟨_, _, _, { target := .fn (.func gf) cap.toArray, args := #[.func (.yield (w.heap.size + 1)) #[] #[]] }, ?u1, gf, #[.func (.yield (w.heap.size + 1)) #[] #[]] ++ cap.toArray, ?u2, henter, ?c1, fun f' _ => hF.fn f', ?c2, ?c3, ?c4⟩
  case c3 => intro hd; rw [hF.depth] at hd; cases hd
  case c1 =>
    have hm : (#[Operand.const (.func (.yield (w.heap.size + 1)) #[] #[])] : Array Operand).map a.eval = #[.func (.yield (w.heap.size + 1)) #[] #[]] := by simp [Act.eval]
    simp only [resolve, hgv, Deferred.ofValue, Sem.run_pure, Array.empty_append, hm]
    rfl
  case c2 => simp only [invoke]; exact hcf _
  case c4 =>
    refine callsIn_of_calls hF ?_
    have hh := hs.holds
    have hh1 := (hh.allocO (.deferred (some []))).allocO (.loop { state := .ready, pending := none, fn, tmps := a.tmps, params := ps.toArray, assign, body, defers := w.heap.size })
    have hsz : (w.alloc (.deferred (some []))).heap.size = w.heap.size + 1 := by simp
    rw [hsz] at hh1
    have hh2 : Holds c H ((.obj (w.heap.size + 1) (.loop { state := .ready, pending := none, fn, tmps := a.tmps, params := ps.toArray, assign, body, defers := w.heap.size }) :: M) ++ (.obj w.heap.size (.deferred (some [])) :: L)) ((w.alloc (.deferred (some []))).alloc (.loop { state := .ready, pending := none, fn, tmps := a.tmps, params := ps.toArray, assign, body, defers := w.heap.size })) := by
      refine own_perm ?_ hh1
      refine List.Perm.cons _ ?_
      exact (List.perm_middle (l₁ := M) (l₂ := L)).symm
    have hargs : (#[.func (.yield (w.heap.size + 1)) #[] #[]] ++ cap.toArray : Array Value) = ((.func (.yield (w.heap.size + 1)) #[] #[]) :: cap : List Value).toArray := by simp
    rw [hargs]
    refine (Calls_of_Fn hfn hh2).mono ?_
    rintro e' w' ⟨v, H', I', rfl, hle, hh', hq⟩
    obtain ⟨r', M2, rfl, hst, hk'⟩ := hk v H' I' hle hq
    have hb : w'.heap[w.heap.size + 1]? = some (.loop r') := hh'.own (.obj _ (.loop r')) (by simp)
    have hh3 : Holds c H' (.obj w.heap.size (.deferred (some [])) :: M2 ++ L) (w'.putObj (w.heap.size + 1) (.loop { r' with state := .exhausted })) := by
      have h5 := Holds.putObj (R := M2 ++ (.obj w.heap.size (.deferred (some [])) :: L)) (.loop { r' with state := .exhausted }) (by simpa using hh')
      refine own_perm (List.perm_middle (l₁ := M2) (l₂ := L)) (h5.sublist (List.sublist_cons_self _ _))
    have hs' : Sta.ok c ⟨n, e, H', .obj w.heap.size (.deferred (some [])) :: M2, L, rmark w.heap.size :: D⟩ { a with defers := [rmark w.heap.size] ++ a.defers } (w'.putObj (w.heap.size + 1) (.loop { r' with state := .exhausted })) :=
      ⟨by simp [hs.defers], hs.size, hs.env, hh3⟩
    refine ⟨r'.pending, _, run_endLoop hb hst, ?_⟩
    generalize w'.putObj (w.heap.size + 1) (.loop { r' with state := .exhausted }) = W at hs' ⊢
    cases hp : r'.pending with
    | none => rw [hp] at hk'; exact ⟨_, hs', hk'⟩
    | some j => rw [hp] at hk'; exact hk' _ _ hs'
end
theorem Fn.frame {P : Program} {f : FuncId} {args : List Value} {H : Hp} {Q : Value → Hp → Prop} (h : Fn P f args H [] fun v H' I' => Q v H' ∧ I' = []) (M : Own) : Fn P f args H M fun v H' I' => Q v H' ∧ I' = M ∧ HLe H H' := fun w hw => by
  have h0 : Holds ⟨w, H, Own.blocks M⟩ H ([] ++ M) w := hw
  refine (Calls_of_Fn h h0).mono ?_
  rintro e w' ⟨v, H', I', rfl, hle, hh, hq, rfl⟩
  exact ⟨v, H', M, rfl, hh, hq, rfl, hle⟩
/-- the end of a function that holds k ranges over functions -/
def EndMs (c : Ctx) (P : Program) (fn : Func) (post : Value → Hp → Own → Prop) : Nat → SP
  | 0, s => EndOf c P fn post s
  | k + 1, s => ∃ dd M' D', s.D = rmark dd :: D' ∧ s.M = .obj dd (.deferred (some [])) :: M' ∧ EndMs c P fn post k ⟨s.n, s.env, s.H, M', s.L, D'⟩
section
variable {P : Program} {f : FuncId} {args : List Value} {H : Hp} {I : Own} {post : Value → Hp → Own → Prop}
theorem leaves_ms {w : World} {fn : Func} : ∀ (k : Nat) (s : Sta) (a : Act) (w' : World), Sta.ok ⟨w, H, Own.blocks I⟩ s a w' → EndMs ⟨w, H, Own.blocks I⟩ P fn post k s →
    LeavesInM Fence.wide 0 P fn a.tmps (fun e w' => ∃ v H' I', e = .returned v ∧ Holds ⟨w, H, Own.blocks I⟩ H' I' w' ∧ post v H' I') a.defers .returning w'
  | 0, s', a, w', hs', ⟨v, hr, hd, hsh'⟩ => by
    obtain ⟨s'', hs'', hl, hp⟩ := hsh' a w' hs'
    rw [hs'.defers.trans hd]
    refine ⟨v, hr a w' hs'.env hs'.holds.own, v, s''.H, s''.M, rfl, ?_, hp⟩
    have := hs''.holds
    rw [hl] at this
    simpa using this
  | k + 1, s', a, w', hs', ⟨dd, M', D', hd, hM, hrest⟩ => by
    rw [hs'.defers.trans hd]
    have hh := hs'.holds
    rw [hM] at hh
    have hb : w'.heap[dd]? = some (.deferred (some [])) := hh.own (.obj dd _) (by simp)
    refine ⟨by simp, .inl ⟨dd, _, rfl, run_takeDeferred hb, ?_⟩⟩
    have hh2 := (Holds.putObj (.deferred none) (by simpa using hh)).sublist (List.sublist_cons_self _ _)
    have hs2 : Sta.ok ⟨w, H, Own.blocks I⟩ ⟨s'.n, s'.env, s'.H, M', s'.L, D'⟩ { a with defers := D' } (w'.putObj dd (.deferred none)) := ⟨rfl, hs'.size, hs'.env, hh2⟩
    exact leaves_ms k _ _ _ hs2 hrest
theorem Fn_ofMs (k : Nat) (fn : Func) (code : Code) (hf : P.funcs[f]? = some fn) (hb : fn.body = some code) {N : Nat} (hN : fn.ntmps = N) (hle : Nat.ble args.length N = true)
    (h : ∀ c : Ctx, wpA Fence.wide P c code (Shift c (EndMs c P fn post k)) [] (Shift c (EndMs c P fn post k)) ⟨N, ofArgs 0 args, H, I, [], []⟩) :
    Fn P f args H I post := by
  intro w hw
  rw [← callsIn_wide (n := 0)]
  refine callsIn_of_wp_marks hf hb trivial (wpIn_mono (h _ { tmps := args.toArray ++ Array.replicate (fn.ntmps - args.toArray.size) undef, defers := [] } w ⟨rfl, ?_, ofArgs_ok args _, by simpa using hw⟩) ?_)
  · have := Nat.le_of_ble_eq_true hle
    simp [hN]; omega
  · intro e a w' q
    have fin : (∃ s, Sta.ok ⟨w, H, Own.blocks I⟩ s a w' ∧ (Shift ⟨w, H, Own.blocks I⟩ (EndMs ⟨w, H, Own.blocks I⟩ P fn post k)) s) →
        LeavesInM Fence.wide 0 P fn a.tmps (fun e w' => ∃ v H' I', e = .returned v ∧ Holds ⟨w, H, Own.blocks I⟩ H' I' w' ∧ post v H' I') a.defers .returning w' := by
      rintro ⟨s, hs, hsh⟩
      obtain ⟨s', hs', hend⟩ := hsh a w' hs
      exact leaves_ms k s' a w' hs' hend
    cases e with
    | normal => exact fin q
    | ret => exact fin q
    | exit id => obtain ⟨s, hs, K', hx, _⟩ := q; simp [xfind] at hx
    | goto l => exact q
    | panic ch => exact q.elim
    | outgrown => exact q.elim
end
end Go.Proofs.Ytcliojofponpnaa
