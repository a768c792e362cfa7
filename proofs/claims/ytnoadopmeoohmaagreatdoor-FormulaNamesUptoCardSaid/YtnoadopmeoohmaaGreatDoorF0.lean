/-
  Deferred calls, at a normal end.
-/
import Derived.Test.YtnoadopmeoohmaaGreatDoorA16
import Derived.RecoverIn
namespace Go.Proofs.YtnoadopmeoohmaaGreatDoor
open Go
set_option linter.unusedVariables false
set_option linter.unusedSimpArgs false
section
variable {F : Fence} {P : Program} {c : Ctx} {K : SP} {n : Nat} {e : Env} {H : Hp} {M L : Own} {D : List Deferred} {ty : TypeId} {pos : String} {after : Array Edge} {g : Option (Nat × Bool)}
theorem Ef_defer {x : Call} {d : Deferred} (hF : WideF F) (hro : F.round = none) (hd : ∀ a, EnvOk e a → ∀ w, (resolve a.eval x ty).run P w = .ok d w) (k : K ⟨n, e, H, M, L, d :: D⟩) :
    Ef F P c ⟨none, .defer x, ty, pos, after, g⟩ ⟨n, e, H, M, L, D⟩ K := by
  intro a w hs
  refine ⟨fun f _ => hF.fn f, ?_⟩
  have hr : (execOp a.eval ⟨none, .defer x, ty, pos, after, g⟩).run P w = .ok (.defer d) w := by
    simp only [execOp, Sem.run_bind, hd a hs.env w, Result.andThen_ok, Sem.run_pure]
  rw [hro, Oper.semAt_none, hr, Oper.uponIn_defer]
  exact ⟨⟨n, e, H, M, L, d :: D⟩, ⟨by simp [Act.put, hs.defers], by simpa [Act.put] using hs.size, by simpa only [Act.put] using (show EnvOk e { tmps := a.tmps, defers := d :: a.defers } from fun t v h => hs.env t v h), hs.holds⟩, k⟩
/-- a named function -/
theorem Ef_deferF {f : FuncId} {xs : Array Operand} {args : List Value} {at_ : Array TypeId} (hF : WideF F) (hro : F.round = none) (hx : EvalAll e xs.toList args)
    (k : K ⟨n, e, H, M, L, { target := .fn (.func f) #[], args := args.toArray } :: D⟩) :
    Ef F P c ⟨none, .defer { callee := .value (.func f), args := xs, argTypes := at_ }, ty, pos, after, g⟩ ⟨n, e, H, M, L, D⟩ K := by
  refine Ef_defer hF hro (fun a he w => ?_) k
  have hm : xs.map a.eval = args.toArray := by
    apply Array.ext'
    simpa using EvalAll.map he hx
  simp only [resolve, hm, Act.eval, Deferred.ofValue, Sem.run_pure, List.append_toArray, List.nil_append]
/-- a function value -/
theorem Ef_deferV {f : FuncId} {z : Operand} {first cap : List Value} {xs : Array Operand} {args : List Value} {at_ : Array TypeId} (hF : WideF F) (hro : F.round = none) (hz : e.eval z = some (.func (.func f) first.toArray cap.toArray)) (hx : EvalAll e xs.toList args)
    (k : K ⟨n, e, H, M, L, { target := .fn (.func f) cap.toArray, args := (first ++ args).toArray } :: D⟩) :
    Ef F P c ⟨none, .defer { callee := .value z, args := xs, argTypes := at_ }, ty, pos, after, g⟩ ⟨n, e, H, M, L, D⟩ K := by
  refine Ef_defer hF hro (fun a he w => ?_) k
  have hm : xs.map a.eval = args.toArray := by
    apply Array.ext'
    simpa using EvalAll.map he hx
  simp only [resolve, hm, he.eval hz, Deferred.ofValue, Sem.run_pure, List.append_toArray]
end
/-- the contract of a function that is entered as a deferred call while its caller returns -/
def DFn (P : Program) (f : FuncId) (args : List Value) (H : Hp) (I : Own) (post : Hp → Own → Prop) : Prop :=
  ∀ w, Holds ⟨w, H, Own.blocks I⟩ H I w → CallsDIn Fence.wide 0 P f args.toArray .returning w fun e u' w' => u' = .returning ∧ ∃ v H' I', e = .returned v ∧ Holds ⟨w, H, Own.blocks I⟩ H' I' w' ∧ post H' I'
section
variable {P : Program} {f : FuncId} {args : List Value} {H : Hp} {I M' : Own} {c : Ctx} {post : Hp → Own → Prop}
theorem CallsD_of_DFn (h : DFn P f args H I post) {w : World} (hw : Holds c H (I ++ M') w) :
    CallsDIn Fence.wide 0 P f args.toArray .returning w fun e u' w' => u' = .returning ∧ ∃ v H' I', e = .returned v ∧ HLe H H' ∧ Holds c H' (I' ++ M') w' ∧ post H' I' := by
  have hsub := Own.sep_append.1 hw.sep
  have hI : ∀ b ∈ Own.blocks I, b ∈ Own.blocks (I ++ M') := fun b hb => by rw [Own.blocks_append]; exact List.mem_append_left _ hb
  have h0 : Holds ⟨w, H, Own.blocks I⟩ H I w :=
    ⟨hw.mem, fun r hr => hw.own r (List.mem_append_left _ hr), hsub.1, fun b hb => hw.apart b (hI b hb), fun b hb => .inr hb,
      ⟨rfl, rfl, rfl, Nat.le_refl _, fun _ _ _ => rfl⟩, fun _ _ _ h => h, fun _ _ _ h => .inl h, fun b o v h1 h2 => absurd (h1.symm.trans h2) (by simp), hw.callee hI⟩
  refine (h w h0).mono fun e u' w' ⟨hu, v, H', I', he, hh, hq⟩ => ⟨hu, v, H', I', he, hh.hle, ?_, hq⟩
  refine hw.frame ⟨hh.old.os, hh.old.tape, hh.old.output, hh.old.size, hh.old.block⟩ hh.mem hh.hle hh.hnew hh.own hh.sep hh.apart hh.fresh hh.thaw
/-- a function that neither defers nor recovers, entered so -/
theorem DFn_of (fn : Func) (code : Code) (hf : P.funcs[f]? = some fn) (hb : fn.body = some code) {N : Nat} (hN : fn.ntmps = N) (hle : Nat.ble args.length N = true)
    (h : ∀ c : Ctx, wpA Fence.wide P c code (Shift c (EndOf c P fn fun _ H' I' => post H' I')) [] (Shift c (EndOf c P fn fun _ H' I' => post H' I')) ⟨N, ofArgs 0 args, H, I, [], []⟩) :
    DFn P f args H I post := by
  intro w hw
  refine (callsDIn_of_wp (u := .returning) (R := fun e w' => ∃ v H' I', e = .returned v ∧ Holds ⟨w, H, Own.blocks I⟩ H' I' w' ∧ post H' I') hf hb trivial (wpIn_mono (h _ { tmps := args.toArray ++ Array.replicate (fn.ntmps - args.toArray.size) undef, defers := [] } w ⟨rfl, ?_, ofArgs_ok args _, by simpa using hw⟩) ?_))
  · have := Nat.le_of_ble_eq_true hle
    simp [hN]; omega
  · intro e a w' q
    have fin : (∃ s, Sta.ok ⟨w, H, Own.blocks I⟩ s a w' ∧ (Shift ⟨w, H, Own.blocks I⟩ (EndOf ⟨w, H, Own.blocks I⟩ P fn fun _ H' I' => post H' I')) s) →
        a.defers = [] ∧ ∃ v, (results fn a.tmps).run P w' = .ok v w' ∧ ∃ v' H' I', Ending.returned v = .returned v' ∧ Holds ⟨w, H, Own.blocks I⟩ H' I' w' ∧ post H' I' := by
      rintro ⟨s, hs, hsh⟩
      obtain ⟨s', hs', v, hr, hd, hsh'⟩ := hsh a w' hs
      obtain ⟨s'', hs'', hl, hp⟩ := hsh' a w' hs'
      refine ⟨hs'.defers.trans hd, v, hr a w' hs'.env hs'.holds.own, v, s''.H, s''.M, rfl, ?_, hp⟩
      have := hs''.holds
      rw [hl] at this
      simpa using this
    cases e with
    | normal => exact fin q
    | ret => exact fin q
    | exit id => obtain ⟨s, hs, K', hx, _⟩ := q; simp [xfind] at hx
    | goto l => exact q
    | panic ch => exact q.elim
    | outgrown => exact q.elim
end
/-- the end of a function that has deferred calls -/
def EndD (c : Ctx) (P : Program) (fn : Func) (post : Value → Hp → Own → Prop) : List Deferred → SP
  | [], s => EndOf c P fn post s
  | d :: ds, s => s.D = d :: ds ∧ ∃ (f : FuncId) (cap dargs : List Value) (I M' : Own) (dpost : Hp → Own → Prop), Nonempty (FunC P f) ∧ d = { target := .fn (.func f) cap.toArray, args := dargs.toArray } ∧ s.M = I ++ M' ∧
      DFn P f (dargs ++ cap) s.H I dpost ∧ ∀ H' I', HLe s.H H' → dpost H' I' → EndD c P fn post ds ⟨s.n, s.env, H', I' ++ M', s.L, ds⟩
section
variable {P : Program} {f : FuncId} {args : List Value} {H : Hp} {I : Own} {post : Value → Hp → Own → Prop}
theorem leaves_d {w : World} {fn : Func} : ∀ (D : List Deferred) (s : Sta) (a : Act) (w' : World), Sta.ok ⟨w, H, Own.blocks I⟩ s a w' → s.D = D → EndD ⟨w, H, Own.blocks I⟩ P fn post D s →
    LeavesIn Fence.wide 0 P fn a.tmps (fun e w' => ∃ v H' I', e = .returned v ∧ Holds ⟨w, H, Own.blocks I⟩ H' I' w' ∧ post v H' I') a.defers .returning w'
  | [], s', a, w', hs', hD, ⟨v, hr, hd, hsh'⟩ => by
    obtain ⟨s'', hs'', hl, hp⟩ := hsh' a w' hs'
    rw [hs'.defers.trans hd]
    refine ⟨v, hr a w' hs'.env hs'.holds.own, v, s''.H, s''.M, rfl, ?_, hp⟩
    have := hs''.holds
    rw [hl] at this
    simpa using this
  | d :: ds, s', a, w', hs', hD, ⟨hd, f', cap, dargs, I1, M1, dpost, ⟨hf⟩, hdd, hM, hfn, hk⟩ => by
    subst hdd
    rw [hs'.defers.trans hd]
    have hh := hs'.holds
    rw [hM, List.append_assoc] at hh
    refine leavesIn_cons (f := f') (args := (dargs ++ cap).toArray) (by simp) (fun h => by cases h) ?_ (fun _ _ => trivial) ?_
    · have := hf.run (dargs.toArray ++ cap.toArray) w'
      simp only [invoke]
      simpa using this
    · refine (CallsD_of_DFn hfn hh).mono ?_
      rintro e u' w2 ⟨rfl, v, H', I', rfl, hle, hh', hq⟩
      have hs2 : Sta.ok ⟨w, H, Own.blocks I⟩ ⟨s'.n, s'.env, H', I' ++ M1, s'.L, ds⟩ { a with defers := ds } w2 := ⟨rfl, hs'.size, hs'.env, by simpa [List.append_assoc] using hh'⟩
      exact leaves_d ds _ _ _ hs2 rfl (hk H' I' hle hq)
theorem Fn_ofD (fn : Func) (code : Code) (hf : P.funcs[f]? = some fn) (hb : fn.body = some code) {N : Nat} (hN : fn.ntmps = N) (hle : Nat.ble args.length N = true)
    (h : ∀ c : Ctx, wpA Fence.wide P c code (Shift c (fun s => EndD c P fn post s.D s)) [] (Shift c (fun s => EndD c P fn post s.D s)) ⟨N, ofArgs 0 args, H, I, [], []⟩) :
    Fn P f args H I post := by
  intro w hw
  rw [← callsIn_wide (n := 0)]
  refine callsIn_of_wp_defers hf hb trivial (wpIn_mono (h _ { tmps := args.toArray ++ Array.replicate (fn.ntmps - args.toArray.size) undef, defers := [] } w ⟨rfl, ?_, ofArgs_ok args _, by simpa using hw⟩) ?_)
  · have := Nat.le_of_ble_eq_true hle
    simp [hN]; omega
  · intro e a w' q
    have fin : (∃ s, Sta.ok ⟨w, H, Own.blocks I⟩ s a w' ∧ (Shift ⟨w, H, Own.blocks I⟩ (fun s => EndD ⟨w, H, Own.blocks I⟩ P fn post s.D s)) s) →
        LeavesIn Fence.wide 0 P fn a.tmps (fun e w' => ∃ v H' I', e = .returned v ∧ Holds ⟨w, H, Own.blocks I⟩ H' I' w' ∧ post v H' I') a.defers .returning w' := by
      rintro ⟨s, hs, hsh⟩
      obtain ⟨s', hs', hend⟩ := hsh a w' hs
      exact leaves_d s'.D s' a w' hs' rfl hend
    cases e with
    | normal => exact fin q
    | ret => exact fin q
    | exit id => obtain ⟨s, hs, K', hx, _⟩ := q; simp [xfind] at hx
    | goto l => exact q
    | panic ch => exact q.elim
    | outgrown => exact q.elim
/-- a function that has deferred nothing on this path -/
theorem EndD_nil {c : Ctx} {fn : Func} {s : Sta} (hD : s.D = []) (h : Shift c (EndOf c P fn post) s) : Shift c (fun s => EndD c P fn post s.D s) s := fun a w hs => by
  obtain ⟨s', hs', v, hr, hd, hk⟩ := h a w hs
  refine ⟨s', hs', ?_⟩
  show EndD c P fn post s'.D s'
  rw [hd]
  exact ⟨v, hr, hd, hk⟩
/-- one deferred call -/
theorem EndD_one {c : Ctx} {fn : Func} {n : Nat} {e : Env} {H : Hp} {I1 M' L : Own} {f' : FuncId} {cap dargs : List Value} {dpost : Hp → Own → Prop} [hf : FunC P f'] (h : DFn P f' (dargs ++ cap) H I1 dpost)
    (hk : ∀ H' I', HLe H H' → dpost H' I' → EndOf c P fn post ⟨n, e, H', I' ++ M', L, []⟩) :
    Shift c (fun s => EndD c P fn post s.D s) ⟨n, e, H, I1 ++ M', L, [{ target := .fn (.func f') cap.toArray, args := dargs.toArray }]⟩ :=
  Shift.pure ⟨rfl, f', cap, dargs, I1, M', dpost, ⟨hf⟩, rfl, rfl, h, hk⟩
end
end Go.Proofs.YtnoadopmeoohmaaGreatDoor
