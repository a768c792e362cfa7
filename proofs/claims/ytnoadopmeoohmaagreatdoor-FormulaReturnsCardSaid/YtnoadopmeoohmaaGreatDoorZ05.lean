import Derived.Test.YtnoadopmeoohmaaGreatDoorZ04
import Derived.Lib.AppendZerosOnto
import Derived.MapKept
import Derived.Lib.Overlaps
import Derived.RecoverIn
/-
  Appending zero elements to a nil slice.
  Closures with what they have captured; maps with integer keys.
  Owned rows: more of the same row, copy, zero elements behind a part.
  A row of one's own lent to a callee that reads it.
  Maps of numbers that tell what has been seen.
-/
namespace Go.Proofs.YtnoadopmeoohmaaGreatDoor
open Go
set_option linter.unusedVariables false
set_option linter.unusedSimpArgs false
section
/-! Appending zero elements to a nil slice. -/
section
variable {F : Fence} {P : Program} {c : Ctx} {K : SP} {t t2 ty : TypeId} {pos : String} {after : Array Edge} {g : Option (Nat × Bool)} {n d k : Nat} {e : Env} {H : Hp} {M L : Own} {D : List Deferred} {x y : Operand}
end
end
section
/-! Closures with what they have captured; maps with integer keys. -/
section
variable {F : Fence} {P : Program} {c : Ctx} {o : Oper} {K : SP} {n : Nat} {e : Env} {H : Hp} {M M' L I : Own} {R : Own} {D : List Deferred} {dst : Option Tmp} {d : Nat} {ty : TypeId} {pos : String} {after : Array Edge} {g : Option (Nat × Bool)} {x y z : Operand} {v : Value} {t : TypeId} {b : Nat}
/-- a call of a closure -/
theorem Ef_callc (hF : WideF F) {f : FuncId} {args caps : List Value} {post : Value → Hp → Own → Prop} {at_ : Array TypeId} [hf : FunC P f] {xs : Array Operand} (h : Fn P f (args ++ caps) H I post) (hz : e.eval z = some (.func (.func f) #[] caps.toArray)) (hx : EvalAll e xs.toList args) (hn : Nat.blt d n = true)
    (k : ∀ v H' I', HLe H H' → post v H' I' → K ⟨n, (d, v) :: e, H', I' ++ M', L, D⟩) :
    Ef F P c ⟨some d, .call { callee := .value z, args := xs, argTypes := at_ }, ty, pos, after, g⟩ ⟨n, e, H, I ++ M', L, D⟩ K := by
  intro a w hs
  have hm := EvalAll.map hs.env hx
  have hm' : xs.map a.eval = args.toArray := by
    apply Array.ext'
    simpa using hm
  have hz' := hs.env.eval hz
  have hr : (execOp a.eval ⟨some d, .call { callee := .value z, args := xs, argTypes := at_ }, ty, pos, after, g⟩).run P w = .ok (.enter f (args ++ caps).toArray) w := by
    simp only [execOp, resolve, hm', hz', Deferred.ofValue, Sem.run_bind, Sem.run_pure, Result.andThen_ok, invoke, List.append_toArray, List.nil_append]
    rw [hf.run]
  refine ⟨fun f _ => hF.fn f, ?_⟩
  rw [Oper.semAt_eq _ _ _ (by simp), hr]
  refine ⟨(fun hd => (by rw [hF.depth] at hd; cases hd)), callsIn_of_calls hF ?_⟩
  have hh0 : Holds c H (I ++ (M' ++ L)) w := by have := hs.holds; simpa [List.append_assoc] using this
  refine (Calls_of_Fn h hh0).mono ?_
  rintro e' w' ⟨v, H', I', he, hle, hh, hq⟩
  subst he
  exact ⟨_, ok_put hs hn (M'' := I' ++ M') (by simpa [List.append_assoc] using hh), k v H' I' hle hq⟩
theorem Ef_callcp (hF : WideF F) {f : FuncId} {args caps : List Value} {u : Value} {at_ : Array TypeId} [hf : FunC P f] {xs : Array Operand} (h : FnP P f (args ++ caps) H u) (hz : e.eval z = some (.func (.func f) #[] caps.toArray)) (hx : EvalAll e xs.toList args) (hn : Nat.blt d n = true)
    (k : K ⟨n, (d, u) :: e, H, M, L, D⟩) :
    Ef F P c ⟨some d, .call { callee := .value z, args := xs, argTypes := at_ }, ty, pos, after, g⟩ ⟨n, e, H, M, L, D⟩ K :=
  Ef_callc (I := []) (M' := M) hF h hz hx hn fun v' H' I' _ ⟨h1, h2, h3⟩ => by subst h1 h2 h3; exact k
/-! ### a map with integer keys, nothing ever deleted -/
def ments (i : Nat) : List (Int × Value) → List MapEntry
  | [] => []
  | p :: r => ⟨.int .i64 p.1, p.2, i⟩ :: ments (i + 1) r
abbrev mobj (kvs : List (Int × Value)) : Obj := .map (ments 0 kvs).toArray kvs.length
def mget (z : Value) : List (Int × Value) → Int → Value
  | [], _ => z
  | p :: r, x => if x = p.1 then p.2 else mget z r x
def mhas : List (Int × Value) → Int → Prop
  | [], _ => False
  | p :: r, x => x = p.1 ∨ mhas r x
theorem ments_snoc (i : Nat) (kvs : List (Int × Value)) (p : Int × Value) : ments i (kvs ++ [p]) = ments i kvs ++ [⟨.int .i64 p.1, p.2, i + kvs.length⟩] := by
  induction kvs generalizing i with
  | nil => simp [ments]
  | cons q r ih => simp [ments, ih]; omega
theorem mget_no {z : Value} {kvs : List (Int × Value)} {x : Int} (h : ¬ mhas kvs x) : mget z kvs x = z := by
  induction kvs with
  | nil => rfl
  | cons p r ih =>
    simp only [mhas, not_or] at h
    rw [mget, if_neg h.1, ih h.2]
theorem findNow_m (x : Int) (z : Value) : ∀ (kvs : List (Int × Value)) (i j : Nat), ∃ r, Instr.findNow (.int .i64) (.int .i64 x) (ments i kvs) j = some r ∧ ((∃ q, r = some (q, mget z kvs x) ∧ mhas kvs x) ∨ (r = none ∧ ¬ mhas kvs x))
  | [], i, j => ⟨none, rfl, .inr ⟨rfl, id⟩⟩
  | p :: r, i, j => by
    simp only [ments, Instr.findNow, Instr.sameNow, if_true]
    by_cases h : x = p.1
    · subst h
      exact ⟨some (j, p.2), by simp, .inl ⟨j, by simp [mget], .inl rfl⟩⟩
    · have hb : (x == p.1) = false := by simpa using h
      obtain ⟨q, h1, h2⟩ := findNow_m x z r (i + 1) (j + 1)
      refine ⟨q, by simpa [hb] using h1, ?_⟩
      rcases h2 with ⟨q', h3, h4⟩ | ⟨h3, h4⟩
      · exact .inl ⟨q', by rw [h3, mget, if_neg h], .inr h4⟩
      · exact .inr ⟨h3, fun h5 => h5.elim h h4⟩
theorem run_checkKey_int {kt : TypeId} (hk : P.underlying kt = some (.int .i64)) (em : Bool) (x : Int) (w : World) : (Instr.checkKey em 10000 kt (.int .i64 x)).run P w = .ok () w := by
  have key : ∀ d, (Instr.checkKey em (d + 1) kt (.int .i64 x)).run P w = .ok () w := fun d => by
    simp [Instr.checkKey, run_underlying hk]
  exact key 9999
/-- m[k] -/
theorem Ev_lookupI {kt et : TypeId} {kvs : List (Int × Value)} {q : Int} {zv : Value} {i : Nat} [ht : UndC P t (.map kt et)] [hk : UndC P kt (.int .i64)] (hzv : ∀ w, (zeroValue et).run P w = .ok zv w) (hx : e.eval x = some (.map (some b))) (hy : e.eval y = some (.int .i64 q)) (hR : oget R i = some (.obj b (mobj kvs))) :
    Ev P ⟨dst, .lookup t x y false, ty, pos, after, g⟩ e H R (mget zv kvs q) := fun a w he _ hr => by
  have hb : w.heap[b]? = some (mobj kvs) := hr _ (oget_mem hR)
  have h1 := MapKept.run_getObj_map (P := P) hb
  have h2 := fun em => run_checkKey_int (P := P) hk.und em q w
  obtain ⟨r, h3, h4⟩ := findNow_m q zv kvs 0 0
  rcases h4 with ⟨q', rfl, h5⟩ | ⟨rfl, h5⟩
  · simp [execOp, he.eval hx, he.eval hy, Instr.lookup, ht.run, h1, h2, Instr.findKey, hk.run, h3]
  · simp [execOp, he.eval hx, he.eval hy, Instr.lookup, ht.run, h1, h2, Instr.findKey, hk.run, h3, hzv, mget_no h5]
/-- make(map[..]..) -/
theorem Ef_makeMap (hF : WideF F) (hn : Nat.blt d n = true) (k : ∀ b, K ⟨n, (d, .map (some b)) :: e, H, .obj b (mobj []) :: M, L, D⟩) :
    Ef F P c ⟨some d, .makeMap t none, ty, pos, after, g⟩ ⟨n, e, H, M, L, D⟩ K := Ef_of_run hF fun a w hs => by
  refine ⟨.map (some w.heap.size), w.alloc (mobj []), ?_, _, ok_put hs hn (hs.holds.allocO _), k _⟩
  have hno : (newObj (mobj [])).run P w = .ok w.heap.size (w.alloc (mobj [])) := rfl
  have hm : (mobj []) = .map #[] 0 := rfl
  rw [hm] at hno ⊢
  simp only [execOp, Instr.makeMap, Option.map_none, Sem.run_bind, Sem.run_pure, Result.andThen_ok, hno]
end
end
section
/-! Owned rows: more of the same row, copy, zero elements behind a part. -/
def chunks (k : Nat) : Nat → List Value → List (List Value)
  | 0, _ => []
  | m + 1, l => l.take k :: chunks k m (l.drop k)
section
variable {F : Fence} {P : Program} {c : Ctx} {o : Oper} {K : SP} {X : List (Nat × SP)} {R : SP} {ops l : List Oper} {code : Code} {n : Nat} {e : Env} {H : Hp} {M M' L : Own} {D : List Deferred} {dst : Option Tmp} {d : Nat} {ty : TypeId} {pos : String} {after : Array Edge} {g : Option (Nat × Bool)} {x y z : Operand} {v : Value} {t t2 : TypeId} {k b off : Nat}
/-- what is read first of a slice -/
def FirstAre (P : Program) (w : World) (k q : Nat) (v : Value) (news : List (List Value)) : Prop := news.length = q ∧ (∀ cs ∈ news, cs.length = k) ∧ (Builtin.firstCells k q v).run P w = .ok news.flatten.toArray w
end
end
section
/-! A row of one's own lent to a callee that reads it. -/
end
section
/-! Maps of numbers that tell what has been seen. -/
/-- the entries are these numbers, all true -/
def SetMap (es : Array MapEntry) (l : List Int) : Prop := es.toList.map (fun e => (e.key, e.val)) = l.map (fun x => ((.int .i64 x : Value), (.bool true : Value)))
section
variable {P : Program} {F : Fence} {c : Ctx} {K : SP} {n : Nat} {e : Env} {H : Hp} {M L R : Own} {D : List Deferred} {dst : Option Tmp} {d : Nat} {ty : TypeId} {pos : String} {after : Array Edge} {g : Option (Nat × Bool)} {x y z : Operand} {t kt et : TypeId} {b clock : Nat} {es : Array MapEntry} {l : List Int} {k : Int}
end
end
end Go.Proofs.YtnoadopmeoohmaaGreatDoor
/-
  Deferred calls, at a normal end.
-/
namespace Go.Proofs.YtnoadopmeoohmaaGreatDoor
open Go
set_option linter.unusedVariables false
set_option linter.unusedSimpArgs false
section
variable {F : Fence} {P : Program} {c : Ctx} {K : SP} {n : Nat} {e : Env} {H : Hp} {M L : Own} {D : List Deferred} {ty : TypeId} {pos : String} {after : Array Edge} {g : Option (Nat × Bool)}
theorem Ef_defer {x : Call} {d : Deferred} (hF : WideF F) (hro : F.round = none) (hd : ∀ a, EnvOk e a → ∀ w, (resolve a.eval x ty).run P w = .ok d w) (k : K ⟨n, e, H, M, L, d :: D⟩) :
    Ef F P c ⟨none, .defer x, ty, pos, after, g⟩ ⟨n, e, H, M, L, D⟩ K := by
  intro a w hs
  refine ⟨fun f _ => hF.fn f, ?_⟩
  have hr : (execOp a.eval ⟨none, .defer x, ty, pos, after, g⟩).run P w = .ok (.defer d) w := by
    simp only [execOp, Sem.run_bind, hd a hs.env w, Result.andThen_ok, Sem.run_pure]
  rw [hro, Oper.semAt_none, hr, Oper.uponIn_defer]
  exact ⟨⟨n, e, H, M, L, d :: D⟩, ⟨by simp [Act.put, hs.defers], by simpa [Act.put] using hs.size, by simpa only [Act.put] using (show EnvOk e { tmps := a.tmps, defers := d :: a.defers } from fun t v h => hs.env t v h), hs.holds⟩, k⟩
/-- a named function -/
theorem Ef_deferF {f : FuncId} {xs : Array Operand} {args : List Value} {at_ : Array TypeId} (hF : WideF F) (hro : F.round = none) (hx : EvalAll e xs.toList args)
    (k : K ⟨n, e, H, M, L, { target := .fn (.func f) #[], args := args.toArray } :: D⟩) :
    Ef F P c ⟨none, .defer { callee := .value (.func f), args := xs, argTypes := at_ }, ty, pos, after, g⟩ ⟨n, e, H, M, L, D⟩ K := by
  refine Ef_defer hF hro (fun a he w => ?_) k
  have hm : xs.map a.eval = args.toArray := by
    apply Array.ext'
    simpa using EvalAll.map he hx
  simp only [resolve, hm, Act.eval, Deferred.ofValue, Sem.run_pure, List.append_toArray, List.nil_append]
/-- a function value -/
theorem Ef_deferV {f : FuncId} {z : Operand} {first cap : List Value} {xs : Array Operand} {args : List Value} {at_ : Array TypeId} (hF : WideF F) (hro : F.round = none) (hz : e.eval z = some (.func (.func f) first.toArray cap.toArray)) (hx : EvalAll e xs.toList args)
    (k : K ⟨n, e, H, M, L, { target := .fn (.func f) cap.toArray, args := (first ++ args).toArray } :: D⟩) :
    Ef F P c ⟨none, .defer { callee := .value z, args := xs, argTypes := at_ }, ty, pos, after, g⟩ ⟨n, e, H, M, L, D⟩ K := by
  refine Ef_defer hF hro (fun a he w => ?_) k
  have hm : xs.map a.eval = args.toArray := by
    apply Array.ext'
    simpa using EvalAll.map he hx
  simp only [resolve, hm, he.eval hz, Deferred.ofValue, Sem.run_pure, List.append_toArray]
end
/-- the contract of a function that is entered as a deferred call while its caller returns -/
def DFn (P : Program) (f : FuncId) (args : List Value) (H : Hp) (I : Own) (post : Hp → Own → Prop) : Prop :=
  ∀ w, Holds ⟨w, H, Own.blocks I, noPn⟩ H I w → CallsDIn Fence.wide 0 P f args.toArray .returning w fun e u' w' => u' = .returning ∧ ∃ v H' I', e = .returned v ∧ Holds ⟨w, H, Own.blocks I, noPn⟩ H' I' w' ∧ post H' I'
section
variable {P : Program} {f : FuncId} {args : List Value} {H : Hp} {I M' : Own} {c : Ctx} {post : Hp → Own → Prop}
theorem CallsD_of_DFn (h : DFn P f args H I post) {w : World} (hw : Holds c H (I ++ M') w) :
    CallsDIn Fence.wide 0 P f args.toArray .returning w fun e u' w' => u' = .returning ∧ ∃ v H' I', e = .returned v ∧ HLe H H' ∧ Holds c H' (I' ++ M') w' ∧ post H' I' := by
  have hsub := Own.sep_append.1 hw.sep
  have hI : ∀ b ∈ Own.blocks I, b ∈ Own.blocks (I ++ M') := fun b hb => by rw [Own.blocks_append]; exact List.mem_append_left _ hb
  have h0 : Holds ⟨w, H, Own.blocks I, noPn⟩ H I w :=
    ⟨hw.mem, fun r hr => hw.own r (List.mem_append_left _ hr), hsub.1, fun b hb => hw.apart b (hI b hb), fun b hb => .inr hb,
      ⟨rfl, rfl, rfl, Nat.le_refl _, fun _ _ _ => rfl⟩, fun _ _ _ h => h, fun _ _ _ h => .inl h, fun b o v h1 h2 => absurd (h1.symm.trans h2) (by simp), hw.callee hI⟩
  refine (h w h0).mono fun e u' w' ⟨hu, v, H', I', he, hh, hq⟩ => ⟨hu, v, H', I', he, hh.hle, ?_, hq⟩
  refine hw.frame ⟨hh.old.os, hh.old.tape, hh.old.output, hh.old.size, hh.old.block⟩ hh.mem hh.hle hh.hnew hh.own hh.sep hh.apart hh.fresh hh.thaw
/-- a function that neither defers nor recovers, entered so -/
theorem DFn_of (fn : Func) (code : Code) (hf : P.funcs[f]? = some fn) (hb : fn.body = some code) {N : Nat} (hN : fn.ntmps = N) (hle : Nat.ble args.length N = true)
    (h : ∀ c : Ctx, wpA Fence.wide P c code (Shift c (EndOf c P fn fun _ H' I' => post H' I')) [] (Shift c (EndOf c P fn fun _ H' I' => post H' I')) ⟨N, ofArgs 0 args, H, I, [], []⟩) :
    DFn P f args H I post := by
  intro w hw
  refine (callsDIn_of_wp (u := .returning) (R := fun e w' => ∃ v H' I', e = .returned v ∧ Holds ⟨w, H, Own.blocks I, noPn⟩ H' I' w' ∧ post H' I') hf hb trivial (wpIn_mono (h _ { tmps := args.toArray ++ Array.replicate (fn.ntmps - args.toArray.size) undef, defers := [] } w ⟨rfl, ?_, ofArgs_ok args _, by simpa using hw⟩) ?_))
  · have := Nat.le_of_ble_eq_true hle
    simp [hN]; omega
  · intro e a w' q
    have fin : (∃ s, Sta.ok ⟨w, H, Own.blocks I, noPn⟩ s a w' ∧ (Shift ⟨w, H, Own.blocks I, noPn⟩ (EndOf ⟨w, H, Own.blocks I, noPn⟩ P fn fun _ H' I' => post H' I')) s) →
        a.defers = [] ∧ ∃ v, (results fn a.tmps).run P w' = .ok v w' ∧ ∃ v' H' I', Ending.returned v = .returned v' ∧ Holds ⟨w, H, Own.blocks I, noPn⟩ H' I' w' ∧ post H' I' := by
      rintro ⟨s, hs, hsh⟩
      obtain ⟨s', hs', v, hr, hd, hsh'⟩ := hsh a w' hs
      obtain ⟨s'', hs'', hl, hp⟩ := hsh' a w' hs'
      refine ⟨hs'.defers.trans hd, v, hr a w' hs'.env hs'.holds.own, v, s''.H, s''.M, rfl, ?_, hp⟩
      have := hs''.holds
      rw [hl] at this
      simpa using this
    cases e with
    | normal => exact fin q
    | ret => exact fin q
    | exit id => obtain ⟨s, hs, K', hx, _⟩ := q; simp [xfind] at hx
    | goto l => exact q
    | panic ch => obtain ⟨s, hs, hx⟩ := q; exact hx.elim
    | outgrown => exact q.elim
end
/-- the end of a function that has deferred calls -/
def EndD (c : Ctx) (P : Program) (fn : Func) (post : Value → Hp → Own → Prop) : List Deferred → SP
  | [], s => EndOf c P fn post s
  | d :: ds, s => s.D = d :: ds ∧ ∃ (f : FuncId) (cap dargs : List Value) (I M' : Own) (dpost : Hp → Own → Prop), Nonempty (FunC P f) ∧ d = { target := .fn (.func f) cap.toArray, args := dargs.toArray } ∧ s.M = I ++ M' ∧
      DFn P f (dargs ++ cap) s.H I dpost ∧ ∀ H' I', HLe s.H H' → dpost H' I' → EndD c P fn post ds ⟨s.n, s.env, H', I' ++ M', s.L, ds⟩
section
variable {P : Program} {f : FuncId} {args : List Value} {H : Hp} {I : Own} {post : Value → Hp → Own → Prop}
theorem leaves_d {w : World} {fn : Func} : ∀ (D : List Deferred) (s : Sta) (a : Act) (w' : World), Sta.ok ⟨w, H, Own.blocks I, noPn⟩ s a w' → s.D = D → EndD ⟨w, H, Own.blocks I, noPn⟩ P fn post D s →
    LeavesIn Fence.wide 0 P fn a.tmps (fun e w' => ∃ v H' I', e = .returned v ∧ Holds ⟨w, H, Own.blocks I, noPn⟩ H' I' w' ∧ post v H' I') a.defers .returning w'
  | [], s', a, w', hs', hD, ⟨v, hr, hd, hsh'⟩ => by
    obtain ⟨s'', hs'', hl, hp⟩ := hsh' a w' hs'
    rw [hs'.defers.trans hd]
    refine ⟨v, hr a w' hs'.env hs'.holds.own, v, s''.H, s''.M, rfl, ?_, hp⟩
    have := hs''.holds
    rw [hl] at this
    simpa using this
  | d :: ds, s', a, w', hs', hD, ⟨hd, f', cap, dargs, I1, M1, dpost, ⟨hf⟩, hdd, hM, hfn, hk⟩ => by
    subst hdd
    rw [hs'.defers.trans hd]
    have hh := hs'.holds
    rw [hM, List.append_assoc] at hh
    refine leavesIn_cons (f := f') (args := (dargs ++ cap).toArray) (by simp) (fun h => by cases h) ?_ (fun _ _ => trivial) ?_
    · have := hf.run (dargs.toArray ++ cap.toArray) w'
      simp only [invoke]
      simpa using this
    · refine (CallsD_of_DFn hfn hh).mono ?_
      rintro e u' w2 ⟨rfl, v, H', I', rfl, hle, hh', hq⟩
      have hs2 : Sta.ok ⟨w, H, Own.blocks I, noPn⟩ ⟨s'.n, s'.env, H', I' ++ M1, s'.L, ds⟩ { a with defers := ds } w2 := ⟨rfl, hs'.size, hs'.env, by simpa [List.append_assoc] using hh'⟩
      exact leaves_d ds _ _ _ hs2 rfl (hk H' I' hle hq)
theorem Fn_ofD (fn : Func) (code : Code) (hf : P.funcs[f]? = some fn) (hb : fn.body = some code) {N : Nat} (hN : fn.ntmps = N) (hle : Nat.ble args.length N = true)
    (h : ∀ c : Ctx, wpA Fence.wide P c code (Shift c (fun s => EndD c P fn post s.D s)) [] (Shift c (fun s => EndD c P fn post s.D s)) ⟨N, ofArgs 0 args, H, I, [], []⟩) :
    Fn P f args H I post := by
  intro w hw
  rw [← callsIn_wide (n := 0)]
  refine callsIn_of_wp_defers hf hb trivial (wpIn_mono (h _ { tmps := args.toArray ++ Array.replicate (fn.ntmps - args.toArray.size) undef, defers := [] } w ⟨rfl, ?_, ofArgs_ok args _, by simpa using hw⟩) ?_)
  · have := Nat.le_of_ble_eq_true hle
    simp [hN]; omega
  · intro e a w' q
    have fin : (∃ s, Sta.ok ⟨w, H, Own.blocks I, noPn⟩ s a w' ∧ (Shift ⟨w, H, Own.blocks I, noPn⟩ (fun s => EndD ⟨w, H, Own.blocks I, noPn⟩ P fn post s.D s)) s) →
        LeavesIn Fence.wide 0 P fn a.tmps (fun e w' => ∃ v H' I', e = .returned v ∧ Holds ⟨w, H, Own.blocks I, noPn⟩ H' I' w' ∧ post v H' I') a.defers .returning w' := by
      rintro ⟨s, hs, hsh⟩
      obtain ⟨s', hs', hend⟩ := hsh a w' hs
      exact leaves_d s'.D s' a w' hs' rfl hend
    cases e with
    | normal => exact fin q
    | ret => exact fin q
    | exit id => obtain ⟨s, hs, K', hx, _⟩ := q; simp [xfind] at hx
    | goto l => exact q
    | panic ch => obtain ⟨s, hs, hx⟩ := q; exact hx.elim
    | outgrown => exact q.elim
/-- a function that has deferred nothing on this path -/
theorem EndD_nil {c : Ctx} {fn : Func} {s : Sta} (hD : s.D = []) (h : Shift c (EndOf c P fn post) s) : Shift c (fun s => EndD c P fn post s.D s) s := fun a w hs => by
  obtain ⟨s', hs', v, hr, hd, hk⟩ := h a w hs
  refine ⟨s', hs', ?_⟩
  show EndD c P fn post s'.D s'
  rw [hd]
  exact ⟨v, hr, hd, hk⟩
/-- one deferred call -/
theorem EndD_one {c : Ctx} {fn : Func} {n : Nat} {e : Env} {H : Hp} {I1 M' L : Own} {f' : FuncId} {cap dargs : List Value} {dpost : Hp → Own → Prop} [hf : FunC P f'] (h : DFn P f' (dargs ++ cap) H I1 dpost)
    (hk : ∀ H' I', HLe H H' → dpost H' I' → EndOf c P fn post ⟨n, e, H', I' ++ M', L, []⟩) :
    Shift c (fun s => EndD c P fn post s.D s) ⟨n, e, H, I1 ++ M', L, [{ target := .fn (.func f') cap.toArray, args := dargs.toArray }]⟩ :=
  Shift.pure ⟨rfl, f', cap, dargs, I1, M', dpost, ⟨hf⟩, rfl, rfl, h, hk⟩
end
end Go.Proofs.YtnoadopmeoohmaaGreatDoor
