import Derived.Test.YtnoadopmeoohmaaGreatDoorZ31
import Derived.Test.YtnoadopmeoohmaaGreatDoorZ36
/-
  Deferred calls at a panic; Parse's deferred function where the parser has failed.
-/
namespace Go.Proofs.YtnoadopmeoohmaaGreatDoor
open Go
set_option linter.unusedVariables false
set_option linter.unusedSimpArgs false
theorem Holds.pn {w : World} {H H' : Hp} {B : List Nat} {p p' : List PanicEntry → Sta → Prop} {I : Own} {w' : World} (h : Holds ⟨w, H, B, p⟩ H' I w') : Holds ⟨w, H, B, p'⟩ H' I w' :=
  ⟨h.mem, h.own, h.sep, h.apart, h.fresh, ⟨h.old.os, h.old.tape, h.old.output, h.old.size, h.old.block⟩, h.hle, h.hnew, h.thaw, ⟨h.gl.glob, h.gl.size, h.gl.apart⟩⟩
theorem Sta.ok.pn {w : World} {H : Hp} {B : List Nat} {p p' : List PanicEntry → Sta → Prop} {s : Sta} {a : Act} {w' : World} (h : Sta.ok ⟨w, H, B, p⟩ s a w') : Sta.ok ⟨w, H, B, p'⟩ s a w' := ⟨h.defers, h.size, h.env, h.holds.pn⟩
/-- the contract of a function that is entered as a deferred call while its caller panics, and that recovers -/
def DFnP (P : Program) (f : FuncId) (args : List Value) (H : Hp) (I : Own) (ch : List PanicEntry) (post : Hp → Own → Prop) : Prop :=
  ∀ w, Holds ⟨w, H, Own.blocks I, noPn⟩ H I w → CallsDIn Fence.wide 0 P f args.toArray (.panicking ch) w fun e u' w' => settle u' = .returning ∧ ∃ v H' I', e = .returned v ∧ Holds ⟨w, H, Own.blocks I, noPn⟩ H' I' w' ∧ post H' I'
section
variable {P : Program} {f : FuncId} {args : List Value} {H : Hp} {I M' : Own} {c : Ctx} {post : Hp → Own → Prop} {ch : List PanicEntry}
theorem CallsD_of_DFnP (h : DFnP P f args H I ch post) {w : World} (hw : Holds c H (I ++ M') w) :
    CallsDIn Fence.wide 0 P f args.toArray (.panicking ch) w fun e u' w' => settle u' = .returning ∧ ∃ v H' I', e = .returned v ∧ HLe H H' ∧ Holds c H' (I' ++ M') w' ∧ post H' I' := by
  have hsub := Own.sep_append.1 hw.sep
  have hI : ∀ b ∈ Own.blocks I, b ∈ Own.blocks (I ++ M') := fun b hb => by rw [Own.blocks_append]; exact List.mem_append_left _ hb
  have h0 : Holds ⟨w, H, Own.blocks I, noPn⟩ H I w :=
    ⟨hw.mem, fun r hr => hw.own r (List.mem_append_left _ hr), hsub.1, fun b hb => hw.apart b (hI b hb), fun b hb => .inr hb,
      ⟨rfl, rfl, rfl, Nat.le_refl _, fun _ _ _ => rfl⟩, fun _ _ _ h => h, fun _ _ _ h => .inl h, fun b o v h1 h2 => absurd (h1.symm.trans h2) (by simp), hw.callee hI⟩
  refine (h w h0).mono fun e u' w' ⟨hu, v, H', I', he, hh, hq⟩ => ⟨hu, v, H', I', he, hh.hle, ?_, hq⟩
  refine hw.frame ⟨hh.old.os, hh.old.tape, hh.old.output, hh.old.size, hh.old.block⟩ hh.mem hh.hle hh.hnew hh.own hh.sep hh.apart hh.fresh hh.thaw
end
/-- a panic where one deferred call recovers -/
def PanD (c : Ctx) (P : Program) (fn : Func) (post : Value → Hp → Own → Prop) (ch : List PanicEntry) (s : Sta) : Prop :=
  ∃ (f : FuncId) (cap dargs : List Value) (I M' : Own) (dpost : Hp → Own → Prop), Nonempty (FunC P f) ∧ s.D = [{ target := .fn (.func f) cap.toArray, args := dargs.toArray }] ∧ s.M = I ++ M' ∧
    DFnP P f (dargs ++ cap) s.H I ch dpost ∧ ∀ H' I', HLe s.H H' → dpost H' I' → EndOf c P fn post ⟨s.n, s.env, H', I' ++ M', s.L, []⟩
section
variable {P : Program} {f : FuncId} {args : List Value} {H : Hp} {I : Own} {post : Value → Hp → Own → Prop}
theorem leaves_end {w : World} {fn : Func} {p : List PanicEntry → Sta → Prop} {s : Sta} {a : Act} {w' : World} (hs : Sta.ok ⟨w, H, Own.blocks I, p⟩ s a w') (h : EndOf ⟨w, H, Own.blocks I, p⟩ P fn post s) :
    ∃ v, (results fn a.tmps).run P w' = .ok v w' ∧ ∃ v' H' I', Ending.returned v = .returned v' ∧ Holds ⟨w, H, Own.blocks I, noPn⟩ H' I' w' ∧ post v' H' I' := by
  obtain ⟨v, hr, hd, hsh'⟩ := h
  obtain ⟨s'', hs'', hl, hp⟩ := hsh' a w' hs
  refine ⟨v, hr a w' hs.env hs.holds.own, v, s''.H, s''.M, rfl, ?_, hp⟩
  have := hs''.holds
  rw [hl] at this
  have h2 : Holds ⟨w, H, Own.blocks I, p⟩ s''.H s''.M w' := by simpa using this
  exact h2.pn
theorem leaves_d' {w : World} {fn : Func} {p : List PanicEntry → Sta → Prop} : ∀ (D : List Deferred) (s : Sta) (a : Act) (w' : World), Sta.ok ⟨w, H, Own.blocks I, p⟩ s a w' → s.D = D → EndD ⟨w, H, Own.blocks I, p⟩ P fn post D s →
    LeavesIn Fence.wide 0 P fn a.tmps (fun e w' => ∃ v H' I', e = .returned v ∧ Holds ⟨w, H, Own.blocks I, noPn⟩ H' I' w' ∧ post v H' I') a.defers .returning w'
  | [], s', a, w', hs', hD, h => by
    rw [hs'.defers.trans hD]
    exact leaves_end hs' h
  | d :: ds, s', a, w', hs', hD, ⟨hd, f', cap, dargs, I1, M1, dpost, ⟨hf⟩, hdd, hM, hfn, hk⟩ => by
    subst hdd
    rw [hs'.defers.trans hd]
    have hh := hs'.holds
    rw [hM, List.append_assoc] at hh
    refine leavesIn_cons (f := f') (args := (dargs ++ cap).toArray) (by simp) (fun h => by cases h) ?_ (fun _ _ => trivial) ?_
    · have := hf.run (dargs.toArray ++ cap.toArray) w'
      simp only [invoke]
      simpa using this
    · refine (CallsD_of_DFn hfn hh).mono ?_
      rintro e u' w2 ⟨rfl, v, H', I', rfl, hle, hh', hq⟩
      have hs2 : Sta.ok ⟨w, H, Own.blocks I, p⟩ ⟨s'.n, s'.env, H', I' ++ M1, s'.L, ds⟩ { a with defers := ds } w2 := ⟨rfl, hs'.size, hs'.env, by simpa [List.append_assoc] using hh'⟩
      exact leaves_d' ds _ _ _ hs2 rfl (hk H' I' hle hq)
theorem Fn_ofDP (fn : Func) (code : Code) (hf : P.funcs[f]? = some fn) (hb : fn.body = some code) {N : Nat} (hN : fn.ntmps = N) (hle : Nat.ble args.length N = true)
    (h : ∀ c c0 : Ctx, (∀ ch s, PanD c0 P fn post ch s → c.pn ch s) → wpA Fence.wide P c code (Shift c (fun s => EndD c P fn post s.D s)) [] (Shift c (fun s => EndD c P fn post s.D s)) ⟨N, ofArgs 0 args, H, I, [], []⟩) :
    Fn P f args H I post := by
  intro w hw
  rw [← callsIn_wide (n := 0)]
  refine callsIn_of_wp_defers hf hb trivial (wpIn_mono (h ⟨w, H, Own.blocks I, PanD ⟨w, H, Own.blocks I, noPn⟩ P fn post⟩ ⟨w, H, Own.blocks I, noPn⟩ (fun ch s hx => hx) { tmps := args.toArray ++ Array.replicate (fn.ntmps - args.toArray.size) undef, defers := [] } w ⟨rfl, ?_, ofArgs_ok args _, by simpa using hw.pn⟩) ?_)
  · have := Nat.le_of_ble_eq_true hle
    simp [hN]; omega
  · intro e a w' q
    have fin : (∃ s, Sta.ok ⟨w, H, Own.blocks I, PanD ⟨w, H, Own.blocks I, noPn⟩ P fn post⟩ s a w' ∧ (Shift ⟨w, H, Own.blocks I, PanD ⟨w, H, Own.blocks I, noPn⟩ P fn post⟩ (fun s => EndD ⟨w, H, Own.blocks I, PanD ⟨w, H, Own.blocks I, noPn⟩ P fn post⟩ P fn post s.D s)) s) →
        LeavesIn Fence.wide 0 P fn a.tmps (fun e w' => ∃ v H' I', e = .returned v ∧ Holds ⟨w, H, Own.blocks I, noPn⟩ H' I' w' ∧ post v H' I') a.defers .returning w' := by
      rintro ⟨s, hs, hsh⟩
      obtain ⟨s', hs', hend⟩ := hsh a w' hs
      exact leaves_d' s'.D s' a w' hs' rfl hend
    cases e with
    | normal => exact fin q
    | ret => exact fin q
    | exit id => obtain ⟨s, hs, K', hx, _⟩ := q; simp [xfind] at hx
    | goto l => exact q
    | panic ch =>
      obtain ⟨s, hs, f', cap, dargs, I1, M1, dpost, ⟨hf'⟩, hd, hM, hfn, hk⟩ := q
      have hs := hs.pn (p' := noPn)
      show LeavesIn Fence.wide 0 P fn a.tmps _ a.defers (.panicking ch) w'
      rw [hs.defers.trans hd]
      have hh := hs.holds
      rw [hM, List.append_assoc] at hh
      refine leavesIn_cons (f := f') (args := (dargs ++ cap).toArray) (by simp) (fun h => by cases h) ?_ (fun _ _ => trivial) ?_
      · have := hf'.run (dargs.toArray ++ cap.toArray) w'
        simp only [invoke]
        simpa using this
      · refine (CallsD_of_DFnP hfn hh).mono ?_
        rintro e u' w2 ⟨hu, v, H', I', rfl, hle, hh', hq⟩
        have hs2 : Sta.ok ⟨w, H, Own.blocks I, noPn⟩ ⟨s.n, s.env, H', I' ++ M1, s.L, []⟩ { a with defers := [] } w2 := ⟨rfl, hs.size, hs.env, by simpa [List.append_assoc] using hh'⟩
        show LeavesIn Fence.wide 0 P fn a.tmps _ [] (settle u') w2
        rw [hu]
        have h9 := leaves_end hs2 (hk H' I' hle hq)
        exact h9
    | outgrown => exact q.elim
end
theorem EnvOk.nil {a : Act} : EnvOk [] a := fun t v h => by cases h
theorem EnvOk.cons {e : Env} {a : Act} {d : Nat} {v : Value} (h : EnvOk e a) (hd : a.tmps[d]? = some v) : EnvOk ((d, v) :: e) a := fun t u hu => by
  have h2 : (match Nat.beq d t with | true => some v | false => Env.find e t) = some u := hu
  cases hb : Nat.beq d t with
  | true =>
    rw [hb] at h2
    have := Nat.eq_of_beq_eq_true hb
    subst this
    rw [hd]; exact h2
  | false => rw [hb] at h2; exact h t u h2
theorem assert65 (W : World) (v : Value) : (Instr.typeAssert (.iface 65 v) 20 65 true).run Tryz.prog W = .ok (.tuple #[v, .bool true]) W := by kernel_rfl
theorem Ev_assert65 {e : Env} {H : Hp} {R : Own} {dst : Option Tmp} {ty : TypeId} {pos : String} {after : Array Edge} {g : Option (Nat × Bool)} {x : Operand} {v : Value} (hx : e.eval x = some (.iface 65 v)) :
    Ev Tryz.prog ⟨dst, .typeAssert x 20 65 true, ty, pos, after, g⟩ e H R (.tuple [v, .bool true].toArray) := fun a w he _ _ => by
  simp only [execOp, he.eval hx, Sem.run_bind, assert65, Result.andThen_ok, Sem.run_pure]
end Go.Proofs.YtnoadopmeoohmaaGreatDoor
/-
  Parse's deferred function where the parser has failed; Parse where it gives an error.
-/
namespace Go.Proofs.YtnoadopmeoohmaaGreatDoor
open Go
set_option linter.unusedVariables false
set_option linter.unusedSimpArgs false
/-- the empty node's cells -/
abbrev zN : List Value := [.int .i64 0, .int .i64 0, sv [], .slice none 0 0]
/-- what each quiet operation of the last region leaves, and where -/
def p1slot (b4 : Nat) (e p : Int) : Nat → Option (Nat × Value)
  | 0 => some (17, .agg [.int .i64 0, .int .i64 0, sv [], .slice none 0 0].toArray)
  | 1 => some (18, .pointer (some ⟨b4, 1, none⟩))
  | 2 => some (19, .int .i64 p)
  | 3 => some (20, .pointer (some ⟨b4, 0, none⟩))
  | 4 => some (21, .int .i64 e)
  | _ => none
theorem p1slot_lt {b4 : Nat} {e p : Int} {i d : Nat} {v : Value} (h : p1slot b4 e p i = some (d, v)) : d = 17 + i ∧ i < 5 := by
  match i, h with
  | 0, h | 1, h | 2, h | 3, h | 4, h => simp [p1slot] at h; omega
  | i + 5, h => simp [p1slot] at h
def p1env (b0 b1 b2 b4 : Nat) : Env := [(0, .pointer (some ⟨b0, 0, none⟩)), (1, .pointer (some ⟨b1, 0, none⟩)), (2, .pointer (some ⟨b2, 0, none⟩)), (4, .pointer (some ⟨b4, 0, none⟩))]
theorem p1env_lt {b0 b1 b2 b4 t : Nat} {v : Value} (h : (p1env b0 b1 b2 b4).find t = some v) : t < 17 := by
  match t, h with
  | 0, _ | 1, _ | 2, _ | 3, _ | 4, _ => omega
  | t + 5, h =>
    exfalso
    have : (p1env b0 b1 b2 b4).find (t + 5) = none := rfl
    rw [this] at h
    cases h
def p1J (H : Hp) (b0 b1 b2 b4 : Nat) (er p : Int) (listed : Array Bool) (s : Sta) : Prop :=
  ∃ (e : Env) (c0 : List Value) (v1 v2 : Value), s = ⟨22, e, H, [.box b4 [.int .i64 er, .int .i64 p], .box b0 c0, .box b1 [v1], .box b2 [v2]], [], []⟩ ∧ c0.length = 4 ∧
    (∀ t v, (p1env b0 b1 b2 b4).find t = some v → e.find t = some v) ∧ (∀ i d v, p1slot b4 er p i = some (d, v) → listed.getD i false = true → e.find d = some v) ∧ (listed.getD 5 false = true → c0 = zN) ∧ (listed.getD 7 false = true → v2 = .int .i64 er)
theorem p1J_quiet {H : Hp} {b0 b1 b2 b4 : Nat} {er p : Int} {listed : Array Bool} {e : Env} {c0 : List Value} {v1 v2 v : Value} {i d : Nat} (hc : c0.length = 4) (he : ∀ t v, (p1env b0 b1 b2 b4).find t = some v → e.find t = some v)
    (hs : ∀ i d v, p1slot b4 er p i = some (d, v) → listed.getD i false = true → e.find d = some v) (h5 : listed.getD 5 false = true → c0 = zN) (h7 : listed.getD 7 false = true → v2 = .int .i64 er) (hi : p1slot b4 er p i = some (d, v)) :
    p1J H b0 b1 b2 b4 er p (listed.setIfInBounds i true) ⟨22, (d, v) :: e, H, [.box b4 [.int .i64 er, .int .i64 p], .box b0 c0, .box b1 [v1], .box b2 [v2]], [], []⟩ := by
  have h1 := p1slot_lt hi
  refine ⟨_, c0, v1, v2, rfl, hc, fun t u ht => ?_, fun j d' u hj hl => ?_, fun h => ?_, fun h => ?_⟩
  · have h2 := p1env_lt ht
    exact find_cons (by cases hb : Nat.beq d t with | false => rfl | true => have := Nat.eq_of_beq_eq_true hb; omega) (he t u ht)
  · by_cases hji : j = i
    · subst hji
      rw [hi] at hj
      cases hj
      exact find_head
    · have h3 := p1slot_lt hj
      rw [getD_set_ne false (Ne.symm hji)] at hl
      exact find_cons (by cases hb : Nat.beq d d' with | false => rfl | true => have := Nat.eq_of_beq_eq_true hb; omega) (hs j d' u hj hl)
  · rw [getD_set_ne false (by omega)] at h
    exact h5 h
  · rw [getD_set_ne false (by omega)] at h
    exact h7 h
theorem Shift.at {c : Ctx} {K : SP} {s : Sta} {a : Act} {w : World} (h : Shift c K s) (hs : s.ok c a w) : ∃ s', s'.ok c a w ∧ K s' := h a w hs
/-- an operation waits, where it must, only for those ahead of it -/
def ordB : List Oper → Nat → Bool
  | [], _ => true
  | o :: r, i => (o.after.toList.all fun e => !Region.binds .any e || Nat.blt e.on i) && ordB r (i + 1)
theorem ordB_at : ∀ {l : List Oper} {k i : Nat} {o : Oper}, ordB l k = true → l[i]? = some o → ∀ e ∈ o.after, Region.binds .any e = true → e.on < k + i
  | [], _, _, _, _, h => by simp at h
  | x :: r, k, 0, o, hc, h => fun e he hb => by
    simp only [List.getElem?_cons_zero] at h
    obtain rfl := Option.some.inj h
    simp only [ordB, Bool.and_eq_true] at hc
    have h9 := List.all_eq_true.1 hc.1 e (by simpa using he)
    rw [hb] at h9
    have h8 : e.on < k := by simpa [Nat.blt_eq] using h9
    omega
  | x :: r, k, i + 1, o, hc, h => fun e he hb => by
    simp only [ordB, Bool.and_eq_true] at hc
    have := ordB_at (i := i) hc.2 (by simpa using h) e he hb
    omega
theorem getD_rep {n i : Nat} : (Array.replicate n false).getD i false = false := by
  simp only [Array.getD_eq_getD_getElem?, Array.getElem?_replicate]
  split <;> rfl
theorem wpIn_of_wpA {F : Fence} {P : Program} (c : Ctx) {code : Code} {Q : Exit → Act → World → Prop} {a : Act} {w : World} (K R : SP) (s : Sta) (hok : s.ok c a w) (h : wpA F P c code K [] R s) (hq : ∀ e a w, contQ c.pn c K [] R e a w → Q e a w) : code.wpIn F 0 P Q a w := wpIn_mono (h a w hok) hq
attribute [local irreducible] wpA opsA drJ drQ drE Ef Ev Shift Fn
set_option maxRecDepth 100000 in
set_option maxHeartbeats 4000000 in
theorem Parse1_panic {H : Hp} {b0 b1 b2 : Nat} {c0 : List Value} {x1 x2 : Value} {er : Int} {p : Nat} (hc0 : c0.length = 4) :
    DFnP Tryz.prog 39 [.pointer (some ⟨b0, 0, none⟩), .pointer (some ⟨b1, 0, none⟩), .pointer (some ⟨b2, 0, none⟩)] H [.box b0 c0, .box b1 [x1], .box b2 [x2]] (failC er p)
      fun H' I' => ∃ v1, I' = [.box b0 zN, .box b1 [v1], .box b2 [.int .i64 er]] := by
  intro w hw
  obtain ⟨Rq, hRq⟩ : ∃ Rq : Ending → FrameMode → World → Prop, Rq = fun e u' w' => settle u' = .returning ∧ ∃ v H' I', e = .returned v ∧ Holds ⟨w, H, Own.blocks [.box b0 c0, .box b1 [x1], .box b2 [x2]], noPn⟩ H' I' w' ∧ ∃ v1, I' = [.box b0 zN, .box b1 [v1], .box b2 [.int .i64 er]] := ⟨_, rfl⟩
  rw [← hRq]
  refine (callsDIn_of_wpSIn (F := Fence.wide) (n := 0) (P := Tryz.prog) (u := .panicking (failC er p)) (w := w) (R := Rq) Tryz.func39 rfl trivial fun c₀ cs hu => ?_)
  apply wpSIn_seq
  apply wpSIn_region
  simp [wpOpsSIn, go_sem, recoverD, hu, failC, Tryz.ntmps39, Exit.thenS]
  apply wpSIn_seq
  apply wpSIn_region
  simp [wpOpsSIn, go_sem, hu, Exit.thenS]
  refine wpSIn_cond (t := true) (by simp [Act.eval, Array.replicate]) ?_
  simp only [if_true]
  refine wpSIn_of_wpIn rfl ?_
  refine wpIn_of_wpA ⟨w, H, Own.blocks [.box b0 c0, .box b1 [x1], .box b2 [x2]], noPn⟩ (Shift ⟨w, H, Own.blocks [.box b0 c0, .box b1 [x1], .box b2 [x2]], noPn⟩ (EndOf ⟨w, H, Own.blocks [.box b0 c0, .box b1 [x1], .box b2 [x2]], noPn⟩ Tryz.prog Tryz.f39 fun _ _ I' => ∃ v1, I' = [.box b0 zN, .box b1 [v1], .box b2 [.int .i64 er]])) (fun _ => False) ⟨22, [(3, .iface 65 (.agg [.int .i64 er, .int .i64 (p : Int)].toArray)), (0, .pointer (some ⟨b0, 0, none⟩)), (1, .pointer (some ⟨b1, 0, none⟩)), (2, .pointer (some ⟨b2, 0, none⟩))], H, [.box b0 c0, .box b1 [x1], .box b2 [x2]], [], []⟩ ⟨rfl, by simp, EnvOk.cons (EnvOk.cons (EnvOk.cons (EnvOk.cons EnvOk.nil (by simp)) (by simp)) (by simp)) (by simp), by simpa using hw⟩ ?_ ?_
  · generalize (⟨w, H, Own.blocks [.box b0 c0, .box b1 [x1], .box b2 [x2]], noPn⟩ : Ctx) = c
    repeat' (first | (refine O_ev WideF.wide rfl (Ev_assert65 rfl) rfl rfl ?_) | (refine O_ef rfl (Ef_alloc WideF.wide rfl ?_); intro b4) | refine O_nil ?_ | refine A_seq ?_ | refine A_region ?_ | refine A_skip ?_ | (show opsA _ _ _ _ _ _ _; first | refine O_ev WideF.wide rfl (Ev_pure rfl) rfl rfl ?_ | (show opsA _ _ _ _ (⟨_, .unOp _ _ _, _, _, _, _⟩ :: _) _ _; refine O_ev WideF.wide rfl (Ev_notb rfl) rfl rfl ?_) | (show opsA _ _ _ _ (⟨_, .store _ _ _, _, _, _, _⟩ :: _) _ _; refine O_ef rfl (Ef_storew WideF.wide rfl rfl rfl rfl rfl ?_))) | (show wpA _ _ _ (.cond _ _ _) _ _ _ _; refine A_iffalse rfl ?_))
    refine A_sub (s' := ⟨22, p1env b0 b1 b2 b4, H, [.box b4 [.int .i64 er, .int .i64 (p : Int)], .box b0 c0, .box b1 [x1], .box b2 [x2]], [], []⟩) ⟨rfl, rfl, rfl, ⟨rfl, rfl, rfl, rfl, trivial⟩, Own.subi [0, 1, 2, 3] (by decide) rfl rfl⟩ ?_
    refine A_drawJ WideF.wide (p1J H b0 b1 b2 b4 er p) ?_ ?_ ?_ ?_
    · intro i o ho e he hb
      rw [opget_eq] at ho
      have := ordB_at (k := 0) rfl ho e he hb
      omega
    · exact ⟨_, c0, x1, x2, rfl, hc0, fun _ _ h => h, fun i d v _ h => (by rw [getD_rep] at h; cases h), fun h => (by rw [getD_rep] at h; cases h), fun h => (by rw [getD_rep] at h; cases h)⟩
    · rintro listed s i o ho hl hall ⟨e, c0', v1, v2, rfl, hc, he, hs, h5, h7⟩
      match i, ho with
      | 0, ho =>
        obtain rfl := Option.some.inj ho
        exact ⟨rfl, Ef_ev WideF.wide (Ev_build (vs := []) trivial rfl) rfl rfl (p1J_quiet (i := 0) hc he hs h5 h7 rfl)⟩
      | 1, ho =>
        obtain rfl := Option.some.inj ho
        exact ⟨rfl, Ef_ev WideF.wide (Ev_fieldAddr (he 4 _ rfl) rfl rfl) rfl rfl (p1J_quiet (i := 1) hc he hs h5 h7 rfl)⟩
      | 2, ho =>
        obtain rfl := Option.some.inj ho
        exact ⟨rfl, Ef_ev WideF.wide (Ev_loadB1 (i := 0) (hs 1 18 _ rfl (hall ⟨1, .data⟩ (by simp) rfl)) rfl rfl) rfl rfl (p1J_quiet (i := 2) hc he hs h5 h7 rfl)⟩
      | 3, ho =>
        obtain rfl := Option.some.inj ho
        exact ⟨rfl, Ef_ev WideF.wide (Ev_fieldAddr (he 4 _ rfl) rfl rfl) rfl rfl (p1J_quiet (i := 3) hc he hs h5 h7 rfl)⟩
      | 4, ho =>
        obtain rfl := Option.some.inj ho
        exact ⟨rfl, Ef_ev WideF.wide (Ev_loadB1 (i := 0) (hs 3 20 _ rfl (hall ⟨3, .data⟩ (by simp) rfl)) rfl rfl) rfl rfl (p1J_quiet (i := 4) hc he hs h5 h7 rfl)⟩
      | 5, ho =>
        obtain rfl := Option.some.inj ho
        refine ⟨rfl, Ef_mapK (K' := fun s' => s' = ⟨22, e, H, [.box b0 [.int .i64 0, .int .i64 0, sv [], .slice none 0 0], .box b4 [.int .i64 er, .int .i64 (p : Int)], .box b1 [v1], .box b2 [v2]], [], []⟩) (Ef_f1 (Ef_storew WideF.wide (he 0 _ rfl) (hs 0 17 _ rfl (hall ⟨0, .data⟩ (by simp) rfl)) rfl rfl (by simp [hc]) rfl)) ?_⟩
        rintro s a w hs' rfl
        refine ⟨⟨22, e, H, [.box b4 [.int .i64 er, .int .i64 (p : Int)], .box b0 [.int .i64 0, .int .i64 0, sv [], .slice none 0 0], .box b1 [v1], .box b2 [v2]], [], []⟩, ⟨hs'.defers, hs'.size, hs'.env, own_perm (List.Perm.swap _ _ _) hs'.holds⟩, e, _, _, _, rfl, ?_, he, fun j d u hj hlj => hs j d u hj (by have := p1slot_lt hj; rw [getD_set_ne false (by omega)] at hlj; exact hlj), ?_, ?_⟩
        · rfl
        · intro _; rfl
        · intro h; rw [getD_set_ne false (by omega)] at h; exact h7 h
      | 6, ho =>
        obtain rfl := Option.some.inj ho
        refine ⟨rfl, Ef_mapK (K' := fun s' => s' = ⟨22, e, H, [.box b1 [.int .i64 (p : Int)], .box b4 [.int .i64 er, .int .i64 (p : Int)], .box b0 c0', .box b2 [v2]], [], []⟩) (Ef_f2 (Ef_store1 WideF.wide (he 1 _ rfl) (hs 2 19 _ rfl (hall ⟨2, .data⟩ (by simp) rfl)) rfl rfl rfl rfl)) ?_⟩
        rintro s a w hs' rfl
        refine ⟨⟨22, e, H, [.box b4 [.int .i64 er, .int .i64 (p : Int)], .box b0 c0', .box b1 [.int .i64 (p : Int)], .box b2 [v2]], [], []⟩, ⟨hs'.defers, hs'.size, hs'.env, own_perm ((perm_mid [.box b4 [.int .i64 er, .int .i64 (p : Int)], .box b0 c0'] (.box b1 [.int .i64 (p : Int)]) [.box b2 [v2]]).symm) hs'.holds⟩, e, _, _, _, rfl, ?_, he, fun j d u hj hlj => hs j d u hj (by have := p1slot_lt hj; rw [getD_set_ne false (by omega)] at hlj; exact hlj), ?_, ?_⟩
        · exact hc
        · intro h; rw [getD_set_ne false (by omega)] at h; exact h5 h
        · intro h; rw [getD_set_ne false (by omega)] at h; exact h7 h
      | 7, ho =>
        obtain rfl := Option.some.inj ho
        refine ⟨rfl, Ef_mapK (K' := fun s' => s' = ⟨22, e, H, [.box b2 [.int .i64 er], .box b4 [.int .i64 er, .int .i64 (p : Int)], .box b0 c0', .box b1 [v1]], [], []⟩) (Ef_f3 (Ef_store1 WideF.wide (he 2 _ rfl) (hs 4 21 _ rfl (hall ⟨4, .data⟩ (by simp) rfl)) rfl rfl rfl rfl)) ?_⟩
        rintro s a w hs' rfl
        refine ⟨⟨22, e, H, [.box b4 [.int .i64 er, .int .i64 (p : Int)], .box b0 c0', .box b1 [v1], .box b2 [.int .i64 er]], [], []⟩, ⟨hs'.defers, hs'.size, hs'.env, own_perm ((perm_mid [.box b4 [.int .i64 er, .int .i64 (p : Int)], .box b0 c0', .box b1 [v1]] (.box b2 [.int .i64 er]) []).symm) hs'.holds⟩, e, _, _, _, rfl, ?_, he, fun j d u hj hlj => hs j d u hj (by have := p1slot_lt hj; rw [getD_set_ne false (by omega)] at hlj; exact hlj), ?_, ?_⟩
        · exact hc
        · intro h; rw [getD_set_ne false (by omega)] at h; exact h5 h
        · intro _; rfl
      | i + 8, ho => cases ho
    · rintro listed s hall ⟨e, c0', v1, v2, rfl, hc, he, hs, h5, h7⟩
      obtain rfl := h7 (hall 7 (by decide))
      obtain rfl := h5 (hall 5 (by decide))
      exact End_s (Ret0 rfl) (Shift.to (s' := ⟨_, [], _, [.box b0 zN, .box b1 [v1], .box b2 [.int .i64 er]], [], []⟩) ⟨rfl, v1, rfl⟩ ⟨rfl, rfl, rfl, trivial, Own.subi [1, 2, 3] (by decide) rfl rfl⟩)
  · rintro e a' w' q
    cases e with
    | normal =>
      obtain ⟨s, hs, hsh⟩ := q
      obtain ⟨s', hs', hend⟩ := hsh.at hs
      obtain ⟨v, hr, v', H', I', he, hh, hp⟩ := leaves_end hs' hend
      obtain ⟨_, _, hd, _⟩ := hend
      exact ⟨hs'.defers.trans hd, _, rfl, v, hr, by rw [hRq]; exact ⟨rfl, v, H', I', rfl, hh, hp⟩⟩
    | ret => obtain ⟨s, hs, hx⟩ := q; exact hx.elim
    | exit id => obtain ⟨s, hs, K', hx, _⟩ := q; simp [xfind] at hx
    | goto l => exact q
    | panic ch => obtain ⟨s, hs, hx⟩ := q; exact hx.elim
    | outgrown => exact q.elim
end Go.Proofs.YtnoadopmeoohmaaGreatDoor
/-
  Parse where it gives an error.
-/
namespace Go.Proofs.YtnoadopmeoohmaaGreatDoor
open Go
set_option linter.unusedVariables false
set_option linter.unusedSimpArgs false
/-- what Parse gives with an error -/
def PErr (v : Value) (_ : Hp) (I : Own) : Prop := (∃ (v1 : Value) (e : Int), e ≠ 0 ∧ v = .tuple [.agg zN.toArray, v1, .int .i64 e].toArray) ∧ I = []
attribute [local irreducible] wpA opsA drJ drQ drE Ef Ev Shift Fn
set_option maxRecDepth 100000 in
set_option maxHeartbeats 4000000 in
theorem Parse_long {H : Hp} {s : List UInt8} (hl : 1024 < s.length) (hl2 : s.length ≤ 1000000) :
    Fn Tryz.prog 16 [sv s] H [] PErr := by
  refine Fn_ofDP _ _ Tryz.func16 rfl Tryz.ntmps16 rfl fun c c0 hc => ?_
  repeat' (first | refine O_nil ?_ | refine A_seq ?_ | refine A_region ?_ | refine A_ret ?_ | (show opsA _ _ _ _ _ _ _; first | refine O_ev WideF.wide rfl (Ev_pure rfl) rfl rfl ?_ | (show opsA _ _ _ _ (⟨_, .call _, _, _, _, _⟩ :: _) _ _; refine O_ev WideF.wide rfl (Ev_slen rfl) rfl rfl ?_) | (show opsA _ _ _ _ (⟨_, .build _ _, _, _, _, _⟩ :: _) _ _; refine O_ev WideF.wide rfl (Ev_build (vs := []) trivial rfl) rfl rfl ?_) | (show opsA _ _ _ _ (⟨_, .alloc _, _, _, _, _⟩ :: _) _ _; (refine O_ef rfl (Ef_alloc WideF.wide rfl ?_); intro b)) | (show opsA _ _ _ _ (⟨_, .store _ _ _, _, _, _, _⟩ :: _) _ _; first | refine O_f2 (O_ef rfl (Ef_storew WideF.wide rfl rfl rfl rfl rfl ?_)) | refine O_f2 (O_ef rfl (Ef_store1 WideF.wide rfl rfl rfl rfl rfl ?_)))) | (show wpA _ _ _ (.cond _ _ _) _ _ _ _; (refine A_if rfl (fun h => ?_) (fun h => ?_) <;> try (exfalso; omega))))
  all_goals first
    | (exfalso; omega)
    | (exfalso; contradiction)
    | (exfalso; exact absurd trivial (by assumption))
    | (exfalso; exact absurd rfl (by assumption))
    | skip
  refine EndD_nil rfl ?_
  first
    | (skip; exact Shift.pure ⟨_, RetC3 (i := 0) rfl rfl rfl rfl ⟨_, 1, rfl, rfl, ⟨inferInstance⟩⟩ ⟨_, 2, rfl, rfl, ⟨inferInstance⟩⟩, rfl, Shift.to (s' := ⟨_, [], _, [], [], []⟩) ⟨rfl, ⟨_, _, by decide, rfl⟩, rfl⟩ ⟨rfl, rfl, rfl, trivial, Own.sub_nil _⟩⟩)
    | (skip; exact Shift.pure ⟨_, RetC3 (i := 0) rfl rfl rfl rfl ⟨_, 2, rfl, rfl, ⟨inferInstance⟩⟩ ⟨_, 1, rfl, rfl, ⟨inferInstance⟩⟩, rfl, Shift.to (s' := ⟨_, [], _, [], [], []⟩) ⟨rfl, ⟨_, _, by decide, rfl⟩, rfl⟩ ⟨rfl, rfl, rfl, trivial, Own.sub_nil _⟩⟩)
    | (skip; exact Shift.pure ⟨_, RetC3 (i := 1) rfl rfl rfl rfl ⟨_, 0, rfl, rfl, ⟨inferInstance⟩⟩ ⟨_, 2, rfl, rfl, ⟨inferInstance⟩⟩, rfl, Shift.to (s' := ⟨_, [], _, [], [], []⟩) ⟨rfl, ⟨_, _, by decide, rfl⟩, rfl⟩ ⟨rfl, rfl, rfl, trivial, Own.sub_nil _⟩⟩)
    | (skip; exact Shift.pure ⟨_, RetC3 (i := 1) rfl rfl rfl rfl ⟨_, 2, rfl, rfl, ⟨inferInstance⟩⟩ ⟨_, 0, rfl, rfl, ⟨inferInstance⟩⟩, rfl, Shift.to (s' := ⟨_, [], _, [], [], []⟩) ⟨rfl, ⟨_, _, by decide, rfl⟩, rfl⟩ ⟨rfl, rfl, rfl, trivial, Own.sub_nil _⟩⟩)
    | (skip; exact Shift.pure ⟨_, RetC3 (i := 2) rfl rfl rfl rfl ⟨_, 0, rfl, rfl, ⟨inferInstance⟩⟩ ⟨_, 1, rfl, rfl, ⟨inferInstance⟩⟩, rfl, Shift.to (s' := ⟨_, [], _, [], [], []⟩) ⟨rfl, ⟨_, _, by decide, rfl⟩, rfl⟩ ⟨rfl, rfl, rfl, trivial, Own.sub_nil _⟩⟩)
    | (skip; exact Shift.pure ⟨_, RetC3 (i := 2) rfl rfl rfl rfl ⟨_, 1, rfl, rfl, ⟨inferInstance⟩⟩ ⟨_, 0, rfl, rfl, ⟨inferInstance⟩⟩, rfl, Shift.to (s' := ⟨_, [], _, [], [], []⟩) ⟨rfl, ⟨_, _, by decide, rfl⟩, rfl⟩ ⟨rfl, rfl, rfl, trivial, Own.sub_nil _⟩⟩)
    | trace_state
set_option maxRecDepth 100000 in
set_option maxHeartbeats 4000000 in
theorem Parse_inval {H : Hp} {s : List UInt8} (hl : s.length ≤ 1024) (hv : ¬ valid s) :
    Fn Tryz.prog 16 [sv s] H [] PErr := by
  have kF := fun Hx => First_fn Hx s (by omega)
  refine Fn_ofDP _ _ Tryz.func16 rfl Tryz.ntmps16 rfl fun c c0 hc => ?_
  repeat' (first | (refine O_ef rfl (Ef_call (I := []) WideF.wide (kF _) ⟨rfl, trivial⟩ rfl ?_); rintro v1 H1 I1 hle1 ⟨⟨z, rfl, hz1, hz2, hz3⟩, rfl, rfl⟩; have hz4 : ¬ z < 0 := fun h => hv (hz3.1 h)) | refine O_nil ?_ | refine A_seq ?_ | refine A_region ?_ | refine A_skip ?_ | refine A_ret ?_ | (show opsA _ _ _ _ _ _ _; first | refine O_ev WideF.wide rfl (Ev_pure rfl) rfl rfl ?_ | (show opsA _ _ _ _ (⟨_, .call _, _, _, _, _⟩ :: _) _ _; refine O_ev WideF.wide rfl (Ev_slen rfl) rfl rfl ?_) | (show opsA _ _ _ _ (⟨_, .build _ _, _, _, _, _⟩ :: _) _ _; refine O_ev WideF.wide rfl (Ev_build (vs := []) trivial rfl) rfl rfl ?_) | (show opsA _ _ _ _ (⟨_, .alloc _, _, _, _, _⟩ :: _) _ _; (refine O_ef rfl (Ef_alloc WideF.wide rfl ?_); intro b)) | (show opsA _ _ _ _ (⟨_, .store _ _ _, _, _, _, _⟩ :: _) _ _; first | refine O_f2 (O_ef rfl (Ef_storew WideF.wide rfl rfl rfl rfl rfl ?_)) | refine O_f2 (O_ef rfl (Ef_store1 WideF.wide rfl rfl rfl rfl rfl ?_)))) | (show wpA _ _ _ (.cond _ _ _) _ _ _ _; (refine A_if rfl (fun h => ?_) (fun h => ?_) <;> try (exfalso; omega))))
  all_goals first
    | (exfalso; omega)
    | (exfalso; contradiction)
    | (exfalso; exact absurd trivial (by assumption))
    | (exfalso; exact absurd rfl (by assumption))
    | skip
  refine EndD_nil rfl ?_
  first
    | (skip; exact Shift.pure ⟨_, RetC3 (i := 0) rfl rfl rfl rfl ⟨_, 1, rfl, rfl, ⟨inferInstance⟩⟩ ⟨_, 2, rfl, rfl, ⟨inferInstance⟩⟩, rfl, Shift.to (s' := ⟨_, [], _, [], [], []⟩) ⟨rfl, ⟨_, _, by decide, rfl⟩, rfl⟩ ⟨rfl, rfl, rfl, trivial, Own.sub_nil _⟩⟩)
    | (skip; exact Shift.pure ⟨_, RetC3 (i := 0) rfl rfl rfl rfl ⟨_, 2, rfl, rfl, ⟨inferInstance⟩⟩ ⟨_, 1, rfl, rfl, ⟨inferInstance⟩⟩, rfl, Shift.to (s' := ⟨_, [], _, [], [], []⟩) ⟨rfl, ⟨_, _, by decide, rfl⟩, rfl⟩ ⟨rfl, rfl, rfl, trivial, Own.sub_nil _⟩⟩)
    | (skip; exact Shift.pure ⟨_, RetC3 (i := 1) rfl rfl rfl rfl ⟨_, 0, rfl, rfl, ⟨inferInstance⟩⟩ ⟨_, 2, rfl, rfl, ⟨inferInstance⟩⟩, rfl, Shift.to (s' := ⟨_, [], _, [], [], []⟩) ⟨rfl, ⟨_, _, by decide, rfl⟩, rfl⟩ ⟨rfl, rfl, rfl, trivial, Own.sub_nil _⟩⟩)
    | (skip; exact Shift.pure ⟨_, RetC3 (i := 1) rfl rfl rfl rfl ⟨_, 2, rfl, rfl, ⟨inferInstance⟩⟩ ⟨_, 0, rfl, rfl, ⟨inferInstance⟩⟩, rfl, Shift.to (s' := ⟨_, [], _, [], [], []⟩) ⟨rfl, ⟨_, _, by decide, rfl⟩, rfl⟩ ⟨rfl, rfl, rfl, trivial, Own.sub_nil _⟩⟩)
    | (skip; exact Shift.pure ⟨_, RetC3 (i := 2) rfl rfl rfl rfl ⟨_, 0, rfl, rfl, ⟨inferInstance⟩⟩ ⟨_, 1, rfl, rfl, ⟨inferInstance⟩⟩, rfl, Shift.to (s' := ⟨_, [], _, [], [], []⟩) ⟨rfl, ⟨_, _, by decide, rfl⟩, rfl⟩ ⟨rfl, rfl, rfl, trivial, Own.sub_nil _⟩⟩)
    | (skip; exact Shift.pure ⟨_, RetC3 (i := 2) rfl rfl rfl rfl ⟨_, 1, rfl, rfl, ⟨inferInstance⟩⟩ ⟨_, 0, rfl, rfl, ⟨inferInstance⟩⟩, rfl, Shift.to (s' := ⟨_, [], _, [], [], []⟩) ⟨rfl, ⟨_, _, by decide, rfl⟩, rfl⟩ ⟨rfl, rfl, rfl, trivial, Own.sub_nil _⟩⟩)
    | trace_state
set_option maxRecDepth 100000 in
set_option maxHeartbeats 4000000 in
theorem Parse_bad1 {H : Hp} {s : List UInt8} {k : Nat} {er : Int} {pp : Nat} (hv : valid s) (hl : s.length ≤ 1024) (hV : VarsH H) (hk : k ≤ 1000000) (hp : prs s k 1 (scn s 0) = .err er pp) :
    Fn Tryz.prog 16 [sv s] H [] PErr := by
  have kC := fun Hx => Clone_fn (H := Hx) (l := s) (by omega)
  have kF := fun Hx => First_fn Hx s (by omega)
  have t0 : TokOk s ⟨[], [], 0⟩ := ⟨by simp, fun h => by cases h⟩
  have kN := fun Hx b => next_fn (H := Hx) (b := b) (s := s) (t := ⟨[], [], 0⟩) (by omega) t0
  have kO := fun Hx b (hx : HLe H Hx) (ht : TokOk s (nxt s ⟨[], [], 0⟩)) => (parser_bad (s := s) (by omega) k hk).or Hx (nxt s ⟨[], [], 0⟩) er pp b (hV.mono hx) ht hp
  refine Fn_ofDP _ _ Tryz.func16 rfl Tryz.ntmps16 rfl fun c c0 hc => ?_
  repeat' (first | (refine O_ef rfl (Ef_call (I := []) WideF.wide (kF _) ⟨rfl, trivial⟩ rfl ?_); rintro v1 H1 I1 hle1 ⟨⟨z, rfl, hz1, hz2, hz3⟩, rfl, rfl⟩; have hz4 := hz3.2 hv) | (refine O_ev WideF.wide rfl (Ev_makeFunc (xs := []) (ys := [_, _, _]) (vs := []) (us := [_, _, _]) rfl rfl) rfl rfl ?_) | (refine O_ef rfl (Ef_deferV (first := []) (cap := [_, _, _]) (args := []) WideF.wide rfl rfl trivial ?_)) | (refine O_ef rfl (Ef_callp WideF.wide (kC _) ⟨rfl, trivial⟩ rfl ?_)) | (refine O_ef rfl (Ef_boxa WideF.wide (cs := pcs s ⟨[], [], 0⟩) rfl rfl ?_); intro bp) | (refine O_ef rfl (Ef_call (I := [_]) WideF.wide (kN _ _) ⟨rfl, trivial⟩ rfl ?_); rintro v2 H2 I2 hle2 ⟨rfl, rfl⟩) | (show wpA _ _ _ (.region 9 _ _) _ _ _ _; refine A_fail 1 ?_; simp only [List.take_succ_cons, List.take_zero, List.drop_succ_cons, List.drop_zero]) | refine O_nil ?_ | refine A_seq ?_ | refine A_region ?_ | refine A_skip ?_ | (show opsA _ _ _ _ _ _ _; first | refine O_ev WideF.wide rfl (Ev_pure rfl) rfl rfl ?_ | (show opsA _ _ _ _ (⟨_, .call _, _, _, _, _⟩ :: _) _ _; refine O_ev WideF.wide rfl (Ev_slen rfl) rfl rfl ?_) | (show opsA _ _ _ _ (⟨_, .build _ _, _, _, _, _⟩ :: _) _ _; refine O_ev WideF.wide rfl (Ev_build (vs := [(_, _)]) ⟨rfl, rfl, trivial⟩ rfl) rfl rfl ?_) | (show opsA _ _ _ _ (⟨_, .alloc _, _, _, _, _⟩ :: _) _ _; (refine O_ef rfl (Ef_alloc WideF.wide rfl ?_); intro b))) | (show wpA _ _ _ (.cond _ _ _) _ _ _ _; (refine A_if rfl (fun h => ?_) (fun h => ?_) <;> try (exfalso; omega))))
  all_goals first
    | (exfalso; omega)
    | (exfalso; contradiction)
    | (exfalso; exact absurd trivial (by assumption))
    | (exfalso; exact absurd rfl (by assumption))
    | skip
  exact OX_efx rfl (EfX_pick [0, 3, 2, 1] (by decide) rfl rfl (EfX_call (I := [_]) WideF.wide (kO _ _ (hle1.trans hle2) t0.nxt) ⟨rfl, trivial⟩ fun ch H' hle hp => by
    obtain ⟨e, p, he, rfl⟩ := hp
    exact hc _ _ ⟨39, [_, _, _], [], [_, _, _], _, _, ⟨inferInstance⟩, rfl, rfl, Parse1_panic rfl, fun H2 I2 hle2 h => by
      obtain ⟨v1, rfl⟩ := h
      exact ⟨_, RetC3 (i := 0) rfl rfl rfl rfl ⟨_, 1, rfl, rfl, ⟨inferInstance⟩⟩ ⟨_, 2, rfl, rfl, ⟨inferInstance⟩⟩, rfl, Shift.to (s' := ⟨_, [], _, [], [], []⟩) ⟨rfl, ⟨_, _, he, rfl⟩, rfl⟩ ⟨rfl, rfl, rfl, trivial, Own.sub_nil _⟩⟩⟩))
set_option maxRecDepth 100000 in
set_option maxHeartbeats 4000000 in
theorem Parse_bad2 {H : Hp} {s : List UInt8} {k : Nat} {nd : Nd} {t' : Tok} (hv : valid s) (hl : s.length ≤ 1024) (hV : VarsH H) (hk : k ≤ 1000000) (hp : prs s k 1 (scn s 0) = .ok nd t') (hd : ¬ t'.kind = [46]) :
    Fn Tryz.prog 16 [sv s] H [] PErr := by
  have kC := fun Hx => Clone_fn (H := Hx) (l := s) (by omega)
  have kF := fun Hx => First_fn Hx s (by omega)
  have t0 : TokOk s ⟨[], [], 0⟩ := ⟨by simp, fun h => by cases h⟩
  have kN := fun Hx b => next_fn (H := Hx) (b := b) (s := s) (t := ⟨[], [], 0⟩) (by omega) t0
  have kO := fun Hx b (hx : HLe H Hx) (ht : TokOk s (nxt s ⟨[], [], 0⟩)) => (parser_all (s := s) (by omega) k hk).or Hx (nxt s ⟨[], [], 0⟩) nd t' b (hV.mono hx) ht hp
  refine Fn_ofDP _ _ Tryz.func16 rfl Tryz.ntmps16 rfl fun c c0 hc => ?_
  repeat' (first | (refine O_ef rfl (Ef_call (I := []) WideF.wide (kF _) ⟨rfl, trivial⟩ rfl ?_); rintro v1 H1 I1 hle1 ⟨⟨z, rfl, hz1, hz2, hz3⟩, rfl, rfl⟩; have hz4 := hz3.2 hv) | (refine O_ev WideF.wide rfl (Ev_makeFunc (xs := []) (ys := [_, _, _]) (vs := []) (us := [_, _, _]) rfl rfl) rfl rfl ?_) | (refine O_ef rfl (Ef_deferV (first := []) (cap := [_, _, _]) (args := []) WideF.wide rfl rfl trivial ?_)) | (refine O_ef rfl (Ef_callp WideF.wide (kC _) ⟨rfl, trivial⟩ rfl ?_)) | (refine O_ef rfl (Ef_boxa WideF.wide (cs := pcs s ⟨[], [], 0⟩) rfl rfl ?_); intro bp) | (refine O_ef rfl (Ef_call (I := [_]) WideF.wide (kN _ _) ⟨rfl, trivial⟩ rfl ?_); rintro v2 H2 I2 hle2 ⟨rfl, rfl⟩) | (show opsA _ _ _ _ (⟨some 26, .call _, _, _, _, _⟩ :: _) _ _; refine O_ef rfl (Ef_call (I := [_]) WideF.wide (kO _ _ (hle1.trans hle2) t0.nxt) ⟨rfl, trivial⟩ rfl ?_); rintro v3 H3 I3 hle3 ⟨⟨a, n, cp, rfl, hns⟩, rfl, htk⟩) | (show wpA _ _ _ (.region 10 _ _) _ _ _ _; refine A_fail 1 ?_; simp only [List.take_succ_cons, List.take_zero, List.drop_succ_cons, List.drop_zero]) | refine O_nil ?_ | refine A_seq ?_ | refine A_region ?_ | refine A_skip ?_ | (show opsA _ _ _ _ _ _ _; first | refine O_ev WideF.wide rfl (Ev_pure rfl) rfl rfl ?_ | (show opsA _ _ _ _ (⟨_, .call _, _, _, _, _⟩ :: _) _ _; refine O_ev WideF.wide rfl (Ev_slen rfl) rfl rfl ?_) | (show opsA _ _ _ _ (⟨_, .build _ _, _, _, _, _⟩ :: _) _ _; refine O_ev WideF.wide rfl (Ev_build (vs := [(_, _)]) ⟨rfl, rfl, trivial⟩ rfl) rfl rfl ?_) | (show opsA _ _ _ _ (⟨_, .alloc _, _, _, _, _⟩ :: _) _ _; (refine O_ef rfl (Ef_alloc WideF.wide rfl ?_); intro b)) | (show opsA _ _ _ _ (⟨_, .store _ _ _, _, _, _, _⟩ :: _) _ _; refine O_f3 (O_ef rfl (Ef_storew WideF.wide rfl rfl rfl rfl rfl ?_)))) | (show wpA _ _ _ (.cond _ _ _) _ _ _ _; (refine A_if rfl (fun h => ?_) (fun h => ?_) <;> try (exfalso; omega))))
  all_goals first
    | (exfalso; omega)
    | (exfalso; contradiction)
    | (exfalso; exact absurd trivial (by assumption))
    | (exfalso; exact absurd rfl (by assumption))
    | skip
  first
    | exact OX_efx rfl (EfX_pick [1, 0, 3, 2] (by decide) rfl rfl (EfX_call (I := [_]) WideF.wide (expect_no' hd) ⟨rfl, rfl, trivial⟩ fun ch H' hle hp => by
    obtain ⟨e, p, he, rfl⟩ := hp
    exact hc _ _ ⟨39, [_, _, _], [], [_, _, _], _, _, ⟨inferInstance⟩, rfl, rfl, Parse1_panic rfl, fun H2 I2 hle2 h => by
      obtain ⟨v1, rfl⟩ := h
      exact ⟨_, RetC3 (i := 0) rfl rfl rfl rfl ⟨_, 1, rfl, rfl, ⟨inferInstance⟩⟩ ⟨_, 2, rfl, rfl, ⟨inferInstance⟩⟩, rfl, Shift.to (s' := ⟨_, [], _, [], [], []⟩) ⟨rfl, ⟨_, _, he, rfl⟩, rfl⟩ ⟨rfl, rfl, rfl, trivial, Own.sub_nil _⟩⟩⟩))
    | exact OX_efx rfl (EfX_pick [0, 1, 2, 3] (by decide) rfl rfl (EfX_call (I := [_]) WideF.wide (expect_no' hd) ⟨rfl, rfl, trivial⟩ fun ch H' hle hp => by
    obtain ⟨e, p, he, rfl⟩ := hp
    exact hc _ _ ⟨39, [_, _, _], [], [_, _, _], _, _, ⟨inferInstance⟩, rfl, rfl, Parse1_panic rfl, fun H2 I2 hle2 h => by
      obtain ⟨v1, rfl⟩ := h
      exact ⟨_, RetC3 (i := 0) rfl rfl rfl rfl ⟨_, 1, rfl, rfl, ⟨inferInstance⟩⟩ ⟨_, 2, rfl, rfl, ⟨inferInstance⟩⟩, rfl, Shift.to (s' := ⟨_, [], _, [], [], []⟩) ⟨rfl, ⟨_, _, he, rfl⟩, rfl⟩ ⟨rfl, rfl, rfl, trivial, Own.sub_nil _⟩⟩⟩))
    | trace_state
set_option maxRecDepth 100000 in
set_option maxHeartbeats 4000000 in
theorem Parse_chk {H : Hp} {s : List UInt8} {k : Nat} {nd : Nd} {t' : Tok} (hv : valid s) (hl : s.length ≤ 1024) (hV : VarsH H) (hk : k ≤ 1000000) (hp : prs s k 1 (scn s 0) = .ok nd t') (hd : t'.kind = [46]) (hc0 : chkE nd ≠ 0) (hm : nd.mass < 34359738368) :
    Fn Tryz.prog 16 [sv s] H [] PErr := by
  have kC := fun Hx => Clone_fn (H := Hx) (l := s) (by omega)
  have kF := fun Hx => First_fn Hx s (by omega)
  have t0 : TokOk s ⟨[], [], 0⟩ := ⟨by simp, fun h => by cases h⟩
  have kN := fun Hx b => next_fn (H := Hx) (b := b) (s := s) (t := ⟨[], [], 0⟩) (by omega) t0
  have kO := fun Hx b (hx : HLe H Hx) (ht : TokOk s (nxt s ⟨[], [], 0⟩)) => (parser_all (s := s) (by omega) k hk).or Hx (nxt s ⟨[], [], 0⟩) nd t' b (hV.mono hx) ht hp
  have kE := fun Hx b (ht : TokOk s t') => expect_yes (H := Hx) (b := b) (s := s) (y := [46]) (by omega) ht hd
  have kK := fun Hx a n cp (hs : NodesS Hx a n cp nd.args) => Check_fn (H := Hx) (NodeH.of hs) hm
  refine Fn_ofDP _ _ Tryz.func16 rfl Tryz.ntmps16 rfl fun c c0 hc => ?_
  repeat' (first | (refine O_ef rfl (Ef_call (I := []) WideF.wide (kF _) ⟨rfl, trivial⟩ rfl ?_); rintro v1 H1 I1 hle1 ⟨⟨z, rfl, hz1, hz2, hz3⟩, rfl, rfl⟩; have hz4 := hz3.2 hv) | (refine O_ev WideF.wide rfl (Ev_makeFunc (xs := []) (ys := [_, _, _]) (vs := []) (us := [_, _, _]) rfl rfl) rfl rfl ?_) | (refine O_ef rfl (Ef_deferV (first := []) (cap := [_, _, _]) (args := []) WideF.wide rfl rfl trivial ?_)) | (refine O_ef rfl (Ef_callp WideF.wide (kC _) ⟨rfl, trivial⟩ rfl ?_)) | (refine O_ef rfl (Ef_boxa WideF.wide (cs := pcs s ⟨[], [], 0⟩) rfl rfl ?_); intro bp) | (refine O_ef rfl (Ef_call (I := [_]) WideF.wide (kN _ _) ⟨rfl, trivial⟩ rfl ?_); rintro v2 H2 I2 hle2 ⟨rfl, rfl⟩) | (show opsA _ _ _ _ (⟨some 26, .call _, _, _, _, _⟩ :: _) _ _; refine O_ef rfl (Ef_call (I := [_]) WideF.wide (kO _ _ (hle1.trans hle2) t0.nxt) ⟨rfl, trivial⟩ rfl ?_); rintro v3 H3 I3 hle3 ⟨⟨a, n, cp, rfl, hns⟩, rfl, htk⟩) | (show opsA _ _ _ _ (⟨some 28, .call _, _, _, _, _⟩ :: _) _ _; refine O_f1 (O_ef rfl (Ef_call (I := [_]) WideF.wide (kE _ _ htk) ⟨rfl, rfl, trivial⟩ rfl ?_)); rintro v4 H4 I4 hle4 ⟨rfl, rfl⟩) | (show opsA _ _ _ _ (⟨some 30, .call _, _, _, _, _⟩ :: _) _ _; refine O_ef rfl (Ef_call (I := []) WideF.wide (kK _ _ _ _ (hns.mono hle4)) ⟨rfl, trivial⟩ rfl ?_); rintro v5 H5 I5 hle5 ⟨rfl, rfl⟩) | refine O_nil ?_ | refine A_seq ?_ | refine A_region ?_ | refine A_skip ?_ | refine A_ret ?_ | (show opsA _ _ _ _ _ _ _; first | refine O_ev WideF.wide rfl (Ev_pure rfl) rfl rfl ?_ | (show opsA _ _ _ _ (⟨_, .load _ _, _, _, _, _⟩ :: _) _ _; refine O_ev WideF.wide rfl (Ev_loadB (i := 1) rfl rfl rfl) rfl rfl ?_) | (show opsA _ _ _ _ (⟨_, .call _, _, _, _, _⟩ :: _) _ _; refine O_ev WideF.wide rfl (Ev_slen rfl) rfl rfl ?_) | (show opsA _ _ _ _ (⟨_, .build _ _, _, _, _, _⟩ :: _) _ _; first | refine O_ev WideF.wide rfl (Ev_build (vs := [(_, _)]) ⟨rfl, rfl, trivial⟩ rfl) rfl rfl ?_ | refine O_ev WideF.wide rfl (Ev_build (vs := []) trivial rfl) rfl rfl ?_) | (show opsA _ _ _ _ (⟨_, .alloc _, _, _, _, _⟩ :: _) _ _; (refine O_ef rfl (Ef_alloc WideF.wide rfl ?_); intro b)) | (show opsA _ _ _ _ (⟨_, .store _ _ _, _, _, _, _⟩ :: _) _ _; first | refine O_f1 (O_ef rfl (Ef_storew WideF.wide rfl rfl rfl rfl rfl ?_)) | refine O_f3 (O_ef rfl (Ef_storew WideF.wide rfl rfl rfl rfl rfl ?_)) | refine O_f3 (O_ef rfl (Ef_store1 WideF.wide rfl rfl rfl rfl rfl ?_)))) | (show wpA _ _ _ (.cond _ _ _) _ _ _ _; (refine A_if rfl (fun h => ?_) (fun h => ?_) <;> try (exfalso; omega))))
  all_goals first
    | (exfalso; omega)
    | (exfalso; contradiction)
    | (exfalso; exact absurd trivial (by assumption))
    | (exfalso; exact absurd rfl (by assumption))
    | skip
  first
    | refine EndD_one (I1 := []) (cap := [_, _, _]) (dargs := []) Parse1_idle ?_
    | trace_state
  rintro H' I' hl' ⟨rfl, rfl⟩
  first
    | (skip; exact ⟨_, RetC3 (i := 0) rfl rfl rfl rfl ⟨_, 1, rfl, rfl, ⟨inferInstance⟩⟩ ⟨_, 2, rfl, rfl, ⟨inferInstance⟩⟩, rfl, Shift.to (s' := ⟨_, [], _, [], [], []⟩) ⟨rfl, ⟨_, _, hc0, rfl⟩, rfl⟩ ⟨rfl, rfl, rfl, trivial, Own.sub_nil _⟩⟩)
    | (skip; exact ⟨_, RetC3 (i := 0) rfl rfl rfl rfl ⟨_, 2, rfl, rfl, ⟨inferInstance⟩⟩ ⟨_, 1, rfl, rfl, ⟨inferInstance⟩⟩, rfl, Shift.to (s' := ⟨_, [], _, [], [], []⟩) ⟨rfl, ⟨_, _, hc0, rfl⟩, rfl⟩ ⟨rfl, rfl, rfl, trivial, Own.sub_nil _⟩⟩)
    | (skip; exact ⟨_, RetC3 (i := 1) rfl rfl rfl rfl ⟨_, 0, rfl, rfl, ⟨inferInstance⟩⟩ ⟨_, 2, rfl, rfl, ⟨inferInstance⟩⟩, rfl, Shift.to (s' := ⟨_, [], _, [], [], []⟩) ⟨rfl, ⟨_, _, hc0, rfl⟩, rfl⟩ ⟨rfl, rfl, rfl, trivial, Own.sub_nil _⟩⟩)
    | (skip; exact ⟨_, RetC3 (i := 1) rfl rfl rfl rfl ⟨_, 2, rfl, rfl, ⟨inferInstance⟩⟩ ⟨_, 0, rfl, rfl, ⟨inferInstance⟩⟩, rfl, Shift.to (s' := ⟨_, [], _, [], [], []⟩) ⟨rfl, ⟨_, _, hc0, rfl⟩, rfl⟩ ⟨rfl, rfl, rfl, trivial, Own.sub_nil _⟩⟩)
    | (skip; exact ⟨_, RetC3 (i := 2) rfl rfl rfl rfl ⟨_, 0, rfl, rfl, ⟨inferInstance⟩⟩ ⟨_, 1, rfl, rfl, ⟨inferInstance⟩⟩, rfl, Shift.to (s' := ⟨_, [], _, [], [], []⟩) ⟨rfl, ⟨_, _, hc0, rfl⟩, rfl⟩ ⟨rfl, rfl, rfl, trivial, Own.sub_nil _⟩⟩)
    | (skip; exact ⟨_, RetC3 (i := 2) rfl rfl rfl rfl ⟨_, 1, rfl, rfl, ⟨inferInstance⟩⟩ ⟨_, 0, rfl, rfl, ⟨inferInstance⟩⟩, rfl, Shift.to (s' := ⟨_, [], _, [], [], []⟩) ⟨rfl, ⟨_, _, hc0, rfl⟩, rfl⟩ ⟨rfl, rfl, rfl, trivial, Own.sub_nil _⟩⟩)
    | trace_state
end Go.Proofs.YtnoadopmeoohmaaGreatDoor
