import Derived.Test.YtnoadopmeoohmaaGreatDoorZ31
import Derived.Test.YtnoadopmeoohmaaGreatDoorZ07
/-
  The law Lazy: its plain part.
  A region that draws its order, each operation walked once: what is done tells what lies in the slots.
-/
namespace Go.Proofs.YtnoadopmeoohmaaGreatDoor
open Go
set_option linter.unusedVariables false
set_option linter.unusedSimpArgs false
section
mutual
theorem vis_mono : ∀ (x : Nd) (v lv d f : Int), 0 ≤ d → 0 ≤ f → (vis x v lv).1 = 0 → (vis x (v - d) (lv - f)).1 = 0 ∧ (vis x (v - d) (lv - f)).2 = (vis x v lv).2 - d
  | .mk op num text args, v, lv, d, f, hd, hf, h => by
    rw [vis_eq _ v lv] at h ⊢
    by_cases hA : 256 ≤ v
    · rw [if_pos hA] at h; exact absurd (show (9 : Int) = 0 from h) (by decide)
    rw [if_neg hA] at h ⊢
    by_cases hB : 32 < lv
    · rw [if_pos hB] at h; exact absurd (show (17 : Int) = 0 from h) (by decide)
    rw [if_neg hB] at h ⊢
    by_cases hC : chkN (.mk op num text args) = 0
    · rw [if_neg (fun h9 => h9 hC)] at h ⊢
      rw [vis_eq _ (v - d) (lv - f), if_neg (by omega), if_neg (by omega), if_neg (fun h9 => h9 hC), show v - d + 1 = v + 1 - d by omega, show lv - f + 1 = lv + 1 - f by omega]
      exact visL_mono args (v + 1) (lv + 1) d f hd hf h
    · rw [if_pos hC] at h; exact absurd h hC
theorem visL_mono : ∀ (l : List Nd) (v lv d f : Int), 0 ≤ d → 0 ≤ f → (visL l v lv).1 = 0 → (visL l (v - d) (lv - f)).1 = 0 ∧ (visL l (v - d) (lv - f)).2 = (visL l v lv).2 - d
  | [], v, lv, d, f, _, _, _ => by rw [visL_nil, visL_nil]; exact ⟨rfl, rfl⟩
  | x :: l, v, lv, d, f, hd, hf, h => by
    rw [visL_cons x l v lv] at h ⊢
    by_cases hx : (vis x v lv).1 = 0
    · rw [if_pos hx] at h ⊢
      have m := vis_mono x v lv d f hd hf hx
      rw [visL_cons x l (v - d) (lv - f), if_pos m.1, m.2]
      exact visL_mono l (vis x v lv).2 lv d f hd hf h
    · rw [if_neg hx] at h; exact absurd h hx
end
def yesN : Nd := .mk 3 1 [] []
def noN : Nd := .mk 3 0 [] []
def ifN (l : List Nd) : Nd := .mk 5 0 ifS l
/-- the expressions of the law -/
def lzy : Nd → Nat → Nd
  | n, 0 => ifN [yesN, noN, n]
  | n, 1 => ifN [noN, n, yesN]
  | n, 2 => .mk 7 0 [] [noN, n]
  | n, 3 => .mk 6 0 [] [yesN, n]
  | n, _ => ifN [yesN, n, noN]
/-- what the law wants -/
noncomputable def lzW (env : List Bnd) (n : Nd) : Nat → Val × Int
  | 0 => (booV false, 0)
  | 1 => (booV true, 0)
  | 2 => (booV false, 0)
  | 3 => (booV true, 0)
  | _ => evl env n
end
section
variable {F : Fence} {P : Program} {c : Ctx} {K : SP} {X : List (Nat × SP)} {R : SP}
def cntU (l : Array Bool) : Nat → Nat
  | 0 => 0
  | k + 1 => cntU l k + (if l.getD k true = true then 0 else 1)
theorem getD_set_self (l : Array Bool) (i : Nat) : (l.setIfInBounds i true).getD i true = true := by
  by_cases h : i < l.size
  · simp [Array.getD_eq_getD_getElem?, Array.getElem?_setIfInBounds, h]
  · simp [Array.getD_eq_getD_getElem?, Array.getElem?_setIfInBounds, h]
theorem cntU_ge {l : Array Bool} {i : Nat} : ∀ k, k ≤ i → cntU (l.setIfInBounds i true) k = cntU l k
  | 0, _ => rfl
  | k + 1, h => by
    unfold cntU
    rw [cntU_ge k (by omega), getD_set_ne true (show i ≠ k by omega)]
theorem cntU_set {l : Array Bool} {i : Nat} (h : l.getD i true = false) : ∀ k, i < k → cntU (l.setIfInBounds i true) k + 1 = cntU l k
  | 0, h9 => absurd h9 (by omega)
  | k + 1, hk => by
    unfold cntU
    by_cases e : i = k
    · subst e
      rw [cntU_ge i (Nat.le_refl _), getD_set_self, h]
      simp
    · rw [getD_set_ne true e]
      have := cntU_set h k (by omega)
      omega
theorem cntU_rep (n : Nat) : ∀ k, k ≤ n → cntU (Array.replicate n false) k = k
  | 0, _ => rfl
  | k + 1, h => by
    unfold cntU
    rw [cntU_rep n k (by omega), if_neg]
    simp [Array.getD_eq_getD_getElem?, show k < n by omega]
theorem getD_both {l : Array Bool} {i : Nat} (h : i < l.size) : l.getD i true = l.getD i false := by simp [Array.getD_eq_getD_getElem?, h]
theorem A_drawJ (hF : WideF F) [hm : MixC P] {id : Nat} {ops : List Oper} {s : Sta} (J : Array Bool → SP)
    (hac : ∀ (i : Nat) (o : Oper), opget ops i = some o → ∀ e ∈ o.after, Region.binds .any e = true → e.on < i)
    (h0 : J (Array.replicate ops.length false) s)
    (step : ∀ (listed : Array Bool) (s : Sta) (i : Nat) (o : Oper), opget ops i = some o → listed.getD i true = false → (∀ e ∈ o.after, Region.binds .any e = true → listed.getD e.on false = true) → J listed s →
      want ops o s.env = some true ∧ Ef F P c o s (J (listed.setIfInBounds i true)))
    (fin : ∀ (listed : Array Bool) (s : Sta), (∀ i, i < ops.length → listed.getD i false = true) → J listed s → K s) :
    wpA F P c (.region id ops.toArray true) K X R s := fun a w hs => by
  have key : ∀ (m : Nat) (listed : Array Bool) (s : Sta) (a : Act) (w : World), listed.size = ops.length → cntU listed ops.length = m → s.ok c a w → J listed s →
      wpAnyIn F 0 P .any ops.toArray (Nml fun a w => ∃ s, s.ok c a w ∧ K s) m listed a w := by
    intro m
    have hlt : ∀ {i : Nat} {o : Oper}, ops.toArray[i]? = some o → i < ops.length := fun {i o} h => by
      have h9 : ops[i]? = some o := by simpa using h
      exact (List.getElem?_eq_some_iff.1 h9).1
    induction m with
    | zero =>
      intro listed s a w hsz hm hs hj
      have hall : ∀ i, i < ops.length → listed.getD i false = true := fun i hi => by
        rw [← getD_both (by omega)]
        cases hb : listed.getD i true with
        | true => rfl
        | false => have := cntU_set hb _ hi; omega
      refine ⟨?_, rfl, s, hs, fin listed s hall hj⟩
      rw [List.eq_nil_iff_forall_not_mem]
      intro i hi
      obtain ⟨h1, o, ho, _⟩ := mem_ready.1 hi
      have := hall i (hlt ho)
      rw [← getD_both (by have := hlt ho; omega), h1] at this
      cases this
    | succ m ih =>
      intro listed s a w hsz hm hs hj
      refine ⟨fun hr => ⟨rfl, s, hs, fin listed s (fun i hi => ?_) hj⟩, fun i hi => ?_⟩
      · induction i using Nat.strongRecOn with
        | _ i ih2 =>
          cases hb : listed.getD i false with
          | true => rfl
          | false =>
            have hmem : i ∈ Region.ready .any ops.toArray listed := mem_ready.2 ⟨by rw [getD_both (by omega), hb], ops[i], by simp [hi], fun e he hb => by
              have h8 : opget ops i = some ops[i] := by rw [opget_eq]; simp [hi]
              have h9 := hac i _ h8 e he hb
              exact ih2 e.on h9 (by omega)⟩
            rw [hr] at hmem
            cases hmem
      · obtain ⟨h1, o, ho, hall⟩ := mem_ready.1 hi
        have hl := hlt ho
        have ho' : opget ops i = some o := by rw [opget_eq]; simpa using ho
        obtain ⟨hw, hef⟩ := step listed s i o ho' h1 hall hj
        unfold wpOpIn
        rw [ho]
        dsimp only
        rw [if_pos (wanted_of_want hs.env hw)]
        exact Oper.wpIn_both (fun a' w' ⟨s', hs', k⟩ => ih _ s' a' w' (by simp [hsz]) (by have := cntU_set h1 _ hl; omega) hs' k) (fun e a w q => q.elim) (hef a w hs)
  have hs' : Sta.ok c s a w.drew := ⟨hs.defers, hs.size, hs.env, hs.holds.drew⟩
  have h1 := key ops.length (Array.replicate ops.length false) s a w.drew (by simp) (cntU_rep _ _ (Nat.le_refl _)) hs' h0
  refine wpIn_mono (wpIn_region_any hm.mixed (by simpa using h1)) ?_
  rintro e a w ⟨rfl, s, hs, hk⟩
  exact ⟨s, hs, hk⟩
/-- of a region: each operation has a slot of its own, that is not in use, and waits for earlier ones -/
def drawCk (ops : List Oper) (e0 : Env) (n : Nat) : Bool :=
  (ops.zipIdx 0).all fun q => match q.1.dst with
    | none => false
    | some d => Nat.blt d n && (match e0.find d with | none => true | some _ => false) && ((ops.zipIdx 0).all fun r => match r.1.dst with | none => true | some d' => !(Nat.beq d' d) || Nat.beq r.2 q.2) && q.1.after.toList.all (fun e => Nat.blt e.on q.2)
end
end Go.Proofs.YtnoadopmeoohmaaGreatDoor
/-
  Panics: functions that end by one; regions whose last operation does.
-/
namespace Go.Proofs.YtnoadopmeoohmaaGreatDoor
open Go
set_option linter.unusedVariables false
set_option linter.unusedSimpArgs false
/-- a function that ends by a panic -/
def FnX (P : Program) (f : FuncId) (args : List Value) (H : Hp) (I : Own) (pp : List PanicEntry → Prop) : Prop :=
  ∀ w, Holds ⟨w, H, Own.blocks I, noPn⟩ H I w → Calls P f args.toArray w fun e w' => ∃ ch H', e = .panicked ch ∧ Holds ⟨w, H, Own.blocks I, noPn⟩ H' [] w' ∧ pp ch
theorem FnX.mono {P : Program} {f : FuncId} {args : List Value} {H : Hp} {I : Own} {pp pp' : List PanicEntry → Prop} (h : FnX P f args H I pp) (hp : ∀ ch, pp ch → pp' ch) : FnX P f args H I pp' :=
  fun w hw => (h w hw).mono fun _ _ ⟨ch, H', he, hh, hq⟩ => ⟨ch, H', he, hh, hp _ hq⟩
theorem Oper.wpIn_pan {F : Fence} {n : Nat} {P : Program} {o : Oper} {a : Act} {w : World} {K K' : Act → World → Prop} {Q Q' : Exit → Act → World → Prop} (h : ∀ a w, K a w → K' a w)
    (hq : ∀ ch a w, Q (.panic ch) a w → Q' (.panic ch) a w) (hl : LetsOut Q → LetsOut Q') (hh : o.wpIn F n P a w K Q) : o.wpIn F n P a w K' Q' := by
  unfold Oper.wpIn at *
  refine ⟨hh.1, ?_⟩
  have hh := hh.2
  generalize (o.semAt F.round a.eval).run P w = r at *
  cases r with
  | ok x w' =>
    cases x <;> simp only [Oper.uponIn] at hh ⊢ <;>
      first
        | exact h _ _ hh
        | exact ⟨hh.1, CallsIn.mono hh.2 (fun e w'' he => by cases e <;> first | exact h _ _ he | exact hq _ _ _ he | exact hl he)⟩
        | exact ⟨hh.1, RowsIn.mono hh.2 (fun _ _ he => h _ _ he)⟩
        | exact ⟨hh.1, RoundIn.mono hh.2 (fun e w'' he => by cases e <;> first | exact h _ _ he | exact hq _ _ _ he | exact hl he)⟩
  | halt x w' => cases x <;> simp only [Oper.uponIn] at hh ⊢ <;> first | exact hh | exact hq _ _ _ hh
section
variable {F : Fence} {P : Program} {c : Ctx} {o : Oper} {K : SP} {X : List (Nat × SP)} {R : SP} {n : Nat} {e : Env} {H : Hp} {M M' L I : Own} {D : List Deferred} {ty : TypeId} {pos : String} {after : Array Edge} {g : Option (Nat × Bool)} {f : FuncId} {pp : List PanicEntry → Prop} {at_ : Array TypeId} {args : List Value} {ops rest : List Oper} {dst : Option Tmp}
theorem Calls_of_FnX (h : FnX P f args H I pp) {w : World} (hw : Holds c H (I ++ M') w) :
    Calls P f args.toArray w fun e w' => ∃ ch H', e = .panicked ch ∧ HLe H H' ∧ Holds c H' M' w' ∧ pp ch := by
  have hsub := Own.sep_append.1 hw.sep
  have hI : ∀ b ∈ Own.blocks I, b ∈ Own.blocks (I ++ M') := fun b hb => by rw [Own.blocks_append]; exact List.mem_append_left _ hb
  have h0 : Holds ⟨w, H, Own.blocks I, noPn⟩ H I w :=
    ⟨hw.mem, fun r hr => hw.own r (List.mem_append_left _ hr), hsub.1, fun b hb => hw.apart b (hI b hb), fun b hb => .inr hb,
      ⟨rfl, rfl, rfl, Nat.le_refl _, fun _ _ _ => rfl⟩, fun _ _ _ h => h, fun _ _ _ h => .inl h, fun b o v h1 h2 => absurd (h1.symm.trans h2) (by simp), hw.callee hI⟩
  refine (h w h0).mono fun e w' ⟨ch, H', he, hh, hq⟩ => ⟨ch, H', he, hh.hle, ?_, hq⟩
  have := hw.frame ⟨hh.old.os, hh.old.tape, hh.old.output, hh.old.size, hh.old.block⟩ hh.mem hh.hle hh.hnew hh.own hh.sep hh.apart hh.fresh hh.thaw
  simpa using this
/-- operations, of which one may end by a panic -/
def opsAX (F : Fence) (P : Program) (c : Ctx) (ops l : List Oper) (s : Sta) : Prop :=
  ∀ a w, s.ok c a w → wpListIn F 0 P ops.toArray (contQ c.pn c (fun _ => False) [] (fun _ => False)) l a w
theorem wpList_app {l2 : List Oper} {K' : SP} (hr : ∀ a w s, s.ok c a w → K' s → wpListIn F 0 P ops.toArray (contQ c.pn c (fun _ => False) [] (fun _ => False)) l2 a w) :
    ∀ (l1 : List Oper) (a : Act) (w : World), wpListIn F 0 P ops.toArray (contQ noPn c K' [] (fun _ => False)) l1 a w → wpListIn F 0 P ops.toArray (contQ c.pn c (fun _ => False) [] (fun _ => False)) (l1 ++ l2) a w := by
  intro l1
  induction l1 with
  | nil => intro a w ⟨s, hs, hk⟩; exact hr a w s hs hk
  | cons o r ih =>
    intro a w h
    simp only [List.cons_append, wpListIn] at h ⊢
    split
    · rename_i hw
      rw [if_pos hw] at h
      exact Oper.wpIn_pan (fun a w h => ih a w h) (fun ch a w ⟨s, hs, hx⟩ => hx.elim) (fun ⟨a, w, hx⟩ => hx.elim) h
    · rename_i hw
      rw [if_neg hw] at h
      exact ⟨h.1, ih _ _ h.2⟩
/-- a region: its first m operations, then the one that panics -/
theorem A_fail {id : Nat} {l : List Oper} {s : Sta} (m : Nat) (h : opsA F P c l (l.take m) (fun s => opsAX F P c l (l.drop m) s) s) : wpA F P c (.region id l.toArray false) K X R s := fun a w hs =>
  wpIn_region_lit (by
    have h1 := wpList_app (P := P) (F := F) (c := c) (ops := l) (l2 := l.drop m) (fun a w s hs hk => hk a w hs) (l.take m) a w (h a w hs)
    rw [List.take_append_drop] at h1
    refine (?_ : ∀ (l' : List Oper) a w, wpListIn F 0 P l.toArray (contQ c.pn c (fun _ => False) [] (fun _ => False)) l' a w → wpListIn F 0 P l.toArray (contQ c.pn c K X R) l' a w) l a w h1
    intro l'
    induction l' with
    | nil => intro a w ⟨s, hs, hx⟩; exact hx.elim
    | cons o r ih =>
      intro a w h
      simp only [wpListIn] at h ⊢
      split
      · rename_i hw
        rw [if_pos hw] at h
        exact Oper.wpIn_pan (fun a w => ih a w) (fun ch a w q => q) (fun ⟨a, w, hx⟩ => hx.elim) h
      · rename_i hw
        rw [if_neg hw] at h
        exact ⟨h.1, ih _ _ h.2⟩)
/-- one operation that panics -/
def EfX (F : Fence) (P : Program) (c : Ctx) (o : Oper) (s : Sta) : Prop :=
  ∀ a w, s.ok c a w → o.wpIn F 0 P a w (fun _ _ => False) (fun ex a' w' => ∃ ch s', ex = .panic ch ∧ s'.ok c a' w' ∧ c.pn ch s')
theorem OX_efx {s : Sta} (hw : want ops o s.env = some true) (h : EfX F P c o s) : opsAX F P c ops (o :: rest) s := by
  intro a w hs
  have hw' := wanted_of_want hs.env hw
  simp only [wpListIn]
  rw [if_pos hw']
  exact Oper.wpIn_pan (fun _ _ h => h.elim) (fun ch a w ⟨ch', s', he, hs', hp⟩ => by cases he; exact ⟨s', hs', hp⟩) (fun ⟨a, w, hx⟩ => by obtain ⟨ch', s', he, _⟩ := hx; cases he) (h a w hs)
theorem EfX_call (hF : WideF F) [hf : FunC P f] {xs : Array Operand} (h : FnX P f args H I pp) (hx : EvalAll e xs.toList args) (k : ∀ ch H', HLe H H' → pp ch → c.pn ch ⟨n, e, H', M', L, D⟩) :
    EfX F P c ⟨dst, .call { callee := .value (.func f), args := xs, argTypes := at_ }, ty, pos, after, g⟩ ⟨n, e, H, I ++ M', L, D⟩ := by
  intro a w hs
  have hr := execOp_call (P := P) (f := f) (ty := ty) (pos := pos) (after := after) (g := g) (at_ := at_) (dst := dst) hs.env hx w
  refine ⟨fun f _ => hF.fn f, ?_⟩
  rw [Oper.semAt_eq _ _ _ (by simp), hr]
  refine ⟨(fun hd => (by rw [hF.depth] at hd; cases hd)), callsIn_of_calls hF ?_⟩
  have hh0 : Holds c H (I ++ (M' ++ L)) w := by have := hs.holds; simpa [List.append_assoc] using this
  refine (Calls_of_FnX h hh0).mono ?_
  rintro e' w' ⟨ch, H', he, hle, hh, hq⟩
  subst he
  exact ⟨ch, ⟨n, e, H', M', L, D⟩, rfl, ⟨hs.defers, hs.size, hs.env, hh⟩, k ch H' hle hq⟩
/-- .. a bound method -/
theorem EfX_callb (hF : WideF F) {first : List Value} {z : Operand} [hf : FunC P f] {xs : Array Operand} (h : FnX P f (first ++ args) H I pp) (hz : e.eval z = some (.func (.func f) first.toArray #[])) (hx : EvalAll e xs.toList args)
    (k : ∀ ch H', HLe H H' → pp ch → c.pn ch ⟨n, e, H', M', L, D⟩) : EfX F P c ⟨dst, .call { callee := .value z, args := xs, argTypes := at_ }, ty, pos, after, g⟩ ⟨n, e, H, I ++ M', L, D⟩ := by
  intro a w hs
  have hm := EvalAll.map hs.env hx
  have hm' : xs.map a.eval = args.toArray := by
    apply Array.ext'
    simpa using hm
  have hz' := hs.env.eval hz
  have hr : (execOp a.eval ⟨dst, .call { callee := .value z, args := xs, argTypes := at_ }, ty, pos, after, g⟩).run P w = .ok (.enter f (first ++ args).toArray) w := by
    simp only [execOp, resolve, hm', hz', Deferred.ofValue, Sem.run_bind, Sem.run_pure, Result.andThen_ok, invoke, List.append_toArray, List.append_nil]
    rw [hf.run]
  refine ⟨fun f _ => hF.fn f, ?_⟩
  rw [Oper.semAt_eq _ _ _ (by simp), hr]
  refine ⟨(fun hd => (by rw [hF.depth] at hd; cases hd)), callsIn_of_calls hF ?_⟩
  have hh0 : Holds c H (I ++ (M' ++ L)) w := by have := hs.holds; simpa [List.append_assoc] using this
  refine (Calls_of_FnX h hh0).mono ?_
  rintro e' w' ⟨ch, H', he, hle, hh, hq⟩
  subst he
  exact ⟨ch, ⟨n, e, H', M', L, D⟩, rfl, ⟨hs.defers, hs.size, hs.env, hh⟩, k ch H' hle hq⟩
/-- the focus of an owned block -/
theorem EfX_f1 {r0 r1 : Res} (k : EfX F P c o ⟨n, e, H, r1 :: r0 :: M, L, D⟩) : EfX F P c o ⟨n, e, H, r0 :: r1 :: M, L, D⟩ := fun a w hs => k a w ⟨hs.defers, hs.size, hs.env, own_perm ((perm_mid [r0] r1 M).append_right L) hs.holds⟩
theorem EfX_f2 {r0 r1 r2 : Res} (k : EfX F P c o ⟨n, e, H, r2 :: r0 :: r1 :: M, L, D⟩) : EfX F P c o ⟨n, e, H, r0 :: r1 :: r2 :: M, L, D⟩ := fun a w hs => k a w ⟨hs.defers, hs.size, hs.env, own_perm ((perm_mid [r0, r1] r2 M).append_right L) hs.holds⟩
/-- panic -/
theorem EfX_panic (hF : WideF F) {x : Operand} {t : TypeId} {v : Value} (hx : e.eval x = some (.iface t v)) (k : c.pn [{ v := .iface t v, recovered := false }] ⟨n, e, H, M, L, D⟩) :
    EfX F P c ⟨dst, .panic x, ty, pos, after, g⟩ ⟨n, e, H, M, L, D⟩ := by
  intro a w hs
  refine ⟨fun f _ => hF.fn f, ?_⟩
  have hr : (execOp a.eval ⟨dst, .panic x, ty, pos, after, g⟩).run P w = .halt (.panic (.iface t v)) w := by
    simp only [execOp, hs.env.eval hx]
    rfl
  rw [Oper.semAt_eq _ _ _ (by simp), hr]
  exact ⟨_, _, rfl, hs, k⟩
theorem FnX_of (fn : Func) (code : Code) (hf : P.funcs[f]? = some fn) (hb : fn.body = some code) {N : Nat} (hN : fn.ntmps = N) (hle : Nat.ble args.length N = true)
    (h : ∀ c : Ctx, (∀ ch s, pp ch → s.D = [] → c.pn ch s) → wpA Fence.wide P c code (fun _ => False) [] (fun _ => False) ⟨N, ofArgs 0 args, H, I, [], []⟩) :
    FnX P f args H I pp := by
  intro w hw
  have hw' : Holds ⟨w, H, Own.blocks I, fun ch s => pp ch ∧ s.D = []⟩ H I w := ⟨hw.mem, hw.own, hw.sep, hw.apart, hw.fresh, ⟨hw.old.os, hw.old.tape, hw.old.output, hw.old.size, hw.old.block⟩, hw.hle, hw.hnew, hw.thaw, ⟨hw.gl.glob, hw.gl.size, hw.gl.apart⟩⟩
  rw [← callsIn_wide (n := 0)]
  refine callsIn_of_wp hf hb trivial (wpIn_mono (h ⟨w, H, Own.blocks I, fun ch s => pp ch ∧ s.D = []⟩ (fun ch s h1 h2 => ⟨h1, h2⟩) { tmps := args.toArray ++ Array.replicate (fn.ntmps - args.toArray.size) undef, defers := [] } w ⟨rfl, ?_, ofArgs_ok args _, by simpa using hw'⟩) ?_)
  · have := Nat.le_of_ble_eq_true hle
    simp [hN]; omega
  · intro e a w' q
    cases e with
    | normal => obtain ⟨s, hs, hx⟩ := q; exact hx.elim
    | ret => obtain ⟨s, hs, hx⟩ := q; exact hx.elim
    | exit id => obtain ⟨s, hs, K', hx, _⟩ := q; simp [xfind] at hx
    | goto l => exact q.elim
    | panic ch =>
      obtain ⟨s, hs, hp, hd⟩ := q
      have hh := hs.holds
      refine ⟨hs.defers.trans hd, ch, s.H, rfl, ?_, hp⟩
      have h0 := hh.sub (Own.sub_nil _)
      exact ⟨h0.mem, h0.own, h0.sep, h0.apart, h0.fresh, ⟨h0.old.os, h0.old.tape, h0.old.output, h0.old.size, h0.old.block⟩, h0.hle, h0.hnew, h0.thaw, ⟨h0.gl.glob, h0.gl.size, h0.gl.apart⟩⟩
    | outgrown => exact q.elim
end
end Go.Proofs.YtnoadopmeoohmaaGreatDoor
/-
  The parser where it fails: fail, expect; regions that draw their order, with a call that panics.
-/
namespace Go.Proofs.YtnoadopmeoohmaaGreatDoor
open Go
set_option linter.unusedVariables false
set_option linter.unusedSimpArgs false
section
variable {F : Fence} {P : Program} {c : Ctx} {K : SP} {X : List (Nat × SP)} {R : SP}
theorem A_drawJX (hF : WideF F) [hm : MixC P] {id : Nat} {ops : List Oper} {s : Sta} (J : Array Bool → SP)
    (hac : ∀ (i : Nat) (o : Oper), opget ops i = some o → ∀ e ∈ o.after, e.on < i)
    (h0 : J (Array.replicate ops.length false) s)
    (step : ∀ (listed : Array Bool) (s : Sta) (i : Nat) (o : Oper), opget ops i = some o → listed.getD i true = false → (∀ e ∈ o.after, Region.binds .any e = true → listed.getD e.on false = true) → J listed s →
      want ops o s.env = some true ∧ (Ef F P c o s (J (listed.setIfInBounds i true)) ∨ EfX F P c o s))
    (fin : ∀ (listed : Array Bool) (s : Sta), (∀ i, i < ops.length → listed.getD i false = true) → J listed s → False) :
    wpA F P c (.region id ops.toArray true) K X R s := fun a w hs => by
  have key : ∀ (m : Nat) (listed : Array Bool) (s : Sta) (a : Act) (w : World), listed.size = ops.length → cntU listed ops.length = m → s.ok c a w → J listed s →
      wpAnyIn F 0 P .any ops.toArray (contQ c.pn c K X R) m listed a w := by
    intro m
    have hlt : ∀ {i : Nat} {o : Oper}, ops.toArray[i]? = some o → i < ops.length := fun {i o} h => by
      have h9 : ops[i]? = some o := by simpa using h
      exact (List.getElem?_eq_some_iff.1 h9).1
    induction m with
    | zero =>
      intro listed s a w hsz hm hs hj
      have hall : ∀ i, i < ops.length → listed.getD i false = true := fun i hi => by
        rw [← getD_both (by omega)]
        cases hb : listed.getD i true with
        | true => rfl
        | false => have := cntU_set hb _ hi; omega
      exact (fin listed s hall hj).elim
    | succ m ih =>
      intro listed s a w hsz hm hs hj
      refine ⟨fun hr => (fin listed s (fun i hi => ?_) hj).elim, fun i hi => ?_⟩
      · induction i using Nat.strongRecOn with
        | _ i ih2 =>
          cases hb : listed.getD i false with
          | true => rfl
          | false =>
            have hmem : i ∈ Region.ready .any ops.toArray listed := mem_ready.2 ⟨by rw [getD_both (by omega), hb], ops[i], by simp [hi], fun e he _ => by
              have h8 : opget ops i = some ops[i] := by rw [opget_eq]; simp [hi]
              have h9 := hac i _ h8 e he
              exact ih2 e.on h9 (by omega)⟩
            rw [hr] at hmem
            cases hmem
      · obtain ⟨h1, o, ho, hall⟩ := mem_ready.1 hi
        have hl := hlt ho
        have ho' : opget ops i = some o := by rw [opget_eq]; simpa using ho
        obtain ⟨hw, hef⟩ := step listed s i o ho' h1 hall hj
        unfold wpOpIn
        rw [ho]
        dsimp only
        rw [if_pos (wanted_of_want hs.env hw)]
        rcases hef with hef | hef
        · exact Oper.wpIn_both (fun a' w' ⟨s', hs', k⟩ => ih _ s' a' w' (by simp [hsz]) (by have := cntU_set h1 _ hl; omega) hs' k) (fun e a w q => q.elim) (hef a w hs)
        · exact Oper.wpIn_pan (fun _ _ h => h.elim) (fun ch a w ⟨ch', s', he, hs', hp⟩ => by cases he; exact ⟨s', hs', hp⟩) (fun ⟨a, w, hx⟩ => by obtain ⟨ch', s', he, _⟩ := hx; cases he) (hef a w hs)
  have hs' : Sta.ok c s a w.drew := ⟨hs.defers, hs.size, hs.env, hs.holds.drew⟩
  have h1 := key ops.length (Array.replicate ops.length false) s a w.drew (by simp) (cntU_rep _ _ (Nat.le_refl _)) hs' h0
  exact wpIn_region_any hm.mixed (by simpa using h1)
theorem find_cons {e : Env} {d t : Nat} {v u : Value} (hne : Nat.beq d t = false) (h : e.find t = some u) : Env.find ((d, v) :: e) t = some u := by
  show (match Nat.beq d t with | true => some v | false => Env.find e t) = some u
  rw [hne]; exact h
theorem find_head {e : Env} {d : Nat} {v : Value} : Env.find ((d, v) :: e) d = some v := by
  show (match Nat.beq d d with | true => some v | false => Env.find e d) = some v
  rw [Nat.beq_refl]
/-- an operation waits only for those ahead of it -/
def ordC : List Oper → Nat → Bool
  | [], _ => true
  | o :: r, i => (o.after.toList.all fun e => Nat.blt e.on i) && ordC r (i + 1)
theorem ordC_at : ∀ {l : List Oper} {k i : Nat} {o : Oper}, ordC l k = true → l[i]? = some o → ∀ e ∈ o.after, e.on < k + i
  | [], _, _, _, _, h => by simp at h
  | x :: r, k, 0, o, hc, h => fun e he => by
    simp only [List.getElem?_cons_zero] at h
    obtain rfl := Option.some.inj h
    simp only [ordC, Bool.and_eq_true] at hc
    have h9 := List.all_eq_true.1 hc.1 e (by simpa using he)
    have h8 : e.on < k := by simpa [Nat.blt_eq] using h9
    omega
  | x :: r, k, i + 1, o, hc, h => fun e he => by
    simp only [ordC, Bool.and_eq_true] at hc
    have := ordC_at (i := i) hc.2 (by simpa using h) e he
    omega
/-- three quiet operations, the third of which gives what the fourth calls for, and the fourth panics -/
theorem A_drawX (hF : WideF F) [hm : MixC P] {id n : Nat} {o0 o1 o2 o3 : Oper} {more : List Oper} {e0 : Env} {H : Hp} {M : Own} {D : List Deferred} {d0 d1 d2 : Nat} {v0 v1 v2 : Value}
    (hck : ordC (o0 :: o1 :: o2 :: o3 :: more) 0 = true)
    (hd0 : o0.dst = some d0 ∧ o0.guard = none) (hd1 : o1.dst = some d1 ∧ o1.guard = none) (hd2 : o2.dst = some d2 ∧ o2.guard = none) (hg3 : o3.guard = none)
    (hb : ∀ t v, e0.find t = some v → Nat.beq d0 t = false ∧ Nat.beq d1 t = false ∧ Nat.beq d2 t = false) (hdd : Nat.beq d0 d2 = false ∧ Nat.beq d1 d2 = false) (hn : Nat.blt d0 n = true ∧ Nat.blt d1 n = true ∧ Nat.blt d2 n = true)
    (h3 : (o3.after.toList.any fun e => Region.binds .any e && Nat.beq e.on 2) = true)
    (hmore : more.all (fun o => o.after.toList.any fun e => Region.binds .any e && Nat.ble 3 e.on) = true)
    (a0 : ∀ e : Env, (∀ t v, e0.find t = some v → e.find t = some v) → Ev P o0 e H (M ++ []) v0) (a1 : ∀ e : Env, (∀ t v, e0.find t = some v → e.find t = some v) → Ev P o1 e H (M ++ []) v1) (a2 : ∀ e : Env, (∀ t v, e0.find t = some v → e.find t = some v) → Ev P o2 e H (M ++ []) v2)
    (x3 : ∀ e : Env, (∀ t v, e0.find t = some v → e.find t = some v) → e.find d2 = some v2 → EfX F P c o3 ⟨n, e, H, M, [], D⟩) :
    wpA F P c (.region id (o0 :: o1 :: o2 :: o3 :: more).toArray true) K X R ⟨n, e0, H, M, [], D⟩ := by
  have quiet : ∀ (e : Env) (o : Oper) (d : Nat) (v : Value), o.dst = some d → Nat.blt d n = true → Ev P o e H (M ++ []) v → Ef F P c o ⟨n, e, H, M, [], D⟩ (fun s => s = ⟨n, (d, v) :: e, H, M, [], D⟩) := fun e o d v h1 h2 h3 => Ef_ev hF h3 h1 h2 rfl
  refine A_drawJX hF (fun listed s => ∃ e : Env, s = ⟨n, e, H, M, [], D⟩ ∧ (∀ t v, e0.find t = some v → e.find t = some v) ∧ (listed.getD 2 false = true → e.find d2 = some v2) ∧ ∀ i, 3 ≤ i → listed.getD i false = false) ?_ ?_ ?_ ?_
  · intro i o ho e he
    rw [opget_eq] at ho
    have := ordC_at hck ho e he
    omega
  · refine ⟨e0, rfl, fun _ _ h => h, fun h => ?_, fun i _ => ?_⟩
    · simp only [Array.getD_eq_getD_getElem?, Array.getElem?_replicate] at h
      split at h <;> simp at h
    · simp only [Array.getD_eq_getD_getElem?, Array.getElem?_replicate]
      split <;> rfl
  · rintro listed s i o ho hl hall ⟨e, rfl, he, hz, hno⟩
    have hgu : ∀ o : Oper, o.guard = none → want (o0 :: o1 :: o2 :: o3 :: more) o e = some true := fun o h => by unfold want; rw [h]
    have keepno : ∀ k, k < 3 → ∀ i, 3 ≤ i → (listed.setIfInBounds k true).getD i false = false := fun k hk i hi => by rw [getD_set_ne false (by omega)]; exact hno i hi
    match i, ho with
    | 0, ho =>
      obtain rfl := Option.some.inj ho
      refine ⟨hgu _ hd0.2, .inl (Ef_mapK (quiet e _ d0 v0 hd0.1 hn.1 (a0 e he)) ?_)⟩
      rintro s a w hs rfl
      exact ⟨_, hs, _, rfl, fun t v ht => find_cons (hb t v ht).1 (he t v ht), fun h => find_cons hdd.1 (hz (by rw [getD_set_ne false (by omega)] at h; exact h)), keepno 0 (by omega)⟩
    | 1, ho =>
      obtain rfl := Option.some.inj ho
      refine ⟨hgu _ hd1.2, .inl (Ef_mapK (quiet e _ d1 v1 hd1.1 hn.2.1 (a1 e he)) ?_)⟩
      rintro s a w hs rfl
      exact ⟨_, hs, _, rfl, fun t v ht => find_cons (hb t v ht).2.1 (he t v ht), fun h => find_cons hdd.2 (hz (by rw [getD_set_ne false (by omega)] at h; exact h)), keepno 1 (by omega)⟩
    | 2, ho =>
      obtain rfl := Option.some.inj ho
      refine ⟨hgu _ hd2.2, .inl (Ef_mapK (quiet e _ d2 v2 hd2.1 hn.2.2 (a2 e he)) ?_)⟩
      rintro s a w hs rfl
      exact ⟨_, hs, _, rfl, fun t v ht => find_cons (hb t v ht).2.2 (he t v ht), fun _ => find_head, keepno 2 (by omega)⟩
    | 3, ho =>
      obtain rfl := Option.some.inj ho
      obtain ⟨e', he', hb'⟩ := List.any_eq_true.1 h3
      simp only [Bool.and_eq_true] at hb'
      have hon := Nat.eq_of_beq_eq_true hb'.2
      have h2 := hall e' (by simpa using he') hb'.1
      rw [hon] at h2
      exact ⟨hgu _ hg3, .inr (x3 e he (hz h2))⟩
    | i + 4, ho =>
      exfalso
      have ho' : opget more i = some o := ho
      rw [opget_eq] at ho'
      have h9 := List.all_eq_true.1 hmore o (List.mem_of_getElem? ho')
      obtain ⟨e', he', hb'⟩ := List.any_eq_true.1 h9
      simp only [Bool.and_eq_true] at hb'
      have h8 := hall e' (by simpa using he') hb'.1
      rw [hno e'.on (Nat.le_of_ble_eq_true hb'.2)] at h8
      cases h8
  · rintro listed s hall ⟨e, rfl, he, hz, hno⟩
    have h1 := hall 3 (by simp)
    rw [hno 3 (by omega)] at h1
    cases h1
theorem Ev_mkI {e : Env} {H : Hp} {R : Own} {dst : Option Tmp} {ty t : TypeId} {pos : String} {after : Array Edge} {g : Option (Nat × Bool)} {x : Operand} {v : Value} {fs : Array Field} [ht : UndC P t (.struct fs)] (hx : e.eval x = some v) : Ev P ⟨dst, .makeInterface t x, ty, pos, after, g⟩ e H R (.iface t v) := fun a w he _ _ => by
  simp only [execOp, he.eval hx, Instr.makeInterface, Sem.run_bind, ht.run, Result.andThen_ok, Sem.run_pure]
end
/-- what the parser panics with -/
def failC (e : Int) (p : Nat) : List PanicEntry := [{ v := .iface 65 (.agg [.int .i64 e, .int .i64 (p : Int)].toArray), recovered := false }]
attribute [local irreducible] wpA opsA drJ drQ drE Ef Ev Shift Fn
set_option maxRecDepth 100000 in
theorem fail_fn {H : Hp} {s : List UInt8} {t : Tok} {b : Nat} {e : Int} : FnX Tryz.prog 85 [.pointer (some ⟨b, 0, none⟩), .int .i64 e] H [.box b (pcs s t)] fun ch => ch = failC e t.pos := by
  refine FnX_of _ _ Tryz.func85 rfl Tryz.ntmps85 rfl fun c hc => ?_
  repeat' (first | (show wpA _ _ _ (.region 0 _ _) _ _ _ _; refine A_fail 8 ?_; simp only [List.take_succ_cons, List.take_zero, List.drop_succ_cons, List.drop_zero]) | (refine O_ev WideF.wide rfl (Ev_mkI rfl) rfl rfl ?_) | refine O_nil ?_ | (show opsA _ _ _ _ _ _ _; first | refine O_ev WideF.wide rfl (Ev_pure rfl) rfl rfl ?_ | (show opsA _ _ _ _ (⟨_, .load _ _, _, _, _, _⟩ :: _) _ _; refine O_ev WideF.wide rfl (Ev_loadB1 (i := 0) rfl rfl rfl) rfl rfl ?_) | (show opsA _ _ _ _ (⟨_, .fieldAddr _ _ _, _, _, _, _⟩ :: _) _ _; refine O_ev WideF.wide rfl (Ev_fieldAddr rfl rfl rfl) rfl rfl ?_) | (show opsA _ _ _ _ (⟨_, .build _ _, _, _, _, _⟩ :: _) _ _; refine O_ev WideF.wide rfl (Ev_build (vs := [(_, _), (_, _)]) ⟨rfl, rfl, rfl, rfl, trivial⟩ rfl) rfl rfl ?_) | (show opsA _ _ _ _ (⟨_, .nilCheck _, _, _, _, _⟩ :: _) _ _; refine O_ev WideF.wide rfl (Ev_nilCheck rfl) rfl rfl ?_)))
  exact OX_efx rfl (EfX_panic WideF.wide rfl (hc _ _ rfl rfl))
set_option maxRecDepth 100000 in
theorem expect_no {H : Hp} {s y : List UInt8} {t : Tok} {b : Nat} (hy : ¬ t.kind = y) : FnX Tryz.prog 43 [.pointer (some ⟨b, 0, none⟩), sv y] H [.box b (pcs s t)] fun ch => ch = failC 14 t.pos := by
  have k := fun Hx a hr => accept_no (H := Hx) (s := s) (a := a) (b := b) hr hy
  refine FnX_of _ _ Tryz.func43 rfl Tryz.ntmps43 rfl fun c hc => ?_
  repeat' (first | (refine O_ef rfl (Ef_build11 WideF.wide rfl rfl rfl ?_); intro bk; refine O_freeze (ones_of rfl) ?_; intro H1 hk1 hr1) | (refine O_ef rfl (Ef_call0 WideF.wide (k _ _ hr1) ⟨rfl, rfl, trivial⟩ rfl ?_); rintro v H3 I3 hle3 ⟨rfl, rfl⟩) | (show wpA _ _ _ (.region 2 _ _) _ _ _ _; refine A_fail 1 ?_; simp only [List.take_succ_cons, List.take_zero, List.drop_succ_cons, List.drop_zero]) | refine O_nil ?_ | refine A_seq ?_ | refine A_region ?_ | (show opsA _ _ _ _ _ _ _; first | refine O_ev WideF.wide rfl (Ev_pure rfl) rfl rfl ?_ | (show opsA _ _ _ _ (⟨_, .unOp _ _ _, _, _, _, _⟩ :: _) _ _; refine O_ev WideF.wide rfl (Ev_notb rfl) rfl rfl ?_)) | (show wpA _ _ _ (.cond _ _ _) _ _ _ _; refine A_iftrue rfl ?_))
  all_goals first
    | (exfalso; exact absurd trivial (by assumption))
    | (exfalso; contradiction)
    | exact OX_efx rfl (EfX_call (I := [_]) (M' := []) WideF.wide fail_fn ⟨rfl, rfl, trivial⟩ (fun ch H' _ hp => hc _ _ hp rfl))
    | trace_state
end Go.Proofs.YtnoadopmeoohmaaGreatDoor
