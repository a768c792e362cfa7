/-
  The law Lazy: its plain part.
  A region that draws its order, each operation walked once: what is done tells what lies in the slots.
-/
import Derived.Test.YtnoadopmeoohmaaGreatDoorF36
namespace Go.Proofs.YtnoadopmeoohmaaGreatDoor
open Go
set_option linter.unusedVariables false
set_option linter.unusedSimpArgs false
section
mutual
theorem vis_mono : ∀ (x : Nd) (v lv d f : Int), 0 ≤ d → 0 ≤ f → (vis x v lv).1 = 0 → (vis x (v - d) (lv - f)).1 = 0 ∧ (vis x (v - d) (lv - f)).2 = (vis x v lv).2 - d
  | .mk op num text args, v, lv, d, f, hd, hf, h => by
    rw [vis_eq _ v lv] at h ⊢
    by_cases hA : 256 ≤ v
    · rw [if_pos hA] at h; exact absurd (show (9 : Int) = 0 from h) (by decide)
    rw [if_neg hA] at h ⊢
    by_cases hB : 32 < lv
    · rw [if_pos hB] at h; exact absurd (show (17 : Int) = 0 from h) (by decide)
    rw [if_neg hB] at h ⊢
    by_cases hC : chkN (.mk op num text args) = 0
    · rw [if_neg (fun h9 => h9 hC)] at h ⊢
      rw [vis_eq _ (v - d) (lv - f), if_neg (by omega), if_neg (by omega), if_neg (fun h9 => h9 hC), show v - d + 1 = v + 1 - d by omega, show lv - f + 1 = lv + 1 - f by omega]
      exact visL_mono args (v + 1) (lv + 1) d f hd hf h
    · rw [if_pos hC] at h; exact absurd h hC
theorem visL_mono : ∀ (l : List Nd) (v lv d f : Int), 0 ≤ d → 0 ≤ f → (visL l v lv).1 = 0 → (visL l (v - d) (lv - f)).1 = 0 ∧ (visL l (v - d) (lv - f)).2 = (visL l v lv).2 - d
  | [], v, lv, d, f, _, _, _ => by rw [visL_nil, visL_nil]; exact ⟨rfl, rfl⟩
  | x :: l, v, lv, d, f, hd, hf, h => by
    rw [visL_cons x l v lv] at h ⊢
    by_cases hx : (vis x v lv).1 = 0
    · rw [if_pos hx] at h ⊢
      have m := vis_mono x v lv d f hd hf hx
      rw [visL_cons x l (v - d) (lv - f), if_pos m.1, m.2]
      exact visL_mono l (vis x v lv).2 lv d f hd hf h
    · rw [if_neg hx] at h; exact absurd h hx
end
theorem visL_head {x : Nd} {l : List Nd} {v lv : Int} (h : (visL (x :: l) v lv).1 = 0) : (vis x v lv).1 = 0 ∧ (visL l (vis x v lv).2 lv).1 = 0 := by
  rw [visL_cons] at h
  by_cases hx : (vis x v lv).1 = 0
  · rw [if_pos hx] at h; exact ⟨hx, h⟩
  · rw [if_neg hx] at h; exact absurd h hx
def yesN : Nd := .mk 3 1 [] []
def noN : Nd := .mk 3 0 [] []
def ifN (l : List Nd) : Nd := .mk 5 0 ifS l
/-- the expressions of the law -/
def lzy : Nd → Nat → Nd
  | n, 0 => ifN [yesN, noN, n]
  | n, 1 => ifN [noN, n, yesN]
  | n, 2 => .mk 7 0 [] [noN, n]
  | n, 3 => .mk 6 0 [] [yesN, n]
  | n, _ => ifN [yesN, n, noN]
theorem lzy_mass (n : Nd) (i : Nat) : (lzy n i).mass ≤ n.mass + 10 := by
  match i with
  | 0 | 1 | 2 | 3 => simp [lzy, ifN, ifS, yesN, noN, Nd.mass, massN]; omega
  | k + 4 => simp [lzy, ifN, ifS, yesN, noN, Nd.mass, massN]; omega
theorem lzy_chk {n : Nd} (h : chkE (lzy n 4) = 0) : chkE n = 0 := by
  unfold chkE at h ⊢
  rw [vis_eq, if_neg (by decide), if_neg (by decide)] at h
  by_cases hC : chkN (lzy n 4) = 0
  · rw [if_neg (fun h9 => h9 hC)] at h
    have h1 := visL_head (x := yesN) (l := [n, noN]) h
    have h2 := visL_head h1.2
    have hle := (vis_le yesN (0 + 1) (1 + 1) (by decide) (by decide)).1
    have := vis_mono n (vis yesN (0 + 1) (1 + 1)).2 (1 + 1) (vis yesN (0 + 1) (1 + 1)).2 1 (by omega) (by decide) h2.1
    rw [show (vis yesN (0 + 1) (1 + 1)).2 - (vis yesN (0 + 1) (1 + 1)).2 = 0 by omega] at this
    exact this.1
  · rw [if_pos hC] at h; exact absurd h hC
theorem ev_yes (env : List Bnd) : evE env yesN = (booV true, 0) := by rw [evE_eq]; unfold evT; rw [if_pos (.inr rfl)]; rfl
theorem ev_no (env : List Bnd) : evE env noN = (booV false, 0) := by rw [evE_eq]; unfold evT; rw [if_pos (.inr rfl)]; rfl
theorem ev_if (env : List Bnd) (l : List Nd) : evE env (ifN l) = lzyV 5 (l.map (evE env)) := by
  rw [evE_eq]
  unfold evT
  rw [if_neg (by show ¬ ((5 : Int) = 1 ∨ (5 : Int) = 3); decide), if_neg (by show ¬ (5 : Int) = 2; decide), if_neg (by show ¬ (5 : Int) = 4; decide), if_pos (.inr (.inr ⟨rfl, rfl⟩))]
  rfl
theorem ev_and (env : List Bnd) (l : List Nd) : evE env (.mk 7 0 [] l) = lzyV 7 (l.map (evE env)) := by
  rw [evE_eq]
  unfold evT
  rw [if_neg (by show ¬ ((7 : Int) = 1 ∨ (7 : Int) = 3); decide), if_neg (by show ¬ (7 : Int) = 2; decide), if_neg (by show ¬ (7 : Int) = 4; decide), if_pos (.inr (.inl rfl))]
  rfl
theorem ev_or (env : List Bnd) (l : List Nd) : evE env (.mk 6 0 [] l) = lzyV 6 (l.map (evE env)) := by
  rw [evE_eq]
  unfold evT
  rw [if_neg (by show ¬ ((6 : Int) = 1 ∨ (6 : Int) = 3); decide), if_neg (by show ¬ (6 : Int) = 2; decide), if_neg (by show ¬ (6 : Int) = 4; decide), if_pos (.inl rfl)]
  rfl
theorem lz_if_yes (p q : Val × Int) : lzyV 5 [(booV true, 0), p, q] = p := by
  unfold lzyV
  rw [if_neg (by simp [cond1, booV]), if_pos rfl, if_pos (by simp [cond1, booV])]
  rfl
theorem lz_if_no (p q : Val × Int) : lzyV 5 [(booV false, 0), p, q] = q := by
  unfold lzyV
  rw [if_neg (by simp [cond1, booV]), if_pos rfl, if_neg (by simp [cond1, booV])]
  rfl
theorem lz_and (p : Val × Int) : lzyV 7 [(booV false, 0), p] = (booV false, 0) := by
  unfold lzyV
  rw [if_neg (by simp [cond1, booV]), if_neg (by decide), if_pos (by simp [cond1, booV])]
  simp [cond1, booV]
theorem lz_or (p : Val × Int) : lzyV 6 [(booV true, 0), p] = (booV true, 0) := by
  unfold lzyV
  rw [if_neg (by simp [cond1, booV]), if_neg (by decide), if_pos (by simp [cond1, booV])]
  simp [cond1, booV]
/-- what the law wants -/
noncomputable def lzW (env : List Bnd) (n : Nd) : Nat → Val × Int
  | 0 => (booV false, 0)
  | 1 => (booV true, 0)
  | 2 => (booV false, 0)
  | 3 => (booV true, 0)
  | _ => evl env n
theorem evl_of {env : List Bnd} {x : Nd} (h : chkE x = 0) : evl env x = evE env x := by unfold evl; rw [if_neg (fun h9 => h9 h)]
theorem lz_law (env : List Bnd) (n : Nd) (i : Nat) (h : chkE (lzy n i) = 0) : evl env (lzy n i) = lzW env n i := by
  rw [evl_of h]
  match i with
  | 0 => show evE env (ifN _) = _; rw [ev_if]; simp only [List.map_cons, List.map_nil, ev_yes, ev_no, lz_if_yes]; rfl
  | 1 => show evE env (ifN _) = _; rw [ev_if]; simp only [List.map_cons, List.map_nil, ev_yes, ev_no, lz_if_no]; rfl
  | 2 => show evE env (.mk 7 0 [] _) = _; rw [ev_and]; simp only [List.map_cons, List.map_nil, ev_no, lz_and]; rfl
  | 3 => show evE env (.mk 6 0 [] _) = _; rw [ev_or]; simp only [List.map_cons, List.map_nil, ev_yes, lz_or]; rfl
  | k + 4 =>
    have hk : chkE (lzy n 4) = 0 := h
    show evE env (ifN _) = evl env n
    rw [ev_if, evl_of (lzy_chk hk)]
    simp only [List.map_cons, List.map_nil, ev_yes, ev_no, lz_if_yes]
end
section
variable {F : Fence} {P : Program} {c : Ctx} {K : SP} {X : List (Nat × SP)} {R : SP}
def cntU (l : Array Bool) : Nat → Nat
  | 0 => 0
  | k + 1 => cntU l k + (if l.getD k true = true then 0 else 1)
theorem getD_set_self (l : Array Bool) (i : Nat) : (l.setIfInBounds i true).getD i true = true := by
  by_cases h : i < l.size
  · simp [Array.getD_eq_getD_getElem?, Array.getElem?_setIfInBounds, h]
  · simp [Array.getD_eq_getD_getElem?, Array.getElem?_setIfInBounds, h]
theorem cntU_ge {l : Array Bool} {i : Nat} : ∀ k, k ≤ i → cntU (l.setIfInBounds i true) k = cntU l k
  | 0, _ => rfl
  | k + 1, h => by
    unfold cntU
    rw [cntU_ge k (by omega), getD_set_ne true (show i ≠ k by omega)]
theorem cntU_set {l : Array Bool} {i : Nat} (h : l.getD i true = false) : ∀ k, i < k → cntU (l.setIfInBounds i true) k + 1 = cntU l k
  | 0, h9 => absurd h9 (by omega)
  | k + 1, hk => by
    unfold cntU
    by_cases e : i = k
    · subst e
      rw [cntU_ge i (Nat.le_refl _), getD_set_self, h]
      simp
    · rw [getD_set_ne true e]
      have := cntU_set h k (by omega)
      omega
theorem cntU_rep (n : Nat) : ∀ k, k ≤ n → cntU (Array.replicate n false) k = k
  | 0, _ => rfl
  | k + 1, h => by
    unfold cntU
    rw [cntU_rep n k (by omega), if_neg]
    simp [Array.getD_eq_getD_getElem?, show k < n by omega]
theorem getD_both {l : Array Bool} {i : Nat} (h : i < l.size) : l.getD i true = l.getD i false := by simp [Array.getD_eq_getD_getElem?, h]
theorem A_drawJ (hF : WideF F) [hm : MixC P] {id : Nat} {ops : List Oper} {s : Sta} (J : Array Bool → SP)
    (hac : ∀ (i : Nat) (o : Oper), opget ops i = some o → ∀ e ∈ o.after, e.on < i)
    (h0 : J (Array.replicate ops.length false) s)
    (step : ∀ (listed : Array Bool) (s : Sta) (i : Nat) (o : Oper), opget ops i = some o → listed.getD i true = false → (∀ e ∈ o.after, Region.binds .any e = true → listed.getD e.on false = true) → J listed s →
      want ops o s.env = some true ∧ Ef F P c o s (J (listed.setIfInBounds i true)))
    (fin : ∀ (listed : Array Bool) (s : Sta), (∀ i, i < ops.length → listed.getD i false = true) → J listed s → K s) :
    wpA F P c (.region id ops.toArray true) K X R s := fun a w hs => by
  have key : ∀ (m : Nat) (listed : Array Bool) (s : Sta) (a : Act) (w : World), listed.size = ops.length → cntU listed ops.length = m → s.ok c a w → J listed s →
      wpAnyIn F 0 P .any ops.toArray (Nml fun a w => ∃ s, s.ok c a w ∧ K s) m listed a w := by
    intro m
    have hlt : ∀ {i : Nat} {o : Oper}, ops.toArray[i]? = some o → i < ops.length := fun {i o} h => by
      have h9 : ops[i]? = some o := by simpa using h
      exact (List.getElem?_eq_some_iff.1 h9).1
    induction m with
    | zero =>
      intro listed s a w hsz hm hs hj
      have hall : ∀ i, i < ops.length → listed.getD i false = true := fun i hi => by
        rw [← getD_both (by omega)]
        cases hb : listed.getD i true with
        | true => rfl
        | false => have := cntU_set hb _ hi; omega
      refine ⟨?_, rfl, s, hs, fin listed s hall hj⟩
      rw [List.eq_nil_iff_forall_not_mem]
      intro i hi
      obtain ⟨h1, o, ho, _⟩ := mem_ready.1 hi
      have := hall i (hlt ho)
      rw [← getD_both (by have := hlt ho; omega), h1] at this
      cases this
    | succ m ih =>
      intro listed s a w hsz hm hs hj
      refine ⟨fun hr => ⟨rfl, s, hs, fin listed s (fun i hi => ?_) hj⟩, fun i hi => ?_⟩
      · induction i using Nat.strongRecOn with
        | _ i ih2 =>
          cases hb : listed.getD i false with
          | true => rfl
          | false =>
            have hmem : i ∈ Region.ready .any ops.toArray listed := mem_ready.2 ⟨by rw [getD_both (by omega), hb], ops[i], by simp [hi], fun e he _ => by
              have h8 : opget ops i = some ops[i] := by rw [opget_eq]; simp [hi]
              have h9 := hac i _ h8 e he
              exact ih2 e.on h9 (by omega)⟩
            rw [hr] at hmem
            cases hmem
      · obtain ⟨h1, o, ho, hall⟩ := mem_ready.1 hi
        have hl := hlt ho
        have ho' : opget ops i = some o := by rw [opget_eq]; simpa using ho
        obtain ⟨hw, hef⟩ := step listed s i o ho' h1 hall hj
        unfold wpOpIn
        rw [ho]
        dsimp only
        rw [if_pos (wanted_of_want hs.env hw)]
        exact Oper.wpIn_both (fun a' w' ⟨s', hs', k⟩ => ih _ s' a' w' (by simp [hsz]) (by have := cntU_set h1 _ hl; omega) hs' k) (fun e a w q => q.elim) (hef a w hs)
  have hs' : Sta.ok c s a w.drew := ⟨hs.defers, hs.size, hs.env, hs.holds.drew⟩
  have h1 := key ops.length (Array.replicate ops.length false) s a w.drew (by simp) (cntU_rep _ _ (Nat.le_refl _)) hs' h0
  refine wpIn_mono (wpIn_region_any hm.mixed (by simpa using h1)) ?_
  rintro e a w ⟨rfl, s, hs, hk⟩
  exact ⟨s, hs, hk⟩
/-- of a region: each operation has a slot of its own, that is not in use, and waits for earlier ones -/
def drawCk (ops : List Oper) (e0 : Env) (n : Nat) : Bool :=
  (ops.zipIdx 0).all fun q => match q.1.dst with
    | none => false
    | some d => Nat.blt d n && (match e0.find d with | none => true | some _ => false) && ((ops.zipIdx 0).all fun r => match r.1.dst with | none => true | some d' => !(Nat.beq d' d) || Nat.beq r.2 q.2) && q.1.after.toList.all (fun e => Nat.blt e.on q.2)
theorem zip_mem {ops : List Oper} {i : Nat} {o : Oper} (h : opget ops i = some o) : (o, i) ∈ ops.zipIdx 0 := by
  rw [opget_eq] at h
  rw [List.mem_zipIdx_iff_getElem?]
  simpa using h
theorem drawCk_at {ops : List Oper} {e0 : Env} {n : Nat} (h : drawCk ops e0 n = true) {i : Nat} {o : Oper} (ho : opget ops i = some o) :
    ∃ d, o.dst = some d ∧ Nat.blt d n = true ∧ e0.find d = none ∧ (∀ (j : Nat) (o' : Oper), opget ops j = some o' → o'.dst = some d → j = i) ∧ ∀ e ∈ o.after, e.on < i := by
  have h1 := List.all_eq_true.1 h _ (zip_mem ho)
  dsimp only at h1
  cases hd : o.dst with
  | none => rw [hd] at h1; cases h1
  | some d =>
    rw [hd] at h1
    simp only [Bool.and_eq_true] at h1
    obtain ⟨⟨⟨a1, a2⟩, a3⟩, a4⟩ := h1
    refine ⟨d, rfl, a1, ?_, fun j o' hj hd' => ?_, fun e he => ?_⟩
    · cases hf : e0.find d with
      | none => rfl
      | some v => rw [hf] at a2; cases a2
    · have h2 := List.all_eq_true.1 a3 _ (zip_mem hj)
      dsimp only at h2
      rw [hd'] at h2
      simp only [Nat.beq_refl, Bool.not_true, Bool.false_or] at h2
      exact Nat.eq_of_beq_eq_true h2
    · have h3 := List.all_eq_true.1 a4 e (by simpa using he)
      exact Nat.le_of_ble_eq_true h3
theorem A_drawG (hF : WideF F) [hm : MixC P] {id n : Nat} {ops : List Oper} {e0 : Env} {H0 : Hp} {M L : Own} {D : List Deferred} (Φ : Nat → Value → Hp → Prop)
    (hmono : ∀ i v H H', HLe H H' → Φ i v H → Φ i v H') (hck : drawCk ops e0 n = true)
    (step : ∀ (i : Nat) (o : Oper) (d : Nat), opget ops i = some o → o.dst = some d → Nat.blt d n = true → ∀ (e : Env) (H : Hp), HLe H0 H → (∀ t v, e0.find t = some v → e.find t = some v) →
      (∀ (j : Nat) (oj : Oper) (dj : Nat), (o.after.toList.any fun e => Region.binds .any e && Nat.beq e.on j) = true → opget ops j = some oj → oj.dst = some dj → ∃ v, e.find dj = some v ∧ Φ j v H) →
      want ops o e = some true ∧ Ef F P c o ⟨n, e, H, M, L, D⟩ (fun s' => ∃ v H', s' = ⟨n, (d, v) :: e, H', M, L, D⟩ ∧ HLe H H' ∧ Φ i v H'))
    (fin : ∀ (e : Env) (H : Hp), HLe H0 H → (∀ t v, e0.find t = some v → e.find t = some v) → (∀ (i : Nat) (o : Oper) (d : Nat), opget ops i = some o → o.dst = some d → ∃ v, e.find d = some v ∧ Φ i v H) → K ⟨n, e, H, M, L, D⟩) :
    wpA F P c (.region id ops.toArray true) K X R ⟨n, e0, H0, M, L, D⟩ := by
  refine A_drawJ hF (fun listed s => ∃ e H, s = ⟨n, e, H, M, L, D⟩ ∧ HLe H0 H ∧ (∀ t v, e0.find t = some v → e.find t = some v) ∧ ∀ (i : Nat) (o : Oper) (d : Nat), opget ops i = some o → o.dst = some d → listed.getD i false = true → ∃ v, e.find d = some v ∧ Φ i v H) ?_ ?_ ?_ ?_
  · intro i o ho e he
    obtain ⟨d, _, _, _, _, h⟩ := drawCk_at hck ho
    exact h e he
  · refine ⟨e0, H0, rfl, HLe.refl _, fun _ _ h => h, fun i o d ho _ hl => ?_⟩
    simp only [Array.getD_eq_getD_getElem?, Array.getElem?_replicate] at hl
    split at hl <;> simp at hl
  · rintro listed s i o ho hl hall ⟨e, H, rfl, hle, hb, hd⟩
    obtain ⟨d, h1, h2, h3, h4, h5⟩ := drawCk_at hck ho
    obtain ⟨hw, hef⟩ := step i o d ho h1 h2 e H hle hb (fun j oj dj hj hoj hdj => by
      obtain ⟨e', he', hb'⟩ := List.any_eq_true.1 hj
      simp only [Bool.and_eq_true] at hb'
      have hon := Nat.eq_of_beq_eq_true hb'.2
      subst hon
      exact hd _ oj dj hoj hdj (hall e' (by simpa using he') hb'.1))
    refine ⟨hw, Ef_mapK hef ?_⟩
    rintro s a w hs ⟨v, H', rfl, hle', hv⟩
    refine ⟨_, hs, _, H', rfl, hle.trans hle', fun t u ht => ?_, fun j oj dj hoj hdj hlj => ?_⟩
    · have hne : ¬ d = t := fun h9 => by rw [h9, ht] at h3; cases h3
      show (match Nat.beq d t with | true => some v | false => Env.find e t) = some u
      have : Nat.beq d t = false := by
        cases hb9 : Nat.beq d t with
        | true => exact absurd (Nat.eq_of_beq_eq_true hb9) hne
        | false => rfl
      rw [this]
      exact hb t u ht
    · by_cases hji : j = i
      · subst hji
        rw [ho] at hoj
        cases hoj
        rw [h1] at hdj
        cases hdj
        exact ⟨v, by show (match Nat.beq d d with | true => some v | false => Env.find e d) = some v; rw [Nat.beq_refl], hv⟩
      · rw [getD_set_ne false (Ne.symm hji)] at hlj
        obtain ⟨u, hu, hp⟩ := hd j oj dj hoj hdj hlj
        have hne : ¬ d = dj := fun h9 => hji (h4 j oj hoj (by rw [hdj, h9]))
        refine ⟨u, ?_, hmono j u H H' hle' hp⟩
        show (match Nat.beq d dj with | true => some v | false => Env.find e dj) = some u
        have : Nat.beq d dj = false := by
          cases hb9 : Nat.beq d dj with
          | true => exact absurd (Nat.eq_of_beq_eq_true hb9) hne
          | false => rfl
        rw [this]
        exact hu
  · rintro listed s hall ⟨e, H, rfl, hle, hb, hd⟩
    exact fin e H hle hb fun i o d ho hdd => hd i o d ho hdd (hall i (by rw [opget_eq] at ho; exact (List.getElem?_eq_some_iff.1 ho).1))
end
end Go.Proofs.YtnoadopmeoohmaaGreatDoor
