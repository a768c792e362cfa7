/-
  MarkUnites: the plain law.
-/
import Derived.Test.YthniohgeojenaaaS12
import Derived.Test.YthniohgeojenaaaM22
namespace Go.Proofs.Ythniohgeojenaaa
open Go
set_option linter.unusedVariables false
set_option linter.unusedSimpArgs false
/-! ### layers as a chain: a base, and what follows each revision -/
def decC (k : Int) : St → List (Int × St) → St × List Layr
  | b, [] => (b, [])
  | b, (r, a) :: c => ((decC k a c).1, ⟨r, k, b.val, b.set⟩ :: (decC k a c).2)
theorem encC {k : Int} {p : St} : ∀ {g : List Layr}, (∀ y ∈ g, y.key = k) → ∃ b c, decC k b c = (p, g)
  | [], _ => ⟨p, [], rfl⟩
  | y :: r, h => by
    obtain ⟨b, c, hc⟩ := encC (p := p) (fun z hz => h z (List.mem_cons_of_mem _ hz))
    refine ⟨y.st, (y.rev, b) :: c, ?_⟩
    rw [decC, hc]
    have := h y (by simp)
    obtain ⟨a1, a2, a3, a4⟩ := y
    simp only at this
    subst this
    rfl
theorem nxt_dec {k : Int} : ∀ (b : St) (c : List (Int × St)), nxt (decC k b c).1 (decC k b c).2 = b
  | b, [] => rfl
  | b, (r, a) :: c => rfl
theorem walk_dec {k : Int} {rej : Int → Bool} : ∀ (c : List (Int × St)) (b now : St), walkG rej (decC k b c).1 now (decC k b c).2 = decC k now (c.filter fun x => !rej x.1)
  | [], b, now => rfl
  | (r, a) :: c, b, now => by
    rw [decC, walkG, List.filter_cons]
    by_cases h : rej r = true
    · rw [if_pos h, if_neg (by simp [h])]; exact walk_dec c a now
    · rw [if_neg h, if_pos (by simpa using h), nxt_dec a c, walk_dec c a a]
      rfl
def dropC (acc : Int → Bool) : St → List (Int × St) → St × List (Int × St)
  | b, [] => (b, [])
  | b, (r, a) :: c => if acc r || c.any (fun x => acc x.1) then dropC acc a c else (b, (r, a) :: c)
theorem firstA_zero {acc : Int → Bool} {k : Int} : ∀ (c : List (Int × St)) (b : St), firstA acc (decC k b c).2 = 0 ↔ c.any (fun x => acc x.1) = false
  | [], b => by simp [decC, firstA]
  | (r, a) :: c, b => by
    have ih := firstA_zero (acc := acc) (k := k) c a
    rw [decC, firstA, List.any_cons]
    by_cases h : firstA acc (decC k a c).2 = 0
    · rw [if_neg (by simp [h]), ih.1 h, Bool.or_false]
      by_cases hr : acc r = true
      · rw [if_pos hr]; simp [hr]
      · rw [if_neg hr]; simp [hr]
    · rw [if_pos h]
      have : c.any (fun x => acc x.1) = true := by
        cases hc : c.any (fun x => acc x.1) with
        | true => rfl
        | false => exact absurd (ih.2 hc) h
      rw [this]; simp
theorem drop_dec {k : Int} {acc : Int → Bool} : ∀ (c : List (Int × St)) (b : St), decC k (dropC acc b c).1 (dropC acc b c).2 = ((decC k b c).1, (decC k b c).2.drop (firstA acc (decC k b c).2))
  | [], b => by simp [dropC, decC]
  | (r, a) :: c, b => by
    have ih := drop_dec (k := k) (acc := acc) c a
    have fz := firstA_zero (acc := acc) (k := k) c a
    rw [dropC]
    by_cases h : (acc r || c.any (fun x => acc x.1)) = true
    · rw [if_pos h, ih, decC, firstA]
      by_cases h0 : firstA acc (decC k a c).2 = 0
      · have hr : acc r = true := by rw [fz.1 h0, Bool.or_false] at h; exact h
        rw [if_neg (by simp [h0]), if_pos hr, h0]; rfl
      · rw [if_pos h0]; rfl
    · have h : (acc r || c.any (fun x => acc x.1)) = false := by simpa using h
      rw [if_neg (by rw [h]; simp)]
      rw [Bool.or_eq_false_iff] at h
      rw [decC, firstA, if_neg (by simp [fz.2 h.2]), if_neg (by simp [h.1])]
      rfl
def stepC (acc rej : Int → Bool) (b : St) (c : List (Int × St)) : St × List (Int × St) := ((dropC acc b c).1, (dropC acc b c).2.filter fun x => !rej x.1)
theorem step_dec {k : Int} {acc rej : Int → Bool} (b : St) (c : List (Int × St)) : stepG acc rej (decC k b c).1 (decC k b c).2 = decC k (stepC acc rej b c).1 (stepC acc rej b c).2 := by
  have h := drop_dec (k := k) (acc := acc) c b
  have h1 : (decC k b c).1 = (decC k (dropC acc b c).1 (dropC acc b c).2).1 := by rw [h]
  have h2 : (decC k b c).2.drop (firstA acc (decC k b c).2) = (decC k (dropC acc b c).1 (dropC acc b c).2).2 := by rw [h]
  unfold stepG
  rw [h2]
  conv => lhs; rw [h1]
  rw [nxt_dec, walk_dec]
  rfl
theorem drop_base {acc : Int → Bool} {b b' : St} : ∀ {c : List (Int × St)}, c.any (fun x => acc x.1) = true → dropC acc b c = dropC acc b' c
  | [], h => by simp at h
  | (r, a) :: c, h => by
    rw [List.any_cons] at h
    rw [dropC, dropC, if_pos h, if_pos h]
theorem any_filter {acc rej : Int → Bool} (hd : ∀ x, acc x = true → rej x = false) (c : List (Int × St)) : (c.filter fun x => !rej x.1).any (fun x => acc x.1) = c.any (fun x => acc x.1) := by
  induction c with
  | nil => rfl
  | cons x r ih =>
    rw [List.filter_cons]
    by_cases h : rej x.1 = true
    · rw [if_neg (by simp [h]), ih, List.any_cons]
      cases ha : acc x.1 with
      | true => rw [hd _ ha] at h; cases h
      | false => rw [Bool.false_or]
    · rw [if_pos (by simpa using h), List.any_cons, List.any_cons, ih]
section
variable {a1 r1 a2 r2 : Int → Bool}
theorem filt2 (c : List (Int × St)) : (c.filter fun x => !r1 x.1).filter (fun x => !r2 x.1) = c.filter fun x => !(r1 x.1 || r2 x.1) := by
  rw [List.filter_filter]
  congr 1
  funext x
  cases r1 x.1 <;> cases r2 x.1 <;> rfl
theorem any_none {c : List (Int × St)} (h : c.any (fun x => a1 x.1) = false) : c.any (fun x => a1 x.1 || a2 x.1) = c.any (fun x => a2 x.1) := by
  induction c with
  | nil => rfl
  | cons x r ih =>
    rw [List.any_cons, Bool.or_eq_false_iff] at h
    rw [List.any_cons, List.any_cons, ih h.2, h.1, Bool.false_or]
theorem step_late (h21 : ∀ x, a2 x = true → r1 x = false) : ∀ (c : List (Int × St)) (b : St), c.any (fun x => a1 x.1) = false → stepC a2 r2 b (c.filter fun x => !r1 x.1) = stepC (fun x => a1 x || a2 x) (fun x => r1 x || r2 x) b c
  | [], b, _ => rfl
  | (r, a) :: c, b, h => by
    rw [List.any_cons, Bool.or_eq_false_iff] at h
    have ih := step_late h21 c a h.2
    have hf := any_filter h21 c
    have hn := any_none (a2 := a2) h.2
    rw [List.filter_cons]
    by_cases hr : r1 r = true
    · have ha2 : a2 r = false := by
        cases ha : a2 r with
        | true => rw [h21 _ ha] at hr; cases hr
        | false => rfl
      rw [if_neg (by simp [hr])]
      unfold stepC
      rw [dropC, h.1, ha2, Bool.false_or, Bool.false_or, hn]
      cases hany : c.any (fun x => a2 x.1) with
      | true =>
        rw [if_pos rfl]
        have hb := drop_base (acc := a2) (b := b) (b' := a) (c := c.filter fun x => !r1 x.1) (by rw [hf]; exact hany)
        rw [hb]
        exact ih
      | false =>
        rw [if_neg (by simp)]
        have hd : dropC a2 b (c.filter fun x => !r1 x.1) = (b, c.filter fun x => !r1 x.1) := by
          cases hc : c.filter fun x => !r1 x.1 with
          | nil => rfl
          | cons y w =>
            rw [hc, hany] at hf
            rw [List.any_cons] at hf
            obtain ⟨y1, y2⟩ := y
            rw [dropC, hf, if_neg (by simp)]
        rw [hd, filt2, List.filter_cons, if_neg (by simp [hr])]
    · have hr : r1 r = false := by simpa using hr
      rw [if_pos (by simp [hr])]
      unfold stepC
      rw [dropC, dropC, hf, h.1, Bool.false_or, hn]
      by_cases hcond : (a2 r || c.any (fun x => a2 x.1)) = true
      · rw [if_pos hcond, if_pos hcond]; exact ih
      · rw [if_neg hcond, if_neg hcond]
        have e : (r, a) :: (c.filter fun x => !r1 x.1) = ((r, a) :: c).filter fun x => !r1 x.1 := by rw [List.filter_cons, if_pos (by simp [hr])]
        show (b, List.filter (fun x => !r2 x.1) ((r, a) :: (c.filter fun x => !r1 x.1))) = (b, List.filter (fun x => !(r1 x.1 || r2 x.1)) ((r, a) :: c))
        rw [e, filt2]
theorem step_comp (h21 : ∀ x, a2 x = true → r1 x = false) : ∀ (c : List (Int × St)) (b : St), stepC a2 r2 (stepC a1 r1 b c).1 (stepC a1 r1 b c).2 = stepC (fun x => a1 x || a2 x) (fun x => r1 x || r2 x) b c
  | [], b => rfl
  | (r, a) :: c, b => by
    by_cases h : (a1 r || c.any (fun x => a1 x.1)) = true
    · have e : stepC a1 r1 b ((r, a) :: c) = stepC a1 r1 a c := by unfold stepC; rw [dropC, if_pos h]
      have h2 : ((a1 r || a2 r) || c.any (fun x => a1 x.1 || a2 x.1)) = true := by
        rw [Bool.or_eq_true] at h
        rcases h with h | h
        · simp [h]
        · obtain ⟨x, hx, hax⟩ := List.any_eq_true.1 h
          have : c.any (fun x => a1 x.1 || a2 x.1) = true := List.any_eq_true.2 ⟨x, hx, by rw [hax]; rfl⟩
          rw [this]; simp
      have e2 : stepC (fun x => a1 x || a2 x) (fun x => r1 x || r2 x) b ((r, a) :: c) = stepC (fun x => a1 x || a2 x) (fun x => r1 x || r2 x) a c := by unfold stepC; rw [dropC, if_pos h2]
      rw [e, e2]
      exact step_comp h21 c a
    · have hf : (a1 r || c.any (fun x => a1 x.1)) = false := by simpa using h
      have e : stepC a1 r1 b ((r, a) :: c) = (b, ((r, a) :: c).filter fun x => !r1 x.1) := by unfold stepC; rw [dropC, if_neg h]
      rw [e]
      exact step_late h21 _ b (by rw [List.any_cons]; exact hf)
theorem stepG_comp (h21 : ∀ x, a2 x = true → r1 x = false) {p : St} {g : List Layr} {k : Int} (hg : ∀ y ∈ g, y.key = k) : stepG a2 r2 (stepG a1 r1 p g).1 (stepG a1 r1 p g).2 = stepG (fun x => a1 x || a2 x) (fun x => r1 x || r2 x) p g := by
  obtain ⟨b, c, hc⟩ := encC (p := p) hg
  have hp : p = (decC k b c).1 := by rw [hc]
  have hgg : g = (decC k b c).2 := by rw [hc]
  rw [hp, hgg, step_dec, step_dec, step_dec, step_comp h21]
/-- one decision and then another one -/
theorem unite_law {q : Head} (hq : Good q) (h12 : ∀ x, a1 x = true → r2 x = false) (h21 : ∀ x, a2 x = true → r1 x = false) :
    (goneB a1 r1 q = true → goneB (fun x => a1 x || a2 x) (fun x => r1 x || r2 x) q = true) ∧
    (goneB a1 r1 q = false → goneB a2 r2 (decH a1 r1 q) = goneB (fun x => a1 x || a2 x) (fun x => r1 x || r2 x) q ∧ decH a2 r2 (decH a1 r1 q) = decH (fun x => a1 x || a2 x) (fun x => r1 x || r2 x) q) := by
  constructor
  · intro h
    unfold goneB at *
    rw [Bool.or_eq_true] at h ⊢
    rcases h with h | h
    · left
      rw [Bool.and_eq_true] at h ⊢
      exact ⟨h.1, by show (r1 q.ins || r2 q.ins) = true; rw [h.2]; rfl⟩
    · right
      obtain ⟨d, hd, hx⟩ := List.any_eq_true.1 h
      exact List.any_eq_true.2 ⟨d, hd, by show (a1 d.rev || a2 d.rev) = true; rw [hx]; rfl⟩
  · intro h
    have s1 := decH_spec hq h
    have h' := h
    unfold goneB at h'
    rw [Bool.or_eq_false_iff] at h'
    obtain ⟨hi, hdl⟩ := h'
    have hda : ∀ d ∈ q.dels, a1 d.rev = false := fun d hd => by have := List.any_eq_false.1 hdl d hd; simpa using this
    have hg : goneB a2 r2 (decH a1 r1 q) = goneB (fun x => a1 x || a2 x) (fun x => r1 x || r2 x) q := by
      unfold goneB
      rw [s1.ins, s1.dels]
      have e1 : (q.dels.filter fun d => !r1 d.rev).any (fun d => a2 d.rev) = q.dels.any (fun d => a1 d.rev || a2 d.rev) := by
        rw [Bool.eq_iff_iff, List.any_eq_true, List.any_eq_true]
        constructor
        · rintro ⟨d, hd, hx⟩
          exact ⟨d, (List.mem_filter.1 hd).1, by rw [hx]; simp⟩
        · rintro ⟨d, hd, hx⟩
          rw [hda d hd, Bool.false_or] at hx
          exact ⟨d, List.mem_filter.2 ⟨hd, by rw [h21 _ hx]; rfl⟩, hx⟩
      rw [e1]
      congr 1
      by_cases h0 : q.ins = 0
      · simp [h0]
      · simp only [ne_eq, h0, not_false_eq_true, decide_true, Bool.true_and] at hi ⊢
        rw [hi, Bool.false_or]
        cases ha : a1 q.ins with
        | true => rw [if_pos rfl, h12 _ ha]; simp
        | false => rw [if_neg (by simp)]; simp [h0]
    refine ⟨hg, ?_⟩
    cases h3 : goneB (fun x => a1 x || a2 x) (fun x => r1 x || r2 x) q with
    | true => rw [decH_gone h3, decH_gone (hg.trans h3)]
    | false =>
      have s2 := decH_spec s1.good (hg.trans h3)
      have s3 := decH_spec hq h3
      refine s2.good.ext s3.good ?_ ?_ ?_ (fun k => ?_) (fun k => ?_)
      · rw [s2.ins, s3.ins, s1.ins]
        by_cases h0 : q.ins = 0
        · simp [h0]
        · cases ha : a1 q.ins <;> cases hb : a2 q.ins <;> simp [h0, ha, hb]
      · rw [s2.move, s3.move, s1.ins, s1.move]
        by_cases h0 : q.ins = 0
        · simp [h0]
        · cases ha : a1 q.ins <;> cases hb : a2 q.ins <;> simp [h0, ha, hb]
      · rw [s2.dels, s3.dels, s1.dels, List.filter_filter]
        congr 1
        funext d
        cases r1 d.rev <;> cases r2 d.rev <;> rfl
      · rw [s2.props, s3.props, s1.props, s1.layers, stepG_comp h21 layersK_key]
      · rw [s2.layers, s3.layers, s1.props, s1.layers, stepG_comp h21 layersK_key]
end
theorem valid_chk (d : Dec) : chkD (validD d) = 0 := by
  have hA : chkL (validD d).acc = 0 := chkL_of (sortI_inc _) fun x hx => by
    have := List.mem_filter.1 (sortI_mem.1 hx)
    have := of_decide_eq_true (show decide (1 ≤ x ∧ x ≤ 1073741824) = true from this.2)
    exact this
  have hR0 : ∀ x ∈ (validD d).rej, okId x = true ∧ x ∉ (validD d).acc := fun x hx => by
    have := (List.mem_filter.1 (sortI_mem.1 hx)).2
    rw [Bool.and_eq_true] at this
    exact ⟨this.1, of_decide_eq_true this.2⟩
  have hR : chkL (validD d).rej = 0 := chkL_of (sortI_inc _) fun x hx => by
    have := of_decide_eq_true (show decide (1 ≤ x ∧ x ≤ 1073741824) = true from (hR0 x hx).1)
    exact this
  unfold chkD
  rw [if_neg (by simp [hA]), if_neg (by simp [hR]), if_neg]
  intro h
  obtain ⟨x, hx, hm⟩ := List.any_eq_true.1 h
  exact (hR0 x (of_decide_eq_true hm)).2 hx
theorem uni_acc (a b : Dec) : (uniD a b).accB = fun x => a.accB x || b.accB x := by
  funext x
  unfold Dec.accB uniD
  simp only [sortI_mem, List.mem_append]
  rw [Bool.eq_iff_iff]; simp
theorem uni_rej (a b : Dec) : (uniD a b).rejB = fun x => a.rejB x || b.rejB x := by
  funext x
  unfold Dec.rejB uniD
  simp only [sortI_mem, List.mem_append]
  rw [Bool.eq_iff_iff]; simp
/-- decisions whose union is fine do not contradict each other -/
theorem uni_apart {a b : Dec} (h : chkD (uniD a b) = 0) : (∀ x, a.accB x = true → b.rejB x = false) ∧ (∀ x, b.accB x = true → a.rejB x = false) := by
  have hz := (chkD_zero h).2.2
  constructor
  · intro x hx
    refine decide_eq_false fun hr => hz x (sortI_mem.2 (List.mem_append_left _ (of_decide_eq_true hx))) (sortI_mem.2 (List.mem_append_right _ hr))
  · intro x hx
    refine decide_eq_false fun hr => hz x (sortI_mem.2 (List.mem_append_right _ (of_decide_eq_true hx))) (sortI_mem.2 (List.mem_append_left _ hr))
end Go.Proofs.Ythniohgeojenaaa
