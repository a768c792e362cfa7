/-
  Set and the law's change as data: they agree.
-/
import Derived.Test.YthniohgeojenaaaM22
namespace Go.Proofs.Ythniohgeojenaaa
open Go
set_option linter.unusedVariables false
set_option linter.unusedSimpArgs false
/-! ### layered, key by key -/
theorem newL_keys {k : Int} : ∀ {R : List Int} {S : List St}, ∀ y ∈ newL k R S, y.key = k
  | [], _, y, h => by simp [newL] at h
  | r :: R, [], y, h => by simp [newL] at h
  | r :: R, s :: S, y, h => by
    rw [newL] at h
    rcases List.mem_cons.1 h with rfl | h
    · rfl
    · exact newL_keys y h
theorem newL_ok {k : Int} : ∀ {R : List Int} {S : List St}, ∀ y ∈ newL k R S, y.st.ok
  | [], _, y, h => by simp [newL] at h
  | r :: R, [], y, h => by simp [newL] at h
  | r :: R, s :: S, y, h => by
    rw [newL] at h
    rcases List.mem_cons.1 h with rfl | h
    · intro hs
      have : s.set = false := hs
      show (if s.set then s.val else 0) = 0
      rw [this]; rfl
    · exact newL_ok y h
theorem ltCnt_le (k : Int) : ∀ l : List Layr, ltCnt k l ≤ l.length
  | [] => Nat.le_refl _
  | y :: r => by have := ltCnt_le k r; rw [ltCnt]; split <;> simp <;> omega
theorem ltCnt_take {k : Int} : ∀ {l : List Layr}, ∀ y ∈ l.take (ltCnt k l), y.key < k
  | [], y, h => by simp at h
  | z :: r, y, h => by
    rw [ltCnt] at h
    split at h
    · rw [List.take_succ_cons] at h
      rcases List.mem_cons.1 h with rfl | h
      · assumption
      · exact ltCnt_take y h
    · simp at h
theorem ltCnt_drop {k : Int} : ∀ {l : List Layr}, Asc l → ∀ y ∈ l.drop (ltCnt k l), k ≤ y.key
  | [], _, y, h => by simp at h
  | z :: r, hs, y, h => by
    have h1 := (List.pairwise_cons.1 hs).1
    have h2 := (List.pairwise_cons.1 hs).2
    rw [ltCnt] at h
    split at h
    · rw [List.drop_succ_cons] at h; exact ltCnt_drop h2 y h
    · rw [List.drop_zero] at h
      rcases List.mem_cons.1 h with rfl | h
      · omega
      · have := h1 y h; omega
/-- the three parts of layers: below a key, of the key, above it -/
theorem parts3 {l : List Layr} (hs : Asc l) (k : Int) : ∃ A C, l = A ++ layersK l k ++ C ∧ (∀ y ∈ A, y.key < k) ∧ (∀ y ∈ C, k < y.key) ∧ A = l.take (ltCnt k l) ∧ C = l.drop (ltCnt k l + grp k (l.drop (ltCnt k l))) ∧ Asc A ∧ Asc C := by
  have hD : Asc (l.drop (ltCnt k l)) := List.Pairwise.sublist (List.drop_sublist _ _) hs
  have hg := layersK_grp hD (ltCnt_drop hs)
  have h1 := ltCnt_take (k := k) (l := l)
  have h2 := grp_drop hD (ltCnt_drop (k := k) hs)
  have e : layersK l k = (l.drop (ltCnt k l)).take (grp k (l.drop (ltCnt k l))) := by
    rw [← hg]
    conv => lhs; rw [← List.take_append_drop (ltCnt k l) l]
    rw [layersK_app, layersK_none (fun y hy => by have := h1 y hy; omega), List.nil_append]
  refine ⟨_, _, ?_, h1, ?_, rfl, rfl, List.Pairwise.sublist (List.take_sublist _ _) hs, List.Pairwise.sublist (List.drop_sublist _ _) hs⟩
  · rw [e, List.append_assoc]
    conv => lhs; rw [← List.take_append_drop (ltCnt k l) l, ← List.take_append_drop (grp k (l.drop (ltCnt k l))) (l.drop (ltCnt k l)), List.drop_drop]
  · intro y hy
    rw [← List.drop_drop] at hy
    exact h2 y hy
theorem asc3 {A B C : List Layr} {k : Int} (hA : Asc A) (hC : Asc C) (h1 : ∀ y ∈ A, y.key < k) (h2 : ∀ y ∈ B, y.key = k) (h3 : ∀ y ∈ C, k < y.key) : Asc (A ++ B ++ C) := by
  refine List.pairwise_append.2 ⟨List.pairwise_append.2 ⟨hA, asc_same h2, fun a ha b hb => ?_⟩, hC, fun a ha b hb => ?_⟩
  · have := h1 a ha; have := h2 b hb; omega
  · have := h3 b hb
    rcases List.mem_append.1 ha with ha | ha
    · have := h1 a ha; omega
    · have := h2 a ha; omega
theorem keys3 {A B C : List Layr} {k : Int} (h1 : ∀ y ∈ A, y.key < k) (h2 : ∀ y ∈ B, y.key = k) (h3 : ∀ y ∈ C, k < y.key) (x : Int) : layersK (A ++ B ++ C) x = if x = k then B else layersK (A ++ C) x := by
  by_cases e : x = k
  · subst e
    rw [if_pos rfl, layersK_app, layersK_app, layersK_none (l := A) (fun y hy => by have := h1 y hy; omega), layersK_all h2, layersK_none (l := C) (fun y hy => by have := h3 y hy; omega)]
    simp
  · rw [if_neg e, layersK_app, layersK_app, layersK_app, layersK_none (l := B) (fun y hy => by have := h2 y hy; omega), List.append_nil]
/-- a head in which one key was changed -/
structure KeySpec (q o : Head) (k : Int) (s : St) (g : List Layr) : Prop where
  good : Good o
  ins : o.ins = q.ins
  move : o.move = q.move
  dels : o.dels = q.dels
  props : ∀ x, getP o.props x = if x = k then s else getP q.props x
  layers : ∀ x, layersK o.layers x = if x = k then g else layersK q.layers x
theorem KeySpec.eq {q o o' : Head} {k : Int} {s : St} {g : List Layr} (h : KeySpec q o k s g) (h' : KeySpec q o' k s g) : o = o' :=
  h.good.ext h'.good (h.ins.trans h'.ins.symm) (h.move.trans h'.move.symm) (h.dels.trans h'.dels.symm) (fun x => (h.props x).trans (h'.props x).symm) (fun x => (h.layers x).trans (h'.layers x).symm)
theorem KeySpec.mk3 {q : Head} {k : Int} {s : St} {g A C : List Layr} (hq : Good q) (hs : s.ok) (hg : ∀ y ∈ g, y.key = k) (ho : ∀ y ∈ g, y.st.ok) (hl : q.layers = A ++ layersK q.layers k ++ C) (hA : Asc A) (hC : Asc C) (h1 : ∀ y ∈ A, y.key < k) (h3 : ∀ y ∈ C, k < y.key) :
    KeySpec q ⟨withP q.props k s, q.ins, q.move, q.dels, A ++ g ++ C⟩ k s g := by
  refine ⟨⟨withP_inc hq.inc, asc3 hA hC h1 hg h3, fun y hy => ?_⟩, rfl, rfl, rfl, fun x => getP_with hs _ _ _, fun x => ?_⟩
  · rcases List.mem_append.1 hy with hy | hy
    · rcases List.mem_append.1 hy with hy | hy
      · exact hq.ok y (by rw [hl]; simp [hy])
      · exact ho y hy
    · exact hq.ok y (by rw [hl]; simp [hy])
  · show layersK (A ++ g ++ C) x = _
    rw [keys3 h1 hg h3]
    by_cases e : x = k
    · rw [if_pos e, if_pos e]
    · rw [if_neg e, if_neg e]
      have := keys3 (B := layersK q.layers k) h1 layersK_key h3 x
      rw [if_neg e, ← hl] at this
      exact this.symm
theorem layH_spec {q : Head} {k : Int} {R : List Int} {S : List St} {z : St} (hq : Good q) (hz : z.ok) : KeySpec q (layH q k R S z) k z (newL k R S) := by
  obtain ⟨A, C, hl, h1, h3, rfl, rfl, hA, hC⟩ := parts3 hq.asc k
  exact KeySpec.mk3 hq hz newL_keys newL_ok hl hA hC h1 h3
theorem newL_same {k : Int} {z : St} : ∀ {g : List Layr}, (∀ y ∈ g, y.key = k) → (∀ y ∈ g, y.st.ok) → ∀ {S : List St}, newL k (g.map Layr.rev) (g.map Layr.st ++ S) = g
  | [], _, _, _ => by simp [newL]
  | y :: r, hk, ho, S => by
    have h := newL_same (z := z) (fun w hw => hk w (List.mem_cons_of_mem _ hw)) (fun w hw => ho w (List.mem_cons_of_mem _ hw)) (S := S) (g := r)
    rw [List.map_cons, List.map_cons, List.cons_append, newL, h, St.fix (ho y (by simp))]
    have := hk y (by simp)
    obtain ⟨a, b, c, d⟩ := y
    simp only at this
    subst this
    rfl
/-! ### what Set does, for one key -/
def setG (rev : Int) (ins : Int) (k : Int) (s p : St) (g : List Layr) : List Layr :=
  if rev = 0 ∨ (ins = rev ∧ g = []) then g
  else if g.getLast?.map Layr.rev = some rev then (if g.getLast?.map Layr.st = some s then g.dropLast else g)
  else g ++ [⟨rev, k, p.val, p.set⟩]
def setE (q : Head) (rev k : Int) (s : St) : Bool :=
  (!decide (getP q.props k = s)) && (!decide (rev = 0 ∨ (q.ins = rev ∧ layersK q.layers k = []))) && (!decide ((layersK q.layers k).getLast?.map Layr.rev = some rev)) && decide (64 ≤ q.layers.length)
/-- what Set and change return: the same head where there is one -/
def SetSpec (q : Head) (rev k : Int) (s : St) (o : Head) (e : Int) : Prop :=
  if getP q.props k = s then o = q ∧ e = 0
  else if setE q rev k s then o = Head.none ∧ e = 9
  else KeySpec q o k s (setG rev q.ins k s (getP q.props k) (layersK q.layers k)) ∧ e = 0
theorem SetSpec.eq {q : Head} {rev k : Int} {s : St} {o o' : Head} {e e' : Int} (h : SetSpec q rev k s o e) (h' : SetSpec q rev k s o' e') : o = o' ∧ e = e' := by
  unfold SetSpec at h h'
  by_cases h1 : getP q.props k = s
  · rw [if_pos h1] at h h'; exact ⟨h.1.trans h'.1.symm, h.2.trans h'.2.symm⟩
  · rw [if_neg h1] at h h'
    by_cases h2 : setE q rev k s = true
    · rw [if_pos h2] at h h'; exact ⟨h.1.trans h'.1.symm, h.2.trans h'.2.symm⟩
    · rw [if_neg h2] at h h'; exact ⟨h.1.eq h'.1, h.2.trans h'.2.symm⟩
theorem setG_orig {rev ins k : Int} {s p : St} {g : List Layr} (h1 : rev ≠ 0) (h2 : ins ≠ rev) : nxt s (setG rev ins k s p g) = nxt p g := by
  unfold setG
  rw [if_neg (by simp [h1, h2])]
  by_cases hg : g = []
  · subst hg; simp [nxt]; rfl
  · obtain ⟨g0, y, rfl⟩ : ∃ g0 y, g = g0 ++ [y] := ⟨g.dropLast, g.getLast hg, (List.dropLast_concat_getLast hg).symm⟩
    simp only [List.getLast?_append, List.getLast?_singleton, Option.some_or, Option.map_some, List.dropLast_concat]
    have hn : ∀ l : List Layr, nxt s (g0 ++ [y] ++ l) = nxt p (g0 ++ [y]) := fun l => by cases g0 <;> rfl
    split
    · split
      · rename_i hs
        have hs : y.st = s := by simpa using hs
        cases g0 with
        | nil => simp [nxt, hs]
        | cons z r => rfl
      · have := hn []; rwa [List.append_nil] at this
    · exact hn _
/-- the base is what it was -/
theorem KeySpec.orig {q o : Head} {rev k : Int} {s : St} (hq : Good q) (h : KeySpec q o k s (setG rev q.ins k s (getP q.props k) (layersK q.layers k))) (h1 : rev ≠ 0) (h2 : q.ins ≠ rev) : decH (fun _ => false) (fun _ => true) o = decH (fun _ => false) (fun _ => true) q := by
  by_cases hi : q.ins = 0
  · have s1 := decH_spec (acc := fun _ => false) (rej := fun _ => true) hq (by rw [gone_orig]; simp [hi])
    have s2 := decH_spec (acc := fun _ => false) (rej := fun _ => true) h.good (by rw [gone_orig, h.ins]; simp [hi])
    refine s2.good.ext s1.good (by rw [s2.ins, s1.ins, h.ins]) (by rw [s2.move, s1.move, h.ins, h.move]) (by rw [s2.dels, s1.dels, h.dels]) (fun x => ?_) (fun x => ?_)
    · rw [s2.props, s1.props, step_orig, step_orig, h.props, h.layers]
      by_cases e : x = k
      · rw [if_pos e, if_pos e, e]; exact setG_orig h1 h2
      · rw [if_neg e, if_neg e]
    · rw [s2.layers, s1.layers, step_orig, step_orig]
  · rw [decH_gone (q := q) (by rw [gone_orig]; simp [hi]), decH_gone (q := o) (by rw [gone_orig, h.ins]; simp [hi])]
end Go.Proofs.Ythniohgeojenaaa
