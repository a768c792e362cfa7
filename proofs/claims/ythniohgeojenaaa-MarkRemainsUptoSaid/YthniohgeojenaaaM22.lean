/-
  MarkEnds: what Original and Final leave; the walk.
-/
import Derived.Test.YthniohgeojenaaaM21
import Derived.Test.YthniohgeojenaaaM17
namespace Go.Proofs.Ythniohgeojenaaa
open Go
set_option linter.unusedVariables false
set_option linter.unusedSimpArgs false
/-! ### the plain law -/
theorem foldK_mem {k : Int} : ∀ (l : List Layr) (o : List Int), k ∈ l.foldl keyStep o ↔ k ∈ o ∨ ∃ y ∈ l, y.key = k
  | [], o => by simp
  | y :: r, o => by
    rw [List.foldl_cons, foldK_mem r]
    unfold keyStep
    by_cases h : y.key ∈ o
    · rw [if_pos h]
      constructor
      · rintro (h1 | ⟨z, hz, hk⟩)
        · exact .inl h1
        · exact .inr ⟨z, List.mem_cons_of_mem _ hz, hk⟩
      · rintro (h1 | ⟨z, hz, hk⟩)
        · exact .inl h1
        · rcases List.mem_cons.1 hz with rfl | hz
          · exact .inl (hk ▸ h)
          · exact .inr ⟨z, hz, hk⟩
    · rw [if_neg h]
      constructor
      · rintro (h1 | ⟨z, hz, hk⟩)
        · rcases List.mem_append.1 h1 with h1 | h1
          · exact .inl h1
          · exact .inr ⟨y, by simp, (by simpa using h1 : k = y.key).symm⟩
        · exact .inr ⟨z, List.mem_cons_of_mem _ hz, hk⟩
      · rintro (h1 | ⟨z, hz, hk⟩)
        · exact .inl (List.mem_append_left _ h1)
        · rcases List.mem_cons.1 hz with rfl | hz
          · exact .inl (List.mem_append_right _ (by simp [hk]))
          · exact .inr ⟨z, hz, hk⟩
theorem keysL_mem {l : List Layr} {k : Int} : k ∈ keysL l ↔ ∃ y ∈ l, y.key = k := by
  unfold keysL; rw [foldK_mem]; simp
def foldW (f : Int → St) (ks : List Int) (pr : List Prp) : List Prp := ks.foldl (fun pr k => withP pr k (f k)) pr
theorem foldW_spec {f : Int → St} (hf : ∀ k, (f k).ok) : ∀ (ks : List Int) (pr : List Prp), IncP pr → IncP (foldW f ks pr) ∧ (foldW f ks pr).length ≤ pr.length + ks.length ∧ ∀ k, getP (foldW f ks pr) k = if k ∈ ks then f k else getP pr k
  | [], pr, hp => ⟨hp, by simp [foldW], fun k => by simp [foldW]⟩
  | x :: r, pr, hp => by
    obtain ⟨h1, h2, h3⟩ := foldW_spec hf r (withP pr x (f x)) (withP_inc hp)
    have hl := withP_len pr x (f x)
    refine ⟨h1, ?_, fun k => ?_⟩
    · show (foldW f r (withP pr x (f x))).length ≤ _
      simp only [List.length_cons]; omega
    · show getP (foldW f r (withP pr x (f x))) k = _
      rw [h3 k, getP_with (hf x)]
      by_cases hk : k ∈ r
      · rw [if_pos hk, if_pos (List.mem_cons_of_mem _ hk)]
      · rw [if_neg hk]
        by_cases e : k = x
        · rw [if_pos e, if_pos (by rw [e]; simp), e]
        · rw [if_neg e, if_neg (by simp [e, hk])]
def baseS (q : Head) (k : Int) : St := nxt (getP q.props k) (layersK q.layers k)
def baseP (q : Head) : List Prp := foldW (baseS q) (keysL q.layers) q.props
theorem baseS_ok {q : Head} (hq : Good q) (k : Int) : (baseS q k).ok := nxt_ok (getP_ok _ _) fun y hy => hq.ok y (layersK_mem.1 hy).1
theorem gone_orig (q : Head) : goneB (fun _ => false) (fun _ => true) q = decide (¬ q.ins = 0) := by
  unfold goneB
  rw [List.any_eq_false.2 (fun y hy => by simp)]; simp
theorem gone_final (q : Head) : goneB (fun _ => true) (fun _ => false) q = decide (¬ q.dels = []) := by
  unfold goneB
  cases q.dels with
  | nil => simp
  | cons d r => simp
theorem orig_eq {q : Head} (hq : Good q) (hi : q.ins = 0) (hm : q.move = 0) : decH (fun _ => false) (fun _ => true) q = ⟨baseP q, 0, 0, [], []⟩ := by
  have hs := decH_spec (acc := fun _ => false) (rej := fun _ => true) hq (by rw [gone_orig]; simp [hi])
  obtain ⟨w1, w2, w3⟩ := foldW_spec (baseS_ok hq) (keysL q.layers) q.props hq.inc
  refine hs.good.ext ⟨w1, List.Pairwise.nil, fun y hy => by cases hy⟩ (by rw [hs.ins]; simp [hi]) (by rw [hs.move]; simp [hm]) (by rw [hs.dels]; simp) (fun k => ?_) (fun k => ?_)
  · rw [hs.props k, step_orig]
    show nxt _ _ = getP (foldW (baseS q) (keysL q.layers) q.props) k
    rw [w3 k]
    split
    · rfl
    · rename_i hk
      have : layersK q.layers k = [] := layersK_none fun y hy e => hk (keysL_mem.2 ⟨y, hy, e⟩)
      rw [this]; rfl
  · rw [hs.layers k, step_orig]; rfl
theorem final_eq {q : Head} (hq : Good q) (hd : q.dels = []) (hm : q.ins = 0 → q.move = 0) : decH (fun _ => true) (fun _ => false) q = ⟨q.props, 0, 0, [], []⟩ := by
  have hs := decH_spec (acc := fun _ => true) (rej := fun _ => false) hq (by rw [gone_final]; simp [hd])
  refine hs.good.ext ⟨hq.inc, List.Pairwise.nil, fun y hy => by cases hy⟩ ?_ ?_ (by rw [hs.dels]; simp [hd]) (fun k => ?_) (fun k => ?_)
  · rw [hs.ins]; by_cases h : q.ins = 0 <;> simp [h]
  · rw [hs.move]; by_cases h : q.ins = 0
    · simp [h, hm h]
    · simp [h]
  · rw [hs.props k, step_final]
  · rw [hs.layers k, step_final]; rfl
theorem baseP_step (q : Head) {j : Nat} {k : Int} (h : (keysL q.layers)[j]? = some k) : foldW (baseS q) ((keysL q.layers).take (j + 1)) q.props = withP (foldW (baseS q) ((keysL q.layers).take j) q.props) k (baseS q k) := by
  unfold foldW
  rw [take_get h, List.foldl_append]; rfl
theorem Ev_nebw {P : Program} {e : Env} {H : Hp} {R : Own} {dst : Option Tmp} {ty : TypeId} {pos : String} {after : Array Edge} {g : Option (Nat × Bool)} {x y : Operand} {t t2 : TypeId} [ht : UndC P t .bool] {b b' : Bool} (hx : e.eval x = some (.bool b)) (hy : e.eval y = some (.bool b')) (h : b = b') : Ev P ⟨dst, .binOp .neq t x y t2, ty, pos, after, g⟩ e H R (.bool false) := by
  subst h; exact Ev_nebs hx hy
theorem ordH_move (q : Head) : (ordH q).ins = 0 → (ordH q).move = 0 := fun h => by
  unfold ordH at *; simp only at *; rw [if_pos h]
end Go.Proofs.Ythniohgeojenaaa
