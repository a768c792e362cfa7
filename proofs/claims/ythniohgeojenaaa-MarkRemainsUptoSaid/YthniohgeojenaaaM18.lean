/-
  The plain law: both decides agree on ordered heads.
-/
import Derived.Test.YthniohgeojenaaaM16
namespace Go.Proofs.Ythniohgeojenaaa
open Go
set_option linter.unusedVariables false
set_option linter.unusedSimpArgs false
def St.ok (s : St) : Prop := s.set = false → s.val = 0
theorem St.fix {s : St} (h : s.ok) : (if s.set then s.val else 0) = s.val := by
  unfold St.ok at h
  cases hs : s.set with
  | true => rfl
  | false => rw [h hs]; rfl
theorem walk_new {rej : Int → Bool} {p : St} {k : Int} (hp : p.ok) : ∀ (l : List Layr) (now : St), now.ok → (∀ y ∈ l, y.st.ok ∧ y.key = k) → newL k (revG rej l) (now :: leftG rej p l) = (walkG rej p now l).2
  | [], now, _, _ => by simp [revG, leftG, newL, walkG]
  | y :: r, now, hn, hl => by
    have hr := fun z hz => hl z (List.mem_cons_of_mem _ hz)
    have hy := (hl y (by simp)).2
    have hx : (nxt p r).ok := by
      cases r with
      | nil => exact hp
      | cons z _ => exact (hl z (by simp)).1
    rw [revG, leftG, walkG]
    split
    · exact walk_new hp r now hn hr
    · rw [newL, walk_new hp r _ hx hr, St.fix hn]
      simp [Layr.put, hy]
theorem walk_last {rej : Int → Bool} {p : St} : ∀ (l : List Layr) (now : St), (now :: leftG rej p l).getD (revG rej l).length ⟨0, false⟩ = (walkG rej p now l).1
  | [], now => by simp [revG, leftG, walkG]
  | y :: r, now => by
    rw [revG, leftG, walkG]
    split
    · exact walk_last r now
    · rw [List.length_cons, List.getD_cons_succ]; exact walk_last r _
/-- the keys do not fall -/
abbrev Asc (l : List Layr) : Prop := l.Pairwise fun a b => a.key ≤ b.key
theorem grp_take : ∀ {k : Int} {l : List Layr}, ∀ y ∈ l.take (grp k l), y.key = k
  | k, [], y, h => by simp at h
  | k, z :: r, y, h => by
    rw [grp] at h
    split at h
    · rw [List.take_succ_cons] at h
      rcases List.mem_cons.1 h with rfl | h
      · assumption
      · exact grp_take y h
    · simp at h
theorem grp_drop : ∀ {k : Int} {l : List Layr}, Asc l → (∀ y ∈ l, k ≤ y.key) → ∀ y ∈ l.drop (grp k l), k < y.key
  | k, [], _, _, y, h => by simp at h
  | k, z :: r, hs, hk, y, h => by
    have h1 := (List.pairwise_cons.1 hs).1
    have h2 := (List.pairwise_cons.1 hs).2
    rw [grp] at h
    split at h
    · rw [List.drop_succ_cons] at h
      exact grp_drop h2 (fun w hw => hk w (List.mem_cons_of_mem _ hw)) y h
    · rename_i hz
      rw [List.drop_zero] at h
      have hzk := hk z (by simp)
      rcases List.mem_cons.1 h with rfl | h
      · omega
      · have := h1 y h; omega
theorem layersK_grp {k : Int} {l : List Layr} (hs : Asc l) (hk : ∀ y ∈ l, k ≤ y.key) : layersK l k = l.take (grp k l) := by
  have h := List.take_append_drop (grp k l) l
  conv => lhs; rw [← h]
  unfold layersK
  rw [List.filter_append, List.filter_eq_self.2 (fun y hy => by simpa using grp_take y hy), List.filter_eq_nil_iff.2 (fun y hy => by have := grp_drop hs hk y hy; simp; omega), List.append_nil]
theorem foldK_same : ∀ (l : List Layr) (o : List Int), (∀ y ∈ l, y.key ∈ o) → l.foldl keyStep o = o
  | [], o, _ => rfl
  | y :: r, o, h => by
    rw [List.foldl_cons, show keyStep o y = o by unfold keyStep; rw [if_pos (h y (by simp))]]
    exact foldK_same r o fun z hz => h z (List.mem_cons_of_mem _ hz)
theorem foldK_pre : ∀ (l : List Layr) (o p : List Int), (∀ y ∈ l, y.key ∉ p) → l.foldl keyStep (p ++ o) = p ++ l.foldl keyStep o
  | [], o, p, _ => rfl
  | y :: r, o, p, h => by
    have hy := h y (by simp)
    have e : keyStep (p ++ o) y = p ++ keyStep o y := by
      unfold keyStep
      by_cases hm : y.key ∈ o
      · rw [if_pos (by simp [hm]), if_pos hm]
      · rw [if_neg (by simp [hm, hy]), if_neg hm, List.append_assoc]
    rw [List.foldl_cons, e, List.foldl_cons]
    exact foldK_pre r _ p fun z hz => h z (List.mem_cons_of_mem _ hz)
theorem keysL_step {y : Layr} {r : List Layr} (hs : Asc (y :: r)) : keysL (y :: r) = y.key :: keysL ((y :: r).drop (grp y.key (y :: r))) := by
  have h1 := (List.pairwise_cons.1 hs).1
  have hk : ∀ z ∈ y :: r, y.key ≤ z.key := fun z hz => (List.mem_cons.1 hz).elim (fun e => by rw [e]; exact Int.le_refl _) (h1 z)
  have h := List.take_append_drop (grp y.key (y :: r)) (y :: r)
  have hg : (y :: r).take (grp y.key (y :: r)) = y :: r.take (grp y.key r) := by rw [grp, if_pos rfl]; rfl
  unfold keysL
  conv => lhs; rw [← h]
  rw [List.foldl_append, hg, List.foldl_cons, show keyStep [] y = [y.key] from rfl, foldK_same (r.take (grp y.key r)) [y.key] (fun z hz => by rw [grp_take z hz]; simp)]
  exact foldK_pre _ [] [y.key] (fun z hz => by have := grp_drop hs hk z hz; simp; omega)
theorem ltCnt_pre {k : Int} {A l : List Layr} (hA : ∀ y ∈ A, y.key < k) (hl : ∀ y ∈ l, k ≤ y.key) : ltCnt k (A ++ l) = A.length := by
  refine ltCnt_is (by simp) (fun j y hj hy => ?_) (fun y hy => ?_)
  · rw [List.getElem?_append_left hj] at hy; exact hA y (List.mem_of_getElem? hy)
  · rw [List.getElem?_append_right (Nat.le_refl _)] at hy
    have := hl y (List.mem_of_getElem? hy)
    omega
theorem walk_keys {rej : Int → Bool} {p : St} {k : Int} : ∀ (l : List Layr) (now : St), (∀ y ∈ l, y.key = k) → ∀ y ∈ (walkG rej p now l).2, y.key = k
  | [], now, _, y, h => by simp [walkG] at h
  | z :: r, now, hl, y, h => by
    have hr := fun w hw => hl w (List.mem_cons_of_mem _ hw)
    rw [walkG] at h
    split at h
    · exact walk_keys r now hr y h
    · rcases List.mem_cons.1 h with rfl | h
      · exact hl z (by simp)
      · exact walk_keys r _ hr y h
/-- the law's fold and the program's recursion -/
theorem fold_decL {acc rej : Int → Bool} {q : Head} (hq : ∀ k, (getP q.props k).ok) {i m : Int} {dd : List Dele} : ∀ (n : Nat) (l : List Layr) (pr : List Prp) (A : List Layr), l.length ≤ n → Asc l → (∀ y ∈ l, y.st.ok) → (∀ y ∈ l, layersK q.layers y.key = layersK l y.key) → (∀ a ∈ A, ∀ y ∈ l, a.key < y.key) →
    (keysL l).foldl (lawStep acc rej q) ⟨pr, i, m, dd, A ++ l⟩ = ⟨(decL acc rej q.props l pr A).1, i, m, dd, (decL acc rej q.props l pr A).2⟩
  | n, [], pr, A, _, _, _, _, _ => by simp [keysL, decL_nil]
  | 0, y :: r, pr, A, h, _, _, _, _ => by simp at h
  | n + 1, y :: r, pr, A, hn, hs, ho, hK, hA => by
    have h1 := (List.pairwise_cons.1 hs).1
    have hk : ∀ z ∈ y :: r, y.key ≤ z.key := fun z hz => (List.mem_cons.1 hz).elim (fun e => by rw [e]; exact Int.le_refl _) (h1 z)
    rw [keysL_step hs, List.foldl_cons, decL_step (l := y :: r) (y := y) (m := grp y.key (y :: r)) rfl rfl]
    have hgrp : layersK q.layers y.key = (y :: r).take (grp y.key (y :: r)) := by rw [hK y (by simp), layersK_grp hs hk]
    have hg1 : 1 ≤ grp y.key (y :: r) := by rw [grp, if_pos rfl]; omega
    have htk := grp_take (k := y.key) (l := y :: r)
    have hdr := grp_drop hs hk
    have hap := List.take_append_drop (grp y.key (y :: r)) (y :: r)
    generalize hG : (y :: r).take (grp y.key (y :: r)) = G at *
    generalize hD : (y :: r).drop (grp y.key (y :: r)) = D at *
    have hstep : lawStep acc rej q ⟨pr, i, m, dd, A ++ y :: r⟩ y.key = ⟨withP pr y.key (stepG acc rej (getP q.props y.key) G).1, i, m, dd, (A ++ (stepG acc rej (getP q.props y.key) G).2) ++ D⟩ := by
      have hZ : lawZ acc rej q y.key = (stepG acc rej (getP q.props y.key) G).1 := by
        unfold lawZ lawS lawR stepG
        rw [hgrp]
        exact walk_last _ _
      have hN : newL y.key (lawR acc rej q y.key) (lawS acc rej q y.key) = (stepG acc rej (getP q.props y.key) G).2 := by
        unfold lawS lawR stepG
        rw [hgrp]
        have hin : ∀ z ∈ G.drop (firstA acc G), z.st.ok ∧ z.key = y.key := fun z hz => by
          have hzG := List.mem_of_mem_drop hz
          refine ⟨ho z ?_, htk z hzG⟩
          rw [← hap]; exact List.mem_append_left _ hzG
        refine walk_new (hq y.key) _ _ ?_ hin
        cases hd : G.drop (firstA acc G) with
        | nil => exact hq y.key
        | cons w _ => exact (hin w (by rw [hd]; simp)).1
      have hL : layLs ⟨pr, i, m, dd, A ++ y :: r⟩ y.key (lawR acc rej q y.key) (lawS acc rej q y.key) = (A ++ (stepG acc rej (getP q.props y.key) G).2) ++ D := by
        unfold layLs
        show ((A ++ y :: r).take (ltCnt y.key (A ++ y :: r)) ++ _ ++ (A ++ y :: r).drop (ltCnt y.key (A ++ y :: r) + grp y.key ((A ++ y :: r).drop (ltCnt y.key (A ++ y :: r))))) = _
        rw [ltCnt_pre (fun a ha => hA a ha y (by simp)) hk, hN]
        simp only [List.take_left', List.drop_left', List.take_append_of_le_length (Nat.le_refl A.length), List.take_length, List.drop_length_add_append]
        rw [hD]
      unfold lawStep layH
      rw [hL, hZ]
    rw [hstep]
    have hDs : Asc D := by rw [← hD]; exact List.Pairwise.sublist (List.drop_sublist _ _) hs
    refine fold_decL hq n D _ _ ?_ hDs ?_ ?_ ?_
    · rw [← hD, List.length_drop]; simp at hn ⊢; omega
    · intro z hz; exact ho z (by rw [← hap]; exact List.mem_append_right _ hz)
    · intro z hz
      rw [hK z (by rw [← hap]; exact List.mem_append_right _ hz), ← hap]
      unfold layersK
      rw [List.filter_append, List.filter_eq_nil_iff.2 (fun w hw => by have := htk w hw; have := hdr z hz; simp; omega), List.nil_append]
    · intro a ha z hz
      have hz2 := hdr z hz
      rcases List.mem_append.1 ha with ha | ha
      · have := hA a ha y (by simp); omega
      · have := walk_keys (k := y.key) _ _ (fun w hw => htk w (List.mem_of_mem_drop hw)) a ha
        omega
theorem getP_ok : ∀ (l : List Prp) (k : Int), (getP l k).ok
  | [], k => fun _ => rfl
  | p :: r, k => by
    rw [getP]
    split
    · intro h; cases h
    · exact getP_ok r k
theorem law_eq {acc rej : Int → Bool} {q : Head} (hs : Asc q.layers) (ho : ∀ y ∈ q.layers, y.st.ok) : lawH acc rej q = decH acc rej q := by
  unfold lawH decH
  split
  · rfl
  · have h := fold_decL (acc := acc) (rej := rej) (q := q) (fun k => getP_ok q.props k) (i := insA acc q) (m := movA acc q) (dd := q.dels.filter (fun d => !rej d.rev)) q.layers.length q.layers q.props [] (Nat.le_refl _) hs ho (fun y _ => rfl) (fun a ha => by cases ha)
    exact h
end Go.Proofs.Ythniohgeojenaaa
