/-
  The plain law: both decides agree on ordered heads.
  What the law's ordered heads and valid decisions are.
  The algebra of marks, key by key: heads are what their states and layers are for each key.
  MarkEnds: what Original and Final leave; the walk.
  Set and the law's change as data: they agree.
-/
import Derived.Test.YthniohgeojenaaaM16
import Derived.Test.YthniohgeojenaaaM12
import Derived.Test.YthniohgeojenaaaM17
namespace Go.Proofs.Ythniohgeojenaaa
open Go
set_option linter.unusedVariables false
set_option linter.unusedSimpArgs false
section
/-! The plain law: both decides agree on ordered heads. -/
def St.ok (s : St) : Prop := s.set = false → s.val = 0
theorem St.fix {s : St} (h : s.ok) : (if s.set then s.val else 0) = s.val := by
  unfold St.ok at h
  cases hs : s.set with
  | true => rfl
  | false => rw [h hs]; rfl
theorem walk_new {rej : Int → Bool} {p : St} {k : Int} (hp : p.ok) : ∀ (l : List Layr) (now : St), now.ok → (∀ y ∈ l, y.st.ok ∧ y.key = k) → newL k (revG rej l) (now :: leftG rej p l) = (walkG rej p now l).2
  | [], now, _, _ => by simp [revG, leftG, newL, walkG]
  | y :: r, now, hn, hl => by
    have hr := fun z hz => hl z (List.mem_cons_of_mem _ hz)
    have hy := (hl y (by simp)).2
    have hx : (nxt p r).ok := by
      cases r with
      | nil => exact hp
      | cons z _ => exact (hl z (by simp)).1
    rw [revG, leftG, walkG]
    split
    · exact walk_new hp r now hn hr
    · rw [newL, walk_new hp r _ hx hr, St.fix hn]
      simp [Layr.put, hy]
theorem walk_last {rej : Int → Bool} {p : St} : ∀ (l : List Layr) (now : St), (now :: leftG rej p l).getD (revG rej l).length ⟨0, false⟩ = (walkG rej p now l).1
  | [], now => by simp [revG, leftG, walkG]
  | y :: r, now => by
    rw [revG, leftG, walkG]
    split
    · exact walk_last r now
    · rw [List.length_cons, List.getD_cons_succ]; exact walk_last r _
/-- the keys do not fall -/
abbrev Asc (l : List Layr) : Prop := l.Pairwise fun a b => a.key ≤ b.key
theorem grp_take : ∀ {k : Int} {l : List Layr}, ∀ y ∈ l.take (grp k l), y.key = k
  | k, [], y, h => by simp at h
  | k, z :: r, y, h => by
    rw [grp] at h
    split at h
    · rw [List.take_succ_cons] at h
      rcases List.mem_cons.1 h with rfl | h
      · assumption
      · exact grp_take y h
    · simp at h
theorem grp_drop : ∀ {k : Int} {l : List Layr}, Asc l → (∀ y ∈ l, k ≤ y.key) → ∀ y ∈ l.drop (grp k l), k < y.key
  | k, [], _, _, y, h => by simp at h
  | k, z :: r, hs, hk, y, h => by
    have h1 := (List.pairwise_cons.1 hs).1
    have h2 := (List.pairwise_cons.1 hs).2
    rw [grp] at h
    split at h
    · rw [List.drop_succ_cons] at h
      exact grp_drop h2 (fun w hw => hk w (List.mem_cons_of_mem _ hw)) y h
    · rename_i hz
      rw [List.drop_zero] at h
      have hzk := hk z (by simp)
      rcases List.mem_cons.1 h with rfl | h
      · omega
      · have := h1 y h; omega
theorem layersK_grp {k : Int} {l : List Layr} (hs : Asc l) (hk : ∀ y ∈ l, k ≤ y.key) : layersK l k = l.take (grp k l) := by
  have h := List.take_append_drop (grp k l) l
  conv => lhs; rw [← h]
  unfold layersK
  rw [List.filter_append, List.filter_eq_self.2 (fun y hy => by simpa using grp_take y hy), List.filter_eq_nil_iff.2 (fun y hy => by have := grp_drop hs hk y hy; simp; omega), List.append_nil]
theorem foldK_same : ∀ (l : List Layr) (o : List Int), (∀ y ∈ l, y.key ∈ o) → l.foldl keyStep o = o
  | [], o, _ => rfl
  | y :: r, o, h => by
    rw [List.foldl_cons, show keyStep o y = o by unfold keyStep; rw [if_pos (h y (by simp))]]
    exact foldK_same r o fun z hz => h z (List.mem_cons_of_mem _ hz)
theorem foldK_pre : ∀ (l : List Layr) (o p : List Int), (∀ y ∈ l, y.key ∉ p) → l.foldl keyStep (p ++ o) = p ++ l.foldl keyStep o
  | [], o, p, _ => rfl
  | y :: r, o, p, h => by
    have hy := h y (by simp)
    have e : keyStep (p ++ o) y = p ++ keyStep o y := by
      unfold keyStep
      by_cases hm : y.key ∈ o
      · rw [if_pos (by simp [hm]), if_pos hm]
      · rw [if_neg (by simp [hm, hy]), if_neg hm, List.append_assoc]
    rw [List.foldl_cons, e, List.foldl_cons]
    exact foldK_pre r _ p fun z hz => h z (List.mem_cons_of_mem _ hz)
theorem keysL_step {y : Layr} {r : List Layr} (hs : Asc (y :: r)) : keysL (y :: r) = y.key :: keysL ((y :: r).drop (grp y.key (y :: r))) := by
  have h1 := (List.pairwise_cons.1 hs).1
  have hk : ∀ z ∈ y :: r, y.key ≤ z.key := fun z hz => (List.mem_cons.1 hz).elim (fun e => by rw [e]; exact Int.le_refl _) (h1 z)
  have h := List.take_append_drop (grp y.key (y :: r)) (y :: r)
  have hg : (y :: r).take (grp y.key (y :: r)) = y :: r.take (grp y.key r) := by rw [grp, if_pos rfl]; rfl
  unfold keysL
  conv => lhs; rw [← h]
  rw [List.foldl_append, hg, List.foldl_cons, show keyStep [] y = [y.key] from rfl, foldK_same (r.take (grp y.key r)) [y.key] (fun z hz => by rw [grp_take z hz]; simp)]
  exact foldK_pre _ [] [y.key] (fun z hz => by have := grp_drop hs hk z hz; simp; omega)
theorem ltCnt_pre {k : Int} {A l : List Layr} (hA : ∀ y ∈ A, y.key < k) (hl : ∀ y ∈ l, k ≤ y.key) : ltCnt k (A ++ l) = A.length := by
  refine ltCnt_is (by simp) (fun j y hj hy => ?_) (fun y hy => ?_)
  · rw [List.getElem?_append_left hj] at hy; exact hA y (List.mem_of_getElem? hy)
  · rw [List.getElem?_append_right (Nat.le_refl _)] at hy
    have := hl y (List.mem_of_getElem? hy)
    omega
theorem walk_keys {rej : Int → Bool} {p : St} {k : Int} : ∀ (l : List Layr) (now : St), (∀ y ∈ l, y.key = k) → ∀ y ∈ (walkG rej p now l).2, y.key = k
  | [], now, _, y, h => by simp [walkG] at h
  | z :: r, now, hl, y, h => by
    have hr := fun w hw => hl w (List.mem_cons_of_mem _ hw)
    rw [walkG] at h
    split at h
    · exact walk_keys r now hr y h
    · rcases List.mem_cons.1 h with rfl | h
      · exact hl z (by simp)
      · exact walk_keys r _ hr y h
/-- the law's fold and the program's recursion -/
theorem fold_decL {acc rej : Int → Bool} {q : Head} (hq : ∀ k, (getP q.props k).ok) {i m : Int} {dd : List Dele} : ∀ (n : Nat) (l : List Layr) (pr : List Prp) (A : List Layr), l.length ≤ n → Asc l → (∀ y ∈ l, y.st.ok) → (∀ y ∈ l, layersK q.layers y.key = layersK l y.key) → (∀ a ∈ A, ∀ y ∈ l, a.key < y.key) →
    (keysL l).foldl (lawStep acc rej q) ⟨pr, i, m, dd, A ++ l⟩ = ⟨(decL acc rej q.props l pr A).1, i, m, dd, (decL acc rej q.props l pr A).2⟩
  | n, [], pr, A, _, _, _, _, _ => by simp [keysL, decL_nil]
  | 0, y :: r, pr, A, h, _, _, _, _ => by simp at h
  | n + 1, y :: r, pr, A, hn, hs, ho, hK, hA => by
    have h1 := (List.pairwise_cons.1 hs).1
    have hk : ∀ z ∈ y :: r, y.key ≤ z.key := fun z hz => (List.mem_cons.1 hz).elim (fun e => by rw [e]; exact Int.le_refl _) (h1 z)
    rw [keysL_step hs, List.foldl_cons, decL_step (l := y :: r) (y := y) (m := grp y.key (y :: r)) rfl rfl]
    have hgrp : layersK q.layers y.key = (y :: r).take (grp y.key (y :: r)) := by rw [hK y (by simp), layersK_grp hs hk]
    have hg1 : 1 ≤ grp y.key (y :: r) := by rw [grp, if_pos rfl]; omega
    have htk := grp_take (k := y.key) (l := y :: r)
    have hdr := grp_drop hs hk
    have hap := List.take_append_drop (grp y.key (y :: r)) (y :: r)
    generalize hG : (y :: r).take (grp y.key (y :: r)) = G at *
    generalize hD : (y :: r).drop (grp y.key (y :: r)) = D at *
    have hstep : lawStep acc rej q ⟨pr, i, m, dd, A ++ y :: r⟩ y.key = ⟨withP pr y.key (stepG acc rej (getP q.props y.key) G).1, i, m, dd, (A ++ (stepG acc rej (getP q.props y.key) G).2) ++ D⟩ := by
      have hZ : lawZ acc rej q y.key = (stepG acc rej (getP q.props y.key) G).1 := by
        unfold lawZ lawS lawR stepG
        rw [hgrp]
        exact walk_last _ _
      have hN : newL y.key (lawR acc rej q y.key) (lawS acc rej q y.key) = (stepG acc rej (getP q.props y.key) G).2 := by
        unfold lawS lawR stepG
        rw [hgrp]
        have hin : ∀ z ∈ G.drop (firstA acc G), z.st.ok ∧ z.key = y.key := fun z hz => by
          have hzG := List.mem_of_mem_drop hz
          refine ⟨ho z ?_, htk z hzG⟩
          rw [← hap]; exact List.mem_append_left _ hzG
        refine walk_new (hq y.key) _ _ ?_ hin
        cases hd : G.drop (firstA acc G) with
        | nil => exact hq y.key
        | cons w _ => exact (hin w (by rw [hd]; simp)).1
      have hL : layLs ⟨pr, i, m, dd, A ++ y :: r⟩ y.key (lawR acc rej q y.key) (lawS acc rej q y.key) = (A ++ (stepG acc rej (getP q.props y.key) G).2) ++ D := by
        unfold layLs
        show ((A ++ y :: r).take (ltCnt y.key (A ++ y :: r)) ++ _ ++ (A ++ y :: r).drop (ltCnt y.key (A ++ y :: r) + grp y.key ((A ++ y :: r).drop (ltCnt y.key (A ++ y :: r))))) = _
        rw [ltCnt_pre (fun a ha => hA a ha y (by simp)) hk, hN]
        simp only [List.take_left', List.drop_left', List.take_append_of_le_length (Nat.le_refl A.length), List.take_length, List.drop_length_add_append]
        rw [hD]
      unfold lawStep layH
      rw [hL, hZ]
    rw [hstep]
    have hDs : Asc D := by rw [← hD]; exact List.Pairwise.sublist (List.drop_sublist _ _) hs
    refine fold_decL hq n D _ _ ?_ hDs ?_ ?_ ?_
    · rw [← hD, List.length_drop]; simp at hn ⊢; omega
    · intro z hz; exact ho z (by rw [← hap]; exact List.mem_append_right _ hz)
    · intro z hz
      rw [hK z (by rw [← hap]; exact List.mem_append_right _ hz), ← hap]
      unfold layersK
      rw [List.filter_append, List.filter_eq_nil_iff.2 (fun w hw => by have := htk w hw; have := hdr z hz; simp; omega), List.nil_append]
    · intro a ha z hz
      have hz2 := hdr z hz
      rcases List.mem_append.1 ha with ha | ha
      · have := hA a ha y (by simp); omega
      · have := walk_keys (k := y.key) _ _ (fun w hw => htk w (List.mem_of_mem_drop hw)) a ha
        omega
theorem getP_ok : ∀ (l : List Prp) (k : Int), (getP l k).ok
  | [], k => fun _ => rfl
  | p :: r, k => by
    rw [getP]
    split
    · intro h; cases h
    · exact getP_ok r k
theorem law_eq {acc rej : Int → Bool} {q : Head} (hs : Asc q.layers) (ho : ∀ y ∈ q.layers, y.st.ok) : lawH acc rej q = decH acc rej q := by
  unfold lawH decH
  split
  · rfl
  · have h := fold_decL (acc := acc) (rej := rej) (q := q) (fun k => getP_ok q.props k) (i := insA acc q) (m := movA acc q) (dd := q.dels.filter (fun d => !rej d.rev)) q.layers.length q.layers q.props [] (Nat.le_refl _) hs ho (fun y _ => rfl) (fun a ha => by cases ha)
    exact h
end
section
/-! What the law's ordered heads and valid decisions are. -/
section
variable {α : Type} {le : α → α → Bool} {R : α → α → Prop}
theorem pushO_pair (hR : ∀ a b, le a b = true → R a b) (ht : ∀ a b c, R a b → R b c → R a c) {out : List α} (h : out.Pairwise R) (x : α) : (pushO le out x).Pairwise R := by
  unfold pushO
  split
  · rename_i hn
    have : out = [] := by
      cases out with
      | nil => rfl
      | cons a r => rw [List.getElem?_eq_none_iff] at hn; simp at hn; omega
    subst this
    simp
  · rename_i y hy
    split
    · rename_i hle
      rw [List.pairwise_append]
      refine ⟨h, by simp, fun a ha b hb => ?_⟩
      simp at hb; subst hb
      have hyx := hR y b hle
      obtain ⟨i, hi, hia⟩ := List.mem_iff_getElem.1 ha
      by_cases hlast : i = out.length - 1
      · subst hlast
        rw [List.getElem?_eq_getElem hi] at hy
        cases hy
        rw [← hia]; exact hyx
      · have hy2 := (List.getElem?_eq_some_iff.1 hy)
        obtain ⟨hl, hye⟩ := hy2
        have := List.pairwise_iff_getElem.1 h i (out.length - 1) hi hl (by omega)
        rw [hia, hye] at this
        exact ht _ _ _ this hyx
    · exact h
theorem foldO_pair (cap : Nat) (hR : ∀ a b, le a b = true → R a b) (ht : ∀ a b c, R a b → R b c → R a c) : ∀ (l out : List α), out.Pairwise R → (l.foldl (stepO cap le) out).Pairwise R
  | [], out, h => h
  | x :: r, out, h => by
    refine foldO_pair cap hR ht r _ ?_
    unfold stepO
    split
    · exact pushO_pair hR ht h x
    · exact h
theorem pushO_mem {out : List α} {x z : α} (h : z ∈ pushO le out x) : z = x ∨ z ∈ out := by
  unfold pushO at h
  split at h
  · rcases List.mem_append.1 h with h | h
    · exact .inr h
    · simp at h; exact .inl h
  · split at h
    · rcases List.mem_append.1 h with h | h
      · exact .inr h
      · simp at h; exact .inl h
    · exact .inr h
theorem foldO_mem {cap : Nat} {z : α} : ∀ (l out : List α), z ∈ l.foldl (stepO cap le) out → z ∈ l ∨ z ∈ out
  | [], out, h => .inr h
  | x :: r, out, h => by
    rcases foldO_mem r _ h with h | h
    · exact .inl (List.mem_cons_of_mem _ h)
    · unfold stepO at h
      split at h
      · rcases pushO_mem h with rfl | h
        · exact .inl (by simp)
        · exact .inr h
      · exact .inr h
end
theorem ordH_inc (q : Head) : IncP (ordH q).props := by
  unfold IncP Inc
  rw [List.pairwise_map]
  exact foldO_pair (le := ltP) 20 (R := fun a b : Prp => a.key < b.key) (fun a b h => by simpa [ltP] using h) (fun a b c h1 h2 => Int.lt_trans h1 h2) _ _ List.Pairwise.nil
theorem ordH_revs (q : Head) : Inc ((ordH q).dels.map Dele.rev) := by
  unfold Inc
  rw [List.pairwise_map]
  exact foldO_pair (le := ltD) 20 (R := fun a b : Dele => a.rev < b.rev) (fun a b h => by simpa [ltD] using h) (fun a b c h1 h2 => Int.lt_trans h1 h2) _ _ List.Pairwise.nil
theorem ordH_asc (q : Head) : Asc (ordH q).layers :=
  foldO_pair (le := leL) 80 (R := fun a b : Layr => a.key ≤ b.key) (fun a b h => by simpa [leL] using h) (fun a b c h1 h2 => Int.le_trans h1 h2) _ _ List.Pairwise.nil
theorem ordH_ok (q : Head) : ∀ y ∈ (ordH q).layers, y.st.ok := by
  intro y hy
  rcases foldO_mem _ _ hy with hy | hy
  · obtain ⟨z, _, rfl⟩ := List.mem_map.1 hy
    intro h
    show (if z.had then z.before else 0) = 0
    have : z.had = false := h
    rw [this]; rfl
  · cases hy
theorem ordH_mass (q : Head) : (ordH q).mass ≤ 120 := by
  have h1 := ordL_len 20 ltP q.props
  have h2 := ordL_len 20 ltD q.dels
  have h3 := ordL_len 80 leL (q.layers.map Layr.norm)
  unfold Head.mass ordH
  simp only
  omega
end
section
/-! The algebra of marks, key by key: heads are what their states and layers are for each key. -/
theorem getP_set (l : List Prp) (k v k' : Int) : getP (setP l k v) k' = if k' = k then ⟨v, true⟩ else getP l k' := by
  induction l with
  | nil =>
    rw [setP, getP, getP]
    by_cases h : k' = k
    · rw [if_pos h, if_pos h.symm]
    · rw [if_neg h, if_neg (fun e => h e.symm)]; rfl
  | cons p r ih =>
    by_cases h : k' = k
    · rw [if_pos h] at ih ⊢
      subst h
      rw [setP]
      split
      · rw [getP, if_neg (by omega), ih]
      · split
        · rw [getP, if_pos rfl]
        · rw [getP, if_pos rfl]
    · rw [if_neg h] at ih ⊢
      rw [setP]
      split
      · rw [getP, ih, getP]
      · split
        · rw [getP, getP, if_neg (fun e => h e.symm), if_neg (by omega)]
        · rw [getP, if_neg (fun e => h e.symm)]
theorem getP_clear (l : List Prp) (k k' : Int) : getP (clearP l k) k' = if k' = k then ⟨0, false⟩ else getP l k' := by
  induction l with
  | nil => simp [clearP, getP]
  | cons p r ih =>
    unfold clearP at ih ⊢
    rw [List.filter_cons]
    by_cases hp : p.key = k
    · rw [if_neg (by simp [hp]), ih]
      by_cases h : k' = k
      · rw [if_pos h, if_pos h]
      · rw [if_neg h, if_neg h, getP, if_neg (by omega)]
    · rw [if_pos (by simp [hp]), getP, ih, getP]
      by_cases h : k' = k
      · rw [if_pos h, if_pos h, if_neg (by omega)]
      · rw [if_neg h, if_neg h]
theorem getP_with {s : St} (hs : s.ok) (l : List Prp) (k k' : Int) : getP (withP l k s) k' = if k' = k then s else getP l k' := by
  obtain ⟨v, b⟩ := s
  unfold withP
  cases b with
  | true => exact getP_set l k v k'
  | false =>
    have : v = 0 := hs rfl
    subst this
    exact getP_clear l k k'
theorem getP_low {l : List Prp} {k : Int} (h : ∀ p ∈ l, k < p.key) : getP l k = ⟨0, false⟩ := getP_out fun hm => by
  obtain ⟨p, hp, rfl⟩ := List.mem_map.1 hm
  exact absurd (h p hp) (by omega)
/-- lists of properties are what they say of each key -/
theorem ext_props : ∀ {l l' : List Prp}, IncP l → IncP l' → (∀ k, getP l k = getP l' k) → l = l'
  | [], [], _, _, _ => rfl
  | [], p :: r, _, _, h => by have := h p.key; simp [getP] at this
  | p :: r, [], _, _, h => by have := h p.key; simp [getP] at this
  | p :: r, p' :: r', hs, hs', h => by
    have h1 := hs.head
    have h2 := hs'.head
    have hk : p.key = p'.key := by
      rcases Int.lt_trichotomy p.key p'.key with hlt | heq | hgt
      · have := h p.key
        rw [getP, if_pos rfl, getP_low (l := p' :: r') (fun q hq => (List.mem_cons.1 hq).elim (fun e => by rw [e]; exact hlt) (fun hq => by have := h2 q hq; omega))] at this
        exact absurd (congrArg St.set this) (by simp)
      · exact heq
      · have := h p'.key
        rw [getP_low (l := p :: r) (fun q hq => (List.mem_cons.1 hq).elim (fun e => by rw [e]; exact hgt) (fun hq => by have := h1 q hq; omega)), getP, if_pos rfl] at this
        exact absurd (congrArg St.set this) (by simp)
    have hv : p.val = p'.val := by
      have := h p.key
      rw [getP, if_pos rfl, getP, if_pos hk.symm] at this
      exact (St.mk.inj this).1
    have hr : r = r' := ext_props hs.tail hs'.tail fun k => by
      by_cases e : p.key = k
      · subst e
        rw [getP_low h1, getP_low (fun q hq => by have := h2 q hq; omega)]
      · have := h k
        rwa [getP, if_neg e, getP, if_neg (by omega)] at this
    obtain ⟨a, b⟩ := p
    obtain ⟨a', b'⟩ := p'
    simp only at hk hv
    rw [hk, hv, hr]
theorem layersK_mem {l : List Layr} {k : Int} {y : Layr} : y ∈ layersK l k ↔ y ∈ l ∧ y.key = k := by
  unfold layersK; simp [List.mem_filter]
theorem layersK_key {l : List Layr} {k : Int} : ∀ y ∈ layersK l k, y.key = k := fun _ h => (layersK_mem.1 h).2
theorem layersK_app (a b : List Layr) (k : Int) : layersK (a ++ b) k = layersK a k ++ layersK b k := by unfold layersK; exact List.filter_append ..
theorem layersK_all {l : List Layr} {k : Int} (h : ∀ y ∈ l, y.key = k) : layersK l k = l := by
  unfold layersK; rw [List.filter_eq_self]; intro y hy; simpa using h y hy
theorem layersK_none {l : List Layr} {k : Int} (h : ∀ y ∈ l, y.key ≠ k) : layersK l k = [] := by
  unfold layersK; rw [List.filter_eq_nil_iff]; intro y hy; simpa using h y hy
theorem layersK_cons (y : Layr) (l : List Layr) (k : Int) : layersK (y :: l) k = if y.key = k then y :: layersK l k else layersK l k := by
  unfold layersK
  rw [List.filter_cons]
  by_cases h : y.key = k <;> simp [h]
/-- layers are what they are for each key -/
theorem ext_layers : ∀ {l l' : List Layr}, Asc l → Asc l' → (∀ k, layersK l k = layersK l' k) → l = l'
  | [], [], _, _, _ => rfl
  | [], y :: r, _, _, h => by have := h y.key; rw [layersK_cons, if_pos rfl] at this; cases this
  | y :: r, [], _, _, h => by have := h y.key; rw [layersK_cons, if_pos rfl] at this; cases this
  | y :: r, y' :: r', hs, hs', h => by
    have h1 := (List.pairwise_cons.1 hs).1
    have h2 := (List.pairwise_cons.1 hs').1
    have hy : y ∈ y' :: r' := by
      have : y ∈ layersK (y :: r) y.key := layersK_mem.2 ⟨by simp, rfl⟩
      rw [h] at this; exact (layersK_mem.1 this).1
    have hy' : y' ∈ y :: r := by
      have : y' ∈ layersK (y' :: r') y'.key := layersK_mem.2 ⟨by simp, rfl⟩
      rw [← h] at this; exact (layersK_mem.1 this).1
    have hk : y.key = y'.key := by
      have a : y'.key ≤ y.key := (List.mem_cons.1 hy).elim (fun e => by rw [e]; exact Int.le_refl _) (h2 y)
      have b : y.key ≤ y'.key := (List.mem_cons.1 hy').elim (fun e => by rw [e]; exact Int.le_refl _) (h1 y')
      omega
    have e0 := h y.key
    rw [layersK_cons, if_pos rfl, layersK_cons, if_pos hk.symm] at e0
    obtain ⟨rfl, _⟩ := List.cons.inj e0
    have hr : r = r' := ext_layers (List.pairwise_cons.1 hs).2 (List.pairwise_cons.1 hs').2 fun k => by
      have := h k
      rw [layersK_cons, layersK_cons] at this
      split at this
      · exact (List.cons.inj this).2
      · exact this
    rw [hr]
theorem stepG_nil (acc rej : Int → Bool) (p : St) : stepG acc rej p [] = (p, []) := by simp [stepG, firstA, nxt, walkG]
theorem nxt_ok {p : St} {l : List Layr} (hp : p.ok) (hl : ∀ y ∈ l, y.st.ok) : (nxt p l).ok := by
  cases l with
  | nil => exact hp
  | cons y _ => exact hl y (by simp)
theorem walk_ok {rej : Int → Bool} {p : St} (hp : p.ok) : ∀ (l : List Layr) (now : St), now.ok → (∀ y ∈ l, y.st.ok) → (walkG rej p now l).1.ok ∧ ∀ y ∈ (walkG rej p now l).2, y.st.ok
  | [], now, hn, _ => by rw [walkG]; exact ⟨hn, by simp⟩
  | y :: r, now, hn, hl => by
    have hr := fun z hz => hl z (List.mem_cons_of_mem _ hz)
    rw [walkG]
    split
    · exact walk_ok hp r now hn hr
    · have ih := walk_ok (rej := rej) hp r _ (nxt_ok hp hr) hr
      exact ⟨ih.1, fun z hz => (List.mem_cons.1 hz).elim (fun e => by rw [e]; exact hn) (ih.2 z)⟩
theorem step_ok {acc rej : Int → Bool} {p : St} {g : List Layr} (hp : p.ok) (hg : ∀ y ∈ g, y.st.ok) : (stepG acc rej p g).1.ok ∧ ∀ y ∈ (stepG acc rej p g).2, y.st.ok := by
  have hd : ∀ y ∈ g.drop (firstA acc g), y.st.ok := fun y hy => hg y (List.mem_of_mem_drop hy)
  exact walk_ok hp _ _ (nxt_ok hp hd) hd
theorem step_keys {acc rej : Int → Bool} {p : St} {g : List Layr} {k : Int} (hg : ∀ y ∈ g, y.key = k) : ∀ y ∈ (stepG acc rej p g).2, y.key = k :=
  walk_keys _ _ fun y hy => hg y (List.mem_of_mem_drop hy)
theorem asc_same {l : List Layr} {k : Int} (h : ∀ y ∈ l, y.key = k) : Asc l := by
  refine List.pairwise_iff_getElem.2 fun i j hi hj hij => ?_
  rw [h _ (List.getElem_mem hi), h _ (List.getElem_mem hj)]
  exact Int.le_refl _
/-- what the recursion makes, key by key -/
theorem decL_spec {acc rej : Int → Bool} {p0 : List Prp} : ∀ (n : Nat) (l : List Layr) (pr : List Prp) (A : List Layr), l.length ≤ n → Asc l → (∀ y ∈ l, y.st.ok) → IncP pr → Asc A → (∀ a ∈ A, ∀ y ∈ l, a.key < y.key) →
    IncP (decL acc rej p0 l pr A).1 ∧ Asc (decL acc rej p0 l pr A).2 ∧ (∀ k, getP (decL acc rej p0 l pr A).1 k = if layersK l k = [] then getP pr k else (stepG acc rej (getP p0 k) (layersK l k)).1) ∧
    (∀ k, layersK (decL acc rej p0 l pr A).2 k = layersK A k ++ (stepG acc rej (getP p0 k) (layersK l k)).2)
  | n, [], pr, A, _, _, _, hp, hA, _ => by
    rw [decL_nil]
    refine ⟨hp, hA, fun k => by simp [layersK], fun k => ?_⟩
    rw [show layersK [] k = [] from rfl, stepG_nil, List.append_nil]
  | 0, y :: r, pr, A, h, _, _, _, _, _ => by simp at h
  | n + 1, y :: r, pr, A, hn, hs, ho, hp, hA, hAl => by
    have h1 := (List.pairwise_cons.1 hs).1
    have hk : ∀ z ∈ y :: r, y.key ≤ z.key := fun z hz => (List.mem_cons.1 hz).elim (fun e => by rw [e]; exact Int.le_refl _) (h1 z)
    rw [decL_step (l := y :: r) (y := y) (m := grp y.key (y :: r)) rfl rfl]
    have hg1 : 1 ≤ grp y.key (y :: r) := by rw [grp, if_pos rfl]; omega
    have htk := grp_take (k := y.key) (l := y :: r)
    have hdr := grp_drop hs hk
    have hap := List.take_append_drop (grp y.key (y :: r)) (y :: r)
    have hyG : y ∈ (y :: r).take (grp y.key (y :: r)) := by
      obtain ⟨m, hm⟩ : ∃ m, grp y.key (y :: r) = m + 1 := ⟨grp y.key (y :: r) - 1, by omega⟩
      rw [hm]; simp
    have hDn : ((y :: r).drop (grp y.key (y :: r))).length ≤ n := by rw [List.length_drop]; simp at hn ⊢; omega
    generalize hG : (y :: r).take (grp y.key (y :: r)) = G at *
    generalize hD : (y :: r).drop (grp y.key (y :: r)) = D at *
    have hDs : Asc D := by rw [← hD]; exact List.Pairwise.sublist (List.drop_sublist _ _) hs
    have hoG : ∀ z ∈ G, z.st.ok := fun z hz => ho z (by rw [← hap]; exact List.mem_append_left _ hz)
    have hoD : ∀ z ∈ D, z.st.ok := fun z hz => ho z (by rw [← hap]; exact List.mem_append_right _ hz)
    have hst := step_ok (acc := acc) (rej := rej) (getP_ok p0 y.key) hoG
    have hsk := step_keys (acc := acc) (rej := rej) (p := getP p0 y.key) htk
    have hA2 : Asc (A ++ (stepG acc rej (getP p0 y.key) G).2) := List.pairwise_append.2 ⟨hA, asc_same hsk, fun a ha b hb => by
      have := hAl a ha y (by simp)
      have := hsk b hb
      omega⟩
    have hAD : ∀ a ∈ A ++ (stepG acc rej (getP p0 y.key) G).2, ∀ z ∈ D, a.key < z.key := fun a ha z hz => by
      have hz2 := hdr z hz
      rcases List.mem_append.1 ha with ha | ha
      · have := hAl a ha y (by simp); omega
      · have := hsk a ha; omega
    obtain ⟨r1, r2, r3, r4⟩   := decL_spec (acc := acc) (rej := rej) (p0 := p0) n D (withP pr y.key (stepG acc rej (getP p0 y.key) G).1) (A ++ (stepG acc rej (getP p0 y.key) G).2) hDn hDs hoD (withP_inc hp) hA2 hAD
    have hlk : ∀ k, layersK (y :: r) k = if k = y.key then G else layersK D k := fun k => by
      rw [← hap, layersK_app]
      by_cases e : k = y.key
      · rw [if_pos e, e, layersK_all htk, layersK_none (fun z hz => by have := hdr z hz; omega), List.append_nil]
      · rw [if_neg e, layersK_none (fun z hz => by have := htk z hz; omega), List.nil_append]
    have hGn : G ≠ [] := fun e => by rw [e] at hyG; cases hyG
    refine ⟨r1, r2, fun k => ?_, fun k => ?_⟩
    · rw [r3 k, hlk k, getP_with hst.1]
      by_cases e : k = y.key
      · subst e
        rw [layersK_none (l := D) (fun z hz => by have := hdr z hz; omega)]
        simp only [if_true]
        rw [if_neg hGn]
      · rw [if_neg e, if_neg e]
    · rw [r4 k, hlk k, layersK_app]
      by_cases e : k = y.key
      · subst e
        rw [if_pos rfl, layersK_all hsk, layersK_none (l := D) (fun z hz => by have := hdr z hz; omega), stepG_nil, List.append_nil]
      · rw [if_neg e, layersK_none (l := (stepG acc rej (getP p0 y.key) G).2) (fun z hz => by have := hsk z hz; omega), List.append_nil]
/-- heads whose lists are in order -/
structure Good (q : Head) : Prop where
  inc : IncP q.props
  asc : Asc q.layers
  ok : ∀ y ∈ q.layers, y.st.ok
theorem ordH_good (q : Head) : Good (ordH q) := ⟨ordH_inc q, ordH_asc q, ordH_ok q⟩
theorem none_good : Good Head.none := ⟨List.Pairwise.nil, List.Pairwise.nil, fun y h => by cases h⟩
theorem Good.ext {a b : Head} (ha : Good a) (hb : Good b) (h1 : a.ins = b.ins) (h2 : a.move = b.move) (h3 : a.dels = b.dels) (h4 : ∀ k, getP a.props k = getP b.props k) (h5 : ∀ k, layersK a.layers k = layersK b.layers k) : a = b :=
  (Head.ext_iff' a b).2 ⟨ext_props ha.inc hb.inc h4, h1, h2, h3, ext_layers ha.asc hb.asc h5⟩
theorem ok_keys {l : List Layr} (h : ∀ k, ∀ y ∈ layersK l k, y.st.ok) : ∀ y ∈ l, y.st.ok := fun y hy => h y.key y (layersK_mem.2 ⟨hy, rfl⟩)
/-- what is left of such a head -/
structure DecSpec (acc rej : Int → Bool) (q o : Head) : Prop where
  good : Good o
  ins : o.ins = if decide (q.ins ≠ 0) && acc q.ins then 0 else q.ins
  move : o.move = if decide (q.ins ≠ 0) && acc q.ins then 0 else q.move
  dels : o.dels = q.dels.filter (fun d => !rej d.rev)
  props : ∀ k, getP o.props k = (stepG acc rej (getP q.props k) (layersK q.layers k)).1
  layers : ∀ k, layersK o.layers k = (stepG acc rej (getP q.props k) (layersK q.layers k)).2
theorem decH_gone {acc rej : Int → Bool} {q : Head} (h : goneB acc rej q = true) : decH acc rej q = Head.none := by unfold decH; rw [if_pos h]
theorem decH_spec {acc rej : Int → Bool} {q : Head} (hq : Good q) (h : goneB acc rej q = false) : DecSpec acc rej q (decH acc rej q) := by
  obtain ⟨r1, r2, r3, r4⟩ := decL_spec (acc := acc) (rej := rej) (p0 := q.props) q.layers.length q.layers q.props [] (Nat.le_refl _) hq.asc hq.ok hq.inc List.Pairwise.nil (fun a ha => by cases ha)
  have r4' : ∀ k, layersK (decL acc rej q.props q.layers q.props []).2 k = (stepG acc rej (getP q.props k) (layersK q.layers k)).2 := fun k => by
    rw [r4 k]; rfl
  have e : decH acc rej q = ⟨(decL acc rej q.props q.layers q.props []).1, if decide (q.ins ≠ 0) && acc q.ins then 0 else q.ins, if decide (q.ins ≠ 0) && acc q.ins then 0 else q.move, q.dels.filter (fun d => !rej d.rev), (decL acc rej q.props q.layers q.props []).2⟩ := by
    unfold decH; rw [if_neg (by rw [h]; simp)]
  rw [e]
  refine ⟨⟨r1, r2, ok_keys fun k y hy => ?_⟩, rfl, rfl, rfl, fun k => ?_, r4'⟩
  · rw [r4' k] at hy
    exact (step_ok (getP_ok _ _) (fun z hz => hq.ok z (layersK_mem.1 hz).1)).2 y hy
  · show getP (decL acc rej q.props q.layers q.props []).1 k = _
    rw [r3 k]
    split
    · rename_i hz; rw [hz, stepG_nil]
    · rfl
theorem decH_good {acc rej : Int → Bool} {q : Head} (hq : Good q) : Good (decH acc rej q) := by
  cases h : goneB acc rej q with
  | true => rw [decH_gone h]; exact none_good
  | false => exact (decH_spec hq h).good
/-- a head is what the description says -/
theorem DecSpec.eq {acc rej : Int → Bool} {q o o' : Head} (h : DecSpec acc rej q o) (h' : DecSpec acc rej q o') : o = o' :=
  h.good.ext h'.good (h.ins.trans h'.ins.symm) (h.move.trans h'.move.symm) (h.dels.trans h'.dels.symm) (fun k => (h.props k).trans (h'.props k).symm) (fun k => (h.layers k).trans (h'.layers k).symm)
/-! both ends -/
theorem firstA_ff : ∀ l : List Layr, firstA (fun _ => false) l = 0
  | [] => rfl
  | y :: r => by rw [firstA, firstA_ff r]; simp
theorem firstA_tt : ∀ l : List Layr, firstA (fun _ => true) l = l.length
  | [] => rfl
  | y :: r => by
    rw [firstA, firstA_tt r]
    cases r with
    | nil => simp
    | cons z r => simp
theorem walk_tt (p : St) : ∀ (l : List Layr) (now : St), walkG (fun _ => true) p now l = (now, [])
  | [], now => rfl
  | y :: r, now => by rw [walkG]; simp [walk_tt p r now]
theorem step_orig (p : St) (g : List Layr) : stepG (fun _ => false) (fun _ => true) p g = (nxt p g, []) := by
  unfold stepG; rw [firstA_ff, List.drop_zero, walk_tt]
theorem step_final (p : St) (g : List Layr) : stepG (fun _ => true) (fun _ => false) p g = (p, []) := by
  unfold stepG; rw [firstA_tt, List.drop_length]; rfl
end
section
/-! MarkEnds: what Original and Final leave; the walk. -/
/-! ### the plain law -/
theorem foldK_mem {k : Int} : ∀ (l : List Layr) (o : List Int), k ∈ l.foldl keyStep o ↔ k ∈ o ∨ ∃ y ∈ l, y.key = k
  | [], o => by simp
  | y :: r, o => by
    rw [List.foldl_cons, foldK_mem r]
    unfold keyStep
    by_cases h : y.key ∈ o
    · rw [if_pos h]
      constructor
      · rintro (h1 | ⟨z, hz, hk⟩)
        · exact .inl h1
        · exact .inr ⟨z, List.mem_cons_of_mem _ hz, hk⟩
      · rintro (h1 | ⟨z, hz, hk⟩)
        · exact .inl h1
        · rcases List.mem_cons.1 hz with rfl | hz
          · exact .inl (hk ▸ h)
          · exact .inr ⟨z, hz, hk⟩
    · rw [if_neg h]
      constructor
      · rintro (h1 | ⟨z, hz, hk⟩)
        · rcases List.mem_append.1 h1 with h1 | h1
          · exact .inl h1
          · exact .inr ⟨y, by simp, (by simpa using h1 : k = y.key).symm⟩
        · exact .inr ⟨z, List.mem_cons_of_mem _ hz, hk⟩
      · rintro (h1 | ⟨z, hz, hk⟩)
        · exact .inl (List.mem_append_left _ h1)
        · rcases List.mem_cons.1 hz with rfl | hz
          · exact .inl (List.mem_append_right _ (by simp [hk]))
          · exact .inr ⟨z, hz, hk⟩
theorem keysL_mem {l : List Layr} {k : Int} : k ∈ keysL l ↔ ∃ y ∈ l, y.key = k := by
  unfold keysL; rw [foldK_mem]; simp
def foldW (f : Int → St) (ks : List Int) (pr : List Prp) : List Prp := ks.foldl (fun pr k => withP pr k (f k)) pr
theorem foldW_spec {f : Int → St} (hf : ∀ k, (f k).ok) : ∀ (ks : List Int) (pr : List Prp), IncP pr → IncP (foldW f ks pr) ∧ (foldW f ks pr).length ≤ pr.length + ks.length ∧ ∀ k, getP (foldW f ks pr) k = if k ∈ ks then f k else getP pr k
  | [], pr, hp => ⟨hp, by simp [foldW], fun k => by simp [foldW]⟩
  | x :: r, pr, hp => by
    obtain ⟨h1, h2, h3⟩ := foldW_spec hf r (withP pr x (f x)) (withP_inc hp)
    have hl := withP_len pr x (f x)
    refine ⟨h1, ?_, fun k => ?_⟩
    · show (foldW f r (withP pr x (f x))).length ≤ _
      simp only [List.length_cons]; omega
    · show getP (foldW f r (withP pr x (f x))) k = _
      rw [h3 k, getP_with (hf x)]
      by_cases hk : k ∈ r
      · rw [if_pos hk, if_pos (List.mem_cons_of_mem _ hk)]
      · rw [if_neg hk]
        by_cases e : k = x
        · rw [if_pos e, if_pos (by rw [e]; simp), e]
        · rw [if_neg e, if_neg (by simp [e, hk])]
def baseS (q : Head) (k : Int) : St := nxt (getP q.props k) (layersK q.layers k)
def baseP (q : Head) : List Prp := foldW (baseS q) (keysL q.layers) q.props
theorem baseS_ok {q : Head} (hq : Good q) (k : Int) : (baseS q k).ok := nxt_ok (getP_ok _ _) fun y hy => hq.ok y (layersK_mem.1 hy).1
theorem gone_orig (q : Head) : goneB (fun _ => false) (fun _ => true) q = decide (¬ q.ins = 0) := by
  unfold goneB
  rw [List.any_eq_false.2 (fun y hy => by simp)]; simp
theorem gone_final (q : Head) : goneB (fun _ => true) (fun _ => false) q = decide (¬ q.dels = []) := by
  unfold goneB
  cases q.dels with
  | nil => simp
  | cons d r => simp
theorem orig_eq {q : Head} (hq : Good q) (hi : q.ins = 0) (hm : q.move = 0) : decH (fun _ => false) (fun _ => true) q = ⟨baseP q, 0, 0, [], []⟩ := by
  have hs := decH_spec (acc := fun _ => false) (rej := fun _ => true) hq (by rw [gone_orig]; simp [hi])
  obtain ⟨w1, w2, w3⟩ := foldW_spec (baseS_ok hq) (keysL q.layers) q.props hq.inc
  refine hs.good.ext ⟨w1, List.Pairwise.nil, fun y hy => by cases hy⟩ (by rw [hs.ins]; simp [hi]) (by rw [hs.move]; simp [hm]) (by rw [hs.dels]; simp) (fun k => ?_) (fun k => ?_)
  · rw [hs.props k, step_orig]
    show nxt _ _ = getP (foldW (baseS q) (keysL q.layers) q.props) k
    rw [w3 k]
    split
    · rfl
    · rename_i hk
      have : layersK q.layers k = [] := layersK_none fun y hy e => hk (keysL_mem.2 ⟨y, hy, e⟩)
      rw [this]; rfl
  · rw [hs.layers k, step_orig]; rfl
theorem final_eq {q : Head} (hq : Good q) (hd : q.dels = []) (hm : q.ins = 0 → q.move = 0) : decH (fun _ => true) (fun _ => false) q = ⟨q.props, 0, 0, [], []⟩ := by
  have hs := decH_spec (acc := fun _ => true) (rej := fun _ => false) hq (by rw [gone_final]; simp [hd])
  refine hs.good.ext ⟨hq.inc, List.Pairwise.nil, fun y hy => by cases hy⟩ ?_ ?_ (by rw [hs.dels]; simp [hd]) (fun k => ?_) (fun k => ?_)
  · rw [hs.ins]; by_cases h : q.ins = 0 <;> simp [h]
  · rw [hs.move]; by_cases h : q.ins = 0
    · simp [h, hm h]
    · simp [h]
  · rw [hs.props k, step_final]
  · rw [hs.layers k, step_final]; rfl
theorem baseP_step (q : Head) {j : Nat} {k : Int} (h : (keysL q.layers)[j]? = some k) : foldW (baseS q) ((keysL q.layers).take (j + 1)) q.props = withP (foldW (baseS q) ((keysL q.layers).take j) q.props) k (baseS q k) := by
  unfold foldW
  rw [take_get h, List.foldl_append]; rfl
theorem Ev_nebw {P : Program} {e : Env} {H : Hp} {R : Own} {dst : Option Tmp} {ty : TypeId} {pos : String} {after : Array Edge} {g : Option (Nat × Bool)} {x y : Operand} {t t2 : TypeId} [ht : UndC P t .bool] {b b' : Bool} (hx : e.eval x = some (.bool b)) (hy : e.eval y = some (.bool b')) (h : b = b') : Ev P ⟨dst, .binOp .neq t x y t2, ty, pos, after, g⟩ e H R (.bool false) := by
  subst h; exact Ev_nebs hx hy
theorem ordH_move (q : Head) : (ordH q).ins = 0 → (ordH q).move = 0 := fun h => by
  unfold ordH at *; simp only at *; rw [if_pos h]
end
section
/-! Set and the law's change as data: they agree. -/
/-! ### layered, key by key -/
theorem newL_keys {k : Int} : ∀ {R : List Int} {S : List St}, ∀ y ∈ newL k R S, y.key = k
  | [], _, y, h => by simp [newL] at h
  | r :: R, [], y, h => by simp [newL] at h
  | r :: R, s :: S, y, h => by
    rw [newL] at h
    rcases List.mem_cons.1 h with rfl | h
    · rfl
    · exact newL_keys y h
theorem newL_ok {k : Int} : ∀ {R : List Int} {S : List St}, ∀ y ∈ newL k R S, y.st.ok
  | [], _, y, h => by simp [newL] at h
  | r :: R, [], y, h => by simp [newL] at h
  | r :: R, s :: S, y, h => by
    rw [newL] at h
    rcases List.mem_cons.1 h with rfl | h
    · intro hs
      have : s.set = false := hs
      show (if s.set then s.val else 0) = 0
      rw [this]; rfl
    · exact newL_ok y h
theorem ltCnt_le (k : Int) : ∀ l : List Layr, ltCnt k l ≤ l.length
  | [] => Nat.le_refl _
  | y :: r => by have := ltCnt_le k r; rw [ltCnt]; split <;> simp <;> omega
theorem ltCnt_take {k : Int} : ∀ {l : List Layr}, ∀ y ∈ l.take (ltCnt k l), y.key < k
  | [], y, h => by simp at h
  | z :: r, y, h => by
    rw [ltCnt] at h
    split at h
    · rw [List.take_succ_cons] at h
      rcases List.mem_cons.1 h with rfl | h
      · assumption
      · exact ltCnt_take y h
    · simp at h
theorem ltCnt_drop {k : Int} : ∀ {l : List Layr}, Asc l → ∀ y ∈ l.drop (ltCnt k l), k ≤ y.key
  | [], _, y, h => by simp at h
  | z :: r, hs, y, h => by
    have h1 := (List.pairwise_cons.1 hs).1
    have h2 := (List.pairwise_cons.1 hs).2
    rw [ltCnt] at h
    split at h
    · rw [List.drop_succ_cons] at h; exact ltCnt_drop h2 y h
    · rw [List.drop_zero] at h
      rcases List.mem_cons.1 h with rfl | h
      · omega
      · have := h1 y h; omega
/-- the three parts of layers: below a key, of the key, above it -/
theorem parts3 {l : List Layr} (hs : Asc l) (k : Int) : ∃ A C, l = A ++ layersK l k ++ C ∧ (∀ y ∈ A, y.key < k) ∧ (∀ y ∈ C, k < y.key) ∧ A = l.take (ltCnt k l) ∧ C = l.drop (ltCnt k l + grp k (l.drop (ltCnt k l))) ∧ Asc A ∧ Asc C := by
  have hD : Asc (l.drop (ltCnt k l)) := List.Pairwise.sublist (List.drop_sublist _ _) hs
  have hg := layersK_grp hD (ltCnt_drop hs)
  have h1 := ltCnt_take (k := k) (l := l)
  have h2 := grp_drop hD (ltCnt_drop (k := k) hs)
  have e : layersK l k = (l.drop (ltCnt k l)).take (grp k (l.drop (ltCnt k l))) := by
    rw [← hg]
    conv => lhs; rw [← List.take_append_drop (ltCnt k l) l]
    rw [layersK_app, layersK_none (fun y hy => by have := h1 y hy; omega), List.nil_append]
  refine ⟨_, _, ?_, h1, ?_, rfl, rfl, List.Pairwise.sublist (List.take_sublist _ _) hs, List.Pairwise.sublist (List.drop_sublist _ _) hs⟩
  · rw [e, List.append_assoc]
    conv => lhs; rw [← List.take_append_drop (ltCnt k l) l, ← List.take_append_drop (grp k (l.drop (ltCnt k l))) (l.drop (ltCnt k l)), List.drop_drop]
  · intro y hy
    rw [← List.drop_drop] at hy
    exact h2 y hy
theorem asc3 {A B C : List Layr} {k : Int} (hA : Asc A) (hC : Asc C) (h1 : ∀ y ∈ A, y.key < k) (h2 : ∀ y ∈ B, y.key = k) (h3 : ∀ y ∈ C, k < y.key) : Asc (A ++ B ++ C) := by
  refine List.pairwise_append.2 ⟨List.pairwise_append.2 ⟨hA, asc_same h2, fun a ha b hb => ?_⟩, hC, fun a ha b hb => ?_⟩
  · have := h1 a ha; have := h2 b hb; omega
  · have := h3 b hb
    rcases List.mem_append.1 ha with ha | ha
    · have := h1 a ha; omega
    · have := h2 a ha; omega
theorem keys3 {A B C : List Layr} {k : Int} (h1 : ∀ y ∈ A, y.key < k) (h2 : ∀ y ∈ B, y.key = k) (h3 : ∀ y ∈ C, k < y.key) (x : Int) : layersK (A ++ B ++ C) x = if x = k then B else layersK (A ++ C) x := by
  by_cases e : x = k
  · subst e
    rw [if_pos rfl, layersK_app, layersK_app, layersK_none (l := A) (fun y hy => by have := h1 y hy; omega), layersK_all h2, layersK_none (l := C) (fun y hy => by have := h3 y hy; omega)]
    simp
  · rw [if_neg e, layersK_app, layersK_app, layersK_app, layersK_none (l := B) (fun y hy => by have := h2 y hy; omega), List.append_nil]
/-- a head in which one key was changed -/
structure KeySpec (q o : Head) (k : Int) (s : St) (g : List Layr) : Prop where
  good : Good o
  ins : o.ins = q.ins
  move : o.move = q.move
  dels : o.dels = q.dels
  props : ∀ x, getP o.props x = if x = k then s else getP q.props x
  layers : ∀ x, layersK o.layers x = if x = k then g else layersK q.layers x
theorem KeySpec.eq {q o o' : Head} {k : Int} {s : St} {g : List Layr} (h : KeySpec q o k s g) (h' : KeySpec q o' k s g) : o = o' :=
  h.good.ext h'.good (h.ins.trans h'.ins.symm) (h.move.trans h'.move.symm) (h.dels.trans h'.dels.symm) (fun x => (h.props x).trans (h'.props x).symm) (fun x => (h.layers x).trans (h'.layers x).symm)
theorem KeySpec.mk3 {q : Head} {k : Int} {s : St} {g A C : List Layr} (hq : Good q) (hs : s.ok) (hg : ∀ y ∈ g, y.key = k) (ho : ∀ y ∈ g, y.st.ok) (hl : q.layers = A ++ layersK q.layers k ++ C) (hA : Asc A) (hC : Asc C) (h1 : ∀ y ∈ A, y.key < k) (h3 : ∀ y ∈ C, k < y.key) :
    KeySpec q ⟨withP q.props k s, q.ins, q.move, q.dels, A ++ g ++ C⟩ k s g := by
  refine ⟨⟨withP_inc hq.inc, asc3 hA hC h1 hg h3, fun y hy => ?_⟩, rfl, rfl, rfl, fun x => getP_with hs _ _ _, fun x => ?_⟩
  · rcases List.mem_append.1 hy with hy | hy
    · rcases List.mem_append.1 hy with hy | hy
      · exact hq.ok y (by rw [hl]; simp [hy])
      · exact ho y hy
    · exact hq.ok y (by rw [hl]; simp [hy])
  · show layersK (A ++ g ++ C) x = _
    rw [keys3 h1 hg h3]
    by_cases e : x = k
    · rw [if_pos e, if_pos e]
    · rw [if_neg e, if_neg e]
      have := keys3 (B := layersK q.layers k) h1 layersK_key h3 x
      rw [if_neg e, ← hl] at this
      exact this.symm
theorem layH_spec {q : Head} {k : Int} {R : List Int} {S : List St} {z : St} (hq : Good q) (hz : z.ok) : KeySpec q (layH q k R S z) k z (newL k R S) := by
  obtain ⟨A, C, hl, h1, h3, rfl, rfl, hA, hC⟩ := parts3 hq.asc k
  exact KeySpec.mk3 hq hz newL_keys newL_ok hl hA hC h1 h3
theorem newL_same {k : Int} {z : St} : ∀ {g : List Layr}, (∀ y ∈ g, y.key = k) → (∀ y ∈ g, y.st.ok) → ∀ {S : List St}, newL k (g.map Layr.rev) (g.map Layr.st ++ S) = g
  | [], _, _, _ => by simp [newL]
  | y :: r, hk, ho, S => by
    have h := newL_same (z := z) (fun w hw => hk w (List.mem_cons_of_mem _ hw)) (fun w hw => ho w (List.mem_cons_of_mem _ hw)) (S := S) (g := r)
    rw [List.map_cons, List.map_cons, List.cons_append, newL, h, St.fix (ho y (by simp))]
    have := hk y (by simp)
    obtain ⟨a, b, c, d⟩ := y
    simp only at this
    subst this
    rfl
/-! ### what Set does, for one key -/
def setG (rev : Int) (ins : Int) (k : Int) (s p : St) (g : List Layr) : List Layr :=
  if rev = 0 ∨ (ins = rev ∧ g = []) then g
  else if g.getLast?.map Layr.rev = some rev then (if g.getLast?.map Layr.st = some s then g.dropLast else g)
  else g ++ [⟨rev, k, p.val, p.set⟩]
def setE (q : Head) (rev k : Int) (s : St) : Bool :=
  (!decide (getP q.props k = s)) && (!decide (rev = 0 ∨ (q.ins = rev ∧ layersK q.layers k = []))) && (!decide ((layersK q.layers k).getLast?.map Layr.rev = some rev)) && decide (64 ≤ q.layers.length)
/-- what Set and change return: the same head where there is one -/
def SetSpec (q : Head) (rev k : Int) (s : St) (o : Head) (e : Int) : Prop :=
  if getP q.props k = s then o = q ∧ e = 0
  else if setE q rev k s then o = Head.none ∧ e = 9
  else KeySpec q o k s (setG rev q.ins k s (getP q.props k) (layersK q.layers k)) ∧ e = 0
theorem SetSpec.eq {q : Head} {rev k : Int} {s : St} {o o' : Head} {e e' : Int} (h : SetSpec q rev k s o e) (h' : SetSpec q rev k s o' e') : o = o' ∧ e = e' := by
  unfold SetSpec at h h'
  by_cases h1 : getP q.props k = s
  · rw [if_pos h1] at h h'; exact ⟨h.1.trans h'.1.symm, h.2.trans h'.2.symm⟩
  · rw [if_neg h1] at h h'
    by_cases h2 : setE q rev k s = true
    · rw [if_pos h2] at h h'; exact ⟨h.1.trans h'.1.symm, h.2.trans h'.2.symm⟩
    · rw [if_neg h2] at h h'; exact ⟨h.1.eq h'.1, h.2.trans h'.2.symm⟩
theorem setG_orig {rev ins k : Int} {s p : St} {g : List Layr} (h1 : rev ≠ 0) (h2 : ins ≠ rev) : nxt s (setG rev ins k s p g) = nxt p g := by
  unfold setG
  rw [if_neg (by simp [h1, h2])]
  by_cases hg : g = []
  · subst hg; simp [nxt]; rfl
  · obtain ⟨g0, y, rfl⟩ : ∃ g0 y, g = g0 ++ [y] := ⟨g.dropLast, g.getLast hg, (List.dropLast_concat_getLast hg).symm⟩
    simp only [List.getLast?_append, List.getLast?_singleton, Option.some_or, Option.map_some, List.dropLast_concat]
    have hn : ∀ l : List Layr, nxt s (g0 ++ [y] ++ l) = nxt p (g0 ++ [y]) := fun l => by cases g0 <;> rfl
    split
    · split
      · rename_i hs
        have hs : y.st = s := by simpa using hs
        cases g0 with
        | nil => simp [nxt, hs]
        | cons z r => rfl
      · have := hn []; rwa [List.append_nil] at this
    · exact hn _
/-- the base is what it was -/
theorem KeySpec.orig {q o : Head} {rev k : Int} {s : St} (hq : Good q) (h : KeySpec q o k s (setG rev q.ins k s (getP q.props k) (layersK q.layers k))) (h1 : rev ≠ 0) (h2 : q.ins ≠ rev) : decH (fun _ => false) (fun _ => true) o = decH (fun _ => false) (fun _ => true) q := by
  by_cases hi : q.ins = 0
  · have s1 := decH_spec (acc := fun _ => false) (rej := fun _ => true) hq (by rw [gone_orig]; simp [hi])
    have s2 := decH_spec (acc := fun _ => false) (rej := fun _ => true) h.good (by rw [gone_orig, h.ins]; simp [hi])
    refine s2.good.ext s1.good (by rw [s2.ins, s1.ins, h.ins]) (by rw [s2.move, s1.move, h.ins, h.move]) (by rw [s2.dels, s1.dels, h.dels]) (fun x => ?_) (fun x => ?_)
    · rw [s2.props, s1.props, step_orig, step_orig, h.props, h.layers]
      by_cases e : x = k
      · rw [if_pos e, if_pos e, e]; exact setG_orig h1 h2
      · rw [if_neg e, if_neg e]
    · rw [s2.layers, s1.layers, step_orig, step_orig]
  · rw [decH_gone (q := q) (by rw [gone_orig]; simp [hi]), decH_gone (q := o) (by rw [gone_orig, h.ins]; simp [hi])]
end
end Go.Proofs.Ythniohgeojenaaa
