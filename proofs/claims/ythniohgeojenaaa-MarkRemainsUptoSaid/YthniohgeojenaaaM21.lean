/-
  The algebra of marks, key by key: heads are what their states and layers are for each key.
-/
import Derived.Test.YthniohgeojenaaaM19
namespace Go.Proofs.Ythniohgeojenaaa
open Go
set_option linter.unusedVariables false
set_option linter.unusedSimpArgs false
theorem getP_set (l : List Prp) (k v k' : Int) : getP (setP l k v) k' = if k' = k then ⟨v, true⟩ else getP l k' := by
  induction l with
  | nil =>
    rw [setP, getP, getP]
    by_cases h : k' = k
    · rw [if_pos h, if_pos h.symm]
    · rw [if_neg h, if_neg (fun e => h e.symm)]; rfl
  | cons p r ih =>
    by_cases h : k' = k
    · rw [if_pos h] at ih ⊢
      subst h
      rw [setP]
      split
      · rw [getP, if_neg (by omega), ih]
      · split
        · rw [getP, if_pos rfl]
        · rw [getP, if_pos rfl]
    · rw [if_neg h] at ih ⊢
      rw [setP]
      split
      · rw [getP, ih, getP]
      · split
        · rw [getP, getP, if_neg (fun e => h e.symm), if_neg (by omega)]
        · rw [getP, if_neg (fun e => h e.symm)]
theorem getP_clear (l : List Prp) (k k' : Int) : getP (clearP l k) k' = if k' = k then ⟨0, false⟩ else getP l k' := by
  induction l with
  | nil => simp [clearP, getP]
  | cons p r ih =>
    unfold clearP at ih ⊢
    rw [List.filter_cons]
    by_cases hp : p.key = k
    · rw [if_neg (by simp [hp]), ih]
      by_cases h : k' = k
      · rw [if_pos h, if_pos h]
      · rw [if_neg h, if_neg h, getP, if_neg (by omega)]
    · rw [if_pos (by simp [hp]), getP, ih, getP]
      by_cases h : k' = k
      · rw [if_pos h, if_pos h, if_neg (by omega)]
      · rw [if_neg h, if_neg h]
theorem getP_with {s : St} (hs : s.ok) (l : List Prp) (k k' : Int) : getP (withP l k s) k' = if k' = k then s else getP l k' := by
  obtain ⟨v, b⟩ := s
  unfold withP
  cases b with
  | true => exact getP_set l k v k'
  | false =>
    have : v = 0 := hs rfl
    subst this
    exact getP_clear l k k'
theorem getP_low {l : List Prp} {k : Int} (h : ∀ p ∈ l, k < p.key) : getP l k = ⟨0, false⟩ := getP_out fun hm => by
  obtain ⟨p, hp, rfl⟩ := List.mem_map.1 hm
  exact absurd (h p hp) (by omega)
/-- lists of properties are what they say of each key -/
theorem ext_props : ∀ {l l' : List Prp}, IncP l → IncP l' → (∀ k, getP l k = getP l' k) → l = l'
  | [], [], _, _, _ => rfl
  | [], p :: r, _, _, h => by have := h p.key; simp [getP] at this
  | p :: r, [], _, _, h => by have := h p.key; simp [getP] at this
  | p :: r, p' :: r', hs, hs', h => by
    have h1 := hs.head
    have h2 := hs'.head
    have hk : p.key = p'.key := by
      rcases Int.lt_trichotomy p.key p'.key with hlt | heq | hgt
      · have := h p.key
        rw [getP, if_pos rfl, getP_low (l := p' :: r') (fun q hq => (List.mem_cons.1 hq).elim (fun e => by rw [e]; exact hlt) (fun hq => by have := h2 q hq; omega))] at this
        exact absurd (congrArg St.set this) (by simp)
      · exact heq
      · have := h p'.key
        rw [getP_low (l := p :: r) (fun q hq => (List.mem_cons.1 hq).elim (fun e => by rw [e]; exact hgt) (fun hq => by have := h1 q hq; omega)), getP, if_pos rfl] at this
        exact absurd (congrArg St.set this) (by simp)
    have hv : p.val = p'.val := by
      have := h p.key
      rw [getP, if_pos rfl, getP, if_pos hk.symm] at this
      exact (St.mk.inj this).1
    have hr : r = r' := ext_props hs.tail hs'.tail fun k => by
      by_cases e : p.key = k
      · subst e
        rw [getP_low h1, getP_low (fun q hq => by have := h2 q hq; omega)]
      · have := h k
        rwa [getP, if_neg e, getP, if_neg (by omega)] at this
    obtain ⟨a, b⟩ := p
    obtain ⟨a', b'⟩ := p'
    simp only at hk hv
    rw [hk, hv, hr]
theorem layersK_mem {l : List Layr} {k : Int} {y : Layr} : y ∈ layersK l k ↔ y ∈ l ∧ y.key = k := by
  unfold layersK; simp [List.mem_filter]
theorem layersK_key {l : List Layr} {k : Int} : ∀ y ∈ layersK l k, y.key = k := fun _ h => (layersK_mem.1 h).2
theorem layersK_app (a b : List Layr) (k : Int) : layersK (a ++ b) k = layersK a k ++ layersK b k := by unfold layersK; exact List.filter_append ..
theorem layersK_all {l : List Layr} {k : Int} (h : ∀ y ∈ l, y.key = k) : layersK l k = l := by
  unfold layersK; rw [List.filter_eq_self]; intro y hy; simpa using h y hy
theorem layersK_none {l : List Layr} {k : Int} (h : ∀ y ∈ l, y.key ≠ k) : layersK l k = [] := by
  unfold layersK; rw [List.filter_eq_nil_iff]; intro y hy; simpa using h y hy
theorem layersK_cons (y : Layr) (l : List Layr) (k : Int) : layersK (y :: l) k = if y.key = k then y :: layersK l k else layersK l k := by
  unfold layersK
  rw [List.filter_cons]
  by_cases h : y.key = k <;> simp [h]
/-- layers are what they are for each key -/
theorem ext_layers : ∀ {l l' : List Layr}, Asc l → Asc l' → (∀ k, layersK l k = layersK l' k) → l = l'
  | [], [], _, _, _ => rfl
  | [], y :: r, _, _, h => by have := h y.key; rw [layersK_cons, if_pos rfl] at this; cases this
  | y :: r, [], _, _, h => by have := h y.key; rw [layersK_cons, if_pos rfl] at this; cases this
  | y :: r, y' :: r', hs, hs', h => by
    have h1 := (List.pairwise_cons.1 hs).1
    have h2 := (List.pairwise_cons.1 hs').1
    have hy : y ∈ y' :: r' := by
      have : y ∈ layersK (y :: r) y.key := layersK_mem.2 ⟨by simp, rfl⟩
      rw [h] at this; exact (layersK_mem.1 this).1
    have hy' : y' ∈ y :: r := by
      have : y' ∈ layersK (y' :: r') y'.key := layersK_mem.2 ⟨by simp, rfl⟩
      rw [← h] at this; exact (layersK_mem.1 this).1
    have hk : y.key = y'.key := by
      have a : y'.key ≤ y.key := (List.mem_cons.1 hy).elim (fun e => by rw [e]; exact Int.le_refl _) (h2 y)
      have b : y.key ≤ y'.key := (List.mem_cons.1 hy').elim (fun e => by rw [e]; exact Int.le_refl _) (h1 y')
      omega
    have e0 := h y.key
    rw [layersK_cons, if_pos rfl, layersK_cons, if_pos hk.symm] at e0
    obtain ⟨rfl, _⟩ := List.cons.inj e0
    have hr : r = r' := ext_layers (List.pairwise_cons.1 hs).2 (List.pairwise_cons.1 hs').2 fun k => by
      have := h k
      rw [layersK_cons, layersK_cons] at this
      split at this
      · exact (List.cons.inj this).2
      · exact this
    rw [hr]
theorem stepG_nil (acc rej : Int → Bool) (p : St) : stepG acc rej p [] = (p, []) := by simp [stepG, firstA, nxt, walkG]
theorem nxt_ok {p : St} {l : List Layr} (hp : p.ok) (hl : ∀ y ∈ l, y.st.ok) : (nxt p l).ok := by
  cases l with
  | nil => exact hp
  | cons y _ => exact hl y (by simp)
theorem walk_ok {rej : Int → Bool} {p : St} (hp : p.ok) : ∀ (l : List Layr) (now : St), now.ok → (∀ y ∈ l, y.st.ok) → (walkG rej p now l).1.ok ∧ ∀ y ∈ (walkG rej p now l).2, y.st.ok
  | [], now, hn, _ => by rw [walkG]; exact ⟨hn, by simp⟩
  | y :: r, now, hn, hl => by
    have hr := fun z hz => hl z (List.mem_cons_of_mem _ hz)
    rw [walkG]
    split
    · exact walk_ok hp r now hn hr
    · have ih := walk_ok (rej := rej) hp r _ (nxt_ok hp hr) hr
      exact ⟨ih.1, fun z hz => (List.mem_cons.1 hz).elim (fun e => by rw [e]; exact hn) (ih.2 z)⟩
theorem step_ok {acc rej : Int → Bool} {p : St} {g : List Layr} (hp : p.ok) (hg : ∀ y ∈ g, y.st.ok) : (stepG acc rej p g).1.ok ∧ ∀ y ∈ (stepG acc rej p g).2, y.st.ok := by
  have hd : ∀ y ∈ g.drop (firstA acc g), y.st.ok := fun y hy => hg y (List.mem_of_mem_drop hy)
  exact walk_ok hp _ _ (nxt_ok hp hd) hd
theorem step_keys {acc rej : Int → Bool} {p : St} {g : List Layr} {k : Int} (hg : ∀ y ∈ g, y.key = k) : ∀ y ∈ (stepG acc rej p g).2, y.key = k :=
  walk_keys _ _ fun y hy => hg y (List.mem_of_mem_drop hy)
theorem asc_same {l : List Layr} {k : Int} (h : ∀ y ∈ l, y.key = k) : Asc l := by
  refine List.pairwise_iff_getElem.2 fun i j hi hj hij => ?_
  rw [h _ (List.getElem_mem hi), h _ (List.getElem_mem hj)]
  exact Int.le_refl _
/-- what the recursion makes, key by key -/
theorem decL_spec {acc rej : Int → Bool} {p0 : List Prp} : ∀ (n : Nat) (l : List Layr) (pr : List Prp) (A : List Layr), l.length ≤ n → Asc l → (∀ y ∈ l, y.st.ok) → IncP pr → Asc A → (∀ a ∈ A, ∀ y ∈ l, a.key < y.key) →
    IncP (decL acc rej p0 l pr A).1 ∧ Asc (decL acc rej p0 l pr A).2 ∧ (∀ k, getP (decL acc rej p0 l pr A).1 k = if layersK l k = [] then getP pr k else (stepG acc rej (getP p0 k) (layersK l k)).1) ∧
    (∀ k, layersK (decL acc rej p0 l pr A).2 k = layersK A k ++ (stepG acc rej (getP p0 k) (layersK l k)).2)
  | n, [], pr, A, _, _, _, hp, hA, _ => by
    rw [decL_nil]
    refine ⟨hp, hA, fun k => by simp [layersK], fun k => ?_⟩
    rw [show layersK [] k = [] from rfl, stepG_nil, List.append_nil]
  | 0, y :: r, pr, A, h, _, _, _, _, _ => by simp at h
  | n + 1, y :: r, pr, A, hn, hs, ho, hp, hA, hAl => by
    have h1 := (List.pairwise_cons.1 hs).1
    have hk : ∀ z ∈ y :: r, y.key ≤ z.key := fun z hz => (List.mem_cons.1 hz).elim (fun e => by rw [e]; exact Int.le_refl _) (h1 z)
    rw [decL_step (l := y :: r) (y := y) (m := grp y.key (y :: r)) rfl rfl]
    have hg1 : 1 ≤ grp y.key (y :: r) := by rw [grp, if_pos rfl]; omega
    have htk := grp_take (k := y.key) (l := y :: r)
    have hdr := grp_drop hs hk
    have hap := List.take_append_drop (grp y.key (y :: r)) (y :: r)
    have hyG : y ∈ (y :: r).take (grp y.key (y :: r)) := by
      obtain ⟨m, hm⟩ : ∃ m, grp y.key (y :: r) = m + 1 := ⟨grp y.key (y :: r) - 1, by omega⟩
      rw [hm]; simp
    have hDn : ((y :: r).drop (grp y.key (y :: r))).length ≤ n := by rw [List.length_drop]; simp at hn ⊢; omega
    generalize hG : (y :: r).take (grp y.key (y :: r)) = G at *
    generalize hD : (y :: r).drop (grp y.key (y :: r)) = D at *
    have hDs : Asc D := by rw [← hD]; exact List.Pairwise.sublist (List.drop_sublist _ _) hs
    have hoG : ∀ z ∈ G, z.st.ok := fun z hz => ho z (by rw [← hap]; exact List.mem_append_left _ hz)
    have hoD : ∀ z ∈ D, z.st.ok := fun z hz => ho z (by rw [← hap]; exact List.mem_append_right _ hz)
    have hst := step_ok (acc := acc) (rej := rej) (getP_ok p0 y.key) hoG
    have hsk := step_keys (acc := acc) (rej := rej) (p := getP p0 y.key) htk
    have hA2 : Asc (A ++ (stepG acc rej (getP p0 y.key) G).2) := List.pairwise_append.2 ⟨hA, asc_same hsk, fun a ha b hb => by
      have := hAl a ha y (by simp)
      have := hsk b hb
      omega⟩
    have hAD : ∀ a ∈ A ++ (stepG acc rej (getP p0 y.key) G).2, ∀ z ∈ D, a.key < z.key := fun a ha z hz => by
      have hz2 := hdr z hz
      rcases List.mem_append.1 ha with ha | ha
      · have := hAl a ha y (by simp); omega
      · have := hsk a ha; omega
    obtain ⟨r1, r2, r3, r4⟩   := decL_spec (acc := acc) (rej := rej) (p0 := p0) n D (withP pr y.key (stepG acc rej (getP p0 y.key) G).1) (A ++ (stepG acc rej (getP p0 y.key) G).2) hDn hDs hoD (withP_inc hp) hA2 hAD
    have hlk : ∀ k, layersK (y :: r) k = if k = y.key then G else layersK D k := fun k => by
      rw [← hap, layersK_app]
      by_cases e : k = y.key
      · rw [if_pos e, e, layersK_all htk, layersK_none (fun z hz => by have := hdr z hz; omega), List.append_nil]
      · rw [if_neg e, layersK_none (fun z hz => by have := htk z hz; omega), List.nil_append]
    have hGn : G ≠ [] := fun e => by rw [e] at hyG; cases hyG
    refine ⟨r1, r2, fun k => ?_, fun k => ?_⟩
    · rw [r3 k, hlk k, getP_with hst.1]
      by_cases e : k = y.key
      · subst e
        rw [layersK_none (l := D) (fun z hz => by have := hdr z hz; omega)]
        simp only [if_true]
        rw [if_neg hGn]
      · rw [if_neg e, if_neg e]
    · rw [r4 k, hlk k, layersK_app]
      by_cases e : k = y.key
      · subst e
        rw [if_pos rfl, layersK_all hsk, layersK_none (l := D) (fun z hz => by have := hdr z hz; omega), stepG_nil, List.append_nil]
      · rw [if_neg e, layersK_none (l := (stepG acc rej (getP p0 y.key) G).2) (fun z hz => by have := hsk z hz; omega), List.append_nil]
/-- heads whose lists are in order -/
structure Good (q : Head) : Prop where
  inc : IncP q.props
  asc : Asc q.layers
  ok : ∀ y ∈ q.layers, y.st.ok
theorem ordH_good (q : Head) : Good (ordH q) := ⟨ordH_inc q, ordH_asc q, ordH_ok q⟩
theorem none_good : Good Head.none := ⟨List.Pairwise.nil, List.Pairwise.nil, fun y h => by cases h⟩
theorem Good.ext {a b : Head} (ha : Good a) (hb : Good b) (h1 : a.ins = b.ins) (h2 : a.move = b.move) (h3 : a.dels = b.dels) (h4 : ∀ k, getP a.props k = getP b.props k) (h5 : ∀ k, layersK a.layers k = layersK b.layers k) : a = b :=
  (Head.ext_iff' a b).2 ⟨ext_props ha.inc hb.inc h4, h1, h2, h3, ext_layers ha.asc hb.asc h5⟩
theorem ok_keys {l : List Layr} (h : ∀ k, ∀ y ∈ layersK l k, y.st.ok) : ∀ y ∈ l, y.st.ok := fun y hy => h y.key y (layersK_mem.2 ⟨hy, rfl⟩)
/-- what is left of such a head -/
structure DecSpec (acc rej : Int → Bool) (q o : Head) : Prop where
  good : Good o
  ins : o.ins = if decide (q.ins ≠ 0) && acc q.ins then 0 else q.ins
  move : o.move = if decide (q.ins ≠ 0) && acc q.ins then 0 else q.move
  dels : o.dels = q.dels.filter (fun d => !rej d.rev)
  props : ∀ k, getP o.props k = (stepG acc rej (getP q.props k) (layersK q.layers k)).1
  layers : ∀ k, layersK o.layers k = (stepG acc rej (getP q.props k) (layersK q.layers k)).2
theorem decH_gone {acc rej : Int → Bool} {q : Head} (h : goneB acc rej q = true) : decH acc rej q = Head.none := by unfold decH; rw [if_pos h]
theorem decH_spec {acc rej : Int → Bool} {q : Head} (hq : Good q) (h : goneB acc rej q = false) : DecSpec acc rej q (decH acc rej q) := by
  obtain ⟨r1, r2, r3, r4⟩ := decL_spec (acc := acc) (rej := rej) (p0 := q.props) q.layers.length q.layers q.props [] (Nat.le_refl _) hq.asc hq.ok hq.inc List.Pairwise.nil (fun a ha => by cases ha)
  have r4' : ∀ k, layersK (decL acc rej q.props q.layers q.props []).2 k = (stepG acc rej (getP q.props k) (layersK q.layers k)).2 := fun k => by
    rw [r4 k]; rfl
  have e : decH acc rej q = ⟨(decL acc rej q.props q.layers q.props []).1, if decide (q.ins ≠ 0) && acc q.ins then 0 else q.ins, if decide (q.ins ≠ 0) && acc q.ins then 0 else q.move, q.dels.filter (fun d => !rej d.rev), (decL acc rej q.props q.layers q.props []).2⟩ := by
    unfold decH; rw [if_neg (by rw [h]; simp)]
  rw [e]
  refine ⟨⟨r1, r2, ok_keys fun k y hy => ?_⟩, rfl, rfl, rfl, fun k => ?_, r4'⟩
  · rw [r4' k] at hy
    exact (step_ok (getP_ok _ _) (fun z hz => hq.ok z (layersK_mem.1 hz).1)).2 y hy
  · show getP (decL acc rej q.props q.layers q.props []).1 k = _
    rw [r3 k]
    split
    · rename_i hz; rw [hz, stepG_nil]
    · rfl
theorem decH_good {acc rej : Int → Bool} {q : Head} (hq : Good q) : Good (decH acc rej q) := by
  cases h : goneB acc rej q with
  | true => rw [decH_gone h]; exact none_good
  | false => exact (decH_spec hq h).good
/-- a head is what the description says -/
theorem DecSpec.eq {acc rej : Int → Bool} {q o o' : Head} (h : DecSpec acc rej q o) (h' : DecSpec acc rej q o') : o = o' :=
  h.good.ext h'.good (h.ins.trans h'.ins.symm) (h.move.trans h'.move.symm) (h.dels.trans h'.dels.symm) (fun k => (h.props k).trans (h'.props k).symm) (fun k => (h.layers k).trans (h'.layers k).symm)
/-! both ends -/
theorem firstA_ff : ∀ l : List Layr, firstA (fun _ => false) l = 0
  | [] => rfl
  | y :: r => by rw [firstA, firstA_ff r]; simp
theorem firstA_tt : ∀ l : List Layr, firstA (fun _ => true) l = l.length
  | [] => rfl
  | y :: r => by
    rw [firstA, firstA_tt r]
    cases r with
    | nil => simp
    | cons z r => simp
theorem walk_tt (p : St) : ∀ (l : List Layr) (now : St), walkG (fun _ => true) p now l = (now, [])
  | [], now => rfl
  | y :: r, now => by rw [walkG]; simp [walk_tt p r now]
theorem step_orig (p : St) (g : List Layr) : stepG (fun _ => false) (fun _ => true) p g = (nxt p g, []) := by
  unfold stepG; rw [firstA_ff, List.drop_zero, walk_tt]
theorem step_final (p : St) (g : List Layr) : stepG (fun _ => true) (fun _ => false) p g = (p, []) := by
  unfold stepG; rw [firstA_tt, List.drop_length]; rfl
end Go.Proofs.Ythniohgeojenaaa
