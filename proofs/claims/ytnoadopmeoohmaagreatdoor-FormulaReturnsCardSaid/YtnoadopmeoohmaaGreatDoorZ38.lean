import Derived.Test.YtnoadopmeoohmaaGreatDoorZ33
import Derived.Test.YtnoadopmeoohmaaGreatDoorZ31
import Derived.Test.YtnoadopmeoohmaaGreatDoorZ37
/-
  The law Returns, plain: what is written is valid UTF-8; how large is what is read.
-/
namespace Go.Proofs.YtnoadopmeoohmaaGreatDoor
open Go
set_option linter.unusedVariables false
set_option linter.unusedSimpArgs false
theorem bat_app {l m : List UInt8} {k : Int} (h0 : 0 ≤ k) (h : k < l.length) : bat (l ++ m) k = bat l k := by
  unfold bat
  have : k.toNat < l.length := by omega
  simp [List.getD, List.getElem?_append_left this]
theorem bat_mid {l m : List UInt8} {a : UInt8} {k : Int} (h : k = l.length) : bat (l ++ a :: m) k = a.toNat := by
  subst h
  unfold bat
  simp [List.getD]
theorem enc_app {l m : List UInt8} (hl : l ≠ []) (h : enc l 0 ≠ 0) : enc (l ++ m) 0 = enc l 0 := by
  have hp : 0 < l.length := List.length_pos_iff.2 hl
  have h0 : bat (l ++ m) 0 = bat l 0 := bat_app (by omega) (by omega)
  by_cases h1 : bat l 0 < 0x80
  · unfold enc; rw [h0, if_pos h1, if_pos h1]
  by_cases h2 : tailSize (bat l 0) = 0
  · unfold enc at h; rw [if_neg h1, if_pos h2] at h; exact absurd rfl h
  have ht := tailSize_le (bat l 0)
  have h3 : 1 < tailSize (bat l 0) := by
    rcases (by omega : tailSize (bat l 0) = 1 ∨ 1 < tailSize (bat l 0)) with h | h
    · exact absurd (tailSize_one h) h1
    · exact h
  by_cases hk : okTo l 0 (tailSize (bat l 0))
  · rw [enc_ok h3 hk]
    have hin := hk.1
    have e := enc_ok (l := l ++ m) (i := 0) (by rw [h0]; exact h3) (by
      rw [h0]
      refine ⟨by rw [List.length_append]; omega, fun h => ?_, fun h => ?_, fun h => ?_⟩
      · rw [h0, bat_app (by omega) (by omega)]; exact hk.2.1 h
      · rw [bat_app (by omega) (by omega)]; exact hk.2.2.1 h
      · rw [bat_app (by omega) (by omega)]; exact hk.2.2.2 h)
    rw [e, h0]
  · exact absurd (enc_no h3 hk) h
theorem enc_asc {l v : List UInt8} {a : UInt8} (hl : l ≠ []) (ha : a.toNat < 128) (h : enc (l ++ a :: v) 0 ≠ 0) : enc l 0 = enc (l ++ a :: v) 0 := by
  have hp : 0 < l.length := List.length_pos_iff.2 hl
  have h0 : bat (l ++ a :: v) 0 = bat l 0 := bat_app (by omega) (by omega)
  by_cases h1 : bat l 0 < 0x80
  · unfold enc; rw [h0, if_pos h1, if_pos h1]
  by_cases h2 : tailSize (bat l 0) = 0
  · unfold enc at h; rw [h0, if_neg h1, if_pos h2] at h; exact absurd rfl h
  have ht := tailSize_le (bat l 0)
  have h3 : 1 < tailSize (bat l 0) := by
    rcases (by omega : tailSize (bat l 0) = 1 ∨ 1 < tailSize (bat l 0)) with h | h
    · exact absurd (tailSize_one h) h1
    · exact h
  by_cases hk : okTo (l ++ a :: v) 0 (tailSize (bat l 0))
  · have e := enc_ok (l := l ++ a :: v) (i := 0) (by rw [h0]; exact h3) (by rw [h0]; exact hk)
    rw [e, h0]
    have hlen : tailSize (bat l 0) ≤ l.length := by
      rcases Int.lt_or_le (l.length : Int) (tailSize (bat l 0)) with hc | hc
      · exfalso
        have ho := okTo_at hk (k := (l.length : Int)) (by omega) hc (by omega)
        rw [Int.zero_add, bat_mid rfl] at ho
        have hlow : 0x80 ≤ tailLow (bat (l ++ a :: v) 0) := by unfold tailLow; (repeat' split) <;> omega
        have h9 := ho.1
        split at h9 <;> omega
      · exact hc
    refine enc_ok h3 ⟨by omega, fun h => ?_, fun h => ?_, fun h => ?_⟩
    · have := hk.2.1 h; rwa [h0, bat_app (by omega) (by omega)] at this
    · have := hk.2.2.1 h; rwa [bat_app (by omega) (by omega)] at this
    · have := hk.2.2.2 h; rwa [bat_app (by omega) (by omega)] at this
  · exact absurd (enc_no (l := l ++ a :: v) (i := 0) (by rw [h0]; exact h3) (by rw [h0]; exact hk)) h
theorem valid_asc (a : UInt8) (v : List UInt8) (ha : a.toNat < 128) : ∀ (k : Nat) (u : List UInt8), u.length ≤ k → (valid (u ++ a :: v) ↔ valid u ∧ valid v)
  | k, [], _ => by
    have e : enc (a :: v) 0 = 1 := by
      have : bat (a :: v) 0 < 0x80 := by show (a.toNat : Int) < 128; omega
      unfold enc; rw [if_pos this]
    show valid (a :: v) ↔ _
    rw [valid_step (by simp) (by rw [e]; decide), e]
    exact ⟨fun h => ⟨valid_nil, h⟩, fun h => h.2⟩
  | 0, b :: u, h => by simp at h
  | k + 1, b :: u, h => by
    have hne : b :: u ≠ [] := by simp
    by_cases h0 : enc (b :: u ++ a :: v) 0 = 0
    · refine ⟨fun h => absurd h (valid_no (by simp) h0), fun ⟨h1, _⟩ => ?_⟩
      by_cases h2 : enc (b :: u) 0 = 0
      · exact absurd h1 (valid_no hne h2)
      · rw [enc_app hne h2] at h0
        exact absurd h0 h2
    · have e := enc_asc hne ha h0
      rw [valid_step (by simp) h0, valid_step hne (by rw [e]; exact h0), ← e]
      have hf := enc_fits (b :: u) 0 (by omega) (by simp)
      have hb := enc_b (b :: u) 0
      rw [e] at hf hb
      rw [List.drop_append_of_le_length (by rw [e]; omega)]
      rw [e]
      exact valid_asc a v ha k _ (by rw [List.length_drop]; simp only [List.length_cons] at h ⊢; omega)
theorem valid_cut {a : UInt8} {u v : List UInt8} (ha : a.toNat < 128) : valid (u ++ a :: v) ↔ valid u ∧ valid v := valid_asc a v ha _ u (Nat.le_refl _)
theorem valid_app : ∀ (k : Nat) (u v : List UInt8), u.length ≤ k → valid u → valid v → valid (u ++ v)
  | _, [], v, _, _, hv => hv
  | 0, b :: u, v, h, _, _ => by simp at h
  | k + 1, b :: u, v, h, hu, hv => by
    have hne : b :: u ≠ [] := by simp
    have h0 : enc (b :: u) 0 ≠ 0 := fun h2 => absurd hu (valid_no hne h2)
    have e := enc_app (m := v) hne h0
    have hf := enc_fits (b :: u) 0 (by omega) (by simp)
    have hb := enc_b (b :: u) 0
    rw [valid_step (by simp) (by rw [e]; exact h0), e, List.drop_append_of_le_length (by omega)]
    refine valid_app k _ v (by rw [List.length_drop]; simp only [List.length_cons] at h ⊢; omega) ((valid_step hne h0).1 hu) hv
theorem valid_cons {a : UInt8} {v : List UInt8} (ha : a.toNat < 128) (h : valid v) : valid (a :: v) := (valid_cut (u := []) ha).2 ⟨valid_nil, h⟩
theorem esc_va : ∀ (t u : List UInt8), valid (u ++ t) → valid (u ++ esc t)
  | [], u, h => h
  | c :: t, u, h => by
    unfold esc
    by_cases hc : c = 34
    · rw [if_pos hc]
      subst hc
      have h2 := (valid_cut (by decide)).1 h
      have h3 := esc_va t [] h2.2
      exact (valid_cut (by decide)).2 ⟨h2.1, valid_cons (by decide) h3⟩
    · rw [if_neg hc]
      have e : u ++ c :: t = (u ++ [c]) ++ t := by simp
      have := esc_va t (u ++ [c]) (e ▸ h)
      simpa using this
theorem idt_asc {l : List UInt8} (h : idt l) : ∀ b ∈ l, b.toNat < 128 := by
  intro b hb
  obtain ⟨i, hi⟩ := List.mem_iff_getElem?.1 hb
  have hlt := (List.getElem?_eq_some_iff.1 hi).1
  have h1 := h.2 i hlt
  have e : bat l i = b.toNat := by
    unfold bat
    simp [List.getD, hi]
  unfold idc at h1
  rw [e] at h1
  simp only [ltr, dgt] at h1
  omega
theorem word_asc : ∀ w ∈ wordL, ∀ b ∈ w, b.toNat < 128 := by decide
theorem wordD_asc (k : Nat) : ∀ b ∈ wordL.getD k [], b.toNat < 128 := by
  by_cases h : k < wordL.length
  · have : wordL.getD k [] = wordL[k] := by simp [List.getD, h]
    rw [this]
    exact word_asc _ (List.getElem_mem h)
  · have : wordL.getD k [] = [] := by simp [List.getD, List.getElem?_eq_none (Nat.le_of_not_lt h)]
    rw [this]
    intro b hb
    cases hb
theorem stl_asc (op : Int) : ∀ b ∈ (stl op).1, b.toNat < 128 := by
  unfold stl
  split
  · intro b hb; cases hb
  split
  · exact wordD_asc _
  split
  · exact wordD_asc _
  split
  · decide
  split
  · exact wordD_asc _
  split
  · exact wordD_asc _
  split
  · exact wordD_asc _
  · decide
theorem fn_asc {s : List UInt8} (h : fnArg s ≠ none) : ∀ b ∈ s, b.toNat < 128 := by
  unfold fnArg at h
  split at h
  · rename_i e
    rcases e with rfl | rfl <;> decide
  split at h
  · rename_i e; subst e; decide
  split at h
  · rename_i e
    rcases e with rfl | rfl | rfl | rfl | rfl | rfl <;> decide
  split at h
  · rename_i e; subst e; decide
  · exact absurd rfl h
theorem par_va {b : Bool} {t : List UInt8} (h : valid t) : valid (par b t) := by
  unfold par
  split
  · exact valid_cons (by decide) ((valid_cut (v := []) (by decide)).2 ⟨h, valid_nil⟩)
  · exact h
theorem flat_va : ∀ l : List (List UInt8), (∀ y ∈ l, valid y) → valid (l.flatMap fun y => 44 :: 32 :: y)
  | [], _ => valid_nil
  | x :: l, h => by
    rw [List.flatMap_cons]
    exact valid_app _ _ _ (Nat.le_refl _) (valid_cons (by decide) (valid_cons (by decide) (h x (by simp)))) (flat_va l fun y hy => h y (by simp [hy]))
theorem jn_va {l : List (List UInt8)} (h : ∀ y ∈ l, valid y) : valid (jn l) := by
  cases l with
  | nil => exact valid_nil
  | cons x r =>
    rw [jn]
    exact valid_app _ _ _ (Nat.le_refl _) (h x (by simp)) (flat_va r fun y hy => h y (by simp [hy]))
theorem chkT_valid {op num : Int} {text : List UInt8} {n : Int} (h : chkT op num text n = 0) (h2 : op = 2) : valid text := by
  subst h2
  unfold chkT at h
  split at h
  · exact absurd h (by decide)
  · split at h
    · exact absurd h (by decide)
    · rw [if_neg (by decide), if_neg (by decide), if_pos rfl] at h
      split at h
      · exact absurd h (by decide)
      · rename_i hv
        exact Decidable.byContradiction fun hx => hv hx
set_option maxHeartbeats 4000000 in
theorem all_va : ∀ (N : Nat) (x : Nd), x.mass < N → okN x → ∀ lv, valid (wr x lv)
  | 0, x, h, _ => absurd h (by omega)
  | N + 1, .mk op num text args, hm, hok => by
    have hk := (okN_eq _).1 hok
    have hall : ∀ y ∈ args, okN y := (okL_all _).1 hk.2
    have hck : chkT op num text (args.length : Int) = 0 := hk.1
    obtain ⟨f1, f2, f3, f4, f5, f6, f7, f8, f9, f10⟩ := chk_facts hck
    rw [Nd.mass] at hm
    have ih : ∀ y ∈ args, ∀ lv, valid (wr y lv) := fun y hy => by
      obtain ⟨i, hi⟩ := List.mem_iff_getElem?.1 hy
      have := massN_get hi
      exact all_va N y (by omega) (hall y hy)
    intro lv
    rw [wr_eq]
    refine par_va ?_
    show valid (bod op num text (args.map wr))
    unfold bod
    split
    · rename_i c1
      unfold Lib.itoa
      rw [if_neg (by have := (f6 c1).1; omega)]
      refine valid_ascii _ fun b hb => ?_
      have hd := (decD_spec num.toNat).2.1 b hb
      unfold isDg at hd
      simp only [Bool.and_eq_true] at hd
      have := Nat.le_of_ble_eq_true hd.2
      omega
    split
    · refine valid_ascii _ ?_
      unfold fbool
      split <;> decide
    split
    · rename_i c2
      rw [ra_esc]
      exact valid_cons (by decide) ((valid_cut (v := []) (by decide)).2 ⟨esc_va text [] (chkT_valid hck c2), valid_nil⟩)
    split
    · rename_i c4
      exact valid_ascii _ (idt_asc (f9 c4).1)
    split
    · rename_i c5
      refine (valid_cut (by decide)).2 ⟨valid_ascii _ (fn_asc (f10 c5)), (valid_cut (v := []) (by decide)).2 ⟨jn_va ?_, valid_nil⟩⟩
      intro y hy
      simp only [List.map_map, List.mem_map] at hy
      obtain ⟨z, hz, rfl⟩ := hy
      exact ih z hz 0
    have hget : ∀ (i : Nat) (lv : Int), valid (((args.map wr).getD i fun _ => []) lv) := by
      intro i lv
      cases hi : args[i]? with
      | none => simp [List.getD, hi, valid_nil]
      | some y =>
        have := ih y (List.mem_of_getElem? hi) lv
        simpa [List.getD, hi] using this
    split
    · exact valid_app _ _ _ (Nat.le_refl _) (valid_ascii _ (stl_asc op)) (hget 0 _)
    · exact (valid_cut (by decide)).2 ⟨hget 0 _, (valid_cut (by decide)).2 ⟨valid_ascii _ (stl_asc op), hget 1 _⟩⟩
theorem wr_valid {x : Nd} (h : okN x) : valid (wr x 0) := all_va (x.mass + 1) x (by omega) h 0
/-! ### how large is what is read -/
theorem ra_short : ∀ (k : Nat) (t : List UInt8), t.length ≤ k → (Lib.replaceAll t [34, 34] [34]).length ≤ t.length
  | _, [], _ => by rw [ra_nil (by decide) (by decide)]; exact Nat.le_refl _
  | 0, c :: t, h => by simp at h
  | k + 1, c :: t, h => by
    cases hp : [34, 34].isPrefixOf (c :: t) with
    | true =>
      rw [ra_hit (by decide) (by decide) hp]
      cases t with
      | nil => simp [List.isPrefixOf] at hp
      | cons d t =>
        have := ra_short k t (by simp only [List.length_cons] at h; omega)
        show ([34] ++ Lib.replaceAll t [34, 34] [34]).length ≤ _
        simp only [List.length_append, List.length_cons, List.length_nil]
        omega
    | false =>
      rw [ra_miss (by decide) (by decide) hp]
      have := ra_short k t (by simp only [List.length_cons] at h; omega)
      simp only [List.length_cons]
      omega
def szR (s : List UInt8) (p : Nat) (m : Nat) : PR → Prop
  | .ok n t => Tk s t ∧ n.mass + 2 * p ≤ m + 2 * t.pos
  | _ => True
def szL (s : List UInt8) (p : Nat) (m : Nat) : PL → Prop
  | .ok l t => Tk s t ∧ massN l + 2 * p ≤ m + 2 * t.pos
  | _ => True
structure Size (s : List UInt8) (k : Nat) : Prop where
  prs : ∀ lv t, 1 ≤ lv → lv ≤ 8 → Tk s t → szR s t.pos 0 (prs s k lv t)
  lop : ∀ lv n t, 1 ≤ lv → lv ≤ 7 → Tk s t → szR s t.pos n.mass (lop s k lv n t)
  arg : ∀ t, Tk s t → szL s t.pos 0 (arg s k t)
  agl : ∀ l t, Tk s t → szL s t.pos (massN l) (agl s k l t)
theorem Tk.adv {s : List UInt8} {t : Tok} : t.pos + t.text.length ≤ (Go.Proofs.YtnoadopmeoohmaaGreatDoor.nxt s t).pos := by
  have h3 : (Go.Proofs.YtnoadopmeoohmaaGreatDoor.nxt s t).pos = t.pos + t.text.length + ((s.drop (t.pos + t.text.length)).takeWhile isSp).length := by
    show (tokAt s _).pos = _
    rw [tokAt_pos]
  omega
theorem massN_app (l : List Nd) (x : Nd) : massN (l ++ [x]) = massN l + x.mass := by
  induction l with
  | nil => simp [massN]
  | cons y l ih => simp only [List.cons_append, massN, ih]; omega
theorem size_all {s : List UInt8} : ∀ k, Size s k := by
  intro k
  induction k with
  | zero => exact ⟨fun lv t _ _ _ => by rw [prs_zero]; trivial, fun lv n t _ _ _ => by rw [lop_zero]; trivial, fun t _ => by rw [arg_zero]; trivial, fun l t _ => by rw [agl_zero]; trivial⟩
  | succ k ih =>
    have chain : ∀ lv t, 1 ≤ lv → lv ≤ 7 → Tk s t → szR s t.pos 0 (match Go.Proofs.YtnoadopmeoohmaaGreatDoor.prs s k (lv + 1) t with | .ok n t' => Go.Proofs.YtnoadopmeoohmaaGreatDoor.lop s k lv n t' | r => r) := by
      intro lv t h1 h2 ht
      have g := ih.prs (lv + 1) t (by omega) (by omega) ht
      cases hp : Go.Proofs.YtnoadopmeoohmaaGreatDoor.prs s k (lv + 1) t with
      | no => trivial
      | err => trivial
      | ok n t' =>
        rw [hp] at g
        have g2 := ih.lop lv n t' h1 h2 g.1
        dsimp only
        cases hl : Go.Proofs.YtnoadopmeoohmaaGreatDoor.lop s k lv n t' with
        | no => trivial
        | err => trivial
        | ok m t2 => rw [hl] at g2; exact ⟨g2.1, by have := g.2; have := g2.2; omega⟩
    have un : ∀ op lv t, 1 ≤ lv → lv ≤ 8 → Tk s t → ¬ t.kind = [46] → ¬ t.kind = [33] → szR s t.pos 0 (match Go.Proofs.YtnoadopmeoohmaaGreatDoor.prs s k lv (nxt s t) with | .ok n t' => .ok (.mk op 0 [] [n]) t' | r => r) := by
      intro op lv t h1 h2 ht a1 a2
      have hst := ht.step a1 a2
      have g := ih.prs lv (nxt s t) h1 h2 ht.nxt
      cases hp : Go.Proofs.YtnoadopmeoohmaaGreatDoor.prs s k lv (nxt s t) with
      | no => trivial
      | err => trivial
      | ok n t' => rw [hp] at g; exact ⟨g.1, by have := g.2; simp only [Nd.mass, massN, List.length_nil]; omega⟩
    refine ⟨?_, ?_, ?_, ?_⟩
    · intro lv t h1 h2 ht
      match lv, h1, h2 with
      | 1, h1, h2 => rw [prs_or]; exact chain 1 t h1 (by omega) ht
      | 2, h1, h2 => rw [prs_and]; exact chain 2 t h1 (by omega) ht
      | 3, h1, h2 =>
        rw [prs_not]
        split
        · rename_i hkd
          exact un 8 3 t (by omega) (by omega) ht (by rw [hkd]; decide) (by rw [hkd]; decide)
        · exact ih.prs 4 t (by omega) (by omega) ht
      | 4, h1, h2 =>
        rw [prs_rel]
        have g := ih.prs 5 t (by omega) (by omega) ht
        cases hp : Go.Proofs.YtnoadopmeoohmaaGreatDoor.prs s k 5 t with
        | no => trivial
        | err => trivial
        | ok n t' =>
          rw [hp] at g
          dsimp only
          cases ho : opAt 4 t'.kind with
          | none => exact g
          | some op =>
            dsimp only
            have hkd := opAt_kind ho
            have hst := g.1.step hkd.1 hkd.2
            have hle := g.2
            have g2 := ih.prs 5 (nxt s t') (by omega) (by omega) g.1.nxt
            cases hp2 : Go.Proofs.YtnoadopmeoohmaaGreatDoor.prs s k 5 (nxt s t') with
            | no => trivial
            | err => trivial
            | ok n2 t2 => rw [hp2] at g2; exact ⟨g2.1, by have := g2.2; simp only [Nd.mass, massN, List.length_nil]; omega⟩
      | 5, h1, h2 => rw [prs_sum]; exact chain 5 t h1 (by omega) ht
      | 6, h1, h2 => rw [prs_product]; exact chain 6 t h1 (by omega) ht
      | 7, h1, h2 =>
        rw [prs_fac]
        split
        · rename_i hkd
          exact un 21 7 t (by omega) (by omega) ht (by rw [hkd]; decide) (by rw [hkd]; decide)
        · exact ih.prs 8 t (by omega) (by omega) ht
      | 8, h1, h2 =>
        rw [prs_prim]
        split
        · rename_i hkd
          have hst := ht.step (by rw [hkd]; decide) (by rw [hkd]; decide)
          split
          · exact ⟨ht.nxt, by simp only [Nd.mass, massN, List.length_nil]; omega⟩
          · trivial
        split
        · rename_i hkd
          have hst := ht.step (by rw [hkd]; decide) (by rw [hkd]; decide)
          have had := Tk.adv (s := s) (t := t)
          have h3 := ht.ok.str hkd
          have h4 := ra_short _ ((t.text.take (t.text.length - 1)).drop 1) (Nat.le_refl _)
          have h5 : ((t.text.take (t.text.length - 1)).drop 1).length ≤ t.text.length := by rw [List.length_drop, List.length_take]; omega
          exact ⟨ht.nxt, by simp only [Nd.mass, massN]; omega⟩
        split
        · rename_i hkd
          have hst := ht.step (by rw [hkd]; decide) (by rw [hkd]; decide)
          exact ⟨ht.nxt, by simp only [Nd.mass, massN, List.length_nil]; omega⟩
        split
        · rename_i hkd
          have hst := ht.step (by rw [hkd]; decide) (by rw [hkd]; decide)
          exact ⟨ht.nxt, by simp only [Nd.mass, massN, List.length_nil]; omega⟩
        split
        · rename_i hkd
          have hne : t.text ≠ [] := fun he => (ht.ne he).elim (by rw [hkd]; decide) (by rw [hkd]; decide)
          have hl : 0 < t.text.length := List.length_pos_iff.2 hne
          have had := Tk.adv (s := s) (t := t)
          split
          · trivial
          split
          · rename_i hk2
            have hst2 := ht.nxt.step (by rw [hk2]; decide) (by rw [hk2]; decide)
            have g := ih.arg (nxt s (nxt s t)) ht.nxt.nxt
            cases hp : Go.Proofs.YtnoadopmeoohmaaGreatDoor.arg s k (nxt s (nxt s t)) with
            | no => trivial
            | err => trivial
            | ok l t' => rw [hp] at g; exact ⟨g.1, by have := g.2; simp only [Nd.mass]; omega⟩
          · exact ⟨ht.nxt, by simp only [Nd.mass, massN]; omega⟩
        split
        · rename_i hkd
          have hst := ht.step (by rw [hkd]; decide) (by rw [hkd]; decide)
          have g := ih.prs 1 (nxt s t) (by omega) (by omega) ht.nxt
          cases hp : Go.Proofs.YtnoadopmeoohmaaGreatDoor.prs s k 1 (nxt s t) with
          | no => trivial
          | err => trivial
          | ok n t' =>
            rw [hp] at g
            dsimp only
            split
            · rename_i hk2
              have hst2 := g.1.step (by rw [hk2]; decide) (by rw [hk2]; decide)
              exact ⟨g.1.nxt, by have := g.2; omega⟩
            · trivial
        · trivial
    · intro lv n t h1 h2 ht
      rw [lop_succ]
      cases ho : opAt lv t.kind with
      | none => exact ⟨ht, by omega⟩
      | some op =>
        dsimp only
        have hkd := opAt_kind ho
        have hst := ht.step hkd.1 hkd.2
        have g := ih.prs (lv + 1) (nxt s t) (by omega) (by omega) ht.nxt
        cases hp : Go.Proofs.YtnoadopmeoohmaaGreatDoor.prs s k (lv + 1) (nxt s t) with
        | no => trivial
        | err => trivial
        | ok m t' =>
          rw [hp] at g
          have g2 := ih.lop lv (.mk op 0 [] [n, m]) t' h1 h2 g.1
          dsimp only
          cases hl : Go.Proofs.YtnoadopmeoohmaaGreatDoor.lop s k lv (.mk op 0 [] [n, m]) t' with
          | no => trivial
          | err => trivial
          | ok m2 t2 =>
            rw [hl] at g2
            exact ⟨g2.1, by have := g.2; have h9 := g2.2; simp only [Nd.mass, massN, List.length_nil] at h9; omega⟩
    · intro t ht
      rw [arg_succ]
      split
      · rename_i hkd
        have hst := ht.step (by rw [hkd]; decide) (by rw [hkd]; decide)
        exact ⟨ht.nxt, by simp only [massN]; omega⟩
      · have g := ih.prs 1 t (by omega) (by omega) ht
        cases hp : Go.Proofs.YtnoadopmeoohmaaGreatDoor.prs s k 1 t with
        | no => trivial
        | err => trivial
        | ok n t' =>
          rw [hp] at g
          have g2 := ih.agl [n] t' g.1
          dsimp only
          cases hl : Go.Proofs.YtnoadopmeoohmaaGreatDoor.agl s k [n] t' with
          | no => trivial
          | err => trivial
          | ok l t2 => rw [hl] at g2; exact ⟨g2.1, by have := g.2; have h9 := g2.2; simp only [massN] at h9; omega⟩
    · intro l t ht
      rw [agl_succ]
      split
      · rename_i hkd
        have hst := ht.step (by rw [hkd]; decide) (by rw [hkd]; decide)
        have g := ih.prs 1 (nxt s t) (by omega) (by omega) ht.nxt
        cases hp : Go.Proofs.YtnoadopmeoohmaaGreatDoor.prs s k 1 (nxt s t) with
        | no => trivial
        | err => trivial
        | ok n t' =>
          rw [hp] at g
          have g2 := ih.agl (l ++ [n]) t' g.1
          dsimp only
          cases hl : Go.Proofs.YtnoadopmeoohmaaGreatDoor.agl s k (l ++ [n]) t' with
          | no => trivial
          | err => trivial
          | ok l2 t2 => rw [hl] at g2; exact ⟨g2.1, by have := g.2; have h9 := g2.2; rw [massN_app] at h9; omega⟩
      · split
        · rename_i hkd
          have hst := ht.step (by rw [hkd]; decide) (by rw [hkd]; decide)
          exact ⟨ht.nxt, by omega⟩
        · trivial
theorem prs_mass {s : List UInt8} {k : Nat} {nd : Nd} {t : Tok} (hl : s.length ≤ 1024) (h : prs s k 1 (scn s 0) = .ok nd t) : nd.mass ≤ 2048 := by
  have g := (size_all k).prs 1 (scn s 0) (by omega) (by omega) (Tk.scn (by omega))
  rw [h] at g
  have := g.1.ok.le
  have := g.2
  omega
end Go.Proofs.YtnoadopmeoohmaaGreatDoor
