/-
  Templates of labels: the text of parts; what is read is what was written (plain Lean).
-/
import Derived.Test.YtaneeaojlkenmaaGreatDoorL1
namespace Go.Proofs.YtaneeaojlkenmaaGreatDoor
open Go
set_option linter.unusedVariables false
set_option linter.unusedSimpArgs false
/-! ### ASCII bytes cut a string -/
theorem bat_app {l m : List UInt8} {k : Int} (h0 : 0 ≤ k) (h : k < l.length) : bat (l ++ m) k = bat l k := by
  unfold bat
  have : k.toNat < l.length := by omega
  simp [List.getD, List.getElem?_append_left this]
theorem bat_mid {l m : List UInt8} {a : UInt8} {k : Int} (h : k = l.length) : bat (l ++ a :: m) k = a.toNat := by
  subst h
  unfold bat
  simp [List.getD]
theorem enc_app {l m : List UInt8} (hl : l ≠ []) (h : enc l 0 ≠ 0) : enc (l ++ m) 0 = enc l 0 := by
  have hp : 0 < l.length := List.length_pos_iff.2 hl
  have h0 : bat (l ++ m) 0 = bat l 0 := bat_app (by omega) (by omega)
  by_cases h1 : bat l 0 < 0x80
  · unfold enc; rw [h0, if_pos h1, if_pos h1]
  by_cases h2 : tailSize (bat l 0) = 0
  · unfold enc at h; rw [if_neg h1, if_pos h2] at h; exact absurd rfl h
  have ht := tailSize_le (bat l 0)
  have h3 : 1 < tailSize (bat l 0) := by
    rcases (by omega : tailSize (bat l 0) = 1 ∨ 1 < tailSize (bat l 0)) with h | h
    · exact absurd (tailSize_one h) h1
    · exact h
  by_cases hk : okTo l 0 (tailSize (bat l 0))
  · rw [enc_ok h3 hk]
    have hin := hk.1
    have e := enc_ok (l := l ++ m) (i := 0) (by rw [h0]; exact h3) (by
      rw [h0]
      refine ⟨by rw [List.length_append]; omega, fun h => ?_, fun h => ?_, fun h => ?_⟩
      · rw [h0, bat_app (by omega) (by omega)]; exact hk.2.1 h
      · rw [bat_app (by omega) (by omega)]; exact hk.2.2.1 h
      · rw [bat_app (by omega) (by omega)]; exact hk.2.2.2 h)
    rw [e, h0]
  · exact absurd (enc_no h3 hk) h
theorem enc_asc {l v : List UInt8} {a : UInt8} (hl : l ≠ []) (ha : a.toNat < 128) (h : enc (l ++ a :: v) 0 ≠ 0) : enc l 0 = enc (l ++ a :: v) 0 := by
  have hp : 0 < l.length := List.length_pos_iff.2 hl
  have h0 : bat (l ++ a :: v) 0 = bat l 0 := bat_app (by omega) (by omega)
  by_cases h1 : bat l 0 < 0x80
  · unfold enc; rw [h0, if_pos h1, if_pos h1]
  by_cases h2 : tailSize (bat l 0) = 0
  · unfold enc at h; rw [h0, if_neg h1, if_pos h2] at h; exact absurd rfl h
  have ht := tailSize_le (bat l 0)
  have h3 : 1 < tailSize (bat l 0) := by
    rcases (by omega : tailSize (bat l 0) = 1 ∨ 1 < tailSize (bat l 0)) with h | h
    · exact absurd (tailSize_one h) h1
    · exact h
  by_cases hk : okTo (l ++ a :: v) 0 (tailSize (bat l 0))
  · have e := enc_ok (l := l ++ a :: v) (i := 0) (by rw [h0]; exact h3) (by rw [h0]; exact hk)
    rw [e, h0]
    have hlen : tailSize (bat l 0) ≤ l.length := by
      rcases Int.lt_or_le (l.length : Int) (tailSize (bat l 0)) with hc | hc
      · exfalso
        have ho := okTo_at hk (k := (l.length : Int)) (by omega) hc (by omega)
        rw [Int.zero_add, bat_mid rfl] at ho
        have hlow : 0x80 ≤ tailLow (bat (l ++ a :: v) 0) := by unfold tailLow; (repeat' split) <;> omega
        have h9 := ho.1
        split at h9 <;> omega
      · exact hc
    refine enc_ok h3 ⟨by omega, fun h => ?_, fun h => ?_, fun h => ?_⟩
    · have := hk.2.1 h; rwa [h0, bat_app (by omega) (by omega)] at this
    · have := hk.2.2.1 h; rwa [bat_app (by omega) (by omega)] at this
    · have := hk.2.2.2 h; rwa [bat_app (by omega) (by omega)] at this
  · exact absurd (enc_no (l := l ++ a :: v) (i := 0) (by rw [h0]; exact h3) (by rw [h0]; exact hk)) h
theorem valid_asc (a : UInt8) (v : List UInt8) (ha : a.toNat < 128) : ∀ (k : Nat) (u : List UInt8), u.length ≤ k → (valid (u ++ a :: v) ↔ valid u ∧ valid v)
  | k, [], _ => by
    have e : enc (a :: v) 0 = 1 := by
      have : bat (a :: v) 0 < 0x80 := by show (a.toNat : Int) < 128; omega
      unfold enc; rw [if_pos this]
    show valid (a :: v) ↔ _
    rw [valid_step (by simp) (by rw [e]; decide), e]
    exact ⟨fun h => ⟨valid_nil, h⟩, fun h => h.2⟩
  | 0, b :: u, h => by simp at h
  | k + 1, b :: u, h => by
    have hne : b :: u ≠ [] := by simp
    by_cases h0 : enc (b :: u ++ a :: v) 0 = 0
    · refine ⟨fun h => absurd h (valid_no (by simp) h0), fun ⟨h1, _⟩ => ?_⟩
      by_cases h2 : enc (b :: u) 0 = 0
      · exact absurd h1 (valid_no hne h2)
      · rw [enc_app hne h2] at h0
        exact absurd h0 h2
    · have e := enc_asc hne ha h0
      rw [valid_step (by simp) h0, valid_step hne (by rw [e]; exact h0), ← e]
      have hf := enc_fits (b :: u) 0 (by omega) (by simp)
      have hb := enc_b (b :: u) 0
      rw [e] at hf hb
      rw [List.drop_append_of_le_length (by rw [e]; omega)]
      rw [e]
      exact valid_asc a v ha k _ (by rw [List.length_drop]; simp only [List.length_cons] at h ⊢; omega)
theorem valid_cut {a : UInt8} {u v : List UInt8} (ha : a.toNat < 128) : valid (u ++ a :: v) ↔ valid u ∧ valid v := valid_asc a v ha _ u (Nat.le_refl _)
/-- strings that differ in ASCII bytes alone -/
inductive Asc2 : List UInt8 → List UInt8 → Prop where
  | nil : Asc2 [] []
  | same (a : UInt8) {s t : List UInt8} : Asc2 s t → Asc2 (a :: s) (a :: t)
  | diff {a b : UInt8} {s t : List UInt8} : a.toNat < 128 → b.toNat < 128 → Asc2 s t → Asc2 (a :: s) (b :: t)
theorem Asc2.refl : ∀ s : List UInt8, Asc2 s s
  | [] => .nil
  | a :: s => .same a (Asc2.refl s)
theorem Asc2.app {s t s' t' : List UInt8} (h : Asc2 s t) (h' : Asc2 s' t') : Asc2 (s ++ s') (t ++ t') := by
  induction h with
  | nil => exact h'
  | same a _ ih => exact .same a ih
  | diff ha hb _ ih => exact .diff ha hb ih
theorem Asc2.len {s t : List UInt8} (h : Asc2 s t) : s.length = t.length := by
  induction h with
  | nil => rfl
  | same a _ ih => simp [ih]
  | diff ha hb _ ih => simp [ih]
theorem Asc2.valid {s t : List UInt8} (h : Asc2 s t) : ∀ w, valid (w ++ s) ↔ valid (w ++ t) := by
  induction h with
  | nil => intro w; exact Iff.rfl
  | same a _ ih => intro w; have := ih (w ++ [a]); simpa only [List.append_assoc, List.singleton_append] using this
  | diff ha hb _ ih =>
    intro w
    rw [valid_cut ha, valid_cut hb]
    have := ih []
    simp only [List.nil_append] at this
    rw [this]
/-! ### text -/
def esc (l : List UInt8) : List UInt8 := l.flatMap fun b => if b = 37 then [37, 37] else [b]
/-- the digit of a level -/
def ldig (n : Int) : UInt8 := UInt8.ofNat (48 + n).toNat
def plc (p : Pt) : List UInt8 := (if p.plain then [37, 100] else [37]) ++ [ldig p.lev]
def wrt (p : Pt) : List UInt8 := if p.lev = 0 then esc p.lit else plc p
def txt (l : List Pt) : List UInt8 := l.flatMap wrt
theorem txt_append (l m : List Pt) : txt (l ++ m) = txt l ++ txt m := by unfold txt; rw [List.flatMap_append]
theorem esc_append (l m : List UInt8) : esc (l ++ m) = esc l ++ esc m := by unfold esc; rw [List.flatMap_append]
theorem ldig_dlev {b : UInt8} (h : dig b) : ldig (dlev b) = b := by
  unfold ldig dlev
  have e : (48 + ((b.toNat : Int) - 48)).toNat = b.toNat := by omega
  rw [e]
  simp
theorem ldig_dig {n : Int} (h : 1 ≤ n ∧ n ≤ 9) : dig (ldig n) ∧ dlev (ldig n) = n := by
  have e : (ldig n).toNat = (48 + n).toNat := by
    unfold ldig
    rw [UInt8.toNat_ofNat']
    omega
  unfold dig dlev
  rw [e]
  omega
/-- a part as reading gives it -/
def PlaceOk (p : Pt) : Prop := p.lit = [] ∧ 1 ≤ p.lev ∧ p.lev ≤ 9
def LitOk (p : Pt) : Prop := p.lit ≠ [] ∧ p.lev = 0 ∧ p.plain = false
/-- parts as reading gives them: b says that a literal string may begin -/
inductive Norm : Bool → List Pt → Prop where
  | nil (b : Bool) : Norm b []
  | place {b : Bool} {p : Pt} {l : List Pt} : PlaceOk p → Norm true l → Norm b (p :: l)
  | lit {p : Pt} {l : List Pt} : LitOk p → Norm false l → Norm true (p :: l)
theorem pct_text {r : List UInt8} {p : Pt} {n : Nat} (h : pct r = .place p n) : PlaceOk p ∧ plc p ++ r.drop n = 37 :: r := by
  refine ⟨(pct_place h).2.2.2, ?_⟩
  cases r with
  | nil => cases h
  | cons c r =>
    rw [pct_cons] at h
    by_cases h1 : c = 37
    · rw [if_pos h1] at h; cases h
    rw [if_neg h1] at h
    by_cases h2 : dig c
    · rw [if_pos h2] at h
      cases h
      simp [plc, ldig_dlev h2]
    rw [if_neg h2] at h
    by_cases h3 : c = 100
    · rw [if_pos h3] at h
      cases r with
      | nil => cases h
      | cons d r =>
        dsimp only at h
        by_cases h4 : dig d
        · rw [if_pos h4] at h
          cases h
          simp [plc, ldig_dlev h4, h3]
        · rw [if_neg h4] at h; cases h
    · rw [if_neg h3] at h; cases h
theorem pct_of {p : Pt} {r : List UInt8} (h : PlaceOk p) : ∃ q n, plc p ++ r = 37 :: q ∧ pct q = .place p n ∧ q.drop n = r := by
  obtain ⟨h1, h2, h3⟩ := h
  obtain ⟨hd, hl⟩ := ldig_dig (n := p.lev) ⟨h2, h3⟩
  have hn : ldig p.lev ≠ 37 := fun e => by rw [e] at hd; revert hd; decide
  obtain ⟨lit, lev, pl⟩ := p
  dsimp only at h1 hd hl hn ⊢
  subst h1
  cases pl with
  | false =>
    refine ⟨ldig lev :: r, 1, rfl, ?_, rfl⟩
    rw [pct_cons, if_neg hn, if_pos hd, hl]
  | true =>
    refine ⟨100 :: ldig lev :: r, 2, rfl, ?_, rfl⟩
    rw [pct_cons, if_neg (by decide), if_neg (by decide), if_pos rfl]
    dsimp only
    rw [if_pos hd, hl]
theorem wrt_place {p : Pt} (h : PlaceOk p) : wrt p = plc p := by unfold wrt; rw [if_neg (by have := h.2.1; omega)]
theorem txt_fls (acc : List Pt) (lit : List UInt8) : txt (fls acc lit) = txt acc ++ esc lit := by
  unfold fls
  split
  · rename_i h; rw [h]; simp [esc]
  · rw [txt_append]; simp [txt, wrt]
theorem norm_app {b : Bool} {l : List Pt} {p : Pt} (h : Norm b l) (hp : PlaceOk p) : ∀ m, Norm true m → Norm b (l ++ p :: m) := by
  induction h with
  | nil b => intro m hm; exact .place hp hm
  | place h1 _ ih => intro m hm; exact .place h1 (ih m hm)
  | lit h1 _ ih => intro m hm; exact .lit h1 (ih m hm)
/-- parts after which a literal string may begin -/
def Open (l : List Pt) : Prop := ∀ m, Norm true m → Norm true (l ++ m)
theorem open_nil : Open [] := fun m h => h
theorem open_place {l : List Pt} {lit : List UInt8} {p : Pt} (h : Open l) (hp : PlaceOk p) : Open (fls l lit ++ [p]) := fun m hm => by
  unfold fls
  split
  · rw [List.append_assoc]
    exact h _ (.place hp hm)
  · rename_i hl
    rw [List.append_assoc, List.append_assoc]
    exact h _ (.lit ⟨hl, rfl, rfl⟩ (.place hp hm))
/-- what is read is what was written -/
theorem scn_text : ∀ (k : Nat) (s lit : List UInt8) (acc l : List Pt), s.length ≤ k → Open acc → scnS s lit acc = some l → txt l = txt acc ++ esc lit ++ s ∧ Norm true l
  | _, [], lit, acc, l, _, ho, h => by
    rw [scnS_nil] at h
    cases h
    refine ⟨by rw [txt_fls, List.append_nil], ?_⟩
    unfold fls
    split
    · simpa using ho [] (.nil true)
    · rename_i hl; exact ho _ (.lit ⟨hl, rfl, rfl⟩ (.nil false))
  | 0, _ :: _, _, _, _, h, _, _ => by simp at h
  | k + 1, b :: r, lit, acc, l, hk, ho, h => by
    simp only [List.length_cons] at hk
    by_cases hb : b = 37
    · subst hb
      cases hp : pct r with
      | bad => rw [scnS_bad hp] at h; cases h
      | sign =>
        rw [scnS_sign hp] at h
        obtain ⟨h1, h2⟩ := scn_text k _ _ _ _ (by rw [List.length_drop]; omega) ho h
        refine ⟨?_, h2⟩
        rw [h1, esc_append]
        have : r = 37 :: r.drop 1 := by
          cases r with
          | nil => cases hp
          | cons c r =>
            rw [pct_cons] at hp
            by_cases h1 : c = 37
            · rw [h1]; rfl
            · rw [if_neg h1] at hp
              split at hp
              · cases hp
              · split at hp
                · cases r with
                  | nil => cases hp
                  | cons d r =>
                    dsimp only at hp
                    split at hp <;> cases hp
                · cases hp
        conv => rhs; rw [this]
        simp [esc]
      | place p n =>
        rw [scnS_place hp] at h
        obtain ⟨hq, ht⟩ := pct_text hp
        obtain ⟨h1, h2⟩ := scn_text k _ _ _ _ (by rw [List.length_drop]; omega) (open_place ho hq) h
        refine ⟨?_, h2⟩
        rw [h1, txt_append, txt_fls]
        simp only [txt, List.flatMap_cons, List.flatMap_nil, List.append_nil, wrt_place hq]
        rw [← ht]
        simp [esc]
    · rw [scnS_lit hb] at h
      obtain ⟨h1, h2⟩ := scn_text k _ _ _ _ (by omega) ho h
      refine ⟨?_, h2⟩
      rw [h1, esc_append]
      simp [esc, hb]
/-- what is written is read again -/
theorem scn_esc : ∀ (u s lit : List UInt8) (acc : List Pt), scnS (esc u ++ s) lit acc = scnS s (lit ++ u) acc
  | [], s, lit, acc => by simp [esc]
  | b :: u, s, lit, acc => by
    have ih := scn_esc u s (lit ++ [b]) acc
    rw [List.append_assoc, List.singleton_append] at ih
    rw [← ih]
    by_cases hb : b = 37
    · subst hb
      have e : esc (37 :: u) ++ s = 37 :: 37 :: (esc u ++ s) := by simp [esc]
      rw [e, scnS_sign (by rw [pct_cons, if_pos rfl])]
      rfl
    · have e : esc (b :: u) ++ s = b :: (esc u ++ s) := by simp [esc, hb]
      rw [e, scnS_lit hb]
theorem txt_scn : ∀ {b : Bool} {l : List Pt}, Norm b l → ∀ (lit : List UInt8) (acc : List Pt), (b = true → lit = []) → scnS (txt l) lit acc = some (fls acc lit ++ l) := by
  intro b l h
  induction h with
  | nil b => intro lit acc _; simp [txt, scnS_nil]
  | @place b p l hp hn ih =>
    intro lit acc _
    obtain ⟨q, n, h1, h2, h3⟩ := pct_of (r := txt l) hp
    have e : txt (p :: l) = 37 :: q := by rw [← h1]; simp [txt, wrt_place hp]
    rw [e, scnS_place h2, h3, ih [] _ (fun _ => rfl)]
    simp [fls]
  | @lit p l hp hn ih =>
    intro lit acc hl
    obtain ⟨h1, h2, h3⟩ := hp
    obtain rfl := hl rfl
    obtain ⟨pl, plev, pp⟩ := p
    dsimp only at h1 h2 h3
    subst h2 h3
    have e : txt (⟨pl, 0, false⟩ :: l) = esc pl ++ txt l := by simp [txt, wrt]
    rw [e, scn_esc, List.nil_append, ih pl acc (fun h => by cases h)]
    simp [fls, h1]
theorem scn_txt {l : List Pt} (h : Norm true l) : scnS (txt l) [] [] = some l := by
  rw [txt_scn h [] [] fun _ => rfl]
  simp [fls]
theorem text_scn {s : List UInt8} {l : List Pt} (h : scnS s [] [] = some l) : txt l = s ∧ Norm true l := by
  have := scn_text s.length s [] [] l (Nat.le_refl _) open_nil h
  simpa [txt, esc] using this
end Go.Proofs.YtaneeaojlkenmaaGreatDoor
