import Derived.Test.YtnoadopmeoohmaaGreatDoorZ31
import Derived.Lib.CountLaws
/-
  The law Shows: its plain part. Numbers and their texts.
  The law's decimal, show, integer; Read; the law Shows. Printed by genF41.py.
-/
namespace Go.Proofs.YtnoadopmeoohmaaGreatDoor
open Go
set_option linter.unusedVariables false
set_option linter.unusedSimpArgs false
section
def trueS : List UInt8 := [116, 114, 117, 101]
def falseS : List UInt8 := [102, 97, 108, 115, 101]
/-- what the law's integer gives -/
def intR (s : List UInt8) : Int × Int :=
  if (digR (Lib.trimPrefix s [45])).2 ≠ 0 then (0, (digR (Lib.trimPrefix s [45])).2)
  else (if (Lib.trimPrefix s [45]).length < s.length then -(digR (Lib.trimPrefix s [45])).1 else (digR (Lib.trimPrefix s [45])).1, 0)
def rdV (s : List UInt8) : Val := if s = trueS ∨ s = falseS then booV (decide (s = trueS)) else if (intR s).2 = 0 ∧ s ≠ [45, 48] then numV (intR s).1 else txtV s
theorem dval_append : ∀ (a b : List UInt8) (n : Nat), dval (a ++ b) n = dval b (dval a n)
  | [], _, _ => rfl
  | _ :: a, b, _ => dval_append a b _
/-! the law's decimal -/
end
def DecC (N : Nat) : Prop := ∀ (H : Hp) (n : Int), I64 n → n.natAbs < N → FnP Tryz.prog 51 [.int .i64 n] H (sv (Lib.itoa n))
attribute [local irreducible] wpA opsA drJ drQ drE Ef Ev Shift Fn
theorem digR_good {p : List UInt8} (h0 : p ≠ []) (hz : ¬ (1 < p.length ∧ p.head? = some 48)) (h : ∀ b ∈ p, isDg b = true) : digR p = (if 1099511627776 < dval p 0 then ((0 : Int), (29 : Int)) else (((dval p 0 : Nat) : Int), (0 : Int))) := by
  unfold digR
  rw [if_neg]
  rintro (h1 | h1 | h1)
  · exact h0 h1
  · obtain ⟨b, hb, h2⟩ := List.any_eq_true.1 h1
    rw [h b hb] at h2
    exact absurd h2 (by decide)
  · exact hz h1
end Go.Proofs.YtnoadopmeoohmaaGreatDoor
/-
  The law Returns, plain: tokens of what is written.
-/
namespace Go.Proofs.YtnoadopmeoohmaaGreatDoor
open Go
set_option linter.unusedVariables false
set_option linter.unusedSimpArgs false
/-! ### replaceAll -/
theorem ra_eq {s o n : List UInt8} (h : o ≠ n) : Lib.replaceAll s o n = Lib.replaceK o n (Lib.count s o) s := by
  unfold Lib.replaceAll Lib.replace Lib.replaceNum
  rw [if_neg (by simpa using h), if_pos (.inl (by decide))]
theorem ra_hit {s o n : List UInt8} (h : o ≠ n) (h0 : o ≠ []) (hp : o.isPrefixOf s = true) : Lib.replaceAll s o n = n ++ Lib.replaceAll (s.drop o.length) o n := by
  have hi : Lib.index s o = ((0 : Nat) : Int) := by
    cases s with
    | nil => cases o with
      | nil => exact absurd rfl h0
      | cons a t => cases hp
    | cons b l => unfold Lib.index; rw [if_pos hp]; rfl
  rw [ra_eq h, ra_eq h, Lib.count_hit h0 hi, Nat.add_comm 1, Lib.replaceK_hit _ _ _ _ 0 hi]
  simp
theorem ra_miss {c : UInt8} {t o n : List UInt8} (h : o ≠ n) (h0 : o ≠ []) (hp : o.isPrefixOf (c :: t) = false) : Lib.replaceAll (c :: t) o n = c :: Lib.replaceAll t o n := by
  rw [ra_eq h, ra_eq h]
  have hi : Lib.index (c :: t) o = if Lib.index t o == -1 then -1 else Lib.index t o + 1 := by
    rw [Lib.index, hp]; rfl
  have hge := Lib.index_ge t o
  by_cases hm : Lib.index t o = -1
  · rw [hm] at hi
    rw [Lib.count_miss hm, Lib.count_miss (show Lib.index (c :: t) o = -1 from hi)]
    rfl
  · obtain ⟨i, hti⟩ : ∃ i : Nat, Lib.index t o = i := ⟨(Lib.index t o).toNat, by omega⟩
    have hm' : (Lib.index t o == -1) = false := by rw [beq_eq_false_iff_ne]; exact hm
    rw [hm', hti] at hi
    have hi' : Lib.index (c :: t) o = ((i + 1 : Nat) : Int) := by rw [hi]; simp
    rw [Lib.count_hit h0 hi', Lib.count_hit h0 hti, Nat.add_comm 1, Nat.add_comm 1, Lib.replaceK_hit _ _ _ _ _ hi', Lib.replaceK_hit _ _ _ _ _ hti]
    rw [show i + 1 + o.length = (i + o.length) + 1 by omega]
    simp
theorem ra_nil {o n : List UInt8} (h : o ≠ n) (h0 : o ≠ []) : Lib.replaceAll [] o n = [] := by
  rw [ra_eq h]
  have : Lib.index [] o = -1 := by
    cases o with
    | nil => exact absurd rfl h0
    | cons a t => rfl
  rw [Lib.count_miss this]
  rfl
/-- a text with its quotation marks doubled -/
def esc : List UInt8 → List UInt8
  | [] => []
  | c :: t => if c = 34 then 34 :: 34 :: esc t else c :: esc t
theorem ra_esc : ∀ t : List UInt8, Lib.replaceAll t [34] [34, 34] = esc t
  | [] => ra_nil (by decide) (by decide)
  | c :: t => by
    unfold esc
    by_cases h : c = 34
    · subst h
      rw [if_pos rfl, ra_hit (by decide) (by decide) (by rfl)]
      show [34, 34] ++ Lib.replaceAll t [34] [34, 34] = _
      rw [ra_esc t]
      rfl
    · rw [if_neg h, ra_miss (by decide) (by decide) (by simp [List.isPrefixOf]; exact fun h9 => h h9.symm), ra_esc t]
theorem ra_back : ∀ t : List UInt8, Lib.replaceAll (esc t) [34, 34] [34] = t
  | [] => ra_nil (by decide) (by decide)
  | c :: t => by
    unfold esc
    by_cases h : c = 34
    · subst h
      rw [if_pos rfl, ra_hit (by decide) (by decide) (by rfl)]
      show [34] ++ Lib.replaceAll (esc t) [34, 34] [34] = _
      rw [ra_back t]
      rfl
    · rw [if_neg h, ra_miss (by decide) (by decide) (by simp [List.isPrefixOf]; exact fun h9 => absurd h9.symm h), ra_back t]
theorem esc_ct : ∀ t : List UInt8, t.any isCt = false → (esc t).any isCt = false
  | [], _ => rfl
  | c :: t, h => by
    rw [List.any_cons, Bool.or_eq_false_iff] at h
    unfold esc
    split
    · rw [List.any_cons, List.any_cons, esc_ct t h.2]; decide
    · rw [List.any_cons, h.1, esc_ct t h.2]; rfl
/-- what may stand behind an expression -/
def sf : List UInt8 → Prop
  | [] => True
  | c :: _ => c = 32 ∨ c = 41 ∨ c = 44
theorem qlen_esc : ∀ (t : List UInt8) {post : List UInt8}, sf post → qlen (esc t ++ 34 :: post) = some ((esc t).length + 1)
  | [], post, h => by
    cases post with
    | nil => exact qlen_last
    | cons c r => exact qlen_one (by rcases h with rfl | rfl | rfl <;> decide)
  | c :: t, post, h => by
    unfold esc
    by_cases hc : c = 34
    · subst hc
      rw [if_pos rfl]
      show qlen (34 :: 34 :: (esc t ++ 34 :: post)) = _
      rw [qlen_two, qlen_esc t h]
      rfl
    · rw [if_neg hc]
      show qlen (c :: (esc t ++ 34 :: post)) = _
      rw [qlen_other hc, qlen_esc t h]
      rfl
/-! ### tokens at the head of a text -/
def tk (u : List UInt8) (q : Nat) : Tok := tokAt (List.replicate q 0 ++ u) q
theorem tk_at {s u : List UInt8} {q : Nat} (h : s.drop q = u) : tokAt s q = tk u q := by
  unfold tk tokAt
  rw [h]
  simp
theorem scn_at {s u : List UInt8} {q : Nat} (h : s.drop q = u) (hs : u.takeWhile isSp = []) : scn s q = tk u q := by
  unfold scn
  rw [h, hs]
  exact tk_at h
theorem drop_add {s u v : List UInt8} {q : Nat} (h : s.drop q = u ++ v) : s.drop (q + u.length) = v := by
  rw [← List.drop_drop, h, List.drop_left]
theorem tk_nil (q : Nat) : tk [] q = ⟨[46], [], q⟩ := by
  unfold tk tokAt; simp
theorem tk_num {d post : List UInt8} {q : Nat} (h0 : d ≠ []) (hd : ∀ b ∈ d, isDg b = true) (hz : ¬ (1 < d.length ∧ d.head? = some 48)) (hp : sf post) : tk (d ++ post) q = ⟨[110], d, q⟩ := by
  have htw : (d ++ post).takeWhile isDg = d := by
    rw [List.takeWhile_append_of_pos hd]
    have : post.takeWhile isDg = [] := by
      cases post with
      | nil => rfl
      | cons c r => rw [List.takeWhile_cons]; rcases hp with rfl | rfl | rfl <;> rfl
    rw [this, List.append_nil]
  obtain ⟨c, r, rfl⟩ : ∃ c r, d = c :: r := by
    cases d with
    | nil => exact absurd rfl h0
    | cons c r => exact ⟨c, r, rfl⟩
  unfold tk tokAt
  simp only [List.drop_append, List.length_replicate, Nat.sub_self, List.drop_zero, List.drop_replicate, List.replicate_zero, List.nil_append, List.cons_append] at htw ⊢
  rw [if_pos (hd c (by simp)), htw, if_neg (fun h => hz ⟨h.1, by rw [h.2]; rfl⟩)]
theorem tk_word {w post : List UInt8} {q : Nat} {c : UInt8} {r : List UInt8} (hw : w = c :: r) (h0 : isLt c = true) (hd : isDg c = false) (hall : ∀ b ∈ w, isWd b = true) (hp : post.takeWhile isWd = []) : tk (w ++ post) q = ⟨if resv w then w else [105], w, q⟩ := by
  have htw : (w ++ post).takeWhile isWd = w := by rw [List.takeWhile_append_of_pos hall, hp, List.append_nil]
  subst hw
  unfold tk tokAt
  simp only [List.drop_append, List.length_replicate, Nat.sub_self, List.drop_zero, List.drop_replicate, List.replicate_zero, List.nil_append, List.cons_append] at htw ⊢
  rw [if_neg (by rw [hd]; decide), if_pos h0, htw]
  split <;> rfl
theorem tk_str {t post : List UInt8} {q : Nat} (hc : t.any isCt = false) (hp : sf post) : tk (34 :: (esc t ++ [34]) ++ post) q = ⟨[115], 34 :: (esc t ++ [34]), q⟩ := by
  have hq := qlen_esc t hp
  have e : 34 :: (esc t ++ [34]) ++ post = 34 :: (esc t ++ 34 :: post) := by simp
  have et : (34 :: (esc t ++ 34 :: post)).take ((esc t).length + 1 + 1) = 34 :: (esc t ++ [34]) := by
    rw [List.take_succ_cons]
    congr 1
    rw [show esc t ++ 34 :: post = (esc t ++ [34]) ++ post by simp, List.take_left' (by simp)]
  rw [e]
  unfold tk tokAt
  simp only [List.drop_append, List.length_replicate, Nat.sub_self, List.drop_zero, List.drop_replicate, List.replicate_zero, List.nil_append]
  rw [if_neg (by decide), if_neg (by decide), if_pos trivial, hq]
  dsimp only
  rw [et, if_neg]
  rw [List.any_cons, List.any_append, esc_ct t hc]
  decide
theorem tk_op {o u : List UInt8} {q : Nat} {c : UInt8} {r : List UInt8} (hu : u = c :: r) (hd : isDg c = false) (hl : isLt c = false) (h34 : c ≠ 34) (hf : fops u = some o) : tk u q = ⟨o, o, q⟩ := by
  subst hu
  unfold tk tokAt
  simp only [List.drop_append, List.length_replicate, Nat.sub_self, List.drop_zero, List.drop_replicate, List.replicate_zero, List.nil_append]
  rw [if_neg (by rw [hd]; decide), if_neg (by rw [hl]; decide), if_neg h34, hf]
end Go.Proofs.YtnoadopmeoohmaaGreatDoor
/-
  The law Returns, plain: what is written is read again.
-/
namespace Go.Proofs.YtnoadopmeoohmaaGreatDoor
open Go
set_option linter.unusedVariables false
set_option linter.unusedSimpArgs false
abbrev notK : List UInt8 := [110, 111, 116]
structure Nx (lv : Nat) (t : Tok) : Prop where
  op : ∀ l, lv ≤ l → opAt l t.kind = none
  par : t.kind ≠ [40]
theorem Nx.mono {lv lv' : Nat} {t : Tok} (h : Nx lv t) (hl : lv ≤ lv') : Nx lv' t := ⟨fun l h1 => h.op l (by omega), h.par⟩
def PrsTo (s : List UInt8) (lv : Nat) (t : Tok) (x : Nd) (t1 : Tok) (f : Nat) : Prop := ∀ k, f ≤ k → prs s k lv t = .ok x t1
theorem PrsTo.mono {s : List UInt8} {lv : Nat} {t : Tok} {x : Nd} {t1 : Tok} {f f' : Nat} (h : PrsTo s lv t x t1 f) (hf : f ≤ f') : PrsTo s lv t x t1 f' := fun k hk => h k (by omega)
theorem down1 {s : List UInt8} {l : Nat} {t : Tok} {x : Nd} {t1 : Tok} {f : Nat} (h : PrsTo s (l + 1) t x t1 f) (h1 : 1 ≤ l) (h7 : l ≤ 7) (hf : 1 ≤ f) (hno : opAt l t1.kind = none) (hn : l = 3 → t.kind ≠ notK) (hm : l = 7 → t.kind ≠ [45]) : PrsTo s l t x t1 (f + 1) := by
  intro k hk
  obtain ⟨k, rfl⟩ : ∃ j, k = j + 1 := ⟨k - 1, by omega⟩
  have hp := h k (by omega)
  have hl : ∀ j, k = j → lop s j l x t1 = .ok x t1 := fun j hj => by
    obtain ⟨i, rfl⟩ : ∃ i, j = i + 1 := ⟨j - 1, by omega⟩
    rw [lop_succ, hno]
  obtain rfl | rfl | rfl | rfl | rfl | rfl | rfl : l = 1 ∨ l = 2 ∨ l = 3 ∨ l = 4 ∨ l = 5 ∨ l = 6 ∨ l = 7 := by omega
  · rw [prs_or, hp]; exact hl k rfl
  · rw [prs_and, hp]; exact hl k rfl
  · rw [prs_not, if_neg (hn rfl)]; exact hp
  · rw [prs_rel, hp]; dsimp only; rw [hno]
  · rw [prs_sum, hp]; exact hl k rfl
  · rw [prs_product, hp]; exact hl k rfl
  · rw [prs_fac, if_neg (hm rfl)]; exact hp
/-- what is read at a level from 4 on does not begin with not -/
theorem not_bad {s : List UInt8} {t : Tok} (ht : t.kind = notK) (k : Nat) : (∀ x t1, prs s k 8 t ≠ .ok x t1) ∧ (∀ x t1, prs s k 7 t ≠ .ok x t1) ∧ (∀ x t1, prs s k 6 t ≠ .ok x t1) ∧ (∀ x t1, prs s k 5 t ≠ .ok x t1) ∧ (∀ x t1, prs s k 4 t ≠ .ok x t1) := by
  have h8 : ∀ k x t1, prs s k 8 t ≠ .ok x t1 := fun k x t1 => by
    cases k with
    | zero => rw [prs_zero]; exact fun h => by cases h
    | succ k => rw [prs_prim, ht]; simp
  have h7 : ∀ k x t1, prs s k 7 t ≠ .ok x t1 := fun k x t1 => by
    cases k with
    | zero => rw [prs_zero]; exact fun h => by cases h
    | succ k => rw [prs_fac, ht, if_neg (by decide)]; exact h8 k x t1
  have h6 : ∀ k x t1, prs s k 6 t ≠ .ok x t1 := fun k x t1 => by
    cases k with
    | zero => rw [prs_zero]; exact fun h => by cases h
    | succ k =>
      rw [prs_product]
      cases hp : prs s k 7 t with
      | ok y t2 => exact absurd hp (h7 k y t2)
      | no => exact fun h => by cases h
      | err e p => exact fun h => by cases h
  have h5 : ∀ k x t1, prs s k 5 t ≠ .ok x t1 := fun k x t1 => by
    cases k with
    | zero => rw [prs_zero]; exact fun h => by cases h
    | succ k =>
      rw [prs_sum]
      cases hp : prs s k 6 t with
      | ok y t2 => exact absurd hp (h6 k y t2)
      | no => exact fun h => by cases h
      | err e p => exact fun h => by cases h
  have h4 : ∀ k x t1, prs s k 4 t ≠ .ok x t1 := fun k x t1 => by
    cases k with
    | zero => rw [prs_zero]; exact fun h => by cases h
    | succ k =>
      rw [prs_rel]
      cases hp : prs s k 5 t with
      | ok y t2 => exact absurd hp (h5 k y t2)
      | no => exact fun h => by cases h
      | err e p => exact fun h => by cases h
  exact ⟨h8 k, h7 k, h6 k, h5 k, h4 k⟩
theorem PrsTo.not {s : List UInt8} {m : Nat} {t : Tok} {x : Nd} {t1 : Tok} {f : Nat} (h : PrsTo s m t x t1 f) (h4 : 4 ≤ m) (h8 : m ≤ 8) : t.kind ≠ notK := fun ht => by
  have hp := h f (Nat.le_refl _)
  obtain ⟨a8, a7, a6, a5, a4⟩ := not_bad (s := s) ht f
  obtain rfl | rfl | rfl | rfl | rfl : m = 4 ∨ m = 5 ∨ m = 6 ∨ m = 7 ∨ m = 8 := by omega
  · exact a4 _ _ hp
  · exact a5 _ _ hp
  · exact a6 _ _ hp
  · exact a7 _ _ hp
  · exact a8 _ _ hp
theorem down {s : List UInt8} {t : Tok} {x : Nd} {t1 : Tok} {f : Nat} : ∀ (d : Nat) {lv : Nat}, PrsTo s (lv + d) t x t1 f → 1 ≤ lv → lv + d ≤ 8 → 1 ≤ f → Nx lv t1 → (lv ≤ 7 → 7 < lv + d → t.kind ≠ [45]) → PrsTo s lv t x t1 (f + d)
  | 0, lv, h, _, _, _, _, _ => h
  | d + 1, lv, h, h1, h8, hf, hn, hm => by
    have ih := down d (lv := lv + 1) (by rw [show lv + 1 + d = lv + (d + 1) by omega]; exact h) (by omega) (by omega) hf (hn.mono (by omega)) (fun h9 h10 => hm (by omega) (by omega))
    exact (down1 ih h1 (by omega) (by omega) (hn.op lv (Nat.le_refl _)) (fun h3 => ih.not (by omega) (by omega)) (fun h7 => hm (by omega) (by omega))).mono (by omega)
theorem opAt_dot (l : Nat) : opAt l [46] = none := by unfold opAt; split <;> rfl
theorem opAt_cl (l : Nat) : opAt l [41] = none := by unfold opAt; split <;> rfl
theorem opAt_co (l : Nat) : opAt l [44] = none := by unfold opAt; split <;> rfl
theorem tk_cl (u : List UInt8) (q : Nat) : tk (41 :: u) q = ⟨[41], [41], q⟩ := tk_op rfl rfl rfl (by decide) rfl
theorem tk_co (u : List UInt8) (q : Nat) : tk (44 :: u) q = ⟨[44], [44], q⟩ := tk_op rfl rfl rfl (by decide) rfl
theorem tk_pa (u : List UInt8) (q : Nat) : tk (40 :: u) q = ⟨[40], [40], q⟩ := tk_op rfl rfl rfl (by decide) rfl
theorem tk_mi (u : List UInt8) (q : Nat) : tk (45 :: u) q = ⟨[45], [45], q⟩ := tk_op rfl rfl rfl (by decide) rfl
theorem scn_end {s : List UInt8} {q : Nat} (h : s.drop q = []) : scn s q = ⟨[46], [], q⟩ := (scn_at h rfl).trans (tk_nil q)
theorem scn_cl {s u : List UInt8} {q : Nat} (h : s.drop q = 41 :: u) : scn s q = ⟨[41], [41], q⟩ := (scn_at h rfl).trans (tk_cl u q)
theorem scn_co {s u : List UInt8} {q : Nat} (h : s.drop q = 44 :: u) : scn s q = ⟨[44], [44], q⟩ := (scn_at h rfl).trans (tk_co u q)
theorem scn_pa {s u : List UInt8} {q : Nat} (h : s.drop q = 40 :: u) : scn s q = ⟨[40], [40], q⟩ := (scn_at h rfl).trans (tk_pa u q)
theorem scn_mi {s u : List UInt8} {q : Nat} (h : s.drop q = 45 :: u) : scn s q = ⟨[45], [45], q⟩ := (scn_at h rfl).trans (tk_mi u q)
theorem nx_end (lv q : Nat) : Nx lv ⟨[46], [], q⟩ := ⟨fun l _ => opAt_dot l, (by decide : ([46] : List UInt8) ≠ [40])⟩
theorem nx_cl (lv q : Nat) : Nx lv ⟨[41], [41], q⟩ := ⟨fun l _ => opAt_cl l, (by decide : ([41] : List UInt8) ≠ [40])⟩
theorem nx_co (lv q : Nat) : Nx lv ⟨[44], [44], q⟩ := ⟨fun l _ => opAt_co l, (by decide : ([44] : List UInt8) ≠ [40])⟩
/-- the level of an operation -/
def lvN (op : Int) : Nat := (stl op).2.1.toNat
structure OpF (op : Int) : Prop where
  tok : ∀ u q, tk ((stl op).1 ++ 32 :: u) q = ⟨(stl op).1, (stl op).1, q⟩
  at_ : opAt (lvN op) (stl op).1 = some op
  ne : ∀ l, l ≠ lvN op → opAt l (stl op).1 = none
  par : (stl op).1 ≠ [40]
  sp : (stl op).1 ≠ [] ∧ ((stl op).1 ++ [32]).takeWhile isSp = []
theorem opF_word {op : Int} {w : List UInt8} {c : UInt8} {r : List UInt8} {l : Nat} (hw : (stl op).1 = w) (he : w = c :: r) (h0 : isLt c = true) (hd : isDg c = false) (hall : ∀ b ∈ w, isWd b = true) (hr : resv w = true) (hl : lvN op = l) (ha : opAt l w = some op) (hne : ∀ m, m ≠ l → opAt m w = none) (hp : w ≠ [40]) : OpF op := by
  refine ⟨fun u q => ?_, by rw [hl, hw]; exact ha, by rw [hl, hw]; exact hne, by rw [hw]; exact hp, ?_⟩
  · rw [hw, tk_word he h0 hd hall rfl, if_pos hr]
  · rw [hw, he]
    refine ⟨by simp, ?_⟩
    rw [List.cons_append, List.takeWhile_cons]
    have : isSp c = false := by
      unfold isSp
      have h1 : c ≠ 32 := fun h => by rw [h] at h0; cases h0
      have h2 : c ≠ 9 := fun h => by rw [h] at h0; cases h0
      simp [h1, h2]
    rw [this]; rfl
theorem opF_sym {op : Int} {w : List UInt8} {l : Nat} (hw : (stl op).1 = w) (ht : ∀ u q, tk (w ++ 32 :: u) q = ⟨w, w, q⟩) (hl : lvN op = l) (ha : opAt l w = some op) (hne : ∀ m, m ≠ l → opAt m w = none) (hp : w ≠ [40]) (hs : w ≠ [] ∧ (w ++ [32]).takeWhile isSp = []) : OpF op :=
  ⟨by rw [hw]; exact ht, by rw [hl, hw]; exact ha, by rw [hl, hw]; exact hne, by rw [hw]; exact hp, by rw [hw]; exact hs⟩
end Go.Proofs.YtnoadopmeoohmaaGreatDoor
/-
  The law Returns, plain: operators, and what has no parts.
-/
namespace Go.Proofs.YtnoadopmeoohmaaGreatDoor
open Go
set_option linter.unusedVariables false
set_option linter.unusedSimpArgs false
theorem opF_all {op : Int} (h : op = 6 ∨ op = 7 ∨ (9 ≤ op ∧ op ≤ 20)) : OpF op := by
  obtain rfl | rfl | rfl | rfl | rfl | rfl | rfl | rfl | rfl | rfl | rfl | rfl | rfl | rfl : op = 6 ∨ op = 7 ∨ op = 9 ∨ op = 10 ∨ op = 11 ∨ op = 12 ∨ op = 13 ∨ op = 14 ∨ op = 15 ∨ op = 16 ∨ op = 17 ∨ op = 18 ∨ op = 19 ∨ op = 20 := by omega
  · exact opF_word (w := [111, 114]) (l := 1) rfl rfl rfl rfl (by decide) (by decide) rfl rfl (fun m hm => by unfold opAt; split <;> first | rfl | exact absurd rfl hm) (by decide)
  · exact opF_word (w := [97, 110, 100]) (l := 2) rfl rfl rfl rfl (by decide) (by decide) rfl rfl (fun m hm => by unfold opAt; split <;> first | rfl | exact absurd rfl hm) (by decide)
  · exact opF_sym (w := [61]) (l := 4) rfl (fun u q => tk_op (c := 61) rfl rfl rfl (by decide) rfl) rfl rfl (fun m hm => by unfold opAt; split <;> first | rfl | exact absurd rfl hm) (by decide) ⟨by decide, rfl⟩
  · exact opF_sym (w := [60, 62]) (l := 4) rfl (fun u q => tk_op (c := 60) rfl rfl rfl (by decide) rfl) rfl rfl (fun m hm => by unfold opAt; split <;> first | rfl | exact absurd rfl hm) (by decide) ⟨by decide, rfl⟩
  · exact opF_sym (w := [60]) (l := 4) rfl (fun u q => tk_op (c := 60) rfl rfl rfl (by decide) rfl) rfl rfl (fun m hm => by unfold opAt; split <;> first | rfl | exact absurd rfl hm) (by decide) ⟨by decide, rfl⟩
  · exact opF_sym (w := [60, 61]) (l := 4) rfl (fun u q => tk_op (c := 60) rfl rfl rfl (by decide) rfl) rfl rfl (fun m hm => by unfold opAt; split <;> first | rfl | exact absurd rfl hm) (by decide) ⟨by decide, rfl⟩
  · exact opF_sym (w := [62]) (l := 4) rfl (fun u q => tk_op (c := 62) rfl rfl rfl (by decide) rfl) rfl rfl (fun m hm => by unfold opAt; split <;> first | rfl | exact absurd rfl hm) (by decide) ⟨by decide, rfl⟩
  · exact opF_sym (w := [62, 61]) (l := 4) rfl (fun u q => tk_op (c := 62) rfl rfl rfl (by decide) rfl) rfl rfl (fun m hm => by unfold opAt; split <;> first | rfl | exact absurd rfl hm) (by decide) ⟨by decide, rfl⟩
  · exact opF_sym (w := [43]) (l := 5) rfl (fun u q => tk_op (c := 43) rfl rfl rfl (by decide) rfl) rfl rfl (fun m hm => by unfold opAt; split <;> first | rfl | exact absurd rfl hm) (by decide) ⟨by decide, rfl⟩
  · exact opF_sym (w := [45]) (l := 5) rfl (fun u q => tk_op (c := 45) rfl rfl rfl (by decide) rfl) rfl rfl (fun m hm => by unfold opAt; split <;> first | rfl | exact absurd rfl hm) (by decide) ⟨by decide, rfl⟩
  · exact opF_sym (w := [38]) (l := 5) rfl (fun u q => tk_op (c := 38) rfl rfl rfl (by decide) rfl) rfl rfl (fun m hm => by unfold opAt; split <;> first | rfl | exact absurd rfl hm) (by decide) ⟨by decide, rfl⟩
  · exact opF_sym (w := [42]) (l := 6) rfl (fun u q => tk_op (c := 42) rfl rfl rfl (by decide) rfl) rfl rfl (fun m hm => by unfold opAt; split <;> first | rfl | exact absurd rfl hm) (by decide) ⟨by decide, rfl⟩
  · exact opF_sym (w := [47]) (l := 6) rfl (fun u q => tk_op (c := 47) rfl rfl rfl (by decide) rfl) rfl rfl (fun m hm => by unfold opAt; split <;> first | rfl | exact absurd rfl hm) (by decide) ⟨by decide, rfl⟩
  · exact opF_sym (w := [37]) (l := 6) rfl (fun u q => tk_op (c := 37) rfl rfl rfl (by decide) rfl) rfl rfl (fun m hm => by unfold opAt; split <;> first | rfl | exact absurd rfl hm) (by decide) ⟨by decide, rfl⟩
theorem stl_pos (op : Int) : 1 ≤ (stl op).2.1 ∧ (stl op).2.1 ≤ 8 := by
  unfold stl
  repeat' split
  all_goals exact ⟨by dsimp only; omega, by dsimp only; omega⟩
theorem lvN_eq (op : Int) : (lvN op : Int) = (stl op).2.1 ∧ 1 ≤ lvN op ∧ lvN op ≤ 8 := by
  have := stl_pos op
  unfold lvN
  omega
/-- what is written without parentheses -/
def body (x : Nd) : List UInt8 := bod x.op x.num x.text (x.args.map wr)
theorem wr_low {x : Nd} {lv : Int} (h : lv ≤ lvN x.op) : wr x lv = body x := by
  have := (lvN_eq x.op).1
  rw [wr_eq, decide_eq_false (by omega)]
  rfl
theorem wr_high {x : Nd} {lv : Int} (h : (lvN x.op : Int) < lv) : wr x lv = 40 :: (body x ++ [41]) := by
  have := (lvN_eq x.op).1
  rw [wr_eq, decide_eq_true (by omega)]
  rfl
theorem scn_skip {s u : List UInt8} {q : Nat} (h : s.drop q = 32 :: u) : scn s q = scn s (q + 1) := by
  have h2 : s.drop (q + 1) = u := by rw [← List.drop_drop, h]; rfl
  unfold scn
  rw [h, h2, List.takeWhile_cons, show isSp 32 = true from rfl]
  rw [if_pos rfl, List.length_cons]
  congr 1
  omega
def RdAt (x : Nd) : Prop := ∀ (s : List UInt8) (lv q : Nat) (post : List UInt8), 1 ≤ lv → lv ≤ 8 → s.drop q = wr x lv ++ post → sf post → Nx lv (scn s (q + (wr x lv).length)) → PrsTo s lv (scn s q) x (scn s (q + (wr x lv).length)) (22 * x.mass)
def UnAt (x : Nd) : Prop := ∀ (s : List UInt8) (lv q : Nat) (post : List UInt8), 1 ≤ lv → lv ≤ lvN x.op → s.drop q = body x ++ post → sf post → Nx lv (scn s (q + (body x).length)) → PrsTo s lv (scn s q) x (scn s (q + (body x).length)) (22 * x.mass - 9)
theorem RdAt.of {x : Nd} (h : UnAt x) : RdAt x := by
  intro s lv q post h1 h8 hd hp hn
  have hm := x.mass_eq
  by_cases hl : lv ≤ lvN x.op
  · rw [wr_low (by omega)] at hd hn ⊢
    exact (h s lv q post h1 hl hd hp hn).mono (by omega)
  · rw [wr_high (by omega)] at hd hn ⊢
    have e1 : s.drop q = 40 :: (body x ++ 41 :: post) := by rw [hd]; simp
    have e2 : s.drop (q + 1) = body x ++ 41 :: post := by rw [← List.drop_drop, e1]; rfl
    have e3 : s.drop (q + 1 + (body x).length) = 41 :: post := drop_add e2
    have t0 : scn s q = ⟨[40], [40], q⟩ := scn_pa e1
    have t1 := scn_cl e3
    have hu := h s 1 (q + 1) (41 :: post) (Nat.le_refl _) (lvN_eq x.op).2.1 e2 (.inr (.inl rfl)) (by rw [t1]; exact nx_cl 1 _)
    have hlen : q + (40 :: (body x ++ [41])).length = q + 1 + (body x).length + 1 := by simp; omega
    rw [hlen] at hn ⊢
    have p8 : PrsTo s 8 (scn s q) x (scn s (q + 1 + (body x).length + 1)) (22 * x.mass - 8) := by
      intro k hk
      obtain ⟨k, rfl⟩ : ∃ j, k = j + 1 := ⟨k - 1, by omega⟩
      have hk' := hu k (by omega)
      rw [prs_prim, t0]
      dsimp only
      rw [if_neg (by decide), if_neg (by decide), if_neg (by decide), if_neg (by decide), if_neg (by decide), if_pos rfl]
      rw [show nxt s ⟨[40], [40], q⟩ = scn s (q + 1) from rfl, hk']
      dsimp only
      rw [t1]
      dsimp only
      rw [if_pos rfl]
      rfl
    obtain ⟨d, hd8⟩ : ∃ d, lv + d = 8 := ⟨8 - lv, by omega⟩
    rw [← hd8] at p8
    exact (down d p8 h1 (by omega) (by omega) hn (fun _ _ => by rw [t0]; exact (by decide : ([40] : List UInt8) ≠ [45]))).mono (by omega)
/-- from the primary on down -/
theorem un_of8 {x : Nd} {s : List UInt8} {lv q : Nat} {t1 : Tok} (h : PrsTo s 8 (scn s q) x t1 (22 * x.mass - 16)) (h1 : 1 ≤ lv) (h8 : lv ≤ 8) (hn : Nx lv t1) (ht : (scn s q).kind ≠ [45]) : PrsTo s lv (scn s q) x t1 (22 * x.mass - 9) := by
  have hm := x.mass_eq
  obtain ⟨d, hd8⟩ : ∃ d, lv + d = 8 := ⟨8 - lv, by omega⟩
  rw [← hd8] at h
  exact (down d h h1 (by omega) (by omega) hn (fun _ _ => ht)).mono (by omega)
/-! ### numbers -/
theorem dg_of {n : Nat} (h : n < 10) : isDg (UInt8.ofNat (48 + n)) = true ∧ (UInt8.ofNat (48 + n)).toNat = 48 + n := by
  have e : (UInt8.ofNat (48 + n)).toNat = 48 + n := by rw [UInt8.toNat_ofNat']; exact Nat.mod_eq_of_lt (by omega)
  refine ⟨?_, e⟩
  unfold isDg
  rw [e]
  simp only [Bool.and_eq_true, Nat.ble_eq]
  omega
theorem decD_spec (n : Nat) : Lib.decDigits n ≠ [] ∧ (∀ b ∈ Lib.decDigits n, isDg b = true) ∧ (1 ≤ n → (Lib.decDigits n).head? ≠ some 48) ∧ dval (Lib.decDigits n) 0 = n ∧ (n < 10 → (Lib.decDigits n).length = 1) := by
  induction n using Nat.strongRecOn with
  | _ n ih =>
    by_cases h : n < 10
    · rw [Lib.decDigits, dif_pos h]
      obtain ⟨d1, d2⟩ := dg_of h
      refine ⟨by simp, fun b hb => by rw [List.mem_singleton] at hb; rw [hb]; exact d1, fun h1 h2 => ?_, ?_, fun _ => rfl⟩
      · rw [List.head?_cons, Option.some.injEq] at h2
        rw [h2] at d2
        have : (48 : UInt8).toNat = 48 := rfl
        omega
      · simp only [dval, d2]; omega
    · obtain ⟨i1, i2, i3, i4, i5⟩ := ih (n / 10) (by omega)
      obtain ⟨d1, d2⟩ := dg_of (n := n % 10) (by omega)
      rw [Lib.decDigits, dif_neg h]
      refine ⟨by simp, fun b hb => ?_, fun _ h2 => ?_, ?_, fun h9 => absurd h9 h⟩
      · rcases List.mem_append.1 hb with hb | hb
        · exact i2 b hb
        · rw [List.mem_singleton] at hb; rw [hb]; exact d1
      · have : (Lib.decDigits (n / 10) ++ [UInt8.ofNat (48 + n % 10)]).head? = (Lib.decDigits (n / 10)).head? := by
          cases hd : Lib.decDigits (n / 10) with
          | nil => exact absurd hd i1
          | cons c r => rfl
        rw [this] at h2
        exact i3 (by omega) h2
      · rw [dval_append, i4]
        simp only [dval, d2]
        omega
theorem decD_zero (n : Nat) : ¬ (1 < (Lib.decDigits n).length ∧ (Lib.decDigits n).head? = some 48) := by
  obtain ⟨_, _, i3, _, i5⟩ := decD_spec n
  rintro ⟨h1, h2⟩
  by_cases h : n < 10
  · rw [i5 h] at h1; omega
  · exact i3 (by omega) h2
theorem un_num {num : Int} (h0 : 0 ≤ num) (h1 : num ≤ 1099511627776) : UnAt (.mk 1 num [] []) := by
  intro s lv q post hl1 hl8 hd hp hn
  have hb : body (.mk 1 num [] []) = Lib.decDigits num.toNat := by
    show Lib.itoa num = _
    unfold Lib.itoa
    rw [if_neg (by omega)]
  rw [hb] at hd hn ⊢
  obtain ⟨i1, i2, i3, i4, i5⟩ := decD_spec num.toNat
  have hz := decD_zero num.toNat
  have hsp : (Lib.decDigits num.toNat ++ post).takeWhile isSp = [] := by
    cases hdd : Lib.decDigits num.toNat with
    | nil => exact absurd hdd i1
    | cons c r =>
      have := isDg_bounds (i2 c (by rw [hdd]; simp))
      rw [List.cons_append, List.takeWhile_cons]
      have : isSp c = false := by
        unfold isSp
        rw [Bool.or_eq_false_iff]
        exact ⟨by rw [beq_eq_false_iff_ne]; intro h9; rw [h9] at this; exact absurd this.1 (by decide), by rw [beq_eq_false_iff_ne]; intro h9; rw [h9] at this; exact absurd this.1 (by decide)⟩
      rw [this]; rfl
  have t0 : scn s q = ⟨[110], Lib.decDigits num.toNat, q⟩ := (scn_at hd hsp).trans (tk_num i1 i2 hz hp)
  have hg : digR (Lib.decDigits num.toNat) = (num, 0) := by
    rw [digR_good i1 hz i2, i4, if_neg (by omega)]
    congr 1
    omega
  refine un_of8 (fun k hk => ?_) hl1 hl8 hn (by rw [t0]; exact (by decide : ([110] : List UInt8) ≠ [45]))
  obtain ⟨k, rfl⟩ : ∃ j, k = j + 1 := ⟨k - 1, by simp [Nd.mass, massN] at hk; omega⟩
  rw [prs_prim, t0]
  dsimp only
  rw [if_pos rfl, hg, if_pos rfl]
  rfl
/-! ### words -/
theorem sf_wd {post : List UInt8} (h : sf post) : post.takeWhile isWd = [] := by
  cases post with
  | nil => rfl
  | cons c r => rw [List.takeWhile_cons]; rcases h with rfl | rfl | rfl <;> rfl
theorem lt_sp {c : UInt8} (h : isLt c = true) : isSp c = false ∧ isDg c = false := by
  unfold isLt at h
  simp only [Bool.or_eq_true, Bool.and_eq_true, Nat.ble_eq] at h
  constructor
  · unfold isSp
    rw [Bool.or_eq_false_iff]
    exact ⟨by rw [beq_eq_false_iff_ne]; intro h9; rw [h9] at h; exact absurd h (by decide), by rw [beq_eq_false_iff_ne]; intro h9; rw [h9] at h; exact absurd h (by decide)⟩
  · unfold isDg
    rw [Bool.and_eq_false_iff]
    have h2 : ¬ c.toNat ≤ 57 := by omega
    exact .inr (Bool.eq_false_iff.2 fun h3 => h2 (Nat.le_of_ble_eq_true h3))
theorem scn_word {s w post : List UInt8} {q : Nat} (hd : s.drop q = w ++ post) (h0 : ∃ c r, w = c :: r ∧ isLt c = true) (hall : ∀ b ∈ w, isWd b = true) (hp : post.takeWhile isWd = []) : scn s q = ⟨if resv w then w else [105], w, q⟩ := by
  obtain ⟨c, r, hw, hc⟩ := h0
  obtain ⟨a1, a2⟩ := lt_sp hc
  refine (scn_at hd ?_).trans (tk_word hw hc a2 hall hp)
  rw [hw, List.cons_append, List.takeWhile_cons, a1]
  rfl
theorem un_bool {num : Int} (h : num = 0 ∨ num = 1) : UnAt (.mk 3 num [] []) := by
  intro s lv q post hl1 hl8 hd hp hn
  have hb : body (.mk 3 num [] []) = fbool (decide (num = 1)) := rfl
  rw [hb] at hd hn ⊢
  rcases h with rfl | rfl
  · have t0 : scn s q = ⟨[102, 97, 108, 115, 101], [102, 97, 108, 115, 101], q⟩ := scn_word (w := [102, 97, 108, 115, 101]) hd ⟨_, _, rfl, rfl⟩ (by decide) (sf_wd hp)
    refine un_of8 (fun k hk => ?_) hl1 hl8 hn (by rw [t0]; exact (by decide : ([102, 97, 108, 115, 101] : List UInt8) ≠ [45]))
    obtain ⟨k, rfl⟩ : ∃ j, k = j + 1 := ⟨k - 1, by simp [Nd.mass, massN] at hk; omega⟩
    rw [prs_prim, t0]
    rfl
  · have t0 : scn s q = ⟨[116, 114, 117, 101], [116, 114, 117, 101], q⟩ := scn_word (w := [116, 114, 117, 101]) hd ⟨_, _, rfl, rfl⟩ (by decide) (sf_wd hp)
    refine un_of8 (fun k hk => ?_) hl1 hl8 hn (by rw [t0]; exact (by decide : ([116, 114, 117, 101] : List UInt8) ≠ [45]))
    obtain ⟨k, rfl⟩ : ∃ j, k = j + 1 := ⟨k - 1, by simp [Nd.mass, massN] at hk; omega⟩
    rw [prs_prim, t0]
    rfl
theorem un_str {t : List UInt8} (hc : ¬ ctl t) : UnAt (.mk 2 0 t []) := by
  intro s lv q post hl1 hl8 hd hp hn
  have hb : body (.mk 2 0 t []) = 34 :: (esc t ++ [34]) := by
    show 34 :: (Lib.replaceAll t [34] [34, 34] ++ [34]) = _
    rw [ra_esc]
  rw [hb] at hd hn ⊢
  have hct : t.any isCt = false := by
    cases h : t.any isCt with
    | false => rfl
    | true => exact absurd ((ctl_any t).2 h) hc
  have t0 : scn s q = ⟨[115], 34 :: (esc t ++ [34]), q⟩ := (scn_at hd rfl).trans (tk_str hct hp)
  refine un_of8 (fun k hk => ?_) hl1 hl8 hn (by rw [t0]; exact (by decide : ([115] : List UInt8) ≠ [45]))
  obtain ⟨k, rfl⟩ : ∃ j, k = j + 1 := ⟨k - 1, by simp [Nd.mass, massN] at hk; omega⟩
  rw [prs_prim, t0]
  dsimp only
  rw [if_neg (by decide), if_pos rfl]
  have e : ((34 :: (esc t ++ [34])).take ((34 :: (esc t ++ [34])).length - 1)).drop 1 = esc t := by
    have : (34 :: (esc t ++ [34])).length - 1 = (34 :: esc t).length := by simp
    rw [this, show 34 :: (esc t ++ [34]) = (34 :: esc t) ++ [34] from rfl, List.take_left]
    rfl
  rw [e, ra_back]
  rfl
theorem idt_wd {w : List UInt8} (h : idt w) : (∃ c r, w = c :: r ∧ isLt c = true) ∧ ∀ b ∈ w, isWd b = true := by
  obtain ⟨h0, hall⟩ := h
  constructor
  · cases w with
    | nil => exact absurd rfl h0
    | cons c r =>
      refine ⟨c, r, rfl, ?_⟩
      rw [isLt_eq, decide_eq_true_eq]
      exact (hall 0 (by simp)).elim id fun h9 => absurd h9.1 (by decide)
  · intro b hb
    obtain ⟨i, hi, rfl⟩ := List.getElem_of_mem hb
    have := hall i hi
    have e : bat w i = ((w[i].toNat : Nat) : Int) := by simp [bat, hi]
    rw [isWd_eq, decide_eq_true_eq]
    unfold idc at this
    rw [e] at this
    exact this.elim .inl fun h9 => .inr h9.2
theorem un_name {w : List UInt8} (hw : idt w) (hr : resv w = false) (hl : w.length ≤ 40) : UnAt (.mk 4 0 w []) := by
  intro s lv q post hl1 hl8 hd hp hn
  have hb : body (.mk 4 0 w []) = w := rfl
  rw [hb] at hd hn ⊢
  obtain ⟨a1, a2⟩ := idt_wd hw
  have t0 : scn s q = ⟨[105], w, q⟩ := by
    have := scn_word hd a1 a2 (sf_wd hp)
    rw [hr] at this
    exact this
  refine un_of8 (fun k hk => ?_) hl1 hl8 hn (by rw [t0]; exact (by decide : ([105] : List UInt8) ≠ [45]))
  obtain ⟨k, rfl⟩ : ∃ j, k = j + 1 := ⟨k - 1, by have := (Nd.mk 4 0 w []).mass_eq; omega⟩
  rw [prs_prim, t0]
  dsimp only
  rw [if_neg (by decide), if_neg (by decide), if_neg (by decide), if_neg (by decide), if_pos rfl, if_neg (by omega)]
  rw [show nxt s ⟨[105], w, q⟩ = scn s (q + w.length) from rfl, if_neg hn.par]
end Go.Proofs.YtnoadopmeoohmaaGreatDoor
