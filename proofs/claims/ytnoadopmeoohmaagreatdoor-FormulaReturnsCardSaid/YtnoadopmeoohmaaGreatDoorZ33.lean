import Derived.Test.YtnoadopmeoohmaaGreatDoorZ32
/-
  The law Returns, plain: operators, calls; all expressions.
-/
namespace Go.Proofs.YtnoadopmeoohmaaGreatDoor
open Go
set_option linter.unusedVariables false
set_option linter.unusedSimpArgs false
theorem drop_more {s u v : List UInt8} {q : Nat} (h : s.drop q = u ++ v) (n : Nat) (hn : n = u.length) : s.drop (q + n) = v := by rw [hn]; exact drop_add h
theorem downTo {s : List UInt8} {t : Tok} {x : Nd} {t1 : Tok} {f m lv : Nat} (h : PrsTo s m t x t1 f) (h1 : 1 ≤ lv) (hl : lv ≤ m) (h8 : m ≤ 7) (hf : 1 ≤ f) (hn : Nx lv t1) : PrsTo s lv t x t1 (f + 7) := by
  obtain ⟨d, rfl⟩ : ∃ d, m = lv + d := ⟨m - lv, by omega⟩
  exact (down d h h1 (by omega) hf hn (fun _ h => absurd h (by omega))).mono (by omega)
theorem un_not {a : Nd} (ha : RdAt a) : UnAt (.mk 8 0 [] [a]) := by
  intro s lv q post hl1 hl8 hd hp hn
  have hm : (Nd.mk 8 0 [] [a]).mass = 1 + a.mass := by simp [Nd.mass, massN]
  have hb : body (.mk 8 0 [] [a]) = [110, 111, 116, 32] ++ wr a ((3 : Nat) : Int) := rfl
  have hl3 : lv ≤ 3 := hl8
  rw [hb] at hd hn ⊢
  have e1 : s.drop q = notK ++ (32 :: (wr a ((3 : Nat) : Int) ++ post)) := by rw [hd]; simp
  have e2 : s.drop (q + 3) = 32 :: (wr a ((3 : Nat) : Int) ++ post) := drop_more e1 3 rfl
  have e3 : s.drop (q + 4) = wr a ((3 : Nat) : Int) ++ post := by rw [show q + 4 = q + 3 + 1 from rfl, ← List.drop_drop, e2]; rfl
  have t0 : scn s q = ⟨notK, notK, q⟩ := scn_word (w := notK) e1 ⟨_, _, rfl, rfl⟩ (by decide) rfl
  have hlen : q + ([110, 111, 116, 32] ++ wr a ((3 : Nat) : Int)).length = q + 4 + (wr a ((3 : Nat) : Int)).length := by simp; omega
  rw [hlen] at hn ⊢
  have hA := ha s 3 (q + 4) post (by decide) (by decide) e3 hp (hn.mono hl3)
  have p3 : PrsTo s 3 (scn s q) (.mk 8 0 [] [a]) (scn s (q + 4 + (wr a ((3 : Nat) : Int)).length)) (22 * a.mass + 1) := by
    intro k hk
    obtain ⟨k, rfl⟩ : ∃ j, k = j + 1 := ⟨k - 1, by omega⟩
    rw [prs_not, t0]
    dsimp only
    rw [if_pos rfl, show nxt s ⟨notK, notK, q⟩ = scn s (q + 3) from rfl, scn_skip e2, hA k (by omega)]
  exact (downTo p3 hl1 (by omega) (by omega) (by omega) hn).mono (by omega)
theorem un_neg {a : Nd} (ha : RdAt a) : UnAt (.mk 21 0 [] [a]) := by
  intro s lv q post hl1 hl8 hd hp hn
  have hm : (Nd.mk 21 0 [] [a]).mass = 1 + a.mass := by simp [Nd.mass, massN]
  have hb : body (.mk 21 0 [] [a]) = 45 :: wr a ((7 : Nat) : Int) := rfl
  have hl7 : lv ≤ 7 := hl8
  rw [hb] at hd hn ⊢
  have e1 : s.drop (q + 1) = wr a ((7 : Nat) : Int) ++ post := by rw [← List.drop_drop, hd]; rfl
  have t0 : scn s q = ⟨[45], [45], q⟩ := scn_mi hd
  have hlen : q + (45 :: wr a ((7 : Nat) : Int)).length = q + 1 + (wr a ((7 : Nat) : Int)).length := by simp; omega
  rw [hlen] at hn ⊢
  have hA := ha s 7 (q + 1) post (by decide) (by decide) e1 hp (hn.mono hl7)
  have p7 : PrsTo s 7 (scn s q) (.mk 21 0 [] [a]) (scn s (q + 1 + (wr a ((7 : Nat) : Int)).length)) (22 * a.mass + 1) := by
    intro k hk
    obtain ⟨k, rfl⟩ : ∃ j, k = j + 1 := ⟨k - 1, by omega⟩
    rw [prs_fac, t0]
    dsimp only
    rw [if_pos rfl, show nxt s ⟨[45], [45], q⟩ = scn s (q + 1) from rfl, hA k (by omega)]
  exact (downTo p7 hl1 (by omega) (by omega) (by omega) hn).mono (by omega)
theorem body_bin {op : Int} (h : op = 6 ∨ op = 7 ∨ (9 ≤ op ∧ op ≤ 20)) (a b : Nd) : body (.mk op 0 [] [a, b]) = wr a (stl op).2.2.1 ++ (32 :: ((stl op).1 ++ (32 :: wr b (stl op).2.2.2))) := by
  show bod op 0 [] [wr a, wr b] = _
  unfold bod
  rw [if_neg (show ¬ op = 1 by omega), if_neg (show ¬ op = 3 by omega), if_neg (show ¬ op = 2 by omega), if_neg (show ¬ op = 4 by omega), if_neg (show ¬ op = 5 by omega), if_neg (show ¬ (op = 8 ∨ op = 21) by omega)]
  rfl
theorem scn_opw {op : Int} (F : OpF op) {s rest : List UInt8} {q : Nat} (h : s.drop q = 32 :: ((stl op).1 ++ 32 :: rest)) :
    scn s q = ⟨(stl op).1, (stl op).1, q + 1⟩ ∧ nxt s ⟨(stl op).1, (stl op).1, q + 1⟩ = scn s (q + 1 + (stl op).1.length + 1) ∧ s.drop (q + 1 + (stl op).1.length + 1) = rest := by
  have e1 : s.drop (q + 1) = (stl op).1 ++ 32 :: rest := by rw [← List.drop_drop, h]; rfl
  have e2 : s.drop (q + 1 + (stl op).1.length) = 32 :: rest := drop_add e1
  have hsp : ((stl op).1 ++ 32 :: rest).takeWhile isSp = [] := by
    obtain ⟨h1, h2⟩ := F.sp
    cases hw : (stl op).1 with
    | nil => exact absurd hw h1
    | cons c r =>
      rw [hw, List.cons_append, List.takeWhile_cons] at h2
      rw [List.cons_append, List.takeWhile_cons]
      cases hc : isSp c with
      | false => rfl
      | true => rw [hc] at h2; cases h2
  refine ⟨?_, ?_, by rw [← List.drop_drop, e2]; rfl⟩
  · rw [scn_skip h, scn_at e1 hsp, F.tok]
  · exact scn_skip e2
theorem un_rel {op : Int} (h9 : 9 ≤ op) (h14 : op ≤ 14) {a b : Nd} (ha : RdAt a) (hb : RdAt b) : UnAt (.mk op 0 [] [a, b]) := by
  intro s lv q post hl1 hl8 hd hp hn
  have F := opF_all (op := op) (by omega)
  have hst : (stl op).2 = (4, 5, 5) := by
    obtain rfl | rfl | rfl | rfl | rfl | rfl : op = 9 ∨ op = 10 ∨ op = 11 ∨ op = 12 ∨ op = 13 ∨ op = 14 := by omega
    all_goals rfl
  have hlv : lvN op = 4 := by unfold lvN; rw [hst]; rfl
  have hm : (Nd.mk op 0 [] [a, b]).mass = 1 + a.mass + b.mass := by simp [Nd.mass, massN]; omega
  have hbd := body_bin (op := op) (by omega) a b
  rw [hst] at hbd
  have hbd : body (.mk op 0 [] [a, b]) = wr a ((5 : Nat) : Int) ++ (32 :: ((stl op).1 ++ (32 :: wr b ((5 : Nat) : Int)))) := hbd
  have hl4 : lv ≤ 4 := by rw [← hlv]; exact hl8
  rw [hbd] at hd hn ⊢
  have e1 : s.drop q = wr a ((5 : Nat) : Int) ++ (32 :: ((stl op).1 ++ 32 :: (wr b ((5 : Nat) : Int) ++ post))) := by rw [hd]; simp
  have e2 := drop_add e1
  obtain ⟨o1, o2, o3⟩ := scn_opw F e2
  have hA := ha s 5 q _ (by decide) (by decide) e1 (.inl rfl) (by rw [o1]; exact ⟨fun l hl => F.ne l (by omega), F.par⟩)
  have hlen : q + (wr a ((5 : Nat) : Int) ++ (32 :: ((stl op).1 ++ (32 :: wr b ((5 : Nat) : Int))))).length = q + (wr a ((5 : Nat) : Int)).length + 1 + (stl op).1.length + 1 + (wr b ((5 : Nat) : Int)).length := by simp; omega
  rw [hlen] at hn ⊢
  have hB := hb s 5 _ post (by decide) (by decide) o3 hp (hn.mono (by omega))
  have p4 : PrsTo s 4 (scn s q) (.mk op 0 [] [a, b]) (scn s (q + (wr a ((5 : Nat) : Int)).length + 1 + (stl op).1.length + 1 + (wr b ((5 : Nat) : Int)).length)) (22 * a.mass + 22 * b.mass + 1) := by
    intro k hk
    obtain ⟨k, rfl⟩ : ∃ j, k = j + 1 := ⟨k - 1, by omega⟩
    have hat := F.at_
    rw [hlv] at hat
    rw [prs_rel, hA k (by omega)]
    dsimp only
    rw [o1]
    dsimp only
    rw [hat]
    dsimp only
    rw [o2, hB k (by omega)]
  exact (downTo p4 hl1 (by omega) (by omega) (by omega) hn).mono (by omega)
/-- the operators of a level, from the left -/
def Sp (x : Nd) (l : Nat) : Prop := ∀ (s : List UInt8) (q : Nat) (post : List UInt8), s.drop q = wr x (l : Int) ++ post → sf post → Nx (l + 1) (scn s (q + (wr x (l : Int)).length)) →
  ∃ y ty c S, c ≤ x.mass ∧ S + c ≤ 22 * x.mass ∧ (lvN x.op = l → S + c + 20 ≤ 22 * x.mass) ∧ 1 ≤ S ∧ PrsTo s (l + 1) (scn s q) y ty S ∧ ∀ k, S ≤ k → lop s (k + c) l y ty = lop s k l x (scn s (q + (wr x (l : Int)).length))
theorem sp_base {x : Nd} {l : Nat} (hx : RdAt x) (hne : lvN x.op ≠ l) (h8 : l + 1 ≤ 8) : Sp x l := by
  intro s q post hd hp hn
  have hm := x.mass_eq
  have e : wr x (l : Int) = wr x ((l + 1 : Nat) : Int) := by
    rcases Nat.lt_or_ge l (lvN x.op) with h | h
    · rw [wr_low (by omega), wr_low (by omega)]
    · rw [wr_high (by omega), wr_high (by omega)]
  rw [e] at hd hn ⊢
  exact ⟨x, _, 0, 22 * x.mass, by omega, by omega, fun h => absurd h hne, by omega, hx s (l + 1) q post (by omega) h8 hd hp hn, fun k _ => rfl⟩
theorem sp_step {op : Int} {l : Nat} {a b : Nd} (F : OpF op) (hop : op = 6 ∨ op = 7 ∨ (9 ≤ op ∧ op ≤ 20)) (hst : (stl op).2 = ((l : Int), (l : Int), ((l + 1 : Nat) : Int))) (h8 : l + 1 ≤ 8) (ha : Sp a l) (hb : RdAt b) : Sp (.mk op 0 [] [a, b]) l := by
  intro s q post hd hp hn
  have hlv : lvN op = l := by unfold lvN; rw [hst]; exact Int.toNat_natCast l
  have hm : (Nd.mk op 0 [] [a, b]).mass = 1 + a.mass + b.mass := by simp [Nd.mass, massN]; omega
  have hbd := body_bin hop a b
  rw [hst] at hbd
  have hw : wr (.mk op 0 [] [a, b]) (l : Int) = wr a (l : Int) ++ (32 :: ((stl op).1 ++ (32 :: wr b ((l + 1 : Nat) : Int)))) := (wr_low (by show (l : Int) ≤ lvN op; omega)).trans hbd
  rw [hw] at hd hn ⊢
  have e1 : s.drop q = wr a (l : Int) ++ (32 :: ((stl op).1 ++ 32 :: (wr b ((l + 1 : Nat) : Int) ++ post))) := by rw [hd]; simp
  have e2 := drop_add e1
  obtain ⟨o1, o2, o3⟩ := scn_opw F e2
  obtain ⟨y, ty, c, S, c1, c2, c3, c4, c5, c6⟩ := ha s q _ e1 (.inl rfl) (by rw [o1]; exact ⟨fun m hm' => F.ne m (by omega), F.par⟩)
  have hlen : q + (wr a (l : Int) ++ (32 :: ((stl op).1 ++ (32 :: wr b ((l + 1 : Nat) : Int))))).length = q + (wr a (l : Int)).length + 1 + (stl op).1.length + 1 + (wr b ((l + 1 : Nat) : Int)).length := by simp; omega
  rw [hlen] at hn ⊢
  have hB := hb s (l + 1) _ post (by omega) h8 o3 hp hn
  have hma := a.mass_eq
  have hmb := b.mass_eq
  refine ⟨y, ty, c + 1, max S (22 * b.mass), by omega, by omega, fun _ => by omega, by omega, c5.mono (by omega), fun k hk => ?_⟩
  have hat := F.at_
  rw [hlv] at hat
  rw [show k + (c + 1) = (k + 1) + c by omega, c6 (k + 1) (by omega), lop_succ, o1]
  dsimp only
  rw [hat]
  dsimp only
  rw [o2, hB k (by omega)]
theorem un_bin {op : Int} {l : Nat} {a b : Nd} (hop : op = 6 ∨ op = 7 ∨ (9 ≤ op ∧ op ≤ 20)) (hst : (stl op).2 = ((l : Int), (l : Int), ((l + 1 : Nat) : Int))) (hl : l = 1 ∨ l = 2 ∨ l = 5 ∨ l = 6) (ha : Sp a l) (hb : RdAt b) : UnAt (.mk op 0 [] [a, b]) := by
  intro s lv q post hl1 hl8 hd hp hn
  have hlv : lvN op = l := by unfold lvN; rw [hst]; exact Int.toNat_natCast l
  have hm := (Nd.mk op 0 [] [a, b]).mass_eq
  have hl8 : lv ≤ l := by rw [← hlv]; exact hl8
  have hw : wr (.mk op 0 [] [a, b]) (l : Int) = body (.mk op 0 [] [a, b]) := wr_low (by show (l : Int) ≤ lvN op; omega)
  rw [← hw] at hd hn ⊢
  obtain ⟨y, ty, c, S, c1, c2, c3, c4, c5, c6⟩ := sp_step (opF_all hop) hop hst (by omega) ha hb s q post hd hp (hn.mono (by omega))
  have c3 := c3 hlv
  have pl : PrsTo s l (scn s q) (.mk op 0 [] [a, b]) (scn s (q + (wr (.mk op 0 [] [a, b]) (l : Int)).length)) (S + c + 2) := by
    intro k hk
    obtain ⟨k, rfl⟩ : ∃ j, k = j + 1 := ⟨k - 1, by omega⟩
    have h1 := c5 k (by omega)
    have h2 : lop s k l y ty = .ok (.mk op 0 [] [a, b]) (scn s (q + (wr (.mk op 0 [] [a, b]) (l : Int)).length)) := by
      obtain ⟨j, rfl⟩ : ∃ j, k = (j + 1) + c := ⟨k - c - 1, by omega⟩
      rw [c6 (j + 1) (by omega), lop_succ, hn.op l hl8]
    rcases hl with rfl | rfl | rfl | rfl
    · rw [prs_or, h1]; exact h2
    · rw [prs_and, h1]; exact h2
    · rw [prs_sum, h1]; exact h2
    · rw [prs_product, h1]; exact h2
  exact (downTo pl hl1 hl8 (by omega) (by omega) hn).mono (by omega)
end Go.Proofs.YtnoadopmeoohmaaGreatDoor
/-
  The law Returns, plain: calls; every checked expression is read again.
-/
namespace Go.Proofs.YtnoadopmeoohmaaGreatDoor
open Go
set_option linter.unusedVariables false
set_option linter.unusedSimpArgs false
/-- what is read does not begin with a closing parenthesis -/
theorem cl_bad {s : List UInt8} {t : Tok} (ht : t.kind = [41]) : ∀ k x t1, prs s k 1 t ≠ .ok x t1 := by
  have step : ∀ {l : Nat}, (∀ k x t1, prs s k (l + 1) t ≠ .ok x t1) → 1 ≤ l → l ≤ 7 → ∀ k x t1, prs s k l t ≠ .ok x t1 := by
    intro l hl h1 h7 k x t1
    cases k with
    | zero => rw [prs_zero]; exact fun h => by cases h
    | succ k =>
      obtain rfl | rfl | rfl | rfl | rfl | rfl | rfl : l = 1 ∨ l = 2 ∨ l = 3 ∨ l = 4 ∨ l = 5 ∨ l = 6 ∨ l = 7 := by omega
      · rw [prs_or]
        cases hp : prs s k 2 t with
        | ok y t2 => exact absurd hp (hl k y t2)
        | no => exact fun h => by cases h
        | err e p => exact fun h => by cases h
      · rw [prs_and]
        cases hp : prs s k 3 t with
        | ok y t2 => exact absurd hp (hl k y t2)
        | no => exact fun h => by cases h
        | err e p => exact fun h => by cases h
      · rw [prs_not, ht, if_neg (by decide)]; exact hl k x t1
      · rw [prs_rel]
        cases hp : prs s k 5 t with
        | ok y t2 => exact absurd hp (hl k y t2)
        | no => exact fun h => by cases h
        | err e p => exact fun h => by cases h
      · rw [prs_sum]
        cases hp : prs s k 6 t with
        | ok y t2 => exact absurd hp (hl k y t2)
        | no => exact fun h => by cases h
        | err e p => exact fun h => by cases h
      · rw [prs_product]
        cases hp : prs s k 7 t with
        | ok y t2 => exact absurd hp (hl k y t2)
        | no => exact fun h => by cases h
        | err e p => exact fun h => by cases h
      · rw [prs_fac, ht, if_neg (by decide)]; exact hl k x t1
  have h8 : ∀ k x t1, prs s k 8 t ≠ .ok x t1 := fun k x t1 => by
    cases k with
    | zero => rw [prs_zero]; exact fun h => by cases h
    | succ k => rw [prs_prim, ht]; simp
  exact step (step (step (step (step (step (step h8 (by decide) (by decide)) (by decide) (by decide)) (by decide) (by decide)) (by decide) (by decide)) (by decide) (by decide)) (by decide) (by decide)) (by decide) (by decide)
theorem wr0 (x : Nd) : wr x 0 = wr x ((1 : Nat) : Int) := by
  have := (lvN_eq x.op).2.1
  rw [wr_low (by omega), wr_low (by omega)]
def tl (r : List Nd) : List UInt8 := (r.map fun f => wr f 0).flatMap fun y => 44 :: 32 :: y
theorem tl_cons (y : Nd) (r : List Nd) : tl (y :: r) = 44 :: 32 :: (wr y ((1 : Nat) : Int) ++ tl r) := by
  unfold tl
  rw [List.map_cons, List.flatMap_cons, wr0]
  rfl
theorem tl_sf (r : List Nd) (post : List UInt8) : sf (tl r ++ 41 :: post) := by
  cases r with
  | nil => exact .inr (.inl rfl)
  | cons y r => rw [tl_cons]; exact .inr (.inr rfl)
theorem tl_nx {s post : List UInt8} {q : Nat} {r : List Nd} (h : s.drop q = tl r ++ 41 :: post) (lv : Nat) : Nx lv (scn s q) := by
  cases r with
  | nil => rw [scn_cl h]; exact nx_cl lv q
  | cons y r => rw [tl_cons] at h; rw [scn_co h]; exact nx_co lv q
theorem agl_to {s post : List UInt8} : ∀ (r : List Nd) (acc : List Nd) (q : Nat), (∀ y ∈ r, RdAt y) → s.drop q = tl r ++ 41 :: post → ∀ k, 22 * massN r + 1 ≤ k → agl s k acc (scn s q) = .ok (acc ++ r) (scn s (q + (tl r).length + 1))
  | [], acc, q, _, h, k, hk => by
    obtain ⟨k, rfl⟩ : ∃ j, k = j + 1 := ⟨k - 1, by omega⟩
    rw [scn_cl h, agl_succ]
    dsimp only
    rw [if_neg (by decide), if_pos rfl, List.append_nil]
    rfl
  | y :: r, acc, q, hall, h, k, hk => by
    obtain ⟨k, rfl⟩ : ∃ j, k = j + 1 := ⟨k - 1, by omega⟩
    have hmy := y.mass_eq
    rw [massN] at hk
    rw [tl_cons] at h
    have e1 : s.drop q = 44 :: 32 :: (wr y ((1 : Nat) : Int) ++ (tl r ++ 41 :: post)) := by rw [h]; simp
    have e2 : s.drop (q + 1) = 32 :: (wr y ((1 : Nat) : Int) ++ (tl r ++ 41 :: post)) := by rw [← List.drop_drop, e1]; rfl
    have e3 : s.drop (q + 1 + 1) = wr y ((1 : Nat) : Int) ++ (tl r ++ 41 :: post) := by rw [← List.drop_drop, e2]; rfl
    have e4 := drop_add e3
    have hy := hall y (by simp) s 1 (q + 1 + 1) _ (by decide) (by decide) e3 (tl_sf r post) (tl_nx e4 1) k (by omega)
    have ih := agl_to r (acc ++ [y]) _ (fun z hz => hall z (by simp [hz])) e4 k (by omega)
    rw [scn_co e1, agl_succ]
    dsimp only
    rw [if_pos rfl, show nxt s ⟨[44], [44], q⟩ = scn s (q + 1) from rfl, scn_skip e2, hy]
    dsimp only
    rw [ih, List.append_assoc]
    congr 2
    rw [tl_cons]
    simp
    omega
theorem jn_tl (x : Nd) (r : List Nd) : jn ((x :: r).map fun f => wr f 0) = wr x ((1 : Nat) : Int) ++ tl r := by
  rw [List.map_cons, jn, wr0]; rfl
theorem arg_to {s post : List UInt8} {q : Nat} {args : List Nd} (hall : ∀ y ∈ args, RdAt y) (h : s.drop q = jn (args.map fun f => wr f 0) ++ 41 :: post) : ∀ k, 22 * massN args + 1 ≤ k → arg s k (scn s q) = .ok args (scn s (q + (jn (args.map fun f => wr f 0)).length + 1)) := by
  intro k hk
  obtain ⟨k, rfl⟩ : ∃ j, k = j + 1 := ⟨k - 1, by omega⟩
  cases args with
  | nil =>
    rw [scn_cl h, arg_succ]
    dsimp only
    rw [if_pos rfl]
    rfl
  | cons x r =>
    have hmx := x.mass_eq
    rw [massN] at hk
    rw [jn_tl] at h ⊢
    have e1 : s.drop q = wr x ((1 : Nat) : Int) ++ (tl r ++ 41 :: post) := by rw [h]; simp
    have e2 := drop_add e1
    have hx := hall x (by simp) s 1 q _ (by decide) (by decide) e1 (tl_sf r post) (tl_nx e2 1) k (by omega)
    have hk41 : (scn s q).kind ≠ [41] := fun h9 => cl_bad h9 _ _ _ hx
    rw [arg_succ, if_neg hk41, hx]
    dsimp only
    rw [agl_to r [x] _ (fun z hz => hall z (by simp [hz])) e2 k (by omega)]
    congr 2
    simp
    omega
theorem fn_name {w : List UInt8} (h : fnArg w ≠ none) : idt w ∧ resv w = false ∧ w.length ≤ 40 := by
  unfold fnArg at h
  by_cases h1 : w = [109, 105, 110] ∨ w = [109, 97, 120]
  · rcases h1 with rfl | rfl <;> decide
  rw [if_neg h1] at h
  by_cases h2 : w = [115, 117, 109]
  · subst h2; decide
  rw [if_neg h2] at h
  by_cases h3 : w = [97, 98, 115] ∨ w = [108, 101, 110] ∨ w = [117, 112, 112, 101, 114] ∨ w = [108, 111, 119, 101, 114] ∨ w = [116, 101, 120, 116] ∨ w = [110, 117, 109, 98, 101, 114]
  · rcases h3 with rfl | rfl | rfl | rfl | rfl | rfl <;> decide
  rw [if_neg h3] at h
  by_cases h4 : w = [105, 102]
  · subst h4; decide
  · rw [if_neg h4] at h; exact absurd rfl h
theorem un_call {w : List UInt8} {args : List Nd} (hw : fnArg w ≠ none) (hall : ∀ y ∈ args, RdAt y) : UnAt (.mk 5 0 w args) := by
  intro s lv q post hl1 hl8 hd hp hn
  obtain ⟨hi, hr, hl⟩ := fn_name hw
  have hm : (Nd.mk 5 0 w args).mass = 1 + w.length + massN args := by rw [Nd.mass]
  have hb : body (.mk 5 0 w args) = w ++ (40 :: (jn (args.map fun f => wr f 0) ++ [41])) := by
    show w ++ (40 :: (jn ((args.map wr).map fun f => f 0) ++ [41])) = _
    rw [List.map_map]
    rfl
  rw [hb] at hd hn ⊢
  obtain ⟨a1, a2⟩ := idt_wd hi
  have e1 : s.drop q = w ++ 40 :: (jn (args.map fun f => wr f 0) ++ 41 :: post) := by rw [hd]; simp
  have e2 := drop_add e1
  have e3 : s.drop (q + w.length + 1) = jn (args.map fun f => wr f 0) ++ 41 :: post := by rw [← List.drop_drop, e2]; rfl
  have t0 : scn s q = ⟨[105], w, q⟩ := by
    have := scn_word e1 a1 a2 rfl
    rw [hr] at this
    exact this
  have hlen : q + (w ++ (40 :: (jn (args.map fun f => wr f 0) ++ [41]))).length = q + w.length + 1 + (jn (args.map fun f => wr f 0)).length + 1 := by simp; omega
  rw [hlen] at hn ⊢
  have hA := arg_to hall e3
  refine un_of8 (fun k hk => ?_) hl1 hl8 hn (by rw [t0]; exact (by decide : ([105] : List UInt8) ≠ [45]))
  obtain ⟨k, rfl⟩ : ∃ j, k = j + 1 := ⟨k - 1, by omega⟩
  rw [prs_prim, t0]
  dsimp only
  rw [if_neg (by decide), if_neg (by decide), if_neg (by decide), if_neg (by decide), if_pos rfl, if_neg (by omega)]
  rw [show nxt s ⟨[105], w, q⟩ = scn s (q + w.length) from rfl, scn_pa e2]
  dsimp only
  rw [if_pos rfl, show nxt s ⟨[40], [40], q + w.length⟩ = scn s (q + w.length + 1) from rfl, hA k (by omega)]
theorem chk_facts {op num : Int} {text : List UInt8} {n : Int} (h : chkT op num text n = 0) : 1 ≤ op ∧ op ≤ 21 ∧ (op ≠ 1 → op ≠ 3 → num = 0) ∧ (op ≠ 2 → op ≠ 4 → op ≠ 5 → text = []) ∧ (op ≠ 5 → n = arityN op) ∧ (op = 1 → 0 ≤ num ∧ num ≤ 1099511627776) ∧ (op = 3 → num = 0 ∨ num = 1) ∧ (op = 2 → ¬ ctl text) ∧
    (op = 4 → idt text ∧ resv text = false ∧ text.length ≤ 40) ∧ (op = 5 → fnArg text ≠ none) := by
  unfold chkT at h
  split at h
  · exact absurd h (by decide)
  rename_i g0
  split at h
  · exact absurd h (by decide)
  rename_i g1
  refine ⟨by omega, by omega, fun a b => ?_, fun a b c => ?_, fun a => ?_, fun a => ?_, fun a => ?_, fun a => ?_, fun a => ?_, fun a => ?_⟩
  · exact Classical.not_not.1 fun h9 => g1 (.inl ⟨by omega, h9⟩)
  · exact Classical.not_not.1 fun h9 => g1 (.inr (.inl ⟨by omega, h9⟩))
  · exact Classical.not_not.1 fun h9 => g1 (.inr (.inr ⟨a, h9⟩))
  · subst a; simp at h; omega
  · subst a; simp at h; omega
  · subst a; intro h9; simp [h9] at h; split at h <;> exact absurd h (by decide)
  · subst a
    simp at h
    obtain ⟨h1, h2, h3⟩ := h
    exact ⟨h1, h2, h3⟩
  · subst a; intro h9; simp [h9] at h
end Go.Proofs.YtnoadopmeoohmaaGreatDoor
/-
  The law Returns, plain: every checked expression is read again from what is written.
-/
namespace Go.Proofs.YtnoadopmeoohmaaGreatDoor
open Go
set_option linter.unusedVariables false
set_option linter.unusedSimpArgs false
theorem two_args {l : List Nd} (h : (l.length : Int) = 2) : ∃ a b, l = [a, b] := by
  match l, h with
  | [a, b], _ => exact ⟨a, b, rfl⟩
  | [], h => exact absurd h (by decide)
  | [_], h => simp at h
  | _ :: _ :: _ :: _, h => simp at h; omega
theorem one_arg {l : List Nd} (h : (l.length : Int) = 1) : ∃ a, l = [a] := by
  match l, h with
  | [a], _ => exact ⟨a, rfl⟩
  | [], h => exact absurd h (by decide)
  | _ :: _ :: _, h => simp at h; omega
theorem no_arg {l : List Nd} (h : (l.length : Int) = 0) : l = [] := List.length_eq_zero_iff.1 (by omega)
set_option maxHeartbeats 1000000 in
theorem lvl_bin {op : Int} {l : Nat} (h1 : 1 ≤ op) (h2 : op ≤ 21) (he : lvN op = l) (hl : l = 1 ∨ l = 2 ∨ l = 5 ∨ l = 6) : op = 6 ∨ op = 7 ∨ (15 ≤ op ∧ op ≤ 20) := by
  by_cases h3 : op ≤ 5
  · have : lvN op = 8 := by unfold lvN stl; rw [if_pos h3]; rfl
    omega
  by_cases h4 : op = 8
  · subst h4
    have : lvN 8 = 3 := rfl
    omega
  by_cases h5 : 9 ≤ op ∧ op ≤ 14
  · have : lvN op = 4 := by
      obtain rfl | rfl | rfl | rfl | rfl | rfl : op = 9 ∨ op = 10 ∨ op = 11 ∨ op = 12 ∨ op = 13 ∨ op = 14 := by omega
      all_goals rfl
    omega
  by_cases h6 : op = 21
  · subst h6
    have : lvN 21 = 7 := rfl
    omega
  · omega
set_option maxHeartbeats 4000000 in
theorem all_rd : ∀ (N : Nat) (x : Nd), x.mass < N → okN x → RdAt x ∧ ∀ l, (l = 1 ∨ l = 2 ∨ l = 5 ∨ l = 6) → Sp x l
  | 0, x, h, _ => absurd h (by omega)
  | N + 1, .mk op num text args, hm, hok => by
    have hk := (okN_eq _).1 hok
    have hall : ∀ y ∈ args, okN y := (okL_all _).1 hk.2
    obtain ⟨f1, f2, f3, f4, f5, f6, f7, f8, f9, f10⟩ := chk_facts (show chkT op num text (args.length : Int) = 0 from hk.1)
    rw [Nd.mass] at hm
    have ih : ∀ y ∈ args, RdAt y ∧ ∀ l, (l = 1 ∨ l = 2 ∨ l = 5 ∨ l = 6) → Sp y l := fun y hy => by
      obtain ⟨i, hi⟩ := List.mem_iff_getElem?.1 hy
      have := massN_get hi
      exact all_rd N y (by omega) (hall y hy)
    -- the operators of two sides
    have bin : (op = 6 ∨ op = 7 ∨ (15 ≤ op ∧ op ≤ 20)) → ∃ (l : Nat) (a b : Nd), (l = 1 ∨ l = 2 ∨ l = 5 ∨ l = 6) ∧ lvN op = l ∧ (stl op).2 = ((l : Int), (l : Int), ((l + 1 : Nat) : Int)) ∧ num = 0 ∧ text = [] ∧ args = [a, b] ∧ (op = 6 ∨ op = 7 ∨ (9 ≤ op ∧ op ≤ 20)) ∧ l + 1 ≤ 8 := fun h => by
      obtain ⟨a, b, hab⟩ := two_args (f5 (by omega) |>.trans (by unfold arityN; rw [if_neg (by omega), if_neg (by omega)]))
      have hn := f3 (by omega) (by omega)
      have ht := f4 (by omega) (by omega) (by omega)
      obtain rfl | rfl | rfl | rfl | rfl | rfl | rfl | rfl : op = 6 ∨ op = 7 ∨ op = 15 ∨ op = 16 ∨ op = 17 ∨ op = 18 ∨ op = 19 ∨ op = 20 := by omega
      · exact ⟨1, a, b, by decide, rfl, rfl, hn, ht, hab, by decide, by decide⟩
      · exact ⟨2, a, b, by decide, rfl, rfl, hn, ht, hab, by decide, by decide⟩
      · exact ⟨5, a, b, by decide, rfl, rfl, hn, ht, hab, by decide, by decide⟩
      · exact ⟨5, a, b, by decide, rfl, rfl, hn, ht, hab, by decide, by decide⟩
      · exact ⟨5, a, b, by decide, rfl, rfl, hn, ht, hab, by decide, by decide⟩
      · exact ⟨6, a, b, by decide, rfl, rfl, hn, ht, hab, by decide, by decide⟩
      · exact ⟨6, a, b, by decide, rfl, rfl, hn, ht, hab, by decide, by decide⟩
      · exact ⟨6, a, b, by decide, rfl, rfl, hn, ht, hab, by decide, by decide⟩
    have hR : RdAt (.mk op num text args) := by
      by_cases c1 : op = 1
      · subst c1
        obtain rfl := f4 (by decide) (by decide) (by decide)
        obtain rfl := no_arg (f5 (by decide))
        exact RdAt.of (un_num (f6 rfl).1 (f6 rfl).2)
      by_cases c2 : op = 2
      · subst c2
        obtain rfl := f3 (by decide) (by decide)
        obtain rfl := no_arg (f5 (by decide))
        exact RdAt.of (un_str (f8 rfl))
      by_cases c3 : op = 3
      · subst c3
        obtain rfl := f4 (by decide) (by decide) (by decide)
        obtain rfl := no_arg (f5 (by decide))
        exact RdAt.of (un_bool (f7 rfl))
      by_cases c4 : op = 4
      · subst c4
        obtain rfl := f3 (by decide) (by decide)
        obtain rfl := no_arg (f5 (by decide))
        exact RdAt.of (un_name (f9 rfl).1 (f9 rfl).2.1 (f9 rfl).2.2)
      by_cases c5 : op = 5
      · subst c5
        obtain rfl := f3 (by decide) (by decide)
        exact RdAt.of (un_call (f10 rfl) fun y hy => (ih y hy).1)
      by_cases c8 : op = 8
      · subst c8
        obtain rfl := f3 (by decide) (by decide)
        obtain rfl := f4 (by decide) (by decide) (by decide)
        obtain ⟨a, rfl⟩ := one_arg (f5 (by decide))
        exact RdAt.of (un_not (ih a (by simp)).1)
      by_cases c21 : op = 21
      · subst c21
        obtain rfl := f3 (by decide) (by decide)
        obtain rfl := f4 (by decide) (by decide) (by decide)
        obtain ⟨a, rfl⟩ := one_arg (f5 (by decide))
        exact RdAt.of (un_neg (ih a (by simp)).1)
      by_cases cr : 9 ≤ op ∧ op ≤ 14
      · obtain ⟨a, b, rfl⟩ := two_args (f5 (by omega) |>.trans (by unfold arityN; rw [if_neg (by omega), if_neg (by omega)]))
        obtain rfl := f3 (by omega) (by omega)
        obtain rfl := f4 (by omega) (by omega) (by omega)
        exact RdAt.of (un_rel cr.1 cr.2 (ih a (by simp)).1 (ih b (by simp)).1)
      · obtain ⟨l, a, b, hl, hlv, hst, rfl, rfl, rfl, hop, h8⟩ := bin (by omega)
        exact RdAt.of (un_bin hop hst hl ((ih a (by simp)).2 l hl) (ih b (by simp)).1)
    refine ⟨hR, fun l hl => ?_⟩
    by_cases he : lvN op = l
    · have hop : op = 6 ∨ op = 7 ∨ (15 ≤ op ∧ op ≤ 20) := by
        exact lvl_bin f1 f2 he hl
      obtain ⟨l', a, b, hl', hlv, hst, rfl, rfl, rfl, hop', h8⟩ := bin hop
      obtain rfl : l' = l := hlv.symm.trans he
      exact sp_step (opF_all hop') hop' hst h8 ((ih a (by simp)).2 l' hl) (ih b (by simp)).1
    · exact sp_base hR he (by rcases hl with rfl | rfl | rfl | rfl <;> decide)
theorem rd_all {x : Nd} (h : okN x) : RdAt x := (all_rd (x.mass + 1) x (by omega) h).1
/-- what is written of an expression is read as this expression -/
theorem reads {x : Nd} (h : okN x) : ∀ k, 22 * x.mass ≤ k → prs (wr x 0) k 1 (scn (wr x 0) 0) = .ok x ⟨[46], [], (wr x 0).length⟩ := by
  intro k hk
  have e1 : (wr x 0).drop 0 = wr x ((1 : Nat) : Int) ++ [] := by rw [List.drop_zero, List.append_nil, wr0]
  have e2 : (wr x 0).drop (0 + (wr x ((1 : Nat) : Int)).length) = [] := by rw [← wr0, Nat.zero_add, List.drop_length]
  have t1 := scn_end e2
  have := rd_all h (wr x 0) 1 0 [] (by decide) (by decide) e1 trivial (by rw [t1]; exact nx_end 1 _) k hk
  rw [this, t1, ← wr0, Nat.zero_add]
/-! ### how much is written -/
theorem par_le (b : Bool) (t : List UInt8) : t.length ≤ (par b t).length := by
  unfold par
  split
  · simp; omega
  · exact Nat.le_refl _
theorem esc_len : ∀ t : List UInt8, t.length ≤ (esc t).length
  | [] => Nat.le_refl _
  | c :: t => by
    have := esc_len t
    unfold esc
    split <;> simp <;> omega
theorem wr_body (x : Nd) (lv : Int) : (body x).length ≤ (wr x lv).length := by rw [wr_eq]; exact par_le _ _
set_option maxHeartbeats 4000000 in
theorem all_len : ∀ (N : Nat) (x : Nd), x.mass < N → okN x → ∀ lv, x.mass ≤ 2 * (wr x lv).length
  | 0, x, h, _ => absurd h (by omega)
  | N + 1, .mk op num text args, hm, hok => by
    have hk := (okN_eq _).1 hok
    have hall : ∀ y ∈ args, okN y := (okL_all _).1 hk.2
    obtain ⟨f1, f2, f3, f4, f5, f6, f7, f8, f9, f10⟩ := chk_facts (show chkT op num text (args.length : Int) = 0 from hk.1)
    have hmm : (Nd.mk op num text args).mass = 1 + text.length + massN args := by rw [Nd.mass]
    rw [Nd.mass] at hm
    have ih : ∀ y ∈ args, ∀ lv, y.mass ≤ 2 * (wr y lv).length := fun y hy => by
      obtain ⟨i, hi⟩ := List.mem_iff_getElem?.1 hy
      have := massN_get hi
      exact all_len N y (by omega) (hall y hy)
    have hB : (Nd.mk op num text args).mass ≤ 2 * (body (.mk op num text args)).length := by
      rw [hmm]
      by_cases c1 : op = 1
      · subst c1
        obtain rfl := f4 (by decide) (by decide) (by decide)
        obtain rfl := no_arg (f5 (by decide))
        have hb : body (.mk 1 num [] []) = Lib.itoa num := rfl
        have h1 : 1 ≤ (Lib.itoa num).length := by
          unfold Lib.itoa
          rw [if_neg (by have := (f6 rfl).1; omega)]
          exact List.length_pos_iff.2 (decD_spec _).1
        rw [hb]
        simp [massN]
        omega
      by_cases c2 : op = 2
      · subst c2
        obtain rfl := no_arg (f5 (by decide))
        have hb : body (.mk 2 num text []) = 34 :: (Lib.replaceAll text [34] [34, 34] ++ [34]) := rfl
        have := esc_len text
        rw [hb, ra_esc]
        simp [massN]
        omega
      by_cases c3 : op = 3
      · subst c3
        obtain rfl := f4 (by decide) (by decide) (by decide)
        obtain rfl := no_arg (f5 (by decide))
        have hb : body (.mk 3 num [] []) = fbool (decide (num = 1)) := rfl
        rw [hb]
        unfold fbool
        split <;> simp [massN]
      by_cases c4 : op = 4
      · subst c4
        obtain rfl := no_arg (f5 (by decide))
        have hb : body (.mk 4 num text []) = text := rfl
        have := List.length_pos_iff.2 (f9 rfl).1.1
        rw [hb]
        simp [massN]
        omega
      by_cases c5 : op = 5
      · subst c5
        have hb : body (.mk 5 num text args) = text ++ (40 :: (jn (args.map fun f => wr f 0) ++ [41])) := by
          show text ++ (40 :: (jn ((args.map wr).map fun f => f 0) ++ [41])) = _
          rw [List.map_map]
          rfl
        have hj : massN args ≤ 2 * (jn (args.map fun f => wr f 0)).length := by
          have ht : ∀ r : List Nd, (∀ y ∈ r, ∀ lv, y.mass ≤ 2 * (wr y lv).length) → massN r ≤ 2 * (tl r).length := by
            intro r
            induction r with
            | nil => intro _; simp [massN]
            | cons y r ihr =>
              intro hr
              have h1 := hr y (by simp) ((1 : Nat) : Int)
              have h2 := ihr fun z hz => hr z (by simp [hz])
              rw [tl_cons, massN]
              simp only [List.length_append, List.length_cons]
              omega
          cases args with
          | nil => simp [massN]
          | cons y r =>
            have h1 := ih y (by simp) ((1 : Nat) : Int)
            have h2 := ht r fun z hz => ih z (by simp [hz])
            rw [jn_tl, massN]
            simp only [List.length_append]
            omega
        rw [hb]
        simp only [List.length_append, List.length_cons, List.length_nil]
        omega
      obtain rfl := f3 (by omega) (by omega)
      obtain rfl := f4 (by omega) (by omega) (by omega)
      by_cases c8 : op = 8
      · subst c8
        obtain ⟨a, rfl⟩ := one_arg (f5 (by decide))
        have hb : body (.mk 8 0 [] [a]) = [110, 111, 116, 32] ++ wr a ((3 : Nat) : Int) := rfl
        have := ih a (by simp) ((3 : Nat) : Int)
        rw [hb]
        simp only [massN, List.length_append, List.length_cons, List.length_nil]
        omega
      by_cases c21 : op = 21
      · subst c21
        obtain ⟨a, rfl⟩ := one_arg (f5 (by decide))
        have hb : body (.mk 21 0 [] [a]) = 45 :: wr a ((7 : Nat) : Int) := rfl
        have := ih a (by simp) ((7 : Nat) : Int)
        rw [hb]
        simp only [massN, List.length_append, List.length_cons, List.length_nil]
        omega
      · obtain ⟨a, b, rfl⟩ := two_args (f5 (by omega) |>.trans (by unfold arityN; rw [if_neg (by omega), if_neg (by omega)]))
        have h1 := ih a (by simp) (stl op).2.2.1
        have h2 := ih b (by simp) (stl op).2.2.2
        rw [body_bin (by omega)]
        simp only [massN, List.length_append, List.length_cons, List.length_nil]
        omega
    intro lv
    have := wr_body (.mk op num text args) lv
    omega
theorem mass_wr {x : Nd} (h : okN x) : x.mass ≤ 2 * (wr x 0).length := all_len (x.mass + 1) x (by omega) h 0
end Go.Proofs.YtnoadopmeoohmaaGreatDoor
