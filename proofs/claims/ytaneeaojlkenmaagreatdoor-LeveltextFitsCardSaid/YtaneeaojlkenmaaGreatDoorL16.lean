/-
  The key of a state of the matcher; the numbers that a string can denote, of the reference.
-/
import Derived.Test.YtaneeaojlkenmaaGreatDoorL14
namespace Go.Proofs.YtaneeaojlkenmaaGreatDoor
open Go Go.Lib
set_option linter.unusedVariables false
set_option linter.unusedSimpArgs false
theorem HRow.slice {H : Hp} {a : Option Addr} {n c k : Nat} {css : List (List Value)} (h : HRow H a n c k css) {i j : Nat} (h1 : i ≤ j) (h2 : j ≤ n) :
    HRow H (if c = i then a else a.map (·.add (i * k))) (j - i) (c - i) k ((css.drop i).take (j - i)) := by
  have hc := h.cap
  refine ⟨by rw [List.length_take, List.length_drop, h.len]; omega, by omega, fun hn => ?_, fun q cs hq => ?_⟩
  · have : a = none := by
      split at hn
      · exact hn
      · simpa using hn
    have := h.nil this
    omega
  · rw [List.getElem?_take] at hq
    split at hq
    · rename_i hlt
      rw [List.getElem?_drop] at hq
      obtain ⟨hl, b, o, ha, hcs⟩ := h.el (i + q) cs hq
      refine ⟨hl, b, o + i * k, ?_, ?_⟩
      · rw [if_neg (by omega), ha]
        simp [Addr.add_lit]
      · intro x v hx
        have := hcs x v hx
        rwa [show o + i * k + q * k + x = o + (i + q) * k + x by rw [Nat.add_mul]; omega]
    · cases hq
theorem Ev_aindex1 {P : Program} {e : Env} {H : Hp} {R : Own} {dst : Option Tmp} {ty : TypeId} {pos : String} {after : Array Edge} {g : Option (Nat × Bool)} {x y : Operand} {v : Value} {t : TypeId} {el len : Nat} {i : Int} {kk : IntKind} {cs : List Value} [ht : UndC P t (.array len el)] [hT : TyC P el false 1] (hx : e.eval x = some (.agg cs.toArray)) (hy : e.eval y = some (.int kk i)) (h0 : 0 ≤ i) (h1 : i < len) (hv : cs[i.toNat]? = some v) :
    Ev P ⟨dst, .index t x y, ty, pos, after, g⟩ e H R v := fun a w he _ _ => by
  have hp : (part el cs.toArray (i.toNat * 1)).run P w = .ok v w := by
    simp [part, hT.isAgg, hT.sizeOf, hv]
  rw [Nat.mul_one] at hp
  simp [execOp, he.eval hx, he.eval hy, Instr.index, asIntOf, ht.run, h0, h1, hT.sizeOf, hp]
/-! ### keys -/
def fieldsS (ps : List Pt) (part at_ : Nat) (N : List Int) : List Int :=
  (part : Int) :: (at_ : Int) :: ((List.range 10).filter fun i : Nat => decide (∃ p ∈ ps.drop part, p.lev = (i : Int))).map fun i => N.getD i 0
def encF : List Int → List UInt8
  | [] => []
  | f :: r => itoa f ++ r.flatMap fun g => 32 :: itoa g
def keyS (ps : List Pt) (part at_ : Nat) (N : List Int) : List UInt8 := encF (fieldsS ps part at_ N)
theorem dec_bytes (n : Nat) : ∀ b ∈ decDigits n, 48 ≤ b.toNat ∧ b.toNat ≤ 57 := by
  induction n using Nat.strongRecOn with
  | _ n ih =>
    intro b hb
    by_cases h : n < 10
    · rw [dec_small h, List.mem_singleton] at hb
      subst hb
      simp; omega
    · rw [dec_big h, List.mem_append, List.mem_singleton] at hb
      rcases hb with hb | rfl
      · exact ih (n / 10) (by omega) b hb
      · simp; omega
theorem itoa_no32 (n : Int) : (32 : UInt8) ∉ itoa n := by
  intro h
  unfold itoa at h
  split at h
  · rcases List.mem_cons.1 h with h | h
    · exact absurd h (by decide)
    · have := dec_bytes _ _ h; revert this; decide
  · have := dec_bytes _ _ h; revert this; decide
theorem dec_inj {m n : Nat} (hm : m ≤ 999999) (hn : n ≤ 999999) (h : decDigits m = decDigits n) : m = n := by
  have h1 := dgS_dec m [] hm
  have h2 := dgS_dec n [] hn
  rw [h, h2] at h1
  simp only [dgS] at h1
  omega
theorem itoa_inj {m n : Int} (hm : -999999 ≤ m ∧ m ≤ 999999) (hn : -999999 ≤ n ∧ n ≤ 999999) (h : itoa m = itoa n) : m = n := by
  unfold itoa at h
  split at h
  · split at h
    · have := dec_inj (by omega) (by omega) (List.cons.inj h).2
      omega
    · have h1 : (45 : UInt8) ∈ decDigits n.toNat := by rw [← h]; simp
      exact absurd (dec_bytes _ _ h1).1 (by decide)
  · split at h
    · have h1 : (45 : UInt8) ∈ decDigits m.toNat := by rw [h]; simp
      exact absurd (dec_bytes _ _ h1).1 (by decide)
    · have := dec_inj (by omega) (by omega) h
      omega
/-- a list that is empty or begins with a space -/
def Sp (l : List UInt8) : Prop := l = [] ∨ ∃ r, l = 32 :: r
theorem sp_flat (r : List Int) : Sp (r.flatMap fun g => 32 :: itoa g) := by
  cases r with
  | nil => exact .inl rfl
  | cons g r => exact .inr ⟨_, by rw [List.flatMap_cons]; rfl⟩
theorem cut32 : ∀ {a a' x x' : List UInt8}, (32 : UInt8) ∉ a → (32 : UInt8) ∉ a' → Sp x → Sp x' → a ++ x = a' ++ x' → a = a' ∧ x = x'
  | [], [], _, _, _, _, _, _, h => ⟨rfl, h⟩
  | [], c :: a', x, x', _, h2, h3, _, h => by
    rcases h3 with rfl | ⟨r, rfl⟩
    · cases h
    · rw [List.nil_append, List.cons_append] at h
      have := (List.cons.inj h).1
      exact absurd (by rw [this]; simp) h2
  | c :: a, [], x, x', h1, _, _, h4, h => by
    rcases h4 with rfl | ⟨r, rfl⟩
    · cases h
    · rw [List.nil_append, List.cons_append] at h
      have := (List.cons.inj h).1
      exact absurd (by rw [← this]; simp) h1
  | c :: a, c' :: a', x, x', h1, h2, h3, h4, h => by
    rw [List.cons_append, List.cons_append] at h
    obtain ⟨e1, e2⟩ := List.cons.inj h
    obtain ⟨e3, e4⟩ := cut32 (fun h => h1 (List.mem_cons_of_mem _ h)) (fun h => h2 (List.mem_cons_of_mem _ h)) h3 h4 e2
    exact ⟨by rw [e1, e3], e4⟩
theorem encF_inj : ∀ {r r' : List Int} {f f' : Int}, (∀ g ∈ f :: r, -999999 ≤ g ∧ g ≤ 999999) → (∀ g ∈ f' :: r', -999999 ≤ g ∧ g ≤ 999999) → encF (f :: r) = encF (f' :: r') → f = f' ∧ r = r'
  | r, r', f, f', h1, h2, h => by
    obtain ⟨e1, e2⟩ := cut32 (itoa_no32 f) (itoa_no32 f') (sp_flat r) (sp_flat r') h
    refine ⟨itoa_inj (h1 f (by simp)) (h2 f' (by simp)) e1, ?_⟩
    match r, r', h1, h2, e2 with
    | [], [], _, _, _ => rfl
    | [], g :: t, _, _, e2 => rw [List.flatMap_cons] at e2; cases e2
    | g :: t, [], _, _, e2 => rw [List.flatMap_cons] at e2; cases e2
    | g :: t, g' :: t', h1, h2, e2 =>
      rw [List.flatMap_cons, List.flatMap_cons, List.cons_append, List.cons_append] at e2
      obtain ⟨e3, e4⟩ := encF_inj (r := t) (r' := t') (fun x hx => h1 x (List.mem_cons_of_mem _ hx)) (fun x hx => h2 x (List.mem_cons_of_mem _ hx)) (List.cons.inj e2).2
      rw [e3, e4]
/-- what is known of numbers -/
structure NOk (N : List Int) : Prop where
  len : N.length = 10
  b : ∀ i, -2 ≤ N.getD i 0 ∧ N.getD i 0 ≤ 999999
theorem NOk.set {N : List Int} (h : NOk N) {i : Nat} {n : Int} (hi : i < 10) (hn : -2 ≤ n ∧ n ≤ 999999) : NOk (N.set i n) := by
  refine ⟨by rw [List.length_set]; exact h.len, fun j => ?_⟩
  rw [getD_set (by rw [h.len]; exact hi)]
  split
  · exact hn
  · exact h.b j
theorem key_inj {ps : List Pt} {part at_ part' at' : Nat} {N N' : List Int} (h1 : NOk N) (h2 : NOk N') (hp : part ≤ 99999 ∧ at_ ≤ 99999) (hp' : part' ≤ 99999 ∧ at' ≤ 99999) (h : keyS ps part at_ N = keyS ps part' at' N') :
    part = part' ∧ at_ = at' ∧ ∀ i : Nat, i < 10 → (∃ p ∈ ps.drop part, p.lev = (i : Int)) → N.getD i 0 = N'.getD i 0 := by
  have hb : ∀ {part at_ : Nat} {N : List Int}, NOk N → part ≤ 99999 ∧ at_ ≤ 99999 → ∀ g ∈ fieldsS ps part at_ N, -999999 ≤ g ∧ g ≤ 999999 := by
    intro part at_ N hN hp g hg
    unfold fieldsS at hg
    rcases List.mem_cons.1 hg with rfl | hg
    · omega
    · rcases List.mem_cons.1 hg with rfl | hg
      · omega
      · obtain ⟨i, _, rfl⟩ := List.mem_map.1 hg
        have := hN.b i
        omega
  obtain ⟨e1, e2⟩ := encF_inj (hb h1 hp) (hb h2 hp') h
  obtain ⟨e3, e4⟩ := List.cons.inj e2
  have e1 : part = part' := by omega
  subst e1
  refine ⟨rfl, by omega, fun i hi hex => ?_⟩
  exact List.map_inj_left.1 e4 i (List.mem_filter.2 ⟨List.mem_range.2 hi, by simpa using hex⟩)
theorem mt_cong (fs : List Int) : ∀ (l : List Pt) (s : List UInt8) (N N' : List Int), N.length = 10 → N'.length = 10 → (∀ p ∈ l, PartOk p) → (∀ p ∈ l, N.getD p.lev.toNat 0 = N'.getD p.lev.toNat 0) → mtP fs l s N = mtP fs l s N'
  | [], _, _, _, _, _, _, _ => rfl
  | p :: r, s, N, N', h1, h2, hp, h => by
    have hr : ∀ q ∈ r, PartOk q := fun q hq => hp q (List.mem_cons_of_mem _ hq)
    have hh : ∀ q ∈ r, N.getD q.lev.toNat 0 = N'.getD q.lev.toNat 0 := fun q hq => h q (List.mem_cons_of_mem _ hq)
    unfold mtP
    by_cases h0 : p.lev = 0
    · rw [if_pos h0, if_pos h0, mt_cong fs r _ N N' h1 h2 hr hh]
    · rw [if_neg h0, if_neg h0, h p (by simp)]
      have hl : p.lev.toNat < 10 := by rcases hp p (by simp) with h3 | h3 <;> omega
      congr 1
      funext j
      congr 1
      funext n
      refine mt_cong fs r _ _ _ (by rw [List.length_set]; exact h1) (by rw [List.length_set]; exact h2) hr fun q hq => ?_
      rw [getD_set (by omega), getD_set (by omega)]
      split
      · rfl
      · exact hh q hq
theorem key_same {fs : List Int} {ps : List Pt} (hps : ∀ p ∈ ps, PartOk p) {part at_ part' at' : Nat} {N N' : List Int} {lab : List UInt8} (h1 : NOk N) (h2 : NOk N') (hp : part ≤ 99999 ∧ at_ ≤ 99999) (hp' : part' ≤ 99999 ∧ at' ≤ 99999) (h : keyS ps part at_ N = keyS ps part' at' N') :
    mtP fs (ps.drop part) (lab.drop at_) N = mtP fs (ps.drop part') (lab.drop at') N' := by
  obtain ⟨rfl, rfl, h3⟩ := key_inj h1 h2 hp hp' h
  have hd : ∀ p ∈ ps.drop part, PartOk p := fun p hp => hps p (List.mem_of_mem_drop hp)
  refine mt_cong fs _ _ _ _ h1.len h2.len hd fun p hp => ?_
  have hl : p.lev.toNat < 10 := by rcases hd p hp with h3 | h3 <;> omega
  exact h3 _ hl ⟨p, hp, by rcases hd p hp with h3 | h3 <;> omega⟩
/-- the key, as it grows -/
def keyUp (ps : List Pt) (part at_ : Nat) (N : List Int) (k : Nat) : List UInt8 :=
  itoa part ++ [32] ++ itoa at_ ++ (List.range k).flatMap fun i : Nat => if ∃ p ∈ ps.drop part, p.lev = (i : Int) then 32 :: itoa (N.getD i 0) else []
theorem keyUp_succ (ps : List Pt) (part at_ : Nat) (N : List Int) (k : Nat) : keyUp ps part at_ N (k + 1) = keyUp ps part at_ N k ++ (if ∃ p ∈ ps.drop part, p.lev = (k : Int) then 32 :: itoa (N.getD k 0) else []) := by
  unfold keyUp
  rw [List.range_succ, List.flatMap_append, ← List.append_assoc]
  congr 1
  simp
theorem keyUp_full (ps : List Pt) (part at_ : Nat) (N : List Int) : keyUp ps part at_ N 10 = keyS ps part at_ N := by
  have e : keyS ps part at_ N = itoa part ++ ((at_ : Int) :: ((List.range 10).filter fun i : Nat => decide (∃ p ∈ ps.drop part, p.lev = (i : Int))).map fun i => N.getD i 0).flatMap fun g => 32 :: itoa g := rfl
  rw [e, List.flatMap_cons]
  unfold keyUp
  simp only [List.append_assoc, List.cons_append, List.nil_append]
  congr 2
  congr 1
  generalize List.range 10 = L
  induction L with
  | nil => rfl
  | cons i r ih =>
    rw [List.flatMap_cons, ih, List.filter_cons]
    by_cases h : ∃ p ∈ ps.drop part, p.lev = (i : Int)
    · rw [if_pos h, if_pos (by simpa using h), List.map_cons, List.flatMap_cons]
    · rw [if_neg h, if_neg (by simpa using h)]; rfl
theorem keyUp_len (ps : List Pt) (part at_ : Nat) {N : List Int} (hN : NOk N) (hp : part ≤ 99999 ∧ at_ ≤ 99999) : ∀ k, (keyUp ps part at_ N k).length ≤ 41 + 21 * k
  | 0 => by
    have h1 := itoa_len (n := (part : Int)) (by constructor <;> omega)
    have h2 := itoa_len (n := (at_ : Int)) (by constructor <;> omega)
    unfold keyUp
    simp
    omega
  | k + 1 => by
    have := keyUp_len ps part at_ hN hp k
    have h1 := hN.b k
    have h2 := itoa_len (n := N.getD k 0) (by constructor <;> omega)
    rw [keyUp_succ, List.length_append]
    split <;> simp only [List.length_cons, List.length_nil] <;> omega
attribute [local irreducible] wpA opsA drJ drQ drE Ef Ev Shift Fn
set_option maxRecDepth 100000 in
set_option maxHeartbeats 4000000 in
theorem key_fn {H : Hp} {mb : Nat} {la : Option Addr} {n lc : Nat} {pa : Option Addr} {pn pc : Nat} {lab : List UInt8} {mm : Nat} (hM : MatH H mb la n lc pa pn pc lab mm)
    {ps : List Pt} (hr : HRow H pa pn pc 3 (ps.map prow)) (hpn : pn < 68719476736) {part at_ : Nat} (hpart : part ≤ pn) (hb : part ≤ 99999 ∧ at_ ≤ 99999) {N : List Int} (hN : NOk N) :
    Fn Tryz.prog 67 [ptr mb, .int .i64 part, .int .i64 at_, .agg (N.map (Value.int .i64)).toArray] H [] fun v _ I => v = sv (keyS ps part at_ N) ∧ I = [] := by
  have e1 : ps.length = pn := by have := hr.len; simpa using this
  have hNl := hN.len
  have hi1 := fun Hx => ItoaI_fn (H := Hx) (n := (part : Int)) (by constructor <;> omega)
  have hi2 := fun Hx => ItoaI_fn (H := Hx) (n := (at_ : Int)) (by constructor <;> omega)
  have hl1 := itoa_len (n := (part : Int)) (by constructor <;> omega)
  have hl2 := itoa_len (n := (at_ : Int)) (by constructor <;> omega)
  have hk0 : keyUp ps part at_ N 0 = itoa part ++ [32] ++ itoa at_ := by unfold keyUp; simp
  have hsl := hr.slice (i := part) (j := pn) hpart (Nat.le_refl _)
  rw [List.take_of_length_le (by rw [List.length_drop, List.length_map]; omega), ← List.map_drop] at hsl
  unfold MatH at hM
  refine Fn_of _ _ Tryz.func67 rfl Tryz.ntmps67 rfl fun c => ?_
  repeat' (first | (refine O_ev WideF.wide rfl (Ev_loadB (i := 0) rfl rfl (by rw [List.length_map]; exact hNl)) rfl rfl ?_) | (refine O_ef rfl (Ef_callp WideF.wide (hi1 _) ⟨rfl, trivial⟩ rfl ?_)) | (refine O_ef rfl (Ef_callp WideF.wide (hi2 _) ⟨rfl, trivial⟩ rfl ?_)) | (refine O_ev WideF.wide rfl (Ev_scat rfl rfl (by simp; omega)) rfl rfl ?_) | refine O_nil ?_ | refine A_seq ?_ | refine A_region ?_ | refine A_block ?_ | (show opsA _ _ _ _ _ _ _; first | refine O_ev WideF.wide rfl (Ev_pure rfl) rfl rfl ?_ | (show opsA _ _ _ _ (⟨_, .box _ _, _, _, _, _⟩ :: _) _ _; (refine O_ef rfl (Ef_boxa WideF.wide rfl rfl ?_); intro b))))
  refine A_loopu (fun m st => ∃ (k : Nat) (cur : List UInt8) (b7 : Nat) (H1 : Hp), m = 10 - k ∧ k ≤ 10 ∧ HLe H H1 ∧ cur = keyUp ps part at_ N k ∧ st = ⟨38, [(0, ptr mb), (1, .int .i64 part), (9, sv cur), (18, .agg (N.map (Value.int .i64)).toArray), (19, .int .i64 k)], H1, [.box b7 (N.map (Value.int .i64))], [], []⟩) ?_ ?_
  · exact Shift.to ⟨_, 0, _, _, H, rfl, by omega, HLe.refl H, hk0.symm, rfl⟩ ⟨rfl, rfl, rfl, ⟨rfl, rfl, rfl, rfl, rfl, trivial⟩, Own.subi [0] (by decide) rfl rfl⟩
  · rintro m st ⟨k, cur, b7, H1, rfl, hk, hl1', hcur, rfl⟩
    have hcl := keyUp_len ps part at_ hN hb k
    rw [← hcur] at hcl
    by_cases hlt : k < 10
    · have hNk := hN.b k
      have hget : (N.map (Value.int .i64))[((k : Int)).toNat]? = some (.int .i64 (N.getD k 0)) := by
        rw [List.getElem?_map, show ((k : Int)).toNat = k by omega, List.getElem?_eq_getElem (by omega)]
        simp [List.getD, show k < N.length by omega]
      have hit := fun Hx => ItoaI_fn (H := Hx) (n := N.getD k 0) (by constructor <;> omega)
      have hil := itoa_len (n := N.getD k 0) (by constructor <;> omega)
      have hco := fun Hx (hle : HLe H1 Hx) b1 (hb1 : Hx b1 0 = some (.int .i64 (k : Int))) => ContainsP_fn (same_fn hb1) ((hsl.mono hl1').mono hle) (by omega)
      have hks := keyUp_succ ps part at_ N k
      rw [← hcur] at hks
      by_cases hex : ∃ p ∈ ps.drop part, p.lev = (k : Int)
      · rw [if_pos hex] at hks
        simp only [decide_eq_true hex] at hco
        repeat' (first | (refine O_ev WideF.wide rfl (Ev_aindex1 rfl rfl (by omega) (by omega) hget) rfl rfl ?_) | (refine O_ev WideF.wide rfl (Ev_loadH1 rfl (hl1' _ _ _ (hM 1 _ rfl))) rfl rfl ?_) | (refine O_ev WideF.wide rfl (Ev_lslicel rfl rfl (by omega) (by omega)) rfl rfl ?_) | (refine O_freezeBox (by intro u hu; simp [tset] at hu; subst hu; rfl) ?_; intro H4 hle4 hc4; refine O_ev WideF.wide rfl (Ev_makeFunc (xs := []) (vs := []) (ys := [.tmp 10]) (us := [.pointer (some ⟨_, 0, none⟩)]) rfl rfl) rfl rfl ?_) | (refine O_ef rfl (Ef_callp WideF.wide (hco _ hle4 _ (hc4 0 _ rfl)) ⟨rfl, rfl, trivial⟩ rfl ?_)) | (refine O_ef rfl (Ef_callp WideF.wide (hit _) ⟨rfl, trivial⟩ rfl ?_)) | (refine O_ev WideF.wide rfl (Ev_scat rfl rfl (by simp only [List.length_cons, List.length_nil, List.length_append]; omega)) rfl rfl ?_) | refine O_nil ?_ | refine A_seq ?_ | refine A_region ?_ | refine A_skip ?_ | refine A_block ?_ | (show opsA _ _ _ _ _ _ _; first | refine O_ev WideF.wide rfl (Ev_pure rfl) rfl rfl ?_ | (show opsA _ _ _ _ (⟨_, .fieldAddr _ _ _, _, _, _, _⟩ :: _) _ _; refine O_ev WideF.wide rfl (Ev_fieldAddr rfl rfl rfl) rfl rfl ?_) | (show opsA _ _ _ _ (⟨_, .binOp _ _ _ _ _, _, _, _, _⟩ :: _) _ _; refine O_ev WideF.wide rfl (Ev_add rfl rfl (wi64 (by omega))) rfl rfl ?_) | (show opsA _ _ _ _ (⟨_, .nilCheck _, _, _, _, _⟩ :: _) _ _; refine O_ev WideF.wide rfl (Ev_nilCheck rfl) rfl rfl ?_) | (show opsA _ _ _ _ (⟨_, .alloc _, _, _, _, _⟩ :: _) _ _; (refine O_ef rfl (Ef_alloc WideF.wide rfl ?_); intro b)) | (show opsA _ _ _ _ (⟨_, .store _ _ _, _, _, _, _⟩ :: _) _ _; refine O_ef rfl (Ef_store1 WideF.wide rfl rfl rfl rfl rfl ?_))) | (show wpA _ _ _ (.cond _ _ _) _ _ _ _; first | (refine A_if rfl (fun h => ?_) (fun h => ?_) <;> try (exfalso; omega)) | refine A_iftrue rfl ?_))
        all_goals try (exfalso; omega)
        refine Shift.to ⟨_, ?_, k + 1, cur ++ (32 :: itoa (N.getD k 0)), b7, _, rfl, by omega, hl1'.trans hle4, hks.symm, rfl⟩ ⟨rfl, rfl, rfl, ⟨rfl, rfl, rfl, rfl, rfl, trivial⟩, Own.subi [0] (by decide) rfl rfl⟩
        omega
      · rw [if_neg hex, List.append_nil] at hks
        simp only [decide_eq_false hex] at hco
        repeat' (first | (refine O_ev WideF.wide rfl (Ev_aindex1 rfl rfl (by omega) (by omega) hget) rfl rfl ?_) | (refine O_ev WideF.wide rfl (Ev_loadH1 rfl (hl1' _ _ _ (hM 1 _ rfl))) rfl rfl ?_) | (refine O_ev WideF.wide rfl (Ev_lslicel rfl rfl (by omega) (by omega)) rfl rfl ?_) | (refine O_freezeBox (by intro u hu; simp [tset] at hu; subst hu; rfl) ?_; intro H4 hle4 hc4; refine O_ev WideF.wide rfl (Ev_makeFunc (xs := []) (vs := []) (ys := [.tmp 10]) (us := [.pointer (some ⟨_, 0, none⟩)]) rfl rfl) rfl rfl ?_) | (refine O_ef rfl (Ef_callp WideF.wide (hco _ hle4 _ (hc4 0 _ rfl)) ⟨rfl, rfl, trivial⟩ rfl ?_)) | refine O_nil ?_ | refine A_seq ?_ | refine A_region ?_ | refine A_skip ?_ | refine A_block ?_ | (show opsA _ _ _ _ _ _ _; first | refine O_ev WideF.wide rfl (Ev_pure rfl) rfl rfl ?_ | (show opsA _ _ _ _ (⟨_, .fieldAddr _ _ _, _, _, _, _⟩ :: _) _ _; refine O_ev WideF.wide rfl (Ev_fieldAddr rfl rfl rfl) rfl rfl ?_) | (show opsA _ _ _ _ (⟨_, .binOp _ _ _ _ _, _, _, _, _⟩ :: _) _ _; refine O_ev WideF.wide rfl (Ev_add rfl rfl (wi64 (by omega))) rfl rfl ?_) | (show opsA _ _ _ _ (⟨_, .nilCheck _, _, _, _, _⟩ :: _) _ _; refine O_ev WideF.wide rfl (Ev_nilCheck rfl) rfl rfl ?_) | (show opsA _ _ _ _ (⟨_, .alloc _, _, _, _, _⟩ :: _) _ _; (refine O_ef rfl (Ef_alloc WideF.wide rfl ?_); intro b)) | (show opsA _ _ _ _ (⟨_, .store _ _ _, _, _, _, _⟩ :: _) _ _; refine O_ef rfl (Ef_store1 WideF.wide rfl rfl rfl rfl rfl ?_))) | (show wpA _ _ _ (.cond _ _ _) _ _ _ _; first | (refine A_if rfl (fun h => ?_) (fun h => ?_) <;> try (exfalso; omega)) | refine A_iffalse rfl ?_))
        all_goals try (exfalso; omega)
        refine Shift.to ⟨_, ?_, k + 1, cur, b7, _, rfl, by omega, hl1'.trans hle4, hks.symm, rfl⟩ ⟨rfl, rfl, rfl, ⟨rfl, rfl, rfl, rfl, rfl, trivial⟩, Own.subi [0] (by decide) rfl rfl⟩
        omega
    · have hk10 : k = 10 := by omega
      subst hk10
      rw [keyUp_full] at hcur
      subst hcur
      repeat' (first | refine O_nil ?_ | refine A_seq ?_ | refine A_region ?_ | refine A_ret ?_ | (show opsA _ _ _ _ _ _ _; refine O_ev WideF.wide rfl (Ev_pure rfl) rfl rfl ?_) | (show wpA _ _ _ (.exit _) _ _ _ _; refine A_exit rfl ?_) | (show wpA _ _ _ (.cond _ _ _) _ _ _ _; (refine A_if rfl (fun h => ?_) (fun h => ?_) <;> try (exfalso; omega))))
      all_goals first
        | (exfalso; omega)
        | exact End_e (Ret1 rfl rfl) ⟨rfl, rfl⟩
end Go.Proofs.YtaneeaojlkenmaaGreatDoor
