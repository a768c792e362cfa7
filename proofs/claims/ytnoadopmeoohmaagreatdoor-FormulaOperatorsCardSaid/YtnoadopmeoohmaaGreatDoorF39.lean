/-
  The sums of the law Operators, as data.
  What the sums of the law Operators give (plain Lean).
  The law Operators.
-/
import Derived.Test.YtnoadopmeoohmaaGreatDoorF36
namespace Go.Proofs.YtnoadopmeoohmaaGreatDoor
open Go
set_option linter.unusedVariables false
set_option linter.unusedSimpArgs false
section
section
abbrev n2 (op : Int) (x y : Nd) : Nd := .mk op 0 [] [x, y]
abbrev n1 (op : Int) (x : Nd) : Nd := .mk op 0 [] [x]
abbrev nf (s : List UInt8) (l : List Nd) : Nd := .mk 5 0 s l
abbrev nA : Nd := .mk 4 0 [97] []
abbrev nB : Nd := .mk 4 0 [98] []
abbrev minS : List UInt8 := [109, 105, 110]
abbrev maxS : List UInt8 := [109, 97, 120]
abbrev sumS : List UInt8 := [115, 117, 109]
abbrev absS : List UInt8 := [97, 98, 115]
def o1S : List UInt8 := [97, 32, 45, 32, 98, 32, 43, 32, 98, 32, 61, 32, 97, 32, 97, 110, 100, 32, 45, 40, 97, 32, 45, 32, 98, 41, 32, 61, 32, 98, 32, 45, 32, 97, 32, 97, 110, 100, 32, 109, 105, 110, 40, 97, 44, 32, 98, 41, 32, 43, 32, 109, 97, 120, 40, 97, 44, 32, 98, 41, 32, 61, 32, 97, 32, 43, 32, 98, 32, 97, 110, 100, 32, 97, 98, 115, 40, 97, 41, 32, 62, 61, 32, 97, 32, 97, 110, 100, 32, 115, 117, 109, 40, 97, 44, 32, 98, 41, 32, 61, 32, 98, 32, 43, 32, 97]
def o2S : List UInt8 := [97, 32, 47, 32, 98, 32, 42, 32, 98, 32, 43, 32, 97, 32, 37, 32, 98, 32, 61, 32, 97, 32, 97, 110, 100, 32, 97, 98, 115, 40, 97, 32, 37, 32, 98, 41, 32, 60, 32, 97, 98, 115, 40, 98, 41, 32, 97, 110, 100, 32, 97, 32, 47, 32, 45, 98, 32, 61, 32, 45, 40, 97, 32, 47, 32, 98, 41]
def o1N : Nd := n2 7 (n2 7 (n2 7 (n2 7 (n2 9 (n2 15 (n2 16 nA nB) nB) nA) (n2 9 (n1 21 (n2 16 nA nB)) (n2 16 nB nA))) (n2 9 (n2 15 (nf minS [nA, nB]) (nf maxS [nA, nB])) (n2 15 nA nB))) (n2 14 (nf absS [nA]) nA)) (n2 9 (nf sumS [nA, nB]) (n2 15 nB nA))
def o2N : Nd := n2 7 (n2 7 (n2 9 (n2 15 (n2 18 (n2 19 nA nB) nB) (n2 20 nA nB)) nA) (n2 11 (nf absS [n2 20 nA nB]) (nf absS [nB]))) (n2 9 (n2 19 nA (n1 21 nB)) (n1 21 (n2 19 nA nB)))
theorem o1_prs : prs o1S 200 1 (scn o1S 0) = .ok o1N (scn o1S 106) := by kernel_rfl
theorem o1_dot : (scn o1S 106).kind = [46] := by kernel_rfl
theorem o2_prs : prs o2S 200 1 (scn o2S 0) = .ok o2N (scn o2S 67) := by kernel_rfl
theorem o2_dot : (scn o2S 67).kind = [46] := by kernel_rfl
theorem o1_chk : chkE o1N = 0 := by kernel_rfl
theorem o2_chk : chkE o2N = 0 := by kernel_rfl
theorem o1_mass : o1N.mass < 34359738368 := by simp [o1N, Nd.mass, massN]
theorem o2_mass : o2N.mass < 34359738368 := by simp [o2N, Nd.mass, massN]
theorem o1_valid : valid o1S := valid_ascii o1S (by decide)
theorem o2_valid : valid o2S := valid_ascii o2S (by decide)
end
def Is (env : List Bnd) (x : Nd) (p : Int) : Prop := evE env x = (numV p, 0) ∧ -1099511627776 ≤ p ∧ p ≤ 1099511627776
theorem chk_num {p : Int} (h : -1099511627776 ≤ p ∧ p ≤ 1099511627776) : chkV (numV p) = (numV p, 0) := by
  unfold chkV numV
  rw [if_neg (by show ¬ (_ ∧ (p < _ ∨ _ < p)); omega), if_neg (by show ¬ ((1 : Int) = 2 ∧ _); omega)]
theorem w64_small {p : Int} (h : -4611686018427387904 ≤ p ∧ p ≤ 4611686018427387904) : w64 p = p := wi64 ⟨by omega, by omega⟩
section
variable {env : List Bnd} {x y : Nd} {p q : Int}
theorem ev_n2 {op : Int} (h : op ≠ 1 ∧ op ≠ 2 ∧ op ≠ 3 ∧ op ≠ 4 ∧ op ≠ 5 ∧ op ≠ 6 ∧ op ≠ 7) (hx : Is env x p) (hy : Is env y q) : evE env (n2 op x y) = oprV op [numV p, numV q] := by
  rw [evE_eq]
  show evT env op 0 [] [evE env x, evE env y] = _
  rw [hx.1, hy.1]
  unfold evT
  rw [if_neg (by omega), if_neg (by omega), if_neg (by omega), if_neg (by omega)]
  simp [valL]
  omega
theorem ev_n1 {op : Int} (h : op ≠ 1 ∧ op ≠ 2 ∧ op ≠ 3 ∧ op ≠ 4 ∧ op ≠ 5 ∧ op ≠ 6 ∧ op ≠ 7) (hx : Is env x p) : evE env (n1 op x) = oprV op [numV p] := by
  rw [evE_eq]
  show evT env op 0 [] [evE env x] = _
  rw [hx.1]
  unfold evT
  rw [if_neg (by omega), if_neg (by omega), if_neg (by omega), if_neg (by omega)]
  simp [valL]
  omega
theorem is_add (hx : Is env x p) (hy : Is env y q) (hr : -1099511627776 ≤ p + q ∧ p + q ≤ 1099511627776) : Is env (n2 15 x y) (p + q) := by
  refine ⟨?_, hr⟩
  rw [ev_n2 (by decide) hx hy]
  simp [oprV, allK, numV, calV, v0, v1]
  rw [w64_small (by omega)]
  exact chk_num hr
theorem is_sub (hx : Is env x p) (hy : Is env y q) (hr : -1099511627776 ≤ p - q ∧ p - q ≤ 1099511627776) : Is env (n2 16 x y) (p - q) := by
  refine ⟨?_, hr⟩
  rw [ev_n2 (by decide) hx hy]
  simp [oprV, allK, numV, calV, v0, v1]
  rw [w64_small (by omega)]
  exact chk_num hr
theorem is_div (hx : Is env x p) (hy : Is env y q) (h0 : q ≠ 0) (hr : -1099511627776 ≤ p.tdiv q ∧ p.tdiv q ≤ 1099511627776) : Is env (n2 19 x y) (p.tdiv q) := by
  refine ⟨?_, hr⟩
  rw [ev_n2 (by decide) hx hy]
  simp [oprV, allK, numV, calV, v0, v1, h0]
  rw [w64_small (by omega)]
  exact chk_num hr
theorem is_mod (hx : Is env x p) (hy : Is env y q) (h0 : q ≠ 0) (hr : -1099511627776 ≤ p.tmod q ∧ p.tmod q ≤ 1099511627776) : Is env (n2 20 x y) (p.tmod q) := by
  refine ⟨?_, hr⟩
  rw [ev_n2 (by decide) hx hy]
  simp [oprV, allK, numV, calV, v0, v1, h0]
  exact chk_num hr
theorem is_neg (hx : Is env x p) : Is env (n1 21 x) (0 - p) := by
  have h := hx.2
  refine ⟨?_, by omega, by omega⟩
  rw [ev_n1 (by decide) hx]
  simp [oprV, allK, numV, v0]
  rw [w64_small (by omega)]
  rw [show -p = 0 - p by omega]
  exact chk_num (by omega)
theorem absI_small (h : -1099511627776 ≤ p ∧ p ≤ 1099511627776) : absI p = if p < 0 then 0 - p else p := by
  unfold absI
  rw [w64_small (by omega)]
  split <;> split <;> omega
theorem ev_nf {s : List UInt8} {l : List Nd} (hs : s ≠ ifS) : evE env (nf s l) = if (valL (l.map (evE env))).2 ≠ 0 then (zV, (valL (l.map (evE env))).2) else fcall s (valL (l.map (evE env))).1 := by
  rw [evE_eq]
  show evT env 5 0 s (l.map (evE env)) = _
  unfold evT
  rw [if_neg (by decide), if_neg (by decide), if_neg (by decide), if_neg (by simp [hs])]
  simp
theorem is_min (hx : Is env x p) (hy : Is env y q) : Is env (nf minS [x, y]) (if q < p then q else p) := by
  have h := hx.2
  have h' := hy.2
  have hr : -1099511627776 ≤ (if q < p then q else p) ∧ (if q < p then q else p) ≤ 1099511627776 := by split <;> omega
  refine ⟨?_, hr⟩
  rw [ev_nf (by decide)]
  simp [hx.1, hy.1, valL, fcall, ofV, allK, numV, foldV, minI, v0]
  exact chk_num hr
theorem is_max (hx : Is env x p) (hy : Is env y q) : Is env (nf maxS [x, y]) (if p < q then q else p) := by
  have h := hx.2
  have h' := hy.2
  have hr : -1099511627776 ≤ (if p < q then q else p) ∧ (if p < q then q else p) ≤ 1099511627776 := by split <;> omega
  refine ⟨?_, hr⟩
  rw [ev_nf (by decide)]
  simp [hx.1, hy.1, valL, fcall, ofV, allK, numV, foldV, maxI, v0]
  exact chk_num hr
theorem is_abs (hx : Is env x p) : Is env (nf absS [x]) (if p < 0 then -p else p) := by
  have h := hx.2
  have hr : -1099511627776 ≤ (if p < 0 then -p else p) ∧ (if p < 0 then -p else p) ≤ 1099511627776 := by split <;> omega
  refine ⟨?_, hr⟩
  rw [ev_nf (by decide)]
  simp only [List.map_cons, List.map_nil, hx.1, valL]
  simp [fcall, ofV, allK, v0]
  simp only [numV] at *
  rw [absI_small h]
  simp
  exact chk_num hr
theorem is_sum (hx : Is env x p) (hy : Is env y q) (hr : -1099511627776 ≤ p + q ∧ p + q ≤ 1099511627776) : Is env (nf sumS [x, y]) (p + q) := by
  have h := hx.2
  refine ⟨?_, hr⟩
  rw [ev_nf (by decide)]
  simp [hx.1, hy.1, valL, fcall, ofV, allK, numV, foldV, sumI]
  rw [w64_small (p := p) (by omega), w64_small (by omega)]
  exact chk_num hr
theorem ord_num (h : -1099511627776 ≤ p ∧ p ≤ 1099511627776) (h' : -1099511627776 ≤ q ∧ q ≤ 1099511627776) : (ordV (numV p) (numV q) = 0 ↔ p = q) ∧ (ordV (numV p) (numV q) < 0 ↔ p < q) := by
  have e : w64 (p - q) = p - q := w64_small (by omega)
  have hn : ordV (numV p) (numV q) = (if 1 < (if p - q < -1 then -1 else p - q) then 1 else (if p - q < -1 then -1 else p - q)) := by
    unfold ordV
    rw [if_pos (by show (1 : Int) ≠ 2; decide)]
    show (if 1 < (if w64 (p - q) < -1 then -1 else w64 (p - q)) then 1 else (if w64 (p - q) < -1 then -1 else w64 (p - q))) = _
    rw [e]
  rw [hn]
  by_cases h1 : p - q < -1
  · rw [if_pos h1, if_neg (by decide)]; omega
  · rw [if_neg h1]
    split <;> omega
theorem cmp_num {op : Int} (h9 : 9 ≤ op ∧ op ≤ 14) (hx : Is env x p) (hy : Is env y q) : evE env (n2 op x y) = cmpV op (numV p) (numV q) := by
  rw [ev_n2 (by omega) hx hy]
  unfold oprV
  rw [if_neg (by omega), if_neg (by omega), if_pos (by omega)]
  rfl
theorem is_eq (hx : Is env x p) (hy : Is env y q) (h : p = q) : evE env (n2 9 x y) = (booV true, 0) := by
  rw [cmp_num (by decide) hx hy]
  have := (ord_num hx.2 hy.2).1.2 h
  unfold cmpV
  rw [if_neg (by show ¬ ((1 : Int) ≠ 1 ∨ _ ∧ (1 : Int) = 3); decide), if_pos rfl, this]
  rfl
theorem is_lt (hx : Is env x p) (hy : Is env y q) (h : p < q) : evE env (n2 11 x y) = (booV true, 0) := by
  rw [cmp_num (by decide) hx hy]
  have := (ord_num hx.2 hy.2).2.2 h
  unfold cmpV
  rw [if_neg (by show ¬ ((1 : Int) ≠ 1 ∨ _ ∧ (1 : Int) = 3); decide), if_neg (by decide), if_neg (by decide), if_pos rfl, decide_eq_true this]
theorem is_ge (hx : Is env x p) (hy : Is env y q) (h : q ≤ p) : evE env (n2 14 x y) = (booV true, 0) := by
  rw [cmp_num (by decide) hx hy]
  have : 0 ≤ ordV (numV p) (numV q) := by have := (ord_num hx.2 hy.2).2; omega
  unfold cmpV
  rw [if_neg (by show ¬ ((1 : Int) ≠ 1 ∨ _ ∧ (1 : Int) = 3); decide), if_neg (by decide), if_neg (by decide), if_neg (by decide), if_neg (by decide), if_neg (by decide), if_pos rfl, decide_eq_true this]
theorem is_and (hx : evE env x = (booV true, 0)) (hy : evE env y = (booV true, 0)) : evE env (n2 7 x y) = (booV true, 0) := by
  rw [evE_eq]
  show evT env 7 0 [] [evE env x, evE env y] = _
  rw [hx, hy]
  rfl
theorem is_mul (hx : Is env x p) (hy : Is env y q) (hr : -1099511627776 ≤ p * q ∧ p * q ≤ 1099511627776) : Is env (n2 18 x y) (p * q) := by
  have h := hx.2
  have h' := hy.2
  refine ⟨?_, hr⟩
  rw [ev_n2 (by decide) hx hy]
  have hc : ¬ (p ≠ 0 ∧ w64 ((1099511627776 : Int).tdiv (absI p)) < absI q) := by
    rintro ⟨h0, hlt⟩
    rw [absI_small h, absI_small h'] at hlt
    obtain ⟨u, hu⟩ : ∃ u, u = (if p < 0 then 0 - p else p) := ⟨_, rfl⟩
    obtain ⟨v, hv⟩ : ∃ v, v = (if q < 0 then 0 - q else q) := ⟨_, rfl⟩
    rw [← hu, ← hv] at hlt
    have hu0 : 0 < u := by rw [hu]; split <;> omega
    have huv : u * v ≤ 1099511627776 := by
      rw [hu, hv]
      split <;> split <;> (try rw [show (0 - p) = -p by omega]) <;> (try rw [show (0 - q) = -q by omega]) <;> (try simp only [Int.neg_mul, Int.mul_neg, Int.neg_neg]) <;> omega
    rw [Int.tdiv_eq_ediv_of_nonneg (by decide)] at hlt
    have h1 : v ≤ 1099511627776 / u := Int.le_ediv_of_mul_le hu0 (by rw [Int.mul_comm]; exact huv)
    have h2 : 1099511627776 / u ≤ 1099511627776 := Int.ediv_le_self _ (by decide)
    have h3 : 0 ≤ 1099511627776 / u := Int.ediv_nonneg (by decide) (by omega)
    rw [w64_small (by omega)] at hlt
    omega
  show oprV 18 [numV p, numV q] = _
  unfold oprV
  rw [if_neg (by decide), if_neg (by decide), if_neg (by decide), if_neg (by simp [allK, numV]), if_neg (by decide)]
  show calV 18 p q = _
  unfold calV
  rw [if_neg (by omega), if_neg (by decide), if_neg (by decide), if_neg (by decide), if_neg (by decide), if_neg hc, w64_small (by omega)]
  exact chk_num hr
theorem ev_errl {op e : Int} (h : op ≠ 1 ∧ op ≠ 2 ∧ op ≠ 3 ∧ op ≠ 4 ∧ op ≠ 5 ∧ op ≠ 6 ∧ op ≠ 7) (he : e ≠ 0) (hx : evE env x = (zV, e)) : evE env (n2 op x y) = (zV, e) := by
  rw [evE_eq]
  show evT env op 0 [] [evE env x, evE env y] = _
  rw [hx]
  unfold evT
  rw [if_neg (by omega), if_neg (by omega), if_neg (by omega), if_neg (by omega)]
  simp [valL, he]
theorem and_errl (hx : evE env x = (zV, 28)) : evE env (n2 7 x y) = (zV, 28) := by
  rw [evE_eq]
  show evT env 7 0 [] [evE env x, evE env y] = _
  rw [hx]
  rfl
theorem div_zero (hx : Is env x p) (hy : Is env y 0) : evE env (n2 19 x y) = (zV, 28) := by
  rw [ev_n2 (by decide) hx hy]
  simp [oprV, allK, numV, calV, v0, v1]
end
def oE (a b : Int) : List Bnd := [⟨[97], ⟨1, a, []⟩⟩, ⟨[98], ⟨1, b, []⟩⟩]
section
variable {a b : Int} (ha : -274877906944 ≤ a ∧ a ≤ 274877906944) (hb : -274877906944 ≤ b ∧ b ≤ 274877906944)
include ha in
theorem is_A : Is (oE a b) nA a := ⟨by rw [evE_eq]; rfl, by omega, by omega⟩
include hb in
theorem is_B : Is (oE a b) nB b := ⟨by rw [evE_eq]; rfl, by omega, by omega⟩
include ha hb in
theorem o1_ev : evE (oE a b) o1N = (booV true, 0) := by
  have hA := is_A (b := b) ha
  have hB := is_B (a := a) hb
  have s1 := is_sub hA hB (by omega)
  have s2 := is_sub hB hA (by omega)
  refine is_and (is_and (is_and (is_and (is_eq (is_add s1 hB (by omega)) hA (by omega)) (is_eq (is_neg s1) s2 (by omega))) (is_eq (is_add (is_min hA hB) (is_max hA hB) ?_) (is_add hA hB (by omega)) ?_)) (is_ge (is_abs hA) hA ?_)) (is_eq (is_sum hA hB (by omega)) (is_add hB hA (by omega)) (by omega))
  · split <;> split <;> omega
  · split <;> split <;> omega
  · split <;> omega
include ha hb in
theorem o2_ev (h0 : b ≠ 0) : evE (oE a b) o2N = (booV true, 0) := by
  have hA := is_A (b := b) ha
  have hB := is_B (a := a) hb
  have e1 : a.tdiv b * b + a.tmod b = a := by rw [Int.mul_comm]; exact Int.mul_tdiv_add_tmod a b
  have e2 : (a.tmod b).natAbs < b.natAbs := by rw [Int.natAbs_tmod]; exact Nat.mod_lt _ (by omega)
  have e3 : (a.tdiv b).natAbs ≤ a.natAbs := by rw [Int.natAbs_tdiv]; exact Nat.div_le_self _ _
  have e4 : a.tdiv (0 - b) = 0 - a.tdiv b := by rw [show 0 - b = -b by omega, Int.tdiv_neg]; omega
  obtain ⟨q, hq⟩ : ∃ q, q = a.tdiv b := ⟨_, rfl⟩
  obtain ⟨r, hr⟩ : ∃ r, r = a.tmod b := ⟨_, rfl⟩
  have hD := is_div hA hB h0 (by omega)
  have hM := is_mod hA hB h0 (by omega)
  have hP := is_mul hD hB (by omega)
  refine is_and (is_and (is_eq (is_add hP hM (by omega)) hA e1) (is_lt (is_abs hM) (is_abs hB) ?_)) (is_eq (is_div hA (is_neg hB) (by omega) (by rw [e4]; omega)) (is_neg hD) e4)
  split <;> split <;> omega
include ha in
theorem o2_zero : evE (oE a 0) o2N = (zV, 28) := by
  have hA := is_A (b := 0) ha
  have hB := is_B (a := a) (b := 0) (by decide)
  exact and_errl (and_errl (ev_errl (by decide) (by decide) (ev_errl (by decide) (by decide) (ev_errl (by decide) (by decide) (div_zero hA hB)))))
end
theorem o1_evl {a b : Int} (ha : -274877906944 ≤ a ∧ a ≤ 274877906944) (hb : -274877906944 ≤ b ∧ b ≤ 274877906944) : evl (oE a b) o1N = (booV true, 0) := by
  unfold evl
  rw [if_neg (by rw [o1_chk]; decide)]
  exact o1_ev ha hb
theorem o2_evl {a b : Int} (ha : -274877906944 ≤ a ∧ a ≤ 274877906944) (hb : -274877906944 ≤ b ∧ b ≤ 274877906944) : evl (oE a b) o2N = if b = 0 then (zV, 28) else (booV true, 0) := by
  unfold evl
  rw [if_neg (by rw [o2_chk]; decide)]
  split
  · rename_i h; rw [h]; exact o2_zero ha
  · rename_i h; exact o2_ev ha hb h
end
theorem o_env {a b : Int} (ha : -274877906944 ≤ a ∧ a ≤ 274877906944) (hb : -274877906944 ≤ b ∧ b ≤ 274877906944) : EnvV (oE a b) := by
  intro x hx
  simp only [oE, List.mem_cons, List.not_mem_nil, or_false] at hx
  rcases hx with rfl | rfl
  · exact ⟨⟨by show _ ≤ a; omega, by show a < _; omega⟩, by show 0 ≤ _; omega⟩
  · exact ⟨⟨by show _ ≤ b; omega, by show b < _; omega⟩, by show 0 ≤ _; omega⟩
attribute [local irreducible] wpA opsA drJ drQ drE Ef Ev Shift Fn
set_option maxRecDepth 100000 in
set_option maxHeartbeats 4000000 in
theorem value_fn {H : Hp} {s : List UInt8} {nd : Nd} {t' : Tok} {k : Nat} {env : List Bnd} {bE : Nat} {ea : Option Addr} {en ec : Nat} (hv : valid s) (hl : s.length ≤ 1024) (hV : VarsH H) (hk : k ≤ 1000000) (hp : prs s k 1 (scn s 0) = .ok nd t') (hd : t'.kind = [46]) (hc : chkE nd = 0) (hm : nd.mass < 34359738368)
    (hE : EnvV env) (hen : en < 4611686018427387904) (hb : HCells H bE 0 [.slice ea en ec]) (hr : HRow H ea en ec 4 (env.map bdrow)) :
    Fn Tryz.prog 21 ([sv s] ++ [.pointer (some ⟨bE, 0, none⟩)]) H [] fun v _ I => v = rVE (evl env nd) ∧ I = [] := by
  have kP := fun Hx (hx : HLe H Hx) => Parse_ok (H := Hx) hv hl (hV.mono hx) hk hp hd hc hm
  have kV := fun Hx (hx : HLe H Hx) a n cp (hs : NodesS Hx a n cp nd.args) => Eval_fn (NodeH.of hs) hm (hr.mono hx) hen hE (hV.mono hx)
  have hvl : vlrow (evl env nd).1 = [.int .i64 (evl env nd).1.kind, .int .i64 (evl env nd).1.num, sv (evl env nd).1.text] := rfl
  refine Fn_of _ _ Tryz.func21 rfl Tryz.ntmps21 rfl fun c => ?_
  repeat' (first | (refine O_ef rfl (Ef_call (I := []) WideF.wide (kP _ (HLe.refl _)) ⟨rfl, trivial⟩ rfl ?_); rintro v1 H1 I1 hle1 ⟨⟨a, n, cp, rfl, hns⟩, rfl⟩) | (refine O_ev WideF.wide rfl (Ev_loadH1 rfl (hb.mono hle1 0 _ rfl)) rfl rfl ?_) | (refine O_ef rfl (Ef_call (I := []) WideF.wide (kV _ hle1 _ _ _ hns) ⟨rfl, rfl, trivial⟩ rfl ?_); rintro v3 H3 I3 hle3 ⟨rfl, rfl⟩) | refine O_nil ?_ | refine A_seq ?_ | refine A_region ?_ | refine A_skip ?_ | refine A_ret ?_ | (show opsA _ _ _ _ _ _ _; first | refine O_ev WideF.wide rfl (Ev_pure rfl) rfl rfl ?_ | (show opsA _ _ _ _ (⟨_, .load _ _, _, _, _, _⟩ :: _) _ _; refine O_ev WideF.wide rfl (Ev_loadB (i := 0) rfl rfl rfl) rfl rfl ?_) | (show opsA _ _ _ _ (⟨_, .alloc _, _, _, _, _⟩ :: _) _ _; (refine O_ef rfl (Ef_alloc WideF.wide rfl ?_); intro b)) | (show opsA _ _ _ _ (⟨_, .store _ _ _, _, _, _, _⟩ :: _) _ _; first | refine O_ef rfl (Ef_storew WideF.wide rfl rfl rfl rfl rfl ?_) | refine O_f1 (O_ef rfl (Ef_storew WideF.wide rfl rfl rfl rfl rfl ?_)))) | (show wpA _ _ _ (.cond _ _ _) _ _ _ _; (refine A_if rfl (fun h => ?_) (fun h => ?_) <;> try (exfalso; omega))))
  all_goals first
    | (exfalso; omega)
    | (exfalso; contradiction)
    | (exfalso; exact absurd trivial (by assumption))
    | (exfalso; exact absurd rfl (by assumption))
    | exact End_e (RetC2 (i := 0) rfl rfl rfl rfl rfl) ⟨rfl, rfl⟩
    | exact End_e (RetC2 (i := 1) rfl rfl rfl rfl rfl) ⟨rfl, rfl⟩
    | trace_state
set_option maxRecDepth 100000 in
set_option maxHeartbeats 4000000 in
theorem Operators_in0 {H : Hp} {a b : Int} (hV : VarsH H) (ha : -274877906944 ≤ a ∧ a ≤ 274877906944) (hb : -274877906944 ≤ b ∧ b ≤ 274877906944) (h0 : b ≠ 0) : Fn Tryz.prog 6 [.int .i64 a, .int .i64 b] H [] fun v _ I => v = .bool true ∧ I = [] := by
  have kK := fun Hx (hx : HLe H Hx) => known_fn (hV.mono hx)
  have k1 := fun Hx bE bq (hx : HLe H Hx) (hc : HCells Hx bE 0 [.slice (some ⟨bq, 0, none⟩) 2 2]) (hr : HRow Hx (some ⟨bq, 0, none⟩) 2 2 4 ((oE a b).map bdrow)) => value_fn o1_valid (by decide) (hV.mono hx) (by decide) o1_prs o1_dot o1_chk o1_mass (o_env ha hb) (by decide) hc hr
  have k2 := fun Hx bE bq (hx : HLe H Hx) (hc : HCells Hx bE 0 [.slice (some ⟨bq, 0, none⟩) 2 2]) (hr : HRow Hx (some ⟨bq, 0, none⟩) 2 2 4 ((oE a b).map bdrow)) => value_fn o2_valid (by decide) (hV.mono hx) (by decide) o2_prs o2_dot o2_chk o2_mass (o_env ha hb) (by decide) hc hr
  rw [o1_evl ha hb] at k1
  rw [o2_evl ha hb, if_neg h0] at k2
  refine Fn_of _ _ Tryz.func6 rfl Tryz.ntmps6 rfl fun c => ?_
  repeat' (first | (refine O_ef rfl (Ef_call (I := []) WideF.wide (kK _ (HLe.refl _)) trivial rfl ?_); rintro v1 H1 I1 hle1 ⟨rfl, rfl⟩) | (refine O_ef rfl (Ef_buildF WideF.wide (xs := [_, _]) (vs := [.agg (bdrow ⟨[97], ⟨1, a, []⟩⟩).toArray, .agg (bdrow ⟨[98], ⟨1, b, []⟩⟩).toArray]) (css := (oE a b).map bdrow) rfl ⟨rfl, rfl, trivial⟩ rfl rfl rfl rfl rfl rfl (bdrow_one _) ?_); intro bq H2 hle2 hr2) | (show wpA _ _ _ (.region 4 _ _) _ _ _ _; refine A_freezeBox (cs := [.slice (some ⟨bq, 0, none⟩) 2 2]) (by intro u hu; simp at hu; subst hu; rfl) ?_; intro H3 hle3 hb3; refine A_region ?_) | (refine O_ev WideF.wide rfl (Ev_makeFunc (xs := []) (ys := [_]) (vs := []) (us := [_]) rfl rfl) rfl rfl ?_) | (show opsA _ _ _ _ (⟨some 40, .call _, _, _, _, _⟩ :: _) _ _; refine O_ef rfl (Ef_callc (I := []) (args := [_]) (caps := [_]) WideF.wide (k1 _ _ _ ((hle1.trans hle2).trans hle3) hb3 (hr2.mono hle3)) rfl ⟨rfl, trivial⟩ rfl ?_); rintro v4 H4 I4 hle4 ⟨rfl, rfl⟩) | (show opsA _ _ _ _ (⟨some 52, .call _, _, _, _, _⟩ :: _) _ _; refine O_ef rfl (Ef_callc (I := []) (args := [_]) (caps := [_]) WideF.wide (k2 _ _ _ (((hle1.trans hle2).trans hle3).trans hle4) (hb3.mono hle4) ((hr2.mono hle3).mono hle4)) rfl ⟨rfl, trivial⟩ rfl ?_); rintro v5 H5 I5 hle5 ⟨rfl, rfl⟩) | (refine O_ev WideF.wide rfl (Ev_neS rfl rfl Tryz.eqGuardType37 (eq_val (booV true) (booV true))) rfl rfl ?_) | (refine O_ev WideF.wide rfl (Ev_eqS rfl rfl Tryz.eqGuardType37 (eq_val (booV true) (booV true))) rfl rfl ?_) | refine O_nil ?_ | refine A_seq ?_ | refine A_region ?_ | refine A_skip ?_ | refine A_ret ?_ | (show opsA _ _ _ _ _ _ _; first | (refine O_split rfl rfl (fun h => ?_) (fun h => ?_) <;> try (exfalso; omega)) | refine O_ev WideF.wide rfl (Ev_pure rfl) rfl rfl ?_ | (show opsA _ _ _ _ (⟨_, .load _ _, _, _, _, _⟩ :: _) _ _; first | refine O_ev WideF.wide rfl (Ev_loadB (i := 0) rfl rfl rfl) rfl rfl ?_ | refine O_ev WideF.wide rfl (Ev_loadB (i := 1) rfl rfl rfl) rfl rfl ?_) | (show opsA _ _ _ _ (⟨_, .unOp _ _ _, _, _, _, _⟩ :: _) _ _; refine O_ev WideF.wide rfl (Ev_notb rfl) rfl rfl ?_) | (show opsA _ _ _ _ (⟨_, .build _ _, _, _, _, _⟩ :: _) _ _; refine O_ev WideF.wide rfl (Ev_build (vs := [(_, _), (_, _)]) ⟨rfl, rfl, rfl, rfl, trivial⟩ rfl) rfl rfl ?_) | (show opsA _ _ _ _ (⟨_, .alloc _, _, _, _, _⟩ :: _) _ _; (refine O_ef rfl (Ef_alloc WideF.wide rfl ?_); intro b)) | (show opsA _ _ _ _ (⟨_, .store _ _ _, _, _, _, _⟩ :: _) _ _; first | refine O_ef rfl (Ef_storew WideF.wide rfl rfl rfl rfl rfl ?_) | refine O_ef rfl (Ef_store1 WideF.wide rfl rfl rfl rfl rfl ?_))) | (show wpA _ _ _ (.cond _ _ _) _ _ _ _; (refine A_if rfl (fun h => ?_) (fun h => ?_) <;> try (exfalso; omega))))
  all_goals first
    | (exfalso; omega)
    | (exfalso; contradiction)
    | (exfalso; exact absurd trivial (by assumption))
    | (exfalso; exact absurd rfl (by assumption))
    | exact End_e (Ret1 rfl rfl) ⟨rfl, rfl⟩
    | trace_state
set_option maxRecDepth 100000 in
set_option maxHeartbeats 4000000 in
theorem Operators_z {H : Hp} {a b : Int} (hV : VarsH H) (ha : -274877906944 ≤ a ∧ a ≤ 274877906944) (hb : -274877906944 ≤ b ∧ b ≤ 274877906944) (h0 : b = 0) : Fn Tryz.prog 6 [.int .i64 a, .int .i64 b] H [] fun v _ I => v = .bool true ∧ I = [] := by
  have kK := fun Hx (hx : HLe H Hx) => known_fn (hV.mono hx)
  have k1 := fun Hx bE bq (hx : HLe H Hx) (hc : HCells Hx bE 0 [.slice (some ⟨bq, 0, none⟩) 2 2]) (hr : HRow Hx (some ⟨bq, 0, none⟩) 2 2 4 ((oE a b).map bdrow)) => value_fn o1_valid (by decide) (hV.mono hx) (by decide) o1_prs o1_dot o1_chk o1_mass (o_env ha hb) (by decide) hc hr
  have k2 := fun Hx bE bq (hx : HLe H Hx) (hc : HCells Hx bE 0 [.slice (some ⟨bq, 0, none⟩) 2 2]) (hr : HRow Hx (some ⟨bq, 0, none⟩) 2 2 4 ((oE a b).map bdrow)) => value_fn o2_valid (by decide) (hV.mono hx) (by decide) o2_prs o2_dot o2_chk o2_mass (o_env ha hb) (by decide) hc hr
  rw [o1_evl ha hb] at k1
  rw [o2_evl ha hb, if_pos h0] at k2
  refine Fn_of _ _ Tryz.func6 rfl Tryz.ntmps6 rfl fun c => ?_
  repeat' (first | (refine O_ef rfl (Ef_call (I := []) WideF.wide (kK _ (HLe.refl _)) trivial rfl ?_); rintro v1 H1 I1 hle1 ⟨rfl, rfl⟩) | (refine O_ef rfl (Ef_buildF WideF.wide (xs := [_, _]) (vs := [.agg (bdrow ⟨[97], ⟨1, a, []⟩⟩).toArray, .agg (bdrow ⟨[98], ⟨1, b, []⟩⟩).toArray]) (css := (oE a b).map bdrow) rfl ⟨rfl, rfl, trivial⟩ rfl rfl rfl rfl rfl rfl (bdrow_one _) ?_); intro bq H2 hle2 hr2) | (show wpA _ _ _ (.region 4 _ _) _ _ _ _; refine A_freezeBox (cs := [.slice (some ⟨bq, 0, none⟩) 2 2]) (by intro u hu; simp at hu; subst hu; rfl) ?_; intro H3 hle3 hb3; refine A_region ?_) | (refine O_ev WideF.wide rfl (Ev_makeFunc (xs := []) (ys := [_]) (vs := []) (us := [_]) rfl rfl) rfl rfl ?_) | (show opsA _ _ _ _ (⟨some 40, .call _, _, _, _, _⟩ :: _) _ _; refine O_ef rfl (Ef_callc (I := []) (args := [_]) (caps := [_]) WideF.wide (k1 _ _ _ ((hle1.trans hle2).trans hle3) hb3 (hr2.mono hle3)) rfl ⟨rfl, trivial⟩ rfl ?_); rintro v4 H4 I4 hle4 ⟨rfl, rfl⟩) | (show opsA _ _ _ _ (⟨some 52, .call _, _, _, _, _⟩ :: _) _ _; refine O_ef rfl (Ef_callc (I := []) (args := [_]) (caps := [_]) WideF.wide (k2 _ _ _ (((hle1.trans hle2).trans hle3).trans hle4) (hb3.mono hle4) ((hr2.mono hle3).mono hle4)) rfl ⟨rfl, trivial⟩ rfl ?_); rintro v5 H5 I5 hle5 ⟨rfl, rfl⟩) | (refine O_ev WideF.wide rfl (Ev_neS rfl rfl Tryz.eqGuardType37 (eq_val (booV true) (booV true))) rfl rfl ?_) | refine O_nil ?_ | refine A_seq ?_ | refine A_region ?_ | refine A_skip ?_ | refine A_ret ?_ | (show opsA _ _ _ _ _ _ _; first | (refine O_split rfl rfl (fun h => ?_) (fun h => ?_) <;> try (exfalso; omega)) | refine O_ev WideF.wide rfl (Ev_pure rfl) rfl rfl ?_ | (show opsA _ _ _ _ (⟨_, .load _ _, _, _, _, _⟩ :: _) _ _; first | refine O_ev WideF.wide rfl (Ev_loadB (i := 0) rfl rfl rfl) rfl rfl ?_ | refine O_ev WideF.wide rfl (Ev_loadB (i := 1) rfl rfl rfl) rfl rfl ?_) | (show opsA _ _ _ _ (⟨_, .unOp _ _ _, _, _, _, _⟩ :: _) _ _; refine O_ev WideF.wide rfl (Ev_notb rfl) rfl rfl ?_) | (show opsA _ _ _ _ (⟨_, .build _ _, _, _, _, _⟩ :: _) _ _; refine O_ev WideF.wide rfl (Ev_build (vs := [(_, _), (_, _)]) ⟨rfl, rfl, rfl, rfl, trivial⟩ rfl) rfl rfl ?_) | (show opsA _ _ _ _ (⟨_, .alloc _, _, _, _, _⟩ :: _) _ _; (refine O_ef rfl (Ef_alloc WideF.wide rfl ?_); intro b)) | (show opsA _ _ _ _ (⟨_, .store _ _ _, _, _, _, _⟩ :: _) _ _; first | refine O_ef rfl (Ef_storew WideF.wide rfl rfl rfl rfl rfl ?_) | refine O_ef rfl (Ef_store1 WideF.wide rfl rfl rfl rfl rfl ?_))) | (show wpA _ _ _ (.cond _ _ _) _ _ _ _; (refine A_if rfl (fun h => ?_) (fun h => ?_) <;> try (exfalso; omega))))
  all_goals first
    | (exfalso; omega)
    | (exfalso; contradiction)
    | (exfalso; exact absurd trivial (by assumption))
    | (exfalso; exact absurd rfl (by assumption))
    | exact End_e (Ret1 rfl rfl) ⟨rfl, rfl⟩
    | trace_state
set_option maxRecDepth 100000 in
set_option maxHeartbeats 4000000 in
theorem Operators_out {H : Hp} {a b : Int} (hV : VarsH H) (h : ¬ (-274877906944 ≤ a ∧ a ≤ 274877906944 ∧ -274877906944 ≤ b ∧ b ≤ 274877906944)) : Fn Tryz.prog 6 [.int .i64 a, .int .i64 b] H [] fun v _ I => v = .bool true ∧ I = [] := by
  have kK := fun Hx (hx : HLe H Hx) => known_fn (hV.mono hx)
  refine Fn_of _ _ Tryz.func6 rfl Tryz.ntmps6 rfl fun c => ?_
  repeat' (first | (refine O_ef rfl (Ef_call (I := []) WideF.wide (kK _ (HLe.refl _)) trivial rfl ?_); rintro v1 H1 I1 hle1 ⟨rfl, rfl⟩) | (refine O_ef rfl (Ef_call (I := []) WideF.wide (kK _ hle1) trivial rfl ?_); rintro v2 H2 I2 hle2 ⟨rfl, rfl⟩) | refine O_nil ?_ | refine A_seq ?_ | refine A_region ?_ | refine A_ret ?_ | (show opsA _ _ _ _ _ _ _; first | (refine O_split rfl rfl (fun h => ?_) (fun h => ?_) <;> try (exfalso; omega)) | refine O_ev WideF.wide rfl (Ev_pure rfl) rfl rfl ?_ | (show opsA _ _ _ _ (⟨_, .unOp _ _ _, _, _, _, _⟩ :: _) _ _; refine O_ev WideF.wide rfl (Ev_notb rfl) rfl rfl ?_) | refine O_skip WideF.wide rfl rfl rfl ?_) | (show wpA _ _ _ (.cond _ _ _) _ _ _ _; first | (refine A_if rfl (fun h => ?_) (fun h => ?_) <;> try (exfalso; omega)) | refine A_iftrue rfl ?_))
  all_goals first
    | (exfalso; omega)
    | (exfalso; contradiction)
    | (exfalso; exact absurd trivial (by assumption))
    | (exfalso; exact absurd rfl (by assumption))
    | exact End_e (Ret1 rfl rfl) ⟨rfl, rfl⟩
    | trace_state
theorem FormulaOperators_fn {H : Hp} {a b : Int} (hV : VarsH H) : Fn Tryz.prog 6 [.int .i64 a, .int .i64 b] H [] fun v _ I => v = .bool true ∧ I = [] := by
  by_cases h : -274877906944 ≤ a ∧ a ≤ 274877906944 ∧ -274877906944 ≤ b ∧ b ≤ 274877906944
  · by_cases h0 : b = 0
    · exact Operators_z hV ⟨h.1, h.2.1⟩ h.2.2 h0
    · exact Operators_in0 hV ⟨h.1, h.2.1⟩ h.2.2 h0
  · exact Operators_out hV h
end Go.Proofs.YtnoadopmeoohmaaGreatDoor
