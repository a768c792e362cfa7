/-
  RevisionFull.
-/
import Derived.Test.YtlcoebomgaodgaaQ14
namespace Go.Proofs.Ytlcoebomgaodgaa
open Go
set_option linter.unusedVariables false
set_option linter.unusedSimpArgs false
/-- the full table -/
def fullL (f g : Int) (k : Nat) : List Rev := (List.range k).map fun (i : Nat) => ⟨1 + f + (i : Int) * (1 + g), [65], (i : Int)⟩
def moreR (f g : Int) : Rev := ⟨1 + f + 255 * (1 + g) + 1, [66], 0⟩
theorem fullL_len (f g : Int) (k : Nat) : (fullL f g k).length = k := by simp [fullL]
theorem fullL_snoc (f g : Int) (k : Nat) : fullL f g (k + 1) = fullL f g k ++ [⟨1 + f + (k : Int) * (1 + g), [65], k⟩] := by
  unfold fullL; rw [List.range_succ, List.map_append]; rfl
theorem fullL_get {f g : Int} {k i : Nat} (h : i < k) : (fullL f g k)[i]? = some ⟨1 + f + (i : Int) * (1 + g), [65], i⟩ := by
  unfold fullL
  rw [List.getElem?_map, List.getElem?_range h]; rfl
theorem fullL_mem {f g : Int} {k : Nat} {r : Rev} (h : r ∈ fullL f g k) : ∃ i : Nat, i < k ∧ r = ⟨1 + f + (i : Int) * (1 + g), [65], i⟩ := by
  unfold fullL at h
  obtain ⟨i, hi, rfl⟩ := List.mem_map.1 h
  exact ⟨i, List.mem_range.1 hi, rfl⟩
theorem mul_step {g : Int} {i j : Nat} (hg : 0 ≤ g) (h : i < j) : (i : Int) * (1 + g) + 1 ≤ (j : Int) * (1 + g) := by
  have h1 : ((i : Int) + 1) * (1 + g) ≤ (j : Int) * (1 + g) := Int.mul_le_mul_of_nonneg_right (by omega) (by omega)
  rw [Int.add_mul] at h1
  omega
theorem mul_bnd {g : Int} {i : Nat} (hg : 0 ≤ g ∧ g < 256) (h : i ≤ 256) : 0 ≤ (i : Int) * (1 + g) ∧ (i : Int) * (1 + g) ≤ 65536 := by
  have h1 : (i : Int) * (1 + g) ≤ 256 * 256 := Int.mul_le_mul (by omega) (by omega) (by omega) (by omega)
  have h2 : 0 ≤ (i : Int) * (1 + g) := Int.mul_nonneg (by omega) (by omega)
  omega
theorem fullL_inc {f g : Int} (hg : 0 ≤ g) (k : Nat) : Inc ((fullL f g k).map Rev.id) := by
  induction k with
  | zero => simp [fullL, Inc]
  | succ k ih =>
    rw [fullL_snoc, List.map_append]
    refine List.pairwise_append.2 ⟨ih, by simp, ?_⟩
    intro x hx y hy
    obtain ⟨r, hr, rfl⟩ := List.mem_map.1 hx
    obtain ⟨i, hi, rfl⟩ := fullL_mem hr
    simp only [List.map_cons, List.map_nil, List.mem_singleton] at hy
    subst hy
    have := mul_step hg hi
    show 1 + f + (i : Int) * (1 + g) < 1 + f + (k : Int) * (1 + g)
    omega
theorem chkRev_of {r : Rev} {a : UInt8} (h1 : 1 ≤ r.id ∧ r.id ≤ 1073741824) (h2 : r.author = [a]) (ha : valid [a]) (h3 : 0 ≤ r.time ∧ r.time ≤ 1099511627776) : chkRev r = 0 := by
  unfold chkRev
  rw [if_neg (by omega), if_neg (by rw [h2]; simp), if_neg (by rw [h2]; simp), if_neg (by rw [h2]; exact fun h => h ha), if_neg (by omega)]
theorem valid_65 : valid [65] := valid_ascii _ (by decide)
theorem valid_66 : valid [66] := valid_ascii _ (by decide)
theorem fullL_ok {f g : Int} (hf : 0 ≤ f ∧ f < 65536) (hg : 0 ≤ g ∧ g < 256) {k : Nat} (hk : k ≤ 256) : chk (fullL f g k) = 0 := by
  refine chk_zero.2 ⟨by rw [fullL_len]; exact hk, fun r hr => ?_, fullL_inc hg.1 k⟩
  obtain ⟨i, hi, rfl⟩ := fullL_mem hr
  have := mul_bnd (i := i) hg (by omega)
  exact chkRev_of (a := 65) ⟨by dsimp only; omega, by dsimp only; omega⟩ rfl valid_65 ⟨by dsimp only; omega, by dsimp only; omega⟩
theorem more_ok {f g : Int} (hf : 0 ≤ f ∧ f < 65536) (hg : 0 ≤ g ∧ g < 256) : chkRev (moreR f g) = 0 :=
  chkRev_of (a := 66) (by unfold moreR; dsimp only; omega) rfl valid_66 (by unfold moreR; dsimp only; omega)
theorem more_lt {f g : Int} (hg : 0 ≤ g) : ∀ x ∈ (fullL f g 256).map Rev.id, x < (moreR f g).id := by
  intro x hx
  obtain ⟨r, hr, rfl⟩ := List.mem_map.1 hx
  obtain ⟨i, hi, rfl⟩ := fullL_mem hr
  unfold moreR
  dsimp only
  by_cases h : i = 255
  · subst h; omega
  · have := mul_step (g := g) (i := i) (j := 255) hg (by omega)
    omega
theorem more_no {f g : Int} (hg : 0 ≤ g) : (moreR f g).id ∉ (fullL f g 256).map Rev.id := fun h => by have := more_lt hg _ h; omega
theorem full_addE {f g : Int} (hf : 0 ≤ f ∧ f < 65536) (hg : 0 ≤ g ∧ g < 256) : addE (fullL f g 256) (moreR f g) = 9 := by
  unfold addE
  rw [fullL_ok hf hg (Nat.le_refl _), more_ok hf hg, fullL_len, if_neg (by decide), if_neg (by decide), if_neg (more_no hg.1), if_pos (by decide)]
theorem full_add {f g : Int} (hf : 0 ≤ f ∧ f < 65536) (hg : 0 ≤ g ∧ g < 256) : addL (fullL f g 256) (moreR f g) = [] := by
  unfold addL; rw [full_addE hf hg]; rfl
theorem more_chk {f g : Int} (hf : 0 ≤ f ∧ f < 65536) (hg : 0 ≤ g ∧ g < 256) : chk [moreR f g] = 0 :=
  chk_zero.2 ⟨by simp, fun r hr => by rw [List.mem_singleton.1 hr]; exact more_ok hf hg, by simp [Inc]⟩
theorem full_merge1 {f g : Int} (hf : 0 ≤ f ∧ f < 65536) (hg : 0 ≤ g ∧ g < 256) {out : List Rev} {e : Int} (h : MergeR (fullL f g 256) [moreR f g] out e) : e = 9 ∧ out = [] := by
  have h1 := fullL_ok hf hg (Nat.le_refl _)
  have h2 := more_chk hf hg
  rcases h with ⟨h, _⟩ | ⟨_, h, _⟩ | ⟨_, _, h, _⟩ | ⟨_, _, w, hw, h⟩
  · exact absurd h1 h
  · exact absurd h2 h
  · obtain ⟨x, hx, y, hy, he, hn⟩ := h
    rw [List.mem_singleton.1 hy] at he
    exact absurd (List.mem_map.2 ⟨x, hx, he⟩) (more_no hg.1)
  · have hm := hw.mem
    rw [List.take_length] at hm
    have he : w = fullL f g 256 ++ [moreR f g] := revs_ext hw.inc (by
      rw [List.map_append]
      exact List.pairwise_append.2 ⟨fullL_inc hg.1 _, by simp, fun x hx y hy => by simp only [List.map_cons, List.map_nil, List.mem_singleton] at hy; subst hy; exact more_lt hg.1 x hx⟩) fun r => by rw [hm, List.mem_append]
    rcases h with ⟨_, h3, h4⟩ | ⟨h, _⟩
    · exact ⟨h3, h4⟩
    · rw [he, List.length_append, fullL_len] at h
      simp at h
theorem full_merge2 {f g : Int} (hf : 0 ≤ f ∧ f < 65536) (hg : 0 ≤ g ∧ g < 256) {out : List Rev} {e : Int} (h : MergeR (fullL f g 256) ((fullL f g 256).take 10) out e) : e = 0 ∧ out = fullL f g 256 := by
  have h1 := fullL_ok hf hg (Nat.le_refl _)
  have hz := chk_zero.1 h1
  have h2 : chk ((fullL f g 256).take 10) = 0 := chk_zero.2 ⟨by rw [List.length_take, fullL_len]; decide, fun r hr => hz.2.1 r (List.mem_of_mem_take hr), by rw [List.map_take]; exact List.Pairwise.sublist (List.take_sublist _ _) hz.2.2⟩
  rcases h with ⟨h, _⟩ | ⟨_, h, _⟩ | ⟨_, _, h, _⟩ | ⟨_, _, w, hw, h⟩
  · exact absurd h1 h
  · exact absurd h2 h
  · obtain ⟨x, hx, y, hy, he, hn⟩ := h
    exact absurd (inc_uniq hz.2.2 hx (List.mem_of_mem_take hy) he) hn
  · have hm := hw.mem
    rw [List.take_length] at hm
    have he : w = fullL f g 256 := revs_ext hw.inc hz.2.2 fun r => by
      rw [hm]
      exact ⟨fun h => h.elim id List.mem_of_mem_take, .inl⟩
    rcases h with ⟨h, _⟩ | ⟨_, h3, h4⟩
    · rw [he, fullL_len] at h; simp at h
    · exact ⟨h3, by rw [h4, he]⟩
theorem full_long {f g : Int} : chk (fullL f g 256 ++ [moreR f g]) = 9 := by
  unfold chk
  rw [if_pos (by rw [List.length_append, fullL_len]; simp)]
attribute [local irreducible] wpA opsA drJ drQ drE Ef Ev Shift Fn
set_option maxRecDepth 100000 in
set_option maxHeartbeats 2000000 in
theorem RevisionFull_fn {H : Hp} {n0 n1 : Int} (hf : 0 ≤ n0 ∧ n0 < 65536) (hg : 0 ≤ n1 ∧ n1 < 256) :
    Fn Try.prog 7 [.int .u16 n0, .int .u8 n1] H [] fun v _ I => v = .bool true ∧ I = [] := by
  refine Fn_of _ _ Try.func7 rfl Try.ntmps7 rfl fun c => ?_
  refine A_nilrow 3 ?_
  repeat' (first | refine O_nil ?_ | refine A_seq ?_ | refine A_region ?_ | refine A_block ?_ | (show opsA _ _ _ _ _ _ _; refine O_ev WideF.wide rfl (Ev_pure rfl) rfl rfl ?_))
  refine A_loopu (fun m st => ∃ (i : Nat) (b : Option Addr) (q c' : Nat) (p : List (List Value)), m = 256 - i ∧ i ≤ 256 ∧ p.length = q ∧ q = i ∧ p = (fullL n0 n1 i).map rrow ∧ st = ⟨94, [(0, .int .u16 n0), (1, .int .u8 n1), (5, .slice b q c'), (6, .int .i64 (i : Int))], H, [.row (.slice b q c') 3 p], [], []⟩) ?_ ?_
  · exact Shift.to ⟨_, 0, none, 0, 0, [], rfl, by omega, rfl, rfl, rfl, rfl⟩ ⟨rfl, rfl, rfl, ⟨rfl, rfl, rfl, rfl, trivial⟩, Own.subi [0] (by decide) rfl rfl⟩
  rintro m st ⟨i, b, q, c', p, rfl, hi, hpn, hqi, hp, rfl⟩
  have hmb := mul_bnd (i := i) hg hi
  by_cases hlt : i < 256
  · have hsn := fullL_snoc n0 n1 i
    repeat' (first | (refine O_ev WideF.wide rfl (Ev_conv (k2 := .i64) rfl (wi64 (by omega))) rfl rfl ?_) | refine O_nil ?_ | refine A_seq ?_ | refine A_region ?_ | refine A_skip ?_ | refine A_block ?_ | (show opsA _ _ _ _ _ _ _; first | refine O_ev WideF.wide rfl (Ev_pure rfl) rfl rfl ?_ | (show opsA _ _ _ _ (⟨_, .call _, _, _, _, _⟩ :: _) _ _; (refine O_f1 (O_ef rfl (Ef_appendR WideF.wide rfl rfl rfl rfl rfl (by simp; omega) (by simp; omega) rfl ?_)); intro a cp)) | (show opsA _ _ _ _ (⟨_, .buildSlice _ _ _, _, _, _, _⟩ :: _) _ _; (refine O_ef rfl (Ef_build1a WideF.wide rfl rfl rfl rfl rfl ?_); intro b)) | (show opsA _ _ _ _ (⟨_, .binOp _ _ _ _ _, _, _, _, _⟩ :: _) _ _; first | refine O_ev WideF.wide rfl (Ev_add rfl rfl (wi64 (by omega))) rfl rfl ?_ | refine O_ev WideF.wide rfl (Ev_mul rfl rfl (wi64 (by omega))) rfl rfl ?_) | (show opsA _ _ _ _ (⟨_, .build _ _, _, _, _, _⟩ :: _) _ _; refine O_ev WideF.wide rfl (Ev_build (vs := [(_, _), (_, _), (_, _)]) ⟨rfl, rfl, rfl, rfl, rfl, rfl, trivial⟩ rfl) rfl rfl ?_)) | (show wpA _ _ _ (.cond _ _ _) _ _ _ _; (refine A_if rfl (fun h => ?_) (fun h => ?_) <;> try (exfalso; omega))))
    all_goals first
      | (exfalso; omega)
      | (refine Shift.to ⟨_, ?_, i + 1, _, _, _, _, rfl, by omega, rfl, ?_, ?_, rfl⟩ ⟨rfl, rfl, rfl, ⟨rfl, rfl, rfl, rfl, trivial⟩, Own.subi [0] (by decide) rfl rfl⟩
         · omega
         · simp; omega
         · rw [hsn, hp, List.map_append]; rfl)
  · obtain rfl : i = 256 := by omega
    subst hqi
    refine A_freeze (css := p) (by rw [hp]; exact rrow_one _) ?_
    intro H1 hle1 rr
    have r1 : HRow H1 b 256 c' 3 ((fullL n0 n1 256).map rrow) := rr.cong hp.symm
    clear rr hp hpn
    obtain ⟨bb, o, y, rfl, hy, hc⟩ := r1.atm 255 (by omega)
    rw [fullL_get (by omega)] at hy
    cases hy
    replace hc : HCells H1 bb (o + 255 * 3) [.int .i64 (1 + n0 + 255 * (1 + n1)), sv [65], .int .i64 255] := hc
    have hcap := r1.cap
    have hadd := Add_fn (r := moreR n0 n1) r1
    rw [full_addE hf hg, full_add hf hg] at hadd
    have hck := Check_fn r1
    rw [fullL_ok hf hg (Nat.le_refl _)] at hck
    have hm1 := fun Hx (hl : HLe H1 Hx) b' (hb : HRow Hx (some ⟨b', 0, none⟩) 1 1 3 ([moreR n0 n1].map rrow)) => Merge_fn (r1.mono hl) hb
    have hm2 := fun Hx (hl : HLe H1 Hx) => Merge_fn (r1.mono hl) (((r1.mono hl).upto (j := 10) (by omega)).cong (css' := ((fullL n0 n1 256).take 10).map rrow) List.map_take)
    repeat' (first | (refine O_ev WideF.wide rfl (Ev_loadH1 rfl (hc 0 _ rfl)) rfl rfl ?_) | (refine O_ef rfl (Ef_call (I := []) WideF.wide hadd ⟨rfl, rfl, trivial⟩ rfl ?_); rintro v H2 I2 hle2 ⟨⟨a2, n2, c2, rfl, r2⟩, rfl⟩) | (refine O_freeze (css := [rrow (moreR n0 n1)]) (rrow_one [moreR n0 n1]) ?_; intro H3 hle3 r3; refine O_ef rfl (Ef_call (I := []) WideF.wide (hm1 _ (hle2.trans hle3) _ r3) ⟨rfl, rfl, trivial⟩ rfl ?_); rintro v H4 I4 hle4 ⟨out, e, hR, ⟨a4, n4, c4, rfl, r4⟩, rfl⟩; obtain ⟨rfl, rfl⟩ := full_merge1 hf hg hR) | (refine O_ev WideF.wide rfl (Ev_lsliceh rfl rfl (by omega) (by omega)) rfl rfl ?_) | (refine O_ef rfl (Ef_call (I := []) WideF.wide (hm2 _ ((hle2.trans hle3).trans hle4)) ⟨rfl, rfl, trivial⟩ rfl ?_); rintro v H5 I5 hle5 ⟨out, e, hR, ⟨a5, n5, c5, rfl, r5⟩, rfl⟩; obtain ⟨rfl, rfl⟩ := full_merge2 hf hg hR) | refine O_nil ?_ | refine A_seq ?_ | refine A_region ?_ | (show opsA _ _ _ _ _ _ _; first | refine O_ev WideF.wide rfl (Ev_pure rfl) rfl rfl ?_ | (show opsA _ _ _ _ (⟨_, .load _ _, _, _, _, _⟩ :: _) _ _; refine O_ev WideF.wide rfl (Ev_loadB (i := 0) rfl rfl rfl) rfl rfl ?_) | (show opsA _ _ _ _ (⟨_, .indexAddr _ _ _, _, _, _, _⟩ :: _) _ _; refine O_ev WideF.wide rfl (Ev_indexAddr rfl rfl (by omega) (by omega)) rfl rfl ?_) | (show opsA _ _ _ _ (⟨_, .fieldAddr _ _ _, _, _, _, _⟩ :: _) _ _; refine O_ev WideF.wide rfl (Ev_fieldAddr rfl rfl rfl) rfl rfl ?_) | (show opsA _ _ _ _ (⟨_, .call _, _, _, _, _⟩ :: _) _ _; refine O_ev WideF.wide rfl (Ev_llen rfl) rfl rfl ?_) | (show opsA _ _ _ _ (⟨_, .buildSlice _ _ _, _, _, _, _⟩ :: _) _ _; (refine O_ef rfl (Ef_build1a WideF.wide rfl rfl rfl rfl rfl ?_); intro b)) | (show opsA _ _ _ _ (⟨_, .binOp _ _ _ _ _, _, _, _, _⟩ :: _) _ _; first | refine O_ev WideF.wide rfl (Ev_add rfl rfl (wi64 (by omega))) rfl rfl ?_ | refine O_ev WideF.wide rfl (Ev_sub rfl rfl (wi64 (by omega))) rfl rfl ?_) | (show opsA _ _ _ _ (⟨_, .build _ _, _, _, _, _⟩ :: _) _ _; refine O_ev WideF.wide rfl (Ev_build (vs := [(_, _), (_, _)]) ⟨rfl, rfl, rfl, rfl, trivial⟩ rfl) rfl rfl ?_) | (show opsA _ _ _ _ (⟨_, .alloc _, _, _, _, _⟩ :: _) _ _; (refine O_ef rfl (Ef_alloc WideF.wide rfl ?_); intro b)) | (show opsA _ _ _ _ (⟨_, .store _ _ _, _, _, _, _⟩ :: _) _ _; refine O_ef rfl (Ef_storew WideF.wide rfl rfl rfl rfl rfl ?_))) | (show wpA _ _ _ (.exit _) _ _ _ _; refine A_exit rfl ?_) | (show wpA _ _ _ (.cond _ _ _) _ _ _ _; (refine A_if rfl (fun h => ?_) (fun h => ?_) <;> try (exfalso; omega))))
    have l5 := ((hle2.trans hle3).trans hle4).trans hle5
    have hck := fun Hx (hl : HLe H5 Hx) => Check_fn (r1.mono (l5.trans hl))
    rw [fullL_ok hf hg (Nat.le_refl _)] at hck
    have n5e : n5 = 256 := by have h9 := r5.len; rw [List.length_map, fullL_len] at h9; exact h9.symm
    subst n5e
    have hsm := fun Hx (hl : HLe H5 Hx) => sameRevs_self (r5.mono hl) (r1.mono (l5.trans hl)) (by omega)
    have happ := fun Hx (hl : HLe H5 Hx) => r1.mono (l5.trans hl)
    have hfl : ((fullL n0 n1 256).map rrow).length = 256 := by rw [List.length_map, fullL_len]
    have hbor := fun Hx a c => Fn.borrow (H := Hx) (a := a) (n := ((fullL n0 n1 256).map rrow ++ [rrow (moreR n0 n1)]).length) (c := c) (k := 3) (css := (fullL n0 n1 256).map rrow ++ [rrow (moreR n0 n1)]) (by have := rrow_one (fullL n0 n1 256 ++ [moreR n0 n1]); rwa [List.map_append] at this) (fun H1 _ hr => (Check_fn (l := fullL n0 n1 256 ++ [moreR n0 n1]) (hr.cong (by rw [List.map_append]; rfl))).mono fun v H' I' ⟨h, _, h2⟩ => ⟨h, h2⟩)
    rw [full_long] at hbor
    generalize (fullL n0 n1 256).map rrow = F at happ hfl hbor
    repeat' (first | (refine A_drawL WideF.wide (.e 0 (.q 1 (.q 2 (.e 3 (.q 4 (.q 5 (.q 6 (.q 7 (.q 8 (.q 9 (.q 10 (.q 11 (.q 12 (.q 13 (.q 14 (.q 15 (.q 16 (.q 17 (.q 18 (.q 19 (.q 20 (.e 21 (.q 22 (.q 23 (.q 25 (.q 27 (.f 24 (.f 26 (.e 28 (.e 29 (.e 30 (.q 31 (.q 32 (.q 33 (.done []))))))) 28 (.e 26 (.e 29 (.e 30 (.q 31 (.q 32 (.q 33 (.done [])))))))) 28 (.e 24 (.e 26 (.e 29 (.e 30 (.q 31 (.q 32 (.q 33 (.done []))))))))))))))))))))))))))))))))))) [] (by decide +kernel) ?_) | (refine E_ef rfl (Ef_call (I := []) WideF.wide known_fn trivial rfl ?_); rintro v H6 I6 hle6 ⟨rfl, rfl⟩; refine ⟨⟨hle6, rfl⟩, ?_⟩) | (refine E_ef rfl (Ef_callp WideF.wide (hck _ hle6) ⟨rfl, trivial⟩ rfl ?_); refine ⟨Grow.same rfl rfl, ?_⟩) | (refine E_ef rfl (Ef_callp WideF.wide (hsm _ hle6) ⟨rfl, rfl, trivial⟩ rfl ?_); refine ⟨Grow.same rfl rfl, ?_⟩) | (refine E_ef rfl (Ef_build0 WideF.wide rfl ?_); intro bz; refine ⟨Grow.same rfl rfl, ?_⟩) | (refine E_ef rfl (Ef_appendH WideF.wide rfl rfl (happ _ hle6) rfl rfl (by decide) (by decide) rfl ?_); intro a4 c4; refine ⟨Grow.same rfl rfl, ?_⟩) | (refine E_ef rfl (Ef_f1 (Ef_appendH WideF.wide rfl rfl (happ _ hle6) rfl rfl (by decide) (by decide) rfl ?_)); intro a4 c4; refine ⟨Grow.same rfl rfl, ?_⟩) | (refine E_ef rfl (Ef_appendR WideF.wide rfl rfl rfl rfl rfl (by simp; omega) (by simp; omega) rfl ?_); intro a5 c5; refine ⟨Grow.same rfl rfl, ?_⟩) | (refine E_ef rfl (Ef_call (I := [_]) WideF.wide (hbor _ _ _) ⟨rfl, trivial⟩ rfl ?_); rintro v H7 I7 hle7 ⟨rfl, rfl, rfl⟩; refine ⟨Grow.same rfl rfl, ?_⟩) | refine O_nil ?_ | refine A_ret ?_ | (show drJ _ _ _ _ _ _ _ (.q _ _) _; refine D_q rfl ?_) | (show drJ _ _ _ _ _ _ _ (.e _ _) _; refine D_e rfl ?_) | (show drJ _ _ _ _ _ _ _ (.f _ _ _ _) _; refine D_f rfl rfl ?_ ?_) | (show drJ _ _ _ _ _ _ _ (.done _) _; refine D_done ?_; simp only [List.cons_append, List.nil_append]) | (show drQ _ _ _ _ _ _; first | (refine D_split rfl rfl (fun h => ?_) (fun h => ?_) <;> try (exfalso; omega)) | refine D_ev rfl (Ev_pure rfl) rfl rfl ?_ | (show drQ _ _ _ ⟨_, .load _ _, _, _, _, _⟩ _ _; refine D_ev rfl (Ev_loadB (i := 0) rfl rfl rfl) rfl rfl ?_)) | (show drE _ _ _ _ _ _ _; first | (show drE _ _ _ _ ⟨_, .call _, _, _, _, _⟩ _ _; (refine E_ef rfl (Ef_f1 (Ef_appendR WideF.wide rfl rfl rfl rfl rfl (by simp; omega) (by simp; omega) rfl ?_)); intro a cp; refine ⟨Grow.same rfl rfl, ?_⟩)) | (show drE _ _ _ _ ⟨_, .buildSlice _ _ _, _, _, _, _⟩ _ _; (refine E_ef rfl (Ef_build1a WideF.wide rfl rfl rfl rfl rfl ?_); intro b; refine ⟨Grow.same rfl rfl, ?_⟩))))
    all_goals exact End_e (Ret1 rfl rfl) ⟨rfl, rfl⟩
end Go.Proofs.Ytlcoebomgaodgaa
