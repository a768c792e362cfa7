/-
  mark.Revs, Uses, Layers, Base; the law's revs and sameInts.
-/
import Derived.Test.YthniohgeojenaaaS2
import Derived.Test.YthniohgeojenaaaM14
namespace Go.Proofs.Ythniohgeojenaaa
open Go
set_option linter.unusedVariables false
set_option linter.unusedSimpArgs false
def revs0 (q : Head) : List Int := if q.ins = 0 then [] else [q.ins]
def revsL (q : Head) : List Int := revs0 q ++ q.dels.map Dele.rev ++ q.layers.map Layr.rev
theorem revs0_len (q : Head) : (revs0 q).length ≤ 1 := by unfold revs0; split <;> simp
attribute [local irreducible] wpA opsA drJ drQ drE Ef Ev Shift Fn
set_option maxRecDepth 100000 in
set_option maxHeartbeats 4000000 in
theorem Revs_fn {H : Hp} {hcs : List Value} {q : Head} (hh : HeadH H hcs q) (hl : q.mass < 1048576) : Fn Try.prog 39 [.agg hcs.toArray] H [] (IntsIs (sortI (revsL q))) := by
  obtain ⟨pa, pn, pc, da, dn, dc, la, ln, lc, rfl, h1, h2, h3⟩ := hh.ex
  have l2 := h2.len
  have l3 := h3.len
  simp only [List.length_map] at l2 l3
  unfold Head.mass at hl
  have hr0 := revs0_len q
  refine Fn_of _ _ Try.func39 rfl Try.ntmps39 rfl fun c => ?_
  refine A_seq ?_
  refine A_cutu (fun s => ∃ b1, s = ⟨49, [(1, ptr b1)], H, [.box b1 [.slice pa pn pc, .int .i64 q.ins, .int .i64 q.move, .slice da dn dc, .slice la ln lc]], [], []⟩) ?_ ?_
  · repeat' (first | refine O_nil ?_ | refine A_region ?_ | (show opsA _ _ _ _ _ _ _; first | refine O_ev WideF.wide rfl (Ev_pure rfl) rfl rfl ?_ | (show opsA _ _ _ _ (⟨_, .box _ _, _, _, _, _⟩ :: _) _ _; (refine O_ef rfl (Ef_boxa WideF.wide rfl rfl ?_); intro b))))
    exact Shift.to ⟨_, rfl⟩ ⟨rfl, rfl, rfl, ⟨rfl, trivial⟩, Own.subi [0] (by decide) rfl rfl⟩
  rintro s ⟨b1, rfl⟩
  refine A_nilrow 1 ?_
  refine A_seq ?_
  refine A_cutu (fun s => s = ⟨49, [(3, .slice none 0 0), (1, ptr b1)], H, [.row (.slice none 0 0) 1 [], .box b1 [.slice pa pn pc, .int .i64 q.ins, .int .i64 q.move, .slice da dn dc, .slice la ln lc]], [], []⟩) ?_ ?_
  · repeat' (first | refine O_nil ?_ | refine A_region ?_ | (show opsA _ _ _ _ _ _ _; refine O_ev WideF.wide rfl (Ev_pure rfl) rfl rfl ?_))
    exact Shift.to rfl ⟨rfl, rfl, rfl, ⟨rfl, rfl, trivial⟩, Own.subi [0, 1] (by decide) rfl rfl⟩
  rintro s rfl
  refine A_seq ?_
  refine A_cutu (fun s => ∃ (a : Option Addr) (n c : Nat) (p : List (List Value)), p = (revs0 q).map irow ∧ p.length = n ∧ s = ⟨49, [(3, .slice a n c), (1, ptr b1)], H, [.row (.slice a n c) 1 p, .box b1 [.slice pa pn pc, .int .i64 q.ins, .int .i64 q.move, .slice da dn dc, .slice la ln lc]], [], []⟩) ?_ ?_
  · by_cases hi : q.ins = 0
    · have e : revs0 q = [] := by unfold revs0; rw [if_pos hi]
      rw [e]
      repeat' (first | refine O_nil ?_ | refine A_seq ?_ | refine A_region ?_ | refine A_skip ?_ | (show opsA _ _ _ _ _ _ _; first | refine O_ev WideF.wide rfl (Ev_pure rfl) rfl rfl ?_ | (show opsA _ _ _ _ (⟨_, .load _ _, _, _, _, _⟩ :: _) _ _; refine O_ev WideF.wide rfl (Ev_loadB1 (i := 1) rfl rfl rfl) rfl rfl ?_) | (show opsA _ _ _ _ (⟨_, .fieldAddr _ _ _, _, _, _, _⟩ :: _) _ _; refine O_ev WideF.wide rfl (Ev_fieldAddr rfl rfl rfl) rfl rfl ?_)) | (show wpA _ _ _ (.cond _ _ _) _ _ _ _; (refine A_if rfl (fun h => ?_) (fun h => ?_) <;> try (exfalso; omega))))
      exact Shift.to ⟨_, _, _, [], rfl, rfl, rfl⟩ ⟨rfl, rfl, rfl, ⟨rfl, rfl, trivial⟩, Own.subi [0, 1] (by decide) rfl rfl⟩
    · have e : revs0 q = [q.ins] := by unfold revs0; rw [if_neg hi]
      rw [e]
      repeat' (first | (refine O_f1 (O_ef rfl (Ef_appendR WideF.wide rfl rfl rfl rfl rfl (by simp) (by simp) rfl ?_)); intro a cp) | refine O_nil ?_ | refine A_seq ?_ | refine A_region ?_ | (show opsA _ _ _ _ _ _ _; first | refine O_ev WideF.wide rfl (Ev_pure rfl) rfl rfl ?_ | (show opsA _ _ _ _ (⟨_, .load _ _, _, _, _, _⟩ :: _) _ _; refine O_ev WideF.wide rfl (Ev_loadB1 (i := 1) rfl rfl rfl) rfl rfl ?_) | (show opsA _ _ _ _ (⟨_, .fieldAddr _ _ _, _, _, _, _⟩ :: _) _ _; refine O_ev WideF.wide rfl (Ev_fieldAddr rfl rfl rfl) rfl rfl ?_) | (show opsA _ _ _ _ (⟨_, .buildSlice _ _ _, _, _, _, _⟩ :: _) _ _; (refine O_ef rfl (Ef_build11 WideF.wide rfl rfl rfl ?_); intro b))) | (show wpA _ _ _ (.cond _ _ _) _ _ _ _; (refine A_if rfl (fun h => ?_) (fun h => ?_) <;> try (exfalso; omega))))
      exact Shift.to ⟨_, _, _, _, rfl, rfl, rfl⟩ ⟨rfl, rfl, rfl, ⟨rfl, rfl, trivial⟩, Own.subi [0, 1] (by decide) rfl rfl⟩
  rintro s ⟨a, n, cq, p, hp, hpn, rfl⟩
  refine A_seq ?_
  refine A_cutu (fun s => ∃ (a : Option Addr) (n c : Nat) (p : List (List Value)), p = (revs0 q ++ q.dels.map Dele.rev).map irow ∧ p.length = n ∧ s = ⟨49, [(3, .slice a n c), (1, ptr b1)], H, [.row (.slice a n c) 1 p, .box b1 [.slice pa pn pc, .int .i64 q.ins, .int .i64 q.move, .slice da dn dc, .slice la ln lc]], [], []⟩) ?_ ?_
  · repeat' (first | refine O_nil ?_ | refine A_seq ?_ | refine A_region ?_ | refine A_block ?_ | (show opsA _ _ _ _ _ _ _; first | refine O_ev WideF.wide rfl (Ev_pure rfl) rfl rfl ?_ | (show opsA _ _ _ _ (⟨_, .load _ _, _, _, _, _⟩ :: _) _ _; refine O_ev WideF.wide rfl (Ev_loadB1 (i := 1) rfl rfl rfl) rfl rfl ?_) | (show opsA _ _ _ _ (⟨_, .fieldAddr _ _ _, _, _, _, _⟩ :: _) _ _; refine O_ev WideF.wide rfl (Ev_fieldAddr rfl rfl rfl) rfl rfl ?_) | (show opsA _ _ _ _ (⟨_, .call _, _, _, _, _⟩ :: _) _ _; refine O_ev WideF.wide rfl (Ev_llen rfl) rfl rfl ?_)))
    refine A_loopu (fun m s => ∃ (i : Nat) (a : Option Addr) (n c : Nat) (p : List (List Value)), m = dn - i ∧ i ≤ dn ∧ p = (revs0 q ++ (q.dels.take i).map Dele.rev).map irow ∧ p.length = n ∧ s = ⟨49, [(20, .slice da dn dc), (21, .int .i64 dn), (22, .int .i64 i), (3, .slice a n c), (1, ptr b1)], H, [.row (.slice a n c) 1 p, .box b1 [.slice pa pn pc, .int .i64 q.ins, .int .i64 q.move, .slice da dn dc, .slice la ln lc]], [], []⟩) ?_ ?_
    · exact Shift.to ⟨_, 0, _, _, _, _, rfl, by omega, by rw [hp]; simp, hpn, rfl⟩ ⟨rfl, rfl, rfl, ⟨rfl, rfl, rfl, rfl, rfl, trivial⟩, Own.subi [0, 1] (by decide) rfl rfl⟩
    · clear hp hpn p a n
      rintro m s ⟨i, a, n, cq, p, rfl, hi, hp, hpn, rfl⟩
      have hpl : p.length ≤ 1 + i := by rw [hp]; simp; omega
      by_cases hlt : i < dn
      · obtain ⟨b', o, y, rfl, hyi, hc⟩ := h2.atm i hlt
        unfold drow at hc
        repeat' (first | (refine O_ev WideF.wide rfl (Ev_loadH rfl hc rfl) rfl rfl ?_) | refine O_nil ?_ | refine A_seq ?_ | refine A_region ?_ | refine A_skip ?_ | refine A_block ?_ | (show opsA _ _ _ _ _ _ _; first | refine O_ev WideF.wide rfl (Ev_pure rfl) rfl rfl ?_ | (show opsA _ _ _ _ (⟨_, .load _ _, _, _, _, _⟩ :: _) _ _; refine O_ev WideF.wide rfl (Ev_loadB1 (i := 0) rfl rfl rfl) rfl rfl ?_) | (show opsA _ _ _ _ (⟨_, .indexAddr _ _ _, _, _, _, _⟩ :: _) _ _; refine O_ev WideF.wide rfl (Ev_indexAddr rfl rfl (by omega) (by omega)) rfl rfl ?_) | (show opsA _ _ _ _ (⟨_, .fieldAddr _ _ _, _, _, _, _⟩ :: _) _ _; refine O_ev WideF.wide rfl (Ev_fieldAddr rfl rfl rfl) rfl rfl ?_) | (show opsA _ _ _ _ (⟨_, .call _, _, _, _, _⟩ :: _) _ _; (refine O_f2 (O_ef rfl (Ef_appendR WideF.wide rfl rfl rfl rfl rfl (by simp; omega) (by simp; omega) rfl ?_)); intro a cp)) | (show opsA _ _ _ _ (⟨_, .buildSlice _ _ _, _, _, _, _⟩ :: _) _ _; (refine O_ef rfl (Ef_build11 WideF.wide rfl rfl rfl ?_); intro b)) | (show opsA _ _ _ _ (⟨_, .binOp _ _ _ _ _, _, _, _, _⟩ :: _) _ _; refine O_ev WideF.wide rfl (Ev_add rfl rfl (wi64 (by omega))) rfl rfl ?_) | (show opsA _ _ _ _ (⟨_, .alloc _, _, _, _, _⟩ :: _) _ _; (refine O_ef rfl (Ef_alloc WideF.wide rfl ?_); intro b)) | (show opsA _ _ _ _ (⟨_, .store _ _ _, _, _, _, _⟩ :: _) _ _; refine O_ef rfl (Ef_storew WideF.wide rfl rfl rfl rfl rfl ?_))) | (show wpA _ _ _ (.cond _ _ _) _ _ _ _; (refine A_if rfl (fun h => ?_) (fun h => ?_) <;> try (exfalso; omega))))
        refine Shift.to ⟨_, ?_, i + 1, _, _, _, p ++ [irow y.rev], rfl, by omega, by rw [take_get hyi, hp]; simp, rfl, rfl⟩ ⟨rfl, rfl, rfl, ⟨rfl, rfl, rfl, rfl, rfl, trivial⟩, Own.subi [0, 2] (by decide) rfl rfl⟩
        omega
      · have hin : dn = i := by omega
        subst hin
        rw [List.take_of_length_le (by omega)] at hp
        repeat' (first | refine O_nil ?_ | refine A_seq ?_ | refine A_region ?_ | (show opsA _ _ _ _ _ _ _; refine O_ev WideF.wide rfl (Ev_pure rfl) rfl rfl ?_) | (show wpA _ _ _ (.exit _) _ _ _ _; refine A_exit rfl ?_) | (show wpA _ _ _ (.cond _ _ _) _ _ _ _; (refine A_if rfl (fun h => ?_) (fun h => ?_) <;> try (exfalso; omega))))
        exact Shift.to ⟨a, n, cq, p, hp, hpn, rfl⟩ ⟨rfl, rfl, rfl, ⟨rfl, rfl, trivial⟩, Own.subi [0, 1] (by decide) rfl rfl⟩
  clear hp hpn p a n
  rintro s ⟨a, n, cq, p, hp, hpn, rfl⟩
  refine A_seq ?_
  refine A_cutu (fun s => ∃ (a : Option Addr) (n c : Nat), s = ⟨49, [(3, .slice a n c), (1, ptr b1)], H, [.row (.slice a n c) 1 ((revsL q).map irow), .box b1 [.slice pa pn pc, .int .i64 q.ins, .int .i64 q.move, .slice da dn dc, .slice la ln lc]], [], []⟩) ?_ ?_
  · repeat' (first | refine O_nil ?_ | refine A_seq ?_ | refine A_region ?_ | refine A_block ?_ | (show opsA _ _ _ _ _ _ _; first | refine O_ev WideF.wide rfl (Ev_pure rfl) rfl rfl ?_ | (show opsA _ _ _ _ (⟨_, .load _ _, _, _, _, _⟩ :: _) _ _; refine O_ev WideF.wide rfl (Ev_loadB1 (i := 1) rfl rfl rfl) rfl rfl ?_) | (show opsA _ _ _ _ (⟨_, .fieldAddr _ _ _, _, _, _, _⟩ :: _) _ _; refine O_ev WideF.wide rfl (Ev_fieldAddr rfl rfl rfl) rfl rfl ?_) | (show opsA _ _ _ _ (⟨_, .call _, _, _, _, _⟩ :: _) _ _; refine O_ev WideF.wide rfl (Ev_llen rfl) rfl rfl ?_)))
    refine A_loopu (fun m s => ∃ (i : Nat) (a : Option Addr) (n c : Nat) (p : List (List Value)), m = ln - i ∧ i ≤ ln ∧ p = (revs0 q ++ q.dels.map Dele.rev ++ (q.layers.take i).map Layr.rev).map irow ∧ p.length = n ∧ s = ⟨49, [(34, .slice la ln lc), (35, .int .i64 ln), (36, .int .i64 i), (3, .slice a n c), (1, ptr b1)], H, [.row (.slice a n c) 1 p, .box b1 [.slice pa pn pc, .int .i64 q.ins, .int .i64 q.move, .slice da dn dc, .slice la ln lc]], [], []⟩) ?_ ?_
    · exact Shift.to ⟨_, 0, _, _, _, _, rfl, by omega, by rw [hp]; simp, hpn, rfl⟩ ⟨rfl, rfl, rfl, ⟨rfl, rfl, rfl, rfl, rfl, trivial⟩, Own.subi [0, 1] (by decide) rfl rfl⟩
    · clear hp hpn p a n
      rintro m s ⟨i, a, n, cq, p, rfl, hi, hp, hpn, rfl⟩
      have hpl : p.length ≤ 1 + dn + i := by rw [hp]; simp; omega
      by_cases hlt : i < ln
      · obtain ⟨b', o, y, rfl, hyi, hc⟩ := h3.atm i hlt
        unfold lrow at hc
        repeat' (first | (refine O_ev WideF.wide rfl (Ev_loadH rfl hc rfl) rfl rfl ?_) | refine O_nil ?_ | refine A_seq ?_ | refine A_region ?_ | refine A_skip ?_ | refine A_block ?_ | (show opsA _ _ _ _ _ _ _; first | refine O_ev WideF.wide rfl (Ev_pure rfl) rfl rfl ?_ | (show opsA _ _ _ _ (⟨_, .load _ _, _, _, _, _⟩ :: _) _ _; refine O_ev WideF.wide rfl (Ev_loadB1 (i := 0) rfl rfl rfl) rfl rfl ?_) | (show opsA _ _ _ _ (⟨_, .indexAddr _ _ _, _, _, _, _⟩ :: _) _ _; refine O_ev WideF.wide rfl (Ev_indexAddr rfl rfl (by omega) (by omega)) rfl rfl ?_) | (show opsA _ _ _ _ (⟨_, .fieldAddr _ _ _, _, _, _, _⟩ :: _) _ _; refine O_ev WideF.wide rfl (Ev_fieldAddr rfl rfl rfl) rfl rfl ?_) | (show opsA _ _ _ _ (⟨_, .call _, _, _, _, _⟩ :: _) _ _; (refine O_f2 (O_ef rfl (Ef_appendR WideF.wide rfl rfl rfl rfl rfl (by simp; omega) (by simp; omega) rfl ?_)); intro a cp)) | (show opsA _ _ _ _ (⟨_, .buildSlice _ _ _, _, _, _, _⟩ :: _) _ _; (refine O_ef rfl (Ef_build11 WideF.wide rfl rfl rfl ?_); intro b)) | (show opsA _ _ _ _ (⟨_, .binOp _ _ _ _ _, _, _, _, _⟩ :: _) _ _; refine O_ev WideF.wide rfl (Ev_add rfl rfl (wi64 (by omega))) rfl rfl ?_) | (show opsA _ _ _ _ (⟨_, .alloc _, _, _, _, _⟩ :: _) _ _; (refine O_ef rfl (Ef_alloc WideF.wide rfl ?_); intro b)) | (show opsA _ _ _ _ (⟨_, .store _ _ _, _, _, _, _⟩ :: _) _ _; refine O_ef rfl (Ef_storew WideF.wide rfl rfl rfl rfl rfl ?_))) | (show wpA _ _ _ (.cond _ _ _) _ _ _ _; (refine A_if rfl (fun h => ?_) (fun h => ?_) <;> try (exfalso; omega))))
        refine Shift.to ⟨_, ?_, i + 1, _, _, _, p ++ [irow y.rev], rfl, by omega, by rw [take_get hyi, hp]; simp, rfl, rfl⟩ ⟨rfl, rfl, rfl, ⟨rfl, rfl, rfl, rfl, rfl, trivial⟩, Own.subi [0, 2] (by decide) rfl rfl⟩
        omega
      · have hin : ln = i := by omega
        subst hin
        rw [List.take_of_length_le (by omega)] at hp
        subst hp
        repeat' (first | refine O_nil ?_ | refine A_seq ?_ | refine A_region ?_ | (show opsA _ _ _ _ _ _ _; refine O_ev WideF.wide rfl (Ev_pure rfl) rfl rfl ?_) | (show wpA _ _ _ (.exit _) _ _ _ _; refine A_exit rfl ?_) | (show wpA _ _ _ (.cond _ _ _) _ _ _ _; (refine A_if rfl (fun h => ?_) (fun h => ?_) <;> try (exfalso; omega))))
        exact Shift.to ⟨a, n, cq, rfl⟩ ⟨rfl, rfl, rfl, ⟨rfl, rfl, trivial⟩, Own.subi [0, 1] (by decide) rfl rfl⟩
  clear hp hpn p a n
  rintro s ⟨a, n, cq, rfl⟩
  have hrl : (revsL q).length ≤ 1 + dn + ln := by unfold revsL; simp; omega
  have hset := fun Hx (aL : Option Addr) (cL : Nat) (rL : HRow Hx aL 1 cL 1 [[.slice a n cq]]) (rl : HRow Hx a n cq 1 ((revsL q).map irow)) => set_fn (ls := [⟨a, n, cq, revsL q⟩]) rL (fun x hx => by rw [List.mem_singleton] at hx; subst hx; exact rl) (by omega) (by simp [flat]; omega)
  have hfl : flat [⟨a, n, cq, revsL q⟩] = revsL q := by simp [flat]
  rw [hfl] at hset
  repeat' (first | (refine O_freeze (css := [[.slice a n cq]]) (by intro cs hcs u hu; simp at hcs; subst hcs; simp at hu; subst hu; rfl) ?_; intro H2 hle2 rL; refine O_freeze (irow_one _) ?_; intro H3 hle3 rl; refine O_ef rfl (Ef_call (I := []) WideF.wide (hset H3 _ _ (rL.mono hle3) rl) ⟨rfl, trivial⟩ rfl ?_); rintro v H4 I4 hle4 ⟨⟨ra, rn, rc, rfl, hr⟩, rfl⟩) | refine O_nil ?_ | refine A_seq ?_ | refine A_region ?_ | refine A_ret ?_ | (show opsA _ _ _ _ _ _ _; first | refine O_ev WideF.wide rfl (Ev_pure rfl) rfl rfl ?_ | (show opsA _ _ _ _ (⟨_, .buildSlice _ _ _, _, _, _, _⟩ :: _) _ _; (refine O_ef rfl (Ef_build11 WideF.wide rfl rfl rfl ?_); intro b))))
  exact End_e (Ret1 rfl rfl) ⟨⟨_, _, _, rfl, hr⟩, rfl⟩
end Go.Proofs.Ythniohgeojenaaa
