/-
  Fits of the program.
-/
import Derived.Test.YtaneeaojlkenmaaGreatDoorL18
namespace Go.Proofs.YtaneeaojlkenmaaGreatDoor
open Go Go.Lib
set_option linter.unusedVariables false
set_option linter.unusedSimpArgs false
/-- Fits -/
def fitsE (l : List Lv) (q : Int) (lab : List UInt8) : Bool × Int :=
  if lvE l q ≠ 0 then (false, lvE l q) else if 256 < lab.length then (false, 10) else
  match l[(q - 1).toNat]? with
  | some x => (mtP (fmts l) (tplE x.tpl).1 lab (List.replicate 10 (-2)), 0)
  | none => (false, 0)
def fitsV (l : List Lv) (q : Int) (lab : List UInt8) : Value := .tuple [.bool (fitsE l q lab).1, .int .i64 (fitsE l q lab).2].toArray
theorem nok_start : NOk (List.replicate 10 (-2)) := ⟨rfl, fun i => by
  by_cases h : i < 10
  · have : (List.replicate 10 (-2 : Int)).getD i 0 = -2 := by rw [List.getD, List.getElem?_replicate, if_pos h]; rfl
    rw [this]; omega
  · have : (List.replicate 10 (-2 : Int)).getD i 0 = 0 := by rw [List.getD, List.getElem?_replicate, if_neg h]; rfl
    rw [this]; omega⟩
def fillN (i : Nat) : List Int := List.replicate i (-2) ++ List.replicate (10 - i) 0
theorem fillN_len {i : Nat} (h : i ≤ 10) : (fillN i).length = 10 := by unfold fillN; simp; omega
theorem fillN_set {i : Nat} (h : i < 10) : (fillN i).set i (-2) = fillN (i + 1) := by
  unfold fillN
  rw [show 10 - i = (10 - (i + 1)) + 1 by omega, List.replicate_succ, List.replicate_succ']
  have := mid_set (L := List.replicate i (-2 : Int)) (x := (0 : Int)) (y := -2) (R := List.replicate (10 - (i + 1)) 0)
  rw [List.length_replicate] at this
  rw [this, List.append_assoc]
  rfl
attribute [local irreducible] wpA opsA drJ drQ drE Ef Ev Shift Fn
set_option maxRecDepth 100000 in
set_option maxHeartbeats 8000000 in
theorem Fits_fn {H : Hp} (hE : EnvH H) {a : Option Addr} {n cq : Nat} {l : List Lv} (hx : HRow H a n cq 4 (l.map lvrow)) (hn : n < 68719476736) (hl : ∀ x ∈ l, x.tpl.length < 1099511627776) (q : Int) {lab : List UInt8} (hlab : lab.length < 1099511627776) :
    Fn Tryz.prog 26 [.slice a n cq, .int .i64 q, sv lab] H [] fun v _ I => v = fitsV l q lab ∧ I = [] := by
  have e1 : l.length = n := by have := hx.len; simpa using this
  have hc := lvcheck_fn hx hn hl q
  unfold fitsV fitsE
  by_cases he : lvE l q = 0
  · rw [if_neg (by simpa using he)]
    rw [he] at hc
    have hck : chkLv l = 0 ∧ 1 ≤ q ∧ q ≤ n := by
      unfold lvE at he
      split at he
      · next h => exact absurd he h
      · next h => split at he
                  · cases he
                  · rw [e1] at *; exact ⟨by simpa using h, by omega, by omega⟩
    obtain ⟨hck, hq1, hqn⟩ := hck
    by_cases h11 : 256 < lab.length
    · rw [if_pos h11]
      refine Fn_of _ _ Tryz.func26 rfl Tryz.ntmps26 rfl fun c => ?_
      repeat' (first | (refine O_ef rfl (Ef_call (I := []) WideF.wide (hc) ⟨rfl, rfl, trivial⟩ rfl ?_); rintro v H2 I2 hle2 ⟨rfl, rfl⟩) | refine O_nil ?_ | refine A_seq ?_ | refine A_region ?_ | refine A_skip ?_ | refine A_ret ?_ | (show opsA _ _ _ _ _ _ _; first | refine O_ev WideF.wide rfl (Ev_pure rfl) rfl rfl ?_ | (show opsA _ _ _ _ (⟨_, .call _, _, _, _, _⟩ :: _) _ _; refine O_ev WideF.wide rfl (Ev_slen rfl) rfl rfl ?_)) | (show wpA _ _ _ (.cond _ _ _) _ _ _ _; (refine A_if rfl (fun h => ?_) (fun h => ?_) <;> try (exfalso; omega))))
      all_goals first
        | (exfalso; omega)
        | (exfalso; exact absurd trivial (by assumption))
        | exact End_e (Ret2 rfl rfl rfl) ⟨rfl, rfl⟩
    · rw [if_neg h11]
      obtain ⟨k, rfl⟩ : ∃ k : Nat, q = k + 1 := ⟨(q - 1).toNat, by omega⟩
      obtain ⟨b, o, x, rfl, hxk, hcl⟩ := hx.atm k (by omega)
      have hk0 : ((k : Int) + 1 - 1).toNat = k := by omega
      have hk1 : (k : Int) + 1 - 1 = (k : Int) := by omega
      rw [hk0, hxk]
      dsimp only
      obtain ⟨hck1, hck9, hckx⟩ := chkLv_ok hck
      obtain ⟨hf1, hf7, hct⟩ := hckx k x hxk
      have hin := parts_in hct
      obtain ⟨ht1, ht2, ht3, ht4, ht5⟩ := chkT_ok hct
      have hp := fun Hx => lParse_fn (H := Hx) (s := x.tpl) (by omega)
      have hpl := parts_len (s := x.tpl)
      unfold ParseH at hp
      unfold lvrow at hcl
      generalize tplE x.tpl = t at *
      obtain ⟨ps, e⟩ := t
      dsimp only at hp hpl hin ht1 ht2 ht4 ht5 ⊢
      subst ht1
      subst e1
      have hps : ∀ p ∈ ps, p.lev = 0 ∨ 1 ≤ p.lev ∧ p.lev ≤ l.length := fun p hp => (hin p hp).imp id fun h => ⟨h.1, by omega⟩
      refine Fn_of _ _ Tryz.func26 rfl Tryz.ntmps26 rfl fun c => ?_
      repeat' (first | (refine A_freezeBox (cs := [_, _, _, _]) (by intro u hu; simp only [List.mem_cons, List.not_mem_nil, or_false] at hu; rcases hu with rfl | rfl | rfl | rfl <;> rfl) ?_; intro H4 hle4 hbM) | (refine O_ef rfl (Ef_makeMapT WideF.wide rfl ?_); intro mm) | (refine O_ef rfl (Ef_call (I := []) WideF.wide (hc) ⟨rfl, rfl, trivial⟩ rfl ?_); rintro v H2 I2 hle2 ⟨rfl, rfl⟩) | (refine O_ev WideF.wide rfl (Ev_sub rfl rfl (wi64 (by omega))) rfl rfl ?_; rw [hk1]) | (refine O_ev WideF.wide rfl (Ev_loadH1 rfl (hle2 _ _ _ (hcl 2 _ rfl))) rfl rfl ?_) | (refine O_ef rfl (Ef_call (I := []) WideF.wide (hp _) ⟨rfl, trivial⟩ rfl ?_); rintro v H3 I3 hle3 ⟨a3, n3, c3, rfl, hr, rfl⟩); obtain rfl : n3 = ps.length := (by have := hr.len; rw [List.length_map] at this; omega) | refine O_nil ?_ | refine A_seq ?_ | refine A_region ?_ | refine A_skip ?_ | refine A_block ?_ | (show opsA _ _ _ _ _ _ _; first | refine O_ev WideF.wide rfl (Ev_pure rfl) rfl rfl ?_ | (show opsA _ _ _ _ (⟨_, .indexAddr _ _ _, _, _, _, _⟩ :: _) _ _; refine O_ev WideF.wide rfl (Ev_indexAddr rfl rfl (by omega) (by omega)) rfl rfl ?_) | (show opsA _ _ _ _ (⟨_, .fieldAddr _ _ _, _, _, _, _⟩ :: _) _ _; refine O_ev WideF.wide rfl (Ev_fieldAddr rfl rfl rfl) rfl rfl ?_) | (show opsA _ _ _ _ (⟨_, .call _, _, _, _, _⟩ :: _) _ _; refine O_ev WideF.wide rfl (Ev_slen rfl) rfl rfl ?_) | (show opsA _ _ _ _ (⟨_, .build _ _, _, _, _, _⟩ :: _) _ _; refine O_ev WideF.wide rfl (Ev_build (vs := [(_, _), (_, _), (_, _), (_, _)]) ⟨rfl, rfl, rfl, rfl, rfl, rfl, rfl, rfl, trivial⟩ rfl) rfl rfl ?_) | (show opsA _ _ _ _ (⟨_, .alloc _, _, _, _, _⟩ :: _) _ _; (refine O_ef rfl (Ef_alloc WideF.wide rfl ?_); intro b)) | (show opsA _ _ _ _ (⟨_, .box _ _, _, _, _, _⟩ :: _) _ _; (refine O_ef rfl (Ef_boxa WideF.wide rfl rfl ?_); intro b))) | (show wpA _ _ _ (.cond _ _ _) _ _ _ _; (refine A_if rfl (fun h => ?_) (fun h => ?_) <;> try (exfalso; omega))))
      all_goals try (exfalso; omega)
      all_goals try (exfalso; exact absurd trivial (by assumption))
      rename_i bm
      have hMS : ∀ Hx, HLe H4 Hx → MSt Hx bm l ps lab mm := fun Hx h =>
        ⟨hE.mono (hle2.trans (hle3.trans (hle4.trans h))), _, _, _, _, HCells.mono h hbM, hx.mono (hle2.trans (hle3.trans (hle4.trans h))), hr.mono (hle4.trans h)⟩
      have hmf := fun Hx (h : HLe H4 Hx) => match_fn hps hck9 (by omega) (by omega) ps.length 0 0 Hx (List.replicate 10 (-2)) [] (by omega) (by omega) nok_start (GoodM.nil l ps lab) (hMS Hx h)
      simp only [List.drop_zero] at hmf
      refine A_loopu (fun m st => ∃ (i : Nat) (cs : List Int), m = 10 - i ∧ i ≤ 10 ∧ cs = fillN i ∧ st = ⟨48, [(11, ptr bm), (12, ptr b), (39, .int .i64 i)], H4, [.box b (ncells cs), .obj mm (smobj [])], [], []⟩) ?_ ?_
      · exact Shift.to ⟨_, 0, [0, 0, 0, 0, 0, 0, 0, 0, 0, 0], rfl, by omega, rfl, rfl⟩ ⟨rfl, rfl, rfl, ⟨rfl, rfl, rfl, trivial⟩, Own.sub_refl _⟩
      · rintro m st ⟨i, cs, rfl, hi, hcs, rfl⟩
        by_cases hlt : i < 10
        · have hcl : cs.length = 10 := by rw [hcs]; exact fillN_len hi
          have hi0 : (i : Int).toNat = i := by omega
          have hblt : Nat.blt (0 + (i : Int).toNat * 1) (ncells cs).length = true := by
            rw [List.length_map, hcl, hi0]
            exact Nat.ble_eq_true_of_le (by omega)
          have htset : tset (ncells cs) (0 + (i : Int).toNat * 1) (.int .i64 (-2)) = ncells (cs.set i (-2)) := by
            rw [tset_eq, hi0, Nat.zero_add, Nat.mul_one]; unfold ncells; rw [List.map_set]
          repeat' (first | (refine O_ev WideF.wide rfl (Ev_indexArr rfl rfl (by omega) (by omega)) rfl rfl ?_) | (refine O_ef rfl (Ef_store1 WideF.wide rfl rfl rfl hblt htset ?_)) | refine O_nil ?_ | refine A_seq ?_ | refine A_region ?_ | refine A_skip ?_ | refine A_block ?_ | (show opsA _ _ _ _ _ _ _; first | refine O_ev WideF.wide rfl (Ev_pure rfl) rfl rfl ?_ | (show opsA _ _ _ _ (⟨_, .binOp _ _ _ _ _, _, _, _, _⟩ :: _) _ _; refine O_ev WideF.wide rfl (Ev_add rfl rfl (wi64 (by omega))) rfl rfl ?_)) | (show wpA _ _ _ (.cond _ _ _) _ _ _ _; (refine A_if rfl (fun h => ?_) (fun h => ?_) <;> try (exfalso; omega))))
          all_goals try (exfalso; omega)
          refine Shift.to ⟨_, ?_, i + 1, cs.set i (-2), rfl, by omega, by rw [hcs, fillN_set hlt], rfl⟩ ⟨rfl, rfl, rfl, ⟨rfl, rfl, rfl, trivial⟩, Own.sub_refl _⟩
          omega
        · have hi10 : i = 10 := by omega
          subst hi10
          have hcs' : cs = List.replicate 10 (-2) := hcs
          subst hcs'
          repeat' (first | (refine O_ev WideF.wide rfl (Ev_loadB (i := 0) rfl rfl rfl) rfl rfl ?_) | (refine O_ef rfl (Ef_call1 WideF.wide (hmf _ (HLe.refl _)) ⟨rfl, rfl, rfl, rfl, trivial⟩ rfl ?_); rintro u7 H7 I7 hle7 ⟨rfl, kvs3, hG3, rfl⟩) | refine O_nil ?_ | refine A_seq ?_ | refine A_region ?_ | refine A_ret ?_ | (show opsA _ _ _ _ _ _ _; refine O_ev WideF.wide rfl (Ev_pure rfl) rfl rfl ?_) | (show wpA _ _ _ (.exit _) _ _ _ _; refine A_exit rfl ?_) | (show wpA _ _ _ (.cond _ _ _) _ _ _ _; (refine A_if rfl (fun h => ?_) (fun h => ?_) <;> try (exfalso; omega))))
          all_goals first
            | (exfalso; omega)
            | exact End_e (Ret2 rfl rfl rfl) ⟨rfl, rfl⟩
  · rw [if_pos (by simpa using he)]
    generalize lvE l q = e at hc he
    refine Fn_of _ _ Tryz.func26 rfl Tryz.ntmps26 rfl fun c => ?_
    repeat' (first | (refine O_ef rfl (Ef_call (I := []) WideF.wide (hc) ⟨rfl, rfl, trivial⟩ rfl ?_); rintro v H2 I2 hle2 ⟨rfl, rfl⟩) | refine O_nil ?_ | refine A_seq ?_ | refine A_region ?_ | refine A_ret ?_ | (show opsA _ _ _ _ _ _ _; refine O_ev WideF.wide rfl (Ev_pure rfl) rfl rfl ?_) | (show wpA _ _ _ (.cond _ _ _) _ _ _ _; (refine A_if rfl (fun h => ?_) (fun h => ?_) <;> try (exfalso; omega))))
    all_goals first
      | (exfalso; omega)
      | exact End_e (Ret2 rfl rfl rfl) ⟨rfl, rfl⟩
end Go.Proofs.YtaneeaojlkenmaaGreatDoor
