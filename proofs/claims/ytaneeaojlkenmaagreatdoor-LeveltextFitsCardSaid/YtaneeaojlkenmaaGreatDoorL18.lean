/-
  Matching a label: the program, with its memory of what failed.
-/
import Derived.Test.YtaneeaojlkenmaaGreatDoorL15
import Derived.Test.YtaneeaojlkenmaaGreatDoorL16
namespace Go.Proofs.YtaneeaojlkenmaaGreatDoor
open Go Go.Lib
set_option linter.unusedVariables false
set_option linter.unusedSimpArgs false
theorem Ev_indexArr {P : Program} {e : Env} {H : Hp} {R : Own} {dst : Option Tmp} {ty : TypeId} {pos : String} {after : Array Edge} {g : Option (Nat × Bool)} {x y : Operand} {t : TypeId} {b o : Nat} {el len s : Nat} {i : Int} {kk : IntKind} {ag : Bool} [ht : UndC P t (.array len el)] [hs : TyC P el ag s] (hx : e.eval x = some (.pointer (some ⟨b, o, none⟩))) (hy : e.eval y = some (.int kk i)) (h0 : 0 ≤ i) (h1 : i < len) :
    Ev P ⟨dst, .indexAddr t x y, ty, pos, after, g⟩ e H R (.pointer (some ⟨b, o + i.toNat * s, none⟩)) := fun a w he _ _ => by
  have hc : (0 : Int) ≤ i ∧ i < (len : Int) := ⟨h0, h1⟩
  simp [execOp, he.eval hx, he.eval hy, Instr.indexAt, Instr.sureAddr, asIntOf, ht.run, hs.sizeOf, hc, Addr.add_lit]
abbrev ncells (N : List Int) : List Value := N.map (Value.int .i64)
theorem ncells_one (N : List Int) : ∀ u ∈ ncells N, u.oneCell' = true := by
  intro u hu
  obtain ⟨x, _, rfl⟩ := List.mem_map.1 hu
  rfl
theorem cand_b {f k n : Int} {pl : Bool} {s : List UInt8} (hk : -2 ≤ k ∧ k ≤ 999999) (h : n ∈ candP f pl s k) : -2 ≤ n ∧ n ≤ 999999 := by
  by_cases h0 : 0 ≤ k
  · obtain ⟨_, rfl⟩ := (mem_candP_pos h0).1 h; exact hk
  · by_cases hb : f = 7 ∧ pl = false
    · obtain ⟨rfl, rfl⟩ := hb
      rcases (mem_candP_bul h0).1 h with ⟨_, rfl⟩ | ⟨_, _, rfl⟩ <;> decide
    · rcases (mem_candP_neg h0 hb).1 h with ⟨_, h⟩ | ⟨h, _⟩ <;> (have := prs_bnd h; omega)
theorem cand_two {f k : Int} {pl : Bool} {s : List UInt8} : (candP f pl s k).length ≤ 2 := by
  unfold candP
  split
  · split <;> simp
  · split
    · split
      · simp
      · split <;> simp
    · rw [List.length_append]
      have h1 : (if pl then [] else (prs f s).toList : List Int).length ≤ 1 := by
        cases pl with
        | true => simp
        | false => cases prs f s <;> simp
      have h2 : ∀ a : List Int, (match prs 1 s with | some n => if digT f n pl = s ∧ (k = -2 ∨ 1 ≤ n) ∧ n ∉ a then [n] else [] | none => [] : List Int).length ≤ 1 := fun a => by
        cases prs 1 s with
        | none => simp
        | some n => dsimp only; split <;> simp
      exact Nat.le_trans (Nat.add_le_add h1 (h2 _)) (by decide)
/-- what lies under the matcher -/
structure MSt (H : Hp) (mb : Nat) (l : List Lv) (ps : List Pt) (lab : List UInt8) (mm : Nat) : Prop where
  env : EnvH H
  ex : ∃ (la : Option Addr) (lc : Nat) (pa : Option Addr) (pc : Nat), MatH H mb la l.length lc pa ps.length pc lab mm ∧ HRow H la l.length lc 4 (l.map lvrow) ∧ HRow H pa ps.length pc 3 (ps.map prow)
theorem MSt.mono {H H' : Hp} {mb : Nat} {l : List Lv} {ps : List Pt} {lab : List UInt8} {mm : Nat} (h : MSt H mb l ps lab mm) (hl : HLe H H') : MSt H' mb l ps lab mm :=
  ⟨h.env.mono hl, let ⟨la, lc, pa, pc, h1, h2, h3⟩ := h.ex; ⟨la, lc, pa, pc, HCells.mono hl h1, h2.mono hl, h3.mono hl⟩⟩
/-- the memory: what failed does fail -/
structure GoodM (l : List Lv) (ps : List Pt) (lab : List UInt8) (kvs : List (List UInt8 × Value)) : Prop where
  val : ∀ x, sget (.bool false) kvs x = .bool (decide (shas kvs x))
  bad : ∀ (part at_ : Nat) (N : List Int), NOk N → part ≤ ps.length → at_ ≤ lab.length → shas kvs (keyS ps part at_ N) → mtP (fmts l) (ps.drop part) (lab.drop at_) N = false
theorem GoodM.nil (l : List Lv) (ps : List Pt) (lab : List UInt8) : GoodM l ps lab [] := ⟨fun x => by rw [decide_eq_false shas_nil]; rfl, fun _ _ _ _ _ _ h => absurd h shas_nil⟩
theorem GoodM.put {l : List Lv} {ps : List Pt} {lab : List UInt8} {kvs : List (List UInt8 × Value)} (h : GoodM l ps lab kvs) (hps : ∀ p ∈ ps, PartOk p) (hpl : ps.length ≤ 99999) (hll : lab.length ≤ 99999) {part at_ : Nat} {N : List Int} (hN : NOk N) (hp : part ≤ ps.length) (ha : at_ ≤ lab.length) (hm : mtP (fmts l) (ps.drop part) (lab.drop at_) N = false) :
    GoodM l ps lab (sput kvs (keyS ps part at_ N) (.bool true)) := by
  refine ⟨fun x => ?_, fun part' at' N' hN' hp' ha' hs => ?_⟩
  · rw [sget_put]
    by_cases hx : x = keyS ps part at_ N
    · rw [if_pos hx, decide_eq_true (shas_put.2 (.inr hx))]
    · rw [if_neg hx, h.val]
      congr 1
      rw [decide_eq_decide, shas_put]
      exact ⟨.inl, fun h => h.elim id fun h => absurd h hx⟩
  · rcases shas_put.1 hs with hs | hs
    · exact h.bad part' at' N' hN' hp' ha' hs
    · rw [key_same (fs := fmts l) (lab := lab) hps hN' hN ⟨by omega, by omega⟩ ⟨by omega, by omega⟩ hs]; exact hm
/-- the labels from a place on -/
def tryJ (fs : List Int) (p : Pt) (r : List Pt) (s : List UInt8) (N : List Int) (j : Nat) : Bool :=
  (candP (fmtOf fs p) p.plain (s.take (j + 1)) (N.getD p.lev.toNat 0)).any fun n => mtP fs r (s.drop (j + 1)) (N.set p.lev.toNat n)
theorem mtP_place {fs : List Int} {p : Pt} {r : List Pt} {s : List UInt8} {N : List Int} (h : p.lev ≠ 0) : mtP fs (p :: r) s N = (List.range (min s.length 16)).any (tryJ fs p r s N) := by
  rw [mtP, if_neg h]; rfl
theorem any_range_false {f : Nat → Bool} {n : Nat} (h : ∀ j, j < n → f j = false) : (List.range n).any f = false := by
  rw [List.any_eq_false]
  intro j hj
  rw [List.mem_range] at hj
  simp [h j hj]
theorem any_range_true {f : Nat → Bool} {n j : Nat} (hj : j < n) (h : f j = true) : (List.range n).any f = true := List.any_eq_true.2 ⟨j, List.mem_range.2 hj, h⟩
attribute [local irreducible] wpA opsA drJ drQ drE Ef Ev Shift Fn
abbrev mSt (c14 : List (Nat × Value)) : List (Nat × Value) := c14
set_option maxRecDepth 100000 in
set_option maxHeartbeats 16000000 in
theorem match_fn {mb : Nat} {l : List Lv} {ps : List Pt} {lab : List UInt8} {mm : Nat} (hps : ∀ p ∈ ps, p.lev = 0 ∨ 1 ≤ p.lev ∧ p.lev ≤ l.length) (h9 : l.length ≤ 9) (hpl : ps.length ≤ 200) (hll : lab.length ≤ 300) :
    ∀ (d part at_ : Nat) (H : Hp) (N : List Int) (kvs : List (List UInt8 × Value)), part + d = ps.length → at_ ≤ lab.length → NOk N → GoodM l ps lab kvs → MSt H mb l ps lab mm →
    Fn Tryz.prog 49 [ptr mb, .int .i64 part, .int .i64 at_, .agg (ncells N).toArray] H [.obj mm (smobj kvs)] fun v _ I' => v = .bool (mtP (fmts l) (ps.drop part) (lab.drop at_) N) ∧ ∃ kvs', GoodM l ps lab kvs' ∧ I' = [.obj mm (smobj kvs')] := by
  have hpo : ∀ p ∈ ps, PartOk p := fun p hp => (hps p hp).imp id fun h => ⟨h.1, by omega⟩
  intro d
  induction d with
  | zero =>
    intro part at_ H N kvs hpart hat hN hG hM
    obtain ⟨la, lc, pa, pc, hM1, hx, hr⟩ := hM.ex
    have hp : part = ps.length := by omega
    subst hp
    rw [List.drop_length]
    have e : mtP (fmts l) [] (lab.drop at_) N = decide ((at_ : Int) = (lab.length : Int)) := by
      unfold mtP
      rw [decide_eq_decide, List.drop_eq_nil_iff]
      omega
    rw [e]
    unfold MatH at hM1
    refine Fn_of _ _ Tryz.func49 rfl Tryz.ntmps49 rfl fun c => ?_
    repeat' (first | (refine O_ev WideF.wide rfl (Ev_loadH1 rfl (hM1 1 _ rfl)) rfl rfl ?_) | (refine O_ev WideF.wide rfl (Ev_loadH1 rfl (hM1 2 _ rfl)) rfl rfl ?_) | refine O_nil ?_ | refine A_seq ?_ | refine A_region ?_ | refine A_ret ?_ | (show opsA _ _ _ _ _ _ _; first | refine O_ev WideF.wide rfl (Ev_pure rfl) rfl rfl ?_ | (show opsA _ _ _ _ (⟨_, .fieldAddr _ _ _, _, _, _, _⟩ :: _) _ _; refine O_ev WideF.wide rfl (Ev_fieldAddr rfl rfl rfl) rfl rfl ?_) | (show opsA _ _ _ _ (⟨_, .call _, _, _, _, _⟩ :: _) _ _; first | refine O_ev WideF.wide rfl (Ev_llen rfl) rfl rfl ?_ | refine O_ev WideF.wide rfl (Ev_slen rfl) rfl rfl ?_) | (show opsA _ _ _ _ (⟨_, .nilCheck _, _, _, _, _⟩ :: _) _ _; refine O_ev WideF.wide rfl (Ev_nilCheck rfl) rfl rfl ?_) | (show opsA _ _ _ _ (⟨_, .box _ _, _, _, _, _⟩ :: _) _ _; (refine O_ef rfl (Ef_boxa WideF.wide rfl rfl ?_); intro b))) | (show wpA _ _ _ (.cond _ _ _) _ _ _ _; (refine A_if rfl (fun h => ?_) (fun h => ?_) <;> try (exfalso; omega))))
    all_goals try (exfalso; omega)
    all_goals try (exfalso; exact absurd trivial (by assumption))
    refine End_s (Ret1 rfl rfl) ?_
    exact Shift.to (s' := ⟨121, [], _, [.obj mm (smobj kvs)], [], []⟩) ⟨rfl, rfl, kvs, hG, rfl⟩ ⟨rfl, rfl, rfl, trivial, Own.subi [1] (by decide) rfl rfl⟩
  | succ d ih =>
    intro part at_ H N kvs hpart hat hN hG hM
    obtain ⟨la, lc, pa, pc, hM1, hx, hr⟩ := hM.ex
    obtain ⟨b5, o5, p, rfl, hpi, hc5⟩ := hr.atm part (by omega)
    have hpp := hps p (List.mem_of_getElem? hpi)
    have hdr := drop_get hpi
    have hNl := hN.len
    have hM1' := hM1
    unfold MatH at hM1
    have hone := ncells_one N
    have honeP := prow_one [p] (prow p) (by simp)
    rw [hdr]
    obtain ⟨lit, lev, pl⟩ := p
    dsimp only at hpp
    have hc6 := hc5
    unfold prow at hc6
    dsimp only at hc6
    by_cases h0 : lev = 0
    · subst h0
      have e : mtP (fmts l) (⟨lit, 0, pl⟩ :: ps.drop (part + 1)) (lab.drop at_) N = (lit.isPrefixOf (lab.drop at_) && mtP (fmts l) (ps.drop (part + 1)) ((lab.drop at_).drop lit.length) N) := by rw [mtP, if_pos rfl]
      rw [e, List.drop_drop]
      have hpf := fun Hx => HasPrefix_fn (H := Hx) (l := lab.drop at_) (p := lit)
      cases hb : lit.isPrefixOf (lab.drop at_) with
      | false =>
        simp only [hb] at hpf
        rw [Bool.false_and]
        refine Fn_of _ _ Tryz.func49 rfl Tryz.ntmps49 rfl fun c => ?_
        repeat' (first | (refine A_freezeBox honeP ?_; intro H1 hle1 hbp; unfold prow at hbp; dsimp only at hbp; refine A_freezeBox hone ?_; intro H2 hle2 hbN) | (refine O_ev WideF.wide rfl (Ev_loadH1 rfl (hM1 1 _ rfl)) rfl rfl ?_) | (refine O_ev WideF.wide rfl (Ev_loadH rfl hc5 rfl) rfl rfl ?_) | (refine O_ev WideF.wide rfl (Ev_loadH1 rfl (hle2 _ _ _ (hbp 1 _ rfl))) rfl rfl ?_) | (refine A_drawM WideF.wide (.q 0 (.q 1 (.q 2 (.q 3 (.q 4 (.q 5 (.q 6 (.q 7 (.e 8 (.q 9 (.q 10 (.q 11 (.q 12 (.q 13 (.q 14 (.q 15 (.q 16 (.q 17 (.q 18 (.e 19 (.q 20 (.q 21 (.done []))))))))))))))))))))))) [] (by decide +kernel) ?_) | (refine D_ev rfl (Ev_loadH1 rfl (hle2 _ _ _ (hle1 _ _ _ (hM1 2 _ rfl)))) rfl rfl ?_) | (refine D_ev rfl (Ev_loadH1 rfl (hle2 _ _ _ (hbp 0 _ rfl))) rfl rfl ?_) | (refine D_ev rfl (Ev_sslicel rfl rfl (by omega) (by omega)) rfl rfl ?_) | (refine E_ef rfl (Ef_callp WideF.wide (hpf _) ⟨rfl, rfl, trivial⟩ rfl ?_); refine ⟨Grow.same rfl rfl, ?_⟩) | (show drJ _ _ _ _ _ _ _ (.done _) _; refine D_done ?_; rw [List.append_nil]) | refine O_nil ?_ | refine A_seq ?_ | refine A_region ?_ | refine A_skip ?_ | refine A_ret ?_ | (show drJ _ _ _ _ _ _ _ (.q _ _) _; refine D_q rfl ?_) | (show drJ _ _ _ _ _ _ _ (.e _ _) _; refine D_e rfl ?_) | (show drQ _ _ _ _ _ _; first | refine D_ev rfl (Ev_pure rfl) rfl rfl ?_ | (show drQ _ _ _ ⟨_, .fieldAddr _ _ _, _, _, _, _⟩ _ _; refine D_ev rfl (Ev_fieldAddr rfl rfl rfl) rfl rfl ?_) | (show drQ _ _ _ ⟨_, .nilCheck _, _, _, _, _⟩ _ _; refine D_ev rfl (Ev_nilCheck rfl) rfl rfl ?_) | refine D_skip rfl rfl rfl ?_) | (show drE _ _ _ _ _ _ _; refine E_skip rfl rfl rfl ?_) | (show opsA _ _ _ _ _ _ _; first | refine O_ev WideF.wide rfl (Ev_pure rfl) rfl rfl ?_ | (show opsA _ _ _ _ (⟨_, .indexAddr _ _ _, _, _, _, _⟩ :: _) _ _; refine O_ev WideF.wide rfl (Ev_indexAddr rfl rfl (by omega) (by omega)) rfl rfl ?_) | (show opsA _ _ _ _ (⟨_, .fieldAddr _ _ _, _, _, _, _⟩ :: _) _ _; refine O_ev WideF.wide rfl (Ev_fieldAddr rfl rfl rfl) rfl rfl ?_) | (show opsA _ _ _ _ (⟨_, .call _, _, _, _, _⟩ :: _) _ _; refine O_ev WideF.wide rfl (Ev_llen rfl) rfl rfl ?_) | (show opsA _ _ _ _ (⟨_, .nilCheck _, _, _, _, _⟩ :: _) _ _; refine O_ev WideF.wide rfl (Ev_nilCheck rfl) rfl rfl ?_) | (show opsA _ _ _ _ (⟨_, .alloc _, _, _, _, _⟩ :: _) _ _; (refine O_ef rfl (Ef_alloc WideF.wide rfl ?_); intro b)) | (show opsA _ _ _ _ (⟨_, .box _ _, _, _, _, _⟩ :: _) _ _; (refine O_ef rfl (Ef_boxa WideF.wide rfl rfl ?_); intro b)) | (show opsA _ _ _ _ (⟨_, .store _ _ _, _, _, _, _⟩ :: _) _ _; refine O_ef rfl (Ef_storew WideF.wide rfl rfl rfl rfl rfl ?_))) | (show wpA _ _ _ (.cond _ _ _) _ _ _ _; (refine A_if rfl (fun h => ?_) (fun h => ?_) <;> try (exfalso; omega))))
        all_goals try (exfalso; omega)
        all_goals try (exfalso; exact absurd trivial (by assumption))
        all_goals try (exfalso; exact absurd (rfl : (0 : Int) = 0) (by assumption))
        exact End_m (Ret1 rfl rfl) ⟨rfl, kvs, hG, rfl⟩
      | true =>
        simp only [hb] at hpf
        rw [Bool.true_and]
        have hpre : lit.length ≤ (lab.drop at_).length := (List.isPrefixOf_iff_prefix.1 hb).length_le
        rw [List.length_drop] at hpre
        have hih := fun Hx (hle : HLe H Hx) => ih (part + 1) (at_ + lit.length) Hx N kvs (by omega) (by omega) hN hG (hM.mono hle)
        simp only [show ((part + 1 : Nat) : Int) = (part : Int) + 1 by omega, show ((at_ + lit.length : Nat) : Int) = (at_ : Int) + lit.length by omega] at hih
        refine Fn_of _ _ Tryz.func49 rfl Tryz.ntmps49 rfl fun c => ?_
        repeat' (first | (refine A_freezeBox honeP ?_; intro H1 hle1 hbp; unfold prow at hbp; dsimp only at hbp; refine A_freezeBox hone ?_; intro H2 hle2 hbN) | (refine O_ev WideF.wide rfl (Ev_loadH1 rfl (hM1 1 _ rfl)) rfl rfl ?_) | (refine O_ev WideF.wide rfl (Ev_loadH rfl hc5 rfl) rfl rfl ?_) | (refine O_ev WideF.wide rfl (Ev_loadH1 rfl (hle2 _ _ _ (hbp 1 _ rfl))) rfl rfl ?_) | (refine A_drawM WideF.wide (.q 0 (.q 1 (.q 2 (.q 3 (.q 4 (.q 5 (.q 6 (.q 7 (.e 8 (.q 9 (.q 10 (.q 11 (.q 12 (.q 13 (.q 14 (.q 15 (.q 16 (.q 17 (.q 18 (.e 19 (.q 20 (.q 21 (.done []))))))))))))))))))))))) [] (by decide +kernel) ?_) | (refine D_ev rfl (Ev_loadH1 rfl (hle2 _ _ _ (hle1 _ _ _ (hM1 2 _ rfl)))) rfl rfl ?_) | (refine D_ev rfl (Ev_loadH1 rfl (hle2 _ _ _ (hbp 0 _ rfl))) rfl rfl ?_) | (refine D_ev rfl (Ev_loadH rfl hbN (by rw [List.length_map]; exact hNl)) rfl rfl ?_) | (refine D_ev rfl (Ev_sslicel rfl rfl (by omega) (by omega)) rfl rfl ?_) | (refine E_ef rfl (Ef_callp WideF.wide (hpf _) ⟨rfl, rfl, trivial⟩ rfl ?_); refine ⟨Grow.same rfl rfl, ?_⟩) | (show drJ _ _ _ _ _ _ _ (.done _) _; refine D_done ?_; rw [List.append_nil]) | (refine E_ef rfl (Ef_call0 WideF.wide (hih _ (hle1.trans hle2)) ⟨rfl, rfl, rfl, rfl, trivial⟩ rfl ?_); rintro u H6 I6 hle6 ⟨rfl, kvs', hG', rfl⟩; refine ⟨⟨hle6, rfl⟩, ?_⟩) | refine O_nil ?_ | refine A_seq ?_ | refine A_region ?_ | refine A_skip ?_ | refine A_ret ?_ | (show drJ _ _ _ _ _ _ _ (.q _ _) _; refine D_q rfl ?_) | (show drJ _ _ _ _ _ _ _ (.e _ _) _; refine D_e rfl ?_) | (show drQ _ _ _ _ _ _; first | refine D_ev rfl (Ev_pure rfl) rfl rfl ?_ | (show drQ _ _ _ ⟨_, .fieldAddr _ _ _, _, _, _, _⟩ _ _; refine D_ev rfl (Ev_fieldAddr rfl rfl rfl) rfl rfl ?_) | (show drQ _ _ _ ⟨_, .call _, _, _, _, _⟩ _ _; refine D_ev rfl (Ev_slen rfl) rfl rfl ?_) | (show drQ _ _ _ ⟨_, .binOp _ _ _ _ _, _, _, _, _⟩ _ _; refine D_ev rfl (Ev_add rfl rfl (wi64 (by omega))) rfl rfl ?_) | (show drQ _ _ _ ⟨_, .nilCheck _, _, _, _, _⟩ _ _; refine D_ev rfl (Ev_nilCheck rfl) rfl rfl ?_)) | (show opsA _ _ _ _ _ _ _; first | refine O_ev WideF.wide rfl (Ev_pure rfl) rfl rfl ?_ | (show opsA _ _ _ _ (⟨_, .indexAddr _ _ _, _, _, _, _⟩ :: _) _ _; refine O_ev WideF.wide rfl (Ev_indexAddr rfl rfl (by omega) (by omega)) rfl rfl ?_) | (show opsA _ _ _ _ (⟨_, .fieldAddr _ _ _, _, _, _, _⟩ :: _) _ _; refine O_ev WideF.wide rfl (Ev_fieldAddr rfl rfl rfl) rfl rfl ?_) | (show opsA _ _ _ _ (⟨_, .call _, _, _, _, _⟩ :: _) _ _; refine O_ev WideF.wide rfl (Ev_llen rfl) rfl rfl ?_) | (show opsA _ _ _ _ (⟨_, .nilCheck _, _, _, _, _⟩ :: _) _ _; refine O_ev WideF.wide rfl (Ev_nilCheck rfl) rfl rfl ?_) | (show opsA _ _ _ _ (⟨_, .alloc _, _, _, _, _⟩ :: _) _ _; (refine O_ef rfl (Ef_alloc WideF.wide rfl ?_); intro b)) | (show opsA _ _ _ _ (⟨_, .box _ _, _, _, _, _⟩ :: _) _ _; (refine O_ef rfl (Ef_boxa WideF.wide rfl rfl ?_); intro b)) | (show opsA _ _ _ _ (⟨_, .store _ _ _, _, _, _, _⟩ :: _) _ _; refine O_ef rfl (Ef_storew WideF.wide rfl rfl rfl rfl rfl ?_))) | (show wpA _ _ _ (.cond _ _ _) _ _ _ _; (refine A_if rfl (fun h => ?_) (fun h => ?_) <;> try (exfalso; omega))))
        all_goals try (exfalso; omega)
        all_goals try (exfalso; exact absurd trivial (by assumption))
        all_goals try (exfalso; exact absurd (rfl : (0 : Int) = 0) (by assumption))
        exact End_m (Ret1 rfl rfl) ⟨rfl, kvs', hG', rfl⟩
    · have hlv := hpp.elim (fun h => absurd h h0) id
      obtain ⟨j, rfl⟩ : ∃ j : Nat, lev = j + 1 := ⟨(lev - 1).toNat, by omega⟩
      have hkey := fun Hx (hle : HLe H Hx) => key_fn (HCells.mono hle hM1') (hr.mono hle) (by omega) (part := part) (at_ := at_) (by omega) ⟨by omega, by omega⟩ hN
      have hlen : ∀ x : List Value, x = ncells N → x.length = 10 := fun x hx => by rw [hx, List.length_map]; exact hNl
      by_cases hsh : shas kvs (keyS ps part at_ N)
      · have hbad := hG.bad part at_ N hN (by omega) hat hsh
        rw [hdr] at hbad
        rw [hbad]
        refine Fn_of _ _ Tryz.func49 rfl Tryz.ntmps49 rfl fun c => ?_
        repeat' (first | (refine A_freezeBox honeP ?_; intro H1 hle1 hbp; unfold prow at hbp; dsimp only at hbp; refine A_freezeBox hone ?_; intro H2 hle2 hbN) | (refine O_ev WideF.wide rfl (Ev_loadH1 rfl (hM1 1 _ rfl)) rfl rfl ?_) | (refine O_ev WideF.wide rfl (Ev_loadH rfl hc5 rfl) rfl rfl ?_) | (refine O_ev WideF.wide rfl (Ev_loadH1 rfl (hle2 _ _ _ (hbp 1 _ rfl))) rfl rfl ?_) | (refine O_ev WideF.wide rfl (Ev_loadH rfl hbN (by rw [List.length_map]; exact hNl)) rfl rfl ?_) | (refine O_ef rfl (Ef_call (I := []) WideF.wide (hkey _ (hle1.trans hle2)) ⟨rfl, rfl, rfl, rfl, trivial⟩ rfl ?_); rintro u H3 I3 hle3 ⟨rfl, rfl⟩) | (refine O_ev WideF.wide rfl (Ev_loadH1 rfl (hle3 _ _ _ (hle2 _ _ _ (hle1 _ _ _ (hM1 3 _ rfl))))) rfl rfl ?_) | (refine O_ev WideF.wide rfl (Ev_lookupT (zv := .bool false) (i := 0) Tryz.zeroValue4 rfl rfl rfl) rfl rfl ?_; rw [hG.val, decide_eq_true hsh]) | refine O_nil ?_ | refine A_seq ?_ | refine A_region ?_ | refine A_skip ?_ | refine A_ret ?_ | (show opsA _ _ _ _ _ _ _; first | refine O_ev WideF.wide rfl (Ev_pure rfl) rfl rfl ?_ | (show opsA _ _ _ _ (⟨_, .indexAddr _ _ _, _, _, _, _⟩ :: _) _ _; refine O_ev WideF.wide rfl (Ev_indexAddr rfl rfl (by omega) (by omega)) rfl rfl ?_) | (show opsA _ _ _ _ (⟨_, .fieldAddr _ _ _, _, _, _, _⟩ :: _) _ _; refine O_ev WideF.wide rfl (Ev_fieldAddr rfl rfl rfl) rfl rfl ?_) | (show opsA _ _ _ _ (⟨_, .call _, _, _, _, _⟩ :: _) _ _; refine O_ev WideF.wide rfl (Ev_llen rfl) rfl rfl ?_) | (show opsA _ _ _ _ (⟨_, .nilCheck _, _, _, _, _⟩ :: _) _ _; refine O_ev WideF.wide rfl (Ev_nilCheck rfl) rfl rfl ?_) | (show opsA _ _ _ _ (⟨_, .alloc _, _, _, _, _⟩ :: _) _ _; (refine O_ef rfl (Ef_alloc WideF.wide rfl ?_); intro b)) | (show opsA _ _ _ _ (⟨_, .box _ _, _, _, _, _⟩ :: _) _ _; (refine O_ef rfl (Ef_boxa WideF.wide rfl rfl ?_); intro b)) | (show opsA _ _ _ _ (⟨_, .store _ _ _, _, _, _, _⟩ :: _) _ _; refine O_ef rfl (Ef_storew WideF.wide rfl rfl rfl rfl rfl ?_))) | (show wpA _ _ _ (.cond _ _ _) _ _ _ _; first | (refine A_if rfl (fun h => ?_) (fun h => ?_) <;> try (exfalso; omega)) | refine A_iftrue rfl ?_))
        all_goals try (exfalso; omega)
        all_goals try (exfalso; exact absurd trivial (by assumption))
        exact End_m (Ret1 rfl rfl) ⟨rfl, kvs, hG, rfl⟩
      · obtain ⟨J, hJ⟩ : ∃ J, J = min (lab.length - at_) 16 := ⟨_, rfl⟩
        have hmin : (if (at_ : Int) + 16 < (lab.length : Int) then (at_ : Int) + 16 else (lab.length : Int)) = (at_ : Int) + J := by split <;> omega
        have hmt : mtP (fmts l) (⟨lit, j + 1, pl⟩ :: ps.drop (part + 1)) (lab.drop at_) N = (List.range J).any (tryJ (fmts l) ⟨lit, j + 1, pl⟩ (ps.drop (part + 1)) (lab.drop at_) N) := by
          rw [mtP_place h0, List.length_drop, hJ]
        have hj10 : ((j : Int) + 1).toNat = j + 1 := by omega
        have hblt : Nat.blt (0 + ((j : Int) + 1).toNat * 1) (ncells N).length = true := by
          rw [List.length_map, hNl, hj10]
          exact Nat.ble_eq_true_of_le (by omega)
        have htset : ∀ y : Int, tset (ncells N) (0 + ((j : Int) + 1).toNat * 1) (.int .i64 y) = ncells (N.set (j + 1) y) := fun y => by
          rw [tset_eq, hj10, Nat.zero_add, Nat.mul_one]; unfold ncells; rw [List.map_set]
        have hgetN : (ncells N)[j + 1]? = some (.int .i64 (N.getD (j + 1) 0)) := by
          rw [List.getElem?_map, List.getElem?_eq_getElem (by omega)]
          simp [List.getD, show j + 1 < N.length by omega]
        rw [hmt]
        refine Fn_of _ _ Tryz.func49 rfl Tryz.ntmps49 rfl fun c => ?_
        repeat' (first | (refine A_freezeBox honeP ?_; intro H1 hle1 hbp; unfold prow at hbp; dsimp only at hbp; refine A_freezeBox hone ?_; intro H2 hle2 hbN) | (refine O_ev WideF.wide rfl (Ev_loadH1 rfl (hM1 1 _ rfl)) rfl rfl ?_) | (refine O_ev WideF.wide rfl (Ev_loadH rfl hc5 rfl) rfl rfl ?_) | (refine O_ev WideF.wide rfl (Ev_loadH1 rfl (hle2 _ _ _ (hbp 1 _ rfl))) rfl rfl ?_) | (refine O_ev WideF.wide rfl (Ev_loadH rfl hbN (by rw [List.length_map]; exact hNl)) rfl rfl ?_) | (refine O_ef rfl (Ef_call (I := []) WideF.wide (hkey _ (hle1.trans hle2)) ⟨rfl, rfl, rfl, rfl, trivial⟩ rfl ?_); rintro u H3 I3 hle3 ⟨rfl, rfl⟩) | (refine O_ev WideF.wide rfl (Ev_loadH1 rfl (hle3 _ _ _ (hle2 _ _ _ (hle1 _ _ _ (hM1 3 _ rfl))))) rfl rfl ?_) | (refine O_ev WideF.wide rfl (Ev_lookupT (zv := .bool false) (i := 0) Tryz.zeroValue4 rfl rfl rfl) rfl rfl ?_; rw [hG.val, decide_eq_false hsh]) | refine O_nil ?_ | refine A_seq ?_ | refine A_region ?_ | refine A_skip ?_ | refine A_block ?_ | (show opsA _ _ _ _ _ _ _; first | refine O_ev WideF.wide rfl (Ev_pure rfl) rfl rfl ?_ | (show opsA _ _ _ _ (⟨_, .indexAddr _ _ _, _, _, _, _⟩ :: _) _ _; refine O_ev WideF.wide rfl (Ev_indexAddr rfl rfl (by omega) (by omega)) rfl rfl ?_) | (show opsA _ _ _ _ (⟨_, .fieldAddr _ _ _, _, _, _, _⟩ :: _) _ _; refine O_ev WideF.wide rfl (Ev_fieldAddr rfl rfl rfl) rfl rfl ?_) | (show opsA _ _ _ _ (⟨_, .call _, _, _, _, _⟩ :: _) _ _; refine O_ev WideF.wide rfl (Ev_llen rfl) rfl rfl ?_) | (show opsA _ _ _ _ (⟨_, .binOp _ _ _ _ _, _, _, _, _⟩ :: _) _ _; refine O_ev WideF.wide rfl (Ev_add rfl rfl (wi64 (by omega))) rfl rfl ?_) | (show opsA _ _ _ _ (⟨_, .nilCheck _, _, _, _, _⟩ :: _) _ _; refine O_ev WideF.wide rfl (Ev_nilCheck rfl) rfl rfl ?_) | (show opsA _ _ _ _ (⟨_, .alloc _, _, _, _, _⟩ :: _) _ _; (refine O_ef rfl (Ef_alloc WideF.wide rfl ?_); intro b)) | (show opsA _ _ _ _ (⟨_, .box _ _, _, _, _, _⟩ :: _) _ _; (refine O_ef rfl (Ef_boxa WideF.wide rfl rfl ?_); intro b)) | (show opsA _ _ _ _ (⟨_, .store _ _ _, _, _, _, _⟩ :: _) _ _; refine O_ef rfl (Ef_storew WideF.wide rfl rfl rfl rfl rfl ?_))) | (show wpA _ _ _ (.cond _ _ _) _ _ _ _; first | (refine A_if rfl (fun h => ?_) (fun h => ?_) <;> try (exfalso; omega)) | refine A_iffalse rfl ?_))
        all_goals try (exfalso; omega)
        all_goals try (exfalso; exact absurd trivial (by assumption))
        rename_i b7 hq1
        have hcH : ∀ Hx, HLe H3 Hx → HLe H Hx := fun Hx h => hle1.trans (hle2.trans (hle3.trans h))
        refine A_loopu (fun m st => ∃ (i : Nat) (kvs1 : List (List UInt8 × Value)) (H4 : Hp), m = J - i ∧ i ≤ J ∧ HLe H3 H4 ∧ GoodM l ps lab kvs1 ∧ (∀ q, q < i → tryJ (fmts l) ⟨lit, j + 1, pl⟩ (ps.drop (part + 1)) (lab.drop at_) N q = false) ∧ st = ⟨121, [(0, ptr mb), (1, .int .i64 part), (2, .int .i64 at_), (7, ptr b7), (9, ptr b), (10, sv (keyS ps part at_ N)), (11, .int .i64 ((at_ : Int) + 1 + i))], H4, [.obj mm (smobj kvs1)], [], []⟩) ?_ ?_
        · exact Shift.to ⟨_, 0, kvs, H3, rfl, by omega, HLe.refl H3, hG, fun q h => by omega, rfl⟩ ⟨rfl, rfl, rfl, ⟨rfl, rfl, rfl, rfl, rfl, rfl, by show some _ = some _; simp, trivial⟩, Own.sub_refl _⟩
        · rintro m st ⟨i, kvs1, H4, rfl, hi, hl4, hG1, hno, rfl⟩
          by_cases hlt : i < J
          · have hsl : (lab.take ((at_ : Int) + 1 + i).toNat).drop (at_ : Int).toNat = (lab.drop at_).take (i + 1) := by
              rw [show ((at_ : Int) + 1 + i).toNat = at_ + (i + 1) by omega, show (at_ : Int).toNat = at_ by omega, List.drop_take, Nat.add_sub_cancel_left]
            have hca := fun Hx (hle : HLe H Hx) => lcand_fn (hM.env.mono hle) (HCells.mono hle hM1') (hx.mono hle) (by omega) (p := ⟨lit, j + 1, pl⟩) hlv (s := (lab.drop at_).take (i + 1)) (by rw [List.length_take]; omega) (N.getD (j + 1) 0)
            have hgN := fun Hx (hle : HLe H2 Hx) => hle _ _ _ (hbN (j + 1) _ hgetN)
            unfold IntsIs at hca
            have htry : tryJ (fmts l) ⟨lit, j + 1, pl⟩ (ps.drop (part + 1)) (lab.drop at_) N i = (candP (fmtOf (fmts l) ⟨lit, j + 1, pl⟩) pl ((lab.drop at_).take (i + 1)) (N.getD (j + 1) 0)).any fun n => mtP (fmts l) (ps.drop (part + 1)) ((lab.drop at_).drop (i + 1)) (N.set (j + 1) n) := by
              unfold tryJ
              dsimp only
              rw [hj10]
            have hcb : ∀ n ∈ candP (fmtOf (fmts l) ⟨lit, j + 1, pl⟩) pl ((lab.drop at_).take (i + 1)) (N.getD (j + 1) 0), -2 ≤ n ∧ n ≤ 999999 := fun n hn => cand_b (hN.b (j + 1)) hn
            dsimp only at hca
            generalize hCe : candP (fmtOf (fmts l) ⟨lit, j + 1, pl⟩) pl ((lab.drop at_).take (i + 1)) (N.getD (j + 1) 0) = C at hca htry hcb
            have hl24 : HLe H2 H4 := hle3.trans hl4
            repeat' (first | (refine A_drawM WideF.wide (.q 0 (.q 1 (.q 2 (.q 3 (.q 4 (.q 5 (.q 6 (.q 7 (.q 8 (.q 9 (.q 10 (.q 11 (.q 12 (.q 15 (.e 13 (.q 14 (.done []))))))))))))))))) [] (by decide +kernel) ?_) | (refine O_ev WideF.wide rfl (Ev_loadH1 rfl (hl4 _ _ _ (hle3 _ _ _ (hle2 _ _ _ (hle1 _ _ _ (hM1 2 _ rfl)))))) rfl rfl ?_) | (refine O_ev WideF.wide rfl (Ev_mini rfl rfl) rfl rfl ?_; rw [hmin]) | (refine D_ev rfl (Ev_loadH1 rfl (hl4 _ _ _ (hle3 _ _ _ (hle2 _ _ _ (hle1 _ _ _ (hM1 2 _ rfl)))))) rfl rfl ?_) | (refine D_ev rfl (Ev_loadH rfl (HCells.mono (hle2.trans hl24) hbp) rfl) rfl rfl ?_) | (refine D_ev rfl (Ev_loadH1 rfl (hl24 _ _ _ (hle2 _ _ _ (hbp 1 _ rfl)))) rfl rfl ?_) | (refine D_ev rfl (Ev_indexArr rfl rfl (by omega) (by omega)) rfl rfl ?_; rw [hj10, Nat.zero_add, Nat.mul_one]) | (refine D_ev rfl (Ev_loadH1 rfl (by have := hgN _ hl24; rwa [Nat.zero_add] at this)) rfl rfl ?_) | (refine D_ev rfl (Ev_sslice rfl rfl rfl (by omega) (by omega) (by omega)) rfl rfl ?_; rw [hsl]) | (refine E_ef rfl (Ef_call (I := []) WideF.wide (hca _ (hcH _ hl4)) ⟨rfl, rfl, rfl, rfl, trivial⟩ rfl ?_); rintro u5 H5 I5 hle5 ⟨a5, n5, c5, rfl, hr5, rfl⟩; refine ⟨⟨hle5, rfl⟩, ?_⟩) | (show drJ _ _ _ _ _ _ _ (.done _) _; refine D_done ?_; rw [List.append_nil]) | refine O_nil ?_ | refine A_seq ?_ | refine A_region ?_ | refine A_skip ?_ | refine A_block ?_ | (show drJ _ _ _ _ _ _ _ (.q _ _) _; refine D_q rfl ?_) | (show drJ _ _ _ _ _ _ _ (.e _ _) _; refine D_e rfl ?_) | (show drQ _ _ _ _ _ _; first | refine D_ev rfl (Ev_pure rfl) rfl rfl ?_ | (show drQ _ _ _ ⟨_, .fieldAddr _ _ _, _, _, _, _⟩ _ _; refine D_ev rfl (Ev_fieldAddr rfl rfl rfl) rfl rfl ?_) | (show drQ _ _ _ ⟨_, .call _, _, _, _, _⟩ _ _; refine D_ev rfl (Ev_llen rfl) rfl rfl ?_) | (show drQ _ _ _ ⟨_, .nilCheck _, _, _, _, _⟩ _ _; refine D_ev rfl (Ev_nilCheck rfl) rfl rfl ?_)) | (show opsA _ _ _ _ _ _ _; first | refine O_ev WideF.wide rfl (Ev_pure rfl) rfl rfl ?_ | (show opsA _ _ _ _ (⟨_, .fieldAddr _ _ _, _, _, _, _⟩ :: _) _ _; refine O_ev WideF.wide rfl (Ev_fieldAddr rfl rfl rfl) rfl rfl ?_) | (show opsA _ _ _ _ (⟨_, .call _, _, _, _, _⟩ :: _) _ _; refine O_ev WideF.wide rfl (Ev_slen rfl) rfl rfl ?_) | (show opsA _ _ _ _ (⟨_, .binOp _ _ _ _ _, _, _, _, _⟩ :: _) _ _; refine O_ev WideF.wide rfl (Ev_add rfl rfl (wi64 (by omega))) rfl rfl ?_) | (show opsA _ _ _ _ (⟨_, .nilCheck _, _, _, _, _⟩ :: _) _ _; refine O_ev WideF.wide rfl (Ev_nilCheck rfl) rfl rfl ?_)) | (show wpA _ _ _ (.cond _ _ _) _ _ _ _; (refine A_if rfl (fun h => ?_) (fun h => ?_) <;> try (exfalso; omega))))
            all_goals try (exfalso; omega)
            have hn5 : C.length = n5 := by have := hr5.len; rw [List.length_map] at this; exact this
            have hl5 := hl24.trans hle5
            have hCl : n5 < 68719476736 := by
              have h1 : C.length ≤ 2 := by
                rw [← hCe]
                exact cand_two
              omega
            refine A_loopu (fun m st => ∃ (q : Nat) (kvs2 : List (List UInt8 × Value)) (H6 : Hp), m = n5 - q ∧ q ≤ n5 ∧ HLe H5 H6 ∧ GoodM l ps lab kvs2 ∧ (∀ q', q' < q → ∀ y, C[q']? = some y → mtP (fmts l) (ps.drop (part + 1)) ((lab.drop at_).drop (i + 1)) (N.set (j + 1) y) = false) ∧ st = ⟨121, [(0, ptr mb), (1, .int .i64 part), (2, .int .i64 at_), (7, ptr b7), (9, ptr b), (10, sv (keyS ps part at_ N)), (11, .int .i64 ((at_ : Int) + 1 + i)), (98, .slice a5 n5 c5), (99, .int .i64 n5), (100, .int .i64 q)], H6, [.obj mm (smobj kvs2)], [], []⟩) ?_ ?_
            · exact Shift.to ⟨_, 0, kvs1, H5, rfl, by omega, HLe.refl H5, hG1, fun q h => by omega, rfl⟩ ⟨rfl, rfl, rfl, ⟨rfl, rfl, rfl, rfl, rfl, rfl, rfl, rfl, rfl, rfl, trivial⟩, Own.sub_refl _⟩
            · rintro m st ⟨q, kvs2, H6, rfl, hq, hl6, hG2, hno2, rfl⟩
              by_cases hqt : q < n5
              · obtain ⟨b8, o8, y, rfl, hyq, hcy⟩ := hr5.atm q hqt
                unfold irow at hcy
                have hyC := List.mem_of_getElem? hyq
                have hNs : NOk (N.set (j + 1) y) := hN.set (by omega) (hcb y hyC)
                have hNsl : (ncells (N.set (j + 1) y)).length = 10 := by rw [List.length_map]; exact hNs.len
                have hts := htset y
                have hih := fun Hx (hle : HLe H Hx) => ih (part + 1) (at_ + (i + 1)) Hx (N.set (j + 1) y) kvs2 (by omega) (by omega) hNs hG2 (hM.mono hle)
                simp only [show ((part + 1 : Nat) : Int) = (part : Int) + 1 by omega, show ((at_ + (i + 1) : Nat) : Int) = (at_ : Int) + 1 + i by omega] at hih
                rw [show lab.drop (at_ + (i + 1)) = (lab.drop at_).drop (i + 1) from List.drop_drop.symm] at hih
                have hl26 := hl5.trans hl6
                have hcH6 : HLe H H6 := hcH _ ((hl4.trans hle5).trans hl6)
                cases hv : mtP (fmts l) (ps.drop (part + 1)) ((lab.drop at_).drop (i + 1)) (N.set (j + 1) y) with
                | true =>
                  rw [hv] at hih
                  have htr : (List.range J).any (tryJ (fmts l) ⟨lit, j + 1, pl⟩ (ps.drop (part + 1)) (lab.drop at_) N) = true := any_range_true hlt (by rw [htry]; exact List.any_eq_true.2 ⟨y, hyC, hv⟩)
                  rw [htr]
                  repeat' (first | (refine O_ev WideF.wide rfl (Ev_loadH1 rfl (hl6 _ _ _ (hcy 0 _ rfl))) rfl rfl ?_) | (refine O_ev WideF.wide rfl (Ev_loadH rfl (HCells.mono hl26 hbN) (by rw [List.length_map]; exact hNl)) rfl rfl ?_) | (refine O_ef rfl (Ef_storew WideF.wide rfl rfl (by rw [List.length_map]; exact hNl) (List.all_eq_true.2 hone) (by rw [List.length_map, hNl]; rfl) ?_)) | (refine O_ev WideF.wide rfl (Ev_loadH1 rfl (hl26 _ _ _ (hle2 _ _ _ (hbp 1 _ rfl)))) rfl rfl ?_) | (refine O_ev WideF.wide rfl (Ev_indexArr rfl rfl (by omega) (by omega)) rfl rfl ?_) | (refine O_ef rfl (Ef_store1 WideF.wide rfl rfl rfl hblt hts ?_)) | (refine O_ev WideF.wide rfl (Ev_loadB (i := 0) rfl rfl hNsl) rfl rfl ?_) | (refine O_ef rfl (Ef_call1 WideF.wide (hih _ hcH6) ⟨rfl, rfl, rfl, rfl, trivial⟩ rfl ?_); rintro u7 H7 I7 hle7 ⟨rfl, kvs3, hG3, rfl⟩) | refine O_nil ?_ | refine A_seq ?_ | refine A_region ?_ | refine A_skip ?_ | refine A_ret ?_ | refine A_block ?_ | (show opsA _ _ _ _ _ _ _; first | refine O_ev WideF.wide rfl (Ev_pure rfl) rfl rfl ?_ | (show opsA _ _ _ _ (⟨_, .indexAddr _ _ _, _, _, _, _⟩ :: _) _ _; refine O_ev WideF.wide rfl (Ev_indexAddr rfl rfl (by omega) (by omega)) rfl rfl ?_) | (show opsA _ _ _ _ (⟨_, .fieldAddr _ _ _, _, _, _, _⟩ :: _) _ _; refine O_ev WideF.wide rfl (Ev_fieldAddr rfl rfl rfl) rfl rfl ?_) | (show opsA _ _ _ _ (⟨_, .binOp _ _ _ _ _, _, _, _, _⟩ :: _) _ _; refine O_ev WideF.wide rfl (Ev_add rfl rfl (wi64 (by omega))) rfl rfl ?_) | (show opsA _ _ _ _ (⟨_, .alloc _, _, _, _, _⟩ :: _) _ _; (refine O_ef rfl (Ef_alloc WideF.wide rfl ?_); intro b))) | (show wpA _ _ _ (.cond _ _ _) _ _ _ _; first | (refine A_if rfl (fun h => ?_) (fun h => ?_) <;> try (exfalso; omega)) | refine A_iftrue rfl ?_))
                  all_goals try (exfalso; omega)
                  refine End_s (Ret1 rfl rfl) ?_
                  exact Shift.to (s' := ⟨121, [], _, [.obj mm (smobj kvs3)], [], []⟩) ⟨rfl, rfl, kvs3, hG3, rfl⟩ ⟨rfl, rfl, rfl, trivial, Own.subi [1] (by decide) rfl rfl⟩
                | false =>
                  rw [hv] at hih
                  repeat' (first | (refine O_ev WideF.wide rfl (Ev_loadH1 rfl (hl6 _ _ _ (hcy 0 _ rfl))) rfl rfl ?_) | (refine O_ev WideF.wide rfl (Ev_loadH rfl (HCells.mono hl26 hbN) (by rw [List.length_map]; exact hNl)) rfl rfl ?_) | (refine O_ef rfl (Ef_storew WideF.wide rfl rfl (by rw [List.length_map]; exact hNl) (List.all_eq_true.2 hone) (by rw [List.length_map, hNl]; rfl) ?_)) | (refine O_ev WideF.wide rfl (Ev_loadH1 rfl (hl26 _ _ _ (hle2 _ _ _ (hbp 1 _ rfl)))) rfl rfl ?_) | (refine O_ev WideF.wide rfl (Ev_indexArr rfl rfl (by omega) (by omega)) rfl rfl ?_) | (refine O_ef rfl (Ef_store1 WideF.wide rfl rfl rfl hblt hts ?_)) | (refine O_ev WideF.wide rfl (Ev_loadB (i := 0) rfl rfl hNsl) rfl rfl ?_) | (refine O_ef rfl (Ef_call1 WideF.wide (hih _ hcH6) ⟨rfl, rfl, rfl, rfl, trivial⟩ rfl ?_); rintro u7 H7 I7 hle7 ⟨rfl, kvs3, hG3, rfl⟩) | refine O_nil ?_ | refine A_seq ?_ | refine A_region ?_ | refine A_skip ?_ | refine A_block ?_ | (show opsA _ _ _ _ _ _ _; first | refine O_ev WideF.wide rfl (Ev_pure rfl) rfl rfl ?_ | (show opsA _ _ _ _ (⟨_, .indexAddr _ _ _, _, _, _, _⟩ :: _) _ _; refine O_ev WideF.wide rfl (Ev_indexAddr rfl rfl (by omega) (by omega)) rfl rfl ?_) | (show opsA _ _ _ _ (⟨_, .fieldAddr _ _ _, _, _, _, _⟩ :: _) _ _; refine O_ev WideF.wide rfl (Ev_fieldAddr rfl rfl rfl) rfl rfl ?_) | (show opsA _ _ _ _ (⟨_, .binOp _ _ _ _ _, _, _, _, _⟩ :: _) _ _; refine O_ev WideF.wide rfl (Ev_add rfl rfl (wi64 (by omega))) rfl rfl ?_) | (show opsA _ _ _ _ (⟨_, .alloc _, _, _, _, _⟩ :: _) _ _; (refine O_ef rfl (Ef_alloc WideF.wide rfl ?_); intro b))) | (show wpA _ _ _ (.cond _ _ _) _ _ _ _; first | (refine A_if rfl (fun h => ?_) (fun h => ?_) <;> try (exfalso; omega)) | refine A_iffalse rfl ?_))
                  all_goals try (exfalso; omega)
                  refine Shift.to ⟨_, ?_, q + 1, kvs3, _, rfl, by omega, hl6.trans hle7, hG3, fun q' hq' z hz => ?_, rfl⟩ ⟨rfl, rfl, rfl, ⟨rfl, rfl, rfl, rfl, rfl, rfl, rfl, rfl, rfl, rfl, trivial⟩, Own.subi [1] (by decide) rfl rfl⟩
                  · omega
                  · by_cases hqq : q' = q
                    · subst hqq; rw [hyq] at hz; cases hz; exact hv
                    · exact hno2 q' (by omega) z hz
              · have htf : tryJ (fmts l) ⟨lit, j + 1, pl⟩ (ps.drop (part + 1)) (lab.drop at_) N i = false := by
                  rw [htry, List.any_eq_false]
                  intro y hy
                  obtain ⟨q', hq', e⟩ := List.getElem_of_mem hy
                  rw [hno2 q' (by omega) y (by rw [List.getElem?_eq_getElem hq', e])]
                  simp
                repeat' (first | refine O_nil ?_ | refine A_seq ?_ | refine A_region ?_ | (show opsA _ _ _ _ _ _ _; first | refine O_ev WideF.wide rfl (Ev_pure rfl) rfl rfl ?_ | (show opsA _ _ _ _ (⟨_, .binOp _ _ _ _ _, _, _, _, _⟩ :: _) _ _; refine O_ev WideF.wide rfl (Ev_add rfl rfl (wi64 (by omega))) rfl rfl ?_)) | (show wpA _ _ _ (.exit _) _ _ _ _; refine A_exit rfl ?_) | (show wpA _ _ _ (.cond _ _ _) _ _ _ _; (refine A_if rfl (fun h => ?_) (fun h => ?_) <;> try (exfalso; omega))))
                all_goals try (exfalso; omega)
                refine Shift.to ⟨_, ?_, i + 1, kvs2, H6, rfl, by omega, (hl4.trans hle5).trans hl6, hG2, fun q' hq' => ?_, rfl⟩ ⟨rfl, rfl, rfl, ⟨rfl, rfl, rfl, rfl, rfl, rfl, rfl, trivial⟩, Own.sub_refl _⟩
                · omega
                · by_cases hqi : q' = i
                  · subst hqi; exact htf
                  · exact hno q' (by omega)
          · have hiJ : i = J := by omega
            subst hiJ
            have hf := any_range_false hno
            rw [hf]
            rw [← hmt, ← hdr] at hf
            repeat' (first | (refine O_ev WideF.wide rfl (Ev_loadH1 rfl (hl4 _ _ _ (hle3 _ _ _ (hle2 _ _ _ (hle1 _ _ _ (hM1 2 _ rfl)))))) rfl rfl ?_) | (refine O_ev WideF.wide rfl (Ev_loadH1 rfl (hl4 _ _ _ (hle3 _ _ _ (hle2 _ _ _ (hle1 _ _ _ (hM1 3 _ rfl)))))) rfl rfl ?_) | (refine O_ev WideF.wide rfl (Ev_mini rfl rfl) rfl rfl ?_; rw [hmin]) | (refine O_ef rfl (Ef_mapPutT WideF.wide rfl rfl rfl ?_)) | refine O_nil ?_ | refine A_seq ?_ | refine A_region ?_ | refine A_ret ?_ | (show opsA _ _ _ _ _ _ _; first | refine O_ev WideF.wide rfl (Ev_pure rfl) rfl rfl ?_ | (show opsA _ _ _ _ (⟨_, .fieldAddr _ _ _, _, _, _, _⟩ :: _) _ _; refine O_ev WideF.wide rfl (Ev_fieldAddr rfl rfl rfl) rfl rfl ?_) | (show opsA _ _ _ _ (⟨_, .call _, _, _, _, _⟩ :: _) _ _; refine O_ev WideF.wide rfl (Ev_slen rfl) rfl rfl ?_) | (show opsA _ _ _ _ (⟨_, .binOp _ _ _ _ _, _, _, _, _⟩ :: _) _ _; refine O_ev WideF.wide rfl (Ev_add rfl rfl (wi64 (by omega))) rfl rfl ?_) | (show opsA _ _ _ _ (⟨_, .nilCheck _, _, _, _, _⟩ :: _) _ _; refine O_ev WideF.wide rfl (Ev_nilCheck rfl) rfl rfl ?_)) | (show wpA _ _ _ (.exit _) _ _ _ _; refine A_exit rfl ?_) | (show wpA _ _ _ (.cond _ _ _) _ _ _ _; (refine A_if rfl (fun h => ?_) (fun h => ?_) <;> try (exfalso; omega))))
            all_goals try (exfalso; omega)
            exact End_m (Ret1 rfl rfl) ⟨rfl, _, hG1.put hpo (by omega) (by omega) hN (by omega) hat hf, rfl⟩
end Go.Proofs.YtaneeaojlkenmaaGreatDoor
