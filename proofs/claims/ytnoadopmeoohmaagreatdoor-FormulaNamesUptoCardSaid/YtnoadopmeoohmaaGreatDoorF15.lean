/-
  The parser's primaries and arguments; all its functions. Printed by genF15.py.
-/
import Derived.Test.YtnoadopmeoohmaaGreatDoorF14
namespace Go.Proofs.YtnoadopmeoohmaaGreatDoor
open Go
set_option linter.unusedVariables false
set_option linter.unusedSimpArgs false
theorem Ev_seqF {P : Program} {e : Env} {H : Hp} {R : Own} {dst : Option Tmp} {ty : TypeId} {pos : String} {after : Array Edge} {g : Option (Nat × Bool)} {x y : Operand} {t t2 : TypeId} {s s2 : List UInt8} (hne : ¬ s = s2) (hx : e.eval x = some (sv s)) (hy : e.eval y = some (sv s2)) :
    Ev P ⟨dst, .binOp .eql t x y t2, ty, pos, after, g⟩ e H R (.bool false) := by
  have h := Ev_seql (P := P) (H := H) (R := R) (dst := dst) (ty := ty) (pos := pos) (after := after) (g := g) (t := t) (t2 := t2) hx hy
  rwa [decide_eq_false hne] at h
theorem prs_prim {s : List UInt8} {k : Nat} {t : Tok} : prs s (k + 1) 8 t = (if t.kind = [110] then (if (digR t.text).2 = 0 then .ok (.mk 1 (digR t.text).1 [] []) (nxt s t) else .err (digR t.text).2 t.pos)
      else if t.kind = [115] then .ok (.mk 2 0 (Lib.replaceAll ((t.text.take (t.text.length - 1)).drop 1) [34, 34] [34]) []) (nxt s t)
      else if t.kind = [116, 114, 117, 101] then .ok (.mk 3 1 [] []) (nxt s t)
      else if t.kind = [102, 97, 108, 115, 101] then .ok (.mk 3 0 [] []) (nxt s t)
      else if t.kind = [105] then
        (if 40 < t.text.length then .err 13 t.pos
        else if (nxt s t).kind = [40] then (match arg s k (nxt s (nxt s t)) with | .ok l t' => .ok (.mk 5 0 t.text l) t' | .err e p => .err e p | .no => .no)
        else .ok (.mk 4 0 t.text []) (nxt s t))
      else if t.kind = [40] then (match prs s k 1 (nxt s t) with | .ok n t' => (if t'.kind = [41] then .ok n (nxt s t') else .err 14 t'.pos) | r => r)
      else .err 14 t.pos) := by
  rw [prs]
  · rfl
  all_goals (intro h; exact absurd h (by decide))
theorem prs_zero {s : List UInt8} {lv : Nat} {t : Tok} : prs s 0 lv t = .no := by rw [prs]
theorem arg_zero {s : List UInt8} {t : Tok} : arg s 0 t = .no := by rw [arg]
theorem agl_zero {s : List UInt8} {l : List Nd} {t : Tok} : agl s 0 l t = .no := by rw [agl]
theorem arg_succ {s : List UInt8} {k : Nat} {t : Tok} : arg s (k + 1) t = (if t.kind = [41] then .ok [] (nxt s t) else match prs s k 1 t with | .ok n t' => agl s k [n] t' | .err e p => .err e p | .no => .no) := by rw [arg]; rfl
theorem agl_succ {s : List UInt8} {k : Nat} {l : List Nd} {t : Tok} : agl s (k + 1) l t = (if t.kind = [44] then (match prs s k 1 (nxt s t) with | .ok n t' => agl s k (l ++ [n]) t' | .err e p => .err e p | .no => .no) else if t.kind = [41] then .ok l (nxt s t) else .err 14 t.pos) := by rw [agl]; rfl
theorem bool_num (b : Bool) : (booV b).num = if b then 1 else 0 := rfl
/-- what arguments() leaves -/
def APost (s : List UInt8) (b : Nat) (l : List Nd) (t' : Tok) (v : Value) (H' : Hp) (I : Own) : Prop :=
  (∃ (a : Option Addr) (n c : Nat), v = .slice a n c ∧ NodesS H' a n c l) ∧ I = [.box b (pcs s t')] ∧ TokOk s t'
def AC (s : List UInt8) (k : Nat) : Prop := ∀ (H : Hp) (t : Tok) (l : List Nd) (t' : Tok) (b : Nat), VarsH H → TokOk s t → arg s k t = .ok l t' →
  Fn Tryz.prog 223 [.pointer (some ⟨b, 0, none⟩)] H [.box b (pcs s t)] (APost s b l t')
attribute [local irreducible] wpA opsA drJ drQ drE Ef Ev Shift Fn
set_option maxRecDepth 100000 in
set_option maxHeartbeats 8000000 in
theorem args_fn {s : List UInt8} (hs : s.length < 4611686018427387904) {k : Nat} (hk : k ≤ 1000000) (hop : ∀ j, j ≤ k → OC s 42 1 j) : AC s (k + 1) := by
  intro H t l t' pb hV ht h
  rw [arg_succ] at h
  by_cases hk0 : t.kind = [41]
  · rw [if_pos hk0] at h
    cases h
    have ka := fun Hx a (hr : HRow Hx a 1 1 1 [[sv [41]]]) => accept_yes (b := pb) hs ht hr hk0
    refine Fn_of _ _ Tryz.func223 rfl Tryz.ntmps223 rfl fun c => ?_
    repeat' (first | (refine O_ef rfl (Ef_build11 WideF.wide rfl rfl rfl ?_); intro bk; refine O_freeze (ones_of rfl) ?_; intro H1 hk1 hr1) | (show opsA _ _ _ _ (⟨some 11, .call _, _, _, _, _⟩ :: _) _ _; refine O_ef rfl (Ef_call0 WideF.wide (ka _ _ hr1) ⟨rfl, rfl, trivial⟩ rfl ?_); rintro v H2 I2 hle2 ⟨rfl, rfl⟩) | refine O_nil ?_ | refine A_seq ?_ | refine A_region ?_ | refine A_ret ?_ | (show opsA _ _ _ _ _ _ _; refine O_ev WideF.wide rfl (Ev_pure rfl) rfl rfl ?_) | (show wpA _ _ _ (.cond _ _ _) _ _ _ _; refine A_iftrue rfl ?_))
    all_goals first
    | (exfalso; omega)
    | (exfalso; contradiction)
    | (exfalso; exact absurd trivial (by assumption))
    | (exfalso; exact absurd rfl (by assumption))
    | exact End_m (Ret1 rfl rfl) ⟨⟨_, _, _, rfl, NodesS.nil _⟩, rfl, ht.nxt⟩
    | trace_state
  rw [if_neg hk0] at h
  cases hm : prs s k 1 t with
  | no => rw [hm] at h; cases h
  | err e p => rw [hm] at h; cases h
  | ok n1 t1 =>
    rw [hm] at h
    dsimp only at h
    have ka := fun Hx a (hr : HRow Hx a 1 1 1 [[sv [41]]]) => accept_no (s := s) (b := pb) hr hk0
    have kr := fun Hx (hx : HLe H Hx) => hop k (Nat.le_refl _) Hx t n1 t1 pb (hV.mono hx) ht hm
    refine Fn_of _ _ Tryz.func223 rfl Tryz.ntmps223 rfl fun c => ?_
    repeat' (first | (refine O_ef rfl (Ef_build11 WideF.wide rfl rfl rfl ?_); intro bk; refine O_freeze (ones_of rfl) ?_; intro H1 hk1 hr1) | (show opsA _ _ _ _ (⟨some 11, .call _, _, _, _, _⟩ :: _) _ _; refine O_ef rfl (Ef_call0 WideF.wide (ka _ _ hr1) ⟨rfl, rfl, trivial⟩ rfl ?_); rintro v H2 I2 hle2 ⟨rfl, rfl⟩) | (show opsA _ _ _ _ (⟨some 16, .call _, _, _, _, _⟩ :: _) _ _; refine O_ef rfl (Ef_call0 WideF.wide (kr _ (hk1.trans hle2)) ⟨rfl, trivial⟩ rfl ?_); rintro v H3 I3 hle3 ⟨⟨a3, n3, c3, rfl, hn3⟩, rfl, hok3⟩) | (refine O_ef rfl (Ef_buildn WideF.wide (xs := [_]) (vs := [.agg _]) (css := [ncs n1 a3 n3 c3]) rfl ⟨rfl, trivial⟩ rfl rfl rfl rfl rfl rfl ?_); intro b3) | refine O_nil ?_ | refine A_seq ?_ | refine A_region ?_ | refine A_skip ?_ | refine A_block ?_ | (show opsA _ _ _ _ _ _ _; refine O_ev WideF.wide rfl (Ev_pure rfl) rfl rfl ?_) | (show wpA _ _ _ (.cond _ _ _) _ _ _ _; refine A_iffalse rfl ?_))
    all_goals try (exfalso; first | contradiction | exact absurd trivial (by assumption) | exact absurd rfl (by assumption))
    refine A_loopu (fun q st => ∃ (j : Nat) (l1 : List Nd) (tq : Tok) (css : List (List Value)) (a : Option Addr) (m c : Nat) (Hq : Hp), q = j ∧ j ≤ k ∧ m + j ≤ k + 1 ∧ agl s j l1 tq = .ok l t' ∧ TokOk s tq ∧ HLe H Hq ∧ All2 (NodeH Hq) css l1 ∧ css.length = m ∧
      st = ⟨34, [(0, .pointer (some ⟨pb, 0, none⟩)), (5, .slice a m c)], Hq, [.box pb (pcs s tq), .row (.slice a m c) 4 css], [], []⟩) ?_ ?_
    · exact Shift.to ⟨_, k, [n1], t1, _, _, 1, _, _, rfl, Nat.le_refl _, by omega, h, hok3, (hk1.trans hle2).trans hle3, .cons (NodeH.of hn3) .nil, rfl, rfl⟩ ⟨rfl, rfl, rfl, ⟨rfl, rfl, trivial⟩, Own.subi [1, 0] (by decide) rfl rfl⟩
    rintro q st ⟨j, l1, tq, css, a, m, c, Hq, rfl, hjk, hmj, hl, htq, hle, hall, hlen, rfl⟩
    have hone : ∀ cs ∈ css, ∀ u ∈ cs, u.oneCell' = true := by
      intro cs hcs u hu
      obtain ⟨i, hi⟩ := List.mem_iff_getElem?.1 hcs
      obtain ⟨x, _, hx⟩ := hall.get hi
      exact hx.one u hu
    cases q with
    | zero => rw [agl_zero] at hl; cases hl
    | succ q =>
      rw [agl_succ] at hl
      by_cases hc : tq.kind = [44]
      · rw [if_pos hc] at hl
        cases hm2 : prs s q 1 (nxt s tq) with
        | no => rw [hm2] at hl; cases hl
        | err e p => rw [hm2] at hl; cases hl
        | ok n2 t2 =>
          rw [hm2] at hl
          dsimp only at hl
          have kb := fun Hx a (hr : HRow Hx a 1 1 1 [[sv [44]]]) => accept_yes (b := pb) hs htq hr hc
          have k2 := fun Hx (hx : HLe Hq Hx) => hop q (by omega) Hx (nxt s tq) n2 t2 pb ((hV.mono hle).mono hx) htq.nxt hm2
          repeat' (first | (refine O_ef rfl (Ef_build11 WideF.wide rfl rfl rfl ?_); intro bk; refine O_freeze (ones_of rfl) ?_; intro H1 hk1 hr1) | (show opsA _ _ _ _ (⟨some 21, .call _, _, _, _, _⟩ :: _) _ _; refine O_ef rfl (Ef_call (I := [_]) WideF.wide (kb _ _ hr1) ⟨rfl, rfl, trivial⟩ rfl ?_); rintro v H2 I2 hle2 ⟨rfl, rfl⟩) | (show opsA _ _ _ _ (⟨some 31, .call _, _, _, _, _⟩ :: _) _ _; refine O_ef rfl (Ef_call (I := [_]) WideF.wide (k2 _ (hk1.trans hle2)) ⟨rfl, trivial⟩ rfl ?_); rintro v H3 I3 hle3 ⟨⟨a4, n4, c4, rfl, hn4⟩, rfl, hok4⟩) | (refine O_ef rfl (Ef_buildF WideF.wide (xs := [_]) (vs := [.agg _]) (css := [ncs n2 a4 n4 c4]) rfl ⟨rfl, trivial⟩ rfl rfl rfl rfl rfl rfl (ncs_one1 _ _ _ _) ?_); intro b4 H4 hle4 hr4) | (refine O_f1 (O_ef rfl (Ef_appendH (css := css) WideF.wide rfl rfl hr4 rfl rfl (by first | omega | (simp; omega)) (by first | omega | (simp; omega)) rfl ?_)); intro a5 c5) | refine O_nil ?_ | refine A_seq ?_ | refine A_region ?_ | refine A_skip ?_ | refine A_block ?_ | (show opsA _ _ _ _ _ _ _; first | refine O_ev WideF.wide rfl (Ev_pure rfl) rfl rfl ?_ | (show opsA _ _ _ _ (⟨_, .unOp _ _ _, _, _, _, _⟩ :: _) _ _; refine O_ev WideF.wide rfl (Ev_notb rfl) rfl rfl ?_)) | (show wpA _ _ _ (.cond _ _ _) _ _ _ _; refine A_iffalse rfl ?_))
          all_goals first
            | (exfalso; contradiction)
            | (exfalso; exact absurd trivial (by assumption))
            | (exfalso; exact absurd rfl (by assumption))
            | exact Shift.to ⟨_, Nat.lt_succ_self _, q, l1 ++ [n2], t2, css ++ [ncs n2 a4 n4 c4], _, (css ++ [ncs n2 a4 n4 c4]).length, _, _, rfl, by omega, (by simp; omega), hl, hok4, (((hle.trans hk1).trans hle2).trans hle3).trans hle4, (hall.mono fun _ _ h => h.mono (((hk1.trans hle2).trans hle3).trans hle4)).append (.cons ((NodeH.of hn4).mono hle4) .nil), rfl, rfl⟩ ⟨rfl, rfl, rfl, ⟨rfl, rfl, trivial⟩, Own.subi [1, 0] (by decide) rfl rfl⟩
            | trace_state
      · rw [if_neg hc] at hl
        by_cases hd : tq.kind = [41]
        · rw [if_pos hd] at hl
          cases hl
          have kb := fun Hx a (hr : HRow Hx a 1 1 1 [[sv [44]]]) => accept_no (s := s) (b := pb) hr hc
          have ke := fun Hx => expect_yes (H := Hx) (b := pb) hs htq hd
          repeat' (first | (refine O_ef rfl (Ef_build11 WideF.wide rfl rfl rfl ?_); intro bk; refine O_freeze (ones_of rfl) ?_; intro H1 hk1 hr1) | (show opsA _ _ _ _ (⟨some 21, .call _, _, _, _, _⟩ :: _) _ _; refine O_ef rfl (Ef_call (I := [_]) WideF.wide (kb _ _ hr1) ⟨rfl, rfl, trivial⟩ rfl ?_); rintro v H2 I2 hle2 ⟨rfl, rfl⟩) | (show opsA _ _ _ _ (⟨some 27, .call _, _, _, _, _⟩ :: _) _ _; refine O_ef rfl (Ef_call (I := [_]) WideF.wide (ke _) ⟨rfl, rfl, trivial⟩ rfl ?_); rintro v H3 I3 hle3 ⟨rfl, rfl⟩) | refine O_nil ?_ | refine A_seq ?_ | refine A_region ?_ | refine A_ret ?_ | refine A_block ?_ | (show opsA _ _ _ _ _ _ _; first | refine O_ev WideF.wide rfl (Ev_pure rfl) rfl rfl ?_ | (show opsA _ _ _ _ (⟨_, .unOp _ _ _, _, _, _, _⟩ :: _) _ _; refine O_ev WideF.wide rfl (Ev_notb rfl) rfl rfl ?_)) | (show wpA _ _ _ (.cond _ _ _) _ _ _ _; refine A_iftrue rfl ?_))
          all_goals first
            | (exfalso; contradiction)
            | (exfalso; exact absurd trivial (by assumption))
            | (exfalso; exact absurd rfl (by assumption))
            | (refine End_s (Ret1 rfl rfl) ?_
               refine Shift.lek ⟨_, [], _, [.row (.slice a m c) 4 css, .box pb (pcs s (nxt s tq))], [], []⟩ ⟨rfl, rfl, rfl, trivial, Own.subi [1, 0] (by decide) rfl rfl⟩ ?_
               refine Shift_freeze hone ?_
               intro H6 hle6 hr6
               exact Shift.to (s' := ⟨_, [], _, [.box pb (pcs s (nxt s tq))], [], []⟩) ⟨rfl, ⟨_, _, _, rfl, ⟨_, hr6, hall.mono fun _ _ h => h.mono (((hk1.trans hle2).trans hle3).trans hle6)⟩⟩, rfl, htq.nxt⟩ ⟨rfl, rfl, rfl, trivial, Own.subi [0] (by decide) rfl rfl⟩)
            | trace_state
        · rw [if_neg hd] at hl; cases hl

end Go.Proofs.YtnoadopmeoohmaaGreatDoor
