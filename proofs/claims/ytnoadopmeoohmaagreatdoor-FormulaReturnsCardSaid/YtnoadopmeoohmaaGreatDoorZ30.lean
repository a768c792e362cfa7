import Derived.Test.YtnoadopmeoohmaaGreatDoorZ29
/-
  The parser's primaries and arguments; all its functions. Printed by genF15.py.
-/
namespace Go.Proofs.YtnoadopmeoohmaaGreatDoor
open Go
set_option linter.unusedVariables false
set_option linter.unusedSimpArgs false
theorem Ev_seqF {P : Program} {e : Env} {H : Hp} {R : Own} {dst : Option Tmp} {ty : TypeId} {pos : String} {after : Array Edge} {g : Option (Nat × Bool)} {x y : Operand} {t t2 : TypeId} {s s2 : List UInt8} (hne : ¬ s = s2) (hx : e.eval x = some (sv s)) (hy : e.eval y = some (sv s2)) :
    Ev P ⟨dst, .binOp .eql t x y t2, ty, pos, after, g⟩ e H R (.bool false) := by
  have h := Ev_seql (P := P) (H := H) (R := R) (dst := dst) (ty := ty) (pos := pos) (after := after) (g := g) (t := t) (t2 := t2) hx hy
  rwa [decide_eq_false hne] at h
theorem prs_prim {s : List UInt8} {k : Nat} {t : Tok} : prs s (k + 1) 8 t = (if t.kind = [110] then (if (digR t.text).2 = 0 then .ok (.mk 1 (digR t.text).1 [] []) (nxt s t) else .err (digR t.text).2 t.pos)
      else if t.kind = [115] then .ok (.mk 2 0 (Lib.replaceAll ((t.text.take (t.text.length - 1)).drop 1) [34, 34] [34]) []) (nxt s t)
      else if t.kind = [116, 114, 117, 101] then .ok (.mk 3 1 [] []) (nxt s t)
      else if t.kind = [102, 97, 108, 115, 101] then .ok (.mk 3 0 [] []) (nxt s t)
      else if t.kind = [105] then
        (if 40 < t.text.length then .err 13 t.pos
        else if (nxt s t).kind = [40] then (match arg s k (nxt s (nxt s t)) with | .ok l t' => .ok (.mk 5 0 t.text l) t' | .err e p => .err e p | .no => .no)
        else .ok (.mk 4 0 t.text []) (nxt s t))
      else if t.kind = [40] then (match prs s k 1 (nxt s t) with | .ok n t' => (if t'.kind = [41] then .ok n (nxt s t') else .err 14 t'.pos) | r => r)
      else .err 14 t.pos) := by
  rw [prs]
  · rfl
  all_goals (intro h; exact absurd h (by decide))
theorem prs_zero {s : List UInt8} {lv : Nat} {t : Tok} : prs s 0 lv t = .no := by rw [prs]
theorem arg_zero {s : List UInt8} {t : Tok} : arg s 0 t = .no := by rw [arg]
theorem agl_zero {s : List UInt8} {l : List Nd} {t : Tok} : agl s 0 l t = .no := by rw [agl]
theorem arg_succ {s : List UInt8} {k : Nat} {t : Tok} : arg s (k + 1) t = (if t.kind = [41] then .ok [] (nxt s t) else match prs s k 1 t with | .ok n t' => agl s k [n] t' | .err e p => .err e p | .no => .no) := by rw [arg]; rfl
theorem agl_succ {s : List UInt8} {k : Nat} {l : List Nd} {t : Tok} : agl s (k + 1) l t = (if t.kind = [44] then (match prs s k 1 (nxt s t) with | .ok n t' => agl s k (l ++ [n]) t' | .err e p => .err e p | .no => .no) else if t.kind = [41] then .ok l (nxt s t) else .err 14 t.pos) := by rw [agl]; rfl
/-- what arguments() leaves -/
def APost (s : List UInt8) (b : Nat) (l : List Nd) (t' : Tok) (v : Value) (H' : Hp) (I : Own) : Prop :=
  (∃ (a : Option Addr) (n c : Nat), v = .slice a n c ∧ NodesS H' a n c l) ∧ I = [.box b (pcs s t')] ∧ TokOk s t'
def AC (s : List UInt8) (k : Nat) : Prop := ∀ (H : Hp) (t : Tok) (l : List Nd) (t' : Tok) (b : Nat), VarsH H → TokOk s t → arg s k t = .ok l t' →
  Fn Tryz.prog 223 [.pointer (some ⟨b, 0, none⟩)] H [.box b (pcs s t)] (APost s b l t')
attribute [local irreducible] wpA opsA drJ drQ drE Ef Ev Shift Fn
set_option maxRecDepth 100000 in
set_option maxHeartbeats 8000000 in
theorem args_fn {s : List UInt8} (hs : s.length < 4611686018427387904) {k : Nat} (hk : k ≤ 1000000) (hop : ∀ j, j ≤ k → OC s 42 1 j) : AC s (k + 1) := by
  intro H t l t' pb hV ht h
  rw [arg_succ] at h
  by_cases hk0 : t.kind = [41]
  · rw [if_pos hk0] at h
    cases h
    have ka := fun Hx a (hr : HRow Hx a 1 1 1 [[sv [41]]]) => accept_yes (b := pb) hs ht hr hk0
    refine Fn_of _ _ Tryz.func223 rfl Tryz.ntmps223 rfl fun c => ?_
    repeat' (first | (refine O_ef rfl (Ef_build11 WideF.wide rfl rfl rfl ?_); intro bk; refine O_freeze (ones_of rfl) ?_; intro H1 hk1 hr1) | (show opsA _ _ _ _ (⟨some 11, .call _, _, _, _, _⟩ :: _) _ _; refine O_ef rfl (Ef_call0 WideF.wide (ka _ _ hr1) ⟨rfl, rfl, trivial⟩ rfl ?_); rintro v H2 I2 hle2 ⟨rfl, rfl⟩) | refine O_nil ?_ | refine A_seq ?_ | refine A_region ?_ | refine A_ret ?_ | (show opsA _ _ _ _ _ _ _; refine O_ev WideF.wide rfl (Ev_pure rfl) rfl rfl ?_) | (show wpA _ _ _ (.cond _ _ _) _ _ _ _; refine A_iftrue rfl ?_))
    all_goals first
    | (exfalso; omega)
    | (exfalso; contradiction)
    | (exfalso; exact absurd trivial (by assumption))
    | (exfalso; exact absurd rfl (by assumption))
    | exact End_m (Ret1 rfl rfl) ⟨⟨_, _, _, rfl, NodesS.nil _⟩, rfl, ht.nxt⟩
    | trace_state
  rw [if_neg hk0] at h
  cases hm : prs s k 1 t with
  | no => rw [hm] at h; cases h
  | err e p => rw [hm] at h; cases h
  | ok n1 t1 =>
    rw [hm] at h
    dsimp only at h
    have ka := fun Hx a (hr : HRow Hx a 1 1 1 [[sv [41]]]) => accept_no (s := s) (b := pb) hr hk0
    have kr := fun Hx (hx : HLe H Hx) => hop k (Nat.le_refl _) Hx t n1 t1 pb (hV.mono hx) ht hm
    refine Fn_of _ _ Tryz.func223 rfl Tryz.ntmps223 rfl fun c => ?_
    repeat' (first | (refine O_ef rfl (Ef_build11 WideF.wide rfl rfl rfl ?_); intro bk; refine O_freeze (ones_of rfl) ?_; intro H1 hk1 hr1) | (show opsA _ _ _ _ (⟨some 11, .call _, _, _, _, _⟩ :: _) _ _; refine O_ef rfl (Ef_call0 WideF.wide (ka _ _ hr1) ⟨rfl, rfl, trivial⟩ rfl ?_); rintro v H2 I2 hle2 ⟨rfl, rfl⟩) | (show opsA _ _ _ _ (⟨some 16, .call _, _, _, _, _⟩ :: _) _ _; refine O_ef rfl (Ef_call0 WideF.wide (kr _ (hk1.trans hle2)) ⟨rfl, trivial⟩ rfl ?_); rintro v H3 I3 hle3 ⟨⟨a3, n3, c3, rfl, hn3⟩, rfl, hok3⟩) | (refine O_ef rfl (Ef_buildn WideF.wide (xs := [_]) (vs := [.agg _]) (css := [ncs n1 a3 n3 c3]) rfl ⟨rfl, trivial⟩ rfl rfl rfl rfl rfl rfl ?_); intro b3) | refine O_nil ?_ | refine A_seq ?_ | refine A_region ?_ | refine A_skip ?_ | refine A_block ?_ | (show opsA _ _ _ _ _ _ _; refine O_ev WideF.wide rfl (Ev_pure rfl) rfl rfl ?_) | (show wpA _ _ _ (.cond _ _ _) _ _ _ _; refine A_iffalse rfl ?_))
    all_goals try (exfalso; first | contradiction | exact absurd trivial (by assumption) | exact absurd rfl (by assumption))
    refine A_loopu (fun q st => ∃ (j : Nat) (l1 : List Nd) (tq : Tok) (css : List (List Value)) (a : Option Addr) (m c : Nat) (Hq : Hp), q = j ∧ j ≤ k ∧ m + j ≤ k + 1 ∧ agl s j l1 tq = .ok l t' ∧ TokOk s tq ∧ HLe H Hq ∧ All2 (NodeH Hq) css l1 ∧ css.length = m ∧
      st = ⟨34, [(0, .pointer (some ⟨pb, 0, none⟩)), (5, .slice a m c)], Hq, [.box pb (pcs s tq), .row (.slice a m c) 4 css], [], []⟩) ?_ ?_
    · exact Shift.to ⟨_, k, [n1], t1, _, _, 1, _, _, rfl, Nat.le_refl _, by omega, h, hok3, (hk1.trans hle2).trans hle3, .cons (NodeH.of hn3) .nil, rfl, rfl⟩ ⟨rfl, rfl, rfl, ⟨rfl, rfl, trivial⟩, Own.subi [1, 0] (by decide) rfl rfl⟩
    rintro q st ⟨j, l1, tq, css, a, m, c, Hq, rfl, hjk, hmj, hl, htq, hle, hall, hlen, rfl⟩
    have hone : ∀ cs ∈ css, ∀ u ∈ cs, u.oneCell' = true := by
      intro cs hcs u hu
      obtain ⟨i, hi⟩ := List.mem_iff_getElem?.1 hcs
      obtain ⟨x, _, hx⟩ := hall.get hi
      exact hx.one u hu
    cases q with
    | zero => rw [agl_zero] at hl; cases hl
    | succ q =>
      rw [agl_succ] at hl
      by_cases hc : tq.kind = [44]
      · rw [if_pos hc] at hl
        cases hm2 : prs s q 1 (nxt s tq) with
        | no => rw [hm2] at hl; cases hl
        | err e p => rw [hm2] at hl; cases hl
        | ok n2 t2 =>
          rw [hm2] at hl
          dsimp only at hl
          have kb := fun Hx a (hr : HRow Hx a 1 1 1 [[sv [44]]]) => accept_yes (b := pb) hs htq hr hc
          have k2 := fun Hx (hx : HLe Hq Hx) => hop q (by omega) Hx (nxt s tq) n2 t2 pb ((hV.mono hle).mono hx) htq.nxt hm2
          repeat' (first | (refine O_ef rfl (Ef_build11 WideF.wide rfl rfl rfl ?_); intro bk; refine O_freeze (ones_of rfl) ?_; intro H1 hk1 hr1) | (show opsA _ _ _ _ (⟨some 21, .call _, _, _, _, _⟩ :: _) _ _; refine O_ef rfl (Ef_call (I := [_]) WideF.wide (kb _ _ hr1) ⟨rfl, rfl, trivial⟩ rfl ?_); rintro v H2 I2 hle2 ⟨rfl, rfl⟩) | (show opsA _ _ _ _ (⟨some 31, .call _, _, _, _, _⟩ :: _) _ _; refine O_ef rfl (Ef_call (I := [_]) WideF.wide (k2 _ (hk1.trans hle2)) ⟨rfl, trivial⟩ rfl ?_); rintro v H3 I3 hle3 ⟨⟨a4, n4, c4, rfl, hn4⟩, rfl, hok4⟩) | (refine O_ef rfl (Ef_buildF WideF.wide (xs := [_]) (vs := [.agg _]) (css := [ncs n2 a4 n4 c4]) rfl ⟨rfl, trivial⟩ rfl rfl rfl rfl rfl rfl (ncs_one1 _ _ _ _) ?_); intro b4 H4 hle4 hr4) | (refine O_f1 (O_ef rfl (Ef_appendH (css := css) WideF.wide rfl rfl hr4 rfl rfl (by first | omega | (simp; omega)) (by first | omega | (simp; omega)) rfl ?_)); intro a5 c5) | refine O_nil ?_ | refine A_seq ?_ | refine A_region ?_ | refine A_skip ?_ | refine A_block ?_ | (show opsA _ _ _ _ _ _ _; first | refine O_ev WideF.wide rfl (Ev_pure rfl) rfl rfl ?_ | (show opsA _ _ _ _ (⟨_, .unOp _ _ _, _, _, _, _⟩ :: _) _ _; refine O_ev WideF.wide rfl (Ev_notb rfl) rfl rfl ?_)) | (show wpA _ _ _ (.cond _ _ _) _ _ _ _; refine A_iffalse rfl ?_))
          all_goals first
            | (exfalso; contradiction)
            | (exfalso; exact absurd trivial (by assumption))
            | (exfalso; exact absurd rfl (by assumption))
            | exact Shift.to ⟨_, Nat.lt_succ_self _, q, l1 ++ [n2], t2, css ++ [ncs n2 a4 n4 c4], _, (css ++ [ncs n2 a4 n4 c4]).length, _, _, rfl, by omega, (by simp; omega), hl, hok4, (((hle.trans hk1).trans hle2).trans hle3).trans hle4, (hall.mono fun _ _ h => h.mono (((hk1.trans hle2).trans hle3).trans hle4)).append (.cons ((NodeH.of hn4).mono hle4) .nil), rfl, rfl⟩ ⟨rfl, rfl, rfl, ⟨rfl, rfl, trivial⟩, Own.subi [1, 0] (by decide) rfl rfl⟩
            | trace_state
      · rw [if_neg hc] at hl
        by_cases hd : tq.kind = [41]
        · rw [if_pos hd] at hl
          cases hl
          have kb := fun Hx a (hr : HRow Hx a 1 1 1 [[sv [44]]]) => accept_no (s := s) (b := pb) hr hc
          have ke := fun Hx => expect_yes (H := Hx) (b := pb) hs htq hd
          repeat' (first | (refine O_ef rfl (Ef_build11 WideF.wide rfl rfl rfl ?_); intro bk; refine O_freeze (ones_of rfl) ?_; intro H1 hk1 hr1) | (show opsA _ _ _ _ (⟨some 21, .call _, _, _, _, _⟩ :: _) _ _; refine O_ef rfl (Ef_call (I := [_]) WideF.wide (kb _ _ hr1) ⟨rfl, rfl, trivial⟩ rfl ?_); rintro v H2 I2 hle2 ⟨rfl, rfl⟩) | (show opsA _ _ _ _ (⟨some 27, .call _, _, _, _, _⟩ :: _) _ _; refine O_ef rfl (Ef_call (I := [_]) WideF.wide (ke _) ⟨rfl, rfl, trivial⟩ rfl ?_); rintro v H3 I3 hle3 ⟨rfl, rfl⟩) | refine O_nil ?_ | refine A_seq ?_ | refine A_region ?_ | refine A_ret ?_ | refine A_block ?_ | (show opsA _ _ _ _ _ _ _; first | refine O_ev WideF.wide rfl (Ev_pure rfl) rfl rfl ?_ | (show opsA _ _ _ _ (⟨_, .unOp _ _ _, _, _, _, _⟩ :: _) _ _; refine O_ev WideF.wide rfl (Ev_notb rfl) rfl rfl ?_)) | (show wpA _ _ _ (.cond _ _ _) _ _ _ _; refine A_iftrue rfl ?_))
          all_goals first
            | (exfalso; contradiction)
            | (exfalso; exact absurd trivial (by assumption))
            | (exfalso; exact absurd rfl (by assumption))
            | (refine End_s (Ret1 rfl rfl) ?_
               refine Shift.lek ⟨_, [], _, [.row (.slice a m c) 4 css, .box pb (pcs s (nxt s tq))], [], []⟩ ⟨rfl, rfl, rfl, trivial, Own.subi [1, 0] (by decide) rfl rfl⟩ ?_
               refine Shift_freeze hone ?_
               intro H6 hle6 hr6
               exact Shift.to (s' := ⟨_, [], _, [.box pb (pcs s (nxt s tq))], [], []⟩) ⟨rfl, ⟨_, _, _, rfl, ⟨_, hr6, hall.mono fun _ _ h => h.mono (((hk1.trans hle2).trans hle3).trans hle6)⟩⟩, rfl, htq.nxt⟩ ⟨rfl, rfl, rfl, trivial, Own.subi [0] (by decide) rfl rfl⟩)
            | trace_state
        · rw [if_neg hd] at hl; cases hl
end Go.Proofs.YtnoadopmeoohmaaGreatDoor
/-
  The parser's primaries; all its functions by induction on the fuel. Printed by genF16.py.
-/
namespace Go.Proofs.YtnoadopmeoohmaaGreatDoor
open Go
set_option linter.unusedVariables false
set_option linter.unusedSimpArgs false
attribute [local irreducible] wpA opsA drJ drQ drE Ef Ev Shift Fn
set_option maxRecDepth 100000 in
set_option maxHeartbeats 8000000 in
theorem prim_num {s tx : List UInt8} {p : Nat} (hs : s.length ≤ 1000000) {H : Hp} {pb : Nat} (hV : VarsH H) (ht : TokOk s ⟨[110], tx, p⟩) (hd : (digR tx).2 = 0) :
    Fn Tryz.prog 222 [.pointer (some ⟨pb, 0, none⟩)] H [.box pb [sv s, sv [110], sv tx, .int .i64 p]] (PPost s pb (.mk 1 (digR tx).1 [] []) (nxt s ⟨[110], tx, p⟩)) := by
  have hle := ht.le
  dsimp only at hle
  have kn := fun Hx => next_fn (H := Hx) (b := pb) (by omega) ht
  have kd := digits_fn (H := H) (l := tx) (by omega) hV
  rw [hd] at kd
  refine Fn_of _ _ Tryz.func222 rfl Tryz.ntmps222 rfl fun c => ?_
  repeat' (first | (refine O_ev WideF.wide rfl (Ev_seqs rfl rfl) rfl rfl ?_) | (refine O_ef rfl (Ef_callp WideF.wide (kd) ⟨rfl, trivial⟩ rfl ?_)) | (show opsA _ _ _ _ (⟨some 29, .call _, _, _, _, _⟩ :: _) _ _; refine O_ef rfl (Ef_f2 (Ef_call (I := [_]) WideF.wide (kn _) ⟨rfl, trivial⟩ rfl ?_)); rintro v H2 I2 hle2 ⟨rfl, rfl⟩) | refine O_nil ?_ | refine A_seq ?_ | refine A_region ?_ | refine A_skip ?_ | refine A_ret ?_ | refine A_block ?_ | (show opsA _ _ _ _ _ _ _; first | refine O_ev WideF.wide rfl (Ev_pure rfl) rfl rfl ?_ | (show opsA _ _ _ _ (⟨_, .load _ _, _, _, _, _⟩ :: _) _ _; first | refine O_ev WideF.wide rfl (Ev_loadB1 (i := 0) rfl rfl rfl) rfl rfl ?_ | refine O_ev WideF.wide rfl (Ev_loadBs (i := 1) rfl rfl rfl rfl) rfl rfl ?_) | (show opsA _ _ _ _ (⟨_, .fieldAddr _ _ _, _, _, _, _⟩ :: _) _ _; refine O_ev WideF.wide rfl (Ev_fieldAddr rfl rfl rfl) rfl rfl ?_) | (show opsA _ _ _ _ (⟨_, .build _ _, _, _, _, _⟩ :: _) _ _; refine O_ev WideF.wide rfl (Ev_build (vs := [(_, _), (_, _)]) ⟨rfl, rfl, rfl, rfl, trivial⟩ rfl) rfl rfl ?_) | (show opsA _ _ _ _ (⟨_, .nilCheck _, _, _, _, _⟩ :: _) _ _; refine O_ev WideF.wide rfl (Ev_nilCheck rfl) rfl rfl ?_) | (show opsA _ _ _ _ (⟨_, .alloc _, _, _, _, _⟩ :: _) _ _; (refine O_ef rfl (Ef_alloc WideF.wide rfl ?_); intro b)) | (show opsA _ _ _ _ (⟨_, .store _ _ _, _, _, _, _⟩ :: _) _ _; first | refine O_ef rfl (Ef_storew WideF.wide rfl rfl rfl rfl rfl ?_) | refine O_f2 (O_ef rfl (Ef_storew WideF.wide rfl rfl rfl rfl rfl ?_)))) | (show wpA _ _ _ (.cond _ _ _) _ _ _ _; first | (refine A_if rfl (fun h => ?_) (fun h => ?_) <;> try (exfalso; omega)) | refine A_iftrue rfl ?_))
  all_goals first
    | (exfalso; omega)
    | (exfalso; contradiction)
    | (exfalso; exact absurd trivial (by assumption))
    | (exfalso; exact absurd rfl (by assumption))
    | exact End_s (RetC rfl rfl (i := 0) rfl rfl) (Shift.to (s' := ⟨_, [], _, [.box pb (pcs s (nxt s _))], [], []⟩) ⟨rfl, ⟨_, _, _, rfl, (NodesS.nil _)⟩, rfl, ht.nxt⟩ ⟨rfl, rfl, rfl, trivial, Own.subi [1] (by decide) rfl rfl⟩)
    | trace_state
set_option maxRecDepth 100000 in
set_option maxHeartbeats 8000000 in
theorem prim_str {s tx : List UInt8} {p : Nat} (hs : s.length ≤ 1000000) {H : Hp} {pb : Nat} (hV : VarsH H) (ht : TokOk s ⟨[115], tx, p⟩)  :
    Fn Tryz.prog 222 [.pointer (some ⟨pb, 0, none⟩)] H [.box pb [sv s, sv [115], sv tx, .int .i64 p]] (PPost s pb (.mk 2 0 (Lib.replaceAll ((tx.take (tx.length - 1)).drop 1) [34, 34] [34]) []) (nxt s ⟨[115], tx, p⟩)) := by
  have hle := ht.le
  dsimp only at hle
  have kn := fun Hx => next_fn (H := Hx) (b := pb) (by omega) ht
  have hstr := ht.str rfl
  dsimp only at hstr
  have kr := fun Hx (hx : HLe H Hx) => ReplaceAll_fn (H := Hx) (l := (tx.take (tx.length - 1)).drop 1) (old := [34, 34]) (new := [34]) (by simp; omega) (by simp) (by simp) (hV.mono hx)
  have hsl : ((tx.length : Int) - 1).toNat = tx.length - 1 := by omega
  refine Fn_of _ _ Tryz.func222 rfl Tryz.ntmps222 rfl fun c => ?_
  repeat' (first | (refine O_ev WideF.wide rfl (Ev_seqs rfl rfl) rfl rfl ?_) | (refine O_ev WideF.wide rfl (Ev_seqF (by decide) rfl rfl) rfl rfl ?_) | (show opsA _ _ _ _ (⟨some 35, .call _, _, _, _, _⟩ :: _) _ _; refine O_ef rfl (Ef_f2 (Ef_call (I := [_]) WideF.wide (kn _) ⟨rfl, trivial⟩ rfl ?_)); rintro v H2 I2 hle2 ⟨rfl, rfl⟩) | (refine O_ev WideF.wide rfl (Ev_sslice rfl rfl rfl (by omega) (by omega) (by omega)) rfl rfl ?_; rw [hsl]) | (refine O_ef rfl (Ef_callp WideF.wide (kr _ hle2) ⟨rfl, rfl, rfl, trivial⟩ rfl ?_)) | refine O_nil ?_ | refine A_seq ?_ | refine A_region ?_ | refine A_ret ?_ | refine A_block ?_ | (show opsA _ _ _ _ _ _ _; first | refine O_ev WideF.wide rfl (Ev_pure rfl) rfl rfl ?_ | (show opsA _ _ _ _ (⟨_, .load _ _, _, _, _, _⟩ :: _) _ _; first | refine O_ev WideF.wide rfl (Ev_loadB1 (i := 0) rfl rfl rfl) rfl rfl ?_ | refine O_ev WideF.wide rfl (Ev_loadB1 (i := 1) rfl rfl rfl) rfl rfl ?_ | refine O_ev WideF.wide rfl (Ev_loadBs (i := 1) rfl rfl rfl rfl) rfl rfl ?_) | (show opsA _ _ _ _ (⟨_, .fieldAddr _ _ _, _, _, _, _⟩ :: _) _ _; refine O_ev WideF.wide rfl (Ev_fieldAddr rfl rfl rfl) rfl rfl ?_) | (show opsA _ _ _ _ (⟨_, .call _, _, _, _, _⟩ :: _) _ _; refine O_ev WideF.wide rfl (Ev_slen rfl) rfl rfl ?_) | (show opsA _ _ _ _ (⟨_, .binOp _ _ _ _ _, _, _, _, _⟩ :: _) _ _; refine O_ev WideF.wide rfl (Ev_sub rfl rfl (wi64 (by omega))) rfl rfl ?_) | (show opsA _ _ _ _ (⟨_, .build _ _, _, _, _, _⟩ :: _) _ _; refine O_ev WideF.wide rfl (Ev_build (vs := [(_, _), (_, _)]) ⟨rfl, rfl, rfl, rfl, trivial⟩ rfl) rfl rfl ?_) | (show opsA _ _ _ _ (⟨_, .nilCheck _, _, _, _, _⟩ :: _) _ _; refine O_ev WideF.wide rfl (Ev_nilCheck rfl) rfl rfl ?_) | (show opsA _ _ _ _ (⟨_, .alloc _, _, _, _, _⟩ :: _) _ _; (refine O_ef rfl (Ef_alloc WideF.wide rfl ?_); intro b)) | (show opsA _ _ _ _ (⟨_, .store _ _ _, _, _, _, _⟩ :: _) _ _; first | refine O_ef rfl (Ef_storew WideF.wide rfl rfl rfl rfl rfl ?_) | refine O_f2 (O_ef rfl (Ef_storew WideF.wide rfl rfl rfl rfl rfl ?_)))) | (show wpA _ _ _ (.cond _ _ _) _ _ _ _; first | refine A_iftrue rfl ?_ | refine A_iffalse rfl ?_))
  all_goals first
    | (exfalso; omega)
    | (exfalso; contradiction)
    | (exfalso; exact absurd trivial (by assumption))
    | (exfalso; exact absurd rfl (by assumption))
    | exact End_s (RetC rfl rfl (i := 0) rfl rfl) (Shift.to (s' := ⟨_, [], _, [.box pb (pcs s (nxt s _))], [], []⟩) ⟨rfl, ⟨_, _, _, rfl, (NodesS.nil _)⟩, rfl, ht.nxt⟩ ⟨rfl, rfl, rfl, trivial, Own.subi [1] (by decide) rfl rfl⟩)
    | trace_state
set_option maxRecDepth 100000 in
set_option maxHeartbeats 8000000 in
theorem prim_t {s tx : List UInt8} {p : Nat} (hs : s.length ≤ 1000000) {H : Hp} {pb : Nat} (hV : VarsH H) (ht : TokOk s ⟨[116, 114, 117, 101], tx, p⟩)  :
    Fn Tryz.prog 222 [.pointer (some ⟨pb, 0, none⟩)] H [.box pb [sv s, sv [116, 114, 117, 101], sv tx, .int .i64 p]] (PPost s pb (.mk 3 1 [] []) (nxt s ⟨[116, 114, 117, 101], tx, p⟩)) := by
  have hle := ht.le
  dsimp only at hle
  have kn := fun Hx => next_fn (H := Hx) (b := pb) (by omega) ht
  refine Fn_of _ _ Tryz.func222 rfl Tryz.ntmps222 rfl fun c => ?_
  repeat' (first | (refine O_ev WideF.wide rfl (Ev_seqs rfl rfl) rfl rfl ?_) | (refine O_ev WideF.wide rfl (Ev_seqF (by decide) rfl rfl) rfl rfl ?_) | (show opsA _ _ _ _ (⟨some 49, .call _, _, _, _, _⟩ :: _) _ _; refine O_ef rfl (Ef_f2 (Ef_call (I := [_]) WideF.wide (kn _) ⟨rfl, trivial⟩ rfl ?_)); rintro v H2 I2 hle2 ⟨rfl, rfl⟩) | (show opsA _ _ _ _ (⟨some 53, .call _, _, _, _, _⟩ :: _) _ _; refine O_ef rfl (Ef_call (I := []) WideF.wide (boolean_t (x := ())) ⟨rfl, trivial⟩ rfl ?_); rintro v H3 I3 hle3 ⟨rfl, rfl⟩) | (refine O_ev WideF.wide rfl (Ev_field1 rfl rfl) rfl rfl ?_) | refine O_nil ?_ | refine A_seq ?_ | refine A_region ?_ | refine A_skip ?_ | refine A_ret ?_ | refine A_block ?_ | (show opsA _ _ _ _ _ _ _; first | refine O_ev WideF.wide rfl (Ev_pure rfl) rfl rfl ?_ | (show opsA _ _ _ _ (⟨_, .load _ _, _, _, _, _⟩ :: _) _ _; first | refine O_ev WideF.wide rfl (Ev_loadB1 (i := 0) rfl rfl rfl) rfl rfl ?_ | refine O_ev WideF.wide rfl (Ev_loadB1 (i := 1) rfl rfl rfl) rfl rfl ?_ | refine O_ev WideF.wide rfl (Ev_loadBs (i := 1) rfl rfl rfl rfl) rfl rfl ?_) | (show opsA _ _ _ _ (⟨_, .fieldAddr _ _ _, _, _, _, _⟩ :: _) _ _; refine O_ev WideF.wide rfl (Ev_fieldAddr rfl rfl rfl) rfl rfl ?_) | (show opsA _ _ _ _ (⟨_, .build _ _, _, _, _, _⟩ :: _) _ _; refine O_ev WideF.wide rfl (Ev_build (vs := [(_, _), (_, _)]) ⟨rfl, rfl, rfl, rfl, trivial⟩ rfl) rfl rfl ?_) | (show opsA _ _ _ _ (⟨_, .nilCheck _, _, _, _, _⟩ :: _) _ _; refine O_ev WideF.wide rfl (Ev_nilCheck rfl) rfl rfl ?_) | (show opsA _ _ _ _ (⟨_, .alloc _, _, _, _, _⟩ :: _) _ _; (refine O_ef rfl (Ef_alloc WideF.wide rfl ?_); intro b)) | (show opsA _ _ _ _ (⟨_, .store _ _ _, _, _, _, _⟩ :: _) _ _; first | refine O_ef rfl (Ef_storew WideF.wide rfl rfl rfl rfl rfl ?_) | refine O_f2 (O_ef rfl (Ef_storew WideF.wide rfl rfl rfl rfl rfl ?_)))) | (show wpA _ _ _ (.cond _ _ _) _ _ _ _; first | refine A_iftrue rfl ?_ | refine A_iffalse rfl ?_))
  all_goals first
    | (exfalso; omega)
    | (exfalso; contradiction)
    | (exfalso; exact absurd trivial (by assumption))
    | (exfalso; exact absurd rfl (by assumption))
    | exact End_s (RetC rfl rfl (i := 0) rfl rfl) (Shift.to (s' := ⟨_, [], _, [.box pb (pcs s (nxt s _))], [], []⟩) ⟨rfl, ⟨_, _, _, rfl, (NodesS.nil _)⟩, rfl, ht.nxt⟩ ⟨rfl, rfl, rfl, trivial, Own.subi [1] (by decide) rfl rfl⟩)
    | trace_state
set_option maxRecDepth 100000 in
set_option maxHeartbeats 8000000 in
theorem prim_f {s tx : List UInt8} {p : Nat} (hs : s.length ≤ 1000000) {H : Hp} {pb : Nat} (hV : VarsH H) (ht : TokOk s ⟨[102, 97, 108, 115, 101], tx, p⟩)  :
    Fn Tryz.prog 222 [.pointer (some ⟨pb, 0, none⟩)] H [.box pb [sv s, sv [102, 97, 108, 115, 101], sv tx, .int .i64 p]] (PPost s pb (.mk 3 0 [] []) (nxt s ⟨[102, 97, 108, 115, 101], tx, p⟩)) := by
  have hle := ht.le
  dsimp only at hle
  have kn := fun Hx => next_fn (H := Hx) (b := pb) (by omega) ht
  refine Fn_of _ _ Tryz.func222 rfl Tryz.ntmps222 rfl fun c => ?_
  repeat' (first | (refine O_ev WideF.wide rfl (Ev_seqs rfl rfl) rfl rfl ?_) | (refine O_ev WideF.wide rfl (Ev_seqF (by decide) rfl rfl) rfl rfl ?_) | (show opsA _ _ _ _ (⟨some 49, .call _, _, _, _, _⟩ :: _) _ _; refine O_ef rfl (Ef_f2 (Ef_call (I := [_]) WideF.wide (kn _) ⟨rfl, trivial⟩ rfl ?_)); rintro v H2 I2 hle2 ⟨rfl, rfl⟩) | (show opsA _ _ _ _ (⟨some 53, .call _, _, _, _, _⟩ :: _) _ _; refine O_ef rfl (Ef_call (I := []) WideF.wide (boolean_f (x := ())) ⟨rfl, trivial⟩ rfl ?_); rintro v H3 I3 hle3 ⟨rfl, rfl⟩) | (refine O_ev WideF.wide rfl (Ev_field1 rfl rfl) rfl rfl ?_) | refine O_nil ?_ | refine A_seq ?_ | refine A_region ?_ | refine A_ret ?_ | refine A_block ?_ | (show opsA _ _ _ _ _ _ _; first | refine O_ev WideF.wide rfl (Ev_pure rfl) rfl rfl ?_ | (show opsA _ _ _ _ (⟨_, .load _ _, _, _, _, _⟩ :: _) _ _; first | refine O_ev WideF.wide rfl (Ev_loadB1 (i := 0) rfl rfl rfl) rfl rfl ?_ | refine O_ev WideF.wide rfl (Ev_loadB1 (i := 1) rfl rfl rfl) rfl rfl ?_ | refine O_ev WideF.wide rfl (Ev_loadBs (i := 1) rfl rfl rfl rfl) rfl rfl ?_) | (show opsA _ _ _ _ (⟨_, .fieldAddr _ _ _, _, _, _, _⟩ :: _) _ _; refine O_ev WideF.wide rfl (Ev_fieldAddr rfl rfl rfl) rfl rfl ?_) | (show opsA _ _ _ _ (⟨_, .build _ _, _, _, _, _⟩ :: _) _ _; refine O_ev WideF.wide rfl (Ev_build (vs := [(_, _), (_, _)]) ⟨rfl, rfl, rfl, rfl, trivial⟩ rfl) rfl rfl ?_) | (show opsA _ _ _ _ (⟨_, .nilCheck _, _, _, _, _⟩ :: _) _ _; refine O_ev WideF.wide rfl (Ev_nilCheck rfl) rfl rfl ?_) | (show opsA _ _ _ _ (⟨_, .alloc _, _, _, _, _⟩ :: _) _ _; (refine O_ef rfl (Ef_alloc WideF.wide rfl ?_); intro b)) | (show opsA _ _ _ _ (⟨_, .store _ _ _, _, _, _, _⟩ :: _) _ _; first | refine O_ef rfl (Ef_storew WideF.wide rfl rfl rfl rfl rfl ?_) | refine O_f2 (O_ef rfl (Ef_storew WideF.wide rfl rfl rfl rfl rfl ?_)))) | (show wpA _ _ _ (.cond _ _ _) _ _ _ _; first | refine A_iftrue rfl ?_ | refine A_iffalse rfl ?_))
  all_goals first
    | (exfalso; omega)
    | (exfalso; contradiction)
    | (exfalso; exact absurd trivial (by assumption))
    | (exfalso; exact absurd rfl (by assumption))
    | exact End_s (RetC rfl rfl (i := 0) rfl rfl) (Shift.to (s' := ⟨_, [], _, [.box pb (pcs s (nxt s _))], [], []⟩) ⟨rfl, ⟨_, _, _, rfl, (NodesS.nil _)⟩, rfl, ht.nxt⟩ ⟨rfl, rfl, rfl, trivial, Own.subi [1] (by decide) rfl rfl⟩)
    | trace_state
set_option maxRecDepth 100000 in
set_option maxHeartbeats 8000000 in
theorem prim_name {s tx : List UInt8} {p : Nat} (hs : s.length ≤ 1000000) {H : Hp} {pb : Nat} (hV : VarsH H) (ht : TokOk s ⟨[105], tx, p⟩) (hl : ¬ 40 < tx.length) (hk : ¬ (nxt s ⟨[105], tx, p⟩).kind = [40]) :
    Fn Tryz.prog 222 [.pointer (some ⟨pb, 0, none⟩)] H [.box pb [sv s, sv [105], sv tx, .int .i64 p]] (PPost s pb (.mk 4 0 tx []) (nxt s ⟨[105], tx, p⟩)) := by
  have hle := ht.le
  dsimp only at hle
  have kn := fun Hx => next_fn (H := Hx) (b := pb) (by omega) ht
  have ka := fun Hx a (hr : HRow Hx a 1 1 1 [[sv [40]]]) => accept_no (s := s) (b := pb) hr hk
  refine Fn_of _ _ Tryz.func222 rfl Tryz.ntmps222 rfl fun c => ?_
  repeat' (first | (refine O_ev WideF.wide rfl (Ev_seqs rfl rfl) rfl rfl ?_) | (refine O_ev WideF.wide rfl (Ev_seqF (by decide) rfl rfl) rfl rfl ?_) | (show opsA _ _ _ _ (⟨some 65, .call _, _, _, _, _⟩ :: _) _ _; refine O_ef rfl (Ef_f2 (Ef_call (I := [_]) WideF.wide (kn _) ⟨rfl, trivial⟩ rfl ?_)); rintro v H2 I2 hle2 ⟨rfl, rfl⟩) | (refine O_ef rfl (Ef_build11 WideF.wide rfl rfl rfl ?_); intro bk; refine O_freeze (ones_of rfl) ?_; intro H1 hk1 hr1) | (show opsA _ _ _ _ (⟨some 69, .call _, _, _, _, _⟩ :: _) _ _; refine O_ef rfl (Ef_call (I := [_]) WideF.wide (ka _ _ hr1) ⟨rfl, rfl, trivial⟩ rfl ?_); rintro v H3 I3 hle3 ⟨rfl, rfl⟩) | refine O_nil ?_ | refine A_seq ?_ | refine A_region ?_ | refine A_skip ?_ | refine A_ret ?_ | refine A_block ?_ | (show opsA _ _ _ _ _ _ _; first | refine O_ev WideF.wide rfl (Ev_pure rfl) rfl rfl ?_ | (show opsA _ _ _ _ (⟨_, .load _ _, _, _, _, _⟩ :: _) _ _; first | refine O_ev WideF.wide rfl (Ev_loadB1 (i := 0) rfl rfl rfl) rfl rfl ?_ | refine O_ev WideF.wide rfl (Ev_loadB1 (i := 1) rfl rfl rfl) rfl rfl ?_ | refine O_ev WideF.wide rfl (Ev_loadBs (i := 1) rfl rfl rfl rfl) rfl rfl ?_) | (show opsA _ _ _ _ (⟨_, .fieldAddr _ _ _, _, _, _, _⟩ :: _) _ _; refine O_ev WideF.wide rfl (Ev_fieldAddr rfl rfl rfl) rfl rfl ?_) | (show opsA _ _ _ _ (⟨_, .call _, _, _, _, _⟩ :: _) _ _; refine O_ev WideF.wide rfl (Ev_slen rfl) rfl rfl ?_) | (show opsA _ _ _ _ (⟨_, .build _ _, _, _, _, _⟩ :: _) _ _; refine O_ev WideF.wide rfl (Ev_build (vs := [(_, _), (_, _)]) ⟨rfl, rfl, rfl, rfl, trivial⟩ rfl) rfl rfl ?_) | (show opsA _ _ _ _ (⟨_, .nilCheck _, _, _, _, _⟩ :: _) _ _; refine O_ev WideF.wide rfl (Ev_nilCheck rfl) rfl rfl ?_) | (show opsA _ _ _ _ (⟨_, .alloc _, _, _, _, _⟩ :: _) _ _; (refine O_ef rfl (Ef_alloc WideF.wide rfl ?_); intro b)) | (show opsA _ _ _ _ (⟨_, .store _ _ _, _, _, _, _⟩ :: _) _ _; first | refine O_ef rfl (Ef_storew WideF.wide rfl rfl rfl rfl rfl ?_) | refine O_f2 (O_ef rfl (Ef_storew WideF.wide rfl rfl rfl rfl rfl ?_)))) | (show wpA _ _ _ (.cond _ _ _) _ _ _ _; first | (refine A_if rfl (fun h => ?_) (fun h => ?_) <;> try (exfalso; omega)) | refine A_iftrue rfl ?_ | refine A_iffalse rfl ?_))
  all_goals first
    | (exfalso; omega)
    | (exfalso; contradiction)
    | (exfalso; exact absurd trivial (by assumption))
    | (exfalso; exact absurd rfl (by assumption))
    | exact End_s (RetC rfl rfl (i := 0) rfl rfl) (Shift.to (s' := ⟨_, [], _, [.box pb (pcs s (nxt s _))], [], []⟩) ⟨rfl, ⟨_, _, _, rfl, (NodesS.nil _)⟩, rfl, ht.nxt⟩ ⟨rfl, rfl, rfl, trivial, Own.subi [1] (by decide) rfl rfl⟩)
    | trace_state
set_option maxRecDepth 100000 in
set_option maxHeartbeats 8000000 in
theorem prim_call {s tx : List UInt8} {p : Nat} (hs : s.length ≤ 1000000) {k : Nat} (har : AC s k) {l : List Nd} {t' : Tok} {H : Hp} {pb : Nat} (hV : VarsH H) (ht : TokOk s ⟨[105], tx, p⟩) (hl : ¬ 40 < tx.length) (hk : (nxt s ⟨[105], tx, p⟩).kind = [40]) (ha : arg s k (nxt s (nxt s ⟨[105], tx, p⟩)) = .ok l t') :
    Fn Tryz.prog 222 [.pointer (some ⟨pb, 0, none⟩)] H [.box pb [sv s, sv [105], sv tx, .int .i64 p]] (PPost s pb (.mk 5 0 tx l) t') := by
  have hle := ht.le
  dsimp only at hle
  have kn := fun Hx => next_fn (H := Hx) (b := pb) (by omega) ht
  have ka := fun Hx a (hr : HRow Hx a 1 1 1 [[sv [40]]]) => accept_yes (b := pb) (by omega) ht.nxt hr hk
  have kg := fun Hx (hx : HLe H Hx) => har Hx _ l t' pb (hV.mono hx) ht.nxt.nxt ha
  refine Fn_of _ _ Tryz.func222 rfl Tryz.ntmps222 rfl fun c => ?_
  repeat' (first | (refine O_ev WideF.wide rfl (Ev_seqs rfl rfl) rfl rfl ?_) | (refine O_ev WideF.wide rfl (Ev_seqF (by decide) rfl rfl) rfl rfl ?_) | (show opsA _ _ _ _ (⟨some 65, .call _, _, _, _, _⟩ :: _) _ _; refine O_ef rfl (Ef_f2 (Ef_call (I := [_]) WideF.wide (kn _) ⟨rfl, trivial⟩ rfl ?_)); rintro v H2 I2 hle2 ⟨rfl, rfl⟩) | (refine O_ef rfl (Ef_build11 WideF.wide rfl rfl rfl ?_); intro bk; refine O_freeze (ones_of rfl) ?_; intro H1 hk1 hr1) | (show opsA _ _ _ _ (⟨some 69, .call _, _, _, _, _⟩ :: _) _ _; refine O_ef rfl (Ef_call (I := [_]) WideF.wide (ka _ _ hr1) ⟨rfl, rfl, trivial⟩ rfl ?_); rintro v H3 I3 hle3 ⟨rfl, rfl⟩) | (show wpA _ _ _ (.region 22 _ _) _ _ _ _; (refine A_drawi WideF.wide (.q 0 (.q 1 (.q 2 (.e 3 (.r (.q 4 (.e 5 (.done [])))))))) [4, 5] [0, 2] [1] (by decide +kernel) (by decide) rfl ?_; simp only [Own.picks, Own.rget, List.cons_append, List.nil_append, List.append_nil])) | (refine E_ef rfl (Ef_call (I := [_]) WideF.wide (kg _ ((hle2.trans hk1).trans hle3)) ⟨rfl, trivial⟩ rfl ?_); rintro v H6 I6 hle6 ⟨⟨a6, n6, c6, rfl, hn6⟩, rfl, hok6⟩; refine ⟨⟨hle6, rfl⟩, ?_⟩) | refine O_nil ?_ | refine A_seq ?_ | refine A_region ?_ | refine A_skip ?_ | refine A_ret ?_ | refine A_block ?_ | (show drJ _ _ _ _ _ _ _ (.q _ _) _; refine D_q rfl ?_) | (show drJ _ _ _ _ _ _ _ (.e _ _) _; refine D_e rfl ?_) | (show drJ _ _ _ _ _ _ _ (.r _) _; refine D_r ?_; simp only [List.cons_append, List.nil_append]) | (show drJ _ _ _ _ _ _ _ (.done _) _; refine D_done ?_; simp only [List.cons_append, List.nil_append]) | (show drQ _ _ _ _ _ _; first | refine D_ev rfl (Ev_pure rfl) rfl rfl ?_ | (show drQ _ _ _ ⟨_, .load _ _, _, _, _, _⟩ _ _; refine D_ev rfl (Ev_loadB1 (i := 0) rfl rfl rfl) rfl rfl ?_) | (show drQ _ _ _ ⟨_, .fieldAddr _ _ _, _, _, _, _⟩ _ _; refine D_ev rfl (Ev_fieldAddr rfl rfl rfl) rfl rfl ?_) | (show drQ _ _ _ ⟨_, .build _ _, _, _, _, _⟩ _ _; refine D_ev rfl (Ev_build (vs := [(_, _), (_, _), (_, _)]) ⟨rfl, rfl, rfl, rfl, rfl, rfl, trivial⟩ rfl) rfl rfl ?_)) | (show drE _ _ _ _ _ _ _; (show drE _ _ _ _ ⟨_, .store _ _ _, _, _, _, _⟩ _ _; (refine E_ef rfl (Ef_f1 (Ef_storew WideF.wide rfl rfl rfl rfl rfl ?_)); refine ⟨Grow.same rfl rfl, ?_⟩))) | (show opsA _ _ _ _ _ _ _; first | refine O_ev WideF.wide rfl (Ev_pure rfl) rfl rfl ?_ | (show opsA _ _ _ _ (⟨_, .load _ _, _, _, _, _⟩ :: _) _ _; first | refine O_ev WideF.wide rfl (Ev_loadB1 (i := 0) rfl rfl rfl) rfl rfl ?_ | refine O_ev WideF.wide rfl (Ev_loadBs (i := 1) rfl rfl rfl rfl) rfl rfl ?_) | (show opsA _ _ _ _ (⟨_, .fieldAddr _ _ _, _, _, _, _⟩ :: _) _ _; refine O_ev WideF.wide rfl (Ev_fieldAddr rfl rfl rfl) rfl rfl ?_) | (show opsA _ _ _ _ (⟨_, .call _, _, _, _, _⟩ :: _) _ _; refine O_ev WideF.wide rfl (Ev_slen rfl) rfl rfl ?_) | (show opsA _ _ _ _ (⟨_, .nilCheck _, _, _, _, _⟩ :: _) _ _; refine O_ev WideF.wide rfl (Ev_nilCheck rfl) rfl rfl ?_) | (show opsA _ _ _ _ (⟨_, .alloc _, _, _, _, _⟩ :: _) _ _; (refine O_ef rfl (Ef_alloc WideF.wide rfl ?_); intro b)) | (show opsA _ _ _ _ (⟨_, .store _ _ _, _, _, _, _⟩ :: _) _ _; refine O_ef rfl (Ef_storew WideF.wide rfl rfl rfl rfl rfl ?_))) | (show wpA _ _ _ (.cond _ _ _) _ _ _ _; first | (refine A_if rfl (fun h => ?_) (fun h => ?_) <;> try (exfalso; omega)) | refine A_iftrue rfl ?_ | refine A_iffalse rfl ?_))
  all_goals first
    | (exfalso; omega)
    | (exfalso; contradiction)
    | (exfalso; exact absurd trivial (by assumption))
    | (exfalso; exact absurd rfl (by assumption))
    | exact End_s (RetC rfl rfl (i := 0) rfl rfl) (Shift.to (s' := ⟨_, [], _, [.box pb (pcs s t')], [], []⟩) ⟨rfl, ⟨_, _, _, rfl, hn6⟩, rfl, hok6⟩ ⟨rfl, rfl, rfl, trivial, Own.subi [1] (by decide) rfl rfl⟩)
    | exact End_s (RetC rfl rfl (i := 0) rfl rfl) (Shift.to (s' := ⟨_, [], _, [.box pb (pcs s t')], [], []⟩) ⟨rfl, ⟨_, _, _, rfl, hn6⟩, rfl, hok6⟩ ⟨rfl, rfl, rfl, trivial, Own.subi [2] (by decide) rfl rfl⟩)
    | trace_state
set_option maxRecDepth 100000 in
set_option maxHeartbeats 8000000 in
theorem prim_par {s tx : List UInt8} {p : Nat} (hs : s.length ≤ 1000000) {k : Nat} (hor : OC s 42 1 k) {n : Nd} {t' : Tok} {H : Hp} {pb : Nat} (hV : VarsH H) (ht : TokOk s ⟨[40], tx, p⟩) (ha : prs s k 1 (nxt s ⟨[40], tx, p⟩) = .ok n t') (hk : t'.kind = [41]) :
    Fn Tryz.prog 222 [.pointer (some ⟨pb, 0, none⟩)] H [.box pb [sv s, sv [40], sv tx, .int .i64 p]] (PPost s pb n (nxt s t')) := by
  have hle := ht.le
  dsimp only at hle
  have kn := fun Hx => next_fn (H := Hx) (b := pb) (by omega) ht
  have kr := fun Hx (hx : HLe H Hx) => hor Hx _ n t' pb (hV.mono hx) ht.nxt ha
  have ke := fun Hx (hok : TokOk s t') => expect_yes (H := Hx) (b := pb) (by omega) hok hk
  refine Fn_of _ _ Tryz.func222 rfl Tryz.ntmps222 rfl fun c => ?_
  repeat' (first | (refine O_ev WideF.wide rfl (Ev_seqs rfl rfl) rfl rfl ?_) | (refine O_ev WideF.wide rfl (Ev_seqF (by decide) rfl rfl) rfl rfl ?_) | (show opsA _ _ _ _ (⟨some 84, .call _, _, _, _, _⟩ :: _) _ _; refine O_ef rfl (Ef_f2 (Ef_call (I := [_]) WideF.wide (kn _) ⟨rfl, trivial⟩ rfl ?_)); rintro v H2 I2 hle2 ⟨rfl, rfl⟩) | (show opsA _ _ _ _ (⟨some 86, .call _, _, _, _, _⟩ :: _) _ _; refine O_ef rfl (Ef_call (I := [_]) WideF.wide (kr _ hle2) ⟨rfl, trivial⟩ rfl ?_); rintro v H3 I3 hle3 ⟨⟨a3, n3, c3, rfl, hn3⟩, rfl, hok3⟩) | (show opsA _ _ _ _ (⟨some 88, .call _, _, _, _, _⟩ :: _) _ _; refine O_ef rfl (Ef_f1 (Ef_call (I := [_]) WideF.wide (ke _ hok3) ⟨rfl, rfl, trivial⟩ rfl ?_)); rintro v H4 I4 hle4 ⟨rfl, rfl⟩) | refine O_nil ?_ | refine A_seq ?_ | refine A_region ?_ | refine A_ret ?_ | refine A_block ?_ | (show opsA _ _ _ _ _ _ _; first | refine O_ev WideF.wide rfl (Ev_pure rfl) rfl rfl ?_ | (show opsA _ _ _ _ (⟨_, .load _ _, _, _, _, _⟩ :: _) _ _; first | refine O_ev WideF.wide rfl (Ev_loadB1 (i := 0) rfl rfl rfl) rfl rfl ?_ | refine O_ev WideF.wide rfl (Ev_loadB (i := 1) rfl rfl rfl) rfl rfl ?_ | refine O_ev WideF.wide rfl (Ev_loadBs (i := 1) rfl rfl rfl rfl) rfl rfl ?_) | (show opsA _ _ _ _ (⟨_, .fieldAddr _ _ _, _, _, _, _⟩ :: _) _ _; refine O_ev WideF.wide rfl (Ev_fieldAddr rfl rfl rfl) rfl rfl ?_) | (show opsA _ _ _ _ (⟨_, .nilCheck _, _, _, _, _⟩ :: _) _ _; refine O_ev WideF.wide rfl (Ev_nilCheck rfl) rfl rfl ?_) | (show opsA _ _ _ _ (⟨_, .alloc _, _, _, _, _⟩ :: _) _ _; (refine O_ef rfl (Ef_alloc WideF.wide rfl ?_); intro b)) | (show opsA _ _ _ _ (⟨_, .store _ _ _, _, _, _, _⟩ :: _) _ _; first | refine O_ef rfl (Ef_storew WideF.wide rfl rfl rfl rfl rfl ?_) | refine O_f3 (O_ef rfl (Ef_storew WideF.wide rfl rfl rfl rfl rfl ?_)))) | (show wpA _ _ _ (.cond _ _ _) _ _ _ _; first | refine A_iftrue rfl ?_ | refine A_iffalse rfl ?_))
  all_goals first
    | (exfalso; omega)
    | (exfalso; contradiction)
    | (exfalso; exact absurd trivial (by assumption))
    | (exfalso; exact absurd rfl (by assumption))
    | exact End_s (RetC rfl rfl (i := 0) rfl rfl) (Shift.to (s' := ⟨_, [], _, [.box pb (pcs s (nxt s t'))], [], []⟩) ⟨rfl, ⟨_, _, _, rfl, (NodesS.mono hle4 hn3)⟩, rfl, hok3.nxt⟩ ⟨rfl, rfl, rfl, trivial, Own.subi [1] (by decide) rfl rfl⟩)
    | trace_state
theorem primary_fn {s : List UInt8} (hs : s.length ≤ 1000000) {k : Nat} (har : AC s k) (hor : OC s 42 1 k) : OC s 222 8 (k + 1) := by
  intro H t nd t' pb hV ht h
  obtain ⟨kd, tx, p⟩ := t
  rw [prs_prim] at h
  dsimp only at h
  by_cases k1 : kd = [110]
  · subst k1
    rw [if_pos rfl] at h
    by_cases hd : (digR tx).2 = 0
    · rw [if_pos hd] at h; cases h; exact prim_num hs hV ht hd
    · rw [if_neg hd] at h; cases h
  rw [if_neg k1] at h
  by_cases k2 : kd = [115]
  · subst k2; rw [if_pos rfl] at h; cases h; exact prim_str hs hV ht
  rw [if_neg k2] at h
  by_cases k3 : kd = [116, 114, 117, 101]
  · subst k3; rw [if_pos rfl] at h; cases h; exact prim_t hs hV ht
  rw [if_neg k3] at h
  by_cases k4 : kd = [102, 97, 108, 115, 101]
  · subst k4; rw [if_pos rfl] at h; cases h; exact prim_f hs hV ht
  rw [if_neg k4] at h
  by_cases k5 : kd = [105]
  · subst k5
    rw [if_pos rfl] at h
    by_cases hl : 40 < tx.length
    · rw [if_pos hl] at h; cases h
    rw [if_neg hl] at h
    by_cases hk : (nxt s ⟨[105], tx, p⟩).kind = [40]
    · rw [if_pos hk] at h
      cases ha : arg s k (nxt s (nxt s ⟨[105], tx, p⟩)) with
      | no => rw [ha] at h; cases h
      | err e q => rw [ha] at h; cases h
      | ok l t2 => rw [ha] at h; cases h; exact prim_call hs har hV ht hl hk ha
    · rw [if_neg hk] at h; cases h; exact prim_name hs hV ht hl hk
  rw [if_neg k5] at h
  by_cases k6 : kd = [40]
  · subst k6
    rw [if_pos rfl] at h
    cases ha : prs s k 1 (nxt s ⟨[40], tx, p⟩) with
    | no => rw [ha] at h; cases h
    | err e q => rw [ha] at h; cases h
    | ok n t2 =>
      rw [ha] at h
      dsimp only at h
      by_cases hk : t2.kind = [41]
      · rw [if_pos hk] at h; cases h; exact prim_par hs hor hV ht ha hk
      · rw [if_neg hk] at h; cases h
  · rw [if_neg k6] at h; cases h
structure AllC (s : List UInt8) (k : Nat) : Prop where
  or : OC s 42 1 k
  and : OC s 83 2 k
  not : OC s 132 3 k
  rel : OC s 153 4 k
  sum : OC s 181 5 k
  pro : OC s 205 6 k
  fac : OC s 217 7 k
  pri : OC s 222 8 k
  arg : AC s k
theorem oc_zero {s : List UInt8} {f : FuncId} {lv : Nat} : OC s f lv 0 := fun H t nd t' b _ _ h => by rw [prs_zero] at h; cases h
theorem parser_all {s : List UInt8} (hs : s.length ≤ 1000000) : ∀ k, k ≤ 1000000 → AllC s k := by
  intro k
  induction k using Nat.strongRecOn with
  | _ k ih =>
    intro hk
    cases k with
    | zero => exact ⟨oc_zero, oc_zero, oc_zero, oc_zero, oc_zero, oc_zero, oc_zero, oc_zero, fun H t l t' b _ _ h => by rw [arg_zero] at h; cases h⟩
    | succ k =>
      have hs' : s.length < 4611686018427387904 := by omega
      have hj : ∀ j, j ≤ k → AllC s j := fun j hj => ih j (by omega) (by omega)
      have h0 := hj k (Nat.le_refl _)
      exact ⟨or_fn hs' fun j h => (hj j h).and, and_fn hs' fun j h => (hj j h).not, not_fn hs' h0.not h0.rel, relation_fn hs' h0.sum, sum_fn hs' fun j h => (hj j h).pro, product_fn hs' fun j h => (hj j h).fac,
        factor_fn hs' h0.fac h0.pri, primary_fn hs h0.arg h0.or, args_fn hs' (by omega) fun j h => (hj j h).or⟩
end Go.Proofs.YtnoadopmeoohmaaGreatDoor
