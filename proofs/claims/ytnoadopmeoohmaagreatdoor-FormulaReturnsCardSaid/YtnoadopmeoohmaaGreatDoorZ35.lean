import Derived.Test.YtnoadopmeoohmaaGreatDoorZ34
import Derived.Test.YtnoadopmeoohmaaGreatDoorZ30
/-
  The parser's functions where they fail, first part: chain and the levels.
-/
namespace Go.Proofs.YtnoadopmeoohmaaGreatDoor
open Go
set_option linter.unusedVariables false
set_option linter.unusedSimpArgs false
theorem hb3 {d0 d1 d2 : Nat} : ∀ {e0 : Env}, (e0.all fun p => !Nat.beq d0 p.1 && !Nat.beq d1 p.1 && !Nat.beq d2 p.1) = true → ∀ t v, e0.find t = some v → Nat.beq d0 t = false ∧ Nat.beq d1 t = false ∧ Nat.beq d2 t = false
  | [], _, t, v, h => by cases h
  | (d, u) :: e0, h, t, v, ht => by
    simp only [List.all_cons, Bool.and_eq_true, Bool.not_eq_true'] at h
    cases hd : Nat.beq d t with
    | true => have := Nat.eq_of_beq_eq_true hd; subst this; exact ⟨h.1.1.1, h.1.1.2, h.1.2⟩
    | false =>
      have h2 : Env.find ((d, u) :: e0) t = Env.find e0 t := by
        show (match Nat.beq d t with | true => some u | false => Env.find e0 t) = _
        rw [hd]
      exact hb3 (by simpa using h.2) t v (h2 ▸ ht)
/-- a failure of the parser -/
def isFail (ch : List PanicEntry) : Prop := ∃ (e : Int) (p : Nat), e ≠ 0 ∧ ch = failC e p
/-- a function of the parser fails -/
def XC (s : List UInt8) (f : FuncId) (lv k : Nat) : Prop := ∀ (H : Hp) (t : Tok) (e : Int) (p : Nat) (b : Nat), VarsH H → TokOk s t → prs s k lv t = .err e p →
  FnX Tryz.prog f [.pointer (some ⟨b, 0, none⟩)] H [.box b (pcs s t)] isFail
def XA (s : List UInt8) (k : Nat) : Prop := ∀ (H : Hp) (t : Tok) (e : Int) (p : Nat) (b : Nat), VarsH H → TokOk s t → arg s k t = .err e p →
  FnX Tryz.prog 223 [.pointer (some ⟨b, 0, none⟩)] H [.box b (pcs s t)] isFail
attribute [local irreducible] wpA opsA drJ drQ drE Ef Ev Shift Fn
set_option maxRecDepth 100000 in
set_option maxHeartbeats 8000000 in
theorem chain_bad1 {s : List UInt8} {f : FuncId} [FunC Tryz.prog f] {lv k : Nat} {kvs : List (List UInt8 × Value)} (hbad : XC s f (lv + 1) k)
    {H : Hp} {t : Tok} {e : Int} {p : Nat} {pb mb : Nat} (hV : VarsH H) (ht : TokOk s t) (h1 : prs s k (lv + 1) t = .err e p) :
    FnX Tryz.prog 82 [.pointer (some ⟨pb, 0, none⟩), .func (.func f) [.pointer (some ⟨pb, 0, none⟩)].toArray #[], .map (some mb)] H [.box pb (pcs s t), .obj mb (smobj kvs)] isFail := by
  have k1 := fun Hx (hVx : VarsH Hx) => hbad Hx t e p pb hVx ht h1
  refine FnX_of _ _ Tryz.func82 rfl Tryz.ntmps82 rfl fun c hc => ?_
  repeat' (first | (show wpA _ _ _ (.region 1 _ _) _ _ _ _; refine A_fail 1 ?_; simp only [List.take_succ_cons, List.take_zero, List.drop_succ_cons, List.drop_zero]) | refine O_nil ?_ | refine A_seq ?_ | refine A_region ?_ | (show opsA _ _ _ _ _ _ _; first | refine O_ev WideF.wide rfl (Ev_pure rfl) rfl rfl ?_ | (show opsA _ _ _ _ (⟨_, .alloc _, _, _, _, _⟩ :: _) _ _; (refine O_ef rfl (Ef_alloc WideF.wide rfl ?_); intro b))))
  all_goals
    exact OX_efx rfl (EfX_f1 (EfX_callb (I := [_]) (xs := #[]) (first := [.pointer (some ⟨pb, 0, none⟩)]) (args := []) WideF.wide (k1 _ hV) rfl trivial fun ch H' _ hp => hc _ _ hp rfl))
set_option maxRecDepth 100000 in
set_option maxHeartbeats 8000000 in
theorem chain_bad2 {s : List UInt8} (hs : s.length < 4611686018427387904) {f : FuncId} [FunC Tryz.prog f] {lv k : Nat} {kvs : List (List UInt8 × Value)} (hops : OpsOf lv kvs) (hop : ∀ j, j ≤ k → OC s f (lv + 1) j) (hbad : ∀ j, j ≤ k → XC s f (lv + 1) j)
    {H : Hp} {t t1 : Tok} {n : Nd} {er : Int} {p : Nat} {pb mb : Nat} (hV : VarsH H) (ht : TokOk s t) (h1 : prs s k (lv + 1) t = .ok n t1) (h2 : lop s k lv n t1 = .err er p) :
    FnX Tryz.prog 82 [.pointer (some ⟨pb, 0, none⟩), .func (.func f) [.pointer (some ⟨pb, 0, none⟩)].toArray #[], .map (some mb)] H [.box pb (pcs s t), .obj mb (smobj kvs)] isFail := by
  have k1 := fun Hx (hVx : VarsH Hx) => hop k (Nat.le_refl _) Hx t n t1 pb hVx ht h1
  refine FnX_of _ _ Tryz.func82 rfl Tryz.ntmps82 rfl fun c hc => ?_
  repeat' (first | (refine O_ef rfl (Ef_f1 (Ef_callb (I := [_]) (xs := #[]) (first := [.pointer (some ⟨pb, 0, none⟩)]) (args := []) WideF.wide (k1 _ hV) rfl trivial rfl ?_)); rintro v H3 I3 hle3 ⟨⟨a3, n3, c3, rfl, hn3⟩, rfl, hok3⟩) | refine O_nil ?_ | refine A_seq ?_ | refine A_region ?_ | refine A_block ?_ | (show opsA _ _ _ _ _ _ _; first | refine O_ev WideF.wide rfl (Ev_pure rfl) rfl rfl ?_ | (show opsA _ _ _ _ (⟨_, .alloc _, _, _, _, _⟩ :: _) _ _; (refine O_ef rfl (Ef_alloc WideF.wide rfl ?_); intro b)) | (show opsA _ _ _ _ (⟨_, .store _ _ _, _, _, _, _⟩ :: _) _ _; refine O_ef rfl (Ef_storew WideF.wide rfl rfl rfl rfl rfl ?_))))
  refine A_loopu (fun q st => ∃ (j : Nat) (n1 : Nd) (tq : Tok) (a : Option Addr) (m c : Nat) (b6 b7 : Nat) (H1 : Hp) (cs6 : List Value), q = j ∧ j ≤ k ∧ cs6.length = 4 ∧ lop s j lv n1 tq = .err er p ∧ TokOk s tq ∧ HLe H H1 ∧ NodesS H1 a m c n1.args ∧
    st = ⟨33, [(0, .pointer (some ⟨pb, 0, none⟩)), (1, .func (.func f) [.pointer (some ⟨pb, 0, none⟩)].toArray #[]), (2, .map (some mb)), (6, .pointer (some ⟨b6, 0, none⟩)), (7, .pointer (some ⟨b7, 0, none⟩))], H1, [.box pb (pcs s tq), .box b7 (ncs n1 a m c), .box b6 cs6, .obj mb (smobj kvs)], [], []⟩) ?_ ?_
  · exact Shift.to ⟨_, k, n, t1, _, _, _, _, _, _, _, rfl, Nat.le_refl _, rfl, h2, hok3, hle3, hn3, rfl⟩ ⟨rfl, rfl, rfl, ⟨rfl, rfl, rfl, rfl, rfl, trivial⟩, Own.subi [1, 0, 2, 3] (by decide) rfl rfl⟩
  rintro q st ⟨j, n1, tq, a, m, c, b6, b7, H1, cs6, rfl, hjk, hc6, hl, htq, hle, hn1, rfl⟩
  obtain ⟨z1, z2, z3, z4, rfl⟩ : ∃ z1 z2 z3 z4, cs6 = [z1, z2, z3, z4] := by
    match cs6, hc6 with
    | [x, y, z, w], _ => exact ⟨x, y, z, w, rfl⟩
  cases q with
  | zero => rw [lop_zero] at hl; cases hl
  | succ q =>
    rw [lop_succ] at hl
    rcases hops tq.kind with ⟨ho, hsh⟩ | ⟨op, ho, hsh, hsg⟩
    · rw [ho] at hl
      cases hl
    · rw [ho] at hl
      dsimp only at hl
      cases hm : prs s q (lv + 1) (nxt s tq) with
      | no => rw [hm] at hl; cases hl
      | err e2 p2 =>
        have kn := next_fn (H := H1) (b := pb) hs htq
        have k2 := fun Hx (hVx : VarsH Hx) => hbad q (by omega) Hx (nxt s tq) e2 p2 pb hVx htq.nxt hm
        repeat' (first | (refine O_ev WideF.wide rfl (Ev_lookupTok (i := 3) Tryz.zeroValue3 rfl rfl rfl) rfl rfl ?_; rw [decide_eq_true hsh, hsg]) | (refine O_ef rfl (Ef_call (I := [_]) WideF.wide kn ⟨rfl, trivial⟩ rfl ?_); rintro v H2 I2 hle2 ⟨rfl, rfl⟩) | refine O_nil ?_ | refine A_seq ?_ | refine A_region ?_ | refine A_skip ?_ | refine A_block ?_ | (show opsA _ _ _ _ _ _ _; first | refine O_ev WideF.wide rfl (Ev_pure rfl) rfl rfl ?_ | (show opsA _ _ _ _ (⟨_, .load _ _, _, _, _, _⟩ :: _) _ _; refine O_ev WideF.wide rfl (Ev_loadB1 (i := 0) rfl rfl rfl) rfl rfl ?_) | (show opsA _ _ _ _ (⟨_, .fieldAddr _ _ _, _, _, _, _⟩ :: _) _ _; refine O_ev WideF.wide rfl (Ev_fieldAddr rfl rfl rfl) rfl rfl ?_) | (show opsA _ _ _ _ (⟨_, .unOp _ _ _, _, _, _, _⟩ :: _) _ _; refine O_ev WideF.wide rfl (Ev_notb rfl) rfl rfl ?_) | (show opsA _ _ _ _ (⟨_, .nilCheck _, _, _, _, _⟩ :: _) _ _; refine O_ev WideF.wide rfl (Ev_nilCheck rfl) rfl rfl ?_)) | (show wpA _ _ _ (.cond _ _ _) _ _ _ _; refine A_iffalse rfl ?_))
        show wpA _ _ _ (.region 6 _ _) _ _ _ _
        refine A_sub (s' := ⟨33, [(0, .pointer (some ⟨pb, 0, none⟩)), (1, .func (.func f) [.pointer (some ⟨pb, 0, none⟩)].toArray #[]), (7, .pointer (some ⟨b7, 0, none⟩)), (8, .int .i64 op)], H2, [.box pb (pcs s (nxt s tq)), .box b7 (ncs n1 a m c), .box b6 [z1, z2, z3, z4], .obj mb (smobj kvs)], [], []⟩) ⟨rfl, rfl, rfl, ⟨rfl, rfl, rfl, rfl, trivial⟩, Own.subi [0, 1, 2, 3] (by decide) rfl rfl⟩ ?_
        refine A_drawX WideF.wide rfl ⟨rfl, rfl⟩ ⟨rfl, rfl⟩ ⟨rfl, rfl⟩ rfl (hb3 rfl) ⟨rfl, rfl⟩ ⟨rfl, rfl, rfl⟩ rfl rfl (fun e he => Ev_pure (he 8 _ rfl)) (fun e he => Ev_loadB (i := 1) (he 7 _ rfl) rfl rfl) (fun e he => Ev_pure (he 1 _ rfl)) (fun e he hz => EfX_callb (I := [_]) (xs := #[]) (first := [.pointer (some ⟨pb, 0, none⟩)]) (args := []) WideF.wide (k2 _ (hV.mono (hle.trans hle2))) hz trivial fun ch H' _ hp => hc _ _ hp rfl)
      | ok n2 t2 =>
        rw [hm] at hl
        dsimp only at hl
        have kn := next_fn (H := H1) (b := pb) hs htq
        have k2 := fun Hx (hVx : VarsH Hx) => hop q (by omega) Hx (nxt s tq) n2 t2 pb hVx htq.nxt hm
        repeat' (first | (refine O_ev WideF.wide rfl (Ev_lookupTok (i := 3) Tryz.zeroValue3 rfl rfl rfl) rfl rfl ?_; rw [decide_eq_true hsh, hsg]) | (refine O_ef rfl (Ef_call (I := [_]) WideF.wide kn ⟨rfl, trivial⟩ rfl ?_); rintro v H2 I2 hle2 ⟨rfl, rfl⟩) | (show wpA _ _ _ (.region 6 _ _) _ _ _ _; (refine A_drawi WideF.wide (.p 0 (.q 1 (.q 2 (.e 3 (.r (.e 4 (.q 5 (.e 6 (.done []))))))))) [4, 5, 6] [0, 2, 3] [1] (by decide +kernel) (by decide) rfl ?_; simp only [Own.picks, Own.rget, List.cons_append, List.nil_append, List.append_nil])) | (refine E_ef rfl (Ef_callb (I := [_]) (xs := #[]) (first := [.pointer (some ⟨pb, 0, none⟩)]) (args := []) WideF.wide (k2 _ (hV.mono (hle.trans hle2))) rfl trivial rfl ?_); rintro v H3 I3 hle3 ⟨⟨a3, n3, c3, rfl, hn3⟩, rfl, hok3⟩; refine ⟨⟨hle3, rfl⟩, ?_⟩) | (refine E_ef rfl (Ef_buildF WideF.wide (xs := [_, _]) (vs := [.agg _, .agg _]) (css := [ncs n1 a m c, ncs n2 a3 n3 c3]) rfl ⟨rfl, rfl, trivial⟩ rfl rfl rfl rfl rfl rfl (ncs_one2 _ _ _ _ _ _ _ _) ?_); intro b3 H4 hle4 hr4; refine ⟨⟨hle4, rfl⟩, ?_⟩) | refine O_nil ?_ | refine A_seq ?_ | refine A_region ?_ | refine A_skip ?_ | refine A_block ?_ | (show drJ _ _ _ _ _ _ _ (.q _ _) _; refine D_q rfl ?_) | (show drJ _ _ _ _ _ _ _ (.e _ _) _; refine D_e rfl ?_) | (show drJ _ _ _ _ _ _ _ (.r _) _; refine D_r ?_; simp only [List.cons_append, List.nil_append]) | (show drJ _ _ _ _ _ _ _ (.done _) _; refine D_done ?_; simp only [List.cons_append, List.nil_append]) | (show drQ _ _ _ _ _ _; first | refine D_ev rfl (Ev_pure rfl) rfl rfl ?_ | (show drQ _ _ _ ⟨_, .load _ _, _, _, _, _⟩ _ _; refine D_ev rfl (Ev_loadB (i := 0) rfl rfl rfl) rfl rfl ?_) | (show drQ _ _ _ ⟨_, .build _ _, _, _, _, _⟩ _ _; refine D_ev rfl (Ev_build (vs := [(_, _), (_, _)]) ⟨rfl, rfl, rfl, rfl, trivial⟩ rfl) rfl rfl ?_)) | (show drJ _ _ _ _ _ _ _ (.p _ _) _; refine D_p rfl ?_) | (show drP _ _ _ _ _ _; refine D_pv rfl (Ev_pure rfl) rfl rfl ?_) | (show drE _ _ _ _ _ _ _; (show drE _ _ _ _ ⟨_, .store _ _ _, _, _, _, _⟩ _ _; (refine E_ef rfl (Ef_f3 (Ef_storew WideF.wide rfl rfl rfl rfl rfl ?_)); refine ⟨Grow.same rfl rfl, ?_⟩))) | (show opsA _ _ _ _ _ _ _; first | refine O_ev WideF.wide rfl (Ev_pure rfl) rfl rfl ?_ | (show opsA _ _ _ _ (⟨_, .load _ _, _, _, _, _⟩ :: _) _ _; refine O_ev WideF.wide rfl (Ev_loadB1 (i := 0) rfl rfl rfl) rfl rfl ?_) | (show opsA _ _ _ _ (⟨_, .fieldAddr _ _ _, _, _, _, _⟩ :: _) _ _; refine O_ev WideF.wide rfl (Ev_fieldAddr rfl rfl rfl) rfl rfl ?_) | (show opsA _ _ _ _ (⟨_, .unOp _ _ _, _, _, _, _⟩ :: _) _ _; refine O_ev WideF.wide rfl (Ev_notb rfl) rfl rfl ?_) | (show opsA _ _ _ _ (⟨_, .nilCheck _, _, _, _, _⟩ :: _) _ _; refine O_ev WideF.wide rfl (Ev_nilCheck rfl) rfl rfl ?_)) | (show wpA _ _ _ (.cond _ _ _) _ _ _ _; refine A_iffalse rfl ?_))
        all_goals first
          | (exfalso; contradiction)
          | (exfalso; exact absurd trivial (by assumption))
          | (exfalso; exact absurd rfl (by assumption))
          | exact Shift.to ⟨_, Nat.lt_succ_self _, q, .mk op 0 [] [n1, n2], t2, _, _, _, _, _, _, _, rfl, by omega, rfl, hl, hok3, ((hle.trans hle2).trans hle3).trans hle4, Nodes2 hr4 (NodesS.mono ((hle2.trans hle3).trans hle4) hn1) (NodesS.mono hle4 hn3), rfl⟩ ⟨rfl, rfl, rfl, ⟨rfl, rfl, rfl, rfl, rfl, trivial⟩, Own.subi [1, 0, 2, 3] (by decide) rfl rfl⟩
          | trace_state
theorem chain_bad {s : List UInt8} (hs : s.length < 4611686018427387904) {f : FuncId} [FunC Tryz.prog f] {lv k : Nat} {kvs : List (List UInt8 × Value)} (hops : OpsOf lv kvs) (hop : ∀ j, j ≤ k → OC s f (lv + 1) j) (hbad : ∀ j, j ≤ k → XC s f (lv + 1) j)
    {H : Hp} {t : Tok} {er : Int} {p : Nat} {pb mb : Nat} (hV : VarsH H) (ht : TokOk s t) (h : (match prs s k (lv + 1) t with | .ok n t' => lop s k lv n t' | r => r) = .err er p) :
    FnX Tryz.prog 82 [.pointer (some ⟨pb, 0, none⟩), .func (.func f) [.pointer (some ⟨pb, 0, none⟩)].toArray #[], .map (some mb)] H [.box pb (pcs s t), .obj mb (smobj kvs)] isFail := by
  cases h1 : prs s k (lv + 1) t with
  | no => rw [h1] at h; cases h
  | err e p => exact chain_bad1 (hbad k (Nat.le_refl _)) hV ht h1
  | ok n t1 => rw [h1] at h; exact chain_bad2 hs hops hop hbad hV ht h1 h
theorem EfX_pick {F : Fence} {P : Program} {c : Ctx} {o : Oper} {n : Nat} {e : Env} {H : Hp} {M L : Own} {D : List Deferred} (ix : List Nat) {M2 : Own} (h1 : ix.Nodup) (h2 : (ix.all fun i => Nat.blt i M.length) = true) (hM : M.picks ix ++ M.picks (Own.rest M ix) = M2) (h : EfX F P c o ⟨n, e, H, M2, L, D⟩) : EfX F P c o ⟨n, e, H, M, L, D⟩ :=
  fun a w hs => h a w ⟨hs.defers, hs.size, hs.env, own_perm ((hM ▸ Own.front M ix h1 h2 : M.Perm M2).append_right L) hs.holds⟩
end Go.Proofs.YtnoadopmeoohmaaGreatDoor
/-
  The levels where they fail.
-/
namespace Go.Proofs.YtnoadopmeoohmaaGreatDoor
open Go
set_option linter.unusedVariables false
set_option linter.unusedSimpArgs false
attribute [local irreducible] wpA opsA drJ drQ drE Ef Ev Shift Fn
set_option maxRecDepth 100000 in
set_option maxHeartbeats 4000000 in
theorem or_bad {s : List UInt8} (hs : s.length < 4611686018427387904) {k : Nat} (hop : ∀ j, j ≤ k → OC s 83 2 j) (hbad : ∀ j, j ≤ k → XC s 83 2 j) : XC s 42 1 (k + 1) := by
  intro H t er p pb hV ht h
  rw [prs_or] at h
  have kc := fun mb => chain_bad hs or_ops hop hbad (pb := pb) (mb := mb) hV ht h
  refine FnX_of _ _ Tryz.func42 rfl Tryz.ntmps42 rfl fun c hc => ?_
  repeat' (first | (show wpA _ _ _ (.region 1 _ _) _ _ _ _; refine A_fail 6 ?_; simp only [List.take_succ_cons, List.take_zero, List.drop_succ_cons, List.drop_zero]) | (refine O_ev WideF.wide rfl (Ev_makeFunc (xs := [_]) (ys := []) (vs := [_]) (us := []) rfl rfl) rfl rfl ?_) | (refine O_ef rfl (Ef_makeMapT WideF.wide rfl ?_); intro mb) | (refine O_ef rfl (Ef_mapInsT WideF.wide rfl rfl rfl ?_)) | refine O_nil ?_ | refine A_seq ?_ | refine A_region ?_ | (show opsA _ _ _ _ _ _ _; first | refine O_ev WideF.wide rfl (Ev_pure rfl) rfl rfl ?_ | (show opsA _ _ _ _ (⟨_, .alloc _, _, _, _, _⟩ :: _) _ _; (refine O_ef rfl (Ef_alloc WideF.wide rfl ?_); intro b))))
  all_goals exact OX_efx rfl (EfX_pick [2, 0] (by decide) rfl rfl (EfX_call (I := [_, _]) WideF.wide (kc _) ⟨rfl, rfl, rfl, trivial⟩ fun ch H' _ hp => hc _ _ hp rfl))
set_option maxRecDepth 100000 in
set_option maxHeartbeats 4000000 in
theorem and_bad {s : List UInt8} (hs : s.length < 4611686018427387904) {k : Nat} (hop : ∀ j, j ≤ k → OC s 132 3 j) (hbad : ∀ j, j ≤ k → XC s 132 3 j) : XC s 83 2 (k + 1) := by
  intro H t er p pb hV ht h
  rw [prs_and] at h
  have kc := fun mb => chain_bad hs and_ops hop hbad (pb := pb) (mb := mb) hV ht h
  refine FnX_of _ _ Tryz.func83 rfl Tryz.ntmps83 rfl fun c hc => ?_
  repeat' (first | (show wpA _ _ _ (.region 1 _ _) _ _ _ _; refine A_fail 6 ?_; simp only [List.take_succ_cons, List.take_zero, List.drop_succ_cons, List.drop_zero]) | (refine O_ev WideF.wide rfl (Ev_makeFunc (xs := [_]) (ys := []) (vs := [_]) (us := []) rfl rfl) rfl rfl ?_) | (refine O_ef rfl (Ef_makeMapT WideF.wide rfl ?_); intro mb) | (refine O_ef rfl (Ef_mapInsT WideF.wide rfl rfl rfl ?_)) | refine O_nil ?_ | refine A_seq ?_ | refine A_region ?_ | (show opsA _ _ _ _ _ _ _; first | refine O_ev WideF.wide rfl (Ev_pure rfl) rfl rfl ?_ | (show opsA _ _ _ _ (⟨_, .alloc _, _, _, _, _⟩ :: _) _ _; (refine O_ef rfl (Ef_alloc WideF.wide rfl ?_); intro b))))
  all_goals exact OX_efx rfl (EfX_pick [2, 0] (by decide) rfl rfl (EfX_call (I := [_, _]) WideF.wide (kc _) ⟨rfl, rfl, rfl, trivial⟩ fun ch H' _ hp => hc _ _ hp rfl))
set_option maxRecDepth 100000 in
set_option maxHeartbeats 4000000 in
theorem sum_bad {s : List UInt8} (hs : s.length < 4611686018427387904) {k : Nat} (hop : ∀ j, j ≤ k → OC s 205 6 j) (hbad : ∀ j, j ≤ k → XC s 205 6 j) : XC s 181 5 (k + 1) := by
  intro H t er p pb hV ht h
  rw [prs_sum] at h
  have kc := fun mb => chain_bad hs sum_ops hop hbad (pb := pb) (mb := mb) hV ht h
  refine FnX_of _ _ Tryz.func181 rfl Tryz.ntmps181 rfl fun c hc => ?_
  repeat' (first | (show wpA _ _ _ (.region 1 _ _) _ _ _ _; refine A_fail 8 ?_; simp only [List.take_succ_cons, List.take_zero, List.drop_succ_cons, List.drop_zero]) | (refine O_ev WideF.wide rfl (Ev_makeFunc (xs := [_]) (ys := []) (vs := [_]) (us := []) rfl rfl) rfl rfl ?_) | (refine O_ef rfl (Ef_makeMapT WideF.wide rfl ?_); intro mb) | (refine O_ef rfl (Ef_mapInsT WideF.wide rfl rfl rfl ?_)) | refine O_nil ?_ | refine A_seq ?_ | refine A_region ?_ | (show opsA _ _ _ _ _ _ _; first | refine O_ev WideF.wide rfl (Ev_pure rfl) rfl rfl ?_ | (show opsA _ _ _ _ (⟨_, .alloc _, _, _, _, _⟩ :: _) _ _; (refine O_ef rfl (Ef_alloc WideF.wide rfl ?_); intro b))))
  all_goals exact OX_efx rfl (EfX_pick [2, 0] (by decide) rfl rfl (EfX_call (I := [_, _]) WideF.wide (kc _) ⟨rfl, rfl, rfl, trivial⟩ fun ch H' _ hp => hc _ _ hp rfl))
set_option maxRecDepth 100000 in
set_option maxHeartbeats 4000000 in
theorem product_bad {s : List UInt8} (hs : s.length < 4611686018427387904) {k : Nat} (hop : ∀ j, j ≤ k → OC s 217 7 j) (hbad : ∀ j, j ≤ k → XC s 217 7 j) : XC s 205 6 (k + 1) := by
  intro H t er p pb hV ht h
  rw [prs_product] at h
  have kc := fun mb => chain_bad hs product_ops hop hbad (pb := pb) (mb := mb) hV ht h
  refine FnX_of _ _ Tryz.func205 rfl Tryz.ntmps205 rfl fun c hc => ?_
  repeat' (first | (show wpA _ _ _ (.region 1 _ _) _ _ _ _; refine A_fail 8 ?_; simp only [List.take_succ_cons, List.take_zero, List.drop_succ_cons, List.drop_zero]) | (refine O_ev WideF.wide rfl (Ev_makeFunc (xs := [_]) (ys := []) (vs := [_]) (us := []) rfl rfl) rfl rfl ?_) | (refine O_ef rfl (Ef_makeMapT WideF.wide rfl ?_); intro mb) | (refine O_ef rfl (Ef_mapInsT WideF.wide rfl rfl rfl ?_)) | refine O_nil ?_ | refine A_seq ?_ | refine A_region ?_ | (show opsA _ _ _ _ _ _ _; first | refine O_ev WideF.wide rfl (Ev_pure rfl) rfl rfl ?_ | (show opsA _ _ _ _ (⟨_, .alloc _, _, _, _, _⟩ :: _) _ _; (refine O_ef rfl (Ef_alloc WideF.wide rfl ?_); intro b))))
  all_goals exact OX_efx rfl (EfX_pick [2, 0] (by decide) rfl rfl (EfX_call (I := [_, _]) WideF.wide (kc _) ⟨rfl, rfl, rfl, trivial⟩ fun ch H' _ hp => hc _ _ hp rfl))
set_option maxRecDepth 100000 in
set_option maxHeartbeats 8000000 in
theorem not_badX {s : List UInt8} (hs : s.length < 4611686018427387904) {k : Nat} (h0 : XC s 132 3 k) (hop : XC s 153 4 k) : XC s 132 3 (k + 1) := by
  intro H t er p pb hV ht h
  rw [prs_not] at h
  by_cases hk : t.kind = [110, 111, 116]
  · rw [if_pos hk] at h
    cases hm : prs s k 3 (nxt s t) with
    | no => rw [hm] at h; cases h
    | ok n t1 => rw [hm] at h; cases h
    | err e2 p2 =>
      have ka := fun Hx a (hr : HRow Hx a 1 1 1 [[sv [110, 111, 116]]]) => accept_yes (b := pb) hs ht hr hk
      have kr := fun Hx (hx : HLe H Hx) => h0 Hx (nxt s t) e2 p2 pb (hV.mono hx) ht.nxt hm
      refine FnX_of _ _ Tryz.func132 rfl Tryz.ntmps132 rfl fun c hc => ?_
      repeat' (first | (refine O_ef rfl (Ef_build11 WideF.wide rfl rfl rfl ?_); intro bk; refine O_freeze (ones_of rfl) ?_; intro H1 hk1 hr1) | (show opsA _ _ _ _ (⟨some 8, .call _, _, _, _, _⟩ :: _) _ _; refine O_ef rfl (Ef_f1 (Ef_call (I := [_]) WideF.wide (ka _ _ hr1) ⟨rfl, rfl, trivial⟩ rfl ?_)); rintro v H2 I2 hle2 ⟨rfl, rfl⟩) | (show wpA _ _ _ (.region 3 _ _) _ _ _ _; refine A_fail 1 ?_; simp only [List.take_succ_cons, List.take_zero, List.drop_succ_cons, List.drop_zero]) | refine O_nil ?_ | refine A_seq ?_ | refine A_region ?_ | (show opsA _ _ _ _ _ _ _; first | refine O_ev WideF.wide rfl (Ev_pure rfl) rfl rfl ?_ | (show opsA _ _ _ _ (⟨_, .alloc _, _, _, _, _⟩ :: _) _ _; (refine O_ef rfl (Ef_alloc WideF.wide rfl ?_); intro b))) | (show wpA _ _ _ (.cond _ _ _) _ _ _ _; refine A_iftrue rfl ?_))
      all_goals first
        | (exfalso; contradiction)
        | (exfalso; exact absurd trivial (by assumption))
        | (exfalso; exact absurd rfl (by assumption))
        | exact OX_efx rfl (EfX_call (I := [_]) WideF.wide (kr _ (hk1.trans hle2)) ⟨rfl, trivial⟩ fun ch H' _ hp => hc _ _ hp rfl)
        | trace_state
  · rw [if_neg hk] at h
    have ka := fun Hx a (hr : HRow Hx a 1 1 1 [[sv [110, 111, 116]]]) => accept_no (s := s) (b := pb) hr hk
    have kr := fun Hx (hx : HLe H Hx) => hop Hx t er p pb (hV.mono hx) ht h
    refine FnX_of _ _ Tryz.func132 rfl Tryz.ntmps132 rfl fun c hc => ?_
    repeat' (first | (refine O_ef rfl (Ef_build11 WideF.wide rfl rfl rfl ?_); intro bk; refine O_freeze (ones_of rfl) ?_; intro H1 hk1 hr1) | (show opsA _ _ _ _ (⟨some 8, .call _, _, _, _, _⟩ :: _) _ _; refine O_ef rfl (Ef_f1 (Ef_call (I := [_]) WideF.wide (ka _ _ hr1) ⟨rfl, rfl, trivial⟩ rfl ?_)); rintro v H2 I2 hle2 ⟨rfl, rfl⟩) | (show wpA _ _ _ (.region 4 _ _) _ _ _ _; refine A_fail 1 ?_; simp only [List.take_succ_cons, List.take_zero, List.drop_succ_cons, List.drop_zero]) | refine O_nil ?_ | refine A_seq ?_ | refine A_region ?_ | refine A_skip ?_ | (show opsA _ _ _ _ _ _ _; first | refine O_ev WideF.wide rfl (Ev_pure rfl) rfl rfl ?_ | (show opsA _ _ _ _ (⟨_, .alloc _, _, _, _, _⟩ :: _) _ _; (refine O_ef rfl (Ef_alloc WideF.wide rfl ?_); intro b))) | (show wpA _ _ _ (.cond _ _ _) _ _ _ _; refine A_iffalse rfl ?_))
    all_goals first
      | (exfalso; contradiction)
      | (exfalso; exact absurd trivial (by assumption))
      | (exfalso; exact absurd rfl (by assumption))
      | exact OX_efx rfl (EfX_call (I := [_]) WideF.wide (kr _ (hk1.trans hle2)) ⟨rfl, trivial⟩ fun ch H' _ hp => hc _ _ hp rfl)
      | trace_state
set_option maxRecDepth 100000 in
set_option maxHeartbeats 8000000 in
theorem factor_bad {s : List UInt8} (hs : s.length < 4611686018427387904) {k : Nat} (h0 : XC s 217 7 k) (hop : XC s 222 8 k) : XC s 217 7 (k + 1) := by
  intro H t er p pb hV ht h
  rw [prs_fac] at h
  by_cases hk : t.kind = [45]
  · rw [if_pos hk] at h
    cases hm : prs s k 7 (nxt s t) with
    | no => rw [hm] at h; cases h
    | ok n t1 => rw [hm] at h; cases h
    | err e2 p2 =>
      have ka := fun Hx a (hr : HRow Hx a 1 1 1 [[sv [45]]]) => accept_yes (b := pb) hs ht hr hk
      have kr := fun Hx (hx : HLe H Hx) => h0 Hx (nxt s t) e2 p2 pb (hV.mono hx) ht.nxt hm
      refine FnX_of _ _ Tryz.func217 rfl Tryz.ntmps217 rfl fun c hc => ?_
      repeat' (first | (refine O_ef rfl (Ef_build11 WideF.wide rfl rfl rfl ?_); intro bk; refine O_freeze (ones_of rfl) ?_; intro H1 hk1 hr1) | (show opsA _ _ _ _ (⟨some 8, .call _, _, _, _, _⟩ :: _) _ _; refine O_ef rfl (Ef_f1 (Ef_call (I := [_]) WideF.wide (ka _ _ hr1) ⟨rfl, rfl, trivial⟩ rfl ?_)); rintro v H2 I2 hle2 ⟨rfl, rfl⟩) | (show wpA _ _ _ (.region 3 _ _) _ _ _ _; refine A_fail 1 ?_; simp only [List.take_succ_cons, List.take_zero, List.drop_succ_cons, List.drop_zero]) | refine O_nil ?_ | refine A_seq ?_ | refine A_region ?_ | (show opsA _ _ _ _ _ _ _; first | refine O_ev WideF.wide rfl (Ev_pure rfl) rfl rfl ?_ | (show opsA _ _ _ _ (⟨_, .alloc _, _, _, _, _⟩ :: _) _ _; (refine O_ef rfl (Ef_alloc WideF.wide rfl ?_); intro b))) | (show wpA _ _ _ (.cond _ _ _) _ _ _ _; refine A_iftrue rfl ?_))
      all_goals first
        | (exfalso; contradiction)
        | (exfalso; exact absurd trivial (by assumption))
        | (exfalso; exact absurd rfl (by assumption))
        | exact OX_efx rfl (EfX_call (I := [_]) WideF.wide (kr _ (hk1.trans hle2)) ⟨rfl, trivial⟩ fun ch H' _ hp => hc _ _ hp rfl)
        | trace_state
  · rw [if_neg hk] at h
    have ka := fun Hx a (hr : HRow Hx a 1 1 1 [[sv [45]]]) => accept_no (s := s) (b := pb) hr hk
    have kr := fun Hx (hx : HLe H Hx) => hop Hx t er p pb (hV.mono hx) ht h
    refine FnX_of _ _ Tryz.func217 rfl Tryz.ntmps217 rfl fun c hc => ?_
    repeat' (first | (refine O_ef rfl (Ef_build11 WideF.wide rfl rfl rfl ?_); intro bk; refine O_freeze (ones_of rfl) ?_; intro H1 hk1 hr1) | (show opsA _ _ _ _ (⟨some 8, .call _, _, _, _, _⟩ :: _) _ _; refine O_ef rfl (Ef_f1 (Ef_call (I := [_]) WideF.wide (ka _ _ hr1) ⟨rfl, rfl, trivial⟩ rfl ?_)); rintro v H2 I2 hle2 ⟨rfl, rfl⟩) | (show wpA _ _ _ (.region 4 _ _) _ _ _ _; refine A_fail 1 ?_; simp only [List.take_succ_cons, List.take_zero, List.drop_succ_cons, List.drop_zero]) | refine O_nil ?_ | refine A_seq ?_ | refine A_region ?_ | refine A_skip ?_ | (show opsA _ _ _ _ _ _ _; first | refine O_ev WideF.wide rfl (Ev_pure rfl) rfl rfl ?_ | (show opsA _ _ _ _ (⟨_, .alloc _, _, _, _, _⟩ :: _) _ _; (refine O_ef rfl (Ef_alloc WideF.wide rfl ?_); intro b))) | (show wpA _ _ _ (.cond _ _ _) _ _ _ _; refine A_iffalse rfl ?_))
    all_goals first
      | (exfalso; contradiction)
      | (exfalso; exact absurd trivial (by assumption))
      | (exfalso; exact absurd rfl (by assumption))
      | exact OX_efx rfl (EfX_call (I := [_]) WideF.wide (kr _ (hk1.trans hle2)) ⟨rfl, trivial⟩ fun ch H' _ hp => hc _ _ hp rfl)
      | trace_state
set_option maxRecDepth 100000 in
set_option maxHeartbeats 8000000 in
theorem relation_bad {s : List UInt8} (hs : s.length < 4611686018427387904) {k : Nat} (hop : OC s 181 5 k) (hbad : XC s 181 5 k) : XC s 153 4 (k + 1) := by
  intro H t er p pb hV ht h
  rw [prs_rel] at h
  cases h1 : prs s k 5 t with
  | no => rw [h1] at h; cases h
  | err e p2 =>
    have kc := hbad H t e p2 pb hV ht h1
    refine FnX_of _ _ Tryz.func153 rfl Tryz.ntmps153 rfl fun c hc => ?_
    repeat' (first | (show wpA _ _ _ (.region 1 _ _) _ _ _ _; refine A_fail 1 ?_; simp only [List.take_succ_cons, List.take_zero, List.drop_succ_cons, List.drop_zero]) | refine O_nil ?_ | refine A_seq ?_ | refine A_region ?_ | (show opsA _ _ _ _ _ _ _; first | refine O_ev WideF.wide rfl (Ev_pure rfl) rfl rfl ?_ | (show opsA _ _ _ _ (⟨_, .alloc _, _, _, _, _⟩ :: _) _ _; (refine O_ef rfl (Ef_alloc WideF.wide rfl ?_); intro b))))
    exact OX_efx rfl (EfX_f1 (EfX_call (I := [_]) WideF.wide kc ⟨rfl, trivial⟩ fun ch H' _ hp => hc _ _ hp rfl))
  | ok n t1 =>
    rw [h1] at h
    dsimp only at h
    have kc := hop H t n t1 pb hV ht h1
    rcases rel_ops t1.kind with ⟨ho, hsh⟩ | ⟨op, ho, hsh, hsg⟩
    · rw [ho] at h; cases h
    · rw [ho] at h
      dsimp only at h
      cases hm : prs s k 5 (nxt s t1) with
      | no => rw [hm] at h; cases h
      | ok n2 t2 => rw [hm] at h; cases h
      | err e2 p2 =>
        refine FnX_of _ _ Tryz.func153 rfl Tryz.ntmps153 rfl fun c hc => ?_
        repeat' (first | (show opsA _ _ _ _ (⟨some 7, .call _, _, _, _, _⟩ :: _) _ _; refine O_ef rfl (Ef_f1 (Ef_call (I := [_]) WideF.wide kc ⟨rfl, trivial⟩ rfl ?_)); rintro v H3 I3 hle3 ⟨⟨a3, n3, c3, rfl, hn3⟩, rfl, hok3⟩; have kn := fun Hx => next_fn (H := Hx) (b := pb) hs hok3; have k2 := fun Hx (hx : HLe H3 Hx) => hbad Hx (nxt s t1) e2 p2 pb ((hV.mono hle3).mono hx) hok3.nxt hm) | (show wpA _ _ _ (.region 2 _ _) _ _ _ _; (refine A_drawi WideF.wide (.q 1 (.q 2 (.q 3 (.q 4 (.q 5 (.e 0 (.e 6 (.q 7 (.q 8 (.q 9 (.q 10 (.q 11 (.done []))))))))))))) [] [0, 2] [1] (by decide +kernel) (by decide) rfl ?_; simp only [Own.picks, Own.rget, List.cons_append, List.nil_append, List.append_nil])) | (refine E_ef rfl (Ef_call (I := []) WideF.wide relations_fn trivial rfl ?_); rintro v H4 I4 hle4 ⟨mb, rfl, rfl⟩; refine ⟨⟨hle4, rfl⟩, ?_⟩) | (refine E_ef rfl (Ef_ev WideF.wide (Ev_lookupTok (i := 0) Tryz.zeroValue3 rfl rfl rfl) rfl rfl ?_); refine ⟨Grow.same rfl rfl, ?_⟩; rw [decide_eq_true hsh, hsg]) | (refine O_ef rfl (Ef_f3 (Ef_call (I := [_]) WideF.wide (kn _) ⟨rfl, trivial⟩ rfl ?_)); rintro v H5 I5 hle5 ⟨rfl, rfl⟩) | refine O_nil ?_ | refine A_seq ?_ | refine A_region ?_ | (show drJ _ _ _ _ _ _ _ (.q _ _) _; refine D_q rfl ?_) | (show drJ _ _ _ _ _ _ _ (.e _ _) _; refine D_e rfl ?_) | (show drJ _ _ _ _ _ _ _ (.done _) _; refine D_done ?_; simp only [List.cons_append, List.nil_append]) | (show drQ _ _ _ _ _ _; first | refine D_ev rfl (Ev_pure rfl) rfl rfl ?_ | (show drQ _ _ _ ⟨_, .load _ _, _, _, _, _⟩ _ _; refine D_ev rfl (Ev_loadB1 (i := 0) rfl rfl rfl) rfl rfl ?_) | (show drQ _ _ _ ⟨_, .fieldAddr _ _ _, _, _, _, _⟩ _ _; refine D_ev rfl (Ev_fieldAddr rfl rfl rfl) rfl rfl ?_) | (show drQ _ _ _ ⟨_, .nilCheck _, _, _, _, _⟩ _ _; refine D_ev rfl (Ev_nilCheck rfl) rfl rfl ?_)) | (show opsA _ _ _ _ _ _ _; first | refine O_ev WideF.wide rfl (Ev_pure rfl) rfl rfl ?_ | (show opsA _ _ _ _ (⟨_, .alloc _, _, _, _, _⟩ :: _) _ _; (refine O_ef rfl (Ef_alloc WideF.wide rfl ?_); intro b)) | (show opsA _ _ _ _ (⟨_, .store _ _ _, _, _, _, _⟩ :: _) _ _; refine O_ef rfl (Ef_storew WideF.wide rfl rfl rfl rfl rfl ?_))) | (show wpA _ _ _ (.cond _ _ _) _ _ _ _; refine A_iftrue rfl ?_))
        all_goals first
        | (exfalso; contradiction)
        | (exfalso; exact absurd trivial (by assumption))
        | (exfalso; exact absurd rfl (by assumption))
        | (refine A_sub (s' := ⟨28, [(0, .pointer (some ⟨pb, 0, none⟩)), (3, .pointer (some ⟨_, 0, none⟩)), (4, .int .i64 op)], _, [.box pb (pcs s (nxt s t1)), .box _ (ncs n a3 n3 c3)], [], []⟩) ⟨rfl, rfl, rfl, ⟨rfl, rfl, rfl, trivial⟩, Own.subi [0, 2] (by decide) rfl rfl⟩ ?_
           refine A_drawX WideF.wide rfl ⟨rfl, rfl⟩ ⟨rfl, rfl⟩ ⟨rfl, rfl⟩ rfl (hb3 rfl) ⟨rfl, rfl⟩ ⟨rfl, rfl, rfl⟩ rfl rfl (fun e he => Ev_pure (he 4 _ rfl)) (fun e he => Ev_loadB (i := 1) (he 3 _ rfl) rfl rfl) (fun e he => Ev_pure (he 0 _ rfl)) (fun e he hz => EfX_call (I := [_]) WideF.wide (k2 _ (hle4.trans hle5)) ⟨hz, trivial⟩ fun ch H' _ hp => hc _ _ hp rfl))
        | trace_state
end Go.Proofs.YtnoadopmeoohmaaGreatDoor
