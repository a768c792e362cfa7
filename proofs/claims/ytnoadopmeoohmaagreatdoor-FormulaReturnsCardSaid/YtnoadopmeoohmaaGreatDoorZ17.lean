import Derived.Test.YtnoadopmeoohmaaGreatDoorZ16
import Derived.Test.YtnoadopmeoohmaaGreatDoorZ11
/-
  The parser's chain: operands with operators between them. Printed by genF13.py.
-/
namespace Go.Proofs.YtnoadopmeoohmaaGreatDoor
open Go
set_option linter.unusedVariables false
set_option linter.unusedSimpArgs false
section
variable {F : Fence} {P : Program} {c : Ctx} {K : SP} {n : Nat} {e : Env} {H : Hp} {M L : Own} {D : List Deferred} {x y z : Operand} {d : Tmp} {ty t t2 : TypeId} {pos : String} {after : Array Edge} {g : Option (Nat × Bool)} {v : Value} {b k : Nat}
theorem Ef_buildF (hF : WideF F) {el bytes len : Nat} {ag : Bool} {zc : List Value} {xs : List Operand} {vs : List Value} {css : List (List Value)} {ps : Array (Nat × Operand)} [ht : UndC P t (.slice el)] [hT : TyC P el ag k] [hI : InfoC P el bytes] [hz : ZeroL P el zc]
    (hps : ps.toList = (xs.zipIdx 0).map fun q => (q.2, q.1)) (hx : EvalAll e xs vs) (hv : vs.map (fun v => v.cells.toList) = css) (hlen : vs.length = len) (hpos : Nat.blt 0 (len * k) = true) (hsmall : Nat.ble (len * k) 16777216 = true) (hck : css.all (fun cs => Nat.beq cs.length k) = true) (hn : Nat.blt d n = true)
    (h1 : ∀ cs ∈ css, ∀ u ∈ cs, u.oneCell' = true)
    (kk : ∀ b H', HLe H H' → HRow H' (some ⟨b, 0, none⟩) len len k css → K ⟨n, (d, .slice (some ⟨b, 0, none⟩) len len) :: e, H', M, L, D⟩) :
    Ef F P c ⟨some d, .buildSlice t len ps, ty, pos, after, g⟩ ⟨n, e, H, M, L, D⟩ K := by
  refine Ef_mapK (K' := fun s' => ∃ b, s' = ⟨n, (d, .slice (some ⟨b, 0, none⟩) len len) :: e, H, .row (.slice (some ⟨b, 0, none⟩) len len) k css :: M, L, D⟩) (Ef_buildn hF hps hx hv hlen hpos hsmall hck hn fun b => ⟨b, rfl⟩) ?_
  rintro s a w hs ⟨b, rfl⟩
  obtain ⟨H', hle, hr, hh⟩ := Holds.freeze (R := M ++ L) hs.holds h1
  exact ⟨⟨n, (d, .slice (some ⟨b, 0, none⟩) len len) :: e, H', M, L, D⟩, ⟨hs.defers, hs.size, hs.env, hh⟩, kk b H' hle hr⟩
/-- an entry of a map literal -/
theorem Ef_mapInsT (hF : WideF F) {kt et : TypeId} {kvs : List (List UInt8 × Value)} {q : List UInt8} [ht : UndC P t (.map kt et)] [hk : UndC P kt .string] (hx : e.eval x = some (.map (some b))) (hy : e.eval y = some (sv q)) (hz : e.eval z = some v)
    (k : K ⟨n, e, H, .obj b (smobj (sput kvs q v)) :: M, L, D⟩) :
    Ef F P c ⟨none, .insert t x y z, ty, pos, after, g⟩ ⟨n, e, H, .obj b (smobj kvs) :: M, L, D⟩ K := Ef_of_skip hF (by simp) fun a w hs => by
  have hb : w.heap[b]? = some (smobj kvs) := hs.holds.own (.obj b (smobj kvs)) (by simp)
  have h1 := MapKept.run_getObj_map (P := P) hb
  have h2 := run_checkKey_str (P := P) hk.und false q w
  have h6 := MapKept.run_setObj_map (P := P) (smobj (sput kvs q v)) hb
  refine ⟨w.putObj b (smobj (sput kvs q v)), ?_, ⟨n, e, H, .obj b (smobj (sput kvs q v)) :: M, L, D⟩, ⟨hs.defers, hs.size, hs.env, hs.holds.putObj _⟩, k⟩
  rcases findNow_s q v v kvs 0 0 with ⟨h3, h4, h5, h7⟩ | ⟨j, o, h3, h4, h5, h7, h8, h9⟩
  · have e7 : smobj (sput kvs q v) = .map ((sents 0 kvs).toArray.push ⟨sv q, v, kvs.length⟩) (kvs.length + 1) := by
      simp [smobj, h5, h7]
    have e9 : (setObj b (.map ((sents 0 kvs).toArray.push ⟨sv q, v, kvs.length⟩) (kvs.length + 1))).run P w = .ok () (w.putObj b (smobj (sput kvs q v))) := by rw [← e7]; exact h6
    simp only [execOp, hs.env.eval hx, hs.env.eval hy, hs.env.eval hz, Instr.mapUpdate, ht.run, h1, h2, Instr.findKey, hk.run, h3, Sem.run_bind, Sem.run_pure, Result.andThen_ok, e9]
  · have e7 : smobj (sput kvs q v) = .map ((sents 0 kvs).toArray.modify j fun e => { e with key := sv q, val := v }) kvs.length := by
      simp [smobj, h9, ← h8]
    have e9 : (setObj b (.map ((sents 0 kvs).toArray.modify j fun e => { e with key := sv q, val := v }) kvs.length)).run P w = .ok () (w.putObj b (smobj (sput kvs q v))) := by rw [← e7]; exact h6
    have hst : (Instr.keyThatStays (((sents 0 kvs).toArray[j]?.map (·.key)).getD (sv q)) (sv q)).run P w = .ok (sv q) w := by
      have : (((sents 0 kvs).toArray[j]?.map (·.key)).getD (sv q)) = sv q := by
        simp [h5, h7]
      rw [this]
      have hsb : Instr.sameBits 10000 (sv q) (sv q) = true := by
        show ((⟨q.toArray⟩ : ByteArray) == ⟨q.toArray⟩) = true
        exact (MapKept.bytes_beq _ _).2 rfl
      simp [Instr.keyThatStays, hsb]
    simp only [Nat.zero_add] at h3
    simp only [execOp, hs.env.eval hx, hs.env.eval hy, hs.env.eval hz, Instr.mapUpdate, ht.run, h1, h2, Instr.findKey, hk.run, h3, Sem.run_bind, Sem.run_pure, Result.andThen_ok, hst, e9]
end
/-- a node's cells -/
abbrev ncs (x : Nd) (a : Option Addr) (n c : Nat) : List Value := [.int .i64 x.op, .int .i64 x.num, sv x.text, .slice a n c]
theorem ncs_one (x : Nd) (a : Option Addr) (n c : Nat) : ∀ u ∈ ncs x a n c, u.oneCell' = true := by
  intro u hu
  simp at hu
  rcases hu with rfl | rfl | rfl | rfl <;> rfl
theorem ncs_one1 (x : Nd) (a : Option Addr) (n c : Nat) : ∀ cs ∈ [ncs x a n c], ∀ u ∈ cs, u.oneCell' = true := by
  intro cs hcs
  simp at hcs
  subst hcs
  exact ncs_one x a n c
theorem ncs_one2 (x y : Nd) (a a' : Option Addr) (n c n' c' : Nat) : ∀ cs ∈ [ncs x a n c, ncs y a' n' c'], ∀ u ∈ cs, u.oneCell' = true := by
  intro cs hcs
  simp only [List.mem_cons, List.not_mem_nil, or_false] at hcs
  rcases hcs with rfl | rfl
  · exact ncs_one x a n c
  · exact ncs_one y a' n' c'
theorem Nodes1 {H : Hp} {b n c : Nat} {a : Option Addr} {x : Nd} (hr : HRow H (some ⟨b, 0, none⟩) 1 1 4 [ncs x a n c]) (hx : NodesS H a n c x.args) : NodesS H (some ⟨b, 0, none⟩) 1 1 [x] :=
  ⟨_, hr, .cons (NodeH.of hx) .nil⟩
theorem Nodes2 {H : Hp} {b n c n' c' : Nat} {a a' : Option Addr} {x y : Nd} (hr : HRow H (some ⟨b, 0, none⟩) 2 2 4 [ncs x a n c, ncs y a' n' c']) (hx : NodesS H a n c x.args) (hy : NodesS H a' n' c' y.args) : NodesS H (some ⟨b, 0, none⟩) 2 2 [x, y] :=
  ⟨_, hr, .cons (NodeH.of hx) (.cons (NodeH.of hy) .nil)⟩
/-- what a function of the parser leaves: a node, and the next token -/
def PPost (s : List UInt8) (b : Nat) (nd : Nd) (t' : Tok) (v : Value) (H' : Hp) (I : Own) : Prop :=
  (∃ (a : Option Addr) (n c : Nat), v = .agg (ncs nd a n c).toArray ∧ NodesS H' a n c nd.args) ∧ I = [.box b (pcs s t')] ∧ TokOk s t'
def OC (s : List UInt8) (f : FuncId) (lv k : Nat) : Prop := ∀ (H : Hp) (t : Tok) (nd : Nd) (t' : Tok) (b : Nat), VarsH H → TokOk s t → prs s k lv t = .ok nd t' →
  Fn Tryz.prog f [.pointer (some ⟨b, 0, none⟩)] H [.box b (pcs s t)] (PPost s b nd t')
theorem lop_zero {s : List UInt8} {lv : Nat} {n : Nd} {t : Tok} : lop s 0 lv n t = .no := by rw [lop]
theorem lop_succ {s : List UInt8} {k lv : Nat} {n : Nd} {t : Tok} : lop s (k + 1) lv n t = match opAt lv t.kind with
    | none => .ok n t
    | some op => match prs s k (lv + 1) (nxt s t) with | .ok m t' => lop s k lv (.mk op 0 [] [n, m]) t' | r => r := by rw [lop]; rfl
/-- the map of operators of a level -/
def OpsOf (lv : Nat) (kvs : List (List UInt8 × Value)) : Prop := ∀ x, (opAt lv x = none ∧ ¬ shas kvs x) ∨ ∃ op : Int, opAt lv x = some op ∧ shas kvs x ∧ sget (.int .i64 0) kvs x = .int .i64 op
attribute [local irreducible] wpA opsA drJ drQ drE Ef Ev Shift Fn
set_option maxRecDepth 100000 in
set_option maxHeartbeats 8000000 in
theorem chain_fn {s : List UInt8} (hs : s.length < 4611686018427387904) {f : FuncId} [FunC Tryz.prog f] {lv k : Nat} {kvs : List (List UInt8 × Value)} (hops : OpsOf lv kvs) (hop : ∀ j, j ≤ k → OC s f (lv + 1) j)
    {H : Hp} {t t1 t' : Tok} {n nd : Nd} {pb mb : Nat} (hV : VarsH H) (ht : TokOk s t) (h1 : prs s k (lv + 1) t = .ok n t1) (h2 : lop s k lv n t1 = .ok nd t') :
    Fn Tryz.prog 82 [.pointer (some ⟨pb, 0, none⟩), .func (.func f) [.pointer (some ⟨pb, 0, none⟩)].toArray #[], .map (some mb)] H [.box pb (pcs s t), .obj mb (smobj kvs)] (PPost s pb nd t') := by
  have k1 := fun Hx (hVx : VarsH Hx) => hop k (Nat.le_refl _) Hx t n t1 pb hVx ht h1
  refine Fn_of _ _ Tryz.func82 rfl Tryz.ntmps82 rfl fun c => ?_
  repeat' (first | (refine O_ef rfl (Ef_f1 (Ef_callb (I := [_]) (xs := #[]) (first := [.pointer (some ⟨pb, 0, none⟩)]) (args := []) WideF.wide (k1 _ hV) rfl trivial rfl ?_)); rintro v H3 I3 hle3 ⟨⟨a3, n3, c3, rfl, hn3⟩, rfl, hok3⟩) | refine O_nil ?_ | refine A_seq ?_ | refine A_region ?_ | refine A_block ?_ | (show opsA _ _ _ _ _ _ _; first | refine O_ev WideF.wide rfl (Ev_pure rfl) rfl rfl ?_ | (show opsA _ _ _ _ (⟨_, .alloc _, _, _, _, _⟩ :: _) _ _; (refine O_ef rfl (Ef_alloc WideF.wide rfl ?_); intro b)) | (show opsA _ _ _ _ (⟨_, .store _ _ _, _, _, _, _⟩ :: _) _ _; refine O_ef rfl (Ef_storew WideF.wide rfl rfl rfl rfl rfl ?_))))
  refine A_loopu (fun q st => ∃ (j : Nat) (n1 : Nd) (tq : Tok) (a : Option Addr) (m c : Nat) (b6 b7 : Nat) (H1 : Hp) (cs6 : List Value), q = j ∧ j ≤ k ∧ cs6.length = 4 ∧ lop s j lv n1 tq = .ok nd t' ∧ TokOk s tq ∧ HLe H H1 ∧ NodesS H1 a m c n1.args ∧
    st = ⟨33, [(0, .pointer (some ⟨pb, 0, none⟩)), (1, .func (.func f) [.pointer (some ⟨pb, 0, none⟩)].toArray #[]), (2, .map (some mb)), (6, .pointer (some ⟨b6, 0, none⟩)), (7, .pointer (some ⟨b7, 0, none⟩))], H1, [.box pb (pcs s tq), .box b7 (ncs n1 a m c), .box b6 cs6, .obj mb (smobj kvs)], [], []⟩) ?_ ?_
  · exact Shift.to ⟨_, k, n, t1, _, _, _, _, _, _, _, rfl, Nat.le_refl _, rfl, h2, hok3, hle3, hn3, rfl⟩ ⟨rfl, rfl, rfl, ⟨rfl, rfl, rfl, rfl, rfl, trivial⟩, Own.subi [1, 0, 2, 3] (by decide) rfl rfl⟩
  rintro q st ⟨j, n1, tq, a, m, c, b6, b7, H1, cs6, rfl, hjk, hc6, hl, htq, hle, hn1, rfl⟩
  obtain ⟨z1, z2, z3, z4, rfl⟩ : ∃ z1 z2 z3 z4, cs6 = [z1, z2, z3, z4] := by
    match cs6, hc6 with
    | [x, y, z, w], _ => exact ⟨x, y, z, w, rfl⟩
  cases q with
  | zero => rw [lop_zero] at hl; cases hl
  | succ q =>
    rw [lop_succ] at hl
    rcases hops tq.kind with ⟨ho, hsh⟩ | ⟨op, ho, hsh, hsg⟩
    · rw [ho] at hl
      dsimp only at hl
      cases hl
      repeat' (first | (refine O_ev WideF.wide rfl (Ev_lookupTok (i := 3) Tryz.zeroValue3 rfl rfl rfl) rfl rfl ?_; rw [decide_eq_false hsh]) | refine O_nil ?_ | refine A_seq ?_ | refine A_region ?_ | refine A_ret ?_ | refine A_block ?_ | (show opsA _ _ _ _ _ _ _; first | refine O_ev WideF.wide rfl (Ev_pure rfl) rfl rfl ?_ | (show opsA _ _ _ _ (⟨_, .load _ _, _, _, _, _⟩ :: _) _ _; first | refine O_ev WideF.wide rfl (Ev_loadB1 (i := 0) rfl rfl rfl) rfl rfl ?_ | refine O_ev WideF.wide rfl (Ev_loadB (i := 1) rfl rfl rfl) rfl rfl ?_) | (show opsA _ _ _ _ (⟨_, .fieldAddr _ _ _, _, _, _, _⟩ :: _) _ _; refine O_ev WideF.wide rfl (Ev_fieldAddr rfl rfl rfl) rfl rfl ?_) | (show opsA _ _ _ _ (⟨_, .unOp _ _ _, _, _, _, _⟩ :: _) _ _; refine O_ev WideF.wide rfl (Ev_notb rfl) rfl rfl ?_) | (show opsA _ _ _ _ (⟨_, .nilCheck _, _, _, _, _⟩ :: _) _ _; refine O_ev WideF.wide rfl (Ev_nilCheck rfl) rfl rfl ?_) | (show opsA _ _ _ _ (⟨_, .store _ _ _, _, _, _, _⟩ :: _) _ _; refine O_f2 (O_ef rfl (Ef_storew WideF.wide rfl rfl rfl rfl rfl ?_)))) | (show wpA _ _ _ (.cond _ _ _) _ _ _ _; refine A_iftrue rfl ?_))
      all_goals first
        | (exfalso; contradiction)
        | exact End_s (RetC rfl rfl (i := 0) rfl rfl) (Shift.to (s' := ⟨_, [], _, [.box pb (pcs s t')], [], []⟩) ⟨rfl, ⟨_, _, _, rfl, hn1⟩, rfl, htq⟩ ⟨rfl, rfl, rfl, trivial, Own.subi [1] (by decide) rfl rfl⟩)
        | trace_state
    · rw [ho] at hl
      dsimp only at hl
      cases hm : prs s q (lv + 1) (nxt s tq) with
      | no => rw [hm] at hl; cases hl
      | err e p => rw [hm] at hl; cases hl
      | ok n2 t2 =>
        rw [hm] at hl
        dsimp only at hl
        have kn := next_fn (H := H1) (b := pb) hs htq
        have k2 := fun Hx (hVx : VarsH Hx) => hop q (by omega) Hx (nxt s tq) n2 t2 pb hVx htq.nxt hm
        repeat' (first | (refine O_ev WideF.wide rfl (Ev_lookupTok (i := 3) Tryz.zeroValue3 rfl rfl rfl) rfl rfl ?_; rw [decide_eq_true hsh, hsg]) | (refine O_ef rfl (Ef_call (I := [_]) WideF.wide kn ⟨rfl, trivial⟩ rfl ?_); rintro v H2 I2 hle2 ⟨rfl, rfl⟩) | (show wpA _ _ _ (.region 6 _ _) _ _ _ _; (refine A_drawi WideF.wide (.p 0 (.q 1 (.q 2 (.e 3 (.r (.e 4 (.q 5 (.e 6 (.done []))))))))) [4, 5, 6] [0, 2, 3] [1] (by decide +kernel) (by decide) rfl ?_; simp only [Own.picks, Own.rget, List.cons_append, List.nil_append, List.append_nil])) | (refine E_ef rfl (Ef_callb (I := [_]) (xs := #[]) (first := [.pointer (some ⟨pb, 0, none⟩)]) (args := []) WideF.wide (k2 _ (hV.mono (hle.trans hle2))) rfl trivial rfl ?_); rintro v H3 I3 hle3 ⟨⟨a3, n3, c3, rfl, hn3⟩, rfl, hok3⟩; refine ⟨⟨hle3, rfl⟩, ?_⟩) | (refine E_ef rfl (Ef_buildF WideF.wide (xs := [_, _]) (vs := [.agg _, .agg _]) (css := [ncs n1 a m c, ncs n2 a3 n3 c3]) rfl ⟨rfl, rfl, trivial⟩ rfl rfl rfl rfl rfl rfl (ncs_one2 _ _ _ _ _ _ _ _) ?_); intro b3 H4 hle4 hr4; refine ⟨⟨hle4, rfl⟩, ?_⟩) | refine O_nil ?_ | refine A_seq ?_ | refine A_region ?_ | refine A_skip ?_ | refine A_block ?_ | (show drJ _ _ _ _ _ _ _ (.q _ _) _; refine D_q rfl ?_) | (show drJ _ _ _ _ _ _ _ (.e _ _) _; refine D_e rfl ?_) | (show drJ _ _ _ _ _ _ _ (.r _) _; refine D_r ?_; simp only [List.cons_append, List.nil_append]) | (show drJ _ _ _ _ _ _ _ (.done _) _; refine D_done ?_; simp only [List.cons_append, List.nil_append]) | (show drQ _ _ _ _ _ _; first | refine D_ev rfl (Ev_pure rfl) rfl rfl ?_ | (show drQ _ _ _ ⟨_, .load _ _, _, _, _, _⟩ _ _; refine D_ev rfl (Ev_loadB (i := 0) rfl rfl rfl) rfl rfl ?_) | (show drQ _ _ _ ⟨_, .build _ _, _, _, _, _⟩ _ _; refine D_ev rfl (Ev_build (vs := [(_, _), (_, _)]) ⟨rfl, rfl, rfl, rfl, trivial⟩ rfl) rfl rfl ?_)) | (show drJ _ _ _ _ _ _ _ (.p _ _) _; refine D_p rfl ?_) | (show drP _ _ _ _ _ _; refine D_pv rfl (Ev_pure rfl) rfl rfl ?_) | (show drE _ _ _ _ _ _ _; (show drE _ _ _ _ ⟨_, .store _ _ _, _, _, _, _⟩ _ _; (refine E_ef rfl (Ef_f3 (Ef_storew WideF.wide rfl rfl rfl rfl rfl ?_)); refine ⟨Grow.same rfl rfl, ?_⟩))) | (show opsA _ _ _ _ _ _ _; first | refine O_ev WideF.wide rfl (Ev_pure rfl) rfl rfl ?_ | (show opsA _ _ _ _ (⟨_, .load _ _, _, _, _, _⟩ :: _) _ _; refine O_ev WideF.wide rfl (Ev_loadB1 (i := 0) rfl rfl rfl) rfl rfl ?_) | (show opsA _ _ _ _ (⟨_, .fieldAddr _ _ _, _, _, _, _⟩ :: _) _ _; refine O_ev WideF.wide rfl (Ev_fieldAddr rfl rfl rfl) rfl rfl ?_) | (show opsA _ _ _ _ (⟨_, .unOp _ _ _, _, _, _, _⟩ :: _) _ _; refine O_ev WideF.wide rfl (Ev_notb rfl) rfl rfl ?_) | (show opsA _ _ _ _ (⟨_, .nilCheck _, _, _, _, _⟩ :: _) _ _; refine O_ev WideF.wide rfl (Ev_nilCheck rfl) rfl rfl ?_)) | (show wpA _ _ _ (.cond _ _ _) _ _ _ _; refine A_iffalse rfl ?_))
        all_goals first
          | (exfalso; contradiction)
          | (exfalso; exact absurd trivial (by assumption))
          | (exfalso; exact absurd rfl (by assumption))
          | exact Shift.to ⟨_, Nat.lt_succ_self _, q, .mk op 0 [] [n1, n2], t2, _, _, _, _, _, _, _, rfl, by omega, rfl, hl, hok3, ((hle.trans hle2).trans hle3).trans hle4, Nodes2 hr4 (NodesS.mono ((hle2.trans hle3).trans hle4) hn1) (NodesS.mono hle4 hn3), rfl⟩ ⟨rfl, rfl, rfl, ⟨rfl, rfl, rfl, rfl, rfl, trivial⟩, Own.subi [1, 0, 2, 3] (by decide) rfl rfl⟩
          | trace_state
end Go.Proofs.YtnoadopmeoohmaaGreatDoor
