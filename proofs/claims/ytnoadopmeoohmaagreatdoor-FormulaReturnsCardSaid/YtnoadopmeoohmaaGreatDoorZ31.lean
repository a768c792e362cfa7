import Derived.Test.YtnoadopmeoohmaaGreatDoorZ05
import Derived.Tactics
import Derived.Tactics2
import Derived.Defers
import Derived.Recover
import Derived.Laws.Pointers
import Derived.TacticsInMore
import Derived.RegionIn
import Derived.LoopNIn
import Derived.RecoverIn
import Derived.Test.YtnoadopmeoohmaaGreatDoorZ28
import Derived.Test.YtnoadopmeoohmaaGreatDoorZ30
/-
  Parse's deferred function where nothing has failed.
  Parse where it succeeds.
-/
namespace Go.Proofs.YtnoadopmeoohmaaGreatDoor
open Go
set_option linter.unusedVariables false
set_option linter.unusedSimpArgs false
section
set_option maxRecDepth 100000 in
set_option maxHeartbeats 1600000 in
theorem Parse1_idle {H : Hp} {a1 a2 a3 : Value} : DFn Tryz.prog 39 [a1, a2, a3] H [] fun H' I' => H' = H ∧ I' = [] := by
  intro w hw
  refine (callsDIn_of_wpSIn (R := fun e u' w' => e = .returned (.tuple #[]) ∧ u' = .returning ∧ w' = w) Tryz.func39 rfl trivial fun c₀ cs hu => ?_).mono ?_
  · apply wpSIn_seq
    apply wpSIn_region
    simp [wpOpsSIn, go_sem, recoverD, hu, Tryz.ntmps39, Exit.thenS]
    apply wpSIn_seq
    apply wpSIn_region
    simp [wpOpsSIn, go_sem, hu, Exit.thenS]
    refine wpSIn_cond (t := false) (by simp [Act.eval, Array.replicate]) ?_
    simp only [Bool.false_eq_true, if_false]
    refine wpSIn_of_wpIn rfl (wpIn_skip ?_)
    cases c₀
    simp_all [bodyPostS, results, Tryz.results39]
  · rintro e u' w' ⟨rfl, rfl, rfl⟩
    exact ⟨rfl, _, H, [], rfl, hw, rfl, rfl⟩
end
section
variable {P : Program} {fn : Func} {n : Nat} {e : Env} {H : Hp} {M L : Own} {D : List Deferred}
theorem RetC3 {T k b i t : Nat} {cs : List Value} {r2 r3 : ResultVar} {v2 v3 : Value} [hT : TyC P T true k] (h : fn.results = #[.cell t T, r2, r3]) (h1 : e.find t = some (.pointer (some ⟨b, 0, none⟩))) (hR : oget M i = some (.box b cs)) (hk : cs.length = k)
    (h2 : ResOk P ⟨n, e, H, M, L, D⟩ r2 v2) (h3 : ResOk P ⟨n, e, H, M, L, D⟩ r3 v3) : RetOk P fn ⟨n, e, H, M, L, D⟩ (.tuple [.agg cs.toArray, v2, v3].toArray) := fun a w he hr => by
  rw [results_eq, h, Sem.run_bind, run_mapM3 (cellC he hr h1 hR hk) (h2.run he hr) (h3.run he hr)]
  simp
end
attribute [local irreducible] wpA opsA drJ drQ drE Ef Ev Shift Fn
set_option maxRecDepth 100000 in
set_option maxHeartbeats 4000000 in
theorem Parse_ok {H : Hp} {s : List UInt8} {nd : Nd} {t' : Tok} {k : Nat} (hv : valid s) (hl : s.length ≤ 1024) (hV : VarsH H) (hk : k ≤ 1000000) (hp : prs s k 1 (scn s 0) = .ok nd t') (hd : t'.kind = [46]) (hc : chkE nd = 0) (hm : nd.mass < 34359738368) :
    Fn Tryz.prog 16 [sv s] H [] fun v H' I => (∃ (a : Option Addr) (n cp : Nat), v = .tuple [.agg (ncs nd a n cp).toArray, .int .i64 0, .int .i64 0].toArray ∧ NodesS H' a n cp nd.args) ∧ I = [] := by
  have kC := fun Hx => Clone_fn (H := Hx) (l := s) (by omega)
  have kF := fun Hx => First_fn Hx s (by omega)
  have t0 : TokOk s ⟨[], [], 0⟩ := ⟨by simp, fun h => by cases h⟩
  have kN := fun Hx b => next_fn (H := Hx) (b := b) (s := s) (t := ⟨[], [], 0⟩) (by omega) t0
  have kO := fun Hx b (hx : HLe H Hx) (ht : TokOk s (nxt s ⟨[], [], 0⟩)) => (parser_all (s := s) (by omega) k hk).or Hx (nxt s ⟨[], [], 0⟩) nd t' b (hV.mono hx) ht hp
  have kE := fun Hx b (ht : TokOk s t') => expect_yes (H := Hx) (b := b) (s := s) (y := [46]) (by omega) ht hd
  have kK := fun Hx a n cp (hs : NodesS Hx a n cp nd.args) => Check_fn (H := Hx) (NodeH.of hs) hm
  rw [hc] at kK
  refine Fn_ofD _ _ Tryz.func16 rfl Tryz.ntmps16 rfl fun c => ?_
  repeat' (first | (refine O_ef rfl (Ef_call (I := []) WideF.wide (kF _) ⟨rfl, trivial⟩ rfl ?_); rintro v1 H1 I1 hle1 ⟨⟨z, rfl, hz1, hz2, hz3⟩, rfl, rfl⟩; have hz4 := hz3.2 hv) | (refine O_ev WideF.wide rfl (Ev_makeFunc (xs := []) (ys := [_, _, _]) (vs := []) (us := [_, _, _]) rfl rfl) rfl rfl ?_) | (refine O_ef rfl (Ef_deferV (first := []) (cap := [_, _, _]) (args := []) WideF.wide rfl rfl trivial ?_)) | (refine O_ef rfl (Ef_callp WideF.wide (kC _) ⟨rfl, trivial⟩ rfl ?_)) | (refine O_ef rfl (Ef_boxa WideF.wide (cs := pcs s ⟨[], [], 0⟩) rfl rfl ?_); intro bp) | (refine O_ef rfl (Ef_call (I := [_]) WideF.wide (kN _ _) ⟨rfl, trivial⟩ rfl ?_); rintro v2 H2 I2 hle2 ⟨rfl, rfl⟩) | (refine O_ef rfl (Ef_call (I := [_]) WideF.wide (kO _ _ (hle1.trans hle2) t0.nxt) ⟨rfl, trivial⟩ rfl ?_); rintro v3 H3 I3 hle3 ⟨⟨a, n, cp, rfl, hns⟩, rfl, htk⟩) | (refine O_f1 (O_ef rfl (Ef_call (I := [_]) WideF.wide (kE _ _ htk) ⟨rfl, rfl, trivial⟩ rfl ?_)); rintro v4 H4 I4 hle4 ⟨rfl, rfl⟩) | (refine O_ef rfl (Ef_call (I := []) WideF.wide (kK _ _ _ _ (hns.mono hle4)) ⟨rfl, trivial⟩ rfl ?_); rintro v5 H5 I5 hle5 ⟨rfl, rfl⟩) | refine O_nil ?_ | refine A_seq ?_ | refine A_region ?_ | refine A_skip ?_ | refine A_ret ?_ | (show opsA _ _ _ _ _ _ _; first | refine O_ev WideF.wide rfl (Ev_pure rfl) rfl rfl ?_ | (show opsA _ _ _ _ (⟨_, .load _ _, _, _, _, _⟩ :: _) _ _; refine O_ev WideF.wide rfl (Ev_loadB (i := 1) rfl rfl rfl) rfl rfl ?_) | (show opsA _ _ _ _ (⟨_, .call _, _, _, _, _⟩ :: _) _ _; refine O_ev WideF.wide rfl (Ev_slen rfl) rfl rfl ?_) | (show opsA _ _ _ _ (⟨_, .build _ _, _, _, _, _⟩ :: _) _ _; refine O_ev WideF.wide rfl (Ev_build (vs := [(_, _)]) ⟨rfl, rfl, trivial⟩ rfl) rfl rfl ?_) | (show opsA _ _ _ _ (⟨_, .alloc _, _, _, _, _⟩ :: _) _ _; (refine O_ef rfl (Ef_alloc WideF.wide rfl ?_); intro b)) | (show opsA _ _ _ _ (⟨_, .store _ _ _, _, _, _, _⟩ :: _) _ _; first | refine O_f1 (O_ef rfl (Ef_storew WideF.wide rfl rfl rfl rfl rfl ?_)) | refine O_f3 (O_ef rfl (Ef_storew WideF.wide rfl rfl rfl rfl rfl ?_)) | refine O_f3 (O_ef rfl (Ef_store1 WideF.wide rfl rfl rfl rfl rfl ?_)))) | (show wpA _ _ _ (.cond _ _ _) _ _ _ _; (refine A_if rfl (fun h => ?_) (fun h => ?_) <;> try (exfalso; omega))))
  all_goals first
    | (exfalso; omega)
    | (exfalso; contradiction)
    | (exfalso; exact absurd trivial (by assumption))
    | (exfalso; exact absurd rfl (by assumption))
    | skip
  refine EndD_one (I1 := []) (cap := [_, _, _]) (dargs := []) Parse1_idle ?_
  rintro H' I' hl' ⟨rfl, rfl⟩
  exact ⟨_, RetC3 (i := 2) rfl rfl rfl rfl ⟨_, 1, rfl, rfl, ⟨inferInstance⟩⟩ ⟨_, 0, rfl, rfl, ⟨inferInstance⟩⟩, rfl, Shift.to (s' := ⟨_, [], _, [], [], []⟩) ⟨rfl, ⟨a, n, cp, rfl, (hns.mono hle4).mono hle5⟩, rfl⟩ ⟨rfl, rfl, rfl, trivial, Own.sub_nil _⟩⟩
end Go.Proofs.YtnoadopmeoohmaaGreatDoor
/-
  The law's known as data.
  The law's known.
-/
namespace Go.Proofs.YtnoadopmeoohmaaGreatDoor
open Go
set_option linter.unusedVariables false
set_option linter.unusedSimpArgs false
section
def kS : List UInt8 := [49, 32, 43, 32, 50, 32, 42, 32, 40, 120, 32, 45, 32, 51, 41]
def kN : Nd := .mk 15 0 [] [.mk 1 1 [] [], .mk 18 0 [] [.mk 1 2 [] [], .mk 16 0 [] [.mk 4 0 [120] [], .mk 1 3 [] []]]]
theorem k_prs : prs kS 60 1 (scn kS 0) = .ok kN (scn kS 15) := by kernel_rfl
theorem k_dot : (scn kS 15).kind = [46] := by kernel_rfl
theorem k_wr : wr kN 0 = kS := by kernel_rfl
theorem k_idt : idt [120] := by
  refine ⟨by simp, fun i hi => ?_⟩
  obtain rfl : i = 0 := by simp at hi; omega
  exact .inl (by decide)
theorem k_resv : resv [120] = false := by decide
theorem k_chk : chkE kN = 0 := by
  simp [chkE, kN, vis, visL, chkT, arityN, k_idt, k_resv]
theorem k_w3 : IntKind.i64.wrap 3 = 3 := by kernel_rfl
theorem k_w6 : IntKind.i64.wrap 6 = 6 := by kernel_rfl
theorem k_w7 : IntKind.i64.wrap 7 = 7 := by kernel_rfl
theorem k_lim : ¬ IntKind.i64.wrap (Int.tdiv 1099511627776 (absI 2)) < absI 3 := of_decide_eq_false (by kernel_rfl)
theorem k_ev : evE [⟨[120], ⟨1, 6, []⟩⟩] kN = (⟨1, 7, []⟩, 0) := by
  simp [kN, evE, evR, evT, oprV, valL, allK, calV, v0, v1, w64, numV, zV, chkV, k_w3, k_w6, k_w7, k_lim]
theorem k_mass : kN.mass < 34359738368 := by
  simp [kN, Nd.mass, massN]
end
theorem valid_ascii : ∀ l : List UInt8, (∀ b ∈ l, b.toNat < 128) → valid l
  | [], _ => valid_nil
  | b :: l, h => by
    have hb := h b (by simp)
    have he : enc (b :: l) 0 = 1 := by unfold enc; rw [if_pos (by show ((b.toNat : Nat) : Int) < 128; omega)]
    rw [valid_step (by simp) (by rw [he]; decide), he]
    exact valid_ascii l fun c hc => h c (List.mem_cons_of_mem _ hc)
theorem k_valid : valid kS := valid_ascii kS (by decide)
theorem run_equalIn_str (P : Program) (w : World) (m : Nat) (t : TypeId) (x y : List UInt8) (ht : P.underlying t = some .string) : (Op.equalIn (m + 1) t (sv x) (sv y)).run P w = .ok (decide (x = y)) w := by
  rw [run_equalIn_string w m t ⟨x.toArray⟩ ⟨y.toArray⟩ ht, ByteArray.toList_mk, ByteArray.toList_mk]
  congr 1
  rw [Bool.eq_iff_iff]; simp
theorem eq_val (p q : Val) : ∀ w, (Op.equalIn 10000 37 (.agg (vlrow p).toArray) (.agg (vlrow q).toArray)).run Tryz.prog w = .ok (decide (p = q)) w := fun w => by
  have key : ∀ m : Nat, (Op.equalIn (m + 2) 37 (.agg (vlrow p).toArray) (.agg (vlrow q).toArray)).run Tryz.prog w = .ok (decide (p = q)) w := fun m => by
    obtain ⟨a, b, h⟩ := p
    obtain ⟨a', b', h'⟩ := q
    unfold vlrow
    have hf := fieldsOf_of Tryz.underlying37
    rw [run_equalIn_agg (P := Tryz.prog) w (m + 1) _ _ _ (by rw [hf]; exact Tryz.underlying37) Tryz.stoodInHeld37, hf]
    have h1 := fun x y : Int => run_equalIn_int (P := Tryz.prog) w m 3 .i64 .i64 x y Tryz.underlying3
    have h3 := fun x y : List UInt8 => run_equalIn_str Tryz.prog w m 9 x y Tryz.underlying9
    simp [Op.eqFields, part, Tryz.isAgg3, Tryz.isAgg9, h1, h3]
    by_cases e1 : a = a' <;> by_cases e2 : b = b' <;> by_cases e3 : h = h' <;> simp [e1, e2, e3]
  exact key 9998
def kE : List Bnd := [⟨[120], ⟨1, 6, []⟩⟩]
theorem k_evl : evl kE kN = (⟨1, 7, []⟩, 0) := by
  unfold evl
  rw [if_neg (by rw [k_chk]; decide)]
  exact k_ev
theorem k_prt : prT kN = (kS, 0) := by
  unfold prT
  rw [if_neg (by rw [k_chk]; decide), k_wr, if_neg (by decide)]
theorem k_env : EnvV kE := by
  intro b hb
  obtain rfl : b = ⟨[120], ⟨1, 6, []⟩⟩ := by simpa [kE] using hb
  exact ⟨⟨by decide, by decide⟩, by decide⟩
attribute [local irreducible] wpA opsA drJ drQ drE Ef Ev Shift Fn
set_option maxRecDepth 100000 in
set_option maxHeartbeats 4000000 in
theorem known_fn {H : Hp} (hV : VarsH H) : Fn Tryz.prog 12 [] H [] fun v _ I => v = .bool true ∧ I = [] := by
  have kP := fun Hx (hx : HLe H Hx) => Parse_ok (H := Hx) k_valid (by decide) (hV.mono hx) (by decide) k_prs k_dot k_chk k_mass
  have kV := fun Hx (hx : HLe H Hx) a n cp (hs : NodesS Hx a n cp kN.args) b (hr : HRow Hx (some ⟨b, 0, none⟩) 1 1 4 (kE.map bdrow)) => Eval_fn (NodeH.of hs) k_mass hr (by decide) k_env (hV.mono hx)
  rw [k_evl] at kV
  have kT := fun Hx (hx : HLe H Hx) a n cp (hs : NodesS Hx a n cp kN.args) => Print_fn (NodeH.of hs) k_mass (hV.mono hx)
  rw [k_prt] at kT
  refine Fn_of _ _ Tryz.func12 rfl Tryz.ntmps12 rfl fun c => ?_
  repeat' (first | (refine O_ef rfl (Ef_call (I := []) WideF.wide (kP _ (HLe.refl _)) ⟨rfl, trivial⟩ rfl ?_); rintro v1 H1 I1 hle1 ⟨⟨a, n, cp, rfl, hns⟩, rfl⟩) | (refine O_ef rfl (Ef_build1a WideF.wide (cs := bdrow ⟨[120], ⟨1, 6, []⟩⟩) rfl rfl rfl rfl rfl ?_); intro bq; refine O_freeze (css := kE.map bdrow) (bdrow_one _) ?_; intro H2 hle2 hr2) | (refine O_ef rfl (Ef_call (I := []) WideF.wide (kV _ (hle1.trans hle2) _ _ _ (hns.mono hle2) _ hr2) ⟨rfl, rfl, trivial⟩ rfl ?_); rintro v3 H3 I3 hle3 ⟨rfl, rfl⟩) | (refine O_ef rfl (Ef_call (I := []) WideF.wide (kT _ ((hle1.trans hle2).trans hle3) _ _ _ ((hns.mono hle2).mono hle3)) ⟨rfl, trivial⟩ rfl ?_); rintro v4 H4 I4 hle4 ⟨rfl, rfl⟩) | (refine O_ev WideF.wide rfl (Ev_eqS rfl rfl Tryz.eqGuardType37 (eq_val ⟨1, 7, []⟩ ⟨1, 7, []⟩)) rfl rfl ?_) | refine O_nil ?_ | refine A_seq ?_ | refine A_region ?_ | refine A_skip ?_ | refine A_ret ?_ | (show opsA _ _ _ _ _ _ _; first | (refine O_split rfl rfl (fun h => ?_) (fun h => ?_) <;> try (exfalso; omega)) | refine O_ev WideF.wide rfl (Ev_pure rfl) rfl rfl ?_ | (show opsA _ _ _ _ (⟨_, .load _ _, _, _, _, _⟩ :: _) _ _; first | refine O_ev WideF.wide rfl (Ev_loadB (i := 0) rfl rfl rfl) rfl rfl ?_ | refine O_ev WideF.wide rfl (Ev_loadB (i := 1) rfl rfl rfl) rfl rfl ?_) | (show opsA _ _ _ _ (⟨_, .binOp _ _ _ _ _, _, _, _, _⟩ :: _) _ _; refine O_ev WideF.wide rfl (Ev_seql rfl rfl) rfl rfl ?_) | (show opsA _ _ _ _ (⟨_, .build _ _, _, _, _, _⟩ :: _) _ _; refine O_ev WideF.wide rfl (Ev_build (vs := [(_, _), (_, _)]) ⟨rfl, rfl, rfl, rfl, trivial⟩ rfl) rfl rfl ?_) | (show opsA _ _ _ _ (⟨_, .alloc _, _, _, _, _⟩ :: _) _ _; (refine O_ef rfl (Ef_alloc WideF.wide rfl ?_); intro b)) | (show opsA _ _ _ _ (⟨_, .store _ _ _, _, _, _, _⟩ :: _) _ _; refine O_ef rfl (Ef_storew WideF.wide rfl rfl rfl rfl rfl ?_)) | refine O_skip WideF.wide rfl rfl rfl ?_) | (show wpA _ _ _ (.cond _ _ _) _ _ _ _; (refine A_if rfl (fun h => ?_) (fun h => ?_) <;> try (exfalso; omega))))
  all_goals first
    | (exfalso; omega)
    | (exfalso; contradiction)
    | (exfalso; exact absurd trivial (by assumption))
    | (exfalso; exact absurd rfl (by assumption))
    | exact End_e (Ret1 rfl rfl) ⟨rfl, rfl⟩
    | trace_state
end Go.Proofs.YtnoadopmeoohmaaGreatDoor
