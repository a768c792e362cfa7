/-
  Parse's deferred function where nothing has failed.
  Parse where it succeeds.
-/
import Derived.Test.YtnoadopmeoohmaaGreatDoorF0
import Derived.Tactics
import Derived.Tactics2
import Derived.Defers
import Derived.Recover
import Derived.Laws.Pointers
import Derived.TacticsInMore
import Derived.RegionIn
import Derived.LoopNIn
import Derived.RecoverIn
import Derived.Test.YtnoadopmeoohmaaGreatDoorF32
import Derived.Test.YtnoadopmeoohmaaGreatDoorF16
namespace Go.Proofs.YtnoadopmeoohmaaGreatDoor
open Go
set_option linter.unusedVariables false
set_option linter.unusedSimpArgs false
section
set_option maxRecDepth 100000 in
set_option maxHeartbeats 1600000 in
theorem Parse1_idle {H : Hp} {a1 a2 a3 : Value} : DFn Tryz.prog 39 [a1, a2, a3] H [] fun H' I' => H' = H ∧ I' = [] := by
  intro w hw
  refine (callsDIn_of_wpSIn (R := fun e u' w' => e = .returned (.tuple #[]) ∧ u' = .returning ∧ w' = w) Tryz.func39 rfl trivial fun c₀ cs hu => ?_).mono ?_
  · apply wpSIn_seq
    apply wpSIn_region
    simp [wpOpsSIn, go_sem, recoverD, hu, Tryz.ntmps39, Exit.thenS]
    apply wpSIn_seq
    apply wpSIn_region
    simp [wpOpsSIn, go_sem, hu, Exit.thenS]
    refine wpSIn_cond (t := false) (by simp [Act.eval, Array.replicate]) ?_
    simp only [Bool.false_eq_true, if_false]
    refine wpSIn_of_wpIn rfl (wpIn_skip ?_)
    cases c₀
    simp_all [bodyPostS, results, Tryz.results39]
  · rintro e u' w' ⟨rfl, rfl, rfl⟩
    exact ⟨rfl, _, H, [], rfl, hw, rfl, rfl⟩
end
section
variable {P : Program} {fn : Func} {n : Nat} {e : Env} {H : Hp} {M L : Own} {D : List Deferred}
theorem RetC3 {T k b i t : Nat} {cs : List Value} {r2 r3 : ResultVar} {v2 v3 : Value} [hT : TyC P T true k] (h : fn.results = #[.cell t T, r2, r3]) (h1 : e.find t = some (.pointer (some ⟨b, 0, none⟩))) (hR : oget M i = some (.box b cs)) (hk : cs.length = k)
    (h2 : ResOk P ⟨n, e, H, M, L, D⟩ r2 v2) (h3 : ResOk P ⟨n, e, H, M, L, D⟩ r3 v3) : RetOk P fn ⟨n, e, H, M, L, D⟩ (.tuple [.agg cs.toArray, v2, v3].toArray) := fun a w he hr => by
  rw [results_eq, h, Sem.run_bind, run_mapM3 (cellC he hr h1 hR hk) (h2.run he hr) (h3.run he hr)]
  simp
end
attribute [local irreducible] wpA opsA drJ drQ drE Ef Ev Shift Fn
set_option maxRecDepth 100000 in
set_option maxHeartbeats 4000000 in
theorem Parse_ok {H : Hp} {s : List UInt8} {nd : Nd} {t' : Tok} {k : Nat} (hv : valid s) (hl : s.length ≤ 1024) (hV : VarsH H) (hk : k ≤ 1000000) (hp : prs s k 1 (scn s 0) = .ok nd t') (hd : t'.kind = [46]) (hc : chkE nd = 0) (hm : nd.mass < 34359738368) :
    Fn Tryz.prog 16 [sv s] H [] fun v H' I => (∃ (a : Option Addr) (n cp : Nat), v = .tuple [.agg (ncs nd a n cp).toArray, .int .i64 0, .int .i64 0].toArray ∧ NodesS H' a n cp nd.args) ∧ I = [] := by
  have kC := fun Hx => Clone_fn (H := Hx) (l := s) (by omega)
  have kF := fun Hx => First_fn Hx s (by omega)
  have t0 : TokOk s ⟨[], [], 0⟩ := ⟨by simp, fun h => by cases h⟩
  have kN := fun Hx b => next_fn (H := Hx) (b := b) (s := s) (t := ⟨[], [], 0⟩) (by omega) t0
  have kO := fun Hx b (hx : HLe H Hx) (ht : TokOk s (nxt s ⟨[], [], 0⟩)) => (parser_all (s := s) (by omega) k hk).or Hx (nxt s ⟨[], [], 0⟩) nd t' b (hV.mono hx) ht hp
  have kE := fun Hx b (ht : TokOk s t') => expect_yes (H := Hx) (b := b) (s := s) (y := [46]) (by omega) ht hd
  have kK := fun Hx a n cp (hs : NodesS Hx a n cp nd.args) => Check_fn (H := Hx) (NodeH.of hs) hm
  rw [hc] at kK
  refine Fn_ofD _ _ Tryz.func16 rfl Tryz.ntmps16 rfl fun c => ?_
  repeat' (first | (refine O_ef rfl (Ef_call (I := []) WideF.wide (kF _) ⟨rfl, trivial⟩ rfl ?_); rintro v1 H1 I1 hle1 ⟨⟨z, rfl, hz1, hz2, hz3⟩, rfl, rfl⟩; have hz4 := hz3.2 hv) | (refine O_ev WideF.wide rfl (Ev_makeFunc (xs := []) (ys := [_, _, _]) (vs := []) (us := [_, _, _]) rfl rfl) rfl rfl ?_) | (refine O_ef rfl (Ef_deferV (first := []) (cap := [_, _, _]) (args := []) WideF.wide rfl rfl trivial ?_)) | (refine O_ef rfl (Ef_callp WideF.wide (kC _) ⟨rfl, trivial⟩ rfl ?_)) | (refine O_ef rfl (Ef_boxa WideF.wide (cs := pcs s ⟨[], [], 0⟩) rfl rfl ?_); intro bp) | (refine O_ef rfl (Ef_call (I := [_]) WideF.wide (kN _ _) ⟨rfl, trivial⟩ rfl ?_); rintro v2 H2 I2 hle2 ⟨rfl, rfl⟩) | (refine O_ef rfl (Ef_call (I := [_]) WideF.wide (kO _ _ (hle1.trans hle2) t0.nxt) ⟨rfl, trivial⟩ rfl ?_); rintro v3 H3 I3 hle3 ⟨⟨a, n, cp, rfl, hns⟩, rfl, htk⟩) | (refine O_f1 (O_ef rfl (Ef_call (I := [_]) WideF.wide (kE _ _ htk) ⟨rfl, rfl, trivial⟩ rfl ?_)); rintro v4 H4 I4 hle4 ⟨rfl, rfl⟩) | (refine O_ef rfl (Ef_call (I := []) WideF.wide (kK _ _ _ _ (hns.mono hle4)) ⟨rfl, trivial⟩ rfl ?_); rintro v5 H5 I5 hle5 ⟨rfl, rfl⟩) | refine O_nil ?_ | refine A_seq ?_ | refine A_region ?_ | refine A_skip ?_ | refine A_ret ?_ | (show opsA _ _ _ _ _ _ _; first | refine O_ev WideF.wide rfl (Ev_pure rfl) rfl rfl ?_ | (show opsA _ _ _ _ (⟨_, .load _ _, _, _, _, _⟩ :: _) _ _; refine O_ev WideF.wide rfl (Ev_loadB (i := 1) rfl rfl rfl) rfl rfl ?_) | (show opsA _ _ _ _ (⟨_, .call _, _, _, _, _⟩ :: _) _ _; refine O_ev WideF.wide rfl (Ev_slen rfl) rfl rfl ?_) | (show opsA _ _ _ _ (⟨_, .build _ _, _, _, _, _⟩ :: _) _ _; refine O_ev WideF.wide rfl (Ev_build (vs := [(_, _)]) ⟨rfl, rfl, trivial⟩ rfl) rfl rfl ?_) | (show opsA _ _ _ _ (⟨_, .alloc _, _, _, _, _⟩ :: _) _ _; (refine O_ef rfl (Ef_alloc WideF.wide rfl ?_); intro b)) | (show opsA _ _ _ _ (⟨_, .store _ _ _, _, _, _, _⟩ :: _) _ _; first | refine O_f1 (O_ef rfl (Ef_storew WideF.wide rfl rfl rfl rfl rfl ?_)) | refine O_f3 (O_ef rfl (Ef_storew WideF.wide rfl rfl rfl rfl rfl ?_)) | refine O_f3 (O_ef rfl (Ef_store1 WideF.wide rfl rfl rfl rfl rfl ?_)))) | (show wpA _ _ _ (.cond _ _ _) _ _ _ _; (refine A_if rfl (fun h => ?_) (fun h => ?_) <;> try (exfalso; omega))))
  all_goals first
    | (exfalso; omega)
    | (exfalso; contradiction)
    | (exfalso; exact absurd trivial (by assumption))
    | (exfalso; exact absurd rfl (by assumption))
    | skip
  refine EndD_one (I1 := []) (cap := [_, _, _]) (dargs := []) Parse1_idle ?_
  rintro H' I' hl' ⟨rfl, rfl⟩
  exact ⟨_, RetC3 (i := 2) rfl rfl rfl rfl ⟨_, 1, rfl, rfl, ⟨inferInstance⟩⟩ ⟨_, 0, rfl, rfl, ⟨inferInstance⟩⟩, rfl, Shift.to (s' := ⟨_, [], _, [], [], []⟩) ⟨rfl, ⟨a, n, cp, rfl, (hns.mono hle4).mono hle5⟩, rfl⟩ ⟨rfl, rfl, rfl, trivial, Own.sub_nil _⟩⟩
end Go.Proofs.YtnoadopmeoohmaaGreatDoor
