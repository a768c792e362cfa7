/-
  mapping.Of of the example; known.
-/
import Derived.Test.YtcliojofponpnaaP5
namespace Go.Proofs.Ytcliojofponpnaa
open Go
set_option linter.unusedVariables false
set_option linter.unusedSimpArgs false
attribute [local irreducible] wpA opsA drJ drQ drE Ef Ev Shift Fn
attribute [local irreducible] unr
set_option maxRecDepth 100000 in
theorem mcells_nil {H : Hp} {y : Value} : Fn Try.prog 32 [nilV, y] H [] fun v _ I => v = .bool true ∧ I = [] := by
  refine Fn_of _ _ Try.func32 rfl Try.ntmps32 rfl fun c => ?_
  repeat' (first | (show wpA _ _ _ (.loop _) _ _ _ _; refine A_unroll 1 ?_) | (show unr _ _ _ _ _ _ _ _; refine U_succ ?_) | refine O_nil ?_ | refine A_seq ?_ | refine A_region ?_ | refine A_ret ?_ | refine A_block ?_ | (show opsA _ _ _ _ _ _ _; first | refine O_ev WideF.wide rfl (Ev_pure rfl) rfl rfl ?_ | (show opsA _ _ _ _ (⟨_, .call _, _, _, _, _⟩ :: _) _ _; refine O_ev WideF.wide rfl (Ev_llen rfl) rfl rfl ?_)) | (show wpA _ _ _ (.exit _) _ _ _ _; refine A_exit rfl ?_) | (show wpA _ _ _ (.cond _ _ _) _ _ _ _; (refine A_if rfl (fun h => ?_) (fun h => ?_) <;> try (exfalso; omega))))
  all_goals first
    | (exfalso; omega)
    | exact End_e (Ret1 rfl rfl) ⟨rfl, rfl⟩
set_option maxRecDepth 100000 in
theorem mitems_nil {H : Hp} {y : Value} : Fn Try.prog 31 [nilV, y] H [] fun v _ I => v = .bool true ∧ I = [] := by
  refine Fn_of _ _ Try.func31 rfl Try.ntmps31 rfl fun c => ?_
  repeat' (first | (show wpA _ _ _ (.loop _) _ _ _ _; refine A_unroll 1 ?_) | (show unr _ _ _ _ _ _ _ _; refine U_succ ?_) | refine O_nil ?_ | refine A_seq ?_ | refine A_region ?_ | refine A_ret ?_ | refine A_block ?_ | (show opsA _ _ _ _ _ _ _; first | refine O_ev WideF.wide rfl (Ev_pure rfl) rfl rfl ?_ | (show opsA _ _ _ _ (⟨_, .call _, _, _, _, _⟩ :: _) _ _; refine O_ev WideF.wide rfl (Ev_llen rfl) rfl rfl ?_)) | (show wpA _ _ _ (.exit _) _ _ _ _; refine A_exit rfl ?_) | (show wpA _ _ _ (.cond _ _ _) _ _ _ _; (refine A_if rfl (fun h => ?_) (fun h => ?_) <;> try (exfalso; omega))))
  all_goals first
    | (exfalso; omega)
    | exact End_e (Ret1 rfl rfl) ⟨rfl, rfl⟩
set_option maxRecDepth 100000 in
set_option maxHeartbeats 1000000 in
theorem mitems_one {H : Hp} {y : Value} {a : Option Addr} {c : Nat} {t : List UInt8} (hx : HRow H a 1 c 11 [itBc t]) : Fn Try.prog 31 [.slice a 1 c, y] H [] fun v _ I => v = .bool true ∧ I = [] := by
  obtain ⟨b, o, cs, rfl, hcs, _, hc⟩ := hx.at 0 (by decide)
  cases hcs
  refine Fn_of _ _ Try.func31 rfl Try.ntmps31 rfl fun c => ?_
  repeat' (first | (show wpA _ _ _ (.loop _) _ _ _ _; refine A_unroll 2 ?_) | (show unr _ _ _ _ _ _ _ _; refine U_succ ?_) | (show opsA _ _ _ _ (⟨_, .load _ _, _, _, _, _⟩ :: _) _ _; refine O_ev WideF.wide rfl (Ev_loadH rfl hc rfl) rfl rfl ?_) | refine O_nil ?_ | refine A_seq ?_ | refine A_region ?_ | refine A_skip ?_ | refine A_ret ?_ | refine A_block ?_ | (show opsA _ _ _ _ _ _ _; first | (refine O_split rfl rfl (fun h => ?_) (fun h => ?_) <;> try (exfalso; omega)) | refine O_ev WideF.wide rfl (Ev_pure rfl) rfl rfl ?_ | (show opsA _ _ _ _ (⟨_, .load _ _, _, _, _, _⟩ :: _) _ _; refine O_ev WideF.wide rfl (Ev_loadB1 (i := 0) rfl rfl rfl) rfl rfl ?_) | (show opsA _ _ _ _ (⟨_, .indexAddr _ _ _, _, _, _, _⟩ :: _) _ _; refine O_ev WideF.wide rfl (Ev_indexAddr rfl rfl (by omega) (by omega)) rfl rfl ?_) | (show opsA _ _ _ _ (⟨_, .fieldAddr _ _ _, _, _, _, _⟩ :: _) _ _; refine O_ev WideF.wide rfl (Ev_fieldAddr rfl rfl rfl) rfl rfl ?_) | (show opsA _ _ _ _ (⟨_, .call _, _, _, _, _⟩ :: _) _ _; refine O_ev WideF.wide rfl (Ev_llen rfl) rfl rfl ?_) | (show opsA _ _ _ _ (⟨_, .binOp _ _ _ _ _, _, _, _, _⟩ :: _) _ _; refine O_ev WideF.wide rfl (Ev_add rfl rfl (wi64 (by omega))) rfl rfl ?_) | (show opsA _ _ _ _ (⟨_, .alloc _, _, _, _, _⟩ :: _) _ _; (refine O_ef rfl (Ef_alloc WideF.wide rfl ?_); intro b)) | (show opsA _ _ _ _ (⟨_, .store _ _ _, _, _, _, _⟩ :: _) _ _; refine O_ef rfl (Ef_storew WideF.wide rfl rfl rfl rfl rfl ?_)) | refine O_skip WideF.wide rfl rfl rfl ?_) | (show wpA _ _ _ (.exit _) _ _ _ _; refine A_exit rfl ?_) | (show wpA _ _ _ (.cond _ _ _) _ _ _ _; first | (refine A_if rfl (fun h => ?_) (fun h => ?_) <;> try (exfalso; omega)) | refine A_iffalse rfl ?_))
  all_goals first
    | (exfalso; omega)
    | exact End_e (Ret1 rfl rfl) ⟨rfl, rfl⟩
    | trace_state
set_option maxRecDepth 100000 in
theorem flows_fn {H : Hp} {a : Option Addr} {n cp : Nat} : Fn Try.prog 16 [.agg (pieceL a n cp).toArray] H [] fun v H' I => (∃ b, v = .func (.func 30) #[] #[.pointer (some ⟨b, 0, none⟩)] ∧ HCells H' b 0 (pieceL a n cp)) ∧ I = [] := by
  have hone : ∀ u ∈ pieceL a n cp, u.oneCell' = true := by
    intro u hu
    simp only [pieceL, zHead, zSet, List.cons_append, List.nil_append, List.mem_cons, List.not_mem_nil, or_false] at hu
    rcases hu with rfl | rfl | rfl | rfl | rfl | rfl | rfl | rfl | rfl | rfl | rfl | rfl <;> rfl
  refine Fn_of _ _ Try.func16 rfl Try.ntmps16 rfl fun c => ?_
  repeat' (first | (refine O_ef rfl (Ef_boxa WideF.wide (cs := pieceL a n cp) rfl rfl ?_); intro b1; refine O_freezeBox hone ?_; intro H1 hle1 hb1) | (refine O_ev WideF.wide rfl (Ev_makeFunc (vs := []) (us := [_]) rfl rfl) rfl rfl ?_) | refine O_nil ?_ | refine A_seq ?_ | refine A_region ?_ | refine A_ret ?_ | (show opsA _ _ _ _ _ _ _; refine O_ev WideF.wide rfl (Ev_pure rfl) rfl rfl ?_))
  exact End_e (Ret1 rfl rfl) ⟨⟨_, rfl, hb1⟩, rfl⟩
set_option maxRecDepth 100000 in
theorem flows1_fn {H : Hp} {y : Value} {b : Nat} {a : Option Addr} {n cp : Nat} (hb : HCells H b 0 (pieceL a n cp)) (hi : Fn Try.prog 31 [.slice a n cp, y] H [] fun v _ I => v = .bool true ∧ I = []) :
    Fn Try.prog 30 [y, .pointer (some ⟨b, 0, none⟩)] H [] fun v _ I => v = .tuple #[] ∧ I = [] := by
  have h2 := fun Hx => mcells_nil (H := Hx) (y := y)
  refine Fn_of _ _ Try.func30 rfl Try.ntmps30 rfl fun c => ?_
  repeat' (first | (show opsA _ _ _ _ (⟨_, .load _ _, _, _, _, _⟩ :: _) _ _; first | refine O_ev WideF.wide rfl (Ev_loadH1 rfl (hb 0 _ rfl)) rfl rfl ?_ | refine O_ev WideF.wide rfl (Ev_loadH1 rfl (hb 1 _ rfl)) rfl rfl ?_ | refine O_ev WideF.wide rfl (Ev_loadH1 rfl (hb 2 _ rfl)) rfl rfl ?_) | (refine O_ef rfl (Ef_call (I := []) WideF.wide (hi) ⟨rfl, rfl, trivial⟩ rfl ?_); rintro v H1 I1 hle1 ⟨rfl, rfl⟩); have hb := hb.mono hle1 | (refine O_ef rfl (Ef_call (I := []) WideF.wide (h2 _) ⟨rfl, rfl, trivial⟩ rfl ?_); rintro v H2 I2 hle2 ⟨rfl, rfl⟩) | (show wpA _ _ _ (.loop _) _ _ _ _; refine A_unroll 1 ?_) | (show unr _ _ _ _ _ _ _ _; refine U_succ ?_) | refine O_nil ?_ | refine A_seq ?_ | refine A_region ?_ | refine A_skip ?_ | refine A_block ?_ | (show opsA _ _ _ _ _ _ _; first | refine O_ev WideF.wide rfl (Ev_pure rfl) rfl rfl ?_ | (show opsA _ _ _ _ (⟨_, .fieldAddr _ _ _, _, _, _, _⟩ :: _) _ _; refine O_ev WideF.wide rfl (Ev_fieldAddr rfl rfl rfl) rfl rfl ?_) | (show opsA _ _ _ _ (⟨_, .call _, _, _, _, _⟩ :: _) _ _; refine O_ev WideF.wide rfl (Ev_llen rfl) rfl rfl ?_) | (show opsA _ _ _ _ (⟨_, .unOp _ _ _, _, _, _, _⟩ :: _) _ _; refine O_ev WideF.wide rfl (Ev_notb rfl) rfl rfl ?_)) | (show wpA _ _ _ (.exit _) _ _ _ _; refine A_exit rfl ?_) | (show wpA _ _ _ (.cond _ _ _) _ _ _ _; first | (refine A_if rfl (fun h => ?_) (fun h => ?_) <;> try (exfalso; omega)) | refine A_iffalse rfl ?_))
  all_goals first
    | (exfalso; omega)
    | exact End_e (Ret0 rfl) ⟨rfl, rfl⟩
    | trace_state
end Go.Proofs.Ytcliojofponpnaa
