/-
  The law's known as data.
  The law's known.
-/
import Derived.Test.YtnoadopmeoohmaaGreatDoorF34
namespace Go.Proofs.YtnoadopmeoohmaaGreatDoor
open Go
set_option linter.unusedVariables false
set_option linter.unusedSimpArgs false
section
def kS : List UInt8 := [49, 32, 43, 32, 50, 32, 42, 32, 40, 120, 32, 45, 32, 51, 41]
def kN : Nd := .mk 15 0 [] [.mk 1 1 [] [], .mk 18 0 [] [.mk 1 2 [] [], .mk 16 0 [] [.mk 4 0 [120] [], .mk 1 3 [] []]]]
theorem k_prs : prs kS 60 1 (scn kS 0) = .ok kN (scn kS 15) := by kernel_rfl
theorem k_dot : (scn kS 15).kind = [46] := by kernel_rfl
theorem k_wr : wr kN 0 = kS := by kernel_rfl
theorem k_idt : idt [120] := by
  refine ⟨by simp, fun i hi => ?_⟩
  obtain rfl : i = 0 := by simp at hi; omega
  exact .inl (by decide)
theorem k_resv : resv [120] = false := by decide
theorem k_chk : chkE kN = 0 := by
  simp [chkE, kN, vis, visL, chkT, arityN, k_idt, k_resv]
theorem k_w3 : IntKind.i64.wrap 3 = 3 := by kernel_rfl
theorem k_w6 : IntKind.i64.wrap 6 = 6 := by kernel_rfl
theorem k_w7 : IntKind.i64.wrap 7 = 7 := by kernel_rfl
theorem k_lim : ¬ IntKind.i64.wrap (Int.tdiv 1099511627776 (absI 2)) < absI 3 := of_decide_eq_false (by kernel_rfl)
theorem k_ev : evE [⟨[120], ⟨1, 6, []⟩⟩] kN = (⟨1, 7, []⟩, 0) := by
  simp [kN, evE, evR, evT, oprV, valL, allK, calV, v0, v1, w64, numV, zV, chkV, k_w3, k_w6, k_w7, k_lim]
theorem k_mass : kN.mass < 34359738368 := by
  simp [kN, Nd.mass, massN]
end
theorem valid_ascii : ∀ l : List UInt8, (∀ b ∈ l, b.toNat < 128) → valid l
  | [], _ => valid_nil
  | b :: l, h => by
    have hb := h b (by simp)
    have he : enc (b :: l) 0 = 1 := by unfold enc; rw [if_pos (by show ((b.toNat : Nat) : Int) < 128; omega)]
    rw [valid_step (by simp) (by rw [he]; decide), he]
    exact valid_ascii l fun c hc => h c (List.mem_cons_of_mem _ hc)
theorem k_valid : valid kS := valid_ascii kS (by decide)
theorem run_equalIn_str (P : Program) (w : World) (m : Nat) (t : TypeId) (x y : List UInt8) (ht : P.underlying t = some .string) : (Op.equalIn (m + 1) t (sv x) (sv y)).run P w = .ok (decide (x = y)) w := by
  rw [run_equalIn_string w m t ⟨x.toArray⟩ ⟨y.toArray⟩ ht, ByteArray.toList_mk, ByteArray.toList_mk]
  congr 1
  rw [Bool.eq_iff_iff]; simp
theorem eq_val (p q : Val) : ∀ w, (Op.equalIn 10000 37 (.agg (vlrow p).toArray) (.agg (vlrow q).toArray)).run Tryz.prog w = .ok (decide (p = q)) w := fun w => by
  have key : ∀ m : Nat, (Op.equalIn (m + 2) 37 (.agg (vlrow p).toArray) (.agg (vlrow q).toArray)).run Tryz.prog w = .ok (decide (p = q)) w := fun m => by
    obtain ⟨a, b, h⟩ := p
    obtain ⟨a', b', h'⟩ := q
    unfold vlrow
    have hf := fieldsOf_of Tryz.underlying37
    rw [run_equalIn_agg (P := Tryz.prog) w (m + 1) _ _ _ (by rw [hf]; exact Tryz.underlying37) Tryz.stoodInHeld37, hf]
    have h1 := fun x y : Int => run_equalIn_int (P := Tryz.prog) w m 3 .i64 .i64 x y Tryz.underlying3
    have h3 := fun x y : List UInt8 => run_equalIn_str Tryz.prog w m 9 x y Tryz.underlying9
    simp [Op.eqFields, part, Tryz.isAgg3, Tryz.isAgg9, h1, h3]
    by_cases e1 : a = a' <;> by_cases e2 : b = b' <;> by_cases e3 : h = h' <;> simp [e1, e2, e3]
  exact key 9998
def kE : List Bnd := [⟨[120], ⟨1, 6, []⟩⟩]
theorem k_evl : evl kE kN = (⟨1, 7, []⟩, 0) := by
  unfold evl
  rw [if_neg (by rw [k_chk]; decide)]
  exact k_ev
theorem k_prt : prT kN = (kS, 0) := by
  unfold prT
  rw [if_neg (by rw [k_chk]; decide), k_wr, if_neg (by decide)]
theorem k_env : EnvV kE := by
  intro b hb
  obtain rfl : b = ⟨[120], ⟨1, 6, []⟩⟩ := by simpa [kE] using hb
  exact ⟨⟨by decide, by decide⟩, by decide⟩
attribute [local irreducible] wpA opsA drJ drQ drE Ef Ev Shift Fn
set_option maxRecDepth 100000 in
set_option maxHeartbeats 4000000 in
theorem known_fn {H : Hp} (hV : VarsH H) : Fn Tryz.prog 12 [] H [] fun v _ I => v = .bool true ∧ I = [] := by
  have kP := fun Hx (hx : HLe H Hx) => Parse_ok (H := Hx) k_valid (by decide) (hV.mono hx) (by decide) k_prs k_dot k_chk k_mass
  have kV := fun Hx (hx : HLe H Hx) a n cp (hs : NodesS Hx a n cp kN.args) b (hr : HRow Hx (some ⟨b, 0, none⟩) 1 1 4 (kE.map bdrow)) => Eval_fn (NodeH.of hs) k_mass hr (by decide) k_env (hV.mono hx)
  rw [k_evl] at kV
  have kT := fun Hx (hx : HLe H Hx) a n cp (hs : NodesS Hx a n cp kN.args) => Print_fn (NodeH.of hs) k_mass (hV.mono hx)
  rw [k_prt] at kT
  refine Fn_of _ _ Tryz.func12 rfl Tryz.ntmps12 rfl fun c => ?_
  repeat' (first | (refine O_ef rfl (Ef_call (I := []) WideF.wide (kP _ (HLe.refl _)) ⟨rfl, trivial⟩ rfl ?_); rintro v1 H1 I1 hle1 ⟨⟨a, n, cp, rfl, hns⟩, rfl⟩) | (refine O_ef rfl (Ef_build1a WideF.wide (cs := bdrow ⟨[120], ⟨1, 6, []⟩⟩) rfl rfl rfl rfl rfl ?_); intro bq; refine O_freeze (css := kE.map bdrow) (bdrow_one _) ?_; intro H2 hle2 hr2) | (refine O_ef rfl (Ef_call (I := []) WideF.wide (kV _ (hle1.trans hle2) _ _ _ (hns.mono hle2) _ hr2) ⟨rfl, rfl, trivial⟩ rfl ?_); rintro v3 H3 I3 hle3 ⟨rfl, rfl⟩) | (refine O_ef rfl (Ef_call (I := []) WideF.wide (kT _ ((hle1.trans hle2).trans hle3) _ _ _ ((hns.mono hle2).mono hle3)) ⟨rfl, trivial⟩ rfl ?_); rintro v4 H4 I4 hle4 ⟨rfl, rfl⟩) | (refine O_ev WideF.wide rfl (Ev_eqS rfl rfl Tryz.eqGuardType37 (eq_val ⟨1, 7, []⟩ ⟨1, 7, []⟩)) rfl rfl ?_) | refine O_nil ?_ | refine A_seq ?_ | refine A_region ?_ | refine A_skip ?_ | refine A_ret ?_ | (show opsA _ _ _ _ _ _ _; first | (refine O_split rfl rfl (fun h => ?_) (fun h => ?_) <;> try (exfalso; omega)) | refine O_ev WideF.wide rfl (Ev_pure rfl) rfl rfl ?_ | (show opsA _ _ _ _ (⟨_, .load _ _, _, _, _, _⟩ :: _) _ _; first | refine O_ev WideF.wide rfl (Ev_loadB (i := 0) rfl rfl rfl) rfl rfl ?_ | refine O_ev WideF.wide rfl (Ev_loadB (i := 1) rfl rfl rfl) rfl rfl ?_) | (show opsA _ _ _ _ (⟨_, .binOp _ _ _ _ _, _, _, _, _⟩ :: _) _ _; refine O_ev WideF.wide rfl (Ev_seql rfl rfl) rfl rfl ?_) | (show opsA _ _ _ _ (⟨_, .build _ _, _, _, _, _⟩ :: _) _ _; refine O_ev WideF.wide rfl (Ev_build (vs := [(_, _), (_, _)]) ⟨rfl, rfl, rfl, rfl, trivial⟩ rfl) rfl rfl ?_) | (show opsA _ _ _ _ (⟨_, .alloc _, _, _, _, _⟩ :: _) _ _; (refine O_ef rfl (Ef_alloc WideF.wide rfl ?_); intro b)) | (show opsA _ _ _ _ (⟨_, .store _ _ _, _, _, _, _⟩ :: _) _ _; refine O_ef rfl (Ef_storew WideF.wide rfl rfl rfl rfl rfl ?_)) | refine O_skip WideF.wide rfl rfl rfl ?_) | (show wpA _ _ _ (.cond _ _ _) _ _ _ _; (refine A_if rfl (fun h => ?_) (fun h => ?_) <;> try (exfalso; omega))))
  all_goals first
    | (exfalso; omega)
    | (exfalso; contradiction)
    | (exfalso; exact absurd trivial (by assumption))
    | (exfalso; exact absurd rfl (by assumption))
    | exact End_e (Ret1 rfl rfl) ⟨rfl, rfl⟩
    | trace_state
end Go.Proofs.YtnoadopmeoohmaaGreatDoor
