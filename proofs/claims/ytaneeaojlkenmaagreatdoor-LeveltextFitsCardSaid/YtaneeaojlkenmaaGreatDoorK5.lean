/-
  The walks of the functions that write numerals, second part: upper case, Roman numerals, letters, ordinals, Format.
-/
import Derived.Test.YtaneeaojlkenmaaGreatDoorK4
namespace Go.Proofs.YtaneeaojlkenmaaGreatDoor
open Go Go.Lib
set_option linter.unusedVariables false
set_option linter.unusedSimpArgs false
attribute [local irreducible] wpA opsA drJ drQ drE Ef Ev Shift Fn
@[reducible, instance] def lies90 : LiesC Tryz.prog 74 2 := ⟨by kernel_rfl⟩
@[reducible, instance] def cells5 : CellsC Tryz.prog 5 1 := ⟨by kernel_rfl⟩
@[reducible, instance] def noEsc : ExtC Tryz.prog 81 := ⟨fun x w => by
  rw [run_callFunc_extern Tryz.func81 (by kernel_rfl) (by kernel_rfl) (by kernel_rfl) (e := Extern.AbiNoEscape.same) (by kernel_rfl)]
  rfl⟩
/-- a builder at block b that holds the bytes l -/
def BldIs (b : Nat) (l : List UInt8) (I : Own) : Prop := ∃ (p : Option Addr) (v : Value) (R : Own), (p = none ∨ p = some ⟨b, 0, none⟩) ∧ BufIs 5 v R l ∧ I = .obj b (cobj [.pointer p, v] 74) :: R
set_option maxRecDepth 100000 in
theorem copyCheck_fn (H : Hp) (b : Nat) (p : Option Addr) (v : Value) (hp : p = none ∨ p = some ⟨b, 0, none⟩) :
    Fn Tryz.prog 63 [.pointer (some ⟨b, 0, none⟩)] H [.obj b (cobj [.pointer p, v] 74)] fun _ H' I' => H' = H ∧ I' = [.obj b (cobj [.pointer (some ⟨b, 0, none⟩), v] 74)] := by
  rcases hp with rfl | rfl
  · refine Fn_of _ _ Tryz.func63 rfl Tryz.ntmps63 rfl fun c => ?_
    repeat' (first | refine O_nil ?_ | refine A_seq ?_ | refine A_region ?_ | (show opsA _ _ _ _ _ _ _; first | refine O_ev WideF.wide rfl (Ev_pure rfl) rfl rfl ?_ | (show opsA _ _ _ _ (⟨_, .load _ _, _, _, _, _⟩ :: _) _ _; refine O_ev WideF.wide rfl (Ev_loadO1 (i := 0) rfl rfl rfl) rfl rfl ?_) | (show opsA _ _ _ _ (⟨_, .fieldAddr _ _ _, _, _, _, _⟩ :: _) _ _; refine O_ev WideF.wide rfl (Ev_fieldAddr rfl rfl rfl) rfl rfl ?_) | (show opsA _ _ _ _ (⟨_, .call _, _, _, _, _⟩ :: _) _ _; refine O_ev WideF.wide rfl (Ev_ext rfl) rfl rfl ?_) | (show opsA _ _ _ _ (⟨_, .binOp _ _ _ _ _, _, _, _, _⟩ :: _) _ _; refine O_ev WideF.wide rfl (Ev_ptrnil rfl rfl) rfl rfl ?_) | (show opsA _ _ _ _ (⟨_, .convert _ _ _, _, _, _, _⟩ :: _) _ _; first | refine O_ev WideF.wide rfl (Ev_toUnsafe (i := 0) rfl rfl rfl rfl) rfl rfl ?_ | refine O_ev WideF.wide rfl (Ev_fromUnsafe (i := 0) rfl rfl rfl) rfl rfl ?_) | (show opsA _ _ _ _ (⟨_, .nilCheck _, _, _, _, _⟩ :: _) _ _; refine O_ev WideF.wide rfl (Ev_nilCheck rfl) rfl rfl ?_) | (show opsA _ _ _ _ (⟨_, .store _ _ _, _, _, _, _⟩ :: _) _ _; refine O_ef rfl (Ef_storeO1 WideF.wide rfl rfl rfl rfl rfl ?_))) | (show wpA _ _ _ (.cond _ _ _) _ _ _ _; refine A_iftrue rfl ?_))
    exact End_m (Ret0 rfl) ⟨rfl, rfl⟩
  · refine Fn_of _ _ Tryz.func63 rfl Tryz.ntmps63 rfl fun c => ?_
    repeat' (first | refine O_nil ?_ | refine A_seq ?_ | refine A_region ?_ | refine A_skip ?_ | (show opsA _ _ _ _ _ _ _; first | refine O_ev WideF.wide rfl (Ev_pure rfl) rfl rfl ?_ | (show opsA _ _ _ _ (⟨_, .load _ _, _, _, _, _⟩ :: _) _ _; refine O_ev WideF.wide rfl (Ev_loadO1 (i := 0) rfl rfl rfl) rfl rfl ?_) | (show opsA _ _ _ _ (⟨_, .fieldAddr _ _ _, _, _, _, _⟩ :: _) _ _; refine O_ev WideF.wide rfl (Ev_fieldAddr rfl rfl rfl) rfl rfl ?_) | (show opsA _ _ _ _ (⟨_, .binOp _ _ _ _ _, _, _, _, _⟩ :: _) _ _; first | refine O_ev WideF.wide rfl (Ev_ptrnil rfl rfl) rfl rfl ?_ | refine O_ev WideF.wide rfl (Ev_ptrsame rfl rfl) rfl rfl ?_) | (show opsA _ _ _ _ (⟨_, .nilCheck _, _, _, _, _⟩ :: _) _ _; refine O_ev WideF.wide rfl (Ev_nilCheck rfl) rfl rfl ?_)) | (show wpA _ _ _ (.cond _ _ _) _ _ _ _; refine A_iffalse rfl ?_))
    exact End_m (Ret0 rfl) ⟨rfl, rfl⟩
theorem BufIs.one {T : TypeId} {v : Value} {R : Own} {l : List UInt8} (h : BufIs T v R l) : v.oneCell' = true := by
  rcases h with ⟨rfl, _⟩ | ⟨b, cap, rest, rfl, _⟩ <;> rfl
theorem BldIs.new (b : Nat) : BldIs b [] [.obj b (cobj [.pointer none, .slice none 0 0] 74)] := ⟨none, _, [], .inl rfl, .inl ⟨rfl, rfl, rfl⟩, rfl⟩
set_option maxRecDepth 100000 in
theorem WriteString_fn (H : Hp) (b : Nat) (l s : List UInt8) (I : Own) (hI : BldIs b l I) (hl : l.length + s.length ≤ 70368744177664) :
    Fn Tryz.prog 45 [.pointer (some ⟨b, 0, none⟩), sv s] H I fun _ H' I' => H' = H ∧ BldIs b (l ++ s) I' := by
  obtain ⟨p, v, R, hp, hB, rfl⟩ := hI
  have hcc := copyCheck_fn H b p v hp
  refine Fn_of _ _ Tryz.func45 rfl Tryz.ntmps45 rfl fun c => ?_
  repeat' (first | (refine O_ef rfl (Ef_call (I := [_]) (M' := R) WideF.wide hcc ⟨rfl, trivial⟩ rfl ?_); rintro u H' I' hle ⟨rfl, rfl⟩) | (refine O_ef rfl (Ef_appendS1 WideF.wide rfl rfl hB rfl rfl hl rfl ?_); intro v' R' hB') | (refine O_ef rfl (Ef_storeO1 WideF.wide rfl rfl hB'.one rfl rfl ?_)) | refine O_nil ?_ | refine A_seq ?_ | refine A_region ?_ | refine A_ret ?_ | (show opsA _ _ _ _ _ _ _; first | refine O_ev WideF.wide rfl (Ev_pure rfl) rfl rfl ?_ | (show opsA _ _ _ _ (⟨_, .load _ _, _, _, _, _⟩ :: _) _ _; refine O_ev WideF.wide rfl (Ev_loadO1 (i := 0) rfl rfl rfl) rfl rfl ?_) | (show opsA _ _ _ _ (⟨_, .fieldAddr _ _ _, _, _, _, _⟩ :: _) _ _; refine O_ev WideF.wide rfl (Ev_fieldAddr rfl rfl rfl) rfl rfl ?_) | (show opsA _ _ _ _ (⟨_, .call _, _, _, _, _⟩ :: _) _ _; refine O_ev WideF.wide rfl (Ev_slen rfl) rfl rfl ?_) | (show opsA _ _ _ _ (⟨_, .nilCheck _, _, _, _, _⟩ :: _) _ _; refine O_ev WideF.wide rfl (Ev_nilCheck rfl) rfl rfl ?_)))
  exact End_m (Ret2 rfl rfl rfl) ⟨rfl, _, _, _, .inr rfl, hB', rfl⟩
set_option maxRecDepth 100000 in
theorem String_fn (H : Hp) (b : Nat) (l : List UInt8) (I : Own) (hI : BldIs b l I) (hl : l.length ≤ 70368744177664) :
    Fn Tryz.prog 47 [.pointer (some ⟨b, 0, none⟩)] H I fun v H' I' => v = sv l ∧ H' = H ∧ I' = [] := by
  obtain ⟨p, v, R, hp, hB, rfl⟩ := hI
  rcases hB with ⟨rfl, rfl, rfl⟩ | ⟨gb, cap, rest, rfl, rfl, hc, hc0, hlen⟩
  · refine Fn_of _ _ Tryz.func47 rfl Tryz.ntmps47 rfl fun c => ?_
    repeat' (first | ((refine A_drawi WideF.wide (.q 0 (.q 1 (.q 2 (.q 3 (.q 4 (.q 5 (.q 6 (.q 7 (.q 8 (.q 9 (.e 10 (.q 11 (.done []))))))))))))) [] [] [0] (by decide +kernel) (by decide) rfl ?_; simp only [Own.picks, Own.rget, List.cons_append, List.nil_append, List.append_nil])) | (refine D_ev rfl (Ev_sliceDataNil rfl) rfl rfl ?_) | (refine E_ef rfl (Ef_ev WideF.wide (Ev_strNil rfl rfl) rfl rfl ?_); refine ⟨Grow.same rfl rfl, ?_⟩) | refine O_nil ?_ | refine A_seq ?_ | refine A_region ?_ | refine A_ret ?_ | (show drJ _ _ _ _ _ _ _ (.q _ _) _; refine D_q rfl ?_) | (show drJ _ _ _ _ _ _ _ (.e _ _) _; refine D_e rfl ?_) | (show drJ _ _ _ _ _ _ _ (.done _) _; refine D_done ?_; simp only [List.cons_append, List.nil_append]) | (show drQ _ _ _ _ _ _; first | refine D_ev rfl (Ev_pure rfl) rfl rfl ?_ | (show drQ _ _ _ ⟨_, .load _ _, _, _, _, _⟩ _ _; refine D_ev rfl (Ev_loadO1 (i := 0) rfl rfl rfl) rfl rfl ?_) | (show drQ _ _ _ ⟨_, .fieldAddr _ _ _, _, _, _, _⟩ _ _; refine D_ev rfl (Ev_fieldAddr rfl rfl rfl) rfl rfl ?_) | (show drQ _ _ _ ⟨_, .call _, _, _, _, _⟩ _ _; refine D_ev rfl (Ev_llen rfl) rfl rfl ?_) | (show drQ _ _ _ ⟨_, .nilCheck _, _, _, _, _⟩ _ _; refine D_ev rfl (Ev_nilCheck rfl) rfl rfl ?_)) | (show opsA _ _ _ _ _ _ _; refine O_ev WideF.wide rfl (Ev_pure rfl) rfl rfl ?_))
    exact End_e (Ret1 rfl rfl) ⟨rfl, rfl, rfl⟩
  · refine Fn_of _ _ Tryz.func47 rfl Tryz.ntmps47 rfl fun c => ?_
    repeat' (first | ((refine A_drawi WideF.wide (.q 0 (.q 1 (.q 2 (.q 3 (.q 4 (.q 5 (.q 6 (.q 7 (.q 8 (.q 9 (.e 10 (.q 11 (.done []))))))))))))) [] [1] [0] (by decide +kernel) (by decide) rfl ?_; simp only [Own.picks, Own.rget, List.cons_append, List.nil_append, List.append_nil])) | (refine D_ev rfl (Ev_sliceData rfl hc0) rfl rfl ?_) | (refine E_ef rfl (Ef_bufString WideF.wide rfl rfl (by omega) rfl ?_); refine ⟨Grow.same rfl rfl, ?_⟩) | refine O_nil ?_ | refine A_seq ?_ | refine A_region ?_ | refine A_ret ?_ | (show drJ _ _ _ _ _ _ _ (.q _ _) _; refine D_q rfl ?_) | (show drJ _ _ _ _ _ _ _ (.e _ _) _; refine D_e rfl ?_) | (show drJ _ _ _ _ _ _ _ (.done _) _; refine D_done ?_; simp only [List.cons_append, List.nil_append]) | (show drQ _ _ _ _ _ _; first | refine D_ev rfl (Ev_pure rfl) rfl rfl ?_ | (show drQ _ _ _ ⟨_, .load _ _, _, _, _, _⟩ _ _; refine D_ev rfl (Ev_loadO1 (i := 0) rfl rfl rfl) rfl rfl ?_) | (show drQ _ _ _ ⟨_, .fieldAddr _ _ _, _, _, _, _⟩ _ _; refine D_ev rfl (Ev_fieldAddr rfl rfl rfl) rfl rfl ?_) | (show drQ _ _ _ ⟨_, .call _, _, _, _, _⟩ _ _; refine D_ev rfl (Ev_llen rfl) rfl rfl ?_) | (show drQ _ _ _ ⟨_, .nilCheck _, _, _, _, _⟩ _ _; refine D_ev rfl (Ev_nilCheck rfl) rfl rfl ?_)) | (show opsA _ _ _ _ _ _ _; refine O_ev WideF.wide rfl (Ev_pure rfl) rfl rfl ?_))
    exact End_e (Ret1 rfl rfl) ⟨rfl, rfl, rfl⟩


/-! ### capital letters -/
theorem upperB_lo {x : UInt8} (h1 : 97 ≤ x.toNat) (h2 : x.toNat ≤ 122) : ((upperB x).toNat : Int) = x.toNat - 32 := by
  have : isLowerB x = true := by
    unfold isLowerB
    simp only [Bool.and_eq_true, decide_eq_true_eq, UInt8.le_iff_toNat_le]
    exact ⟨h1, h2⟩
  unfold upperB
  rw [if_pos this, UInt8.toNat_sub_of_le _ _ (by rw [UInt8.le_iff_toNat_le]; show 32 ≤ _; omega)]
  show ((x.toNat - 32 : Nat) : Int) = _
  omega
theorem upperB_hi {x : UInt8} (h : ¬ (97 ≤ x.toNat ∧ x.toNat ≤ 122)) : upperB x = x := by
  have : isLowerB x = false := by
    rw [Bool.eq_false_iff]
    intro hc
    unfold isLowerB at hc
    simp only [Bool.and_eq_true, decide_eq_true_eq, UInt8.le_iff_toNat_le] at hc
    exact h hc
  unfold upperB
  rw [if_neg (by rw [this]; decide)]
theorem Ev_loadSm {P : Program} {e : Env} {H : Hp} {R : Own} {dst : Option Tmp} {ty : TypeId} {pos : String} {after : Array Edge} {g : Option (Nat × Bool)} {x : Operand} {t : TypeId} {b o : Nat} [hT : TyC P t false 1] {i : Nat} {l : List UInt8} {rest : List Value} {T : TypeId} {m : Int} (hx : e.eval x = some (.pointer (some ⟨b, o, none⟩))) (hR : oget R i = some (.obj b (sobj l rest T))) (ho : o < l.length) (hm : ((l.getD o 0).toNat : Int) = m) :
    Ev P ⟨dst, .load t x, ty, pos, after, g⟩ e H R (.int .u8 m) := by
  have h := Ev_loadS (P := P) (H := H) (dst := dst) (ty := ty) (pos := pos) (after := after) (g := g) (t := t) hx hR ho
  unfold bat at h
  rwa [show ((o : Int).toNat) = o from rfl, hm] at h
theorem set_same {q : List UInt8} {o : Nat} {x : UInt8} (h : q.getD o 0 = x) (ho : o < q.length) : q = q.set o x := by
  subst h
  simp [List.getD, List.getElem?_eq_getElem ho]
set_option maxRecDepth 100000 in
set_option maxHeartbeats 2000000 in
theorem upper_fn {H : Hp} {l : List UInt8} (hl : l.length ≤ 1000) : Fn Tryz.prog 87 [sv l] H [] fun v _ I => v = sv (upper l) ∧ I = [] := by
  refine Fn_of _ _ Tryz.func87 rfl Tryz.ntmps87 rfl fun c => ?_
  repeat' (first | (refine O_ef rfl (Ef_strBytes WideF.wide rfl rfl ?_); intro b cp rest hcp) | refine O_nil ?_ | refine A_seq ?_ | refine A_region ?_ | refine A_block ?_ | (show opsA _ _ _ _ _ _ _; refine O_ev WideF.wide rfl (Ev_pure rfl) rfl rfl ?_))
  refine A_loopu (fun m s => ∃ (i : Nat) (q : List UInt8), m = l.length - i ∧ i ≤ l.length ∧ q = upper (l.take i) ++ l.drop i ∧ s = ⟨35, [(3, .slice (some ⟨b, 0, none⟩) l.length cp), (4, .int .i64 i)], H, [.obj b (sobj q rest 5)], [], []⟩) ?_ ?_
  · exact Shift.to ⟨_, 0, l, rfl, by omega, by simp [upper], rfl⟩ ⟨rfl, rfl, rfl, ⟨rfl, rfl, trivial⟩, Own.subi [0] (by decide) rfl rfl⟩
  · rintro m s ⟨i, q, rfl, hi, hq, rfl⟩
    have hql : q.length = l.length := by rw [hq]; simp [upper]; omega
    by_cases hlt : i < l.length
    · obtain ⟨x, hx⟩ : ∃ x, l[i]? = some x := ⟨_, List.getElem?_eq_getElem hlt⟩
      have hqx : q.getD (0 + i * 1) 0 = x := by
        rw [hq, List.getD, List.getElem?_append_right (by simp [upper]; omega)]
        simp [upper, Nat.min_eq_left hi, hx]
      have hnext : q.set (0 + i * 1) (upperB x) = upper (l.take (i + 1)) ++ l.drop (i + 1) := by
        rw [hq, Nat.zero_add, Nat.mul_one, List.set_append_right _ _ (by simp [upper]; omega)]
        simp only [upper, List.length_map, List.length_take, Nat.min_eq_left hi, Nat.sub_self]
        rw [List.drop_eq_getElem_cons hlt, List.set_cons_zero, List.take_add_one, hx]
        simp
      have hxl := UInt8.toNat_lt x
      by_cases hc : 97 ≤ x.toNat ∧ x.toNat ≤ 122
      · have hu := upperB_lo hc.1 hc.2
        repeat' (first | (refine O_ev WideF.wide rfl (Ev_loadSm (i := 0) (m := (x.toNat : Int)) rfl rfl (by simp; omega) (by rw [← hqx]; rfl)) rfl rfl ?_) | (refine O_ev WideF.wide rfl (Ev_sub (r := (x.toNat : Int) - 32) rfl rfl (wu8 (by omega))) rfl rfl ?_) | (refine O_ef rfl (Ef_storeS (u := upperB x) WideF.wide rfl rfl (by omega) (by simp; omega) ?_)) | refine O_nil ?_ | refine A_seq ?_ | refine A_region ?_ | refine A_skip ?_ | refine A_block ?_ | (show opsA _ _ _ _ _ _ _; first | (refine O_split rfl rfl (fun h => ?_) (fun h => ?_) <;> try (exfalso; omega)) | refine O_ev WideF.wide rfl (Ev_pure rfl) rfl rfl ?_ | (show opsA _ _ _ _ (⟨_, .indexAddr _ _ _, _, _, _, _⟩ :: _) _ _; refine O_ev WideF.wide rfl (Ev_indexAddr rfl rfl (by omega) (by omega)) rfl rfl ?_) | (show opsA _ _ _ _ (⟨_, .call _, _, _, _, _⟩ :: _) _ _; refine O_ev WideF.wide rfl (Ev_llen rfl) rfl rfl ?_) | (show opsA _ _ _ _ (⟨_, .binOp _ _ _ _ _, _, _, _, _⟩ :: _) _ _; refine O_ev WideF.wide rfl (Ev_add rfl rfl (wi64 (by omega))) rfl rfl ?_)) | (show wpA _ _ _ (.cond _ _ _) _ _ _ _; (refine A_if rfl (fun h => ?_) (fun h => ?_) <;> try (exfalso; omega))))
        refine Shift.to ⟨_, ?_, i + 1, _, rfl, by omega, hnext, rfl⟩ ⟨rfl, rfl, rfl, ⟨rfl, rfl, trivial⟩, Own.subi [0] (by decide) rfl rfl⟩
        omega
      · have hu := upperB_hi hc
        repeat' (first | (refine O_ev WideF.wide rfl (Ev_loadSm (i := 0) (m := (x.toNat : Int)) rfl rfl (by simp; omega) (by rw [← hqx]; rfl)) rfl rfl ?_) | refine O_nil ?_ | refine A_seq ?_ | refine A_region ?_ | refine A_skip ?_ | refine A_block ?_ | (show opsA _ _ _ _ _ _ _; first | (refine O_split rfl rfl (fun h => ?_) (fun h => ?_) <;> try (exfalso; omega)) | refine O_ev WideF.wide rfl (Ev_pure rfl) rfl rfl ?_ | (show opsA _ _ _ _ (⟨_, .indexAddr _ _ _, _, _, _, _⟩ :: _) _ _; refine O_ev WideF.wide rfl (Ev_indexAddr rfl rfl (by omega) (by omega)) rfl rfl ?_) | (show opsA _ _ _ _ (⟨_, .call _, _, _, _, _⟩ :: _) _ _; refine O_ev WideF.wide rfl (Ev_llen rfl) rfl rfl ?_) | (show opsA _ _ _ _ (⟨_, .binOp _ _ _ _ _, _, _, _, _⟩ :: _) _ _; refine O_ev WideF.wide rfl (Ev_add rfl rfl (wi64 (by omega))) rfl rfl ?_) | refine O_skip WideF.wide rfl rfl rfl ?_) | (show wpA _ _ _ (.cond _ _ _) _ _ _ _; first | (refine A_if rfl (fun h => ?_) (fun h => ?_) <;> try (exfalso; omega)) | refine A_iffalse rfl ?_))
        all_goals
          refine Shift.to ⟨_, ?_, i + 1, q, rfl, by omega, ?_, rfl⟩ ⟨rfl, rfl, rfl, ⟨rfl, rfl, trivial⟩, Own.subi [0] (by decide) rfl rfl⟩
          · omega
          · rw [← hnext, hu]
            exact set_same hqx (by omega)
    · repeat' (first | (refine O_ev WideF.wide rfl (Ev_convS (i := 0) rfl rfl hql) rfl rfl ?_) | refine O_nil ?_ | refine A_seq ?_ | refine A_region ?_ | refine A_ret ?_ | (show opsA _ _ _ _ _ _ _; first | refine O_ev WideF.wide rfl (Ev_pure rfl) rfl rfl ?_ | (show opsA _ _ _ _ (⟨_, .call _, _, _, _, _⟩ :: _) _ _; refine O_ev WideF.wide rfl (Ev_llen rfl) rfl rfl ?_)) | (show wpA _ _ _ (.exit _) _ _ _ _; refine A_exit rfl ?_) | (show wpA _ _ _ (.cond _ _ _) _ _ _ _; (refine A_if rfl (fun h => ?_) (fun h => ?_) <;> try (exfalso; omega))))
      refine End_e (Ret1 rfl rfl) ⟨?_, rfl⟩
      have : i = l.length := by omega
      rw [hq, this]; simp
/-! ### Roman numerals -/
theorem romL_sub {v : Nat} {t : List UInt8} {r : List (Nat × List UInt8)} {n : Nat} (hv : 1 ≤ v) (h : v ≤ n) : romL ((v, t) :: r) n = t ++ romL ((v, t) :: r) (n - v) := by
  rw [romL, romL]
  have e1 : n / v = (n - v) / v + 1 := by
    rw [← Nat.add_div_right _ (by omega), Nat.sub_add_cancel h]
  have e2 : n % v = (n - v) % v := by
    rw [← Nat.add_mod_right (n - v) v, Nat.sub_add_cancel h]
  rw [e1, e2, repeatL, List.append_assoc]
theorem romL_low {v : Nat} {t : List UInt8} {r : List (Nat × List UInt8)} {n : Nat} (h : n < v) : romL ((v, t) :: r) n = romL r n := by
  rw [romL, Nat.div_eq_of_lt h, Nat.mod_eq_of_lt h]; rfl
def valC : List (List Value) := signL.map fun p => [.int .i64 p.1]
def txtC : List (List Value) := signL.map fun p => [sv p.2]
theorem sign_at {i : Nat} (hi : i < 13) : ∃ v t, signL.drop i = (v, t) :: signL.drop (i + 1) ∧ signL[i]? = some (v, t) ∧ 1 ≤ v ∧ v ≤ 1000 ∧ 1 ≤ t.length ∧ t.length ≤ 2 := by
  have key : ∀ j : Fin 13, (signL.drop j.val).head?.isSome = true ∧ signL.drop j.val = (signL.drop j.val).head?.get! :: signL.drop (j.val + 1) := by decide
  match i, hi with
  | 0, _ | 1, _ | 2, _ | 3, _ | 4, _ | 5, _ | 6, _ | 7, _ | 8, _ | 9, _ | 10, _ | 11, _ | 12, _ => exact ⟨_, _, rfl, rfl, by decide, by decide, by decide, by decide⟩
theorem rom_len {n : Nat} (h : n ≤ 3999) : (rom n).length ≤ 15 := (vrS_rom ⟨n, by omega⟩).2.2
set_option maxRecDepth 100000 in
set_option maxHeartbeats 2000000 in
theorem rRoman_fn {H : Hp} {n : Nat} (hn : n ≤ 3999) : Fn Tryz.prog 88 [.int .i64 n] H [] fun v _ I => v = sv (rom n) ∧ I = [] := by
  have hlen := rom_len hn
  refine Fn_of _ _ Tryz.func88 rfl Tryz.ntmps88 rfl fun c => ?_
  repeat' (first | (refine O_ef rfl (Ef_buildn WideF.wide (k := 1) (xs := [_, _, _, _, _, _, _, _, _, _, _, _, _]) (vs := [_, _, _, _, _, _, _, _, _, _, _, _, _]) rfl ⟨rfl, rfl, rfl, rfl, rfl, rfl, rfl, rfl, rfl, rfl, rfl, rfl, rfl, trivial⟩ rfl rfl rfl rfl rfl rfl ?_); intro bb) | refine O_nil ?_ | refine A_seq ?_ | refine A_region ?_ | refine A_block ?_ | (show opsA _ _ _ _ _ _ _; refine O_ev WideF.wide rfl (Ev_pure rfl) rfl rfl ?_))
  refine A_freeze (css := txtC) (by intro cs hcs u hu; simp [txtC, signL] at hcs; rcases hcs with rfl | rfl | rfl | rfl | rfl | rfl | rfl | rfl | rfl | rfl | rfl | rfl | rfl <;> (simp at hu; subst hu; rfl)) ?_
  intro H1 hle1 rt
  refine A_freeze (css := valC) (by intro cs hcs u hu; simp [valC, signL] at hcs; rcases hcs with rfl | rfl | rfl | rfl | rfl | rfl | rfl | rfl | rfl | rfl | rfl | rfl | rfl <;> (simp at hu; subst hu; rfl)) ?_
  intro H2 hle2 rv
  have rt := rt.mono hle2
  refine A_loopu (fun m s => ∃ (i k : Nat) (w : List UInt8) (va ta : Option Addr), m = 13 - i ∧ i ≤ 13 ∧ k ≤ 3999 ∧ HRow H2 va 13 13 1 valC ∧ HRow H2 ta 13 13 1 txtC ∧ w ++ romL (signL.drop i) k = rom n ∧ s = ⟨34, [(0, .int .i64 (k : Int)), (3, sv w), (4, .slice va 13 13), (5, .slice ta 13 13), (6, .int .i64 i)], H2, [], [], []⟩) ?_ ?_
  · exact Shift.to ⟨_, 0, n, [], _, _, rfl, by omega, hn, rv, rt, rfl, rfl⟩ ⟨rfl, rfl, rfl, ⟨rfl, rfl, rfl, rfl, rfl, trivial⟩, Own.sub_nil _⟩
  · rintro m s ⟨i, k, w, va, ta, hm, hi, hk, rv, rt, hw, rfl⟩
    by_cases h13 : i < 13
    · obtain ⟨v, t, hd, hg, hv1, hv2, ht1, ht2⟩ := sign_at h13
      obtain ⟨bv, ov, x, rfl, hx, hcv⟩ := HRow.atm (f := fun p : Nat × List UInt8 => [Value.int .i64 p.1]) (l := signL) rv i h13
      obtain ⟨bt, ot, y, rfl, hy, hct⟩ := HRow.atm (f := fun p : Nat × List UInt8 => [sv p.2]) (l := signL) rt i h13
      rw [hg] at hx hy
      cases hx
      cases hy
      have hcv : HCells H2 bv (ov + i * 1) [.int .i64 (v : Int)] := hcv
      have hct : HCells H2 bt (ot + i * 1) [sv t] := hct
      rw [hd] at hw
      repeat' (first | refine O_nil ?_ | refine A_seq ?_ | refine A_region ?_ | refine A_skip ?_ | refine A_block ?_ | (show opsA _ _ _ _ _ _ _; first | refine O_ev WideF.wide rfl (Ev_pure rfl) rfl rfl ?_ | (show opsA _ _ _ _ (⟨_, .call _, _, _, _, _⟩ :: _) _ _; refine O_ev WideF.wide rfl (Ev_llen rfl) rfl rfl ?_)) | (show wpA _ _ _ (.cond _ _ _) _ _ _ _; (refine A_if rfl (fun h => ?_) (fun h => ?_) <;> try (exfalso; omega))))
      refine A_loopu (fun m s => ∃ (k2 : Nat) (w2 : List UInt8), m = k2 ∧ k2 ≤ 3999 ∧ w2 ++ romL ((v, t) :: signL.drop (i + 1)) k2 = rom n ∧ s = ⟨34, [(0, .int .i64 (k2 : Int)), (3, sv w2), (4, .slice (some ⟨bv, ov, none⟩) 13 13), (5, .slice (some ⟨bt, ot, none⟩) 13 13), (6, .int .i64 i)], H2, [], [], []⟩) ?_ ?_
      · exact Shift.to ⟨_, k, w, rfl, hk, hw, rfl⟩ ⟨rfl, rfl, rfl, ⟨rfl, rfl, rfl, rfl, rfl, trivial⟩, Own.sub_nil _⟩
      · rintro m s ⟨k2, w2, hm2, hk2, hw2, rfl⟩
        have hwl : w2.length ≤ 15 := by have := congrArg List.length hw2; rw [List.length_append] at this; omega
        by_cases hv : v ≤ k2
        · rw [romL_sub hv1 hv] at hw2
          have e1 : (k2 : Int) - v = ((k2 - v : Nat) : Int) := by omega
          repeat' (first | (refine A_drawL WideF.wide (.q 0 (.q 1 (.q 2 (.q 3 (.q 4 (.q 5 (.q 6 (.q 7 (.q 8 (.q 9 (.q 10 (.q 11 (.q 12 (.q 13 (.done []))))))))))))))) [] (by decide +kernel) ?_) | (refine O_ev WideF.wide rfl (Ev_loadH1 rfl (hcv 0 _ rfl)) rfl rfl ?_) | (refine D_ev rfl (Ev_loadH1 rfl (hcv 0 _ rfl)) rfl rfl ?_) | (refine D_ev rfl (Ev_loadH1 rfl (hct 0 _ rfl)) rfl rfl ?_) | (refine D_ev rfl (Ev_scat rfl rfl (by omega)) rfl rfl ?_) | refine O_nil ?_ | refine A_seq ?_ | refine A_region ?_ | refine A_skip ?_ | refine A_block ?_ | (show drJ _ _ _ _ _ _ _ (.q _ _) _; refine D_q rfl ?_) | (show drJ _ _ _ _ _ _ _ (.done _) _; refine D_done ?_; simp only [List.cons_append, List.nil_append]) | (show drQ _ _ _ _ _ _; first | refine D_ev rfl (Ev_pure rfl) rfl rfl ?_ | (show drQ _ _ _ ⟨_, .indexAddr _ _ _, _, _, _, _⟩ _ _; refine D_ev rfl (Ev_indexAddr rfl rfl (by omega) (by omega)) rfl rfl ?_) | (show drQ _ _ _ ⟨_, .binOp _ _ _ _ _, _, _, _, _⟩ _ _; refine D_ev rfl (Ev_sub rfl rfl (wi64 (by omega))) rfl rfl ?_)) | (show opsA _ _ _ _ _ _ _; first | refine O_ev WideF.wide rfl (Ev_pure rfl) rfl rfl ?_ | (show opsA _ _ _ _ (⟨_, .indexAddr _ _ _, _, _, _, _⟩ :: _) _ _; refine O_ev WideF.wide rfl (Ev_indexAddr rfl rfl (by omega) (by omega)) rfl rfl ?_)) | (show wpA _ _ _ (.cond _ _ _) _ _ _ _; (refine A_if rfl (fun h => ?_) (fun h => ?_) <;> try (exfalso; omega))))
          rw [e1]
          refine Shift.to ⟨_, ?_, k2 - v, _, rfl, by omega, ?_, rfl⟩ ⟨rfl, rfl, rfl, ⟨rfl, rfl, rfl, rfl, rfl, trivial⟩, Own.sub_nil _⟩
          · omega
          · rw [← hw2]; simp
        · rw [romL_low (by omega)] at hw2
          repeat' (first | (refine O_ev WideF.wide rfl (Ev_loadH1 rfl (hcv 0 _ rfl)) rfl rfl ?_) | refine O_nil ?_ | refine A_seq ?_ | refine A_region ?_ | (show opsA _ _ _ _ _ _ _; first | refine O_ev WideF.wide rfl (Ev_pure rfl) rfl rfl ?_ | (show opsA _ _ _ _ (⟨_, .indexAddr _ _ _, _, _, _, _⟩ :: _) _ _; refine O_ev WideF.wide rfl (Ev_indexAddr rfl rfl (by omega) (by omega)) rfl rfl ?_) | (show opsA _ _ _ _ (⟨_, .binOp _ _ _ _ _, _, _, _, _⟩ :: _) _ _; refine O_ev WideF.wide rfl (Ev_add rfl rfl (wi64 (by omega))) rfl rfl ?_)) | (show wpA _ _ _ (.exit _) _ _ _ _; refine A_exit rfl ?_) | (show wpA _ _ _ (.cond _ _ _) _ _ _ _; (refine A_if rfl (fun h => ?_) (fun h => ?_) <;> try (exfalso; omega))))
          refine Shift.to ⟨_, ?_, i + 1, k2, w2, _, _, rfl, by omega, hk2, rv, rt, hw2, rfl⟩ ⟨rfl, rfl, rfl, ⟨rfl, rfl, rfl, rfl, rfl, trivial⟩, Own.sub_nil _⟩
          omega
    · have : i = 13 := by omega
      subst this
      have : w = rom n := by rw [← hw]; simp [signL, romL]
      subst this
      repeat' (first | refine O_nil ?_ | refine A_seq ?_ | refine A_region ?_ | refine A_ret ?_ | (show opsA _ _ _ _ _ _ _; first | refine O_ev WideF.wide rfl (Ev_pure rfl) rfl rfl ?_ | (show opsA _ _ _ _ (⟨_, .call _, _, _, _, _⟩ :: _) _ _; refine O_ev WideF.wide rfl (Ev_llen rfl) rfl rfl ?_)) | (show wpA _ _ _ (.exit _) _ _ _ _; refine A_exit rfl ?_) | (show wpA _ _ _ (.cond _ _ _) _ _ _ _; (refine A_if rfl (fun h => ?_) (fun h => ?_) <;> try (exfalso; omega))))
      exact End_e (Ret1 rfl rfl) ⟨rfl, rfl⟩
/-! ### letters, Roman numerals, ordinals -/
theorem ofNat_lt {k : Nat} (h : k < 128) : (UInt8.ofNat k).toNat < 128 := by simp; omega
theorem ltr_ascii (n : Nat) : ∀ b ∈ ltr n, b.toNat < 128 := by
  induction n using Nat.strongRecOn with
  | _ n ih =>
    cases n with
    | zero => rw [ltr_zero]; intro b hb; cases hb
    | succ m =>
      rw [ltr_succ]
      intro b hb
      rcases List.mem_append.1 hb with hb | hb
      · exact ih _ (by omega) b hb
      · simp only [List.mem_singleton] at hb
        subst hb
        exact ofNat_lt (by omega)
theorem romL_ascii : ∀ (l : List (Nat × List UInt8)) (n : Nat), (∀ p ∈ l, ∀ b ∈ p.2, b.toNat < 128) → ∀ b ∈ romL l n, b.toNat < 128
  | [], _, _ => fun b hb => by cases hb
  | (v, t) :: r, n, h => by
    have hr : ∀ c, ∀ b ∈ repeatL t c, b.toNat < 128 := by
      intro c
      induction c with
      | zero => intro b hb; cases hb
      | succ c ih =>
        intro b hb
        rw [repeatL] at hb
        rcases List.mem_append.1 hb with hb | hb
        · exact h (v, t) (by simp) b hb
        · exact ih b hb
    intro b hb
    rw [romL] at hb
    rcases List.mem_append.1 hb with hb | hb
    · exact hr _ b hb
    · exact romL_ascii r _ (fun p hp => h p (List.mem_cons_of_mem _ hp)) b hb
theorem rom_ascii (n : Nat) : ∀ b ∈ rom n, b.toNat < 128 := romL_ascii _ _ (by decide)
set_option maxRecDepth 100000 in
set_option maxHeartbeats 2000000 in
theorem letters_fn (n : Nat) : ∀ (H : Hp), n ≤ 999999 → Fn Tryz.prog 110 [.int .i64 n] H [] fun v _ I => v = sv (ltr n) ∧ I = [] := by
  induction n using Nat.strongRecOn with
  | _ n ih =>
    intro H hn
    refine Fn_of _ _ Tryz.func110 rfl Tryz.ntmps110 rfl fun c => ?_
    by_cases h0 : 0 < n
    · have hr : ∀ Hx, Fn Tryz.prog 110 [.int .i64 (((n : Int) - 1) / 26)] Hx [] fun v _ I => v = sv (ltr ((n - 1) / 26)) ∧ I = [] := fun Hx => by
        have := ih ((n - 1) / 26) (by omega) Hx (by omega)
        rwa [show ((n : Int) - 1) / 26 = (((n - 1) / 26 : Nat) : Int) by omega]
      have hl := ltr_len ((n - 1) / 26) 5 (by omega)
      have e2 : (97 + ((n : Int) - 1) % 26).toNat = 97 + (n - 1) % 26 := by omega
      repeat' (first | (refine A_drawL WideF.wide (.q 0 (.q 1 (.q 2 (.q 4 (.q 5 (.q 6 (.q 7 (.q 8 (.f 3 (.e 9 (.e 10 (.q 11 (.q 12 (.done []))))) 9 (.f 3 (.e 10 (.q 11 (.q 12 (.done [])))) 10 (.e 3 (.q 11 (.q 12 (.done [])))))))))))))) [] (by decide +kernel) ?_) | (refine D_ev rfl (Ev_conv (k2 := .u8) rfl (wu8 (by omega))) rfl rfl ?_) | (refine E_ef rfl (Ef_ev WideF.wide (Ev_conv1 (i := 0) rfl rfl (by omega)) rfl rfl ?_); refine ⟨Grow.same rfl rfl, ?_⟩) | (refine E_ef rfl (Ef_call (I := []) WideF.wide (hr _) ⟨rfl, trivial⟩ rfl ?_); rintro v H1 I1 hle1 ⟨rfl, rfl⟩; refine ⟨⟨hle1, rfl⟩, ?_⟩) | (refine D_ev rfl (Ev_scat rfl rfl (by simp; omega)) rfl rfl ?_) | refine O_nil ?_ | refine A_seq ?_ | refine A_region ?_ | refine A_skip ?_ | refine A_ret ?_ | (show drJ _ _ _ _ _ _ _ (.q _ _) _; refine D_q rfl ?_) | (show drJ _ _ _ _ _ _ _ (.e _ _) _; refine D_e rfl ?_) | (show drJ _ _ _ _ _ _ _ (.f _ _ _ _) _; refine D_f rfl rfl ?_ ?_) | (show drJ _ _ _ _ _ _ _ (.done _) _; refine D_done ?_; simp only [List.cons_append, List.nil_append]) | (show drQ _ _ _ _ _ _; first | refine D_ev rfl (Ev_pure rfl) rfl rfl ?_ | (show drQ _ _ _ ⟨_, .binOp _ _ _ _ _, _, _, _, _⟩ _ _; first | refine D_ev rfl (Ev_add rfl rfl (wi64 (by omega))) rfl rfl ?_ | refine D_ev rfl (Ev_sub rfl rfl (wi64 (by omega))) rfl rfl ?_ | refine D_ev rfl (Ev_quop rfl rfl (by omega) (by omega)) rfl rfl ?_ | refine D_ev rfl (Ev_remp rfl rfl (by omega) (by omega)) rfl rfl ?_)) | (show drE _ _ _ _ _ _ _; (show drE _ _ _ _ ⟨_, .buildSlice _ _ _, _, _, _, _⟩ _ _; (refine E_ef rfl (Ef_build11 WideF.wide rfl rfl rfl ?_); intro b; refine ⟨Grow.same rfl rfl, ?_⟩))) | (show opsA _ _ _ _ _ _ _; refine O_ev WideF.wide rfl (Ev_pure rfl) rfl rfl ?_) | (show wpA _ _ _ (.cond _ _ _) _ _ _ _; (refine A_if rfl (fun h => ?_) (fun h => ?_) <;> try (exfalso; omega))))
      all_goals
        refine End_e (Ret1 rfl rfl) ⟨?_, rfl⟩
        rw [ltr_pos h0, e2]
    · repeat' (first | refine O_nil ?_ | refine A_seq ?_ | refine A_region ?_ | refine A_ret ?_ | (show opsA _ _ _ _ _ _ _; refine O_ev WideF.wide rfl (Ev_pure rfl) rfl rfl ?_) | (show wpA _ _ _ (.cond _ _ _) _ _ _ _; (refine A_if rfl (fun h => ?_) (fun h => ?_) <;> try (exfalso; omega))))
      refine End_e (Ret1 rfl rfl) ⟨?_, rfl⟩
      have : n = 0 := by omega
      subst this
      rw [ltr_zero]
/-- the table of signs -/
def signCells : List Value := signL.flatMap fun p => [.int .i64 p.1, sv p.2]
structure EnvH (H : Hp) : Prop where
  tabs : TabsH H
  signs : HCells H 0 0 signCells
theorem EnvH.mono {H H' : Hp} (h : EnvH H) (hl : HLe H H') : EnvH H' := ⟨h.tabs.mono hl, h.signs.mono hl⟩
theorem signCells_at {i : Nat} (hi : i < 13) : ∃ v t, signL.drop i = (v, t) :: signL.drop (i + 1) ∧ (signCells.drop (((i : Int)).toNat * 2)).take 2 = [.int .i64 (v : Int), sv t] ∧ 1 ≤ v ∧ v ≤ 1000 ∧ 1 ≤ t.length ∧ t.length ≤ 2 := by
  match i, hi with
  | 0, _ | 1, _ | 2, _ | 3, _ | 4, _ | 5, _ | 6, _ | 7, _ | 8, _ | 9, _ | 10, _ | 11, _ | 12, _ => exact ⟨_, _, rfl, rfl, by decide, by decide, by decide, by decide⟩
set_option maxRecDepth 100000 in
set_option maxHeartbeats 4000000 in
theorem roman_fn {H : Hp} (hE : EnvH H) {n : Nat} (hn : n ≤ 3999) : Fn Tryz.prog 113 [.int .i64 n] H [] fun v _ I => v = sv (rom n) ∧ I = [] := by
  have hlen := rom_len hn
  have hsg := hE.signs
  refine Fn_of _ _ Tryz.func113 rfl Tryz.ntmps113 rfl fun c => ?_
  repeat' (first | (refine O_ef rfl (Ef_allocO WideF.wide rfl ?_); intro b3) | refine O_nil ?_ | refine A_seq ?_ | refine A_region ?_ | refine A_block ?_ | (show opsA _ _ _ _ _ _ _; first | refine O_ev WideF.wide rfl (Ev_pure rfl) rfl rfl ?_ | (show opsA _ _ _ _ (⟨_, .load _ _, _, _, _, _⟩ :: _) _ _; refine O_ev WideF.wide rfl (Ev_loadH rfl (by assumption) (by rfl)) rfl rfl ?_)))
  refine A_loopu (fun m s => ∃ (i k : Nat) (w : List UInt8) (I : Own) (H1 : Hp), m = 13 - i ∧ i ≤ 13 ∧ k ≤ 3999 ∧ BldIs b3 w I ∧ w ++ romL (signL.drop i) k = rom n ∧ s = ⟨24, [(0, .int .i64 (k : Int)), (3, .pointer (some ⟨b3, 0, none⟩)), (6, .agg signCells.toArray), (7, .int .i64 i)], H1, I, [], []⟩) ?_ ?_
  · exact Shift.to ⟨_, 0, n, [], _, H, rfl, by omega, hn, BldIs.new b3, rfl, rfl⟩ ⟨rfl, rfl, rfl, ⟨rfl, rfl, rfl, rfl, trivial⟩, Own.subi [0] (by decide) rfl rfl⟩
  · rintro m s ⟨i, k, w, I, H1, hm, hi, hk, hI, hw, rfl⟩
    by_cases h13 : i < 13
    · obtain ⟨v, t, hd, hc, hv1, hv2, ht1, ht2⟩ := signCells_at h13
      rw [hd, romL] at hw
      have hdiv : (k : Int) / v = ((k / v : Nat) : Int) := by omega
      have hmod : (k : Int) % v = ((k % v : Nat) : Int) := by omega
      have hkv : k / v ≤ 3999 := Nat.le_trans (Nat.div_le_self _ _) hk
      have hkm : k % v ≤ 3999 := Nat.le_trans (Nat.mod_le _ _) hk
      have hwl := congrArg List.length hw
      rw [List.length_append, List.length_append] at hwl
      repeat' (first | (refine O_ev WideF.wide rfl (Ev_aindex rfl rfl (by omega) (by omega) hc) rfl rfl ?_) | refine O_nil ?_ | refine A_seq ?_ | refine A_region ?_ | refine A_skip ?_ | refine A_block ?_ | (show opsA _ _ _ _ _ _ _; first | refine O_ev WideF.wide rfl (Ev_pure rfl) rfl rfl ?_ | (show opsA _ _ _ _ (⟨_, .alloc _, _, _, _, _⟩ :: _) _ _; (refine O_ef rfl (Ef_alloc WideF.wide rfl ?_); intro b)) | (show opsA _ _ _ _ (⟨_, .store _ _ _, _, _, _, _⟩ :: _) _ _; refine O_ef rfl (Ef_storew WideF.wide rfl rfl rfl rfl rfl ?_))) | (show wpA _ _ _ (.cond _ _ _) _ _ _ _; (refine A_if rfl (fun h => ?_) (fun h => ?_) <;> try (exfalso; omega))))
      refine A_freezeBox (by intro u hu; simp at hu; rcases hu with rfl | rfl <;> rfl) ?_
      intro H2 hle2 hbx
      have hrep : FnP Tryz.prog 133 [sv t, .int .i64 ((k : Int) / v)] H2 (sv (repeatL t (k / v))) := by
        rw [hdiv]; exact Repeat_fn (by omega) (by omega)
      have hws := WriteString_fn H2 b3 w (repeatL t (k / v)) I hI (by omega)
      repeat' (first | (refine A_drawM WideF.wide (.q 0 (.q 1 (.q 2 (.q 3 (.q 4 (.q 5 (.r (.e 6 (.e 7 (.done [])))))))))) [6, 7] (by decide +kernel) ?_) | (show drJ _ _ _ _ _ _ _ (.r _) _; refine D_r ?_; rw [List.append_nil]) | (show drJ _ _ _ _ _ _ _ (.done _) _; refine D_done ?_; rw [List.append_nil]) | (refine D_ev rfl (Ev_loadH1 rfl (hbx 1 _ rfl)) rfl rfl ?_) | (refine D_ev rfl (Ev_loadH1 rfl (hbx 0 _ rfl)) rfl rfl ?_) | (refine O_ev WideF.wide rfl (Ev_loadH1 rfl (hbx 0 _ rfl)) rfl rfl ?_) | (refine D_ev rfl (Ev_quop rfl rfl (by omega) (by omega)) rfl rfl ?_) | (refine E_ef rfl (Ef_callp WideF.wide hrep ⟨rfl, rfl, trivial⟩ rfl ?_); refine ⟨Grow.same rfl rfl, ?_⟩) | (refine E_ef rfl (Ef_call0 WideF.wide hws ⟨rfl, rfl, trivial⟩ rfl ?_); rintro u H3 I3 hle3 ⟨rfl, hI3⟩; refine ⟨⟨hle3, rfl⟩, ?_⟩) | refine O_nil ?_ | refine A_region ?_ | (show drJ _ _ _ _ _ _ _ (.q _ _) _; refine D_q rfl ?_) | (show drJ _ _ _ _ _ _ _ (.e _ _) _; refine D_e rfl ?_) | (show drQ _ _ _ _ _ _; first | refine D_ev rfl (Ev_pure rfl) rfl rfl ?_ | (show drQ _ _ _ ⟨_, .fieldAddr _ _ _, _, _, _, _⟩ _ _; refine D_ev rfl (Ev_fieldAddr rfl rfl rfl) rfl rfl ?_)) | (show opsA _ _ _ _ _ _ _; first | refine O_ev WideF.wide rfl (Ev_pure rfl) rfl rfl ?_ | (show opsA _ _ _ _ (⟨_, .fieldAddr _ _ _, _, _, _, _⟩ :: _) _ _; refine O_ev WideF.wide rfl (Ev_fieldAddr rfl rfl rfl) rfl rfl ?_) | (show opsA _ _ _ _ (⟨_, .binOp _ _ _ _ _, _, _, _, _⟩ :: _) _ _; first | refine O_ev WideF.wide rfl (Ev_add rfl rfl (wi64 (by omega))) rfl rfl ?_ | refine O_ev WideF.wide rfl (Ev_remp rfl rfl (by omega) (by omega)) rfl rfl ?_)))
      rw [hmod]
      refine Shift.to ⟨_, ?_, i + 1, k % v, _, I3, _, rfl, by omega, hkm, hI3, ?_, rfl⟩ ⟨rfl, rfl, rfl, ⟨rfl, rfl, rfl, rfl, trivial⟩, Own.sub_refl _⟩
      · omega
      · rw [← hw]; simp
    · have : i = 13 := by omega
      subst this
      have : w = rom n := by rw [← hw]; simp [signL, romL]
      subst this
      have hst := String_fn H1 b3 (rom n) I hI (by omega)
      repeat' (first | (refine O_ef rfl (Ef_call0 WideF.wide hst ⟨rfl, trivial⟩ rfl ?_); rintro u H3 I3 hle3 ⟨rfl, rfl, rfl⟩) | refine O_nil ?_ | refine A_seq ?_ | refine A_region ?_ | refine A_ret ?_ | (show opsA _ _ _ _ _ _ _; refine O_ev WideF.wide rfl (Ev_pure rfl) rfl rfl ?_) | (show wpA _ _ _ (.exit _) _ _ _ _; refine A_exit rfl ?_) | (show wpA _ _ _ (.cond _ _ _) _ _ _ _; (refine A_if rfl (fun h => ?_) (fun h => ?_) <;> try (exfalso; omega))))
      exact End_e (Ret1 rfl rfl) ⟨rfl, rfl⟩
end Go.Proofs.YtaneeaojlkenmaaGreatDoor
