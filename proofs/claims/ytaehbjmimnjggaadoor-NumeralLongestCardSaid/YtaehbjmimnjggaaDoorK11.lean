/-
  The example, and the laws that compare results: NumeralFormats, NumeralParses, NumeralInverse, NumeralNexts.
-/
import Derived.Test.YtaehbjmimnjggaaDoorK10
namespace Go.Proofs.YtaehbjmimnjggaaDoor
open Go Go.Lib
set_option linter.unusedVariables false
set_option linter.unusedSimpArgs false
section
variable {P : Program} {e : Env} {H : Hp} {R : Own} {dst : Option Tmp} {ty : TypeId} {pos : String} {after : Array Edge} {g : Option (Nat × Bool)} {x y : Operand} {t t2 : TypeId}
theorem Ev_eqis {k : IntKind} {v : Int} (hx : e.eval x = some (.int k v)) (hy : e.eval y = some (.int k v)) : Ev P ⟨dst, .binOp .eql t x y t2, ty, pos, after, g⟩ e H R (.bool true) := by
  have h := Ev_eql (P := P) (H := H) (R := R) (dst := dst) (ty := ty) (pos := pos) (after := after) (g := g) (t := t) (t2 := t2) hx hy
  rwa [decide_eq_true rfl] at h
theorem Ev_neis {k : IntKind} {v : Int} (hx : e.eval x = some (.int k v)) (hy : e.eval y = some (.int k v)) : Ev P ⟨dst, .binOp .neq t x y t2, ty, pos, after, g⟩ e H R (.bool false) := by
  have h := Ev_neq (P := P) (H := H) (R := R) (dst := dst) (ty := ty) (pos := pos) (after := after) (g := g) (t := t) (t2 := t2) hx hy
  rwa [decide_eq_false (by simp)] at h
theorem Ev_seqs {s : List UInt8} (hx : e.eval x = some (sv s)) (hy : e.eval y = some (sv s)) : Ev P ⟨dst, .binOp .eql t x y t2, ty, pos, after, g⟩ e H R (.bool true) := by
  have h := Ev_seql (P := P) (H := H) (R := R) (dst := dst) (ty := ty) (pos := pos) (after := after) (g := g) (t := t) (t2 := t2) hx hy
  rwa [decide_eq_true rfl] at h
theorem Ev_snes {s : List UInt8} (hx : e.eval x = some (sv s)) (hy : e.eval y = some (sv s)) : Ev P ⟨dst, .binOp .neq t x y t2, ty, pos, after, g⟩ e H R (.bool false) := by
  have h := Ev_sneq (P := P) (H := H) (R := R) (dst := dst) (ty := ty) (pos := pos) (after := after) (g := g) (t := t) (t2 := t2) hx hy
  rwa [decide_eq_false (by simp)] at h
theorem Ev_mini {k1 : IntKind} {m1 m2 : Int} {ats : Array TypeId} (hx : e.eval x = some (.int k1 m1)) (hy : e.eval y = some (.int k1 m2)) : Ev P ⟨dst, .call { callee := .builtin .min, args := #[x, y], argTypes := ats }, ty, pos, after, g⟩ e H R (.int k1 (if m2 < m1 then m2 else m1)) := fun a w he _ _ => by
  have h1 := run_min_int2 (P := P) w ats ty k1 k1 m1 m2
  simp [execOp, resolve, invoke, builtin, he.eval hx, he.eval hy, h1]
end
attribute [local irreducible] wpA opsA drJ drQ drE Ef Ev Shift Fn
theorem ex1 : fmtE 4 1994 = ([109, 99, 109, 120, 99, 105, 118], 0) := by decide +kernel
theorem ltr703 : upper (ltr 703) = [65, 65, 65] := by
  rw [show (703 : Nat) = 702 + 1 from rfl, ltr_succ, show 702 / 26 = 26 + 1 from rfl, ltr_succ, show 26 / 26 = 0 + 1 from rfl, ltr_succ, show 0 / 26 = 0 from rfl, ltr_zero]
  decide
theorem ex2 : parseE 3 [65, 65, 65] = (703, 0) := by
  refine parse_hit (by decide) (by decide) (by decide) ?_
  refine fmtE_ok.2 ⟨by decide, ?_⟩
  show [65, 65, 65] = upper (ltr 703)
  rw [ltr703]
set_option maxRecDepth 100000 in
theorem known_fn {H : Hp} (hE : EnvH H) : Fn Tryd.prog 16 [] H [] fun v _ I => v = .bool true ∧ I = [] := by
  have h1 := Format_fn hE 4 1994
  unfold fmtV at h1
  rw [ex1] at h1
  have h2 := fun Hx (hx : HLe H Hx) => Parse_fn (hE.mono hx) 3 (s := [65, 65, 65]) (by decide)
  unfold parseV at h2
  rw [ex2] at h2
  refine Fn_of _ _ Tryd.func16 rfl Tryd.ntmps16 rfl fun c => ?_
  repeat' (first | (refine O_ef rfl (Ef_call (I := []) WideF.wide h1 ⟨rfl, rfl, trivial⟩ rfl ?_); rintro v H1 I1 hle1 ⟨rfl, rfl⟩) | (refine O_ef rfl (Ef_call (I := []) WideF.wide (h2 _ hle1) ⟨rfl, rfl, trivial⟩ rfl ?_); rintro v H2 I2 hle2 ⟨rfl, rfl⟩) | (refine O_ev WideF.wide rfl (Ev_seqs rfl rfl) rfl rfl ?_) | (refine O_ev WideF.wide rfl (Ev_eqis rfl rfl) rfl rfl ?_) | refine O_nil ?_ | refine A_seq ?_ | refine A_region ?_ | refine A_ret ?_ | (show opsA _ _ _ _ _ _ _; refine O_ev WideF.wide rfl (Ev_pure rfl) rfl rfl ?_))
  exact End_e (Ret1 rfl rfl) ⟨rfl, rfl⟩
set_option maxRecDepth 100000 in
theorem cut_fn {H : Hp} {s : List UInt8} : FnP Tryd.prog 17 [sv s] H (sv (s.take 40)) := by
  refine Fn_of _ _ Tryd.func17 rfl Tryd.ntmps17 rfl fun c => ?_
  by_cases h : 40 < s.length
  · have e1 : (if (40 : Int) < (s.length : Int) then (40 : Int) else (s.length : Int)) = 40 := if_pos (by omega)
    repeat' (first | (refine O_ev WideF.wide rfl (Ev_mini rfl rfl) rfl rfl ?_; rw [e1]) | (refine O_ev WideF.wide rfl (Ev_ssliceh rfl rfl (by omega) (by omega)) rfl rfl ?_) | refine O_nil ?_ | refine A_seq ?_ | refine A_region ?_ | refine A_ret ?_ | (show opsA _ _ _ _ _ _ _; first | refine O_ev WideF.wide rfl (Ev_pure rfl) rfl rfl ?_ | (show opsA _ _ _ _ (⟨_, .call _, _, _, _, _⟩ :: _) _ _; refine O_ev WideF.wide rfl (Ev_slen rfl) rfl rfl ?_)))
    exact End_p (Ret1 rfl rfl) rfl
  · have e1 : (if (40 : Int) < (s.length : Int) then (40 : Int) else (s.length : Int)) = s.length := if_neg (by omega)
    repeat' (first | (refine O_ev WideF.wide rfl (Ev_mini rfl rfl) rfl rfl ?_; rw [e1]) | (refine O_ev WideF.wide rfl (Ev_ssliceh rfl rfl (by omega) (by omega)) rfl rfl ?_) | refine O_nil ?_ | refine A_seq ?_ | refine A_region ?_ | refine A_ret ?_ | (show opsA _ _ _ _ _ _ _; first | refine O_ev WideF.wide rfl (Ev_pure rfl) rfl rfl ?_ | (show opsA _ _ _ _ (⟨_, .call _, _, _, _, _⟩ :: _) _ _; refine O_ev WideF.wide rfl (Ev_slen rfl) rfl rfl ?_)))
    refine End_p (Ret1 rfl rfl) ?_
    rw [List.take_of_length_le (l := s) (i := 40) (by omega)]
    simp
theorem cut_len (s : List UInt8) : (s.take 40).length ≤ 1000 := by rw [List.length_take]; omega
set_option maxRecDepth 100000 in
set_option maxHeartbeats 2000000 in
theorem NumeralFormats_fn {H : Hp} (hE : EnvH H) (f n : Int) : Fn Tryd.prog 3 [.int .i64 f, .int .i64 n] H [] fun v _ I => v = .bool true ∧ I = [] := by
  have h1 := Range_fn (H := H) (f := f)
  have h2 := rRange_fn (H := H) (f := f)
  have h3 := Format_fn hE f n
  have h4 := fun Hx => rFormat_fn (H := Hx) f n
  have hk := fun Hx (hx : HLe H Hx) => known_fn (hE.mono hx)
  unfold rangeV at h1
  unfold rangeR at h2
  unfold fmtV at h3 h4
  by_cases hok : okF f
  · rw [if_pos hok, if_pos hok, if_pos hok] at h1
    rw [if_pos hok, if_pos hok, decide_eq_true hok] at h2
    refine Fn_of _ _ Tryd.func3 rfl Tryd.ntmps3 rfl fun c => ?_
    repeat' (first | (refine O_ef rfl (Ef_callp WideF.wide h1 ⟨rfl, trivial⟩ rfl ?_)) | (refine O_ef rfl (Ef_callp WideF.wide h2 ⟨rfl, trivial⟩ rfl ?_)) | (refine O_ef rfl (Ef_call (I := []) WideF.wide h3 ⟨rfl, rfl, trivial⟩ rfl ?_); rintro v H1 I1 hle1 ⟨rfl, rfl⟩) | (refine O_ef rfl (Ef_call (I := []) WideF.wide (h4 _) ⟨rfl, rfl, trivial⟩ rfl ?_); rintro v H2 I2 hle2 ⟨rfl, rfl⟩) | (refine O_ef rfl (Ef_call (I := []) WideF.wide (hk _ (hle1.trans hle2)) trivial rfl ?_); rintro v H3 I3 hle3 ⟨rfl, rfl⟩) | (refine O_ev WideF.wide rfl (Ev_snes rfl rfl) rfl rfl ?_) | (refine O_ev WideF.wide rfl (Ev_neis rfl rfl) rfl rfl ?_) | (refine O_ev WideF.wide rfl (Ev_eqis rfl rfl) rfl rfl ?_) | refine O_nil ?_ | refine A_seq ?_ | refine A_region ?_ | refine A_skip ?_ | refine A_ret ?_ | (show opsA _ _ _ _ _ _ _; first | refine O_ev WideF.wide rfl (Ev_pure rfl) rfl rfl ?_ | (show opsA _ _ _ _ (⟨_, .unOp _ _ _, _, _, _, _⟩ :: _) _ _; refine O_ev WideF.wide rfl (Ev_notb rfl) rfl rfl ?_) | refine O_skip WideF.wide rfl rfl rfl ?_) | (show wpA _ _ _ (.cond _ _ _) _ _ _ _; refine A_iffalse rfl ?_))
    all_goals exact End_e (Ret1 rfl rfl) ⟨rfl, rfl⟩
  · rw [if_neg hok, if_neg hok, if_neg hok] at h1
    rw [if_neg hok, if_neg hok, decide_eq_false hok] at h2
    refine Fn_of _ _ Tryd.func3 rfl Tryd.ntmps3 rfl fun c => ?_
    repeat' (first | (refine O_ef rfl (Ef_callp WideF.wide h1 ⟨rfl, trivial⟩ rfl ?_)) | (refine O_ef rfl (Ef_callp WideF.wide h2 ⟨rfl, trivial⟩ rfl ?_)) | (refine O_ef rfl (Ef_call (I := []) WideF.wide h3 ⟨rfl, rfl, trivial⟩ rfl ?_); rintro v H1 I1 hle1 ⟨rfl, rfl⟩) | (refine O_ef rfl (Ef_call (I := []) WideF.wide (h4 _) ⟨rfl, rfl, trivial⟩ rfl ?_); rintro v H2 I2 hle2 ⟨rfl, rfl⟩) | (refine O_ef rfl (Ef_call (I := []) WideF.wide (hk _ (hle1.trans hle2)) trivial rfl ?_); rintro v H3 I3 hle3 ⟨rfl, rfl⟩) | (refine O_ev WideF.wide rfl (Ev_snes rfl rfl) rfl rfl ?_) | (refine O_ev WideF.wide rfl (Ev_neis rfl rfl) rfl rfl ?_) | (refine O_ev WideF.wide rfl (Ev_eqis rfl rfl) rfl rfl ?_) | refine O_nil ?_ | refine A_seq ?_ | refine A_region ?_ | refine A_skip ?_ | refine A_ret ?_ | (show opsA _ _ _ _ _ _ _; first | refine O_ev WideF.wide rfl (Ev_pure rfl) rfl rfl ?_ | (show opsA _ _ _ _ (⟨_, .unOp _ _ _, _, _, _, _⟩ :: _) _ _; refine O_ev WideF.wide rfl (Ev_notb rfl) rfl rfl ?_) | refine O_skip WideF.wide rfl rfl rfl ?_) | (show wpA _ _ _ (.cond _ _ _) _ _ _ _; refine A_iffalse rfl ?_))
    all_goals exact End_e (Ret1 rfl rfl) ⟨rfl, rfl⟩
set_option maxRecDepth 100000 in
set_option maxHeartbeats 2000000 in
theorem NumeralParses_fn {H : Hp} (hE : EnvH H) (f : Int) (s : List UInt8) : Fn Tryd.prog 4 [.int .i64 f, sv s] H [] fun v _ I => v = .bool true ∧ I = [] := by
  have hc := cut_fn (H := H) (s := s)
  have h3 := Parse_fn hE f (cut_len s)
  have h4 := fun Hx => rParse_fn (H := Hx) f (cut_len s)
  have hk := fun Hx (hx : HLe H Hx) => known_fn (hE.mono hx)
  unfold parseV at h3 h4
  refine Fn_of _ _ Tryd.func4 rfl Tryd.ntmps4 rfl fun c => ?_
  repeat' (first | (refine O_ef rfl (Ef_callp WideF.wide hc ⟨rfl, trivial⟩ rfl ?_)) | (refine O_ef rfl (Ef_call (I := []) WideF.wide h3 ⟨rfl, rfl, trivial⟩ rfl ?_); rintro v H1 I1 hle1 ⟨rfl, rfl⟩) | (refine O_ef rfl (Ef_call (I := []) WideF.wide (h4 _) ⟨rfl, rfl, trivial⟩ rfl ?_); rintro v H2 I2 hle2 ⟨rfl, rfl⟩) | (refine O_ef rfl (Ef_call (I := []) WideF.wide (hk _ (hle1.trans hle2)) trivial rfl ?_); rintro v H3 I3 hle3 ⟨rfl, rfl⟩) | (refine O_ev WideF.wide rfl (Ev_eqis rfl rfl) rfl rfl ?_) | refine O_nil ?_ | refine A_seq ?_ | refine A_region ?_ | refine A_ret ?_ | (show opsA _ _ _ _ _ _ _; refine O_ev WideF.wide rfl (Ev_pure rfl) rfl rfl ?_))
  all_goals exact End_e (Ret1 rfl rfl) ⟨rfl, rfl⟩
theorem text_some {f : Int} {m : Nat} (h : inF f m) : textF f m ≠ [] := by
  have hl : 0 < (textF f m).length := by
    obtain ⟨hok, h1, h2⟩ := h
    have hd := dec_pos m
    rcases okF_cases hok with rfl | rfl | rfl | rfl | rfl | rfl | rfl
    · exact hd
    · have h1 : (1 : Int) ≤ m := h1
      exact ltr_some (by omega)
    · have h1 : (1 : Int) ≤ m := h1
      show 0 < (upper (ltr m)).length
      simp only [upper, List.length_map]
      exact ltr_some (by omega)
    · have h1 : (1 : Int) ≤ m := h1
      have h2 : (m : Int) ≤ 3999 := h2
      have := (vrS_rom ⟨m, by omega⟩).1
      cases he : rom m with
      | nil => simp only at this; rw [he] at this; simp [vrS] at this; omega
      | cons a r => show 0 < (rom m).length; rw [he]; simp
    · have h1 : (1 : Int) ≤ m := h1
      have h2 : (m : Int) ≤ 3999 := h2
      have := (vrS_rom ⟨m, by omega⟩).1
      show 0 < (upper (rom m)).length
      cases he : rom m with
      | nil => simp only at this; rw [he] at this; simp [vrS] at this; omega
      | cons a r => simp [upper]
    · show 0 < (decDigits m ++ ending m).length
      rw [List.length_append]; omega
    · show 0 < [226, 128, 162].length
      simp
  intro he
  rw [he] at hl
  simp at hl
theorem text_len {f : Int} {m : Nat} (h : inF f m) : (textF f m).length ≤ 15 := by
  have hb := inF_nat h
  obtain ⟨hok, h1, h2⟩ := h
  have hd := dec_len m 5 (by omega)
  have hl := ltr_len m 5 (by omega)
  rcases okF_cases hok with rfl | rfl | rfl | rfl | rfl | rfl | rfl
  · show (decDigits m).length ≤ 15; omega
  · show (ltr m).length ≤ 15; omega
  · show (upper (ltr m)).length ≤ 15; simp only [upper, List.length_map]; omega
  · have h2 : (m : Int) ≤ 3999 := h2
    exact rom_len (by omega)
  · have h2 : (m : Int) ≤ 3999 := h2
    have := rom_len (n := m) (by omega)
    show (upper (rom m)).length ≤ 15; simp only [upper, List.length_map]; omega
  · show (decDigits m ++ ending m).length ≤ 15
    rw [List.length_append, ending_len]; omega
  · show [226, 128, 162].length ≤ 15
    simp
set_option maxRecDepth 100000 in
set_option maxHeartbeats 2000000 in
theorem NumeralInverse_fn {H : Hp} (hE : EnvH H) (f n : Int) : Fn Tryd.prog 5 [.int .i64 f, .int .i64 n] H [] fun v _ I => v = .bool true ∧ I = [] := by
  have h3 := Format_fn hE f n
  have hk := fun Hx (hx : HLe H Hx) => known_fn (hE.mono hx)
  unfold fmtV at h3
  by_cases hin : inF f n ∧ f ≠ 7
  · have hb := inF_nat hin.1
    obtain ⟨N, rfl⟩ : ∃ N : Nat, n = N := ⟨n.toNat, by omega⟩
    have hf := fmtE_in hin.1.1 hin.1.2
    have hs := text_some hin.1
    have hl := text_len hin.1
    have h4 := fun Hx (hx : HLe H Hx) => Parse_fn (hE.mono hx) f (s := textF f N) (by omega)
    unfold parseV at h4
    rw [parse_hit hin.1.1 hin.2 hs hf] at h4
    rw [hf] at h3
    have hpos : 0 < (textF f N).length := List.length_pos_iff.2 hs
    have h7 := hin.2
    generalize textF f N = s at *
    refine Fn_of _ _ Tryd.func5 rfl Tryd.ntmps5 rfl fun c => ?_
    repeat' (first | (refine O_ef rfl (Ef_call (I := []) WideF.wide h3 ⟨rfl, rfl, trivial⟩ rfl ?_); rintro v H1 I1 hle1 ⟨rfl, rfl⟩) | (refine O_ef rfl (Ef_call (I := []) WideF.wide (hk _ hle1) trivial rfl ?_); rintro v H2 I2 hle2 ⟨rfl, rfl⟩) | (refine O_ef rfl (Ef_call (I := []) WideF.wide (h4 _ (hle1.trans hle2)) ⟨rfl, rfl, trivial⟩ rfl ?_); rintro v H3 I3 hle3 ⟨rfl, rfl⟩) | (refine O_ev WideF.wide rfl (Ev_eqis rfl rfl) rfl rfl ?_) | refine O_nil ?_ | refine A_seq ?_ | refine A_region ?_ | refine A_skip ?_ | refine A_ret ?_ | (show opsA _ _ _ _ _ _ _; first | (refine O_split rfl rfl (fun h => ?_) (fun h => ?_) <;> try (exfalso; omega)) | refine O_ev WideF.wide rfl (Ev_pure rfl) rfl rfl ?_ | (show opsA _ _ _ _ (⟨_, .call _, _, _, _, _⟩ :: _) _ _; refine O_ev WideF.wide rfl (Ev_slen rfl) rfl rfl ?_) | (show opsA _ _ _ _ (⟨_, .unOp _ _ _, _, _, _, _⟩ :: _) _ _; refine O_ev WideF.wide rfl (Ev_notb rfl) rfl rfl ?_)) | (show wpA _ _ _ (.cond _ _ _) _ _ _ _; (refine A_if rfl (fun h => ?_) (fun h => ?_) <;> try (exfalso; omega))))
    all_goals first
      | (exfalso; omega)
      | (refine End_e (Ret1 rfl rfl) ⟨?_, rfl⟩
         first
           | rfl
           | (simp; exact hpos))
  · have hne : (fmtE f n).2 ≠ 0 ∨ f = 7 := by
      by_cases h7 : f = 7
      · exact .inr h7
      · left
        intro h0
        apply hin
        refine ⟨?_, h7⟩
        exact (fmtE_ok (s := (fmtE f n).1).1 (Prod.ext rfl h0)).1
    refine Fn_of _ _ Tryd.func5 rfl Tryd.ntmps5 rfl fun c => ?_
    repeat' (first | (refine O_ef rfl (Ef_call (I := []) WideF.wide h3 ⟨rfl, rfl, trivial⟩ rfl ?_); rintro v H1 I1 hle1 ⟨rfl, rfl⟩) | (refine O_ef rfl (Ef_call (I := []) WideF.wide (hk _ hle1) trivial rfl ?_); rintro v H2 I2 hle2 ⟨rfl, rfl⟩) | (refine O_ef rfl (Ef_call (I := []) WideF.wide (hk _ (hle1.trans hle2)) trivial rfl ?_); rintro v H3 I3 hle3 ⟨rfl, rfl⟩) | refine O_nil ?_ | refine A_seq ?_ | refine A_region ?_ | refine A_ret ?_ | (show opsA _ _ _ _ _ _ _; first | (refine O_split rfl rfl (fun h => ?_) (fun h => ?_) <;> try (exfalso; omega)) | refine O_ev WideF.wide rfl (Ev_pure rfl) rfl rfl ?_ | (show opsA _ _ _ _ (⟨_, .unOp _ _ _, _, _, _, _⟩ :: _) _ _; refine O_ev WideF.wide rfl (Ev_notb rfl) rfl rfl ?_) | refine O_skip WideF.wide rfl rfl rfl ?_) | (show wpA _ _ _ (.cond _ _ _) _ _ _ _; first | (refine A_if rfl (fun h => ?_) (fun h => ?_) <;> try (exfalso; omega)) | refine A_iftrue rfl ?_))
    all_goals first
      | (exfalso; omega)
      | exact End_e (Ret1 rfl rfl) ⟨rfl, rfl⟩
theorem parseE_lo (f : Int) (s : List UInt8) : 0 ≤ (parseE f s).1 ∧ (parseE f s).1 ≤ 999999 := by
  unfold parseE
  split
  · exact ⟨by show (0 : Int) ≤ 0; omega, by show (0 : Int) ≤ 999999; omega⟩
  split
  · exact ⟨by show (0 : Int) ≤ 0; omega, by show (0 : Int) ≤ 999999; omega⟩
  split
  · rename_i h
    exact inF_nat (fmtE_ok.1 h.choose_spec).1
  · exact ⟨by show (0 : Int) ≤ 0; omega, by show (0 : Int) ≤ 999999; omega⟩
def nextV (f n e : Int) : Value := if e = 0 then fmtV f n else .tuple [sv [], .int .i64 e].toArray
set_option maxRecDepth 100000 in
set_option maxHeartbeats 1000000 in
theorem Next_fn {H : Hp} (hE : EnvH H) (f : Int) {s : List UInt8} (hs : s.length ≤ 1000) : Fn Tryd.prog 21 [.int .i64 f, sv s] H [] fun v _ I => v = nextV f ((parseE f s).1 + 1) (parseE f s).2 ∧ I = [] := by
  have h3 := Parse_fn hE f hs
  have h4 := fun Hx (hx : HLe H Hx) n => Format_fn (hE.mono hx) f n
  have hb := parseE_lo f s
  unfold parseV at h3
  unfold fmtV at h4
  unfold nextV fmtV
  generalize (parseE f s).1 = n at *
  generalize (parseE f s).2 = er at *
  refine Fn_of _ _ Tryd.func21 rfl Tryd.ntmps21 rfl fun c => ?_
  repeat' (first | (refine O_ef rfl (Ef_call (I := []) WideF.wide h3 ⟨rfl, rfl, trivial⟩ rfl ?_); rintro v H1 I1 hle1 ⟨rfl, rfl⟩) | (refine O_ef rfl (Ef_call (I := []) WideF.wide (h4 _ hle1 _) ⟨rfl, rfl, trivial⟩ rfl ?_); rintro v H2 I2 hle2 ⟨rfl, rfl⟩) | refine O_nil ?_ | refine A_seq ?_ | refine A_region ?_ | refine A_skip ?_ | refine A_ret ?_ | (show opsA _ _ _ _ _ _ _; first | refine O_ev WideF.wide rfl (Ev_pure rfl) rfl rfl ?_ | (show opsA _ _ _ _ (⟨_, .binOp _ _ _ _ _, _, _, _, _⟩ :: _) _ _; refine O_ev WideF.wide rfl (Ev_add rfl rfl (wi64 (by omega))) rfl rfl ?_)) | (show wpA _ _ _ (.cond _ _ _) _ _ _ _; (refine A_if rfl (fun h => ?_) (fun h => ?_) <;> try (exfalso; omega))))
  · refine End_e (Ret2 rfl rfl rfl) ⟨?_, rfl⟩
    rw [if_neg (by assumption)]
  · refine End_e (Ret2 rfl rfl rfl) ⟨?_, rfl⟩
    rw [if_pos (by omega)]
set_option maxRecDepth 100000 in
set_option maxHeartbeats 1000000 in
theorem Convert_fn {H : Hp} (hE : EnvH H) (f t : Int) {s : List UInt8} (hs : s.length ≤ 1000) : Fn Tryd.prog 22 [.int .i64 f, .int .i64 t, sv s] H [] fun v _ I => v = nextV t (parseE f s).1 (parseE f s).2 ∧ I = [] := by
  have h3 := Parse_fn hE f hs
  have h4 := fun Hx (hx : HLe H Hx) n => Format_fn (hE.mono hx) t n
  have hb := parseE_lo f s
  unfold parseV at h3
  unfold fmtV at h4
  unfold nextV fmtV
  generalize (parseE f s).1 = n at *
  generalize (parseE f s).2 = er at *
  refine Fn_of _ _ Tryd.func22 rfl Tryd.ntmps22 rfl fun c => ?_
  repeat' (first | (refine O_ef rfl (Ef_call (I := []) WideF.wide h3 ⟨rfl, rfl, trivial⟩ rfl ?_); rintro v H1 I1 hle1 ⟨rfl, rfl⟩) | (refine O_ef rfl (Ef_call (I := []) WideF.wide (h4 _ hle1 _) ⟨rfl, rfl, trivial⟩ rfl ?_); rintro v H2 I2 hle2 ⟨rfl, rfl⟩) | refine O_nil ?_ | refine A_seq ?_ | refine A_region ?_ | refine A_skip ?_ | refine A_ret ?_ | (show opsA _ _ _ _ _ _ _; refine O_ev WideF.wide rfl (Ev_pure rfl) rfl rfl ?_) | (show wpA _ _ _ (.cond _ _ _) _ _ _ _; (refine A_if rfl (fun h => ?_) (fun h => ?_) <;> try (exfalso; omega))))
  · refine End_e (Ret2 rfl rfl rfl) ⟨?_, rfl⟩
    rw [if_neg (by assumption)]
  · refine End_e (Ret2 rfl rfl rfl) ⟨?_, rfl⟩
    rw [if_pos (by omega)]
set_option maxRecDepth 100000 in
set_option maxHeartbeats 4000000 in
theorem NumeralNexts_fn {H : Hp} (hE : EnvH H) (f t : Int) (s : List UInt8) : Fn Tryd.prog 10 [.int .i64 f, .int .i64 t, sv s] H [] fun v _ I => v = .bool true ∧ I = [] := by
  have hc := cut_fn (H := H) (s := s)
  have h3 := Next_fn hE f (cut_len s)
  have h4 := fun Hx (hx : HLe H Hx) => Convert_fn (hE.mono hx) f t (cut_len s)
  have h5 := fun Hx => rParse_fn (H := Hx) f (cut_len s)
  have h6 := fun Hx n => rFormat_fn (H := Hx) f n
  have h7 := fun Hx n => rFormat_fn (H := Hx) t n
  have hk := fun Hx (hx : HLe H Hx) => known_fn (hE.mono hx)
  have hb := parseE_lo f (s.take 40)
  unfold parseV at h5
  unfold nextV at h3 h4
  unfold fmtV at h6 h7 h3 h4
  generalize (parseE f (s.take 40)).1 = n at *
  by_cases her : (parseE f (s.take 40)).2 = 0
  · rw [her] at h5
    simp only [her, if_true] at h3 h4
    refine Fn_of _ _ Tryd.func10 rfl Tryd.ntmps10 rfl fun c => ?_
    repeat' (first | (refine O_ef rfl (Ef_callp WideF.wide hc ⟨rfl, trivial⟩ rfl ?_)) | (refine O_ef rfl (Ef_call (I := []) WideF.wide h3 ⟨rfl, rfl, trivial⟩ rfl ?_); rintro v H1 I1 hle1 ⟨rfl, rfl⟩) | (refine O_ef rfl (Ef_call (I := []) WideF.wide (h4 _ hle1) ⟨rfl, rfl, rfl, trivial⟩ rfl ?_); rintro v H2 I2 hle2 ⟨rfl, rfl⟩) | (refine O_ef rfl (Ef_call (I := []) WideF.wide (h5 _) ⟨rfl, rfl, trivial⟩ rfl ?_); rintro v H3 I3 hle3 ⟨rfl, rfl⟩) | (refine O_ef rfl (Ef_call (I := []) WideF.wide (hk _ (hle1.trans (hle2.trans hle3))) trivial rfl ?_); rintro v H4 I4 hle4 ⟨rfl, rfl⟩) | (refine O_ef rfl (Ef_call (I := []) WideF.wide (h6 _ (n + 1)) ⟨rfl, rfl, trivial⟩ rfl ?_); rintro v H5 I5 hle5 ⟨rfl, rfl⟩) | (refine O_ef rfl (Ef_call (I := []) WideF.wide (h7 _ n) ⟨rfl, rfl, trivial⟩ rfl ?_); rintro v H6 I6 hle6 ⟨rfl, rfl⟩) | (refine O_ev WideF.wide rfl (Ev_eqis rfl rfl) rfl rfl ?_) | (refine O_ev WideF.wide rfl (Ev_seqs rfl rfl) rfl rfl ?_) | refine O_nil ?_ | refine A_seq ?_ | refine A_region ?_ | refine A_skip ?_ | refine A_ret ?_ | (show opsA _ _ _ _ _ _ _; first | refine O_ev WideF.wide rfl (Ev_pure rfl) rfl rfl ?_ | (show opsA _ _ _ _ (⟨_, .binOp _ _ _ _ _, _, _, _, _⟩ :: _) _ _; refine O_ev WideF.wide rfl (Ev_add rfl rfl (wi64 (by omega))) rfl rfl ?_) | (show opsA _ _ _ _ (⟨_, .unOp _ _ _, _, _, _, _⟩ :: _) _ _; refine O_ev WideF.wide rfl (Ev_notb rfl) rfl rfl ?_)) | (show wpA _ _ _ (.cond _ _ _) _ _ _ _; first | (refine A_if rfl (fun h => ?_) (fun h => ?_) <;> try (exfalso; omega)) | refine A_iffalse rfl ?_))
    all_goals first
      | (exfalso; omega)
      | exact End_e (Ret1 rfl rfl) ⟨rfl, rfl⟩
  · generalize (parseE f (s.take 40)).2 = er at *
    simp only [her, if_false] at h3 h4
    refine Fn_of _ _ Tryd.func10 rfl Tryd.ntmps10 rfl fun c => ?_
    repeat' (first | (refine O_ef rfl (Ef_callp WideF.wide hc ⟨rfl, trivial⟩ rfl ?_)) | (refine O_ef rfl (Ef_call (I := []) WideF.wide h3 ⟨rfl, rfl, trivial⟩ rfl ?_); rintro v H1 I1 hle1 ⟨rfl, rfl⟩) | (refine O_ef rfl (Ef_call (I := []) WideF.wide (h4 _ hle1) ⟨rfl, rfl, rfl, trivial⟩ rfl ?_); rintro v H2 I2 hle2 ⟨rfl, rfl⟩) | (refine O_ef rfl (Ef_call (I := []) WideF.wide (h5 _) ⟨rfl, rfl, trivial⟩ rfl ?_); rintro v H3 I3 hle3 ⟨rfl, rfl⟩) | (refine O_ef rfl (Ef_call (I := []) WideF.wide (hk _ (hle1.trans (hle2.trans hle3))) trivial rfl ?_); rintro v H4 I4 hle4 ⟨rfl, rfl⟩) | (refine O_ev WideF.wide rfl (Ev_eqis rfl rfl) rfl rfl ?_) | (refine O_ev WideF.wide rfl (Ev_seqs rfl rfl) rfl rfl ?_) | refine O_nil ?_ | refine A_seq ?_ | refine A_region ?_ | refine A_skip ?_ | refine A_ret ?_ | (show opsA _ _ _ _ _ _ _; first | refine O_ev WideF.wide rfl (Ev_pure rfl) rfl rfl ?_ | (show opsA _ _ _ _ (⟨_, .unOp _ _ _, _, _, _, _⟩ :: _) _ _; refine O_ev WideF.wide rfl (Ev_notb rfl) rfl rfl ?_)) | (show wpA _ _ _ (.cond _ _ _) _ _ _ _; first | (refine A_if rfl (fun h => ?_) (fun h => ?_) <;> try (exfalso; omega)) | refine A_iffalse rfl ?_))
    all_goals first
      | (exfalso; omega)
      | exact End_e (Ret1 rfl rfl) ⟨rfl, rfl⟩
end Go.Proofs.YtaehbjmimnjggaaDoor
