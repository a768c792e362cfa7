import Derived.Test.YtnoadopmeoohmaaGreatDoorZ13
import Derived.Test.YtnoadopmeoohmaaGreatDoorZ17
/-
  The map of functions. Printed by genF19.py.
-/
namespace Go.Proofs.YtnoadopmeoohmaaGreatDoor
open Go
set_option linter.unusedVariables false
set_option linter.unusedSimpArgs false
abbrev zFn : Value := .agg [.int .i64 0, .int .i64 0, .nilFunc].toArray
def ArgsOk (s : List UInt8) (l : List Val) (n : Nat) : Prop := n < 4611686018427387904 ∧ (s = [115, 117, 109] ∨ 0 < n) ∧ ∀ x ∈ l, I64 x.num ∧ x.text.length ≤ 1000000000
/-- a function value that does what a function of the language does -/
def CallsAs (H : Hp) (fv : Value) (s : List UInt8) : Prop := ∃ (f : FuncId) (caps : List Value), fv = .func (.func f) #[] caps.toArray ∧ Nonempty (FunC Tryz.prog f) ∧
  ∀ (H' : Hp) (a : Option Addr) (n cp : Nat) (l : List Val), HLe H H' → HRow H' a n cp 3 (l.map vlrow) → VarsH H' → ArgsOk s l n → Fn Tryz.prog f ([.slice a n cp] ++ caps) H' [] fun v _ I => v = rVE (fcall s l) ∧ I = []
theorem CallsAs.mono {H H' : Hp} {fv : Value} {s : List UInt8} (h : CallsAs H fv s) (hl : HLe H H') : CallsAs H' fv s := by
  obtain ⟨f, caps, h1, h2, h3⟩ := h
  exact ⟨f, caps, h1, h2, fun H2 a n cp l hle => h3 H2 a n cp l (hl.trans hle)⟩
theorem v0_mem {l : List Val} {a : Option Addr} {n cp : Nat} {H : Hp} (hx : HRow H a n cp 3 (l.map vlrow)) (h : 0 < n) : v0 l ∈ l := by
  obtain ⟨b, o, x, _, hxi, _⟩ := hx.atm 0 h
  have : v0 l = x := by unfold v0; simp [List.getD, hxi]
  rw [this]
  exact List.mem_of_getElem? hxi
theorem dec_length (u : Nat) (k : Nat) (h : u < 10 ^ (k + 1)) : (Lib.decDigits u).length ≤ k + 1 := by
  induction k generalizing u with
  | zero =>
    rw [Lib.decDigits_one (by omega)]; simp
  | succ k ih =>
    rw [Lib.decDigits]
    split
    · simp
    · rw [List.length_append]
      have := ih (u / 10) (by rw [Nat.pow_succ] at h; omega)
      simp; omega
theorem itoa_len {n : Int} (h : I64 n) : (Lib.itoa n).length ≤ 20 := by
  unfold Lib.itoa
  split
  · have := dec_length n.natAbs 18 (by omega)
    simp; omega
  · have := dec_length n.toNat 18 (by omega)
    omega
theorem shw_len {v : Val} (h : I64 v.num) : (shwV v).length ≤ v.text.length + 20 := by
  unfold shwV
  have := itoa_len h
  repeat' split
  · omega
  · omega
  · unfold fbool; split <;> simp <;> omega
  · simp
attribute [local irreducible] wpA opsA drJ drQ drE Ef Ev Shift Fn
set_option maxRecDepth 100000 in
theorem of_fn {H : Hp} {lo hi k : Int} {g : FuncId} {caps : List Value} :
    Fn Tryz.prog 117 [.int .i64 lo, .int .i64 hi, .int .i64 k, .func (.func g) #[] caps.toArray] H [] fun v H' I => (∃ b1 b2, v = .agg [.int .i64 lo, .int .i64 hi, .func (.func 150) #[] [.pointer (some ⟨b1, 0, none⟩), .pointer (some ⟨b2, 0, none⟩)].toArray].toArray ∧ H' b1 0 = some (.int .i64 k) ∧ H' b2 0 = some (.func (.func g) #[] caps.toArray)) ∧ I = [] := by
  refine Fn_of _ _ Tryz.func117 rfl Tryz.ntmps117 rfl fun c => ?_
  repeat' (first | (show opsA _ _ _ _ (⟨some 6, .box _ _, _, _, _, _⟩ :: _) _ _; refine O_ef rfl (Ef_box1 WideF.wide rfl rfl rfl ?_); intro b1; refine O_freezeBox (by intro u hu; simp at hu; subst hu; rfl) ?_; intro H1 hlb1 hfb1) | (show opsA _ _ _ _ (⟨some 7, .box _ _, _, _, _, _⟩ :: _) _ _; refine O_ef rfl (Ef_box1 WideF.wide rfl rfl rfl ?_); intro b2; refine O_freezeBox (by intro u hu; simp at hu; subst hu; rfl) ?_; intro H2 hlb2 hfb2) | (refine O_ev WideF.wide rfl (Ev_makeFunc (xs := []) (ys := [_, _]) (vs := []) (us := [_, _]) rfl rfl) rfl rfl ?_) | refine O_nil ?_ | refine A_seq ?_ | refine A_region ?_ | refine A_ret ?_ | (show opsA _ _ _ _ _ _ _; first | refine O_ev WideF.wide rfl (Ev_pure rfl) rfl rfl ?_ | (show opsA _ _ _ _ (⟨_, .build _ _, _, _, _, _⟩ :: _) _ _; refine O_ev WideF.wide rfl (Ev_build (vs := [(_, _), (_, _), (_, _)]) ⟨rfl, rfl, rfl, rfl, rfl, rfl, trivial⟩ rfl) rfl rfl ?_) | (show opsA _ _ _ _ (⟨_, .alloc _, _, _, _, _⟩ :: _) _ _; (refine O_ef rfl (Ef_alloc WideF.wide rfl ?_); intro b)) | (show opsA _ _ _ _ (⟨_, .store _ _ _, _, _, _, _⟩ :: _) _ _; refine O_ef rfl (Ef_storew WideF.wide rfl rfl rfl rfl rfl ?_))))
  exact End_e (RetC (i := 0) rfl rfl rfl rfl) ⟨⟨_, _, rfl, hlb2 _ _ _ (hfb1 0 _ rfl), hfb2 0 _ rfl⟩, rfl⟩
set_option maxRecDepth 100000 in
theorem best_fn {H : Hp} {h : FuncId} :
    Fn Tryz.prog 114 [.func (.func h) #[] #[]] H [] fun v H' I => (∃ b0 b1 b2, v = .agg [.int .i64 1, .int .i64 256, .func (.func 150) #[] [.pointer (some ⟨b1, 0, none⟩), .pointer (some ⟨b2, 0, none⟩)].toArray].toArray ∧ H' b0 0 = some (.func (.func h) #[] #[]) ∧ H' b1 0 = some (.int .i64 1) ∧ H' b2 0 = some (.func (.func 149) #[] [.pointer (some ⟨b0, 0, none⟩)].toArray)) ∧ I = [] := by
  refine Fn_of _ _ Tryz.func114 rfl Tryz.ntmps114 rfl fun c => ?_
  repeat' (first | (show opsA _ _ _ _ (⟨some 1, .box _ _, _, _, _, _⟩ :: _) _ _; refine O_ef rfl (Ef_box1 WideF.wide rfl rfl rfl ?_); intro b0; refine O_freezeBox (by intro u hu; simp at hu; subst hu; rfl) ?_; intro H1 hlb0 hfb0) | (refine O_ev WideF.wide rfl (Ev_makeFunc (xs := []) (ys := [_]) (vs := []) (us := [_]) rfl rfl) rfl rfl ?_) | (refine O_ef rfl (Ef_call (I := []) WideF.wide (of_fn (lo := 1) (hi := 256) (k := 1) (g := 149) (caps := [.pointer (some ⟨b0, 0, none⟩)])) ⟨rfl, rfl, rfl, rfl, trivial⟩ rfl ?_); rintro v2 H2 I2 hle2 ⟨⟨b1, b2, rfl, h1, h2⟩, rfl⟩) | refine O_nil ?_ | refine A_seq ?_ | refine A_region ?_ | refine A_ret ?_ | (show opsA _ _ _ _ _ _ _; first | (show opsA _ _ _ _ (⟨_, .alloc _, _, _, _, _⟩ :: _) _ _; (refine O_ef rfl (Ef_alloc WideF.wide rfl ?_); intro b)) | (show opsA _ _ _ _ (⟨_, .store _ _ _, _, _, _, _⟩ :: _) _ _; refine O_ef rfl (Ef_storew WideF.wide rfl rfl rfl rfl rfl ?_))))
  exact End_e (RetC (i := 0) rfl rfl rfl rfl) ⟨⟨_, _, _, rfl, hle2 _ _ _ (hfb0 0 _ rfl), h1, h2⟩, rfl⟩
set_option maxRecDepth 100000 in
theorem mapped_fn {H : Hp} {fr : Int} :
    Fn Tryz.prog 121 [.int .u8 fr] H [] fun v H' I => (∃ b0 b1 b2, v = .agg [.int .i64 1, .int .i64 1, .func (.func 150) #[] [.pointer (some ⟨b1, 0, none⟩), .pointer (some ⟨b2, 0, none⟩)].toArray].toArray ∧ H' b0 0 = some (.int .u8 fr) ∧ H' b1 0 = some (.int .i64 2) ∧ H' b2 0 = some (.func (.func 151) #[] [.pointer (some ⟨b0, 0, none⟩)].toArray)) ∧ I = [] := by
  refine Fn_of _ _ Tryz.func121 rfl Tryz.ntmps121 rfl fun c => ?_
  repeat' (first | (show opsA _ _ _ _ (⟨some 1, .box _ _, _, _, _, _⟩ :: _) _ _; refine O_ef rfl (Ef_box1 WideF.wide rfl rfl rfl ?_); intro b0; refine O_freezeBox (by intro u hu; simp at hu; subst hu; rfl) ?_; intro H1 hlb0 hfb0) | (refine O_ev WideF.wide rfl (Ev_makeFunc (xs := []) (ys := [_]) (vs := []) (us := [_]) rfl rfl) rfl rfl ?_) | (refine O_ef rfl (Ef_call (I := []) WideF.wide (of_fn (lo := 1) (hi := 1) (k := 2) (g := 151) (caps := [.pointer (some ⟨b0, 0, none⟩)])) ⟨rfl, rfl, rfl, rfl, trivial⟩ rfl ?_); rintro v2 H2 I2 hle2 ⟨⟨b1, b2, rfl, h1, h2⟩, rfl⟩) | refine O_nil ?_ | refine A_seq ?_ | refine A_region ?_ | refine A_ret ?_ | (show opsA _ _ _ _ _ _ _; first | (show opsA _ _ _ _ (⟨_, .alloc _, _, _, _, _⟩ :: _) _ _; (refine O_ef rfl (Ef_alloc WideF.wide rfl ?_); intro b)) | (show opsA _ _ _ _ (⟨_, .store _ _ _, _, _, _, _⟩ :: _) _ _; refine O_ef rfl (Ef_storew WideF.wide rfl rfl rfl rfl rfl ?_))))
  exact End_e (RetC (i := 0) rfl rfl rfl rfl) ⟨⟨_, _, _, rfl, hle2 _ _ _ (hfb0 0 _ rfl), h1, h2⟩, rfl⟩
theorem calls_of {H : Hp} {g : FuncId} [FunC Tryz.prog g] {caps : List Value} {b1 b2 : Nat} {k : Int} {s : List UInt8} {r : List Val → Val} (h1 : H b1 0 = some (.int .i64 k)) (h2 : H b2 0 = some (.func (.func g) #[] caps.toArray)) (he : ∀ l, fcall s l = ofV k l (r l))
    (hg : ∀ (H' : Hp) (a : Option Addr) (n cp : Nat) (l : List Val), HLe H H' → HRow H' a n cp 3 (l.map vlrow) → VarsH H' → ArgsOk s l n → (r l).text.length < 4611686018427387904 ∧ Fn Tryz.prog g ([.slice a n cp] ++ caps) H' [] fun v _ I => v = rV (r l) ∧ I = []) : CallsAs H (.func (.func 150) #[] [.pointer (some ⟨b1, 0, none⟩), .pointer (some ⟨b2, 0, none⟩)].toArray) s := by
  refine ⟨150, [.pointer (some ⟨b1, 0, none⟩), .pointer (some ⟨b2, 0, none⟩)], rfl, ⟨inferInstance⟩, fun H' a n cp l hle hx hV hA => ?_⟩
  rw [he]
  exact of1_fn hx hA.1 (hle _ _ _ h1) (hle _ _ _ h2) (fun _ H2 hl2 => (hg H2 a n cp l (hle.trans hl2) (hx.mono hl2) (hV.mono hl2) hA).2) (hg H' a n cp l hle hx hV hA).1
theorem calls_min {H : Hp} {b0 b1 b2 : Nat} (h0 : H b0 0 = some (.func (.func 115) #[] #[])) (h1 : H b1 0 = some (.int .i64 1)) (h2 : H b2 0 = some (.func (.func 149) #[] [.pointer (some ⟨b0, 0, none⟩)].toArray)) : CallsAs H (.func (.func 150) #[] [.pointer (some ⟨b1, 0, none⟩), .pointer (some ⟨b2, 0, none⟩)].toArray) [109, 105, 110] :=
  calls_of h1 h2 (fun l => by unfold fcall; rw [if_pos rfl]) fun H' a n cp l hle hx hV hA => ⟨by simp [numV], best1_fn (h := 115) min_fn hx hA.1 (hA.2.1.resolve_left (by decide)) (hle _ _ _ h0)⟩
theorem calls_max {H : Hp} {b0 b1 b2 : Nat} (h0 : H b0 0 = some (.func (.func 116) #[] #[])) (h1 : H b1 0 = some (.int .i64 1)) (h2 : H b2 0 = some (.func (.func 149) #[] [.pointer (some ⟨b0, 0, none⟩)].toArray)) : CallsAs H (.func (.func 150) #[] [.pointer (some ⟨b1, 0, none⟩), .pointer (some ⟨b2, 0, none⟩)].toArray) [109, 97, 120] :=
  calls_of h1 h2 (fun l => by unfold fcall; rw [if_neg (show ¬ ([109, 97, 120] : List UInt8) = [109, 105, 110] by decide), if_pos rfl]) fun H' a n cp l hle hx hV hA => ⟨by simp [numV], best1_fn (h := 116) max_fn hx hA.1 (hA.2.1.resolve_left (by decide)) (hle _ _ _ h0)⟩
theorem calls_sum {H : Hp} {b1 b2 : Nat} (h1 : H b1 0 = some (.int .i64 1)) (h2 : H b2 0 = some (.func (.func 118) #[] #[])) : CallsAs H (.func (.func 150) #[] [.pointer (some ⟨b1, 0, none⟩), .pointer (some ⟨b2, 0, none⟩)].toArray) [115, 117, 109] :=
  calls_of (caps := []) h1 h2 (fun l => by unfold fcall; rw [if_neg (show ¬ ([115, 117, 109] : List UInt8) = [109, 105, 110] by decide), if_neg (show ¬ ([115, 117, 109] : List UInt8) = [109, 97, 120] by decide), if_pos rfl]) fun H' a n cp l hle hx hV hA => ⟨by simp [numV], sum3_fn hx hA.1⟩
theorem calls_abs {H : Hp} {b1 b2 : Nat} (h1 : H b1 0 = some (.int .i64 1)) (h2 : H b2 0 = some (.func (.func 119) #[] #[])) : CallsAs H (.func (.func 150) #[] [.pointer (some ⟨b1, 0, none⟩), .pointer (some ⟨b2, 0, none⟩)].toArray) [97, 98, 115] :=
  calls_of (caps := []) h1 h2 (fun l => by unfold fcall; rw [if_neg (show ¬ ([97, 98, 115] : List UInt8) = [109, 105, 110] by decide), if_neg (show ¬ ([97, 98, 115] : List UInt8) = [109, 97, 120] by decide), if_neg (show ¬ ([97, 98, 115] : List UInt8) = [115, 117, 109] by decide), if_pos rfl]) fun H' a n cp l hle hx hV hA => ⟨by simp [numV], abs4_fn hx hA.1 (hA.2.1.resolve_left (by decide))⟩
theorem calls_len {H : Hp} {b1 b2 : Nat} (h1 : H b1 0 = some (.int .i64 2)) (h2 : H b2 0 = some (.func (.func 120) #[] #[])) : CallsAs H (.func (.func 150) #[] [.pointer (some ⟨b1, 0, none⟩), .pointer (some ⟨b2, 0, none⟩)].toArray) [108, 101, 110] :=
  calls_of (caps := []) h1 h2 (fun l => by unfold fcall; rw [if_neg (show ¬ ([108, 101, 110] : List UInt8) = [109, 105, 110] by decide), if_neg (show ¬ ([108, 101, 110] : List UInt8) = [109, 97, 120] by decide), if_neg (show ¬ ([108, 101, 110] : List UInt8) = [115, 117, 109] by decide), if_neg (show ¬ ([108, 101, 110] : List UInt8) = [97, 98, 115] by decide), if_pos rfl]) fun H' a n cp l hle hx hV hA => ⟨by simp [numV], len5_fn hx hA.1 (hA.2.1.resolve_left (by decide)) (by have := (hA.2.2 _ (v0_mem hx (hA.2.1.resolve_left (by decide)))).2; omega)⟩
theorem calls_upper {H : Hp} {b0 b1 b2 : Nat} (h0 : H b0 0 = some (.int .u8 97)) (h1 : H b1 0 = some (.int .i64 2)) (h2 : H b2 0 = some (.func (.func 151) #[] [.pointer (some ⟨b0, 0, none⟩)].toArray)) : CallsAs H (.func (.func 150) #[] [.pointer (some ⟨b1, 0, none⟩), .pointer (some ⟨b2, 0, none⟩)].toArray) [117, 112, 112, 101, 114] :=
  calls_of h1 h2 (fun l => by unfold fcall; rw [if_neg (show ¬ ([117, 112, 112, 101, 114] : List UInt8) = [109, 105, 110] by decide), if_neg (show ¬ ([117, 112, 112, 101, 114] : List UInt8) = [109, 97, 120] by decide), if_neg (show ¬ ([117, 112, 112, 101, 114] : List UInt8) = [115, 117, 109] by decide), if_neg (show ¬ ([117, 112, 112, 101, 114] : List UInt8) = [97, 98, 115] by decide), if_neg (show ¬ ([117, 112, 112, 101, 114] : List UInt8) = [108, 101, 110] by decide), if_pos rfl]) fun H' a n cp l hle hx hV hA => by
    have hm := (hA.2.2 _ (v0_mem hx (hA.2.1.resolve_left (by decide)))).2
    exact ⟨by simp [txtV]; omega, upper_fn hx hA.1 (hA.2.1.resolve_left (by decide)) (by omega) (hle _ _ _ h0)⟩
theorem calls_lower {H : Hp} {b0 b1 b2 : Nat} (h0 : H b0 0 = some (.int .u8 65)) (h1 : H b1 0 = some (.int .i64 2)) (h2 : H b2 0 = some (.func (.func 151) #[] [.pointer (some ⟨b0, 0, none⟩)].toArray)) : CallsAs H (.func (.func 150) #[] [.pointer (some ⟨b1, 0, none⟩), .pointer (some ⟨b2, 0, none⟩)].toArray) [108, 111, 119, 101, 114] :=
  calls_of h1 h2 (fun l => by unfold fcall; rw [if_neg (show ¬ ([108, 111, 119, 101, 114] : List UInt8) = [109, 105, 110] by decide), if_neg (show ¬ ([108, 111, 119, 101, 114] : List UInt8) = [109, 97, 120] by decide), if_neg (show ¬ ([108, 111, 119, 101, 114] : List UInt8) = [115, 117, 109] by decide), if_neg (show ¬ ([108, 111, 119, 101, 114] : List UInt8) = [97, 98, 115] by decide), if_neg (show ¬ ([108, 111, 119, 101, 114] : List UInt8) = [108, 101, 110] by decide), if_neg (show ¬ ([108, 111, 119, 101, 114] : List UInt8) = [117, 112, 112, 101, 114] by decide), if_pos rfl]) fun H' a n cp l hle hx hV hA => by
    have hm := (hA.2.2 _ (v0_mem hx (hA.2.1.resolve_left (by decide)))).2
    exact ⟨by simp [txtV]; omega, lower_fn hx hA.1 (hA.2.1.resolve_left (by decide)) (by omega) (hle _ _ _ h0)⟩
theorem calls_text {H : Hp} : CallsAs H (.func (.func 122) #[] #[]) [116, 101, 120, 116] :=
  ⟨_, [], rfl, ⟨inferInstance⟩, fun H' a n cp l hle hx hV hA => by
    have hm := hA.2.2 _ (v0_mem hx (hA.2.1.resolve_left (by decide)))
    have hs := shw_len hm.1
    rw [show fcall [116, 101, 120, 116] l = chkV (txtV (shwV (v0 l))) by unfold fcall; rw [if_neg (show ¬ ([116, 101, 120, 116] : List UInt8) = [109, 105, 110] by decide), if_neg (show ¬ ([116, 101, 120, 116] : List UInt8) = [109, 97, 120] by decide), if_neg (show ¬ ([116, 101, 120, 116] : List UInt8) = [115, 117, 109] by decide), if_neg (show ¬ ([116, 101, 120, 116] : List UInt8) = [97, 98, 115] by decide), if_neg (show ¬ ([116, 101, 120, 116] : List UInt8) = [108, 101, 110] by decide), if_neg (show ¬ ([116, 101, 120, 116] : List UInt8) = [117, 112, 112, 101, 114] by decide), if_neg (show ¬ ([116, 101, 120, 116] : List UInt8) = [108, 111, 119, 101, 114] by decide), if_pos rfl]]
    exact text6_fn hx hA.1 (hA.2.1.resolve_left (by decide)) hm.1 (by omega)⟩
theorem calls_number {H : Hp} : CallsAs H (.func (.func 61) #[] #[]) [110, 117, 109, 98, 101, 114] :=
  ⟨_, [], rfl, ⟨inferInstance⟩, fun H' a n cp l hle hx hV hA => by
    have hm := hA.2.2 _ (v0_mem hx (hA.2.1.resolve_left (by decide)))
    rw [show fcall [110, 117, 109, 98, 101, 114] l = toNum (v0 l) by unfold fcall; rw [if_neg (show ¬ ([110, 117, 109, 98, 101, 114] : List UInt8) = [109, 105, 110] by decide), if_neg (show ¬ ([110, 117, 109, 98, 101, 114] : List UInt8) = [109, 97, 120] by decide), if_neg (show ¬ ([110, 117, 109, 98, 101, 114] : List UInt8) = [115, 117, 109] by decide), if_neg (show ¬ ([110, 117, 109, 98, 101, 114] : List UInt8) = [97, 98, 115] by decide), if_neg (show ¬ ([110, 117, 109, 98, 101, 114] : List UInt8) = [108, 101, 110] by decide), if_neg (show ¬ ([110, 117, 109, 98, 101, 114] : List UInt8) = [117, 112, 112, 101, 114] by decide), if_neg (show ¬ ([110, 117, 109, 98, 101, 114] : List UInt8) = [108, 111, 119, 101, 114] by decide), if_neg (show ¬ ([110, 117, 109, 98, 101, 114] : List UInt8) = [116, 101, 120, 116] by decide), if_pos rfl]]
    exact toNumber_fn hx hA.1 (hA.2.1.resolve_left (by decide)) hm.2 hV⟩
/-- the entries of the map -/
def fkvs (w1 w2 w3 w4 w5 w6 w7 : Value) : List (List UInt8 × Value) := (sput (sput (sput (sput (sput (sput (sput (sput (sput (sput [] [109, 105, 110] (.agg [.int .i64 1, .int .i64 256, w1].toArray)) [109, 97, 120] (.agg [.int .i64 1, .int .i64 256, w2].toArray)) [115, 117, 109] (.agg [.int .i64 0, .int .i64 256, w3].toArray)) [97, 98, 115] (.agg [.int .i64 1, .int .i64 1, w4].toArray)) [108, 101, 110] (.agg [.int .i64 1, .int .i64 1, w5].toArray)) [117, 112, 112, 101, 114] (.agg [.int .i64 1, .int .i64 1, w6].toArray)) [108, 111, 119, 101, 114] (.agg [.int .i64 1, .int .i64 1, w7].toArray)) [116, 101, 120, 116] (.agg [.int .i64 1, .int .i64 1, .func (.func 122) #[] #[]].toArray)) [110, 117, 109, 98, 101, 114] (.agg [.int .i64 1, .int .i64 1, .func (.func 61) #[] #[]].toArray)) [105, 102] (.agg [.int .i64 3, .int .i64 3, .nilFunc].toArray))
/-- what the map of functions holds -/
def FunsH (H : Hp) (kvs : List (List UInt8 × Value)) : Prop := ∀ s : List UInt8, (fnArg s = none ∧ ¬ shas kvs s) ∨ ∃ (lo hi : Int) (fv : Value), fnArg s = some (lo, hi) ∧ shas kvs s ∧ sget zFn kvs s = .agg [.int .i64 lo, .int .i64 hi, fv].toArray ∧ (s ≠ [105, 102] → CallsAs H fv s) ∧ (s = [105, 102] → fv = .nilFunc)
theorem FunsH.of {H : Hp} {w1 w2 w3 w4 w5 w6 w7 : Value} (h1 : CallsAs H w1 [109, 105, 110]) (h2 : CallsAs H w2 [109, 97, 120]) (h3 : CallsAs H w3 [115, 117, 109]) (h4 : CallsAs H w4 [97, 98, 115]) (h5 : CallsAs H w5 [108, 101, 110]) (h6 : CallsAs H w6 [117, 112, 112, 101, 114]) (h7 : CallsAs H w7 [108, 111, 119, 101, 114]) : FunsH H (fkvs w1 w2 w3 w4 w5 w6 w7) := by
  intro s
  unfold fkvs
  by_cases e0 : s = [109, 105, 110]
  · subst e0
    refine .inr ⟨1, 256, _, by decide, by simp only [shas_put]; simp, by simp only [sget_put]; simp, fun _ => h1, fun h => absurd h (by decide)⟩
  by_cases e1 : s = [109, 97, 120]
  · subst e1
    refine .inr ⟨1, 256, _, by decide, by simp only [shas_put]; simp, by simp only [sget_put]; simp, fun _ => h2, fun h => absurd h (by decide)⟩
  by_cases e2 : s = [115, 117, 109]
  · subst e2
    refine .inr ⟨0, 256, _, by decide, by simp only [shas_put]; simp, by simp only [sget_put]; simp, fun _ => h3, fun h => absurd h (by decide)⟩
  by_cases e3 : s = [97, 98, 115]
  · subst e3
    refine .inr ⟨1, 1, _, by decide, by simp only [shas_put]; simp, by simp only [sget_put]; simp, fun _ => h4, fun h => absurd h (by decide)⟩
  by_cases e4 : s = [108, 101, 110]
  · subst e4
    refine .inr ⟨1, 1, _, by decide, by simp only [shas_put]; simp, by simp only [sget_put]; simp, fun _ => h5, fun h => absurd h (by decide)⟩
  by_cases e5 : s = [117, 112, 112, 101, 114]
  · subst e5
    refine .inr ⟨1, 1, _, by decide, by simp only [shas_put]; simp, by simp only [sget_put]; simp, fun _ => h6, fun h => absurd h (by decide)⟩
  by_cases e6 : s = [108, 111, 119, 101, 114]
  · subst e6
    refine .inr ⟨1, 1, _, by decide, by simp only [shas_put]; simp, by simp only [sget_put]; simp, fun _ => h7, fun h => absurd h (by decide)⟩
  by_cases e7 : s = [116, 101, 120, 116]
  · subst e7
    refine .inr ⟨1, 1, _, by decide, by simp only [shas_put]; simp, by simp only [sget_put]; simp, fun _ => calls_text, fun h => absurd h (by decide)⟩
  by_cases e8 : s = [110, 117, 109, 98, 101, 114]
  · subst e8
    refine .inr ⟨1, 1, _, by decide, by simp only [shas_put]; simp, by simp only [sget_put]; simp, fun _ => calls_number, fun h => absurd h (by decide)⟩
  by_cases e9 : s = [105, 102]
  · subst e9
    refine .inr ⟨3, 3, _, by decide, by simp only [shas_put]; simp, by simp only [sget_put]; simp, fun h => absurd rfl h, fun _ => rfl⟩
  refine .inl ⟨?_, ?_⟩
  · simp only [fnArg, e0, e1, e2, e3, e4, e5, e6, e7, e8, e9, if_false, or_self]
  · simp only [shas_put]; simp [shas_nil, e0, e1, e2, e3, e4, e5, e6, e7, e8, e9]
set_option maxRecDepth 100000 in
set_option maxHeartbeats 4000000 in
theorem functions_fn {H : Hp} : Fn Tryz.prog 73 [] H [] fun v H' I => ∃ (mb : Nat) (kvs : List (List UInt8 × Value)), v = .map (some mb) ∧ FunsH H' kvs ∧ I = [.obj mb (smobj kvs)] := by
  refine Fn_of _ _ Tryz.func73 rfl Tryz.ntmps73 rfl fun c => ?_
  repeat' (first | (refine O_ef rfl (Ef_makeMapT WideF.wide rfl ?_); intro mb) | (refine O_ef rfl (Ef_mapInsT WideF.wide rfl rfl rfl ?_)) | (show opsA _ _ _ _ (⟨some 2, .call _, _, _, _, _⟩ :: _) _ _; refine O_ef rfl (Ef_call (I := []) WideF.wide (best_fn (h := 115)) ⟨rfl, trivial⟩ rfl ?_); rintro v2 H2 I2 hl2 ⟨⟨x0, x1, x2, rfl, g0, g1, g2⟩, rfl⟩; have c1 := calls_min g0 g1 g2) | (show opsA _ _ _ _ (⟨some 3, .call _, _, _, _, _⟩ :: _) _ _; refine O_ef rfl (Ef_call (I := []) WideF.wide (best_fn (h := 116)) ⟨rfl, trivial⟩ rfl ?_); rintro v3 H3 I3 hl3 ⟨⟨y0, y1, y2, rfl, i0, i1, i2⟩, rfl⟩; have c2 := calls_max i0 i1 i2) | (show opsA _ _ _ _ (⟨some 4, .call _, _, _, _, _⟩ :: _) _ _; refine O_ef rfl (Ef_call (I := []) WideF.wide (of_fn (lo := 0) (hi := 256) (k := 1) (g := 118) (caps := [])) ⟨rfl, rfl, rfl, rfl, trivial⟩ rfl ?_); rintro v4 H4 I4 hl4 ⟨⟨z1, z2, rfl, j1, j2⟩, rfl⟩; have c3 := calls_sum j1 j2) | (show opsA _ _ _ _ (⟨some 5, .call _, _, _, _, _⟩ :: _) _ _; refine O_ef rfl (Ef_call (I := []) WideF.wide (of_fn (lo := 1) (hi := 1) (k := 1) (g := 119) (caps := [])) ⟨rfl, rfl, rfl, rfl, trivial⟩ rfl ?_); rintro v5 H5 I5 hl5 ⟨⟨p1, p2, rfl, k1, k2⟩, rfl⟩; have c4 := calls_abs k1 k2) | (show opsA _ _ _ _ (⟨some 6, .call _, _, _, _, _⟩ :: _) _ _; refine O_ef rfl (Ef_call (I := []) WideF.wide (of_fn (lo := 1) (hi := 1) (k := 2) (g := 120) (caps := [])) ⟨rfl, rfl, rfl, rfl, trivial⟩ rfl ?_); rintro v6 H6 I6 hl6 ⟨⟨q1, q2, rfl, m1, m2⟩, rfl⟩; have c5 := calls_len m1 m2) | (show opsA _ _ _ _ (⟨some 7, .call _, _, _, _, _⟩ :: _) _ _; refine O_ef rfl (Ef_call (I := []) WideF.wide (mapped_fn (fr := 97)) ⟨rfl, trivial⟩ rfl ?_); rintro v7 H7 I7 hl7 ⟨⟨r0, r1, r2, rfl, n0, n1, n2⟩, rfl⟩; have c6 := calls_upper n0 n1 n2) | (show opsA _ _ _ _ (⟨some 8, .call _, _, _, _, _⟩ :: _) _ _; refine O_ef rfl (Ef_call (I := []) WideF.wide (mapped_fn (fr := 65)) ⟨rfl, trivial⟩ rfl ?_); rintro v8 H8 I8 hl8 ⟨⟨s0, s1, s2, rfl, o0, o1, o2⟩, rfl⟩; have c7 := calls_lower o0 o1 o2) | refine O_nil ?_ | refine A_seq ?_ | refine A_region ?_ | refine A_ret ?_ | (show opsA _ _ _ _ _ _ _; first | refine O_ev WideF.wide rfl (Ev_pure rfl) rfl rfl ?_ | (show opsA _ _ _ _ (⟨_, .build _ _, _, _, _, _⟩ :: _) _ _; refine O_ev WideF.wide rfl (Ev_build (vs := [(_, _), (_, _), (_, _)]) ⟨rfl, rfl, rfl, rfl, rfl, rfl, trivial⟩ rfl) rfl rfl ?_)))
  exact End_m (Ret1 rfl rfl) ⟨mb, _, rfl, FunsH.of (c1.mono (((((hl3.trans hl4).trans hl5).trans hl6).trans hl7).trans hl8)) (c2.mono ((((hl4.trans hl5).trans hl6).trans hl7).trans hl8)) (c3.mono (((hl5.trans hl6).trans hl7).trans hl8)) (c4.mono ((hl6.trans hl7).trans hl8)) (c5.mono (hl7.trans hl8)) (c6.mono hl8) c7, rfl⟩
end Go.Proofs.YtnoadopmeoohmaaGreatDoor
