/-
  Format, and the reference's Format.
-/
import Derived.Test.YtaneeaojlkenmaaGreatDoorK5
namespace Go.Proofs.YtaneeaojlkenmaaGreatDoor
open Go Go.Lib
set_option linter.unusedVariables false
set_option linter.unusedSimpArgs false
attribute [local irreducible] wpA opsA drJ drQ drE Ef Ev Shift Fn
set_option maxRecDepth 100000 in
theorem ordinal_fn {H : Hp} {n : Nat} (hn : n ≤ 999999) : Fn Tryz.prog 115 [.int .i64 n] H [] fun v _ I => v = sv (decDigits n ++ ending n) ∧ I = [] := by
  have hl := dec_len n 5 (by omega)
  refine Fn_of _ _ Tryz.func115 rfl Tryz.ntmps115 rfl fun c => ?_
  repeat' (first | (refine O_ef rfl (Ef_callp WideF.wide (Itoa_fn (by omega)) ⟨rfl, trivial⟩ rfl ?_)) | (refine O_ev WideF.wide rfl (Ev_scat rfl rfl (by simp; omega)) rfl rfl ?_) | refine O_nil ?_ | refine A_seq ?_ | refine A_region ?_ | refine A_skip ?_ | refine A_ret ?_ | refine A_block ?_ | (show opsA _ _ _ _ _ _ _; first | refine O_ev WideF.wide rfl (Ev_pure rfl) rfl rfl ?_ | (show opsA _ _ _ _ (⟨_, .binOp _ _ _ _ _, _, _, _, _⟩ :: _) _ _; first | refine O_ev WideF.wide rfl (Ev_quop rfl rfl (by omega) (by omega)) rfl rfl ?_ | refine O_ev WideF.wide rfl (Ev_remp rfl rfl (by omega) (by omega)) rfl rfl ?_)) | (show wpA _ _ _ (.cond _ _ _) _ _ _ _; (refine A_if rfl (fun h => ?_) (fun h => ?_) <;> try (exfalso; omega))))
  all_goals
    refine End_e (Ret1 rfl rfl) ⟨?_, rfl⟩
    unfold ending
    (repeat' split) <;> first | rfl | (exfalso; omega)
set_option maxRecDepth 100000 in
theorem upperLetters_fn {H : Hp} {n : Nat} (hn : n ≤ 999999) : Fn Tryz.prog 111 [.int .i64 n] H [] fun v _ I => v = sv (upper (ltr n)) ∧ I = [] := by
  have hl := ltr_len n 5 (by omega)
  refine Fn_of _ _ Tryz.func111 rfl Tryz.ntmps111 rfl fun c => ?_
  repeat' (first | (refine O_ef rfl (Ef_call (I := []) WideF.wide (letters_fn n _ hn) ⟨rfl, trivial⟩ rfl ?_); rintro v H1 I1 hle1 ⟨rfl, rfl⟩) | (refine O_ef rfl (Ef_callp WideF.wide (ToUpper_fn (by omega) (ltr_ascii n)) ⟨rfl, trivial⟩ rfl ?_)) | refine O_nil ?_ | refine A_seq ?_ | refine A_region ?_ | refine A_ret ?_ | (show opsA _ _ _ _ _ _ _; refine O_ev WideF.wide rfl (Ev_pure rfl) rfl rfl ?_))
  exact End_e (Ret1 rfl rfl) ⟨rfl, rfl⟩
set_option maxRecDepth 100000 in
theorem upperRoman_fn {H : Hp} (hE : EnvH H) {n : Nat} (hn : n ≤ 3999) : Fn Tryz.prog 114 [.int .i64 n] H [] fun v _ I => v = sv (upper (rom n)) ∧ I = [] := by
  have hl := rom_len hn
  have hr := roman_fn hE hn
  refine Fn_of _ _ Tryz.func114 rfl Tryz.ntmps114 rfl fun c => ?_
  repeat' (first | (refine O_ef rfl (Ef_call (I := []) WideF.wide hr ⟨rfl, trivial⟩ rfl ?_); rintro v H1 I1 hle1 ⟨rfl, rfl⟩) | (refine O_ef rfl (Ef_callp WideF.wide (ToUpper_fn (by omega) (rom_ascii n)) ⟨rfl, trivial⟩ rfl ?_)) | refine O_nil ?_ | refine A_seq ?_ | refine A_region ?_ | refine A_ret ?_ | (show opsA _ _ _ _ _ _ _; refine O_ev WideF.wide rfl (Ev_pure rfl) rfl rfl ?_))
  exact End_e (Ret1 rfl rfl) ⟨rfl, rfl⟩
set_option maxRecDepth 100000 in
theorem bullet_fn {H : Hp} {n : Int} : Fn Tryz.prog 116 [.int .i64 n] H [] fun v _ I => v = sv [226, 128, 162] ∧ I = [] := by
  refine Fn_of _ _ Tryz.func116 rfl Tryz.ntmps116 rfl fun c => ?_
  repeat' (first | refine O_nil ?_ | refine A_seq ?_ | refine A_region ?_ | refine A_ret ?_ | (show opsA _ _ _ _ _ _ _; refine O_ev WideF.wide rfl (Ev_pure rfl) rfl rfl ?_))
  exact End_e (Ret1 rfl rfl) ⟨rfl, rfl⟩
abbrev fval (g : FuncId) : Value := .func (.func g) #[] #[]
def fmtKvs : List (Int × Value) := [(1, fval 71), (2, fval 110), (3, fval 111), (4, fval 113), (5, fval 114), (6, fval 115), (7, fval 116)]
set_option maxRecDepth 100000 in
theorem formats_fn {H : Hp} : Fn Tryz.prog 83 [] H [] fun v H' I => ∃ b, v = .map (some b) ∧ I = [.obj b (mobj fmtKvs)] ∧ H' = H := by
  refine Fn_of _ _ Tryz.func83 rfl Tryz.ntmps83 rfl fun c => ?_
  repeat' (first | (refine O_ef rfl (Ef_makeMap WideF.wide rfl ?_); intro b) | (refine O_ef rfl (Ef_mapIns WideF.wide rfl rfl rfl (by simp [mhas]) ?_)) | refine O_nil ?_ | refine A_seq ?_ | refine A_region ?_ | refine A_ret ?_ | (show opsA _ _ _ _ _ _ _; refine O_ev WideF.wide rfl (Ev_pure rfl) rfl rfl ?_))
  exact End_m (Ret1 rfl rfl) ⟨_, rfl, rfl, rfl⟩
theorem Ev_lookupV {P : Program} {e : Env} {H : Hp} {R : Own} {dst : Option Tmp} {ty : TypeId} {pos : String} {after : Array Edge} {g : Option (Nat × Bool)} {x y : Operand} {t b : Nat} {kt et : TypeId} {kvs : List (Int × Value)} {q : Int} {zv v : Value} {i : Nat} [ht : UndC P t (.map kt et)] [hk : UndC P kt (.int .i64)] (hzv : ∀ w, (zeroValue et).run P w = .ok zv w) (hx : e.eval x = some (.map (some b))) (hy : e.eval y = some (.int .i64 q)) (hR : oget R i = some (.obj b (mobj kvs))) (hv : mget zv kvs q = v) :
    Ev P ⟨dst, .lookup t x y false, ty, pos, after, g⟩ e H R v := by
  subst hv
  exact Ev_lookupI hzv hx hy hR
def fmtV (f n : Int) : Value := .tuple [sv (fmtE f n).1, .int .i64 (fmtE f n).2].toArray
set_option maxRecDepth 100000 in
set_option maxHeartbeats 1000000 in
theorem Format_case {H : Hp} {f n lo hi : Int} {s : List UInt8} {g : FuncId} [hg : FunC Tryz.prog g] (hR : ∀ Hx, FnP Tryz.prog 82 [.int .i64 f] Hx (.tuple [.int .i64 lo, .int .i64 hi, .int .i64 0].toArray)) (h1 : lo ≤ n) (h2 : n ≤ hi) (hm : mget .nilFunc fmtKvs f = fval g)
    (hc : ∀ Hx, HLe H Hx → Fn Tryz.prog g [.int .i64 n] Hx [] fun v _ I => v = sv s ∧ I = []) :
    Fn Tryz.prog 64 [.int .i64 f, .int .i64 n] H [] fun v _ I => v = .tuple [sv s, .int .i64 0].toArray ∧ I = [] := by
  refine Fn_of _ _ Tryz.func64 rfl Tryz.ntmps64 rfl fun c => ?_
  repeat' (first | (refine O_ef rfl (Ef_callp WideF.wide (hR _) ⟨rfl, trivial⟩ rfl ?_)) | (refine O_ef rfl (Ef_call (I := []) WideF.wide formats_fn trivial rfl ?_); rintro v H1 I1 hle1 ⟨b, rfl, rfl, rfl⟩) | (refine O_ev WideF.wide rfl (Ev_lookupV (i := 0) Tryz.zeroValue116 rfl rfl rfl hm) rfl rfl ?_) | (refine O_ef rfl (Ef_callv (I := []) WideF.wide (hc _ (HLe.refl _)) rfl ⟨rfl, trivial⟩ rfl ?_); rintro v H2 I2 hle2 ⟨rfl, rfl⟩) | refine O_nil ?_ | refine A_seq ?_ | refine A_region ?_ | refine A_skip ?_ | refine A_ret ?_ | refine A_block ?_ | (show opsA _ _ _ _ _ _ _; first | (refine O_split rfl rfl (fun h => ?_) (fun h => ?_) <;> try (exfalso; omega)) | refine O_ev WideF.wide rfl (Ev_pure rfl) rfl rfl ?_) | (show wpA _ _ _ (.cond _ _ _) _ _ _ _; (refine A_if rfl (fun h => ?_) (fun h => ?_) <;> try (exfalso; omega))))
  all_goals first
    | (exfalso; omega)
    | exact End_e (Ret2 rfl rfl rfl) ⟨rfl, rfl⟩
end Go.Proofs.YtaneeaojlkenmaaGreatDoor
