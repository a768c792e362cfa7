/-
  Steps compared: slices of what is gone and kept.
-/
import Derived.Test.YtcliojofponpnaaP7
namespace Go.Proofs.Ytcliojofponpnaa
open Go
set_option linter.unusedVariables false
set_option linter.unusedSimpArgs false
structure Gn where
  flow : Int
  lf : Int
  la : Int
  rf : Int
  ra : Int
  deriving DecidableEq
structure Kp where
  flow : Int
  len : Int
  deriving DecidableEq
def gnrow (x : Gn) : List Value := [.int .i64 x.flow, .int .i64 x.lf, .int .i64 x.la, .int .i64 x.rf, .int .i64 x.ra]
def kprow (x : Kp) : List Value := [.int .i64 x.flow, .int .i64 x.len]
theorem eq_kept (x y : Kp) : ∀ w, (Op.equalIn 10000 64 (.agg (kprow x).toArray) (.agg (kprow y).toArray)).run Try.prog w = .ok (decide (x = y)) w := fun w => by
  obtain ⟨a, b⟩ := x
  obtain ⟨c, d⟩ := y
  have key : ∀ m : Nat, (Op.equalIn (m + 2) 64 (.agg [.int .i64 a, .int .i64 b].toArray) (.agg [.int .i64 c, .int .i64 d].toArray)).run Try.prog w = .ok (decide (Kp.mk a b = ⟨c, d⟩)) w := fun m => by
    have hf := fieldsOf_of Try.underlying64
    rw [run_equalIn_agg (P := Try.prog) w (m + 1) _ _ _ (by rw [hf]; exact Try.underlying64) Try.stoodInHeld64, hf]
    have h1 := fun x y : Int => run_equalIn_int (P := Try.prog) w m 3 .i64 .i64 x y Try.underlying3
    simp [Op.eqFields, part, Try.isAgg3, h1]
    by_cases h2 : a = c <;> by_cases h3 : b = d <;> simp [h2, h3]
  exact key 9998
theorem eq_posM (w : World) (m : Nat) (a b c d : Int) : (Op.equalIn (m + 2) 29 (.agg #[.int .i64 a, .int .i64 b]) (.agg #[.int .i64 c, .int .i64 d])).run Try.prog w = .ok (decide (a = c ∧ b = d)) w := by
  have hf := fieldsOf_of Try.underlying29
  rw [run_equalIn_agg (P := Try.prog) w (m + 1) _ _ _ (by rw [hf]; exact Try.underlying29) Try.stoodInHeld29, hf]
  have h1 := fun x y : Int => run_equalIn_int (P := Try.prog) w m 3 .i64 .i64 x y Try.underlying3
  simp [Op.eqFields, part, Try.isAgg3, h1]
  by_cases h2 : a = c <;> by_cases h3 : b = d <;> simp [h2, h3]
theorem eq_gone (x y : Gn) : ∀ w, (Op.equalIn 10000 61 (.agg (gnrow x).toArray) (.agg (gnrow y).toArray)).run Try.prog w = .ok (decide (x = y)) w := fun w => by
  obtain ⟨a, b, c, d, e⟩ := x
  obtain ⟨a', b', c', d', e'⟩ := y
  have key : ∀ m : Nat, (Op.equalIn (m + 3) 61 (.agg [.int .i64 a, .int .i64 b, .int .i64 c, .int .i64 d, .int .i64 e].toArray) (.agg [.int .i64 a', .int .i64 b', .int .i64 c', .int .i64 d', .int .i64 e'].toArray)).run Try.prog w = .ok (decide (Gn.mk a b c d e = ⟨a', b', c', d', e'⟩)) w := fun m => by
    have hf := fieldsOf_of Try.underlying61
    rw [run_equalIn_agg (P := Try.prog) w (m + 2) _ _ _ (by rw [hf]; exact Try.underlying61) Try.stoodInHeld61, hf]
    have h1 := fun x y : Int => run_equalIn_int (P := Try.prog) w (m + 1) 3 .i64 .i64 x y Try.underlying3
    have h2 := eq_posM w m
    simp [Op.eqFields, part, Try.isAgg3, Try.isAgg29, h1, h2]
    by_cases e1 : a = a' <;> by_cases e2 : b = b' <;> by_cases e3 : c = c' <;> by_cases e4 : d = d' <;> by_cases e5 : e = e' <;> simp [e1, e2, e3, e4, e5]
  exact key 9997
end Go.Proofs.Ytcliojofponpnaa
