/-
  What the operations yield that leave the world alone.
-/
import Derived.Test.YthniohgeojenaaaA2
namespace Go.Proofs.Ythniohgeojenaaa
open Go
set_option linter.unusedVariables false
set_option linter.unusedSimpArgs false

/-- a string's value -/
abbrev sv (l : List UInt8) : Value := .string ⟨l.toArray⟩
/-- a byte of a string, as a number -/
def bat (l : List UInt8) (i : Int) : Int := ((l.getD i.toNat 0).toNat : Int)
theorem bat_lo (l : List UInt8) (i : Int) : 0 ≤ bat l i := by unfold bat; omega
theorem bat_hi (l : List UInt8) (i : Int) : bat l i < 256 := by
  unfold bat
  have := (l.getD i.toNat 0).toNat_lt
  omega

theorem bat_i64 (l : List UInt8) (i : Int) : -9223372036854775808 ≤ bat l i ∧ bat l i < 9223372036854775808 := by
  have := bat_lo l i; have := bat_hi l i; omega
/-- a row of known cells -/
def HCells (H : Hp) (b o : Nat) (cs : List Value) : Prop := ∀ j v, cs[j]? = some v → H b (o + j) = some v

def lo (k : IntKind) : Int := match k with | .i8 => -128 | .i16 => -32768 | .i32 => -2147483648 | .i64 => -9223372036854775808 | _ => 0
def hi (k : IntKind) : Int := match k with | .i8 => 128 | .i16 => 32768 | .i32 => 2147483648 | .i64 => 9223372036854775808 | .u8 => 256 | .u16 => 65536 | .u32 => 4294967296 | .u64 => 18446744073709551616
theorem wrap_id (k : IntKind) (x : Int) (h0 : lo k ≤ x) (h1 : x < hi k) : k.wrap x = x := by
  cases k <;> simp only [lo, hi] at h0 h1 <;> simp only [IntKind.wrap, IntKind.bits, IntKind.signed, Bool.true_and, Bool.false_and] <;>
    (first | (split <;> simp at * <;> omega) | (simp; omega))
theorem wi64 {x : Int} (h : -9223372036854775808 ≤ x ∧ x < 9223372036854775808) : IntKind.i64.wrap x = x := wrap_id .i64 x h.1 h.2
theorem wu8 {x : Int} (h : 0 ≤ x ∧ x < 256) : IntKind.u8.wrap x = x := wrap_id .u8 x h.1 h.2
theorem wu16 {x : Int} (h : 0 ≤ x ∧ x < 65536) : IntKind.u16.wrap x = x := wrap_id .u16 x h.1 h.2
theorem wi32 {x : Int} (h : -2147483648 ≤ x ∧ x < 2147483648) : IntKind.i32.wrap x = x := wrap_id .i32 x h.1 h.2
theorem wu64 {x : Int} (h : 0 ≤ x ∧ x < 18446744073709551616) : IntKind.u64.wrap x = x := wrap_id .u64 x h.1 h.2
theorem wu32 {x : Int} (h : 0 ≤ x ∧ x < 4294967296) : IntKind.u32.wrap x = x := wrap_id .u32 x h.1 h.2

section
variable {P : Program} {e : Env} {H : Hp} {R : Own} {dst : Option Tmp} {ty : TypeId} {pos : String} {after : Array Edge} {g : Option (Nat × Bool)} {x y z : Operand} {v : Value}

theorem Ev_move (hx : e.eval x = some v) : Ev P ⟨dst, .move x, ty, pos, after, g⟩ e H R v := fun a w he _ _ => by
  simp [execOp, he.eval hx]
theorem Ev_assign (hx : e.eval x = some v) : Ev P ⟨dst, .assign x, ty, pos, after, g⟩ e H R v := fun a w he _ _ => by
  simp [execOp, he.eval hx]
theorem Ev_pickt (hx : e.eval x = some (.bool true)) (hy : e.eval y = some v) : Ev P ⟨dst, .pick x y z, ty, pos, after, g⟩ e H R v := fun a w he _ _ => by
  simp [execOp, he.eval hx, he.eval hy, asBool]
theorem Ev_pickf (hx : e.eval x = some (.bool false)) (hz : e.eval z = some v) : Ev P ⟨dst, .pick x y z, ty, pos, after, g⟩ e H R v := fun a w he _ _ => by
  simp [execOp, he.eval hx, he.eval hz, asBool]
theorem Ev_pickb {b : Bool} {u : Value} (hx : e.eval x = some (.bool b)) (hy : e.eval y = some u) (hz : e.eval z = some v) : Ev P ⟨dst, .pick x y z, ty, pos, after, g⟩ e H R (if b then u else v) := fun a w he _ _ => by
  cases b <;> simp [execOp, he.eval hx, he.eval hy, he.eval hz, asBool]
def tget : List Value → Nat → Option Value
  | [], _ => none
  | v :: _, 0 => some v
  | _ :: r, n + 1 => tget r n
theorem tget_eq (l : List Value) (n : Nat) : tget l n = l[n]? := by
  induction l generalizing n with
  | nil => simp [tget]
  | cons o r ih => cases n with
    | zero => simp [tget]
    | succ n => simp [tget, ih]
theorem Ev_extract {vs : List Value} {i : Nat} (hx : e.eval x = some (.tuple vs.toArray)) (hi : tget vs i = some v) : Ev P ⟨dst, .extract x i, ty, pos, after, g⟩ e H R v := fun a w he _ _ => by
  rw [tget_eq] at hi
  simp [execOp, he.eval hx, Instr.extract, hi]

/-! ints -/
section ints
variable {k k2 : IntKind} {m n r : Int} {t t2 : TypeId}
theorem Ev_add (hx : e.eval x = some (.int k m)) (hy : e.eval y = some (.int k n)) (hr : k.wrap (m + n) = r) : Ev P ⟨dst, .binOp .add t x y t2, ty, pos, after, g⟩ e H R (.int k r) := fun a w he _ _ => by
  simp [execOp, he.eval hx, he.eval hy, eqGuard_add, binOp_add, Op.intArith, hr]
theorem Ev_sub (hx : e.eval x = some (.int k m)) (hy : e.eval y = some (.int k n)) (hr : k.wrap (m - n) = r) : Ev P ⟨dst, .binOp .sub t x y t2, ty, pos, after, g⟩ e H R (.int k r) := fun a w he _ _ => by
  simp [execOp, he.eval hx, he.eval hy, eqGuard_sub, binOp_sub, Op.intArith, hr]
theorem Ev_mul (hx : e.eval x = some (.int k m)) (hy : e.eval y = some (.int k n)) (hr : k.wrap (m * n) = r) : Ev P ⟨dst, .binOp .mul t x y t2, ty, pos, after, g⟩ e H R (.int k r) := fun a w he _ _ => by
  simp [execOp, he.eval hx, he.eval hy, eqGuard_mul, binOp_mul, Op.intArith, hr]
theorem Ev_quo (hx : e.eval x = some (.int k m)) (hy : e.eval y = some (.int k n)) (h0 : n ≠ 0) (hr : k.wrap (m.tdiv n) = r) : Ev P ⟨dst, .binOp .quo t x y t2, ty, pos, after, g⟩ e H R (.int k r) := fun a w he _ _ => by
  simp [execOp, he.eval hx, he.eval hy, eqGuard_quo, binOp_quo, Op.intDiv, hr, h0]
theorem Ev_rem (hx : e.eval x = some (.int k m)) (hy : e.eval y = some (.int k n)) (h0 : n ≠ 0) : Ev P ⟨dst, .binOp .rem t x y t2, ty, pos, after, g⟩ e H R (.int k (m.tmod n)) := fun a w he _ _ => by
  simp [execOp, he.eval hx, he.eval hy, eqGuard_rem, binOp_rem, Op.intDiv, h0]
def bitop (f : ∀ n, BitVec n → BitVec n → BitVec n) (k : IntKind) (m n : Int) : Int := k.wrap (f k.bits (BitVec.ofInt k.bits m) (BitVec.ofInt k.bits n)).toNat
def iand (k : IntKind) (m n : Int) : Int := bitop (fun _ a b => a &&& b) k m n
def ior (k : IntKind) (m n : Int) : Int := bitop (fun _ a b => a ||| b) k m n
def ixor (k : IntKind) (m n : Int) : Int := bitop (fun _ a b => a ^^^ b) k m n
theorem Ev_and (hx : e.eval x = some (.int k m)) (hy : e.eval y = some (.int k n)) : Ev P ⟨dst, .binOp .and t x y t2, ty, pos, after, g⟩ e H R (.int k (iand k m n)) := fun a w he _ _ => by
  simp [execOp, he.eval hx, he.eval hy, eqGuard_and, binOp_and, Op.intBits, iand, bitop]
theorem Ev_or (hx : e.eval x = some (.int k m)) (hy : e.eval y = some (.int k n)) : Ev P ⟨dst, .binOp .or t x y t2, ty, pos, after, g⟩ e H R (.int k (ior k m n)) := fun a w he _ _ => by
  simp [execOp, he.eval hx, he.eval hy, eqGuard_or, binOp_or, Op.intBits, ior, bitop]
theorem Ev_xor (hx : e.eval x = some (.int k m)) (hy : e.eval y = some (.int k n)) : Ev P ⟨dst, .binOp .xor t x y t2, ty, pos, after, g⟩ e H R (.int k (ixor k m n)) := fun a w he _ _ => by
  simp [execOp, he.eval hx, he.eval hy, eqGuard_xor, binOp_xor, Op.intBits, ixor, bitop]
theorem Ev_shl (hx : e.eval x = some (.int k m)) (hy : e.eval y = some (.int k2 n)) (h0 : 0 ≤ n) (h1 : n ≤ k.bits) (hr : k.wrap (m * 2 ^ n.toNat) = r) : Ev P ⟨dst, .binOp .shl t x y t2, ty, pos, after, g⟩ e H R (.int k r) := fun a w he _ _ => by
  simp [execOp, he.eval hx, he.eval hy, eqGuard_shl, binOp_shl, shift_shl k k2 m n h0 h1, hr]
theorem Ev_shr (hx : e.eval x = some (.int k m)) (hy : e.eval y = some (.int k2 n)) (h0 : 0 ≤ n) (h1 : n ≤ k.bits) : Ev P ⟨dst, .binOp .shr t x y t2, ty, pos, after, g⟩ e H R (.int k (m / 2 ^ n.toNat)) := fun a w he _ _ => by
  simp [execOp, he.eval hx, he.eval hy, eqGuard_shr, binOp_shr, shift_shr k k2 m n h0 h1]
theorem Ev_eql (hx : e.eval x = some (.int k m)) (hy : e.eval y = some (.int k n)) : Ev P ⟨dst, .binOp .eql t x y t2, ty, pos, after, g⟩ e H R (.bool (decide (m = n))) := fun a w he _ _ => by
  simp only [execOp, he.eval hx, he.eval hy, eqGuard_at_int, binOp_eql, Sem.run_bind, Sem.run_pure, Result.andThen_ok]
  congr 3
theorem Ev_neq (hx : e.eval x = some (.int k m)) (hy : e.eval y = some (.int k n)) : Ev P ⟨dst, .binOp .neq t x y t2, ty, pos, after, g⟩ e H R (.bool (decide (¬ m = n))) := fun a w he _ _ => by
  simp only [execOp, he.eval hx, he.eval hy, eqGuard_at_int, binOp_neq, Sem.run_bind, Sem.run_pure, Result.andThen_ok]
  congr 3
  rw [Bool.eq_iff_iff]; simp
theorem Ev_lss (hx : e.eval x = some (.int k m)) (hy : e.eval y = some (.int k n)) : Ev P ⟨dst, .binOp .lss t x y t2, ty, pos, after, g⟩ e H R (.bool (decide (m < n))) := fun a w he _ _ => by
  simp [execOp, he.eval hx, he.eval hy, eqGuard_lss, binOp_lss]
theorem Ev_leq (hx : e.eval x = some (.int k m)) (hy : e.eval y = some (.int k n)) : Ev P ⟨dst, .binOp .leq t x y t2, ty, pos, after, g⟩ e H R (.bool (decide (m ≤ n))) := fun a w he _ _ => by
  simp [execOp, he.eval hx, he.eval hy, eqGuard_leq, binOp_leq]
theorem Ev_gtr (hx : e.eval x = some (.int k m)) (hy : e.eval y = some (.int k n)) : Ev P ⟨dst, .binOp .gtr t x y t2, ty, pos, after, g⟩ e H R (.bool (decide (n < m))) := fun a w he _ _ => by
  simp [execOp, he.eval hx, he.eval hy, eqGuard_gtr, binOp_gtr]
theorem Ev_geq (hx : e.eval x = some (.int k m)) (hy : e.eval y = some (.int k n)) : Ev P ⟨dst, .binOp .geq t x y t2, ty, pos, after, g⟩ e H R (.bool (decide (n ≤ m))) := fun a w he _ _ => by
  simp [execOp, he.eval hx, he.eval hy, eqGuard_geq, binOp_geq]
theorem Ev_neg (hx : e.eval x = some (.int k m)) (hr : k.wrap (0 - m) = r) : Ev P ⟨dst, .unOp .neg t x, ty, pos, after, g⟩ e H R (.int k r) := fun a w he _ _ => by
  simp only [execOp, he.eval hx, Op.unary, Op.intArith, hr, Sem.run_bind, Sem.run_pure, Result.andThen_ok]
theorem Ev_conv {d : TypeDesc} [hs : UndC P t d] [hd : UndC P t2 (.int k2)] (hx : e.eval x = some (.int k m)) (hr : k2.wrap m = r) : Ev P ⟨dst, .convert t t2 x, ty, pos, after, g⟩ e H R (.int k2 r) := fun a w he _ _ => by
  simp only [execOp, he.eval hx, convert, Sem.run_bind, hs.run, hd.run, Result.andThen_ok]
  cases d <;> simp [Conv.intToInt, hr]
end ints

/-! bools -/
section bools
variable {t t2 : TypeId}
theorem Ev_not {p : Prop} [Decidable p] (hx : e.eval x = some (.bool (decide p))) : Ev P ⟨dst, .unOp .not t x, ty, pos, after, g⟩ e H R (.bool (decide (¬ p))) := fun a w he _ _ => by
  simp [execOp, he.eval hx, Op.unary, decide_not]
theorem Ev_notb {b : Bool} (hx : e.eval x = some (.bool b)) : Ev P ⟨dst, .unOp .not t x, ty, pos, after, g⟩ e H R (.bool (!b)) := fun a w he _ _ => by
  simp [execOp, he.eval hx, Op.unary]
theorem run_eqb {t : TypeId} (ht : P.underlying t = some .bool) (b b' : Bool) (w : World) : (Op.equal t (.bool b) (.bool b')).run P w = .ok (b == b') w := by
  have key : ∀ d, (Op.equalIn (d + 1) t (.bool b) (.bool b')).run P w = .ok (b == b') w := fun d => by
    simp only [Op.equalIn, run_underlying ht, Sem.run_bind, Sem.run_pure, Result.andThen_ok]
  exact key 9999
theorem Ev_eqb [ht : UndC P t .bool] {b b' : Bool} (hx : e.eval x = some (.bool b)) (hy : e.eval y = some (.bool b')) : Ev P ⟨dst, .binOp .eql t x y t2, ty, pos, after, g⟩ e H R (.bool (b == b')) := fun a w he _ _ => by
  simp [execOp, he.eval hx, he.eval hy, eqGuard_at_bool, binOp, run_eqb ht.und]
theorem Ev_neb [ht : UndC P t .bool] {b b' : Bool} (hx : e.eval x = some (.bool b)) (hy : e.eval y = some (.bool b')) : Ev P ⟨dst, .binOp .neq t x y t2, ty, pos, after, g⟩ e H R (.bool (!(b == b'))) := fun a w he _ _ => by
  simp [execOp, he.eval hx, he.eval hy, eqGuard_at_bool, binOp, run_eqb ht.und]
end bools

/-! strings -/
theorem bs_size (l : List UInt8) : (ByteArray.mk l.toArray).size = l.length := by
  show l.toArray.size = l.length
  simp
section strings
variable {t t2 : TypeId} {s s2 : List UInt8}
theorem Ev_slen [ht : UndC P t .string] (hx : e.eval x = some (sv s)) : Ev P ⟨dst, .call { callee := .builtin .len, args := #[x], argTypes := #[t] }, ty, pos, after, g⟩ e H R (.int .i64 s.length) := fun a w he _ _ => by
  have h1 := run_len_string (P := P) w t ty ⟨s.toArray⟩ ht.und
  rw [bs_size] at h1
  simp [execOp, resolve, invoke, builtin, he.eval hx, h1, goInt]
theorem Ev_sindex [ht : UndC P t .string] {k : IntKind} {i : Int} (hx : e.eval x = some (sv s)) (hy : e.eval y = some (.int k i)) (h0 : 0 ≤ i) (h1 : i < s.length) :
    Ev P ⟨dst, .index t x y, ty, pos, after, g⟩ e H R (.int .u8 (bat s i)) := fun a w he _ _ => by
  have hlt : i.toNat < s.length := by omega
  have hg : (ByteArray.mk s.toArray)[i.toNat]? = some s[i.toNat] := by
    rw [ByteArray.getElem?_lt' _ _ (by rw [bs_size]; exact hlt)]; rfl
  simp [execOp, he.eval hx, he.eval hy, Instr.index, asIntOf, ht.run, h0, hg, bat, List.getD, hlt]
theorem bs_extract (l : List UInt8) (a b : Nat) : (ByteArray.mk l.toArray).extract a b = ⟨((l.take b).drop a).toArray⟩ := by
  apply ByteArray.ext
  simp [List.drop_take]
theorem Ev_sslice [ht : UndC P t .string] {k k2 : IntKind} {i j : Int} (hx : e.eval x = some (sv s)) (hy : e.eval y = some (.int k i)) (hz : e.eval z = some (.int k2 j)) (h0 : 0 ≤ i) (h1 : i ≤ j) (h2 : j ≤ s.length) :
    Ev P ⟨dst, .slice t x (some y) (some z) none, ty, pos, after, g⟩ e H R (sv ((s.take j.toNat).drop i.toNat)) := fun a w he _ _ => by
  have hsz := bs_size s
  have hb1 : Sem.run P (Instr.sliceBound (.int k2 j) s.length .sliceAlen) w = .ok j.toNat w := run_sliceBound w k2 j s.length .sliceAlen (by omega) h2
  have hb2 : Sem.run P (Instr.sliceBound (.int k i) j.toNat .sliceB) w = .ok i.toNat w := run_sliceBound w k i j.toNat .sliceB h0 (by omega)
  simp only [execOp, Instr.sliceAt, he.eval hx, Option.map_some, he.eval hy, he.eval hz, Option.map_none, Sem.run_bind, ht.run, Result.andThen_ok, Instr.slice, Option.isSome_none, Bool.false_eq_true, if_false, Instr.sliceBounds, hsz, Sem.run_pure, hb1, hb2, bs_extract]
theorem Ev_sslicel [ht : UndC P t .string] {k : IntKind} {i : Int} (hx : e.eval x = some (sv s)) (hy : e.eval y = some (.int k i)) (h0 : 0 ≤ i) (h2 : i ≤ s.length) :
    Ev P ⟨dst, .slice t x (some y) none none, ty, pos, after, g⟩ e H R (sv (s.drop i.toNat)) := fun a w he _ _ => by
  have hsz := bs_size s
  have hb2 : Sem.run P (Instr.sliceBound (.int k i) s.length .sliceB) w = .ok i.toNat w := run_sliceBound w k i s.length .sliceB h0 h2
  have ht' : s.take s.length = s := List.take_length
  simp only [execOp, Instr.sliceAt, he.eval hx, Option.map_some, he.eval hy, Option.map_none, Sem.run_bind, ht.run, Result.andThen_ok, Instr.slice, Option.isSome_none, Bool.false_eq_true, if_false, Instr.sliceBounds, hsz, Sem.run_pure, hb2, bs_extract, ht']
theorem Ev_ssliceh [ht : UndC P t .string] {k2 : IntKind} {j : Int} (hx : e.eval x = some (sv s)) (hz : e.eval z = some (.int k2 j)) (h1 : 0 ≤ j) (h2 : j ≤ s.length) :
    Ev P ⟨dst, .slice t x none (some z) none, ty, pos, after, g⟩ e H R (sv (s.take j.toNat)) := fun a w he _ _ => by
  have hsz := bs_size s
  have hb1 : Sem.run P (Instr.sliceBound (.int k2 j) s.length .sliceAlen) w = .ok j.toNat w := run_sliceBound w k2 j s.length .sliceAlen h1 h2
  simp only [execOp, Instr.sliceAt, he.eval hx, Option.map_some, he.eval hz, Option.map_none, Sem.run_bind, ht.run, Result.andThen_ok, Instr.slice, Option.isSome_none, Bool.false_eq_true, if_false, Instr.sliceBounds, hsz, Sem.run_pure, hb1, bs_extract, List.drop_zero]
theorem Ev_scat (hx : e.eval x = some (sv s)) (hy : e.eval y = some (sv s2)) (hl : s.length + s2.length < 4611686018427387904) : Ev P ⟨dst, .binOp .add t x y t2, ty, pos, after, g⟩ e H R (sv (s ++ s2)) := fun a w he _ _ => by
  have h1 : ¬ (((s.length + s2.length : Nat) : Int) > 9223372036854775807) := by omega
  have h2 : (ByteArray.mk s.toArray) ++ (ByteArray.mk s2.toArray) = ⟨(s ++ s2).toArray⟩ := by
    apply ByteArray.ext; simp
  have hsz := bs_size
  simp only [execOp, he.eval hx, he.eval hy, eqGuard_add, binOp_string_add, Op.stringOp, Sem.run_bind, Sem.run_pure, Result.andThen_ok, hsz, IntKind.max_i64, if_neg h1, h2]
theorem Ev_seql (hx : e.eval x = some (sv s)) (hy : e.eval y = some (sv s2)) : Ev P ⟨dst, .binOp .eql t x y t2, ty, pos, after, g⟩ e H R (.bool (decide (s = s2))) := fun a w he _ _ => by
  simp only [execOp, he.eval hx, he.eval hy, eqGuard_at_string, binOp_string_eql, Sem.run_bind, Sem.run_pure, Result.andThen_ok, ByteArray.toList_mk]
  congr 3
  rw [Bool.eq_iff_iff]; simp
theorem Ev_sneq (hx : e.eval x = some (sv s)) (hy : e.eval y = some (sv s2)) : Ev P ⟨dst, .binOp .neq t x y t2, ty, pos, after, g⟩ e H R (.bool (decide (¬ s = s2))) := fun a w he _ _ => by
  simp only [execOp, he.eval hx, he.eval hy, eqGuard_at_string, binOp_string_neq, Sem.run_bind, Sem.run_pure, Result.andThen_ok, ByteArray.toList_mk]
  congr 3
  rw [Bool.eq_iff_iff]; simp
end strings

/-! many operations at one stroke: what is reckoned from the slots alone -/
def cmpPure (op : BinOp) (m n : Int) : Option Value :=
  match op with
  | .eql => some (.bool (decide (m = n)))
  | .neq => some (.bool (decide (¬ m = n)))
  | .lss => some (.bool (decide (m < n)))
  | .leq => some (.bool (decide (m ≤ n)))
  | .gtr => some (.bool (decide (n < m)))
  | .geq => some (.bool (decide (n ≤ m)))
  | _ => none
def kindEq : IntKind → IntKind → Bool
  | .i64, .i64 => true
  | .u8, .u8 => true
  | .i32, .i32 => true
  | .u16, .u16 => true
  | .u32, .u32 => true
  | .u64, .u64 => true
  | _, _ => false
theorem kindEq_eq {a b : IntKind} (h : kindEq a b = true) : a = b := by cases a <;> cases b <;> first | rfl | cases h
def evalPure (o : Op) (e : Env) : Option Value :=
  match o with
  | .move x => e.eval x
  | .assign x => e.eval x
  | .pick x y z => match e.eval x with
    | some (.bool true) => e.eval y
    | some (.bool false) => e.eval z
    | _ => none
  | .extract x i => match e.eval x with
    | some (.tuple vs) => tget vs.toList i
    | _ => none
  | .binOp op _ x y _ => match e.eval x with
    | some (.int k m) => match e.eval y with
      | some (.int k' n) => match kindEq k k' with
        | true => cmpPure op m n
        | false => none
      | _ => none
    | _ => none
  | _ => none
theorem Ev_pure {op : Op} (h : evalPure op e = some v) : Ev P ⟨dst, op, ty, pos, after, g⟩ e H R v := by
  cases op <;> simp only [evalPure] at h <;> try cases h
  case move x => exact Ev_move h
  case assign x => exact Ev_assign h
  case pick x y z =>
    split at h
    · rename_i hx; exact Ev_pickt hx h
    · rename_i hx; exact Ev_pickf hx h
    · cases h
  case extract x i =>
    split at h
    · rename_i vs hx; exact Ev_extract (vs := vs.toList) (by simpa using hx) h
    · cases h
  case binOp op t x y t2 =>
    split at h
    · rename_i k m hx
      split at h
      · rename_i k' n hy
        split at h
        · rename_i hk
          have := kindEq_eq hk
          subst this
          cases op <;> simp only [cmpPure] at h <;> try cases h
          · exact Ev_eql hx hy
          · exact Ev_neq hx hy
          · exact Ev_lss hx hy
          · exact Ev_leq hx hy
          · exact Ev_gtr hx hy
          · exact Ev_geq hx hy
        · cases h
      · cases h
    · cases h
end
end Go.Proofs.Ythniohgeojenaaa
