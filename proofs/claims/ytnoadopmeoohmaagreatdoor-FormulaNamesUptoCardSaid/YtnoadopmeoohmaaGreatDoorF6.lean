/-
  Range over the runes of a string; calls of bound method values.
-/
import Derived.Test.YtnoadopmeoohmaaGreatDoorF2
import Derived.Test.YtnoadopmeoohmaaGreatDoorA16
import Derived.Lib.OthersKept
import Derived.Laws.RangeAny
namespace Go.Proofs.YtnoadopmeoohmaaGreatDoor
open Go
set_option linter.unusedVariables false
set_option linter.unusedSimpArgs false
abbrev sit (l : List UInt8) (pos : Nat) : Obj := .stringIter ⟨l.toArray⟩ pos
def rdec (l : List UInt8) (pos : Nat) : Nat × Nat := Utf8.decode ⟨l.toArray⟩ pos
section
variable {F : Fence} {P : Program} {c : Ctx} {K : SP} {n : Nat} {e : Env} {H : Hp} {M M' L I : Own} {D : List Deferred} {x y z : Operand} {d : Tmp} {ty t t2 : TypeId} {pos : String} {after : Array Edge} {g : Option (Nat × Bool)} {v : Value} {b r : Nat}
theorem Ef_rangeS (hF : WideF F) {l : List UInt8} [ht : UndC P t .string] (hx : e.eval x = some (sv l)) (hn : Nat.blt d n = true)
    (k : ∀ r, K ⟨n, (d, .pointer (some ⟨r, 0, none⟩)) :: e, H, .obj r (sit l 0) :: M, L, D⟩) :
    Ef F P c ⟨some d, .range t x, ty, pos, after, g⟩ ⟨n, e, H, M, L, D⟩ K := Ef_of_run hF fun a w hs => by
  refine ⟨.pointer (some ⟨w.heap.size, 0, none⟩), w.alloc (sit l 0), ?_, _, ok_put hs hn (hs.holds.allocO _), k _⟩
  have h := run_range_string (P := P) w t ⟨l.toArray⟩ ht.und
  simp only [execOp, hs.env.eval hx, h, Sem.run_bind, Sem.run_pure, Result.andThen_ok]
  rfl
theorem Ef_nextS (hF : WideF F) {l : List UInt8} {p : Nat} (hx : e.eval x = some (.pointer (some ⟨r, 0, none⟩))) (hn : Nat.blt d n = true) (hp : p < l.length)
    (k : K ⟨n, (d, .tuple [.bool true, .int .i64 p, .int .i32 (rdec l p).1].toArray) :: e, H, .obj r (sit l (p + (rdec l p).2)) :: M, L, D⟩) :
    Ef F P c ⟨some d, .next x true, ty, pos, after, g⟩ ⟨n, e, H, .obj r (sit l p) :: M, L, D⟩ K := Ef_of_run hF fun a w hs => by
  have hr : w.heap[r]? = some (sit l p) := hs.holds.own (.obj r (sit l p)) (by simp)
  refine ⟨_, w.putObj r (sit l (p + (rdec l p).2)), ?_, _, ok_put hs hn (hs.holds.putObj _), k⟩
  have hs' : p < (ByteArray.mk l.toArray).size := by rw [bs_size]; exact hp
  have h6 : (setObj r (sit l (p + (rdec l p).2))).run P w = .ok () (w.putObj r (sit l (p + (rdec l p).2))) := by simp [setObj, Sem.run, hr, World.putObj]
  simp only [execOp, hs.env.eval hx, Instr.next, getObj, Sem.run_bind, Sem.run, hr, Result.andThen_ok, hs', if_true]
  simp only [rdec] at h6 ⊢
  simp [goInt, h6]
theorem Ef_nextS0 (hF : WideF F) {l : List UInt8} {p : Nat} (hx : e.eval x = some (.pointer (some ⟨r, 0, none⟩))) (hn : Nat.blt d n = true) (hp : ¬ p < l.length)
    (k : K ⟨n, (d, .tuple [.bool false].toArray) :: e, H, .obj r (sit l p) :: M, L, D⟩) :
    Ef F P c ⟨some d, .next x true, ty, pos, after, g⟩ ⟨n, e, H, .obj r (sit l p) :: M, L, D⟩ K := Ef_of_run hF fun a w hs => by
  have hr : w.heap[r]? = some (sit l p) := hs.holds.own (.obj r (sit l p)) (by simp)
  refine ⟨_, w, ?_, _, ok_put hs hn hs.holds, k⟩
  have hs' : ¬ p < (ByteArray.mk l.toArray).size := by rw [bs_size]; exact hp
  simp only [execOp, hs.env.eval hx, Instr.next, getObj, Sem.run_bind, Sem.run, hr, Result.andThen_ok, hs', if_false]
  simp
/-- a call of a bound method value -/
theorem Ef_callb (hF : WideF F) {f : FuncId} {args first : List Value} {post : Value → Hp → Own → Prop} {at_ : Array TypeId} [hf : FunC P f] {xs : Array Operand} (h : Fn P f (first ++ args) H I post) (hz : e.eval z = some (.func (.func f) first.toArray #[])) (hx : EvalAll e xs.toList args) (hn : Nat.blt d n = true)
    (k : ∀ v H' I', HLe H H' → post v H' I' → K ⟨n, (d, v) :: e, H', I' ++ M', L, D⟩) :
    Ef F P c ⟨some d, .call { callee := .value z, args := xs, argTypes := at_ }, ty, pos, after, g⟩ ⟨n, e, H, I ++ M', L, D⟩ K := by
  intro a w hs
  have hm := EvalAll.map hs.env hx
  have hm' : xs.map a.eval = args.toArray := by
    apply Array.ext'
    simpa using hm
  have hz' := hs.env.eval hz
  have hr : (execOp a.eval ⟨some d, .call { callee := .value z, args := xs, argTypes := at_ }, ty, pos, after, g⟩).run P w = .ok (.enter f (first ++ args).toArray) w := by
    simp only [execOp, resolve, hm', hz', Deferred.ofValue, Sem.run_bind, Sem.run_pure, Result.andThen_ok, invoke, List.append_toArray, List.append_nil]
    rw [hf.run]
  refine ⟨fun f _ => hF.fn f, ?_⟩
  rw [Oper.semAt_eq _ _ _ (by simp), hr]
  refine ⟨(fun hd => (by rw [hF.depth] at hd; cases hd)), callsIn_of_calls hF ?_⟩
  have hh0 : Holds c H (I ++ (M' ++ L)) w := by have := hs.holds; simpa [List.append_assoc] using this
  refine (Calls_of_Fn h hh0).mono ?_
  rintro e' w' ⟨v, H', I', he, hle, hh, hq⟩
  subst he
  exact ⟨_, ok_put hs hn (M'' := I' ++ M') (by simpa [List.append_assoc] using hh), k v H' I' hle hq⟩
end
theorem get_bat {l : List UInt8} {i : Nat} : (((ByteArray.mk l.toArray).get! i).toNat : Int) = bat l i := by
  simp only [bat, ByteArray.get!, Int.toNat_natCast]
  congr 1
  by_cases h : i < l.length
  · simp [h]
  · simp [h, List.getD, getElem!_neg]
    rfl
theorem rdec_low {l : List UInt8} {i : Nat} (h : bat l i < 128) : (((rdec l i).1 : Nat) : Int) = bat l i ∧ (rdec l i).2 = 1 := by
  have hb := get_bat (l := l) (i := i)
  have hn : ((ByteArray.mk l.toArray).get! (i + 0)).toNat < 128 := by rw [Nat.add_zero]; omega
  simp only [rdec, Utf8.decode, hn, if_true]
  exact ⟨by rw [Nat.add_zero]; exact hb, trivial⟩
theorem rdec_high {l : List UInt8} {i : Nat} (h : 128 ≤ bat l i) : 128 ≤ (rdec l i).1 ∧ 1 ≤ (rdec l i).2 ∧ ∀ k, k < (rdec l i).2 → 128 ≤ bat l ((i + k : Nat) : Int) ∧ (0 < k → i + k < l.length) := by
  have hg : ∀ k, (((ByteArray.mk l.toArray).get! (i + k)).toNat : Int) = bat l ((i + k : Nat) : Int) := fun k => get_bat
  have h0 := hg 0
  rw [Nat.add_zero] at h0
  have hn : ¬ ((ByteArray.mk l.toArray).get! (i + 0)).toNat < 128 := by rw [Nat.add_zero]; omega
  have h1 := hg 1
  have h2 := hg 2
  have h3 := hg 3
  have key : ∀ m : Nat, (∀ k, 0 < k → k < m → 128 ≤ bat l ((i + k : Nat) : Int) ∧ i + k < l.length) → ∀ k, k < m → 128 ≤ bat l ((i + k : Nat) : Int) ∧ (0 < k → i + k < l.length) := fun m hm k hk => by
    rcases Nat.eq_zero_or_pos k with rfl | hp
    · exact ⟨h, fun h => absurd h (by omega)⟩
    · exact ⟨(hm k hp hk).1, fun _ => (hm k hp hk).2⟩
  simp only [rdec, Utf8.decode, hn, if_false]
  repeat' split
  all_goals
    refine ⟨?_, ?_, key _ ?_⟩
    · first | (simp_all [Utf8.runeError]; done) | (simp_all [Utf8.runeError]; omega)
    · simp
    · intro k k0 k1
      dsimp only at k1
      simp only [Bool.and_eq_true, decide_eq_true_eq, beq_iff_eq, bs_size] at *
      have hk : k = 1 ∨ k = 2 ∨ k = 3 := by omega
      rcases hk with rfl | rfl | rfl <;> exact ⟨by omega, by omega⟩
end Go.Proofs.YtnoadopmeoohmaaGreatDoor
