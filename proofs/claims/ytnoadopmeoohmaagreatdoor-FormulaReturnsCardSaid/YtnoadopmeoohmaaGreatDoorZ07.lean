import Derived.Test.YtnoadopmeoohmaaGreatDoorZ06
import Derived.Test.YtnoadopmeoohmaaGreatDoorZ05
import Derived.Lib.OthersKept
import Derived.Laws.RangeAny
/-
  Expressions, values and bindings as data.
  The law's small: some result. Arities and reserved words of both sides. Printed by genF2.py.
-/
namespace Go.Proofs.YtnoadopmeoohmaaGreatDoor
open Go
set_option linter.unusedVariables false
set_option linter.unusedSimpArgs false
section
inductive Nd where
  | mk (op num : Int) (text : List UInt8) (args : List Nd)
namespace Nd
def op : Nd → Int | .mk o _ _ _ => o
def num : Nd → Int | .mk _ n _ _ => n
def text : Nd → List UInt8 | .mk _ _ t _ => t
def args : Nd → List Nd | .mk _ _ _ l => l
end Nd
mutual
def Nd.mass : Nd → Nat
  | .mk _ _ t l => 1 + t.length + massN l
def massN : List Nd → Nat
  | [] => 0
  | x :: l => x.mass + massN l
end
noncomputable instance : DecidableEq Nd := fun a b => Classical.propDecidable (a = b)
structure Val where
  kind : Int
  num : Int
  text : List UInt8
  deriving DecidableEq
structure Bnd where
  name : List UInt8
  val : Val
  deriving DecidableEq
def vlrow (v : Val) : List Value := [.int .i64 v.kind, .int .i64 v.num, sv v.text]
def bdrow (b : Bnd) : List Value := [sv b.name, .int .i64 b.val.kind, .int .i64 b.val.num, sv b.val.text]
theorem vlrow_one (l : List Val) : ∀ cs ∈ l.map vlrow, ∀ u ∈ cs, u.oneCell' = true := by
  intro cs hcs u hu
  obtain ⟨p, _, rfl⟩ := List.mem_map.1 hcs
  simp [vlrow] at hu
  rcases hu with rfl | rfl | rfl <;> rfl
theorem bdrow_one (l : List Bnd) : ∀ cs ∈ l.map bdrow, ∀ u ∈ cs, u.oneCell' = true := by
  intro cs hcs u hu
  obtain ⟨p, _, rfl⟩ := List.mem_map.1 hcs
  simp [bdrow] at hu
  rcases hu with rfl | rfl | rfl | rfl <;> rfl
mutual
inductive NodeH (H : Hp) : List Value → Nd → Prop where
  | mk {op num : Int} {text : List UInt8} {args : List Nd} {a : Option Addr} {n c : Nat} {css : List (List Value)} (hr : HRow H a n c 4 css) (hs : NodesH H css args) :
    NodeH H [.int .i64 op, .int .i64 num, sv text, .slice a n c] (.mk op num text args)
inductive NodesH (H : Hp) : List (List Value) → List Nd → Prop where
  | nil : NodesH H [] []
  | cons {cs : List Value} {x : Nd} {css : List (List Value)} {l : List Nd} (h : NodeH H cs x) (t : NodesH H css l) : NodesH H (cs :: css) (x :: l)
end
mutual
theorem NodeH.mono {H H' : Hp} (hl : HLe H H') {cs : List Value} {x : Nd} : NodeH H cs x → NodeH H' cs x
  | .mk hr hs => .mk (hr.mono hl) (hs.mono hl)
theorem NodesH.mono {H H' : Hp} (hl : HLe H H') {css : List (List Value)} {l : List Nd} : NodesH H css l → NodesH H' css l
  | .nil => .nil
  | .cons h t => .cons (h.mono hl) (t.mono hl)
end
theorem NodesH.all {H : Hp} {css : List (List Value)} {l : List Nd} (h : NodesH H css l) : All2 (NodeH H) css l := by
  induction l generalizing css with
  | nil => cases h; exact .nil
  | cons x l ih => cases h with | cons h t => exact .cons h (ih t)
theorem NodesH.of {H : Hp} {css : List (List Value)} {l : List Nd} (h : All2 (NodeH H) css l) : NodesH H css l := by
  induction h with
  | nil => exact .nil
  | cons h t ih => exact .cons h ih
abbrev NodesS (H : Hp) := SlH (α := Nd) H NodeH 4
theorem NodesS.mono {H H' : Hp} (hl : HLe H H') {a : Option Addr} {n c : Nat} {l : List Nd} (h : NodesS H a n c l) : NodesS H' a n c l := by
  obtain ⟨css, h1, h2⟩ := h.ex; exact ⟨css, h1.mono hl, h2.mono fun _ _ h => h.mono hl⟩
theorem NodesS.nil (H : Hp) : NodesS H none 0 0 [] := ⟨[], HRow.nil' H 4, .nil⟩
theorem NodeH.cells {H : Hp} {cs : List Value} {x : Nd} (h : NodeH H cs x) : ∃ (a : Option Addr) (n c : Nat), cs = [.int .i64 x.op, .int .i64 x.num, sv x.text, .slice a n c] ∧ NodesS H a n c x.args := by
  cases h with
  | mk hr hs => exact ⟨_, _, _, rfl, ⟨_, hr, hs.all⟩⟩
theorem NodeH.of {H : Hp} {x : Nd} {a : Option Addr} {n c : Nat} (h : NodesS H a n c x.args) : NodeH H [.int .i64 x.op, .int .i64 x.num, sv x.text, .slice a n c] x := by
  obtain ⟨op, num, text, args⟩ := x
  obtain ⟨css, h1, h2⟩ := h.ex
  exact NodeH.mk h1 (NodesH.of h2)
theorem NodeH.one {H : Hp} {cs : List Value} {x : Nd} (h : NodeH H cs x) : ∀ u ∈ cs, u.oneCell' = true := by
  obtain ⟨a, n, c, rfl, _⟩ := h.cells
  intro u hu
  simp at hu
  rcases hu with rfl | rfl | rfl | rfl <;> rfl
theorem Nd.mass_eq (x : Nd) : x.mass = 1 + x.text.length + massN x.args := by obtain ⟨o, n, t, l⟩ := x; simp [Nd.mass, Nd.text, Nd.args]
theorem massN_len : ∀ l : List Nd, l.length ≤ massN l
  | [] => by simp
  | x :: l => by have := massN_len l; have := x.mass_eq; simp only [massN, List.length_cons]; omega
theorem massN_get {l : List Nd} {i : Nat} {x : Nd} (h : l[i]? = some x) : x.mass ≤ massN l := by
  induction l generalizing i with
  | nil => simp at h
  | cons y l ih =>
    cases i with
    | zero => simp at h; subst h; simp only [massN]; omega
    | succ i => simp at h; have := ih h; simp only [massN]; omega
end
theorem take_getN {α : Type} {l : List α} {i : Nat} {x : α} (h : l[i]? = some x) : l.take (i + 1) = l.take i ++ [x] := by
  rw [List.take_add_one, h]; rfl
def arityN (op : Int) : Int := if op ≤ 4 then 0 else if op = 8 ∨ op = 21 then 1 else 2
def resv (s : List UInt8) : Bool := decide (s = [97, 110, 100]) || decide (s = [111, 114]) || decide (s = [110, 111, 116]) || decide (s = [116, 114, 117, 101]) || decide (s = [102, 97, 108, 115, 101])
attribute [local irreducible] wpA opsA drJ drQ drE Ef Ev Shift Fn
theorem arity_fn {H : Hp} {op : Int} : FnP Tryz.prog 69 [.int .i64 op] H (.int .i64 (arityN op)) := by
  refine Fn_of _ _ Tryz.func69 rfl Tryz.ntmps69 rfl fun c => ?_
  repeat' (first | refine O_nil ?_ | refine A_seq ?_ | refine A_region ?_ | refine A_skip ?_ | refine A_ret ?_ | refine A_block ?_ | (show opsA _ _ _ _ _ _ _; first | (refine O_split rfl rfl (fun h => ?_) (fun h => ?_) <;> try (exfalso; omega)) | refine O_ev WideF.wide rfl (Ev_pure rfl) rfl rfl ?_ | refine O_skip WideF.wide rfl rfl rfl ?_) | (show wpA _ _ _ (.cond _ _ _) _ _ _ _; first | (refine A_if rfl (fun h => ?_) (fun h => ?_) <;> try (exfalso; omega)) | refine A_iftrue rfl ?_))
  all_goals first
    | (exfalso; omega)
    | ((refine End_p (Ret1 rfl rfl) ?_); refine congrArg (Value.int .i64) ?_; unfold arityN; grind)
    | trace_state
theorem reserved_fn {H : Hp} {s : List UInt8} : FnP Tryz.prog 72 [sv s] H (.bool (resv s)) := by
  refine Fn_of _ _ Tryz.func72 rfl Tryz.ntmps72 rfl fun c => ?_
  repeat' (first | refine O_nil ?_ | refine A_seq ?_ | refine A_region ?_ | refine A_ret ?_ | (show opsA _ _ _ _ _ _ _; first | (refine O_split rfl rfl (fun h => ?_) (fun h => ?_) <;> try (exfalso; omega)) | refine O_ev WideF.wide rfl (Ev_pure rfl) rfl rfl ?_ | (show opsA _ _ _ _ (⟨_, .binOp _ _ _ _ _, _, _, _, _⟩ :: _) _ _; refine O_ev WideF.wide rfl (Ev_seql rfl rfl) rfl rfl ?_) | refine O_skip WideF.wide rfl rfl rfl ?_))
  all_goals first
    | (exfalso; omega)
    | ((refine End_p (Ret1 rfl rfl) ?_); refine congrArg Value.bool ?_; unfold resv; simp [*]; done)
    | ((refine End_p (Ret1 rfl rfl) ?_); refine congrArg Value.bool ?_; unfold resv; grind)
    | trace_state
def SmallC (N : Nat) : Prop := ∀ (H : Hp) (cs : List Value) (x : Nd) (b : Nat) (z lv : Int), NodeH H cs x → x.mass < N → x.mass < 34359738368 → x.mass - 1099511627776 ≤ z → z ≤ 1000 → 0 ≤ lv → lv ≤ 1000 →
  Fn Tryz.prog 34 [.agg cs.toArray, .int .i64 lv, .pointer (some ⟨b, 0, none⟩)] H [.box b [.int .i64 z]] fun v _ I => ∃ (r : Bool) (z' : Int), v = .bool r ∧ I = [.box b [.int .i64 z']] ∧ z - x.mass ≤ z' ∧ z' ≤ z
end Go.Proofs.YtnoadopmeoohmaaGreatDoor
/-
  Range over the runes of a string; calls of bound method values.
-/
namespace Go.Proofs.YtnoadopmeoohmaaGreatDoor
open Go
set_option linter.unusedVariables false
set_option linter.unusedSimpArgs false
abbrev sit (l : List UInt8) (pos : Nat) : Obj := .stringIter ⟨l.toArray⟩ pos
def rdec (l : List UInt8) (pos : Nat) : Nat × Nat := Utf8.decode ⟨l.toArray⟩ pos
section
variable {F : Fence} {P : Program} {c : Ctx} {K : SP} {n : Nat} {e : Env} {H : Hp} {M M' L I : Own} {D : List Deferred} {x y z : Operand} {d : Tmp} {ty t t2 : TypeId} {pos : String} {after : Array Edge} {g : Option (Nat × Bool)} {v : Value} {b r : Nat}
theorem Ef_rangeS (hF : WideF F) {l : List UInt8} [ht : UndC P t .string] (hx : e.eval x = some (sv l)) (hn : Nat.blt d n = true)
    (k : ∀ r, K ⟨n, (d, .pointer (some ⟨r, 0, none⟩)) :: e, H, .obj r (sit l 0) :: M, L, D⟩) :
    Ef F P c ⟨some d, .range t x, ty, pos, after, g⟩ ⟨n, e, H, M, L, D⟩ K := Ef_of_run hF fun a w hs => by
  refine ⟨.pointer (some ⟨w.heap.size, 0, none⟩), w.alloc (sit l 0), ?_, _, ok_put hs hn (hs.holds.allocO _), k _⟩
  have h := run_range_string (P := P) w t ⟨l.toArray⟩ ht.und
  simp only [execOp, hs.env.eval hx, h, Sem.run_bind, Sem.run_pure, Result.andThen_ok]
  rfl
theorem Ef_nextS (hF : WideF F) {l : List UInt8} {p : Nat} (hx : e.eval x = some (.pointer (some ⟨r, 0, none⟩))) (hn : Nat.blt d n = true) (hp : p < l.length)
    (k : K ⟨n, (d, .tuple [.bool true, .int .i64 p, .int .i32 (rdec l p).1].toArray) :: e, H, .obj r (sit l (p + (rdec l p).2)) :: M, L, D⟩) :
    Ef F P c ⟨some d, .next x true, ty, pos, after, g⟩ ⟨n, e, H, .obj r (sit l p) :: M, L, D⟩ K := Ef_of_run hF fun a w hs => by
  have hr : w.heap[r]? = some (sit l p) := hs.holds.own (.obj r (sit l p)) (by simp)
  refine ⟨_, w.putObj r (sit l (p + (rdec l p).2)), ?_, _, ok_put hs hn (hs.holds.putObj _), k⟩
  have hs' : p < (ByteArray.mk l.toArray).size := by rw [bs_size]; exact hp
  have h6 : (setObj r (sit l (p + (rdec l p).2))).run P w = .ok () (w.putObj r (sit l (p + (rdec l p).2))) := by simp [setObj, Sem.run, hr, World.putObj]
  simp only [execOp, hs.env.eval hx, Instr.next, getObj, Sem.run_bind, Sem.run, hr, Result.andThen_ok, hs', if_true]
  simp only [rdec] at h6 ⊢
  simp [goInt, h6]
theorem Ef_nextS0 (hF : WideF F) {l : List UInt8} {p : Nat} (hx : e.eval x = some (.pointer (some ⟨r, 0, none⟩))) (hn : Nat.blt d n = true) (hp : ¬ p < l.length)
    (k : K ⟨n, (d, .tuple [.bool false].toArray) :: e, H, .obj r (sit l p) :: M, L, D⟩) :
    Ef F P c ⟨some d, .next x true, ty, pos, after, g⟩ ⟨n, e, H, .obj r (sit l p) :: M, L, D⟩ K := Ef_of_run hF fun a w hs => by
  have hr : w.heap[r]? = some (sit l p) := hs.holds.own (.obj r (sit l p)) (by simp)
  refine ⟨_, w, ?_, _, ok_put hs hn hs.holds, k⟩
  have hs' : ¬ p < (ByteArray.mk l.toArray).size := by rw [bs_size]; exact hp
  simp only [execOp, hs.env.eval hx, Instr.next, getObj, Sem.run_bind, Sem.run, hr, Result.andThen_ok, hs', if_false]
  simp
/-- a call of a bound method value -/
theorem Ef_callb (hF : WideF F) {f : FuncId} {args first : List Value} {post : Value → Hp → Own → Prop} {at_ : Array TypeId} [hf : FunC P f] {xs : Array Operand} (h : Fn P f (first ++ args) H I post) (hz : e.eval z = some (.func (.func f) first.toArray #[])) (hx : EvalAll e xs.toList args) (hn : Nat.blt d n = true)
    (k : ∀ v H' I', HLe H H' → post v H' I' → K ⟨n, (d, v) :: e, H', I' ++ M', L, D⟩) :
    Ef F P c ⟨some d, .call { callee := .value z, args := xs, argTypes := at_ }, ty, pos, after, g⟩ ⟨n, e, H, I ++ M', L, D⟩ K := by
  intro a w hs
  have hm := EvalAll.map hs.env hx
  have hm' : xs.map a.eval = args.toArray := by
    apply Array.ext'
    simpa using hm
  have hz' := hs.env.eval hz
  have hr : (execOp a.eval ⟨some d, .call { callee := .value z, args := xs, argTypes := at_ }, ty, pos, after, g⟩).run P w = .ok (.enter f (first ++ args).toArray) w := by
    simp only [execOp, resolve, hm', hz', Deferred.ofValue, Sem.run_bind, Sem.run_pure, Result.andThen_ok, invoke, List.append_toArray, List.append_nil]
    rw [hf.run]
  refine ⟨fun f _ => hF.fn f, ?_⟩
  rw [Oper.semAt_eq _ _ _ (by simp), hr]
  refine ⟨(fun hd => (by rw [hF.depth] at hd; cases hd)), callsIn_of_calls hF ?_⟩
  have hh0 : Holds c H (I ++ (M' ++ L)) w := by have := hs.holds; simpa [List.append_assoc] using this
  refine (Calls_of_Fn h hh0).mono ?_
  rintro e' w' ⟨v, H', I', he, hle, hh, hq⟩
  subst he
  exact ⟨_, ok_put hs hn (M'' := I' ++ M') (by simpa [List.append_assoc] using hh), k v H' I' hle hq⟩
end
theorem get_bat {l : List UInt8} {i : Nat} : (((ByteArray.mk l.toArray).get! i).toNat : Int) = bat l i := by
  simp only [bat, ByteArray.get!, Int.toNat_natCast]
  congr 1
  by_cases h : i < l.length
  · simp [h]
  · simp [h, List.getD, getElem!_neg]
    rfl
theorem rdec_low {l : List UInt8} {i : Nat} (h : bat l i < 128) : (((rdec l i).1 : Nat) : Int) = bat l i ∧ (rdec l i).2 = 1 := by
  have hb := get_bat (l := l) (i := i)
  have hn : ((ByteArray.mk l.toArray).get! (i + 0)).toNat < 128 := by rw [Nat.add_zero]; omega
  simp only [rdec, Utf8.decode, hn, if_true]
  exact ⟨by rw [Nat.add_zero]; exact hb, trivial⟩
theorem rdec_high {l : List UInt8} {i : Nat} (h : 128 ≤ bat l i) : 128 ≤ (rdec l i).1 ∧ 1 ≤ (rdec l i).2 ∧ ∀ k, k < (rdec l i).2 → 128 ≤ bat l ((i + k : Nat) : Int) ∧ (0 < k → i + k < l.length) := by
  have hg : ∀ k, (((ByteArray.mk l.toArray).get! (i + k)).toNat : Int) = bat l ((i + k : Nat) : Int) := fun k => get_bat
  have h0 := hg 0
  rw [Nat.add_zero] at h0
  have hn : ¬ ((ByteArray.mk l.toArray).get! (i + 0)).toNat < 128 := by rw [Nat.add_zero]; omega
  have h1 := hg 1
  have h2 := hg 2
  have h3 := hg 3
  have key : ∀ m : Nat, (∀ k, 0 < k → k < m → 128 ≤ bat l ((i + k : Nat) : Int) ∧ i + k < l.length) → ∀ k, k < m → 128 ≤ bat l ((i + k : Nat) : Int) ∧ (0 < k → i + k < l.length) := fun m hm k hk => by
    rcases Nat.eq_zero_or_pos k with rfl | hp
    · exact ⟨h, fun h => absurd h (by omega)⟩
    · exact ⟨(hm k hp hk).1, fun _ => (hm k hp hk).2⟩
  simp only [rdec, Utf8.decode, hn, if_false]
  repeat' split
  all_goals
    refine ⟨?_, ?_, key _ ?_⟩
    · first | (simp_all [Utf8.runeError]; done) | (simp_all [Utf8.runeError]; omega)
    · simp
    · intro k k0 k1
      dsimp only at k1
      simp only [Bool.and_eq_true, decide_eq_true_eq, beq_iff_eq, bs_size] at *
      have hk : k = 1 ∨ k = 2 ∨ k = 3 := by omega
      rcases hk with rfl | rfl | rfl <;> exact ⟨by omega, by omega⟩
end Go.Proofs.YtnoadopmeoohmaaGreatDoor
