/-
  Closures with what they have captured; maps with integer keys.
-/
import Derived.Test.YthniohgeojenaaaA11
import Derived.MapKept
namespace Go.Proofs.Ythniohgeojenaaa
open Go
set_option linter.unusedVariables false
set_option linter.unusedSimpArgs false

section
variable {F : Fence} {P : Program} {c : Ctx} {o : Oper} {K : SP} {n : Nat} {e : Env} {H : Hp} {M M' L I : Own} {R : Own} {D : List Deferred} {dst : Option Tmp} {d : Nat} {ty : TypeId} {pos : String} {after : Array Edge} {g : Option (Nat × Bool)} {x y z : Operand} {v : Value} {t : TypeId} {b : Nat}

/-- a call of a closure -/
theorem Ef_callc (hF : WideF F) {f : FuncId} {args caps : List Value} {post : Value → Hp → Own → Prop} {at_ : Array TypeId} [hf : FunC P f] {xs : Array Operand} (h : Fn P f (args ++ caps) H I post) (hz : e.eval z = some (.func (.func f) #[] caps.toArray)) (hx : EvalAll e xs.toList args) (hn : Nat.blt d n = true)
    (k : ∀ v H' I', HLe H H' → post v H' I' → K ⟨n, (d, v) :: e, H', I' ++ M', L, D⟩) :
    Ef F P c ⟨some d, .call { callee := .value z, args := xs, argTypes := at_ }, ty, pos, after, g⟩ ⟨n, e, H, I ++ M', L, D⟩ K := by
  intro a w hs
  have hm := EvalAll.map hs.env hx
  have hm' : xs.map a.eval = args.toArray := by
    apply Array.ext'
    simpa using hm
  have hz' := hs.env.eval hz
  have hr : (execOp a.eval ⟨some d, .call { callee := .value z, args := xs, argTypes := at_ }, ty, pos, after, g⟩).run P w = .ok (.enter f (args ++ caps).toArray) w := by
    simp only [execOp, resolve, hm', hz', Deferred.ofValue, Sem.run_bind, Sem.run_pure, Result.andThen_ok, invoke, List.append_toArray, List.nil_append]
    rw [hf.run]
  refine ⟨fun f _ => hF.fn f, ?_⟩
  rw [Oper.semAt_eq _ _ _ (by simp), hr]
  refine ⟨(fun hd => (by rw [hF.depth] at hd; cases hd)), callsIn_of_calls hF ?_⟩
  have hh0 : Holds c H (I ++ (M' ++ L)) w := by have := hs.holds; simpa [List.append_assoc] using this
  refine (Calls_of_Fn h hh0).mono ?_
  rintro e' w' ⟨v, H', I', he, hle, hh, hq⟩
  subst he
  exact ⟨_, ok_put hs hn (M'' := I' ++ M') (by simpa [List.append_assoc] using hh), k v H' I' hle hq⟩
theorem Ef_callcp (hF : WideF F) {f : FuncId} {args caps : List Value} {u : Value} {at_ : Array TypeId} [hf : FunC P f] {xs : Array Operand} (h : FnP P f (args ++ caps) H u) (hz : e.eval z = some (.func (.func f) #[] caps.toArray)) (hx : EvalAll e xs.toList args) (hn : Nat.blt d n = true)
    (k : K ⟨n, (d, u) :: e, H, M, L, D⟩) :
    Ef F P c ⟨some d, .call { callee := .value z, args := xs, argTypes := at_ }, ty, pos, after, g⟩ ⟨n, e, H, M, L, D⟩ K :=
  Ef_callc (I := []) (M' := M) hF h hz hx hn fun v' H' I' _ ⟨h1, h2, h3⟩ => by subst h1 h2 h3; exact k

/-! ### a map with integer keys, nothing ever deleted -/
def ments (i : Nat) : List (Int × Value) → List MapEntry
  | [] => []
  | p :: r => ⟨.int .i64 p.1, p.2, i⟩ :: ments (i + 1) r
abbrev mobj (kvs : List (Int × Value)) : Obj := .map (ments 0 kvs).toArray kvs.length
def mget (z : Value) : List (Int × Value) → Int → Value
  | [], _ => z
  | p :: r, x => if x = p.1 then p.2 else mget z r x
def mhas : List (Int × Value) → Int → Prop
  | [], _ => False
  | p :: r, x => x = p.1 ∨ mhas r x
theorem ments_length (i : Nat) (kvs : List (Int × Value)) : (ments i kvs).length = kvs.length := by
  induction kvs generalizing i with
  | nil => rfl
  | cons p r ih => simp [ments, ih]
theorem ments_snoc (i : Nat) (kvs : List (Int × Value)) (p : Int × Value) : ments i (kvs ++ [p]) = ments i kvs ++ [⟨.int .i64 p.1, p.2, i + kvs.length⟩] := by
  induction kvs generalizing i with
  | nil => simp [ments]
  | cons q r ih => simp [ments, ih]; omega
theorem mget_no {z : Value} {kvs : List (Int × Value)} {x : Int} (h : ¬ mhas kvs x) : mget z kvs x = z := by
  induction kvs with
  | nil => rfl
  | cons p r ih =>
    simp only [mhas, not_or] at h
    rw [mget, if_neg h.1, ih h.2]
theorem findNow_m (x : Int) (z : Value) : ∀ (kvs : List (Int × Value)) (i j : Nat), ∃ r, Instr.findNow (.int .i64) (.int .i64 x) (ments i kvs) j = some r ∧ ((∃ q, r = some (q, mget z kvs x) ∧ mhas kvs x) ∨ (r = none ∧ ¬ mhas kvs x))
  | [], i, j => ⟨none, rfl, .inr ⟨rfl, id⟩⟩
  | p :: r, i, j => by
    simp only [ments, Instr.findNow, Instr.sameNow, if_true]
    by_cases h : x = p.1
    · subst h
      exact ⟨some (j, p.2), by simp, .inl ⟨j, by simp [mget], .inl rfl⟩⟩
    · have hb : (x == p.1) = false := by simpa using h
      obtain ⟨q, h1, h2⟩ := findNow_m x z r (i + 1) (j + 1)
      refine ⟨q, by simpa [hb] using h1, ?_⟩
      rcases h2 with ⟨q', h3, h4⟩ | ⟨h3, h4⟩
      · exact .inl ⟨q', by rw [h3, mget, if_neg h], .inr h4⟩
      · exact .inr ⟨h3, fun h5 => h5.elim h h4⟩
theorem run_checkKey_int {kt : TypeId} (hk : P.underlying kt = some (.int .i64)) (em : Bool) (x : Int) (w : World) : (Instr.checkKey em 10000 kt (.int .i64 x)).run P w = .ok () w := by
  have key : ∀ d, (Instr.checkKey em (d + 1) kt (.int .i64 x)).run P w = .ok () w := fun d => by
    simp [Instr.checkKey, run_underlying hk]
  exact key 9999
/-- m[k] -/
theorem Ev_lookupI {kt et : TypeId} {kvs : List (Int × Value)} {q : Int} {zv : Value} {i : Nat} [ht : UndC P t (.map kt et)] [hk : UndC P kt (.int .i64)] (hzv : ∀ w, (zeroValue et).run P w = .ok zv w) (hx : e.eval x = some (.map (some b))) (hy : e.eval y = some (.int .i64 q)) (hR : oget R i = some (.obj b (mobj kvs))) :
    Ev P ⟨dst, .lookup t x y false, ty, pos, after, g⟩ e H R (mget zv kvs q) := fun a w he _ hr => by
  have hb : w.heap[b]? = some (mobj kvs) := hr _ (oget_mem hR)
  have h1 := MapKept.run_getObj_map (P := P) hb
  have h2 := fun em => run_checkKey_int (P := P) hk.und em q w
  obtain ⟨r, h3, h4⟩ := findNow_m q zv kvs 0 0
  rcases h4 with ⟨q', rfl, h5⟩ | ⟨rfl, h5⟩
  · simp [execOp, he.eval hx, he.eval hy, Instr.lookup, ht.run, h1, h2, Instr.findKey, hk.run, h3]
  · simp [execOp, he.eval hx, he.eval hy, Instr.lookup, ht.run, h1, h2, Instr.findKey, hk.run, h3, hzv, mget_no h5]
theorem Ev_lookupIok {kt et : TypeId} {kvs : List (Int × Value)} {q : Int} {zv : Value} {i : Nat} [Decidable (mhas kvs q)] [ht : UndC P t (.map kt et)] [hk : UndC P kt (.int .i64)] (hzv : ∀ w, (zeroValue et).run P w = .ok zv w) (hx : e.eval x = some (.map (some b))) (hy : e.eval y = some (.int .i64 q)) (hR : oget R i = some (.obj b (mobj kvs))) :
    Ev P ⟨dst, .lookup t x y true, ty, pos, after, g⟩ e H R (.tuple [mget zv kvs q, .bool (decide (mhas kvs q))].toArray) := fun a w he _ hr => by
  have hb : w.heap[b]? = some (mobj kvs) := hr _ (oget_mem hR)
  have h1 := MapKept.run_getObj_map (P := P) hb
  have h2 := fun em => run_checkKey_int (P := P) hk.und em q w
  obtain ⟨r, h3, h4⟩ := findNow_m q zv kvs 0 0
  rcases h4 with ⟨q', rfl, h5⟩ | ⟨rfl, h5⟩
  · simp [execOp, he.eval hx, he.eval hy, Instr.lookup, ht.run, h1, h2, Instr.findKey, hk.run, h3, decide_eq_true h5]
  · simp [execOp, he.eval hx, he.eval hy, Instr.lookup, ht.run, h1, h2, Instr.findKey, hk.run, h3, hzv, mget_no h5, decide_eq_false h5]
/-- make(map[..]..) -/
theorem Ef_makeMap (hF : WideF F) (hn : Nat.blt d n = true) (k : ∀ b, K ⟨n, (d, .map (some b)) :: e, H, .obj b (mobj []) :: M, L, D⟩) :
    Ef F P c ⟨some d, .makeMap t none, ty, pos, after, g⟩ ⟨n, e, H, M, L, D⟩ K := Ef_of_run hF fun a w hs => by
  refine ⟨.map (some w.heap.size), w.alloc (mobj []), ?_, _, ok_put hs hn (hs.holds.allocO _), k _⟩
  have hno : (newObj (mobj [])).run P w = .ok w.heap.size (w.alloc (mobj [])) := rfl
  have hm : (mobj []) = .map #[] 0 := rfl
  rw [hm] at hno ⊢
  simp only [execOp, Instr.makeMap, Option.map_none, Sem.run_bind, Sem.run_pure, Result.andThen_ok, hno]
/-- m[k] = v, k being new -/
theorem Ef_mapNew (hF : WideF F) {kt et : TypeId} {kvs : List (Int × Value)} {q : Int} [ht : UndC P t (.map kt et)] [hk : UndC P kt (.int .i64)] (hx : e.eval x = some (.map (some b))) (hy : e.eval y = some (.int .i64 q)) (hz : e.eval z = some v) (hno : ¬ mhas kvs q)
    (k : K ⟨n, e, H, .obj b (mobj (kvs ++ [(q, v)])) :: M, L, D⟩) :
    Ef F P c ⟨none, .mapUpdate t x y z, ty, pos, after, g⟩ ⟨n, e, H, .obj b (mobj kvs) :: M, L, D⟩ K := Ef_of_skip hF (by simp) fun a w hs => by
  have hb : w.heap[b]? = some (mobj kvs) := hs.holds.own (.obj b (mobj kvs)) (by simp)
  have h1 := MapKept.run_getObj_map (P := P) hb
  have h2 := run_checkKey_int (P := P) hk.und false q w
  obtain ⟨r, h3, h4⟩ := findNow_m q v kvs 0 0
  rcases h4 with ⟨q', rfl, h5⟩ | ⟨rfl, h5⟩
  · exact absurd h5 hno
  have h6 := MapKept.run_setObj_map (P := P) (mobj (kvs ++ [(q, v)])) hb
  have h7 : (mobj (kvs ++ [(q, v)])) = .map ((ments 0 kvs).toArray.push ⟨.int .i64 q, v, kvs.length⟩) (kvs.length + 1) := by
    simp [mobj, ments_snoc]
  refine ⟨w.putObj b (mobj (kvs ++ [(q, v)])), ?_, ⟨n, e, H, .obj b (mobj (kvs ++ [(q, v)])) :: M, L, D⟩, ⟨hs.defers, hs.size, hs.env, hs.holds.putObj _⟩, k⟩
  have h9 : (setObj b (.map ((ments 0 kvs).toArray.push ⟨.int .i64 q, v, kvs.length⟩) (kvs.length + 1))).run P w = .ok () (w.putObj b (mobj (kvs ++ [(q, v)]))) := by rw [← h7]; exact h6
  simp only [execOp, hs.env.eval hx, hs.env.eval hy, hs.env.eval hz, Instr.mapUpdate, ht.run, h1, h2, Instr.findKey, hk.run, h3, Sem.run_bind, Sem.run_pure, Result.andThen_ok, h9]
end
end Go.Proofs.Ythniohgeojenaaa
