/-
  Appending zero elements to a nil slice.
  Closures with what they have captured; maps with integer keys.
  Owned rows: more of the same row, copy, zero elements behind a part.
  A row of one's own lent to a callee that reads it.
  Maps of numbers that tell what has been seen.
-/
import Derived.Test.YtnoadopmeoohmaaGreatDoorA11
import Derived.Lib.AppendZerosOnto
import Derived.MapKept
import Derived.Lib.Overlaps
namespace Go.Proofs.YtnoadopmeoohmaaGreatDoor
open Go
set_option linter.unusedVariables false
set_option linter.unusedSimpArgs false
section
/-! Appending zero elements to a nil slice. -/
section
variable {F : Fence} {P : Program} {c : Ctx} {K : SP} {t t2 ty : TypeId} {pos : String} {after : Array Edge} {g : Option (Nat × Bool)} {n d k : Nat} {e : Env} {H : Hp} {M L : Own} {D : List Deferred} {x y : Operand}
theorem Ef_growR (hF : WideF F) {el bytes m : Nat} {q : Int} {ag : Bool} {zc : List Value} [ht : UndC P t (.slice el)] [hu : UndC P t2 (.int .i64)] [hT : TyC P el ag k] [hI : InfoC P el bytes] [hz : ZeroL P el zc]
    (hx : e.eval x = some (.slice none 0 0)) (hy : e.eval y = some (.int .i64 q)) (hq : q = (m : Nat)) (hm : 0 < m) (hzk : Nat.beq zc.length k = true) (hk : Nat.blt 0 k = true) (hbytes : m * bytes ≤ 140737488355328) (hlen : m ≤ 9223372036854775807) (hn : Nat.blt d n = true)
    (kk : ∀ b cp, m ≤ cp → K ⟨n, (d, .slice (some ⟨b, 0, none⟩) m cp) :: e, H, .row (.slice (some ⟨b, 0, none⟩) 0 cp) k [] :: M, L, D⟩) :
    Ef F P c ⟨some d, .call { callee := .builtin .append, args := #[x, y], argTypes := #[t, t2] }, ty, pos, after, g⟩ ⟨n, e, H, .row (.slice none 0 0) k [] :: M, L, D⟩ K := Ef_of_run hF fun a w hs => by
  obtain ⟨i, z, hi, hsz, hby, hzz, hzc⟩ := info_of (P := P) (t := el) (hT := hT) (hI := hI) (hz := hz)
  have hzk' := Nat.eq_of_beq_eq_true hzk
  have hk' := Nat.le_of_ble_eq_true hk
  have hzs : z.cells.size = k := by rw [← hzk', ← hzc]; simp
  subst hby
  subst hq
  have hr := Lib.run_append_grow_zeros (P := P) w t t2 ty el i z .i64 .i64 ht.und hu.und hi hzz none 0 0 [] (run_firstCells_none w.drew i.size 0 0 0) m hm (by rw [hsz]; exact hk') (by omega) (by omega) (by omega) (growslice_fits (by omega) (by rw [Nat.zero_add]; exact hbytes))
  simp only [Nat.zero_add] at hr
  have hge := grownCap_ge w m 0 el
  have hsize : ∀ q, (Builtin.zeroCells z.cells q).size = q * k := fun q => by rw [size_zeroCells, hzs]
  have hok : RowOk (w.drew.alloc (.cells (#[] ++ Builtin.zeroCells z.cells m ++ Builtin.zeroCells z.cells (grownCap w m 0 el - m)) el)) (.slice (some ⟨w.heap.size, 0, none⟩) 0 (grownCap w m 0 el)) k [] := by
    refine .inr ⟨w.heap.size, grownCap w m 0 el, (#[] ++ Builtin.zeroCells z.cells m ++ Builtin.zeroCells z.cells (grownCap w m 0 el - m)).toList, el, rfl, by simp, by simp, ?_, ?_⟩
    · have := heap_alloc_new w.drew (.cells (#[] ++ Builtin.zeroCells z.cells m ++ Builtin.zeroCells z.cells (grownCap w m 0 el - m)) el)
      simp only [List.flatten_nil, List.nil_append, Array.toArray_toList]; exact this
    · simp only [List.flatten_nil, List.nil_append, Array.length_toList, Array.size_append, hsize, Array.size_empty, Nat.zero_add, ← Nat.add_mul]
      congr 1
      omega
  have hmv : Moves w (w.drew.alloc (.cells (#[] ++ Builtin.zeroCells z.cells m ++ Builtin.zeroCells z.cells (grownCap w m 0 el - m)) el)) (vblocks (.slice none 0 0)) := (Moves.drew w _).trans (Moves.alloc w.drew _ _)
  have hh := hs.holds.row (I := []) hok hmv (fun b hb => .inl (by simp [vblocks] at hb; omega))
  refine ⟨_, _, ?_, _, ok_put hs hn (M'' := .row _ k [] :: M) (hh.sublist (by simp)), kk w.heap.size (grownCap w m 0 el) hge⟩
  simp [execOp, resolve, invoke, builtin, hs.env.eval hx, hs.env.eval hy, Sem.run_bind, hr]
end
end
section
/-! Closures with what they have captured; maps with integer keys. -/

section
variable {F : Fence} {P : Program} {c : Ctx} {o : Oper} {K : SP} {n : Nat} {e : Env} {H : Hp} {M M' L I : Own} {R : Own} {D : List Deferred} {dst : Option Tmp} {d : Nat} {ty : TypeId} {pos : String} {after : Array Edge} {g : Option (Nat × Bool)} {x y z : Operand} {v : Value} {t : TypeId} {b : Nat}

/-- a call of a closure -/
theorem Ef_callc (hF : WideF F) {f : FuncId} {args caps : List Value} {post : Value → Hp → Own → Prop} {at_ : Array TypeId} [hf : FunC P f] {xs : Array Operand} (h : Fn P f (args ++ caps) H I post) (hz : e.eval z = some (.func (.func f) #[] caps.toArray)) (hx : EvalAll e xs.toList args) (hn : Nat.blt d n = true)
    (k : ∀ v H' I', HLe H H' → post v H' I' → K ⟨n, (d, v) :: e, H', I' ++ M', L, D⟩) :
    Ef F P c ⟨some d, .call { callee := .value z, args := xs, argTypes := at_ }, ty, pos, after, g⟩ ⟨n, e, H, I ++ M', L, D⟩ K := by
  intro a w hs
  have hm := EvalAll.map hs.env hx
  have hm' : xs.map a.eval = args.toArray := by
    apply Array.ext'
    simpa using hm
  have hz' := hs.env.eval hz
  have hr : (execOp a.eval ⟨some d, .call { callee := .value z, args := xs, argTypes := at_ }, ty, pos, after, g⟩).run P w = .ok (.enter f (args ++ caps).toArray) w := by
    simp only [execOp, resolve, hm', hz', Deferred.ofValue, Sem.run_bind, Sem.run_pure, Result.andThen_ok, invoke, List.append_toArray, List.nil_append]
    rw [hf.run]
  refine ⟨fun f _ => hF.fn f, ?_⟩
  rw [Oper.semAt_eq _ _ _ (by simp), hr]
  refine ⟨(fun hd => (by rw [hF.depth] at hd; cases hd)), callsIn_of_calls hF ?_⟩
  have hh0 : Holds c H (I ++ (M' ++ L)) w := by have := hs.holds; simpa [List.append_assoc] using this
  refine (Calls_of_Fn h hh0).mono ?_
  rintro e' w' ⟨v, H', I', he, hle, hh, hq⟩
  subst he
  exact ⟨_, ok_put hs hn (M'' := I' ++ M') (by simpa [List.append_assoc] using hh), k v H' I' hle hq⟩
theorem Ef_callcp (hF : WideF F) {f : FuncId} {args caps : List Value} {u : Value} {at_ : Array TypeId} [hf : FunC P f] {xs : Array Operand} (h : FnP P f (args ++ caps) H u) (hz : e.eval z = some (.func (.func f) #[] caps.toArray)) (hx : EvalAll e xs.toList args) (hn : Nat.blt d n = true)
    (k : K ⟨n, (d, u) :: e, H, M, L, D⟩) :
    Ef F P c ⟨some d, .call { callee := .value z, args := xs, argTypes := at_ }, ty, pos, after, g⟩ ⟨n, e, H, M, L, D⟩ K :=
  Ef_callc (I := []) (M' := M) hF h hz hx hn fun v' H' I' _ ⟨h1, h2, h3⟩ => by subst h1 h2 h3; exact k

/-! ### a map with integer keys, nothing ever deleted -/
def ments (i : Nat) : List (Int × Value) → List MapEntry
  | [] => []
  | p :: r => ⟨.int .i64 p.1, p.2, i⟩ :: ments (i + 1) r
abbrev mobj (kvs : List (Int × Value)) : Obj := .map (ments 0 kvs).toArray kvs.length
def mget (z : Value) : List (Int × Value) → Int → Value
  | [], _ => z
  | p :: r, x => if x = p.1 then p.2 else mget z r x
def mhas : List (Int × Value) → Int → Prop
  | [], _ => False
  | p :: r, x => x = p.1 ∨ mhas r x
theorem ments_length (i : Nat) (kvs : List (Int × Value)) : (ments i kvs).length = kvs.length := by
  induction kvs generalizing i with
  | nil => rfl
  | cons p r ih => simp [ments, ih]
theorem ments_snoc (i : Nat) (kvs : List (Int × Value)) (p : Int × Value) : ments i (kvs ++ [p]) = ments i kvs ++ [⟨.int .i64 p.1, p.2, i + kvs.length⟩] := by
  induction kvs generalizing i with
  | nil => simp [ments]
  | cons q r ih => simp [ments, ih]; omega
theorem mget_no {z : Value} {kvs : List (Int × Value)} {x : Int} (h : ¬ mhas kvs x) : mget z kvs x = z := by
  induction kvs with
  | nil => rfl
  | cons p r ih =>
    simp only [mhas, not_or] at h
    rw [mget, if_neg h.1, ih h.2]
theorem findNow_m (x : Int) (z : Value) : ∀ (kvs : List (Int × Value)) (i j : Nat), ∃ r, Instr.findNow (.int .i64) (.int .i64 x) (ments i kvs) j = some r ∧ ((∃ q, r = some (q, mget z kvs x) ∧ mhas kvs x) ∨ (r = none ∧ ¬ mhas kvs x))
  | [], i, j => ⟨none, rfl, .inr ⟨rfl, id⟩⟩
  | p :: r, i, j => by
    simp only [ments, Instr.findNow, Instr.sameNow, if_true]
    by_cases h : x = p.1
    · subst h
      exact ⟨some (j, p.2), by simp, .inl ⟨j, by simp [mget], .inl rfl⟩⟩
    · have hb : (x == p.1) = false := by simpa using h
      obtain ⟨q, h1, h2⟩ := findNow_m x z r (i + 1) (j + 1)
      refine ⟨q, by simpa [hb] using h1, ?_⟩
      rcases h2 with ⟨q', h3, h4⟩ | ⟨h3, h4⟩
      · exact .inl ⟨q', by rw [h3, mget, if_neg h], .inr h4⟩
      · exact .inr ⟨h3, fun h5 => h5.elim h h4⟩
theorem run_checkKey_int {kt : TypeId} (hk : P.underlying kt = some (.int .i64)) (em : Bool) (x : Int) (w : World) : (Instr.checkKey em 10000 kt (.int .i64 x)).run P w = .ok () w := by
  have key : ∀ d, (Instr.checkKey em (d + 1) kt (.int .i64 x)).run P w = .ok () w := fun d => by
    simp [Instr.checkKey, run_underlying hk]
  exact key 9999
/-- m[k] -/
theorem Ev_lookupI {kt et : TypeId} {kvs : List (Int × Value)} {q : Int} {zv : Value} {i : Nat} [ht : UndC P t (.map kt et)] [hk : UndC P kt (.int .i64)] (hzv : ∀ w, (zeroValue et).run P w = .ok zv w) (hx : e.eval x = some (.map (some b))) (hy : e.eval y = some (.int .i64 q)) (hR : oget R i = some (.obj b (mobj kvs))) :
    Ev P ⟨dst, .lookup t x y false, ty, pos, after, g⟩ e H R (mget zv kvs q) := fun a w he _ hr => by
  have hb : w.heap[b]? = some (mobj kvs) := hr _ (oget_mem hR)
  have h1 := MapKept.run_getObj_map (P := P) hb
  have h2 := fun em => run_checkKey_int (P := P) hk.und em q w
  obtain ⟨r, h3, h4⟩ := findNow_m q zv kvs 0 0
  rcases h4 with ⟨q', rfl, h5⟩ | ⟨rfl, h5⟩
  · simp [execOp, he.eval hx, he.eval hy, Instr.lookup, ht.run, h1, h2, Instr.findKey, hk.run, h3]
  · simp [execOp, he.eval hx, he.eval hy, Instr.lookup, ht.run, h1, h2, Instr.findKey, hk.run, h3, hzv, mget_no h5]
theorem Ev_lookupIok {kt et : TypeId} {kvs : List (Int × Value)} {q : Int} {zv : Value} {i : Nat} [Decidable (mhas kvs q)] [ht : UndC P t (.map kt et)] [hk : UndC P kt (.int .i64)] (hzv : ∀ w, (zeroValue et).run P w = .ok zv w) (hx : e.eval x = some (.map (some b))) (hy : e.eval y = some (.int .i64 q)) (hR : oget R i = some (.obj b (mobj kvs))) :
    Ev P ⟨dst, .lookup t x y true, ty, pos, after, g⟩ e H R (.tuple [mget zv kvs q, .bool (decide (mhas kvs q))].toArray) := fun a w he _ hr => by
  have hb : w.heap[b]? = some (mobj kvs) := hr _ (oget_mem hR)
  have h1 := MapKept.run_getObj_map (P := P) hb
  have h2 := fun em => run_checkKey_int (P := P) hk.und em q w
  obtain ⟨r, h3, h4⟩ := findNow_m q zv kvs 0 0
  rcases h4 with ⟨q', rfl, h5⟩ | ⟨rfl, h5⟩
  · simp [execOp, he.eval hx, he.eval hy, Instr.lookup, ht.run, h1, h2, Instr.findKey, hk.run, h3, decide_eq_true h5]
  · simp [execOp, he.eval hx, he.eval hy, Instr.lookup, ht.run, h1, h2, Instr.findKey, hk.run, h3, hzv, mget_no h5, decide_eq_false h5]
/-- make(map[..]..) -/
theorem Ef_makeMap (hF : WideF F) (hn : Nat.blt d n = true) (k : ∀ b, K ⟨n, (d, .map (some b)) :: e, H, .obj b (mobj []) :: M, L, D⟩) :
    Ef F P c ⟨some d, .makeMap t none, ty, pos, after, g⟩ ⟨n, e, H, M, L, D⟩ K := Ef_of_run hF fun a w hs => by
  refine ⟨.map (some w.heap.size), w.alloc (mobj []), ?_, _, ok_put hs hn (hs.holds.allocO _), k _⟩
  have hno : (newObj (mobj [])).run P w = .ok w.heap.size (w.alloc (mobj [])) := rfl
  have hm : (mobj []) = .map #[] 0 := rfl
  rw [hm] at hno ⊢
  simp only [execOp, Instr.makeMap, Option.map_none, Sem.run_bind, Sem.run_pure, Result.andThen_ok, hno]
/-- m[k] = v, k being new -/
theorem Ef_mapNew (hF : WideF F) {kt et : TypeId} {kvs : List (Int × Value)} {q : Int} [ht : UndC P t (.map kt et)] [hk : UndC P kt (.int .i64)] (hx : e.eval x = some (.map (some b))) (hy : e.eval y = some (.int .i64 q)) (hz : e.eval z = some v) (hno : ¬ mhas kvs q)
    (k : K ⟨n, e, H, .obj b (mobj (kvs ++ [(q, v)])) :: M, L, D⟩) :
    Ef F P c ⟨none, .mapUpdate t x y z, ty, pos, after, g⟩ ⟨n, e, H, .obj b (mobj kvs) :: M, L, D⟩ K := Ef_of_skip hF (by simp) fun a w hs => by
  have hb : w.heap[b]? = some (mobj kvs) := hs.holds.own (.obj b (mobj kvs)) (by simp)
  have h1 := MapKept.run_getObj_map (P := P) hb
  have h2 := run_checkKey_int (P := P) hk.und false q w
  obtain ⟨r, h3, h4⟩ := findNow_m q v kvs 0 0
  rcases h4 with ⟨q', rfl, h5⟩ | ⟨rfl, h5⟩
  · exact absurd h5 hno
  have h6 := MapKept.run_setObj_map (P := P) (mobj (kvs ++ [(q, v)])) hb
  have h7 : (mobj (kvs ++ [(q, v)])) = .map ((ments 0 kvs).toArray.push ⟨.int .i64 q, v, kvs.length⟩) (kvs.length + 1) := by
    simp [mobj, ments_snoc]
  refine ⟨w.putObj b (mobj (kvs ++ [(q, v)])), ?_, ⟨n, e, H, .obj b (mobj (kvs ++ [(q, v)])) :: M, L, D⟩, ⟨hs.defers, hs.size, hs.env, hs.holds.putObj _⟩, k⟩
  have h9 : (setObj b (.map ((ments 0 kvs).toArray.push ⟨.int .i64 q, v, kvs.length⟩) (kvs.length + 1))).run P w = .ok () (w.putObj b (mobj (kvs ++ [(q, v)]))) := by rw [← h7]; exact h6
  simp only [execOp, hs.env.eval hx, hs.env.eval hy, hs.env.eval hz, Instr.mapUpdate, ht.run, h1, h2, Instr.findKey, hk.run, h3, Sem.run_bind, Sem.run_pure, Result.andThen_ok, h9]
end
end
section
/-! Owned rows: more of the same row, copy, zero elements behind a part. -/

def chunks (k : Nat) : Nat → List Value → List (List Value)
  | 0, _ => []
  | m + 1, l => l.take k :: chunks k m (l.drop k)
theorem chunks_length (k : Nat) : ∀ (m : Nat) (l : List Value), (chunks k m l).length = m
  | 0, _ => rfl
  | m + 1, l => by simp [chunks, chunks_length k m]
theorem chunks_each (k : Nat) : ∀ (m : Nat) (l : List Value), m * k ≤ l.length → ∀ q ∈ chunks k m l, q.length = k
  | 0, _, _, q, hq => by simp [chunks] at hq
  | m + 1, l, h, q, hq => by
    rw [Nat.succ_mul] at h
    simp only [chunks, List.mem_cons] at hq
    rcases hq with rfl | hq
    · simp; omega
    · exact chunks_each k m (l.drop k) (by simp; omega) q hq
theorem chunks_flatten (k : Nat) : ∀ (m : Nat) (l : List Value), m * k ≤ l.length → (chunks k m l).flatten = l.take (m * k)
  | 0, _, _ => by simp [chunks]
  | m + 1, l, h => by
    rw [Nat.succ_mul] at h
    simp only [chunks, List.flatten_cons]
    rw [chunks_flatten k m (l.drop k) (by simp; omega), Nat.succ_mul, Nat.add_comm (m * k) k, List.take_add]
theorem RowOk.more {w : World} {a : Option Addr} {nn cp k : Nat} {css : List (List Value)} (h : RowOk w (.slice a nn cp) k css) (m : Nat) (hm : nn + m ≤ cp) :
    ∃ junk : List (List Value), junk.length = m ∧ (∀ q ∈ junk, q.length = k) ∧ RowOk w (.slice a (nn + m) cp) k (css ++ junk) := by
  rcases h with ⟨hh, rfl⟩ | ⟨b, cap, rest, T, hh, hkk, hcap, hb, hlen⟩
  · cases hh
    have : m = 0 := by omega
    subst this
    exact ⟨[], rfl, by simp, .inl ⟨rfl, rfl⟩⟩
  · cases hh
    have hfl := flatten_length hkk
    rw [List.length_append, hfl] at hlen
    have hmk : css.length * k + m * k ≤ cp * k := by rw [← Nat.add_mul]; exact Nat.mul_le_mul_right _ hm
    have hrl : m * k ≤ rest.length := by omega
    have hch := chunks_flatten k m rest hrl
    have hsp : css.flatten ++ rest = (css ++ chunks k m rest).flatten ++ rest.drop (m * k) := by
      rw [List.flatten_append, hch, List.append_assoc, List.take_append_drop]
    refine ⟨chunks k m rest, chunks_length k m rest, chunks_each k m rest hrl, .inr ⟨b, cp, rest.drop (m * k), T, by simp [chunks_length], fun q hq => ?_, by simp [chunks_length]; omega, by rw [← hsp]; exact hb, by rw [← hsp, List.length_append, hfl]; omega⟩⟩
    rcases List.mem_append.1 hq with h1 | h1
    · exact hkk q h1
    · exact chunks_each k m rest hrl q h1

section
variable {F : Fence} {P : Program} {c : Ctx} {o : Oper} {K : SP} {X : List (Nat × SP)} {R : SP} {ops l : List Oper} {code : Code} {n : Nat} {e : Env} {H : Hp} {M M' L : Own} {D : List Deferred} {dst : Option Tmp} {d : Nat} {ty : TypeId} {pos : String} {after : Array Edge} {g : Option (Nat × Bool)} {x y z : Operand} {v : Value} {t t2 : TypeId} {k b off : Nat}
theorem O_more {a : Option Addr} {nn cp : Nat} {css : List (List Value)} (m : Nat) (hm : nn + m ≤ cp)
    (h : ∀ junk : List (List Value), junk.length = m → (∀ q ∈ junk, q.length = k) → opsA F P c ops l K ⟨n, e, H, .row (.slice a (nn + m) cp) k (css ++ junk) :: M, L, D⟩) : opsA F P c ops l K ⟨n, e, H, .row (.slice a nn cp) k css :: M, L, D⟩ := fun ac w hs => by
  have hr : RowOk w (.slice a nn cp) k css := hs.holds.own (.row (.slice a nn cp) k css) (by simp)
  obtain ⟨junk, h1, h2, h3⟩ := hr.more m hm
  refine h junk h1 h2 ac w ⟨hs.defers, hs.size, hs.env, ?_⟩
  exact hs.holds.row (I := []) h3 (Moves.refl _ _) fun b' hb' => .inr (by cases a <;> exact hb')

/-- what is read first of a slice -/
def FirstAre (P : Program) (w : World) (k q : Nat) (v : Value) (news : List (List Value)) : Prop := news.length = q ∧ (∀ cs ∈ news, cs.length = k) ∧ (Builtin.firstCells k q v).run P w = .ok news.flatten.toArray w
theorem FirstAre.own {w : World} {b cp nn m q j sc : Nat} {A : Option Addr} {css : List (List Value)} (h : RowOk w (.slice (some ⟨b, 0, none⟩) nn cp) k css) (hA : q = 0 ∨ A = some ⟨b, j * k, none⟩) (hq : j + q ≤ nn) : FirstAre P w k q (.slice A m sc) ((css.drop j).take q) := by
  rcases h with ⟨hh, _⟩ | ⟨b', cap, rest, T, hh, hkk, hcap, hb, hlen⟩
  · cases hh
  · cases hh
    have hk2 : ∀ cs ∈ (css.drop j).take q, cs.length = k := fun cs hcs => hkk cs (List.mem_of_mem_drop (List.mem_of_mem_take hcs))
    have hl : ((css.drop j).take q).length = q := by simp; omega
    refine ⟨hl, hk2, ?_⟩
    rcases Nat.eq_zero_or_pos q with h0 | h0
    · subst h0
      cases A <;> simp [Builtin.firstCells, loadCells, loadCellsFrom]
    · rcases hA with hA | rfl
      · omega
      · refine run_firstCells_some w k q _ m sc _ (by rw [flatten_length hk2, hl]) fun i u hi => ?_
        rw [Addr.add_lit]
        refine cell_of_heap hb ?_
        simp only [List.getElem?_toArray]
        have e1 : css.flatten = (css.take j).flatten ++ (css.drop j).flatten := by rw [← List.flatten_append, List.take_append_drop]
        have e2 : (css.take j).flatten.length = j * k := by rw [flatten_length (k := k) (fun q hq => hkk q (List.mem_of_mem_take hq)), List.length_take, Nat.min_eq_left (by omega)]
        have e3 : (css.drop j).flatten = ((css.drop j).take q).flatten ++ ((css.drop j).drop q).flatten := by rw [← List.flatten_append, List.take_append_drop]
        have hil := (List.getElem?_eq_some_iff.1 hi).1
        rw [e1, List.append_assoc, ← e2, List.getElem?_append_right (by omega), show (css.take j).flatten.length + i - (css.take j).flatten.length = i by omega, e3, List.append_assoc, List.getElem?_append_left hil]
        exact hi
theorem FirstAre.row {w : World} {a : Option Addr} {nn cp : Nat} {css : List (List Value)} (h : RowOk w (.slice a nn cp) k css) {q : Nat} (hq : q = nn) : FirstAre P w k q (.slice a nn cp) css := by
  subst hq
  rcases h with ⟨hh, rfl⟩ | ⟨b, cap, rest, T, hh, hkk, hcap, hb, hlen⟩
  · cases hh; exact ⟨rfl, by simp, by simp [Builtin.firstCells]⟩
  · cases hh
    have := FirstAre.own (P := P) (m := css.length) (q := css.length) (j := 0) (sc := cp) (A := some ⟨b, 0, none⟩) (.inr ⟨b, cp, rest, T, rfl, hkk, hcap, hb, hlen⟩) (.inr (by simp)) (by omega)
    simpa using this
/-- copy into an owned row -/
theorem run_copy_row' {w : World} {el dc sl sc dl i q : Nat} {ag : Bool} {A S : Option Addr} {css news : List (List Value)} {cp nn : Nat} (ht : UndC P t (.slice el)) (hT : TyC P el ag k)
    (h : RowOk w (.slice (some ⟨b, 0, none⟩) nn cp) k css) (hS : FirstAre P w k q (.slice S sl sc) news) (hmin : q = min sl dl) (hi : i + q ≤ nn) (hA : q = 0 ∨ A = some ⟨b, i * k, none⟩) (h1 : ∀ cs ∈ news, ∀ u ∈ cs, u.oneCell' = true) :
    ∃ w', (Builtin.copy_ #[t, t2] ty #[.slice A dl dc, .slice S sl sc]).run P w = .ok (.int .i64 q) w' ∧ RowOk w' (.slice (some ⟨b, 0, none⟩) nn cp) k (css.take i ++ news ++ css.drop (i + q)) ∧ Moves w w' [b] := by
  obtain ⟨hnl, hnk, hf⟩ := hS
  have hmin' : Nat.min sl dl = q := hmin.symm
  rcases Nat.eq_zero_or_pos q with h0 | h0
  · subst h0
    have hn0 : news = [] := List.eq_nil_of_length_eq_zero hnl
    subst hn0
    refine ⟨w, ?_, by simpa using h, Moves.refl _ _⟩
    cases A <;> simp [Builtin.copy_, ht.run, Builtin.lenOf, hT.sizeOf, hmin', hf, goInt, storeCells]
  · rcases hA with hA | rfl
    · omega
    · rcases h with ⟨hh, _⟩ | ⟨b', cap, rest, T, hh, hkk, hcap, hb, hlen⟩
      · cases hh
      · cases hh
        have hfl := flatten_length hkk
        have hnf : news.flatten.length = q * k := by rw [flatten_length hnk, hnl]
        have hik : i * k + q * k ≤ css.length * k := by rw [← Nat.add_mul]; exact Nat.mul_le_mul_right _ hi
        have hst := run_storeCells_at P b (i * k) T news.flatten 0 (css.flatten ++ rest).toArray w hb (by simp only [Nat.add_zero, List.size_toArray, List.length_append, hfl, hnf]; omega) (fun u hu => by
          obtain ⟨cs, hcs, hu2⟩ := List.mem_flatten.1 hu
          exact h1 cs hcs u hu2)
        have e1 : css.flatten = (css.take i).flatten ++ (css.drop i).flatten := by rw [← List.flatten_append, List.take_append_drop]
        have e2 : (css.take i).flatten.length = i * k := by rw [flatten_length (k := k) (fun q hq => hkk q (List.mem_of_mem_take hq)), List.length_take, Nat.min_eq_left (by omega)]
        have e4 : css.flatten = (css.take (i + q)).flatten ++ (css.drop (i + q)).flatten := by rw [← List.flatten_append, List.take_append_drop]
        have e5 : (css.take (i + q)).flatten.length = i * k + q * k := by rw [flatten_length (k := k) (fun q hq => hkk q (List.mem_of_mem_take hq)), List.length_take, Nat.min_eq_left (by omega), Nat.add_mul]
        have t1 : (css.flatten ++ rest).take (i * k) = (css.take i).flatten := by rw [e1, List.append_assoc, ← e2, List.take_left]
        have t2 : (css.flatten ++ rest).drop (i * k + q * k) = (css.drop (i + q)).flatten ++ rest := by rw [e4, List.append_assoc, ← e5, List.drop_left]
        have htk : ((css.flatten ++ rest).toArray.toList.take (i * k + 0) ++ news.flatten ++ (css.flatten ++ rest).toArray.toList.drop (i * k + 0 + news.flatten.length)) = (css.take i ++ news ++ css.drop (i + q)).flatten ++ rest := by
          simp only [Nat.add_zero, hnf, t1, t2, List.flatten_append, List.append_assoc]
        rw [htk] at hst
        have hlen2 : (css.take i ++ news ++ css.drop (i + q)).length = css.length := by simp; omega
        have hkk2 : ∀ cs ∈ css.take i ++ news ++ css.drop (i + q), cs.length = k := fun cs hcs => by
          rcases List.mem_append.1 hcs with h2 | h2
          · rcases List.mem_append.1 h2 with h3 | h3
            · exact hkk cs (List.mem_of_mem_take h3)
            · exact hnk cs h3
          · exact hkk cs (List.mem_of_mem_drop h2)
        refine ⟨_, ?_, .inr ⟨b, cp, rest, T, by rw [hlen2], hkk2, by rw [hlen2]; exact hcap, setRow_heap w b _ _ T _ hb, ?_⟩, Moves.setRow w b _⟩
        · simp [Builtin.copy_, ht.run, Builtin.lenOf, hT.sizeOf, hmin', hf, goInt, hst]
        · rw [List.length_append, flatten_length hkk2, hlen2, ← hfl, ← List.length_append]; exact hlen
theorem execOp_copy {a : Act} {v u : Value} (he : EnvOk e a) (hx : e.eval x = some v) (hy : e.eval y = some u) (w : World) :
    (execOp a.eval ⟨dst, .call { callee := .builtin .copy, args := #[x, y], argTypes := #[t, t2] }, ty, pos, after, g⟩).run P w = ((Builtin.copy_ #[t, t2] ty #[v, u]).run P w).andThen fun r w' => .ok (.value r) w' := by
  simp [execOp, resolve, invoke, builtin, he.eval hx, he.eval hy, Sem.run_bind]
/-- copy(s[i:], s[j:]), the row standing first -/
theorem Ef_copyS (hF : WideF F) {el dc sl sc dl i j q : Nat} {ag : Bool} {A S : Option Addr} {css : List (List Value)} {cp nn : Nat} [ht : UndC P t (.slice el)] [hT : TyC P el ag k]
    (hx : e.eval x = some (.slice A dl dc)) (hy : e.eval y = some (.slice S sl sc)) (hq : q = min sl dl) (hi : i + q ≤ nn) (hj : j + q ≤ nn) (hA : q = 0 ∨ A = some ⟨b, i * k, none⟩) (hS : q = 0 ∨ S = some ⟨b, j * k, none⟩) (h1 : ∀ cs ∈ (css.drop j).take q, ∀ u ∈ cs, u.oneCell' = true) (hd : dst = some d) (hn : Nat.blt d n = true)
    (kk : K ⟨n, (d, .int .i64 q) :: e, H, .row (.slice (some ⟨b, 0, none⟩) nn cp) k (css.take i ++ (css.drop j).take q ++ css.drop (i + q)) :: M, L, D⟩) :
    Ef F P c ⟨dst, .call { callee := .builtin .copy, args := #[x, y], argTypes := #[t, t2] }, ty, pos, after, g⟩ ⟨n, e, H, .row (.slice (some ⟨b, 0, none⟩) nn cp) k css :: M, L, D⟩ K := by
  subst hd
  intro a w hs
  have hr : RowOk w (.slice (some ⟨b, 0, none⟩) nn cp) k css := hs.holds.own (.row _ k css) (by simp)
  obtain ⟨w', h2, h3, h4⟩ := run_copy_row' (P := P) (t2 := t2) (ty := ty) (dc := dc) ht hT hr (FirstAre.own (P := P) (m := sl) (sc := sc) hr hS hj) hq hi hA h1
  have hh := hs.holds.row (I := []) (v' := .slice (some ⟨b, 0, none⟩) nn cp) h3 h4 fun b' hb' => .inr hb'
  refine ⟨fun f _ => hF.fn f, ?_⟩
  rw [Oper.semAt_eq _ _ _ (by simp), execOp_copy hs.env hx hy, h2]
  exact ⟨_, ok_put hs hn (M'' := .row (.slice (some ⟨b, 0, none⟩) nn cp) k (css.take i ++ (css.drop j).take q ++ css.drop (i + q)) :: M) hh, kk⟩
/-- copy(s[i:], r), the row standing first, the other one second -/
theorem Ef_copyR (hF : WideF F) {el dc sl sc dl i : Nat} {ag : Bool} {A S : Option Addr} {css news : List (List Value)} {cp nn : Nat} [ht : UndC P t (.slice el)] [hT : TyC P el ag k]
    (hx : e.eval x = some (.slice A dl dc)) (hy : e.eval y = some (.slice S sl sc)) (hq : sl ≤ dl) (hi : i + sl ≤ nn) (hA : sl = 0 ∨ A = some ⟨b, i * k, none⟩) (h1 : ∀ cs ∈ news, ∀ u ∈ cs, u.oneCell' = true) (hd : dst = some d) (hn : Nat.blt d n = true)
    (kk : K ⟨n, (d, .int .i64 sl) :: e, H, .row (.slice (some ⟨b, 0, none⟩) nn cp) k (css.take i ++ news ++ css.drop (i + sl)) :: .row (.slice S sl sc) k news :: M, L, D⟩) :
    Ef F P c ⟨dst, .call { callee := .builtin .copy, args := #[x, y], argTypes := #[t, t2] }, ty, pos, after, g⟩ ⟨n, e, H, .row (.slice (some ⟨b, 0, none⟩) nn cp) k css :: .row (.slice S sl sc) k news :: M, L, D⟩ K := by
  subst hd
  intro a w hs
  have hr : RowOk w (.slice (some ⟨b, 0, none⟩) nn cp) k css := hs.holds.own (.row _ k css) (by simp)
  have hs2 : RowOk w (.slice S sl sc) k news := hs.holds.own (.row _ k news) (by simp)
  obtain ⟨w', h2, h3, h4⟩ := run_copy_row' (P := P) (t2 := t2) (ty := ty) (dc := dc) ht hT hr (q := sl) (FirstAre.row (P := P) hs2 rfl) (Nat.min_eq_left hq).symm hi hA h1
  have hh := hs.holds.row (I := []) (v' := .slice (some ⟨b, 0, none⟩) nn cp) h3 h4 fun b' hb' => .inr hb'
  refine ⟨fun f _ => hF.fn f, ?_⟩
  rw [Oper.semAt_eq _ _ _ (by simp), execOp_copy hs.env hx hy, h2]
  exact ⟨_, ok_put hs hn (M'' := .row (.slice (some ⟨b, 0, none⟩) nn cp) k (css.take i ++ news ++ css.drop (i + sl)) :: .row (.slice S sl sc) k news :: M) hh, kk⟩
/-- copy(s2[i:], s[j:]): the second row is read from an element on -/
theorem Ef_copyT (hF : WideF F) {el dc sl sc dl i j q b2 : Nat} {ag : Bool} {A S : Option Addr} {css news : List (List Value)} {cp nn n2 c2 : Nat} [ht : UndC P t (.slice el)] [hT : TyC P el ag k]
    (hx : e.eval x = some (.slice A dl dc)) (hy : e.eval y = some (.slice S sl sc)) (hq : q = min sl dl) (hi : i + q ≤ nn) (hj : j + q ≤ n2) (hA : q = 0 ∨ A = some ⟨b, i * k, none⟩) (hS : q = 0 ∨ S = some ⟨b2, j * k, none⟩) (h1 : ∀ cs ∈ (news.drop j).take q, ∀ u ∈ cs, u.oneCell' = true) (hd : dst = some d) (hn : Nat.blt d n = true)
    (kk : K ⟨n, (d, .int .i64 q) :: e, H, .row (.slice (some ⟨b, 0, none⟩) nn cp) k (css.take i ++ (news.drop j).take q ++ css.drop (i + q)) :: .row (.slice (some ⟨b2, 0, none⟩) n2 c2) k news :: M, L, D⟩) :
    Ef F P c ⟨dst, .call { callee := .builtin .copy, args := #[x, y], argTypes := #[t, t2] }, ty, pos, after, g⟩ ⟨n, e, H, .row (.slice (some ⟨b, 0, none⟩) nn cp) k css :: .row (.slice (some ⟨b2, 0, none⟩) n2 c2) k news :: M, L, D⟩ K := by
  subst hd
  intro a w hs
  have hr : RowOk w (.slice (some ⟨b, 0, none⟩) nn cp) k css := hs.holds.own (.row _ k css) (by simp)
  have hs2 : RowOk w (.slice (some ⟨b2, 0, none⟩) n2 c2) k news := hs.holds.own (.row _ k news) (by simp)
  obtain ⟨w', h2, h3, h4⟩ := run_copy_row' (P := P) (t2 := t2) (ty := ty) (dc := dc) ht hT hr (FirstAre.own (P := P) (m := sl) (sc := sc) hs2 hS hj) hq hi hA h1
  have hh := hs.holds.row (I := []) (v' := .slice (some ⟨b, 0, none⟩) nn cp) h3 h4 fun b' hb' => .inr hb'
  refine ⟨fun f _ => hF.fn f, ?_⟩
  rw [Oper.semAt_eq _ _ _ (by simp), execOp_copy hs.env hx hy, h2]
  exact ⟨_, ok_put hs hn (M'' := .row (.slice (some ⟨b, 0, none⟩) nn cp) k (css.take i ++ (news.drop j).take q ++ css.drop (i + q)) :: .row (.slice (some ⟨b2, 0, none⟩) n2 c2) k news :: M) hh, kk⟩
/-- append(s[:i], s[j:]...), which fits into the same row -/
theorem Ef_appendSelf (hF : WideF F) {el bytes sl sc i j nn cp : Nat} {ag : Bool} {zc : List Value} {S : Option Addr} {css : List (List Value)} [ht : UndC P t (.slice el)] [hT : TyC P el ag k] [hI : InfoC P el bytes] [hz : ZeroL P el zc]
    (hx : e.eval x = some (.slice (some ⟨b, 0, none⟩) i cp)) (hy : e.eval y = some (.slice S sl sc)) (hi : i + sl ≤ nn) (hj : j + sl ≤ nn) (hcp : nn ≤ cp) (hS : sl = 0 ∨ S = some ⟨b, j * k, none⟩) (h1 : ∀ cs ∈ (css.drop j).take sl, ∀ u ∈ cs, u.oneCell' = true) (hn : Nat.blt d n = true)
    (kk : K ⟨n, (d, .slice (some ⟨b, 0, none⟩) (i + sl) cp) :: e, H, .row (.slice (some ⟨b, 0, none⟩) nn cp) k (css.take i ++ (css.drop j).take sl ++ css.drop (i + sl)) :: M, L, D⟩) :
    Ef F P c ⟨some d, .call { callee := .builtin .append, args := #[x, y], argTypes := #[t, t] }, ty, pos, after, g⟩ ⟨n, e, H, .row (.slice (some ⟨b, 0, none⟩) nn cp) k css :: M, L, D⟩ K := Ef_of_run hF fun a w hs => by
  have hr : RowOk w (.slice (some ⟨b, 0, none⟩) nn cp) k css := hs.holds.own (.row _ k css) (by simp)
  obtain ⟨hnl, hnk, hf⟩ := FirstAre.own (P := P) (m := sl) (sc := sc) (q := sl) hr hS hj
  obtain ⟨inf, z, hinf, hsz, hby, hzz, hzc⟩ := info_of (P := P) (t := el) (hT := hT) (hI := hI) (hz := hz)
  have key : ∃ w', (Builtin.append_ #[t, t] ty #[.slice (some ⟨b, 0, none⟩) i cp, .slice S sl sc]).run P w = .ok (.slice (some ⟨b, 0, none⟩) (i + sl) cp) w' ∧ RowOk w' (.slice (some ⟨b, 0, none⟩) nn cp) k (css.take i ++ (css.drop j).take sl ++ css.drop (i + sl)) ∧ Moves w w' [b] := by
    rcases Nat.eq_zero_or_pos sl with h0 | h0
    · subst h0
      refine ⟨w, ?_, by simpa using hr, Moves.refl _ _⟩
      have hc : i ≤ cp := by omega
      have hf' : (Builtin.firstCells k 0 (.slice S 0 sc)).run P w = .ok #[] w := by simpa using hf
      simp [Builtin.append_, ht.run, sizeOf, typeInfo, hinf, hsz, Builtin.lenOf, hf', hc, storeCells]
    · rcases hr with ⟨hh, _⟩ | ⟨b', cap, rest, T, hh, hkk, hcap, hb, hlen⟩
      · cases hh
      · cases hh
        have hfl := flatten_length hkk
        have hnf : ((css.drop j).take sl).flatten.length = sl * k := by rw [flatten_length hnk, hnl]
        have hik : i * k + sl * k ≤ css.length * k := by rw [← Nat.add_mul]; exact Nat.mul_le_mul_right _ hi
        have hst := run_storeCells_at P b (i * k) T ((css.drop j).take sl).flatten 0 (css.flatten ++ rest).toArray w hb (by simp only [Nat.add_zero, List.size_toArray, List.length_append, hfl, hnf]; omega) (fun u hu => by
          obtain ⟨cs, hcs, hu2⟩ := List.mem_flatten.1 hu
          exact h1 cs hcs u hu2)
        have e1 : css.flatten = (css.take i).flatten ++ (css.drop i).flatten := by rw [← List.flatten_append, List.take_append_drop]
        have e2 : (css.take i).flatten.length = i * k := by rw [flatten_length (k := k) (fun q hq => hkk q (List.mem_of_mem_take hq)), List.length_take, Nat.min_eq_left (by omega)]
        have e4 : css.flatten = (css.take (i + sl)).flatten ++ (css.drop (i + sl)).flatten := by rw [← List.flatten_append, List.take_append_drop]
        have e5 : (css.take (i + sl)).flatten.length = i * k + sl * k := by rw [flatten_length (k := k) (fun q hq => hkk q (List.mem_of_mem_take hq)), List.length_take, Nat.min_eq_left (by omega), Nat.add_mul]
        have t1 : (css.flatten ++ rest).take (i * k) = (css.take i).flatten := by rw [e1, List.append_assoc, ← e2, List.take_left]
        have t2 : (css.flatten ++ rest).drop (i * k + sl * k) = (css.drop (i + sl)).flatten ++ rest := by rw [e4, List.append_assoc, ← e5, List.drop_left]
        have htk : ((css.flatten ++ rest).toArray.toList.take (i * k + 0) ++ ((css.drop j).take sl).flatten ++ (css.flatten ++ rest).toArray.toList.drop (i * k + 0 + ((css.drop j).take sl).flatten.length)) = (css.take i ++ (css.drop j).take sl ++ css.drop (i + sl)).flatten ++ rest := by
          simp only [Nat.add_zero, hnf, t1, t2, List.flatten_append, List.append_assoc]
        rw [htk] at hst
        have hlen2 : (css.take i ++ (css.drop j).take sl ++ css.drop (i + sl)).length = css.length := by simp only [List.length_append, hnl, List.length_take, List.length_drop]; omega
        have hkk2 : ∀ cs ∈ css.take i ++ (css.drop j).take sl ++ css.drop (i + sl), cs.length = k := fun cs hcs => by
          rcases List.mem_append.1 hcs with h2 | h2
          · rcases List.mem_append.1 h2 with h3 | h3
            · exact hkk cs (List.mem_of_mem_take h3)
            · exact hnk cs h3
          · exact hkk cs (List.mem_of_mem_drop h2)
        have hroom : i + sl ≤ cp := by omega
        refine ⟨_, ?_, .inr ⟨b, cp, rest, T, by rw [hlen2], hkk2, by rw [hlen2]; exact hcap, setRow_heap w b _ _ T _ hb, ?_⟩, Moves.setRow w b _⟩
        · simp [Builtin.append_, ht.run, sizeOf, typeInfo, hinf, hsz, Builtin.lenOf, hroom, hf, Addr.add_lit, hst]
        · rw [List.length_append, flatten_length hkk2, hlen2, ← hfl, ← List.length_append]; exact hlen
  obtain ⟨w', h2, h3, h4⟩ := key
  have hh := hs.holds.row (I := []) (v' := .slice (some ⟨b, 0, none⟩) nn cp) h3 h4 fun b' hb' => .inr hb'
  refine ⟨_, w', ?_, _, ok_put hs hn (M'' := .row (.slice (some ⟨b, 0, none⟩) nn cp) k (css.take i ++ (css.drop j).take sl ++ css.drop (i + sl)) :: M) hh, kk⟩
  rw [execOp_append hs.env hx hy, h2]; rfl
/-- slices.overlaps at two rows -/
theorem Ef_overlaps (hF : WideF F) {f : FuncId} {tS tR el b1 b2 n1 c1 n2 c2 o2 nn cp : Nat} {at_ : Array TypeId} {ag : Bool} {css news : List (List Value)} [ht : UndC P tS (.slice el)] [hT : TyC P el ag k] (hcf : ∀ args w, (callFunc f args).run P w = ((Extern.SlicesOverlaps.overlaps #[tS, tS] #[tR] args).run P w).andThen fun v w' => .ok (.value v) w')
    (hx : e.eval x = some (.slice (some ⟨b1, 0, none⟩) n1 c1)) (hy : e.eval y = some (.slice (some ⟨b2, o2, none⟩) n2 c2)) (hn1 : 0 < css.length) (hk : 0 < k) (hn : Nat.blt d n = true)
    (kk : K ⟨n, (d, .bool false) :: e, H, .row (.slice (some ⟨b2, 0, none⟩) nn cp) k css :: .row (.slice (some ⟨b1, 0, none⟩) n1 c1) k news :: M, L, D⟩) :
    Ef F P c ⟨some d, .call { callee := .value (.func f), args := #[x, y], argTypes := at_ }, ty, pos, after, g⟩ ⟨n, e, H, .row (.slice (some ⟨b2, 0, none⟩) nn cp) k css :: .row (.slice (some ⟨b1, 0, none⟩) n1 c1) k news :: M, L, D⟩ K := Ef_of_run hF fun a w hs => by
  have hr : RowOk w (.slice (some ⟨b2, 0, none⟩) nn cp) k css := hs.holds.own (.row _ k css) (by simp)
  have hs2 : RowOk w (.slice (some ⟨b1, 0, none⟩) n1 c1) k news := hs.holds.own (.row _ k news) (by simp)
  have hne : b1 ≠ b2 := fun e => by
    have hsp := hs.holds.sep
    have := (List.pairwise_cons.1 hsp).1 (.row (.slice (some ⟨b1, 0, none⟩) n1 c1) k news) (by simp) b2 (by simp [Res.blocks])
    exact this (by simp [Res.blocks, e])
  rcases hr with ⟨hh, _⟩ | ⟨b', cap, rest, T, hh, hkk, hcap, hb, hlen⟩
  · cases hh
  · cases hh
    rcases hs2 with ⟨hh2, _⟩ | ⟨b'', cap2, rest2, T2, hh2, hkk2, hcap2, hb2, hlen2⟩
    · cases hh2
    · cases hh2
      have hpos : (css.flatten ++ rest).length ≠ 0 := by
        rw [hlen]
        have : 0 < cp * k := Nat.mul_pos (by omega) hk
        omega
      have hov := Lib.run_overlaps_apart (P := P) w tS tR el ht.und k hT.sizeOf ⟨b1, 0, none⟩ ⟨b2, o2, none⟩ news.length c1 n2 c2 hne T2 T (news.flatten ++ rest2).length (css.flatten ++ rest).length (by simp [World.shape?, hb2]) (by simp [World.shape?, hb]) hpos (by simp [World.frozen?, hb2]) (by simp [World.frozen?, hb2])
      refine ⟨.bool false, w, ?_, _, ok_put hs hn hs.holds, kk⟩
      have hm : (#[x, y] : Array Operand).map a.eval = #[.slice (some ⟨b1, 0, none⟩) news.length c1, .slice (some ⟨b2, o2, none⟩) n2 c2] := by simp [hs.env.eval hx, hs.env.eval hy]
      have hff : a.eval (.func f) = .func (.func f) #[] #[] := rfl
      simp only [execOp, resolve, hm, hff, Deferred.ofValue, Sem.run_bind, Sem.run_pure, Result.andThen_ok, invoke, Array.append_empty, Array.empty_append, hcf, hov]
/-- append(s[:i], make([]T, m)...), which does not fit: a new row; the old one stays -/
theorem Ef_growZ (hF : WideF F) {el bytes m i cp nn : Nat} {q : Int} {ag : Bool} {zc : List Value} {css : List (List Value)} {a : Option Addr} [ht : UndC P t (.slice el)] [hu : UndC P t2 (.int .i64)] [hT : TyC P el ag k] [hI : InfoC P el bytes] [hz : ZeroL P el zc]
    (hx : e.eval x = some (.slice a i cp)) (hy : e.eval y = some (.int .i64 q)) (hq : q = (m : Nat)) (hm : 0 < m) (hi : i ≤ nn) (hg : cp < i + m) (hzk : Nat.beq zc.length k = true) (hk : Nat.blt 0 k = true) (hbytes : (i + m) * bytes ≤ 140737488355328) (hlen : i + m ≤ 9223372036854775807) (hn : Nat.blt d n = true)
    (kk : ∀ b cp', i + m ≤ cp' → K ⟨n, (d, .slice (some ⟨b, 0, none⟩) (i + m) cp') :: e, H, .row (.slice (some ⟨b, 0, none⟩) (i + m) cp') k (css.take i ++ List.replicate m zc) :: .row (.slice a nn cp) k css :: M, L, D⟩) :
    Ef F P c ⟨some d, .call { callee := .builtin .append, args := #[x, y], argTypes := #[t, t2] }, ty, pos, after, g⟩ ⟨n, e, H, .row (.slice a nn cp) k css :: M, L, D⟩ K := Ef_of_run hF fun ac w hs => by
  obtain ⟨inf, z, hi', hsz, hby, hzz, hzc⟩ := info_of (P := P) (t := el) (hT := hT) (hI := hI) (hz := hz)
  have hzk' := Nat.eq_of_beq_eq_true hzk
  have hk' : 0 < k := Nat.le_of_ble_eq_true hk
  have hzs : z.cells.size = k := by rw [← hzk', ← hzc]; simp
  subst hby
  subst hq
  have hr : RowOk w (.slice a nn cp) k css := hs.holds.own (.row (.slice a nn cp) k css) (by simp)
  have hcut := hr.cut i hi
  have hrd : RowOk w.drew (.slice a i cp) k (css.take i) := hcut
  have hfa := FirstAre.row (P := P) hrd rfl
  rw [← hsz] at hfa
  have hap : (Builtin.append_ #[t, t2] ty #[.slice a i cp, .int .i64 (m : Int)]).run P w = _ := Lib.run_append_grow_zeros (P := P) w t t2 ty el inf z .i64 .i64 ht.und hu.und hi' hzz a i cp (css.take i).flatten hfa.2.2 m hm (by rw [hsz]; exact hk') hg (by omega) (by
    have : m * inf.bytes ≤ (i + m) * inf.bytes := Nat.mul_le_mul_right _ (by omega)
    omega) (growslice_fits (by omega) hbytes)
  have hge := grownCap_ge w (i + m) cp el
  have hsize : ∀ q, (Builtin.zeroCells z.cells q).size = q * k := fun q => by rw [size_zeroCells, hzs]
  have hzl : ∀ q, (Builtin.zeroCells z.cells q).toList = (List.replicate q zc).flatten := fun q => by rw [zeroCells_list, hzc]
  have hnk : ∀ cs ∈ css.take i ++ List.replicate m zc, cs.length = k := fun cs hcs => by
    rcases List.mem_append.1 hcs with h1 | h1
    · exact hfa.2.1 cs h1 |>.trans hsz
    · rw [List.eq_of_mem_replicate h1]; exact hzk'
  have hnl : (css.take i ++ List.replicate m zc).length = i + m := by rw [List.length_append, List.length_replicate, hfa.1]
  have hobj : (css.take i).flatten.toArray ++ Builtin.zeroCells z.cells m ++ Builtin.zeroCells z.cells (grownCap w (i + m) cp el - (i + m)) = ((css.take i ++ List.replicate m zc).flatten ++ (Builtin.zeroCells z.cells (grownCap w (i + m) cp el - (i + m))).toList).toArray := by
    apply Array.ext'
    simp [hzl]
  rw [hobj] at hap
  have hok : RowOk (w.drew.alloc (.cells ((css.take i ++ List.replicate m zc).flatten ++ (Builtin.zeroCells z.cells (grownCap w (i + m) cp el - (i + m))).toList).toArray el)) (.slice (some ⟨w.heap.size, 0, none⟩) (i + m) (grownCap w (i + m) cp el)) k (css.take i ++ List.replicate m zc) := by
    refine .inr ⟨w.heap.size, grownCap w (i + m) cp el, (Builtin.zeroCells z.cells (grownCap w (i + m) cp el - (i + m))).toList, el, by rw [hnl], hnk, by rw [hnl]; exact hge, heap_alloc_new w.drew _, ?_⟩
    rw [List.length_append, flatten_length hnk, hnl, Array.length_toList, hsize, ← Nat.add_mul]
    congr 1
    omega
  have hh : Holds c H ([.row (.slice (some ⟨w.heap.size, 0, none⟩) (i + m) (grownCap w (i + m) cp el)) k (css.take i ++ List.replicate m zc)] ++ (.row (.slice a nn cp) k css :: M ++ L)) (w.drew.alloc (.cells ((css.take i ++ List.replicate m zc).flatten ++ (Builtin.zeroCells z.cells (grownCap w (i + m) cp el - (i + m))).toList).toArray el)) := by
    refine Holds.frameH (I := []) (R := .row (.slice a nn cp) k css :: M ++ L) (by simpa using hs.holds) ((Moves.drew w _).trans (Moves.alloc w.drew _ _)) (Own.ok_one hok) (Own.sep_one _) fun b' hb' => ?_
    simp [Own.blocks, Res.blocks] at hb'
    exact .inl (by omega)
  refine ⟨_, _, ?_, _, ok_put hs hn (M'' := .row (.slice (some ⟨w.heap.size, 0, none⟩) (i + m) (grownCap w (i + m) cp el)) k (css.take i ++ List.replicate m zc) :: .row (.slice a nn cp) k css :: M) (by simpa using hh), kk w.heap.size (grownCap w (i + m) cp el) hge⟩
  simp [execOp, resolve, invoke, builtin, hs.env.eval hx, hs.env.eval hy, Sem.run_bind, hap]
end
end
section
/-! A row of one's own lent to a callee that reads it. -/
theorem cell_same {w w' : World} {b o : Nat} (h : w'.heap[b]? = w.heap[b]?) : w'.cell? ⟨b, o, none⟩ = w.cell? ⟨b, o, none⟩ := by
  unfold World.cell?
  rw [h]
theorem Fn.borrow {P : Program} {f : FuncId} {args : List Value} {H : Hp} {a : Option Addr} {n c k : Nat} {css : List (List Value)} {Q : Value → Prop} (h1 : ∀ cs ∈ css, ∀ u ∈ cs, u.oneCell' = true)
    (h : ∀ H1, HLe H H1 → HRow H1 a n c k css → Fn P f args H1 [] fun v _ I' => Q v ∧ I' = []) :
    Fn P f args H [.row (.slice a n c) k css] fun v H' I' => Q v ∧ H' = H ∧ I' = [.row (.slice a n c) k css] := by
  intro w hw
  obtain ⟨H1, hle, hr, hh⟩ := Holds.freeze (R := []) hw h1
  have h0 : Holds ⟨w, H1, []⟩ H1 [] w := ⟨hh.mem, Own.ok_nil w, Own.sep_nil, fun b hb => (by cases hb), fun b hb => (by cases hb), ⟨rfl, rfl, rfl, Nat.le_refl _, fun _ _ _ => rfl⟩, fun _ _ _ h => h, fun _ _ _ h => .inl h, fun b o v h1 h2 => absurd (h1.symm.trans h2) (by simp), hh.callee (I := []) (fun b hb => (by cases hb))⟩
  refine (h H1 hle hr w h0).mono ?_
  rintro e w' ⟨v, H', I', rfl, hh', hq, rfl⟩
  have hb : ∀ b, b < w.heap.size → w'.heap[b]? = w.heap[b]? := fun b hb => hh'.old.block b hb (fun hm => by cases hm)
  refine ⟨v, H, _, rfl, ⟨?_, ?_, hw.sep, hw.apart, hw.fresh, ⟨hh'.old.os, hh'.old.tape, hh'.old.output, hh'.old.size, fun b hlt _ => hb b hlt⟩, hw.hle, hw.hnew, ?_, hw.gl⟩, hq, rfl, rfl⟩
  · intro b o v hv
    have := hw.mem b o v hv
    exact ⟨(cell_same (hb b (Mem.lt hw.mem hv))).trans this.1, this.2⟩
  · intro r hr
    exact Res.ok_of_block (hw.own r hr) fun b hbr => hb b (Res.block_lt (hw.own r hr) b hbr)
  · intro b o v hv hn
    rw [hb b (Mem.lt hw.mem hv)]
    exact hw.thaw b o v hv hn
end
section
/-! Maps of numbers that tell what has been seen. -/
/-- the entries are these numbers, all true -/
def SetMap (es : Array MapEntry) (l : List Int) : Prop := es.toList.map (fun e => (e.key, e.val)) = l.map (fun x => ((.int .i64 x : Value), (.bool true : Value)))
theorem SetMap.nil : SetMap #[] [] := rfl
theorem SetMap.push {es : Array MapEntry} {l : List Int} (h : SetMap es l) (x : Int) (c : Nat) : SetMap (es.push ⟨.int .i64 x, .bool true, c⟩) (l ++ [x]) := by
  unfold SetMap at *
  simp [h]
theorem findNow_set {k : Int} : ∀ {es : List MapEntry} {l : List Int} {i : Nat}, es.map (fun e => (e.key, e.val)) = l.map (fun x => ((.int .i64 x : Value), (.bool true : Value))) →
    (k ∈ l ∧ ∃ j, Instr.findNow (.int .i64) (.int .i64 k) es i = some (some (j, .bool true))) ∨ (k ∉ l ∧ Instr.findNow (.int .i64) (.int .i64 k) es i = some none)
  | [], [], i, _ => .inr ⟨by simp, rfl⟩
  | [], x :: l, i, h => by simp at h
  | e :: es, [], i, h => by simp at h
  | e :: es, x :: l, i, h => by
    simp only [List.map_cons, List.cons.injEq, Prod.mk.injEq] at h
    obtain ⟨⟨h1, h2⟩, h3⟩ := h
    by_cases hk : k = x
    · exact .inl ⟨by simp [hk], i, by simp [Instr.findNow, Instr.sameNow, h1, h2, hk]⟩
    · have hb : (k == x) = false := by simp [hk]
      rcases findNow_set (k := k) (i := i + 1) h3 with ⟨hm, j, hj⟩ | ⟨hm, hj⟩
      · exact .inl ⟨by simp [hm], j, by simp [Instr.findNow, Instr.sameNow, h1, hb, hj]⟩
      · exact .inr ⟨by simp [hm, hk], by simp [Instr.findNow, Instr.sameNow, h1, hb, hj]⟩
section
variable {P : Program} {F : Fence} {c : Ctx} {K : SP} {n : Nat} {e : Env} {H : Hp} {M L R : Own} {D : List Deferred} {dst : Option Tmp} {d : Nat} {ty : TypeId} {pos : String} {after : Array Edge} {g : Option (Nat × Bool)} {x y z : Operand} {t kt et : TypeId} {b clock : Nat} {es : Array MapEntry} {l : List Int} {k : Int}
theorem run_findKey (hk : P.underlying kt = some (.int .i64)) (hm : SetMap es l) (w : World) :
    (k ∈ l ∧ ∃ j, (Instr.findKey kt (.int .i64 k) es.toList).run P w = .ok (some (j, .bool true)) w) ∨ (k ∉ l ∧ (Instr.findKey kt (.int .i64 k) es.toList).run P w = .ok none w) := by
  rcases findNow_set (k := k) (i := 0) hm with ⟨h1, j, hj⟩ | ⟨h1, hj⟩
  · exact .inl ⟨h1, j, by simp [Instr.findKey, run_underlying hk, hj]⟩
  · exact .inr ⟨h1, by simp [Instr.findKey, run_underlying hk, hj]⟩
theorem run_checkKey (hk : P.underlying kt = some (.int .i64)) (em : Bool) (w : World) : (Instr.checkKey em 10000 kt (.int .i64 k)).run P w = .ok () w := by
  have key : ∀ m : Nat, (Instr.checkKey em (m + 1) kt (.int .i64 k)).run P w = .ok () w := fun m => by simp [Instr.checkKey, run_underlying hk]
  exact key 9999
theorem Ev_lookupS {i : Nat} (ht : P.underlying t = some (.map kt et)) (hk : P.underlying kt = some (.int .i64)) (he : P.underlying et = some .bool) (hz : ∀ w, (zeroValue et).run P w = .ok (.bool false) w)
    (hx : e.eval x = some (.map (some b))) (hy : e.eval y = some (.int .i64 k)) (hR : oget R i = some (.obj b (.map es clock))) (hm : SetMap es l) :
    Ev P ⟨dst, .lookup t x y false, ty, pos, after, g⟩ e H R (.bool (decide (k ∈ l))) := fun a w hee _ hr => by
  have hb : w.heap[b]? = some (.map es clock) := hr _ (oget_mem hR)
  rcases run_findKey (P := P) (k := k) hk hm w with ⟨h1, j, hj⟩ | ⟨h1, hj⟩
  · simp [execOp, hee.eval hx, hee.eval hy, Instr.lookup, run_underlying ht, MapKept.run_getObj_map hb, run_checkKey (P := P) hk, hj, h1]
  · simp [execOp, hee.eval hx, hee.eval hy, Instr.lookup, run_underlying ht, MapKept.run_getObj_map hb, run_checkKey (P := P) hk, hj, hz, h1]
theorem Ef_makeMapS (hF : WideF F) (hn : Nat.blt d n = true) (kk : ∀ b, K ⟨n, (d, .map (some b)) :: e, H, .obj b (.map #[] 0) :: M, L, D⟩) :
    Ef F P c ⟨some d, .makeMap t none, ty, pos, after, g⟩ ⟨n, e, H, M, L, D⟩ K := Ef_of_run hF fun a w hs => by
  refine ⟨_, w.alloc (.map #[] 0), ?_, _, ok_put hs hn (hs.holds.allocO (.map #[] 0)), kk _⟩
  simp [execOp, Instr.makeMap]
theorem Ef_mapUpdateS (hF : WideF F) (ht : P.underlying t = some (.map kt et)) (hk : P.underlying kt = some (.int .i64)) (hx : e.eval x = some (.map (some b))) (hy : e.eval y = some (.int .i64 k)) (hz : e.eval z = some (.bool true)) (hm : SetMap es l) (hno : k ∉ l)
    (kk : K ⟨n, e, H, .obj b (.map (es.push ⟨.int .i64 k, .bool true, clock⟩) (clock + 1)) :: M, L, D⟩) :
    Ef F P c ⟨none, .mapUpdate t x y z, ty, pos, after, g⟩ ⟨n, e, H, .obj b (.map es clock) :: M, L, D⟩ K := Ef_of_skip hF (by simp) fun a w hs => by
  have hb : w.heap[b]? = some (.map es clock) := hs.holds.own (.obj b (.map es clock)) (by simp)
  rcases run_findKey (P := P) (k := k) hk hm w with ⟨h1, j, hj⟩ | ⟨h1, hj⟩
  · exact absurd h1 hno
  · refine ⟨w.putObj b (.map (es.push ⟨.int .i64 k, .bool true, clock⟩) (clock + 1)), ?_, _, ok_keep hs (Holds.putObj _ hs.holds), kk⟩
    simp [execOp, hs.env.eval hx, hs.env.eval hy, hs.env.eval hz, Instr.mapUpdate, run_underlying ht, MapKept.run_getObj_map hb, run_checkKey (P := P) hk, hj, MapKept.run_setObj_map _ hb, World.putObj]
end
end
end Go.Proofs.YtnoadopmeoohmaaGreatDoor
