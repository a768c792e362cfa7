/-
  Maps of numbers that tell what has been seen.
-/
import Derived.Test.YthniohgeojenaaaA15
import Derived.MapKept
namespace Go.Proofs.Ythniohgeojenaaa
open Go
set_option linter.unusedVariables false
set_option linter.unusedSimpArgs false
/-- the entries are these numbers, all true -/
def SetMap (es : Array MapEntry) (l : List Int) : Prop := es.toList.map (fun e => (e.key, e.val)) = l.map (fun x => ((.int .i64 x : Value), (.bool true : Value)))
theorem SetMap.nil : SetMap #[] [] := rfl
theorem SetMap.push {es : Array MapEntry} {l : List Int} (h : SetMap es l) (x : Int) (c : Nat) : SetMap (es.push ⟨.int .i64 x, .bool true, c⟩) (l ++ [x]) := by
  unfold SetMap at *
  simp [h]
theorem findNow_set {k : Int} : ∀ {es : List MapEntry} {l : List Int} {i : Nat}, es.map (fun e => (e.key, e.val)) = l.map (fun x => ((.int .i64 x : Value), (.bool true : Value))) →
    (k ∈ l ∧ ∃ j, Instr.findNow (.int .i64) (.int .i64 k) es i = some (some (j, .bool true))) ∨ (k ∉ l ∧ Instr.findNow (.int .i64) (.int .i64 k) es i = some none)
  | [], [], i, _ => .inr ⟨by simp, rfl⟩
  | [], x :: l, i, h => by simp at h
  | e :: es, [], i, h => by simp at h
  | e :: es, x :: l, i, h => by
    simp only [List.map_cons, List.cons.injEq, Prod.mk.injEq] at h
    obtain ⟨⟨h1, h2⟩, h3⟩ := h
    by_cases hk : k = x
    · exact .inl ⟨by simp [hk], i, by simp [Instr.findNow, Instr.sameNow, h1, h2, hk]⟩
    · have hb : (k == x) = false := by simp [hk]
      rcases findNow_set (k := k) (i := i + 1) h3 with ⟨hm, j, hj⟩ | ⟨hm, hj⟩
      · exact .inl ⟨by simp [hm], j, by simp [Instr.findNow, Instr.sameNow, h1, hb, hj]⟩
      · exact .inr ⟨by simp [hm, hk], by simp [Instr.findNow, Instr.sameNow, h1, hb, hj]⟩
section
variable {P : Program} {F : Fence} {c : Ctx} {K : SP} {n : Nat} {e : Env} {H : Hp} {M L R : Own} {D : List Deferred} {dst : Option Tmp} {d : Nat} {ty : TypeId} {pos : String} {after : Array Edge} {g : Option (Nat × Bool)} {x y z : Operand} {t kt et : TypeId} {b clock : Nat} {es : Array MapEntry} {l : List Int} {k : Int}
theorem run_findKey (hk : P.underlying kt = some (.int .i64)) (hm : SetMap es l) (w : World) :
    (k ∈ l ∧ ∃ j, (Instr.findKey kt (.int .i64 k) es.toList).run P w = .ok (some (j, .bool true)) w) ∨ (k ∉ l ∧ (Instr.findKey kt (.int .i64 k) es.toList).run P w = .ok none w) := by
  rcases findNow_set (k := k) (i := 0) hm with ⟨h1, j, hj⟩ | ⟨h1, hj⟩
  · exact .inl ⟨h1, j, by simp [Instr.findKey, run_underlying hk, hj]⟩
  · exact .inr ⟨h1, by simp [Instr.findKey, run_underlying hk, hj]⟩
theorem run_checkKey (hk : P.underlying kt = some (.int .i64)) (em : Bool) (w : World) : (Instr.checkKey em 10000 kt (.int .i64 k)).run P w = .ok () w := by
  have key : ∀ m : Nat, (Instr.checkKey em (m + 1) kt (.int .i64 k)).run P w = .ok () w := fun m => by simp [Instr.checkKey, run_underlying hk]
  exact key 9999
theorem Ev_lookupS {i : Nat} (ht : P.underlying t = some (.map kt et)) (hk : P.underlying kt = some (.int .i64)) (he : P.underlying et = some .bool) (hz : ∀ w, (zeroValue et).run P w = .ok (.bool false) w)
    (hx : e.eval x = some (.map (some b))) (hy : e.eval y = some (.int .i64 k)) (hR : oget R i = some (.obj b (.map es clock))) (hm : SetMap es l) :
    Ev P ⟨dst, .lookup t x y false, ty, pos, after, g⟩ e H R (.bool (decide (k ∈ l))) := fun a w hee _ hr => by
  have hb : w.heap[b]? = some (.map es clock) := hr _ (oget_mem hR)
  rcases run_findKey (P := P) (k := k) hk hm w with ⟨h1, j, hj⟩ | ⟨h1, hj⟩
  · simp [execOp, hee.eval hx, hee.eval hy, Instr.lookup, run_underlying ht, MapKept.run_getObj_map hb, run_checkKey (P := P) hk, hj, h1]
  · simp [execOp, hee.eval hx, hee.eval hy, Instr.lookup, run_underlying ht, MapKept.run_getObj_map hb, run_checkKey (P := P) hk, hj, hz, h1]
theorem Ef_makeMapS (hF : WideF F) (hn : Nat.blt d n = true) (kk : ∀ b, K ⟨n, (d, .map (some b)) :: e, H, .obj b (.map #[] 0) :: M, L, D⟩) :
    Ef F P c ⟨some d, .makeMap t none, ty, pos, after, g⟩ ⟨n, e, H, M, L, D⟩ K := Ef_of_run hF fun a w hs => by
  refine ⟨_, w.alloc (.map #[] 0), ?_, _, ok_put hs hn (hs.holds.allocO (.map #[] 0)), kk _⟩
  simp [execOp, Instr.makeMap]
theorem Ef_mapUpdateS (hF : WideF F) (ht : P.underlying t = some (.map kt et)) (hk : P.underlying kt = some (.int .i64)) (hx : e.eval x = some (.map (some b))) (hy : e.eval y = some (.int .i64 k)) (hz : e.eval z = some (.bool true)) (hm : SetMap es l) (hno : k ∉ l)
    (kk : K ⟨n, e, H, .obj b (.map (es.push ⟨.int .i64 k, .bool true, clock⟩) (clock + 1)) :: M, L, D⟩) :
    Ef F P c ⟨none, .mapUpdate t x y z, ty, pos, after, g⟩ ⟨n, e, H, .obj b (.map es clock) :: M, L, D⟩ K := Ef_of_skip hF (by simp) fun a w hs => by
  have hb : w.heap[b]? = some (.map es clock) := hs.holds.own (.obj b (.map es clock)) (by simp)
  rcases run_findKey (P := P) (k := k) hk hm w with ⟨h1, j, hj⟩ | ⟨h1, hj⟩
  · exact absurd h1 hno
  · refine ⟨w.putObj b (.map (es.push ⟨.int .i64 k, .bool true, clock⟩) (clock + 1)), ?_, _, ok_keep hs (Holds.putObj _ hs.holds), kk⟩
    simp [execOp, hs.env.eval hx, hs.env.eval hy, hs.env.eval hz, Instr.mapUpdate, run_underlying ht, MapKept.run_getObj_map hb, run_checkKey (P := P) hk, hj, MapKept.run_setObj_map _ hb, World.putObj]
end
end Go.Proofs.Ythniohgeojenaaa
