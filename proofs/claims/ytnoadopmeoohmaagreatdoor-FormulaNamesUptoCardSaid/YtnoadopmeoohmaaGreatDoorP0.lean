/-
  Rules: loops unrolled, a result in a cell beside another one, a map literal's entries.
-/
import Derived.Test.YtnoadopmeoohmaaGreatDoorE1
import Derived.Test.YtnoadopmeoohmaaGreatDoorA16
namespace Go.Proofs.YtnoadopmeoohmaaGreatDoor
open Go
set_option linter.unusedVariables false
set_option linter.unusedSimpArgs false
section
variable {F : Fence} {P : Program} {c : Ctx} {K : SP} {X : List (Nat × SP)} {R : SP}
/-- at most m rounds are left -/
def unr (F : Fence) (P : Program) (c : Ctx) (x : Code) (X : List (Nat × SP)) (R : SP) : Nat → SP
  | 0, _ => False
  | m + 1, s => wpA F P c x (unr F P c x X R m) X R s
theorem U_succ {x : Code} {m : Nat} {s : Sta} (h : wpA F P c x (unr F P c x X R m) X R s) : unr F P c x X R (m + 1) s := h
theorem A_unroll {x : Code} (m : Nat) {s : Sta} (h : unr F P c x X R m s) : wpA F P c (.loop x) K X R s :=
  A_loop (fun j s => unr F P c x X R j s) m h fun n s hI => by
    cases n with
    | zero => exact hI.elim
    | succ n => exact A_mono hI (fun s' h' => ⟨n, Nat.lt_succ_self n, h'⟩) fun _ h => h
variable {fn : Func} {n : Nat} {e : Env} {H : Hp} {M L : Own} {D : List Deferred} {v v2 : Value}
theorem cellC {T k b i t : Nat} {cs : List Value} [hT : TyC P T true k] {a : Act} {w : World} (he : EnvOk e a) (hr : Own.ok (M ++ L) w) (h1 : e.find t = some (.pointer (some ⟨b, 0, none⟩))) (hR : oget M i = some (.box b cs)) (hk : cs.length = k) :
    (resOf a.tmps (.cell t T)).run P w = .ok (.agg cs.toArray) w := by
  obtain ⟨T', hb⟩ := hr _ (List.mem_append_left _ (oget_mem hR))
  have h2 := run_load_agg (P := P) (t := T) (w := w) (b := b) (o := 0) hk (fun j v hj => cell_of_heap hb (by simpa using hj))
  simp only [Instr.loadAt, Instr.sureAddr, Sem.run_bind, Sem.run_pure, Result.andThen_ok] at h2
  simp [resOf, he _ _ h1, asAddr, h2]
theorem RetC2 {T k b i t t2 : Nat} {cs : List Value} [hT : TyC P T true k] (h : fn.results = #[.cell t T, .tmp t2]) (h1 : e.find t = some (.pointer (some ⟨b, 0, none⟩))) (hR : oget M i = some (.box b cs)) (hk : cs.length = k) (h2 : e.find t2 = some v2) :
    RetOk P fn ⟨n, e, H, M, L, D⟩ (.tuple [.agg cs.toArray, v2].toArray) := fun a w he hr => by
  have e2 : (resOf a.tmps (.tmp t2)).run P w = .ok v2 w := by simp [resOf, he _ _ h2]
  rw [results_eq, h, Sem.run_bind, run_mapM2 (cellC he hr h1 hR hk) e2]
  simp
end
section
variable {F : Fence} {P : Program} {c : Ctx} {o : Oper} {K : SP} {n : Nat} {e : Env} {H : Hp} {M L : Own} {D : List Deferred} {ty : TypeId} {pos : String} {after : Array Edge} {g : Option (Nat × Bool)} {x y z : Operand} {v : Value} {t : TypeId} {b : Nat}
theorem Ef_mapIns (hF : WideF F) {kt et : TypeId} {kvs : List (Int × Value)} {q : Int} [ht : UndC P t (.map kt et)] [hk : UndC P kt (.int .i64)] (hx : e.eval x = some (.map (some b))) (hy : e.eval y = some (.int .i64 q)) (hz : e.eval z = some v) (hno : ¬ mhas kvs q)
    (k : K ⟨n, e, H, .obj b (mobj (kvs ++ [(q, v)])) :: M, L, D⟩) :
    Ef F P c ⟨none, .insert t x y z, ty, pos, after, g⟩ ⟨n, e, H, .obj b (mobj kvs) :: M, L, D⟩ K := Ef_of_skip hF (by simp) fun a w hs => by
  have hb : w.heap[b]? = some (mobj kvs) := hs.holds.own (.obj b (mobj kvs)) (by simp)
  have h1 := MapKept.run_getObj_map (P := P) hb
  have h2 := run_checkKey_int (P := P) hk.und false q w
  obtain ⟨r, h3, h4⟩ := findNow_m q v kvs 0 0
  rcases h4 with ⟨q', rfl, h5⟩ | ⟨rfl, h5⟩
  · exact absurd h5 hno
  have h6 := MapKept.run_setObj_map (P := P) (mobj (kvs ++ [(q, v)])) hb
  have h7 : (mobj (kvs ++ [(q, v)])) = .map ((ments 0 kvs).toArray.push ⟨.int .i64 q, v, kvs.length⟩) (kvs.length + 1) := by
    simp [mobj, ments_snoc]
  refine ⟨w.putObj b (mobj (kvs ++ [(q, v)])), ?_, ⟨n, e, H, .obj b (mobj (kvs ++ [(q, v)])) :: M, L, D⟩, ⟨hs.defers, hs.size, hs.env, hs.holds.putObj _⟩, k⟩
  have h9 : (setObj b (.map ((ments 0 kvs).toArray.push ⟨.int .i64 q, v, kvs.length⟩) (kvs.length + 1))).run P w = .ok () (w.putObj b (mobj (kvs ++ [(q, v)]))) := by rw [← h7]; exact h6
  simp only [execOp, hs.env.eval hx, hs.env.eval hy, hs.env.eval hz, Instr.mapUpdate, ht.run, h1, h2, Instr.findKey, hk.run, h3, Sem.run_bind, Sem.run_pure, Result.andThen_ok, h9]
end
end Go.Proofs.YtnoadopmeoohmaaGreatDoor
