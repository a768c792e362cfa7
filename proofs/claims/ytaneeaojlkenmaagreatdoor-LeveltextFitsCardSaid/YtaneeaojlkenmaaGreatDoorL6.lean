/-
  The reference's code points: Size, IsPoint, Encode, Decode, First. Printed by genL6.py.
-/
import Derived.Test.YtaneeaojlkenmaaGreatDoorL2
import Derived.Test.YtaneeaojlkenmaaGreatDoorK4
import Derived.Deep.OwnRows
namespace Go.Proofs.YtaneeaojlkenmaaGreatDoor
open Go
set_option linter.unusedVariables false
set_option linter.unusedSimpArgs false
section
variable {F : Fence} {P : Program} {c : Ctx} {K : SP} {t t2 ty : TypeId} {pos : String} {after : Array Edge} {g : Option (Nat × Bool)} {n d : Nat} {e : Env} {H : Hp} {M L : Own} {D : List Deferred} {x y : Operand} {v : Value}
theorem madeCells_flat (z : Value) (m : Nat) : (madeCells #[z] m) = ((List.replicate m [z]).flatten).toArray := by
  have h1 : (List.replicate m [z]).flatten = List.replicate m z := by
    induction m with
    | zero => rfl
    | succ m ih => rw [List.replicate_succ, List.flatten_cons, ih, List.replicate_succ]; rfl
  rw [h1]
  apply Array.ext
  · simp [madeCells]
  · intro i hi hj
    simp [madeCells, Nat.mod_one]
/-- make([]T, m), T of one cell -/
theorem Ef_make1 (hF : WideF F) {el bytes m : Nat} {zc : Value} {q : Int} [ht : UndC P t (.slice el)] [hT : TyC P el false 1] [hI : InfoC P el bytes] [hz : ZeroL P el [zc]]
    (hx : e.eval x = some (.int .i64 q)) (hq : q = (m : Nat)) (hb : bytes * m ≤ 281474976710656) (hm : m ≤ 9223372036854775807) (hn : Nat.blt d n = true)
    (kk : ∀ b, K ⟨n, (d, .slice (some ⟨b, 0, none⟩) m m) :: e, H, .row (.slice (some ⟨b, 0, none⟩) m m) 1 (List.replicate m [zc]) :: M, L, D⟩) :
    Ef F P c ⟨some d, .makeSlice t x x, ty, pos, after, g⟩ ⟨n, e, H, M, L, D⟩ K := Ef_of_run hF fun a w hs => by
  obtain ⟨i, z, hi, hsz, hby, hzz, hzc⟩ := info_of (P := P) (t := el) (hT := hT) (hI := hI) (hz := hz)
  subst hq hby
  have hzc' : z.cells = #[zc] := by apply Array.toList_inj.1; rw [hzc]
  have hb' : (i.bytes : Int) * (m : Int) ≤ 281474976710656 := by
    have h : ((i.bytes * m : Nat) : Int) ≤ 281474976710656 := by omega
    rwa [Int.natCast_mul] at h
  have hrun := run_make (P := P) w t el i z ht.und hi hzz .i64 .i64 m m (by omega) (Int.le_refl _) hb' (by omega)
  simp only [Int.toNat_natCast, hsz, Nat.mul_one, hzc'] at hrun
  refine ⟨.slice (some ⟨w.heap.size, 0, none⟩) m m, w.alloc (.cells (List.replicate m [zc]).flatten.toArray el (0, 0)), ?_, _, ok_put hs hn ?_, kk _⟩
  · rw [madeCells_flat] at hrun
    simp only [execOp, Sem.run_bind, hs.env.eval hx, hrun, Result.andThen_ok, Sem.run_pure]
  · have := hs.holds.allocRow (k := 1) (List.replicate m [zc]) (fun cs h => by rw [(List.mem_replicate.1 h).2]; rfl) el
    rw [List.length_replicate] at this
    exact this
/-- a row of bytes, as a string -/
theorem Ev_convR {R : Own} {dst : Option Tmp} {b : Nat} {i el n cp : Nat} {l : List UInt8} {css : List (List Value)} [hs : UndC P t (.slice el)] [he : UndC P el (.int .u8)] [hd : UndC P t2 .string] (hx : e.eval x = some (.slice (some ⟨b, 0, none⟩) n cp)) (hR : oget R i = some (.row (.slice (some ⟨b, 0, none⟩) n cp) 1 css)) (hc : css = l.map fun u => [.int .u8 (u.toNat : Int)]) :
    Ev P ⟨dst, .convert t t2 x, ty, pos, after, g⟩ e H R (sv l) := fun a w hev _ hr => by
  have hrow : RowOk w (.slice (some ⟨b, 0, none⟩) n cp) 1 css := hr _ (oget_mem hR)
  have hn : n = l.length := by rw [hrow.addr.1, hc, List.length_map]
  subst hn
  have h1 := run_convert_bytes_back (P := P) w t t2 el ⟨b, 0, none⟩ cp l hs.und he.und hd.und (fun j hj => by
    have := row_cell hrow (i := j) (cs := [.int .u8 (l[j].toNat : Int)]) (j := 0) (v := .int .u8 (l[j].toNat : Int)) (by rw [hc, List.getElem?_map, List.getElem?_eq_getElem hj]; rfl) rfl
    rw [Addr.add_lit]
    simpa using this)
  simp [execOp, hev.eval hx, h1]
end
def sizeP (p : Int) : Int := if p < 128 then 1 else if p < 2048 then 2 else if p < 65536 then 3 else 4
def isPt (p : Int) : Prop := 0 ≤ p ∧ p ≤ 1114111 ∧ (p < 55296 ∨ 57343 < p)
instance (p : Int) : Decidable (isPt p) := inferInstanceAs (Decidable (_ ∧ _))
def oN (m : Int) : UInt8 := UInt8.ofNat m.toNat
theorem oN_eq {m : Int} (h : 0 ≤ m ∧ m < 256) : ((oN m).toNat : Int) = m := by unfold oN; simp; omega
def encP (p : Int) : List UInt8 :=
  if p < 128 then [oN p] else if p < 2048 then [oN (192 + p / 64), oN (128 + p % 64)] else if p < 65536 then [oN (224 + p / 64 / 64), oN (128 + p / 64 % 64), oN (128 + p % 64)]
  else [oN (240 + p / 64 / 64 / 64), oN (128 + p / 64 / 64 % 64), oN (128 + p / 64 % 64), oN (128 + p % 64)]
attribute [local irreducible] wpA opsA drJ drQ drE Ef Ev Shift Fn
set_option maxRecDepth 100000 in
theorem Size_fn {H : Hp} {p : Int} : FnP Tryz.prog 109 [.int .i64 p] H (.int .i64 (sizeP p)) := by
  refine Fn_of _ _ Tryz.func109 rfl Tryz.ntmps109 rfl fun c => ?_
  repeat' (first | refine O_nil ?_ | refine A_seq ?_ | refine A_region ?_ | refine A_skip ?_ | refine A_ret ?_ | refine A_block ?_ | (show opsA _ _ _ _ _ _ _; refine O_ev WideF.wide rfl (Ev_pure rfl) rfl rfl ?_) | (show wpA _ _ _ (.cond _ _ _) _ _ _ _; (refine A_if rfl (fun h => ?_) (fun h => ?_) <;> try (exfalso; omega))))
  all_goals (refine End_p (Ret1 rfl rfl) ?_; unfold sizeP; repeat' split) <;> first | rfl | (exfalso; omega)
set_option maxRecDepth 100000 in
theorem IsPoint_fn {H : Hp} {p : Int} : FnP Tryz.prog 79 [.int .i64 p] H (.bool (decide (isPt p))) := by
  by_cases h1 : 0 ≤ p
  · by_cases h2 : p ≤ 1114111
    · by_cases h3 : p < 55296
      · rw [decide_eq_true (show isPt p from ⟨h1, h2, .inl h3⟩)]
        refine Fn_of _ _ Tryz.func79 rfl Tryz.ntmps79 rfl fun c => ?_
        repeat' (first | refine O_nil ?_ | refine A_seq ?_ | refine A_region ?_ | refine A_ret ?_ | (show opsA _ _ _ _ _ _ _; first | (refine O_split rfl rfl (fun h => ?_) (fun h => ?_) <;> try (exfalso; omega)) | refine O_ev WideF.wide rfl (Ev_pure rfl) rfl rfl ?_ | refine O_skip WideF.wide rfl rfl rfl ?_))
        all_goals first
          | (exfalso; omega)
          | exact End_p (Ret1 rfl rfl) rfl
      · have e : decide (isPt p) = decide (57343 < p) := by rw [decide_eq_decide]; unfold isPt; omega
        rw [e]
        refine Fn_of _ _ Tryz.func79 rfl Tryz.ntmps79 rfl fun c => ?_
        repeat' (first | refine O_nil ?_ | refine A_seq ?_ | refine A_region ?_ | refine A_ret ?_ | (show opsA _ _ _ _ _ _ _; first | (refine O_split rfl rfl (fun h => ?_) (fun h => ?_) <;> try (exfalso; omega)) | refine O_ev WideF.wide rfl (Ev_pure rfl) rfl rfl ?_))
        all_goals first
          | (exfalso; omega)
          | exact End_p (Ret1 rfl rfl) rfl
    · rw [decide_eq_false (show ¬ isPt p from fun h => h2 h.2.1)]
      refine Fn_of _ _ Tryz.func79 rfl Tryz.ntmps79 rfl fun c => ?_
      repeat' (first | refine O_nil ?_ | refine A_seq ?_ | refine A_region ?_ | refine A_ret ?_ | (show opsA _ _ _ _ _ _ _; first | (refine O_split rfl rfl (fun h => ?_) (fun h => ?_) <;> try (exfalso; omega)) | refine O_ev WideF.wide rfl (Ev_pure rfl) rfl rfl ?_ | refine O_skip WideF.wide rfl rfl rfl ?_))
      all_goals first
        | (exfalso; omega)
        | exact End_p (Ret1 rfl rfl) rfl
  · rw [decide_eq_false (show ¬ isPt p from fun h => h1 h.1)]
    refine Fn_of _ _ Tryz.func79 rfl Tryz.ntmps79 rfl fun c => ?_
    repeat' (first | refine O_nil ?_ | refine A_seq ?_ | refine A_region ?_ | refine A_ret ?_ | (show opsA _ _ _ _ _ _ _; first | (refine O_split rfl rfl (fun h => ?_) (fun h => ?_) <;> try (exfalso; omega)) | refine O_ev WideF.wide rfl (Ev_pure rfl) rfl rfl ?_ | refine O_skip WideF.wide rfl rfl rfl ?_))
    all_goals first
      | (exfalso; omega)
      | exact End_p (Ret1 rfl rfl) rfl

set_option maxRecDepth 100000 in
set_option maxHeartbeats 1000000 in
theorem Encode_fn {H : Hp} {p : Int} (hp : 0 ≤ p ∧ p < 2097152) : Fn Tryz.prog 80 [.int .i64 p] H [] fun v _ I => v = sv (encP p) ∧ I = [] := by
  have hs := fun Hx => Size_fn (H := Hx) (p := p)
  unfold sizeP at hs
  unfold encP
  by_cases h1 : p < 128
  · rw [if_pos h1]
    simp only [if_pos h1] at hs
    refine Fn_of _ _ Tryz.func80 rfl Tryz.ntmps80 rfl fun c => ?_
    repeat' (first | (refine O_ef rfl (Ef_callp WideF.wide (hs _) ⟨rfl, trivial⟩ rfl ?_)) | (refine O_ev WideF.wide rfl (Ev_conv (k2 := .u8) rfl (wu8 (by omega))) rfl rfl ?_) | (refine O_ev WideF.wide rfl (Ev_conv1 (i := 0) rfl rfl (by omega)) rfl rfl ?_) | refine O_nil ?_ | refine A_seq ?_ | refine A_region ?_ | refine A_ret ?_ | (show opsA _ _ _ _ _ _ _; first | refine O_ev WideF.wide rfl (Ev_pure rfl) rfl rfl ?_ | (show opsA _ _ _ _ (⟨_, .buildSlice _ _ _, _, _, _, _⟩ :: _) _ _; (refine O_ef rfl (Ef_build11 WideF.wide rfl rfl rfl ?_); intro b))) | (show wpA _ _ _ (.cond _ _ _) _ _ _ _; (refine A_if rfl (fun h => ?_) (fun h => ?_) <;> try (exfalso; omega))))
    exact End_e (Ret1 rfl rfl) ⟨rfl, rfl⟩
  rw [if_neg h1]
  simp only [if_neg h1] at hs

  by_cases h2 : p < 2048
  · rw [if_pos h2]
    simp only [if_pos h2] at hs
    refine Fn_of _ _ Tryz.func80 rfl Tryz.ntmps80 rfl fun c => ?_
    repeat' (first | (refine O_ef rfl (Ef_callp WideF.wide (hs _) ⟨rfl, trivial⟩ rfl ?_)) | (refine O_ef rfl (Ef_make1 (m := 2) WideF.wide rfl rfl (by decide) (by decide) rfl ?_); intro b) | refine O_nil ?_ | refine A_seq ?_ | refine A_region ?_ | refine A_skip ?_ | refine A_block ?_ | (show opsA _ _ _ _ _ _ _; first | refine O_ev WideF.wide rfl (Ev_pure rfl) rfl rfl ?_ | (show opsA _ _ _ _ (⟨_, .binOp _ _ _ _ _, _, _, _, _⟩ :: _) _ _; refine O_ev WideF.wide rfl (Ev_sub rfl rfl (wi64 (by omega))) rfl rfl ?_)) | (show wpA _ _ _ (.cond _ _ _) _ _ _ _; (refine A_if rfl (fun h => ?_) (fun h => ?_) <;> try (exfalso; omega))))
    refine A_loopu (fun m st => (m = 1 ∧ st = ⟨44, [(0, .int .i64 (p)), (3, .int .i64 2), (4, .slice (some ⟨b, 0, none⟩) 2 2), (5, .int .i64 1)], H, [.row (.slice (some ⟨b, 0, none⟩) 2 2) 1 [[.int .u8 0], [.int .u8 0]]], [], []⟩) ∨ (m = 0 ∧ st = ⟨44, [(0, .int .i64 (p / 64)), (3, .int .i64 2), (4, .slice (some ⟨b, 0, none⟩) 2 2), (5, .int .i64 0)], H, [.row (.slice (some ⟨b, 0, none⟩) 2 2) 1 [[.int .u8 0], [.int .u8 (128 + p % 64)]]], [], []⟩)) ?_ ?_
    · exact Shift.to ⟨1, .inl ⟨rfl, rfl⟩⟩ ⟨rfl, rfl, rfl, ⟨rfl, rfl, rfl, rfl, trivial⟩, Own.subi [0] (by decide) rfl rfl⟩
    · rintro m st (⟨rfl, rfl⟩ | ⟨rfl, rfl⟩)
      · repeat' (first | (refine O_ef rfl (Ef_storeR1 WideF.wide (i := 1) (dd := 0) (cs := [.int .u8 0]) (cs' := [.int .u8 (128 + p % 64)]) rfl rfl rfl rfl rfl rfl rfl rfl ?_)) | (refine O_ev WideF.wide rfl (Ev_conv (k2 := .u8) rfl (wu8 (by omega))) rfl rfl ?_) | refine O_nil ?_ | refine A_seq ?_ | refine A_region ?_ | refine A_skip ?_ | refine A_block ?_ | (show opsA _ _ _ _ _ _ _; first | refine O_ev WideF.wide rfl (Ev_pure rfl) rfl rfl ?_ | (show opsA _ _ _ _ (⟨_, .indexAddr _ _ _, _, _, _, _⟩ :: _) _ _; refine O_ev WideF.wide rfl (Ev_indexAddr rfl rfl (by omega) (by omega)) rfl rfl ?_) | (show opsA _ _ _ _ (⟨_, .binOp _ _ _ _ _, _, _, _, _⟩ :: _) _ _; first | refine O_ev WideF.wide rfl (Ev_add rfl rfl (wi64 (by omega))) rfl rfl ?_ | refine O_ev WideF.wide rfl (Ev_sub rfl rfl (wi64 (by omega))) rfl rfl ?_ | refine O_ev WideF.wide rfl (Ev_quop rfl rfl (by omega) (by omega)) rfl rfl ?_ | refine O_ev WideF.wide rfl (Ev_remp rfl rfl (by omega) (by omega)) rfl rfl ?_)) | (show wpA _ _ _ (.cond _ _ _) _ _ _ _; (refine A_if rfl (fun h => ?_) (fun h => ?_) <;> try (exfalso; omega))))
        exact Shift.to ⟨0, by omega, .inr (⟨rfl, rfl⟩)⟩ ⟨rfl, rfl, rfl, ⟨rfl, rfl, rfl, rfl, trivial⟩, Own.subi [0] (by decide) rfl rfl⟩
      · repeat' (first | (refine O_ef rfl (Ef_buildn WideF.wide (k := 1) (xs := [_, _, _, _, _]) (vs := [_, _, _, _, _]) rfl ⟨rfl, rfl, rfl, rfl, rfl, trivial⟩ rfl rfl rfl rfl rfl rfl ?_); intro b2) | (refine O_ev WideF.wide rfl (Ev_loadR1 (q := 0) (i := 2) (d := 0) rfl rfl rfl (by omega) rfl) rfl rfl ?_) | (refine O_f1 (O_ef rfl (Ef_storeR1 WideF.wide (i := 0) (dd := 0) (cs := [.int .u8 0]) (cs' := [.int .u8 (192 + p / 64)]) rfl rfl rfl rfl rfl rfl rfl rfl ?_))) | (refine O_ev WideF.wide rfl (Ev_conv (k2 := .u8) rfl (wu8 (by omega))) rfl rfl ?_) | (refine O_ev WideF.wide rfl (Ev_convR (i := 0) (l := [oN (192 + p / 64), oN (128 + p % 64)]) rfl rfl ?_) rfl rfl ?_) | refine O_nil ?_ | refine A_seq ?_ | refine A_region ?_ | refine A_ret ?_ | (show opsA _ _ _ _ _ _ _; first | refine O_ev WideF.wide rfl (Ev_pure rfl) rfl rfl ?_ | (show opsA _ _ _ _ (⟨_, .indexAddr _ _ _, _, _, _, _⟩ :: _) _ _; refine O_ev WideF.wide rfl (Ev_indexAddr rfl rfl (by omega) (by omega)) rfl rfl ?_) | (show opsA _ _ _ _ (⟨_, .binOp _ _ _ _ _, _, _, _, _⟩ :: _) _ _; refine O_ev WideF.wide rfl (Ev_add rfl rfl (wi64 (by omega))) rfl rfl ?_)) | (show wpA _ _ _ (.exit _) _ _ _ _; refine A_exit rfl ?_) | (show wpA _ _ _ (.cond _ _ _) _ _ _ _; (refine A_if rfl (fun h => ?_) (fun h => ?_) <;> try (exfalso; omega))))
        · simp only [List.map_cons, List.map_nil, List.set_cons_zero]
          rw [oN_eq (by omega), oN_eq (by omega)]
        · exact End_e (Ret1 rfl rfl) ⟨rfl, rfl⟩
  rw [if_neg h2]
  simp only [if_neg h2] at hs
  by_cases h3 : p < 65536
  · rw [if_pos h3]
    simp only [if_pos h3] at hs
    refine Fn_of _ _ Tryz.func80 rfl Tryz.ntmps80 rfl fun c => ?_
    repeat' (first | (refine O_ef rfl (Ef_callp WideF.wide (hs _) ⟨rfl, trivial⟩ rfl ?_)) | (refine O_ef rfl (Ef_make1 (m := 3) WideF.wide rfl rfl (by decide) (by decide) rfl ?_); intro b) | refine O_nil ?_ | refine A_seq ?_ | refine A_region ?_ | refine A_skip ?_ | refine A_block ?_ | (show opsA _ _ _ _ _ _ _; first | refine O_ev WideF.wide rfl (Ev_pure rfl) rfl rfl ?_ | (show opsA _ _ _ _ (⟨_, .binOp _ _ _ _ _, _, _, _, _⟩ :: _) _ _; refine O_ev WideF.wide rfl (Ev_sub rfl rfl (wi64 (by omega))) rfl rfl ?_)) | (show wpA _ _ _ (.cond _ _ _) _ _ _ _; (refine A_if rfl (fun h => ?_) (fun h => ?_) <;> try (exfalso; omega))))
    refine A_loopu (fun m st => (m = 2 ∧ st = ⟨44, [(0, .int .i64 (p)), (3, .int .i64 3), (4, .slice (some ⟨b, 0, none⟩) 3 3), (5, .int .i64 2)], H, [.row (.slice (some ⟨b, 0, none⟩) 3 3) 1 [[.int .u8 0], [.int .u8 0], [.int .u8 0]]], [], []⟩) ∨ (m = 1 ∧ st = ⟨44, [(0, .int .i64 (p / 64)), (3, .int .i64 3), (4, .slice (some ⟨b, 0, none⟩) 3 3), (5, .int .i64 1)], H, [.row (.slice (some ⟨b, 0, none⟩) 3 3) 1 [[.int .u8 0], [.int .u8 0], [.int .u8 (128 + p % 64)]]], [], []⟩) ∨ (m = 0 ∧ st = ⟨44, [(0, .int .i64 (p / 64 / 64)), (3, .int .i64 3), (4, .slice (some ⟨b, 0, none⟩) 3 3), (5, .int .i64 0)], H, [.row (.slice (some ⟨b, 0, none⟩) 3 3) 1 [[.int .u8 0], [.int .u8 (128 + p / 64 % 64)], [.int .u8 (128 + p % 64)]]], [], []⟩)) ?_ ?_
    · exact Shift.to ⟨2, .inl ⟨rfl, rfl⟩⟩ ⟨rfl, rfl, rfl, ⟨rfl, rfl, rfl, rfl, trivial⟩, Own.subi [0] (by decide) rfl rfl⟩
    · rintro m st (⟨rfl, rfl⟩ | ⟨rfl, rfl⟩ | ⟨rfl, rfl⟩)
      · repeat' (first | (refine O_ef rfl (Ef_storeR1 WideF.wide (i := 2) (dd := 0) (cs := [.int .u8 0]) (cs' := [.int .u8 (128 + p % 64)]) rfl rfl rfl rfl rfl rfl rfl rfl ?_)) | (refine O_ev WideF.wide rfl (Ev_conv (k2 := .u8) rfl (wu8 (by omega))) rfl rfl ?_) | refine O_nil ?_ | refine A_seq ?_ | refine A_region ?_ | refine A_skip ?_ | refine A_block ?_ | (show opsA _ _ _ _ _ _ _; first | refine O_ev WideF.wide rfl (Ev_pure rfl) rfl rfl ?_ | (show opsA _ _ _ _ (⟨_, .indexAddr _ _ _, _, _, _, _⟩ :: _) _ _; refine O_ev WideF.wide rfl (Ev_indexAddr rfl rfl (by omega) (by omega)) rfl rfl ?_) | (show opsA _ _ _ _ (⟨_, .binOp _ _ _ _ _, _, _, _, _⟩ :: _) _ _; first | refine O_ev WideF.wide rfl (Ev_add rfl rfl (wi64 (by omega))) rfl rfl ?_ | refine O_ev WideF.wide rfl (Ev_sub rfl rfl (wi64 (by omega))) rfl rfl ?_ | refine O_ev WideF.wide rfl (Ev_quop rfl rfl (by omega) (by omega)) rfl rfl ?_ | refine O_ev WideF.wide rfl (Ev_remp rfl rfl (by omega) (by omega)) rfl rfl ?_)) | (show wpA _ _ _ (.cond _ _ _) _ _ _ _; (refine A_if rfl (fun h => ?_) (fun h => ?_) <;> try (exfalso; omega))))
        exact Shift.to ⟨1, by omega, .inr (.inl ⟨rfl, rfl⟩)⟩ ⟨rfl, rfl, rfl, ⟨rfl, rfl, rfl, rfl, trivial⟩, Own.subi [0] (by decide) rfl rfl⟩
      · repeat' (first | (refine O_ef rfl (Ef_storeR1 WideF.wide (i := 1) (dd := 0) (cs := [.int .u8 0]) (cs' := [.int .u8 (128 + p / 64 % 64)]) rfl rfl rfl rfl rfl rfl rfl rfl ?_)) | (refine O_ev WideF.wide rfl (Ev_conv (k2 := .u8) rfl (wu8 (by omega))) rfl rfl ?_) | refine O_nil ?_ | refine A_seq ?_ | refine A_region ?_ | refine A_skip ?_ | refine A_block ?_ | (show opsA _ _ _ _ _ _ _; first | refine O_ev WideF.wide rfl (Ev_pure rfl) rfl rfl ?_ | (show opsA _ _ _ _ (⟨_, .indexAddr _ _ _, _, _, _, _⟩ :: _) _ _; refine O_ev WideF.wide rfl (Ev_indexAddr rfl rfl (by omega) (by omega)) rfl rfl ?_) | (show opsA _ _ _ _ (⟨_, .binOp _ _ _ _ _, _, _, _, _⟩ :: _) _ _; first | refine O_ev WideF.wide rfl (Ev_add rfl rfl (wi64 (by omega))) rfl rfl ?_ | refine O_ev WideF.wide rfl (Ev_sub rfl rfl (wi64 (by omega))) rfl rfl ?_ | refine O_ev WideF.wide rfl (Ev_quop rfl rfl (by omega) (by omega)) rfl rfl ?_ | refine O_ev WideF.wide rfl (Ev_remp rfl rfl (by omega) (by omega)) rfl rfl ?_)) | (show wpA _ _ _ (.cond _ _ _) _ _ _ _; (refine A_if rfl (fun h => ?_) (fun h => ?_) <;> try (exfalso; omega))))
        exact Shift.to ⟨0, by omega, .inr (.inr (⟨rfl, rfl⟩))⟩ ⟨rfl, rfl, rfl, ⟨rfl, rfl, rfl, rfl, trivial⟩, Own.subi [0] (by decide) rfl rfl⟩
      · repeat' (first | (refine O_ef rfl (Ef_buildn WideF.wide (k := 1) (xs := [_, _, _, _, _]) (vs := [_, _, _, _, _]) rfl ⟨rfl, rfl, rfl, rfl, rfl, trivial⟩ rfl rfl rfl rfl rfl rfl ?_); intro b2) | (refine O_ev WideF.wide rfl (Ev_loadR1 (q := 0) (i := 3) (d := 0) rfl rfl rfl (by omega) rfl) rfl rfl ?_) | (refine O_f1 (O_ef rfl (Ef_storeR1 WideF.wide (i := 0) (dd := 0) (cs := [.int .u8 0]) (cs' := [.int .u8 (224 + p / 64 / 64)]) rfl rfl rfl rfl rfl rfl rfl rfl ?_))) | (refine O_ev WideF.wide rfl (Ev_conv (k2 := .u8) rfl (wu8 (by omega))) rfl rfl ?_) | (refine O_ev WideF.wide rfl (Ev_convR (i := 0) (l := [oN (224 + p / 64 / 64), oN (128 + p / 64 % 64), oN (128 + p % 64)]) rfl rfl ?_) rfl rfl ?_) | refine O_nil ?_ | refine A_seq ?_ | refine A_region ?_ | refine A_ret ?_ | (show opsA _ _ _ _ _ _ _; first | refine O_ev WideF.wide rfl (Ev_pure rfl) rfl rfl ?_ | (show opsA _ _ _ _ (⟨_, .indexAddr _ _ _, _, _, _, _⟩ :: _) _ _; refine O_ev WideF.wide rfl (Ev_indexAddr rfl rfl (by omega) (by omega)) rfl rfl ?_) | (show opsA _ _ _ _ (⟨_, .binOp _ _ _ _ _, _, _, _, _⟩ :: _) _ _; refine O_ev WideF.wide rfl (Ev_add rfl rfl (wi64 (by omega))) rfl rfl ?_)) | (show wpA _ _ _ (.exit _) _ _ _ _; refine A_exit rfl ?_) | (show wpA _ _ _ (.cond _ _ _) _ _ _ _; (refine A_if rfl (fun h => ?_) (fun h => ?_) <;> try (exfalso; omega))))
        · simp only [List.map_cons, List.map_nil, List.set_cons_zero]
          rw [oN_eq (by omega), oN_eq (by omega), oN_eq (by omega)]
        · exact End_e (Ret1 rfl rfl) ⟨rfl, rfl⟩
  rw [if_neg h3]
  simp only [if_neg h3] at hs
  refine Fn_of _ _ Tryz.func80 rfl Tryz.ntmps80 rfl fun c => ?_
  repeat' (first | (refine O_ef rfl (Ef_callp WideF.wide (hs _) ⟨rfl, trivial⟩ rfl ?_)) | (refine O_ef rfl (Ef_make1 (m := 4) WideF.wide rfl rfl (by decide) (by decide) rfl ?_); intro b) | refine O_nil ?_ | refine A_seq ?_ | refine A_region ?_ | refine A_skip ?_ | refine A_block ?_ | (show opsA _ _ _ _ _ _ _; first | refine O_ev WideF.wide rfl (Ev_pure rfl) rfl rfl ?_ | (show opsA _ _ _ _ (⟨_, .binOp _ _ _ _ _, _, _, _, _⟩ :: _) _ _; refine O_ev WideF.wide rfl (Ev_sub rfl rfl (wi64 (by omega))) rfl rfl ?_)) | (show wpA _ _ _ (.cond _ _ _) _ _ _ _; (refine A_if rfl (fun h => ?_) (fun h => ?_) <;> try (exfalso; omega))))
  refine A_loopu (fun m st => (m = 3 ∧ st = ⟨44, [(0, .int .i64 (p)), (3, .int .i64 4), (4, .slice (some ⟨b, 0, none⟩) 4 4), (5, .int .i64 3)], H, [.row (.slice (some ⟨b, 0, none⟩) 4 4) 1 [[.int .u8 0], [.int .u8 0], [.int .u8 0], [.int .u8 0]]], [], []⟩) ∨ (m = 2 ∧ st = ⟨44, [(0, .int .i64 (p / 64)), (3, .int .i64 4), (4, .slice (some ⟨b, 0, none⟩) 4 4), (5, .int .i64 2)], H, [.row (.slice (some ⟨b, 0, none⟩) 4 4) 1 [[.int .u8 0], [.int .u8 0], [.int .u8 0], [.int .u8 (128 + p % 64)]]], [], []⟩) ∨ (m = 1 ∧ st = ⟨44, [(0, .int .i64 (p / 64 / 64)), (3, .int .i64 4), (4, .slice (some ⟨b, 0, none⟩) 4 4), (5, .int .i64 1)], H, [.row (.slice (some ⟨b, 0, none⟩) 4 4) 1 [[.int .u8 0], [.int .u8 0], [.int .u8 (128 + p / 64 % 64)], [.int .u8 (128 + p % 64)]]], [], []⟩) ∨ (m = 0 ∧ st = ⟨44, [(0, .int .i64 (p / 64 / 64 / 64)), (3, .int .i64 4), (4, .slice (some ⟨b, 0, none⟩) 4 4), (5, .int .i64 0)], H, [.row (.slice (some ⟨b, 0, none⟩) 4 4) 1 [[.int .u8 0], [.int .u8 (128 + p / 64 / 64 % 64)], [.int .u8 (128 + p / 64 % 64)], [.int .u8 (128 + p % 64)]]], [], []⟩)) ?_ ?_
  · exact Shift.to ⟨3, .inl ⟨rfl, rfl⟩⟩ ⟨rfl, rfl, rfl, ⟨rfl, rfl, rfl, rfl, trivial⟩, Own.subi [0] (by decide) rfl rfl⟩
  · rintro m st (⟨rfl, rfl⟩ | ⟨rfl, rfl⟩ | ⟨rfl, rfl⟩ | ⟨rfl, rfl⟩)
    · repeat' (first | (refine O_ef rfl (Ef_storeR1 WideF.wide (i := 3) (dd := 0) (cs := [.int .u8 0]) (cs' := [.int .u8 (128 + p % 64)]) rfl rfl rfl rfl rfl rfl rfl rfl ?_)) | (refine O_ev WideF.wide rfl (Ev_conv (k2 := .u8) rfl (wu8 (by omega))) rfl rfl ?_) | refine O_nil ?_ | refine A_seq ?_ | refine A_region ?_ | refine A_skip ?_ | refine A_block ?_ | (show opsA _ _ _ _ _ _ _; first | refine O_ev WideF.wide rfl (Ev_pure rfl) rfl rfl ?_ | (show opsA _ _ _ _ (⟨_, .indexAddr _ _ _, _, _, _, _⟩ :: _) _ _; refine O_ev WideF.wide rfl (Ev_indexAddr rfl rfl (by omega) (by omega)) rfl rfl ?_) | (show opsA _ _ _ _ (⟨_, .binOp _ _ _ _ _, _, _, _, _⟩ :: _) _ _; first | refine O_ev WideF.wide rfl (Ev_add rfl rfl (wi64 (by omega))) rfl rfl ?_ | refine O_ev WideF.wide rfl (Ev_sub rfl rfl (wi64 (by omega))) rfl rfl ?_ | refine O_ev WideF.wide rfl (Ev_quop rfl rfl (by omega) (by omega)) rfl rfl ?_ | refine O_ev WideF.wide rfl (Ev_remp rfl rfl (by omega) (by omega)) rfl rfl ?_)) | (show wpA _ _ _ (.cond _ _ _) _ _ _ _; (refine A_if rfl (fun h => ?_) (fun h => ?_) <;> try (exfalso; omega))))
      exact Shift.to ⟨2, by omega, .inr (.inl ⟨rfl, rfl⟩)⟩ ⟨rfl, rfl, rfl, ⟨rfl, rfl, rfl, rfl, trivial⟩, Own.subi [0] (by decide) rfl rfl⟩
    · repeat' (first | (refine O_ef rfl (Ef_storeR1 WideF.wide (i := 2) (dd := 0) (cs := [.int .u8 0]) (cs' := [.int .u8 (128 + p / 64 % 64)]) rfl rfl rfl rfl rfl rfl rfl rfl ?_)) | (refine O_ev WideF.wide rfl (Ev_conv (k2 := .u8) rfl (wu8 (by omega))) rfl rfl ?_) | refine O_nil ?_ | refine A_seq ?_ | refine A_region ?_ | refine A_skip ?_ | refine A_block ?_ | (show opsA _ _ _ _ _ _ _; first | refine O_ev WideF.wide rfl (Ev_pure rfl) rfl rfl ?_ | (show opsA _ _ _ _ (⟨_, .indexAddr _ _ _, _, _, _, _⟩ :: _) _ _; refine O_ev WideF.wide rfl (Ev_indexAddr rfl rfl (by omega) (by omega)) rfl rfl ?_) | (show opsA _ _ _ _ (⟨_, .binOp _ _ _ _ _, _, _, _, _⟩ :: _) _ _; first | refine O_ev WideF.wide rfl (Ev_add rfl rfl (wi64 (by omega))) rfl rfl ?_ | refine O_ev WideF.wide rfl (Ev_sub rfl rfl (wi64 (by omega))) rfl rfl ?_ | refine O_ev WideF.wide rfl (Ev_quop rfl rfl (by omega) (by omega)) rfl rfl ?_ | refine O_ev WideF.wide rfl (Ev_remp rfl rfl (by omega) (by omega)) rfl rfl ?_)) | (show wpA _ _ _ (.cond _ _ _) _ _ _ _; (refine A_if rfl (fun h => ?_) (fun h => ?_) <;> try (exfalso; omega))))
      exact Shift.to ⟨1, by omega, .inr (.inr (.inl ⟨rfl, rfl⟩))⟩ ⟨rfl, rfl, rfl, ⟨rfl, rfl, rfl, rfl, trivial⟩, Own.subi [0] (by decide) rfl rfl⟩
    · repeat' (first | (refine O_ef rfl (Ef_storeR1 WideF.wide (i := 1) (dd := 0) (cs := [.int .u8 0]) (cs' := [.int .u8 (128 + p / 64 / 64 % 64)]) rfl rfl rfl rfl rfl rfl rfl rfl ?_)) | (refine O_ev WideF.wide rfl (Ev_conv (k2 := .u8) rfl (wu8 (by omega))) rfl rfl ?_) | refine O_nil ?_ | refine A_seq ?_ | refine A_region ?_ | refine A_skip ?_ | refine A_block ?_ | (show opsA _ _ _ _ _ _ _; first | refine O_ev WideF.wide rfl (Ev_pure rfl) rfl rfl ?_ | (show opsA _ _ _ _ (⟨_, .indexAddr _ _ _, _, _, _, _⟩ :: _) _ _; refine O_ev WideF.wide rfl (Ev_indexAddr rfl rfl (by omega) (by omega)) rfl rfl ?_) | (show opsA _ _ _ _ (⟨_, .binOp _ _ _ _ _, _, _, _, _⟩ :: _) _ _; first | refine O_ev WideF.wide rfl (Ev_add rfl rfl (wi64 (by omega))) rfl rfl ?_ | refine O_ev WideF.wide rfl (Ev_sub rfl rfl (wi64 (by omega))) rfl rfl ?_ | refine O_ev WideF.wide rfl (Ev_quop rfl rfl (by omega) (by omega)) rfl rfl ?_ | refine O_ev WideF.wide rfl (Ev_remp rfl rfl (by omega) (by omega)) rfl rfl ?_)) | (show wpA _ _ _ (.cond _ _ _) _ _ _ _; (refine A_if rfl (fun h => ?_) (fun h => ?_) <;> try (exfalso; omega))))
      exact Shift.to ⟨0, by omega, .inr (.inr (.inr (⟨rfl, rfl⟩)))⟩ ⟨rfl, rfl, rfl, ⟨rfl, rfl, rfl, rfl, trivial⟩, Own.subi [0] (by decide) rfl rfl⟩
    · repeat' (first | (refine O_ef rfl (Ef_buildn WideF.wide (k := 1) (xs := [_, _, _, _, _]) (vs := [_, _, _, _, _]) rfl ⟨rfl, rfl, rfl, rfl, rfl, trivial⟩ rfl rfl rfl rfl rfl rfl ?_); intro b2) | (refine O_ev WideF.wide rfl (Ev_loadR1 (q := 0) (i := 4) (d := 0) rfl rfl rfl (by omega) rfl) rfl rfl ?_) | (refine O_f1 (O_ef rfl (Ef_storeR1 WideF.wide (i := 0) (dd := 0) (cs := [.int .u8 0]) (cs' := [.int .u8 (240 + p / 64 / 64 / 64)]) rfl rfl rfl rfl rfl rfl rfl rfl ?_))) | (refine O_ev WideF.wide rfl (Ev_conv (k2 := .u8) rfl (wu8 (by omega))) rfl rfl ?_) | (refine O_ev WideF.wide rfl (Ev_convR (i := 0) (l := [oN (240 + p / 64 / 64 / 64), oN (128 + p / 64 / 64 % 64), oN (128 + p / 64 % 64), oN (128 + p % 64)]) rfl rfl ?_) rfl rfl ?_) | refine O_nil ?_ | refine A_seq ?_ | refine A_region ?_ | refine A_ret ?_ | (show opsA _ _ _ _ _ _ _; first | refine O_ev WideF.wide rfl (Ev_pure rfl) rfl rfl ?_ | (show opsA _ _ _ _ (⟨_, .indexAddr _ _ _, _, _, _, _⟩ :: _) _ _; refine O_ev WideF.wide rfl (Ev_indexAddr rfl rfl (by omega) (by omega)) rfl rfl ?_) | (show opsA _ _ _ _ (⟨_, .binOp _ _ _ _ _, _, _, _, _⟩ :: _) _ _; refine O_ev WideF.wide rfl (Ev_add rfl rfl (wi64 (by omega))) rfl rfl ?_)) | (show wpA _ _ _ (.exit _) _ _ _ _; refine A_exit rfl ?_) | (show wpA _ _ _ (.cond _ _ _) _ _ _ _; (refine A_if rfl (fun h => ?_) (fun h => ?_) <;> try (exfalso; omega))))
      · simp only [List.map_cons, List.map_nil, List.set_cons_zero]
        rw [oN_eq (by omega), oN_eq (by omega), oN_eq (by omega), oN_eq (by omega)]
      · exact End_e (Ret1 rfl rfl) ⟨rfl, rfl⟩
/-! ### decoding, plain -/
theorem enc_one {l : List UInt8} (h : bat l 0 < 128) : enc l 0 = 1 := by unfold enc; rw [if_pos h]
theorem enc_def (l : List UInt8) : enc l 0 = if bat l 0 < 0x80 then 1 else if tailSize (bat l 0) = 0 then 0 else
    if 0 + tailSize (bat l 0) ≤ l.length ∧ (tailLow (bat l 0) ≤ bat l 1 ∧ bat l 1 ≤ tailHigh (bat l 0)) ∧ (3 ≤ tailSize (bat l 0) → 0x80 ≤ bat l 2 ∧ bat l 2 ≤ 0xBF) ∧ (4 ≤ tailSize (bat l 0) → 0x80 ≤ bat l 3 ∧ bat l 3 ≤ 0xBF) then tailSize (bat l 0) else 0 := rfl
/-- how many bytes the first one promises, of the reference -/
def Lead (b n base : Int) : Prop := (n = 2 ∧ base = 192 ∧ 192 ≤ b ∧ b < 224) ∨ (n = 3 ∧ base = 224 ∧ 224 ≤ b ∧ b < 240) ∨ (n = 4 ∧ base = 240 ∧ 240 ≤ b ∧ b < 248)
theorem Lead.size {b n base : Int} (h : Lead b n base) : tailSize b = 0 ∨ tailSize b = n := by
  unfold Lead at h
  unfold tailSize
  (repeat' split) <;> omega
theorem enc_lead0 {b : Int} (h : (128 ≤ b ∧ b < 192) ∨ 248 ≤ b) : tailSize b = 0 := by
  unfold tailSize
  (repeat' split) <;> omega
theorem enc_few {l : List UInt8} {n base : Int} (h : Lead (bat l 0) n base) (hl : (l.length : Int) < n) : enc l 0 = 0 := by
  rw [enc_def]
  have h1 : ¬ bat l 0 < 128 := by unfold Lead at h; omega
  rw [if_neg h1]
  rcases h.size with h2 | h2
  · rw [if_pos h2]
  · split
    · rfl
    · rw [if_neg (by rintro ⟨h3, _⟩; omega)]
def isT (c : Int) : Prop := 128 ≤ c ∧ c ≤ 191
theorem tailLH (b : Int) : 128 ≤ tailLow b ∧ tailHigh b ≤ 191 := by
  unfold tailLow tailHigh
  (repeat' split) <;> omega
theorem enc_tail {l : List UInt8} {n base : Int} (h : Lead (bat l 0) n base) {k : Nat} (hk : 1 ≤ k ∧ (k : Int) < n) (hT : ¬ isT (bat l k)) : enc l 0 = 0 := by
  rw [enc_def]
  have h1 : ¬ bat l 0 < 128 := by unfold Lead at h; omega
  have hn : n ≤ 4 := by unfold Lead at h; omega
  rw [if_neg h1]
  rcases h.size with h2 | h2
  · rw [if_pos h2]
  · split
    · rfl
    · refine if_neg ?_
      rintro ⟨_, h3, h4, h5⟩
      have hLH := tailLH (bat l 0)
      have hk3 : k = 1 ∨ k = 2 ∨ k = 3 := by omega
      rcases hk3 with rfl | rfl | rfl
      · exact hT ⟨by show 128 ≤ bat l 1; omega, by show bat l 1 ≤ 191; omega⟩
      · exact hT (h4 (by omega))
      · exact hT (h5 (by omega))
/-- the code point that was read -/
def accP (l : List UInt8) (base : Int) : Nat → Int
  | 0 => bat l 0 - base
  | k + 1 => accP l base k * 64 + bat l (k + 1 : Nat) - 128
theorem accP_b (l : List UInt8) {n base : Int} (h : Lead (bat l 0) n base) : ∀ k : Nat, (k : Int) < n → (∀ j : Nat, 1 ≤ j → j ≤ k → isT (bat l j)) → 0 ≤ accP l base k ∧ accP l base k < 32 * 64 ^ k
  | 0, _, _ => by
    show 0 ≤ bat l 0 - base ∧ bat l 0 - base < 32 * 64 ^ 0
    unfold Lead at h; omega
  | k + 1, hk, hT => by
    have ih := accP_b l h k (by omega) fun j h1 h2 => hT j h1 (by omega)
    have ht := hT (k + 1) (by omega) (by omega)
    unfold isT at ht
    show 0 ≤ accP l base k * 64 + bat l (k + 1 : Nat) - 128 ∧ accP l base k * 64 + bat l (k + 1 : Nat) - 128 < 32 * 64 ^ (k + 1)
    rw [Int.pow_succ]
    omega
theorem take_bytes {l : List UInt8} {n : Nat} (hn : n ≤ l.length) (m : List UInt8) (hm : m.length = n) (h : ∀ j : Nat, j < n → ((m.getD j 0).toNat : Int) = bat l j) : m = l.take n := by
  apply List.ext_getElem
  · rw [List.length_take]; omega
  · intro j hj hj2
    have := h j (by omega)
    have hjl : j < l.length := by omega
    simp only [List.getD, List.getElem?_eq_getElem hj, Option.getD_some, bat, Int.toNat_natCast, List.getElem?_eq_getElem hjl] at this
    rw [List.getElem_take]
    exact UInt8.toNat_inj.1 (by omega)
theorem enc_full {l : List UInt8} {n base : Int} (h : Lead (bat l 0) n base) (hl : n ≤ l.length) (hT : ∀ j : Nat, 1 ≤ j → (j : Int) < n → isT (bat l j)) :
    enc l 0 = if isPt (accP l base (n.toNat - 1)) ∧ encP (accP l base (n.toNat - 1)) = l.take n.toNat then n else 0 := by
  rw [enc_def]
  have h1 : ¬ bat l 0 < 128 := by unfold Lead at h; omega
  rw [if_neg h1]
  have hb := bat_hi l 0
  rcases h with ⟨rfl, rfl, h2, h3⟩ | ⟨rfl, rfl, h2, h3⟩ | ⟨rfl, rfl, h2, h3⟩
  · have t1 := hT 1 (by omega) (by omega)
    have e : accP l 192 ((2 : Int).toNat - 1) = (bat l 0 - 192) * 64 + bat l 1 - 128 := rfl
    rw [e]
    unfold isT at t1
    have t1 : 128 ≤ bat l 1 ∧ bat l 1 ≤ 191 := t1
    generalize hp : (bat l 0 - 192) * 64 + bat l 1 - 128 = p
    by_cases hz : tailSize (bat l 0) = 0
    · have hlow : bat l 0 < 194 := by unfold tailSize at hz; (repeat' split at hz) <;> omega
      rw [if_pos hz, if_neg]
      rintro ⟨_, h4⟩
      have h5 : encP p = [oN p] := by unfold encP; rw [if_pos (by omega)]
      rw [h5] at h4
      have := congrArg List.length h4
      rw [List.length_take] at this
      simp at this
      omega
    · have hlow : 194 ≤ bat l 0 := by unfold tailSize at hz; (repeat' split at hz) <;> omega
      have hs : tailSize (bat l 0) = 2 := by unfold tailSize; (repeat' split) <;> omega
      have hL : tailLow (bat l 0) = 128 ∧ tailHigh (bat l 0) = 191 := by unfold tailLow tailHigh; constructor <;> (repeat' split) <;> omega
      rw [if_neg hz, hs, hL.1, hL.2, if_pos ⟨by omega, t1, fun h => by omega, fun h => by omega⟩, if_pos]
      refine ⟨by unfold isPt; omega, ?_⟩
      refine take_bytes (by omega) _ (by unfold encP; rw [if_neg (by omega), if_pos (by omega)]; rfl) fun j hj => ?_
      unfold encP
      rw [if_neg (by omega), if_pos (by omega)]
      have hj2 : j = 0 ∨ j = 1 := by have : (2 : Int).toNat = 2 := rfl; omega
      rcases hj2 with rfl | rfl
      · show ((oN (192 + p / 64)).toNat : Int) = bat l 0
        rw [oN_eq (by omega)]; omega
      · show ((oN (128 + p % 64)).toNat : Int) = bat l 1
        rw [oN_eq (by omega)]; omega
  · have t1 := hT 1 (by omega) (by omega)
    have t2 := hT 2 (by omega) (by omega)
    have e : accP l 224 ((3 : Int).toNat - 1) = ((bat l 0 - 224) * 64 + bat l 1 - 128) * 64 + bat l 2 - 128 := rfl
    rw [e]
    unfold isT at t1 t2
    have t1 : 128 ≤ bat l 1 ∧ bat l 1 ≤ 191 := t1
    have t2 : 128 ≤ bat l 2 ∧ bat l 2 ≤ 191 := t2
    have hs : tailSize (bat l 0) = 3 := by unfold tailSize; (repeat' split) <;> omega
    rw [if_neg (by omega), hs]
    generalize hp : ((bat l 0 - 224) * 64 + bat l 1 - 128) * 64 + bat l 2 - 128 = p
    by_cases hok : tailLow (bat l 0) ≤ bat l 1 ∧ bat l 1 ≤ tailHigh (bat l 0)
    · rw [if_pos ⟨by omega, hok, fun _ => t2, fun h => by omega⟩, if_pos]
      have h4 : 2048 ≤ p ∧ (p < 55296 ∨ 57343 < p) := by unfold tailLow tailHigh at hok; (repeat' split at hok) <;> omega
      refine ⟨by unfold isPt; omega, ?_⟩
      refine take_bytes (by omega) _ (by unfold encP; rw [if_neg (by omega), if_neg (by omega), if_pos (by omega)]; rfl) fun j hj => ?_
      unfold encP
      rw [if_neg (by omega), if_neg (by omega), if_pos (by omega)]
      have hj2 : j = 0 ∨ j = 1 ∨ j = 2 := by have : (3 : Int).toNat = 3 := rfl; omega
      rcases hj2 with rfl | rfl | rfl
      · show ((oN (224 + p / 64 / 64)).toNat : Int) = bat l 0
        rw [oN_eq (by omega)]; omega
      · show ((oN (128 + p / 64 % 64)).toNat : Int) = bat l 1
        rw [oN_eq (by omega)]; omega
      · show ((oN (128 + p % 64)).toNat : Int) = bat l 2
        rw [oN_eq (by omega)]; omega
    · rw [if_neg (by rintro ⟨_, h4, _⟩; exact hok h4), if_neg]
      rintro ⟨h4, h5⟩
      unfold isPt at h4
      have h6 : p < 2048 := by unfold tailLow tailHigh at hok; (repeat' split at hok) <;> omega
      have := congrArg List.length h5
      unfold encP at this
      rw [List.length_take] at this
      (repeat' split at this) <;> simp at this <;> omega
  · have t1 := hT 1 (by omega) (by omega)
    have t2 := hT 2 (by omega) (by omega)
    have t3 := hT 3 (by omega) (by omega)
    have e : accP l 240 ((4 : Int).toNat - 1) = (((bat l 0 - 240) * 64 + bat l 1 - 128) * 64 + bat l 2 - 128) * 64 + bat l 3 - 128 := rfl
    rw [e]
    unfold isT at t1 t2 t3
    have t1 : 128 ≤ bat l 1 ∧ bat l 1 ≤ 191 := t1
    have t2 : 128 ≤ bat l 2 ∧ bat l 2 ≤ 191 := t2
    have t3 : 128 ≤ bat l 3 ∧ bat l 3 ≤ 191 := t3
    generalize hp : (((bat l 0 - 240) * 64 + bat l 1 - 128) * 64 + bat l 2 - 128) * 64 + bat l 3 - 128 = p
    by_cases hz : tailSize (bat l 0) = 0
    · have hlow : 245 ≤ bat l 0 := by unfold tailSize at hz; (repeat' split at hz) <;> omega
      rw [if_pos hz, if_neg]
      rintro ⟨h4, _⟩
      unfold isPt at h4
      omega
    · have hlow : bat l 0 < 245 := by unfold tailSize at hz; (repeat' split at hz) <;> omega
      have hs : tailSize (bat l 0) = 4 := by unfold tailSize; (repeat' split) <;> omega
      rw [if_neg hz, hs]
      by_cases hok : tailLow (bat l 0) ≤ bat l 1 ∧ bat l 1 ≤ tailHigh (bat l 0)
      · rw [if_pos ⟨by omega, hok, fun _ => t2, fun h => t3⟩, if_pos]
        have h4 : 65536 ≤ p ∧ p ≤ 1114111 := by unfold tailLow tailHigh at hok; (repeat' split at hok) <;> omega
        refine ⟨by unfold isPt; omega, ?_⟩
        refine take_bytes (by omega) _ (by unfold encP; rw [if_neg (by omega), if_neg (by omega), if_neg (by omega)]; rfl) fun j hj => ?_
        unfold encP
        rw [if_neg (by omega), if_neg (by omega), if_neg (by omega)]
        have hj2 : j = 0 ∨ j = 1 ∨ j = 2 ∨ j = 3 := by have : (4 : Int).toNat = 4 := rfl; omega
        rcases hj2 with rfl | rfl | rfl | rfl
        · show ((oN (240 + p / 64 / 64 / 64)).toNat : Int) = bat l 0
          rw [oN_eq (by omega)]; omega
        · show ((oN (128 + p / 64 / 64 % 64)).toNat : Int) = bat l 1
          rw [oN_eq (by omega)]; omega
        · show ((oN (128 + p / 64 % 64)).toNat : Int) = bat l 2
          rw [oN_eq (by omega)]; omega
        · show ((oN (128 + p % 64)).toNat : Int) = bat l 3
          rw [oN_eq (by omega)]; omega
      · rw [if_neg (by rintro ⟨_, h4, _⟩; exact hok h4), if_neg]
        rintro ⟨h4, h5⟩
        unfold isPt at h4
        have h6 : p < 65536 := by unfold tailLow tailHigh at hok; (repeat' split at hok) <;> omega
        have := congrArg List.length h5
        unfold encP at this
        rw [List.length_take] at this
        (repeat' split at this) <;> simp at this <;> omega

theorem enc_no_lead {l : List UInt8} (h : (128 ≤ bat l 0 ∧ bat l 0 < 192) ∨ 248 ≤ bat l 0) : enc l 0 = 0 := by
  rw [enc_def, if_neg (by omega), if_pos (enc_lead0 h)]
set_option maxRecDepth 100000 in
set_option maxHeartbeats 2000000 in
theorem Decode_fn {H : Hp} {l : List UInt8} (hl : l.length < 1099511627776) (h0 : 0 < l.length) : Fn Tryz.prog 61 [sv l] H [] fun v _ I => (∃ p : Int, v = .tuple [.int .i64 p, .int .i64 (enc l 0)].toArray) ∧ I = [] := by
  have hlo := bat_lo l 0
  have hhi := bat_hi l 0
  have hcase : bat l 0 < 128 ∨ ((128 ≤ bat l 0 ∧ bat l 0 < 192) ∨ 248 ≤ bat l 0) ∨ (192 ≤ bat l 0 ∧ bat l 0 < 224) ∨ (224 ≤ bat l 0 ∧ bat l 0 < 240) ∨ (240 ≤ bat l 0 ∧ bat l 0 < 248) := by omega
  rcases hcase with hb | hb | hb | hb | hb
  · rw [enc_one hb]
    refine Fn_of _ _ Tryz.func61 rfl Tryz.ntmps61 rfl fun c => ?_
    repeat' (first | refine O_nil ?_ | refine A_seq ?_ | refine A_region ?_ | refine A_skip ?_ | refine A_ret ?_ | refine A_block ?_ | (show opsA _ _ _ _ _ _ _; first | refine O_ev WideF.wide rfl (Ev_pure rfl) rfl rfl ?_ | (show opsA _ _ _ _ (⟨_, .call _, _, _, _, _⟩ :: _) _ _; refine O_ev WideF.wide rfl (Ev_slen rfl) rfl rfl ?_) | (show opsA _ _ _ _ (⟨_, .index _ _ _, _, _, _, _⟩ :: _) _ _; refine O_ev WideF.wide rfl (Ev_sindex rfl rfl (by omega) (by omega)) rfl rfl ?_) | (show opsA _ _ _ _ (⟨_, .convert _ _ _, _, _, _, _⟩ :: _) _ _; refine O_ev WideF.wide rfl (Ev_conv (k2 := .i64) rfl (wi64 (bat_i64 _ _))) rfl rfl ?_)) | (show wpA _ _ _ (.cond _ _ _) _ _ _ _; (refine A_if rfl (fun h => ?_) (fun h => ?_) <;> try (exfalso; omega))))
    all_goals first
      | (exfalso; omega)
      | exact End_e (Ret2 rfl rfl rfl) ⟨⟨_, rfl⟩, rfl⟩
  · rw [enc_no_lead hb]
    refine Fn_of _ _ Tryz.func61 rfl Tryz.ntmps61 rfl fun c => ?_
    repeat' (first | refine O_nil ?_ | refine A_seq ?_ | refine A_region ?_ | refine A_skip ?_ | refine A_ret ?_ | refine A_block ?_ | (show opsA _ _ _ _ _ _ _; first | (refine O_split rfl rfl (fun h => ?_) (fun h => ?_) <;> try (exfalso; omega)) | refine O_ev WideF.wide rfl (Ev_pure rfl) rfl rfl ?_ | (show opsA _ _ _ _ (⟨_, .call _, _, _, _, _⟩ :: _) _ _; refine O_ev WideF.wide rfl (Ev_slen rfl) rfl rfl ?_) | (show opsA _ _ _ _ (⟨_, .index _ _ _, _, _, _, _⟩ :: _) _ _; refine O_ev WideF.wide rfl (Ev_sindex rfl rfl (by omega) (by omega)) rfl rfl ?_) | (show opsA _ _ _ _ (⟨_, .convert _ _ _, _, _, _, _⟩ :: _) _ _; refine O_ev WideF.wide rfl (Ev_conv (k2 := .i64) rfl (wi64 (bat_i64 _ _))) rfl rfl ?_) | refine O_skip WideF.wide rfl rfl rfl ?_) | (show wpA _ _ _ (.cond _ _ _) _ _ _ _; first | (refine A_if rfl (fun h => ?_) (fun h => ?_) <;> try (exfalso; omega)) | refine A_iffalse rfl ?_))
    all_goals first
      | (exfalso; omega)
      | exact End_e (Ret2 rfl rfl rfl) ⟨⟨_, rfl⟩, rfl⟩
  · have hL : Lead (bat l 0) 2 192 := .inl ⟨rfl, rfl, hb.1, hb.2⟩
    by_cases hf : (l.length : Int) < 2
    · rw [enc_few hL hf]
      refine Fn_of _ _ Tryz.func61 rfl Tryz.ntmps61 rfl fun c => ?_
      repeat' (first | refine O_nil ?_ | refine A_seq ?_ | refine A_region ?_ | refine A_skip ?_ | refine A_ret ?_ | refine A_block ?_ | (show opsA _ _ _ _ _ _ _; first | (refine O_split rfl rfl (fun h => ?_) (fun h => ?_) <;> try (exfalso; omega)) | refine O_ev WideF.wide rfl (Ev_pure rfl) rfl rfl ?_ | (show opsA _ _ _ _ (⟨_, .call _, _, _, _, _⟩ :: _) _ _; refine O_ev WideF.wide rfl (Ev_slen rfl) rfl rfl ?_) | (show opsA _ _ _ _ (⟨_, .binOp _ _ _ _ _, _, _, _, _⟩ :: _) _ _; refine O_ev WideF.wide rfl (Ev_sub rfl rfl (wi64 (by omega))) rfl rfl ?_) | (show opsA _ _ _ _ (⟨_, .index _ _ _, _, _, _, _⟩ :: _) _ _; refine O_ev WideF.wide rfl (Ev_sindex rfl rfl (by omega) (by omega)) rfl rfl ?_) | (show opsA _ _ _ _ (⟨_, .convert _ _ _, _, _, _, _⟩ :: _) _ _; refine O_ev WideF.wide rfl (Ev_conv (k2 := .i64) rfl (wi64 (bat_i64 _ _))) rfl rfl ?_)) | (show wpA _ _ _ (.cond _ _ _) _ _ _ _; (refine A_if rfl (fun h => ?_) (fun h => ?_) <;> try (exfalso; omega))))
      all_goals first
        | (exfalso; omega)
        | exact End_e (Ret2 rfl rfl rfl) ⟨⟨_, rfl⟩, rfl⟩
    · refine Fn_of _ _ Tryz.func61 rfl Tryz.ntmps61 rfl fun c => ?_
      repeat' (first | refine O_nil ?_ | refine A_seq ?_ | refine A_region ?_ | refine A_skip ?_ | refine A_block ?_ | (show opsA _ _ _ _ _ _ _; first | (refine O_split rfl rfl (fun h => ?_) (fun h => ?_) <;> try (exfalso; omega)) | refine O_ev WideF.wide rfl (Ev_pure rfl) rfl rfl ?_ | (show opsA _ _ _ _ (⟨_, .call _, _, _, _, _⟩ :: _) _ _; refine O_ev WideF.wide rfl (Ev_slen rfl) rfl rfl ?_) | (show opsA _ _ _ _ (⟨_, .binOp _ _ _ _ _, _, _, _, _⟩ :: _) _ _; refine O_ev WideF.wide rfl (Ev_sub rfl rfl (wi64 (by omega))) rfl rfl ?_) | (show opsA _ _ _ _ (⟨_, .index _ _ _, _, _, _, _⟩ :: _) _ _; refine O_ev WideF.wide rfl (Ev_sindex rfl rfl (by omega) (by omega)) rfl rfl ?_) | (show opsA _ _ _ _ (⟨_, .convert _ _ _, _, _, _, _⟩ :: _) _ _; refine O_ev WideF.wide rfl (Ev_conv (k2 := .i64) rfl (wi64 (bat_i64 _ _))) rfl rfl ?_)) | (show wpA _ _ _ (.cond _ _ _) _ _ _ _; (refine A_if rfl (fun h => ?_) (fun h => ?_) <;> try (exfalso; omega))))
      all_goals try (exfalso; omega)
      refine A_loopu (fun m st => ∃ k : Nat, m = 2 - k ∧ 1 ≤ k ∧ k ≤ 2 ∧ (∀ j : Nat, 1 ≤ j → j < k → isT (bat l j)) ∧ st = ⟨83, [(0, sv l), (4, .int .i64 2), (5, .int .i64 (accP l 192 (k - 1))), (7, .int .i64 k)], H, [], [], []⟩) ?_ ?_
      · exact Shift.to ⟨_, 1, rfl, by omega, by omega, fun j h1 h2 => by omega, rfl⟩ ⟨rfl, rfl, rfl, ⟨rfl, rfl, rfl, rfl, trivial⟩, Own.sub_nil _⟩
      · rintro m st ⟨k, rfl, hk1, hk2, hT, rfl⟩
        obtain ⟨q, rfl⟩ : ∃ q, k = q + 1 := ⟨k - 1, by omega⟩
        rw [show q + 1 - 1 = q from rfl]
        have hacc := accP_b l hL q (by omega) fun j h1 h2 => hT j h1 (by omega)
        have hacc : 0 ≤ accP l 192 q ∧ accP l 192 q < 8388608 := by
          refine ⟨hacc.1, Int.lt_of_lt_of_le hacc.2 ?_⟩
          have hk : q = 0 ∨ q = 1 ∨ q = 2 ∨ q = 3 := by omega
          rcases hk with rfl | rfl | rfl | rfl <;> decide
        by_cases hlt : q + 1 < 2
        · have hclo := bat_lo l (q + 1 : Nat)
          have hchi := bat_hi l (q + 1 : Nat)
          by_cases hc : isT (bat l (q + 1 : Nat))
          · have hc' := hc
            unfold isT at hc'
            repeat' (first | refine O_nil ?_ | refine A_seq ?_ | refine A_region ?_ | refine A_skip ?_ | refine A_block ?_ | (show opsA _ _ _ _ _ _ _; first | (refine O_split rfl rfl (fun h => ?_) (fun h => ?_) <;> try (exfalso; omega)) | refine O_ev WideF.wide rfl (Ev_pure rfl) rfl rfl ?_ | (show opsA _ _ _ _ (⟨_, .binOp _ _ _ _ _, _, _, _, _⟩ :: _) _ _; first | refine O_ev WideF.wide rfl (Ev_add rfl rfl (wi64 (by omega))) rfl rfl ?_ | refine O_ev WideF.wide rfl (Ev_sub rfl rfl (wi64 (by omega))) rfl rfl ?_ | refine O_ev WideF.wide rfl (Ev_mul rfl rfl (wi64 (by omega))) rfl rfl ?_) | (show opsA _ _ _ _ (⟨_, .index _ _ _, _, _, _, _⟩ :: _) _ _; refine O_ev WideF.wide rfl (Ev_sindex rfl rfl (by omega) (by omega)) rfl rfl ?_) | (show opsA _ _ _ _ (⟨_, .convert _ _ _, _, _, _, _⟩ :: _) _ _; refine O_ev WideF.wide rfl (Ev_conv (k2 := .i64) rfl (wi64 (bat_i64 _ _))) rfl rfl ?_)) | (show wpA _ _ _ (.cond _ _ _) _ _ _ _; (refine A_if rfl (fun h => ?_) (fun h => ?_) <;> try (exfalso; omega))))
            all_goals try (exfalso; omega)
            refine Shift.to ⟨_, ?_, q + 1 + 1, rfl, by omega, by omega, fun j h1 h2 => ?_, rfl⟩ ⟨rfl, rfl, rfl, ⟨rfl, rfl, rfl, rfl, trivial⟩, Own.sub_nil _⟩
            · omega
            · by_cases hj : j = q + 1
              · subst hj; exact hc
              · exact hT j h1 (by omega)
          · have he := enc_tail hL ⟨hk1, by omega⟩ hc
            unfold isT at hc
            rw [he]
            repeat' (first | refine O_nil ?_ | refine A_seq ?_ | refine A_region ?_ | refine A_skip ?_ | refine A_ret ?_ | refine A_block ?_ | (show opsA _ _ _ _ _ _ _; first | (refine O_split rfl rfl (fun h => ?_) (fun h => ?_) <;> try (exfalso; omega)) | refine O_ev WideF.wide rfl (Ev_pure rfl) rfl rfl ?_ | (show opsA _ _ _ _ (⟨_, .index _ _ _, _, _, _, _⟩ :: _) _ _; refine O_ev WideF.wide rfl (Ev_sindex rfl rfl (by omega) (by omega)) rfl rfl ?_) | (show opsA _ _ _ _ (⟨_, .convert _ _ _, _, _, _, _⟩ :: _) _ _; refine O_ev WideF.wide rfl (Ev_conv (k2 := .i64) rfl (wi64 (bat_i64 _ _))) rfl rfl ?_) | refine O_skip WideF.wide rfl rfl rfl ?_) | (show wpA _ _ _ (.cond _ _ _) _ _ _ _; first | (refine A_if rfl (fun h => ?_) (fun h => ?_) <;> try (exfalso; omega)) | refine A_iftrue rfl ?_))
            all_goals first
              | (exfalso; omega)
              | exact End_e (Ret2 rfl rfl rfl) ⟨⟨_, rfl⟩, rfl⟩
        · have hkn : q = 2 - 1 := by omega
          subst hkn
          have hfull := enc_full hL (by omega) fun j h1 h2 => hT j h1 (by omega)
          have hp : 0 ≤ accP l 192 (2 - 1) ∧ accP l 192 (2 - 1) < 2097152 := by
            refine ⟨hacc.1, ?_⟩
            have t1 : isT (bat l 1) := hT 1 (by omega) (by omega)
            unfold isT at t1
            show (bat l 0 - 192) * 64 + bat l 1 - 128 < 2097152
            omega
          have hn1 : ((2 : Int).toNat - 1) = 2 - 1 := rfl
          rw [hn1] at hfull
          generalize accP l 192 (2 - 1) = p at *
          have hip := fun Hx => IsPoint_fn (H := Hx) (p := p)
          have hen := fun Hx => Encode_fn (H := Hx) hp
          have htk : (2 : Int).toNat = 2 := rfl
          by_cases hpt : isPt p
          · simp only [decide_eq_true hpt] at hip
            by_cases heq : encP p = l.take 2
            · rw [hfull, if_pos ⟨hpt, heq⟩]
              repeat' (first | (refine A_drawi WideF.wide (.q 0 (.e 1 (.q 2 (.q 3 (.q 4 (.q 6 (.q 7 (.q 8 (.e 5 (.q 9 (.q 10 (.done [])))))))))))) [] [] [] (by decide +kernel) (by decide) rfl ?_; simp only [Own.picks, Own.rget, List.cons_append, List.nil_append, List.append_nil]) | (refine E_ef rfl (Ef_callp WideF.wide (hip _) ⟨rfl, trivial⟩ rfl ?_); refine ⟨Grow.same rfl rfl, ?_⟩) | (refine E_ef rfl (Ef_call (I := []) WideF.wide (hen _) ⟨rfl, trivial⟩ rfl ?_); rintro v H1 I1 hle1 ⟨rfl, rfl⟩; refine ⟨⟨hle1, rfl⟩, ?_⟩) | refine O_nil ?_ | refine A_seq ?_ | refine A_region ?_ | refine A_skip ?_ | refine A_ret ?_ | (show drJ _ _ _ _ _ _ _ (.q _ _) _; refine D_q rfl ?_) | (show drJ _ _ _ _ _ _ _ (.e _ _) _; refine D_e rfl ?_) | (show drJ _ _ _ _ _ _ _ (.done _) _; refine D_done ?_; simp only [List.cons_append, List.nil_append]) | (show drQ _ _ _ _ _ _; first | refine D_ev rfl (Ev_pure rfl) rfl rfl ?_ | (show drQ _ _ _ ⟨_, .binOp _ _ _ _ _, _, _, _, _⟩ _ _; refine D_ev rfl (Ev_sneq rfl rfl) rfl rfl ?_) | (show drQ _ _ _ ⟨_, .slice _ _ _ _ _, _, _, _, _⟩ _ _; refine D_ev rfl (Ev_ssliceh rfl rfl (by omega) (by omega)) rfl rfl ?_) | (show drQ _ _ _ ⟨_, .unOp _ _ _, _, _, _, _⟩ _ _; refine D_ev rfl (Ev_notb rfl) rfl rfl ?_)) | (show opsA _ _ _ _ _ _ _; refine O_ev WideF.wide rfl (Ev_pure rfl) rfl rfl ?_) | (show wpA _ _ _ (.exit _) _ _ _ _; refine A_exit rfl ?_) | (show wpA _ _ _ (.cond _ _ _) _ _ _ _; (refine A_if rfl (fun h => ?_) (fun h => ?_) <;> try (exfalso; omega))))
              all_goals first
                | (exfalso; omega)
                | (exfalso; exact absurd heq (by assumption))
                | exact End_e (Ret2 rfl rfl rfl) ⟨⟨_, rfl⟩, rfl⟩
            · rw [hfull, if_neg (fun h => heq h.2)]
              repeat' (first | (refine A_drawi WideF.wide (.q 0 (.e 1 (.q 2 (.q 3 (.q 4 (.q 6 (.q 7 (.q 8 (.e 5 (.q 9 (.q 10 (.done [])))))))))))) [] [] [] (by decide +kernel) (by decide) rfl ?_; simp only [Own.picks, Own.rget, List.cons_append, List.nil_append, List.append_nil]) | (refine E_ef rfl (Ef_callp WideF.wide (hip _) ⟨rfl, trivial⟩ rfl ?_); refine ⟨Grow.same rfl rfl, ?_⟩) | (refine E_ef rfl (Ef_call (I := []) WideF.wide (hen _) ⟨rfl, trivial⟩ rfl ?_); rintro v H1 I1 hle1 ⟨rfl, rfl⟩; refine ⟨⟨hle1, rfl⟩, ?_⟩) | refine O_nil ?_ | refine A_seq ?_ | refine A_region ?_ | refine A_skip ?_ | refine A_ret ?_ | (show drJ _ _ _ _ _ _ _ (.q _ _) _; refine D_q rfl ?_) | (show drJ _ _ _ _ _ _ _ (.e _ _) _; refine D_e rfl ?_) | (show drJ _ _ _ _ _ _ _ (.done _) _; refine D_done ?_; simp only [List.cons_append, List.nil_append]) | (show drQ _ _ _ _ _ _; first | refine D_ev rfl (Ev_pure rfl) rfl rfl ?_ | (show drQ _ _ _ ⟨_, .binOp _ _ _ _ _, _, _, _, _⟩ _ _; refine D_ev rfl (Ev_sneq rfl rfl) rfl rfl ?_) | (show drQ _ _ _ ⟨_, .slice _ _ _ _ _, _, _, _, _⟩ _ _; refine D_ev rfl (Ev_ssliceh rfl rfl (by omega) (by omega)) rfl rfl ?_) | (show drQ _ _ _ ⟨_, .unOp _ _ _, _, _, _, _⟩ _ _; refine D_ev rfl (Ev_notb rfl) rfl rfl ?_)) | (show opsA _ _ _ _ _ _ _; refine O_ev WideF.wide rfl (Ev_pure rfl) rfl rfl ?_) | (show wpA _ _ _ (.exit _) _ _ _ _; refine A_exit rfl ?_) | (show wpA _ _ _ (.cond _ _ _) _ _ _ _; (refine A_if rfl (fun h => ?_) (fun h => ?_) <;> try (exfalso; omega))))
              all_goals first
                | (exfalso; omega)
                | (exfalso; exact absurd heq (by assumption))
                | exact End_e (Ret2 rfl rfl rfl) ⟨⟨_, rfl⟩, rfl⟩
          · simp only [decide_eq_false hpt] at hip
            rw [hfull, if_neg (fun h => hpt h.1)]
            repeat' (first | (refine A_drawi WideF.wide (.q 0 (.e 1 (.q 2 (.q 3 (.q 4 (.q 6 (.q 7 (.q 8 (.e 5 (.q 9 (.q 10 (.done [])))))))))))) [] [] [] (by decide +kernel) (by decide) rfl ?_; simp only [Own.picks, Own.rget, List.cons_append, List.nil_append, List.append_nil]) | (refine E_ef rfl (Ef_callp WideF.wide (hip _) ⟨rfl, trivial⟩ rfl ?_); refine ⟨Grow.same rfl rfl, ?_⟩) | refine O_nil ?_ | refine A_seq ?_ | refine A_region ?_ | refine A_ret ?_ | (show drJ _ _ _ _ _ _ _ (.q _ _) _; refine D_q rfl ?_) | (show drJ _ _ _ _ _ _ _ (.e _ _) _; refine D_e rfl ?_) | (show drJ _ _ _ _ _ _ _ (.done _) _; refine D_done ?_; simp only [List.cons_append, List.nil_append]) | (show drQ _ _ _ _ _ _; first | refine D_ev rfl (Ev_pure rfl) rfl rfl ?_ | (show drQ _ _ _ ⟨_, .unOp _ _ _, _, _, _, _⟩ _ _; refine D_ev rfl (Ev_notb rfl) rfl rfl ?_) | refine D_skip rfl rfl rfl ?_) | (show drE _ _ _ _ _ _ _; refine E_skip rfl rfl rfl ?_) | (show opsA _ _ _ _ _ _ _; refine O_ev WideF.wide rfl (Ev_pure rfl) rfl rfl ?_) | (show wpA _ _ _ (.exit _) _ _ _ _; refine A_exit rfl ?_) | (show wpA _ _ _ (.cond _ _ _) _ _ _ _; first | (refine A_if rfl (fun h => ?_) (fun h => ?_) <;> try (exfalso; omega)) | refine A_iftrue rfl ?_))
            all_goals first
              | (exfalso; omega)
              | exact End_e (Ret2 rfl rfl rfl) ⟨⟨_, rfl⟩, rfl⟩
  · have hL : Lead (bat l 0) 3 224 := .inr (.inl ⟨rfl, rfl, hb.1, hb.2⟩)
    by_cases hf : (l.length : Int) < 3
    · rw [enc_few hL hf]
      refine Fn_of _ _ Tryz.func61 rfl Tryz.ntmps61 rfl fun c => ?_
      repeat' (first | refine O_nil ?_ | refine A_seq ?_ | refine A_region ?_ | refine A_skip ?_ | refine A_ret ?_ | refine A_block ?_ | (show opsA _ _ _ _ _ _ _; first | (refine O_split rfl rfl (fun h => ?_) (fun h => ?_) <;> try (exfalso; omega)) | refine O_ev WideF.wide rfl (Ev_pure rfl) rfl rfl ?_ | (show opsA _ _ _ _ (⟨_, .call _, _, _, _, _⟩ :: _) _ _; refine O_ev WideF.wide rfl (Ev_slen rfl) rfl rfl ?_) | (show opsA _ _ _ _ (⟨_, .binOp _ _ _ _ _, _, _, _, _⟩ :: _) _ _; refine O_ev WideF.wide rfl (Ev_sub rfl rfl (wi64 (by omega))) rfl rfl ?_) | (show opsA _ _ _ _ (⟨_, .index _ _ _, _, _, _, _⟩ :: _) _ _; refine O_ev WideF.wide rfl (Ev_sindex rfl rfl (by omega) (by omega)) rfl rfl ?_) | (show opsA _ _ _ _ (⟨_, .convert _ _ _, _, _, _, _⟩ :: _) _ _; refine O_ev WideF.wide rfl (Ev_conv (k2 := .i64) rfl (wi64 (bat_i64 _ _))) rfl rfl ?_)) | (show wpA _ _ _ (.cond _ _ _) _ _ _ _; (refine A_if rfl (fun h => ?_) (fun h => ?_) <;> try (exfalso; omega))))
      all_goals first
        | (exfalso; omega)
        | exact End_e (Ret2 rfl rfl rfl) ⟨⟨_, rfl⟩, rfl⟩
    · refine Fn_of _ _ Tryz.func61 rfl Tryz.ntmps61 rfl fun c => ?_
      repeat' (first | refine O_nil ?_ | refine A_seq ?_ | refine A_region ?_ | refine A_skip ?_ | refine A_block ?_ | (show opsA _ _ _ _ _ _ _; first | (refine O_split rfl rfl (fun h => ?_) (fun h => ?_) <;> try (exfalso; omega)) | refine O_ev WideF.wide rfl (Ev_pure rfl) rfl rfl ?_ | (show opsA _ _ _ _ (⟨_, .call _, _, _, _, _⟩ :: _) _ _; refine O_ev WideF.wide rfl (Ev_slen rfl) rfl rfl ?_) | (show opsA _ _ _ _ (⟨_, .binOp _ _ _ _ _, _, _, _, _⟩ :: _) _ _; refine O_ev WideF.wide rfl (Ev_sub rfl rfl (wi64 (by omega))) rfl rfl ?_) | (show opsA _ _ _ _ (⟨_, .index _ _ _, _, _, _, _⟩ :: _) _ _; refine O_ev WideF.wide rfl (Ev_sindex rfl rfl (by omega) (by omega)) rfl rfl ?_) | (show opsA _ _ _ _ (⟨_, .convert _ _ _, _, _, _, _⟩ :: _) _ _; refine O_ev WideF.wide rfl (Ev_conv (k2 := .i64) rfl (wi64 (bat_i64 _ _))) rfl rfl ?_)) | (show wpA _ _ _ (.cond _ _ _) _ _ _ _; (refine A_if rfl (fun h => ?_) (fun h => ?_) <;> try (exfalso; omega))))
      all_goals try (exfalso; omega)
      refine A_loopu (fun m st => ∃ k : Nat, m = 3 - k ∧ 1 ≤ k ∧ k ≤ 3 ∧ (∀ j : Nat, 1 ≤ j → j < k → isT (bat l j)) ∧ st = ⟨83, [(0, sv l), (4, .int .i64 3), (5, .int .i64 (accP l 224 (k - 1))), (7, .int .i64 k)], H, [], [], []⟩) ?_ ?_
      · exact Shift.to ⟨_, 1, rfl, by omega, by omega, fun j h1 h2 => by omega, rfl⟩ ⟨rfl, rfl, rfl, ⟨rfl, rfl, rfl, rfl, trivial⟩, Own.sub_nil _⟩
      · rintro m st ⟨k, rfl, hk1, hk2, hT, rfl⟩
        obtain ⟨q, rfl⟩ : ∃ q, k = q + 1 := ⟨k - 1, by omega⟩
        rw [show q + 1 - 1 = q from rfl]
        have hacc := accP_b l hL q (by omega) fun j h1 h2 => hT j h1 (by omega)
        have hacc : 0 ≤ accP l 224 q ∧ accP l 224 q < 8388608 := by
          refine ⟨hacc.1, Int.lt_of_lt_of_le hacc.2 ?_⟩
          have hk : q = 0 ∨ q = 1 ∨ q = 2 ∨ q = 3 := by omega
          rcases hk with rfl | rfl | rfl | rfl <;> decide
        by_cases hlt : q + 1 < 3
        · have hclo := bat_lo l (q + 1 : Nat)
          have hchi := bat_hi l (q + 1 : Nat)
          by_cases hc : isT (bat l (q + 1 : Nat))
          · have hc' := hc
            unfold isT at hc'
            repeat' (first | refine O_nil ?_ | refine A_seq ?_ | refine A_region ?_ | refine A_skip ?_ | refine A_block ?_ | (show opsA _ _ _ _ _ _ _; first | (refine O_split rfl rfl (fun h => ?_) (fun h => ?_) <;> try (exfalso; omega)) | refine O_ev WideF.wide rfl (Ev_pure rfl) rfl rfl ?_ | (show opsA _ _ _ _ (⟨_, .binOp _ _ _ _ _, _, _, _, _⟩ :: _) _ _; first | refine O_ev WideF.wide rfl (Ev_add rfl rfl (wi64 (by omega))) rfl rfl ?_ | refine O_ev WideF.wide rfl (Ev_sub rfl rfl (wi64 (by omega))) rfl rfl ?_ | refine O_ev WideF.wide rfl (Ev_mul rfl rfl (wi64 (by omega))) rfl rfl ?_) | (show opsA _ _ _ _ (⟨_, .index _ _ _, _, _, _, _⟩ :: _) _ _; refine O_ev WideF.wide rfl (Ev_sindex rfl rfl (by omega) (by omega)) rfl rfl ?_) | (show opsA _ _ _ _ (⟨_, .convert _ _ _, _, _, _, _⟩ :: _) _ _; refine O_ev WideF.wide rfl (Ev_conv (k2 := .i64) rfl (wi64 (bat_i64 _ _))) rfl rfl ?_)) | (show wpA _ _ _ (.cond _ _ _) _ _ _ _; (refine A_if rfl (fun h => ?_) (fun h => ?_) <;> try (exfalso; omega))))
            all_goals try (exfalso; omega)
            refine Shift.to ⟨_, ?_, q + 1 + 1, rfl, by omega, by omega, fun j h1 h2 => ?_, rfl⟩ ⟨rfl, rfl, rfl, ⟨rfl, rfl, rfl, rfl, trivial⟩, Own.sub_nil _⟩
            · omega
            · by_cases hj : j = q + 1
              · subst hj; exact hc
              · exact hT j h1 (by omega)
          · have he := enc_tail hL ⟨hk1, by omega⟩ hc
            unfold isT at hc
            rw [he]
            repeat' (first | refine O_nil ?_ | refine A_seq ?_ | refine A_region ?_ | refine A_skip ?_ | refine A_ret ?_ | refine A_block ?_ | (show opsA _ _ _ _ _ _ _; first | (refine O_split rfl rfl (fun h => ?_) (fun h => ?_) <;> try (exfalso; omega)) | refine O_ev WideF.wide rfl (Ev_pure rfl) rfl rfl ?_ | (show opsA _ _ _ _ (⟨_, .index _ _ _, _, _, _, _⟩ :: _) _ _; refine O_ev WideF.wide rfl (Ev_sindex rfl rfl (by omega) (by omega)) rfl rfl ?_) | (show opsA _ _ _ _ (⟨_, .convert _ _ _, _, _, _, _⟩ :: _) _ _; refine O_ev WideF.wide rfl (Ev_conv (k2 := .i64) rfl (wi64 (bat_i64 _ _))) rfl rfl ?_) | refine O_skip WideF.wide rfl rfl rfl ?_) | (show wpA _ _ _ (.cond _ _ _) _ _ _ _; first | (refine A_if rfl (fun h => ?_) (fun h => ?_) <;> try (exfalso; omega)) | refine A_iftrue rfl ?_))
            all_goals first
              | (exfalso; omega)
              | exact End_e (Ret2 rfl rfl rfl) ⟨⟨_, rfl⟩, rfl⟩
        · have hkn : q = 3 - 1 := by omega
          subst hkn
          have hfull := enc_full hL (by omega) fun j h1 h2 => hT j h1 (by omega)
          have hp : 0 ≤ accP l 224 (3 - 1) ∧ accP l 224 (3 - 1) < 2097152 := by
            refine ⟨hacc.1, ?_⟩
            have t1 : isT (bat l 1) := hT 1 (by omega) (by omega)
            have t2 : isT (bat l 2) := hT 2 (by omega) (by omega)
            unfold isT at t1 t2
            show ((bat l 0 - 224) * 64 + bat l 1 - 128) * 64 + bat l 2 - 128 < 2097152
            omega
          have hn1 : ((3 : Int).toNat - 1) = 3 - 1 := rfl
          rw [hn1] at hfull
          generalize accP l 224 (3 - 1) = p at *
          have hip := fun Hx => IsPoint_fn (H := Hx) (p := p)
          have hen := fun Hx => Encode_fn (H := Hx) hp
          have htk : (3 : Int).toNat = 3 := rfl
          by_cases hpt : isPt p
          · simp only [decide_eq_true hpt] at hip
            by_cases heq : encP p = l.take 3
            · rw [hfull, if_pos ⟨hpt, heq⟩]
              repeat' (first | (refine A_drawi WideF.wide (.q 0 (.e 1 (.q 2 (.q 3 (.q 4 (.q 6 (.q 7 (.q 8 (.e 5 (.q 9 (.q 10 (.done [])))))))))))) [] [] [] (by decide +kernel) (by decide) rfl ?_; simp only [Own.picks, Own.rget, List.cons_append, List.nil_append, List.append_nil]) | (refine E_ef rfl (Ef_callp WideF.wide (hip _) ⟨rfl, trivial⟩ rfl ?_); refine ⟨Grow.same rfl rfl, ?_⟩) | (refine E_ef rfl (Ef_call (I := []) WideF.wide (hen _) ⟨rfl, trivial⟩ rfl ?_); rintro v H1 I1 hle1 ⟨rfl, rfl⟩; refine ⟨⟨hle1, rfl⟩, ?_⟩) | refine O_nil ?_ | refine A_seq ?_ | refine A_region ?_ | refine A_skip ?_ | refine A_ret ?_ | (show drJ _ _ _ _ _ _ _ (.q _ _) _; refine D_q rfl ?_) | (show drJ _ _ _ _ _ _ _ (.e _ _) _; refine D_e rfl ?_) | (show drJ _ _ _ _ _ _ _ (.done _) _; refine D_done ?_; simp only [List.cons_append, List.nil_append]) | (show drQ _ _ _ _ _ _; first | refine D_ev rfl (Ev_pure rfl) rfl rfl ?_ | (show drQ _ _ _ ⟨_, .binOp _ _ _ _ _, _, _, _, _⟩ _ _; refine D_ev rfl (Ev_sneq rfl rfl) rfl rfl ?_) | (show drQ _ _ _ ⟨_, .slice _ _ _ _ _, _, _, _, _⟩ _ _; refine D_ev rfl (Ev_ssliceh rfl rfl (by omega) (by omega)) rfl rfl ?_) | (show drQ _ _ _ ⟨_, .unOp _ _ _, _, _, _, _⟩ _ _; refine D_ev rfl (Ev_notb rfl) rfl rfl ?_)) | (show opsA _ _ _ _ _ _ _; refine O_ev WideF.wide rfl (Ev_pure rfl) rfl rfl ?_) | (show wpA _ _ _ (.exit _) _ _ _ _; refine A_exit rfl ?_) | (show wpA _ _ _ (.cond _ _ _) _ _ _ _; (refine A_if rfl (fun h => ?_) (fun h => ?_) <;> try (exfalso; omega))))
              all_goals first
                | (exfalso; omega)
                | (exfalso; exact absurd heq (by assumption))
                | exact End_e (Ret2 rfl rfl rfl) ⟨⟨_, rfl⟩, rfl⟩
            · rw [hfull, if_neg (fun h => heq h.2)]
              repeat' (first | (refine A_drawi WideF.wide (.q 0 (.e 1 (.q 2 (.q 3 (.q 4 (.q 6 (.q 7 (.q 8 (.e 5 (.q 9 (.q 10 (.done [])))))))))))) [] [] [] (by decide +kernel) (by decide) rfl ?_; simp only [Own.picks, Own.rget, List.cons_append, List.nil_append, List.append_nil]) | (refine E_ef rfl (Ef_callp WideF.wide (hip _) ⟨rfl, trivial⟩ rfl ?_); refine ⟨Grow.same rfl rfl, ?_⟩) | (refine E_ef rfl (Ef_call (I := []) WideF.wide (hen _) ⟨rfl, trivial⟩ rfl ?_); rintro v H1 I1 hle1 ⟨rfl, rfl⟩; refine ⟨⟨hle1, rfl⟩, ?_⟩) | refine O_nil ?_ | refine A_seq ?_ | refine A_region ?_ | refine A_skip ?_ | refine A_ret ?_ | (show drJ _ _ _ _ _ _ _ (.q _ _) _; refine D_q rfl ?_) | (show drJ _ _ _ _ _ _ _ (.e _ _) _; refine D_e rfl ?_) | (show drJ _ _ _ _ _ _ _ (.done _) _; refine D_done ?_; simp only [List.cons_append, List.nil_append]) | (show drQ _ _ _ _ _ _; first | refine D_ev rfl (Ev_pure rfl) rfl rfl ?_ | (show drQ _ _ _ ⟨_, .binOp _ _ _ _ _, _, _, _, _⟩ _ _; refine D_ev rfl (Ev_sneq rfl rfl) rfl rfl ?_) | (show drQ _ _ _ ⟨_, .slice _ _ _ _ _, _, _, _, _⟩ _ _; refine D_ev rfl (Ev_ssliceh rfl rfl (by omega) (by omega)) rfl rfl ?_) | (show drQ _ _ _ ⟨_, .unOp _ _ _, _, _, _, _⟩ _ _; refine D_ev rfl (Ev_notb rfl) rfl rfl ?_)) | (show opsA _ _ _ _ _ _ _; refine O_ev WideF.wide rfl (Ev_pure rfl) rfl rfl ?_) | (show wpA _ _ _ (.exit _) _ _ _ _; refine A_exit rfl ?_) | (show wpA _ _ _ (.cond _ _ _) _ _ _ _; (refine A_if rfl (fun h => ?_) (fun h => ?_) <;> try (exfalso; omega))))
              all_goals first
                | (exfalso; omega)
                | (exfalso; exact absurd heq (by assumption))
                | exact End_e (Ret2 rfl rfl rfl) ⟨⟨_, rfl⟩, rfl⟩
          · simp only [decide_eq_false hpt] at hip
            rw [hfull, if_neg (fun h => hpt h.1)]
            repeat' (first | (refine A_drawi WideF.wide (.q 0 (.e 1 (.q 2 (.q 3 (.q 4 (.q 6 (.q 7 (.q 8 (.e 5 (.q 9 (.q 10 (.done [])))))))))))) [] [] [] (by decide +kernel) (by decide) rfl ?_; simp only [Own.picks, Own.rget, List.cons_append, List.nil_append, List.append_nil]) | (refine E_ef rfl (Ef_callp WideF.wide (hip _) ⟨rfl, trivial⟩ rfl ?_); refine ⟨Grow.same rfl rfl, ?_⟩) | refine O_nil ?_ | refine A_seq ?_ | refine A_region ?_ | refine A_ret ?_ | (show drJ _ _ _ _ _ _ _ (.q _ _) _; refine D_q rfl ?_) | (show drJ _ _ _ _ _ _ _ (.e _ _) _; refine D_e rfl ?_) | (show drJ _ _ _ _ _ _ _ (.done _) _; refine D_done ?_; simp only [List.cons_append, List.nil_append]) | (show drQ _ _ _ _ _ _; first | refine D_ev rfl (Ev_pure rfl) rfl rfl ?_ | (show drQ _ _ _ ⟨_, .unOp _ _ _, _, _, _, _⟩ _ _; refine D_ev rfl (Ev_notb rfl) rfl rfl ?_) | refine D_skip rfl rfl rfl ?_) | (show drE _ _ _ _ _ _ _; refine E_skip rfl rfl rfl ?_) | (show opsA _ _ _ _ _ _ _; refine O_ev WideF.wide rfl (Ev_pure rfl) rfl rfl ?_) | (show wpA _ _ _ (.exit _) _ _ _ _; refine A_exit rfl ?_) | (show wpA _ _ _ (.cond _ _ _) _ _ _ _; first | (refine A_if rfl (fun h => ?_) (fun h => ?_) <;> try (exfalso; omega)) | refine A_iftrue rfl ?_))
            all_goals first
              | (exfalso; omega)
              | exact End_e (Ret2 rfl rfl rfl) ⟨⟨_, rfl⟩, rfl⟩
  · have hL : Lead (bat l 0) 4 240 := .inr (.inr ⟨rfl, rfl, hb.1, hb.2⟩)
    by_cases hf : (l.length : Int) < 4
    · rw [enc_few hL hf]
      refine Fn_of _ _ Tryz.func61 rfl Tryz.ntmps61 rfl fun c => ?_
      repeat' (first | refine O_nil ?_ | refine A_seq ?_ | refine A_region ?_ | refine A_skip ?_ | refine A_ret ?_ | refine A_block ?_ | (show opsA _ _ _ _ _ _ _; first | (refine O_split rfl rfl (fun h => ?_) (fun h => ?_) <;> try (exfalso; omega)) | refine O_ev WideF.wide rfl (Ev_pure rfl) rfl rfl ?_ | (show opsA _ _ _ _ (⟨_, .call _, _, _, _, _⟩ :: _) _ _; refine O_ev WideF.wide rfl (Ev_slen rfl) rfl rfl ?_) | (show opsA _ _ _ _ (⟨_, .binOp _ _ _ _ _, _, _, _, _⟩ :: _) _ _; refine O_ev WideF.wide rfl (Ev_sub rfl rfl (wi64 (by omega))) rfl rfl ?_) | (show opsA _ _ _ _ (⟨_, .index _ _ _, _, _, _, _⟩ :: _) _ _; refine O_ev WideF.wide rfl (Ev_sindex rfl rfl (by omega) (by omega)) rfl rfl ?_) | (show opsA _ _ _ _ (⟨_, .convert _ _ _, _, _, _, _⟩ :: _) _ _; refine O_ev WideF.wide rfl (Ev_conv (k2 := .i64) rfl (wi64 (bat_i64 _ _))) rfl rfl ?_)) | (show wpA _ _ _ (.cond _ _ _) _ _ _ _; (refine A_if rfl (fun h => ?_) (fun h => ?_) <;> try (exfalso; omega))))
      all_goals first
        | (exfalso; omega)
        | exact End_e (Ret2 rfl rfl rfl) ⟨⟨_, rfl⟩, rfl⟩
    · refine Fn_of _ _ Tryz.func61 rfl Tryz.ntmps61 rfl fun c => ?_
      repeat' (first | refine O_nil ?_ | refine A_seq ?_ | refine A_region ?_ | refine A_skip ?_ | refine A_block ?_ | (show opsA _ _ _ _ _ _ _; first | (refine O_split rfl rfl (fun h => ?_) (fun h => ?_) <;> try (exfalso; omega)) | refine O_ev WideF.wide rfl (Ev_pure rfl) rfl rfl ?_ | (show opsA _ _ _ _ (⟨_, .call _, _, _, _, _⟩ :: _) _ _; refine O_ev WideF.wide rfl (Ev_slen rfl) rfl rfl ?_) | (show opsA _ _ _ _ (⟨_, .binOp _ _ _ _ _, _, _, _, _⟩ :: _) _ _; refine O_ev WideF.wide rfl (Ev_sub rfl rfl (wi64 (by omega))) rfl rfl ?_) | (show opsA _ _ _ _ (⟨_, .index _ _ _, _, _, _, _⟩ :: _) _ _; refine O_ev WideF.wide rfl (Ev_sindex rfl rfl (by omega) (by omega)) rfl rfl ?_) | (show opsA _ _ _ _ (⟨_, .convert _ _ _, _, _, _, _⟩ :: _) _ _; refine O_ev WideF.wide rfl (Ev_conv (k2 := .i64) rfl (wi64 (bat_i64 _ _))) rfl rfl ?_)) | (show wpA _ _ _ (.cond _ _ _) _ _ _ _; (refine A_if rfl (fun h => ?_) (fun h => ?_) <;> try (exfalso; omega))))
      all_goals try (exfalso; omega)
      refine A_loopu (fun m st => ∃ k : Nat, m = 4 - k ∧ 1 ≤ k ∧ k ≤ 4 ∧ (∀ j : Nat, 1 ≤ j → j < k → isT (bat l j)) ∧ st = ⟨83, [(0, sv l), (4, .int .i64 4), (5, .int .i64 (accP l 240 (k - 1))), (7, .int .i64 k)], H, [], [], []⟩) ?_ ?_
      · exact Shift.to ⟨_, 1, rfl, by omega, by omega, fun j h1 h2 => by omega, rfl⟩ ⟨rfl, rfl, rfl, ⟨rfl, rfl, rfl, rfl, trivial⟩, Own.sub_nil _⟩
      · rintro m st ⟨k, rfl, hk1, hk2, hT, rfl⟩
        obtain ⟨q, rfl⟩ : ∃ q, k = q + 1 := ⟨k - 1, by omega⟩
        rw [show q + 1 - 1 = q from rfl]
        have hacc := accP_b l hL q (by omega) fun j h1 h2 => hT j h1 (by omega)
        have hacc : 0 ≤ accP l 240 q ∧ accP l 240 q < 8388608 := by
          refine ⟨hacc.1, Int.lt_of_lt_of_le hacc.2 ?_⟩
          have hk : q = 0 ∨ q = 1 ∨ q = 2 ∨ q = 3 := by omega
          rcases hk with rfl | rfl | rfl | rfl <;> decide
        by_cases hlt : q + 1 < 4
        · have hclo := bat_lo l (q + 1 : Nat)
          have hchi := bat_hi l (q + 1 : Nat)
          by_cases hc : isT (bat l (q + 1 : Nat))
          · have hc' := hc
            unfold isT at hc'
            repeat' (first | refine O_nil ?_ | refine A_seq ?_ | refine A_region ?_ | refine A_skip ?_ | refine A_block ?_ | (show opsA _ _ _ _ _ _ _; first | (refine O_split rfl rfl (fun h => ?_) (fun h => ?_) <;> try (exfalso; omega)) | refine O_ev WideF.wide rfl (Ev_pure rfl) rfl rfl ?_ | (show opsA _ _ _ _ (⟨_, .binOp _ _ _ _ _, _, _, _, _⟩ :: _) _ _; first | refine O_ev WideF.wide rfl (Ev_add rfl rfl (wi64 (by omega))) rfl rfl ?_ | refine O_ev WideF.wide rfl (Ev_sub rfl rfl (wi64 (by omega))) rfl rfl ?_ | refine O_ev WideF.wide rfl (Ev_mul rfl rfl (wi64 (by omega))) rfl rfl ?_) | (show opsA _ _ _ _ (⟨_, .index _ _ _, _, _, _, _⟩ :: _) _ _; refine O_ev WideF.wide rfl (Ev_sindex rfl rfl (by omega) (by omega)) rfl rfl ?_) | (show opsA _ _ _ _ (⟨_, .convert _ _ _, _, _, _, _⟩ :: _) _ _; refine O_ev WideF.wide rfl (Ev_conv (k2 := .i64) rfl (wi64 (bat_i64 _ _))) rfl rfl ?_)) | (show wpA _ _ _ (.cond _ _ _) _ _ _ _; (refine A_if rfl (fun h => ?_) (fun h => ?_) <;> try (exfalso; omega))))
            all_goals try (exfalso; omega)
            refine Shift.to ⟨_, ?_, q + 1 + 1, rfl, by omega, by omega, fun j h1 h2 => ?_, rfl⟩ ⟨rfl, rfl, rfl, ⟨rfl, rfl, rfl, rfl, trivial⟩, Own.sub_nil _⟩
            · omega
            · by_cases hj : j = q + 1
              · subst hj; exact hc
              · exact hT j h1 (by omega)
          · have he := enc_tail hL ⟨hk1, by omega⟩ hc
            unfold isT at hc
            rw [he]
            repeat' (first | refine O_nil ?_ | refine A_seq ?_ | refine A_region ?_ | refine A_skip ?_ | refine A_ret ?_ | refine A_block ?_ | (show opsA _ _ _ _ _ _ _; first | (refine O_split rfl rfl (fun h => ?_) (fun h => ?_) <;> try (exfalso; omega)) | refine O_ev WideF.wide rfl (Ev_pure rfl) rfl rfl ?_ | (show opsA _ _ _ _ (⟨_, .index _ _ _, _, _, _, _⟩ :: _) _ _; refine O_ev WideF.wide rfl (Ev_sindex rfl rfl (by omega) (by omega)) rfl rfl ?_) | (show opsA _ _ _ _ (⟨_, .convert _ _ _, _, _, _, _⟩ :: _) _ _; refine O_ev WideF.wide rfl (Ev_conv (k2 := .i64) rfl (wi64 (bat_i64 _ _))) rfl rfl ?_) | refine O_skip WideF.wide rfl rfl rfl ?_) | (show wpA _ _ _ (.cond _ _ _) _ _ _ _; first | (refine A_if rfl (fun h => ?_) (fun h => ?_) <;> try (exfalso; omega)) | refine A_iftrue rfl ?_))
            all_goals first
              | (exfalso; omega)
              | exact End_e (Ret2 rfl rfl rfl) ⟨⟨_, rfl⟩, rfl⟩
        · have hkn : q = 4 - 1 := by omega
          subst hkn
          have hfull := enc_full hL (by omega) fun j h1 h2 => hT j h1 (by omega)
          have hp : 0 ≤ accP l 240 (4 - 1) ∧ accP l 240 (4 - 1) < 2097152 := by
            refine ⟨hacc.1, ?_⟩
            have t1 : isT (bat l 1) := hT 1 (by omega) (by omega)
            have t2 : isT (bat l 2) := hT 2 (by omega) (by omega)
            have t3 : isT (bat l 3) := hT 3 (by omega) (by omega)
            unfold isT at t1 t2 t3
            show (((bat l 0 - 240) * 64 + bat l 1 - 128) * 64 + bat l 2 - 128) * 64 + bat l 3 - 128 < 2097152
            omega
          have hn1 : ((4 : Int).toNat - 1) = 4 - 1 := rfl
          rw [hn1] at hfull
          generalize accP l 240 (4 - 1) = p at *
          have hip := fun Hx => IsPoint_fn (H := Hx) (p := p)
          have hen := fun Hx => Encode_fn (H := Hx) hp
          have htk : (4 : Int).toNat = 4 := rfl
          by_cases hpt : isPt p
          · simp only [decide_eq_true hpt] at hip
            by_cases heq : encP p = l.take 4
            · rw [hfull, if_pos ⟨hpt, heq⟩]
              repeat' (first | (refine A_drawi WideF.wide (.q 0 (.e 1 (.q 2 (.q 3 (.q 4 (.q 6 (.q 7 (.q 8 (.e 5 (.q 9 (.q 10 (.done [])))))))))))) [] [] [] (by decide +kernel) (by decide) rfl ?_; simp only [Own.picks, Own.rget, List.cons_append, List.nil_append, List.append_nil]) | (refine E_ef rfl (Ef_callp WideF.wide (hip _) ⟨rfl, trivial⟩ rfl ?_); refine ⟨Grow.same rfl rfl, ?_⟩) | (refine E_ef rfl (Ef_call (I := []) WideF.wide (hen _) ⟨rfl, trivial⟩ rfl ?_); rintro v H1 I1 hle1 ⟨rfl, rfl⟩; refine ⟨⟨hle1, rfl⟩, ?_⟩) | refine O_nil ?_ | refine A_seq ?_ | refine A_region ?_ | refine A_skip ?_ | refine A_ret ?_ | (show drJ _ _ _ _ _ _ _ (.q _ _) _; refine D_q rfl ?_) | (show drJ _ _ _ _ _ _ _ (.e _ _) _; refine D_e rfl ?_) | (show drJ _ _ _ _ _ _ _ (.done _) _; refine D_done ?_; simp only [List.cons_append, List.nil_append]) | (show drQ _ _ _ _ _ _; first | refine D_ev rfl (Ev_pure rfl) rfl rfl ?_ | (show drQ _ _ _ ⟨_, .binOp _ _ _ _ _, _, _, _, _⟩ _ _; refine D_ev rfl (Ev_sneq rfl rfl) rfl rfl ?_) | (show drQ _ _ _ ⟨_, .slice _ _ _ _ _, _, _, _, _⟩ _ _; refine D_ev rfl (Ev_ssliceh rfl rfl (by omega) (by omega)) rfl rfl ?_) | (show drQ _ _ _ ⟨_, .unOp _ _ _, _, _, _, _⟩ _ _; refine D_ev rfl (Ev_notb rfl) rfl rfl ?_)) | (show opsA _ _ _ _ _ _ _; refine O_ev WideF.wide rfl (Ev_pure rfl) rfl rfl ?_) | (show wpA _ _ _ (.exit _) _ _ _ _; refine A_exit rfl ?_) | (show wpA _ _ _ (.cond _ _ _) _ _ _ _; (refine A_if rfl (fun h => ?_) (fun h => ?_) <;> try (exfalso; omega))))
              all_goals first
                | (exfalso; omega)
                | (exfalso; exact absurd heq (by assumption))
                | exact End_e (Ret2 rfl rfl rfl) ⟨⟨_, rfl⟩, rfl⟩
            · rw [hfull, if_neg (fun h => heq h.2)]
              repeat' (first | (refine A_drawi WideF.wide (.q 0 (.e 1 (.q 2 (.q 3 (.q 4 (.q 6 (.q 7 (.q 8 (.e 5 (.q 9 (.q 10 (.done [])))))))))))) [] [] [] (by decide +kernel) (by decide) rfl ?_; simp only [Own.picks, Own.rget, List.cons_append, List.nil_append, List.append_nil]) | (refine E_ef rfl (Ef_callp WideF.wide (hip _) ⟨rfl, trivial⟩ rfl ?_); refine ⟨Grow.same rfl rfl, ?_⟩) | (refine E_ef rfl (Ef_call (I := []) WideF.wide (hen _) ⟨rfl, trivial⟩ rfl ?_); rintro v H1 I1 hle1 ⟨rfl, rfl⟩; refine ⟨⟨hle1, rfl⟩, ?_⟩) | refine O_nil ?_ | refine A_seq ?_ | refine A_region ?_ | refine A_skip ?_ | refine A_ret ?_ | (show drJ _ _ _ _ _ _ _ (.q _ _) _; refine D_q rfl ?_) | (show drJ _ _ _ _ _ _ _ (.e _ _) _; refine D_e rfl ?_) | (show drJ _ _ _ _ _ _ _ (.done _) _; refine D_done ?_; simp only [List.cons_append, List.nil_append]) | (show drQ _ _ _ _ _ _; first | refine D_ev rfl (Ev_pure rfl) rfl rfl ?_ | (show drQ _ _ _ ⟨_, .binOp _ _ _ _ _, _, _, _, _⟩ _ _; refine D_ev rfl (Ev_sneq rfl rfl) rfl rfl ?_) | (show drQ _ _ _ ⟨_, .slice _ _ _ _ _, _, _, _, _⟩ _ _; refine D_ev rfl (Ev_ssliceh rfl rfl (by omega) (by omega)) rfl rfl ?_) | (show drQ _ _ _ ⟨_, .unOp _ _ _, _, _, _, _⟩ _ _; refine D_ev rfl (Ev_notb rfl) rfl rfl ?_)) | (show opsA _ _ _ _ _ _ _; refine O_ev WideF.wide rfl (Ev_pure rfl) rfl rfl ?_) | (show wpA _ _ _ (.exit _) _ _ _ _; refine A_exit rfl ?_) | (show wpA _ _ _ (.cond _ _ _) _ _ _ _; (refine A_if rfl (fun h => ?_) (fun h => ?_) <;> try (exfalso; omega))))
              all_goals first
                | (exfalso; omega)
                | (exfalso; exact absurd heq (by assumption))
                | exact End_e (Ret2 rfl rfl rfl) ⟨⟨_, rfl⟩, rfl⟩
          · simp only [decide_eq_false hpt] at hip
            rw [hfull, if_neg (fun h => hpt h.1)]
            repeat' (first | (refine A_drawi WideF.wide (.q 0 (.e 1 (.q 2 (.q 3 (.q 4 (.q 6 (.q 7 (.q 8 (.e 5 (.q 9 (.q 10 (.done [])))))))))))) [] [] [] (by decide +kernel) (by decide) rfl ?_; simp only [Own.picks, Own.rget, List.cons_append, List.nil_append, List.append_nil]) | (refine E_ef rfl (Ef_callp WideF.wide (hip _) ⟨rfl, trivial⟩ rfl ?_); refine ⟨Grow.same rfl rfl, ?_⟩) | refine O_nil ?_ | refine A_seq ?_ | refine A_region ?_ | refine A_ret ?_ | (show drJ _ _ _ _ _ _ _ (.q _ _) _; refine D_q rfl ?_) | (show drJ _ _ _ _ _ _ _ (.e _ _) _; refine D_e rfl ?_) | (show drJ _ _ _ _ _ _ _ (.done _) _; refine D_done ?_; simp only [List.cons_append, List.nil_append]) | (show drQ _ _ _ _ _ _; first | refine D_ev rfl (Ev_pure rfl) rfl rfl ?_ | (show drQ _ _ _ ⟨_, .unOp _ _ _, _, _, _, _⟩ _ _; refine D_ev rfl (Ev_notb rfl) rfl rfl ?_) | refine D_skip rfl rfl rfl ?_) | (show drE _ _ _ _ _ _ _; refine E_skip rfl rfl rfl ?_) | (show opsA _ _ _ _ _ _ _; refine O_ev WideF.wide rfl (Ev_pure rfl) rfl rfl ?_) | (show wpA _ _ _ (.exit _) _ _ _ _; refine A_exit rfl ?_) | (show wpA _ _ _ (.cond _ _ _) _ _ _ _; first | (refine A_if rfl (fun h => ?_) (fun h => ?_) <;> try (exfalso; omega)) | refine A_iftrue rfl ?_))
            all_goals first
              | (exfalso; omega)
              | exact End_e (Ret2 rfl rfl rfl) ⟨⟨_, rfl⟩, rfl⟩
set_option maxRecDepth 100000 in
theorem rFirst_fn {H : Hp} {l : List UInt8} (hl : l.length < 1099511627776) : Fn Tryz.prog 38 [sv l] H [] fun v _ I => (∃ n : Int, v = .int .i64 n ∧ (0 ≤ n ↔ ¬ valid l)) ∧ I = [] := by
  refine Fn_of _ _ Tryz.func38 rfl Tryz.ntmps38 rfl fun c => ?_
  repeat' (first | refine O_nil ?_ | refine A_seq ?_ | refine A_region ?_ | refine A_block ?_ | (show opsA _ _ _ _ _ _ _; refine O_ev WideF.wide rfl (Ev_pure rfl) rfl rfl ?_))
  refine A_loopu (fun m st => ∃ (a : Nat) (H1 : Hp), m = l.length - a ∧ a ≤ l.length ∧ (valid l ↔ valid (l.drop a)) ∧ st = ⟨23, [(0, sv l), (3, .int .i64 a)], H1, [], [], []⟩) ?_ ?_
  · exact Shift.to ⟨_, 0, H, rfl, by omega, by simp, rfl⟩ ⟨rfl, rfl, rfl, ⟨rfl, rfl, trivial⟩, Own.sub_nil _⟩
  · rintro m st ⟨a, H1, rfl, ha, hv, rfl⟩
    by_cases hlt : a < l.length
    · have hd := fun Hx => Decode_fn (H := Hx) (l := l.drop a) (by rw [List.length_drop]; omega) (by rw [List.length_drop]; omega)
      rw [enc_drop l a (by omega)] at hd
      have he := enc_b l a
      have hf := enc_fits l a (by omega) (by omega)
      repeat' (first | (refine O_ef rfl (Ef_call (I := []) WideF.wide (hd _) ⟨rfl, trivial⟩ rfl ?_); rintro v H2 I2 hle2 ⟨⟨p, rfl⟩, rfl⟩) | refine O_nil ?_ | refine A_seq ?_ | refine A_region ?_ | refine A_skip ?_ | refine A_ret ?_ | refine A_block ?_ | (show opsA _ _ _ _ _ _ _; first | refine O_ev WideF.wide rfl (Ev_pure rfl) rfl rfl ?_ | (show opsA _ _ _ _ (⟨_, .call _, _, _, _, _⟩ :: _) _ _; refine O_ev WideF.wide rfl (Ev_slen rfl) rfl rfl ?_) | (show opsA _ _ _ _ (⟨_, .binOp _ _ _ _ _, _, _, _, _⟩ :: _) _ _; refine O_ev WideF.wide rfl (Ev_add rfl rfl (wi64 (by omega))) rfl rfl ?_) | (show opsA _ _ _ _ (⟨_, .slice _ _ _ _ _, _, _, _, _⟩ :: _) _ _; refine O_ev WideF.wide rfl (Ev_sslicel rfl rfl (by omega) (by omega)) rfl rfl ?_)) | (show wpA _ _ _ (.cond _ _ _) _ _ _ _; (refine A_if rfl (fun h => ?_) (fun h => ?_) <;> try (exfalso; omega))))
      all_goals try (exfalso; omega)
      · refine End_e (Ret1 rfl rfl) ⟨⟨_, rfl, ?_⟩, rfl⟩
        have := valid_drop_no hlt (by omega)
        constructor
        · intro _ h; exact this (hv.1 h)
        · intro _; omega
      · have hne : enc l a ≠ 0 := by omega
        refine Shift.to ⟨_, ?_, a + (enc l a).toNat, _, rfl, by omega, hv.trans (valid_drop hlt hne), rfl⟩ ⟨rfl, rfl, rfl, ⟨rfl, ?_, trivial⟩, Own.sub_nil _⟩
        · omega
        · show some _ = some _
          congr 2
          omega
    · have hal : a = l.length := by omega
      subst hal
      repeat' (first | refine O_nil ?_ | refine A_seq ?_ | refine A_region ?_ | refine A_ret ?_ | (show opsA _ _ _ _ _ _ _; first | refine O_ev WideF.wide rfl (Ev_pure rfl) rfl rfl ?_ | (show opsA _ _ _ _ (⟨_, .call _, _, _, _, _⟩ :: _) _ _; refine O_ev WideF.wide rfl (Ev_slen rfl) rfl rfl ?_)) | (show wpA _ _ _ (.exit _) _ _ _ _; refine A_exit rfl ?_) | (show wpA _ _ _ (.cond _ _ _) _ _ _ _; (refine A_if rfl (fun h => ?_) (fun h => ?_) <;> try (exfalso; omega))))
      all_goals try (exfalso; omega)
      refine End_e (Ret1 rfl rfl) ⟨⟨_, rfl, ?_⟩, rfl⟩
      constructor
      · intro h; omega
      · intro h; exact absurd (hv.2 (by rw [List.drop_length]; exact valid_nil)) h
end Go.Proofs.YtaneeaojlkenmaaGreatDoor
