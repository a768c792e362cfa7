import Derived.Test.YtnoadopmeoohmaaGreatDoorZ07
import Derived.Test.YtnoadopmeoohmaaGreatDoorZ06
import Derived.Test.YtnoadopmeoohmaaGreatDoorZ05
import Derived.Test.YtnoadopmeoohmaaGreatDoorZ03
/-
  Letters, digits, identifiers of both sides; the law's control and function. Printed by genF3.py.
-/
namespace Go.Proofs.YtnoadopmeoohmaaGreatDoor
open Go
set_option linter.unusedVariables false
set_option linter.unusedSimpArgs false
def ltr (b : Int) : Prop := 97 ≤ b ∧ b ≤ 122 ∨ 65 ≤ b ∧ b ≤ 90
def dgt (b : Int) : Prop := 48 ≤ b ∧ b ≤ 57
instance (b : Int) : Decidable (ltr b) := inferInstanceAs (Decidable (_ ∨ _))
instance (b : Int) : Decidable (dgt b) := inferInstanceAs (Decidable (_ ∧ _))
def idc (l : List UInt8) (i : Int) : Prop := ltr (bat l i) ∨ 0 < i ∧ (dgt (bat l i) ∨ bat l i = 95)
instance (l : List UInt8) (i : Int) : Decidable (idc l i) := inferInstanceAs (Decidable (_ ∨ _))
def idt (l : List UInt8) : Prop := l ≠ [] ∧ ∀ i : Nat, i < l.length → idc l i
instance (l : List UInt8) : Decidable (idt l) := inferInstanceAs (Decidable (_ ∧ _))
def ctl (l : List UInt8) : Prop := ∃ i : Nat, i < l.length ∧ (bat l i < 32 ∨ bat l i = 127)
instance (l : List UInt8) : Decidable (ctl l) := inferInstanceAs (Decidable (∃ i : Nat, i < l.length ∧ (bat l i < 32 ∨ bat l i = 127)))
theorem ior_nat : ∀ n : Nat, n < 256 → ((97 ≤ ior .u8 (n : Int) 32 ∧ ior .u8 (n : Int) 32 ≤ 122) ↔ ltr (n : Int)) := by decide +kernel
theorem ior_ltr (l : List UInt8) (i : Int) : (97 ≤ ior .u8 (bat l i) 32 ∧ ior .u8 (bat l i) 32 ≤ 122) ↔ (97 ≤ bat l i ∧ bat l i ≤ 122 ∨ 65 ≤ bat l i ∧ bat l i ≤ 90) := by
  have h1 := bat_hi l i
  have h0 : bat l i = ((bat l i).toNat : Int) := by have := bat_lo l i; omega
  have h := ior_nat (bat l i).toNat (by omega)
  rw [← h0] at h
  exact h
def fnc (s : List UInt8) : Int × Int × Bool :=
  if s = [109, 105, 110] ∨ s = [109, 97, 120] then (1, 1000, true) else if s = [115, 117, 109] then (0, 1000, true) else
  if s = [97, 98, 115] ∨ s = [108, 101, 110] ∨ s = [117, 112, 112, 101, 114] ∨ s = [108, 111, 119, 101, 114] ∨ s = [116, 101, 120, 116] ∨ s = [110, 117, 109, 98, 101, 114] then (1, 1, true) else
  if s = [105, 102] then (3, 3, true) else (0, 0, false)
attribute [local irreducible] wpA opsA drJ drQ drE Ef Ev Shift Fn
set_option maxRecDepth 100000 in
set_option maxHeartbeats 4000000 in
theorem identifier_fn {H : Hp} {l : List UInt8} (hl : l.length < 4611686018427387904) : FnP Tryz.prog 71 [sv l] H (.bool (decide (idt l))) := by
  refine Fn_of _ _ Tryz.func71 rfl Tryz.ntmps71 rfl fun c => ?_
  repeat' (first | refine O_nil ?_ | refine A_seq ?_ | refine A_region ?_ | refine A_block ?_ | (show opsA _ _ _ _ _ _ _; first | refine O_ev WideF.wide rfl (Ev_pure rfl) rfl rfl ?_ | (show opsA _ _ _ _ (⟨_, .call _, _, _, _, _⟩ :: _) _ _; refine O_ev WideF.wide rfl (Ev_slen rfl) rfl rfl ?_)))
  refine A_loopu (fun q s => ∃ i : Nat, q = l.length - i ∧ i ≤ l.length ∧ (∀ j : Nat, j < i → idc l j) ∧ s = ⟨45, [(0, sv l), (6, .int .i64 l.length), (7, .int .i64 i)], H, [], [], []⟩) ?_ ?_
  · exact Shift.to ⟨_, 0, rfl, by omega, fun j hj => absurd hj (by omega), rfl⟩ ⟨rfl, rfl, rfl, ⟨rfl, rfl, rfl, trivial⟩, Own.sub_nil _⟩
  rintro q s ⟨i, rfl, hi, hall, rfl⟩
  have hio := ior_ltr l i
  by_cases hlt : i < l.length
  · repeat' (first | refine O_nil ?_ | refine A_seq ?_ | refine A_region ?_ | refine A_skip ?_ | refine A_ret ?_ | refine A_block ?_ | (show opsA _ _ _ _ _ _ _; first | (refine O_split rfl rfl (fun h => ?_) (fun h => ?_) <;> try (exfalso; omega)) | refine O_ev WideF.wide rfl (Ev_pure rfl) rfl rfl ?_ | (show opsA _ _ _ _ (⟨_, .binOp _ _ _ _ _, _, _, _, _⟩ :: _) _ _; first | refine O_ev WideF.wide rfl (Ev_add rfl rfl (wi64 (by omega))) rfl rfl ?_ | refine O_ev WideF.wide rfl (Ev_or rfl rfl) rfl rfl ?_) | (show opsA _ _ _ _ (⟨_, .index _ _ _, _, _, _, _⟩ :: _) _ _; refine O_ev WideF.wide rfl (Ev_sindex rfl rfl (by omega) (by omega)) rfl rfl ?_) | refine O_skip WideF.wide rfl rfl rfl ?_) | (show wpA _ _ _ (.cond _ _ _) _ _ _ _; first | (refine A_if rfl (fun h => ?_) (fun h => ?_) <;> try (exfalso; omega)) | refine A_iftrue rfl ?_ | refine A_iffalse rfl ?_))
    all_goals first
      | (exfalso; omega)
      | exact Shift.to ⟨_, by omega, i + 1, rfl, by omega, fun j hj => (if h9 : j = i then (by subst h9; unfold idc ltr dgt; omega) else hall j (by omega)), rfl⟩ ⟨rfl, rfl, rfl, ⟨rfl, rfl, rfl, trivial⟩, Own.sub_nil _⟩
      | ((refine End_p (Ret1 rfl rfl) ?_); refine congrArg Value.bool ?_; exact (decide_eq_false (fun h9 => absurd (h9.2 i hlt) (by unfold idc ltr dgt; omega))).symm)
      | trace_state
  · obtain rfl : l.length = i := by omega
    have he : idt l ↔ l ≠ [] := ⟨fun h => h.1, fun h => ⟨h, hall⟩⟩
    repeat' (first | refine O_nil ?_ | refine A_seq ?_ | refine A_region ?_ | refine A_ret ?_ | (show opsA _ _ _ _ _ _ _; first | refine O_ev WideF.wide rfl (Ev_pure rfl) rfl rfl ?_ | (show opsA _ _ _ _ (⟨_, .binOp _ _ _ _ _, _, _, _, _⟩ :: _) _ _; refine O_ev WideF.wide rfl (Ev_sneq rfl rfl) rfl rfl ?_)) | (show wpA _ _ _ (.exit _) _ _ _ _; refine A_exit rfl ?_) | (show wpA _ _ _ (.cond _ _ _) _ _ _ _; (refine A_if rfl (fun h => ?_) (fun h => ?_) <;> try (exfalso; omega))))
    all_goals first
      | (exfalso; omega)
      | ((refine End_p (Ret1 rfl rfl) ?_); refine congrArg Value.bool ?_; simp [he]; done)
      | trace_state
end Go.Proofs.YtnoadopmeoohmaaGreatDoor
/-
  Rules: loops unrolled, a result in a cell beside another one, a map literal's entries.
-/
namespace Go.Proofs.YtnoadopmeoohmaaGreatDoor
open Go
set_option linter.unusedVariables false
set_option linter.unusedSimpArgs false
section
variable {F : Fence} {P : Program} {c : Ctx} {K : SP} {X : List (Nat × SP)} {R : SP}
/-- at most m rounds are left -/
def unr (F : Fence) (P : Program) (c : Ctx) (x : Code) (X : List (Nat × SP)) (R : SP) : Nat → SP
  | 0, _ => False
  | m + 1, s => wpA F P c x (unr F P c x X R m) X R s
theorem U_succ {x : Code} {m : Nat} {s : Sta} (h : wpA F P c x (unr F P c x X R m) X R s) : unr F P c x X R (m + 1) s := h
theorem A_unroll {x : Code} (m : Nat) {s : Sta} (h : unr F P c x X R m s) : wpA F P c (.loop x) K X R s :=
  A_loop (fun j s => unr F P c x X R j s) m h fun n s hI => by
    cases n with
    | zero => exact hI.elim
    | succ n => exact A_mono hI (fun s' h' => ⟨n, Nat.lt_succ_self n, h'⟩) fun _ h => h
variable {fn : Func} {n : Nat} {e : Env} {H : Hp} {M L : Own} {D : List Deferred} {v v2 : Value}
theorem cellC {T k b i t : Nat} {cs : List Value} [hT : TyC P T true k] {a : Act} {w : World} (he : EnvOk e a) (hr : Own.ok (M ++ L) w) (h1 : e.find t = some (.pointer (some ⟨b, 0, none⟩))) (hR : oget M i = some (.box b cs)) (hk : cs.length = k) :
    (resOf a.tmps (.cell t T)).run P w = .ok (.agg cs.toArray) w := by
  obtain ⟨T', hb⟩ := hr _ (List.mem_append_left _ (oget_mem hR))
  have h2 := run_load_agg (P := P) (t := T) (w := w) (b := b) (o := 0) hk (fun j v hj => cell_of_heap hb (by simpa using hj))
  simp only [Instr.loadAt, Instr.sureAddr, Sem.run_bind, Sem.run_pure, Result.andThen_ok] at h2
  simp [resOf, he _ _ h1, asAddr, h2]
theorem RetC2 {T k b i t t2 : Nat} {cs : List Value} [hT : TyC P T true k] (h : fn.results = #[.cell t T, .tmp t2]) (h1 : e.find t = some (.pointer (some ⟨b, 0, none⟩))) (hR : oget M i = some (.box b cs)) (hk : cs.length = k) (h2 : e.find t2 = some v2) :
    RetOk P fn ⟨n, e, H, M, L, D⟩ (.tuple [.agg cs.toArray, v2].toArray) := fun a w he hr => by
  have e2 : (resOf a.tmps (.tmp t2)).run P w = .ok v2 w := by simp [resOf, he _ _ h2]
  rw [results_eq, h, Sem.run_bind, run_mapM2 (cellC he hr h1 hR hk) e2]
  simp
end
section
variable {F : Fence} {P : Program} {c : Ctx} {o : Oper} {K : SP} {n : Nat} {e : Env} {H : Hp} {M L : Own} {D : List Deferred} {ty : TypeId} {pos : String} {after : Array Edge} {g : Option (Nat × Bool)} {x y z : Operand} {v : Value} {t : TypeId} {b : Nat}
theorem Ef_mapIns (hF : WideF F) {kt et : TypeId} {kvs : List (Int × Value)} {q : Int} [ht : UndC P t (.map kt et)] [hk : UndC P kt (.int .i64)] (hx : e.eval x = some (.map (some b))) (hy : e.eval y = some (.int .i64 q)) (hz : e.eval z = some v) (hno : ¬ mhas kvs q)
    (k : K ⟨n, e, H, .obj b (mobj (kvs ++ [(q, v)])) :: M, L, D⟩) :
    Ef F P c ⟨none, .insert t x y z, ty, pos, after, g⟩ ⟨n, e, H, .obj b (mobj kvs) :: M, L, D⟩ K := Ef_of_skip hF (by simp) fun a w hs => by
  have hb : w.heap[b]? = some (mobj kvs) := hs.holds.own (.obj b (mobj kvs)) (by simp)
  have h1 := MapKept.run_getObj_map (P := P) hb
  have h2 := run_checkKey_int (P := P) hk.und false q w
  obtain ⟨r, h3, h4⟩ := findNow_m q v kvs 0 0
  rcases h4 with ⟨q', rfl, h5⟩ | ⟨rfl, h5⟩
  · exact absurd h5 hno
  have h6 := MapKept.run_setObj_map (P := P) (mobj (kvs ++ [(q, v)])) hb
  have h7 : (mobj (kvs ++ [(q, v)])) = .map ((ments 0 kvs).toArray.push ⟨.int .i64 q, v, kvs.length⟩) (kvs.length + 1) := by
    simp [mobj, ments_snoc]
  refine ⟨w.putObj b (mobj (kvs ++ [(q, v)])), ?_, ⟨n, e, H, .obj b (mobj (kvs ++ [(q, v)])) :: M, L, D⟩, ⟨hs.defers, hs.size, hs.env, hs.holds.putObj _⟩, k⟩
  have h9 : (setObj b (.map ((ments 0 kvs).toArray.push ⟨.int .i64 q, v, kvs.length⟩) (kvs.length + 1))).run P w = .ok () (w.putObj b (mobj (kvs ++ [(q, v)]))) := by rw [← h7]; exact h6
  simp only [execOp, hs.env.eval hx, hs.env.eval hy, hs.env.eval hz, Instr.mapUpdate, ht.run, h1, h2, Instr.findKey, hk.run, h3, Sem.run_bind, Sem.run_pure, Result.andThen_ok, h9]
end
end Go.Proofs.YtnoadopmeoohmaaGreatDoor
/-
  codepoint: what the functions compute.
-/
namespace Go.Proofs.YtnoadopmeoohmaaGreatDoor
open Go
set_option linter.unusedVariables false
set_option linter.unusedSimpArgs false
attribute [local irreducible] wpA opsA Ef Ev Shift Fn
def tailLow (b : Int) : Int := if b = 0xE0 then 0xA0 else if b = 0xF0 then 0x90 else 0x80
def tailHigh (b : Int) : Int := if b = 0xED then 0x9F else if b = 0xF4 then 0x8F else 0xBF
def tailSize (b : Int) : Int := if b < 0x80 then 1 else if b < 0xC2 ∨ 0xF4 < b then 0 else if b < 0xE0 then 2 else if b < 0xF0 then 3 else 4
set_option maxRecDepth 100000 in
theorem tail_fn (H : Hp) (b : Int) (h0 : 0 ≤ b) (h1 : b < 256) : FnP Tryz.prog 125 [.int .u8 b] H (.tuple [.int .u8 (tailLow b), .int .u8 (tailHigh b), .int .i64 (tailSize b)].toArray) := by
  refine Fn_of _ _ Tryz.func125 rfl Tryz.ntmps125 rfl fun c => ?_
  repeat' (first | refine O_nil ?_ | refine A_seq ?_ | refine A_region ?_ | refine A_skip ?_ | refine A_ret ?_ | refine A_block ?_ | (show opsA _ _ _ _ _ _ _; first | (refine O_split rfl rfl (fun h => ?_) (fun h => ?_) <;> try (exfalso; omega)) | refine O_ev WideF.wide rfl (Ev_pure rfl) rfl rfl ?_ | refine O_skip WideF.wide rfl rfl rfl ?_) | (show wpA _ _ _ (.cond _ _ _) _ _ _ _; first | (refine A_if rfl (fun h => ?_) (fun h => ?_) <;> try (exfalso; omega)) | refine A_iftrue rfl ?_))

  all_goals refine End_p (Ret3 rfl rfl rfl rfl) ?_
  all_goals (unfold tailLow tailHigh tailSize; repeat' split) <;> first | rfl | (exfalso; omega)
/-- the number of bytes of the encoding that begins at a place; 0 if none does -/
def enc (l : List UInt8) (i : Int) : Int :=
  if bat l i < 0x80 then 1
  else if tailSize (bat l i) = 0 then 0
  else if i + tailSize (bat l i) ≤ l.length ∧ (tailLow (bat l i) ≤ bat l (i + 1) ∧ bat l (i + 1) ≤ tailHigh (bat l i)) ∧ (3 ≤ tailSize (bat l i) → 0x80 ≤ bat l (i + 2) ∧ bat l (i + 2) ≤ 0xBF) ∧ (4 ≤ tailSize (bat l i) → 0x80 ≤ bat l (i + 3) ∧ bat l (i + 3) ≤ 0xBF)
  then tailSize (bat l i) else 0
/-- the first k bytes fit -/
def okTo (l : List UInt8) (i k : Int) : Prop :=
  i + k ≤ l.length ∧ (2 ≤ k → tailLow (bat l i) ≤ bat l (i + 1) ∧ bat l (i + 1) ≤ tailHigh (bat l i)) ∧ (3 ≤ k → 0x80 ≤ bat l (i + 2) ∧ bat l (i + 2) ≤ 0xBF) ∧ (4 ≤ k → 0x80 ≤ bat l (i + 3) ∧ bat l (i + 3) ≤ 0xBF)
theorem tailSize_le (b : Int) : 0 ≤ tailSize b ∧ tailSize b ≤ 4 := by unfold tailSize; repeat' split <;> omega
theorem tailSize_one {b : Int} (h : tailSize b = 1) : b < 0x80 := by
  unfold tailSize at h; repeat' split at h <;> omega
theorem tailSize_lt {b : Int} (h : b < 0x80) : tailSize b = 1 := by unfold tailSize; rw [if_pos h]
theorem enc_ok {l : List UInt8} {i : Int} (h : 1 < tailSize (bat l i)) (hk : okTo l i (tailSize (bat l i))) : enc l i = tailSize (bat l i) := by
  have h0 : ¬ bat l i < 0x80 := fun hh => by rw [tailSize_lt hh] at h; omega
  unfold enc
  rw [if_neg h0, if_neg (by omega), if_pos ⟨hk.1, hk.2.1 (by omega), hk.2.2.1, hk.2.2.2⟩]
theorem enc_no {l : List UInt8} {i : Int} (h : 1 < tailSize (bat l i)) (hk : ¬ okTo l i (tailSize (bat l i))) : enc l i = 0 := by
  have h0 : ¬ bat l i < 0x80 := fun hh => by rw [tailSize_lt hh] at h; omega
  unfold enc
  rw [if_neg h0, if_neg (by omega), if_neg (fun hh => hk ⟨hh.1, fun _ => hh.2.1, hh.2.2.1, hh.2.2.2⟩)]
theorem okTo_at {l : List UInt8} {i t k : Int} (h : okTo l i t) (h1 : 1 ≤ k) (hk : k < t) (ht : t ≤ 4) :
    (if k = 1 then tailLow (bat l i) else 0x80) ≤ bat l (i + k) ∧ bat l (i + k) ≤ (if k = 1 then tailHigh (bat l i) else 0xBF) := by
  obtain ⟨o1, o2, o3, o4⟩ := h
  have hc : k = 1 ∨ k = 2 ∨ k = 3 := by omega
  rcases hc with rfl | rfl | rfl
  · simpa using o2 (by omega)
  · simpa using o3 (by omega)
  · simpa using o4 (by omega)
theorem okTo_succ {l : List UInt8} {i k : Int} (h : okTo l i k) (h1 : 1 ≤ k) (h4 : k < 4) (hl : i + k < l.length)
    (h2 : (if k = 1 then tailLow (bat l i) else 0x80) ≤ bat l (i + k)) (h3 : bat l (i + k) ≤ (if k = 1 then tailHigh (bat l i) else 0xBF)) : okTo l i (k + 1) := by
  obtain ⟨o1, o2, o3, o4⟩ := h
  have hc : k = 1 ∨ k = 2 ∨ k = 3 := by omega
  rcases hc with rfl | rfl | rfl
  · simp only [if_true] at h2 h3
    exact ⟨by omega, fun _ => ⟨h2, h3⟩, fun h => by omega, fun h => by omega⟩
  · simp at h2 h3
    exact ⟨by omega, fun _ => o2 (by omega), fun _ => ⟨h2, h3⟩, fun h => by omega⟩
  · simp at h2 h3
    exact ⟨by omega, fun _ => o2 (by omega), fun _ => o3 (by omega), fun _ => ⟨h2, h3⟩⟩
abbrev decSt (H : Hp) (l : List UInt8) (i p k : Int) : Sta := ⟨74, [(0, sv l), (1, .int .i64 i), (4, .int .i64 p), (5, .int .i64 k), (8, .int .u8 (if k = 1 then tailLow (bat l i) else 0x80)), (9, .int .u8 (if k = 1 then tailHigh (bat l i) else 0xBF)), (10, .int .i64 (tailSize (bat l i)))], H, [], [], []⟩
set_option maxRecDepth 100000 in
theorem decode_fn (H : Hp) (l : List UInt8) (i : Int) (h0 : 0 ≤ i) (h1 : i < l.length) (hl : l.length < 4611686018427387904) :
    Fn Tryz.prog 79 [sv l, .int .i64 i] H [] fun v H' I' => (∃ p sz : Int, v = .tuple [.int .i64 p, .int .i64 sz, .bool (decide (enc l i ≠ 0))].toArray ∧ 0 ≤ sz ∧ sz ≤ 4 ∧ (enc l i ≠ 0 → sz = enc l i)) ∧ H' = H ∧ I' = [] := by
  have hb0 := bat_lo l i
  have hb1 := bat_hi l i
  have hts := tailSize_le (bat l i)
  refine Fn_of _ _ Tryz.func79 rfl Tryz.ntmps79 rfl fun c => ?_
  repeat' (first | (refine O_ef rfl (Ef_callp WideF.wide (tail_fn H (bat l i) hb0 hb1) ⟨rfl, trivial⟩ rfl ?_)) | refine O_nil ?_ | refine A_seq ?_ | refine A_region ?_ | refine A_skip ?_ | refine A_ret ?_ | refine A_block ?_ | (show opsA _ _ _ _ _ _ _; first | refine O_ev WideF.wide rfl (Ev_pure rfl) rfl rfl ?_ | (show opsA _ _ _ _ (⟨_, .binOp _ _ _ _ _, _, _, _, _⟩ :: _) _ _; first | refine O_ev WideF.wide rfl (Ev_and rfl rfl) rfl rfl ?_ | refine O_ev WideF.wide rfl (Ev_shr rfl rfl (by omega) (by simp [IntKind.bits]; omega)) rfl rfl ?_) | (show opsA _ _ _ _ (⟨_, .index _ _ _, _, _, _, _⟩ :: _) _ _; refine O_ev WideF.wide rfl (Ev_sindex rfl rfl (by omega) (by omega)) rfl rfl ?_) | (show opsA _ _ _ _ (⟨_, .convert _ _ _, _, _, _, _⟩ :: _) _ _; refine O_ev WideF.wide rfl (Ev_conv (k2 := .i64) rfl (wi64 (bat_i64 _ _))) rfl rfl ?_)) | (show wpA _ _ _ (.cond _ _ _) _ _ _ _; (refine A_if rfl (fun h => ?_) (fun h => ?_) <;> try (exfalso; omega))))
  · have he : enc l i = 0 := by unfold enc; rw [if_neg (fun hh => by rw [tailSize_lt hh] at h; omega), if_pos h]
    refine Shift.pure ⟨_, Ret3 rfl rfl rfl rfl, rfl, Shift.pure ⟨rfl, ⟨0, 0, ?_, by omega, by omega, by omega⟩, rfl, rfl⟩⟩
    rw [he]; rfl
  · have he : enc l i = 1 := by unfold enc; rw [if_pos (tailSize_one h)]
    refine Shift.pure ⟨_, Ret3 rfl rfl rfl rfl, rfl, Shift.pure ⟨rfl, ⟨bat l i, 1, ?_, by omega, by omega, by omega⟩, rfl, rfl⟩⟩
    rw [he]; rfl
  · rename_i hz
    have ht1 : 1 < tailSize (bat l i) := by omega
    refine A_loopu (fun n s => ∃ p k : Int, n = (4 - k).toNat ∧ 1 ≤ k ∧ k ≤ tailSize (bat l i) ∧ okTo l i k ∧ s = decSt H l i p k) ?_ ?_
    · exact Shift.to ⟨3, _, 1, rfl, by omega, by omega, ⟨by omega, by omega, by omega, by omega⟩, rfl⟩ ⟨rfl, rfl, rfl, ⟨rfl, rfl, rfl, rfl, rfl, rfl, rfl, trivial⟩, Own.sub_nil _⟩
    · rintro n s ⟨p, k, rfl, hk1, hk2, hok, rfl⟩
      have hin : i + k ≤ l.length := hok.1
      repeat' (first | refine O_nil ?_ | refine A_seq ?_ | refine A_region ?_ | refine A_skip ?_ | refine A_ret ?_ | refine A_block ?_ | (show opsA _ _ _ _ _ _ _; first | (refine O_split rfl rfl (fun h => ?_) (fun h => ?_) <;> try (exfalso; omega)) | refine O_ev WideF.wide rfl (Ev_pure rfl) rfl rfl ?_ | (show opsA _ _ _ _ (⟨_, .call _, _, _, _, _⟩ :: _) _ _; refine O_ev WideF.wide rfl (Ev_slen rfl) rfl rfl ?_) | (show opsA _ _ _ _ (⟨_, .binOp _ _ _ _ _, _, _, _, _⟩ :: _) _ _; first | refine O_ev WideF.wide rfl (Ev_add rfl rfl (wi64 (by omega))) rfl rfl ?_ | refine O_ev WideF.wide rfl (Ev_and rfl rfl) rfl rfl ?_ | refine O_ev WideF.wide rfl (Ev_or rfl rfl) rfl rfl ?_ | refine O_ev WideF.wide rfl (Ev_shl rfl rfl (by decide) (by decide) rfl) rfl rfl ?_) | (show opsA _ _ _ _ (⟨_, .index _ _ _, _, _, _, _⟩ :: _) _ _; refine O_ev WideF.wide rfl (Ev_sindex rfl rfl (by omega) (by omega)) rfl rfl ?_) | (show opsA _ _ _ _ (⟨_, .convert _ _ _, _, _, _, _⟩ :: _) _ _; refine O_ev WideF.wide rfl (Ev_conv (k2 := .i64) rfl (wi64 (bat_i64 _ _))) rfl rfl ?_) | refine O_skip WideF.wide rfl rfl rfl ?_) | (show wpA _ _ _ (.exit _) _ _ _ _; refine A_exit rfl ?_) | (show wpA _ _ _ (.cond _ _ _) _ _ _ _; first | (refine A_if rfl (fun h => ?_) (fun h => ?_) <;> try (exfalso; omega)) | refine A_iftrue rfl ?_))
      · have he : enc l i = 0 := enc_no ht1 fun hh => by have := hh.1; omega
        refine Shift.pure ⟨_, Ret3 rfl rfl rfl rfl, rfl, Shift.pure ⟨rfl, ⟨0, k, ?_, by omega, by omega, by omega⟩, rfl, rfl⟩⟩
        rw [he]; rfl
      · have he : enc l i = 0 := enc_no ht1 fun hh => by have := okTo_at hh hk1 (by omega) hts.2; omega
        refine Shift.pure ⟨_, Ret3 rfl rfl rfl rfl, rfl, Shift.pure ⟨rfl, ⟨0, k, ?_, by omega, by omega, by omega⟩, rfl, rfl⟩⟩
        rw [he]; rfl
      · have he : enc l i = 0 := enc_no ht1 fun hh => by have := okTo_at hh hk1 (by omega) hts.2; omega
        refine Shift.pure ⟨_, Ret3 rfl rfl rfl rfl, rfl, Shift.pure ⟨rfl, ⟨0, k, ?_, by omega, by omega, by omega⟩, rfl, rfl⟩⟩
        rw [he]; rfl
      · refine Shift.to ⟨(4 - (k + 1)).toNat, by omega, _, k + 1, rfl, by omega, by omega, okTo_succ hok hk1 (by omega) (by omega) (by omega) (by omega), rfl⟩ ⟨rfl, rfl, rfl, ⟨rfl, rfl, rfl, rfl, ?_, ?_, rfl, trivial⟩, Own.sub_nil _⟩
        · have e1 : (if k + 1 = 1 then tailLow (bat l i) else 0x80) = 0x80 := if_neg (by omega)
          rw [e1]; rfl
        · have e1 : (if k + 1 = 1 then tailHigh (bat l i) else 0xBF) = 0xBF := if_neg (by omega)
          rw [e1]; rfl
      · have he := enc_ok ht1 (show okTo l i (tailSize (bat l i)) by rw [show tailSize (bat l i) = k by omega]; exact hok)
        refine Shift.pure ⟨_, Ret3 rfl rfl rfl rfl, rfl, Shift.pure ⟨rfl, ⟨p, k, ?_, by omega, by omega, by omega⟩, rfl, rfl⟩⟩
        rw [he, decide_eq_true (by omega)]
theorem enc_b (l : List UInt8) (i : Int) : 0 ≤ enc l i ∧ enc l i ≤ 4 := by
  have := tailSize_le (bat l i)
  unfold enc; repeat' split <;> omega
theorem bat_drop (l : List UInt8) (n : Nat) (k : Int) (hk : 0 ≤ k) : bat (l.drop n) k = bat l (n + k) := by
  unfold bat
  have : ((n : Int) + k).toNat = n + k.toNat := by omega
  simp [List.getD, List.getElem?_drop, this]
theorem enc_drop (l : List UInt8) (n : Nat) (hn : n ≤ l.length) : enc (l.drop n) 0 = enc l n := by
  have h0 : bat (l.drop n) 0 = bat l n := by simpa using bat_drop l n 0 (by omega)
  have h1 : bat (l.drop n) 1 = bat l (n + 1) := bat_drop l n 1 (by omega)
  have h2 : bat (l.drop n) 2 = bat l (n + 2) := bat_drop l n 2 (by omega)
  have h3 : bat (l.drop n) 3 = bat l (n + 3) := bat_drop l n 3 (by omega)
  have hl : ∀ t : Int, (0 : Int) + t ≤ ((l.drop n).length : Int) ↔ (n : Int) + t ≤ l.length := fun t => by rw [List.length_drop]; omega
  unfold enc
  simp only [Int.zero_add, h0, h1, h2, h3] at *
  simp only [hl]
theorem enc_fits (l : List UInt8) (i : Int) (h0 : 0 ≤ i) (h : i < l.length) : i + enc l i ≤ l.length := by
  unfold enc
  split
  · omega
  · split
    · omega
    · split
      · rename_i h; exact h.1
      · omega
/-- the encodings of a string's code points; none if it is not valid -/
def chars (l : List UInt8) : Option (List (List UInt8)) :=
  if hn : l = [] then some [] else if h : enc l 0 = 0 then none else (chars (l.drop (enc l 0).toNat)).map (l.take (enc l 0).toNat :: ·)
termination_by l.length
decreasing_by
  have := enc_b l 0
  have hl : 0 < l.length := List.length_pos_iff.2 hn
  simp only [List.length_drop]
  omega
def valid (l : List UInt8) : Prop := (chars l).isSome = true
instance (l : List UInt8) : Decidable (valid l) := by unfold valid; infer_instance
theorem chars_nil' {l : List UInt8} (hl : l = []) : chars l = some [] := by rw [chars, dif_pos hl]
theorem chars_nil : chars [] = some [] := chars_nil' rfl
theorem chars_no {l : List UInt8} (hl : l ≠ []) (h : enc l 0 = 0) : chars l = none := by rw [chars, dif_neg hl, dif_pos h]
theorem chars_step {l : List UInt8} (hl : l ≠ []) (h : enc l 0 ≠ 0) : chars l = (chars (l.drop (enc l 0).toNat)).map (l.take (enc l 0).toNat :: ·) := by rw [chars, dif_neg hl, dif_neg h]
theorem valid_nil : valid [] := by unfold valid; rw [chars_nil]; rfl
theorem valid_no {l : List UInt8} (hl : l ≠ []) (h : enc l 0 = 0) : ¬ valid l := by unfold valid; rw [chars_no hl h]; simp
theorem valid_step {l : List UInt8} (hl : l ≠ []) (h : enc l 0 ≠ 0) : valid l ↔ valid (l.drop (enc l 0).toNat) := by unfold valid; rw [chars_step hl h]; simp
theorem valid_drop {l : List UInt8} {n : Nat} (hn : n < l.length) (h : enc l n ≠ 0) : valid (l.drop n) ↔ valid (l.drop (n + (enc l n).toNat)) := by
  have hne : l.drop n ≠ [] := by intro hh; have := congrArg List.length hh; simp at this; omega
  have he := enc_drop l n (by omega)
  rw [valid_step hne (by rw [he]; exact h), he, List.drop_drop]
theorem valid_drop_no {l : List UInt8} {n : Nat} (hn : n < l.length) (h : enc l n = 0) : ¬ valid (l.drop n) := by
  have hne : l.drop n ≠ [] := by intro hh; have := congrArg List.length hh; simp at this; omega
  have he := enc_drop l n (by omega)
  exact valid_no hne (by rw [he]; exact h)
abbrev firstSt (H : Hp) (l : List UInt8) (a : Nat) : Sta := ⟨24, [(0, sv l), (3, .int .i64 a)], H, [], [], []⟩
set_option maxRecDepth 100000 in
theorem First_fn (H : Hp) (l : List UInt8) (hl : l.length < 4611686018427387904) :
    Fn Tryz.prog 38 [sv l] H [] fun v H' I' => (∃ n : Int, v = .int .i64 n ∧ -1 ≤ n ∧ n < l.length + 1 ∧ (n < 0 ↔ valid l)) ∧ H' = H ∧ I' = [] := by
  refine Fn_of _ _ Tryz.func38 rfl Tryz.ntmps38 rfl fun c => ?_
  repeat' (first | refine O_nil ?_ | refine A_seq ?_ | refine A_region ?_ | refine A_block ?_ | (show opsA _ _ _ _ _ _ _; refine O_ev WideF.wide rfl (Ev_pure rfl) rfl rfl ?_))
  refine A_loopu (fun n s => ∃ a : Nat, n = l.length - a ∧ a ≤ l.length ∧ (valid l ↔ valid (l.drop a)) ∧ s = firstSt H l a) ?_ ?_
  · exact Shift.to ⟨_, 0, rfl, by omega, by simp, rfl⟩ ⟨rfl, rfl, rfl, ⟨rfl, rfl, trivial⟩, Own.sub_nil _⟩
  · rintro n s ⟨a, rfl, ha, hv, rfl⟩
    by_cases hlt : a < l.length
    · have hd := decode_fn H l a (by omega) (by omega) hl
      have he := enc_b l a
      have hf := enc_fits l a (by omega) (by omega)
      repeat' (first | (refine O_ef rfl (Ef_call (I := []) WideF.wide hd ⟨rfl, rfl, trivial⟩ rfl ?_); rintro v H' I' hle ⟨⟨p, sz, rfl, hs0, hs4, hs⟩, rfl, rfl⟩) | refine O_nil ?_ | refine A_seq ?_ | refine A_region ?_ | refine A_skip ?_ | refine A_ret ?_ | refine A_block ?_ | (show opsA _ _ _ _ _ _ _; first | refine O_ev WideF.wide rfl (Ev_pure rfl) rfl rfl ?_ | (show opsA _ _ _ _ (⟨_, .call _, _, _, _, _⟩ :: _) _ _; refine O_ev WideF.wide rfl (Ev_slen rfl) rfl rfl ?_) | (show opsA _ _ _ _ (⟨_, .binOp _ _ _ _ _, _, _, _, _⟩ :: _) _ _; refine O_ev WideF.wide rfl (Ev_add rfl rfl (wi64 (by omega))) rfl rfl ?_) | (show opsA _ _ _ _ (⟨_, .unOp _ _ _, _, _, _, _⟩ :: _) _ _; refine O_ev WideF.wide rfl (Ev_not rfl) rfl rfl ?_)) | (show wpA _ _ _ (.cond _ _ _) _ _ _ _; (refine A_if rfl (fun h => ?_) (fun h => ?_) <;> try (exfalso; omega))))
      · refine Shift.pure ⟨_, Ret1 rfl rfl, rfl, Shift.pure ⟨rfl, ⟨a, rfl, by omega, by omega, ?_⟩, rfl, rfl⟩⟩
        have := valid_drop_no hlt (by omega)
        constructor
        · intro h; omega
        · intro h; exact absurd (hv.1 h) this
      · have hne : enc l a ≠ 0 := by omega
        have hsz := hs hne
        refine Shift.to ⟨_, ?_, a + (enc l a).toNat, rfl, by omega, hv.trans (valid_drop hlt hne), rfl⟩ ⟨rfl, rfl, rfl, ⟨rfl, ?_, trivial⟩, Own.sub_nil _⟩
        · omega
        · show some _ = some _
          rw [hsz]
          congr 2
          omega
    · have hal : a = l.length := by omega
      subst hal
      repeat' (first | refine O_nil ?_ | refine A_seq ?_ | refine A_region ?_ | refine A_ret ?_ | (show opsA _ _ _ _ _ _ _; first | refine O_ev WideF.wide rfl (Ev_pure rfl) rfl rfl ?_ | (show opsA _ _ _ _ (⟨_, .call _, _, _, _, _⟩ :: _) _ _; refine O_ev WideF.wide rfl (Ev_slen rfl) rfl rfl ?_)) | (show wpA _ _ _ (.exit _) _ _ _ _; refine A_exit rfl ?_) | (show wpA _ _ _ (.cond _ _ _) _ _ _ _; (refine A_if rfl (fun h => ?_) (fun h => ?_) <;> try (exfalso; omega))))
      refine Shift.pure ⟨_, Ret1 rfl rfl, rfl, Shift.pure ⟨rfl, ⟨-1, rfl, by omega, by omega, ?_⟩, rfl, rfl⟩⟩
      constructor
      · intro _; rw [hv, List.drop_length]; exact valid_nil
      · intro _; omega
set_option maxRecDepth 100000 in
theorem Valid_fn (H : Hp) (l : List UInt8) (hl : l.length < 4611686018427387904) : FnP Tryz.prog 55 [sv l] H (.bool (decide (valid l))) := by
  have hd := First_fn H l hl
  refine Fn_of _ _ Tryz.func55 rfl Tryz.ntmps55 rfl fun c => ?_
  repeat' (first | (refine O_ef rfl (Ef_call (I := []) WideF.wide hd ⟨rfl, trivial⟩ rfl ?_); rintro v H' I' hle ⟨⟨n, rfl, h1, h2, h3⟩, rfl, rfl⟩) | refine O_nil ?_ | refine A_seq ?_ | refine A_region ?_ | refine A_ret ?_ | (show opsA _ _ _ _ _ _ _; refine O_ev WideF.wide rfl (Ev_pure rfl) rfl rfl ?_))
  (refine End_p (Ret1 rfl rfl) ?_)
  simp only [h3]
end Go.Proofs.YtnoadopmeoohmaaGreatDoor
