/-
  Expressions, values and bindings as data.
  The law's small: some result. Arities and reserved words of both sides. Printed by genF2.py.
-/
import Derived.Test.YtnoadopmeoohmaaGreatDoorE2
namespace Go.Proofs.YtnoadopmeoohmaaGreatDoor
open Go
set_option linter.unusedVariables false
set_option linter.unusedSimpArgs false
section
inductive Nd where
  | mk (op num : Int) (text : List UInt8) (args : List Nd)
namespace Nd
def op : Nd → Int | .mk o _ _ _ => o
def num : Nd → Int | .mk _ n _ _ => n
def text : Nd → List UInt8 | .mk _ _ t _ => t
def args : Nd → List Nd | .mk _ _ _ l => l
end Nd
mutual
def Nd.mass : Nd → Nat
  | .mk _ _ t l => 1 + t.length + massN l
def massN : List Nd → Nat
  | [] => 0
  | x :: l => x.mass + massN l
end
noncomputable instance : DecidableEq Nd := fun a b => Classical.propDecidable (a = b)
structure Val where
  kind : Int
  num : Int
  text : List UInt8
  deriving DecidableEq
structure Bnd where
  name : List UInt8
  val : Val
  deriving DecidableEq
def vlrow (v : Val) : List Value := [.int .i64 v.kind, .int .i64 v.num, sv v.text]
def bdrow (b : Bnd) : List Value := [sv b.name, .int .i64 b.val.kind, .int .i64 b.val.num, sv b.val.text]
theorem vlrow_one (l : List Val) : ∀ cs ∈ l.map vlrow, ∀ u ∈ cs, u.oneCell' = true := by
  intro cs hcs u hu
  obtain ⟨p, _, rfl⟩ := List.mem_map.1 hcs
  simp [vlrow] at hu
  rcases hu with rfl | rfl | rfl <;> rfl
theorem bdrow_one (l : List Bnd) : ∀ cs ∈ l.map bdrow, ∀ u ∈ cs, u.oneCell' = true := by
  intro cs hcs u hu
  obtain ⟨p, _, rfl⟩ := List.mem_map.1 hcs
  simp [bdrow] at hu
  rcases hu with rfl | rfl | rfl | rfl <;> rfl
mutual
inductive NodeH (H : Hp) : List Value → Nd → Prop where
  | mk {op num : Int} {text : List UInt8} {args : List Nd} {a : Option Addr} {n c : Nat} {css : List (List Value)} (hr : HRow H a n c 4 css) (hs : NodesH H css args) :
    NodeH H [.int .i64 op, .int .i64 num, sv text, .slice a n c] (.mk op num text args)
inductive NodesH (H : Hp) : List (List Value) → List Nd → Prop where
  | nil : NodesH H [] []
  | cons {cs : List Value} {x : Nd} {css : List (List Value)} {l : List Nd} (h : NodeH H cs x) (t : NodesH H css l) : NodesH H (cs :: css) (x :: l)
end
mutual
theorem NodeH.mono {H H' : Hp} (hl : HLe H H') {cs : List Value} {x : Nd} : NodeH H cs x → NodeH H' cs x
  | .mk hr hs => .mk (hr.mono hl) (hs.mono hl)
theorem NodesH.mono {H H' : Hp} (hl : HLe H H') {css : List (List Value)} {l : List Nd} : NodesH H css l → NodesH H' css l
  | .nil => .nil
  | .cons h t => .cons (h.mono hl) (t.mono hl)
end
theorem NodesH.all {H : Hp} {css : List (List Value)} {l : List Nd} (h : NodesH H css l) : All2 (NodeH H) css l := by
  induction l generalizing css with
  | nil => cases h; exact .nil
  | cons x l ih => cases h with | cons h t => exact .cons h (ih t)
theorem NodesH.of {H : Hp} {css : List (List Value)} {l : List Nd} (h : All2 (NodeH H) css l) : NodesH H css l := by
  induction h with
  | nil => exact .nil
  | cons h t ih => exact .cons h ih
abbrev NodesS (H : Hp) := SlH (α := Nd) H NodeH 4
theorem NodesS.mono {H H' : Hp} (hl : HLe H H') {a : Option Addr} {n c : Nat} {l : List Nd} (h : NodesS H a n c l) : NodesS H' a n c l := by
  obtain ⟨css, h1, h2⟩ := h.ex; exact ⟨css, h1.mono hl, h2.mono fun _ _ h => h.mono hl⟩
theorem NodesS.nil (H : Hp) : NodesS H none 0 0 [] := ⟨[], HRow.nil' H 4, .nil⟩
theorem NodeH.cells {H : Hp} {cs : List Value} {x : Nd} (h : NodeH H cs x) : ∃ (a : Option Addr) (n c : Nat), cs = [.int .i64 x.op, .int .i64 x.num, sv x.text, .slice a n c] ∧ NodesS H a n c x.args := by
  cases h with
  | mk hr hs => exact ⟨_, _, _, rfl, ⟨_, hr, hs.all⟩⟩
theorem NodeH.of {H : Hp} {x : Nd} {a : Option Addr} {n c : Nat} (h : NodesS H a n c x.args) : NodeH H [.int .i64 x.op, .int .i64 x.num, sv x.text, .slice a n c] x := by
  obtain ⟨op, num, text, args⟩ := x
  obtain ⟨css, h1, h2⟩ := h.ex
  exact NodeH.mk h1 (NodesH.of h2)
theorem NodeH.one {H : Hp} {cs : List Value} {x : Nd} (h : NodeH H cs x) : ∀ u ∈ cs, u.oneCell' = true := by
  obtain ⟨a, n, c, rfl, _⟩ := h.cells
  intro u hu
  simp at hu
  rcases hu with rfl | rfl | rfl | rfl <;> rfl
theorem Nd.mass_eq (x : Nd) : x.mass = 1 + x.text.length + massN x.args := by obtain ⟨o, n, t, l⟩ := x; simp [Nd.mass, Nd.text, Nd.args]
theorem massN_len : ∀ l : List Nd, l.length ≤ massN l
  | [] => by simp
  | x :: l => by have := massN_len l; have := x.mass_eq; simp only [massN, List.length_cons]; omega
theorem massN_get {l : List Nd} {i : Nat} {x : Nd} (h : l[i]? = some x) : x.mass ≤ massN l := by
  induction l generalizing i with
  | nil => simp at h
  | cons y l ih =>
    cases i with
    | zero => simp at h; subst h; simp only [massN]; omega
    | succ i => simp at h; have := ih h; simp only [massN]; omega
theorem massN_append (a b : List Nd) : massN (a ++ b) = massN a + massN b := by
  induction a with
  | nil => simp [massN]
  | cons x a ih => simp only [List.cons_append, massN, ih]; omega
end
theorem take_getN {α : Type} {l : List α} {i : Nat} {x : α} (h : l[i]? = some x) : l.take (i + 1) = l.take i ++ [x] := by
  rw [List.take_add_one, h]; rfl
def arityN (op : Int) : Int := if op ≤ 4 then 0 else if op = 8 ∨ op = 21 then 1 else 2
def resv (s : List UInt8) : Bool := decide (s = [97, 110, 100]) || decide (s = [111, 114]) || decide (s = [110, 111, 116]) || decide (s = [116, 114, 117, 101]) || decide (s = [102, 97, 108, 115, 101])
attribute [local irreducible] wpA opsA drJ drQ drE Ef Ev Shift Fn

theorem arity_fn {H : Hp} {op : Int} : FnP Tryz.prog 69 [.int .i64 op] H (.int .i64 (arityN op)) := by
  refine Fn_of _ _ Tryz.func69 rfl Tryz.ntmps69 rfl fun c => ?_
  repeat' (first | refine O_nil ?_ | refine A_seq ?_ | refine A_region ?_ | refine A_skip ?_ | refine A_ret ?_ | refine A_block ?_ | (show opsA _ _ _ _ _ _ _; first | (refine O_split rfl rfl (fun h => ?_) (fun h => ?_) <;> try (exfalso; omega)) | refine O_ev WideF.wide rfl (Ev_pure rfl) rfl rfl ?_ | refine O_skip WideF.wide rfl rfl rfl ?_) | (show wpA _ _ _ (.cond _ _ _) _ _ _ _; first | (refine A_if rfl (fun h => ?_) (fun h => ?_) <;> try (exfalso; omega)) | refine A_iftrue rfl ?_))
  all_goals first
    | (exfalso; omega)
    | ((refine End_p (Ret1 rfl rfl) ?_); refine congrArg (Value.int .i64) ?_; unfold arityN; grind)
    | trace_state

theorem arguments_fn {H : Hp} {op : Int} : FnP Tryz.prog 74 [.int .i64 op] H (.int .i64 (arityN op)) := by
  refine Fn_of _ _ Tryz.func74 rfl Tryz.ntmps74 rfl fun c => ?_
  repeat' (first | refine O_nil ?_ | refine A_seq ?_ | refine A_region ?_ | refine A_skip ?_ | refine A_ret ?_ | refine A_block ?_ | (show opsA _ _ _ _ _ _ _; first | (refine O_split rfl rfl (fun h => ?_) (fun h => ?_) <;> try (exfalso; omega)) | refine O_ev WideF.wide rfl (Ev_pure rfl) rfl rfl ?_ | refine O_skip WideF.wide rfl rfl rfl ?_) | (show wpA _ _ _ (.cond _ _ _) _ _ _ _; first | (refine A_if rfl (fun h => ?_) (fun h => ?_) <;> try (exfalso; omega)) | refine A_iftrue rfl ?_))
  all_goals first
    | (exfalso; omega)
    | ((refine End_p (Ret1 rfl rfl) ?_); refine congrArg (Value.int .i64) ?_; unfold arityN; grind)
    | trace_state

theorem reserved_fn {H : Hp} {s : List UInt8} : FnP Tryz.prog 72 [sv s] H (.bool (resv s)) := by
  refine Fn_of _ _ Tryz.func72 rfl Tryz.ntmps72 rfl fun c => ?_
  repeat' (first | refine O_nil ?_ | refine A_seq ?_ | refine A_region ?_ | refine A_ret ?_ | (show opsA _ _ _ _ _ _ _; first | (refine O_split rfl rfl (fun h => ?_) (fun h => ?_) <;> try (exfalso; omega)) | refine O_ev WideF.wide rfl (Ev_pure rfl) rfl rfl ?_ | (show opsA _ _ _ _ (⟨_, .binOp _ _ _ _ _, _, _, _, _⟩ :: _) _ _; refine O_ev WideF.wide rfl (Ev_seql rfl rfl) rfl rfl ?_) | refine O_skip WideF.wide rfl rfl rfl ?_))
  all_goals first
    | (exfalso; omega)
    | ((refine End_p (Ret1 rfl rfl) ?_); refine congrArg Value.bool ?_; unfold resv; simp [*]; done)
    | ((refine End_p (Ret1 rfl rfl) ?_); refine congrArg Value.bool ?_; unfold resv; grind)
    | trace_state

theorem lreserved_fn {H : Hp} {s : List UInt8} : FnP Tryz.prog 77 [sv s] H (.bool (resv s)) := by
  refine Fn_of _ _ Tryz.func77 rfl Tryz.ntmps77 rfl fun c => ?_
  repeat' (first | refine O_nil ?_ | refine A_seq ?_ | refine A_region ?_ | refine A_ret ?_ | (show opsA _ _ _ _ _ _ _; first | (refine O_split rfl rfl (fun h => ?_) (fun h => ?_) <;> try (exfalso; omega)) | refine O_ev WideF.wide rfl (Ev_pure rfl) rfl rfl ?_ | (show opsA _ _ _ _ (⟨_, .binOp _ _ _ _ _, _, _, _, _⟩ :: _) _ _; refine O_ev WideF.wide rfl (Ev_seql rfl rfl) rfl rfl ?_) | refine O_skip WideF.wide rfl rfl rfl ?_))
  all_goals first
    | (exfalso; omega)
    | ((refine End_p (Ret1 rfl rfl) ?_); refine congrArg Value.bool ?_; unfold resv; simp [*]; done)
    | ((refine End_p (Ret1 rfl rfl) ?_); refine congrArg Value.bool ?_; unfold resv; grind)
    | trace_state

def SmallC (N : Nat) : Prop := ∀ (H : Hp) (cs : List Value) (x : Nd) (b : Nat) (z lv : Int), NodeH H cs x → x.mass < N → x.mass < 34359738368 → x.mass - 1099511627776 ≤ z → z ≤ 1000 → 0 ≤ lv → lv ≤ 1000 →
  Fn Tryz.prog 34 [.agg cs.toArray, .int .i64 lv, .pointer (some ⟨b, 0, none⟩)] H [.box b [.int .i64 z]] fun v _ I => ∃ (r : Bool) (z' : Int), v = .bool r ∧ I = [.box b [.int .i64 z']] ∧ z - x.mass ≤ z' ∧ z' ≤ z
set_option maxRecDepth 100000 in
set_option maxHeartbeats 8000000 in
theorem small_step {N : Nat} (hN : SmallC N) : SmallC (N + 1) := by
  intro H cs x b z lv hx hm hm2 hz hz2 hlv hlv2
  have hone := hx.one
  obtain ⟨a, n, cp, rfl, hs⟩ := hx.cells
  have e1 := hs.len
  have e2 := massN_len x.args
  have e3 := x.mass_eq
  refine Fn_of _ _ Tryz.func34 rfl Tryz.ntmps34 rfl fun c => ?_
  repeat' (first | (refine O_ef rfl (Ef_boxa WideF.wide (cs := [.int .i64 x.op, .int .i64 x.num, sv x.text, .slice a n cp]) rfl rfl ?_); intro b3; refine O_freezeBox hone ?_; intro H1 hle1 hb3) | (show opsA _ _ _ _ (⟨some 23, .load _ _, _, _, _, _⟩ :: _) _ _; refine O_ev WideF.wide rfl (Ev_loadH1 rfl (hb3 2 _ rfl)) rfl rfl ?_) | refine O_nil ?_ | refine A_seq ?_ | refine A_region ?_ | refine A_skip ?_ | refine A_ret ?_ | refine A_block ?_ | (show opsA _ _ _ _ _ _ _; first | (refine O_split rfl rfl (fun h => ?_) (fun h => ?_) <;> try (exfalso; omega)) | refine O_ev WideF.wide rfl (Ev_pure rfl) rfl rfl ?_ | (show opsA _ _ _ _ (⟨_, .load _ _, _, _, _, _⟩ :: _) _ _; refine O_ev WideF.wide rfl (Ev_loadB1 (i := 0) rfl rfl rfl) rfl rfl ?_) | (show opsA _ _ _ _ (⟨_, .fieldAddr _ _ _, _, _, _, _⟩ :: _) _ _; refine O_ev WideF.wide rfl (Ev_fieldAddr rfl rfl rfl) rfl rfl ?_) | (show opsA _ _ _ _ (⟨_, .call _, _, _, _, _⟩ :: _) _ _; refine O_ev WideF.wide rfl (Ev_slen rfl) rfl rfl ?_) | (show opsA _ _ _ _ (⟨_, .binOp _ _ _ _ _, _, _, _, _⟩ :: _) _ _; refine O_ev WideF.wide rfl (Ev_sub rfl rfl (wi64 (by omega))) rfl rfl ?_) | (show opsA _ _ _ _ (⟨_, .nilCheck _, _, _, _, _⟩ :: _) _ _; refine O_ev WideF.wide rfl (Ev_nilCheck rfl) rfl rfl ?_) | (show opsA _ _ _ _ (⟨_, .store _ _ _, _, _, _, _⟩ :: _) _ _; refine O_ef rfl (Ef_store1 WideF.wide rfl rfl rfl rfl rfl ?_)) | refine O_skip WideF.wide rfl rfl rfl ?_) | (show wpA _ _ _ (.cond _ _ _) _ _ _ _; first | (refine A_if rfl (fun h => ?_) (fun h => ?_) <;> try (exfalso; omega)) | refine A_iftrue rfl ?_))
  all_goals first
    | (exfalso; omega)
    | exact End_m (Ret1 rfl rfl) ⟨_, _, rfl, rfl, by omega, by omega⟩
    | skip
  refine A_loopu (fun q s => ∃ (i : Nat) (H2 : Hp) (zi : Int), q = n - i ∧ i ≤ n ∧ HLe H1 H2 ∧ z - 1 - massN (x.args.take i) ≤ zi ∧ zi ≤ z - 1 ∧ s = ⟨44, [(1, .int .i64 lv), (2, .pointer (some ⟨b, 0, none⟩)), (3, .pointer (some ⟨b3, 0, none⟩)), (7, .int .i64 i)], H2, [.box b [.int .i64 zi]], [], []⟩) ?_ ?_
  · exact Shift.to ⟨_, 0, H1, z - 1, rfl, by omega, HLe.refl _, by simp [massN], Int.le_refl _, rfl⟩ ⟨rfl, rfl, rfl, ⟨rfl, rfl, rfl, rfl, trivial⟩, Own.subi [0] (by decide) rfl rfl⟩
  rintro q s ⟨i, H2, zi, rfl, hi, hle2, hzi, hzi2, rfl⟩
  have hb := hb3.mono hle2
  by_cases hlt : i < n
  · obtain ⟨bb, bo, rcs, y, rfl, hy, hyc, hyk, hc⟩ := (NodesS.mono (hle1.trans hle2) hs).at i hlt
    have hmy := massN_get hy
    have hsn : massN (x.args.take (i + 1)) = massN (x.args.take i) + y.mass := by rw [take_getN hy, massN_append]; simp [massN]
    have hto : massN (x.args.take (i + 1)) ≤ massN x.args := by
      have h9 := massN_append (x.args.take (i + 1)) (x.args.drop (i + 1))
      rw [List.take_append_drop] at h9
      omega
    obtain ⟨ya, yn, yc, rfl, -⟩ := hyc.cells
    have hcall := fun (h : ¬ lv = 0) => hN H2 _ y b zi (lv - 1) hyc (by omega) (by omega) (by omega) (by omega) (by omega) (by omega)
    repeat' (first | (refine O_ev WideF.wide rfl (Ev_loadH1 rfl (hb 3 _ rfl)) rfl rfl ?_) | (refine O_ev WideF.wide rfl (Ev_loadH rfl hc rfl) rfl rfl ?_) | (refine O_ef rfl (Ef_call (I := [_]) WideF.wide (hcall (by omega)) ⟨rfl, rfl, rfl, trivial⟩ rfl ?_); rintro v H3 I3 hle3 ⟨r, z3, rfl, rfl, hz31, hz33⟩; cases r) | refine O_nil ?_ | refine A_seq ?_ | refine A_region ?_ | refine A_skip ?_ | refine A_ret ?_ | refine A_block ?_ | (show opsA _ _ _ _ _ _ _; first | refine O_ev WideF.wide rfl (Ev_pure rfl) rfl rfl ?_ | (show opsA _ _ _ _ (⟨_, .indexAddr _ _ _, _, _, _, _⟩ :: _) _ _; refine O_ev WideF.wide rfl (Ev_indexAddr rfl rfl (by omega) (by omega)) rfl rfl ?_) | (show opsA _ _ _ _ (⟨_, .fieldAddr _ _ _, _, _, _, _⟩ :: _) _ _; refine O_ev WideF.wide rfl (Ev_fieldAddr rfl rfl rfl) rfl rfl ?_) | (show opsA _ _ _ _ (⟨_, .call _, _, _, _, _⟩ :: _) _ _; refine O_ev WideF.wide rfl (Ev_llen rfl) rfl rfl ?_) | (show opsA _ _ _ _ (⟨_, .binOp _ _ _ _ _, _, _, _, _⟩ :: _) _ _; first | refine O_ev WideF.wide rfl (Ev_add rfl rfl (wi64 (by omega))) rfl rfl ?_ | refine O_ev WideF.wide rfl (Ev_sub rfl rfl (wi64 (by omega))) rfl rfl ?_) | (show opsA _ _ _ _ (⟨_, .unOp _ _ _, _, _, _, _⟩ :: _) _ _; refine O_ev WideF.wide rfl (Ev_notb rfl) rfl rfl ?_)) | (show wpA _ _ _ (.cond _ _ _) _ _ _ _; first | (refine A_if rfl (fun h => ?_) (fun h => ?_) <;> try (exfalso; omega)) | refine A_iftrue rfl ?_ | refine A_iffalse rfl ?_))
    all_goals first
      | (exfalso; omega)
      | exact End_m (Ret1 rfl rfl) ⟨_, _, rfl, rfl, by omega, by omega⟩
      | exact Shift.to ⟨_, by omega, i + 1, H3, z3, rfl, by omega, hle2.trans hle3, by omega, by omega, rfl⟩ ⟨rfl, rfl, rfl, ⟨rfl, rfl, rfl, rfl, trivial⟩, Own.subi [0] (by decide) rfl rfl⟩
      | trace_state
  · obtain rfl : n = i := by omega
    rw [List.take_of_length_le (by omega)] at hzi
    repeat' (first | (refine O_ev WideF.wide rfl (Ev_loadH1 rfl (hb 3 _ rfl)) rfl rfl ?_) | refine O_nil ?_ | refine A_seq ?_ | refine A_region ?_ | refine A_ret ?_ | (show opsA _ _ _ _ _ _ _; first | refine O_ev WideF.wide rfl (Ev_pure rfl) rfl rfl ?_ | (show opsA _ _ _ _ (⟨_, .fieldAddr _ _ _, _, _, _, _⟩ :: _) _ _; refine O_ev WideF.wide rfl (Ev_fieldAddr rfl rfl rfl) rfl rfl ?_) | (show opsA _ _ _ _ (⟨_, .call _, _, _, _, _⟩ :: _) _ _; refine O_ev WideF.wide rfl (Ev_llen rfl) rfl rfl ?_)) | (show wpA _ _ _ (.exit _) _ _ _ _; refine A_exit rfl ?_) | (show wpA _ _ _ (.cond _ _ _) _ _ _ _; (refine A_if rfl (fun h => ?_) (fun h => ?_) <;> try (exfalso; omega))))
    all_goals first
      | (exfalso; omega)
      | exact End_m (Ret1 rfl rfl) ⟨_, _, rfl, rfl, by omega, by omega⟩
      | trace_state
theorem small_all : ∀ N, SmallC N
  | 0 => fun H _ x _ _ _ _ h => absurd h (by omega)
  | N + 1 => small_step (small_all N)
set_option maxRecDepth 100000 in
theorem lsmall_fn {H : Hp} {cs : List Value} {x : Nd} (hx : NodeH H cs x) (hm : x.mass < 34359738368) : Fn Tryz.prog 13 [.agg cs.toArray] H [] fun v _ I => (∃ r : Bool, v = .bool r) ∧ I = [] := by
  have hone := hx.one
  have hcall := fun Hx (h : HLe H Hx) b => small_all (x.mass + 1) Hx cs x b 300 60 (hx.mono h) (by omega) hm (by omega) (by decide) (by decide) (by decide)
  obtain ⟨a, n, cp, rfl, hs⟩ := hx.cells
  refine Fn_of _ _ Tryz.func13 rfl Tryz.ntmps13 rfl fun c => ?_
  repeat' (first | (refine O_ef rfl (Ef_boxa WideF.wide (cs := [.int .i64 x.op, .int .i64 x.num, sv x.text, .slice a n cp]) rfl rfl ?_); intro b1; refine O_freezeBox hone ?_; intro H1 hle1 hb1) | (refine O_ev WideF.wide rfl (Ev_loadH rfl hb1 rfl) rfl rfl ?_) | (refine O_ef rfl (Ef_call (I := [_]) WideF.wide (hcall _ hle1 _) ⟨rfl, rfl, rfl, trivial⟩ rfl ?_); rintro v H5 I5 hle5 ⟨r, z5, rfl, rfl, hz51, hz52⟩) | refine O_nil ?_ | refine A_seq ?_ | refine A_region ?_ | refine A_ret ?_ | (show opsA _ _ _ _ _ _ _; first | refine O_ev WideF.wide rfl (Ev_pure rfl) rfl rfl ?_ | (show opsA _ _ _ _ (⟨_, .alloc _, _, _, _, _⟩ :: _) _ _; (refine O_ef rfl (Ef_alloc WideF.wide rfl ?_); intro b)) | (show opsA _ _ _ _ (⟨_, .store _ _ _, _, _, _, _⟩ :: _) _ _; refine O_ef rfl (Ef_store1 WideF.wide rfl rfl rfl rfl rfl ?_))))
  exact End_e (Ret1 rfl rfl) ⟨⟨_, rfl⟩, rfl⟩
end Go.Proofs.YtnoadopmeoohmaaGreatDoor
