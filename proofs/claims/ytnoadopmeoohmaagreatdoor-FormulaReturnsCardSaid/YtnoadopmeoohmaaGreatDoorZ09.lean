import Derived.Test.YtnoadopmeoohmaaGreatDoorZ08
import Derived.Lib.Bytealg
import Derived.Lib.Replace
import Derived.Test.YtnoadopmeoohmaaGreatDoorZ07
/-
  Small functions on values, of both sides. Printed by genF4.py.
  The law's fine: some result. Printed by genF5.py.
-/
namespace Go.Proofs.YtnoadopmeoohmaaGreatDoor
open Go
set_option linter.unusedVariables false
set_option linter.unusedSimpArgs false
section
def zV : Val := ⟨0, 0, []⟩
def numV (n : Int) : Val := ⟨1, n, []⟩
def txtV (s : List UInt8) : Val := ⟨2, 0, s⟩
def booV (b : Bool) : Val := ⟨3, if b then 1 else 0, []⟩
/-- a value, or the error if it is out of range -/
def chkV (v : Val) : Val × Int := if v.kind = 1 ∧ (v.num < -1099511627776 ∨ 1099511627776 < v.num) then (zV, 29) else if v.kind = 2 ∧ 1024 < v.text.length then (zV, 10) else (v, 0)
abbrev rV (v : Val) : Value := .agg (vlrow v).toArray
abbrev rVE (p : Val × Int) : Value := .tuple [rV p.1, .int .i64 p.2].toArray
attribute [local irreducible] wpA opsA drJ drQ drE Ef Ev Shift Fn
set_option maxRecDepth 100000 in
theorem boolean_t {H : Hp} {x : Unit} : Fn Tryz.prog 60 [.bool true] H [] fun v _ I => v = rV (booV true) ∧ I = [] := by
  refine Fn_of _ _ Tryz.func60 rfl Tryz.ntmps60 rfl fun c => ?_
  repeat' (first | refine O_nil ?_ | refine A_seq ?_ | refine A_region ?_ | refine A_ret ?_ | (show opsA _ _ _ _ _ _ _; first | refine O_ev WideF.wide rfl (Ev_pure rfl) rfl rfl ?_ | (show opsA _ _ _ _ (⟨_, .load _ _, _, _, _, _⟩ :: _) _ _; refine O_ev WideF.wide rfl (Ev_loadB (i := 0) rfl rfl rfl) rfl rfl ?_) | (show opsA _ _ _ _ (⟨_, .fieldAddr _ _ _, _, _, _, _⟩ :: _) _ _; refine O_ev WideF.wide rfl (Ev_fieldAddr rfl rfl rfl) rfl rfl ?_) | (show opsA _ _ _ _ (⟨_, .build _ _, _, _, _, _⟩ :: _) _ _; refine O_ev WideF.wide rfl (Ev_build (vs := [(_, _)]) ⟨rfl, rfl, trivial⟩ rfl) rfl rfl ?_) | (show opsA _ _ _ _ (⟨_, .alloc _, _, _, _, _⟩ :: _) _ _; (refine O_ef rfl (Ef_alloc WideF.wide rfl ?_); intro b)) | (show opsA _ _ _ _ (⟨_, .store _ _ _, _, _, _, _⟩ :: _) _ _; first | refine O_ef rfl (Ef_storew WideF.wide rfl rfl rfl rfl rfl ?_) | refine O_ef rfl (Ef_store1 WideF.wide rfl rfl rfl rfl rfl ?_) | refine O_f1 (O_ef rfl (Ef_storew WideF.wide rfl rfl rfl rfl rfl ?_)))) | (show wpA _ _ _ (.cond _ _ _) _ _ _ _; refine A_iftrue rfl ?_))
  all_goals first
    | (exfalso; omega)
    | exact End_e (RetC rfl rfl (i := 0) rfl rfl) ⟨rfl, rfl⟩
    | trace_state
set_option maxRecDepth 100000 in
theorem boolean_f {H : Hp} {x : Unit} : Fn Tryz.prog 60 [.bool false] H [] fun v _ I => v = rV (booV false) ∧ I = [] := by
  refine Fn_of _ _ Tryz.func60 rfl Tryz.ntmps60 rfl fun c => ?_
  repeat' (first | refine O_nil ?_ | refine A_seq ?_ | refine A_region ?_ | refine A_skip ?_ | refine A_ret ?_ | (show opsA _ _ _ _ _ _ _; first | refine O_ev WideF.wide rfl (Ev_pure rfl) rfl rfl ?_ | (show opsA _ _ _ _ (⟨_, .load _ _, _, _, _, _⟩ :: _) _ _; refine O_ev WideF.wide rfl (Ev_loadB (i := 0) rfl rfl rfl) rfl rfl ?_) | (show opsA _ _ _ _ (⟨_, .build _ _, _, _, _, _⟩ :: _) _ _; refine O_ev WideF.wide rfl (Ev_build (vs := [(_, _)]) ⟨rfl, rfl, trivial⟩ rfl) rfl rfl ?_) | (show opsA _ _ _ _ (⟨_, .alloc _, _, _, _, _⟩ :: _) _ _; (refine O_ef rfl (Ef_alloc WideF.wide rfl ?_); intro b)) | (show opsA _ _ _ _ (⟨_, .store _ _ _, _, _, _, _⟩ :: _) _ _; first | refine O_ef rfl (Ef_storew WideF.wide rfl rfl rfl rfl rfl ?_) | refine O_f1 (O_ef rfl (Ef_storew WideF.wide rfl rfl rfl rfl rfl ?_)))) | (show wpA _ _ _ (.cond _ _ _) _ _ _ _; refine A_iffalse rfl ?_))
  all_goals first
    | (exfalso; omega)
    | exact End_e (RetC rfl rfl (i := 0) rfl rfl) ⟨rfl, rfl⟩
    | trace_state
set_option maxRecDepth 100000 in
theorem text_fn {H : Hp} {s : List UInt8} : Fn Tryz.prog 62 [sv s] H [] fun v _ I => v = rV (txtV s) ∧ I = [] := by
  refine Fn_of _ _ Tryz.func62 rfl Tryz.ntmps62 rfl fun c => ?_
  repeat' (first | refine O_nil ?_ | refine A_seq ?_ | refine A_region ?_ | refine A_ret ?_ | (show opsA _ _ _ _ _ _ _; first | refine O_ev WideF.wide rfl (Ev_pure rfl) rfl rfl ?_ | (show opsA _ _ _ _ (⟨_, .build _ _, _, _, _, _⟩ :: _) _ _; refine O_ev WideF.wide rfl (Ev_build (vs := [(_, _), (_, _)]) ⟨rfl, rfl, rfl, rfl, trivial⟩ rfl) rfl rfl ?_) | (show opsA _ _ _ _ (⟨_, .alloc _, _, _, _, _⟩ :: _) _ _; (refine O_ef rfl (Ef_alloc WideF.wide rfl ?_); intro b)) | (show opsA _ _ _ _ (⟨_, .store _ _ _, _, _, _, _⟩ :: _) _ _; refine O_ef rfl (Ef_storew WideF.wide rfl rfl rfl rfl rfl ?_))))
  all_goals first
    | (exfalso; omega)
    | exact End_e (RetC rfl rfl (i := 0) rfl rfl) ⟨rfl, rfl⟩
    | trace_state
set_option maxRecDepth 100000 in
theorem number_fn {H : Hp} {n : Int} : Fn Tryz.prog 106 [.int .i64 n] H [] fun v _ I => v = rV (numV n) ∧ I = [] := by
  refine Fn_of _ _ Tryz.func106 rfl Tryz.ntmps106 rfl fun c => ?_
  repeat' (first | refine O_nil ?_ | refine A_seq ?_ | refine A_region ?_ | refine A_ret ?_ | (show opsA _ _ _ _ _ _ _; first | refine O_ev WideF.wide rfl (Ev_pure rfl) rfl rfl ?_ | (show opsA _ _ _ _ (⟨_, .build _ _, _, _, _, _⟩ :: _) _ _; refine O_ev WideF.wide rfl (Ev_build (vs := [(_, _), (_, _)]) ⟨rfl, rfl, rfl, rfl, trivial⟩ rfl) rfl rfl ?_) | (show opsA _ _ _ _ (⟨_, .alloc _, _, _, _, _⟩ :: _) _ _; (refine O_ef rfl (Ef_alloc WideF.wide rfl ?_); intro b)) | (show opsA _ _ _ _ (⟨_, .store _ _ _, _, _, _, _⟩ :: _) _ _; refine O_ef rfl (Ef_storew WideF.wide rfl rfl rfl rfl rfl ?_))))
  all_goals first
    | (exfalso; omega)
    | exact End_e (RetC rfl rfl (i := 0) rfl rfl) ⟨rfl, rfl⟩
    | trace_state
set_option maxRecDepth 100000 in
theorem checked_fn {H : Hp} {x : Val} (hl : x.text.length < 4611686018427387904) : Fn Tryz.prog 123 [rV x] H [] fun v _ I => v = rVE (chkV x) ∧ I = [] := by
  obtain ⟨k, n, s⟩ := x
  dsimp only at hl
  have h1 : k = 1 ∧ (n < -1099511627776 ∨ 1099511627776 < n) → chkV ⟨k, n, s⟩ = (zV, 29) := fun h => if_pos h
  have h2 : ¬ (k = 1 ∧ (n < -1099511627776 ∨ 1099511627776 < n)) → k = 2 ∧ 1024 < s.length → chkV ⟨k, n, s⟩ = (zV, 10) := fun h h' => (if_neg h).trans (if_pos h')
  have h3 : ¬ (k = 1 ∧ (n < -1099511627776 ∨ 1099511627776 < n)) → ¬ (k = 2 ∧ 1024 < s.length) → chkV ⟨k, n, s⟩ = (⟨k, n, s⟩, 0) := fun h h' => (if_neg h).trans (if_neg h')
  refine Fn_of _ _ Tryz.func123 rfl Tryz.ntmps123 rfl fun c => ?_
  repeat' (first | (refine O_ef rfl (Ef_boxa WideF.wide (cs := [.int .i64 k, .int .i64 n, sv s]) rfl rfl ?_); intro b1) | refine O_nil ?_ | refine A_seq ?_ | refine A_region ?_ | refine A_skip ?_ | refine A_ret ?_ | refine A_block ?_ | (show opsA _ _ _ _ _ _ _; first | (refine O_split rfl rfl (fun h => ?_) (fun h => ?_) <;> try (exfalso; omega)) | refine O_ev WideF.wide rfl (Ev_pure rfl) rfl rfl ?_ | (show opsA _ _ _ _ (⟨_, .load _ _, _, _, _, _⟩ :: _) _ _; first | refine O_ev WideF.wide rfl (Ev_loadB1 (i := 1) rfl rfl rfl) rfl rfl ?_ | refine O_ev WideF.wide rfl (Ev_loadB (i := 1) rfl rfl rfl) rfl rfl ?_) | (show opsA _ _ _ _ (⟨_, .fieldAddr _ _ _, _, _, _, _⟩ :: _) _ _; refine O_ev WideF.wide rfl (Ev_fieldAddr rfl rfl rfl) rfl rfl ?_) | (show opsA _ _ _ _ (⟨_, .call _, _, _, _, _⟩ :: _) _ _; refine O_ev WideF.wide rfl (Ev_slen rfl) rfl rfl ?_) | (show opsA _ _ _ _ (⟨_, .build _ _, _, _, _, _⟩ :: _) _ _; refine O_ev WideF.wide rfl (Ev_build (vs := []) trivial rfl) rfl rfl ?_) | (show opsA _ _ _ _ (⟨_, .alloc _, _, _, _, _⟩ :: _) _ _; (refine O_ef rfl (Ef_alloc WideF.wide rfl ?_); intro b)) | (show opsA _ _ _ _ (⟨_, .store _ _ _, _, _, _, _⟩ :: _) _ _; refine O_ef rfl (Ef_storew WideF.wide rfl rfl rfl rfl rfl ?_)) | refine O_skip WideF.wide rfl rfl rfl ?_) | (show wpA _ _ _ (.cond _ _ _) _ _ _ _; first | (refine A_if rfl (fun h => ?_) (fun h => ?_) <;> try (exfalso; omega)) | refine A_iftrue rfl ?_ | refine A_iffalse rfl ?_))
  all_goals first
    | (exfalso; omega)
    | (rw [h1 (by omega)]; exact End_e (RetC2 (i := 0) rfl rfl rfl rfl rfl) ⟨rfl, rfl⟩)
    | (rw [h2 (by omega) (by omega)]; exact End_e (RetC2 (i := 0) rfl rfl rfl rfl rfl) ⟨rfl, rfl⟩)
    | (rw [h3 (by omega) (by omega)]; exact End_e (RetC2 (i := 0) rfl rfl rfl rfl rfl) ⟨rfl, rfl⟩)
    | (rw [h1 (by omega)]; exact End_e (RetC2 (i := 1) rfl rfl rfl rfl rfl) ⟨rfl, rfl⟩)
    | (rw [h2 (by omega) (by omega)]; exact End_e (RetC2 (i := 1) rfl rfl rfl rfl rfl) ⟨rfl, rfl⟩)
    | (rw [h3 (by omega) (by omega)]; exact End_e (RetC2 (i := 1) rfl rfl rfl rfl rfl) ⟨rfl, rfl⟩)
    | trace_state
end
attribute [local irreducible] wpA opsA drJ drQ drE Ef Ev Shift Fn
end Go.Proofs.YtnoadopmeoohmaaGreatDoor
/-
  The language as data: tokens, the parser, checks, values, texts (plain Lean, no program in sight).
-/
namespace Go.Proofs.YtnoadopmeoohmaaGreatDoor
open Go
set_option linter.unusedVariables false
set_option linter.unusedSimpArgs false
/-! ### tokens -/
structure Tok where
  kind : List UInt8
  text : List UInt8
  pos : Nat
  deriving DecidableEq
def isSp (b : UInt8) : Bool := b == 32 || b == 9
def isDg (b : UInt8) : Bool := Nat.ble 48 b.toNat && Nat.ble b.toNat 57
def isLt (b : UInt8) : Bool := (Nat.ble 97 b.toNat && Nat.ble b.toNat 122) || (Nat.ble 65 b.toNat && Nat.ble b.toNat 90)
def isWd (b : UInt8) : Bool := isLt b || isDg b || b == 95
def isCt (b : UInt8) : Bool := Nat.blt b.toNat 32 || b == 127
def qlen : List UInt8 → Option Nat
  | [] => none
  | c :: r => if c = 34 then (match r with | c2 :: r2 => if c2 = 34 then (qlen r2).map (· + 2) else some 1 | [] => some 1) else (qlen r).map (· + 1)
def opsL : List (List UInt8) := [[60, 62], [60, 61], [62, 61], [61], [60], [62], [43], [45], [38], [42], [47], [37], [40], [41], [44]]
def fops (l : List UInt8) : Option (List UInt8) := opsL.find? fun o => o.isPrefixOf l
def tokAt (s : List UInt8) (q : Nat) : Tok :=
  match s.drop q with
  | [] => ⟨[46], [], q⟩
  | c :: r =>
    if isDg c then (if 1 < ((c :: r).takeWhile isDg).length ∧ c = 48 then ⟨[33], (c :: r).takeWhile isDg, q⟩ else ⟨[110], (c :: r).takeWhile isDg, q⟩)
    else if isLt c then (if resv ((c :: r).takeWhile isWd) then ⟨(c :: r).takeWhile isWd, (c :: r).takeWhile isWd, q⟩ else ⟨[105], (c :: r).takeWhile isWd, q⟩)
    else if c = 34 then (match qlen r with
      | none => ⟨[33], c :: r, q⟩
      | some n => if ((c :: r).take (n + 1)).any isCt then ⟨[33], (c :: r).take (n + 1), q⟩ else ⟨[115], (c :: r).take (n + 1), q⟩)
    else match fops (c :: r) with
      | some o => ⟨o, o, q⟩
      | none => ⟨[33], [], q⟩
def scn (s : List UInt8) (p : Nat) : Tok := tokAt s (p + ((s.drop p).takeWhile isSp).length)
def nxt (s : List UInt8) (t : Tok) : Tok := scn s (t.pos + t.text.length)
/-! ### the parser -/
inductive PR where
  | no
  | err (e : Int) (pos : Nat)
  | ok (nd : Nd) (t : Tok)
inductive PL where
  | no
  | err (e : Int) (pos : Nat)
  | ok (l : List Nd) (t : Tok)
def opAt (lv : Nat) (k : List UInt8) : Option Int :=
  match lv with
  | 1 => if k = [111, 114] then some 6 else none
  | 2 => if k = [97, 110, 100] then some 7 else none
  | 4 => if k = [61] then some 9 else if k = [60, 62] then some 10 else if k = [60] then some 11 else if k = [60, 61] then some 12 else if k = [62] then some 13 else if k = [62, 61] then some 14 else none
  | 5 => if k = [43] then some 15 else if k = [45] then some 16 else if k = [38] then some 17 else none
  | 6 => if k = [42] then some 18 else if k = [47] then some 19 else if k = [37] then some 20 else none
  | _ => none
def dval : List UInt8 → Nat → Nat
  | [], n => n
  | c :: r, n => dval r (n * 10 + (c.toNat - 48))
/-- the number that digits denote, and the error -/
def digR (s : List UInt8) : Int × Int :=
  if s = [] ∨ s.any (fun b => !isDg b) = true ∨ (1 < s.length ∧ s.head? = some 48) then (0, 14) else if 1099511627776 < dval s 0 then (0, 29) else ((dval s 0 : Nat), 0)
mutual
def prs (s : List UInt8) : Nat → Nat → Tok → PR
  | 0, _, _ => .no
  | k + 1, lv, t =>
    match lv with
    | 1 => match prs s k 2 t with | .ok n t' => lop s k 1 n t' | r => r
    | 2 => match prs s k 3 t with | .ok n t' => lop s k 2 n t' | r => r
    | 3 => if t.kind = [110, 111, 116] then (match prs s k 3 (nxt s t) with | .ok n t' => .ok (.mk 8 0 [] [n]) t' | r => r) else prs s k 4 t
    | 4 => match prs s k 5 t with
      | .ok n t' => (match opAt 4 t'.kind with | none => .ok n t' | some op => match prs s k 5 (nxt s t') with | .ok m t2 => .ok (.mk op 0 [] [n, m]) t2 | r => r)
      | r => r
    | 5 => match prs s k 6 t with | .ok n t' => lop s k 5 n t' | r => r
    | 6 => match prs s k 7 t with | .ok n t' => lop s k 6 n t' | r => r
    | 7 => if t.kind = [45] then (match prs s k 7 (nxt s t) with | .ok n t' => .ok (.mk 21 0 [] [n]) t' | r => r) else prs s k 8 t
    | _ =>
      if t.kind = [110] then (if (digR t.text).2 = 0 then .ok (.mk 1 (digR t.text).1 [] []) (nxt s t) else .err (digR t.text).2 t.pos)
      else if t.kind = [115] then .ok (.mk 2 0 (Lib.replaceAll ((t.text.take (t.text.length - 1)).drop 1) [34, 34] [34]) []) (nxt s t)
      else if t.kind = [116, 114, 117, 101] then .ok (.mk 3 1 [] []) (nxt s t)
      else if t.kind = [102, 97, 108, 115, 101] then .ok (.mk 3 0 [] []) (nxt s t)
      else if t.kind = [105] then
        (if 40 < t.text.length then .err 13 t.pos
        else if (nxt s t).kind = [40] then (match arg s k (nxt s (nxt s t)) with | .ok l t' => .ok (.mk 5 0 t.text l) t' | .err e p => .err e p | .no => .no)
        else .ok (.mk 4 0 t.text []) (nxt s t))
      else if t.kind = [40] then (match prs s k 1 (nxt s t) with | .ok n t' => (if t'.kind = [41] then .ok n (nxt s t') else .err 14 t'.pos) | r => r)
      else .err 14 t.pos
def lop (s : List UInt8) : Nat → Nat → Nd → Tok → PR
  | 0, _, _, _ => .no
  | k + 1, lv, n, t => match opAt lv t.kind with
    | none => .ok n t
    | some op => match prs s k (lv + 1) (nxt s t) with | .ok m t' => lop s k lv (.mk op 0 [] [n, m]) t' | r => r
def arg (s : List UInt8) : Nat → Tok → PL
  | 0, _ => .no
  | k + 1, t => if t.kind = [41] then .ok [] (nxt s t) else match prs s k 1 t with | .ok n t' => agl s k [n] t' | .err e p => .err e p | .no => .no
def agl (s : List UInt8) : Nat → List Nd → Tok → PL
  | 0, _, _ => .no
  | k + 1, l, t => if t.kind = [44] then (match prs s k 1 (nxt s t) with | .ok n t' => agl s k (l ++ [n]) t' | .err e p => .err e p | .no => .no) else if t.kind = [41] then .ok l (nxt s t) else .err 14 t.pos
end
/-! ### checks -/
def fnArg (s : List UInt8) : Option (Int × Int) :=
  if s = [109, 105, 110] ∨ s = [109, 97, 120] then some (1, 256) else if s = [115, 117, 109] then some (0, 256) else
  if s = [97, 98, 115] ∨ s = [108, 101, 110] ∨ s = [117, 112, 112, 101, 114] ∨ s = [108, 111, 119, 101, 114] ∨ s = [116, 101, 120, 116] ∨ s = [110, 117, 109, 98, 101, 114] then some (1, 1) else
  if s = [105, 102] then some (3, 3) else none
noncomputable def chkT (op num : Int) (text : List UInt8) (nargs : Int) : Int :=
  if op < 1 ∨ 21 < op then 3
  else if (¬ (op = 1 ∨ op = 3) ∧ num ≠ 0) ∨ (¬ (op = 2 ∨ op = 4 ∨ op = 5) ∧ text ≠ []) ∨ (op ≠ 5 ∧ nargs ≠ arityN op) then 15
  else if op = 1 then (if num < 0 ∨ 1099511627776 < num then 2 else 0)
  else if op = 3 then (if num < 0 ∨ 1 < num then 2 else 0)
  else if op = 2 then (if ¬ valid text then 12 else if ctl text then 5 else if 1024 < text.length then 10 else 0)
  else if op = 4 then (if ¬ idt text ∨ resv text = true ∨ 40 < text.length then 13 else 0)
  else if op = 5 then (match fnArg text with | none => 30 | some (a, b) => if nargs < a ∨ b < nargs then 15 else 0)
  else 0
noncomputable def chkN (x : Nd) : Int := chkT x.op x.num x.text x.args.length
mutual
noncomputable def vis : Nd → Int → Int → Int × Int
  | .mk op num text args, v, lv => if 256 ≤ v then (9, v) else if 32 < lv then (17, v) else if chkT op num text args.length ≠ 0 then (chkT op num text args.length, v + 1) else visL args (v + 1) (lv + 1)
noncomputable def visL : List Nd → Int → Int → Int × Int
  | [], v, _ => (0, v)
  | x :: l, v, lv => if (vis x v lv).1 = 0 then visL l (vis x v lv).2 lv else vis x v lv
end
noncomputable def chkE (x : Nd) : Int := (vis x 0 1).1
/-! ### values -/
abbrev w64 (n : Int) : Int := IntKind.i64.wrap n
def allK (l : List Val) (k : Int) : Bool := l.all fun v => v.kind == k
def cond1 (p : Val × Int) : Bool × Int := (decide (p.1.num = 1), if p.2 = 0 ∧ p.1.kind ≠ 3 then 3 else p.2)
def lzyV (op : Int) (rs : List (Val × Int)) : Val × Int :=
  if (cond1 (rs.getD 0 (zV, 0))).2 ≠ 0 then (zV, (cond1 (rs.getD 0 (zV, 0))).2)
  else if op = 5 then (if (cond1 (rs.getD 0 (zV, 0))).1 then rs.getD 1 (zV, 0) else rs.getD 2 (zV, 0))
  else if (cond1 (rs.getD 0 (zV, 0))).1 = decide (op = 6) then (booV (cond1 (rs.getD 0 (zV, 0))).1, 0)
  else if (cond1 (rs.getD 1 (zV, 0))).2 ≠ 0 then (zV, (cond1 (rs.getD 1 (zV, 0))).2)
  else (booV (cond1 (rs.getD 1 (zV, 0))).1, 0)
def valL : List (Val × Int) → List Val × Int
  | [] => ([], 0)
  | p :: r => if p.2 ≠ 0 then ([], p.2) else if (valL r).2 ≠ 0 then ([], (valL r).2) else (p.1 :: (valL r).1, 0)
def v0 (l : List Val) : Val := l.getD 0 zV
def v1 (l : List Val) : Val := l.getD 1 zV
def ordV (a b : Val) : Int := if a.kind ≠ 2 then (if 1 < (if w64 (a.num - b.num) < -1 then -1 else w64 (a.num - b.num)) then 1 else (if w64 (a.num - b.num) < -1 then -1 else w64 (a.num - b.num))) else Lib.compareBytes a.text b.text
def cmpV (op : Int) (a b : Val) : Val × Int :=
  if a.kind ≠ b.kind ∨ (10 < op ∧ a.kind = 3) then (zV, 3)
  else (booV (if op = 9 then decide (ordV a b = 0) else if op = 10 then decide (ordV a b ≠ 0) else if op = 11 then decide (ordV a b < 0) else if op = 12 then decide (ordV a b ≤ 0) else if op = 13 then decide (0 < ordV a b) else if op = 14 then decide (0 ≤ ordV a b) else false), 0)
def absI (a : Int) : Int := if a < w64 (0 - a) then w64 (0 - a) else a
def calV (op a b : Int) : Val × Int :=
  if (op = 19 ∨ op = 20) ∧ b = 0 then (zV, 28)
  else if op = 15 then chkV (numV (w64 (a + b)))
  else if op = 16 then chkV (numV (w64 (a - b)))
  else if op = 19 then chkV (numV (w64 (a.tdiv b)))
  else if op = 20 then chkV (numV (a.tmod b))
  else if a ≠ 0 ∧ w64 ((1099511627776 : Int).tdiv (absI a)) < absI b then (zV, 29)
  else chkV (numV (w64 (a * b)))
def oprV (op : Int) (l : List Val) : Val × Int :=
  if op = 8 then (if (v0 l).kind ≠ 3 then (zV, 3) else (booV (decide ((v0 l).num = 0)), 0))
  else if op = 17 then (if allK l 2 then chkV (txtV ((v0 l).text ++ (v1 l).text)) else (zV, 3))
  else if op ≤ 14 then cmpV op (v0 l) (v1 l)
  else if ¬ allK l 1 then (zV, 3)
  else if op = 21 then chkV (numV (w64 (0 - (v0 l).num)))
  else calV op (v0 l).num (v1 l).num
def showV (v : Val) : List UInt8 → List UInt8 := fun dec => if v.kind = 1 then dec else if v.kind = 2 then v.text else if v.kind = 3 then (if v.num = 1 then [116, 114, 117, 101] else [102, 97, 108, 115, 101]) else []
end Go.Proofs.YtnoadopmeoohmaaGreatDoor
/-
  strings.ContainsFunc; the program's control; spaces, digits, letters of the scanner. Printed by genF8.py.
-/
namespace Go.Proofs.YtnoadopmeoohmaaGreatDoor
open Go
set_option linter.unusedVariables false
set_option linter.unusedSimpArgs false
attribute [local irreducible] wpA opsA drJ drQ drE Ef Ev Shift Fn
theorem get_byte (l : List UInt8) (i : Nat) (h : i < l.length) : ∃ c : UInt8, l[i]? = some c ∧ bat l i = ((c.toNat : Nat) : Int) ∧ l.drop i = c :: l.drop (i + 1) := by
  refine ⟨l[i], by simp [h], by simp [bat, h], List.drop_eq_getElem_cons h⟩
set_option maxRecDepth 100000 in
set_option maxHeartbeats 4000000 in
theorem indexFunc_fn {f : FuncId} [FunC Tryz.prog f] {pr : Int → Bool} (hf : ∀ (H : Hp) (r : Int), FnP Tryz.prog f [.int .i32 r] H (.bool (pr r))) (hc : ∀ r : Int, 128 ≤ r → pr r = pr 128) {H : Hp} {l : List UInt8} (hl : l.length < 4611686018427387904) :
    Fn Tryz.prog 180 [sv l, .func (.func f) #[] #[], .bool true] H [] fun v H' I => (∃ k : Int, v = .int .i64 k ∧ (0 ≤ k ↔ ∃ j : Nat, j < l.length ∧ pr (bat l j) = true)) ∧ H' = H ∧ I = [] := by
  refine Fn_of _ _ Tryz.func180 rfl Tryz.ntmps180 rfl fun c => ?_
  repeat' (first | (refine O_ef rfl (Ef_rangeS WideF.wide rfl rfl ?_); intro r) | refine O_nil ?_ | refine A_seq ?_ | refine A_region ?_ | refine A_block ?_ | (show opsA _ _ _ _ _ _ _; refine O_ev WideF.wide rfl (Ev_pure rfl) rfl rfl ?_))
  refine A_loopu (fun q s => ∃ p : Nat, q = l.length - p ∧ (∀ j : Nat, j < p → j < l.length → pr (bat l j) = false) ∧ s = ⟨21, [(0, sv l), (1, .func (.func f) #[] #[]), (2, .bool true), (10, .pointer (some ⟨r, 0, none⟩))], H, [.obj r (sit l p)], [], []⟩) ?_ ?_
  · exact Shift.to ⟨_, 0, rfl, fun j hj => absurd hj (by omega), rfl⟩ ⟨rfl, rfl, rfl, ⟨rfl, rfl, rfl, rfl, trivial⟩, Own.subi [0] (by decide) rfl rfl⟩
  rintro q s ⟨p, rfl, hall, rfl⟩
  by_cases hlt : p < l.length
  · have hcall := hf H (((rdec l p).1 : Nat) : Int)
    have hw : 1 ≤ (rdec l p).2 ∧ pr (((rdec l p).1 : Nat) : Int) = pr (bat l p) ∧ ∀ j : Nat, p ≤ j → j < p + (rdec l p).2 → j < l.length → pr (bat l j) = pr (bat l p) := by
      by_cases hb : bat l p < 128
      · have h1 := rdec_low hb
        refine ⟨by omega, by rw [h1.1], fun j h2 h3 _ => ?_⟩
        obtain rfl : j = p := by omega
        rfl
      · have h1 := rdec_high (l := l) (i := p) (by omega)
        refine ⟨h1.2.1, (hc _ (by omega)).trans (hc _ (by omega)).symm, fun j h2 h3 _ => ?_⟩
        have h4 := (h1.2.2 (j - p) (by omega)).1
        rw [show p + (j - p) = j by omega] at h4
        exact (hc _ h4).trans (hc _ (by omega)).symm
    obtain ⟨hw1, hw2, hw3⟩ := hw
    cases hb : pr (((rdec l p).1 : Nat) : Int) <;> rw [hb] at hcall
    · repeat' (first | (refine O_ef rfl (Ef_nextS WideF.wide rfl rfl hlt ?_)) | (refine O_ef rfl (Ef_callvp WideF.wide hcall rfl ⟨rfl, trivial⟩ rfl ?_)) | (refine O_ev WideF.wide rfl (Ev_eqb rfl rfl) rfl rfl ?_) | refine O_nil ?_ | refine A_seq ?_ | refine A_region ?_ | refine A_skip ?_ | refine A_ret ?_ | refine A_block ?_ | (show opsA _ _ _ _ _ _ _; refine O_ev WideF.wide rfl (Ev_pure rfl) rfl rfl ?_) | (show wpA _ _ _ (.cond _ _ _) _ _ _ _; first | (refine A_if rfl (fun h => ?_) (fun h => ?_) <;> try (exfalso; omega)) | refine A_iftrue rfl ?_))
      all_goals first
        | exact Shift.to ⟨_, by omega, p + (rdec l p).2, rfl, fun j hj hjl => (if h9 : j < p then hall j h9 hjl else (hw3 j (by omega) hj hjl).trans (hw2.symm.trans hb)), rfl⟩ ⟨rfl, rfl, rfl, ⟨rfl, rfl, rfl, rfl, trivial⟩, Own.subi [0] (by decide) rfl rfl⟩
        | (exfalso; contradiction)
        | (exfalso; exact absurd rfl (by assumption))
        | trace_state
    · repeat' (first | (refine O_ef rfl (Ef_nextS WideF.wide rfl rfl hlt ?_)) | (refine O_ef rfl (Ef_callvp WideF.wide hcall rfl ⟨rfl, trivial⟩ rfl ?_)) | (refine O_ev WideF.wide rfl (Ev_eqb rfl rfl) rfl rfl ?_) | refine O_nil ?_ | refine A_seq ?_ | refine A_region ?_ | refine A_skip ?_ | refine A_ret ?_ | refine A_block ?_ | (show opsA _ _ _ _ _ _ _; refine O_ev WideF.wide rfl (Ev_pure rfl) rfl rfl ?_) | (show wpA _ _ _ (.cond _ _ _) _ _ _ _; first | (refine A_if rfl (fun h => ?_) (fun h => ?_) <;> try (exfalso; omega)) | refine A_iftrue rfl ?_))
      all_goals first
        | exact End_e (Ret1 rfl rfl) ⟨⟨_, rfl, fun _ => ⟨p, hlt, hw2.symm.trans hb⟩, fun _ => by omega⟩, rfl, rfl⟩
        | (exfalso; contradiction)
        | (exfalso; exact absurd rfl (by assumption))
        | trace_state
  · repeat' (first | (refine O_ef rfl (Ef_nextS0 WideF.wide rfl rfl hlt ?_)) | refine O_nil ?_ | refine A_seq ?_ | refine A_region ?_ | refine A_ret ?_ | (show opsA _ _ _ _ _ _ _; refine O_ev WideF.wide rfl (Ev_pure rfl) rfl rfl ?_) | (show wpA _ _ _ (.exit _) _ _ _ _; refine A_exit rfl ?_) | (show wpA _ _ _ (.cond _ _ _) _ _ _ _; refine A_iffalse rfl ?_))
    all_goals first
      | exact End_e (Ret1 rfl rfl) ⟨⟨_, rfl, fun h9 => absurd h9 (by omega), fun ⟨j, h1, h2⟩ => absurd h2 (by rw [hall j (by omega) h1]; decide)⟩, rfl, rfl⟩
      | trace_state
theorem IndexFunc_fn {f : FuncId} [FunC Tryz.prog f] {pr : Int → Bool} (hf : ∀ (H : Hp) (r : Int), FnP Tryz.prog f [.int .i32 r] H (.bool (pr r))) (hc : ∀ r : Int, 128 ≤ r → pr r = pr 128) {H : Hp} {l : List UInt8} (hl : l.length < 4611686018427387904) :
    Fn Tryz.prog 148 [sv l, .func (.func f) #[] #[]] H [] fun v H' I => (∃ k : Int, v = .int .i64 k ∧ (0 ≤ k ↔ ∃ j : Nat, j < l.length ∧ pr (bat l j) = true)) ∧ H' = H ∧ I = [] := by
  have hcall := indexFunc_fn hf hc (H := H) hl
  refine Fn_of _ _ Tryz.func148 rfl Tryz.ntmps148 rfl fun c => ?_
  repeat' (first | (refine O_ef rfl (Ef_call0 WideF.wide hcall ⟨rfl, rfl, rfl, trivial⟩ rfl ?_); rintro v H2 I2 hle2 ⟨⟨k, rfl, hk⟩, rfl, rfl⟩) | refine O_nil ?_ | refine A_seq ?_ | refine A_region ?_ | refine A_ret ?_ | (show opsA _ _ _ _ _ _ _; refine O_ev WideF.wide rfl (Ev_pure rfl) rfl rfl ?_))
  exact End_e (Ret1 rfl rfl) ⟨⟨_, rfl, hk⟩, rfl, rfl⟩
theorem ContainsFunc_fn {f : FuncId} [FunC Tryz.prog f] {pr : Int → Bool} (hf : ∀ (H : Hp) (r : Int), FnP Tryz.prog f [.int .i32 r] H (.bool (pr r))) (hc : ∀ r : Int, 128 ≤ r → pr r = pr 128) {H : Hp} {l : List UInt8} (hl : l.length < 4611686018427387904) :
    FnP Tryz.prog 112 [sv l, .func (.func f) #[] #[]] H (.bool (decide (∃ j : Nat, j < l.length ∧ pr (bat l j) = true))) := by
  have hcall := IndexFunc_fn hf hc (H := H) hl
  refine Fn_of _ _ Tryz.func112 rfl Tryz.ntmps112 rfl fun c => ?_
  repeat' (first | (refine O_ef rfl (Ef_call0 WideF.wide hcall ⟨rfl, rfl, trivial⟩ rfl ?_); rintro v H2 I2 hle2 ⟨⟨k, rfl, hk⟩, rfl, rfl⟩) | refine O_nil ?_ | refine A_seq ?_ | refine A_region ?_ | refine A_ret ?_ | (show opsA _ _ _ _ _ _ _; refine O_ev WideF.wide rfl (Ev_pure rfl) rfl rfl ?_))
  refine End_p (Ret1 rfl rfl) (congrArg Value.bool ?_)
  simp only [hk]
theorem control1_fn {H : Hp} {r : Int} : FnP Tryz.prog 113 [.int .i32 r] H (.bool (decide (r < 32 ∨ r = 127))) := by
  refine Fn_of _ _ Tryz.func113 rfl Tryz.ntmps113 rfl fun c => ?_
  repeat' (first | refine O_nil ?_ | refine A_seq ?_ | refine A_region ?_ | refine A_ret ?_ | (show opsA _ _ _ _ _ _ _; first | (refine O_split rfl rfl (fun h => ?_) (fun h => ?_) <;> try (exfalso; omega)) | refine O_ev WideF.wide rfl (Ev_pure rfl) rfl rfl ?_ | refine O_skip WideF.wide rfl rfl rfl ?_))
  all_goals first
    | (exfalso; omega)
    | ((refine End_p (Ret1 rfl rfl) ?_); refine congrArg Value.bool ?_; grind)
    | trace_state
theorem control_fn {H : Hp} {l : List UInt8} (hl : l.length < 4611686018427387904) : FnP Tryz.prog 70 [sv l] H (.bool (decide (ctl l))) := by
  have hcall := ContainsFunc_fn (f := 113) (pr := fun r => decide (r < 32 ∨ r = 127)) (fun H r => control1_fn) (fun r h => decide_eq_decide.2 (by omega)) (H := H) hl
  simp only [decide_eq_true_eq] at hcall
  refine Fn_of _ _ Tryz.func70 rfl Tryz.ntmps70 rfl fun c => ?_
  repeat' (first | (refine O_ef rfl (Ef_callp WideF.wide (hcall) ⟨rfl, rfl, trivial⟩ rfl ?_)) | refine O_nil ?_ | refine A_seq ?_ | refine A_region ?_ | refine A_ret ?_ | (show opsA _ _ _ _ _ _ _; refine O_ev WideF.wide rfl (Ev_pure rfl) rfl rfl ?_))
  exact End_p (Ret1 rfl rfl) rfl
theorem digits1_fn {H : Hp} {r : Int} : FnP Tryz.prog 142 [.int .i32 r] H (.bool (decide (r < 48 ∨ 57 < r))) := by
  refine Fn_of _ _ Tryz.func142 rfl Tryz.ntmps142 rfl fun c => ?_
  repeat' (first | refine O_nil ?_ | refine A_seq ?_ | refine A_region ?_ | refine A_ret ?_ | (show opsA _ _ _ _ _ _ _; first | (refine O_split rfl rfl (fun h => ?_) (fun h => ?_) <;> try (exfalso; omega)) | refine O_ev WideF.wide rfl (Ev_pure rfl) rfl rfl ?_ | refine O_skip WideF.wide rfl rfl rfl ?_))
  all_goals first
    | (exfalso; omega)
    | ((refine End_p (Ret1 rfl rfl) ?_); refine congrArg Value.bool ?_; grind)
    | trace_state
theorem space_fn {H : Hp} {b : Int} : FnP Tryz.prog 126 [.int .u8 b] H (.bool (decide (b = 32 ∨ b = 9))) := by
  refine Fn_of _ _ Tryz.func126 rfl Tryz.ntmps126 rfl fun c => ?_
  repeat' (first | refine O_nil ?_ | refine A_seq ?_ | refine A_region ?_ | refine A_ret ?_ | (show opsA _ _ _ _ _ _ _; first | (refine O_split rfl rfl (fun h => ?_) (fun h => ?_) <;> try (exfalso; omega)) | refine O_ev WideF.wide rfl (Ev_pure rfl) rfl rfl ?_ | refine O_skip WideF.wide rfl rfl rfl ?_))
  all_goals first
    | (exfalso; omega)
    | ((refine End_p (Ret1 rfl rfl) ?_); refine congrArg Value.bool ?_; grind)
    | trace_state
theorem scan2_fn {H : Hp} {b : Int} : FnP Tryz.prog 128 [.int .u8 b] H (.bool (decide (dgt b))) := by
  refine Fn_of _ _ Tryz.func128 rfl Tryz.ntmps128 rfl fun c => ?_
  repeat' (first | refine O_nil ?_ | refine A_seq ?_ | refine A_region ?_ | refine A_ret ?_ | (show opsA _ _ _ _ _ _ _; first | (refine O_split rfl rfl (fun h => ?_) (fun h => ?_) <;> try (exfalso; omega)) | refine O_ev WideF.wide rfl (Ev_pure rfl) rfl rfl ?_ | refine O_skip WideF.wide rfl rfl rfl ?_))
  all_goals first
    | (exfalso; omega)
    | ((refine End_p (Ret1 rfl rfl) ?_); refine congrArg Value.bool ?_; unfold dgt; grind)
    | trace_state
theorem isDg_eq (c : UInt8) : isDg c = decide (dgt ((c.toNat : Nat) : Int)) := by
  rw [Bool.eq_iff_iff, decide_eq_true_eq]
  unfold isDg dgt
  simp only [Bool.and_eq_true, Nat.ble_eq]
  omega
theorem isLt_eq (c : UInt8) : isLt c = decide (ltr ((c.toNat : Nat) : Int)) := by
  rw [Bool.eq_iff_iff, decide_eq_true_eq]
  unfold isLt ltr
  simp only [Bool.and_eq_true, Bool.or_eq_true, Nat.ble_eq]
  omega
theorem byte_eq (c : UInt8) (n : Nat) (hn : n < 256) : c = UInt8.ofNat n ↔ c.toNat = n := by
  constructor
  · rintro rfl; simp; omega
  · intro h; rw [← h]; simp
theorem isSp_eq (c : UInt8) : isSp c = decide (((c.toNat : Nat) : Int) = 32 ∨ ((c.toNat : Nat) : Int) = 9) := by
  unfold isSp
  have h1 := byte_eq c 32 (by decide)
  have h2 := byte_eq c 9 (by decide)
  rw [Bool.eq_iff_iff]
  simp only [Bool.or_eq_true, beq_iff_eq, decide_eq_true_eq]
  rw [show (32 : UInt8) = UInt8.ofNat 32 from rfl, show (9 : UInt8) = UInt8.ofNat 9 from rfl, h1, h2]
  omega
theorem isWd_eq (c : UInt8) : isWd c = decide (ltr ((c.toNat : Nat) : Int) ∨ dgt ((c.toNat : Nat) : Int) ∨ ((c.toNat : Nat) : Int) = 95) := by
  unfold isWd
  have h1 := byte_eq c 95 (by decide)
  rw [isLt_eq, isDg_eq, Bool.eq_iff_iff]
  simp only [Bool.or_eq_true, beq_iff_eq, decide_eq_true_eq]
  rw [show (95 : UInt8) = UInt8.ofNat 95 from rfl, h1, or_assoc]
  refine or_congr Iff.rfl (or_congr Iff.rfl ?_)
  omega
theorem idt_one (c : UInt8) : idt [c] ↔ ltr ((c.toNat : Nat) : Int) := by
  unfold idt idc
  constructor
  · intro ⟨_, h⟩
    have := h 0 (by simp)
    simpa [bat] using this
  · intro h
    refine ⟨by simp, fun i hi => ?_⟩
    simp at hi
    subst hi
    left
    simpa [bat] using h
theorem idt_two (c : UInt8) : idt [97, c] ↔ (ltr ((c.toNat : Nat) : Int) ∨ dgt ((c.toNat : Nat) : Int) ∨ ((c.toNat : Nat) : Int) = 95) := by
  unfold idt idc
  constructor
  · intro ⟨_, h⟩
    have := h 1 (by simp)
    simpa [bat] using this
  · intro h
    refine ⟨by simp, fun i hi => ?_⟩
    have : i = 0 ∨ i = 1 := by simp at hi; omega
    rcases this with rfl | rfl
    · left; simp [bat, ltr]
    · simpa [bat] using h
end Go.Proofs.YtnoadopmeoohmaaGreatDoor
