/-
  The language as data: tokens, the parser, checks, values, texts (plain Lean, no program in sight).
-/
import Derived.Test.YtnoadopmeoohmaaGreatDoorF5
import Derived.Lib.Bytealg
import Derived.Lib.Replace
namespace Go.Proofs.YtnoadopmeoohmaaGreatDoor
open Go
set_option linter.unusedVariables false
set_option linter.unusedSimpArgs false
/-! ### tokens -/
structure Tok where
  kind : List UInt8
  text : List UInt8
  pos : Nat
  deriving DecidableEq
def isSp (b : UInt8) : Bool := b == 32 || b == 9
def isDg (b : UInt8) : Bool := Nat.ble 48 b.toNat && Nat.ble b.toNat 57
def isLt (b : UInt8) : Bool := (Nat.ble 97 b.toNat && Nat.ble b.toNat 122) || (Nat.ble 65 b.toNat && Nat.ble b.toNat 90)
def isWd (b : UInt8) : Bool := isLt b || isDg b || b == 95
def isCt (b : UInt8) : Bool := Nat.blt b.toNat 32 || b == 127
def qlen : List UInt8 → Option Nat
  | [] => none
  | c :: r => if c = 34 then (match r with | c2 :: r2 => if c2 = 34 then (qlen r2).map (· + 2) else some 1 | [] => some 1) else (qlen r).map (· + 1)
def opsL : List (List UInt8) := [[60, 62], [60, 61], [62, 61], [61], [60], [62], [43], [45], [38], [42], [47], [37], [40], [41], [44]]
def fops (l : List UInt8) : Option (List UInt8) := opsL.find? fun o => o.isPrefixOf l
def tokAt (s : List UInt8) (q : Nat) : Tok :=
  match s.drop q with
  | [] => ⟨[46], [], q⟩
  | c :: r =>
    if isDg c then (if 1 < ((c :: r).takeWhile isDg).length ∧ c = 48 then ⟨[33], (c :: r).takeWhile isDg, q⟩ else ⟨[110], (c :: r).takeWhile isDg, q⟩)
    else if isLt c then (if resv ((c :: r).takeWhile isWd) then ⟨(c :: r).takeWhile isWd, (c :: r).takeWhile isWd, q⟩ else ⟨[105], (c :: r).takeWhile isWd, q⟩)
    else if c = 34 then (match qlen r with
      | none => ⟨[33], c :: r, q⟩
      | some n => if ((c :: r).take (n + 1)).any isCt then ⟨[33], (c :: r).take (n + 1), q⟩ else ⟨[115], (c :: r).take (n + 1), q⟩)
    else match fops (c :: r) with
      | some o => ⟨o, o, q⟩
      | none => ⟨[33], [], q⟩
def scn (s : List UInt8) (p : Nat) : Tok := tokAt s (p + ((s.drop p).takeWhile isSp).length)
def nxt (s : List UInt8) (t : Tok) : Tok := scn s (t.pos + t.text.length)
/-! ### the parser -/
inductive PR where
  | no
  | err (e : Int) (pos : Nat)
  | ok (nd : Nd) (t : Tok)
inductive PL where
  | no
  | err (e : Int) (pos : Nat)
  | ok (l : List Nd) (t : Tok)
def opAt (lv : Nat) (k : List UInt8) : Option Int :=
  match lv with
  | 1 => if k = [111, 114] then some 6 else none
  | 2 => if k = [97, 110, 100] then some 7 else none
  | 4 => if k = [61] then some 9 else if k = [60, 62] then some 10 else if k = [60] then some 11 else if k = [60, 61] then some 12 else if k = [62] then some 13 else if k = [62, 61] then some 14 else none
  | 5 => if k = [43] then some 15 else if k = [45] then some 16 else if k = [38] then some 17 else none
  | 6 => if k = [42] then some 18 else if k = [47] then some 19 else if k = [37] then some 20 else none
  | _ => none
def dval : List UInt8 → Nat → Nat
  | [], n => n
  | c :: r, n => dval r (n * 10 + (c.toNat - 48))
/-- the number that digits denote, and the error -/
def digR (s : List UInt8) : Int × Int :=
  if s = [] ∨ s.any (fun b => !isDg b) = true ∨ (1 < s.length ∧ s.head? = some 48) then (0, 14) else if 1099511627776 < dval s 0 then (0, 29) else ((dval s 0 : Nat), 0)
mutual
def prs (s : List UInt8) : Nat → Nat → Tok → PR
  | 0, _, _ => .no
  | k + 1, lv, t =>
    match lv with
    | 1 => match prs s k 2 t with | .ok n t' => lop s k 1 n t' | r => r
    | 2 => match prs s k 3 t with | .ok n t' => lop s k 2 n t' | r => r
    | 3 => if t.kind = [110, 111, 116] then (match prs s k 3 (nxt s t) with | .ok n t' => .ok (.mk 8 0 [] [n]) t' | r => r) else prs s k 4 t
    | 4 => match prs s k 5 t with
      | .ok n t' => (match opAt 4 t'.kind with | none => .ok n t' | some op => match prs s k 5 (nxt s t') with | .ok m t2 => .ok (.mk op 0 [] [n, m]) t2 | r => r)
      | r => r
    | 5 => match prs s k 6 t with | .ok n t' => lop s k 5 n t' | r => r
    | 6 => match prs s k 7 t with | .ok n t' => lop s k 6 n t' | r => r
    | 7 => if t.kind = [45] then (match prs s k 7 (nxt s t) with | .ok n t' => .ok (.mk 21 0 [] [n]) t' | r => r) else prs s k 8 t
    | _ =>
      if t.kind = [110] then (if (digR t.text).2 = 0 then .ok (.mk 1 (digR t.text).1 [] []) (nxt s t) else .err (digR t.text).2 t.pos)
      else if t.kind = [115] then .ok (.mk 2 0 (Lib.replaceAll ((t.text.take (t.text.length - 1)).drop 1) [34, 34] [34]) []) (nxt s t)
      else if t.kind = [116, 114, 117, 101] then .ok (.mk 3 1 [] []) (nxt s t)
      else if t.kind = [102, 97, 108, 115, 101] then .ok (.mk 3 0 [] []) (nxt s t)
      else if t.kind = [105] then
        (if 40 < t.text.length then .err 13 t.pos
        else if (nxt s t).kind = [40] then (match arg s k (nxt s (nxt s t)) with | .ok l t' => .ok (.mk 5 0 t.text l) t' | .err e p => .err e p | .no => .no)
        else .ok (.mk 4 0 t.text []) (nxt s t))
      else if t.kind = [40] then (match prs s k 1 (nxt s t) with | .ok n t' => (if t'.kind = [41] then .ok n (nxt s t') else .err 14 t'.pos) | r => r)
      else .err 14 t.pos
def lop (s : List UInt8) : Nat → Nat → Nd → Tok → PR
  | 0, _, _, _ => .no
  | k + 1, lv, n, t => match opAt lv t.kind with
    | none => .ok n t
    | some op => match prs s k (lv + 1) (nxt s t) with | .ok m t' => lop s k lv (.mk op 0 [] [n, m]) t' | r => r
def arg (s : List UInt8) : Nat → Tok → PL
  | 0, _ => .no
  | k + 1, t => if t.kind = [41] then .ok [] (nxt s t) else match prs s k 1 t with | .ok n t' => agl s k [n] t' | .err e p => .err e p | .no => .no
def agl (s : List UInt8) : Nat → List Nd → Tok → PL
  | 0, _, _ => .no
  | k + 1, l, t => if t.kind = [44] then (match prs s k 1 (nxt s t) with | .ok n t' => agl s k (l ++ [n]) t' | .err e p => .err e p | .no => .no) else if t.kind = [41] then .ok l (nxt s t) else .err 14 t.pos
end
/-! ### checks -/
def fnArg (s : List UInt8) : Option (Int × Int) :=
  if s = [109, 105, 110] ∨ s = [109, 97, 120] then some (1, 256) else if s = [115, 117, 109] then some (0, 256) else
  if s = [97, 98, 115] ∨ s = [108, 101, 110] ∨ s = [117, 112, 112, 101, 114] ∨ s = [108, 111, 119, 101, 114] ∨ s = [116, 101, 120, 116] ∨ s = [110, 117, 109, 98, 101, 114] then some (1, 1) else
  if s = [105, 102] then some (3, 3) else none
noncomputable def chkT (op num : Int) (text : List UInt8) (nargs : Int) : Int :=
  if op < 1 ∨ 21 < op then 3
  else if (¬ (op = 1 ∨ op = 3) ∧ num ≠ 0) ∨ (¬ (op = 2 ∨ op = 4 ∨ op = 5) ∧ text ≠ []) ∨ (op ≠ 5 ∧ nargs ≠ arityN op) then 15
  else if op = 1 then (if num < 0 ∨ 1099511627776 < num then 2 else 0)
  else if op = 3 then (if num < 0 ∨ 1 < num then 2 else 0)
  else if op = 2 then (if ¬ valid text then 12 else if ctl text then 5 else if 1024 < text.length then 10 else 0)
  else if op = 4 then (if ¬ idt text ∨ resv text = true ∨ 40 < text.length then 13 else 0)
  else if op = 5 then (match fnArg text with | none => 30 | some (a, b) => if nargs < a ∨ b < nargs then 15 else 0)
  else 0
noncomputable def chkN (x : Nd) : Int := chkT x.op x.num x.text x.args.length
mutual
noncomputable def vis : Nd → Int → Int → Int × Int
  | .mk op num text args, v, lv => if 256 ≤ v then (9, v) else if 32 < lv then (17, v) else if chkT op num text args.length ≠ 0 then (chkT op num text args.length, v + 1) else visL args (v + 1) (lv + 1)
noncomputable def visL : List Nd → Int → Int → Int × Int
  | [], v, _ => (0, v)
  | x :: l, v, lv => if (vis x v lv).1 = 0 then visL l (vis x v lv).2 lv else vis x v lv
end
noncomputable def chkE (x : Nd) : Int := (vis x 0 1).1
/-! ### values -/
abbrev w64 (n : Int) : Int := IntKind.i64.wrap n
def allK (l : List Val) (k : Int) : Bool := l.all fun v => v.kind == k
def cond1 (p : Val × Int) : Bool × Int := (decide (p.1.num = 1), if p.2 = 0 ∧ p.1.kind ≠ 3 then 3 else p.2)
def lzyV (op : Int) (rs : List (Val × Int)) : Val × Int :=
  if (cond1 (rs.getD 0 (zV, 0))).2 ≠ 0 then (zV, (cond1 (rs.getD 0 (zV, 0))).2)
  else if op = 5 then (if (cond1 (rs.getD 0 (zV, 0))).1 then rs.getD 1 (zV, 0) else rs.getD 2 (zV, 0))
  else if (cond1 (rs.getD 0 (zV, 0))).1 = decide (op = 6) then (booV (cond1 (rs.getD 0 (zV, 0))).1, 0)
  else if (cond1 (rs.getD 1 (zV, 0))).2 ≠ 0 then (zV, (cond1 (rs.getD 1 (zV, 0))).2)
  else (booV (cond1 (rs.getD 1 (zV, 0))).1, 0)
def valL : List (Val × Int) → List Val × Int
  | [] => ([], 0)
  | p :: r => if p.2 ≠ 0 then ([], p.2) else if (valL r).2 ≠ 0 then ([], (valL r).2) else (p.1 :: (valL r).1, 0)
def v0 (l : List Val) : Val := l.getD 0 zV
def v1 (l : List Val) : Val := l.getD 1 zV
def ordV (a b : Val) : Int := if a.kind ≠ 2 then (if 1 < (if w64 (a.num - b.num) < -1 then -1 else w64 (a.num - b.num)) then 1 else (if w64 (a.num - b.num) < -1 then -1 else w64 (a.num - b.num))) else Lib.compareBytes a.text b.text
def cmpV (op : Int) (a b : Val) : Val × Int :=
  if a.kind ≠ b.kind ∨ (10 < op ∧ a.kind = 3) then (zV, 3)
  else (booV (if op = 9 then decide (ordV a b = 0) else if op = 10 then decide (ordV a b ≠ 0) else if op = 11 then decide (ordV a b < 0) else if op = 12 then decide (ordV a b ≤ 0) else if op = 13 then decide (0 < ordV a b) else if op = 14 then decide (0 ≤ ordV a b) else false), 0)
def absI (a : Int) : Int := if a < w64 (0 - a) then w64 (0 - a) else a
def calV (op a b : Int) : Val × Int :=
  if (op = 19 ∨ op = 20) ∧ b = 0 then (zV, 28)
  else if op = 15 then chkV (numV (w64 (a + b)))
  else if op = 16 then chkV (numV (w64 (a - b)))
  else if op = 19 then chkV (numV (w64 (a.tdiv b)))
  else if op = 20 then chkV (numV (a.tmod b))
  else if a ≠ 0 ∧ w64 ((1099511627776 : Int).tdiv (absI a)) < absI b then (zV, 29)
  else chkV (numV (w64 (a * b)))
def oprV (op : Int) (l : List Val) : Val × Int :=
  if op = 8 then (if (v0 l).kind ≠ 3 then (zV, 3) else (booV (decide ((v0 l).num = 0)), 0))
  else if op = 17 then (if allK l 2 then chkV (txtV ((v0 l).text ++ (v1 l).text)) else (zV, 3))
  else if op ≤ 14 then cmpV op (v0 l) (v1 l)
  else if ¬ allK l 1 then (zV, 3)
  else if op = 21 then chkV (numV (w64 (0 - (v0 l).num)))
  else calV op (v0 l).num (v1 l).num
def showV (v : Val) : List UInt8 → List UInt8 := fun dec => if v.kind = 1 then dec else if v.kind = 2 then v.text else if v.kind = 3 then (if v.num = 1 then [116, 114, 117, 101] else [102, 97, 108, 115, 101]) else []
end Go.Proofs.YtnoadopmeoohmaaGreatDoor
