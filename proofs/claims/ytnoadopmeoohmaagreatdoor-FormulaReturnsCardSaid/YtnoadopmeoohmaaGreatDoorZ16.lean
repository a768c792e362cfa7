import Derived.Test.YtnoadopmeoohmaaGreatDoorZ06
import Derived.Test.YtnoadopmeoohmaaGreatDoorZ15
/-
  Maps with strings as keys, nothing ever deleted.
-/
namespace Go.Proofs.YtnoadopmeoohmaaGreatDoor
open Go
set_option linter.unusedVariables false
set_option linter.unusedSimpArgs false
def sents (i : Nat) : List (List UInt8 × Value) → List MapEntry
  | [] => []
  | p :: r => ⟨sv p.1, p.2, i⟩ :: sents (i + 1) r
abbrev smobj (kvs : List (List UInt8 × Value)) : Obj := .map (sents 0 kvs).toArray kvs.length
def sget (z : Value) : List (List UInt8 × Value) → List UInt8 → Value
  | [], _ => z
  | p :: r, x => if p.1 = x then p.2 else sget z r x
def shas (kvs : List (List UInt8 × Value)) (x : List UInt8) : Prop := x ∈ kvs.map Prod.fst
instance (kvs : List (List UInt8 × Value)) (x : List UInt8) : Decidable (shas kvs x) := inferInstanceAs (Decidable (x ∈ kvs.map Prod.fst))
def sput : List (List UInt8 × Value) → List UInt8 → Value → List (List UInt8 × Value)
  | [], x, v => [(x, v)]
  | p :: r, x, v => if p.1 = x then (x, v) :: r else p :: sput r x v
theorem sv_eq {a b : List UInt8} : sv a = sv b ↔ a = b := by
  constructor
  · intro h; simpa [sv] using h
  · rintro rfl; rfl
theorem shas_nil {x : List UInt8} : ¬ shas [] x := by simp [shas]
theorem shas_put {kvs : List (List UInt8 × Value)} {x y : List UInt8} {v : Value} : shas (sput kvs x v) y ↔ shas kvs y ∨ y = x := by
  unfold shas
  induction kvs with
  | nil => simp [sput]
  | cons p r ih =>
    unfold sput
    split
    · rename_i h
      simp only [List.map_cons, List.mem_cons]
      rw [h]
      constructor
      · rintro (h | h)
        · exact .inr h
        · exact .inl (.inr h)
      · rintro ((h | h) | h)
        · exact .inl h
        · exact .inr h
        · exact .inl h
    · simp only [List.map_cons, List.mem_cons, ih, or_assoc]
theorem sget_put {z : Value} {kvs : List (List UInt8 × Value)} {x y : List UInt8} {v : Value} : sget z (sput kvs x v) y = if y = x then v else sget z kvs y := by
  induction kvs with
  | nil =>
    simp only [sput, sget]
    by_cases h : y = x
    · rw [if_pos h, if_pos h.symm]
    · rw [if_neg h, if_neg (Ne.symm h)]
  | cons p r ih =>
    unfold sput
    split
    · rename_i h
      simp only [sget]
      by_cases hy : y = x
      · rw [if_pos hy, if_pos hy.symm]
      · rw [if_neg hy, if_neg (Ne.symm hy), if_neg (by rw [h]; exact Ne.symm hy)]
    · rename_i h
      simp only [sget, ih]
      by_cases hp : p.1 = y
      · rw [if_pos hp, if_neg (by rw [← hp]; exact h)]
        rw [if_pos hp]
      · rw [if_neg hp]
        by_cases hy : y = x
        · rw [if_pos hy, if_pos hy]
        · rw [if_neg hy, if_neg hy, if_neg hp]
theorem sget_no {z : Value} {kvs : List (List UInt8 × Value)} {x : List UInt8} (h : ¬ shas kvs x) : sget z kvs x = z := by
  unfold shas at h
  induction kvs with
  | nil => rfl
  | cons p r ih =>
    simp only [List.map_cons, List.mem_cons, not_or] at h
    rw [sget, if_neg (Ne.symm h.1), ih h.2]
/-- where a key is found: its value, and what the map is once the key is written again -/
theorem findNow_s (x : List UInt8) (z v : Value) : ∀ (kvs : List (List UInt8 × Value)) (i j : Nat), (Instr.findNow .string (sv x) (sents i kvs) j = some none ∧ ¬ shas kvs x ∧ sents i (sput kvs x v) = sents i kvs ++ [⟨sv x, v, i + kvs.length⟩] ∧ (sput kvs x v).length = kvs.length + 1) ∨
    ∃ q o, Instr.findNow .string (sv x) (sents i kvs) j = some (some (j + q, sget z kvs x)) ∧ shas kvs x ∧ (sents i kvs)[q]? = some o ∧ o.key = sv x ∧ (sents i kvs).modify q (fun e => { e with key := sv x, val := v }) = sents i (sput kvs x v) ∧ (sput kvs x v).length = kvs.length
  | [], i, j => .inl ⟨rfl, shas_nil, by simp [sents, sput], rfl⟩
  | p :: r, i, j => by
    by_cases h : p.1 = x
    · refine .inr ⟨0, ⟨sv p.1, p.2, i⟩, ?_, by simp [shas, h], rfl, by rw [h], ?_, ?_⟩
      · have hb : Instr.sameNow .string (sv x) (sv p.1) = some true := by
          obtain ⟨r, hr, hi⟩ := MapKept.sameNow_of_keys (d := .string) (a := sv x) (b := sv p.1) (by simp [MapKept.IsKey, sv]) (by simp [MapKept.IsKey, sv])
          rw [hr, hi.2 (by rw [h])]
        simp only [sents, Instr.findNow, hb, sget, if_pos h, Nat.add_zero]
      · simp [sents, sput, if_pos h]
      · simp [sput, if_pos h]
    · have hb : Instr.sameNow .string (sv x) (sv p.1) = some false := by
        obtain ⟨r, hr, hi⟩ := MapKept.sameNow_of_keys (d := .string) (a := sv x) (b := sv p.1) (by simp [MapKept.IsKey, sv]) (by simp [MapKept.IsKey, sv])
        cases r with
        | false => exact hr
        | true => exact absurd (sv_eq.1 (hi.1 rfl)).symm h
      rcases findNow_s x z v r (i + 1) (j + 1) with ⟨h1, h2, h3, h4⟩ | ⟨q, o, h1, h2, h3, h4, h5, h6⟩
      · refine .inl ⟨?_, ?_, ?_, ?_⟩
        · simp only [sents, Instr.findNow, hb, h1]
        · unfold shas at h2 ⊢
          simp only [List.map_cons, List.mem_cons, not_or]
          exact ⟨Ne.symm h, h2⟩
        · simp only [sput, if_neg h, sents, h3, List.cons_append, List.length_cons]
          rw [show i + 1 + r.length = i + (r.length + 1) by omega]
        · simp only [sput, if_neg h, List.length_cons, h4]
      · refine .inr ⟨q + 1, o, ?_, ?_, ?_, h4, ?_, ?_⟩
        · simp only [sents, Instr.findNow, hb, h1, sget, if_neg h]
          rw [show j + 1 + q = j + (q + 1) by omega]
        · unfold shas at h2 ⊢
          simp only [List.map_cons, List.mem_cons]
          exact .inr h2
        · simpa [sents] using h3
        · simp only [sents, sput, if_neg h, List.modify_succ_cons, h5]
        · simp only [sput, if_neg h, List.length_cons, h6]
section
variable {P : Program} {e : Env} {H : Hp} {R : Own} {dst : Option Tmp} {ty : TypeId} {pos : String} {after : Array Edge} {g : Option (Nat × Bool)} {x y z : Operand} {t t2 b : Nat} {v : Value}
theorem run_checkKey_str {kt : TypeId} (hk : P.underlying kt = some .string) (em : Bool) (l : List UInt8) (w : World) : (Instr.checkKey em 10000 kt (sv l)).run P w = .ok () w :=
  MapKept.run_checkKey (d := .string) hk (by simp [MapKept.IsKey, sv]) em 9999
theorem Ev_lookupT {kt et : TypeId} {kvs : List (List UInt8 × Value)} {q : List UInt8} {zv : Value} {i : Nat} [ht : UndC P t (.map kt et)] [hk : UndC P kt .string] (hzv : ∀ w, (zeroValue et).run P w = .ok zv w) (hx : e.eval x = some (.map (some b))) (hy : e.eval y = some (sv q)) (hR : oget R i = some (.obj b (smobj kvs))) :
    Ev P ⟨dst, .lookup t x y false, ty, pos, after, g⟩ e H R (sget zv kvs q) := fun a w he _ hr => by
  have hb : w.heap[b]? = some (smobj kvs) := hr _ (oget_mem hR)
  have h1 := MapKept.run_getObj_map (P := P) hb
  have h2 := fun em => run_checkKey_str (P := P) hk.und em q w
  rcases findNow_s q zv zv kvs 0 0 with ⟨h3, h4, _⟩ | ⟨j, o, h3, h4, _⟩
  · simp [execOp, he.eval hx, he.eval hy, Instr.lookup, ht.run, h1, h2, Instr.findKey, hk.run, h3, hzv, sget_no h4]
  · simp [execOp, he.eval hx, he.eval hy, Instr.lookup, ht.run, h1, h2, Instr.findKey, hk.run, h3]
theorem Ev_lookupTok {kt et : TypeId} {kvs : List (List UInt8 × Value)} {q : List UInt8} {zv : Value} {i : Nat} [ht : UndC P t (.map kt et)] [hk : UndC P kt .string] (hzv : ∀ w, (zeroValue et).run P w = .ok zv w) (hx : e.eval x = some (.map (some b))) (hy : e.eval y = some (sv q)) (hR : oget R i = some (.obj b (smobj kvs))) :
    Ev P ⟨dst, .lookup t x y true, ty, pos, after, g⟩ e H R (.tuple [sget zv kvs q, .bool (decide (shas kvs q))].toArray) := fun a w he _ hr => by
  have hb : w.heap[b]? = some (smobj kvs) := hr _ (oget_mem hR)
  have h1 := MapKept.run_getObj_map (P := P) hb
  have h2 := fun em => run_checkKey_str (P := P) hk.und em q w
  rcases findNow_s q zv zv kvs 0 0 with ⟨h3, h4, _⟩ | ⟨j, o, h3, h4, _⟩
  · simp [execOp, he.eval hx, he.eval hy, Instr.lookup, ht.run, h1, h2, Instr.findKey, hk.run, h3, hzv, sget_no h4, decide_eq_false h4]
  · simp [execOp, he.eval hx, he.eval hy, Instr.lookup, ht.run, h1, h2, Instr.findKey, hk.run, h3, decide_eq_true h4]
end
section
variable {F : Fence} {P : Program} {c : Ctx} {K : SP} {n : Nat} {e : Env} {H : Hp} {M L : Own} {D : List Deferred} {x y z : Operand} {d : Tmp} {ty t t2 : TypeId} {pos : String} {after : Array Edge} {g : Option (Nat × Bool)} {v : Value} {b : Nat}
theorem Ef_makeMapT (hF : WideF F) (hn : Nat.blt d n = true) (k : ∀ b, K ⟨n, (d, .map (some b)) :: e, H, .obj b (smobj []) :: M, L, D⟩) :
    Ef F P c ⟨some d, .makeMap t none, ty, pos, after, g⟩ ⟨n, e, H, M, L, D⟩ K := Ef_makeMap hF hn k
end
end Go.Proofs.YtnoadopmeoohmaaGreatDoor
/-
  The parser's next, accept, expect. Printed by genF11.py.
-/
namespace Go.Proofs.YtnoadopmeoohmaaGreatDoor
open Go
set_option linter.unusedVariables false
set_option linter.unusedSimpArgs false
attribute [local irreducible] wpA opsA drJ drQ drE Ef Ev Shift Fn
attribute [local irreducible] unr
/-- the parser's cells -/
abbrev pcs (s : List UInt8) (t : Tok) : List Value := [sv s, sv t.kind, sv t.text, .int .i64 t.pos]
/-- a token lies within the text -/
structure TokOk (s : List UInt8) (t : Tok) : Prop where
  le : t.pos + t.text.length ≤ s.length
  str : t.kind = [115] → 2 ≤ t.text.length
theorem tw_le {l : List UInt8} (pr : UInt8 → Bool) (q : Nat) : ((l.drop q).takeWhile pr).length ≤ l.length - q := by
  have h1 := (List.takeWhile_sublist (l := l.drop q) pr).length_le
  have h2 := List.length_drop (l := l) (i := q)
  omega
theorem qlen_pos : ∀ (n : Nat) {r : List UInt8} {k : Nat}, r.length ≤ n → qlen r = some k → 1 ≤ k ∧ k ≤ r.length
  | n, [], k, _, h => by simp [qlen] at h
  | n + 1, c :: r, k, hl, h => by
    rw [qlen.eq_def] at h
    dsimp only at h
    split at h
    · cases r with
      | nil => simp at h; subst h; simp
      | cons d r2 =>
        dsimp only at h
        split at h
        · cases hq : qlen r2 with
          | none => rw [hq] at h; simp at h
          | some j =>
            rw [hq] at h; simp at h
            simp at hl
            have := qlen_pos n (r := r2) (by omega) hq
            simp; omega
        · simp at h; subst h; simp
    · cases hq : qlen r with
      | none => rw [hq] at h; simp at h
      | some j =>
        rw [hq] at h; simp at h
        simp at hl
        have := qlen_pos n (r := r) (by omega) hq
        simp; omega
  | 0, c :: r, k, hl, _ => by simp at hl
theorem opsL_len : ∀ o ∈ opsL, o ≠ [115] ∧ o.length ≤ 2 := by decide
theorem tokAt_ok {s : List UInt8} {q : Nat} (hq : q ≤ s.length) : TokOk s (tokAt s q) := by
  by_cases hlt : q < s.length
  · obtain ⟨u, hu1, hu2, hu3⟩ := get_byte s q hlt
    rw [tokAt_of hu3]
    have h1 := tw_le (l := s) isDg q
    have h2 := tw_le (l := s) isWd q
    split
    · split <;> refine ⟨by dsimp only; omega, fun h => (by simp at h)⟩
    · split
      · split
        · refine ⟨by dsimp only; omega, fun h => ?_⟩
          rename_i hr
          dsimp only at h
          rw [h] at hr
          exact absurd hr (by decide)
        · refine ⟨by dsimp only; omega, fun h => (by simp at h)⟩
      · split
        · unfold quoT
          cases hk : qlen (s.drop (q + 1)) with
          | none =>
            refine ⟨?_, fun h => (by simp at h)⟩
            dsimp only
            rw [List.length_drop]; omega
          | some n =>
            have h3 := qlen_pos _ (Nat.le_refl _) hk
            rw [List.length_drop] at h3
            have h4 : ((s.drop q).take (n + 1)).length = n + 1 := by rw [List.length_take, List.length_drop]; omega
            dsimp only
            split <;> refine ⟨by dsimp only; rw [h4]; omega, fun _ => by dsimp only; rw [h4]; omega⟩
        · cases ho : fops (s.drop q) with
          | none => exact ⟨by dsimp only [List.length_nil]; omega, fun h => (by simp at h)⟩
          | some o =>
            have ho' : opsL.find? (fun o : List UInt8 => o.isPrefixOf (s.drop q)) = some o := ho
            have hm := opsL_len o (List.mem_of_find?_eq_some ho')
            have hp : o.isPrefixOf (s.drop q) = true := by have := List.find?_some ho'; exact this
            have hle := (List.isPrefixOf_iff_prefix.1 hp).length_le
            rw [List.length_drop] at hle
            exact ⟨by dsimp only; omega, fun h => absurd h hm.1⟩
  · rw [tokAt_end (by omega)]
    exact ⟨by dsimp only [List.length_nil]; omega, fun h => (by simp at h)⟩
theorem scn_ok {s : List UInt8} {p : Nat} (hp : p ≤ s.length) : TokOk s (scn s p) := by
  unfold scn
  have := tw_le (l := s) isSp p
  exact tokAt_ok (by omega)
theorem TokOk.nxt {s : List UInt8} {t : Tok} (h : TokOk s t) : TokOk s (nxt s t) := scn_ok h.le
set_option maxRecDepth 100000 in
set_option maxHeartbeats 4000000 in
theorem next_fn {H : Hp} {s : List UInt8} {t : Tok} {b : Nat} (hs : s.length < 4611686018427387904) (ht : TokOk s t) :
    Fn Tryz.prog 41 [.pointer (some ⟨b, 0, none⟩)] H [.box b (pcs s t)] fun v H' I => v = .tuple #[] ∧ I = [.box b (pcs s (nxt s t))] := by
  have k := fun Hx => scan_fn (H := Hx) hs ht.le
  have e1 : ((t.pos + t.text.length : Nat) : Int) = (t.pos : Int) + (t.text.length : Int) := by omega
  rw [e1] at k
  have hle := ht.le
  refine Fn_of _ _ Tryz.func41 rfl Tryz.ntmps41 rfl fun c => ?_
  repeat' (first | (refine A_drawL WideF.wide (.p 0 (.q 1 (.q 2 (.q 3 (.q 4 (.p 5 (.p 6 (.q 7 (.q 8 (.q 9 (.p 10 (.p 11 (.p 12 (.q 13 (.q 14 (.q 15 (.q 16 (.r (.e 17 (.q 18 (.q 19 (.e 20 (.done []))))))))))))))))))))))) [17, 18, 19, 20] (by decide +kernel) ?_) | (refine E_ef rfl (Ef_call (I := []) WideF.wide (k _) ⟨rfl, rfl, trivial⟩ rfl ?_); rintro v H3 I3 hle3 ⟨rfl, rfl⟩; refine ⟨⟨hle3, rfl⟩, ?_⟩) | refine O_nil ?_ | (show drJ _ _ _ _ _ _ _ (.q _ _) _; refine D_q rfl ?_) | (show drJ _ _ _ _ _ _ _ (.e _ _) _; refine D_e rfl ?_) | (show drJ _ _ _ _ _ _ _ (.r _) _; refine D_r ?_; simp only [List.cons_append, List.nil_append]) | (show drJ _ _ _ _ _ _ _ (.done _) _; refine D_done ?_; simp only [List.cons_append, List.nil_append]) | (show drQ _ _ _ _ _ _; first | refine D_ev rfl (Ev_pure rfl) rfl rfl ?_ | (show drQ _ _ _ ⟨_, .load _ _, _, _, _, _⟩ _ _; refine D_ev rfl (Ev_loadB1 (i := 0) rfl rfl rfl) rfl rfl ?_) | (show drQ _ _ _ ⟨_, .fieldAddr _ _ _, _, _, _, _⟩ _ _; refine D_ev rfl (Ev_fieldAddr rfl rfl rfl) rfl rfl ?_) | (show drQ _ _ _ ⟨_, .call _, _, _, _, _⟩ _ _; refine D_ev rfl (Ev_slen rfl) rfl rfl ?_) | (show drQ _ _ _ ⟨_, .binOp _ _ _ _ _, _, _, _, _⟩ _ _; refine D_ev rfl (Ev_add rfl rfl (wi64 (by omega))) rfl rfl ?_) | (show drQ _ _ _ ⟨_, .nilCheck _, _, _, _, _⟩ _ _; refine D_ev rfl (Ev_nilCheck rfl) rfl rfl ?_)) | (show drJ _ _ _ _ _ _ _ (.p _ _) _; refine D_p rfl ?_) | (show drP _ _ _ _ _ _; first | refine D_pv rfl (Ev_pure rfl) rfl rfl ?_ | (show drP _ _ _ ⟨_, .fieldAddr _ _ _, _, _, _, _⟩ _ _; refine D_pv rfl (Ev_fieldAddr rfl rfl rfl) rfl rfl ?_) | (show drP _ _ _ ⟨_, .nilCheck _, _, _, _, _⟩ _ _; refine D_pv rfl (Ev_nilCheck rfl) rfl rfl ?_)) | (show drE _ _ _ _ _ _ _; (show drE _ _ _ _ ⟨_, .store _ _ _, _, _, _, _⟩ _ _; (refine E_ef rfl (Ef_storea WideF.wide rfl rfl rfl rfl rfl rfl ?_); refine ⟨Grow.same rfl rfl, ?_⟩))))
  all_goals first
    | exact End_m (Ret0 rfl) ⟨rfl, rfl⟩
    | trace_state
set_option maxRecDepth 100000 in
theorem Index1_fn {H : Hp} {a : Option Addr} {x y : List UInt8} (hr : HRow H a 1 1 1 [[sv y]]) : FnP Tryz.prog 154 [.slice a 1 1, sv x] H (.int .i64 (if x = y then 0 else -1)) := by
  obtain ⟨b, o, cs, rfl, hi, -, hc⟩ := hr.at 0 (by omega)
  simp at hi
  subst hi
  by_cases hxy : x = y
  · simp only [hxy, if_true]
    refine Fn_of _ _ Tryz.func154 rfl Tryz.ntmps154 rfl fun c => ?_
    repeat' (first | (show wpA _ _ _ (.loop _) _ _ _ _; refine A_unroll 2 ?_) | (show unr _ _ _ _ _ _ _ _; refine U_succ ?_) | (refine O_ev WideF.wide rfl (Ev_loadH1 rfl (hc 0 _ rfl)) rfl rfl ?_) | (refine O_ev WideF.wide rfl (Ev_seqs rfl rfl) rfl rfl ?_) | refine O_nil ?_ | refine A_seq ?_ | refine A_region ?_ | refine A_skip ?_ | refine A_ret ?_ | refine A_block ?_ | (show opsA _ _ _ _ _ _ _; first | refine O_ev WideF.wide rfl (Ev_pure rfl) rfl rfl ?_ | (show opsA _ _ _ _ (⟨_, .indexAddr _ _ _, _, _, _, _⟩ :: _) _ _; refine O_ev WideF.wide rfl (Ev_indexAddr rfl rfl (by omega) (by omega)) rfl rfl ?_) | (show opsA _ _ _ _ (⟨_, .call _, _, _, _, _⟩ :: _) _ _; refine O_ev WideF.wide rfl (Ev_llen rfl) rfl rfl ?_)) | (show wpA _ _ _ (.cond _ _ _) _ _ _ _; first | (refine A_if rfl (fun h => ?_) (fun h => ?_) <;> try (exfalso; omega)) | refine A_iftrue rfl ?_))
    all_goals first
      | (exfalso; omega)
      | exact End_p (Ret1 rfl rfl) rfl
      | trace_state
  · simp only [hxy, if_false]
    refine Fn_of _ _ Tryz.func154 rfl Tryz.ntmps154 rfl fun c => ?_
    repeat' (first | (show wpA _ _ _ (.loop _) _ _ _ _; refine A_unroll 2 ?_) | (show unr _ _ _ _ _ _ _ _; refine U_succ ?_) | (refine O_ev WideF.wide rfl (Ev_loadH1 rfl (hc 0 _ rfl)) rfl rfl ?_) | refine O_nil ?_ | refine A_seq ?_ | refine A_region ?_ | refine A_skip ?_ | refine A_ret ?_ | refine A_block ?_ | (show opsA _ _ _ _ _ _ _; first | refine O_ev WideF.wide rfl (Ev_pure rfl) rfl rfl ?_ | (show opsA _ _ _ _ (⟨_, .indexAddr _ _ _, _, _, _, _⟩ :: _) _ _; refine O_ev WideF.wide rfl (Ev_indexAddr rfl rfl (by omega) (by omega)) rfl rfl ?_) | (show opsA _ _ _ _ (⟨_, .call _, _, _, _, _⟩ :: _) _ _; refine O_ev WideF.wide rfl (Ev_llen rfl) rfl rfl ?_) | (show opsA _ _ _ _ (⟨_, .binOp _ _ _ _ _, _, _, _, _⟩ :: _) _ _; first | refine O_ev WideF.wide rfl (Ev_add rfl rfl (wi64 (by omega))) rfl rfl ?_ | refine O_ev WideF.wide rfl (Ev_seql rfl rfl) rfl rfl ?_)) | (show wpA _ _ _ (.exit _) _ _ _ _; refine A_exit rfl ?_) | (show wpA _ _ _ (.cond _ _ _) _ _ _ _; (refine A_if rfl (fun h => ?_) (fun h => ?_) <;> try (exfalso; omega))))
    all_goals first
      | (exfalso; omega)
      | (exfalso; contradiction)
      | exact End_p (Ret1 rfl rfl) rfl
      | trace_state
theorem Contains1_fn {H : Hp} {a : Option Addr} {x y : List UInt8} (hr : HRow H a 1 1 1 [[sv y]]) : FnP Tryz.prog 133 [.slice a 1 1, sv x] H (.bool (decide (x = y))) := by
  have k := Index1_fn (x := x) hr
  by_cases hxy : x = y <;> simp only [hxy, if_true, if_false, decide_true, decide_false] at k ⊢
  all_goals
    refine Fn_of _ _ Tryz.func133 rfl Tryz.ntmps133 rfl fun c => ?_
    repeat' (first | (refine O_ef rfl (Ef_callp WideF.wide (k) ⟨rfl, rfl, trivial⟩ rfl ?_)) | refine O_nil ?_ | refine A_seq ?_ | refine A_region ?_ | refine A_ret ?_ | (show opsA _ _ _ _ _ _ _; refine O_ev WideF.wide rfl (Ev_pure rfl) rfl rfl ?_))
    all_goals exact End_p (Ret1 rfl rfl) rfl
set_option maxRecDepth 100000 in
theorem accept_yes {H : Hp} {s y : List UInt8} {t : Tok} {b : Nat} {a : Option Addr} (hs : s.length < 4611686018427387904) (ht : TokOk s t) (hr : HRow H a 1 1 1 [[sv y]]) (hy : t.kind = y) :
    Fn Tryz.prog 84 [.pointer (some ⟨b, 0, none⟩), .slice a 1 1] H [.box b (pcs s t)] fun v H' I => v = .tuple [sv t.kind, .bool true].toArray ∧ I = [.box b (pcs s (nxt s t))] := by
  have k := Contains1_fn (x := t.kind) hr
  simp only [hy, decide_true] at k
  have kn := fun Hx => next_fn (H := Hx) (b := b) hs ht
  simp only [← hy] at k
  refine Fn_of _ _ Tryz.func84 rfl Tryz.ntmps84 rfl fun c => ?_
  repeat' (first | (refine O_ef rfl (Ef_callp WideF.wide (k) ⟨rfl, rfl, trivial⟩ rfl ?_)) | (refine O_ef rfl (Ef_call0 WideF.wide (kn _) ⟨rfl, trivial⟩ rfl ?_); rintro v H3 I3 hle3 ⟨rfl, rfl⟩) | refine O_nil ?_ | refine A_seq ?_ | refine A_region ?_ | refine A_skip ?_ | refine A_ret ?_ | (show opsA _ _ _ _ _ _ _; first | refine O_ev WideF.wide rfl (Ev_pure rfl) rfl rfl ?_ | (show opsA _ _ _ _ (⟨_, .load _ _, _, _, _, _⟩ :: _) _ _; refine O_ev WideF.wide rfl (Ev_loadB1 (i := 0) rfl rfl rfl) rfl rfl ?_) | (show opsA _ _ _ _ (⟨_, .fieldAddr _ _ _, _, _, _, _⟩ :: _) _ _; refine O_ev WideF.wide rfl (Ev_fieldAddr rfl rfl rfl) rfl rfl ?_) | (show opsA _ _ _ _ (⟨_, .unOp _ _ _, _, _, _, _⟩ :: _) _ _; refine O_ev WideF.wide rfl (Ev_notb rfl) rfl rfl ?_) | (show opsA _ _ _ _ (⟨_, .nilCheck _, _, _, _, _⟩ :: _) _ _; refine O_ev WideF.wide rfl (Ev_nilCheck rfl) rfl rfl ?_)) | (show wpA _ _ _ (.cond _ _ _) _ _ _ _; refine A_iffalse rfl ?_))
  all_goals first
    | (exfalso; exact absurd rfl (by assumption))
    | exact End_m (Ret2 rfl rfl rfl) ⟨rfl, rfl⟩
    | trace_state
set_option maxRecDepth 100000 in
theorem accept_no {H : Hp} {s y : List UInt8} {t : Tok} {b : Nat} {a : Option Addr} (hr : HRow H a 1 1 1 [[sv y]]) (hy : ¬ t.kind = y) :
    Fn Tryz.prog 84 [.pointer (some ⟨b, 0, none⟩), .slice a 1 1] H [.box b (pcs s t)] fun v H' I => v = .tuple [sv [], .bool false].toArray ∧ I = [.box b (pcs s t)] := by
  have k := Contains1_fn (x := t.kind) hr
  simp only [hy, decide_false] at k
  refine Fn_of _ _ Tryz.func84 rfl Tryz.ntmps84 rfl fun c => ?_
  repeat' (first | (refine O_ef rfl (Ef_callp WideF.wide (k) ⟨rfl, rfl, trivial⟩ rfl ?_)) | refine O_nil ?_ | refine A_seq ?_ | refine A_region ?_ | refine A_ret ?_ | (show opsA _ _ _ _ _ _ _; first | refine O_ev WideF.wide rfl (Ev_pure rfl) rfl rfl ?_ | (show opsA _ _ _ _ (⟨_, .load _ _, _, _, _, _⟩ :: _) _ _; refine O_ev WideF.wide rfl (Ev_loadB1 (i := 0) rfl rfl rfl) rfl rfl ?_) | (show opsA _ _ _ _ (⟨_, .fieldAddr _ _ _, _, _, _, _⟩ :: _) _ _; refine O_ev WideF.wide rfl (Ev_fieldAddr rfl rfl rfl) rfl rfl ?_) | (show opsA _ _ _ _ (⟨_, .unOp _ _ _, _, _, _, _⟩ :: _) _ _; refine O_ev WideF.wide rfl (Ev_notb rfl) rfl rfl ?_) | (show opsA _ _ _ _ (⟨_, .nilCheck _, _, _, _, _⟩ :: _) _ _; refine O_ev WideF.wide rfl (Ev_nilCheck rfl) rfl rfl ?_)) | (show wpA _ _ _ (.cond _ _ _) _ _ _ _; refine A_iftrue rfl ?_))
  all_goals first
    | (exfalso; contradiction)
    | exact End_m (Ret2 rfl rfl rfl) ⟨rfl, rfl⟩
    | trace_state
set_option maxRecDepth 100000 in
theorem expect_yes {H : Hp} {s y : List UInt8} {t : Tok} {b : Nat} (hs : s.length < 4611686018427387904) (ht : TokOk s t) (hy : t.kind = y) :
    Fn Tryz.prog 43 [.pointer (some ⟨b, 0, none⟩), sv y] H [.box b (pcs s t)] fun v H' I => v = .tuple #[] ∧ I = [.box b (pcs s (nxt s t))] := by
  have k := fun Hx a hr => accept_yes (H := Hx) (a := a) (b := b) hs ht hr hy
  refine Fn_of _ _ Tryz.func43 rfl Tryz.ntmps43 rfl fun c => ?_
  repeat' (first | (refine O_ef rfl (Ef_build11 WideF.wide rfl rfl rfl ?_); intro bk; refine O_freeze (ones_of rfl) ?_; intro H1 hk1 hr1) | (refine O_ef rfl (Ef_call0 WideF.wide (k _ _ hr1) ⟨rfl, rfl, trivial⟩ rfl ?_); rintro v H3 I3 hle3 ⟨rfl, rfl⟩) | refine O_nil ?_ | refine A_seq ?_ | refine A_region ?_ | refine A_skip ?_ | (show opsA _ _ _ _ _ _ _; first | refine O_ev WideF.wide rfl (Ev_pure rfl) rfl rfl ?_ | (show opsA _ _ _ _ (⟨_, .unOp _ _ _, _, _, _, _⟩ :: _) _ _; refine O_ev WideF.wide rfl (Ev_notb rfl) rfl rfl ?_)) | (show wpA _ _ _ (.cond _ _ _) _ _ _ _; refine A_iffalse rfl ?_))
  all_goals first
    | (exfalso; exact absurd trivial (by assumption))
    | (exfalso; contradiction)
    | exact End_m (Ret0 rfl) ⟨rfl, rfl⟩
    | trace_state
end Go.Proofs.YtnoadopmeoohmaaGreatDoor
