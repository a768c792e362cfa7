/-
  Revisions: slices.Clone, BinarySearchFunc, Insert; comparisons; find, has, put, insert (printed by genQ3.py).
-/
import Derived.Test.YtlcoebomgaodgaaQ2
namespace Go.Proofs.Ytlcoebomgaodgaa
open Go
set_option linter.unusedVariables false
set_option linter.unusedSimpArgs false
section
variable {P : Program} {e : Env} {H : Hp} {R : Own} {dst : Option Tmp} {ty : TypeId} {pos : String} {after : Array Edge} {g : Option (Nat × Bool)} {x y z : Operand} {t t2 : TypeId}
theorem Ev_half {k k2 : IntKind} {m : Int} (hx : e.eval x = some (.int k m)) (hy : e.eval y = some (.int k2 1)) : Ev P ⟨dst, .binOp .shr t x y t2, ty, pos, after, g⟩ e H R (.int k (m / 2)) := by
  have h := Ev_shr (P := P) (H := H) (R := R) (dst := dst) (ty := ty) (pos := pos) (after := after) (g := g) (t := t) (t2 := t2) hx hy (by decide) (by cases k <;> decide)
  simpa using h
end
section
variable {P : Program} {e : Env} {H : Hp} {R : Own} {dst : Option Tmp} {ty : TypeId} {pos : String} {after : Array Edge} {g : Option (Nat × Bool)} {x y z u : Operand} {t : TypeId}
/-- x[i:j:m] -/
theorem Ev_lslice3 {el n c s : Nat} {ag : Bool} {ad : Option Addr} {i j m : Int} {k1 k2 k3 : IntKind} [ht : UndC P t (.slice el)] [hs : TyC P el ag s] (hx : e.eval x = some (.slice ad n c)) (hy : e.eval y = some (.int k1 i)) (hz : e.eval z = some (.int k2 j)) (hu : e.eval u = some (.int k3 m)) (h0 : 0 ≤ i) (h1 : i ≤ j) (h2 : j ≤ m) (h3 : m ≤ c) :
    Ev P ⟨dst, .slice t x (some y) (some z) (some u), ty, pos, after, g⟩ e H R (.slice (if m.toNat = i.toNat then ad else ad.map (·.add (i.toNat * s))) (j.toNat - i.toNat) (m.toNat - i.toNat)) := fun a w he _ _ => by
  have hb0 : Sem.run P (Instr.sliceBound (.int k3 m) c .slice3Acap) w = .ok m.toNat w := run_sliceBound w k3 m c .slice3Acap (by omega) h3
  have hb1 : Sem.run P (Instr.sliceBound (.int k2 j) m.toNat .slice3B) w = .ok j.toNat w := run_sliceBound w k2 j m.toNat .slice3B (by omega) (by omega)
  have hb2 : Sem.run P (Instr.sliceBound (.int k1 i) j.toNat .slice3C) w = .ok i.toNat w := run_sliceBound w k1 i j.toNat .slice3C h0 (by omega)
  simp only [execOp, he.eval hx, Option.map_some, he.eval hy, he.eval hz, he.eval hu, Instr.sliceAt, Sem.run_bind, ht.run, Result.andThen_ok, Instr.slice, Instr.sliceBounds, Sem.run_pure, hb0, hb1, hb2, Option.isSome_some, if_true, hs.sizeOf]
end
theorem ins_new {α : Type} {css : List α} {z v : α} {i n : Nat} (hn : css.length = n) (hi : i ≤ n) :
    ((css.take i ++ List.replicate (n + 1 - i) z).take i ++ [v] ++ (css.take i ++ List.replicate (n + 1 - i) z).drop (i + 1)).take (i + 1) ++ (css.drop i).take (n - i) ++ ((css.take i ++ List.replicate (n + 1 - i) z).take i ++ [v] ++ (css.take i ++ List.replicate (n + 1 - i) z).drop (i + 1)).drop (i + 1 + (n - i)) = css.take i ++ v :: css.drop i := by
  have h1 : (css.take i).length = i := by simp; omega
  have hA : (css.take i ++ List.replicate (n + 1 - i) z).length = n + 1 := by simp; omega
  have e1 : (css.take i ++ List.replicate (n + 1 - i) z).take i = css.take i := by rw [List.take_append_of_le_length (by omega), List.take_of_length_le (by omega)]
  have e2 : (css.take i ++ [v]).length = i + 1 := by simp; omega
  have e3 : (css.drop i).take (n - i) = css.drop i := List.take_of_length_le (by simp; omega)
  have e5 : (css.take i ++ [v] ++ (css.take i ++ List.replicate (n + 1 - i) z).drop (i + 1)).length = n + 1 := by rw [List.length_append, e2, List.length_drop, hA]; omega
  have e6 : (css.take i ++ [v] ++ (css.take i ++ List.replicate (n + 1 - i) z).drop (i + 1)).drop (i + 1 + (n - i)) = [] := List.drop_of_length_le (by omega)
  have e7 : (css.take i ++ [v] ++ (css.take i ++ List.replicate (n + 1 - i) z).drop (i + 1)).take (i + 1) = css.take i ++ [v] := by rw [List.take_append_of_le_length (by omega), List.take_of_length_le (by omega)]
  rw [e1, e3, e6, e7]
  simp
theorem sl_if {c i b j : Nat} (h : c ≠ i) : (if c = i then some (⟨b, 0, none⟩ : Addr) else Option.map (fun x : Addr => x.add j) (some ⟨b, 0, none⟩)) = some ⟨b, j, none⟩ := by
  rw [if_neg h]; simp [Addr.add_lit]
theorem ins_same {α : Type} {css junk : List α} {v : α} {i n : Nat} (hn : css.length = n) (hj : junk.length = 1) (hi : i < n) :
    ((css ++ junk).take (i + 1) ++ ((css ++ junk).drop i).take (n - i) ++ (css ++ junk).drop (i + 1 + (n - i))).take i ++ [v] ++ ((css ++ junk).take (i + 1) ++ ((css ++ junk).drop i).take (n - i) ++ (css ++ junk).drop (i + 1 + (n - i))).drop (i + 1) = css.take i ++ v :: css.drop i := by
  have e1 : (css ++ junk).take (i + 1) = css.take (i + 1) := List.take_append_of_le_length (by omega)
  have e2 : ((css ++ junk).drop i).take (n - i) = css.drop i := by
    rw [List.drop_append_of_le_length (by omega), List.take_append_of_le_length (by simp; omega), List.take_of_length_le (by simp; omega)]
  have e3 : (css ++ junk).drop (i + 1 + (n - i)) = [] := List.drop_of_length_le (by simp; omega)
  have e4 : (css.take (i + 1)).length = i + 1 := by simp; omega
  rw [e1, e2, e3, List.append_nil, List.take_append_of_le_length (by omega), List.take_take, Nat.min_eq_left (by omega), List.drop_append_of_le_length (by omega), List.drop_of_length_le (by omega)]
  simp
/-- where a number stands in an increasing list, or would stand -/
structure Spot (l : List Int) (x : Int) (i : Nat) : Prop where
  le : i ≤ l.length
  lo : ∀ j a, j < i → l[j]? = some a → a < x
  hi : ∀ j a, i ≤ j → l[j]? = some a → x ≤ a
theorem Spot.mem {l : List Int} (hs : Inc l) {x : Int} {i : Nat} (h : Spot l x i) : x ∈ l ↔ l[i]? = some x := by
  constructor
  · intro hm
    obtain ⟨j, hj⟩ := List.mem_iff_getElem?.1 hm
    rcases Nat.lt_trichotomy j i with h1 | h1 | h1
    · have := h.lo j x h1 hj; omega
    · subst h1; exact hj
    · have hjl := (List.getElem?_eq_some_iff.1 hj).1
      have hil : i < l.length := by omega
      have h2 := h.hi i l[i] (Nat.le_refl _) (by simp [hil])
      have h3 := hs.lt (i := i) (j := j) (a := l[i]) (b := x) (by simp [hil]) hj h1
      omega
  · exact fun h => List.mem_of_getElem? h
theorem Spot.not {l : List Int} {x : Int} {i : Nat} (h : Spot l x i) (hn : l.length ≤ i) : x ∉ l := fun hm => by
  obtain ⟨j, hj⟩ := List.mem_iff_getElem?.1 hm
  have hjl := (List.getElem?_eq_some_iff.1 hj).1
  have := h.lo j x (by omega) hj
  omega
theorem HRow.slice {H : Hp} {a : Option Addr} {n c k : Nat} {css : List (List Value)} (h : HRow H a n c k css) {i j : Nat} (h1 : i ≤ j) (h2 : j ≤ n) :
    HRow H (if c = i then a else a.map (·.add (i * k))) (j - i) (c - i) k ((css.drop i).take (j - i)) := by
  have hc := h.cap
  refine ⟨by rw [List.length_take, List.length_drop, h.len]; omega, by omega, fun hn => ?_, fun q cs hq => ?_⟩
  · have : a = none := by
      split at hn
      · exact hn
      · simpa using hn
    have := h.nil this
    omega
  · rw [List.getElem?_take] at hq
    split at hq
    · rename_i hlt
      rw [List.getElem?_drop] at hq
      obtain ⟨hl, b, o, ha, hcs⟩ := h.el (i + q) cs hq
      refine ⟨hl, b, o + i * k, ?_, ?_⟩
      · rw [if_neg (by omega), ha]
        simp [Addr.add_lit]
      · intro x v hx
        have := hcs x v hx
        rwa [show o + i * k + q * k + x = o + (i + q) * k + x by rw [Nat.add_mul]; omega]
    · cases hq
theorem HRow.upto {H : Hp} {a : Option Addr} {n c k : Nat} {css : List (List Value)} (h : HRow H a n c k css) {j : Nat} (hj : j ≤ n) : HRow H a j c k (css.take j) := by
  have hc := h.cap
  refine ⟨by rw [List.length_take, h.len]; omega, by omega, fun hn => ?_, fun q cs hq => ?_⟩
  · have := h.nil hn; omega
  · rw [List.getElem?_take] at hq
    split at hq
    · exact h.el q cs hq
    · cases hq
theorem eq_rev (x y : Rev) : ∀ w, (Op.equalIn 10000 23 (.agg (rrow x).toArray) (.agg (rrow y).toArray)).run Try.prog w = .ok (decide (x = y)) w := fun w => by
  have key : ∀ m : Nat, (Op.equalIn (m + 2) 23 (.agg (rrow x).toArray) (.agg (rrow y).toArray)).run Try.prog w = .ok (decide (x = y)) w := fun m => by
    have hf := fieldsOf_of Try.underlying23
    unfold rrow
    rw [run_equalIn_agg (P := Try.prog) w (m + 1) _ _ _ (by rw [hf]; exact Try.underlying23) Try.stoodInHeld23, hf]
    have h1 := fun x y : Int => run_equalIn_int (P := Try.prog) w m 3 .i64 .i64 x y Try.underlying3
    have h2 := fun x y : List UInt8 => run_equalIn_string (P := Try.prog) (w := w) m 9 ⟨x.toArray⟩ ⟨y.toArray⟩ Try.underlying9
    simp [Op.eqFields, part, Try.isAgg3, Try.isAgg9, h1, h2]
    obtain ⟨a, b, c⟩ := x
    obtain ⟨a', b', c'⟩ := y
    by_cases e1 : a = a' <;> by_cases e2 : b = b' <;> by_cases e3 : c = c' <;> simp [e1, e2, e3]
  exact key 9998
attribute [local irreducible] wpA opsA drJ drQ drE Ef Ev Shift Fn
set_option maxRecDepth 100000 in
theorem CloneRev_fn {H : Hp} {a : Option Addr} {n cp : Nat} {css : List (List Value)} (hr : HRow H a n cp 3 css) (hl : n < 68719476736) : Fn Try.prog 40 [.slice a n cp] H [] fun v H' I' => H' = H ∧ ∃ a' c', v = .slice a' n c' ∧ I' = [.row v 3 css] := by
  have hn := hr.len
  cases a with
  | none =>
    obtain ⟨rfl, rfl⟩ := hr.nil rfl
    have hcss : css = [] := List.eq_nil_of_length_eq_zero hn
    subst hcss
    refine Fn_of _ _ Try.func40 rfl Try.ntmps40 rfl fun c => ?_
    refine A_nilrow 3 ?_
    repeat' (first | (refine O_ev WideF.wide rfl (Ev_eqnil rfl rfl) rfl rfl ?_) | refine O_nil ?_ | refine A_seq ?_ | refine A_region ?_ | refine A_ret ?_ | (show opsA _ _ _ _ _ _ _; refine O_ev WideF.wide rfl (Ev_pure rfl) rfl rfl ?_) | (show wpA _ _ _ (.cond _ _ _) _ _ _ _; refine A_iftrue rfl ?_))
    exact End_m (Ret1 rfl rfl) ⟨rfl, none, 0, rfl, rfl⟩
  | some ad =>
    refine Fn_of _ _ Try.func40 rfl Try.ntmps40 rfl fun c => ?_
    repeat' (first | (refine O_ev WideF.wide rfl (Ev_eqnil rfl rfl) rfl rfl ?_) | (refine O_ef rfl (Ef_build0 WideF.wide rfl ?_); intro b) | (refine O_ef rfl (Ef_appendH WideF.wide rfl rfl hr rfl rfl (by simp; omega) (by simp; omega) rfl ?_); intro a' c') | refine O_nil ?_ | refine A_seq ?_ | refine A_region ?_ | refine A_skip ?_ | refine A_ret ?_ | (show opsA _ _ _ _ _ _ _; refine O_ev WideF.wide rfl (Ev_pure rfl) rfl rfl ?_) | (show wpA _ _ _ (.cond _ _ _) _ _ _ _; refine A_iffalse rfl ?_))
    exact End_m (Ret1 rfl rfl) ⟨rfl, a', c', by simp [hn], by simp⟩
set_option maxRecDepth 100000 in
theorem cmpRev_fn {H : Hp} {p : Rev} {x : Int} : Fn Try.prog 56 [.agg (rrow p).toArray, .int .i64 x] H [] fun v H' I' => v = .int .i64 (cmpI p.id x) ∧ H' = H ∧ I' = [] := by
  unfold rrow
  refine Fn_of _ _ Try.func56 rfl Try.ntmps56 rfl fun c => ?_
  repeat' (first | (refine O_ef rfl (Ef_callp WideF.wide (Compare_fn) ⟨rfl, rfl, trivial⟩ rfl ?_)) | refine O_nil ?_ | refine A_seq ?_ | refine A_region ?_ | refine A_ret ?_ | (show opsA _ _ _ _ _ _ _; first | refine O_ev WideF.wide rfl (Ev_pure rfl) rfl rfl ?_ | (show opsA _ _ _ _ (⟨_, .load _ _, _, _, _, _⟩ :: _) _ _; refine O_ev WideF.wide rfl (Ev_loadB1 (i := 0) rfl rfl rfl) rfl rfl ?_) | (show opsA _ _ _ _ (⟨_, .fieldAddr _ _ _, _, _, _, _⟩ :: _) _ _; refine O_ev WideF.wide rfl (Ev_fieldAddr rfl rfl rfl) rfl rfl ?_) | (show opsA _ _ _ _ (⟨_, .box _ _, _, _, _, _⟩ :: _) _ _; (refine O_ef rfl (Ef_boxa WideF.wide rfl rfl ?_); intro b))))
  exact End_p (Ret1 rfl rfl) rfl
set_option maxRecDepth 100000 in
theorem bsRev_fn {H : Hp} {a : Option Addr} {n cq : Nat} {l : List Rev} {x : Int} (hx : HRow H a n cq 3 (l.map rrow)) (hs : Inc (l.map Rev.id)) (hm : n < 68719476736) :
    Fn Try.prog 55 [.slice a n cq, .int .i64 x, .func (.func 56) #[] #[]] H [] fun v H' I' => (∃ i : Nat, Spot (l.map Rev.id) x i ∧ v = .tuple [.int .i64 i, .bool (decide (x ∈ (l.map Rev.id)))].toArray) ∧ H' = H ∧ I' = [] := by
  have e1 : l.length = n := by have := hx.len; simpa using this
  refine Fn_of _ _ Try.func55 rfl Try.ntmps55 rfl fun c => ?_
  repeat' (first | refine O_nil ?_ | refine A_seq ?_ | refine A_region ?_ | refine A_block ?_ | (show opsA _ _ _ _ _ _ _; first | refine O_ev WideF.wide rfl (Ev_pure rfl) rfl rfl ?_ | (show opsA _ _ _ _ (⟨_, .call _, _, _, _, _⟩ :: _) _ _; refine O_ev WideF.wide rfl (Ev_llen rfl) rfl rfl ?_)))
  refine A_loopu (fun m s => ∃ (i j : Nat), m = j - i ∧ i ≤ j ∧ j ≤ n ∧ (∀ q b, q < i → (l.map Rev.id)[q]? = some b → b < x) ∧ (∀ q b, j ≤ q → (l.map Rev.id)[q]? = some b → x ≤ b) ∧ s = ⟨49, [(0, .slice a n cq), (1, .int .i64 x), (2, .func (.func 56) #[] #[]), (8, .int .i64 n), (9, .int .i64 i), (10, .int .i64 j)], H, [], [], []⟩) ?_ ?_
  · exact Shift.to ⟨_, 0, n, rfl, by omega, by omega, fun q b hq => absurd hq (by omega), fun q b hq hb => absurd (List.getElem?_eq_some_iff.1 hb).1 (by simp; omega), rfl⟩ ⟨rfl, rfl, rfl, ⟨rfl, rfl, rfl, rfl, rfl, rfl, trivial⟩, Own.sub_nil _⟩
  · rintro m s ⟨i, j, rfl, hij, hj, h1, h2, rfl⟩
    by_cases hlt : i < j
    · obtain ⟨md, hh⟩ : ∃ md : Nat, md = (i + j) / 2 := ⟨_, rfl⟩
      have hI : ((i : Int) + j) / 2 = (md : Nat) := by omega
      obtain ⟨b', o, p, rfl, hp, hc⟩ := hx.atm md (by omega)
      have hpk : (l.map Rev.id)[md]? = some (Rev.id p) := by rw [List.getElem?_map, hp]; rfl
      unfold rrow at hc
      repeat' (first | (refine O_ev WideF.wide rfl (Ev_conv (k2 := .u64) rfl (wu64 (by omega))) rfl rfl ?_) | (refine O_ev WideF.wide rfl (Ev_half rfl rfl) rfl rfl ?_; rw [hI]) | (refine O_ev WideF.wide rfl (Ev_loadH rfl hc rfl) rfl rfl ?_) | (refine O_ef rfl (Ef_callvp WideF.wide (f := 56) (cmpRev_fn (p := p)) rfl ⟨rfl, rfl, trivial⟩ rfl ?_)) | refine O_nil ?_ | refine A_seq ?_ | refine A_region ?_ | refine A_skip ?_ | refine A_block ?_ | (show opsA _ _ _ _ _ _ _; first | refine O_ev WideF.wide rfl (Ev_pure rfl) rfl rfl ?_ | (show opsA _ _ _ _ (⟨_, .indexAddr _ _ _, _, _, _, _⟩ :: _) _ _; refine O_ev WideF.wide rfl (Ev_indexAddr rfl rfl (by omega) (by omega)) rfl rfl ?_) | (show opsA _ _ _ _ (⟨_, .binOp _ _ _ _ _, _, _, _, _⟩ :: _) _ _; refine O_ev WideF.wide rfl (Ev_add rfl rfl (wi64 (by omega))) rfl rfl ?_) | (show opsA _ _ _ _ (⟨_, .convert _ _ _, _, _, _, _⟩ :: _) _ _; refine O_ev WideF.wide rfl (Ev_conv (k2 := .i64) rfl (wi64 (by omega))) rfl rfl ?_)) | (show wpA _ _ _ (.cond _ _ _) _ _ _ _; (refine A_if rfl (fun h => ?_) (fun h => ?_) <;> try (exfalso; omega))))
      · refine Shift.to ⟨_, ?_, md + 1, j, rfl, by omega, by omega, ?_, h2, rfl⟩ ⟨rfl, rfl, rfl, ⟨rfl, rfl, rfl, rfl, rfl, rfl, trivial⟩, Own.sub_nil _⟩
        · omega
        · intro q b hq hb
          have hle := hs.le hb hpk (by omega)
          have hlt2 : Rev.id p < x := cmpI_lt.1 (by assumption)
          exact Int.lt_of_le_of_lt hle hlt2
      · refine Shift.to ⟨_, ?_, i, md, rfl, by omega, by omega, h1, ?_, rfl⟩ ⟨rfl, rfl, rfl, ⟨rfl, rfl, rfl, rfl, rfl, rfl, trivial⟩, Own.sub_nil _⟩
        · omega
        · intro q b hq hb
          have hle := hs.le hpk hb hq
          have hge : x ≤ Rev.id p := by have hng : ¬ (cmpI (Rev.id p) x < 0) := (by assumption); rw [cmpI_lt] at hng; omega
          exact Int.le_trans hge hle
    · have hji : i = j := by omega
      subst hji
      have hsp : Spot (l.map Rev.id) x i := ⟨by first | omega | (simp; omega), h1, h2⟩
      by_cases hin : i < n
      · obtain ⟨b', o, p, rfl, hp, hc⟩ := hx.atm i hin
        have hpk : (l.map Rev.id)[i]? = some (Rev.id p) := by rw [List.getElem?_map, hp]; rfl
        have hmem := hsp.mem hs
        rw [hpk] at hmem
        unfold rrow at hc
        repeat' (first | (refine O_ev WideF.wide rfl (Ev_loadH rfl hc rfl) rfl rfl ?_) | (refine O_ef rfl (Ef_callvp WideF.wide (f := 56) (cmpRev_fn (p := p)) rfl ⟨rfl, rfl, trivial⟩ rfl ?_)) | refine O_nil ?_ | refine A_seq ?_ | refine A_region ?_ | refine A_ret ?_ | (show opsA _ _ _ _ _ _ _; first | (refine O_split rfl rfl (fun h => ?_) (fun h => ?_) <;> try (exfalso; omega)) | refine O_ev WideF.wide rfl (Ev_pure rfl) rfl rfl ?_ | (show opsA _ _ _ _ (⟨_, .indexAddr _ _ _, _, _, _, _⟩ :: _) _ _; refine O_ev WideF.wide rfl (Ev_indexAddr rfl rfl (by omega) (by omega)) rfl rfl ?_)) | (show wpA _ _ _ (.exit _) _ _ _ _; refine A_exit rfl ?_) | (show wpA _ _ _ (.cond _ _ _) _ _ _ _; (refine A_if rfl (fun h => ?_) (fun h => ?_) <;> try (exfalso; omega))))
        all_goals (
          refine End_e (Ret2 rfl rfl rfl) ⟨⟨i, hsp, ?_⟩, rfl, rfl⟩
          refine congrArg (fun b => Value.tuple [.int .i64 (i : Int), .bool b].toArray) ?_
          rw [Bool.eq_iff_iff]
          simp only [decide_eq_true_eq, hmem, Option.some.injEq, cmpI_eq]
          try simp
          try omega)
      · have hno := hsp.not (by first | omega | (simp; omega))
        repeat' (first | refine O_nil ?_ | refine A_seq ?_ | refine A_region ?_ | refine A_ret ?_ | (show opsA _ _ _ _ _ _ _; first | (refine O_split rfl rfl (fun h => ?_) (fun h => ?_) <;> try (exfalso; omega)) | refine O_ev WideF.wide rfl (Ev_pure rfl) rfl rfl ?_ | refine O_skip WideF.wide rfl rfl rfl ?_) | (show wpA _ _ _ (.exit _) _ _ _ _; refine A_exit rfl ?_) | (show wpA _ _ _ (.cond _ _ _) _ _ _ _; (refine A_if rfl (fun h => ?_) (fun h => ?_) <;> try (exfalso; omega))))
        refine End_e (Ret2 rfl rfl rfl) ⟨⟨i, hsp, ?_⟩, rfl, rfl⟩
        first | rw [decide_eq_false hno] | (have : x ∉ (l.map Rev.id) := hno; simp [this])
theorem ovRev : ∀ args w, (callFunc 57 args).run Try.prog w = ((Extern.SlicesOverlaps.overlaps #[24, 24] #[4] args).run Try.prog w).andThen fun v w' => .ok (.value v) w' := fun args w => by
  rw [run_callFunc_extern Try.func57 (by kernel_rfl) (by kernel_rfl) (by kernel_rfl) (e := Extern.SlicesOverlaps.overlaps #[24, 24] #[4]) (by kernel_rfl)]
set_option maxRecDepth 100000 in
set_option maxHeartbeats 2000000 in
theorem insRev_fn {H : Hp} {a va : Option Addr} {n cp vc i : Nat} {css : List (List Value)} {nv : List Value} (hi : i ≤ n) (h1 : ∀ cs ∈ css, ∀ u ∈ cs, u.oneCell' = true) (h2 : ∀ u ∈ nv, u.oneCell' = true) (hm : n < 68719476736) :
    Fn Try.prog 42 [.slice a n cp, .int .i64 i, .slice va 1 vc] H [.row (.slice a n cp) 3 css, .row (.slice va 1 vc) 3 [nv]] fun v H' I' => H' = H ∧ ∃ a' c', v = .slice a' (n + 1) c' ∧ I' = [.row (.slice a' (n + 1) c') 3 (css.take i ++ nv :: css.drop i)] := by
  have onv' : ∀ cs ∈ [nv], ∀ u ∈ cs, u.oneCell' = true := fun cs hcs => by rw [List.mem_singleton] at hcs; subst hcs; exact h2
  have onv : ([nv].all fun cs => cs.all (·.oneCell')) = true := List.all_eq_true.2 fun cs hcs => List.all_eq_true.2 (onv' cs hcs)
  refine Fn_of _ _ Try.func42 rfl Try.ntmps42 rfl fun c => ?_
  refine A_rowaddr (q := 0) rfl ?_
  intro r1 r2 r3 r4 r5
  refine A_rowaddr (q := 1) rfl ?_
  intro s1 s2 s3 s4 s5
  obtain ⟨vb, rfl⟩ : ∃ vb, va = some ⟨vb, 0, none⟩ := by
    cases va with
    | none => have := (s3 rfl).1; simp at this
    | some ad => obtain ⟨vb, rfl⟩ := s5 _ rfl; exact ⟨vb, rfl⟩
  by_cases hin : i = n
  · repeat' (first | (refine O_ev WideF.wide rfl (Ev_lslicel rfl rfl (by omega) (by omega)) rfl rfl ?_) | (refine O_ef rfl (Ef_appendR WideF.wide rfl rfl rfl rfl onv (by simp; omega) (by simp; omega) rfl ?_); intro a1 c1) | refine O_nil ?_ | refine A_seq ?_ | refine A_region ?_ | refine A_skip ?_ | refine A_ret ?_ | (show opsA _ _ _ _ _ _ _; first | refine O_ev WideF.wide rfl (Ev_pure rfl) rfl rfl ?_ | (show opsA _ _ _ _ (⟨_, .call _, _, _, _, _⟩ :: _) _ _; refine O_ev WideF.wide rfl (Ev_llen rfl) rfl rfl ?_)) | (show wpA _ _ _ (.cond _ _ _) _ _ _ _; (refine A_if rfl (fun h => ?_) (fun h => ?_) <;> try (exfalso; omega))))
    have hl : (css ++ [nv]).length = n + 1 := by simp; omega
    simp only [hl]
    refine End_m (Ret1 rfl rfl) ⟨rfl, _, _, rfl, ?_⟩
    subst hin
    rw [List.take_of_length_le (by omega), List.drop_of_length_le (by omega)]
  · obtain ⟨sb, rfl⟩ : ∃ sb, a = some ⟨sb, 0, none⟩ := by
      cases a with
      | none => have := (r3 rfl).1; subst this; simp at r1; omega
      | some ad => obtain ⟨sb, rfl⟩ := r5 _ rfl; exact ⟨sb, rfl⟩
    by_cases hgr : cp < n + 1
    · repeat' (first | (refine O_ev WideF.wide rfl (Ev_lslicel rfl rfl (by omega) (by omega)) rfl rfl ?_) | (refine O_ev WideF.wide rfl (Ev_lsliceh rfl rfl (by omega) (by omega)) rfl rfl ?_) | (refine O_ef rfl (Ef_growZ (m := n + 1 - i) WideF.wide rfl rfl (by omega) (by omega) hi (by omega) rfl rfl (by omega) (by omega) rfl ?_); intro nb nc hnc) | (refine O_f2 (O_f1 (O_ef rfl (Ef_copyR (i := i) WideF.wide rfl rfl (by omega) (by omega) (.inr (by rw [if_neg (by omega)]; simp [Addr.add_lit])) onv' rfl rfl ?_)))) | (refine A_drawi WideF.wide (.q 0 (.q 1 (.q 2 (.q 3 (.q 4 (.q 5 (.q 6 (.q 7 (.e 8 (.done [])))))))))) [] [0, 2, 1] [] (by decide +kernel) (by decide) rfl ?_; simp only [Own.picks, Own.rget, List.cons_append, List.nil_append, List.append_nil]) | (refine D_ev rfl (Ev_lslicel rfl rfl (by omega) (by omega)) rfl rfl ?_) | (refine E_ef rfl (Ef_copyT (i := i + 1) (j := i) (q := n - i) WideF.wide rfl rfl (by omega) (by omega) (by omega) (by first | exact .inr (by rw [if_neg (by omega)]; simp [Addr.add_lit]) | exact .inl (by omega)) (by first | exact .inr (by rw [if_neg (by omega)]; simp [Addr.add_lit]) | exact .inl (by omega)) (fun cs hcs => h1 cs (List.mem_of_mem_drop (List.mem_of_mem_take hcs))) rfl rfl ?_); refine ⟨Grow.same rfl rfl, ?_⟩) | refine O_nil ?_ | refine A_seq ?_ | refine A_region ?_ | refine A_skip ?_ | refine A_ret ?_ | (show drJ _ _ _ _ _ _ _ (.q _ _) _; refine D_q rfl ?_) | (show drJ _ _ _ _ _ _ _ (.e _ _) _; refine D_e rfl ?_) | (show drJ _ _ _ _ _ _ _ (.done _) _; refine D_done ?_; simp only [List.cons_append, List.nil_append]) | (show drQ _ _ _ _ _ _; first | refine D_ev rfl (Ev_pure rfl) rfl rfl ?_ | (show drQ _ _ _ ⟨_, .binOp _ _ _ _ _, _, _, _, _⟩ _ _; refine D_ev rfl (Ev_add rfl rfl (wi64 (by omega))) rfl rfl ?_)) | (show opsA _ _ _ _ _ _ _; first | refine O_ev WideF.wide rfl (Ev_pure rfl) rfl rfl ?_ | (show opsA _ _ _ _ (⟨_, .call _, _, _, _, _⟩ :: _) _ _; first | refine O_ev WideF.wide rfl (Ev_llen rfl) rfl rfl ?_ | refine O_ev WideF.wide rfl (Ev_lcap rfl) rfl rfl ?_) | (show opsA _ _ _ _ (⟨_, .binOp _ _ _ _ _, _, _, _, _⟩ :: _) _ _; first | refine O_ev WideF.wide rfl (Ev_add rfl rfl (wi64 (by omega))) rfl rfl ?_ | refine O_ev WideF.wide rfl (Ev_sub rfl rfl (wi64 (by omega))) rfl rfl ?_)) | (show wpA _ _ _ (.cond _ _ _) _ _ _ _; (refine A_if rfl (fun h => ?_) (fun h => ?_) <;> try (exfalso; omega))))
      have hit : ((i : Int).toNat) = i := by simp
      simp only [hit, show i + (n + 1 - i) = n + 1 by omega]
      rw [ins_new r1.symm hi]
      exact End_s (Ret1 rfl rfl) (Shift.lek ⟨95, [], H, [.row (.slice (some ⟨nb, 0, none⟩) (n + 1) nc) 3 (css.take i ++ nv :: css.drop i)], [], []⟩ ⟨rfl, rfl, rfl, trivial, Own.subi [0] (by decide) rfl rfl⟩ (Shift.pure ⟨rfl, rfl, _, _, rfl, rfl⟩))
    · have ojk : ∀ junk : List (List Value), junk.length = 1 → ∀ cs ∈ ((css ++ junk).drop i).take (n - i), ∀ u ∈ cs, u.oneCell' = true := fun junk hj cs hcs => by
        rw [List.drop_append_of_le_length (by omega), List.take_append_of_le_length (by simp; omega)] at hcs
        exact h1 cs (List.mem_of_mem_drop (List.mem_of_mem_take hcs))
      repeat' (first | (refine O_more 1 (by omega) ?_; intro junk hj1 hj2; refine O_ev WideF.wide rfl (Ev_lsliceh rfl rfl (by omega) (by omega)) rfl rfl ?_) | (refine O_ev WideF.wide rfl (Ev_lslicel rfl rfl (by omega) (by omega)) rfl rfl ?_) | (refine A_drawi WideF.wide (.q 0 (.q 1 (.q 2 (.q 3 (.q 4 (.q 5 (.q 6 (.q 7 (.e 8 (.done [])))))))))) [] [0, 1] [] (by decide +kernel) (by decide) rfl ?_; simp only [Own.picks, Own.rget, List.cons_append, List.nil_append, List.append_nil]) | (refine D_ev rfl (Ev_lslicel rfl rfl (by omega) (by omega)) rfl rfl ?_) | (refine E_ef rfl (Ef_copyS (i := i + 1) (j := i) (q := n - i) WideF.wide rfl rfl (by omega) (by omega) (by omega) (by first | exact .inr (by rw [if_neg (by omega)]; simp [Addr.add_lit]) | exact .inl (by omega)) (by first | exact .inr (by rw [if_neg (by omega)]; simp [Addr.add_lit]) | exact .inl (by omega)) (ojk junk hj1) rfl rfl ?_); refine ⟨Grow.same rfl rfl, ?_⟩) | (refine O_ef rfl (Ef_copyR (i := i) WideF.wide rfl rfl (by omega) (by omega) (.inr (by rw [if_neg (by omega)]; simp [Addr.add_lit])) onv' rfl rfl ?_)) | (refine O_ef rfl (Ef_overlaps WideF.wide ovRev rfl (congrArg some (congrArg (fun z => Value.slice z _ _) (sl_if (by omega)))) (by simp; omega) (by omega) rfl ?_)) | refine O_nil ?_ | refine A_seq ?_ | refine A_region ?_ | refine A_skip ?_ | refine A_ret ?_ | (show drJ _ _ _ _ _ _ _ (.q _ _) _; refine D_q rfl ?_) | (show drJ _ _ _ _ _ _ _ (.e _ _) _; refine D_e rfl ?_) | (show drJ _ _ _ _ _ _ _ (.done _) _; refine D_done ?_; simp only [List.cons_append, List.nil_append]) | (show drQ _ _ _ _ _ _; first | refine D_ev rfl (Ev_pure rfl) rfl rfl ?_ | (show drQ _ _ _ ⟨_, .binOp _ _ _ _ _, _, _, _, _⟩ _ _; refine D_ev rfl (Ev_add rfl rfl (wi64 (by omega))) rfl rfl ?_)) | (show opsA _ _ _ _ _ _ _; first | refine O_ev WideF.wide rfl (Ev_pure rfl) rfl rfl ?_ | (show opsA _ _ _ _ (⟨_, .call _, _, _, _, _⟩ :: _) _ _; first | refine O_ev WideF.wide rfl (Ev_llen rfl) rfl rfl ?_ | refine O_ev WideF.wide rfl (Ev_lcap rfl) rfl rfl ?_) | (show opsA _ _ _ _ (⟨_, .binOp _ _ _ _ _, _, _, _, _⟩ :: _) _ _; refine O_ev WideF.wide rfl (Ev_add rfl rfl (wi64 (by omega))) rfl rfl ?_) | (show opsA _ _ _ _ (⟨_, .unOp _ _ _, _, _, _, _⟩ :: _) _ _; refine O_ev WideF.wide rfl (Ev_notb rfl) rfl rfl ?_)) | (show wpA _ _ _ (.cond _ _ _) _ _ _ _; first | (refine A_if rfl (fun h => ?_) (fun h => ?_) <;> try (exfalso; omega)) | refine A_iftrue rfl ?_))
      have hit : ((i : Int).toNat) = i := by simp
      have hnt : ((n : Int) + ((1 : Nat) : Int)).toNat = n + 1 := by omega
      simp only [hit, hnt]
      rw [ins_same r1.symm hj1 (by omega)]
      exact End_s (Ret1 rfl rfl) (Shift.lek ⟨95, [], H, [.row (.slice (some ⟨sb, 0, none⟩) (n + 1) cp) 3 (css.take i ++ nv :: css.drop i)], [], []⟩ ⟨rfl, rfl, rfl, trivial, Own.subi [0] (by decide) rfl rfl⟩ (Shift.pure ⟨rfl, rfl, _, _, rfl, rfl⟩))
set_option maxRecDepth 100000 in
theorem place_fn {H : Hp} {a : Option Addr} {n cq : Nat} {l : List Rev} {x : Int} (hx : HRow H a n cq 3 (l.map rrow)) (hs : Inc (l.map Rev.id)) (hm : n < 68719476736) :
    Fn Try.prog 41 [.slice a n cq, .int .i64 x] H [] fun v H' I' => (∃ i : Nat, Spot (l.map Rev.id) x i ∧ v = .tuple [.int .i64 i, .bool (decide (x ∈ (l.map Rev.id)))].toArray) ∧ H' = H ∧ I' = [] := by
  refine Fn_of _ _ Try.func41 rfl Try.ntmps41 rfl fun c => ?_
  repeat' (first | (refine O_ef rfl (Ef_call (I := []) WideF.wide (bsRev_fn hx hs hm) ⟨rfl, rfl, rfl, trivial⟩ rfl ?_); rintro v H' I' hk ⟨⟨i, hsp, rfl⟩, rfl, rfl⟩) | refine O_nil ?_ | refine A_seq ?_ | refine A_region ?_ | refine A_ret ?_ | (show opsA _ _ _ _ _ _ _; refine O_ev WideF.wide rfl (Ev_pure rfl) rfl rfl ?_))
  exact End_e (Ret2 rfl rfl rfl) ⟨⟨i, hsp, rfl⟩, rfl, rfl⟩
/-! ### comparisons -/
set_option maxRecDepth 100000 in
theorem same_fn {H : Hp} {a a' : Option Addr} {n cq n' cq' : Nat} {l l' : List Int} (hx : HRow H a n cq 1 (l.map irow)) (hx' : HRow H a' n' cq' 1 (l'.map irow)) (hm : n < 68719476736) : FnP Try.prog 27 [.slice a n cq, .slice a' n' cq'] H (.bool (decide (l = l'))) := by
  have e1 : l.length = n := by have := hx.len; simpa using this
  have e2 : l'.length = n' := by have := hx'.len; simpa using this
  refine Fn_of _ _ Try.func27 rfl Try.ntmps27 rfl fun c => ?_
  by_cases hn : n = n'
  · repeat' (first | refine O_nil ?_ | refine A_seq ?_ | refine A_region ?_ | refine A_skip ?_ | refine A_block ?_ | (show opsA _ _ _ _ _ _ _; first | refine O_ev WideF.wide rfl (Ev_pure rfl) rfl rfl ?_ | (show opsA _ _ _ _ (⟨_, .call _, _, _, _, _⟩ :: _) _ _; refine O_ev WideF.wide rfl (Ev_llen rfl) rfl rfl ?_)) | (show wpA _ _ _ (.cond _ _ _) _ _ _ _; (refine A_if rfl (fun h => ?_) (fun h => ?_) <;> try (exfalso; omega))))
    refine A_loopu (fun m s => ∃ i : Nat, m = n - i ∧ i ≤ n ∧ (∀ j, j < i → l[j]? = l'[j]?) ∧ s = ⟨26, [(0, .slice a n cq), (1, .slice a' n' cq'), (5, .int .i64 i)], H, [], [], []⟩) ?_ ?_
    · exact Shift.to ⟨_, 0, rfl, by omega, fun j hj => absurd hj (by omega), rfl⟩ ⟨rfl, rfl, rfl, ⟨rfl, rfl, rfl, trivial⟩, Own.sub_nil _⟩
    · rintro m s ⟨i, rfl, hi, hall, rfl⟩
      by_cases hlt : i < n
      · obtain ⟨b, o, y, rfl, hyi, hc⟩ := hx.atm i hlt
        obtain ⟨b2, o2, y2, rfl, hyi2, hc2⟩ := hx'.atm i (by omega)
        unfold irow at hc hc2
        by_cases hyy : y = y2
        · repeat' (first | (refine A_drawL WideF.wide (.q 0 (.q 1 (.q 2 (.q 3 (.q 4 (.q 5 (.q 6 (.q 7 (.q 8 (.done [])))))))))) [] (by decide +kernel) ?_) | (refine D_ev rfl (Ev_loadH1 rfl (hc 0 _ rfl)) rfl rfl ?_) | (refine D_ev rfl (Ev_loadH1 rfl (hc2 0 _ rfl)) rfl rfl ?_) | refine O_nil ?_ | refine A_seq ?_ | refine A_region ?_ | refine A_skip ?_ | refine A_block ?_ | (show drJ _ _ _ _ _ _ _ (.q _ _) _; refine D_q rfl ?_) | (show drJ _ _ _ _ _ _ _ (.done _) _; refine D_done ?_; simp only [List.cons_append, List.nil_append]) | (show drQ _ _ _ _ _ _; first | refine D_ev rfl (Ev_pure rfl) rfl rfl ?_ | (show drQ _ _ _ ⟨_, .indexAddr _ _ _, _, _, _, _⟩ _ _; refine D_ev rfl (Ev_indexAddr rfl rfl (by omega) (by omega)) rfl rfl ?_)) | (show opsA _ _ _ _ _ _ _; first | refine O_ev WideF.wide rfl (Ev_pure rfl) rfl rfl ?_ | (show opsA _ _ _ _ (⟨_, .call _, _, _, _, _⟩ :: _) _ _; refine O_ev WideF.wide rfl (Ev_llen rfl) rfl rfl ?_) | (show opsA _ _ _ _ (⟨_, .binOp _ _ _ _ _, _, _, _, _⟩ :: _) _ _; refine O_ev WideF.wide rfl (Ev_add rfl rfl (wi64 (by omega))) rfl rfl ?_)) | (show wpA _ _ _ (.cond _ _ _) _ _ _ _; (refine A_if rfl (fun h => ?_) (fun h => ?_) <;> try (exfalso; omega))))
          refine Shift.to ⟨_, ?_, i + 1, rfl, by omega, fun j hj => ?_, rfl⟩ ⟨rfl, rfl, rfl, ⟨rfl, rfl, rfl, trivial⟩, Own.sub_nil _⟩
          · omega
          · by_cases hji : j = i
            · subst hji; rw [hyi, hyi2, hyy]
            · exact hall j (by omega)
        · repeat' (first | (refine A_drawL WideF.wide (.q 0 (.q 1 (.q 2 (.q 3 (.q 4 (.q 5 (.q 6 (.q 7 (.q 8 (.done [])))))))))) [] (by decide +kernel) ?_) | (refine D_ev rfl (Ev_loadH1 rfl (hc 0 _ rfl)) rfl rfl ?_) | (refine D_ev rfl (Ev_loadH1 rfl (hc2 0 _ rfl)) rfl rfl ?_) | refine O_nil ?_ | refine A_seq ?_ | refine A_region ?_ | refine A_skip ?_ | refine A_ret ?_ | refine A_block ?_ | (show drJ _ _ _ _ _ _ _ (.q _ _) _; refine D_q rfl ?_) | (show drJ _ _ _ _ _ _ _ (.done _) _; refine D_done ?_; simp only [List.cons_append, List.nil_append]) | (show drQ _ _ _ _ _ _; first | refine D_ev rfl (Ev_pure rfl) rfl rfl ?_ | (show drQ _ _ _ ⟨_, .indexAddr _ _ _, _, _, _, _⟩ _ _; refine D_ev rfl (Ev_indexAddr rfl rfl (by omega) (by omega)) rfl rfl ?_)) | (show opsA _ _ _ _ _ _ _; first | refine O_ev WideF.wide rfl (Ev_pure rfl) rfl rfl ?_ | (show opsA _ _ _ _ (⟨_, .call _, _, _, _, _⟩ :: _) _ _; refine O_ev WideF.wide rfl (Ev_llen rfl) rfl rfl ?_)) | (show wpA _ _ _ (.cond _ _ _) _ _ _ _; (refine A_if rfl (fun h => ?_) (fun h => ?_) <;> try (exfalso; omega))))
          refine End_p (Ret1 rfl rfl) ?_
          have hne : l ≠ l' := fun e => hyy (by rw [e, hyi2] at hyi; cases hyi; rfl)
          rw [decide_eq_false hne]
      · have hin : n = i := by omega
        repeat' (first | refine O_nil ?_ | refine A_seq ?_ | refine A_region ?_ | refine A_ret ?_ | (show opsA _ _ _ _ _ _ _; first | refine O_ev WideF.wide rfl (Ev_pure rfl) rfl rfl ?_ | (show opsA _ _ _ _ (⟨_, .call _, _, _, _, _⟩ :: _) _ _; refine O_ev WideF.wide rfl (Ev_llen rfl) rfl rfl ?_)) | (show wpA _ _ _ (.exit _) _ _ _ _; refine A_exit rfl ?_) | (show wpA _ _ _ (.cond _ _ _) _ _ _ _; (refine A_if rfl (fun h => ?_) (fun h => ?_) <;> try (exfalso; omega))))
        refine End_p (Ret1 rfl rfl) ?_
        have he : l = l' := list_ext (by omega) fun j hj => hall j (by omega)
        rw [decide_eq_true he]
  · repeat' (first | refine O_nil ?_ | refine A_seq ?_ | refine A_region ?_ | refine A_ret ?_ | (show opsA _ _ _ _ _ _ _; first | refine O_ev WideF.wide rfl (Ev_pure rfl) rfl rfl ?_ | (show opsA _ _ _ _ (⟨_, .call _, _, _, _, _⟩ :: _) _ _; refine O_ev WideF.wide rfl (Ev_llen rfl) rfl rfl ?_)) | (show wpA _ _ _ (.cond _ _ _) _ _ _ _; (refine A_if rfl (fun h => ?_) (fun h => ?_) <;> try (exfalso; omega))))
    refine End_p (Ret1 rfl rfl) ?_
    have hne : l ≠ l' := fun e => hn (by rw [← e1, ← e2, e])
    rw [decide_eq_false hne]
set_option maxRecDepth 100000 in
theorem sameRevs_fn {H : Hp} {a a' : Option Addr} {n cq n' cq' : Nat} {l l' : List Rev} (hx : HRow H a n cq 3 (l.map rrow)) (hx' : HRow H a' n' cq' 3 (l'.map rrow)) (hm : n < 68719476736) : FnP Try.prog 22 [.slice a n cq, .slice a' n' cq'] H (.bool (decide (l = l'))) := by
  have e1 : l.length = n := by have := hx.len; simpa using this
  have e2 : l'.length = n' := by have := hx'.len; simpa using this
  refine Fn_of _ _ Try.func22 rfl Try.ntmps22 rfl fun c => ?_
  by_cases hn : n = n'
  · repeat' (first | refine O_nil ?_ | refine A_seq ?_ | refine A_region ?_ | refine A_skip ?_ | refine A_block ?_ | (show opsA _ _ _ _ _ _ _; first | refine O_ev WideF.wide rfl (Ev_pure rfl) rfl rfl ?_ | (show opsA _ _ _ _ (⟨_, .call _, _, _, _, _⟩ :: _) _ _; refine O_ev WideF.wide rfl (Ev_llen rfl) rfl rfl ?_)) | (show wpA _ _ _ (.cond _ _ _) _ _ _ _; (refine A_if rfl (fun h => ?_) (fun h => ?_) <;> try (exfalso; omega))))
    refine A_loopu (fun m s => ∃ i : Nat, m = n - i ∧ i ≤ n ∧ (∀ j, j < i → l[j]? = l'[j]?) ∧ s = ⟨26, [(0, .slice a n cq), (1, .slice a' n' cq'), (5, .int .i64 i)], H, [], [], []⟩) ?_ ?_
    · exact Shift.to ⟨_, 0, rfl, by omega, fun j hj => absurd hj (by omega), rfl⟩ ⟨rfl, rfl, rfl, ⟨rfl, rfl, rfl, trivial⟩, Own.sub_nil _⟩
    · rintro m s ⟨i, rfl, hi, hall, rfl⟩
      by_cases hlt : i < n
      · obtain ⟨b, o, y, rfl, hyi, hc⟩ := hx.atm i hlt
        obtain ⟨b2, o2, y2, rfl, hyi2, hc2⟩ := hx'.atm i (by omega)
        have hq := eq_rev y y2
        by_cases hyy : y = y2
        · repeat' (first | (refine A_drawL WideF.wide (.q 0 (.q 1 (.q 2 (.q 3 (.q 4 (.q 5 (.q 6 (.q 7 (.q 8 (.done [])))))))))) [] (by decide +kernel) ?_) | (refine D_ev rfl (Ev_loadH rfl hc rfl) rfl rfl ?_) | (refine D_ev rfl (Ev_loadH rfl hc2 rfl) rfl rfl ?_) | (refine D_ev rfl (Ev_neS rfl rfl Try.eqGuardType23 hq) rfl rfl ?_) | refine O_nil ?_ | refine A_seq ?_ | refine A_region ?_ | refine A_skip ?_ | refine A_ret ?_ | refine A_block ?_ | (show drJ _ _ _ _ _ _ _ (.q _ _) _; refine D_q rfl ?_) | (show drJ _ _ _ _ _ _ _ (.done _) _; refine D_done ?_; simp only [List.cons_append, List.nil_append]) | (show drQ _ _ _ _ _ _; first | refine D_ev rfl (Ev_pure rfl) rfl rfl ?_ | (show drQ _ _ _ ⟨_, .indexAddr _ _ _, _, _, _, _⟩ _ _; refine D_ev rfl (Ev_indexAddr rfl rfl (by omega) (by omega)) rfl rfl ?_)) | (show opsA _ _ _ _ _ _ _; first | refine O_ev WideF.wide rfl (Ev_pure rfl) rfl rfl ?_ | (show opsA _ _ _ _ (⟨_, .call _, _, _, _, _⟩ :: _) _ _; refine O_ev WideF.wide rfl (Ev_llen rfl) rfl rfl ?_) | (show opsA _ _ _ _ (⟨_, .binOp _ _ _ _ _, _, _, _, _⟩ :: _) _ _; refine O_ev WideF.wide rfl (Ev_add rfl rfl (wi64 (by omega))) rfl rfl ?_)) | (show wpA _ _ _ (.cond _ _ _) _ _ _ _; (refine A_if rfl (fun h => ?_) (fun h => ?_) <;> try (exfalso; omega))))
          all_goals first
            | (exfalso; omega)
            | (exfalso; exact absurd hyy (by assumption))
            | (refine Shift.to ⟨_, ?_, i + 1, rfl, by omega, fun j hj => ?_, rfl⟩ ⟨rfl, rfl, rfl, ⟨rfl, rfl, rfl, trivial⟩, Own.sub_nil _⟩
               · omega
               · by_cases hji : j = i
                 · subst hji; rw [hyi, hyi2, hyy]
                 · exact hall j (by omega))
        · repeat' (first | (refine A_drawL WideF.wide (.q 0 (.q 1 (.q 2 (.q 3 (.q 4 (.q 5 (.q 6 (.q 7 (.q 8 (.done [])))))))))) [] (by decide +kernel) ?_) | (refine D_ev rfl (Ev_loadH rfl hc rfl) rfl rfl ?_) | (refine D_ev rfl (Ev_loadH rfl hc2 rfl) rfl rfl ?_) | (refine D_ev rfl (Ev_neS rfl rfl Try.eqGuardType23 hq) rfl rfl ?_) | refine O_nil ?_ | refine A_seq ?_ | refine A_region ?_ | refine A_skip ?_ | refine A_ret ?_ | refine A_block ?_ | (show drJ _ _ _ _ _ _ _ (.q _ _) _; refine D_q rfl ?_) | (show drJ _ _ _ _ _ _ _ (.done _) _; refine D_done ?_; simp only [List.cons_append, List.nil_append]) | (show drQ _ _ _ _ _ _; first | refine D_ev rfl (Ev_pure rfl) rfl rfl ?_ | (show drQ _ _ _ ⟨_, .indexAddr _ _ _, _, _, _, _⟩ _ _; refine D_ev rfl (Ev_indexAddr rfl rfl (by omega) (by omega)) rfl rfl ?_)) | (show opsA _ _ _ _ _ _ _; first | refine O_ev WideF.wide rfl (Ev_pure rfl) rfl rfl ?_ | (show opsA _ _ _ _ (⟨_, .call _, _, _, _, _⟩ :: _) _ _; refine O_ev WideF.wide rfl (Ev_llen rfl) rfl rfl ?_) | (show opsA _ _ _ _ (⟨_, .binOp _ _ _ _ _, _, _, _, _⟩ :: _) _ _; refine O_ev WideF.wide rfl (Ev_add rfl rfl (wi64 (by omega))) rfl rfl ?_)) | (show wpA _ _ _ (.cond _ _ _) _ _ _ _; (refine A_if rfl (fun h => ?_) (fun h => ?_) <;> try (exfalso; omega))))
          all_goals first
            | (exfalso; omega)
            | (exfalso; have hnn := ‹¬ ¬ y = y2›; exact hnn hyy)
            | (refine End_p (Ret1 rfl rfl) ?_
               have hne : l ≠ l' := fun e => hyy (by rw [e, hyi2] at hyi; cases hyi; rfl)
               rw [decide_eq_false hne])
      · have hin : n = i := by omega
        repeat' (first | refine O_nil ?_ | refine A_seq ?_ | refine A_region ?_ | refine A_ret ?_ | (show opsA _ _ _ _ _ _ _; first | refine O_ev WideF.wide rfl (Ev_pure rfl) rfl rfl ?_ | (show opsA _ _ _ _ (⟨_, .call _, _, _, _, _⟩ :: _) _ _; refine O_ev WideF.wide rfl (Ev_llen rfl) rfl rfl ?_)) | (show wpA _ _ _ (.exit _) _ _ _ _; refine A_exit rfl ?_) | (show wpA _ _ _ (.cond _ _ _) _ _ _ _; (refine A_if rfl (fun h => ?_) (fun h => ?_) <;> try (exfalso; omega))))
        refine End_p (Ret1 rfl rfl) ?_
        have he : l = l' := list_ext (by omega) fun j hj => hall j (by omega)
        rw [decide_eq_true he]
  · repeat' (first | refine O_nil ?_ | refine A_seq ?_ | refine A_region ?_ | refine A_ret ?_ | (show opsA _ _ _ _ _ _ _; first | refine O_ev WideF.wide rfl (Ev_pure rfl) rfl rfl ?_ | (show opsA _ _ _ _ (⟨_, .call _, _, _, _, _⟩ :: _) _ _; refine O_ev WideF.wide rfl (Ev_llen rfl) rfl rfl ?_)) | (show wpA _ _ _ (.cond _ _ _) _ _ _ _; (refine A_if rfl (fun h => ?_) (fun h => ?_) <;> try (exfalso; omega))))
    refine End_p (Ret1 rfl rfl) ?_
    have hne : l ≠ l' := fun e => hn (by rw [← e1, ← e2, e])
    rw [decide_eq_false hne]
set_option maxRecDepth 100000 in
theorem lhas_fn {H : Hp} {a : Option Addr} {n cq : Nat} {l : List Int} {x : Int} (hx : HRow H a n cq 1 (l.map irow)) (hm : n < 68719476736) : FnP Try.prog 34 [.slice a n cq, .int .i64 x] H (.bool (decide (x ∈ l))) := by
  have e1 : l.length = n := by have := hx.len; simpa using this
  refine Fn_of _ _ Try.func34 rfl Try.ntmps34 rfl fun c => ?_
  repeat' (first | refine O_nil ?_ | refine A_seq ?_ | refine A_region ?_ | refine A_block ?_ | (show opsA _ _ _ _ _ _ _; refine O_ev WideF.wide rfl (Ev_pure rfl) rfl rfl ?_))
  refine A_loopu (fun m s => ∃ i : Nat, m = n - i ∧ i ≤ n ∧ (x ∈ l ↔ x ∈ l.drop i) ∧ s = ⟨18, [(0, .slice a n cq), (1, .int .i64 x), (5, .int .i64 i)], H, [], [], []⟩) ?_ ?_
  · exact Shift.to ⟨_, 0, rfl, by omega, by rw [List.drop_zero], rfl⟩ ⟨rfl, rfl, rfl, ⟨rfl, rfl, rfl, trivial⟩, Own.sub_nil _⟩
  · rintro m s ⟨i, rfl, hi, hall, rfl⟩
    by_cases hlt : i < n
    · obtain ⟨b, o, y, rfl, hyi, hc⟩ := hx.atm i hlt
      rw [drop_get hyi, List.mem_cons] at hall
      unfold irow at hc
      by_cases hyy : y = x
      · repeat' (first | (refine O_ev WideF.wide rfl (Ev_loadH1 rfl (hc 0 _ rfl)) rfl rfl ?_) | refine O_nil ?_ | refine A_seq ?_ | refine A_region ?_ | refine A_skip ?_ | refine A_ret ?_ | refine A_block ?_ | (show opsA _ _ _ _ _ _ _; first | refine O_ev WideF.wide rfl (Ev_pure rfl) rfl rfl ?_ | (show opsA _ _ _ _ (⟨_, .indexAddr _ _ _, _, _, _, _⟩ :: _) _ _; refine O_ev WideF.wide rfl (Ev_indexAddr rfl rfl (by omega) (by omega)) rfl rfl ?_) | (show opsA _ _ _ _ (⟨_, .call _, _, _, _, _⟩ :: _) _ _; refine O_ev WideF.wide rfl (Ev_llen rfl) rfl rfl ?_)) | (show wpA _ _ _ (.cond _ _ _) _ _ _ _; (refine A_if rfl (fun h => ?_) (fun h => ?_) <;> try (exfalso; omega))))
        all_goals first
          | (exfalso; omega)
          | exact End_p (Ret1 rfl rfl) (by rw [decide_eq_true (hall.2 (.inl hyy.symm))])
      · repeat' (first | (refine O_ev WideF.wide rfl (Ev_loadH1 rfl (hc 0 _ rfl)) rfl rfl ?_) | refine O_nil ?_ | refine A_seq ?_ | refine A_region ?_ | refine A_skip ?_ | refine A_block ?_ | (show opsA _ _ _ _ _ _ _; first | refine O_ev WideF.wide rfl (Ev_pure rfl) rfl rfl ?_ | (show opsA _ _ _ _ (⟨_, .indexAddr _ _ _, _, _, _, _⟩ :: _) _ _; refine O_ev WideF.wide rfl (Ev_indexAddr rfl rfl (by omega) (by omega)) rfl rfl ?_) | (show opsA _ _ _ _ (⟨_, .call _, _, _, _, _⟩ :: _) _ _; refine O_ev WideF.wide rfl (Ev_llen rfl) rfl rfl ?_) | (show opsA _ _ _ _ (⟨_, .binOp _ _ _ _ _, _, _, _, _⟩ :: _) _ _; refine O_ev WideF.wide rfl (Ev_add rfl rfl (wi64 (by omega))) rfl rfl ?_)) | (show wpA _ _ _ (.cond _ _ _) _ _ _ _; (refine A_if rfl (fun h => ?_) (fun h => ?_) <;> try (exfalso; omega))))
        all_goals first
          | (exfalso; omega)
          | (refine Shift.to ⟨_, ?_, i + 1, rfl, by omega, hall.trans ⟨fun h => h.elim (fun h => absurd h.symm hyy) id, .inr⟩, rfl⟩ ⟨rfl, rfl, rfl, ⟨rfl, rfl, rfl, trivial⟩, Own.sub_nil _⟩
             omega)
    · rw [List.drop_eq_nil_of_le (by omega)] at hall
      repeat' (first | refine O_nil ?_ | refine A_seq ?_ | refine A_region ?_ | refine A_ret ?_ | (show opsA _ _ _ _ _ _ _; first | refine O_ev WideF.wide rfl (Ev_pure rfl) rfl rfl ?_ | (show opsA _ _ _ _ (⟨_, .call _, _, _, _, _⟩ :: _) _ _; refine O_ev WideF.wide rfl (Ev_llen rfl) rfl rfl ?_)) | (show wpA _ _ _ (.exit _) _ _ _ _; refine A_exit rfl ?_) | (show wpA _ _ _ (.cond _ _ _) _ _ _ _; (refine A_if rfl (fun h => ?_) (fun h => ?_) <;> try (exfalso; omega))))
      all_goals first
        | (exfalso; omega)
        | exact End_p (Ret1 rfl rfl) (by rw [decide_eq_false fun h => by have := hall.1 h; cases this])
set_option maxRecDepth 100000 in
theorem IndexI_fn {H : Hp} {a : Option Addr} {n cq : Nat} {l : List Int} {x : Int} (hx : HRow H a n cq 1 (l.map irow)) (hm : n < 68719476736) : Fn Try.prog 66 [.slice a n cq, .int .i64 x] H [] fun v H' I' => (∃ r : Int, v = .int .i64 r ∧ (0 ≤ r ↔ x ∈ l)) ∧ H' = H ∧ I' = [] := by
  have e1 : l.length = n := by have := hx.len; simpa using this
  refine Fn_of _ _ Try.func66 rfl Try.ntmps66 rfl fun c => ?_
  repeat' (first | refine O_nil ?_ | refine A_seq ?_ | refine A_region ?_ | refine A_block ?_ | (show opsA _ _ _ _ _ _ _; first | refine O_ev WideF.wide rfl (Ev_pure rfl) rfl rfl ?_ | (show opsA _ _ _ _ (⟨_, .call _, _, _, _, _⟩ :: _) _ _; refine O_ev WideF.wide rfl (Ev_llen rfl) rfl rfl ?_)))
  refine A_loopu (fun m s => ∃ i : Nat, m = n - i ∧ i ≤ n ∧ (x ∈ l ↔ x ∈ l.drop i) ∧ s = ⟨19, [(0, .slice a n cq), (1, .int .i64 x), (7, .int .i64 n), (8, .int .i64 i)], H, [], [], []⟩) ?_ ?_
  · exact Shift.to ⟨_, 0, rfl, by omega, by rw [List.drop_zero], rfl⟩ ⟨rfl, rfl, rfl, ⟨rfl, rfl, rfl, rfl, trivial⟩, Own.sub_nil _⟩
  · rintro m s ⟨i, rfl, hi, hall, rfl⟩
    by_cases hlt : i < n
    · obtain ⟨b, o, y, rfl, hyi, hc⟩ := hx.atm i hlt
      rw [drop_get hyi, List.mem_cons] at hall
      unfold irow at hc
      by_cases hyy : x = y
      · repeat' (first | (refine O_ev WideF.wide rfl (Ev_loadH1 rfl (hc 0 _ rfl)) rfl rfl ?_) | refine O_nil ?_ | refine A_seq ?_ | refine A_region ?_ | refine A_skip ?_ | refine A_ret ?_ | refine A_block ?_ | (show opsA _ _ _ _ _ _ _; first | refine O_ev WideF.wide rfl (Ev_pure rfl) rfl rfl ?_ | (show opsA _ _ _ _ (⟨_, .indexAddr _ _ _, _, _, _, _⟩ :: _) _ _; refine O_ev WideF.wide rfl (Ev_indexAddr rfl rfl (by omega) (by omega)) rfl rfl ?_)) | (show wpA _ _ _ (.cond _ _ _) _ _ _ _; (refine A_if rfl (fun h => ?_) (fun h => ?_) <;> try (exfalso; omega))))
        all_goals first
          | (exfalso; omega)
          | exact End_e (Ret1 rfl rfl) ⟨⟨_, rfl, ⟨fun _ => hall.2 (.inl hyy), fun _ => by omega⟩⟩, rfl, rfl⟩
      · repeat' (first | (refine O_ev WideF.wide rfl (Ev_loadH1 rfl (hc 0 _ rfl)) rfl rfl ?_) | refine O_nil ?_ | refine A_seq ?_ | refine A_region ?_ | refine A_skip ?_ | refine A_block ?_ | (show opsA _ _ _ _ _ _ _; first | refine O_ev WideF.wide rfl (Ev_pure rfl) rfl rfl ?_ | (show opsA _ _ _ _ (⟨_, .indexAddr _ _ _, _, _, _, _⟩ :: _) _ _; refine O_ev WideF.wide rfl (Ev_indexAddr rfl rfl (by omega) (by omega)) rfl rfl ?_) | (show opsA _ _ _ _ (⟨_, .binOp _ _ _ _ _, _, _, _, _⟩ :: _) _ _; refine O_ev WideF.wide rfl (Ev_add rfl rfl (wi64 (by omega))) rfl rfl ?_)) | (show wpA _ _ _ (.cond _ _ _) _ _ _ _; (refine A_if rfl (fun h => ?_) (fun h => ?_) <;> try (exfalso; omega))))
        all_goals first
          | (exfalso; omega)
          | (refine Shift.to ⟨_, ?_, i + 1, rfl, by omega, hall.trans ⟨fun h => h.elim (fun h => absurd h hyy) id, .inr⟩, rfl⟩ ⟨rfl, rfl, rfl, ⟨rfl, rfl, rfl, rfl, trivial⟩, Own.sub_nil _⟩
             omega)
    · rw [List.drop_eq_nil_of_le (by omega)] at hall
      repeat' (first | refine O_nil ?_ | refine A_seq ?_ | refine A_region ?_ | refine A_ret ?_ | (show opsA _ _ _ _ _ _ _; refine O_ev WideF.wide rfl (Ev_pure rfl) rfl rfl ?_) | (show wpA _ _ _ (.exit _) _ _ _ _; refine A_exit rfl ?_) | (show wpA _ _ _ (.cond _ _ _) _ _ _ _; (refine A_if rfl (fun h => ?_) (fun h => ?_) <;> try (exfalso; omega))))
      all_goals first
        | (exfalso; omega)
        | exact End_e (Ret1 rfl rfl) ⟨⟨_, rfl, ⟨fun h => absurd h (by decide), fun h => by have := hall.1 h; cases this⟩⟩, rfl, rfl⟩
set_option maxRecDepth 100000 in
theorem ContainsI_fn {H : Hp} {a : Option Addr} {n cq : Nat} {l : List Int} {x : Int} (hx : HRow H a n cq 1 (l.map irow)) (hm : n < 68719476736) : FnP Try.prog 46 [.slice a n cq, .int .i64 x] H (.bool (decide (x ∈ l))) := by
  refine Fn_of _ _ Try.func46 rfl Try.ntmps46 rfl fun c => ?_
  repeat' (first | (refine O_ef rfl (Ef_call (I := []) WideF.wide (IndexI_fn hx hm) ⟨rfl, rfl, trivial⟩ rfl ?_); rintro v H' I' hk ⟨⟨r, rfl, hr⟩, rfl, rfl⟩) | refine O_nil ?_ | refine A_seq ?_ | refine A_region ?_ | refine A_ret ?_ | (show opsA _ _ _ _ _ _ _; refine O_ev WideF.wide rfl (Ev_pure rfl) rfl rfl ?_))
  refine End_p (Ret1 rfl rfl) ?_
  congr 1
  rw [decide_eq_decide]
  exact hr
/-- the place of the first revision with an id, or -1 -/
def findK (l : List Rev) (x : Int) (k : Nat) : Int := match (l.drop k).findIdx? (fun r => decide (r.id = x)) with
  | some j => ((k + j : Nat) : Int)
  | none => -1
theorem findK_hit {l : List Rev} {x : Int} {k : Nat} {y : Rev} (hy : l[k]? = some y) (h : y.id = x) : findK l x k = k := by
  unfold findK
  rw [drop_get hy, List.findIdx?_cons, if_pos (by simpa using h)]
  simp
theorem findK_miss {l : List Rev} {x : Int} {k : Nat} {y : Rev} (hy : l[k]? = some y) (h : y.id ≠ x) : findK l x k = findK l x (k + 1) := by
  unfold findK
  rw [drop_get hy, List.findIdx?_cons, if_neg (by simpa using h)]
  cases (l.drop (k + 1)).findIdx? (fun r => decide (r.id = x)) with
  | none => rfl
  | some j => simp; omega
theorem findK_end {l : List Rev} {x : Int} {k : Nat} (h : l.length ≤ k) : findK l x k = -1 := by
  unfold findK
  rw [List.drop_eq_nil_of_le h]; rfl
/-- what findK tells -/
theorem findK_spec (l : List Rev) (x : Int) (k : Nat) : (findK l x k = -1 ∧ ∀ r ∈ l.drop k, r.id ≠ x) ∨ ∃ (j : Nat) (y : Rev), findK l x k = j ∧ k ≤ j ∧ l[j]? = some y ∧ y.id = x := by
  by_cases hk : k < l.length
  · obtain ⟨y, hy⟩ : ∃ y, l[k]? = some y := ⟨l[k], List.getElem?_eq_getElem hk⟩
    by_cases h : y.id = x
    · exact .inr ⟨k, y, findK_hit hy h, Nat.le_refl _, hy, h⟩
    · rw [findK_miss hy h, drop_get hy]
      rcases findK_spec l x (k + 1) with ⟨h1, h2⟩ | ⟨j, z, h1, h2, h3, h4⟩
      · refine .inl ⟨h1, fun r hr => ?_⟩
        rcases List.mem_cons.1 hr with rfl | hr
        · exact h
        · exact h2 r hr
      · exact .inr ⟨j, z, h1, by omega, h3, h4⟩
  · refine .inl ⟨findK_end (by omega), fun r hr => ?_⟩
    rw [List.drop_eq_nil_of_le (by omega)] at hr
    cases hr
termination_by l.length - k
set_option maxRecDepth 100000 in
theorem find_fn {H : Hp} {a : Option Addr} {n cq : Nat} {l : List Rev} {x : Int} (hx : HRow H a n cq 3 (l.map rrow)) (hm : n < 68719476736) : FnP Try.prog 20 [.slice a n cq, .int .i64 x] H (.int .i64 (findK l x 0)) := by
  have e1 : l.length = n := by have := hx.len; simpa using this
  refine Fn_of _ _ Try.func20 rfl Try.ntmps20 rfl fun c => ?_
  repeat' (first | refine O_nil ?_ | refine A_seq ?_ | refine A_region ?_ | refine A_block ?_ | (show opsA _ _ _ _ _ _ _; refine O_ev WideF.wide rfl (Ev_pure rfl) rfl rfl ?_))
  refine A_loopu (fun m s => ∃ i : Nat, m = n - i ∧ i ≤ n ∧ findK l x 0 = findK l x i ∧ s = ⟨20, [(0, .slice a n cq), (1, .int .i64 x), (5, .int .i64 i)], H, [], [], []⟩) ?_ ?_
  · exact Shift.to ⟨_, 0, rfl, by omega, rfl, rfl⟩ ⟨rfl, rfl, rfl, ⟨rfl, rfl, rfl, trivial⟩, Own.sub_nil _⟩
  · rintro m s ⟨i, rfl, hi, hall, rfl⟩
    by_cases hlt : i < n
    · obtain ⟨b, o, y, rfl, hyi, hc⟩ := hx.atm i hlt
      unfold rrow at hc
      by_cases hyy : y.id = x
      · rw [findK_hit (k := i) hyi hyy] at hall
        repeat' (first | (refine O_ev WideF.wide rfl (Ev_loadH1 rfl (hc 0 _ rfl)) rfl rfl ?_) | refine O_nil ?_ | refine A_seq ?_ | refine A_region ?_ | refine A_skip ?_ | refine A_ret ?_ | refine A_block ?_ | (show opsA _ _ _ _ _ _ _; first | refine O_ev WideF.wide rfl (Ev_pure rfl) rfl rfl ?_ | (show opsA _ _ _ _ (⟨_, .indexAddr _ _ _, _, _, _, _⟩ :: _) _ _; refine O_ev WideF.wide rfl (Ev_indexAddr rfl rfl (by omega) (by omega)) rfl rfl ?_) | (show opsA _ _ _ _ (⟨_, .fieldAddr _ _ _, _, _, _, _⟩ :: _) _ _; refine O_ev WideF.wide rfl (Ev_fieldAddr rfl rfl rfl) rfl rfl ?_) | (show opsA _ _ _ _ (⟨_, .call _, _, _, _, _⟩ :: _) _ _; refine O_ev WideF.wide rfl (Ev_llen rfl) rfl rfl ?_)) | (show wpA _ _ _ (.cond _ _ _) _ _ _ _; (refine A_if rfl (fun h => ?_) (fun h => ?_) <;> try (exfalso; omega))))
        all_goals first
          | (exfalso; omega)
          | exact End_p (Ret1 rfl rfl) (by rw [hall])
      · rw [findK_miss (k := i) hyi hyy] at hall
        repeat' (first | (refine O_ev WideF.wide rfl (Ev_loadH1 rfl (hc 0 _ rfl)) rfl rfl ?_) | refine O_nil ?_ | refine A_seq ?_ | refine A_region ?_ | refine A_skip ?_ | refine A_block ?_ | (show opsA _ _ _ _ _ _ _; first | refine O_ev WideF.wide rfl (Ev_pure rfl) rfl rfl ?_ | (show opsA _ _ _ _ (⟨_, .indexAddr _ _ _, _, _, _, _⟩ :: _) _ _; refine O_ev WideF.wide rfl (Ev_indexAddr rfl rfl (by omega) (by omega)) rfl rfl ?_) | (show opsA _ _ _ _ (⟨_, .fieldAddr _ _ _, _, _, _, _⟩ :: _) _ _; refine O_ev WideF.wide rfl (Ev_fieldAddr rfl rfl rfl) rfl rfl ?_) | (show opsA _ _ _ _ (⟨_, .call _, _, _, _, _⟩ :: _) _ _; refine O_ev WideF.wide rfl (Ev_llen rfl) rfl rfl ?_) | (show opsA _ _ _ _ (⟨_, .binOp _ _ _ _ _, _, _, _, _⟩ :: _) _ _; refine O_ev WideF.wide rfl (Ev_add rfl rfl (wi64 (by omega))) rfl rfl ?_)) | (show wpA _ _ _ (.cond _ _ _) _ _ _ _; (refine A_if rfl (fun h => ?_) (fun h => ?_) <;> try (exfalso; omega))))
        all_goals first
          | (exfalso; omega)
          | (refine Shift.to ⟨_, ?_, i + 1, rfl, by omega, hall, rfl⟩ ⟨rfl, rfl, rfl, ⟨rfl, rfl, rfl, trivial⟩, Own.sub_nil _⟩
             omega)
    · rw [findK_end (k := i) (by omega)] at hall
      repeat' (first | refine O_nil ?_ | refine A_seq ?_ | refine A_region ?_ | refine A_ret ?_ | (show opsA _ _ _ _ _ _ _; first | refine O_ev WideF.wide rfl (Ev_pure rfl) rfl rfl ?_ | (show opsA _ _ _ _ (⟨_, .call _, _, _, _, _⟩ :: _) _ _; refine O_ev WideF.wide rfl (Ev_llen rfl) rfl rfl ?_)) | (show wpA _ _ _ (.exit _) _ _ _ _; refine A_exit rfl ?_) | (show wpA _ _ _ (.cond _ _ _) _ _ _ _; (refine A_if rfl (fun h => ?_) (fun h => ?_) <;> try (exfalso; omega))))
      all_goals first
        | (exfalso; omega)
        | exact End_p (Ret1 rfl rfl) (by rw [hall])
/-! ### put, insert -/
def atK (l : List Int) (x : Int) : Nat → Nat
  | 0 => 0
  | k + 1 => if x < (l[k]?).getD 0 then atK l x k else k + 1
theorem atK_le (l : List Int) (x : Int) : ∀ k, atK l x k ≤ k
  | 0 => Nat.le_refl _
  | k + 1 => by rw [atK]; split; exact Nat.le_trans (atK_le l x k) (by omega); exact Nat.le_refl _
def putL (l : List Rev) (r : Rev) : List Rev := l.take (atK (l.map Rev.id) r.id l.length) ++ r :: l.drop (atK (l.map Rev.id) r.id l.length)
def insI (l : List Int) (x : Int) : List Int := if x ∈ l then l else l.take (atK l x l.length) ++ x :: l.drop (atK l x l.length)
set_option maxRecDepth 100000 in
set_option maxHeartbeats 1000000 in
theorem put_fn {H : Hp} {a : Option Addr} {n cq : Nat} {l : List Rev} {r : Rev} (hx : HRow H a n cq 3 (l.map rrow)) (hm : n < 1048576) : Fn Try.prog 21 [.slice a n cq, .agg (rrow r).toArray] H [] (RevsIs (putL l r)) := by
  have e1 : l.length = n := by have := hx.len; simpa using this
  have hK := hx.len
  refine Fn_of _ _ Try.func21 rfl Try.ntmps21 rfl fun c => ?_
  unfold rrow
  repeat' (first | refine O_nil ?_ | refine A_seq ?_ | refine A_region ?_ | refine A_block ?_ | (show opsA _ _ _ _ _ _ _; first | refine O_ev WideF.wide rfl (Ev_pure rfl) rfl rfl ?_ | (show opsA _ _ _ _ (⟨_, .call _, _, _, _, _⟩ :: _) _ _; refine O_ev WideF.wide rfl (Ev_llen rfl) rfl rfl ?_) | (show opsA _ _ _ _ (⟨_, .box _ _, _, _, _, _⟩ :: _) _ _; (refine O_ef rfl (Ef_boxa WideF.wide rfl rfl ?_); intro b))))
  refine A_loopu (fun m s => ∃ (k b3 : Nat), m = 0 + k ∧ k ≤ n ∧ atK (l.map Rev.id) r.id n = atK (l.map Rev.id) r.id k ∧ s = ⟨38, [(0, .slice a n cq), (3, .pointer (some ⟨b3, 0, none⟩)), (5, .int .i64 k)], H, [.box b3 (rrow r)], [], []⟩) ?_ ?_
  · exact Shift.to ⟨_, n, _, rfl, by omega, rfl, rfl⟩ ⟨rfl, rfl, rfl, ⟨rfl, rfl, rfl, trivial⟩, Own.subi [0] (by decide) rfl rfl⟩
  · rintro m s ⟨k, b3, rfl, hk, hat, rfl⟩
    have hcap := hx.cap
    have hfin : atK (l.map Rev.id) r.id n = k → (l.take k ++ r :: l.drop k).map rrow = ([] ++ (l.take k).map rrow ++ [rrow r]) ++ (l.drop k).map rrow ∧ putL l r = l.take k ++ r :: l.drop k ∧ (∀ cs ∈ ([] ++ (l.take k).map rrow ++ [rrow r]) ++ (l.drop k).map rrow, ∀ u ∈ cs, u.oneCell' = true) := fun h => by
      have h0 : (l.take k ++ r :: l.drop k).map rrow = ([] ++ (l.take k).map rrow ++ [rrow r]) ++ (l.drop k).map rrow := by simp
      refine ⟨h0, ?_, by rw [← h0]; exact rrow_one _⟩
      unfold putL; rw [e1, h]
    have hlo : HRow H a k cq 3 ((l.take k).map rrow) := (hx.upto hk).cong List.map_take
    have hhi : HRow H (if cq = k then a else a.map (·.add (k * 3))) (n - k) (cq - k) 3 ((l.drop k).map rrow) := (hx.slice hk (Nat.le_refl n)).cong (by rw [List.map_drop, List.take_of_length_le (by simp; omega)])
    cases k with
    | zero =>
      obtain ⟨f1, f2, f3⟩ := hfin (by rw [hat]; rfl)
      rw [f2]
      unfold rrow
      repeat' (first | (refine A_drawL WideF.wide (.q 0 (.q 1 (.q 2 (.q 3 (.q 4 (.q 5 (.q 6 (.q 7 (.q 8 (.q 9 (.q 10 (.q 11 (.q 12 (.done [])))))))))))))) [] (by decide +kernel) ?_) | (refine O_ev WideF.wide rfl (Ev_lsliceh rfl rfl (by omega) (by omega)) rfl rfl ?_) | (refine O_ev WideF.wide rfl (Ev_lslicel rfl rfl (by omega) (by omega)) rfl rfl ?_) | (refine O_ef rfl (Ef_build0 (k := 3) WideF.wide rfl ?_); intro b) | (refine O_ef rfl (Ef_appendH WideF.wide rfl rfl hlo rfl rfl (by simp <;> omega) (by simp <;> omega) rfl ?_); intro a' c') | (refine O_ef rfl (Ef_appendH WideF.wide rfl rfl hhi rfl rfl (by simp <;> omega) (by simp <;> omega) rfl ?_); intro a' c') | refine O_nil ?_ | refine A_seq ?_ | refine A_region ?_ | refine A_ret ?_ | (show drJ _ _ _ _ _ _ _ (.q _ _) _; refine D_q rfl ?_) | (show drJ _ _ _ _ _ _ _ (.done _) _; refine D_done ?_; simp only [List.cons_append, List.nil_append]) | (show drQ _ _ _ _ _ _; first | (refine D_split rfl rfl (fun h => ?_) (fun h => ?_) <;> try (exfalso; omega)) | refine D_ev rfl (Ev_pure rfl) rfl rfl ?_ | refine D_skip rfl rfl rfl ?_) | (show opsA _ _ _ _ _ _ _; first | refine O_ev WideF.wide rfl (Ev_pure rfl) rfl rfl ?_ | (show opsA _ _ _ _ (⟨_, .load _ _, _, _, _, _⟩ :: _) _ _; refine O_ev WideF.wide rfl (Ev_loadB (i := 1) rfl rfl rfl) rfl rfl ?_) | (show opsA _ _ _ _ (⟨_, .call _, _, _, _, _⟩ :: _) _ _; (refine O_f1 (O_ef rfl (Ef_appendR WideF.wide rfl rfl rfl rfl rfl (by simp) (by simp) rfl ?_)); intro a cp)) | (show opsA _ _ _ _ (⟨_, .buildSlice _ _ _, _, _, _, _⟩ :: _) _ _; (refine O_ef rfl (Ef_build1a WideF.wide rfl rfl rfl rfl rfl ?_); intro b))) | (show wpA _ _ _ (.exit _) _ _ _ _; refine A_exit rfl ?_) | (show wpA _ _ _ (.cond _ _ _) _ _ _ _; refine A_iffalse rfl ?_))
      all_goals first
        | (exfalso; omega)
        | exact End_row (Ret1 rfl rfl) f3 fun H' hle hr => ⟨⟨_, _, _, rfl, hr.cong f1⟩, rfl⟩
    | succ j =>
      obtain ⟨b, o, y, rfl, hy, hc⟩ := hx.atm j (by omega)
      unfold rrow at hc
      have hj : ((j + 1 : Nat) : Int) - 1 = (j : Int) := by omega
      have hid : ((l.map Rev.id)[j]?).getD 0 = y.id := by rw [List.getElem?_map, hy]; rfl
      rw [show atK (l.map Rev.id) r.id (j + 1) = if r.id < ((l.map Rev.id)[j]?).getD 0 then atK (l.map Rev.id) r.id j else j + 1 from rfl, hid] at hat
      by_cases hlt : r.id < y.id
      · rw [if_pos hlt] at hat
        unfold rrow
        repeat' (first | (refine A_drawL WideF.wide (.q 0 (.q 1 (.q 2 (.q 3 (.q 4 (.q 5 (.q 6 (.q 7 (.q 8 (.q 9 (.q 10 (.q 11 (.q 12 (.done [])))))))))))))) [] (by decide +kernel) ?_) | (refine D_ev rfl (Ev_sub rfl rfl (wi64 (by omega))) rfl rfl ?_; rw [hj]) | (refine D_ev rfl (Ev_loadH1 rfl (hc 0 _ rfl)) rfl rfl ?_) | (refine O_ev WideF.wide rfl (Ev_sub rfl rfl (wi64 (by omega))) rfl rfl ?_; rw [hj]) | refine O_nil ?_ | refine A_seq ?_ | refine A_region ?_ | refine A_skip ?_ | refine A_block ?_ | (show drJ _ _ _ _ _ _ _ (.q _ _) _; refine D_q rfl ?_) | (show drJ _ _ _ _ _ _ _ (.done _) _; refine D_done ?_; simp only [List.cons_append, List.nil_append]) | (show drQ _ _ _ _ _ _; first | (refine D_split rfl rfl (fun h => ?_) (fun h => ?_) <;> try (exfalso; omega)) | refine D_ev rfl (Ev_pure rfl) rfl rfl ?_ | (show drQ _ _ _ ⟨_, .load _ _, _, _, _, _⟩ _ _; refine D_ev rfl (Ev_loadB1 (i := 0) rfl rfl rfl) rfl rfl ?_) | (show drQ _ _ _ ⟨_, .indexAddr _ _ _, _, _, _, _⟩ _ _; refine D_ev rfl (Ev_indexAddr rfl rfl (by omega) (by omega)) rfl rfl ?_) | (show drQ _ _ _ ⟨_, .fieldAddr _ _ _, _, _, _, _⟩ _ _; refine D_ev rfl (Ev_fieldAddr rfl rfl rfl) rfl rfl ?_)) | (show opsA _ _ _ _ _ _ _; refine O_ev WideF.wide rfl (Ev_pure rfl) rfl rfl ?_) | (show wpA _ _ _ (.cond _ _ _) _ _ _ _; (refine A_if rfl (fun h => ?_) (fun h => ?_) <;> try (exfalso; omega))))
        all_goals first
          | (exfalso; omega)
          | (refine Shift.to ⟨_, ?_, j, b3, rfl, by omega, hat, rfl⟩ ⟨rfl, rfl, rfl, ⟨rfl, rfl, rfl, trivial⟩, Own.subi [0] (by decide) rfl rfl⟩
             omega)
      · rw [if_neg hlt] at hat
        obtain ⟨f1, f2, f3⟩ := hfin hat
        rw [f2]
        unfold rrow
        repeat' (first | (refine A_drawL WideF.wide (.q 0 (.q 1 (.q 2 (.q 3 (.q 4 (.q 5 (.q 6 (.q 7 (.q 8 (.q 9 (.q 10 (.q 11 (.q 12 (.done [])))))))))))))) [] (by decide +kernel) ?_) | (refine D_ev rfl (Ev_sub rfl rfl (wi64 (by omega))) rfl rfl ?_; rw [hj]) | (refine D_ev rfl (Ev_loadH1 rfl (hc 0 _ rfl)) rfl rfl ?_) | (refine O_ev WideF.wide rfl (Ev_lsliceh rfl rfl (by omega) (by omega)) rfl rfl ?_) | (refine O_ev WideF.wide rfl (Ev_lslicel rfl rfl (by omega) (by omega)) rfl rfl ?_) | (refine O_ef rfl (Ef_build0 (k := 3) WideF.wide rfl ?_); intro b) | (refine O_ef rfl (Ef_appendH WideF.wide rfl rfl hlo rfl rfl (by simp <;> omega) (by simp <;> omega) rfl ?_); intro a' c') | (refine O_ef rfl (Ef_appendH WideF.wide rfl rfl hhi rfl rfl (by simp <;> omega) (by simp <;> omega) rfl ?_); intro a' c') | refine O_nil ?_ | refine A_seq ?_ | refine A_region ?_ | refine A_ret ?_ | (show drJ _ _ _ _ _ _ _ (.q _ _) _; refine D_q rfl ?_) | (show drJ _ _ _ _ _ _ _ (.done _) _; refine D_done ?_; simp only [List.cons_append, List.nil_append]) | (show drQ _ _ _ _ _ _; first | (refine D_split rfl rfl (fun h => ?_) (fun h => ?_) <;> try (exfalso; omega)) | refine D_ev rfl (Ev_pure rfl) rfl rfl ?_ | (show drQ _ _ _ ⟨_, .load _ _, _, _, _, _⟩ _ _; refine D_ev rfl (Ev_loadB1 (i := 0) rfl rfl rfl) rfl rfl ?_) | (show drQ _ _ _ ⟨_, .indexAddr _ _ _, _, _, _, _⟩ _ _; refine D_ev rfl (Ev_indexAddr rfl rfl (by omega) (by omega)) rfl rfl ?_) | (show drQ _ _ _ ⟨_, .fieldAddr _ _ _, _, _, _, _⟩ _ _; refine D_ev rfl (Ev_fieldAddr rfl rfl rfl) rfl rfl ?_)) | (show opsA _ _ _ _ _ _ _; first | refine O_ev WideF.wide rfl (Ev_pure rfl) rfl rfl ?_ | (show opsA _ _ _ _ (⟨_, .load _ _, _, _, _, _⟩ :: _) _ _; refine O_ev WideF.wide rfl (Ev_loadB (i := 1) rfl rfl rfl) rfl rfl ?_) | (show opsA _ _ _ _ (⟨_, .call _, _, _, _, _⟩ :: _) _ _; (refine O_f1 (O_ef rfl (Ef_appendR WideF.wide rfl rfl rfl rfl rfl (by simp; omega) (by simp; omega) rfl ?_)); intro a cp)) | (show opsA _ _ _ _ (⟨_, .buildSlice _ _ _, _, _, _, _⟩ :: _) _ _; (refine O_ef rfl (Ef_build1a WideF.wide rfl rfl rfl rfl rfl ?_); intro b))) | (show wpA _ _ _ (.exit _) _ _ _ _; refine A_exit rfl ?_) | (show wpA _ _ _ (.cond _ _ _) _ _ _ _; (refine A_if rfl (fun h => ?_) (fun h => ?_) <;> try (exfalso; omega))))
        all_goals first
          | (exfalso; omega)
          | exact End_row (Ret1 rfl rfl) f3 fun H' hle hr => ⟨⟨_, _, _, rfl, hr.cong f1⟩, rfl⟩
end Go.Proofs.Ytlcoebomgaodgaa
