/-
  Groups of revisions by their authors, plain; the map of groups.
-/
import Derived.Test.YtlcoebomgaodgaaQ22
namespace Go.Proofs.Ytlcoebomgaodgaa
open Go
set_option linter.unusedVariables false
set_option linter.unusedSimpArgs false
structure Sm where
  n : Int
  f : Int
  t : Int
/-- what an author has, one revision more -/
def stp (a : List UInt8) (s : Sm) (r : Rev) : Sm :=
  if r.author = a then (if s.n = 0 then ⟨1, r.time, r.time⟩ else ⟨s.n + 1, if r.time < s.f then r.time else s.f, if s.t < r.time then r.time else s.t⟩) else s
def st (a : List UInt8) (p : List Rev) : Sm := p.foldl (stp a) ⟨0, 0, 0⟩
theorem st_snoc (a : List UInt8) (p : List Rev) (r : Rev) : st a (p ++ [r]) = stp a (st a p) r := by unfold st; rw [List.foldl_append]; rfl
theorem snoc_ind {α : Type} {Q : List α → Prop} (h0 : Q []) (h1 : ∀ p x, Q p → Q (p ++ [x])) (l : List α) : Q l := by
  have key : ∀ (k : Nat) (l : List α), l.length = k → Q l := by
    intro k
    induction k with
    | zero => intro l hl; rw [List.eq_nil_of_length_eq_zero hl]; exact h0
    | succ k ih =>
      intro l hl
      have hne : l ≠ [] := by intro e; subst e; cases hl
      rw [← List.dropLast_concat_getLast hne]
      exact h1 _ _ (ih _ (by rw [List.length_dropLast]; omega))
  exact key _ l rfl
theorem st_n (a : List UInt8) (l : List Rev) : 0 ≤ (st a l).n ∧ (st a l).n ≤ l.length ∧ ((st a l).n ≠ 0 ↔ ∃ r ∈ l, r.author = a) := by
  refine snoc_ind (Q := fun l => 0 ≤ (st a l).n ∧ (st a l).n ≤ l.length ∧ ((st a l).n ≠ 0 ↔ ∃ r ∈ l, r.author = a)) (by simp [st]) (fun p x ih => ?_) l
  obtain ⟨h1, h2, h3⟩ := ih
  rw [st_snoc, stp, List.length_append, List.length_singleton]
  by_cases hx : x.author = a
  · rw [if_pos hx]
    have h4 : ∃ r ∈ p ++ [x], r.author = a := ⟨x, by simp, hx⟩
    by_cases hz : (st a p).n = 0
    · rw [if_pos hz]; exact ⟨by simp, by simp; omega, by simp only [h4, iff_true]; decide⟩
    · rw [if_neg hz]; exact ⟨by simp only; omega, by simp only; omega, by simp only [h4, iff_true]; omega⟩
  · rw [if_neg hx]
    refine ⟨h1, by omega, h3.trans ?_⟩
    constructor
    · rintro ⟨r, hr, h⟩; exact ⟨r, List.mem_append_left _ hr, h⟩
    · rintro ⟨r, hr, h⟩
      rcases List.mem_append.1 hr with hr | hr
      · exact ⟨r, hr, h⟩
      · rw [List.mem_singleton] at hr; subst hr; exact absurd h hx
/-- the sum over some authors -/
def tot (l : List Rev) : List (List UInt8) → Int
  | [] => 0
  | a :: r => (st a l).n + tot l r
theorem tot_append (l : List Rev) (x y : List (List UInt8)) : tot l (x ++ y) = tot l x + tot l y := by
  induction x with
  | nil => simp [tot]
  | cons a r ih => simp only [List.cons_append, tot, ih]; omega
theorem tot_snoc (p : List Rev) (x : Rev) : ∀ ks : List (List UInt8), ks.Nodup → tot (p ++ [x]) ks = tot p ks + if x.author ∈ ks then 1 else 0
  | [], _ => by simp [tot]
  | a :: r, h => by
    have ih := tot_snoc p x r (List.nodup_cons.1 h).2
    have hn := (List.nodup_cons.1 h).1
    simp only [tot, ih, st_snoc, stp]
    by_cases hx : x.author = a
    · have h1 : x.author ∉ r := by rw [hx]; exact hn
      have h2 : x.author ∈ a :: r := by rw [hx]; simp
      simp only [if_pos hx, if_neg h1, if_pos h2]
      by_cases hz : (st a p).n = 0
      · simp only [if_pos hz]; omega
      · simp only [if_neg hz]; omega
    · have : x.author ∈ a :: r ↔ x.author ∈ r := by simp [hx]
      simp only [if_neg hx]
      by_cases hm : x.author ∈ r
      · rw [if_pos hm, if_pos (this.2 hm)]; omega
      · rw [if_neg hm, if_neg (fun h => hm (this.1 h))]; omega
theorem tot_all {ks : List (List UInt8)} (hnd : ks.Nodup) (l : List Rev) : (∀ r ∈ l, r.author ∈ ks) → tot l ks = l.length := by
  refine snoc_ind (Q := fun l => (∀ r ∈ l, r.author ∈ ks) → tot l ks = l.length) (fun _ => ?_) (fun p x ih h => ?_) l
  · clear hnd
    induction ks with
    | nil => rfl
    | cons a r ih =>
      simp only [List.length_nil] at ih
      simp [tot, ih, st]
  · rw [tot_snoc p x ks hnd, ih (fun r hr => h r (List.mem_append_left _ hr)), if_pos (h x (by simp))]
    simp
theorem tot_bnd (l : List Rev) : ∀ ks : List (List UInt8), 0 ≤ tot l ks ∧ tot l ks ≤ l.length * ks.length
  | [] => by simp [tot]
  | a :: r => by
    have := tot_bnd l r
    have := st_n a l
    simp only [tot, List.length_cons]
    have e : (l.length : Int) * ((r.length + 1 : Nat) : Int) = l.length * r.length + l.length := by push_cast; rw [Int.mul_add]; omega
    rw [e]
    omega
/-- a group's cells -/
def grow (a : List UInt8) (s : Sm) : List Value := [sv a, .int .i64 s.n, .int .i64 s.f, .int .i64 s.t]
theorem grow_one (l : List Rev) (ks : List (List UInt8)) : ∀ cs ∈ ks.map (fun a => grow a (st a l)), ∀ u ∈ cs, u.oneCell' = true := by
  intro cs hcs u hu
  obtain ⟨p, _, rfl⟩ := List.mem_map.1 hcs
  simp [grow] at hu
  rcases hu with rfl | rfl | rfl | rfl <;> rfl
/-- the map of groups behind some revisions -/
structure GrpsOk (kvs : List (List UInt8 × Value)) (p : List Rev) : Prop where
  nd : (kvs.map Prod.fst).Nodup
  val : ∀ q ∈ kvs, q.2 = .agg (grow q.1 (st q.1 p)).toArray
  has : ∀ a, shas kvs a ↔ ∃ r ∈ p, r.author = a
  len : kvs.length ≤ p.length
theorem GrpsOk.nil : GrpsOk [] [] := ⟨List.nodup_nil, (fun q hq => by cases hq), (fun a => by simp [shas]), Nat.le_refl _⟩
theorem sget_mem {z : Value} {a : List UInt8} : ∀ {kvs : List (List UInt8 × Value)}, shas kvs a → ∃ q ∈ kvs, q.1 = a ∧ sget z kvs a = q.2
  | [], h => absurd h shas_nil
  | p :: r, h => by
    by_cases e : p.1 = a
    · exact ⟨p, by simp, e, by simp [sget, e]⟩
    · have h' : shas r a := by
        unfold shas at h ⊢
        simp only [List.map_cons, List.mem_cons] at h
        exact h.resolve_left fun e' => e e'.symm
      obtain ⟨q, hq, h1, h2⟩ := sget_mem (z := z) h'
      exact ⟨q, List.mem_cons_of_mem _ hq, h1, by simp only [sget, if_neg e, h2]⟩
theorem GrpsOk.get {kvs : List (List UInt8 × Value)} {p : List Rev} (h : GrpsOk kvs p) {z : Value} {a : List UInt8} (ha : shas kvs a) : sget z kvs a = .agg (grow a (st a p)).toArray := by
  obtain ⟨q, hq, rfl, h2⟩ := sget_mem (z := z) ha
  rw [h2, h.val q hq]
theorem mem_sput {x : List UInt8} {v : Value} {q : List UInt8 × Value} : ∀ {kvs : List (List UInt8 × Value)}, (kvs.map Prod.fst).Nodup → q ∈ sput kvs x v → q = (x, v) ∨ (q ∈ kvs ∧ q.1 ≠ x)
  | [], _, h => by simp [sput] at h; exact .inl h
  | p :: r, hn, h => by
    have hn' := List.nodup_cons.1 hn
    unfold sput at h
    by_cases e : p.1 = x
    · rw [if_pos e] at h
      rcases List.mem_cons.1 h with rfl | h
      · exact .inl rfl
      · exact .inr ⟨List.mem_cons_of_mem _ h, fun e' => hn'.1 (by rw [e, ← e']; exact List.mem_map.2 ⟨q, h, rfl⟩)⟩
    · rw [if_neg e] at h
      rcases List.mem_cons.1 h with rfl | h
      · exact .inr ⟨by simp, e⟩
      · rcases mem_sput hn'.2 h with h | ⟨h1, h2⟩
        · exact .inl h
        · exact .inr ⟨List.mem_cons_of_mem _ h1, h2⟩
theorem sput_keys {x : List UInt8} {v : Value} : ∀ {kvs : List (List UInt8 × Value)}, (kvs.map Prod.fst).Nodup → ((sput kvs x v).map Prod.fst).Nodup ∧ (sput kvs x v).length ≤ kvs.length + 1
  | [], _ => by simp [sput]
  | p :: r, hn => by
    have hn' := List.nodup_cons.1 hn
    unfold sput
    by_cases e : p.1 = x
    · rw [if_pos e]
      refine ⟨?_, by simp⟩
      simp only [List.map_cons, List.nodup_cons]
      exact ⟨by rw [← e]; exact hn'.1, hn'.2⟩
    · rw [if_neg e]
      obtain ⟨h1, h2⟩ := sput_keys (x := x) (v := v) hn'.2
      refine ⟨?_, by simp only [List.length_cons]; omega⟩
      simp only [List.map_cons, List.nodup_cons]
      refine ⟨fun hm => ?_, h1⟩
      have hm' : shas (sput r x v) p.1 := hm
      rw [shas_put] at hm'
      rcases hm' with hm' | hm'
      · exact hn'.1 hm'
      · exact e hm'
theorem GrpsOk.step {kvs : List (List UInt8 × Value)} {p : List Rev} (h : GrpsOk kvs p) (x : Rev) : GrpsOk (sput kvs x.author (.agg (grow x.author (st x.author (p ++ [x]))).toArray)) (p ++ [x]) := by
  refine ⟨(sput_keys h.nd).1, fun q hq => ?_, fun a => ?_, ?_⟩
  · rcases mem_sput h.nd hq with rfl | ⟨h1, h2⟩
    · rfl
    · rw [h.val q h1, st_snoc, stp, if_neg (Ne.symm h2)]
  · rw [shas_put, h.has]
    constructor
    · rintro (⟨r, hr, e⟩ | rfl)
      · exact ⟨r, List.mem_append_left _ hr, e⟩
      · exact ⟨x, by simp, rfl⟩
    · rintro ⟨r, hr, e⟩
      rcases List.mem_append.1 hr with hr | hr
      · exact .inl ⟨r, hr, e⟩
      · rw [List.mem_singleton] at hr; subst hr; exact .inr e.symm
  · have := (sput_keys (x := x.author) (v := .agg (grow x.author (st x.author (p ++ [x]))).toArray) h.nd).2
    have := h.len
    rw [List.length_append, List.length_singleton]
    omega
/-! ### order of strings -/
theorem strs_le (l : List (List UInt8)) : (srtS l).Pairwise (· ≤ ·) := by
  have h1 : (srtS l).Pairwise fun a b => (decide (a ≤ b)) = true := List.pairwise_mergeSort (fun a b c h1 h2 => by
    rw [decide_eq_true_eq] at *; exact List.le_trans h1 h2) (fun a b => by
    rw [Bool.or_eq_true, decide_eq_true_eq, decide_eq_true_eq]; exact List.le_total a b) l
  exact h1.imp fun h => by simpa using h
/-- the authors' names, in order, each once -/
structure KeysOf (ks : List (List UInt8)) (l : List Rev) : Prop where
  nd : ks.Nodup
  mem : ∀ a, a ∈ ks ↔ ∃ r ∈ l, r.author = a
  lt : ∀ (i : Nat) (a b : List UInt8), ks[i]? = some a → ks[i + 1]? = some b → Op.bytesLess a b = true
  len : ks.length ≤ l.length
theorem KeysOf.of {kvs : List (List UInt8 × Value)} {l : List Rev} (h : GrpsOk kvs l) {ks : List (List UInt8)} (hp : ks.Perm (kvs.map Prod.fst)) : KeysOf (srtS ks) l := by
  have hp2 := (srtS_perm ks).trans hp
  have hnd : (srtS ks).Nodup := hp2.nodup_iff.2 h.nd
  refine ⟨hnd, fun a => ?_, fun i a b hi hj => ?_, ?_⟩
  · rw [hp2.mem_iff]; exact h.has a
  · obtain ⟨h1, rfl⟩ := List.getElem?_eq_some_iff.1 hi
    obtain ⟨h2, rfl⟩ := List.getElem?_eq_some_iff.1 hj
    have hle := List.pairwise_iff_getElem.1 (strs_le ks) i (i + 1) h1 h2 (by omega)
    have hne := List.pairwise_iff_getElem.1 (List.nodup_iff_pairwise_ne.1 hnd) i (i + 1) h1 h2 (by omega)
    rw [bytesLess_eq, decide_eq_true_eq]
    rcases Decidable.em ((srtS ks)[i] < (srtS ks)[i + 1]) with h | h
    · exact h
    · exact absurd (List.le_antisymm hle (List.not_lt.1 h)) hne
  · have := hp2.length_eq
    have := h.len
    rw [List.length_map] at *
    omega
theorem Ev_lookG {P : Program} {e : Env} {H : Hp} {R : Own} {dst : Option Tmp} {ty : TypeId} {pos : String} {after : Array Edge} {g : Option (Nat × Bool)} {x y : Operand} {t b : Nat} {kt et : TypeId} {kvs : List (List UInt8 × Value)} {q : List UInt8} {zv v : Value} {bb : Bool} {i : Nat} [ht : UndC P t (.map kt et)] [hk : UndC P kt .string] (hzv : ∀ w, (zeroValue et).run P w = .ok zv w) (hv : sget zv kvs q = v) (hb : decide (shas kvs q) = bb) (hx : e.eval x = some (.map (some b))) (hy : e.eval y = some (sv q)) (hR : oget R i = some (.obj b (smobj kvs))) :
    Ev P ⟨dst, .lookup t x y true, ty, pos, after, g⟩ e H R (.tuple [v, .bool bb].toArray) := by
  subst hv hb
  exact Ev_lookupTok hzv hx hy hR
theorem Ev_lookG0 {P : Program} {e : Env} {H : Hp} {R : Own} {dst : Option Tmp} {ty : TypeId} {pos : String} {after : Array Edge} {g : Option (Nat × Bool)} {x y : Operand} {t b : Nat} {kt et : TypeId} {kvs : List (List UInt8 × Value)} {q : List UInt8} {zv v : Value} {i : Nat} [ht : UndC P t (.map kt et)] [hk : UndC P kt .string] (hzv : ∀ w, (zeroValue et).run P w = .ok zv w) (hv : sget zv kvs q = v) (hx : e.eval x = some (.map (some b))) (hy : e.eval y = some (sv q)) (hR : oget R i = some (.obj b (smobj kvs))) :
    Ev P ⟨dst, .lookup t x y false, ty, pos, after, g⟩ e H R v := by
  subst hv
  exact Ev_lookupT hzv hx hy hR
theorem Ev_sgeq {P : Program} {e : Env} {H : Hp} {R : Own} {dst : Option Tmp} {ty : TypeId} {pos : String} {after : Array Edge} {g : Option (Nat × Bool)} {x y : Operand} {t t2 : TypeId} {s s2 : List UInt8} {b : Bool} (hb : Op.bytesLess s s2 = b) (hx : e.eval x = some (sv s)) (hy : e.eval y = some (sv s2)) : Ev P ⟨dst, .binOp .geq t x y t2, ty, pos, after, g⟩ e H R (.bool (!b)) := fun a w he _ _ => by
  subst hb
  have h1 : binOp .geq t (sv s) (sv s2) = pure (.bool !(Op.bytesLess s s2)) := by simp [binOp, Op.stringOp, ByteArray.toList_mk]
  simp only [execOp, he.eval hx, he.eval hy, eqGuard_at_string, h1, Sem.run_bind, Sem.run_pure, Result.andThen_ok]
end Go.Proofs.Ytlcoebomgaodgaa
