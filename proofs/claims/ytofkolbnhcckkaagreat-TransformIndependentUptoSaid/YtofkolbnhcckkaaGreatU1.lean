/-
  Settings as data, and their comparison. Printed by genU1.py.
-/
import Derived.Test.YtofkolbnhcckkaaGreatP0
import Derived.Test.YtofkolbnhcckkaaGreatR36
import Derived.Test.YtofkolbnhcckkaaGreatE4
namespace Go.Proofs.YtofkolbnhcckkaaGreat
open Go
set_option linter.unusedVariables false
set_option linter.unusedSimpArgs false

structure Lvl where
  fmt : Int
  start : Int
  tmpl : List UInt8
  restart : Int
  deriving DecidableEq

def lvrow (x : Lvl) : List Value := [.int .i64 x.fmt, .int .i64 x.start, sv x.tmpl, .int .i64 x.restart]

theorem lvrow_one (l : List Lvl) : ∀ cs ∈ l.map lvrow, ∀ u ∈ cs, u.oneCell' = true := by
  intro cs hcs u hu
  obtain ⟨p, _, rfl⟩ := List.mem_map.1 hcs
  simp [lvrow] at hu
  rcases hu with rfl | rfl | rfl | rfl <;> rfl

theorem eq_Lvl (x y : Lvl) : ∀ w, (Op.equalIn 10000 155 (.agg (lvrow x).toArray) (.agg (lvrow y).toArray)).run Tryz.prog w = .ok (decide (x = y)) w := fun w => by
  have key : ∀ m : Nat, (Op.equalIn (m + 2) 155 (.agg (lvrow x).toArray) (.agg (lvrow y).toArray)).run Tryz.prog w = .ok (decide (x = y)) w := fun m => by
    have hf := fieldsOf_of Tryz.underlying155
    unfold lvrow
    rw [run_equalIn_agg (P := Tryz.prog) w (m + 1) _ _ _ (by rw [hf]; exact Tryz.underlying155) Tryz.stoodInHeld155, hf]
    have h1 := fun x y : Int => run_equalIn_int (P := Tryz.prog) w m 3 .i64 .i64 x y Tryz.underlying3
    have h2 := fun x y : List UInt8 => run_equalIn_string (P := Tryz.prog) (w := w) m 9 ⟨x.toArray⟩ ⟨y.toArray⟩ Tryz.underlying9
    have h3 := fun x y : Bool => run_equalIn_bool' (P := Tryz.prog) w m 4 x y Tryz.underlying4
    simp [Op.eqFields, part, Tryz.isAgg3, Tryz.isAgg9, Tryz.isAgg4, h1, h2, h3]
    obtain ⟨a, b, c, d⟩ := x
    obtain ⟨a', b', c', d'⟩ := y
    by_cases e0 : a = a' <;> by_cases e1 : b = b' <;> by_cases e2 : c = c' <;> by_cases e3 : d = d' <;> simp [e0, e1, e2, e3]
  exact key 9998

structure Cmt where
  id : Int
  parent : Int
  author : List UInt8
  time : Int
  text : List UInt8
  done : Bool
  deriving DecidableEq

def cmrow (x : Cmt) : List Value := [.int .i64 x.id, .int .i64 x.parent, sv x.author, .int .i64 x.time, sv x.text, .bool x.done]

theorem cmrow_one (l : List Cmt) : ∀ cs ∈ l.map cmrow, ∀ u ∈ cs, u.oneCell' = true := by
  intro cs hcs u hu
  obtain ⟨p, _, rfl⟩ := List.mem_map.1 hcs
  simp [cmrow] at hu
  rcases hu with rfl | rfl | rfl | rfl | rfl | rfl <;> rfl

theorem eq_Cmt (x y : Cmt) : ∀ w, (Op.equalIn 10000 162 (.agg (cmrow x).toArray) (.agg (cmrow y).toArray)).run Tryz.prog w = .ok (decide (x = y)) w := fun w => by
  have key : ∀ m : Nat, (Op.equalIn (m + 2) 162 (.agg (cmrow x).toArray) (.agg (cmrow y).toArray)).run Tryz.prog w = .ok (decide (x = y)) w := fun m => by
    have hf := fieldsOf_of Tryz.underlying162
    unfold cmrow
    rw [run_equalIn_agg (P := Tryz.prog) w (m + 1) _ _ _ (by rw [hf]; exact Tryz.underlying162) Tryz.stoodInHeld162, hf]
    have h1 := fun x y : Int => run_equalIn_int (P := Tryz.prog) w m 3 .i64 .i64 x y Tryz.underlying3
    have h2 := fun x y : List UInt8 => run_equalIn_string (P := Tryz.prog) (w := w) m 9 ⟨x.toArray⟩ ⟨y.toArray⟩ Tryz.underlying9
    have h3 := fun x y : Bool => run_equalIn_bool' (P := Tryz.prog) w m 4 x y Tryz.underlying4
    simp [Op.eqFields, part, Tryz.isAgg3, Tryz.isAgg9, Tryz.isAgg4, h1, h2, h3]
    obtain ⟨a, b, c, d, e, f⟩ := x
    obtain ⟨a', b', c', d', e', f'⟩ := y
    by_cases e0 : a = a' <;> by_cases e1 : b = b' <;> by_cases e2 : c = c' <;> by_cases e3 : d = d' <;> by_cases e4 : e = e' <;> by_cases e5 : f = f' <;> simp [e0, e1, e2, e3, e4, e5]
  exact key 9998

structure Vr where
  name : List UInt8
  val : List UInt8
  deriving DecidableEq

def vrrow (x : Vr) : List Value := [sv x.name, sv x.val]

theorem vrrow_one (l : List Vr) : ∀ cs ∈ l.map vrrow, ∀ u ∈ cs, u.oneCell' = true := by
  intro cs hcs u hu
  obtain ⟨p, _, rfl⟩ := List.mem_map.1 hcs
  simp [vrrow] at hu
  rcases hu with rfl | rfl <;> rfl

theorem eq_Vr (x y : Vr) : ∀ w, (Op.equalIn 10000 165 (.agg (vrrow x).toArray) (.agg (vrrow y).toArray)).run Tryz.prog w = .ok (decide (x = y)) w := fun w => by
  have key : ∀ m : Nat, (Op.equalIn (m + 2) 165 (.agg (vrrow x).toArray) (.agg (vrrow y).toArray)).run Tryz.prog w = .ok (decide (x = y)) w := fun m => by
    have hf := fieldsOf_of Tryz.underlying165
    unfold vrrow
    rw [run_equalIn_agg (P := Tryz.prog) w (m + 1) _ _ _ (by rw [hf]; exact Tryz.underlying165) Tryz.stoodInHeld165, hf]
    have h1 := fun x y : Int => run_equalIn_int (P := Tryz.prog) w m 3 .i64 .i64 x y Tryz.underlying3
    have h2 := fun x y : List UInt8 => run_equalIn_string (P := Tryz.prog) (w := w) m 9 ⟨x.toArray⟩ ⟨y.toArray⟩ Tryz.underlying9
    have h3 := fun x y : Bool => run_equalIn_bool' (P := Tryz.prog) w m 4 x y Tryz.underlying4
    simp [Op.eqFields, part, Tryz.isAgg3, Tryz.isAgg9, Tryz.isAgg4, h1, h2, h3]
    obtain ⟨a, b⟩ := x
    obtain ⟨a', b'⟩ := y
    by_cases e0 : a = a' <;> by_cases e1 : b = b' <;> simp [e0, e1]
  exact key 9998

structure Lst where
  id : Int
  levels : List Lvl
  deriving DecidableEq
structure Sty where
  id : Int
  kind : Int
  name : List UInt8
  base : Int
  next : Int
  props : List Prp
  deriving DecidableEq
structure Sett where
  styles : List Sty
  lists : List Lst
  comments : List Cmt
  vars : List Vr
  deriving DecidableEq
structure LstH (H : Hp) (cs : List Value) (x : Lst) : Prop where
  ex : ∃ (a : Option Addr) (n c : Nat), cs = [.int .i64 x.id, .slice a n c] ∧ HRow H a n c 4 (x.levels.map lvrow)
structure StyH (H : Hp) (cs : List Value) (x : Sty) : Prop where
  ex : ∃ (a : Option Addr) (n c : Nat), cs = [.int .i64 x.id, .int .i64 x.kind, sv x.name, .int .i64 x.base, .int .i64 x.next, .slice a n c] ∧ HRow H a n c 2 (x.props.map prow)
theorem LstH.mono {H H' : Hp} (hl : HLe H H') {cs : List Value} {x : Lst} (h : LstH H cs x) : LstH H' cs x := by obtain ⟨a, n, c, e, h1⟩ := h.ex; exact ⟨a, n, c, e, h1.mono hl⟩
theorem StyH.mono {H H' : Hp} (hl : HLe H H') {cs : List Value} {x : Sty} (h : StyH H cs x) : StyH H' cs x := by obtain ⟨a, n, c, e, h1⟩ := h.ex; exact ⟨a, n, c, e, h1.mono hl⟩
theorem LstH.one {H : Hp} {cs : List Value} {x : Lst} (h : LstH H cs x) : ∀ u ∈ cs, u.oneCell' = true := by
  obtain ⟨a, n, c, rfl, _⟩ := h.ex
  intro u hu
  simp at hu
  rcases hu with rfl | rfl <;> rfl
theorem StyH.one {H : Hp} {cs : List Value} {x : Sty} (h : StyH H cs x) : ∀ u ∈ cs, u.oneCell' = true := by
  obtain ⟨a, n, c, rfl, _⟩ := h.ex
  intro u hu
  simp at hu
  rcases hu with rfl | rfl | rfl | rfl | rfl | rfl <;> rfl
structure SettH (H : Hp) (cs : List Value) (x : Sett) : Prop where
  ex : ∃ (sa : Option Addr) (sn sc : Nat) (la : Option Addr) (ln lc : Nat) (ca : Option Addr) (cn cc : Nat) (va : Option Addr) (vn vc : Nat), cs = [.slice sa sn sc, .slice la ln lc, .slice ca cn cc, .slice va vn vc] ∧
    SlH H StyH 6 sa sn sc x.styles ∧ SlH H LstH 2 la ln lc x.lists ∧ HRow H ca cn cc 6 (x.comments.map cmrow) ∧ HRow H va vn vc 2 (x.vars.map vrrow)
theorem SlH.monoR {α : Type} {R : Hp → List Value → α → Prop} {H H' : Hp} (hR : ∀ cs x, R H cs x → R H' cs x) (hl : HLe H H') {k : Nat} {a : Option Addr} {n c : Nat} {l : List α} (h : SlH H R k a n c l) : SlH H' R k a n c l := by
  obtain ⟨css, h1, h2⟩ := h.ex; exact ⟨css, h1.mono hl, h2.mono hR⟩
theorem SettH.mono {H H' : Hp} (hl : HLe H H') {cs : List Value} {x : Sett} (h : SettH H cs x) : SettH H' cs x := by
  obtain ⟨sa, sn, sc, la, ln, lc, ca, cn, cc, va, vn, vc, e, h1, h2, h3, h4⟩ := h.ex
  exact ⟨sa, sn, sc, la, ln, lc, ca, cn, cc, va, vn, vc, e, h1.monoR (fun _ _ h => h.mono hl) hl, h2.monoR (fun _ _ h => h.mono hl) hl, h3.mono hl, h4.mono hl⟩
def sett0 : Sett := ⟨[], [], [], []⟩
theorem sett0H (H : Hp) : SettH H [.slice none 0 0, .slice none 0 0, .slice none 0 0, .slice none 0 0] sett0 := ⟨_, _, _, _, _, _, _, _, _, _, _, _, rfl, ⟨[], HRow.nil' H 6, .nil⟩, ⟨[], HRow.nil' H 2, .nil⟩, HRow.nil' H 6, HRow.nil' H 2⟩
/-- no list is too long -/
def Sett.fine (x : Sett) : Prop := x.styles.length < 68719476736 ∧ (∀ s ∈ x.styles, s.props.length < 68719476736) ∧ x.lists.length < 68719476736 ∧ (∀ s ∈ x.lists, s.levels.length < 68719476736) ∧ x.comments.length < 68719476736 ∧ x.vars.length < 68719476736
attribute [local irreducible] wpA opsA drJ drQ drE Ef Ev Shift Fn

set_option maxRecDepth 100000 in
theorem sEqualLvl_fn {H : Hp} {a : Option Addr} {n cq : Nat} {a' : Option Addr} {n' cq' : Nat} {l l' : List Lvl} (hx : HRow H a n cq 4 (l.map lvrow)) (hx' : HRow H a' n' cq' 4 (l'.map lvrow)) (hm : n < 68719476736) : FnP Tryz.prog 91 [.slice a n cq, .slice a' n' cq'] H (.bool (decide (l = l'))) := by
  have e1 : l.length = n := by have := hx.len; simpa using this
  have e2 : l'.length = n' := by have := hx'.len; simpa using this
  have no : ∀ {q : Prop}, ¬ q → (l = l' → q) → decide (l = l') = false := fun hq hh => decide_eq_false fun e => hq (hh e)
  refine Fn_of _ _ Tryz.func91 rfl Tryz.ntmps91 rfl fun c => ?_
  repeat' (first | refine O_nil ?_ | refine A_seq ?_ | refine A_region ?_ | refine A_skip ?_ | refine A_ret ?_ | refine A_block ?_ | (show opsA _ _ _ _ _ _ _; first | refine O_ev WideF.wide rfl (Ev_pure rfl) rfl rfl ?_ | (show opsA _ _ _ _ (⟨_, .call _, _, _, _, _⟩ :: _) _ _; refine O_ev WideF.wide rfl (Ev_llen rfl) rfl rfl ?_)) | (show wpA _ _ _ (.cond _ _ _) _ _ _ _; (refine A_if rfl (fun h => ?_) (fun h => ?_) <;> try (exfalso; omega))))
  · (refine End_p (Ret1 rfl rfl) ?_)
    rw [no (show ¬ n = n' by omega) (fun e => by subst e; omega)]
  · refine A_loopu (fun m s => ∃ i : Nat, m = n - i ∧ i ≤ n ∧ (∀ j, j < i → l[j]? = l'[j]?) ∧ s = seqSt H a n cq a' n' cq' i) ?_ ?_
    · exact Shift.to ⟨_, 0, rfl, by omega, fun j hj => absurd hj (by omega), rfl⟩ ⟨rfl, rfl, rfl, ⟨rfl, rfl, rfl, rfl, rfl, rfl, trivial⟩, Own.sub_nil _⟩
    · rintro m s ⟨i, rfl, hi, hall, rfl⟩
      by_cases hlt : i < n
      · obtain ⟨b, o, y, rfl, hyi, hc⟩ := hx.atm i hlt
        obtain ⟨b', o', y', rfl, hyi', hc'⟩ := hx'.atm i (by omega)
        have hxx : l = l' → y = y' := fun e => by subst e; rw [hyi] at hyi'; exact Option.some.inj hyi'
        repeat' (first | (refine A_drawi WideF.wide (.q 0 (.q 1 (.q 2 (.q 3 (.q 4 (.q 5 (.q 6 (.q 7 (.q 8 (.done [])))))))))) [] [] [] (by decide +kernel) (by decide) rfl ?_; simp only [Own.picks, Own.rget, List.cons_append, List.nil_append, List.append_nil]) | (refine D_ev rfl (Ev_neS rfl rfl Tryz.eqGuardType155 (eq_Lvl _ _)) rfl rfl ?_) | refine O_nil ?_ | refine A_seq ?_ | refine A_region ?_ | refine A_skip ?_ | refine A_ret ?_ | refine A_block ?_ | (show drJ _ _ _ _ _ _ _ (.q _ _) _; refine D_q rfl ?_) | (show drJ _ _ _ _ _ _ _ (.done _) _; refine D_done ?_; simp only [List.cons_append, List.nil_append]) | (show drQ _ _ _ _ _ _; first | refine D_ev rfl (Ev_pure rfl) rfl rfl ?_ | (show drQ _ _ _ ⟨_, .load _ _, _, _, _, _⟩ _ _; refine D_ev rfl (Ev_loadH rfl (by assumption) (by rfl)) rfl rfl ?_) | (show drQ _ _ _ ⟨_, .indexAddr _ _ _, _, _, _, _⟩ _ _; refine D_ev rfl (Ev_indexAddr rfl rfl (by omega) (by omega)) rfl rfl ?_)) | (show opsA _ _ _ _ _ _ _; first | refine O_ev WideF.wide rfl (Ev_pure rfl) rfl rfl ?_ | (show opsA _ _ _ _ (⟨_, .binOp _ _ _ _ _, _, _, _, _⟩ :: _) _ _; refine O_ev WideF.wide rfl (Ev_add rfl rfl (wi64 (by omega))) rfl rfl ?_)) | (show wpA _ _ _ (.cond _ _ _) _ _ _ _; (refine A_if rfl (fun h => ?_) (fun h => ?_) <;> try (exfalso; omega))))
        · (refine End_p (Ret1 rfl rfl) ?_)
          rw [no (by assumption) (fun e => hxx e)]
        · refine Shift.to ⟨_, ?_, i + 1, rfl, by omega, fun j hj => ?_, rfl⟩ ⟨rfl, rfl, rfl, ⟨rfl, rfl, rfl, rfl, rfl, rfl, trivial⟩, Own.sub_nil _⟩
          · omega
          · by_cases hji : j = i
            · subst hji
              rw [hyi, hyi']
              have hq := Decidable.not_not.1 (by assumption)
              exact congrArg some hq
            · exact hall j (by omega)
      · have hin : n = i := by omega
        subst hin
        have he2 : l = l' := list_ext (by omega) fun j hj => hall j (by omega)
        repeat' (first | refine O_nil ?_ | refine A_seq ?_ | refine A_region ?_ | refine A_ret ?_ | (show opsA _ _ _ _ _ _ _; refine O_ev WideF.wide rfl (Ev_pure rfl) rfl rfl ?_) | (show wpA _ _ _ (.exit _) _ _ _ _; refine A_exit rfl ?_) | (show wpA _ _ _ (.cond _ _ _) _ _ _ _; (refine A_if rfl (fun h => ?_) (fun h => ?_) <;> try (exfalso; omega))))
        (refine End_p (Ret1 rfl rfl) ?_)
        rw [decide_eq_true he2]

set_option maxRecDepth 100000 in
theorem sEqualCmt_fn {H : Hp} {a : Option Addr} {n cq : Nat} {a' : Option Addr} {n' cq' : Nat} {l l' : List Cmt} (hx : HRow H a n cq 6 (l.map cmrow)) (hx' : HRow H a' n' cq' 6 (l'.map cmrow)) (hm : n < 68719476736) : FnP Tryz.prog 95 [.slice a n cq, .slice a' n' cq'] H (.bool (decide (l = l'))) := by
  have e1 : l.length = n := by have := hx.len; simpa using this
  have e2 : l'.length = n' := by have := hx'.len; simpa using this
  have no : ∀ {q : Prop}, ¬ q → (l = l' → q) → decide (l = l') = false := fun hq hh => decide_eq_false fun e => hq (hh e)
  refine Fn_of _ _ Tryz.func95 rfl Tryz.ntmps95 rfl fun c => ?_
  repeat' (first | refine O_nil ?_ | refine A_seq ?_ | refine A_region ?_ | refine A_skip ?_ | refine A_ret ?_ | refine A_block ?_ | (show opsA _ _ _ _ _ _ _; first | refine O_ev WideF.wide rfl (Ev_pure rfl) rfl rfl ?_ | (show opsA _ _ _ _ (⟨_, .call _, _, _, _, _⟩ :: _) _ _; refine O_ev WideF.wide rfl (Ev_llen rfl) rfl rfl ?_)) | (show wpA _ _ _ (.cond _ _ _) _ _ _ _; (refine A_if rfl (fun h => ?_) (fun h => ?_) <;> try (exfalso; omega))))
  · (refine End_p (Ret1 rfl rfl) ?_)
    rw [no (show ¬ n = n' by omega) (fun e => by subst e; omega)]
  · refine A_loopu (fun m s => ∃ i : Nat, m = n - i ∧ i ≤ n ∧ (∀ j, j < i → l[j]? = l'[j]?) ∧ s = seqSt H a n cq a' n' cq' i) ?_ ?_
    · exact Shift.to ⟨_, 0, rfl, by omega, fun j hj => absurd hj (by omega), rfl⟩ ⟨rfl, rfl, rfl, ⟨rfl, rfl, rfl, rfl, rfl, rfl, trivial⟩, Own.sub_nil _⟩
    · rintro m s ⟨i, rfl, hi, hall, rfl⟩
      by_cases hlt : i < n
      · obtain ⟨b, o, y, rfl, hyi, hc⟩ := hx.atm i hlt
        obtain ⟨b', o', y', rfl, hyi', hc'⟩ := hx'.atm i (by omega)
        have hxx : l = l' → y = y' := fun e => by subst e; rw [hyi] at hyi'; exact Option.some.inj hyi'
        repeat' (first | (refine A_drawi WideF.wide (.q 0 (.q 1 (.q 2 (.q 3 (.q 4 (.q 5 (.q 6 (.q 7 (.q 8 (.done [])))))))))) [] [] [] (by decide +kernel) (by decide) rfl ?_; simp only [Own.picks, Own.rget, List.cons_append, List.nil_append, List.append_nil]) | (refine D_ev rfl (Ev_neS rfl rfl Tryz.eqGuardType162 (eq_Cmt _ _)) rfl rfl ?_) | refine O_nil ?_ | refine A_seq ?_ | refine A_region ?_ | refine A_skip ?_ | refine A_ret ?_ | refine A_block ?_ | (show drJ _ _ _ _ _ _ _ (.q _ _) _; refine D_q rfl ?_) | (show drJ _ _ _ _ _ _ _ (.done _) _; refine D_done ?_; simp only [List.cons_append, List.nil_append]) | (show drQ _ _ _ _ _ _; first | refine D_ev rfl (Ev_pure rfl) rfl rfl ?_ | (show drQ _ _ _ ⟨_, .load _ _, _, _, _, _⟩ _ _; refine D_ev rfl (Ev_loadH rfl (by assumption) (by rfl)) rfl rfl ?_) | (show drQ _ _ _ ⟨_, .indexAddr _ _ _, _, _, _, _⟩ _ _; refine D_ev rfl (Ev_indexAddr rfl rfl (by omega) (by omega)) rfl rfl ?_)) | (show opsA _ _ _ _ _ _ _; first | refine O_ev WideF.wide rfl (Ev_pure rfl) rfl rfl ?_ | (show opsA _ _ _ _ (⟨_, .binOp _ _ _ _ _, _, _, _, _⟩ :: _) _ _; refine O_ev WideF.wide rfl (Ev_add rfl rfl (wi64 (by omega))) rfl rfl ?_)) | (show wpA _ _ _ (.cond _ _ _) _ _ _ _; (refine A_if rfl (fun h => ?_) (fun h => ?_) <;> try (exfalso; omega))))
        · (refine End_p (Ret1 rfl rfl) ?_)
          rw [no (by assumption) (fun e => hxx e)]
        · refine Shift.to ⟨_, ?_, i + 1, rfl, by omega, fun j hj => ?_, rfl⟩ ⟨rfl, rfl, rfl, ⟨rfl, rfl, rfl, rfl, rfl, rfl, trivial⟩, Own.sub_nil _⟩
          · omega
          · by_cases hji : j = i
            · subst hji
              rw [hyi, hyi']
              have hq := Decidable.not_not.1 (by assumption)
              exact congrArg some hq
            · exact hall j (by omega)
      · have hin : n = i := by omega
        subst hin
        have he2 : l = l' := list_ext (by omega) fun j hj => hall j (by omega)
        repeat' (first | refine O_nil ?_ | refine A_seq ?_ | refine A_region ?_ | refine A_ret ?_ | (show opsA _ _ _ _ _ _ _; refine O_ev WideF.wide rfl (Ev_pure rfl) rfl rfl ?_) | (show wpA _ _ _ (.exit _) _ _ _ _; refine A_exit rfl ?_) | (show wpA _ _ _ (.cond _ _ _) _ _ _ _; (refine A_if rfl (fun h => ?_) (fun h => ?_) <;> try (exfalso; omega))))
        (refine End_p (Ret1 rfl rfl) ?_)
        rw [decide_eq_true he2]

set_option maxRecDepth 100000 in
theorem sEqualVr_fn {H : Hp} {a : Option Addr} {n cq : Nat} {a' : Option Addr} {n' cq' : Nat} {l l' : List Vr} (hx : HRow H a n cq 2 (l.map vrrow)) (hx' : HRow H a' n' cq' 2 (l'.map vrrow)) (hm : n < 68719476736) : FnP Tryz.prog 96 [.slice a n cq, .slice a' n' cq'] H (.bool (decide (l = l'))) := by
  have e1 : l.length = n := by have := hx.len; simpa using this
  have e2 : l'.length = n' := by have := hx'.len; simpa using this
  have no : ∀ {q : Prop}, ¬ q → (l = l' → q) → decide (l = l') = false := fun hq hh => decide_eq_false fun e => hq (hh e)
  refine Fn_of _ _ Tryz.func96 rfl Tryz.ntmps96 rfl fun c => ?_
  repeat' (first | refine O_nil ?_ | refine A_seq ?_ | refine A_region ?_ | refine A_skip ?_ | refine A_ret ?_ | refine A_block ?_ | (show opsA _ _ _ _ _ _ _; first | refine O_ev WideF.wide rfl (Ev_pure rfl) rfl rfl ?_ | (show opsA _ _ _ _ (⟨_, .call _, _, _, _, _⟩ :: _) _ _; refine O_ev WideF.wide rfl (Ev_llen rfl) rfl rfl ?_)) | (show wpA _ _ _ (.cond _ _ _) _ _ _ _; (refine A_if rfl (fun h => ?_) (fun h => ?_) <;> try (exfalso; omega))))
  · (refine End_p (Ret1 rfl rfl) ?_)
    rw [no (show ¬ n = n' by omega) (fun e => by subst e; omega)]
  · refine A_loopu (fun m s => ∃ i : Nat, m = n - i ∧ i ≤ n ∧ (∀ j, j < i → l[j]? = l'[j]?) ∧ s = seqSt H a n cq a' n' cq' i) ?_ ?_
    · exact Shift.to ⟨_, 0, rfl, by omega, fun j hj => absurd hj (by omega), rfl⟩ ⟨rfl, rfl, rfl, ⟨rfl, rfl, rfl, rfl, rfl, rfl, trivial⟩, Own.sub_nil _⟩
    · rintro m s ⟨i, rfl, hi, hall, rfl⟩
      by_cases hlt : i < n
      · obtain ⟨b, o, y, rfl, hyi, hc⟩ := hx.atm i hlt
        obtain ⟨b', o', y', rfl, hyi', hc'⟩ := hx'.atm i (by omega)
        have hxx : l = l' → y = y' := fun e => by subst e; rw [hyi] at hyi'; exact Option.some.inj hyi'
        repeat' (first | (refine A_drawi WideF.wide (.q 0 (.q 1 (.q 2 (.q 3 (.q 4 (.q 5 (.q 6 (.q 7 (.q 8 (.done [])))))))))) [] [] [] (by decide +kernel) (by decide) rfl ?_; simp only [Own.picks, Own.rget, List.cons_append, List.nil_append, List.append_nil]) | (refine D_ev rfl (Ev_neS rfl rfl Tryz.eqGuardType165 (eq_Vr _ _)) rfl rfl ?_) | refine O_nil ?_ | refine A_seq ?_ | refine A_region ?_ | refine A_skip ?_ | refine A_ret ?_ | refine A_block ?_ | (show drJ _ _ _ _ _ _ _ (.q _ _) _; refine D_q rfl ?_) | (show drJ _ _ _ _ _ _ _ (.done _) _; refine D_done ?_; simp only [List.cons_append, List.nil_append]) | (show drQ _ _ _ _ _ _; first | refine D_ev rfl (Ev_pure rfl) rfl rfl ?_ | (show drQ _ _ _ ⟨_, .load _ _, _, _, _, _⟩ _ _; refine D_ev rfl (Ev_loadH rfl (by assumption) (by rfl)) rfl rfl ?_) | (show drQ _ _ _ ⟨_, .indexAddr _ _ _, _, _, _, _⟩ _ _; refine D_ev rfl (Ev_indexAddr rfl rfl (by omega) (by omega)) rfl rfl ?_)) | (show opsA _ _ _ _ _ _ _; first | refine O_ev WideF.wide rfl (Ev_pure rfl) rfl rfl ?_ | (show opsA _ _ _ _ (⟨_, .binOp _ _ _ _ _, _, _, _, _⟩ :: _) _ _; refine O_ev WideF.wide rfl (Ev_add rfl rfl (wi64 (by omega))) rfl rfl ?_)) | (show wpA _ _ _ (.cond _ _ _) _ _ _ _; (refine A_if rfl (fun h => ?_) (fun h => ?_) <;> try (exfalso; omega))))
        · (refine End_p (Ret1 rfl rfl) ?_)
          rw [no (by assumption) (fun e => hxx e)]
        · refine Shift.to ⟨_, ?_, i + 1, rfl, by omega, fun j hj => ?_, rfl⟩ ⟨rfl, rfl, rfl, ⟨rfl, rfl, rfl, rfl, rfl, rfl, trivial⟩, Own.sub_nil _⟩
          · omega
          · by_cases hji : j = i
            · subst hji
              rw [hyi, hyi']
              have hq := Decidable.not_not.1 (by assumption)
              exact congrArg some hq
            · exact hall j (by omega)
      · have hin : n = i := by omega
        subst hin
        have he2 : l = l' := list_ext (by omega) fun j hj => hall j (by omega)
        repeat' (first | refine O_nil ?_ | refine A_seq ?_ | refine A_region ?_ | refine A_ret ?_ | (show opsA _ _ _ _ _ _ _; refine O_ev WideF.wide rfl (Ev_pure rfl) rfl rfl ?_) | (show wpA _ _ _ (.exit _) _ _ _ _; refine A_exit rfl ?_) | (show wpA _ _ _ (.cond _ _ _) _ _ _ _; (refine A_if rfl (fun h => ?_) (fun h => ?_) <;> try (exfalso; omega))))
        (refine End_p (Ret1 rfl rfl) ?_)
        rw [decide_eq_true he2]

set_option maxRecDepth 100000 in
theorem docList_fn {H : Hp} {cs cs' : List Value} {x x' : Lst} (hx : LstH H cs x) (hx' : LstH H cs' x') (hm : x.levels.length < 68719476736) : FnP Tryz.prog 90 [.agg cs.toArray, .agg cs'.toArray] H (.bool (decide (x = x'))) := by
  obtain ⟨a, n, c, rfl, h1⟩ := hx.ex
  obtain ⟨a', n', c', rfl, h1'⟩ := hx'.ex
  have e1 := h1.len
  rw [List.length_map] at e1
  have he := sEqualLvl_fn h1 h1' (by omega)
  obtain ⟨i, l⟩ := x
  obtain ⟨i', l'⟩ := x'
  dsimp only at he ⊢
  refine Fn_of _ _ Tryz.func90 rfl Tryz.ntmps90 rfl fun c => ?_
  repeat' (first | (refine O_ef rfl (Ef_callp WideF.wide (he) ⟨rfl, rfl, trivial⟩ rfl ?_)) | refine O_nil ?_ | refine A_seq ?_ | refine A_region ?_ | refine A_ret ?_ | (show opsA _ _ _ _ _ _ _; first | (refine O_split rfl rfl (fun h => ?_) (fun h => ?_) <;> try (exfalso; omega)) | refine O_ev WideF.wide rfl (Ev_pure rfl) rfl rfl ?_ | (show opsA _ _ _ _ (⟨_, .load _ _, _, _, _, _⟩ :: _) _ _; first | refine O_ev WideF.wide rfl (Ev_loadB1 (i := 0) rfl rfl rfl) rfl rfl ?_ | refine O_ev WideF.wide rfl (Ev_loadB1 (i := 1) rfl rfl rfl) rfl rfl ?_) | (show opsA _ _ _ _ (⟨_, .fieldAddr _ _ _, _, _, _, _⟩ :: _) _ _; refine O_ev WideF.wide rfl (Ev_fieldAddr rfl rfl rfl) rfl rfl ?_) | (show opsA _ _ _ _ (⟨_, .box _ _, _, _, _, _⟩ :: _) _ _; (refine O_ef rfl (Ef_boxa WideF.wide rfl rfl ?_); intro b)) | refine O_skip WideF.wide rfl rfl rfl ?_))
  all_goals ((refine End_p (Ret1 rfl rfl) ?_); refine congrArg Value.bool ?_; rw [Bool.eq_iff_iff]; simp [Lst.mk.injEq, *])
set_option maxRecDepth 100000 in
theorem propEqual_fn {H : Hp} {a : Option Addr} {n cq : Nat} {a' : Option Addr} {n' cq' : Nat} {l l' : List Prp} (hx : HRow H a n cq 2 (l.map prow)) (hx' : HRow H a' n' cq' 2 (l'.map prow)) (hm : n < 68719476736) : FnP Tryz.prog 112 [.slice a n cq, .slice a' n' cq'] H (.bool (decide (l = l'))) := by
  have he := sEqualPrp_fn hx hx' hm
  refine Fn_of _ _ Tryz.func112 rfl Tryz.ntmps112 rfl fun c => ?_
  repeat' (first | (refine O_ef rfl (Ef_callp WideF.wide (he) ⟨rfl, rfl, trivial⟩ rfl ?_)) | refine O_nil ?_ | refine A_seq ?_ | refine A_region ?_ | refine A_ret ?_ | (show opsA _ _ _ _ _ _ _; refine O_ev WideF.wide rfl (Ev_pure rfl) rfl rfl ?_))
  (refine End_p (Ret1 rfl rfl) ?_)
  rfl
set_option maxRecDepth 100000 in
set_option maxHeartbeats 1000000 in
theorem docStyle_fn {H : Hp} {cs cs' : List Value} {x x' : Sty} (hx : StyH H cs x) (hx' : StyH H cs' x') (hm : x.props.length < 68719476736) : FnP Tryz.prog 111 [.agg cs.toArray, .agg cs'.toArray] H (.bool (decide (x = x'))) := by
  obtain ⟨a, n, c, rfl, h1⟩ := hx.ex
  obtain ⟨a', n', c', rfl, h1'⟩ := hx'.ex
  have e1 := h1.len
  rw [List.length_map] at e1
  have he := propEqual_fn h1 h1' (by omega)
  obtain ⟨i, k, nm, b, nx, l⟩ := x
  obtain ⟨i', k', nm', b', nx', l'⟩ := x'
  dsimp only at he ⊢
  refine Fn_of _ _ Tryz.func111 rfl Tryz.ntmps111 rfl fun c => ?_
  repeat' (first | (refine O_ef rfl (Ef_callp WideF.wide (he) ⟨rfl, rfl, trivial⟩ rfl ?_)) | refine O_nil ?_ | refine A_seq ?_ | refine A_region ?_ | refine A_ret ?_ | (show opsA _ _ _ _ _ _ _; first | (refine O_split rfl rfl (fun h => ?_) (fun h => ?_) <;> try (exfalso; omega)) | refine O_ev WideF.wide rfl (Ev_pure rfl) rfl rfl ?_ | (show opsA _ _ _ _ (⟨_, .load _ _, _, _, _, _⟩ :: _) _ _; first | refine O_ev WideF.wide rfl (Ev_loadB1 (i := 0) rfl rfl rfl) rfl rfl ?_ | refine O_ev WideF.wide rfl (Ev_loadB1 (i := 1) rfl rfl rfl) rfl rfl ?_) | (show opsA _ _ _ _ (⟨_, .fieldAddr _ _ _, _, _, _, _⟩ :: _) _ _; refine O_ev WideF.wide rfl (Ev_fieldAddr rfl rfl rfl) rfl rfl ?_) | (show opsA _ _ _ _ (⟨_, .binOp _ _ _ _ _, _, _, _, _⟩ :: _) _ _; refine O_ev WideF.wide rfl (Ev_seql rfl rfl) rfl rfl ?_) | (show opsA _ _ _ _ (⟨_, .box _ _, _, _, _, _⟩ :: _) _ _; (refine O_ef rfl (Ef_boxa WideF.wide rfl rfl ?_); intro b)) | refine O_skip WideF.wide rfl rfl rfl ?_))
  all_goals ((refine End_p (Ret1 rfl rfl) ?_); refine congrArg Value.bool ?_; rw [Bool.eq_iff_iff]; simp [Sty.mk.injEq, *])

set_option maxRecDepth 100000 in
theorem sEqualFuncLst_fn {H : Hp} {a : Option Addr} {n cq : Nat} {a' : Option Addr} {n' cq' : Nat} {l l' : List Lst} (hx : SlH H LstH 2 a n cq l) (hx' : SlH H LstH 2 a' n' cq' l') (hm : n < 68719476736)
    (hf : ∀ {cs cs' : List Value} {i : Nat} {x x' : Lst}, l[i]? = some x → LstH H cs x → LstH H cs' x' → FnP Tryz.prog 90 [.agg cs.toArray, .agg cs'.toArray] H (.bool (decide (x = x')))) :
    FnP Tryz.prog 94 [.slice a n cq, .slice a' n' cq', .func (.func 90) #[] #[]] H (.bool (decide (l = l'))) := by
  have e1 := hx.len
  have e2 := hx'.len
  have no : ∀ {q : Prop}, ¬ q → (l = l' → q) → decide (l = l') = false := fun hq hh => decide_eq_false fun e => hq (hh e)
  refine Fn_of _ _ Tryz.func94 rfl Tryz.ntmps94 rfl fun c => ?_
  repeat' (first | refine O_nil ?_ | refine A_seq ?_ | refine A_region ?_ | refine A_skip ?_ | refine A_ret ?_ | refine A_block ?_ | (show opsA _ _ _ _ _ _ _; first | refine O_ev WideF.wide rfl (Ev_pure rfl) rfl rfl ?_ | (show opsA _ _ _ _ (⟨_, .call _, _, _, _, _⟩ :: _) _ _; refine O_ev WideF.wide rfl (Ev_llen rfl) rfl rfl ?_)) | (show wpA _ _ _ (.cond _ _ _) _ _ _ _; (refine A_if rfl (fun h => ?_) (fun h => ?_) <;> try (exfalso; omega))))
  · (refine End_p (Ret1 rfl rfl) ?_)
    rw [no (show ¬ n = n' by omega) (fun e => by subst e; omega)]
  · refine A_loopu (fun m s => ∃ i : Nat, m = n - i ∧ i ≤ n ∧ (∀ j, j < i → l[j]? = l'[j]?) ∧ s = sefSt H 90 a n cq a' n' cq' i) ?_ ?_
    · exact Shift.to ⟨_, 0, rfl, by omega, fun j hj => absurd hj (by omega), rfl⟩ ⟨rfl, rfl, rfl, ⟨rfl, rfl, rfl, rfl, rfl, rfl, rfl, trivial⟩, Own.sub_nil _⟩
    · rintro m s ⟨i, rfl, hi, hall, rfl⟩
      by_cases hlt : i < n
      · obtain ⟨b, o, cs, y, rfl, hyi, hyc, hyk, hc⟩ := hx.at i hlt
        obtain ⟨b', o', cs', y', rfl, hyi', hyc', hyk', hc'⟩ := hx'.at i (by omega)
        have hxx : l = l' → y = y' := fun e => by subst e; rw [hyi] at hyi'; exact Option.some.inj hyi'
        have hcall := hf hyi hyc hyc'
        repeat' (first | (refine O_ev WideF.wide rfl (Ev_loadH rfl (by assumption) (by assumption)) rfl rfl ?_) | (refine O_ev WideF.wide rfl (Ev_loadB (i := 0) rfl rfl (by assumption)) rfl rfl ?_) | (refine O_ev WideF.wide rfl (Ev_loadB (i := 1) rfl rfl (by assumption)) rfl rfl ?_) | (refine O_ef rfl (Ef_storew WideF.wide rfl rfl (by assumption) (by first | exact List.all_eq_true.2 hyc.one | exact List.all_eq_true.2 hyc'.one) (by simp [hyk, hyk']) ?_)) | (refine O_ef rfl (Ef_callvp WideF.wide hcall rfl ⟨rfl, rfl, trivial⟩ rfl ?_)) | refine O_nil ?_ | refine A_seq ?_ | refine A_region ?_ | refine A_skip ?_ | refine A_ret ?_ | refine A_block ?_ | (show opsA _ _ _ _ _ _ _; first | refine O_ev WideF.wide rfl (Ev_pure rfl) rfl rfl ?_ | (show opsA _ _ _ _ (⟨_, .indexAddr _ _ _, _, _, _, _⟩ :: _) _ _; refine O_ev WideF.wide rfl (Ev_indexAddr rfl rfl (by omega) (by omega)) rfl rfl ?_) | (show opsA _ _ _ _ (⟨_, .binOp _ _ _ _ _, _, _, _, _⟩ :: _) _ _; refine O_ev WideF.wide rfl (Ev_add rfl rfl (wi64 (by omega))) rfl rfl ?_) | (show opsA _ _ _ _ (⟨_, .unOp _ _ _, _, _, _, _⟩ :: _) _ _; refine O_ev WideF.wide rfl (Ev_not rfl) rfl rfl ?_) | (show opsA _ _ _ _ (⟨_, .alloc _, _, _, _, _⟩ :: _) _ _; (refine O_ef rfl (Ef_alloc WideF.wide rfl ?_); intro b))) | (show wpA _ _ _ (.cond _ _ _) _ _ _ _; (refine A_if rfl (fun h => ?_) (fun h => ?_) <;> try (exfalso; omega))))
        · (refine End_p (Ret1 rfl rfl) ?_)
          rw [no (by assumption) (fun e => hxx e)]
        · refine Shift.to ⟨_, ?_, i + 1, rfl, by omega, fun j hj => ?_, rfl⟩ ⟨rfl, rfl, rfl, ⟨rfl, rfl, rfl, rfl, rfl, rfl, rfl, trivial⟩, Own.sub_nil _⟩
          · omega
          · by_cases hji : j = i
            · subst hji
              have hq : y = y' := Decidable.not_not.1 (by assumption)
              rw [hyi, hyi', hq]
            · exact hall j (by omega)
      · have hin : n = i := by omega
        subst hin
        have he2 : l = l' := list_ext (by omega) fun j hj => hall j (by omega)
        repeat' (first | refine O_nil ?_ | refine A_seq ?_ | refine A_region ?_ | refine A_ret ?_ | (show opsA _ _ _ _ _ _ _; refine O_ev WideF.wide rfl (Ev_pure rfl) rfl rfl ?_) | (show wpA _ _ _ (.exit _) _ _ _ _; refine A_exit rfl ?_) | (show wpA _ _ _ (.cond _ _ _) _ _ _ _; (refine A_if rfl (fun h => ?_) (fun h => ?_) <;> try (exfalso; omega))))
        (refine End_p (Ret1 rfl rfl) ?_)
        rw [decide_eq_true he2]

set_option maxRecDepth 100000 in
theorem sEqualFuncSty_fn {H : Hp} {a : Option Addr} {n cq : Nat} {a' : Option Addr} {n' cq' : Nat} {l l' : List Sty} (hx : SlH H StyH 6 a n cq l) (hx' : SlH H StyH 6 a' n' cq' l') (hm : n < 68719476736)
    (hf : ∀ {cs cs' : List Value} {i : Nat} {x x' : Sty}, l[i]? = some x → StyH H cs x → StyH H cs' x' → FnP Tryz.prog 111 [.agg cs.toArray, .agg cs'.toArray] H (.bool (decide (x = x')))) :
    FnP Tryz.prog 110 [.slice a n cq, .slice a' n' cq', .func (.func 111) #[] #[]] H (.bool (decide (l = l'))) := by
  have e1 := hx.len
  have e2 := hx'.len
  have no : ∀ {q : Prop}, ¬ q → (l = l' → q) → decide (l = l') = false := fun hq hh => decide_eq_false fun e => hq (hh e)
  refine Fn_of _ _ Tryz.func110 rfl Tryz.ntmps110 rfl fun c => ?_
  repeat' (first | refine O_nil ?_ | refine A_seq ?_ | refine A_region ?_ | refine A_skip ?_ | refine A_ret ?_ | refine A_block ?_ | (show opsA _ _ _ _ _ _ _; first | refine O_ev WideF.wide rfl (Ev_pure rfl) rfl rfl ?_ | (show opsA _ _ _ _ (⟨_, .call _, _, _, _, _⟩ :: _) _ _; refine O_ev WideF.wide rfl (Ev_llen rfl) rfl rfl ?_)) | (show wpA _ _ _ (.cond _ _ _) _ _ _ _; (refine A_if rfl (fun h => ?_) (fun h => ?_) <;> try (exfalso; omega))))
  · (refine End_p (Ret1 rfl rfl) ?_)
    rw [no (show ¬ n = n' by omega) (fun e => by subst e; omega)]
  · refine A_loopu (fun m s => ∃ i : Nat, m = n - i ∧ i ≤ n ∧ (∀ j, j < i → l[j]? = l'[j]?) ∧ s = sefSt H 111 a n cq a' n' cq' i) ?_ ?_
    · exact Shift.to ⟨_, 0, rfl, by omega, fun j hj => absurd hj (by omega), rfl⟩ ⟨rfl, rfl, rfl, ⟨rfl, rfl, rfl, rfl, rfl, rfl, rfl, trivial⟩, Own.sub_nil _⟩
    · rintro m s ⟨i, rfl, hi, hall, rfl⟩
      by_cases hlt : i < n
      · obtain ⟨b, o, cs, y, rfl, hyi, hyc, hyk, hc⟩ := hx.at i hlt
        obtain ⟨b', o', cs', y', rfl, hyi', hyc', hyk', hc'⟩ := hx'.at i (by omega)
        have hxx : l = l' → y = y' := fun e => by subst e; rw [hyi] at hyi'; exact Option.some.inj hyi'
        have hcall := hf hyi hyc hyc'
        repeat' (first | (refine O_ev WideF.wide rfl (Ev_loadH rfl (by assumption) (by assumption)) rfl rfl ?_) | (refine O_ev WideF.wide rfl (Ev_loadB (i := 0) rfl rfl (by assumption)) rfl rfl ?_) | (refine O_ev WideF.wide rfl (Ev_loadB (i := 1) rfl rfl (by assumption)) rfl rfl ?_) | (refine O_ef rfl (Ef_storew WideF.wide rfl rfl (by assumption) (by first | exact List.all_eq_true.2 hyc.one | exact List.all_eq_true.2 hyc'.one) (by simp [hyk, hyk']) ?_)) | (refine O_ef rfl (Ef_callvp WideF.wide hcall rfl ⟨rfl, rfl, trivial⟩ rfl ?_)) | refine O_nil ?_ | refine A_seq ?_ | refine A_region ?_ | refine A_skip ?_ | refine A_ret ?_ | refine A_block ?_ | (show opsA _ _ _ _ _ _ _; first | refine O_ev WideF.wide rfl (Ev_pure rfl) rfl rfl ?_ | (show opsA _ _ _ _ (⟨_, .indexAddr _ _ _, _, _, _, _⟩ :: _) _ _; refine O_ev WideF.wide rfl (Ev_indexAddr rfl rfl (by omega) (by omega)) rfl rfl ?_) | (show opsA _ _ _ _ (⟨_, .binOp _ _ _ _ _, _, _, _, _⟩ :: _) _ _; refine O_ev WideF.wide rfl (Ev_add rfl rfl (wi64 (by omega))) rfl rfl ?_) | (show opsA _ _ _ _ (⟨_, .unOp _ _ _, _, _, _, _⟩ :: _) _ _; refine O_ev WideF.wide rfl (Ev_not rfl) rfl rfl ?_) | (show opsA _ _ _ _ (⟨_, .alloc _, _, _, _, _⟩ :: _) _ _; (refine O_ef rfl (Ef_alloc WideF.wide rfl ?_); intro b))) | (show wpA _ _ _ (.cond _ _ _) _ _ _ _; (refine A_if rfl (fun h => ?_) (fun h => ?_) <;> try (exfalso; omega))))
        · (refine End_p (Ret1 rfl rfl) ?_)
          rw [no (by assumption) (fun e => hxx e)]
        · refine Shift.to ⟨_, ?_, i + 1, rfl, by omega, fun j hj => ?_, rfl⟩ ⟨rfl, rfl, rfl, ⟨rfl, rfl, rfl, rfl, rfl, rfl, rfl, trivial⟩, Own.sub_nil _⟩
          · omega
          · by_cases hji : j = i
            · subst hji
              have hq : y = y' := Decidable.not_not.1 (by assumption)
              rw [hyi, hyi', hq]
            · exact hall j (by omega)
      · have hin : n = i := by omega
        subst hin
        have he2 : l = l' := list_ext (by omega) fun j hj => hall j (by omega)
        repeat' (first | refine O_nil ?_ | refine A_seq ?_ | refine A_region ?_ | refine A_ret ?_ | (show opsA _ _ _ _ _ _ _; refine O_ev WideF.wide rfl (Ev_pure rfl) rfl rfl ?_) | (show wpA _ _ _ (.exit _) _ _ _ _; refine A_exit rfl ?_) | (show wpA _ _ _ (.cond _ _ _) _ _ _ _; (refine A_if rfl (fun h => ?_) (fun h => ?_) <;> try (exfalso; omega))))
        (refine End_p (Ret1 rfl rfl) ?_)
        rw [decide_eq_true he2]

set_option maxRecDepth 100000 in
theorem sheetEqual_fn {H : Hp} {a : Option Addr} {n cq : Nat} {a' : Option Addr} {n' cq' : Nat} {l l' : List Sty} (hx : SlH H StyH 6 a n cq l) (hx' : SlH H StyH 6 a' n' cq' l') (hm : n < 68719476736) (hp : ∀ s ∈ l, s.props.length < 68719476736) : FnP Tryz.prog 93 [.slice a n cq, .slice a' n' cq'] H (.bool (decide (l = l'))) := by
  have he := sEqualFuncSty_fn hx hx' hm fun hy h1 h2 => docStyle_fn h1 h2 (hp _ (List.mem_of_getElem? hy))
  refine Fn_of _ _ Tryz.func93 rfl Tryz.ntmps93 rfl fun c => ?_
  repeat' (first | (refine O_ef rfl (Ef_callp WideF.wide (he) ⟨rfl, rfl, rfl, trivial⟩ rfl ?_)) | refine O_nil ?_ | refine A_seq ?_ | refine A_region ?_ | refine A_ret ?_ | (show opsA _ _ _ _ _ _ _; refine O_ev WideF.wide rfl (Ev_pure rfl) rfl rfl ?_))
  (refine End_p (Ret1 rfl rfl) ?_)
  rfl

end Go.Proofs.YtofkolbnhcckkaaGreat
