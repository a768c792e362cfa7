/-
  The text of parts: program and reference; Print.
-/
import Derived.Test.YtaneeaojlkenmaaGreatDoorL8
import Derived.Lib.CountLaws
namespace Go.Proofs.YtaneeaojlkenmaaGreatDoor
open Go Go.Lib
set_option linter.unusedVariables false
set_option linter.unusedSimpArgs false
/-! ### strings.ReplaceAll of percent signs -/
theorem idx37 : ∀ s : List UInt8, (index s [37] = -1 ∧ (37 : UInt8) ∉ s) ∨ ∃ i : Nat, index s [37] = i ∧ i < s.length ∧ s = s.take i ++ 37 :: s.drop (i + 1) ∧ (37 : UInt8) ∉ s.take i
  | [] => .inl ⟨rfl, by simp⟩
  | b :: l => by
    by_cases h : b = 37
    · subst h
      exact .inr ⟨0, by unfold index; simp, by simp, by simp, by simp⟩
    · have hp : ([37] : List UInt8).isPrefixOf (b :: l) = false := by simp [List.isPrefixOf]; exact fun e => h e.symm
      rcases idx37 l with ⟨h1, h2⟩ | ⟨i, h1, h2, h3, h4⟩
      · refine .inl ⟨by unfold index; rw [hp, h1]; rfl, ?_⟩
        simp only [List.mem_cons, not_or]
        exact ⟨fun e => h e.symm, h2⟩
      · refine .inr ⟨i + 1, ?_, by simpa using h2, ?_, ?_⟩
        · unfold index
          rw [hp, h1]
          have : ((i : Int) == -1) = false := by rw [beq_eq_false_iff_ne]; omega
          simp [this]
        · rw [List.take_succ_cons, List.drop_succ_cons, List.cons_append, ← h3]
        · rw [List.take_succ_cons]
          simp only [List.mem_cons, not_or]
          exact ⟨fun e => h e.symm, h4⟩
theorem esc_none {s : List UInt8} (h : (37 : UInt8) ∉ s) : esc s = s := by
  induction s with
  | nil => rfl
  | cons b l ih =>
    have h1 : ¬ b = 37 := fun e => h (by simp [e])
    have : esc (b :: l) = (if b = 37 then [37, 37] else [b]) ++ esc l := by unfold esc; rw [List.flatMap_cons]
    rw [this, if_neg h1, ih (fun e => h (List.mem_cons_of_mem _ e))]
    rfl
theorem esc_sign (l : List UInt8) : esc (37 :: l) = 37 :: 37 :: esc l := by unfold esc; rw [List.flatMap_cons]; rfl
theorem replaceK_esc : ∀ (k : Nat) (s : List UInt8), s.length < k → replaceK [37] [37, 37] (countFrom [37] k s) s = esc s
  | 0, _, h => by omega
  | k + 1, s, h => by
    unfold countFrom
    rcases idx37 s with ⟨h1, h2⟩ | ⟨i, h1, h2, h3, h4⟩
    · rw [h1, if_pos (show ((-1 : Int) == -1) = true from rfl), esc_none h2]; rfl
    · have hm : (index s [37] == -1) = false := by rw [h1, beq_eq_false_iff_ne]; omega
      rw [hm, if_neg (by decide), Nat.add_comm 1, replaceK_hit _ _ _ _ i h1, h1]
      have e1 : ((i : Int).toNat + ([37] : List UInt8).length) = i + 1 := by simp
      rw [e1, show i + ([37] : List UInt8).length = i + 1 from rfl, replaceK_esc k _ (by rw [List.length_drop]; omega)]
      conv => rhs; rw [h3]
      rw [esc_append, esc_none h4, esc_sign]
      simp
theorem replaceAll_esc (s : List UInt8) : replaceAll s [37] [37, 37] = esc s := by
  unfold replaceAll replace
  rw [if_neg (by decide)]
  unfold replaceNum
  rw [if_pos (.inl (by decide))]
  exact replaceK_esc _ _ (by omega)
theorem count_le : ∀ (k : Nat) (s : List UInt8), countFrom [37] k s ≤ s.length
  | 0, _ => Nat.zero_le _
  | k + 1, s => by
    unfold countFrom
    rcases idx37 s with ⟨h1, h2⟩ | ⟨i, h1, h2, h3, h4⟩
    · rw [h1, if_pos (show ((-1 : Int) == -1) = true from rfl)]; exact Nat.zero_le _
    · have hm : (index s [37] == -1) = false := by rw [h1, beq_eq_false_iff_ne]; omega
      rw [hm, if_neg (by decide), h1]
      have := count_le k (s.drop ((i : Int).toNat + ([37] : List UInt8).length))
      rw [List.length_drop] at this
      have e1 : ((i : Int).toNat + ([37] : List UInt8).length) = i + 1 := by simp
      rw [e1] at this ⊢
      omega
theorem esc_len (l : List UInt8) : (esc l).length ≤ 2 * l.length := by
  induction l with
  | nil => simp [esc]
  | cons b l ih =>
    have : esc (b :: l) = (if b = 37 then [37, 37] else [b]) ++ esc l := by unfold esc; rw [List.flatMap_cons]
    rw [this, List.length_append, List.length_cons]
    split <;> simp <;> omega
/-! ### numbers -/
abbrev I64 (n : Int) : Prop := -9223372036854775808 ≤ n ∧ n < 9223372036854775808
theorem itoa_len {n : Int} (h : I64 n) : (itoa n).length ≤ 20 := by
  unfold itoa
  split
  · have := dec_len n.natAbs 18 (by omega)
    simp; omega
  · have := dec_len n.toNat 18 (by omega)
    omega
theorem ItoaI_fn {H : Hp} {n : Int} (hn : I64 n) : FnP Tryz.prog 71 [.int .i64 n] H (sv (itoa n)) := FnP_of fun w _ hg => by
  refine (strconv_Itoa n (by omega) (by omega) w hg.tab).mono ?_
  rintro e w' ⟨rfl, k, os, rfl⟩
  exact ⟨rfl, below_grew w k os⟩
/-- the library's variable that bounds short searches is a number -/
def MaxH (H : Hp) : Prop := ∃ m : Int, H 1 0 = some (.int .i64 m)
theorem MaxH.mono {H H' : Hp} (h : MaxH H) (hl : HLe H H') : MaxH H' := let ⟨m, hm⟩ := h; ⟨m, hl _ _ _ hm⟩
theorem ReplaceAll_fn {H : Hp} {l : List UInt8} (hl : l.length ≤ 1000000) (hM : MaxH H) : FnP Tryz.prog 70 [sv l, sv [37], sv [37, 37]] H (sv (esc l)) := FnP_of fun w hm _ => by
  obtain ⟨m, hc⟩ := hM
  refine (strings_ReplaceAll ⟨l.toArray⟩ ⟨#[37]⟩ ⟨#[37, 37]⟩ m w (by rw [bs_size]; omega) (hm _ _ _ hc).1 (by decide) ?_).mono ?_
  · have := count_le (l.length + 1) l
    have e : countB ⟨l.toArray⟩ ⟨#[37]⟩ = countFrom [37] (l.length + 1) l := by show count _ _ = _; simp [count]
    rw [e, bs_size, show (ByteArray.size ⟨#[37, 37]⟩) = 2 from rfl]
    omega
  · rintro e w' ⟨rfl, hb⟩
    refine ⟨?_, hb⟩
    rw [mk_toList, show (ByteArray.mk #[37]).data.toList = [37] from rfl, show (ByteArray.mk #[37, 37]).data.toList = [37, 37] from rfl, replaceAll_esc]
/-! ### the text of parts -/
def wrtP (p : Pt) : List UInt8 := if p.lev = 0 then esc p.lit else (if p.plain then [37, 100] else [37]) ++ itoa p.lev
def txtP (l : List Pt) : List UInt8 := l.flatMap wrtP
theorem itoa_dig {n : Int} (h : 1 ≤ n ∧ n ≤ 9) : itoa n = [ldig n] := by
  unfold itoa ldig
  rw [if_neg (by omega), dec_small (by omega)]
  congr 2
  omega
theorem wrtP_ok {p : Pt} (h : PartOk p) : wrtP p = wrt p := by
  unfold wrtP wrt
  by_cases h0 : p.lev = 0
  · rw [if_pos h0, if_pos h0]
  · rw [if_neg h0, if_neg h0, itoa_dig (h.elim (fun e => absurd e h0) id)]
    rfl
theorem txtP_ok {l : List Pt} (h : ∀ p ∈ l, PartOk p) : txtP l = txt l := by
  unfold txtP txt
  induction l with
  | nil => rfl
  | cons p r ih => rw [List.flatMap_cons, List.flatMap_cons, wrtP_ok (h p (by simp)), ih fun q hq => h q (List.mem_cons_of_mem _ hq)]
def wrtR (p : Pt) : List UInt8 := if p.lev < 0 ∨ 9 < p.lev then [37] else wrt p
def goR : List UInt8 → List Pt → List UInt8
  | s, [] => s
  | s, p :: r => if s.length ≤ 64 then goR (s ++ wrtR p) r else s
theorem goR_stop {s : List UInt8} {l : List Pt} (h : 64 < s.length) : goR s l = s := by
  cases l with
  | nil => rfl
  | cons p r => unfold goR; rw [if_neg (by omega)]
/-- what is written, or something longer than a template -/
theorem goR_ok : ∀ (l : List Pt) (s : List UInt8), (∀ p ∈ l, PartOk p) → goR s l = s ++ txt l ∨ (64 < (goR s l).length ∧ 64 < (s ++ txt l).length)
  | [], s, _ => .inl (by simp [goR, txt])
  | p :: r, s, h => by
    unfold goR
    have e1 : wrtR p = wrt p := by unfold wrtR; rw [if_neg (by rcases h p (by simp) with h | h <;> omega)]
    have e2 : s ++ txt (p :: r) = (s ++ wrt p) ++ txt r := by unfold txt; rw [List.flatMap_cons, List.append_assoc]
    by_cases hl : s.length ≤ 64
    · rw [if_pos hl, e1, e2]
      exact goR_ok r _ fun q hq => h q (List.mem_cons_of_mem _ hq)
    · rw [if_neg hl]
      exact .inr ⟨by omega, by rw [List.length_append]; omega⟩
theorem norm_ok : ∀ {b : Bool} {l : List Pt}, Norm b l → ∀ p ∈ l, PartOk p := by
  intro b l h
  induction h with
  | nil => intro p hp; cases hp
  | place hp _ ih =>
    intro q hq
    rcases List.mem_cons.1 hq with rfl | hq
    · exact .inr hp.2
    · exact ih q hq
  | lit hp _ ih =>
    intro q hq
    rcases List.mem_cons.1 hq with rfl | hq
    · exact .inl hp.2.1
    · exact ih q hq
theorem tplE_ok {s : List UInt8} {l : List Pt} (h : tplE s = (l, 0)) : scnS s [] [] = some l ∧ s.length ≤ 64 ∧ places l ≤ 9 := by
  rw [tplE_def] at h
  split at h
  · cases h
  · split at h
    · cases h
    · split at h
      · cases h
      · split at h
        · cases h
        · split at h
          · cases h
          · cases h; exact ⟨by assumption, by omega, by omega⟩
theorem tplE_norm {s : List UInt8} {l : List Pt} (h : tplE s = (l, 0)) : txt l = s ∧ Norm true l := text_scn (tplE_ok h).1
theorem tplE_nil {s : List UInt8} (h : (tplE s).2 ≠ 0) : (tplE s).1 = [] := by
  rw [tplE_def] at h ⊢
  split
  · rfl
  · split
    · rfl
    · split
      · rfl
      · split
        · rfl
        · split
          · rfl
          · next h1 h2 h3 _ _ h4 h5 => simp only [if_neg h1, if_neg h2, if_neg h3, h4, if_neg h5] at h; exact absurd rfl h
theorem tplE_long {s : List UInt8} (h : 64 < s.length) : tplE s = ([], 10) := by rw [tplE_def, if_pos h]
/-- Print -/
def prtE (l : List Pt) : List UInt8 × Int := if tplE (txtP l) = (l, 0) then (txtP l, 0) else ([], 15)
def prtR (l : List Pt) : List UInt8 × Int := if tplE (goR [] l) = (l, 0) then (goR [] l, 0) else ([], 15)
theorem prt_same (l : List Pt) : prtR l = prtE l := by
  unfold prtR prtE
  by_cases h : ∀ p ∈ l, PartOk p
  · rw [txtP_ok h]
    rcases goR_ok l [] h with h1 | ⟨h1, h2⟩
    · rw [h1]; rfl
    · rw [List.nil_append] at h2
      rw [tplE_long h1, tplE_long h2, if_neg (by simp), if_neg (by simp)]
  · rw [if_neg (fun e => h (norm_ok (tplE_norm e).2)), if_neg (fun e => h (norm_ok (tplE_norm e).2))]
theorem prt_returns {s : List UInt8} {l : List Pt} (h : tplE s = (l, 0)) : prtE l = (s, 0) := by
  obtain ⟨h1, h2⟩ := tplE_norm h
  unfold prtE
  rw [txtP_ok (norm_ok h2), h1, if_pos h]
attribute [local irreducible] wpA opsA drJ drQ drE Ef Ev Shift Fn
theorem wrtP_len {p : Pt} (h1 : p.lit.length ≤ 1000) (h2 : I64 p.lev) : (wrtP p).length ≤ 2022 := by
  unfold wrtP
  split
  · have := esc_len p.lit; omega
  · have := itoa_len h2
    rw [List.length_append]
    split <;> simp <;> omega
theorem txtP_snoc (l : List Pt) (p : Pt) : txtP (l ++ [p]) = txtP l ++ wrtP p := by unfold txtP; rw [List.flatMap_append]; simp
theorem txtP_len {l : List Pt} (h : ∀ p ∈ l, p.lit.length ≤ 1000 ∧ I64 p.lev) : (txtP l).length ≤ 2022 * l.length := by
  induction l with
  | nil => simp [txtP]
  | cons p r ih =>
    have e : txtP (p :: r) = wrtP p ++ txtP r := by unfold txtP; rw [List.flatMap_cons]
    have h1 := h p (by simp)
    have := wrtP_len h1.1 h1.2
    have := ih fun q hq => h q (List.mem_cons_of_mem _ hq)
    rw [e, List.length_append, List.length_cons]
    omega
set_option maxRecDepth 100000 in
set_option maxHeartbeats 1000000 in
theorem text_fn {H : Hp} (hM : MaxH H) {a : Option Addr} {n cq : Nat} {l : List Pt} (hx : HRow H a n cq 3 (l.map prow)) (hn : n ≤ 1000) (hl : ∀ p ∈ l, p.lit.length ≤ 1000 ∧ I64 p.lev) :
    Fn Tryz.prog 51 [.slice a n cq] H [] fun v _ I => v = sv (txtP l) ∧ I = [] := by
  have e1 : l.length = n := by have := hx.len; simpa using this
  have htl := txtP_len hl
  refine Fn_of _ _ Tryz.func51 rfl Tryz.ntmps51 rfl fun c => ?_
  repeat' (first | (refine O_ef rfl (Ef_allocO WideF.wide rfl ?_); intro b3) | refine O_nil ?_ | refine A_seq ?_ | refine A_region ?_ | refine A_block ?_ | (show opsA _ _ _ _ _ _ _; first | refine O_ev WideF.wide rfl (Ev_pure rfl) rfl rfl ?_ | (show opsA _ _ _ _ (⟨_, .call _, _, _, _, _⟩ :: _) _ _; refine O_ev WideF.wide rfl (Ev_llen rfl) rfl rfl ?_)))
  refine A_loopu (fun m s => ∃ (i : Nat) (I : Own) (H1 : Hp), m = n - i ∧ i ≤ n ∧ HLe H H1 ∧ BldIs b3 (txtP (l.take i)) I ∧ s = ⟨35, [(3, .pointer (some ⟨b3, 0, none⟩)), (6, .slice a n cq), (7, .int .i64 n), (8, .int .i64 i)], H1, I, [], []⟩) ?_ ?_
  · exact Shift.to ⟨_, 0, _, H, rfl, by omega, HLe.refl H, by rw [List.take_zero]; exact BldIs.new b3, rfl⟩ ⟨rfl, rfl, rfl, ⟨rfl, rfl, rfl, rfl, trivial⟩, Own.subi [0] (by decide) rfl rfl⟩
  · rintro m s ⟨i, I, H1, rfl, hi, hl1, hI, rfl⟩
    by_cases hlt : i < n
    · obtain ⟨b, o, p, rfl, hpi, hc⟩ := hx.atm i hlt
      have hc := hc.mono hl1
      have hpp := hl p (List.mem_of_getElem? hpi)
      have hpl := wrtP_len hpp.1 hpp.2
      have e2 : txtP (l.take (i + 1)) = txtP (l.take i) ++ wrtP p := by rw [take_get hpi, txtP_snoc]
      have htk : (txtP (l.take i)).length ≤ 2022000 := by
        have := txtP_len (l := l.take i) fun q hq => hl q (List.mem_of_mem_take hq)
        rw [List.length_take] at this
        omega
      have hws := fun Hx => WriteString_fn Hx b3 (txtP (l.take i)) (wrtP p) I hI (by omega)
      have hit := fun Hx => ItoaI_fn (H := Hx) hpp.2
      have hil := itoa_len hpp.2
      unfold prow at hc
      by_cases h0 : p.lev = 0
      · have ew : wrtP p = esc p.lit := by unfold wrtP; rw [if_pos h0]
        have hrep := fun Hx (hle : HLe H1 Hx) => ReplaceAll_fn (H := Hx) (l := p.lit) (by omega) ((hM.mono hl1).mono hle)
        rw [ew] at hws
        rw [ew] at e2
        repeat' (first | (refine O_ev WideF.wide rfl (Ev_loadH rfl hc rfl) rfl rfl ?_) | (refine O_ef rfl (Ef_callp WideF.wide (hrep _ (HLe.refl _)) ⟨rfl, rfl, rfl, trivial⟩ rfl ?_)) | (refine O_ef rfl (Ef_call1 WideF.wide (hws _) ⟨rfl, rfl, trivial⟩ rfl ?_); rintro u H3 I3 hle3 ⟨rfl, hI3⟩) | refine O_nil ?_ | refine A_seq ?_ | refine A_region ?_ | refine A_skip ?_ | refine A_block ?_ | (show opsA _ _ _ _ _ _ _; first | refine O_ev WideF.wide rfl (Ev_pure rfl) rfl rfl ?_ | (show opsA _ _ _ _ (⟨_, .load _ _, _, _, _, _⟩ :: _) _ _; refine O_ev WideF.wide rfl (Ev_loadB1 (i := 0) rfl rfl rfl) rfl rfl ?_) | (show opsA _ _ _ _ (⟨_, .indexAddr _ _ _, _, _, _, _⟩ :: _) _ _; refine O_ev WideF.wide rfl (Ev_indexAddr rfl rfl (by omega) (by omega)) rfl rfl ?_) | (show opsA _ _ _ _ (⟨_, .fieldAddr _ _ _, _, _, _, _⟩ :: _) _ _; refine O_ev WideF.wide rfl (Ev_fieldAddr rfl rfl rfl) rfl rfl ?_) | (show opsA _ _ _ _ (⟨_, .binOp _ _ _ _ _, _, _, _, _⟩ :: _) _ _; refine O_ev WideF.wide rfl (Ev_add rfl rfl (wi64 (by omega))) rfl rfl ?_) | (show opsA _ _ _ _ (⟨_, .alloc _, _, _, _, _⟩ :: _) _ _; (refine O_ef rfl (Ef_alloc WideF.wide rfl ?_); intro b)) | (show opsA _ _ _ _ (⟨_, .store _ _ _, _, _, _, _⟩ :: _) _ _; refine O_ef rfl (Ef_storew WideF.wide rfl rfl rfl rfl rfl ?_))) | (show wpA _ _ _ (.cond _ _ _) _ _ _ _; (refine A_if rfl (fun h => ?_) (fun h => ?_) <;> try (exfalso; omega))))
        refine Shift.to ⟨_, ?_, i + 1, I3, _, rfl, by omega, hl1.trans hle3, by rw [e2]; exact hI3, rfl⟩ ⟨rfl, rfl, rfl, ⟨rfl, rfl, rfl, rfl, trivial⟩, Own.sub_tail _ _⟩
        omega
      · obtain ⟨lit, lev, pl⟩ := p
        dsimp only at h0 hit hil hc
        cases pl with
        | true =>
          have ew : wrtP ⟨lit, lev, true⟩ = [37, 100] ++ itoa lev := by unfold wrtP; rw [if_neg h0]; rfl
          rw [ew] at hws e2
          repeat' (first | (refine O_ev WideF.wide rfl (Ev_loadH rfl hc rfl) rfl rfl ?_) | (refine O_ef rfl (Ef_callp WideF.wide (hit _) ⟨rfl, trivial⟩ rfl ?_)) | (refine O_ev WideF.wide rfl (Ev_scat rfl rfl (by simp; omega)) rfl rfl ?_) | (refine O_ef rfl (Ef_call1 WideF.wide (hws _) ⟨rfl, rfl, trivial⟩ rfl ?_); rintro u H3 I3 hle3 ⟨rfl, hI3⟩) | refine O_nil ?_ | refine A_seq ?_ | refine A_region ?_ | refine A_skip ?_ | refine A_block ?_ | (show opsA _ _ _ _ _ _ _; first | refine O_ev WideF.wide rfl (Ev_pure rfl) rfl rfl ?_ | (show opsA _ _ _ _ (⟨_, .load _ _, _, _, _, _⟩ :: _) _ _; refine O_ev WideF.wide rfl (Ev_loadB1 (i := 0) rfl rfl rfl) rfl rfl ?_) | (show opsA _ _ _ _ (⟨_, .indexAddr _ _ _, _, _, _, _⟩ :: _) _ _; refine O_ev WideF.wide rfl (Ev_indexAddr rfl rfl (by omega) (by omega)) rfl rfl ?_) | (show opsA _ _ _ _ (⟨_, .fieldAddr _ _ _, _, _, _, _⟩ :: _) _ _; refine O_ev WideF.wide rfl (Ev_fieldAddr rfl rfl rfl) rfl rfl ?_) | (show opsA _ _ _ _ (⟨_, .binOp _ _ _ _ _, _, _, _, _⟩ :: _) _ _; refine O_ev WideF.wide rfl (Ev_add rfl rfl (wi64 (by omega))) rfl rfl ?_) | (show opsA _ _ _ _ (⟨_, .alloc _, _, _, _, _⟩ :: _) _ _; (refine O_ef rfl (Ef_alloc WideF.wide rfl ?_); intro b)) | (show opsA _ _ _ _ (⟨_, .store _ _ _, _, _, _, _⟩ :: _) _ _; refine O_ef rfl (Ef_storew WideF.wide rfl rfl rfl rfl rfl ?_))) | (show wpA _ _ _ (.cond _ _ _) _ _ _ _; first | (refine A_if rfl (fun h => ?_) (fun h => ?_) <;> try (exfalso; omega)) | refine A_iftrue rfl ?_))
          refine Shift.to ⟨_, ?_, i + 1, I3, _, rfl, by omega, hl1.trans hle3, by rw [e2]; exact hI3, rfl⟩ ⟨rfl, rfl, rfl, ⟨rfl, rfl, rfl, rfl, trivial⟩, Own.sub_tail _ _⟩
          omega
        | false =>
          have ew : wrtP ⟨lit, lev, false⟩ = [37] ++ itoa lev := by unfold wrtP; rw [if_neg h0]; rfl
          rw [ew] at hws e2
          repeat' (first | (refine O_ev WideF.wide rfl (Ev_loadH rfl hc rfl) rfl rfl ?_) | (refine O_ef rfl (Ef_callp WideF.wide (hit _) ⟨rfl, trivial⟩ rfl ?_)) | (refine O_ev WideF.wide rfl (Ev_scat rfl rfl (by simp; omega)) rfl rfl ?_) | (refine O_ef rfl (Ef_call1 WideF.wide (hws _) ⟨rfl, rfl, trivial⟩ rfl ?_); rintro u H3 I3 hle3 ⟨rfl, hI3⟩) | refine O_nil ?_ | refine A_seq ?_ | refine A_region ?_ | refine A_skip ?_ | refine A_block ?_ | (show opsA _ _ _ _ _ _ _; first | refine O_ev WideF.wide rfl (Ev_pure rfl) rfl rfl ?_ | (show opsA _ _ _ _ (⟨_, .load _ _, _, _, _, _⟩ :: _) _ _; refine O_ev WideF.wide rfl (Ev_loadB1 (i := 0) rfl rfl rfl) rfl rfl ?_) | (show opsA _ _ _ _ (⟨_, .indexAddr _ _ _, _, _, _, _⟩ :: _) _ _; refine O_ev WideF.wide rfl (Ev_indexAddr rfl rfl (by omega) (by omega)) rfl rfl ?_) | (show opsA _ _ _ _ (⟨_, .fieldAddr _ _ _, _, _, _, _⟩ :: _) _ _; refine O_ev WideF.wide rfl (Ev_fieldAddr rfl rfl rfl) rfl rfl ?_) | (show opsA _ _ _ _ (⟨_, .binOp _ _ _ _ _, _, _, _, _⟩ :: _) _ _; refine O_ev WideF.wide rfl (Ev_add rfl rfl (wi64 (by omega))) rfl rfl ?_) | (show opsA _ _ _ _ (⟨_, .alloc _, _, _, _, _⟩ :: _) _ _; (refine O_ef rfl (Ef_alloc WideF.wide rfl ?_); intro b)) | (show opsA _ _ _ _ (⟨_, .store _ _ _, _, _, _, _⟩ :: _) _ _; refine O_ef rfl (Ef_storew WideF.wide rfl rfl rfl rfl rfl ?_))) | (show wpA _ _ _ (.cond _ _ _) _ _ _ _; first | (refine A_if rfl (fun h => ?_) (fun h => ?_) <;> try (exfalso; omega)) | refine A_iffalse rfl ?_))
          refine Shift.to ⟨_, ?_, i + 1, I3, _, rfl, by omega, hl1.trans hle3, by rw [e2]; exact hI3, rfl⟩ ⟨rfl, rfl, rfl, ⟨rfl, rfl, rfl, rfl, trivial⟩, Own.sub_tail _ _⟩
          omega
    · have hin : i = n := by omega
      subst hin
      rw [List.take_of_length_le (by omega)] at hI
      have hst := fun Hx => String_fn Hx b3 (txtP l) I hI (by omega)
      repeat' (first | (refine O_ef rfl (Ef_call0 WideF.wide (hst _) ⟨rfl, trivial⟩ rfl ?_); rintro u H3 I3 hle3 ⟨rfl, rfl, rfl⟩) | refine O_nil ?_ | refine A_seq ?_ | refine A_region ?_ | refine A_ret ?_ | (show opsA _ _ _ _ _ _ _; refine O_ev WideF.wide rfl (Ev_pure rfl) rfl rfl ?_) | (show wpA _ _ _ (.exit _) _ _ _ _; refine A_exit rfl ?_) | (show wpA _ _ _ (.cond _ _ _) _ _ _ _; (refine A_if rfl (fun h => ?_) (fun h => ?_) <;> try (exfalso; omega))))
      exact End_e (Ret1 rfl rfl) ⟨rfl, rfl⟩
theorem scn_len : ∀ (k : Nat) (s lit : List UInt8) (acc l : List Pt), scn k s lit acc = some l → l.length ≤ acc.length + 2 * s.length + 1
  | _, [], lit, acc, l, h => by
    unfold scn at h
    cases h
    have := fls_len acc lit
    simp; omega
  | 0, _ :: _, _, _, _, h => by cases h
  | k + 1, b :: r, lit, acc, l, h => by
    unfold scn at h
    rw [List.length_cons]
    split at h
    · cases hp : pct r with
      | bad => rw [hp] at h; cases h
      | sign =>
        rw [hp] at h
        have := scn_len k _ _ _ _ h
        rw [List.length_drop] at this
        omega
      | place p n =>
        rw [hp] at h
        have := scn_len k _ _ _ _ h
        have h2 := fls_len acc lit
        obtain ⟨p1, p2, _⟩ := pct_place hp
        rw [List.length_drop, List.length_append, List.length_singleton] at this
        omega
    · have := scn_len k _ _ _ _ h
      omega
theorem parts_len {s : List UInt8} : (tplE s).1.length ≤ 129 := by
  by_cases h : (tplE s).2 = 0
  · have e : tplE s = ((tplE s).1, 0) := by rw [← h]
    obtain ⟨h1, h2, _⟩ := tplE_ok e
    have := scn_len _ _ _ _ _ h1
    simp at this
    omega
  · rw [tplE_nil h]; simp
def prtV (l : List Pt) : Value := .tuple [sv (prtE l).1, .int .i64 (prtE l).2].toArray
set_option maxRecDepth 100000 in
set_option maxHeartbeats 1000000 in
theorem Print_fn {H : Hp} (hM : MaxH H) {a : Option Addr} {n cq : Nat} {l : List Pt} (hx : HRow H a n cq 3 (l.map prow)) (hn : n ≤ 1000) (hl : ∀ p ∈ l, p.lit.length ≤ 1000 ∧ I64 p.lev) :
    Fn Tryz.prog 31 [.slice a n cq] H [] fun v _ I => v = prtV l ∧ I = [] := by
  have e1 : l.length = n := by have := hx.len; simpa using this
  have htl := txtP_len hl
  have ht := text_fn hM hx hn hl
  have hp := fun Hx => lParse_fn (H := Hx) (s := txtP l) (by omega)
  have hq := fun Hx (hle : HLe H Hx) a1 n1 c1 (h1 : HRow Hx a1 n1 c1 3 ((tplE (txtP l)).1.map prow)) (hn1 : n1 < 68719476736) => EqualP_fn (H := Hx) h1 (hx.mono hle) hn1
  unfold prtV prtE
  unfold ParseH at hp
  by_cases h : tplE (txtP l) = (l, 0)
  · rw [if_pos h]
    rw [h] at hp hq
    dsimp only at hp hq
    simp only [decide_true] at hq
    refine Fn_of _ _ Tryz.func31 rfl Tryz.ntmps31 rfl fun c => ?_
    repeat' (first | (refine O_ef rfl (Ef_call (I := []) WideF.wide (ht) ⟨rfl, trivial⟩ rfl ?_); rintro v H1 I1 hle1 ⟨rfl, rfl⟩) | (refine O_ef rfl (Ef_call (I := []) WideF.wide (hp _) ⟨rfl, trivial⟩ rfl ?_); rintro v H2 I2 hle2 ⟨a1, n1, c1, rfl, hr, rfl⟩); have hn1 : n1 = n := (by have := hr.len; rw [List.length_map] at this; omega) | (refine O_ef rfl (Ef_callp WideF.wide (hq _ (hle1.trans hle2) _ _ _ hr (by omega)) ⟨rfl, rfl, trivial⟩ rfl ?_)) | refine O_nil ?_ | refine A_seq ?_ | refine A_region ?_ | refine A_skip ?_ | refine A_ret ?_ | (show opsA _ _ _ _ _ _ _; first | (refine O_split rfl rfl (fun h => ?_) (fun h => ?_) <;> try (exfalso; omega)) | refine O_ev WideF.wide rfl (Ev_pure rfl) rfl rfl ?_ | (show opsA _ _ _ _ (⟨_, .unOp _ _ _, _, _, _, _⟩ :: _) _ _; refine O_ev WideF.wide rfl (Ev_notb rfl) rfl rfl ?_)) | (show wpA _ _ _ (.cond _ _ _) _ _ _ _; refine A_iffalse rfl ?_))
    all_goals first
      | (exfalso; omega)
      | exact End_e (Ret2 rfl rfl rfl) ⟨rfl, rfl⟩
  · rw [if_neg h]
    by_cases he : (tplE (txtP l)).2 = 0
    · have hne : ¬ (tplE (txtP l)).1 = l := fun e => h (Prod.ext e he)
      simp only [decide_eq_false hne] at hq
      rw [he] at hp
      have hlen : (tplE (txtP l)).1.length < 1000000000 := by have := parts_len (s := txtP l); omega
      refine Fn_of _ _ Tryz.func31 rfl Tryz.ntmps31 rfl fun c => ?_
      repeat' (first | (refine O_ef rfl (Ef_call (I := []) WideF.wide (ht) ⟨rfl, trivial⟩ rfl ?_); rintro v H1 I1 hle1 ⟨rfl, rfl⟩) | (refine O_ef rfl (Ef_call (I := []) WideF.wide (hp _) ⟨rfl, trivial⟩ rfl ?_); rintro v H2 I2 hle2 ⟨a1, n1, c1, rfl, hr, rfl⟩); have hn1 : n1 < 1000000000 := (by have := hr.len; rw [List.length_map] at this; omega) | (refine O_ef rfl (Ef_callp WideF.wide (hq _ (hle1.trans hle2) _ _ _ hr (by omega)) ⟨rfl, rfl, trivial⟩ rfl ?_)) | refine O_nil ?_ | refine A_seq ?_ | refine A_region ?_ | refine A_ret ?_ | (show opsA _ _ _ _ _ _ _; first | (refine O_split rfl rfl (fun h => ?_) (fun h => ?_) <;> try (exfalso; omega)) | refine O_ev WideF.wide rfl (Ev_pure rfl) rfl rfl ?_ | (show opsA _ _ _ _ (⟨_, .unOp _ _ _, _, _, _, _⟩ :: _) _ _; refine O_ev WideF.wide rfl (Ev_notb rfl) rfl rfl ?_)) | (show wpA _ _ _ (.cond _ _ _) _ _ _ _; refine A_iftrue rfl ?_))
      all_goals first
        | (exfalso; omega)
        | exact End_e (Ret2 rfl rfl rfl) ⟨rfl, rfl⟩
    · generalize (tplE (txtP l)).2 = e at hp he
      refine Fn_of _ _ Tryz.func31 rfl Tryz.ntmps31 rfl fun c => ?_
      repeat' (first | (refine O_ef rfl (Ef_call (I := []) WideF.wide (ht) ⟨rfl, trivial⟩ rfl ?_); rintro v H1 I1 hle1 ⟨rfl, rfl⟩) | (refine O_ef rfl (Ef_call (I := []) WideF.wide (hp _) ⟨rfl, trivial⟩ rfl ?_); rintro v H2 I2 hle2 ⟨a1, n1, c1, rfl, hr, rfl⟩) | refine O_nil ?_ | refine A_seq ?_ | refine A_region ?_ | refine A_ret ?_ | (show opsA _ _ _ _ _ _ _; first | (refine O_split rfl rfl (fun h => ?_) (fun h => ?_) <;> try (exfalso; omega)) | refine O_ev WideF.wide rfl (Ev_pure rfl) rfl rfl ?_ | refine O_skip WideF.wide rfl rfl rfl ?_) | (show wpA _ _ _ (.cond _ _ _) _ _ _ _; refine A_iftrue rfl ?_))
      all_goals first
        | (exfalso; omega)
        | exact End_e (Ret2 rfl rfl rfl) ⟨rfl, rfl⟩
end Go.Proofs.YtaneeaojlkenmaaGreatDoor
