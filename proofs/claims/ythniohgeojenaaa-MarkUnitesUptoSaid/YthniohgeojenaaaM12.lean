/-
  The law's ordered heads.
-/
import Derived.Test.YthniohgeojenaaaM11
namespace Go.Proofs.Ythniohgeojenaaa
open Go
set_option linter.unusedVariables false
set_option linter.unusedSimpArgs false
/-! ### as data -/
section
variable {α : Type}
def pushO (le : α → α → Bool) (out : List α) (x : α) : List α :=
  match out[out.length - 1]? with
  | none => out ++ [x]
  | some y => if le y x then out ++ [x] else out
def stepO (cap : Nat) (le : α → α → Bool) (out : List α) (x : α) : List α := if out.length < cap then pushO le out x else out
def ordL (cap : Nat) (le : α → α → Bool) (l : List α) : List α := l.foldl (stepO cap le) []
theorem ordL_snoc (cap : Nat) (le : α → α → Bool) (l : List α) (x : α) : ordL cap le (l ++ [x]) = stepO cap le (ordL cap le l) x := by simp [ordL]
theorem pushO_len (le : α → α → Bool) (out : List α) (x : α) : (pushO le out x).length ≤ out.length + 1 := by
  unfold pushO
  split
  · simp
  · split <;> simp
theorem stepO_len (cap : Nat) (le : α → α → Bool) (out : List α) (x : α) (h : out.length ≤ cap) : (stepO cap le out x).length ≤ cap := by
  unfold stepO
  split
  · have := pushO_len le out x; omega
  · exact h
theorem foldO_len (cap : Nat) (le : α → α → Bool) : ∀ (l out : List α), out.length ≤ cap → (l.foldl (stepO cap le) out).length ≤ cap
  | [], out, h => h
  | x :: r, out, h => foldO_len cap le r _ (stepO_len cap le out x h)
theorem ordL_len (cap : Nat) (le : α → α → Bool) (l : List α) : (ordL cap le l).length ≤ cap := foldO_len cap le l [] (by simp)
theorem foldO_full {cap : Nat} {le : α → α → Bool} : ∀ (l out : List α), ¬ out.length < cap → l.foldl (stepO cap le) out = out
  | [], out, h => rfl
  | x :: r, out, h => by
    rw [List.foldl_cons, show stepO cap le out x = out by unfold stepO; rw [if_neg h]]
    exact foldO_full r out h
theorem ordL_full {cap : Nat} {le : α → α → Bool} (l : List α) (i : Nat) (h : ¬ (ordL cap le (l.take i)).length < cap) : ordL cap le l = ordL cap le (l.take i) := by
  have h1 : ordL cap le l = (l.drop i).foldl (stepO cap le) (ordL cap le (l.take i)) := by
    unfold ordL
    rw [← List.foldl_append, List.take_append_drop]
  rw [h1, foldO_full _ _ h]
end
def ltP (p q : Prp) : Bool := decide (p.key < q.key)
def ltD (p q : Dele) : Bool := decide (p.rev < q.rev)
def leL (p q : Layr) : Bool := decide (p.key ≤ q.key)
def Layr.norm (y : Layr) : Layr := ⟨y.rev, y.key, if y.had then y.before else 0, y.had⟩
def ordH (q : Head) : Head := ⟨ordL 20 ltP q.props, q.ins, if q.ins = 0 then 0 else q.move, ordL 20 ltD q.dels, ordL 80 leL (q.layers.map Layr.norm)⟩
attribute [local irreducible] wpA opsA drJ drQ drE Ef Ev Shift Fn
abbrev oEnv (b1 b2 b3 : Nat) : Env := [(1, ptr b1), (2, ptr b2), (3, ptr b3)]
abbrev oOwn (b2 b3 : Nat) (i m : Int) (a1 : Option Addr) (n1 c1 : Nat) (p1 : List (List Value)) (a2 : Option Addr) (n2 c2 : Nat) (p2 : List (List Value)) (a3 : Option Addr) (n3 c3 : Nat) (p3 : List (List Value)) : Own :=
  [.box b3 [.slice a1 n1 c1, .int .i64 i, .int .i64 m, .slice a2 n2 c2, .slice a3 n3 c3], .row (.slice a1 n1 c1) 2 p1, .row (.slice a2 n2 c2) 2 p2, .row (.slice a3 n3 c3) 4 p3, .box b2 zHead]
set_option maxRecDepth 100000 in
set_option maxHeartbeats 8000000 in
theorem ordered_fn {H : Hp} {hcs : List Value} {q : Head} (hh : HeadH H hcs q) (hl : q.mass < 1073741824) : Fn Try.prog 13 [.agg hcs.toArray] H [] (HeadIs (ordH q)) := by
  obtain ⟨pa, pn, pc, da, dn, dc, la, ln, lc, rfl, h1, h2, h3⟩ := hh.ex
  have l1 := h1.len
  have l2 := h2.len
  have l3 := h3.len
  simp only [List.length_map] at l1 l2 l3
  unfold Head.mass at hl
  refine Fn_of _ _ Try.func13 rfl Try.ntmps13 rfl fun c => ?_
  refine A_seq ?_
  refine A_cutu (fun s => ∃ b1 b2, s = ⟨174, [(1, ptr b1), (2, ptr b2)], H, [.box b1 [.slice pa pn pc, .int .i64 q.ins, .int .i64 q.move, .slice da dn dc, .slice la ln lc], .box b2 zHead], [], []⟩) ?_ ?_
  · repeat' (first | refine O_nil ?_ | refine A_region ?_ | (show opsA _ _ _ _ _ _ _; first | (show opsA _ _ _ _ (⟨_, .alloc _, _, _, _, _⟩ :: _) _ _; (refine O_ef rfl (Ef_alloc WideF.wide rfl ?_); intro b)) | (show opsA _ _ _ _ (⟨_, .box _ _, _, _, _, _⟩ :: _) _ _; (refine O_ef rfl (Ef_boxa WideF.wide rfl rfl ?_); intro b))))
    exact Shift.to ⟨_, _, rfl⟩ ⟨rfl, rfl, rfl, ⟨rfl, rfl, trivial⟩, Own.subi [1, 0] (by decide) rfl rfl⟩
  rintro s ⟨b1, b2, rfl⟩
  refine A_freezeBox (by intro u hu; simp at hu; rcases hu with rfl | rfl | rfl | rfl | rfl <;> rfl) ?_
  intro H1 hle1 hb1
  have h1 := h1.mono hle1
  have h2 := h2.mono hle1
  have h3 := h3.mono hle1
  refine A_seq ?_
  refine A_cutu (fun s => ∃ b3, s = ⟨174, oEnv b1 b2 b3, H1, [.box b3 [.slice none 0 0, .int .i64 q.ins, .int .i64 q.move, .slice none 0 0, .slice none 0 0], .box b2 zHead], [], []⟩) ?_ ?_
  · repeat' (first | (refine O_ev WideF.wide rfl (Ev_loadH1 rfl (hb1 1 _ rfl)) rfl rfl ?_) | (refine O_ev WideF.wide rfl (Ev_loadH1 rfl (hb1 2 _ rfl)) rfl rfl ?_) | refine O_nil ?_ | refine A_region ?_ | (show opsA _ _ _ _ _ _ _; first | (show opsA _ _ _ _ (⟨_, .fieldAddr _ _ _, _, _, _, _⟩ :: _) _ _; refine O_ev WideF.wide rfl (Ev_fieldAddr rfl rfl rfl) rfl rfl ?_) | (show opsA _ _ _ _ (⟨_, .build _ _, _, _, _, _⟩ :: _) _ _; first | refine O_ev WideF.wide rfl (Ev_build (vs := [(_, _)]) ⟨rfl, rfl, trivial⟩ rfl) rfl rfl ?_ | refine O_ev WideF.wide rfl (Ev_build (vs := [(_, _), (_, _)]) ⟨rfl, rfl, rfl, rfl, trivial⟩ rfl) rfl rfl ?_) | (show opsA _ _ _ _ (⟨_, .alloc _, _, _, _, _⟩ :: _) _ _; (refine O_ef rfl (Ef_alloc WideF.wide rfl ?_); intro b)) | (show opsA _ _ _ _ (⟨_, .store _ _ _, _, _, _, _⟩ :: _) _ _; refine O_ef rfl (Ef_storew WideF.wide rfl rfl rfl rfl rfl ?_))))
    exact Shift.to ⟨_, rfl⟩ ⟨rfl, rfl, rfl, ⟨rfl, rfl, rfl, trivial⟩, Own.subi [0, 1] (by decide) rfl rfl⟩
  rintro s ⟨b3, rfl⟩
  refine A_seq ?_
  refine A_cutu (fun s => s = ⟨174, oEnv b1 b2 b3, H1, [.box b3 [.slice none 0 0, .int .i64 q.ins, .int .i64 (if q.ins = 0 then 0 else q.move), .slice none 0 0, .slice none 0 0], .box b2 zHead], [], []⟩) ?_ ?_
  · by_cases hi : q.ins = 0
    · rw [if_pos hi]
      repeat' (first | refine O_nil ?_ | refine A_seq ?_ | refine A_region ?_ | (show opsA _ _ _ _ _ _ _; first | refine O_ev WideF.wide rfl (Ev_pure rfl) rfl rfl ?_ | (show opsA _ _ _ _ (⟨_, .load _ _, _, _, _, _⟩ :: _) _ _; refine O_ev WideF.wide rfl (Ev_loadB1 (i := 0) rfl rfl rfl) rfl rfl ?_) | (show opsA _ _ _ _ (⟨_, .fieldAddr _ _ _, _, _, _, _⟩ :: _) _ _; refine O_ev WideF.wide rfl (Ev_fieldAddr rfl rfl rfl) rfl rfl ?_) | (show opsA _ _ _ _ (⟨_, .store _ _ _, _, _, _, _⟩ :: _) _ _; refine O_ef rfl (Ef_store1 WideF.wide rfl rfl rfl rfl rfl ?_))) | (show wpA _ _ _ (.cond _ _ _) _ _ _ _; (refine A_if rfl (fun h => ?_) (fun h => ?_) <;> try (exfalso; omega))))
      exact Shift.to rfl ⟨rfl, rfl, rfl, ⟨rfl, rfl, rfl, trivial⟩, Own.subi [0, 1] (by decide) rfl rfl⟩
    · rw [if_neg hi]
      repeat' (first | refine O_nil ?_ | refine A_seq ?_ | refine A_region ?_ | refine A_skip ?_ | (show opsA _ _ _ _ _ _ _; first | refine O_ev WideF.wide rfl (Ev_pure rfl) rfl rfl ?_ | (show opsA _ _ _ _ (⟨_, .load _ _, _, _, _, _⟩ :: _) _ _; refine O_ev WideF.wide rfl (Ev_loadB1 (i := 0) rfl rfl rfl) rfl rfl ?_) | (show opsA _ _ _ _ (⟨_, .fieldAddr _ _ _, _, _, _, _⟩ :: _) _ _; refine O_ev WideF.wide rfl (Ev_fieldAddr rfl rfl rfl) rfl rfl ?_)) | (show wpA _ _ _ (.cond _ _ _) _ _ _ _; (refine A_if rfl (fun h => ?_) (fun h => ?_) <;> try (exfalso; omega))))
      exact Shift.to rfl ⟨rfl, rfl, rfl, ⟨rfl, rfl, rfl, trivial⟩, Own.subi [0, 1] (by decide) rfl rfl⟩
  rintro s rfl
  refine A_nilrow 4 ?_
  refine A_nilrow 2 ?_
  refine A_nilrow 2 ?_
  generalize hmv : (if q.ins = 0 then 0 else q.move) = mv
  refine A_sub (s' := ⟨174, oEnv b1 b2 b3, H1, oOwn b2 b3 q.ins mv none 0 0 [] none 0 0 [] none 0 0 [], [], []⟩) ⟨rfl, rfl, rfl, ⟨rfl, rfl, rfl, trivial⟩, Own.subi [3, 0, 1, 2, 4] (by decide) rfl rfl⟩ ?_
  refine A_seq ?_
  refine A_cutu (fun s => ∃ (a1 : Option Addr) (n1 c1 : Nat) (p1 : List (List Value)), p1 = (ordL 20 ltP q.props).map prow ∧ s = ⟨174, oEnv b1 b2 b3, H1, oOwn b2 b3 q.ins mv  a1 n1 c1 p1 none 0 0 [] none 0 0 [], [], []⟩) ?_ ?_
  · repeat' (first | refine O_nil ?_ | refine A_seq ?_ | refine A_region ?_ | refine A_block ?_ | (show opsA _ _ _ _ _ _ _; refine O_ev WideF.wide rfl (Ev_pure rfl) rfl rfl ?_))
    refine A_loopu (fun m s => ∃ (i : Nat) (a1 : Option Addr) (n1 c1 : Nat) (p1 : List (List Value)), m = pn - i ∧ i ≤ pn ∧ p1.length = n1 ∧ p1 = (ordL 20 ltP (q.props.take i)).map prow ∧ s = ⟨174, (4, .int .i64 i) :: oEnv b1 b2 b3, H1, oOwn b2 b3 q.ins mv  a1 n1 c1 p1 none 0 0 [] none 0 0 [], [], []⟩) ?_ ?_
    · exact Shift.to ⟨_, 0, none, 0, 0, [], rfl, by omega, rfl, by simp [ordL], rfl⟩ ⟨rfl, rfl, rfl, ⟨rfl, rfl, rfl, rfl, trivial⟩, Own.subi [0, 1, 2, 3, 4] (by decide) rfl rfl⟩
    · rintro m s ⟨i, a1, n1, c1, p1, rfl, hi, hnp, hpp, rfl⟩
      have hcap := ordL_len 20 ltP (q.props.take i)
      have hpl : p1.length = (ordL 20 ltP (q.props.take i)).length := by rw [hpp]; simp
      refine A_seq (A_seq ?_)
      refine A_cutu (fun s => s = ⟨174, (35, .bool (decide (i < pn ∧ n1 < 20))) :: (4, .int .i64 i) :: oEnv b1 b2 b3, H1, oOwn b2 b3 q.ins mv  a1 n1 c1 p1 none 0 0 [] none 0 0 [], [], []⟩) ?_ ?_
      · by_cases hlt : i < pn
        · have e : decide (i < pn ∧ n1 < 20) = decide ((n1 : Int) < 20) := by simp only [hlt, true_and]; congr 1; simp only [eq_iff_iff]; omega
          rw [e]
          repeat' (first | (refine O_ev WideF.wide rfl (Ev_loadH1 rfl (hb1 0 _ rfl)) rfl rfl ?_) | refine O_nil ?_ | refine A_region ?_ | (show opsA _ _ _ _ _ _ _; first | (refine O_split rfl rfl (fun h => ?_) (fun h => ?_) <;> try (exfalso; omega)) | refine O_ev WideF.wide rfl (Ev_pure rfl) rfl rfl ?_ | (show opsA _ _ _ _ (⟨_, .load _ _, _, _, _, _⟩ :: _) _ _; refine O_ev WideF.wide rfl (Ev_loadB1 (i := 0) rfl rfl rfl) rfl rfl ?_) | (show opsA _ _ _ _ (⟨_, .fieldAddr _ _ _, _, _, _, _⟩ :: _) _ _; refine O_ev WideF.wide rfl (Ev_fieldAddr rfl rfl rfl) rfl rfl ?_) | (show opsA _ _ _ _ (⟨_, .call _, _, _, _, _⟩ :: _) _ _; refine O_ev WideF.wide rfl (Ev_llen rfl) rfl rfl ?_)))
          exact Shift.to rfl ⟨rfl, rfl, rfl, ⟨rfl, rfl, rfl, rfl, rfl, trivial⟩, Own.subi [0, 1, 2, 3, 4] (by decide) rfl rfl⟩
        · have e : decide (i < pn ∧ n1 < 20) = false := by simp [hlt]
          rw [e]
          repeat' (first | (refine O_ev WideF.wide rfl (Ev_loadH1 rfl (hb1 0 _ rfl)) rfl rfl ?_) | refine O_nil ?_ | refine A_region ?_ | (show opsA _ _ _ _ _ _ _; first | (refine O_split rfl rfl (fun h => ?_) (fun h => ?_) <;> try (exfalso; omega)) | refine O_ev WideF.wide rfl (Ev_pure rfl) rfl rfl ?_ | (show opsA _ _ _ _ (⟨_, .fieldAddr _ _ _, _, _, _, _⟩ :: _) _ _; refine O_ev WideF.wide rfl (Ev_fieldAddr rfl rfl rfl) rfl rfl ?_) | (show opsA _ _ _ _ (⟨_, .call _, _, _, _, _⟩ :: _) _ _; refine O_ev WideF.wide rfl (Ev_llen rfl) rfl rfl ?_) | refine O_skip WideF.wide rfl rfl rfl ?_))
          exact Shift.to rfl ⟨rfl, rfl, rfl, ⟨rfl, rfl, rfl, rfl, rfl, trivial⟩, Own.subi [0, 1, 2, 3, 4] (by decide) rfl rfl⟩
      rintro s rfl
      by_cases hgo : i < pn ∧ n1 < 20
      · obtain ⟨hlt, hnc⟩ := hgo
        obtain ⟨b', o, y, ha', hyi, hc⟩ := h1.atm i hlt
        cases ha'
        have hcy := hc
        unfold prow at hcy
        have hsn : ordL 20 ltP (q.props.take (i + 1)) = pushO ltP (ordL 20 ltP (q.props.take i)) y := by rw [take_get hyi, ordL_snoc]; unfold stepO; rw [if_pos (by omega)]
        generalize hO : ordL 20 ltP (q.props.take i) = O at hpp hpl hsn
        by_cases hz : n1 = 0
        · have hnil : O = [] := List.length_eq_zero_iff.1 (by omega)
          have hpush : pushO ltP O y = O ++ [y] := by rw [hnil]; rfl
          repeat' (first | (refine A_drawL WideF.wide (.q 0 (.q 1 (.q 2 (.q 3 (.q 4 (.q 5 (.q 6 (.q 7 (.q 8 (.q 9 (.q 10 (.q 11 (.q 12 (.q 13 (.q 14 (.q 15 (.q 16 (.q 17 (.done []))))))))))))))))))) [] (by decide +kernel) ?_) | (refine D_ev rfl (Ev_loadH1 rfl (hb1 0 _ rfl)) rfl rfl ?_) | (refine D_ev rfl (Ev_loadH rfl hcy rfl) rfl rfl ?_) | (refine A_drawi WideF.wide (.q 0 (.q 1 (.p 2 (.q 3 (.q 4 (.q 5 (.q 6 (.e 7 (.r (.e 8 (.q 9 (.e 10 (.done []))))))))))))) [8, 9, 10] [] [0, 1, 2, 3, 4] (by decide +kernel) (by decide) rfl ?_; simp only [Own.picks, Own.rget, List.cons_append, List.nil_append, List.append_nil]) | refine O_nil ?_ | refine A_seq ?_ | refine A_region ?_ | refine A_skip ?_ | refine A_block ?_ | (show drJ _ _ _ _ _ _ _ (.q _ _) _; refine D_q rfl ?_) | (show drJ _ _ _ _ _ _ _ (.e _ _) _; refine D_e rfl ?_) | (show drJ _ _ _ _ _ _ _ (.r _) _; refine D_r ?_; simp only [List.cons_append, List.nil_append]) | (show drJ _ _ _ _ _ _ _ (.done _) _; refine D_done ?_; simp only [List.cons_append, List.nil_append]) | (show drQ _ _ _ _ _ _; first | (refine D_split rfl rfl (fun h => ?_) (fun h => ?_) <;> try (exfalso; omega)) | refine D_ev rfl (Ev_pure rfl) rfl rfl ?_ | (show drQ _ _ _ ⟨_, .load _ _, _, _, _, _⟩ _ _; refine D_ev rfl (Ev_loadB1 (i := 0) rfl rfl rfl) rfl rfl ?_) | (show drQ _ _ _ ⟨_, .indexAddr _ _ _, _, _, _, _⟩ _ _; refine D_ev rfl (Ev_indexAddr rfl rfl (by omega) (by omega)) rfl rfl ?_) | (show drQ _ _ _ ⟨_, .fieldAddr _ _ _, _, _, _, _⟩ _ _; refine D_ev rfl (Ev_fieldAddr rfl rfl rfl) rfl rfl ?_) | refine D_skip rfl rfl rfl ?_) | (show drJ _ _ _ _ _ _ _ (.p _ _) _; refine D_p rfl ?_) | (show drP _ _ _ _ _ _; (show drP _ _ _ ⟨_, .fieldAddr _ _ _, _, _, _, _⟩ _ _; refine D_pv rfl (Ev_fieldAddr rfl rfl rfl) rfl rfl ?_)) | (show drE _ _ _ _ _ _ _; first | (show drE _ _ _ _ ⟨_, .call _, _, _, _, _⟩ _ _; (refine E_ef rfl (Ef_f2 (Ef_appendR WideF.wide rfl rfl rfl rfl rfl (by simp; omega) (by simp; omega) rfl ?_)); intro a cp; refine ⟨Grow.same rfl rfl, ?_⟩)) | (show drE _ _ _ _ ⟨_, .buildSlice _ _ _, _, _, _, _⟩ _ _; (refine E_ef rfl (Ef_build1a WideF.wide rfl rfl rfl rfl rfl ?_); intro b; refine ⟨Grow.same rfl rfl, ?_⟩)) | (show drE _ _ _ _ ⟨_, .store _ _ _, _, _, _, _⟩ _ _; (refine E_ef rfl (Ef_f1 (Ef_store1 WideF.wide rfl rfl rfl rfl rfl ?_)); refine ⟨Grow.same rfl rfl, ?_⟩))) | (show opsA _ _ _ _ _ _ _; first | refine O_ev WideF.wide rfl (Ev_pure rfl) rfl rfl ?_ | (show opsA _ _ _ _ (⟨_, .load _ _, _, _, _, _⟩ :: _) _ _; refine O_ev WideF.wide rfl (Ev_loadB1 (i := 0) rfl rfl rfl) rfl rfl ?_) | (show opsA _ _ _ _ (⟨_, .fieldAddr _ _ _, _, _, _, _⟩ :: _) _ _; refine O_ev WideF.wide rfl (Ev_fieldAddr rfl rfl rfl) rfl rfl ?_) | (show opsA _ _ _ _ (⟨_, .call _, _, _, _, _⟩ :: _) _ _; refine O_ev WideF.wide rfl (Ev_llen rfl) rfl rfl ?_) | (show opsA _ _ _ _ (⟨_, .binOp _ _ _ _ _, _, _, _, _⟩ :: _) _ _; refine O_ev WideF.wide rfl (Ev_add rfl rfl (wi64 (by omega))) rfl rfl ?_)) | (show wpA _ _ _ (.cond _ _ _) _ _ _ _; first | (refine A_if rfl (fun h => ?_) (fun h => ?_) <;> try (exfalso; omega)) | refine A_iftrue rfl ?_))
          refine Shift.to ⟨_, ?_, i + 1, _, _, _, p1 ++ [prow y], rfl, by omega, rfl, ?_, rfl⟩ ⟨rfl, rfl, rfl, ⟨rfl, rfl, rfl, rfl, trivial⟩, Own.subi [0, 1, 2, 3, 4] (by decide) rfl rfl⟩
          · omega
          · rw [hsn, hpush, List.map_append, ← hpp]; rfl
        · refine A_rowaddr (q := 1) rfl ?_
          intro r1 r2 r3 r4 r5
          obtain ⟨sb, rfl⟩ : ∃ sb, a1 = some ⟨sb, 0, none⟩ := by
            cases a1 with
            | none => have := (r3 rfl).1; rw [this] at r1; simp at r1; omega
            | some ad => obtain ⟨sb, rfl⟩ := r5 _ rfl; exact ⟨sb, rfl⟩
          obtain ⟨u, hu⟩ : ∃ u, O[n1 - 1]? = some u := ⟨_, List.getElem?_eq_getElem (by omega)⟩
          have hget : p1[n1 - 1]? = some (prow u) := by rw [hpp, List.getElem?_map, hu]; rfl
          have hlast : O[O.length - 1]? = some u := by rw [← hu]; congr 1; omega
          by_cases hk : u.key < y.key
          · have hpush : pushO ltP O y = O ++ [y] := by unfold pushO; rw [hlast]; simp [ltP, hk]
            repeat' (first | (refine A_drawL WideF.wide (.q 0 (.q 1 (.q 2 (.q 3 (.q 4 (.q 5 (.q 6 (.q 7 (.q 8 (.q 9 (.q 10 (.q 11 (.q 12 (.q 13 (.q 14 (.q 15 (.q 16 (.q 17 (.done []))))))))))))))))))) [] (by decide +kernel) ?_) | (refine D_ev rfl (Ev_loadH1 rfl (hb1 0 _ rfl)) rfl rfl ?_) | (refine D_ev rfl (Ev_loadH1 rfl (hc 0 _ rfl)) rfl rfl ?_) | (refine D_ev rfl (Ev_loadH rfl hcy rfl) rfl rfl ?_) | (refine D_ev rfl (Ev_loadR1 (q := 1) (d := 0) rfl rfl hget (by omega) rfl) rfl rfl ?_) | (refine A_drawi WideF.wide (.q 0 (.q 1 (.p 2 (.q 3 (.q 4 (.q 5 (.q 6 (.e 7 (.r (.e 8 (.q 9 (.e 10 (.done []))))))))))))) [8, 9, 10] [] [0, 1, 2, 3, 4] (by decide +kernel) (by decide) rfl ?_; simp only [Own.picks, Own.rget, List.cons_append, List.nil_append, List.append_nil]) | refine O_nil ?_ | refine A_seq ?_ | refine A_region ?_ | refine A_skip ?_ | refine A_block ?_ | (show drJ _ _ _ _ _ _ _ (.q _ _) _; refine D_q rfl ?_) | (show drJ _ _ _ _ _ _ _ (.e _ _) _; refine D_e rfl ?_) | (show drJ _ _ _ _ _ _ _ (.r _) _; refine D_r ?_; simp only [List.cons_append, List.nil_append]) | (show drJ _ _ _ _ _ _ _ (.done _) _; refine D_done ?_; simp only [List.cons_append, List.nil_append]) | (show drQ _ _ _ _ _ _; first | (refine D_split rfl rfl (fun h => ?_) (fun h => ?_) <;> try (exfalso; omega)) | refine D_ev rfl (Ev_pure rfl) rfl rfl ?_ | (show drQ _ _ _ ⟨_, .load _ _, _, _, _, _⟩ _ _; refine D_ev rfl (Ev_loadB1 (i := 0) rfl rfl rfl) rfl rfl ?_) | (show drQ _ _ _ ⟨_, .indexAddr _ _ _, _, _, _, _⟩ _ _; refine D_ev rfl (Ev_indexAddr rfl rfl (by omega) (by omega)) rfl rfl ?_) | (show drQ _ _ _ ⟨_, .fieldAddr _ _ _, _, _, _, _⟩ _ _; refine D_ev rfl (Ev_fieldAddr rfl rfl rfl) rfl rfl ?_) | (show drQ _ _ _ ⟨_, .binOp _ _ _ _ _, _, _, _, _⟩ _ _; refine D_ev rfl (Ev_sub rfl rfl (wi64 (by omega))) rfl rfl ?_)) | (show drJ _ _ _ _ _ _ _ (.p _ _) _; refine D_p rfl ?_) | (show drP _ _ _ _ _ _; (show drP _ _ _ ⟨_, .fieldAddr _ _ _, _, _, _, _⟩ _ _; refine D_pv rfl (Ev_fieldAddr rfl rfl rfl) rfl rfl ?_)) | (show drE _ _ _ _ _ _ _; first | (show drE _ _ _ _ ⟨_, .call _, _, _, _, _⟩ _ _; (refine E_ef rfl (Ef_f2 (Ef_appendR WideF.wide rfl rfl rfl rfl rfl (by simp; omega) (by simp; omega) rfl ?_)); intro a cp; refine ⟨Grow.same rfl rfl, ?_⟩)) | (show drE _ _ _ _ ⟨_, .buildSlice _ _ _, _, _, _, _⟩ _ _; (refine E_ef rfl (Ef_build1a WideF.wide rfl rfl rfl rfl rfl ?_); intro b; refine ⟨Grow.same rfl rfl, ?_⟩)) | (show drE _ _ _ _ ⟨_, .store _ _ _, _, _, _, _⟩ _ _; (refine E_ef rfl (Ef_f1 (Ef_store1 WideF.wide rfl rfl rfl rfl rfl ?_)); refine ⟨Grow.same rfl rfl, ?_⟩))) | (show opsA _ _ _ _ _ _ _; first | refine O_ev WideF.wide rfl (Ev_pure rfl) rfl rfl ?_ | (show opsA _ _ _ _ (⟨_, .load _ _, _, _, _, _⟩ :: _) _ _; refine O_ev WideF.wide rfl (Ev_loadB1 (i := 0) rfl rfl rfl) rfl rfl ?_) | (show opsA _ _ _ _ (⟨_, .fieldAddr _ _ _, _, _, _, _⟩ :: _) _ _; refine O_ev WideF.wide rfl (Ev_fieldAddr rfl rfl rfl) rfl rfl ?_) | (show opsA _ _ _ _ (⟨_, .call _, _, _, _, _⟩ :: _) _ _; refine O_ev WideF.wide rfl (Ev_llen rfl) rfl rfl ?_) | (show opsA _ _ _ _ (⟨_, .binOp _ _ _ _ _, _, _, _, _⟩ :: _) _ _; refine O_ev WideF.wide rfl (Ev_add rfl rfl (wi64 (by omega))) rfl rfl ?_)) | (show wpA _ _ _ (.cond _ _ _) _ _ _ _; (refine A_if rfl (fun h => ?_) (fun h => ?_) <;> try (exfalso; omega))))
            refine Shift.to ⟨_, ?_, i + 1, _, _, _, p1 ++ [prow y], rfl, by omega, rfl, ?_, rfl⟩ ⟨rfl, rfl, rfl, ⟨rfl, rfl, rfl, rfl, trivial⟩, Own.subi [0, 1, 2, 3, 4] (by decide) rfl rfl⟩
            · omega
            · rw [hsn, hpush, List.map_append, ← hpp]; rfl
          · have hpush : pushO ltP O y = O := by unfold pushO; rw [hlast]; simp [ltP, hk]
            repeat' (first | (refine A_drawL WideF.wide (.q 0 (.q 1 (.q 2 (.q 3 (.q 4 (.q 5 (.q 6 (.q 7 (.q 8 (.q 9 (.q 10 (.q 11 (.q 12 (.q 13 (.q 14 (.q 15 (.q 16 (.q 17 (.done []))))))))))))))))))) [] (by decide +kernel) ?_) | (refine D_ev rfl (Ev_loadH1 rfl (hb1 0 _ rfl)) rfl rfl ?_) | (refine D_ev rfl (Ev_loadH1 rfl (hc 0 _ rfl)) rfl rfl ?_) | (refine D_ev rfl (Ev_loadR1 (q := 1) (d := 0) rfl rfl hget (by omega) rfl) rfl rfl ?_) | refine O_nil ?_ | refine A_seq ?_ | refine A_region ?_ | refine A_skip ?_ | refine A_block ?_ | (show drJ _ _ _ _ _ _ _ (.q _ _) _; refine D_q rfl ?_) | (show drJ _ _ _ _ _ _ _ (.done _) _; refine D_done ?_; simp only [List.cons_append, List.nil_append]) | (show drQ _ _ _ _ _ _; first | (refine D_split rfl rfl (fun h => ?_) (fun h => ?_) <;> try (exfalso; omega)) | refine D_ev rfl (Ev_pure rfl) rfl rfl ?_ | (show drQ _ _ _ ⟨_, .load _ _, _, _, _, _⟩ _ _; refine D_ev rfl (Ev_loadB1 (i := 0) rfl rfl rfl) rfl rfl ?_) | (show drQ _ _ _ ⟨_, .indexAddr _ _ _, _, _, _, _⟩ _ _; refine D_ev rfl (Ev_indexAddr rfl rfl (by omega) (by omega)) rfl rfl ?_) | (show drQ _ _ _ ⟨_, .fieldAddr _ _ _, _, _, _, _⟩ _ _; refine D_ev rfl (Ev_fieldAddr rfl rfl rfl) rfl rfl ?_) | (show drQ _ _ _ ⟨_, .binOp _ _ _ _ _, _, _, _, _⟩ _ _; refine D_ev rfl (Ev_sub rfl rfl (wi64 (by omega))) rfl rfl ?_)) | (show opsA _ _ _ _ _ _ _; first | refine O_ev WideF.wide rfl (Ev_pure rfl) rfl rfl ?_ | (show opsA _ _ _ _ (⟨_, .load _ _, _, _, _, _⟩ :: _) _ _; refine O_ev WideF.wide rfl (Ev_loadB1 (i := 0) rfl rfl rfl) rfl rfl ?_) | (show opsA _ _ _ _ (⟨_, .fieldAddr _ _ _, _, _, _, _⟩ :: _) _ _; refine O_ev WideF.wide rfl (Ev_fieldAddr rfl rfl rfl) rfl rfl ?_) | (show opsA _ _ _ _ (⟨_, .call _, _, _, _, _⟩ :: _) _ _; refine O_ev WideF.wide rfl (Ev_llen rfl) rfl rfl ?_) | (show opsA _ _ _ _ (⟨_, .binOp _ _ _ _ _, _, _, _, _⟩ :: _) _ _; refine O_ev WideF.wide rfl (Ev_add rfl rfl (wi64 (by omega))) rfl rfl ?_)) | (show wpA _ _ _ (.cond _ _ _) _ _ _ _; (refine A_if rfl (fun h => ?_) (fun h => ?_) <;> try (exfalso; omega))))
            refine Shift.to ⟨_, ?_, i + 1, _, _, _, p1, rfl, by omega, hnp, ?_, rfl⟩ ⟨rfl, rfl, rfl, ⟨rfl, rfl, rfl, rfl, trivial⟩, Own.subi [0, 1, 2, 3, 4] (by decide) rfl rfl⟩
            · omega
            · rw [hsn, hpush]; exact hpp
      · repeat' (first | (show wpA _ _ _ (.exit _) _ _ _ _; refine A_exit rfl ?_) | (show wpA _ _ _ (.cond _ _ _) _ _ _ _; (refine A_if rfl (fun h => ?_) (fun h => ?_) <;> try (exfalso; omega))))
        have hfull : ordL 20 ltP q.props = ordL 20 ltP (q.props.take i) := by
          by_cases hib : i < pn
          · exact ordL_full _ i (by omega)
          · rw [List.take_of_length_le (by omega)]
        exact Shift.to ⟨a1, n1, c1, p1, by rw [hfull]; exact hpp, rfl⟩ ⟨rfl, rfl, rfl, ⟨rfl, rfl, rfl, trivial⟩, Own.subi [0, 1, 2, 3, 4] (by decide) rfl rfl⟩
  rintro s ⟨a1, n1, c1, p1, hp1, rfl⟩
  refine A_seq ?_
  refine A_cutu (fun s => ∃ (a2 : Option Addr) (n2 c2 : Nat) (p2 : List (List Value)), p2 = (ordL 20 ltD q.dels).map drow ∧ s = ⟨174, oEnv b1 b2 b3, H1, oOwn b2 b3 q.ins mv a1 n1 c1 p1 a2 n2 c2 p2 none 0 0 [], [], []⟩) ?_ ?_
  · repeat' (first | refine O_nil ?_ | refine A_seq ?_ | refine A_region ?_ | refine A_block ?_ | (show opsA _ _ _ _ _ _ _; refine O_ev WideF.wide rfl (Ev_pure rfl) rfl rfl ?_))
    refine A_loopu (fun m s => ∃ (i : Nat) (a2 : Option Addr) (n2 c2 : Nat) (p2 : List (List Value)), m = dn - i ∧ i ≤ dn ∧ p2.length = n2 ∧ p2 = (ordL 20 ltD (q.dels.take i)).map drow ∧ s = ⟨174, (6, .int .i64 i) :: oEnv b1 b2 b3, H1, oOwn b2 b3 q.ins mv a1 n1 c1 p1 a2 n2 c2 p2 none 0 0 [], [], []⟩) ?_ ?_
    · exact Shift.to ⟨_, 0, none, 0, 0, [], rfl, by omega, rfl, by simp [ordL], rfl⟩ ⟨rfl, rfl, rfl, ⟨rfl, rfl, rfl, rfl, trivial⟩, Own.subi [0, 1, 2, 3, 4] (by decide) rfl rfl⟩
    · rintro m s ⟨i, a2, n2, c2, p2, rfl, hi, hnp, hpp, rfl⟩
      have hcap := ordL_len 20 ltD (q.dels.take i)
      have hpl : p2.length = (ordL 20 ltD (q.dels.take i)).length := by rw [hpp]; simp
      refine A_seq (A_seq ?_)
      refine A_cutu (fun s => s = ⟨174, (81, .bool (decide (i < dn ∧ n2 < 20))) :: (6, .int .i64 i) :: oEnv b1 b2 b3, H1, oOwn b2 b3 q.ins mv a1 n1 c1 p1 a2 n2 c2 p2 none 0 0 [], [], []⟩) ?_ ?_
      · by_cases hlt : i < dn
        · have e : decide (i < dn ∧ n2 < 20) = decide ((n2 : Int) < 20) := by simp only [hlt, true_and]; congr 1; simp only [eq_iff_iff]; omega
          rw [e]
          repeat' (first | (refine O_ev WideF.wide rfl (Ev_loadH1 rfl (hb1 3 _ rfl)) rfl rfl ?_) | refine O_nil ?_ | refine A_region ?_ | (show opsA _ _ _ _ _ _ _; first | (refine O_split rfl rfl (fun h => ?_) (fun h => ?_) <;> try (exfalso; omega)) | refine O_ev WideF.wide rfl (Ev_pure rfl) rfl rfl ?_ | (show opsA _ _ _ _ (⟨_, .load _ _, _, _, _, _⟩ :: _) _ _; refine O_ev WideF.wide rfl (Ev_loadB1 (i := 0) rfl rfl rfl) rfl rfl ?_) | (show opsA _ _ _ _ (⟨_, .fieldAddr _ _ _, _, _, _, _⟩ :: _) _ _; refine O_ev WideF.wide rfl (Ev_fieldAddr rfl rfl rfl) rfl rfl ?_) | (show opsA _ _ _ _ (⟨_, .call _, _, _, _, _⟩ :: _) _ _; refine O_ev WideF.wide rfl (Ev_llen rfl) rfl rfl ?_)))
          exact Shift.to rfl ⟨rfl, rfl, rfl, ⟨rfl, rfl, rfl, rfl, rfl, trivial⟩, Own.subi [0, 1, 2, 3, 4] (by decide) rfl rfl⟩
        · have e : decide (i < dn ∧ n2 < 20) = false := by simp [hlt]
          rw [e]
          repeat' (first | (refine O_ev WideF.wide rfl (Ev_loadH1 rfl (hb1 3 _ rfl)) rfl rfl ?_) | refine O_nil ?_ | refine A_region ?_ | (show opsA _ _ _ _ _ _ _; first | (refine O_split rfl rfl (fun h => ?_) (fun h => ?_) <;> try (exfalso; omega)) | refine O_ev WideF.wide rfl (Ev_pure rfl) rfl rfl ?_ | (show opsA _ _ _ _ (⟨_, .fieldAddr _ _ _, _, _, _, _⟩ :: _) _ _; refine O_ev WideF.wide rfl (Ev_fieldAddr rfl rfl rfl) rfl rfl ?_) | (show opsA _ _ _ _ (⟨_, .call _, _, _, _, _⟩ :: _) _ _; refine O_ev WideF.wide rfl (Ev_llen rfl) rfl rfl ?_) | refine O_skip WideF.wide rfl rfl rfl ?_))
          exact Shift.to rfl ⟨rfl, rfl, rfl, ⟨rfl, rfl, rfl, rfl, rfl, trivial⟩, Own.subi [0, 1, 2, 3, 4] (by decide) rfl rfl⟩
      rintro s rfl
      by_cases hgo : i < dn ∧ n2 < 20
      · obtain ⟨hlt, hnc⟩ := hgo
        obtain ⟨b', o, y, ha', hyi, hc⟩ := h2.atm i hlt
        cases ha'
        have hcy := hc
        unfold drow at hcy
        have hsn : ordL 20 ltD (q.dels.take (i + 1)) = pushO ltD (ordL 20 ltD (q.dels.take i)) y := by rw [take_get hyi, ordL_snoc]; unfold stepO; rw [if_pos (by omega)]
        generalize hO : ordL 20 ltD (q.dels.take i) = O at hpp hpl hsn
        by_cases hz : n2 = 0
        · have hnil : O = [] := List.length_eq_zero_iff.1 (by omega)
          have hpush : pushO ltD O y = O ++ [y] := by rw [hnil]; rfl
          repeat' (first | (refine A_drawL WideF.wide (.q 0 (.q 1 (.q 2 (.q 3 (.q 4 (.q 5 (.q 6 (.q 7 (.q 8 (.q 9 (.q 10 (.q 11 (.q 12 (.q 13 (.q 14 (.q 15 (.q 16 (.q 17 (.q 18 (.q 19 (.done []))))))))))))))))))))) [] (by decide +kernel) ?_) | (refine D_ev rfl (Ev_loadH1 rfl (hb1 3 _ rfl)) rfl rfl ?_) | (refine D_ev rfl (Ev_loadH rfl hcy rfl) rfl rfl ?_) | (refine A_drawi WideF.wide (.q 0 (.q 1 (.q 2 (.p 3 (.p 4 (.q 5 (.q 6 (.q 7 (.q 8 (.e 9 (.r (.e 10 (.q 11 (.q 12 (.e 13 (.done [])))))))))))))))) [10, 11, 12, 13] [] [0, 1, 2, 3, 4] (by decide +kernel) (by decide) rfl ?_; simp only [Own.picks, Own.rget, List.cons_append, List.nil_append, List.append_nil]) | refine O_nil ?_ | refine A_seq ?_ | refine A_region ?_ | refine A_skip ?_ | refine A_block ?_ | (show drJ _ _ _ _ _ _ _ (.q _ _) _; refine D_q rfl ?_) | (show drJ _ _ _ _ _ _ _ (.e _ _) _; refine D_e rfl ?_) | (show drJ _ _ _ _ _ _ _ (.r _) _; refine D_r ?_; simp only [List.cons_append, List.nil_append]) | (show drJ _ _ _ _ _ _ _ (.done _) _; refine D_done ?_; simp only [List.cons_append, List.nil_append]) | (show drQ _ _ _ _ _ _; first | (refine D_split rfl rfl (fun h => ?_) (fun h => ?_) <;> try (exfalso; omega)) | refine D_ev rfl (Ev_pure rfl) rfl rfl ?_ | (show drQ _ _ _ ⟨_, .load _ _, _, _, _, _⟩ _ _; refine D_ev rfl (Ev_loadB1 (i := 0) rfl rfl rfl) rfl rfl ?_) | (show drQ _ _ _ ⟨_, .indexAddr _ _ _, _, _, _, _⟩ _ _; refine D_ev rfl (Ev_indexAddr rfl rfl (by omega) (by omega)) rfl rfl ?_) | (show drQ _ _ _ ⟨_, .fieldAddr _ _ _, _, _, _, _⟩ _ _; refine D_ev rfl (Ev_fieldAddr rfl rfl rfl) rfl rfl ?_) | refine D_skip rfl rfl rfl ?_) | (show drJ _ _ _ _ _ _ _ (.p _ _) _; refine D_p rfl ?_) | (show drP _ _ _ _ _ _; (show drP _ _ _ ⟨_, .fieldAddr _ _ _, _, _, _, _⟩ _ _; refine D_pv rfl (Ev_fieldAddr rfl rfl rfl) rfl rfl ?_)) | (show drE _ _ _ _ _ _ _; first | (show drE _ _ _ _ ⟨_, .call _, _, _, _, _⟩ _ _; (refine E_ef rfl (Ef_f3 (Ef_appendR WideF.wide rfl rfl rfl rfl rfl (by simp; omega) (by simp; omega) rfl ?_)); intro a cp; refine ⟨Grow.same rfl rfl, ?_⟩)) | (show drE _ _ _ _ ⟨_, .buildSlice _ _ _, _, _, _, _⟩ _ _; (refine E_ef rfl (Ef_build1a WideF.wide rfl rfl rfl rfl rfl ?_); intro b; refine ⟨Grow.same rfl rfl, ?_⟩)) | (show drE _ _ _ _ ⟨_, .store _ _ _, _, _, _, _⟩ _ _; (refine E_ef rfl (Ef_f1 (Ef_store1 WideF.wide rfl rfl rfl rfl rfl ?_)); refine ⟨Grow.same rfl rfl, ?_⟩))) | (show opsA _ _ _ _ _ _ _; first | refine O_ev WideF.wide rfl (Ev_pure rfl) rfl rfl ?_ | (show opsA _ _ _ _ (⟨_, .load _ _, _, _, _, _⟩ :: _) _ _; refine O_ev WideF.wide rfl (Ev_loadB1 (i := 0) rfl rfl rfl) rfl rfl ?_) | (show opsA _ _ _ _ (⟨_, .fieldAddr _ _ _, _, _, _, _⟩ :: _) _ _; refine O_ev WideF.wide rfl (Ev_fieldAddr rfl rfl rfl) rfl rfl ?_) | (show opsA _ _ _ _ (⟨_, .call _, _, _, _, _⟩ :: _) _ _; refine O_ev WideF.wide rfl (Ev_llen rfl) rfl rfl ?_) | (show opsA _ _ _ _ (⟨_, .binOp _ _ _ _ _, _, _, _, _⟩ :: _) _ _; refine O_ev WideF.wide rfl (Ev_add rfl rfl (wi64 (by omega))) rfl rfl ?_)) | (show wpA _ _ _ (.cond _ _ _) _ _ _ _; first | (refine A_if rfl (fun h => ?_) (fun h => ?_) <;> try (exfalso; omega)) | refine A_iftrue rfl ?_))
          refine Shift.to ⟨_, ?_, i + 1, _, _, _, p2 ++ [drow y], rfl, by omega, rfl, ?_, rfl⟩ ⟨rfl, rfl, rfl, ⟨rfl, rfl, rfl, rfl, trivial⟩, Own.subi [0, 2, 1, 3, 4] (by decide) rfl rfl⟩
          · omega
          · rw [hsn, hpush, List.map_append, ← hpp]; rfl
        · refine A_rowaddr (q := 2) rfl ?_
          intro r1 r2 r3 r4 r5
          obtain ⟨sb, rfl⟩ : ∃ sb, a2 = some ⟨sb, 0, none⟩ := by
            cases a2 with
            | none => have := (r3 rfl).1; rw [this] at r1; simp at r1; omega
            | some ad => obtain ⟨sb, rfl⟩ := r5 _ rfl; exact ⟨sb, rfl⟩
          obtain ⟨u, hu⟩ : ∃ u, O[n2 - 1]? = some u := ⟨_, List.getElem?_eq_getElem (by omega)⟩
          have hget : p2[n2 - 1]? = some (drow u) := by rw [hpp, List.getElem?_map, hu]; rfl
          have hlast : O[O.length - 1]? = some u := by rw [← hu]; congr 1; omega
          by_cases hk : u.rev < y.rev
          · have hpush : pushO ltD O y = O ++ [y] := by unfold pushO; rw [hlast]; simp [ltD, hk]
            repeat' (first | (refine A_drawL WideF.wide (.q 0 (.q 1 (.q 2 (.q 3 (.q 4 (.q 5 (.q 6 (.q 7 (.q 8 (.q 9 (.q 10 (.q 11 (.q 12 (.q 13 (.q 14 (.q 15 (.q 16 (.q 17 (.q 18 (.q 19 (.done []))))))))))))))))))))) [] (by decide +kernel) ?_) | (refine D_ev rfl (Ev_loadH1 rfl (hb1 3 _ rfl)) rfl rfl ?_) | (refine D_ev rfl (Ev_loadH1 rfl (hc 0 _ rfl)) rfl rfl ?_) | (refine D_ev rfl (Ev_loadH rfl hcy rfl) rfl rfl ?_) | (refine D_ev rfl (Ev_loadR1 (q := 2) (d := 0) rfl rfl hget (by omega) rfl) rfl rfl ?_) | (refine A_drawi WideF.wide (.q 0 (.q 1 (.q 2 (.p 3 (.p 4 (.q 5 (.q 6 (.q 7 (.q 8 (.e 9 (.r (.e 10 (.q 11 (.q 12 (.e 13 (.done [])))))))))))))))) [10, 11, 12, 13] [] [0, 1, 2, 3, 4] (by decide +kernel) (by decide) rfl ?_; simp only [Own.picks, Own.rget, List.cons_append, List.nil_append, List.append_nil]) | refine O_nil ?_ | refine A_seq ?_ | refine A_region ?_ | refine A_skip ?_ | refine A_block ?_ | (show drJ _ _ _ _ _ _ _ (.q _ _) _; refine D_q rfl ?_) | (show drJ _ _ _ _ _ _ _ (.e _ _) _; refine D_e rfl ?_) | (show drJ _ _ _ _ _ _ _ (.r _) _; refine D_r ?_; simp only [List.cons_append, List.nil_append]) | (show drJ _ _ _ _ _ _ _ (.done _) _; refine D_done ?_; simp only [List.cons_append, List.nil_append]) | (show drQ _ _ _ _ _ _; first | (refine D_split rfl rfl (fun h => ?_) (fun h => ?_) <;> try (exfalso; omega)) | refine D_ev rfl (Ev_pure rfl) rfl rfl ?_ | (show drQ _ _ _ ⟨_, .load _ _, _, _, _, _⟩ _ _; refine D_ev rfl (Ev_loadB1 (i := 0) rfl rfl rfl) rfl rfl ?_) | (show drQ _ _ _ ⟨_, .indexAddr _ _ _, _, _, _, _⟩ _ _; refine D_ev rfl (Ev_indexAddr rfl rfl (by omega) (by omega)) rfl rfl ?_) | (show drQ _ _ _ ⟨_, .fieldAddr _ _ _, _, _, _, _⟩ _ _; refine D_ev rfl (Ev_fieldAddr rfl rfl rfl) rfl rfl ?_) | (show drQ _ _ _ ⟨_, .binOp _ _ _ _ _, _, _, _, _⟩ _ _; refine D_ev rfl (Ev_sub rfl rfl (wi64 (by omega))) rfl rfl ?_)) | (show drJ _ _ _ _ _ _ _ (.p _ _) _; refine D_p rfl ?_) | (show drP _ _ _ _ _ _; (show drP _ _ _ ⟨_, .fieldAddr _ _ _, _, _, _, _⟩ _ _; refine D_pv rfl (Ev_fieldAddr rfl rfl rfl) rfl rfl ?_)) | (show drE _ _ _ _ _ _ _; first | (show drE _ _ _ _ ⟨_, .call _, _, _, _, _⟩ _ _; (refine E_ef rfl (Ef_f3 (Ef_appendR WideF.wide rfl rfl rfl rfl rfl (by simp; omega) (by simp; omega) rfl ?_)); intro a cp; refine ⟨Grow.same rfl rfl, ?_⟩)) | (show drE _ _ _ _ ⟨_, .buildSlice _ _ _, _, _, _, _⟩ _ _; (refine E_ef rfl (Ef_build1a WideF.wide rfl rfl rfl rfl rfl ?_); intro b; refine ⟨Grow.same rfl rfl, ?_⟩)) | (show drE _ _ _ _ ⟨_, .store _ _ _, _, _, _, _⟩ _ _; (refine E_ef rfl (Ef_f1 (Ef_store1 WideF.wide rfl rfl rfl rfl rfl ?_)); refine ⟨Grow.same rfl rfl, ?_⟩))) | (show opsA _ _ _ _ _ _ _; first | refine O_ev WideF.wide rfl (Ev_pure rfl) rfl rfl ?_ | (show opsA _ _ _ _ (⟨_, .load _ _, _, _, _, _⟩ :: _) _ _; refine O_ev WideF.wide rfl (Ev_loadB1 (i := 0) rfl rfl rfl) rfl rfl ?_) | (show opsA _ _ _ _ (⟨_, .fieldAddr _ _ _, _, _, _, _⟩ :: _) _ _; refine O_ev WideF.wide rfl (Ev_fieldAddr rfl rfl rfl) rfl rfl ?_) | (show opsA _ _ _ _ (⟨_, .call _, _, _, _, _⟩ :: _) _ _; refine O_ev WideF.wide rfl (Ev_llen rfl) rfl rfl ?_) | (show opsA _ _ _ _ (⟨_, .binOp _ _ _ _ _, _, _, _, _⟩ :: _) _ _; refine O_ev WideF.wide rfl (Ev_add rfl rfl (wi64 (by omega))) rfl rfl ?_)) | (show wpA _ _ _ (.cond _ _ _) _ _ _ _; (refine A_if rfl (fun h => ?_) (fun h => ?_) <;> try (exfalso; omega))))
            refine Shift.to ⟨_, ?_, i + 1, _, _, _, p2 ++ [drow y], rfl, by omega, rfl, ?_, rfl⟩ ⟨rfl, rfl, rfl, ⟨rfl, rfl, rfl, rfl, trivial⟩, Own.subi [0, 2, 1, 3, 4] (by decide) rfl rfl⟩
            · omega
            · rw [hsn, hpush, List.map_append, ← hpp]; rfl
          · have hpush : pushO ltD O y = O := by unfold pushO; rw [hlast]; simp [ltD, hk]
            repeat' (first | (refine A_drawL WideF.wide (.q 0 (.q 1 (.q 2 (.q 3 (.q 4 (.q 5 (.q 6 (.q 7 (.q 8 (.q 9 (.q 10 (.q 11 (.q 12 (.q 13 (.q 14 (.q 15 (.q 16 (.q 17 (.q 18 (.q 19 (.done []))))))))))))))))))))) [] (by decide +kernel) ?_) | (refine D_ev rfl (Ev_loadH1 rfl (hb1 3 _ rfl)) rfl rfl ?_) | (refine D_ev rfl (Ev_loadH1 rfl (hc 0 _ rfl)) rfl rfl ?_) | (refine D_ev rfl (Ev_loadR1 (q := 2) (d := 0) rfl rfl hget (by omega) rfl) rfl rfl ?_) | refine O_nil ?_ | refine A_seq ?_ | refine A_region ?_ | refine A_skip ?_ | refine A_block ?_ | (show drJ _ _ _ _ _ _ _ (.q _ _) _; refine D_q rfl ?_) | (show drJ _ _ _ _ _ _ _ (.done _) _; refine D_done ?_; simp only [List.cons_append, List.nil_append]) | (show drQ _ _ _ _ _ _; first | (refine D_split rfl rfl (fun h => ?_) (fun h => ?_) <;> try (exfalso; omega)) | refine D_ev rfl (Ev_pure rfl) rfl rfl ?_ | (show drQ _ _ _ ⟨_, .load _ _, _, _, _, _⟩ _ _; refine D_ev rfl (Ev_loadB1 (i := 0) rfl rfl rfl) rfl rfl ?_) | (show drQ _ _ _ ⟨_, .indexAddr _ _ _, _, _, _, _⟩ _ _; refine D_ev rfl (Ev_indexAddr rfl rfl (by omega) (by omega)) rfl rfl ?_) | (show drQ _ _ _ ⟨_, .fieldAddr _ _ _, _, _, _, _⟩ _ _; refine D_ev rfl (Ev_fieldAddr rfl rfl rfl) rfl rfl ?_) | (show drQ _ _ _ ⟨_, .binOp _ _ _ _ _, _, _, _, _⟩ _ _; refine D_ev rfl (Ev_sub rfl rfl (wi64 (by omega))) rfl rfl ?_)) | (show opsA _ _ _ _ _ _ _; first | refine O_ev WideF.wide rfl (Ev_pure rfl) rfl rfl ?_ | (show opsA _ _ _ _ (⟨_, .load _ _, _, _, _, _⟩ :: _) _ _; refine O_ev WideF.wide rfl (Ev_loadB1 (i := 0) rfl rfl rfl) rfl rfl ?_) | (show opsA _ _ _ _ (⟨_, .fieldAddr _ _ _, _, _, _, _⟩ :: _) _ _; refine O_ev WideF.wide rfl (Ev_fieldAddr rfl rfl rfl) rfl rfl ?_) | (show opsA _ _ _ _ (⟨_, .call _, _, _, _, _⟩ :: _) _ _; refine O_ev WideF.wide rfl (Ev_llen rfl) rfl rfl ?_) | (show opsA _ _ _ _ (⟨_, .binOp _ _ _ _ _, _, _, _, _⟩ :: _) _ _; refine O_ev WideF.wide rfl (Ev_add rfl rfl (wi64 (by omega))) rfl rfl ?_)) | (show wpA _ _ _ (.cond _ _ _) _ _ _ _; (refine A_if rfl (fun h => ?_) (fun h => ?_) <;> try (exfalso; omega))))
            refine Shift.to ⟨_, ?_, i + 1, _, _, _, p2, rfl, by omega, hnp, ?_, rfl⟩ ⟨rfl, rfl, rfl, ⟨rfl, rfl, rfl, rfl, trivial⟩, Own.subi [0, 1, 2, 3, 4] (by decide) rfl rfl⟩
            · omega
            · rw [hsn, hpush]; exact hpp
      · repeat' (first | (show wpA _ _ _ (.exit _) _ _ _ _; refine A_exit rfl ?_) | (show wpA _ _ _ (.cond _ _ _) _ _ _ _; (refine A_if rfl (fun h => ?_) (fun h => ?_) <;> try (exfalso; omega))))
        have hfull : ordL 20 ltD q.dels = ordL 20 ltD (q.dels.take i) := by
          by_cases hib : i < dn
          · exact ordL_full _ i (by omega)
          · rw [List.take_of_length_le (by omega)]
        exact Shift.to ⟨a2, n2, c2, p2, by rw [hfull]; exact hpp, rfl⟩ ⟨rfl, rfl, rfl, ⟨rfl, rfl, rfl, trivial⟩, Own.subi [0, 1, 2, 3, 4] (by decide) rfl rfl⟩
  rintro s ⟨a2, n2, c2, p2, hp2, rfl⟩
  refine A_seq ?_
  refine A_cutu (fun s => ∃ (a3 : Option Addr) (n3 c3 : Nat) (p3 : List (List Value)), p3 = (ordL 80 leL (q.layers.map Layr.norm)).map lrow ∧ s = ⟨174, oEnv b1 b2 b3, H1, oOwn b2 b3 q.ins mv a1 n1 c1 p1 a2 n2 c2 p2 a3 n3 c3 p3 , [], []⟩) ?_ ?_
  · repeat' (first | refine O_nil ?_ | refine A_seq ?_ | refine A_region ?_ | refine A_block ?_ | (show opsA _ _ _ _ _ _ _; refine O_ev WideF.wide rfl (Ev_pure rfl) rfl rfl ?_))
    refine A_loopu (fun m s => ∃ (i : Nat) (a3 : Option Addr) (n3 c3 : Nat) (p3 : List (List Value)), m = ln - i ∧ i ≤ ln ∧ p3.length = n3 ∧ p3 = (ordL 80 leL ((q.layers.map Layr.norm).take i)).map lrow ∧ s = ⟨174, (8, .int .i64 i) :: oEnv b1 b2 b3, H1, oOwn b2 b3 q.ins mv a1 n1 c1 p1 a2 n2 c2 p2 a3 n3 c3 p3 , [], []⟩) ?_ ?_
    · exact Shift.to ⟨_, 0, none, 0, 0, [], rfl, by omega, rfl, by simp [ordL], rfl⟩ ⟨rfl, rfl, rfl, ⟨rfl, rfl, rfl, rfl, trivial⟩, Own.subi [0, 1, 2, 3, 4] (by decide) rfl rfl⟩
    · rintro m s ⟨i, a3, n3, c3, p3, rfl, hi, hnp, hpp, rfl⟩
      have hcap := ordL_len 80 leL ((q.layers.map Layr.norm).take i)
      have hpl : p3.length = (ordL 80 leL ((q.layers.map Layr.norm).take i)).length := by rw [hpp]; simp
      refine A_seq (A_seq ?_)
      refine A_cutu (fun s => s = ⟨174, (133, .bool (decide (i < ln ∧ n3 < 80))) :: (8, .int .i64 i) :: oEnv b1 b2 b3, H1, oOwn b2 b3 q.ins mv a1 n1 c1 p1 a2 n2 c2 p2 a3 n3 c3 p3 , [], []⟩) ?_ ?_
      · by_cases hlt : i < ln
        · have e : decide (i < ln ∧ n3 < 80) = decide ((n3 : Int) < 80) := by simp only [hlt, true_and]; congr 1; simp only [eq_iff_iff]; omega
          rw [e]
          repeat' (first | (refine O_ev WideF.wide rfl (Ev_loadH1 rfl (hb1 4 _ rfl)) rfl rfl ?_) | refine O_nil ?_ | refine A_region ?_ | (show opsA _ _ _ _ _ _ _; first | (refine O_split rfl rfl (fun h => ?_) (fun h => ?_) <;> try (exfalso; omega)) | refine O_ev WideF.wide rfl (Ev_pure rfl) rfl rfl ?_ | (show opsA _ _ _ _ (⟨_, .load _ _, _, _, _, _⟩ :: _) _ _; refine O_ev WideF.wide rfl (Ev_loadB1 (i := 0) rfl rfl rfl) rfl rfl ?_) | (show opsA _ _ _ _ (⟨_, .fieldAddr _ _ _, _, _, _, _⟩ :: _) _ _; refine O_ev WideF.wide rfl (Ev_fieldAddr rfl rfl rfl) rfl rfl ?_) | (show opsA _ _ _ _ (⟨_, .call _, _, _, _, _⟩ :: _) _ _; refine O_ev WideF.wide rfl (Ev_llen rfl) rfl rfl ?_)))
          exact Shift.to rfl ⟨rfl, rfl, rfl, ⟨rfl, rfl, rfl, rfl, rfl, trivial⟩, Own.subi [0, 1, 2, 3, 4] (by decide) rfl rfl⟩
        · have e : decide (i < ln ∧ n3 < 80) = false := by simp [hlt]
          rw [e]
          repeat' (first | (refine O_ev WideF.wide rfl (Ev_loadH1 rfl (hb1 4 _ rfl)) rfl rfl ?_) | refine O_nil ?_ | refine A_region ?_ | (show opsA _ _ _ _ _ _ _; first | (refine O_split rfl rfl (fun h => ?_) (fun h => ?_) <;> try (exfalso; omega)) | refine O_ev WideF.wide rfl (Ev_pure rfl) rfl rfl ?_ | (show opsA _ _ _ _ (⟨_, .fieldAddr _ _ _, _, _, _, _⟩ :: _) _ _; refine O_ev WideF.wide rfl (Ev_fieldAddr rfl rfl rfl) rfl rfl ?_) | (show opsA _ _ _ _ (⟨_, .call _, _, _, _, _⟩ :: _) _ _; refine O_ev WideF.wide rfl (Ev_llen rfl) rfl rfl ?_) | refine O_skip WideF.wide rfl rfl rfl ?_))
          exact Shift.to rfl ⟨rfl, rfl, rfl, ⟨rfl, rfl, rfl, rfl, rfl, trivial⟩, Own.subi [0, 1, 2, 3, 4] (by decide) rfl rfl⟩
      rintro s rfl
      by_cases hgo : i < ln ∧ n3 < 80
      · obtain ⟨hlt, hnc⟩ := hgo
        obtain ⟨b', o, z, ha', hzi, hc⟩ := h3.atm i hlt
        cases ha'
        obtain ⟨zr, zk, zb, zh⟩ := z
        have hcy := hc
        unfold lrow at hcy
        cases zh with
        | true =>
          have hyi : (q.layers.map Layr.norm)[i]? = some ⟨zr, zk, zb, true⟩ := by rw [List.getElem?_map, hzi]; rfl
          have hsn : ordL 80 leL ((q.layers.map Layr.norm).take (i + 1)) = pushO leL (ordL 80 leL ((q.layers.map Layr.norm).take i)) ⟨zr, zk, zb, true⟩ := by rw [take_get hyi, ordL_snoc]; unfold stepO; rw [if_pos (by omega)]
          generalize hO : ordL 80 leL ((q.layers.map Layr.norm).take i) = O at hpp hpl hsn
          by_cases hz : n3 = 0
          · have hnil : O = [] := List.length_eq_zero_iff.1 (by omega)
            have hpush : pushO leL O ⟨zr, zk, zb, true⟩ = O ++ [⟨zr, zk, zb, true⟩] := by rw [hnil]; rfl
            repeat' (first | (refine O_ev WideF.wide rfl (Ev_loadH1 rfl (hb1 4 _ rfl)) rfl rfl ?_) | (refine O_ev WideF.wide rfl (Ev_loadH rfl hcy rfl) rfl rfl ?_) | (refine A_drawL WideF.wide (.q 0 (.q 1 (.q 2 (.q 3 (.q 4 (.q 5 (.q 6 (.q 7 (.q 8 (.q 9 (.q 10 (.q 11 (.q 12 (.q 13 (.q 14 (.done [])))))))))))))))) [] (by decide +kernel) ?_) | (refine O_f5 (O_ef rfl (Ef_appendR WideF.wide rfl rfl rfl rfl rfl (by simp; omega) (by simp; omega) rfl ?_)); intro a cp) | refine O_nil ?_ | refine A_seq ?_ | refine A_region ?_ | refine A_skip ?_ | refine A_block ?_ | (show drJ _ _ _ _ _ _ _ (.q _ _) _; refine D_q rfl ?_) | (show drJ _ _ _ _ _ _ _ (.done _) _; refine D_done ?_; simp only [List.cons_append, List.nil_append]) | (show drQ _ _ _ _ _ _; first | (refine D_split rfl rfl (fun h => ?_) (fun h => ?_) <;> try (exfalso; omega)) | refine D_ev rfl (Ev_pure rfl) rfl rfl ?_ | refine D_skip rfl rfl rfl ?_) | (show opsA _ _ _ _ _ _ _; first | refine O_ev WideF.wide rfl (Ev_pure rfl) rfl rfl ?_ | (show opsA _ _ _ _ (⟨_, .load _ _, _, _, _, _⟩ :: _) _ _; first | refine O_ev WideF.wide rfl (Ev_loadB1 (i := 0) rfl rfl rfl) rfl rfl ?_ | refine O_ev WideF.wide rfl (Ev_loadB1 (i := 1) rfl rfl rfl) rfl rfl ?_ | refine O_ev WideF.wide rfl (Ev_loadB (i := 0) rfl rfl rfl) rfl rfl ?_) | (show opsA _ _ _ _ (⟨_, .indexAddr _ _ _, _, _, _, _⟩ :: _) _ _; refine O_ev WideF.wide rfl (Ev_indexAddr rfl rfl (by omega) (by omega)) rfl rfl ?_) | (show opsA _ _ _ _ (⟨_, .fieldAddr _ _ _, _, _, _, _⟩ :: _) _ _; refine O_ev WideF.wide rfl (Ev_fieldAddr rfl rfl rfl) rfl rfl ?_) | (show opsA _ _ _ _ (⟨_, .call _, _, _, _, _⟩ :: _) _ _; refine O_ev WideF.wide rfl (Ev_llen rfl) rfl rfl ?_) | (show opsA _ _ _ _ (⟨_, .buildSlice _ _ _, _, _, _, _⟩ :: _) _ _; (refine O_ef rfl (Ef_build1a WideF.wide rfl rfl rfl rfl rfl ?_); intro b)) | (show opsA _ _ _ _ (⟨_, .binOp _ _ _ _ _, _, _, _, _⟩ :: _) _ _; refine O_ev WideF.wide rfl (Ev_add rfl rfl (wi64 (by omega))) rfl rfl ?_) | (show opsA _ _ _ _ (⟨_, .unOp _ _ _, _, _, _, _⟩ :: _) _ _; refine O_ev WideF.wide rfl (Ev_notb rfl) rfl rfl ?_) | (show opsA _ _ _ _ (⟨_, .alloc _, _, _, _, _⟩ :: _) _ _; (refine O_ef rfl (Ef_alloc WideF.wide rfl ?_); intro b)) | (show opsA _ _ _ _ (⟨_, .store _ _ _, _, _, _, _⟩ :: _) _ _; first | refine O_ef rfl (Ef_storew WideF.wide rfl rfl rfl rfl rfl ?_) | refine O_f2 (O_ef rfl (Ef_store1 WideF.wide rfl rfl rfl rfl rfl ?_)))) | (show wpA _ _ _ (.cond _ _ _) _ _ _ _; first | (refine A_if rfl (fun h => ?_) (fun h => ?_) <;> try (exfalso; omega)) | refine A_iftrue rfl ?_ | refine A_iffalse rfl ?_))
            refine Shift.to ⟨_, ?_, i + 1, _, _, _, p3 ++ [lrow ⟨zr, zk, zb, true⟩], rfl, by omega, rfl, ?_, rfl⟩ ⟨rfl, rfl, rfl, ⟨rfl, rfl, rfl, rfl, trivial⟩, Own.subi [0, 3, 4, 1, 5] (by decide) rfl rfl⟩
            · omega
            · rw [hsn, hpush, List.map_append, ← hpp]; rfl
          · refine A_rowaddr (q := 3) rfl ?_
            intro r1 r2 r3 r4 r5
            obtain ⟨sb, rfl⟩ : ∃ sb, a3 = some ⟨sb, 0, none⟩ := by
              cases a3 with
              | none => have := (r3 rfl).1; rw [this] at r1; simp at r1; omega
              | some ad => obtain ⟨sb, rfl⟩ := r5 _ rfl; exact ⟨sb, rfl⟩
            obtain ⟨u, hu⟩ : ∃ u, O[n3 - 1]? = some u := ⟨_, List.getElem?_eq_getElem (by omega)⟩
            have hget : p3[n3 - 1]? = some (lrow u) := by rw [hpp, List.getElem?_map, hu]; rfl
            have hlast : O[O.length - 1]? = some u := by rw [← hu]; congr 1; omega
            by_cases hk : u.key ≤ zk
            · have hpush : pushO leL O ⟨zr, zk, zb, true⟩ = O ++ [⟨zr, zk, zb, true⟩] := by unfold pushO; rw [hlast]; simp [leL, hk]
              repeat' (first | (refine O_ev WideF.wide rfl (Ev_loadH1 rfl (hb1 4 _ rfl)) rfl rfl ?_) | (refine O_ev WideF.wide rfl (Ev_loadH rfl hcy rfl) rfl rfl ?_) | (refine A_drawL WideF.wide (.q 0 (.q 1 (.q 2 (.q 3 (.q 4 (.q 5 (.q 6 (.q 7 (.q 8 (.q 9 (.q 10 (.q 11 (.q 12 (.q 13 (.q 14 (.done [])))))))))))))))) [] (by decide +kernel) ?_) | (refine D_ev rfl (Ev_loadR1 (q := 4) (d := 1) rfl rfl hget (by omega) rfl) rfl rfl ?_) | (refine O_f5 (O_ef rfl (Ef_appendR WideF.wide rfl rfl rfl rfl rfl (by simp; omega) (by simp; omega) rfl ?_)); intro a cp) | refine O_nil ?_ | refine A_seq ?_ | refine A_region ?_ | refine A_skip ?_ | refine A_block ?_ | (show drJ _ _ _ _ _ _ _ (.q _ _) _; refine D_q rfl ?_) | (show drJ _ _ _ _ _ _ _ (.done _) _; refine D_done ?_; simp only [List.cons_append, List.nil_append]) | (show drQ _ _ _ _ _ _; first | (refine D_split rfl rfl (fun h => ?_) (fun h => ?_) <;> try (exfalso; omega)) | refine D_ev rfl (Ev_pure rfl) rfl rfl ?_ | (show drQ _ _ _ ⟨_, .load _ _, _, _, _, _⟩ _ _; first | refine D_ev rfl (Ev_loadB1 (i := 0) rfl rfl rfl) rfl rfl ?_ | refine D_ev rfl (Ev_loadB1 (i := 1) rfl rfl rfl) rfl rfl ?_) | (show drQ _ _ _ ⟨_, .indexAddr _ _ _, _, _, _, _⟩ _ _; refine D_ev rfl (Ev_indexAddr rfl rfl (by omega) (by omega)) rfl rfl ?_) | (show drQ _ _ _ ⟨_, .fieldAddr _ _ _, _, _, _, _⟩ _ _; refine D_ev rfl (Ev_fieldAddr rfl rfl rfl) rfl rfl ?_) | (show drQ _ _ _ ⟨_, .binOp _ _ _ _ _, _, _, _, _⟩ _ _; refine D_ev rfl (Ev_sub rfl rfl (wi64 (by omega))) rfl rfl ?_)) | (show opsA _ _ _ _ _ _ _; first | refine O_ev WideF.wide rfl (Ev_pure rfl) rfl rfl ?_ | (show opsA _ _ _ _ (⟨_, .load _ _, _, _, _, _⟩ :: _) _ _; first | refine O_ev WideF.wide rfl (Ev_loadB1 (i := 0) rfl rfl rfl) rfl rfl ?_ | refine O_ev WideF.wide rfl (Ev_loadB1 (i := 1) rfl rfl rfl) rfl rfl ?_ | refine O_ev WideF.wide rfl (Ev_loadB (i := 0) rfl rfl rfl) rfl rfl ?_) | (show opsA _ _ _ _ (⟨_, .indexAddr _ _ _, _, _, _, _⟩ :: _) _ _; refine O_ev WideF.wide rfl (Ev_indexAddr rfl rfl (by omega) (by omega)) rfl rfl ?_) | (show opsA _ _ _ _ (⟨_, .fieldAddr _ _ _, _, _, _, _⟩ :: _) _ _; refine O_ev WideF.wide rfl (Ev_fieldAddr rfl rfl rfl) rfl rfl ?_) | (show opsA _ _ _ _ (⟨_, .call _, _, _, _, _⟩ :: _) _ _; refine O_ev WideF.wide rfl (Ev_llen rfl) rfl rfl ?_) | (show opsA _ _ _ _ (⟨_, .buildSlice _ _ _, _, _, _, _⟩ :: _) _ _; (refine O_ef rfl (Ef_build1a WideF.wide rfl rfl rfl rfl rfl ?_); intro b)) | (show opsA _ _ _ _ (⟨_, .binOp _ _ _ _ _, _, _, _, _⟩ :: _) _ _; refine O_ev WideF.wide rfl (Ev_add rfl rfl (wi64 (by omega))) rfl rfl ?_) | (show opsA _ _ _ _ (⟨_, .unOp _ _ _, _, _, _, _⟩ :: _) _ _; refine O_ev WideF.wide rfl (Ev_notb rfl) rfl rfl ?_) | (show opsA _ _ _ _ (⟨_, .alloc _, _, _, _, _⟩ :: _) _ _; (refine O_ef rfl (Ef_alloc WideF.wide rfl ?_); intro b)) | (show opsA _ _ _ _ (⟨_, .store _ _ _, _, _, _, _⟩ :: _) _ _; first | refine O_ef rfl (Ef_storew WideF.wide rfl rfl rfl rfl rfl ?_) | refine O_f2 (O_ef rfl (Ef_store1 WideF.wide rfl rfl rfl rfl rfl ?_)))) | (show wpA _ _ _ (.cond _ _ _) _ _ _ _; first | (refine A_if rfl (fun h => ?_) (fun h => ?_) <;> try (exfalso; omega)) | refine A_iffalse rfl ?_))
              refine Shift.to ⟨_, ?_, i + 1, _, _, _, p3 ++ [lrow ⟨zr, zk, zb, true⟩], rfl, by omega, rfl, ?_, rfl⟩ ⟨rfl, rfl, rfl, ⟨rfl, rfl, rfl, rfl, trivial⟩, Own.subi [0, 3, 4, 1, 5] (by decide) rfl rfl⟩
              · omega
              · rw [hsn, hpush, List.map_append, ← hpp]; rfl
            · have hpush : pushO leL O ⟨zr, zk, zb, true⟩ = O := by unfold pushO; rw [hlast]; simp [leL]; omega
              repeat' (first | (refine O_ev WideF.wide rfl (Ev_loadH1 rfl (hb1 4 _ rfl)) rfl rfl ?_) | (refine O_ev WideF.wide rfl (Ev_loadH rfl hcy rfl) rfl rfl ?_) | (refine A_drawL WideF.wide (.q 0 (.q 1 (.q 2 (.q 3 (.q 4 (.q 5 (.q 6 (.q 7 (.q 8 (.q 9 (.q 10 (.q 11 (.q 12 (.q 13 (.q 14 (.done [])))))))))))))))) [] (by decide +kernel) ?_) | (refine D_ev rfl (Ev_loadR1 (q := 4) (d := 1) rfl rfl hget (by omega) rfl) rfl rfl ?_) | refine O_nil ?_ | refine A_seq ?_ | refine A_region ?_ | refine A_skip ?_ | refine A_block ?_ | (show drJ _ _ _ _ _ _ _ (.q _ _) _; refine D_q rfl ?_) | (show drJ _ _ _ _ _ _ _ (.done _) _; refine D_done ?_; simp only [List.cons_append, List.nil_append]) | (show drQ _ _ _ _ _ _; first | (refine D_split rfl rfl (fun h => ?_) (fun h => ?_) <;> try (exfalso; omega)) | refine D_ev rfl (Ev_pure rfl) rfl rfl ?_ | (show drQ _ _ _ ⟨_, .load _ _, _, _, _, _⟩ _ _; first | refine D_ev rfl (Ev_loadB1 (i := 0) rfl rfl rfl) rfl rfl ?_ | refine D_ev rfl (Ev_loadB1 (i := 1) rfl rfl rfl) rfl rfl ?_) | (show drQ _ _ _ ⟨_, .indexAddr _ _ _, _, _, _, _⟩ _ _; refine D_ev rfl (Ev_indexAddr rfl rfl (by omega) (by omega)) rfl rfl ?_) | (show drQ _ _ _ ⟨_, .fieldAddr _ _ _, _, _, _, _⟩ _ _; refine D_ev rfl (Ev_fieldAddr rfl rfl rfl) rfl rfl ?_) | (show drQ _ _ _ ⟨_, .binOp _ _ _ _ _, _, _, _, _⟩ _ _; refine D_ev rfl (Ev_sub rfl rfl (wi64 (by omega))) rfl rfl ?_)) | (show opsA _ _ _ _ _ _ _; first | refine O_ev WideF.wide rfl (Ev_pure rfl) rfl rfl ?_ | (show opsA _ _ _ _ (⟨_, .load _ _, _, _, _, _⟩ :: _) _ _; first | refine O_ev WideF.wide rfl (Ev_loadB1 (i := 0) rfl rfl rfl) rfl rfl ?_ | refine O_ev WideF.wide rfl (Ev_loadB1 (i := 1) rfl rfl rfl) rfl rfl ?_) | (show opsA _ _ _ _ (⟨_, .indexAddr _ _ _, _, _, _, _⟩ :: _) _ _; refine O_ev WideF.wide rfl (Ev_indexAddr rfl rfl (by omega) (by omega)) rfl rfl ?_) | (show opsA _ _ _ _ (⟨_, .fieldAddr _ _ _, _, _, _, _⟩ :: _) _ _; refine O_ev WideF.wide rfl (Ev_fieldAddr rfl rfl rfl) rfl rfl ?_) | (show opsA _ _ _ _ (⟨_, .call _, _, _, _, _⟩ :: _) _ _; refine O_ev WideF.wide rfl (Ev_llen rfl) rfl rfl ?_) | (show opsA _ _ _ _ (⟨_, .binOp _ _ _ _ _, _, _, _, _⟩ :: _) _ _; refine O_ev WideF.wide rfl (Ev_add rfl rfl (wi64 (by omega))) rfl rfl ?_) | (show opsA _ _ _ _ (⟨_, .unOp _ _ _, _, _, _, _⟩ :: _) _ _; refine O_ev WideF.wide rfl (Ev_notb rfl) rfl rfl ?_) | (show opsA _ _ _ _ (⟨_, .alloc _, _, _, _, _⟩ :: _) _ _; (refine O_ef rfl (Ef_alloc WideF.wide rfl ?_); intro b)) | (show opsA _ _ _ _ (⟨_, .store _ _ _, _, _, _, _⟩ :: _) _ _; refine O_ef rfl (Ef_storew WideF.wide rfl rfl rfl rfl rfl ?_))) | (show wpA _ _ _ (.cond _ _ _) _ _ _ _; first | (refine A_if rfl (fun h => ?_) (fun h => ?_) <;> try (exfalso; omega)) | refine A_iffalse rfl ?_))
              refine Shift.to ⟨_, ?_, i + 1, _, _, _, p3, rfl, by omega, hnp, ?_, rfl⟩ ⟨rfl, rfl, rfl, ⟨rfl, rfl, rfl, rfl, trivial⟩, Own.subi [1, 2, 3, 4, 5] (by decide) rfl rfl⟩
              · omega
              · rw [hsn, hpush]; exact hpp
        | false =>
          have hyi : (q.layers.map Layr.norm)[i]? = some ⟨zr, zk, 0, false⟩ := by rw [List.getElem?_map, hzi]; rfl
          have hsn : ordL 80 leL ((q.layers.map Layr.norm).take (i + 1)) = pushO leL (ordL 80 leL ((q.layers.map Layr.norm).take i)) ⟨zr, zk, 0, false⟩ := by rw [take_get hyi, ordL_snoc]; unfold stepO; rw [if_pos (by omega)]
          generalize hO : ordL 80 leL ((q.layers.map Layr.norm).take i) = O at hpp hpl hsn
          by_cases hz : n3 = 0
          · have hnil : O = [] := List.length_eq_zero_iff.1 (by omega)
            have hpush : pushO leL O ⟨zr, zk, 0, false⟩ = O ++ [⟨zr, zk, 0, false⟩] := by rw [hnil]; rfl
            repeat' (first | (refine O_ev WideF.wide rfl (Ev_loadH1 rfl (hb1 4 _ rfl)) rfl rfl ?_) | (refine O_ev WideF.wide rfl (Ev_loadH rfl hcy rfl) rfl rfl ?_) | (refine A_drawL WideF.wide (.q 0 (.q 1 (.q 2 (.q 3 (.q 4 (.q 5 (.q 6 (.q 7 (.q 8 (.q 9 (.q 10 (.q 11 (.q 12 (.q 13 (.q 14 (.done [])))))))))))))))) [] (by decide +kernel) ?_) | (refine O_f5 (O_ef rfl (Ef_appendR WideF.wide rfl rfl rfl rfl rfl (by simp; omega) (by simp; omega) rfl ?_)); intro a cp) | refine O_nil ?_ | refine A_seq ?_ | refine A_region ?_ | refine A_skip ?_ | refine A_block ?_ | (show drJ _ _ _ _ _ _ _ (.q _ _) _; refine D_q rfl ?_) | (show drJ _ _ _ _ _ _ _ (.done _) _; refine D_done ?_; simp only [List.cons_append, List.nil_append]) | (show drQ _ _ _ _ _ _; first | (refine D_split rfl rfl (fun h => ?_) (fun h => ?_) <;> try (exfalso; omega)) | refine D_ev rfl (Ev_pure rfl) rfl rfl ?_ | refine D_skip rfl rfl rfl ?_) | (show opsA _ _ _ _ _ _ _; first | refine O_ev WideF.wide rfl (Ev_pure rfl) rfl rfl ?_ | (show opsA _ _ _ _ (⟨_, .load _ _, _, _, _, _⟩ :: _) _ _; first | refine O_ev WideF.wide rfl (Ev_loadB1 (i := 0) rfl rfl rfl) rfl rfl ?_ | refine O_ev WideF.wide rfl (Ev_loadB1 (i := 1) rfl rfl rfl) rfl rfl ?_ | refine O_ev WideF.wide rfl (Ev_loadB (i := 0) rfl rfl rfl) rfl rfl ?_) | (show opsA _ _ _ _ (⟨_, .indexAddr _ _ _, _, _, _, _⟩ :: _) _ _; refine O_ev WideF.wide rfl (Ev_indexAddr rfl rfl (by omega) (by omega)) rfl rfl ?_) | (show opsA _ _ _ _ (⟨_, .fieldAddr _ _ _, _, _, _, _⟩ :: _) _ _; refine O_ev WideF.wide rfl (Ev_fieldAddr rfl rfl rfl) rfl rfl ?_) | (show opsA _ _ _ _ (⟨_, .call _, _, _, _, _⟩ :: _) _ _; refine O_ev WideF.wide rfl (Ev_llen rfl) rfl rfl ?_) | (show opsA _ _ _ _ (⟨_, .buildSlice _ _ _, _, _, _, _⟩ :: _) _ _; (refine O_ef rfl (Ef_build1a WideF.wide rfl rfl rfl rfl rfl ?_); intro b)) | (show opsA _ _ _ _ (⟨_, .binOp _ _ _ _ _, _, _, _, _⟩ :: _) _ _; refine O_ev WideF.wide rfl (Ev_add rfl rfl (wi64 (by omega))) rfl rfl ?_) | (show opsA _ _ _ _ (⟨_, .unOp _ _ _, _, _, _, _⟩ :: _) _ _; refine O_ev WideF.wide rfl (Ev_notb rfl) rfl rfl ?_) | (show opsA _ _ _ _ (⟨_, .alloc _, _, _, _, _⟩ :: _) _ _; (refine O_ef rfl (Ef_alloc WideF.wide rfl ?_); intro b)) | (show opsA _ _ _ _ (⟨_, .store _ _ _, _, _, _, _⟩ :: _) _ _; first | refine O_ef rfl (Ef_storew WideF.wide rfl rfl rfl rfl rfl ?_) | refine O_ef rfl (Ef_store1 WideF.wide rfl rfl rfl rfl rfl ?_) | refine O_f2 (O_ef rfl (Ef_store1 WideF.wide rfl rfl rfl rfl rfl ?_)))) | (show wpA _ _ _ (.cond _ _ _) _ _ _ _; first | (refine A_if rfl (fun h => ?_) (fun h => ?_) <;> try (exfalso; omega)) | refine A_iftrue rfl ?_))
            refine Shift.to ⟨_, ?_, i + 1, _, _, _, p3 ++ [lrow ⟨zr, zk, 0, false⟩], rfl, by omega, rfl, ?_, rfl⟩ ⟨rfl, rfl, rfl, ⟨rfl, rfl, rfl, rfl, trivial⟩, Own.subi [0, 3, 4, 1, 5] (by decide) rfl rfl⟩
            · omega
            · rw [hsn, hpush, List.map_append, ← hpp]; rfl
          · refine A_rowaddr (q := 3) rfl ?_
            intro r1 r2 r3 r4 r5
            obtain ⟨sb, rfl⟩ : ∃ sb, a3 = some ⟨sb, 0, none⟩ := by
              cases a3 with
              | none => have := (r3 rfl).1; rw [this] at r1; simp at r1; omega
              | some ad => obtain ⟨sb, rfl⟩ := r5 _ rfl; exact ⟨sb, rfl⟩
            obtain ⟨u, hu⟩ : ∃ u, O[n3 - 1]? = some u := ⟨_, List.getElem?_eq_getElem (by omega)⟩
            have hget : p3[n3 - 1]? = some (lrow u) := by rw [hpp, List.getElem?_map, hu]; rfl
            have hlast : O[O.length - 1]? = some u := by rw [← hu]; congr 1; omega
            by_cases hk : u.key ≤ zk
            · have hpush : pushO leL O ⟨zr, zk, 0, false⟩ = O ++ [⟨zr, zk, 0, false⟩] := by unfold pushO; rw [hlast]; simp [leL, hk]
              repeat' (first | (refine O_ev WideF.wide rfl (Ev_loadH1 rfl (hb1 4 _ rfl)) rfl rfl ?_) | (refine O_ev WideF.wide rfl (Ev_loadH rfl hcy rfl) rfl rfl ?_) | (refine A_drawL WideF.wide (.q 0 (.q 1 (.q 2 (.q 3 (.q 4 (.q 5 (.q 6 (.q 7 (.q 8 (.q 9 (.q 10 (.q 11 (.q 12 (.q 13 (.q 14 (.done [])))))))))))))))) [] (by decide +kernel) ?_) | (refine D_ev rfl (Ev_loadR1 (q := 4) (d := 1) rfl rfl hget (by omega) rfl) rfl rfl ?_) | (refine O_f5 (O_ef rfl (Ef_appendR WideF.wide rfl rfl rfl rfl rfl (by simp; omega) (by simp; omega) rfl ?_)); intro a cp) | refine O_nil ?_ | refine A_seq ?_ | refine A_region ?_ | refine A_skip ?_ | refine A_block ?_ | (show drJ _ _ _ _ _ _ _ (.q _ _) _; refine D_q rfl ?_) | (show drJ _ _ _ _ _ _ _ (.done _) _; refine D_done ?_; simp only [List.cons_append, List.nil_append]) | (show drQ _ _ _ _ _ _; first | (refine D_split rfl rfl (fun h => ?_) (fun h => ?_) <;> try (exfalso; omega)) | refine D_ev rfl (Ev_pure rfl) rfl rfl ?_ | (show drQ _ _ _ ⟨_, .load _ _, _, _, _, _⟩ _ _; first | refine D_ev rfl (Ev_loadB1 (i := 0) rfl rfl rfl) rfl rfl ?_ | refine D_ev rfl (Ev_loadB1 (i := 1) rfl rfl rfl) rfl rfl ?_) | (show drQ _ _ _ ⟨_, .indexAddr _ _ _, _, _, _, _⟩ _ _; refine D_ev rfl (Ev_indexAddr rfl rfl (by omega) (by omega)) rfl rfl ?_) | (show drQ _ _ _ ⟨_, .fieldAddr _ _ _, _, _, _, _⟩ _ _; refine D_ev rfl (Ev_fieldAddr rfl rfl rfl) rfl rfl ?_) | (show drQ _ _ _ ⟨_, .binOp _ _ _ _ _, _, _, _, _⟩ _ _; refine D_ev rfl (Ev_sub rfl rfl (wi64 (by omega))) rfl rfl ?_)) | (show opsA _ _ _ _ _ _ _; first | refine O_ev WideF.wide rfl (Ev_pure rfl) rfl rfl ?_ | (show opsA _ _ _ _ (⟨_, .load _ _, _, _, _, _⟩ :: _) _ _; first | refine O_ev WideF.wide rfl (Ev_loadB1 (i := 0) rfl rfl rfl) rfl rfl ?_ | refine O_ev WideF.wide rfl (Ev_loadB1 (i := 1) rfl rfl rfl) rfl rfl ?_ | refine O_ev WideF.wide rfl (Ev_loadB (i := 0) rfl rfl rfl) rfl rfl ?_) | (show opsA _ _ _ _ (⟨_, .indexAddr _ _ _, _, _, _, _⟩ :: _) _ _; refine O_ev WideF.wide rfl (Ev_indexAddr rfl rfl (by omega) (by omega)) rfl rfl ?_) | (show opsA _ _ _ _ (⟨_, .fieldAddr _ _ _, _, _, _, _⟩ :: _) _ _; refine O_ev WideF.wide rfl (Ev_fieldAddr rfl rfl rfl) rfl rfl ?_) | (show opsA _ _ _ _ (⟨_, .call _, _, _, _, _⟩ :: _) _ _; refine O_ev WideF.wide rfl (Ev_llen rfl) rfl rfl ?_) | (show opsA _ _ _ _ (⟨_, .buildSlice _ _ _, _, _, _, _⟩ :: _) _ _; (refine O_ef rfl (Ef_build1a WideF.wide rfl rfl rfl rfl rfl ?_); intro b)) | (show opsA _ _ _ _ (⟨_, .binOp _ _ _ _ _, _, _, _, _⟩ :: _) _ _; refine O_ev WideF.wide rfl (Ev_add rfl rfl (wi64 (by omega))) rfl rfl ?_) | (show opsA _ _ _ _ (⟨_, .unOp _ _ _, _, _, _, _⟩ :: _) _ _; refine O_ev WideF.wide rfl (Ev_notb rfl) rfl rfl ?_) | (show opsA _ _ _ _ (⟨_, .alloc _, _, _, _, _⟩ :: _) _ _; (refine O_ef rfl (Ef_alloc WideF.wide rfl ?_); intro b)) | (show opsA _ _ _ _ (⟨_, .store _ _ _, _, _, _, _⟩ :: _) _ _; first | refine O_ef rfl (Ef_storew WideF.wide rfl rfl rfl rfl rfl ?_) | refine O_ef rfl (Ef_store1 WideF.wide rfl rfl rfl rfl rfl ?_) | refine O_f2 (O_ef rfl (Ef_store1 WideF.wide rfl rfl rfl rfl rfl ?_)))) | (show wpA _ _ _ (.cond _ _ _) _ _ _ _; first | (refine A_if rfl (fun h => ?_) (fun h => ?_) <;> try (exfalso; omega)) | refine A_iftrue rfl ?_))
              refine Shift.to ⟨_, ?_, i + 1, _, _, _, p3 ++ [lrow ⟨zr, zk, 0, false⟩], rfl, by omega, rfl, ?_, rfl⟩ ⟨rfl, rfl, rfl, ⟨rfl, rfl, rfl, rfl, trivial⟩, Own.subi [0, 3, 4, 1, 5] (by decide) rfl rfl⟩
              · omega
              · rw [hsn, hpush, List.map_append, ← hpp]; rfl
            · have hpush : pushO leL O ⟨zr, zk, 0, false⟩ = O := by unfold pushO; rw [hlast]; simp [leL]; omega
              repeat' (first | (refine O_ev WideF.wide rfl (Ev_loadH1 rfl (hb1 4 _ rfl)) rfl rfl ?_) | (refine O_ev WideF.wide rfl (Ev_loadH rfl hcy rfl) rfl rfl ?_) | (refine A_drawL WideF.wide (.q 0 (.q 1 (.q 2 (.q 3 (.q 4 (.q 5 (.q 6 (.q 7 (.q 8 (.q 9 (.q 10 (.q 11 (.q 12 (.q 13 (.q 14 (.done [])))))))))))))))) [] (by decide +kernel) ?_) | (refine D_ev rfl (Ev_loadR1 (q := 4) (d := 1) rfl rfl hget (by omega) rfl) rfl rfl ?_) | refine O_nil ?_ | refine A_seq ?_ | refine A_region ?_ | refine A_skip ?_ | refine A_block ?_ | (show drJ _ _ _ _ _ _ _ (.q _ _) _; refine D_q rfl ?_) | (show drJ _ _ _ _ _ _ _ (.done _) _; refine D_done ?_; simp only [List.cons_append, List.nil_append]) | (show drQ _ _ _ _ _ _; first | (refine D_split rfl rfl (fun h => ?_) (fun h => ?_) <;> try (exfalso; omega)) | refine D_ev rfl (Ev_pure rfl) rfl rfl ?_ | (show drQ _ _ _ ⟨_, .load _ _, _, _, _, _⟩ _ _; first | refine D_ev rfl (Ev_loadB1 (i := 0) rfl rfl rfl) rfl rfl ?_ | refine D_ev rfl (Ev_loadB1 (i := 1) rfl rfl rfl) rfl rfl ?_) | (show drQ _ _ _ ⟨_, .indexAddr _ _ _, _, _, _, _⟩ _ _; refine D_ev rfl (Ev_indexAddr rfl rfl (by omega) (by omega)) rfl rfl ?_) | (show drQ _ _ _ ⟨_, .fieldAddr _ _ _, _, _, _, _⟩ _ _; refine D_ev rfl (Ev_fieldAddr rfl rfl rfl) rfl rfl ?_) | (show drQ _ _ _ ⟨_, .binOp _ _ _ _ _, _, _, _, _⟩ _ _; refine D_ev rfl (Ev_sub rfl rfl (wi64 (by omega))) rfl rfl ?_)) | (show opsA _ _ _ _ _ _ _; first | refine O_ev WideF.wide rfl (Ev_pure rfl) rfl rfl ?_ | (show opsA _ _ _ _ (⟨_, .load _ _, _, _, _, _⟩ :: _) _ _; first | refine O_ev WideF.wide rfl (Ev_loadB1 (i := 0) rfl rfl rfl) rfl rfl ?_ | refine O_ev WideF.wide rfl (Ev_loadB1 (i := 1) rfl rfl rfl) rfl rfl ?_) | (show opsA _ _ _ _ (⟨_, .indexAddr _ _ _, _, _, _, _⟩ :: _) _ _; refine O_ev WideF.wide rfl (Ev_indexAddr rfl rfl (by omega) (by omega)) rfl rfl ?_) | (show opsA _ _ _ _ (⟨_, .fieldAddr _ _ _, _, _, _, _⟩ :: _) _ _; refine O_ev WideF.wide rfl (Ev_fieldAddr rfl rfl rfl) rfl rfl ?_) | (show opsA _ _ _ _ (⟨_, .call _, _, _, _, _⟩ :: _) _ _; refine O_ev WideF.wide rfl (Ev_llen rfl) rfl rfl ?_) | (show opsA _ _ _ _ (⟨_, .binOp _ _ _ _ _, _, _, _, _⟩ :: _) _ _; refine O_ev WideF.wide rfl (Ev_add rfl rfl (wi64 (by omega))) rfl rfl ?_) | (show opsA _ _ _ _ (⟨_, .unOp _ _ _, _, _, _, _⟩ :: _) _ _; refine O_ev WideF.wide rfl (Ev_notb rfl) rfl rfl ?_) | (show opsA _ _ _ _ (⟨_, .alloc _, _, _, _, _⟩ :: _) _ _; (refine O_ef rfl (Ef_alloc WideF.wide rfl ?_); intro b)) | (show opsA _ _ _ _ (⟨_, .store _ _ _, _, _, _, _⟩ :: _) _ _; first | refine O_ef rfl (Ef_storew WideF.wide rfl rfl rfl rfl rfl ?_) | refine O_ef rfl (Ef_store1 WideF.wide rfl rfl rfl rfl rfl ?_))) | (show wpA _ _ _ (.cond _ _ _) _ _ _ _; first | (refine A_if rfl (fun h => ?_) (fun h => ?_) <;> try (exfalso; omega)) | refine A_iftrue rfl ?_))
              refine Shift.to ⟨_, ?_, i + 1, _, _, _, p3, rfl, by omega, hnp, ?_, rfl⟩ ⟨rfl, rfl, rfl, ⟨rfl, rfl, rfl, rfl, trivial⟩, Own.subi [1, 2, 3, 4, 5] (by decide) rfl rfl⟩
              · omega
              · rw [hsn, hpush]; exact hpp
      · repeat' (first | (show wpA _ _ _ (.exit _) _ _ _ _; refine A_exit rfl ?_) | (show wpA _ _ _ (.cond _ _ _) _ _ _ _; (refine A_if rfl (fun h => ?_) (fun h => ?_) <;> try (exfalso; omega))))
        have hfull : ordL 80 leL (q.layers.map Layr.norm) = ordL 80 leL ((q.layers.map Layr.norm).take i) := by
          by_cases hib : i < ln
          · exact ordL_full _ i (by omega)
          · rw [List.take_of_length_le (by simp; omega)]
        exact Shift.to ⟨a3, n3, c3, p3, by rw [hfull]; exact hpp, rfl⟩ ⟨rfl, rfl, rfl, ⟨rfl, rfl, rfl, trivial⟩, Own.subi [0, 1, 2, 3, 4] (by decide) rfl rfl⟩
  rintro s ⟨a3, n3, c3, p3, hp3, rfl⟩
  repeat' (first | refine O_nil ?_ | refine A_seq ?_ | refine A_region ?_ | refine A_ret ?_ | (show opsA _ _ _ _ _ _ _; first | (show opsA _ _ _ _ (⟨_, .load _ _, _, _, _, _⟩ :: _) _ _; refine O_ev WideF.wide rfl (Ev_loadB (i := 0) rfl rfl rfl) rfl rfl ?_) | (show opsA _ _ _ _ (⟨_, .store _ _ _, _, _, _, _⟩ :: _) _ _; refine O_f4 (O_ef rfl (Ef_storew WideF.wide rfl rfl rfl rfl rfl ?_)))))
  first | (refine End_s (RetC rfl rfl (i := 0) rfl rfl) ?_) | (refine End_s (RetC rfl rfl (i := 1) rfl rfl) ?_)
  subst hmv
  refine Shift.lek ⟨174, [], H1, [.row (.slice a1 n1 c1) 2 p1, .row (.slice a2 n2 c2) 2 p2, .row (.slice a3 n3 c3) 4 p3], [], []⟩ ⟨rfl, rfl, rfl, trivial, Own.subi [2, 3, 4] (by decide) rfl rfl⟩ ?_
  refine Shift_freeze (by rw [hp1]; exact prow_one _) fun H2 hle2 hr1 => Shift_freeze (by rw [hp2]; exact drow_one _) fun H3 hle3 hr2 => Shift_freeze (by rw [hp3]; exact lrow_one _) fun H4 hle4 hr3 => Shift.pure ⟨rfl, ⟨_, rfl, ⟨⟨a1, n1, c1, a2, n2, c2, a3, n3, c3, rfl, ?_, ?_, ?_⟩⟩⟩, rfl⟩
  · exact (hr1.mono (hle3.trans hle4)).cong hp1.symm
  · exact (hr2.mono hle4).cong hp2.symm
  · exact hr3.cong hp3.symm
end Go.Proofs.Ythniohgeojenaaa
