/-
  The law's decide.
-/
import Derived.Test.YthniohgeojenaaaM15
namespace Go.Proofs.Ythniohgeojenaaa
open Go
set_option linter.unusedVariables false
set_option linter.unusedSimpArgs false
def leftG (rej : Int → Bool) (p : St) : List Layr → List St
  | [] => []
  | y :: r => if rej y.rev then leftG rej p r else nxt p r :: leftG rej p r
def revG (rej : Int → Bool) : List Layr → List Int
  | [] => []
  | y :: r => if rej y.rev then revG rej r else y.rev :: revG rej r
theorem left_len (rej : Int → Bool) (p : St) : ∀ l : List Layr, (leftG rej p l).length = (revG rej l).length
  | [] => rfl
  | y :: r => by rw [leftG, revG]; split <;> simp [left_len rej p r]
theorem revG_len (rej : Int → Bool) : ∀ l : List Layr, (revG rej l).length ≤ l.length
  | [] => Nat.le_refl _
  | y :: r => by have := revG_len rej r; rw [revG]; split <;> simp <;> omega
def lawR (acc rej : Int → Bool) (q : Head) (k : Int) : List Int := revG rej ((layersK q.layers k).drop (firstA acc (layersK q.layers k)))
def lawS (acc rej : Int → Bool) (q : Head) (k : Int) : List St := nxt (getP q.props k) ((layersK q.layers k).drop (firstA acc (layersK q.layers k))) :: leftG rej (getP q.props k) ((layersK q.layers k).drop (firstA acc (layersK q.layers k)))
theorem lawS_len (acc rej : Int → Bool) (q : Head) (k : Int) : (lawS acc rej q k).length = (lawR acc rej q k).length + 1 := by simp [lawS, lawR, left_len]
def lawZ (acc rej : Int → Bool) (q : Head) (k : Int) : St := (lawS acc rej q k).getD (lawR acc rej q k).length ⟨0, false⟩
def lawStep (acc rej : Int → Bool) (q : Head) (o : Head) (k : Int) : Head := layH o k (lawR acc rej q k) (lawS acc rej q k) (lawZ acc rej q k)
def law0 (acc rej : Int → Bool) (q : Head) : Head := ⟨q.props, insA acc q, movA acc q, q.dels.filter (fun d => !rej d.rev), q.layers⟩
def lawH (acc rej : Int → Bool) (q : Head) : Head := if goneB acc rej q then Head.none else (keysL q.layers).foldl (lawStep acc rej q) (law0 acc rej q)
def lawB (_acc rej : Int → Bool) (q : Head) : Bool := decide (q.ins ≠ 0) && rej q.ins
/-- what the law decides -/
def LawIs (acc rej : Int → Bool) (q : Head) (v : Value) (H : Hp) (I : Own) : Prop := (∃ cs, v = .tuple [.agg cs.toArray, .bool (!goneB acc rej q)].toArray ∧ HeadH H cs (lawH acc rej q)) ∧ I = []
theorem lawZ_at (acc rej : Int → Bool) (q : Head) (k : Int) : (lawS acc rej q k)[(lawR acc rej q k).length]? = some (lawZ acc rej q k) := by
  have h := lawS_len acc rej q k
  unfold lawZ
  rw [List.getD_eq_getElem?_getD, List.getElem?_eq_getElem (by omega)]; rfl
theorem lawR_len (acc rej : Int → Bool) (q : Head) (k : Int) : (lawR acc rej q k).length ≤ q.layers.length := by
  have h1 := revG_len rej ((layersK q.layers k).drop (firstA acc (layersK q.layers k)))
  have h2 : (layersK q.layers k).length ≤ q.layers.length := List.length_filter_le _ _
  unfold lawR
  rw [List.length_drop] at h1
  omega
theorem newL_len : ∀ (k : Int) (R : List Int) (S : List St), (newL k R S).length ≤ R.length
  | k, [], S => by simp [newL]
  | k, a :: R, [] => by simp [newL]
  | k, a :: R, b :: S => by have := newL_len k R S; simp [newL]; omega
theorem layLs_len (q : Head) (k : Int) (R : List Int) (S : List St) : (layLs q k R S).length ≤ q.layers.length + R.length := by
  have := newL_len k R S
  unfold layLs
  simp only [List.length_append, List.length_take, List.length_drop]
  omega
attribute [local irreducible] wpA opsA drJ drQ drE Ef Ev Shift Fn
abbrev wEnv (aa : Option Addr) (an ac : Nat) (ra : Option Addr) (rn rc : Nat) (b3 b6 b8 : Nat) : Env := [(1, .slice aa an ac), (2, .slice ra rn rc), (3, ptr b3), (6, ptr b6), (7, .bool false), (8, ptr b8)]
set_option maxRecDepth 100000 in
set_option maxHeartbeats 8000000 in
theorem lawDecide_fn {H : Hp} {hcs : List Value} {q : Head} {d : Dec} {aa : Option Addr} {an ac : Nat} {ra : Option Addr} {rn rc : Nat} (hh : HeadH H hcs q) (hs : IncP q.props) (hl : q.mass ≤ 4096) (hA : HRow H aa an ac 1 (d.acc.map irow)) (hR : HRow H ra rn rc 1 (d.rej.map irow)) (m1 : an < 1073741824) (m2 : rn < 1073741824) :
    Fn Try.prog 16 [.agg hcs.toArray, .slice aa an ac, .slice ra rn rc] H [] (LawIs d.accB d.rejB q) := by
  have hm := hl
  obtain ⟨pa, pn, pc, da, dn, dc, la, ln, lc, rfl, h1, h2, h3⟩ := hh.ex
  have l1 := h1.len
  have l2 := h2.len
  have l3 := h3.len
  simp only [List.length_map] at l1 l2 l3
  unfold Head.mass at hl
  refine Fn_of _ _ Try.func16 rfl Try.ntmps16 rfl fun c => ?_
  refine A_seq ?_
  refine A_cutu (fun s => ∃ b3 b6, s = ⟨163, [(1, .slice aa an ac), (2, .slice ra rn rc), (3, ptr b3), (6, ptr b6), (7, .bool false)], H, [.box b3 [.slice pa pn pc, .int .i64 q.ins, .int .i64 q.move, .slice da dn dc, .slice la ln lc], .box b6 zHead], [], []⟩) ?_ ?_
  · repeat' (first | refine O_nil ?_ | refine A_region ?_ | (show opsA _ _ _ _ _ _ _; first | refine O_ev WideF.wide rfl (Ev_pure rfl) rfl rfl ?_ | (show opsA _ _ _ _ (⟨_, .alloc _, _, _, _, _⟩ :: _) _ _; (refine O_ef rfl (Ef_alloc WideF.wide rfl ?_); intro b)) | (show opsA _ _ _ _ (⟨_, .box _ _, _, _, _, _⟩ :: _) _ _; (refine O_ef rfl (Ef_boxa WideF.wide rfl rfl ?_); intro b))))
    exact Shift.to ⟨_, _, rfl⟩ ⟨rfl, rfl, rfl, ⟨rfl, rfl, rfl, rfl, rfl, trivial⟩, Own.subi [1, 0] (by decide) rfl rfl⟩
  rintro s ⟨b3, b6, rfl⟩
  refine A_freezeBox (by intro u hu; simp at hu; rcases hu with rfl | rfl | rfl | rfl | rfl <;> rfl) ?_
  intro H1 hle1 hb3
  have hb31 : HCells H1 b3 (0 + 1) [.int .i64 q.ins, .int .i64 q.move, .slice da dn dc, .slice la ln lc] := fun j v hj => by have := hb3 (j + 1) v (by simpa using hj); rwa [Nat.add_assoc, Nat.add_comm 1 j]
  refine A_seq ?_
  refine A_cutu (fun s => ∃ b8, s = ⟨163, wEnv aa an ac ra rn rc b3 b6 b8, H1, [.box b8 [.int .i64 q.ins, .int .i64 q.move, .slice da dn dc, .slice la ln lc], .box b6 zHead], [], []⟩) ?_ ?_
  · repeat' (first | (refine O_ev WideF.wide rfl (Ev_loadH rfl hb31 rfl) rfl rfl ?_) | refine O_nil ?_ | refine A_region ?_ | (show opsA _ _ _ _ _ _ _; first | (show opsA _ _ _ _ (⟨_, .fieldAddr _ _ _, _, _, _, _⟩ :: _) _ _; refine O_ev WideF.wide rfl (Ev_fieldAddr rfl rfl rfl) rfl rfl ?_) | (show opsA _ _ _ _ (⟨_, .alloc _, _, _, _, _⟩ :: _) _ _; (refine O_ef rfl (Ef_alloc WideF.wide rfl ?_); intro b)) | (show opsA _ _ _ _ (⟨_, .store _ _ _, _, _, _, _⟩ :: _) _ _; refine O_ef rfl (Ef_storew WideF.wide rfl rfl rfl rfl rfl ?_))))
    exact Shift.to ⟨_, rfl⟩ ⟨rfl, rfl, rfl, ⟨rfl, rfl, rfl, rfl, rfl, rfl, trivial⟩, Own.subi [0, 1] (by decide) rfl rfl⟩
  rintro s ⟨b8, rfl⟩
  refine A_freezeBox (by intro u hu; simp at hu; rcases hu with rfl | rfl | rfl | rfl <;> rfl) ?_
  intro H2 hle2 hb8
  have hle02 := hle1.trans hle2
  have hb3 : HCells H2 b3 0 [.slice pa pn pc, .int .i64 q.ins, .int .i64 q.move, .slice da dn dc, .slice la ln lc] := fun j v hj => hle2 _ _ _ (hb3 j v hj)
  have h1 := h1.mono hle02
  have h2 := h2.mono hle02
  have h3 := h3.mono hle02
  have hA := hA.mono hle02
  have hR := hR.mono hle02
  have fa : ∀ H', HLe H2 H' → ∀ x, FnP Try.prog 40 [.slice aa an ac, .int .i64 x] H' (.bool (d.accB x)) := fun H' hle x => lhas_fn (hA.mono hle) (by omega)
  have fr : ∀ H', HLe H2 H' → ∀ x, FnP Try.prog 40 [.slice ra rn rc, .int .i64 x] H' (.bool (d.rejB x)) := fun H' hle x => lhas_fn (hR.mono hle) (by omega)
  generalize d.accB = acc at fa ⊢
  generalize d.rejB = rej at fr ⊢
  have hgone : goneB acc rej q = true → ∀ (H' : Hp), HeadH H' zHead (lawH acc rej q) := fun hg H' => by
    unfold lawH; rw [if_pos hg]
    exact ⟨⟨none, 0, 0, none, 0, 0, none, 0, 0, rfl, HRow.nil' _ _, HRow.nil' _ _, HRow.nil' _ _⟩⟩
  refine A_seq (A_seq ?_)
  refine A_cutu (fun s => s = ⟨163, (31, .bool (lawB rej rej q)) :: wEnv aa an ac ra rn rc b3 b6 b8, H2, [.box b6 zHead], [], []⟩) ?_ ?_
  · have fi := fr _ (HLe.refl _) q.ins
    by_cases hins : q.ins = 0
    · have hg : lawB rej rej q = false := by simp [lawB, hins]
      rw [hg]
      repeat' (first | (refine O_ev WideF.wide rfl (Ev_loadH1 rfl (hb8 0 _ rfl)) rfl rfl ?_) | refine O_nil ?_ | refine A_region ?_ | (show opsA _ _ _ _ _ _ _; first | (refine O_split rfl rfl (fun h => ?_) (fun h => ?_) <;> try (exfalso; omega)) | refine O_ev WideF.wide rfl (Ev_pure rfl) rfl rfl ?_ | (show opsA _ _ _ _ (⟨_, .fieldAddr _ _ _, _, _, _, _⟩ :: _) _ _; refine O_ev WideF.wide rfl (Ev_fieldAddr rfl rfl rfl) rfl rfl ?_) | refine O_skip WideF.wide rfl rfl rfl ?_))
      exact Shift.to rfl ⟨rfl, rfl, rfl, ⟨rfl, rfl, rfl, rfl, rfl, rfl, rfl, trivial⟩, Own.subi [0] (by decide) rfl rfl⟩
    · have hg : lawB rej rej q = rej q.ins := by simp [lawB, hins]
      rw [hg]
      repeat' (first | (refine O_ev WideF.wide rfl (Ev_loadH1 rfl (hb8 0 _ rfl)) rfl rfl ?_) | (refine O_ef rfl (Ef_callp WideF.wide fi ⟨rfl, rfl, trivial⟩ rfl ?_)) | refine O_nil ?_ | refine A_region ?_ | (show opsA _ _ _ _ _ _ _; first | (refine O_split rfl rfl (fun h => ?_) (fun h => ?_) <;> try (exfalso; omega)) | refine O_ev WideF.wide rfl (Ev_pure rfl) rfl rfl ?_ | (show opsA _ _ _ _ (⟨_, .fieldAddr _ _ _, _, _, _, _⟩ :: _) _ _; refine O_ev WideF.wide rfl (Ev_fieldAddr rfl rfl rfl) rfl rfl ?_)))
      exact Shift.to rfl ⟨rfl, rfl, rfl, ⟨rfl, rfl, rfl, rfl, rfl, rfl, rfl, trivial⟩, Own.subi [0] (by decide) rfl rfl⟩
  rintro s rfl
  refine A_ifb rfl (fun hg => ?_) (fun hg => ?_)
  · have hgo : goneB acc rej q = true := by unfold goneB; unfold lawB at hg; rw [hg]; rfl
    repeat' (first | refine O_nil ?_ | refine A_seq ?_ | refine A_region ?_ | refine A_ret ?_ | (show opsA _ _ _ _ _ _ _; first | refine O_ev WideF.wide rfl (Ev_pure rfl) rfl rfl ?_ | (show opsA _ _ _ _ (⟨_, .build _ _, _, _, _, _⟩ :: _) _ _; refine O_ev WideF.wide rfl (Ev_build (vs := []) trivial rfl) rfl rfl ?_) | (show opsA _ _ _ _ (⟨_, .store _ _ _, _, _, _, _⟩ :: _) _ _; refine O_ef rfl (Ef_storew WideF.wide rfl rfl rfl rfl rfl ?_))))
    refine End_e (RetT2 rfl rfl (i := 0) rfl rfl rfl) ?_
    unfold LawIs
    rw [hgo]
    exact ⟨⟨zHead, rfl, hgone hgo _⟩, rfl⟩
  have hgo : goneB acc rej q = q.dels.any (fun d => acc d.rev) := by unfold goneB; unfold lawB at hg; rw [hg]; rfl
  refine A_skip ?_
  refine A_nilrow 2 ?_
  refine A_seq ?_
  refine A_cutu (fun s => s = ⟨163, (9, .slice none 0 0) :: wEnv aa an ac ra rn rc b3 b6 b8, H2, [.row (.slice none 0 0) 2 [], .box b6 zHead], [], []⟩) ?_ ?_
  · repeat' (first | refine O_nil ?_ | refine A_region ?_ | (show opsA _ _ _ _ _ _ _; refine O_ev WideF.wide rfl (Ev_pure rfl) rfl rfl ?_))
    exact Shift.to rfl ⟨rfl, rfl, rfl, ⟨rfl, rfl, rfl, rfl, rfl, rfl, rfl, trivial⟩, Own.subi [0, 1] (by decide) rfl rfl⟩
  rintro s rfl
  refine A_seq ?_
  refine A_cutu (fun s => ∃ (a : Option Addr) (n c : Nat) (p : List (List Value)), q.dels.any (fun d => acc d.rev) = false ∧ p = (q.dels.filter (fun d => !rej d.rev)).map drow ∧ s = ⟨163, (9, .slice a n c) :: wEnv aa an ac ra rn rc b3 b6 b8, H2, [.row (.slice a n c) 2 p, .box b6 zHead], [], []⟩) ?_ ?_
  · repeat' (first | refine O_nil ?_ | refine A_seq ?_ | refine A_region ?_ | refine A_block ?_ | (show opsA _ _ _ _ _ _ _; refine O_ev WideF.wide rfl (Ev_pure rfl) rfl rfl ?_))
    refine A_loopu (fun m s => ∃ (i : Nat) (a : Option Addr) (n c : Nat) (p : List (List Value)), m = dn - i ∧ i ≤ dn ∧ p.length = n ∧ n ≤ i ∧ (∀ y ∈ q.dels.take i, acc y.rev = false) ∧ p = ((q.dels.take i).filter (fun d => !rej d.rev)).map drow ∧ s = ⟨163, (10, .int .i64 i) :: (9, .slice a n c) :: wEnv aa an ac ra rn rc b3 b6 b8, H2, [.row (.slice a n c) 2 p, .box b6 zHead], [], []⟩) ?_ ?_
    · exact Shift.to ⟨_, 0, none, 0, 0, [], rfl, by omega, rfl, by omega, fun y hy => by simp at hy, by simp, rfl⟩ ⟨rfl, rfl, rfl, ⟨rfl, rfl, rfl, rfl, rfl, rfl, rfl, rfl, trivial⟩, Own.subi [0, 1] (by decide) rfl rfl⟩
    · rintro m s ⟨i, a, n, cc, p, rfl, hi, hpn, hni, hall, hpp, rfl⟩
      by_cases hlt : i < dn
      · obtain ⟨b', o, y, rfl, hyi, hc⟩ := h2.atm i hlt
        have hcy := hc
        unfold drow at hcy
        have fay := fa _ (HLe.refl _) y.rev
        have fry := fr _ (HLe.refl _) y.rev
        cases hay : acc y.rev with
        | true =>
          rw [hay] at fay
          have hgo' : goneB acc rej q = true := by rw [hgo]; exact List.any_eq_true.2 ⟨y, List.mem_of_getElem? hyi, hay⟩
          repeat' (first | (refine O_ev WideF.wide rfl (Ev_loadH1 rfl (hb8 2 _ rfl)) rfl rfl ?_) | (refine O_ev WideF.wide rfl (Ev_loadH1 rfl (hc 0 _ rfl)) rfl rfl ?_) | (refine O_ef rfl (Ef_callp WideF.wide fay ⟨rfl, rfl, trivial⟩ rfl ?_)) | refine O_nil ?_ | refine A_seq ?_ | refine A_region ?_ | refine A_skip ?_ | refine A_ret ?_ | refine A_block ?_ | (show opsA _ _ _ _ _ _ _; first | refine O_ev WideF.wide rfl (Ev_pure rfl) rfl rfl ?_ | (show opsA _ _ _ _ (⟨_, .indexAddr _ _ _, _, _, _, _⟩ :: _) _ _; refine O_ev WideF.wide rfl (Ev_indexAddr rfl rfl (by omega) (by omega)) rfl rfl ?_) | (show opsA _ _ _ _ (⟨_, .fieldAddr _ _ _, _, _, _, _⟩ :: _) _ _; refine O_ev WideF.wide rfl (Ev_fieldAddr rfl rfl rfl) rfl rfl ?_) | (show opsA _ _ _ _ (⟨_, .call _, _, _, _, _⟩ :: _) _ _; refine O_ev WideF.wide rfl (Ev_llen rfl) rfl rfl ?_) | (show opsA _ _ _ _ (⟨_, .build _ _, _, _, _, _⟩ :: _) _ _; refine O_ev WideF.wide rfl (Ev_build (vs := []) trivial rfl) rfl rfl ?_) | (show opsA _ _ _ _ (⟨_, .store _ _ _, _, _, _, _⟩ :: _) _ _; refine O_f1 (O_ef rfl (Ef_storew WideF.wide rfl rfl rfl rfl rfl ?_)))) | (show wpA _ _ _ (.cond _ _ _) _ _ _ _; first | (refine A_if rfl (fun h => ?_) (fun h => ?_) <;> try (exfalso; omega)) | refine A_iftrue rfl ?_))
          first | (refine End_e (RetT2 rfl rfl (i := 0) rfl rfl rfl) ?_) | (refine End_e (RetT2 rfl rfl (i := 1) rfl rfl rfl) ?_)
          unfold LawIs
          rw [hgo']
          exact ⟨⟨zHead, rfl, hgone hgo' _⟩, rfl⟩
        | false =>
          rw [hay] at fay
          have hall' : ∀ z ∈ q.dels.take (i + 1), acc z.rev = false := by
            intro z hz
            rw [take_get hyi] at hz
            rcases List.mem_append.1 hz with hz | hz
            · exact hall z hz
            · simp at hz; subst hz; exact hay
          cases hry : rej y.rev with
          | true =>
            rw [hry] at fry
            repeat' (first | (refine O_ev WideF.wide rfl (Ev_loadH1 rfl (hb8 2 _ rfl)) rfl rfl ?_) | (refine O_ev WideF.wide rfl (Ev_loadH1 rfl (hc 0 _ rfl)) rfl rfl ?_) | (refine O_ef rfl (Ef_callp WideF.wide fay ⟨rfl, rfl, trivial⟩ rfl ?_)) | (refine O_ef rfl (Ef_callp WideF.wide fry ⟨rfl, rfl, trivial⟩ rfl ?_)) | refine O_nil ?_ | refine A_seq ?_ | refine A_region ?_ | refine A_skip ?_ | refine A_block ?_ | (show opsA _ _ _ _ _ _ _; first | refine O_ev WideF.wide rfl (Ev_pure rfl) rfl rfl ?_ | (show opsA _ _ _ _ (⟨_, .indexAddr _ _ _, _, _, _, _⟩ :: _) _ _; refine O_ev WideF.wide rfl (Ev_indexAddr rfl rfl (by omega) (by omega)) rfl rfl ?_) | (show opsA _ _ _ _ (⟨_, .fieldAddr _ _ _, _, _, _, _⟩ :: _) _ _; refine O_ev WideF.wide rfl (Ev_fieldAddr rfl rfl rfl) rfl rfl ?_) | (show opsA _ _ _ _ (⟨_, .call _, _, _, _, _⟩ :: _) _ _; refine O_ev WideF.wide rfl (Ev_llen rfl) rfl rfl ?_) | (show opsA _ _ _ _ (⟨_, .binOp _ _ _ _ _, _, _, _, _⟩ :: _) _ _; refine O_ev WideF.wide rfl (Ev_add rfl rfl (wi64 (by omega))) rfl rfl ?_) | (show opsA _ _ _ _ (⟨_, .unOp _ _ _, _, _, _, _⟩ :: _) _ _; refine O_ev WideF.wide rfl (Ev_notb rfl) rfl rfl ?_)) | (show wpA _ _ _ (.cond _ _ _) _ _ _ _; first | (refine A_if rfl (fun h => ?_) (fun h => ?_) <;> try (exfalso; omega)) | refine A_iffalse rfl ?_))
            refine Shift.to ⟨_, ?_, i + 1, a, n, cc, p, rfl, by omega, hpn, by omega, hall', by rw [take_get hyi, List.filter_append, hpp]; simp [hry], rfl⟩ ⟨rfl, rfl, rfl, ⟨rfl, rfl, rfl, rfl, rfl, rfl, rfl, rfl, trivial⟩, Own.subi [0, 1] (by decide) rfl rfl⟩
            omega
          | false =>
            rw [hry] at fry
            repeat' (first | (refine O_ev WideF.wide rfl (Ev_loadH1 rfl (hb8 2 _ rfl)) rfl rfl ?_) | (refine O_ev WideF.wide rfl (Ev_loadH1 rfl (hc 0 _ rfl)) rfl rfl ?_) | (refine O_ef rfl (Ef_callp WideF.wide fay ⟨rfl, rfl, trivial⟩ rfl ?_)) | (refine O_ef rfl (Ef_callp WideF.wide fry ⟨rfl, rfl, trivial⟩ rfl ?_)) | (refine O_ev WideF.wide rfl (Ev_loadH rfl hcy rfl) rfl rfl ?_) | refine O_nil ?_ | refine A_seq ?_ | refine A_region ?_ | refine A_skip ?_ | refine A_block ?_ | (show opsA _ _ _ _ _ _ _; first | refine O_ev WideF.wide rfl (Ev_pure rfl) rfl rfl ?_ | (show opsA _ _ _ _ (⟨_, .indexAddr _ _ _, _, _, _, _⟩ :: _) _ _; refine O_ev WideF.wide rfl (Ev_indexAddr rfl rfl (by omega) (by omega)) rfl rfl ?_) | (show opsA _ _ _ _ (⟨_, .fieldAddr _ _ _, _, _, _, _⟩ :: _) _ _; refine O_ev WideF.wide rfl (Ev_fieldAddr rfl rfl rfl) rfl rfl ?_) | (show opsA _ _ _ _ (⟨_, .call _, _, _, _, _⟩ :: _) _ _; first | refine O_ev WideF.wide rfl (Ev_llen rfl) rfl rfl ?_ | (refine O_f1 (O_ef rfl (Ef_appendR WideF.wide rfl rfl rfl rfl rfl (by simp; omega) (by simp; omega) rfl ?_)); intro a cp)) | (show opsA _ _ _ _ (⟨_, .buildSlice _ _ _, _, _, _, _⟩ :: _) _ _; (refine O_ef rfl (Ef_build1a WideF.wide rfl rfl rfl rfl rfl ?_); intro b)) | (show opsA _ _ _ _ (⟨_, .binOp _ _ _ _ _, _, _, _, _⟩ :: _) _ _; refine O_ev WideF.wide rfl (Ev_add rfl rfl (wi64 (by omega))) rfl rfl ?_) | (show opsA _ _ _ _ (⟨_, .unOp _ _ _, _, _, _, _⟩ :: _) _ _; refine O_ev WideF.wide rfl (Ev_notb rfl) rfl rfl ?_)) | (show wpA _ _ _ (.cond _ _ _) _ _ _ _; first | (refine A_if rfl (fun h => ?_) (fun h => ?_) <;> try (exfalso; omega)) | refine A_iftrue rfl ?_ | refine A_iffalse rfl ?_))
            refine Shift.to ⟨_, ?_, i + 1, _, _, _, p ++ [drow y], rfl, by omega, rfl, by simp; omega, hall', by rw [take_get hyi, List.filter_append, hpp]; simp [hry], rfl⟩ ⟨rfl, rfl, rfl, ⟨rfl, rfl, rfl, rfl, rfl, rfl, rfl, rfl, trivial⟩, Own.subi [0, 1] (by decide) rfl rfl⟩
            omega
      · have hin : dn = i := by omega
        subst hin
        rw [List.take_of_length_le (by omega)] at hpp hall
        repeat' (first | (refine O_ev WideF.wide rfl (Ev_loadH1 rfl (hb8 2 _ rfl)) rfl rfl ?_) | refine O_nil ?_ | refine A_seq ?_ | refine A_region ?_ | (show opsA _ _ _ _ _ _ _; first | refine O_ev WideF.wide rfl (Ev_pure rfl) rfl rfl ?_ | (show opsA _ _ _ _ (⟨_, .fieldAddr _ _ _, _, _, _, _⟩ :: _) _ _; refine O_ev WideF.wide rfl (Ev_fieldAddr rfl rfl rfl) rfl rfl ?_) | (show opsA _ _ _ _ (⟨_, .call _, _, _, _, _⟩ :: _) _ _; refine O_ev WideF.wide rfl (Ev_llen rfl) rfl rfl ?_)) | (show wpA _ _ _ (.exit _) _ _ _ _; refine A_exit rfl ?_) | (show wpA _ _ _ (.cond _ _ _) _ _ _ _; (refine A_if rfl (fun h => ?_) (fun h => ?_) <;> try (exfalso; omega))))
        exact Shift.to ⟨a, n, cc, p, List.any_eq_false.2 (fun y hy => by simp [hall y hy]), hpp, rfl⟩ ⟨rfl, rfl, rfl, ⟨rfl, rfl, rfl, rfl, rfl, rfl, rfl, trivial⟩, Own.subi [0, 1] (by decide) rfl rfl⟩
  rintro s ⟨ea, en, ec, ep, hany, hep, rfl⟩
  have hno : goneB acc rej q = false := by rw [hgo]; exact hany
  refine A_freeze (by rw [hep]; exact drow_one _) ?_
  intro H3 hle3 hrd
  have hrd := hrd.cong hep.symm
  have hle03 := hle02.trans hle3
  have hb3 : HCells H3 b3 0 [.slice pa pn pc, .int .i64 q.ins, .int .i64 q.move, .slice da dn dc, .slice la ln lc] := fun j v hj => hle3 _ _ _ (hb3 j v hj)
  have hb8 : HCells H3 b8 0 [.int .i64 q.ins, .int .i64 q.move, .slice da dn dc, .slice la ln lc] := fun j v hj => hle3 _ _ _ (hb8 j v hj)
  have h1 := h1.mono hle3
  have h2 := h2.mono hle3
  have h3 := h3.mono hle3
  refine A_seq ?_
  refine A_cutu (fun s => ∃ b11, s = ⟨163, (11, ptr b11) :: (9, .slice ea en ec) :: wEnv aa an ac ra rn rc b3 b6 b8, H3, [.box b11 [.slice pa pn pc, .int .i64 q.ins, .int .i64 q.move, .slice da dn dc, .slice la ln lc], .box b6 zHead], [], []⟩) ?_ ?_
  · repeat' (first | (refine O_ev WideF.wide rfl (Ev_loadH rfl hb3 rfl) rfl rfl ?_) | refine O_nil ?_ | refine A_region ?_ | (show opsA _ _ _ _ _ _ _; first | (show opsA _ _ _ _ (⟨_, .alloc _, _, _, _, _⟩ :: _) _ _; (refine O_ef rfl (Ef_alloc WideF.wide rfl ?_); intro b)) | (show opsA _ _ _ _ (⟨_, .store _ _ _, _, _, _, _⟩ :: _) _ _; refine O_ef rfl (Ef_storew WideF.wide rfl rfl rfl rfl rfl ?_))))
    exact Shift.to ⟨_, rfl⟩ ⟨rfl, rfl, rfl, ⟨rfl, rfl, rfl, rfl, rfl, rfl, rfl, rfl, trivial⟩, Own.subi [0, 1] (by decide) rfl rfl⟩
  rintro s ⟨b11, rfl⟩
  refine A_seq ?_
  refine A_cutu (fun s => s = ⟨163, (11, ptr b11) :: wEnv aa an ac ra rn rc b3 b6 b8, H3, [.box b11 [.slice pa pn pc, .int .i64 q.ins, .int .i64 q.move, .slice ea en ec, .slice la ln lc], .box b6 zHead], [], []⟩) ?_ ?_
  · repeat' (first | refine O_nil ?_ | refine A_region ?_ | (show opsA _ _ _ _ _ _ _; first | refine O_ev WideF.wide rfl (Ev_pure rfl) rfl rfl ?_ | (show opsA _ _ _ _ (⟨_, .fieldAddr _ _ _, _, _, _, _⟩ :: _) _ _; refine O_ev WideF.wide rfl (Ev_fieldAddr rfl rfl rfl) rfl rfl ?_) | (show opsA _ _ _ _ (⟨_, .store _ _ _, _, _, _, _⟩ :: _) _ _; refine O_ef rfl (Ef_store1 WideF.wide rfl rfl rfl rfl rfl ?_))))
    exact Shift.to rfl ⟨rfl, rfl, rfl, ⟨rfl, rfl, rfl, rfl, rfl, rfl, rfl, trivial⟩, Own.subi [0, 1] (by decide) rfl rfl⟩
  rintro s rfl
  refine A_seq ?_
  refine A_cutu (fun s => s = ⟨163, (11, ptr b11) :: wEnv aa an ac ra rn rc b3 b6 b8, H3, [.box b11 [.slice pa pn pc, .int .i64 (insA acc q), .int .i64 (movA acc q), .slice ea en ec, .slice la ln lc], .box b6 zHead], [], []⟩) ?_ ?_
  · have fi := fa _ hle3 q.ins
    by_cases hins : q.ins = 0
    · have e1 : insA acc q = q.ins := by simp [insA, hins]
      have e2 : movA acc q = q.move := by simp [movA, hins]
      rw [e1, e2]
      repeat' (first | (refine O_ev WideF.wide rfl (Ev_loadH1 rfl (hb8 0 _ rfl)) rfl rfl ?_) | refine O_nil ?_ | refine A_seq ?_ | refine A_region ?_ | refine A_skip ?_ | (show opsA _ _ _ _ _ _ _; first | (refine O_split rfl rfl (fun h => ?_) (fun h => ?_) <;> try (exfalso; omega)) | refine O_ev WideF.wide rfl (Ev_pure rfl) rfl rfl ?_ | (show opsA _ _ _ _ (⟨_, .fieldAddr _ _ _, _, _, _, _⟩ :: _) _ _; refine O_ev WideF.wide rfl (Ev_fieldAddr rfl rfl rfl) rfl rfl ?_) | refine O_skip WideF.wide rfl rfl rfl ?_) | (show wpA _ _ _ (.cond _ _ _) _ _ _ _; refine A_iffalse rfl ?_))
      exact Shift.to rfl ⟨rfl, rfl, rfl, ⟨rfl, rfl, rfl, rfl, rfl, rfl, rfl, trivial⟩, Own.subi [0, 1] (by decide) rfl rfl⟩
    · cases hr : acc q.ins with
      | false =>
        rw [hr] at fi
        have e1 : insA acc q = q.ins := by simp [insA, hr]
        have e2 : movA acc q = q.move := by simp [movA, hr]
        rw [e1, e2]
        repeat' (first | (refine O_ev WideF.wide rfl (Ev_loadH1 rfl (hb8 0 _ rfl)) rfl rfl ?_) | (refine O_ef rfl (Ef_callp WideF.wide fi ⟨rfl, rfl, trivial⟩ rfl ?_)) | refine O_nil ?_ | refine A_seq ?_ | refine A_region ?_ | refine A_skip ?_ | (show opsA _ _ _ _ _ _ _; first | (refine O_split rfl rfl (fun h => ?_) (fun h => ?_) <;> try (exfalso; omega)) | refine O_ev WideF.wide rfl (Ev_pure rfl) rfl rfl ?_ | (show opsA _ _ _ _ (⟨_, .fieldAddr _ _ _, _, _, _, _⟩ :: _) _ _; refine O_ev WideF.wide rfl (Ev_fieldAddr rfl rfl rfl) rfl rfl ?_)) | (show wpA _ _ _ (.cond _ _ _) _ _ _ _; refine A_iffalse rfl ?_))
        exact Shift.to rfl ⟨rfl, rfl, rfl, ⟨rfl, rfl, rfl, rfl, rfl, rfl, rfl, trivial⟩, Own.subi [0, 1] (by decide) rfl rfl⟩
      | true =>
        rw [hr] at fi
        have e1 : insA acc q = 0 := by simp [insA, hr, hins]
        have e2 : movA acc q = 0 := by simp [movA, hr, hins]
        rw [e1, e2]
        repeat' (first | (refine O_ev WideF.wide rfl (Ev_loadH1 rfl (hb8 0 _ rfl)) rfl rfl ?_) | (refine O_ef rfl (Ef_callp WideF.wide fi ⟨rfl, rfl, trivial⟩ rfl ?_)) | refine O_nil ?_ | refine A_seq ?_ | refine A_region ?_ | (show opsA _ _ _ _ _ _ _; first | (refine O_split rfl rfl (fun h => ?_) (fun h => ?_) <;> try (exfalso; omega)) | refine O_ev WideF.wide rfl (Ev_pure rfl) rfl rfl ?_ | (show opsA _ _ _ _ (⟨_, .fieldAddr _ _ _, _, _, _, _⟩ :: _) _ _; refine O_ev WideF.wide rfl (Ev_fieldAddr rfl rfl rfl) rfl rfl ?_) | (show opsA _ _ _ _ (⟨_, .store _ _ _, _, _, _, _⟩ :: _) _ _; refine O_ef rfl (Ef_store1 WideF.wide rfl rfl rfl rfl rfl ?_))) | (show wpA _ _ _ (.cond _ _ _) _ _ _ _; refine A_iftrue rfl ?_))
        exact Shift.to rfl ⟨rfl, rfl, rfl, ⟨rfl, rfl, rfl, rfl, rfl, rfl, rfl, trivial⟩, Own.subi [0, 1] (by decide) rfl rfl⟩
  rintro s rfl
  have hq3 : HeadH H3 [.slice pa pn pc, .int .i64 q.ins, .int .i64 q.move, .slice da dn dc, .slice la ln lc] q := ⟨⟨pa, pn, pc, da, dn, dc, la, ln, lc, rfl, h1, h2, h3⟩⟩
  have hko := keysOf_fn hq3 (by omega)
  refine A_seq ?_
  refine A_cutu (fun s => ∃ (H4 : Hp) (ka : Option Addr) (kn kc : Nat), HLe H3 H4 ∧ HRow H4 ka kn kc 1 ((keysL q.layers).map irow) ∧ s = ⟨163, (12, .slice ka kn kc) :: (11, ptr b11) :: wEnv aa an ac ra rn rc b3 b6 b8, H4, [.box b11 [.slice pa pn pc, .int .i64 (insA acc q), .int .i64 (movA acc q), .slice ea en ec, .slice la ln lc], .box b6 zHead], [], []⟩) ?_ ?_
  · repeat' (first | (refine O_ev WideF.wide rfl (Ev_loadH rfl hb3 rfl) rfl rfl ?_) | (refine O_ef rfl (Ef_call (I := []) WideF.wide hko ⟨rfl, trivial⟩ rfl ?_); rintro v H4 I4 hle4 ⟨⟨ka, kn, kc, rfl, hk⟩, rfl⟩) | refine O_nil ?_ | refine A_region ?_ | (show opsA _ _ _ _ _ _ _; refine O_ev WideF.wide rfl (Ev_pure rfl) rfl rfl ?_))
    exact Shift.to ⟨H4, _, _, _, hle4, hk, rfl⟩ ⟨rfl, rfl, rfl, ⟨rfl, rfl, rfl, rfl, rfl, rfl, rfl, rfl, trivial⟩, Own.subi [0, 1] (by decide) rfl rfl⟩
  rintro s ⟨H4, ka, kn, kc, hle4, hk, rfl⟩
  have hkl : (keysL q.layers).length = kn := by have := hk.len; simpa using this
  have hkn := keysL_len q.layers
  have hlaw : lawH acc rej q = (keysL q.layers).foldl (lawStep acc rej q) (law0 acc rej q) := by unfold lawH; rw [if_neg (by simp [hno])]
  have hh4 : HeadH H4 [.slice pa pn pc, .int .i64 (insA acc q), .int .i64 (movA acc q), .slice ea en ec, .slice la ln lc] (law0 acc rej q) := ⟨⟨pa, pn, pc, ea, en, ec, la, ln, lc, rfl, h1.mono hle4, hrd.mono hle4, h3.mono hle4⟩⟩
  refine A_seq ?_
  refine A_cutu (fun s => ∃ (H5 : Hp) (cs : List Value), HeadH H5 cs (lawH acc rej q) ∧ s = ⟨163, (11, ptr b11) :: wEnv aa an ac ra rn rc b3 b6 b8, H5, [.box b11 cs, .box b6 zHead], [], []⟩) ?_ ?_
  · repeat' (first | refine O_nil ?_ | refine A_seq ?_ | refine A_region ?_ | refine A_block ?_ | (show opsA _ _ _ _ _ _ _; refine O_ev WideF.wide rfl (Ev_pure rfl) rfl rfl ?_))
    refine A_loopu (fun m s => ∃ (j : Nat) (H5 : Hp) (cs : List Value) (o : Head), m = kn - j ∧ j ≤ kn ∧ HLe H4 H5 ∧ HeadH H5 cs o ∧ o = ((keysL q.layers).take j).foldl (lawStep acc rej q) (law0 acc rej q) ∧ IncP o.props ∧ o.props.length ≤ pn + j ∧ o.dels.length ≤ dn ∧ o.layers.length ≤ ln + j * ln ∧ s = ⟨163, (13, .int .i64 j) :: (12, .slice ka kn kc) :: (11, ptr b11) :: wEnv aa an ac ra rn rc b3 b6 b8, H5, [.box b11 cs, .box b6 zHead], [], []⟩) ?_ ?_
    · exact Shift.to ⟨_, 0, H4, _, law0 acc rej q, rfl, by omega, HLe.refl _, hh4, by simp, hs, by show q.props.length ≤ _; omega, by rw [← l2]; exact List.length_filter_le _ _, by show q.layers.length ≤ _; omega, rfl⟩ ⟨rfl, rfl, rfl, ⟨rfl, rfl, rfl, rfl, rfl, rfl, rfl, rfl, rfl, trivial⟩, Own.subi [0, 1] (by decide) rfl rfl⟩
    · rintro m s ⟨j, H5, cs, o, rfl, hj, hle5, ho, hofold, hoi, hop, hod, hol, rfl⟩
      obtain ⟨pa5, pn5, pc5, da5, dn5, dc5, la5, ln5, lc5, rfl, h15, h25, h35⟩ := ho.ex
      by_cases hlt : j < kn
      · obtain ⟨b', ob, key, rfl, hkj, hkc⟩ := (hk.mono hle5).atm j hlt
        unfold irow at hkc
        have hle35 := hle4.trans hle5
        have hb35 : HCells H5 b3 0 [.slice pa pn pc, .int .i64 q.ins, .int .i64 q.move, .slice da dn dc, .slice la ln lc] := fun j v hj => hle35 _ _ _ (hb3 j v hj)
        have hlo := layersOf_fn (k := key) (hq3.mono hle35) (by omega)
        have hst := fun Hx (hx : HLe H5 Hx) => states_fn (k := key) (hq3.mono (hle35.trans hx)) hs (by omega)
        repeat' (first | refine O_nil ?_ | refine A_seq ?_ | refine A_region ?_ | refine A_skip ?_ | refine A_block ?_ | (show opsA _ _ _ _ _ _ _; first | refine O_ev WideF.wide rfl (Ev_pure rfl) rfl rfl ?_ | (show opsA _ _ _ _ (⟨_, .call _, _, _, _, _⟩ :: _) _ _; refine O_ev WideF.wide rfl (Ev_llen rfl) rfl rfl ?_)) | (show wpA _ _ _ (.cond _ _ _) _ _ _ _; (refine A_if rfl (fun h => ?_) (fun h => ?_) <;> try (exfalso; omega))))
        refine A_cutu (fun s => ∃ (H6 : Hp) (ya : Option Addr) (yn yc : Nat) (sa : Option Addr) (sn sc : Nat), HLe H5 H6 ∧ HRow H6 ya yn yc 4 ((layersK q.layers key).map lrow) ∧ HRow H6 sa sn sc 2 (((layersK q.layers key).map Layr.st ++ [getP q.props key]).map stc) ∧ s = ⟨163, (14, .slice ya yn yc) :: (15, .slice sa sn sc) :: (13, .int .i64 j) :: (12, .slice (some ⟨b', ob, none⟩) kn kc) :: (11, ptr b11) :: wEnv aa an ac ra rn rc b3 b6 b8, H6, [.box b11 [.slice pa5 pn5 pc5, .int .i64 o.ins, .int .i64 o.move, .slice da5 dn5 dc5, .slice la5 ln5 lc5], .box b6 zHead], [], []⟩) ?_ ?_
        · (refine A_drawi WideF.wide (.q 0 (.q 1 (.q 2 (.q 3 (.q 4 (.q 6 (.q 7 (.q 8 (.q 9 (.q 10 (.e 5 (.r (.e 11 (.q 12 (.q 13 (.done [])))))))))))))))) [11, 12, 13] [] [0, 1] (by decide +kernel) (by decide) rfl ?_; simp only [Own.picks, Own.rget, List.cons_append, List.nil_append, List.append_nil])
          repeat' (first | (refine D_ev rfl (Ev_loadH rfl hb35 rfl) rfl rfl ?_) | (refine D_ev rfl (Ev_loadH1 rfl (hkc 0 _ rfl)) rfl rfl ?_) | (refine E_ef rfl (Ef_call (I := []) WideF.wide hlo ⟨rfl, rfl, trivial⟩ rfl ?_); rintro v H6 I6 hle6 ⟨⟨ya, yn, yc, rfl, hy⟩, rfl⟩; refine ⟨⟨hle6, rfl⟩, ?_⟩) | (refine E_ef rfl (Ef_call (I := []) WideF.wide (hst _ hle6) ⟨rfl, rfl, trivial⟩ rfl ?_); rintro v H7 I7 hle7 ⟨⟨sa, sn, sc, rfl, hsr⟩, rfl⟩; refine ⟨⟨hle7, rfl⟩, ?_⟩) | refine O_nil ?_ | (show drJ _ _ _ _ _ _ _ (.q _ _) _; refine D_q rfl ?_) | (show drJ _ _ _ _ _ _ _ (.e _ _) _; refine D_e rfl ?_) | (show drJ _ _ _ _ _ _ _ (.r _) _; refine D_r ?_; simp only [List.cons_append, List.nil_append]) | (show drJ _ _ _ _ _ _ _ (.done _) _; refine D_done ?_; simp only [List.cons_append, List.nil_append]) | (show drQ _ _ _ _ _ _; first | refine D_ev rfl (Ev_pure rfl) rfl rfl ?_ | (show drQ _ _ _ ⟨_, .indexAddr _ _ _, _, _, _, _⟩ _ _; refine D_ev rfl (Ev_indexAddr rfl rfl (by omega) (by omega)) rfl rfl ?_)))
          exact Shift.to ⟨H7, _, _, _, _, _, _, hle6.trans hle7, hy.mono hle7, hsr, rfl⟩ ⟨rfl, rfl, rfl, ⟨rfl, rfl, rfl, rfl, rfl, rfl, rfl, rfl, rfl, rfl, rfl, trivial⟩, Own.subi [0, 1] (by decide) rfl rfl⟩
        rintro s ⟨H6, ya, yn, yc, sa, sn, sc, hle6, hy, hsr, rfl⟩
        have hRd : lawR acc rej q key = revG rej ((layersK q.layers key).drop (firstA acc (layersK q.layers key))) := rfl
        have hSd : lawS acc rej q key = nxt (getP q.props key) ((layersK q.layers key).drop (firstA acc (layersK q.layers key))) :: leftG rej (getP q.props key) ((layersK q.layers key).drop (firstA acc (layersK q.layers key))) := rfl
        have hgll : (layersK q.layers key).length ≤ q.layers.length := List.length_filter_le _ _
        generalize hg : layersK q.layers key = g at hy hsr hRd hSd hgll
        generalize hp : getP q.props key = P0 at hsr hSd
        have hgl : g.length = yn := by have := hy.len; simpa using this
        have hsl : sn = yn + 1 := by have := hsr.len; simp at this; omega
        have hle26 : HLe H2 H6 := hle3.trans (hle35.trans hle6)
        repeat' (first | refine O_nil ?_ | refine A_seq ?_ | refine A_region ?_ | refine A_block ?_ | (show opsA _ _ _ _ _ _ _; refine O_ev WideF.wide rfl (Ev_pure rfl) rfl rfl ?_))
        refine A_loopu (fun m s => ∃ (k fi : Nat), m = yn - k ∧ k ≤ yn ∧ fi = firstA acc (g.take k) ∧ s = ⟨163, (17, .int .i64 k) :: (16, .int .i64 fi) :: (14, .slice ya yn yc) :: (15, .slice sa sn sc) :: (13, .int .i64 j) :: (12, .slice (some ⟨b', ob, none⟩) kn kc) :: (11, ptr b11) :: wEnv aa an ac ra rn rc b3 b6 b8, H6, [.box b11 [.slice pa5 pn5 pc5, .int .i64 o.ins, .int .i64 o.move, .slice da5 dn5 dc5, .slice la5 ln5 lc5], .box b6 zHead], [], []⟩) ?_ ?_
        · exact Shift.to ⟨_, 0, 0, rfl, by omega, rfl, rfl⟩ ⟨rfl, rfl, rfl, ⟨rfl, rfl, rfl, rfl, rfl, rfl, rfl, rfl, rfl, rfl, rfl, rfl, rfl, trivial⟩, Own.subi [0, 1] (by decide) rfl rfl⟩
        · rintro m s ⟨k, fi, rfl, hk', hfi, rfl⟩
          by_cases hlt' : k < yn
          · obtain ⟨b2, o2, z, rfl, hzk, hc⟩ := hy.atm k hlt'
            unfold lrow at hc
            have faz := fa _ hle26 z.rev
            have hfk : firstA acc (g.take (k + 1)) = if acc z.rev then k + 1 else firstA acc (g.take k) := by
              rw [take_get hzk, firstA_snoc, List.length_take, Nat.min_eq_left (by omega)]
            cases hr : acc z.rev with
            | true =>
              rw [hr] at faz hfk
              repeat' (first | (refine O_ev WideF.wide rfl (Ev_loadH1 rfl (hc 0 _ rfl)) rfl rfl ?_) | (refine O_ef rfl (Ef_callp WideF.wide faz ⟨rfl, rfl, trivial⟩ rfl ?_)) | refine O_nil ?_ | refine A_seq ?_ | refine A_region ?_ | refine A_skip ?_ | refine A_block ?_ | (show opsA _ _ _ _ _ _ _; first | refine O_ev WideF.wide rfl (Ev_pure rfl) rfl rfl ?_ | (show opsA _ _ _ _ (⟨_, .indexAddr _ _ _, _, _, _, _⟩ :: _) _ _; refine O_ev WideF.wide rfl (Ev_indexAddr rfl rfl (by omega) (by omega)) rfl rfl ?_) | (show opsA _ _ _ _ (⟨_, .fieldAddr _ _ _, _, _, _, _⟩ :: _) _ _; refine O_ev WideF.wide rfl (Ev_fieldAddr rfl rfl rfl) rfl rfl ?_) | (show opsA _ _ _ _ (⟨_, .call _, _, _, _, _⟩ :: _) _ _; refine O_ev WideF.wide rfl (Ev_llen rfl) rfl rfl ?_) | (show opsA _ _ _ _ (⟨_, .binOp _ _ _ _ _, _, _, _, _⟩ :: _) _ _; refine O_ev WideF.wide rfl (Ev_add rfl rfl (wi64 (by omega))) rfl rfl ?_)) | (show wpA _ _ _ (.cond _ _ _) _ _ _ _; first | (refine A_if rfl (fun h => ?_) (fun h => ?_) <;> try (exfalso; omega)) | refine A_iftrue rfl ?_))
              refine Shift.to ⟨_, ?_, k + 1, k + 1, rfl, by omega, by rw [hfk]; rfl, rfl⟩ ⟨rfl, rfl, rfl, ⟨rfl, rfl, rfl, rfl, rfl, rfl, rfl, rfl, rfl, rfl, rfl, rfl, rfl, trivial⟩, Own.subi [0, 1] (by decide) rfl rfl⟩
              omega
            | false =>
              rw [hr] at faz hfk
              repeat' (first | (refine O_ev WideF.wide rfl (Ev_loadH1 rfl (hc 0 _ rfl)) rfl rfl ?_) | (refine O_ef rfl (Ef_callp WideF.wide faz ⟨rfl, rfl, trivial⟩ rfl ?_)) | refine O_nil ?_ | refine A_seq ?_ | refine A_region ?_ | refine A_skip ?_ | refine A_block ?_ | (show opsA _ _ _ _ _ _ _; first | refine O_ev WideF.wide rfl (Ev_pure rfl) rfl rfl ?_ | (show opsA _ _ _ _ (⟨_, .indexAddr _ _ _, _, _, _, _⟩ :: _) _ _; refine O_ev WideF.wide rfl (Ev_indexAddr rfl rfl (by omega) (by omega)) rfl rfl ?_) | (show opsA _ _ _ _ (⟨_, .fieldAddr _ _ _, _, _, _, _⟩ :: _) _ _; refine O_ev WideF.wide rfl (Ev_fieldAddr rfl rfl rfl) rfl rfl ?_) | (show opsA _ _ _ _ (⟨_, .call _, _, _, _, _⟩ :: _) _ _; refine O_ev WideF.wide rfl (Ev_llen rfl) rfl rfl ?_) | (show opsA _ _ _ _ (⟨_, .binOp _ _ _ _ _, _, _, _, _⟩ :: _) _ _; refine O_ev WideF.wide rfl (Ev_add rfl rfl (wi64 (by omega))) rfl rfl ?_)) | (show wpA _ _ _ (.cond _ _ _) _ _ _ _; first | (refine A_if rfl (fun h => ?_) (fun h => ?_) <;> try (exfalso; omega)) | refine A_iffalse rfl ?_))
              refine Shift.to ⟨_, ?_, k + 1, fi, rfl, by omega, by rw [hfk, hfi]; rfl, rfl⟩ ⟨rfl, rfl, rfl, ⟨rfl, rfl, rfl, rfl, rfl, rfl, rfl, rfl, rfl, rfl, rfl, rfl, rfl, trivial⟩, Own.subi [0, 1] (by decide) rfl rfl⟩
              omega
          · have hyk : yn = k := by omega
            subst hyk
            rw [List.take_of_length_le (l := g) (by omega)] at hfi
            have hfl := firstA_le acc g
            obtain ⟨sb, so, st1, rfl, hst1, hcs1⟩ := hsr.atm fi (by omega)
            have hst1' := states_at P0 g fi (by omega)
            rw [hst1] at hst1'
            cases hst1'
            unfold stc at hcs1
            rw [← hfi] at hRd hSd
            refine A_nilrow 1 ?_
            repeat' (first | (refine O_ev WideF.wide rfl (Ev_loadH rfl hcs1 rfl) rfl rfl ?_) | refine O_nil ?_ | refine A_seq ?_ | refine A_region ?_ | refine A_block ?_ | (show opsA _ _ _ _ _ _ _; first | refine O_ev WideF.wide rfl (Ev_pure rfl) rfl rfl ?_ | (show opsA _ _ _ _ (⟨_, .indexAddr _ _ _, _, _, _, _⟩ :: _) _ _; refine O_ev WideF.wide rfl (Ev_indexAddr rfl rfl (by omega) (by omega)) rfl rfl ?_) | (show opsA _ _ _ _ (⟨_, .call _, _, _, _, _⟩ :: _) _ _; refine O_ev WideF.wide rfl (Ev_llen rfl) rfl rfl ?_) | (show opsA _ _ _ _ (⟨_, .buildSlice _ _ _, _, _, _, _⟩ :: _) _ _; (refine O_ef rfl (Ef_build1a WideF.wide rfl rfl rfl rfl rfl ?_); intro b))) | (show wpA _ _ _ (.exit _) _ _ _ _; refine A_exit rfl ?_) | (show wpA _ _ _ (.cond _ _ _) _ _ _ _; (refine A_if rfl (fun h => ?_) (fun h => ?_) <;> try (exfalso; omega))))
            refine A_loopu (fun m s => ∃ (u : Nat) (va : Option Addr) (vn vc : Nat) (vp : List (List Value)) (wa : Option Addr) (wn wc : Nat) (wp : List (List Value)) (R1 : List Int) (L1 : List St), m = yn - u ∧ u ≤ yn ∧ vp.length = vn ∧ wp.length = wn ∧ vn ≤ u ∧ wn ≤ u + 1 ∧ vp = R1.map irow ∧ wp = L1.map stc ∧ lawR acc rej q key = R1 ++ revG rej (g.drop u) ∧ lawS acc rej q key = L1 ++ leftG rej P0 (g.drop u) ∧ s = ⟨163, (20, .int .i64 u) :: (18, .slice va vn vc) :: (19, .slice wa wn wc) :: (14, .slice ya yn yc) :: (15, .slice (some ⟨sb, so, none⟩) sn sc) :: (13, .int .i64 j) :: (12, .slice (some ⟨b', ob, none⟩) kn kc) :: (11, ptr b11) :: wEnv aa an ac ra rn rc b3 b6 b8, H6, [.row (.slice va vn vc) 1 vp, .row (.slice wa wn wc) 2 wp, .box b11 [.slice pa5 pn5 pc5, .int .i64 o.ins, .int .i64 o.move, .slice da5 dn5 dc5, .slice la5 ln5 lc5], .box b6 zHead], [], []⟩) ?_ ?_
            · exact Shift.to ⟨_, fi, none, 0, 0, [], _, _, _, [stc (nxt P0 (g.drop fi))], [], [nxt P0 (g.drop fi)], rfl, by omega, rfl, rfl, by omega, by simp, rfl, rfl, by rw [hRd]; rfl, by rw [hSd]; rfl, rfl⟩ ⟨rfl, rfl, rfl, ⟨rfl, rfl, rfl, rfl, rfl, rfl, rfl, rfl, rfl, rfl, rfl, rfl, rfl, rfl, trivial⟩, Own.subi [1, 0, 2, 3] (by decide) rfl rfl⟩
            · rintro m s ⟨u, va, vn, vc, vp, wa, wn, wc, wp, R1, L1, rfl, hu, hvl, hwl, hvu, hwu, hvp, hwp, hR1, hL1, rfl⟩
              by_cases hlu : u < yn
              · obtain ⟨b2, o2, z, rfl, hzk, hc⟩ := hy.atm u hlu
                unfold lrow at hc
                have frz := fr _ hle26 z.rev
                have hdk : g.drop u = z :: g.drop (u + 1) := by
                  rw [List.drop_eq_getElem_cons (by omega)]
                  congr 1
                  rw [List.getElem?_eq_getElem (by omega)] at hzk
                  exact Option.some.inj hzk
                rw [hdk, revG] at hR1
                rw [hdk, leftG] at hL1
                cases hr : rej z.rev with
                | true =>
                  rw [hr] at frz
                  rw [if_pos hr] at hR1 hL1
                  repeat' (first | (refine O_ev WideF.wide rfl (Ev_loadH1 rfl (hc 0 _ rfl)) rfl rfl ?_) | (refine O_ef rfl (Ef_callp WideF.wide frz ⟨rfl, rfl, trivial⟩ rfl ?_)) | refine O_nil ?_ | refine A_seq ?_ | refine A_region ?_ | refine A_skip ?_ | refine A_block ?_ | (show opsA _ _ _ _ _ _ _; first | refine O_ev WideF.wide rfl (Ev_pure rfl) rfl rfl ?_ | (show opsA _ _ _ _ (⟨_, .indexAddr _ _ _, _, _, _, _⟩ :: _) _ _; refine O_ev WideF.wide rfl (Ev_indexAddr rfl rfl (by omega) (by omega)) rfl rfl ?_) | (show opsA _ _ _ _ (⟨_, .fieldAddr _ _ _, _, _, _, _⟩ :: _) _ _; refine O_ev WideF.wide rfl (Ev_fieldAddr rfl rfl rfl) rfl rfl ?_) | (show opsA _ _ _ _ (⟨_, .call _, _, _, _, _⟩ :: _) _ _; refine O_ev WideF.wide rfl (Ev_llen rfl) rfl rfl ?_) | (show opsA _ _ _ _ (⟨_, .binOp _ _ _ _ _, _, _, _, _⟩ :: _) _ _; refine O_ev WideF.wide rfl (Ev_add rfl rfl (wi64 (by omega))) rfl rfl ?_) | (show opsA _ _ _ _ (⟨_, .unOp _ _ _, _, _, _, _⟩ :: _) _ _; refine O_ev WideF.wide rfl (Ev_notb rfl) rfl rfl ?_)) | (show wpA _ _ _ (.cond _ _ _) _ _ _ _; first | (refine A_if rfl (fun h => ?_) (fun h => ?_) <;> try (exfalso; omega)) | refine A_iffalse rfl ?_))
                  refine Shift.to ⟨_, ?_, u + 1, va, vn, vc, vp, wa, wn, wc, wp, R1, L1, rfl, by omega, hvl, hwl, by omega, by omega, hvp, hwp, hR1, hL1, rfl⟩ ⟨rfl, rfl, rfl, ⟨rfl, rfl, rfl, rfl, rfl, rfl, rfl, rfl, rfl, rfl, rfl, rfl, rfl, rfl, trivial⟩, Own.subi [0, 1, 2, 3] (by decide) rfl rfl⟩
                  omega
                | false =>
                  rw [hr] at frz
                  rw [if_neg (by simp [hr])] at hR1 hL1
                  obtain ⟨sb2, so2, st2, hsb2, hst2, hcs2⟩ := hsr.atm (u + 1) (by omega)
                  cases hsb2
                  have hst2' := states_at P0 g (u + 1) (by omega)
                  rw [hst2] at hst2'
                  cases hst2'
                  unfold stc at hcs2
                  repeat' (first | (refine O_ev WideF.wide rfl (Ev_loadH1 rfl (hc 0 _ rfl)) rfl rfl ?_) | (refine O_ef rfl (Ef_callp WideF.wide frz ⟨rfl, rfl, trivial⟩ rfl ?_)) | (refine O_ev WideF.wide rfl (Ev_loadH rfl hcs2 rfl) rfl rfl ?_) | refine O_nil ?_ | refine A_seq ?_ | refine A_region ?_ | refine A_skip ?_ | refine A_block ?_ | (show opsA _ _ _ _ _ _ _; first | refine O_ev WideF.wide rfl (Ev_pure rfl) rfl rfl ?_ | (show opsA _ _ _ _ (⟨_, .indexAddr _ _ _, _, _, _, _⟩ :: _) _ _; refine O_ev WideF.wide rfl (Ev_indexAddr rfl rfl (by omega) (by omega)) rfl rfl ?_) | (show opsA _ _ _ _ (⟨_, .fieldAddr _ _ _, _, _, _, _⟩ :: _) _ _; refine O_ev WideF.wide rfl (Ev_fieldAddr rfl rfl rfl) rfl rfl ?_) | (show opsA _ _ _ _ (⟨_, .call _, _, _, _, _⟩ :: _) _ _; first | refine O_ev WideF.wide rfl (Ev_llen rfl) rfl rfl ?_ | (refine O_f1 (O_ef rfl (Ef_appendR WideF.wide rfl rfl rfl rfl rfl (by simp; omega) (by simp; omega) rfl ?_)); intro a cp) | (refine O_f2 (O_ef rfl (Ef_appendR WideF.wide rfl rfl rfl rfl rfl (by simp; omega) (by simp; omega) rfl ?_)); intro a cp)) | (show opsA _ _ _ _ (⟨_, .buildSlice _ _ _, _, _, _, _⟩ :: _) _ _; first | (refine O_ef rfl (Ef_build1a WideF.wide rfl rfl rfl rfl rfl ?_); intro b) | (refine O_ef rfl (Ef_build11 WideF.wide rfl rfl rfl ?_); intro b)) | (show opsA _ _ _ _ (⟨_, .binOp _ _ _ _ _, _, _, _, _⟩ :: _) _ _; refine O_ev WideF.wide rfl (Ev_add rfl rfl (wi64 (by omega))) rfl rfl ?_) | (show opsA _ _ _ _ (⟨_, .unOp _ _ _, _, _, _, _⟩ :: _) _ _; refine O_ev WideF.wide rfl (Ev_notb rfl) rfl rfl ?_)) | (show wpA _ _ _ (.cond _ _ _) _ _ _ _; first | (refine A_if rfl (fun h => ?_) (fun h => ?_) <;> try (exfalso; omega)) | refine A_iftrue rfl ?_))
                  refine Shift.to ⟨_, ?_, u + 1, _, _, _, vp ++ [irow z.rev], _, _, _, wp ++ [stc (nxt P0 (g.drop (u + 1)))], R1 ++ [z.rev], L1 ++ [nxt P0 (g.drop (u + 1))], rfl, by omega, rfl, rfl, by simp; omega, by simp; omega, by rw [hvp]; simp, by rw [hwp]; simp, by rw [hR1]; simp, by rw [hL1]; simp, rfl⟩ ⟨rfl, rfl, rfl, ⟨rfl, rfl, rfl, rfl, rfl, rfl, rfl, rfl, rfl, rfl, rfl, rfl, rfl, rfl, trivial⟩, Own.subi [1, 0, 2, 3] (by decide) rfl rfl⟩
                  omega
              · have hyu : yn = u := by omega
                subst hyu
                rw [List.drop_of_length_le (by omega), revG, List.append_nil] at hR1
                rw [List.drop_of_length_le (by omega), leftG, List.append_nil] at hL1
                rw [← hR1] at hvp
                rw [← hL1] at hwp
                repeat' (first | refine O_nil ?_ | refine A_seq ?_ | refine A_region ?_ | (show opsA _ _ _ _ _ _ _; first | refine O_ev WideF.wide rfl (Ev_pure rfl) rfl rfl ?_ | (show opsA _ _ _ _ (⟨_, .call _, _, _, _, _⟩ :: _) _ _; refine O_ev WideF.wide rfl (Ev_llen rfl) rfl rfl ?_)) | (show wpA _ _ _ (.exit _) _ _ _ _; refine A_exit rfl ?_) | (show wpA _ _ _ (.cond _ _ _) _ _ _ _; (refine A_if rfl (fun h => ?_) (fun h => ?_) <;> try (exfalso; omega))))
                refine A_freeze (by rw [hvp]; exact irow_one _) ?_
                intro H7 hle7 hv7
                have hv7 := hv7.cong hvp.symm
                refine A_freeze (by rw [hwp]; exact stc_one _) ?_
                intro H8 hle8 hw8
                have hw8 := hw8.cong hwp.symm
                have hle58 := hle6.trans (hle7.trans hle8)
                have hkc8 : H8 b' (ob + j * 1 + 0) = some (.int .i64 key) := hle58 _ _ _ (hkc 0 _ rfl)
                have hrl := lawR_len acc rej q key
                have hjl : j * ln ≤ 4096 * 4096 := Nat.mul_le_mul (by omega) (by omega)
                have hla := layered_fn (k := key) (ho.mono hle58) (hv7.mono hle8) hw8 (lawS_len acc rej q key) (lawZ_at acc rej q key) hoi (by unfold Head.mass; omega) (by omega)
                (refine A_drawi WideF.wide (.q 0 (.q 1 (.q 2 (.q 3 (.q 4 (.q 5 (.q 6 (.r (.e 7 (.e 8 (.done []))))))))))) [7, 8] [] [0, 1] (by decide +kernel) (by decide) rfl ?_; simp only [Own.picks, Own.rget, List.cons_append, List.nil_append, List.append_nil])
                repeat' (first | (refine D_ev rfl (Ev_loadH1 rfl hkc8) rfl rfl ?_) | (refine E_ef rfl (Ef_call (I := []) WideF.wide hla ⟨rfl, rfl, rfl, rfl, trivial⟩ rfl ?_); rintro v H9 I9 hle9 ⟨⟨cs9, rfl, hcs9⟩, rfl⟩; obtain ⟨pa9, pn9, pc9, da9, dn9, dc9, la9, ln9, lc9, rfl, h19, h29, h39⟩ := hcs9.ex; refine ⟨⟨hle9, rfl⟩, ?_⟩) | refine O_nil ?_ | refine A_region ?_ | (show drJ _ _ _ _ _ _ _ (.q _ _) _; refine D_q rfl ?_) | (show drJ _ _ _ _ _ _ _ (.e _ _) _; refine D_e rfl ?_) | (show drJ _ _ _ _ _ _ _ (.r _) _; refine D_r ?_; simp only [List.cons_append, List.nil_append]) | (show drJ _ _ _ _ _ _ _ (.done _) _; refine D_done ?_; simp only [List.cons_append, List.nil_append]) | (show drQ _ _ _ _ _ _; first | refine D_ev rfl (Ev_pure rfl) rfl rfl ?_ | (show drQ _ _ _ ⟨_, .load _ _, _, _, _, _⟩ _ _; refine D_ev rfl (Ev_loadB (i := 0) rfl rfl rfl) rfl rfl ?_) | (show drQ _ _ _ ⟨_, .indexAddr _ _ _, _, _, _, _⟩ _ _; refine D_ev rfl (Ev_indexAddr rfl rfl (by omega) (by omega)) rfl rfl ?_)) | (show drE _ _ _ _ _ _ _; (show drE _ _ _ _ ⟨_, .store _ _ _, _, _, _, _⟩ _ _; (refine E_ef rfl (Ef_storew WideF.wide rfl rfl rfl rfl rfl ?_); refine ⟨Grow.same rfl rfl, ?_⟩))) | (show opsA _ _ _ _ _ _ _; first | refine O_ev WideF.wide rfl (Ev_pure rfl) rfl rfl ?_ | (show opsA _ _ _ _ (⟨_, .binOp _ _ _ _ _, _, _, _, _⟩ :: _) _ _; refine O_ev WideF.wide rfl (Ev_add rfl rfl (wi64 (by omega))) rfl rfl ?_)))
                refine Shift.to ⟨_, ?_, j + 1, H9, _, lawStep acc rej q o key, rfl, by omega, hle5.trans (hle58.trans hle9), hcs9, ?_, withP_inc hoi, ?_, hod, ?_, rfl⟩ ⟨rfl, rfl, rfl, ⟨rfl, rfl, rfl, rfl, rfl, rfl, rfl, rfl, rfl, trivial⟩, Own.subi [0, 1] (by decide) rfl rfl⟩
                · omega
                · rw [take_get hkj, List.foldl_append, ← hofold]; rfl
                · have := withP_len o.props key (lawZ acc rej q key)
                  show (withP o.props key (lawZ acc rej q key)).length ≤ _
                  omega
                · have := layLs_len o key (lawR acc rej q key) (lawS acc rej q key)
                  show (layLs o key (lawR acc rej q key) (lawS acc rej q key)).length ≤ _
                  rw [Nat.succ_mul]
                  omega
      · have hjk : kn = j := by omega
        subst hjk
        rw [List.take_of_length_le (by omega), ← hlaw] at hofold
        repeat' (first | refine O_nil ?_ | refine A_seq ?_ | refine A_region ?_ | (show opsA _ _ _ _ _ _ _; first | refine O_ev WideF.wide rfl (Ev_pure rfl) rfl rfl ?_ | (show opsA _ _ _ _ (⟨_, .call _, _, _, _, _⟩ :: _) _ _; refine O_ev WideF.wide rfl (Ev_llen rfl) rfl rfl ?_)) | (show wpA _ _ _ (.exit _) _ _ _ _; refine A_exit rfl ?_) | (show wpA _ _ _ (.cond _ _ _) _ _ _ _; (refine A_if rfl (fun h => ?_) (fun h => ?_) <;> try (exfalso; omega))))
        exact Shift.to ⟨H5, _, hofold ▸ ho, rfl⟩ ⟨rfl, rfl, rfl, ⟨rfl, rfl, rfl, rfl, rfl, rfl, rfl, trivial⟩, Own.subi [0, 1] (by decide) rfl rfl⟩
  rintro s ⟨H5, cs, hcs, rfl⟩
  obtain ⟨pa5, pn5, pc5, da5, dn5, dc5, la5, ln5, lc5, rfl, h15, h25, h35⟩ := hcs.ex
  repeat' (first | refine O_nil ?_ | refine A_seq ?_ | refine A_region ?_ | refine A_ret ?_ | (show opsA _ _ _ _ _ _ _; first | refine O_ev WideF.wide rfl (Ev_pure rfl) rfl rfl ?_ | (show opsA _ _ _ _ (⟨_, .load _ _, _, _, _, _⟩ :: _) _ _; refine O_ev WideF.wide rfl (Ev_loadB (i := 0) rfl rfl rfl) rfl rfl ?_) | (show opsA _ _ _ _ (⟨_, .store _ _ _, _, _, _, _⟩ :: _) _ _; refine O_f1 (O_ef rfl (Ef_storew WideF.wide rfl rfl rfl rfl rfl ?_)))))
  first | (refine End_e (RetT2 rfl rfl (i := 0) rfl rfl rfl) ?_) | (refine End_e (RetT2 rfl rfl (i := 1) rfl rfl rfl) ?_)
  unfold LawIs
  rw [hno]
  exact ⟨⟨_, rfl, hcs⟩, rfl⟩
end Go.Proofs.Ythniohgeojenaaa
