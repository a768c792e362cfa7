/-
  The law's layered.
-/
import Derived.Test.YthniohgeojenaaaM14
namespace Go.Proofs.Ythniohgeojenaaa
open Go
set_option linter.unusedVariables false
set_option linter.unusedSimpArgs false
def ltCnt (k : Int) : List Layr → Nat
  | [] => 0
  | y :: r => if y.key < k then ltCnt k r + 1 else 0
def newL (k : Int) : List Int → List St → List Layr
  | r :: rs, s :: ss => ⟨r, k, if s.set then s.val else 0, s.set⟩ :: newL k rs ss
  | _, _ => []
theorem ltCnt_is : ∀ {k : Int} {l : List Layr} {m : Nat}, m ≤ l.length → (∀ j y, j < m → l[j]? = some y → y.key < k) → (∀ y, l[m]? = some y → ¬ y.key < k) → ltCnt k l = m
  | k, [], m, h, _, _ => by simp at h; subst h; rfl
  | k, y :: r, 0, _, _, h => by rw [ltCnt, if_neg (h y (by simp))]
  | k, y :: r, m + 1, h0, h1, h2 => by
    rw [ltCnt, if_pos (h1 0 y (by omega) (by simp)), ltCnt_is (m := m) (by simpa using h0) (fun j z hj hz => h1 (j + 1) z (by omega) (by simpa using hz)) (fun z hz => h2 z (by simpa using hz))]
theorem newL_snoc : ∀ {k : Int} {R : List Int} {S : List St} {i : Nat} {r : Int} {s : St}, R[i]? = some r → S[i]? = some s → newL k (R.take (i + 1)) (S.take (i + 1)) = newL k (R.take i) (S.take i) ++ [⟨r, k, if s.set then s.val else 0, s.set⟩]
  | k, [], S, i, r, s, h, _ => by simp at h
  | k, a :: R, [], i, r, s, _, h => by simp at h
  | k, a :: R, b :: S, 0, r, s, h1, h2 => by simp at h1 h2; subst h1 h2; simp [newL]
  | k, a :: R, b :: S, i + 1, r, s, h1, h2 => by
    simp at h1 h2
    simp only [List.take_succ_cons, newL, List.cons_append]
    rw [newL_snoc h1 h2]
theorem newL_take : ∀ {k : Int} {R : List Int} {S : List St} {n : Nat}, R.length ≤ n → newL k R (S.take n) = newL k R S
  | k, [], S, n, _ => by simp [newL]
  | k, a :: R, [], n, _ => by simp [newL]
  | k, a :: R, b :: S, 0, h => by simp at h
  | k, a :: R, b :: S, n + 1, h => by simp only [List.take_succ_cons, newL]; rw [newL_take (by simpa using h)]
def layLs (q : Head) (k : Int) (R : List Int) (S : List St) : List Layr := q.layers.take (ltCnt k q.layers) ++ newL k R S ++ q.layers.drop (ltCnt k q.layers + grp k (q.layers.drop (ltCnt k q.layers)))
def layH (q : Head) (k : Int) (R : List Int) (S : List St) (z : St) : Head := ⟨withP q.props k z, q.ins, q.move, q.dels, layLs q k R S⟩
attribute [local irreducible] wpA opsA drJ drQ drE Ef Ev Shift Fn
abbrev yEnv (k : Int) (ra : Option Addr) (rn rc : Nat) (sa : Option Addr) (sn sc : Nat) (la : Option Addr) (ln lc : Nat) (b4 b8 : Nat) : Env := [(1, .int .i64 k), (2, .slice ra rn rc), (3, .slice sa sn sc), (4, ptr b4), (8, ptr b8), (11, .slice la ln lc)]
set_option maxRecDepth 100000 in
set_option maxHeartbeats 4000000 in
theorem layered_fn {H : Hp} {hcs : List Value} {q : Head} {k : Int} {ra : Option Addr} {rn rc : Nat} {sa : Option Addr} {sn sc : Nat} {R : List Int} {S : List St} {z : St} (hh : HeadH H hcs q) (hR : HRow H ra rn rc 1 (R.map irow)) (hS : HRow H sa sn sc 2 (S.map stc)) (hlen : S.length = R.length + 1) (hz : S[R.length]? = some z)
    (hs : IncP q.props) (hl : q.mass < 1073741824) (hr : R.length < 1073741824) :
    Fn Try.prog 50 [.agg hcs.toArray, .int .i64 k, .slice ra rn rc, .slice sa sn sc] H [] (HeadIs (layH q k R S z)) := by
  obtain ⟨pa, pn, pc, da, dn, dc, la, ln, lc, rfl, h1, h2, h3⟩ := hh.ex
  have l3 := h3.len
  have lR := hR.len
  have lS := hS.len
  simp only [List.length_map] at l3 lR lS
  unfold Head.mass at hl
  refine Fn_of _ _ Try.func50 rfl Try.ntmps50 rfl fun c => ?_
  refine A_seq ?_
  refine A_cutu (fun s => ∃ b4 b8, s = ⟨102, [(1, .int .i64 k), (2, .slice ra rn rc), (3, .slice sa sn sc), (4, ptr b4), (8, ptr b8)], H, [.box b4 [.slice pa pn pc, .int .i64 q.ins, .int .i64 q.move, .slice da dn dc, .slice la ln lc], .box b8 zHead], [], []⟩) ?_ ?_
  · repeat' (first | refine O_nil ?_ | refine A_region ?_ | (show opsA _ _ _ _ _ _ _; first | (show opsA _ _ _ _ (⟨_, .alloc _, _, _, _, _⟩ :: _) _ _; (refine O_ef rfl (Ef_alloc WideF.wide rfl ?_); intro b)) | (show opsA _ _ _ _ (⟨_, .box _ _, _, _, _, _⟩ :: _) _ _; (refine O_ef rfl (Ef_boxa WideF.wide rfl rfl ?_); intro b))))
    exact Shift.to ⟨_, _, rfl⟩ ⟨rfl, rfl, rfl, ⟨rfl, rfl, rfl, rfl, rfl, trivial⟩, Own.subi [1, 0] (by decide) rfl rfl⟩
  rintro s ⟨b4, b8, rfl⟩
  refine A_nilrow 4 ?_
  refine A_seq ?_
  refine A_cutu (fun s => s = ⟨102, (9, .slice none 0 0) :: [(1, .int .i64 k), (2, .slice ra rn rc), (3, .slice sa sn sc), (4, ptr b4), (8, ptr b8)], H, [.row (.slice none 0 0) 4 [], .box b4 [.slice pa pn pc, .int .i64 q.ins, .int .i64 q.move, .slice da dn dc, .slice la ln lc], .box b8 zHead], [], []⟩) ?_ ?_
  · repeat' (first | refine O_nil ?_ | refine A_region ?_ | (show opsA _ _ _ _ _ _ _; refine O_ev WideF.wide rfl (Ev_pure rfl) rfl rfl ?_))
    exact Shift.to rfl ⟨rfl, rfl, rfl, ⟨rfl, rfl, rfl, rfl, rfl, rfl, trivial⟩, Own.subi [0, 1, 2] (by decide) rfl rfl⟩
  rintro s rfl
  refine A_seq ?_
  refine A_cutu (fun s => s = ⟨102, (10, .int .i64 (0 : Nat)) :: (9, .slice none 0 0) :: [(1, .int .i64 k), (2, .slice ra rn rc), (3, .slice sa sn sc), (4, ptr b4), (8, ptr b8)], H, [.row (.slice none 0 0) 4 [], .box b4 [.slice pa pn pc, .int .i64 q.ins, .int .i64 q.move, .slice da dn dc, .slice la ln lc], .box b8 zHead], [], []⟩) ?_ ?_
  · repeat' (first | refine O_nil ?_ | refine A_region ?_ | (show opsA _ _ _ _ _ _ _; refine O_ev WideF.wide rfl (Ev_pure rfl) rfl rfl ?_))
    exact Shift.to rfl ⟨rfl, rfl, rfl, ⟨rfl, rfl, rfl, rfl, rfl, rfl, rfl, trivial⟩, Own.subi [0, 1, 2] (by decide) rfl rfl⟩
  rintro s rfl
  refine A_seq ?_
  refine A_cutu (fun s => s = ⟨102, (10, .int .i64 (0 : Nat)) :: (9, .slice none 0 0) :: yEnv k ra rn rc sa sn sc la ln lc b4 b8, H, [.row (.slice none 0 0) 4 [], .box b4 [.slice pa pn pc, .int .i64 q.ins, .int .i64 q.move, .slice da dn dc, .slice la ln lc], .box b8 zHead], [], []⟩) ?_ ?_
  · repeat' (first | refine O_nil ?_ | refine A_region ?_ | (show opsA _ _ _ _ _ _ _; first | refine O_ev WideF.wide rfl (Ev_pure rfl) rfl rfl ?_ | (show opsA _ _ _ _ (⟨_, .load _ _, _, _, _, _⟩ :: _) _ _; refine O_ev WideF.wide rfl (Ev_loadB1 (i := 1) rfl rfl rfl) rfl rfl ?_) | (show opsA _ _ _ _ (⟨_, .fieldAddr _ _ _, _, _, _, _⟩ :: _) _ _; refine O_ev WideF.wide rfl (Ev_fieldAddr rfl rfl rfl) rfl rfl ?_)))
    exact Shift.to rfl ⟨rfl, rfl, rfl, ⟨rfl, rfl, rfl, rfl, rfl, rfl, rfl, rfl, trivial⟩, Own.subi [0, 1, 2] (by decide) rfl rfl⟩
  rintro s rfl
  refine A_seq ?_
  refine A_cutu (fun s => ∃ (i : Nat) (a : Option Addr) (n c : Nat) (p : List (List Value)), i ≤ ln ∧ ltCnt k q.layers = i ∧ p.length = n ∧ n ≤ i ∧ p = (q.layers.take i).map lrow ∧ s = ⟨102, (10, .int .i64 i) :: (9, .slice a n c) :: yEnv k ra rn rc sa sn sc la ln lc b4 b8, H, [.row (.slice a n c) 4 p, .box b4 [.slice pa pn pc, .int .i64 q.ins, .int .i64 q.move, .slice da dn dc, .slice la ln lc], .box b8 zHead], [], []⟩) ?_ ?_
  · repeat' (first | refine A_block ?_)
    refine A_loopu (fun m s => ∃ (i : Nat) (a : Option Addr) (n c : Nat) (p : List (List Value)), m = ln - i ∧ i ≤ ln ∧ (∀ j y, j < i → q.layers[j]? = some y → y.key < k) ∧ p.length = n ∧ n ≤ i ∧ p = (q.layers.take i).map lrow ∧ s = ⟨102, (10, .int .i64 i) :: (9, .slice a n c) :: yEnv k ra rn rc sa sn sc la ln lc b4 b8, H, [.row (.slice a n c) 4 p, .box b4 [.slice pa pn pc, .int .i64 q.ins, .int .i64 q.move, .slice da dn dc, .slice la ln lc], .box b8 zHead], [], []⟩) ?_ ?_
    · exact Shift.to ⟨_, 0, none, 0, 0, [], rfl, by omega, fun j y hj => absurd hj (by omega), rfl, by omega, by simp, rfl⟩ ⟨rfl, rfl, rfl, ⟨rfl, rfl, rfl, rfl, rfl, rfl, rfl, rfl, trivial⟩, Own.subi [0, 1, 2] (by decide) rfl rfl⟩
    · rintro m s ⟨i, a, n, cc, p, rfl, hi, hall, hpn, hni, hpp, rfl⟩
      by_cases hlt : i < ln
      · obtain ⟨b', o, y, rfl, hyi, hc⟩ := h3.atm i hlt
        have hcy := hc
        unfold lrow at hcy
        by_cases hk : y.key < k
        · repeat' (first | (refine O_ev WideF.wide rfl (Ev_loadH1 rfl (hc 1 _ rfl)) rfl rfl ?_) | (refine O_ev WideF.wide rfl (Ev_loadH rfl hcy rfl) rfl rfl ?_) | refine O_nil ?_ | refine A_seq ?_ | refine A_region ?_ | refine A_skip ?_ | refine A_block ?_ | (show opsA _ _ _ _ _ _ _; first | (refine O_split rfl rfl (fun h => ?_) (fun h => ?_) <;> try (exfalso; omega)) | refine O_ev WideF.wide rfl (Ev_pure rfl) rfl rfl ?_ | (show opsA _ _ _ _ (⟨_, .indexAddr _ _ _, _, _, _, _⟩ :: _) _ _; refine O_ev WideF.wide rfl (Ev_indexAddr rfl rfl (by omega) (by omega)) rfl rfl ?_) | (show opsA _ _ _ _ (⟨_, .fieldAddr _ _ _, _, _, _, _⟩ :: _) _ _; refine O_ev WideF.wide rfl (Ev_fieldAddr rfl rfl rfl) rfl rfl ?_) | (show opsA _ _ _ _ (⟨_, .call _, _, _, _, _⟩ :: _) _ _; first | refine O_ev WideF.wide rfl (Ev_llen rfl) rfl rfl ?_ | (refine O_f1 (O_ef rfl (Ef_appendR WideF.wide rfl rfl rfl rfl rfl (by simp; omega) (by simp; omega) rfl ?_)); intro a cp)) | (show opsA _ _ _ _ (⟨_, .buildSlice _ _ _, _, _, _, _⟩ :: _) _ _; (refine O_ef rfl (Ef_build1a WideF.wide rfl rfl rfl rfl rfl ?_); intro b)) | (show opsA _ _ _ _ (⟨_, .binOp _ _ _ _ _, _, _, _, _⟩ :: _) _ _; refine O_ev WideF.wide rfl (Ev_add rfl rfl (wi64 (by omega))) rfl rfl ?_)) | (show wpA _ _ _ (.cond _ _ _) _ _ _ _; (refine A_if rfl (fun h => ?_) (fun h => ?_) <;> try (exfalso; omega))))
          refine Shift.to ⟨_, ?_, i + 1, _, _, _, p ++ [lrow y], rfl, by omega, fun j w hj hw => ?_, rfl, by simp; omega, by rw [take_get hyi, hpp]; simp, rfl⟩ ⟨rfl, rfl, rfl, ⟨rfl, rfl, rfl, rfl, rfl, rfl, rfl, rfl, trivial⟩, Own.subi [0, 1, 2] (by decide) rfl rfl⟩
          · omega
          · by_cases hji : j = i
            · subst hji; rw [hyi] at hw; cases hw; exact hk
            · exact hall j w (by omega) hw
        · repeat' (first | (refine O_ev WideF.wide rfl (Ev_loadH1 rfl (hc 1 _ rfl)) rfl rfl ?_) | refine O_nil ?_ | refine A_seq ?_ | refine A_region ?_ | (show opsA _ _ _ _ _ _ _; first | (refine O_split rfl rfl (fun h => ?_) (fun h => ?_) <;> try (exfalso; omega)) | refine O_ev WideF.wide rfl (Ev_pure rfl) rfl rfl ?_ | (show opsA _ _ _ _ (⟨_, .indexAddr _ _ _, _, _, _, _⟩ :: _) _ _; refine O_ev WideF.wide rfl (Ev_indexAddr rfl rfl (by omega) (by omega)) rfl rfl ?_) | (show opsA _ _ _ _ (⟨_, .fieldAddr _ _ _, _, _, _, _⟩ :: _) _ _; refine O_ev WideF.wide rfl (Ev_fieldAddr rfl rfl rfl) rfl rfl ?_) | (show opsA _ _ _ _ (⟨_, .call _, _, _, _, _⟩ :: _) _ _; refine O_ev WideF.wide rfl (Ev_llen rfl) rfl rfl ?_)) | (show wpA _ _ _ (.exit _) _ _ _ _; refine A_exit rfl ?_) | (show wpA _ _ _ (.cond _ _ _) _ _ _ _; (refine A_if rfl (fun h => ?_) (fun h => ?_) <;> try (exfalso; omega))))
          exact Shift.to ⟨i, a, n, cc, p, hi, ltCnt_is (by omega) hall (fun w hw => by rw [hyi] at hw; cases hw; exact hk), hpn, hni, hpp, rfl⟩ ⟨rfl, rfl, rfl, ⟨rfl, rfl, rfl, rfl, rfl, rfl, rfl, rfl, trivial⟩, Own.subi [0, 1, 2] (by decide) rfl rfl⟩
      · repeat' (first | refine O_nil ?_ | refine A_seq ?_ | refine A_region ?_ | (show opsA _ _ _ _ _ _ _; first | (refine O_split rfl rfl (fun h => ?_) (fun h => ?_) <;> try (exfalso; omega)) | refine O_ev WideF.wide rfl (Ev_pure rfl) rfl rfl ?_ | (show opsA _ _ _ _ (⟨_, .call _, _, _, _, _⟩ :: _) _ _; refine O_ev WideF.wide rfl (Ev_llen rfl) rfl rfl ?_) | refine O_skip WideF.wide rfl rfl rfl ?_) | (show wpA _ _ _ (.exit _) _ _ _ _; refine A_exit rfl ?_) | (show wpA _ _ _ (.cond _ _ _) _ _ _ _; refine A_iffalse rfl ?_))
        exact Shift.to ⟨i, a, n, cc, p, hi, ltCnt_is (by omega) hall (fun w hw => by rw [List.getElem?_eq_none (by omega)] at hw; cases hw), hpn, hni, hpp, rfl⟩ ⟨rfl, rfl, rfl, ⟨rfl, rfl, rfl, rfl, rfl, rfl, rfl, rfl, trivial⟩, Own.subi [0, 1, 2] (by decide) rfl rfl⟩
  rintro s ⟨i, a1, n1, c1, p1, hi, hcnt, hpn1, hn1, hp1, rfl⟩
  refine A_seq ?_
  refine A_cutu (fun s => ∃ (a : Option Addr) (n c : Nat) (p : List (List Value)), p.length = n ∧ n ≤ i + rn ∧ p = (q.layers.take i ++ newL k R S).map lrow ∧ s = ⟨102, (10, .int .i64 i) :: (9, .slice a n c) :: yEnv k ra rn rc sa sn sc la ln lc b4 b8, H, [.row (.slice a n c) 4 p, .box b4 [.slice pa pn pc, .int .i64 q.ins, .int .i64 q.move, .slice da dn dc, .slice la ln lc], .box b8 zHead], [], []⟩) ?_ ?_
  · repeat' (first | refine O_nil ?_ | refine A_seq ?_ | refine A_region ?_ | refine A_block ?_ | (show opsA _ _ _ _ _ _ _; refine O_ev WideF.wide rfl (Ev_pure rfl) rfl rfl ?_))
    refine A_loopu (fun m s => ∃ (j : Nat) (a : Option Addr) (n c : Nat) (p : List (List Value)), m = rn - j ∧ j ≤ rn ∧ p.length = n ∧ n ≤ i + j ∧ p = (q.layers.take i ++ newL k (R.take j) (S.take j)).map lrow ∧ s = ⟨102, (12, .int .i64 j) :: (10, .int .i64 i) :: (9, .slice a n c) :: yEnv k ra rn rc sa sn sc la ln lc b4 b8, H, [.row (.slice a n c) 4 p, .box b4 [.slice pa pn pc, .int .i64 q.ins, .int .i64 q.move, .slice da dn dc, .slice la ln lc], .box b8 zHead], [], []⟩) ?_ ?_
    · exact Shift.to ⟨_, 0, a1, n1, c1, p1, rfl, by omega, hpn1, by omega, by simp [newL, hp1], rfl⟩ ⟨rfl, rfl, rfl, ⟨rfl, rfl, rfl, rfl, rfl, rfl, rfl, rfl, rfl, trivial⟩, Own.subi [0, 1, 2] (by decide) rfl rfl⟩
    · rintro m s ⟨j, a, n, cc, p, rfl, hj, hpn, hnj, hpp, rfl⟩
      by_cases hlt : j < rn
      · obtain ⟨b', o, r, rfl, hrj, hcr⟩ := hR.atm j hlt
        obtain ⟨b2, o2, s, rfl, hsj, hcs⟩ := hS.atm j (by omega)
        have hsn := newL_snoc (k := k) hrj hsj
        unfold irow at hcr
        obtain ⟨sv, ss⟩ := s
        unfold stc at hcs
        cases ss with
        | true =>
          repeat' (first | (refine A_drawi WideF.wide (.q 0 (.q 1 (.q 2 (.q 3 (.q 4 (.q 5 (.q 6 (.q 7 (.q 8 (.q 9 (.p 10 (.e 11 (.r (.e 12 (.done []))))))))))))))) [12] [] [0, 1, 2] (by decide +kernel) (by decide) rfl ?_; simp only [Own.picks, Own.rget, List.cons_append, List.nil_append, List.append_nil]) | (refine D_ev rfl (Ev_loadH1 rfl (hcr 0 _ rfl)) rfl rfl ?_) | (refine D_ev rfl (Ev_loadH1 rfl (hcs 1 _ rfl)) rfl rfl ?_) | (refine O_ev WideF.wide rfl (Ev_loadH1 rfl (hcs 1 _ rfl)) rfl rfl ?_) | (refine O_ev WideF.wide rfl (Ev_loadH1 rfl (hcs 0 _ rfl)) rfl rfl ?_) | refine O_nil ?_ | refine A_seq ?_ | refine A_region ?_ | refine A_skip ?_ | refine A_block ?_ | (show drJ _ _ _ _ _ _ _ (.q _ _) _; refine D_q rfl ?_) | (show drJ _ _ _ _ _ _ _ (.e _ _) _; refine D_e rfl ?_) | (show drJ _ _ _ _ _ _ _ (.r _) _; refine D_r ?_; simp only [List.cons_append, List.nil_append]) | (show drJ _ _ _ _ _ _ _ (.done _) _; refine D_done ?_; simp only [List.cons_append, List.nil_append]) | (show drQ _ _ _ _ _ _; first | refine D_ev rfl (Ev_pure rfl) rfl rfl ?_ | (show drQ _ _ _ ⟨_, .indexAddr _ _ _, _, _, _, _⟩ _ _; refine D_ev rfl (Ev_indexAddr rfl rfl (by omega) (by omega)) rfl rfl ?_) | (show drQ _ _ _ ⟨_, .fieldAddr _ _ _, _, _, _, _⟩ _ _; refine D_ev rfl (Ev_fieldAddr rfl rfl rfl) rfl rfl ?_)) | (show drJ _ _ _ _ _ _ _ (.p _ _) _; refine D_p rfl ?_) | (show drP _ _ _ _ _ _; (show drP _ _ _ ⟨_, .build _ _, _, _, _, _⟩ _ _; refine D_pv rfl (Ev_build (vs := [(_, _), (_, _), (_, _)]) ⟨rfl, rfl, rfl, rfl, rfl, rfl, trivial⟩ rfl) rfl rfl ?_)) | (show drE _ _ _ _ _ _ _; first | (show drE _ _ _ _ ⟨_, .alloc _, _, _, _, _⟩ _ _; (refine E_ef rfl (Ef_alloc WideF.wide rfl ?_); intro b; refine ⟨Grow.same rfl rfl, ?_⟩)) | (show drE _ _ _ _ ⟨_, .store _ _ _, _, _, _, _⟩ _ _; (refine E_ef rfl (Ef_storew WideF.wide rfl rfl rfl rfl rfl ?_); refine ⟨Grow.same rfl rfl, ?_⟩))) | (show opsA _ _ _ _ _ _ _; first | refine O_ev WideF.wide rfl (Ev_pure rfl) rfl rfl ?_ | (show opsA _ _ _ _ (⟨_, .load _ _, _, _, _, _⟩ :: _) _ _; refine O_ev WideF.wide rfl (Ev_loadB (i := 0) rfl rfl rfl) rfl rfl ?_) | (show opsA _ _ _ _ (⟨_, .indexAddr _ _ _, _, _, _, _⟩ :: _) _ _; refine O_ev WideF.wide rfl (Ev_indexAddr rfl rfl (by omega) (by omega)) rfl rfl ?_) | (show opsA _ _ _ _ (⟨_, .fieldAddr _ _ _, _, _, _, _⟩ :: _) _ _; refine O_ev WideF.wide rfl (Ev_fieldAddr rfl rfl rfl) rfl rfl ?_) | (show opsA _ _ _ _ (⟨_, .call _, _, _, _, _⟩ :: _) _ _; first | refine O_ev WideF.wide rfl (Ev_llen rfl) rfl rfl ?_ | (refine O_f2 (O_ef rfl (Ef_appendR WideF.wide rfl rfl rfl rfl rfl (by simp; omega) (by simp; omega) rfl ?_)); intro a cp)) | (show opsA _ _ _ _ (⟨_, .buildSlice _ _ _, _, _, _, _⟩ :: _) _ _; (refine O_ef rfl (Ef_build1a WideF.wide rfl rfl rfl rfl rfl ?_); intro b)) | (show opsA _ _ _ _ (⟨_, .binOp _ _ _ _ _, _, _, _, _⟩ :: _) _ _; refine O_ev WideF.wide rfl (Ev_add rfl rfl (wi64 (by omega))) rfl rfl ?_) | (show opsA _ _ _ _ (⟨_, .store _ _ _, _, _, _, _⟩ :: _) _ _; refine O_ef rfl (Ef_store1 WideF.wide rfl rfl rfl rfl rfl ?_))) | (show wpA _ _ _ (.cond _ _ _) _ _ _ _; first | (refine A_if rfl (fun h => ?_) (fun h => ?_) <;> try (exfalso; omega)) | refine A_iftrue rfl ?_))
          refine Shift.to ⟨_, ?_, j + 1, _, _, _, p ++ [lrow ⟨r, k, sv, true⟩], rfl, by omega, rfl, by simp; omega, by rw [hsn, hpp]; simp, rfl⟩ ⟨rfl, rfl, rfl, ⟨rfl, rfl, rfl, rfl, rfl, rfl, rfl, rfl, rfl, trivial⟩, Own.subi [0, 2, 3] (by decide) rfl rfl⟩
          omega
        | false =>
          repeat' (first | (refine A_drawi WideF.wide (.q 0 (.q 1 (.q 2 (.q 3 (.q 4 (.q 5 (.q 6 (.q 7 (.q 8 (.q 9 (.p 10 (.e 11 (.r (.e 12 (.done []))))))))))))))) [12] [] [0, 1, 2] (by decide +kernel) (by decide) rfl ?_; simp only [Own.picks, Own.rget, List.cons_append, List.nil_append, List.append_nil]) | (refine D_ev rfl (Ev_loadH1 rfl (hcr 0 _ rfl)) rfl rfl ?_) | (refine D_ev rfl (Ev_loadH1 rfl (hcs 1 _ rfl)) rfl rfl ?_) | (refine O_ev WideF.wide rfl (Ev_loadH1 rfl (hcs 1 _ rfl)) rfl rfl ?_) | refine O_nil ?_ | refine A_seq ?_ | refine A_region ?_ | refine A_skip ?_ | refine A_block ?_ | (show drJ _ _ _ _ _ _ _ (.q _ _) _; refine D_q rfl ?_) | (show drJ _ _ _ _ _ _ _ (.e _ _) _; refine D_e rfl ?_) | (show drJ _ _ _ _ _ _ _ (.r _) _; refine D_r ?_; simp only [List.cons_append, List.nil_append]) | (show drJ _ _ _ _ _ _ _ (.done _) _; refine D_done ?_; simp only [List.cons_append, List.nil_append]) | (show drQ _ _ _ _ _ _; first | refine D_ev rfl (Ev_pure rfl) rfl rfl ?_ | (show drQ _ _ _ ⟨_, .indexAddr _ _ _, _, _, _, _⟩ _ _; refine D_ev rfl (Ev_indexAddr rfl rfl (by omega) (by omega)) rfl rfl ?_) | (show drQ _ _ _ ⟨_, .fieldAddr _ _ _, _, _, _, _⟩ _ _; refine D_ev rfl (Ev_fieldAddr rfl rfl rfl) rfl rfl ?_)) | (show drJ _ _ _ _ _ _ _ (.p _ _) _; refine D_p rfl ?_) | (show drP _ _ _ _ _ _; (show drP _ _ _ ⟨_, .build _ _, _, _, _, _⟩ _ _; refine D_pv rfl (Ev_build (vs := [(_, _), (_, _), (_, _)]) ⟨rfl, rfl, rfl, rfl, rfl, rfl, trivial⟩ rfl) rfl rfl ?_)) | (show drE _ _ _ _ _ _ _; first | (show drE _ _ _ _ ⟨_, .alloc _, _, _, _, _⟩ _ _; (refine E_ef rfl (Ef_alloc WideF.wide rfl ?_); intro b; refine ⟨Grow.same rfl rfl, ?_⟩)) | (show drE _ _ _ _ ⟨_, .store _ _ _, _, _, _, _⟩ _ _; (refine E_ef rfl (Ef_storew WideF.wide rfl rfl rfl rfl rfl ?_); refine ⟨Grow.same rfl rfl, ?_⟩))) | (show opsA _ _ _ _ _ _ _; first | refine O_ev WideF.wide rfl (Ev_pure rfl) rfl rfl ?_ | (show opsA _ _ _ _ (⟨_, .load _ _, _, _, _, _⟩ :: _) _ _; refine O_ev WideF.wide rfl (Ev_loadB (i := 0) rfl rfl rfl) rfl rfl ?_) | (show opsA _ _ _ _ (⟨_, .indexAddr _ _ _, _, _, _, _⟩ :: _) _ _; refine O_ev WideF.wide rfl (Ev_indexAddr rfl rfl (by omega) (by omega)) rfl rfl ?_) | (show opsA _ _ _ _ (⟨_, .fieldAddr _ _ _, _, _, _, _⟩ :: _) _ _; refine O_ev WideF.wide rfl (Ev_fieldAddr rfl rfl rfl) rfl rfl ?_) | (show opsA _ _ _ _ (⟨_, .call _, _, _, _, _⟩ :: _) _ _; first | refine O_ev WideF.wide rfl (Ev_llen rfl) rfl rfl ?_ | (refine O_f2 (O_ef rfl (Ef_appendR WideF.wide rfl rfl rfl rfl rfl (by simp; omega) (by simp; omega) rfl ?_)); intro a cp)) | (show opsA _ _ _ _ (⟨_, .buildSlice _ _ _, _, _, _, _⟩ :: _) _ _; (refine O_ef rfl (Ef_build1a WideF.wide rfl rfl rfl rfl rfl ?_); intro b)) | (show opsA _ _ _ _ (⟨_, .binOp _ _ _ _ _, _, _, _, _⟩ :: _) _ _; refine O_ev WideF.wide rfl (Ev_add rfl rfl (wi64 (by omega))) rfl rfl ?_)) | (show wpA _ _ _ (.cond _ _ _) _ _ _ _; first | (refine A_if rfl (fun h => ?_) (fun h => ?_) <;> try (exfalso; omega)) | refine A_iffalse rfl ?_))
          refine Shift.to ⟨_, ?_, j + 1, _, _, _, p ++ [lrow ⟨r, k, 0, false⟩], rfl, by omega, rfl, by simp; omega, by rw [hsn, hpp]; simp, rfl⟩ ⟨rfl, rfl, rfl, ⟨rfl, rfl, rfl, rfl, rfl, rfl, rfl, rfl, rfl, trivial⟩, Own.subi [0, 2, 3] (by decide) rfl rfl⟩
          omega
      · have hjr : rn = j := by omega
        subst hjr
        repeat' (first | refine O_nil ?_ | refine A_seq ?_ | refine A_region ?_ | (show opsA _ _ _ _ _ _ _; first | refine O_ev WideF.wide rfl (Ev_pure rfl) rfl rfl ?_ | (show opsA _ _ _ _ (⟨_, .call _, _, _, _, _⟩ :: _) _ _; refine O_ev WideF.wide rfl (Ev_llen rfl) rfl rfl ?_)) | (show wpA _ _ _ (.exit _) _ _ _ _; refine A_exit rfl ?_) | (show wpA _ _ _ (.cond _ _ _) _ _ _ _; (refine A_if rfl (fun h => ?_) (fun h => ?_) <;> try (exfalso; omega))))
        rw [List.take_of_length_le (l := R) (by omega), newL_take (by omega)] at hpp
        exact Shift.to ⟨a, n, cc, p, hpn, hnj, hpp, rfl⟩ ⟨rfl, rfl, rfl, ⟨rfl, rfl, rfl, rfl, rfl, rfl, rfl, rfl, trivial⟩, Own.subi [0, 1, 2] (by decide) rfl rfl⟩
  rintro s ⟨a2, n2, c2, p2, hpn2, hn2, hp2, rfl⟩
  refine A_seq ?_
  refine A_cutu (fun s => s = ⟨102, (10, .int .i64 (i + grp k (q.layers.drop i) : Nat)) :: (9, .slice a2 n2 c2) :: yEnv k ra rn rc sa sn sc la ln lc b4 b8, H, [.row (.slice a2 n2 c2) 4 p2, .box b4 [.slice pa pn pc, .int .i64 q.ins, .int .i64 q.move, .slice da dn dc, .slice la ln lc], .box b8 zHead], [], []⟩) ?_ ?_
  · repeat' (first | refine A_block ?_)
    refine A_loopu (fun m s => ∃ (j : Nat), m = ln - (i + j) ∧ i + j ≤ ln ∧ (∀ u y, u < j → (q.layers.drop i)[u]? = some y → y.key = k) ∧ s = ⟨102, (10, .int .i64 (i + j : Nat)) :: (9, .slice a2 n2 c2) :: yEnv k ra rn rc sa sn sc la ln lc b4 b8, H, [.row (.slice a2 n2 c2) 4 p2, .box b4 [.slice pa pn pc, .int .i64 q.ins, .int .i64 q.move, .slice da dn dc, .slice la ln lc], .box b8 zHead], [], []⟩) ?_ ?_
    · exact Shift.to ⟨_, 0, rfl, by omega, fun u y hu => absurd hu (by omega), rfl⟩ ⟨rfl, rfl, rfl, ⟨rfl, rfl, rfl, rfl, rfl, rfl, rfl, rfl, trivial⟩, Own.subi [0, 1, 2] (by decide) rfl rfl⟩
    · rintro m s ⟨j, rfl, hj, hall, rfl⟩
      by_cases hlt : i + j < ln
      · obtain ⟨b', o, y, rfl, hyi, hc⟩ := h3.atm (i + j) hlt
        unfold lrow at hc
        have hyd : (q.layers.drop i)[j]? = some y := by rw [List.getElem?_drop]; exact hyi
        by_cases hk : y.key = k
        · repeat' (first | (refine O_ev WideF.wide rfl (Ev_loadH1 rfl (hc 1 _ rfl)) rfl rfl ?_) | refine O_nil ?_ | refine A_seq ?_ | refine A_region ?_ | refine A_skip ?_ | refine A_block ?_ | (show opsA _ _ _ _ _ _ _; first | (refine O_split rfl rfl (fun h => ?_) (fun h => ?_) <;> try (exfalso; omega)) | refine O_ev WideF.wide rfl (Ev_pure rfl) rfl rfl ?_ | (show opsA _ _ _ _ (⟨_, .indexAddr _ _ _, _, _, _, _⟩ :: _) _ _; refine O_ev WideF.wide rfl (Ev_indexAddr rfl rfl (by omega) (by omega)) rfl rfl ?_) | (show opsA _ _ _ _ (⟨_, .fieldAddr _ _ _, _, _, _, _⟩ :: _) _ _; refine O_ev WideF.wide rfl (Ev_fieldAddr rfl rfl rfl) rfl rfl ?_) | (show opsA _ _ _ _ (⟨_, .call _, _, _, _, _⟩ :: _) _ _; refine O_ev WideF.wide rfl (Ev_llen rfl) rfl rfl ?_) | (show opsA _ _ _ _ (⟨_, .binOp _ _ _ _ _, _, _, _, _⟩ :: _) _ _; refine O_ev WideF.wide rfl (Ev_add rfl rfl (wi64 (by omega))) rfl rfl ?_)) | (show wpA _ _ _ (.cond _ _ _) _ _ _ _; (refine A_if rfl (fun h => ?_) (fun h => ?_) <;> try (exfalso; omega))))
          refine Shift.to ⟨_, ?_, j + 1, rfl, by omega, fun u w hu hw => ?_, rfl⟩ ⟨rfl, rfl, rfl, ⟨rfl, rfl, rfl, rfl, rfl, rfl, rfl, rfl, trivial⟩, Own.subi [0, 1, 2] (by decide) rfl rfl⟩
          · omega
          · by_cases huj : u = j
            · subst huj; rw [hyd] at hw; cases hw; exact hk
            · exact hall u w (by omega) hw
        · repeat' (first | (refine O_ev WideF.wide rfl (Ev_loadH1 rfl (hc 1 _ rfl)) rfl rfl ?_) | refine O_nil ?_ | refine A_seq ?_ | refine A_region ?_ | (show opsA _ _ _ _ _ _ _; first | (refine O_split rfl rfl (fun h => ?_) (fun h => ?_) <;> try (exfalso; omega)) | refine O_ev WideF.wide rfl (Ev_pure rfl) rfl rfl ?_ | (show opsA _ _ _ _ (⟨_, .indexAddr _ _ _, _, _, _, _⟩ :: _) _ _; refine O_ev WideF.wide rfl (Ev_indexAddr rfl rfl (by omega) (by omega)) rfl rfl ?_) | (show opsA _ _ _ _ (⟨_, .fieldAddr _ _ _, _, _, _, _⟩ :: _) _ _; refine O_ev WideF.wide rfl (Ev_fieldAddr rfl rfl rfl) rfl rfl ?_) | (show opsA _ _ _ _ (⟨_, .call _, _, _, _, _⟩ :: _) _ _; refine O_ev WideF.wide rfl (Ev_llen rfl) rfl rfl ?_)) | (show wpA _ _ _ (.exit _) _ _ _ _; refine A_exit rfl ?_) | (show wpA _ _ _ (.cond _ _ _) _ _ _ _; (refine A_if rfl (fun h => ?_) (fun h => ?_) <;> try (exfalso; omega))))
          have hg : grp k (q.layers.drop i) = j := grp_is (by rw [List.length_drop]; omega) hall (fun w hw => by rw [hyd] at hw; cases hw; exact hk)
          rw [hg]
          exact Shift.to rfl ⟨rfl, rfl, rfl, ⟨rfl, rfl, rfl, rfl, rfl, rfl, rfl, rfl, trivial⟩, Own.subi [0, 1, 2] (by decide) rfl rfl⟩
      · repeat' (first | refine O_nil ?_ | refine A_seq ?_ | refine A_region ?_ | (show opsA _ _ _ _ _ _ _; first | (refine O_split rfl rfl (fun h => ?_) (fun h => ?_) <;> try (exfalso; omega)) | refine O_ev WideF.wide rfl (Ev_pure rfl) rfl rfl ?_ | (show opsA _ _ _ _ (⟨_, .call _, _, _, _, _⟩ :: _) _ _; refine O_ev WideF.wide rfl (Ev_llen rfl) rfl rfl ?_) | refine O_skip WideF.wide rfl rfl rfl ?_) | (show wpA _ _ _ (.exit _) _ _ _ _; refine A_exit rfl ?_) | (show wpA _ _ _ (.cond _ _ _) _ _ _ _; refine A_iffalse rfl ?_))
        have hg : grp k (q.layers.drop i) = j := grp_is (by rw [List.length_drop]; omega) hall (fun w hw => by rw [List.getElem?_eq_none (by rw [List.length_drop]; omega)] at hw; cases hw)
        rw [hg]
        exact Shift.to rfl ⟨rfl, rfl, rfl, ⟨rfl, rfl, rfl, rfl, rfl, rfl, rfl, rfl, trivial⟩, Own.subi [0, 1, 2] (by decide) rfl rfl⟩
  rintro s rfl
  have hgl := grp_le k (q.layers.drop i)
  rw [List.length_drop] at hgl
  obtain ⟨j, hj⟩ : ∃ j, j = i + grp k (q.layers.drop i) := ⟨_, rfl⟩
  rw [← hj]
  have hlw := h3.slice (i := j) (j := ln) (by omega) (Nat.le_refl _)
  refine A_seq ?_
  refine A_cutu (fun s => ∃ (a : Option Addr) (n c : Nat) (p : List (List Value)), p = (layLs q k R S).map lrow ∧ s = ⟨102, yEnv k ra rn rc sa sn sc la ln lc b4 b8, H, [.row (.slice a n c) 4 p, .box b4 [.slice pa pn pc, .int .i64 q.ins, .int .i64 q.move, .slice da dn dc, .slice a n c], .box b8 zHead], [], []⟩) ?_ ?_
  · repeat' (first | (refine O_ev WideF.wide rfl (Ev_lslicel rfl rfl (by omega) (by omega)) rfl rfl ?_) | (refine O_ef rfl (Ef_appendH WideF.wide rfl rfl hlw rfl rfl (by simp; omega) (by simp; omega) rfl ?_); intro a4 c4) | refine O_nil ?_ | refine A_region ?_ | (show opsA _ _ _ _ _ _ _; first | refine O_ev WideF.wide rfl (Ev_pure rfl) rfl rfl ?_ | (show opsA _ _ _ _ (⟨_, .fieldAddr _ _ _, _, _, _, _⟩ :: _) _ _; refine O_ev WideF.wide rfl (Ev_fieldAddr rfl rfl rfl) rfl rfl ?_) | (show opsA _ _ _ _ (⟨_, .store _ _ _, _, _, _, _⟩ :: _) _ _; refine O_f1 (O_ef rfl (Ef_store1 WideF.wide rfl rfl rfl rfl rfl ?_)))))
    refine Shift.to ⟨_, _, _, _, ?_, rfl⟩ ⟨rfl, rfl, rfl, ⟨rfl, rfl, rfl, rfl, rfl, rfl, trivial⟩, Own.subi [1, 0, 2] (by decide) rfl rfl⟩
    unfold layLs
    rw [hcnt, ← hj, hp2, List.take_of_length_le (l := (q.layers.map lrow).drop j) (by simp; omega)]
    simp [List.map_drop]
  rintro s ⟨a5, n5, c5, p5, hp5, rfl⟩
  refine A_freeze (by rw [hp5]; exact lrow_one _) ?_
  intro H2 hle2 hr5
  have hr5 := hr5.cong hp5.symm
  obtain ⟨bz, oz, z', hsa, hz', hcz⟩ := (hS.mono hle2).atm R.length (by omega)
  rw [hz] at hz'
  cases hz'
  have hcz' : HCells H2 bz (oz + ((sn : Int) - 1).toNat * 2) (stc z) := by rw [show ((sn : Int) - 1).toNat = R.length by omega]; exact hcz
  unfold stc at hcz'
  have hw := lawWith_fn (k := k) (s := z) (h := ⟨q.props, q.ins, q.move, q.dels, layLs q k R S⟩) ⟨⟨pa, pn, pc, da, dn, dc, a5, n5, c5, rfl, h1.mono hle2, h2.mono hle2, hr5⟩⟩ hs (by show q.props.length < _; omega)
  subst hsa
  refine A_seq ?_
  refine A_cutu (fun s => ∃ (H3 : Hp) (cs : List Value), HLe H2 H3 ∧ HeadH H3 cs (layH q k R S z) ∧ s = ⟨102, [(8, ptr b8)], H3, [.box b8 cs], [], []⟩) ?_ ?_
  · (refine A_drawi WideF.wide (.q 0 (.q 1 (.q 2 (.p 3 (.q 4 (.q 5 (.q 6 (.q 7 (.r (.e 8 (.e 9 (.done [])))))))))))) [8, 9] [] [0, 1] (by decide +kernel) (by decide) rfl ?_; simp only [Own.picks, Own.rget, List.cons_append, List.nil_append, List.append_nil])
    repeat' (first | (refine D_ev rfl (Ev_loadH rfl hcz' rfl) rfl rfl ?_) | (refine E_ef rfl (Ef_call (I := []) WideF.wide hw ⟨rfl, rfl, rfl, trivial⟩ rfl ?_); rintro v H3 I3 hle3 ⟨⟨cs3, rfl, hcs3⟩, rfl⟩; obtain ⟨pa', pn', pc', da', dn', dc', la', ln', lc', rfl, h1', h2', h3'⟩ := hcs3.ex; refine ⟨⟨hle3, rfl⟩, ?_⟩) | refine O_nil ?_ | (show drJ _ _ _ _ _ _ _ (.q _ _) _; refine D_q rfl ?_) | (show drJ _ _ _ _ _ _ _ (.e _ _) _; refine D_e rfl ?_) | (show drJ _ _ _ _ _ _ _ (.r _) _; refine D_r ?_; simp only [List.cons_append, List.nil_append]) | (show drJ _ _ _ _ _ _ _ (.done _) _; refine D_done ?_; simp only [List.cons_append, List.nil_append]) | (show drQ _ _ _ _ _ _; first | refine D_ev rfl (Ev_pure rfl) rfl rfl ?_ | (show drQ _ _ _ ⟨_, .load _ _, _, _, _, _⟩ _ _; refine D_ev rfl (Ev_loadB (i := 0) rfl rfl rfl) rfl rfl ?_) | (show drQ _ _ _ ⟨_, .indexAddr _ _ _, _, _, _, _⟩ _ _; refine D_ev rfl (Ev_indexAddr rfl rfl (by omega) (by omega)) rfl rfl ?_) | (show drQ _ _ _ ⟨_, .call _, _, _, _, _⟩ _ _; refine D_ev rfl (Ev_llen rfl) rfl rfl ?_) | (show drQ _ _ _ ⟨_, .binOp _ _ _ _ _, _, _, _, _⟩ _ _; refine D_ev rfl (Ev_sub rfl rfl (wi64 (by omega))) rfl rfl ?_)) | (show drJ _ _ _ _ _ _ _ (.p _ _) _; refine D_p rfl ?_) | (show drP _ _ _ _ _ _; refine D_pv rfl (Ev_pure rfl) rfl rfl ?_) | (show drE _ _ _ _ _ _ _; (show drE _ _ _ _ ⟨_, .store _ _ _, _, _, _, _⟩ _ _; (refine E_ef rfl (Ef_f1 (Ef_storew WideF.wide rfl rfl rfl rfl rfl ?_)); refine ⟨Grow.same rfl rfl, ?_⟩))))
    exact Shift.to ⟨_, _, hle3, hcs3, rfl⟩ ⟨rfl, rfl, rfl, ⟨rfl, trivial⟩, Own.subi [0] (by decide) rfl rfl⟩
  rintro s ⟨H3, cs, hle3, hcs3, rfl⟩
  obtain ⟨pa', pn', pc', da', dn', dc', la', ln', lc', rfl, h1', h2', h3'⟩ := hcs3.ex
  repeat' (first | refine A_ret ?_)
  refine End_e (RetC rfl rfl (i := 0) rfl rfl) ?_
  exact ⟨⟨_, rfl, hcs3⟩, rfl⟩
end Go.Proofs.Ythniohgeojenaaa
