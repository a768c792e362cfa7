/-
  The runs of layers with one key: mark.groups.
-/
import Derived.Test.YthniohgeojenaaaM6
namespace Go.Proofs.Ythniohgeojenaaa
open Go
set_option linter.unusedVariables false
set_option linter.unusedSimpArgs false
section
variable {F : Fence} {P : Program} {c : Ctx} {ops : List Oper} {K : SP} {X : List (Nat × SP)} {R : SP}
/-- a region that draws: all that is owned is held -/
theorem A_drawL (hF : WideF F) [hm : MixC P] {id n : Nat} {e : Env} {H : Hp} {M L : Own} {D : List Deferred} (p : Plan) (S : List Nat) (hp : p.all ops.toArray S = true) (h : drJ F P c ops K M L p ⟨n, e, H, [], M ++ L, D⟩) : wpA F P c (.region id ops.toArray true) K X R ⟨n, e, H, M, L, D⟩ :=
  A_draw (s := ⟨n, e, H, M, L, D⟩) (Lh := M) (M' := []) hF p S hp (Own.sub_refl _) h
/-- .. all stays at hand -/
theorem A_drawM (hF : WideF F) [hm : MixC P] {id n : Nat} {e : Env} {H : Hp} {M L : Own} {D : List Deferred} (p : Plan) (S : List Nat) (hp : p.all ops.toArray S = true) (h : drJ F P c ops K [] L p ⟨n, e, H, M, L, D⟩) : wpA F P c (.region id ops.toArray true) K X R ⟨n, e, H, M, L, D⟩ :=
  A_draw (s := ⟨n, e, H, M, L, D⟩) (Lh := []) (M' := M) hF p S hp (Own.sub_refl _) h
theorem Ef_yield0 {n d : Nat} {e : Env} {H : Hp} {I L : Own} {D : List Deferred} {ty : TypeId} {pos : String} {after : Array Edge} {g : Option (Nat × Bool)} {at_ : Array TypeId} {z : Operand} {args : List Value} {post : Value → Hp → Own → Prop} (hF : WideF F) {l : Nat} {r : Loop} {xs : Array Operand} (h : RoundFn P l r args H I post) (hz : e.eval z = some (.func (.yield l) #[] #[])) (hx : EvalAll e xs.toList args) (hps : r.params.size = args.length) (hn : Nat.blt d n = true)
    (k : ∀ v H' I', HLe H H' → post v H' I' → K ⟨n, (d, v) :: e, H', I', L, D⟩) :
    Ef F P c ⟨some d, .call { callee := .value z, args := xs, argTypes := at_ }, ty, pos, after, g⟩ ⟨n, e, H, .obj l (.loop r) :: (I ++ []), L, D⟩ K :=
  Ef_yield (M' := []) hF h hz hx hps hn fun v H' I' hle hp => by rw [List.append_nil]; exact k v H' I' hle hp
end
attribute [local irreducible] wpA opsA drJ drQ drE Ef Ev Shift Fn
abbrev groupsV (b : Nat) : Value := .func (.func 99) #[] #[.pointer (some ⟨b, 0, none⟩)]
set_option maxRecDepth 100000 in
theorem groups_fn {H : Hp} {hcs : List Value} {h : Head} (hh : HeadH H hcs h) : Fn Try.prog 81 [.agg hcs.toArray] H [] fun v H' I' => (∃ b, v = groupsV b ∧ HCells H' b 0 hcs) ∧ I' = [] := by
  obtain ⟨pa, pn, pc, da, dn, dc, la, ln, lc, rfl, h1, h2, h3⟩ := hh.ex
  refine Fn_of _ _ Try.func81 rfl Try.ntmps81 rfl fun c => ?_
  repeat' (first | (refine O_freezeBox (by intro u hu; simp at hu; rcases hu with rfl | rfl | rfl | rfl | rfl <;> rfl) ?_; intro H1 hle1 hc1; refine O_ev WideF.wide rfl (Ev_makeFunc (xs := []) (vs := []) (ys := [.tmp 1]) (us := [.pointer (some ⟨_, 0, none⟩)]) rfl rfl) rfl rfl ?_) | refine O_nil ?_ | refine A_seq ?_ | refine A_region ?_ | refine A_ret ?_ | (show opsA _ _ _ _ _ _ _; first | refine O_ev WideF.wide rfl (Ev_pure rfl) rfl rfl ?_ | (show opsA _ _ _ _ (⟨_, .box _ _, _, _, _, _⟩ :: _) _ _; (refine O_ef rfl (Ef_boxa WideF.wide rfl rfl ?_); intro b))))
  exact End_e (Ret1 rfl rfl) ⟨⟨_, rfl, hc1⟩, rfl⟩

/-- how a round of an iterator ends, and the iterator itself: J behind a round that went on, E j behind one that jumped by j -/
def rpost (lo : Nat) (r : Loop) (J : Hp → Own → Prop) (E : Code → Hp → Own → Prop) (v : Value) (H' : Hp) (I' : Own) : Prop :=
  ∃ r' M', I' = .obj lo (.loop r') :: M' ∧ ((v = .bool true ∧ r' = r ∧ J H' M') ∨ ∃ j, v = .bool false ∧ r' = rdone r j ∧ E j H' M')
def ipost (lo : Nat) (r : Loop) (J : Hp → Own → Prop) (E : Code → Hp → Own → Prop) (H' : Hp) (I' : Own) : Prop :=
  ∃ r' M', I' = .obj lo (.loop r') :: M' ∧ ((r' = r ∧ J H' M') ∨ ∃ j, r' = rdone r j ∧ E j H' M')

/-- how many layers at the start have a key -/
def grp (k : Int) : List Layr → Nat
  | [] => 0
  | y :: r => if y.key = k then grp k r + 1 else 0
theorem grp_is : ∀ {k : Int} {l : List Layr} {m : Nat}, m ≤ l.length → (∀ j y, j < m → l[j]? = some y → y.key = k) → (∀ y, l[m]? = some y → y.key ≠ k) → grp k l = m
  | k, [], m, h, _, _ => by simp at h; subst h; rfl
  | k, y :: r, 0, _, _, h => by rw [grp, if_neg (h y (by simp))]
  | k, y :: r, m + 1, h0, h1, h2 => by
    rw [grp, if_pos (h1 0 y (by omega) (by simp)), grp_is (m := m) (by simpa using h0) (fun j z hj hz => h1 (j + 1) z (by omega) (by simpa using hz)) (fun z hz => h2 z (by simpa using hz))]
abbrev grSt (H : Hp) (lo : Nat) (a : Option Addr) (n c : Nat) (r : Loop) (I : Own) : Sta := ⟨42, [(0, .func (.yield lo) #[] #[]), (3, .slice a n c)], H, .obj lo (.loop r) :: I, [], []⟩
abbrev grSt2 (H : Hp) (lo : Nat) (a : Option Addr) (n c : Nat) (q : Nat) (r : Loop) (I : Own) : Sta := ⟨42, [(4, .int .i64 q), (0, .func (.yield lo) #[] #[]), (3, .slice a n c)], H, .obj lo (.loop r) :: I, [], []⟩
set_option maxRecDepth 100000 in
theorem groups1_fn {H : Hp} {la : Option Addr} {ln lc b : Nat} {ls : List Layr} (hx0 : HRow H la ln lc 4 (ls.map lrow)) (hb : H b 4 = some (.slice la ln lc)) (hl : ln < 68719476736) {lo : Nat} {r : Loop} (hps : r.params.size = 2)
    (J : Nat → Hp → Own → Prop) (E : Code → Hp → Own → Prop) {I0 : Own} (h0 : J 0 H I0)
    (hround : ∀ i m y a' c' H1 I1, HLe H H1 → J i H1 I1 → ls[i]? = some y → grp y.key (ls.drop i) = m → 1 ≤ m → i + m ≤ ln → HRow H1 a' m c' 4 (((ls.drop i).take m).map lrow) → RoundFn Try.prog lo r [.int .i64 y.key, .slice a' m c'] H1 I1 (rpost lo r (J (i + m)) E)) :
    Fn Try.prog 99 [.func (.yield lo) #[] #[], .pointer (some ⟨b, 0, none⟩)] H (.obj lo (.loop r) :: I0) fun _ H' I' => ipost lo r (J ln) E H' I' := by
  have e1 : ls.length = ln := by have := hx0.len; simpa using this
  refine Fn_of _ _ Try.func99 rfl Try.ntmps99 rfl fun c => ?_
  repeat' (first | (refine O_ev WideF.wide rfl (Ev_loadH1 rfl hb) rfl rfl ?_) | refine O_nil ?_ | refine A_seq ?_ | refine A_region ?_ | refine A_block ?_ | (show opsA _ _ _ _ _ _ _; first | refine O_ev WideF.wide rfl (Ev_pure rfl) rfl rfl ?_ | (show opsA _ _ _ _ (⟨_, .fieldAddr _ _ _, _, _, _, _⟩ :: _) _ _; refine O_ev WideF.wide rfl (Ev_fieldAddr rfl rfl rfl) rfl rfl ?_)))
  refine A_loopu (fun m s => ∃ (H1 : Hp) (I1 : Own) (i : Nat) (a' : Option Addr) (n' c' : Nat), m = ln - i ∧ i + n' = ln ∧ HLe H H1 ∧ J i H1 I1 ∧ HRow H a' n' c' 4 ((ls.drop i).map lrow) ∧ s = grSt H1 lo a' n' c' r I1) ?_ ?_
  · exact Shift.to ⟨_, H, I0, 0, la, ln, lc, rfl, by omega, HLe.refl _, h0, hx0, rfl⟩ ⟨rfl, rfl, rfl, ⟨rfl, rfl, trivial⟩, Own.sub_refl _⟩
  · rintro m s ⟨H1, I1, i, a', n', c', rfl, hi, hle1, hJ, hr, rfl⟩
    have hx := hr.mono hle1
    have e2 : (ls.drop i).length = n' := by have := hx.len; simpa using this
    by_cases hlt : 0 < n'
    · obtain ⟨b', o, y, rfl, hy, hc⟩ := hx.atm 0 hlt
      have hyi : ls[i]? = some y := by rw [List.getElem?_drop] at hy; simpa using hy
      unfold lrow at hc
      repeat' (first | refine O_nil ?_ | refine A_seq ?_ | refine A_region ?_ | refine A_skip ?_ | refine A_block ?_ | (show opsA _ _ _ _ _ _ _; first | refine O_ev WideF.wide rfl (Ev_pure rfl) rfl rfl ?_ | (show opsA _ _ _ _ (⟨_, .call _, _, _, _, _⟩ :: _) _ _; refine O_ev WideF.wide rfl (Ev_llen rfl) rfl rfl ?_)) | (show wpA _ _ _ (.cond _ _ _) _ _ _ _; (refine A_if rfl (fun h => ?_) (fun h => ?_) <;> try (exfalso; omega))))
      refine A_loopu (fun m s => ∃ q : Nat, m = n' - q ∧ 1 ≤ q ∧ q ≤ n' ∧ (∀ j z, j < q → (ls.drop i)[j]? = some z → z.key = y.key) ∧ s = grSt2 H1 lo (some ⟨b', o, none⟩) n' c' q r I1) ?_ ?_
      · refine Shift.to ⟨_, 1, rfl, by omega, by omega, fun j z hj hz => ?_, rfl⟩ ⟨rfl, rfl, rfl, ⟨rfl, rfl, rfl, trivial⟩, Own.sub_refl _⟩
        have : j = 0 := by omega
        subst this
        rw [hy] at hz; cases hz; rfl
      · rintro m s ⟨q, rfl, hq1, hq, hall, rfl⟩
        by_cases hqn : q < n'
        · obtain ⟨b2, o2, z, hab, hz, hcz⟩ := hx.atm q hqn
          cases hab
          unfold lrow at hcz
          by_cases hkk : z.key = y.key
          · repeat' (first | (refine A_drawL WideF.wide (.q 0 (.q 1 (.q 2 (.q 3 (.q 4 (.q 5 (.q 6 (.q 7 (.q 8 (.q 9 (.q 10 (.q 11 (.q 12 (.q 13 (.q 14 (.q 15 (.done []))))))))))))))))) [] (by decide +kernel) ?_) | (refine D_ev rfl (Ev_loadH1 rfl (hcz 1 _ rfl)) rfl rfl ?_) | (refine D_ev rfl (Ev_loadH1 rfl (hc 1 _ rfl)) rfl rfl ?_) | refine O_nil ?_ | refine A_seq ?_ | refine A_region ?_ | refine A_skip ?_ | refine A_block ?_ | (show drJ _ _ _ _ _ _ _ (.q _ _) _; refine D_q rfl ?_) | (show drJ _ _ _ _ _ _ _ (.done _) _; refine D_done ?_; simp only [List.cons_append, List.nil_append]) | (show drQ _ _ _ _ _ _; first | (refine D_split rfl rfl (fun h => ?_) (fun h => ?_) <;> try (exfalso; omega)) | refine D_ev rfl (Ev_pure rfl) rfl rfl ?_ | (show drQ _ _ _ ⟨_, .indexAddr _ _ _, _, _, _, _⟩ _ _; refine D_ev rfl (Ev_indexAddr rfl rfl (by omega) (by omega)) rfl rfl ?_) | (show drQ _ _ _ ⟨_, .fieldAddr _ _ _, _, _, _, _⟩ _ _; refine D_ev rfl (Ev_fieldAddr rfl rfl rfl) rfl rfl ?_) | (show drQ _ _ _ ⟨_, .call _, _, _, _, _⟩ _ _; refine D_ev rfl (Ev_llen rfl) rfl rfl ?_)) | (show opsA _ _ _ _ _ _ _; first | refine O_ev WideF.wide rfl (Ev_pure rfl) rfl rfl ?_ | (show opsA _ _ _ _ (⟨_, .binOp _ _ _ _ _, _, _, _, _⟩ :: _) _ _; refine O_ev WideF.wide rfl (Ev_add rfl rfl (wi64 (by omega))) rfl rfl ?_)) | (show wpA _ _ _ (.cond _ _ _) _ _ _ _; (refine A_if rfl (fun h => ?_) (fun h => ?_) <;> try (exfalso; omega))))
            refine Shift.to ⟨_, ?_, q + 1, rfl, by omega, by omega, fun j u hj hu => ?_, rfl⟩ ⟨rfl, rfl, rfl, ⟨rfl, rfl, rfl, trivial⟩, Own.sub_refl _⟩
            · omega
            · by_cases hjq : j = q
              · subst hjq; rw [hz] at hu; cases hu; exact hkk
              · exact hall j u (by omega) hu
          · have hg : grp y.key (ls.drop i) = q := grp_is (by omega) hall (fun u hu => by rw [hz] at hu; cases hu; exact hkk)
            have hup := hx.upto (j := q) (by omega)
            have hrd := hround i q y (some ⟨b', o, none⟩) c' H1 I1 hle1 hJ hyi hg (by omega) (by omega) (by rw [List.map_take]; exact hup)
            have hlo := hr.slice (i := q) (j := n') (by omega) (by omega)
            repeat' (first | (refine A_drawL WideF.wide (.q 0 (.q 1 (.q 2 (.q 3 (.q 4 (.q 5 (.q 6 (.q 7 (.q 8 (.q 9 (.q 10 (.q 11 (.q 12 (.q 13 (.q 14 (.q 15 (.done []))))))))))))))))) [] (by decide +kernel) ?_) | (refine A_drawM WideF.wide (.q 0 (.p 1 (.q 2 (.q 3 (.q 4 (.q 5 (.q 6 (.q 7 (.r (.e 8 (.q 9 (.done [])))))))))))) [8, 9] (by decide +kernel) ?_) | (refine D_ev rfl (Ev_loadH1 rfl (hcz 1 _ rfl)) rfl rfl ?_) | (refine D_ev rfl (Ev_loadH1 rfl (hc 1 _ rfl)) rfl rfl ?_) | (refine D_ev rfl (Ev_lsliceh rfl rfl (by omega) (by have := hx.cap; omega)) rfl rfl ?_) | (refine O_ev WideF.wide rfl (Ev_lslicel rfl rfl (by omega) (by omega)) rfl rfl ?_) | (refine E_ef rfl (Ef_yield0 WideF.wide hrd rfl ⟨rfl, rfl, trivial⟩ hps rfl ?_); rintro v H2 I2 hle2 ⟨r', M', rfl, ⟨rfl, rfl, hJ2⟩ | ⟨j, rfl, rfl, hE2⟩⟩ <;> refine ⟨⟨hle2, rfl⟩, ?_⟩) | refine O_nil ?_ | refine A_seq ?_ | refine A_region ?_ | refine A_skip ?_ | refine A_ret ?_ | (show drJ _ _ _ _ _ _ _ (.q _ _) _; refine D_q rfl ?_) | (show drJ _ _ _ _ _ _ _ (.e _ _) _; refine D_e rfl ?_) | (show drJ _ _ _ _ _ _ _ (.r _) _; refine D_r ?_; simp only [List.cons_append, List.nil_append]) | (show drJ _ _ _ _ _ _ _ (.done _) _; refine D_done ?_; simp only [List.cons_append, List.nil_append]) | (show drQ _ _ _ _ _ _; first | (refine D_split rfl rfl (fun h => ?_) (fun h => ?_) <;> try (exfalso; omega)) | refine D_ev rfl (Ev_pure rfl) rfl rfl ?_ | (show drQ _ _ _ ⟨_, .indexAddr _ _ _, _, _, _, _⟩ _ _; refine D_ev rfl (Ev_indexAddr rfl rfl (by omega) (by omega)) rfl rfl ?_) | (show drQ _ _ _ ⟨_, .fieldAddr _ _ _, _, _, _, _⟩ _ _; refine D_ev rfl (Ev_fieldAddr rfl rfl rfl) rfl rfl ?_) | (show drQ _ _ _ ⟨_, .call _, _, _, _, _⟩ _ _; refine D_ev rfl (Ev_llen rfl) rfl rfl ?_) | (show drQ _ _ _ ⟨_, .unOp _ _ _, _, _, _, _⟩ _ _; refine D_ev rfl (Ev_notb rfl) rfl rfl ?_)) | (show drJ _ _ _ _ _ _ _ (.p _ _) _; refine D_p rfl ?_) | (show drP _ _ _ _ _ _; refine D_pv rfl (Ev_pure rfl) rfl rfl ?_) | (show opsA _ _ _ _ _ _ _; refine O_ev WideF.wide rfl (Ev_pure rfl) rfl rfl ?_) | (show wpA _ _ _ (.exit _) _ _ _ _; refine A_exit rfl ?_) | (show wpA _ _ _ (.cond _ _ _) _ _ _ _; first | (refine A_if rfl (fun h => ?_) (fun h => ?_) <;> try (exfalso; omega)) | refine A_iftrue rfl ?_ | refine A_iffalse rfl ?_))
            · simp only [List.append_nil]
              refine Shift.to ⟨_, ?_, H2, M', i + q, _, n' - q, c' - q, rfl, by omega, hle1.trans hle2, hJ2, ?_, rfl⟩ ⟨rfl, rfl, rfl, ⟨rfl, rfl, trivial⟩, Own.sub_refl _⟩
              · omega
              · have : (ls.drop i).drop q = ls.drop (i + q) := by rw [List.drop_drop]
                rw [← this, List.map_drop]
                have e3 : ((ls.drop i).map lrow).length = n' := hx.len
                rw [List.take_of_length_le (by rw [List.length_drop]; omega)] at hlo
                exact hlo
            · simp only [List.append_nil]
              exact Shift.lek ⟨42, [], H2, .obj lo (.loop (rdone r j)) :: M', [], []⟩ ⟨rfl, rfl, rfl, trivial, Own.sub_refl _⟩ (End_m (Ret0 rfl) ⟨_, _, rfl, .inr ⟨j, rfl, hE2⟩⟩)
        · have hqn' : n' = q := by omega
          have hg : grp y.key (ls.drop i) = q := grp_is (by omega) hall (fun u hu => by rw [List.getElem?_eq_none (by omega)] at hu; cases hu)
          have hup := hx.upto (j := q) (by omega)
          have hrd := hround i q y (some ⟨b', o, none⟩) c' H1 I1 hle1 hJ hyi hg (by omega) (by omega) (by rw [List.map_take]; exact hup)
          have hlo := hr.slice (i := q) (j := n') (by omega) (by omega)
          repeat' (first | (refine A_drawL WideF.wide (.q 0 (.q 1 (.q 2 (.q 3 (.q 4 (.q 5 (.q 6 (.q 7 (.q 8 (.q 9 (.q 10 (.q 11 (.q 12 (.q 13 (.q 14 (.q 15 (.done []))))))))))))))))) [] (by decide +kernel) ?_) | (refine A_drawM WideF.wide (.q 0 (.p 1 (.q 2 (.q 3 (.q 4 (.q 5 (.q 6 (.q 7 (.r (.e 8 (.q 9 (.done [])))))))))))) [8, 9] (by decide +kernel) ?_) | (refine D_ev rfl (Ev_loadH1 rfl (hc 1 _ rfl)) rfl rfl ?_) | (refine D_ev rfl (Ev_lsliceh rfl rfl (by omega) (by have := hx.cap; omega)) rfl rfl ?_) | (refine O_ev WideF.wide rfl (Ev_lslicel rfl rfl (by omega) (by omega)) rfl rfl ?_) | (refine E_ef rfl (Ef_yield0 WideF.wide hrd rfl ⟨rfl, rfl, trivial⟩ hps rfl ?_); rintro v H2 I2 hle2 ⟨r', M', rfl, ⟨rfl, rfl, hJ2⟩ | ⟨j, rfl, rfl, hE2⟩⟩ <;> refine ⟨⟨hle2, rfl⟩, ?_⟩) | refine O_nil ?_ | refine A_seq ?_ | refine A_region ?_ | refine A_skip ?_ | refine A_ret ?_ | (show drJ _ _ _ _ _ _ _ (.q _ _) _; refine D_q rfl ?_) | (show drJ _ _ _ _ _ _ _ (.e _ _) _; refine D_e rfl ?_) | (show drJ _ _ _ _ _ _ _ (.r _) _; refine D_r ?_; simp only [List.cons_append, List.nil_append]) | (show drJ _ _ _ _ _ _ _ (.done _) _; refine D_done ?_; simp only [List.cons_append, List.nil_append]) | (show drQ _ _ _ _ _ _; first | (refine D_split rfl rfl (fun h => ?_) (fun h => ?_) <;> try (exfalso; omega)) | refine D_ev rfl (Ev_pure rfl) rfl rfl ?_ | (show drQ _ _ _ ⟨_, .indexAddr _ _ _, _, _, _, _⟩ _ _; refine D_ev rfl (Ev_indexAddr rfl rfl (by omega) (by omega)) rfl rfl ?_) | (show drQ _ _ _ ⟨_, .fieldAddr _ _ _, _, _, _, _⟩ _ _; refine D_ev rfl (Ev_fieldAddr rfl rfl rfl) rfl rfl ?_) | (show drQ _ _ _ ⟨_, .call _, _, _, _, _⟩ _ _; refine D_ev rfl (Ev_llen rfl) rfl rfl ?_) | (show drQ _ _ _ ⟨_, .unOp _ _ _, _, _, _, _⟩ _ _; refine D_ev rfl (Ev_notb rfl) rfl rfl ?_) | refine D_skip rfl rfl rfl ?_) | (show drJ _ _ _ _ _ _ _ (.p _ _) _; refine D_p rfl ?_) | (show drP _ _ _ _ _ _; refine D_pv rfl (Ev_pure rfl) rfl rfl ?_) | (show opsA _ _ _ _ _ _ _; refine O_ev WideF.wide rfl (Ev_pure rfl) rfl rfl ?_) | (show wpA _ _ _ (.exit _) _ _ _ _; refine A_exit rfl ?_) | (show wpA _ _ _ (.cond _ _ _) _ _ _ _; first | refine A_iftrue rfl ?_ | refine A_iffalse rfl ?_))
          · simp only [List.append_nil]
            refine Shift.to ⟨_, ?_, H2, M', i + q, _, n' - q, c' - q, rfl, by omega, hle1.trans hle2, hJ2, ?_, rfl⟩ ⟨rfl, rfl, rfl, ⟨rfl, rfl, trivial⟩, Own.sub_refl _⟩
            · omega
            · have : (ls.drop i).drop q = ls.drop (i + q) := by rw [List.drop_drop]
              rw [← this, List.map_drop]
              have e3 : ((ls.drop i).map lrow).length = n' := hx.len
              rw [List.take_of_length_le (by rw [List.length_drop]; omega)] at hlo
              exact hlo
          · simp only [List.append_nil]
            exact Shift.lek ⟨42, [], H2, .obj lo (.loop (rdone r j)) :: M', [], []⟩ ⟨rfl, rfl, rfl, trivial, Own.sub_refl _⟩ (End_m (Ret0 rfl) ⟨_, _, rfl, .inr ⟨j, rfl, hE2⟩⟩)
    · have hn0 : n' = 0 := by omega
      subst hn0
      have hin : ln = i := by omega
      subst hin
      repeat' (first | refine O_nil ?_ | refine A_seq ?_ | refine A_region ?_ | (show opsA _ _ _ _ _ _ _; first | refine O_ev WideF.wide rfl (Ev_pure rfl) rfl rfl ?_ | (show opsA _ _ _ _ (⟨_, .call _, _, _, _, _⟩ :: _) _ _; refine O_ev WideF.wide rfl (Ev_llen rfl) rfl rfl ?_)) | (show wpA _ _ _ (.exit _) _ _ _ _; refine A_exit rfl ?_) | (show wpA _ _ _ (.cond _ _ _) _ _ _ _; (refine A_if rfl (fun h => ?_) (fun h => ?_) <;> try (exfalso; omega))))
      exact End_m (Ret0 rfl) ⟨_, _, rfl, .inl ⟨rfl, hJ⟩⟩
end Go.Proofs.Ythniohgeojenaaa
