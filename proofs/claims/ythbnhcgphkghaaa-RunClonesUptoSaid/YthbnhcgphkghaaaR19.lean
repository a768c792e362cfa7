/-
  run.Split; the examples of the document.
-/
import Derived.Test.YthbnhcgphkghaaaR18
namespace Go.Proofs.Ythbnhcgphkghaaa
open Go
set_option linter.unusedVariables false
set_option linter.unusedSimpArgs false
attribute [local irreducible] wpA opsA drJ drQ drE Ef Ev Shift Fn

theorem setText_mass (x : Item) (t : List UInt8) : (x.setText t).mass + x.text.length = x.mass + t.length := by
  cases x
  simp only [Item.setText, Item.mass, Item.text]
  omega
theorem lItem_mass (at_ f : Int) (x : Item) : massL (lItem at_ f x) ≤ x.mass := by
  unfold lItem
  have := setText_mass x (x.text.take (cutAt at_ f x))
  have : (x.text.take (cutAt at_ f x)).length ≤ x.text.length := by simp; omega
  split
  · simp [massL]
  · split
    · simp [massL]
    · simp [massL]; omega
theorem rItem_mass (at_ f : Int) (x : Item) : massL (rItem at_ f x) ≤ x.mass := by
  unfold rItem
  have := setText_mass x (x.text.drop (cutAt at_ f x))
  have : (x.text.drop (cutAt at_ f x)).length ≤ x.text.length := by simp
  split
  · simp [massL]
  · split
    · simp [massL]
    · simp [massL]; omega
theorem lFlow_mass (at_ : Int) : ∀ (f : Int) (l : List Item), massL (lFlow at_ f l) ≤ massL l
  | f, [] => by simp [lFlow]
  | f, x :: l => by
    have := lFlow_mass at_ (f + x.units) l
    have := lItem_mass at_ f x
    rw [lFlow, massL_append, massL]; omega
theorem rFlow_mass (at_ : Int) : ∀ (f : Int) (l : List Item), massL (rFlow at_ f l) ≤ massL l
  | f, [] => by simp [rFlow]
  | f, x :: l => by
    have := rFlow_mass at_ (f + x.units) l
    have := rItem_mass at_ f x
    rw [rFlow, massL_append, massL]; omega
theorem rngE_ok {l : List Item} {f t : Int} (h : rngE l f t = 0) : okL l ∧ 0 ≤ f ∧ f ≤ t ∧ t ≤ usum l := by
  unfold rngE at h
  split at h
  · split at h
    · omega
    · rename_i h1 h2; exact ⟨h1, by omega, by omega, by omega⟩
  · omega
set_option maxRecDepth 100000 in
theorem Split_fn {H : Hp} {a : Option Addr} {n cp : Nat} {l : List Item} {at_ : Int} (hx : FlowH H a n cp l) (hl : massL l < 68719476736) : Fn Try.prog 42 [.slice a n cp, .int .i64 at_] H [] fun v H' I' =>
    (∃ la ln lc ra rn rc, v = .tuple [.slice la ln lc, .slice ra rn rc, .int .i64 (rngE l at_ at_)].toArray ∧ FlowH H' la ln lc (if rngE l at_ at_ = 0 then normL (lFlow at_ 0 l) else []) ∧ FlowH H' ra rn rc (if rngE l at_ at_ = 0 then normL (rFlow at_ 0 l) else [])) ∧ I' = [] := by
  have hck := check_fn (f := at_) (t := at_) hx (by omega)
  have hub := usum_b l
  have hlm := lFlow_mass at_ 0 l
  have hrm := rFlow_mass at_ 0 l
  refine Fn_of _ _ Try.func42 rfl Try.ntmps42 rfl fun c => ?_
  repeat' (first | (refine O_ef rfl (Ef_callp WideF.wide hck ⟨rfl, rfl, rfl, trivial⟩ rfl ?_)) | refine O_nil ?_ | refine A_seq ?_ | refine A_region ?_ | refine A_skip ?_ | refine A_ret ?_ | (show opsA _ _ _ _ _ _ _; refine O_ev WideF.wide rfl (Ev_pure rfl) rfl rfl ?_) | (show wpA _ _ _ (.cond _ _ _) _ _ _ _; (refine A_if rfl (fun h => ?_) (fun h => ?_) <;> try (exfalso; omega))))
  · refine End_e (Ret3 rfl rfl rfl rfl) ⟨⟨none, 0, 0, none, 0, 0, rfl, ?_, ?_⟩, rfl⟩
    · rw [if_neg (by assumption)]; exact FlowH.nil _
    · rw [if_neg (by assumption)]; exact FlowH.nil _
  · have h0 : rngE l at_ at_ = 0 := Decidable.not_not.1 (by assumption)
    obtain ⟨hok, h1, h2, h3⟩ := rngE_ok h0
    have hdv := divide_fn (at_ := at_) hx hl (by omega)
    rw [h0]
    repeat' (first | (refine O_ef rfl (Ef_call (I := []) WideF.wide hdv ⟨rfl, rfl, trivial⟩ rfl ?_); rintro v H1 I1 hle1 ⟨⟨la, ln, lc, ra, rn, rc, rfl, hL, hR⟩, rfl⟩) | (refine O_ef rfl (Ef_call (I := []) WideF.wide (Normal_fn hL (by omega)) ⟨rfl, trivial⟩ rfl ?_); rintro v H2 I2 hle2 ⟨⟨la', ln', lc', rfl, hL2⟩, rfl⟩) | (refine O_ef rfl (Ef_call (I := []) WideF.wide (Normal_fn (hR.mono hle2) (by omega)) ⟨rfl, trivial⟩ rfl ?_); rintro v H3 I3 hle3 ⟨⟨ra', rn', rc', rfl, hR2⟩, rfl⟩) | refine O_nil ?_ | refine A_seq ?_ | refine A_region ?_ | refine A_ret ?_ | (show opsA _ _ _ _ _ _ _; refine O_ev WideF.wide rfl (Ev_pure rfl) rfl rfl ?_))
    exact End_e (Ret3 rfl rfl rfl rfl) ⟨⟨la', ln', lc', ra', rn', rc', rfl, hL2.mono hle3, hR2⟩, rfl⟩

/-! the examples -/
def hdB : Head := ⟨[⟨2, 1⟩], 0, 0, [], []⟩
def hd0 : Head := ⟨[], 0, 0, [], []⟩
def kItem (k : Int) (t : List UInt8) : Item := .mk k 0 0 t hd0 [] []
def k1 : List Item := [kItem 1 [97, 98], .mk 1 0 0 [99] hdB [] [], kItem 2 []]
def k2 : List Item := [kItem 1 [97], .mk 4 3 0 [] hd0 [] [], kItem 6 [], kItem 2 []]
theorem chars_ascii (c : UInt8) (r : List UInt8) (h : c.toNat < 128) : chars (c :: r) = (chars r).map ([c] :: ·) := by
  have he : enc (c :: r) 0 = 1 := by
    unfold enc
    rw [if_pos]
    simp [bat]
    omega
  rw [chars_step (by simp) (by rw [he]; omega), he]
  rfl
theorem chars_one (c : UInt8) (h : c.toNat < 128) : chars [c] = some [[c]] := (chars_ascii c [] h).trans (by rw [chars_nil]; rfl)
theorem chars_two (c d : UInt8) (h : c.toNat < 128) (h' : d.toNat < 128) : chars [c, d] = some [[c], [d]] := (chars_ascii c [d] h).trans (by rw [chars_one d h']; rfl)
theorem valid97 : chars [97, 98] = some [[97], [98]] ∧ chars [99] = some [[99]] := ⟨chars_two 97 98 (by decide +kernel) (by decide +kernel), chars_one 99 (by decide +kernel)⟩
theorem v97 : valid [97, 98] := by unfold valid; rw [valid97.1]; rfl
theorem n97 : nchars [97, 98] = 2 := by unfold nchars; rw [valid97.1]; rfl
theorem v99 : valid [99] := by unfold valid; rw [valid97.2]; rfl
theorem n99 : nchars [99] = 1 := by unfold nchars; rw [valid97.2]; rfl
theorem k1_ok : okL k1 := by
  intro x hx
  simp [k1] at hx
  rcases hx with rfl | rfl | rfl
  · intro _; exact v97
  · intro _; exact v99
  · intro h; simp [kItem, Item.kind] at h
theorem units_k1 : (kItem 1 [97, 98]).units = 2 ∧ (Item.mk 1 0 0 [99] hdB [] []).units = 1 ∧ (kItem 2 []).units = 1 := by
  refine ⟨?_, ?_, ?_⟩
  · show (if (1 : Int) = 1 then count [97, 98] else 1) = 2
    rw [if_pos rfl]; unfold count; rw [if_pos v97, n97]; rfl
  · show (if (1 : Int) = 1 then count [99] else 1) = 1
    rw [if_pos rfl]; unfold count; rw [if_pos v99, n99]; rfl
  · rfl
theorem usum_k1 : usum k1 = 4 := by
  obtain ⟨h1, h2, h3⟩ := units_k1
  simp [k1, usum, h1, h2, h3]
theorem k1_idx {v : Value} (h : IdxIs k1 2 v) : v = .tuple [.int .i64 1, .int .i64 0, .int .i64 0].toArray := by
  obtain ⟨h1, h2, h3⟩ := units_k1
  rcases h with ⟨h, _⟩ | ⟨_, h, _⟩ | ⟨_, _, i, hi, ha, hb, rfl⟩
  · exact absurd k1_ok h
  · rw [usum_k1] at h; omega
  · have : i = 0 ∨ i = 1 ∨ i = 2 := by simp [k1] at hi; omega
    rcases this with rfl | rfl | rfl
    · simp [k1, usum, h1] at hb
    · simp [k1, usum, h1]
    · simp [k1, usum, h1, h2] at ha
theorem k1_rng : rngE k1 1 1 = 0 := by
  unfold rngE
  rw [if_pos k1_ok, usum_k1, if_neg (by omega)]
set_option maxRecDepth 100000 in
theorem cut_k1 : cutAt 1 0 (kItem 1 [97, 98]) = 1 := by
  show (offset [97, 98] 1).toNat = 1
  have : offset [97, 98] 1 = 1 := by
    unfold offset
    rw [if_pos ⟨v97, by omega, by rw [n97]; omega⟩]
    rfl
  rw [this]; rfl
theorem k1_left : lFlow 1 0 k1 = [kItem 1 [97]] := by
  obtain ⟨h1, h2, h3⟩ := units_k1
  simp [k1, lFlow, lItem, h1, h2, h3, cut_k1]
  rfl
theorem k1_right : rFlow 1 0 k1 = [kItem 1 [98], .mk 1 0 0 [99] hdB [] [], kItem 2 []] := by
  obtain ⟨h1, h2, h3⟩ := units_k1
  simp [k1, rFlow, rItem, h1, h2, h3, cut_k1]
  rfl
theorem k1_nl : normL (lFlow 1 0 k1) = [kItem 1 [97]] := by
  rw [k1_left]; rfl
theorem k1_nr : normL (rFlow 1 0 k1) = [kItem 1 [98], .mk 1 0 0 [99] hdB [] [], kItem 2 []] := by
  rw [k1_right]
  have e : ∀ (k : Int) (t : List UInt8) (h : Head), normItem (.mk k 0 0 t h [] []) = .mk k 0 0 t h [] [] := fun k t h => by rw [normItem_eq]; rfl
  simp only [normL, List.map, kItem, e, List.foldl]
  rw [pushI_nil (by simp [Item.kind, Item.text])]
  rw [show ([Item.mk 1 0 0 [98] hd0 [] []] : List Item) = [] ++ [Item.mk 1 0 0 [98] hd0 [] []] from rfl, pushI_snoc (by simp [Item.kind, Item.text])]
  rw [if_neg (by simp [Item.head, hd0, hdB])]
  rw [pushI_snoc (by simp [Item.kind])]
  rw [if_neg (by simp [Item.kind])]
  rfl
theorem k2_text : ftext k2 = [97, 9, 239, 191, 188, 10] := rfl
end Go.Proofs.Ythbnhcgphkghaaa
