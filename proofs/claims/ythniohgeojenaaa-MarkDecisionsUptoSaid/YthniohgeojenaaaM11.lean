/-
  The law's has and sorted.
-/
import Derived.Test.YthniohgeojenaaaM10
namespace Go.Proofs.Ythniohgeojenaaa
open Go
set_option linter.unusedVariables false
set_option linter.unusedSimpArgs false
/-! ### as data -/
def insI (x : Int) : List Int → List Int
  | [] => [x]
  | y :: r => if y < x then y :: insI x r else if y = x then y :: r else x :: y :: r
def sortI (l : List Int) : List Int := l.foldl (fun o x => insI x o) []
theorem sortI_snoc (l : List Int) (x : Int) : sortI (l ++ [x]) = insI x (sortI l) := by simp [sortI]
theorem insI_mem {x z : Int} : ∀ {l : List Int}, z ∈ insI x l ↔ z = x ∨ z ∈ l
  | [] => by simp [insI]
  | y :: r => by
    rw [insI]
    split
    · rw [List.mem_cons, insI_mem, List.mem_cons]
      constructor
      · rintro (h | h | h)
        · exact .inr (.inl h)
        · exact .inl h
        · exact .inr (.inr h)
      · rintro (h | h | h)
        · exact .inr (.inl h)
        · exact .inl h
        · exact .inr (.inr h)
    · split
      · rename_i h; subst h; simp
      · simp
theorem insI_inc {x : Int} : ∀ {l : List Int}, Inc l → Inc (insI x l)
  | [], _ => by simp [insI, Inc]
  | y :: r, h => by
    have h1 := (List.pairwise_cons.1 h).1
    have h2 := (List.pairwise_cons.1 h).2
    rw [insI]
    split
    · refine List.pairwise_cons.2 ⟨fun z hz => ?_, insI_inc h2⟩
      rcases insI_mem.1 hz with rfl | hz
      · assumption
      · exact h1 z hz
    · split
      · exact h
      · refine List.pairwise_cons.2 ⟨fun z hz => ?_, h⟩
        rcases List.mem_cons.1 hz with rfl | hz
        · omega
        · have := h1 z hz; omega
theorem insI_len (x : Int) : ∀ l : List Int, (insI x l).length ≤ l.length + 1
  | [] => by simp [insI]
  | y :: r => by
    have := insI_len x r
    rw [insI]
    split
    · simp; omega
    · split <;> simp
theorem foldI_len : ∀ (l o : List Int), (l.foldl (fun o x => insI x o) o).length ≤ o.length + l.length
  | [], o => by simp
  | x :: r, o => by
    have h1 := foldI_len r (insI x o)
    have h2 := insI_len x o
    simp only [List.foldl_cons, List.length_cons]; omega
theorem sortI_len (l : List Int) : (sortI l).length ≤ l.length := by have := foldI_len l []; simpa [sortI] using this
theorem foldI_inc : ∀ (l o : List Int), Inc o → Inc (l.foldl (fun o x => insI x o) o)
  | [], o, h => h
  | x :: r, o, h => foldI_inc r (insI x o) (insI_inc h)
theorem sortI_inc (l : List Int) : Inc (sortI l) := foldI_inc l [] (by simp [Inc])
theorem foldI_mem {z : Int} : ∀ (l o : List Int), z ∈ l.foldl (fun o x => insI x o) o ↔ z ∈ l ∨ z ∈ o
  | [], o => by simp
  | x :: r, o => by
    simp only [List.foldl_cons]
    rw [foldI_mem r (insI x o), insI_mem, List.mem_cons]
    constructor
    · rintro (h | h | h)
      · exact .inl (.inr h)
      · exact .inl (.inl h)
      · exact .inr h
    · rintro ((h | h) | h)
      · exact .inr (.inl h)
      · exact .inl h
      · exact .inr (.inr h)
theorem sortI_mem {z : Int} {l : List Int} : z ∈ sortI l ↔ z ∈ l := by unfold sortI; rw [foldI_mem]; simp
/-- where a number goes -/
theorem insI_at {x : Int} : ∀ {l : List Int} {k : Nat}, k ≤ l.length → (∀ j b, j < k → l[j]? = some b → b < x) → (∀ b, l[k]? = some b → ¬ b < x) → insI x l = if l[k]? = some x then l else l.take k ++ x :: l.drop k
  | [], k, h, _, _ => by simp at h; subst h; simp [insI]
  | y :: r, 0, _, _, h2 => by
    have h3 : ¬ y < x := h2 y (by simp)
    rw [insI, if_neg h3]
    simp
  | y :: r, k + 1, h0, h1, h2 => by
    have h3 : y < x := h1 0 y (by omega) (by simp)
    rw [insI, if_pos h3, insI_at (k := k) (by simpa using h0) (fun j b hj hb => h1 (j + 1) b (by omega) (by simpa using hb)) (fun b hb => h2 b (by simpa using hb))]
    simp only [List.getElem?_cons_succ, List.take_succ_cons, List.drop_succ_cons, List.cons_append]
    split <;> rfl
attribute [local irreducible] wpA opsA drJ drQ drE Ef Ev Shift Fn
set_option maxRecDepth 100000 in
theorem lhas_fn {H : Hp} {a : Option Addr} {n cq : Nat} {l : List Int} {x : Int} (hx : HRow H a n cq 1 (l.map irow)) (hm : n < 68719476736) : FnP Try.prog 40 [.slice a n cq, .int .i64 x] H (.bool (decide (x ∈ l))) := by
  have e1 : l.length = n := by have := hx.len; simpa using this
  refine Fn_of _ _ Try.func40 rfl Try.ntmps40 rfl fun c => ?_
  repeat' (first | refine O_nil ?_ | refine A_seq ?_ | refine A_region ?_ | refine A_block ?_ | (show opsA _ _ _ _ _ _ _; refine O_ev WideF.wide rfl (Ev_pure rfl) rfl rfl ?_))
  refine A_loopu (fun m s => ∃ i : Nat, m = n - i ∧ i ≤ n ∧ x ∉ l.take i ∧ s = ⟨18, [(0, .slice a n cq), (1, .int .i64 x), (5, .int .i64 i)], H, [], [], []⟩) ?_ ?_
  · exact Shift.to ⟨_, 0, rfl, by omega, by simp, rfl⟩ ⟨rfl, rfl, rfl, ⟨rfl, rfl, rfl, trivial⟩, Own.sub_nil _⟩
  · rintro m s ⟨i, rfl, hi, hno, rfl⟩
    by_cases hlt : i < n
    · obtain ⟨b, o, y, rfl, hyi, hc⟩ := hx.atm i hlt
      unfold irow at hc
      by_cases hxy : y = x
      · repeat' (first | (refine O_ev WideF.wide rfl (Ev_loadH1 rfl (hc 0 _ rfl)) rfl rfl ?_) | refine O_nil ?_ | refine A_seq ?_ | refine A_region ?_ | refine A_skip ?_ | refine A_ret ?_ | refine A_block ?_ | (show opsA _ _ _ _ _ _ _; first | refine O_ev WideF.wide rfl (Ev_pure rfl) rfl rfl ?_ | (show opsA _ _ _ _ (⟨_, .indexAddr _ _ _, _, _, _, _⟩ :: _) _ _; refine O_ev WideF.wide rfl (Ev_indexAddr rfl rfl (by omega) (by omega)) rfl rfl ?_) | (show opsA _ _ _ _ (⟨_, .call _, _, _, _, _⟩ :: _) _ _; refine O_ev WideF.wide rfl (Ev_llen rfl) rfl rfl ?_)) | (show wpA _ _ _ (.cond _ _ _) _ _ _ _; (refine A_if rfl (fun h => ?_) (fun h => ?_) <;> try (exfalso; omega))))
        refine End_p (Ret1 rfl rfl) ?_
        have : x ∈ l := hxy ▸ List.mem_of_getElem? hyi
        simp [this]
      · repeat' (first | (refine O_ev WideF.wide rfl (Ev_loadH1 rfl (hc 0 _ rfl)) rfl rfl ?_) | refine O_nil ?_ | refine A_seq ?_ | refine A_region ?_ | refine A_skip ?_ | refine A_block ?_ | (show opsA _ _ _ _ _ _ _; first | refine O_ev WideF.wide rfl (Ev_pure rfl) rfl rfl ?_ | (show opsA _ _ _ _ (⟨_, .indexAddr _ _ _, _, _, _, _⟩ :: _) _ _; refine O_ev WideF.wide rfl (Ev_indexAddr rfl rfl (by omega) (by omega)) rfl rfl ?_) | (show opsA _ _ _ _ (⟨_, .call _, _, _, _, _⟩ :: _) _ _; refine O_ev WideF.wide rfl (Ev_llen rfl) rfl rfl ?_) | (show opsA _ _ _ _ (⟨_, .binOp _ _ _ _ _, _, _, _, _⟩ :: _) _ _; refine O_ev WideF.wide rfl (Ev_add rfl rfl (wi64 (by omega))) rfl rfl ?_)) | (show wpA _ _ _ (.cond _ _ _) _ _ _ _; (refine A_if rfl (fun h => ?_) (fun h => ?_) <;> try (exfalso; omega))))
        refine Shift.to ⟨_, ?_, i + 1, rfl, by omega, ?_, rfl⟩ ⟨rfl, rfl, rfl, ⟨rfl, rfl, rfl, trivial⟩, Own.sub_nil _⟩
        · omega
        · rw [take_get hyi]; simp; exact ⟨hno, fun e => hxy e.symm⟩
    · have hin : n = i := by omega
      subst hin
      rw [List.take_of_length_le (by omega)] at hno
      repeat' (first | refine O_nil ?_ | refine A_seq ?_ | refine A_region ?_ | refine A_ret ?_ | (show opsA _ _ _ _ _ _ _; first | refine O_ev WideF.wide rfl (Ev_pure rfl) rfl rfl ?_ | (show opsA _ _ _ _ (⟨_, .call _, _, _, _, _⟩ :: _) _ _; refine O_ev WideF.wide rfl (Ev_llen rfl) rfl rfl ?_)) | (show wpA _ _ _ (.exit _) _ _ _ _; refine A_exit rfl ?_) | (show wpA _ _ _ (.cond _ _ _) _ _ _ _; (refine A_if rfl (fun h => ?_) (fun h => ?_) <;> try (exfalso; omega))))
      refine End_p (Ret1 rfl rfl) ?_
      simp [hno]
set_option maxRecDepth 100000 in
theorem lhasO_fn {H : Hp} {a : Option Addr} {n cq : Nat} {l : List Int} {x : Int} (hm : n < 68719476736) : Fn Try.prog 40 [.slice a n cq, .int .i64 x] H [.row (.slice a n cq) 1 (l.map irow)] fun v H' I' => v = .bool (decide (x ∈ l)) ∧ H' = H ∧ I' = [.row (.slice a n cq) 1 (l.map irow)] := by
  refine Fn_of _ _ Try.func40 rfl Try.ntmps40 rfl fun c => ?_
  refine A_rowaddr (q := 0) rfl ?_
  intro r1 r2 r3 r4 r5
  have e1 : l.length = n := by rw [r1]; simp
  repeat' (first | refine O_nil ?_ | refine A_seq ?_ | refine A_region ?_ | refine A_block ?_ | (show opsA _ _ _ _ _ _ _; refine O_ev WideF.wide rfl (Ev_pure rfl) rfl rfl ?_))
  refine A_loopu (fun m s => ∃ i : Nat, m = n - i ∧ i ≤ n ∧ x ∉ l.take i ∧ s = ⟨18, [(0, .slice a n cq), (1, .int .i64 x), (5, .int .i64 i)], H, [.row (.slice a n cq) 1 (l.map irow)], [], []⟩) ?_ ?_
  · exact Shift.to ⟨_, 0, rfl, by omega, by simp, rfl⟩ ⟨rfl, rfl, rfl, ⟨rfl, rfl, rfl, trivial⟩, Own.subi [0] (by decide) rfl rfl⟩
  · rintro m s ⟨i, rfl, hi, hno, rfl⟩
    by_cases hlt : i < n
    · obtain ⟨sb, rfl⟩ : ∃ sb, a = some ⟨sb, 0, none⟩ := by
        cases a with
        | none => have := (r3 rfl).1; rw [this] at r1; simp at r1; omega
        | some ad => obtain ⟨sb, rfl⟩ := r5 _ rfl; exact ⟨sb, rfl⟩
      obtain ⟨y, hyi⟩ : ∃ y, l[i]? = some y := ⟨l[i], List.getElem?_eq_getElem (by omega)⟩
      have hget : (l.map irow)[i]? = some (irow y) := by rw [List.getElem?_map, hyi]; rfl
      by_cases hxy : y = x
      · repeat' (first | (refine O_ev WideF.wide rfl (Ev_loadR1 (q := 0) (d := 0) rfl rfl hget (by simp) rfl) rfl rfl ?_) | refine O_nil ?_ | refine A_seq ?_ | refine A_region ?_ | refine A_skip ?_ | refine A_ret ?_ | refine A_block ?_ | (show opsA _ _ _ _ _ _ _; first | refine O_ev WideF.wide rfl (Ev_pure rfl) rfl rfl ?_ | (show opsA _ _ _ _ (⟨_, .indexAddr _ _ _, _, _, _, _⟩ :: _) _ _; refine O_ev WideF.wide rfl (Ev_indexAddr rfl rfl (by omega) (by omega)) rfl rfl ?_) | (show opsA _ _ _ _ (⟨_, .call _, _, _, _, _⟩ :: _) _ _; refine O_ev WideF.wide rfl (Ev_llen rfl) rfl rfl ?_)) | (show wpA _ _ _ (.cond _ _ _) _ _ _ _; (refine A_if rfl (fun h => ?_) (fun h => ?_) <;> try (exfalso; omega))))
        refine End_m (Ret1 rfl rfl) ⟨?_, rfl, rfl⟩
        have : x ∈ l := hxy ▸ List.mem_of_getElem? hyi
        simp [this]
      · repeat' (first | (refine O_ev WideF.wide rfl (Ev_loadR1 (q := 0) (d := 0) rfl rfl hget (by simp) rfl) rfl rfl ?_) | refine O_nil ?_ | refine A_seq ?_ | refine A_region ?_ | refine A_skip ?_ | refine A_block ?_ | (show opsA _ _ _ _ _ _ _; first | refine O_ev WideF.wide rfl (Ev_pure rfl) rfl rfl ?_ | (show opsA _ _ _ _ (⟨_, .indexAddr _ _ _, _, _, _, _⟩ :: _) _ _; refine O_ev WideF.wide rfl (Ev_indexAddr rfl rfl (by omega) (by omega)) rfl rfl ?_) | (show opsA _ _ _ _ (⟨_, .call _, _, _, _, _⟩ :: _) _ _; refine O_ev WideF.wide rfl (Ev_llen rfl) rfl rfl ?_) | (show opsA _ _ _ _ (⟨_, .binOp _ _ _ _ _, _, _, _, _⟩ :: _) _ _; refine O_ev WideF.wide rfl (Ev_add rfl rfl (wi64 (by omega))) rfl rfl ?_)) | (show wpA _ _ _ (.cond _ _ _) _ _ _ _; (refine A_if rfl (fun h => ?_) (fun h => ?_) <;> try (exfalso; omega))))
        refine Shift.to ⟨_, ?_, i + 1, rfl, by omega, ?_, rfl⟩ ⟨rfl, rfl, rfl, ⟨rfl, rfl, rfl, trivial⟩, Own.subi [0] (by decide) rfl rfl⟩
        · omega
        · rw [take_get hyi]; simp; exact ⟨hno, fun e => hxy e.symm⟩
    · have hin : n = i := by omega
      subst hin
      rw [List.take_of_length_le (by omega)] at hno
      repeat' (first | refine O_nil ?_ | refine A_seq ?_ | refine A_region ?_ | refine A_ret ?_ | (show opsA _ _ _ _ _ _ _; first | refine O_ev WideF.wide rfl (Ev_pure rfl) rfl rfl ?_ | (show opsA _ _ _ _ (⟨_, .call _, _, _, _, _⟩ :: _) _ _; refine O_ev WideF.wide rfl (Ev_llen rfl) rfl rfl ?_)) | (show wpA _ _ _ (.exit _) _ _ _ _; refine A_exit rfl ?_) | (show wpA _ _ _ (.cond _ _ _) _ _ _ _; (refine A_if rfl (fun h => ?_) (fun h => ?_) <;> try (exfalso; omega))))
      refine End_m (Ret1 rfl rfl) ⟨?_, rfl, rfl⟩
      simp [hno]
theorem HRow.cong {H : Hp} {a : Option Addr} {n c k : Nat} {css css' : List (List Value)} (h : HRow H a n c k css) (e : css' = css) : HRow H a n c k css' := e ▸ h
/-- a list of numbers that was handed back -/
def IntsIs (l : List Int) (v : Value) (H : Hp) (I : Own) : Prop := (∃ a n c, v = .slice a n c ∧ HRow H a n c 1 (l.map irow)) ∧ I = []
abbrev soSt (H : Hp) (a : Option Addr) (n cq : Nat) (oa : Option Addr) (on oc : Nat) (i : Nat) : Sta := ⟨60, [(0, .slice a n cq), (3, .slice oa on oc), (4, .int .i64 i)], H, [], [], []⟩
set_option maxRecDepth 100000 in
set_option maxHeartbeats 2000000 in
theorem sorted_fn {H : Hp} {a : Option Addr} {n cq : Nat} {l : List Int} (hx0 : HRow H a n cq 1 (l.map irow)) (hm : n < 1073741824) : Fn Try.prog 46 [.slice a n cq] H [] (IntsIs (sortI l)) := by
  have e1 : l.length = n := by have := hx0.len; simpa using this
  refine Fn_of _ _ Try.func46 rfl Try.ntmps46 rfl fun c => ?_
  repeat' (first | refine O_nil ?_ | refine A_seq ?_ | refine A_region ?_ | refine A_block ?_ | (show opsA _ _ _ _ _ _ _; refine O_ev WideF.wide rfl (Ev_pure rfl) rfl rfl ?_))
  refine A_loopu (fun m s => ∃ (i : Nat) (H1 : Hp) (oa : Option Addr) (on oc : Nat), m = n - i ∧ i ≤ n ∧ HLe H H1 ∧ HRow H1 oa on oc 1 ((sortI (l.take i)).map irow) ∧ s = soSt H1 a n cq oa on oc i) ?_ ?_
  · exact Shift.to ⟨_, 0, H, none, 0, 0, rfl, by omega, HLe.refl _, by simpa [sortI] using HRow.nil' _ _, rfl⟩ ⟨rfl, rfl, rfl, ⟨rfl, rfl, rfl, trivial⟩, Own.sub_nil _⟩
  · rintro m s ⟨i, H1, oa, on, oc, rfl, hi, hle, hr, rfl⟩
    have hx := hx0.mono hle
    have e2 : (sortI (l.take i)).length = on := by have := hr.len; simpa using this
    have e3 : on ≤ i := by have := sortI_len (l.take i); rw [List.length_take] at this; omega
    by_cases hlt : i < n
    · obtain ⟨b, o, y, rfl, hyi, hc⟩ := hx.atm i hlt
      unfold irow at hc
      have hsn : sortI (l.take (i + 1)) = insI y (sortI (l.take i)) := by rw [take_get hyi, sortI_snoc]
      generalize hO : sortI (l.take i) = O at hr e2 hsn
      repeat' (first | refine O_nil ?_ | refine A_seq ?_ | refine A_region ?_ | refine A_skip ?_ | refine A_block ?_ | (show opsA _ _ _ _ _ _ _; first | refine O_ev WideF.wide rfl (Ev_pure rfl) rfl rfl ?_ | (show opsA _ _ _ _ (⟨_, .call _, _, _, _, _⟩ :: _) _ _; refine O_ev WideF.wide rfl (Ev_llen rfl) rfl rfl ?_)) | (show wpA _ _ _ (.cond _ _ _) _ _ _ _; (refine A_if rfl (fun h => ?_) (fun h => ?_) <;> try (exfalso; omega))))
      refine A_loopu (fun m s => ∃ k : Nat, m = on - k ∧ k ≤ on ∧ (∀ j u, j < k → O[j]? = some u → u < y) ∧ s = ⟨60, [(5, .int .i64 k), (0, .slice (some ⟨b, o, none⟩) n cq), (3, .slice oa on oc), (4, .int .i64 i)], H1, [], [], []⟩) ?_ ?_
      · exact Shift.to ⟨_, 0, rfl, by omega, fun j u hj => absurd hj (by omega), rfl⟩ ⟨rfl, rfl, rfl, ⟨rfl, rfl, rfl, rfl, trivial⟩, Own.sub_nil _⟩
      · rintro m s ⟨k, rfl, hk, hall, rfl⟩
        have hup := hr.upto hk
        have hlw := hr.slice (i := k) (j := on) hk (Nat.le_refl _)
        by_cases hkn : k < on
        · obtain ⟨b2, o2, u, rfl, hu, hcu⟩ := hr.atm k hkn
          unfold irow at hcu
          have hat := insI_at (x := y) (l := O) (k := k) (by omega) hall
          rw [hu] at hat
          by_cases huy : u < y
          · repeat' (first | (refine A_drawL WideF.wide (.q 0 (.q 1 (.q 2 (.q 3 (.q 4 (.q 5 (.q 6 (.q 7 (.q 8 (.q 9 (.q 10 (.q 11 (.q 12 (.q 13 (.q 14 (.done [])))))))))))))))) [] (by decide +kernel) ?_) | (refine A_drawL WideF.wide (.q 0 (.q 1 (.q 2 (.q 3 (.q 4 (.q 5 (.q 6 (.q 7 (.q 8 (.q 9 (.q 10 (.q 11 (.q 12 (.q 13 (.q 14 (.done [])))))))))))))))) [] (by decide +kernel) ?_) | (refine D_ev rfl (Ev_loadH1 rfl (hcu 0 _ rfl)) rfl rfl ?_) | (refine D_ev rfl (Ev_loadH1 rfl (hc 0 _ rfl)) rfl rfl ?_) | refine O_nil ?_ | refine A_seq ?_ | refine A_region ?_ | refine A_skip ?_ | refine A_block ?_ | (show drJ _ _ _ _ _ _ _ (.q _ _) _; refine D_q rfl ?_) | (show drJ _ _ _ _ _ _ _ (.done _) _; refine D_done ?_; simp only [List.cons_append, List.nil_append]) | (show drQ _ _ _ _ _ _; first | (refine D_split rfl rfl (fun h => ?_) (fun h => ?_) <;> try (exfalso; omega)) | refine D_ev rfl (Ev_pure rfl) rfl rfl ?_ | (show drQ _ _ _ ⟨_, .indexAddr _ _ _, _, _, _, _⟩ _ _; refine D_ev rfl (Ev_indexAddr rfl rfl (by omega) (by omega)) rfl rfl ?_) | (show drQ _ _ _ ⟨_, .call _, _, _, _, _⟩ _ _; refine D_ev rfl (Ev_llen rfl) rfl rfl ?_)) | (show opsA _ _ _ _ _ _ _; first | refine O_ev WideF.wide rfl (Ev_pure rfl) rfl rfl ?_ | (show opsA _ _ _ _ (⟨_, .binOp _ _ _ _ _, _, _, _, _⟩ :: _) _ _; refine O_ev WideF.wide rfl (Ev_add rfl rfl (wi64 (by omega))) rfl rfl ?_)) | (show wpA _ _ _ (.cond _ _ _) _ _ _ _; (refine A_if rfl (fun h => ?_) (fun h => ?_) <;> try (exfalso; omega))))
            refine Shift.to ⟨_, ?_, k + 1, rfl, by omega, fun j w hj hw => ?_, rfl⟩ ⟨rfl, rfl, rfl, ⟨rfl, rfl, rfl, rfl, trivial⟩, Own.sub_nil _⟩
            · omega
            · by_cases hjk : j = k
              · subst hjk; rw [hu] at hw; cases hw; exact huy
              · exact hall j w (by omega) hw
          · have hat := hat (fun w hw => by cases hw; exact huy)
            by_cases hyu : u = y
            · rw [if_pos (by rw [hyu])] at hat
              repeat' (first | (refine A_drawL WideF.wide (.q 0 (.q 1 (.q 2 (.q 3 (.q 4 (.q 5 (.q 6 (.q 7 (.q 8 (.q 9 (.q 10 (.q 11 (.q 12 (.q 13 (.q 14 (.done [])))))))))))))))) [] (by decide +kernel) ?_) | (refine A_drawL WideF.wide (.q 0 (.q 1 (.q 2 (.q 3 (.q 4 (.q 5 (.q 6 (.q 7 (.q 8 (.q 9 (.q 10 (.q 11 (.q 12 (.q 13 (.q 14 (.done [])))))))))))))))) [] (by decide +kernel) ?_) | (refine D_ev rfl (Ev_loadH1 rfl (hcu 0 _ rfl)) rfl rfl ?_) | (refine D_ev rfl (Ev_loadH1 rfl (hc 0 _ rfl)) rfl rfl ?_) | refine O_nil ?_ | refine A_seq ?_ | refine A_region ?_ | refine A_skip ?_ | (show drJ _ _ _ _ _ _ _ (.q _ _) _; refine D_q rfl ?_) | (show drJ _ _ _ _ _ _ _ (.done _) _; refine D_done ?_; simp only [List.cons_append, List.nil_append]) | (show drQ _ _ _ _ _ _; first | (refine D_split rfl rfl (fun h => ?_) (fun h => ?_) <;> try (exfalso; omega)) | refine D_ev rfl (Ev_pure rfl) rfl rfl ?_ | (show drQ _ _ _ ⟨_, .indexAddr _ _ _, _, _, _, _⟩ _ _; refine D_ev rfl (Ev_indexAddr rfl rfl (by omega) (by omega)) rfl rfl ?_) | (show drQ _ _ _ ⟨_, .call _, _, _, _, _⟩ _ _; refine D_ev rfl (Ev_llen rfl) rfl rfl ?_)) | (show opsA _ _ _ _ _ _ _; first | refine O_ev WideF.wide rfl (Ev_pure rfl) rfl rfl ?_ | (show opsA _ _ _ _ (⟨_, .binOp _ _ _ _ _, _, _, _, _⟩ :: _) _ _; refine O_ev WideF.wide rfl (Ev_add rfl rfl (wi64 (by omega))) rfl rfl ?_)) | (show wpA _ _ _ (.exit _) _ _ _ _; refine A_exit rfl ?_) | (show wpA _ _ _ (.cond _ _ _) _ _ _ _; (refine A_if rfl (fun h => ?_) (fun h => ?_) <;> try (exfalso; omega))))
              refine Shift.to ⟨_, ?_, i + 1, H1, _, _, _, rfl, by omega, hle, by rw [hsn, hat]; exact hr, rfl⟩ ⟨rfl, rfl, rfl, ⟨rfl, rfl, rfl, trivial⟩, Own.sub_nil _⟩
              omega
            · rw [if_neg (by simpa using hyu)] at hat
              repeat' (first | (refine A_drawL WideF.wide (.q 0 (.q 1 (.q 2 (.q 3 (.q 4 (.q 5 (.q 6 (.q 7 (.q 8 (.q 9 (.q 10 (.q 11 (.q 12 (.q 13 (.q 14 (.done [])))))))))))))))) [] (by decide +kernel) ?_) | (refine A_drawL WideF.wide (.q 0 (.q 1 (.q 2 (.q 3 (.q 4 (.q 5 (.q 6 (.q 7 (.q 8 (.q 9 (.q 10 (.q 11 (.q 12 (.q 13 (.q 14 (.done [])))))))))))))))) [] (by decide +kernel) ?_) | (refine D_ev rfl (Ev_loadH1 rfl (hcu 0 _ rfl)) rfl rfl ?_) | (refine D_ev rfl (Ev_loadH1 rfl (hc 0 _ rfl)) rfl rfl ?_) | (refine A_drawi WideF.wide (.q 1 (.q 2 (.q 3 (.p 5 (.p 6 (.q 7 (.q 8 (.p 11 (.p 12 (.p 13 (.f 0 (.f 4 (.e 9 (.r (.e 10 (.e 14 (.q 15 (.done [])))))) 9 (.e 4 (.r (.e 10 (.e 14 (.q 15 (.done []))))))) 9 (.e 0 (.e 4 (.r (.e 10 (.e 14 (.q 15 (.done [])))))))))))))))))) [10, 14, 15] [] [] (by decide +kernel) (by decide) rfl ?_; simp only [Own.picks, Own.rget, List.cons_append, List.nil_append, List.append_nil]) | (refine D_ev rfl (Ev_lsliceh rfl rfl (by omega) (by have := hr.cap; omega)) rfl rfl ?_) | (refine D_pv rfl (Ev_lslicel rfl rfl (by omega) (by omega)) rfl rfl ?_) | (refine E_ef rfl (Ef_build0 WideF.wide rfl ?_); intro bz; refine ⟨Grow.same rfl rfl, ?_⟩) | (refine E_ef rfl (Ef_appendR WideF.wide rfl rfl rfl rfl rfl (by simp; omega) (by simp; omega) rfl ?_); intro a4 c4; refine ⟨Grow.same rfl rfl, ?_⟩) | (refine E_ef rfl (Ef_appendH WideF.wide rfl rfl hup rfl rfl (by simp; omega) (by simp; omega) rfl ?_); intro a4 c4; refine ⟨Grow.same rfl rfl, ?_⟩) | (refine E_ef rfl (Ef_f1 (Ef_appendH WideF.wide rfl rfl hup rfl rfl (by simp; omega) (by simp; omega) rfl ?_)); intro a4 c4; refine ⟨Grow.same rfl rfl, ?_⟩) | (refine E_ef rfl (Ef_appendH WideF.wide rfl rfl hlw rfl rfl (by simp; omega) (by simp; omega) rfl ?_); intro a4 c4; refine ⟨Grow.same rfl rfl, ?_⟩) | refine O_nil ?_ | refine A_seq ?_ | refine A_region ?_ | (show drJ _ _ _ _ _ _ _ (.q _ _) _; refine D_q rfl ?_) | (show drJ _ _ _ _ _ _ _ (.e _ _) _; refine D_e rfl ?_) | (show drJ _ _ _ _ _ _ _ (.f _ _ _ _) _; refine D_f rfl rfl ?_ ?_) | (show drJ _ _ _ _ _ _ _ (.r _) _; refine D_r ?_; simp only [List.cons_append, List.nil_append]) | (show drJ _ _ _ _ _ _ _ (.done _) _; refine D_done ?_; simp only [List.cons_append, List.nil_append]) | (show drQ _ _ _ _ _ _; first | (refine D_split rfl rfl (fun h => ?_) (fun h => ?_) <;> try (exfalso; omega)) | refine D_ev rfl (Ev_pure rfl) rfl rfl ?_ | (show drQ _ _ _ ⟨_, .indexAddr _ _ _, _, _, _, _⟩ _ _; refine D_ev rfl (Ev_indexAddr rfl rfl (by omega) (by omega)) rfl rfl ?_) | (show drQ _ _ _ ⟨_, .call _, _, _, _, _⟩ _ _; refine D_ev rfl (Ev_llen rfl) rfl rfl ?_)) | (show drJ _ _ _ _ _ _ _ (.p _ _) _; refine D_p rfl ?_) | (show drP _ _ _ _ _ _; refine D_pv rfl (Ev_pure rfl) rfl rfl ?_) | (show drE _ _ _ _ _ _ _; first | (show drE _ _ _ _ ⟨_, .call _, _, _, _, _⟩ _ _; (refine E_ef rfl (Ef_f1 (Ef_appendR WideF.wide rfl rfl rfl rfl rfl (by simp; omega) (by simp; omega) rfl ?_)); intro a cp; refine ⟨Grow.same rfl rfl, ?_⟩)) | (show drE _ _ _ _ ⟨_, .buildSlice _ _ _, _, _, _, _⟩ _ _; (refine E_ef rfl (Ef_build11 WideF.wide rfl rfl rfl ?_); intro b; refine ⟨Grow.same rfl rfl, ?_⟩))) | (show opsA _ _ _ _ _ _ _; first | refine O_ev WideF.wide rfl (Ev_pure rfl) rfl rfl ?_ | (show opsA _ _ _ _ (⟨_, .binOp _ _ _ _ _, _, _, _, _⟩ :: _) _ _; refine O_ev WideF.wide rfl (Ev_add rfl rfl (wi64 (by omega))) rfl rfl ?_)) | (show wpA _ _ _ (.exit _) _ _ _ _; refine A_exit rfl ?_) | (show wpA _ _ _ (.cond _ _ _) _ _ _ _; (refine A_if rfl (fun h => ?_) (fun h => ?_) <;> try (exfalso; omega))))
              all_goals
                refine Shift_freeze ?_ fun H2 hle2 hr2 => ?_
                · intro cs hcs
                  refine irow_one (insI y O) cs ?_
                  rw [hat]
                  simpa [irow, List.map_take, List.map_drop, List.take_of_length_le (show ((O.map irow).drop k).length ≤ on - k by simp; omega)] using hcs
                refine Shift.to ⟨_, ?_, i + 1, H2, _, _, _, rfl, by omega, hle.trans hle2, hr2.cong ?_, rfl⟩ ⟨rfl, rfl, rfl, ⟨rfl, rfl, rfl, trivial⟩, Own.sub_nil _⟩
                · omega
                · rw [hsn, hat]; simp [irow, List.map_take, List.map_drop, List.take_of_length_le (show ((O.map irow).drop k).length ≤ on - k by simp; omega)]
        · have hkk : on = k := by omega
          subst hkk
          have hat := insI_at (x := y) (l := O) (k := on) (by omega) hall (fun w hw => by rw [List.getElem?_eq_none (by omega)] at hw; cases hw)
          rw [if_neg (by rw [List.getElem?_eq_none (by omega)]; simp)] at hat
          have hd0 : (O.map irow).drop on = [] := List.drop_of_length_le (by simp; omega)
          have hd1 : O.drop on = [] := List.drop_of_length_le (by omega)
          repeat' (first | (refine A_drawL WideF.wide (.q 0 (.q 1 (.q 2 (.q 3 (.q 4 (.q 5 (.q 6 (.q 7 (.q 8 (.q 9 (.q 10 (.q 11 (.q 12 (.q 13 (.q 14 (.done [])))))))))))))))) [] (by decide +kernel) ?_) | (refine A_drawL WideF.wide (.q 0 (.q 1 (.q 2 (.q 3 (.q 4 (.q 5 (.q 6 (.q 7 (.q 8 (.q 9 (.q 10 (.q 11 (.q 12 (.q 13 (.q 14 (.done [])))))))))))))))) [] (by decide +kernel) ?_) | (refine D_ev rfl (Ev_loadH1 rfl (hc 0 _ rfl)) rfl rfl ?_) | (refine D_ev rfl (Ev_loadH1 rfl (hc 0 _ rfl)) rfl rfl ?_) | (refine A_drawi WideF.wide (.q 1 (.q 2 (.q 3 (.p 5 (.p 6 (.q 7 (.q 8 (.p 11 (.p 12 (.p 13 (.f 0 (.f 4 (.e 9 (.r (.e 10 (.e 14 (.q 15 (.done [])))))) 9 (.e 4 (.r (.e 10 (.e 14 (.q 15 (.done []))))))) 9 (.e 0 (.e 4 (.r (.e 10 (.e 14 (.q 15 (.done [])))))))))))))))))) [10, 14, 15] [] [] (by decide +kernel) (by decide) rfl ?_; simp only [Own.picks, Own.rget, List.cons_append, List.nil_append, List.append_nil]) | (refine D_ev rfl (Ev_lsliceh rfl rfl (by omega) (by have := hr.cap; omega)) rfl rfl ?_) | (refine D_pv rfl (Ev_lslicel rfl rfl (by omega) (by omega)) rfl rfl ?_) | (refine E_ef rfl (Ef_build0 WideF.wide rfl ?_); intro bz; refine ⟨Grow.same rfl rfl, ?_⟩) | (refine E_ef rfl (Ef_appendR WideF.wide rfl rfl rfl rfl rfl (by simp; omega) (by simp; omega) rfl ?_); intro a4 c4; refine ⟨Grow.same rfl rfl, ?_⟩) | (refine E_ef rfl (Ef_appendH WideF.wide rfl rfl hup rfl rfl (by simp; omega) (by simp; omega) rfl ?_); intro a4 c4; refine ⟨Grow.same rfl rfl, ?_⟩) | (refine E_ef rfl (Ef_f1 (Ef_appendH WideF.wide rfl rfl hup rfl rfl (by simp; omega) (by simp; omega) rfl ?_)); intro a4 c4; refine ⟨Grow.same rfl rfl, ?_⟩) | (refine E_ef rfl (Ef_appendH WideF.wide rfl rfl hlw rfl rfl (by simp; omega) (by simp; omega) rfl ?_); intro a4 c4; refine ⟨Grow.same rfl rfl, ?_⟩) | refine O_nil ?_ | refine A_seq ?_ | refine A_region ?_ | (show drJ _ _ _ _ _ _ _ (.q _ _) _; refine D_q rfl ?_) | (show drJ _ _ _ _ _ _ _ (.e _ _) _; refine D_e rfl ?_) | (show drJ _ _ _ _ _ _ _ (.f _ _ _ _) _; refine D_f rfl rfl ?_ ?_) | (show drJ _ _ _ _ _ _ _ (.r _) _; refine D_r ?_; simp only [List.cons_append, List.nil_append]) | (show drJ _ _ _ _ _ _ _ (.done _) _; refine D_done ?_; simp only [List.cons_append, List.nil_append]) | (show drQ _ _ _ _ _ _; first | (refine D_split rfl rfl (fun h => ?_) (fun h => ?_) <;> try (exfalso; omega)) | refine D_ev rfl (Ev_pure rfl) rfl rfl ?_ | (show drQ _ _ _ ⟨_, .indexAddr _ _ _, _, _, _, _⟩ _ _; refine D_ev rfl (Ev_indexAddr rfl rfl (by omega) (by omega)) rfl rfl ?_) | (show drQ _ _ _ ⟨_, .call _, _, _, _, _⟩ _ _; refine D_ev rfl (Ev_llen rfl) rfl rfl ?_) | refine D_skip rfl rfl rfl ?_) | (show drJ _ _ _ _ _ _ _ (.p _ _) _; refine D_p rfl ?_) | (show drP _ _ _ _ _ _; refine D_pv rfl (Ev_pure rfl) rfl rfl ?_) | (show drE _ _ _ _ _ _ _; first | (show drE _ _ _ _ ⟨_, .call _, _, _, _, _⟩ _ _; (refine E_ef rfl (Ef_f1 (Ef_appendR WideF.wide rfl rfl rfl rfl rfl (by simp; omega) (by simp; omega) rfl ?_)); intro a cp; refine ⟨Grow.same rfl rfl, ?_⟩)) | (show drE _ _ _ _ ⟨_, .buildSlice _ _ _, _, _, _, _⟩ _ _; (refine E_ef rfl (Ef_build11 WideF.wide rfl rfl rfl ?_); intro b; refine ⟨Grow.same rfl rfl, ?_⟩))) | (show opsA _ _ _ _ _ _ _; first | refine O_ev WideF.wide rfl (Ev_pure rfl) rfl rfl ?_ | (show opsA _ _ _ _ (⟨_, .binOp _ _ _ _ _, _, _, _, _⟩ :: _) _ _; refine O_ev WideF.wide rfl (Ev_add rfl rfl (wi64 (by omega))) rfl rfl ?_)) | (show wpA _ _ _ (.exit _) _ _ _ _; refine A_exit rfl ?_) | (show wpA _ _ _ (.cond _ _ _) _ _ _ _; first | refine A_iftrue rfl ?_ | refine A_iffalse rfl ?_))
          all_goals
            refine Shift_freeze ?_ fun H2 hle2 hr2 => ?_
            · intro cs hcs
              refine irow_one (insI y O) cs ?_
              rw [hat]
              simpa [irow, List.map_take, List.map_drop, hd0, hd1] using hcs
            refine Shift.to ⟨_, ?_, i + 1, H2, _, _, _, rfl, by omega, hle.trans hle2, hr2.cong ?_, rfl⟩ ⟨rfl, rfl, rfl, ⟨rfl, rfl, rfl, trivial⟩, Own.sub_nil _⟩
            · omega
            · rw [hsn, hat]; simp [irow, List.map_take, List.map_drop, hd0, hd1]
    · have hin : n = i := by omega
      subst hin
      rw [List.take_of_length_le (by omega)] at hr
      repeat' (first | refine O_nil ?_ | refine A_seq ?_ | refine A_region ?_ | refine A_ret ?_ | (show opsA _ _ _ _ _ _ _; first | refine O_ev WideF.wide rfl (Ev_pure rfl) rfl rfl ?_ | (show opsA _ _ _ _ (⟨_, .call _, _, _, _, _⟩ :: _) _ _; refine O_ev WideF.wide rfl (Ev_llen rfl) rfl rfl ?_)) | (show wpA _ _ _ (.exit _) _ _ _ _; refine A_exit rfl ?_) | (show wpA _ _ _ (.cond _ _ _) _ _ _ _; (refine A_if rfl (fun h => ?_) (fun h => ?_) <;> try (exfalso; omega))))
      exact End_e (Ret1 rfl rfl) ⟨⟨_, _, _, rfl, hr⟩, rfl⟩
end Go.Proofs.Ythniohgeojenaaa
