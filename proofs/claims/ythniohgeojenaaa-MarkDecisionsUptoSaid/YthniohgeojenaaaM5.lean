/-
  property.Get, Set, Clear; states of keys: mark.present, before, from, with.
-/
import Derived.Test.YthniohgeojenaaaM4
namespace Go.Proofs.Ythniohgeojenaaa
open Go
set_option linter.unusedVariables false
set_option linter.unusedSimpArgs false
/-! ### lists of properties -/
structure St where
  val : Int
  set : Bool
  deriving DecidableEq
def getP : List Prp → Int → St
  | [], _ => ⟨0, false⟩
  | p :: r, k => if p.key = k then ⟨p.val, true⟩ else getP r k
def setP : List Prp → Int → Int → List Prp
  | [], k, v => [⟨k, v⟩]
  | p :: r, k, v => if p.key < k then p :: setP r k v else if p.key = k then ⟨k, v⟩ :: r else ⟨k, v⟩ :: p :: r
def clearP (l : List Prp) (k : Int) : List Prp := l.filter fun p => p.key ≠ k
def withP (l : List Prp) (k : Int) (s : St) : List Prp := if s.set then setP l k s.val else clearP l k
abbrev IncP (l : List Prp) : Prop := Inc (l.map Prp.key)
theorem IncP.tail {p : Prp} {l : List Prp} (h : IncP (p :: l)) : IncP l := (List.pairwise_cons.1 h).2
theorem IncP.head {p : Prp} {l : List Prp} (h : IncP (p :: l)) : ∀ q ∈ l, p.key < q.key := fun q hq => (List.pairwise_cons.1 h).1 q.key (List.mem_map_of_mem hq)
theorem getP_out : ∀ {l : List Prp} {k : Int}, k ∉ l.map Prp.key → getP l k = ⟨0, false⟩
  | [], _, _ => rfl
  | p :: r, k, h => by
    simp only [List.map_cons, List.mem_cons, not_or] at h
    rw [getP, if_neg (fun e => h.1 e.symm), getP_out h.2]
theorem getP_in : ∀ {l : List Prp} {k : Int} {i : Nat} {p : Prp}, IncP l → l[i]? = some p → p.key = k → getP l k = ⟨p.val, true⟩
  | [], _, i, _, _, h, _ => by simp at h
  | q :: r, k, 0, p, _, h, hk => by simp at h; subst h; rw [getP, if_pos hk]
  | q :: r, k, i + 1, p, hs, h, hk => by
    simp at h
    have := hs.head p (List.mem_of_getElem? h)
    rw [getP, if_neg (by omega), getP_in hs.tail h hk]
theorem setP_in : ∀ {l : List Prp} {k v : Int} {i : Nat} {p : Prp}, IncP l → l[i]? = some p → p.key = k → setP l k v = l.set i ⟨k, v⟩
  | [], _, _, i, _, _, h, _ => by simp at h
  | q :: r, k, v, 0, p, _, h, hk => by simp at h; subst h; rw [setP, if_neg (by omega), if_pos hk]; rfl
  | q :: r, k, v, i + 1, p, hs, h, hk => by
    simp at h
    have := hs.head p (List.mem_of_getElem? h)
    rw [setP, if_pos (by omega), setP_in hs.tail h hk]; rfl
theorem setP_out : ∀ {l : List Prp} {k v : Int} {i : Nat}, Spot (l.map Prp.key) k i → k ∉ l.map Prp.key → setP l k v = l.take i ++ ⟨k, v⟩ :: l.drop i
  | [], k, v, i, h, _ => by simp [setP]
  | q :: r, k, v, 0, h, hk => by
    have h1 := h.hi 0 q.key (Nat.le_refl _) (by simp)
    simp only [List.map_cons, List.mem_cons, not_or] at hk
    rw [setP, if_neg (by omega), if_neg (fun e => hk.1 e.symm)]; rfl
  | q :: r, k, v, i + 1, h, hk => by
    have h1 := h.lo 0 q.key (by omega) (by simp)
    simp only [List.map_cons, List.mem_cons, not_or] at hk
    have hs : Spot (r.map Prp.key) k i := ⟨by have := h.le; simp at this ⊢; omega, fun j a hj ha => h.lo (j + 1) a (by omega) (by simpa using ha), fun j a hj ha => h.hi (j + 1) a (by omega) (by simpa using ha)⟩
    rw [setP, if_pos h1, setP_out hs hk.2]; rfl
theorem clearP_out {l : List Prp} {k : Int} (h : k ∉ l.map Prp.key) : clearP l k = l := by
  unfold clearP
  rw [List.filter_eq_self]
  intro p hp
  have : p.key ≠ k := fun e => h (e ▸ List.mem_map_of_mem hp)
  simpa using this
theorem clearP_in : ∀ {l : List Prp} {k : Int} {i : Nat} {p : Prp}, IncP l → l[i]? = some p → p.key = k → clearP l k = l.eraseIdx i
  | [], _, i, _, _, h, _ => by simp at h
  | q :: r, k, 0, p, hs, h, hk => by
    simp at h; subst h
    have hr : clearP r k = r := clearP_out fun hm => by
      obtain ⟨z, hz, hzk⟩ := List.mem_map.1 hm
      have := hs.head z hz
      omega
    have e1 : clearP (q :: r) k = clearP r k := by unfold clearP; rw [List.filter_cons]; simp [hk]
    rw [e1, hr]; rfl
  | q :: r, k, i + 1, p, hs, h, hk => by
    simp at h
    have h1 := hs.head p (List.mem_of_getElem? h)
    have hq : q.key ≠ k := by omega
    have := clearP_in hs.tail h hk
    unfold clearP at this ⊢
    rw [List.filter_cons, this]; simp [hq]
theorem setP_len (l : List Prp) (k v : Int) : (setP l k v).length ≤ l.length + 1 := by
  induction l with
  | nil => simp [setP]
  | cons p r ih =>
    rw [setP]
    split
    · simp; omega
    · split <;> simp
theorem withP_len (l : List Prp) (k : Int) (s : St) : (withP l k s).length ≤ l.length + 1 := by
  unfold withP
  split
  · exact setP_len l k s.val
  · have := List.length_filter_le (fun p : Prp => p.key ≠ k) l
    unfold clearP
    omega
theorem setP_keys : ∀ {l : List Prp} {k v : Int} {x : Int}, x ∈ (setP l k v).map Prp.key → x = k ∨ x ∈ l.map Prp.key
  | [], k, v, x, h => by simp [setP] at h; exact .inl h
  | p :: r, k, v, x, h => by
    rw [setP] at h
    split at h
    · simp only [List.map_cons, List.mem_cons] at h ⊢
      rcases h with h | h
      · exact .inr (.inl h)
      · rcases setP_keys h with h | h
        · exact .inl h
        · exact .inr (.inr h)
    · split at h
      · simp only [List.map_cons, List.mem_cons] at h ⊢
        rcases h with h | h
        · exact .inl h
        · exact .inr (.inr h)
      · simp only [List.map_cons, List.mem_cons] at h ⊢
        exact h
theorem setP_inc : ∀ {l : List Prp} {k v : Int}, IncP l → IncP (setP l k v)
  | [], k, v, _ => by simp [setP, IncP, Inc]
  | p :: r, k, v, h => by
    rw [setP]
    split
    · refine List.pairwise_cons.2 ⟨fun x hx => ?_, setP_inc h.tail⟩
      rcases setP_keys hx with rfl | hx
      · assumption
      · exact (List.pairwise_cons.1 h).1 x hx
    · split
      · refine List.pairwise_cons.2 ⟨fun x hx => ?_, h.tail⟩
        have := (List.pairwise_cons.1 h).1 x hx
        show k < x
        omega
      · refine List.pairwise_cons.2 ⟨fun x hx => ?_, h⟩
        simp only [List.map_cons, List.mem_cons] at hx
        rcases hx with rfl | hx
        · show k < p.key; omega
        · have := (List.pairwise_cons.1 h).1 x hx
          show k < x; omega
theorem clearP_inc {l : List Prp} {k : Int} (h : IncP l) : IncP (clearP l k) := by
  unfold IncP Inc clearP at *
  rw [List.pairwise_map] at *
  exact List.Pairwise.sublist List.filter_sublist h
theorem withP_inc {l : List Prp} {k : Int} {s : St} (h : IncP l) : IncP (withP l k s) := by
  unfold withP
  split
  · exact setP_inc h
  · exact clearP_inc h
attribute [local irreducible] wpA opsA drJ drQ drE Ef Ev Shift Fn
set_option maxRecDepth 100000 in
theorem search_fn {H : Hp} {a : Option Addr} {n cq : Nat} {l : List Prp} {k : Int} (hx : HRow H a n cq 2 (l.map prow)) (hs : IncP l) (hm : n < 68719476736) :
    Fn Try.prog 72 [.slice a n cq, .int .i64 k] H [] fun v H' I' => (∃ i : Nat, Spot (l.map Prp.key) k i ∧ v = .tuple [.int .i64 i, .bool (decide (k ∈ l.map Prp.key))].toArray) ∧ H' = H ∧ I' = [] := by
  refine Fn_of _ _ Try.func72 rfl Try.ntmps72 rfl fun c => ?_
  repeat' (first | (refine O_ef rfl (Ef_call (I := []) WideF.wide (bsPrp_fn hx hs hm) ⟨rfl, rfl, rfl, trivial⟩ rfl ?_); rintro v H' I' hk ⟨⟨i, hsp, rfl⟩, rfl, rfl⟩) | refine O_nil ?_ | refine A_seq ?_ | refine A_region ?_ | refine A_ret ?_ | (show opsA _ _ _ _ _ _ _; refine O_ev WideF.wide rfl (Ev_pure rfl) rfl rfl ?_))
  exact End_e (Ret2 rfl rfl rfl) ⟨⟨i, hsp, rfl⟩, rfl, rfl⟩
set_option maxRecDepth 100000 in
theorem Get_fn {H : Hp} {a : Option Addr} {n cq : Nat} {l : List Prp} {k : Int} (hx : HRow H a n cq 2 (l.map prow)) (hs : IncP l) (hm : n < 68719476736) :
    FnP Try.prog 33 [.slice a n cq, .int .i64 k] H (.tuple [.int .i64 (getP l k).val, .bool (getP l k).set].toArray) := by
  have e1 : l.length = n := by have := hx.len; simpa using this
  refine Fn_of _ _ Try.func33 rfl Try.ntmps33 rfl fun c => ?_
  repeat' (first | (refine O_ef rfl (Ef_call (I := []) WideF.wide (search_fn hx hs hm) ⟨rfl, rfl, trivial⟩ rfl ?_); rintro v H' I' hk ⟨⟨i, hsp, rfl⟩, rfl, rfl⟩; have hmem := hsp.mem hs) | refine O_nil ?_ | refine A_seq ?_ | refine A_region ?_ | refine A_skip ?_ | refine A_ret ?_ | (show opsA _ _ _ _ _ _ _; first | refine O_ev WideF.wide rfl (Ev_pure rfl) rfl rfl ?_ | (show opsA _ _ _ _ (⟨_, .unOp _ _ _, _, _, _, _⟩ :: _) _ _; refine O_ev WideF.wide rfl (Ev_not rfl) rfl rfl ?_)) | (show wpA _ _ _ (.cond _ _ _) _ _ _ _; (refine A_if rfl (fun h => ?_) (fun h => ?_) <;> try (exfalso; omega))))
  · have hno : k ∉ l.map Prp.key := by assumption
    refine End_p (Ret2 rfl rfl rfl) ?_
    rw [getP_out hno]
  · have hin : k ∈ l.map Prp.key := Decidable.not_not.1 (by assumption)
    have hi := hmem.1 hin
    rw [List.getElem?_map, Option.map_eq_some_iff] at hi
    obtain ⟨p, hp, hpk⟩ := hi
    have hil : i < n := by have := (List.getElem?_eq_some_iff.1 hp).1; omega
    obtain ⟨b', o, p', rfl, hp', hc⟩ := hx.atm i hil
    rw [hp] at hp'; cases hp'
    unfold prow at hc
    repeat' (first | (refine O_ev WideF.wide rfl (Ev_loadH1 rfl (hc 1 _ rfl)) rfl rfl ?_) | refine O_nil ?_ | refine A_ret ?_ | (show opsA _ _ _ _ _ _ _; first | refine O_ev WideF.wide rfl (Ev_pure rfl) rfl rfl ?_ | (show opsA _ _ _ _ (⟨_, .indexAddr _ _ _, _, _, _, _⟩ :: _) _ _; refine O_ev WideF.wide rfl (Ev_indexAddr rfl rfl (by omega) (by omega)) rfl rfl ?_) | (show opsA _ _ _ _ (⟨_, .fieldAddr _ _ _, _, _, _, _⟩ :: _) _ _; refine O_ev WideF.wide rfl (Ev_fieldAddr rfl rfl rfl) rfl rfl ?_)))
    refine End_p (Ret2 rfl rfl rfl) ?_
    rw [getP_in hs hp hpk]
set_option maxRecDepth 100000 in
theorem pClone_fn {H : Hp} {a : Option Addr} {n cp : Nat} {css : List (List Value)} (hr : HRow H a n cp 2 css) (hl : n < 68719476736) : Fn Try.prog 57 [.slice a n cp] H [] fun v H' I' => H' = H ∧ ∃ a' c', v = .slice a' n c' ∧ I' = [.row v 2 css] := by
  refine Fn_of _ _ Try.func57 rfl Try.ntmps57 rfl fun c => ?_
  repeat' (first | (refine O_ef rfl (Ef_call (I := []) WideF.wide (CloneProp_fn hr hl) ⟨rfl, trivial⟩ rfl ?_); rintro v H' I' hk ⟨rfl, a', c', rfl, rfl⟩) | refine O_nil ?_ | refine A_seq ?_ | refine A_region ?_ | refine A_ret ?_ | (show opsA _ _ _ _ _ _ _; refine O_ev WideF.wide rfl (Ev_pure rfl) rfl rfl ?_))
  exact End_m (Ret1 rfl rfl) ⟨rfl, _, _, rfl, rfl⟩
def PropsIs (l : List Prp) (v : Value) (H : Hp) (I : Own) : Prop := (∃ a n c, v = .slice a n c ∧ HRow H a n c 2 (l.map prow)) ∧ I = []
set_option maxRecDepth 100000 in
theorem pSet_fn {H : Hp} {a : Option Addr} {n cq : Nat} {l : List Prp} {k x : Int} (hx : HRow H a n cq 2 (l.map prow)) (hs : IncP l) (hm : n < 34359738368) :
    Fn Try.prog 58 [.slice a n cq, .int .i64 k, .int .i64 x] H [] (PropsIs (setP l k x)) := by
  have e1 : l.length = n := by have := hx.len; simpa using this
  refine Fn_of _ _ Try.func58 rfl Try.ntmps58 rfl fun c => ?_
  repeat' (first | (refine O_ef rfl (Ef_call (I := []) WideF.wide (search_fn hx hs (by omega)) ⟨rfl, rfl, trivial⟩ rfl ?_); rintro v H' I' hk ⟨⟨i, hsp, rfl⟩, rfl, rfl⟩; have hmem := hsp.mem hs; have hil := hsp.le) | (refine O_ef rfl (Ef_call (I := []) WideF.wide (pClone_fn hx (by omega)) ⟨rfl, trivial⟩ rfl ?_); rintro v H' I' hk ⟨rfl, ca, cc, rfl, rfl⟩) | refine O_nil ?_ | refine A_seq ?_ | refine A_region ?_ | refine A_skip ?_ | (show opsA _ _ _ _ _ _ _; first | refine O_ev WideF.wide rfl (Ev_pure rfl) rfl rfl ?_ | (show opsA _ _ _ _ (⟨_, .buildSlice _ _ _, _, _, _, _⟩ :: _) _ _; (refine O_ef rfl (Ef_build1a WideF.wide rfl rfl rfl rfl rfl ?_); intro b)) | (show opsA _ _ _ _ (⟨_, .build _ _, _, _, _, _⟩ :: _) _ _; refine O_ev WideF.wide rfl (Ev_build (vs := [(_, _), (_, _)]) ⟨rfl, rfl, rfl, rfl, trivial⟩ rfl) rfl rfl ?_)) | (show wpA _ _ _ (.cond _ _ _) _ _ _ _; (refine A_if rfl (fun h => ?_) (fun h => ?_) <;> try (exfalso; omega))))
  · have hin : k ∈ l.map Prp.key := by assumption
    have hi := hmem.1 hin
    rw [List.getElem?_map, Option.map_eq_some_iff] at hi
    obtain ⟨p, hp, hpk⟩ := hi
    have hil : i < n := by have := (List.getElem?_eq_some_iff.1 hp).1; omega
    refine O_rowaddr (q := 0) rfl ?_
    intro r1 r2 r3 r4 r5
    obtain ⟨sb, rfl⟩ : ∃ sb, ca = some ⟨sb, 0, none⟩ := by
      cases ca with
      | none => have := (r3 rfl).1; rw [this] at r1; simp at r1; omega
      | some ad => obtain ⟨sb, rfl⟩ := r5 _ rfl; exact ⟨sb, rfl⟩
    have hget : (l.map prow)[i]? = some (prow p) := by rw [List.getElem?_map, hp]; rfl
    repeat' (first | (refine O_ef rfl (Ef_storeR1 WideF.wide (dd := 1) (i := i) (cs := prow p) (cs' := [.int .i64 p.key, .int .i64 x]) rfl rfl hget (by simp) rfl rfl rfl rfl ?_)) | refine O_nil ?_ | refine A_seq ?_ | refine A_region ?_ | refine A_ret ?_ | (show opsA _ _ _ _ _ _ _; first | refine O_ev WideF.wide rfl (Ev_pure rfl) rfl rfl ?_ | (show opsA _ _ _ _ (⟨_, .indexAddr _ _ _, _, _, _, _⟩ :: _) _ _; refine O_ev WideF.wide rfl (Ev_indexAddr rfl rfl (by omega) (by omega)) rfl rfl ?_) | (show opsA _ _ _ _ (⟨_, .fieldAddr _ _ _, _, _, _, _⟩ :: _) _ _; refine O_ev WideF.wide rfl (Ev_fieldAddr rfl rfl rfl) rfl rfl ?_)))
    have hset : (l.map prow).set i [.int .i64 p.key, .int .i64 x] = (setP l k x).map prow := by
      rw [setP_in hs hp hpk, List.map_set, ← hpk]; rfl
    rw [hset]
    exact End_row (Ret1 rfl rfl) (prow_one _) fun H' hle hr => ⟨⟨_, _, _, rfl, hr⟩, rfl⟩
  · have hno : k ∉ l.map Prp.key := by assumption
    simp only [List.length_map] at hil
    have hins := fun Hx va vc => insProp_fn (H := Hx) (a := ca) (va := va) (cp := cc) (vc := vc) (n := n) (i := i) (css := l.map prow) (nv := prow ⟨k, x⟩) (by omega) (prow_one l) (by intro u hu; simp [prow] at hu; rcases hu with rfl | rfl <;> rfl) (by omega)
    repeat' (first | (refine O_f1 (O_ef rfl (Ef_call0 WideF.wide (hins _ _ 1) ⟨rfl, rfl, rfl, trivial⟩ rfl ?_)); rintro v H' I' hk ⟨rfl, a', c', rfl, rfl⟩) | refine O_nil ?_ | refine A_ret ?_ | (show opsA _ _ _ _ _ _ _; refine O_ev WideF.wide rfl (Ev_pure rfl) rfl rfl ?_))
    have hset : ((l.map prow).take i ++ prow ⟨k, x⟩ :: (l.map prow).drop i) = (setP l k x).map prow := by
      rw [setP_out hsp hno]; simp
    rw [hset]
    exact End_row (Ret1 rfl rfl) (prow_one _) fun H' hle hr => ⟨⟨_, _, _, rfl, hr⟩, rfl⟩
set_option maxRecDepth 100000 in
theorem pClear_fn {H : Hp} {a : Option Addr} {n cq : Nat} {l : List Prp} {k : Int} (hx : HRow H a n cq 2 (l.map prow)) (hs : IncP l) (hm : n < 34359738368) :
    Fn Try.prog 59 [.slice a n cq, .int .i64 k] H [] (PropsIs (clearP l k)) := by
  have e1 : l.length = n := by have := hx.len; simpa using this
  refine Fn_of _ _ Try.func59 rfl Try.ntmps59 rfl fun c => ?_
  repeat' (first | (refine O_ef rfl (Ef_call (I := []) WideF.wide (search_fn hx hs (by omega)) ⟨rfl, rfl, trivial⟩ rfl ?_); rintro v H' I' hk ⟨⟨i, hsp, rfl⟩, rfl, rfl⟩; have hmem := hsp.mem hs; have hil := hsp.le) | (refine O_ef rfl (Ef_call (I := []) WideF.wide (pClone_fn hx (by omega)) ⟨rfl, trivial⟩ rfl ?_); rintro v H' I' hk ⟨rfl, ca, cc, rfl, rfl⟩) | refine O_nil ?_ | refine A_seq ?_ | refine A_region ?_ | refine A_skip ?_ | refine A_ret ?_ | (show opsA _ _ _ _ _ _ _; refine O_ev WideF.wide rfl (Ev_pure rfl) rfl rfl ?_) | (show wpA _ _ _ (.cond _ _ _) _ _ _ _; (refine A_if rfl (fun h => ?_) (fun h => ?_) <;> try (exfalso; omega))))
  · have hin : k ∈ l.map Prp.key := by assumption
    have hi := hmem.1 hin
    rw [List.getElem?_map, Option.map_eq_some_iff] at hi
    obtain ⟨p, hp, hpk⟩ := hi
    have hil : i < n := by have := (List.getElem?_eq_some_iff.1 hp).1; omega
    have hdel := fun Hx => delProp_fn (H := Hx) (a := ca) (cp := cc) (n := n) (i := i) (css := l.map prow) hil (prow_one l) (by omega)
    simp only [show ((i + 1 : Nat) : Int) = (i : Int) + 1 by omega] at hdel
    repeat' (first | (refine O_ef rfl (Ef_call0 WideF.wide (hdel _) ⟨rfl, rfl, rfl, trivial⟩ rfl ?_); rintro v H' I' hk ⟨rfl, a', c', rfl, rfl⟩) | refine O_nil ?_ | refine A_seq ?_ | refine A_region ?_ | refine A_ret ?_ | (show opsA _ _ _ _ _ _ _; first | refine O_ev WideF.wide rfl (Ev_pure rfl) rfl rfl ?_ | (show opsA _ _ _ _ (⟨_, .binOp _ _ _ _ _, _, _, _, _⟩ :: _) _ _; refine O_ev WideF.wide rfl (Ev_add rfl rfl (wi64 (by omega))) rfl rfl ?_)))
    have hset : (l.map prow).eraseIdx i = (clearP l k).map prow := by
      rw [clearP_in hs hp hpk, List.eraseIdx_eq_take_drop_succ, List.eraseIdx_eq_take_drop_succ, List.map_append, List.map_take, List.map_drop]
    rw [hset]
    exact End_row (Ret1 rfl rfl) (prow_one _) fun H' hle hr => ⟨⟨_, _, _, rfl, hr⟩, rfl⟩
  · have hno : k ∉ l.map Prp.key := by assumption
    repeat' (first | refine O_nil ?_ | refine A_seq ?_ | refine A_region ?_ | refine A_skip ?_ | refine A_ret ?_ | refine A_block ?_ | (show drJ _ _ _ _ _ _ _ (.q _ _) _; refine D_q rfl ?_) | (show drJ _ _ _ _ _ _ _ (.e _ _) _; refine D_e rfl ?_) | (show drJ _ _ _ _ _ _ _ (.f _ _ _ _) _; refine D_f rfl rfl ?_ ?_) | (show drJ _ _ _ _ _ _ _ (.g _ _ _ _ _ _) _; refine D_g rfl rfl rfl ?_ ?_ ?_) | (show drJ _ _ _ _ _ _ _ (.r _) _; refine D_r ?_; simp only [List.cons_append, List.nil_append]) | (show drJ _ _ _ _ _ _ _ (.done _) _; refine D_done ?_; simp only [List.cons_append, List.nil_append]) | (show drQ _ _ _ _ _ _; first | (refine D_split rfl rfl (fun h => ?_) (fun h => ?_) <;> try (exfalso; omega)) | refine D_ev rfl (Ev_pure rfl) rfl rfl ?_ | (show drQ _ _ _ ⟨_, .load _ _, _, _, _, _⟩ _ _; first | refine D_ev rfl (Ev_loadB1 (i := 0) rfl rfl rfl) rfl rfl ?_ | refine D_ev rfl (Ev_loadB1 (i := 1) rfl rfl rfl) rfl rfl ?_ | refine D_ev rfl (Ev_loadB1 (i := 2) rfl rfl rfl) rfl rfl ?_ | refine D_ev rfl (Ev_loadB1 (i := 3) rfl rfl rfl) rfl rfl ?_ | refine D_ev rfl (Ev_loadB1 (i := 4) rfl rfl rfl) rfl rfl ?_ | refine D_ev rfl (Ev_loadB1 (i := 5) rfl rfl rfl) rfl rfl ?_ | refine D_ev rfl (Ev_loadB (i := 0) rfl rfl rfl) rfl rfl ?_ | refine D_ev rfl (Ev_loadB (i := 1) rfl rfl rfl) rfl rfl ?_ | refine D_ev rfl (Ev_loadB (i := 2) rfl rfl rfl) rfl rfl ?_ | refine D_ev rfl (Ev_loadB (i := 3) rfl rfl rfl) rfl rfl ?_ | refine D_ev rfl (Ev_loadB (i := 4) rfl rfl rfl) rfl rfl ?_ | refine D_ev rfl (Ev_loadB (i := 5) rfl rfl rfl) rfl rfl ?_ | refine D_ev rfl (Ev_loadBs (i := 0) rfl rfl rfl rfl) rfl rfl ?_ | refine D_ev rfl (Ev_loadBs (i := 1) rfl rfl rfl rfl) rfl rfl ?_ | refine D_ev rfl (Ev_loadBs (i := 2) rfl rfl rfl rfl) rfl rfl ?_ | refine D_ev rfl (Ev_loadBs (i := 3) rfl rfl rfl rfl) rfl rfl ?_ | refine D_ev rfl (Ev_loadBs (i := 4) rfl rfl rfl rfl) rfl rfl ?_ | refine D_ev rfl (Ev_loadBs (i := 5) rfl rfl rfl rfl) rfl rfl ?_ | refine D_ev rfl (Ev_loadO1 (i := 0) rfl rfl rfl) rfl rfl ?_ | refine D_ev rfl (Ev_loadO1 (i := 1) rfl rfl rfl) rfl rfl ?_ | refine D_ev rfl (Ev_loadO1 (i := 2) rfl rfl rfl) rfl rfl ?_ | refine D_ev rfl (Ev_loadH1 rfl (hc 0 _ rfl)) rfl rfl ?_ | refine D_ev rfl (Ev_loadH1 rfl (hc 1 _ rfl)) rfl rfl ?_ | refine D_ev rfl (Ev_loadH1 rfl (hc 2 _ rfl)) rfl rfl ?_ | refine D_ev rfl (Ev_loadH1 rfl (hc 3 _ rfl)) rfl rfl ?_ | refine D_ev rfl (Ev_loadH1 rfl (hc 4 _ rfl)) rfl rfl ?_ | refine D_ev rfl (Ev_loadH1 rfl (hc 5 _ rfl)) rfl rfl ?_ | refine D_ev rfl (Ev_loadH1 rfl (hc 6 _ rfl)) rfl rfl ?_ | refine D_ev rfl (Ev_loadH1 rfl (hc 7 _ rfl)) rfl rfl ?_ | refine D_ev rfl (Ev_loadH1 rfl (hc 8 _ rfl)) rfl rfl ?_ | refine D_ev rfl (Ev_loadH1 rfl (hc 9 _ rfl)) rfl rfl ?_ | refine D_ev rfl (Ev_loadH1 rfl (hc 10 _ rfl)) rfl rfl ?_ | refine D_ev rfl (Ev_loadH1 rfl (by assumption)) rfl rfl ?_ | refine D_ev rfl (Ev_loadH rfl (by assumption) (by rfl)) rfl rfl ?_) | (show drQ _ _ _ ⟨_, .indexAddr _ _ _, _, _, _, _⟩ _ _; refine D_ev rfl (Ev_indexAddr rfl rfl (by omega) (by omega)) rfl rfl ?_) | (show drQ _ _ _ ⟨_, .fieldAddr _ _ _, _, _, _, _⟩ _ _; refine D_ev rfl (Ev_fieldAddr rfl rfl rfl) rfl rfl ?_) | (show drQ _ _ _ ⟨_, .call _, _, _, _, _⟩ _ _; first | refine D_ev rfl (Ev_llen rfl) rfl rfl ?_ | refine D_ev rfl (Ev_ext rfl) rfl rfl ?_ | refine D_ev rfl (Ev_maxi rfl rfl) rfl rfl ?_ | refine D_ev rfl (Ev_slen rfl) rfl rfl ?_ | refine D_ev rfl (Ev_lcap rfl) rfl rfl ?_) | (show drQ _ _ _ ⟨_, .binOp _ _ _ _ _, _, _, _, _⟩ _ _; first | refine D_ev rfl (Ev_add rfl rfl (wi64 (by omega))) rfl rfl ?_ | refine D_ev rfl (Ev_sub rfl rfl (wi64 (by omega))) rfl rfl ?_ | refine D_ev rfl (Ev_seql rfl rfl) rfl rfl ?_ | refine D_ev rfl (Ev_sneq rfl rfl) rfl rfl ?_ | refine D_ev rfl (Ev_and rfl rfl) rfl rfl ?_ | refine D_ev rfl (Ev_or rfl rfl) rfl rfl ?_ | refine D_ev rfl (Ev_xor rfl rfl) rfl rfl ?_ | refine D_ev rfl (Ev_shl rfl rfl (by decide) (by decide) rfl) rfl rfl ?_ | refine D_ev rfl (Ev_shr rfl rfl (by decide) (by decide)) rfl rfl ?_ | refine D_ev rfl (Ev_shr rfl rfl (by omega) (by simp [IntKind.bits]; omega)) rfl rfl ?_ | refine D_ev rfl (Ev_mul rfl rfl (wi64 (by omega))) rfl rfl ?_ | refine D_ev rfl (Ev_scat rfl rfl (by omega)) rfl rfl ?_ | refine D_ev rfl (Ev_ptrnil rfl rfl) rfl rfl ?_ | refine D_ev rfl (Ev_quop rfl rfl (by omega) (by omega)) rfl rfl ?_ | refine D_ev rfl (Ev_remp rfl rfl (by omega) (by omega)) rfl rfl ?_ | refine D_ev rfl (Ev_ptrsame rfl rfl) rfl rfl ?_) | (show drQ _ _ _ ⟨_, .index _ _ _, _, _, _, _⟩ _ _; refine D_ev rfl (Ev_sindex rfl rfl (by omega) (by omega)) rfl rfl ?_) | (show drQ _ _ _ ⟨_, .slice _ _ _ _ _, _, _, _, _⟩ _ _; first | refine D_ev rfl (Ev_sslice rfl rfl rfl (by omega) (by omega) (by omega)) rfl rfl ?_ | refine D_ev rfl (Ev_sslicel rfl rfl (by omega) (by omega)) rfl rfl ?_ | refine D_ev rfl (Ev_ssliceh rfl rfl (by omega) (by omega)) rfl rfl ?_) | (show drQ _ _ _ ⟨_, .unOp _ _ _, _, _, _, _⟩ _ _; first | refine D_ev rfl (Ev_not rfl) rfl rfl ?_ | refine D_ev rfl (Ev_notb rfl) rfl rfl ?_) | (show drQ _ _ _ ⟨_, .convert _ _ _, _, _, _, _⟩ _ _; first | refine D_ev rfl (Ev_toUnsafe (i := 0) rfl rfl rfl rfl) rfl rfl ?_ | refine D_ev rfl (Ev_fromUnsafe (i := 0) rfl rfl rfl) rfl rfl ?_ | refine D_ev rfl (Ev_conv (k2 := .i64) rfl (wi64 (bat_i64 _ _))) rfl rfl ?_ | refine D_ev rfl (Ev_conv (k2 := .i64) rfl (wi64 (by omega))) rfl rfl ?_) | (show drQ _ _ _ ⟨_, .build _ _, _, _, _, _⟩ _ _; first | refine D_ev rfl (Ev_build (vs := [(_, _)]) ⟨rfl, rfl, trivial⟩ rfl) rfl rfl ?_ | refine D_ev rfl (Ev_build (vs := [(_, _), (_, _)]) ⟨rfl, rfl, rfl, rfl, trivial⟩ rfl) rfl rfl ?_ | refine D_ev rfl (Ev_build (vs := [(_, _), (_, _), (_, _)]) ⟨rfl, rfl, rfl, rfl, rfl, rfl, trivial⟩ rfl) rfl rfl ?_ | refine D_ev rfl (Ev_build (vs := [(_, _), (_, _), (_, _), (_, _)]) ⟨rfl, rfl, rfl, rfl, rfl, rfl, rfl, rfl, trivial⟩ rfl) rfl rfl ?_ | refine D_ev rfl (Ev_build (vs := []) trivial rfl) rfl rfl ?_) | (show drQ _ _ _ ⟨_, .nilCheck _, _, _, _, _⟩ _ _; refine D_ev rfl (Ev_nilCheck rfl) rfl rfl ?_) | refine D_skip rfl rfl rfl ?_) | (show drJ _ _ _ _ _ _ _ (.p _ _) _; refine D_p rfl ?_) | (show drP _ _ _ _ _ _; first | refine D_pv rfl (Ev_pure rfl) rfl rfl ?_ | (show drP _ _ _ ⟨_, .indexAddr _ _ _, _, _, _, _⟩ _ _; refine D_pv rfl (Ev_indexAddr rfl rfl (by omega) (by omega)) rfl rfl ?_) | (show drP _ _ _ ⟨_, .fieldAddr _ _ _, _, _, _, _⟩ _ _; refine D_pv rfl (Ev_fieldAddr rfl rfl rfl) rfl rfl ?_) | (show drP _ _ _ ⟨_, .call _, _, _, _, _⟩ _ _; first | refine D_pv rfl (Ev_llen rfl) rfl rfl ?_ | refine D_pv rfl (Ev_ext rfl) rfl rfl ?_ | refine D_pv rfl (Ev_maxi rfl rfl) rfl rfl ?_ | refine D_pv rfl (Ev_slen rfl) rfl rfl ?_ | refine D_pv rfl (Ev_lcap rfl) rfl rfl ?_) | (show drP _ _ _ ⟨_, .binOp _ _ _ _ _, _, _, _, _⟩ _ _; first | refine D_pv rfl (Ev_add rfl rfl (wi64 (by omega))) rfl rfl ?_ | refine D_pv rfl (Ev_sub rfl rfl (wi64 (by omega))) rfl rfl ?_ | refine D_pv rfl (Ev_seql rfl rfl) rfl rfl ?_ | refine D_pv rfl (Ev_sneq rfl rfl) rfl rfl ?_ | refine D_pv rfl (Ev_and rfl rfl) rfl rfl ?_ | refine D_pv rfl (Ev_or rfl rfl) rfl rfl ?_ | refine D_pv rfl (Ev_xor rfl rfl) rfl rfl ?_ | refine D_pv rfl (Ev_shl rfl rfl (by decide) (by decide) rfl) rfl rfl ?_ | refine D_pv rfl (Ev_shr rfl rfl (by decide) (by decide)) rfl rfl ?_ | refine D_pv rfl (Ev_shr rfl rfl (by omega) (by simp [IntKind.bits]; omega)) rfl rfl ?_ | refine D_pv rfl (Ev_mul rfl rfl (wi64 (by omega))) rfl rfl ?_ | refine D_pv rfl (Ev_scat rfl rfl (by omega)) rfl rfl ?_ | refine D_pv rfl (Ev_ptrnil rfl rfl) rfl rfl ?_ | refine D_pv rfl (Ev_quop rfl rfl (by omega) (by omega)) rfl rfl ?_ | refine D_pv rfl (Ev_remp rfl rfl (by omega) (by omega)) rfl rfl ?_ | refine D_pv rfl (Ev_ptrsame rfl rfl) rfl rfl ?_) | (show drP _ _ _ ⟨_, .index _ _ _, _, _, _, _⟩ _ _; refine D_pv rfl (Ev_sindex rfl rfl (by omega) (by omega)) rfl rfl ?_) | (show drP _ _ _ ⟨_, .slice _ _ _ _ _, _, _, _, _⟩ _ _; first | refine D_pv rfl (Ev_sslice rfl rfl rfl (by omega) (by omega) (by omega)) rfl rfl ?_ | refine D_pv rfl (Ev_sslicel rfl rfl (by omega) (by omega)) rfl rfl ?_ | refine D_pv rfl (Ev_ssliceh rfl rfl (by omega) (by omega)) rfl rfl ?_) | (show drP _ _ _ ⟨_, .unOp _ _ _, _, _, _, _⟩ _ _; first | refine D_pv rfl (Ev_not rfl) rfl rfl ?_ | refine D_pv rfl (Ev_notb rfl) rfl rfl ?_) | (show drP _ _ _ ⟨_, .convert _ _ _, _, _, _, _⟩ _ _; first | refine D_pv rfl (Ev_toUnsafe (i := 0) rfl rfl rfl rfl) rfl rfl ?_ | refine D_pv rfl (Ev_fromUnsafe (i := 0) rfl rfl rfl) rfl rfl ?_ | refine D_pv rfl (Ev_conv (k2 := .i64) rfl (wi64 (bat_i64 _ _))) rfl rfl ?_ | refine D_pv rfl (Ev_conv (k2 := .i64) rfl (wi64 (by omega))) rfl rfl ?_) | (show drP _ _ _ ⟨_, .build _ _, _, _, _, _⟩ _ _; first | refine D_pv rfl (Ev_build (vs := [(_, _)]) ⟨rfl, rfl, trivial⟩ rfl) rfl rfl ?_ | refine D_pv rfl (Ev_build (vs := [(_, _), (_, _)]) ⟨rfl, rfl, rfl, rfl, trivial⟩ rfl) rfl rfl ?_ | refine D_pv rfl (Ev_build (vs := [(_, _), (_, _), (_, _)]) ⟨rfl, rfl, rfl, rfl, rfl, rfl, trivial⟩ rfl) rfl rfl ?_ | refine D_pv rfl (Ev_build (vs := [(_, _), (_, _), (_, _), (_, _)]) ⟨rfl, rfl, rfl, rfl, rfl, rfl, rfl, rfl, trivial⟩ rfl) rfl rfl ?_ | refine D_pv rfl (Ev_build (vs := []) trivial rfl) rfl rfl ?_) | (show drP _ _ _ ⟨_, .nilCheck _, _, _, _, _⟩ _ _; refine D_pv rfl (Ev_nilCheck rfl) rfl rfl ?_)) | (show drE _ _ _ _ _ _ _; first | (refine E_split rfl rfl (fun h => ?_) (fun h => ?_) <;> try (exfalso; omega)) | (show drE _ _ _ _ ⟨_, .call _, _, _, _, _⟩ _ _; first | (refine E_ef rfl (Ef_f1 (Ef_appendR WideF.wide rfl rfl rfl rfl rfl (by simp; omega) (by simp; omega) rfl ?_)); intro a cp; refine ⟨Grow.same rfl rfl, ?_⟩) | (refine E_ef rfl (Ef_f2 (Ef_appendR WideF.wide rfl rfl rfl rfl rfl (by simp; omega) (by simp; omega) rfl ?_)); intro a cp; refine ⟨Grow.same rfl rfl, ?_⟩) | (refine E_ef rfl (Ef_f3 (Ef_appendR WideF.wide rfl rfl rfl rfl rfl (by simp; omega) (by simp; omega) rfl ?_)); intro a cp; refine ⟨Grow.same rfl rfl, ?_⟩) | (refine E_ef rfl (Ef_f4 (Ef_appendR WideF.wide rfl rfl rfl rfl rfl (by simp; omega) (by simp; omega) rfl ?_)); intro a cp; refine ⟨Grow.same rfl rfl, ?_⟩) | (refine E_ef rfl (Ef_f5 (Ef_appendR WideF.wide rfl rfl rfl rfl rfl (by simp; omega) (by simp; omega) rfl ?_)); intro a cp; refine ⟨Grow.same rfl rfl, ?_⟩)) | (show drE _ _ _ _ ⟨_, .buildSlice _ _ _, _, _, _, _⟩ _ _; first | (refine E_ef rfl (Ef_build1a WideF.wide rfl rfl rfl rfl rfl ?_); intro b; refine ⟨Grow.same rfl rfl, ?_⟩) | (refine E_ef rfl (Ef_build11 WideF.wide rfl rfl rfl ?_); intro b; refine ⟨Grow.same rfl rfl, ?_⟩)) | (show drE _ _ _ _ ⟨_, .alloc _, _, _, _, _⟩ _ _; (refine E_ef rfl (Ef_alloc WideF.wide rfl ?_); intro b; refine ⟨Grow.same rfl rfl, ?_⟩)) | (show drE _ _ _ _ ⟨_, .box _ _, _, _, _, _⟩ _ _; first | (refine E_ef rfl (Ef_box1 WideF.wide rfl rfl rfl ?_); intro b; refine ⟨Grow.same rfl rfl, ?_⟩) | (refine E_ef rfl (Ef_boxa WideF.wide rfl rfl ?_); intro b; refine ⟨Grow.same rfl rfl, ?_⟩)) | (show drE _ _ _ _ ⟨_, .store _ _ _, _, _, _, _⟩ _ _; first | (refine E_ef rfl (Ef_storew WideF.wide rfl rfl rfl rfl rfl ?_); refine ⟨Grow.same rfl rfl, ?_⟩) | (refine E_ef rfl (Ef_store1 WideF.wide rfl rfl rfl rfl rfl ?_); refine ⟨Grow.same rfl rfl, ?_⟩) | (refine E_ef rfl (Ef_storeO1 WideF.wide rfl rfl rfl rfl rfl ?_); refine ⟨Grow.same rfl rfl, ?_⟩) | (refine E_ef rfl (Ef_storea WideF.wide rfl rfl rfl rfl rfl rfl ?_); refine ⟨Grow.same rfl rfl, ?_⟩) | (refine E_ef rfl (Ef_f1 (Ef_storew WideF.wide rfl rfl rfl rfl rfl ?_)); refine ⟨Grow.same rfl rfl, ?_⟩) | (refine E_ef rfl (Ef_f1 (Ef_store1 WideF.wide rfl rfl rfl rfl rfl ?_)); refine ⟨Grow.same rfl rfl, ?_⟩) | (refine E_ef rfl (Ef_f1 (Ef_storeO1 WideF.wide rfl rfl rfl rfl rfl ?_)); refine ⟨Grow.same rfl rfl, ?_⟩) | (refine E_ef rfl (Ef_f1 (Ef_storea WideF.wide rfl rfl rfl rfl rfl rfl ?_)); refine ⟨Grow.same rfl rfl, ?_⟩) | (refine E_ef rfl (Ef_f2 (Ef_storew WideF.wide rfl rfl rfl rfl rfl ?_)); refine ⟨Grow.same rfl rfl, ?_⟩) | (refine E_ef rfl (Ef_f2 (Ef_store1 WideF.wide rfl rfl rfl rfl rfl ?_)); refine ⟨Grow.same rfl rfl, ?_⟩) | (refine E_ef rfl (Ef_f2 (Ef_storeO1 WideF.wide rfl rfl rfl rfl rfl ?_)); refine ⟨Grow.same rfl rfl, ?_⟩) | (refine E_ef rfl (Ef_f2 (Ef_storea WideF.wide rfl rfl rfl rfl rfl rfl ?_)); refine ⟨Grow.same rfl rfl, ?_⟩) | (refine E_ef rfl (Ef_f3 (Ef_storew WideF.wide rfl rfl rfl rfl rfl ?_)); refine ⟨Grow.same rfl rfl, ?_⟩) | (refine E_ef rfl (Ef_f3 (Ef_store1 WideF.wide rfl rfl rfl rfl rfl ?_)); refine ⟨Grow.same rfl rfl, ?_⟩) | (refine E_ef rfl (Ef_f3 (Ef_storeO1 WideF.wide rfl rfl rfl rfl rfl ?_)); refine ⟨Grow.same rfl rfl, ?_⟩) | (refine E_ef rfl (Ef_f3 (Ef_storea WideF.wide rfl rfl rfl rfl rfl rfl ?_)); refine ⟨Grow.same rfl rfl, ?_⟩) | (refine E_ef rfl (Ef_f4 (Ef_storew WideF.wide rfl rfl rfl rfl rfl ?_)); refine ⟨Grow.same rfl rfl, ?_⟩) | (refine E_ef rfl (Ef_f4 (Ef_store1 WideF.wide rfl rfl rfl rfl rfl ?_)); refine ⟨Grow.same rfl rfl, ?_⟩) | (refine E_ef rfl (Ef_f4 (Ef_storeO1 WideF.wide rfl rfl rfl rfl rfl ?_)); refine ⟨Grow.same rfl rfl, ?_⟩) | (refine E_ef rfl (Ef_f4 (Ef_storea WideF.wide rfl rfl rfl rfl rfl rfl ?_)); refine ⟨Grow.same rfl rfl, ?_⟩) | (refine E_ef rfl (Ef_f5 (Ef_storew WideF.wide rfl rfl rfl rfl rfl ?_)); refine ⟨Grow.same rfl rfl, ?_⟩) | (refine E_ef rfl (Ef_f5 (Ef_store1 WideF.wide rfl rfl rfl rfl rfl ?_)); refine ⟨Grow.same rfl rfl, ?_⟩) | (refine E_ef rfl (Ef_f5 (Ef_storeO1 WideF.wide rfl rfl rfl rfl rfl ?_)); refine ⟨Grow.same rfl rfl, ?_⟩) | (refine E_ef rfl (Ef_f5 (Ef_storea WideF.wide rfl rfl rfl rfl rfl rfl ?_)); refine ⟨Grow.same rfl rfl, ?_⟩)) | refine E_skip rfl rfl rfl ?_) | (show opsA _ _ _ _ _ _ _; first | (refine O_split rfl rfl (fun h => ?_) (fun h => ?_) <;> try (exfalso; omega)) | refine O_ev WideF.wide rfl (Ev_pure rfl) rfl rfl ?_ | (show opsA _ _ _ _ (⟨_, .load _ _, _, _, _, _⟩ :: _) _ _; first | refine O_ev WideF.wide rfl (Ev_loadB1 (i := 0) rfl rfl rfl) rfl rfl ?_ | refine O_ev WideF.wide rfl (Ev_loadB1 (i := 1) rfl rfl rfl) rfl rfl ?_ | refine O_ev WideF.wide rfl (Ev_loadB1 (i := 2) rfl rfl rfl) rfl rfl ?_ | refine O_ev WideF.wide rfl (Ev_loadB1 (i := 3) rfl rfl rfl) rfl rfl ?_ | refine O_ev WideF.wide rfl (Ev_loadB1 (i := 4) rfl rfl rfl) rfl rfl ?_ | refine O_ev WideF.wide rfl (Ev_loadB1 (i := 5) rfl rfl rfl) rfl rfl ?_ | refine O_ev WideF.wide rfl (Ev_loadB (i := 0) rfl rfl rfl) rfl rfl ?_ | refine O_ev WideF.wide rfl (Ev_loadB (i := 1) rfl rfl rfl) rfl rfl ?_ | refine O_ev WideF.wide rfl (Ev_loadB (i := 2) rfl rfl rfl) rfl rfl ?_ | refine O_ev WideF.wide rfl (Ev_loadB (i := 3) rfl rfl rfl) rfl rfl ?_ | refine O_ev WideF.wide rfl (Ev_loadB (i := 4) rfl rfl rfl) rfl rfl ?_ | refine O_ev WideF.wide rfl (Ev_loadB (i := 5) rfl rfl rfl) rfl rfl ?_ | refine O_ev WideF.wide rfl (Ev_loadBs (i := 0) rfl rfl rfl rfl) rfl rfl ?_ | refine O_ev WideF.wide rfl (Ev_loadBs (i := 1) rfl rfl rfl rfl) rfl rfl ?_ | refine O_ev WideF.wide rfl (Ev_loadBs (i := 2) rfl rfl rfl rfl) rfl rfl ?_ | refine O_ev WideF.wide rfl (Ev_loadBs (i := 3) rfl rfl rfl rfl) rfl rfl ?_ | refine O_ev WideF.wide rfl (Ev_loadBs (i := 4) rfl rfl rfl rfl) rfl rfl ?_ | refine O_ev WideF.wide rfl (Ev_loadBs (i := 5) rfl rfl rfl rfl) rfl rfl ?_ | refine O_ev WideF.wide rfl (Ev_loadO1 (i := 0) rfl rfl rfl) rfl rfl ?_ | refine O_ev WideF.wide rfl (Ev_loadO1 (i := 1) rfl rfl rfl) rfl rfl ?_ | refine O_ev WideF.wide rfl (Ev_loadO1 (i := 2) rfl rfl rfl) rfl rfl ?_ | refine O_ev WideF.wide rfl (Ev_loadH1 rfl (hc 0 _ rfl)) rfl rfl ?_ | refine O_ev WideF.wide rfl (Ev_loadH1 rfl (hc 1 _ rfl)) rfl rfl ?_ | refine O_ev WideF.wide rfl (Ev_loadH1 rfl (hc 2 _ rfl)) rfl rfl ?_ | refine O_ev WideF.wide rfl (Ev_loadH1 rfl (hc 3 _ rfl)) rfl rfl ?_ | refine O_ev WideF.wide rfl (Ev_loadH1 rfl (hc 4 _ rfl)) rfl rfl ?_ | refine O_ev WideF.wide rfl (Ev_loadH1 rfl (hc 5 _ rfl)) rfl rfl ?_ | refine O_ev WideF.wide rfl (Ev_loadH1 rfl (hc 6 _ rfl)) rfl rfl ?_ | refine O_ev WideF.wide rfl (Ev_loadH1 rfl (hc 7 _ rfl)) rfl rfl ?_ | refine O_ev WideF.wide rfl (Ev_loadH1 rfl (hc 8 _ rfl)) rfl rfl ?_ | refine O_ev WideF.wide rfl (Ev_loadH1 rfl (hc 9 _ rfl)) rfl rfl ?_ | refine O_ev WideF.wide rfl (Ev_loadH1 rfl (hc 10 _ rfl)) rfl rfl ?_ | refine O_ev WideF.wide rfl (Ev_loadH1 rfl (by assumption)) rfl rfl ?_ | refine O_ev WideF.wide rfl (Ev_loadH rfl (by assumption) (by rfl)) rfl rfl ?_) | (show opsA _ _ _ _ (⟨_, .indexAddr _ _ _, _, _, _, _⟩ :: _) _ _; refine O_ev WideF.wide rfl (Ev_indexAddr rfl rfl (by omega) (by omega)) rfl rfl ?_) | (show opsA _ _ _ _ (⟨_, .fieldAddr _ _ _, _, _, _, _⟩ :: _) _ _; refine O_ev WideF.wide rfl (Ev_fieldAddr rfl rfl rfl) rfl rfl ?_) | (show opsA _ _ _ _ (⟨_, .call _, _, _, _, _⟩ :: _) _ _; first | refine O_ev WideF.wide rfl (Ev_llen rfl) rfl rfl ?_ | refine O_ev WideF.wide rfl (Ev_ext rfl) rfl rfl ?_ | refine O_ev WideF.wide rfl (Ev_maxi rfl rfl) rfl rfl ?_ | refine O_ev WideF.wide rfl (Ev_slen rfl) rfl rfl ?_ | refine O_ev WideF.wide rfl (Ev_lcap rfl) rfl rfl ?_ | (refine O_f1 (O_ef rfl (Ef_appendR WideF.wide rfl rfl rfl rfl rfl (by simp; omega) (by simp; omega) rfl ?_)); intro a cp) | (refine O_f2 (O_ef rfl (Ef_appendR WideF.wide rfl rfl rfl rfl rfl (by simp; omega) (by simp; omega) rfl ?_)); intro a cp) | (refine O_f3 (O_ef rfl (Ef_appendR WideF.wide rfl rfl rfl rfl rfl (by simp; omega) (by simp; omega) rfl ?_)); intro a cp) | (refine O_f4 (O_ef rfl (Ef_appendR WideF.wide rfl rfl rfl rfl rfl (by simp; omega) (by simp; omega) rfl ?_)); intro a cp) | (refine O_f5 (O_ef rfl (Ef_appendR WideF.wide rfl rfl rfl rfl rfl (by simp; omega) (by simp; omega) rfl ?_)); intro a cp)) | (show opsA _ _ _ _ (⟨_, .buildSlice _ _ _, _, _, _, _⟩ :: _) _ _; first | (refine O_ef rfl (Ef_build1a WideF.wide rfl rfl rfl rfl rfl ?_); intro b) | (refine O_ef rfl (Ef_build11 WideF.wide rfl rfl rfl ?_); intro b)) | (show opsA _ _ _ _ (⟨_, .binOp _ _ _ _ _, _, _, _, _⟩ :: _) _ _; first | refine O_ev WideF.wide rfl (Ev_add rfl rfl (wi64 (by omega))) rfl rfl ?_ | refine O_ev WideF.wide rfl (Ev_sub rfl rfl (wi64 (by omega))) rfl rfl ?_ | refine O_ev WideF.wide rfl (Ev_seql rfl rfl) rfl rfl ?_ | refine O_ev WideF.wide rfl (Ev_sneq rfl rfl) rfl rfl ?_ | refine O_ev WideF.wide rfl (Ev_and rfl rfl) rfl rfl ?_ | refine O_ev WideF.wide rfl (Ev_or rfl rfl) rfl rfl ?_ | refine O_ev WideF.wide rfl (Ev_xor rfl rfl) rfl rfl ?_ | refine O_ev WideF.wide rfl (Ev_shl rfl rfl (by decide) (by decide) rfl) rfl rfl ?_ | refine O_ev WideF.wide rfl (Ev_shr rfl rfl (by decide) (by decide)) rfl rfl ?_ | refine O_ev WideF.wide rfl (Ev_shr rfl rfl (by omega) (by simp [IntKind.bits]; omega)) rfl rfl ?_ | refine O_ev WideF.wide rfl (Ev_mul rfl rfl (wi64 (by omega))) rfl rfl ?_ | refine O_ev WideF.wide rfl (Ev_scat rfl rfl (by omega)) rfl rfl ?_ | refine O_ev WideF.wide rfl (Ev_ptrnil rfl rfl) rfl rfl ?_ | refine O_ev WideF.wide rfl (Ev_quop rfl rfl (by omega) (by omega)) rfl rfl ?_ | refine O_ev WideF.wide rfl (Ev_remp rfl rfl (by omega) (by omega)) rfl rfl ?_ | refine O_ev WideF.wide rfl (Ev_ptrsame rfl rfl) rfl rfl ?_) | (show opsA _ _ _ _ (⟨_, .index _ _ _, _, _, _, _⟩ :: _) _ _; refine O_ev WideF.wide rfl (Ev_sindex rfl rfl (by omega) (by omega)) rfl rfl ?_) | (show opsA _ _ _ _ (⟨_, .slice _ _ _ _ _, _, _, _, _⟩ :: _) _ _; first | refine O_ev WideF.wide rfl (Ev_sslice rfl rfl rfl (by omega) (by omega) (by omega)) rfl rfl ?_ | refine O_ev WideF.wide rfl (Ev_sslicel rfl rfl (by omega) (by omega)) rfl rfl ?_ | refine O_ev WideF.wide rfl (Ev_ssliceh rfl rfl (by omega) (by omega)) rfl rfl ?_) | (show opsA _ _ _ _ (⟨_, .unOp _ _ _, _, _, _, _⟩ :: _) _ _; first | refine O_ev WideF.wide rfl (Ev_not rfl) rfl rfl ?_ | refine O_ev WideF.wide rfl (Ev_notb rfl) rfl rfl ?_) | (show opsA _ _ _ _ (⟨_, .convert _ _ _, _, _, _, _⟩ :: _) _ _; first | refine O_ev WideF.wide rfl (Ev_toUnsafe (i := 0) rfl rfl rfl rfl) rfl rfl ?_ | refine O_ev WideF.wide rfl (Ev_fromUnsafe (i := 0) rfl rfl rfl) rfl rfl ?_ | refine O_ev WideF.wide rfl (Ev_conv (k2 := .i64) rfl (wi64 (bat_i64 _ _))) rfl rfl ?_ | refine O_ev WideF.wide rfl (Ev_conv (k2 := .i64) rfl (wi64 (by omega))) rfl rfl ?_) | (show opsA _ _ _ _ (⟨_, .build _ _, _, _, _, _⟩ :: _) _ _; first | refine O_ev WideF.wide rfl (Ev_build (vs := [(_, _)]) ⟨rfl, rfl, trivial⟩ rfl) rfl rfl ?_ | refine O_ev WideF.wide rfl (Ev_build (vs := [(_, _), (_, _)]) ⟨rfl, rfl, rfl, rfl, trivial⟩ rfl) rfl rfl ?_ | refine O_ev WideF.wide rfl (Ev_build (vs := [(_, _), (_, _), (_, _)]) ⟨rfl, rfl, rfl, rfl, rfl, rfl, trivial⟩ rfl) rfl rfl ?_ | refine O_ev WideF.wide rfl (Ev_build (vs := [(_, _), (_, _), (_, _), (_, _)]) ⟨rfl, rfl, rfl, rfl, rfl, rfl, rfl, rfl, trivial⟩ rfl) rfl rfl ?_ | refine O_ev WideF.wide rfl (Ev_build (vs := []) trivial rfl) rfl rfl ?_) | (show opsA _ _ _ _ (⟨_, .nilCheck _, _, _, _, _⟩ :: _) _ _; refine O_ev WideF.wide rfl (Ev_nilCheck rfl) rfl rfl ?_) | (show opsA _ _ _ _ (⟨_, .alloc _, _, _, _, _⟩ :: _) _ _; (refine O_ef rfl (Ef_alloc WideF.wide rfl ?_); intro b)) | (show opsA _ _ _ _ (⟨_, .box _ _, _, _, _, _⟩ :: _) _ _; first | (refine O_ef rfl (Ef_box1 WideF.wide rfl rfl rfl ?_); intro b) | (refine O_ef rfl (Ef_boxa WideF.wide rfl rfl ?_); intro b)) | (show opsA _ _ _ _ (⟨_, .store _ _ _, _, _, _, _⟩ :: _) _ _; first | refine O_ef rfl (Ef_storew WideF.wide rfl rfl rfl rfl rfl ?_) | refine O_ef rfl (Ef_store1 WideF.wide rfl rfl rfl rfl rfl ?_) | refine O_ef rfl (Ef_storeO1 WideF.wide rfl rfl rfl rfl rfl ?_) | refine O_ef rfl (Ef_storea WideF.wide rfl rfl rfl rfl rfl rfl ?_) | refine O_f1 (O_ef rfl (Ef_storew WideF.wide rfl rfl rfl rfl rfl ?_)) | refine O_f1 (O_ef rfl (Ef_store1 WideF.wide rfl rfl rfl rfl rfl ?_)) | refine O_f1 (O_ef rfl (Ef_storeO1 WideF.wide rfl rfl rfl rfl rfl ?_)) | refine O_f1 (O_ef rfl (Ef_storea WideF.wide rfl rfl rfl rfl rfl rfl ?_)) | refine O_f2 (O_ef rfl (Ef_storew WideF.wide rfl rfl rfl rfl rfl ?_)) | refine O_f2 (O_ef rfl (Ef_store1 WideF.wide rfl rfl rfl rfl rfl ?_)) | refine O_f2 (O_ef rfl (Ef_storeO1 WideF.wide rfl rfl rfl rfl rfl ?_)) | refine O_f2 (O_ef rfl (Ef_storea WideF.wide rfl rfl rfl rfl rfl rfl ?_)) | refine O_f3 (O_ef rfl (Ef_storew WideF.wide rfl rfl rfl rfl rfl ?_)) | refine O_f3 (O_ef rfl (Ef_store1 WideF.wide rfl rfl rfl rfl rfl ?_)) | refine O_f3 (O_ef rfl (Ef_storeO1 WideF.wide rfl rfl rfl rfl rfl ?_)) | refine O_f3 (O_ef rfl (Ef_storea WideF.wide rfl rfl rfl rfl rfl rfl ?_)) | refine O_f4 (O_ef rfl (Ef_storew WideF.wide rfl rfl rfl rfl rfl ?_)) | refine O_f4 (O_ef rfl (Ef_store1 WideF.wide rfl rfl rfl rfl rfl ?_)) | refine O_f4 (O_ef rfl (Ef_storeO1 WideF.wide rfl rfl rfl rfl rfl ?_)) | refine O_f4 (O_ef rfl (Ef_storea WideF.wide rfl rfl rfl rfl rfl rfl ?_)) | refine O_f5 (O_ef rfl (Ef_storew WideF.wide rfl rfl rfl rfl rfl ?_)) | refine O_f5 (O_ef rfl (Ef_store1 WideF.wide rfl rfl rfl rfl rfl ?_)) | refine O_f5 (O_ef rfl (Ef_storeO1 WideF.wide rfl rfl rfl rfl rfl ?_)) | refine O_f5 (O_ef rfl (Ef_storea WideF.wide rfl rfl rfl rfl rfl rfl ?_))) | refine O_skip WideF.wide rfl rfl rfl ?_) | (show wpA _ _ _ (.exit _) _ _ _ _; refine A_exit rfl ?_) | (show wpA _ _ _ (.cond _ _ _) _ _ _ _; first | (refine A_if rfl (fun h => ?_) (fun h => ?_) <;> try (exfalso; omega)) | refine A_iftrue rfl ?_ | refine A_iffalse rfl ?_))
    rw [show l.map prow = (clearP l k).map prow by rw [clearP_out hno]]
    exact End_row (Ret1 rfl rfl) (prow_one _) fun H' hle hr => ⟨⟨_, _, _, rfl, hr⟩, rfl⟩
end Go.Proofs.Ythniohgeojenaaa
