/-
  Owned rows, more: stores into an element, clear, a shorter slice of the same row.
-/
import Derived.Test.YthniohgeojenaaaA9
namespace Go.Proofs.Ythniohgeojenaaa
open Go
set_option linter.unusedVariables false
set_option linter.unusedSimpArgs false

theorem cput_left {A B vs : List Value} {d : Nat} (h : d + vs.length ≤ A.length) : cput (A ++ B) d vs = cput A d vs ++ B := by
  unfold cput
  rw [List.take_append_of_le_length (by omega), List.drop_append_of_le_length h]
  simp
theorem cput_right {A B vs : List Value} (o : Nat) : cput (A ++ B) (A.length + o) vs = A ++ cput B o vs := by
  unfold cput
  rw [List.take_append, List.drop_append, List.take_of_length_le (by omega), List.drop_of_length_le (by omega), show A.length + o - A.length = o by omega, show A.length + o + vs.length - A.length = o + vs.length by omega]
  simp
theorem flat_put {k d : Nat} {vs rest : List Value} : ∀ {css : List (List Value)} {i : Nat} {cs : List Value}, (∀ cs ∈ css, cs.length = k) → css[i]? = some cs → d + vs.length ≤ k →
    cput (css.flatten ++ rest) (i * k + d) vs = (css.set i (cput cs d vs)).flatten ++ rest
  | [], i, cs, _, h, _ => by simp at h
  | c0 :: r, 0, cs, hk, h, hd => by
    simp at h
    subst h
    have h0 := hk c0 (by simp)
    rw [List.flatten_cons, List.append_assoc, show 0 * k + d = d by omega, cput_left (by omega)]
    simp
  | c0 :: r, i + 1, cs, hk, h, hd => by
    simp at h
    have h0 := hk c0 (by simp)
    have ih := flat_put (rest := rest) (css := r) (i := i) (fun x hx => hk x (List.mem_cons_of_mem _ hx)) h hd
    rw [List.flatten_cons, List.append_assoc, show (i + 1) * k + d = c0.length + (i * k + d) by rw [h0, Nat.succ_mul]; omega, cput_right, ih]
    simp
theorem cput_length {cs vs : List Value} {d : Nat} (h : d + vs.length ≤ cs.length) : (cput cs d vs).length = cs.length := by
  simp only [cput, List.length_append, List.length_take, List.length_drop]; omega

section
variable {F : Fence} {P : Program} {c : Ctx} {o : Oper} {K : SP} {X : List (Nat × SP)} {R : SP} {ops l : List Oper} {code : Code} {n : Nat} {e : Env} {H : Hp} {M M' L : Own} {D : List Deferred} {dst : Option Tmp} {d : Nat} {ty : TypeId} {pos : String} {after : Array Edge} {g : Option (Nat × Bool)} {x y z : Operand} {v : Value} {t t2 : TypeId} {k b off : Nat}

/-- a part of an element -/
theorem Ef_storeR (hF : WideF F) {ag : Bool} {i dd nn cp kk : Nat} {css : List (List Value)} {cs cs' vs : List Value} [hT : TyC P t ag kk] (hx : e.eval x = some (.pointer (some ⟨b, off, none⟩))) (hy : e.eval y = some (.agg vs.toArray)) (hi : css[i]? = some cs) (ho : off = i * k + dd)
    (hk : vs.length = kk) (hv : ∀ u ∈ vs, u.oneCell' = true) (hl : dd + vs.length ≤ k) (hc : cput cs dd vs = cs')
    (kk' : K ⟨n, e, H, .row (.slice (some ⟨b, 0, none⟩) nn cp) k (css.set i cs') :: M, L, D⟩) : Ef F P c ⟨none, .store t x y, ty, pos, after, g⟩ ⟨n, e, H, .row (.slice (some ⟨b, 0, none⟩) nn cp) k css :: M, L, D⟩ K := Ef_of_skip hF (by simp) fun a w hs => by
  subst hk hc ho
  have hrow : RowOk w (.slice (some ⟨b, 0, none⟩) nn cp) k css := hs.holds.own (.row _ k css) (by simp)
  rcases hrow with ⟨hh, _⟩ | ⟨b', cap, rest, T, hh, hkk, hcap, hb, hlen⟩
  · cases hh
  · cases hh
    have hil : i < css.length := (List.getElem?_eq_some_iff.1 hi).1
    have hfl := flatten_length hkk
    have hik : i * k + k ≤ css.length * k := by rw [← Nat.succ_mul]; exact Nat.mul_le_mul_right _ hil
    have hr := run_store_box (P := P) (t := t) (off := i * k + dd) (vs := vs) (v := .agg vs.toArray) hb (by rw [List.length_append, hfl]; omega) hv rfl
    rw [flat_put hkk hi hl] at hr
    refine ⟨_, ?_, _, ok_keep hs (M'' := .row (.slice (some ⟨b, 0, none⟩) css.length cp) k (css.set i (cput cs dd vs)) :: M) (hs.holds.row (I := []) (v' := .slice (some ⟨b, 0, none⟩) css.length cp) (.inr ⟨b, cp, rest, T, by simp, ?_, by simpa using hcap, setRow_heap w b _ _ T _ hb, ?_⟩) ((Moves.setRow w b _).mono (by simp [vblocks])) (fun b' hb' => .inr hb')), kk'⟩
    · simp [execOp, hs.env.eval hx, hs.env.eval hy, hr]
    · intro q hq
      rcases List.mem_or_eq_of_mem_set hq with h | h
      · exact hkk q h
      · subst h; rw [cput_length (by rw [hkk cs (List.mem_of_getElem? hi)]; exact hl)]; exact hkk cs (List.mem_of_getElem? hi)
    · rw [List.length_append] at hlen ⊢
      rw [flatten_length (k := k) (css := css.set i (cput cs dd vs)) (fun q hq => ?_), List.length_set, ← hfl, hlen]
      rcases List.mem_or_eq_of_mem_set hq with h | h
      · exact hkk q h
      · subst h; rw [cput_length (by rw [hkk cs (List.mem_of_getElem? hi)]; exact hl)]; exact hkk cs (List.mem_of_getElem? hi)
/-- one cell of an element -/
theorem Ef_storeR1 (hF : WideF F) {ag : Bool} {i dd nn cp : Nat} {css : List (List Value)} {cs cs' : List Value} [hT : TyC P t ag 1] (hx : e.eval x = some (.pointer (some ⟨b, off, none⟩))) (hy : e.eval y = some v) (hi : css[i]? = some cs) (ho : off = i * k + dd)
    (hv : v.oneCell' = true) (hl : Nat.blt dd k = true) (hc : tset cs dd v = cs') (hcs : Nat.blt dd cs.length = true)
    (kk' : K ⟨n, e, H, .row (.slice (some ⟨b, 0, none⟩) nn cp) k (css.set i cs') :: M, L, D⟩) : Ef F P c ⟨none, .store t x y, ty, pos, after, g⟩ ⟨n, e, H, .row (.slice (some ⟨b, 0, none⟩) nn cp) k css :: M, L, D⟩ K := Ef_of_skip hF (by simp) fun a w hs => by
  have hl' : dd < k := Nat.le_of_ble_eq_true hl
  have hcs' : dd < cs.length := Nat.le_of_ble_eq_true hcs
  have hvc : v.cells.toList = [v] := by cases v <;> first | rfl | (simp [Value.oneCell'] at hv)
  have he : cput cs dd [v] = cs' := by
    rw [← hc, tset_eq]
    simp only [cput, List.length_singleton]
    rw [List.set_eq_take_append_cons_drop]
    simp [hcs']
  subst he ho
  haveI : TyC P t ag [v].length := hT
  have hrow : RowOk w (.slice (some ⟨b, 0, none⟩) nn cp) k css := hs.holds.own (.row _ k css) (by simp)
  rcases hrow with ⟨hh, _⟩ | ⟨b', cap, rest, T, hh, hkk, hcap, hb, hlen⟩
  · cases hh
  · cases hh
    have hil : i < css.length := (List.getElem?_eq_some_iff.1 hi).1
    have hfl := flatten_length hkk
    have hik : i * k + k ≤ css.length * k := by rw [← Nat.succ_mul]; exact Nat.mul_le_mul_right _ hil
    have hr := run_store_box (P := P) (t := t) (off := i * k + dd) (vs := [v]) (v := v) hb (by rw [List.length_append, hfl]; simp; omega) (by simpa using hv) hvc
    rw [flat_put hkk hi (by simp; omega)] at hr
    refine ⟨_, ?_, _, ok_keep hs (M'' := .row (.slice (some ⟨b, 0, none⟩) css.length cp) k (css.set i (cput cs dd [v])) :: M) (hs.holds.row (I := []) (v' := .slice (some ⟨b, 0, none⟩) css.length cp) (.inr ⟨b, cp, rest, T, by simp, ?_, by simpa using hcap, setRow_heap w b _ _ T _ hb, ?_⟩) ((Moves.setRow w b _).mono (by simp [vblocks])) (fun b' hb' => .inr hb')), kk'⟩
    · simp [execOp, hs.env.eval hx, hs.env.eval hy, hr]
    · intro q hq
      rcases List.mem_or_eq_of_mem_set hq with h | h
      · exact hkk q h
      · subst h; rw [cput_length (by simp; omega)]; exact hkk cs (List.mem_of_getElem? hi)
    · rw [List.length_append] at hlen ⊢
      rw [flatten_length (k := k) (css := css.set i (cput cs dd [v])) (fun q hq => ?_), List.length_set, ← hfl, hlen]
      rcases List.mem_or_eq_of_mem_set hq with h | h
      · exact hkk q h
      · subst h; rw [cput_length (by simp; omega)]; exact hkk cs (List.mem_of_getElem? hi)

/-- a shorter slice of the same row -/
theorem RowOk.cut {w : World} {a : Option Addr} {nn cp k : Nat} {css : List (List Value)} (h : RowOk w (.slice a nn cp) k css) (j : Nat) (hj : j ≤ nn) : RowOk w (.slice a j cp) k (css.take j) := by
  rcases h with ⟨hh, rfl⟩ | ⟨b, cap, rest, T, hh, hkk, hcap, hb, hlen⟩
  · cases hh
    have : j = 0 := by omega
    subst this
    exact .inl ⟨rfl, rfl⟩
  · cases hh
    refine .inr ⟨b, cp, (css.drop j).flatten ++ rest, T, ?_, fun q hq => hkk q (List.mem_of_mem_take hq), ?_, ?_, ?_⟩
    · simp; omega
    · simp; omega
    · rw [← List.append_assoc, ← List.flatten_append, List.take_append_drop]; exact hb
    · rw [← List.append_assoc, ← List.flatten_append, List.take_append_drop]; exact hlen
theorem Holds.cut {R : Own} {w : World} {a : Option Addr} {nn cp k : Nat} {css : List (List Value)} (h : Holds c H (.row (.slice a nn cp) k css :: R) w) (j : Nat) (hj : j ≤ nn) : Holds c H (.row (.slice a j cp) k (css.take j) :: R) w := by
  have hr : RowOk w (.slice a nn cp) k css := h.own (.row (.slice a nn cp) k css) (by simp)
  refine h.row (I := []) (hr.cut j hj) (Moves.refl _ _) fun b hb => .inr ?_
  cases a with
  | none => exact hb
  | some ad => exact hb
theorem O_cut {a : Option Addr} {nn cp : Nat} {css : List (List Value)} (j : Nat) (hj : j ≤ nn) (h : opsA F P c ops l K ⟨n, e, H, .row (.slice a j cp) k (css.take j) :: M, L, D⟩) : opsA F P c ops l K ⟨n, e, H, .row (.slice a nn cp) k css :: M, L, D⟩ := fun ac w hs =>
  h ac w ⟨hs.defers, hs.size, hs.env, hs.holds.cut j hj⟩
theorem A_cutRow {a : Option Addr} {nn cp : Nat} {css : List (List Value)} (j : Nat) (hj : j ≤ nn) (h : wpA F P c code K X R ⟨n, e, H, .row (.slice a j cp) k (css.take j) :: M, L, D⟩) : wpA F P c code K X R ⟨n, e, H, .row (.slice a nn cp) k css :: M, L, D⟩ := fun ac w hs =>
  h ac w ⟨hs.defers, hs.size, hs.env, hs.holds.cut j hj⟩

theorem rep_get {l : List Value} : ∀ (m i : Nat), i < m * l.length → (List.replicate m l).flatten[i]? = l[i % l.length]?
  | 0, i, h => by omega
  | m + 1, i, h => by
    rw [List.replicate_succ, List.flatten_cons]
    by_cases hi : i < l.length
    · rw [List.getElem?_append_left hi, Nat.mod_eq_of_lt hi]
    · rw [List.getElem?_append_right (by omega), rep_get m (i - l.length) (by rw [Nat.succ_mul] at h; omega), ← Nat.mod_eq_sub_mod (by omega)]
theorem zeroCells_list (z : Array Value) (m : Nat) : (Builtin.zeroCells z m).toList = (List.replicate m z.toList).flatten := by
  have hl : (List.replicate m z.toList).flatten.length = m * z.size := by
    rw [flatten_length (k := z.size) (fun q hq => by rw [List.eq_of_mem_replicate hq]; simp)]; simp
  apply List.ext_getElem?
  intro i
  by_cases hi : i < m * z.size
  · have h0 : 0 < z.size := by
      rcases Nat.eq_zero_or_pos z.size with h | h
      · rw [h] at hi; omega
      · exact h
    have hm := Nat.mod_lt i h0
    rw [rep_get m i (by simpa using hi)]
    simp [Builtin.zeroCells, hi, hm]
  · rw [List.getElem?_eq_none (by rw [Array.length_toList, size_zeroCells]; omega), List.getElem?_eq_none (by rw [hl]; omega)]
/-- clear(s[j:]) -/
theorem Ef_clearR (hF : WideF F) {el j m cc nn cp : Nat} {ag : Bool} {zc : List Value} {A a : Option Addr} {css : List (List Value)} [ht : UndC P t (.slice el)] [hT : TyC P el ag k] [hz : ZeroL P el zc]
    (hx : e.eval x = some (.slice A m cc)) (hjm : j + m = css.length) (hA : m = 0 ∨ ∃ b, a = some ⟨b, 0, none⟩ ∧ A = some ⟨b, j * k, none⟩) (hzk : zc.length = k) (hz1 : ∀ u ∈ zc, u.oneCell' = true)
    (kk : K ⟨n, e, H, .row (.slice a nn cp) k (css.take j ++ List.replicate m zc) :: M, L, D⟩) :
    Ef F P c ⟨none, .call { callee := .builtin .clear, args := #[x], argTypes := #[t] }, ty, pos, after, g⟩ ⟨n, e, H, .row (.slice a nn cp) k css :: M, L, D⟩ K := by
  intro ac w hs
  have key : ∃ w', (execOp ac.eval ⟨none, .call { callee := .builtin .clear, args := #[x], argTypes := #[t] }, ty, pos, after, g⟩).run P w = .ok (.value (.tuple #[])) w' ∧ Sta.ok c ⟨n, e, H, .row (.slice a nn cp) k (css.take j ++ List.replicate m zc) :: M, L, D⟩ ac w' := by
    have hexec : ∀ {u : Value} {w' : World}, (Builtin.clear_ #[t] ty #[.slice A m cc]).run P w = .ok u w' → (execOp ac.eval ⟨none, .call { callee := .builtin .clear, args := #[x], argTypes := #[t] }, ty, pos, after, g⟩).run P w = .ok (.value u) w' := fun h => by
      simp [execOp, resolve, invoke, builtin, hs.env.eval hx, Sem.run_bind, h]
    rcases Nat.eq_zero_or_pos m with h0 | h0
    · subst h0
      refine ⟨w, hexec ?_, ?_⟩
      · cases A <;> simp [Builtin.clear_, ht.run]
      · have : css.take j = css := List.take_of_length_le (by omega)
        rw [this]
        simpa using hs
    · rcases hA with hA | ⟨b, rfl, rfl⟩
      · omega
      · have hrow : RowOk w (.slice (some ⟨b, 0, none⟩) nn cp) k css := hs.holds.own (.row _ k css) (by simp)
        rcases hrow with ⟨hh, _⟩ | ⟨b', cap, rest, T, hh, hkk, hcap, hb, hlen⟩
        · cases hh
        · cases hh
          obtain ⟨zv, hzr, hzc⟩ := hz.zero
          have hfl := flatten_length hkk
          have hzl : (List.replicate m zc).flatten.length = m * k := by rw [flatten_length (k := k) (fun q hq => by rw [List.eq_of_mem_replicate hq]; exact hzk)]; simp
          have hmk : j * k + m * k = css.length * k := by rw [← Nat.add_mul, hjm]
          have hst := run_storeCells_at P b (j * k) T (List.replicate m zc).flatten 0 (css.flatten ++ rest).toArray w hb (by
            simp only [Nat.add_zero, List.size_toArray, List.length_append, hfl, hzl]; omega) (fun u hu => by
              obtain ⟨q, hq, huq⟩ := List.mem_flatten.1 hu
              rw [List.eq_of_mem_replicate hq] at huq
              exact hz1 u huq)
          have htk : ((css.flatten ++ rest).toArray.toList.take (j * k + 0) ++ (List.replicate m zc).flatten ++ (css.flatten ++ rest).toArray.toList.drop (j * k + 0 + (List.replicate m zc).flatten.length)) = (css.take j ++ List.replicate m zc).flatten ++ rest := by
            simp only [Nat.add_zero, hzl, hmk, ← hfl, List.drop_left, List.flatten_append]
            congr 2
            have h1 : css.flatten = (css.take j).flatten ++ (css.drop j).flatten := by rw [← List.flatten_append, List.take_append_drop]
            have h2 : (css.take j).flatten.length = j * k := by rw [flatten_length (k := k) (fun q hq => hkk q (List.mem_of_mem_take hq)), List.length_take, Nat.min_eq_left (by omega)]
            rw [h1, ← h2, List.append_assoc, List.take_left]
          rw [htk] at hst
          have hlen2 : (css.take j ++ List.replicate m zc).length = css.length := by simp; omega
          refine ⟨_, hexec ?_, ok_keep hs (M'' := .row (.slice (some ⟨b, 0, none⟩) css.length cp) k (css.take j ++ List.replicate m zc) :: M) (hs.holds.row (I := []) (v' := .slice (some ⟨b, 0, none⟩) css.length cp) (.inr ⟨b, cp, rest, T, by rw [hlen2], ?_, by rw [hlen2]; exact hcap, setRow_heap w b _ _ T _ hb, ?_⟩) ((Moves.setRow w b _).mono (by simp [vblocks])) (fun b' hb' => .inr hb'))⟩
          · have hm : m ≠ 0 := by omega
            obtain ⟨m', rfl⟩ : ∃ m', m = m' + 1 := ⟨m - 1, by omega⟩
            simp [Builtin.clear_, ht.run, hzr, zeroCells_list, hzc, hst]
          · intro q hq
            rcases List.mem_append.1 hq with h | h
            · exact hkk q (List.mem_of_mem_take h)
            · rw [List.eq_of_mem_replicate h]; exact hzk
          · rw [List.length_append, flatten_length (k := k) (fun q hq => ?_), hlen2, ← hfl, ← List.length_append, hlen]
            rcases List.mem_append.1 hq with h | h
            · exact hkk q (List.mem_of_mem_take h)
            · rw [List.eq_of_mem_replicate h]; exact hzk
  obtain ⟨w', hr, hok⟩ := key
  refine ⟨fun f _ => hF.fn f, ?_⟩
  rw [Oper.semAt_eq _ _ _ (by simp), hr]
  exact ⟨_, hok, kk⟩
/-- the place of an owned row's element -/
theorem run_indexAddr {el nn cp s : Nat} {ag : Bool} {i : Int} {kk : IntKind} [ht : UndC P t (.slice el)] [hs : TyC P el ag s] {a : Act} {w : World} (he : EnvOk e a) (hx : e.eval x = some (.slice (some ⟨b, 0, none⟩) nn cp)) (hy : e.eval y = some (.int kk i)) (h0 : 0 ≤ i) (h1 : i < nn) :
    (execOp a.eval ⟨dst, .indexAddr t x y, ty, pos, after, g⟩).run P w = .ok (.value (.pointer (some ⟨b, i.toNat * s, none⟩))) w := by
  have hc : (0 : Int) ≤ i ∧ i < (nn : Int) := ⟨h0, h1⟩
  simp [execOp, he.eval hx, he.eval hy, Instr.indexAt, asIntOf, ht.run, hs.sizeOf, hc, Addr.add_lit]
theorem Ef_idxRow (hF : WideF F) {el nn cp s q : Nat} {ag : Bool} {i : Int} {kk : IntKind} {a : Option Addr} {css : List (List Value)} [ht : UndC P t (.slice el)] [hs : TyC P el ag s] (hx : e.eval x = some (.slice a nn cp)) (hR : oget M q = some (.row (.slice a nn cp) k css)) (hy : e.eval y = some (.int kk i)) (h0 : 0 ≤ i) (h1 : i < nn) (hn : Nat.blt d n = true)
    (kq : ∀ b, a = some ⟨b, 0, none⟩ → K ⟨n, (d, .pointer (some ⟨b, i.toNat * s, none⟩)) :: e, H, M, L, D⟩) : Ef F P c ⟨some d, .indexAddr t x y, ty, pos, after, g⟩ ⟨n, e, H, M, L, D⟩ K := Ef_of_run hF fun ac w hs' => by
  have hr : RowOk w (.slice a nn cp) k css := hs'.holds.own _ (List.mem_append_left _ (oget_mem hR))
  obtain ⟨h1', h2, h3, h4, h5⟩ := hr.addr
  cases a with
  | none => exact absurd (h3 rfl).1 (by intro hh; rw [hh] at h1'; simp at h1'; omega)
  | some ad =>
    obtain ⟨b, rfl⟩ := h5 ad rfl
    exact ⟨_, w, run_indexAddr hs'.env hx hy h0 h1, _, ok_put hs' hn hs'.holds, kq b rfl⟩
theorem D_idxRow {el nn cp s q : Nat} {ag : Bool} {i : Int} {kk : IntKind} {a : Option Addr} {css : List (List Value)} {ops : List Oper} [ht : UndC P t (.slice el)] [hs : TyC P el ag s] (hx : e.eval x = some (.slice a nn cp)) (hR : oget M q = some (.row (.slice a nn cp) k css)) (hy : e.eval y = some (.int kk i)) (h0 : 0 ≤ i) (h1 : i < nn) (hw : want ops ⟨some d, .indexAddr t x y, ty, pos, after, g⟩ e = some true) (hn : Nat.blt d n = true)
    (kq : ∀ b, a = some ⟨b, 0, none⟩ → K ⟨n, (d, .pointer (some ⟨b, i.toNat * s, none⟩)) :: e, H, M, L, D⟩) : drQ P c ops ⟨some d, .indexAddr t x y, ty, pos, after, g⟩ ⟨n, e, H, M, L, D⟩ K := fun ac w hs' => by
  have hr : RowOk w (.slice a nn cp) k css := hs'.holds.own _ (List.mem_append_left _ (oget_mem hR))
  obtain ⟨h1', h2, h3, h4, h5⟩ := hr.addr
  cases a with
  | none => exact absurd (h3 rfl).1 (by intro hh; rw [hh] at h1'; simp at h1'; omega)
  | some ad =>
    obtain ⟨b, rfl⟩ := h5 ad rfl
    exact D_ev (c := c) (K := K) (P := P) hw (fun a' w' he _ _ => run_indexAddr he hx hy h0 h1) rfl hn (kq b rfl) ac w hs'

/-- some of the owned blocks are brought forward -/
def Own.rest (R : Own) (l : List Nat) : List Nat := (List.range R.length).filter fun i => !l.contains i
theorem Own.front (M : Own) (l : List Nat) (h1 : l.Nodup) (h2 : (l.all fun i => Nat.blt i M.length) = true) : M.Perm (M.picks l ++ M.picks (Own.rest M l)) := by
  have h3 : M = M.picks (List.range M.length) := by
    rw [Own.picks_eq]
    apply List.ext_getElem?
    intro i
    by_cases hi : i < M.length
    · simp [hi]
    · simp [hi, List.getElem?_eq_none (Nat.le_of_not_lt hi)]
  have h4 : (List.range M.length).Perm (l ++ Own.rest M l) := by
    rw [List.perm_ext_iff_of_nodup List.nodup_range]
    · intro a
      simp only [List.mem_range, List.mem_append, Own.rest, List.mem_filter, Bool.not_eq_true']
      constructor
      · intro ha
        by_cases hl : a ∈ l
        · exact .inl hl
        · exact .inr ⟨ha, by simpa using hl⟩
      · rintro (ha | ⟨ha, _⟩)
        · exact Nat.le_of_ble_eq_true (List.all_eq_true.1 h2 a ha)
        · exact ha
    · rw [List.nodup_append]
      refine ⟨h1, List.Pairwise.filter _ List.nodup_range, fun a ha b hb => ?_⟩
      simp only [Own.rest, List.mem_filter, Bool.not_eq_true'] at hb
      rintro rfl
      have := hb.2
      simp [ha] at this
  have h5 : (M.picks (List.range M.length)).Perm (M.picks (l ++ Own.rest M l)) := by
    rw [Own.picks_eq, Own.picks_eq]; exact h4.map _
  have h6 : M.picks (l ++ Own.rest M l) = M.picks l ++ M.picks (Own.rest M l) := by rw [Own.picks_eq, Own.picks_eq, Own.picks_eq, List.map_append]
  rw [← h6]
  exact (h3 ▸ List.Perm.refl M : M.Perm (M.picks (List.range M.length))).trans h5
theorem Ef_pick (ix : List Nat) {M2 : Own} (h1 : ix.Nodup) (h2 : (ix.all fun i => Nat.blt i M.length) = true) (hM : M.picks ix ++ M.picks (Own.rest M ix) = M2) (h : Ef F P c o ⟨n, e, H, M2, L, D⟩ K) : Ef F P c o ⟨n, e, H, M, L, D⟩ K :=
  Ef_perm (s := ⟨n, e, H, M, L, D⟩) (hM ▸ Own.front M ix h1 h2) h
theorem Ef_f4 {r0 r1 r2 r3 r4 : Res} (k : Ef F P c o ⟨n, e, H, r4 :: r0 :: r1 :: r2 :: r3 :: M, L, D⟩ K) : Ef F P c o ⟨n, e, H, r0 :: r1 :: r2 :: r3 :: r4 :: M, L, D⟩ K := fun a w hs => k a w ⟨hs.defers, hs.size, hs.env, own_perm ((perm_mid [r0, r1, r2, r3] r4 M).append_right L) hs.holds⟩
theorem Ef_f5 {r0 r1 r2 r3 r4 r5 : Res} (k : Ef F P c o ⟨n, e, H, r5 :: r0 :: r1 :: r2 :: r3 :: r4 :: M, L, D⟩ K) : Ef F P c o ⟨n, e, H, r0 :: r1 :: r2 :: r3 :: r4 :: r5 :: M, L, D⟩ K := fun a w hs => k a w ⟨hs.defers, hs.size, hs.env, own_perm ((perm_mid [r0, r1, r2, r3, r4] r5 M).append_right L) hs.holds⟩
theorem Ef_f6 {r0 r1 r2 r3 r4 r5 r6 : Res} (k : Ef F P c o ⟨n, e, H, r6 :: r0 :: r1 :: r2 :: r3 :: r4 :: r5 :: M, L, D⟩ K) : Ef F P c o ⟨n, e, H, r0 :: r1 :: r2 :: r3 :: r4 :: r5 :: r6 :: M, L, D⟩ K := fun a w hs => k a w ⟨hs.defers, hs.size, hs.env, own_perm ((perm_mid [r0, r1, r2, r3, r4, r5] r6 M).append_right L) hs.holds⟩
/-- the second but one goes behind the next: r1 r2 r0 to .. -/
theorem Ef_sw {r0 r1 : Res} (k : Ef F P c o ⟨n, e, H, r1 :: r0 :: M, L, D⟩ K) : Ef F P c o ⟨n, e, H, r0 :: r1 :: M, L, D⟩ K := Ef_f1 k
theorem RendN_to {l : Nat} {r : Loop} {post : Value → Hp → Own → Prop} {s s' : Sta} (hl : Sta.le s' s) (hL : s'.L = [.obj l (.loop (rbusy r))]) (h : post (.bool true) s'.H (.obj l (.loop r) :: s'.M)) : RendN c l r post s := Shift.to ⟨hL, h⟩ hl
theorem RendJ_to {l : Nat} {r : Loop} {post : Value → Hp → Own → Prop} {s s' : Sta} {j : Code} (hl : Sta.le s' s) (hL : s'.L = [.obj l (.loop (rbusy r))]) (h : post (.bool false) s'.H (.obj l (.loop (rdone r j)) :: s'.M)) : RendJ c l r post j s := Shift.to ⟨hL, h⟩ hl
theorem snoc_at {α : Type} (l : List α) (a : α) : (l ++ [a])[l.length]? = some a := by simp
theorem snoc_set {α : Type} (l : List α) (a b : α) : (l ++ [a]).set l.length b = l ++ [b] := by simp
end
end Go.Proofs.Ythniohgeojenaaa
