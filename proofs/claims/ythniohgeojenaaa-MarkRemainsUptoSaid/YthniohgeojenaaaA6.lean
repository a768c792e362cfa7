/-
  Owned rows: literals of slices, append, stores into an element; owned blocks brought forward, or turned into persistent facts.
-/
import Derived.Test.YthniohgeojenaaaA5
import Derived.Great.BuildSlice
namespace Go.Proofs.Ythniohgeojenaaa
open Go
set_option linter.unusedVariables false
set_option linter.unusedSimpArgs false

@[reducible] def ZeroL.ofAgg {P : Program} {t : TypeId} {cs : List Value} (h : ∀ w, (zeroValue t).run P w = .ok (.agg cs.toArray) w) : ZeroL P t cs := ⟨⟨_, h, by simp [Value.cells]⟩⟩
@[reducible] def ZeroL.ofOne {P : Program} {t : TypeId} {v : Value} (h : ∀ w, (zeroValue t).run P w = .ok v w) (hv : v.cells.toList = [v] := by rfl) : ZeroL P t [v] := ⟨⟨_, h, hv⟩⟩
class InfoC (P : Program) (t : TypeId) (bytes : outParam Nat) : Type where
  info : ∃ i, P.types[t]? = some i ∧ i.bytes = bytes

theorem typeInfo_of_run {P : Program} {t : TypeId} {i : TypeInfo} (h : P.types[t]? = some i) : P.info? t = some i := by
  have hlt : t < P.types.size := (Array.getElem?_eq_some_iff.1 h).1
  unfold Tables.info?
  simp [hlt]
  exact (Array.getElem?_eq_some_iff.1 h).2

theorem info_of {P : Program} {t : TypeId} {ag : Bool} {k bytes : Nat} {zc : List Value} [hT : TyC P t ag k] [hI : InfoC P t bytes] [hz : ZeroL P t zc] :
    ∃ i z, P.info? t = some i ∧ i.size = k ∧ i.bytes = bytes ∧ i.zero = some z ∧ z.cells.toList = zc := by
  obtain ⟨i, hi, hb⟩ := hI.info
  have hi' := typeInfo_of_run hi
  obtain ⟨zv, hzr, hzc⟩ := hz.zero
  have h1 := hT.sizeOf default
  have h2 := hzr default
  simp only [sizeOf, zeroValue, typeInfo, Sem.run_bind, run_program, Result.andThen_ok, hi', Sem.run_pure] at h1 h2
  refine ⟨i, zv, hi', by simpa using h1, hb, ?_, hzc⟩
  cases hzz : i.zero with
  | none => rw [hzz] at h2; simp at h2
  | some z => rw [hzz] at h2; simp at h2; rw [h2]

def vblocks : Value → List Nat
  | .slice (some a) _ _ => [a.block]
  | _ => []
theorem Res.blocks_row (v : Value) (k : Nat) (css : List (List Value)) : (Res.row v k css).blocks = vblocks v := by
  cases v with
  | slice a n c => cases a <;> rfl
  | _ => rfl

theorem flatten_length {k : Nat} : ∀ {css : List (List Value)}, (∀ cs ∈ css, cs.length = k) → css.flatten.length = css.length * k
  | [], _ => by simp
  | d :: r, h => by
    have h1 := h d (by simp)
    have ih := flatten_length (css := r) (fun x hx => h x (List.mem_cons_of_mem _ hx))
    simp only [List.flatten_cons, List.length_append, ih, h1, List.length_cons, Nat.succ_mul]
    omega

theorem RowOk.shape {w : World} {v : Value} {k : Nat} {css : List (List Value)} (h : RowOk w v k css) : ∃ a c, v = .slice a css.length c := by
  rcases h with ⟨rfl, rfl⟩ | ⟨b, cap, rest, T, rfl, _⟩
  · exact ⟨none, 0, rfl⟩
  · exact ⟨_, cap, rfl⟩
theorem RowOk.addr {w : World} {a : Option Addr} {n c k : Nat} {css : List (List Value)} (h : RowOk w (.slice a n c) k css) : n = css.length ∧ css.length ≤ c ∧ (a = none → css = [] ∧ c = 0) ∧ (∀ cs ∈ css, cs.length = k) ∧ ∀ ad, a = some ad → ∃ b, ad = ⟨b, 0, none⟩ := by
  rcases h with ⟨h, rfl⟩ | ⟨b, cap, rest, T, h, h1, h2, _⟩
  · cases h; exact ⟨rfl, Nat.le_refl _, fun _ => ⟨rfl, rfl⟩, by simp, fun ad h => by cases h⟩
  · cases h; exact ⟨rfl, h2, (fun h => (by cases h)), h1, fun ad had => ⟨b, by cases had; rfl⟩⟩

/-- append to an owned row -/
theorem run_append_row {P : Program} {w : World} {t e ty : TypeId} {k bytes : Nat} {ag : Bool} {zc : List Value} (ht : UndC P t (.slice e)) (hT : TyC P e ag k) (hI : InfoC P e bytes) (hz : ZeroL P e zc) (hzk : zc.length = k) (hk : 0 < k)
    {v : Value} {css news : List (List Value)} (hrow : RowOk w v k css) {A : Option Addr} {m c : Nat} (hm : news.length = m) (hnk : ∀ cs ∈ news, cs.length = k) (hA : A = none → m = 0)
    (hcells : ∀ a, A = some a → ∀ j u, news.flatten[j]? = some u → w.cell? (a.add j) = some u) (h1 : ∀ u ∈ news.flatten, u.oneCell' = true) (hbytes : (css.length + m) * bytes ≤ 140737488355328) (hlen : css.length + m ≤ 9223372036854775807) :
    ∃ v' w', (Builtin.append_ #[t, t] ty #[v, .slice A m c]).run P w = .ok v' w' ∧ RowOk w' v' k (css ++ news) ∧ Moves w w' (vblocks v) ∧ (∀ b ∈ vblocks v', w.heap.size ≤ b ∨ b ∈ vblocks v) := by
  obtain ⟨i, z, hi, hsz, hby, hzz, hzc⟩ := info_of (P := P) (t := e) (hT := hT) (hI := hI) (hz := hz)
  have hzs : z.cells.size = k := by rw [← hzk, ← hzc]; simp
  have hnl : news.flatten.length = m * i.size := by rw [flatten_length hnk, hm, hsz]
  subst hby
  by_cases hm0 : m = 0
  · have hn0 : news = [] := List.eq_nil_of_length_eq_zero (by omega)
    subst hn0
    subst hm0
    have h0 : ∀ w', (Builtin.firstCells k 0 (.slice A 0 c)).run P w' = .ok #[] w' := fun w' => by
      cases A <;> simp [Builtin.firstCells, loadCells, loadCellsFrom]
    rcases hrow with ⟨rfl, rfl⟩ | ⟨b, cap, rest, T, rfl, hkk, hc, hb, hl⟩
    · refine ⟨.slice none 0 0, w, ?_, .inl ⟨rfl, rfl⟩, Moves.refl _ _, by simp [vblocks]⟩
      simp [Builtin.append_, ht.run, sizeOf, typeInfo, hi, hsz, Builtin.lenOf, h0]
    · refine ⟨.slice (some ⟨b, 0, none⟩) css.length cap, w, ?_, .inr ⟨b, cap, rest, T, by simp, by simpa using hkk, by simpa using hc, by simpa using hb, by simpa using hl⟩, Moves.refl _ _, fun b' hb' => .inr (by simpa [vblocks] using hb')⟩
      have hcc : css.length + 0 ≤ cap := by omega
      simp [Builtin.append_, ht.run, sizeOf, typeInfo, hi, hsz, Builtin.lenOf, h0, hc, storeCells]
  · obtain ⟨a, rfl⟩ : ∃ a, A = some a := by cases A with
      | none => exact absurd (hA rfl) hm0
      | some a => exact ⟨a, rfl⟩
    have hcells' := hcells a rfl
    have hzero : ∀ q, (Builtin.zeroCells z.cells q).toList.length = q * k := fun q => by rw [Array.length_toList, size_zeroCells, hzs]
    rcases hrow with ⟨rfl, rfl⟩ | ⟨b, cap, rest, T, rfl, hkk, hc, hb, hl⟩
    · have hb0 := hbytes
      simp only [List.length_nil, Nat.zero_add] at hb0 hlen
      have hr := run_append_nil (P := P) w t ty e i z ht.und hi hzz a m c news.flatten hnl hcells' (by omega) (by omega) (by omega)
      have hge := grownCap_ge w m 0 e
      refine ⟨_, _, hr, .inr ⟨w.heap.size, grownCap w m 0 e, (Builtin.zeroCells z.cells (grownCap w m 0 e - m)).toList, e, by simp [hm], by simpa using hnk, by simpa [hm] using hge, ?_, ?_⟩, ?_, fun b hb => .inl (by simp [vblocks] at hb; omega)⟩
      · have := heap_alloc_new w.drew (.cells (news.flatten.toArray ++ Builtin.zeroCells z.cells (grownCap w m 0 e - m)) e)
        have ea : news.flatten.toArray ++ Builtin.zeroCells z.cells (grownCap w m 0 e - m) = (news.flatten ++ (Builtin.zeroCells z.cells (grownCap w m 0 e - m)).toList).toArray := by apply Array.ext'; simp
        rw [ea] at this ⊢
        simpa using this
      · rw [List.length_append, hzero]
        simp only [List.nil_append, hnl, hsz, ← Nat.add_mul]
        congr 1
        omega
      · exact (Moves.drew w _).trans (Moves.alloc w.drew _ _)
    · have hcl : css.flatten.length = css.length * i.size := by rw [flatten_length hkk, hsz]
      by_cases hroom : css.length + m ≤ cap
      · have hst := run_storeCells_at P b (css.length * k) T news.flatten 0 (css.flatten ++ rest).toArray w hb (by
          simp only [Nat.add_zero, List.size_toArray, hl, hnl, hsz, ← Nat.add_mul]
          exact Nat.mul_le_mul_right _ hroom) h1
        have hf := run_firstCells_some (P := P) w k m a m c news.flatten (by rw [hnl, hsz]) hcells'
        have htk : ((css.flatten ++ rest).toArray.toList.take (css.length * k + 0) ++ news.flatten ++ (css.flatten ++ rest).toArray.toList.drop (css.length * k + 0 + news.flatten.length)) =
            (css ++ news).flatten ++ rest.drop news.flatten.length := by
          have e1 : css.length * k = css.flatten.length := by rw [hcl, hsz]
          simp only [Nat.add_zero, e1, List.take_left, List.flatten_append]
          rw [← List.drop_drop, List.drop_left]
        rw [htk] at hst
        refine ⟨.slice (some ⟨b, 0, none⟩) (css.length + m) cap, _, ?_, .inr ⟨b, cap, rest.drop news.flatten.length, T, by simp [hm], ?_, by simpa [hm] using hroom, setRow_heap w b _ _ T _ hb, ?_⟩, (Moves.setRow w b _).mono (by simp [vblocks]), fun b' hb' => .inr (by simpa [vblocks] using hb')⟩
        · simp [Builtin.append_, ht.run, sizeOf, typeInfo, hi, hsz, Builtin.lenOf, hroom, hf, Addr.add_lit, hst]
        · intro cs hcs
          rcases List.mem_append.1 hcs with h | h
          · exact hkk cs h
          · exact hnk cs h
        · have hrl : rest.length = cap * k - css.length * k := by simp only [List.length_append, hcl, hsz] at hl; omega
          have h3 : (css.length + m) * k ≤ cap * k := Nat.mul_le_mul_right _ hroom
          rw [Nat.add_mul] at h3
          simp only [List.flatten_append, List.length_append, hcl, hnl, hsz, List.length_drop, hrl]
          omega
      · have hrow' : RowOk w (.slice (some ⟨b, 0, none⟩) css.length cap) k css := .inr ⟨b, cap, rest, T, rfl, hkk, hc, hb, hl⟩
        have holds : ∀ j u, css.flatten[j]? = some u → w.cell? ((⟨b, 0, none⟩ : Addr).add j) = some u := fun j u hj => by
          rw [Addr.add_lit]
          refine cell_of_heap hb ?_
          have hjl := (List.getElem?_eq_some_iff.1 hj).1
          simp only [Nat.zero_add, List.getElem?_toArray]
          rw [List.getElem?_append_left hjl]
          exact hj
        have hr := run_append_grow (P := P) w t ty e i z ht.und hi hzz ⟨b, 0, none⟩ css.length cap css.flatten hcl holds a m c news.flatten hnl hcells' (by omega) (by omega) (growslice_fits (by omega) hbytes)
        have hge := grownCap_ge w (css.length + m) cap e
        refine ⟨_, _, hr, .inr ⟨w.heap.size, grownCap w (css.length + m) cap e, (Builtin.zeroCells z.cells (grownCap w (css.length + m) cap e - (css.length + m))).toList, e, by simp [hm], ?_, by simpa [hm] using hge, ?_, ?_⟩, ?_, fun b' hb' => .inl (by simp [vblocks] at hb'; omega)⟩
        · intro cs hcs
          rcases List.mem_append.1 hcs with h | h
          · exact hkk cs h
          · exact hnk cs h
        · have := heap_alloc_new w.drew (.cells (css.flatten.toArray ++ news.flatten.toArray ++ Builtin.zeroCells z.cells (grownCap w (css.length + m) cap e - (css.length + m))) e)
          have ea : css.flatten.toArray ++ news.flatten.toArray ++ Builtin.zeroCells z.cells (grownCap w (css.length + m) cap e - (css.length + m)) = ((css ++ news).flatten ++ (Builtin.zeroCells z.cells (grownCap w (css.length + m) cap e - (css.length + m))).toList).toArray := by apply Array.ext'; simp
          rw [ea] at this ⊢
          exact this
        · rw [List.length_append, hzero]
          simp only [List.flatten_append, List.length_append, hcl, hnl, hsz, ← Nat.add_mul]
          congr 1
          omega
        · exact (Moves.drew w _).trans (Moves.alloc w.drew _ _)

section
variable {F : Fence} {P : Program} {c : Ctx} {o : Oper} {K : SP} {n : Nat} {e : Env} {H : Hp} {M M' L : Own} {D : List Deferred} {dst : Option Tmp} {d : Nat} {ty : TypeId} {pos : String} {after : Array Edge} {g : Option (Nat × Bool)} {x y z : Operand} {v : Value} {t t2 : TypeId} {k b off : Nat}

theorem execOp_append {a : Act} {v u : Value} (he : EnvOk e a) (hx : e.eval x = some v) (hy : e.eval y = some u) (w : World) :
    (execOp a.eval ⟨dst, .call { callee := .builtin .append, args := #[x, y], argTypes := #[t, t] }, ty, pos, after, g⟩).run P w = ((Builtin.append_ #[t, t] ty #[v, u]).run P w).andThen fun r w' => .ok (.value r) w' := by
  simp [execOp, resolve, invoke, builtin, he.eval hx, he.eval hy, Sem.run_bind]

theorem Holds.row {c : Ctx} {H : Hp} {I R : Own} {w w' : World} {v v' : Value} {k : Nat} {css css' : List (List Value)} (h : Holds c H (.row v k css :: R) w) (hr : RowOk w' v' k css') (hm : Moves w w' (vblocks v)) (hb : ∀ b ∈ vblocks v', w.heap.size ≤ b ∨ b ∈ vblocks v) :
    Holds c H (.row v' k css' :: R) w' := by
  refine Holds.frameH (I := [.row v k css]) (I' := [.row v' k css']) (R := R) h ?_ (Own.ok_one hr) (Own.sep_one _) (fun b' hb' => ?_)
  · rw [Own.blocks_one, Res.blocks_row]; exact hm
  · rw [Own.blocks_one, Res.blocks_row] at hb' ⊢; exact hb b' hb'

theorem Holds.sublist {R R' : Own} {w : World} (h : Holds c H R w) (hs : R'.Sublist R) : Holds c H R' w := by
  have hin : ∀ b ∈ Own.blocks R', b ∈ Own.blocks R := fun b hm => by
    obtain ⟨r, hr, hb⟩ := Own.mem_blocks.1 hm
    exact Own.mem_blocks.2 ⟨r, hs.subset hr, hb⟩
  exact ⟨h.mem, fun r hr => h.own r (hs.subset hr), List.Pairwise.sublist hs h.sep, fun b hm => h.apart b (hin b hm), fun b hm => h.fresh b (hin b hm), h.old, h.hle, h.hnew, h.thaw⟩

/-- append to the owned row that stands first: what is appended is another owned row, the second; it is given up -/
theorem Ef_appendR (hF : WideF F) {el bytes m cp : Nat} {ag : Bool} {zc : List Value} {css news : List (List Value)} {A : Option Addr} [ht : UndC P t (.slice el)] [hT : TyC P el ag k] [hI : InfoC P el bytes] [hz : ZeroL P el zc]
    (hx : e.eval x = some v) (hy : e.eval y = some (.slice A m cp)) (hzk : Nat.beq zc.length k = true) (hk : Nat.blt 0 k = true) (h1 : news.all (fun cs => cs.all (·.oneCell')) = true) (hbytes : (css.length + news.length) * bytes ≤ 140737488355328) (hlen : css.length + news.length ≤ 9223372036854775807) (hn : Nat.blt d n = true)
    (kk : ∀ a cp, K ⟨n, (d, .slice a (css ++ news).length cp) :: e, H, .row (.slice a (css ++ news).length cp) k (css ++ news) :: M, L, D⟩) :
    Ef F P c ⟨some d, .call { callee := .builtin .append, args := #[x, y], argTypes := #[t, t] }, ty, pos, after, g⟩ ⟨n, e, H, .row v k css :: .row (.slice A m cp) k news :: M, L, D⟩ K := Ef_of_run hF fun a w hs => by
  have hrow : RowOk w v k css := hs.holds.own (.row v k css) (by simp)
  have hsrc : RowOk w (.slice A m cp) k news := hs.holds.own (.row (.slice A m cp) k news) (by simp)
  have hall : ∀ u ∈ news.flatten, u.oneCell' = true := fun u hu => by
    obtain ⟨cs, hcs, huc⟩ := List.mem_flatten.1 hu
    have := List.all_eq_true.1 (List.all_eq_true.1 h1 cs hcs) u huc
    exact this
  have hm : news.length = m ∧ (∀ cs ∈ news, cs.length = k) ∧ (A = none → m = 0) ∧ (∀ ad, A = some ad → ∀ j u, news.flatten[j]? = some u → w.cell? (ad.add j) = some u) := by
    rcases hsrc with ⟨h, hnn⟩ | ⟨b, cap, rest, T, h, hkk, hc, hb, hl⟩
    · cases h; subst hnn; exact ⟨rfl, by simp, fun _ => rfl, fun ad h => by cases h⟩
    · cases h
      refine ⟨rfl, hkk, (fun h => (by cases h)), fun ad had j u hj => ?_⟩
      cases had
      rw [Addr.add_lit]
      refine cell_of_heap hb ?_
      have hjl := (List.getElem?_eq_some_iff.1 hj).1
      simp only [Nat.zero_add, List.getElem?_toArray]
      rw [List.getElem?_append_left hjl]
      exact hj
  obtain ⟨hm1, hm2, hm3, hm4⟩ := hm
  subst hm1
  obtain ⟨v', w', hr, hok, hmv, hbl⟩ := run_append_row (P := P) (ty := ty) ht hT hI hz (Nat.eq_of_beq_eq_true hzk) (Nat.le_of_ble_eq_true hk) hrow (c := cp) rfl hm2 hm3 hm4 hall hbytes hlen
  have hh := hs.holds.row (I := []) hok hmv hbl
  obtain ⟨a', cp', rfl⟩ := RowOk.shape hok
  refine ⟨_, w', ?_, _, ok_put hs hn (M'' := .row _ k (css ++ news) :: M) (hh.sublist (by simp)), kk a' cp'⟩
  rw [execOp_append hs.env hx hy, hr]; rfl

/-- append to the owned row that stands first: what is appended is persistent -/
theorem Ef_appendH (hF : WideF F) {el bytes m cp : Nat} {ag : Bool} {zc : List Value} {css news : List (List Value)} {A : Option Addr} [ht : UndC P t (.slice el)] [hT : TyC P el ag k] [hI : InfoC P el bytes] [hz : ZeroL P el zc]
    (hx : e.eval x = some v) (hy : e.eval y = some (.slice A m cp)) (hH : HRow H A m cp k news) (hzk : Nat.beq zc.length k = true) (hk : Nat.blt 0 k = true) (hbytes : (css.length + m) * bytes ≤ 140737488355328) (hlen : css.length + m ≤ 9223372036854775807) (hn : Nat.blt d n = true)
    (kk : ∀ a cp, K ⟨n, (d, .slice a (css ++ news).length cp) :: e, H, .row (.slice a (css ++ news).length cp) k (css ++ news) :: M, L, D⟩) :
    Ef F P c ⟨some d, .call { callee := .builtin .append, args := #[x, y], argTypes := #[t, t] }, ty, pos, after, g⟩ ⟨n, e, H, .row v k css :: M, L, D⟩ K := Ef_of_run hF fun a w hs => by
  have hrow : RowOk w v k css := hs.holds.own (.row v k css) (by simp)
  have hmem := hs.holds.mem
  have hget : ∀ (j : Nat) u, news.flatten[j]? = some u → ∃ b o, A = some ⟨b, o, none⟩ ∧ H b (o + j) = some u := by
    have key : ∀ (l : List (List Value)) (i0 : Nat), (∀ i cs, l[i]? = some cs → cs.length = k ∧ ∃ b o, A = some ⟨b, o, none⟩ ∧ HCells H b (o + (i0 + i) * k) cs) → ∀ (j : Nat) u, l.flatten[j]? = some u → ∃ b o, A = some ⟨b, o, none⟩ ∧ H b (o + (i0 * k + j)) = some u := by
      intro l
      induction l with
      | nil => intro i0 _ j u h; simp at h
      | cons cs r ih =>
        intro i0 hl j u h
        obtain ⟨hck, b, o, hA, hc⟩ := hl 0 cs (by simp)
        by_cases hj : j < cs.length
        · simp only [List.flatten_cons] at h
          rw [List.getElem?_append_left hj] at h
          have := hc j u h
          exact ⟨b, o, hA, by rw [Nat.add_assoc, Nat.add_zero] at this; exact this⟩
        · simp only [List.flatten_cons] at h
          rw [List.getElem?_append_right (by omega)] at h
          obtain ⟨b', o', hA', hq⟩ := ih (i0 + 1) (fun i cs' hi => by have := hl (i + 1) cs' (by simpa using hi); rwa [show i0 + (i + 1) = i0 + 1 + i by omega] at this) _ u h
          refine ⟨b', o', hA', ?_⟩
          rw [show i0 * k + j = (i0 + 1) * k + (j - cs.length) by rw [Nat.succ_mul]; omega]
          exact hq
    intro j u h
    obtain ⟨b, o, hA, hq⟩ := key news 0 (fun i cs hi => by simpa using hH.el i cs hi) j u h
    exact ⟨b, o, hA, by simpa using hq⟩
  have hall : ∀ u ∈ news.flatten, u.oneCell' = true := fun u hu => by
    obtain ⟨j, hj⟩ := List.getElem?_of_mem hu
    obtain ⟨b, o, _, hq⟩ := hget j u hj
    exact (hmem _ _ _ hq).2
  have hm2 : ∀ cs ∈ news, cs.length = k := fun cs hcs => by
    obtain ⟨i, hi⟩ := List.getElem?_of_mem hcs
    exact (hH.el i cs hi).1
  obtain ⟨v', w', hr, hok, hmv, hbl⟩ := run_append_row (P := P) (ty := ty) ht hT hI hz (Nat.eq_of_beq_eq_true hzk) (Nat.le_of_ble_eq_true hk) hrow (A := A) (c := cp) hH.len hm2 (fun h => (hH.nil h).1)
    (fun ad had j u hj => by
      obtain ⟨b, o, hA, hq⟩ := hget j u hj
      rw [hA] at had; cases had
      rw [Addr.add_lit]
      exact (hmem _ _ _ hq).1) hall hbytes hlen
  obtain ⟨a', cp', rfl⟩ := RowOk.shape hok
  refine ⟨_, w', ?_, _, ok_put hs hn (M'' := .row _ k (css ++ news) :: M) (hs.holds.row (I := []) hok hmv hbl), kk a' cp'⟩
  rw [execOp_append hs.env hx hy, hr]; rfl

/-- a nil slice, and a row without elements: owned rows -/
theorem Holds.nilrow {R : Own} {w : World} (h : Holds c H R w) (k : Nat) : Holds c H (.row (.slice none 0 0) k [] :: R) w :=
  Holds.frameH (I := []) (I' := [.row (.slice none 0 0) k []]) (R := R) h (Moves.refl _ _) (Own.ok_one (.inl ⟨rfl, rfl⟩)) (Own.sep_one _) (fun b hb => by simp [Own.blocks, Res.blocks] at hb)

theorem Holds.allocRow {R : Own} {w : World} (h : Holds c H R w) (css : List (List Value)) (hk : ∀ cs ∈ css, cs.length = k) (T : TypeId) : Holds c H (.row (.slice (some ⟨w.heap.size, 0, none⟩) css.length css.length) k css :: R) (w.alloc (.cells css.flatten.toArray T (0, 0))) := by
  refine Holds.frameH (I := []) (I' := [.row (.slice (some ⟨w.heap.size, 0, none⟩) css.length css.length) k css]) (R := R) h (Moves.alloc w _ _) (Own.ok_one (.inr ⟨w.heap.size, css.length, [], T, rfl, hk, Nat.le_refl _, ?_, ?_⟩)) (Own.sep_one _) (fun b hb => ?_)
  · rw [List.append_nil]; exact heap_alloc_new w _
  · rw [List.append_nil, flatten_length hk]
  · simp [Own.blocks, Res.blocks] at hb
    exact .inl (by omega)

theorem Ef_build0 (hF : WideF F) {el : Nat} {ag : Bool} [ht : UndC P t (.slice el)] [hT : TyC P el ag k] (hn : Nat.blt d n = true)
    (kk : ∀ b, K ⟨n, (d, .slice (some ⟨b, 0, none⟩) 0 0) :: e, H, .row (.slice (some ⟨b, 0, none⟩) 0 0) k [] :: M, L, D⟩) :
    Ef F P c ⟨some d, .buildSlice t 0 #[], ty, pos, after, g⟩ ⟨n, e, H, M, L, D⟩ K := Ef_of_run hF fun a w hs => by
  refine ⟨_, w.alloc (.cells [].flatten.toArray el (0, 0)), ?_, _, ok_put hs hn (hs.holds.allocRow (k := k) [] (by simp) el), kk _⟩
  have h0 : Array.range 0 = #[] := rfl
  simp [execOp, Instr.buildSlice, ht.run, hT.sizeOf, Instr.fill, newRow, h0]

/-- a literal []T{x, y, ..} -/
theorem Ef_buildn (hF : WideF F) {el bytes len : Nat} {ag : Bool} {zc : List Value} {xs : List Operand} {vs : List Value} {css : List (List Value)} {ps : Array (Nat × Operand)} [ht : UndC P t (.slice el)] [hT : TyC P el ag k] [hI : InfoC P el bytes] [hz : ZeroL P el zc]
    (hps : ps.toList = (xs.zipIdx 0).map fun q => (q.2, q.1)) (hx : EvalAll e xs vs) (hv : vs.map (fun v => v.cells.toList) = css) (hlen : vs.length = len) (hpos : Nat.blt 0 (len * k) = true) (hsmall : Nat.ble (len * k) 16777216 = true) (hck : css.all (fun cs => Nat.beq cs.length k) = true) (hn : Nat.blt d n = true)
    (kk : ∀ b, K ⟨n, (d, .slice (some ⟨b, 0, none⟩) len len) :: e, H, .row (.slice (some ⟨b, 0, none⟩) len len) k css :: M, L, D⟩) :
    Ef F P c ⟨some d, .buildSlice t len ps, ty, pos, after, g⟩ ⟨n, e, H, M, L, D⟩ K := Ef_of_run hF fun a w hs => by
  obtain ⟨i, z, hi, hsz, hby, hzz, hzc⟩ := info_of (P := P) (t := el) (hT := hT) (hI := hI) (hz := hz)
  have hpos' : 0 < len * k := Nat.le_of_ble_eq_true hpos
  have hk0 : 0 < k := Nat.pos_of_mul_pos_left hpos'
  have hck' : ∀ cs ∈ css, cs.length = k := fun cs h => Nat.eq_of_beq_eq_true (List.all_eq_true.1 hck cs h)
  have hvk : ∀ v ∈ vs, v.cells.size = k := fun v h => by
    have := hck' v.cells.toList (by rw [← hv]; exact List.mem_map_of_mem h)
    simpa using this
  have hcl : css.length = len := by rw [← hv]; simpa using hlen
  have hpe : (ps.map fun (i, x) => (i, a.eval x)).toList = (vs.zipIdx 0).map fun q => (q.2, q.1) := by
    rw [Array.toList_map, hps, ← EvalAll.map hs.env hx, List.zipIdx_map, List.map_map, List.map_map]
    rfl
  have hfill := Great.fill_whole hk0 vs ((Array.range (len * k)).map (z.cells[· % z.cells.size]!)) hvk (by simp [hlen])
  have hflat : (vs.flatMap fun v => v.cells.toList) = css.flatten := by rw [← hv, List.flatMap_def]
  rw [hflat] at hfill
  have hrun := run_buildSlice (P := P) w t el len (ps.map fun (i, x) => (i, a.eval x)) css.flatten.toArray i z ht.und hi hzz (by rw [hsz]; have := Nat.le_of_ble_eq_true hsmall; omega) (by rw [hsz]; omega) (by rw [hsz, hpe]; exact hfill)
  refine ⟨.slice (some ⟨w.heap.size, 0, none⟩) len len, w.alloc (.cells css.flatten.toArray el (0, 0)), ?_, _, ok_put hs hn ?_, kk _⟩
  · simp only [execOp, Sem.run_bind, hrun, Result.andThen_ok, Sem.run_pure]
  · have := hs.holds.allocRow (k := k) css hck' el
    rw [hcl] at this
    exact this
end

section
variable {F : Fence} {P : Program} {c : Ctx} {o : Oper} {K : SP} {n : Nat} {e : Env} {H : Hp} {M M' L : Own} {D : List Deferred} {dst : Option Tmp} {d : Nat} {ty : TypeId} {pos : String} {after : Array Edge} {g : Option (Nat × Bool)} {x y z : Operand} {v : Value} {t t2 : TypeId} {k b off : Nat}
theorem Ef_build1a (hF : WideF F) {el bytes : Nat} {ag : Bool} {zc cs : List Value} [ht : UndC P t (.slice el)] [hT : TyC P el ag k] [hI : InfoC P el bytes] [hz : ZeroL P el zc]
    (hx : e.eval x = some (.agg cs.toArray)) (hk : cs.length = k) (hpos : Nat.blt 0 k = true) (hsmall : Nat.ble k 16777216 = true) (hn : Nat.blt d n = true)
    (kk : ∀ b, K ⟨n, (d, .slice (some ⟨b, 0, none⟩) 1 1) :: e, H, .row (.slice (some ⟨b, 0, none⟩) 1 1) k [cs] :: M, L, D⟩) :
    Ef F P c ⟨some d, .buildSlice t 1 #[(0, x)], ty, pos, after, g⟩ ⟨n, e, H, M, L, D⟩ K := by
  subst hk
  exact Ef_buildn hF (xs := [x]) (vs := [.agg cs.toArray]) (css := [cs]) rfl ⟨hx, trivial⟩ (by simp [Value.cells]) rfl (by rw [Nat.one_mul]; exact hpos) (by rw [Nat.one_mul]; exact hsmall) (by simp) hn kk
theorem Ef_build11 (hF : WideF F) {el bytes : Nat} {ag : Bool} {zc : List Value} [ht : UndC P t (.slice el)] [hT : TyC P el ag 1] [hI : InfoC P el bytes] [hz : ZeroL P el zc]
    (hx : e.eval x = some v) (hv : v.oneCell' = true) (hn : Nat.blt d n = true)
    (kk : ∀ b, K ⟨n, (d, .slice (some ⟨b, 0, none⟩) 1 1) :: e, H, .row (.slice (some ⟨b, 0, none⟩) 1 1) 1 [[v]] :: M, L, D⟩) :
    Ef F P c ⟨some d, .buildSlice t 1 #[(0, x)], ty, pos, after, g⟩ ⟨n, e, H, M, L, D⟩ K := by
  have hc : v.cells.toList = [v] := by cases v <;> first | rfl | (simp [Value.oneCell'] at hv)
  exact Ef_buildn hF (xs := [x]) (vs := [v]) (css := [[v]]) rfl ⟨hx, trivial⟩ (by simp [hc]) rfl rfl rfl (by simp) hn kk
end

/-! ### focus: an owned block is brought forward -/
section
variable {F : Fence} {P : Program} {c : Ctx} {ops l : List Oper} {K : SP} {X : List (Nat × SP)} {R : SP} {n : Nat} {e : Env} {H : Hp} {M L : Own} {D : List Deferred} {r0 r1 r2 r3 r4 r5 r6 r7 : Res} {code : Code}
theorem O_sub {s s' : Sta} (hl : Sta.le s' s) (h : opsA F P c ops l K s') : opsA F P c ops l K s := fun a w hs => h a w (Sta.ok_le hs hl)
theorem O_shift {s : Sta} (h : Shift c (opsA F P c ops l K) s) : opsA F P c ops l K s := fun a w hs => let ⟨_, hs', k⟩ := h a w hs; k a w hs'
theorem A_sub {s s' : Sta} (hl : Sta.le s' s) (h : wpA F P c code K X R s') : wpA F P c code K X R s := fun a w hs => h a w (Sta.ok_le hs hl)

theorem Env.find_le : ∀ {e' e : Env}, (∀ t v, e'.find t = some v → e.find t = some v) → True := fun _ => trivial
theorem EnvOk.self (e : Env) {a : Act} (h : EnvOk e a) : EnvOk e a := h
theorem own_perm {A B : Own} (h : A.Perm B) {w : World} (hh : Holds c H A w) : Holds c H B w := by
  have hmem : ∀ b, b ∈ Own.blocks B ↔ b ∈ Own.blocks A := fun b => by
    rw [Own.mem_blocks, Own.mem_blocks]
    constructor
    · rintro ⟨r, hr, hb⟩; exact ⟨r, h.mem_iff.2 hr, hb⟩
    · rintro ⟨r, hr, hb⟩; exact ⟨r, h.mem_iff.1 hr, hb⟩
  refine ⟨hh.mem, fun r hr => hh.own r (h.mem_iff.2 hr), ?_, fun b hb => hh.apart b ((hmem b).1 hb), fun b hb => hh.fresh b ((hmem b).1 hb), hh.old, hh.hle, hh.hnew, hh.thaw⟩
  exact (h.pairwise_iff (fun hab => Res.apart_symm hab)).1 hh.sep
theorem O_perm {M' : Own} (h : M.Perm M') (k : opsA F P c ops l K ⟨n, e, H, M', L, D⟩) : opsA F P c ops l K ⟨n, e, H, M, L, D⟩ := fun a w hs =>
  k a w ⟨hs.defers, hs.size, hs.env, own_perm (h.append_right L) hs.holds⟩
theorem A_perm {M' : Own} (h : M.Perm M') (k : wpA F P c code K X R ⟨n, e, H, M', L, D⟩) : wpA F P c code K X R ⟨n, e, H, M, L, D⟩ := fun a w hs =>
  k a w ⟨hs.defers, hs.size, hs.env, own_perm (h.append_right L) hs.holds⟩
theorem perm_mid (A : Own) (r : Res) (B : Own) : (A ++ r :: B).Perm (r :: (A ++ B)) := List.perm_middle
theorem O_f1 (k : opsA F P c ops l K ⟨n, e, H, r1 :: r0 :: M, L, D⟩) : opsA F P c ops l K ⟨n, e, H, r0 :: r1 :: M, L, D⟩ := O_perm (perm_mid [r0] r1 M) k
theorem O_f2 (k : opsA F P c ops l K ⟨n, e, H, r2 :: r0 :: r1 :: M, L, D⟩) : opsA F P c ops l K ⟨n, e, H, r0 :: r1 :: r2 :: M, L, D⟩ := O_perm (perm_mid [r0, r1] r2 M) k
theorem O_f3 (k : opsA F P c ops l K ⟨n, e, H, r3 :: r0 :: r1 :: r2 :: M, L, D⟩) : opsA F P c ops l K ⟨n, e, H, r0 :: r1 :: r2 :: r3 :: M, L, D⟩ := O_perm (perm_mid [r0, r1, r2] r3 M) k
theorem O_f4 (k : opsA F P c ops l K ⟨n, e, H, r4 :: r0 :: r1 :: r2 :: r3 :: M, L, D⟩) : opsA F P c ops l K ⟨n, e, H, r0 :: r1 :: r2 :: r3 :: r4 :: M, L, D⟩ := O_perm (perm_mid [r0, r1, r2, r3] r4 M) k
theorem O_f5 (k : opsA F P c ops l K ⟨n, e, H, r5 :: r0 :: r1 :: r2 :: r3 :: r4 :: M, L, D⟩) : opsA F P c ops l K ⟨n, e, H, r0 :: r1 :: r2 :: r3 :: r4 :: r5 :: M, L, D⟩ := O_perm (perm_mid [r0, r1, r2, r3, r4] r5 M) k
theorem O_f6 (k : opsA F P c ops l K ⟨n, e, H, r6 :: r0 :: r1 :: r2 :: r3 :: r4 :: r5 :: M, L, D⟩) : opsA F P c ops l K ⟨n, e, H, r0 :: r1 :: r2 :: r3 :: r4 :: r5 :: r6 :: M, L, D⟩ := O_perm (perm_mid [r0, r1, r2, r3, r4, r5] r6 M) k
theorem O_drop (k : opsA F P c ops l K ⟨n, e, H, M, L, D⟩) : opsA F P c ops l K ⟨n, e, H, r0 :: M, L, D⟩ := fun a w hs =>
  k a w ⟨hs.defers, hs.size, hs.env, by
    have h := hs.holds
    have hs' := Own.sep_append (A := [r0]) (B := M ++ L) |>.1 h.sep
    exact ⟨h.mem, fun r hr => h.own r (List.mem_cons_of_mem _ hr), hs'.2.1, fun b hb => h.apart b (by simp only [List.cons_append]; rw [Own.blocks_cons]; exact List.mem_append_right _ hb), fun b hb => h.fresh b (by simp only [List.cons_append]; rw [Own.blocks_cons]; exact List.mem_append_right _ hb), h.old, h.hle, h.hnew, h.thaw⟩⟩
/-- a nil slice becomes an owned row -/
theorem O_nilrow (k' : Nat) (k : opsA F P c ops l K ⟨n, e, H, .row (.slice none 0 0) k' [] :: M, L, D⟩) : opsA F P c ops l K ⟨n, e, H, M, L, D⟩ := fun a w hs =>
  k a w ⟨hs.defers, hs.size, hs.env, hs.holds.nilrow k'⟩
theorem A_nilrow (k' : Nat) (k : wpA F P c code K X R ⟨n, e, H, .row (.slice none 0 0) k' [] :: M, L, D⟩) : wpA F P c code K X R ⟨n, e, H, M, L, D⟩ := fun a w hs =>
  k a w ⟨hs.defers, hs.size, hs.env, hs.holds.nilrow k'⟩

/-- what an owned row's value looks like -/
theorem O_rowaddr {s : Sta} {q n' cp k : Nat} {a : Option Addr} {css : List (List Value)} (hR : oget s.M q = some (.row (.slice a n' cp) k css))
    (h : n' = css.length → css.length ≤ cp → (a = none → css = [] ∧ cp = 0) → (∀ cs ∈ css, cs.length = k) → (∀ ad, a = some ad → ∃ b, ad = ⟨b, 0, none⟩) → opsA F P c ops l K s) : opsA F P c ops l K s := fun ac w hs => by
  have hr : RowOk w (.slice a n' cp) k css := hs.holds.own _ (List.mem_append_left _ (oget_mem hR))
  obtain ⟨h1, h2, h3, h4, h5⟩ := hr.addr
  exact h h1 h2 h3 h4 h5 ac w hs
theorem A_rowaddr {s : Sta} {q n' cp k : Nat} {a : Option Addr} {css : List (List Value)} (hR : oget s.M q = some (.row (.slice a n' cp) k css))
    (h : n' = css.length → css.length ≤ cp → (a = none → css = [] ∧ cp = 0) → (∀ cs ∈ css, cs.length = k) → (∀ ad, a = some ad → ∃ b, ad = ⟨b, 0, none⟩) → wpA F P c code K X R s) : wpA F P c code K X R s := fun ac w hs => by
  have hr : RowOk w (.slice a n' cp) k css := hs.holds.own _ (List.mem_append_left _ (oget_mem hR))
  obtain ⟨h1, h2, h3, h4, h5⟩ := hr.addr
  exact h h1 h2 h3 h4 h5 ac w hs

/-- an owned row becomes persistent -/
theorem Holds.freeze {R : Own} {w : World} {a : Option Addr} {n' cp k : Nat} {css : List (List Value)} (h : Holds c H (.row (.slice a n' cp) k css :: R) w) (h1 : ∀ cs ∈ css, ∀ u ∈ cs, u.oneCell' = true) :
    ∃ H', HLe H H' ∧ HRow H' a n' cp k css ∧ Holds c H' R w := by
  have hr : RowOk w (.slice a n' cp) k css := h.own _ (List.mem_cons_self)
  rcases hr with ⟨hv, hcss⟩ | ⟨b, cap, rest, T, hv, hk, hc, hb, hl⟩
  · cases hv; subst hcss
    exact ⟨H, HLe.refl _, HRow.nil' H k, h.sublist (List.sublist_cons_self _ _)⟩
  · cases hv
    have hbn : ∀ o, H b o = none := h.apart b (by simp [Own.blocks, Res.blocks])
    have hsep := Own.sep_append (A := [Res.row (.slice (some ⟨b, 0, none⟩) css.length cp) k css]) (B := R) |>.1 h.sep
    have hbR : b ∉ Own.blocks R := hsep.2.2 b (by simp [Own.blocks, Res.blocks])
    have hget : ∀ o v, css.flatten[o]? = some v → w.cell? ⟨b, o, none⟩ = some v := fun o v ho => cell_of_heap hb (by
      have hol := (List.getElem?_eq_some_iff.1 ho).1
      simp only [List.getElem?_toArray]
      rw [List.getElem?_append_left hol]
      exact ho)
    refine ⟨fun b' o => if b' = b then css.flatten[o]? else H b' o, ?_, ?_, ?_⟩
    · intro b' o v hv
      by_cases hbb : b' = b
      · subst hbb; rw [hbn] at hv; cases hv
      · simp only [hbb, if_false]; exact hv
    · refine ⟨rfl, hc, (fun h => (by cases h)), fun i cs hi => ⟨hk cs (List.mem_of_getElem? hi), b, 0, rfl, fun j v hj => ?_⟩⟩
      simp only [if_true, Nat.zero_add]
      have key : ∀ (css : List (List Value)) (i : Nat), (∀ cs ∈ css, cs.length = k) → css[i]? = some cs → css.flatten[i * k + j]? = some v := by
        have hjl : j < cs.length := (List.getElem?_eq_some_iff.1 hj).1
        intro css
        induction css with
        | nil => intro i _ h; simp at h
        | cons d r ih =>
          intro i hk hi
          have hd : d.length = k := hk d (by simp)
          cases i with
          | zero =>
            simp at hi
            subst hi
            simp only [List.flatten_cons]
            rw [List.getElem?_append_left (by omega)]
            simpa using hj
          | succ i =>
            simp only [List.getElem?_cons_succ] at hi
            simp only [List.flatten_cons]
            rw [List.getElem?_append_right (by rw [hd, Nat.succ_mul]; omega)]
            rw [show (i + 1) * k + j - d.length = i * k + j by rw [hd, Nat.succ_mul]; omega]
            exact ih i (fun x hx => hk x (List.mem_cons_of_mem _ hx)) hi
      exact key css i hk hi
    · have hh := h.sublist (List.sublist_cons_self (Res.row (.slice (some ⟨b, 0, none⟩) css.length cp) k css) R)
      refine ⟨?_, hh.own, hh.sep, ?_, hh.fresh, hh.old, ?_, ?_, ?_⟩
      · intro b' o v hv
        by_cases hbb : b' = b
        · subst hbb
          simp only [if_true] at hv
          refine ⟨hget o v hv, ?_⟩
          obtain ⟨cs, hcs, hu⟩ := List.mem_flatten.1 (List.mem_of_getElem? hv)
          exact h1 cs hcs v hu
        · simp only [hbb, if_false] at hv; exact hh.mem b' o v hv
      · intro b' hb' o
        have hne : b' ≠ b := fun e => hbR (e ▸ hb')
        simp only [hne, if_false]
        exact hh.apart b' hb' o
      · intro b' o v hv
        have := hh.hle b' o v hv
        by_cases hbb : b' = b
        · subst hbb; rw [hbn] at this; cases this
        · simp only [hbb, if_false]; exact this
      · intro b' o v hv
        by_cases hbb : b' = b
        · subst hbb
          rcases h.fresh b' (by simp [Own.blocks, Res.blocks]) with h | h
          · exact .inr (.inl h)
          · exact .inr (.inr h)
        · simp only [hbb, if_false] at hv; exact hh.hnew b' o v hv
      · intro b' o v hv h0
        by_cases hbb : b' = b
        · subst hbb; exact ⟨_, _, hb⟩
        · simp only [hbb, if_false] at hv; exact hh.thaw b' o v hv h0
theorem O_freeze {a : Option Addr} {n' cp k : Nat} {css : List (List Value)} (h1 : ∀ cs ∈ css, ∀ u ∈ cs, u.oneCell' = true)
    (h : ∀ H', HLe H H' → HRow H' a n' cp k css → opsA F P c ops l K ⟨n, e, H', M, L, D⟩) : opsA F P c ops l K ⟨n, e, H, .row (.slice a n' cp) k css :: M, L, D⟩ := fun ac w hs => by
  obtain ⟨H', hle, hr, hh⟩ := Holds.freeze (R := M ++ L) hs.holds h1
  exact h H' hle hr ac w ⟨hs.defers, hs.size, hs.env, hh⟩
theorem A_freeze {a : Option Addr} {n' cp k : Nat} {css : List (List Value)} (h1 : ∀ cs ∈ css, ∀ u ∈ cs, u.oneCell' = true)
    (h : ∀ H', HLe H H' → HRow H' a n' cp k css → wpA F P c code K X R ⟨n, e, H', M, L, D⟩) : wpA F P c code K X R ⟨n, e, H, .row (.slice a n' cp) k css :: M, L, D⟩ := fun ac w hs => by
  obtain ⟨H', hle, hr, hh⟩ := Holds.freeze (R := M ++ L) hs.holds h1
  exact h H' hle hr ac w ⟨hs.defers, hs.size, hs.env, hh⟩
theorem Shift_freeze {a : Option Addr} {n' cp k : Nat} {css : List (List Value)} (h1 : ∀ cs ∈ css, ∀ u ∈ cs, u.oneCell' = true)
    (h : ∀ H', HLe H H' → HRow H' a n' cp k css → Shift c K ⟨n, e, H', M, L, D⟩) : Shift c K ⟨n, e, H, .row (.slice a n' cp) k css :: M, L, D⟩ := fun ac w hs => by
  obtain ⟨H', hle, hr, hh⟩ := Holds.freeze (R := M ++ L) hs.holds h1
  exact h H' hle hr ac w ⟨hs.defers, hs.size, hs.env, hh⟩
/-- an owned block is a row of one element -/
theorem Holds.boxrow {R : Own} {w : World} {b : Nat} {cs : List Value} (h : Holds c H (.box b cs :: R) w) : Holds c H (.row (.slice (some ⟨b, 0, none⟩) 1 1) cs.length [cs] :: R) w := by
  obtain ⟨T, hb⟩ := h.own (.box b cs) List.mem_cons_self
  refine Holds.frameH (I := [.box b cs]) (I' := [.row (.slice (some ⟨b, 0, none⟩) 1 1) cs.length [cs]]) (R := R) h (Moves.refl _ _) (Own.ok_one (.inr ⟨b, 1, [], T, rfl, by simp, by simp, by simpa using hb, by simp⟩)) (Own.sep_one _) (fun b' hb' => .inr (by simpa [Own.blocks, Res.blocks] using hb'))
theorem Holds.freezeBox {R : Own} {w : World} {b : Nat} {cs : List Value} (h : Holds c H (.box b cs :: R) w) (h1 : ∀ u ∈ cs, u.oneCell' = true) : ∃ H', HLe H H' ∧ HCells H' b 0 cs ∧ Holds c H' R w := by
  obtain ⟨H', hle, hr, hh⟩ := h.boxrow.freeze (by simpa using h1)
  obtain ⟨_, b', o, hbo, hc⟩ := hr.el 0 cs (by simp)
  cases hbo
  exact ⟨H', hle, by simpa using hc, hh⟩
theorem O_freezeBox {b : Nat} {cs : List Value} (h1 : ∀ u ∈ cs, u.oneCell' = true) (h : ∀ H', HLe H H' → HCells H' b 0 cs → opsA F P c ops l K ⟨n, e, H', M, L, D⟩) : opsA F P c ops l K ⟨n, e, H, .box b cs :: M, L, D⟩ := fun ac w hs => by
  obtain ⟨H', hle, hr, hh⟩ := Holds.freezeBox (R := M ++ L) hs.holds h1
  exact h H' hle hr ac w ⟨hs.defers, hs.size, hs.env, hh⟩
theorem A_freezeBox {b : Nat} {cs : List Value} (h1 : ∀ u ∈ cs, u.oneCell' = true) (h : ∀ H', HLe H H' → HCells H' b 0 cs → wpA F P c code K X R ⟨n, e, H', M, L, D⟩) : wpA F P c code K X R ⟨n, e, H, .box b cs :: M, L, D⟩ := fun ac w hs => by
  obtain ⟨H', hle, hr, hh⟩ := Holds.freezeBox (R := M ++ L) hs.holds h1
  exact h H' hle hr ac w ⟨hs.defers, hs.size, hs.env, hh⟩
/-- the end of a walk that hands on a slice of its own: its row becomes persistent -/
theorem End_row {fn : Func} {a : Option Addr} {n' cp k : Nat} {css : List (List Value)} {v : Value} {post : Value → Hp → Own → Prop} (h : RetOk P fn ⟨n, e, H, .row (.slice a n' cp) k css :: M, L, []⟩ v) (h1 : ∀ cs ∈ css, ∀ u ∈ cs, u.oneCell' = true)
    (hp : ∀ H', HLe H H' → HRow H' a n' cp k css → post v H' []) : Shift c (EndOf c P fn post) ⟨n, e, H, .row (.slice a n' cp) k css :: M, L, []⟩ :=
  Shift.pure ⟨v, h, rfl, Shift_freeze h1 fun H' hle hr => fun _ _ hs => ⟨⟨n, e, H', [], [], []⟩, ok_drop hs, rfl, hp H' hle hr⟩⟩
end
end Go.Proofs.Ythniohgeojenaaa
