import Derived.Test.YtnoadopmeoohmaaGreatDoorZ20
import Derived.Test.YtnoadopmeoohmaaGreatDoorZ05
/-
  strings.Builder; how operations are written. Printed by genF27.py.
-/
namespace Go.Proofs.YtnoadopmeoohmaaGreatDoor
open Go
set_option linter.unusedVariables false
set_option linter.unusedSimpArgs false
def RowT (e : TypeId) (w : World) (v : Value) (k : Nat) (css : List (List Value)) : Prop :=
  (v = .slice none 0 0 ∧ css = []) ∨
  ∃ b cap rest, v = .slice (some ⟨b, 0, none⟩) css.length cap ∧ (∀ cs ∈ css, cs.length = k) ∧ css.length ≤ cap ∧
    w.heap[b]? = some (.cells (css.flatten ++ rest).toArray e (0, 0)) ∧ (css.flatten ++ rest).length = cap * k
theorem run_append_rowT {P : Program} {w : World} {t e ty : TypeId} {k bytes : Nat} {ag : Bool} {zc : List Value} (ht : UndC P t (.slice e)) (hT : TyC P e ag k) (hI : InfoC P e bytes) (hz : ZeroL P e zc) (hzk : zc.length = k) (hk : 0 < k)
    {v : Value} {css news : List (List Value)} (hrow : RowT e w v k css) {A : Option Addr} {m c : Nat} (hm : news.length = m) (hnk : ∀ cs ∈ news, cs.length = k) (hA : A = none → m = 0)
    (hcells : ∀ a, A = some a → ∀ j u, news.flatten[j]? = some u → w.cell? (a.add j) = some u) (h1 : ∀ u ∈ news.flatten, u.oneCell' = true) (hbytes : (css.length + m) * bytes ≤ 140737488355328) (hlen : css.length + m ≤ 9223372036854775807) :
    ∃ v' w', (Builtin.append_ #[t, t] ty #[v, .slice A m c]).run P w = .ok v' w' ∧ RowT e w' v' k (css ++ news) ∧ Moves w w' (vblocks v) ∧ (∀ b ∈ vblocks v', w.heap.size ≤ b ∨ b ∈ vblocks v) := by
  obtain ⟨i, z, hi, hsz, hby, hzz, hzc⟩ := info_of (P := P) (t := e) (hT := hT) (hI := hI) (hz := hz)
  have hzs : z.cells.size = k := by rw [← hzk, ← hzc]; simp
  have hnl : news.flatten.length = m * i.size := by rw [flatten_length hnk, hm, hsz]
  subst hby
  by_cases hm0 : m = 0
  · have hn0 : news = [] := List.eq_nil_of_length_eq_zero (by omega)
    subst hn0
    subst hm0
    have h0 : ∀ w', (Builtin.firstCells k 0 (.slice A 0 c)).run P w' = .ok #[] w' := fun w' => by
      cases A <;> simp [Builtin.firstCells, loadCells, loadCellsFrom]
    rcases hrow with ⟨rfl, rfl⟩ | ⟨b, cap, rest, rfl, hkk, hc, hb, hl⟩
    · refine ⟨.slice none 0 0, w, ?_, .inl ⟨rfl, rfl⟩, Moves.refl _ _, by simp [vblocks]⟩
      simp [Builtin.append_, ht.run, sizeOf, typeInfo, hi, hsz, Builtin.lenOf, h0]
    · refine ⟨.slice (some ⟨b, 0, none⟩) css.length cap, w, ?_, .inr ⟨b, cap, rest, by simp, by simpa using hkk, by simpa using hc, by simpa using hb, by simpa using hl⟩, Moves.refl _ _, fun b' hb' => .inr (by simpa [vblocks] using hb')⟩
      have hcc : css.length + 0 ≤ cap := by omega
      simp [Builtin.append_, ht.run, sizeOf, typeInfo, hi, hsz, Builtin.lenOf, h0, hc, storeCells]
  · obtain ⟨a, rfl⟩ : ∃ a, A = some a := by cases A with
      | none => exact absurd (hA rfl) hm0
      | some a => exact ⟨a, rfl⟩
    have hcells' := hcells a rfl
    have hzero : ∀ q, (Builtin.zeroCells z.cells q).toList.length = q * k := fun q => by rw [Array.length_toList, size_zeroCells, hzs]
    rcases hrow with ⟨rfl, rfl⟩ | ⟨b, cap, rest, rfl, hkk, hc, hb, hl⟩
    · have hb0 := hbytes
      simp only [List.length_nil, Nat.zero_add] at hb0 hlen
      have hr := run_append_nil (P := P) w t ty e i z ht.und hi hzz a m c news.flatten hnl hcells' (by omega) (by omega) (by omega)
      have hge := grownCap_ge w m 0 e
      refine ⟨_, _, hr, .inr ⟨w.heap.size, grownCap w m 0 e, (Builtin.zeroCells z.cells (grownCap w m 0 e - m)).toList, by simp [hm], by simpa using hnk, by simpa [hm] using hge, ?_, ?_⟩, ?_, fun b hb => .inl (by simp [vblocks] at hb; omega)⟩
      · have := heap_alloc_new w.drew (.cells (news.flatten.toArray ++ Builtin.zeroCells z.cells (grownCap w m 0 e - m)) e)
        have ea : news.flatten.toArray ++ Builtin.zeroCells z.cells (grownCap w m 0 e - m) = (news.flatten ++ (Builtin.zeroCells z.cells (grownCap w m 0 e - m)).toList).toArray := by apply Array.ext'; simp
        rw [ea] at this ⊢
        simpa using this
      · rw [List.length_append, hzero]
        simp only [List.nil_append, hnl, hsz, ← Nat.add_mul]
        congr 1
        omega
      · exact (Moves.drew w _).trans (Moves.alloc w.drew _ _)
    · have hcl : css.flatten.length = css.length * i.size := by rw [flatten_length hkk, hsz]
      by_cases hroom : css.length + m ≤ cap
      · have hst := run_storeCells_at P b (css.length * k) e news.flatten 0 (css.flatten ++ rest).toArray w hb (by
          simp only [Nat.add_zero, List.size_toArray, hl, hnl, hsz, ← Nat.add_mul]
          exact Nat.mul_le_mul_right _ hroom) h1
        have hf := run_firstCells_some (P := P) w k m a m c news.flatten (by rw [hnl, hsz]) hcells'
        have htk : ((css.flatten ++ rest).toArray.toList.take (css.length * k + 0) ++ news.flatten ++ (css.flatten ++ rest).toArray.toList.drop (css.length * k + 0 + news.flatten.length)) =
            (css ++ news).flatten ++ rest.drop news.flatten.length := by
          have e1 : css.length * k = css.flatten.length := by rw [hcl, hsz]
          simp only [Nat.add_zero, e1, List.take_left, List.flatten_append]
          rw [← List.drop_drop, List.drop_left]
        rw [htk] at hst
        refine ⟨.slice (some ⟨b, 0, none⟩) (css.length + m) cap, _, ?_, .inr ⟨b, cap, rest.drop news.flatten.length, by simp [hm], ?_, by simpa [hm] using hroom, setRow_heap w b _ _ e _ hb, ?_⟩, (Moves.setRow w b _).mono (by simp [vblocks]), fun b' hb' => .inr (by simpa [vblocks] using hb')⟩
        · simp [Builtin.append_, ht.run, sizeOf, typeInfo, hi, hsz, Builtin.lenOf, hroom, hf, Addr.add_lit, hst]
        · intro cs hcs
          rcases List.mem_append.1 hcs with h | h
          · exact hkk cs h
          · exact hnk cs h
        · have hrl : rest.length = cap * k - css.length * k := by simp only [List.length_append, hcl, hsz] at hl; omega
          have h3 : (css.length + m) * k ≤ cap * k := Nat.mul_le_mul_right _ hroom
          rw [Nat.add_mul] at h3
          simp only [List.flatten_append, List.length_append, hcl, hnl, hsz, List.length_drop, hrl]
          omega
      · have holds : ∀ j u, css.flatten[j]? = some u → w.cell? ((⟨b, 0, none⟩ : Addr).add j) = some u := fun j u hj => by
          rw [Addr.add_lit]
          refine cell_of_heap hb ?_
          have hjl := (List.getElem?_eq_some_iff.1 hj).1
          simp only [Nat.zero_add, List.getElem?_toArray]
          rw [List.getElem?_append_left hjl]
          exact hj
        have hr := run_append_grow (P := P) w t ty e i z ht.und hi hzz ⟨b, 0, none⟩ css.length cap css.flatten hcl holds a m c news.flatten hnl hcells' (by omega) (by omega) (growslice_fits (by omega) hbytes)
        have hge := grownCap_ge w (css.length + m) cap e
        refine ⟨_, _, hr, .inr ⟨w.heap.size, grownCap w (css.length + m) cap e, (Builtin.zeroCells z.cells (grownCap w (css.length + m) cap e - (css.length + m))).toList, by simp [hm], ?_, by simpa [hm] using hge, ?_, ?_⟩, ?_, fun b' hb' => .inl (by simp [vblocks] at hb'; omega)⟩
        · intro cs hcs
          rcases List.mem_append.1 hcs with h | h
          · exact hkk cs h
          · exact hnk cs h
        · have := heap_alloc_new w.drew (.cells (css.flatten.toArray ++ news.flatten.toArray ++ Builtin.zeroCells z.cells (grownCap w (css.length + m) cap e - (css.length + m))) e)
          have ea : css.flatten.toArray ++ news.flatten.toArray ++ Builtin.zeroCells z.cells (grownCap w (css.length + m) cap e - (css.length + m)) = ((css ++ news).flatten ++ (Builtin.zeroCells z.cells (grownCap w (css.length + m) cap e - (css.length + m))).toList).toArray := by apply Array.ext'; simp
          rw [ea] at this ⊢
          exact this
        · rw [List.length_append, hzero]
          simp only [List.flatten_append, List.length_append, hcl, hnl, hsz, ← Nat.add_mul]
          congr 1
          omega
        · exact (Moves.drew w _).trans (Moves.alloc w.drew _ _)
section
variable {F : Fence} {P : Program} {c : Ctx} {K : SP} {n : Nat} {e : Env} {H : Hp} {M L : Own} {D : List Deferred} {x y z : Operand} {d : Tmp} {ty t t2 : TypeId} {pos : String} {after : Array Edge} {g : Option (Nat × Bool)} {v : Value} {b : Nat}
theorem flat_one (l : List UInt8) : (l.map fun b => [Value.int .u8 (b.toNat : Int)]).flatten = bcells l := by
  induction l with
  | nil => rfl
  | cons a r ih => simp only [List.map_cons, List.flatten_cons, ih]; rfl
theorem BufIs.rowT {T : TypeId} {v : Value} {R : Own} {l : List UInt8} {w : World} (h : BufIs T v R l) (hR : ∀ r ∈ R, r.ok w) : RowT T w v 1 (l.map fun b => [Value.int .u8 (b.toNat : Int)]) := by
  rcases h with ⟨rfl, rfl, rfl⟩ | ⟨b, cap, rest, rfl, rfl, hc, hc0, hl⟩
  · exact .inl ⟨rfl, rfl⟩
  · have hb : w.heap[b]? = some (cobj (bcells l ++ rest) T) := hR _ (List.mem_singleton.2 rfl)
    refine .inr ⟨b, cap, rest, by simp, fun cs hcs => ?_, by simpa using hc, ?_, ?_⟩
    · obtain ⟨x, _, rfl⟩ := List.mem_map.1 hcs; rfl
    · rw [flat_one]; exact hb
    · rw [flat_one, hl, Nat.mul_one]
theorem BufIs.vb {T : TypeId} {v : Value} {R : Own} {l : List UInt8} (h : BufIs T v R l) : vblocks v = Own.blocks R := by
  rcases h with ⟨rfl, rfl, rfl⟩ | ⟨b, cap, rest, rfl, rfl, hc, hc0, hl⟩ <;> simp [vblocks, Own.blocks, Res.blocks]
theorem RowT.buf {T : TypeId} {w : World} {v : Value} {l : List UInt8} (h : RowT T w v 1 (l.map fun b => [Value.int .u8 (b.toNat : Int)])) (hl : 0 < l.length) : ∃ R, BufIs T v R l ∧ Own.ok R w ∧ Own.Sep R := by
  rcases h with ⟨_, h⟩ | ⟨b, cap, rest, rfl, _, hc, hb, hlen⟩
  · rw [List.map_eq_nil_iff] at h; rw [h] at hl; simp at hl
  · rw [flat_one] at hb hlen
    rw [List.length_map] at hc
    refine ⟨[.obj b (cobj (bcells l ++ rest) T)], .inr ⟨b, cap, rest, by simp, rfl, hc, by omega, by omega⟩, Own.ok_one hb, Own.sep_one _⟩
/-- append of one byte to a buffer: the byte's row stands first, then another block, then the buffer -/
theorem Ef_appendB1 (hF : WideF F) {el bytes m cp : Nat} {r0 : Res} {R : Own} {l : List UInt8} {u : UInt8} {zc : List Value} {A : Option Addr} [ht : UndC P t (.slice el)] [hT : TyC P el false 1] [hI : InfoC P el bytes] [hz : ZeroL P el zc]
    (hx : e.eval x = some v) (hy : e.eval y = some (.slice A m cp)) (hB : BufIs el v R l) (hz1 : Nat.beq zc.length 1 = true) (hbytes : (l.length + 1) * bytes ≤ 140737488355328) (hlen : l.length + 1 ≤ 9223372036854775807) (hn : Nat.blt d n = true)
    (kk : ∀ v' R', BufIs el v' R' (l ++ [u]) → K ⟨n, (d, v') :: e, H, r0 :: R', L, D⟩) :
    Ef F P c ⟨some d, .call { callee := .builtin .append, args := #[x, y], argTypes := #[t, t] }, ty, pos, after, g⟩ ⟨n, e, H, .row (.slice A m cp) 1 [[.int .u8 (u.toNat : Int)]] :: r0 :: R, L, D⟩ K := Ef_of_run hF fun a w hs => by
  have hsrc : RowOk w (.slice A m cp) 1 [[.int .u8 (u.toNat : Int)]] := hs.holds.own (.row (.slice A m cp) 1 [[.int .u8 (u.toNat : Int)]]) (by simp)
  have hrow := hB.rowT (w := w) fun r hr => hs.holds.own r (by simp [hr])
  rcases hsrc with ⟨_, h⟩ | ⟨b, cap, rest, T, h, hkk, hc, hb, hl⟩
  · cases h
  · cases h
    have hcells : ∀ ad, (some ⟨b, 0, none⟩ : Option Addr) = some ad → ∀ j q, ([[Value.int .u8 (u.toNat : Int)]] : List (List Value)).flatten[j]? = some q → w.cell? (ad.add j) = some q := by
      intro ad had j q hj
      cases had
      rw [Addr.add_lit]
      refine cell_of_heap hb ?_
      have hjl := (List.getElem?_eq_some_iff.1 hj).1
      simp only [Nat.zero_add, List.getElem?_toArray]
      rw [List.getElem?_append_left hjl]
      exact hj
    have hone : ∀ q ∈ ([[Value.int .u8 (u.toNat : Int)]] : List (List Value)).flatten, q.oneCell' = true := by
      intro q hq
      simp at hq
      subst hq; rfl
    obtain ⟨v', w', hr, hok, hmv, hbl⟩ := run_append_rowT (P := P) (ty := ty) ht hT hI hz (Nat.eq_of_beq_eq_true hz1) (by decide) hrow (news := [[.int .u8 (u.toNat : Int)]]) (c := cp) rfl hkk (fun h => (by cases h)) hcells hone (by simpa using hbytes) (by simpa using hlen)
    have e1 : (l.map fun b => [Value.int .u8 (b.toNat : Int)]) ++ [[.int .u8 (u.toNat : Int)]] = (l ++ [u]).map fun b => [Value.int .u8 (b.toNat : Int)] := by simp
    rw [e1] at hok
    obtain ⟨R', hB', hok', hsep'⟩ := hok.buf (by simp)
    have h0 : Holds c H (R ++ (r0 :: L)) w := by
      have h1 : Holds c H ((r0 :: R) ++ L) w := hs.holds.sublist (by simp)
      exact own_perm (List.perm_middle (a := r0) (l₁ := R) (l₂ := L)).symm h1
    have h2 := Holds.frameH (I := R) (I' := R') (R := r0 :: L) h0 (by rw [← hB.vb]; exact hmv) hok' hsep' (fun b' hb' => by rw [← hB'.vb] at hb'; rw [← hB.vb]; exact hbl b' hb')
    have h3 : Holds c H ((r0 :: R') ++ L) w' := own_perm (List.perm_middle (a := r0) (l₁ := R') (l₂ := L)) h2
    refine ⟨_, w', ?_, _, ok_put hs hn (M'' := r0 :: R') h3, kk v' R' hB'⟩
    rw [execOp_append hs.env hx hy]
    rw [hr]; rfl
end
section
variable {F : Fence} {P : Program} {c : Ctx} {K : SP} {n : Nat} {e : Env} {H : Hp} {M L : Own} {D : List Deferred} {d : Tmp} {ty t : TypeId} {pos : String} {after : Array Edge} {g : Option (Nat × Bool)}
theorem fill1 : ∀ (vs : List (Nat × Value)) (cells : List Value), (∀ p ∈ vs, p.2.oneCell' = true ∧ p.1 < cells.length) → Instr.fill (fun i => some (i * 1, 1)) cells.toArray vs = some (vs.foldl (fun cs p => cs.set p.1 p.2) cells).toArray
  | [], cells, _ => rfl
  | (i, v) :: rest, cells, h => by
    have hv := (h (i, v) (by simp)).1
    have hi := (h (i, v) (by simp)).2
    have hvc : v.cells = #[v] := by cases v <;> first | rfl | (simp [Value.oneCell'] at hv)
    have ih := fill1 rest (cells.set i v) (fun p hp => ⟨(h p (by simp [hp])).1, by rw [List.length_set]; exact (h p (by simp [hp])).2⟩)
    dsimp only at hi
    simp only [Instr.fill, hvc]
    rw [if_neg (by simp; omega)]
    have e1 : (#[v].zipIdx.foldl (fun cs (c, j) => cs.setIfInBounds (i * 1 + j) c) cells.toArray) = (cells.set i v).toArray := by simp
    rw [e1, ih]
    rfl
/-- a slice literal of which some elements are given, each of one cell; frozen at birth -/
theorem Ef_buildP (hF : WideF F) {el bytes len : Nat} {ag : Bool} {z0 : Value} {xs : List (Nat × Operand)} {vs : List (Nat × Value)} {cells : List Value} {ps : Array (Nat × Operand)} [ht : UndC P t (.slice el)] [hT : TyC P el ag 1] [hI : InfoC P el bytes] [hz : ZeroL P el [z0]]
    (hps : ps.toList = xs) (hx : EvalParts e xs vs) (hv : (vs.all fun p => p.2.oneCell' && Nat.blt p.1 len) = true) (hc : vs.foldl (fun cs p => cs.set p.1 p.2) (List.replicate len z0) = cells) (h1 : (cells.all fun v => v.oneCell') = true) (hpos : Nat.blt 0 len = true) (hsmall : Nat.ble len 16777216 = true) (hn : Nat.blt d n = true)
    (kk : ∀ b H', HLe H H' → HRow H' (some ⟨b, 0, none⟩) len len 1 (cells.map fun v => [v]) → K ⟨n, (d, .slice (some ⟨b, 0, none⟩) len len) :: e, H', M, L, D⟩) :
    Ef F P c ⟨some d, .buildSlice t len ps, ty, pos, after, g⟩ ⟨n, e, H, M, L, D⟩ K := by
  have hpos' : 0 < len := Nat.le_of_ble_eq_true hpos
  have hcl : cells.length = len := by
    rw [← hc]
    have : ∀ (vs : List (Nat × Value)) (cs : List Value), (vs.foldl (fun cs p => cs.set p.1 p.2) cs).length = cs.length := by
      intro vs
      induction vs with
      | nil => intro cs; rfl
      | cons p r ih => intro cs; rw [List.foldl_cons, ih, List.length_set]
    rw [this]; simp
  have hfl : (cells.map fun v => [v]).flatten = cells := by
    clear hc h1 hcl kk
    induction cells with
    | nil => rfl
    | cons a r ih => simp [ih]
  refine Ef_mapK (K' := fun s' => ∃ b, s' = ⟨n, (d, .slice (some ⟨b, 0, none⟩) len len) :: e, H, .row (.slice (some ⟨b, 0, none⟩) len len) 1 (cells.map fun v => [v]) :: M, L, D⟩) (Ef_of_run hF fun a w hs => ?_) ?_
  · obtain ⟨i, z, hi, hsz, hby, hzz, hzc⟩ := info_of (P := P) (t := el) (hT := hT) (hI := hI) (hz := hz)
    have hzc' : z.cells = #[z0] := by apply Array.ext'; simpa using hzc
    have hpe : (ps.map fun (i, x) => (i, a.eval x)).toList = vs := by
      rw [Array.toList_map, hps]
      exact EvalParts.map hs.env hx
    have hrep : (Array.range (len * 1)).map (fun x => z.cells[x % z.cells.size]!) = (List.replicate len z0).toArray := by
      rw [hzc', Nat.mul_one]
      apply Array.ext'
      simp only [Array.toList_map, Array.toList_range, List.size_toArray, List.length_singleton, Nat.mod_one]
      apply List.ext_getElem
      · simp
      · intro q h2 h3
        simp
    have hfill := fill1 vs (List.replicate len z0) (fun p hp => by
      have := List.all_eq_true.1 hv p hp
      simp only [Bool.and_eq_true] at this
      exact ⟨this.1, by rw [List.length_replicate]; exact Nat.le_of_ble_eq_true this.2⟩)
    rw [hc] at hfill
    have hrun := run_buildSlice (P := P) w t el len (ps.map fun (i, x) => (i, a.eval x)) cells.toArray i z ht.und hi hzz (by rw [hsz]; have := Nat.le_of_ble_eq_true hsmall; omega) (by rw [hsz]; omega) (by rw [hsz, hpe, hrep]; exact hfill)
    refine ⟨.slice (some ⟨w.heap.size, 0, none⟩) len len, w.alloc (.cells cells.toArray el (0, 0)), ?_, _, ok_put hs hn ?_, _, rfl⟩
    · simp only [execOp, Sem.run_bind, hrun, Result.andThen_ok, Sem.run_pure]
    · have := hs.holds.allocRow (k := 1) (cells.map fun v => [v]) (fun cs hcs => by obtain ⟨v, _, rfl⟩ := List.mem_map.1 hcs; rfl) el
      rw [List.length_map, hcl, hfl] at this
      exact this
  · rintro s a w hs ⟨b, rfl⟩
    obtain ⟨H', hle, hr, hh⟩ := Holds.freeze (R := M ++ L) hs.holds (fun cs hcs u hu => by
      obtain ⟨v, hv', rfl⟩ := List.mem_map.1 hcs
      simp at hu
      subst hu
      exact List.all_eq_true.1 h1 _ hv')
    exact ⟨⟨n, (d, .slice (some ⟨b, 0, none⟩) len len) :: e, H', M, L, D⟩, ⟨hs.defers, hs.size, hs.env, hh⟩, kk b H' hle hr⟩
end
attribute [local irreducible] wpA opsA drJ drQ drE Ef Ev Shift Fn
@[reducible, instance] def lies90 : LiesC Tryz.prog 85 2 := ⟨by kernel_rfl⟩
@[reducible, instance] def cells5 : CellsC Tryz.prog 5 1 := ⟨by kernel_rfl⟩
@[reducible, instance] def noEsc : ExtC Tryz.prog 155 := ⟨fun x w => by
  rw [run_callFunc_extern Tryz.func155 (by kernel_rfl) (by kernel_rfl) (by kernel_rfl) (e := Extern.AbiNoEscape.same) (by kernel_rfl)]
  rfl⟩
/-- a builder at block b that holds the bytes l -/
def BldIs (b : Nat) (l : List UInt8) (I : Own) : Prop := ∃ (p : Option Addr) (v : Value) (R : Own), (p = none ∨ p = some ⟨b, 0, none⟩) ∧ BufIs 5 v R l ∧ I = .obj b (cobj [.pointer p, v] 85) :: R
set_option maxRecDepth 100000 in
theorem copyCheck_fn (H : Hp) (b : Nat) (p : Option Addr) (v : Value) (hp : p = none ∨ p = some ⟨b, 0, none⟩) :
    Fn Tryz.prog 135 [.pointer (some ⟨b, 0, none⟩)] H [.obj b (cobj [.pointer p, v] 85)] fun _ H' I' => H' = H ∧ I' = [.obj b (cobj [.pointer (some ⟨b, 0, none⟩), v] 85)] := by
  rcases hp with rfl | rfl
  · refine Fn_of _ _ Tryz.func135 rfl Tryz.ntmps135 rfl fun c => ?_
    repeat' (first | refine O_nil ?_ | refine A_seq ?_ | refine A_region ?_ | (show opsA _ _ _ _ _ _ _; first | refine O_ev WideF.wide rfl (Ev_pure rfl) rfl rfl ?_ | (show opsA _ _ _ _ (⟨_, .load _ _, _, _, _, _⟩ :: _) _ _; refine O_ev WideF.wide rfl (Ev_loadO1 (i := 0) rfl rfl rfl) rfl rfl ?_) | (show opsA _ _ _ _ (⟨_, .fieldAddr _ _ _, _, _, _, _⟩ :: _) _ _; refine O_ev WideF.wide rfl (Ev_fieldAddr rfl rfl rfl) rfl rfl ?_) | (show opsA _ _ _ _ (⟨_, .call _, _, _, _, _⟩ :: _) _ _; refine O_ev WideF.wide rfl (Ev_ext rfl) rfl rfl ?_) | (show opsA _ _ _ _ (⟨_, .binOp _ _ _ _ _, _, _, _, _⟩ :: _) _ _; refine O_ev WideF.wide rfl (Ev_ptrnil rfl rfl) rfl rfl ?_) | (show opsA _ _ _ _ (⟨_, .convert _ _ _, _, _, _, _⟩ :: _) _ _; first | refine O_ev WideF.wide rfl (Ev_toUnsafe (i := 0) rfl rfl rfl rfl) rfl rfl ?_ | refine O_ev WideF.wide rfl (Ev_fromUnsafe (i := 0) rfl rfl rfl) rfl rfl ?_) | (show opsA _ _ _ _ (⟨_, .nilCheck _, _, _, _, _⟩ :: _) _ _; refine O_ev WideF.wide rfl (Ev_nilCheck rfl) rfl rfl ?_) | (show opsA _ _ _ _ (⟨_, .store _ _ _, _, _, _, _⟩ :: _) _ _; refine O_ef rfl (Ef_storeO1 WideF.wide rfl rfl rfl rfl rfl ?_))) | (show wpA _ _ _ (.cond _ _ _) _ _ _ _; refine A_iftrue rfl ?_))
    exact End_m (Ret0 rfl) ⟨rfl, rfl⟩
  · refine Fn_of _ _ Tryz.func135 rfl Tryz.ntmps135 rfl fun c => ?_
    repeat' (first | refine O_nil ?_ | refine A_seq ?_ | refine A_region ?_ | refine A_skip ?_ | (show opsA _ _ _ _ _ _ _; first | refine O_ev WideF.wide rfl (Ev_pure rfl) rfl rfl ?_ | (show opsA _ _ _ _ (⟨_, .load _ _, _, _, _, _⟩ :: _) _ _; refine O_ev WideF.wide rfl (Ev_loadO1 (i := 0) rfl rfl rfl) rfl rfl ?_) | (show opsA _ _ _ _ (⟨_, .fieldAddr _ _ _, _, _, _, _⟩ :: _) _ _; refine O_ev WideF.wide rfl (Ev_fieldAddr rfl rfl rfl) rfl rfl ?_) | (show opsA _ _ _ _ (⟨_, .binOp _ _ _ _ _, _, _, _, _⟩ :: _) _ _; first | refine O_ev WideF.wide rfl (Ev_ptrnil rfl rfl) rfl rfl ?_ | refine O_ev WideF.wide rfl (Ev_ptrsame rfl rfl) rfl rfl ?_) | (show opsA _ _ _ _ (⟨_, .nilCheck _, _, _, _, _⟩ :: _) _ _; refine O_ev WideF.wide rfl (Ev_nilCheck rfl) rfl rfl ?_)) | (show wpA _ _ _ (.cond _ _ _) _ _ _ _; refine A_iffalse rfl ?_))
    exact End_m (Ret0 rfl) ⟨rfl, rfl⟩
theorem BufIs.one {T : TypeId} {v : Value} {R : Own} {l : List UInt8} (h : BufIs T v R l) : v.oneCell' = true := by
  rcases h with ⟨rfl, _⟩ | ⟨b, cap, rest, rfl, _⟩ <;> rfl
theorem BldIs.new (b : Nat) : BldIs b [] [.obj b (cobj [.pointer none, .slice none 0 0] 85)] := ⟨none, _, [], .inl rfl, .inl ⟨rfl, rfl, rfl⟩, rfl⟩
set_option maxRecDepth 100000 in
theorem WriteString_fn (H : Hp) (b : Nat) (l s : List UInt8) (I : Own) (hI : BldIs b l I) (hl : l.length + s.length ≤ 70368744177664) :
    Fn Tryz.prog 91 [.pointer (some ⟨b, 0, none⟩), sv s] H I fun _ H' I' => H' = H ∧ BldIs b (l ++ s) I' := by
  obtain ⟨p, v, R, hp, hB, rfl⟩ := hI
  have hcc := copyCheck_fn H b p v hp
  refine Fn_of _ _ Tryz.func91 rfl Tryz.ntmps91 rfl fun c => ?_
  repeat' (first | (refine O_ef rfl (Ef_call (I := [_]) (M' := R) WideF.wide hcc ⟨rfl, trivial⟩ rfl ?_); rintro u H' I' hle ⟨rfl, rfl⟩) | (refine O_ef rfl (Ef_appendS1 WideF.wide rfl rfl hB rfl rfl hl rfl ?_); intro v' R' hB') | (refine O_ef rfl (Ef_storeO1 WideF.wide rfl rfl hB'.one rfl rfl ?_)) | refine O_nil ?_ | refine A_seq ?_ | refine A_region ?_ | refine A_ret ?_ | (show opsA _ _ _ _ _ _ _; first | refine O_ev WideF.wide rfl (Ev_pure rfl) rfl rfl ?_ | (show opsA _ _ _ _ (⟨_, .load _ _, _, _, _, _⟩ :: _) _ _; refine O_ev WideF.wide rfl (Ev_loadO1 (i := 0) rfl rfl rfl) rfl rfl ?_) | (show opsA _ _ _ _ (⟨_, .fieldAddr _ _ _, _, _, _, _⟩ :: _) _ _; refine O_ev WideF.wide rfl (Ev_fieldAddr rfl rfl rfl) rfl rfl ?_) | (show opsA _ _ _ _ (⟨_, .call _, _, _, _, _⟩ :: _) _ _; refine O_ev WideF.wide rfl (Ev_slen rfl) rfl rfl ?_) | (show opsA _ _ _ _ (⟨_, .nilCheck _, _, _, _, _⟩ :: _) _ _; refine O_ev WideF.wide rfl (Ev_nilCheck rfl) rfl rfl ?_)))
  exact End_m (Ret2 rfl rfl rfl) ⟨rfl, _, _, _, .inr rfl, hB', rfl⟩
set_option maxRecDepth 100000 in
theorem String_fn (H : Hp) (b : Nat) (l : List UInt8) (I : Own) (hI : BldIs b l I) (hl : l.length ≤ 70368744177664) :
    Fn Tryz.prog 49 [.pointer (some ⟨b, 0, none⟩)] H I fun v H' I' => v = sv l ∧ H' = H ∧ I' = [] := by
  obtain ⟨p, v, R, hp, hB, rfl⟩ := hI
  rcases hB with ⟨rfl, rfl, rfl⟩ | ⟨gb, cap, rest, rfl, rfl, hc, hc0, hlen⟩
  · refine Fn_of _ _ Tryz.func49 rfl Tryz.ntmps49 rfl fun c => ?_
    repeat' (first | ((refine A_drawi WideF.wide (.q 0 (.q 1 (.q 2 (.q 3 (.q 4 (.q 5 (.q 6 (.q 7 (.q 8 (.q 9 (.e 10 (.q 11 (.done []))))))))))))) [] [] [0] (by decide +kernel) (by decide) rfl ?_; simp only [Own.picks, Own.rget, List.cons_append, List.nil_append, List.append_nil])) | (refine D_ev rfl (Ev_sliceDataNil rfl) rfl rfl ?_) | (refine E_ef rfl (Ef_ev WideF.wide (Ev_strNil rfl rfl) rfl rfl ?_); refine ⟨Grow.same rfl rfl, ?_⟩) | refine O_nil ?_ | refine A_seq ?_ | refine A_region ?_ | refine A_ret ?_ | (show drJ _ _ _ _ _ _ _ (.q _ _) _; refine D_q rfl ?_) | (show drJ _ _ _ _ _ _ _ (.e _ _) _; refine D_e rfl ?_) | (show drJ _ _ _ _ _ _ _ (.done _) _; refine D_done ?_; simp only [List.cons_append, List.nil_append]) | (show drQ _ _ _ _ _ _; first | refine D_ev rfl (Ev_pure rfl) rfl rfl ?_ | (show drQ _ _ _ ⟨_, .load _ _, _, _, _, _⟩ _ _; refine D_ev rfl (Ev_loadO1 (i := 0) rfl rfl rfl) rfl rfl ?_) | (show drQ _ _ _ ⟨_, .fieldAddr _ _ _, _, _, _, _⟩ _ _; refine D_ev rfl (Ev_fieldAddr rfl rfl rfl) rfl rfl ?_) | (show drQ _ _ _ ⟨_, .call _, _, _, _, _⟩ _ _; refine D_ev rfl (Ev_llen rfl) rfl rfl ?_) | (show drQ _ _ _ ⟨_, .nilCheck _, _, _, _, _⟩ _ _; refine D_ev rfl (Ev_nilCheck rfl) rfl rfl ?_)) | (show opsA _ _ _ _ _ _ _; refine O_ev WideF.wide rfl (Ev_pure rfl) rfl rfl ?_))
    exact End_e (Ret1 rfl rfl) ⟨rfl, rfl, rfl⟩
  · refine Fn_of _ _ Tryz.func49 rfl Tryz.ntmps49 rfl fun c => ?_
    repeat' (first | ((refine A_drawi WideF.wide (.q 0 (.q 1 (.q 2 (.q 3 (.q 4 (.q 5 (.q 6 (.q 7 (.q 8 (.q 9 (.e 10 (.q 11 (.done []))))))))))))) [] [1] [0] (by decide +kernel) (by decide) rfl ?_; simp only [Own.picks, Own.rget, List.cons_append, List.nil_append, List.append_nil])) | (refine D_ev rfl (Ev_sliceData rfl hc0) rfl rfl ?_) | (refine E_ef rfl (Ef_bufString WideF.wide rfl rfl (by omega) rfl ?_); refine ⟨Grow.same rfl rfl, ?_⟩) | refine O_nil ?_ | refine A_seq ?_ | refine A_region ?_ | refine A_ret ?_ | (show drJ _ _ _ _ _ _ _ (.q _ _) _; refine D_q rfl ?_) | (show drJ _ _ _ _ _ _ _ (.e _ _) _; refine D_e rfl ?_) | (show drJ _ _ _ _ _ _ _ (.done _) _; refine D_done ?_; simp only [List.cons_append, List.nil_append]) | (show drQ _ _ _ _ _ _; first | refine D_ev rfl (Ev_pure rfl) rfl rfl ?_ | (show drQ _ _ _ ⟨_, .load _ _, _, _, _, _⟩ _ _; refine D_ev rfl (Ev_loadO1 (i := 0) rfl rfl rfl) rfl rfl ?_) | (show drQ _ _ _ ⟨_, .fieldAddr _ _ _, _, _, _, _⟩ _ _; refine D_ev rfl (Ev_fieldAddr rfl rfl rfl) rfl rfl ?_) | (show drQ _ _ _ ⟨_, .call _, _, _, _, _⟩ _ _; refine D_ev rfl (Ev_llen rfl) rfl rfl ?_) | (show drQ _ _ _ ⟨_, .nilCheck _, _, _, _, _⟩ _ _; refine D_ev rfl (Ev_nilCheck rfl) rfl rfl ?_)) | (show opsA _ _ _ _ _ _ _; refine O_ev WideF.wide rfl (Ev_pure rfl) rfl rfl ?_))
    exact End_e (Ret1 rfl rfl) ⟨rfl, rfl, rfl⟩
set_option maxRecDepth 100000 in
theorem WriteByte_fn {H : Hp} {b : Nat} {l : List UInt8} {u : UInt8} {I : Own} (hI : BldIs b l I) (hl : l.length ≤ 70368744177663) :
    Fn Tryz.prog 90 [.pointer (some ⟨b, 0, none⟩), .int .u8 (u.toNat : Int)] H I fun _ H' I' => H' = H ∧ BldIs b (l ++ [u]) I' := by
  obtain ⟨p, v, R, hp, hB, rfl⟩ := hI
  have hcc := copyCheck_fn H b p v hp
  refine Fn_of _ _ Tryz.func90 rfl Tryz.ntmps90 rfl fun c => ?_
  repeat' (first | (refine O_ef rfl (Ef_call (I := [_]) (M' := R) WideF.wide hcc ⟨rfl, trivial⟩ rfl ?_); rintro q H' I' hle ⟨rfl, rfl⟩) | (refine O_ef rfl (Ef_appendB1 WideF.wide rfl rfl hB rfl (by omega) (by omega) rfl ?_); intro v' R' hB') | (refine O_ef rfl (Ef_storeO1 WideF.wide rfl rfl hB'.one rfl rfl ?_)) | refine O_nil ?_ | refine A_seq ?_ | refine A_region ?_ | refine A_ret ?_ | (show opsA _ _ _ _ _ _ _; first | refine O_ev WideF.wide rfl (Ev_pure rfl) rfl rfl ?_ | (show opsA _ _ _ _ (⟨_, .load _ _, _, _, _, _⟩ :: _) _ _; refine O_ev WideF.wide rfl (Ev_loadO1 (i := 0) rfl rfl rfl) rfl rfl ?_) | (show opsA _ _ _ _ (⟨_, .fieldAddr _ _ _, _, _, _, _⟩ :: _) _ _; refine O_ev WideF.wide rfl (Ev_fieldAddr rfl rfl rfl) rfl rfl ?_) | (show opsA _ _ _ _ (⟨_, .buildSlice _ _ _, _, _, _, _⟩ :: _) _ _; (refine O_ef rfl (Ef_build11 WideF.wide rfl rfl rfl ?_); intro b)) | (show opsA _ _ _ _ (⟨_, .nilCheck _, _, _, _, _⟩ :: _) _ _; refine O_ev WideF.wide rfl (Ev_nilCheck rfl) rfl rfl ?_)))
  exact End_m (Ret1 rfl rfl) ⟨rfl, _, _, _, .inr rfl, hB', rfl⟩
set_option maxRecDepth 100000 in
theorem WriteByte_d {H : Hp} {b : Nat} {l : List UInt8} {u : UInt8} {I : Own} (hI : BldIs b l I) (hl : l.length ≤ 70368744177663) :
    DFn Tryz.prog 90 [.pointer (some ⟨b, 0, none⟩), .int .u8 (u.toNat : Int)] H I fun H' I' => H' = H ∧ BldIs b (l ++ [u]) I' := by
  obtain ⟨p, v, R, hp, hB, rfl⟩ := hI
  have hcc := copyCheck_fn H b p v hp
  refine DFn_of _ _ Tryz.func90 rfl Tryz.ntmps90 rfl fun c => ?_
  repeat' (first | (refine O_ef rfl (Ef_call (I := [_]) (M' := R) WideF.wide hcc ⟨rfl, trivial⟩ rfl ?_); rintro q H' I' hle ⟨rfl, rfl⟩) | (refine O_ef rfl (Ef_appendB1 WideF.wide rfl rfl hB rfl (by omega) (by omega) rfl ?_); intro v' R' hB') | (refine O_ef rfl (Ef_storeO1 WideF.wide rfl rfl hB'.one rfl rfl ?_)) | refine O_nil ?_ | refine A_seq ?_ | refine A_region ?_ | refine A_ret ?_ | (show opsA _ _ _ _ _ _ _; first | refine O_ev WideF.wide rfl (Ev_pure rfl) rfl rfl ?_ | (show opsA _ _ _ _ (⟨_, .load _ _, _, _, _, _⟩ :: _) _ _; refine O_ev WideF.wide rfl (Ev_loadO1 (i := 0) rfl rfl rfl) rfl rfl ?_) | (show opsA _ _ _ _ (⟨_, .fieldAddr _ _ _, _, _, _, _⟩ :: _) _ _; refine O_ev WideF.wide rfl (Ev_fieldAddr rfl rfl rfl) rfl rfl ?_) | (show opsA _ _ _ _ (⟨_, .buildSlice _ _ _, _, _, _, _⟩ :: _) _ _; (refine O_ef rfl (Ef_build11 WideF.wide rfl rfl rfl ?_); intro b)) | (show opsA _ _ _ _ (⟨_, .nilCheck _, _, _, _, _⟩ :: _) _ _; refine O_ev WideF.wide rfl (Ev_nilCheck rfl) rfl rfl ?_)))
  exact End_m (Ret1 rfl rfl) ⟨rfl, _, _, _, .inr rfl, hB', rfl⟩
theorem BufIs.sl {T : TypeId} {v : Value} {R : Own} {l : List UInt8} (h : BufIs T v R l) : ∃ a c, v = .slice a l.length c := by
  rcases h with ⟨rfl, _, rfl⟩ | ⟨b, cap, rest, rfl, _⟩
  · exact ⟨_, _, rfl⟩
  · exact ⟨_, _, rfl⟩
set_option maxRecDepth 100000 in
theorem Len_fn {H : Hp} {b : Nat} {l : List UInt8} {I : Own} (hI : BldIs b l I) : Fn Tryz.prog 48 [.pointer (some ⟨b, 0, none⟩)] H I fun v H' I' => v = .int .i64 l.length ∧ H' = H ∧ BldIs b l I' := by
  obtain ⟨p, v, R, hp, hB, rfl⟩ := hI
  obtain ⟨a, c, rfl⟩ := hB.sl
  refine Fn_of _ _ Tryz.func48 rfl Tryz.ntmps48 rfl fun c => ?_
  repeat' (first | refine O_nil ?_ | refine A_seq ?_ | refine A_region ?_ | refine A_ret ?_ | (show opsA _ _ _ _ _ _ _; first | refine O_ev WideF.wide rfl (Ev_pure rfl) rfl rfl ?_ | (show opsA _ _ _ _ (⟨_, .load _ _, _, _, _, _⟩ :: _) _ _; refine O_ev WideF.wide rfl (Ev_loadO1 (i := 0) rfl rfl rfl) rfl rfl ?_) | (show opsA _ _ _ _ (⟨_, .fieldAddr _ _ _, _, _, _, _⟩ :: _) _ _; refine O_ev WideF.wide rfl (Ev_fieldAddr rfl rfl rfl) rfl rfl ?_) | (show opsA _ _ _ _ (⟨_, .call _, _, _, _, _⟩ :: _) _ _; refine O_ev WideF.wide rfl (Ev_llen rfl) rfl rfl ?_) | (show opsA _ _ _ _ (⟨_, .nilCheck _, _, _, _, _⟩ :: _) _ _; refine O_ev WideF.wide rfl (Ev_nilCheck rfl) rfl rfl ?_)))
  exact End_m (Ret1 rfl rfl) ⟨rfl, rfl, p, _, R, hp, hB, rfl⟩
/-! ### styles -/
def wordL : List (List UInt8) := [[], [], [], [], [], [], [111, 114], [97, 110, 100], [], [61], [60, 62], [60], [60, 61], [62], [62, 61], [43], [45], [38], [42], [47], [37]]
/-- how an operation is written: its operator, its level, those of its arguments -/
def stl (op : Int) : List UInt8 × Int × Int × Int :=
  if op ≤ 5 then ([], 8, 0, 0) else if op = 6 then (wordL.getD op.toNat [], 1, 1, 2) else if op = 7 then (wordL.getD op.toNat [], 2, 2, 3) else if op = 8 then ([110, 111, 116, 32], 3, 3, 3)
  else if op ≤ 14 then (wordL.getD op.toNat [], 4, 5, 5) else if op ≤ 17 then (wordL.getD op.toNat [], 5, 5, 6) else if op ≤ 20 then (wordL.getD op.toNat [], 6, 6, 7) else ([45], 7, 7, 7)
abbrev rSt (s : List UInt8 × Int × Int × Int) : List Value := [sv s.1, .int .i64 s.2.1, .int .i64 s.2.2.1, .int .i64 s.2.2.2]
end Go.Proofs.YtnoadopmeoohmaaGreatDoor
