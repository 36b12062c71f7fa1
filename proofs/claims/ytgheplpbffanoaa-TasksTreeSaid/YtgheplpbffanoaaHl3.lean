/- The heap logic: how the model runs what the primitives stand for: cells read and written, sizes, parts. -/
import Derived.Test.YtgheplpbffanoaaHl2
namespace Go.Hl
section
variable {P : Program}

theorem run_sizeOf' {t : TypeId} {i : TypeInfo} (h : P.info? t = some i) (w : World) : (sizeOf t).run P w = .ok i.size w := by
  simp [sizeOf, typeInfo, h]

theorem run_size_ne {t : TypeId} (h : sizeP P t ≠ 0) (w : World) : (sizeOf t).run P w = .ok (sizeP P t) w := by
  unfold sizeP at *
  cases hi : P.info? t with
  | none => simp [hi] at h
  | some i => simp [run_sizeOf' hi]

theorem info_of_underlying {t : TypeId} {d : TypeDesc} (h : P.underlying t = some d) : ∃ i, P.info? t = some i := by
  unfold Program.underlying at h
  cases hi : P.info? t with
  | none => simp [hi] at h
  | some i => exact ⟨i, rfl⟩

theorem run_size_un {t : TypeId} {d : TypeDesc} (h : P.underlying t = some d) (w : World) : (sizeOf t).run P w = .ok (sizeP P t) w := by
  obtain ⟨i, hi⟩ := info_of_underlying h
  simp [run_sizeOf' hi, sizeP, hi]

theorem run_zero {t : TypeId} (h : zeroOk P t = true) (w : World) : ∃ z, (zeroValue t).run P w = .ok z w ∧ z.cells = (zc P t).toArray ∧ z.cells.size = sizeP P t ∧ (zc P t).length = sizeP P t := by
  unfold zeroOk at h
  cases hi : P.info? t with
  | none => simp [hi] at h
  | some i =>
    cases hz : i.zero with
    | none => simp [hi, hz] at h
    | some z =>
      simp [hi, hz] at h
      refine ⟨z, by simp [zeroValue, typeInfo, hi, hz], ?_, h, ?_⟩
      · simp [zc, hi, hz]
      · simp [zc, hi, hz, h]

def isAggD : TypeDesc → Bool
  | .struct _ | .array _ _ => true
  | _ => false

theorem run_isAgg {t : TypeId} {d : TypeDesc} (h : P.underlying t = some d) (w : World) : (isAgg t).run P w = .ok (isAggD d) w := by
  cases d <;> simp [isAgg, run_underlying h, isAggD]

theorem shape_agg {d : TypeDesc} (h : shapeD d = .agg) : isAggD d = true := by
  cases d <;> simp_all [shapeD, isAggD]

theorem shape_notAgg {d : TypeDesc} (h : shapeD d ≠ .agg) : isAggD d = false := by
  cases d <;> simp_all [shapeD, isAggD]

theorem add_zero' (a : Addr) : a.add 0 = a := rfl
theorem add_block (a : Addr) (n : Nat) : (a.add n).block = a.block := by unfold Addr.add; split <;> rfl
theorem add_off (a : Addr) (n : Nat) : (a.add n).off = a.off + n := by unfold Addr.add; split <;> simp_all
theorem add_spot {a : Addr} (h : a.spot = none) (n : Nat) : (a.add n).spot = none := by unfold Addr.add; split <;> simp_all

theorem row_cell {w : World} {b : Nat} {cs : List Value} {tot : Nat} (h : (Blk.row cs tot).At w.heap[b]?) {i : Nat} {v : Value} (hv : cs[i]? = some v) (sp : Option Nat) (hs : sp = none) :
    w.cell? ⟨b, i, sp⟩ = some v := by
  obtain ⟨s, ty, fr, ho, _, _⟩ := h
  subst hs
  have hi : i < cs.length := by
    rcases Nat.lt_or_ge i cs.length with k | k
    · exact k
    · rw [List.getElem?_eq_none k] at hv; cases hv
  simp [World.cell?, ho, List.getElem?_append_left hi, hv]

theorem cell_run {h : Heap} {w : World} (r : R h w) {a : Addr} {v : Value} (hc : h.cell a = some v) : w.cell? a = some v := by
  unfold Heap.cell at hc
  obtain ⟨b, off, spot⟩ := a
  cases spot with
  | some s => simp at hc
  | none =>
    simp only at hc
    cases hb : h b with
    | none => simp [hb] at hc
    | some x =>
      have hx := r b x hb
      cases x with
      | row cs tot => simp only [hb] at hc; exact row_cell hx hc none rfl
      | fix o =>
        cases o <;> simp only [hb] at hc <;> try cases hc
        simp only [Blk.At] at hx
        simp [World.cell?, hx, hc]
      | map es => simp [hb] at hc

theorem cut_some {cs xs : List Value} {off n : Nat} (h : cut cs off n = some xs) : xs.length = n ∧ off + n ≤ cs.length ∧ ∀ j, j < n → xs[j]? = cs[off + j]? := by
  unfold cut at h
  split at h
  · rename_i hl
    cases h
    refine ⟨by simp; omega, hl, fun j hj => ?_⟩
    rw [List.getElem?_take, if_pos hj, List.getElem?_drop]
  · cases h

theorem vals_cell {h : Heap} {a : Addr} {n : Nat} {xs : List Value} (hv : h.vals a n = some xs) : a.spot = none ∧ xs.length = n ∧ ∀ j v, xs[j]? = some v → h.cell (a.add j) = some v := by
  unfold Heap.vals at hv
  cases hs : a.spot with
  | some s => simp [hs] at hv
  | none =>
    simp only [hs] at hv
    cases hb : h a.block with
    | none => simp [hb] at hv
    | some x =>
      have key : ∀ cs : List Value, cut cs a.off n = some xs → xs.length = n ∧ ∀ j v, xs[j]? = some v → cs[a.off + j]? = some v := fun cs hc => by
        obtain ⟨h1, h2, h3⟩ := cut_some hc
        refine ⟨h1, fun j v hj => ?_⟩
        have hjn : j < n := by
          rcases Nat.lt_or_ge j n with k | k
          · exact k
          · rw [List.getElem?_eq_none (by omega)] at hj; cases hj
        rw [← h3 j hjn]; exact hj
      cases x with
      | row cs tot =>
        simp only [hb] at hv
        obtain ⟨h1, h2⟩ := key cs hv
        refine ⟨rfl, h1, fun j v hj => ?_⟩
        simp [Heap.cell, add_spot hs, add_block, hb, add_off, h2 j v hj]
      | fix o =>
        cases o <;> simp only [hb] at hv <;> try cases hv
        rename_i c t fr
        obtain ⟨h1, h2⟩ := key c.toList hv
        refine ⟨rfl, h1, fun j v hj => ?_⟩
        have := h2 j v hj
        simp [Heap.cell, add_spot hs, add_block, hb, add_off]
        simpa using this
      | map es => simp [hb] at hv

theorem vals_load {h : Heap} {w : World} (r : R h w) {a : Addr} {n : Nat} {xs : List Value} (hv : h.vals a n = some xs) : (loadCells a n).run P w = .ok xs.toArray w := by
  obtain ⟨_, h2, h3⟩ := vals_cell hv
  rw [← h2]
  exact run_loadCells_list w a xs fun j v hj => cell_run r (h3 j v hj)

theorem load_cell {h : Heap} {w : World} (r : R h w) {t : TypeId} {d : TypeDesc} (hu : P.underlying t = some d) (hd : isAggD d = false) {a : Addr} {v : Value} (hc : h.cell a = some v) :
    (loadVar t a).run P w = .ok v w := by
  simp [loadVar, run_isAgg hu, hd, cell_run r hc]

theorem load_agg {h : Heap} {w : World} (r : R h w) {t : TypeId} {d : TypeDesc} (hu : P.underlying t = some d) (hd : isAggD d = true) {a : Addr} {xs : List Value} (hc : h.vals a (sizeP P t) = some xs) :
    (loadVar t a).run P w = .ok (.agg xs.toArray) w := by
  simp [loadVar, run_isAgg hu, hd, run_size_un hu, vals_load r hc]

/- Writing. -/
theorem setCell_heap (w : World) (b off : Nat) (v : Value) (c : Array Value) (ty : TypeId) (fr : Nat × Nat) (h : w.heap[b]? = some (.cells c ty fr)) :
    (w.setCell ⟨b, off, none⟩ v).heap[b]? = some (.cells (c.setIfInBounds off v) ty fr) := by
  simp [World.setCell, Array.getElem?_modify, h]

theorem setCell_other (w : World) (b off : Nat) (v : Value) (i : Nat) (h : i ≠ b) : (w.setCell ⟨b, off, none⟩ v).heap[i]? = w.heap[i]? := by
  simp only [World.setCell, Array.getElem?_modify]
  rw [if_neg (by omega)]

theorem run_store1 {w : World} {b off : Nat} {v : Value} {c : Array Value} {ty : TypeId} {fr : Nat × Nat} (h : w.heap[b]? = some (.cells c ty fr)) (hc : Calm c.size fr)
    (ho : off < c.size) (hv : v.oneCell' = true) : (store ⟨b, off, none⟩ v).run P w = .ok () (w.setCell ⟨b, off, none⟩ v) := by
  have hf : w.frozen? ⟨b, off, none⟩ = false := by
    obtain ⟨lo, hi⟩ := fr
    simp only [World.frozen?, h, Bool.and_eq_false_iff, decide_eq_false_iff_not]
    rcases hc with hc | hc <;> simp at hc <;> omega
  have hcell : w.cell? ⟨b, off, none⟩ = some c[off] := by simp [World.cell?, h, ho]
  rw [run_store P w _ v _ hv, hcell]
  simp [hf]

/-- The world behind a store of these cells. -/
def putW (w : World) (b off : Nat) : List Value → World
  | [] => w
  | v :: r => putW (w.setCell ⟨b, off, none⟩ v) b (off + 1) r

theorem putW_same (b : Nat) : ∀ (vs : List Value) (off : Nat) (w : World), (putW w b off vs).os = w.os ∧ (putW w b off vs).tape = w.tape ∧ (putW w b off vs).output = w.output ∧ (putW w b off vs).heap.size = w.heap.size ∧ ∀ i, i ≠ b → (putW w b off vs).heap[i]? = w.heap[i]?
  | [], _, _ => ⟨rfl, rfl, rfl, rfl, fun _ _ => rfl⟩
  | v :: r, off, w => by
    obtain ⟨h1, h2, h3, h4, h5⟩ := putW_same b r (off + 1) (w.setCell ⟨b, off, none⟩ v)
    exact ⟨h1, h2, h3, h4.trans (by simp [World.setCell]), fun i hi => (h5 i hi).trans (setCell_other _ _ _ _ _ hi)⟩

theorem splice_cons (cs : List Value) (off : Nat) (v : Value) (r : List Value) (h : off < cs.length) : splice (cs.set off v) (off + 1) r = splice cs off (v :: r) := by
  unfold splice
  have e1 : (cs.set off v).take (off + 1) = cs.take off ++ [v] := by
    rw [List.take_add_one]
    simp [List.take_set_of_le, h]
  have e2 : (cs.set off v).drop (off + 1 + r.length) = cs.drop (off + (v :: r).length) := by
    rw [List.drop_set_of_lt (by omega)]
    congr 1; simp; omega
  rw [e1, e2]; simp

theorem splice_length (cs : List Value) (off : Nat) (vs : List Value) (h : off + vs.length ≤ cs.length) : (splice cs off vs).length = cs.length := by
  unfold splice; simp; omega

theorem splice_nil (cs : List Value) (off : Nat) : splice cs off [] = cs := by simp [splice]

theorem putW_heap (b : Nat) (ty : TypeId) (fr : Nat × Nat) : ∀ (vs : List Value) (off : Nat) (w : World) (c : List Value), w.heap[b]? = some (.cells c.toArray ty fr) → off + vs.length ≤ c.length →
    (putW w b off vs).heap[b]? = some (.cells (splice c off vs).toArray ty fr)
  | [], off, w, c, h, _ => by rw [splice_nil]; exact h
  | v :: r, off, w, c, h, hl => by
    have h1 := setCell_heap w b off v c.toArray ty fr h
    have := putW_heap b ty fr r (off + 1) (w.setCell ⟨b, off, none⟩ v) (c.set off v) (by rw [h1]; simp) (by simp at hl ⊢; omega)
    rw [splice_cons c off v r (by simp at hl; omega)] at this
    exact this

theorem run_storeCells' (b : Nat) (ty : TypeId) (fr : Nat × Nat) : ∀ (vs : List Value) (i off : Nat) (w : World) (c : List Value), w.heap[b]? = some (.cells c.toArray ty fr) → Calm c.length fr → off + i + vs.length ≤ c.length → oneCells vs →
    (storeCells ⟨b, off, none⟩ vs i).run P w = .ok () (putW w b (off + i) vs)
  | [], _, _, _, _, _, _, _, _ => rfl
  | v :: r, i, off, w, c, h, hc, hl, h1 => by
    have hadd : (⟨b, off, none⟩ : Addr).add i = ⟨b, off + i, none⟩ := by unfold Addr.add; split <;> simp_all
    have hs := run_store1 (P := P) (off := off + i) (v := v) h (by simpa using hc) (by simp at hl ⊢; omega) (h1 v (by simp))
    have ih := run_storeCells' b ty fr r (i + 1) off (w.setCell ⟨b, off + i, none⟩ v) (c.set (off + i) v) (by rw [setCell_heap w b _ v _ ty fr h]; simp) (by simpa using hc) (by simp at hl ⊢; omega) (fun x hx => h1 x (by simp [hx]))
    simp only [storeCells, Sem.run_bind, hadd, hs, Result.andThen_ok, ih, putW]
    rw [show off + (i + 1) = off + i + 1 by omega]

/-- A store of cells into a block that is known, at a place whose cells are there (known, or not yet). -/
theorem store_cells {h : Heap} {w : World} (r : R h w) {a : Addr} {cs : List Value} {tot : Nat} (hs : a.spot = none) (hb : h a.block = some (.row cs tot)) {vs : List Value} (h1 : oneCells vs)
    {off : Nat} (ho : off ≤ cs.length) (hl : off + vs.length ≤ tot) (hoff : off = a.off) :
    ∃ w', (storeCells a vs).run P w = .ok () w' ∧ R (h.set a.block (.row (splice cs off vs) tot)) w' ∧ Fr h w (h.set a.block (.row (splice cs off vs) tot)) w' := by
  obtain ⟨b, o, s⟩ := a
  simp only at hs hoff
  subst hs; subst hoff
  obtain ⟨sp, ty, fr, ho', hlen, hc⟩ := r _ _ hb
  simp only at hb ho'
  have hlen' : (cs ++ sp).length = tot := hlen
  refine ⟨putW w b off vs, ?_, ?_, ?_⟩
  · have := run_storeCells' (P := P) b ty fr vs 0 off w (cs ++ sp) ho' (by rw [hlen']; exact hc) (by omega) h1
    simpa using this
  · obtain ⟨_, _, _, _, h5⟩ := putW_same b vs off w
    intro i x hi
    by_cases hib : i = b
    · subst hib
      simp only [Heap.set_same] at hi
      cases hi
      have hp := putW_heap i ty fr vs off w (cs ++ sp) ho' (by omega)
      refine ⟨(cs ++ sp).drop (max cs.length (off + vs.length)), ty, fr, ?_, ?_, hc⟩
      · rw [hp]
        congr 3
        unfold splice
        rw [List.take_append_of_le_length ho]
        simp only [List.append_assoc]
        congr 2
        rw [List.drop_append]
        by_cases hcase : off + vs.length ≤ cs.length
        · rw [Nat.max_eq_left hcase, show off + vs.length - cs.length = 0 by omega]; simp
        · rw [Nat.max_eq_right (by omega), List.drop_eq_nil_of_le (by omega : cs.length ≤ off + vs.length)]
          rw [List.drop_append, List.drop_eq_nil_of_le (by omega : cs.length ≤ off + vs.length)]
          simp
      · have := hlen'
        simp only [splice, List.length_append, List.length_take, List.length_drop] at *
        omega
    · rw [Heap.set_ne _ _ hib] at hi
      rw [h5 i hib]
      exact r _ _ hi
  · obtain ⟨h1, h2, h3, h4, h5⟩ := putW_same b vs off w
    refine ⟨h1, h2, h3, Nat.le_of_eq h4.symm, fun i hi hq => ?_⟩
    by_cases hib : i = b
    · subst hib
      rw [hb] at hq
      rcases hq with hq | ⟨ob, hq⟩ <;> cases hq
    · exact ⟨h5 i hib, .inr (Heap.set_ne _ _ hib)⟩

/-- A new block. -/
theorem new_block {h : Heap} {w w' : World} (r : R h w) {cs sp : List Value} {ty : TypeId} {fr : Nat × Nat} (hw : w'.heap = w.heap.push (.cells (cs ++ sp).toArray ty fr)) (ho : w'.os = w.os) (ht : w'.tape = w.tape) (hu : w'.output = w.output)
    (hc : Calm (cs ++ sp).length fr) :
    R (h.set w.heap.size (.row cs (cs ++ sp).length)) w' ∧ Fr h w (h.set w.heap.size (.row cs (cs ++ sp).length)) w' := by
  refine ⟨fun i x hi => ?_, ho, ht, hu, by rw [hw]; simp, fun i hi hq => ?_⟩
  · by_cases hib : i = w.heap.size
    · subst hib
      simp only [Heap.set_same] at hi; cases hi
      rw [hw]
      exact ⟨sp, ty, fr, by simp, rfl, hc⟩
    · rw [Heap.set_ne _ _ hib] at hi
      have hlt := r.lt hi
      rw [hw, Array.getElem?_push, if_neg (by omega)]
      exact r _ _ hi
  · have hib : i ≠ w.heap.size := by omega
    rw [Heap.set_ne _ _ hib]
    refine ⟨?_, .inr rfl⟩
    rw [hw, Array.getElem?_push, if_neg (by omega)]

end
end Go.Hl
