/- The heap logic: literals of structs, arrays and slices. -/
import Derived.Test.YtgheplpbffanoaaHl4
import Derived.Laws.Tables
namespace Go.Hl

theorem foldl_splice : ∀ (vs : List Value) (n off : Nat) (cs : List Value), off + n + vs.length ≤ cs.length →
    (vs.zipIdx n).foldl (fun (cs : Array Value) (x : Value × Nat) => cs.setIfInBounds (off + x.2) x.1) cs.toArray = (splice cs (off + n) vs).toArray
  | [], n, off, cs, _ => by simp [splice_nil]
  | v :: r, n, off, cs, h => by
    simp only [List.length_cons] at h
    simp only [List.zipIdx_cons, List.foldl_cons]
    have : cs.toArray.setIfInBounds (off + n) v = (cs.set (off + n) v).toArray := by simp
    rw [this, foldl_splice r (n + 1) off (cs.set (off + n) v) (by simp; omega), show off + (n + 1) = off + n + 1 by omega, splice_cons _ _ _ _ (by omega)]

def laid (cs : List Value) (off : Nat) (v : Value) : List Value := match v with | .agg xs => splice cs off xs.toList | v => cs.set off v

theorem lay_cons (cs : List Value) (off : Nat) (v : Value) (r : List (Nat × Value)) : lay cs ((off, v) :: r) = lay (laid cs off v) r := rfl

theorem splice_one (cs : List Value) (off : Nat) (v : Value) (h : off < cs.length) : splice cs off [v] = cs.set off v := by
  rw [← splice_cons cs off v [] h, splice_nil]

theorem laid_eq (cs : List Value) (off : Nat) (v : Value) (h : off + v.cells.size ≤ cs.length) : laid cs off v = splice cs off v.cells.toList := by
  unfold laid
  cases v <;> simp only [Value.cells] at h ⊢ <;> first
    | rfl
    | (simp only [List.size_toArray, List.length_cons, List.length_nil] at h; exact (splice_one cs off _ (by omega)).symm)

theorem fill_lay (place : Nat → Option (Nat × Nat)) : ∀ (parts : List (Nat × Value)) (ps : List (Nat × Nat × Value)) (cs : List Value),
    parts.map (fun p => (place p.1).map fun q => (q.1, q.2, p.2)) = ps.map some → (∀ p ∈ ps, p.2.2.cells.size = p.2.1 ∧ p.1 + p.2.1 ≤ cs.length) →
    Instr.fill place cs.toArray parts = some (lay cs (ps.map fun p => (p.1, p.2.2))).toArray
  | [], [], cs, _, _ => rfl
  | [], _ :: _, _, h, _ => by simp at h
  | _ :: _, [], _, h, _ => by simp at h
  | (i, v) :: parts, (off, size, v') :: ps, cs, h, hok => by
    simp only [List.map_cons, List.cons.injEq] at h
    obtain ⟨h1, h2⟩ := h
    cases hp : place i with
    | none => simp [hp] at h1
    | some q =>
      obtain ⟨qo, qs⟩ := q
      simp only [hp, Option.map_some, Option.some.injEq, Prod.mk.injEq] at h1
      obtain ⟨rfl, rfl, rfl⟩ := h1
      obtain ⟨hsz, hin⟩ := hok _ (List.mem_cons_self ..)
      simp only at hsz hin
      simp only [Instr.fill, hp, hsz]
      rw [if_neg (by simp; omega)]
      have hf := foldl_splice v.cells.toList 0 qo cs (by simp [hsz]; omega)
      have e : (v.cells.zipIdx.foldl (fun cs (x : Value × Nat) => cs.setIfInBounds (qo + x.2) x.1) cs.toArray) = (splice cs qo v.cells.toList).toArray := by
        rw [← Array.foldl_toList, Array.toList_zipIdx, hf]; rfl
      have e2 : (v.cells.zipIdx.foldl (fun (cs : Array Value) (x : Value × Nat) => match x with | (c, j) => cs.setIfInBounds (qo + j) c) cs.toArray) = (splice cs qo v.cells.toList).toArray := e
      simp only [List.map_cons, lay_cons, laid_eq cs qo v (by omega)]
      have ih := fill_lay place parts ps (splice cs qo v.cells.toList) h2 (fun p hp => by
        have := hok p (List.mem_cons_of_mem _ hp)
        rwa [splice_length _ _ _ (by simp [hsz]; omega)])
      rw [← ih]
      congr 1

theorem pFits_all {p : Pr} {h : Heap} : ∀ {l : List (Nat × Value)}, pFits l p h → (∀ x ∈ l, x.2.cells.size = x.1) ∧ p h
  | [], s => ⟨by simp, s⟩
  | (size, v) :: r, s => by
    by_cases hv : ∃ xs, v = .agg xs
    · obtain ⟨xs, rfl⟩ := hv
      simp only [pFits] at s
      obtain ⟨h1, s⟩ := s
      obtain ⟨h2, s⟩ := pFits_all s
      refine ⟨fun x hx => ?_, s⟩
      rcases List.mem_cons.1 hx with rfl | hx
      · simpa [Value.cells] using h1
      · exact h2 x hx
    · have hc : v.cells.size = 1 := by cases v <;> first | rfl | exact absurd ⟨_, rfl⟩ hv
      by_cases h1 : size = 1
      · subst h1
        have s' : pFits r p h := by cases v <;> first | exact s | exact absurd ⟨_, rfl⟩ hv
        obtain ⟨h2, s⟩ := pFits_all s'
        refine ⟨fun x hx => ?_, s⟩
        rcases List.mem_cons.1 hx with rfl | hx
        · exact hc
        · exact h2 x hx
      · exfalso
        cases v <;> first | exact absurd ⟨_, rfl⟩ hv | skip
        all_goals
          rcases size with _ | _ | n
          · exact s
          · exact absurd rfl h1
          · exact s

theorem inRange_all {n : Nat} {ps : List (Nat × Nat × Value)} (h : inRange n ps = true) : ∀ p ∈ ps, p.1 + p.2.1 ≤ n := by
  unfold inRange at h
  intro p hp
  simpa using List.all_eq_true.1 h p hp

theorem placesOf_eq {P : Program} {fs : Array Field} : ∀ {parts : List (Nat × Value)} {ps : List (Nat × Nat × Value)}, placesOf P fs parts = some ps →
    parts.map (fun p => ((fs.toList.map fun (f : Field) => (f.offset, sizeP P f.type)).toArray[p.1]?).map fun q => (q.1, q.2, p.2)) = ps.map some
  | [], ps, h => by simp [placesOf] at h; subst h; rfl
  | (i, v) :: r, ps, h => by
    simp only [placesOf, List.mapM_cons] at h
    cases hf : fs[i]? with
    | none => simp [hf] at h
    | some f =>
      simp only [hf, Option.map_some, Option.bind_eq_bind, Option.bind_some] at h
      cases hr : placesOf P fs r with
      | none => simp only [placesOf] at hr; simp [hr] at h
      | some ps' =>
        have hr' := hr
        simp only [placesOf] at hr
        simp only [hr, Option.bind_some, Option.pure_def, Option.some.injEq] at h
        subst h
        have := placesOf_eq (P := P) (fs := fs) (parts := r) (ps := ps') hr'
        simp only [List.map_cons, this, List.cons.injEq, and_true]
        simp [hf]

section
variable {P : Program} {o : Oper} {e : Operand → EV} {KP k : Value → Pr} {h : Heap}

theorem places_mapM : ∀ (fs : List Field), fs.all (fun f => (P.info? f.type).isSome) = true →
    fs.mapM (fun f => (P.info? f.type).map fun i => (f.offset, i.size)) = some (fs.map fun f => (f.offset, sizeP P f.type))
  | [], _ => by simp
  | f :: r, hh => by
    simp only [List.all_cons, Bool.and_eq_true] at hh
    obtain ⟨i, hi⟩ := Option.isSome_iff_exists.1 hh.1
    simp [List.mapM_cons, hi, places_mapM r hh.2, sizeP]

theorem zero_info {t : TypeId} (hz : zeroOk P t = true) : ∃ i z, P.info? t = some i ∧ i.zero = some z ∧ z.cells = (zc P t).toArray ∧ (zc P t).length = sizeP P t := by
  unfold zeroOk at hz
  cases hi : P.info? t with
  | none => simp [hi] at hz
  | some i =>
    cases hzz : i.zero with
    | none => simp [hi, hzz] at hz
    | some z =>
      simp [hi, hzz] at hz
      exact ⟨i, z, rfl, hzz, by simp [zc, hi, hzz], by simp [zc, hi, hzz, hz]⟩

theorem run_build_struct {t : TypeId} {fs : Array Field} (hz : zeroOk P t = true) (hu : P.underlying t = some (.struct fs)) (hfs : fs.toList.all (fun f => (P.info? f.type).isSome) = true) {parts : List (Nat × Value)} {ps : List (Nat × Nat × Value)}
    (hp : placesOf P fs parts = some ps) (hr : inRange (sizeP P t) ps = true) (hs : ∀ x ∈ ps, x.2.2.cells.size = x.2.1) (w : World) :
    (Instr.build t parts.toArray).run P w = .ok (.agg (lay (zc P t) (ps.map fun p => (p.1, p.2.2))).toArray) w := by
  obtain ⟨i, z, hi, hz1, hz2, hz4⟩ := zero_info hz
  refine run_build w t _ _ ?_
  simp only [Program.built, hi, hu, hz1, places_mapM fs.toList hfs, hz2]
  exact fill_lay _ parts ps (zc P t) (placesOf_eq hp) (fun p hpm => ⟨hs p hpm, by rw [hz4]; exact inRange_all hr p hpm⟩)

theorem run_build_array {t el : TypeId} {n : Nat} (hz : zeroOk P t = true) (hu : P.underlying t = some (.array n el)) (hi : (P.info? el).isSome = true) {parts : List (Nat × Value)} {ps : List (Nat × Nat × Value)}
    (hp : ps = parts.map fun p => (p.1 * sizeP P el, sizeP P el, p.2)) (hr : inRange (sizeP P t) ps = true) (hs : ∀ x ∈ ps, x.2.2.cells.size = x.2.1) (w : World) :
    (Instr.build t parts.toArray).run P w = .ok (.agg (lay (zc P t) (ps.map fun p => (p.1, p.2.2))).toArray) w := by
  obtain ⟨i, z, hi', hz1, hz2, hz4⟩ := zero_info hz
  obtain ⟨ie, hie⟩ := Option.isSome_iff_exists.1 hi
  have hsz : ie.size = sizeP P el := by simp [sizeP, hie]
  refine run_build w t _ _ ?_
  simp only [Program.built, hi', hu, hz1, hie, hz2, hsz]
  exact fill_lay _ parts ps (zc P t) (by subst hp; simp) (fun p hpm => ⟨hs p hpm, by rw [hz4]; exact inRange_all hr p hpm⟩)

theorem zeros_reps (n : Nat) (zs : List Value) (size : Nat) (hs : zs.length = size) : ((Array.range (n * size)).map (fun i => zs.toArray[i % zs.toArray.size]!)) = (reps n zs).toArray := by
  apply Array.ext'
  simp only [Array.toList_map, Array.toList_range, List.size_toArray, hs]
  unfold reps
  induction n with
  | zero => simp
  | succ n ih =>
    rw [List.replicate_succ', List.flatten_append, Nat.succ_mul, List.range_add, List.map_append, ih]
    congr 1
    simp only [List.flatten_cons, List.flatten_nil, List.append_nil, List.map_map]
    apply List.ext_getElem
    · simp [hs]
    · intro i h1 h2
      simp at h1
      simp [h1, hs, Nat.mod_eq_of_lt h1]

theorem run_buildSlice' {t el : TypeId} {n : Nat} (hz : zeroOk P el = true) (hu : P.underlying t = some (.slice el)) (h0 : sizeP P el ≠ 0) (hn : n * sizeP P el ≤ 16777216) {parts : List (Nat × Value)} {ps : List (Nat × Nat × Value)}
    (hp : ps = parts.map fun p => (p.1 * sizeP P el, sizeP P el, p.2)) (hr : inRange (n * sizeP P el) ps = true) (hs : ∀ x ∈ ps, x.2.2.cells.size = x.2.1) (w : World) :
    (Instr.buildSlice t n parts.toArray).run P w = .ok (.slice (some ⟨w.heap.size, 0, none⟩) n n) (w.alloc (.cells (lay (reps n (zc P el)) (ps.map fun p => (p.1, p.2.2))).toArray el)) := by
  obtain ⟨z, hz1, hz2, hz3, hz4⟩ := run_zero hz w
  have hrl : (reps n (zc P el)).length = n * sizeP P el := by simp [reps, hz4]
  have hfill := fill_lay (fun i => some (i * sizeP P el, sizeP P el)) parts ps (reps n (zc P el)) (by subst hp; simp) (fun p hpm => ⟨hs p hpm, by rw [hrl]; exact inRange_all hr p hpm⟩)
  simp only [Instr.buildSlice, Sem.run_bind, run_underlying hu, Result.andThen_ok, run_size_ne h0]
  rw [if_neg (by omega)]
  by_cases hn0 : n = 0
  · subst hn0
    have he : (reps 0 (zc P el)) = [] := rfl
    have hfill' : Instr.fill (fun i => some (i * sizeP P el, sizeP P el)) #[] parts = some (lay (reps 0 (zc P el)) (ps.map fun p => (p.1, p.2.2))).toArray := by rw [← hfill, he]
    simp only [Nat.zero_mul, if_true, Sem.run_bind, Sem.run_pure, Result.andThen_ok]
    have hr0 : (Array.range 0).map (fun i => (#[] : Array Value)[i % (#[] : Array Value).size]!) = #[] := by apply Array.ext' ; simp
    simp only [hr0, hfill', Sem.run_bind]
    simp [newRow]
  · rw [if_neg (show ¬ n * sizeP P el = 0 from Nat.mul_ne_zero hn0 h0)]
    simp only [Sem.run_bind, hz1, Result.andThen_ok, Sem.run_pure, hz2]
    rw [zeros_reps n (zc P el) (sizeP P el) hz4]
    simp only [hfill]
    simp [newRow]

end
end Go.Hl
