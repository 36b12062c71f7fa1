/- The heap logic: what the user's steps lean on: cells of rows of records. -/
import Derived.Test.YtgheplpbffanoaaHl13
import Derived.IntWalk
set_option linter.unusedSectionVars false
namespace Go.Hl

@[simp] theorem add_mk (b o n : Nat) : (⟨b, o, none⟩ : Addr).add n = ⟨b, o + n, none⟩ := by unfold Addr.add; split <;> simp_all

theorem cell_row {h : Heap} {b : Nat} {cs : List Value} {tot : Nat} (hb : h b = some (.row cs tot)) (o : Nat) : h.cell ⟨b, o, none⟩ = cs[o]? := by simp [Heap.cell, hb]
theorem vals_row {h : Heap} {b : Nat} {cs : List Value} {tot : Nat} (hb : h b = some (.row cs tot)) (o n : Nat) : h.vals ⟨b, o, none⟩ n = cut cs o n := by simp [Heap.vals, hb]
theorem cut_all (cs : List Value) : cut cs 0 cs.length = some cs := by simp [cut]
theorem cut_all' {cs : List Value} {n : Nat} (h : cs.length = n) : cut cs 0 n = some cs := by subst h; exact cut_all cs

theorem set_new_ne {h : Heap} {b i : Nat} {x y : Blk} (hb : h b = none) (hi : h i = some y) : (h.set b x) i = some y := by
  rw [Heap.set_ne _ _ (fun e => by subst e; rw [hb] at hi; cases hi)]; exact hi
theorem ne_new {h : Heap} {b i : Nat} {y : Blk} (hb : h b = none) (hi : h i = some y) : i ≠ b := fun e => by subst e; rw [hb] at hi; cases hi

/- Rows of records: n cells each. -/
section
variable {α : Type} (enc : α → List Value) (n : Nat) (he : ∀ x, (enc x).length = n)
include he

theorem flat_len (l : List α) : (l.flatMap enc).length = l.length * n := by
  induction l with
  | nil => simp
  | cons x r ih => simp [List.flatMap_cons, ih, he, Nat.succ_mul, Nat.add_comm]

theorem flat_drop (l : List α) (i : Nat) : (l.flatMap enc).drop (i * n) = (l.drop i).flatMap enc := by
  induction i generalizing l with
  | zero => simp
  | succ i ih =>
    cases l with
    | nil => simp
    | cons x r =>
      rw [List.flatMap_cons, Nat.succ_mul, Nat.add_comm, ← List.drop_drop, List.drop_append_of_le_length (by rw [he]; exact Nat.le_refl _)]
      rw [show (enc x).drop n = [] from List.drop_eq_nil_of_le (by rw [he]; exact Nat.le_refl _)]
      simpa using ih r

theorem flat_take (l : List α) (i : Nat) : (l.flatMap enc).take (i * n) = (l.take i).flatMap enc := by
  induction i generalizing l with
  | zero => simp
  | succ i ih =>
    cases l with
    | nil => simp
    | cons x r =>
      have : (enc x ++ r.flatMap enc).take ((i + 1) * n) = enc x ++ (r.flatMap enc).take (i * n) := by
        rw [List.take_append, he, show (i + 1) * n - n = i * n by rw [Nat.succ_mul]; omega, List.take_of_length_le (by rw [he, Nat.succ_mul]; omega)]
      rw [List.flatMap_cons, this, ih]
      simp

theorem flat_split (l : List α) (i : Nat) (hi : i < l.length) : l.flatMap enc = (l.take i).flatMap enc ++ (enc l[i] ++ (l.drop (i + 1)).flatMap enc) := by
  have e : l = l.take i ++ (l[i] :: l.drop (i + 1)) := by rw [← List.drop_eq_getElem_cons hi, List.take_append_drop]
  have := congrArg (List.flatMap enc) e
  rw [List.flatMap_append, List.flatMap_cons] at this
  exact this

theorem flat_get (l : List α) (i k : Nat) (hi : i < l.length) (hk : k < n) : (l.flatMap enc)[i * n + k]? = (enc l[i])[k]? := by
  rw [← List.getElem?_drop, flat_drop enc n he, List.drop_eq_getElem_cons hi, List.flatMap_cons, List.getElem?_append_left (by rw [he]; exact hk)]

theorem flat_cut (l : List α) (i k m : Nat) (hi : i < l.length) (hk : k + m ≤ n) : cut (l.flatMap enc) (i * n + k) m = cut (enc l[i]) k m := by
  have h1 : (i + 1) * n ≤ l.length * n := Nat.mul_le_mul_right _ hi
  rw [Nat.succ_mul] at h1
  unfold cut
  rw [if_pos (by rw [flat_len enc n he]; omega), if_pos (by rw [he]; exact hk)]
  congr 1
  rw [← List.drop_drop, flat_drop enc n he, List.drop_eq_getElem_cons hi, List.flatMap_cons, List.drop_append_of_le_length (by rw [he]; omega), List.take_append_of_le_length (by rw [List.length_drop, he]; omega)]

theorem flat_part (l : List α) (i : Nat) (hi : i < l.length) : ((l.flatMap enc).drop (i * n)).take n = enc l[i] := by
  rw [flat_drop enc n he, List.drop_eq_getElem_cons hi, List.flatMap_cons, List.take_append_of_le_length (by rw [he]; exact Nat.le_refl _), List.take_of_length_le (by rw [he]; exact Nat.le_refl _)]

theorem flat_set (l : List α) (i k : Nat) (v : Value) (x : α) (hi : i < l.length) (hk : k < n) (hx : enc x = (enc l[i]).set k v) : (l.flatMap enc).set (i * n + k) v = (l.set i x).flatMap enc := by
  have hl : ((l.take i).flatMap enc).length = i * n := by rw [flat_len enc n he, List.length_take]; congr 1; omega
  rw [flat_split enc n he l i hi, List.set_append_right _ _ (by rw [hl]; omega), hl, Nat.add_sub_cancel_left, List.set_append_left _ _ (by rw [he]; exact hk), ← hx]
  rw [List.set_eq_take_append_cons_drop, if_pos hi]
  simp

theorem flat_splice (l : List α) (i k : Nat) (vs : List Value) (x : α) (hi : i < l.length) (hk : k + vs.length ≤ n) (hx : enc x = splice (enc l[i]) k vs) : splice (l.flatMap enc) (i * n + k) vs = (l.set i x).flatMap enc := by
  have hl : ((l.take i).flatMap enc).length = i * n := by rw [flat_len enc n he, List.length_take]; congr 1; omega
  rw [flat_split enc n he l i hi]
  unfold splice at *
  rw [List.take_append, hl, Nat.add_sub_cancel_left, List.take_of_length_le (by rw [hl]; omega), List.take_append_of_le_length (by rw [he]; omega)]
  rw [List.drop_append, hl, List.drop_eq_nil_of_le (by rw [hl]; omega : ((l.take i).flatMap enc).length ≤ i * n + k + vs.length), List.nil_append,
    show i * n + k + vs.length - i * n = k + vs.length by omega, List.drop_append_of_le_length (by rw [he]; exact hk)]
  rw [List.set_eq_take_append_cons_drop, if_pos hi, List.flatMap_append, List.flatMap_cons, hx]
  simp
end

/- The primitives, as rules. -/
section
variable {h : Heap} {p q : Pr}
theorem pIf_t {c : Bool} (hc : c = true) (hp : p h) : pIf c p q h := ⟨fun _ => hp, fun e => (by rw [hc] at e; cases e)⟩
theorem pIf_f {c : Bool} (hc : c = false) (hq : q h) : pIf c p q h := ⟨fun e => (by rw [hc] at e; cases e), fun _ => hq⟩
theorem pIf_i {c : Bool} (hp : c = true → p h) (hq : c = false → q h) : pIf c p q h := ⟨hp, hq⟩
theorem pLd_i {s : Shape} {a : Addr} {k : s.T → Pr} (x : s.T) (hv : h.cell a = some (s.inj x)) (hk : k x h) : pLd s a k h := ⟨x, hv, hk⟩
theorem pLdA_i {n : Nat} {a : Addr} {k : List Value → Pr} {cs : List Value} (hv : h.vals a n = some cs) (hk : k cs h) : pLdA n a k h := ⟨cs, hv, hk⟩
theorem pSome_i {x : Option Addr} {k : Addr → Pr} {a : Addr} (hx : x = some a) (hk : k a h) : pSome x k h := ⟨a, hx, hk⟩
theorem pIdx_i {i : Int} {n : Nat} (h0 : 0 ≤ i) (h1 : i < n) (hp : p h) : pIdx i n p h := ⟨h0, h1, hp⟩
theorem pAssert_i {φ : Prop} (hf : φ) (hp : p h) : pAssert φ p h := ⟨hf, hp⟩
theorem pKeep_i {f : Pr} (hf : f h) (hp : p h) : pKeep f p h := ⟨hf, hp⟩
theorem pSt_i {b o : Nat} {v : Value} {cs : List Value} {tot : Nat} (hb : h b = some (.row cs tot)) (ho : o < cs.length) (h1 : v.oneCell' = true) (hp : p (h.set b (.row (cs.set o v) tot))) : pSt ⟨b, o, none⟩ v p h :=
  ⟨cs, tot, rfl, hb, ho, h1, hp⟩
theorem pStA_i {n b o : Nat} {vs cs : List Value} {tot : Nat} (hb : h b = some (.row cs tot)) (ho : o + n ≤ cs.length) (hl : vs.length = n) (h1 : oneCells vs) (hp : p (h.set b (.row (splice cs o vs) tot))) : pStA n ⟨b, o, none⟩ vs p h :=
  ⟨cs, tot, rfl, hb, ho, hl, h1, hp⟩
theorem splice_whole {cs vs : List Value} (h : vs.length = cs.length) : splice cs 0 vs = vs := by unfold splice; simp [h]
/-- A variable is written whole. -/
theorem pStA_whole {n b : Nat} {vs cs : List Value} {tot : Nat} (hb : h b = some (.row cs tot)) (hc : cs.length = n) (hl : vs.length = n) (h1 : oneCells vs) (hp : p (h.set b (.row vs tot))) : pStA n ⟨b, 0, none⟩ vs p h :=
  pStA_i hb (by omega) hl h1 (by rw [splice_whole (by omega)]; exact hp)
/-- A new variable that is written whole at once. -/
theorem pStA_new {n b : Nat} {vs cs : List Value} {tot : Nat} (hc : cs.length = n) (hl : vs.length = n) (h1 : oneCells vs) (hp : p (h.set b (.row vs tot))) : pStA n ⟨b, 0, none⟩ vs p (h.set b (.row cs tot)) :=
  pStA_whole (Heap.set_same _ _ _) hc hl h1 (by rw [Heap.set_set]; exact hp)
theorem pSt_new {b o : Nat} {v : Value} {cs : List Value} {tot : Nat} (ho : o < cs.length) (h1 : v.oneCell' = true) (hp : p (h.set b (.row (cs.set o v) tot))) : pSt ⟨b, o, none⟩ v p (h.set b (.row cs tot)) :=
  pSt_i (Heap.set_same _ _ _) ho h1 (by rw [Heap.set_set]; exact hp)
theorem vals_whole {b n : Nat} {cs : List Value} {tot : Nat} (hb : h b = some (.row cs tot)) (hn : cs.length = n) : h.vals ⟨b, 0, none⟩ n = some cs := by rw [vals_row hb]; exact cut_all' hn
end

theorem wrap_small {x : Int} (h0 : -9223372036854775808 ≤ x) (h1 : x ≤ 9223372036854775807) : IntKind.i64.wrap x = x := Go.IntWalk.i64_in x ⟨h0, h1⟩

theorem cut_cut {cs xs : List Value} {o n : Nat} (h : cut cs o n = some xs) {k m : Nat} (hk : k + m ≤ n) : cut cs (o + k) m = cut xs k m := by
  obtain ⟨h1, h2, h3⟩ := cut_some h
  unfold cut at *
  rw [if_pos (by omega), if_pos (by omega)]
  rw [if_pos h2] at h
  cases h
  congr 1
  rw [List.drop_take, List.take_take, List.drop_drop, Nat.min_eq_left (by omega)]

theorem vals_sub {h : Heap} {a : Addr} {n : Nat} {xs : List Value} (hv : h.vals a n = some xs) {k m : Nat} (hk : k + m ≤ n) : h.vals (a.add k) m = cut xs k m := by
  obtain ⟨b, o, s⟩ := a
  unfold Heap.vals at hv
  cases s with
  | some _ => simp at hv
  | none =>
    simp only at hv
    rw [add_mk]
    unfold Heap.vals
    simp only
    cases hb : h b with
    | none => simp [hb] at hv
    | some x => cases x with
      | row cs tot => simp only [hb] at hv ⊢; exact cut_cut hv hk
      | fix ob =>
        cases ob <;> simp only [hb] at hv ⊢ <;> first
          | exact cut_cut hv hk
          | cases hv
      | map es => simp [hb] at hv

theorem vals_le {h h' : Heap} (l : Heap.le h h') {a : Addr} {n : Nat} {xs : List Value} (hv : h.vals a n = some xs) : h'.vals a n = some xs := by
  unfold Heap.vals at *
  cases hs : a.spot with
  | some _ => simp [hs] at hv
  | none =>
    simp only [hs] at hv ⊢
    cases hb : h a.block with
    | none => simp [hb] at hv
    | some x => rw [l _ _ hb]; rw [hb] at hv; exact hv

theorem cell_le {h h' : Heap} (l : Heap.le h h') {a : Addr} {v : Value} (hv : h.cell a = some v) : h'.cell a = some v := by
  unfold Heap.cell at *
  cases hs : a.spot with
  | some _ => simp [hs] at hv
  | none =>
    simp only [hs] at hv ⊢
    cases hb : h a.block with
    | none => simp [hb] at hv
    | some x => rw [l _ _ hb]; rw [hb] at hv; exact hv

theorem Sl.vals_le {h h' : Heap} (l : Heap.le h h') {z : Nat} {s : Sl} {xs : List Value} (hv : s.vals z h xs) : s.vals z h' xs := by
  unfold Sl.vals at *
  cases hb : s.base with
  | none => simp only [hb] at hv ⊢; exact hv
  | some a => simp only [hb] at hv ⊢; exact Hl.vals_le l hv

theorem loadF_vals {P : Program} {t : TypeId} {a : Addr} {n : Nat} {cs : List Value} {h : Heap} (hs : (P.underlying t).map shapeD = some .agg) (hn : sizeP P t = n) (hv : h.vals a n = some cs) : loadF P t (.pointer (some a)) (.agg cs.toArray) h := by
  unfold loadF
  cases hu : P.underlying t with
  | none => simp [hu] at hs
  | some d =>
    simp only [hu, Option.map_some, Option.some.injEq] at hs
    simp only [hs, hn]
    exact ⟨cs, hv, rfl⟩

theorem loadF_cell {P : Program} {t : TypeId} {a : Addr} {v : Value} {h : Heap} (s : Shape) (hs : (P.underlying t).map shapeD = some s) (hn : s ≠ .agg) (hv : h.cell a = some v) : loadF P t (.pointer (some a)) v h := by
  unfold loadF
  cases hu : P.underlying t with
  | none => simp [hu] at hs
  | some d =>
    simp only [hu, Option.map_some, Option.some.injEq] at hs
    simp only [hs]
    cases s <;> first | exact hv | exact absurd rfl hn

theorem lay_nil (cs : List Value) : lay cs [] = cs := by cases cs <;> rfl

/-- A loop: what holds at its head, and what falls. -/
theorem pLoop_rule {σ : Type} {body : σ → (σ → Pr) → Pr} (I : σ → Heap → Prop) (μ : σ → Nat)
    (step : ∀ s h (k : σ → Pr), I s h → (∀ s' h', I s' h' → μ s' < μ s → k s' h') → body s k h) {s : σ} {h : Heap} (hi : I s h) : pLoop body s h := by
  have key : ∀ n s h, I s h → μ s ≤ n → iter body (n + 1) s h := by
    intro n
    induction n with
    | zero => exact fun s h hi hm => step s h _ hi fun s' h' hi' hlt => absurd hlt (by omega)
    | succ n ih => exact fun s h hi hm => step s h _ hi fun s' h' hi' hlt => ih s' h' hi' (by omega)
  exact ⟨μ s + 1, key _ s h hi (Nat.le_refl _)⟩

theorem fgt_here {K : Value → Pr} {v : Value} {g h : Heap} (l : Heap.le g h) (k : K v g) : fgt K v h := ⟨g, l, k⟩

/-- A slice that the function has made by appending: it ends where its block's known cells end. -/
def Own (z : Nat) (h0 h : Heap) (s : Sl) (xs : List Value) : Prop :=
  xs.length = s.len * z ∧ ((s.base = none ∧ s.len = 0 ∧ s.cap = 0) ∨ ∃ b tot, s.base = some ⟨b, 0, none⟩ ∧ h0 b = none ∧ h b = some (.row xs tot) ∧ s.cap * z ≤ tot)

theorem Own.none (z : Nat) (h0 h : Heap) : Own z h0 h ⟨none, 0, 0⟩ [] := ⟨by simp, .inl ⟨rfl, rfl, rfl⟩⟩

theorem Own.vals {z : Nat} {h0 h : Heap} {s : Sl} {xs : List Value} (o : Own z h0 h s xs) : s.vals z h xs := by
  obtain ⟨hl, ⟨h1, h2, h3⟩ | ⟨b, tot, h1, h2, h3, h4⟩⟩ := o
  · unfold Sl.vals; rw [h1]; simp [h2] at hl ⊢; exact hl
  · unfold Sl.vals; rw [h1]; simp only; rw [vals_row h3]; exact cut_all' hl

theorem Own.keep {z : Nat} {h0 h h' : Heap} {s : Sl} {xs : List Value} (o : Own z h0 h s xs) (l : Heap.le h h') : Own z h0 h' s xs := by
  obtain ⟨hl, h1 | ⟨b, tot, h1, h2, h3, h4⟩⟩ := o
  · exact ⟨hl, .inl h1⟩
  · exact ⟨hl, .inr ⟨b, tot, h1, h2, l _ _ h3, h4⟩⟩

theorem splice_end (cs vs : List Value) : splice cs cs.length vs = cs ++ vs := by
  unfold splice; simp

theorem append_own {z bytes : Nat} {h0 h : Heap} {s x : Sl} {xs new : List Value} {k : Sl → Pr} (o : Own z h0 h s xs) (hx : x.vals z h new) (hle : Heap.le h0 h) (hr : Roomy (s.len + x.len) bytes) (h1 : oneCells new)
    (hk : ∀ s' h', Heap.le h0 h' → Own z h0 h' s' (xs ++ new) → s'.len = s.len + x.len → k s' h') : pAppend z bytes s x k h := by
  have hv := o.vals
  have hnl := sl_length hx
  refine ⟨xs, new, hv, hx, hr, h1, fun hfit => ?_, fun hgrow b cap hb hcap => ?_⟩
  · obtain ⟨hl, ⟨e1, e2, e3⟩ | ⟨b, tot, e1, e2, e3, e4⟩⟩ := o
    · rw [e1]
      simp only
      have hx0 : x.len = 0 := by omega
      refine hk _ h hle ?_ rfl
      have : xs = [] := by apply List.length_eq_zero_iff.1; rw [hl, e2]; simp
      have : new = [] := by apply List.length_eq_zero_iff.1; rw [hnl, hx0]; simp
      subst_vars
      exact ⟨by simp [e2, hx0], .inl ⟨rfl, by simp [e2, hx0], e3⟩⟩
    · rw [e1]
      simp only
      refine ⟨xs, tot, trivial, e3, by omega, by simpa using e4, hk _ _ ?_ ?_ rfl⟩
      · intro i y hy
        rw [Heap.set_ne _ _ (fun e => by subst e; rw [e2] at hy; cases hy)]
        exact hle i y hy
      · refine ⟨by simp [hl, hnl, Nat.add_mul], .inr ⟨b, tot, rfl, e2, ?_, e4⟩⟩
        rw [Heap.set_same, Nat.zero_add, ← hl, splice_end]
  · refine hk _ _ (Heap.le_set_new hle hb _) ?_ rfl
    refine ⟨by simp [o.1, hnl, Nat.add_mul], .inr ⟨b, cap * z, rfl, Heap.le_none hle hb, by rw [Heap.set_same], Nat.le_refl _⟩⟩

end Go.Hl
