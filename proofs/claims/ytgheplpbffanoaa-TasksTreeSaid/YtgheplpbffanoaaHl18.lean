/- The heap logic: what a law's arguments are: the cells of readable types; the world as a view that stays. -/
import Derived.Test.YtgheplpbffanoaaHl17
import Derived.Carry
set_option linter.unusedSectionVars false
set_option linter.unusedVariables false
namespace Go.Hl
open Go.ChangeShapes Go.WideShapes Go.RowKit

/-- All that is there, and stays. -/
def fixW (W : World) : Heap := fun b => (W.heap[b]?).map Blk.fix
theorem fixW_R (W : World) : R (fixW W) W := fun b x h => by
  unfold fixW at h
  cases ho : W.heap[b]? with
  | none => simp [ho] at h
  | some o => simp [ho] at h; subst h; rfl
theorem fixW_quiet (W : World) (b : Nat) : Quiet (fixW W b) := by
  unfold fixW
  cases W.heap[b]? with
  | none => exact .inl rfl
  | some o => exact .inr ⟨o, rfl⟩

theorem mapM_some {α β : Type} {f : α → Option β} : ∀ {l : List α} {r : List β}, l.mapM f = some r → r.length = l.length ∧ ∀ i (h : i < l.length) (h' : i < r.length), f l[i] = some r[i]
  | [], r, h => by simp at h; subst h; exact ⟨rfl, fun i h => by simp at h⟩
  | a :: l, r, h => by
    simp only [List.mapM_cons] at h
    cases hf : f a with
    | none => simp [hf] at h
    | some b =>
      cases hl : l.mapM f with
      | none => simp [hf, hl] at h
      | some s =>
        simp [hf, hl] at h
        subst h
        obtain ⟨h1, h2⟩ := mapM_some hl
        refine ⟨by simp [h1], fun i hi hi' => ?_⟩
        cases i with
        | zero => simpa using hf
        | succ i => simpa using h2 i (by simpa using hi) (by simpa using hi')

theorem cells_vals {W : World} {base : Nat} {a : Addr} {n : Nat} {cs : List Value} (h : W.cells? base a n = some cs) (hn : n ≠ 0) : (fixW W).vals a n = some cs := by
  unfold World.cells? at h
  split at h
  · obtain ⟨h1, h2⟩ := mapM_some h
    simp only [List.length_range] at h1
    have hc : ∀ i (hi : i < n), W.cell? (a.add i) = some (cs[i]'(by omega)) := fun i hi => by
      have := h2 i (by simpa using hi) (by omega)
      simpa using this
    have h0 := hc 0 (by omega)
    rw [show a.add 0 = a from rfl] at h0
    unfold World.cell? at h0
    cases ho : W.heap[a.block]? with
    | none => simp [ho] at h0
    | some o =>
      cases o with
      | cells c t fr =>
        simp only [ho] at h0
        cases hs : a.spot with
        | some x => simp [hs] at h0
        | none =>
          have hget : ∀ i (hi : i < n), c.toList[a.off + i]? = some (cs[i]'(by omega)) := fun i hi => by
            have := hc i hi
            unfold World.cell? at this
            rw [add_block, ho] at this
            simp only [add_spot hs, add_off] at this
            simpa using this
          unfold Heap.vals fixW
          simp only [hs, ho, Option.map_some]
          unfold cut
          have hlast := hget (n - 1) (by omega)
          have hlt : a.off + (n - 1) < c.toList.length := by
            rcases Nat.lt_or_ge (a.off + (n - 1)) c.toList.length with k | k
            · exact k
            · rw [List.getElem?_eq_none k] at hlast; cases hlast
          rw [if_pos (by omega)]
          congr 1
          apply List.ext_getElem?
          intro i
          rcases Nat.lt_or_ge i n with hi | hi
          · rw [List.getElem?_take, if_pos hi, List.getElem?_drop, hget i hi]
            simp [h1, hi]
          · rw [List.getElem?_eq_none (by simp; omega), List.getElem?_eq_none (by omega)]
      | _ => simp [ho] at h0
  · cases h

/-- Kinds of cells, slices with what theirs are. -/
inductive CTy where
  | int (k : IntKind) | bool | str | slice (l : List CTy)

mutual
def COk (W : World) : CTy → Value → Prop
  | .int k, v => ∃ n, v = .int k n ∧ (Lit.int k n).wf = true
  | .bool, v => ∃ b, v = .bool b
  | .str, v => ∃ s : ByteArray, v = .string s ∧ s.size ≤ maxLen
  | .slice l, v => ∃ s : Sl, v = .slice s.base s.len s.cap ∧ s.len ≤ s.cap ∧ s.cap ≤ maxLen ∧ ∀ i, i < s.len → ∃ a cs, s.base = some a ∧ (fixW W).vals (a.add (i * l.length)) l.length = some cs ∧ COks W l cs
def COks (W : World) : List CTy → List Value → Prop
  | [], [] => True
  | c :: r, v :: s => COk W c v ∧ COks W r s
  | _, _ => False
end

theorem COks.nil' {W : World} {cs : List Value} (h : COks W [] cs) : cs = [] := by
  cases cs with
  | nil => rfl
  | cons _ _ => exact h.elim
theorem COks.cons' {W : World} {c : CTy} {r : List CTy} {cs : List Value} (h : COks W (c :: r) cs) : ∃ v s, cs = v :: s ∧ COk W c v ∧ COks W r s := by
  cases cs with
  | nil => exact h.elim
  | cons v s => exact ⟨v, s, rfl, h.1, h.2⟩
theorem COks.int' {W : World} {k : IntKind} {r : List CTy} {cs : List Value} (h : COks W (.int k :: r) cs) : ∃ n s, cs = .int k n :: s ∧ (Lit.int k n).wf = true ∧ COks W r s := by
  obtain ⟨v, s, rfl, ⟨n, rfl, hw⟩, h2⟩ := h.cons'
  exact ⟨n, s, rfl, hw, h2⟩
theorem COks.bool' {W : World} {r : List CTy} {cs : List Value} (h : COks W (.bool :: r) cs) : ∃ b s, cs = .bool b :: s ∧ COks W r s := by
  obtain ⟨v, s, rfl, ⟨n, rfl⟩, h2⟩ := h.cons'
  exact ⟨n, s, rfl, h2⟩
theorem COks.str' {W : World} {r : List CTy} {cs : List Value} (h : COks W (.str :: r) cs) : ∃ (b : ByteArray) (s : List Value), cs = .string b :: s ∧ b.size ≤ maxLen ∧ COks W r s := by
  obtain ⟨v, s, rfl, ⟨n, rfl, hw⟩, h2⟩ := h.cons'
  exact ⟨n, s, rfl, hw, h2⟩

theorem COks.len {W : World} : ∀ {l : List CTy} {cs : List Value}, COks W l cs → cs.length = l.length
  | [], [], _ => rfl
  | _ :: _, _ :: _, h => by simp [COks.len h.2]
  | [], _ :: _, h => h.elim
  | _ :: _, [], h => h.elim
theorem COks.app {W : World} : ∀ {l l' : List CTy} {cs cs' : List Value}, COks W l cs → COks W l' cs' → COks W (l ++ l') (cs ++ cs')
  | [], _, [], _, _, k => k
  | _ :: _, _, _ :: _, _, h, k => ⟨h.1, COks.app h.2 k⟩
  | [], _, _ :: _, _, h, _ => h.elim
  | _ :: _, _, [], _, h, _ => h.elim

mutual
def ctys (P : Program) : Nat → TypeId → Option (List CTy)
  | 0, _ => none
  | d + 1, t => match P.underlying t with
    | some (.int k) => some [.int k]
    | some .bool => some [.bool]
    | some .string => some [.str]
    | some (.slice e) => (ctys P d e).bind fun l => if l.length = P.cellsOf e ∧ l.length ≠ 0 then some [.slice l] else none
    | some (.struct fs) => (ctyFs P d 0 fs.toList).bind fun l => if l.length = P.cellsOf t then some l else none
    | some (.array n e) => (ctys P d e).bind fun l => if l.length = P.cellsOf e ∧ n * l.length = P.cellsOf t then some (List.replicate n l).flatten else none
    | _ => none
def ctyFs (P : Program) : Nat → Nat → List Field → Option (List CTy)
  | 0, _, _ => none
  | _ + 1, _, [] => some []
  | d + 1, off, f :: fs => if f.offset != off then none else
    (ctys P d f.type).bind fun l => if l.length = P.cellsOf f.type then (ctyFs P d (off + l.length) fs).map (l ++ ·) else none
end

theorem COks.reps {W : World} {l : List CTy} : ∀ (n : Nat) (cs : List Value), cs.length = n * l.length → (∀ i, i < n → COks W l ((cs.drop (i * l.length)).take l.length)) → COks W (List.replicate n l).flatten cs
  | 0, cs, h, _ => by
    have : cs = [] := List.length_eq_zero_iff.1 (by simpa using h)
    subst this; trivial
  | n + 1, cs, h, k => by
    have e : cs = cs.take l.length ++ cs.drop l.length := (List.take_append_drop _ _).symm
    rw [e, List.replicate_succ, List.flatten_cons]
    refine COks.app (by simpa using k 0 (by omega)) (COks.reps n _ ?_ ?_)
    · rw [List.length_drop, h, Nat.succ_mul]; omega
    · intro i hi
      rw [List.drop_drop]
      have := k (i + 1) (by omega)
      rw [Nat.succ_mul, Nat.add_comm] at this
      exact this

section
variable {P : Program} {H : Type} {enc : TypeId × Value → H} {W : World} {base : Nat} {sp : Nat → Bool} {held : Bool}

theorem trod_array {t e : TypeId} {n fuel : Nat} {cs : List Value} {x : DataW H × List MemPlace} (ht : P.underlying t = some (.array n e)) (h : DataW.trod enc P W base sp held fuel t cs = some x) :
    ∃ (m : Nat) (xs : List (DataW H × List MemPlace)), cs.length = P.cellsOf t ∧ (List.range n).mapM (fun i => DataW.trod enc P W base sp held m e ((cs.drop (i * P.cellsOf e)).take (P.cellsOf e))) = some xs := by
  cases fuel with
  | zero => simp [DataW.trod] at h
  | succ m =>
    unfold DataW.trod at h
    rw [ht] at h
    split at h <;> simp_all
    obtain ⟨hl, xs, hp, hd⟩ := h
    exact ⟨m, xs, hp⟩

mutual
theorem trod_cok : ∀ (d : Nat) (t : TypeId) (l : List CTy), ctys P d t = some l → ∀ (fuel : Nat) (cs : List Value) (x : DataW H × List MemPlace), DataW.trod enc P W base sp held fuel t cs = some x → COks W l cs
  | 0, _, _, h, _, _, _, _ => by simp [ctys] at h
  | d + 1, t, l, h, fuel, cs, x, hx => by
    unfold ctys at h
    cases hu : P.underlying t with
    | none => simp [hu] at h
    | some dsc =>
      cases dsc <;> simp only [hu] at h <;> try (cases h; done)
      case bool =>
        cases h
        obtain ⟨b, rfl, _⟩ := DataW.trod_bool hu hx
        exact ⟨⟨b, rfl⟩, trivial⟩
      case int k =>
        cases h
        obtain ⟨n, rfl, _, hw⟩ := DataW.trod_int hu hx
        exact ⟨⟨n, rfl, hw⟩, trivial⟩
      case string =>
        cases h
        obtain ⟨s, rfl, _, hs⟩ := DataW.trod_string hu hx
        exact ⟨⟨s, rfl, hs⟩, trivial⟩
      case slice e =>
        cases he : ctys P d e with
        | none => simp [he] at h
        | some le =>
          simp only [he, Option.bind_some] at h
          split at h
          · rename_i hl
            cases h
            rcases DataW.trod_slice hu hx with ⟨rfl, _⟩ | ⟨a, len, cap, elems, rest, n, _, rfl, _, _, hlc, hcm, hel, hget, _, _⟩
            · exact ⟨⟨⟨none, 0, 0⟩, rfl, Nat.le_refl _, Nat.zero_le _, fun i hi => absurd hi (Nat.not_lt_zero _)⟩, trivial⟩
            · refine ⟨⟨⟨some a, len, cap⟩, rfl, hlc, hcm, fun i hi => ?_⟩, trivial⟩
              have hi' : i < len := hi
              have hg := hget i hi'
              rw [List.getElem?_eq_getElem (by omega)] at hg
              simp only [Option.bind_eq_some_iff] at hg
              obtain ⟨cs', h1, h2⟩ := hg
              refine ⟨a, cs', rfl, ?_, trod_cok d e le he _ _ _ h2⟩
              rw [hl.1]
              exact cells_vals h1 (by rw [← hl.1]; exact hl.2)
          · cases h
      case struct fs =>
        cases hfs : ctyFs P d 0 fs.toList with
        | none => simp [hfs] at h
        | some lf =>
          simp only [hfs, Option.bind_some] at h
          split at h
          · rename_i hl
            cases h
            obtain ⟨xs, n, _, _, hlen, hxs, hget⟩ := DataW.trod_struct hu hx
            have := trodFs_cok d 0 fs.toList _ hfs cs (by rw [hl, hlen]; omega) (fun i f hf => by
              have := hget i f (by simpa using hf)
              have hi : i < xs.length := by
                rw [hxs]
                have := List.getElem?_eq_some_iff.1 hf
                simpa using this.1
              rw [List.getElem?_eq_getElem hi] at this
              exact ⟨n, _, this⟩)
            rw [List.drop_zero, List.take_of_length_le (by omega)] at this
            exact this
          · cases h
      case array n e =>
        cases he : ctys P d e with
        | none => simp [he] at h
        | some le =>
          simp only [he, Option.bind_some] at h
          split at h
          · rename_i hl
            cases h
            obtain ⟨m, xs, hlen, hm⟩ := trod_array hu hx
            obtain ⟨h1, h2⟩ := mapM_some hm
            simp only [List.length_range] at h1
            refine COks.reps n cs (by omega) fun i hi => ?_
            have := h2 i (by simpa using hi) (by omega)
            simp only [List.getElem_range] at this
            rw [hl.1]
            exact trod_cok d e le he _ _ _ this
          · cases h
theorem trodFs_cok : ∀ (d : Nat) (off : Nat) (fs : List Field) (l : List CTy), ctyFs P d off fs = some l → ∀ (cs : List Value), off + l.length ≤ cs.length →
    (∀ (i : Nat) (f : Field), fs[i]? = some f → ∃ n x, DataW.trod enc P W base sp held n f.type ((cs.drop f.offset).take (P.cellsOf f.type)) = some x) → COks W l ((cs.drop off).take l.length)
  | 0, _, _, _, h, _, _, _ => by simp [ctyFs] at h
  | d + 1, off, [], l, h, cs, hl, k => by
    simp [ctyFs] at h; subst h
    simp; trivial
  | d + 1, off, f :: fs, l, h, cs, hl, k => by
    unfold ctyFs at h
    split at h
    · cases h
    · rename_i hoff
      have hoff' : f.offset = off := by simpa using hoff
      cases he : ctys P d f.type with
      | none => simp [he] at h
      | some lf =>
        simp only [he, Option.bind_some] at h
        split at h
        · rename_i hlen
          cases hr : ctyFs P d (off + lf.length) fs with
          | none => simp [hr] at h
          | some lr =>
            simp [hr] at h
            subst h
            obtain ⟨n, x, hx⟩ := k 0 f rfl
            have h1 := trod_cok d f.type lf he _ _ _ hx
            have h2 := trodFs_cok d (off + lf.length) fs lr hr cs (by simp at hl; omega) (fun i g hg => k (i + 1) g (by simpa using hg))
            rw [hoff', ← hlen] at h1
            rw [List.length_append, List.take_add, List.drop_drop]
            exact COks.app h1 h2
        · cases h
end

theorem open_cok {t : TypeId} {l : List CTy} (hl : ctys P 60 t = some l) {v : Value} {d : DataW H} {ps : List MemPlace} (h : DataW.Trod enc P W base sp held t v d ps) : COks W l v.cells.toList := by
  obtain ⟨fuel, hf⟩ := h
  exact trod_cok 60 t l hl fuel _ _ hf
end

/-- A list out of what there is at each place. -/
theorem elems_list {α : Type} : ∀ {n : Nat} {φ : Nat → α → Prop}, (∀ i, i < n → ∃ x, φ i x) → ∃ l : List α, l.length = n ∧ ∀ i (h : i < l.length), φ i l[i]
  | 0, _, _ => ⟨[], rfl, fun i h => absurd h (Nat.not_lt_zero _)⟩
  | n + 1, φ, h => by
    obtain ⟨l, h1, h2⟩ := elems_list (n := n) fun i hi => h i (by omega)
    obtain ⟨x, hx⟩ := h n (by omega)
    refine ⟨l ++ [x], by simp [h1], fun i hi => ?_⟩
    rcases Nat.lt_or_ge i l.length with k | k
    · rw [List.getElem_append_left k]; exact h2 i k
    · have : i = n := by simp at hi; omega
      subst this
      rw [List.getElem_append_right k]; simpa [h1] using hx

/-- A slice whose elements are read one by one. -/
def SlE {α : Type} (enc : α → List Value) (n : Nat) (h : Heap) (s : Sl) (l : List α) : Prop :=
  s.len = l.length ∧ ∀ i (hi : i < l.length), ∃ a, s.base = some a ∧ h.vals (a.add (i * n)) n = some (enc l[i])
theorem SlE.le {α : Type} {enc : α → List Value} {n : Nat} {h h' : Heap} {s : Sl} {l : List α} (e : SlE enc n h s l) (hl : Heap.le h h') : SlE enc n h' s l :=
  ⟨e.1, fun i hi => by obtain ⟨a, h1, h2⟩ := e.2 i hi; exact ⟨a, h1, vals_le hl h2⟩⟩

theorem open_slice {α : Type} {enc : α → List Value} {W : World} {l : List CTy} {v : Value} (h : COk W (.slice l) v) {φ : α → Prop} (f : ∀ cs, COks W l cs → ∃ x, cs = enc x ∧ φ x) :
    ∃ (s : Sl) (xs : List α), v = .slice s.base s.len s.cap ∧ s.len ≤ maxLen ∧ SlE enc l.length (fixW W) s xs ∧ ∀ x ∈ xs, φ x := by
  unfold COk at h
  obtain ⟨s, rfl, h1, h2, h3⟩ := h
  obtain ⟨xs, hx1, hx2⟩ := elems_list (φ := fun i x => ∃ a, s.base = some a ∧ (fixW W).vals (a.add (i * l.length)) l.length = some (enc x) ∧ φ x) (n := s.len) fun i hi => by
    obtain ⟨a, cs, ha, hv, hc⟩ := h3 i hi
    obtain ⟨x, rfl, hx⟩ := f cs hc
    exact ⟨x, a, ha, hv, hx⟩
  refine ⟨s, xs, rfl, Nat.le_trans h1 h2, ⟨hx1.symm, fun i hi => ?_⟩, fun x hx => ?_⟩
  · obtain ⟨a, ha, hv, _⟩ := hx2 i hi; exact ⟨a, ha, hv⟩
  · obtain ⟨i, hi, rfl⟩ := List.getElem_of_mem hx
    obtain ⟨_, _, _, hp⟩ := hx2 i hi; exact hp

/-- An append to a slice of one's own: what was there at first, and is there, stays. -/
theorem append_own' {z bytes : Nat} {h0 h : Heap} {s x : Sl} {xs new : List Value} {k : Sl → Pr} (o : Own z h0 h s xs) (hdom : ∀ b, h b = none → h0 b = none) (hx : x.vals z h new) (hr : Roomy (s.len + x.len) bytes) (h1 : oneCells new)
    (hk : ∀ s' h', (∀ b y, h0 b = some y → ∀ {v}, h b = some v → h' b = some v) → Own z h0 h' s' (xs ++ new) → s'.len = s.len + x.len → k s' h') : pAppend z bytes s x k h := by
  have hv := o.vals
  have hnl := sl_length hx
  refine ⟨xs, new, hv, hx, hr, h1, fun hfit => ?_, fun hgrow b cap hb hcap => ?_⟩
  · obtain ⟨hl, ⟨e1, e2, e3⟩ | ⟨b, tot, e1, e2, e3, e4⟩⟩ := o
    · rw [e1]
      simp only
      have hx0 : x.len = 0 := by omega
      refine hk _ h (fun _ _ _ _ e => e) ?_ rfl
      have : xs = [] := by apply List.length_eq_zero_iff.1; rw [hl, e2]; simp
      have : new = [] := by apply List.length_eq_zero_iff.1; rw [hnl, hx0]; simp
      subst_vars
      exact ⟨by simp [e2, hx0], .inl ⟨rfl, by simp [e2, hx0], e3⟩⟩
    · rw [e1]
      simp only
      refine ⟨xs, tot, trivial, e3, by omega, by simpa using e4, hk _ _ ?_ ?_ rfl⟩
      · intro i y hy v hv
        rw [Heap.set_ne _ _ (fun e => by subst e; rw [e2] at hy; cases hy)]
        exact hv
      · refine ⟨by simp [hl, hnl, Nat.add_mul], .inr ⟨b, tot, rfl, e2, ?_, e4⟩⟩
        rw [Heap.set_same, Nat.zero_add, ← hl, splice_end]
  · refine hk _ _ (fun i y hy v hv => ?_) ?_ rfl
    · rw [Heap.set_ne _ _ (fun e => by subst e; rw [hb] at hv; cases hv)]; exact hv
    · exact ⟨by simp [o.1, hnl, Nat.add_mul], .inr ⟨b, cap * z, rfl, hdom b hb, by rw [Heap.set_same], Nat.le_refl _⟩⟩

end Go.Hl
