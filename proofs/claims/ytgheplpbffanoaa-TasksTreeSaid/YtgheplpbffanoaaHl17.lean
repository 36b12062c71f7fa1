/- The heap logic: loops over slices: an index by a function or an equal element. -/
import Derived.Test.YtgheplpbffanoaaHl16
set_option linter.unusedSectionVars false
set_option linter.unusedVariables false
namespace Go.Hl

theorem WpVal.of_func {P : Program} {g : FuncId} {args caps : List Value} {KP K : Value → Pr} {h : Heap} (c : WpCall P g (args ++ caps).toArray KP K h) : WpVal P (.func (.func g) [].toArray caps.toArray) args KP K h := by
  show WpCall P g ((#[] ++ args.toArray) ++ caps.toArray) KP K h
  simpa using c
theorem WpVal.mono {P : Program} {f : Value} {args : List Value} {KP KP' K K' : Value → Pr} {h : Heap} (c : WpVal P f args KP K h)
    (m : ∀ v h', K v h' → K' v h') (mp : ∀ v h', KP v h' → KP' v h') : WpVal P f args KP' K' h := by
  unfold WpVal at *
  split at c
  · exact WpCall.mono c m mp
  · exact c.elim
theorem fgt_mk {K : Value → Pr} {v : Value} {h : Heap} (k : K v h) : fgt K v h := ⟨h, Heap.le_refl _, k⟩

theorem sl_elem {α : Type} {enc : α → List Value} {n : Nat} (he : ∀ x, (enc x).length = n) {h : Heap} {s : Sl} {l : List α} (hv : s.vals n h (l.flatMap enc)) (hl : s.len = l.length) {i : Nat} (hi : i < l.length) :
    ∃ a, s.base = some a ∧ h.vals (a.add (i * n)) n = some (enc l[i]) := by
  unfold Sl.vals at hv
  cases hb : s.base with
  | none => simp only [hb] at hv; omega
  | some a =>
    simp only [hb] at hv
    refine ⟨a, rfl, ?_⟩
    have hm : i * n + n ≤ s.len * n := by rw [hl, ← Nat.succ_mul]; exact Nat.mul_le_mul_right _ hi
    rw [vals_sub hv hm]
    have := flat_cut enc n he l i 0 n hi (by omega)
    rw [Nat.add_zero] at this
    rw [this]
    exact cut_all' (he _)

theorem vals_cell1 {h : Heap} {a : Addr} {v : Value} (hv : h.vals a 1 = some [v]) : h.cell a = some v := (vals_cell hv).2.2 0 v rfl

def idxFrom {α : Type} (p : α → Bool) : List α → Int → Int
  | [], _ => -1
  | x :: r, i => if p x then i else idxFrom p r (i + 1)
def idxOf {α : Type} (p : α → Bool) (l : List α) : Int := idxFrom p l 0

theorem idxFrom_range {α : Type} (p : α → Bool) : ∀ (l : List α) (i : Int), idxFrom p l i = -1 ∨ (i ≤ idxFrom p l i ∧ idxFrom p l i < i + l.length)
  | [], _ => .inl rfl
  | x :: r, i => by
    unfold idxFrom
    split
    · right; simp; omega
    · have := idxFrom_range p r (i + 1); simp; omega
theorem idxOf_range {α : Type} (p : α → Bool) (l : List α) : idxOf p l = -1 ∨ (0 ≤ idxOf p l ∧ idxOf p l < l.length) := by have := idxFrom_range p l 0; unfold idxOf; omega
theorem idxFrom_any {α : Type} (p : α → Bool) : ∀ (l : List α) (i : Int), 0 ≤ i → decide (idxFrom p l i ≥ 0) = l.any p
  | [], i, h => by simp [idxFrom]
  | x :: r, i, h => by
    unfold idxFrom
    by_cases hx : p x = true
    · simp [hx, h]
    · have := idxFrom_any p r (i + 1) (by omega)
      simp [hx] at this ⊢; exact this
theorem idxOf_any {α : Type} (p : α → Bool) (l : List α) : decide (idxOf p l ≥ 0) = l.any p := idxFrom_any p l 0 (Int.le_refl _)

section
variable {P : Program} {α : Type} {enc : α → List Value} {n : Nat} (he : ∀ x, (enc x).length = n) {s : Sl} {l : List α} {h : Heap} (hv : s.vals n h (l.flatMap enc)) (hl : s.len = l.length) (hb : l.length < 9223372036854775807)
include he hv hl hb

/-- A loop over a slice that ends at the first element of which p holds. -/
theorem loop_idx {p : α → Bool} {K : Int → Pr} {body : Addr → Int → Pr → Pr → Pr}
    (hbody : ∀ (i : Nat) (hi : i < l.length) a (yes no : Pr), s.base = some a → h.vals (a.add (i * n)) n = some (enc l[i]) → (p l[i] = true → yes h) → (p l[i] = false → no h) → body a i yes no h)
    (k : K (idxOf p l) h) :
    pLoop (σ := Int × Unit) (fun s1 k1 => pIf (decide ((s1.1 : Int) < (s.len : Int))) (pIdx s1.1 s.len <| pSome s.base fun a3 => body a3 s1.1 (K s1.1) (k1 ((IntKind.i64.wrap (s1.1 + 1)), ()))) (K (-1))) (0, ()) h := by
  refine pLoop_rule (fun (s1 : Int × Unit) H => H = h ∧ 0 ≤ s1.1 ∧ s1.1 ≤ l.length ∧ idxFrom p (l.drop s1.1.toNat) s1.1 = idxOf p l) (fun s1 => (l.length - s1.1).toNat) ?_ ?_
  rotate_left
  · exact ⟨rfl, Int.le_refl _, Int.natCast_nonneg _, rfl⟩
  rintro ⟨i, ⟨⟩⟩ H kk ⟨rfl, h0, h1, h2⟩ hk
  simp only at h0 h1 h2 hk ⊢
  by_cases hi : i < l.length
  · have hlt : i.toNat < l.length := by omega
    obtain ⟨a, ha, hv'⟩ := sl_elem he hv hl hlt
    rw [List.drop_eq_getElem_cons hlt, idxFrom] at h2
    refine pIf_t (by rw [hl]; simpa using hi) (pIdx_i h0 (by omega) (pSome_i ha ?_))
    have e : i = (i.toNat : Int) := by omega
    have := hbody i.toNat hlt a (K i) (kk ((IntKind.i64.wrap (i + 1)), ())) ha hv' ?_ ?_
    · rw [e] at this ⊢; simpa using this
    · intro hp
      rw [if_pos hp] at h2
      rw [h2]; exact k
    · intro hp
      rw [if_neg (by rw [hp]; simp)] at h2
      rw [wrap_small (by omega) (by omega)]
      refine hk _ _ ⟨rfl, by simp only; omega, by simp only; omega, ?_⟩ (by simp only; omega)
      simp only
      rw [show (i + 1).toNat = i.toNat + 1 by omega]; exact h2
  · refine pIf_f (by rw [hl]; simpa using hi) ?_
    rw [List.drop_eq_nil_of_le (by omega)] at h2
    have h2' : idxOf p l = -1 := h2.symm
    rw [← h2']; exact k

/-- IndexFunc. -/
theorem loop_indexFunc {p : α → Bool} {f : Value} {KP K : Value → Pr}
    (hf : ∀ x ∈ l, ∀ (KP K : Value → Pr), K (.bool (p x)) h → WpVal P f [.agg (enc x).toArray] KP K h)
    (k : K (.int .i64 (idxOf p l)) h) :
    pLoop (σ := Int × Unit) (fun s1 k1 => pIf (decide ((s1.1 : Int) < (s.len : Int))) (pIdx s1.1 s.len <| pSome s.base fun a3 => pLdA n (a3.add (s1.1.toNat * n)) fun x4 => pCallV P f [(.agg x4.toArray)] KP (.one .bool) fun (r5 : Bool) => pIf r5 (K (.int .i64 s1.1)) (k1 ((IntKind.i64.wrap (s1.1 + 1)), ()))) (K (.int .i64 (-1)))) (0, ()) h := by
  refine loop_idx (p := p) (K := fun i => K (.int .i64 i)) (body := fun a i yes no => pLdA n (a.add (i.toNat * n)) fun x4 => pCallV P f [(.agg x4.toArray)] KP (.one .bool) fun (r5 : Bool) => pIf r5 yes no) he hv hl hb ?_ k
  intro i hi a yes no ha hv' hy hn
  refine pLdA_i (by simpa using hv') ?_
  exact hf l[i] (List.getElem_mem hi) _ _ ⟨p l[i], rfl, hy, hn⟩

/-- Index of numbers. -/
theorem loop_indexInt {v : Int} {val : α → Int} (hval : ∀ x, enc x = [.int .i64 (val x)]) (h1 : n = 1) {K : Value → Pr}
    (k : K (.int .i64 (idxOf (fun x => v == val x) l)) h) :
    pLoop (σ := Int × Unit) (fun s1 k1 => pIf (decide ((s1.1 : Int) < (s.len : Int))) (pIdx s1.1 s.len <| pSome s.base fun a3 => pLd (.int .i64) (a3.add (s1.1.toNat * 1)) fun (x4 : Int) => pIf ((v : Int) == x4) (K (.int .i64 s1.1)) (k1 ((IntKind.i64.wrap (s1.1 + 1)), ()))) (K (.int .i64 (-1)))) (0, ()) h := by
  subst h1
  refine loop_idx (p := fun x => v == val x) (K := fun i => K (.int .i64 i)) (body := fun a i yes no => pLd (.int .i64) (a.add (i.toNat * 1)) fun (x4 : Int) => pIf ((v : Int) == x4) yes no) he hv hl hb ?_ k
  intro i hi a yes no ha hv' hy hn
  refine pLd_i (val l[i]) ?_ ⟨hy, hn⟩
  rw [hval] at hv'
  exact vals_cell1 (v := .int .i64 (val l[i])) (by simpa using hv')

/-- Index of records that are held against each other cell by cell. -/
theorem loop_indexAgg {v : α} {ct : List CT} (ok : ∀ x, okCells ct (enc x) = true) {p : α → Bool} (hp : ∀ x, eqCells (enc v) (enc x) = p x) {b1 : Nat} {tot : Nat} (hb1 : h b1 = some (.row (enc v) tot)) {K : Value → Pr}
    (k : K (.int .i64 (idxOf p l)) h) :
    pLoop (σ := Int × Unit) (fun s1 k1 => pIf (decide ((s1.1 : Int) < (s.len : Int))) (pIdx s1.1 s.len <| pSome s.base fun a3 => pLdA n ⟨b1, 0, none⟩ fun x5 => pLdA n (a3.add (s1.1.toNat * n)) fun x6 => pAssert (okCells ct x5 = true ∧ okCells ct x6 = true) <| pIf (eqCells x5 x6) (K (.int .i64 s1.1)) (k1 ((IntKind.i64.wrap (s1.1 + 1)), ()))) (K (.int .i64 (-1)))) (0, ()) h := by
  refine loop_idx (p := p) (K := fun i => K (.int .i64 i)) (body := fun a i yes no => pLdA n ⟨b1, 0, none⟩ fun x5 => pLdA n (a.add (i.toNat * n)) fun x6 => pAssert (okCells ct x5 = true ∧ okCells ct x6 = true) <| pIf (eqCells x5 x6) yes no) he hv hl hb ?_ k
  intro i hi a yes no ha hv' hy hn
  refine ldA_all hb1 (he _) (pLdA_i (by simpa using hv') (pAssert_i ⟨ok _, ok _⟩ ?_))
  rw [hp]; exact ⟨hy, hn⟩
end

/-- A part of an array or of a slice as a slice. -/
theorem sl_of_vals {n : Nat} {h : Heap} {a : Addr} {len cap : Nat} {xs : List Value} (hv : h.vals a (len * n) = some xs) : Sl.vals n ⟨some a, len, cap⟩ h xs := hv

end Go.Hl
