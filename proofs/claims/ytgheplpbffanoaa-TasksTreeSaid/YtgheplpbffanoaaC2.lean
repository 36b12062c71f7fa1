import Derived.Test.YtgheplpbffanoaaC1
set_option linter.unusedVariables false
namespace Go.Proofs.Ytgheplpbffanoaa
open Go.Hl
attribute [local irreducible] loadF zc sizeP bytesP vcBody

def files (t : Task) : List File := [t.f0, t.f1, t.f2, t.f3, t.f4, t.f5]
def areas (t : Task) : List Area := [t.a0, t.a1, t.a2, t.a3]
def cntF (l : List File) : Int := ((l.filter (fun f => decide (f ≠ File.z))).length : Int)
def openN (t : Task) : Int := cntF (files t)
theorem File.len (f : File) : f.enc.length = 3 := rfl
theorem Area.len (a : Area) : a.enc.length = 5 := rfl
theorem cntF_le (l : List File) : 0 ≤ cntF l ∧ cntF l ≤ l.length := by
  unfold cntF; have := List.length_filter_le (fun f => decide (f ≠ File.z)) l; omega
theorem cntF_snoc (l : List File) (f : File) : cntF (l ++ [f]) = cntF l + (if f = File.z then 0 else 1) := by
  unfold cntF; rw [List.filter_append]
  by_cases h : f = File.z <;> simp [h]
theorem file_eq (f g : File) : eqCells f.enc g.enc = decide (f = g) := by
  cases f; cases g; simp [eqCells, eqv, File.enc]
  rw [Bool.eq_iff_iff]; simp
theorem file_one (f : File) : oneCells f.enc := by intro v hv; simp [File.enc] at hv; rcases hv with h | h | h <;> subst h <;> rfl
theorem area_one (a : Area) : oneCells a.enc := by intro v hv; simp [Area.enc] at hv; rcases hv with h | h | h | h | h <;> subst h <;> rfl
theorem file_ok (f : File) : okCells [.int .i64, .int .i64, .int .i64] f.enc = true := rfl

theorem open_ok {h : Heap} (t : Task) {KP K : Value → Pr} (k : K (.int .i64 (openN t)) h) : WpCall Try.prog 25 #[.agg t.enc.toArray] KP K h := by
  refine tasks_open_call _ ?_
  unfold tasks_open
  intro b hb
  have hx : (h.set b (.row t.enc t.enc.length)).vals ((⟨b, 0, none⟩ : Addr).add 11) 18 = some t.encF := by
    rw [add_mk, vals_row (Heap.set_same _ _ _)]; rfl
  refine pLdA_i hx ?_
  have hle : Heap.le h (h.set b (.row t.enc t.enc.length)) := Heap.le_set_new (Heap.le_refl _) hb _
  generalize h.set b (.row t.enc t.enc.length) = h1 at hle
  refine pLoop_rule (fun s h' => Heap.le h h' ∧ 0 ≤ s.2.1 ∧ s.2.1 ≤ 6 ∧ s.1 = cntF ((files t).take s.2.1.toNat)) (fun s => (6 - s.2.1).toNat) ?_ ⟨hle, by simp, by simp, rfl⟩
  rintro ⟨n, i, ⟨⟩⟩ h' kk ⟨hle, h0, h1, h2⟩ hk
  simp only at h0 h1 h2 hk ⊢
  unfold tasks_open_l2 tasks_open_j1 pJoin
  have hb6 := cntF_le ((files t).take i.toNat)
  have hl6 : ((files t).take i.toNat).length ≤ 6 := by simp [files]; omega
  by_cases hi : i < 6
  · have hlt : i.toNat < (files t).length := by simp [files]; omega
    have hpart : (t.encF.drop (i.toNat * 3)).take 3 = (files t)[i.toNat].enc := flat_part File.enc 3 File.len (files t) i.toNat hlt
    have hsn : (files t).take (i + 1).toNat = (files t).take i.toNat ++ [(files t)[i.toNat]] := by
      rw [show (i + 1).toNat = i.toNat + 1 by omega, List.take_add_one]; simp [hlt]
    refine pIf_t (by simpa using hi) (pIdx_i h0 (by omega) ?_)
    intro b2 hb2
    have hle2 : ∀ y, Heap.le h (h'.set b2 y) := fun y => Heap.le_set_new hle hb2 y
    rw [hpart, zc_file0]
    refine pStA_new zc_flen (File.len _) (file_one _) (pLdA_i (vals_whole (Heap.set_same _ _ _) (File.len _)) (pAssert_i ⟨rfl, rfl⟩ ?_))
    rw [file_eq]
    have hc := cntF_snoc ((files t).take i.toNat) (files t)[i.toNat]
    refine pIf_i (fun hz => ?_) (fun hz => ?_)
    · have hz' : ¬ (files t)[i.toNat] = File.z := by simpa using hz
      rw [if_neg hz'] at hc
      rw [wrap_small (by omega) (by omega), wrap_small (by omega) (by omega)]
      exact hk _ _ ⟨hle2 _, by simp only; omega, by simp only; omega, by simp only; rw [hsn, hc, h2]⟩ (by simp only; omega)
    · have hz' : (files t)[i.toNat] = File.z := by simpa using hz
      rw [if_pos hz'] at hc
      rw [wrap_small (by omega) (by omega)]
      exact hk _ _ ⟨hle2 _, by simp only; omega, by simp only; omega, by simp only; rw [hsn, hc, h2]; omega⟩ (by simp only; omega)
  · refine pIf_f (by simpa using hi) (fgt_here hle ?_)
    have : i = 6 := by omega
    subst this
    have e : n = openN t := by rw [h2]; rfl
    rw [e]; exact k

def allFrom (T : List Task) : Nat → Int → List Task
  | 0, _ => []
  | n + 1, p => (if hasB T p then [tk T p] else []) ++ allFrom T n (p + 1)
def all (T : List Task) : List Task := allFrom T 8 1

theorem allFrom_len (T : List Task) : ∀ n p, (allFrom T n p).length ≤ n
  | 0, _ => by simp [allFrom]
  | n + 1, p => by
    have := allFrom_len T n (p + 1)
    simp only [allFrom, List.length_append]
    split <;> simp <;> omega

/-- A slice of tasks. -/
def SlT (h : Heap) (s : Sl) (l : List Task) : Prop := s.vals 49 h (encT l) ∧ s.len = l.length
theorem encT_len (l : List Task) : (encT l).length = l.length * 49 := flat_len Task.enc 49 Task.len l
theorem encT_one (l : List Task) : oneCells (encT l) := by
  intro v hv
  obtain ⟨t, _, hv⟩ := List.mem_flatMap.1 hv
  exact task_one t v hv
theorem encT_app (l m : List Task) : encT (l ++ m) = encT l ++ encT m := by simp [encT]

theorem all_ok {h : Heap} {b : Nat} {T : List Task} (t : Tab h b T) {KP K : Value → Pr} (k : ∀ s h', Heap.le h h' → SlT h' s (all T) → K (.slice s.base s.len s.cap) h') : WpCall Try.prog 16 #[.pointer (some ⟨b, 0, none⟩)] KP K h := by
  refine tasks_Table_All_call _ ?_
  unfold tasks_Table_All
  have ho0 : Own 49 h h ⟨none, 0, 0⟩ (encT []) := Own.none 49 h h
  have hl0 : [] ++ allFrom T ((9 : Int) - 1).toNat 1 = all T := by rw [List.nil_append, show ((9 : Int) - 1).toNat = 8 from rfl]; unfold all; rfl
  refine pLoop_rule (fun s h' => Heap.le h h' ∧ 1 ≤ s.2.1 ∧ s.2.1 ≤ 9 ∧ ∃ l, Own 49 h h' s.1 (encT l) ∧ l ++ allFrom T (9 - s.2.1).toNat s.2.1 = all T) (fun s => (9 - s.2.1).toNat) ?_ ?_
  rotate_left
  · refine ⟨Heap.le_refl _, ?_, ?_, ?_⟩
    · show (1 : Int) ≤ 1; omega
    · show (1 : Int) ≤ 9; omega
    · refine ⟨[], ?_, ?_⟩
      · exact ho0
      · exact hl0
  rintro ⟨s, p, ⟨⟩⟩ h' kk ⟨hle, h0, h1, l, ho, hl⟩ hk
  simp only at h0 h1 ho hl hk ⊢
  unfold tasks_Table_All_l2 tasks_Table_All_j1 pJoin
  have hlen : l.length ≤ 8 := by
    have := congrArg List.length hl
    have h8 := allFrom_len T 8 1
    simp only [List.length_append] at this
    unfold all at this; omega
  by_cases hp : p ≤ 8
  · have e : (9 - p).toNat = (8 - p).toNat + 1 := by omega
    have e2 : (9 - (p + 1)).toNat = (8 - p).toNat := by omega
    rw [e, allFrom] at hl
    refine pIf_t (by simpa using hp) ?_
    refine get_ok (t.le hle) p ⟨((if hasB T p = true then tk T p else Task.z).enc, hasB T p, ()), rfl, ?_⟩
    intro b6 hb6
    refine pStA_new zc_tlen (Task.len _) (task_one _) ?_
    have hle6 := fun y => Heap.le_set_new (x := y) hle hb6
    have ho6 : ∀ y, Own 49 h (h'.set b6 y) s (encT l) := fun y => ho.keep (Heap.le_set_new (Heap.le_refl _) hb6 y)
    rw [wrap_small (by omega) (by omega)]
    refine pIf_i (fun hz => ?_) (fun hz => ?_)
    · simp only at hz
      rw [if_pos hz] at hl ⊢
      refine pLdA_i (vals_whole (Heap.set_same _ _ _) (Task.len _)) (pAssert_i (Task.len _) ?_)
      intro b8 hb8
      have hcs : lay (reps 1 (zc Try.prog 39)) [(0, .agg (tk T p).enc.toArray)] = encT [tk T p] := by
        simp only [lay, reps, List.replicate_one, List.flatten_cons, List.flatten_nil, List.append_nil, encT, List.flatMap_cons, List.flatMap_nil]
        exact splice_whole (by rw [zc_tlen]; rfl)
      rw [hcs]
      refine append_own (h0 := h) ((ho6 _).keep (Heap.le_set_new (Heap.le_refl _) hb8 _)) (new := encT [tk T p]) ?_ (Heap.le_set_new (hle6 _) hb8 _) ?_ (encT_one _) ?_
      · show Heap.vals _ ⟨b8, 0, none⟩ (1 * 49) = _
        exact vals_whole (Heap.set_same _ _ _) (by rw [encT_len]; rfl)
      · have := ho.1
        rw [encT_len] at this
        have : s.len = l.length := by omega
        show (s.len + 1) * 392 ≤ 140737488355328; omega
      · intro s' h2 hle2 ho2 hs2
        refine hk _ _ ⟨hle2, by simp only; omega, by simp only; omega, l ++ [tk T p], by rw [encT_app]; exact ho2, ?_⟩ (by simp only; omega)
        simp only
        rw [e2, List.append_assoc]; exact hl
    · simp only at hz
      rw [if_neg (by rw [hz]; simp)] at hl
      refine hk _ _ ⟨hle6 _, by simp only; omega, by simp only; omega, l, ho6 _, ?_⟩ (by simp only; omega)
      simp only
      rw [e2]; simpa using hl
  · refine pIf_f (by simpa using hp) ?_
    have : p = 9 := by omega
    subst this
    have e : l = all T := by rw [← hl]; simp [allFrom]
    subst e
    refine fgt_here (Heap.le_refl _) (k _ _ hle ⟨ho.vals, ?_⟩)
    have := ho.1
    rw [encT_len] at this; omega

end Go.Proofs.Ytgheplpbffanoaa
