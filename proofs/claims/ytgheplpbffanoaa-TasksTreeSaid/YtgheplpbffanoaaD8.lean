import Derived.Test.YtgheplpbffanoaaD7
set_option linter.unusedVariables false
set_option linter.unusedSimpArgs false
namespace Go.Proofs.Ytgheplpbffanoaa
open Go.Hl
attribute [local irreducible] loadF zc sizeP bytesP vcBody

def encI (n : Int) : List Value := [.int .i64 n]
abbrev encL (l : List Int) : List Value := l.flatMap encI
theorem encI_len (n : Int) : (encI n).length = 1 := rfl
def SlI (h : Heap) (s : Sl) (l : List Int) : Prop := s.vals 1 h (encL l) ∧ s.len = l.length
theorem SlI.le {h h' : Heap} {s : Sl} {l : List Int} (t : SlI h s l) (hl : Heap.le h h') : SlI h' s l := ⟨Sl.vals_le hl t.1, t.2⟩
def memI (l : List Int) (v : Int) : Bool := l.any (fun x => v == x)
theorem memI_snoc (l : List Int) (p v : Int) : memI (l ++ [p]) v = (memI l v || (v == p)) := by simp [memI]

theorem indexInt_ok {h : Heap} {s : Sl} {l : List Int} (hs : SlI h s l) (hb : l.length < 9223372036854775807) (v : Int) {KP K : Value → Pr} (k : K (.int .i64 (idxOf (fun x => v == x) l)) h) : WpCall Try.prog 78 #[.slice s.base s.len s.cap, .int .i64 v] KP K h := by
  refine slices_Index_int_int_call _ _ ?_
  unfold slices_Index_int_int slices_Index_int_int_l1
  exact loop_indexInt encI_len hs.1 hs.2 hb (val := fun x => x) (fun _ => rfl) rfl (fgt_mk k)
theorem containsInt_ok {h : Heap} {s : Sl} {l : List Int} (hs : SlI h s l) (hb : l.length < 9223372036854775807) (v : Int) {KP K : Value → Pr} (k : K (.bool (memI l v)) h) : WpCall Try.prog 52 #[.slice s.base s.len s.cap, .int .i64 v] KP K h := by
  refine slices_Contains_int_int_call _ _ ?_
  unfold slices_Contains_int_int
  refine indexInt_ok hs hb v ⟨_, rfl, ?_⟩
  unfold memI at k
  rw [← idxOf_any] at k; exact fgt_mk k

/- Up: a task, its parent, and so on. -/
def upFrom (T : List Task) : Nat → List Int → Int → List Int
  | 0, l, _ => l
  | n + 1, l, p => if hasB T p = true ∧ memI l p = false then upFrom T n (l ++ [p]) (tk T p).ppid else l
def upL (T : List Task) (pid : Int) : List Int := upFrom T 9 [] pid
theorem upFrom_len (T : List Task) : ∀ n (l : List Int) (p : Int), (upFrom T n l p).length ≤ l.length + n
  | 0, l, _ => by simp [upFrom]
  | n + 1, l, p => by
    unfold upFrom
    split
    · have := upFrom_len T n (l ++ [p]) (tk T p).ppid
      simp at this; omega
    · omega
def ms (l : List Int) (q : Int) : Nat := if memI l q then 0 else 1
theorem ms_snoc (l : List Int) (p q : Int) : ms (l ++ [p]) q = if q = p then 0 else ms l q := by
  unfold ms; rw [memI_snoc]
  by_cases h : q = p <;> simp [h]
def miss (l : List Int) : Nat := ms l 1 + ms l 2 + ms l 3 + ms l 4 + ms l 5 + ms l 6 + ms l 7 + ms l 8
theorem miss_snoc (l : List Int) (p : Int) (h1 : 1 ≤ p) (h9 : p < 9) (hm : memI l p = false) : miss (l ++ [p]) + 1 = miss l := by
  have hp : ms l p = 1 := by simp [ms, hm]
  have : p = 1 ∨ p = 2 ∨ p = 3 ∨ p = 4 ∨ p = 5 ∨ p = 6 ∨ p = 7 ∨ p = 8 := by omega
  unfold miss
  simp only [ms_snoc]
  rcases this with rfl | rfl | rfl | rfl | rfl | rfl | rfl | rfl <;> simp <;> omega

theorem encL_len (l : List Int) : (encL l).length = l.length := by rw [encL, flat_len encI 1 encI_len, Nat.mul_one]
theorem encL_one (l : List Int) : oneCells (encL l) := by
  intro v hv
  obtain ⟨t, _, hv⟩ := List.mem_flatMap.1 hv
  simp [encI] at hv; subst hv; rfl
theorem encL_app (l m : List Int) : encL (l ++ m) = encL l ++ encL m := by simp [encL]
theorem lay_int (x : Int) : lay (reps 1 (zc Try.prog 3)) [(0, .int .i64 x)] = encL [x] := by rw [zc_int]; rfl

/-- One number more. -/
theorem append_int {h0 h : Heap} {s : Sl} {l : List Int} {x : Int} {k : Sl → Pr} (o : Own 1 h0 h s (encL l)) (hle : Heap.le h0 h) (hl : l.length < 1000000)
    (hk : ∀ s' h', Heap.le h0 h' → Own 1 h0 h' s' (encL (l ++ [x])) → k s' h') : pNew (lay (reps 1 (zc Try.prog 3)) [(0, .int .i64 x)]) (fun b => pAppend 1 8 s ⟨some ⟨b, 0, none⟩, 1, 1⟩ k) h := by
  intro b hb
  rw [lay_int]
  refine append_own (o.keep (Heap.le_set_new (Heap.le_refl _) hb _)) (new := encL [x]) ?_ (Heap.le_set_new hle hb _) ?_ (encL_one _) ?_
  · show Heap.vals _ ⟨b, 0, none⟩ (1 * 1) = _
    exact vals_whole (Heap.set_same _ _ _) (by rw [encL_len]; rfl)
  · have := o.1
    rw [encL_len] at this
    show (s.len + 1) * 8 ≤ 140737488355328; omega
  · intro s' h2 hle2 ho2 hs2
    refine hk _ _ hle2 ?_
    rw [encL_app]; exact ho2
theorem own_slI {h0 h : Heap} {s : Sl} {l : List Int} (o : Own 1 h0 h s (encL l)) : SlI h s l := by
  refine ⟨o.vals, ?_⟩
  have := o.1
  rw [encL_len] at this; omega

set_option maxHeartbeats 1000000 in
theorem up_ok {h : Heap} {b : Nat} {T : List Task} (t : Tab h b T) (w : TW T) (pid : Int) {KP K : Value → Pr} (k : ∀ s h', Heap.le h h' → SlI h' s (upL T pid) → K (.slice s.base s.len s.cap) h') : WpCall Try.prog 18 #[.pointer (some ⟨b, 0, none⟩), .int .i64 pid] KP K h := by
  refine tasks_Table_Up_call _ _ ?_
  unfold tasks_Table_Up
  refine at_ok t pid ⟨_, rfl, ?_⟩
  refine pLoop_rule (fun (st : Sl × Option Addr × Unit) h' => Heap.le h h' ∧ ∃ l p, Own 1 h h' st.1 (encL l) ∧ st.2.1 = (if hasB T p then some ⟨b, p.toNat * 49, none⟩ else none) ∧ miss l + l.length = 8 ∧ upFrom T (miss l + 1) l p = upL T pid) (fun st => 9 - st.1.len) ?_ ?_
  rotate_left
  · exact ⟨Heap.le_refl _, [], pid, Own.none 1 h h, rfl, rfl, rfl⟩
  rintro ⟨s, x, ⟨⟩⟩ h' kk ⟨hle, l, p, ho, hx, hm, hu⟩ hk
  simp only at ho hx hu hk ⊢
  unfold tasks_Table_Up_l2 tasks_Table_Up_j1 pJoin
  have t' := t.le hle
  have hlen : s.len = l.length := (own_slI ho).2
  subst hx
  rw [upFrom] at hu
  by_cases hh : hasB T p = true
  · have hr := has_lt hh
    have hpid := (w.has hh).2.2
    rw [if_pos hh]
    simp only [add_mk, Nat.zero_add, Nat.add_zero, pSome_some]
    refine pIf_t rfl ?_
    refine tab_ld0 t' (by omega) hr.2 ?_
    rw [hpid]
    refine containsInt_ok (own_slI ho) (by omega) p ⟨memI l p, rfl, ?_⟩
    refine pIf_i (fun hz => ?_) (fun hz => ?_)
    · have hmp : memI l p = false := by simpa using hz
      rw [if_pos ⟨hh, hmp⟩] at hu
      have hms := miss_snoc l p hr.1 hr.2 hmp
      refine tab_ld0 t' (by omega) hr.2 ?_
      rw [hpid]
      refine append_int ho hle (by omega) ?_
      intro s' h2 hle2 ho2
      refine tab_ld (t.le hle2) (by omega) hr.2 (k := 2) rfl ?_
      refine at_ok (t.le hle2) _ ⟨_, rfl, ?_⟩
      have hl2 : s'.len = l.length + 1 := by have := (own_slI ho2).2; simpa using this
      refine hk _ _ ⟨hle2, l ++ [p], (tk T p).ppid, ho2, rfl, by simp; omega, ?_⟩ (by simp only; omega)
      rw [hms]; exact hu
    · have hmp : memI l p = true := by simpa using hz
      rw [if_neg (by simp [hmp])] at hu
      refine fgt_mk ?_
      refine k _ _ hle ?_
      rw [← hu]; exact (own_slI ho)
  · have hh' : hasB T p = false := by simpa using hh
    rw [if_neg (by simp [hh'])] at hu
    simp only [hh']
    refine pIf_f rfl (pIf_f rfl (fgt_mk ?_))
    refine k _ _ hle ?_
    rw [← hu]; exact (own_slI ho)
set_option maxHeartbeats 1000000 in
theorem refUp_ok {h : Heap} {b : Nat} {T : List Task} (t : Tab h b T) (w : TW T) (pid : Int) {KP K : Value → Pr} (k : ∀ s h', Heap.le h h' → SlI h' s (upL T pid) → K (.slice s.base s.len s.cap) h') : WpCall Try.prog 59 #[.pointer (some ⟨b, 0, none⟩), .int .i64 pid] KP K h := by
  refine ref24_Table_Up_call _ _ ?_
  unfold ref24_Table_Up
  refine pLoop_rule (fun (st : Int × Sl × Int × Unit) h' => Heap.le h h' ∧ ∃ l, Own 1 h h' st.2.1 (encL l) ∧ st.2.2.1 = l.length ∧ miss l + l.length = 8 ∧ upFrom T (miss l + 1) l st.1 = upL T pid) (fun st => 9 - st.2.1.len) ?_ ?_
  rotate_left
  · exact ⟨Heap.le_refl _, [], Own.none 1 h h, rfl, rfl, rfl⟩
  rintro ⟨p, s, i, ⟨⟩⟩ h' kk ⟨hle, l, ho, hi, hm, hu⟩ hk
  simp only at ho hi hu hk ⊢
  unfold ref24_Table_Up_l3 ref24_Table_Up_j2 pJoin
  simp only [add_mk, Nat.zero_add, Nat.add_zero, pSome_some]
  have t' := t.le hle
  have hlen : s.len = l.length := (own_slI ho).2
  subst hi
  rw [upFrom] at hu
  have stop : (hasB T p = true ∧ memI l p = false → False) → fgt K (.slice s.base s.len s.cap) h' := fun hn => by
    rw [if_neg hn] at hu
    refine fgt_mk (k _ _ hle ?_)
    rw [← hu]; exact (own_slI ho)
  refine pIf_t (by simp; omega) ?_
  refine refHas_ok t' w p ⟨hasB T p, rfl, ?_⟩
  refine pIf_i (fun hz => ?_) (fun hz => ?_)
  · have hh : hasB T p = true := hz
    have hr := has_lt hh
    refine pLoop_rule (fun (s1 : Int × Unit) H => H = h' ∧ 0 ≤ s1.1 ∧ s1.1 ≤ l.length ∧ memI l p = memI (l.drop s1.1.toNat) p) (fun s1 => (l.length - s1.1).toNat) ?_ ?_
    rotate_left
    · exact ⟨rfl, by show (0 : Int) ≤ 0; omega, by show (0 : Int) ≤ _; omega, rfl⟩
    rintro ⟨j, ⟨⟩⟩ H kk2 ⟨rfl, j0, j1, j2⟩ hk2
    simp only at j0 j1 j2 hk2 ⊢
    unfold ref24_Table_Up_l1
    simp only [add_mk, Nat.zero_add, Nat.add_zero, pSome_some]
    by_cases hj : j < l.length
    · have hlt : j.toNat < l.length := by omega
      obtain ⟨a, ha, hv⟩ := sl_elem encI_len (own_slI ho).1 (own_slI ho).2 hlt
      rw [List.drop_eq_getElem_cons hlt] at j2
      rw [ha]
      simp only [add_mk, Nat.zero_add, Nat.add_zero, pSome_some]
      refine pIf_t (by rw [hlen]; simpa using hj) (pIdx_i j0 (by rw [hlen]; omega) ?_)
      refine pLd_i (l[j.toNat]) (vals_cell1 hv) ?_
      refine pIf_i (fun hz => ?_) (fun hz => ?_)
      · have hq : l[j.toNat] = p := by simpa using hz
        rw [← ha]
        refine stop (fun hn => ?_)
        have : memI l p = true := by rw [j2]; simp [memI, hq]
        rw [hn.2] at this; cases this
      · have hq : ¬ l[j.toNat] = p := by simpa using hz
        rw [wrap_small (by omega) (by omega)]
        refine hk2 _ _ ⟨rfl, by simp only; omega, by simp only; omega, ?_⟩ (by simp only; omega)
        simp only
        rw [show (j + 1).toNat = j.toNat + 1 by omega, j2]
        have hq' : ¬ p = l[j.toNat] := fun e => hq e.symm
        have hq2 : (p == l[j.toNat]) = false := by simpa using hq'
        simp only [memI, List.any_cons, hq2, Bool.false_or]
    · refine pIf_f (by rw [hlen]; simpa using hj) ?_
      have hmp : memI l p = false := by rw [j2, List.drop_eq_nil_of_le (by omega)]; rfl
      rw [if_pos ⟨hh, hmp⟩] at hu
      have hms := miss_snoc l p hr.1 hr.2 hmp
      refine append_int ho hle (by omega) ?_
      intro s' h2 hle2 ho2
      refine pIdx_i (by omega) (by omega) ?_
      refine tab_ld (t.le hle2) (by omega) hr.2 (k := 2) rfl ?_
      have hl2 : s'.len = l.length + 1 := by have := (own_slI ho2).2; simpa using this
      rw [wrap_small (by omega) (by omega)]
      refine hk _ _ ⟨hle2, l ++ [p], ho2, by simp, by simp; omega, ?_⟩ (by simp only; omega)
      rw [hms]; exact hu
  · exact stop (fun hn => by rw [hn.1] at hz; cases hz)
end Go.Proofs.Ytgheplpbffanoaa
