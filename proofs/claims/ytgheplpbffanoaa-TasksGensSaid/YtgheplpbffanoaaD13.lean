import Derived.Test.YtgheplpbffanoaaD12
import Derived.Test.YtgheplpbffanoaaHl18
set_option linter.unusedVariables false
set_option linter.unusedSimpArgs false
namespace Go.Proofs.Ytgheplpbffanoaa
open Go.Hl
attribute [local irreducible] loadF zc sizeP bytesP vcBody

theorem le_set_out {g h : Heap} {b : Nat} {x : Blk} (l : Heap.le g h) (e : g b = none) : Heap.le g (h.set b x) := fun i y hy => by
  by_cases hi : i = b
  · subst hi; rw [e] at hy; cases hy
  · rw [Heap.set_ne _ _ hi]; exact l _ _ hy

/-- All, with its block. -/
theorem allOwn_ok {h : Heap} {b : Nat} {T : List Task} (t : Tab h b T) {KP K : Value → Pr} (k : ∀ s h', Heap.le h h' → Own 49 h h' s (encT (all T)) → K (.slice s.base s.len s.cap) h') : WpCall Try.prog 16 #[.pointer (some ⟨b, 0, none⟩)] KP K h := by
  refine tasks_Table_All_call _ ?_
  unfold tasks_Table_All
  have ho0 : Own 49 h h ⟨none, 0, 0⟩ (encT []) := Own.none 49 h h
  have hl0 : [] ++ allFrom T ((9 : Int) - 1).toNat 1 = all T := by rw [List.nil_append, show ((9 : Int) - 1).toNat = 8 from rfl]; unfold all; rfl
  refine pLoop_rule (fun s h' => Heap.le h h' ∧ 1 ≤ s.2.1 ∧ s.2.1 ≤ 9 ∧ ∃ l, Own 49 h h' s.1 (encT l) ∧ l ++ allFrom T (9 - s.2.1).toNat s.2.1 = all T) (fun s => (9 - s.2.1).toNat) ?_ ?_
  rotate_left
  · refine ⟨Heap.le_refl _, ?_, ?_, ?_⟩
    · show (1 : Int) ≤ 1; omega
    · show (1 : Int) ≤ 9; omega
    · refine ⟨[], ?_, ?_⟩
      · exact ho0
      · exact hl0
  rintro ⟨s, p, ⟨⟩⟩ h' kk ⟨hle, h0, h1, l, ho, hl⟩ hk
  simp only at h0 h1 ho hl hk ⊢
  unfold tasks_Table_All_l2 tasks_Table_All_j1 pJoin
  have hlen : l.length ≤ 8 := by
    have := congrArg List.length hl
    have h8 := allFrom_len T 8 1
    simp only [List.length_append] at this
    unfold all at this; omega
  by_cases hp : p ≤ 8
  · have e : (9 - p).toNat = (8 - p).toNat + 1 := by omega
    have e2 : (9 - (p + 1)).toNat = (8 - p).toNat := by omega
    rw [e, allFrom] at hl
    refine pIf_t (by simpa using hp) ?_
    refine get_ok (t.le hle) p ⟨((if hasB T p = true then tk T p else Task.z).enc, hasB T p, ()), rfl, ?_⟩
    intro b6 hb6
    refine pStA_new zc_tlen (Task.len _) (task_one _) ?_
    have hle6 := fun y => Heap.le_set_new (x := y) hle hb6
    have ho6 : ∀ y, Own 49 h (h'.set b6 y) s (encT l) := fun y => ho.keep (Heap.le_set_new (Heap.le_refl _) hb6 y)
    rw [wrap_small (by omega) (by omega)]
    refine pIf_i (fun hz => ?_) (fun hz => ?_)
    · simp only at hz
      rw [if_pos hz] at hl ⊢
      refine pLdA_i (vals_whole (Heap.set_same _ _ _) (Task.len _)) (pAssert_i (Task.len _) ?_)
      intro b8 hb8
      have hcs : lay (reps 1 (zc Try.prog 39)) [(0, .agg (tk T p).enc.toArray)] = encT [tk T p] := by
        simp only [lay, reps, List.replicate_one, List.flatten_cons, List.flatten_nil, List.append_nil, encT, List.flatMap_cons, List.flatMap_nil]
        exact splice_whole (by rw [zc_tlen]; rfl)
      rw [hcs]
      refine append_own (h0 := h) ((ho6 _).keep (Heap.le_set_new (Heap.le_refl _) hb8 _)) (new := encT [tk T p]) ?_ (Heap.le_set_new (hle6 _) hb8 _) ?_ (encT_one _) ?_
      · show Heap.vals _ ⟨b8, 0, none⟩ (1 * 49) = _
        exact vals_whole (Heap.set_same _ _ _) (by rw [encT_len]; rfl)
      · have := ho.1
        rw [encT_len] at this
        have : s.len = l.length := by omega
        show (s.len + 1) * 392 ≤ 140737488355328; omega
      · intro s' h2 hle2 ho2 hs2
        refine hk _ _ ⟨hle2, by simp only; omega, by simp only; omega, l ++ [tk T p], by rw [encT_app]; exact ho2, ?_⟩ (by simp only; omega)
        simp only
        rw [e2, List.append_assoc]; exact hl
    · simp only at hz
      rw [if_neg (by rw [hz]; simp)] at hl
      refine hk _ _ ⟨hle6 _, by simp only; omega, by simp only; omega, l, ho6 _, ?_⟩ (by simp only; omega)
      simp only
      rw [e2]; simpa using hl
  · refine pIf_f (by simpa using hp) ?_
    have : p = 9 := by omega
    subst this
    have e : l = all T := by rw [← hl]; simp [allFrom]
    subst e
    exact fgt_here (Heap.le_refl _) (k _ _ hle ho)

/-- Both tables, at two places that the beginning knows nothing of. -/
structure Pair (h H : Heap) (bt bw : Nat) (T : List Task) : Prop where
  le : Heap.le h H
  t : Tab H bt T
  u : Tab H bw T
  w : TW T
/-- A copy and what was. -/
def Kept (bt bw : Nat) (H : Heap) (c : Option Addr) (was : Sl) : Prop := c = none ∨ ∃ bc Tc g, c = some ⟨bc, 0, none⟩ ∧ Heap.le g H ∧ g bt = none ∧ g bw = none ∧ Tab g bc Tc ∧ SlT g was (all Tc)

theorem Pair.op {h H : Heap} {bt bw : Nat} {T : List Task} (p : Pair h H bt bw T) (hbt : h bt = none) (hbw : h bw = none) (hne : bt ≠ bw) {T' : List Task} (w : TW T') : Pair h (Both H bt bw T') bt bw T' where
  le := le_set_out (le_set_out p.le hbt) hbw
  t := ⟨by unfold Both; rw [Heap.set_ne _ _ hne]; exact Heap.set_same _ _ _, w.len⟩
  u := ⟨Heap.set_same _ _ _, w.len⟩
  w := w
theorem Kept.op {H : Heap} {bt bw : Nat} {c : Option Addr} {was : Sl} (k : Kept bt bw H c was) (T' : List Task) : Kept bt bw (Both H bt bw T') c was := by
  rcases k with k | ⟨bc, Tc, g, h1, h2, h3, h4, h5⟩
  · exact .inl k
  · exact .inr ⟨bc, Tc, g, h1, le_set_out (le_set_out h2 h3) h4, h3, h4, h5⟩
theorem Kept.le {H H' : Heap} {bt bw : Nat} {c : Option Addr} {was : Sl} (k : Kept bt bw H c was) (l : Heap.le H H') : Kept bt bw H' c was := by
  rcases k with k | ⟨bc, Tc, g, h1, h2, h3⟩
  · exact .inl k
  · exact .inr ⟨bc, Tc, g, h1, Heap.le_trans h2 l, h3⟩
theorem Pair.le' {h H H' : Heap} {bt bw : Nat} {T : List Task} (p : Pair h H bt bw T) (l : Heap.le H H') : Pair h H' bt bw T := ⟨Heap.le_trans p.le l, p.t.le l, p.u.le l, p.w⟩

theorem kept_new {h H : Heap} {bt bw bc : Nat} {T : List Task} (p : Pair h H bt bw T) (hc : H bc = none) {s : Sl} {H2 : Heap} (l2 : Heap.le (H.set bc (.row (encT T) 441)) H2) (o : Own 49 (H.set bc (.row (encT T) 441)) H2 s (encT (all T))) : Kept bt bw H2 (some ⟨bc, 0, none⟩) s := by
  have n1 : bc ≠ bt := fun e => by subst e; rw [p.t.blk] at hc; cases hc
  have n2 : bc ≠ bw := fun e => by subst e; rw [p.u.blk] at hc; cases hc
  refine .inr ⟨bc, T, (H2.del bt).del bw, rfl, Heap.le_trans (Heap.del_le _ _) (Heap.del_le _ _), ?_, Heap.del_same _ _, ⟨?_, p.w.len⟩, ?_⟩
  · by_cases e : bt = bw
    · rw [e]; exact Heap.del_same _ _
    · rw [Heap.del_ne _ e]; exact Heap.del_same _ _
  · rw [Heap.del_ne _ n2, Heap.del_ne _ n1]; exact l2 _ _ (Heap.set_same _ _ _)
  · have hl : s.len = (all T).length := by have := o.1; rw [encT_len] at this; omega
    refine ⟨?_, hl⟩
    obtain ⟨h1, ⟨e1, e2, e3⟩ | ⟨bo, tot, e1, e2, e3, e4⟩⟩ := o
    · unfold Sl.vals; rw [e1]; simp only
      refine ⟨e2, ?_⟩
      apply List.length_eq_zero_iff.1; rw [h1, e2]
    · have m1 : bo ≠ bt := fun e => by
        subst e
        rw [Heap.set_ne _ _ (fun e => n1 e.symm), p.t.blk] at e2; cases e2
      have m2 : bo ≠ bw := fun e => by
        subst e
        rw [Heap.set_ne _ _ (fun e => n2 e.symm), p.u.blk] at e2; cases e2
      unfold Sl.vals; rw [e1]; simp only
      rw [vals_row (by rw [Heap.del_ne _ m2, Heap.del_ne _ m1]; exact e3)]
      exact cut_all' h1

set_option maxHeartbeats 4000000 in
theorem plays_law {h : Heap} {s : Sl} {l : List Op} (hs : SlE Op.enc 9 h s l) (hl : s.len ≤ 9223372036854775807) (cut : Int) {KP K : Value → Pr} (k : K (.bool true) h) :
    WpCall Try.prog 6 #[.slice s.base s.len s.cap, .int .u8 cut] KP K h := by
  refine law24_TasksPlays_call _ _ ?_
  unfold law24_TasksPlays
  refine alive_law ⟨true, rfl, pIf_f rfl ?_⟩
  refine new_ok fun bt hbt => ⟨some ⟨bt, 0, none⟩, rfl, ?_⟩
  refine refNew_ok fun bw hbw => ⟨some ⟨bw, 0, none⟩, rfl, ?_⟩
  rw [Heap.set_none] at hbw
  obtain ⟨hne', hbw⟩ := hbw
  have hne : bt ≠ bw := fun e => hne' e.symm
  have p0 : Pair h ((h.set bt (.row (encT newT) 441)).set bw (.row (encT newT) 441)) bt bw newT := ⟨le_set_out (le_set_out (Heap.le_refl _) hbt) hbw, ⟨by rw [Heap.set_ne _ _ hne]; exact Heap.set_same _ _ _, rfl⟩, ⟨Heap.set_same _ _ _, rfl⟩, newT_w⟩
  generalize (h.set bt (.row (encT newT) 441)).set bw (.row (encT newT) 441) = H0 at p0
  refine pLoop_rule (fun (st : Option Addr × Sl × Int × Unit) H => 0 ≤ st.2.2.1 ∧ st.2.2.1 ≤ 80 ∧ (∃ T, Pair h H bt bw T) ∧ Kept bt bw H st.1 st.2.1) (fun st => (80 - st.2.2.1).toNat) ?_ ?_
  rotate_left
  · exact ⟨by show (0 : Int) ≤ 0; omega, by show (0 : Int) ≤ 80; omega, ⟨newT, p0⟩, .inl rfl⟩
  rintro ⟨c, was, i, ⟨⟩⟩ H kk ⟨i0, i1, ⟨T, p⟩, hkept⟩ hk
  simp only at i0 i1 hkept hk ⊢
  unfold law24_TasksPlays_l5 pJoin
  -- the end
  have fin : law24_TasksPlays_j4 s cut (fgt KP) (fgt K) (some ⟨bt, 0, none⟩) (some ⟨bw, 0, none⟩) kk c was i false H := by
    unfold law24_TasksPlays_j4 pJoin law24_TasksPlays_j3
    refine pIf_f rfl ?_
    rcases hkept with rfl | ⟨bc, Tc, g, rfl, l1, l2, l3, l4, l5⟩
    · exact pIf_t rfl (fgt_here p.le k)
    · refine pIf_f rfl ?_
      refine all_ok (l4.le l1) fun s2 H2 hl2 hs2 => ⟨s2, rfl, ?_⟩
      refine refSame_ok hs2 (l5.le (Heap.le_trans l1 hl2)) (all_len Tc) ⟨true, rfl, ?_⟩
      exact fgt_here (Heap.le_trans p.le hl2) k
  by_cases hi : i < (s.len : Int)
  · refine pIf_t (by simpa using hi) ?_
    by_cases hi8 : i < 80
    · show law24_TasksPlays_j4 _ _ _ _ _ _ _ _ _ _ (decide (i < 80)) _
      rw [decide_eq_true hi8]
      have hlt : i.toNat < l.length := by rw [← hs.1]; omega
      -- the op itself
      have body : ∀ (c : Option Addr) (was : Sl) (H : Heap), Pair h H bt bw T → Kept bt bw H c was → law24_TasksPlays_j2 s (fgt KP) (fgt K) (some ⟨bt, 0, none⟩) (some ⟨bw, 0, none⟩) kk i c was H := fun c was H p hkept => by
        unfold law24_TasksPlays_j2 law24_TasksPlays_j1 pJoin
        obtain ⟨a, ha, hv⟩ := hs.2 i.toNat hlt
        refine pIdx_i i0 (by omega) (pSome_i ha (pLdA_i (vals_le p.le hv) ?_))
        refine do_ok p.t p.u hne p.w _ ⟨true, rfl, pIf_f rfl ?_⟩
        have p2 := p.op hbt hbw hne (doF_w p.w l[i.toNat])
        refine pIdx_i i0 (by omega) (pSome_i ha (pLdA_i (vals_le p2.le hv) ?_))
        refine same_ok p2.t p2.u p2.w _ ⟨true, rfl, pIf_f rfl ?_⟩
        rw [wrap_small (by omega) (by omega)]
        exact hk _ _ ⟨by simp only; omega, by simp only; omega, ⟨_, p2⟩, hkept.op _⟩ (by simp only; omega)
      unfold law24_TasksPlays_j4 pJoin
      refine pIf_t rfl (pAssert_i (by decide) ?_)
      refine pIf_i (fun hz => ?_) (fun hz => ?_)
      · refine copy_ok p.t fun bc hc => ⟨some ⟨bc, 0, none⟩, rfl, ?_⟩
        have lc : Heap.le H (H.set bc (.row (encT T) 441)) := Heap.le_set_new (Heap.le_refl _) hc _
        refine allOwn_ok (p.t.le lc) fun s2 H2 l2 o2 => ⟨s2, rfl, ?_⟩
        exact body (some ⟨bc, 0, none⟩) s2 H2 (p.le' (Heap.le_trans lc l2)) (kept_new p hc l2 o2)
      · exact body c was H p hkept
    · show law24_TasksPlays_j4 _ _ _ _ _ _ _ _ _ _ (decide (i < 80)) _
      rw [decide_eq_false hi8]
      exact fin
  · refine pIf_f (by simpa using hi) ?_
    exact fin
end Go.Proofs.Ytgheplpbffanoaa
