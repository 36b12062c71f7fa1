import Derived.Test.YtgheplpbffanoaaD10
set_option linter.unusedVariables false
set_option linter.unusedSimpArgs false
namespace Go.Proofs.Ytgheplpbffanoaa
open Go.Hl
attribute [local irreducible] loadF zc sizeP bytesP vcBody

theorem j8_ok {H : Heap} {bw b1 b80 : Nat} {T : List Task} {o : Op} {x : Task} {KP K : Value → Pr} (u : Tab H bw T) (w : TW T) (hb1 : H b1 = some (.row o.enc 9)) (hb80 : H b80 = some (.row x.enc 49)) (r : Int)
    (ka : aliveB T o.p = true → r = 0 ∧ fgt K (.bool true) (H.set bw (.row (encT (T.set o.p.toNat x)) 441))) (kd : aliveB T o.p = false → r = 3 ∧ fgt K (.bool true) H) :
    law24_Do_j8 (some ⟨bw, 0, none⟩) (fgt KP) (fgt K) b1 b80 r H := by
  unfold law24_Do_j8
  simp only [add_mk, Nat.zero_add, Nat.add_zero, pSome_some]
  refine ld_b hb1 (show o.enc[1]? = _ from rfl) ?_
  refine refAlive_ok u w o.p ⟨_, rfl, ?_⟩
  refine pIf_i (fun hz => ?_) (fun hz => ?_)
  · have ha : aliveB T o.p = false := by simpa using hz
    obtain ⟨rfl, k⟩ := kd ha
    exact k
  · have ha : aliveB T o.p = true := by simpa using hz
    have hr := alive_range ha
    have hlt := hr.2
    obtain ⟨rfl, k⟩ := ka ha
    refine ld_b hb1 (show o.enc[1]? = _ from rfl) ?_
    refine ldA_all hb80 rfl ?_
    refine pIdx_i (by omega) (by omega) ?_
    exact tab_set u (by omega) hlt 0 _ x (by rw [Task.len]; omega) (splice_whole (by rw [Task.len, Task.len])).symm (task_one _) (Task.len _) k

theorem sigWrap {a : Int} (h0 : 0 ≤ a) (h1 : a ≤ 63) : IntKind.u64.wrap a = a := by
  simp [IntKind.wrap, IntKind.bits, IntKind.signed]; omega

set_option maxHeartbeats 4000000 in
theorem j9_ok {H : Heap} {bt bw b1 b80 : Nat} {T : List Task} {o : Op} {KP K : Value → Pr} (t : Tab H bt T) (u : Tab H bw T) (hne : bt ≠ bw) (w : TW T) (n1 : b1 ≠ bt) (n2 : b1 ≠ bw) (n3 : b80 ≠ bt) (n4 : b80 ≠ bw) (n5 : b1 ≠ b80)
    (hb1 : H b1 = some (.row o.enc 9)) (hb80 : H b80 = some (.row (if aliveB T o.p = true then tk T o.p else Task.z).enc 49))
    (hk : ¬ o.kind.tmod 15 = 0 ∧ ¬ o.kind.tmod 15 = 1 ∧ ¬ o.kind.tmod 15 = 2 ∧ ¬ o.kind.tmod 15 = 3 ∧ ¬ o.kind.tmod 15 = 4 ∧ ¬ o.kind.tmod 15 = 5 ∧ ¬ o.kind.tmod 15 = 6 ∧ ¬ o.kind.tmod 15 = 7 ∧ ¬ o.kind.tmod 15 = 8 ∧ ¬ o.kind.tmod 15 = 9)
    (k : ∀ G, (∀ b, b ≠ bt → b ≠ bw → b ≠ b80 → G b = H b) → G bt = some (.row (encT (doF T o)) 441) → G bw = some (.row (encT (doF T o)) 441) → fgt K (.bool true) G) :
    law24_Do_j9 (some ⟨bt, 0, none⟩) (some ⟨bw, 0, none⟩) (fgt KP) (fgt K) b1 b80 H := by
  obtain ⟨m0, m1, m2, m3, m4, m5, m6, m7, m8, m9⟩ := hk
  unfold law24_Do_j9 pJoin
  simp only [add_mk, Nat.zero_add, Nat.add_zero, pSome_some]
  have n3' := n3.symm
  have n4' := n4.symm
  have n5' := n5.symm
  have hne' := hne.symm
  refine ld_b hb1 (show o.enc[0]? = _ from rfl) ?_
  refine pAssert_i (by decide) ?_
  -- the end, for a deed f
  have fin : ∀ (f : Task → Task) (x : Task), (aliveB T o.p = true → x = f (tk T o.p)) → doF T o = (onF T o.p f).1 →
      law24_Do_j8 (some ⟨bw, 0, none⟩) (fgt KP) (fgt K) b1 b80 (onF T o.p f).2 ((H.set bt (.row (encT (onF T o.p f).1) 441)).set b80 (.row x.enc 49)) := fun f x hx hd => by
    refine j8_ok (T := T) (x := x) (o := o) ⟨by rw [Heap.set_ne _ _ n4', Heap.set_ne _ _ hne']; exact u.blk, u.len⟩ w (by rw [Heap.set_ne _ _ n5, Heap.set_ne _ _ n1]; exact hb1) (Heap.set_same _ _ _) _ ?_ ?_
    · intro ha
      have e : onF T o.p f = (T.set o.p.toNat (f (tk T o.p)), 0) := by simp [onF, ha]
      rw [e] at hd ⊢
      refine ⟨rfl, k _ ?_ ?_ ?_⟩
      · intro b h1 h2 h3
        rw [Heap.set_ne _ _ h2, Heap.set_ne _ _ h3, Heap.set_ne _ _ h1]
      · rw [Heap.set_ne _ _ hne, Heap.set_ne _ _ n3', Heap.set_same, hd]
      · rw [Heap.set_same, hx ha, hd]
    · intro ha
      have e : onF T o.p f = (T, 3) := by simp [onF, ha]
      rw [e] at hd ⊢
      refine ⟨rfl, k _ ?_ ?_ ?_⟩
      · intro b h1 h2 h3
        rw [Heap.set_ne _ _ h3, Heap.set_ne _ _ h1]
      · rw [Heap.set_ne _ _ n3', Heap.set_same, hd]
      · rw [Heap.set_ne _ _ n4', Heap.set_ne _ _ hne', hd]; exact u.blk
  generalize hx0 : (if aliveB T o.p = true then tk T o.p else Task.z) = x0 at hb80
  have hxa : aliveB T o.p = true → x0 = tk T o.p := fun ha => by rw [← hx0, if_pos ha]
  refine pIf_i (fun hz => ?_) (fun hz => ?_)
  · have e : o.kind.tmod 15 = 10 := by simpa using hz
    refine ld_b hb1 (show o.enc[1]? = _ from rfl) ?_
    refine ld_b hb1 (show o.enc[2]? = _ from rfl) ?_
    refine ld_b hb1 (show o.enc[3]? = _ from rfl) ?_
    refine own_ok t o.p o.a o.b ⟨_, rfl, ?_⟩
    unfold TabTo
    apply ld_b; (· (repeat (first | exact Heap.set_same _ _ _ | assumption | refine Heap.look_ne (by (first | assumption | exact Ne.symm (by assumption) | grind)) ?_))); (· exact (show o.enc[2]? = _ from rfl))
    apply st_b; (· (repeat (first | exact Heap.set_same _ _ _ | assumption | refine Heap.look_ne (by (first | assumption | exact Ne.symm (by assumption) | grind)) ?_))); (· show 3 < 49; decide); (· rfl)
    apply ld_b; (· (repeat (first | exact Heap.set_same _ _ _ | assumption | refine Heap.look_ne (by (first | assumption | exact Ne.symm (by assumption) | grind)) ?_))); (· exact (show o.enc[3]? = _ from rfl))
    apply st_b; (· (repeat (first | exact Heap.set_same _ _ _ | assumption | refine Heap.look_ne (by (first | assumption | exact Ne.symm (by assumption) | grind)) ?_))); (· show 4 < 49; decide); (· rfl)
    rw [Heap.set_set]
    exact fin (fun x => { x with uid := o.a, gid := o.b }) { x0 with uid := o.a, gid := o.b } (fun ha => by rw [hxa ha]) (by simp [doF, e])
  have m10 : ¬ o.kind.tmod 15 = 10 := by simpa using hz
  refine pIf_i (fun hz => ?_) (fun hz => ?_)
  · have e : o.kind.tmod 15 = 11 := by simpa using hz
    refine ld_b hb1 (show o.enc[1]? = _ from rfl) ?_
    refine ld_b hb1 (show o.enc[2]? = _ from rfl) ?_
    refine chdir_ok t o.p o.a ⟨_, rfl, ?_⟩
    unfold TabTo
    apply ld_b; (· (repeat (first | exact Heap.set_same _ _ _ | assumption | refine Heap.look_ne (by (first | assumption | exact Ne.symm (by assumption) | grind)) ?_))); (· exact (show o.enc[2]? = _ from rfl))
    apply st_b; (· (repeat (first | exact Heap.set_same _ _ _ | assumption | refine Heap.look_ne (by (first | assumption | exact Ne.symm (by assumption) | grind)) ?_))); (· show 5 < 49; decide); (· rfl)
    exact fin (fun x => { x with cwd := o.a }) { x0 with cwd := o.a } (fun ha => by rw [hxa ha]) (by simp [doF, e])
  have m11 : ¬ o.kind.tmod 15 = 11 := by simpa using hz
  refine pIf_i (fun hz => ?_) (fun hz => ?_)
  · have e : o.kind.tmod 15 = 12 := by simpa using hz
    refine ld_b hb1 (show o.enc[1]? = _ from rfl) ?_
    refine ld_b hb1 (show o.enc[2]? = _ from rfl) ?_
    refine exec_ok t o.p o.a ⟨_, rfl, ?_⟩
    unfold TabTo
    apply ld_b; (· (repeat (first | exact Heap.set_same _ _ _ | assumption | refine Heap.look_ne (by (first | assumption | exact Ne.symm (by assumption) | grind)) ?_))); (· exact (show o.enc[2]? = _ from rfl))
    apply st_b; (· (repeat (first | exact Heap.set_same _ _ _ | assumption | refine Heap.look_ne (by (first | assumption | exact Ne.symm (by assumption) | grind)) ?_))); (· show 6 < 49; decide); (· rfl)
    rw [zc_areas]
    apply stA_b; (· exact Heap.set_same _ _ _); (· show 29 + 20 ≤ 49; decide); (· rfl); (· exact areas_one _)
    rw [Heap.set_set]
    exact fin (fun x => noAreas { x with exe := o.a }) (noAreas { x0 with exe := o.a }) (fun ha => by rw [hxa ha]) (by simp [doF, e])
  have m12 : ¬ o.kind.tmod 15 = 12 := by simpa using hz
  refine pIf_i (fun hz => ?_) (fun hz => ?_)
  · have e : o.kind.tmod 15 = 13 := by simpa using hz
    have ed : doF T o = (sigF T o.p o.a).1 := by simp [doF, e]
    rw [ed] at k
    refine ld_b hb1 (show o.enc[1]? = _ from rfl) ?_
    refine ld_b hb1 (show o.enc[2]? = _ from rfl) ?_
    refine signal_ok t o.p o.a ⟨(sigF T o.p o.a).2, rfl, ?_⟩
    unfold TabTo
    have u1 : Tab (H.set bt (.row (encT (sigF T o.p o.a).1) 441)) bw T := ⟨by rw [Heap.set_ne _ _ hne']; exact u.blk, u.len⟩
    have h1' : (H.set bt (.row (encT (sigF T o.p o.a).1) 441)) b1 = some (.row o.enc 9) := by rw [Heap.set_ne _ _ n1]; exact hb1
    have h8' : (H.set bt (.row (encT (sigF T o.p o.a).1) 441)) b80 = some (.row x0.enc 49) := by rw [Heap.set_ne _ _ n3]; exact hb80
    refine ld_b h1' (show o.enc[1]? = _ from rfl) ?_
    refine refAlive_ok u1 w o.p ⟨_, rfl, ?_⟩
    -- outside of the range
    have bad : (o.a < 0 ∨ o.a > 63) → aliveB T o.p = true → law24_Do_j7 (fgt K) b1 b80 (fun s => law24_Do_j8 (some ⟨bw, 0, none⟩) (fgt KP) (fgt K) b1 b80 s.1) (sigF T o.p o.a).2 true (H.set bt (.row (encT (sigF T o.p o.a).1) 441)) := fun hu ha => by
      have es : sigF T o.p o.a = (T, 22) := by simp [sigF, ha, hu]
      unfold law24_Do_j7
      rw [es] at k ⊢
      refine pIf_t rfl (k _ ?_ ?_ ?_)
      · intro b h1 h2 h3; rw [Heap.set_ne _ _ h1]
      · rw [Heap.set_same]
      · rw [Heap.set_ne _ _ hne']; exact u.blk
    have good : ¬ ((o.a < 0 ∨ o.a > 63) ∧ aliveB T o.p = true) → law24_Do_j7 (fgt K) b1 b80 (fun s => law24_Do_j8 (some ⟨bw, 0, none⟩) (fgt KP) (fgt K) b1 b80 s.1) (sigF T o.p o.a).2 false (H.set bt (.row (encT (sigF T o.p o.a).1) 441)) := fun hu => by
      unfold law24_Do_j7 pJoin
      refine pIf_f rfl ?_
      simp only [add_mk, Nat.zero_add, Nat.add_zero, pSome_some]
      have end_ : ∀ x : Task, (aliveB T o.p = true → x = { tk T o.p with sigs := bitsV .or .u64 (tk T o.p).sigs (sigBit o.a) }) → law24_Do_j8 (some ⟨bw, 0, none⟩) (fgt KP) (fgt K) b1 b80 (sigF T o.p o.a).2 ((H.set bt (.row (encT (sigF T o.p o.a).1) 441)).set b80 (.row x.enc 49)) := fun x hx => by
        refine j8_ok (T := T) (x := x) (o := o) ⟨by rw [Heap.set_ne _ _ n4']; exact u1.blk, u.len⟩ w (by rw [Heap.set_ne _ _ n5]; exact h1') (Heap.set_same _ _ _) _ ?_ ?_
        · intro ha
          have hna : ¬ (o.a < 0 ∨ o.a > 63) := fun hh => hu ⟨hh, ha⟩
          have es : sigF T o.p o.a = (T.set o.p.toNat { tk T o.p with sigs := bitsV .or .u64 (tk T o.p).sigs (sigBit o.a) }, 0) := by simp only [sigF, ha, if_true, if_neg hna]
          rw [es] at k ⊢
          refine ⟨rfl, k _ ?_ ?_ ?_⟩
          · intro b h1 h2 h3
            rw [Heap.set_ne _ _ h2, Heap.set_ne _ _ h3, Heap.set_ne _ _ h1]
          · rw [Heap.set_ne _ _ hne, Heap.set_ne _ _ n3', Heap.set_same]
          · rw [Heap.set_same, hx ha]
        · intro ha
          have es : sigF T o.p o.a = (T, 3) := by simp [sigF, ha]
          rw [es] at k ⊢
          refine ⟨rfl, k _ ?_ ?_ ?_⟩
          · intro b h1 h2 h3
            rw [Heap.set_ne _ _ h3, Heap.set_ne _ _ h1]
          · rw [Heap.set_ne _ _ n3', Heap.set_same]
          · rw [Heap.set_ne _ _ n4', Heap.set_ne _ _ hne']; exact u.blk
      have out : ¬ (o.a ≥ 0 ∧ o.a ≤ 63) → law24_Do_j6 b1 b80 (fun s => law24_Do_j8 (some ⟨bw, 0, none⟩) (fgt KP) (fgt K) b1 b80 s.1) (sigF T o.p o.a).2 false (H.set bt (.row (encT (sigF T o.p o.a).1) 441)) := fun hr => by
        unfold law24_Do_j6
        refine pIf_f rfl ?_
        have := end_ x0 (fun ha => absurd ⟨by omega, ha⟩ hu)
        rw [Heap.set_self _ h8'] at this
        exact this
      refine ld_b h1' (show o.enc[2]? = _ from rfl) ?_
      refine pIf_i (fun hy => ?_) (fun hy => ?_)
      · refine ld_b h1' (show o.enc[2]? = _ from rfl) ?_
        have hy0 : o.a ≥ 0 := by simpa using hy
        show law24_Do_j6 _ _ _ _ (decide (o.a ≤ 63)) _
        by_cases hy1 : o.a ≤ 63
        · rw [decide_eq_true hy1]
          unfold law24_Do_j6
          refine pIf_t rfl ?_
          simp only [add_mk, Nat.zero_add, Nat.add_zero, pSome_some]
          refine ld_b h8' (show x0.enc[10]? = _ from rfl) ?_
          refine ld_b h1' (show o.enc[2]? = _ from rfl) ?_
          have hsw := sigWrap hy0 hy1
          refine pAssert_i (by show (0 : Int) ≤ IntKind.u64.wrap o.a; rw [hsw]; exact hy0) ?_
          apply st_b; (· exact h8'); (· show 10 < 49; decide); (· rfl)
          rw [show IntKind.u64.wrap o.a = o.a from hsw]
          exact end_ { x0 with sigs := bitsV .or .u64 x0.sigs (sigBit o.a) } (fun ha => by rw [hxa ha])
        · rw [decide_eq_false hy1]
          exact out (fun hh => hy1 hh.2)
      · have hy0 : ¬ o.a ≥ 0 := by simpa using hy
        exact out (fun hh => hy0 hh.1)
    refine pIf_i (fun ha => ?_) (fun ha => ?_)
    · have ha' : aliveB T o.p = true := ha
      refine ld_b h1' (show o.enc[2]? = _ from rfl) ?_
      refine pIf_i (fun hy => ?_) (fun hy => ?_)
      · exact bad (.inl (by simpa using hy)) ha'
      · have hy0 : ¬ o.a < 0 := by simpa using hy
        refine ld_b h1' (show o.enc[2]? = _ from rfl) ?_
        show law24_Do_j7 _ _ _ _ _ (decide (o.a > 63)) _
        by_cases hy1 : o.a > 63
        · rw [decide_eq_true hy1]; exact bad (.inr hy1) ha'
        · rw [decide_eq_false hy1]; exact good (fun hh => by omega)
    · have ha' : aliveB T o.p = false := ha
      exact good (fun hh => by rw [ha'] at hh; cases hh.2)
  have m13 : ¬ o.kind.tmod 15 = 13 := by simpa using hz
  refine ld_b hb1 (show o.enc[1]? = _ from rfl) ?_
  refine ld_b hb1 (show o.enc[2]? = _ from rfl) ?_
  refine trace_ok t o.p o.a ⟨_, rfl, ?_⟩
  unfold TabTo
  apply ld_b; (· (repeat (first | exact Heap.set_same _ _ _ | assumption | refine Heap.look_ne (by (first | assumption | exact Ne.symm (by assumption) | grind)) ?_))); (· exact (show o.enc[2]? = _ from rfl))
  apply st_b; (· (repeat (first | exact Heap.set_same _ _ _ | assumption | refine Heap.look_ne (by (first | assumption | exact Ne.symm (by assumption) | grind)) ?_))); (· show 7 < 49; decide); (· rfl)
  exact fin (fun x => { x with tracer := o.a }) { x0 with tracer := o.a } (fun ha => by rw [hxa ha]) (by simp [doF, m0, m1, m2, m3, m4, m5, m6, m7, m8, m9, m10, m11, m12, m13])

theorem do_ok {h : Heap} {bt bw : Nat} {T : List Task} (t : Tab h bt T) (u : Tab h bw T) (hne : bt ≠ bw) (w : TW T) (o : Op) {KP K : Value → Pr}
    (k : K (.bool true) (Both h bt bw (doF T o))) :
    WpCall Try.prog 14 #[.pointer (some ⟨bt, 0, none⟩), .pointer (some ⟨bw, 0, none⟩), .agg o.enc.toArray] KP K h := by
  refine do1_ok t u hne w o k ?_
  intro b1 hb1 m0 m1 m2 m3 m4 m5 m6 m7 m8 m9
  have hB := t.blk
  have hC := u.blk
  rw [zc_task0]
  refine new_st zc_tlen (Task.len _) (task_one _) ?_
  (intro b80 hb80; try simp only [Heap.set_none] at hb80)
  unfold pJoin
  simp only [add_mk, Nat.zero_add, Nat.add_zero, pSome_some]
  have n1 : b1 ≠ bt := by (first | assumption | exact Ne.symm (by assumption) | grind)
  have n2 : b1 ≠ bw := by (first | assumption | exact Ne.symm (by assumption) | grind)
  have n3 : b80 ≠ bt := by grind
  have n4 : b80 ≠ bw := by grind
  have n5 : b1 ≠ b80 := by grind
  have u1 : Tab ((h.set b1 (.row o.enc 9)).set b80 (.row Task.z.enc 49)) bw T := ⟨by (repeat (first | exact Heap.set_same _ _ _ | assumption | refine Heap.look_ne (by (first | assumption | exact Ne.symm (by assumption) | grind)) ?_)), u.len⟩
  have key : law24_Do_j9 (some ⟨bt, 0, none⟩) (some ⟨bw, 0, none⟩) (fgt KP) (fgt K) b1 b80 ((h.set b1 (.row o.enc 9)).set b80 (.row (if aliveB T o.p = true then tk T o.p else Task.z).enc 49)) := by
    refine j9_ok (T := T) (o := o) ⟨by (repeat (first | exact Heap.set_same _ _ _ | assumption | refine Heap.look_ne (by (first | assumption | exact Ne.symm (by assumption) | grind)) ?_)), t.len⟩ ⟨by (repeat (first | exact Heap.set_same _ _ _ | assumption | refine Heap.look_ne (by (first | assumption | exact Ne.symm (by assumption) | grind)) ?_)), u.len⟩ hne w n1 n2 n3 n4 n5 (by (repeat (first | exact Heap.set_same _ _ _ | assumption | refine Heap.look_ne (by (first | assumption | exact Ne.symm (by assumption) | grind)) ?_))) (Heap.set_same _ _ _) ⟨m0, m1, m2, m3, m4, m5, m6, m7, m8, m9⟩ ?_
    intro G hG hbt hbw
    refine fgt_here ?_ k
    intro i x hx
    by_cases e1 : i = bw
    · subst e1; rw [hbw]; simpa [Both] using hx
    · by_cases e2 : i = bt
      · subst e2; rw [hbt]; rw [Both, Heap.set_ne _ _ e1] at hx; simpa using hx
      · rw [Both, Heap.set_ne _ _ e1, Heap.set_ne _ _ e2] at hx
        have e3 : i ≠ b80 := fun e => by subst e; rw [hb80.2] at hx; cases hx
        have e4 : i ≠ b1 := fun e => by subst e; rw [hb1] at hx; cases hx
        rw [hG i e2 e1 e3, Heap.set_ne _ _ e3, Heap.set_ne _ _ e4]; exact hx
  apply ld_b; (· (repeat (first | exact Heap.set_same _ _ _ | assumption | refine Heap.look_ne (by (first | assumption | exact Ne.symm (by assumption) | grind)) ?_))); (· exact (show o.enc[1]? = _ from rfl))
  refine refAlive_ok u1 w o.p ⟨_, rfl, ?_⟩
  refine pIf_i (fun hz => ?_) (fun hz => ?_)
  · have ha : aliveB T o.p = true := hz
    have hr := alive_range ha
    have hlt := hr.2
    rw [if_pos ha] at key
    apply ld_b; (· (repeat (first | exact Heap.set_same _ _ _ | assumption | refine Heap.look_ne (by (first | assumption | exact Ne.symm (by assumption) | grind)) ?_))); (· exact (show o.enc[1]? = _ from rfl))
    refine pIdx_i (by omega) (by omega) ?_
    refine pLdA_i (tab_vals u1 (by omega) hlt) ?_
    refine stA_all (Heap.set_same _ _ _) rfl (Task.len _) (task_one _) ?_
    rw [Heap.set_set]
    exact key
  · have ha : aliveB T o.p = false := hz
    rw [if_neg (by rw [ha]; simp)] at key
    exact key
end Go.Proofs.Ytgheplpbffanoaa
