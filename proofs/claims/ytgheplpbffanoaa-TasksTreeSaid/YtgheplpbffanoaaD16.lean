import Derived.Test.YtgheplpbffanoaaD15
set_option linter.unusedVariables false
set_option linter.unusedSimpArgs false
namespace Go.Proofs.Ytgheplpbffanoaa
open Go.Hl
attribute [local irreducible] loadF zc sizeP bytesP vcBody

theorem all_head {T : List Task} (t : TT T) : ∃ r, all T = tk T 1 :: r := by
  have : hasB T 1 = true := alive_has t.one
  refine ⟨allFrom T 7 2, ?_⟩
  unfold all
  rw [allFrom, if_pos this]; rfl
theorem all_has {T : List Task} (w : TW T) {x : Task} (hx : x ∈ all T) : hasB T x.pid = true ∧ tk T x.pid = x := by
  obtain ⟨q, h1, h2, h3, rfl⟩ := allFrom_mem T x 8 1 hx
  rw [w.wf q h3]; exact ⟨h3, rfl⟩

set_option maxHeartbeats 4000000 in
theorem tree_law {h : Heap} {s : Sl} {l : List Op} (hs : SlE Op.enc 9 h s l) (hl : s.len ≤ 9223372036854775807) {KP K : Value → Pr} (k : K (.bool true) h) :
    WpCall Try.prog 5 #[.slice s.base s.len s.cap] KP K h := by
  refine law24_TasksTree_call _ ?_
  unfold law24_TasksTree
  refine alive_law ⟨true, rfl, pIf_f rfl ?_⟩
  refine new_ok fun bt hbt => ⟨some ⟨bt, 0, none⟩, rfl, ?_⟩
  refine refNew_ok fun bw hbw => ⟨some ⟨bw, 0, none⟩, rfl, ?_⟩
  rw [Heap.set_none] at hbw
  obtain ⟨hne', hbw⟩ := hbw
  have hne : bt ≠ bw := fun e => hne' e.symm
  have p0 : Pair h ((h.set bt (.row (encT newT) 441)).set bw (.row (encT newT) 441)) bt bw newT := ⟨le_set_out (le_set_out (Heap.le_refl _) hbt) hbw, ⟨by rw [Heap.set_ne _ _ hne]; exact Heap.set_same _ _ _, rfl⟩, ⟨Heap.set_same _ _ _, rfl⟩, newT_w⟩
  generalize (h.set bt (.row (encT newT) 441)).set bw (.row (encT newT) 441) = H0 at p0
  refine pLoop_rule (fun (st : Int × Unit) H => 0 ≤ st.1 ∧ st.1 ≤ 80 ∧ ∃ T, Pair h H bt bw T ∧ TT T) (fun st => (80 - st.1).toNat) ?_ ?_
  rotate_left
  · exact ⟨by show (0 : Int) ≤ 0; omega, by show (0 : Int) ≤ 80; omega, newT, p0, newT_tt⟩
  rintro ⟨i, ⟨⟩⟩ H kk ⟨i0, i1, T, p, tt⟩ hk
  simp only at i0 i1 hk ⊢
  unfold law24_TasksTree_l7 pJoin
  have fin : law24_TasksTree_j6 s (fgt KP) (fgt K) (some ⟨bt, 0, none⟩) (some ⟨bw, 0, none⟩) kk i false H := by
    unfold law24_TasksTree_j6 pJoin
    exact pIf_f rfl (fgt_here p.le k)
  by_cases hi : i < (s.len : Int)
  · refine pIf_t (by simpa using hi) ?_
    by_cases hi8 : i < 80
    · show law24_TasksTree_j6 _ _ _ _ _ _ _ (decide (i < 80)) _
      rw [decide_eq_true hi8]
      have hlt : i.toNat < l.length := by rw [← hs.1]; omega
      have next : ∀ H' T', Pair h H' bt bw T' → TT T' → law24_TasksTree_j5 kk i H' := fun H' T' p' tt' => by
        unfold law24_TasksTree_j5
        rw [wrap_small (by omega) (by omega)]
        exact hk _ _ ⟨by simp only; omega, by simp only; omega, T', p', tt'⟩ (by simp only; omega)
      unfold law24_TasksTree_j6 pJoin
      refine pIf_t rfl ?_
      obtain ⟨a, ha, hv⟩ := hs.2 i.toNat hlt
      have hc : ∀ {H' : Heap}, Heap.le h H' → ∀ (o : Nat) (v : Value), (l[i.toNat]).enc[o]? = some v → H'.cell ((a.add (i.toNat * 9)).add o) = some v := fun l' o v e => cell_le l' ((vals_cell hv).2.2 o v e)
      refine pIdx_i i0 (by omega) (pSome_i ha ?_)
      refine pLd_i (l[i.toNat]).kind (hc p.le 0 _ rfl) (pAssert_i (by decide) ?_)
      -- the op is done
      have body : ¬ (l[i.toNat]).kind.tmod 15 = 5 → law24_TasksTree_j4 s (fgt KP) (fgt K) (some ⟨bt, 0, none⟩) (some ⟨bw, 0, none⟩) i (fun _ => law24_TasksTree_j5 kk i) false H := fun h5 => by
        unfold law24_TasksTree_j4 pJoin
        refine pIf_f rfl (pIdx_i i0 (by omega) (pSome_i ha (pLdA_i (vals_le p.le hv) ?_)))
        refine do_ok p.t p.u hne p.w _ ⟨true, rfl, ?_⟩
        have p2 := p.op hbt hbw hne (doF_w p.w l[i.toNat])
        have tt2 := tt.do_ l[i.toNat] h5
        generalize doF T l[i.toNat] = T2 at p2 tt2
        generalize Both H bt bw T2 = H2 at p2
        refine all_ok p2.t fun s2 H3 l3 hs2 => ⟨s2, rfl, ?_⟩
        have p3 := p2.le' l3
        refine openAll_ok p3.t ⟨openAll T2, rfl, ?_⟩
        have h16 := tt2.op
        refine pIf_f (by simp; omega) ?_
        obtain ⟨rest, hrest⟩ := all_head tt2
        have hlen : 0 < (all T2).length := by rw [hrest]; simp
        have h8 := all_len T2
        have hne0 : ((all T2).length : Int) ≠ 0 := by omega
        refine pIf_f (by rw [hs2.2]; simpa using hne0) ?_
        obtain ⟨a0, ha0, hv0⟩ := hs2.elem hlen
        have hpid1 : (tk T2 1).pid = 1 := (p3.w.has (alive_has tt2.one)).2.2
        have e0 : (all T2)[0] = tk T2 1 := by simp [hrest]
        refine pIdx_i (by omega) (by rw [hs2.2]; omega) (pSome_i ha0 (pLd_i (1 : Int) ?_ ?_))
        · rw [e0] at hv0
          have := (vals_cell hv0).2.2 0 _ rfl
          rw [hpid1] at this
          exact this
        show law24_TasksTree_j3 _ _ _ _ _ false _
        unfold law24_TasksTree_j3
        refine pIf_f rfl ?_
        refine pLoop_rule (fun (s1 : Int × Unit) H => 0 ≤ s1.1 ∧ s1.1 ≤ (all T2).length ∧ Heap.le H3 H) (fun s1 => ((all T2).length - s1.1).toNat) ?_ ?_
        rotate_left
        · exact ⟨by show (0 : Int) ≤ 0; omega, by show (0 : Int) ≤ _; omega, Heap.le_refl _⟩
        rintro ⟨j, ⟨⟩⟩ H4 kk2 ⟨j0, j1, l4⟩ hk2
        simp only at j0 j1 hk2 ⊢
        unfold law24_TasksTree_l2 pJoin
        have p4 := p3.le' l4
        have hs4 := hs2.le l4
        by_cases hj : j < (all T2).length
        · have hltj : j.toNat < (all T2).length := by omega
          obtain ⟨aj, haj, hvj⟩ := hs4.elem hltj
          obtain ⟨hhx, htk⟩ := all_has p4.w (List.getElem_mem hltj)
          generalize (all T2)[j.toNat] = x at *
          refine pIf_t (by rw [hs4.2]; simpa using hj) (pIdx_i j0 (by rw [hs4.2]; omega) (pSome_i haj ?_))
          refine pLd_i x.pid ((vals_cell hvj).2.2 0 _ rfl) ?_
          obtain ⟨m, hm⟩ := tt2.up hhx
          have hul : (upL T2 x.pid).length ≤ 9 := by have := upFrom_len T2 9 [] x.pid; unfold upL; simpa using this
          refine up_ok p4.t p4.w x.pid fun su H5 l5 hsu => ⟨su, rfl, ?_⟩
          have p5 := p4.le' l5
          obtain ⟨hsu1, hsu2⟩ := hsu
          refine pIdx_i j0 (by rw [hs4.2]; omega) (pSome_i haj ?_)
          refine pLd_i x.ppid (cell_le l5 ((vals_cell hvj).2.2 2 _ rfl)) ?_
          refine aliveM_ok p5.t x.ppid ⟨_, rfl, ?_⟩
          have hpa : aliveB T2 x.ppid = true := by have := tt2.par x.pid hhx; rw [htk] at this; exact this
          rw [hpa]
          rw [hm] at hul hsu1 hsu2
          have hul' : m.length + 1 ≤ 9 := by simpa using hul
          have hsl : su.len = m.length + 1 := by simpa using hsu2
          refine pIf_f rfl (pIf_f (by rw [hsl]; simp; omega) ?_)
          rw [hsl]
          have hw : IntKind.i64.wrap (((m.length + 1 : Nat) : Int) - 1) = m.length := by rw [wrap_small (by omega) (by omega)]; omega
          rw [hw]
          obtain ⟨au, hau, hvu⟩ := sl_elem encI_len hsu1 hsu2 (i := m.length) (by simp)
          have el : (m ++ [1])[m.length]'(by simp) = 1 := by simp
          rw [el] at hvu
          refine pIdx_i (by omega) (by omega) (pSome_i hau ?_)
          refine pLd_i (1 : Int) (vals_cell1 (v := .int .i64 1) (by simpa [encI] using hvu)) ?_
          show law24_TasksTree_j1 _ _ _ false _
          unfold law24_TasksTree_j1
          refine pIf_f rfl ?_
          rw [wrap_small (by omega) (by omega)]
          exact hk2 _ _ ⟨by simp only; omega, by simp only; omega, Heap.le_trans l4 l5⟩ (by simp only; omega)
        · refine pIf_f (by rw [hs4.2]; simpa using hj) ?_
          exact next _ _ p4 tt2
      have skip : law24_TasksTree_j4 s (fgt KP) (fgt K) (some ⟨bt, 0, none⟩) (some ⟨bw, 0, none⟩) i (fun _ => law24_TasksTree_j5 kk i) true H := by
        unfold law24_TasksTree_j4 pJoin
        exact pIf_t rfl (next _ _ p tt)
      have either : law24_TasksTree_j4 s (fgt KP) (fgt K) (some ⟨bt, 0, none⟩) (some ⟨bw, 0, none⟩) i (fun _ => law24_TasksTree_j5 kk i) ((l[i.toNat]).kind.tmod 15 == 5) H := by
        by_cases h5 : (l[i.toNat]).kind.tmod 15 = 5
        · rw [h5]; exact skip
        · have : ((l[i.toNat]).kind.tmod 15 == 5) = false := by simpa using h5
          rw [this]; exact body h5
      refine pIf_i (fun hz => ?_) (fun hz => ?_)
      · refine pIdx_i i0 (by omega) (pSome_i ha ?_)
        refine pLd_i (l[i.toNat]).a (hc p.le 2 _ rfl) ?_
        refine pIf_i (fun hz => ?_) (fun hz => ?_)
        · exact skip
        · exact either
      · exact either
    · show law24_TasksTree_j6 _ _ _ _ _ _ _ (decide (i < 80)) _
      rw [decide_eq_false hi8]
      exact fin
  · refine pIf_f (by simpa using hi) ?_
    exact fin

/- Generations. -/
structure Key where
  id : Int
  gen : Int
def Key.enc (x : Key) : List Value := [.int .i64 x.id, .int .i64 x.gen]
abbrev encK (l : List Key) : List Value := l.flatMap Key.enc
theorem Key.len (x : Key) : x.enc.length = 2 := rfl
theorem encK_len (l : List Key) : (encK l).length = l.length * 2 := flat_len Key.enc 2 Key.len l
theorem encK_one (l : List Key) : oneCells (encK l) := by
  intro v hv
  obtain ⟨t, _, hv⟩ := List.mem_flatMap.1 hv
  simp [Key.enc] at hv; rcases hv with rfl | rfl <;> rfl
theorem zc_key : zc Try.prog 53 = [.int .i64 0, .int .i64 0] := by kernel_rfl

/-- Generations go on. -/
structure GT (T : List Task) (n : Int) (seen : List Key) : Prop where
  w : TW T
  lo : ∀ p : Int, 1 ≤ p → p < 9 → 0 ≤ (tk T p).gen ∧ (tk T p).gen ≤ n + 1
  sn : ∀ k ∈ seen, k.gen ≤ (tk T k.id).gen

theorem gen_set {T : List Task} (hl : T.length = 9) {p : Int} (h1 : 1 ≤ p) (h9 : p < 9) {x : Task} (hx : x.gen = (tk T p).gen) : ∀ q : Int, (tk (T.set p.toNat x) q).gen = (tk T q).gen := fun q => by
  by_cases h0 : 0 ≤ q
  · by_cases e : q = p
    · subst e; rw [tk_set hl h9 h0]; exact hx
    · rw [tk_set_ne (by omega) h0 e]
  · have e1 : ∀ T' : List Task, tk T' q = tk T' 0 := fun T' => by unfold tk; rw [show q.toNat = (0 : Int).toNat by omega]
    rw [e1, e1, tk_set_ne (by omega) (by omega) (by omega)]
theorem gen_map {T : List Task} {f : Task → Task} (hf : ∀ x, (f x).gen = x.gen) (hz : f .z = .z) (q : Int) : (tk (T.map f) q).gen = (tk T q).gen := by
  unfold tk
  rw [List.getD_eq_getElem?_getD, List.getD_eq_getElem?_getD, List.getElem?_map]
  cases T[q.toNat]? with
  | none => rfl
  | some x => exact hf x
def SameGen (T T' : List Task) : Prop := ∀ q : Int, (tk T' q).gen = (tk T q).gen
theorem SameGen.refl (T : List Task) : SameGen T T := fun _ => rfl
theorem SameGen.ite {T : List Task} {c : Prop} [Decidable c] {a b : List Task} (ha : c → SameGen T a) (hb : ¬ c → SameGen T b) : SameGen T (if c then a else b) := by
  by_cases h : c
  · rw [if_pos h]; exact ha h
  · rw [if_neg h]; exact hb h
theorem set_g {T : List Task} (w : TW T) {pid : Int} (ha : aliveB T pid = true) {x : Task} (hx : x.gen = (tk T pid).gen) : SameGen T (T.set pid.toNat x) := by
  have hr := alive_range ha
  exact gen_set w.len hr.1 hr.2 hx
theorem setFile_gen (x : Task) (k : Int) (f : File) : (setFile x k f).gen = x.gen := by unfold setFile; (repeat' split) <;> rfl
theorem setArea_gen (x : Task) (k : Int) (f : Area) : (setArea x k f).gen = x.gen := by unfold setArea; (repeat' split) <;> rfl
theorem exit_g {T : List Task} (w : TW T) (pid code : Int) : SameGen T (exitF T pid code).1 := by
  unfold exitF
  split
  · exact .refl _
  · split
    · exact .refl _
    · rename_i ha _
      have ha' : aliveB T pid = true := by simpa using ha
      intro q
      rw [gen_map (f := fixT pid) (fun _ => rfl) (fix_z pid (alive_range ha').1)]
      exact set_g w ha' (x := gone (tk T pid) code) rfl q
theorem wait_g {T : List Task} (w : TW T) (pid : Int) : SameGen T (waitF T pid).1 := by
  unfold waitF
  split
  · exact .refl _
  · split
    · rename_i x e he
      obtain ⟨h1, h9, hx⟩ := all_pid w.wf (waitFrom_mem he)
      exact gen_set w.len h1 h9 (by rw [hx])
    · exact .refl _
theorem put_g {T : List Task} (w : TW T) (pid : Int) (f : File) : SameGen T (putF T pid f).1 := by
  unfold putF
  split
  · rename_i ha
    split
    · exact .refl _
    · split
      · exact .refl _
      · exact set_g w ha (setFile_gen _ _ _)
  · exact .refl _
theorem setAreaF_g {T : List Task} (w : TW T) (pid k : Int) (a : Area) : SameGen T (setAreaF T pid k a).1 := by
  unfold setAreaF; split
  · rename_i e; exact set_g w (areaE_ok e).1 (setArea_gen _ _ _)
  · exact .refl _
theorem onF_g {T : List Task} (w : TW T) (pid : Int) {f : Task → Task} (hf : ∀ x, (f x).gen = x.gen) : SameGen T (onF T pid f).1 := by
  unfold onF; split
  · rename_i ha; exact set_g w ha (hf _)
  · exact .refl _
theorem doF_g {T : List Task} (w : TW T) (o : Op) (h0 : ¬ o.kind.tmod 15 = 0) : SameGen T (doF T o) := by
  unfold doF
  rw [if_neg h0]
  refine .ite (fun _ => exit_g w _ _) fun _ => .ite (fun _ => wait_g w _) fun _ => .ite (fun _ => put_g w _ _) fun _ => .ite (fun _ => ?_) fun _ => .ite (fun _ => ?_) fun _ => .ite (fun _ => ?_) fun _ => .ite (fun _ => ?_) fun _ => .ite (fun _ => ?_) fun _ => .ite (fun _ => setAreaF_g w _ _ _) fun _ =>
    .ite (fun _ => onF_g w _ (fun _ => rfl)) fun _ => .ite (fun _ => onF_g w _ (fun _ => rfl)) fun _ => .ite (fun _ => onF_g w _ (fun _ => rfl)) fun _ => .ite (fun _ => ?_) fun _ => onF_g w _ (fun _ => rfl)
  · unfold closeF; split
    · rename_i e; exact set_g w (fdE_ok e).1 (setFile_gen _ _ _)
    · exact .refl _
  · unfold seekF; split
    · rename_i e; exact set_g w (fdE_ok e).1 (setFile_gen _ _ _)
    · exact .refl _
  · unfold dupF; split
    · exact put_g w _ _
    · exact .refl _
  · unfold mapF
    split
    · rename_i ha
      split
      · exact .refl _
      · exact set_g w ha (setArea_gen _ _ _)
    · exact .refl _
  · rw [prot_set]; exact setAreaF_g w _ _ _
  · unfold sigF; split
    · rename_i ha
      split
      · exact .refl _
      · exact set_g w ha rfl
    · exact .refl _
theorem GT.same {T T' : List Task} {n : Int} {seen : List Key} (g : GT T n seen) (w : TW T') (s : SameGen T T') : GT T' (n + 1) seen :=
  ⟨w, fun p h1 h9 => by rw [s p]; have := g.lo p h1 h9; omega, fun k hk => by rw [s k.id]; exact g.sn k hk⟩

theorem fork_cases (T : List Task) (pid : Int) : (fork T pid).2.2 ≠ 0 ∧ (fork T pid).1 = T ∨ ((fork T pid).2.2 = 0 ∧ next T ≠ 0 ∧ aliveB T pid = true ∧ fork T pid = (T.set (next T).toNat (forked T pid), next T, 0)) := by
  unfold fork
  split
  · exact .inl ⟨by simp, rfl⟩
  · rename_i ha
    split
    · exact .inl ⟨by simp, rfl⟩
    · rename_i hn
      split
      · exact .inl ⟨by simp, rfl⟩
      · exact .inr ⟨rfl, hn, by simpa using ha, rfl⟩

set_option maxHeartbeats 4000000 in
theorem gens_law {h : Heap} {s : Sl} {l : List Op} (hs : SlE Op.enc 9 h s l) (hl : s.len ≤ 9223372036854775807) {KP K : Value → Pr} (k : K (.bool true) h) :
    WpCall Try.prog 4 #[.slice s.base s.len s.cap] KP K h := by
  refine law24_TasksGens_call _ ?_
  unfold law24_TasksGens
  refine alive_law ⟨true, rfl, pIf_f rfl ?_⟩
  refine new_ok fun bt hbt => ⟨some ⟨bt, 0, none⟩, rfl, ?_⟩
  refine refNew_ok fun bw hbw => ⟨some ⟨bw, 0, none⟩, rfl, ?_⟩
  rw [Heap.set_none] at hbw
  obtain ⟨hne', hbw⟩ := hbw
  have hne : bt ≠ bw := fun e => hne' e.symm
  have p0 : Pair h ((h.set bt (.row (encT newT) 441)).set bw (.row (encT newT) 441)) bt bw newT := ⟨le_set_out (le_set_out (Heap.le_refl _) hbt) hbw, ⟨by rw [Heap.set_ne _ _ hne]; exact Heap.set_same _ _ _, rfl⟩, ⟨Heap.set_same _ _ _, rfl⟩, newT_w⟩
  generalize (h.set bt (.row (encT newT) 441)).set bw (.row (encT newT) 441) = H0 at p0
  -- the keys that were seen lie apart from both tables
  obtain ⟨h0, lh0, hx1, hx2, hdom⟩ : ∃ h0 : Heap, Heap.le h h0 ∧ (∃ x, h0 bt = some x) ∧ (∃ x, h0 bw = some x) ∧ ∀ H T, Pair h H bt bw T → ∀ b, H b = none → h0 b = none := by
    refine ⟨(h.set bt (.row [] 0)).set bw (.row [] 0), le_set_out (le_set_out (Heap.le_refl _) hbt) hbw, ⟨_, by rw [Heap.set_ne _ _ hne]; exact Heap.set_same _ _ _⟩, ⟨_, Heap.set_same _ _ _⟩, fun H T p b hb => ?_⟩
    have n1 : b ≠ bt := fun e => by subst e; rw [p.t.blk] at hb; cases hb
    have n2 : b ≠ bw := fun e => by subst e; rw [p.u.blk] at hb; cases hb
    rw [Heap.set_ne _ _ n2, Heap.set_ne _ _ n1]
    exact Heap.le_none p.le hb
  refine pLoop_rule (fun (st : Sl × Int × Unit) H => 0 ≤ st.2.1 ∧ st.2.1 ≤ 60 ∧ ∃ T seen, Pair h H bt bw T ∧ GT T st.2.1 seen ∧ Own 2 h0 H st.1 (encK seen) ∧ (seen.length : Int) ≤ st.2.1) (fun st => (60 - st.2.1).toNat) ?_ ?_
  rotate_left
  · refine ⟨by show (0 : Int) ≤ 0; omega, by show (0 : Int) ≤ 60; omega, newT, [], p0, ⟨newT_w, fun p h1 h9 => ?_, fun k hk => by cases hk⟩, Own.none _ _ _, by simp⟩
    rcases eight h1 h9 with rfl | rfl | rfl | rfl | rfl | rfl | rfl | rfl <;> decide
  rintro ⟨sn, i, ⟨⟩⟩ H kk ⟨i0, i1, T, seen, p, g, own, hsl⟩ hk
  simp only at i0 i1 own hsl g hk ⊢
  unfold law24_TasksGens_l5 pJoin
  have fin : law24_TasksGens_j4 s (fgt KP) (fgt K) (some ⟨bt, 0, none⟩) (some ⟨bw, 0, none⟩) kk sn i false H := by
    unfold law24_TasksGens_j4 pJoin
    exact pIf_f rfl (fgt_here p.le k)
  have ownSet : ∀ {H' : Heap} {sl : Sl} {sk : List Key}, Own 2 h0 H' sl (encK sk) → ∀ T', Own 2 h0 (Both H' bt bw T') sl (encK sk) := fun o T' => by
    obtain ⟨h1, h2 | ⟨b, tot, e1, e2, e3, e4⟩⟩ := o
    · exact ⟨h1, .inl h2⟩
    · obtain ⟨y1, hy1⟩ := hx1
      obtain ⟨y2, hy2⟩ := hx2
      have n1 : b ≠ bt := fun e => by subst e; rw [e2] at hy1; cases hy1
      have n2 : b ≠ bw := fun e => by subst e; rw [e2] at hy2; cases hy2
      exact ⟨h1, .inr ⟨b, tot, e1, e2, by unfold Both; rw [Heap.set_ne _ _ n2, Heap.set_ne _ _ n1]; exact e3, e4⟩⟩
  by_cases hi : i < (s.len : Int)
  · refine pIf_t (by simpa using hi) ?_
    by_cases hi8 : i < 60
    · show law24_TasksGens_j4 _ _ _ _ _ _ _ _ (decide (i < 60)) _
      rw [decide_eq_true hi8]
      have hlt : i.toNat < l.length := by rw [← hs.1]; omega
      have next : ∀ (sl : Sl) (H' : Heap) (T' : List Task) (sk : List Key), Pair h H' bt bw T' → GT T' (i + 1) sk → Own 2 h0 H' sl (encK sk) → (sk.length : Int) ≤ i + 1 → law24_TasksGens_j3 kk i sl H' := fun sl H' T' sk p' g' o' hl' => by
        unfold law24_TasksGens_j3
        rw [wrap_small (by omega) (by omega)]
        exact hk _ _ ⟨by simp only; omega, by simp only; omega, T', sk, p', g', o', hl'⟩ (by simp only; omega)
      unfold law24_TasksGens_j4 pJoin
      refine pIf_t rfl ?_
      obtain ⟨a, ha, hv⟩ := hs.2 i.toNat hlt
      have hc : ∀ {H' : Heap}, Heap.le h H' → ∀ (o : Nat) (v : Value), (l[i.toNat]).enc[o]? = some v → H'.cell ((a.add (i.toNat * 9)).add o) = some v := fun l' o v e => cell_le l' ((vals_cell hv).2.2 o v e)
      refine pIdx_i i0 (by omega) (pSome_i ha ?_)
      refine pLd_i (l[i.toNat]).kind (hc p.le 0 _ rfl) (pAssert_i (by decide) ?_)
      refine pIf_i (fun hz => ?_) (fun hz => ?_)
      · have hk0 : ¬ (l[i.toNat]).kind.tmod 15 = 0 := by simpa using hz
        refine pIdx_i i0 (by omega) (pSome_i ha (pLdA_i (vals_le p.le hv) ?_))
        refine do_ok p.t p.u hne p.w _ ⟨true, rfl, ?_⟩
        exact next sn _ _ seen (p.op hbt hbw hne (doF_w p.w _)) (g.same (doF_w p.w _) (doF_g p.w _ hk0)) (ownSet own _) (by omega)
      · generalize l[i.toNat] = o at *
        refine pIdx_i i0 (by omega) (pSome_i ha ?_)
        refine pLd_i o.p (hc p.le 1 _ rfl) ?_
        refine fork_ok p.t o.p ⟨((fork T o.p).2.1, (fork T o.p).2.2, ()), rfl, ?_⟩
        refine pIdx_i i0 (by omega) (pSome_i ha ?_)
        have lh1 : Heap.le h (H.set bt (.row (encT (fork T o.p).1) 441)) := le_set_out p.le hbt
        refine pLd_i o.p (hc lh1 1 _ rfl) ?_
        have u1 : Tab (H.set bt (.row (encT (fork T o.p).1) 441)) bw T := ⟨by rw [Heap.set_ne _ _ hne']; exact p.u.blk, p.u.len⟩
        refine refFork_ok u1 p.w o.p ⟨((fork T o.p).2.1, (fork T o.p).2.2, ()), rfl, ?_⟩
        have p2 := p.op hbt hbw hne (fork_w p.w o.p)
        have own2 := ownSet own (fork T o.p).1
        show pIf ((fork T o.p).2.2 != 0) _ _ (Both H bt bw (fork T o.p).1)
        generalize Both H bt bw (fork T o.p).1 = H2 at p2 own2
        rcases fork_cases T o.p with ⟨e1, e2⟩ | ⟨e1, e2, e3, e4⟩
        · refine pIf_t (by simpa using e1) ?_
          refine next sn _ _ seen p2 ?_ own2 (by omega)
          rw [e2]; exact g.same p.w (.refl _)
        · refine pIf_f (by rw [e1]; rfl) ?_
          rw [e4] at p2 ⊢
          simp only at p2 ⊢
          have hnr := next_range T
          have c1 : 1 ≤ Go.Proofs.Ytgheplpbffanoaa.next T := by omega
          have c9 : Go.Proofs.Ytgheplpbffanoaa.next T < 9 := by omega
          generalize hcn : Go.Proofs.Ytgheplpbffanoaa.next T = c at *
          have hgl := g.lo c c1 c9
          have hfg : (forked T o.p).gen = (tk T c).gen + 1 := by
            show IntKind.i64.wrap ((tk T (Go.Proofs.Ytgheplpbffanoaa.next T)).gen + 1) = _
            rw [hcn, wrap_small (by omega) (by omega)]
          have hfp : (forked T o.p).pid = c := hcn
          have htc : tk (T.set c.toNat (forked T o.p)) c = forked T o.p := tk_set p.w.len c9 (by omega) _
          have hhc : hasB (T.set c.toNat (forked T o.p)) c = true := by
            rw [hasB_set p.w.len c1 c9, if_pos rfl, hfp]; simp; omega
          refine get_ok p2.t c ⟨((if hasB (T.set c.toNat (forked T o.p)) c then tk (T.set c.toNat (forked T o.p)) c else Task.z).enc, hasB (T.set c.toNat (forked T o.p)) c, ()), rfl, ?_⟩
          rw [if_pos hhc, hhc, htc]
          refine new_st zc_tlen (Task.len _) (task_one _) ?_
          intro b22 hb22
          have l3 : Heap.le H2 (H2.set b22 (.row (forked T o.p).enc 49)) := Heap.le_set_new (Heap.le_refl _) hb22 _
          have cb : (H2.set b22 (.row (forked T o.p).enc 49)) b22 = some (.row (forked T o.p).enc 49) := Heap.set_same _ _ _
          generalize H2.set b22 (.row (forked T o.p).enc 49) = H3 at l3 cb
          have p3 := p2.le' l3
          have own3 := own2.keep l3
          refine pIf_f rfl ?_
          have hsn : sn.len = seen.length := by have := own3.1; rw [encK_len] at this; omega
          have hvals := own3.vals
          refine pLoop_rule (fun (s1 : Int × Unit) G => G = H3 ∧ 0 ≤ s1.1 ∧ s1.1 ≤ seen.length) (fun s1 => (seen.length - s1.1).toNat) ?_ ?_
          rotate_left
          · exact ⟨rfl, by show (0 : Int) ≤ 0; omega, by show (0 : Int) ≤ _; omega⟩
          rintro ⟨j, ⟨⟩⟩ G kk2 ⟨rfl, j0, j1⟩ hk2
          simp only at j0 j1 hk2 ⊢
          unfold law24_TasksGens_l2 law24_TasksGens_j1 pJoin
          simp only [add_mk, Nat.zero_add, Nat.add_zero]
          by_cases hj : j < seen.length
          · have hltj : j.toNat < seen.length := by omega
            obtain ⟨aj, haj, hvj⟩ := sl_elem Key.len hvals hsn hltj
            have hmem := g.sn _ (List.getElem_mem hltj)
            generalize seen[j.toNat] = q at *
            have cont : kk2 (IntKind.i64.wrap (j + 1), ()) G := by
              rw [wrap_small (by omega) (by omega)]
              exact hk2 _ _ ⟨rfl, by simp only; omega, by simp only; omega⟩ (by simp only; omega)
            refine pIf_t (by rw [hsn]; simpa using hj) (pIdx_i j0 (by rw [hsn]; omega) (pSome_i haj ?_))
            refine pLd_i q.id ((vals_cell hvj).2.2 0 _ rfl) ?_
            refine ld_b cb (show (forked T o.p).enc[0]? = _ from rfl) ?_
            refine pIf_i (fun hz => ?_) (fun hz => ?_)
            · have hqid : q.id = c := by rw [← hfp]; simpa using hz
              refine pIdx_i j0 (by rw [hsn]; omega) (pSome_i haj ?_)
              refine pLd_i q.gen ((vals_cell hvj).2.2 1 _ rfl) ?_
              refine ld_b cb (show (forked T o.p).enc[1]? = _ from rfl) ?_
              have : (q.gen == (forked T o.p).gen) = false := by
                rw [hqid] at hmem
                rw [hfg]; simp; omega
              show pIf (q.gen == (forked T o.p).gen) _ _ _
              rw [this]
              exact pIf_f rfl cont
            · exact pIf_f rfl cont
          · refine pIf_f (by rw [hsn]; simpa using hj) ?_
            refine ld_b cb (show (forked T o.p).enc[0]? = _ from rfl) ?_
            refine ld_b cb (show (forked T o.p).enc[1]? = _ from rfl) ?_
            have ek : lay (zc Try.prog 53) [(0, .int .i64 (forked T o.p).pid), (1, .int .i64 (forked T o.p).gen)] = (Key.mk (forked T o.p).pid (forked T o.p).gen).enc := by rw [zc_key]; rfl
            rw [ek]
            refine pAssert_i (Key.len _) ?_
            intro b35 hb35
            have ek2 : lay (reps 1 (zc Try.prog 53)) [(0, .agg (Key.mk (forked T o.p).pid (forked T o.p).gen).enc.toArray)] = encK [Key.mk (forked T o.p).pid (forked T o.p).gen] := by rw [zc_key]; rfl
            rw [ek2]
            refine append_own' (own3.keep (Heap.le_set_new (Heap.le_refl _) hb35 _)) (hdom _ _ (p3.le' (Heap.le_set_new (Heap.le_refl _) hb35 _))) (new := encK [Key.mk (forked T o.p).pid (forked T o.p).gen]) ?_ ?_ (encK_one _) ?_
            · show Heap.vals _ ⟨b35, 0, none⟩ (1 * 2) = _
              exact vals_whole (Heap.set_same _ _ _) (by rw [encK_len]; rfl)
            · show (sn.len + 1) * 16 ≤ 140737488355328; omega
            · intro s' H5 hframe ho5 hs5
              have p5 : Pair h H5 bt bw (T.set c.toNat (forked T o.p)) := by
                have p4 := p3.le' (Heap.le_set_new (x := .row (encK [Key.mk (forked T o.p).pid (forked T o.p).gen]) (encK [Key.mk (forked T o.p).pid (forked T o.p).gen]).length) (Heap.le_refl _) hb35)
                refine ⟨fun b x hb => hframe b x (lh0 b x hb) (p4.le b x hb), ⟨?_, p4.t.len⟩, ⟨?_, p4.u.len⟩, p4.w⟩
                · obtain ⟨y1, hy1⟩ := hx1; exact hframe bt _ hy1 p4.t.blk
                · obtain ⟨y2, hy2⟩ := hx2; exact hframe bw _ hy2 p4.u.blk
              refine next s' _ _ (seen ++ [Key.mk (forked T o.p).pid (forked T o.p).gen]) p5 ?_ (by rw [encK, List.flatMap_append]; exact ho5) (by simp; omega)
              refine ⟨p5.w, fun q q1 q9 => ?_, fun q hq => ?_⟩
              · by_cases e : q = c
                · subst e; rw [htc, hfg]; omega
                · rw [tk_set_ne (by omega) (by omega) e]; have := g.lo q q1 q9; omega
              · rcases List.mem_append.1 hq with hq | hq
                · have := g.sn q hq
                  by_cases e : q.id = c
                  · rw [e] at this ⊢; rw [htc, hfg]; omega
                  · by_cases h0' : 0 ≤ q.id
                    · rw [tk_set_ne (by omega) h0' e]; exact this
                    · have e1 : ∀ T' : List Task, tk T' q.id = tk T' 0 := fun T' => by unfold tk; rw [show q.id.toNat = (0 : Int).toNat by omega]
                      rw [e1] at this ⊢
                      rw [tk_set_ne (by omega) (by omega) (by omega)]; exact this
                · have hq' : q = Key.mk (forked T o.p).pid (forked T o.p).gen := by simpa using hq
                  subst hq'
                  show (forked T o.p).gen ≤ (tk _ (forked T o.p).pid).gen
                  rw [hfp, htc]; exact Int.le_refl _
    · show law24_TasksGens_j4 _ _ _ _ _ _ _ _ (decide (i < 60)) _
      rw [decide_eq_false hi8]
      exact fin
  · refine pIf_f (by simpa using hi) ?_
    exact fin
end Go.Proofs.Ytgheplpbffanoaa
