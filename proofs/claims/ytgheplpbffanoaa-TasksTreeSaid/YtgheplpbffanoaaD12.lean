import Derived.Test.YtgheplpbffanoaaD11
set_option linter.unusedVariables false
set_option linter.unusedSimpArgs false
namespace Go.Proofs.Ytgheplpbffanoaa
open Go.Hl
attribute [local irreducible] loadF zc sizeP bytesP vcBody

theorem area_ct (a : Area) : okCells [.bool, .int .i64, .int .i64, .int .i64, .bool] a.enc = true := rfl
theorem file_self (f : File) : eqCells f.enc f.enc = true := eqCells_self _ _ (file_ct f)
theorem area_self (a : Area) : eqCells a.enc a.enc = true := eqCells_self _ _ (area_ct a)

set_option maxHeartbeats 4000000 in
/-- Both tables are the same, as they are told. -/
theorem same_ok {h : Heap} {bt bw : Nat} {T : List Task} (t : Tab h bt T) (u : Tab h bw T) (w : TW T) (o : Op) {KP K : Value → Pr} (k : K (.bool true) h) :
    WpCall Try.prog 21 #[.pointer (some ⟨bt, 0, none⟩), .pointer (some ⟨bw, 0, none⟩), .agg o.enc.toArray] KP K h := by
  refine law24_same_call _ _ _ ?_
  unfold law24_same pJoin
  simp only [add_mk, Nat.zero_add, Nat.add_zero]
  intro b1 hb1
  have hl1 : Heap.le h (h.set b1 (.row o.enc o.enc.length)) := Heap.le_set_new (Heap.le_refl _) hb1 _
  have hb : (h.set b1 (.row o.enc o.enc.length)) b1 = some (.row o.enc 9) := Heap.set_same _ _ _
  generalize h.set b1 (.row o.enc o.enc.length) = h1 at hl1 hb
  have t1 := t.le hl1
  have u1 := u.le hl1
  have h8 := all_len T
  refine all_ok t1 fun s1 h2 hl2 hs1 => ⟨s1, rfl, ?_⟩
  refine refAll_ok (u1.le hl2) w fun s2 h3 hl3 hs2 => ⟨s2, rfl, ?_⟩
  refine refSame_ok (hs1.le hl3) hs2 h8 ⟨true, rfl, ?_⟩
  refine pIf_f rfl ?_
  have hl13 := Heap.le_trans hl2 hl3
  have t3 := t1.le hl13
  have u3 := u1.le hl13
  have hb3 := hl13 _ _ hb
  have hl03 := Heap.le_trans hl1 hl13
  refine openAll_ok t3 ⟨_, rfl, ?_⟩
  refine refOpen_ok u3 w ⟨_, rfl, pIf_f (by simp) ?_⟩
  refine next_ok t3 ⟨_, rfl, ?_⟩
  refine refNext_ok u3 ⟨_, rfl, pIf_f (by simp) ?_⟩
  refine ld_b hb3 (show o.enc[2]? = _ from rfl) ?_
  refine ld_b hb3 (show o.enc[2]? = _ from rfl) ?_
  refine uses_ok t3 o.a ⟨_, rfl, ?_⟩
  refine keep_cell (.int .i64) sh3 (by decide) hb3 rfl ?_
  refine refUses_ok u3 w o.a ⟨_, rfl, pIf_f (by simp) ?_⟩
  refine ld_b hb3 (show o.enc[1]? = _ from rfl) ?_
  refine ld_b hb3 (show o.enc[1]? = _ from rfl) ?_
  refine aliveM_ok t3 o.p ⟨_, rfl, ?_⟩
  refine keep_cell (.int .i64) sh3 (by decide) hb3 rfl ?_
  refine refAlive_ok u3 w o.p ⟨_, rfl, ?_⟩
  simp only [beq_self_eq_true, Bool.not_true]
  unfold law24_same_j4 pJoin
  simp only [add_mk, Nat.zero_add, Nat.add_zero]
  refine pIf_f rfl ?_
  refine ld_b hb3 (show o.enc[1]? = _ from rfl) ?_
  refine ld_b hb3 (show o.enc[2]? = _ from rfl) ?_
  refine fileGet_ok t3 o.p o.a ⟨((fileF T o.p o.a).1.enc, (fileF T o.p o.a).2, ()), rfl, ?_⟩
  refine new_st zc_flen (File.len _) (file_one _) ?_
  intro b22 hb22
  have l4 := Heap.le_set_new (x := .row (fileF T o.p o.a).1.enc 3) (Heap.le_refl h3) hb22
  have c22 : (h3.set b22 (.row (fileF T o.p o.a).1.enc 3)) b22 = _ := Heap.set_same _ _ _
  generalize h3.set b22 (.row (fileF T o.p o.a).1.enc 3) = h4 at l4 c22
  refine ld_b (l4 _ _ hb3) (show o.enc[1]? = _ from rfl) ?_
  refine ld_b (l4 _ _ hb3) (show o.enc[2]? = _ from rfl) ?_
  refine refFile_ok (u3.le l4) w o.p o.a ⟨((fileF T o.p o.a).1.enc, (fileF T o.p o.a).2, ()), rfl, ?_⟩
  refine new_st zc_flen (File.len _) (file_one _) ?_
  intro b26 hb26
  have l5 := Heap.le_set_new (x := .row (fileF T o.p o.a).1.enc 3) (Heap.le_refl h4) hb26
  have c26 : (h4.set b26 (.row (fileF T o.p o.a).1.enc 3)) b26 = _ := Heap.set_same _ _ _
  generalize h4.set b26 (.row (fileF T o.p o.a).1.enc 3) = h5 at l5 c26
  have l35 := Heap.le_trans l4 l5
  refine ld_b (l35 _ _ hb3) (show o.enc[1]? = _ from rfl) ?_
  refine ld_b (l35 _ _ hb3) (show o.enc[2]? = _ from rfl) ?_
  refine areaGet_ok (t3.le l35) o.p o.a ⟨((areaF T o.p o.a).1.enc, (areaF T o.p o.a).2, ()), rfl, ?_⟩
  refine new_st zc_alen (Area.len _) (area_one _) ?_
  intro b30 hb30
  have l6 := Heap.le_set_new (x := .row (areaF T o.p o.a).1.enc 5) (Heap.le_refl h5) hb30
  have c30 : (h5.set b30 (.row (areaF T o.p o.a).1.enc 5)) b30 = _ := Heap.set_same _ _ _
  generalize h5.set b30 (.row (areaF T o.p o.a).1.enc 5) = h6 at l6 c30
  have l36 := Heap.le_trans l35 l6
  refine ld_b (l36 _ _ hb3) (show o.enc[1]? = _ from rfl) ?_
  refine ld_b (l36 _ _ hb3) (show o.enc[2]? = _ from rfl) ?_
  refine refArea_ok (u3.le l36) w o.p o.a ⟨((areaF T o.p o.a).1.enc, (areaF T o.p o.a).2, ()), rfl, ?_⟩
  refine new_st zc_alen (Area.len _) (area_one _) ?_
  intro b34 hb34
  have l7 := Heap.le_set_new (x := .row (areaF T o.p o.a).1.enc 5) (Heap.le_refl h6) hb34
  have c34 : (h6.set b34 (.row (areaF T o.p o.a).1.enc 5)) b34 = _ := Heap.set_same _ _ _
  generalize h6.set b34 (.row (areaF T o.p o.a).1.enc 5) = h7 at l7 c34
  have l37 := Heap.le_trans l36 l7
  have l67 := Heap.le_trans l6 l7
  refine ld_b (l37 _ _ hb3) (show o.enc[1]? = _ from rfl) ?_
  refine ld_b (l37 _ _ hb3) (show o.enc[1]? = _ from rfl) ?_
  refine up_ok (t3.le l37) w o.p fun s37 h8' l8 hs37 => ⟨s37, rfl, ?_⟩
  refine keep_cell (.int .i64) sh3 (by decide) (l8 _ _ (l37 _ _ hb3)) rfl ?_
  have l38 := Heap.le_trans l37 l8
  refine refUp_ok (u3.le l38) w o.p fun s38 h9 l9 hs38 => ⟨s38, rfl, ?_⟩
  have l39 := Heap.le_trans l38 l9
  have l79 := Heap.le_trans l8 l9
  refine ldA_all (l79 _ _ (l67 _ _ (l5 _ _ c22))) rfl ?_
  refine ldA_all (l79 _ _ (l67 _ _ c26)) rfl ?_
  refine pAssert_i ⟨file_ct _, file_ct _⟩ (pIf_f (by rw [file_self]; rfl) (pIf_f (by simp) ?_))
  refine ldA_all (l79 _ _ (l7 _ _ c30)) rfl ?_
  refine ldA_all (l79 _ _ c34) rfl ?_
  refine pAssert_i ⟨area_ct _, area_ct _⟩ (pIf_f (by rw [area_self]; rfl) (pIf_f (by simp) ?_))
  have e78 : (((s37.len : Int) : Int) != (s38.len : Int)) = false := by rw [hs37.2, hs38.2]; simp
  rw [e78]
  unfold law24_same_j3
  refine pIf_f rfl ?_
  have t9 := t3.le l39
  have u9 := u3.le l39
  have hb9 := l39 _ _ hb3
  have hu37 := hs37.le l9
  have l09 := Heap.le_trans hl03 l39
  generalize hL : upL T o.p = L at hu37 hs38
  refine pLoop_rule (fun (s1 : Int × Unit) H => H = h9 ∧ 0 ≤ s1.1 ∧ s1.1 ≤ L.length) (fun s1 => (L.length - s1.1).toNat) ?_ ?_
  rotate_left
  · exact ⟨rfl, by show (0 : Int) ≤ 0; omega, by show (0 : Int) ≤ _; omega⟩
  rintro ⟨i, ⟨⟩⟩ H kk ⟨rfl, i0, i1⟩ hk
  simp only at i0 i1 hk ⊢
  unfold law24_same_l2 pJoin
  simp only [add_mk, Nat.zero_add, Nat.add_zero]
  by_cases hi : i < L.length
  · have hlt : i.toNat < L.length := by omega
    obtain ⟨a, ha, hv⟩ := sl_elem encI_len hu37.1 hu37.2 hlt
    obtain ⟨c, hc, hw⟩ := sl_elem encI_len hs38.1 hs38.2 hlt
    have hsz : s37.len < 9223372036854775807 := by
      have hm : s37.len ≤ 9 := by
        rw [hu37.2, ← hL]
        have := upFrom_len T 9 [] o.p; unfold upL; simpa using this
      omega
    have hl37 := hu37.2
    refine pIf_t (by rw [hl37]; simpa using hi) (pIdx_i i0 (by omega) (pSome_i ha (pIdx_i i0 (by rw [hs38.2]; omega) (pSome_i hc ?_))))
    refine pLd_i (L[i.toNat]) (vals_cell1 hv) (pLd_i (L[i.toNat]) (vals_cell1 hw) (pIf_f (by simp) ?_))
    rw [wrap_small (by omega) (by omega)]
    exact hk _ _ ⟨rfl, by simp only; omega, by simp only; omega⟩ (by simp only; omega)
  · refine pIf_f (by rw [hu37.2]; simpa using hi) ?_
    refine ld_b hb9 (show o.enc[1]? = _ from rfl) ?_
    refine get_ok t9 o.p ⟨((if hasB T o.p then tk T o.p else Task.z).enc, hasB T o.p, ()), rfl, ?_⟩
    refine new_st zc_tlen (Task.len _) (task_one _) ?_
    intro b53 hb53
    have l10 := Heap.le_set_new (x := .row (if hasB T o.p then tk T o.p else Task.z).enc 49) (Heap.le_refl H) hb53
    have c53 : (H.set b53 (.row (if hasB T o.p then tk T o.p else Task.z).enc 49)) b53 = _ := Heap.set_same _ _ _
    generalize H.set b53 (.row (if hasB T o.p then tk T o.p else Task.z).enc 49) = h10 at l10 c53
    refine ld_b (l10 _ _ hb9) (show o.enc[1]? = _ from rfl) ?_
    refine refHas_ok (u9.le l10) w o.p ⟨_, rfl, ?_⟩
    refine pIf_t (by simp) ?_
    unfold law24_same_j1
    refine pIf_i (fun hz => ?_) (fun hz => ?_)
    · exact fgt_here (Heap.le_trans l09 l10) k
    · have hh : hasB T o.p = true := by simpa using hz
      have hr := has_lt hh
      have hlt := hr.2
      rw [if_pos hh] at c53
      simp only [add_mk, Nat.zero_add, Nat.add_zero, pSome_some]
      refine ldA_all c53 (Task.len _) ?_
      refine ld_b (l10 _ _ hb9) (show o.enc[1]? = _ from rfl) ?_
      refine pIdx_i (by omega) (by omega) ?_
      refine pLdA_i (tab_vals (u9.le l10) (by omega) hlt) ?_
      refine pAssert_i ⟨task_ct _, task_ct _⟩ ?_
      rw [eqCells_self _ _ (task_ct _)]
      exact fgt_here (Heap.le_trans l09 l10) k
end Go.Proofs.Ytgheplpbffanoaa
