import Derived.Test.YtgheplpbffanoaaD9
set_option linter.unusedVariables false
set_option linter.unusedSimpArgs false
namespace Go.Proofs.Ytgheplpbffanoaa
open Go.Hl
attribute [local irreducible] loadF zc sizeP bytesP vcBody

theorem sh36 : (Try.prog.underlying 36).map shapeD = some .agg := by kernel_rfl
theorem sz36 : sizeP Try.prog 36 = 5 := by kernel_rfl

/-- The heap behind an op on both tables. -/
abbrev Both (h : Heap) (bt bw : Nat) (T : List Task) : Heap := (h.set bt (.row (encT T) 441)).set bw (.row (encT T) 441)
set_option maxHeartbeats 4000000 in
theorem do1_ok {h : Heap} {bt bw : Nat} {T : List Task} (t : Tab h bt T) (u : Tab h bw T) (hne : bt ≠ bw) (w : TW T) (o : Op) {KP K : Value → Pr}
    (k : K (.bool true) (Both h bt bw (doF T o)))
    (rest : ∀ b1, h b1 = none → ¬ o.kind.tmod 15 = 0 → ¬ o.kind.tmod 15 = 1 → ¬ o.kind.tmod 15 = 2 → ¬ o.kind.tmod 15 = 3 → ¬ o.kind.tmod 15 = 4 → ¬ o.kind.tmod 15 = 5 → ¬ o.kind.tmod 15 = 6 → ¬ o.kind.tmod 15 = 7 → ¬ o.kind.tmod 15 = 8 → ¬ o.kind.tmod 15 = 9 →
      (pNew (zc Try.prog 39) fun b80 => pStA 49 ⟨b80, 0, none⟩ (lay (zc Try.prog 39) []) <| pJoin (σ := Unit)
        (fun k81 => pLd (.int .i64) ((⟨b1, 0, none⟩ : Addr).add 1) fun (x82 : Int) => pCall Try.prog 43 [(.pointer (some ⟨bw, 0, none⟩)), (.int .i64 x82)] (fgt KP) (.one .bool) fun (r83 : Bool) => pIf r83
        (pSome (some ⟨bw, 0, none⟩) fun a84 => pLd (.int .i64) ((⟨b1, 0, none⟩ : Addr).add 1) fun (x85 : Int) => pIdx x85 9 <| pLdA 49 ((a84.add 0).add ((x85 : Int).toNat * 49)) fun x86 => pStA 49 ⟨b80, 0, none⟩ x86 <| k81 (()))
        (k81 (())))
        (fun s => law24_Do_j9 (some ⟨bt, 0, none⟩) (some ⟨bw, 0, none⟩) (fgt KP) (fgt K) b1 b80)) (h.set b1 (.row o.enc 9))) :
    WpCall Try.prog 14 #[.pointer (some ⟨bt, 0, none⟩), .pointer (some ⟨bw, 0, none⟩), .agg o.enc.toArray] KP K h := by
  refine law24_Do_call _ _ _ ?_
  unfold law24_Do
  have hB := t.blk
  have hC := u.blk
  intro b1 hb1
  have rest' := rest b1 hb1
  have hlen : o.enc.length = 9 := rfl
  rw [hlen]
  have t1 : Tab (h.set b1 (.row o.enc 9)) bt T := ⟨by (repeat (first | exact Heap.set_same _ _ _ | assumption | refine Heap.look_ne (by (first | assumption | exact Ne.symm (by assumption) | grind)) ?_)), t.len⟩
  have u1 : ∀ T', Tab ((h.set b1 (.row o.enc 9)).set bt (.row (encT T') 441)) bw T := fun T' => ⟨by (repeat (first | exact Heap.set_same _ _ _ | assumption | refine Heap.look_ne (by (first | assumption | exact Ne.symm (by assumption) | grind)) ?_)), u.len⟩
  simp only [add_mk, Nat.zero_add, Nat.add_zero] at rest' ⊢
  refine ld_b (Heap.set_same _ _ _) (show o.enc[0]? = _ from rfl) ?_
  refine pAssert_i (by decide) ?_
  refine pIf_i (fun hz => ?_) (fun hz => ?_)
  · have e : o.kind.tmod 15 = 0 := by simpa using hz
    have ed : doF T o = (fork T o.p).1 := by simp [doF, e]
    rw [ed] at k
    refine ld_b (Heap.set_same _ _ _) (show o.enc[1]? = _ from rfl) ?_
    refine fork_ok t1 o.p ⟨((fork T o.p).2.1, (fork T o.p).2.2, ()), rfl, ?_⟩
    apply ld_b; (· (repeat (first | exact Heap.set_same _ _ _ | assumption | refine Heap.look_ne (by (first | assumption | exact Ne.symm (by assumption) | grind)) ?_))); (· exact (show o.enc[1]? = _ from rfl))
    refine refFork_ok (u1 _) w o.p ⟨((fork T o.p).2.1, (fork T o.p).2.2, ()), rfl, ?_⟩
    refine pIf_t (by simp) ?_
    unfold law24_Do_j1
    simp only [beq_self_eq_true]
    (refine fgt_here ?_ k; unfold Both; (intro i x hx; grind (splits := 30) [Heap.set]))
  have n0 : ¬ o.kind.tmod 15 = 0 := by simpa using hz
  refine pIf_i (fun hz => ?_) (fun hz => ?_)
  · have e : o.kind.tmod 15 = 1 := by simpa using hz
    have ed : doF T o = (exitF T o.p o.a).1 := by simp [doF, e]
    rw [ed] at k
    refine ld_b (Heap.set_same _ _ _) (show o.enc[1]? = _ from rfl) ?_
    refine ld_b (Heap.set_same _ _ _) (show o.enc[2]? = _ from rfl) ?_
    refine ld_b (Heap.set_same _ _ _) (show o.enc[1]? = _ from rfl) ?_
    refine ld_b (Heap.set_same _ _ _) (show o.enc[2]? = _ from rfl) ?_
    refine exit_ok t1 o.p o.a ⟨(exitF T o.p o.a).2, rfl, ?_⟩
    (refine keep_cell (.int .i64) sh3 (by decide) (by (repeat (first | exact Heap.set_same _ _ _ | assumption | refine Heap.look_ne (by (first | assumption | exact Ne.symm (by assumption) | grind)) ?_))) rfl ?_)
    (refine keep_cell (.int .i64) sh3 (by decide) (by (repeat (first | exact Heap.set_same _ _ _ | assumption | refine Heap.look_ne (by (first | assumption | exact Ne.symm (by assumption) | grind)) ?_))) rfl ?_)
    refine refExit_ok (u1 _) w o.p o.a ⟨(exitF T o.p o.a).2, rfl, ?_⟩
    simp only [beq_self_eq_true]
    (refine fgt_here ?_ k; unfold Both; (intro i x hx; grind (splits := 30) [Heap.set]))
  have n1 : ¬ o.kind.tmod 15 = 1 := by simpa using hz
  refine pIf_i (fun hz => ?_) (fun hz => ?_)
  · have e : o.kind.tmod 15 = 2 := by simpa using hz
    have ed : doF T o = (waitF T o.p).1 := by simp [doF, e]
    rw [ed] at k
    refine ld_b (Heap.set_same _ _ _) (show o.enc[1]? = _ from rfl) ?_
    refine wait_ok t1 w.wf o.p ⟨((waitF T o.p).2.1, (waitF T o.p).2.2.1, (waitF T o.p).2.2.2, ()), rfl, ?_⟩
    apply ld_b; (· (repeat (first | exact Heap.set_same _ _ _ | assumption | refine Heap.look_ne (by (first | assumption | exact Ne.symm (by assumption) | grind)) ?_))); (· exact (show o.enc[1]? = _ from rfl))
    refine refWait_ok (u1 _) w o.p ⟨((waitF T o.p).2.1, (waitF T o.p).2.2.1, (waitF T o.p).2.2.2, ()), rfl, ?_⟩
    refine pIf_t (by simp) (pIf_t (by simp) ?_)
    unfold law24_Do_j2
    simp only [beq_self_eq_true]
    (refine fgt_here ?_ k; unfold Both; (intro i x hx; grind (splits := 30) [Heap.set]))
  have n2 : ¬ o.kind.tmod 15 = 2 := by simpa using hz
  refine pIf_i (fun hz => ?_) (fun hz => ?_)
  · have e : o.kind.tmod 15 = 3 := by simpa using hz
    have ed : doF T o = (putF T o.p ⟨o.a, o.b, 0⟩).1 := by simp [doF, e]
    rw [ed] at k
    refine ld_b (Heap.set_same _ _ _) (show o.enc[1]? = _ from rfl) ?_
    refine ld_b (Heap.set_same _ _ _) (show o.enc[2]? = _ from rfl) ?_
    refine ld_b (Heap.set_same _ _ _) (show o.enc[3]? = _ from rfl) ?_
    refine add_ok t1 o.p o.a o.b ⟨((putF T o.p ⟨o.a, o.b, 0⟩).2.1, (putF T o.p ⟨o.a, o.b, 0⟩).2.2, ()), rfl, ?_⟩
    apply ld_b; (· (repeat (first | exact Heap.set_same _ _ _ | assumption | refine Heap.look_ne (by (first | assumption | exact Ne.symm (by assumption) | grind)) ?_))); (· exact (show o.enc[1]? = _ from rfl))
    apply ld_b; (· (repeat (first | exact Heap.set_same _ _ _ | assumption | refine Heap.look_ne (by (first | assumption | exact Ne.symm (by assumption) | grind)) ?_))); (· exact (show o.enc[2]? = _ from rfl))
    apply ld_b; (· (repeat (first | exact Heap.set_same _ _ _ | assumption | refine Heap.look_ne (by (first | assumption | exact Ne.symm (by assumption) | grind)) ?_))); (· exact (show o.enc[3]? = _ from rfl))
    have el : lay (zc Try.prog 33) [(0, .int .i64 o.a), (1, .int .i64 o.b)] = (File.mk o.a o.b 0).enc := by rw [zc_file]; rfl
    rw [el]
    refine refPut_ok (u1 _) w o.p ⟨o.a, o.b, 0⟩ ⟨((putF T o.p ⟨o.a, o.b, 0⟩).2.1, (putF T o.p ⟨o.a, o.b, 0⟩).2.2, ()), rfl, ?_⟩
    refine pIf_t (by simp) ?_
    unfold law24_Do_j3
    simp only [beq_self_eq_true]
    (refine fgt_here ?_ k; unfold Both; (intro i x hx; grind (splits := 30) [Heap.set]))
  have n3 : ¬ o.kind.tmod 15 = 3 := by simpa using hz
  refine pIf_i (fun hz => ?_) (fun hz => ?_)
  · have e : o.kind.tmod 15 = 4 := by simpa using hz
    have ed : doF T o = (closeF T o.p o.a).1 := by simp [doF, e]
    rw [ed] at k
    refine ld_b (Heap.set_same _ _ _) (show o.enc[1]? = _ from rfl) ?_
    refine ld_b (Heap.set_same _ _ _) (show o.enc[2]? = _ from rfl) ?_
    refine ld_b (Heap.set_same _ _ _) (show o.enc[1]? = _ from rfl) ?_
    refine ld_b (Heap.set_same _ _ _) (show o.enc[2]? = _ from rfl) ?_
    refine close_ok t1 o.p o.a ⟨(closeF T o.p o.a).2, rfl, ?_⟩
    (refine keep_cell (.int .i64) sh3 (by decide) (by (repeat (first | exact Heap.set_same _ _ _ | assumption | refine Heap.look_ne (by (first | assumption | exact Ne.symm (by assumption) | grind)) ?_))) rfl ?_)
    (refine keep_cell (.int .i64) sh3 (by decide) (by (repeat (first | exact Heap.set_same _ _ _ | assumption | refine Heap.look_ne (by (first | assumption | exact Ne.symm (by assumption) | grind)) ?_))) rfl ?_)
    refine refClose_ok (u1 _) w o.p o.a ⟨(closeF T o.p o.a).2, rfl, ?_⟩
    simp only [beq_self_eq_true]
    (refine fgt_here ?_ k; unfold Both; (intro i x hx; grind (splits := 30) [Heap.set]))
  have n4 : ¬ o.kind.tmod 15 = 4 := by simpa using hz
  refine pIf_i (fun hz => ?_) (fun hz => ?_)
  · have e : o.kind.tmod 15 = 5 := by simpa using hz
    have ed : doF T o = (seekF T o.p o.a o.b).1 := by simp [doF, e]
    rw [ed] at k
    refine ld_b (Heap.set_same _ _ _) (show o.enc[1]? = _ from rfl) ?_
    refine ld_b (Heap.set_same _ _ _) (show o.enc[2]? = _ from rfl) ?_
    refine ld_b (Heap.set_same _ _ _) (show o.enc[3]? = _ from rfl) ?_
    refine ld_b (Heap.set_same _ _ _) (show o.enc[1]? = _ from rfl) ?_
    refine ld_b (Heap.set_same _ _ _) (show o.enc[2]? = _ from rfl) ?_
    refine ld_b (Heap.set_same _ _ _) (show o.enc[3]? = _ from rfl) ?_
    refine seek_ok t1 o.p o.a o.b ⟨(seekF T o.p o.a o.b).2, rfl, ?_⟩
    (refine keep_cell (.int .i64) sh3 (by decide) (by (repeat (first | exact Heap.set_same _ _ _ | assumption | refine Heap.look_ne (by (first | assumption | exact Ne.symm (by assumption) | grind)) ?_))) rfl ?_)
    (refine keep_cell (.int .i64) sh3 (by decide) (by (repeat (first | exact Heap.set_same _ _ _ | assumption | refine Heap.look_ne (by (first | assumption | exact Ne.symm (by assumption) | grind)) ?_))) rfl ?_)
    (refine keep_cell (.int .i64) sh3 (by decide) (by (repeat (first | exact Heap.set_same _ _ _ | assumption | refine Heap.look_ne (by (first | assumption | exact Ne.symm (by assumption) | grind)) ?_))) rfl ?_)
    refine refSeek_ok (u1 _) w o.p o.a o.b ⟨(seekF T o.p o.a o.b).2, rfl, ?_⟩
    simp only [beq_self_eq_true]
    (refine fgt_here ?_ k; unfold Both; (intro i x hx; grind (splits := 30) [Heap.set]))
  have n5 : ¬ o.kind.tmod 15 = 5 := by simpa using hz
  refine pIf_i (fun hz => ?_) (fun hz => ?_)
  · have e : o.kind.tmod 15 = 6 := by simpa using hz
    have ed : doF T o = (dupF T o.p o.a).1 := by simp [doF, e]
    rw [ed] at k
    refine ld_b (Heap.set_same _ _ _) (show o.enc[1]? = _ from rfl) ?_
    refine ld_b (Heap.set_same _ _ _) (show o.enc[2]? = _ from rfl) ?_
    refine dup_ok t1 o.p o.a ⟨((dupF T o.p o.a).2.1, (dupF T o.p o.a).2.2, ()), rfl, ?_⟩
    apply ld_b; (· (repeat (first | exact Heap.set_same _ _ _ | assumption | refine Heap.look_ne (by (first | assumption | exact Ne.symm (by assumption) | grind)) ?_))); (· exact (show o.enc[1]? = _ from rfl))
    apply ld_b; (· (repeat (first | exact Heap.set_same _ _ _ | assumption | refine Heap.look_ne (by (first | assumption | exact Ne.symm (by assumption) | grind)) ?_))); (· exact (show o.enc[2]? = _ from rfl))
    refine refDup_ok (u1 _) w o.p o.a ⟨((dupF T o.p o.a).2.1, (dupF T o.p o.a).2.2, ()), rfl, ?_⟩
    refine pIf_t (by simp) ?_
    unfold law24_Do_j4
    simp only [beq_self_eq_true]
    (refine fgt_here ?_ k; unfold Both; (intro i x hx; grind (splits := 30) [Heap.set]))
  have n6 : ¬ o.kind.tmod 15 = 6 := by simpa using hz
  refine pIf_i (fun hz => ?_) (fun hz => ?_)
  · have e : o.kind.tmod 15 = 7 := by simpa using hz
    have ed : doF T o = (mapF T o.p o.x).1 := by simp [doF, e]
    rw [ed] at k
    refine ld_b (Heap.set_same _ _ _) (show o.enc[1]? = _ from rfl) ?_
    refine ldA_b (Heap.set_same _ _ _) (show cut o.enc 4 5 = some o.x.enc from rfl) ?_
    refine map_ok t1 o.p o.x ⟨((mapF T o.p o.x).2.1, (mapF T o.p o.x).2.2, ()), rfl, ?_⟩
    apply ld_b; (· (repeat (first | exact Heap.set_same _ _ _ | assumption | refine Heap.look_ne (by (first | assumption | exact Ne.symm (by assumption) | grind)) ?_))); (· exact (show o.enc[1]? = _ from rfl))
    apply ldA_b; (· (repeat (first | exact Heap.set_same _ _ _ | assumption | refine Heap.look_ne (by (first | assumption | exact Ne.symm (by assumption) | grind)) ?_))); (· exact (show cut o.enc 4 5 = some o.x.enc from rfl))
    refine refMap_ok (u1 _) w o.p o.x ⟨((mapF T o.p o.x).2.1, (mapF T o.p o.x).2.2, ()), rfl, ?_⟩
    refine pIf_t (by simp) ?_
    unfold law24_Do_j5
    simp only [beq_self_eq_true]
    (refine fgt_here ?_ k; unfold Both; (intro i x hx; grind (splits := 30) [Heap.set]))
  have n7 : ¬ o.kind.tmod 15 = 7 := by simpa using hz
  refine pIf_i (fun hz => ?_) (fun hz => ?_)
  · have e : o.kind.tmod 15 = 8 := by simpa using hz
    have ed : doF T o = (protF T o.p o.a o.b).1 := by simp [doF, e]
    rw [ed] at k
    refine ld_b (Heap.set_same _ _ _) (show o.enc[1]? = _ from rfl) ?_
    refine ld_b (Heap.set_same _ _ _) (show o.enc[2]? = _ from rfl) ?_
    have u0 : Tab (h.set b1 (.row o.enc 9)) bw T := ⟨by (repeat (first | exact Heap.set_same _ _ _ | assumption | refine Heap.look_ne (by (first | assumption | exact Ne.symm (by assumption) | grind)) ?_)), u.len⟩
    refine refArea_ok u0 w o.p o.a ⟨((areaF T o.p o.a).1.enc, (areaF T o.p o.a).2, ()), rfl, ?_⟩
    refine new_st zc_alen (Area.len _) (area_one _) ?_
    (intro b64 hb64; try simp only [Heap.set_none] at hb64)
    apply ld_b; (· (repeat (first | exact Heap.set_same _ _ _ | assumption | refine Heap.look_ne (by (first | assumption | exact Ne.symm (by assumption) | grind)) ?_))); (· exact (show o.enc[3]? = _ from rfl))
    apply st_b; (· exact Heap.set_same _ _ _); (· show 2 < 5; decide); (· rfl)
    rw [Heap.set_set]
    have ea : (areaF T o.p o.a).1.enc.set 2 (.int .i64 o.b) = ({ (areaF T o.p o.a).1 with prot := o.b } : Area).enc := rfl
    rw [ea]
    have t8 : Tab ((h.set b1 (.row o.enc 9)).set b64 (.row ({ (areaF T o.p o.a).1 with prot := o.b } : Area).enc 5)) bt T := ⟨by (repeat (first | exact Heap.set_same _ _ _ | assumption | refine Heap.look_ne (by (first | assumption | exact Ne.symm (by assumption) | grind)) ?_)), t.len⟩
    have u8 : ∀ T', Tab (((h.set b1 (.row o.enc 9)).set b64 (.row ({ (areaF T o.p o.a).1 with prot := o.b } : Area).enc 5)).set bt (.row (encT T') 441)) bw T := fun T' => ⟨by (repeat (first | exact Heap.set_same _ _ _ | assumption | refine Heap.look_ne (by (first | assumption | exact Ne.symm (by assumption) | grind)) ?_)), u.len⟩
    apply ld_b; (· (repeat (first | exact Heap.set_same _ _ _ | assumption | refine Heap.look_ne (by (first | assumption | exact Ne.symm (by assumption) | grind)) ?_))); (· exact (show o.enc[1]? = _ from rfl))
    apply ld_b; (· (repeat (first | exact Heap.set_same _ _ _ | assumption | refine Heap.look_ne (by (first | assumption | exact Ne.symm (by assumption) | grind)) ?_))); (· exact (show o.enc[2]? = _ from rfl))
    apply ld_b; (· (repeat (first | exact Heap.set_same _ _ _ | assumption | refine Heap.look_ne (by (first | assumption | exact Ne.symm (by assumption) | grind)) ?_))); (· exact (show o.enc[3]? = _ from rfl))
    apply ld_b; (· (repeat (first | exact Heap.set_same _ _ _ | assumption | refine Heap.look_ne (by (first | assumption | exact Ne.symm (by assumption) | grind)) ?_))); (· exact (show o.enc[1]? = _ from rfl))
    apply ld_b; (· (repeat (first | exact Heap.set_same _ _ _ | assumption | refine Heap.look_ne (by (first | assumption | exact Ne.symm (by assumption) | grind)) ?_))); (· exact (show o.enc[2]? = _ from rfl))
    refine ldA_all (Heap.set_same _ _ _) rfl ?_
    refine protect_ok t8 o.p o.a o.b ⟨(protF T o.p o.a o.b).2, rfl, ?_⟩
    refine keep_agg sh36 sz36 (by (repeat (first | exact Heap.set_same _ _ _ | assumption | refine Heap.look_ne (by (first | assumption | exact Ne.symm (by assumption) | grind)) ?_))) (cut_all' rfl) ?_
    (refine keep_cell (.int .i64) sh3 (by decide) (by (repeat (first | exact Heap.set_same _ _ _ | assumption | refine Heap.look_ne (by (first | assumption | exact Ne.symm (by assumption) | grind)) ?_))) rfl ?_)
    (refine keep_cell (.int .i64) sh3 (by decide) (by (repeat (first | exact Heap.set_same _ _ _ | assumption | refine Heap.look_ne (by (first | assumption | exact Ne.symm (by assumption) | grind)) ?_))) rfl ?_)
    rw [prot_set] at k ⊢
    refine refSetArea_ok (u8 _) w o.p o.a { (areaF T o.p o.a).1 with prot := o.b } ⟨(setAreaF T o.p o.a { (areaF T o.p o.a).1 with prot := o.b }).2, rfl, ?_⟩
    simp only [beq_self_eq_true]
    (refine fgt_here ?_ k; unfold Both; (intro i x hx; grind (splits := 30) [Heap.set]))
  have n8 : ¬ o.kind.tmod 15 = 8 := by simpa using hz
  refine pIf_i (fun hz => ?_) (fun hz => ?_)
  · have e : o.kind.tmod 15 = 9 := by simpa using hz
    have ed : doF T o = (unmapF T o.p o.a).1 := by simp [doF, e]
    rw [ed] at k
    refine ld_b (Heap.set_same _ _ _) (show o.enc[1]? = _ from rfl) ?_
    refine ld_b (Heap.set_same _ _ _) (show o.enc[2]? = _ from rfl) ?_
    refine ld_b (Heap.set_same _ _ _) (show o.enc[1]? = _ from rfl) ?_
    refine ld_b (Heap.set_same _ _ _) (show o.enc[2]? = _ from rfl) ?_
    refine unmap_ok t1 o.p o.a ⟨(unmapF T o.p o.a).2, rfl, ?_⟩
    (refine keep_cell (.int .i64) sh3 (by decide) (by (repeat (first | exact Heap.set_same _ _ _ | assumption | refine Heap.look_ne (by (first | assumption | exact Ne.symm (by assumption) | grind)) ?_))) rfl ?_)
    (refine keep_cell (.int .i64) sh3 (by decide) (by (repeat (first | exact Heap.set_same _ _ _ | assumption | refine Heap.look_ne (by (first | assumption | exact Ne.symm (by assumption) | grind)) ?_))) rfl ?_)
    rw [unmap_set] at k ⊢
    rw [zc_area0]
    refine refSetArea_ok (u1 _) w o.p o.a .z ⟨(setAreaF T o.p o.a .z).2, rfl, ?_⟩
    simp only [beq_self_eq_true]
    (refine fgt_here ?_ k; unfold Both; (intro i x hx; grind (splits := 30) [Heap.set]))
  have n9 : ¬ o.kind.tmod 15 = 9 := by simpa using hz
  exact rest' n0 n1 n2 n3 n4 n5 n6 n7 n8 n9
end Go.Proofs.Ytgheplpbffanoaa
