/- TasksTree: for every list of ops the law returns true: never are more descriptors open than may be; each task's parent is alive; Up ends at the first one. Conditions: none beyond the given statement's. -/
import Derived.Test.YtgheplpbffanoaaRows
import Derived.WalkKit
import Derived.ProofKit
import Derived.OpenShut
import Derived.Test.YtgheplpbffanoaaD16
namespace Go.Proofs.Ytgheplpbffanoaa.tasksTree
open Go.ChangeShapes Go.WideShapes Go.ChangeAt Go.RowKit Go.Hl
set_option linter.unusedVariables false

theorem own : ownKnob Try.prog.godebug = none := by kernel_rfl
theorem laidOut : laidOutB Try.prog = true := by kernel_rfl

def opTy : List CTy := [.int .u8, .int .i64, .int .i64, .int .i64, .bool, .int .i64, .int .i64, .int .i64, .bool]
theorem op_of {W : World} (cs : List Value) (h : COks W opTy cs) : ∃ x : Op, cs = x.enc ∧ True := by
  obtain ⟨x1, r1, rfl, _, h⟩ := COks.int' h
  obtain ⟨x2, r2, rfl, _, h⟩ := COks.int' h
  obtain ⟨x3, r3, rfl, _, h⟩ := COks.int' h
  obtain ⟨x4, r4, rfl, _, h⟩ := COks.int' h
  obtain ⟨x5, r5, rfl, h5⟩ := COks.bool' h
  obtain ⟨x6, r6, rfl, _, h⟩ := COks.int' h5
  obtain ⟨x7, r7, rfl, _, h⟩ := COks.int' h
  obtain ⟨x8, r8, rfl, _, h⟩ := COks.int' h
  obtain ⟨x9, r9, rfl, h9⟩ := COks.bool' h
  obtain rfl := COks.nil' h9
  exact ⟨⟨x1, x2, x3, x4, ⟨x5, x6, x7, x8, x9⟩⟩, rfl, trivial⟩

/-! ### THE ROW's STEP -/
set_option maxRecDepth 100000 in
theorem lifted (os : Os) (started : os.Started) (H : Type) (enc : TypeId × Value → H) :
    ReturnsInHanded {} Try.checked os 5 .any (Rows.tasksTreeSpec.pre6 enc Try.prog Try.f5 Rows.tasksTreeRow.domain false) (Rows.tasksTreeSpec.post enc Try.prog Try.f5 false true false false) := by
  refine returnsInHanded_of_change (C := Try.checked) own started (by kernel_rfl) Try.func5
    (ChangeSpec.witness6 (enc := enc) (C := Try.checked) false ⟨#[], #[.slice none 0 0], []⟩ 8 (by kernel_rfl) (by kernel_rfl) (by kernel_rfl) (by kernel_rfl)) ?_
  intro W base args ds gs before hval0 hW hcnd _
  have hval : ∀ (j : Nat) t v, Try.f5.params[j]? = some t → args[j]? = some v → Value.okWide Try.prog W .any base t v := hval0
  have hW' := hW
  obtain ⟨p, q, hA0, hV, rfl, hfz, hnd⟩ := hW
  have hA : DataW.TrodAll enc Try.prog W 0 (fun _ => true) true Try.f5.params.toList args.toList ds p := hA0
  rw [Try.params5] at hA hval
  obtain ⟨v0, vs0, d0, ds0, p0, q0, hargs, rfl, rfl, h0, r0⟩ := trodAll_cons hA
  obtain ⟨rfl, rfl, rfl⟩ := trodAll_nil r0
  obtain rfl : args = #[v0] := by cases args; simp_all
  obtain ⟨rfl, rfl⟩ := trodVars_none hV
  have hlt : ∀ x ∈ p0, x.block < W.heap.size := fun x hx => by simpa using hW'.lt x (by simp [hx])
  have hc := open_cok (l := [.slice opTy]) (by kernel_rfl) h0
  obtain ⟨sb, sl, sc, hv0⟩ := okWide_slice Try.underlying43 (hval 0 _ v0 rfl rfl)
  subst hv0
  obtain ⟨s, l, hse, hsl, he, _⟩ := open_slice (enc := Op.enc) (φ := fun _ => True) hc.1 op_of
  rw [hse] at h0 hW' ⊢
  clear hA0 hval0
  simp only [List.append_nil] at hW'
  refine ((tree_law he hsl rfl).law (fixW_quiet W) (fixW_R W)).mono fun e W' ⟨he, hg⟩ => ?_
  subst he
  exact ⟨_, rfl, Go.Hl.post_below (pa := p0) (pv := []) hW' hg (by simp) (fun _ _ _ => (trodAll_cons_mk (shut_bool Try.underlying4 _) trodAll_mk0)) (fun sp hsp => by have := (trodAll_cons_mk (WideElems.Trod_stays laidOut (by kernel_rfl) (of_decide_eq_true (by kernel_rfl)) h0 (fun x hx => hg.same (hlt x hx)) (fun x hx => hsp x (by simpa using hx))) (trodAll_mk0 (enc := enc) (P := Try.prog) (w := W') (base := 0) (spare := sp) (held := true))); simp only [List.append_nil] at this; exact this) (fun _ _ => rfl)
    (ok_one (by kernel_rfl) rfl (okWide_bool_mk Try.underlying4 _))⟩

theorem over : Rows.tasksTreeRow.holds Try.pinned (OpenSpec.ofChange Rows.tasksTreeSpec) :=
  OpenClaim.holds_of_wide 5 Try.f5 rfl rfl rfl rfl rfl rfl rfl ⟨rfl, rfl, rfl, rfl, rfl⟩ rfl rfl rfl rfl rfl (by kernel_rfl) Try.func5 (by kernel_rfl)
    (of_decide_eq_true (by kernel_rfl)) (by unfold Func.isWrapper; first | (rw [if_pos (by decide +kernel)]; kernel_rfl) | (rw [if_neg (by decide +kernel)]; exact ⟨rfl, rfl⟩))
    (fun os started H enc _ => lifted os started H enc)

/-- ████ THE STATEMENT ████ -/
theorem proved : Rows.TasksTreeSaid :=
  over
#print axioms proved
end Go.Proofs.Ytgheplpbffanoaa.tasksTree
