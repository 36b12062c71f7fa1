/- PathsOf: for every list of ops and every int the law returns true: the path of an inode, found from the root on by the program and by the reference, is the same. Conditions: none beyond the given statement's. -/
import Derived.Test.YtkbcneomjkfheaaDoorRows
import Derived.WalkKit
import Derived.ProofKit
import Derived.OpenShut
import Derived.ChangeMaps5
import Derived.LaidMore
import Derived.Lay
import Derived.SevenTiedAt
import Derived.Stop.Joined
import Derived.Test.YtkbcneomjkfheaaDoorTie
import Derived.Test.YtkbcneomjkfheaaDoorCards
import Derived.Test.YtkbcneomjkfheaaDoorP
namespace Go.Proofs.YtkbcneomjkfheaaDoor.pathsOf
open Go.ChangeShapes Go.WideShapes Go.ChangeAt Go.RowKit Go.ChangeMaps Go.Hl
set_option linter.unusedVariables false
set_option linter.unusedSimpArgs false

theorem own : ownKnob Tryd.prog.godebug = none := by kernel_rfl
theorem laidOut : laidOutB Tryd.prog = true := by kernel_rfl

def opTy : List CTy := [.int .u8, .int .i64, .int .i64, .int .i64, .int .i64, .str]
theorem op_of {W : World} (cs : List Value) (h : COks W opTy cs) : ∃ x : Op, cs = x.enc ∧ (0 ≤ x.kind ∧ x.kind ≤ 255) := by
  obtain ⟨x1, r1, rfl, w1, h⟩ := COks.int' h
  obtain ⟨x2, r2, rfl, _, h⟩ := COks.int' h
  obtain ⟨x3, r3, rfl, _, h⟩ := COks.int' h
  obtain ⟨x4, r4, rfl, _, h⟩ := COks.int' h
  obtain ⟨x5, r5, rfl, _, h⟩ := COks.int' h
  obtain ⟨x6, r6, rfl, _, h⟩ := COks.str' h
  obtain rfl := COks.nil' h
  exact ⟨⟨x1, x2, x3, x4, x5, x6⟩, rfl, wf_u8 w1⟩

/-! ### THE ROW's STEP -/
set_option maxRecDepth 100000 in
theorem lifted (os : Os) (started : os.Started) (H : Type) (enc : TypeId × Value → H) :
    ReturnsInHanded {} Tryd.checked os 5 .any (fun w args => (Rows.pathsOfSpec.pre enc Tryd.prog Tryd.f5 Rows.pathsOfRow.domain false w args ∧ laidMetH Tryd.prog Rows.pathsOfRow.laid w) ∧ sizedMet enc Tryd.prog Tryd.f5 (OpenSpec.ofChange Rows.pathsOfSpec) false w args) (Rows.pathsOfSpec.post enc Tryd.prog Tryd.f5 false true false false) := by
  refine returnsInHanded_of_change_and (C := Tryd.checked) (X := fun w _ => laidMetH Tryd.prog Rows.pathsOfRow.laid w) (fun _ _ _ hh h => h.of_heap hh) own started (by kernel_rfl) Tryd.func5
    (ChangeSpec.witness_shaped (enc := enc) (C := Tryd.checked) (os := os) (X := fun w _ => laidMetH Tryd.prog Rows.pathsOfRow.laid w) false (World.laidAll Tryd.prog os Rows.pathsOfRow.laid) #[.slice none 0 0, .int .i64 0] 8 (World.laidAll_os _ _ _)
      (World.shaped_of_ZipB (by kernel_rfl) (by kernel_rfl)) (by kernel_rfl) (by kernel_rfl) (by kernel_rfl)
      (by rw [MakeChecks.laidMetH_plain _ _ _ (by kernel_rfl)]; exact laidMet_laidAll _ (by kernel_rfl) (by kernel_rfl))) ?_
  intro W base args ds gs before hval0 hW hcnd _ hL _
  have hval : ∀ (j : Nat) t v, Tryd.f5.params[j]? = some t → args[j]? = some v → Value.okWide Tryd.prog W .any base t v := hval0
  have hW' := hW
  obtain ⟨p, q, hA0, hV, rfl, hfz, hnd⟩ := hW
  have hA : DataW.TrodAll enc Tryd.prog W 0 (fun _ => true) true Tryd.f5.params.toList args.toList ds p := hA0
  rw [Tryd.params5] at hA hval
  obtain ⟨v0, vs0, d0, ds0, p0, q0, hargs, rfl, rfl, h0, r0⟩ := trodAll_cons hA
  obtain ⟨v1, vs1, d1, ds1, p1, q1, rfl, rfl, rfl, h1, r1⟩ := trodAll_cons r0
  obtain ⟨rfl, rfl, rfl⟩ := trodAll_nil r1
  obtain rfl : args = #[v0, v1] := by cases args; simp_all
  obtain ⟨rfl, rfl⟩ := trodVars_none hV
  have hc0 := open_cok (l := [.slice opTy]) (by kernel_rfl) h0
  obtain ⟨sb0, sl0, sc0, hv0⟩ := okWide_slice Tryd.underlying40 (hval 0 _ v0 rfl rfl)
  subst hv0
  obtain ⟨s0, l0, hse0, hs0, he0, hp0⟩ := open_slice (enc := Op.enc) (φ := (fun x => 0 ≤ x.kind ∧ x.kind ≤ 255)) hc0.1 op_of
  rw [hse0] at h0 hW' ⊢
  obtain ⟨a1, rfl, rfl, rfl, w1⟩ := open_int Tryd.underlying3 (hval 1 3 v1 rfl rfl) h1
  clear hA0 hval0
  have hlt : ∀ x ∈ p0, x.block < W.heap.size := fun x hx => by simpa using hW'.lt x (by simpa [or_assoc] using hx)
  simp only [List.append_nil, List.nil_append] at hW'
  refine ((of_law (KP := fun _ _ => False) (K := fun u _ => u = .bool true) he0 hs0 a1 (fun _ => rfl)).law Tryd.call5 (fixW_quiet W) (fixW_R W)).mono fun e W' ⟨he, hg⟩ => ?_
  subst he
  exact ⟨_, rfl, Go.Hl.post_below (pa := p0) (pv := []) hW' hg (by simp) (fun _ _ _ => (trodAll_cons_mk (shut_bool Tryd.underlying4 _) trodAll_mk0)) (fun sp hsp => by have := (trodAll_cons_mk (WideElems.Trod_stays laidOut (by kernel_rfl) (of_decide_eq_true (by kernel_rfl)) h0 (fun x hx => hg.same (hlt x (by simp [hx]))) (fun x hx => hsp x (by simp [hx]))) (trodAll_cons_mk (shut_int Tryd.underlying3 w1) (trodAll_mk0 (enc := enc) (P := Tryd.prog) (w := W') (base := 0) (spare := sp) (held := true)))); simp only [List.append_nil, List.nil_append] at this; exact this) (fun _ _ => rfl)
    (ok_one (by kernel_rfl) rfl (okWide_bool_mk Tryd.underlying4 _))⟩

theorem over : Rows.pathsOfRow.holds Tryd.pinned (OpenSpec.ofChange Rows.pathsOfSpec) :=
  OpenClaim.holds_of_wide 5 Tryd.f5 rfl rfl rfl rfl rfl rfl rfl ⟨rfl, rfl, rfl, rfl, rfl⟩ rfl rfl rfl rfl rfl (by kernel_rfl) Tryd.func5 (by kernel_rfl)
    (of_decide_eq_true (by kernel_rfl)) (by unfold Func.isWrapper; first | (rw [if_pos (by decide +kernel)]; kernel_rfl) | (rw [if_neg (by decide +kernel)]; exact ⟨rfl, rfl⟩))
    (fun os started H enc _ => lifted os started H enc)

/-- ████ THE STATEMENT ████ -/
theorem proved : Rows.PathsOfCardSaid :=
  Claim7.holds_tied_plain_at .later [] [.data, .pinned] true (true, "de68986c7770b7e2d1fe086e68918cff1622d5a04165d775ff7fd3758c57a148") true over (fun _ h => by cases h) (by kernel_rfl) (fun _ h => by cases h) pathsOf_row_tie rfl ⟨rfl, rfl⟩ (by kernel_rfl) rfl
    (fun f fn hf hfn => by
      obtain rfl : f = 5 := Option.some.inj ((show Tryd.prog.funcNamed "halberd/halberdlaw22.PathsOf" = some 5 by kernel_rfl).symm.trans hf) |>.symm
      obtain rfl : fn = Tryd.f5 := (Option.some.inj (Tryd.func5.symm.trans hfn)).symm
      exact ⟨by kernel_rfl, fun j t ht => by
        rw [Tryd.params5] at ht
        have hm : t ∈ [40, 3] := by simpa using Array.mem_of_getElem? ht
        have hall : ([40, 3].all fun u => !Tryd.prog.wantsStandIn u) = true := by kernel_rfl
        exact (show Tryd.prog.wantsStandIn t = false by simpa using List.all_eq_true.1 hall t hm)⟩)
    (by kernel_rfl)
#print axioms proved
end Go.Proofs.YtkbcneomjkfheaaDoor.pathsOf
