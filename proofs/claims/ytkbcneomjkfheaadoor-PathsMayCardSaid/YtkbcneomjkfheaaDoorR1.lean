/- PathsMay: for every inode and every three numbers the law returns true: whether any rights of any inode may be had is the document's. Conditions: none beyond the given statement's. -/
import Derived.Test.YtkbcneomjkfheaaDoorRows
import Derived.WalkKit
import Derived.ProofKit
import Derived.OpenShut
import Derived.ChangeMaps5
import Derived.LaidMore
import Derived.Lay
import Derived.SevenTiedAt
import Derived.Stop.Joined
import Derived.Test.YtkbcneomjkfheaaDoorTie
import Derived.Test.YtkbcneomjkfheaaDoorCards
import Derived.Test.YtkbcneomjkfheaaDoorP
namespace Go.Proofs.YtkbcneomjkfheaaDoor.pathsMay
open Go.ChangeShapes Go.WideShapes Go.ChangeAt Go.RowKit Go.ChangeMaps Go.Hl
set_option linter.unusedVariables false
set_option linter.unusedSimpArgs false

theorem own : ownKnob Tryd.prog.godebug = none := by kernel_rfl
theorem laidOut : laidOutB Tryd.prog = true := by kernel_rfl

def indTy : List CTy := [.int .i64, .int .i64, .int .i64, .int .i64, .int .i64, .int .i64, .int .i64, .str, .slice [.str], .slice [.int .i64], .int .i64]
theorem slice_of {W : World} {l r : List CTy} {cs : List Value} (h : COks W (.slice l :: r) cs) : ∃ (s : Sl) (t : List Value), cs = .slice s.base s.len s.cap :: t ∧ COks W r t := by
  obtain ⟨v, t, rfl, h1, h2⟩ := COks.cons' h
  unfold COk at h1
  obtain ⟨s, rfl, _⟩ := h1
  exact ⟨s, t, rfl, h2⟩
theorem ind_of {W : World} {cs : Array Value} (h : COks W indTy cs.toList) : ∃ (x : Ind) (n i : Sl), cs = (encI x n i).toArray := by
  obtain ⟨x1, r1, e1, _, h⟩ := COks.int' h
  obtain ⟨x2, r2, e2, _, h⟩ := COks.int' h
  obtain ⟨x3, r3, e3, _, h⟩ := COks.int' h
  obtain ⟨x4, r4, e4, _, h⟩ := COks.int' h
  obtain ⟨x5, r5, e5, _, h⟩ := COks.int' h
  obtain ⟨x6, r6, e6, _, h⟩ := COks.int' h
  obtain ⟨x7, r7, e7, _, h⟩ := COks.int' h
  obtain ⟨x8, r8, e8, _, h⟩ := COks.str' h
  obtain ⟨x9, r9, e9, h⟩ := slice_of h
  obtain ⟨x10, r10, e10, h⟩ := slice_of h
  obtain ⟨x11, r11, e11, _, h⟩ := COks.int' h
  have e12 := COks.nil' h
  subst e12 e11 e10 e9 e8 e7 e6 e5 e4 e3 e2
  refine ⟨{ ino := x1, gen := x2, kind := x3, mode := x4, uid := x5, gid := x6, links := x7, data := x8, up := x11 }, x9, x10, ?_⟩
  apply Array.toList_inj.1
  rw [e1]; rfl

/-! ### THE ROW's STEP -/
set_option maxRecDepth 100000 in
theorem lifted (os : Os) (started : os.Started) (H : Type) (enc : TypeId × Value → H) :
    ReturnsInHanded {} Tryd.checked os 3 .any (fun w args => (Rows.pathsMaySpec.pre enc Tryd.prog Tryd.f3 Rows.pathsMayRow.domain false w args ∧ laidMetH Tryd.prog Rows.pathsMayRow.laid w) ∧ sizedMet enc Tryd.prog Tryd.f3 (OpenSpec.ofChange Rows.pathsMaySpec) false w args) (Rows.pathsMaySpec.post enc Tryd.prog Tryd.f3 false true false false) := by
  refine returnsInHanded_of_change_and (C := Tryd.checked) (X := fun w _ => laidMetH Tryd.prog Rows.pathsMayRow.laid w) (fun _ _ _ hh h => h.of_heap hh) own started (by kernel_rfl) Tryd.func3
    (ChangeSpec.witness_shaped (enc := enc) (C := Tryd.checked) (os := os) (X := fun w _ => laidMetH Tryd.prog Rows.pathsMayRow.laid w) false (World.laidAll Tryd.prog os Rows.pathsMayRow.laid) #[.agg #[.int .i64 0, .int .i64 0, .int .i64 0, .int .i64 0, .int .i64 0, .int .i64 0, .int .i64 0, .string ⟨#[]⟩, .slice none 0 0, .slice none 0 0, .int .i64 0], .int .i64 0, .int .i64 0, .int .i64 0] 8 (World.laidAll_os _ _ _)
      (World.shaped_of_ZipB (by kernel_rfl) (by kernel_rfl)) (by kernel_rfl) (by kernel_rfl) (by kernel_rfl)
      (by rw [MakeChecks.laidMetH_plain _ _ _ (by kernel_rfl)]; exact laidMet_laidAll _ (by kernel_rfl) (by kernel_rfl))) ?_
  intro W base args ds gs before hval0 hW hcnd _ hL _
  have hval : ∀ (j : Nat) t v, Tryd.f3.params[j]? = some t → args[j]? = some v → Value.okWide Tryd.prog W .any base t v := hval0
  have hW' := hW
  obtain ⟨p, q, hA0, hV, rfl, hfz, hnd⟩ := hW
  have hA : DataW.TrodAll enc Tryd.prog W 0 (fun _ => true) true Tryd.f3.params.toList args.toList ds p := hA0
  rw [Tryd.params3] at hA hval
  obtain ⟨v0, vs0, d0, ds0, p0, q0, hargs, rfl, rfl, h0, r0⟩ := trodAll_cons hA
  obtain ⟨v1, vs1, d1, ds1, p1, q1, rfl, rfl, rfl, h1, r1⟩ := trodAll_cons r0
  obtain ⟨v2, vs2, d2, ds2, p2, q2, rfl, rfl, rfl, h2, r2⟩ := trodAll_cons r1
  obtain ⟨v3, vs3, d3, ds3, p3, q3, rfl, rfl, rfl, h3, r3⟩ := trodAll_cons r2
  obtain ⟨rfl, rfl, rfl⟩ := trodAll_nil r3
  obtain rfl : args = #[v0, v1, v2, v3] := by cases args; simp_all
  obtain ⟨rfl, rfl⟩ := trodVars_none hV
  obtain ⟨cs0, hv0, hn0⟩ := okWide_struct Tryd.underlying25 (hval 0 _ v0 rfl rfl)
  subst hv0
  have hc0 := open_cok (l := indTy) (by kernel_rfl) h0
  obtain ⟨x0, n0, i0, hx0⟩ := ind_of hc0
  subst hx0
  obtain ⟨a1, rfl, rfl, rfl, w1⟩ := open_int Tryd.underlying3 (hval 1 3 v1 rfl rfl) h1
  obtain ⟨a2, rfl, rfl, rfl, w2⟩ := open_int Tryd.underlying3 (hval 2 3 v2 rfl rfl) h2
  obtain ⟨a3, rfl, rfl, rfl, w3⟩ := open_int Tryd.underlying3 (hval 3 3 v3 rfl rfl) h3
  clear hA0 hval0
  have hlt : ∀ x ∈ p0, x.block < W.heap.size := fun x hx => by simpa using hW'.lt x (by simpa [or_assoc] using hx)
  simp only [List.append_nil, List.nil_append] at hW'
  refine ((may_law (KP := fun _ _ => False) (K := fun u _ => u = .bool true) x0 n0 i0 a1 a2 a3 (fun _ => rfl)).law Tryd.call3 (fixW_quiet W) (fixW_R W)).mono fun e W' ⟨he, hg⟩ => ?_
  subst he
  exact ⟨_, rfl, Go.Hl.post_below (pa := p0) (pv := []) hW' hg (by simp) (fun _ _ _ => (trodAll_cons_mk (shut_bool Tryd.underlying4 _) trodAll_mk0)) (fun sp hsp => by have := (trodAll_cons_mk (WideElems.Trod_stays laidOut (by kernel_rfl) (of_decide_eq_true (by kernel_rfl)) h0 (fun x hx => hg.same (hlt x (by simp [hx]))) (fun x hx => hsp x (by simp [hx]))) (trodAll_cons_mk (shut_int Tryd.underlying3 w1) (trodAll_cons_mk (shut_int Tryd.underlying3 w2) (trodAll_cons_mk (shut_int Tryd.underlying3 w3) (trodAll_mk0 (enc := enc) (P := Tryd.prog) (w := W') (base := 0) (spare := sp) (held := true)))))); simp only [List.append_nil, List.nil_append] at this; exact this) (fun _ _ => rfl)
    (ok_one (by kernel_rfl) rfl (okWide_bool_mk Tryd.underlying4 _))⟩

theorem over : Rows.pathsMayRow.holds Tryd.pinned (OpenSpec.ofChange Rows.pathsMaySpec) :=
  OpenClaim.holds_of_wide 3 Tryd.f3 rfl rfl rfl rfl rfl rfl rfl ⟨rfl, rfl, rfl, rfl, rfl⟩ rfl rfl rfl rfl rfl (by kernel_rfl) Tryd.func3 (by kernel_rfl)
    (of_decide_eq_true (by kernel_rfl)) (by unfold Func.isWrapper; first | (rw [if_pos (by decide +kernel)]; kernel_rfl) | (rw [if_neg (by decide +kernel)]; exact ⟨rfl, rfl⟩))
    (fun os started H enc _ => lifted os started H enc)

/-- ████ THE STATEMENT ████ -/
theorem proved : Rows.PathsMayCardSaid :=
  Claim7.holds_tied_plain_at .later [] [.data, .pinned] true (true, "de68986c7770b7e2d1fe086e68918cff1622d5a04165d775ff7fd3758c57a148") true over (fun _ h => by cases h) (by kernel_rfl) (fun _ h => by cases h) pathsMay_row_tie rfl ⟨rfl, rfl⟩ (by kernel_rfl) rfl
    (fun f fn hf hfn => by
      obtain rfl : f = 3 := Option.some.inj ((show Tryd.prog.funcNamed "halberd/halberdlaw22.PathsMay" = some 3 by kernel_rfl).symm.trans hf) |>.symm
      obtain rfl : fn = Tryd.f3 := (Option.some.inj (Tryd.func3.symm.trans hfn)).symm
      exact ⟨by kernel_rfl, fun j t ht => by
        rw [Tryd.params3] at ht
        have hm : t ∈ [25, 3, 3, 3] := by simpa using Array.mem_of_getElem? ht
        have hall : ([25, 3, 3, 3].all fun u => !Tryd.prog.wantsStandIn u) = true := by kernel_rfl
        exact (show Tryd.prog.wantsStandIn t = false by simpa using List.all_eq_true.1 hall t hm)⟩)
    (by kernel_rfl)
#print axioms proved
end Go.Proofs.YtkbcneomjkfheaaDoor.pathsMay
