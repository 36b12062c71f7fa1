/- The evaluator's texts of this seat's functions. Written by a program of this session. -/
import Derived.Test.YtjafpcagfgklgaaGreatDoorV
import Derived.Test.YtjafpcagfgklgaaGreatDoorE2
import Derived.WalkKit
set_option linter.unusedVariables false
set_option maxRecDepth 100000
namespace Go.Proofs.YtjafpcagfgklgaaGreatDoor
open Go.Hl
/- halberd/halberdlaw20.VerifyStack -/
def law20_VerifyStack_ea : Ann := .two (.none) (.two (.two (.none) (.two (.two (.none) (.none)) (.none))) (.two (.none) (.two (.none) (.join (.none) (.two (.none) (.none)) [(7, .any)]))))
noncomputable def law20_VerifyStack_p0 (a0 : SV) (x6 : SV) (k14 : SV × Unit → ER) : ER :=
  eConvS Tryz.prog 35 3 a0 fun x16 => eBin Tryz.prog .geq 3 false x16 (.int .i64 (-64)) fun x17 => eIfV x17
  (eConvS Tryz.prog 35 3 a0 fun x18 => eBin Tryz.prog .add 3 false x18 x6 fun x19 => eBin Tryz.prog .leq 3 false x19 (.int .i64 0) fun x20 => eHas .any x20 (k14 (x20, ())))
  (eHas .any (.bool false) (k14 ((.bool false), ())))
noncomputable def law20_VerifyStack_p1 (C : Cal) (K : SV → ER) (s15 : SV × Unit) (x13 : SV) : ER :=
  eCallR Tryz.prog C 11 [x13, (.int .i64 1), (.sl ⟨none, 0, .lit 0⟩)] 32 fun x21 => eField Tryz.prog 32 x21 0 fun x22 => eBin Tryz.prog .eql 27 false x22 (.int .i64 0) fun x23 => eBin Tryz.prog .eql 4 false x23 s15.1 fun x24 => K x24
noncomputable def law20_VerifyStack_p2 (C : Cal) (K : SV → ER) (a0 : SV) (a1 : SV) (x6 : SV) : ER :=
  eBin Tryz.prog .rem 5 false a1 (.int .u8 4) fun x7 => eBin Tryz.prog .mul 5 false (.int .u8 8) x7 fun x8 => eBin Tryz.prog .add 5 false (.int .u8 98) x8 fun x9 => eBuild Tryz.prog 38 [(0, x9), (1, (.int .u8 10)), (3, a0)] fun x10 => eBuild Tryz.prog 38 [(0, (.int .u8 183))] fun x11 => eBuild Tryz.prog 38 [(0, (.int .u8 149))] fun x12 => eBuildSlice Tryz.prog 26 3 [(0, x10), (1, x11), (2, x12)] fun x13 => eJoinC (σ := SV × Unit) (fun (k14 : SV × Unit → ER) =>
  law20_VerifyStack_p0 a0 x6 k14) fun (s15 : SV × Unit) =>
  law20_VerifyStack_p1 C K s15 x13
noncomputable def law20_VerifyStack_p3 (C : Cal) (K : SV → ER) (a0 : SV) (a1 : SV) : ER :=
  eBuildSlice Tryz.prog 36 4 [(0, (.int .i64 4)), (1, (.int .i64 2)), (2, (.int .i64 1)), (3, (.int .i64 8))] fun x3 => eBin Tryz.prog .rem 5 false a1 (.int .u8 4) fun x4 => eIndexAddrS Tryz.prog 36 x3 x4 fun x5 => eLoad Tryz.prog 3 x5 fun x6 => law20_VerifyStack_p2 C K a0 a1 x6
noncomputable def law20_VerifyStack_e (C : Cal) (N : Nat) (a0 a1 : SV) (K : SV → ER) : ER :=
  eCallR Tryz.prog C 7 [] 4 fun x1 => eUnS .not x1 fun x2 => eIfV x2
  (K (.bool false))
  (law20_VerifyStack_p3 C K a0 a1)
theorem law20_VerifyStack_ee (C : Cal) (N : Nat) (a0 a1 : SV) (K : SV → ER) : eBody Tryz.prog C N Tryz.f4 (Tryz.f4.body.getD .skip) law20_VerifyStack_ea [a0, a1] K = law20_VerifyStack_e C N a0 a1 K := by kernel_rfl
noncomputable def l4 : LeafT := fun C N args K => match args with
  | [a0, a1] => law20_VerifyStack_e C N a0 a1 K
  | _ => eF
theorem lok4 : LeafOk Tryz.prog 4 l4 := .inl ⟨Tryz.f4, Tryz.f4.body.getD .skip, law20_VerifyStack_ea, Tryz.func4, by kernel_rfl, Tryz.call4, fun C N args K H e => by
  unfold l4 at e
  split at e
  · rw [law20_VerifyStack_ee]; exact e
  · exact eF_no e⟩

/- halberd/halberdlaw20.VerifyFields -/
def law20_VerifyFields_ea : Ann := .two (.none) (.two (.two (.none) (.two (.two (.none) (.none)) (.none))) (.two (.none) (.two (.none) (.two (.none) (.two (.none) (.join (.none) (.two (.none) (.none)) [(15, .any)]))))))
noncomputable def law20_VerifyFields_p0 (a2 : SV) (x6 : SV) (k23 : SV × Unit → ER) : ER :=
  eConvS Tryz.prog 35 3 a2 fun x29 => eBin Tryz.prog .geq 3 false x29 (.int .i64 0) fun x30 => eIfV x30
  (eConvS Tryz.prog 35 3 a2 fun x31 => eBin Tryz.prog .add 3 false x31 x6 fun x32 => eBin Tryz.prog .leq 3 false x32 (.int .i64 64) fun x33 => eHas .any x33 (k23 (x33, ())))
  (eHas .any (.bool false) (k23 ((.bool false), ())))
noncomputable def law20_VerifyFields_p1 (a2 : SV) (x6 : SV) (k23 : SV × Unit → ER) : ER :=
  eConvS Tryz.prog 35 3 a2 fun x36 => eBin Tryz.prog .geq 3 false x36 (.int .i64 0) fun x37 => eIfV x37
  (eConvS Tryz.prog 35 3 a2 fun x38 => eBin Tryz.prog .add 3 false x38 x6 fun x39 => eBin Tryz.prog .leq 3 false x39 (.int .i64 64) fun x40 => eHas .any x40 (k23 (x40, ())))
  (eHas .any (.bool false) (k23 ((.bool false), ())))
noncomputable def law20_VerifyFields_p2 (a2 : SV) (x6 : SV) (x9 : SV) (k23 : SV × Unit → ER) (x12 : SV) : ER :=
  eIndexS Tryz.prog 9 x9 x12 fun x27 => eBin Tryz.prog .eql 5 false x27 (.int .u8 116) fun x28 => eIfV x28
  (law20_VerifyFields_p0 a2 x6 k23)
  (eIndexS Tryz.prog 9 x9 x12 fun x34 => eBin Tryz.prog .eql 5 false x34 (.int .u8 105) fun x35 => eIfV x35
  (law20_VerifyFields_p1 a2 x6 k23)
  (eHas .any (.bool false) (k23 ((.bool false), ()))))
noncomputable def law20_VerifyFields_p3 (C : Cal) (K : SV → ER) (a0 : SV) (s24 : SV × Unit) (x22 : SV) : ER :=
  eCallR Tryz.prog C 11 [x22, a0, (.sl ⟨none, 0, .lit 0⟩)] 32 fun x41 => eField Tryz.prog 32 x41 0 fun x42 => eBin Tryz.prog .eql 27 false x42 (.int .i64 0) fun x43 => eBin Tryz.prog .eql 4 false x43 s24.1 fun x44 => K x44
noncomputable def law20_VerifyFields_p4 (C : Cal) (K : SV → ER) (a0 : SV) (a2 : SV) (x6 : SV) (x9 : SV) (x12 : SV) (x15 : SV) (x18 : SV) : ER :=
  eBuild Tryz.prog 38 [(0, x18), (1, (.int .u8 3)), (2, (.int .u8 2)), (3, a2)] fun x19 => eBuild Tryz.prog 38 [(0, (.int .u8 183))] fun x20 => eBuild Tryz.prog 38 [(0, (.int .u8 149))] fun x21 => eBuildSlice Tryz.prog 26 4 [(0, x15), (1, x19), (2, x20), (3, x21)] fun x22 => eJoinC (σ := SV × Unit) (fun (k23 : SV × Unit → ER) =>
  eLenS Tryz.prog [9] [x9] fun x25 => eBin Tryz.prog .lss 3 false x12 x25 fun x26 => eIfV x26
  (law20_VerifyFields_p2 a2 x6 x9 k23 x12)
  (eHas .any (.bool false) (k23 ((.bool false), ())))) fun (s24 : SV × Unit) =>
  law20_VerifyFields_p3 C K a0 s24 x22
noncomputable def law20_VerifyFields_p5 (C : Cal) (K : SV → ER) (a0 : SV) (a1 : SV) (a2 : SV) (a3 : SV) (x6 : SV) (x9 : SV) : ER :=
  eBin Tryz.prog .rem 5 false a1 (.int .u8 9) fun x11 => eConvS Tryz.prog 5 3 x11 fun x12 => eBin Tryz.prog .mul 3 false (.int .i64 8) x12 fun x13 => eConvS Tryz.prog 3 35 x13 fun x14 => eBuild Tryz.prog 38 [(0, (.int .u8 121)), (1, (.int .u8 2)), (2, (.int .u8 1)), (3, x14)] fun x15 => eBin Tryz.prog .rem 5 false a3 (.int .u8 4) fun x16 => eBin Tryz.prog .mul 5 false (.int .u8 8) x16 fun x17 => eBin Tryz.prog .add 5 false (.int .u8 97) x17 fun x18 => law20_VerifyFields_p4 C K a0 a2 x6 x9 x12 x15 x18
noncomputable def law20_VerifyFields_p6 (C : Cal) (K : SV → ER) (a0 : SV) (a1 : SV) (a2 : SV) (a3 : SV) : ER :=
  eBuildSlice Tryz.prog 36 4 [(0, (.int .i64 4)), (1, (.int .i64 2)), (2, (.int .i64 1)), (3, (.int .i64 8))] fun x3 => eBin Tryz.prog .rem 5 false a3 (.int .u8 4) fun x4 => eIndexAddrS Tryz.prog 36 x3 x4 fun x5 => eLoad Tryz.prog 3 x5 fun x6 => eCallR Tryz.prog C 8 [a0] 24 fun x7 => eExtract x7 0 fun x8 => eExtract x7 1 fun x9 => eExtract x7 2 fun x10 => law20_VerifyFields_p5 C K a0 a1 a2 a3 x6 x9
noncomputable def law20_VerifyFields_e (C : Cal) (N : Nat) (a0 a1 a2 a3 : SV) (K : SV → ER) : ER :=
  eCallR Tryz.prog C 7 [] 4 fun x1 => eUnS .not x1 fun x2 => eIfV x2
  (K (.bool false))
  (law20_VerifyFields_p6 C K a0 a1 a2 a3)
theorem law20_VerifyFields_ee (C : Cal) (N : Nat) (a0 a1 a2 a3 : SV) (K : SV → ER) : eBody Tryz.prog C N Tryz.f5 (Tryz.f5.body.getD .skip) law20_VerifyFields_ea [a0, a1, a2, a3] K = law20_VerifyFields_e C N a0 a1 a2 a3 K := by kernel_rfl
noncomputable def l5 : LeafT := fun C N args K => match args with
  | [a0, a1, a2, a3] => law20_VerifyFields_e C N a0 a1 a2 a3 K
  | _ => eF
theorem lok5 : LeafOk Tryz.prog 5 l5 := .inl ⟨Tryz.f5, Tryz.f5.body.getD .skip, law20_VerifyFields_ea, Tryz.func5, by kernel_rfl, Tryz.call5, fun C N args K H e => by
  unfold l5 at e
  split at e
  · rw [law20_VerifyFields_ee]; exact e
  · exact eF_no e⟩

/- halberd/halberdlaw20.VerifyRegs -/
def law20_VerifyRegs_ea : Ann := .two (.none) (.two (.two (.none) (.two (.two (.none) (.none)) (.none))) (.two (.none) (.two (.none) (.none))))
noncomputable def law20_VerifyRegs_p0 (C : Cal) (K : SV → ER) (a0 : SV) (a1 : SV) : ER :=
  eBin Tryz.prog .rem 5 false a0 (.int .u8 11) fun x3 => eBuild Tryz.prog 38 [(0, (.int .u8 191)), (2, x3)] fun x4 => eBuild Tryz.prog 38 [(0, (.int .u8 149))] fun x5 => eBuildSlice Tryz.prog 26 2 [(0, x4), (1, x5)] fun x6 => eCallR Tryz.prog C 11 [x6, a1, (.sl ⟨none, 0, .lit 0⟩)] 32 fun x7 => eField Tryz.prog 32 x7 0 fun x8 => eBin Tryz.prog .neq 27 false x8 (.int .i64 0) fun x9 => K x9
noncomputable def law20_VerifyRegs_e (C : Cal) (N : Nat) (a0 a1 : SV) (K : SV → ER) : ER :=
  eCallR Tryz.prog C 7 [] 4 fun x1 => eUnS .not x1 fun x2 => eIfV x2
  (K (.bool false))
  (law20_VerifyRegs_p0 C K a0 a1)
theorem law20_VerifyRegs_ee (C : Cal) (N : Nat) (a0 a1 : SV) (K : SV → ER) : eBody Tryz.prog C N Tryz.f6 (Tryz.f6.body.getD .skip) law20_VerifyRegs_ea [a0, a1] K = law20_VerifyRegs_e C N a0 a1 K := by kernel_rfl
noncomputable def l6 : LeafT := fun C N args K => match args with
  | [a0, a1] => law20_VerifyRegs_e C N a0 a1 K
  | _ => eF
theorem lok6 : LeafOk Tryz.prog 6 l6 := .inl ⟨Tryz.f6, Tryz.f6.body.getD .skip, law20_VerifyRegs_ea, Tryz.func6, by kernel_rfl, Tryz.call6, fun C N args K H e => by
  unfold l6 at e
  split at e
  · rw [law20_VerifyRegs_ee]; exact e
  · exact eF_no e⟩

/- halberd/halberdlaw20.alive -/
def law20_alive_ea : Ann := .two (.none) (.two (.none) (.two (.none) (.two (.none) (.two (.join (.none) (.two (.two (.none) (.none)) (.none)) [(28, .any)]) (.join (.none) (.none) [(0, .any)])))))
noncomputable def law20_alive_p0 (x6 : SV) (x9 : SV) (k10 : SV × Unit → ER) : ER :=
  eBin Tryz.prog .neq 27 false x6 (.int .i64 0) fun x13 => eIfV x13
  (eHas .any (.bool true) (k10 ((.bool true), ())))
  (eBin Tryz.prog .neq 27 false x9 (.int .i64 0) fun x14 => eHas .any x14 (k10 (x14, ())))
noncomputable def law20_alive_p1 (C : Cal) (x8 : SV) (k15 : SV × Unit → ER) : ER :=
  eCallR Tryz.prog C 11 [x8, (.int .i64 1), (.sl ⟨none, 0, .lit 0⟩)] 32 fun x23 => eBuild Tryz.prog 32 [(0, (.int .i64 13)), (1, (.int .i64 1)), (2, (.int .i64 2))] fun x24 => eBin Tryz.prog .eql 32 false x23 x24 fun x25 => eHas .any x25 (k15 (x25, ()))
noncomputable def law20_alive_p2 (C : Cal) (x5 : SV) (x8 : SV) (k15 : SV × Unit → ER) : ER :=
  eCallR Tryz.prog C 11 [x5, (.int .i64 1), (.sl ⟨none, 0, .lit 0⟩)] 32 fun x20 => eBuild Tryz.prog 32 [(0, (.int .i64 13)), (2, (.int .i64 1))] fun x21 => eBin Tryz.prog .eql 32 false x20 x21 fun x22 => eIfV x22
  (law20_alive_p1 C x8 k15)
  (eHas .any (.bool false) (k15 ((.bool false), ())))
noncomputable def law20_alive_p3 (C : Cal) (x2 : SV) (x5 : SV) (x8 : SV) (k15 : SV × Unit → ER) : ER :=
  eCallR Tryz.prog C 11 [x2, (.int .i64 1), (.sl ⟨none, 0, .lit 0⟩)] 32 fun x17 => eBuild Tryz.prog 32 [(2, (.int .i64 2))] fun x18 => eBin Tryz.prog .eql 32 false x17 x18 fun x19 => eIfV x19
  (law20_alive_p2 C x5 x8 k15)
  (eHas .any (.bool false) (k15 ((.bool false), ())))
noncomputable def law20_alive_p4 (C : Cal) (K : SV → ER) (x2 : SV) (x3 : SV) (x5 : SV) (x6 : SV) : ER :=
  eCallR Tryz.prog C 9 [(.str [109, 111, 118, 32, 114, 48, 44, 32, 52, 49, 10, 101, 120, 105, 116])] 28 fun x7 => eExtract x7 0 fun x8 => eExtract x7 1 fun x9 => eJoinC (σ := SV × Unit) (fun (k10 : SV × Unit → ER) =>
  eBin Tryz.prog .neq 27 false x3 (.int .i64 0) fun x12 => eIfV x12
  (eHas .any (.bool true) (k10 ((.bool true), ())))
  (law20_alive_p0 x6 x9 k10)) fun (s11 : SV × Unit) =>
  eIfV s11.1
  (K (.bool false))
  (eJoinC (σ := SV × Unit) (fun (k15 : SV × Unit → ER) =>
  law20_alive_p3 C x2 x5 x8 k15) fun (s16 : SV × Unit) =>
  K s16.1)
noncomputable def law20_alive_e (C : Cal) (N : Nat) (K : SV → ER) : ER :=
  eCallR Tryz.prog C 9 [(.str [109, 111, 118, 32, 114, 48, 44, 32, 48, 10, 101, 120, 105, 116])] 28 fun x1 => eExtract x1 0 fun x2 => eExtract x1 1 fun x3 => eCallR Tryz.prog C 9 [(.str [101, 120, 105, 116])] 28 fun x4 => eExtract x4 0 fun x5 => eExtract x4 1 fun x6 => law20_alive_p4 C K x2 x3 x5 x6
theorem law20_alive_ee (C : Cal) (N : Nat) (K : SV → ER) : eBody Tryz.prog C N Tryz.f7 (Tryz.f7.body.getD .skip) law20_alive_ea [] K = law20_alive_e C N  K := by kernel_rfl
noncomputable def l7 : LeafT := fun C N args K => match args with
  | [] => law20_alive_e C N  K
  | _ => eF
theorem lok7 : LeafOk Tryz.prog 7 l7 := .inl ⟨Tryz.f7, Tryz.f7.body.getD .skip, law20_alive_ea, Tryz.func7, by kernel_rfl, Tryz.call7, fun C N args K H e => by
  unfold l7 at e
  split at e
  · rw [law20_alive_ee]; exact e
  · exact eF_no e⟩

/- halberd/halberdref15.Row -/
def ref15_Row_ea : Ann := .two (.none) (.two (.none) (.two (.none) (.two (.join (.none) (.two (.two (.none) (.none)) (.none)) [(15, .any)]) (.two (.none) (.join (.two (.none) (.two (.none) (.none))) (.join (.join (.none) (.two (.none) (.none)) [(23, .any)]) (.two (.ord [0, 1, 2, 4, 5, 6, 8, 3, 9, 7, 10, 11]) (.none)) [(7, .any)]) [(7, .any)])))))
noncomputable def ref15_Row_p0 (a0 : SV) (k12 : SV × Unit → ER) : ER :=
  eBin Tryz.prog .geq 3 false a0 (.int .i64 12) fun x14 => eIfV x14
  (eBin Tryz.prog .leq 3 false a0 (.int .i64 14) fun x15 => eHas .any x15 (k12 (x15, ())))
  (eHas .any (.bool false) (k12 ((.bool false), ())))
noncomputable def ref15_Row_p1 (K : SV → ER) (a0 : SV) (s8 : SV × Unit) (x1 : SV) (x2 : SV) : ER :=
  eJoinC (σ := SV × Unit) (fun (k10 : SV × Unit → ER) =>
  eJoinC (σ := SV × Unit) (fun (k12 : SV × Unit → ER) =>
  ref15_Row_p0 a0 k12) fun (s13 : SV × Unit) =>
  eIfV s13.1
  (eHas .any (.int .u64 1) (k10 ((.int .u64 1), ())))
  (eHas .any s8.1 (k10 (s8.1, ())))) fun (s11 : SV × Unit) =>
  eIndexAddrS Tryz.prog 42 x1 a0 fun x16 => eIndexAddrS Tryz.prog 42 x2 a0 fun x17 => eLoad Tryz.prog 9 x16 fun x18 => eLoad Tryz.prog 9 x17 fun x19 => K (.tup [x18, x19, s11.1])
noncomputable def ref15_Row_p2 (K : SV → ER) (a0 : SV) (x1 : SV) (x2 : SV) : ER :=
  eJoinC (σ := SV × Unit) (fun (k7 : SV × Unit → ER) =>
  eBin Tryz.prog .eql 3 false a0 (.int .i64 11) fun x9 => eIfV x9
  (eHas .any (.int .u64 12) (k7 ((.int .u64 12), ())))
  (eHas .any (.int .u64 40) (k7 ((.int .u64 40), ())))) fun (s8 : SV × Unit) =>
  ref15_Row_p1 K a0 s8 x1 x2
noncomputable def ref15_Row_p3 (K : SV → ER) (a0 : SV) (x1 : SV) : ER :=
  eBuildSlice Tryz.prog 42 17 [(0, (.str [])), (1, (.str [116, 105, 110])), (2, (.str [116, 105, 110])), (3, (.str [116, 105, 110, 110])), (4, (.str [116, 105, 105])), (5, (.str [116, 105, 105, 110])), (6, (.str [116, 105, 105, 105, 109])), (7, (.str [116, 105, 110, 110, 110])), (8, (.str [116, 105, 109])), (9, (.str [116, 109, 110])), (10, (.str [116, 109, 110, 110])), (11, (.str [116, 110])), (12, (.str [116, 116, 110])), (13, (.str [116, 116, 110])), (14, (.str [116, 110, 110])), (15, (.str [116, 105])), (16, (.str [116, 105, 110]))] fun x2 => eJoinC (σ := SV × Unit) (fun (k3 : SV × Unit → ER) =>
  eBin Tryz.prog .lss 3 false a0 (.int .i64 1) fun x5 => eIfV x5
  (eHas .any (.bool true) (k3 ((.bool true), ())))
  (eBin Tryz.prog .gtr 3 false a0 (.int .i64 16) fun x6 => eHas .any x6 (k3 (x6, ())))) fun (s4 : SV × Unit) =>
  eIfV s4.1
  (K (.tup [(.str []), (.str []), (.int .u64 0)]))
  (ref15_Row_p2 K a0 x1 x2)
noncomputable def ref15_Row_e (C : Cal) (N : Nat) (a0 : SV) (K : SV → ER) : ER :=
  eBuildSlice Tryz.prog 42 17 [(0, (.str [])), (1, (.str [111, 112, 101, 110])), (2, (.str [97, 99, 99, 101, 115, 115])), (3, (.str [99, 114, 101, 97, 116, 101])), (4, (.str [108, 105, 110, 107])), (5, (.str [117, 110, 108, 105, 110, 107])), (6, (.str [114, 101, 110, 97, 109, 101])), (7, (.str [115, 101, 116, 97, 116, 116, 114])), (8, (.str [101, 120, 101, 99])), (9, (.str [109, 109, 97, 112])), (10, (.str [109, 112, 114, 111, 116, 101, 99, 116])), (11, (.str [102, 111, 114, 107])), (12, (.str [107, 105, 108, 108])), (13, (.str [112, 116, 114, 97, 99, 101])), (14, (.str [115, 101, 116, 105, 100])), (15, (.str [99, 104, 100, 105, 114])), (16, (.str [103, 101, 116, 97, 116, 116, 114]))] fun x1 => ref15_Row_p3 K a0 x1
theorem ref15_Row_ee (C : Cal) (N : Nat) (a0 : SV) (K : SV → ER) : eBody Tryz.prog C N Tryz.f8 (Tryz.f8.body.getD .skip) ref15_Row_ea [a0] K = ref15_Row_e C N a0 K := by kernel_rfl
noncomputable def l8 : LeafT := fun C N args K => match args with
  | [a0] => ref15_Row_e C N a0 K
  | _ => eF
theorem lok8 : LeafOk Tryz.prog 8 l8 := .inl ⟨Tryz.f8, Tryz.f8.body.getD .skip, ref15_Row_ea, Tryz.func8, by kernel_rfl, Tryz.call8, fun C N args K H e => by
  unfold l8 at e
  split at e
  · rw [ref15_Row_ee]; exact e
  · exact eF_no e⟩

/- halberd/asm.Read -/
noncomputable def asm_Read_c0 : Code := match Tryz.f9.body.getD .skip with | .seq a (.seq b c) => a | c => c
noncomputable def asm_Read_c1 : Code := match Tryz.f9.body.getD .skip with | .seq a (.seq b c) => b | c => c
noncomputable def asm_Read_c2 : Code := match Tryz.f9.body.getD .skip with | .seq a (.seq b c) => c | c => c
def asm_Read_ea0 : Ann := .none
def asm_Read_ea2 : Ann := .two (.none) (.two (.none) (.two (.two (.none) (.sub (.loop [(4, .any), (15, .any)] (.two (.none) (.two (.two (.none) (.none)) (.two (.sub (.two (.none) (.none))) (.none))))))) (.two (.none) (.none))))
theorem asm_Read_c1_eq : asm_Read_c1 = .region 1 #[{ dst := some 7, op := .makeFunc (.func 12) #[] #[.tmp 2, .tmp 3], type := 1, after := #[], guard := none, pos := "read.go:180" }, { dst := none, op := .defer { callee := .value (.tmp 7), args := #[], argTypes := #[] }, type := 0, after := #[⟨0, .data⟩], guard := none, pos := "read.go:180" }] false := by kernel_rfl
theorem asm_Read_closure (vi vj : Value) (w : World) : CallsD Tryz.prog 12 #[vi, vj] .returning w fun e u' w' => (∃ v, e = .returned v) ∧ u' = .returning ∧ w' = w := by
  refine callsD_of_wpS Tryz.func12 rfl fun c₀ cs hu => ?_
  apply wpS_seq
  apply wpS_region
  simp [wpOpsS, go_sem, recoverD, hu, Tryz.ntmps12, Exit.thenS]
  apply wpS_seq
  apply wpS_region
  simp [wpOpsS, go_sem, recoverD, Exit.thenS, Tryz.underlying20]
  refine wpS_cond (t := false) (by simp [Act.eval, Array.replicate]) ?_
  simp only [Bool.false_eq_true, if_false]
  refine wpS_of_wp (wp_skip ?_)
  simp [bodyPostS, results, Tryz.results12]
  rw [← hu]
noncomputable def asm_Read_p0 (C : Cal) (k8 : SV × SV × Unit → ER) (s9 : SV × SV × Unit) (x6 : SV) : ER :=
  eIndexAddrS Tryz.prog 42 x6 s9.2.1 fun x11 => eLoad Tryz.prog 9 x11 fun x12 => eCallR Tryz.prog C 16 [x12] 26 fun x13 => eApp Tryz.prog [26, 26] [s9.1, x13] fun x14 => eBin Tryz.prog .add 3 false s9.2.1 (.int .i64 1) fun x15 => eHas .any x14 (eHas .any x15 (k8 (x14, x15, ())))
noncomputable def asm_Read_p1 (C : Cal) (K : SV → ER) (k8 : SV × SV × Unit → ER) (s9 : SV × SV × Unit) (x1 : SV) (x2 : SV) (x6 : SV) (x7 : SV) : ER :=
  eBin Tryz.prog .lss 3 false s9.2.1 x7 fun x10 => eIfV x10
  (asm_Read_p0 C k8 s9 x6)
  (eStore Tryz.prog 26 x1 s9.1 <| eStore Tryz.prog 27 x2 (.int .i64 0) <| eLoad Tryz.prog 26 x1 fun x16 => eLoad Tryz.prog 27 x2 fun x17 => K (.tup [x16, x17]))
noncomputable def asm_Read_e (C : Cal) (N : Nat) (a0 : SV) (K : SV → ER) : ER :=
  eAlloc Tryz.prog 26 fun x1 => eAlloc Tryz.prog 27 fun x2 => eBin Tryz.prog .neq 9 false a0 (.str []) fun x3 => eCallR Tryz.prog C 13 [x3] 0 fun x4 => eCallR Tryz.prog C 15 [a0, (.str [10])] 9 fun x5 => eCallR Tryz.prog C 14 [x5, (.str [10])] 42 fun x6 => eLenS Tryz.prog [42] [x6] fun x7 => eHas .any (.sl ⟨none, 0, .lit 0⟩) (eHas .any (.int .i64 0) (eIter (σ := SV × SV × Unit) (fun (s9 : SV × SV × Unit) (k8 : SV × SV × Unit → ER) =>
  asm_Read_p1 C K k8 s9 x1 x2 x6 x7) N ((.sl ⟨none, 0, .lit 0⟩), (.int .i64 0), ())))
theorem asm_Read_ee (C : Cal) (N : Nat) (a0 : SV) (K : SV → ER) : eBody Tryz.prog C N Tryz.f9 (.seq asm_Read_c0 asm_Read_c2) (.two asm_Read_ea0 asm_Read_ea2) [a0] K = asm_Read_e C N a0 K := by kernel_rfl
noncomputable def l9 : LeafT := fun C N args K => match args with
  | [a0] => asm_Read_e C N a0 K
  | _ => eF
theorem lok9 : LeafOk Tryz.prog 9 l9 := .inr ⟨Tryz.f9, asm_Read_c0, asm_Read_c1, asm_Read_c2, 7, asm_Read_ea0, asm_Read_ea2, Tryz.func9, by kernel_rfl, Tryz.call9, by decide +kernel, by decide +kernel, by rw [asm_Read_c1_eq]; exact defersIdle_of Tryz.call12 asm_Read_closure, fun C N args K H e => by
  unfold l9 at e
  split at e
  · exact ⟨Nat.le_of_ble_eq_true rfl, by rw [asm_Read_ee]; exact e⟩
  · exact eF_no e⟩

/- halberd/verify.Look -/
def verify_Look_ea : Ann := .two (.none) (.two (.two (.none) (.join (.none) (.two (.two (.none) (.none)) (.none)) [(30, .any)])) (.two (.none) (.two (.sub (.loop [] (.two (.two (.none) (.two (.none) (.none))) (.sub (.two (.none) (.two (.ord [0, 1, 2, 3, 4, 6, 9, 10, 11, 13, 5, 7, 8, 12, 14, 15, 16, 17, 18, 19, 20]) (.two (.none) (.two (.none) (.two (.two (.ord [0, 1, 2, 3, 4, 6, 7, 8, 5, 9, 10, 11]) (.none)) (.none)))))))))) (.two (.none) (.none)))))
noncomputable def verify_Look_p0 (C : Cal) (a0 : SV) (a2 : SV) (k6 : SV × Unit → ER) : ER :=
  eCallR Tryz.prog C 18 [a2] 4 fun x9 => eUnS .not x9 fun x10 => eIfV x10
  (eHas .any (.bool true) (k6 ((.bool true), ())))
  (eLenS Tryz.prog [51] [a2] fun x11 => eCallR Tryz.prog C 19 [a0, x11] 27 fun x12 => eBin Tryz.prog .neq 27 false x12 (.int .i64 0) fun x13 => eHas .any x13 (k6 (x13, ())))
noncomputable def verify_Look_p1 (K : SV → ER) (x1 : SV) (x20 : SV) (x46 : SV) : ER :=
  eNilCk x20 fun x48 => eFieldAddr Tryz.prog 77 x48 4 fun x49 => eFieldAddr Tryz.prog 74 x49 1 fun x50 => eNilCk x20 fun x51 => eFieldAddr Tryz.prog 77 x51 6 fun x52 => eLoad Tryz.prog 3 x50 fun x53 => eLoad Tryz.prog 3 x52 fun x54 => eBuild Tryz.prog 32 [(0, x46), (1, x53), (2, x54)] fun x55 => eStore Tryz.prog 32 x1 x55 <| eLoad Tryz.prog 32 x1 fun x56 => K x56
noncomputable def verify_Look_p2 (C : Cal) (K : SV → ER) (x1 : SV) (k21 : Unit → ER) (x20 : SV) (x32 : SV) (x36 : SV) (x37 : SV) : ER :=
  eIndexAddrS Tryz.prog 75 x37 x32 fun x38 => eLoad Tryz.prog 74 x38 fun x39 => eLoad Tryz.prog 75 x36 fun x40 => eSliceS Tryz.prog 75 x40 none (some (.v x32)) none fun x41 => eNilCk x20 fun x42 => eFieldAddr Tryz.prog 77 x42 4 fun x43 => eStore Tryz.prog 74 x43 x39 <| eNilCk x20 fun x44 => eFieldAddr Tryz.prog 77 x44 3 fun x45 => eStore Tryz.prog 75 x45 x41 <| eCallR Tryz.prog C 21 [x20] 27 fun x46 => eBin Tryz.prog .neq 27 false x46 (.int .i64 0) fun x47 => eIfV x47
  (verify_Look_p1 K x1 x20 x46)
  (k21 (()))
noncomputable def verify_Look_p3 (C : Cal) (K : SV → ER) (x1 : SV) (k21 : Unit → ER) (x20 : SV) : ER :=
  eNilCk x20 fun x28 => eFieldAddr Tryz.prog 77 x28 3 fun x29 => eLoad Tryz.prog 75 x29 fun x30 => eLenS Tryz.prog [75] [x30] fun x31 => eBin Tryz.prog .sub 3 false x31 (.int .i64 1) fun x32 => eNilCk x20 fun x33 => eFieldAddr Tryz.prog 77 x33 3 fun x34 => eNilCk x20 fun x35 => eFieldAddr Tryz.prog 77 x35 3 fun x36 => eLoad Tryz.prog 75 x34 fun x37 => verify_Look_p2 C K x1 k21 x20 x32 x36 x37
noncomputable def verify_Look_p4 (K : SV → ER) (x1 : SV) (x20 : SV) : ER :=
  eNilCk x20 fun x57 => eFieldAddr Tryz.prog 77 x57 6 fun x58 => eLoad Tryz.prog 3 x58 fun x59 => eBuild Tryz.prog 32 [(2, x59)] fun x60 => eStore Tryz.prog 32 x1 x60 <| eLoad Tryz.prog 32 x1 fun x61 => K x61
noncomputable def verify_Look_p5 (C : Cal) (K : SV → ER) (x1 : SV) (k21 : Unit → ER) (x20 : SV) : ER :=
  eNilCk x20 fun x23 => eFieldAddr Tryz.prog 77 x23 3 fun x24 => eLoad Tryz.prog 75 x24 fun x25 => eLenS Tryz.prog [75] [x25] fun x26 => eBin Tryz.prog .gtr 3 false x26 (.int .i64 0) fun x27 => eIfV x27
  (verify_Look_p3 C K x1 k21 x20)
  (verify_Look_p4 K x1 x20)
noncomputable def verify_Look_p6 (C : Cal) (K : SV → ER) (N : Nat) (a0 : SV) (a1 : SV) (a2 : SV) (x1 : SV) : ER :=
  eCallR Tryz.prog C 20 [] 71 fun x16 => eBuild Tryz.prog 74 [(0, x16)] fun x17 => eBuildSlice Tryz.prog 75 1 [(0, x17)] fun x18 => eBuild Tryz.prog 77 [(0, a0), (1, a1), (2, a2), (3, x18)] fun x19 => eBox Tryz.prog 77 x19 fun x20 => eIter (σ := Unit) (fun (s22 : Unit) (k21 : Unit → ER) =>
  verify_Look_p5 C K x1 k21 x20) N (())
noncomputable def verify_Look_p7 (C : Cal) (K : SV → ER) (N : Nat) (a0 : SV) (a1 : SV) (a2 : SV) (x1 : SV) : ER :=
  eCallR Tryz.prog C 17 [a1] 54 fun x2 => eExtract x2 0 fun x3 => eExtract x2 1 fun x4 => eAlloc Tryz.prog 53 fun x5 => eStore Tryz.prog 53 x5 x3 <| eJoinC (σ := SV × Unit) (fun (k6 : SV × Unit → ER) =>
  eUnS .not x4 fun x8 => eIfV x8
  (eHas .any (.bool true) (k6 ((.bool true), ())))
  (verify_Look_p0 C a0 a2 k6)) fun (s7 : SV × Unit) =>
  eIfV s7.1
  (eBuild Tryz.prog 32 [(0, (.int .i64 22))] fun x14 => eStore Tryz.prog 32 x1 x14 <| eLoad Tryz.prog 32 x1 fun x15 => K x15)
  (verify_Look_p6 C K N a0 a1 a2 x1)
noncomputable def verify_Look_e (C : Cal) (N : Nat) (a0 a1 a2 : SV) (K : SV → ER) : ER :=
  eAlloc Tryz.prog 32 fun x1 => verify_Look_p7 C K N a0 a1 a2 x1
theorem verify_Look_ee (C : Cal) (N : Nat) (a0 a1 a2 : SV) (K : SV → ER) : eBody Tryz.prog C N Tryz.f11 (Tryz.f11.body.getD .skip) verify_Look_ea [a0, a1, a2] K = verify_Look_e C N a0 a1 a2 K := by kernel_rfl
noncomputable def l11 : LeafT := fun C N args K => match args with
  | [a0, a1, a2] => verify_Look_e C N a0 a1 a2 K
  | _ => eF
theorem lok11 : LeafOk Tryz.prog 11 l11 := .inl ⟨Tryz.f11, Tryz.f11.body.getD .skip, verify_Look_ea, Tryz.func11, by kernel_rfl, Tryz.call11, fun C N args K H e => by
  unfold l11 at e
  split at e
  · rw [verify_Look_ee]; exact e
  · exact eF_no e⟩

/- halberd/asm.Read$1 -/
def asm_Read_1_ea : Ann := .two (.none) (.two (.none) (.two (.join (.two (.none) (.two (.none) (.two (.none) (.none)))) (.none) []) (.none)))
noncomputable def asm_Read_1_e (C : Cal) (N : Nat) (a0 a1 : SV) (K : SV → ER) : ER :=
  eF
theorem asm_Read_1_ee (C : Cal) (N : Nat) (a0 a1 : SV) (K : SV → ER) : eBody Tryz.prog C N Tryz.f12 (Tryz.f12.body.getD .skip) asm_Read_1_ea [a0, a1] K = asm_Read_1_e C N a0 a1 K := by kernel_rfl
noncomputable def l12 : LeafT := fun C N args K => match args with
  | [a0, a1] => asm_Read_1_e C N a0 a1 K
  | _ => eF
theorem lok12 : LeafOk Tryz.prog 12 l12 := .inl ⟨Tryz.f12, Tryz.f12.body.getD .skip, asm_Read_1_ea, Tryz.func12, by kernel_rfl, Tryz.call12, fun C N args K H e => by
  unfold l12 at e
  split at e
  · rw [asm_Read_1_ee]; exact e
  · exact eF_no e⟩

end Go.Proofs.YtjafpcagfgklgaaGreatDoor

set_option linter.unusedVariables false
set_option maxRecDepth 100000
namespace Go.Proofs.YtjafpcagfgklgaaGreatDoor
open Go.Hl
/- halberd/asm.need -/
def asm_need_ea : Ann := .two (.none) (.two (.none) (.none))
noncomputable def asm_need_e (C : Cal) (N : Nat) (a0 : SV) (K : SV → ER) : ER :=
  eUnS .not a0 fun x1 => eIfV x1
  (eBuild Tryz.prog 44 [] fun x2 => eMakeIface Tryz.prog 44 x2 fun x3 => eF)
  (K (.tup []))
theorem asm_need_ee (C : Cal) (N : Nat) (a0 : SV) (K : SV → ER) : eBody Tryz.prog C N Tryz.f13 (Tryz.f13.body.getD .skip) asm_need_ea [a0] K = asm_need_e C N a0 K := by kernel_rfl
noncomputable def l13 : LeafT := fun C N args K => match args with
  | [a0] => asm_need_e C N a0 K
  | _ => eF
theorem lok13 : LeafOk Tryz.prog 13 l13 := .inl ⟨Tryz.f13, Tryz.f13.body.getD .skip, asm_need_ea, Tryz.func13, by kernel_rfl, Tryz.call13, fun C N args K H e => by
  unfold l13 at e
  split at e
  · rw [asm_need_ee]; exact e
  · exact eF_no e⟩

/- strings.Split -/
def strings_Split_ea : Ann := .two (.none) (.two (.none) (.none))
noncomputable def strings_Split_e (C : Cal) (N : Nat) (a0 a1 : SV) (K : SV → ER) : ER :=
  eCallR Tryz.prog C 22 [a0, a1, (.int .i64 0), (.int .i64 (-1))] 42 fun x1 => K x1
theorem strings_Split_ee (C : Cal) (N : Nat) (a0 a1 : SV) (K : SV → ER) : eBody Tryz.prog C N Tryz.f14 (Tryz.f14.body.getD .skip) strings_Split_ea [a0, a1] K = strings_Split_e C N a0 a1 K := by kernel_rfl
noncomputable def l14 : LeafT := fun C N args K => match args with
  | [a0, a1] => strings_Split_e C N a0 a1 K
  | _ => eF
theorem lok14 : LeafOk Tryz.prog 14 l14 := .inl ⟨Tryz.f14, Tryz.f14.body.getD .skip, strings_Split_ea, Tryz.func14, by kernel_rfl, Tryz.call14, fun C N args K H e => by
  unfold l14 at e
  split at e
  · rw [strings_Split_ee]; exact e
  · exact eF_no e⟩

/- strings.TrimSuffix -/
def strings_TrimSuffix_ea : Ann := .two (.none) (.two (.none) (.none))
noncomputable def strings_TrimSuffix_e (C : Cal) (N : Nat) (a0 a1 : SV) (K : SV → ER) : ER :=
  eCallR Tryz.prog C 23 [a0, a1] 9 fun x1 => K x1
theorem strings_TrimSuffix_ee (C : Cal) (N : Nat) (a0 a1 : SV) (K : SV → ER) : eBody Tryz.prog C N Tryz.f15 (Tryz.f15.body.getD .skip) strings_TrimSuffix_ea [a0, a1] K = strings_TrimSuffix_e C N a0 a1 K := by kernel_rfl
noncomputable def l15 : LeafT := fun C N args K => match args with
  | [a0, a1] => strings_TrimSuffix_e C N a0 a1 K
  | _ => eF
theorem lok15 : LeafOk Tryz.prog 15 l15 := .inl ⟨Tryz.f15, Tryz.f15.body.getD .skip, strings_TrimSuffix_ea, Tryz.func15, by kernel_rfl, Tryz.call15, fun C N args K H e => by
  unfold l15 at e
  split at e
  · rw [strings_TrimSuffix_ee]; exact e
  · exact eF_no e⟩

/- halberd/asm.instOf -/
def asm_instOf_ea : Ann := .two (.none) (.two (.none) (.two (.none) (.join (.two (.none) (.two (.none) (.none))) (.two (.two (.none) (.sub (.two (.none) (.two (.two (.none) (.two (.none) (.none))) (.two (.none) (.two (.two (.none) (.two (.none) (.none))) (.two (.none) (.two (.two (.none) (.two (.none) (.none))) (.two (.none) (.two (.two (.none) (.none)) (.two (.none) (.two (.two (.none) (.none)) (.none))))))))))))) (.two (.two (.none) (.two (.none) (.two (.two (.none) (.none)) (.none)))) (.two (.two (.none) (.two (.none) (.two (.two (.none) (.none)) (.none)))) (.two (.none) (.two (.ord [1, 2, 0, 3, 4, 5, 6, 7, 8]) (.two (.none) (.two (.two (.none) (.two (.two (.none) (.none)) (.none))) (.two (.none) (.two (.none) (.none)))))))))) [(6, .any)])))
noncomputable def asm_instOf_p0 (C : Cal) (K : SV → ER) (s6 : SV × Unit) : ER :=
  eLenS Tryz.prog [42] [s6.1] fun x14 => eBin Tryz.prog .eql 3 false x14 (.int .i64 1) fun x15 => eCallR Tryz.prog C 13 [x15] 0 fun x16 => eIndexAddrS Tryz.prog 42 s6.1 (.int .i64 0) fun x17 => eLoad Tryz.prog 9 x17 fun x18 => eCallR Tryz.prog C 25 [x18] 35 fun x19 => eBuild Tryz.prog 38 [(0, (.int .u8 5)), (3, x19)] fun x20 => eBuildSlice Tryz.prog 26 1 [(0, x20)] fun x21 => K x21
noncomputable def asm_instOf_p1 (C : Cal) (K : SV → ER) (s6 : SV × Unit) : ER :=
  eLenS Tryz.prog [42] [s6.1] fun x23 => eBin Tryz.prog .eql 3 false x23 (.int .i64 1) fun x24 => eCallR Tryz.prog C 13 [x24] 0 fun x25 => eIndexAddrS Tryz.prog 42 s6.1 (.int .i64 0) fun x26 => eLoad Tryz.prog 9 x26 fun x27 => eCallR Tryz.prog C 26 [x27, (.int .i64 0), (.int .i64 2147483647)] 2 fun x28 => eConvS Tryz.prog 2 21 x28 fun x29 => eBuild Tryz.prog 38 [(0, (.int .u8 133)), (4, x29)] fun x30 => eBuildSlice Tryz.prog 26 1 [(0, x30)] fun x31 => K x31
noncomputable def asm_instOf_p2 (C : Cal) (K : SV → ER) (s6 : SV × Unit) (x2 : SV) (x56 : SV) : ER :=
  eSliceS Tryz.prog 9 x2 none (some (.v (.int .i64 2))) none fun x63 => eBin Tryz.prog .eql 9 false x63 (.str [115, 116]) fun x64 => eCallR Tryz.prog C 13 [x64] 0 fun x65 => eCallR Tryz.prog C 35 [x56, s6.1] 38 fun x66 => eBuildSlice Tryz.prog 26 1 [(0, x66)] fun x67 => K x67
noncomputable def asm_instOf_p3 (C : Cal) (K : SV → ER) (s6 : SV × Unit) (x2 : SV) : ER :=
  eSliceS Tryz.prog 9 x2 (some (.v (.int .i64 2))) none none fun x53 => eCallR Tryz.prog C 33 [] 91 fun x54 => eLookupS Tryz.prog 91 x54 x53 true fun x55 => eExtract x55 0 fun x56 => eExtract x55 1 fun x57 => eCallR Tryz.prog C 13 [x57] 0 fun x58 => eSliceS Tryz.prog 9 x2 none (some (.v (.int .i64 2))) none fun x59 => eBin Tryz.prog .eql 9 false x59 (.str [108, 100]) fun x60 => eIfV x60
  (eCallR Tryz.prog C 34 [x56, s6.1] 38 fun x61 => eBuildSlice Tryz.prog 26 1 [(0, x61)] fun x62 => K x62)
  (asm_instOf_p2 C K s6 x2 x56)
noncomputable def asm_instOf_p4 (C : Cal) (K : SV → ER) (s6 : SV × Unit) (x2 : SV) : ER :=
  eCallR Tryz.prog C 31 [] 87 fun x43 => eCallR Tryz.prog C 28 [x43, x2] 85 fun x44 => eExtract x44 0 fun x45 => eExtract x44 1 fun x46 => eExtract x44 2 fun x47 => eIfV x47
  (eCallR Tryz.prog C 32 [x45, x46, s6.1] 38 fun x48 => eBuildSlice Tryz.prog 26 1 [(0, x48)] fun x49 => K x49)
  (eLenS Tryz.prog [9] [x2] fun x50 => eBin Tryz.prog .eql 3 false x50 (.int .i64 3) fun x51 => eCallR Tryz.prog C 13 [x51] 0 fun x52 => asm_instOf_p3 C K s6 x2)
noncomputable def asm_instOf_p5 (C : Cal) (K : SV → ER) (s6 : SV × Unit) (x2 : SV) : ER :=
  eCallR Tryz.prog C 29 [] 87 fun x36 => eCallR Tryz.prog C 28 [x36, x2] 85 fun x37 => eExtract x37 0 fun x38 => eExtract x37 1 fun x39 => eExtract x37 2 fun x40 => eIfV x40
  (eCallR Tryz.prog C 30 [x38, x39, s6.1] 38 fun x41 => eBuildSlice Tryz.prog 26 1 [(0, x41)] fun x42 => K x42)
  (asm_instOf_p4 C K s6 x2)
noncomputable def asm_instOf_p6 (C : Cal) (K : SV → ER) (s6 : SV × Unit) (x2 : SV) : ER :=
  eBin Tryz.prog .eql 9 false x2 (.str [108, 100, 100, 119]) fun x32 => eIfV x32
  (eCallR Tryz.prog C 27 [(.int .u8 0), (.int .i64 (-9223372036854775808)), s6.1] 26 fun x33 => K x33)
  (eBin Tryz.prog .eql 9 false x2 (.str [109, 97, 112]) fun x34 => eIfV x34
  (eCallR Tryz.prog C 27 [(.int .u8 1), (.int .i64 0), s6.1] 26 fun x35 => K x35)
  (asm_instOf_p5 C K s6 x2))
noncomputable def asm_instOf_p7 (C : Cal) (K : SV → ER) (s6 : SV × Unit) (x2 : SV) : ER :=
  eBin Tryz.prog .eql 9 false x2 (.str [106, 97]) fun x13 => eIfV x13
  (asm_instOf_p0 C K s6)
  (eBin Tryz.prog .eql 9 false x2 (.str [99, 97, 108, 108]) fun x22 => eIfV x22
  (asm_instOf_p1 C K s6)
  (asm_instOf_p6 C K s6 x2))
noncomputable def asm_instOf_p8 (C : Cal) (K : SV → ER) (s6 : SV × Unit) (x2 : SV) (x4 : SV) : ER :=
  eBin Tryz.prog .eql 9 false x2 (.str [101, 120, 105, 116]) fun x8 => eIfV x8
  (eUnS .not x4 fun x9 => eCallR Tryz.prog C 13 [x9] 0 fun x10 => eBuild Tryz.prog 38 [(0, (.int .u8 149))] fun x11 => eBuildSlice Tryz.prog 26 1 [(0, x11)] fun x12 => K x12)
  (asm_instOf_p7 C K s6 x2)
noncomputable def asm_instOf_e (C : Cal) (N : Nat) (a0 : SV) (K : SV → ER) : ER :=
  eCallR Tryz.prog C 24 [a0, (.str [32])] 80 fun x1 => eExtract x1 0 fun x2 => eExtract x1 1 fun x3 => eExtract x1 2 fun x4 => eJoinC (σ := SV × Unit) (fun (k5 : SV × Unit → ER) =>
  eIfV x4
  (eCallR Tryz.prog C 14 [x3, (.str [44, 32])] 42 fun x7 => eHas .any x7 (k5 (x7, ())))
  (eHas .any (.sl ⟨none, 0, .lit 0⟩) (k5 ((.sl ⟨none, 0, .lit 0⟩), ())))) fun (s6 : SV × Unit) =>
  asm_instOf_p8 C K s6 x2 x4
theorem asm_instOf_ee (C : Cal) (N : Nat) (a0 : SV) (K : SV → ER) : eBody Tryz.prog C N Tryz.f16 (Tryz.f16.body.getD .skip) asm_instOf_ea [a0] K = asm_instOf_e C N a0 K := by kernel_rfl
noncomputable def l16 : LeafT := fun C N args K => match args with
  | [a0] => asm_instOf_e C N a0 K
  | _ => eF
theorem lok16 : LeafOk Tryz.prog 16 l16 := .inl ⟨Tryz.f16, Tryz.f16.body.getD .skip, asm_instOf_ea, Tryz.func16, by kernel_rfl, Tryz.call16, fun C N args K H e => by
  unfold l16 at e
  split at e
  · rw [asm_instOf_ee]; exact e
  · exact eF_no e⟩

/- halberd/hooks.Of -/
def hooks_Of_ea : Ann := .two (.none) (.two (.none) (.two (.join (.none) (.two (.two (.none) (.none)) (.none)) [(11, .any)]) (.two (.none) (.none))))
noncomputable def hooks_Of_p0 (K : SV → ER) (a0 : SV) (s5 : SV × Unit) (x1 : SV) (x3 : SV) : ER :=
  eIfV s5.1
  (eBuild Tryz.prog 53 [] fun x8 => eStore Tryz.prog 53 x1 x8 <| eLoad Tryz.prog 53 x1 fun x9 => K (.tup [x9, (.bool false)]))
  (eIndexAddrS Tryz.prog 94 x3 a0 fun x10 => eLoad Tryz.prog 53 x10 fun x11 => eStore Tryz.prog 53 x1 x11 <| eLoad Tryz.prog 53 x1 fun x12 => K (.tup [x12, (.bool true)]))
noncomputable def hooks_Of_e (C : Cal) (N : Nat) (a0 : SV) (K : SV → ER) : ER :=
  eAlloc Tryz.prog 53 fun x1 => eCallR Tryz.prog C 36 [] 94 fun x2 => eAlloc Tryz.prog 94 fun x3 => eStore Tryz.prog 94 x3 x2 <| eJoinC (σ := SV × Unit) (fun (k4 : SV × Unit → ER) =>
  eBin Tryz.prog .lss 3 false a0 (.int .i64 1) fun x6 => eIfV x6
  (eHas .any (.bool true) (k4 ((.bool true), ())))
  (eBin Tryz.prog .geq 3 false a0 (.int .i64 17) fun x7 => eHas .any x7 (k4 (x7, ())))) fun (s5 : SV × Unit) =>
  hooks_Of_p0 K a0 s5 x1 x3
theorem hooks_Of_ee (C : Cal) (N : Nat) (a0 : SV) (K : SV → ER) : eBody Tryz.prog C N Tryz.f17 (Tryz.f17.body.getD .skip) hooks_Of_ea [a0] K = hooks_Of_e C N a0 K := by kernel_rfl
noncomputable def l17 : LeafT := fun C N args K => match args with
  | [a0] => hooks_Of_e C N a0 K
  | _ => eF
theorem lok17 : LeafOk Tryz.prog 17 l17 := .inl ⟨Tryz.f17, Tryz.f17.body.getD .skip, hooks_Of_ea, Tryz.func17, by kernel_rfl, Tryz.call17, fun C N args K H e => by
  unfold l17 at e
  split at e
  · rw [hooks_Of_ee]; exact e
  · exact eF_no e⟩

/- halberd/owned.May -/
def owned_May_ea : Ann := .two (.none) (.join (.none) (.none) [(2, .any)])
noncomputable def owned_May_p0 (C : Cal) (a0 : SV) (k1 : SV × Unit → ER) : ER :=
  eLenS Tryz.prog [51] [a0] fun x3 => eBin Tryz.prog .leq 3 false x3 (.int .i64 4) fun x4 => eIfV x4
  (eCallR Tryz.prog C 37 [a0, (.fn 38 [] [])] 4 fun x5 => eUnS .not x5 fun x6 => eHas .any x6 (k1 (x6, ())))
  (eHas .any (.bool false) (k1 ((.bool false), ())))
noncomputable def owned_May_e (C : Cal) (N : Nat) (a0 : SV) (K : SV → ER) : ER :=
  eJoinC (σ := SV × Unit) (fun (k1 : SV × Unit → ER) =>
  owned_May_p0 C a0 k1) fun (s2 : SV × Unit) =>
  K s2.1
theorem owned_May_ee (C : Cal) (N : Nat) (a0 : SV) (K : SV → ER) : eBody Tryz.prog C N Tryz.f18 (Tryz.f18.body.getD .skip) owned_May_ea [a0] K = owned_May_e C N a0 K := by kernel_rfl
noncomputable def l18 : LeafT := fun C N args K => match args with
  | [a0] => owned_May_e C N a0 K
  | _ => eF
theorem lok18 : LeafOk Tryz.prog 18 l18 := .inl ⟨Tryz.f18, Tryz.f18.body.getD .skip, owned_May_ea, Tryz.func18, by kernel_rfl, Tryz.call18, fun C N args K H e => by
  unfold l18 at e
  split at e
  · rw [owned_May_ee]; exact e
  · exact eF_no e⟩

/- halberd/isa.Check -/
def isa_Check_ea : Ann := .two (.none) (.two (.join (.none) (.two (.two (.none) (.none)) (.none)) [(23, .any)]) (.two (.none) (.two (.two (.none) (.two (.two (.none) (.none)) (.none))) (.two (.none) (.none)))))
noncomputable def isa_Check_p0 (k3 : SV × Unit → ER) (x1 : SV) : ER :=
  eLoad Tryz.prog 26 x1 fun x11 => eLoad Tryz.prog 26 x1 fun x12 => eLenS Tryz.prog [26] [x12] fun x13 => eBin Tryz.prog .sub 3 false x13 (.int .i64 1) fun x14 => eIndexAddrS Tryz.prog 26 x11 x14 fun x15 => eLoad Tryz.prog 38 x15 fun x16 => eBuild Tryz.prog 38 [(0, (.int .u8 149))] fun x17 => eBin Tryz.prog .neq 38 false x16 x17 fun x18 => eHas .any x18 (k3 (x18, ()))
noncomputable def isa_Check_p1 (k3 : SV × Unit → ER) (x1 : SV) : ER :=
  eLoad Tryz.prog 26 x1 fun x8 => eLenS Tryz.prog [26] [x8] fun x9 => eBin Tryz.prog .gtr 3 false x9 (.int .i64 64) fun x10 => eIfV x10
  (eHas .any (.bool true) (k3 ((.bool true), ())))
  (isa_Check_p0 k3 x1)
noncomputable def isa_Check_p2 (C : Cal) (K : SV → ER) (x1 : SV) (x2 : SV) : ER :=
  eAlloc Tryz.prog 3 fun x19 => eStore Tryz.prog 3 x19 (.int .i64 (-1)) <| eLoad Tryz.prog 26 x1 fun x20 => eCallR Tryz.prog C 40 [x20, (.fn 41 [] [x19, x1, x2])] 4 fun x21 => eIfV x21
  (K (.int .i64 22))
  (K (.int .i64 0))
noncomputable def isa_Check_p3 (k3 : SV × Unit → ER) (x1 : SV) : ER :=
  eLoad Tryz.prog 26 x1 fun x5 => eLenS Tryz.prog [26] [x5] fun x6 => eBin Tryz.prog .eql 3 false x6 (.int .i64 0) fun x7 => eIfV x7
  (eHas .any (.bool true) (k3 ((.bool true), ())))
  (isa_Check_p1 k3 x1)
noncomputable def isa_Check_e (C : Cal) (N : Nat) (a0 a1 : SV) (K : SV → ER) : ER :=
  eBox Tryz.prog 26 a0 fun x1 => eBox Tryz.prog 3 a1 fun x2 => eJoinC (σ := SV × Unit) (fun (k3 : SV × Unit → ER) =>
  isa_Check_p3 k3 x1) fun (s4 : SV × Unit) =>
  eIfV s4.1
  (K (.int .i64 22))
  (isa_Check_p2 C K x1 x2)
theorem isa_Check_ee (C : Cal) (N : Nat) (a0 a1 : SV) (K : SV → ER) : eBody Tryz.prog C N Tryz.f19 (Tryz.f19.body.getD .skip) isa_Check_ea [a0, a1] K = isa_Check_e C N a0 a1 K := by kernel_rfl
noncomputable def l19 : LeafT := fun C N args K => match args with
  | [a0, a1] => isa_Check_e C N a0 a1 K
  | _ => eF
theorem lok19 : LeafOk Tryz.prog 19 l19 := .inl ⟨Tryz.f19, Tryz.f19.body.getD .skip, isa_Check_ea, Tryz.func19, by kernel_rfl, Tryz.call19, fun C N args K H e => by
  unfold l19 at e
  split at e
  · rw [isa_Check_ee]; exact e
  · exact eF_no e⟩

/- halberd/areg.Begin -/
def areg_Begin_ea : Ann := .two (.none) (.two (.none) (.two (.none) (.two (.none) (.none))))
noncomputable def areg_Begin_p0 (K : SV → ER) (x1 : SV) : ER :=
  eBuild Tryz.prog 71 [(3, (.int .i64 1))] fun x2 => eAlloc Tryz.prog 71 fun x3 => eStore Tryz.prog 71 x3 x2 <| eFieldAddr Tryz.prog 71 x3 0 fun x4 => eIndexAddrS Tryz.prog 65 x4 (.int .i64 1) fun x5 => eFieldAddr Tryz.prog 64 x5 0 fun x6 => eStore Tryz.prog 3 x6 (.int .i64 3) <| eFieldAddr Tryz.prog 71 x3 0 fun x7 => eIndexAddrS Tryz.prog 65 x7 (.int .i64 10) fun x8 => eFieldAddr Tryz.prog 64 x8 0 fun x9 => eStore Tryz.prog 3 x9 (.int .i64 2) <| eLoad Tryz.prog 71 x3 fun x10 => eStore Tryz.prog 71 x1 x10 <| eLoad Tryz.prog 71 x1 fun x11 => K x11
noncomputable def areg_Begin_e (C : Cal) (N : Nat) (K : SV → ER) : ER :=
  eAlloc Tryz.prog 71 fun x1 => areg_Begin_p0 K x1
theorem areg_Begin_ee (C : Cal) (N : Nat) (K : SV → ER) : eBody Tryz.prog C N Tryz.f20 (Tryz.f20.body.getD .skip) areg_Begin_ea [] K = areg_Begin_e C N  K := by kernel_rfl
noncomputable def l20 : LeafT := fun C N args K => match args with
  | [] => areg_Begin_e C N  K
  | _ => eF
theorem lok20 : LeafOk Tryz.prog 20 l20 := .inl ⟨Tryz.f20, Tryz.f20.body.getD .skip, areg_Begin_ea, Tryz.func20, by kernel_rfl, Tryz.call20, fun C N args K H e => by
  unfold l20 at e
  split at e
  · rw [areg_Begin_ee]; exact e
  · exact eF_no e⟩

end Go.Proofs.YtjafpcagfgklgaaGreatDoor

set_option linter.unusedVariables false
set_option maxRecDepth 100000
namespace Go.Proofs.YtjafpcagfgklgaaGreatDoor
open Go.Hl
/- (*halberd/verify.check).through -/
def verify_check_through_ea : Ann := .two (.none) (.two (.none) (.two (.two (.none) (.sub (.loop [] (.two (.two (.none) (.two (.none) (.none))) (.sub (.two (.two (.none) (.two (.two (.none) (.none)) (.none))) (.two (.none) (.two (.ord [0, 1, 2, 4, 5, 6, 7, 3, 8, 9, 10, 11, 12]) (.two (.ord [0, 5, 1, 2, 3, 4, 6, 7, 8]) (.two (.two (.none) (.none)) (.none))))))))))) (.two (.none) (.none))))
noncomputable def verify_check_through_p0 (C : Cal) (K : SV → ER) (a0 : SV) (k5 : Unit → ER) (x2 : SV) (x25 : SV) (x26 : SV) : ER :=
  eLoad Tryz.prog 3 x25 fun x27 => eIndexAddrS Tryz.prog 26 x26 x27 fun x28 => eLoad Tryz.prog 38 x28 fun x29 => eAlloc Tryz.prog 38 fun x30 => eStore Tryz.prog 38 x30 x29 <| eFieldAddr Tryz.prog 38 x30 0 fun x31 => eLoad Tryz.prog 5 x31 fun x32 => eBin Tryz.prog .and 5 false x32 (.int .u8 7) fun x33 => eIndexAddrS Tryz.prog 104 x2 x33 fun x34 => eLoad Tryz.prog 103 x34 fun x35 => eLoad Tryz.prog 38 x30 fun x36 => eCallVR Tryz.prog C x35 [a0, x36] 4 fun x37 => eUnS .not x37 fun x38 => eIfV x38
  (K (.int .i64 13))
  (k5 (()))
noncomputable def verify_check_through_p1 (C : Cal) (K : SV → ER) (a0 : SV) (k5 : Unit → ER) (x2 : SV) : ER :=
  eNilCk a0 fun x15 => eFieldAddr Tryz.prog 77 x15 6 fun x16 => eLoad Tryz.prog 3 x16 fun x17 => eBin Tryz.prog .add 3 false x17 (.int .i64 1) fun x18 => eNilCk a0 fun x19 => eFieldAddr Tryz.prog 77 x19 6 fun x20 => eStore Tryz.prog 3 x20 x18 <| eNilCk a0 fun x21 => eFieldAddr Tryz.prog 77 x21 0 fun x22 => eNilCk a0 fun x23 => eFieldAddr Tryz.prog 77 x23 4 fun x24 => eFieldAddr Tryz.prog 74 x24 1 fun x25 => eLoad Tryz.prog 26 x22 fun x26 => verify_check_through_p0 C K a0 k5 x2 x25 x26
noncomputable def verify_check_through_p2 (C : Cal) (K : SV → ER) (a0 : SV) (k5 : Unit → ER) (x2 : SV) : ER :=
  eNilCk a0 fun x11 => eFieldAddr Tryz.prog 77 x11 6 fun x12 => eLoad Tryz.prog 3 x12 fun x13 => eBin Tryz.prog .eql 3 false x13 (.int .i64 4096) fun x14 => eIfV x14
  (K (.int .i64 22))
  (verify_check_through_p1 C K a0 k5 x2)
noncomputable def verify_check_through_e (C : Cal) (N : Nat) (a0 : SV) (K : SV → ER) : ER :=
  eCallR Tryz.prog C 43 [] 104 fun x1 => eAlloc Tryz.prog 104 fun x2 => eStore Tryz.prog 104 x2 x1 <| eNilCk a0 fun x3 => eFieldAddr Tryz.prog 77 x3 5 fun x4 => eStore Tryz.prog 4 x4 (.bool false) <| eIter (σ := Unit) (fun (s6 : Unit) (k5 : Unit → ER) =>
  eNilCk a0 fun x7 => eFieldAddr Tryz.prog 77 x7 5 fun x8 => eLoad Tryz.prog 4 x8 fun x9 => eUnS .not x9 fun x10 => eIfV x10
  (verify_check_through_p2 C K a0 k5 x2)
  (K (.int .i64 0))) N (())
theorem verify_check_through_ee (C : Cal) (N : Nat) (a0 : SV) (K : SV → ER) : eBody Tryz.prog C N Tryz.f21 (Tryz.f21.body.getD .skip) verify_check_through_ea [a0] K = verify_check_through_e C N a0 K := by kernel_rfl
noncomputable def l21 : LeafT := fun C N args K => match args with
  | [a0] => verify_check_through_e C N a0 K
  | _ => eF
theorem lok21 : LeafOk Tryz.prog 21 l21 := .inl ⟨Tryz.f21, Tryz.f21.body.getD .skip, verify_check_through_ea, Tryz.func21, by kernel_rfl, Tryz.call21, fun C N args K H e => by
  unfold l21 at e
  split at e
  · rw [verify_check_through_ee]; exact e
  · exact eF_no e⟩

/- strings.genSplit -/
def strings_genSplit_ea : Ann := .two (.none) (.two (.two (.none) (.two (.two (.none) (.none)) (.none))) (.two (.two (.none) (.two (.two (.none) (.none)) (.none))) (.join (.two (.none) (.two (.none) (.none))) (.two (.none) (.two (.none) (.two (.none) (.two (.none) (.join (.sub (.loop [(0, .any), (10, .any)] (.two (.two (.none) (.two (.none) (.none))) (.sub (.two (.none) (.two (.two (.none) (.two (.none) (.none))) (.two (.none) (.two (.none) (.none))))))))) (.two (.none) (.two (.none) (.none))) [(0, .any), (10, .any)]))))) [(3, .any)])))
noncomputable def strings_genSplit_p0 (a1 : SV) (a2 : SV) (k16 : SV × SV × Unit → ER) (s17 : SV × SV × Unit) (x12 : SV) (x19 : SV) : ER :=
  eBin Tryz.prog .add 3 false x19 a2 fun x21 => eSliceS Tryz.prog 9 s17.1 none (some (.v x21)) none fun x22 => eIndexAddrS Tryz.prog 42 x12 s17.2.1 fun x23 => eStore Tryz.prog 9 x23 x22 <| eLenS Tryz.prog [9] [a1] fun x24 => eBin Tryz.prog .add 3 false x19 x24 fun x25 => eSliceS Tryz.prog 9 s17.1 (some (.v x25)) none none fun x26 => eBin Tryz.prog .add 3 false s17.2.1 (.int .i64 1) fun x27 => eHas .any x26 (eHas .any x27 (k16 (x26, x27, ())))
noncomputable def strings_genSplit_p1 (C : Cal) (a1 : SV) (a2 : SV) (k14 : SV × SV × Unit → ER) (k16 : SV × SV × Unit → ER) (s17 : SV × SV × Unit) (x12 : SV) : ER :=
  eCallR Tryz.prog C 46 [s17.1, a1] 3 fun x19 => eBin Tryz.prog .lss 3 false x19 (.int .i64 0) fun x20 => eIfV x20
  (eHas .any s17.1 (eHas .any s17.2.1 (k14 (s17.1, s17.2.1, ()))))
  (strings_genSplit_p0 a1 a2 k16 s17 x12 x19)
noncomputable def strings_genSplit_p2 (C : Cal) (N : Nat) (a0 : SV) (a1 : SV) (a2 : SV) (k14 : SV × SV × Unit → ER) (x12 : SV) (x13 : SV) : ER :=
  eHas .any a0 (eHas .any (.int .i64 0) (eIter (σ := SV × SV × Unit) (fun (s17 : SV × SV × Unit) (k16 : SV × SV × Unit → ER) =>
  eBin Tryz.prog .lss 3 false s17.2.1 x13 fun x18 => eIfV x18
  (strings_genSplit_p1 C a1 a2 k14 k16 s17 x12)
  (eHas .any s17.1 (eHas .any s17.2.1 (k14 (s17.1, s17.2.1, ()))))) N (a0, (.int .i64 0), ())))
noncomputable def strings_genSplit_p3 (K : SV → ER) (s15 : SV × SV × Unit) (x12 : SV) : ER :=
  eIndexAddrS Tryz.prog 42 x12 s15.2.1 fun x28 => eStore Tryz.prog 9 x28 s15.1 <| eBin Tryz.prog .add 3 false s15.2.1 (.int .i64 1) fun x29 => eSliceS Tryz.prog 42 x12 none (some (.v x29)) none fun x30 => K x30
noncomputable def strings_genSplit_p4 (C : Cal) (a0 : SV) (a1 : SV) (a3 : SV) (k4 : SV × Unit → ER) : ER :=
  eBin Tryz.prog .lss 3 false a3 (.int .i64 0) fun x6 => eIfV x6
  (eCallR Tryz.prog C 45 [a0, a1] 3 fun x7 => eBin Tryz.prog .add 3 false x7 (.int .i64 1) fun x8 => eHas .any x8 (k4 (x8, ())))
  (eHas .any a3 (k4 (a3, ())))
noncomputable def strings_genSplit_p5 (C : Cal) (K : SV → ER) (N : Nat) (a0 : SV) (a1 : SV) (a2 : SV) (s5 : SV × Unit) : ER :=
  eLenS Tryz.prog [9] [a0] fun x9 => eBin Tryz.prog .add 3 false x9 (.int .i64 1) fun x10 => eMinMaxS false [s5.1, x10] fun x11 => eMakeSliceS Tryz.prog 42 x11 x11 fun x12 => eBin Tryz.prog .sub 3 false x11 (.int .i64 1) fun x13 => eJoinC (σ := SV × SV × Unit) (fun (k14 : SV × SV × Unit → ER) =>
  strings_genSplit_p2 C N a0 a1 a2 k14 x12 x13) fun (s15 : SV × SV × Unit) =>
  strings_genSplit_p3 K s15 x12
noncomputable def strings_genSplit_p6 (C : Cal) (K : SV → ER) (N : Nat) (a0 : SV) (a1 : SV) (a2 : SV) (a3 : SV) : ER :=
  eBin Tryz.prog .eql 9 false a1 (.str []) fun x2 => eIfV x2
  (eCallR Tryz.prog C 44 [a0, a3] 42 fun x3 => K x3)
  (eJoinC (σ := SV × Unit) (fun (k4 : SV × Unit → ER) =>
  strings_genSplit_p4 C a0 a1 a3 k4) fun (s5 : SV × Unit) =>
  strings_genSplit_p5 C K N a0 a1 a2 s5)
noncomputable def strings_genSplit_e (C : Cal) (N : Nat) (a0 a1 a2 a3 : SV) (K : SV → ER) : ER :=
  eBin Tryz.prog .eql 3 false a3 (.int .i64 0) fun x1 => eIfV x1
  (K (.sl ⟨none, 0, .lit 0⟩))
  (strings_genSplit_p6 C K N a0 a1 a2 a3)
theorem strings_genSplit_ee (C : Cal) (N : Nat) (a0 a1 a2 a3 : SV) (K : SV → ER) : eBody Tryz.prog C N Tryz.f22 (Tryz.f22.body.getD .skip) strings_genSplit_ea [a0, a1, a2, a3] K = strings_genSplit_e C N a0 a1 a2 a3 K := by kernel_rfl
noncomputable def l22 : LeafT := fun C N args K => match args with
  | [a0, a1, a2, a3] => strings_genSplit_e C N a0 a1 a2 a3 K
  | _ => eF
theorem lok22 : LeafOk Tryz.prog 22 l22 := .inl ⟨Tryz.f22, Tryz.f22.body.getD .skip, strings_genSplit_ea, Tryz.func22, by kernel_rfl, Tryz.call22, fun C N args K H e => by
  unfold l22 at e
  split at e
  · rw [strings_genSplit_ee]; exact e
  · exact eF_no e⟩

/- internal/stringslite.TrimSuffix -/
def internal_stringslite_TrimSuffix_ea : Ann := .two (.none) (.two (.two (.none) (.two (.two (.none) (.none)) (.none))) (.two (.none) (.none)))
noncomputable def internal_stringslite_TrimSuffix_e (C : Cal) (N : Nat) (a0 a1 : SV) (K : SV → ER) : ER :=
  eCallR Tryz.prog C 47 [a0, a1] 4 fun x1 => eIfV x1
  (eLenS Tryz.prog [9] [a0] fun x2 => eLenS Tryz.prog [9] [a1] fun x3 => eBin Tryz.prog .sub 3 false x2 x3 fun x4 => eSliceS Tryz.prog 9 a0 none (some (.v x4)) none fun x5 => K x5)
  (K a0)
theorem internal_stringslite_TrimSuffix_ee (C : Cal) (N : Nat) (a0 a1 : SV) (K : SV → ER) : eBody Tryz.prog C N Tryz.f23 (Tryz.f23.body.getD .skip) internal_stringslite_TrimSuffix_ea [a0, a1] K = internal_stringslite_TrimSuffix_e C N a0 a1 K := by kernel_rfl
noncomputable def l23 : LeafT := fun C N args K => match args with
  | [a0, a1] => internal_stringslite_TrimSuffix_e C N a0 a1 K
  | _ => eF
theorem lok23 : LeafOk Tryz.prog 23 l23 := .inl ⟨Tryz.f23, Tryz.f23.body.getD .skip, internal_stringslite_TrimSuffix_ea, Tryz.func23, by kernel_rfl, Tryz.call23, fun C N args K H e => by
  unfold l23 at e
  split at e
  · rw [internal_stringslite_TrimSuffix_ee]; exact e
  · exact eF_no e⟩

/- strings.Cut -/
def strings_Cut_ea : Ann := .two (.none) (.two (.none) (.none))
noncomputable def strings_Cut_e (C : Cal) (N : Nat) (a0 a1 : SV) (K : SV → ER) : ER :=
  eCallR Tryz.prog C 48 [a0, a1] 80 fun x1 => eExtract x1 0 fun x2 => eExtract x1 1 fun x3 => eExtract x1 2 fun x4 => K (.tup [x2, x3, x4])
theorem strings_Cut_ee (C : Cal) (N : Nat) (a0 a1 : SV) (K : SV → ER) : eBody Tryz.prog C N Tryz.f24 (Tryz.f24.body.getD .skip) strings_Cut_ea [a0, a1] K = strings_Cut_e C N a0 a1 K := by kernel_rfl
noncomputable def l24 : LeafT := fun C N args K => match args with
  | [a0, a1] => strings_Cut_e C N a0 a1 K
  | _ => eF
theorem lok24 : LeafOk Tryz.prog 24 l24 := .inl ⟨Tryz.f24, Tryz.f24.body.getD .skip, strings_Cut_ea, Tryz.func24, by kernel_rfl, Tryz.call24, fun C N args K H e => by
  unfold l24 at e
  split at e
  · rw [strings_Cut_ee]; exact e
  · exact eF_no e⟩

/- halberd/asm.offOf -/
def asm_offOf_ea : Ann := .two (.none) (.two (.none) (.two (.none) (.two (.none) (.none))))
noncomputable def asm_offOf_e (C : Cal) (N : Nat) (a0 : SV) (K : SV → ER) : ER :=
  eCallR Tryz.prog C 49 [a0, (.str [43])] 109 fun x1 => eExtract x1 0 fun x2 => eExtract x1 1 fun x3 => eCallR Tryz.prog C 13 [x3] 0 fun x4 => eCallR Tryz.prog C 26 [x2, (.int .i64 0), (.int .i64 32767)] 2 fun x5 => eConvS Tryz.prog 2 35 x5 fun x6 => K x6
theorem asm_offOf_ee (C : Cal) (N : Nat) (a0 : SV) (K : SV → ER) : eBody Tryz.prog C N Tryz.f25 (Tryz.f25.body.getD .skip) asm_offOf_ea [a0] K = asm_offOf_e C N a0 K := by kernel_rfl
noncomputable def l25 : LeafT := fun C N args K => match args with
  | [a0] => asm_offOf_e C N a0 K
  | _ => eF
theorem lok25 : LeafOk Tryz.prog 25 l25 := .inl ⟨Tryz.f25, Tryz.f25.body.getD .skip, asm_offOf_ea, Tryz.func25, by kernel_rfl, Tryz.call25, fun C N args K H e => by
  unfold l25 at e
  split at e
  · rw [asm_offOf_ee]; exact e
  · exact eF_no e⟩

/- halberd/asm.intOf -/
def asm_intOf_ea : Ann := .two (.none) (.two (.none) (.join (.none) (.two (.none) (.none)) []))
noncomputable def asm_intOf_p0 (C : Cal) (a1 : SV) (a2 : SV) (k4 : Unit → ER) (x2 : SV) : ER :=
  eBin Tryz.prog .geq 2 false x2 a1 fun x9 => eIfV x9
  (eBin Tryz.prog .leq 2 false x2 a2 fun x10 => eCallR Tryz.prog C 13 [x10] 0 fun x11 => k4 (()))
  (eCallR Tryz.prog C 13 [(.bool false)] 0 fun x12 => k4 (()))
noncomputable def asm_intOf_p1 (C : Cal) (a0 : SV) (a1 : SV) (a2 : SV) (k4 : Unit → ER) (x2 : SV) (x3 : SV) : ER :=
  eBin Tryz.prog .eql 112 true x3 .nifc fun x6 => eIfV x6
  (eCallR Tryz.prog C 51 [x2] 9 fun x7 => eBin Tryz.prog .eql 9 false x7 a0 fun x8 => eIfV x8
  (asm_intOf_p0 C a1 a2 k4 x2)
  (eCallR Tryz.prog C 13 [(.bool false)] 0 fun x13 => k4 (())))
  (eCallR Tryz.prog C 13 [(.bool false)] 0 fun x14 => k4 (()))
noncomputable def asm_intOf_e (C : Cal) (N : Nat) (a0 a1 a2 : SV) (K : SV → ER) : ER :=
  eCallR Tryz.prog C 50 [a0, (.int .i64 10), (.int .i64 64)] 113 fun x1 => eExtract x1 0 fun x2 => eExtract x1 1 fun x3 => eJoinC (σ := Unit) (fun (k4 : Unit → ER) =>
  asm_intOf_p1 C a0 a1 a2 k4 x2 x3) fun (s5 : Unit) =>
  K x2
theorem asm_intOf_ee (C : Cal) (N : Nat) (a0 a1 a2 : SV) (K : SV → ER) : eBody Tryz.prog C N Tryz.f26 (Tryz.f26.body.getD .skip) asm_intOf_ea [a0, a1, a2] K = asm_intOf_e C N a0 a1 a2 K := by kernel_rfl
noncomputable def l26 : LeafT := fun C N args K => match args with
  | [a0, a1, a2] => asm_intOf_e C N a0 a1 a2 K
  | _ => eF
theorem lok26 : LeafOk Tryz.prog 26 l26 := .inl ⟨Tryz.f26, Tryz.f26.body.getD .skip, asm_intOf_ea, Tryz.func26, by kernel_rfl, Tryz.call26, fun C N args K H e => by
  unfold l26 at e
  split at e
  · rw [asm_intOf_ee]; exact e
  · exact eF_no e⟩

/- halberd/asm.wide -/
def asm_wide_ea : Ann := .two (.none) (.two (.none) (.two (.none) (.two (.none) (.two (.none) (.two (.none) (.none))))))
noncomputable def asm_wide_p0 (C : Cal) (K : SV → ER) (a0 : SV) (x6 : SV) (x7 : SV) : ER :=
  eLoad Tryz.prog 9 x7 fun x8 => eCallR Tryz.prog C 53 [x8] 5 fun x9 => eConvS Tryz.prog 2 23 x6 fun x10 => eCallR Tryz.prog C 52 [(.int .u8 24), x9, a0, x10] 115 fun x11 => eAlloc Tryz.prog 115 fun x12 => eStore Tryz.prog 115 x12 x11 <| eIndexAddrS Tryz.prog 115 x12 (.int .i64 0) fun x13 => eFieldAddr Tryz.prog 38 x13 1 fun x14 => eLoad Tryz.prog 5 x14 fun x15 => eBin Tryz.prog .lss 5 false x15 (.int .u8 10) fun x16 => eCallR Tryz.prog C 13 [x16] 0 fun x17 => eSliceS Tryz.prog 115 x12 none none none fun x18 => K x18
noncomputable def asm_wide_e (C : Cal) (N : Nat) (a0 a1 a2 : SV) (K : SV → ER) : ER :=
  eLenS Tryz.prog [42] [a2] fun x1 => eBin Tryz.prog .eql 3 false x1 (.int .i64 2) fun x2 => eCallR Tryz.prog C 13 [x2] 0 fun x3 => eIndexAddrS Tryz.prog 42 a2 (.int .i64 1) fun x4 => eLoad Tryz.prog 9 x4 fun x5 => eCallR Tryz.prog C 26 [x5, a1, (.int .i64 9223372036854775807)] 2 fun x6 => eIndexAddrS Tryz.prog 42 a2 (.int .i64 0) fun x7 => asm_wide_p0 C K a0 x6 x7
theorem asm_wide_ee (C : Cal) (N : Nat) (a0 a1 a2 : SV) (K : SV → ER) : eBody Tryz.prog C N Tryz.f27 (Tryz.f27.body.getD .skip) asm_wide_ea [a0, a1, a2] K = asm_wide_e C N a0 a1 a2 K := by kernel_rfl
noncomputable def l27 : LeafT := fun C N args K => match args with
  | [a0, a1, a2] => asm_wide_e C N a0 a1 a2 K
  | _ => eF
theorem lok27 : LeafOk Tryz.prog 27 l27 := .inl ⟨Tryz.f27, Tryz.f27.body.getD .skip, asm_wide_ea, Tryz.func27, by kernel_rfl, Tryz.call27, fun C N args K H e => by
  unfold l27 at e
  split at e
  · rw [asm_wide_ee]; exact e
  · exact eF_no e⟩

/- halberd/asm.operations -/
def asm_operations_ea : Ann := .two (.none) (.two (.none) (.none))
noncomputable def asm_operations_p0 (K : SV → ER) (b1 : Nat) : ER :=
  ePutS Tryz.prog 87 (.map (some b1)) (.int .u8 112) (.str [114, 115, 104]) fun x9 => ePutS Tryz.prog 87 (.map (some b1)) (.int .u8 128) (.str [110, 101, 103]) fun x10 => ePutS Tryz.prog 87 (.map (some b1)) (.int .u8 144) (.str [109, 111, 100]) fun x11 => ePutS Tryz.prog 87 (.map (some b1)) (.int .u8 160) (.str [120, 111, 114]) fun x12 => ePutS Tryz.prog 87 (.map (some b1)) (.int .u8 176) (.str [109, 111, 118]) fun x13 => ePutS Tryz.prog 87 (.map (some b1)) (.int .u8 192) (.str [97, 114, 115, 104]) fun x14 => K (.map (some b1))
noncomputable def asm_operations_p1 (K : SV → ER) (b1 : Nat) : ER :=
  ePutS Tryz.prog 87 (.map (some b1)) (.int .u8 16) (.str [115, 117, 98]) fun x3 => ePutS Tryz.prog 87 (.map (some b1)) (.int .u8 32) (.str [109, 117, 108]) fun x4 => ePutS Tryz.prog 87 (.map (some b1)) (.int .u8 48) (.str [100, 105, 118]) fun x5 => ePutS Tryz.prog 87 (.map (some b1)) (.int .u8 64) (.str [111, 114]) fun x6 => ePutS Tryz.prog 87 (.map (some b1)) (.int .u8 80) (.str [97, 110, 100]) fun x7 => ePutS Tryz.prog 87 (.map (some b1)) (.int .u8 96) (.str [108, 115, 104]) fun x8 => asm_operations_p0 K b1
noncomputable def asm_operations_e (C : Cal) (N : Nat) (K : SV → ER) : ER :=
  eNewB (.map []) fun b1 => ePutS Tryz.prog 87 (.map (some b1)) (.int .u8 0) (.str [97, 100, 100]) fun x2 => asm_operations_p1 K b1
theorem asm_operations_ee (C : Cal) (N : Nat) (K : SV → ER) : eBody Tryz.prog C N Tryz.f29 (Tryz.f29.body.getD .skip) asm_operations_ea [] K = asm_operations_e C N  K := by kernel_rfl
noncomputable def l29 : LeafT := fun C N args K => match args with
  | [] => asm_operations_e C N  K
  | _ => eF
theorem lok29 : LeafOk Tryz.prog 29 l29 := .inl ⟨Tryz.f29, Tryz.f29.body.getD .skip, asm_operations_ea, Tryz.func29, by kernel_rfl, Tryz.call29, fun C N args K H e => by
  unfold l29 at e
  split at e
  · rw [asm_operations_ee]; exact e
  · exact eF_no e⟩

end Go.Proofs.YtjafpcagfgklgaaGreatDoor

set_option linter.unusedVariables false
set_option maxRecDepth 100000
namespace Go.Proofs.YtjafpcagfgklgaaGreatDoor
open Go.Hl
/- halberd/asm.numberOf -/
def asm_numberOf_ea : Ann := .two (.none) (.two (.none) (.join (.two (.none) (.two (.none) (.none))) (.join (.two (.none) (.two (.none) (.two (.none) (.none)))) (.two (.none) (.two (.none) (.two (.none) (.none)))) []) []))
noncomputable def asm_numberOf_p0 (C : Cal) (a2 : SV) (k9 : Unit → ER) (x4 : SV) : ER :=
  eLenS Tryz.prog [42] [a2] fun x15 => eBin Tryz.prog .eql 3 false x15 (.int .i64 2) fun x16 => eCallR Tryz.prog C 13 [x16] 0 fun x17 => eIndexAddrS Tryz.prog 42 a2 (.int .i64 1) fun x18 => eLoad Tryz.prog 9 x18 fun x19 => eCallR Tryz.prog C 54 [x4, x19] 0 fun x20 => k9 (())
noncomputable def asm_numberOf_p1 (C : Cal) (a0 : SV) (a2 : SV) (k9 : Unit → ER) (x4 : SV) : ER :=
  eBin Tryz.prog .eql 5 false a0 (.int .u8 128) fun x11 => eIfV x11
  (eLenS Tryz.prog [42] [a2] fun x12 => eBin Tryz.prog .eql 3 false x12 (.int .i64 1) fun x13 => eCallR Tryz.prog C 13 [x13] 0 fun x14 => k9 (()))
  (asm_numberOf_p0 C a2 k9 x4)
noncomputable def asm_numberOf_p2 (C : Cal) (K : SV → ER) (a2 : SV) (x1 : SV) (x4 : SV) : ER :=
  eIndexAddrS Tryz.prog 42 a2 (.int .i64 0) fun x21 => eLoad Tryz.prog 9 x21 fun x22 => eCallR Tryz.prog C 53 [x22] 5 fun x23 => eFieldAddr Tryz.prog 38 x4 1 fun x24 => eStore Tryz.prog 5 x24 x23 <| eFieldAddr Tryz.prog 38 x4 1 fun x25 => eLoad Tryz.prog 5 x25 fun x26 => eBin Tryz.prog .lss 5 false x26 (.int .u8 10) fun x27 => eCallR Tryz.prog C 13 [x27] 0 fun x28 => eLoad Tryz.prog 38 x4 fun x29 => eStore Tryz.prog 38 x1 x29 <| eLoad Tryz.prog 38 x1 fun x30 => K x30
noncomputable def asm_numberOf_e (C : Cal) (N : Nat) (a0 a1 a2 : SV) (K : SV → ER) : ER :=
  eAlloc Tryz.prog 38 fun x1 => eBin Tryz.prog .or 5 false (.int .u8 7) a0 fun x2 => eBuild Tryz.prog 38 [(0, x2)] fun x3 => eAlloc Tryz.prog 38 fun x4 => eStore Tryz.prog 38 x4 x3 <| eJoinC (σ := Unit) (fun (k5 : Unit → ER) =>
  eIfV a1
  (eBin Tryz.prog .or 5 false (.int .u8 4) a0 fun x7 => eFieldAddr Tryz.prog 38 x4 0 fun x8 => eStore Tryz.prog 5 x8 x7 <| k5 (()))
  (k5 (()))) fun (s6 : Unit) =>
  eJoinC (σ := Unit) (fun (k9 : Unit → ER) =>
  asm_numberOf_p1 C a0 a2 k9 x4) fun (s10 : Unit) =>
  asm_numberOf_p2 C K a2 x1 x4
theorem asm_numberOf_ee (C : Cal) (N : Nat) (a0 a1 a2 : SV) (K : SV → ER) : eBody Tryz.prog C N Tryz.f30 (Tryz.f30.body.getD .skip) asm_numberOf_ea [a0, a1, a2] K = asm_numberOf_e C N a0 a1 a2 K := by kernel_rfl
noncomputable def l30 : LeafT := fun C N args K => match args with
  | [a0, a1, a2] => asm_numberOf_e C N a0 a1 a2 K
  | _ => eF
theorem lok30 : LeafOk Tryz.prog 30 l30 := .inl ⟨Tryz.f30, Tryz.f30.body.getD .skip, asm_numberOf_ea, Tryz.func30, by kernel_rfl, Tryz.call30, fun C N args K H e => by
  unfold l30 at e
  split at e
  · rw [asm_numberOf_ee]; exact e
  · exact eF_no e⟩

/- halberd/asm.jumps -/
def asm_jumps_ea : Ann := .two (.none) (.two (.none) (.none))
noncomputable def asm_jumps_p0 (K : SV → ER) (b1 : Nat) : ER :=
  ePutS Tryz.prog 87 (.map (some b1)) (.int .u8 96) (.str [106, 115, 103, 116]) fun x7 => ePutS Tryz.prog 87 (.map (some b1)) (.int .u8 112) (.str [106, 115, 103, 101]) fun x8 => ePutS Tryz.prog 87 (.map (some b1)) (.int .u8 160) (.str [106, 108, 116]) fun x9 => ePutS Tryz.prog 87 (.map (some b1)) (.int .u8 176) (.str [106, 108, 101]) fun x10 => ePutS Tryz.prog 87 (.map (some b1)) (.int .u8 192) (.str [106, 115, 108, 116]) fun x11 => ePutS Tryz.prog 87 (.map (some b1)) (.int .u8 208) (.str [106, 115, 108, 101]) fun x12 => K (.map (some b1))
noncomputable def asm_jumps_e (C : Cal) (N : Nat) (K : SV → ER) : ER :=
  eNewB (.map []) fun b1 => ePutS Tryz.prog 87 (.map (some b1)) (.int .u8 16) (.str [106, 101, 113]) fun x2 => ePutS Tryz.prog 87 (.map (some b1)) (.int .u8 32) (.str [106, 103, 116]) fun x3 => ePutS Tryz.prog 87 (.map (some b1)) (.int .u8 48) (.str [106, 103, 101]) fun x4 => ePutS Tryz.prog 87 (.map (some b1)) (.int .u8 64) (.str [106, 115, 101, 116]) fun x5 => ePutS Tryz.prog 87 (.map (some b1)) (.int .u8 80) (.str [106, 110, 101]) fun x6 => asm_jumps_p0 K b1
theorem asm_jumps_ee (C : Cal) (N : Nat) (K : SV → ER) : eBody Tryz.prog C N Tryz.f31 (Tryz.f31.body.getD .skip) asm_jumps_ea [] K = asm_jumps_e C N  K := by kernel_rfl
noncomputable def l31 : LeafT := fun C N args K => match args with
  | [] => asm_jumps_e C N  K
  | _ => eF
theorem lok31 : LeafOk Tryz.prog 31 l31 := .inl ⟨Tryz.f31, Tryz.f31.body.getD .skip, asm_jumps_ea, Tryz.func31, by kernel_rfl, Tryz.call31, fun C N args K H e => by
  unfold l31 at e
  split at e
  · rw [asm_jumps_ee]; exact e
  · exact eF_no e⟩

/- halberd/asm.jumpOf -/
def asm_jumpOf_ea : Ann := .two (.none) (.two (.none) (.two (.ord [0, 1, 2, 3, 6, 7, 4, 8, 5, 9, 10, 11, 12]) (.join (.two (.none) (.two (.none) (.none))) (.two (.none) (.two (.none) (.none))) [])))
noncomputable def asm_jumpOf_p0 (C : Cal) (K : SV → ER) (a2 : SV) (x1 : SV) (x13 : SV) : ER :=
  eIndexAddrS Tryz.prog 42 a2 (.int .i64 1) fun x18 => eLoad Tryz.prog 9 x18 fun x19 => eCallR Tryz.prog C 54 [x13, x19] 0 fun x20 => eLoad Tryz.prog 38 x13 fun x21 => eStore Tryz.prog 38 x1 x21 <| eLoad Tryz.prog 38 x1 fun x22 => K x22
noncomputable def asm_jumpOf_p1 (C : Cal) (K : SV → ER) (a0 : SV) (a1 : SV) (a2 : SV) (x1 : SV) (x5 : SV) (x7 : SV) (x8 : SV) : ER :=
  eLoad Tryz.prog 9 x7 fun x9 => eCallR Tryz.prog C 53 [x8] 5 fun x10 => fun H => eLoadF Tryz.prog 9 x7 x9 H && (eCallR Tryz.prog C 25 [x9] 35 fun x11 => eBuild Tryz.prog 38 [(0, x5), (1, x10), (3, x11)] fun x12 => eAlloc Tryz.prog 38 fun x13 => eStore Tryz.prog 38 x13 x12 <| eJoinC (σ := Unit) (fun (k14 : Unit → ER) =>
  eIfV a1
  (eBin Tryz.prog .or 5 false (.int .u8 6) a0 fun x16 => eFieldAddr Tryz.prog 38 x13 0 fun x17 => eStore Tryz.prog 5 x17 x16 <| k14 (()))
  (k14 (()))) fun (s15 : Unit) =>
  asm_jumpOf_p0 C K a2 x1 x13) H
noncomputable def asm_jumpOf_e (C : Cal) (N : Nat) (a0 a1 a2 : SV) (K : SV → ER) : ER :=
  eAlloc Tryz.prog 38 fun x1 => eLenS Tryz.prog [42] [a2] fun x2 => eBin Tryz.prog .eql 3 false x2 (.int .i64 3) fun x3 => eCallR Tryz.prog C 13 [x3] 0 fun x4 => eBin Tryz.prog .or 5 false (.int .u8 5) a0 fun x5 => eIndexAddrS Tryz.prog 42 a2 (.int .i64 0) fun x6 => eIndexAddrS Tryz.prog 42 a2 (.int .i64 2) fun x7 => eLoad Tryz.prog 9 x6 fun x8 => asm_jumpOf_p1 C K a0 a1 a2 x1 x5 x7 x8
theorem asm_jumpOf_ee (C : Cal) (N : Nat) (a0 a1 a2 : SV) (K : SV → ER) : eBody Tryz.prog C N Tryz.f32 (Tryz.f32.body.getD .skip) asm_jumpOf_ea [a0, a1, a2] K = asm_jumpOf_e C N a0 a1 a2 K := by kernel_rfl
noncomputable def l32 : LeafT := fun C N args K => match args with
  | [a0, a1, a2] => asm_jumpOf_e C N a0 a1 a2 K
  | _ => eF
theorem lok32 : LeafOk Tryz.prog 32 l32 := .inl ⟨Tryz.f32, Tryz.f32.body.getD .skip, asm_jumpOf_ea, Tryz.func32, by kernel_rfl, Tryz.call32, fun C N args K H e => by
  unfold l32 at e
  split at e
  · rw [asm_jumpOf_ee]; exact e
  · exact eF_no e⟩

/- halberd/asm.modes -/
def asm_modes_ea : Ann := .two (.none) (.two (.none) (.none))
noncomputable def asm_modes_e (C : Cal) (N : Nat) (K : SV → ER) : ER :=
  eNewB (.map []) fun b1 => ePutS Tryz.prog 91 (.map (some b1)) (.str [52]) (.int .u8 96) fun x2 => ePutS Tryz.prog 91 (.map (some b1)) (.str [50]) (.int .u8 104) fun x3 => ePutS Tryz.prog 91 (.map (some b1)) (.str [49]) (.int .u8 112) fun x4 => ePutS Tryz.prog 91 (.map (some b1)) (.str [56]) (.int .u8 120) fun x5 => K (.map (some b1))
theorem asm_modes_ee (C : Cal) (N : Nat) (K : SV → ER) : eBody Tryz.prog C N Tryz.f33 (Tryz.f33.body.getD .skip) asm_modes_ea [] K = asm_modes_e C N  K := by kernel_rfl
noncomputable def l33 : LeafT := fun C N args K => match args with
  | [] => asm_modes_e C N  K
  | _ => eF
theorem lok33 : LeafOk Tryz.prog 33 l33 := .inl ⟨Tryz.f33, Tryz.f33.body.getD .skip, asm_modes_ea, Tryz.func33, by kernel_rfl, Tryz.call33, fun C N args K H e => by
  unfold l33 at e
  split at e
  · rw [asm_modes_ee]; exact e
  · exact eF_no e⟩

/- halberd/asm.load -/
def asm_load_ea : Ann := .two (.none) (.two (.none) (.two (.none) (.two (.none) (.two (.none) (.two (.none) (.none))))))
noncomputable def asm_load_p0 (C : Cal) (K : SV → ER) (x1 : SV) (x10 : SV) (x12 : SV) : ER :=
  eCallR Tryz.prog C 55 [x12] 120 fun x13 => eExtract x13 0 fun x14 => eExtract x13 1 fun x15 => eFieldAddr Tryz.prog 38 x10 2 fun x16 => eStore Tryz.prog 5 x16 x14 <| eFieldAddr Tryz.prog 38 x10 3 fun x17 => eStore Tryz.prog 35 x17 x15 <| eFieldAddr Tryz.prog 38 x10 1 fun x18 => eLoad Tryz.prog 5 x18 fun x19 => eBin Tryz.prog .lss 5 false x19 (.int .u8 10) fun x20 => eCallR Tryz.prog C 13 [x20] 0 fun x21 => eLoad Tryz.prog 38 x10 fun x22 => eStore Tryz.prog 38 x1 x22 <| eLoad Tryz.prog 38 x1 fun x23 => K x23
noncomputable def asm_load_p1 (C : Cal) (K : SV → ER) (a0 : SV) (a1 : SV) (x1 : SV) : ER :=
  eLenS Tryz.prog [42] [a1] fun x2 => eBin Tryz.prog .eql 3 false x2 (.int .i64 2) fun x3 => eCallR Tryz.prog C 13 [x3] 0 fun x4 => eBin Tryz.prog .or 5 false a0 (.int .u8 1) fun x5 => eIndexAddrS Tryz.prog 42 a1 (.int .i64 0) fun x6 => eLoad Tryz.prog 9 x6 fun x7 => eCallR Tryz.prog C 53 [x7] 5 fun x8 => eBuild Tryz.prog 38 [(0, x5), (1, x8)] fun x9 => eAlloc Tryz.prog 38 fun x10 => eStore Tryz.prog 38 x10 x9 <| eIndexAddrS Tryz.prog 42 a1 (.int .i64 1) fun x11 => eLoad Tryz.prog 9 x11 fun x12 => asm_load_p0 C K x1 x10 x12
noncomputable def asm_load_e (C : Cal) (N : Nat) (a0 a1 : SV) (K : SV → ER) : ER :=
  eAlloc Tryz.prog 38 fun x1 => asm_load_p1 C K a0 a1 x1
theorem asm_load_ee (C : Cal) (N : Nat) (a0 a1 : SV) (K : SV → ER) : eBody Tryz.prog C N Tryz.f34 (Tryz.f34.body.getD .skip) asm_load_ea [a0, a1] K = asm_load_e C N a0 a1 K := by kernel_rfl
noncomputable def l34 : LeafT := fun C N args K => match args with
  | [a0, a1] => asm_load_e C N a0 a1 K
  | _ => eF
theorem lok34 : LeafOk Tryz.prog 34 l34 := .inl ⟨Tryz.f34, Tryz.f34.body.getD .skip, asm_load_ea, Tryz.func34, by kernel_rfl, Tryz.call34, fun C N args K H e => by
  unfold l34 at e
  split at e
  · rw [asm_load_ee]; exact e
  · exact eF_no e⟩

/- halberd/asm.store -/
def asm_store_ea : Ann := .two (.none) (.two (.none) (.two (.none) (.two (.none) (.two (.two (.none) (.two (.two (.none) (.two (.none) (.none))) (.none))) (.two (.none) (.two (.none) (.none)))))))
noncomputable def asm_store_p0 (C : Cal) (K : SV → ER) (a0 : SV) (a1 : SV) (x1 : SV) (x7 : SV) : ER :=
  eBin Tryz.prog .or 5 false a0 (.int .u8 3) fun x18 => eIndexAddrS Tryz.prog 42 a1 (.int .i64 1) fun x19 => eLoad Tryz.prog 9 x19 fun x20 => eCallR Tryz.prog C 53 [x20] 5 fun x21 => eFieldAddr Tryz.prog 38 x7 0 fun x22 => eStore Tryz.prog 5 x22 x18 <| eFieldAddr Tryz.prog 38 x7 2 fun x23 => eStore Tryz.prog 5 x23 x21 <| eLoad Tryz.prog 38 x7 fun x24 => eStore Tryz.prog 38 x1 x24 <| eLoad Tryz.prog 38 x1 fun x25 => K x25
noncomputable def asm_store_p1 (C : Cal) (K : SV → ER) (a1 : SV) (x1 : SV) (x7 : SV) : ER :=
  eIndexAddrS Tryz.prog 42 a1 (.int .i64 1) fun x26 => eLoad Tryz.prog 9 x26 fun x27 => eCallR Tryz.prog C 26 [x27, (.int .i64 (-2147483648)), (.int .i64 2147483647)] 2 fun x28 => eConvS Tryz.prog 2 21 x28 fun x29 => eFieldAddr Tryz.prog 38 x7 4 fun x30 => eStore Tryz.prog 21 x30 x29 <| eLoad Tryz.prog 38 x7 fun x31 => eStore Tryz.prog 38 x1 x31 <| eLoad Tryz.prog 38 x1 fun x32 => K x32
noncomputable def asm_store_p2 (C : Cal) (K : SV → ER) (a0 : SV) (a1 : SV) (x1 : SV) (x7 : SV) : ER :=
  eIndexAddrS Tryz.prog 42 a1 (.int .i64 0) fun x8 => eLoad Tryz.prog 9 x8 fun x9 => eCallR Tryz.prog C 55 [x9] 120 fun x10 => eExtract x10 0 fun x11 => eExtract x10 1 fun x12 => eFieldAddr Tryz.prog 38 x7 1 fun x13 => eStore Tryz.prog 5 x13 x11 <| eFieldAddr Tryz.prog 38 x7 3 fun x14 => eStore Tryz.prog 35 x14 x12 <| eIndexAddrS Tryz.prog 42 a1 (.int .i64 1) fun x15 => eLoad Tryz.prog 9 x15 fun x16 => eCallR Tryz.prog C 56 [x16] 4 fun x17 => eIfV x17
  (asm_store_p0 C K a0 a1 x1 x7)
  (asm_store_p1 C K a1 x1 x7)
noncomputable def asm_store_e (C : Cal) (N : Nat) (a0 a1 : SV) (K : SV → ER) : ER :=
  eAlloc Tryz.prog 38 fun x1 => eLenS Tryz.prog [42] [a1] fun x2 => eBin Tryz.prog .eql 3 false x2 (.int .i64 2) fun x3 => eCallR Tryz.prog C 13 [x3] 0 fun x4 => eBin Tryz.prog .or 5 false a0 (.int .u8 2) fun x5 => eBuild Tryz.prog 38 [(0, x5)] fun x6 => eAlloc Tryz.prog 38 fun x7 => eStore Tryz.prog 38 x7 x6 <| asm_store_p2 C K a0 a1 x1 x7
theorem asm_store_ee (C : Cal) (N : Nat) (a0 a1 : SV) (K : SV → ER) : eBody Tryz.prog C N Tryz.f35 (Tryz.f35.body.getD .skip) asm_store_ea [a0, a1] K = asm_store_e C N a0 a1 K := by kernel_rfl
noncomputable def l35 : LeafT := fun C N args K => match args with
  | [a0, a1] => asm_store_e C N a0 a1 K
  | _ => eF
theorem lok35 : LeafOk Tryz.prog 35 l35 := .inl ⟨Tryz.f35, Tryz.f35.body.getD .skip, asm_store_ea, Tryz.func35, by kernel_rfl, Tryz.call35, fun C N args K H e => by
  unfold l35 at e
  split at e
  · rw [asm_store_ee]; exact e
  · exact eF_no e⟩

/- halberd/hooks.table -/
def hooks_table_ea : Ann := .two (.none) (.two (.none) (.none))
noncomputable def hooks_table_p0 (K : SV → ER) (x1 : SV) (x3 : SV) (x5 : SV) (x7 : SV) (x9 : SV) (x11 : SV) (x13 : SV) (x15 : SV) (x17 : SV) (x19 : SV) (x21 : SV) (x23 : SV) (x25 : SV) (x27 : SV) (x29 : SV) (x30 : SV) : ER :=
  eBuild Tryz.prog 53 [(0, (.str [99, 104, 100, 105, 114])), (1, x30), (2, (.int .u64 40))] fun x31 => eBuildSlice Tryz.prog 50 3 [(0, (.int .u8 1)), (1, (.int .u8 2)), (2, (.int .u8 0))] fun x32 => eBuild Tryz.prog 53 [(0, (.str [103, 101, 116, 97, 116, 116, 114])), (1, x32), (2, (.int .u64 40))] fun x33 => eBuild Tryz.prog 94 [(1, x3), (2, x5), (3, x7), (4, x9), (5, x11), (6, x13), (7, x15), (8, x17), (9, x19), (10, x21), (11, x23), (12, x25), (13, x27), (14, x29), (15, x31), (16, x33)] fun x34 => eStore Tryz.prog 94 x1 x34 <| eLoad Tryz.prog 94 x1 fun x35 => K x35
noncomputable def hooks_table_p1 (K : SV → ER) (x1 : SV) (x3 : SV) (x5 : SV) (x7 : SV) (x9 : SV) (x11 : SV) (x13 : SV) (x15 : SV) (x17 : SV) (x19 : SV) (x21 : SV) (x23 : SV) (x25 : SV) : ER :=
  eBuildSlice Tryz.prog 50 3 [(0, (.int .u8 1)), (1, (.int .u8 1)), (2, (.int .u8 0))] fun x26 => eBuild Tryz.prog 53 [(0, (.str [112, 116, 114, 97, 99, 101])), (1, x26), (2, (.int .u64 1))] fun x27 => eBuildSlice Tryz.prog 50 3 [(0, (.int .u8 1)), (1, (.int .u8 0)), (2, (.int .u8 0))] fun x28 => eBuild Tryz.prog 53 [(0, (.str [115, 101, 116, 105, 100])), (1, x28), (2, (.int .u64 1))] fun x29 => eBuildSlice Tryz.prog 50 2 [(0, (.int .u8 1)), (1, (.int .u8 2))] fun x30 => hooks_table_p0 K x1 x3 x5 x7 x9 x11 x13 x15 x17 x19 x21 x23 x25 x27 x29 x30
noncomputable def hooks_table_p2 (K : SV → ER) (x1 : SV) (x3 : SV) (x5 : SV) (x7 : SV) (x9 : SV) (x11 : SV) (x13 : SV) (x15 : SV) (x17 : SV) (x19 : SV) (x20 : SV) : ER :=
  eBuild Tryz.prog 53 [(0, (.str [109, 112, 114, 111, 116, 101, 99, 116])), (1, x20), (2, (.int .u64 40))] fun x21 => eBuildSlice Tryz.prog 50 2 [(0, (.int .u8 1)), (1, (.int .u8 0))] fun x22 => eBuild Tryz.prog 53 [(0, (.str [102, 111, 114, 107])), (1, x22), (2, (.int .u64 12))] fun x23 => eBuildSlice Tryz.prog 50 3 [(0, (.int .u8 1)), (1, (.int .u8 1)), (2, (.int .u8 0))] fun x24 => eBuild Tryz.prog 53 [(0, (.str [107, 105, 108, 108])), (1, x24), (2, (.int .u64 1))] fun x25 => hooks_table_p1 K x1 x3 x5 x7 x9 x11 x13 x15 x17 x19 x21 x23 x25
noncomputable def hooks_table_p3 (K : SV → ER) (x1 : SV) (x3 : SV) (x5 : SV) (x7 : SV) (x9 : SV) (x11 : SV) (x13 : SV) (x15 : SV) : ER :=
  eBuildSlice Tryz.prog 50 3 [(0, (.int .u8 1)), (1, (.int .u8 2)), (2, (.int .u8 6))] fun x16 => eBuild Tryz.prog 53 [(0, (.str [101, 120, 101, 99])), (1, x16), (2, (.int .u64 40))] fun x17 => eBuildSlice Tryz.prog 50 3 [(0, (.int .u8 1)), (1, (.int .u8 6)), (2, (.int .u8 0))] fun x18 => eBuild Tryz.prog 53 [(0, (.str [109, 109, 97, 112])), (1, x18), (2, (.int .u64 40))] fun x19 => eBuildSlice Tryz.prog 50 4 [(0, (.int .u8 1)), (1, (.int .u8 6)), (2, (.int .u8 0)), (3, (.int .u8 0))] fun x20 => hooks_table_p2 K x1 x3 x5 x7 x9 x11 x13 x15 x17 x19 x20
noncomputable def hooks_table_p4 (K : SV → ER) (x1 : SV) (x3 : SV) (x5 : SV) (x7 : SV) (x9 : SV) (x11 : SV) : ER :=
  eBuildSlice Tryz.prog 50 5 [(0, (.int .u8 1)), (1, (.int .u8 2)), (2, (.int .u8 2)), (3, (.int .u8 2)), (4, (.int .u8 6))] fun x12 => eBuild Tryz.prog 53 [(0, (.str [114, 101, 110, 97, 109, 101])), (1, x12), (2, (.int .u64 40))] fun x13 => eBuildSlice Tryz.prog 50 5 [(0, (.int .u8 1)), (1, (.int .u8 2)), (2, (.int .u8 0)), (3, (.int .u8 0)), (4, (.int .u8 0))] fun x14 => eBuild Tryz.prog 53 [(0, (.str [115, 101, 116, 97, 116, 116, 114])), (1, x14), (2, (.int .u64 40))] fun x15 => hooks_table_p3 K x1 x3 x5 x7 x9 x11 x13 x15
noncomputable def hooks_table_p5 (K : SV → ER) (x1 : SV) (x3 : SV) (x5 : SV) (x6 : SV) : ER :=
  eBuild Tryz.prog 53 [(0, (.str [99, 114, 101, 97, 116, 101])), (1, x6), (2, (.int .u64 40))] fun x7 => eBuildSlice Tryz.prog 50 3 [(0, (.int .u8 1)), (1, (.int .u8 2)), (2, (.int .u8 2))] fun x8 => eBuild Tryz.prog 53 [(0, (.str [108, 105, 110, 107])), (1, x8), (2, (.int .u64 40))] fun x9 => eBuildSlice Tryz.prog 50 4 [(0, (.int .u8 1)), (1, (.int .u8 2)), (2, (.int .u8 2)), (3, (.int .u8 0))] fun x10 => eBuild Tryz.prog 53 [(0, (.str [117, 110, 108, 105, 110, 107])), (1, x10), (2, (.int .u64 40))] fun x11 => hooks_table_p4 K x1 x3 x5 x7 x9 x11
noncomputable def hooks_table_p6 (K : SV → ER) (x1 : SV) : ER :=
  eBuildSlice Tryz.prog 50 3 [(0, (.int .u8 1)), (1, (.int .u8 2)), (2, (.int .u8 0))] fun x2 => eBuild Tryz.prog 53 [(0, (.str [111, 112, 101, 110])), (1, x2), (2, (.int .u64 40))] fun x3 => eBuildSlice Tryz.prog 50 3 [(0, (.int .u8 1)), (1, (.int .u8 2)), (2, (.int .u8 0))] fun x4 => eBuild Tryz.prog 53 [(0, (.str [97, 99, 99, 101, 115, 115])), (1, x4), (2, (.int .u64 40))] fun x5 => eBuildSlice Tryz.prog 50 4 [(0, (.int .u8 1)), (1, (.int .u8 2)), (2, (.int .u8 0)), (3, (.int .u8 0))] fun x6 => hooks_table_p5 K x1 x3 x5 x6
noncomputable def hooks_table_e (C : Cal) (N : Nat) (K : SV → ER) : ER :=
  eAlloc Tryz.prog 94 fun x1 => hooks_table_p6 K x1
theorem hooks_table_ee (C : Cal) (N : Nat) (K : SV → ER) : eBody Tryz.prog C N Tryz.f36 (Tryz.f36.body.getD .skip) hooks_table_ea [] K = hooks_table_e C N  K := by kernel_rfl
noncomputable def l36 : LeafT := fun C N args K => match args with
  | [] => hooks_table_e C N  K
  | _ => eF
theorem lok36 : LeafOk Tryz.prog 36 l36 := .inl ⟨Tryz.f36, Tryz.f36.body.getD .skip, hooks_table_ea, Tryz.func36, by kernel_rfl, Tryz.call36, fun C N args K H e => by
  unfold l36 at e
  split at e
  · rw [hooks_table_ee]; exact e
  · exact eF_no e⟩

/- slices.ContainsFunc[[]halberd/api.MapDef,halberd/api.MapDef] -/
def slices_ContainsFunc_api_MapDef_api_MapDef_ea : Ann := .two (.none) (.two (.none) (.none))
noncomputable def slices_ContainsFunc_api_MapDef_api_MapDef_e (C : Cal) (N : Nat) (a0 a1 : SV) (K : SV → ER) : ER :=
  eCallR Tryz.prog C 57 [a0, a1] 3 fun x1 => eBin Tryz.prog .geq 3 false x1 (.int .i64 0) fun x2 => K x2
theorem slices_ContainsFunc_api_MapDef_api_MapDef_ee (C : Cal) (N : Nat) (a0 a1 : SV) (K : SV → ER) : eBody Tryz.prog C N Tryz.f37 (Tryz.f37.body.getD .skip) slices_ContainsFunc_api_MapDef_api_MapDef_ea [a0, a1] K = slices_ContainsFunc_api_MapDef_api_MapDef_e C N a0 a1 K := by kernel_rfl
noncomputable def l37 : LeafT := fun C N args K => match args with
  | [a0, a1] => slices_ContainsFunc_api_MapDef_api_MapDef_e C N a0 a1 K
  | _ => eF
theorem lok37 : LeafOk Tryz.prog 37 l37 := .inl ⟨Tryz.f37, Tryz.f37.body.getD .skip, slices_ContainsFunc_api_MapDef_api_MapDef_ea, Tryz.func37, by kernel_rfl, Tryz.call37, fun C N args K H e => by
  unfold l37 at e
  split at e
  · rw [slices_ContainsFunc_api_MapDef_api_MapDef_ee]; exact e
  · exact eF_no e⟩

end Go.Proofs.YtjafpcagfgklgaaGreatDoor

set_option linter.unusedVariables false
set_option maxRecDepth 100000
namespace Go.Proofs.YtjafpcagfgklgaaGreatDoor
open Go.Hl
/- halberd/owned.May$1 -/
def owned_May_1_ea : Ann := .two (.none) (.two (.none) (.none))
noncomputable def owned_May_1_e (C : Cal) (N : Nat) (a0 : SV) (K : SV → ER) : ER :=
  eBox Tryz.prog 98 a0 fun x1 => eLoad Tryz.prog 98 x1 fun x2 => eCallR Tryz.prog C 39 [x2] 4 fun x3 => eUnS .not x3 fun x4 => K x4
theorem owned_May_1_ee (C : Cal) (N : Nat) (a0 : SV) (K : SV → ER) : eBody Tryz.prog C N Tryz.f38 (Tryz.f38.body.getD .skip) owned_May_1_ea [a0] K = owned_May_1_e C N a0 K := by kernel_rfl
noncomputable def l38 : LeafT := fun C N args K => match args with
  | [a0] => owned_May_1_e C N a0 K
  | _ => eF
theorem lok38 : LeafOk Tryz.prog 38 l38 := .inl ⟨Tryz.f38, Tryz.f38.body.getD .skip, owned_May_1_ea, Tryz.func38, by kernel_rfl, Tryz.call38, fun C N args K H e => by
  unfold l38 at e
  split at e
  · rw [owned_May_1_ee]; exact e
  · exact eF_no e⟩

/- halberd/owned.may -/
def owned_may_ea : Ann := .two (.none) (.two (.two (.none) (.two (.two (.none) (.none)) (.none))) (.two (.none) (.join (.two (.none) (.sub (.two (.none) (.two (.none) (.two (.none) (.two (.none) (.join (.two (.none) (.two (.none) (.none))) (.two (.none) (.two (.none) (.none))) [(17, .any)]))))))) (.join (.none) (.none) [(2, .any)]) [(3, .any), (4, .any)])))
noncomputable def owned_may_p0 (K : SV → ER) (k8 : SV × SV × Unit → ER) (x11 : SV) : ER :=
  eJoinC (σ := SV × Unit) (fun (k14 : SV × Unit → ER) =>
  eBin Tryz.prog .eql 3 false x11 (.int .i64 3) fun x16 => eIfV x16
  (eHas .any x16 (k14 (x16, ())))
  (eBin Tryz.prog .eql 3 false x11 (.int .i64 4) fun x17 => eHas .any x17 (k14 (x17, ())))) fun (s15 : SV × Unit) =>
  eIfV s15.1
  (eHas .any (.int .i64 0) (eHas .any (.int .i64 0) (k8 ((.int .i64 0), (.int .i64 0), ()))))
  (K (.bool false))
noncomputable def owned_may_p1 (C : Cal) (x1 : SV) (k18 : SV × Unit → ER) : ER :=
  eFieldAddr Tryz.prog 98 x1 2 fun x23 => eLoad Tryz.prog 3 x23 fun x24 => eCallR Tryz.prog C 58 [x24, (.int .i64 1), (.int .i64 32)] 4 fun x25 => eIfV x25
  (eFieldAddr Tryz.prog 98 x1 3 fun x26 => eLoad Tryz.prog 3 x26 fun x27 => eCallR Tryz.prog C 58 [x27, (.int .i64 1), (.int .i64 16)] 4 fun x28 => eHas .any x28 (k18 (x28, ())))
  (eHas .any (.bool false) (k18 ((.bool false), ())))
noncomputable def owned_may_p2 (C : Cal) (s9 : SV × SV × Unit) (x1 : SV) (k18 : SV × Unit → ER) : ER :=
  eFieldAddr Tryz.prog 98 x1 1 fun x20 => eLoad Tryz.prog 3 x20 fun x21 => eCallR Tryz.prog C 58 [x21, s9.1, s9.2.1] 4 fun x22 => eIfV x22
  (owned_may_p1 C x1 k18)
  (eHas .any (.bool false) (k18 ((.bool false), ())))
noncomputable def owned_may_p3 (K : SV → ER) (k8 : SV × SV × Unit → ER) (x1 : SV) : ER :=
  eFieldAddr Tryz.prog 98 x1 0 fun x10 => eLoad Tryz.prog 3 x10 fun x11 => eBin Tryz.prog .eql 3 false x11 (.int .i64 1) fun x12 => eIfV x12
  (eHas .any (.int .i64 4) (eHas .any (.int .i64 4) (k8 ((.int .i64 4), (.int .i64 4), ()))))
  (eBin Tryz.prog .eql 3 false x11 (.int .i64 2) fun x13 => eIfV x13
  (eHas .any (.int .i64 1) (eHas .any (.int .i64 8) (k8 ((.int .i64 1), (.int .i64 8), ()))))
  (owned_may_p0 K k8 x11))
noncomputable def owned_may_p4 (C : Cal) (K : SV → ER) (x1 : SV) : ER :=
  eJoinC (σ := SV × SV × Unit) (fun (k8 : SV × SV × Unit → ER) =>
  owned_may_p3 K k8 x1) fun (s9 : SV × SV × Unit) =>
  eJoinC (σ := SV × Unit) (fun (k18 : SV × Unit → ER) =>
  owned_may_p2 C s9 x1 k18) fun (s19 : SV × Unit) =>
  K s19.1
noncomputable def owned_may_e (C : Cal) (N : Nat) (a0 : SV) (K : SV → ER) : ER :=
  eBox Tryz.prog 98 a0 fun x1 => eFieldAddr Tryz.prog 98 x1 0 fun x2 => eLoad Tryz.prog 3 x2 fun x3 => eBin Tryz.prog .eql 3 false x3 (.int .i64 5) fun x4 => eIfV x4
  (eLoad Tryz.prog 98 x1 fun x5 => eBuild Tryz.prog 98 [(0, (.int .i64 5))] fun x6 => eBin Tryz.prog .eql 98 false x5 x6 fun x7 => K x7)
  (owned_may_p4 C K x1)
theorem owned_may_ee (C : Cal) (N : Nat) (a0 : SV) (K : SV → ER) : eBody Tryz.prog C N Tryz.f39 (Tryz.f39.body.getD .skip) owned_may_ea [a0] K = owned_may_e C N a0 K := by kernel_rfl
noncomputable def l39 : LeafT := fun C N args K => match args with
  | [a0] => owned_may_e C N a0 K
  | _ => eF
theorem lok39 : LeafOk Tryz.prog 39 l39 := .inl ⟨Tryz.f39, Tryz.f39.body.getD .skip, owned_may_ea, Tryz.func39, by kernel_rfl, Tryz.call39, fun C N args K H e => by
  unfold l39 at e
  split at e
  · rw [owned_may_ee]; exact e
  · exact eF_no e⟩

/- slices.ContainsFunc[[]halberd/api.Inst,halberd/api.Inst] -/
def slices_ContainsFunc_api_Inst_api_Inst_ea : Ann := .two (.none) (.two (.none) (.none))
noncomputable def slices_ContainsFunc_api_Inst_api_Inst_e (C : Cal) (N : Nat) (a0 a1 : SV) (K : SV → ER) : ER :=
  eCallR Tryz.prog C 59 [a0, a1] 3 fun x1 => eBin Tryz.prog .geq 3 false x1 (.int .i64 0) fun x2 => K x2
theorem slices_ContainsFunc_api_Inst_api_Inst_ee (C : Cal) (N : Nat) (a0 a1 : SV) (K : SV → ER) : eBody Tryz.prog C N Tryz.f40 (Tryz.f40.body.getD .skip) slices_ContainsFunc_api_Inst_api_Inst_ea [a0, a1] K = slices_ContainsFunc_api_Inst_api_Inst_e C N a0 a1 K := by kernel_rfl
noncomputable def l40 : LeafT := fun C N args K => match args with
  | [a0, a1] => slices_ContainsFunc_api_Inst_api_Inst_e C N a0 a1 K
  | _ => eF
theorem lok40 : LeafOk Tryz.prog 40 l40 := .inl ⟨Tryz.f40, Tryz.f40.body.getD .skip, slices_ContainsFunc_api_Inst_api_Inst_ea, Tryz.func40, by kernel_rfl, Tryz.call40, fun C N args K H e => by
  unfold l40 at e
  split at e
  · rw [slices_ContainsFunc_api_Inst_api_Inst_ee]; exact e
  · exact eF_no e⟩

/- halberd/isa.Check$1 -/
def isa_Check_1_ea : Ann := .two (.none) (.two (.none) (.two (.none) (.none)))
noncomputable def isa_Check_1_e (C : Cal) (N : Nat) (a0 a1 a2 a3 : SV) (K : SV → ER) : ER :=
  eBox Tryz.prog 38 a0 fun x1 => eLoad Tryz.prog 3 a1 fun x2 => eBin Tryz.prog .add 3 false x2 (.int .i64 1) fun x3 => eStore Tryz.prog 3 a1 x3 <| eLoad Tryz.prog 26 a2 fun x4 => eLoad Tryz.prog 3 a1 fun x5 => eLoad Tryz.prog 3 a3 fun x6 => eCallR Tryz.prog C 42 [x4, x5, x6] 4 fun x7 => eUnS .not x7 fun x8 => K x8
theorem isa_Check_1_ee (C : Cal) (N : Nat) (a0 a1 a2 a3 : SV) (K : SV → ER) : eBody Tryz.prog C N Tryz.f41 (Tryz.f41.body.getD .skip) isa_Check_1_ea [a0, a1, a2, a3] K = isa_Check_1_e C N a0 a1 a2 a3 K := by kernel_rfl
noncomputable def l41 : LeafT := fun C N args K => match args with
  | [a0, a1, a2, a3] => isa_Check_1_e C N a0 a1 a2 a3 K
  | _ => eF
theorem lok41 : LeafOk Tryz.prog 41 l41 := .inl ⟨Tryz.f41, Tryz.f41.body.getD .skip, isa_Check_1_ea, Tryz.func41, by kernel_rfl, Tryz.call41, fun C N args K H e => by
  unfold l41 at e
  split at e
  · rw [isa_Check_1_ee]; exact e
  · exact eF_no e⟩

/- halberd/isa.good -/
def isa_good_ea : Ann := .two (.none) (.two (.none) (.two (.sub (.two (.none) (.two (.two (.none) (.none)) (.two (.none) (.two (.two (.none) (.none)) (.two (.none) (.two (.join (.ord [0, 1, 2, 3, 4, 5, 6, 7, 8, 10, 11, 12, 13, 16, 17, 18, 9, 14, 15, 19, 20, 21, 22]) (.none) [(6, .any)]) (.two (.none) (.two (.two (.none) (.join (.none) (.none) [(6, .any)])) (.none)))))))))) (.two (.none) (.none))))
noncomputable def isa_good_p0 (C : Cal) (a0 : SV) (a1 : SV) (a2 : SV) (x3 : SV) (k11 : SV × Unit → ER) : ER :=
  eBin Tryz.prog .add 3 false a1 (.int .i64 1) fun x18 => eIndexAddrS Tryz.prog 26 a0 x18 fun x19 => eMinMaxS true [a2, (.int .i64 0)] fun x20 => eConvS Tryz.prog 3 23 x20 fun x21 => eLoad Tryz.prog 38 x3 fun x22 => eLoad Tryz.prog 38 x19 fun x23 => eCallR Tryz.prog C 62 [x22, x23] 23 fun x24 => eBin Tryz.prog .lss 23 false x24 x21 fun x25 => eHas .any x25 (k11 (x25, ()))
noncomputable def isa_good_p1 (C : Cal) (a0 : SV) (a1 : SV) (a2 : SV) (x3 : SV) (k11 : SV × Unit → ER) : ER :=
  eFieldAddr Tryz.prog 38 x3 2 fun x15 => eLoad Tryz.prog 5 x15 fun x16 => eBin Tryz.prog .eql 5 false x16 (.int .u8 0) fun x17 => eIfV x17
  (eHas .any (.bool true) (k11 ((.bool true), ())))
  (isa_good_p0 C a0 a1 a2 x3 k11)
noncomputable def isa_good_p2 (C : Cal) (K : SV → ER) (a0 : SV) (a1 : SV) (a2 : SV) (x3 : SV) : ER :=
  eJoinC (σ := SV × Unit) (fun (k11 : SV × Unit → ER) =>
  eBin Tryz.prog .add 3 false a1 (.int .i64 1) fun x13 => eCallR Tryz.prog C 60 [a0, x13] 4 fun x14 => eIfV x14
  (isa_good_p1 C a0 a1 a2 x3 k11)
  (eHas .any (.bool false) (k11 ((.bool false), ())))) fun (s12 : SV × Unit) =>
  K s12.1
noncomputable def isa_good_p3 (C : Cal) (a0 : SV) (k33 : SV × Unit → ER) (x32 : SV) : ER :=
  eLenS Tryz.prog [26] [a0] fun x38 => eBin Tryz.prog .lss 3 false x32 x38 fun x39 => eIfV x39
  (eCallR Tryz.prog C 60 [a0, x32] 4 fun x40 => eUnS .not x40 fun x41 => eHas .any x41 (k33 (x41, ())))
  (eHas .any (.bool false) (k33 ((.bool false), ())))
noncomputable def isa_good_p4 (C : Cal) (a0 : SV) (x3 : SV) (k33 : SV × Unit → ER) (x32 : SV) : ER :=
  eFieldAddr Tryz.prog 38 x3 3 fun x35 => eLoad Tryz.prog 35 x35 fun x36 => eBin Tryz.prog .geq 35 false x36 (.int .i16 0) fun x37 => eIfV x37
  (isa_good_p3 C a0 k33 x32)
  (eHas .any (.bool false) (k33 ((.bool false), ())))
noncomputable def isa_good_p5 (C : Cal) (K : SV → ER) (a0 : SV) (a1 : SV) (x3 : SV) : ER :=
  eBin Tryz.prog .add 3 false a1 (.int .i64 1) fun x28 => eFieldAddr Tryz.prog 38 x3 3 fun x29 => eLoad Tryz.prog 35 x29 fun x30 => eConvS Tryz.prog 35 3 x30 fun x31 => eBin Tryz.prog .add 3 false x28 x31 fun x32 => eJoinC (σ := SV × Unit) (fun (k33 : SV × Unit → ER) =>
  isa_good_p4 C a0 x3 k33 x32) fun (s34 : SV × Unit) =>
  K s34.1
noncomputable def isa_good_p6 (C : Cal) (K : SV → ER) (a0 : SV) (a1 : SV) (a2 : SV) (x3 : SV) : ER :=
  eFieldAddr Tryz.prog 38 x3 0 fun x8 => eLoad Tryz.prog 5 x8 fun x9 => eBin Tryz.prog .eql 5 false x9 (.int .u8 24) fun x10 => eIfV x10
  (isa_good_p2 C K a0 a1 a2 x3)
  (eLoad Tryz.prog 38 x3 fun x26 => eCallR Tryz.prog C 63 [x26] 4 fun x27 => eIfV x27
  (isa_good_p5 C K a0 a1 x3)
  (K (.bool true)))
noncomputable def isa_good_e (C : Cal) (N : Nat) (a0 a1 a2 : SV) (K : SV → ER) : ER :=
  eIndexAddrS Tryz.prog 26 a0 a1 fun x1 => eLoad Tryz.prog 38 x1 fun x2 => eAlloc Tryz.prog 38 fun x3 => eStore Tryz.prog 38 x3 x2 <| eCallR Tryz.prog C 60 [a0, a1] 4 fun x4 => eIfV x4
  (K (.bool true))
  (eLoad Tryz.prog 38 x3 fun x5 => eCallR Tryz.prog C 61 [x5] 4 fun x6 => eUnS .not x6 fun x7 => eIfV x7
  (K (.bool false))
  (isa_good_p6 C K a0 a1 a2 x3))
theorem isa_good_ee (C : Cal) (N : Nat) (a0 a1 a2 : SV) (K : SV → ER) : eBody Tryz.prog C N Tryz.f42 (Tryz.f42.body.getD .skip) isa_good_ea [a0, a1, a2] K = isa_good_e C N a0 a1 a2 K := by kernel_rfl
noncomputable def l42 : LeafT := fun C N args K => match args with
  | [a0, a1, a2] => isa_good_e C N a0 a1 a2 K
  | _ => eF
theorem lok42 : LeafOk Tryz.prog 42 l42 := .inl ⟨Tryz.f42, Tryz.f42.body.getD .skip, isa_good_ea, Tryz.func42, by kernel_rfl, Tryz.call42, fun C N args K H e => by
  unfold l42 at e
  split at e
  · rw [isa_good_ee]; exact e
  · exact eF_no e⟩

/- halberd/verify.steps -/
def verify_steps_ea : Ann := .two (.none) (.two (.none) (.none))
noncomputable def verify_steps_e (C : Cal) (N : Nat) (K : SV → ER) : ER :=
  eAlloc Tryz.prog 104 fun x1 => eBuild Tryz.prog 104 [(0, (.fn 64 [] [])), (1, (.fn 65 [] [])), (2, (.fn 66 [] [])), (3, (.fn 66 [] [])), (4, (.fn 67 [] [])), (5, (.fn 68 [] [])), (6, (.fn 68 [] [])), (7, (.fn 67 [] []))] fun x2 => eStore Tryz.prog 104 x1 x2 <| eLoad Tryz.prog 104 x1 fun x3 => K x3
theorem verify_steps_ee (C : Cal) (N : Nat) (K : SV → ER) : eBody Tryz.prog C N Tryz.f43 (Tryz.f43.body.getD .skip) verify_steps_ea [] K = verify_steps_e C N  K := by kernel_rfl
noncomputable def l43 : LeafT := fun C N args K => match args with
  | [] => verify_steps_e C N  K
  | _ => eF
theorem lok43 : LeafOk Tryz.prog 43 l43 := .inl ⟨Tryz.f43, Tryz.f43.body.getD .skip, verify_steps_ea, Tryz.func43, by kernel_rfl, Tryz.call43, fun C N args K H e => by
  unfold l43 at e
  split at e
  · rw [verify_steps_ee]; exact e
  · exact eF_no e⟩

/- strings.explode -/
def strings_explode_ea : Ann := .two (.none) (.two (.none) (.join (.join (.none) (.two (.none) (.none)) [(18, .any)]) (.two (.none) (.two (.two (.none) (.sub (.loop [(0, .any), (7, .any)] (.two (.two (.none) (.two (.none) (.none))) (.two (.sub (.two (.none) (.two (.none) (.none)))) (.none)))))) (.join (.two (.none) (.two (.none) (.none))) (.two (.none) (.none)) []))) [(1, .any)]))
noncomputable def strings_explode_p0 (C : Cal) (k9 : SV × SV × Unit → ER) (x8 : SV) (s10 : SV × SV × Unit) : ER :=
  eCallR Tryz.prog C 70 [s10.1] 129 fun x13 => eExtract x13 0 fun x14 => eExtract x13 1 fun x15 => eSliceS Tryz.prog 9 s10.1 none (some (.v x15)) none fun x16 => eIndexAddrS Tryz.prog 42 x8 s10.2.1 fun x17 => eStore Tryz.prog 9 x17 x16 <| eSliceS Tryz.prog 9 s10.1 (some (.v x15)) none none fun x18 => eBin Tryz.prog .add 3 false s10.2.1 (.int .i64 1) fun x19 => eHas .any x18 (eHas .any x19 (k9 (x18, x19, ())))
noncomputable def strings_explode_p1 (s3 : SV × Unit) (x8 : SV) (k20 : Unit → ER) (s10 : SV × SV × Unit) : ER :=
  eBin Tryz.prog .gtr 3 false s3.1 (.int .i64 0) fun x22 => eIfV x22
  (eBin Tryz.prog .sub 3 false s3.1 (.int .i64 1) fun x23 => eIndexAddrS Tryz.prog 42 x8 x23 fun x24 => eStore Tryz.prog 9 x24 s10.1 <| k20 (()))
  (k20 (()))
noncomputable def strings_explode_p2 (C : Cal) (K : SV → ER) (k9 : SV × SV × Unit → ER) (s3 : SV × Unit) (x8 : SV) (s10 : SV × SV × Unit) : ER :=
  eBin Tryz.prog .sub 3 false s3.1 (.int .i64 1) fun x11 => eBin Tryz.prog .lss 3 false s10.2.1 x11 fun x12 => eIfV x12
  (strings_explode_p0 C k9 x8 s10)
  (eJoinC (σ := Unit) (fun (k20 : Unit → ER) =>
  strings_explode_p1 s3 x8 k20 s10) fun (s21 : Unit) =>
  K x8)
noncomputable def strings_explode_p3 (a1 : SV) (k2 : SV × Unit → ER) (x1 : SV) : ER :=
  eJoinC (σ := SV × Unit) (fun (k4 : SV × Unit → ER) =>
  eBin Tryz.prog .lss 3 false a1 (.int .i64 0) fun x6 => eIfV x6
  (eHas .any (.bool true) (k4 ((.bool true), ())))
  (eBin Tryz.prog .gtr 3 false a1 x1 fun x7 => eHas .any x7 (k4 (x7, ())))) fun (s5 : SV × Unit) =>
  eIfV s5.1
  (eHas .any x1 (k2 (x1, ())))
  (eHas .any a1 (k2 (a1, ())))
noncomputable def strings_explode_p4 (C : Cal) (K : SV → ER) (N : Nat) (a0 : SV) (s3 : SV × Unit) : ER :=
  eMakeSliceS Tryz.prog 42 s3.1 s3.1 fun x8 => eHas .any a0 (eHas .any (.int .i64 0) (eIter (σ := SV × SV × Unit) (fun (s10 : SV × SV × Unit) (k9 : SV × SV × Unit → ER) =>
  strings_explode_p2 C K k9 s3 x8 s10) N (a0, (.int .i64 0), ())))
noncomputable def strings_explode_e (C : Cal) (N : Nat) (a0 a1 : SV) (K : SV → ER) : ER :=
  eCallR Tryz.prog C 69 [a0] 3 fun x1 => eJoinC (σ := SV × Unit) (fun (k2 : SV × Unit → ER) =>
  strings_explode_p3 a1 k2 x1) fun (s3 : SV × Unit) =>
  strings_explode_p4 C K N a0 s3
theorem strings_explode_ee (C : Cal) (N : Nat) (a0 a1 : SV) (K : SV → ER) : eBody Tryz.prog C N Tryz.f44 (Tryz.f44.body.getD .skip) strings_explode_ea [a0, a1] K = strings_explode_e C N a0 a1 K := by kernel_rfl
noncomputable def l44 : LeafT := fun C N args K => match args with
  | [a0, a1] => strings_explode_e C N a0 a1 K
  | _ => eF
theorem lok44 : LeafOk Tryz.prog 44 l44 := .inl ⟨Tryz.f44, Tryz.f44.body.getD .skip, strings_explode_ea, Tryz.func44, by kernel_rfl, Tryz.call44, fun C N args K H e => by
  unfold l44 at e
  split at e
  · rw [strings_explode_ee]; exact e
  · exact eF_no e⟩

/- strings.Count -/
def strings_Count_ea : Ann := .two (.none) (.two (.two (.none) (.two (.two (.none) (.none)) (.none))) (.two (.two (.none) (.two (.two (.none) (.none)) (.none))) (.two (.none) (.sub (.loop [(0, .any), (5, .any)] (.sub (.two (.none) (.two (.two (.none) (.two (.two (.none) (.none)) (.none))) (.two (.none) (.none))))))))))
noncomputable def strings_Count_p0 (a1 : SV) (k9 : SV × SV × Unit → ER) (s10 : SV × SV × Unit) (x11 : SV) : ER :=
  eBin Tryz.prog .add 3 false s10.2.1 (.int .i64 1) fun x13 => eLenS Tryz.prog [9] [a1] fun x14 => eBin Tryz.prog .add 3 false x11 x14 fun x15 => eSliceS Tryz.prog 9 s10.1 (some (.v x15)) none none fun x16 => eHas .any x16 (eHas .any x13 (k9 (x16, x13, ())))
noncomputable def strings_Count_p1 (C : Cal) (K : SV → ER) (N : Nat) (a0 : SV) (a1 : SV) : ER :=
  eHas .any a0 (eHas .any (.int .i64 0) (eIter (σ := SV × SV × Unit) (fun (s10 : SV × SV × Unit) (k9 : SV × SV × Unit → ER) =>
  eCallR Tryz.prog C 46 [s10.1, a1] 3 fun x11 => eBin Tryz.prog .eql 3 false x11 (.int .i64 (-1)) fun x12 => eIfV x12
  (K s10.2.1)
  (strings_Count_p0 a1 k9 s10 x11)) N (a0, (.int .i64 0), ())))
noncomputable def strings_Count_p2 (C : Cal) (K : SV → ER) (N : Nat) (a0 : SV) (a1 : SV) : ER :=
  eLenS Tryz.prog [9] [a1] fun x5 => eBin Tryz.prog .eql 3 false x5 (.int .i64 1) fun x6 => eIfV x6
  (eIndexS Tryz.prog 9 a1 (.int .i64 0) fun x7 => eCallR Tryz.prog C 71 [a0, x7] 3 fun x8 => K x8)
  (strings_Count_p1 C K N a0 a1)
noncomputable def strings_Count_e (C : Cal) (N : Nat) (a0 a1 : SV) (K : SV → ER) : ER :=
  eLenS Tryz.prog [9] [a1] fun x1 => eBin Tryz.prog .eql 3 false x1 (.int .i64 0) fun x2 => eIfV x2
  (eCallR Tryz.prog C 69 [a0] 3 fun x3 => eBin Tryz.prog .add 3 false x3 (.int .i64 1) fun x4 => K x4)
  (strings_Count_p2 C K N a0 a1)
theorem strings_Count_ee (C : Cal) (N : Nat) (a0 a1 : SV) (K : SV → ER) : eBody Tryz.prog C N Tryz.f45 (Tryz.f45.body.getD .skip) strings_Count_ea [a0, a1] K = strings_Count_e C N a0 a1 K := by kernel_rfl
noncomputable def l45 : LeafT := fun C N args K => match args with
  | [a0, a1] => strings_Count_e C N a0 a1 K
  | _ => eF
theorem lok45 : LeafOk Tryz.prog 45 l45 := .inl ⟨Tryz.f45, Tryz.f45.body.getD .skip, strings_Count_ea, Tryz.func45, by kernel_rfl, Tryz.call45, fun C N args K H e => by
  unfold l45 at e
  split at e
  · rw [strings_Count_ee]; exact e
  · exact eF_no e⟩

end Go.Proofs.YtjafpcagfgklgaaGreatDoor

set_option linter.unusedVariables false
set_option maxRecDepth 100000
namespace Go.Proofs.YtjafpcagfgklgaaGreatDoor
open Go.Hl
/- strings.Index -/
def strings_Index_ea : Ann := .two (.none) (.two (.none) (.none))
noncomputable def strings_Index_e (C : Cal) (N : Nat) (a0 a1 : SV) (K : SV → ER) : ER :=
  eCallR Tryz.prog C 72 [a0, a1] 3 fun x1 => K x1
theorem strings_Index_ee (C : Cal) (N : Nat) (a0 a1 : SV) (K : SV → ER) : eBody Tryz.prog C N Tryz.f46 (Tryz.f46.body.getD .skip) strings_Index_ea [a0, a1] K = strings_Index_e C N a0 a1 K := by kernel_rfl
noncomputable def l46 : LeafT := fun C N args K => match args with
  | [a0, a1] => strings_Index_e C N a0 a1 K
  | _ => eF
theorem lok46 : LeafOk Tryz.prog 46 l46 := .inl ⟨Tryz.f46, Tryz.f46.body.getD .skip, strings_Index_ea, Tryz.func46, by kernel_rfl, Tryz.call46, fun C N args K H e => by
  unfold l46 at e
  split at e
  · rw [strings_Index_ee]; exact e
  · exact eF_no e⟩

/- internal/stringslite.HasSuffix -/
def internal_stringslite_HasSuffix_ea : Ann := .two (.none) (.join (.none) (.none) [(4, .any)])
noncomputable def internal_stringslite_HasSuffix_p0 (a0 : SV) (a1 : SV) (k1 : SV × Unit → ER) : ER :=
  eLenS Tryz.prog [9] [a0] fun x6 => eLenS Tryz.prog [9] [a1] fun x7 => eBin Tryz.prog .sub 3 false x6 x7 fun x8 => eSliceS Tryz.prog 9 a0 (some (.v x8)) none none fun x9 => eBin Tryz.prog .eql 9 false x9 a1 fun x10 => eHas .any x10 (k1 (x10, ()))
noncomputable def internal_stringslite_HasSuffix_p1 (a0 : SV) (a1 : SV) (k1 : SV × Unit → ER) : ER :=
  eLenS Tryz.prog [9] [a0] fun x3 => eLenS Tryz.prog [9] [a1] fun x4 => eBin Tryz.prog .geq 3 false x3 x4 fun x5 => eIfV x5
  (internal_stringslite_HasSuffix_p0 a0 a1 k1)
  (eHas .any (.bool false) (k1 ((.bool false), ())))
noncomputable def internal_stringslite_HasSuffix_e (C : Cal) (N : Nat) (a0 a1 : SV) (K : SV → ER) : ER :=
  eJoinC (σ := SV × Unit) (fun (k1 : SV × Unit → ER) =>
  internal_stringslite_HasSuffix_p1 a0 a1 k1) fun (s2 : SV × Unit) =>
  K s2.1
theorem internal_stringslite_HasSuffix_ee (C : Cal) (N : Nat) (a0 a1 : SV) (K : SV → ER) : eBody Tryz.prog C N Tryz.f47 (Tryz.f47.body.getD .skip) internal_stringslite_HasSuffix_ea [a0, a1] K = internal_stringslite_HasSuffix_e C N a0 a1 K := by kernel_rfl
noncomputable def l47 : LeafT := fun C N args K => match args with
  | [a0, a1] => internal_stringslite_HasSuffix_e C N a0 a1 K
  | _ => eF
theorem lok47 : LeafOk Tryz.prog 47 l47 := .inl ⟨Tryz.f47, Tryz.f47.body.getD .skip, internal_stringslite_HasSuffix_ea, Tryz.func47, by kernel_rfl, Tryz.call47, fun C N args K H e => by
  unfold l47 at e
  split at e
  · rw [internal_stringslite_HasSuffix_ee]; exact e
  · exact eF_no e⟩

/- internal/stringslite.Cut -/
def internal_stringslite_Cut_ea : Ann := .two (.none) (.two (.two (.none) (.two (.none) (.two (.two (.ord [0, 1, 2, 3, 4, 5, 6, 7, 8, 9, 10, 11]) (.none)) (.none)))) (.two (.none) (.none)))
noncomputable def internal_stringslite_Cut_p0 (K : SV → ER) (a0 : SV) (a1 : SV) (x1 : SV) : ER :=
  eSliceS Tryz.prog 9 a0 none (some (.v x1)) none fun x3 => eLenS Tryz.prog [9] [a1] fun x4 => eBin Tryz.prog .add 3 false x1 x4 fun x5 => eSliceS Tryz.prog 9 a0 (some (.v x5)) none none fun x6 => K (.tup [x3, x6, (.bool true)])
noncomputable def internal_stringslite_Cut_e (C : Cal) (N : Nat) (a0 a1 : SV) (K : SV → ER) : ER :=
  eCallR Tryz.prog C 72 [a0, a1] 3 fun x1 => eBin Tryz.prog .geq 3 false x1 (.int .i64 0) fun x2 => eIfV x2
  (internal_stringslite_Cut_p0 K a0 a1 x1)
  (K (.tup [a0, (.str []), (.bool false)]))
theorem internal_stringslite_Cut_ee (C : Cal) (N : Nat) (a0 a1 : SV) (K : SV → ER) : eBody Tryz.prog C N Tryz.f48 (Tryz.f48.body.getD .skip) internal_stringslite_Cut_ea [a0, a1] K = internal_stringslite_Cut_e C N a0 a1 K := by kernel_rfl
noncomputable def l48 : LeafT := fun C N args K => match args with
  | [a0, a1] => internal_stringslite_Cut_e C N a0 a1 K
  | _ => eF
theorem lok48 : LeafOk Tryz.prog 48 l48 := .inl ⟨Tryz.f48, Tryz.f48.body.getD .skip, internal_stringslite_Cut_ea, Tryz.func48, by kernel_rfl, Tryz.call48, fun C N args K H e => by
  unfold l48 at e
  split at e
  · rw [internal_stringslite_Cut_ee]; exact e
  · exact eF_no e⟩

/- strings.CutPrefix -/
def strings_CutPrefix_ea : Ann := .two (.none) (.two (.none) (.none))
noncomputable def strings_CutPrefix_e (C : Cal) (N : Nat) (a0 a1 : SV) (K : SV → ER) : ER :=
  eCallR Tryz.prog C 73 [a0, a1] 109 fun x1 => eExtract x1 0 fun x2 => eExtract x1 1 fun x3 => K (.tup [x2, x3])
theorem strings_CutPrefix_ee (C : Cal) (N : Nat) (a0 a1 : SV) (K : SV → ER) : eBody Tryz.prog C N Tryz.f49 (Tryz.f49.body.getD .skip) strings_CutPrefix_ea [a0, a1] K = strings_CutPrefix_e C N a0 a1 K := by kernel_rfl
noncomputable def l49 : LeafT := fun C N args K => match args with
  | [a0, a1] => strings_CutPrefix_e C N a0 a1 K
  | _ => eF
theorem lok49 : LeafOk Tryz.prog 49 l49 := .inl ⟨Tryz.f49, Tryz.f49.body.getD .skip, strings_CutPrefix_ea, Tryz.func49, by kernel_rfl, Tryz.call49, fun C N args K H e => by
  unfold l49 at e
  split at e
  · rw [strings_CutPrefix_ee]; exact e
  · exact eF_no e⟩

/- strconv.ParseInt -/
def strconv_ParseInt_ea : Ann := .two (.none) (.two (.none) (.two (.two (.none) (.two (.two (.none) (.none)) (.none))) (.two (.none) (.none))))
noncomputable def strconv_ParseInt_e (C : Cal) (N : Nat) (a0 a1 a2 : SV) (K : SV → ER) : ER :=
  eCallR Tryz.prog C 74 [a0, a1, a2] 113 fun x1 => eExtract x1 0 fun x2 => eExtract x1 1 fun x3 => eBin Tryz.prog .neq 112 true x3 .nifc fun x4 => eIfV x4
  (eCallR Tryz.prog C 75 [(.str [80, 97, 114, 115, 101, 73, 110, 116]), a0, a1, a2, x3] 112 fun x5 => K (.tup [x2, x5]))
  (K (.tup [x2, .nifc]))
theorem strconv_ParseInt_ee (C : Cal) (N : Nat) (a0 a1 a2 : SV) (K : SV → ER) : eBody Tryz.prog C N Tryz.f50 (Tryz.f50.body.getD .skip) strconv_ParseInt_ea [a0, a1, a2] K = strconv_ParseInt_e C N a0 a1 a2 K := by kernel_rfl
noncomputable def l50 : LeafT := fun C N args K => match args with
  | [a0, a1, a2] => strconv_ParseInt_e C N a0 a1 a2 K
  | _ => eF
theorem lok50 : LeafOk Tryz.prog 50 l50 := .inl ⟨Tryz.f50, Tryz.f50.body.getD .skip, strconv_ParseInt_ea, Tryz.func50, by kernel_rfl, Tryz.call50, fun C N args K H e => by
  unfold l50 at e
  split at e
  · rw [strconv_ParseInt_ee]; exact e
  · exact eF_no e⟩

/- halberd/asm.num -/
def asm_num_ea : Ann := .two (.none) (.two (.none) (.none))
noncomputable def asm_num_e (C : Cal) (N : Nat) (a0 : SV) (K : SV → ER) : ER :=
  eCallR Tryz.prog C 76 [a0, (.int .i64 10)] 9 fun x1 => K x1
theorem asm_num_ee (C : Cal) (N : Nat) (a0 : SV) (K : SV → ER) : eBody Tryz.prog C N Tryz.f51 (Tryz.f51.body.getD .skip) asm_num_ea [a0] K = asm_num_e C N a0 K := by kernel_rfl
noncomputable def l51 : LeafT := fun C N args K => match args with
  | [a0] => asm_num_e C N a0 K
  | _ => eF
theorem lok51 : LeafOk Tryz.prog 51 l51 := .inl ⟨Tryz.f51, Tryz.f51.body.getD .skip, asm_num_ea, Tryz.func51, by kernel_rfl, Tryz.call51, fun C N args K H e => by
  unfold l51 at e
  split at e
  · rw [asm_num_ee]; exact e
  · exact eF_no e⟩

/- halberd/inst.Pair -/
def inst_Pair_ea : Ann := .two (.none) (.two (.none) (.none))
noncomputable def inst_Pair_e (C : Cal) (N : Nat) (a0 a1 a2 a3 : SV) (K : SV → ER) : ER :=
  eAlloc Tryz.prog 115 fun x1 => eConvS Tryz.prog 23 21 a3 fun x2 => eBuild Tryz.prog 38 [(0, a0), (1, a1), (2, a2), (4, x2)] fun x3 => eBin Tryz.prog .shr 23 false a3 (.int .u64 32) fun x4 => eConvS Tryz.prog 23 21 x4 fun x5 => eBuild Tryz.prog 38 [(4, x5)] fun x6 => eBuild Tryz.prog 115 [(0, x3), (1, x6)] fun x7 => eStore Tryz.prog 115 x1 x7 <| eLoad Tryz.prog 115 x1 fun x8 => K x8
theorem inst_Pair_ee (C : Cal) (N : Nat) (a0 a1 a2 a3 : SV) (K : SV → ER) : eBody Tryz.prog C N Tryz.f52 (Tryz.f52.body.getD .skip) inst_Pair_ea [a0, a1, a2, a3] K = inst_Pair_e C N a0 a1 a2 a3 K := by kernel_rfl
noncomputable def l52 : LeafT := fun C N args K => match args with
  | [a0, a1, a2, a3] => inst_Pair_e C N a0 a1 a2 a3 K
  | _ => eF
theorem lok52 : LeafOk Tryz.prog 52 l52 := .inl ⟨Tryz.f52, Tryz.f52.body.getD .skip, inst_Pair_ea, Tryz.func52, by kernel_rfl, Tryz.call52, fun C N args K H e => by
  unfold l52 at e
  split at e
  · rw [inst_Pair_ee]; exact e
  · exact eF_no e⟩

/- halberd/asm.regOf -/
def asm_regOf_ea : Ann := .two (.none) (.two (.none) (.two (.none) (.two (.none) (.none))))
noncomputable def asm_regOf_e (C : Cal) (N : Nat) (a0 : SV) (K : SV → ER) : ER :=
  eCallR Tryz.prog C 49 [a0, (.str [114])] 109 fun x1 => eExtract x1 0 fun x2 => eExtract x1 1 fun x3 => eCallR Tryz.prog C 13 [x3] 0 fun x4 => eCallR Tryz.prog C 26 [x2, (.int .i64 0), (.int .i64 10)] 2 fun x5 => eConvS Tryz.prog 2 5 x5 fun x6 => K x6
theorem asm_regOf_ee (C : Cal) (N : Nat) (a0 : SV) (K : SV → ER) : eBody Tryz.prog C N Tryz.f53 (Tryz.f53.body.getD .skip) asm_regOf_ea [a0] K = asm_regOf_e C N a0 K := by kernel_rfl
noncomputable def l53 : LeafT := fun C N args K => match args with
  | [a0] => asm_regOf_e C N a0 K
  | _ => eF
theorem lok53 : LeafOk Tryz.prog 53 l53 := .inl ⟨Tryz.f53, Tryz.f53.body.getD .skip, asm_regOf_ea, Tryz.func53, by kernel_rfl, Tryz.call53, fun C N args K H e => by
  unfold l53 at e
  split at e
  · rw [asm_regOf_ee]; exact e
  · exact eF_no e⟩

end Go.Proofs.YtjafpcagfgklgaaGreatDoor

set_option linter.unusedVariables false
set_option maxRecDepth 100000
namespace Go.Proofs.YtjafpcagfgklgaaGreatDoor
open Go.Hl
/- halberd/asm.operand -/
def asm_operand_ea : Ann := .two (.two (.none) (.two (.two (.none) (.two (.none) (.none))) (.none))) (.none)
noncomputable def asm_operand_p0 (C : Cal) (K : SV → ER) (a0 : SV) (a1 : SV) : ER :=
  eNilCk a0 fun x2 => eFieldAddr Tryz.prog 38 x2 0 fun x3 => eLoad Tryz.prog 5 x3 fun x4 => eBin Tryz.prog .or 5 false x4 (.int .u8 8) fun x5 => eNilCk a0 fun x6 => eFieldAddr Tryz.prog 38 x6 0 fun x7 => eStore Tryz.prog 5 x7 x5 <| eCallR Tryz.prog C 53 [a1] 5 fun x8 => eNilCk a0 fun x9 => eFieldAddr Tryz.prog 38 x9 2 fun x10 => eStore Tryz.prog 5 x10 x8 <| K (.tup [])
noncomputable def asm_operand_p1 (C : Cal) (K : SV → ER) (a0 : SV) (a1 : SV) : ER :=
  eCallR Tryz.prog C 26 [a1, (.int .i64 (-2147483648)), (.int .i64 2147483647)] 2 fun x11 => eConvS Tryz.prog 2 21 x11 fun x12 => eNilCk a0 fun x13 => eFieldAddr Tryz.prog 38 x13 4 fun x14 => eStore Tryz.prog 21 x14 x12 <| K (.tup [])
noncomputable def asm_operand_e (C : Cal) (N : Nat) (a0 a1 : SV) (K : SV → ER) : ER :=
  eCallR Tryz.prog C 56 [a1] 4 fun x1 => eIfV x1
  (asm_operand_p0 C K a0 a1)
  (asm_operand_p1 C K a0 a1)
theorem asm_operand_ee (C : Cal) (N : Nat) (a0 a1 : SV) (K : SV → ER) : eBody Tryz.prog C N Tryz.f54 (Tryz.f54.body.getD .skip) asm_operand_ea [a0, a1] K = asm_operand_e C N a0 a1 K := by kernel_rfl
noncomputable def l54 : LeafT := fun C N args K => match args with
  | [a0, a1] => asm_operand_e C N a0 a1 K
  | _ => eF
theorem lok54 : LeafOk Tryz.prog 54 l54 := .inl ⟨Tryz.f54, Tryz.f54.body.getD .skip, asm_operand_ea, Tryz.func54, by kernel_rfl, Tryz.call54, fun C N args K H e => by
  unfold l54 at e
  split at e
  · rw [asm_operand_ee]; exact e
  · exact eF_no e⟩

/- halberd/asm.place -/
def asm_place_ea : Ann := .two (.none) (.two (.none) (.two (.none) (.join (.none) (.two (.two (.none) (.two (.none) (.two (.two (.none) (.none)) (.none)))) (.two (.none) (.two (.none) (.two (.ord [0, 1, 2, 4, 5, 6, 3, 7, 8, 9, 10]) (.none))))) [])))
noncomputable def asm_place_p0 (C : Cal) (K : SV → ER) (x5 : SV) : ER :=
  eCallR Tryz.prog C 46 [x5, (.str [45])] 3 fun x18 => eBin Tryz.prog .geq 3 false x18 (.int .i64 0) fun x19 => eCallR Tryz.prog C 13 [x19] 0 fun x20 => eSliceS Tryz.prog 9 x5 none (some (.v x18)) none fun x21 => eSliceS Tryz.prog 9 x5 (some (.v x18)) none none fun x22 => eCallR Tryz.prog C 53 [x21] 5 fun x23 => eCallR Tryz.prog C 26 [x22, (.int .i64 (-32768)), (.int .i64 (-1))] 2 fun x24 => eConvS Tryz.prog 2 35 x24 fun x25 => K (.tup [x23, x25])
noncomputable def asm_place_p1 (C : Cal) (K : SV → ER) (x5 : SV) : ER :=
  eCallR Tryz.prog C 24 [x5, (.str [43])] 80 fun x11 => eExtract x11 0 fun x12 => eExtract x11 1 fun x13 => eExtract x11 2 fun x14 => eIfV x14
  (eCallR Tryz.prog C 53 [x12] 5 fun x15 => eCallR Tryz.prog C 26 [x13, (.int .i64 0), (.int .i64 32767)] 2 fun x16 => eConvS Tryz.prog 2 35 x16 fun x17 => K (.tup [x15, x17]))
  (asm_place_p0 C K x5)
noncomputable def asm_place_e (C : Cal) (N : Nat) (a0 : SV) (K : SV → ER) : ER :=
  eCallR Tryz.prog C 49 [a0, (.str [91])] 109 fun x1 => eExtract x1 0 fun x2 => eExtract x1 1 fun x3 => eCallR Tryz.prog C 77 [x2, (.str [93])] 109 fun x4 => eExtract x4 0 fun x5 => eExtract x4 1 fun x6 => eJoinC (σ := Unit) (fun (k7 : Unit → ER) =>
  eIfV x3
  (eCallR Tryz.prog C 13 [x6] 0 fun x9 => k7 (()))
  (eCallR Tryz.prog C 13 [(.bool false)] 0 fun x10 => k7 (()))) fun (s8 : Unit) =>
  asm_place_p1 C K x5
theorem asm_place_ee (C : Cal) (N : Nat) (a0 : SV) (K : SV → ER) : eBody Tryz.prog C N Tryz.f55 (Tryz.f55.body.getD .skip) asm_place_ea [a0] K = asm_place_e C N a0 K := by kernel_rfl
noncomputable def l55 : LeafT := fun C N args K => match args with
  | [a0] => asm_place_e C N a0 K
  | _ => eF
theorem lok55 : LeafOk Tryz.prog 55 l55 := .inl ⟨Tryz.f55, Tryz.f55.body.getD .skip, asm_place_ea, Tryz.func55, by kernel_rfl, Tryz.call55, fun C N args K H e => by
  unfold l55 at e
  split at e
  · rw [asm_place_ee]; exact e
  · exact eF_no e⟩

/- halberd/asm.isReg -/
def asm_isReg_ea : Ann := .two (.none) (.two (.none) (.none))
noncomputable def asm_isReg_e (C : Cal) (N : Nat) (a0 : SV) (K : SV → ER) : ER :=
  eCallR Tryz.prog C 78 [a0, (.str [114])] 4 fun x1 => K x1
theorem asm_isReg_ee (C : Cal) (N : Nat) (a0 : SV) (K : SV → ER) : eBody Tryz.prog C N Tryz.f56 (Tryz.f56.body.getD .skip) asm_isReg_ea [a0] K = asm_isReg_e C N a0 K := by kernel_rfl
noncomputable def l56 : LeafT := fun C N args K => match args with
  | [a0] => asm_isReg_e C N a0 K
  | _ => eF
theorem lok56 : LeafOk Tryz.prog 56 l56 := .inl ⟨Tryz.f56, Tryz.f56.body.getD .skip, asm_isReg_ea, Tryz.func56, by kernel_rfl, Tryz.call56, fun C N args K H e => by
  unfold l56 at e
  split at e
  · rw [asm_isReg_ee]; exact e
  · exact eF_no e⟩

/- slices.IndexFunc[[]halberd/api.MapDef,halberd/api.MapDef] -/
def slices_IndexFunc_api_MapDef_api_MapDef_ea : Ann := .two (.none) (.two (.two (.none) (.sub (.loop [(8, .any)] (.two (.none) (.two (.two (.none) (.none)) (.two (.sub (.two (.none) (.two (.none) (.two (.two (.none) (.none)) (.none))))) (.none))))))) (.two (.none) (.none)))
noncomputable def slices_IndexFunc_api_MapDef_api_MapDef_p0 (C : Cal) (K : SV → ER) (a0 : SV) (a1 : SV) (k2 : SV × Unit → ER) (s3 : SV × Unit) : ER :=
  eIndexAddrS Tryz.prog 51 a0 s3.1 fun x5 => eLoad Tryz.prog 98 x5 fun x6 => eCallVR Tryz.prog C a1 [x6] 4 fun x7 => eIfV x7
  (K s3.1)
  (eBin Tryz.prog .add 3 false s3.1 (.int .i64 1) fun x8 => eHas .any x8 (k2 (x8, ())))
noncomputable def slices_IndexFunc_api_MapDef_api_MapDef_e (C : Cal) (N : Nat) (a0 a1 : SV) (K : SV → ER) : ER :=
  eLenS Tryz.prog [51] [a0] fun x1 => eHas .any (.int .i64 0) (eIter (σ := SV × Unit) (fun (s3 : SV × Unit) (k2 : SV × Unit → ER) =>
  eBin Tryz.prog .lss 3 false s3.1 x1 fun x4 => eIfV x4
  (slices_IndexFunc_api_MapDef_api_MapDef_p0 C K a0 a1 k2 s3)
  (K (.int .i64 (-1)))) N ((.int .i64 0), ()))
theorem slices_IndexFunc_api_MapDef_api_MapDef_ee (C : Cal) (N : Nat) (a0 a1 : SV) (K : SV → ER) : eBody Tryz.prog C N Tryz.f57 (Tryz.f57.body.getD .skip) slices_IndexFunc_api_MapDef_api_MapDef_ea [a0, a1] K = slices_IndexFunc_api_MapDef_api_MapDef_e C N a0 a1 K := by kernel_rfl
noncomputable def l57 : LeafT := fun C N args K => match args with
  | [a0, a1] => slices_IndexFunc_api_MapDef_api_MapDef_e C N a0 a1 K
  | _ => eF
theorem lok57 : LeafOk Tryz.prog 57 l57 := .inl ⟨Tryz.f57, Tryz.f57.body.getD .skip, slices_IndexFunc_api_MapDef_api_MapDef_ea, Tryz.func57, by kernel_rfl, Tryz.call57, fun C N args K H e => by
  unfold l57 at e
  split at e
  · rw [slices_IndexFunc_api_MapDef_api_MapDef_ee]; exact e
  · exact eF_no e⟩

/- halberd/owned.within -/
def owned_within_ea : Ann := .two (.none) (.join (.none) (.none) [(6, .any)])
noncomputable def owned_within_e (C : Cal) (N : Nat) (a0 a1 a2 : SV) (K : SV → ER) : ER :=
  eJoinC (σ := SV × Unit) (fun (k1 : SV × Unit → ER) =>
  eBin Tryz.prog .geq 3 false a0 a1 fun x3 => eIfV x3
  (eBin Tryz.prog .leq 3 false a0 a2 fun x4 => eHas .any x4 (k1 (x4, ())))
  (eHas .any (.bool false) (k1 ((.bool false), ())))) fun (s2 : SV × Unit) =>
  K s2.1
theorem owned_within_ee (C : Cal) (N : Nat) (a0 a1 a2 : SV) (K : SV → ER) : eBody Tryz.prog C N Tryz.f58 (Tryz.f58.body.getD .skip) owned_within_ea [a0, a1, a2] K = owned_within_e C N a0 a1 a2 K := by kernel_rfl
noncomputable def l58 : LeafT := fun C N args K => match args with
  | [a0, a1, a2] => owned_within_e C N a0 a1 a2 K
  | _ => eF
theorem lok58 : LeafOk Tryz.prog 58 l58 := .inl ⟨Tryz.f58, Tryz.f58.body.getD .skip, owned_within_ea, Tryz.func58, by kernel_rfl, Tryz.call58, fun C N args K H e => by
  unfold l58 at e
  split at e
  · rw [owned_within_ee]; exact e
  · exact eF_no e⟩

/- slices.IndexFunc[[]halberd/api.Inst,halberd/api.Inst] -/
def slices_IndexFunc_api_Inst_api_Inst_ea : Ann := .two (.none) (.two (.two (.none) (.sub (.loop [(8, .any)] (.two (.none) (.two (.two (.none) (.none)) (.two (.sub (.two (.none) (.two (.none) (.two (.two (.none) (.none)) (.none))))) (.none))))))) (.two (.none) (.none)))
noncomputable def slices_IndexFunc_api_Inst_api_Inst_p0 (C : Cal) (K : SV → ER) (a0 : SV) (a1 : SV) (k2 : SV × Unit → ER) (s3 : SV × Unit) : ER :=
  eIndexAddrS Tryz.prog 26 a0 s3.1 fun x5 => eLoad Tryz.prog 38 x5 fun x6 => eCallVR Tryz.prog C a1 [x6] 4 fun x7 => eIfV x7
  (K s3.1)
  (eBin Tryz.prog .add 3 false s3.1 (.int .i64 1) fun x8 => eHas .any x8 (k2 (x8, ())))
noncomputable def slices_IndexFunc_api_Inst_api_Inst_e (C : Cal) (N : Nat) (a0 a1 : SV) (K : SV → ER) : ER :=
  eLenS Tryz.prog [26] [a0] fun x1 => eHas .any (.int .i64 0) (eIter (σ := SV × Unit) (fun (s3 : SV × Unit) (k2 : SV × Unit → ER) =>
  eBin Tryz.prog .lss 3 false s3.1 x1 fun x4 => eIfV x4
  (slices_IndexFunc_api_Inst_api_Inst_p0 C K a0 a1 k2 s3)
  (K (.int .i64 (-1)))) N ((.int .i64 0), ()))
theorem slices_IndexFunc_api_Inst_api_Inst_ee (C : Cal) (N : Nat) (a0 a1 : SV) (K : SV → ER) : eBody Tryz.prog C N Tryz.f59 (Tryz.f59.body.getD .skip) slices_IndexFunc_api_Inst_api_Inst_ea [a0, a1] K = slices_IndexFunc_api_Inst_api_Inst_e C N a0 a1 K := by kernel_rfl
noncomputable def l59 : LeafT := fun C N args K => match args with
  | [a0, a1] => slices_IndexFunc_api_Inst_api_Inst_e C N a0 a1 K
  | _ => eF
theorem lok59 : LeafOk Tryz.prog 59 l59 := .inl ⟨Tryz.f59, Tryz.f59.body.getD .skip, slices_IndexFunc_api_Inst_api_Inst_ea, Tryz.func59, by kernel_rfl, Tryz.call59, fun C N args K H e => by
  unfold l59 at e
  split at e
  · rw [slices_IndexFunc_api_Inst_api_Inst_ee]; exact e
  · exact eF_no e⟩

/- halberd/isa.Second -/
def isa_Second_ea : Ann := .two (.none) (.join (.none) (.none) [(4, .any)])
noncomputable def isa_Second_p0 (C : Cal) (a0 : SV) (a1 : SV) (k1 : SV × Unit → ER) : ER :=
  eBin Tryz.prog .sub 3 false a1 (.int .i64 1) fun x14 => eIndexAddrS Tryz.prog 26 a0 x14 fun x15 => eLoad Tryz.prog 38 x15 fun x16 => eCallR Tryz.prog C 61 [x16] 4 fun x17 => eIfV x17
  (eBin Tryz.prog .sub 3 false a1 (.int .i64 1) fun x18 => eCallR Tryz.prog C 60 [a0, x18] 4 fun x19 => eUnS .not x19 fun x20 => eHas .any x20 (k1 (x20, ())))
  (eHas .any (.bool false) (k1 ((.bool false), ())))
noncomputable def isa_Second_p1 (C : Cal) (a0 : SV) (a1 : SV) (k1 : SV × Unit → ER) : ER :=
  eBin Tryz.prog .sub 3 false a1 (.int .i64 1) fun x9 => eIndexAddrS Tryz.prog 26 a0 x9 fun x10 => eFieldAddr Tryz.prog 38 x10 0 fun x11 => eLoad Tryz.prog 5 x11 fun x12 => eBin Tryz.prog .eql 5 false x12 (.int .u8 24) fun x13 => eIfV x13
  (isa_Second_p0 C a0 a1 k1)
  (eHas .any (.bool false) (k1 ((.bool false), ())))
noncomputable def isa_Second_p2 (C : Cal) (a0 : SV) (a1 : SV) (k1 : SV × Unit → ER) : ER :=
  eLenS Tryz.prog [26] [a0] fun x4 => eBin Tryz.prog .lss 3 false a1 x4 fun x5 => eIfV x5
  (eIndexAddrS Tryz.prog 26 a0 a1 fun x6 => eLoad Tryz.prog 38 x6 fun x7 => eCallR Tryz.prog C 79 [x7] 4 fun x8 => eIfV x8
  (isa_Second_p1 C a0 a1 k1)
  (eHas .any (.bool false) (k1 ((.bool false), ()))))
  (eHas .any (.bool false) (k1 ((.bool false), ())))
noncomputable def isa_Second_e (C : Cal) (N : Nat) (a0 a1 : SV) (K : SV → ER) : ER :=
  eJoinC (σ := SV × Unit) (fun (k1 : SV × Unit → ER) =>
  eBin Tryz.prog .gtr 3 false a1 (.int .i64 0) fun x3 => eIfV x3
  (isa_Second_p2 C a0 a1 k1)
  (eHas .any (.bool false) (k1 ((.bool false), ())))) fun (s2 : SV × Unit) =>
  K s2.1
theorem isa_Second_ee (C : Cal) (N : Nat) (a0 a1 : SV) (K : SV → ER) : eBody Tryz.prog C N Tryz.f60 (Tryz.f60.body.getD .skip) isa_Second_ea [a0, a1] K = isa_Second_e C N a0 a1 K := by kernel_rfl
noncomputable def l60 : LeafT := fun C N args K => match args with
  | [a0, a1] => isa_Second_e C N a0 a1 K
  | _ => eF
theorem lok60 : LeafOk Tryz.prog 60 l60 := .inl ⟨Tryz.f60, Tryz.f60.body.getD .skip, isa_Second_ea, Tryz.func60, by kernel_rfl, Tryz.call60, fun C N args K H e => by
  unfold l60 at e
  split at e
  · rw [isa_Second_ee]; exact e
  · exact eF_no e⟩

/- halberd/isa.Right -/
def isa_Right_ea : Ann := .two (.none) (.two (.none) (.join (.none) (.none) [(2, .any)]))
noncomputable def isa_Right_p0 (k8 : SV × Unit → ER) (x1 : SV) (x7 : SV) : ER :=
  eFieldAddr Tryz.prog 136 x7 3 fun x22 => eLoad Tryz.prog 4 x22 fun x23 => eIfV x23
  (eHas .any (.bool true) (k8 ((.bool true), ())))
  (eFieldAddr Tryz.prog 38 x1 4 fun x24 => eLoad Tryz.prog 21 x24 fun x25 => eBin Tryz.prog .eql 21 false x25 (.int .i32 0) fun x26 => eHas .any x26 (k8 (x26, ())))
noncomputable def isa_Right_p1 (k8 : SV × Unit → ER) (x1 : SV) (x7 : SV) : ER :=
  eFieldAddr Tryz.prog 136 x7 3 fun x30 => eLoad Tryz.prog 4 x30 fun x31 => eIfV x31
  (eHas .any (.bool true) (k8 ((.bool true), ())))
  (eFieldAddr Tryz.prog 38 x1 4 fun x32 => eLoad Tryz.prog 21 x32 fun x33 => eBin Tryz.prog .eql 21 false x33 (.int .i32 0) fun x34 => eHas .any x34 (k8 (x34, ())))
noncomputable def isa_Right_p2 (k8 : SV × Unit → ER) (x1 : SV) (x7 : SV) : ER :=
  eFieldAddr Tryz.prog 38 x1 3 fun x27 => eLoad Tryz.prog 35 x27 fun x28 => eBin Tryz.prog .eql 35 false x28 (.int .i16 0) fun x29 => eIfV x29
  (isa_Right_p1 k8 x1 x7)
  (eHas .any (.bool false) (k8 ((.bool false), ())))
noncomputable def isa_Right_p3 (k8 : SV × Unit → ER) (x1 : SV) (x7 : SV) : ER :=
  eFieldAddr Tryz.prog 38 x1 2 fun x15 => eLoad Tryz.prog 5 x15 fun x16 => eFieldAddr Tryz.prog 136 x7 1 fun x17 => eLoad Tryz.prog 5 x17 fun x18 => eBin Tryz.prog .leq 5 false x16 x18 fun x19 => eIfV x19
  (eFieldAddr Tryz.prog 136 x7 2 fun x20 => eLoad Tryz.prog 4 x20 fun x21 => eIfV x21
  (isa_Right_p0 k8 x1 x7)
  (isa_Right_p2 k8 x1 x7))
  (eHas .any (.bool false) (k8 ((.bool false), ())))
noncomputable def isa_Right_p4 (k8 : SV × Unit → ER) (x1 : SV) (x7 : SV) : ER :=
  eFieldAddr Tryz.prog 38 x1 1 fun x10 => eLoad Tryz.prog 5 x10 fun x11 => eFieldAddr Tryz.prog 136 x7 0 fun x12 => eLoad Tryz.prog 5 x12 fun x13 => eBin Tryz.prog .leq 5 false x11 x13 fun x14 => eIfV x14
  (isa_Right_p3 k8 x1 x7)
  (eHas .any (.bool false) (k8 ((.bool false), ())))
noncomputable def isa_Right_e (C : Cal) (N : Nat) (a0 : SV) (K : SV → ER) : ER :=
  eBox Tryz.prog 38 a0 fun x1 => eFieldAddr Tryz.prog 38 x1 0 fun x2 => eLoad Tryz.prog 5 x2 fun x3 => eCallR Tryz.prog C 80 [x3] 137 fun x4 => eExtract x4 0 fun x5 => eExtract x4 1 fun x6 => eAlloc Tryz.prog 136 fun x7 => eStore Tryz.prog 136 x7 x5 <| eJoinC (σ := SV × Unit) (fun (k8 : SV × Unit → ER) =>
  eIfV x6
  (isa_Right_p4 k8 x1 x7)
  (eHas .any (.bool false) (k8 ((.bool false), ())))) fun (s9 : SV × Unit) =>
  K s9.1
theorem isa_Right_ee (C : Cal) (N : Nat) (a0 : SV) (K : SV → ER) : eBody Tryz.prog C N Tryz.f61 (Tryz.f61.body.getD .skip) isa_Right_ea [a0] K = isa_Right_e C N a0 K := by kernel_rfl
noncomputable def l61 : LeafT := fun C N args K => match args with
  | [a0] => isa_Right_e C N a0 K
  | _ => eF
theorem lok61 : LeafOk Tryz.prog 61 l61 := .inl ⟨Tryz.f61, Tryz.f61.body.getD .skip, isa_Right_ea, Tryz.func61, by kernel_rfl, Tryz.call61, fun C N args K H e => by
  unfold l61 at e
  split at e
  · rw [isa_Right_ee]; exact e
  · exact eF_no e⟩

end Go.Proofs.YtjafpcagfgklgaaGreatDoor

set_option linter.unusedVariables false
set_option maxRecDepth 100000
namespace Go.Proofs.YtjafpcagfgklgaaGreatDoor
open Go.Hl
/- halberd/inst.Wide -/
def inst_Wide_ea : Ann := .two (.none) (.two (.none) (.none))
noncomputable def inst_Wide_e (C : Cal) (N : Nat) (a0 a1 : SV) (K : SV → ER) : ER :=
  eBox Tryz.prog 38 a0 fun x1 => eBox Tryz.prog 38 a1 fun x2 => eFieldAddr Tryz.prog 38 x1 4 fun x3 => eLoad Tryz.prog 21 x3 fun x4 => eConvS Tryz.prog 21 139 x4 fun x5 => eConvS Tryz.prog 139 23 x5 fun x6 => eFieldAddr Tryz.prog 38 x2 4 fun x7 => eLoad Tryz.prog 21 x7 fun x8 => eConvS Tryz.prog 21 139 x8 fun x9 => eConvS Tryz.prog 139 23 x9 fun x10 => eBin Tryz.prog .shl 23 false x10 (.int .u64 32) fun x11 => eBin Tryz.prog .or 23 false x6 x11 fun x12 => K x12
theorem inst_Wide_ee (C : Cal) (N : Nat) (a0 a1 : SV) (K : SV → ER) : eBody Tryz.prog C N Tryz.f62 (Tryz.f62.body.getD .skip) inst_Wide_ea [a0, a1] K = inst_Wide_e C N a0 a1 K := by kernel_rfl
noncomputable def l62 : LeafT := fun C N args K => match args with
  | [a0, a1] => inst_Wide_e C N a0 a1 K
  | _ => eF
theorem lok62 : LeafOk Tryz.prog 62 l62 := .inl ⟨Tryz.f62, Tryz.f62.body.getD .skip, inst_Wide_ea, Tryz.func62, by kernel_rfl, Tryz.call62, fun C N args K H e => by
  unfold l62 at e
  split at e
  · rw [inst_Wide_ee]; exact e
  · exact eF_no e⟩

/- halberd/isa.IsJump -/
def isa_IsJump_ea : Ann := .two (.none) (.two (.ord [0, 3, 1, 2, 6, 4, 5, 7]) (.join (.none) (.none) [(2, .any)]))
noncomputable def isa_IsJump_p0 (C : Cal) (k8 : SV × Unit → ER) (x5 : SV) (x7 : SV) : ER :=
  eBin Tryz.prog .eql 5 false x5 (.int .u8 5) fun x15 => eIfV x15
  (eCallR Tryz.prog C 81 [x7] 4 fun x16 => eHas .any x16 (k8 (x16, ())))
  (eBin Tryz.prog .eql 5 false x5 (.int .u8 6) fun x17 => eIfV x17
  (eCallR Tryz.prog C 81 [x7] 4 fun x18 => eHas .any x18 (k8 (x18, ())))
  (eHas .any (.bool false) (k8 ((.bool false), ()))))
noncomputable def isa_IsJump_p1 (C : Cal) (k8 : SV × Unit → ER) (x1 : SV) (x5 : SV) (x7 : SV) : ER :=
  eFieldAddr Tryz.prog 38 x1 0 fun x11 => eLoad Tryz.prog 5 x11 fun x12 => eBin Tryz.prog .and 5 false x12 (.int .u8 248) fun x13 => eBin Tryz.prog .eql 5 false x13 (.int .u8 0) fun x14 => eIfV x14
  (eHas .any (.bool true) (k8 ((.bool true), ())))
  (isa_IsJump_p0 C k8 x5 x7)
noncomputable def isa_IsJump_p2 (C : Cal) (k8 : SV × Unit → ER) (x5 : SV) (x7 : SV) : ER :=
  eBin Tryz.prog .eql 5 false x5 (.int .u8 5) fun x19 => eIfV x19
  (eCallR Tryz.prog C 81 [x7] 4 fun x20 => eHas .any x20 (k8 (x20, ())))
  (eBin Tryz.prog .eql 5 false x5 (.int .u8 6) fun x21 => eIfV x21
  (eCallR Tryz.prog C 81 [x7] 4 fun x22 => eHas .any x22 (k8 (x22, ())))
  (eHas .any (.bool false) (k8 ((.bool false), ()))))
noncomputable def isa_IsJump_e (C : Cal) (N : Nat) (a0 : SV) (K : SV → ER) : ER :=
  eBox Tryz.prog 38 a0 fun x1 => eFieldAddr Tryz.prog 38 x1 0 fun x2 => eFieldAddr Tryz.prog 38 x1 0 fun x3 => eLoad Tryz.prog 5 x2 fun x4 => eBin Tryz.prog .and 5 false x4 (.int .u8 7) fun x5 => eLoad Tryz.prog 5 x3 fun x6 => eBin Tryz.prog .and 5 false x6 (.int .u8 240) fun x7 => eJoinC (σ := SV × Unit) (fun (k8 : SV × Unit → ER) =>
  eBin Tryz.prog .eql 5 false x5 (.int .u8 5) fun x10 => eIfV x10
  (isa_IsJump_p1 C k8 x1 x5 x7)
  (isa_IsJump_p2 C k8 x5 x7)) fun (s9 : SV × Unit) =>
  K s9.1
theorem isa_IsJump_ee (C : Cal) (N : Nat) (a0 : SV) (K : SV → ER) : eBody Tryz.prog C N Tryz.f63 (Tryz.f63.body.getD .skip) isa_IsJump_ea [a0] K = isa_IsJump_e C N a0 K := by kernel_rfl
noncomputable def l63 : LeafT := fun C N args K => match args with
  | [a0] => isa_IsJump_e C N a0 K
  | _ => eF
theorem lok63 : LeafOk Tryz.prog 63 l63 := .inl ⟨Tryz.f63, Tryz.f63.body.getD .skip, isa_IsJump_ea, Tryz.func63, by kernel_rfl, Tryz.call63, fun C N args K H e => by
  unfold l63 at e
  split at e
  · rw [isa_IsJump_ee]; exact e
  · exact eF_no e⟩

/- (*halberd/verify.check).wide -/
def verify_check_wide_ea : Ann := .two (.none) (.two (.ord [0, 1, 2, 3, 4, 7, 8, 9, 11, 12, 13, 14, 5, 6, 10, 15, 16, 17, 18, 19, 20, 21]) (.none))
noncomputable def verify_check_wide_p0 (C : Cal) (K : SV → ER) (a0 : SV) (x1 : SV) (x4 : SV) (x5 : SV) : ER :=
  eFieldAddr Tryz.prog 77 x5 0 fun x6 => eNilCk a0 fun x7 => eFieldAddr Tryz.prog 77 x7 4 fun x8 => eFieldAddr Tryz.prog 74 x8 1 fun x9 => eLoad Tryz.prog 71 x4 fun x10 => eLoad Tryz.prog 38 x1 fun x11 => eLoad Tryz.prog 26 x6 fun x12 => eLoad Tryz.prog 3 x9 fun x13 => eBin Tryz.prog .add 3 false x13 (.int .i64 1) fun x14 => eIndexAddrS Tryz.prog 26 x12 x14 fun x15 => eLoad Tryz.prog 38 x15 fun x16 => eCallR Tryz.prog C 83 [x10, x11, x16] 71 fun x17 => eCallR Tryz.prog C 82 [a0, x17, (.bool true), (.int .i64 2)] 4 fun x18 => K x18
noncomputable def verify_check_wide_e (C : Cal) (N : Nat) (a0 a1 : SV) (K : SV → ER) : ER :=
  eBox Tryz.prog 38 a1 fun x1 => eNilCk a0 fun x2 => eFieldAddr Tryz.prog 77 x2 4 fun x3 => eFieldAddr Tryz.prog 74 x3 0 fun x4 => eNilCk a0 fun x5 => verify_check_wide_p0 C K a0 x1 x4 x5
theorem verify_check_wide_ee (C : Cal) (N : Nat) (a0 a1 : SV) (K : SV → ER) : eBody Tryz.prog C N Tryz.f64 (Tryz.f64.body.getD .skip) verify_check_wide_ea [a0, a1] K = verify_check_wide_e C N a0 a1 K := by kernel_rfl
noncomputable def l64 : LeafT := fun C N args K => match args with
  | [a0, a1] => verify_check_wide_e C N a0 a1 K
  | _ => eF
theorem lok64 : LeafOk Tryz.prog 64 l64 := .inl ⟨Tryz.f64, Tryz.f64.body.getD .skip, verify_check_wide_ea, Tryz.func64, by kernel_rfl, Tryz.call64, fun C N args K H e => by
  unfold l64 at e
  split at e
  · rw [verify_check_wide_ee]; exact e
  · exact eF_no e⟩

/- (*halberd/verify.check).load -/
def verify_check_load_ea : Ann := .two (.none) (.two (.ord [0, 1, 2, 3, 6, 7, 8, 10, 11, 12, 4, 5, 9, 13, 14, 15, 16, 17, 18, 19, 20]) (.two (.none) (.none)))
noncomputable def verify_check_load_p0 (C : Cal) (K : SV → ER) (a0 : SV) (x1 : SV) (x4 : SV) (x5 : SV) : ER :=
  eFieldAddr Tryz.prog 77 x5 1 fun x6 => eNilCk a0 fun x7 => eFieldAddr Tryz.prog 77 x7 2 fun x8 => eLoad Tryz.prog 71 x4 fun x9 => eLoad Tryz.prog 38 x1 fun x10 => eLoad Tryz.prog 3 x6 fun x11 => eLoad Tryz.prog 51 x8 fun x12 => eCallR Tryz.prog C 84 [x9, x10, x11, x12] 143 fun x13 => eExtract x13 0 fun x14 => eExtract x13 1 fun x15 => eAlloc Tryz.prog 71 fun x16 => eStore Tryz.prog 71 x16 x14 <| eLoad Tryz.prog 71 x16 fun x17 => eCallR Tryz.prog C 82 [a0, x17, x15, (.int .i64 1)] 4 fun x18 => K x18
noncomputable def verify_check_load_e (C : Cal) (N : Nat) (a0 a1 : SV) (K : SV → ER) : ER :=
  eBox Tryz.prog 38 a1 fun x1 => eNilCk a0 fun x2 => eFieldAddr Tryz.prog 77 x2 4 fun x3 => eFieldAddr Tryz.prog 74 x3 0 fun x4 => eNilCk a0 fun x5 => verify_check_load_p0 C K a0 x1 x4 x5
theorem verify_check_load_ee (C : Cal) (N : Nat) (a0 a1 : SV) (K : SV → ER) : eBody Tryz.prog C N Tryz.f65 (Tryz.f65.body.getD .skip) verify_check_load_ea [a0, a1] K = verify_check_load_e C N a0 a1 K := by kernel_rfl
noncomputable def l65 : LeafT := fun C N args K => match args with
  | [a0, a1] => verify_check_load_e C N a0 a1 K
  | _ => eF
theorem lok65 : LeafOk Tryz.prog 65 l65 := .inl ⟨Tryz.f65, Tryz.f65.body.getD .skip, verify_check_load_ea, Tryz.func65, by kernel_rfl, Tryz.call65, fun C N args K H e => by
  unfold l65 at e
  split at e
  · rw [verify_check_load_ee]; exact e
  · exact eF_no e⟩

/- (*halberd/verify.check).store -/
def verify_check_store_ea : Ann := .two (.none) (.two (.ord [0, 1, 2, 3, 6, 7, 8, 4, 5, 9, 10, 11, 12, 13, 14, 15, 16]) (.two (.none) (.none)))
noncomputable def verify_check_store_p0 (C : Cal) (K : SV → ER) (a0 : SV) (x1 : SV) (x2 : SV) : ER :=
  eFieldAddr Tryz.prog 77 x2 4 fun x3 => eFieldAddr Tryz.prog 74 x3 0 fun x4 => eNilCk a0 fun x5 => eFieldAddr Tryz.prog 77 x5 2 fun x6 => eLoad Tryz.prog 71 x4 fun x7 => eLoad Tryz.prog 38 x1 fun x8 => eLoad Tryz.prog 51 x6 fun x9 => eCallR Tryz.prog C 85 [x7, x8, x9] 143 fun x10 => eExtract x10 0 fun x11 => eExtract x10 1 fun x12 => eAlloc Tryz.prog 71 fun x13 => eStore Tryz.prog 71 x13 x11 <| eLoad Tryz.prog 71 x13 fun x14 => eCallR Tryz.prog C 82 [a0, x14, x12, (.int .i64 1)] 4 fun x15 => K x15
noncomputable def verify_check_store_e (C : Cal) (N : Nat) (a0 a1 : SV) (K : SV → ER) : ER :=
  eBox Tryz.prog 38 a1 fun x1 => eNilCk a0 fun x2 => verify_check_store_p0 C K a0 x1 x2
theorem verify_check_store_ee (C : Cal) (N : Nat) (a0 a1 : SV) (K : SV → ER) : eBody Tryz.prog C N Tryz.f66 (Tryz.f66.body.getD .skip) verify_check_store_ea [a0, a1] K = verify_check_store_e C N a0 a1 K := by kernel_rfl
noncomputable def l66 : LeafT := fun C N args K => match args with
  | [a0, a1] => verify_check_store_e C N a0 a1 K
  | _ => eF
theorem lok66 : LeafOk Tryz.prog 66 l66 := .inl ⟨Tryz.f66, Tryz.f66.body.getD .skip, verify_check_store_ea, Tryz.func66, by kernel_rfl, Tryz.call66, fun C N args K H e => by
  unfold l66 at e
  split at e
  · rw [verify_check_store_ee]; exact e
  · exact eF_no e⟩

/- (*halberd/verify.check).operation -/
def verify_check_operation_ea : Ann := .two (.none) (.two (.ord [0, 1, 2, 3, 4, 5, 6, 7, 8, 9, 10, 11, 12]) (.two (.none) (.none)))
noncomputable def verify_check_operation_e (C : Cal) (N : Nat) (a0 a1 : SV) (K : SV → ER) : ER :=
  eBox Tryz.prog 38 a1 fun x1 => eNilCk a0 fun x2 => eFieldAddr Tryz.prog 77 x2 4 fun x3 => eFieldAddr Tryz.prog 74 x3 0 fun x4 => eLoad Tryz.prog 71 x4 fun x5 => eLoad Tryz.prog 38 x1 fun x6 => eCallR Tryz.prog C 86 [x5, x6] 143 fun x7 => eExtract x7 0 fun x8 => eExtract x7 1 fun x9 => eAlloc Tryz.prog 71 fun x10 => eStore Tryz.prog 71 x10 x8 <| eLoad Tryz.prog 71 x10 fun x11 => eCallR Tryz.prog C 82 [a0, x11, x9, (.int .i64 1)] 4 fun x12 => K x12
theorem verify_check_operation_ee (C : Cal) (N : Nat) (a0 a1 : SV) (K : SV → ER) : eBody Tryz.prog C N Tryz.f67 (Tryz.f67.body.getD .skip) verify_check_operation_ea [a0, a1] K = verify_check_operation_e C N a0 a1 K := by kernel_rfl
noncomputable def l67 : LeafT := fun C N args K => match args with
  | [a0, a1] => verify_check_operation_e C N a0 a1 K
  | _ => eF
theorem lok67 : LeafOk Tryz.prog 67 l67 := .inl ⟨Tryz.f67, Tryz.f67.body.getD .skip, verify_check_operation_ea, Tryz.func67, by kernel_rfl, Tryz.call67, fun C N args K H e => by
  unfold l67 at e
  split at e
  · rw [verify_check_operation_ee]; exact e
  · exact eF_no e⟩

/- (*halberd/verify.check).jump -/
def verify_check_jump_ea : Ann := .two (.none) (.two (.two (.none) (.sub (.two (.none) (.two (.two (.ord [0, 1, 2, 3, 4, 6, 5, 7, 8, 9, 10, 11]) (.none)) (.two (.none) (.two (.two (.none) (.two (.ord [0, 1, 2, 3, 5, 6, 7, 4, 8, 9, 10]) (.none))) (.two (.none) (.two (.two (.ord [0, 1, 2, 3, 5, 8, 9, 10, 4, 6, 7, 11, 12, 13, 14, 15, 16, 17, 18]) (.two (.none) (.none))) (.none))))))))) (.two (.ord [0, 1, 2, 3, 4, 5, 6, 7, 8, 9, 10, 11, 12, 13, 14]) (.two (.ord [0, 1, 2, 3, 4, 5, 6, 7, 8, 9, 10, 11, 12, 13, 14]) (.two (.join (.none) (.two (.two (.none) (.none)) (.none)) [(92, .any)]) (.join (.two (.none) (.two (.ord [0, 1, 2, 3, 6, 7, 8, 9, 12, 4, 5, 10, 11, 13, 14, 15, 16, 17, 18, 19, 20, 21]) (.none))) (.two (.two (.none) (.two (.two (.none) (.two (.none) (.none))) (.none))) (.two (.none) (.none))) [])))))
noncomputable def verify_check_jump_p0 (C : Cal) (K : SV → ER) (a0 : SV) (x1 : SV) : ER :=
  eNilCk a0 fun x5 => eFieldAddr Tryz.prog 77 x5 4 fun x6 => eFieldAddr Tryz.prog 74 x6 0 fun x7 => eFieldAddr Tryz.prog 38 x1 3 fun x8 => eLoad Tryz.prog 71 x7 fun x9 => eLoad Tryz.prog 35 x8 fun x10 => eConvS Tryz.prog 35 3 x10 fun x11 => eBin Tryz.prog .add 3 false (.int .i64 1) x11 fun x12 => eCallR Tryz.prog C 82 [a0, x9, (.bool true), x12] 4 fun x13 => K x13
noncomputable def verify_check_jump_p1 (C : Cal) (K : SV → ER) (a0 : SV) : ER :=
  eNilCk a0 fun x15 => eFieldAddr Tryz.prog 77 x15 5 fun x16 => eStore Tryz.prog 4 x16 (.bool true) <| eNilCk a0 fun x17 => eFieldAddr Tryz.prog 77 x17 4 fun x18 => eFieldAddr Tryz.prog 74 x18 0 fun x19 => eNilCk a0 fun x20 => eFieldAddr Tryz.prog 77 x20 1 fun x21 => eLoad Tryz.prog 71 x19 fun x22 => eLoad Tryz.prog 3 x21 fun x23 => eCallR Tryz.prog C 87 [x22, x23] 4 fun x24 => K x24
noncomputable def verify_check_jump_p2 (C : Cal) (K : SV → ER) (a0 : SV) (x1 : SV) (x28 : SV) : ER :=
  eFieldAddr Tryz.prog 38 x1 4 fun x29 => eNilCk a0 fun x30 => eFieldAddr Tryz.prog 77 x30 2 fun x31 => eLoad Tryz.prog 71 x28 fun x32 => eLoad Tryz.prog 21 x29 fun x33 => eConvS Tryz.prog 21 3 x33 fun x34 => eLoad Tryz.prog 51 x31 fun x35 => eCallR Tryz.prog C 88 [x32, x34, x35] 143 fun x36 => eExtract x36 0 fun x37 => eExtract x36 1 fun x38 => eAlloc Tryz.prog 71 fun x39 => eStore Tryz.prog 71 x39 x37 <| eLoad Tryz.prog 71 x39 fun x40 => eCallR Tryz.prog C 82 [a0, x40, x38, (.int .i64 1)] 4 fun x41 => K x41
noncomputable def verify_check_jump_p3 (a0 : SV) (k66 : Unit → ER) (x51 : SV) (x69 : SV) (x72 : SV) (x73 : SV) : ER :=
  eLoad Tryz.prog 75 x69 fun x74 => eLoad Tryz.prog 71 x51 fun x75 => eLoad Tryz.prog 3 x72 fun x76 => eBin Tryz.prog .add 3 false x76 (.int .i64 1) fun x77 => eLoad Tryz.prog 35 x73 fun x78 => eConvS Tryz.prog 35 3 x78 fun x79 => eBin Tryz.prog .add 3 false x77 x79 fun x80 => eBuild Tryz.prog 74 [(0, x75), (1, x80)] fun x81 => eBuildSlice Tryz.prog 75 1 [(0, x81)] fun x82 => eApp Tryz.prog [75, 75] [x74, x82] fun x83 => eNilCk a0 fun x84 => eFieldAddr Tryz.prog 77 x84 3 fun x85 => eStore Tryz.prog 75 x85 x83 <| k66 (())
noncomputable def verify_check_jump_p4 (a0 : SV) (x1 : SV) (k66 : Unit → ER) (x51 : SV) : ER :=
  eNilCk a0 fun x68 => eFieldAddr Tryz.prog 77 x68 3 fun x69 => eNilCk a0 fun x70 => eFieldAddr Tryz.prog 77 x70 4 fun x71 => eFieldAddr Tryz.prog 74 x71 1 fun x72 => eFieldAddr Tryz.prog 38 x1 3 fun x73 => verify_check_jump_p3 a0 k66 x51 x69 x72 x73
noncomputable def verify_check_jump_p5 (C : Cal) (K : SV → ER) (a0 : SV) (x59 : SV) (x61 : SV) : ER :=
  eUnS .not x59 fun x86 => eIfV x86
  (eNilCk a0 fun x87 => eFieldAddr Tryz.prog 77 x87 5 fun x88 => eStore Tryz.prog 4 x88 (.bool true) <| K (.bool true))
  (eLoad Tryz.prog 71 x61 fun x89 => eCallR Tryz.prog C 82 [a0, x89, (.bool true), (.int .i64 1)] 4 fun x90 => K x90)
noncomputable def verify_check_jump_p6 (C : Cal) (K : SV → ER) (a0 : SV) (x1 : SV) (x49 : SV) (x50 : SV) (x51 : SV) (x57 : SV) (x58 : SV) : ER :=
  eExtract x57 1 fun x59 => eExtract x57 2 fun x60 => eAlloc Tryz.prog 71 fun x61 => eStore Tryz.prog 71 x61 x58 <| eJoinC (σ := SV × Unit) (fun (k62 : SV × Unit → ER) =>
  eUnS .not x50 fun x64 => eIfV x64
  (eHas .any (.bool true) (k62 ((.bool true), ())))
  (eUnS .not x60 fun x65 => eHas .any x65 (k62 (x65, ())))) fun (s63 : SV × Unit) =>
  eIfV s63.1
  (K (.bool false))
  (eJoinC (σ := Unit) (fun (k66 : Unit → ER) =>
  eIfV x49
  (verify_check_jump_p4 a0 x1 k66 x51)
  (k66 (()))) fun (s67 : Unit) =>
  verify_check_jump_p5 C K a0 x59 x61)
noncomputable def verify_check_jump_p7 (C : Cal) (K : SV → ER) (a0 : SV) (x1 : SV) (x45 : SV) (x46 : SV) : ER :=
  eCallR Tryz.prog C 89 [x45, x46, (.bool true)] 149 fun x47 => eExtract x47 0 fun x48 => eExtract x47 1 fun x49 => eExtract x47 2 fun x50 => eAlloc Tryz.prog 71 fun x51 => eStore Tryz.prog 71 x51 x48 <| eNilCk a0 fun x52 => eFieldAddr Tryz.prog 77 x52 4 fun x53 => eFieldAddr Tryz.prog 74 x53 0 fun x54 => eLoad Tryz.prog 71 x54 fun x55 => eLoad Tryz.prog 38 x1 fun x56 => eCallR Tryz.prog C 89 [x55, x56, (.bool false)] 149 fun x57 => eExtract x57 0 fun x58 => verify_check_jump_p6 C K a0 x1 x49 x50 x51 x57 x58
noncomputable def verify_check_jump_p8 (C : Cal) (K : SV → ER) (a0 : SV) (x1 : SV) : ER :=
  eNilCk a0 fun x42 => eFieldAddr Tryz.prog 77 x42 4 fun x43 => eFieldAddr Tryz.prog 74 x43 0 fun x44 => eLoad Tryz.prog 71 x44 fun x45 => eLoad Tryz.prog 38 x1 fun x46 => verify_check_jump_p7 C K a0 x1 x45 x46
noncomputable def verify_check_jump_p9 (C : Cal) (K : SV → ER) (a0 : SV) (x1 : SV) (x3 : SV) : ER :=
  eBin Tryz.prog .eql 5 false x3 (.int .u8 133) fun x25 => eIfV x25
  (eNilCk a0 fun x26 => eFieldAddr Tryz.prog 77 x26 4 fun x27 => eFieldAddr Tryz.prog 74 x27 0 fun x28 => verify_check_jump_p2 C K a0 x1 x28)
  (verify_check_jump_p8 C K a0 x1)
noncomputable def verify_check_jump_e (C : Cal) (N : Nat) (a0 a1 : SV) (K : SV → ER) : ER :=
  eBox Tryz.prog 38 a1 fun x1 => eFieldAddr Tryz.prog 38 x1 0 fun x2 => eLoad Tryz.prog 5 x2 fun x3 => eBin Tryz.prog .eql 5 false x3 (.int .u8 5) fun x4 => eIfV x4
  (verify_check_jump_p0 C K a0 x1)
  (eBin Tryz.prog .eql 5 false x3 (.int .u8 149) fun x14 => eIfV x14
  (verify_check_jump_p1 C K a0)
  (verify_check_jump_p9 C K a0 x1 x3))
theorem verify_check_jump_ee (C : Cal) (N : Nat) (a0 a1 : SV) (K : SV → ER) : eBody Tryz.prog C N Tryz.f68 (Tryz.f68.body.getD .skip) verify_check_jump_ea [a0, a1] K = verify_check_jump_e C N a0 a1 K := by kernel_rfl
noncomputable def l68 : LeafT := fun C N args K => match args with
  | [a0, a1] => verify_check_jump_e C N a0 a1 K
  | _ => eF
theorem lok68 : LeafOk Tryz.prog 68 l68 := .inl ⟨Tryz.f68, Tryz.f68.body.getD .skip, verify_check_jump_ea, Tryz.func68, by kernel_rfl, Tryz.call68, fun C N args K H e => by
  unfold l68 at e
  split at e
  · rw [verify_check_jump_ee]; exact e
  · exact eF_no e⟩

/- unicode/utf8.RuneCountInString -/
def unicode_utf8_RuneCountInString_ea : Ann := .two (.none) (.two (.two (.none) (.sub (.loop [(2, .any)] (.two (.none) (.two (.two (.none) (.none)) (.sub (.none))))))) (.two (.none) (.none)))
noncomputable def unicode_utf8_RuneCountInString_e (C : Cal) (N : Nat) (a0 : SV) (K : SV → ER) : ER :=
  eRange Tryz.prog 9 a0 fun x1 => eHas .any (.int .i64 0) (eIter (σ := SV × Unit) (fun (s3 : SV × Unit) (k2 : SV × Unit → ER) =>
  eNextV x1 (fun a4 c5 => eBin Tryz.prog .add 3 false s3.1 (.int .i64 1) fun x6 => eHas .any x6 (k2 (x6, ())))
  (K s3.1)) N ((.int .i64 0), ()))
theorem unicode_utf8_RuneCountInString_ee (C : Cal) (N : Nat) (a0 : SV) (K : SV → ER) : eBody Tryz.prog C N Tryz.f69 (Tryz.f69.body.getD .skip) unicode_utf8_RuneCountInString_ea [a0] K = unicode_utf8_RuneCountInString_e C N a0 K := by kernel_rfl
noncomputable def l69 : LeafT := fun C N args K => match args with
  | [a0] => unicode_utf8_RuneCountInString_e C N a0 K
  | _ => eF
theorem lok69 : LeafOk Tryz.prog 69 l69 := .inl ⟨Tryz.f69, Tryz.f69.body.getD .skip, unicode_utf8_RuneCountInString_ea, Tryz.func69, by kernel_rfl, Tryz.call69, fun C N args K H e => by
  unfold l69 at e
  split at e
  · rw [unicode_utf8_RuneCountInString_ee]; exact e
  · exact eF_no e⟩

end Go.Proofs.YtjafpcagfgklgaaGreatDoor

set_option linter.unusedVariables false
set_option maxRecDepth 100000
namespace Go.Proofs.YtjafpcagfgklgaaGreatDoor
open Go.Hl
/- unicode/utf8.DecodeRuneInString -/
def unicode_utf8_DecodeRuneInString_ea : Ann := .two (.none) (.two (.join (.none) (.two (.two (.none) (.none)) (.none)) [(10, .any)]) (.none))
noncomputable def unicode_utf8_DecodeRuneInString_p0 (a0 : SV) (k1 : SV × Unit → ER) : ER :=
  eBin Tryz.prog .neq 9 false a0 (.str []) fun x3 => eIfV x3
  (eIndexS Tryz.prog 9 a0 (.int .i64 0) fun x4 => eBin Tryz.prog .lss 5 false x4 (.int .u8 128) fun x5 => eHas .any x5 (k1 (x5, ())))
  (eHas .any (.bool false) (k1 ((.bool false), ())))
noncomputable def unicode_utf8_DecodeRuneInString_p1 (C : Cal) (K : SV → ER) (a0 : SV) (s2 : SV × Unit) : ER :=
  eIfV s2.1
  (eIndexS Tryz.prog 9 a0 (.int .i64 0) fun x6 => eConvS Tryz.prog 5 21 x6 fun x7 => K (.tup [x7, (.int .i64 1)]))
  (eCallR Tryz.prog C 90 [a0] 129 fun x8 => eExtract x8 0 fun x9 => eExtract x8 1 fun x10 => K (.tup [x9, x10]))
noncomputable def unicode_utf8_DecodeRuneInString_e (C : Cal) (N : Nat) (a0 : SV) (K : SV → ER) : ER :=
  eJoinC (σ := SV × Unit) (fun (k1 : SV × Unit → ER) =>
  unicode_utf8_DecodeRuneInString_p0 a0 k1) fun (s2 : SV × Unit) =>
  unicode_utf8_DecodeRuneInString_p1 C K a0 s2
theorem unicode_utf8_DecodeRuneInString_ee (C : Cal) (N : Nat) (a0 : SV) (K : SV → ER) : eBody Tryz.prog C N Tryz.f70 (Tryz.f70.body.getD .skip) unicode_utf8_DecodeRuneInString_ea [a0] K = unicode_utf8_DecodeRuneInString_e C N a0 K := by kernel_rfl
noncomputable def l70 : LeafT := fun C N args K => match args with
  | [a0] => unicode_utf8_DecodeRuneInString_e C N a0 K
  | _ => eF
theorem lok70 : LeafOk Tryz.prog 70 l70 := .inl ⟨Tryz.f70, Tryz.f70.body.getD .skip, unicode_utf8_DecodeRuneInString_ea, Tryz.func70, by kernel_rfl, Tryz.call70, fun C N args K H e => by
  unfold l70 at e
  split at e
  · rw [unicode_utf8_DecodeRuneInString_ee]; exact e
  · exact eF_no e⟩

/- internal/stringslite.CutPrefix -/
def internal_stringslite_CutPrefix_ea : Ann := .two (.none) (.two (.two (.none) (.two (.two (.none) (.none)) (.none))) (.two (.none) (.none)))
noncomputable def internal_stringslite_CutPrefix_e (C : Cal) (N : Nat) (a0 a1 : SV) (K : SV → ER) : ER :=
  eCallR Tryz.prog C 95 [a0, a1] 4 fun x1 => eUnS .not x1 fun x2 => eIfV x2
  (K (.tup [a0, (.bool false)]))
  (eLenS Tryz.prog [9] [a1] fun x3 => eSliceS Tryz.prog 9 a0 (some (.v x3)) none none fun x4 => K (.tup [x4, (.bool true)]))
theorem internal_stringslite_CutPrefix_ee (C : Cal) (N : Nat) (a0 a1 : SV) (K : SV → ER) : eBody Tryz.prog C N Tryz.f73 (Tryz.f73.body.getD .skip) internal_stringslite_CutPrefix_ea [a0, a1] K = internal_stringslite_CutPrefix_e C N a0 a1 K := by kernel_rfl
noncomputable def l73 : LeafT := fun C N args K => match args with
  | [a0, a1] => internal_stringslite_CutPrefix_e C N a0 a1 K
  | _ => eF
theorem lok73 : LeafOk Tryz.prog 73 l73 := .inl ⟨Tryz.f73, Tryz.f73.body.getD .skip, internal_stringslite_CutPrefix_ea, Tryz.func73, by kernel_rfl, Tryz.call73, fun C N args K H e => by
  unfold l73 at e
  split at e
  · rw [internal_stringslite_CutPrefix_ee]; exact e
  · exact eF_no e⟩

/- strconv.toError -/
def strconv_toError_ea : Ann := .two (.none) (.two (.two (.none) (.sub (.two (.none) (.two (.two (.none) (.none)) (.two (.none) (.two (.two (.none) (.none)) (.two (.none) (.two (.two (.none) (.none)) (.two (.none) (.two (.two (.none) (.none)) (.none))))))))))) (.two (.none) (.none)))
noncomputable def strconv_toError_p0 (C : Cal) (K : SV → ER) (a0 : SV) (a1 : SV) (a3 : SV) (a4 : SV) : ER :=
  eMakeIface Tryz.prog 152 (.int .i64 4) fun x13 => eBin Tryz.prog .eql 112 false a4 x13 fun x14 => eIfV x14
  (eCallR Tryz.prog C 100 [a0, a1, a3] 155 fun x15 => eMakeIface Tryz.prog 155 x15 fun x16 => K x16)
  (K a4)
noncomputable def strconv_toError_p1 (C : Cal) (K : SV → ER) (a0 : SV) (a1 : SV) (a2 : SV) (a3 : SV) (a4 : SV) : ER :=
  eMakeIface Tryz.prog 152 (.int .i64 3) fun x9 => eBin Tryz.prog .eql 112 false a4 x9 fun x10 => eIfV x10
  (eCallR Tryz.prog C 99 [a0, a1, a2] 155 fun x11 => eMakeIface Tryz.prog 155 x11 fun x12 => K x12)
  (strconv_toError_p0 C K a0 a1 a3 a4)
noncomputable def strconv_toError_p2 (C : Cal) (K : SV → ER) (a0 : SV) (a1 : SV) (a2 : SV) (a3 : SV) (a4 : SV) : ER :=
  eMakeIface Tryz.prog 152 (.int .i64 1) fun x5 => eBin Tryz.prog .eql 112 false a4 x5 fun x6 => eIfV x6
  (eCallR Tryz.prog C 98 [a0, a1] 155 fun x7 => eMakeIface Tryz.prog 155 x7 fun x8 => K x8)
  (strconv_toError_p1 C K a0 a1 a2 a3 a4)
noncomputable def strconv_toError_e (C : Cal) (N : Nat) (a0 a1 a2 a3 a4 : SV) (K : SV → ER) : ER :=
  eMakeIface Tryz.prog 152 (.int .i64 2) fun x1 => eBin Tryz.prog .eql 112 false a4 x1 fun x2 => eIfV x2
  (eCallR Tryz.prog C 97 [a0, a1] 155 fun x3 => eMakeIface Tryz.prog 155 x3 fun x4 => K x4)
  (strconv_toError_p2 C K a0 a1 a2 a3 a4)
theorem strconv_toError_ee (C : Cal) (N : Nat) (a0 a1 a2 a3 a4 : SV) (K : SV → ER) : eBody Tryz.prog C N Tryz.f75 (Tryz.f75.body.getD .skip) strconv_toError_ea [a0, a1, a2, a3, a4] K = strconv_toError_e C N a0 a1 a2 a3 a4 K := by kernel_rfl
noncomputable def l75 : LeafT := fun C N args K => match args with
  | [a0, a1, a2, a3, a4] => strconv_toError_e C N a0 a1 a2 a3 a4 K
  | _ => eF
theorem lok75 : LeafOk Tryz.prog 75 l75 := .inl ⟨Tryz.f75, Tryz.f75.body.getD .skip, strconv_toError_ea, Tryz.func75, by kernel_rfl, Tryz.call75, fun C N args K H e => by
  unfold l75 at e
  split at e
  · rw [strconv_toError_ee]; exact e
  · exact eF_no e⟩

/- strings.CutSuffix -/
def strings_CutSuffix_ea : Ann := .two (.none) (.two (.none) (.none))
noncomputable def strings_CutSuffix_e (C : Cal) (N : Nat) (a0 a1 : SV) (K : SV → ER) : ER :=
  eCallR Tryz.prog C 102 [a0, a1] 109 fun x1 => eExtract x1 0 fun x2 => eExtract x1 1 fun x3 => K (.tup [x2, x3])
theorem strings_CutSuffix_ee (C : Cal) (N : Nat) (a0 a1 : SV) (K : SV → ER) : eBody Tryz.prog C N Tryz.f77 (Tryz.f77.body.getD .skip) strings_CutSuffix_ea [a0, a1] K = strings_CutSuffix_e C N a0 a1 K := by kernel_rfl
noncomputable def l77 : LeafT := fun C N args K => match args with
  | [a0, a1] => strings_CutSuffix_e C N a0 a1 K
  | _ => eF
theorem lok77 : LeafOk Tryz.prog 77 l77 := .inl ⟨Tryz.f77, Tryz.f77.body.getD .skip, strings_CutSuffix_ea, Tryz.func77, by kernel_rfl, Tryz.call77, fun C N args K H e => by
  unfold l77 at e
  split at e
  · rw [strings_CutSuffix_ee]; exact e
  · exact eF_no e⟩

/- strings.HasPrefix -/
def strings_HasPrefix_ea : Ann := .two (.none) (.two (.none) (.none))
noncomputable def strings_HasPrefix_e (C : Cal) (N : Nat) (a0 a1 : SV) (K : SV → ER) : ER :=
  eCallR Tryz.prog C 95 [a0, a1] 4 fun x1 => K x1
theorem strings_HasPrefix_ee (C : Cal) (N : Nat) (a0 a1 : SV) (K : SV → ER) : eBody Tryz.prog C N Tryz.f78 (Tryz.f78.body.getD .skip) strings_HasPrefix_ea [a0, a1] K = strings_HasPrefix_e C N a0 a1 K := by kernel_rfl
noncomputable def l78 : LeafT := fun C N args K => match args with
  | [a0, a1] => strings_HasPrefix_e C N a0 a1 K
  | _ => eF
theorem lok78 : LeafOk Tryz.prog 78 l78 := .inl ⟨Tryz.f78, Tryz.f78.body.getD .skip, strings_HasPrefix_ea, Tryz.func78, by kernel_rfl, Tryz.call78, fun C N args K H e => by
  unfold l78 at e
  split at e
  · rw [strings_HasPrefix_ee]; exact e
  · exact eF_no e⟩

/- halberd/isa.isSecond -/
def isa_isSecond_ea : Ann := .two (.none) (.two (.none) (.none))
noncomputable def isa_isSecond_e (C : Cal) (N : Nat) (a0 : SV) (K : SV → ER) : ER :=
  eBox Tryz.prog 38 a0 fun x1 => eLoad Tryz.prog 38 x1 fun x2 => eFieldAddr Tryz.prog 38 x1 4 fun x3 => eLoad Tryz.prog 21 x3 fun x4 => eBuild Tryz.prog 38 [(4, x4)] fun x5 => eBin Tryz.prog .eql 38 false x2 x5 fun x6 => K x6
theorem isa_isSecond_ee (C : Cal) (N : Nat) (a0 : SV) (K : SV → ER) : eBody Tryz.prog C N Tryz.f79 (Tryz.f79.body.getD .skip) isa_isSecond_ea [a0] K = isa_isSecond_e C N a0 K := by kernel_rfl
noncomputable def l79 : LeafT := fun C N args K => match args with
  | [a0] => isa_isSecond_e C N a0 K
  | _ => eF
theorem lok79 : LeafOk Tryz.prog 79 l79 := .inl ⟨Tryz.f79, Tryz.f79.body.getD .skip, isa_isSecond_ea, Tryz.func79, by kernel_rfl, Tryz.call79, fun C N args K H e => by
  unfold l79 at e
  split at e
  · rw [isa_isSecond_ee]; exact e
  · exact eF_no e⟩

/- halberd/isa.shapeOf -/
def isa_shapeOf_ea : Ann := .two (.none) (.two (.two (.none) (.sub (.two (.none) (.two (.two (.none) (.none)) (.join (.none) (.two (.two (.none) (.none)) (.join (.none) (.two (.two (.none) (.none)) (.two (.none) (.two (.two (.none) (.none)) (.none)))) [(24, .any)])) [(13, .any)]))))) (.two (.none) (.two (.none) (.none))))
noncomputable def isa_shapeOf_p0 (K : SV → ER) (a0 : SV) (x1 : SV) (b26 : Nat) : ER :=
  eBuild Tryz.prog 136 [(0, (.int .u8 10)), (1, (.int .u8 10)), (2, (.bool true))] fun x31 => ePutS Tryz.prog 159 (.map (some b26)) (.int .u8 3) x31 fun x32 => eBin Tryz.prog .and 5 false a0 (.int .u8 7) fun x33 => eLookupS Tryz.prog 159 (.map (some b26)) x33 true fun x34 => eExtract x34 0 fun x35 => eExtract x34 1 fun x36 => eAlloc Tryz.prog 136 fun x37 => eStore Tryz.prog 136 x37 x35 <| eLoad Tryz.prog 136 x37 fun x38 => eStore Tryz.prog 136 x1 x38 <| eLoad Tryz.prog 136 x1 fun x39 => K (.tup [x39, x36])
noncomputable def isa_shapeOf_p1 (K : SV → ER) (a0 : SV) (x1 : SV) : ER :=
  eNewB (.map []) fun b26 => eBuild Tryz.prog 136 [(0, (.int .u8 9)), (1, (.int .u8 10)), (2, (.bool true))] fun x27 => ePutS Tryz.prog 159 (.map (some b26)) (.int .u8 1) x27 fun x28 => eBuild Tryz.prog 136 [(0, (.int .u8 10)), (2, (.bool true)), (3, (.bool true))] fun x29 => ePutS Tryz.prog 159 (.map (some b26)) (.int .u8 2) x29 fun x30 => isa_shapeOf_p0 K a0 x1 b26
noncomputable def isa_shapeOf_p2 (C : Cal) (K : SV → ER) (a0 : SV) (x1 : SV) : ER :=
  eCallR Tryz.prog C 105 [a0] 3 fun x22 => eBin Tryz.prog .eql 3 false x22 (.int .i64 0) fun x23 => eIfV x23
  (eBuild Tryz.prog 136 [] fun x24 => eStore Tryz.prog 136 x1 x24 <| eLoad Tryz.prog 136 x1 fun x25 => K (.tup [x25, (.bool false)]))
  (isa_shapeOf_p1 K a0 x1)
noncomputable def isa_shapeOf_p3 (x2 : SV) (k14 : SV × Unit → ER) : ER :=
  eBin Tryz.prog .eql 5 false x2 (.int .u8 5) fun x16 => eIfV x16
  (eHas .any (.bool true) (k14 ((.bool true), ())))
  (eBin Tryz.prog .eql 5 false x2 (.int .u8 6) fun x17 => eHas .any x17 (k14 (x17, ())))
noncomputable def isa_shapeOf_p4 (C : Cal) (K : SV → ER) (a0 : SV) (x1 : SV) (s15 : SV × Unit) : ER :=
  eIfV s15.1
  (eCallR Tryz.prog C 104 [a0] 137 fun x18 => eExtract x18 0 fun x19 => eExtract x18 1 fun x20 => eStore Tryz.prog 136 x1 x19 <| eLoad Tryz.prog 136 x1 fun x21 => K (.tup [x21, x20]))
  (isa_shapeOf_p2 C K a0 x1)
noncomputable def isa_shapeOf_p5 (C : Cal) (K : SV → ER) (a0 : SV) (s7 : SV × Unit) (x1 : SV) (x2 : SV) : ER :=
  eIfV s7.1
  (eCallR Tryz.prog C 103 [a0] 137 fun x10 => eExtract x10 0 fun x11 => eExtract x10 1 fun x12 => eStore Tryz.prog 136 x1 x11 <| eLoad Tryz.prog 136 x1 fun x13 => K (.tup [x13, x12]))
  (eJoinC (σ := SV × Unit) (fun (k14 : SV × Unit → ER) =>
  isa_shapeOf_p3 x2 k14) fun (s15 : SV × Unit) =>
  isa_shapeOf_p4 C K a0 x1 s15)
noncomputable def isa_shapeOf_p6 (C : Cal) (K : SV → ER) (a0 : SV) (x1 : SV) (x2 : SV) : ER :=
  eJoinC (σ := SV × Unit) (fun (k6 : SV × Unit → ER) =>
  eBin Tryz.prog .eql 5 false x2 (.int .u8 4) fun x8 => eIfV x8
  (eHas .any (.bool true) (k6 ((.bool true), ())))
  (eBin Tryz.prog .eql 5 false x2 (.int .u8 7) fun x9 => eHas .any x9 (k6 (x9, ())))) fun (s7 : SV × Unit) =>
  isa_shapeOf_p5 C K a0 s7 x1 x2
noncomputable def isa_shapeOf_e (C : Cal) (N : Nat) (a0 : SV) (K : SV → ER) : ER :=
  eAlloc Tryz.prog 136 fun x1 => eBin Tryz.prog .and 5 false a0 (.int .u8 7) fun x2 => eBin Tryz.prog .eql 5 false a0 (.int .u8 24) fun x3 => eIfV x3
  (eBuild Tryz.prog 136 [(0, (.int .u8 9)), (1, (.int .u8 1)), (3, (.bool true))] fun x4 => eStore Tryz.prog 136 x1 x4 <| eLoad Tryz.prog 136 x1 fun x5 => K (.tup [x5, (.bool true)]))
  (isa_shapeOf_p6 C K a0 x1 x2)
theorem isa_shapeOf_ee (C : Cal) (N : Nat) (a0 : SV) (K : SV → ER) : eBody Tryz.prog C N Tryz.f80 (Tryz.f80.body.getD .skip) isa_shapeOf_ea [a0] K = isa_shapeOf_e C N a0 K := by kernel_rfl
noncomputable def l80 : LeafT := fun C N args K => match args with
  | [a0] => isa_shapeOf_e C N a0 K
  | _ => eF
theorem lok80 : LeafOk Tryz.prog 80 l80 := .inl ⟨Tryz.f80, Tryz.f80.body.getD .skip, isa_shapeOf_ea, Tryz.func80, by kernel_rfl, Tryz.call80, fun C N args K H e => by
  unfold l80 at e
  split at e
  · rw [isa_shapeOf_ee]; exact e
  · exact eF_no e⟩

/- halberd/isa.conditional -/
def isa_conditional_ea : Ann := .two (.none) (.join (.none) (.none) [(2, .any)])
noncomputable def isa_conditional_p0 (a0 : SV) (k1 : SV × Unit → ER) : ER :=
  eBin Tryz.prog .leq 5 false a0 (.int .u8 112) fun x4 => eIfV x4
  (eHas .any (.bool true) (k1 ((.bool true), ())))
  (eBin Tryz.prog .geq 5 false a0 (.int .u8 160) fun x5 => eIfV x5
  (eBin Tryz.prog .leq 5 false a0 (.int .u8 208) fun x6 => eHas .any x6 (k1 (x6, ())))
  (eHas .any (.bool false) (k1 ((.bool false), ()))))
noncomputable def isa_conditional_p1 (a0 : SV) (k1 : SV × Unit → ER) : ER :=
  eBin Tryz.prog .geq 5 false a0 (.int .u8 16) fun x3 => eIfV x3
  (isa_conditional_p0 a0 k1)
  (eBin Tryz.prog .geq 5 false a0 (.int .u8 160) fun x7 => eIfV x7
  (eBin Tryz.prog .leq 5 false a0 (.int .u8 208) fun x8 => eHas .any x8 (k1 (x8, ())))
  (eHas .any (.bool false) (k1 ((.bool false), ()))))
noncomputable def isa_conditional_e (C : Cal) (N : Nat) (a0 : SV) (K : SV → ER) : ER :=
  eJoinC (σ := SV × Unit) (fun (k1 : SV × Unit → ER) =>
  isa_conditional_p1 a0 k1) fun (s2 : SV × Unit) =>
  K s2.1
theorem isa_conditional_ee (C : Cal) (N : Nat) (a0 : SV) (K : SV → ER) : eBody Tryz.prog C N Tryz.f81 (Tryz.f81.body.getD .skip) isa_conditional_ea [a0] K = isa_conditional_e C N a0 K := by kernel_rfl
noncomputable def l81 : LeafT := fun C N args K => match args with
  | [a0] => isa_conditional_e C N a0 K
  | _ => eF
theorem lok81 : LeafOk Tryz.prog 81 l81 := .inl ⟨Tryz.f81, Tryz.f81.body.getD .skip, isa_conditional_ea, Tryz.func81, by kernel_rfl, Tryz.call81, fun C N args K H e => by
  unfold l81 at e
  split at e
  · rw [isa_conditional_ee]; exact e
  · exact eF_no e⟩

end Go.Proofs.YtjafpcagfgklgaaGreatDoor
