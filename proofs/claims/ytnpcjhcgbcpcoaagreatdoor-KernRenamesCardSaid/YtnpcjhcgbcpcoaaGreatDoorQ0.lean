/- The evaluator's texts of this seat's functions. Written by a program of this session. -/
import Derived.Test.YtnpcjhcgbcpcoaaGreatDoorV
import Derived.Test.YtnpcjhcgbcpcoaaGreatDoorE2
set_option linter.unusedVariables false
set_option maxRecDepth 100000
namespace Go.Proofs.YtnpcjhcgbcpcoaaGreatDoor
open Go.Hl
/- halberd/halberdlaw25.KernRenames -/
def law25_KernRenames_ea : Ann := .two (.none) (.two (.two (.none) (.two (.two (.none) (.none)) (.none))) (.two (.none) (.two (.none) (.two (.ord [0, 1, 2, 3, 5, 6, 7, 8, 4, 10, 9, 11]) (.two (.none) (.join (.two (.none) (.two (.none) (.none))) (.two (.none) (.two (.none) (.two (.none) (.two (.none) (.two (.join (.none) (.two (.two (.none) (.none)) (.none)) [(71, .any)]) (.join (.none) (.join (.join (.none) (.two (.none) (.none)) [(116, .any)]) (.two (.two (.none) (.two (.two (.none) (.none)) (.none))) (.two (.none) (.none))) [(15, .any)]) [(15, .any)])))))) []))))))
noncomputable def law25_KernRenames_p0 (k31 : SV × Unit → ER) (x21 : SV) (x27 : SV) : ER :=
  eFieldAddr Tryz.prog 28 x21 1 fun x36 => eLoad Tryz.prog 26 x36 fun x37 => eBin Tryz.prog .neq 26 false x37 (.int .i64 0) fun x38 => eIfV x38
  (eHas .any (.bool true) (k31 ((.bool true), ())))
  (eLoad Tryz.prog 28 x27 fun x39 => eLoad Tryz.prog 28 x21 fun x40 => eBin Tryz.prog .neq 28 false x39 x40 fun x41 => eHas .any x41 (k31 (x41, ())))
noncomputable def law25_KernRenames_p1 (a0 : SV) (a1 : SV) (k42 : SV × Unit → ER) : ER :=
  eBin Tryz.prog .rem 5 false a0 (.int .u8 6) fun x51 => eBin Tryz.prog .neq 5 false x51 (.int .u8 1) fun x52 => eIfV x52
  (eHas .any (.bool true) (k42 ((.bool true), ())))
  (eBin Tryz.prog .rem 5 false a1 (.int .u8 6) fun x53 => eBin Tryz.prog .neq 5 false x53 (.int .u8 5) fun x54 => eHas .any x54 (k42 (x54, ())))
noncomputable def law25_KernRenames_p2 (a0 : SV) (a1 : SV) (k42 : SV × Unit → ER) : ER :=
  eBin Tryz.prog .rem 5 false a0 (.int .u8 6) fun x57 => eBin Tryz.prog .neq 5 false x57 (.int .u8 1) fun x58 => eIfV x58
  (eHas .any (.bool true) (k42 ((.bool true), ())))
  (eBin Tryz.prog .rem 5 false a1 (.int .u8 6) fun x59 => eBin Tryz.prog .neq 5 false x59 (.int .u8 5) fun x60 => eHas .any x60 (k42 (x60, ())))
noncomputable def law25_KernRenames_p3 (a0 : SV) (a1 : SV) (k42 : SV × Unit → ER) : ER :=
  eBin Tryz.prog .rem 5 false a1 (.int .u8 6) fun x55 => eBin Tryz.prog .neq 5 false x55 (.int .u8 1) fun x56 => eIfV x56
  (law25_KernRenames_p2 a0 a1 k42)
  (eHas .any (.bool false) (k42 ((.bool false), ())))
noncomputable def law25_KernRenames_p4 (a0 : SV) (a1 : SV) (k63 : SV × Unit → ER) : ER :=
  eBin Tryz.prog .rem 5 false a0 (.int .u8 6) fun x69 => eBin Tryz.prog .eql 5 false x69 (.int .u8 3) fun x70 => eIfV x70
  (eBin Tryz.prog .rem 5 false a1 (.int .u8 6) fun x71 => eBin Tryz.prog .eql 5 false x71 (.int .u8 5) fun x72 => eHas .any x72 (k63 (x72, ())))
  (eHas .any (.bool false) (k63 ((.bool false), ())))
noncomputable def law25_KernRenames_p5 (a0 : SV) (a1 : SV) (k63 : SV × Unit → ER) : ER :=
  eBin Tryz.prog .rem 5 false a1 (.int .u8 6) fun x67 => eBin Tryz.prog .eql 5 false x67 (.int .u8 3) fun x68 => eIfV x68
  (eHas .any (.bool true) (k63 ((.bool true), ())))
  (law25_KernRenames_p4 a0 a1 k63)
noncomputable def law25_KernRenames_p6 (a0 : SV) (a1 : SV) (k63 : SV × Unit → ER) : ER :=
  eBin Tryz.prog .rem 5 false a0 (.int .u8 6) fun x73 => eBin Tryz.prog .eql 5 false x73 (.int .u8 3) fun x74 => eIfV x74
  (eBin Tryz.prog .rem 5 false a1 (.int .u8 6) fun x75 => eBin Tryz.prog .eql 5 false x75 (.int .u8 5) fun x76 => eHas .any x76 (k63 (x76, ())))
  (eHas .any (.bool false) (k63 ((.bool false), ())))
noncomputable def law25_KernRenames_p7 (a0 : SV) (a1 : SV) (k61 : SV × Unit → ER) (s43 : SV × Unit) : ER :=
  eJoinC (σ := SV × Unit) (fun (k63 : SV × Unit → ER) =>
  eBin Tryz.prog .rem 5 false a0 (.int .u8 6) fun x65 => eBin Tryz.prog .eql 5 false x65 (.int .u8 5) fun x66 => eIfV x66
  (law25_KernRenames_p5 a0 a1 k63)
  (law25_KernRenames_p6 a0 a1 k63)) fun (s64 : SV × Unit) =>
  eIfV s64.1
  (eHas .any (.bool true) (k61 ((.bool true), ())))
  (eHas .any s43.1 (k61 (s43.1, ())))
noncomputable def law25_KernRenames_p8 (K : SV → ER) (s62 : SV × Unit) (x21 : SV) (x30 : SV) : ER :=
  eIfV s62.1
  (eLoad Tryz.prog 28 x30 fun x77 => eLoad Tryz.prog 28 x21 fun x78 => eBin Tryz.prog .eql 28 false x77 x78 fun x79 => K x79)
  (eLoad Tryz.prog 28 x30 fun x80 => eBuild Tryz.prog 28 [(1, (.int .i64 2))] fun x81 => eBin Tryz.prog .eql 28 false x80 x81 fun x82 => K x82)
noncomputable def law25_KernRenames_p9 (a0 : SV) (a1 : SV) (k42 : SV × Unit → ER) : ER :=
  eBin Tryz.prog .rem 5 false a0 (.int .u8 6) fun x44 => eBin Tryz.prog .rem 5 false x44 (.int .u8 4) fun x45 => eBin Tryz.prog .rem 5 false a1 (.int .u8 6) fun x46 => eBin Tryz.prog .rem 5 false x46 (.int .u8 4) fun x47 => eBin Tryz.prog .eql 5 false x45 x47 fun x48 => eIfV x48
  (eBin Tryz.prog .rem 5 false a0 (.int .u8 6) fun x49 => eBin Tryz.prog .neq 5 false x49 (.int .u8 5) fun x50 => eIfV x50
  (law25_KernRenames_p1 a0 a1 k42)
  (law25_KernRenames_p3 a0 a1 k42))
  (eHas .any (.bool false) (k42 ((.bool false), ())))
noncomputable def law25_KernRenames_p10 (K : SV → ER) (a0 : SV) (a1 : SV) (x21 : SV) (x30 : SV) : ER :=
  eJoinC (σ := SV × Unit) (fun (k42 : SV × Unit → ER) =>
  law25_KernRenames_p9 a0 a1 k42) fun (s43 : SV × Unit) =>
  eJoinC (σ := SV × Unit) (fun (k61 : SV × Unit → ER) =>
  law25_KernRenames_p7 a0 a1 k61 s43) fun (s62 : SV × Unit) =>
  law25_KernRenames_p8 K s62 x21 x30
noncomputable def law25_KernRenames_p11 (k31 : SV × Unit → ER) (x21 : SV) (x24 : SV) (x27 : SV) : ER :=
  eLoad Tryz.prog 28 x24 fun x33 => eBuild Tryz.prog 28 [] fun x34 => eBin Tryz.prog .neq 28 false x33 x34 fun x35 => eIfV x35
  (eHas .any (.bool true) (k31 ((.bool true), ())))
  (law25_KernRenames_p0 k31 x21 x27)
noncomputable def law25_KernRenames_p12 (C : Cal) (K : SV → ER) (a0 : SV) (a1 : SV) (x3 : SV) (x9 : SV) (x10 : SV) (x21 : SV) (x24 : SV) : ER :=
  eBuild Tryz.prog 31 [(0, (.int .i64 13)), (1, (.int .i64 1)), (5, x10)] fun x25 => eCallR Tryz.prog C 8 [x3, x25] 28 fun x26 => eAlloc Tryz.prog 28 fun x27 => eStore Tryz.prog 28 x27 x26 <| eBuild Tryz.prog 31 [(0, (.int .i64 13)), (1, (.int .i64 1)), (5, x9)] fun x28 => eCallR Tryz.prog C 8 [x3, x28] 28 fun x29 => eAlloc Tryz.prog 28 fun x30 => eStore Tryz.prog 28 x30 x29 <| eJoinC (σ := SV × Unit) (fun (k31 : SV × Unit → ER) =>
  law25_KernRenames_p11 k31 x21 x24 x27) fun (s32 : SV × Unit) =>
  eIfV s32.1
  (K (.bool false))
  (law25_KernRenames_p10 K a0 a1 x21 x30)
noncomputable def law25_KernRenames_p13 (C : Cal) (a2 : SV) (x3 : SV) (x9 : SV) (k13 : Unit → ER) : ER :=
  eIfV a2
  (eBuild Tryz.prog 31 [(0, (.int .i64 6)), (1, (.int .i64 1)), (2, (.int .i64 448)), (5, x9)] fun x15 => eCallR Tryz.prog C 8 [x3, x15] 28 fun x16 => k13 (()))
  (eBuild Tryz.prog 31 [(0, (.int .i64 1)), (1, (.int .i64 1)), (2, (.int .i64 6)), (3, (.int .i64 420)), (5, x9)] fun x17 => eCallR Tryz.prog C 8 [x3, x17] 28 fun x18 => k13 (()))
noncomputable def law25_KernRenames_p14 (C : Cal) (K : SV → ER) (a0 : SV) (a1 : SV) (x3 : SV) (x9 : SV) (x10 : SV) : ER :=
  eBuild Tryz.prog 31 [(0, (.int .i64 13)), (1, (.int .i64 1)), (5, x9)] fun x19 => eCallR Tryz.prog C 8 [x3, x19] 28 fun x20 => eAlloc Tryz.prog 28 fun x21 => eStore Tryz.prog 28 x21 x20 <| eBuild Tryz.prog 31 [(0, (.int .i64 11)), (1, (.int .i64 1)), (5, x9), (6, x10)] fun x22 => eCallR Tryz.prog C 8 [x3, x22] 28 fun x23 => eAlloc Tryz.prog 28 fun x24 => eStore Tryz.prog 28 x24 x23 <| law25_KernRenames_p12 C K a0 a1 x3 x9 x10 x21 x24
noncomputable def law25_KernRenames_p15 (C : Cal) (K : SV → ER) (a0 : SV) (a1 : SV) (a2 : SV) (x3 : SV) (x4 : SV) (x5 : SV) : ER :=
  eIndexAddrS Tryz.prog 25 x4 x5 fun x6 => eBin Tryz.prog .rem 5 false a1 (.int .u8 6) fun x7 => eIndexAddrS Tryz.prog 25 x4 x7 fun x8 => eLoad Tryz.prog 9 x6 fun x9 => eLoad Tryz.prog 9 x8 fun x10 => eBuild Tryz.prog 31 [(0, (.int .i64 6)), (1, (.int .i64 1)), (2, (.int .i64 493)), (5, (.str [100]))] fun x11 => eCallR Tryz.prog C 8 [x3, x11] 28 fun x12 => eJoinC (σ := Unit) (fun (k13 : Unit → ER) =>
  law25_KernRenames_p13 C a2 x3 x9 k13) fun (s14 : Unit) =>
  law25_KernRenames_p14 C K a0 a1 x3 x9 x10
noncomputable def law25_KernRenames_p16 (C : Cal) (K : SV → ER) (a0 : SV) (a1 : SV) (a2 : SV) : ER :=
  eCallR Tryz.prog C 7 [] 23 fun x3 => eBuildSlice Tryz.prog 25 6 [(0, (.str [97])), (1, (.str [98])), (2, (.str [100, 47, 97])), (3, (.str [100, 47, 98])), (4, (.str [47, 97])), (5, (.str [46, 47, 100, 47, 98]))] fun x4 => eBin Tryz.prog .rem 5 false a0 (.int .u8 6) fun x5 => law25_KernRenames_p15 C K a0 a1 a2 x3 x4 x5
noncomputable def law25_KernRenames_e (C : Cal) (N : Nat) (a0 a1 a2 : SV) (K : SV → ER) : ER :=
  eCallR Tryz.prog C 6 [] 4 fun x1 => eUnS .not x1 fun x2 => eIfV x2
  (K (.bool false))
  (law25_KernRenames_p16 C K a0 a1 a2)
theorem law25_KernRenames_ee (C : Cal) (N : Nat) (a0 a1 a2 : SV) (K : SV → ER) : eBody Tryz.prog C N Tryz.f3 (Tryz.f3.body.getD .skip) law25_KernRenames_ea [a0, a1, a2] K = law25_KernRenames_e C N a0 a1 a2 K := by kernel_rfl
noncomputable def l3 : LeafT := fun C N args K => match args with
  | [a0, a1, a2] => law25_KernRenames_e C N a0 a1 a2 K
  | _ => eF
theorem lok3 : LeafOk Tryz.prog 3 l3 := ⟨Tryz.f3, Tryz.f3.body.getD .skip, law25_KernRenames_ea, Tryz.func3, by kernel_rfl, Tryz.call3, fun C N args K H e => by
  unfold l3 at e
  split at e
  · rw [law25_KernRenames_ee]; exact e
  · exact eF_no e⟩

/- halberd/halberdlaw25.alive -/
def law25_alive_ea : Ann := .two (.none) (.two (.none) (.two (.none) (.two (.none) (.two (.none) (.join (.none) (.none) [(0, .any)])))))
noncomputable def law25_alive_p0 (x7 : SV) (k11 : SV × Unit → ER) (x10 : SV) : ER :=
  eLoad Tryz.prog 28 x7 fun x16 => eBuild Tryz.prog 28 [(0, (.int .i64 2))] fun x17 => eBin Tryz.prog .eql 28 false x16 x17 fun x18 => eIfV x18
  (eLoad Tryz.prog 28 x10 fun x19 => eBuild Tryz.prog 28 [(0, (.int .i64 1))] fun x20 => eBin Tryz.prog .eql 28 false x19 x20 fun x21 => eHas .any x21 (k11 (x21, ())))
  (eHas .any (.bool false) (k11 ((.bool false), ())))
noncomputable def law25_alive_p1 (x4 : SV) (x7 : SV) (k11 : SV × Unit → ER) (x10 : SV) : ER :=
  eLoad Tryz.prog 28 x4 fun x13 => eBuild Tryz.prog 28 [] fun x14 => eBin Tryz.prog .eql 28 false x13 x14 fun x15 => eIfV x15
  (law25_alive_p0 x7 k11 x10)
  (eHas .any (.bool false) (k11 ((.bool false), ())))
noncomputable def law25_alive_p2 (C : Cal) (K : SV → ER) (x1 : SV) (x3 : SV) (x4 : SV) : ER :=
  eStore Tryz.prog 28 x4 x3 <| eBuild Tryz.prog 31 [(0, (.int .i64 4)), (1, (.int .i64 1)), (5, (.str [104, 105]))] fun x5 => eCallR Tryz.prog C 8 [x1, x5] 28 fun x6 => eAlloc Tryz.prog 28 fun x7 => eStore Tryz.prog 28 x7 x6 <| eBuild Tryz.prog 31 [(0, (.int .i64 30)), (1, (.int .i64 1))] fun x8 => eCallR Tryz.prog C 8 [x1, x8] 28 fun x9 => eAlloc Tryz.prog 28 fun x10 => eStore Tryz.prog 28 x10 x9 <| eJoinC (σ := SV × Unit) (fun (k11 : SV × Unit → ER) =>
  law25_alive_p1 x4 x7 k11 x10) fun (s12 : SV × Unit) =>
  K s12.1
noncomputable def law25_alive_e (C : Cal) (N : Nat) (K : SV → ER) : ER :=
  eCallR Tryz.prog C 7 [] 23 fun x1 => eBuild Tryz.prog 31 [(0, (.int .i64 1)), (1, (.int .i64 1)), (2, (.int .i64 6)), (3, (.int .i64 420)), (5, (.str [47, 97]))] fun x2 => eCallR Tryz.prog C 8 [x1, x2] 28 fun x3 => eAlloc Tryz.prog 28 fun x4 => law25_alive_p2 C K x1 x3 x4
theorem law25_alive_ee (C : Cal) (N : Nat) (K : SV → ER) : eBody Tryz.prog C N Tryz.f6 (Tryz.f6.body.getD .skip) law25_alive_ea [] K = law25_alive_e C N  K := by kernel_rfl
noncomputable def l6 : LeafT := fun C N args K => match args with
  | [] => law25_alive_e C N  K
  | _ => eF
theorem lok6 : LeafOk Tryz.prog 6 l6 := ⟨Tryz.f6, Tryz.f6.body.getD .skip, law25_alive_ea, Tryz.func6, by kernel_rfl, Tryz.call6, fun C N args K H e => by
  unfold l6 at e
  split at e
  · rw [law25_alive_ee]; exact e
  · exact eF_no e⟩

/- halberd/kern.New -/
def kern_New_ea : Ann := .two (.none) (.two (.none) (.none))
noncomputable def kern_New_e (C : Cal) (N : Nat) (K : SV → ER) : ER :=
  eCallR Tryz.prog C 10 [] 53 fun x1 => eCallR Tryz.prog C 11 [] 55 fun x2 => eBuild Tryz.prog 58 [(0, x1), (1, x2)] fun x3 => eBox Tryz.prog 58 x3 fun x4 => K x4
theorem kern_New_ee (C : Cal) (N : Nat) (K : SV → ER) : eBody Tryz.prog C N Tryz.f7 (Tryz.f7.body.getD .skip) kern_New_ea [] K = kern_New_e C N  K := by kernel_rfl
noncomputable def l7 : LeafT := fun C N args K => match args with
  | [] => kern_New_e C N  K
  | _ => eF
theorem lok7 : LeafOk Tryz.prog 7 l7 := ⟨Tryz.f7, Tryz.f7.body.getD .skip, kern_New_ea, Tryz.func7, by kernel_rfl, Tryz.call7, fun C N args K H e => by
  unfold l7 at e
  split at e
  · rw [kern_New_ee]; exact e
  · exact eF_no e⟩

/- (*halberd/kern.Kernel).Do -/
def kern_Kernel_Do_ea : Ann := .two (.none) (.two (.none) (.none))
noncomputable def kern_Kernel_Do_e (C : Cal) (N : Nat) (a0 a1 : SV) (K : SV → ER) : ER :=
  eBox Tryz.prog 31 a1 fun x1 => eAlloc Tryz.prog 28 fun x2 => eLoad Tryz.prog 31 x1 fun x3 => eCallR Tryz.prog C 12 [a0, x3] 28 fun x4 => eStore Tryz.prog 28 x2 x4 <| eLoad Tryz.prog 28 x2 fun x5 => K x5
theorem kern_Kernel_Do_ee (C : Cal) (N : Nat) (a0 a1 : SV) (K : SV → ER) : eBody Tryz.prog C N Tryz.f8 (Tryz.f8.body.getD .skip) kern_Kernel_Do_ea [a0, a1] K = kern_Kernel_Do_e C N a0 a1 K := by kernel_rfl
noncomputable def l8 : LeafT := fun C N args K => match args with
  | [a0, a1] => kern_Kernel_Do_e C N a0 a1 K
  | _ => eF
theorem lok8 : LeafOk Tryz.prog 8 l8 := ⟨Tryz.f8, Tryz.f8.body.getD .skip, kern_Kernel_Do_ea, Tryz.func8, by kernel_rfl, Tryz.call8, fun C N args K H e => by
  unfold l8 at e
  split at e
  · rw [kern_Kernel_Do_ee]; exact e
  · exact eF_no e⟩

/- halberd/inodes.New -/
def inodes_New_ea : Ann := .two (.none) (.two (.none) (.two (.two (.none) (.sub (.loop [(2, .any)] (.two (.two (.none) (.two (.none) (.none))) (.two (.sub (.none)) (.none)))))) (.two (.none) (.two (.none) (.none)))))
noncomputable def inodes_New_p0 (C : Cal) (k3 : SV × Unit → ER) (s4 : SV × Unit) (x2 : SV) : ER :=
  eNilCk x2 fun x6 => eFieldAddr Tryz.prog 64 x6 1 fun x7 => eMakeIface Tryz.prog 66 x7 fun x8 => eMakeIface Tryz.prog 3 s4.1 fun x9 => eCallR Tryz.prog C 15 [x8, x9] 0 fun x10 => eBin Tryz.prog .add 3 false s4.1 (.int .i64 1) fun x11 => eHas .any x11 (k3 (x11, ()))
noncomputable def inodes_New_p1 (K : SV → ER) (x2 : SV) : ER :=
  eBuild Tryz.prog 40 [(0, (.int .i64 1)), (1, (.int .i64 1)), (2, (.int .i64 2)), (3, (.int .i64 493)), (6, (.int .i64 1)), (10, (.int .i64 1))] fun x12 => eNilCk x2 fun x13 => eFieldAddr Tryz.prog 64 x13 0 fun x14 => eIndexAddrS Tryz.prog 61 x14 (.int .i64 1) fun x15 => eStore Tryz.prog 40 x15 x12 <| K x2
noncomputable def inodes_New_e (C : Cal) (N : Nat) (K : SV → ER) : ER :=
  eBuild Tryz.prog 64 [] fun x1 => eBox Tryz.prog 64 x1 fun x2 => eHas .any (.int .i64 2) (eIter (σ := SV × Unit) (fun (s4 : SV × Unit) (k3 : SV × Unit → ER) =>
  eBin Tryz.prog .leq 3 false s4.1 (.int .i64 24) fun x5 => eIfV x5
  (inodes_New_p0 C k3 s4 x2)
  (inodes_New_p1 K x2)) N ((.int .i64 2), ()))
theorem inodes_New_ee (C : Cal) (N : Nat) (K : SV → ER) : eBody Tryz.prog C N Tryz.f10 (Tryz.f10.body.getD .skip) inodes_New_ea [] K = inodes_New_e C N  K := by kernel_rfl
noncomputable def l10 : LeafT := fun C N args K => match args with
  | [] => inodes_New_e C N  K
  | _ => eF
theorem lok10 : LeafOk Tryz.prog 10 l10 := ⟨Tryz.f10, Tryz.f10.body.getD .skip, inodes_New_ea, Tryz.func10, by kernel_rfl, Tryz.call10, fun C N args K H e => by
  unfold l10 at e
  split at e
  · rw [inodes_New_ee]; exact e
  · exact eF_no e⟩

/- halberd/tasks.New -/
def tasks_New_ea : Ann := .two (.none) (.two (.none) (.two (.none) (.two (.none) (.none))))
noncomputable def tasks_New_e (C : Cal) (N : Nat) (K : SV → ER) : ER :=
  eBuild Tryz.prog 69 [] fun x1 => eBox Tryz.prog 69 x1 fun x2 => eBuild Tryz.prog 50 [(0, (.int .i64 1)), (1, (.int .i64 1)), (2, (.int .i64 1)), (5, (.int .i64 1))] fun x3 => eNilCk x2 fun x4 => eFieldAddr Tryz.prog 69 x4 0 fun x5 => eIndexAddrS Tryz.prog 67 x5 (.int .i64 1) fun x6 => eStore Tryz.prog 50 x6 x3 <| K x2
theorem tasks_New_ee (C : Cal) (N : Nat) (K : SV → ER) : eBody Tryz.prog C N Tryz.f11 (Tryz.f11.body.getD .skip) tasks_New_ea [] K = tasks_New_e C N  K := by kernel_rfl
noncomputable def l11 : LeafT := fun C N args K => match args with
  | [] => tasks_New_e C N  K
  | _ => eF
theorem lok11 : LeafOk Tryz.prog 11 l11 := ⟨Tryz.f11, Tryz.f11.body.getD .skip, tasks_New_ea, Tryz.func11, by kernel_rfl, Tryz.call11, fun C N args K H e => by
  unfold l11 at e
  split at e
  · rw [tasks_New_ee]; exact e
  · exact eF_no e⟩

/- (*halberd/kern.Kernel).Commit -/
def kern_Kernel_Commit_ea : Ann := .two (.none) (.two (.none) (.two (.two (.none) (.two (.two (.none) (.none)) (.none))) (.two (.none) (.two (.none) (.two (.none) (.none))))))
noncomputable def kern_Kernel_Commit_p0 (C : Cal) (K : SV → ER) (a0 : SV) (x2 : SV) (x5 : SV) : ER :=
  eNilCk x5 fun x10 => eFieldAddr Tryz.prog 76 x10 4 fun x11 => eLoad Tryz.prog 74 x11 fun x12 => eCallVR Tryz.prog C x12 [] 28 fun x13 => eAlloc Tryz.prog 28 fun x14 => eStore Tryz.prog 28 x14 x13 <| eCallR Tryz.prog C 17 [a0] 0 fun x15 => eLoad Tryz.prog 28 x14 fun x16 => eStore Tryz.prog 28 x2 x16 <| eLoad Tryz.prog 28 x2 fun x17 => K x17
noncomputable def kern_Kernel_Commit_e (C : Cal) (N : Nat) (a0 a1 : SV) (K : SV → ER) : ER :=
  eBox Tryz.prog 31 a1 fun x1 => eAlloc Tryz.prog 28 fun x2 => eLoad Tryz.prog 31 x1 fun x3 => eCallR Tryz.prog C 16 [a0, x3] 71 fun x4 => eExtract x4 0 fun x5 => eExtract x4 1 fun x6 => eBin Tryz.prog .neq 26 false x6 (.int .i64 0) fun x7 => eIfV x7
  (eBuild Tryz.prog 28 [(1, x6)] fun x8 => eStore Tryz.prog 28 x2 x8 <| eLoad Tryz.prog 28 x2 fun x9 => K x9)
  (kern_Kernel_Commit_p0 C K a0 x2 x5)
theorem kern_Kernel_Commit_ee (C : Cal) (N : Nat) (a0 a1 : SV) (K : SV → ER) : eBody Tryz.prog C N Tryz.f12 (Tryz.f12.body.getD .skip) kern_Kernel_Commit_ea [a0, a1] K = kern_Kernel_Commit_e C N a0 a1 K := by kernel_rfl
noncomputable def l12 : LeafT := fun C N args K => match args with
  | [a0, a1] => kern_Kernel_Commit_e C N a0 a1 K
  | _ => eF
theorem lok12 : LeafOk Tryz.prog 12 l12 := ⟨Tryz.f12, Tryz.f12.body.getD .skip, kern_Kernel_Commit_ea, Tryz.func12, by kernel_rfl, Tryz.call12, fun C N args K H e => by
  unfold l12 at e
  split at e
  · rw [kern_Kernel_Commit_ee]; exact e
  · exact eF_no e⟩

/- (*halberd/inodes.Table).All -/
def inodes_Table_All_ea : Ann := .two (.none) (.two (.none) (.two (.two (.none) (.sub (.loop [(3, .any), (4, .any)] (.two (.two (.none) (.two (.none) (.none))) (.join (.sub (.two (.none) (.two (.none) (.two (.none) (.none))))) (.none) [(3, .any)]))))) (.two (.none) (.none))))
noncomputable def inodes_Table_All_p0 (C : Cal) (a0 : SV) (k4 : SV × Unit → ER) (s2 : SV × SV × Unit) : ER :=
  eCallR Tryz.prog C 18 [a0, s2.2.1] 77 fun x6 => eExtract x6 0 fun x7 => eExtract x6 1 fun x8 => eAlloc Tryz.prog 40 fun x9 => eStore Tryz.prog 40 x9 x7 <| eIfV x8
  (eLoad Tryz.prog 40 x9 fun x10 => eBuildSlice Tryz.prog 33 1 [(0, x10)] fun x11 => eApp Tryz.prog [33, 33] [s2.1, x11] fun x12 => eHas .any x12 (k4 (x12, ())))
  (eHas .any s2.1 (k4 (s2.1, ())))
noncomputable def inodes_Table_All_p1 (C : Cal) (a0 : SV) (k1 : SV × SV × Unit → ER) (s2 : SV × SV × Unit) : ER :=
  eJoinC (σ := SV × Unit) (fun (k4 : SV × Unit → ER) =>
  inodes_Table_All_p0 C a0 k4 s2) fun (s5 : SV × Unit) =>
  eBin Tryz.prog .add 3 false s2.2.1 (.int .i64 1) fun x13 => eHas .any s5.1 (eHas .any x13 (k1 (s5.1, x13, ())))
noncomputable def inodes_Table_All_e (C : Cal) (N : Nat) (a0 : SV) (K : SV → ER) : ER :=
  eHas .any (.sl ⟨none, 0, .lit 0⟩) (eHas .any (.int .i64 1) (eIter (σ := SV × SV × Unit) (fun (s2 : SV × SV × Unit) (k1 : SV × SV × Unit → ER) =>
  eBin Tryz.prog .leq 3 false s2.2.1 (.int .i64 24) fun x3 => eIfV x3
  (inodes_Table_All_p1 C a0 k1 s2)
  (K s2.1)) N ((.sl ⟨none, 0, .lit 0⟩), (.int .i64 1), ())))
theorem inodes_Table_All_ee (C : Cal) (N : Nat) (a0 : SV) (K : SV → ER) : eBody Tryz.prog C N Tryz.f13 (Tryz.f13.body.getD .skip) inodes_Table_All_ea [a0] K = inodes_Table_All_e C N a0 K := by kernel_rfl
noncomputable def l13 : LeafT := fun C N args K => match args with
  | [a0] => inodes_Table_All_e C N a0 K
  | _ => eF
theorem lok13 : LeafOk Tryz.prog 13 l13 := ⟨Tryz.f13, Tryz.f13.body.getD .skip, inodes_Table_All_ea, Tryz.func13, by kernel_rfl, Tryz.call13, fun C N args K H e => by
  unfold l13 at e
  split at e
  · rw [inodes_Table_All_ee]; exact e
  · exact eF_no e⟩

end Go.Proofs.YtnpcjhcgbcpcoaaGreatDoor

set_option linter.unusedVariables false
set_option maxRecDepth 100000
namespace Go.Proofs.YtnpcjhcgbcpcoaaGreatDoor
open Go.Hl
/- (*halberd/tasks.Table).All -/
def tasks_Table_All_ea : Ann := .two (.none) (.two (.none) (.two (.two (.none) (.sub (.loop [(3, .any), (4, .any)] (.two (.two (.none) (.two (.none) (.none))) (.join (.sub (.two (.none) (.two (.none) (.two (.none) (.none))))) (.none) [(3, .any)]))))) (.two (.none) (.none))))
noncomputable def tasks_Table_All_p0 (C : Cal) (a0 : SV) (k4 : SV × Unit → ER) (s2 : SV × SV × Unit) : ER :=
  eCallR Tryz.prog C 19 [a0, s2.2.1] 79 fun x6 => eExtract x6 0 fun x7 => eExtract x6 1 fun x8 => eAlloc Tryz.prog 50 fun x9 => eStore Tryz.prog 50 x9 x7 <| eIfV x8
  (eLoad Tryz.prog 50 x9 fun x10 => eBuildSlice Tryz.prog 34 1 [(0, x10)] fun x11 => eApp Tryz.prog [34, 34] [s2.1, x11] fun x12 => eHas .any x12 (k4 (x12, ())))
  (eHas .any s2.1 (k4 (s2.1, ())))
noncomputable def tasks_Table_All_p1 (C : Cal) (a0 : SV) (k1 : SV × SV × Unit → ER) (s2 : SV × SV × Unit) : ER :=
  eJoinC (σ := SV × Unit) (fun (k4 : SV × Unit → ER) =>
  tasks_Table_All_p0 C a0 k4 s2) fun (s5 : SV × Unit) =>
  eBin Tryz.prog .add 3 false s2.2.1 (.int .i64 1) fun x13 => eHas .any s5.1 (eHas .any x13 (k1 (s5.1, x13, ())))
noncomputable def tasks_Table_All_e (C : Cal) (N : Nat) (a0 : SV) (K : SV → ER) : ER :=
  eHas .any (.sl ⟨none, 0, .lit 0⟩) (eHas .any (.int .i64 1) (eIter (σ := SV × SV × Unit) (fun (s2 : SV × SV × Unit) (k1 : SV × SV × Unit → ER) =>
  eBin Tryz.prog .leq 3 false s2.2.1 (.int .i64 8) fun x3 => eIfV x3
  (tasks_Table_All_p1 C a0 k1 s2)
  (K s2.1)) N ((.sl ⟨none, 0, .lit 0⟩), (.int .i64 1), ())))
theorem tasks_Table_All_ee (C : Cal) (N : Nat) (a0 : SV) (K : SV → ER) : eBody Tryz.prog C N Tryz.f14 (Tryz.f14.body.getD .skip) tasks_Table_All_ea [a0] K = tasks_Table_All_e C N a0 K := by kernel_rfl
noncomputable def l14 : LeafT := fun C N args K => match args with
  | [a0] => tasks_Table_All_e C N a0 K
  | _ => eF
theorem lok14 : LeafOk Tryz.prog 14 l14 := ⟨Tryz.f14, Tryz.f14.body.getD .skip, tasks_Table_All_ea, Tryz.func14, by kernel_rfl, Tryz.call14, fun C N args K H e => by
  unfold l14 at e
  split at e
  · rw [tasks_Table_All_ee]; exact e
  · exact eF_no e⟩

/- container/heap.Push -/
def container_heap_Push_ea : Ann := .two (.none) (.none)
noncomputable def container_heap_Push_e (C : Cal) (N : Nat) (a0 a1 : SV) (K : SV → ER) : ER :=
  eInvokeR Tryz.prog C "Push" a0 [a1] 0 fun x1 => eInvokeR Tryz.prog C "Len" a0 [] 3 fun x2 => eBin Tryz.prog .sub 3 false x2 (.int .i64 1) fun x3 => eCallR Tryz.prog C 20 [a0, x3] 0 fun x4 => K (.tup [])
theorem container_heap_Push_ee (C : Cal) (N : Nat) (a0 a1 : SV) (K : SV → ER) : eBody Tryz.prog C N Tryz.f15 (Tryz.f15.body.getD .skip) container_heap_Push_ea [a0, a1] K = container_heap_Push_e C N a0 a1 K := by kernel_rfl
noncomputable def l15 : LeafT := fun C N args K => match args with
  | [a0, a1] => container_heap_Push_e C N a0 a1 K
  | _ => eF
theorem lok15 : LeafOk Tryz.prog 15 l15 := ⟨Tryz.f15, Tryz.f15.body.getD .skip, container_heap_Push_ea, Tryz.func15, by kernel_rfl, Tryz.call15, fun C N args K H e => by
  unfold l15 at e
  split at e
  · rw [container_heap_Push_ee]; exact e
  · exact eF_no e⟩

/- (*halberd/kern.Kernel).check -/
def kern_Kernel_check_ea : Ann := .two (.none) (.two (.none) (.two (.none) (.two (.sub (.two (.ord [0, 1, 2, 4, 3, 5, 6, 7, 8]) (.two (.two (.none) (.none)) (.join (.none) (.two (.two (.none) (.none)) (.none)) [(23, .any)])))) (.two (.ord [0, 1, 2, 3, 5, 4, 6, 7, 8, 9, 10, 11, 12, 13]) (.two (.none) (.none))))))
noncomputable def kern_Kernel_check_p0 (C : Cal) (K : SV → ER) (x1 : SV) (x4 : SV) (x6 : SV) (x23 : SV) : ER :=
  eFieldAddr Tryz.prog 31 x1 1 fun x24 => eLoad Tryz.prog 55 x23 fun x25 => eLoad Tryz.prog 3 x24 fun x26 => eCallR Tryz.prog C 19 [x25, x26] 79 fun x27 => eExtract x27 0 fun x28 => eExtract x27 1 fun x29 => eNilCk x4 fun x30 => eFieldAddr Tryz.prog 76 x30 2 fun x31 => eStore Tryz.prog 50 x31 x28 <| eFieldAddr Tryz.prog 31 x1 0 fun x32 => eLoad Tryz.prog 3 x32 fun x33 => eIndexAddrS Tryz.prog 87 x6 x33 fun x34 => eLoad Tryz.prog 86 x34 fun x35 => eCallVR Tryz.prog C x35 [x4] 26 fun x36 => K (.tup [x4, x36])
noncomputable def kern_Kernel_check_p1 (x1 : SV) (k14 : SV × Unit → ER) : ER :=
  eFieldAddr Tryz.prog 31 x1 0 fun x16 => eLoad Tryz.prog 3 x16 fun x17 => eBin Tryz.prog .lss 3 false x17 (.int .i64 1) fun x18 => eIfV x18
  (eHas .any (.bool true) (k14 ((.bool true), ())))
  (eFieldAddr Tryz.prog 31 x1 0 fun x19 => eLoad Tryz.prog 3 x19 fun x20 => eBin Tryz.prog .geq 3 false x20 (.int .i64 31) fun x21 => eHas .any x21 (k14 (x21, ())))
noncomputable def kern_Kernel_check_p2 (C : Cal) (K : SV → ER) (a0 : SV) (x1 : SV) (x4 : SV) (x6 : SV) : ER :=
  eJoinC (σ := SV × Unit) (fun (k14 : SV × Unit → ER) =>
  kern_Kernel_check_p1 x1 k14) fun (s15 : SV × Unit) =>
  eIfV s15.1
  (K (.tup [x4, (.int .i64 38)]))
  (eNilCk a0 fun x22 => eFieldAddr Tryz.prog 58 x22 1 fun x23 => kern_Kernel_check_p0 C K x1 x4 x6 x23)
noncomputable def kern_Kernel_check_p3 (C : Cal) (K : SV → ER) (a0 : SV) (x1 : SV) : ER :=
  eLoad Tryz.prog 31 x1 fun x2 => eBuild Tryz.prog 76 [(0, x2), (1, a0)] fun x3 => eBox Tryz.prog 76 x3 fun x4 => eCallR Tryz.prog C 21 [] 87 fun x5 => eAlloc Tryz.prog 87 fun x6 => eStore Tryz.prog 87 x6 x5 <| eNilCk a0 fun x7 => eFieldAddr Tryz.prog 58 x7 1 fun x8 => eFieldAddr Tryz.prog 31 x1 1 fun x9 => eLoad Tryz.prog 55 x8 fun x10 => eLoad Tryz.prog 3 x9 fun x11 => eCallR Tryz.prog C 22 [x10, x11] 4 fun x12 => eUnS .not x12 fun x13 => eIfV x13
  (K (.tup [x4, (.int .i64 3)]))
  (kern_Kernel_check_p2 C K a0 x1 x4 x6)
noncomputable def kern_Kernel_check_e (C : Cal) (N : Nat) (a0 a1 : SV) (K : SV → ER) : ER :=
  eBox Tryz.prog 31 a1 fun x1 => kern_Kernel_check_p3 C K a0 x1
theorem kern_Kernel_check_ee (C : Cal) (N : Nat) (a0 a1 : SV) (K : SV → ER) : eBody Tryz.prog C N Tryz.f16 (Tryz.f16.body.getD .skip) kern_Kernel_check_ea [a0, a1] K = kern_Kernel_check_e C N a0 a1 K := by kernel_rfl
noncomputable def l16 : LeafT := fun C N args K => match args with
  | [a0, a1] => kern_Kernel_check_e C N a0 a1 K
  | _ => eF
theorem lok16 : LeafOk Tryz.prog 16 l16 := ⟨Tryz.f16, Tryz.f16.body.getD .skip, kern_Kernel_check_ea, Tryz.func16, by kernel_rfl, Tryz.call16, fun C N args K H e => by
  unfold l16 at e
  split at e
  · rw [kern_Kernel_check_ee]; exact e
  · exact eF_no e⟩

/- (*halberd/kern.Kernel).sweep -/
def kern_Kernel_sweep_ea : Ann := .two (.none) (.sub (.loop [(10, .any)] (.two (.none) (.two (.two (.none) (.none)) (.join (.sub (.two (.none) (.join (.ord [0, 1, 2, 3, 4, 5, 6, 8, 7, 9, 10, 11, 12]) (.two (.ord [0, 1, 2, 4, 3, 5, 6]) (.none)) [(26, .any)]))) (.none) [])))))
noncomputable def kern_Kernel_sweep_p0 (C : Cal) (a0 : SV) (k14 : SV × Unit → ER) (x13 : SV) : ER :=
  eNilCk a0 fun x19 => eFieldAddr Tryz.prog 58 x19 1 fun x20 => eFieldAddr Tryz.prog 40 x13 0 fun x21 => eLoad Tryz.prog 55 x20 fun x22 => eLoad Tryz.prog 3 x21 fun x23 => eCallR Tryz.prog C 23 [x22, x23] 4 fun x24 => eUnS .not x24 fun x25 => eHas .any x25 (k14 (x25, ()))
noncomputable def kern_Kernel_sweep_p1 (C : Cal) (a0 : SV) (k9 : Unit → ER) (x13 : SV) : ER :=
  eNilCk a0 fun x26 => eFieldAddr Tryz.prog 58 x26 0 fun x27 => eFieldAddr Tryz.prog 40 x13 0 fun x28 => eLoad Tryz.prog 53 x27 fun x29 => eLoad Tryz.prog 3 x28 fun x30 => eCallR Tryz.prog C 24 [x29, x30] 26 fun x31 => k9 (())
noncomputable def kern_Kernel_sweep_p2 (C : Cal) (a0 : SV) (k14 : SV × Unit → ER) (x13 : SV) : ER :=
  eFieldAddr Tryz.prog 40 x13 6 fun x16 => eLoad Tryz.prog 3 x16 fun x17 => eBin Tryz.prog .eql 3 false x17 (.int .i64 0) fun x18 => eIfV x18
  (kern_Kernel_sweep_p0 C a0 k14 x13)
  (eHas .any (.bool false) (k14 ((.bool false), ())))
noncomputable def kern_Kernel_sweep_p3 (C : Cal) (a0 : SV) (k9 : Unit → ER) (s7 : SV × Unit) (x4 : SV) : ER :=
  eIndexAddrS Tryz.prog 33 x4 s7.1 fun x11 => eLoad Tryz.prog 40 x11 fun x12 => eAlloc Tryz.prog 40 fun x13 => eStore Tryz.prog 40 x13 x12 <| eJoinC (σ := SV × Unit) (fun (k14 : SV × Unit → ER) =>
  kern_Kernel_sweep_p2 C a0 k14 x13) fun (s15 : SV × Unit) =>
  eIfV s15.1
  (kern_Kernel_sweep_p1 C a0 k9 x13)
  (k9 (()))
noncomputable def kern_Kernel_sweep_p4 (C : Cal) (K : SV → ER) (a0 : SV) (k6 : SV × Unit → ER) (s7 : SV × Unit) (x4 : SV) (x5 : SV) : ER :=
  eBin Tryz.prog .lss 3 false s7.1 x5 fun x8 => eIfV x8
  (eJoinC (σ := Unit) (fun (k9 : Unit → ER) =>
  kern_Kernel_sweep_p3 C a0 k9 s7 x4) fun (s10 : Unit) =>
  eBin Tryz.prog .add 3 false s7.1 (.int .i64 1) fun x32 => eHas .any x32 (k6 (x32, ())))
  (K (.tup []))
noncomputable def kern_Kernel_sweep_e (C : Cal) (N : Nat) (a0 : SV) (K : SV → ER) : ER :=
  eNilCk a0 fun x1 => eFieldAddr Tryz.prog 58 x1 0 fun x2 => eLoad Tryz.prog 53 x2 fun x3 => eCallR Tryz.prog C 13 [x3] 33 fun x4 => eLenS Tryz.prog [33] [x4] fun x5 => eHas .any (.int .i64 0) (eIter (σ := SV × Unit) (fun (s7 : SV × Unit) (k6 : SV × Unit → ER) =>
  kern_Kernel_sweep_p4 C K a0 k6 s7 x4 x5) N ((.int .i64 0), ()))
theorem kern_Kernel_sweep_ee (C : Cal) (N : Nat) (a0 : SV) (K : SV → ER) : eBody Tryz.prog C N Tryz.f17 (Tryz.f17.body.getD .skip) kern_Kernel_sweep_ea [a0] K = kern_Kernel_sweep_e C N a0 K := by kernel_rfl
noncomputable def l17 : LeafT := fun C N args K => match args with
  | [a0] => kern_Kernel_sweep_e C N a0 K
  | _ => eF
theorem lok17 : LeafOk Tryz.prog 17 l17 := ⟨Tryz.f17, Tryz.f17.body.getD .skip, kern_Kernel_sweep_ea, Tryz.func17, by kernel_rfl, Tryz.call17, fun C N args K H e => by
  unfold l17 at e
  split at e
  · rw [kern_Kernel_sweep_ee]; exact e
  · exact eF_no e⟩

/- (*halberd/inodes.Table).Get -/
def inodes_Table_Get_ea : Ann := .two (.none) (.two (.none) (.two (.two (.none) (.two (.two (.none) (.none)) (.none))) (.two (.none) (.none))))
noncomputable def inodes_Table_Get_e (C : Cal) (N : Nat) (a0 a1 : SV) (K : SV → ER) : ER :=
  eAlloc Tryz.prog 40 fun x1 => eCallR Tryz.prog C 25 [a0, a1] 91 fun x2 => eBin Tryz.prog .eql 91 true x2 (.ptr none) fun x3 => eIfV x3
  (eBuild Tryz.prog 40 [] fun x4 => eStore Tryz.prog 40 x1 x4 <| eLoad Tryz.prog 40 x1 fun x5 => K (.tup [x5, (.bool false)]))
  (eNilCk x2 fun x6 => eLoad Tryz.prog 40 x6 fun x7 => eCallR Tryz.prog C 26 [x7] 40 fun x8 => eStore Tryz.prog 40 x1 x8 <| eLoad Tryz.prog 40 x1 fun x9 => K (.tup [x9, (.bool true)]))
theorem inodes_Table_Get_ee (C : Cal) (N : Nat) (a0 a1 : SV) (K : SV → ER) : eBody Tryz.prog C N Tryz.f18 (Tryz.f18.body.getD .skip) inodes_Table_Get_ea [a0, a1] K = inodes_Table_Get_e C N a0 a1 K := by kernel_rfl
noncomputable def l18 : LeafT := fun C N args K => match args with
  | [a0, a1] => inodes_Table_Get_e C N a0 a1 K
  | _ => eF
theorem lok18 : LeafOk Tryz.prog 18 l18 := ⟨Tryz.f18, Tryz.f18.body.getD .skip, inodes_Table_Get_ea, Tryz.func18, by kernel_rfl, Tryz.call18, fun C N args K H e => by
  unfold l18 at e
  split at e
  · rw [inodes_Table_Get_ee]; exact e
  · exact eF_no e⟩

/- (*halberd/tasks.Table).Get -/
def tasks_Table_Get_ea : Ann := .two (.none) (.two (.two (.none) (.two (.none) (.two (.two (.none) (.none)) (.none)))) (.two (.none) (.none)))
noncomputable def tasks_Table_Get_e (C : Cal) (N : Nat) (a0 a1 : SV) (K : SV → ER) : ER :=
  eAlloc Tryz.prog 50 fun x1 => eCallR Tryz.prog C 27 [a0, a1] 94 fun x2 => eBin Tryz.prog .neq 94 true x2 (.ptr none) fun x3 => eIfV x3
  (eNilCk x2 fun x4 => eLoad Tryz.prog 50 x4 fun x5 => eStore Tryz.prog 50 x1 x5 <| eLoad Tryz.prog 50 x1 fun x6 => K (.tup [x6, (.bool true)]))
  (eBuild Tryz.prog 50 [] fun x7 => eStore Tryz.prog 50 x1 x7 <| eLoad Tryz.prog 50 x1 fun x8 => K (.tup [x8, (.bool false)]))
theorem tasks_Table_Get_ee (C : Cal) (N : Nat) (a0 a1 : SV) (K : SV → ER) : eBody Tryz.prog C N Tryz.f19 (Tryz.f19.body.getD .skip) tasks_Table_Get_ea [a0, a1] K = tasks_Table_Get_e C N a0 a1 K := by kernel_rfl
noncomputable def l19 : LeafT := fun C N args K => match args with
  | [a0, a1] => tasks_Table_Get_e C N a0 a1 K
  | _ => eF
theorem lok19 : LeafOk Tryz.prog 19 l19 := ⟨Tryz.f19, Tryz.f19.body.getD .skip, tasks_Table_Get_ea, Tryz.func19, by kernel_rfl, Tryz.call19, fun C N args K H e => by
  unfold l19 at e
  split at e
  · rw [tasks_Table_Get_ee]; exact e
  · exact eF_no e⟩

/- container/heap.up -/
def container_heap_up_ea : Ann := .sub (.loop [(1, .any)] (.sub (.two (.none) (.two (.join (.none) (.two (.none) (.none)) [(17, .any)]) (.two (.none) (.none))))))
noncomputable def container_heap_up_p0 (C : Cal) (a0 : SV) (k5 : SV × Unit → ER) (s2 : SV × Unit) (x4 : SV) : ER :=
  eBin Tryz.prog .eql 3 false x4 s2.1 fun x7 => eIfV x7
  (eHas .any (.bool true) (k5 ((.bool true), ())))
  (eInvokeR Tryz.prog C "Less" a0 [s2.1, x4] 4 fun x8 => eUnS .not x8 fun x9 => eHas .any x9 (k5 (x9, ())))
noncomputable def container_heap_up_p1 (C : Cal) (K : SV → ER) (a0 : SV) (k1 : SV × Unit → ER) (s2 : SV × Unit) : ER :=
  eBin Tryz.prog .sub 3 false s2.1 (.int .i64 1) fun x3 => eBin Tryz.prog .quo 3 false x3 (.int .i64 2) fun x4 => eJoinC (σ := SV × Unit) (fun (k5 : SV × Unit → ER) =>
  container_heap_up_p0 C a0 k5 s2 x4) fun (s6 : SV × Unit) =>
  eIfV s6.1
  (K (.tup []))
  (eInvokeR Tryz.prog C "Swap" a0 [x4, s2.1] 0 fun x10 => eHas .any x4 (k1 (x4, ())))
noncomputable def container_heap_up_e (C : Cal) (N : Nat) (a0 a1 : SV) (K : SV → ER) : ER :=
  eHas .any a1 (eIter (σ := SV × Unit) (fun (s2 : SV × Unit) (k1 : SV × Unit → ER) =>
  container_heap_up_p1 C K a0 k1 s2) N (a1, ()))
theorem container_heap_up_ee (C : Cal) (N : Nat) (a0 a1 : SV) (K : SV → ER) : eBody Tryz.prog C N Tryz.f20 (Tryz.f20.body.getD .skip) container_heap_up_ea [a0, a1] K = container_heap_up_e C N a0 a1 K := by kernel_rfl
noncomputable def l20 : LeafT := fun C N args K => match args with
  | [a0, a1] => container_heap_up_e C N a0 a1 K
  | _ => eF
theorem lok20 : LeafOk Tryz.prog 20 l20 := ⟨Tryz.f20, Tryz.f20.body.getD .skip, container_heap_up_ea, Tryz.func20, by kernel_rfl, Tryz.call20, fun C N args K H e => by
  unfold l20 at e
  split at e
  · rw [container_heap_up_ee]; exact e
  · exact eF_no e⟩

/- halberd/kern.calls -/
def kern_calls_ea : Ann := .two (.none) (.two (.none) (.none))
noncomputable def kern_calls_p0 (K : SV → ER) (x1 : SV) : ER :=
  eBuild Tryz.prog 87 [(1, (.fn 28 [] [])), (2, (.fn 29 [] [])), (3, (.fn 30 [] [])), (4, (.fn 31 [] [])), (5, (.fn 32 [] [])), (6, (.fn 33 [] [])), (7, (.fn 34 [] [])), (8, (.fn 35 [] [])), (9, (.fn 36 [] [])), (10, (.fn 37 [] [])), (11, (.fn 38 [] [])), (12, (.fn 39 [] [])), (13, (.fn 40 [] [])), (14, (.fn 41 [] [])), (15, (.fn 42 [] [])), (16, (.fn 43 [] [])), (17, (.fn 44 [] [])), (18, (.fn 45 [] [])), (19, (.fn 46 [] [])), (20, (.fn 47 [] [])), (21, (.fn 48 [] [])), (22, (.fn 49 [] [])), (23, (.fn 50 [] [])), (24, (.fn 51 [] [])), (25, (.fn 52 [] [])), (26, (.fn 53 [] [])), (27, (.fn 54 [] [])), (28, (.fn 55 [] [])), (29, (.fn 56 [] [])), (30, (.fn 57 [] []))] fun x2 => eStore Tryz.prog 87 x1 x2 <| eLoad Tryz.prog 87 x1 fun x3 => K x3
noncomputable def kern_calls_e (C : Cal) (N : Nat) (K : SV → ER) : ER :=
  eAlloc Tryz.prog 87 fun x1 => kern_calls_p0 K x1
theorem kern_calls_ee (C : Cal) (N : Nat) (K : SV → ER) : eBody Tryz.prog C N Tryz.f21 (Tryz.f21.body.getD .skip) kern_calls_ea [] K = kern_calls_e C N  K := by kernel_rfl
noncomputable def l21 : LeafT := fun C N args K => match args with
  | [] => kern_calls_e C N  K
  | _ => eF
theorem lok21 : LeafOk Tryz.prog 21 l21 := ⟨Tryz.f21, Tryz.f21.body.getD .skip, kern_calls_ea, Tryz.func21, by kernel_rfl, Tryz.call21, fun C N args K H e => by
  unfold l21 at e
  split at e
  · rw [kern_calls_ee]; exact e
  · exact eF_no e⟩

end Go.Proofs.YtnpcjhcgbcpcoaaGreatDoor

set_option linter.unusedVariables false
set_option maxRecDepth 100000
namespace Go.Proofs.YtnpcjhcgbcpcoaaGreatDoor
open Go.Hl
/- (*halberd/tasks.Table).Alive -/
def tasks_Table_Alive_ea : Ann := .two (.none) (.two (.none) (.none))
noncomputable def tasks_Table_Alive_e (C : Cal) (N : Nat) (a0 a1 : SV) (K : SV → ER) : ER :=
  eCallR Tryz.prog C 58 [a0, a1] 94 fun x1 => eBin Tryz.prog .neq 94 true x1 (.ptr none) fun x2 => K x2
theorem tasks_Table_Alive_ee (C : Cal) (N : Nat) (a0 a1 : SV) (K : SV → ER) : eBody Tryz.prog C N Tryz.f22 (Tryz.f22.body.getD .skip) tasks_Table_Alive_ea [a0, a1] K = tasks_Table_Alive_e C N a0 a1 K := by kernel_rfl
noncomputable def l22 : LeafT := fun C N args K => match args with
  | [a0, a1] => tasks_Table_Alive_e C N a0 a1 K
  | _ => eF
theorem lok22 : LeafOk Tryz.prog 22 l22 := ⟨Tryz.f22, Tryz.f22.body.getD .skip, tasks_Table_Alive_ea, Tryz.func22, by kernel_rfl, Tryz.call22, fun C N args K H e => by
  unfold l22 at e
  split at e
  · rw [tasks_Table_Alive_ee]; exact e
  · exact eF_no e⟩

/- (*halberd/tasks.Table).Uses -/
def tasks_Table_Uses_ea : Ann := .two (.none) (.two (.none) (.none))
noncomputable def tasks_Table_Uses_e (C : Cal) (N : Nat) (a0 a1 : SV) (K : SV → ER) : ER :=
  eBox Tryz.prog 3 a1 fun x1 => eCallR Tryz.prog C 14 [a0] 34 fun x2 => eCallR Tryz.prog C 59 [x2, (.fn 60 [] [x1])] 4 fun x3 => K x3
theorem tasks_Table_Uses_ee (C : Cal) (N : Nat) (a0 a1 : SV) (K : SV → ER) : eBody Tryz.prog C N Tryz.f23 (Tryz.f23.body.getD .skip) tasks_Table_Uses_ea [a0, a1] K = tasks_Table_Uses_e C N a0 a1 K := by kernel_rfl
noncomputable def l23 : LeafT := fun C N args K => match args with
  | [a0, a1] => tasks_Table_Uses_e C N a0 a1 K
  | _ => eF
theorem lok23 : LeafOk Tryz.prog 23 l23 := ⟨Tryz.f23, Tryz.f23.body.getD .skip, tasks_Table_Uses_ea, Tryz.func23, by kernel_rfl, Tryz.call23, fun C N args K H e => by
  unfold l23 at e
  split at e
  · rw [tasks_Table_Uses_ee]; exact e
  · exact eF_no e⟩

/- (*halberd/inodes.Table).Free -/
def inodes_Table_Free_ea : Ann := .two (.none) (.two (.none) (.two (.sub (.two (.none) (.two (.two (.none) (.none)) (.two (.none) (.two (.two (.none) (.none)) (.none)))))) (.two (.none) (.two (.none) (.two (.none) (.none))))))
noncomputable def inodes_Table_Free_p0 (C : Cal) (K : SV → ER) (a0 : SV) (a1 : SV) (x1 : SV) : ER :=
  eNilCk x1 fun x4 => eFieldAddr Tryz.prog 40 x4 1 fun x5 => eLoad Tryz.prog 3 x5 fun x6 => eBuild Tryz.prog 40 [(1, x6)] fun x7 => eNilCk x1 fun x8 => eStore Tryz.prog 40 x8 x7 <| eNilCk a0 fun x9 => eFieldAddr Tryz.prog 64 x9 1 fun x10 => eMakeIface Tryz.prog 66 x10 fun x11 => eMakeIface Tryz.prog 3 a1 fun x12 => eCallR Tryz.prog C 15 [x11, x12] 0 fun x13 => K (.int .i64 0)
noncomputable def inodes_Table_Free_e (C : Cal) (N : Nat) (a0 a1 : SV) (K : SV → ER) : ER :=
  eCallR Tryz.prog C 25 [a0, a1] 91 fun x1 => eBin Tryz.prog .eql 91 true x1 (.ptr none) fun x2 => eIfV x2
  (K (.int .i64 2))
  (eBin Tryz.prog .eql 3 false a1 (.int .i64 1) fun x3 => eIfV x3
  (K (.int .i64 22))
  (inodes_Table_Free_p0 C K a0 a1 x1))
theorem inodes_Table_Free_ee (C : Cal) (N : Nat) (a0 a1 : SV) (K : SV → ER) : eBody Tryz.prog C N Tryz.f24 (Tryz.f24.body.getD .skip) inodes_Table_Free_ea [a0, a1] K = inodes_Table_Free_e C N a0 a1 K := by kernel_rfl
noncomputable def l24 : LeafT := fun C N args K => match args with
  | [a0, a1] => inodes_Table_Free_e C N a0 a1 K
  | _ => eF
theorem lok24 : LeafOk Tryz.prog 24 l24 := ⟨Tryz.f24, Tryz.f24.body.getD .skip, inodes_Table_Free_ea, Tryz.func24, by kernel_rfl, Tryz.call24, fun C N args K H e => by
  unfold l24 at e
  split at e
  · rw [inodes_Table_Free_ee]; exact e
  · exact eF_no e⟩

/- (*halberd/inodes.Table).at -/
def inodes_Table_at_ea : Ann := .two (.none) (.two (.join (.none) (.two (.two (.none) (.none)) (.none)) [(24, .any)]) (.two (.none) (.none)))
noncomputable def inodes_Table_at_p0 (a0 : SV) (a1 : SV) (k1 : SV × Unit → ER) : ER :=
  eNilCk a0 fun x6 => eFieldAddr Tryz.prog 64 x6 0 fun x7 => eIndexAddrS Tryz.prog 61 x7 a1 fun x8 => eFieldAddr Tryz.prog 40 x8 2 fun x9 => eLoad Tryz.prog 3 x9 fun x10 => eBin Tryz.prog .eql 3 false x10 (.int .i64 0) fun x11 => eHas .any x11 (k1 (x11, ()))
noncomputable def inodes_Table_at_p1 (a0 : SV) (a1 : SV) (k1 : SV × Unit → ER) : ER :=
  eBin Tryz.prog .lss 3 false a1 (.int .i64 1) fun x4 => eIfV x4
  (eHas .any (.bool true) (k1 ((.bool true), ())))
  (eBin Tryz.prog .geq 3 false a1 (.int .i64 25) fun x5 => eIfV x5
  (eHas .any (.bool true) (k1 ((.bool true), ())))
  (inodes_Table_at_p0 a0 a1 k1))
noncomputable def inodes_Table_at_e (C : Cal) (N : Nat) (a0 a1 : SV) (K : SV → ER) : ER :=
  eJoinC (σ := SV × Unit) (fun (k1 : SV × Unit → ER) =>
  eBin Tryz.prog .eql 53 true a0 (.ptr none) fun x3 => eIfV x3
  (eHas .any (.bool true) (k1 ((.bool true), ())))
  (inodes_Table_at_p1 a0 a1 k1)) fun (s2 : SV × Unit) =>
  eIfV s2.1
  (K (.ptr none))
  (eNilCk a0 fun x12 => eFieldAddr Tryz.prog 64 x12 0 fun x13 => eIndexAddrS Tryz.prog 61 x13 a1 fun x14 => K x14)
theorem inodes_Table_at_ee (C : Cal) (N : Nat) (a0 a1 : SV) (K : SV → ER) : eBody Tryz.prog C N Tryz.f25 (Tryz.f25.body.getD .skip) inodes_Table_at_ea [a0, a1] K = inodes_Table_at_e C N a0 a1 K := by kernel_rfl
noncomputable def l25 : LeafT := fun C N args K => match args with
  | [a0, a1] => inodes_Table_at_e C N a0 a1 K
  | _ => eF
theorem lok25 : LeafOk Tryz.prog 25 l25 := ⟨Tryz.f25, Tryz.f25.body.getD .skip, inodes_Table_at_ea, Tryz.func25, by kernel_rfl, Tryz.call25, fun C N args K H e => by
  unfold l25 at e
  split at e
  · rw [inodes_Table_at_ee]; exact e
  · exact eF_no e⟩

/- halberd/inodes.own -/
def inodes_own_ea : Ann := .two (.none) (.two (.ord [0, 3, 1, 4, 2, 6, 5, 7, 8, 9]) (.two (.none) (.none)))
noncomputable def inodes_own_p0 (C : Cal) (K : SV → ER) (x1 : SV) (x2 : SV) : ER :=
  eFieldAddr Tryz.prog 40 x1 8 fun x3 => eFieldAddr Tryz.prog 40 x1 9 fun x4 => eLoad Tryz.prog 25 x3 fun x5 => eLoad Tryz.prog 38 x4 fun x6 => eCallR Tryz.prog C 65 [x5] 25 fun x7 => fun H => eLoadF Tryz.prog 38 x4 x6 H && (eFieldAddr Tryz.prog 40 x1 8 fun x8 => eCallR Tryz.prog C 66 [x6] 38 fun x9 => eStore Tryz.prog 25 x8 x7 <| eFieldAddr Tryz.prog 40 x1 9 fun x10 => eStore Tryz.prog 38 x10 x9 <| eLoad Tryz.prog 40 x1 fun x11 => eStore Tryz.prog 40 x2 x11 <| eLoad Tryz.prog 40 x2 fun x12 => K x12) H
noncomputable def inodes_own_e (C : Cal) (N : Nat) (a0 : SV) (K : SV → ER) : ER :=
  eBox Tryz.prog 40 a0 fun x1 => eAlloc Tryz.prog 40 fun x2 => inodes_own_p0 C K x1 x2
theorem inodes_own_ee (C : Cal) (N : Nat) (a0 : SV) (K : SV → ER) : eBody Tryz.prog C N Tryz.f26 (Tryz.f26.body.getD .skip) inodes_own_ea [a0] K = inodes_own_e C N a0 K := by kernel_rfl
noncomputable def l26 : LeafT := fun C N args K => match args with
  | [a0] => inodes_own_e C N a0 K
  | _ => eF
theorem lok26 : LeafOk Tryz.prog 26 l26 := ⟨Tryz.f26, Tryz.f26.body.getD .skip, inodes_own_ea, Tryz.func26, by kernel_rfl, Tryz.call26, fun C N args K H e => by
  unfold l26 at e
  split at e
  · rw [inodes_own_ee]; exact e
  · exact eF_no e⟩

/- (*halberd/tasks.Table).at -/
def tasks_Table_at_ea : Ann := .two (.none) (.two (.join (.none) (.two (.two (.none) (.none)) (.none)) [(24, .any)]) (.two (.none) (.none)))
noncomputable def tasks_Table_at_p0 (a0 : SV) (a1 : SV) (k1 : SV × Unit → ER) : ER :=
  eNilCk a0 fun x6 => eFieldAddr Tryz.prog 69 x6 0 fun x7 => eIndexAddrS Tryz.prog 67 x7 a1 fun x8 => eFieldAddr Tryz.prog 50 x8 0 fun x9 => eLoad Tryz.prog 3 x9 fun x10 => eBin Tryz.prog .eql 3 false x10 (.int .i64 0) fun x11 => eHas .any x11 (k1 (x11, ()))
noncomputable def tasks_Table_at_p1 (a0 : SV) (a1 : SV) (k1 : SV × Unit → ER) : ER :=
  eBin Tryz.prog .lss 3 false a1 (.int .i64 1) fun x4 => eIfV x4
  (eHas .any (.bool true) (k1 ((.bool true), ())))
  (eBin Tryz.prog .geq 3 false a1 (.int .i64 9) fun x5 => eIfV x5
  (eHas .any (.bool true) (k1 ((.bool true), ())))
  (tasks_Table_at_p0 a0 a1 k1))
noncomputable def tasks_Table_at_e (C : Cal) (N : Nat) (a0 a1 : SV) (K : SV → ER) : ER :=
  eJoinC (σ := SV × Unit) (fun (k1 : SV × Unit → ER) =>
  eBin Tryz.prog .eql 55 true a0 (.ptr none) fun x3 => eIfV x3
  (eHas .any (.bool true) (k1 ((.bool true), ())))
  (tasks_Table_at_p1 a0 a1 k1)) fun (s2 : SV × Unit) =>
  eIfV s2.1
  (K (.ptr none))
  (eNilCk a0 fun x12 => eFieldAddr Tryz.prog 69 x12 0 fun x13 => eIndexAddrS Tryz.prog 67 x13 a1 fun x14 => K x14)
theorem tasks_Table_at_ee (C : Cal) (N : Nat) (a0 a1 : SV) (K : SV → ER) : eBody Tryz.prog C N Tryz.f27 (Tryz.f27.body.getD .skip) tasks_Table_at_ea [a0, a1] K = tasks_Table_at_e C N a0 a1 K := by kernel_rfl
noncomputable def l27 : LeafT := fun C N args K => match args with
  | [a0, a1] => tasks_Table_at_e C N a0 a1 K
  | _ => eF
theorem lok27 : LeafOk Tryz.prog 27 l27 := ⟨Tryz.f27, Tryz.f27.body.getD .skip, tasks_Table_at_ea, Tryz.func27, by kernel_rfl, Tryz.call27, fun C N args K H e => by
  unfold l27 at e
  split at e
  · rw [tasks_Table_at_ee]; exact e
  · exact eF_no e⟩

/- (*halberd/kern.step).open -/
def kern_step_open_ea : Ann := .two (.none) (.two (.none) (.two (.ord [0, 1, 2, 3, 4, 5, 6, 14, 7, 8, 9, 10, 11, 12, 13, 15]) (.two (.join (.none) (.two (.two (.none) (.none)) (.none)) [(50, .any)]) (.join (.ord [6, 7, 8, 9, 10, 11, 0, 1, 2, 3, 4, 5, 12, 13, 14, 15, 16, 17, 18]) (.two (.two (.none) (.two (.two (.none) (.none)) (.none))) (.two (.none) (.two (.two (.ord [7, 0, 1, 2, 3, 4, 5, 6, 8, 9, 10, 11, 12, 13, 14, 15]) (.two (.none) (.two (.join (.ord [0, 1, 2, 3, 5, 18, 23, 25, 6, 7, 19, 20, 22, 24, 27, 4, 8, 9, 10, 11, 12, 13, 14, 15, 16, 17, 21, 26, 28, 29, 30, 31]) (.two (.two (.none) (.two (.two (.none) (.none)) (.none))) (.two (.ord [2, 0, 1, 3, 5, 4, 6, 7, 8]) (.two (.none) (.none)))) [(12, .any)]) (.none)))) (.two (.join (.ord [0, 1, 2, 3, 9, 13, 4, 5, 6, 8, 10, 12, 14, 16, 18, 7, 11, 15, 17, 19, 20, 21, 22]) (.two (.none) (.two (.two (.none) (.none)) (.none))) [(13, .any)]) (.two (.ord [2, 0, 1, 3, 6, 7, 8, 9, 10, 4, 5, 11, 12, 13]) (.two (.none) (.none))))))) [(7, .any), (8, .any)]))))
noncomputable def kern_step_open_p0 (C : Cal) (x1 : SV) (k24 : SV × Unit → ER) : ER :=
  eLoad Tryz.prog 70 x1 fun x27 => eNilCk x27 fun x28 => eFieldAddr Tryz.prog 76 x28 0 fun x29 => eFieldAddr Tryz.prog 31 x29 3 fun x30 => eLoad Tryz.prog 3 x30 fun x31 => eCallR Tryz.prog C 68 [x31, (.int .i64 0), (.int .i64 511)] 4 fun x32 => eUnS .not x32 fun x33 => eHas .any x33 (k24 (x33, ()))
noncomputable def kern_step_open_p1 (C : Cal) (x1 : SV) (k34 : SV × SV × Unit → ER) : ER :=
  eLoad Tryz.prog 70 x1 fun x37 => eLoad Tryz.prog 70 x1 fun x38 => eNilCk x38 fun x39 => eFieldAddr Tryz.prog 76 x39 0 fun x40 => eFieldAddr Tryz.prog 31 x40 5 fun x41 => eLoad Tryz.prog 9 x41 fun x42 => eCallR Tryz.prog C 69 [x37, x42, (.bool true)] 114 fun x43 => eExtract x43 0 fun x44 => eExtract x43 1 fun x45 => eAlloc Tryz.prog 113 fun x46 => eStore Tryz.prog 113 x46 x44 <| eHas .any x46 (eHas .any x45 (k34 (x46, x45, ())))
noncomputable def kern_step_open_p2 (C : Cal) (x1 : SV) (k34 : SV × SV × Unit → ER) (x23 : SV) : ER :=
  eUnS .not x23 fun x47 => eLoad Tryz.prog 70 x1 fun x48 => eLoad Tryz.prog 70 x1 fun x49 => eNilCk x49 fun x50 => eFieldAddr Tryz.prog 76 x50 0 fun x51 => eFieldAddr Tryz.prog 31 x51 5 fun x52 => eLoad Tryz.prog 9 x52 fun x53 => eCallR Tryz.prog C 69 [x48, x53, x47] 114 fun x54 => eExtract x54 0 fun x55 => eExtract x54 1 fun x56 => eAlloc Tryz.prog 113 fun x57 => eStore Tryz.prog 113 x57 x55 <| eHas .any x57 (eHas .any x56 (k34 (x57, x56, ())))
noncomputable def kern_step_open_p3 (C : Cal) (x1 : SV) (x8 : SV) (k79 : SV × Unit → ER) (x82 : SV) (x83 : SV) (x86 : SV) (x87 : SV) (x88 : SV) (x89 : SV) (x90 : SV) (x91 : SV) (x99 : SV) : ER :=
  fun H => eLoadF Tryz.prog 70 x1 x90 H && (fun H => eLoadF Tryz.prog 3 x83 x89 H && (fun H => eLoadF Tryz.prog 70 x1 x88 H && (fun H => eLoadF Tryz.prog 3 x82 x86 H && (eCallR Tryz.prog C 71 [x87, (.int .i64 40)] 26 fun x100 => fun H => eLoadF Tryz.prog 70 x1 x90 H && (fun H => eLoadF Tryz.prog 3 x83 x89 H && (fun H => eLoadF Tryz.prog 70 x1 x88 H && (eCallR Tryz.prog C 72 [x88, x89, x8] 26 fun x101 => fun H => eLoadF Tryz.prog 70 x1 x90 H && (eCallR Tryz.prog C 73 [x90] 26 fun x102 => eBuildSlice Tryz.prog 164 5 [(0, x91), (1, x99), (2, x100), (3, x101), (4, x102)] fun x103 => eCallR Tryz.prog C 70 [x103] 26 fun x104 => eHas .any x104 (k79 (x104, ()))) H) H) H) H) H) H) H) H
noncomputable def kern_step_open_p4 (C : Cal) (x1 : SV) (x8 : SV) (k79 : SV × Unit → ER) (x82 : SV) (x83 : SV) (x86 : SV) (x87 : SV) (x88 : SV) (x89 : SV) (x90 : SV) (x91 : SV) : ER :=
  eLoad Tryz.prog 70 x1 fun x92 => eNilCk x92 fun x93 => eFieldAddr Tryz.prog 76 x93 0 fun x94 => eFieldAddr Tryz.prog 31 x94 2 fun x95 => eLoad Tryz.prog 3 x95 fun x96 => eBin Tryz.prog .and 3 false x96 (.int .i64 18) fun x97 => eBin Tryz.prog .neq 3 false x97 (.int .i64 0) fun x98 => eCallR Tryz.prog C 71 [x98, (.int .i64 21)] 26 fun x99 => kern_step_open_p3 C x1 x8 k79 x82 x83 x86 x87 x88 x89 x90 x91 x99
noncomputable def kern_step_open_p5 (C : Cal) (x1 : SV) (x8 : SV) (k79 : SV × Unit → ER) (x82 : SV) (x83 : SV) (x86 : SV) (x87 : SV) (x88 : SV) (x89 : SV) (x90 : SV) (x91 : SV) (x105 : SV) : ER :=
  fun H => eLoadF Tryz.prog 70 x1 x90 H && (fun H => eLoadF Tryz.prog 3 x83 x89 H && (fun H => eLoadF Tryz.prog 70 x1 x88 H && (fun H => eLoadF Tryz.prog 3 x82 x86 H && (eCallR Tryz.prog C 71 [x87, (.int .i64 40)] 26 fun x106 => fun H => eLoadF Tryz.prog 70 x1 x90 H && (fun H => eLoadF Tryz.prog 3 x83 x89 H && (fun H => eLoadF Tryz.prog 70 x1 x88 H && (eCallR Tryz.prog C 72 [x88, x89, x8] 26 fun x107 => fun H => eLoadF Tryz.prog 70 x1 x90 H && (eCallR Tryz.prog C 73 [x90] 26 fun x108 => eBuildSlice Tryz.prog 164 5 [(0, x91), (1, x105), (2, x106), (3, x107), (4, x108)] fun x109 => eCallR Tryz.prog C 70 [x109] 26 fun x110 => eHas .any x110 (k79 (x110, ()))) H) H) H) H) H) H) H) H
noncomputable def kern_step_open_p6 (C : Cal) (x1 : SV) (x8 : SV) (k79 : SV × Unit → ER) (x23 : SV) (x81 : SV) (x82 : SV) (x83 : SV) (x84 : SV) (x85 : SV) (x86 : SV) (x87 : SV) (x88 : SV) (x89 : SV) : ER :=
  eLoad Tryz.prog 70 x1 fun x90 => eCallR Tryz.prog C 71 [x23, (.int .i64 17)] 26 fun x91 => fun H => eLoadF Tryz.prog 70 x1 x90 H && (fun H => eLoadF Tryz.prog 3 x83 x89 H && (fun H => eLoadF Tryz.prog 70 x1 x88 H && (fun H => eLoadF Tryz.prog 3 x82 x86 H && (fun H => eLoadF Tryz.prog 3 x81 x84 H && (eIfV x85
  (kern_step_open_p4 C x1 x8 k79 x82 x83 x86 x87 x88 x89 x90 x91)
  (eCallR Tryz.prog C 71 [(.bool false), (.int .i64 21)] 26 fun x105 => kern_step_open_p5 C x1 x8 k79 x82 x83 x86 x87 x88 x89 x90 x91 x105)) H) H) H) H) H
noncomputable def kern_step_open_p7 (C : Cal) (x1 : SV) (x8 : SV) (k79 : SV × Unit → ER) (x23 : SV) (x78 : SV) : ER :=
  eFieldAddr Tryz.prog 40 x78 2 fun x81 => eFieldAddr Tryz.prog 40 x78 2 fun x82 => eFieldAddr Tryz.prog 40 x78 0 fun x83 => eLoad Tryz.prog 3 x81 fun x84 => eBin Tryz.prog .eql 3 false x84 (.int .i64 2) fun x85 => eLoad Tryz.prog 3 x82 fun x86 => eBin Tryz.prog .eql 3 false x86 (.int .i64 3) fun x87 => eLoad Tryz.prog 70 x1 fun x88 => eLoad Tryz.prog 3 x83 fun x89 => kern_step_open_p6 C x1 x8 k79 x23 x81 x82 x83 x84 x85 x86 x87 x88 x89
noncomputable def kern_step_open_p8 (C : Cal) (x1 : SV) (x8 : SV) (k79 : SV × Unit → ER) (x112 : SV) (x113 : SV) (x116 : SV) (x117 : SV) (x118 : SV) (x119 : SV) (x120 : SV) (x121 : SV) (x129 : SV) : ER :=
  fun H => eLoadF Tryz.prog 70 x1 x120 H && (fun H => eLoadF Tryz.prog 3 x113 x119 H && (fun H => eLoadF Tryz.prog 70 x1 x118 H && (fun H => eLoadF Tryz.prog 3 x112 x116 H && (eCallR Tryz.prog C 71 [x117, (.int .i64 40)] 26 fun x130 => fun H => eLoadF Tryz.prog 70 x1 x120 H && (fun H => eLoadF Tryz.prog 3 x113 x119 H && (fun H => eLoadF Tryz.prog 70 x1 x118 H && (eCallR Tryz.prog C 72 [x118, x119, x8] 26 fun x131 => fun H => eLoadF Tryz.prog 70 x1 x120 H && (eCallR Tryz.prog C 73 [x120] 26 fun x132 => eBuildSlice Tryz.prog 164 5 [(0, x121), (1, x129), (2, x130), (3, x131), (4, x132)] fun x133 => eCallR Tryz.prog C 70 [x133] 26 fun x134 => eHas .any x134 (k79 (x134, ()))) H) H) H) H) H) H) H) H
noncomputable def kern_step_open_p9 (C : Cal) (x1 : SV) (x8 : SV) (k79 : SV × Unit → ER) (x112 : SV) (x113 : SV) (x116 : SV) (x117 : SV) (x118 : SV) (x119 : SV) (x120 : SV) (x121 : SV) : ER :=
  eLoad Tryz.prog 70 x1 fun x122 => eNilCk x122 fun x123 => eFieldAddr Tryz.prog 76 x123 0 fun x124 => eFieldAddr Tryz.prog 31 x124 2 fun x125 => eLoad Tryz.prog 3 x125 fun x126 => eBin Tryz.prog .and 3 false x126 (.int .i64 18) fun x127 => eBin Tryz.prog .neq 3 false x127 (.int .i64 0) fun x128 => eCallR Tryz.prog C 71 [x128, (.int .i64 21)] 26 fun x129 => kern_step_open_p8 C x1 x8 k79 x112 x113 x116 x117 x118 x119 x120 x121 x129
noncomputable def kern_step_open_p10 (C : Cal) (x1 : SV) (x8 : SV) (k79 : SV × Unit → ER) (x112 : SV) (x113 : SV) (x116 : SV) (x117 : SV) (x118 : SV) (x119 : SV) (x120 : SV) (x121 : SV) (x135 : SV) : ER :=
  fun H => eLoadF Tryz.prog 70 x1 x120 H && (fun H => eLoadF Tryz.prog 3 x113 x119 H && (fun H => eLoadF Tryz.prog 70 x1 x118 H && (fun H => eLoadF Tryz.prog 3 x112 x116 H && (eCallR Tryz.prog C 71 [x117, (.int .i64 40)] 26 fun x136 => fun H => eLoadF Tryz.prog 70 x1 x120 H && (fun H => eLoadF Tryz.prog 3 x113 x119 H && (fun H => eLoadF Tryz.prog 70 x1 x118 H && (eCallR Tryz.prog C 72 [x118, x119, x8] 26 fun x137 => fun H => eLoadF Tryz.prog 70 x1 x120 H && (eCallR Tryz.prog C 73 [x120] 26 fun x138 => eBuildSlice Tryz.prog 164 5 [(0, x121), (1, x135), (2, x136), (3, x137), (4, x138)] fun x139 => eCallR Tryz.prog C 70 [x139] 26 fun x140 => eHas .any x140 (k79 (x140, ()))) H) H) H) H) H) H) H) H
noncomputable def kern_step_open_p11 (C : Cal) (x1 : SV) (x8 : SV) (k79 : SV × Unit → ER) (x111 : SV) (x112 : SV) (x113 : SV) (x114 : SV) (x115 : SV) (x116 : SV) (x117 : SV) (x118 : SV) (x119 : SV) (x120 : SV) : ER :=
  eCallR Tryz.prog C 71 [(.bool false), (.int .i64 17)] 26 fun x121 => fun H => eLoadF Tryz.prog 70 x1 x120 H && (fun H => eLoadF Tryz.prog 3 x113 x119 H && (fun H => eLoadF Tryz.prog 70 x1 x118 H && (fun H => eLoadF Tryz.prog 3 x112 x116 H && (fun H => eLoadF Tryz.prog 3 x111 x114 H && (eIfV x115
  (kern_step_open_p9 C x1 x8 k79 x112 x113 x116 x117 x118 x119 x120 x121)
  (eCallR Tryz.prog C 71 [(.bool false), (.int .i64 21)] 26 fun x135 => kern_step_open_p10 C x1 x8 k79 x112 x113 x116 x117 x118 x119 x120 x121 x135)) H) H) H) H) H
noncomputable def kern_step_open_p12 (C : Cal) (x1 : SV) (x8 : SV) (k79 : SV × Unit → ER) (x78 : SV) : ER :=
  eFieldAddr Tryz.prog 40 x78 2 fun x111 => eFieldAddr Tryz.prog 40 x78 2 fun x112 => eFieldAddr Tryz.prog 40 x78 0 fun x113 => eLoad Tryz.prog 3 x111 fun x114 => eBin Tryz.prog .eql 3 false x114 (.int .i64 2) fun x115 => eLoad Tryz.prog 3 x112 fun x116 => eBin Tryz.prog .eql 3 false x116 (.int .i64 3) fun x117 => eLoad Tryz.prog 70 x1 fun x118 => eLoad Tryz.prog 3 x113 fun x119 => eLoad Tryz.prog 70 x1 fun x120 => kern_step_open_p11 C x1 x8 k79 x111 x112 x113 x114 x115 x116 x117 x118 x119 x120
noncomputable def kern_step_open_p13 (C : Cal) (K : SV → ER) (x1 : SV) (x65 : SV) (x78 : SV) (x143 : SV) (x144 : SV) (x145 : SV) : ER :=
  eLoad Tryz.prog 3 x65 fun x146 => eCallR Tryz.prog C 75 [x144, x145] 126 fun x147 => fun H => eLoadF Tryz.prog 3 x65 x146 H && (fun H => eLoadF Tryz.prog 70 x1 x143 H && (eCallR Tryz.prog C 76 [x146] 126 fun x148 => fun H => eLoadF Tryz.prog 70 x1 x143 H && (eBuildSlice Tryz.prog 166 2 [(0, x147), (1, x148)] fun x149 => eCallR Tryz.prog C 74 [x143, (.int .i64 1), x149] 0 fun x150 => eLoad Tryz.prog 70 x1 fun x151 => eCallR Tryz.prog C 77 [x151, (.fn 78 [] [x1, x78, x65])] 26 fun x152 => K x152) H) H) H
noncomputable def kern_step_open_p14 (C : Cal) (K : SV → ER) (x1 : SV) (s80 : SV × Unit) (x65 : SV) (x78 : SV) : ER :=
  eBin Tryz.prog .neq 26 false s80.1 (.int .i64 0) fun x141 => eIfV x141
  (K s80.1)
  (eFieldAddr Tryz.prog 40 x78 0 fun x142 => eLoad Tryz.prog 70 x1 fun x143 => eLoad Tryz.prog 70 x1 fun x144 => eLoad Tryz.prog 3 x142 fun x145 => kern_step_open_p13 C K x1 x65 x78 x143 x144 x145)
noncomputable def kern_step_open_p15 (C : Cal) (K : SV → ER) (x1 : SV) (x8 : SV) (x16 : SV) (x23 : SV) (x65 : SV) (x78 : SV) : ER :=
  eJoinC (σ := SV × Unit) (fun (k79 : SV × Unit → ER) =>
  eIfV x16
  (kern_step_open_p7 C x1 x8 k79 x23 x78)
  (kern_step_open_p12 C x1 x8 k79 x78)) fun (s80 : SV × Unit) =>
  kern_step_open_p14 C K x1 s80 x65 x78
noncomputable def kern_step_open_p16 (C : Cal) (x1 : SV) (k153 : SV × Unit → ER) (x157 : SV) (x160 : SV) (x161 : SV) (x162 : SV) (x163 : SV) (x164 : SV) (x165 : SV) : ER :=
  fun H => eLoadF Tryz.prog 70 x1 x163 H && (fun H => eLoadF Tryz.prog 70 x1 x162 H && (fun H => eLoadF Tryz.prog 3 x157 x161 H && (fun H => eLoadF Tryz.prog 70 x1 x160 H && (eCallR Tryz.prog C 81 [x160, x161] 26 fun x166 => fun H => eLoadF Tryz.prog 70 x1 x163 H && (fun H => eLoadF Tryz.prog 70 x1 x162 H && (eCallR Tryz.prog C 82 [x162] 26 fun x167 => fun H => eLoadF Tryz.prog 70 x1 x163 H && (eCallR Tryz.prog C 73 [x163] 26 fun x168 => eBuildSlice Tryz.prog 164 5 [(0, x164), (1, x165), (2, x166), (3, x167), (4, x168)] fun x169 => eCallR Tryz.prog C 70 [x169] 26 fun x170 => eHas .any x170 (k153 (x170, ()))) H) H) H) H) H) H) H
noncomputable def kern_step_open_p17 (C : Cal) (x1 : SV) (k153 : SV × Unit → ER) (x156 : SV) (x157 : SV) (x158 : SV) (x159 : SV) (x160 : SV) (x161 : SV) (x162 : SV) : ER :=
  eLoad Tryz.prog 70 x1 fun x163 => eCallR Tryz.prog C 71 [(.bool true), (.int .i64 2)] 26 fun x164 => fun H => eLoadF Tryz.prog 70 x1 x163 H && (fun H => eLoadF Tryz.prog 70 x1 x162 H && (fun H => eLoadF Tryz.prog 3 x157 x161 H && (fun H => eLoadF Tryz.prog 70 x1 x160 H && (fun H => eLoadF Tryz.prog 3 x156 x159 H && (fun H => eLoadF Tryz.prog 70 x1 x158 H && (eCallR Tryz.prog C 72 [x158, x159, (.int .i64 2)] 26 fun x165 => kern_step_open_p16 C x1 k153 x157 x160 x161 x162 x163 x164 x165) H) H) H) H) H) H
noncomputable def kern_step_open_p18 (C : Cal) (x1 : SV) (s35 : SV × SV × Unit) (k153 : SV × Unit → ER) : ER :=
  eFieldAddr Tryz.prog 113 s35.1 0 fun x156 => eFieldAddr Tryz.prog 113 s35.1 0 fun x157 => eLoad Tryz.prog 70 x1 fun x158 => eLoad Tryz.prog 3 x156 fun x159 => eLoad Tryz.prog 70 x1 fun x160 => eLoad Tryz.prog 3 x157 fun x161 => eLoad Tryz.prog 70 x1 fun x162 => kern_step_open_p17 C x1 k153 x156 x157 x158 x159 x160 x161 x162
noncomputable def kern_step_open_p19 (C : Cal) (x1 : SV) (k153 : SV × Unit → ER) (x173 : SV) (x178 : SV) (x179 : SV) (x180 : SV) (x181 : SV) (x182 : SV) (x183 : SV) : ER :=
  fun H => eLoadF Tryz.prog 70 x1 x181 H && (fun H => eLoadF Tryz.prog 70 x1 x180 H && (fun H => eLoadF Tryz.prog 3 x173 x179 H && (fun H => eLoadF Tryz.prog 70 x1 x178 H && (eCallR Tryz.prog C 81 [x178, x179] 26 fun x184 => fun H => eLoadF Tryz.prog 70 x1 x181 H && (fun H => eLoadF Tryz.prog 70 x1 x180 H && (eCallR Tryz.prog C 82 [x180] 26 fun x185 => fun H => eLoadF Tryz.prog 70 x1 x181 H && (eCallR Tryz.prog C 73 [x181] 26 fun x186 => eBuildSlice Tryz.prog 164 5 [(0, x182), (1, x183), (2, x184), (3, x185), (4, x186)] fun x187 => eCallR Tryz.prog C 70 [x187] 26 fun x188 => eHas .any x188 (k153 (x188, ()))) H) H) H) H) H) H) H
noncomputable def kern_step_open_p20 (C : Cal) (x1 : SV) (k153 : SV × Unit → ER) (x172 : SV) (x173 : SV) (x175 : SV) (x176 : SV) (x177 : SV) (x178 : SV) (x179 : SV) : ER :=
  eLoad Tryz.prog 70 x1 fun x180 => eLoad Tryz.prog 70 x1 fun x181 => eCallR Tryz.prog C 71 [x175, (.int .i64 2)] 26 fun x182 => fun H => eLoadF Tryz.prog 70 x1 x181 H && (fun H => eLoadF Tryz.prog 70 x1 x180 H && (fun H => eLoadF Tryz.prog 3 x173 x179 H && (fun H => eLoadF Tryz.prog 70 x1 x178 H && (fun H => eLoadF Tryz.prog 3 x172 x177 H && (fun H => eLoadF Tryz.prog 70 x1 x176 H && (eCallR Tryz.prog C 72 [x176, x177, (.int .i64 2)] 26 fun x183 => kern_step_open_p19 C x1 k153 x173 x178 x179 x180 x181 x182 x183) H) H) H) H) H) H
noncomputable def kern_step_open_p21 (C : Cal) (x1 : SV) (s35 : SV × SV × Unit) (k153 : SV × Unit → ER) : ER :=
  eFieldAddr Tryz.prog 113 s35.1 1 fun x171 => eFieldAddr Tryz.prog 113 s35.1 0 fun x172 => eFieldAddr Tryz.prog 113 s35.1 0 fun x173 => eLoad Tryz.prog 9 x171 fun x174 => eBin Tryz.prog .eql 9 false x174 (.str []) fun x175 => eLoad Tryz.prog 70 x1 fun x176 => eLoad Tryz.prog 3 x172 fun x177 => eLoad Tryz.prog 70 x1 fun x178 => eLoad Tryz.prog 3 x173 fun x179 => kern_step_open_p20 C x1 k153 x172 x173 x175 x176 x177 x178 x179
noncomputable def kern_step_open_p22 (C : Cal) (K : SV → ER) (x1 : SV) (s35 : SV × SV × Unit) (x65 : SV) (x191 : SV) (x194 : SV) (x197 : SV) (x198 : SV) (x199 : SV) : ER :=
  fun H => eLoadF Tryz.prog 3 x197 x198 H && (fun H => eLoadF Tryz.prog 70 x1 x194 H && (fun H => eLoadF Tryz.prog 70 x1 x191 H && (eCallR Tryz.prog C 76 [(.int .i64 1)] 126 fun x200 => fun H => eLoadF Tryz.prog 3 x197 x198 H && (fun H => eLoadF Tryz.prog 70 x1 x194 H && (fun H => eLoadF Tryz.prog 70 x1 x191 H && (eCallR Tryz.prog C 76 [x198] 126 fun x201 => fun H => eLoadF Tryz.prog 70 x1 x191 H && (eBuildSlice Tryz.prog 166 3 [(0, x199), (1, x200), (2, x201)] fun x202 => eCallR Tryz.prog C 74 [x191, (.int .i64 3), x202] 0 fun x203 => eLoad Tryz.prog 70 x1 fun x204 => eCallR Tryz.prog C 77 [x204, (.fn 83 [] [x1, s35.1, x65])] 26 fun x205 => K x205) H) H) H) H) H) H) H
noncomputable def kern_step_open_p23 (C : Cal) (K : SV → ER) (x1 : SV) (s35 : SV × SV × Unit) (x65 : SV) : ER :=
  eFieldAddr Tryz.prog 113 s35.1 0 fun x190 => eLoad Tryz.prog 70 x1 fun x191 => eLoad Tryz.prog 70 x1 fun x192 => eLoad Tryz.prog 3 x190 fun x193 => eLoad Tryz.prog 70 x1 fun x194 => eNilCk x194 fun x195 => eFieldAddr Tryz.prog 76 x195 0 fun x196 => eFieldAddr Tryz.prog 31 x196 3 fun x197 => eLoad Tryz.prog 3 x197 fun x198 => eCallR Tryz.prog C 75 [x192, x193] 126 fun x199 => kern_step_open_p22 C K x1 s35 x65 x191 x194 x197 x198 x199
noncomputable def kern_step_open_p24 (C : Cal) (K : SV → ER) (x1 : SV) (s35 : SV × SV × Unit) (x16 : SV) (x65 : SV) : ER :=
  eJoinC (σ := SV × Unit) (fun (k153 : SV × Unit → ER) =>
  eUnS .not x16 fun x155 => eIfV x155
  (kern_step_open_p18 C x1 s35 k153)
  (kern_step_open_p21 C x1 s35 k153)) fun (s154 : SV × Unit) =>
  eBin Tryz.prog .neq 26 false s154.1 (.int .i64 0) fun x189 => eIfV x189
  (K s154.1)
  (kern_step_open_p23 C K x1 s35 x65)
noncomputable def kern_step_open_p25 (C : Cal) (K : SV → ER) (x1 : SV) (x8 : SV) (s35 : SV × SV × Unit) (x16 : SV) (x23 : SV) (x65 : SV) (x66 : SV) : ER :=
  eLoad Tryz.prog 70 x1 fun x67 => eNilCk x67 fun x68 => eFieldAddr Tryz.prog 76 x68 1 fun x69 => eLoad Tryz.prog 23 x69 fun x70 => eNilCk x70 fun x71 => eFieldAddr Tryz.prog 58 x71 0 fun x72 => eLoad Tryz.prog 53 x72 fun x73 => eLoad Tryz.prog 3 x66 fun x74 => eCallR Tryz.prog C 18 [x73, x74] 77 fun x75 => eExtract x75 0 fun x76 => eExtract x75 1 fun x77 => eAlloc Tryz.prog 40 fun x78 => eStore Tryz.prog 40 x78 x76 <| eIfV x77
  (kern_step_open_p15 C K x1 x8 x16 x23 x65 x78)
  (kern_step_open_p24 C K x1 s35 x16 x65)
noncomputable def kern_step_open_p26 (C : Cal) (K : SV → ER) (x1 : SV) (x8 : SV) (s35 : SV × SV × Unit) (x16 : SV) (x23 : SV) : ER :=
  eLoad Tryz.prog 70 x1 fun x59 => eNilCk x59 fun x60 => eFieldAddr Tryz.prog 76 x60 0 fun x61 => eFieldAddr Tryz.prog 31 x61 2 fun x62 => eLoad Tryz.prog 3 x62 fun x63 => eBin Tryz.prog .and 3 false x63 (.int .i64 3) fun x64 => eAlloc Tryz.prog 3 fun x65 => eStore Tryz.prog 3 x65 x64 <| eFieldAddr Tryz.prog 113 s35.1 2 fun x66 => kern_step_open_p25 C K x1 x8 s35 x16 x23 x65 x66
noncomputable def kern_step_open_p27 (C : Cal) (K : SV → ER) (x1 : SV) (x8 : SV) (x16 : SV) (x23 : SV) : ER :=
  eJoinC (σ := SV × SV × Unit) (fun (k34 : SV × SV × Unit → ER) =>
  eUnS .not x16 fun x36 => eIfV x36
  (kern_step_open_p1 C x1 k34)
  (kern_step_open_p2 C x1 k34 x23)) fun (s35 : SV × SV × Unit) =>
  eBin Tryz.prog .neq 26 false s35.2.1 (.int .i64 0) fun x58 => eIfV x58
  (K s35.2.1)
  (kern_step_open_p26 C K x1 x8 s35 x16 x23)
noncomputable def kern_step_open_p28 (C : Cal) (K : SV → ER) (x1 : SV) (x8 : SV) (x9 : SV) (x16 : SV) (x19 : SV) : ER :=
  eFieldAddr Tryz.prog 31 x19 2 fun x20 => eLoad Tryz.prog 3 x20 fun x21 => eBin Tryz.prog .and 3 false x21 (.int .i64 8) fun x22 => eBin Tryz.prog .neq 3 false x22 (.int .i64 0) fun x23 => eJoinC (σ := SV × Unit) (fun (k24 : SV × Unit → ER) =>
  eUnS .not x9 fun x26 => eIfV x26
  (eHas .any (.bool true) (k24 ((.bool true), ())))
  (eIfV x16
  (kern_step_open_p0 C x1 k24)
  (eHas .any (.bool false) (k24 ((.bool false), ()))))) fun (s25 : SV × Unit) =>
  eIfV s25.1
  (K (.int .i64 22))
  (kern_step_open_p27 C K x1 x8 x16 x23)
noncomputable def kern_step_open_p29 (C : Cal) (K : SV → ER) (x1 : SV) (x6 : SV) : ER :=
  eCallR Tryz.prog C 67 [x6] 109 fun x7 => eExtract x7 0 fun x8 => eExtract x7 1 fun x9 => eLoad Tryz.prog 70 x1 fun x10 => eNilCk x10 fun x11 => eFieldAddr Tryz.prog 76 x11 0 fun x12 => eFieldAddr Tryz.prog 31 x12 2 fun x13 => eLoad Tryz.prog 3 x13 fun x14 => eBin Tryz.prog .and 3 false x14 (.int .i64 4) fun x15 => eBin Tryz.prog .neq 3 false x15 (.int .i64 0) fun x16 => eLoad Tryz.prog 70 x1 fun x17 => eNilCk x17 fun x18 => eFieldAddr Tryz.prog 76 x18 0 fun x19 => kern_step_open_p28 C K x1 x8 x9 x16 x19
noncomputable def kern_step_open_e (C : Cal) (N : Nat) (a0 : SV) (K : SV → ER) : ER :=
  eBox Tryz.prog 70 a0 fun x1 => eLoad Tryz.prog 70 x1 fun x2 => eNilCk x2 fun x3 => eFieldAddr Tryz.prog 76 x3 0 fun x4 => eFieldAddr Tryz.prog 31 x4 2 fun x5 => eLoad Tryz.prog 3 x5 fun x6 => kern_step_open_p29 C K x1 x6
theorem kern_step_open_ee (C : Cal) (N : Nat) (a0 : SV) (K : SV → ER) : eBody Tryz.prog C N Tryz.f28 (Tryz.f28.body.getD .skip) kern_step_open_ea [a0] K = kern_step_open_e C N a0 K := by kernel_rfl
noncomputable def l28 : LeafT := fun C N args K => match args with
  | [a0] => kern_step_open_e C N a0 K
  | _ => eF
theorem lok28 : LeafOk Tryz.prog 28 l28 := ⟨Tryz.f28, Tryz.f28.body.getD .skip, kern_step_open_ea, Tryz.func28, by kernel_rfl, Tryz.call28, fun C N args K H e => by
  unfold l28 at e
  split at e
  · rw [kern_step_open_ee]; exact e
  · exact eF_no e⟩

/- (*halberd/kern.step).write -/
def kern_step_write_ea : Ann := .two (.none) (.two (.none) (.two (.ord [7, 0, 1, 2, 3, 4, 5, 6, 8, 9, 10, 11, 12, 13, 14, 15]) (.two (.ord [0, 1, 2, 3, 4, 5, 6, 7, 8, 9, 10]) (.two (.two (.ord [0, 1, 2, 3, 4, 6, 7, 5, 8, 9, 10, 11]) (.two (.none) (.two (.two (.none) (.none)) (.none)))) (.two (.ord [2, 0, 1, 3, 4, 5, 6, 7]) (.two (.none) (.none)))))))
noncomputable def kern_step_write_p0 (C : Cal) (K : SV → ER) (x1 : SV) (x6 : SV) (x19 : SV) (x29 : SV) (x41 : SV) : ER :=
  eLoad Tryz.prog 70 x1 fun x42 => eLoad Tryz.prog 70 x1 fun x43 => eLoad Tryz.prog 3 x41 fun x44 => eCallR Tryz.prog C 75 [x43, x44] 126 fun x45 => fun H => eLoadF Tryz.prog 70 x1 x42 H && (eCallR Tryz.prog C 76 [(.int .i64 2)] 126 fun x46 => fun H => eLoadF Tryz.prog 70 x1 x42 H && (eBuildSlice Tryz.prog 166 2 [(0, x45), (1, x46)] fun x47 => eCallR Tryz.prog C 74 [x42, (.int .i64 2), x47] 0 fun x48 => eLoad Tryz.prog 70 x1 fun x49 => eCallR Tryz.prog C 77 [x49, (.fn 91 [] [x19, x6, x1, x29])] 26 fun x50 => K x50) H) H
noncomputable def kern_step_write_p1 (C : Cal) (K : SV → ER) (x1 : SV) (x5 : SV) (x6 : SV) (x19 : SV) (x29 : SV) (x33 : SV) : ER :=
  eLoad Tryz.prog 3 x29 fun x34 => eBin Tryz.prog .gtr 3 false x34 (.int .i64 32) fun x35 => eCallR Tryz.prog C 71 [x33, (.int .i64 9)] 26 fun x36 => fun H => eLoadF Tryz.prog 3 x29 x34 H && (eCallR Tryz.prog C 71 [x35, (.int .i64 27)] 26 fun x37 => eBuildSlice Tryz.prog 164 3 [(0, x5), (1, x36), (2, x37)] fun x38 => eCallR Tryz.prog C 70 [x38] 26 fun x39 => eBin Tryz.prog .neq 26 false x39 (.int .i64 0) fun x40 => eIfV x40
  (K x39)
  (eFieldAddr Tryz.prog 44 x6 0 fun x41 => kern_step_write_p0 C K x1 x6 x19 x29 x41)) H
noncomputable def kern_step_write_p2 (C : Cal) (K : SV → ER) (x1 : SV) (x5 : SV) (x6 : SV) (x19 : SV) (x21 : SV) (x22 : SV) : ER :=
  eNilCk x22 fun x23 => eFieldAddr Tryz.prog 76 x23 0 fun x24 => eFieldAddr Tryz.prog 31 x24 5 fun x25 => eLoad Tryz.prog 9 x25 fun x26 => eLenS Tryz.prog [9] [x26] fun x27 => eBin Tryz.prog .add 3 false x21 x27 fun x28 => eAlloc Tryz.prog 3 fun x29 => eStore Tryz.prog 3 x29 x28 <| eFieldAddr Tryz.prog 44 x6 1 fun x30 => eLoad Tryz.prog 3 x30 fun x31 => eBin Tryz.prog .and 3 false x31 (.int .i64 2) fun x32 => eBin Tryz.prog .eql 3 false x32 (.int .i64 0) fun x33 => kern_step_write_p1 C K x1 x5 x6 x19 x29 x33
noncomputable def kern_step_write_p3 (C : Cal) (K : SV → ER) (x1 : SV) (x5 : SV) (x6 : SV) (x7 : SV) (x9 : SV) : ER :=
  eFieldAddr Tryz.prog 76 x9 1 fun x10 => eLoad Tryz.prog 23 x10 fun x11 => eNilCk x11 fun x12 => eFieldAddr Tryz.prog 58 x12 0 fun x13 => eLoad Tryz.prog 53 x13 fun x14 => eLoad Tryz.prog 3 x7 fun x15 => eCallR Tryz.prog C 18 [x14, x15] 77 fun x16 => eExtract x16 0 fun x17 => eExtract x16 1 fun x18 => eAlloc Tryz.prog 40 fun x19 => eStore Tryz.prog 40 x19 x17 <| eFieldAddr Tryz.prog 44 x6 2 fun x20 => eLoad Tryz.prog 3 x20 fun x21 => eLoad Tryz.prog 70 x1 fun x22 => kern_step_write_p2 C K x1 x5 x6 x19 x21 x22
noncomputable def kern_step_write_e (C : Cal) (N : Nat) (a0 : SV) (K : SV → ER) : ER :=
  eBox Tryz.prog 70 a0 fun x1 => eLoad Tryz.prog 70 x1 fun x2 => eCallR Tryz.prog C 85 [x2] 134 fun x3 => eExtract x3 0 fun x4 => eExtract x3 1 fun x5 => eAlloc Tryz.prog 44 fun x6 => eStore Tryz.prog 44 x6 x4 <| eFieldAddr Tryz.prog 44 x6 0 fun x7 => eLoad Tryz.prog 70 x1 fun x8 => eNilCk x8 fun x9 => kern_step_write_p3 C K x1 x5 x6 x7 x9
theorem kern_step_write_ee (C : Cal) (N : Nat) (a0 : SV) (K : SV → ER) : eBody Tryz.prog C N Tryz.f31 (Tryz.f31.body.getD .skip) kern_step_write_ea [a0] K = kern_step_write_e C N a0 K := by kernel_rfl
noncomputable def l31 : LeafT := fun C N args K => match args with
  | [a0] => kern_step_write_e C N a0 K
  | _ => eF
theorem lok31 : LeafOk Tryz.prog 31 l31 := ⟨Tryz.f31, Tryz.f31.body.getD .skip, kern_step_write_ea, Tryz.func31, by kernel_rfl, Tryz.call31, fun C N args K H e => by
  unfold l31 at e
  split at e
  · rw [kern_step_write_ee]; exact e
  · exact eF_no e⟩

end Go.Proofs.YtnpcjhcgbcpcoaaGreatDoor

set_option linter.unusedVariables false
set_option maxRecDepth 100000
namespace Go.Proofs.YtnpcjhcgbcpcoaaGreatDoor
open Go.Hl
/- (*halberd/kern.step).mkdir -/
def kern_step_mkdir_ea : Ann := .two (.none) (.two (.two (.none) (.two (.two (.none) (.none)) (.none))) (.two (.ord [0, 1, 2, 3, 4, 5, 6, 7, 8, 9, 10, 11, 12]) (.two (.two (.none) (.two (.none) (.two (.two (.none) (.none)) (.none)))) (.two (.ord [2, 0, 1, 3, 6, 7, 8, 9, 10, 4, 5, 11, 12, 13]) (.two (.none) (.none))))))
noncomputable def kern_step_mkdir_p0 (C : Cal) (K : SV → ER) (x1 : SV) (x18 : SV) (x25 : SV) (x28 : SV) (x31 : SV) (x32 : SV) (x33 : SV) : ER :=
  fun H => eLoadF Tryz.prog 3 x31 x32 H && (fun H => eLoadF Tryz.prog 70 x1 x28 H && (fun H => eLoadF Tryz.prog 70 x1 x25 H && (eCallR Tryz.prog C 76 [(.int .i64 2)] 126 fun x34 => fun H => eLoadF Tryz.prog 3 x31 x32 H && (fun H => eLoadF Tryz.prog 70 x1 x28 H && (fun H => eLoadF Tryz.prog 70 x1 x25 H && (eCallR Tryz.prog C 76 [x32] 126 fun x35 => fun H => eLoadF Tryz.prog 70 x1 x25 H && (eBuildSlice Tryz.prog 166 3 [(0, x33), (1, x34), (2, x35)] fun x36 => eCallR Tryz.prog C 74 [x25, (.int .i64 3), x36] 0 fun x37 => eLoad Tryz.prog 70 x1 fun x38 => eCallR Tryz.prog C 86 [x38, (.fn 95 [] [x1, x18])] 26 fun x39 => K x39) H) H) H) H) H) H) H
noncomputable def kern_step_mkdir_p1 (C : Cal) (K : SV → ER) (x1 : SV) (x18 : SV) : ER :=
  eFieldAddr Tryz.prog 113 x18 0 fun x24 => eLoad Tryz.prog 70 x1 fun x25 => eLoad Tryz.prog 70 x1 fun x26 => eLoad Tryz.prog 3 x24 fun x27 => eLoad Tryz.prog 70 x1 fun x28 => eNilCk x28 fun x29 => eFieldAddr Tryz.prog 76 x29 0 fun x30 => eFieldAddr Tryz.prog 31 x30 2 fun x31 => eLoad Tryz.prog 3 x31 fun x32 => eCallR Tryz.prog C 75 [x26, x27] 126 fun x33 => kern_step_mkdir_p0 C K x1 x18 x25 x28 x31 x32 x33
noncomputable def kern_step_mkdir_p2 (C : Cal) (K : SV → ER) (x1 : SV) (x9 : SV) (x12 : SV) : ER :=
  eFieldAddr Tryz.prog 31 x12 5 fun x13 => eLoad Tryz.prog 9 x13 fun x14 => eCallR Tryz.prog C 94 [x9, x14] 114 fun x15 => eExtract x15 0 fun x16 => eExtract x15 1 fun x17 => eAlloc Tryz.prog 113 fun x18 => eStore Tryz.prog 113 x18 x16 <| eLoad Tryz.prog 70 x1 fun x19 => eCallR Tryz.prog C 82 [x19] 26 fun x20 => eBuildSlice Tryz.prog 164 2 [(0, x17), (1, x20)] fun x21 => eCallR Tryz.prog C 70 [x21] 26 fun x22 => eBin Tryz.prog .neq 26 false x22 (.int .i64 0) fun x23 => eIfV x23
  (K x22)
  (kern_step_mkdir_p1 C K x1 x18)
noncomputable def kern_step_mkdir_e (C : Cal) (N : Nat) (a0 : SV) (K : SV → ER) : ER :=
  eBox Tryz.prog 70 a0 fun x1 => eLoad Tryz.prog 70 x1 fun x2 => eNilCk x2 fun x3 => eFieldAddr Tryz.prog 76 x3 0 fun x4 => eFieldAddr Tryz.prog 31 x4 2 fun x5 => eLoad Tryz.prog 3 x5 fun x6 => eCallR Tryz.prog C 68 [x6, (.int .i64 0), (.int .i64 511)] 4 fun x7 => eUnS .not x7 fun x8 => eIfV x8
  (K (.int .i64 22))
  (eLoad Tryz.prog 70 x1 fun x9 => eLoad Tryz.prog 70 x1 fun x10 => eNilCk x10 fun x11 => eFieldAddr Tryz.prog 76 x11 0 fun x12 => kern_step_mkdir_p2 C K x1 x9 x12)
theorem kern_step_mkdir_ee (C : Cal) (N : Nat) (a0 : SV) (K : SV → ER) : eBody Tryz.prog C N Tryz.f33 (Tryz.f33.body.getD .skip) kern_step_mkdir_ea [a0] K = kern_step_mkdir_e C N a0 K := by kernel_rfl
noncomputable def l33 : LeafT := fun C N args K => match args with
  | [a0] => kern_step_mkdir_e C N a0 K
  | _ => eF
theorem lok33 : LeafOk Tryz.prog 33 l33 := ⟨Tryz.f33, Tryz.f33.body.getD .skip, kern_step_mkdir_ea, Tryz.func33, by kernel_rfl, Tryz.call33, fun C N args K H e => by
  unfold l33 at e
  split at e
  · rw [kern_step_mkdir_ee]; exact e
  · exact eF_no e⟩

/- (*halberd/kern.step).rename -/
def kern_step_rename_ea : Ann := .two (.none) (.two (.ord [0, 1, 2, 3, 4, 5, 6, 7, 8, 9, 10, 11, 12, 13, 14, 15]) (.two (.two (.none) (.two (.none) (.two (.two (.none) (.none)) (.none)))) (.two (.ord [0, 1, 2, 3, 4, 5, 6, 7, 8, 9, 10, 11, 12]) (.two (.two (.none) (.two (.none) (.two (.two (.none) (.none)) (.none)))) (.two (.two (.ord [1, 5, 0, 2, 4, 6, 3, 7, 8, 9, 10]) (.two (.none) (.two (.two (.none) (.none)) (.none)))) (.two (.two (.none) (.two (.two (.none) (.none)) (.none))) (.two (.ord [7, 0, 1, 2, 3, 4, 5, 6, 8, 9, 10, 11, 12, 13, 14, 15, 16]) (.join (.none) (.join (.two (.none) (.two (.none) (.two (.none) (.two (.none) (.none))))) (.two (.two (.none) (.two (.two (.none) (.none)) (.none))) (.two (.ord [2, 6, 10, 14, 0, 1, 3, 5, 7, 9, 11, 13, 15, 4, 8, 12, 16, 17, 18]) (.two (.none) (.none)))) [(5, .any)]) [(5, .any)]))))))))
noncomputable def kern_step_rename_p0 (C : Cal) (x1 : SV) (k70 : SV × Unit → ER) (x13 : SV) (x30 : SV) : ER :=
  eLoad Tryz.prog 70 x1 fun x75 => eFieldAddr Tryz.prog 113 x30 0 fun x76 => eLoad Tryz.prog 3 x76 fun x77 => eFieldAddr Tryz.prog 40 x13 0 fun x78 => eLoad Tryz.prog 3 x78 fun x79 => eCallR Tryz.prog C 106 [x75, x77, x79] 4 fun x80 => eCallR Tryz.prog C 71 [x80, (.int .i64 22)] 26 fun x81 => eHas .any x81 (k70 (x81, ()))
noncomputable def kern_step_rename_p1 (C : Cal) (x1 : SV) (k83 : SV × Unit → ER) (s71 : SV × Unit) (x13 : SV) (x68 : SV) : ER :=
  eLoad Tryz.prog 70 x1 fun x86 => eLoad Tryz.prog 40 x13 fun x87 => eLoad Tryz.prog 40 x68 fun x88 => eCallR Tryz.prog C 107 [x86, x87, x88] 26 fun x89 => eBuildSlice Tryz.prog 164 2 [(0, s71.1), (1, x89)] fun x90 => eCallR Tryz.prog C 70 [x90] 26 fun x91 => eHas .any x91 (k83 (x91, ()))
noncomputable def kern_step_rename_p2 (C : Cal) (x1 : SV) (k83 : SV × Unit → ER) (s71 : SV × Unit) (x30 : SV) : ER :=
  eLoad Tryz.prog 70 x1 fun x97 => eFieldAddr Tryz.prog 113 x30 0 fun x98 => eLoad Tryz.prog 3 x98 fun x99 => eCallR Tryz.prog C 81 [x97, x99] 26 fun x100 => eBuildSlice Tryz.prog 164 2 [(0, s71.1), (1, x100)] fun x101 => eCallR Tryz.prog C 70 [x101] 26 fun x102 => eHas .any x102 (k83 (x102, ()))
noncomputable def kern_step_rename_p3 (C : Cal) (x1 : SV) (k83 : SV × Unit → ER) (s71 : SV × Unit) (x12 : SV) (x30 : SV) : ER :=
  eFieldAddr Tryz.prog 113 x12 0 fun x92 => eLoad Tryz.prog 3 x92 fun x93 => eFieldAddr Tryz.prog 113 x30 0 fun x94 => eLoad Tryz.prog 3 x94 fun x95 => eBin Tryz.prog .neq 3 false x93 x95 fun x96 => eIfV x96
  (kern_step_rename_p2 C x1 k83 s71 x30)
  (eHas .any s71.1 (k83 (s71.1, ())))
noncomputable def kern_step_rename_p4 (C : Cal) (K : SV → ER) (x1 : SV) (x12 : SV) (x13 : SV) (x30 : SV) (x69 : SV) (x107 : SV) (x108 : SV) (x115 : SV) (x116 : SV) (x117 : SV) (x118 : SV) (x119 : SV) : ER :=
  fun H => eLoadF Tryz.prog 3 x107 x116 H && (fun H => eLoadF Tryz.prog 70 x1 x115 H && (fun H => eLoadF Tryz.prog 70 x1 x108 H && (eCallR Tryz.prog C 75 [x115, x116] 126 fun x120 => fun H => eLoadF Tryz.prog 70 x1 x108 H && (eBuildSlice Tryz.prog 166 4 [(0, x117), (1, x118), (2, x119), (3, x120)] fun x121 => eCallR Tryz.prog C 74 [x108, (.int .i64 6), x121] 0 fun x122 => eLoad Tryz.prog 70 x1 fun x123 => eCallR Tryz.prog C 86 [x123, (.fn 108 [] [x69, x1, x30, x12, x13])] 26 fun x124 => K x124) H) H) H) H
noncomputable def kern_step_rename_p5 (C : Cal) (K : SV → ER) (x1 : SV) (x12 : SV) (x13 : SV) (x30 : SV) (x69 : SV) (x105 : SV) (x106 : SV) (x107 : SV) (x108 : SV) (x111 : SV) (x112 : SV) (x113 : SV) (x114 : SV) (x115 : SV) (x116 : SV) (x117 : SV) : ER :=
  fun H => eLoadF Tryz.prog 3 x107 x116 H && (fun H => eLoadF Tryz.prog 70 x1 x115 H && (fun H => eLoadF Tryz.prog 3 x106 x114 H && (fun H => eLoadF Tryz.prog 70 x1 x113 H && (fun H => eLoadF Tryz.prog 3 x105 x112 H && (fun H => eLoadF Tryz.prog 70 x1 x111 H && (fun H => eLoadF Tryz.prog 70 x1 x108 H && (eCallR Tryz.prog C 75 [x111, x112] 126 fun x118 => fun H => eLoadF Tryz.prog 3 x107 x116 H && (fun H => eLoadF Tryz.prog 70 x1 x115 H && (fun H => eLoadF Tryz.prog 3 x106 x114 H && (fun H => eLoadF Tryz.prog 70 x1 x113 H && (fun H => eLoadF Tryz.prog 70 x1 x108 H && (eCallR Tryz.prog C 75 [x113, x114] 126 fun x119 => kern_step_rename_p4 C K x1 x12 x13 x30 x69 x107 x108 x115 x116 x117 x118 x119) H) H) H) H) H) H) H) H) H) H) H) H
noncomputable def kern_step_rename_p6 (C : Cal) (K : SV → ER) (x1 : SV) (x12 : SV) (x13 : SV) (x30 : SV) (x69 : SV) (x104 : SV) (x105 : SV) (x106 : SV) : ER :=
  eFieldAddr Tryz.prog 113 x30 2 fun x107 => eLoad Tryz.prog 70 x1 fun x108 => eLoad Tryz.prog 70 x1 fun x109 => eLoad Tryz.prog 3 x104 fun x110 => eLoad Tryz.prog 70 x1 fun x111 => eLoad Tryz.prog 3 x105 fun x112 => eLoad Tryz.prog 70 x1 fun x113 => eLoad Tryz.prog 3 x106 fun x114 => eLoad Tryz.prog 70 x1 fun x115 => eLoad Tryz.prog 3 x107 fun x116 => eCallR Tryz.prog C 75 [x109, x110] 126 fun x117 => kern_step_rename_p5 C K x1 x12 x13 x30 x69 x105 x106 x107 x108 x111 x112 x113 x114 x115 x116 x117
noncomputable def kern_step_rename_p7 (C : Cal) (K : SV → ER) (x1 : SV) (s84 : SV × Unit) (x12 : SV) (x13 : SV) (x30 : SV) (x69 : SV) : ER :=
  eBin Tryz.prog .neq 26 false s84.1 (.int .i64 0) fun x103 => eIfV x103
  (K s84.1)
  (eFieldAddr Tryz.prog 113 x12 0 fun x104 => eFieldAddr Tryz.prog 40 x13 0 fun x105 => eFieldAddr Tryz.prog 113 x30 0 fun x106 => kern_step_rename_p6 C K x1 x12 x13 x30 x69 x104 x105 x106)
noncomputable def kern_step_rename_p8 (C : Cal) (x1 : SV) (k70 : SV × Unit → ER) (x13 : SV) (x30 : SV) : ER :=
  eFieldAddr Tryz.prog 40 x13 2 fun x72 => eLoad Tryz.prog 3 x72 fun x73 => eBin Tryz.prog .eql 3 false x73 (.int .i64 2) fun x74 => eIfV x74
  (kern_step_rename_p0 C x1 k70 x13 x30)
  (eCallR Tryz.prog C 71 [(.bool false), (.int .i64 22)] 26 fun x82 => eHas .any x82 (k70 (x82, ())))
noncomputable def kern_step_rename_p9 (C : Cal) (K : SV → ER) (x1 : SV) (s71 : SV × Unit) (x12 : SV) (x13 : SV) (x30 : SV) (x68 : SV) (x69 : SV) : ER :=
  eJoinC (σ := SV × Unit) (fun (k83 : SV × Unit → ER) =>
  eLoad Tryz.prog 4 x69 fun x85 => eIfV x85
  (kern_step_rename_p1 C x1 k83 s71 x13 x68)
  (kern_step_rename_p3 C x1 k83 s71 x12 x30)) fun (s84 : SV × Unit) =>
  kern_step_rename_p7 C K x1 s84 x12 x13 x30 x69
noncomputable def kern_step_rename_p10 (C : Cal) (K : SV → ER) (x1 : SV) (x12 : SV) (x13 : SV) (x30 : SV) (x56 : SV) (x60 : SV) : ER :=
  eNilCk x60 fun x61 => eFieldAddr Tryz.prog 58 x61 0 fun x62 => eLoad Tryz.prog 53 x62 fun x63 => eLoad Tryz.prog 3 x56 fun x64 => eCallR Tryz.prog C 18 [x63, x64] 77 fun x65 => eExtract x65 0 fun x66 => eExtract x65 1 fun x67 => eAlloc Tryz.prog 40 fun x68 => eAlloc Tryz.prog 4 fun x69 => eStore Tryz.prog 40 x68 x66 <| eStore Tryz.prog 4 x69 x67 <| eJoinC (σ := SV × Unit) (fun (k70 : SV × Unit → ER) =>
  kern_step_rename_p8 C x1 k70 x13 x30) fun (s71 : SV × Unit) =>
  kern_step_rename_p9 C K x1 s71 x12 x13 x30 x68 x69
noncomputable def kern_step_rename_p11 (C : Cal) (K : SV → ER) (x1 : SV) (x12 : SV) (x13 : SV) (x30 : SV) : ER :=
  eFieldAddr Tryz.prog 113 x30 2 fun x56 => eLoad Tryz.prog 70 x1 fun x57 => eNilCk x57 fun x58 => eFieldAddr Tryz.prog 76 x58 1 fun x59 => eLoad Tryz.prog 23 x59 fun x60 => kern_step_rename_p10 C K x1 x12 x13 x30 x56 x60
noncomputable def kern_step_rename_p12 (C : Cal) (K : SV → ER) (x1 : SV) (x12 : SV) (x13 : SV) (x30 : SV) : ER :=
  eFieldAddr Tryz.prog 113 x30 2 fun x49 => eLoad Tryz.prog 3 x49 fun x50 => eFieldAddr Tryz.prog 40 x13 0 fun x51 => eLoad Tryz.prog 3 x51 fun x52 => eBin Tryz.prog .eql 3 false x50 x52 fun x53 => eIfV x53
  (eLoad Tryz.prog 70 x1 fun x54 => eCallR Tryz.prog C 86 [x54, (.fn 105 [] [])] 26 fun x55 => K x55)
  (kern_step_rename_p11 C K x1 x12 x13 x30)
noncomputable def kern_step_rename_p13 (C : Cal) (K : SV → ER) (x1 : SV) (x12 : SV) (x13 : SV) (x30 : SV) (x38 : SV) (x39 : SV) (x40 : SV) : ER :=
  eLoad Tryz.prog 3 x38 fun x41 => eLoad Tryz.prog 70 x1 fun x42 => eLoad Tryz.prog 3 x39 fun x43 => eCallR Tryz.prog C 72 [x40, x41, (.int .i64 2)] 26 fun x44 => fun H => eLoadF Tryz.prog 3 x39 x43 H && (fun H => eLoadF Tryz.prog 70 x1 x42 H && (eCallR Tryz.prog C 72 [x42, x43, (.int .i64 2)] 26 fun x45 => eBuildSlice Tryz.prog 164 2 [(0, x44), (1, x45)] fun x46 => eCallR Tryz.prog C 70 [x46] 26 fun x47 => eBin Tryz.prog .neq 26 false x47 (.int .i64 0) fun x48 => eIfV x48
  (K x47)
  (kern_step_rename_p12 C K x1 x12 x13 x30)) H) H
noncomputable def kern_step_rename_p14 (C : Cal) (K : SV → ER) (x1 : SV) (x12 : SV) (x13 : SV) (x29 : SV) (x30 : SV) : ER :=
  eFieldAddr Tryz.prog 113 x30 1 fun x31 => eLoad Tryz.prog 9 x31 fun x32 => eBin Tryz.prog .eql 9 false x32 (.str []) fun x33 => eCallR Tryz.prog C 71 [x33, (.int .i64 16)] 26 fun x34 => eBuildSlice Tryz.prog 164 2 [(0, x29), (1, x34)] fun x35 => eCallR Tryz.prog C 70 [x35] 26 fun x36 => eBin Tryz.prog .neq 26 false x36 (.int .i64 0) fun x37 => eIfV x37
  (K x36)
  (eFieldAddr Tryz.prog 113 x12 0 fun x38 => eFieldAddr Tryz.prog 113 x30 0 fun x39 => eLoad Tryz.prog 70 x1 fun x40 => kern_step_rename_p13 C K x1 x12 x13 x30 x38 x39 x40)
noncomputable def kern_step_rename_p15 (C : Cal) (K : SV → ER) (x1 : SV) (x12 : SV) (x13 : SV) : ER :=
  eLoad Tryz.prog 70 x1 fun x21 => eLoad Tryz.prog 70 x1 fun x22 => eNilCk x22 fun x23 => eFieldAddr Tryz.prog 76 x23 0 fun x24 => eFieldAddr Tryz.prog 31 x24 6 fun x25 => eLoad Tryz.prog 9 x25 fun x26 => eCallR Tryz.prog C 69 [x21, x26, (.bool false)] 114 fun x27 => eExtract x27 0 fun x28 => eExtract x27 1 fun x29 => eAlloc Tryz.prog 113 fun x30 => eStore Tryz.prog 113 x30 x28 <| kern_step_rename_p14 C K x1 x12 x13 x29 x30
noncomputable def kern_step_rename_p16 (C : Cal) (K : SV → ER) (x1 : SV) (x9 : SV) (x10 : SV) (x11 : SV) : ER :=
  eAlloc Tryz.prog 113 fun x12 => eAlloc Tryz.prog 40 fun x13 => eStore Tryz.prog 113 x12 x9 <| eStore Tryz.prog 40 x13 x10 <| eFieldAddr Tryz.prog 113 x12 1 fun x14 => eLoad Tryz.prog 9 x14 fun x15 => eBin Tryz.prog .eql 9 false x15 (.str []) fun x16 => eCallR Tryz.prog C 71 [x16, (.int .i64 16)] 26 fun x17 => eBuildSlice Tryz.prog 164 2 [(0, x11), (1, x17)] fun x18 => eCallR Tryz.prog C 70 [x18] 26 fun x19 => eBin Tryz.prog .neq 26 false x19 (.int .i64 0) fun x20 => eIfV x20
  (K x19)
  (kern_step_rename_p15 C K x1 x12 x13)
noncomputable def kern_step_rename_e (C : Cal) (N : Nat) (a0 : SV) (K : SV → ER) : ER :=
  eBox Tryz.prog 70 a0 fun x1 => eLoad Tryz.prog 70 x1 fun x2 => eLoad Tryz.prog 70 x1 fun x3 => eNilCk x3 fun x4 => eFieldAddr Tryz.prog 76 x4 0 fun x5 => eFieldAddr Tryz.prog 31 x5 5 fun x6 => eLoad Tryz.prog 9 x6 fun x7 => eCallR Tryz.prog C 96 [x2, x7, (.bool false)] 140 fun x8 => eExtract x8 0 fun x9 => eExtract x8 1 fun x10 => eExtract x8 2 fun x11 => kern_step_rename_p16 C K x1 x9 x10 x11
theorem kern_step_rename_ee (C : Cal) (N : Nat) (a0 : SV) (K : SV → ER) : eBody Tryz.prog C N Tryz.f38 (Tryz.f38.body.getD .skip) kern_step_rename_ea [a0] K = kern_step_rename_e C N a0 K := by kernel_rfl
noncomputable def l38 : LeafT := fun C N args K => match args with
  | [a0] => kern_step_rename_e C N a0 K
  | _ => eF
theorem lok38 : LeafOk Tryz.prog 38 l38 := ⟨Tryz.f38, Tryz.f38.body.getD .skip, kern_step_rename_ea, Tryz.func38, by kernel_rfl, Tryz.call38, fun C N args K H e => by
  unfold l38 at e
  split at e
  · rw [kern_step_rename_ee]; exact e
  · exact eF_no e⟩

/- (*halberd/kern.step).stat -/
def kern_step_stat_ea : Ann := .two (.none) (.two (.none) (.two (.two (.none) (.two (.two (.none) (.none)) (.none))) (.two (.none) (.two (.none) (.two (.none) (.none))))))
noncomputable def kern_step_stat_p0 (C : Cal) (K : SV → ER) (a0 : SV) (x10 : SV) : ER :=
  eFieldAddr Tryz.prog 40 x10 0 fun x12 => eLoad Tryz.prog 3 x12 fun x13 => eCallR Tryz.prog C 75 [a0, x13] 126 fun x14 => eCallR Tryz.prog C 76 [(.int .i64 1)] 126 fun x15 => eBuildSlice Tryz.prog 166 2 [(0, x14), (1, x15)] fun x16 => eCallR Tryz.prog C 74 [a0, (.int .i64 16), x16] 0 fun x17 => eNilCk a0 fun x18 => eFieldAddr Tryz.prog 76 x18 4 fun x19 => eStore Tryz.prog 74 x19 (.fn 110 [] [x10]) <| K (.int .i64 0)
noncomputable def kern_step_stat_e (C : Cal) (N : Nat) (a0 : SV) (K : SV → ER) : ER :=
  eNilCk a0 fun x1 => eFieldAddr Tryz.prog 76 x1 0 fun x2 => eFieldAddr Tryz.prog 31 x2 5 fun x3 => eLoad Tryz.prog 9 x3 fun x4 => eCallR Tryz.prog C 96 [a0, x4, (.bool true)] 140 fun x5 => eExtract x5 0 fun x6 => eExtract x5 1 fun x7 => eExtract x5 2 fun x8 => eAlloc Tryz.prog 113 fun x9 => eAlloc Tryz.prog 40 fun x10 => eStore Tryz.prog 113 x9 x6 <| eStore Tryz.prog 40 x10 x7 <| eBin Tryz.prog .neq 26 false x8 (.int .i64 0) fun x11 => eIfV x11
  (K x8)
  (kern_step_stat_p0 C K a0 x10)
theorem kern_step_stat_ee (C : Cal) (N : Nat) (a0 : SV) (K : SV → ER) : eBody Tryz.prog C N Tryz.f40 (Tryz.f40.body.getD .skip) kern_step_stat_ea [a0] K = kern_step_stat_e C N a0 K := by kernel_rfl
noncomputable def l40 : LeafT := fun C N args K => match args with
  | [a0] => kern_step_stat_e C N a0 K
  | _ => eF
theorem lok40 : LeafOk Tryz.prog 40 l40 := ⟨Tryz.f40, Tryz.f40.body.getD .skip, kern_step_stat_ea, Tryz.func40, by kernel_rfl, Tryz.call40, fun C N args K H e => by
  unfold l40 at e
  split at e
  · rw [kern_step_stat_ee]; exact e
  · exact eF_no e⟩

/- (*halberd/kern.step).getpid -/
def kern_step_getpid_ea : Ann := .two (.none) (.two (.none) (.none))
noncomputable def kern_step_getpid_e (C : Cal) (N : Nat) (a0 : SV) (K : SV → ER) : ER :=
  eBox Tryz.prog 70 a0 fun x1 => eLoad Tryz.prog 70 x1 fun x2 => eCallR Tryz.prog C 77 [x2, (.fn 148 [] [x1])] 26 fun x3 => K x3
theorem kern_step_getpid_ee (C : Cal) (N : Nat) (a0 : SV) (K : SV → ER) : eBody Tryz.prog C N Tryz.f57 (Tryz.f57.body.getD .skip) kern_step_getpid_ea [a0] K = kern_step_getpid_e C N a0 K := by kernel_rfl
noncomputable def l57 : LeafT := fun C N args K => match args with
  | [a0] => kern_step_getpid_e C N a0 K
  | _ => eF
theorem lok57 : LeafOk Tryz.prog 57 l57 := ⟨Tryz.f57, Tryz.f57.body.getD .skip, kern_step_getpid_ea, Tryz.func57, by kernel_rfl, Tryz.call57, fun C N args K H e => by
  unfold l57 at e
  split at e
  · rw [kern_step_getpid_ee]; exact e
  · exact eF_no e⟩

/- (*halberd/tasks.Table).alive -/
def tasks_Table_alive_ea : Ann := .two (.none) (.two (.two (.none) (.join (.none) (.two (.two (.none) (.none)) (.none)) [(17, .any)])) (.two (.none) (.none)))
noncomputable def tasks_Table_alive_p0 (k2 : SV × Unit → ER) (x1 : SV) : ER :=
  eBin Tryz.prog .neq 94 true x1 (.ptr none) fun x4 => eIfV x4
  (eNilCk x1 fun x5 => eFieldAddr Tryz.prog 50 x5 8 fun x6 => eLoad Tryz.prog 4 x6 fun x7 => eUnS .not x7 fun x8 => eHas .any x8 (k2 (x8, ())))
  (eHas .any (.bool false) (k2 ((.bool false), ())))
noncomputable def tasks_Table_alive_e (C : Cal) (N : Nat) (a0 a1 : SV) (K : SV → ER) : ER :=
  eCallR Tryz.prog C 27 [a0, a1] 94 fun x1 => eJoinC (σ := SV × Unit) (fun (k2 : SV × Unit → ER) =>
  tasks_Table_alive_p0 k2 x1) fun (s3 : SV × Unit) =>
  eIfV s3.1
  (K x1)
  (K (.ptr none))
theorem tasks_Table_alive_ee (C : Cal) (N : Nat) (a0 a1 : SV) (K : SV → ER) : eBody Tryz.prog C N Tryz.f58 (Tryz.f58.body.getD .skip) tasks_Table_alive_ea [a0, a1] K = tasks_Table_alive_e C N a0 a1 K := by kernel_rfl
noncomputable def l58 : LeafT := fun C N args K => match args with
  | [a0, a1] => tasks_Table_alive_e C N a0 a1 K
  | _ => eF
theorem lok58 : LeafOk Tryz.prog 58 l58 := ⟨Tryz.f58, Tryz.f58.body.getD .skip, tasks_Table_alive_ea, Tryz.func58, by kernel_rfl, Tryz.call58, fun C N args K H e => by
  unfold l58 at e
  split at e
  · rw [tasks_Table_alive_ee]; exact e
  · exact eF_no e⟩

/- slices.ContainsFunc[[]halberd/api.Task,halberd/api.Task] -/
def slices_ContainsFunc_api_Task_api_Task_ea : Ann := .two (.none) (.two (.none) (.none))
noncomputable def slices_ContainsFunc_api_Task_api_Task_e (C : Cal) (N : Nat) (a0 a1 : SV) (K : SV → ER) : ER :=
  eCallR Tryz.prog C 149 [a0, a1] 3 fun x1 => eBin Tryz.prog .geq 3 false x1 (.int .i64 0) fun x2 => K x2
theorem slices_ContainsFunc_api_Task_api_Task_ee (C : Cal) (N : Nat) (a0 a1 : SV) (K : SV → ER) : eBody Tryz.prog C N Tryz.f59 (Tryz.f59.body.getD .skip) slices_ContainsFunc_api_Task_api_Task_ea [a0, a1] K = slices_ContainsFunc_api_Task_api_Task_e C N a0 a1 K := by kernel_rfl
noncomputable def l59 : LeafT := fun C N args K => match args with
  | [a0, a1] => slices_ContainsFunc_api_Task_api_Task_e C N a0 a1 K
  | _ => eF
theorem lok59 : LeafOk Tryz.prog 59 l59 := ⟨Tryz.f59, Tryz.f59.body.getD .skip, slices_ContainsFunc_api_Task_api_Task_ea, Tryz.func59, by kernel_rfl, Tryz.call59, fun C N args K H e => by
  unfold l59 at e
  split at e
  · rw [slices_ContainsFunc_api_Task_api_Task_ee]; exact e
  · exact eF_no e⟩

/- (*halberd/tasks.Table).Uses$1 -/
def tasks_Table_Uses_1_ea : Ann := .two (.none) (.join (.none) (.none) [(3, .any)])
noncomputable def tasks_Table_Uses_1_p0 (C : Cal) (a1 : SV) (k2 : SV × Unit → ER) (x1 : SV) : ER :=
  eFieldAddr Tryz.prog 50 x1 11 fun x17 => eSliceS Tryz.prog 45 x17 none none none fun x18 => eCallR Tryz.prog C 61 [x18, (.fn 62 [] [a1])] 4 fun x19 => eIfV x19
  (eHas .any (.bool true) (k2 ((.bool true), ())))
  (eFieldAddr Tryz.prog 50 x1 12 fun x20 => eSliceS Tryz.prog 48 x20 none none none fun x21 => eCallR Tryz.prog C 63 [x21, (.fn 64 [] [a1])] 4 fun x22 => eHas .any x22 (k2 (x22, ())))
noncomputable def tasks_Table_Uses_1_p1 (C : Cal) (a1 : SV) (k2 : SV × Unit → ER) (x1 : SV) : ER :=
  eFieldAddr Tryz.prog 50 x1 11 fun x23 => eSliceS Tryz.prog 45 x23 none none none fun x24 => eCallR Tryz.prog C 61 [x24, (.fn 62 [] [a1])] 4 fun x25 => eIfV x25
  (eHas .any (.bool true) (k2 ((.bool true), ())))
  (eFieldAddr Tryz.prog 50 x1 12 fun x26 => eSliceS Tryz.prog 48 x26 none none none fun x27 => eCallR Tryz.prog C 63 [x27, (.fn 64 [] [a1])] 4 fun x28 => eHas .any x28 (k2 (x28, ())))
noncomputable def tasks_Table_Uses_1_p2 (C : Cal) (a1 : SV) (k2 : SV × Unit → ER) (x1 : SV) : ER :=
  eFieldAddr Tryz.prog 50 x1 6 fun x11 => eLoad Tryz.prog 3 x11 fun x12 => eLoad Tryz.prog 3 a1 fun x13 => eBin Tryz.prog .eql 3 false x12 x13 fun x14 => eIfV x14
  (eLoad Tryz.prog 3 a1 fun x15 => eBin Tryz.prog .neq 3 false x15 (.int .i64 0) fun x16 => eIfV x16
  (eHas .any (.bool true) (k2 ((.bool true), ())))
  (tasks_Table_Uses_1_p0 C a1 k2 x1))
  (tasks_Table_Uses_1_p1 C a1 k2 x1)
noncomputable def tasks_Table_Uses_1_p3 (C : Cal) (a1 : SV) (k2 : SV × Unit → ER) (x1 : SV) : ER :=
  eFieldAddr Tryz.prog 50 x1 5 fun x7 => eLoad Tryz.prog 3 x7 fun x8 => eLoad Tryz.prog 3 a1 fun x9 => eBin Tryz.prog .eql 3 false x8 x9 fun x10 => eIfV x10
  (eHas .any (.bool true) (k2 ((.bool true), ())))
  (tasks_Table_Uses_1_p2 C a1 k2 x1)
noncomputable def tasks_Table_Uses_1_p4 (C : Cal) (a1 : SV) (k2 : SV × Unit → ER) (x1 : SV) : ER :=
  eFieldAddr Tryz.prog 50 x1 11 fun x29 => eSliceS Tryz.prog 45 x29 none none none fun x30 => eCallR Tryz.prog C 61 [x30, (.fn 62 [] [a1])] 4 fun x31 => eIfV x31
  (eHas .any (.bool true) (k2 ((.bool true), ())))
  (eFieldAddr Tryz.prog 50 x1 12 fun x32 => eSliceS Tryz.prog 48 x32 none none none fun x33 => eCallR Tryz.prog C 63 [x33, (.fn 64 [] [a1])] 4 fun x34 => eHas .any x34 (k2 (x34, ())))
noncomputable def tasks_Table_Uses_1_e (C : Cal) (N : Nat) (a0 a1 : SV) (K : SV → ER) : ER :=
  eBox Tryz.prog 50 a0 fun x1 => eJoinC (σ := SV × Unit) (fun (k2 : SV × Unit → ER) =>
  eFieldAddr Tryz.prog 50 x1 8 fun x4 => eLoad Tryz.prog 4 x4 fun x5 => eUnS .not x5 fun x6 => eIfV x6
  (tasks_Table_Uses_1_p3 C a1 k2 x1)
  (tasks_Table_Uses_1_p4 C a1 k2 x1)) fun (s3 : SV × Unit) =>
  K s3.1
theorem tasks_Table_Uses_1_ee (C : Cal) (N : Nat) (a0 a1 : SV) (K : SV → ER) : eBody Tryz.prog C N Tryz.f60 (Tryz.f60.body.getD .skip) tasks_Table_Uses_1_ea [a0, a1] K = tasks_Table_Uses_1_e C N a0 a1 K := by kernel_rfl
noncomputable def l60 : LeafT := fun C N args K => match args with
  | [a0, a1] => tasks_Table_Uses_1_e C N a0 a1 K
  | _ => eF
theorem lok60 : LeafOk Tryz.prog 60 l60 := ⟨Tryz.f60, Tryz.f60.body.getD .skip, tasks_Table_Uses_1_ea, Tryz.func60, by kernel_rfl, Tryz.call60, fun C N args K H e => by
  unfold l60 at e
  split at e
  · rw [tasks_Table_Uses_1_ee]; exact e
  · exact eF_no e⟩

/- slices.ContainsFunc[[]halberd/api.File,halberd/api.File] -/
def slices_ContainsFunc_api_File_api_File_ea : Ann := .two (.none) (.two (.none) (.none))
noncomputable def slices_ContainsFunc_api_File_api_File_e (C : Cal) (N : Nat) (a0 a1 : SV) (K : SV → ER) : ER :=
  eCallR Tryz.prog C 150 [a0, a1] 3 fun x1 => eBin Tryz.prog .geq 3 false x1 (.int .i64 0) fun x2 => K x2
theorem slices_ContainsFunc_api_File_api_File_ee (C : Cal) (N : Nat) (a0 a1 : SV) (K : SV → ER) : eBody Tryz.prog C N Tryz.f61 (Tryz.f61.body.getD .skip) slices_ContainsFunc_api_File_api_File_ea [a0, a1] K = slices_ContainsFunc_api_File_api_File_e C N a0 a1 K := by kernel_rfl
noncomputable def l61 : LeafT := fun C N args K => match args with
  | [a0, a1] => slices_ContainsFunc_api_File_api_File_e C N a0 a1 K
  | _ => eF
theorem lok61 : LeafOk Tryz.prog 61 l61 := ⟨Tryz.f61, Tryz.f61.body.getD .skip, slices_ContainsFunc_api_File_api_File_ea, Tryz.func61, by kernel_rfl, Tryz.call61, fun C N args K H e => by
  unfold l61 at e
  split at e
  · rw [slices_ContainsFunc_api_File_api_File_ee]; exact e
  · exact eF_no e⟩

end Go.Proofs.YtnpcjhcgbcpcoaaGreatDoor

set_option linter.unusedVariables false
set_option maxRecDepth 100000
namespace Go.Proofs.YtnpcjhcgbcpcoaaGreatDoor
open Go.Hl
/- (*halberd/tasks.Table).Uses$1$1 -/
def tasks_Table_Uses_1_1_ea : Ann := .two (.none) (.join (.none) (.none) [(3, .any)])
noncomputable def tasks_Table_Uses_1_1_p0 (a1 : SV) (k2 : SV × Unit → ER) (x1 : SV) : ER :=
  eLoad Tryz.prog 44 x1 fun x4 => eBuild Tryz.prog 44 [] fun x5 => eBin Tryz.prog .neq 44 false x4 x5 fun x6 => eIfV x6
  (eFieldAddr Tryz.prog 44 x1 0 fun x7 => eLoad Tryz.prog 3 x7 fun x8 => eLoad Tryz.prog 3 a1 fun x9 => eBin Tryz.prog .eql 3 false x8 x9 fun x10 => eHas .any x10 (k2 (x10, ())))
  (eHas .any (.bool false) (k2 ((.bool false), ())))
noncomputable def tasks_Table_Uses_1_1_e (C : Cal) (N : Nat) (a0 a1 : SV) (K : SV → ER) : ER :=
  eBox Tryz.prog 44 a0 fun x1 => eJoinC (σ := SV × Unit) (fun (k2 : SV × Unit → ER) =>
  tasks_Table_Uses_1_1_p0 a1 k2 x1) fun (s3 : SV × Unit) =>
  K s3.1
theorem tasks_Table_Uses_1_1_ee (C : Cal) (N : Nat) (a0 a1 : SV) (K : SV → ER) : eBody Tryz.prog C N Tryz.f62 (Tryz.f62.body.getD .skip) tasks_Table_Uses_1_1_ea [a0, a1] K = tasks_Table_Uses_1_1_e C N a0 a1 K := by kernel_rfl
noncomputable def l62 : LeafT := fun C N args K => match args with
  | [a0, a1] => tasks_Table_Uses_1_1_e C N a0 a1 K
  | _ => eF
theorem lok62 : LeafOk Tryz.prog 62 l62 := ⟨Tryz.f62, Tryz.f62.body.getD .skip, tasks_Table_Uses_1_1_ea, Tryz.func62, by kernel_rfl, Tryz.call62, fun C N args K H e => by
  unfold l62 at e
  split at e
  · rw [tasks_Table_Uses_1_1_ee]; exact e
  · exact eF_no e⟩

/- slices.ContainsFunc[[]halberd/api.Area,halberd/api.Area] -/
def slices_ContainsFunc_api_Area_api_Area_ea : Ann := .two (.none) (.two (.none) (.none))
noncomputable def slices_ContainsFunc_api_Area_api_Area_e (C : Cal) (N : Nat) (a0 a1 : SV) (K : SV → ER) : ER :=
  eCallR Tryz.prog C 151 [a0, a1] 3 fun x1 => eBin Tryz.prog .geq 3 false x1 (.int .i64 0) fun x2 => K x2
theorem slices_ContainsFunc_api_Area_api_Area_ee (C : Cal) (N : Nat) (a0 a1 : SV) (K : SV → ER) : eBody Tryz.prog C N Tryz.f63 (Tryz.f63.body.getD .skip) slices_ContainsFunc_api_Area_api_Area_ea [a0, a1] K = slices_ContainsFunc_api_Area_api_Area_e C N a0 a1 K := by kernel_rfl
noncomputable def l63 : LeafT := fun C N args K => match args with
  | [a0, a1] => slices_ContainsFunc_api_Area_api_Area_e C N a0 a1 K
  | _ => eF
theorem lok63 : LeafOk Tryz.prog 63 l63 := ⟨Tryz.f63, Tryz.f63.body.getD .skip, slices_ContainsFunc_api_Area_api_Area_ea, Tryz.func63, by kernel_rfl, Tryz.call63, fun C N args K H e => by
  unfold l63 at e
  split at e
  · rw [slices_ContainsFunc_api_Area_api_Area_ee]; exact e
  · exact eF_no e⟩

/- (*halberd/tasks.Table).Uses$1$2 -/
def tasks_Table_Uses_1_2_ea : Ann := .two (.none) (.join (.none) (.none) [(3, .any)])
noncomputable def tasks_Table_Uses_1_2_p0 (a1 : SV) (k2 : SV × Unit → ER) (x1 : SV) : ER :=
  eFieldAddr Tryz.prog 47 x1 1 fun x6 => eLoad Tryz.prog 3 x6 fun x7 => eLoad Tryz.prog 3 a1 fun x8 => eBin Tryz.prog .eql 3 false x7 x8 fun x9 => eIfV x9
  (eLoad Tryz.prog 3 a1 fun x10 => eBin Tryz.prog .neq 3 false x10 (.int .i64 0) fun x11 => eHas .any x11 (k2 (x11, ())))
  (eHas .any (.bool false) (k2 ((.bool false), ())))
noncomputable def tasks_Table_Uses_1_2_e (C : Cal) (N : Nat) (a0 a1 : SV) (K : SV → ER) : ER :=
  eBox Tryz.prog 47 a0 fun x1 => eJoinC (σ := SV × Unit) (fun (k2 : SV × Unit → ER) =>
  eFieldAddr Tryz.prog 47 x1 0 fun x4 => eLoad Tryz.prog 4 x4 fun x5 => eIfV x5
  (tasks_Table_Uses_1_2_p0 a1 k2 x1)
  (eHas .any (.bool false) (k2 ((.bool false), ())))) fun (s3 : SV × Unit) =>
  K s3.1
theorem tasks_Table_Uses_1_2_ee (C : Cal) (N : Nat) (a0 a1 : SV) (K : SV → ER) : eBody Tryz.prog C N Tryz.f64 (Tryz.f64.body.getD .skip) tasks_Table_Uses_1_2_ea [a0, a1] K = tasks_Table_Uses_1_2_e C N a0 a1 K := by kernel_rfl
noncomputable def l64 : LeafT := fun C N args K => match args with
  | [a0, a1] => tasks_Table_Uses_1_2_e C N a0 a1 K
  | _ => eF
theorem lok64 : LeafOk Tryz.prog 64 l64 := ⟨Tryz.f64, Tryz.f64.body.getD .skip, tasks_Table_Uses_1_2_ea, Tryz.func64, by kernel_rfl, Tryz.call64, fun C N args K H e => by
  unfold l64 at e
  split at e
  · rw [tasks_Table_Uses_1_2_ee]; exact e
  · exact eF_no e⟩

/- slices.Clone[[]string,string] -/
def slices_Clone_string_string_ea : Ann := .two (.none) (.two (.two (.none) (.two (.two (.none) (.none)) (.none))) (.two (.none) (.none)))
noncomputable def slices_Clone_string_string_e (C : Cal) (N : Nat) (a0 : SV) (K : SV → ER) : ER :=
  eBin Tryz.prog .eql 25 true a0 (.sl ⟨none, 0, .lit 0⟩) fun x1 => eIfV x1
  (K (.sl ⟨none, 0, .lit 0⟩))
  (eBuildSlice Tryz.prog 25 0 [] fun x2 => eApp Tryz.prog [25, 25] [x2, a0] fun x3 => K x3)
theorem slices_Clone_string_string_ee (C : Cal) (N : Nat) (a0 : SV) (K : SV → ER) : eBody Tryz.prog C N Tryz.f65 (Tryz.f65.body.getD .skip) slices_Clone_string_string_ea [a0] K = slices_Clone_string_string_e C N a0 K := by kernel_rfl
noncomputable def l65 : LeafT := fun C N args K => match args with
  | [a0] => slices_Clone_string_string_e C N a0 K
  | _ => eF
theorem lok65 : LeafOk Tryz.prog 65 l65 := ⟨Tryz.f65, Tryz.f65.body.getD .skip, slices_Clone_string_string_ea, Tryz.func65, by kernel_rfl, Tryz.call65, fun C N args K H e => by
  unfold l65 at e
  split at e
  · rw [slices_Clone_string_string_ee]; exact e
  · exact eF_no e⟩

/- slices.Clone[[]int,int] -/
def slices_Clone_int_int_ea : Ann := .two (.none) (.two (.two (.none) (.two (.two (.none) (.none)) (.none))) (.two (.none) (.none)))
noncomputable def slices_Clone_int_int_e (C : Cal) (N : Nat) (a0 : SV) (K : SV → ER) : ER :=
  eBin Tryz.prog .eql 38 true a0 (.sl ⟨none, 0, .lit 0⟩) fun x1 => eIfV x1
  (K (.sl ⟨none, 0, .lit 0⟩))
  (eBuildSlice Tryz.prog 38 0 [] fun x2 => eApp Tryz.prog [38, 38] [x2, a0] fun x3 => K x3)
theorem slices_Clone_int_int_ee (C : Cal) (N : Nat) (a0 : SV) (K : SV → ER) : eBody Tryz.prog C N Tryz.f66 (Tryz.f66.body.getD .skip) slices_Clone_int_int_ea [a0] K = slices_Clone_int_int_e C N a0 K := by kernel_rfl
noncomputable def l66 : LeafT := fun C N args K => match args with
  | [a0] => slices_Clone_int_int_e C N a0 K
  | _ => eF
theorem lok66 : LeafOk Tryz.prog 66 l66 := ⟨Tryz.f66, Tryz.f66.body.getD .skip, slices_Clone_int_int_ea, Tryz.func66, by kernel_rfl, Tryz.call66, fun C N args K H e => by
  unfold l66 at e
  split at e
  · rw [slices_Clone_int_int_ee]; exact e
  · exact eF_no e⟩

/- halberd/perms.Flags -/
def perms_Flags_ea : Ann := .two (.none) (.two (.join (.none) (.two (.two (.none) (.none)) (.none)) [(16, .any)]) (.two (.none) (.join (.two (.none) (.two (.none) (.none))) (.join (.two (.none) (.two (.none) (.none))) (.two (.none) (.none)) [(4, .any)]) [(4, .any)])))
noncomputable def perms_Flags_p0 (C : Cal) (a0 : SV) (k1 : SV × Unit → ER) : ER :=
  eBin Tryz.prog .gtr 3 false a0 (.int .i64 31) fun x4 => eIfV x4
  (eHas .any (.bool true) (k1 ((.bool true), ())))
  (eBuildSlice Tryz.prog 38 2 [(0, (.int .i64 1)), (1, (.int .i64 2))] fun x5 => eCallR Tryz.prog C 152 [a0, x5] 4 fun x6 => eUnS .not x6 fun x7 => eHas .any x7 (k1 (x7, ())))
noncomputable def perms_Flags_p1 (C : Cal) (a0 : SV) (s9 : SV × Unit) (k13 : SV × Unit → ER) : ER :=
  eBuildSlice Tryz.prog 38 2 [(0, (.int .i64 2)), (1, (.int .i64 16))] fun x15 => eCallR Tryz.prog C 152 [a0, x15] 4 fun x16 => eIfV x16
  (eBin Tryz.prog .or 3 false s9.1 (.int .i64 2) fun x17 => eHas .any x17 (k13 (x17, ())))
  (eHas .any s9.1 (k13 (s9.1, ())))
noncomputable def perms_Flags_p2 (C : Cal) (a0 : SV) (k8 : SV × Unit → ER) : ER :=
  eBuildSlice Tryz.prog 38 1 [(0, (.int .i64 1))] fun x10 => eCallR Tryz.prog C 152 [a0, x10] 4 fun x11 => eIfV x11
  (eBin Tryz.prog .or 3 false (.int .i64 0) (.int .i64 4) fun x12 => eHas .any x12 (k8 (x12, ())))
  (eHas .any (.int .i64 0) (k8 ((.int .i64 0), ())))
noncomputable def perms_Flags_p3 (C : Cal) (K : SV → ER) (a0 : SV) : ER :=
  eJoinC (σ := SV × Unit) (fun (k8 : SV × Unit → ER) =>
  perms_Flags_p2 C a0 k8) fun (s9 : SV × Unit) =>
  eJoinC (σ := SV × Unit) (fun (k13 : SV × Unit → ER) =>
  perms_Flags_p1 C a0 s9 k13) fun (s14 : SV × Unit) =>
  K (.tup [s14.1, (.bool true)])
noncomputable def perms_Flags_e (C : Cal) (N : Nat) (a0 : SV) (K : SV → ER) : ER :=
  eJoinC (σ := SV × Unit) (fun (k1 : SV × Unit → ER) =>
  eBin Tryz.prog .lss 3 false a0 (.int .i64 0) fun x3 => eIfV x3
  (eHas .any (.bool true) (k1 ((.bool true), ())))
  (perms_Flags_p0 C a0 k1)) fun (s2 : SV × Unit) =>
  eIfV s2.1
  (K (.tup [(.int .i64 0), (.bool false)]))
  (perms_Flags_p3 C K a0)
theorem perms_Flags_ee (C : Cal) (N : Nat) (a0 : SV) (K : SV → ER) : eBody Tryz.prog C N Tryz.f67 (Tryz.f67.body.getD .skip) perms_Flags_ea [a0] K = perms_Flags_e C N a0 K := by kernel_rfl
noncomputable def l67 : LeafT := fun C N args K => match args with
  | [a0] => perms_Flags_e C N a0 K
  | _ => eF
theorem lok67 : LeafOk Tryz.prog 67 l67 := ⟨Tryz.f67, Tryz.f67.body.getD .skip, perms_Flags_ea, Tryz.func67, by kernel_rfl, Tryz.call67, fun C N args K H e => by
  unfold l67 at e
  split at e
  · rw [perms_Flags_ee]; exact e
  · exact eF_no e⟩

/- halberd/kern.within -/
def kern_within_ea : Ann := .two (.none) (.join (.none) (.none) [(6, .any)])
noncomputable def kern_within_e (C : Cal) (N : Nat) (a0 a1 a2 : SV) (K : SV → ER) : ER :=
  eJoinC (σ := SV × Unit) (fun (k1 : SV × Unit → ER) =>
  eBin Tryz.prog .geq 3 false a0 a1 fun x3 => eIfV x3
  (eBin Tryz.prog .leq 3 false a0 a2 fun x4 => eHas .any x4 (k1 (x4, ())))
  (eHas .any (.bool false) (k1 ((.bool false), ())))) fun (s2 : SV × Unit) =>
  K s2.1
theorem kern_within_ee (C : Cal) (N : Nat) (a0 a1 a2 : SV) (K : SV → ER) : eBody Tryz.prog C N Tryz.f68 (Tryz.f68.body.getD .skip) kern_within_ea [a0, a1, a2] K = kern_within_e C N a0 a1 a2 K := by kernel_rfl
noncomputable def l68 : LeafT := fun C N args K => match args with
  | [a0, a1, a2] => kern_within_e C N a0 a1 a2 K
  | _ => eF
theorem lok68 : LeafOk Tryz.prog 68 l68 := ⟨Tryz.f68, Tryz.f68.body.getD .skip, kern_within_ea, Tryz.func68, by kernel_rfl, Tryz.call68, fun C N args K H e => by
  unfold l68 at e
  split at e
  · rw [kern_within_ee]; exact e
  · exact eF_no e⟩

/- (*halberd/kern.step).find -/
def kern_step_find_ea : Ann := .two (.none) (.two (.ord [0, 1, 2, 7, 8, 9, 10, 12, 13, 14, 15, 17, 18, 19, 20, 22, 23, 3, 4, 5, 6, 11, 16, 21, 24, 25, 26, 27, 28]) (.none))
noncomputable def kern_step_find_p0 (C : Cal) (K : SV → ER) (a1 : SV) (a2 : SV) (x1 : SV) (x3 : SV) (x6 : SV) (x9 : SV) (x10 : SV) : ER :=
  eFieldAddr Tryz.prog 76 x10 2 fun x11 => eFieldAddr Tryz.prog 50 x11 4 fun x12 => eLoad Tryz.prog 23 x3 fun x13 => eNilCk x13 fun x14 => eFieldAddr Tryz.prog 58 x14 0 fun x15 => eLoad Tryz.prog 53 x15 fun x16 => eLoad Tryz.prog 3 x6 fun x17 => eLoad Tryz.prog 3 x9 fun x18 => eLoad Tryz.prog 3 x12 fun x19 => eCallR Tryz.prog C 153 [x16, x17, x18, x19, a1, a2] 114 fun x20 => eExtract x20 0 fun x21 => eExtract x20 1 fun x22 => eStore Tryz.prog 113 x1 x21 <| eLoad Tryz.prog 113 x1 fun x23 => K (.tup [x23, x22])
noncomputable def kern_step_find_e (C : Cal) (N : Nat) (a0 a1 a2 : SV) (K : SV → ER) : ER :=
  eAlloc Tryz.prog 113 fun x1 => eNilCk a0 fun x2 => eFieldAddr Tryz.prog 76 x2 1 fun x3 => eNilCk a0 fun x4 => eFieldAddr Tryz.prog 76 x4 2 fun x5 => eFieldAddr Tryz.prog 50 x5 5 fun x6 => eNilCk a0 fun x7 => eFieldAddr Tryz.prog 76 x7 2 fun x8 => eFieldAddr Tryz.prog 50 x8 3 fun x9 => eNilCk a0 fun x10 => kern_step_find_p0 C K a1 a2 x1 x3 x6 x9 x10
theorem kern_step_find_ee (C : Cal) (N : Nat) (a0 a1 a2 : SV) (K : SV → ER) : eBody Tryz.prog C N Tryz.f69 (Tryz.f69.body.getD .skip) kern_step_find_ea [a0, a1, a2] K = kern_step_find_e C N a0 a1 a2 K := by kernel_rfl
noncomputable def l69 : LeafT := fun C N args K => match args with
  | [a0, a1, a2] => kern_step_find_e C N a0 a1 a2 K
  | _ => eF
theorem lok69 : LeafOk Tryz.prog 69 l69 := ⟨Tryz.f69, Tryz.f69.body.getD .skip, kern_step_find_ea, Tryz.func69, by kernel_rfl, Tryz.call69, fun C N args K H e => by
  unfold l69 at e
  split at e
  · rw [kern_step_find_ee]; exact e
  · exact eF_no e⟩

end Go.Proofs.YtnpcjhcgbcpcoaaGreatDoor

set_option linter.unusedVariables false
set_option maxRecDepth 100000
namespace Go.Proofs.YtnpcjhcgbcpcoaaGreatDoor
open Go.Hl
/- halberd/kern.first -/
def kern_first_ea : Ann := .two (.none) (.two (.two (.none) (.sub (.loop [(7, .any)] (.two (.none) (.two (.two (.none) (.none)) (.two (.sub (.two (.none) (.two (.none) (.two (.two (.none) (.none)) (.none))))) (.none))))))) (.two (.none) (.none)))
noncomputable def kern_first_p0 (K : SV → ER) (a0 : SV) (k2 : SV × Unit → ER) (s3 : SV × Unit) : ER :=
  eIndexAddrS Tryz.prog 164 a0 s3.1 fun x5 => eLoad Tryz.prog 26 x5 fun x6 => eBin Tryz.prog .neq 26 false x6 (.int .i64 0) fun x7 => eIfV x7
  (K x6)
  (eBin Tryz.prog .add 3 false s3.1 (.int .i64 1) fun x8 => eHas .any x8 (k2 (x8, ())))
noncomputable def kern_first_e (C : Cal) (N : Nat) (a0 : SV) (K : SV → ER) : ER :=
  eLenS Tryz.prog [164] [a0] fun x1 => eHas .any (.int .i64 0) (eIter (σ := SV × Unit) (fun (s3 : SV × Unit) (k2 : SV × Unit → ER) =>
  eBin Tryz.prog .lss 3 false s3.1 x1 fun x4 => eIfV x4
  (kern_first_p0 K a0 k2 s3)
  (K (.int .i64 0))) N ((.int .i64 0), ()))
theorem kern_first_ee (C : Cal) (N : Nat) (a0 : SV) (K : SV → ER) : eBody Tryz.prog C N Tryz.f70 (Tryz.f70.body.getD .skip) kern_first_ea [a0] K = kern_first_e C N a0 K := by kernel_rfl
noncomputable def l70 : LeafT := fun C N args K => match args with
  | [a0] => kern_first_e C N a0 K
  | _ => eF
theorem lok70 : LeafOk Tryz.prog 70 l70 := ⟨Tryz.f70, Tryz.f70.body.getD .skip, kern_first_ea, Tryz.func70, by kernel_rfl, Tryz.call70, fun C N args K H e => by
  unfold l70 at e
  split at e
  · rw [kern_first_ee]; exact e
  · exact eF_no e⟩

/- halberd/kern.bad -/
def kern_bad_ea : Ann := .two (.none) (.two (.two (.none) (.two (.two (.none) (.none)) (.none))) (.two (.none) (.none)))
noncomputable def kern_bad_e (C : Cal) (N : Nat) (a0 a1 : SV) (K : SV → ER) : ER :=
  eIfV a0
  (K a1)
  (K (.int .i64 0))
theorem kern_bad_ee (C : Cal) (N : Nat) (a0 a1 : SV) (K : SV → ER) : eBody Tryz.prog C N Tryz.f71 (Tryz.f71.body.getD .skip) kern_bad_ea [a0, a1] K = kern_bad_e C N a0 a1 K := by kernel_rfl
noncomputable def l71 : LeafT := fun C N args K => match args with
  | [a0, a1] => kern_bad_e C N a0 a1 K
  | _ => eF
theorem lok71 : LeafOk Tryz.prog 71 l71 := ⟨Tryz.f71, Tryz.f71.body.getD .skip, kern_bad_ea, Tryz.func71, by kernel_rfl, Tryz.call71, fun C N args K H e => by
  unfold l71 at e
  split at e
  · rw [kern_bad_ee]; exact e
  · exact eF_no e⟩

/- (*halberd/kern.step).may -/
def kern_step_may_ea : Ann := .two (.none) (.two (.none) (.two (.two (.ord [1, 2, 3, 4, 6, 7, 8, 9, 11, 0, 5, 10, 12, 13]) (.two (.two (.none) (.none)) (.none))) (.two (.none) (.none))))
noncomputable def kern_step_may_p0 (C : Cal) (K : SV → ER) (a0 : SV) (a2 : SV) (x7 : SV) (x8 : SV) : ER :=
  eExtract x7 1 fun x9 => eAlloc Tryz.prog 40 fun x10 => eStore Tryz.prog 40 x10 x8 <| eNilCk a0 fun x11 => eFieldAddr Tryz.prog 76 x11 2 fun x12 => eFieldAddr Tryz.prog 50 x12 3 fun x13 => eNilCk a0 fun x14 => eFieldAddr Tryz.prog 76 x14 2 fun x15 => eFieldAddr Tryz.prog 50 x15 4 fun x16 => eLoad Tryz.prog 40 x10 fun x17 => eLoad Tryz.prog 3 x13 fun x18 => eLoad Tryz.prog 3 x16 fun x19 => eCallR Tryz.prog C 154 [x17, x18, x19, a2] 4 fun x20 => eUnS .not x20 fun x21 => eIfV x21
  (K (.int .i64 13))
  (K (.int .i64 0))
noncomputable def kern_step_may_e (C : Cal) (N : Nat) (a0 a1 a2 : SV) (K : SV → ER) : ER :=
  eNilCk a0 fun x1 => eFieldAddr Tryz.prog 76 x1 1 fun x2 => eLoad Tryz.prog 23 x2 fun x3 => eNilCk x3 fun x4 => eFieldAddr Tryz.prog 58 x4 0 fun x5 => eLoad Tryz.prog 53 x5 fun x6 => eCallR Tryz.prog C 18 [x6, a1] 77 fun x7 => eExtract x7 0 fun x8 => kern_step_may_p0 C K a0 a2 x7 x8
theorem kern_step_may_ee (C : Cal) (N : Nat) (a0 a1 a2 : SV) (K : SV → ER) : eBody Tryz.prog C N Tryz.f72 (Tryz.f72.body.getD .skip) kern_step_may_ea [a0, a1, a2] K = kern_step_may_e C N a0 a1 a2 K := by kernel_rfl
noncomputable def l72 : LeafT := fun C N args K => match args with
  | [a0, a1, a2] => kern_step_may_e C N a0 a1 a2 K
  | _ => eF
theorem lok72 : LeafOk Tryz.prog 72 l72 := ⟨Tryz.f72, Tryz.f72.body.getD .skip, kern_step_may_ea, Tryz.func72, by kernel_rfl, Tryz.call72, fun C N args K H e => by
  unfold l72 at e
  split at e
  · rw [kern_step_may_ee]; exact e
  · exact eF_no e⟩

/- (*halberd/kern.step).fd -/
def kern_step_fd_ea : Ann := .two (.none) (.two (.none) (.two (.two (.none) (.sub (.loop [(3, .any), (11, .any)] (.two (.none) (.two (.two (.none) (.none)) (.join (.sub (.two (.none) (.none))) (.none) [(3, .any)])))))) (.two (.sub (.two (.none) (.two (.two (.none) (.none)) (.two (.none) (.two (.two (.none) (.none)) (.none)))))) (.two (.none) (.none)))))
noncomputable def kern_step_fd_p0 (k8 : SV × Unit → ER) (s6 : SV × SV × Unit) (x4 : SV) : ER :=
  eIndexS Tryz.prog 45 x4 s6.2.1 fun x10 => eAlloc Tryz.prog 44 fun x11 => eStore Tryz.prog 44 x11 x10 <| eIfV s6.1
  (eLoad Tryz.prog 44 x11 fun x12 => eBuild Tryz.prog 44 [] fun x13 => eBin Tryz.prog .neq 44 false x12 x13 fun x14 => eHas .any x14 (k8 (x14, ())))
  (eHas .any (.bool false) (k8 ((.bool false), ())))
noncomputable def kern_step_fd_p1 (k5 : SV × SV × Unit → ER) (s6 : SV × SV × Unit) (x4 : SV) : ER :=
  eJoinC (σ := SV × Unit) (fun (k8 : SV × Unit → ER) =>
  kern_step_fd_p0 k8 s6 x4) fun (s9 : SV × Unit) =>
  eBin Tryz.prog .add 3 false s6.2.1 (.int .i64 1) fun x15 => eHas .any s9.1 (eHas .any x15 (k5 (s9.1, x15, ())))
noncomputable def kern_step_fd_p2 (C : Cal) (K : SV → ER) (a0 : SV) : ER :=
  eNilCk a0 fun x16 => eFieldAddr Tryz.prog 76 x16 1 fun x17 => eLoad Tryz.prog 23 x17 fun x18 => eNilCk x18 fun x19 => eFieldAddr Tryz.prog 58 x19 1 fun x20 => eLoad Tryz.prog 55 x20 fun x21 => eCallR Tryz.prog C 155 [x21] 3 fun x22 => eBin Tryz.prog .geq 3 false x22 (.int .i64 16) fun x23 => eIfV x23
  (K (.int .i64 23))
  (K (.int .i64 0))
noncomputable def kern_step_fd_e (C : Cal) (N : Nat) (a0 : SV) (K : SV → ER) : ER :=
  eNilCk a0 fun x1 => eFieldAddr Tryz.prog 76 x1 2 fun x2 => eFieldAddr Tryz.prog 50 x2 11 fun x3 => eLoad Tryz.prog 45 x3 fun x4 => eHas .any (.bool true) (eHas .any (.int .i64 0) (eIter (σ := SV × SV × Unit) (fun (s6 : SV × SV × Unit) (k5 : SV × SV × Unit → ER) =>
  eBin Tryz.prog .lss 3 false s6.2.1 (.int .i64 6) fun x7 => eIfV x7
  (kern_step_fd_p1 k5 s6 x4)
  (eIfV s6.1
  (K (.int .i64 24))
  (kern_step_fd_p2 C K a0))) N ((.bool true), (.int .i64 0), ())))
theorem kern_step_fd_ee (C : Cal) (N : Nat) (a0 : SV) (K : SV → ER) : eBody Tryz.prog C N Tryz.f73 (Tryz.f73.body.getD .skip) kern_step_fd_ea [a0] K = kern_step_fd_e C N a0 K := by kernel_rfl
noncomputable def l73 : LeafT := fun C N args K => match args with
  | [a0] => kern_step_fd_e C N a0 K
  | _ => eF
theorem lok73 : LeafOk Tryz.prog 73 l73 := ⟨Tryz.f73, Tryz.f73.body.getD .skip, kern_step_fd_ea, Tryz.func73, by kernel_rfl, Tryz.call73, fun C N args K H e => by
  unfold l73 at e
  split at e
  · rw [kern_step_fd_ee]; exact e
  · exact eF_no e⟩

/- (*halberd/kern.step).ask -/
def kern_step_ask_ea : Ann := .ord [0, 1, 2, 3, 5, 6, 7, 8, 9, 10, 14, 4, 11, 12, 13, 15, 16, 17, 18, 19, 20, 21]
noncomputable def kern_step_ask_p0 (C : Cal) (K : SV → ER) (a0 : SV) (a1 : SV) (a2 : SV) (x2 : SV) (x5 : SV) (x6 : SV) : ER :=
  eLoad Tryz.prog 3 x5 fun x7 => eCallR Tryz.prog C 132 [a0, (.int .i64 1), x7] 126 fun x8 => fun H => eLoadF Tryz.prog 73 x2 x6 H && (eBuildSlice Tryz.prog 166 1 [(0, x8)] fun x9 => eApp Tryz.prog [166, 166] [x9, a2] fun x10 => fun H => eLoadF Tryz.prog 73 x2 x6 H && (eBuild Tryz.prog 168 [(0, a1), (1, x10)] fun x11 => eBuildSlice Tryz.prog 73 1 [(0, x11)] fun x12 => eApp Tryz.prog [73, 73] [x6, x12] fun x13 => eNilCk a0 fun x14 => eFieldAddr Tryz.prog 76 x14 3 fun x15 => eStore Tryz.prog 73 x15 x13 <| K (.tup [])) H) H
noncomputable def kern_step_ask_e (C : Cal) (N : Nat) (a0 a1 a2 : SV) (K : SV → ER) : ER :=
  eNilCk a0 fun x1 => eFieldAddr Tryz.prog 76 x1 3 fun x2 => eNilCk a0 fun x3 => eFieldAddr Tryz.prog 76 x3 2 fun x4 => eFieldAddr Tryz.prog 50 x4 0 fun x5 => eLoad Tryz.prog 73 x2 fun x6 => kern_step_ask_p0 C K a0 a1 a2 x2 x5 x6
theorem kern_step_ask_ee (C : Cal) (N : Nat) (a0 a1 a2 : SV) (K : SV → ER) : eBody Tryz.prog C N Tryz.f74 (Tryz.f74.body.getD .skip) kern_step_ask_ea [a0, a1, a2] K = kern_step_ask_e C N a0 a1 a2 K := by kernel_rfl
noncomputable def l74 : LeafT := fun C N args K => match args with
  | [a0, a1, a2] => kern_step_ask_e C N a0 a1 a2 K
  | _ => eF
theorem lok74 : LeafOk Tryz.prog 74 l74 := ⟨Tryz.f74, Tryz.f74.body.getD .skip, kern_step_ask_ea, Tryz.func74, by kernel_rfl, Tryz.call74, fun C N args K H e => by
  unfold l74 at e
  split at e
  · rw [kern_step_ask_ee]; exact e
  · exact eF_no e⟩

/- (*halberd/kern.step).inode -/
def kern_step_inode_ea : Ann := .two (.none) (.two (.none) (.none))
noncomputable def kern_step_inode_e (C : Cal) (N : Nat) (a0 a1 : SV) (K : SV → ER) : ER :=
  eAlloc Tryz.prog 126 fun x1 => eCallR Tryz.prog C 132 [a0, (.int .i64 2), a1] 126 fun x2 => eStore Tryz.prog 126 x1 x2 <| eLoad Tryz.prog 126 x1 fun x3 => K x3
theorem kern_step_inode_ee (C : Cal) (N : Nat) (a0 a1 : SV) (K : SV → ER) : eBody Tryz.prog C N Tryz.f75 (Tryz.f75.body.getD .skip) kern_step_inode_ea [a0, a1] K = kern_step_inode_e C N a0 a1 K := by kernel_rfl
noncomputable def l75 : LeafT := fun C N args K => match args with
  | [a0, a1] => kern_step_inode_e C N a0 a1 K
  | _ => eF
theorem lok75 : LeafOk Tryz.prog 75 l75 := ⟨Tryz.f75, Tryz.f75.body.getD .skip, kern_step_inode_ea, Tryz.func75, by kernel_rfl, Tryz.call75, fun C N args K H e => by
  unfold l75 at e
  split at e
  · rw [kern_step_inode_ee]; exact e
  · exact eF_no e⟩

/- halberd/kern.number -/
def kern_number_ea : Ann := .two (.none) (.two (.none) (.none))
noncomputable def kern_number_e (C : Cal) (N : Nat) (a0 : SV) (K : SV → ER) : ER :=
  eAlloc Tryz.prog 126 fun x1 => eConvS Tryz.prog 3 42 a0 fun x2 => eBuild Tryz.prog 126 [(3, x2)] fun x3 => eStore Tryz.prog 126 x1 x3 <| eLoad Tryz.prog 126 x1 fun x4 => K x4
theorem kern_number_ee (C : Cal) (N : Nat) (a0 : SV) (K : SV → ER) : eBody Tryz.prog C N Tryz.f76 (Tryz.f76.body.getD .skip) kern_number_ea [a0] K = kern_number_e C N a0 K := by kernel_rfl
noncomputable def l76 : LeafT := fun C N args K => match args with
  | [a0] => kern_number_e C N a0 K
  | _ => eF
theorem lok76 : LeafOk Tryz.prog 76 l76 := ⟨Tryz.f76, Tryz.f76.body.getD .skip, kern_number_ea, Tryz.func76, by kernel_rfl, Tryz.call76, fun C N args K H e => by
  unfold l76 at e
  split at e
  · rw [kern_number_ee]; exact e
  · exact eF_no e⟩

/- (*halberd/kern.step).tells -/
def kern_step_tells_ea : Ann := .two (.none) (.two (.none) (.two (.none) (.none)))
noncomputable def kern_step_tells_e (C : Cal) (N : Nat) (a0 a1 : SV) (K : SV → ER) : ER :=
  eBox Tryz.prog 132 a1 fun x1 => eNilCk a0 fun x2 => eFieldAddr Tryz.prog 76 x2 4 fun x3 => eStore Tryz.prog 74 x3 (.fn 156 [] [x1]) <| K (.int .i64 0)
theorem kern_step_tells_ee (C : Cal) (N : Nat) (a0 a1 : SV) (K : SV → ER) : eBody Tryz.prog C N Tryz.f77 (Tryz.f77.body.getD .skip) kern_step_tells_ea [a0, a1] K = kern_step_tells_e C N a0 a1 K := by kernel_rfl
noncomputable def l77 : LeafT := fun C N args K => match args with
  | [a0, a1] => kern_step_tells_e C N a0 a1 K
  | _ => eF
theorem lok77 : LeafOk Tryz.prog 77 l77 := ⟨Tryz.f77, Tryz.f77.body.getD .skip, kern_step_tells_ea, Tryz.func77, by kernel_rfl, Tryz.call77, fun C N args K H e => by
  unfold l77 at e
  split at e
  · rw [kern_step_tells_ee]; exact e
  · exact eF_no e⟩

end Go.Proofs.YtnpcjhcgbcpcoaaGreatDoor

set_option linter.unusedVariables false
set_option maxRecDepth 100000
namespace Go.Proofs.YtnpcjhcgbcpcoaaGreatDoor
open Go.Hl
/- (*halberd/kern.step).open$1 -/
def kern_step_open_1_ea : Ann := .two (.none) (.join (.two (.none) (.two (.ord [7, 0, 1, 2, 3, 4, 5, 6, 8, 9]) (.none))) (.two (.ord [12, 0, 1, 2, 3, 4, 5, 6, 7, 8, 9, 10, 11, 13, 14, 15, 16, 17, 18, 19]) (.none)) [])
noncomputable def kern_step_open_1_p0 (C : Cal) (a0 : SV) (a1 : SV) (k1 : Unit → ER) : ER :=
  eFieldAddr Tryz.prog 40 a1 0 fun x10 => eLoad Tryz.prog 70 a0 fun x11 => eNilCk x11 fun x12 => eFieldAddr Tryz.prog 76 x12 1 fun x13 => eLoad Tryz.prog 23 x13 fun x14 => eNilCk x14 fun x15 => eFieldAddr Tryz.prog 58 x15 0 fun x16 => eLoad Tryz.prog 53 x16 fun x17 => eLoad Tryz.prog 3 x10 fun x18 => eCallR Tryz.prog C 79 [x17, x18, (.str [])] 26 fun x19 => k1 (())
noncomputable def kern_step_open_1_p1 (C : Cal) (K : SV → ER) (a0 : SV) (a2 : SV) (x20 : SV) (x22 : SV) : ER :=
  eFieldAddr Tryz.prog 76 x22 1 fun x23 => eLoad Tryz.prog 23 x23 fun x24 => eNilCk x24 fun x25 => eFieldAddr Tryz.prog 58 x25 1 fun x26 => eLoad Tryz.prog 55 x26 fun x27 => eLoad Tryz.prog 70 a0 fun x28 => eNilCk x28 fun x29 => eFieldAddr Tryz.prog 76 x29 2 fun x30 => eFieldAddr Tryz.prog 50 x30 0 fun x31 => eLoad Tryz.prog 3 x31 fun x32 => eLoad Tryz.prog 3 x20 fun x33 => eLoad Tryz.prog 3 a2 fun x34 => eCallR Tryz.prog C 80 [x27, x32, x33, x34] 130 fun x35 => eExtract x35 0 fun x36 => eExtract x35 1 fun x37 => K (.tup [x36, x37])
noncomputable def kern_step_open_1_p2 (C : Cal) (a0 : SV) (a1 : SV) (k1 : Unit → ER) : ER :=
  eLoad Tryz.prog 70 a0 fun x3 => eNilCk x3 fun x4 => eFieldAddr Tryz.prog 76 x4 0 fun x5 => eFieldAddr Tryz.prog 31 x5 2 fun x6 => eLoad Tryz.prog 3 x6 fun x7 => eBin Tryz.prog .and 3 false x7 (.int .i64 16) fun x8 => eBin Tryz.prog .neq 3 false x8 (.int .i64 0) fun x9 => eIfV x9
  (kern_step_open_1_p0 C a0 a1 k1)
  (k1 (()))
noncomputable def kern_step_open_1_e (C : Cal) (N : Nat) (a0 a1 a2 : SV) (K : SV → ER) : ER :=
  eJoinC (σ := Unit) (fun (k1 : Unit → ER) =>
  kern_step_open_1_p2 C a0 a1 k1) fun (s2 : Unit) =>
  eFieldAddr Tryz.prog 40 a1 0 fun x20 => eLoad Tryz.prog 70 a0 fun x21 => eNilCk x21 fun x22 => kern_step_open_1_p1 C K a0 a2 x20 x22
theorem kern_step_open_1_ee (C : Cal) (N : Nat) (a0 a1 a2 : SV) (K : SV → ER) : eBody Tryz.prog C N Tryz.f78 (Tryz.f78.body.getD .skip) kern_step_open_1_ea [a0, a1, a2] K = kern_step_open_1_e C N a0 a1 a2 K := by kernel_rfl
noncomputable def l78 : LeafT := fun C N args K => match args with
  | [a0, a1, a2] => kern_step_open_1_e C N a0 a1 a2 K
  | _ => eF
theorem lok78 : LeafOk Tryz.prog 78 l78 := ⟨Tryz.f78, Tryz.f78.body.getD .skip, kern_step_open_1_ea, Tryz.func78, by kernel_rfl, Tryz.call78, fun C N args K H e => by
  unfold l78 at e
  split at e
  · rw [kern_step_open_1_ee]; exact e
  · exact eF_no e⟩

/- (*halberd/inodes.Table).Write -/
def inodes_Table_Write_ea : Ann := .two (.none) (.two (.none) (.two (.sub (.two (.none) (.two (.two (.none) (.none)) (.two (.none) (.two (.two (.none) (.none)) (.two (.none) (.two (.two (.none) (.none)) (.none)))))))) (.two (.none) (.two (.none) (.none)))))
noncomputable def inodes_Table_Write_p0 (K : SV → ER) (a2 : SV) (x1 : SV) : ER :=
  eLenS Tryz.prog [9] [a2] fun x7 => eBin Tryz.prog .gtr 3 false x7 (.int .i64 32) fun x8 => eIfV x8
  (K (.int .i64 27))
  (eNilCk x1 fun x9 => eFieldAddr Tryz.prog 40 x9 7 fun x10 => eStore Tryz.prog 9 x10 a2 <| K (.int .i64 0))
noncomputable def inodes_Table_Write_p1 (K : SV → ER) (a2 : SV) (x1 : SV) : ER :=
  eNilCk x1 fun x3 => eFieldAddr Tryz.prog 40 x3 2 fun x4 => eLoad Tryz.prog 3 x4 fun x5 => eBin Tryz.prog .eql 3 false x5 (.int .i64 2) fun x6 => eIfV x6
  (K (.int .i64 22))
  (inodes_Table_Write_p0 K a2 x1)
noncomputable def inodes_Table_Write_e (C : Cal) (N : Nat) (a0 a1 a2 : SV) (K : SV → ER) : ER :=
  eCallR Tryz.prog C 25 [a0, a1] 91 fun x1 => eBin Tryz.prog .eql 91 true x1 (.ptr none) fun x2 => eIfV x2
  (K (.int .i64 2))
  (inodes_Table_Write_p1 K a2 x1)
theorem inodes_Table_Write_ee (C : Cal) (N : Nat) (a0 a1 a2 : SV) (K : SV → ER) : eBody Tryz.prog C N Tryz.f79 (Tryz.f79.body.getD .skip) inodes_Table_Write_ea [a0, a1, a2] K = inodes_Table_Write_e C N a0 a1 a2 K := by kernel_rfl
noncomputable def l79 : LeafT := fun C N args K => match args with
  | [a0, a1, a2] => inodes_Table_Write_e C N a0 a1 a2 K
  | _ => eF
theorem lok79 : LeafOk Tryz.prog 79 l79 := ⟨Tryz.f79, Tryz.f79.body.getD .skip, inodes_Table_Write_ea, Tryz.func79, by kernel_rfl, Tryz.call79, fun C N args K H e => by
  unfold l79 at e
  split at e
  · rw [inodes_Table_Write_ee]; exact e
  · exact eF_no e⟩

/- (*halberd/tasks.Table).Add -/
def tasks_Table_Add_ea : Ann := .two (.none) (.two (.none) (.none))
noncomputable def tasks_Table_Add_e (C : Cal) (N : Nat) (a0 a1 a2 a3 : SV) (K : SV → ER) : ER :=
  eBuild Tryz.prog 44 [(0, a2), (1, a3)] fun x1 => eCallR Tryz.prog C 158 [a0, a1, x1] 130 fun x2 => eExtract x2 0 fun x3 => eExtract x2 1 fun x4 => K (.tup [x3, x4])
theorem tasks_Table_Add_ee (C : Cal) (N : Nat) (a0 a1 a2 a3 : SV) (K : SV → ER) : eBody Tryz.prog C N Tryz.f80 (Tryz.f80.body.getD .skip) tasks_Table_Add_ea [a0, a1, a2, a3] K = tasks_Table_Add_e C N a0 a1 a2 a3 K := by kernel_rfl
noncomputable def l80 : LeafT := fun C N args K => match args with
  | [a0, a1, a2, a3] => tasks_Table_Add_e C N a0 a1 a2 a3 K
  | _ => eF
theorem lok80 : LeafOk Tryz.prog 80 l80 := ⟨Tryz.f80, Tryz.f80.body.getD .skip, tasks_Table_Add_ea, Tryz.func80, by kernel_rfl, Tryz.call80, fun C N args K H e => by
  unfold l80 at e
  split at e
  · rw [tasks_Table_Add_ee]; exact e
  · exact eF_no e⟩

/- (*halberd/kern.step).room -/
def kern_step_room_ea : Ann := .two (.none) (.two (.two (.none) (.two (.none) (.two (.two (.none) (.none)) (.none)))) (.two (.none) (.none)))
noncomputable def kern_step_room_p0 (C : Cal) (K : SV → ER) (a1 : SV) (x1 : SV) : ER :=
  eFieldAddr Tryz.prog 76 x1 1 fun x2 => eLoad Tryz.prog 23 x2 fun x3 => eNilCk x3 fun x4 => eFieldAddr Tryz.prog 58 x4 0 fun x5 => eLoad Tryz.prog 53 x5 fun x6 => eCallR Tryz.prog C 18 [x6, a1] 77 fun x7 => eExtract x7 0 fun x8 => eExtract x7 1 fun x9 => eAlloc Tryz.prog 40 fun x10 => eStore Tryz.prog 40 x10 x8 <| eFieldAddr Tryz.prog 40 x10 8 fun x11 => eLoad Tryz.prog 25 x11 fun x12 => eLenS Tryz.prog [25] [x12] fun x13 => eBin Tryz.prog .geq 3 false x13 (.int .i64 8) fun x14 => eIfV x14
  (K (.int .i64 28))
  (K (.int .i64 0))
noncomputable def kern_step_room_e (C : Cal) (N : Nat) (a0 a1 : SV) (K : SV → ER) : ER :=
  eNilCk a0 fun x1 => kern_step_room_p0 C K a1 x1
theorem kern_step_room_ee (C : Cal) (N : Nat) (a0 a1 : SV) (K : SV → ER) : eBody Tryz.prog C N Tryz.f81 (Tryz.f81.body.getD .skip) kern_step_room_ea [a0, a1] K = kern_step_room_e C N a0 a1 K := by kernel_rfl
noncomputable def l81 : LeafT := fun C N args K => match args with
  | [a0, a1] => kern_step_room_e C N a0 a1 K
  | _ => eF
theorem lok81 : LeafOk Tryz.prog 81 l81 := ⟨Tryz.f81, Tryz.f81.body.getD .skip, kern_step_room_ea, Tryz.func81, by kernel_rfl, Tryz.call81, fun C N args K H e => by
  unfold l81 at e
  split at e
  · rw [kern_step_room_ee]; exact e
  · exact eF_no e⟩

/- (*halberd/kern.step).place -/
def kern_step_place_ea : Ann := .two (.none) (.two (.two (.none) (.two (.two (.none) (.none)) (.none))) (.two (.none) (.none)))
noncomputable def kern_step_place_e (C : Cal) (N : Nat) (a0 : SV) (K : SV → ER) : ER :=
  eNilCk a0 fun x1 => eFieldAddr Tryz.prog 76 x1 1 fun x2 => eLoad Tryz.prog 23 x2 fun x3 => eNilCk x3 fun x4 => eFieldAddr Tryz.prog 58 x4 0 fun x5 => eLoad Tryz.prog 53 x5 fun x6 => eCallR Tryz.prog C 159 [x6] 3 fun x7 => eBin Tryz.prog .eql 3 false x7 (.int .i64 0) fun x8 => eIfV x8
  (K (.int .i64 28))
  (K (.int .i64 0))
theorem kern_step_place_ee (C : Cal) (N : Nat) (a0 : SV) (K : SV → ER) : eBody Tryz.prog C N Tryz.f82 (Tryz.f82.body.getD .skip) kern_step_place_ea [a0] K = kern_step_place_e C N a0 K := by kernel_rfl
noncomputable def l82 : LeafT := fun C N args K => match args with
  | [a0] => kern_step_place_e C N a0 K
  | _ => eF
theorem lok82 : LeafOk Tryz.prog 82 l82 := ⟨Tryz.f82, Tryz.f82.body.getD .skip, kern_step_place_ea, Tryz.func82, by kernel_rfl, Tryz.call82, fun C N args K H e => by
  unfold l82 at e
  split at e
  · rw [kern_step_place_ee]; exact e
  · exact eF_no e⟩

/- (*halberd/kern.step).open$2 -/
def kern_step_open_2_ea : Ann := .two (.none) (.two (.ord [0, 1, 2, 3, 4, 5, 6, 7, 8, 9, 10, 11, 12, 13, 14, 15, 16, 17, 18, 20, 19, 21, 22, 23, 24, 25]) (.none))
noncomputable def kern_step_open_2_p0 (C : Cal) (K : SV → ER) (a0 : SV) (a2 : SV) (x1 : SV) (x3 : SV) (x4 : SV) (x6 : SV) (x7 : SV) (x8 : SV) (x11 : SV) (x12 : SV) (x13 : SV) (x14 : SV) (x19 : SV) : ER :=
  eLoad Tryz.prog 3 a2 fun x20 => eCallR Tryz.prog C 84 [x13, x14, (.int .i64 1), x19, (.str [])] 3 fun x21 => fun H => eLoadF Tryz.prog 3 a2 x20 H && (fun H => eLoadF Tryz.prog 3 x11 x12 H && (fun H => eLoadF Tryz.prog 70 a0 x8 H && (fun H => eLoadF Tryz.prog 55 x6 x7 H && (fun H => eLoadF Tryz.prog 23 x3 x4 H && (fun H => eLoadF Tryz.prog 70 a0 x1 H && (eCallR Tryz.prog C 80 [x7, x12, x21, x20] 130 fun x22 => eExtract x22 0 fun x23 => eExtract x22 1 fun x24 => K (.tup [x23, x24])) H) H) H) H) H) H
noncomputable def kern_step_open_2_p1 (C : Cal) (K : SV → ER) (a0 : SV) (a1 : SV) (a2 : SV) (x1 : SV) (x3 : SV) (x4 : SV) (x6 : SV) : ER :=
  eLoad Tryz.prog 55 x6 fun x7 => eLoad Tryz.prog 70 a0 fun x8 => eNilCk x8 fun x9 => eFieldAddr Tryz.prog 76 x9 2 fun x10 => eFieldAddr Tryz.prog 50 x10 0 fun x11 => eLoad Tryz.prog 3 x11 fun x12 => eLoad Tryz.prog 70 a0 fun x13 => eLoad Tryz.prog 113 a1 fun x14 => eLoad Tryz.prog 70 a0 fun x15 => eNilCk x15 fun x16 => eFieldAddr Tryz.prog 76 x16 0 fun x17 => eFieldAddr Tryz.prog 31 x17 3 fun x18 => eLoad Tryz.prog 3 x18 fun x19 => kern_step_open_2_p0 C K a0 a2 x1 x3 x4 x6 x7 x8 x11 x12 x13 x14 x19
noncomputable def kern_step_open_2_e (C : Cal) (N : Nat) (a0 a1 a2 : SV) (K : SV → ER) : ER :=
  eLoad Tryz.prog 70 a0 fun x1 => eNilCk x1 fun x2 => eFieldAddr Tryz.prog 76 x2 1 fun x3 => eLoad Tryz.prog 23 x3 fun x4 => eNilCk x4 fun x5 => eFieldAddr Tryz.prog 58 x5 1 fun x6 => kern_step_open_2_p1 C K a0 a1 a2 x1 x3 x4 x6
theorem kern_step_open_2_ee (C : Cal) (N : Nat) (a0 a1 a2 : SV) (K : SV → ER) : eBody Tryz.prog C N Tryz.f83 (Tryz.f83.body.getD .skip) kern_step_open_2_ea [a0, a1, a2] K = kern_step_open_2_e C N a0 a1 a2 K := by kernel_rfl
noncomputable def l83 : LeafT := fun C N args K => match args with
  | [a0, a1, a2] => kern_step_open_2_e C N a0 a1 a2 K
  | _ => eF
theorem lok83 : LeafOk Tryz.prog 83 l83 := ⟨Tryz.f83, Tryz.f83.body.getD .skip, kern_step_open_2_ea, Tryz.func83, by kernel_rfl, Tryz.call83, fun C N args K H e => by
  unfold l83 at e
  split at e
  · rw [kern_step_open_2_ee]; exact e
  · exact eF_no e⟩

/- (*halberd/kern.step).make -/
def kern_step_make_ea : Ann := .two (.none) (.two (.ord [0, 1, 2, 7, 8, 9, 10, 11, 12, 14, 15, 16, 17, 3, 4, 5, 6, 13, 18, 19, 20, 21, 22, 23, 24]) (.two (.ord [0, 1, 2, 7, 9, 11, 3, 4, 5, 6, 8, 10, 12]) (.join (.two (.none) (.two (.none) (.none))) (.two (.none) (.none)) [])))
noncomputable def kern_step_make_p0 (C : Cal) (a0 : SV) (a4 : SV) (k30 : Unit → ER) (x17 : SV) : ER :=
  eNilCk a0 fun x33 => eFieldAddr Tryz.prog 76 x33 1 fun x34 => eLoad Tryz.prog 23 x34 fun x35 => eNilCk x35 fun x36 => eFieldAddr Tryz.prog 58 x36 0 fun x37 => eLoad Tryz.prog 53 x37 fun x38 => eCallR Tryz.prog C 79 [x38, x17, a4] 26 fun x39 => k30 (())
noncomputable def kern_step_make_p1 (C : Cal) (K : SV → ER) (a0 : SV) (a2 : SV) (a4 : SV) (x1 : SV) (x17 : SV) (x20 : SV) : ER :=
  eFieldAddr Tryz.prog 113 x1 0 fun x21 => eFieldAddr Tryz.prog 113 x1 1 fun x22 => eLoad Tryz.prog 23 x20 fun x23 => eNilCk x23 fun x24 => eFieldAddr Tryz.prog 58 x24 0 fun x25 => eLoad Tryz.prog 53 x25 fun x26 => eLoad Tryz.prog 3 x21 fun x27 => eLoad Tryz.prog 9 x22 fun x28 => eCallR Tryz.prog C 101 [x26, x27, x28, x17] 26 fun x29 => eJoinC (σ := Unit) (fun (k30 : Unit → ER) =>
  eBin Tryz.prog .neq 3 false a2 (.int .i64 2) fun x32 => eIfV x32
  (kern_step_make_p0 C a0 a4 k30 x17)
  (k30 (()))) fun (s31 : Unit) =>
  K x17
noncomputable def kern_step_make_p2 (C : Cal) (K : SV → ER) (a0 : SV) (a2 : SV) (a3 : SV) (a4 : SV) (x1 : SV) (x3 : SV) (x6 : SV) : ER :=
  eNilCk a0 fun x7 => eFieldAddr Tryz.prog 76 x7 2 fun x8 => eFieldAddr Tryz.prog 50 x8 4 fun x9 => eLoad Tryz.prog 23 x3 fun x10 => eNilCk x10 fun x11 => eFieldAddr Tryz.prog 58 x11 0 fun x12 => eLoad Tryz.prog 53 x12 fun x13 => eLoad Tryz.prog 3 x6 fun x14 => eLoad Tryz.prog 3 x9 fun x15 => eCallR Tryz.prog C 160 [x13, a2, a3, x14, x15] 130 fun x16 => eExtract x16 0 fun x17 => eExtract x16 1 fun x18 => eNilCk a0 fun x19 => eFieldAddr Tryz.prog 76 x19 1 fun x20 => kern_step_make_p1 C K a0 a2 a4 x1 x17 x20
noncomputable def kern_step_make_e (C : Cal) (N : Nat) (a0 a1 a2 a3 a4 : SV) (K : SV → ER) : ER :=
  eBox Tryz.prog 113 a1 fun x1 => eNilCk a0 fun x2 => eFieldAddr Tryz.prog 76 x2 1 fun x3 => eNilCk a0 fun x4 => eFieldAddr Tryz.prog 76 x4 2 fun x5 => eFieldAddr Tryz.prog 50 x5 3 fun x6 => kern_step_make_p2 C K a0 a2 a3 a4 x1 x3 x6
theorem kern_step_make_ee (C : Cal) (N : Nat) (a0 a1 a2 a3 a4 : SV) (K : SV → ER) : eBody Tryz.prog C N Tryz.f84 (Tryz.f84.body.getD .skip) kern_step_make_ea [a0, a1, a2, a3, a4] K = kern_step_make_e C N a0 a1 a2 a3 a4 K := by kernel_rfl
noncomputable def l84 : LeafT := fun C N args K => match args with
  | [a0, a1, a2, a3, a4] => kern_step_make_e C N a0 a1 a2 a3 a4 K
  | _ => eF
theorem lok84 : LeafOk Tryz.prog 84 l84 := ⟨Tryz.f84, Tryz.f84.body.getD .skip, kern_step_make_ea, Tryz.func84, by kernel_rfl, Tryz.call84, fun C N args K H e => by
  unfold l84 at e
  split at e
  · rw [kern_step_make_ee]; exact e
  · exact eF_no e⟩

/- (*halberd/kern.step).file -/
def kern_step_file_ea : Ann := .two (.none) (.two (.ord [0, 1, 2, 7, 8, 9, 10, 12, 13, 14, 15, 3, 4, 5, 6, 11, 16, 17, 18, 19, 20, 21]) (.none))
noncomputable def kern_step_file_p0 (C : Cal) (K : SV → ER) (a0 : SV) (x1 : SV) (x3 : SV) (x5 : SV) : ER :=
  eFieldAddr Tryz.prog 50 x5 0 fun x6 => eNilCk a0 fun x7 => eFieldAddr Tryz.prog 76 x7 0 fun x8 => eFieldAddr Tryz.prog 31 x8 2 fun x9 => eLoad Tryz.prog 23 x3 fun x10 => eNilCk x10 fun x11 => eFieldAddr Tryz.prog 58 x11 1 fun x12 => eLoad Tryz.prog 55 x12 fun x13 => eLoad Tryz.prog 3 x6 fun x14 => eLoad Tryz.prog 3 x9 fun x15 => eCallR Tryz.prog C 161 [x13, x14, x15] 134 fun x16 => eExtract x16 0 fun x17 => eExtract x16 1 fun x18 => eStore Tryz.prog 44 x1 x17 <| eLoad Tryz.prog 44 x1 fun x19 => K (.tup [x19, x18])
noncomputable def kern_step_file_e (C : Cal) (N : Nat) (a0 : SV) (K : SV → ER) : ER :=
  eAlloc Tryz.prog 44 fun x1 => eNilCk a0 fun x2 => eFieldAddr Tryz.prog 76 x2 1 fun x3 => eNilCk a0 fun x4 => eFieldAddr Tryz.prog 76 x4 2 fun x5 => kern_step_file_p0 C K a0 x1 x3 x5
theorem kern_step_file_ee (C : Cal) (N : Nat) (a0 : SV) (K : SV → ER) : eBody Tryz.prog C N Tryz.f85 (Tryz.f85.body.getD .skip) kern_step_file_ea [a0] K = kern_step_file_e C N a0 K := by kernel_rfl
noncomputable def l85 : LeafT := fun C N args K => match args with
  | [a0] => kern_step_file_e C N a0 K
  | _ => eF
theorem lok85 : LeafOk Tryz.prog 85 l85 := ⟨Tryz.f85, Tryz.f85.body.getD .skip, kern_step_file_ea, Tryz.func85, by kernel_rfl, Tryz.call85, fun C N args K H e => by
  unfold l85 at e
  split at e
  · rw [kern_step_file_ee]; exact e
  · exact eF_no e⟩

end Go.Proofs.YtnpcjhcgbcpcoaaGreatDoor

set_option linter.unusedVariables false
set_option maxRecDepth 100000
namespace Go.Proofs.YtnpcjhcgbcpcoaaGreatDoor
open Go.Hl
/- (*halberd/kern.step).does -/
def kern_step_does_ea : Ann := .two (.none) (.two (.none) (.two (.none) (.none)))
noncomputable def kern_step_does_e (C : Cal) (N : Nat) (a0 a1 : SV) (K : SV → ER) : ER :=
  eBox Tryz.prog 1 a1 fun x1 => eNilCk a0 fun x2 => eFieldAddr Tryz.prog 76 x2 4 fun x3 => eStore Tryz.prog 74 x3 (.fn 162 [] [x1]) <| K (.int .i64 0)
theorem kern_step_does_ee (C : Cal) (N : Nat) (a0 a1 : SV) (K : SV → ER) : eBody Tryz.prog C N Tryz.f86 (Tryz.f86.body.getD .skip) kern_step_does_ea [a0, a1] K = kern_step_does_e C N a0 a1 K := by kernel_rfl
noncomputable def l86 : LeafT := fun C N args K => match args with
  | [a0, a1] => kern_step_does_e C N a0 a1 K
  | _ => eF
theorem lok86 : LeafOk Tryz.prog 86 l86 := ⟨Tryz.f86, Tryz.f86.body.getD .skip, kern_step_does_ea, Tryz.func86, by kernel_rfl, Tryz.call86, fun C N args K H e => by
  unfold l86 at e
  split at e
  · rw [kern_step_does_ee]; exact e
  · exact eF_no e⟩

/- (*halberd/tasks.Table).Seek -/
def tasks_Table_Seek_ea : Ann := .two (.none) (.two (.none) (.none))
noncomputable def tasks_Table_Seek_e (C : Cal) (N : Nat) (a0 a1 a2 a3 : SV) (K : SV → ER) : ER :=
  eBox Tryz.prog 3 a3 fun x1 => eCallR Tryz.prog C 164 [a0, a1, a2, (.fn 166 [] [x1])] 26 fun x2 => K x2
theorem tasks_Table_Seek_ee (C : Cal) (N : Nat) (a0 a1 a2 a3 : SV) (K : SV → ER) : eBody Tryz.prog C N Tryz.f90 (Tryz.f90.body.getD .skip) tasks_Table_Seek_ea [a0, a1, a2, a3] K = tasks_Table_Seek_e C N a0 a1 a2 a3 K := by kernel_rfl
noncomputable def l90 : LeafT := fun C N args K => match args with
  | [a0, a1, a2, a3] => tasks_Table_Seek_e C N a0 a1 a2 a3 K
  | _ => eF
theorem lok90 : LeafOk Tryz.prog 90 l90 := ⟨Tryz.f90, Tryz.f90.body.getD .skip, tasks_Table_Seek_ea, Tryz.func90, by kernel_rfl, Tryz.call90, fun C N args K H e => by
  unfold l90 at e
  split at e
  · rw [tasks_Table_Seek_ee]; exact e
  · exact eF_no e⟩

/- (*halberd/kern.step).write$1 -/
def kern_step_write_1_ea : Ann := .two (.none) (.two (.ord [0, 2, 4, 1, 3, 5, 6, 7, 8, 9, 10]) (.two (.ord [7, 9, 10, 19, 21, 22, 0, 1, 2, 3, 4, 5, 6, 8, 11, 12, 13, 14, 15, 16, 17, 18, 20, 23, 24, 25, 26]) (.two (.ord [0, 1, 2, 3, 4, 5, 6, 7, 8, 9, 10, 11, 12, 13, 14, 15, 16, 17, 18]) (.two (.none) (.none)))))
noncomputable def kern_step_write_1_p0 (C : Cal) (K : SV → ER) (a2 : SV) (a3 : SV) (x41 : SV) (x45 : SV) : ER :=
  eLoad Tryz.prog 3 x45 fun x46 => eLoad Tryz.prog 70 a2 fun x47 => eNilCk x47 fun x48 => eFieldAddr Tryz.prog 76 x48 0 fun x49 => eFieldAddr Tryz.prog 31 x49 2 fun x50 => eLoad Tryz.prog 3 x50 fun x51 => eLoad Tryz.prog 3 a3 fun x52 => eCallR Tryz.prog C 90 [x41, x46, x51, x52] 26 fun x53 => eLoad Tryz.prog 70 a2 fun x54 => eNilCk x54 fun x55 => eFieldAddr Tryz.prog 76 x55 0 fun x56 => eFieldAddr Tryz.prog 31 x56 5 fun x57 => eLoad Tryz.prog 9 x57 fun x58 => eLenS Tryz.prog [9] [x58] fun x59 => K (.tup [x59, (.int .i64 0)])
noncomputable def kern_step_write_1_p1 (C : Cal) (K : SV → ER) (a2 : SV) (a3 : SV) (x20 : SV) (x21 : SV) (x29 : SV) (x32 : SV) : ER :=
  eBin Tryz.prog .add 9 false x29 x32 fun x33 => eCallR Tryz.prog C 79 [x20, x21, x33] 26 fun x34 => eLoad Tryz.prog 70 a2 fun x35 => eNilCk x35 fun x36 => eFieldAddr Tryz.prog 76 x36 1 fun x37 => eLoad Tryz.prog 23 x37 fun x38 => eNilCk x38 fun x39 => eFieldAddr Tryz.prog 58 x39 1 fun x40 => eLoad Tryz.prog 55 x40 fun x41 => eLoad Tryz.prog 70 a2 fun x42 => eNilCk x42 fun x43 => eFieldAddr Tryz.prog 76 x43 2 fun x44 => eFieldAddr Tryz.prog 50 x44 0 fun x45 => kern_step_write_1_p0 C K a2 a3 x41 x45
noncomputable def kern_step_write_1_p2 (C : Cal) (K : SV → ER) (a2 : SV) (a3 : SV) (x10 : SV) (x11 : SV) (x12 : SV) (x13 : SV) (x20 : SV) : ER :=
  eLoad Tryz.prog 3 x11 fun x21 => eLoad Tryz.prog 3 x12 fun x22 => eSliceS Tryz.prog 9 x10 none (some (.v x22)) none fun x23 => eLoad Tryz.prog 70 a2 fun x24 => eNilCk x24 fun x25 => eFieldAddr Tryz.prog 76 x25 0 fun x26 => eFieldAddr Tryz.prog 31 x26 5 fun x27 => eLoad Tryz.prog 9 x27 fun x28 => eBin Tryz.prog .add 9 false x23 x28 fun x29 => eLoad Tryz.prog 3 a3 fun x30 => eMinMaxS false [x30, x13] fun x31 => eSliceS Tryz.prog 9 x10 (some (.v x31)) none none fun x32 => kern_step_write_1_p1 C K a2 a3 x20 x21 x29 x32
noncomputable def kern_step_write_1_p3 (C : Cal) (K : SV → ER) (a0 : SV) (a1 : SV) (a2 : SV) (a3 : SV) (x1 : SV) (x4 : SV) (x8 : SV) : ER :=
  eCallR Tryz.prog C 92 [x8] 9 fun x9 => fun H => eLoadF Tryz.prog 9 x1 x4 H && (eBin Tryz.prog .add 9 false x4 x9 fun x10 => eFieldAddr Tryz.prog 40 a0 0 fun x11 => eFieldAddr Tryz.prog 44 a1 2 fun x12 => eLenS Tryz.prog [9] [x10] fun x13 => eLoad Tryz.prog 70 a2 fun x14 => eNilCk x14 fun x15 => eFieldAddr Tryz.prog 76 x15 1 fun x16 => eLoad Tryz.prog 23 x16 fun x17 => eNilCk x17 fun x18 => eFieldAddr Tryz.prog 58 x18 0 fun x19 => eLoad Tryz.prog 53 x19 fun x20 => kern_step_write_1_p2 C K a2 a3 x10 x11 x12 x13 x20) H
noncomputable def kern_step_write_1_e (C : Cal) (N : Nat) (a0 a1 a2 a3 : SV) (K : SV → ER) : ER :=
  eFieldAddr Tryz.prog 40 a0 7 fun x1 => eFieldAddr Tryz.prog 44 a1 2 fun x2 => eFieldAddr Tryz.prog 40 a0 7 fun x3 => eLoad Tryz.prog 9 x1 fun x4 => eLoad Tryz.prog 3 x2 fun x5 => eLoad Tryz.prog 9 x3 fun x6 => eLenS Tryz.prog [9] [x6] fun x7 => eBin Tryz.prog .sub 3 false x5 x7 fun x8 => kern_step_write_1_p3 C K a0 a1 a2 a3 x1 x4 x8
theorem kern_step_write_1_ee (C : Cal) (N : Nat) (a0 a1 a2 a3 : SV) (K : SV → ER) : eBody Tryz.prog C N Tryz.f91 (Tryz.f91.body.getD .skip) kern_step_write_1_ea [a0, a1, a2, a3] K = kern_step_write_1_e C N a0 a1 a2 a3 K := by kernel_rfl
noncomputable def l91 : LeafT := fun C N args K => match args with
  | [a0, a1, a2, a3] => kern_step_write_1_e C N a0 a1 a2 a3 K
  | _ => eF
theorem lok91 : LeafOk Tryz.prog 91 l91 := ⟨Tryz.f91, Tryz.f91.body.getD .skip, kern_step_write_1_ea, Tryz.func91, by kernel_rfl, Tryz.call91, fun C N args K H e => by
  unfold l91 at e
  split at e
  · rw [kern_step_write_1_ee]; exact e
  · exact eF_no e⟩

/- halberd/kern.zeros -/
def kern_zeros_ea : Ann := .two (.none) (.two (.none) (.none))
noncomputable def kern_zeros_e (C : Cal) (N : Nat) (a0 : SV) (K : SV → ER) : ER :=
  eMinMaxS true [a0, (.int .i64 0)] fun x1 => eCallR Tryz.prog C 167 [(.str [0]), x1] 9 fun x2 => K x2
theorem kern_zeros_ee (C : Cal) (N : Nat) (a0 : SV) (K : SV → ER) : eBody Tryz.prog C N Tryz.f92 (Tryz.f92.body.getD .skip) kern_zeros_ea [a0] K = kern_zeros_e C N a0 K := by kernel_rfl
noncomputable def l92 : LeafT := fun C N args K => match args with
  | [a0] => kern_zeros_e C N a0 K
  | _ => eF
theorem lok92 : LeafOk Tryz.prog 92 l92 := ⟨Tryz.f92, Tryz.f92.body.getD .skip, kern_zeros_ea, Tryz.func92, by kernel_rfl, Tryz.call92, fun C N args K H e => by
  unfold l92 at e
  split at e
  · rw [kern_zeros_ee]; exact e
  · exact eF_no e⟩

/- (*halberd/kern.step).fresh -/
def kern_step_fresh_ea : Ann := .two (.none) (.two (.none) (.join (.ord [1, 2, 3, 4, 5, 15, 16, 0, 6, 7, 8, 9, 10, 11, 12, 13, 14, 17, 18, 19, 20, 21]) (.none) [(5, .any)]))
noncomputable def kern_step_fresh_p0 (C : Cal) (k8 : SV × Unit → ER) (x1 : SV) (x2 : SV) (x6 : SV) (x7 : SV) (x12 : SV) : ER :=
  eCallR Tryz.prog C 71 [(.bool true), (.int .i64 17)] 26 fun x15 => fun H => eLoadF Tryz.prog 113 x7 x12 H && (eCallR Tryz.prog C 168 [x6, (.fn 169 [] [x1, x7])] 26 fun x16 => fun H => eLoadF Tryz.prog 113 x7 x12 H && (eBuildSlice Tryz.prog 164 3 [(0, x6), (1, x15), (2, x16)] fun x17 => eCallR Tryz.prog C 70 [x17] 26 fun x18 => fun H => eLoadF Tryz.prog 113 x7 x12 H && (eStore Tryz.prog 113 x2 x12 <| eHas .any x18 (k8 (x18, ()))) H) H) H
noncomputable def kern_step_fresh_p1 (C : Cal) (k8 : SV × Unit → ER) (x1 : SV) (x2 : SV) (x6 : SV) (x7 : SV) (x12 : SV) (x19 : SV) : ER :=
  eLoad Tryz.prog 9 x19 fun x20 => eBin Tryz.prog .eql 9 false x20 (.str []) fun x21 => eCallR Tryz.prog C 71 [x21, (.int .i64 17)] 26 fun x22 => fun H => eLoadF Tryz.prog 113 x7 x12 H && (eCallR Tryz.prog C 168 [x6, (.fn 169 [] [x1, x7])] 26 fun x23 => fun H => eLoadF Tryz.prog 113 x7 x12 H && (eBuildSlice Tryz.prog 164 3 [(0, x6), (1, x22), (2, x23)] fun x24 => eCallR Tryz.prog C 70 [x24] 26 fun x25 => fun H => eLoadF Tryz.prog 113 x7 x12 H && (eStore Tryz.prog 113 x2 x12 <| eHas .any x25 (k8 (x25, ()))) H) H) H
noncomputable def kern_step_fresh_p2 (C : Cal) (k8 : SV × Unit → ER) (x1 : SV) (x2 : SV) (x6 : SV) (x7 : SV) : ER :=
  eFieldAddr Tryz.prog 113 x7 2 fun x11 => eLoad Tryz.prog 113 x7 fun x12 => eLoad Tryz.prog 3 x11 fun x13 => eBin Tryz.prog .neq 3 false x13 (.int .i64 0) fun x14 => eIfV x14
  (kern_step_fresh_p0 C k8 x1 x2 x6 x7 x12)
  (eFieldAddr Tryz.prog 113 x7 1 fun x19 => kern_step_fresh_p1 C k8 x1 x2 x6 x7 x12 x19)
noncomputable def kern_step_fresh_p3 (C : Cal) (k8 : SV × Unit → ER) (x1 : SV) (x2 : SV) (x6 : SV) (x7 : SV) : ER :=
  eLoad Tryz.prog 113 x7 fun x26 => eCallR Tryz.prog C 71 [(.bool false), (.int .i64 17)] 26 fun x27 => fun H => eLoadF Tryz.prog 113 x7 x26 H && (eCallR Tryz.prog C 168 [x6, (.fn 169 [] [x1, x7])] 26 fun x28 => fun H => eLoadF Tryz.prog 113 x7 x26 H && (eBuildSlice Tryz.prog 164 3 [(0, x6), (1, x27), (2, x28)] fun x29 => eCallR Tryz.prog C 70 [x29] 26 fun x30 => fun H => eLoadF Tryz.prog 113 x7 x26 H && (eStore Tryz.prog 113 x2 x26 <| eHas .any x30 (k8 (x30, ()))) H) H) H
noncomputable def kern_step_fresh_p4 (C : Cal) (K : SV → ER) (a1 : SV) (x1 : SV) : ER :=
  eAlloc Tryz.prog 113 fun x2 => eLoad Tryz.prog 70 x1 fun x3 => eCallR Tryz.prog C 69 [x3, a1, (.bool false)] 114 fun x4 => eExtract x4 0 fun x5 => eExtract x4 1 fun x6 => eAlloc Tryz.prog 113 fun x7 => eStore Tryz.prog 113 x7 x5 <| eJoinC (σ := SV × Unit) (fun (k8 : SV × Unit → ER) =>
  eBin Tryz.prog .eql 26 false x6 (.int .i64 0) fun x10 => eIfV x10
  (kern_step_fresh_p2 C k8 x1 x2 x6 x7)
  (kern_step_fresh_p3 C k8 x1 x2 x6 x7)) fun (s9 : SV × Unit) =>
  eLoad Tryz.prog 113 x2 fun x31 => K (.tup [x31, s9.1])
noncomputable def kern_step_fresh_e (C : Cal) (N : Nat) (a0 a1 : SV) (K : SV → ER) : ER :=
  eBox Tryz.prog 70 a0 fun x1 => kern_step_fresh_p4 C K a1 x1
theorem kern_step_fresh_ee (C : Cal) (N : Nat) (a0 a1 : SV) (K : SV → ER) : eBody Tryz.prog C N Tryz.f94 (Tryz.f94.body.getD .skip) kern_step_fresh_ea [a0, a1] K = kern_step_fresh_e C N a0 a1 K := by kernel_rfl
noncomputable def l94 : LeafT := fun C N args K => match args with
  | [a0, a1] => kern_step_fresh_e C N a0 a1 K
  | _ => eF
theorem lok94 : LeafOk Tryz.prog 94 l94 := ⟨Tryz.f94, Tryz.f94.body.getD .skip, kern_step_fresh_ea, Tryz.func94, by kernel_rfl, Tryz.call94, fun C N args K H e => by
  unfold l94 at e
  split at e
  · rw [kern_step_fresh_ee]; exact e
  · exact eF_no e⟩

/- (*halberd/kern.step).mkdir$1 -/
def kern_step_mkdir_1_ea : Ann := .ord [0, 1, 2, 3, 4, 5, 6, 7]
noncomputable def kern_step_mkdir_1_e (C : Cal) (N : Nat) (a0 a1 : SV) (K : SV → ER) : ER :=
  eLoad Tryz.prog 70 a0 fun x1 => eLoad Tryz.prog 113 a1 fun x2 => eLoad Tryz.prog 70 a0 fun x3 => eNilCk x3 fun x4 => eFieldAddr Tryz.prog 76 x4 0 fun x5 => eFieldAddr Tryz.prog 31 x5 2 fun x6 => eLoad Tryz.prog 3 x6 fun x7 => eCallR Tryz.prog C 84 [x1, x2, (.int .i64 2), x7, (.str [])] 3 fun x8 => K (.tup [])
theorem kern_step_mkdir_1_ee (C : Cal) (N : Nat) (a0 a1 : SV) (K : SV → ER) : eBody Tryz.prog C N Tryz.f95 (Tryz.f95.body.getD .skip) kern_step_mkdir_1_ea [a0, a1] K = kern_step_mkdir_1_e C N a0 a1 K := by kernel_rfl
noncomputable def l95 : LeafT := fun C N args K => match args with
  | [a0, a1] => kern_step_mkdir_1_e C N a0 a1 K
  | _ => eF
theorem lok95 : LeafOk Tryz.prog 95 l95 := ⟨Tryz.f95, Tryz.f95.body.getD .skip, kern_step_mkdir_1_ea, Tryz.func95, by kernel_rfl, Tryz.call95, fun C N args K H e => by
  unfold l95 at e
  split at e
  · rw [kern_step_mkdir_1_ee]; exact e
  · exact eF_no e⟩

/- (*halberd/kern.step).there -/
def kern_step_there_ea : Ann := .two (.none) (.two (.none) (.two (.two (.none) (.two (.two (.none) (.none)) (.none))) (.two (.ord [0, 1, 2, 7, 3, 4, 5, 6, 8, 9, 10, 11, 12, 13, 14, 15]) (.two (.two (.none) (.two (.two (.ord [0, 1, 2, 3, 4]) (.none)) (.none))) (.two (.ord [0, 1, 2, 3, 4]) (.none))))))
noncomputable def kern_step_there_p0 (K : SV → ER) (x1 : SV) (x2 : SV) (x5 : SV) (x6 : SV) : ER :=
  eLoad Tryz.prog 113 x6 fun x8 => eBuild Tryz.prog 40 [] fun x9 => eStore Tryz.prog 113 x1 x8 <| eStore Tryz.prog 40 x2 x9 <| eLoad Tryz.prog 113 x1 fun x10 => eLoad Tryz.prog 40 x2 fun x11 => K (.tup [x10, x11, x5])
noncomputable def kern_step_there_p1 (K : SV → ER) (x1 : SV) (x2 : SV) (x6 : SV) (x23 : SV) : ER :=
  eLoad Tryz.prog 113 x6 fun x25 => eLoad Tryz.prog 40 x23 fun x26 => eStore Tryz.prog 113 x1 x25 <| fun H => eLoadF Tryz.prog 40 x23 x26 H && (eStore Tryz.prog 40 x2 x26 <| eLoad Tryz.prog 113 x1 fun x27 => eLoad Tryz.prog 40 x2 fun x28 => K (.tup [x27, x28, (.int .i64 2)])) H
noncomputable def kern_step_there_p2 (K : SV → ER) (x1 : SV) (x2 : SV) (x6 : SV) (x23 : SV) : ER :=
  eLoad Tryz.prog 113 x6 fun x29 => eLoad Tryz.prog 40 x23 fun x30 => eStore Tryz.prog 113 x1 x29 <| fun H => eLoadF Tryz.prog 40 x23 x30 H && (eStore Tryz.prog 40 x2 x30 <| eLoad Tryz.prog 113 x1 fun x31 => eLoad Tryz.prog 40 x2 fun x32 => K (.tup [x31, x32, (.int .i64 0)])) H
noncomputable def kern_step_there_p3 (C : Cal) (K : SV → ER) (x1 : SV) (x2 : SV) (x6 : SV) (x12 : SV) : ER :=
  eFieldAddr Tryz.prog 76 x12 1 fun x13 => eFieldAddr Tryz.prog 113 x6 2 fun x14 => eLoad Tryz.prog 23 x13 fun x15 => eNilCk x15 fun x16 => eFieldAddr Tryz.prog 58 x16 0 fun x17 => eLoad Tryz.prog 53 x17 fun x18 => eLoad Tryz.prog 3 x14 fun x19 => eCallR Tryz.prog C 18 [x18, x19] 77 fun x20 => eExtract x20 0 fun x21 => eExtract x20 1 fun x22 => eAlloc Tryz.prog 40 fun x23 => eStore Tryz.prog 40 x23 x21 <| eUnS .not x22 fun x24 => eIfV x24
  (kern_step_there_p1 K x1 x2 x6 x23)
  (kern_step_there_p2 K x1 x2 x6 x23)
noncomputable def kern_step_there_e (C : Cal) (N : Nat) (a0 a1 a2 : SV) (K : SV → ER) : ER :=
  eAlloc Tryz.prog 113 fun x1 => eAlloc Tryz.prog 40 fun x2 => eCallR Tryz.prog C 69 [a0, a1, a2] 114 fun x3 => eExtract x3 0 fun x4 => eExtract x3 1 fun x5 => eAlloc Tryz.prog 113 fun x6 => eStore Tryz.prog 113 x6 x4 <| eBin Tryz.prog .neq 26 false x5 (.int .i64 0) fun x7 => eIfV x7
  (kern_step_there_p0 K x1 x2 x5 x6)
  (eNilCk a0 fun x12 => kern_step_there_p3 C K x1 x2 x6 x12)
theorem kern_step_there_ee (C : Cal) (N : Nat) (a0 a1 a2 : SV) (K : SV → ER) : eBody Tryz.prog C N Tryz.f96 (Tryz.f96.body.getD .skip) kern_step_there_ea [a0, a1, a2] K = kern_step_there_e C N a0 a1 a2 K := by kernel_rfl
noncomputable def l96 : LeafT := fun C N args K => match args with
  | [a0, a1, a2] => kern_step_there_e C N a0 a1 a2 K
  | _ => eF
theorem lok96 : LeafOk Tryz.prog 96 l96 := ⟨Tryz.f96, Tryz.f96.body.getD .skip, kern_step_there_ea, Tryz.func96, by kernel_rfl, Tryz.call96, fun C N args K H e => by
  unfold l96 at e
  split at e
  · rw [kern_step_there_ee]; exact e
  · exact eF_no e⟩

/- (*halberd/kern.step).busy -/
def kern_step_busy_ea : Ann := .two (.none) (.two (.two (.none) (.sub (.loop [(16, .any)] (.two (.none) (.two (.two (.none) (.none)) (.two (.sub (.two (.none) (.join (.none) (.two (.two (.none) (.none)) (.none)) [(28, .any)]))) (.none))))))) (.two (.none) (.none)))
noncomputable def kern_step_busy_p0 (a1 : SV) (k15 : SV × Unit → ER) (x14 : SV) : ER :=
  eFieldAddr Tryz.prog 50 x14 8 fun x17 => eLoad Tryz.prog 4 x17 fun x18 => eUnS .not x18 fun x19 => eIfV x19
  (eFieldAddr Tryz.prog 50 x14 5 fun x20 => eLoad Tryz.prog 3 x20 fun x21 => eBin Tryz.prog .eql 3 false x21 a1 fun x22 => eHas .any x22 (k15 (x22, ())))
  (eHas .any (.bool false) (k15 ((.bool false), ())))
noncomputable def kern_step_busy_p1 (K : SV → ER) (a1 : SV) (k9 : SV × Unit → ER) (x7 : SV) (s10 : SV × Unit) : ER :=
  eIndexAddrS Tryz.prog 34 x7 s10.1 fun x12 => eLoad Tryz.prog 50 x12 fun x13 => eAlloc Tryz.prog 50 fun x14 => eStore Tryz.prog 50 x14 x13 <| eJoinC (σ := SV × Unit) (fun (k15 : SV × Unit → ER) =>
  kern_step_busy_p0 a1 k15 x14) fun (s16 : SV × Unit) =>
  eIfV s16.1
  (K (.bool true))
  (eBin Tryz.prog .add 3 false s10.1 (.int .i64 1) fun x23 => eHas .any x23 (k9 (x23, ())))
noncomputable def kern_step_busy_e (C : Cal) (N : Nat) (a0 a1 : SV) (K : SV → ER) : ER :=
  eNilCk a0 fun x1 => eFieldAddr Tryz.prog 76 x1 1 fun x2 => eLoad Tryz.prog 23 x2 fun x3 => eNilCk x3 fun x4 => eFieldAddr Tryz.prog 58 x4 1 fun x5 => eLoad Tryz.prog 55 x5 fun x6 => eCallR Tryz.prog C 14 [x6] 34 fun x7 => eLenS Tryz.prog [34] [x7] fun x8 => eHas .any (.int .i64 0) (eIter (σ := SV × Unit) (fun (s10 : SV × Unit) (k9 : SV × Unit → ER) =>
  eBin Tryz.prog .lss 3 false s10.1 x8 fun x11 => eIfV x11
  (kern_step_busy_p1 K a1 k9 x7 s10)
  (K (.bool false))) N ((.int .i64 0), ()))
theorem kern_step_busy_ee (C : Cal) (N : Nat) (a0 a1 : SV) (K : SV → ER) : eBody Tryz.prog C N Tryz.f97 (Tryz.f97.body.getD .skip) kern_step_busy_ea [a0, a1] K = kern_step_busy_e C N a0 a1 K := by kernel_rfl
noncomputable def l97 : LeafT := fun C N args K => match args with
  | [a0, a1] => kern_step_busy_e C N a0 a1 K
  | _ => eF
theorem lok97 : LeafOk Tryz.prog 97 l97 := ⟨Tryz.f97, Tryz.f97.body.getD .skip, kern_step_busy_ea, Tryz.func97, by kernel_rfl, Tryz.call97, fun C N args K H e => by
  unfold l97 at e
  split at e
  · rw [kern_step_busy_ee]; exact e
  · exact eF_no e⟩

end Go.Proofs.YtnpcjhcgbcpcoaaGreatDoor

set_option linter.unusedVariables false
set_option maxRecDepth 100000
namespace Go.Proofs.YtnpcjhcgbcpcoaaGreatDoor
open Go.Hl
/- (*halberd/inodes.Table).Leave -/
def inodes_Table_Leave_ea : Ann := .two (.none) (.two (.none) (.two (.sub (.two (.none) (.two (.two (.none) (.none)) (.two (.none) (.two (.two (.none) (.none)) (.none)))))) (.two (.none) (.two (.two (.none) (.two (.two (.none) (.none)) (.none))) (.two (.none) (.two (.ord [0, 1, 2, 3, 4, 6, 7, 8, 10, 11, 12, 14, 15, 16, 5, 13, 9, 17, 18, 19, 20, 21, 22, 23]) (.join (.two (.none) (.two (.none) (.two (.none) (.none)))) (.two (.none) (.none)) [])))))))
noncomputable def inodes_Table_Leave_p0 (k33 : Unit → ER) (x35 : SV) : ER :=
  eNilCk x35 fun x37 => eFieldAddr Tryz.prog 40 x37 6 fun x38 => eLoad Tryz.prog 3 x38 fun x39 => eBin Tryz.prog .sub 3 false x39 (.int .i64 1) fun x40 => eNilCk x35 fun x41 => eFieldAddr Tryz.prog 40 x41 6 fun x42 => eStore Tryz.prog 3 x42 x40 <| k33 (())
noncomputable def inodes_Table_Leave_p1 (C : Cal) (K : SV → ER) (a0 : SV) (x1 : SV) (x11 : SV) (x18 : SV) (x23 : SV) (x24 : SV) (x26 : SV) (x27 : SV) : ER :=
  fun H => eLoadF Tryz.prog 38 x23 x26 H && (eCallR Tryz.prog C 172 [x26, x11, x24] 38 fun x28 => eNilCk x1 fun x29 => eFieldAddr Tryz.prog 40 x29 8 fun x30 => eStore Tryz.prog 25 x30 x27 <| eNilCk x1 fun x31 => eFieldAddr Tryz.prog 40 x31 9 fun x32 => eStore Tryz.prog 38 x32 x28 <| eJoinC (σ := Unit) (fun (k33 : Unit → ER) =>
  eCallR Tryz.prog C 25 [a0, x18] 91 fun x35 => eBin Tryz.prog .neq 91 true x35 (.ptr none) fun x36 => eIfV x36
  (inodes_Table_Leave_p0 k33 x35)
  (k33 (()))) fun (s34 : Unit) =>
  K (.tup [x18, (.int .i64 0)])) H
noncomputable def inodes_Table_Leave_p2 (C : Cal) (K : SV → ER) (a0 : SV) (x1 : SV) (x11 : SV) (x15 : SV) : ER :=
  eLoad Tryz.prog 38 x15 fun x16 => eIndexAddrS Tryz.prog 38 x16 x11 fun x17 => eLoad Tryz.prog 3 x17 fun x18 => eNilCk x1 fun x19 => eFieldAddr Tryz.prog 40 x19 8 fun x20 => eBin Tryz.prog .add 3 false x11 (.int .i64 1) fun x21 => eNilCk x1 fun x22 => eFieldAddr Tryz.prog 40 x22 9 fun x23 => eBin Tryz.prog .add 3 false x11 (.int .i64 1) fun x24 => eLoad Tryz.prog 25 x20 fun x25 => eLoad Tryz.prog 38 x23 fun x26 => eCallR Tryz.prog C 171 [x25, x11, x21] 25 fun x27 => inodes_Table_Leave_p1 C K a0 x1 x11 x18 x23 x24 x26 x27
noncomputable def inodes_Table_Leave_p3 (C : Cal) (K : SV → ER) (a0 : SV) (a2 : SV) (x1 : SV) : ER :=
  eNilCk x1 fun x7 => eFieldAddr Tryz.prog 40 x7 8 fun x8 => eLoad Tryz.prog 25 x8 fun x9 => eCallR Tryz.prog C 170 [x9, a2] 109 fun x10 => eExtract x10 0 fun x11 => eExtract x10 1 fun x12 => eUnS .not x12 fun x13 => eIfV x13
  (K (.tup [(.int .i64 0), (.int .i64 2)]))
  (eNilCk x1 fun x14 => eFieldAddr Tryz.prog 40 x14 9 fun x15 => inodes_Table_Leave_p2 C K a0 x1 x11 x15)
noncomputable def inodes_Table_Leave_p4 (C : Cal) (K : SV → ER) (a0 : SV) (a2 : SV) (x1 : SV) : ER :=
  eNilCk x1 fun x3 => eFieldAddr Tryz.prog 40 x3 2 fun x4 => eLoad Tryz.prog 3 x4 fun x5 => eBin Tryz.prog .neq 3 false x5 (.int .i64 2) fun x6 => eIfV x6
  (K (.tup [(.int .i64 0), (.int .i64 20)]))
  (inodes_Table_Leave_p3 C K a0 a2 x1)
noncomputable def inodes_Table_Leave_e (C : Cal) (N : Nat) (a0 a1 a2 : SV) (K : SV → ER) : ER :=
  eCallR Tryz.prog C 25 [a0, a1] 91 fun x1 => eBin Tryz.prog .eql 91 true x1 (.ptr none) fun x2 => eIfV x2
  (K (.tup [(.int .i64 0), (.int .i64 2)]))
  (inodes_Table_Leave_p4 C K a0 a2 x1)
theorem inodes_Table_Leave_ee (C : Cal) (N : Nat) (a0 a1 a2 : SV) (K : SV → ER) : eBody Tryz.prog C N Tryz.f99 (Tryz.f99.body.getD .skip) inodes_Table_Leave_ea [a0, a1, a2] K = inodes_Table_Leave_e C N a0 a1 a2 K := by kernel_rfl
noncomputable def l99 : LeafT := fun C N args K => match args with
  | [a0, a1, a2] => inodes_Table_Leave_e C N a0 a1 a2 K
  | _ => eF
theorem lok99 : LeafOk Tryz.prog 99 l99 := ⟨Tryz.f99, Tryz.f99.body.getD .skip, inodes_Table_Leave_ea, Tryz.func99, by kernel_rfl, Tryz.call99, fun C N args K H e => by
  unfold l99 at e
  split at e
  · rw [inodes_Table_Leave_ee]; exact e
  · exact eF_no e⟩

/- (*halberd/inodes.Table).Enter -/
def inodes_Table_Enter_ea : Ann := .two (.none) (.two (.none) (.two (.sub (.two (.none) (.two (.two (.none) (.none)) (.join (.none) (.two (.two (.none) (.none)) (.two (.none) (.two (.two (.none) (.none)) (.none)))) [(23, .any)])))) (.two (.none) (.two (.sub (.two (.none) (.two (.two (.none) (.none)) (.two (.none) (.two (.two (.none) (.none)) (.two (.none) (.two (.two (.none) (.none)) (.none)))))))) (.two (.ord [0, 1, 2, 3, 4, 6, 7, 10, 11, 12, 14, 15, 5, 13, 8, 9, 16, 17, 18, 19, 20, 21, 22, 23]) (.two (.none) (.join (.two (.none) (.two (.none) (.none))) (.two (.none) (.none)) [])))))))
noncomputable def inodes_Table_Enter_p0 (a1 : SV) (x2 : SV) (k49 : Unit → ER) : ER :=
  eNilCk x2 fun x51 => eFieldAddr Tryz.prog 40 x51 2 fun x52 => eLoad Tryz.prog 3 x52 fun x53 => eBin Tryz.prog .eql 3 false x53 (.int .i64 2) fun x54 => eIfV x54
  (eNilCk x2 fun x55 => eFieldAddr Tryz.prog 40 x55 10 fun x56 => eStore Tryz.prog 3 x56 a1 <| k49 (()))
  (k49 (()))
noncomputable def inodes_Table_Enter_p1 (K : SV → ER) (a1 : SV) (x1 : SV) (x2 : SV) (x36 : SV) (x38 : SV) (x39 : SV) : ER :=
  eFieldAddr Tryz.prog 40 x39 8 fun x40 => eStore Tryz.prog 25 x40 x36 <| eNilCk x1 fun x41 => eFieldAddr Tryz.prog 40 x41 9 fun x42 => eStore Tryz.prog 38 x42 x38 <| eNilCk x2 fun x43 => eFieldAddr Tryz.prog 40 x43 6 fun x44 => eLoad Tryz.prog 3 x44 fun x45 => eBin Tryz.prog .add 3 false x45 (.int .i64 1) fun x46 => eNilCk x2 fun x47 => eFieldAddr Tryz.prog 40 x47 6 fun x48 => eStore Tryz.prog 3 x48 x46 <| eJoinC (σ := Unit) (fun (k49 : Unit → ER) =>
  inodes_Table_Enter_p0 a1 x2 k49) fun (s50 : Unit) =>
  K (.int .i64 0)
noncomputable def inodes_Table_Enter_p2 (C : Cal) (K : SV → ER) (a1 : SV) (a2 : SV) (a3 : SV) (x1 : SV) (x2 : SV) (x17 : SV) (x29 : SV) (x30 : SV) : ER :=
  eFieldAddr Tryz.prog 40 x30 9 fun x31 => eLoad Tryz.prog 25 x29 fun x32 => eLoad Tryz.prog 38 x31 fun x33 => eBuildSlice Tryz.prog 25 1 [(0, a2)] fun x34 => fun H => (eBuildSlice Tryz.prog 38 1 [(0, a3)] fun x35 => (fun _ => true)) H && (eCallR Tryz.prog C 174 [x32, x17, x34] 25 fun x36 => fun H => eLoadF Tryz.prog 38 x31 x33 H && (eBuildSlice Tryz.prog 38 1 [(0, a3)] fun x37 => eCallR Tryz.prog C 175 [x33, x17, x37] 38 fun x38 => eNilCk x1 fun x39 => inodes_Table_Enter_p1 K a1 x1 x2 x36 x38 x39) H) H
noncomputable def inodes_Table_Enter_p3 (C : Cal) (K : SV → ER) (a1 : SV) (a2 : SV) (a3 : SV) (x1 : SV) (x2 : SV) (x17 : SV) : ER :=
  eNilCk x2 fun x24 => eFieldAddr Tryz.prog 40 x24 6 fun x25 => eLoad Tryz.prog 3 x25 fun x26 => eBin Tryz.prog .geq 3 false x26 (.int .i64 8) fun x27 => eIfV x27
  (K (.int .i64 31))
  (eNilCk x1 fun x28 => eFieldAddr Tryz.prog 40 x28 8 fun x29 => eNilCk x1 fun x30 => inodes_Table_Enter_p2 C K a1 a2 a3 x1 x2 x17 x29 x30)
noncomputable def inodes_Table_Enter_p4 (C : Cal) (K : SV → ER) (a1 : SV) (a2 : SV) (a3 : SV) (x1 : SV) (x2 : SV) (x17 : SV) : ER :=
  eNilCk x1 fun x19 => eFieldAddr Tryz.prog 40 x19 8 fun x20 => eLoad Tryz.prog 25 x20 fun x21 => eLenS Tryz.prog [25] [x21] fun x22 => eBin Tryz.prog .geq 3 false x22 (.int .i64 8) fun x23 => eIfV x23
  (K (.int .i64 28))
  (inodes_Table_Enter_p3 C K a1 a2 a3 x1 x2 x17)
noncomputable def inodes_Table_Enter_p5 (C : Cal) (K : SV → ER) (a1 : SV) (a2 : SV) (a3 : SV) (x1 : SV) (x2 : SV) : ER :=
  eNilCk x1 fun x13 => eFieldAddr Tryz.prog 40 x13 8 fun x14 => eLoad Tryz.prog 25 x14 fun x15 => eCallR Tryz.prog C 170 [x15, a2] 109 fun x16 => eExtract x16 0 fun x17 => eExtract x16 1 fun x18 => eIfV x18
  (K (.int .i64 17))
  (inodes_Table_Enter_p4 C K a1 a2 a3 x1 x2 x17)
noncomputable def inodes_Table_Enter_p6 (C : Cal) (K : SV → ER) (a1 : SV) (a2 : SV) (a3 : SV) (x1 : SV) (x2 : SV) : ER :=
  eNilCk x1 fun x9 => eFieldAddr Tryz.prog 40 x9 2 fun x10 => eLoad Tryz.prog 3 x10 fun x11 => eBin Tryz.prog .neq 3 false x11 (.int .i64 2) fun x12 => eIfV x12
  (K (.int .i64 20))
  (inodes_Table_Enter_p5 C K a1 a2 a3 x1 x2)
noncomputable def inodes_Table_Enter_p7 (C : Cal) (K : SV → ER) (a1 : SV) (a2 : SV) (a3 : SV) (x1 : SV) (x2 : SV) : ER :=
  eJoinC (σ := SV × Unit) (fun (k5 : SV × Unit → ER) =>
  eBin Tryz.prog .eql 91 true x1 (.ptr none) fun x7 => eIfV x7
  (eHas .any (.bool true) (k5 ((.bool true), ())))
  (eBin Tryz.prog .eql 91 true x2 (.ptr none) fun x8 => eHas .any x8 (k5 (x8, ())))) fun (s6 : SV × Unit) =>
  eIfV s6.1
  (K (.int .i64 2))
  (inodes_Table_Enter_p6 C K a1 a2 a3 x1 x2)
noncomputable def inodes_Table_Enter_e (C : Cal) (N : Nat) (a0 a1 a2 a3 : SV) (K : SV → ER) : ER :=
  eCallR Tryz.prog C 25 [a0, a1] 91 fun x1 => eCallR Tryz.prog C 25 [a0, a3] 91 fun x2 => eCallR Tryz.prog C 173 [a2] 4 fun x3 => eUnS .not x3 fun x4 => eIfV x4
  (K (.int .i64 22))
  (inodes_Table_Enter_p7 C K a1 a2 a3 x1 x2)
theorem inodes_Table_Enter_ee (C : Cal) (N : Nat) (a0 a1 a2 a3 : SV) (K : SV → ER) : eBody Tryz.prog C N Tryz.f101 (Tryz.f101.body.getD .skip) inodes_Table_Enter_ea [a0, a1, a2, a3] K = inodes_Table_Enter_e C N a0 a1 a2 a3 K := by kernel_rfl
noncomputable def l101 : LeafT := fun C N args K => match args with
  | [a0, a1, a2, a3] => inodes_Table_Enter_e C N a0 a1 a2 a3 K
  | _ => eF
theorem lok101 : LeafOk Tryz.prog 101 l101 := ⟨Tryz.f101, Tryz.f101.body.getD .skip, inodes_Table_Enter_ea, Tryz.func101, by kernel_rfl, Tryz.call101, fun C N args K H e => by
  unfold l101 at e
  split at e
  · rw [inodes_Table_Enter_ee]; exact e
  · exact eF_no e⟩

/- strings.Contains -/
def strings_Contains_ea : Ann := .two (.none) (.two (.none) (.none))
noncomputable def strings_Contains_e (C : Cal) (N : Nat) (a0 a1 : SV) (K : SV → ER) : ER :=
  eCallR Tryz.prog C 176 [a0, a1] 3 fun x1 => eBin Tryz.prog .geq 3 false x1 (.int .i64 0) fun x2 => K x2
theorem strings_Contains_ee (C : Cal) (N : Nat) (a0 a1 : SV) (K : SV → ER) : eBody Tryz.prog C N Tryz.f102 (Tryz.f102.body.getD .skip) strings_Contains_ea [a0, a1] K = strings_Contains_e C N a0 a1 K := by kernel_rfl
noncomputable def l102 : LeafT := fun C N args K => match args with
  | [a0, a1] => strings_Contains_e C N a0 a1 K
  | _ => eF
theorem lok102 : LeafOk Tryz.prog 102 l102 := ⟨Tryz.f102, Tryz.f102.body.getD .skip, strings_Contains_ea, Tryz.func102, by kernel_rfl, Tryz.call102, fun C N args K H e => by
  unfold l102 at e
  split at e
  · rw [strings_Contains_ee]; exact e
  · exact eF_no e⟩

/- (*halberd/kern.step).rename$1 -/
def kern_step_rename_1_ea : Ann := .none
noncomputable def kern_step_rename_1_e (C : Cal) (N : Nat) (K : SV → ER) : ER :=
  K (.tup [])
theorem kern_step_rename_1_ee (C : Cal) (N : Nat) (K : SV → ER) : eBody Tryz.prog C N Tryz.f105 (Tryz.f105.body.getD .skip) kern_step_rename_1_ea [] K = kern_step_rename_1_e C N  K := by kernel_rfl
noncomputable def l105 : LeafT := fun C N args K => match args with
  | [] => kern_step_rename_1_e C N  K
  | _ => eF
theorem lok105 : LeafOk Tryz.prog 105 l105 := ⟨Tryz.f105, Tryz.f105.body.getD .skip, kern_step_rename_1_ea, Tryz.func105, by kernel_rfl, Tryz.call105, fun C N args K H e => by
  unfold l105 at e
  split at e
  · rw [kern_step_rename_1_ee]; exact e
  · exact eF_no e⟩

/- (*halberd/kern.step).below -/
def kern_step_below_ea : Ann := .two (.none) (.two (.sub (.loop [(1, .any)] (.two (.join (.none) (.two (.none) (.none)) [(15, .any)]) (.sub (.two (.none) (.none)))))) (.two (.none) (.none)))
noncomputable def kern_step_below_p0 (C : Cal) (a0 : SV) (k1 : SV × Unit → ER) (s2 : SV × Unit) : ER :=
  eNilCk a0 fun x7 => eFieldAddr Tryz.prog 76 x7 1 fun x8 => eLoad Tryz.prog 23 x8 fun x9 => eNilCk x9 fun x10 => eFieldAddr Tryz.prog 58 x10 0 fun x11 => eLoad Tryz.prog 53 x11 fun x12 => eCallR Tryz.prog C 18 [x12, s2.1] 77 fun x13 => eExtract x13 0 fun x14 => eExtract x13 1 fun x15 => eAlloc Tryz.prog 40 fun x16 => eStore Tryz.prog 40 x16 x14 <| eFieldAddr Tryz.prog 40 x16 10 fun x17 => eLoad Tryz.prog 3 x17 fun x18 => eHas .any x18 (k1 (x18, ()))
noncomputable def kern_step_below_p1 (C : Cal) (K : SV → ER) (a0 : SV) (a2 : SV) (k1 : SV × Unit → ER) (s2 : SV × Unit) : ER :=
  eJoinC (σ := SV × Unit) (fun (k3 : SV × Unit → ER) =>
  eBin Tryz.prog .neq 3 false s2.1 a2 fun x5 => eIfV x5
  (eBin Tryz.prog .neq 3 false s2.1 (.int .i64 1) fun x6 => eHas .any x6 (k3 (x6, ())))
  (eHas .any (.bool false) (k3 ((.bool false), ())))) fun (s4 : SV × Unit) =>
  eIfV s4.1
  (kern_step_below_p0 C a0 k1 s2)
  (eBin Tryz.prog .eql 3 false s2.1 a2 fun x19 => K x19)
noncomputable def kern_step_below_e (C : Cal) (N : Nat) (a0 a1 a2 : SV) (K : SV → ER) : ER :=
  eHas .any a1 (eIter (σ := SV × Unit) (fun (s2 : SV × Unit) (k1 : SV × Unit → ER) =>
  kern_step_below_p1 C K a0 a2 k1 s2) N (a1, ()))
theorem kern_step_below_ee (C : Cal) (N : Nat) (a0 a1 a2 : SV) (K : SV → ER) : eBody Tryz.prog C N Tryz.f106 (Tryz.f106.body.getD .skip) kern_step_below_ea [a0, a1, a2] K = kern_step_below_e C N a0 a1 a2 K := by kernel_rfl
noncomputable def l106 : LeafT := fun C N args K => match args with
  | [a0, a1, a2] => kern_step_below_e C N a0 a1 a2 K
  | _ => eF
theorem lok106 : LeafOk Tryz.prog 106 l106 := ⟨Tryz.f106, Tryz.f106.body.getD .skip, kern_step_below_ea, Tryz.func106, by kernel_rfl, Tryz.call106, fun C N args K H e => by
  unfold l106 at e
  split at e
  · rw [kern_step_below_ee]; exact e
  · exact eF_no e⟩

/- (*halberd/kern.step).replaced -/
def kern_step_replaced_ea : Ann := .two (.none) (.two (.none) (.join (.ord [0, 8, 15, 20, 1, 2, 3, 4, 5, 6, 9, 10, 16, 17, 18, 7, 11, 12, 13, 14, 19, 21, 22, 23, 24, 25, 26, 27, 28, 29, 30]) (.none) [(6, .any)]))
noncomputable def kern_step_replaced_p0 (C : Cal) (a0 : SV) (k6 : SV × Unit → ER) (x2 : SV) (x19 : SV) (x20 : SV) (x21 : SV) : ER :=
  eFieldAddr Tryz.prog 40 x2 0 fun x22 => eLoad Tryz.prog 3 x22 fun x23 => eCallR Tryz.prog C 97 [a0, x23] 4 fun x24 => eCallR Tryz.prog C 71 [x24, (.int .i64 16)] 26 fun x25 => eBuildSlice Tryz.prog 164 4 [(0, x19), (1, x20), (2, x21), (3, x25)] fun x26 => eCallR Tryz.prog C 70 [x26] 26 fun x27 => eHas .any x27 (k6 (x27, ()))
noncomputable def kern_step_replaced_p1 (C : Cal) (k6 : SV × Unit → ER) (x19 : SV) (x20 : SV) (x21 : SV) : ER :=
  eCallR Tryz.prog C 71 [(.bool false), (.int .i64 16)] 26 fun x28 => eBuildSlice Tryz.prog 164 4 [(0, x19), (1, x20), (2, x21), (3, x28)] fun x29 => eCallR Tryz.prog C 70 [x29] 26 fun x30 => eHas .any x30 (k6 (x30, ()))
noncomputable def kern_step_replaced_p2 (C : Cal) (a0 : SV) (k6 : SV × Unit → ER) (x2 : SV) (x5 : SV) (x10 : SV) (x16 : SV) (x18 : SV) (x19 : SV) : ER :=
  eCallR Tryz.prog C 71 [x5, (.int .i64 21)] 26 fun x20 => fun H => eLoadF Tryz.prog 25 x10 x16 H && (eCallR Tryz.prog C 71 [x18, (.int .i64 39)] 26 fun x21 => eIfV x5
  (kern_step_replaced_p0 C a0 k6 x2 x19 x20 x21)
  (kern_step_replaced_p1 C k6 x19 x20 x21)) H
noncomputable def kern_step_replaced_p3 (C : Cal) (a0 : SV) (k6 : SV × Unit → ER) (x2 : SV) (x19 : SV) (x31 : SV) (x32 : SV) : ER :=
  eFieldAddr Tryz.prog 40 x2 0 fun x33 => eLoad Tryz.prog 3 x33 fun x34 => eCallR Tryz.prog C 97 [a0, x34] 4 fun x35 => eCallR Tryz.prog C 71 [x35, (.int .i64 16)] 26 fun x36 => eBuildSlice Tryz.prog 164 4 [(0, x19), (1, x31), (2, x32), (3, x36)] fun x37 => eCallR Tryz.prog C 70 [x37] 26 fun x38 => eHas .any x38 (k6 (x38, ()))
noncomputable def kern_step_replaced_p4 (C : Cal) (k6 : SV × Unit → ER) (x19 : SV) (x31 : SV) (x32 : SV) : ER :=
  eCallR Tryz.prog C 71 [(.bool false), (.int .i64 16)] 26 fun x39 => eBuildSlice Tryz.prog 164 4 [(0, x19), (1, x31), (2, x32), (3, x39)] fun x40 => eCallR Tryz.prog C 70 [x40] 26 fun x41 => eHas .any x41 (k6 (x41, ()))
noncomputable def kern_step_replaced_p5 (C : Cal) (a0 : SV) (k6 : SV × Unit → ER) (x2 : SV) (x5 : SV) (x10 : SV) (x16 : SV) (x18 : SV) (x19 : SV) : ER :=
  eCallR Tryz.prog C 71 [(.bool false), (.int .i64 21)] 26 fun x31 => fun H => eLoadF Tryz.prog 25 x10 x16 H && (eCallR Tryz.prog C 71 [x18, (.int .i64 39)] 26 fun x32 => eIfV x5
  (kern_step_replaced_p3 C a0 k6 x2 x19 x31 x32)
  (kern_step_replaced_p4 C k6 x19 x31 x32)) H
noncomputable def kern_step_replaced_p6 (C : Cal) (a0 : SV) (k6 : SV × Unit → ER) (x2 : SV) (x5 : SV) (x9 : SV) (x10 : SV) : ER :=
  eUnS .not x5 fun x13 => eLoad Tryz.prog 3 x9 fun x14 => eBin Tryz.prog .neq 3 false x14 (.int .i64 2) fun x15 => eLoad Tryz.prog 25 x10 fun x16 => eLenS Tryz.prog [25] [x16] fun x17 => eBin Tryz.prog .gtr 3 false x17 (.int .i64 0) fun x18 => eCallR Tryz.prog C 71 [x13, (.int .i64 20)] 26 fun x19 => fun H => eLoadF Tryz.prog 25 x10 x16 H && (fun H => eLoadF Tryz.prog 3 x9 x14 H && (eIfV x15
  (kern_step_replaced_p2 C a0 k6 x2 x5 x10 x16 x18 x19)
  (kern_step_replaced_p5 C a0 k6 x2 x5 x10 x16 x18 x19)) H) H
noncomputable def kern_step_replaced_p7 (C : Cal) (a0 : SV) (k6 : SV × Unit → ER) (x2 : SV) (x47 : SV) (x48 : SV) (x49 : SV) : ER :=
  eFieldAddr Tryz.prog 40 x2 0 fun x50 => eLoad Tryz.prog 3 x50 fun x51 => eCallR Tryz.prog C 97 [a0, x51] 4 fun x52 => eCallR Tryz.prog C 71 [x52, (.int .i64 16)] 26 fun x53 => eBuildSlice Tryz.prog 164 4 [(0, x47), (1, x48), (2, x49), (3, x53)] fun x54 => eCallR Tryz.prog C 70 [x54] 26 fun x55 => eHas .any x55 (k6 (x55, ()))
noncomputable def kern_step_replaced_p8 (C : Cal) (k6 : SV × Unit → ER) (x47 : SV) (x48 : SV) (x49 : SV) : ER :=
  eCallR Tryz.prog C 71 [(.bool false), (.int .i64 16)] 26 fun x56 => eBuildSlice Tryz.prog 164 4 [(0, x47), (1, x48), (2, x49), (3, x56)] fun x57 => eCallR Tryz.prog C 70 [x57] 26 fun x58 => eHas .any x58 (k6 (x58, ()))
noncomputable def kern_step_replaced_p9 (C : Cal) (a0 : SV) (k6 : SV × Unit → ER) (x2 : SV) (x5 : SV) (x10 : SV) (x44 : SV) (x46 : SV) (x47 : SV) : ER :=
  eCallR Tryz.prog C 71 [x5, (.int .i64 21)] 26 fun x48 => fun H => eLoadF Tryz.prog 25 x10 x44 H && (eCallR Tryz.prog C 71 [x46, (.int .i64 39)] 26 fun x49 => eIfV x5
  (kern_step_replaced_p7 C a0 k6 x2 x47 x48 x49)
  (kern_step_replaced_p8 C k6 x47 x48 x49)) H
noncomputable def kern_step_replaced_p10 (C : Cal) (a0 : SV) (k6 : SV × Unit → ER) (x2 : SV) (x47 : SV) (x59 : SV) (x60 : SV) : ER :=
  eFieldAddr Tryz.prog 40 x2 0 fun x61 => eLoad Tryz.prog 3 x61 fun x62 => eCallR Tryz.prog C 97 [a0, x62] 4 fun x63 => eCallR Tryz.prog C 71 [x63, (.int .i64 16)] 26 fun x64 => eBuildSlice Tryz.prog 164 4 [(0, x47), (1, x59), (2, x60), (3, x64)] fun x65 => eCallR Tryz.prog C 70 [x65] 26 fun x66 => eHas .any x66 (k6 (x66, ()))
noncomputable def kern_step_replaced_p11 (C : Cal) (k6 : SV × Unit → ER) (x47 : SV) (x59 : SV) (x60 : SV) : ER :=
  eCallR Tryz.prog C 71 [(.bool false), (.int .i64 16)] 26 fun x67 => eBuildSlice Tryz.prog 164 4 [(0, x47), (1, x59), (2, x60), (3, x67)] fun x68 => eCallR Tryz.prog C 70 [x68] 26 fun x69 => eHas .any x69 (k6 (x69, ()))
noncomputable def kern_step_replaced_p12 (C : Cal) (a0 : SV) (k6 : SV × Unit → ER) (x2 : SV) (x5 : SV) (x10 : SV) (x44 : SV) (x46 : SV) (x47 : SV) : ER :=
  eCallR Tryz.prog C 71 [(.bool false), (.int .i64 21)] 26 fun x59 => fun H => eLoadF Tryz.prog 25 x10 x44 H && (eCallR Tryz.prog C 71 [x46, (.int .i64 39)] 26 fun x60 => eIfV x5
  (kern_step_replaced_p10 C a0 k6 x2 x47 x59 x60)
  (kern_step_replaced_p11 C k6 x47 x59 x60)) H
noncomputable def kern_step_replaced_p13 (C : Cal) (a0 : SV) (k6 : SV × Unit → ER) (x2 : SV) (x5 : SV) (x9 : SV) (x10 : SV) : ER :=
  eLoad Tryz.prog 3 x9 fun x42 => eBin Tryz.prog .neq 3 false x42 (.int .i64 2) fun x43 => eLoad Tryz.prog 25 x10 fun x44 => eLenS Tryz.prog [25] [x44] fun x45 => eBin Tryz.prog .gtr 3 false x45 (.int .i64 0) fun x46 => eCallR Tryz.prog C 71 [(.bool false), (.int .i64 20)] 26 fun x47 => fun H => eLoadF Tryz.prog 25 x10 x44 H && (fun H => eLoadF Tryz.prog 3 x9 x42 H && (eIfV x43
  (kern_step_replaced_p9 C a0 k6 x2 x5 x10 x44 x46 x47)
  (kern_step_replaced_p12 C a0 k6 x2 x5 x10 x44 x46 x47)) H) H
noncomputable def kern_step_replaced_p14 (C : Cal) (a0 : SV) (k6 : SV × Unit → ER) (x1 : SV) (x2 : SV) (x5 : SV) : ER :=
  eFieldAddr Tryz.prog 40 x1 2 fun x8 => eFieldAddr Tryz.prog 40 x1 2 fun x9 => eFieldAddr Tryz.prog 40 x2 8 fun x10 => eLoad Tryz.prog 3 x8 fun x11 => eBin Tryz.prog .eql 3 false x11 (.int .i64 2) fun x12 => eIfV x12
  (kern_step_replaced_p6 C a0 k6 x2 x5 x9 x10)
  (kern_step_replaced_p13 C a0 k6 x2 x5 x9 x10)
noncomputable def kern_step_replaced_e (C : Cal) (N : Nat) (a0 a1 a2 : SV) (K : SV → ER) : ER :=
  eBox Tryz.prog 40 a1 fun x1 => eBox Tryz.prog 40 a2 fun x2 => eFieldAddr Tryz.prog 40 x2 2 fun x3 => eLoad Tryz.prog 3 x3 fun x4 => eBin Tryz.prog .eql 3 false x4 (.int .i64 2) fun x5 => eJoinC (σ := SV × Unit) (fun (k6 : SV × Unit → ER) =>
  kern_step_replaced_p14 C a0 k6 x1 x2 x5) fun (s7 : SV × Unit) =>
  K s7.1
theorem kern_step_replaced_ee (C : Cal) (N : Nat) (a0 a1 a2 : SV) (K : SV → ER) : eBody Tryz.prog C N Tryz.f107 (Tryz.f107.body.getD .skip) kern_step_replaced_ea [a0, a1, a2] K = kern_step_replaced_e C N a0 a1 a2 K := by kernel_rfl
noncomputable def l107 : LeafT := fun C N args K => match args with
  | [a0, a1, a2] => kern_step_replaced_e C N a0 a1 a2 K
  | _ => eF
theorem lok107 : LeafOk Tryz.prog 107 l107 := ⟨Tryz.f107, Tryz.f107.body.getD .skip, kern_step_replaced_ea, Tryz.func107, by kernel_rfl, Tryz.call107, fun C N args K H e => by
  unfold l107 at e
  split at e
  · rw [kern_step_replaced_ee]; exact e
  · exact eF_no e⟩

/- (*halberd/kern.step).rename$2 -/
def kern_step_rename_2_ea : Ann := .join (.two (.none) (.two (.ord [7, 9, 0, 1, 2, 3, 4, 5, 6, 8, 10, 11]) (.none))) (.two (.ord [7, 9, 0, 1, 2, 3, 4, 5, 6, 8, 10, 11]) (.ord [7, 9, 11, 0, 1, 2, 3, 4, 5, 6, 8, 10, 12, 13])) []
noncomputable def kern_step_rename_2_p0 (C : Cal) (a1 : SV) (a2 : SV) (k1 : Unit → ER) : ER :=
  eFieldAddr Tryz.prog 113 a2 0 fun x4 => eFieldAddr Tryz.prog 113 a2 1 fun x5 => eLoad Tryz.prog 70 a1 fun x6 => eNilCk x6 fun x7 => eFieldAddr Tryz.prog 76 x7 1 fun x8 => eLoad Tryz.prog 23 x8 fun x9 => eNilCk x9 fun x10 => eFieldAddr Tryz.prog 58 x10 0 fun x11 => eLoad Tryz.prog 53 x11 fun x12 => eLoad Tryz.prog 3 x4 fun x13 => eLoad Tryz.prog 9 x5 fun x14 => eCallR Tryz.prog C 99 [x12, x13, x14] 130 fun x15 => k1 (())
noncomputable def kern_step_rename_2_p1 (C : Cal) (K : SV → ER) (a1 : SV) (a2 : SV) (a4 : SV) : ER :=
  eFieldAddr Tryz.prog 113 a2 0 fun x28 => eFieldAddr Tryz.prog 113 a2 1 fun x29 => eFieldAddr Tryz.prog 40 a4 0 fun x30 => eLoad Tryz.prog 70 a1 fun x31 => eNilCk x31 fun x32 => eFieldAddr Tryz.prog 76 x32 1 fun x33 => eLoad Tryz.prog 23 x33 fun x34 => eNilCk x34 fun x35 => eFieldAddr Tryz.prog 58 x35 0 fun x36 => eLoad Tryz.prog 53 x36 fun x37 => eLoad Tryz.prog 3 x28 fun x38 => eLoad Tryz.prog 9 x29 fun x39 => eLoad Tryz.prog 3 x30 fun x40 => eCallR Tryz.prog C 101 [x37, x38, x39, x40] 26 fun x41 => K (.tup [])
noncomputable def kern_step_rename_2_p2 (C : Cal) (K : SV → ER) (a1 : SV) (a2 : SV) (a3 : SV) (a4 : SV) : ER :=
  eFieldAddr Tryz.prog 113 a3 0 fun x16 => eFieldAddr Tryz.prog 113 a3 1 fun x17 => eLoad Tryz.prog 70 a1 fun x18 => eNilCk x18 fun x19 => eFieldAddr Tryz.prog 76 x19 1 fun x20 => eLoad Tryz.prog 23 x20 fun x21 => eNilCk x21 fun x22 => eFieldAddr Tryz.prog 58 x22 0 fun x23 => eLoad Tryz.prog 53 x23 fun x24 => eLoad Tryz.prog 3 x16 fun x25 => eLoad Tryz.prog 9 x17 fun x26 => eCallR Tryz.prog C 99 [x24, x25, x26] 130 fun x27 => kern_step_rename_2_p1 C K a1 a2 a4
noncomputable def kern_step_rename_2_e (C : Cal) (N : Nat) (a0 a1 a2 a3 a4 : SV) (K : SV → ER) : ER :=
  eJoinC (σ := Unit) (fun (k1 : Unit → ER) =>
  eLoad Tryz.prog 4 a0 fun x3 => eIfV x3
  (kern_step_rename_2_p0 C a1 a2 k1)
  (k1 (()))) fun (s2 : Unit) =>
  kern_step_rename_2_p2 C K a1 a2 a3 a4
theorem kern_step_rename_2_ee (C : Cal) (N : Nat) (a0 a1 a2 a3 a4 : SV) (K : SV → ER) : eBody Tryz.prog C N Tryz.f108 (Tryz.f108.body.getD .skip) kern_step_rename_2_ea [a0, a1, a2, a3, a4] K = kern_step_rename_2_e C N a0 a1 a2 a3 a4 K := by kernel_rfl
noncomputable def l108 : LeafT := fun C N args K => match args with
  | [a0, a1, a2, a3, a4] => kern_step_rename_2_e C N a0 a1 a2 a3 a4 K
  | _ => eF
theorem lok108 : LeafOk Tryz.prog 108 l108 := ⟨Tryz.f108, Tryz.f108.body.getD .skip, kern_step_rename_2_ea, Tryz.func108, by kernel_rfl, Tryz.call108, fun C N args K H e => by
  unfold l108 at e
  split at e
  · rw [kern_step_rename_2_ee]; exact e
  · exact eF_no e⟩

/- (*halberd/kern.step).stat$1 -/
def kern_step_stat_1_ea : Ann := .two (.none) (.two (.none) (.none))
noncomputable def kern_step_stat_1_e (C : Cal) (N : Nat) (a0 : SV) (K : SV → ER) : ER :=
  eAlloc Tryz.prog 28 fun x1 => eLoad Tryz.prog 40 a0 fun x2 => eCallR Tryz.prog C 111 [x2] 9 fun x3 => eBuild Tryz.prog 28 [(2, x3)] fun x4 => eStore Tryz.prog 28 x1 x4 <| eLoad Tryz.prog 28 x1 fun x5 => K x5
theorem kern_step_stat_1_ee (C : Cal) (N : Nat) (a0 : SV) (K : SV → ER) : eBody Tryz.prog C N Tryz.f110 (Tryz.f110.body.getD .skip) kern_step_stat_1_ea [a0] K = kern_step_stat_1_e C N a0 K := by kernel_rfl
noncomputable def l110 : LeafT := fun C N args K => match args with
  | [a0] => kern_step_stat_1_e C N a0 K
  | _ => eF
theorem lok110 : LeafOk Tryz.prog 110 l110 := ⟨Tryz.f110, Tryz.f110.body.getD .skip, kern_step_stat_1_ea, Tryz.func110, by kernel_rfl, Tryz.call110, fun C N args K H e => by
  unfold l110 at e
  split at e
  · rw [kern_step_stat_1_ee]; exact e
  · exact eF_no e⟩

end Go.Proofs.YtnpcjhcgbcpcoaaGreatDoor
