/- The evaluator's texts of this seat's functions. Written by a program of this session. -/
import Derived.Test.YtnpcjhcgbcpcoaaGreatDoorV
import Derived.Test.YtnpcjhcgbcpcoaaGreatDoorE2
set_option linter.unusedVariables false
set_option maxRecDepth 100000
namespace Go.Proofs.YtnpcjhcgbcpcoaaGreatDoor
open Go.Hl
/- halberd/halberdlaw25.KernRenames -/
def law25_KernRenames_ea : Ann := .two (.none) (.two (.two (.none) (.two (.two (.none) (.none)) (.none))) (.two (.none) (.two (.none) (.two (.ord [0, 1, 2, 3, 5, 6, 7, 8, 4, 10, 9, 11]) (.two (.none) (.join (.two (.none) (.two (.none) (.none))) (.two (.none) (.two (.none) (.two (.none) (.two (.none) (.two (.join (.none) (.two (.two (.none) (.none)) (.none)) [(71, .any)]) (.join (.none) (.join (.join (.none) (.two (.none) (.none)) [(116, .any)]) (.two (.two (.none) (.two (.two (.none) (.none)) (.none))) (.two (.none) (.none))) [(15, .any)]) [(15, .any)])))))) []))))))
noncomputable def law25_KernRenames_p0 (k31 : SV × Unit → ER) (x21 : SV) (x27 : SV) : ER :=
  eFieldAddr Tryz.prog 28 x21 1 fun x36 => eLoad Tryz.prog 26 x36 fun x37 => eBin Tryz.prog .neq 26 false x37 (.int .i64 0) fun x38 => eIfV x38
  (eHas .any (.bool true) (k31 ((.bool true), ())))
  (eLoad Tryz.prog 28 x27 fun x39 => eLoad Tryz.prog 28 x21 fun x40 => eBin Tryz.prog .neq 28 false x39 x40 fun x41 => eHas .any x41 (k31 (x41, ())))
noncomputable def law25_KernRenames_p1 (a0 : SV) (a1 : SV) (k42 : SV × Unit → ER) : ER :=
  eBin Tryz.prog .rem 5 false a0 (.int .u8 6) fun x51 => eBin Tryz.prog .neq 5 false x51 (.int .u8 1) fun x52 => eIfV x52
  (eHas .any (.bool true) (k42 ((.bool true), ())))
  (eBin Tryz.prog .rem 5 false a1 (.int .u8 6) fun x53 => eBin Tryz.prog .neq 5 false x53 (.int .u8 5) fun x54 => eHas .any x54 (k42 (x54, ())))
noncomputable def law25_KernRenames_p2 (a0 : SV) (a1 : SV) (k42 : SV × Unit → ER) : ER :=
  eBin Tryz.prog .rem 5 false a0 (.int .u8 6) fun x57 => eBin Tryz.prog .neq 5 false x57 (.int .u8 1) fun x58 => eIfV x58
  (eHas .any (.bool true) (k42 ((.bool true), ())))
  (eBin Tryz.prog .rem 5 false a1 (.int .u8 6) fun x59 => eBin Tryz.prog .neq 5 false x59 (.int .u8 5) fun x60 => eHas .any x60 (k42 (x60, ())))
noncomputable def law25_KernRenames_p3 (a0 : SV) (a1 : SV) (k42 : SV × Unit → ER) : ER :=
  eBin Tryz.prog .rem 5 false a1 (.int .u8 6) fun x55 => eBin Tryz.prog .neq 5 false x55 (.int .u8 1) fun x56 => eIfV x56
  (law25_KernRenames_p2 a0 a1 k42)
  (eHas .any (.bool false) (k42 ((.bool false), ())))
noncomputable def law25_KernRenames_p4 (a0 : SV) (a1 : SV) (k63 : SV × Unit → ER) : ER :=
  eBin Tryz.prog .rem 5 false a0 (.int .u8 6) fun x69 => eBin Tryz.prog .eql 5 false x69 (.int .u8 3) fun x70 => eIfV x70
  (eBin Tryz.prog .rem 5 false a1 (.int .u8 6) fun x71 => eBin Tryz.prog .eql 5 false x71 (.int .u8 5) fun x72 => eHas .any x72 (k63 (x72, ())))
  (eHas .any (.bool false) (k63 ((.bool false), ())))
noncomputable def law25_KernRenames_p5 (a0 : SV) (a1 : SV) (k63 : SV × Unit → ER) : ER :=
  eBin Tryz.prog .rem 5 false a1 (.int .u8 6) fun x67 => eBin Tryz.prog .eql 5 false x67 (.int .u8 3) fun x68 => eIfV x68
  (eHas .any (.bool true) (k63 ((.bool true), ())))
  (law25_KernRenames_p4 a0 a1 k63)
noncomputable def law25_KernRenames_p6 (a0 : SV) (a1 : SV) (k63 : SV × Unit → ER) : ER :=
  eBin Tryz.prog .rem 5 false a0 (.int .u8 6) fun x73 => eBin Tryz.prog .eql 5 false x73 (.int .u8 3) fun x74 => eIfV x74
  (eBin Tryz.prog .rem 5 false a1 (.int .u8 6) fun x75 => eBin Tryz.prog .eql 5 false x75 (.int .u8 5) fun x76 => eHas .any x76 (k63 (x76, ())))
  (eHas .any (.bool false) (k63 ((.bool false), ())))
noncomputable def law25_KernRenames_p7 (a0 : SV) (a1 : SV) (k61 : SV × Unit → ER) (s43 : SV × Unit) : ER :=
  eJoinC (σ := SV × Unit) (fun (k63 : SV × Unit → ER) =>
  eBin Tryz.prog .rem 5 false a0 (.int .u8 6) fun x65 => eBin Tryz.prog .eql 5 false x65 (.int .u8 5) fun x66 => eIfV x66
  (law25_KernRenames_p5 a0 a1 k63)
  (law25_KernRenames_p6 a0 a1 k63)) fun (s64 : SV × Unit) =>
  eIfV s64.1
  (eHas .any (.bool true) (k61 ((.bool true), ())))
  (eHas .any s43.1 (k61 (s43.1, ())))
noncomputable def law25_KernRenames_p8 (K : SV → ER) (s62 : SV × Unit) (x21 : SV) (x30 : SV) : ER :=
  eIfV s62.1
  (eLoad Tryz.prog 28 x30 fun x77 => eLoad Tryz.prog 28 x21 fun x78 => eBin Tryz.prog .eql 28 false x77 x78 fun x79 => K x79)
  (eLoad Tryz.prog 28 x30 fun x80 => eBuild Tryz.prog 28 [(1, (.int .i64 2))] fun x81 => eBin Tryz.prog .eql 28 false x80 x81 fun x82 => K x82)
noncomputable def law25_KernRenames_p9 (a0 : SV) (a1 : SV) (k42 : SV × Unit → ER) : ER :=
  eBin Tryz.prog .rem 5 false a0 (.int .u8 6) fun x44 => eBin Tryz.prog .rem 5 false x44 (.int .u8 4) fun x45 => eBin Tryz.prog .rem 5 false a1 (.int .u8 6) fun x46 => eBin Tryz.prog .rem 5 false x46 (.int .u8 4) fun x47 => eBin Tryz.prog .eql 5 false x45 x47 fun x48 => eIfV x48
  (eBin Tryz.prog .rem 5 false a0 (.int .u8 6) fun x49 => eBin Tryz.prog .neq 5 false x49 (.int .u8 5) fun x50 => eIfV x50
  (law25_KernRenames_p1 a0 a1 k42)
  (law25_KernRenames_p3 a0 a1 k42))
  (eHas .any (.bool false) (k42 ((.bool false), ())))
noncomputable def law25_KernRenames_p10 (K : SV → ER) (a0 : SV) (a1 : SV) (x21 : SV) (x30 : SV) : ER :=
  eJoinC (σ := SV × Unit) (fun (k42 : SV × Unit → ER) =>
  law25_KernRenames_p9 a0 a1 k42) fun (s43 : SV × Unit) =>
  eJoinC (σ := SV × Unit) (fun (k61 : SV × Unit → ER) =>
  law25_KernRenames_p7 a0 a1 k61 s43) fun (s62 : SV × Unit) =>
  law25_KernRenames_p8 K s62 x21 x30
noncomputable def law25_KernRenames_p11 (k31 : SV × Unit → ER) (x21 : SV) (x24 : SV) (x27 : SV) : ER :=
  eLoad Tryz.prog 28 x24 fun x33 => eBuild Tryz.prog 28 [] fun x34 => eBin Tryz.prog .neq 28 false x33 x34 fun x35 => eIfV x35
  (eHas .any (.bool true) (k31 ((.bool true), ())))
  (law25_KernRenames_p0 k31 x21 x27)
noncomputable def law25_KernRenames_p12 (C : Cal) (K : SV → ER) (a0 : SV) (a1 : SV) (x3 : SV) (x9 : SV) (x10 : SV) (x21 : SV) (x24 : SV) : ER :=
  eBuild Tryz.prog 31 [(0, (.int .i64 13)), (1, (.int .i64 1)), (5, x10)] fun x25 => eCallR Tryz.prog C 8 [x3, x25] 28 fun x26 => eAlloc Tryz.prog 28 fun x27 => eStore Tryz.prog 28 x27 x26 <| eBuild Tryz.prog 31 [(0, (.int .i64 13)), (1, (.int .i64 1)), (5, x9)] fun x28 => eCallR Tryz.prog C 8 [x3, x28] 28 fun x29 => eAlloc Tryz.prog 28 fun x30 => eStore Tryz.prog 28 x30 x29 <| eJoinC (σ := SV × Unit) (fun (k31 : SV × Unit → ER) =>
  law25_KernRenames_p11 k31 x21 x24 x27) fun (s32 : SV × Unit) =>
  eIfV s32.1
  (K (.bool false))
  (law25_KernRenames_p10 K a0 a1 x21 x30)
noncomputable def law25_KernRenames_p13 (C : Cal) (a2 : SV) (x3 : SV) (x9 : SV) (k13 : Unit → ER) : ER :=
  eIfV a2
  (eBuild Tryz.prog 31 [(0, (.int .i64 6)), (1, (.int .i64 1)), (2, (.int .i64 448)), (5, x9)] fun x15 => eCallR Tryz.prog C 8 [x3, x15] 28 fun x16 => k13 (()))
  (eBuild Tryz.prog 31 [(0, (.int .i64 1)), (1, (.int .i64 1)), (2, (.int .i64 6)), (3, (.int .i64 420)), (5, x9)] fun x17 => eCallR Tryz.prog C 8 [x3, x17] 28 fun x18 => k13 (()))
noncomputable def law25_KernRenames_p14 (C : Cal) (K : SV → ER) (a0 : SV) (a1 : SV) (x3 : SV) (x9 : SV) (x10 : SV) : ER :=
  eBuild Tryz.prog 31 [(0, (.int .i64 13)), (1, (.int .i64 1)), (5, x9)] fun x19 => eCallR Tryz.prog C 8 [x3, x19] 28 fun x20 => eAlloc Tryz.prog 28 fun x21 => eStore Tryz.prog 28 x21 x20 <| eBuild Tryz.prog 31 [(0, (.int .i64 11)), (1, (.int .i64 1)), (5, x9), (6, x10)] fun x22 => eCallR Tryz.prog C 8 [x3, x22] 28 fun x23 => eAlloc Tryz.prog 28 fun x24 => eStore Tryz.prog 28 x24 x23 <| law25_KernRenames_p12 C K a0 a1 x3 x9 x10 x21 x24
noncomputable def law25_KernRenames_p15 (C : Cal) (K : SV → ER) (a0 : SV) (a1 : SV) (a2 : SV) (x3 : SV) (x4 : SV) (x5 : SV) : ER :=
  eIndexAddrS Tryz.prog 25 x4 x5 fun x6 => eBin Tryz.prog .rem 5 false a1 (.int .u8 6) fun x7 => eIndexAddrS Tryz.prog 25 x4 x7 fun x8 => eLoad Tryz.prog 9 x6 fun x9 => eLoad Tryz.prog 9 x8 fun x10 => eBuild Tryz.prog 31 [(0, (.int .i64 6)), (1, (.int .i64 1)), (2, (.int .i64 493)), (5, (.str [100]))] fun x11 => eCallR Tryz.prog C 8 [x3, x11] 28 fun x12 => eJoinC (σ := Unit) (fun (k13 : Unit → ER) =>
  law25_KernRenames_p13 C a2 x3 x9 k13) fun (s14 : Unit) =>
  law25_KernRenames_p14 C K a0 a1 x3 x9 x10
noncomputable def law25_KernRenames_p16 (C : Cal) (K : SV → ER) (a0 : SV) (a1 : SV) (a2 : SV) : ER :=
  eCallR Tryz.prog C 7 [] 23 fun x3 => eBuildSlice Tryz.prog 25 6 [(0, (.str [97])), (1, (.str [98])), (2, (.str [100, 47, 97])), (3, (.str [100, 47, 98])), (4, (.str [47, 97])), (5, (.str [46, 47, 100, 47, 98]))] fun x4 => eBin Tryz.prog .rem 5 false a0 (.int .u8 6) fun x5 => law25_KernRenames_p15 C K a0 a1 a2 x3 x4 x5
noncomputable def law25_KernRenames_e (C : Cal) (N : Nat) (a0 a1 a2 : SV) (K : SV → ER) : ER :=
  eCallR Tryz.prog C 6 [] 4 fun x1 => eUnS .not x1 fun x2 => eIfV x2
  (K (.bool false))
  (law25_KernRenames_p16 C K a0 a1 a2)
theorem law25_KernRenames_ee (C : Cal) (N : Nat) (a0 a1 a2 : SV) (K : SV → ER) : eBody Tryz.prog C N Tryz.f3 (Tryz.f3.body.getD .skip) law25_KernRenames_ea [a0, a1, a2] K = law25_KernRenames_e C N a0 a1 a2 K := by kernel_rfl
noncomputable def l3 : LeafT := fun C N args K => match args with
  | [a0, a1, a2] => law25_KernRenames_e C N a0 a1 a2 K
  | _ => eF
theorem lok3 : LeafOk Tryz.prog 3 l3 := ⟨Tryz.f3, Tryz.f3.body.getD .skip, law25_KernRenames_ea, Tryz.func3, by kernel_rfl, Tryz.call3, fun C N args K H e => by
  unfold l3 at e
  split at e
  · rw [law25_KernRenames_ee]; exact e
  · exact eF_no e⟩

/- halberd/halberdlaw25.KernLinks -/
def law25_KernLinks_ea : Ann := .two (.none) (.two (.two (.none) (.two (.two (.none) (.none)) (.none))) (.two (.two (.none) (.two (.two (.none) (.none)) (.none))) (.two (.none) (.two (.none) (.two (.none) (.two (.none) (.two (.none) (.two (.none) (.two (.none) (.two (.two (.none) (.sub (.loop [(8, .any), (9, .any)] (.two (.two (.none) (.two (.none) (.none))) (.join (.sub (.two (.two (.none) (.two (.none) (.none))) (.two (.none) (.two (.two (.none) (.two (.two (.two (.none) (.two (.two (.none) (.none)) (.none))) (.none)) (.none))) (.two (.two (.none) (.two (.two (.none) (.none)) (.none))) (.two (.none) (.two (.none) (.two (.none) (.two (.none) (.join (.none) (.two (.two (.none) (.none)) (.none)) [(96, .any)])))))))))) (.none) [(8, .any)]))))) (.two (.none) (.two (.two (.none) (.sub (.loop [(15, .any)] (.two (.two (.none) (.two (.none) (.none))) (.two (.sub (.two (.none) (.two (.two (.none) (.none)) (.none)))) (.none)))))) (.two (.none) (.none))))))))))))))
noncomputable def law25_KernLinks_p0 (a1 : SV) (k52 : SV × Unit → ER) (x46 : SV) (x51 : SV) : ER :=
  eLoad Tryz.prog 28 x46 fun x57 => eLenS Tryz.prog [9] [a1] fun x58 => eBuild Tryz.prog 28 [(0, x58), (2, a1)] fun x59 => eBin Tryz.prog .neq 28 false x57 x59 fun x60 => eIfV x60
  (eHas .any (.bool true) (k52 ((.bool true), ())))
  (eLoad Tryz.prog 28 x51 fun x61 => eBuild Tryz.prog 28 [] fun x62 => eBin Tryz.prog .neq 28 false x61 x62 fun x63 => eHas .any x63 (k52 (x63, ())))
noncomputable def law25_KernLinks_p1 (a1 : SV) (k52 : SV × Unit → ER) (x41 : SV) (x46 : SV) (x51 : SV) : ER :=
  eFieldAddr Tryz.prog 28 x41 1 fun x54 => eLoad Tryz.prog 26 x54 fun x55 => eBin Tryz.prog .neq 26 false x55 (.int .i64 0) fun x56 => eIfV x56
  (eHas .any (.bool true) (k52 ((.bool true), ())))
  (law25_KernLinks_p0 a1 k52 x46 x51)
noncomputable def law25_KernLinks_p2 (C : Cal) (K : SV → ER) (a1 : SV) (x8 : SV) (k19 : SV × Unit → ER) (x36 : SV) (x41 : SV) (x45 : SV) : ER :=
  eAlloc Tryz.prog 28 fun x46 => eStore Tryz.prog 28 x46 x45 <| eFieldAddr Tryz.prog 28 x41 0 fun x47 => eLoad Tryz.prog 3 x47 fun x48 => eBuild Tryz.prog 31 [(0, (.int .i64 2)), (1, (.int .i64 1)), (2, x48)] fun x49 => eCallR Tryz.prog C 8 [x8, x49] 28 fun x50 => eAlloc Tryz.prog 28 fun x51 => eStore Tryz.prog 28 x51 x50 <| eJoinC (σ := SV × Unit) (fun (k52 : SV × Unit → ER) =>
  law25_KernLinks_p1 a1 k52 x41 x46 x51) fun (s53 : SV × Unit) =>
  eIfV s53.1
  (K (.bool false))
  (eHas .any x36 (k19 (x36, ())))
noncomputable def law25_KernLinks_p3 (C : Cal) (K : SV → ER) (a1 : SV) (x8 : SV) (k19 : SV × Unit → ER) (x36 : SV) (x37 : SV) : ER :=
  eLoad Tryz.prog 9 x37 fun x38 => eBuild Tryz.prog 31 [(0, (.int .i64 1)), (1, (.int .i64 1)), (2, (.int .i64 1)), (5, x38)] fun x39 => eCallR Tryz.prog C 8 [x8, x39] 28 fun x40 => eAlloc Tryz.prog 28 fun x41 => eStore Tryz.prog 28 x41 x40 <| eFieldAddr Tryz.prog 28 x41 0 fun x42 => eLoad Tryz.prog 3 x42 fun x43 => eBuild Tryz.prog 31 [(0, (.int .i64 3)), (1, (.int .i64 1)), (2, x43), (3, (.int .i64 32))] fun x44 => eCallR Tryz.prog C 8 [x8, x44] 28 fun x45 => law25_KernLinks_p2 C K a1 x8 k19 x36 x41 x45
noncomputable def law25_KernLinks_p4 (C : Cal) (K : SV → ER) (a1 : SV) (x8 : SV) (x9 : SV) (k19 : SV × Unit → ER) (s17 : SV × SV × Unit) (x28 : SV) : ER :=
  eLoad Tryz.prog 28 x28 fun x33 => eBuild Tryz.prog 28 [] fun x34 => eBin Tryz.prog .neq 28 false x33 x34 fun x35 => eIfV x35
  (K (.bool false))
  (eBin Tryz.prog .add 3 false s17.1 (.int .i64 1) fun x36 => eIndexAddrS Tryz.prog 25 x9 s17.2.1 fun x37 => law25_KernLinks_p3 C K a1 x8 k19 x36 x37)
noncomputable def law25_KernLinks_p5 (C : Cal) (K : SV → ER) (a1 : SV) (x8 : SV) (x9 : SV) (k19 : SV × Unit → ER) (s17 : SV × SV × Unit) (x25 : SV) : ER :=
  eBuild Tryz.prog 31 [(0, (.int .i64 8)), (1, (.int .i64 1)), (5, (.str [97])), (6, x25)] fun x26 => eCallR Tryz.prog C 8 [x8, x26] 28 fun x27 => eAlloc Tryz.prog 28 fun x28 => eStore Tryz.prog 28 x28 x27 <| eBin Tryz.prog .eql 3 false s17.1 (.int .i64 8) fun x29 => eIfV x29
  (eLoad Tryz.prog 28 x28 fun x30 => eBuild Tryz.prog 28 [(1, (.int .i64 31))] fun x31 => eBin Tryz.prog .neq 28 false x30 x31 fun x32 => eIfV x32
  (K (.bool false))
  (eHas .any s17.1 (k19 (s17.1, ()))))
  (law25_KernLinks_p4 C K a1 x8 x9 k19 s17 x28)
noncomputable def law25_KernLinks_p6 (C : Cal) (K : SV → ER) (a1 : SV) (x8 : SV) (x9 : SV) (k19 : SV × Unit → ER) (s17 : SV × SV × Unit) : ER :=
  eIndexAddrS Tryz.prog 25 x9 s17.2.1 fun x21 => eLoad Tryz.prog 9 x21 fun x22 => eBin Tryz.prog .eql 9 false x22 (.str [101]) fun x23 => eIfV x23
  (eHas .any s17.1 (k19 (s17.1, ())))
  (eIndexAddrS Tryz.prog 25 x9 s17.2.1 fun x24 => eLoad Tryz.prog 9 x24 fun x25 => law25_KernLinks_p5 C K a1 x8 x9 k19 s17 x25)
noncomputable def law25_KernLinks_p7 (C : Cal) (K : SV → ER) (a1 : SV) (x8 : SV) (x9 : SV) (k16 : SV × SV × Unit → ER) (s17 : SV × SV × Unit) : ER :=
  eJoinC (σ := SV × Unit) (fun (k19 : SV × Unit → ER) =>
  law25_KernLinks_p6 C K a1 x8 x9 k19 s17) fun (s20 : SV × Unit) =>
  eBin Tryz.prog .add 3 false s17.2.1 (.int .i64 1) fun x64 => eHas .any s20.1 (eHas .any x64 (k16 (s20.1, x64, ())))
noncomputable def law25_KernLinks_p8 (K : SV → ER) (s17 : SV × SV × Unit) (s68 : SV × Unit) (x66 : SV) : ER :=
  eFieldAddr Tryz.prog 36 x66 0 fun x79 => eLoad Tryz.prog 33 x79 fun x80 => eIndexAddrS Tryz.prog 33 x80 s68.1 fun x81 => eFieldAddr Tryz.prog 40 x81 6 fun x82 => eLoad Tryz.prog 3 x82 fun x83 => eBin Tryz.prog .eql 3 false x83 s17.1 fun x84 => K x84
noncomputable def law25_KernLinks_p9 (K : SV → ER) (k67 : SV × Unit → ER) (s17 : SV × SV × Unit) (s68 : SV × Unit) (x66 : SV) : ER :=
  eFieldAddr Tryz.prog 36 x66 0 fun x73 => eLoad Tryz.prog 33 x73 fun x74 => eIndexAddrS Tryz.prog 33 x74 s68.1 fun x75 => eFieldAddr Tryz.prog 40 x75 2 fun x76 => eLoad Tryz.prog 3 x76 fun x77 => eBin Tryz.prog .eql 3 false x77 (.int .i64 1) fun x78 => eIfV x78
  (law25_KernLinks_p8 K s17 s68 x66)
  (eBin Tryz.prog .add 3 false s68.1 (.int .i64 1) fun x85 => eHas .any x85 (k67 (x85, ())))
noncomputable def law25_KernLinks_p10 (K : SV → ER) (k67 : SV × Unit → ER) (s17 : SV × SV × Unit) (s68 : SV × Unit) (x66 : SV) : ER :=
  eFieldAddr Tryz.prog 36 x66 0 fun x69 => eLoad Tryz.prog 33 x69 fun x70 => eLenS Tryz.prog [33] [x70] fun x71 => eBin Tryz.prog .lss 3 false s68.1 x71 fun x72 => eIfV x72
  (law25_KernLinks_p9 K k67 s17 s68 x66)
  (K (.bool false))
noncomputable def law25_KernLinks_p11 (C : Cal) (K : SV → ER) (N : Nat) (x8 : SV) (s17 : SV × SV × Unit) : ER :=
  eCallR Tryz.prog C 9 [x8] 36 fun x65 => eAlloc Tryz.prog 36 fun x66 => eStore Tryz.prog 36 x66 x65 <| eHas .any (.int .i64 0) (eIter (σ := SV × Unit) (fun (s68 : SV × Unit) (k67 : SV × Unit → ER) =>
  law25_KernLinks_p10 K k67 s17 s68 x66) N ((.int .i64 0), ()))
noncomputable def law25_KernLinks_p12 (C : Cal) (K : SV → ER) (N : Nat) (a1 : SV) (x7 : SV) (x8 : SV) (x9 : SV) : ER :=
  eBuild Tryz.prog 31 [(0, (.int .i64 1)), (1, (.int .i64 1)), (2, (.int .i64 6)), (3, (.int .i64 420)), (5, (.str [97]))] fun x12 => eCallR Tryz.prog C 8 [x8, x12] 28 fun x13 => eBuild Tryz.prog 31 [(0, (.int .i64 4)), (1, (.int .i64 1)), (5, a1)] fun x14 => eCallR Tryz.prog C 8 [x8, x14] 28 fun x15 => eHas .any (.int .i64 1) (eHas .any (.int .i64 1) (eIter (σ := SV × SV × Unit) (fun (s17 : SV × SV × Unit) (k16 : SV × SV × Unit → ER) =>
  eBin Tryz.prog .leq 3 false s17.2.1 x7 fun x18 => eIfV x18
  (law25_KernLinks_p7 C K a1 x8 x9 k16 s17)
  (law25_KernLinks_p11 C K N x8 s17)) N ((.int .i64 1), (.int .i64 1), ())))
noncomputable def law25_KernLinks_p13 (C : Cal) (K : SV → ER) (N : Nat) (a1 : SV) (x7 : SV) : ER :=
  eCallR Tryz.prog C 7 [] 23 fun x8 => eBuildSlice Tryz.prog 25 11 [(0, (.str [97])), (1, (.str [98])), (2, (.str [99])), (3, (.str [100])), (4, (.str [101])), (5, (.str [102])), (6, (.str [103])), (7, (.str [101, 47, 97])), (8, (.str [101, 47, 98])), (9, (.str [101, 47, 99])), (10, (.str [101, 47, 100]))] fun x9 => eBuild Tryz.prog 31 [(0, (.int .i64 6)), (1, (.int .i64 1)), (2, (.int .i64 493)), (5, (.str [101]))] fun x10 => eCallR Tryz.prog C 8 [x8, x10] 28 fun x11 => law25_KernLinks_p12 C K N a1 x7 x8 x9
noncomputable def law25_KernLinks_p14 (C : Cal) (K : SV → ER) (N : Nat) (a0 : SV) (a1 : SV) : ER :=
  eLenS Tryz.prog [9] [a1] fun x3 => eBin Tryz.prog .gtr 3 false x3 (.int .i64 32) fun x4 => eIfV x4
  (K (.bool true))
  (eBin Tryz.prog .rem 5 false a0 (.int .u8 10) fun x5 => eConvS Tryz.prog 5 3 x5 fun x6 => eBin Tryz.prog .add 3 false x6 (.int .i64 1) fun x7 => law25_KernLinks_p13 C K N a1 x7)
noncomputable def law25_KernLinks_e (C : Cal) (N : Nat) (a0 a1 : SV) (K : SV → ER) : ER :=
  eCallR Tryz.prog C 6 [] 4 fun x1 => eUnS .not x1 fun x2 => eIfV x2
  (K (.bool false))
  (law25_KernLinks_p14 C K N a0 a1)
theorem law25_KernLinks_ee (C : Cal) (N : Nat) (a0 a1 : SV) (K : SV → ER) : eBody Tryz.prog C N Tryz.f4 (Tryz.f4.body.getD .skip) law25_KernLinks_ea [a0, a1] K = law25_KernLinks_e C N a0 a1 K := by kernel_rfl
noncomputable def l4 : LeafT := fun C N args K => match args with
  | [a0, a1] => law25_KernLinks_e C N a0 a1 K
  | _ => eF
theorem lok4 : LeafOk Tryz.prog 4 l4 := ⟨Tryz.f4, Tryz.f4.body.getD .skip, law25_KernLinks_ea, Tryz.func4, by kernel_rfl, Tryz.call4, fun C N args K H e => by
  unfold l4 at e
  split at e
  · rw [law25_KernLinks_ee]; exact e
  · exact eF_no e⟩

/- halberd/halberdlaw25.KernSignals -/
def law25_KernSignals_ea : Ann := .two (.none) (.two (.two (.none) (.two (.two (.none) (.none)) (.none))) (.two (.none) (.two (.none) (.two (.none) (.two (.none) (.two (.none) (.two (.none) (.two (.none) (.two (.sub (.join (.none) (.two (.join (.none) (.none) [(4, .any)]) (.two (.none) (.two (.join (.none) (.none) [(4, .any)]) (.two (.none) (.two (.join (.none) (.none) [(4, .any)]) (.two (.none) (.two (.join (.none) (.none) [(4, .any)]) (.none)))))))) [(35, .any)])) (.join (.none) (.none) [(4, .any)]))))))))))
noncomputable def law25_KernSignals_p0 (k26 : SV × Unit → ER) (x21 : SV) : ER :=
  eFieldAddr Tryz.prog 50 x21 10 fun x31 => eLoad Tryz.prog 42 x31 fun x32 => eBin Tryz.prog .eql 42 false x32 (.int .u64 0) fun x33 => eIfV x33
  (eFieldAddr Tryz.prog 50 x21 8 fun x34 => eLoad Tryz.prog 4 x34 fun x35 => eUnS .not x35 fun x36 => eHas .any x36 (k26 (x36, ())))
  (eHas .any (.bool false) (k26 ((.bool false), ())))
noncomputable def law25_KernSignals_p1 (k26 : SV × Unit → ER) (x16 : SV) (x21 : SV) : ER :=
  eLoad Tryz.prog 28 x16 fun x28 => eBuild Tryz.prog 28 [(1, (.int .i64 22))] fun x29 => eBin Tryz.prog .eql 28 false x28 x29 fun x30 => eIfV x30
  (law25_KernSignals_p0 k26 x21)
  (eHas .any (.bool false) (k26 ((.bool false), ())))
noncomputable def law25_KernSignals_p2 (k39 : SV × Unit → ER) (x21 : SV) : ER :=
  eFieldAddr Tryz.prog 50 x21 10 fun x44 => eLoad Tryz.prog 42 x44 fun x45 => eBin Tryz.prog .eql 42 false x45 (.int .u64 0) fun x46 => eIfV x46
  (eFieldAddr Tryz.prog 50 x21 8 fun x47 => eLoad Tryz.prog 4 x47 fun x48 => eUnS .not x48 fun x49 => eHas .any x49 (k39 (x49, ())))
  (eHas .any (.bool false) (k39 ((.bool false), ())))
noncomputable def law25_KernSignals_p3 (k39 : SV × Unit → ER) (x16 : SV) (x21 : SV) : ER :=
  eLoad Tryz.prog 28 x16 fun x41 => eBuild Tryz.prog 28 [(1, (.int .i64 1))] fun x42 => eBin Tryz.prog .eql 28 false x41 x42 fun x43 => eIfV x43
  (law25_KernSignals_p2 k39 x21)
  (eHas .any (.bool false) (k39 ((.bool false), ())))
noncomputable def law25_KernSignals_p4 (k51 : SV × Unit → ER) (x21 : SV) : ER :=
  eFieldAddr Tryz.prog 50 x21 8 fun x56 => eLoad Tryz.prog 4 x56 fun x57 => eIfV x57
  (eFieldAddr Tryz.prog 50 x21 9 fun x58 => eLoad Tryz.prog 3 x58 fun x59 => eBin Tryz.prog .eql 3 false x59 (.int .i64 137) fun x60 => eHas .any x60 (k51 (x60, ())))
  (eHas .any (.bool false) (k51 ((.bool false), ())))
noncomputable def law25_KernSignals_p5 (k51 : SV × Unit → ER) (x16 : SV) (x21 : SV) : ER :=
  eLoad Tryz.prog 28 x16 fun x53 => eBuild Tryz.prog 28 [] fun x54 => eBin Tryz.prog .eql 28 false x53 x54 fun x55 => eIfV x55
  (law25_KernSignals_p4 k51 x21)
  (eHas .any (.bool false) (k51 ((.bool false), ())))
noncomputable def law25_KernSignals_p6 (k62 : SV × Unit → ER) (x21 : SV) : ER :=
  eFieldAddr Tryz.prog 50 x21 10 fun x67 => eLoad Tryz.prog 42 x67 fun x68 => eBin Tryz.prog .eql 42 false x68 (.int .u64 0) fun x69 => eIfV x69
  (eFieldAddr Tryz.prog 50 x21 8 fun x70 => eLoad Tryz.prog 4 x70 fun x71 => eUnS .not x71 fun x72 => eHas .any x72 (k62 (x72, ())))
  (eHas .any (.bool false) (k62 ((.bool false), ())))
noncomputable def law25_KernSignals_p7 (k62 : SV × Unit → ER) (x16 : SV) (x21 : SV) : ER :=
  eLoad Tryz.prog 28 x16 fun x64 => eBuild Tryz.prog 28 [] fun x65 => eBin Tryz.prog .eql 28 false x64 x65 fun x66 => eIfV x66
  (law25_KernSignals_p6 k62 x21)
  (eHas .any (.bool false) (k62 ((.bool false), ())))
noncomputable def law25_KernSignals_p8 (a0 : SV) (k73 : SV × Unit → ER) (x21 : SV) : ER :=
  eFieldAddr Tryz.prog 50 x21 10 fun x78 => eLoad Tryz.prog 42 x78 fun x79 => eConvS Tryz.prog 3 51 a0 fun x80 => eBin Tryz.prog .shl 42 false (.int .u64 1) x80 fun x81 => eBin Tryz.prog .eql 42 false x79 x81 fun x82 => eIfV x82
  (eFieldAddr Tryz.prog 50 x21 8 fun x83 => eLoad Tryz.prog 4 x83 fun x84 => eUnS .not x84 fun x85 => eHas .any x85 (k73 (x85, ())))
  (eHas .any (.bool false) (k73 ((.bool false), ())))
noncomputable def law25_KernSignals_p9 (a0 : SV) (k73 : SV × Unit → ER) (x16 : SV) (x21 : SV) : ER :=
  eLoad Tryz.prog 28 x16 fun x75 => eBuild Tryz.prog 28 [] fun x76 => eBin Tryz.prog .eql 28 false x75 x76 fun x77 => eIfV x77
  (law25_KernSignals_p8 a0 k73 x21)
  (eHas .any (.bool false) (k73 ((.bool false), ())))
noncomputable def law25_KernSignals_p10 (K : SV → ER) (a0 : SV) (x16 : SV) (x21 : SV) : ER :=
  eBin Tryz.prog .eql 3 false a0 (.int .i64 0) fun x61 => eIfV x61
  (eJoinC (σ := SV × Unit) (fun (k62 : SV × Unit → ER) =>
  law25_KernSignals_p7 k62 x16 x21) fun (s63 : SV × Unit) =>
  K s63.1)
  (eJoinC (σ := SV × Unit) (fun (k73 : SV × Unit → ER) =>
  law25_KernSignals_p9 a0 k73 x16 x21) fun (s74 : SV × Unit) =>
  K s74.1)
noncomputable def law25_KernSignals_p11 (K : SV → ER) (a0 : SV) (x16 : SV) (x21 : SV) : ER :=
  eBin Tryz.prog .eql 3 false a0 (.int .i64 9) fun x50 => eIfV x50
  (eJoinC (σ := SV × Unit) (fun (k51 : SV × Unit → ER) =>
  law25_KernSignals_p5 k51 x16 x21) fun (s52 : SV × Unit) =>
  K s52.1)
  (law25_KernSignals_p10 K a0 x16 x21)
noncomputable def law25_KernSignals_p12 (K : SV → ER) (a0 : SV) (a1 : SV) (x16 : SV) (x21 : SV) : ER :=
  eBin Tryz.prog .rem 5 false a1 (.int .u8 3) fun x37 => eBin Tryz.prog .eql 5 false x37 (.int .u8 2) fun x38 => eIfV x38
  (eJoinC (σ := SV × Unit) (fun (k39 : SV × Unit → ER) =>
  law25_KernSignals_p3 k39 x16 x21) fun (s40 : SV × Unit) =>
  K s40.1)
  (law25_KernSignals_p11 K a0 x16 x21)
noncomputable def law25_KernSignals_p13 (a0 : SV) (k22 : SV × Unit → ER) : ER :=
  eBin Tryz.prog .lss 3 false a0 (.int .i64 0) fun x24 => eIfV x24
  (eHas .any (.bool true) (k22 ((.bool true), ())))
  (eBin Tryz.prog .gtr 3 false a0 (.int .i64 31) fun x25 => eHas .any x25 (k22 (x25, ())))
noncomputable def law25_KernSignals_p14 (C : Cal) (K : SV → ER) (a0 : SV) (a1 : SV) (x3 : SV) (x16 : SV) : ER :=
  eCallR Tryz.prog C 9 [x3] 36 fun x17 => eField Tryz.prog 36 x17 1 fun x18 => eIndexAddrS Tryz.prog 34 x18 (.int .i64 2) fun x19 => eLoad Tryz.prog 50 x19 fun x20 => eAlloc Tryz.prog 50 fun x21 => eStore Tryz.prog 50 x21 x20 <| eJoinC (σ := SV × Unit) (fun (k22 : SV × Unit → ER) =>
  law25_KernSignals_p13 a0 k22) fun (s23 : SV × Unit) =>
  eIfV s23.1
  (eJoinC (σ := SV × Unit) (fun (k26 : SV × Unit → ER) =>
  law25_KernSignals_p1 k26 x16 x21) fun (s27 : SV × Unit) =>
  K s27.1)
  (law25_KernSignals_p12 K a0 a1 x16 x21)
noncomputable def law25_KernSignals_p15 (C : Cal) (K : SV → ER) (a0 : SV) (a1 : SV) (x3 : SV) (x9 : SV) : ER :=
  eBuild Tryz.prog 31 [(0, (.int .i64 24)), (1, (.int .i64 2)), (2, x9)] fun x10 => eCallR Tryz.prog C 8 [x3, x10] 28 fun x11 => eBuild Tryz.prog 31 [(0, (.int .i64 24)), (1, (.int .i64 3)), (2, (.int .i64 1))] fun x12 => eCallR Tryz.prog C 8 [x3, x12] 28 fun x13 => eBuild Tryz.prog 31 [(0, (.int .i64 22)), (1, (.int .i64 2)), (2, (.int .i64 3)), (3, a0)] fun x14 => eCallR Tryz.prog C 8 [x3, x14] 28 fun x15 => eAlloc Tryz.prog 28 fun x16 => eStore Tryz.prog 28 x16 x15 <| law25_KernSignals_p14 C K a0 a1 x3 x16
noncomputable def law25_KernSignals_p16 (C : Cal) (K : SV → ER) (a0 : SV) (a1 : SV) : ER :=
  eCallR Tryz.prog C 7 [] 23 fun x3 => eBuild Tryz.prog 31 [(0, (.int .i64 18)), (1, (.int .i64 1))] fun x4 => eCallR Tryz.prog C 8 [x3, x4] 28 fun x5 => eBuild Tryz.prog 31 [(0, (.int .i64 18)), (1, (.int .i64 1))] fun x6 => eCallR Tryz.prog C 8 [x3, x6] 28 fun x7 => eBin Tryz.prog .rem 5 false a1 (.int .u8 3) fun x8 => eConvS Tryz.prog 5 3 x8 fun x9 => law25_KernSignals_p15 C K a0 a1 x3 x9
noncomputable def law25_KernSignals_e (C : Cal) (N : Nat) (a0 a1 : SV) (K : SV → ER) : ER :=
  eCallR Tryz.prog C 6 [] 4 fun x1 => eUnS .not x1 fun x2 => eIfV x2
  (K (.bool false))
  (law25_KernSignals_p16 C K a0 a1)
theorem law25_KernSignals_ee (C : Cal) (N : Nat) (a0 a1 : SV) (K : SV → ER) : eBody Tryz.prog C N Tryz.f5 (Tryz.f5.body.getD .skip) law25_KernSignals_ea [a0, a1] K = law25_KernSignals_e C N a0 a1 K := by kernel_rfl
noncomputable def l5 : LeafT := fun C N args K => match args with
  | [a0, a1] => law25_KernSignals_e C N a0 a1 K
  | _ => eF
theorem lok5 : LeafOk Tryz.prog 5 l5 := ⟨Tryz.f5, Tryz.f5.body.getD .skip, law25_KernSignals_ea, Tryz.func5, by kernel_rfl, Tryz.call5, fun C N args K H e => by
  unfold l5 at e
  split at e
  · rw [law25_KernSignals_ee]; exact e
  · exact eF_no e⟩

/- halberd/halberdlaw25.alive -/
def law25_alive_ea : Ann := .two (.none) (.two (.none) (.two (.none) (.two (.none) (.two (.none) (.join (.none) (.none) [(0, .any)])))))
noncomputable def law25_alive_p0 (x7 : SV) (k11 : SV × Unit → ER) (x10 : SV) : ER :=
  eLoad Tryz.prog 28 x7 fun x16 => eBuild Tryz.prog 28 [(0, (.int .i64 2))] fun x17 => eBin Tryz.prog .eql 28 false x16 x17 fun x18 => eIfV x18
  (eLoad Tryz.prog 28 x10 fun x19 => eBuild Tryz.prog 28 [(0, (.int .i64 1))] fun x20 => eBin Tryz.prog .eql 28 false x19 x20 fun x21 => eHas .any x21 (k11 (x21, ())))
  (eHas .any (.bool false) (k11 ((.bool false), ())))
noncomputable def law25_alive_p1 (x4 : SV) (x7 : SV) (k11 : SV × Unit → ER) (x10 : SV) : ER :=
  eLoad Tryz.prog 28 x4 fun x13 => eBuild Tryz.prog 28 [] fun x14 => eBin Tryz.prog .eql 28 false x13 x14 fun x15 => eIfV x15
  (law25_alive_p0 x7 k11 x10)
  (eHas .any (.bool false) (k11 ((.bool false), ())))
noncomputable def law25_alive_p2 (C : Cal) (K : SV → ER) (x1 : SV) (x3 : SV) (x4 : SV) : ER :=
  eStore Tryz.prog 28 x4 x3 <| eBuild Tryz.prog 31 [(0, (.int .i64 4)), (1, (.int .i64 1)), (5, (.str [104, 105]))] fun x5 => eCallR Tryz.prog C 8 [x1, x5] 28 fun x6 => eAlloc Tryz.prog 28 fun x7 => eStore Tryz.prog 28 x7 x6 <| eBuild Tryz.prog 31 [(0, (.int .i64 30)), (1, (.int .i64 1))] fun x8 => eCallR Tryz.prog C 8 [x1, x8] 28 fun x9 => eAlloc Tryz.prog 28 fun x10 => eStore Tryz.prog 28 x10 x9 <| eJoinC (σ := SV × Unit) (fun (k11 : SV × Unit → ER) =>
  law25_alive_p1 x4 x7 k11 x10) fun (s12 : SV × Unit) =>
  K s12.1
noncomputable def law25_alive_e (C : Cal) (N : Nat) (K : SV → ER) : ER :=
  eCallR Tryz.prog C 7 [] 23 fun x1 => eBuild Tryz.prog 31 [(0, (.int .i64 1)), (1, (.int .i64 1)), (2, (.int .i64 6)), (3, (.int .i64 420)), (5, (.str [47, 97]))] fun x2 => eCallR Tryz.prog C 8 [x1, x2] 28 fun x3 => eAlloc Tryz.prog 28 fun x4 => law25_alive_p2 C K x1 x3 x4
theorem law25_alive_ee (C : Cal) (N : Nat) (K : SV → ER) : eBody Tryz.prog C N Tryz.f6 (Tryz.f6.body.getD .skip) law25_alive_ea [] K = law25_alive_e C N  K := by kernel_rfl
noncomputable def l6 : LeafT := fun C N args K => match args with
  | [] => law25_alive_e C N  K
  | _ => eF
theorem lok6 : LeafOk Tryz.prog 6 l6 := ⟨Tryz.f6, Tryz.f6.body.getD .skip, law25_alive_ea, Tryz.func6, by kernel_rfl, Tryz.call6, fun C N args K H e => by
  unfold l6 at e
  split at e
  · rw [law25_alive_ee]; exact e
  · exact eF_no e⟩

/- halberd/kern.New -/
def kern_New_ea : Ann := .two (.none) (.two (.none) (.none))
noncomputable def kern_New_e (C : Cal) (N : Nat) (K : SV → ER) : ER :=
  eCallR Tryz.prog C 10 [] 53 fun x1 => eCallR Tryz.prog C 11 [] 55 fun x2 => eBuild Tryz.prog 58 [(0, x1), (1, x2)] fun x3 => eBox Tryz.prog 58 x3 fun x4 => K x4
theorem kern_New_ee (C : Cal) (N : Nat) (K : SV → ER) : eBody Tryz.prog C N Tryz.f7 (Tryz.f7.body.getD .skip) kern_New_ea [] K = kern_New_e C N  K := by kernel_rfl
noncomputable def l7 : LeafT := fun C N args K => match args with
  | [] => kern_New_e C N  K
  | _ => eF
theorem lok7 : LeafOk Tryz.prog 7 l7 := ⟨Tryz.f7, Tryz.f7.body.getD .skip, kern_New_ea, Tryz.func7, by kernel_rfl, Tryz.call7, fun C N args K H e => by
  unfold l7 at e
  split at e
  · rw [kern_New_ee]; exact e
  · exact eF_no e⟩

/- (*halberd/kern.Kernel).Do -/
def kern_Kernel_Do_ea : Ann := .two (.none) (.two (.none) (.none))
noncomputable def kern_Kernel_Do_e (C : Cal) (N : Nat) (a0 a1 : SV) (K : SV → ER) : ER :=
  eBox Tryz.prog 31 a1 fun x1 => eAlloc Tryz.prog 28 fun x2 => eLoad Tryz.prog 31 x1 fun x3 => eCallR Tryz.prog C 12 [a0, x3] 28 fun x4 => eStore Tryz.prog 28 x2 x4 <| eLoad Tryz.prog 28 x2 fun x5 => K x5
theorem kern_Kernel_Do_ee (C : Cal) (N : Nat) (a0 a1 : SV) (K : SV → ER) : eBody Tryz.prog C N Tryz.f8 (Tryz.f8.body.getD .skip) kern_Kernel_Do_ea [a0, a1] K = kern_Kernel_Do_e C N a0 a1 K := by kernel_rfl
noncomputable def l8 : LeafT := fun C N args K => match args with
  | [a0, a1] => kern_Kernel_Do_e C N a0 a1 K
  | _ => eF
theorem lok8 : LeafOk Tryz.prog 8 l8 := ⟨Tryz.f8, Tryz.f8.body.getD .skip, kern_Kernel_Do_ea, Tryz.func8, by kernel_rfl, Tryz.call8, fun C N args K H e => by
  unfold l8 at e
  split at e
  · rw [kern_Kernel_Do_ee]; exact e
  · exact eF_no e⟩

/- (*halberd/kern.Kernel).View -/
def kern_Kernel_View_ea : Ann := .two (.none) (.two (.ord [0, 1, 2, 5, 6, 7, 3, 8, 4, 9, 10, 11]) (.none))
noncomputable def kern_Kernel_View_e (C : Cal) (N : Nat) (a0 : SV) (K : SV → ER) : ER :=
  eAlloc Tryz.prog 36 fun x1 => eNilCk a0 fun x2 => eFieldAddr Tryz.prog 58 x2 0 fun x3 => eNilCk a0 fun x4 => eFieldAddr Tryz.prog 58 x4 1 fun x5 => eLoad Tryz.prog 53 x3 fun x6 => eLoad Tryz.prog 55 x5 fun x7 => eCallR Tryz.prog C 13 [x6] 33 fun x8 => fun H => eLoadF Tryz.prog 55 x5 x7 H && (eCallR Tryz.prog C 14 [x7] 34 fun x9 => eBuild Tryz.prog 36 [(0, x8), (1, x9)] fun x10 => eStore Tryz.prog 36 x1 x10 <| eLoad Tryz.prog 36 x1 fun x11 => K x11) H
theorem kern_Kernel_View_ee (C : Cal) (N : Nat) (a0 : SV) (K : SV → ER) : eBody Tryz.prog C N Tryz.f9 (Tryz.f9.body.getD .skip) kern_Kernel_View_ea [a0] K = kern_Kernel_View_e C N a0 K := by kernel_rfl
noncomputable def l9 : LeafT := fun C N args K => match args with
  | [a0] => kern_Kernel_View_e C N a0 K
  | _ => eF
theorem lok9 : LeafOk Tryz.prog 9 l9 := ⟨Tryz.f9, Tryz.f9.body.getD .skip, kern_Kernel_View_ea, Tryz.func9, by kernel_rfl, Tryz.call9, fun C N args K H e => by
  unfold l9 at e
  split at e
  · rw [kern_Kernel_View_ee]; exact e
  · exact eF_no e⟩

/- halberd/inodes.New -/
def inodes_New_ea : Ann := .two (.none) (.two (.none) (.two (.two (.none) (.sub (.loop [(2, .any)] (.two (.two (.none) (.two (.none) (.none))) (.two (.sub (.none)) (.none)))))) (.two (.none) (.two (.none) (.none)))))
noncomputable def inodes_New_p0 (C : Cal) (k3 : SV × Unit → ER) (s4 : SV × Unit) (x2 : SV) : ER :=
  eNilCk x2 fun x6 => eFieldAddr Tryz.prog 64 x6 1 fun x7 => eMakeIface Tryz.prog 66 x7 fun x8 => eMakeIface Tryz.prog 3 s4.1 fun x9 => eCallR Tryz.prog C 15 [x8, x9] 0 fun x10 => eBin Tryz.prog .add 3 false s4.1 (.int .i64 1) fun x11 => eHas .any x11 (k3 (x11, ()))
noncomputable def inodes_New_p1 (K : SV → ER) (x2 : SV) : ER :=
  eBuild Tryz.prog 40 [(0, (.int .i64 1)), (1, (.int .i64 1)), (2, (.int .i64 2)), (3, (.int .i64 493)), (6, (.int .i64 1)), (10, (.int .i64 1))] fun x12 => eNilCk x2 fun x13 => eFieldAddr Tryz.prog 64 x13 0 fun x14 => eIndexAddrS Tryz.prog 61 x14 (.int .i64 1) fun x15 => eStore Tryz.prog 40 x15 x12 <| K x2
noncomputable def inodes_New_e (C : Cal) (N : Nat) (K : SV → ER) : ER :=
  eBuild Tryz.prog 64 [] fun x1 => eBox Tryz.prog 64 x1 fun x2 => eHas .any (.int .i64 2) (eIter (σ := SV × Unit) (fun (s4 : SV × Unit) (k3 : SV × Unit → ER) =>
  eBin Tryz.prog .leq 3 false s4.1 (.int .i64 24) fun x5 => eIfV x5
  (inodes_New_p0 C k3 s4 x2)
  (inodes_New_p1 K x2)) N ((.int .i64 2), ()))
theorem inodes_New_ee (C : Cal) (N : Nat) (K : SV → ER) : eBody Tryz.prog C N Tryz.f10 (Tryz.f10.body.getD .skip) inodes_New_ea [] K = inodes_New_e C N  K := by kernel_rfl
noncomputable def l10 : LeafT := fun C N args K => match args with
  | [] => inodes_New_e C N  K
  | _ => eF
theorem lok10 : LeafOk Tryz.prog 10 l10 := ⟨Tryz.f10, Tryz.f10.body.getD .skip, inodes_New_ea, Tryz.func10, by kernel_rfl, Tryz.call10, fun C N args K H e => by
  unfold l10 at e
  split at e
  · rw [inodes_New_ee]; exact e
  · exact eF_no e⟩

end Go.Proofs.YtnpcjhcgbcpcoaaGreatDoor

set_option linter.unusedVariables false
set_option maxRecDepth 100000
namespace Go.Proofs.YtnpcjhcgbcpcoaaGreatDoor
open Go.Hl
/- halberd/tasks.New -/
def tasks_New_ea : Ann := .two (.none) (.two (.none) (.two (.none) (.two (.none) (.none))))
noncomputable def tasks_New_e (C : Cal) (N : Nat) (K : SV → ER) : ER :=
  eBuild Tryz.prog 69 [] fun x1 => eBox Tryz.prog 69 x1 fun x2 => eBuild Tryz.prog 50 [(0, (.int .i64 1)), (1, (.int .i64 1)), (2, (.int .i64 1)), (5, (.int .i64 1))] fun x3 => eNilCk x2 fun x4 => eFieldAddr Tryz.prog 69 x4 0 fun x5 => eIndexAddrS Tryz.prog 67 x5 (.int .i64 1) fun x6 => eStore Tryz.prog 50 x6 x3 <| K x2
theorem tasks_New_ee (C : Cal) (N : Nat) (K : SV → ER) : eBody Tryz.prog C N Tryz.f11 (Tryz.f11.body.getD .skip) tasks_New_ea [] K = tasks_New_e C N  K := by kernel_rfl
noncomputable def l11 : LeafT := fun C N args K => match args with
  | [] => tasks_New_e C N  K
  | _ => eF
theorem lok11 : LeafOk Tryz.prog 11 l11 := ⟨Tryz.f11, Tryz.f11.body.getD .skip, tasks_New_ea, Tryz.func11, by kernel_rfl, Tryz.call11, fun C N args K H e => by
  unfold l11 at e
  split at e
  · rw [tasks_New_ee]; exact e
  · exact eF_no e⟩

/- (*halberd/kern.Kernel).Commit -/
def kern_Kernel_Commit_ea : Ann := .two (.none) (.two (.none) (.two (.two (.none) (.two (.two (.none) (.none)) (.none))) (.two (.none) (.two (.none) (.two (.none) (.none))))))
noncomputable def kern_Kernel_Commit_p0 (C : Cal) (K : SV → ER) (a0 : SV) (x2 : SV) (x5 : SV) : ER :=
  eNilCk x5 fun x10 => eFieldAddr Tryz.prog 76 x10 4 fun x11 => eLoad Tryz.prog 74 x11 fun x12 => eCallVR Tryz.prog C x12 [] 28 fun x13 => eAlloc Tryz.prog 28 fun x14 => eStore Tryz.prog 28 x14 x13 <| eCallR Tryz.prog C 17 [a0] 0 fun x15 => eLoad Tryz.prog 28 x14 fun x16 => eStore Tryz.prog 28 x2 x16 <| eLoad Tryz.prog 28 x2 fun x17 => K x17
noncomputable def kern_Kernel_Commit_e (C : Cal) (N : Nat) (a0 a1 : SV) (K : SV → ER) : ER :=
  eBox Tryz.prog 31 a1 fun x1 => eAlloc Tryz.prog 28 fun x2 => eLoad Tryz.prog 31 x1 fun x3 => eCallR Tryz.prog C 16 [a0, x3] 71 fun x4 => eExtract x4 0 fun x5 => eExtract x4 1 fun x6 => eBin Tryz.prog .neq 26 false x6 (.int .i64 0) fun x7 => eIfV x7
  (eBuild Tryz.prog 28 [(1, x6)] fun x8 => eStore Tryz.prog 28 x2 x8 <| eLoad Tryz.prog 28 x2 fun x9 => K x9)
  (kern_Kernel_Commit_p0 C K a0 x2 x5)
theorem kern_Kernel_Commit_ee (C : Cal) (N : Nat) (a0 a1 : SV) (K : SV → ER) : eBody Tryz.prog C N Tryz.f12 (Tryz.f12.body.getD .skip) kern_Kernel_Commit_ea [a0, a1] K = kern_Kernel_Commit_e C N a0 a1 K := by kernel_rfl
noncomputable def l12 : LeafT := fun C N args K => match args with
  | [a0, a1] => kern_Kernel_Commit_e C N a0 a1 K
  | _ => eF
theorem lok12 : LeafOk Tryz.prog 12 l12 := ⟨Tryz.f12, Tryz.f12.body.getD .skip, kern_Kernel_Commit_ea, Tryz.func12, by kernel_rfl, Tryz.call12, fun C N args K H e => by
  unfold l12 at e
  split at e
  · rw [kern_Kernel_Commit_ee]; exact e
  · exact eF_no e⟩

/- (*halberd/inodes.Table).All -/
def inodes_Table_All_ea : Ann := .two (.none) (.two (.none) (.two (.two (.none) (.sub (.loop [(3, .any), (4, .any)] (.two (.two (.none) (.two (.none) (.none))) (.join (.sub (.two (.none) (.two (.none) (.two (.none) (.none))))) (.none) [(3, .any)]))))) (.two (.none) (.none))))
noncomputable def inodes_Table_All_p0 (C : Cal) (a0 : SV) (k4 : SV × Unit → ER) (s2 : SV × SV × Unit) : ER :=
  eCallR Tryz.prog C 18 [a0, s2.2.1] 77 fun x6 => eExtract x6 0 fun x7 => eExtract x6 1 fun x8 => eAlloc Tryz.prog 40 fun x9 => eStore Tryz.prog 40 x9 x7 <| eIfV x8
  (eLoad Tryz.prog 40 x9 fun x10 => eBuildSlice Tryz.prog 33 1 [(0, x10)] fun x11 => eApp Tryz.prog [33, 33] [s2.1, x11] fun x12 => eHas .any x12 (k4 (x12, ())))
  (eHas .any s2.1 (k4 (s2.1, ())))
noncomputable def inodes_Table_All_p1 (C : Cal) (a0 : SV) (k1 : SV × SV × Unit → ER) (s2 : SV × SV × Unit) : ER :=
  eJoinC (σ := SV × Unit) (fun (k4 : SV × Unit → ER) =>
  inodes_Table_All_p0 C a0 k4 s2) fun (s5 : SV × Unit) =>
  eBin Tryz.prog .add 3 false s2.2.1 (.int .i64 1) fun x13 => eHas .any s5.1 (eHas .any x13 (k1 (s5.1, x13, ())))
noncomputable def inodes_Table_All_e (C : Cal) (N : Nat) (a0 : SV) (K : SV → ER) : ER :=
  eHas .any (.sl ⟨none, 0, .lit 0⟩) (eHas .any (.int .i64 1) (eIter (σ := SV × SV × Unit) (fun (s2 : SV × SV × Unit) (k1 : SV × SV × Unit → ER) =>
  eBin Tryz.prog .leq 3 false s2.2.1 (.int .i64 24) fun x3 => eIfV x3
  (inodes_Table_All_p1 C a0 k1 s2)
  (K s2.1)) N ((.sl ⟨none, 0, .lit 0⟩), (.int .i64 1), ())))
theorem inodes_Table_All_ee (C : Cal) (N : Nat) (a0 : SV) (K : SV → ER) : eBody Tryz.prog C N Tryz.f13 (Tryz.f13.body.getD .skip) inodes_Table_All_ea [a0] K = inodes_Table_All_e C N a0 K := by kernel_rfl
noncomputable def l13 : LeafT := fun C N args K => match args with
  | [a0] => inodes_Table_All_e C N a0 K
  | _ => eF
theorem lok13 : LeafOk Tryz.prog 13 l13 := ⟨Tryz.f13, Tryz.f13.body.getD .skip, inodes_Table_All_ea, Tryz.func13, by kernel_rfl, Tryz.call13, fun C N args K H e => by
  unfold l13 at e
  split at e
  · rw [inodes_Table_All_ee]; exact e
  · exact eF_no e⟩

/- (*halberd/tasks.Table).All -/
def tasks_Table_All_ea : Ann := .two (.none) (.two (.none) (.two (.two (.none) (.sub (.loop [(3, .any), (4, .any)] (.two (.two (.none) (.two (.none) (.none))) (.join (.sub (.two (.none) (.two (.none) (.two (.none) (.none))))) (.none) [(3, .any)]))))) (.two (.none) (.none))))
noncomputable def tasks_Table_All_p0 (C : Cal) (a0 : SV) (k4 : SV × Unit → ER) (s2 : SV × SV × Unit) : ER :=
  eCallR Tryz.prog C 19 [a0, s2.2.1] 79 fun x6 => eExtract x6 0 fun x7 => eExtract x6 1 fun x8 => eAlloc Tryz.prog 50 fun x9 => eStore Tryz.prog 50 x9 x7 <| eIfV x8
  (eLoad Tryz.prog 50 x9 fun x10 => eBuildSlice Tryz.prog 34 1 [(0, x10)] fun x11 => eApp Tryz.prog [34, 34] [s2.1, x11] fun x12 => eHas .any x12 (k4 (x12, ())))
  (eHas .any s2.1 (k4 (s2.1, ())))
noncomputable def tasks_Table_All_p1 (C : Cal) (a0 : SV) (k1 : SV × SV × Unit → ER) (s2 : SV × SV × Unit) : ER :=
  eJoinC (σ := SV × Unit) (fun (k4 : SV × Unit → ER) =>
  tasks_Table_All_p0 C a0 k4 s2) fun (s5 : SV × Unit) =>
  eBin Tryz.prog .add 3 false s2.2.1 (.int .i64 1) fun x13 => eHas .any s5.1 (eHas .any x13 (k1 (s5.1, x13, ())))
noncomputable def tasks_Table_All_e (C : Cal) (N : Nat) (a0 : SV) (K : SV → ER) : ER :=
  eHas .any (.sl ⟨none, 0, .lit 0⟩) (eHas .any (.int .i64 1) (eIter (σ := SV × SV × Unit) (fun (s2 : SV × SV × Unit) (k1 : SV × SV × Unit → ER) =>
  eBin Tryz.prog .leq 3 false s2.2.1 (.int .i64 8) fun x3 => eIfV x3
  (tasks_Table_All_p1 C a0 k1 s2)
  (K s2.1)) N ((.sl ⟨none, 0, .lit 0⟩), (.int .i64 1), ())))
theorem tasks_Table_All_ee (C : Cal) (N : Nat) (a0 : SV) (K : SV → ER) : eBody Tryz.prog C N Tryz.f14 (Tryz.f14.body.getD .skip) tasks_Table_All_ea [a0] K = tasks_Table_All_e C N a0 K := by kernel_rfl
noncomputable def l14 : LeafT := fun C N args K => match args with
  | [a0] => tasks_Table_All_e C N a0 K
  | _ => eF
theorem lok14 : LeafOk Tryz.prog 14 l14 := ⟨Tryz.f14, Tryz.f14.body.getD .skip, tasks_Table_All_ea, Tryz.func14, by kernel_rfl, Tryz.call14, fun C N args K H e => by
  unfold l14 at e
  split at e
  · rw [tasks_Table_All_ee]; exact e
  · exact eF_no e⟩

/- container/heap.Push -/
def container_heap_Push_ea : Ann := .two (.none) (.none)
noncomputable def container_heap_Push_e (C : Cal) (N : Nat) (a0 a1 : SV) (K : SV → ER) : ER :=
  eInvokeR Tryz.prog C "Push" a0 [a1] 0 fun x1 => eInvokeR Tryz.prog C "Len" a0 [] 3 fun x2 => eBin Tryz.prog .sub 3 false x2 (.int .i64 1) fun x3 => eCallR Tryz.prog C 20 [a0, x3] 0 fun x4 => K (.tup [])
theorem container_heap_Push_ee (C : Cal) (N : Nat) (a0 a1 : SV) (K : SV → ER) : eBody Tryz.prog C N Tryz.f15 (Tryz.f15.body.getD .skip) container_heap_Push_ea [a0, a1] K = container_heap_Push_e C N a0 a1 K := by kernel_rfl
noncomputable def l15 : LeafT := fun C N args K => match args with
  | [a0, a1] => container_heap_Push_e C N a0 a1 K
  | _ => eF
theorem lok15 : LeafOk Tryz.prog 15 l15 := ⟨Tryz.f15, Tryz.f15.body.getD .skip, container_heap_Push_ea, Tryz.func15, by kernel_rfl, Tryz.call15, fun C N args K H e => by
  unfold l15 at e
  split at e
  · rw [container_heap_Push_ee]; exact e
  · exact eF_no e⟩

/- (*halberd/kern.Kernel).check -/
def kern_Kernel_check_ea : Ann := .two (.none) (.two (.none) (.two (.none) (.two (.sub (.two (.ord [0, 1, 2, 4, 3, 5, 6, 7, 8]) (.two (.two (.none) (.none)) (.join (.none) (.two (.two (.none) (.none)) (.none)) [(23, .any)])))) (.two (.ord [0, 1, 2, 3, 5, 4, 6, 7, 8, 9, 10, 11, 12, 13]) (.two (.none) (.none))))))
noncomputable def kern_Kernel_check_p0 (C : Cal) (K : SV → ER) (x1 : SV) (x4 : SV) (x6 : SV) (x23 : SV) : ER :=
  eFieldAddr Tryz.prog 31 x1 1 fun x24 => eLoad Tryz.prog 55 x23 fun x25 => eLoad Tryz.prog 3 x24 fun x26 => eCallR Tryz.prog C 19 [x25, x26] 79 fun x27 => eExtract x27 0 fun x28 => eExtract x27 1 fun x29 => eNilCk x4 fun x30 => eFieldAddr Tryz.prog 76 x30 2 fun x31 => eStore Tryz.prog 50 x31 x28 <| eFieldAddr Tryz.prog 31 x1 0 fun x32 => eLoad Tryz.prog 3 x32 fun x33 => eIndexAddrS Tryz.prog 87 x6 x33 fun x34 => eLoad Tryz.prog 86 x34 fun x35 => eCallVR Tryz.prog C x35 [x4] 26 fun x36 => K (.tup [x4, x36])
noncomputable def kern_Kernel_check_p1 (x1 : SV) (k14 : SV × Unit → ER) : ER :=
  eFieldAddr Tryz.prog 31 x1 0 fun x16 => eLoad Tryz.prog 3 x16 fun x17 => eBin Tryz.prog .lss 3 false x17 (.int .i64 1) fun x18 => eIfV x18
  (eHas .any (.bool true) (k14 ((.bool true), ())))
  (eFieldAddr Tryz.prog 31 x1 0 fun x19 => eLoad Tryz.prog 3 x19 fun x20 => eBin Tryz.prog .geq 3 false x20 (.int .i64 31) fun x21 => eHas .any x21 (k14 (x21, ())))
noncomputable def kern_Kernel_check_p2 (C : Cal) (K : SV → ER) (a0 : SV) (x1 : SV) (x4 : SV) (x6 : SV) : ER :=
  eJoinC (σ := SV × Unit) (fun (k14 : SV × Unit → ER) =>
  kern_Kernel_check_p1 x1 k14) fun (s15 : SV × Unit) =>
  eIfV s15.1
  (K (.tup [x4, (.int .i64 38)]))
  (eNilCk a0 fun x22 => eFieldAddr Tryz.prog 58 x22 1 fun x23 => kern_Kernel_check_p0 C K x1 x4 x6 x23)
noncomputable def kern_Kernel_check_p3 (C : Cal) (K : SV → ER) (a0 : SV) (x1 : SV) : ER :=
  eLoad Tryz.prog 31 x1 fun x2 => eBuild Tryz.prog 76 [(0, x2), (1, a0)] fun x3 => eBox Tryz.prog 76 x3 fun x4 => eCallR Tryz.prog C 21 [] 87 fun x5 => eAlloc Tryz.prog 87 fun x6 => eStore Tryz.prog 87 x6 x5 <| eNilCk a0 fun x7 => eFieldAddr Tryz.prog 58 x7 1 fun x8 => eFieldAddr Tryz.prog 31 x1 1 fun x9 => eLoad Tryz.prog 55 x8 fun x10 => eLoad Tryz.prog 3 x9 fun x11 => eCallR Tryz.prog C 22 [x10, x11] 4 fun x12 => eUnS .not x12 fun x13 => eIfV x13
  (K (.tup [x4, (.int .i64 3)]))
  (kern_Kernel_check_p2 C K a0 x1 x4 x6)
noncomputable def kern_Kernel_check_e (C : Cal) (N : Nat) (a0 a1 : SV) (K : SV → ER) : ER :=
  eBox Tryz.prog 31 a1 fun x1 => kern_Kernel_check_p3 C K a0 x1
theorem kern_Kernel_check_ee (C : Cal) (N : Nat) (a0 a1 : SV) (K : SV → ER) : eBody Tryz.prog C N Tryz.f16 (Tryz.f16.body.getD .skip) kern_Kernel_check_ea [a0, a1] K = kern_Kernel_check_e C N a0 a1 K := by kernel_rfl
noncomputable def l16 : LeafT := fun C N args K => match args with
  | [a0, a1] => kern_Kernel_check_e C N a0 a1 K
  | _ => eF
theorem lok16 : LeafOk Tryz.prog 16 l16 := ⟨Tryz.f16, Tryz.f16.body.getD .skip, kern_Kernel_check_ea, Tryz.func16, by kernel_rfl, Tryz.call16, fun C N args K H e => by
  unfold l16 at e
  split at e
  · rw [kern_Kernel_check_ee]; exact e
  · exact eF_no e⟩

/- (*halberd/kern.Kernel).sweep -/
def kern_Kernel_sweep_ea : Ann := .two (.none) (.sub (.loop [(10, .any)] (.two (.none) (.two (.two (.none) (.none)) (.join (.sub (.two (.none) (.join (.ord [0, 1, 2, 3, 4, 5, 6, 8, 7, 9, 10, 11, 12]) (.two (.ord [0, 1, 2, 4, 3, 5, 6]) (.none)) [(26, .any)]))) (.none) [])))))
noncomputable def kern_Kernel_sweep_p0 (C : Cal) (a0 : SV) (k14 : SV × Unit → ER) (x13 : SV) : ER :=
  eNilCk a0 fun x19 => eFieldAddr Tryz.prog 58 x19 1 fun x20 => eFieldAddr Tryz.prog 40 x13 0 fun x21 => eLoad Tryz.prog 55 x20 fun x22 => eLoad Tryz.prog 3 x21 fun x23 => eCallR Tryz.prog C 23 [x22, x23] 4 fun x24 => eUnS .not x24 fun x25 => eHas .any x25 (k14 (x25, ()))
noncomputable def kern_Kernel_sweep_p1 (C : Cal) (a0 : SV) (k9 : Unit → ER) (x13 : SV) : ER :=
  eNilCk a0 fun x26 => eFieldAddr Tryz.prog 58 x26 0 fun x27 => eFieldAddr Tryz.prog 40 x13 0 fun x28 => eLoad Tryz.prog 53 x27 fun x29 => eLoad Tryz.prog 3 x28 fun x30 => eCallR Tryz.prog C 24 [x29, x30] 26 fun x31 => k9 (())
noncomputable def kern_Kernel_sweep_p2 (C : Cal) (a0 : SV) (k14 : SV × Unit → ER) (x13 : SV) : ER :=
  eFieldAddr Tryz.prog 40 x13 6 fun x16 => eLoad Tryz.prog 3 x16 fun x17 => eBin Tryz.prog .eql 3 false x17 (.int .i64 0) fun x18 => eIfV x18
  (kern_Kernel_sweep_p0 C a0 k14 x13)
  (eHas .any (.bool false) (k14 ((.bool false), ())))
noncomputable def kern_Kernel_sweep_p3 (C : Cal) (a0 : SV) (k9 : Unit → ER) (s7 : SV × Unit) (x4 : SV) : ER :=
  eIndexAddrS Tryz.prog 33 x4 s7.1 fun x11 => eLoad Tryz.prog 40 x11 fun x12 => eAlloc Tryz.prog 40 fun x13 => eStore Tryz.prog 40 x13 x12 <| eJoinC (σ := SV × Unit) (fun (k14 : SV × Unit → ER) =>
  kern_Kernel_sweep_p2 C a0 k14 x13) fun (s15 : SV × Unit) =>
  eIfV s15.1
  (kern_Kernel_sweep_p1 C a0 k9 x13)
  (k9 (()))
noncomputable def kern_Kernel_sweep_p4 (C : Cal) (K : SV → ER) (a0 : SV) (k6 : SV × Unit → ER) (s7 : SV × Unit) (x4 : SV) (x5 : SV) : ER :=
  eBin Tryz.prog .lss 3 false s7.1 x5 fun x8 => eIfV x8
  (eJoinC (σ := Unit) (fun (k9 : Unit → ER) =>
  kern_Kernel_sweep_p3 C a0 k9 s7 x4) fun (s10 : Unit) =>
  eBin Tryz.prog .add 3 false s7.1 (.int .i64 1) fun x32 => eHas .any x32 (k6 (x32, ())))
  (K (.tup []))
noncomputable def kern_Kernel_sweep_e (C : Cal) (N : Nat) (a0 : SV) (K : SV → ER) : ER :=
  eNilCk a0 fun x1 => eFieldAddr Tryz.prog 58 x1 0 fun x2 => eLoad Tryz.prog 53 x2 fun x3 => eCallR Tryz.prog C 13 [x3] 33 fun x4 => eLenS Tryz.prog [33] [x4] fun x5 => eHas .any (.int .i64 0) (eIter (σ := SV × Unit) (fun (s7 : SV × Unit) (k6 : SV × Unit → ER) =>
  kern_Kernel_sweep_p4 C K a0 k6 s7 x4 x5) N ((.int .i64 0), ()))
theorem kern_Kernel_sweep_ee (C : Cal) (N : Nat) (a0 : SV) (K : SV → ER) : eBody Tryz.prog C N Tryz.f17 (Tryz.f17.body.getD .skip) kern_Kernel_sweep_ea [a0] K = kern_Kernel_sweep_e C N a0 K := by kernel_rfl
noncomputable def l17 : LeafT := fun C N args K => match args with
  | [a0] => kern_Kernel_sweep_e C N a0 K
  | _ => eF
theorem lok17 : LeafOk Tryz.prog 17 l17 := ⟨Tryz.f17, Tryz.f17.body.getD .skip, kern_Kernel_sweep_ea, Tryz.func17, by kernel_rfl, Tryz.call17, fun C N args K H e => by
  unfold l17 at e
  split at e
  · rw [kern_Kernel_sweep_ee]; exact e
  · exact eF_no e⟩

/- (*halberd/inodes.Table).Get -/
def inodes_Table_Get_ea : Ann := .two (.none) (.two (.none) (.two (.two (.none) (.two (.two (.none) (.none)) (.none))) (.two (.none) (.none))))
noncomputable def inodes_Table_Get_e (C : Cal) (N : Nat) (a0 a1 : SV) (K : SV → ER) : ER :=
  eAlloc Tryz.prog 40 fun x1 => eCallR Tryz.prog C 25 [a0, a1] 91 fun x2 => eBin Tryz.prog .eql 91 true x2 (.ptr none) fun x3 => eIfV x3
  (eBuild Tryz.prog 40 [] fun x4 => eStore Tryz.prog 40 x1 x4 <| eLoad Tryz.prog 40 x1 fun x5 => K (.tup [x5, (.bool false)]))
  (eNilCk x2 fun x6 => eLoad Tryz.prog 40 x6 fun x7 => eCallR Tryz.prog C 26 [x7] 40 fun x8 => eStore Tryz.prog 40 x1 x8 <| eLoad Tryz.prog 40 x1 fun x9 => K (.tup [x9, (.bool true)]))
theorem inodes_Table_Get_ee (C : Cal) (N : Nat) (a0 a1 : SV) (K : SV → ER) : eBody Tryz.prog C N Tryz.f18 (Tryz.f18.body.getD .skip) inodes_Table_Get_ea [a0, a1] K = inodes_Table_Get_e C N a0 a1 K := by kernel_rfl
noncomputable def l18 : LeafT := fun C N args K => match args with
  | [a0, a1] => inodes_Table_Get_e C N a0 a1 K
  | _ => eF
theorem lok18 : LeafOk Tryz.prog 18 l18 := ⟨Tryz.f18, Tryz.f18.body.getD .skip, inodes_Table_Get_ea, Tryz.func18, by kernel_rfl, Tryz.call18, fun C N args K H e => by
  unfold l18 at e
  split at e
  · rw [inodes_Table_Get_ee]; exact e
  · exact eF_no e⟩

end Go.Proofs.YtnpcjhcgbcpcoaaGreatDoor

set_option linter.unusedVariables false
set_option maxRecDepth 100000
namespace Go.Proofs.YtnpcjhcgbcpcoaaGreatDoor
open Go.Hl
/- (*halberd/tasks.Table).Get -/
def tasks_Table_Get_ea : Ann := .two (.none) (.two (.two (.none) (.two (.none) (.two (.two (.none) (.none)) (.none)))) (.two (.none) (.none)))
noncomputable def tasks_Table_Get_e (C : Cal) (N : Nat) (a0 a1 : SV) (K : SV → ER) : ER :=
  eAlloc Tryz.prog 50 fun x1 => eCallR Tryz.prog C 27 [a0, a1] 94 fun x2 => eBin Tryz.prog .neq 94 true x2 (.ptr none) fun x3 => eIfV x3
  (eNilCk x2 fun x4 => eLoad Tryz.prog 50 x4 fun x5 => eStore Tryz.prog 50 x1 x5 <| eLoad Tryz.prog 50 x1 fun x6 => K (.tup [x6, (.bool true)]))
  (eBuild Tryz.prog 50 [] fun x7 => eStore Tryz.prog 50 x1 x7 <| eLoad Tryz.prog 50 x1 fun x8 => K (.tup [x8, (.bool false)]))
theorem tasks_Table_Get_ee (C : Cal) (N : Nat) (a0 a1 : SV) (K : SV → ER) : eBody Tryz.prog C N Tryz.f19 (Tryz.f19.body.getD .skip) tasks_Table_Get_ea [a0, a1] K = tasks_Table_Get_e C N a0 a1 K := by kernel_rfl
noncomputable def l19 : LeafT := fun C N args K => match args with
  | [a0, a1] => tasks_Table_Get_e C N a0 a1 K
  | _ => eF
theorem lok19 : LeafOk Tryz.prog 19 l19 := ⟨Tryz.f19, Tryz.f19.body.getD .skip, tasks_Table_Get_ea, Tryz.func19, by kernel_rfl, Tryz.call19, fun C N args K H e => by
  unfold l19 at e
  split at e
  · rw [tasks_Table_Get_ee]; exact e
  · exact eF_no e⟩

/- container/heap.up -/
def container_heap_up_ea : Ann := .sub (.loop [(1, .any)] (.sub (.two (.none) (.two (.join (.none) (.two (.none) (.none)) [(17, .any)]) (.two (.none) (.none))))))
noncomputable def container_heap_up_p0 (C : Cal) (a0 : SV) (k5 : SV × Unit → ER) (s2 : SV × Unit) (x4 : SV) : ER :=
  eBin Tryz.prog .eql 3 false x4 s2.1 fun x7 => eIfV x7
  (eHas .any (.bool true) (k5 ((.bool true), ())))
  (eInvokeR Tryz.prog C "Less" a0 [s2.1, x4] 4 fun x8 => eUnS .not x8 fun x9 => eHas .any x9 (k5 (x9, ())))
noncomputable def container_heap_up_p1 (C : Cal) (K : SV → ER) (a0 : SV) (k1 : SV × Unit → ER) (s2 : SV × Unit) : ER :=
  eBin Tryz.prog .sub 3 false s2.1 (.int .i64 1) fun x3 => eBin Tryz.prog .quo 3 false x3 (.int .i64 2) fun x4 => eJoinC (σ := SV × Unit) (fun (k5 : SV × Unit → ER) =>
  container_heap_up_p0 C a0 k5 s2 x4) fun (s6 : SV × Unit) =>
  eIfV s6.1
  (K (.tup []))
  (eInvokeR Tryz.prog C "Swap" a0 [x4, s2.1] 0 fun x10 => eHas .any x4 (k1 (x4, ())))
noncomputable def container_heap_up_e (C : Cal) (N : Nat) (a0 a1 : SV) (K : SV → ER) : ER :=
  eHas .any a1 (eIter (σ := SV × Unit) (fun (s2 : SV × Unit) (k1 : SV × Unit → ER) =>
  container_heap_up_p1 C K a0 k1 s2) N (a1, ()))
theorem container_heap_up_ee (C : Cal) (N : Nat) (a0 a1 : SV) (K : SV → ER) : eBody Tryz.prog C N Tryz.f20 (Tryz.f20.body.getD .skip) container_heap_up_ea [a0, a1] K = container_heap_up_e C N a0 a1 K := by kernel_rfl
noncomputable def l20 : LeafT := fun C N args K => match args with
  | [a0, a1] => container_heap_up_e C N a0 a1 K
  | _ => eF
theorem lok20 : LeafOk Tryz.prog 20 l20 := ⟨Tryz.f20, Tryz.f20.body.getD .skip, container_heap_up_ea, Tryz.func20, by kernel_rfl, Tryz.call20, fun C N args K H e => by
  unfold l20 at e
  split at e
  · rw [container_heap_up_ee]; exact e
  · exact eF_no e⟩

/- halberd/kern.calls -/
def kern_calls_ea : Ann := .two (.none) (.two (.none) (.none))
noncomputable def kern_calls_p0 (K : SV → ER) (x1 : SV) : ER :=
  eBuild Tryz.prog 87 [(1, (.fn 28 [] [])), (2, (.fn 29 [] [])), (3, (.fn 30 [] [])), (4, (.fn 31 [] [])), (5, (.fn 32 [] [])), (6, (.fn 33 [] [])), (7, (.fn 34 [] [])), (8, (.fn 35 [] [])), (9, (.fn 36 [] [])), (10, (.fn 37 [] [])), (11, (.fn 38 [] [])), (12, (.fn 39 [] [])), (13, (.fn 40 [] [])), (14, (.fn 41 [] [])), (15, (.fn 42 [] [])), (16, (.fn 43 [] [])), (17, (.fn 44 [] [])), (18, (.fn 45 [] [])), (19, (.fn 46 [] [])), (20, (.fn 47 [] [])), (21, (.fn 48 [] [])), (22, (.fn 49 [] [])), (23, (.fn 50 [] [])), (24, (.fn 51 [] [])), (25, (.fn 52 [] [])), (26, (.fn 53 [] [])), (27, (.fn 54 [] [])), (28, (.fn 55 [] [])), (29, (.fn 56 [] [])), (30, (.fn 57 [] []))] fun x2 => eStore Tryz.prog 87 x1 x2 <| eLoad Tryz.prog 87 x1 fun x3 => K x3
noncomputable def kern_calls_e (C : Cal) (N : Nat) (K : SV → ER) : ER :=
  eAlloc Tryz.prog 87 fun x1 => kern_calls_p0 K x1
theorem kern_calls_ee (C : Cal) (N : Nat) (K : SV → ER) : eBody Tryz.prog C N Tryz.f21 (Tryz.f21.body.getD .skip) kern_calls_ea [] K = kern_calls_e C N  K := by kernel_rfl
noncomputable def l21 : LeafT := fun C N args K => match args with
  | [] => kern_calls_e C N  K
  | _ => eF
theorem lok21 : LeafOk Tryz.prog 21 l21 := ⟨Tryz.f21, Tryz.f21.body.getD .skip, kern_calls_ea, Tryz.func21, by kernel_rfl, Tryz.call21, fun C N args K H e => by
  unfold l21 at e
  split at e
  · rw [kern_calls_ee]; exact e
  · exact eF_no e⟩

/- (*halberd/tasks.Table).Alive -/
def tasks_Table_Alive_ea : Ann := .two (.none) (.two (.none) (.none))
noncomputable def tasks_Table_Alive_e (C : Cal) (N : Nat) (a0 a1 : SV) (K : SV → ER) : ER :=
  eCallR Tryz.prog C 58 [a0, a1] 94 fun x1 => eBin Tryz.prog .neq 94 true x1 (.ptr none) fun x2 => K x2
theorem tasks_Table_Alive_ee (C : Cal) (N : Nat) (a0 a1 : SV) (K : SV → ER) : eBody Tryz.prog C N Tryz.f22 (Tryz.f22.body.getD .skip) tasks_Table_Alive_ea [a0, a1] K = tasks_Table_Alive_e C N a0 a1 K := by kernel_rfl
noncomputable def l22 : LeafT := fun C N args K => match args with
  | [a0, a1] => tasks_Table_Alive_e C N a0 a1 K
  | _ => eF
theorem lok22 : LeafOk Tryz.prog 22 l22 := ⟨Tryz.f22, Tryz.f22.body.getD .skip, tasks_Table_Alive_ea, Tryz.func22, by kernel_rfl, Tryz.call22, fun C N args K H e => by
  unfold l22 at e
  split at e
  · rw [tasks_Table_Alive_ee]; exact e
  · exact eF_no e⟩

/- (*halberd/tasks.Table).Uses -/
def tasks_Table_Uses_ea : Ann := .two (.none) (.two (.none) (.none))
noncomputable def tasks_Table_Uses_e (C : Cal) (N : Nat) (a0 a1 : SV) (K : SV → ER) : ER :=
  eBox Tryz.prog 3 a1 fun x1 => eCallR Tryz.prog C 14 [a0] 34 fun x2 => eCallR Tryz.prog C 59 [x2, (.fn 60 [] [x1])] 4 fun x3 => K x3
theorem tasks_Table_Uses_ee (C : Cal) (N : Nat) (a0 a1 : SV) (K : SV → ER) : eBody Tryz.prog C N Tryz.f23 (Tryz.f23.body.getD .skip) tasks_Table_Uses_ea [a0, a1] K = tasks_Table_Uses_e C N a0 a1 K := by kernel_rfl
noncomputable def l23 : LeafT := fun C N args K => match args with
  | [a0, a1] => tasks_Table_Uses_e C N a0 a1 K
  | _ => eF
theorem lok23 : LeafOk Tryz.prog 23 l23 := ⟨Tryz.f23, Tryz.f23.body.getD .skip, tasks_Table_Uses_ea, Tryz.func23, by kernel_rfl, Tryz.call23, fun C N args K H e => by
  unfold l23 at e
  split at e
  · rw [tasks_Table_Uses_ee]; exact e
  · exact eF_no e⟩

/- (*halberd/inodes.Table).Free -/
def inodes_Table_Free_ea : Ann := .two (.none) (.two (.none) (.two (.sub (.two (.none) (.two (.two (.none) (.none)) (.two (.none) (.two (.two (.none) (.none)) (.none)))))) (.two (.none) (.two (.none) (.two (.none) (.none))))))
noncomputable def inodes_Table_Free_p0 (C : Cal) (K : SV → ER) (a0 : SV) (a1 : SV) (x1 : SV) : ER :=
  eNilCk x1 fun x4 => eFieldAddr Tryz.prog 40 x4 1 fun x5 => eLoad Tryz.prog 3 x5 fun x6 => eBuild Tryz.prog 40 [(1, x6)] fun x7 => eNilCk x1 fun x8 => eStore Tryz.prog 40 x8 x7 <| eNilCk a0 fun x9 => eFieldAddr Tryz.prog 64 x9 1 fun x10 => eMakeIface Tryz.prog 66 x10 fun x11 => eMakeIface Tryz.prog 3 a1 fun x12 => eCallR Tryz.prog C 15 [x11, x12] 0 fun x13 => K (.int .i64 0)
noncomputable def inodes_Table_Free_e (C : Cal) (N : Nat) (a0 a1 : SV) (K : SV → ER) : ER :=
  eCallR Tryz.prog C 25 [a0, a1] 91 fun x1 => eBin Tryz.prog .eql 91 true x1 (.ptr none) fun x2 => eIfV x2
  (K (.int .i64 2))
  (eBin Tryz.prog .eql 3 false a1 (.int .i64 1) fun x3 => eIfV x3
  (K (.int .i64 22))
  (inodes_Table_Free_p0 C K a0 a1 x1))
theorem inodes_Table_Free_ee (C : Cal) (N : Nat) (a0 a1 : SV) (K : SV → ER) : eBody Tryz.prog C N Tryz.f24 (Tryz.f24.body.getD .skip) inodes_Table_Free_ea [a0, a1] K = inodes_Table_Free_e C N a0 a1 K := by kernel_rfl
noncomputable def l24 : LeafT := fun C N args K => match args with
  | [a0, a1] => inodes_Table_Free_e C N a0 a1 K
  | _ => eF
theorem lok24 : LeafOk Tryz.prog 24 l24 := ⟨Tryz.f24, Tryz.f24.body.getD .skip, inodes_Table_Free_ea, Tryz.func24, by kernel_rfl, Tryz.call24, fun C N args K H e => by
  unfold l24 at e
  split at e
  · rw [inodes_Table_Free_ee]; exact e
  · exact eF_no e⟩

/- (*halberd/inodes.Table).at -/
def inodes_Table_at_ea : Ann := .two (.none) (.two (.join (.none) (.two (.two (.none) (.none)) (.none)) [(24, .any)]) (.two (.none) (.none)))
noncomputable def inodes_Table_at_p0 (a0 : SV) (a1 : SV) (k1 : SV × Unit → ER) : ER :=
  eNilCk a0 fun x6 => eFieldAddr Tryz.prog 64 x6 0 fun x7 => eIndexAddrS Tryz.prog 61 x7 a1 fun x8 => eFieldAddr Tryz.prog 40 x8 2 fun x9 => eLoad Tryz.prog 3 x9 fun x10 => eBin Tryz.prog .eql 3 false x10 (.int .i64 0) fun x11 => eHas .any x11 (k1 (x11, ()))
noncomputable def inodes_Table_at_p1 (a0 : SV) (a1 : SV) (k1 : SV × Unit → ER) : ER :=
  eBin Tryz.prog .lss 3 false a1 (.int .i64 1) fun x4 => eIfV x4
  (eHas .any (.bool true) (k1 ((.bool true), ())))
  (eBin Tryz.prog .geq 3 false a1 (.int .i64 25) fun x5 => eIfV x5
  (eHas .any (.bool true) (k1 ((.bool true), ())))
  (inodes_Table_at_p0 a0 a1 k1))
noncomputable def inodes_Table_at_e (C : Cal) (N : Nat) (a0 a1 : SV) (K : SV → ER) : ER :=
  eJoinC (σ := SV × Unit) (fun (k1 : SV × Unit → ER) =>
  eBin Tryz.prog .eql 53 true a0 (.ptr none) fun x3 => eIfV x3
  (eHas .any (.bool true) (k1 ((.bool true), ())))
  (inodes_Table_at_p1 a0 a1 k1)) fun (s2 : SV × Unit) =>
  eIfV s2.1
  (K (.ptr none))
  (eNilCk a0 fun x12 => eFieldAddr Tryz.prog 64 x12 0 fun x13 => eIndexAddrS Tryz.prog 61 x13 a1 fun x14 => K x14)
theorem inodes_Table_at_ee (C : Cal) (N : Nat) (a0 a1 : SV) (K : SV → ER) : eBody Tryz.prog C N Tryz.f25 (Tryz.f25.body.getD .skip) inodes_Table_at_ea [a0, a1] K = inodes_Table_at_e C N a0 a1 K := by kernel_rfl
noncomputable def l25 : LeafT := fun C N args K => match args with
  | [a0, a1] => inodes_Table_at_e C N a0 a1 K
  | _ => eF
theorem lok25 : LeafOk Tryz.prog 25 l25 := ⟨Tryz.f25, Tryz.f25.body.getD .skip, inodes_Table_at_ea, Tryz.func25, by kernel_rfl, Tryz.call25, fun C N args K H e => by
  unfold l25 at e
  split at e
  · rw [inodes_Table_at_ee]; exact e
  · exact eF_no e⟩

/- halberd/inodes.own -/
def inodes_own_ea : Ann := .two (.none) (.two (.ord [0, 3, 1, 4, 2, 6, 5, 7, 8, 9]) (.two (.none) (.none)))
noncomputable def inodes_own_p0 (C : Cal) (K : SV → ER) (x1 : SV) (x2 : SV) : ER :=
  eFieldAddr Tryz.prog 40 x1 8 fun x3 => eFieldAddr Tryz.prog 40 x1 9 fun x4 => eLoad Tryz.prog 25 x3 fun x5 => eLoad Tryz.prog 38 x4 fun x6 => eCallR Tryz.prog C 65 [x5] 25 fun x7 => fun H => eLoadF Tryz.prog 38 x4 x6 H && (eFieldAddr Tryz.prog 40 x1 8 fun x8 => eCallR Tryz.prog C 66 [x6] 38 fun x9 => eStore Tryz.prog 25 x8 x7 <| eFieldAddr Tryz.prog 40 x1 9 fun x10 => eStore Tryz.prog 38 x10 x9 <| eLoad Tryz.prog 40 x1 fun x11 => eStore Tryz.prog 40 x2 x11 <| eLoad Tryz.prog 40 x2 fun x12 => K x12) H
noncomputable def inodes_own_e (C : Cal) (N : Nat) (a0 : SV) (K : SV → ER) : ER :=
  eBox Tryz.prog 40 a0 fun x1 => eAlloc Tryz.prog 40 fun x2 => inodes_own_p0 C K x1 x2
theorem inodes_own_ee (C : Cal) (N : Nat) (a0 : SV) (K : SV → ER) : eBody Tryz.prog C N Tryz.f26 (Tryz.f26.body.getD .skip) inodes_own_ea [a0] K = inodes_own_e C N a0 K := by kernel_rfl
noncomputable def l26 : LeafT := fun C N args K => match args with
  | [a0] => inodes_own_e C N a0 K
  | _ => eF
theorem lok26 : LeafOk Tryz.prog 26 l26 := ⟨Tryz.f26, Tryz.f26.body.getD .skip, inodes_own_ea, Tryz.func26, by kernel_rfl, Tryz.call26, fun C N args K H e => by
  unfold l26 at e
  split at e
  · rw [inodes_own_ee]; exact e
  · exact eF_no e⟩

end Go.Proofs.YtnpcjhcgbcpcoaaGreatDoor

set_option linter.unusedVariables false
set_option maxRecDepth 100000
namespace Go.Proofs.YtnpcjhcgbcpcoaaGreatDoor
open Go.Hl
/- (*halberd/tasks.Table).at -/
def tasks_Table_at_ea : Ann := .two (.none) (.two (.join (.none) (.two (.two (.none) (.none)) (.none)) [(24, .any)]) (.two (.none) (.none)))
noncomputable def tasks_Table_at_p0 (a0 : SV) (a1 : SV) (k1 : SV × Unit → ER) : ER :=
  eNilCk a0 fun x6 => eFieldAddr Tryz.prog 69 x6 0 fun x7 => eIndexAddrS Tryz.prog 67 x7 a1 fun x8 => eFieldAddr Tryz.prog 50 x8 0 fun x9 => eLoad Tryz.prog 3 x9 fun x10 => eBin Tryz.prog .eql 3 false x10 (.int .i64 0) fun x11 => eHas .any x11 (k1 (x11, ()))
noncomputable def tasks_Table_at_p1 (a0 : SV) (a1 : SV) (k1 : SV × Unit → ER) : ER :=
  eBin Tryz.prog .lss 3 false a1 (.int .i64 1) fun x4 => eIfV x4
  (eHas .any (.bool true) (k1 ((.bool true), ())))
  (eBin Tryz.prog .geq 3 false a1 (.int .i64 9) fun x5 => eIfV x5
  (eHas .any (.bool true) (k1 ((.bool true), ())))
  (tasks_Table_at_p0 a0 a1 k1))
noncomputable def tasks_Table_at_e (C : Cal) (N : Nat) (a0 a1 : SV) (K : SV → ER) : ER :=
  eJoinC (σ := SV × Unit) (fun (k1 : SV × Unit → ER) =>
  eBin Tryz.prog .eql 55 true a0 (.ptr none) fun x3 => eIfV x3
  (eHas .any (.bool true) (k1 ((.bool true), ())))
  (tasks_Table_at_p1 a0 a1 k1)) fun (s2 : SV × Unit) =>
  eIfV s2.1
  (K (.ptr none))
  (eNilCk a0 fun x12 => eFieldAddr Tryz.prog 69 x12 0 fun x13 => eIndexAddrS Tryz.prog 67 x13 a1 fun x14 => K x14)
theorem tasks_Table_at_ee (C : Cal) (N : Nat) (a0 a1 : SV) (K : SV → ER) : eBody Tryz.prog C N Tryz.f27 (Tryz.f27.body.getD .skip) tasks_Table_at_ea [a0, a1] K = tasks_Table_at_e C N a0 a1 K := by kernel_rfl
noncomputable def l27 : LeafT := fun C N args K => match args with
  | [a0, a1] => tasks_Table_at_e C N a0 a1 K
  | _ => eF
theorem lok27 : LeafOk Tryz.prog 27 l27 := ⟨Tryz.f27, Tryz.f27.body.getD .skip, tasks_Table_at_ea, Tryz.func27, by kernel_rfl, Tryz.call27, fun C N args K H e => by
  unfold l27 at e
  split at e
  · rw [tasks_Table_at_ee]; exact e
  · exact eF_no e⟩

/- (*halberd/kern.step).open -/
def kern_step_open_ea : Ann := .two (.none) (.two (.none) (.two (.ord [0, 1, 2, 3, 4, 5, 6, 14, 7, 8, 9, 10, 11, 12, 13, 15]) (.two (.join (.none) (.two (.two (.none) (.none)) (.none)) [(50, .any)]) (.join (.ord [6, 7, 8, 9, 10, 11, 0, 1, 2, 3, 4, 5, 12, 13, 14, 15, 16, 17, 18]) (.two (.two (.none) (.two (.two (.none) (.none)) (.none))) (.two (.none) (.two (.two (.ord [7, 0, 1, 2, 3, 4, 5, 6, 8, 9, 10, 11, 12, 13, 14, 15]) (.two (.none) (.two (.join (.ord [0, 1, 2, 3, 5, 18, 23, 25, 6, 7, 19, 20, 22, 24, 27, 4, 8, 9, 10, 11, 12, 13, 14, 15, 16, 17, 21, 26, 28, 29, 30, 31]) (.two (.two (.none) (.two (.two (.none) (.none)) (.none))) (.two (.ord [2, 0, 1, 3, 5, 4, 6, 7, 8]) (.two (.none) (.none)))) [(12, .any)]) (.none)))) (.two (.join (.ord [0, 1, 2, 3, 9, 13, 4, 5, 6, 8, 10, 12, 14, 16, 18, 7, 11, 15, 17, 19, 20, 21, 22]) (.two (.none) (.two (.two (.none) (.none)) (.none))) [(13, .any)]) (.two (.ord [2, 0, 1, 3, 6, 7, 8, 9, 10, 4, 5, 11, 12, 13]) (.two (.none) (.none))))))) [(7, .any), (8, .any)]))))
noncomputable def kern_step_open_p0 (C : Cal) (x1 : SV) (k24 : SV × Unit → ER) : ER :=
  eLoad Tryz.prog 70 x1 fun x27 => eNilCk x27 fun x28 => eFieldAddr Tryz.prog 76 x28 0 fun x29 => eFieldAddr Tryz.prog 31 x29 3 fun x30 => eLoad Tryz.prog 3 x30 fun x31 => eCallR Tryz.prog C 68 [x31, (.int .i64 0), (.int .i64 511)] 4 fun x32 => eUnS .not x32 fun x33 => eHas .any x33 (k24 (x33, ()))
noncomputable def kern_step_open_p1 (C : Cal) (x1 : SV) (k34 : SV × SV × Unit → ER) : ER :=
  eLoad Tryz.prog 70 x1 fun x37 => eLoad Tryz.prog 70 x1 fun x38 => eNilCk x38 fun x39 => eFieldAddr Tryz.prog 76 x39 0 fun x40 => eFieldAddr Tryz.prog 31 x40 5 fun x41 => eLoad Tryz.prog 9 x41 fun x42 => eCallR Tryz.prog C 69 [x37, x42, (.bool true)] 114 fun x43 => eExtract x43 0 fun x44 => eExtract x43 1 fun x45 => eAlloc Tryz.prog 113 fun x46 => eStore Tryz.prog 113 x46 x44 <| eHas .any x46 (eHas .any x45 (k34 (x46, x45, ())))
noncomputable def kern_step_open_p2 (C : Cal) (x1 : SV) (k34 : SV × SV × Unit → ER) (x23 : SV) : ER :=
  eUnS .not x23 fun x47 => eLoad Tryz.prog 70 x1 fun x48 => eLoad Tryz.prog 70 x1 fun x49 => eNilCk x49 fun x50 => eFieldAddr Tryz.prog 76 x50 0 fun x51 => eFieldAddr Tryz.prog 31 x51 5 fun x52 => eLoad Tryz.prog 9 x52 fun x53 => eCallR Tryz.prog C 69 [x48, x53, x47] 114 fun x54 => eExtract x54 0 fun x55 => eExtract x54 1 fun x56 => eAlloc Tryz.prog 113 fun x57 => eStore Tryz.prog 113 x57 x55 <| eHas .any x57 (eHas .any x56 (k34 (x57, x56, ())))
noncomputable def kern_step_open_p3 (C : Cal) (x1 : SV) (x8 : SV) (k79 : SV × Unit → ER) (x82 : SV) (x83 : SV) (x86 : SV) (x87 : SV) (x88 : SV) (x89 : SV) (x90 : SV) (x91 : SV) (x99 : SV) : ER :=
  fun H => eLoadF Tryz.prog 70 x1 x90 H && (fun H => eLoadF Tryz.prog 3 x83 x89 H && (fun H => eLoadF Tryz.prog 70 x1 x88 H && (fun H => eLoadF Tryz.prog 3 x82 x86 H && (eCallR Tryz.prog C 71 [x87, (.int .i64 40)] 26 fun x100 => fun H => eLoadF Tryz.prog 70 x1 x90 H && (fun H => eLoadF Tryz.prog 3 x83 x89 H && (fun H => eLoadF Tryz.prog 70 x1 x88 H && (eCallR Tryz.prog C 72 [x88, x89, x8] 26 fun x101 => fun H => eLoadF Tryz.prog 70 x1 x90 H && (eCallR Tryz.prog C 73 [x90] 26 fun x102 => eBuildSlice Tryz.prog 164 5 [(0, x91), (1, x99), (2, x100), (3, x101), (4, x102)] fun x103 => eCallR Tryz.prog C 70 [x103] 26 fun x104 => eHas .any x104 (k79 (x104, ()))) H) H) H) H) H) H) H) H
noncomputable def kern_step_open_p4 (C : Cal) (x1 : SV) (x8 : SV) (k79 : SV × Unit → ER) (x82 : SV) (x83 : SV) (x86 : SV) (x87 : SV) (x88 : SV) (x89 : SV) (x90 : SV) (x91 : SV) : ER :=
  eLoad Tryz.prog 70 x1 fun x92 => eNilCk x92 fun x93 => eFieldAddr Tryz.prog 76 x93 0 fun x94 => eFieldAddr Tryz.prog 31 x94 2 fun x95 => eLoad Tryz.prog 3 x95 fun x96 => eBin Tryz.prog .and 3 false x96 (.int .i64 18) fun x97 => eBin Tryz.prog .neq 3 false x97 (.int .i64 0) fun x98 => eCallR Tryz.prog C 71 [x98, (.int .i64 21)] 26 fun x99 => kern_step_open_p3 C x1 x8 k79 x82 x83 x86 x87 x88 x89 x90 x91 x99
noncomputable def kern_step_open_p5 (C : Cal) (x1 : SV) (x8 : SV) (k79 : SV × Unit → ER) (x82 : SV) (x83 : SV) (x86 : SV) (x87 : SV) (x88 : SV) (x89 : SV) (x90 : SV) (x91 : SV) (x105 : SV) : ER :=
  fun H => eLoadF Tryz.prog 70 x1 x90 H && (fun H => eLoadF Tryz.prog 3 x83 x89 H && (fun H => eLoadF Tryz.prog 70 x1 x88 H && (fun H => eLoadF Tryz.prog 3 x82 x86 H && (eCallR Tryz.prog C 71 [x87, (.int .i64 40)] 26 fun x106 => fun H => eLoadF Tryz.prog 70 x1 x90 H && (fun H => eLoadF Tryz.prog 3 x83 x89 H && (fun H => eLoadF Tryz.prog 70 x1 x88 H && (eCallR Tryz.prog C 72 [x88, x89, x8] 26 fun x107 => fun H => eLoadF Tryz.prog 70 x1 x90 H && (eCallR Tryz.prog C 73 [x90] 26 fun x108 => eBuildSlice Tryz.prog 164 5 [(0, x91), (1, x105), (2, x106), (3, x107), (4, x108)] fun x109 => eCallR Tryz.prog C 70 [x109] 26 fun x110 => eHas .any x110 (k79 (x110, ()))) H) H) H) H) H) H) H) H
noncomputable def kern_step_open_p6 (C : Cal) (x1 : SV) (x8 : SV) (k79 : SV × Unit → ER) (x23 : SV) (x81 : SV) (x82 : SV) (x83 : SV) (x84 : SV) (x85 : SV) (x86 : SV) (x87 : SV) (x88 : SV) (x89 : SV) : ER :=
  eLoad Tryz.prog 70 x1 fun x90 => eCallR Tryz.prog C 71 [x23, (.int .i64 17)] 26 fun x91 => fun H => eLoadF Tryz.prog 70 x1 x90 H && (fun H => eLoadF Tryz.prog 3 x83 x89 H && (fun H => eLoadF Tryz.prog 70 x1 x88 H && (fun H => eLoadF Tryz.prog 3 x82 x86 H && (fun H => eLoadF Tryz.prog 3 x81 x84 H && (eIfV x85
  (kern_step_open_p4 C x1 x8 k79 x82 x83 x86 x87 x88 x89 x90 x91)
  (eCallR Tryz.prog C 71 [(.bool false), (.int .i64 21)] 26 fun x105 => kern_step_open_p5 C x1 x8 k79 x82 x83 x86 x87 x88 x89 x90 x91 x105)) H) H) H) H) H
noncomputable def kern_step_open_p7 (C : Cal) (x1 : SV) (x8 : SV) (k79 : SV × Unit → ER) (x23 : SV) (x78 : SV) : ER :=
  eFieldAddr Tryz.prog 40 x78 2 fun x81 => eFieldAddr Tryz.prog 40 x78 2 fun x82 => eFieldAddr Tryz.prog 40 x78 0 fun x83 => eLoad Tryz.prog 3 x81 fun x84 => eBin Tryz.prog .eql 3 false x84 (.int .i64 2) fun x85 => eLoad Tryz.prog 3 x82 fun x86 => eBin Tryz.prog .eql 3 false x86 (.int .i64 3) fun x87 => eLoad Tryz.prog 70 x1 fun x88 => eLoad Tryz.prog 3 x83 fun x89 => kern_step_open_p6 C x1 x8 k79 x23 x81 x82 x83 x84 x85 x86 x87 x88 x89
noncomputable def kern_step_open_p8 (C : Cal) (x1 : SV) (x8 : SV) (k79 : SV × Unit → ER) (x112 : SV) (x113 : SV) (x116 : SV) (x117 : SV) (x118 : SV) (x119 : SV) (x120 : SV) (x121 : SV) (x129 : SV) : ER :=
  fun H => eLoadF Tryz.prog 70 x1 x120 H && (fun H => eLoadF Tryz.prog 3 x113 x119 H && (fun H => eLoadF Tryz.prog 70 x1 x118 H && (fun H => eLoadF Tryz.prog 3 x112 x116 H && (eCallR Tryz.prog C 71 [x117, (.int .i64 40)] 26 fun x130 => fun H => eLoadF Tryz.prog 70 x1 x120 H && (fun H => eLoadF Tryz.prog 3 x113 x119 H && (fun H => eLoadF Tryz.prog 70 x1 x118 H && (eCallR Tryz.prog C 72 [x118, x119, x8] 26 fun x131 => fun H => eLoadF Tryz.prog 70 x1 x120 H && (eCallR Tryz.prog C 73 [x120] 26 fun x132 => eBuildSlice Tryz.prog 164 5 [(0, x121), (1, x129), (2, x130), (3, x131), (4, x132)] fun x133 => eCallR Tryz.prog C 70 [x133] 26 fun x134 => eHas .any x134 (k79 (x134, ()))) H) H) H) H) H) H) H) H
noncomputable def kern_step_open_p9 (C : Cal) (x1 : SV) (x8 : SV) (k79 : SV × Unit → ER) (x112 : SV) (x113 : SV) (x116 : SV) (x117 : SV) (x118 : SV) (x119 : SV) (x120 : SV) (x121 : SV) : ER :=
  eLoad Tryz.prog 70 x1 fun x122 => eNilCk x122 fun x123 => eFieldAddr Tryz.prog 76 x123 0 fun x124 => eFieldAddr Tryz.prog 31 x124 2 fun x125 => eLoad Tryz.prog 3 x125 fun x126 => eBin Tryz.prog .and 3 false x126 (.int .i64 18) fun x127 => eBin Tryz.prog .neq 3 false x127 (.int .i64 0) fun x128 => eCallR Tryz.prog C 71 [x128, (.int .i64 21)] 26 fun x129 => kern_step_open_p8 C x1 x8 k79 x112 x113 x116 x117 x118 x119 x120 x121 x129
noncomputable def kern_step_open_p10 (C : Cal) (x1 : SV) (x8 : SV) (k79 : SV × Unit → ER) (x112 : SV) (x113 : SV) (x116 : SV) (x117 : SV) (x118 : SV) (x119 : SV) (x120 : SV) (x121 : SV) (x135 : SV) : ER :=
  fun H => eLoadF Tryz.prog 70 x1 x120 H && (fun H => eLoadF Tryz.prog 3 x113 x119 H && (fun H => eLoadF Tryz.prog 70 x1 x118 H && (fun H => eLoadF Tryz.prog 3 x112 x116 H && (eCallR Tryz.prog C 71 [x117, (.int .i64 40)] 26 fun x136 => fun H => eLoadF Tryz.prog 70 x1 x120 H && (fun H => eLoadF Tryz.prog 3 x113 x119 H && (fun H => eLoadF Tryz.prog 70 x1 x118 H && (eCallR Tryz.prog C 72 [x118, x119, x8] 26 fun x137 => fun H => eLoadF Tryz.prog 70 x1 x120 H && (eCallR Tryz.prog C 73 [x120] 26 fun x138 => eBuildSlice Tryz.prog 164 5 [(0, x121), (1, x135), (2, x136), (3, x137), (4, x138)] fun x139 => eCallR Tryz.prog C 70 [x139] 26 fun x140 => eHas .any x140 (k79 (x140, ()))) H) H) H) H) H) H) H) H
noncomputable def kern_step_open_p11 (C : Cal) (x1 : SV) (x8 : SV) (k79 : SV × Unit → ER) (x111 : SV) (x112 : SV) (x113 : SV) (x114 : SV) (x115 : SV) (x116 : SV) (x117 : SV) (x118 : SV) (x119 : SV) (x120 : SV) : ER :=
  eCallR Tryz.prog C 71 [(.bool false), (.int .i64 17)] 26 fun x121 => fun H => eLoadF Tryz.prog 70 x1 x120 H && (fun H => eLoadF Tryz.prog 3 x113 x119 H && (fun H => eLoadF Tryz.prog 70 x1 x118 H && (fun H => eLoadF Tryz.prog 3 x112 x116 H && (fun H => eLoadF Tryz.prog 3 x111 x114 H && (eIfV x115
  (kern_step_open_p9 C x1 x8 k79 x112 x113 x116 x117 x118 x119 x120 x121)
  (eCallR Tryz.prog C 71 [(.bool false), (.int .i64 21)] 26 fun x135 => kern_step_open_p10 C x1 x8 k79 x112 x113 x116 x117 x118 x119 x120 x121 x135)) H) H) H) H) H
noncomputable def kern_step_open_p12 (C : Cal) (x1 : SV) (x8 : SV) (k79 : SV × Unit → ER) (x78 : SV) : ER :=
  eFieldAddr Tryz.prog 40 x78 2 fun x111 => eFieldAddr Tryz.prog 40 x78 2 fun x112 => eFieldAddr Tryz.prog 40 x78 0 fun x113 => eLoad Tryz.prog 3 x111 fun x114 => eBin Tryz.prog .eql 3 false x114 (.int .i64 2) fun x115 => eLoad Tryz.prog 3 x112 fun x116 => eBin Tryz.prog .eql 3 false x116 (.int .i64 3) fun x117 => eLoad Tryz.prog 70 x1 fun x118 => eLoad Tryz.prog 3 x113 fun x119 => eLoad Tryz.prog 70 x1 fun x120 => kern_step_open_p11 C x1 x8 k79 x111 x112 x113 x114 x115 x116 x117 x118 x119 x120
noncomputable def kern_step_open_p13 (C : Cal) (K : SV → ER) (x1 : SV) (x65 : SV) (x78 : SV) (x143 : SV) (x144 : SV) (x145 : SV) : ER :=
  eLoad Tryz.prog 3 x65 fun x146 => eCallR Tryz.prog C 75 [x144, x145] 126 fun x147 => fun H => eLoadF Tryz.prog 3 x65 x146 H && (fun H => eLoadF Tryz.prog 70 x1 x143 H && (eCallR Tryz.prog C 76 [x146] 126 fun x148 => fun H => eLoadF Tryz.prog 70 x1 x143 H && (eBuildSlice Tryz.prog 166 2 [(0, x147), (1, x148)] fun x149 => eCallR Tryz.prog C 74 [x143, (.int .i64 1), x149] 0 fun x150 => eLoad Tryz.prog 70 x1 fun x151 => eCallR Tryz.prog C 77 [x151, (.fn 78 [] [x1, x78, x65])] 26 fun x152 => K x152) H) H) H
noncomputable def kern_step_open_p14 (C : Cal) (K : SV → ER) (x1 : SV) (s80 : SV × Unit) (x65 : SV) (x78 : SV) : ER :=
  eBin Tryz.prog .neq 26 false s80.1 (.int .i64 0) fun x141 => eIfV x141
  (K s80.1)
  (eFieldAddr Tryz.prog 40 x78 0 fun x142 => eLoad Tryz.prog 70 x1 fun x143 => eLoad Tryz.prog 70 x1 fun x144 => eLoad Tryz.prog 3 x142 fun x145 => kern_step_open_p13 C K x1 x65 x78 x143 x144 x145)
noncomputable def kern_step_open_p15 (C : Cal) (K : SV → ER) (x1 : SV) (x8 : SV) (x16 : SV) (x23 : SV) (x65 : SV) (x78 : SV) : ER :=
  eJoinC (σ := SV × Unit) (fun (k79 : SV × Unit → ER) =>
  eIfV x16
  (kern_step_open_p7 C x1 x8 k79 x23 x78)
  (kern_step_open_p12 C x1 x8 k79 x78)) fun (s80 : SV × Unit) =>
  kern_step_open_p14 C K x1 s80 x65 x78
noncomputable def kern_step_open_p16 (C : Cal) (x1 : SV) (k153 : SV × Unit → ER) (x157 : SV) (x160 : SV) (x161 : SV) (x162 : SV) (x163 : SV) (x164 : SV) (x165 : SV) : ER :=
  fun H => eLoadF Tryz.prog 70 x1 x163 H && (fun H => eLoadF Tryz.prog 70 x1 x162 H && (fun H => eLoadF Tryz.prog 3 x157 x161 H && (fun H => eLoadF Tryz.prog 70 x1 x160 H && (eCallR Tryz.prog C 81 [x160, x161] 26 fun x166 => fun H => eLoadF Tryz.prog 70 x1 x163 H && (fun H => eLoadF Tryz.prog 70 x1 x162 H && (eCallR Tryz.prog C 82 [x162] 26 fun x167 => fun H => eLoadF Tryz.prog 70 x1 x163 H && (eCallR Tryz.prog C 73 [x163] 26 fun x168 => eBuildSlice Tryz.prog 164 5 [(0, x164), (1, x165), (2, x166), (3, x167), (4, x168)] fun x169 => eCallR Tryz.prog C 70 [x169] 26 fun x170 => eHas .any x170 (k153 (x170, ()))) H) H) H) H) H) H) H
noncomputable def kern_step_open_p17 (C : Cal) (x1 : SV) (k153 : SV × Unit → ER) (x156 : SV) (x157 : SV) (x158 : SV) (x159 : SV) (x160 : SV) (x161 : SV) (x162 : SV) : ER :=
  eLoad Tryz.prog 70 x1 fun x163 => eCallR Tryz.prog C 71 [(.bool true), (.int .i64 2)] 26 fun x164 => fun H => eLoadF Tryz.prog 70 x1 x163 H && (fun H => eLoadF Tryz.prog 70 x1 x162 H && (fun H => eLoadF Tryz.prog 3 x157 x161 H && (fun H => eLoadF Tryz.prog 70 x1 x160 H && (fun H => eLoadF Tryz.prog 3 x156 x159 H && (fun H => eLoadF Tryz.prog 70 x1 x158 H && (eCallR Tryz.prog C 72 [x158, x159, (.int .i64 2)] 26 fun x165 => kern_step_open_p16 C x1 k153 x157 x160 x161 x162 x163 x164 x165) H) H) H) H) H) H
noncomputable def kern_step_open_p18 (C : Cal) (x1 : SV) (s35 : SV × SV × Unit) (k153 : SV × Unit → ER) : ER :=
  eFieldAddr Tryz.prog 113 s35.1 0 fun x156 => eFieldAddr Tryz.prog 113 s35.1 0 fun x157 => eLoad Tryz.prog 70 x1 fun x158 => eLoad Tryz.prog 3 x156 fun x159 => eLoad Tryz.prog 70 x1 fun x160 => eLoad Tryz.prog 3 x157 fun x161 => eLoad Tryz.prog 70 x1 fun x162 => kern_step_open_p17 C x1 k153 x156 x157 x158 x159 x160 x161 x162
noncomputable def kern_step_open_p19 (C : Cal) (x1 : SV) (k153 : SV × Unit → ER) (x173 : SV) (x178 : SV) (x179 : SV) (x180 : SV) (x181 : SV) (x182 : SV) (x183 : SV) : ER :=
  fun H => eLoadF Tryz.prog 70 x1 x181 H && (fun H => eLoadF Tryz.prog 70 x1 x180 H && (fun H => eLoadF Tryz.prog 3 x173 x179 H && (fun H => eLoadF Tryz.prog 70 x1 x178 H && (eCallR Tryz.prog C 81 [x178, x179] 26 fun x184 => fun H => eLoadF Tryz.prog 70 x1 x181 H && (fun H => eLoadF Tryz.prog 70 x1 x180 H && (eCallR Tryz.prog C 82 [x180] 26 fun x185 => fun H => eLoadF Tryz.prog 70 x1 x181 H && (eCallR Tryz.prog C 73 [x181] 26 fun x186 => eBuildSlice Tryz.prog 164 5 [(0, x182), (1, x183), (2, x184), (3, x185), (4, x186)] fun x187 => eCallR Tryz.prog C 70 [x187] 26 fun x188 => eHas .any x188 (k153 (x188, ()))) H) H) H) H) H) H) H
noncomputable def kern_step_open_p20 (C : Cal) (x1 : SV) (k153 : SV × Unit → ER) (x172 : SV) (x173 : SV) (x175 : SV) (x176 : SV) (x177 : SV) (x178 : SV) (x179 : SV) : ER :=
  eLoad Tryz.prog 70 x1 fun x180 => eLoad Tryz.prog 70 x1 fun x181 => eCallR Tryz.prog C 71 [x175, (.int .i64 2)] 26 fun x182 => fun H => eLoadF Tryz.prog 70 x1 x181 H && (fun H => eLoadF Tryz.prog 70 x1 x180 H && (fun H => eLoadF Tryz.prog 3 x173 x179 H && (fun H => eLoadF Tryz.prog 70 x1 x178 H && (fun H => eLoadF Tryz.prog 3 x172 x177 H && (fun H => eLoadF Tryz.prog 70 x1 x176 H && (eCallR Tryz.prog C 72 [x176, x177, (.int .i64 2)] 26 fun x183 => kern_step_open_p19 C x1 k153 x173 x178 x179 x180 x181 x182 x183) H) H) H) H) H) H
noncomputable def kern_step_open_p21 (C : Cal) (x1 : SV) (s35 : SV × SV × Unit) (k153 : SV × Unit → ER) : ER :=
  eFieldAddr Tryz.prog 113 s35.1 1 fun x171 => eFieldAddr Tryz.prog 113 s35.1 0 fun x172 => eFieldAddr Tryz.prog 113 s35.1 0 fun x173 => eLoad Tryz.prog 9 x171 fun x174 => eBin Tryz.prog .eql 9 false x174 (.str []) fun x175 => eLoad Tryz.prog 70 x1 fun x176 => eLoad Tryz.prog 3 x172 fun x177 => eLoad Tryz.prog 70 x1 fun x178 => eLoad Tryz.prog 3 x173 fun x179 => kern_step_open_p20 C x1 k153 x172 x173 x175 x176 x177 x178 x179
noncomputable def kern_step_open_p22 (C : Cal) (K : SV → ER) (x1 : SV) (s35 : SV × SV × Unit) (x65 : SV) (x191 : SV) (x194 : SV) (x197 : SV) (x198 : SV) (x199 : SV) : ER :=
  fun H => eLoadF Tryz.prog 3 x197 x198 H && (fun H => eLoadF Tryz.prog 70 x1 x194 H && (fun H => eLoadF Tryz.prog 70 x1 x191 H && (eCallR Tryz.prog C 76 [(.int .i64 1)] 126 fun x200 => fun H => eLoadF Tryz.prog 3 x197 x198 H && (fun H => eLoadF Tryz.prog 70 x1 x194 H && (fun H => eLoadF Tryz.prog 70 x1 x191 H && (eCallR Tryz.prog C 76 [x198] 126 fun x201 => fun H => eLoadF Tryz.prog 70 x1 x191 H && (eBuildSlice Tryz.prog 166 3 [(0, x199), (1, x200), (2, x201)] fun x202 => eCallR Tryz.prog C 74 [x191, (.int .i64 3), x202] 0 fun x203 => eLoad Tryz.prog 70 x1 fun x204 => eCallR Tryz.prog C 77 [x204, (.fn 83 [] [x1, s35.1, x65])] 26 fun x205 => K x205) H) H) H) H) H) H) H
noncomputable def kern_step_open_p23 (C : Cal) (K : SV → ER) (x1 : SV) (s35 : SV × SV × Unit) (x65 : SV) : ER :=
  eFieldAddr Tryz.prog 113 s35.1 0 fun x190 => eLoad Tryz.prog 70 x1 fun x191 => eLoad Tryz.prog 70 x1 fun x192 => eLoad Tryz.prog 3 x190 fun x193 => eLoad Tryz.prog 70 x1 fun x194 => eNilCk x194 fun x195 => eFieldAddr Tryz.prog 76 x195 0 fun x196 => eFieldAddr Tryz.prog 31 x196 3 fun x197 => eLoad Tryz.prog 3 x197 fun x198 => eCallR Tryz.prog C 75 [x192, x193] 126 fun x199 => kern_step_open_p22 C K x1 s35 x65 x191 x194 x197 x198 x199
noncomputable def kern_step_open_p24 (C : Cal) (K : SV → ER) (x1 : SV) (s35 : SV × SV × Unit) (x16 : SV) (x65 : SV) : ER :=
  eJoinC (σ := SV × Unit) (fun (k153 : SV × Unit → ER) =>
  eUnS .not x16 fun x155 => eIfV x155
  (kern_step_open_p18 C x1 s35 k153)
  (kern_step_open_p21 C x1 s35 k153)) fun (s154 : SV × Unit) =>
  eBin Tryz.prog .neq 26 false s154.1 (.int .i64 0) fun x189 => eIfV x189
  (K s154.1)
  (kern_step_open_p23 C K x1 s35 x65)
noncomputable def kern_step_open_p25 (C : Cal) (K : SV → ER) (x1 : SV) (x8 : SV) (s35 : SV × SV × Unit) (x16 : SV) (x23 : SV) (x65 : SV) (x66 : SV) : ER :=
  eLoad Tryz.prog 70 x1 fun x67 => eNilCk x67 fun x68 => eFieldAddr Tryz.prog 76 x68 1 fun x69 => eLoad Tryz.prog 23 x69 fun x70 => eNilCk x70 fun x71 => eFieldAddr Tryz.prog 58 x71 0 fun x72 => eLoad Tryz.prog 53 x72 fun x73 => eLoad Tryz.prog 3 x66 fun x74 => eCallR Tryz.prog C 18 [x73, x74] 77 fun x75 => eExtract x75 0 fun x76 => eExtract x75 1 fun x77 => eAlloc Tryz.prog 40 fun x78 => eStore Tryz.prog 40 x78 x76 <| eIfV x77
  (kern_step_open_p15 C K x1 x8 x16 x23 x65 x78)
  (kern_step_open_p24 C K x1 s35 x16 x65)
noncomputable def kern_step_open_p26 (C : Cal) (K : SV → ER) (x1 : SV) (x8 : SV) (s35 : SV × SV × Unit) (x16 : SV) (x23 : SV) : ER :=
  eLoad Tryz.prog 70 x1 fun x59 => eNilCk x59 fun x60 => eFieldAddr Tryz.prog 76 x60 0 fun x61 => eFieldAddr Tryz.prog 31 x61 2 fun x62 => eLoad Tryz.prog 3 x62 fun x63 => eBin Tryz.prog .and 3 false x63 (.int .i64 3) fun x64 => eAlloc Tryz.prog 3 fun x65 => eStore Tryz.prog 3 x65 x64 <| eFieldAddr Tryz.prog 113 s35.1 2 fun x66 => kern_step_open_p25 C K x1 x8 s35 x16 x23 x65 x66
noncomputable def kern_step_open_p27 (C : Cal) (K : SV → ER) (x1 : SV) (x8 : SV) (x16 : SV) (x23 : SV) : ER :=
  eJoinC (σ := SV × SV × Unit) (fun (k34 : SV × SV × Unit → ER) =>
  eUnS .not x16 fun x36 => eIfV x36
  (kern_step_open_p1 C x1 k34)
  (kern_step_open_p2 C x1 k34 x23)) fun (s35 : SV × SV × Unit) =>
  eBin Tryz.prog .neq 26 false s35.2.1 (.int .i64 0) fun x58 => eIfV x58
  (K s35.2.1)
  (kern_step_open_p26 C K x1 x8 s35 x16 x23)
noncomputable def kern_step_open_p28 (C : Cal) (K : SV → ER) (x1 : SV) (x8 : SV) (x9 : SV) (x16 : SV) (x19 : SV) : ER :=
  eFieldAddr Tryz.prog 31 x19 2 fun x20 => eLoad Tryz.prog 3 x20 fun x21 => eBin Tryz.prog .and 3 false x21 (.int .i64 8) fun x22 => eBin Tryz.prog .neq 3 false x22 (.int .i64 0) fun x23 => eJoinC (σ := SV × Unit) (fun (k24 : SV × Unit → ER) =>
  eUnS .not x9 fun x26 => eIfV x26
  (eHas .any (.bool true) (k24 ((.bool true), ())))
  (eIfV x16
  (kern_step_open_p0 C x1 k24)
  (eHas .any (.bool false) (k24 ((.bool false), ()))))) fun (s25 : SV × Unit) =>
  eIfV s25.1
  (K (.int .i64 22))
  (kern_step_open_p27 C K x1 x8 x16 x23)
noncomputable def kern_step_open_p29 (C : Cal) (K : SV → ER) (x1 : SV) (x6 : SV) : ER :=
  eCallR Tryz.prog C 67 [x6] 109 fun x7 => eExtract x7 0 fun x8 => eExtract x7 1 fun x9 => eLoad Tryz.prog 70 x1 fun x10 => eNilCk x10 fun x11 => eFieldAddr Tryz.prog 76 x11 0 fun x12 => eFieldAddr Tryz.prog 31 x12 2 fun x13 => eLoad Tryz.prog 3 x13 fun x14 => eBin Tryz.prog .and 3 false x14 (.int .i64 4) fun x15 => eBin Tryz.prog .neq 3 false x15 (.int .i64 0) fun x16 => eLoad Tryz.prog 70 x1 fun x17 => eNilCk x17 fun x18 => eFieldAddr Tryz.prog 76 x18 0 fun x19 => kern_step_open_p28 C K x1 x8 x9 x16 x19
noncomputable def kern_step_open_e (C : Cal) (N : Nat) (a0 : SV) (K : SV → ER) : ER :=
  eBox Tryz.prog 70 a0 fun x1 => eLoad Tryz.prog 70 x1 fun x2 => eNilCk x2 fun x3 => eFieldAddr Tryz.prog 76 x3 0 fun x4 => eFieldAddr Tryz.prog 31 x4 2 fun x5 => eLoad Tryz.prog 3 x5 fun x6 => kern_step_open_p29 C K x1 x6
theorem kern_step_open_ee (C : Cal) (N : Nat) (a0 : SV) (K : SV → ER) : eBody Tryz.prog C N Tryz.f28 (Tryz.f28.body.getD .skip) kern_step_open_ea [a0] K = kern_step_open_e C N a0 K := by kernel_rfl
noncomputable def l28 : LeafT := fun C N args K => match args with
  | [a0] => kern_step_open_e C N a0 K
  | _ => eF
theorem lok28 : LeafOk Tryz.prog 28 l28 := ⟨Tryz.f28, Tryz.f28.body.getD .skip, kern_step_open_ea, Tryz.func28, by kernel_rfl, Tryz.call28, fun C N args K H e => by
  unfold l28 at e
  split at e
  · rw [kern_step_open_ee]; exact e
  · exact eF_no e⟩

/- (*halberd/kern.step).close -/
def kern_step_close_ea : Ann := .two (.none) (.two (.two (.none) (.two (.none) (.two (.two (.none) (.none)) (.none)))) (.two (.none) (.none)))
noncomputable def kern_step_close_e (C : Cal) (N : Nat) (a0 : SV) (K : SV → ER) : ER :=
  eBox Tryz.prog 70 a0 fun x1 => eLoad Tryz.prog 70 x1 fun x2 => eCallR Tryz.prog C 85 [x2] 134 fun x3 => eExtract x3 0 fun x4 => eExtract x3 1 fun x5 => eAlloc Tryz.prog 44 fun x6 => eStore Tryz.prog 44 x6 x4 <| eBin Tryz.prog .neq 26 false x5 (.int .i64 0) fun x7 => eIfV x7
  (K x5)
  (eLoad Tryz.prog 70 x1 fun x8 => eCallR Tryz.prog C 86 [x8, (.fn 87 [] [x1])] 26 fun x9 => K x9)
theorem kern_step_close_ee (C : Cal) (N : Nat) (a0 : SV) (K : SV → ER) : eBody Tryz.prog C N Tryz.f29 (Tryz.f29.body.getD .skip) kern_step_close_ea [a0] K = kern_step_close_e C N a0 K := by kernel_rfl
noncomputable def l29 : LeafT := fun C N args K => match args with
  | [a0] => kern_step_close_e C N a0 K
  | _ => eF
theorem lok29 : LeafOk Tryz.prog 29 l29 := ⟨Tryz.f29, Tryz.f29.body.getD .skip, kern_step_close_ea, Tryz.func29, by kernel_rfl, Tryz.call29, fun C N args K H e => by
  unfold l29 at e
  split at e
  · rw [kern_step_close_ee]; exact e
  · exact eF_no e⟩

/- (*halberd/kern.step).read -/
def kern_step_read_ea : Ann := .two (.none) (.two (.none) (.two (.ord [7, 0, 1, 2, 3, 4, 5, 6, 8, 9, 10, 11, 12, 13, 14, 15]) (.two (.ord [0, 1, 13, 2, 3, 4, 6, 7, 8, 9, 10, 11, 14, 15, 5, 12, 16, 17, 18, 19]) (.two (.two (.none) (.two (.two (.none) (.none)) (.none))) (.two (.ord [2, 0, 1, 3, 4, 5, 6, 7]) (.two (.none) (.two (.ord [6, 0, 1, 2, 3, 4, 5, 7, 8, 9, 10, 11, 12, 13, 14]) (.two (.none) (.two (.none) (.none))))))))))
noncomputable def kern_step_read_p0 (K : SV → ER) (x1 : SV) (x6 : SV) (x19 : SV) (x53 : SV) (x54 : SV) (x55 : SV) (x59 : SV) : ER :=
  eLoad Tryz.prog 3 x59 fun x60 => eLoad Tryz.prog 9 x54 fun x61 => eLenS Tryz.prog [9] [x61] fun x62 => eLoad Tryz.prog 3 x53 fun x63 => eBin Tryz.prog .sub 3 false x62 x63 fun x64 => eMinMaxS false [x60, x64] fun x65 => eBin Tryz.prog .add 3 false x55 x65 fun x66 => eAlloc Tryz.prog 3 fun x67 => eStore Tryz.prog 3 x67 x66 <| eLoad Tryz.prog 70 x1 fun x68 => eNilCk x68 fun x69 => eFieldAddr Tryz.prog 76 x69 4 fun x70 => eStore Tryz.prog 74 x70 (.fn 89 [] [x1, x6, x67, x53, x19]) <| K (.int .i64 0)
noncomputable def kern_step_read_p1 (K : SV → ER) (x1 : SV) (x6 : SV) (x19 : SV) : ER :=
  eFieldAddr Tryz.prog 44 x6 2 fun x47 => eLoad Tryz.prog 3 x47 fun x48 => eFieldAddr Tryz.prog 40 x19 7 fun x49 => eLoad Tryz.prog 9 x49 fun x50 => eLenS Tryz.prog [9] [x50] fun x51 => eMinMaxS false [x48, x51] fun x52 => eAlloc Tryz.prog 3 fun x53 => eStore Tryz.prog 3 x53 x52 <| eFieldAddr Tryz.prog 40 x19 7 fun x54 => eLoad Tryz.prog 3 x53 fun x55 => eLoad Tryz.prog 70 x1 fun x56 => eNilCk x56 fun x57 => eFieldAddr Tryz.prog 76 x57 0 fun x58 => eFieldAddr Tryz.prog 31 x58 3 fun x59 => kern_step_read_p0 K x1 x6 x19 x53 x54 x55 x59
noncomputable def kern_step_read_p2 (C : Cal) (K : SV → ER) (x1 : SV) (x6 : SV) (x19 : SV) : ER :=
  eFieldAddr Tryz.prog 44 x6 0 fun x39 => eLoad Tryz.prog 70 x1 fun x40 => eLoad Tryz.prog 70 x1 fun x41 => eLoad Tryz.prog 3 x39 fun x42 => eCallR Tryz.prog C 75 [x41, x42] 126 fun x43 => fun H => eLoadF Tryz.prog 70 x1 x40 H && (eCallR Tryz.prog C 76 [(.int .i64 1)] 126 fun x44 => fun H => eLoadF Tryz.prog 70 x1 x40 H && (eBuildSlice Tryz.prog 166 2 [(0, x43), (1, x44)] fun x45 => eCallR Tryz.prog C 74 [x40, (.int .i64 2), x45] 0 fun x46 => kern_step_read_p1 K x1 x6 x19) H) H
noncomputable def kern_step_read_p3 (C : Cal) (K : SV → ER) (x1 : SV) (x5 : SV) (x6 : SV) (x19 : SV) (x21 : SV) (x25 : SV) (x28 : SV) (x29 : SV) (x30 : SV) (x31 : SV) (x32 : SV) (x33 : SV) : ER :=
  fun H => eLoadF Tryz.prog 3 x21 x31 H && (fun H => eLoadF Tryz.prog 3 x28 x29 H && (fun H => eLoadF Tryz.prog 70 x1 x25 H && (eCallR Tryz.prog C 71 [x30, (.int .i64 22)] 26 fun x34 => fun H => eLoadF Tryz.prog 3 x21 x31 H && (eCallR Tryz.prog C 71 [x32, (.int .i64 21)] 26 fun x35 => eBuildSlice Tryz.prog 164 4 [(0, x5), (1, x33), (2, x34), (3, x35)] fun x36 => eCallR Tryz.prog C 70 [x36] 26 fun x37 => eBin Tryz.prog .neq 26 false x37 (.int .i64 0) fun x38 => eIfV x38
  (K x37)
  (kern_step_read_p2 C K x1 x6 x19)) H) H) H) H
noncomputable def kern_step_read_p4 (C : Cal) (K : SV → ER) (x1 : SV) (x5 : SV) (x6 : SV) (x19 : SV) (x21 : SV) (x22 : SV) : ER :=
  eBin Tryz.prog .and 3 false x22 (.int .i64 1) fun x23 => eBin Tryz.prog .eql 3 false x23 (.int .i64 0) fun x24 => eLoad Tryz.prog 70 x1 fun x25 => eNilCk x25 fun x26 => eFieldAddr Tryz.prog 76 x26 0 fun x27 => eFieldAddr Tryz.prog 31 x27 3 fun x28 => eLoad Tryz.prog 3 x28 fun x29 => eBin Tryz.prog .lss 3 false x29 (.int .i64 0) fun x30 => eLoad Tryz.prog 3 x21 fun x31 => eBin Tryz.prog .eql 3 false x31 (.int .i64 2) fun x32 => eCallR Tryz.prog C 71 [x24, (.int .i64 9)] 26 fun x33 => kern_step_read_p3 C K x1 x5 x6 x19 x21 x25 x28 x29 x30 x31 x32 x33
noncomputable def kern_step_read_p5 (C : Cal) (K : SV → ER) (x1 : SV) (x5 : SV) (x6 : SV) (x7 : SV) (x9 : SV) : ER :=
  eFieldAddr Tryz.prog 76 x9 1 fun x10 => eLoad Tryz.prog 23 x10 fun x11 => eNilCk x11 fun x12 => eFieldAddr Tryz.prog 58 x12 0 fun x13 => eLoad Tryz.prog 53 x13 fun x14 => eLoad Tryz.prog 3 x7 fun x15 => eCallR Tryz.prog C 18 [x14, x15] 77 fun x16 => eExtract x16 0 fun x17 => eExtract x16 1 fun x18 => eAlloc Tryz.prog 40 fun x19 => eStore Tryz.prog 40 x19 x17 <| eFieldAddr Tryz.prog 44 x6 1 fun x20 => eFieldAddr Tryz.prog 40 x19 2 fun x21 => eLoad Tryz.prog 3 x20 fun x22 => kern_step_read_p4 C K x1 x5 x6 x19 x21 x22
noncomputable def kern_step_read_e (C : Cal) (N : Nat) (a0 : SV) (K : SV → ER) : ER :=
  eBox Tryz.prog 70 a0 fun x1 => eLoad Tryz.prog 70 x1 fun x2 => eCallR Tryz.prog C 85 [x2] 134 fun x3 => eExtract x3 0 fun x4 => eExtract x3 1 fun x5 => eAlloc Tryz.prog 44 fun x6 => eStore Tryz.prog 44 x6 x4 <| eFieldAddr Tryz.prog 44 x6 0 fun x7 => eLoad Tryz.prog 70 x1 fun x8 => eNilCk x8 fun x9 => kern_step_read_p5 C K x1 x5 x6 x7 x9
theorem kern_step_read_ee (C : Cal) (N : Nat) (a0 : SV) (K : SV → ER) : eBody Tryz.prog C N Tryz.f30 (Tryz.f30.body.getD .skip) kern_step_read_ea [a0] K = kern_step_read_e C N a0 K := by kernel_rfl
noncomputable def l30 : LeafT := fun C N args K => match args with
  | [a0] => kern_step_read_e C N a0 K
  | _ => eF
theorem lok30 : LeafOk Tryz.prog 30 l30 := ⟨Tryz.f30, Tryz.f30.body.getD .skip, kern_step_read_ea, Tryz.func30, by kernel_rfl, Tryz.call30, fun C N args K H e => by
  unfold l30 at e
  split at e
  · rw [kern_step_read_ee]; exact e
  · exact eF_no e⟩

/- (*halberd/kern.step).write -/
def kern_step_write_ea : Ann := .two (.none) (.two (.none) (.two (.ord [7, 0, 1, 2, 3, 4, 5, 6, 8, 9, 10, 11, 12, 13, 14, 15]) (.two (.ord [0, 1, 2, 3, 4, 5, 6, 7, 8, 9, 10]) (.two (.two (.ord [0, 1, 2, 3, 4, 6, 7, 5, 8, 9, 10, 11]) (.two (.none) (.two (.two (.none) (.none)) (.none)))) (.two (.ord [2, 0, 1, 3, 4, 5, 6, 7]) (.two (.none) (.none)))))))
noncomputable def kern_step_write_p0 (C : Cal) (K : SV → ER) (x1 : SV) (x6 : SV) (x19 : SV) (x29 : SV) (x41 : SV) : ER :=
  eLoad Tryz.prog 70 x1 fun x42 => eLoad Tryz.prog 70 x1 fun x43 => eLoad Tryz.prog 3 x41 fun x44 => eCallR Tryz.prog C 75 [x43, x44] 126 fun x45 => fun H => eLoadF Tryz.prog 70 x1 x42 H && (eCallR Tryz.prog C 76 [(.int .i64 2)] 126 fun x46 => fun H => eLoadF Tryz.prog 70 x1 x42 H && (eBuildSlice Tryz.prog 166 2 [(0, x45), (1, x46)] fun x47 => eCallR Tryz.prog C 74 [x42, (.int .i64 2), x47] 0 fun x48 => eLoad Tryz.prog 70 x1 fun x49 => eCallR Tryz.prog C 77 [x49, (.fn 91 [] [x19, x6, x1, x29])] 26 fun x50 => K x50) H) H
noncomputable def kern_step_write_p1 (C : Cal) (K : SV → ER) (x1 : SV) (x5 : SV) (x6 : SV) (x19 : SV) (x29 : SV) (x33 : SV) : ER :=
  eLoad Tryz.prog 3 x29 fun x34 => eBin Tryz.prog .gtr 3 false x34 (.int .i64 32) fun x35 => eCallR Tryz.prog C 71 [x33, (.int .i64 9)] 26 fun x36 => fun H => eLoadF Tryz.prog 3 x29 x34 H && (eCallR Tryz.prog C 71 [x35, (.int .i64 27)] 26 fun x37 => eBuildSlice Tryz.prog 164 3 [(0, x5), (1, x36), (2, x37)] fun x38 => eCallR Tryz.prog C 70 [x38] 26 fun x39 => eBin Tryz.prog .neq 26 false x39 (.int .i64 0) fun x40 => eIfV x40
  (K x39)
  (eFieldAddr Tryz.prog 44 x6 0 fun x41 => kern_step_write_p0 C K x1 x6 x19 x29 x41)) H
noncomputable def kern_step_write_p2 (C : Cal) (K : SV → ER) (x1 : SV) (x5 : SV) (x6 : SV) (x19 : SV) (x21 : SV) (x22 : SV) : ER :=
  eNilCk x22 fun x23 => eFieldAddr Tryz.prog 76 x23 0 fun x24 => eFieldAddr Tryz.prog 31 x24 5 fun x25 => eLoad Tryz.prog 9 x25 fun x26 => eLenS Tryz.prog [9] [x26] fun x27 => eBin Tryz.prog .add 3 false x21 x27 fun x28 => eAlloc Tryz.prog 3 fun x29 => eStore Tryz.prog 3 x29 x28 <| eFieldAddr Tryz.prog 44 x6 1 fun x30 => eLoad Tryz.prog 3 x30 fun x31 => eBin Tryz.prog .and 3 false x31 (.int .i64 2) fun x32 => eBin Tryz.prog .eql 3 false x32 (.int .i64 0) fun x33 => kern_step_write_p1 C K x1 x5 x6 x19 x29 x33
noncomputable def kern_step_write_p3 (C : Cal) (K : SV → ER) (x1 : SV) (x5 : SV) (x6 : SV) (x7 : SV) (x9 : SV) : ER :=
  eFieldAddr Tryz.prog 76 x9 1 fun x10 => eLoad Tryz.prog 23 x10 fun x11 => eNilCk x11 fun x12 => eFieldAddr Tryz.prog 58 x12 0 fun x13 => eLoad Tryz.prog 53 x13 fun x14 => eLoad Tryz.prog 3 x7 fun x15 => eCallR Tryz.prog C 18 [x14, x15] 77 fun x16 => eExtract x16 0 fun x17 => eExtract x16 1 fun x18 => eAlloc Tryz.prog 40 fun x19 => eStore Tryz.prog 40 x19 x17 <| eFieldAddr Tryz.prog 44 x6 2 fun x20 => eLoad Tryz.prog 3 x20 fun x21 => eLoad Tryz.prog 70 x1 fun x22 => kern_step_write_p2 C K x1 x5 x6 x19 x21 x22
noncomputable def kern_step_write_e (C : Cal) (N : Nat) (a0 : SV) (K : SV → ER) : ER :=
  eBox Tryz.prog 70 a0 fun x1 => eLoad Tryz.prog 70 x1 fun x2 => eCallR Tryz.prog C 85 [x2] 134 fun x3 => eExtract x3 0 fun x4 => eExtract x3 1 fun x5 => eAlloc Tryz.prog 44 fun x6 => eStore Tryz.prog 44 x6 x4 <| eFieldAddr Tryz.prog 44 x6 0 fun x7 => eLoad Tryz.prog 70 x1 fun x8 => eNilCk x8 fun x9 => kern_step_write_p3 C K x1 x5 x6 x7 x9
theorem kern_step_write_ee (C : Cal) (N : Nat) (a0 : SV) (K : SV → ER) : eBody Tryz.prog C N Tryz.f31 (Tryz.f31.body.getD .skip) kern_step_write_ea [a0] K = kern_step_write_e C N a0 K := by kernel_rfl
noncomputable def l31 : LeafT := fun C N args K => match args with
  | [a0] => kern_step_write_e C N a0 K
  | _ => eF
theorem lok31 : LeafOk Tryz.prog 31 l31 := ⟨Tryz.f31, Tryz.f31.body.getD .skip, kern_step_write_ea, Tryz.func31, by kernel_rfl, Tryz.call31, fun C N args K H e => by
  unfold l31 at e
  split at e
  · rw [kern_step_write_ee]; exact e
  · exact eF_no e⟩

/- (*halberd/kern.step).seek -/
def kern_step_seek_ea : Ann := .two (.none) (.two (.none) (.two (.two (.none) (.two (.none) (.two (.two (.none) (.none)) (.none)))) (.two (.none) (.none))))
noncomputable def kern_step_seek_p0 (C : Cal) (K : SV → ER) (x1 : SV) (x5 : SV) (x9 : SV) : ER :=
  eFieldAddr Tryz.prog 31 x9 3 fun x10 => eLoad Tryz.prog 3 x10 fun x11 => eCallR Tryz.prog C 68 [x11, (.int .i64 0), (.int .i64 32)] 4 fun x12 => eUnS .not x12 fun x13 => eCallR Tryz.prog C 71 [x13, (.int .i64 22)] 26 fun x14 => eBuildSlice Tryz.prog 164 2 [(0, x5), (1, x14)] fun x15 => eCallR Tryz.prog C 70 [x15] 26 fun x16 => eBin Tryz.prog .neq 26 false x16 (.int .i64 0) fun x17 => eIfV x17
  (K x16)
  (eLoad Tryz.prog 70 x1 fun x18 => eCallR Tryz.prog C 77 [x18, (.fn 93 [] [x1])] 26 fun x19 => K x19)
noncomputable def kern_step_seek_e (C : Cal) (N : Nat) (a0 : SV) (K : SV → ER) : ER :=
  eBox Tryz.prog 70 a0 fun x1 => eLoad Tryz.prog 70 x1 fun x2 => eCallR Tryz.prog C 85 [x2] 134 fun x3 => eExtract x3 0 fun x4 => eExtract x3 1 fun x5 => eAlloc Tryz.prog 44 fun x6 => eStore Tryz.prog 44 x6 x4 <| eLoad Tryz.prog 70 x1 fun x7 => eNilCk x7 fun x8 => eFieldAddr Tryz.prog 76 x8 0 fun x9 => kern_step_seek_p0 C K x1 x5 x9
theorem kern_step_seek_ee (C : Cal) (N : Nat) (a0 : SV) (K : SV → ER) : eBody Tryz.prog C N Tryz.f32 (Tryz.f32.body.getD .skip) kern_step_seek_ea [a0] K = kern_step_seek_e C N a0 K := by kernel_rfl
noncomputable def l32 : LeafT := fun C N args K => match args with
  | [a0] => kern_step_seek_e C N a0 K
  | _ => eF
theorem lok32 : LeafOk Tryz.prog 32 l32 := ⟨Tryz.f32, Tryz.f32.body.getD .skip, kern_step_seek_ea, Tryz.func32, by kernel_rfl, Tryz.call32, fun C N args K H e => by
  unfold l32 at e
  split at e
  · rw [kern_step_seek_ee]; exact e
  · exact eF_no e⟩

/- (*halberd/kern.step).mkdir -/
def kern_step_mkdir_ea : Ann := .two (.none) (.two (.two (.none) (.two (.two (.none) (.none)) (.none))) (.two (.ord [0, 1, 2, 3, 4, 5, 6, 7, 8, 9, 10, 11, 12]) (.two (.two (.none) (.two (.none) (.two (.two (.none) (.none)) (.none)))) (.two (.ord [2, 0, 1, 3, 6, 7, 8, 9, 10, 4, 5, 11, 12, 13]) (.two (.none) (.none))))))
noncomputable def kern_step_mkdir_p0 (C : Cal) (K : SV → ER) (x1 : SV) (x18 : SV) (x25 : SV) (x28 : SV) (x31 : SV) (x32 : SV) (x33 : SV) : ER :=
  fun H => eLoadF Tryz.prog 3 x31 x32 H && (fun H => eLoadF Tryz.prog 70 x1 x28 H && (fun H => eLoadF Tryz.prog 70 x1 x25 H && (eCallR Tryz.prog C 76 [(.int .i64 2)] 126 fun x34 => fun H => eLoadF Tryz.prog 3 x31 x32 H && (fun H => eLoadF Tryz.prog 70 x1 x28 H && (fun H => eLoadF Tryz.prog 70 x1 x25 H && (eCallR Tryz.prog C 76 [x32] 126 fun x35 => fun H => eLoadF Tryz.prog 70 x1 x25 H && (eBuildSlice Tryz.prog 166 3 [(0, x33), (1, x34), (2, x35)] fun x36 => eCallR Tryz.prog C 74 [x25, (.int .i64 3), x36] 0 fun x37 => eLoad Tryz.prog 70 x1 fun x38 => eCallR Tryz.prog C 86 [x38, (.fn 95 [] [x1, x18])] 26 fun x39 => K x39) H) H) H) H) H) H) H
noncomputable def kern_step_mkdir_p1 (C : Cal) (K : SV → ER) (x1 : SV) (x18 : SV) : ER :=
  eFieldAddr Tryz.prog 113 x18 0 fun x24 => eLoad Tryz.prog 70 x1 fun x25 => eLoad Tryz.prog 70 x1 fun x26 => eLoad Tryz.prog 3 x24 fun x27 => eLoad Tryz.prog 70 x1 fun x28 => eNilCk x28 fun x29 => eFieldAddr Tryz.prog 76 x29 0 fun x30 => eFieldAddr Tryz.prog 31 x30 2 fun x31 => eLoad Tryz.prog 3 x31 fun x32 => eCallR Tryz.prog C 75 [x26, x27] 126 fun x33 => kern_step_mkdir_p0 C K x1 x18 x25 x28 x31 x32 x33
noncomputable def kern_step_mkdir_p2 (C : Cal) (K : SV → ER) (x1 : SV) (x9 : SV) (x12 : SV) : ER :=
  eFieldAddr Tryz.prog 31 x12 5 fun x13 => eLoad Tryz.prog 9 x13 fun x14 => eCallR Tryz.prog C 94 [x9, x14] 114 fun x15 => eExtract x15 0 fun x16 => eExtract x15 1 fun x17 => eAlloc Tryz.prog 113 fun x18 => eStore Tryz.prog 113 x18 x16 <| eLoad Tryz.prog 70 x1 fun x19 => eCallR Tryz.prog C 82 [x19] 26 fun x20 => eBuildSlice Tryz.prog 164 2 [(0, x17), (1, x20)] fun x21 => eCallR Tryz.prog C 70 [x21] 26 fun x22 => eBin Tryz.prog .neq 26 false x22 (.int .i64 0) fun x23 => eIfV x23
  (K x22)
  (kern_step_mkdir_p1 C K x1 x18)
noncomputable def kern_step_mkdir_e (C : Cal) (N : Nat) (a0 : SV) (K : SV → ER) : ER :=
  eBox Tryz.prog 70 a0 fun x1 => eLoad Tryz.prog 70 x1 fun x2 => eNilCk x2 fun x3 => eFieldAddr Tryz.prog 76 x3 0 fun x4 => eFieldAddr Tryz.prog 31 x4 2 fun x5 => eLoad Tryz.prog 3 x5 fun x6 => eCallR Tryz.prog C 68 [x6, (.int .i64 0), (.int .i64 511)] 4 fun x7 => eUnS .not x7 fun x8 => eIfV x8
  (K (.int .i64 22))
  (eLoad Tryz.prog 70 x1 fun x9 => eLoad Tryz.prog 70 x1 fun x10 => eNilCk x10 fun x11 => eFieldAddr Tryz.prog 76 x11 0 fun x12 => kern_step_mkdir_p2 C K x1 x9 x12)
theorem kern_step_mkdir_ee (C : Cal) (N : Nat) (a0 : SV) (K : SV → ER) : eBody Tryz.prog C N Tryz.f33 (Tryz.f33.body.getD .skip) kern_step_mkdir_ea [a0] K = kern_step_mkdir_e C N a0 K := by kernel_rfl
noncomputable def l33 : LeafT := fun C N args K => match args with
  | [a0] => kern_step_mkdir_e C N a0 K
  | _ => eF
theorem lok33 : LeafOk Tryz.prog 33 l33 := ⟨Tryz.f33, Tryz.f33.body.getD .skip, kern_step_mkdir_ea, Tryz.func33, by kernel_rfl, Tryz.call33, fun C N args K H e => by
  unfold l33 at e
  split at e
  · rw [kern_step_mkdir_ee]; exact e
  · exact eF_no e⟩

/- (*halberd/kern.step).rmdir -/
def kern_step_rmdir_ea : Ann := .two (.none) (.two (.ord [0, 1, 2, 3, 4, 5, 6, 7, 8, 9, 10, 11, 12, 13, 14, 15]) (.two (.two (.ord [0, 1, 5, 9, 15, 20, 2, 3, 6, 7, 10, 11, 12, 14, 16, 19, 21, 4, 8, 13, 17, 18, 22, 23, 24, 25]) (.two (.none) (.two (.two (.none) (.none)) (.none)))) (.two (.ord [2, 6, 0, 1, 3, 5, 7, 4, 8, 9, 10, 11]) (.two (.none) (.none)))))
noncomputable def kern_step_rmdir_p0 (C : Cal) (K : SV → ER) (x1 : SV) (x12 : SV) (x40 : SV) (x41 : SV) (x44 : SV) (x45 : SV) (x46 : SV) : ER :=
  fun H => eLoadF Tryz.prog 3 x40 x45 H && (fun H => eLoadF Tryz.prog 70 x1 x44 H && (fun H => eLoadF Tryz.prog 70 x1 x41 H && (eCallR Tryz.prog C 75 [x44, x45] 126 fun x47 => fun H => eLoadF Tryz.prog 70 x1 x41 H && (eCallR Tryz.prog C 76 [(.int .i64 1)] 126 fun x48 => fun H => eLoadF Tryz.prog 70 x1 x41 H && (eBuildSlice Tryz.prog 166 3 [(0, x46), (1, x47), (2, x48)] fun x49 => eCallR Tryz.prog C 74 [x41, (.int .i64 5), x49] 0 fun x50 => eLoad Tryz.prog 70 x1 fun x51 => eCallR Tryz.prog C 86 [x51, (.fn 98 [] [x1, x12])] 26 fun x52 => K x52) H) H) H) H) H
noncomputable def kern_step_rmdir_p1 (C : Cal) (K : SV → ER) (x1 : SV) (x12 : SV) (x13 : SV) : ER :=
  eFieldAddr Tryz.prog 113 x12 0 fun x39 => eFieldAddr Tryz.prog 40 x13 0 fun x40 => eLoad Tryz.prog 70 x1 fun x41 => eLoad Tryz.prog 70 x1 fun x42 => eLoad Tryz.prog 3 x39 fun x43 => eLoad Tryz.prog 70 x1 fun x44 => eLoad Tryz.prog 3 x40 fun x45 => eCallR Tryz.prog C 75 [x42, x43] 126 fun x46 => kern_step_rmdir_p0 C K x1 x12 x40 x41 x44 x45 x46
noncomputable def kern_step_rmdir_p2 (C : Cal) (K : SV → ER) (x1 : SV) (x11 : SV) (x12 : SV) (x13 : SV) (x18 : SV) (x28 : SV) (x29 : SV) (x30 : SV) (x31 : SV) (x32 : SV) (x33 : SV) : ER :=
  fun H => eLoadF Tryz.prog 3 x18 x29 H && (fun H => eLoadF Tryz.prog 70 x1 x28 H && (eCallR Tryz.prog C 71 [x33, (.int .i64 16)] 26 fun x34 => fun H => eLoadF Tryz.prog 3 x18 x29 H && (fun H => eLoadF Tryz.prog 70 x1 x28 H && (eCallR Tryz.prog C 72 [x28, x29, (.int .i64 2)] 26 fun x35 => eBuildSlice Tryz.prog 164 6 [(0, x11), (1, x30), (2, x31), (3, x32), (4, x34), (5, x35)] fun x36 => eCallR Tryz.prog C 70 [x36] 26 fun x37 => eBin Tryz.prog .neq 26 false x37 (.int .i64 0) fun x38 => eIfV x38
  (K x37)
  (kern_step_rmdir_p1 C K x1 x12 x13)) H) H) H) H
noncomputable def kern_step_rmdir_p3 (C : Cal) (K : SV → ER) (x1 : SV) (x11 : SV) (x12 : SV) (x13 : SV) (x16 : SV) (x17 : SV) (x18 : SV) (x23 : SV) (x25 : SV) (x26 : SV) (x27 : SV) (x28 : SV) (x29 : SV) (x30 : SV) (x31 : SV) : ER :=
  fun H => eLoadF Tryz.prog 3 x18 x29 H && (fun H => eLoadF Tryz.prog 70 x1 x28 H && (fun H => eLoadF Tryz.prog 3 x17 x27 H && (fun H => eLoadF Tryz.prog 70 x1 x26 H && (fun H => eLoadF Tryz.prog 25 x16 x23 H && (eCallR Tryz.prog C 71 [x25, (.int .i64 39)] 26 fun x32 => fun H => eLoadF Tryz.prog 3 x18 x29 H && (fun H => eLoadF Tryz.prog 70 x1 x28 H && (fun H => eLoadF Tryz.prog 3 x17 x27 H && (fun H => eLoadF Tryz.prog 70 x1 x26 H && (eCallR Tryz.prog C 97 [x26, x27] 4 fun x33 => kern_step_rmdir_p2 C K x1 x11 x12 x13 x18 x28 x29 x30 x31 x32 x33) H) H) H) H) H) H) H) H) H
noncomputable def kern_step_rmdir_p4 (C : Cal) (K : SV → ER) (x1 : SV) (x11 : SV) (x12 : SV) (x13 : SV) (x15 : SV) (x16 : SV) (x17 : SV) (x18 : SV) (x20 : SV) (x21 : SV) (x22 : SV) (x23 : SV) (x25 : SV) (x26 : SV) (x27 : SV) (x28 : SV) : ER :=
  eLoad Tryz.prog 3 x18 fun x29 => eCallR Tryz.prog C 71 [x20, (.int .i64 16)] 26 fun x30 => fun H => eLoadF Tryz.prog 3 x18 x29 H && (fun H => eLoadF Tryz.prog 70 x1 x28 H && (fun H => eLoadF Tryz.prog 3 x17 x27 H && (fun H => eLoadF Tryz.prog 70 x1 x26 H && (fun H => eLoadF Tryz.prog 25 x16 x23 H && (fun H => eLoadF Tryz.prog 3 x15 x21 H && (eCallR Tryz.prog C 71 [x22, (.int .i64 20)] 26 fun x31 => kern_step_rmdir_p3 C K x1 x11 x12 x13 x16 x17 x18 x23 x25 x26 x27 x28 x29 x30 x31) H) H) H) H) H) H
noncomputable def kern_step_rmdir_p5 (C : Cal) (K : SV → ER) (x1 : SV) (x11 : SV) (x12 : SV) (x13 : SV) (x14 : SV) (x15 : SV) (x16 : SV) (x17 : SV) : ER :=
  eFieldAddr Tryz.prog 113 x12 0 fun x18 => eLoad Tryz.prog 9 x14 fun x19 => eBin Tryz.prog .eql 9 false x19 (.str []) fun x20 => eLoad Tryz.prog 3 x15 fun x21 => eBin Tryz.prog .neq 3 false x21 (.int .i64 2) fun x22 => eLoad Tryz.prog 25 x16 fun x23 => eLenS Tryz.prog [25] [x23] fun x24 => eBin Tryz.prog .gtr 3 false x24 (.int .i64 0) fun x25 => eLoad Tryz.prog 70 x1 fun x26 => eLoad Tryz.prog 3 x17 fun x27 => eLoad Tryz.prog 70 x1 fun x28 => kern_step_rmdir_p4 C K x1 x11 x12 x13 x15 x16 x17 x18 x20 x21 x22 x23 x25 x26 x27 x28
noncomputable def kern_step_rmdir_p6 (C : Cal) (K : SV → ER) (x1 : SV) (x2 : SV) (x6 : SV) : ER :=
  eLoad Tryz.prog 9 x6 fun x7 => eCallR Tryz.prog C 96 [x2, x7, (.bool false)] 140 fun x8 => eExtract x8 0 fun x9 => eExtract x8 1 fun x10 => eExtract x8 2 fun x11 => eAlloc Tryz.prog 113 fun x12 => eAlloc Tryz.prog 40 fun x13 => eStore Tryz.prog 113 x12 x9 <| eStore Tryz.prog 40 x13 x10 <| eFieldAddr Tryz.prog 113 x12 1 fun x14 => eFieldAddr Tryz.prog 40 x13 2 fun x15 => eFieldAddr Tryz.prog 40 x13 8 fun x16 => eFieldAddr Tryz.prog 40 x13 0 fun x17 => kern_step_rmdir_p5 C K x1 x11 x12 x13 x14 x15 x16 x17
noncomputable def kern_step_rmdir_e (C : Cal) (N : Nat) (a0 : SV) (K : SV → ER) : ER :=
  eBox Tryz.prog 70 a0 fun x1 => eLoad Tryz.prog 70 x1 fun x2 => eLoad Tryz.prog 70 x1 fun x3 => eNilCk x3 fun x4 => eFieldAddr Tryz.prog 76 x4 0 fun x5 => eFieldAddr Tryz.prog 31 x5 5 fun x6 => kern_step_rmdir_p6 C K x1 x2 x6
theorem kern_step_rmdir_ee (C : Cal) (N : Nat) (a0 : SV) (K : SV → ER) : eBody Tryz.prog C N Tryz.f34 (Tryz.f34.body.getD .skip) kern_step_rmdir_ea [a0] K = kern_step_rmdir_e C N a0 K := by kernel_rfl
noncomputable def l34 : LeafT := fun C N args K => match args with
  | [a0] => kern_step_rmdir_e C N a0 K
  | _ => eF
theorem lok34 : LeafOk Tryz.prog 34 l34 := ⟨Tryz.f34, Tryz.f34.body.getD .skip, kern_step_rmdir_ea, Tryz.func34, by kernel_rfl, Tryz.call34, fun C N args K H e => by
  unfold l34 at e
  split at e
  · rw [kern_step_rmdir_ee]; exact e
  · exact eF_no e⟩

end Go.Proofs.YtnpcjhcgbcpcoaaGreatDoor

set_option linter.unusedVariables false
set_option maxRecDepth 100000
namespace Go.Proofs.YtnpcjhcgbcpcoaaGreatDoor
open Go.Hl
/- (*halberd/kern.step).link -/
def kern_step_link_ea : Ann := .two (.none) (.two (.ord [0, 1, 2, 3, 4, 5, 6, 7, 8, 9, 10, 11, 12, 13, 14, 15]) (.two (.two (.ord [0, 1, 5, 2, 3, 6, 7, 4, 8, 9, 10, 11]) (.two (.none) (.two (.two (.none) (.none)) (.none)))) (.two (.ord [0, 1, 2, 3, 4, 5, 6, 7, 8, 9, 10, 11, 12]) (.two (.two (.none) (.two (.two (.none) (.none)) (.none))) (.two (.ord [2, 6, 0, 1, 3, 5, 7, 4, 8, 9, 10]) (.two (.none) (.none)))))))
noncomputable def kern_step_link_p0 (C : Cal) (K : SV → ER) (x1 : SV) (x13 : SV) (x34 : SV) (x37 : SV) (x38 : SV) (x39 : SV) (x40 : SV) (x41 : SV) (x42 : SV) : ER :=
  eCallR Tryz.prog C 75 [x39, x40] 126 fun x43 => fun H => eLoadF Tryz.prog 3 x37 x42 H && (fun H => eLoadF Tryz.prog 70 x1 x41 H && (fun H => eLoadF Tryz.prog 70 x1 x38 H && (eCallR Tryz.prog C 75 [x41, x42] 126 fun x44 => fun H => eLoadF Tryz.prog 70 x1 x38 H && (eBuildSlice Tryz.prog 166 2 [(0, x43), (1, x44)] fun x45 => eCallR Tryz.prog C 74 [x38, (.int .i64 4), x45] 0 fun x46 => eLoad Tryz.prog 70 x1 fun x47 => eCallR Tryz.prog C 86 [x47, (.fn 100 [] [x1, x34, x13])] 26 fun x48 => K x48) H) H) H) H
noncomputable def kern_step_link_p1 (C : Cal) (K : SV → ER) (x1 : SV) (x13 : SV) (x34 : SV) : ER :=
  eFieldAddr Tryz.prog 40 x13 0 fun x36 => eFieldAddr Tryz.prog 113 x34 0 fun x37 => eLoad Tryz.prog 70 x1 fun x38 => eLoad Tryz.prog 70 x1 fun x39 => eLoad Tryz.prog 3 x36 fun x40 => eLoad Tryz.prog 70 x1 fun x41 => eLoad Tryz.prog 3 x37 fun x42 => kern_step_link_p0 C K x1 x13 x34 x37 x38 x39 x40 x41 x42
noncomputable def kern_step_link_p2 (C : Cal) (K : SV → ER) (x1 : SV) (x13 : SV) : ER :=
  eLoad Tryz.prog 70 x1 fun x25 => eLoad Tryz.prog 70 x1 fun x26 => eNilCk x26 fun x27 => eFieldAddr Tryz.prog 76 x27 0 fun x28 => eFieldAddr Tryz.prog 31 x28 6 fun x29 => eLoad Tryz.prog 9 x29 fun x30 => eCallR Tryz.prog C 94 [x25, x30] 114 fun x31 => eExtract x31 0 fun x32 => eExtract x31 1 fun x33 => eAlloc Tryz.prog 113 fun x34 => eStore Tryz.prog 113 x34 x32 <| eBin Tryz.prog .neq 26 false x33 (.int .i64 0) fun x35 => eIfV x35
  (K x33)
  (kern_step_link_p1 C K x1 x13 x34)
noncomputable def kern_step_link_p3 (C : Cal) (K : SV → ER) (x1 : SV) (x11 : SV) (x13 : SV) (x15 : SV) (x16 : SV) : ER :=
  eBin Tryz.prog .eql 3 false x16 (.int .i64 2) fun x17 => eLoad Tryz.prog 3 x15 fun x18 => eBin Tryz.prog .geq 3 false x18 (.int .i64 8) fun x19 => eCallR Tryz.prog C 71 [x17, (.int .i64 1)] 26 fun x20 => fun H => eLoadF Tryz.prog 3 x15 x18 H && (eCallR Tryz.prog C 71 [x19, (.int .i64 31)] 26 fun x21 => eBuildSlice Tryz.prog 164 3 [(0, x11), (1, x20), (2, x21)] fun x22 => eCallR Tryz.prog C 70 [x22] 26 fun x23 => eBin Tryz.prog .neq 26 false x23 (.int .i64 0) fun x24 => eIfV x24
  (K x23)
  (kern_step_link_p2 C K x1 x13)) H
noncomputable def kern_step_link_p4 (C : Cal) (K : SV → ER) (x1 : SV) (x2 : SV) (x4 : SV) : ER :=
  eFieldAddr Tryz.prog 76 x4 0 fun x5 => eFieldAddr Tryz.prog 31 x5 5 fun x6 => eLoad Tryz.prog 9 x6 fun x7 => eCallR Tryz.prog C 96 [x2, x7, (.bool false)] 140 fun x8 => eExtract x8 0 fun x9 => eExtract x8 1 fun x10 => eExtract x8 2 fun x11 => eAlloc Tryz.prog 113 fun x12 => eAlloc Tryz.prog 40 fun x13 => eStore Tryz.prog 113 x12 x9 <| eStore Tryz.prog 40 x13 x10 <| eFieldAddr Tryz.prog 40 x13 2 fun x14 => eFieldAddr Tryz.prog 40 x13 6 fun x15 => eLoad Tryz.prog 3 x14 fun x16 => kern_step_link_p3 C K x1 x11 x13 x15 x16
noncomputable def kern_step_link_e (C : Cal) (N : Nat) (a0 : SV) (K : SV → ER) : ER :=
  eBox Tryz.prog 70 a0 fun x1 => eLoad Tryz.prog 70 x1 fun x2 => eLoad Tryz.prog 70 x1 fun x3 => eNilCk x3 fun x4 => kern_step_link_p4 C K x1 x2 x4
theorem kern_step_link_ee (C : Cal) (N : Nat) (a0 : SV) (K : SV → ER) : eBody Tryz.prog C N Tryz.f35 (Tryz.f35.body.getD .skip) kern_step_link_ea [a0] K = kern_step_link_e C N a0 K := by kernel_rfl
noncomputable def l35 : LeafT := fun C N args K => match args with
  | [a0] => kern_step_link_e C N a0 K
  | _ => eF
theorem lok35 : LeafOk Tryz.prog 35 l35 := ⟨Tryz.f35, Tryz.f35.body.getD .skip, kern_step_link_ea, Tryz.func35, by kernel_rfl, Tryz.call35, fun C N args K H e => by
  unfold l35 at e
  split at e
  · rw [kern_step_link_ee]; exact e
  · exact eF_no e⟩

/- (*halberd/kern.step).symlink -/
def kern_step_symlink_ea : Ann := .two (.none) (.two (.join (.ord [0, 1, 2, 3, 4, 5, 7, 8, 9, 10, 11, 6, 12, 13, 14, 15, 16, 17, 18, 19, 20, 21, 22, 23, 24, 25]) (.two (.none) (.two (.two (.none) (.none)) (.none))) [(3, .any)]) (.two (.ord [0, 1, 2, 3, 4, 5, 6, 7, 8, 9, 10, 11, 12]) (.two (.two (.none) (.two (.none) (.two (.two (.none) (.none)) (.none)))) (.two (.ord [2, 0, 1, 3, 4, 5, 6, 7, 8]) (.two (.none) (.none))))))
noncomputable def kern_step_symlink_p0 (C : Cal) (k2 : SV × Unit → ER) (x1 : SV) (x15 : SV) : ER :=
  eLoad Tryz.prog 70 x1 fun x20 => eNilCk x20 fun x21 => eFieldAddr Tryz.prog 76 x21 0 fun x22 => eFieldAddr Tryz.prog 31 x22 5 fun x23 => eLoad Tryz.prog 9 x23 fun x24 => eLenS Tryz.prog [9] [x24] fun x25 => eBin Tryz.prog .gtr 3 false x25 (.int .i64 32) fun x26 => eCallR Tryz.prog C 71 [x26, (.int .i64 22)] 26 fun x27 => eBuildSlice Tryz.prog 164 2 [(0, x15), (1, x27)] fun x28 => eCallR Tryz.prog C 70 [x28] 26 fun x29 => eHas .any x29 (k2 (x29, ()))
noncomputable def kern_step_symlink_p1 (C : Cal) (k2 : SV × Unit → ER) (x1 : SV) (x9 : SV) (x10 : SV) (x12 : SV) : ER :=
  eFieldAddr Tryz.prog 31 x12 5 fun x13 => eLoad Tryz.prog 9 x13 fun x14 => eCallR Tryz.prog C 71 [x9, (.int .i64 2)] 26 fun x15 => fun H => eLoadF Tryz.prog 9 x13 x14 H && (fun H => eLoadF Tryz.prog 70 x1 x10 H && (eCallR Tryz.prog C 102 [x14, (.str [0])] 4 fun x16 => eIfV x16
  (eCallR Tryz.prog C 71 [(.bool true), (.int .i64 22)] 26 fun x17 => eBuildSlice Tryz.prog 164 2 [(0, x15), (1, x17)] fun x18 => eCallR Tryz.prog C 70 [x18] 26 fun x19 => eHas .any x19 (k2 (x19, ())))
  (kern_step_symlink_p0 C k2 x1 x15)) H) H
noncomputable def kern_step_symlink_p2 (C : Cal) (K : SV → ER) (x1 : SV) (x40 : SV) (x47 : SV) (x48 : SV) (x49 : SV) : ER :=
  eCallR Tryz.prog C 75 [x48, x49] 126 fun x50 => fun H => eLoadF Tryz.prog 70 x1 x47 H && (eCallR Tryz.prog C 76 [(.int .i64 3)] 126 fun x51 => fun H => eLoadF Tryz.prog 70 x1 x47 H && (eCallR Tryz.prog C 76 [(.int .i64 511)] 126 fun x52 => fun H => eLoadF Tryz.prog 70 x1 x47 H && (eBuildSlice Tryz.prog 166 3 [(0, x50), (1, x51), (2, x52)] fun x53 => eCallR Tryz.prog C 74 [x47, (.int .i64 3), x53] 0 fun x54 => eLoad Tryz.prog 70 x1 fun x55 => eCallR Tryz.prog C 86 [x55, (.fn 103 [] [x1, x40])] 26 fun x56 => K x56) H) H) H
noncomputable def kern_step_symlink_p3 (C : Cal) (K : SV → ER) (x1 : SV) (x38 : SV) (x39 : SV) : ER :=
  eAlloc Tryz.prog 113 fun x40 => eStore Tryz.prog 113 x40 x38 <| eLoad Tryz.prog 70 x1 fun x41 => eCallR Tryz.prog C 82 [x41] 26 fun x42 => eBuildSlice Tryz.prog 164 2 [(0, x39), (1, x42)] fun x43 => eCallR Tryz.prog C 70 [x43] 26 fun x44 => eBin Tryz.prog .neq 26 false x44 (.int .i64 0) fun x45 => eIfV x45
  (K x44)
  (eFieldAddr Tryz.prog 113 x40 0 fun x46 => eLoad Tryz.prog 70 x1 fun x47 => eLoad Tryz.prog 70 x1 fun x48 => eLoad Tryz.prog 3 x46 fun x49 => kern_step_symlink_p2 C K x1 x40 x47 x48 x49)
noncomputable def kern_step_symlink_p4 (C : Cal) (K : SV → ER) (x1 : SV) : ER :=
  eLoad Tryz.prog 70 x1 fun x31 => eLoad Tryz.prog 70 x1 fun x32 => eNilCk x32 fun x33 => eFieldAddr Tryz.prog 76 x33 0 fun x34 => eFieldAddr Tryz.prog 31 x34 6 fun x35 => eLoad Tryz.prog 9 x35 fun x36 => eCallR Tryz.prog C 94 [x31, x36] 114 fun x37 => eExtract x37 0 fun x38 => eExtract x37 1 fun x39 => kern_step_symlink_p3 C K x1 x38 x39
noncomputable def kern_step_symlink_p5 (C : Cal) (k2 : SV × Unit → ER) (x1 : SV) : ER :=
  eLoad Tryz.prog 70 x1 fun x4 => eNilCk x4 fun x5 => eFieldAddr Tryz.prog 76 x5 0 fun x6 => eFieldAddr Tryz.prog 31 x6 5 fun x7 => eLoad Tryz.prog 9 x7 fun x8 => eBin Tryz.prog .eql 9 false x8 (.str []) fun x9 => eLoad Tryz.prog 70 x1 fun x10 => eNilCk x10 fun x11 => eFieldAddr Tryz.prog 76 x11 0 fun x12 => kern_step_symlink_p1 C k2 x1 x9 x10 x12
noncomputable def kern_step_symlink_e (C : Cal) (N : Nat) (a0 : SV) (K : SV → ER) : ER :=
  eBox Tryz.prog 70 a0 fun x1 => eJoinC (σ := SV × Unit) (fun (k2 : SV × Unit → ER) =>
  kern_step_symlink_p5 C k2 x1) fun (s3 : SV × Unit) =>
  eBin Tryz.prog .neq 26 false s3.1 (.int .i64 0) fun x30 => eIfV x30
  (K s3.1)
  (kern_step_symlink_p4 C K x1)
theorem kern_step_symlink_ee (C : Cal) (N : Nat) (a0 : SV) (K : SV → ER) : eBody Tryz.prog C N Tryz.f36 (Tryz.f36.body.getD .skip) kern_step_symlink_ea [a0] K = kern_step_symlink_e C N a0 K := by kernel_rfl
noncomputable def l36 : LeafT := fun C N args K => match args with
  | [a0] => kern_step_symlink_e C N a0 K
  | _ => eF
theorem lok36 : LeafOk Tryz.prog 36 l36 := ⟨Tryz.f36, Tryz.f36.body.getD .skip, kern_step_symlink_ea, Tryz.func36, by kernel_rfl, Tryz.call36, fun C N args K H e => by
  unfold l36 at e
  split at e
  · rw [kern_step_symlink_ee]; exact e
  · exact eF_no e⟩

/- (*halberd/kern.step).unlink -/
def kern_step_unlink_ea : Ann := .two (.none) (.two (.ord [0, 1, 2, 3, 4, 5, 6, 7, 8, 9, 10, 11, 12, 13, 14, 15]) (.two (.two (.ord [0, 1, 6, 2, 3, 5, 7, 4, 8, 9, 10, 11]) (.two (.none) (.two (.two (.none) (.none)) (.none)))) (.two (.ord [2, 6, 0, 1, 3, 5, 7, 4, 8, 9, 10, 11]) (.two (.none) (.none)))))
noncomputable def kern_step_unlink_p0 (C : Cal) (K : SV → ER) (x1 : SV) (x12 : SV) (x26 : SV) (x27 : SV) (x30 : SV) (x31 : SV) (x32 : SV) : ER :=
  fun H => eLoadF Tryz.prog 3 x26 x31 H && (fun H => eLoadF Tryz.prog 70 x1 x30 H && (fun H => eLoadF Tryz.prog 70 x1 x27 H && (eCallR Tryz.prog C 75 [x30, x31] 126 fun x33 => fun H => eLoadF Tryz.prog 70 x1 x27 H && (eCallR Tryz.prog C 76 [(.int .i64 0)] 126 fun x34 => fun H => eLoadF Tryz.prog 70 x1 x27 H && (eBuildSlice Tryz.prog 166 3 [(0, x32), (1, x33), (2, x34)] fun x35 => eCallR Tryz.prog C 74 [x27, (.int .i64 5), x35] 0 fun x36 => eLoad Tryz.prog 70 x1 fun x37 => eCallR Tryz.prog C 86 [x37, (.fn 104 [] [x1, x12])] 26 fun x38 => K x38) H) H) H) H) H
noncomputable def kern_step_unlink_p1 (C : Cal) (K : SV → ER) (x1 : SV) (x12 : SV) (x13 : SV) : ER :=
  eFieldAddr Tryz.prog 113 x12 0 fun x25 => eFieldAddr Tryz.prog 40 x13 0 fun x26 => eLoad Tryz.prog 70 x1 fun x27 => eLoad Tryz.prog 70 x1 fun x28 => eLoad Tryz.prog 3 x25 fun x29 => eLoad Tryz.prog 70 x1 fun x30 => eLoad Tryz.prog 3 x26 fun x31 => eCallR Tryz.prog C 75 [x28, x29] 126 fun x32 => kern_step_unlink_p0 C K x1 x12 x26 x27 x30 x31 x32
noncomputable def kern_step_unlink_p2 (C : Cal) (K : SV → ER) (x1 : SV) (x11 : SV) (x12 : SV) (x13 : SV) (x15 : SV) (x16 : SV) : ER :=
  eBin Tryz.prog .eql 3 false x16 (.int .i64 2) fun x17 => eLoad Tryz.prog 70 x1 fun x18 => eLoad Tryz.prog 3 x15 fun x19 => eCallR Tryz.prog C 71 [x17, (.int .i64 21)] 26 fun x20 => fun H => eLoadF Tryz.prog 3 x15 x19 H && (fun H => eLoadF Tryz.prog 70 x1 x18 H && (eCallR Tryz.prog C 72 [x18, x19, (.int .i64 2)] 26 fun x21 => eBuildSlice Tryz.prog 164 3 [(0, x11), (1, x20), (2, x21)] fun x22 => eCallR Tryz.prog C 70 [x22] 26 fun x23 => eBin Tryz.prog .neq 26 false x23 (.int .i64 0) fun x24 => eIfV x24
  (K x23)
  (kern_step_unlink_p1 C K x1 x12 x13)) H) H
noncomputable def kern_step_unlink_p3 (C : Cal) (K : SV → ER) (x1 : SV) (x2 : SV) (x4 : SV) : ER :=
  eFieldAddr Tryz.prog 76 x4 0 fun x5 => eFieldAddr Tryz.prog 31 x5 5 fun x6 => eLoad Tryz.prog 9 x6 fun x7 => eCallR Tryz.prog C 96 [x2, x7, (.bool false)] 140 fun x8 => eExtract x8 0 fun x9 => eExtract x8 1 fun x10 => eExtract x8 2 fun x11 => eAlloc Tryz.prog 113 fun x12 => eAlloc Tryz.prog 40 fun x13 => eStore Tryz.prog 113 x12 x9 <| eStore Tryz.prog 40 x13 x10 <| eFieldAddr Tryz.prog 40 x13 2 fun x14 => eFieldAddr Tryz.prog 113 x12 0 fun x15 => eLoad Tryz.prog 3 x14 fun x16 => kern_step_unlink_p2 C K x1 x11 x12 x13 x15 x16
noncomputable def kern_step_unlink_e (C : Cal) (N : Nat) (a0 : SV) (K : SV → ER) : ER :=
  eBox Tryz.prog 70 a0 fun x1 => eLoad Tryz.prog 70 x1 fun x2 => eLoad Tryz.prog 70 x1 fun x3 => eNilCk x3 fun x4 => kern_step_unlink_p3 C K x1 x2 x4
theorem kern_step_unlink_ee (C : Cal) (N : Nat) (a0 : SV) (K : SV → ER) : eBody Tryz.prog C N Tryz.f37 (Tryz.f37.body.getD .skip) kern_step_unlink_ea [a0] K = kern_step_unlink_e C N a0 K := by kernel_rfl
noncomputable def l37 : LeafT := fun C N args K => match args with
  | [a0] => kern_step_unlink_e C N a0 K
  | _ => eF
theorem lok37 : LeafOk Tryz.prog 37 l37 := ⟨Tryz.f37, Tryz.f37.body.getD .skip, kern_step_unlink_ea, Tryz.func37, by kernel_rfl, Tryz.call37, fun C N args K H e => by
  unfold l37 at e
  split at e
  · rw [kern_step_unlink_ee]; exact e
  · exact eF_no e⟩

/- (*halberd/kern.step).rename -/
def kern_step_rename_ea : Ann := .two (.none) (.two (.ord [0, 1, 2, 3, 4, 5, 6, 7, 8, 9, 10, 11, 12, 13, 14, 15]) (.two (.two (.none) (.two (.none) (.two (.two (.none) (.none)) (.none)))) (.two (.ord [0, 1, 2, 3, 4, 5, 6, 7, 8, 9, 10, 11, 12]) (.two (.two (.none) (.two (.none) (.two (.two (.none) (.none)) (.none)))) (.two (.two (.ord [1, 5, 0, 2, 4, 6, 3, 7, 8, 9, 10]) (.two (.none) (.two (.two (.none) (.none)) (.none)))) (.two (.two (.none) (.two (.two (.none) (.none)) (.none))) (.two (.ord [7, 0, 1, 2, 3, 4, 5, 6, 8, 9, 10, 11, 12, 13, 14, 15, 16]) (.join (.none) (.join (.two (.none) (.two (.none) (.two (.none) (.two (.none) (.none))))) (.two (.two (.none) (.two (.two (.none) (.none)) (.none))) (.two (.ord [2, 6, 10, 14, 0, 1, 3, 5, 7, 9, 11, 13, 15, 4, 8, 12, 16, 17, 18]) (.two (.none) (.none)))) [(5, .any)]) [(5, .any)]))))))))
noncomputable def kern_step_rename_p0 (C : Cal) (x1 : SV) (k70 : SV × Unit → ER) (x13 : SV) (x30 : SV) : ER :=
  eLoad Tryz.prog 70 x1 fun x75 => eFieldAddr Tryz.prog 113 x30 0 fun x76 => eLoad Tryz.prog 3 x76 fun x77 => eFieldAddr Tryz.prog 40 x13 0 fun x78 => eLoad Tryz.prog 3 x78 fun x79 => eCallR Tryz.prog C 106 [x75, x77, x79] 4 fun x80 => eCallR Tryz.prog C 71 [x80, (.int .i64 22)] 26 fun x81 => eHas .any x81 (k70 (x81, ()))
noncomputable def kern_step_rename_p1 (C : Cal) (x1 : SV) (k83 : SV × Unit → ER) (s71 : SV × Unit) (x13 : SV) (x68 : SV) : ER :=
  eLoad Tryz.prog 70 x1 fun x86 => eLoad Tryz.prog 40 x13 fun x87 => eLoad Tryz.prog 40 x68 fun x88 => eCallR Tryz.prog C 107 [x86, x87, x88] 26 fun x89 => eBuildSlice Tryz.prog 164 2 [(0, s71.1), (1, x89)] fun x90 => eCallR Tryz.prog C 70 [x90] 26 fun x91 => eHas .any x91 (k83 (x91, ()))
noncomputable def kern_step_rename_p2 (C : Cal) (x1 : SV) (k83 : SV × Unit → ER) (s71 : SV × Unit) (x30 : SV) : ER :=
  eLoad Tryz.prog 70 x1 fun x97 => eFieldAddr Tryz.prog 113 x30 0 fun x98 => eLoad Tryz.prog 3 x98 fun x99 => eCallR Tryz.prog C 81 [x97, x99] 26 fun x100 => eBuildSlice Tryz.prog 164 2 [(0, s71.1), (1, x100)] fun x101 => eCallR Tryz.prog C 70 [x101] 26 fun x102 => eHas .any x102 (k83 (x102, ()))
noncomputable def kern_step_rename_p3 (C : Cal) (x1 : SV) (k83 : SV × Unit → ER) (s71 : SV × Unit) (x12 : SV) (x30 : SV) : ER :=
  eFieldAddr Tryz.prog 113 x12 0 fun x92 => eLoad Tryz.prog 3 x92 fun x93 => eFieldAddr Tryz.prog 113 x30 0 fun x94 => eLoad Tryz.prog 3 x94 fun x95 => eBin Tryz.prog .neq 3 false x93 x95 fun x96 => eIfV x96
  (kern_step_rename_p2 C x1 k83 s71 x30)
  (eHas .any s71.1 (k83 (s71.1, ())))
noncomputable def kern_step_rename_p4 (C : Cal) (K : SV → ER) (x1 : SV) (x12 : SV) (x13 : SV) (x30 : SV) (x69 : SV) (x107 : SV) (x108 : SV) (x115 : SV) (x116 : SV) (x117 : SV) (x118 : SV) (x119 : SV) : ER :=
  fun H => eLoadF Tryz.prog 3 x107 x116 H && (fun H => eLoadF Tryz.prog 70 x1 x115 H && (fun H => eLoadF Tryz.prog 70 x1 x108 H && (eCallR Tryz.prog C 75 [x115, x116] 126 fun x120 => fun H => eLoadF Tryz.prog 70 x1 x108 H && (eBuildSlice Tryz.prog 166 4 [(0, x117), (1, x118), (2, x119), (3, x120)] fun x121 => eCallR Tryz.prog C 74 [x108, (.int .i64 6), x121] 0 fun x122 => eLoad Tryz.prog 70 x1 fun x123 => eCallR Tryz.prog C 86 [x123, (.fn 108 [] [x69, x1, x30, x12, x13])] 26 fun x124 => K x124) H) H) H) H
noncomputable def kern_step_rename_p5 (C : Cal) (K : SV → ER) (x1 : SV) (x12 : SV) (x13 : SV) (x30 : SV) (x69 : SV) (x105 : SV) (x106 : SV) (x107 : SV) (x108 : SV) (x111 : SV) (x112 : SV) (x113 : SV) (x114 : SV) (x115 : SV) (x116 : SV) (x117 : SV) : ER :=
  fun H => eLoadF Tryz.prog 3 x107 x116 H && (fun H => eLoadF Tryz.prog 70 x1 x115 H && (fun H => eLoadF Tryz.prog 3 x106 x114 H && (fun H => eLoadF Tryz.prog 70 x1 x113 H && (fun H => eLoadF Tryz.prog 3 x105 x112 H && (fun H => eLoadF Tryz.prog 70 x1 x111 H && (fun H => eLoadF Tryz.prog 70 x1 x108 H && (eCallR Tryz.prog C 75 [x111, x112] 126 fun x118 => fun H => eLoadF Tryz.prog 3 x107 x116 H && (fun H => eLoadF Tryz.prog 70 x1 x115 H && (fun H => eLoadF Tryz.prog 3 x106 x114 H && (fun H => eLoadF Tryz.prog 70 x1 x113 H && (fun H => eLoadF Tryz.prog 70 x1 x108 H && (eCallR Tryz.prog C 75 [x113, x114] 126 fun x119 => kern_step_rename_p4 C K x1 x12 x13 x30 x69 x107 x108 x115 x116 x117 x118 x119) H) H) H) H) H) H) H) H) H) H) H) H
noncomputable def kern_step_rename_p6 (C : Cal) (K : SV → ER) (x1 : SV) (x12 : SV) (x13 : SV) (x30 : SV) (x69 : SV) (x104 : SV) (x105 : SV) (x106 : SV) : ER :=
  eFieldAddr Tryz.prog 113 x30 2 fun x107 => eLoad Tryz.prog 70 x1 fun x108 => eLoad Tryz.prog 70 x1 fun x109 => eLoad Tryz.prog 3 x104 fun x110 => eLoad Tryz.prog 70 x1 fun x111 => eLoad Tryz.prog 3 x105 fun x112 => eLoad Tryz.prog 70 x1 fun x113 => eLoad Tryz.prog 3 x106 fun x114 => eLoad Tryz.prog 70 x1 fun x115 => eLoad Tryz.prog 3 x107 fun x116 => eCallR Tryz.prog C 75 [x109, x110] 126 fun x117 => kern_step_rename_p5 C K x1 x12 x13 x30 x69 x105 x106 x107 x108 x111 x112 x113 x114 x115 x116 x117
noncomputable def kern_step_rename_p7 (C : Cal) (K : SV → ER) (x1 : SV) (s84 : SV × Unit) (x12 : SV) (x13 : SV) (x30 : SV) (x69 : SV) : ER :=
  eBin Tryz.prog .neq 26 false s84.1 (.int .i64 0) fun x103 => eIfV x103
  (K s84.1)
  (eFieldAddr Tryz.prog 113 x12 0 fun x104 => eFieldAddr Tryz.prog 40 x13 0 fun x105 => eFieldAddr Tryz.prog 113 x30 0 fun x106 => kern_step_rename_p6 C K x1 x12 x13 x30 x69 x104 x105 x106)
noncomputable def kern_step_rename_p8 (C : Cal) (x1 : SV) (k70 : SV × Unit → ER) (x13 : SV) (x30 : SV) : ER :=
  eFieldAddr Tryz.prog 40 x13 2 fun x72 => eLoad Tryz.prog 3 x72 fun x73 => eBin Tryz.prog .eql 3 false x73 (.int .i64 2) fun x74 => eIfV x74
  (kern_step_rename_p0 C x1 k70 x13 x30)
  (eCallR Tryz.prog C 71 [(.bool false), (.int .i64 22)] 26 fun x82 => eHas .any x82 (k70 (x82, ())))
noncomputable def kern_step_rename_p9 (C : Cal) (K : SV → ER) (x1 : SV) (s71 : SV × Unit) (x12 : SV) (x13 : SV) (x30 : SV) (x68 : SV) (x69 : SV) : ER :=
  eJoinC (σ := SV × Unit) (fun (k83 : SV × Unit → ER) =>
  eLoad Tryz.prog 4 x69 fun x85 => eIfV x85
  (kern_step_rename_p1 C x1 k83 s71 x13 x68)
  (kern_step_rename_p3 C x1 k83 s71 x12 x30)) fun (s84 : SV × Unit) =>
  kern_step_rename_p7 C K x1 s84 x12 x13 x30 x69
noncomputable def kern_step_rename_p10 (C : Cal) (K : SV → ER) (x1 : SV) (x12 : SV) (x13 : SV) (x30 : SV) (x56 : SV) (x60 : SV) : ER :=
  eNilCk x60 fun x61 => eFieldAddr Tryz.prog 58 x61 0 fun x62 => eLoad Tryz.prog 53 x62 fun x63 => eLoad Tryz.prog 3 x56 fun x64 => eCallR Tryz.prog C 18 [x63, x64] 77 fun x65 => eExtract x65 0 fun x66 => eExtract x65 1 fun x67 => eAlloc Tryz.prog 40 fun x68 => eAlloc Tryz.prog 4 fun x69 => eStore Tryz.prog 40 x68 x66 <| eStore Tryz.prog 4 x69 x67 <| eJoinC (σ := SV × Unit) (fun (k70 : SV × Unit → ER) =>
  kern_step_rename_p8 C x1 k70 x13 x30) fun (s71 : SV × Unit) =>
  kern_step_rename_p9 C K x1 s71 x12 x13 x30 x68 x69
noncomputable def kern_step_rename_p11 (C : Cal) (K : SV → ER) (x1 : SV) (x12 : SV) (x13 : SV) (x30 : SV) : ER :=
  eFieldAddr Tryz.prog 113 x30 2 fun x56 => eLoad Tryz.prog 70 x1 fun x57 => eNilCk x57 fun x58 => eFieldAddr Tryz.prog 76 x58 1 fun x59 => eLoad Tryz.prog 23 x59 fun x60 => kern_step_rename_p10 C K x1 x12 x13 x30 x56 x60
noncomputable def kern_step_rename_p12 (C : Cal) (K : SV → ER) (x1 : SV) (x12 : SV) (x13 : SV) (x30 : SV) : ER :=
  eFieldAddr Tryz.prog 113 x30 2 fun x49 => eLoad Tryz.prog 3 x49 fun x50 => eFieldAddr Tryz.prog 40 x13 0 fun x51 => eLoad Tryz.prog 3 x51 fun x52 => eBin Tryz.prog .eql 3 false x50 x52 fun x53 => eIfV x53
  (eLoad Tryz.prog 70 x1 fun x54 => eCallR Tryz.prog C 86 [x54, (.fn 105 [] [])] 26 fun x55 => K x55)
  (kern_step_rename_p11 C K x1 x12 x13 x30)
noncomputable def kern_step_rename_p13 (C : Cal) (K : SV → ER) (x1 : SV) (x12 : SV) (x13 : SV) (x30 : SV) (x38 : SV) (x39 : SV) (x40 : SV) : ER :=
  eLoad Tryz.prog 3 x38 fun x41 => eLoad Tryz.prog 70 x1 fun x42 => eLoad Tryz.prog 3 x39 fun x43 => eCallR Tryz.prog C 72 [x40, x41, (.int .i64 2)] 26 fun x44 => fun H => eLoadF Tryz.prog 3 x39 x43 H && (fun H => eLoadF Tryz.prog 70 x1 x42 H && (eCallR Tryz.prog C 72 [x42, x43, (.int .i64 2)] 26 fun x45 => eBuildSlice Tryz.prog 164 2 [(0, x44), (1, x45)] fun x46 => eCallR Tryz.prog C 70 [x46] 26 fun x47 => eBin Tryz.prog .neq 26 false x47 (.int .i64 0) fun x48 => eIfV x48
  (K x47)
  (kern_step_rename_p12 C K x1 x12 x13 x30)) H) H
noncomputable def kern_step_rename_p14 (C : Cal) (K : SV → ER) (x1 : SV) (x12 : SV) (x13 : SV) (x29 : SV) (x30 : SV) : ER :=
  eFieldAddr Tryz.prog 113 x30 1 fun x31 => eLoad Tryz.prog 9 x31 fun x32 => eBin Tryz.prog .eql 9 false x32 (.str []) fun x33 => eCallR Tryz.prog C 71 [x33, (.int .i64 16)] 26 fun x34 => eBuildSlice Tryz.prog 164 2 [(0, x29), (1, x34)] fun x35 => eCallR Tryz.prog C 70 [x35] 26 fun x36 => eBin Tryz.prog .neq 26 false x36 (.int .i64 0) fun x37 => eIfV x37
  (K x36)
  (eFieldAddr Tryz.prog 113 x12 0 fun x38 => eFieldAddr Tryz.prog 113 x30 0 fun x39 => eLoad Tryz.prog 70 x1 fun x40 => kern_step_rename_p13 C K x1 x12 x13 x30 x38 x39 x40)
noncomputable def kern_step_rename_p15 (C : Cal) (K : SV → ER) (x1 : SV) (x12 : SV) (x13 : SV) : ER :=
  eLoad Tryz.prog 70 x1 fun x21 => eLoad Tryz.prog 70 x1 fun x22 => eNilCk x22 fun x23 => eFieldAddr Tryz.prog 76 x23 0 fun x24 => eFieldAddr Tryz.prog 31 x24 6 fun x25 => eLoad Tryz.prog 9 x25 fun x26 => eCallR Tryz.prog C 69 [x21, x26, (.bool false)] 114 fun x27 => eExtract x27 0 fun x28 => eExtract x27 1 fun x29 => eAlloc Tryz.prog 113 fun x30 => eStore Tryz.prog 113 x30 x28 <| kern_step_rename_p14 C K x1 x12 x13 x29 x30
noncomputable def kern_step_rename_p16 (C : Cal) (K : SV → ER) (x1 : SV) (x9 : SV) (x10 : SV) (x11 : SV) : ER :=
  eAlloc Tryz.prog 113 fun x12 => eAlloc Tryz.prog 40 fun x13 => eStore Tryz.prog 113 x12 x9 <| eStore Tryz.prog 40 x13 x10 <| eFieldAddr Tryz.prog 113 x12 1 fun x14 => eLoad Tryz.prog 9 x14 fun x15 => eBin Tryz.prog .eql 9 false x15 (.str []) fun x16 => eCallR Tryz.prog C 71 [x16, (.int .i64 16)] 26 fun x17 => eBuildSlice Tryz.prog 164 2 [(0, x11), (1, x17)] fun x18 => eCallR Tryz.prog C 70 [x18] 26 fun x19 => eBin Tryz.prog .neq 26 false x19 (.int .i64 0) fun x20 => eIfV x20
  (K x19)
  (kern_step_rename_p15 C K x1 x12 x13)
noncomputable def kern_step_rename_e (C : Cal) (N : Nat) (a0 : SV) (K : SV → ER) : ER :=
  eBox Tryz.prog 70 a0 fun x1 => eLoad Tryz.prog 70 x1 fun x2 => eLoad Tryz.prog 70 x1 fun x3 => eNilCk x3 fun x4 => eFieldAddr Tryz.prog 76 x4 0 fun x5 => eFieldAddr Tryz.prog 31 x5 5 fun x6 => eLoad Tryz.prog 9 x6 fun x7 => eCallR Tryz.prog C 96 [x2, x7, (.bool false)] 140 fun x8 => eExtract x8 0 fun x9 => eExtract x8 1 fun x10 => eExtract x8 2 fun x11 => kern_step_rename_p16 C K x1 x9 x10 x11
theorem kern_step_rename_ee (C : Cal) (N : Nat) (a0 : SV) (K : SV → ER) : eBody Tryz.prog C N Tryz.f38 (Tryz.f38.body.getD .skip) kern_step_rename_ea [a0] K = kern_step_rename_e C N a0 K := by kernel_rfl
noncomputable def l38 : LeafT := fun C N args K => match args with
  | [a0] => kern_step_rename_e C N a0 K
  | _ => eF
theorem lok38 : LeafOk Tryz.prog 38 l38 := ⟨Tryz.f38, Tryz.f38.body.getD .skip, kern_step_rename_ea, Tryz.func38, by kernel_rfl, Tryz.call38, fun C N args K H e => by
  unfold l38 at e
  split at e
  · rw [kern_step_rename_ee]; exact e
  · exact eF_no e⟩

/- (*halberd/kern.step).readlink -/
def kern_step_readlink_ea : Ann := .two (.none) (.two (.none) (.two (.two (.none) (.two (.none) (.two (.two (.none) (.none)) (.none)))) (.two (.none) (.two (.none) (.two (.none) (.none))))))
noncomputable def kern_step_readlink_p0 (C : Cal) (K : SV → ER) (a0 : SV) (x10 : SV) : ER :=
  eFieldAddr Tryz.prog 40 x10 0 fun x18 => eLoad Tryz.prog 3 x18 fun x19 => eCallR Tryz.prog C 75 [a0, x19] 126 fun x20 => eCallR Tryz.prog C 76 [(.int .i64 2)] 126 fun x21 => eBuildSlice Tryz.prog 166 2 [(0, x20), (1, x21)] fun x22 => eCallR Tryz.prog C 74 [a0, (.int .i64 16), x22] 0 fun x23 => eNilCk a0 fun x24 => eFieldAddr Tryz.prog 76 x24 4 fun x25 => eStore Tryz.prog 74 x25 (.fn 109 [] [x10]) <| K (.int .i64 0)
noncomputable def kern_step_readlink_p1 (C : Cal) (K : SV → ER) (a0 : SV) (x6 : SV) (x7 : SV) (x8 : SV) : ER :=
  eAlloc Tryz.prog 113 fun x9 => eAlloc Tryz.prog 40 fun x10 => eStore Tryz.prog 113 x9 x6 <| eStore Tryz.prog 40 x10 x7 <| eFieldAddr Tryz.prog 40 x10 2 fun x11 => eLoad Tryz.prog 3 x11 fun x12 => eBin Tryz.prog .neq 3 false x12 (.int .i64 3) fun x13 => eCallR Tryz.prog C 71 [x13, (.int .i64 22)] 26 fun x14 => eBuildSlice Tryz.prog 164 2 [(0, x8), (1, x14)] fun x15 => eCallR Tryz.prog C 70 [x15] 26 fun x16 => eBin Tryz.prog .neq 26 false x16 (.int .i64 0) fun x17 => eIfV x17
  (K x16)
  (kern_step_readlink_p0 C K a0 x10)
noncomputable def kern_step_readlink_e (C : Cal) (N : Nat) (a0 : SV) (K : SV → ER) : ER :=
  eNilCk a0 fun x1 => eFieldAddr Tryz.prog 76 x1 0 fun x2 => eFieldAddr Tryz.prog 31 x2 5 fun x3 => eLoad Tryz.prog 9 x3 fun x4 => eCallR Tryz.prog C 96 [a0, x4, (.bool false)] 140 fun x5 => eExtract x5 0 fun x6 => eExtract x5 1 fun x7 => eExtract x5 2 fun x8 => kern_step_readlink_p1 C K a0 x6 x7 x8
theorem kern_step_readlink_ee (C : Cal) (N : Nat) (a0 : SV) (K : SV → ER) : eBody Tryz.prog C N Tryz.f39 (Tryz.f39.body.getD .skip) kern_step_readlink_ea [a0] K = kern_step_readlink_e C N a0 K := by kernel_rfl
noncomputable def l39 : LeafT := fun C N args K => match args with
  | [a0] => kern_step_readlink_e C N a0 K
  | _ => eF
theorem lok39 : LeafOk Tryz.prog 39 l39 := ⟨Tryz.f39, Tryz.f39.body.getD .skip, kern_step_readlink_ea, Tryz.func39, by kernel_rfl, Tryz.call39, fun C N args K H e => by
  unfold l39 at e
  split at e
  · rw [kern_step_readlink_ee]; exact e
  · exact eF_no e⟩

/- (*halberd/kern.step).stat -/
def kern_step_stat_ea : Ann := .two (.none) (.two (.none) (.two (.two (.none) (.two (.two (.none) (.none)) (.none))) (.two (.none) (.two (.none) (.two (.none) (.none))))))
noncomputable def kern_step_stat_p0 (C : Cal) (K : SV → ER) (a0 : SV) (x10 : SV) : ER :=
  eFieldAddr Tryz.prog 40 x10 0 fun x12 => eLoad Tryz.prog 3 x12 fun x13 => eCallR Tryz.prog C 75 [a0, x13] 126 fun x14 => eCallR Tryz.prog C 76 [(.int .i64 1)] 126 fun x15 => eBuildSlice Tryz.prog 166 2 [(0, x14), (1, x15)] fun x16 => eCallR Tryz.prog C 74 [a0, (.int .i64 16), x16] 0 fun x17 => eNilCk a0 fun x18 => eFieldAddr Tryz.prog 76 x18 4 fun x19 => eStore Tryz.prog 74 x19 (.fn 110 [] [x10]) <| K (.int .i64 0)
noncomputable def kern_step_stat_e (C : Cal) (N : Nat) (a0 : SV) (K : SV → ER) : ER :=
  eNilCk a0 fun x1 => eFieldAddr Tryz.prog 76 x1 0 fun x2 => eFieldAddr Tryz.prog 31 x2 5 fun x3 => eLoad Tryz.prog 9 x3 fun x4 => eCallR Tryz.prog C 96 [a0, x4, (.bool true)] 140 fun x5 => eExtract x5 0 fun x6 => eExtract x5 1 fun x7 => eExtract x5 2 fun x8 => eAlloc Tryz.prog 113 fun x9 => eAlloc Tryz.prog 40 fun x10 => eStore Tryz.prog 113 x9 x6 <| eStore Tryz.prog 40 x10 x7 <| eBin Tryz.prog .neq 26 false x8 (.int .i64 0) fun x11 => eIfV x11
  (K x8)
  (kern_step_stat_p0 C K a0 x10)
theorem kern_step_stat_ee (C : Cal) (N : Nat) (a0 : SV) (K : SV → ER) : eBody Tryz.prog C N Tryz.f40 (Tryz.f40.body.getD .skip) kern_step_stat_ea [a0] K = kern_step_stat_e C N a0 K := by kernel_rfl
noncomputable def l40 : LeafT := fun C N args K => match args with
  | [a0] => kern_step_stat_e C N a0 K
  | _ => eF
theorem lok40 : LeafOk Tryz.prog 40 l40 := ⟨Tryz.f40, Tryz.f40.body.getD .skip, kern_step_stat_ea, Tryz.func40, by kernel_rfl, Tryz.call40, fun C N args K H e => by
  unfold l40 at e
  split at e
  · rw [kern_step_stat_ee]; exact e
  · exact eF_no e⟩

/- (*halberd/kern.step).chmod -/
def kern_step_chmod_ea : Ann := .two (.none) (.two (.two (.none) (.two (.two (.none) (.none)) (.none))) (.two (.ord [0, 1, 2, 3, 4, 5, 6, 7, 8, 9, 10, 11, 12, 13, 14, 15]) (.two (.two (.ord [0, 1, 2, 3, 4, 5, 6, 7, 8, 9, 10, 11, 12]) (.two (.none) (.two (.two (.none) (.none)) (.none)))) (.two (.ord [1, 8, 0, 2, 3, 4, 5, 6, 7, 9, 10]) (.none)))))
noncomputable def kern_step_chmod_p0 (C : Cal) (K : SV → ER) (x1 : SV) (x20 : SV) : ER :=
  eFieldAddr Tryz.prog 40 x20 0 fun x33 => eLoad Tryz.prog 70 x1 fun x34 => eLoad Tryz.prog 3 x33 fun x35 => eLoad Tryz.prog 70 x1 fun x36 => eNilCk x36 fun x37 => eFieldAddr Tryz.prog 76 x37 0 fun x38 => eFieldAddr Tryz.prog 31 x38 2 fun x39 => eLoad Tryz.prog 3 x39 fun x40 => eCallR Tryz.prog C 113 [x34, x35, (.int .i64 1), x40, (.int .i64 0), (.fn 114 [] [x1, x20])] 26 fun x41 => K x41
noncomputable def kern_step_chmod_p1 (C : Cal) (K : SV → ER) (x1 : SV) (x18 : SV) (x20 : SV) (x21 : SV) : ER :=
  eNilCk x21 fun x22 => eFieldAddr Tryz.prog 76 x22 2 fun x23 => eFieldAddr Tryz.prog 50 x23 3 fun x24 => eLoad Tryz.prog 3 x24 fun x25 => eLoad Tryz.prog 40 x20 fun x26 => eCallR Tryz.prog C 112 [x25, x26] 4 fun x27 => eUnS .not x27 fun x28 => eCallR Tryz.prog C 71 [x28, (.int .i64 1)] 26 fun x29 => eBuildSlice Tryz.prog 164 2 [(0, x18), (1, x29)] fun x30 => eCallR Tryz.prog C 70 [x30] 26 fun x31 => eBin Tryz.prog .neq 26 false x31 (.int .i64 0) fun x32 => eIfV x32
  (K x31)
  (kern_step_chmod_p0 C K x1 x20)
noncomputable def kern_step_chmod_p2 (C : Cal) (K : SV → ER) (x1 : SV) (x9 : SV) : ER :=
  eLoad Tryz.prog 70 x1 fun x10 => eNilCk x10 fun x11 => eFieldAddr Tryz.prog 76 x11 0 fun x12 => eFieldAddr Tryz.prog 31 x12 5 fun x13 => eLoad Tryz.prog 9 x13 fun x14 => eCallR Tryz.prog C 96 [x9, x14, (.bool true)] 140 fun x15 => eExtract x15 0 fun x16 => eExtract x15 1 fun x17 => eExtract x15 2 fun x18 => eAlloc Tryz.prog 113 fun x19 => eAlloc Tryz.prog 40 fun x20 => eStore Tryz.prog 113 x19 x16 <| eStore Tryz.prog 40 x20 x17 <| eLoad Tryz.prog 70 x1 fun x21 => kern_step_chmod_p1 C K x1 x18 x20 x21
noncomputable def kern_step_chmod_e (C : Cal) (N : Nat) (a0 : SV) (K : SV → ER) : ER :=
  eBox Tryz.prog 70 a0 fun x1 => eLoad Tryz.prog 70 x1 fun x2 => eNilCk x2 fun x3 => eFieldAddr Tryz.prog 76 x3 0 fun x4 => eFieldAddr Tryz.prog 31 x4 2 fun x5 => eLoad Tryz.prog 3 x5 fun x6 => eCallR Tryz.prog C 68 [x6, (.int .i64 0), (.int .i64 511)] 4 fun x7 => eUnS .not x7 fun x8 => eIfV x8
  (K (.int .i64 22))
  (eLoad Tryz.prog 70 x1 fun x9 => kern_step_chmod_p2 C K x1 x9)
theorem kern_step_chmod_ee (C : Cal) (N : Nat) (a0 : SV) (K : SV → ER) : eBody Tryz.prog C N Tryz.f41 (Tryz.f41.body.getD .skip) kern_step_chmod_ea [a0] K = kern_step_chmod_e C N a0 K := by kernel_rfl
noncomputable def l41 : LeafT := fun C N args K => match args with
  | [a0] => kern_step_chmod_e C N a0 K
  | _ => eF
theorem lok41 : LeafOk Tryz.prog 41 l41 := ⟨Tryz.f41, Tryz.f41.body.getD .skip, kern_step_chmod_ea, Tryz.func41, by kernel_rfl, Tryz.call41, fun C N args K H e => by
  unfold l41 at e
  split at e
  · rw [kern_step_chmod_ee]; exact e
  · exact eF_no e⟩

/- (*halberd/kern.step).chown -/
def kern_step_chown_ea : Ann := .two (.none) (.two (.join (.none) (.two (.two (.none) (.none)) (.none)) [(22, .any)]) (.two (.ord [0, 1, 2, 3, 4, 5, 6, 7, 8, 9, 10, 11, 12, 13, 14, 15]) (.two (.two (.none) (.two (.none) (.two (.two (.none) (.none)) (.none)))) (.two (.ord [1, 13, 0, 2, 3, 4, 5, 6, 7, 8, 9, 10, 11, 12, 14, 15]) (.none)))))
noncomputable def kern_step_chown_p0 (C : Cal) (k2 : SV × Unit → ER) (x1 : SV) : ER :=
  eLoad Tryz.prog 70 x1 fun x11 => eNilCk x11 fun x12 => eFieldAddr Tryz.prog 76 x12 0 fun x13 => eFieldAddr Tryz.prog 31 x13 3 fun x14 => eLoad Tryz.prog 3 x14 fun x15 => eCallR Tryz.prog C 68 [x15, (.int .i64 0), (.int .i64 65535)] 4 fun x16 => eUnS .not x16 fun x17 => eHas .any x17 (k2 (x17, ()))
noncomputable def kern_step_chown_p1 (C : Cal) (K : SV → ER) (x1 : SV) (x29 : SV) (x40 : SV) : ER :=
  eLoad Tryz.prog 70 x1 fun x41 => eLoad Tryz.prog 3 x40 fun x42 => eLoad Tryz.prog 70 x1 fun x43 => eNilCk x43 fun x44 => eFieldAddr Tryz.prog 76 x44 0 fun x45 => eFieldAddr Tryz.prog 31 x45 2 fun x46 => eLoad Tryz.prog 3 x46 fun x47 => eLoad Tryz.prog 70 x1 fun x48 => eNilCk x48 fun x49 => eFieldAddr Tryz.prog 76 x49 0 fun x50 => eFieldAddr Tryz.prog 31 x50 3 fun x51 => eLoad Tryz.prog 3 x51 fun x52 => eCallR Tryz.prog C 113 [x41, x42, (.int .i64 2), x47, x52, (.fn 116 [] [x1, x29])] 26 fun x53 => K x53
noncomputable def kern_step_chown_p2 (C : Cal) (K : SV → ER) (x1 : SV) (x27 : SV) (x29 : SV) (x30 : SV) : ER :=
  eNilCk x30 fun x31 => eFieldAddr Tryz.prog 76 x31 2 fun x32 => eFieldAddr Tryz.prog 50 x32 3 fun x33 => eLoad Tryz.prog 3 x33 fun x34 => eBin Tryz.prog .neq 3 false x34 (.int .i64 0) fun x35 => eCallR Tryz.prog C 71 [x35, (.int .i64 1)] 26 fun x36 => eBuildSlice Tryz.prog 164 2 [(0, x27), (1, x36)] fun x37 => eCallR Tryz.prog C 70 [x37] 26 fun x38 => eBin Tryz.prog .neq 26 false x38 (.int .i64 0) fun x39 => eIfV x39
  (K x38)
  (eFieldAddr Tryz.prog 40 x29 0 fun x40 => kern_step_chown_p1 C K x1 x29 x40)
noncomputable def kern_step_chown_p3 (C : Cal) (K : SV → ER) (x1 : SV) (x18 : SV) : ER :=
  eLoad Tryz.prog 70 x1 fun x19 => eNilCk x19 fun x20 => eFieldAddr Tryz.prog 76 x20 0 fun x21 => eFieldAddr Tryz.prog 31 x21 5 fun x22 => eLoad Tryz.prog 9 x22 fun x23 => eCallR Tryz.prog C 96 [x18, x23, (.bool true)] 140 fun x24 => eExtract x24 0 fun x25 => eExtract x24 1 fun x26 => eExtract x24 2 fun x27 => eAlloc Tryz.prog 113 fun x28 => eAlloc Tryz.prog 40 fun x29 => eStore Tryz.prog 113 x28 x25 <| eStore Tryz.prog 40 x29 x26 <| eLoad Tryz.prog 70 x1 fun x30 => kern_step_chown_p2 C K x1 x27 x29 x30
noncomputable def kern_step_chown_p4 (C : Cal) (k2 : SV × Unit → ER) (x1 : SV) : ER :=
  eLoad Tryz.prog 70 x1 fun x4 => eNilCk x4 fun x5 => eFieldAddr Tryz.prog 76 x5 0 fun x6 => eFieldAddr Tryz.prog 31 x6 2 fun x7 => eLoad Tryz.prog 3 x7 fun x8 => eCallR Tryz.prog C 68 [x8, (.int .i64 0), (.int .i64 65535)] 4 fun x9 => eUnS .not x9 fun x10 => eIfV x10
  (eHas .any (.bool true) (k2 ((.bool true), ())))
  (kern_step_chown_p0 C k2 x1)
noncomputable def kern_step_chown_e (C : Cal) (N : Nat) (a0 : SV) (K : SV → ER) : ER :=
  eBox Tryz.prog 70 a0 fun x1 => eJoinC (σ := SV × Unit) (fun (k2 : SV × Unit → ER) =>
  kern_step_chown_p4 C k2 x1) fun (s3 : SV × Unit) =>
  eIfV s3.1
  (K (.int .i64 22))
  (eLoad Tryz.prog 70 x1 fun x18 => kern_step_chown_p3 C K x1 x18)
theorem kern_step_chown_ee (C : Cal) (N : Nat) (a0 : SV) (K : SV → ER) : eBody Tryz.prog C N Tryz.f42 (Tryz.f42.body.getD .skip) kern_step_chown_ea [a0] K = kern_step_chown_e C N a0 K := by kernel_rfl
noncomputable def l42 : LeafT := fun C N args K => match args with
  | [a0] => kern_step_chown_e C N a0 K
  | _ => eF
theorem lok42 : LeafOk Tryz.prog 42 l42 := ⟨Tryz.f42, Tryz.f42.body.getD .skip, kern_step_chown_ea, Tryz.func42, by kernel_rfl, Tryz.call42, fun C N args K H e => by
  unfold l42 at e
  split at e
  · rw [kern_step_chown_ee]; exact e
  · exact eF_no e⟩

end Go.Proofs.YtnpcjhcgbcpcoaaGreatDoor

set_option linter.unusedVariables false
set_option maxRecDepth 100000
namespace Go.Proofs.YtnpcjhcgbcpcoaaGreatDoor
open Go.Hl
/- (*halberd/kern.step).truncate -/
def kern_step_truncate_ea : Ann := .two (.none) (.two (.two (.ord [0, 1, 2, 3, 4, 5, 7, 8, 9, 10, 11, 12, 6, 13, 14, 15, 16]) (.two (.none) (.two (.two (.none) (.none)) (.none)))) (.two (.ord [0, 1, 2, 3, 4, 5, 6, 7, 8, 9, 10, 11, 12, 13, 14, 15]) (.two (.two (.ord [0, 1, 6, 2, 3, 5, 7, 4, 8, 9, 10, 11]) (.two (.none) (.two (.two (.none) (.none)) (.none)))) (.two (.ord [1, 8, 0, 2, 3, 4, 5, 6, 7, 9, 10]) (.none)))))
noncomputable def kern_step_truncate_p0 (C : Cal) (K : SV → ER) (x1 : SV) (x30 : SV) : ER :=
  eFieldAddr Tryz.prog 40 x30 0 fun x42 => eLoad Tryz.prog 70 x1 fun x43 => eLoad Tryz.prog 3 x42 fun x44 => eLoad Tryz.prog 70 x1 fun x45 => eNilCk x45 fun x46 => eFieldAddr Tryz.prog 76 x46 0 fun x47 => eFieldAddr Tryz.prog 31 x47 2 fun x48 => eLoad Tryz.prog 3 x48 fun x49 => eCallR Tryz.prog C 113 [x43, x44, (.int .i64 3), x49, (.int .i64 0), (.fn 117 [] [x1, x30])] 26 fun x50 => K x50
noncomputable def kern_step_truncate_p1 (C : Cal) (K : SV → ER) (x1 : SV) (x28 : SV) (x30 : SV) (x32 : SV) (x33 : SV) : ER :=
  eBin Tryz.prog .eql 3 false x33 (.int .i64 2) fun x34 => eLoad Tryz.prog 70 x1 fun x35 => eLoad Tryz.prog 3 x32 fun x36 => eCallR Tryz.prog C 71 [x34, (.int .i64 21)] 26 fun x37 => fun H => eLoadF Tryz.prog 3 x32 x36 H && (fun H => eLoadF Tryz.prog 70 x1 x35 H && (eCallR Tryz.prog C 72 [x35, x36, (.int .i64 2)] 26 fun x38 => eBuildSlice Tryz.prog 164 3 [(0, x28), (1, x37), (2, x38)] fun x39 => eCallR Tryz.prog C 70 [x39] 26 fun x40 => eBin Tryz.prog .neq 26 false x40 (.int .i64 0) fun x41 => eIfV x41
  (K x40)
  (kern_step_truncate_p0 C K x1 x30)) H) H
noncomputable def kern_step_truncate_p2 (C : Cal) (K : SV → ER) (x1 : SV) (x19 : SV) (x21 : SV) : ER :=
  eFieldAddr Tryz.prog 76 x21 0 fun x22 => eFieldAddr Tryz.prog 31 x22 5 fun x23 => eLoad Tryz.prog 9 x23 fun x24 => eCallR Tryz.prog C 96 [x19, x24, (.bool true)] 140 fun x25 => eExtract x25 0 fun x26 => eExtract x25 1 fun x27 => eExtract x25 2 fun x28 => eAlloc Tryz.prog 113 fun x29 => eAlloc Tryz.prog 40 fun x30 => eStore Tryz.prog 113 x29 x26 <| eStore Tryz.prog 40 x30 x27 <| eFieldAddr Tryz.prog 40 x30 2 fun x31 => eFieldAddr Tryz.prog 40 x30 0 fun x32 => eLoad Tryz.prog 3 x31 fun x33 => kern_step_truncate_p1 C K x1 x28 x30 x32 x33
noncomputable def kern_step_truncate_p3 (C : Cal) (K : SV → ER) (x1 : SV) (x7 : SV) (x8 : SV) (x11 : SV) (x12 : SV) (x13 : SV) : ER :=
  eCallR Tryz.prog C 71 [x7, (.int .i64 22)] 26 fun x14 => fun H => eLoadF Tryz.prog 3 x11 x12 H && (fun H => eLoadF Tryz.prog 70 x1 x8 H && (eCallR Tryz.prog C 71 [x13, (.int .i64 27)] 26 fun x15 => eBuildSlice Tryz.prog 164 2 [(0, x14), (1, x15)] fun x16 => eCallR Tryz.prog C 70 [x16] 26 fun x17 => eBin Tryz.prog .neq 26 false x17 (.int .i64 0) fun x18 => eIfV x18
  (K x17)
  (eLoad Tryz.prog 70 x1 fun x19 => eLoad Tryz.prog 70 x1 fun x20 => eNilCk x20 fun x21 => kern_step_truncate_p2 C K x1 x19 x21)) H) H
noncomputable def kern_step_truncate_e (C : Cal) (N : Nat) (a0 : SV) (K : SV → ER) : ER :=
  eBox Tryz.prog 70 a0 fun x1 => eLoad Tryz.prog 70 x1 fun x2 => eNilCk x2 fun x3 => eFieldAddr Tryz.prog 76 x3 0 fun x4 => eFieldAddr Tryz.prog 31 x4 2 fun x5 => eLoad Tryz.prog 3 x5 fun x6 => eBin Tryz.prog .lss 3 false x6 (.int .i64 0) fun x7 => eLoad Tryz.prog 70 x1 fun x8 => eNilCk x8 fun x9 => eFieldAddr Tryz.prog 76 x9 0 fun x10 => eFieldAddr Tryz.prog 31 x10 2 fun x11 => eLoad Tryz.prog 3 x11 fun x12 => eBin Tryz.prog .gtr 3 false x12 (.int .i64 32) fun x13 => kern_step_truncate_p3 C K x1 x7 x8 x11 x12 x13
theorem kern_step_truncate_ee (C : Cal) (N : Nat) (a0 : SV) (K : SV → ER) : eBody Tryz.prog C N Tryz.f43 (Tryz.f43.body.getD .skip) kern_step_truncate_ea [a0] K = kern_step_truncate_e C N a0 K := by kernel_rfl
noncomputable def l43 : LeafT := fun C N args K => match args with
  | [a0] => kern_step_truncate_e C N a0 K
  | _ => eF
theorem lok43 : LeafOk Tryz.prog 43 l43 := ⟨Tryz.f43, Tryz.f43.body.getD .skip, kern_step_truncate_ea, Tryz.func43, by kernel_rfl, Tryz.call43, fun C N args K H e => by
  unfold l43 at e
  split at e
  · rw [kern_step_truncate_ee]; exact e
  · exact eF_no e⟩

/- (*halberd/kern.step).chdir -/
def kern_step_chdir_ea : Ann := .two (.none) (.two (.ord [0, 1, 2, 3, 4, 5, 6, 7, 8, 9, 10, 11, 12, 13, 14, 15]) (.two (.two (.ord [0, 1, 6, 2, 3, 5, 7, 4, 8, 9, 10, 11]) (.two (.none) (.two (.two (.none) (.none)) (.none)))) (.two (.ord [2, 0, 1, 3, 4, 5, 6]) (.two (.none) (.none)))))
noncomputable def kern_step_chdir_p0 (C : Cal) (K : SV → ER) (x1 : SV) (x13 : SV) : ER :=
  eFieldAddr Tryz.prog 40 x13 0 fun x25 => eLoad Tryz.prog 70 x1 fun x26 => eLoad Tryz.prog 70 x1 fun x27 => eLoad Tryz.prog 3 x25 fun x28 => eCallR Tryz.prog C 75 [x27, x28] 126 fun x29 => fun H => eLoadF Tryz.prog 70 x1 x26 H && (eBuildSlice Tryz.prog 166 1 [(0, x29)] fun x30 => eCallR Tryz.prog C 74 [x26, (.int .i64 15), x30] 0 fun x31 => eLoad Tryz.prog 70 x1 fun x32 => eCallR Tryz.prog C 86 [x32, (.fn 118 [] [x1, x13])] 26 fun x33 => K x33) H
noncomputable def kern_step_chdir_p1 (C : Cal) (K : SV → ER) (x1 : SV) (x11 : SV) (x13 : SV) (x15 : SV) (x16 : SV) : ER :=
  eBin Tryz.prog .neq 3 false x16 (.int .i64 2) fun x17 => eLoad Tryz.prog 70 x1 fun x18 => eLoad Tryz.prog 3 x15 fun x19 => eCallR Tryz.prog C 71 [x17, (.int .i64 20)] 26 fun x20 => fun H => eLoadF Tryz.prog 3 x15 x19 H && (fun H => eLoadF Tryz.prog 70 x1 x18 H && (eCallR Tryz.prog C 72 [x18, x19, (.int .i64 1)] 26 fun x21 => eBuildSlice Tryz.prog 164 3 [(0, x11), (1, x20), (2, x21)] fun x22 => eCallR Tryz.prog C 70 [x22] 26 fun x23 => eBin Tryz.prog .neq 26 false x23 (.int .i64 0) fun x24 => eIfV x24
  (K x23)
  (kern_step_chdir_p0 C K x1 x13)) H) H
noncomputable def kern_step_chdir_p2 (C : Cal) (K : SV → ER) (x1 : SV) (x2 : SV) (x4 : SV) : ER :=
  eFieldAddr Tryz.prog 76 x4 0 fun x5 => eFieldAddr Tryz.prog 31 x5 5 fun x6 => eLoad Tryz.prog 9 x6 fun x7 => eCallR Tryz.prog C 96 [x2, x7, (.bool true)] 140 fun x8 => eExtract x8 0 fun x9 => eExtract x8 1 fun x10 => eExtract x8 2 fun x11 => eAlloc Tryz.prog 113 fun x12 => eAlloc Tryz.prog 40 fun x13 => eStore Tryz.prog 113 x12 x9 <| eStore Tryz.prog 40 x13 x10 <| eFieldAddr Tryz.prog 40 x13 2 fun x14 => eFieldAddr Tryz.prog 40 x13 0 fun x15 => eLoad Tryz.prog 3 x14 fun x16 => kern_step_chdir_p1 C K x1 x11 x13 x15 x16
noncomputable def kern_step_chdir_e (C : Cal) (N : Nat) (a0 : SV) (K : SV → ER) : ER :=
  eBox Tryz.prog 70 a0 fun x1 => eLoad Tryz.prog 70 x1 fun x2 => eLoad Tryz.prog 70 x1 fun x3 => eNilCk x3 fun x4 => kern_step_chdir_p2 C K x1 x2 x4
theorem kern_step_chdir_ee (C : Cal) (N : Nat) (a0 : SV) (K : SV → ER) : eBody Tryz.prog C N Tryz.f44 (Tryz.f44.body.getD .skip) kern_step_chdir_ea [a0] K = kern_step_chdir_e C N a0 K := by kernel_rfl
noncomputable def l44 : LeafT := fun C N args K => match args with
  | [a0] => kern_step_chdir_e C N a0 K
  | _ => eF
theorem lok44 : LeafOk Tryz.prog 44 l44 := ⟨Tryz.f44, Tryz.f44.body.getD .skip, kern_step_chdir_ea, Tryz.func44, by kernel_rfl, Tryz.call44, fun C N args K H e => by
  unfold l44 at e
  split at e
  · rw [kern_step_chdir_ee]; exact e
  · exact eF_no e⟩

/- (*halberd/kern.step).fork -/
def kern_step_fork_ea : Ann := .two (.none) (.two (.two (.ord [0, 1, 2, 3, 4, 5, 6, 8, 9, 10, 11, 12, 7, 13, 14, 15, 16, 17, 18]) (.two (.none) (.two (.two (.none) (.none)) (.none)))) (.two (.ord [0, 1, 2, 3, 4, 5, 6, 7, 8, 9, 10, 11]) (.two (.none) (.none))))
noncomputable def kern_step_fork_p0 (C : Cal) (K : SV → ER) (x1 : SV) (x19 : SV) (x22 : SV) : ER :=
  eLoad Tryz.prog 23 x22 fun x23 => eNilCk x23 fun x24 => eFieldAddr Tryz.prog 58 x24 1 fun x25 => eLoad Tryz.prog 55 x25 fun x26 => eCallR Tryz.prog C 122 [x26] 3 fun x27 => fun H => eLoadF Tryz.prog 70 x1 x19 H && (eCallR Tryz.prog C 76 [x27] 126 fun x28 => fun H => eLoadF Tryz.prog 70 x1 x19 H && (eBuildSlice Tryz.prog 166 1 [(0, x28)] fun x29 => eCallR Tryz.prog C 74 [x19, (.int .i64 11), x29] 0 fun x30 => eLoad Tryz.prog 70 x1 fun x31 => eCallR Tryz.prog C 77 [x31, (.fn 123 [] [x1])] 26 fun x32 => K x32) H) H
noncomputable def kern_step_fork_p1 (C : Cal) (K : SV → ER) (x1 : SV) (x8 : SV) (x9 : SV) (x12 : SV) : ER :=
  eLoad Tryz.prog 3 x12 fun x13 => eCallR Tryz.prog C 120 [x8] 55 fun x14 => fun H => eLoadF Tryz.prog 3 x12 x13 H && (fun H => eLoadF Tryz.prog 70 x1 x9 H && (eCallR Tryz.prog C 121 [x14, x13] 130 fun x15 => eExtract x15 0 fun x16 => eExtract x15 1 fun x17 => eBin Tryz.prog .neq 26 false x17 (.int .i64 0) fun x18 => eIfV x18
  (K x17)
  (eLoad Tryz.prog 70 x1 fun x19 => eLoad Tryz.prog 70 x1 fun x20 => eNilCk x20 fun x21 => eFieldAddr Tryz.prog 76 x21 1 fun x22 => kern_step_fork_p0 C K x1 x19 x22)) H) H
noncomputable def kern_step_fork_e (C : Cal) (N : Nat) (a0 : SV) (K : SV → ER) : ER :=
  eBox Tryz.prog 70 a0 fun x1 => eLoad Tryz.prog 70 x1 fun x2 => eNilCk x2 fun x3 => eFieldAddr Tryz.prog 76 x3 1 fun x4 => eLoad Tryz.prog 23 x4 fun x5 => eNilCk x5 fun x6 => eFieldAddr Tryz.prog 58 x6 1 fun x7 => eLoad Tryz.prog 55 x7 fun x8 => eLoad Tryz.prog 70 x1 fun x9 => eNilCk x9 fun x10 => eFieldAddr Tryz.prog 76 x10 2 fun x11 => eFieldAddr Tryz.prog 50 x11 0 fun x12 => kern_step_fork_p1 C K x1 x8 x9 x12
theorem kern_step_fork_ee (C : Cal) (N : Nat) (a0 : SV) (K : SV → ER) : eBody Tryz.prog C N Tryz.f45 (Tryz.f45.body.getD .skip) kern_step_fork_ea [a0] K = kern_step_fork_e C N a0 K := by kernel_rfl
noncomputable def l45 : LeafT := fun C N args K => match args with
  | [a0] => kern_step_fork_e C N a0 K
  | _ => eF
theorem lok45 : LeafOk Tryz.prog 45 l45 := ⟨Tryz.f45, Tryz.f45.body.getD .skip, kern_step_fork_ea, Tryz.func45, by kernel_rfl, Tryz.call45, fun C N args K H e => by
  unfold l45 at e
  split at e
  · rw [kern_step_fork_ee]; exact e
  · exact eF_no e⟩

/- (*halberd/kern.step).exec -/
def kern_step_exec_ea : Ann := .two (.none) (.two (.ord [0, 1, 2, 3, 4, 5, 6, 7, 8, 9, 10, 11, 12, 13, 14, 15]) (.two (.two (.ord [0, 1, 6, 2, 3, 5, 7, 4, 8, 9, 10, 11]) (.two (.none) (.two (.two (.none) (.none)) (.none)))) (.two (.ord [2, 0, 1, 3, 5, 6, 7, 8, 9, 10, 4, 11, 12, 13]) (.two (.none) (.none)))))
noncomputable def kern_step_exec_p0 (C : Cal) (K : SV → ER) (x1 : SV) (x13 : SV) (x26 : SV) (x27 : SV) (x28 : SV) (x29 : SV) (x30 : SV) (x33 : SV) (x34 : SV) : ER :=
  eCallR Tryz.prog C 75 [x27, x28] 126 fun x35 => fun H => eLoadF Tryz.prog 3 x33 x34 H && (fun H => eLoadF Tryz.prog 70 x1 x30 H && (fun H => eLoadF Tryz.prog 70 x1 x29 H && (fun H => eLoadF Tryz.prog 70 x1 x26 H && (eCallR Tryz.prog C 75 [x29, x34] 126 fun x36 => fun H => eLoadF Tryz.prog 70 x1 x26 H && (eBuildSlice Tryz.prog 166 2 [(0, x35), (1, x36)] fun x37 => eCallR Tryz.prog C 74 [x26, (.int .i64 8), x37] 0 fun x38 => eLoad Tryz.prog 70 x1 fun x39 => eCallR Tryz.prog C 86 [x39, (.fn 124 [] [x1, x13])] 26 fun x40 => K x40) H) H) H) H) H
noncomputable def kern_step_exec_p1 (C : Cal) (K : SV → ER) (x1 : SV) (x13 : SV) : ER :=
  eFieldAddr Tryz.prog 40 x13 0 fun x25 => eLoad Tryz.prog 70 x1 fun x26 => eLoad Tryz.prog 70 x1 fun x27 => eLoad Tryz.prog 3 x25 fun x28 => eLoad Tryz.prog 70 x1 fun x29 => eLoad Tryz.prog 70 x1 fun x30 => eNilCk x30 fun x31 => eFieldAddr Tryz.prog 76 x31 2 fun x32 => eFieldAddr Tryz.prog 50 x32 6 fun x33 => eLoad Tryz.prog 3 x33 fun x34 => kern_step_exec_p0 C K x1 x13 x26 x27 x28 x29 x30 x33 x34
noncomputable def kern_step_exec_p2 (C : Cal) (K : SV → ER) (x1 : SV) (x11 : SV) (x13 : SV) (x15 : SV) (x16 : SV) : ER :=
  eBin Tryz.prog .neq 3 false x16 (.int .i64 1) fun x17 => eLoad Tryz.prog 70 x1 fun x18 => eLoad Tryz.prog 3 x15 fun x19 => eCallR Tryz.prog C 71 [x17, (.int .i64 13)] 26 fun x20 => fun H => eLoadF Tryz.prog 3 x15 x19 H && (fun H => eLoadF Tryz.prog 70 x1 x18 H && (eCallR Tryz.prog C 72 [x18, x19, (.int .i64 1)] 26 fun x21 => eBuildSlice Tryz.prog 164 3 [(0, x11), (1, x20), (2, x21)] fun x22 => eCallR Tryz.prog C 70 [x22] 26 fun x23 => eBin Tryz.prog .neq 26 false x23 (.int .i64 0) fun x24 => eIfV x24
  (K x23)
  (kern_step_exec_p1 C K x1 x13)) H) H
noncomputable def kern_step_exec_p3 (C : Cal) (K : SV → ER) (x1 : SV) (x2 : SV) (x4 : SV) : ER :=
  eFieldAddr Tryz.prog 76 x4 0 fun x5 => eFieldAddr Tryz.prog 31 x5 5 fun x6 => eLoad Tryz.prog 9 x6 fun x7 => eCallR Tryz.prog C 96 [x2, x7, (.bool true)] 140 fun x8 => eExtract x8 0 fun x9 => eExtract x8 1 fun x10 => eExtract x8 2 fun x11 => eAlloc Tryz.prog 113 fun x12 => eAlloc Tryz.prog 40 fun x13 => eStore Tryz.prog 113 x12 x9 <| eStore Tryz.prog 40 x13 x10 <| eFieldAddr Tryz.prog 40 x13 2 fun x14 => eFieldAddr Tryz.prog 40 x13 0 fun x15 => eLoad Tryz.prog 3 x14 fun x16 => kern_step_exec_p2 C K x1 x11 x13 x15 x16
noncomputable def kern_step_exec_e (C : Cal) (N : Nat) (a0 : SV) (K : SV → ER) : ER :=
  eBox Tryz.prog 70 a0 fun x1 => eLoad Tryz.prog 70 x1 fun x2 => eLoad Tryz.prog 70 x1 fun x3 => eNilCk x3 fun x4 => kern_step_exec_p3 C K x1 x2 x4
theorem kern_step_exec_ee (C : Cal) (N : Nat) (a0 : SV) (K : SV → ER) : eBody Tryz.prog C N Tryz.f46 (Tryz.f46.body.getD .skip) kern_step_exec_ea [a0] K = kern_step_exec_e C N a0 K := by kernel_rfl
noncomputable def l46 : LeafT := fun C N args K => match args with
  | [a0] => kern_step_exec_e C N a0 K
  | _ => eF
theorem lok46 : LeafOk Tryz.prog 46 l46 := ⟨Tryz.f46, Tryz.f46.body.getD .skip, kern_step_exec_ea, Tryz.func46, by kernel_rfl, Tryz.call46, fun C N args K H e => by
  unfold l46 at e
  split at e
  · rw [kern_step_exec_ee]; exact e
  · exact eF_no e⟩

/- (*halberd/kern.step).exit -/
def kern_step_exit_ea : Ann := .two (.none) (.two (.two (.none) (.two (.two (.none) (.none)) (.none))) (.two (.none) (.none)))
noncomputable def kern_step_exit_e (C : Cal) (N : Nat) (a0 : SV) (K : SV → ER) : ER :=
  eBox Tryz.prog 70 a0 fun x1 => eLoad Tryz.prog 70 x1 fun x2 => eNilCk x2 fun x3 => eFieldAddr Tryz.prog 76 x3 2 fun x4 => eFieldAddr Tryz.prog 50 x4 0 fun x5 => eLoad Tryz.prog 3 x5 fun x6 => eBin Tryz.prog .eql 3 false x6 (.int .i64 1) fun x7 => eIfV x7
  (K (.int .i64 1))
  (eLoad Tryz.prog 70 x1 fun x8 => eCallR Tryz.prog C 86 [x8, (.fn 126 [] [x1])] 26 fun x9 => K x9)
theorem kern_step_exit_ee (C : Cal) (N : Nat) (a0 : SV) (K : SV → ER) : eBody Tryz.prog C N Tryz.f47 (Tryz.f47.body.getD .skip) kern_step_exit_ea [a0] K = kern_step_exit_e C N a0 K := by kernel_rfl
noncomputable def l47 : LeafT := fun C N args K => match args with
  | [a0] => kern_step_exit_e C N a0 K
  | _ => eF
theorem lok47 : LeafOk Tryz.prog 47 l47 := ⟨Tryz.f47, Tryz.f47.body.getD .skip, kern_step_exit_ea, Tryz.func47, by kernel_rfl, Tryz.call47, fun C N args K H e => by
  unfold l47 at e
  split at e
  · rw [kern_step_exit_ee]; exact e
  · exact eF_no e⟩

/- (*halberd/kern.step).wait -/
def kern_step_wait_ea : Ann := .two (.none) (.two (.two (.ord [0, 1, 2, 3, 4, 5, 6, 8, 9, 10, 11, 12, 7, 13, 14, 15, 16, 17, 18, 19, 20]) (.two (.none) (.two (.two (.none) (.none)) (.none)))) (.two (.none) (.two (.none) (.none))))
noncomputable def kern_step_wait_p0 (C : Cal) (K : SV → ER) (x1 : SV) (x8 : SV) (x9 : SV) (x12 : SV) : ER :=
  eLoad Tryz.prog 3 x12 fun x13 => eCallR Tryz.prog C 120 [x8] 55 fun x14 => fun H => eLoadF Tryz.prog 3 x12 x13 H && (fun H => eLoadF Tryz.prog 70 x1 x9 H && (eCallR Tryz.prog C 128 [x14, x13] 151 fun x15 => eExtract x15 0 fun x16 => eExtract x15 1 fun x17 => eExtract x15 2 fun x18 => eBin Tryz.prog .neq 26 false x18 (.int .i64 0) fun x19 => eIfV x19
  (K x18)
  (eLoad Tryz.prog 70 x1 fun x20 => eNilCk x20 fun x21 => eFieldAddr Tryz.prog 76 x21 4 fun x22 => eStore Tryz.prog 74 x22 (.fn 129 [] [x1]) <| K (.int .i64 0))) H) H
noncomputable def kern_step_wait_e (C : Cal) (N : Nat) (a0 : SV) (K : SV → ER) : ER :=
  eBox Tryz.prog 70 a0 fun x1 => eLoad Tryz.prog 70 x1 fun x2 => eNilCk x2 fun x3 => eFieldAddr Tryz.prog 76 x3 1 fun x4 => eLoad Tryz.prog 23 x4 fun x5 => eNilCk x5 fun x6 => eFieldAddr Tryz.prog 58 x6 1 fun x7 => eLoad Tryz.prog 55 x7 fun x8 => eLoad Tryz.prog 70 x1 fun x9 => eNilCk x9 fun x10 => eFieldAddr Tryz.prog 76 x10 2 fun x11 => eFieldAddr Tryz.prog 50 x11 0 fun x12 => kern_step_wait_p0 C K x1 x8 x9 x12
theorem kern_step_wait_ee (C : Cal) (N : Nat) (a0 : SV) (K : SV → ER) : eBody Tryz.prog C N Tryz.f48 (Tryz.f48.body.getD .skip) kern_step_wait_ea [a0] K = kern_step_wait_e C N a0 K := by kernel_rfl
noncomputable def l48 : LeafT := fun C N args K => match args with
  | [a0] => kern_step_wait_e C N a0 K
  | _ => eF
theorem lok48 : LeafOk Tryz.prog 48 l48 := ⟨Tryz.f48, Tryz.f48.body.getD .skip, kern_step_wait_ea, Tryz.func48, by kernel_rfl, Tryz.call48, fun C N args K H e => by
  unfold l48 at e
  split at e
  · rw [kern_step_wait_ee]; exact e
  · exact eF_no e⟩

/- (*halberd/kern.step).kill -/
def kern_step_kill_ea : Ann := .two (.none) (.two (.two (.none) (.two (.two (.none) (.none)) (.none))) (.two (.ord [0, 1, 2, 3, 4, 5, 6, 7, 8, 9, 10, 11, 12, 13, 14, 15, 16, 17, 18]) (.two (.join (.ord [20, 0, 1, 2, 3, 4, 5, 6, 7, 8, 9, 10, 11, 15, 16, 17, 18, 19, 21, 12, 13, 14, 22, 23, 24, 25, 26, 27, 28, 29, 30, 31, 32, 33, 34, 35, 36, 37, 38, 39, 40, 41, 42, 43]) (.two (.none) (.two (.two (.none) (.none)) (.none))) [(5, .any)]) (.two (.ord [0, 1, 2, 3, 4, 5, 6, 8, 9, 10, 11, 12, 7, 13, 14, 15]) (.two (.none) (.none))))))
noncomputable def kern_step_kill_p0 (C : Cal) (x1 : SV) (k25 : SV × Unit → ER) (x48 : SV) : ER :=
  eLoad Tryz.prog 70 x1 fun x60 => eNilCk x60 fun x61 => eFieldAddr Tryz.prog 76 x61 0 fun x62 => eFieldAddr Tryz.prog 31 x62 2 fun x63 => eLoad Tryz.prog 3 x63 fun x64 => eBin Tryz.prog .eql 3 false x64 (.int .i64 1) fun x65 => eCallR Tryz.prog C 71 [x65, (.int .i64 1)] 26 fun x66 => eBuildSlice Tryz.prog 164 2 [(0, x48), (1, x66)] fun x67 => eCallR Tryz.prog C 70 [x67] 26 fun x68 => eHas .any x68 (k25 (x68, ()))
noncomputable def kern_step_kill_p1 (C : Cal) (x1 : SV) (k25 : SV × Unit → ER) (x48 : SV) : ER :=
  eLoad Tryz.prog 70 x1 fun x54 => eNilCk x54 fun x55 => eFieldAddr Tryz.prog 76 x55 0 fun x56 => eFieldAddr Tryz.prog 31 x56 3 fun x57 => eLoad Tryz.prog 3 x57 fun x58 => eBin Tryz.prog .eql 3 false x58 (.int .i64 9) fun x59 => eIfV x59
  (kern_step_kill_p0 C x1 k25 x48)
  (eCallR Tryz.prog C 71 [(.bool false), (.int .i64 1)] 26 fun x69 => eBuildSlice Tryz.prog 164 2 [(0, x48), (1, x69)] fun x70 => eCallR Tryz.prog C 70 [x70] 26 fun x71 => eHas .any x71 (k25 (x71, ())))
noncomputable def kern_step_kill_p2 (C : Cal) (x1 : SV) (k25 : SV × Unit → ER) (x27 : SV) (x40 : SV) (x43 : SV) (x44 : SV) (x45 : SV) (x47 : SV) : ER :=
  eCallR Tryz.prog C 71 [x47, (.int .i64 3)] 26 fun x48 => fun H => eLoadF Tryz.prog 3 x27 x45 H && (fun H => eLoadF Tryz.prog 3 x43 x44 H && (fun H => eLoadF Tryz.prog 70 x1 x40 H && (eCallR Tryz.prog C 131 [x44, x45] 4 fun x49 => eUnS .not x49 fun x50 => eIfV x50
  (eCallR Tryz.prog C 71 [(.bool true), (.int .i64 1)] 26 fun x51 => eBuildSlice Tryz.prog 164 2 [(0, x48), (1, x51)] fun x52 => eCallR Tryz.prog C 70 [x52] 26 fun x53 => eHas .any x53 (k25 (x53, ())))
  (kern_step_kill_p1 C x1 k25 x48)) H) H) H
noncomputable def kern_step_kill_p3 (C : Cal) (x1 : SV) (k25 : SV × Unit → ER) (x27 : SV) (x34 : SV) (x37 : SV) : ER :=
  eFieldAddr Tryz.prog 31 x37 2 fun x38 => eLoad Tryz.prog 3 x38 fun x39 => eLoad Tryz.prog 70 x1 fun x40 => eNilCk x40 fun x41 => eFieldAddr Tryz.prog 76 x41 2 fun x42 => eFieldAddr Tryz.prog 50 x42 3 fun x43 => eLoad Tryz.prog 3 x43 fun x44 => eLoad Tryz.prog 3 x27 fun x45 => eCallR Tryz.prog C 22 [x34, x39] 4 fun x46 => fun H => eLoadF Tryz.prog 3 x27 x45 H && (fun H => eLoadF Tryz.prog 3 x43 x44 H && (fun H => eLoadF Tryz.prog 70 x1 x40 H && (eUnS .not x46 fun x47 => kern_step_kill_p2 C x1 k25 x27 x40 x43 x44 x45 x47) H) H) H
noncomputable def kern_step_kill_p4 (C : Cal) (K : SV → ER) (x1 : SV) (x73 : SV) (x74 : SV) (x79 : SV) (x80 : SV) (x83 : SV) (x84 : SV) : ER :=
  eCallR Tryz.prog C 132 [x74, (.int .i64 1), x79] 126 fun x85 => fun H => eLoadF Tryz.prog 3 x83 x84 H && (fun H => eLoadF Tryz.prog 70 x1 x80 H && (fun H => eLoadF Tryz.prog 70 x1 x73 H && (eCallR Tryz.prog C 76 [x84] 126 fun x86 => fun H => eLoadF Tryz.prog 70 x1 x73 H && (eBuildSlice Tryz.prog 166 2 [(0, x85), (1, x86)] fun x87 => eCallR Tryz.prog C 74 [x73, (.int .i64 12), x87] 0 fun x88 => eLoad Tryz.prog 70 x1 fun x89 => eCallR Tryz.prog C 86 [x89, (.fn 133 [] [x1])] 26 fun x90 => K x90) H) H) H) H
noncomputable def kern_step_kill_p5 (C : Cal) (K : SV → ER) (x1 : SV) : ER :=
  eLoad Tryz.prog 70 x1 fun x73 => eLoad Tryz.prog 70 x1 fun x74 => eLoad Tryz.prog 70 x1 fun x75 => eNilCk x75 fun x76 => eFieldAddr Tryz.prog 76 x76 0 fun x77 => eFieldAddr Tryz.prog 31 x77 2 fun x78 => eLoad Tryz.prog 3 x78 fun x79 => eLoad Tryz.prog 70 x1 fun x80 => eNilCk x80 fun x81 => eFieldAddr Tryz.prog 76 x81 0 fun x82 => eFieldAddr Tryz.prog 31 x82 3 fun x83 => eLoad Tryz.prog 3 x83 fun x84 => kern_step_kill_p4 C K x1 x73 x74 x79 x80 x83 x84
noncomputable def kern_step_kill_p6 (C : Cal) (x1 : SV) (k25 : SV × Unit → ER) (x24 : SV) : ER :=
  eFieldAddr Tryz.prog 50 x24 3 fun x27 => eLoad Tryz.prog 70 x1 fun x28 => eNilCk x28 fun x29 => eFieldAddr Tryz.prog 76 x29 1 fun x30 => eLoad Tryz.prog 23 x30 fun x31 => eNilCk x31 fun x32 => eFieldAddr Tryz.prog 58 x32 1 fun x33 => eLoad Tryz.prog 55 x33 fun x34 => eLoad Tryz.prog 70 x1 fun x35 => eNilCk x35 fun x36 => eFieldAddr Tryz.prog 76 x36 0 fun x37 => kern_step_kill_p3 C x1 k25 x27 x34 x37
noncomputable def kern_step_kill_p7 (C : Cal) (K : SV → ER) (x1 : SV) (x15 : SV) (x16 : SV) : ER :=
  eNilCk x16 fun x17 => eFieldAddr Tryz.prog 76 x17 0 fun x18 => eFieldAddr Tryz.prog 31 x18 2 fun x19 => eLoad Tryz.prog 3 x19 fun x20 => eCallR Tryz.prog C 19 [x15, x20] 79 fun x21 => eExtract x21 0 fun x22 => eExtract x21 1 fun x23 => eAlloc Tryz.prog 50 fun x24 => eStore Tryz.prog 50 x24 x22 <| eJoinC (σ := SV × Unit) (fun (k25 : SV × Unit → ER) =>
  kern_step_kill_p6 C x1 k25 x24) fun (s26 : SV × Unit) =>
  eBin Tryz.prog .neq 26 false s26.1 (.int .i64 0) fun x72 => eIfV x72
  (K s26.1)
  (kern_step_kill_p5 C K x1)
noncomputable def kern_step_kill_p8 (C : Cal) (K : SV → ER) (x1 : SV) : ER :=
  eLoad Tryz.prog 70 x1 fun x9 => eNilCk x9 fun x10 => eFieldAddr Tryz.prog 76 x10 1 fun x11 => eLoad Tryz.prog 23 x11 fun x12 => eNilCk x12 fun x13 => eFieldAddr Tryz.prog 58 x13 1 fun x14 => eLoad Tryz.prog 55 x14 fun x15 => eLoad Tryz.prog 70 x1 fun x16 => kern_step_kill_p7 C K x1 x15 x16
noncomputable def kern_step_kill_e (C : Cal) (N : Nat) (a0 : SV) (K : SV → ER) : ER :=
  eBox Tryz.prog 70 a0 fun x1 => eLoad Tryz.prog 70 x1 fun x2 => eNilCk x2 fun x3 => eFieldAddr Tryz.prog 76 x3 0 fun x4 => eFieldAddr Tryz.prog 31 x4 3 fun x5 => eLoad Tryz.prog 3 x5 fun x6 => eCallR Tryz.prog C 68 [x6, (.int .i64 0), (.int .i64 31)] 4 fun x7 => eUnS .not x7 fun x8 => eIfV x8
  (K (.int .i64 22))
  (kern_step_kill_p8 C K x1)
theorem kern_step_kill_ee (C : Cal) (N : Nat) (a0 : SV) (K : SV → ER) : eBody Tryz.prog C N Tryz.f49 (Tryz.f49.body.getD .skip) kern_step_kill_ea [a0] K = kern_step_kill_e C N a0 K := by kernel_rfl
noncomputable def l49 : LeafT := fun C N args K => match args with
  | [a0] => kern_step_kill_e C N a0 K
  | _ => eF
theorem lok49 : LeafOk Tryz.prog 49 l49 := ⟨Tryz.f49, Tryz.f49.body.getD .skip, kern_step_kill_ea, Tryz.func49, by kernel_rfl, Tryz.call49, fun C N args K H e => by
  unfold l49 at e
  split at e
  · rw [kern_step_kill_ee]; exact e
  · exact eF_no e⟩

/- (*halberd/kern.step).ptrace -/
def kern_step_ptrace_ea : Ann := .two (.none) (.two (.join (.none) (.two (.two (.none) (.none)) (.none)) [(19, .any)]) (.two (.two (.ord [0, 1, 2, 3, 4, 5, 6, 7, 8, 9, 10, 11, 12, 13]) (.two (.two (.none) (.none)) (.none))) (.two (.ord [0, 1, 2, 3, 4, 5, 6, 7, 8, 9, 10, 11, 12, 13, 14, 15, 16, 17, 18]) (.two (.sub (.join (.ord [0, 1, 2, 3, 4, 5, 6, 7, 8, 9, 10, 11, 12, 13, 14, 15, 21, 16, 17, 18, 19, 20, 22, 23, 24, 25, 26, 27, 28, 29, 30, 31, 32]) (.two (.two (.none) (.none)) (.join (.ord [0, 1, 2, 3, 4, 5, 6, 7, 8, 9, 10, 11, 12, 13, 14, 15, 16]) (.two (.two (.none) (.none)) (.none)) [(83, .any)])) [(50, .any)])) (.two (.none) (.join (.two (.none) (.two (.none) (.none))) (.two (.ord [0, 1, 2, 3, 4, 5, 6, 8, 9, 10, 11, 12, 7, 13, 14, 15]) (.two (.none) (.none))) []))))))
noncomputable def kern_step_ptrace_p0 (k2 : SV × Unit → ER) (x1 : SV) : ER :=
  eLoad Tryz.prog 70 x1 fun x10 => eNilCk x10 fun x11 => eFieldAddr Tryz.prog 76 x11 0 fun x12 => eFieldAddr Tryz.prog 31 x12 2 fun x13 => eLoad Tryz.prog 3 x13 fun x14 => eBin Tryz.prog .neq 3 false x14 (.int .i64 2) fun x15 => eHas .any x15 (k2 (x15, ()))
noncomputable def kern_step_ptrace_p1 (C : Cal) (x1 : SV) (k46 : SV × Unit → ER) (x45 : SV) : ER :=
  eFieldAddr Tryz.prog 50 x45 3 fun x62 => eLoad Tryz.prog 70 x1 fun x63 => eNilCk x63 fun x64 => eFieldAddr Tryz.prog 76 x64 2 fun x65 => eFieldAddr Tryz.prog 50 x65 3 fun x66 => eLoad Tryz.prog 3 x66 fun x67 => eLoad Tryz.prog 3 x62 fun x68 => eCallR Tryz.prog C 131 [x67, x68] 4 fun x69 => eUnS .not x69 fun x70 => eIfV x70
  (eHas .any (.bool true) (k46 ((.bool true), ())))
  (eFieldAddr Tryz.prog 50 x45 7 fun x71 => eLoad Tryz.prog 3 x71 fun x72 => eBin Tryz.prog .neq 3 false x72 (.int .i64 0) fun x73 => eHas .any x73 (k46 (x73, ())))
noncomputable def kern_step_ptrace_p2 (C : Cal) (x1 : SV) (k46 : SV × Unit → ER) (x45 : SV) : ER :=
  eFieldAddr Tryz.prog 50 x45 0 fun x54 => eLoad Tryz.prog 3 x54 fun x55 => eLoad Tryz.prog 70 x1 fun x56 => eNilCk x56 fun x57 => eFieldAddr Tryz.prog 76 x57 2 fun x58 => eFieldAddr Tryz.prog 50 x58 0 fun x59 => eLoad Tryz.prog 3 x59 fun x60 => eBin Tryz.prog .eql 3 false x55 x60 fun x61 => eIfV x61
  (eHas .any (.bool true) (k46 ((.bool true), ())))
  (kern_step_ptrace_p1 C x1 k46 x45)
noncomputable def kern_step_ptrace_p3 (x1 : SV) (k74 : SV × Unit → ER) (x45 : SV) : ER :=
  eFieldAddr Tryz.prog 50 x45 7 fun x82 => eLoad Tryz.prog 3 x82 fun x83 => eLoad Tryz.prog 70 x1 fun x84 => eNilCk x84 fun x85 => eFieldAddr Tryz.prog 76 x85 2 fun x86 => eFieldAddr Tryz.prog 50 x86 0 fun x87 => eLoad Tryz.prog 3 x87 fun x88 => eBin Tryz.prog .neq 3 false x83 x88 fun x89 => eHas .any x89 (k74 (x89, ()))
noncomputable def kern_step_ptrace_p4 (x1 : SV) (k91 : Unit → ER) (x90 : SV) : ER :=
  eLoad Tryz.prog 70 x1 fun x99 => eNilCk x99 fun x100 => eFieldAddr Tryz.prog 76 x100 2 fun x101 => eFieldAddr Tryz.prog 50 x101 0 fun x102 => eLoad Tryz.prog 3 x102 fun x103 => eStore Tryz.prog 3 x90 x103 <| k91 (())
noncomputable def kern_step_ptrace_p5 (C : Cal) (K : SV → ER) (x1 : SV) (x90 : SV) (x104 : SV) (x105 : SV) (x110 : SV) (x111 : SV) (x114 : SV) (x115 : SV) : ER :=
  eCallR Tryz.prog C 132 [x105, (.int .i64 1), x110] 126 fun x116 => fun H => eLoadF Tryz.prog 3 x114 x115 H && (fun H => eLoadF Tryz.prog 70 x1 x111 H && (fun H => eLoadF Tryz.prog 70 x1 x104 H && (eCallR Tryz.prog C 76 [x115] 126 fun x117 => fun H => eLoadF Tryz.prog 70 x1 x104 H && (eBuildSlice Tryz.prog 166 2 [(0, x116), (1, x117)] fun x118 => eCallR Tryz.prog C 74 [x104, (.int .i64 13), x118] 0 fun x119 => eLoad Tryz.prog 70 x1 fun x120 => eCallR Tryz.prog C 86 [x120, (.fn 135 [] [x1, x90])] 26 fun x121 => K x121) H) H) H) H
noncomputable def kern_step_ptrace_p6 (x1 : SV) (k91 : Unit → ER) (x90 : SV) : ER :=
  eLoad Tryz.prog 70 x1 fun x93 => eNilCk x93 fun x94 => eFieldAddr Tryz.prog 76 x94 0 fun x95 => eFieldAddr Tryz.prog 31 x95 2 fun x96 => eLoad Tryz.prog 3 x96 fun x97 => eBin Tryz.prog .eql 3 false x97 (.int .i64 1) fun x98 => eIfV x98
  (kern_step_ptrace_p4 x1 k91 x90)
  (k91 (()))
noncomputable def kern_step_ptrace_p7 (C : Cal) (K : SV → ER) (x1 : SV) (x90 : SV) : ER :=
  eLoad Tryz.prog 70 x1 fun x104 => eLoad Tryz.prog 70 x1 fun x105 => eLoad Tryz.prog 70 x1 fun x106 => eNilCk x106 fun x107 => eFieldAddr Tryz.prog 76 x107 0 fun x108 => eFieldAddr Tryz.prog 31 x108 3 fun x109 => eLoad Tryz.prog 3 x109 fun x110 => eLoad Tryz.prog 70 x1 fun x111 => eNilCk x111 fun x112 => eFieldAddr Tryz.prog 76 x112 0 fun x113 => eFieldAddr Tryz.prog 31 x113 2 fun x114 => eLoad Tryz.prog 3 x114 fun x115 => kern_step_ptrace_p5 C K x1 x90 x104 x105 x110 x111 x114 x115
noncomputable def kern_step_ptrace_p8 (x1 : SV) (k74 : SV × Unit → ER) (x45 : SV) : ER :=
  eLoad Tryz.prog 70 x1 fun x76 => eNilCk x76 fun x77 => eFieldAddr Tryz.prog 76 x77 0 fun x78 => eFieldAddr Tryz.prog 31 x78 2 fun x79 => eLoad Tryz.prog 3 x79 fun x80 => eBin Tryz.prog .eql 3 false x80 (.int .i64 2) fun x81 => eIfV x81
  (kern_step_ptrace_p3 x1 k74 x45)
  (eHas .any (.bool false) (k74 ((.bool false), ())))
noncomputable def kern_step_ptrace_p9 (C : Cal) (K : SV → ER) (x1 : SV) (s75 : SV × Unit) : ER :=
  eIfV s75.1
  (K (.int .i64 3))
  (eAlloc Tryz.prog 3 fun x90 => eStore Tryz.prog 3 x90 (.int .i64 0) <| eJoinC (σ := Unit) (fun (k91 : Unit → ER) =>
  kern_step_ptrace_p6 x1 k91 x90) fun (s92 : Unit) =>
  kern_step_ptrace_p7 C K x1 x90)
noncomputable def kern_step_ptrace_p10 (C : Cal) (x1 : SV) (k46 : SV × Unit → ER) (x45 : SV) : ER :=
  eLoad Tryz.prog 70 x1 fun x48 => eNilCk x48 fun x49 => eFieldAddr Tryz.prog 76 x49 0 fun x50 => eFieldAddr Tryz.prog 31 x50 2 fun x51 => eLoad Tryz.prog 3 x51 fun x52 => eBin Tryz.prog .eql 3 false x52 (.int .i64 1) fun x53 => eIfV x53
  (kern_step_ptrace_p2 C x1 k46 x45)
  (eHas .any (.bool false) (k46 ((.bool false), ())))
noncomputable def kern_step_ptrace_p11 (C : Cal) (K : SV → ER) (x1 : SV) (x36 : SV) (x39 : SV) : ER :=
  eFieldAddr Tryz.prog 31 x39 3 fun x40 => eLoad Tryz.prog 3 x40 fun x41 => eCallR Tryz.prog C 19 [x36, x41] 79 fun x42 => eExtract x42 0 fun x43 => eExtract x42 1 fun x44 => eAlloc Tryz.prog 50 fun x45 => eStore Tryz.prog 50 x45 x43 <| eJoinC (σ := SV × Unit) (fun (k46 : SV × Unit → ER) =>
  kern_step_ptrace_p10 C x1 k46 x45) fun (s47 : SV × Unit) =>
  eIfV s47.1
  (K (.int .i64 1))
  (eJoinC (σ := SV × Unit) (fun (k74 : SV × Unit → ER) =>
  kern_step_ptrace_p8 x1 k74 x45) fun (s75 : SV × Unit) =>
  kern_step_ptrace_p9 C K x1 s75)
noncomputable def kern_step_ptrace_p12 (C : Cal) (K : SV → ER) (x1 : SV) : ER :=
  eLoad Tryz.prog 70 x1 fun x30 => eNilCk x30 fun x31 => eFieldAddr Tryz.prog 76 x31 1 fun x32 => eLoad Tryz.prog 23 x32 fun x33 => eNilCk x33 fun x34 => eFieldAddr Tryz.prog 58 x34 1 fun x35 => eLoad Tryz.prog 55 x35 fun x36 => eLoad Tryz.prog 70 x1 fun x37 => eNilCk x37 fun x38 => eFieldAddr Tryz.prog 76 x38 0 fun x39 => kern_step_ptrace_p11 C K x1 x36 x39
noncomputable def kern_step_ptrace_p13 (C : Cal) (K : SV → ER) (x1 : SV) : ER :=
  eLoad Tryz.prog 70 x1 fun x16 => eNilCk x16 fun x17 => eFieldAddr Tryz.prog 76 x17 1 fun x18 => eLoad Tryz.prog 23 x18 fun x19 => eNilCk x19 fun x20 => eFieldAddr Tryz.prog 58 x20 1 fun x21 => eLoad Tryz.prog 55 x21 fun x22 => eLoad Tryz.prog 70 x1 fun x23 => eNilCk x23 fun x24 => eFieldAddr Tryz.prog 76 x24 0 fun x25 => eFieldAddr Tryz.prog 31 x25 3 fun x26 => eLoad Tryz.prog 3 x26 fun x27 => eCallR Tryz.prog C 22 [x22, x27] 4 fun x28 => eUnS .not x28 fun x29 => eIfV x29
  (K (.int .i64 3))
  (kern_step_ptrace_p12 C K x1)
noncomputable def kern_step_ptrace_p14 (k2 : SV × Unit → ER) (x1 : SV) : ER :=
  eLoad Tryz.prog 70 x1 fun x4 => eNilCk x4 fun x5 => eFieldAddr Tryz.prog 76 x5 0 fun x6 => eFieldAddr Tryz.prog 31 x6 2 fun x7 => eLoad Tryz.prog 3 x7 fun x8 => eBin Tryz.prog .neq 3 false x8 (.int .i64 1) fun x9 => eIfV x9
  (kern_step_ptrace_p0 k2 x1)
  (eHas .any (.bool false) (k2 ((.bool false), ())))
noncomputable def kern_step_ptrace_e (C : Cal) (N : Nat) (a0 : SV) (K : SV → ER) : ER :=
  eBox Tryz.prog 70 a0 fun x1 => eJoinC (σ := SV × Unit) (fun (k2 : SV × Unit → ER) =>
  kern_step_ptrace_p14 k2 x1) fun (s3 : SV × Unit) =>
  eIfV s3.1
  (K (.int .i64 22))
  (kern_step_ptrace_p13 C K x1)
theorem kern_step_ptrace_ee (C : Cal) (N : Nat) (a0 : SV) (K : SV → ER) : eBody Tryz.prog C N Tryz.f50 (Tryz.f50.body.getD .skip) kern_step_ptrace_ea [a0] K = kern_step_ptrace_e C N a0 K := by kernel_rfl
noncomputable def l50 : LeafT := fun C N args K => match args with
  | [a0] => kern_step_ptrace_e C N a0 K
  | _ => eF
theorem lok50 : LeafOk Tryz.prog 50 l50 := ⟨Tryz.f50, Tryz.f50.body.getD .skip, kern_step_ptrace_ea, Tryz.func50, by kernel_rfl, Tryz.call50, fun C N args K H e => by
  unfold l50 at e
  split at e
  · rw [kern_step_ptrace_ee]; exact e
  · exact eF_no e⟩

end Go.Proofs.YtnpcjhcgbcpcoaaGreatDoor

set_option linter.unusedVariables false
set_option maxRecDepth 100000
namespace Go.Proofs.YtnpcjhcgbcpcoaaGreatDoor
open Go.Hl
/- (*halberd/kern.step).setuid -/
def kern_step_setuid_ea : Ann := .two (.none) (.two (.none) (.none))
noncomputable def kern_step_setuid_e (C : Cal) (N : Nat) (a0 : SV) (K : SV → ER) : ER :=
  eNilCk a0 fun x1 => eFieldAddr Tryz.prog 76 x1 2 fun x2 => eFieldAddr Tryz.prog 50 x2 3 fun x3 => eLoad Tryz.prog 3 x3 fun x4 => eCallR Tryz.prog C 137 [a0, (.int .i64 1), x4] 26 fun x5 => K x5
theorem kern_step_setuid_ee (C : Cal) (N : Nat) (a0 : SV) (K : SV → ER) : eBody Tryz.prog C N Tryz.f51 (Tryz.f51.body.getD .skip) kern_step_setuid_ea [a0] K = kern_step_setuid_e C N a0 K := by kernel_rfl
noncomputable def l51 : LeafT := fun C N args K => match args with
  | [a0] => kern_step_setuid_e C N a0 K
  | _ => eF
theorem lok51 : LeafOk Tryz.prog 51 l51 := ⟨Tryz.f51, Tryz.f51.body.getD .skip, kern_step_setuid_ea, Tryz.func51, by kernel_rfl, Tryz.call51, fun C N args K H e => by
  unfold l51 at e
  split at e
  · rw [kern_step_setuid_ee]; exact e
  · exact eF_no e⟩

/- (*halberd/kern.step).setgid -/
def kern_step_setgid_ea : Ann := .two (.none) (.two (.none) (.none))
noncomputable def kern_step_setgid_e (C : Cal) (N : Nat) (a0 : SV) (K : SV → ER) : ER :=
  eNilCk a0 fun x1 => eFieldAddr Tryz.prog 76 x1 2 fun x2 => eFieldAddr Tryz.prog 50 x2 4 fun x3 => eLoad Tryz.prog 3 x3 fun x4 => eCallR Tryz.prog C 137 [a0, (.int .i64 2), x4] 26 fun x5 => K x5
theorem kern_step_setgid_ee (C : Cal) (N : Nat) (a0 : SV) (K : SV → ER) : eBody Tryz.prog C N Tryz.f52 (Tryz.f52.body.getD .skip) kern_step_setgid_ea [a0] K = kern_step_setgid_e C N a0 K := by kernel_rfl
noncomputable def l52 : LeafT := fun C N args K => match args with
  | [a0] => kern_step_setgid_e C N a0 K
  | _ => eF
theorem lok52 : LeafOk Tryz.prog 52 l52 := ⟨Tryz.f52, Tryz.f52.body.getD .skip, kern_step_setgid_ea, Tryz.func52, by kernel_rfl, Tryz.call52, fun C N args K H e => by
  unfold l52 at e
  split at e
  · rw [kern_step_setgid_ee]; exact e
  · exact eF_no e⟩

/- (*halberd/kern.step).mmap -/
def kern_step_mmap_ea : Ann := .two (.none) (.two (.join (.none) (.two (.two (.none) (.none)) (.none)) [(26, .any)]) (.two (.ord [0, 1, 2, 3, 4, 5, 6, 7, 8, 9, 10, 11, 12]) (.join (.two (.none) (.two (.two (.none) (.two (.ord [7, 0, 1, 2, 3, 4, 5, 6, 8, 9, 10, 11, 12, 13, 14, 15]) (.two (.ord [0, 2, 1, 6, 3, 4, 5, 7, 8, 9]) (.join (.ord [0, 1, 2, 3, 4, 10, 14, 5, 6, 7, 8, 9, 11, 12, 13, 15, 16, 17, 18, 19, 20, 21, 22]) (.two (.none) (.two (.two (.none) (.none)) (.none))) [(8, .any)])))) (.none))) (.two (.two (.ord [0, 1, 2, 3, 4, 5, 6, 8, 9, 10, 11, 12, 13, 7, 14, 15, 16, 17, 18, 19]) (.two (.none) (.two (.two (.none) (.none)) (.none)))) (.two (.ord [2, 0, 1, 3, 5, 6, 7, 8, 9, 4, 10, 11, 12]) (.two (.none) (.none)))) [])))
noncomputable def kern_step_mmap_p0 (C : Cal) (k2 : SV × Unit → ER) (x1 : SV) : ER :=
  eLoad Tryz.prog 70 x1 fun x11 => eNilCk x11 fun x12 => eFieldAddr Tryz.prog 76 x12 0 fun x13 => eFieldAddr Tryz.prog 31 x13 4 fun x14 => eLoad Tryz.prog 3 x14 fun x15 => eCallR Tryz.prog C 68 [x15, (.int .i64 1), (.int .i64 64)] 4 fun x16 => eUnS .not x16 fun x17 => eHas .any x17 (k2 (x17, ()))
noncomputable def kern_step_mmap_p1 (C : Cal) (k64 : SV × Unit → ER) (x41 : SV) (x72 : SV) (x73 : SV) (x76 : SV) : ER :=
  eFieldAddr Tryz.prog 31 x76 3 fun x77 => eLoad Tryz.prog 3 x77 fun x78 => eLoad Tryz.prog 3 x72 fun x79 => eBin Tryz.prog .and 3 false x79 (.int .i64 1) fun x80 => eBin Tryz.prog .neq 3 false x80 (.int .i64 0) fun x81 => eLoad Tryz.prog 4 x73 fun x82 => eCallR Tryz.prog C 138 [x78, x81, x82] 4 fun x83 => eUnS .not x83 fun x84 => eCallR Tryz.prog C 71 [x84, (.int .i64 13)] 26 fun x85 => eBuildSlice Tryz.prog 164 2 [(0, x41), (1, x85)] fun x86 => eCallR Tryz.prog C 70 [x86] 26 fun x87 => eHas .any x87 (k64 (x87, ()))
noncomputable def kern_step_mmap_p2 (C : Cal) (x1 : SV) (k64 : SV × Unit → ER) (x29 : SV) (x41 : SV) (x42 : SV) : ER :=
  eFieldAddr Tryz.prog 44 x42 1 fun x72 => eFieldAddr Tryz.prog 47 x29 4 fun x73 => eLoad Tryz.prog 70 x1 fun x74 => eNilCk x74 fun x75 => eFieldAddr Tryz.prog 76 x75 0 fun x76 => kern_step_mmap_p1 C k64 x41 x72 x73 x76
noncomputable def kern_step_mmap_p3 (C : Cal) (x1 : SV) (k64 : SV × Unit → ER) (x29 : SV) (x41 : SV) (x42 : SV) (x55 : SV) : ER :=
  eFieldAddr Tryz.prog 40 x55 2 fun x66 => eLoad Tryz.prog 3 x66 fun x67 => eBin Tryz.prog .eql 3 false x67 (.int .i64 2) fun x68 => eIfV x68
  (eCallR Tryz.prog C 71 [(.bool true), (.int .i64 13)] 26 fun x69 => eBuildSlice Tryz.prog 164 2 [(0, x41), (1, x69)] fun x70 => eCallR Tryz.prog C 70 [x70] 26 fun x71 => eHas .any x71 (k64 (x71, ())))
  (kern_step_mmap_p2 C x1 k64 x29 x41 x42)
noncomputable def kern_step_mmap_p4 (C : Cal) (K : SV → ER) (x1 : SV) (k30 : Unit → ER) (x29 : SV) (x41 : SV) (x42 : SV) (x55 : SV) (x57 : SV) (x58 : SV) (x59 : SV) : ER :=
  eLoad Tryz.prog 3 x57 fun x60 => eBin Tryz.prog .and 3 false x60 (.int .i64 2) fun x61 => eBin Tryz.prog .neq 3 false x61 (.int .i64 0) fun x62 => eStore Tryz.prog 3 x59 x58 <| fun H => eLoadF Tryz.prog 3 x57 x60 H && (eFieldAddr Tryz.prog 47 x29 4 fun x63 => eStore Tryz.prog 4 x63 x62 <| eJoinC (σ := SV × Unit) (fun (k64 : SV × Unit → ER) =>
  kern_step_mmap_p3 C x1 k64 x29 x41 x42 x55) fun (s65 : SV × Unit) =>
  eBin Tryz.prog .neq 26 false s65.1 (.int .i64 0) fun x88 => eIfV x88
  (K s65.1)
  (k30 (()))) H
noncomputable def kern_step_mmap_p5 (C : Cal) (K : SV → ER) (x1 : SV) (k30 : Unit → ER) (x29 : SV) (x41 : SV) (x42 : SV) (x43 : SV) (x47 : SV) : ER :=
  eNilCk x47 fun x48 => eFieldAddr Tryz.prog 58 x48 0 fun x49 => eLoad Tryz.prog 53 x49 fun x50 => eLoad Tryz.prog 3 x43 fun x51 => eCallR Tryz.prog C 18 [x50, x51] 77 fun x52 => eExtract x52 0 fun x53 => eExtract x52 1 fun x54 => eAlloc Tryz.prog 40 fun x55 => eStore Tryz.prog 40 x55 x53 <| eFieldAddr Tryz.prog 44 x42 0 fun x56 => eFieldAddr Tryz.prog 44 x42 1 fun x57 => eLoad Tryz.prog 3 x56 fun x58 => eFieldAddr Tryz.prog 47 x29 1 fun x59 => kern_step_mmap_p4 C K x1 k30 x29 x41 x42 x55 x57 x58 x59
noncomputable def kern_step_mmap_p6 (C : Cal) (K : SV → ER) (x1 : SV) (k30 : Unit → ER) (x29 : SV) : ER :=
  eLoad Tryz.prog 70 x1 fun x38 => eCallR Tryz.prog C 85 [x38] 134 fun x39 => eExtract x39 0 fun x40 => eExtract x39 1 fun x41 => eAlloc Tryz.prog 44 fun x42 => eStore Tryz.prog 44 x42 x40 <| eFieldAddr Tryz.prog 44 x42 0 fun x43 => eLoad Tryz.prog 70 x1 fun x44 => eNilCk x44 fun x45 => eFieldAddr Tryz.prog 76 x45 1 fun x46 => eLoad Tryz.prog 23 x46 fun x47 => kern_step_mmap_p5 C K x1 k30 x29 x41 x42 x43 x47
noncomputable def kern_step_mmap_p7 (C : Cal) (K : SV → ER) (x1 : SV) (x29 : SV) (x108 : SV) (x109 : SV) (x110 : SV) (x111 : SV) (x114 : SV) (x115 : SV) : ER :=
  eCallR Tryz.prog C 75 [x109, x110] 126 fun x116 => fun H => eLoadF Tryz.prog 3 x114 x115 H && (fun H => eLoadF Tryz.prog 70 x1 x111 H && (fun H => eLoadF Tryz.prog 70 x1 x108 H && (eCallR Tryz.prog C 76 [x115] 126 fun x117 => fun H => eLoadF Tryz.prog 70 x1 x108 H && (eBuildSlice Tryz.prog 166 2 [(0, x116), (1, x117)] fun x118 => eCallR Tryz.prog C 74 [x108, (.int .i64 9), x118] 0 fun x119 => eLoad Tryz.prog 70 x1 fun x120 => eCallR Tryz.prog C 77 [x120, (.fn 140 [] [x1, x29])] 26 fun x121 => K x121) H) H) H) H
noncomputable def kern_step_mmap_p8 (C : Cal) (K : SV → ER) (x1 : SV) (x29 : SV) : ER :=
  eFieldAddr Tryz.prog 47 x29 1 fun x107 => eLoad Tryz.prog 70 x1 fun x108 => eLoad Tryz.prog 70 x1 fun x109 => eLoad Tryz.prog 3 x107 fun x110 => eLoad Tryz.prog 70 x1 fun x111 => eNilCk x111 fun x112 => eFieldAddr Tryz.prog 76 x112 0 fun x113 => eFieldAddr Tryz.prog 31 x113 3 fun x114 => eLoad Tryz.prog 3 x114 fun x115 => kern_step_mmap_p7 C K x1 x29 x108 x109 x110 x111 x114 x115
noncomputable def kern_step_mmap_p9 (C : Cal) (K : SV → ER) (x1 : SV) (x29 : SV) (x95 : SV) (x96 : SV) (x98 : SV) : ER :=
  eFieldAddr Tryz.prog 50 x98 0 fun x99 => eLoad Tryz.prog 3 x99 fun x100 => eLoad Tryz.prog 47 x29 fun x101 => eCallR Tryz.prog C 120 [x95] 55 fun x102 => fun H => eLoadF Tryz.prog 47 x29 x101 H && (fun H => eLoadF Tryz.prog 3 x99 x100 H && (fun H => eLoadF Tryz.prog 70 x1 x96 H && (eCallR Tryz.prog C 139 [x102, x100, x101] 130 fun x103 => eExtract x103 0 fun x104 => eExtract x103 1 fun x105 => eBin Tryz.prog .neq 26 false x105 (.int .i64 0) fun x106 => eIfV x106
  (K x105)
  (kern_step_mmap_p8 C K x1 x29)) H) H) H
noncomputable def kern_step_mmap_p10 (C : Cal) (K : SV → ER) (x1 : SV) (k30 : Unit → ER) (x29 : SV) : ER :=
  eLoad Tryz.prog 70 x1 fun x32 => eNilCk x32 fun x33 => eFieldAddr Tryz.prog 76 x33 0 fun x34 => eFieldAddr Tryz.prog 31 x34 2 fun x35 => eLoad Tryz.prog 3 x35 fun x36 => eBin Tryz.prog .neq 3 false x36 (.int .i64 (-1)) fun x37 => eIfV x37
  (kern_step_mmap_p6 C K x1 k30 x29)
  (k30 (()))
noncomputable def kern_step_mmap_p11 (C : Cal) (K : SV → ER) (x1 : SV) (x29 : SV) : ER :=
  eLoad Tryz.prog 70 x1 fun x89 => eNilCk x89 fun x90 => eFieldAddr Tryz.prog 76 x90 1 fun x91 => eLoad Tryz.prog 23 x91 fun x92 => eNilCk x92 fun x93 => eFieldAddr Tryz.prog 58 x93 1 fun x94 => eLoad Tryz.prog 55 x94 fun x95 => eLoad Tryz.prog 70 x1 fun x96 => eNilCk x96 fun x97 => eFieldAddr Tryz.prog 76 x97 2 fun x98 => kern_step_mmap_p9 C K x1 x29 x95 x96 x98
noncomputable def kern_step_mmap_p12 (C : Cal) (K : SV → ER) (x1 : SV) (x20 : SV) : ER :=
  eFieldAddr Tryz.prog 31 x20 3 fun x21 => eLoad Tryz.prog 3 x21 fun x22 => eLoad Tryz.prog 70 x1 fun x23 => eNilCk x23 fun x24 => eFieldAddr Tryz.prog 76 x24 0 fun x25 => eFieldAddr Tryz.prog 31 x25 4 fun x26 => eLoad Tryz.prog 3 x26 fun x27 => eBuild Tryz.prog 47 [(2, x22), (3, x27), (4, (.bool true))] fun x28 => eAlloc Tryz.prog 47 fun x29 => eStore Tryz.prog 47 x29 x28 <| eJoinC (σ := Unit) (fun (k30 : Unit → ER) =>
  kern_step_mmap_p10 C K x1 k30 x29) fun (s31 : Unit) =>
  kern_step_mmap_p11 C K x1 x29
noncomputable def kern_step_mmap_p13 (C : Cal) (k2 : SV × Unit → ER) (x1 : SV) : ER :=
  eLoad Tryz.prog 70 x1 fun x4 => eNilCk x4 fun x5 => eFieldAddr Tryz.prog 76 x5 0 fun x6 => eFieldAddr Tryz.prog 31 x6 3 fun x7 => eLoad Tryz.prog 3 x7 fun x8 => eCallR Tryz.prog C 68 [x8, (.int .i64 1), (.int .i64 7)] 4 fun x9 => eUnS .not x9 fun x10 => eIfV x10
  (eHas .any (.bool true) (k2 ((.bool true), ())))
  (kern_step_mmap_p0 C k2 x1)
noncomputable def kern_step_mmap_e (C : Cal) (N : Nat) (a0 : SV) (K : SV → ER) : ER :=
  eBox Tryz.prog 70 a0 fun x1 => eJoinC (σ := SV × Unit) (fun (k2 : SV × Unit → ER) =>
  kern_step_mmap_p13 C k2 x1) fun (s3 : SV × Unit) =>
  eIfV s3.1
  (K (.int .i64 22))
  (eLoad Tryz.prog 70 x1 fun x18 => eNilCk x18 fun x19 => eFieldAddr Tryz.prog 76 x19 0 fun x20 => kern_step_mmap_p12 C K x1 x20)
theorem kern_step_mmap_ee (C : Cal) (N : Nat) (a0 : SV) (K : SV → ER) : eBody Tryz.prog C N Tryz.f53 (Tryz.f53.body.getD .skip) kern_step_mmap_ea [a0] K = kern_step_mmap_e C N a0 K := by kernel_rfl
noncomputable def l53 : LeafT := fun C N args K => match args with
  | [a0] => kern_step_mmap_e C N a0 K
  | _ => eF
theorem lok53 : LeafOk Tryz.prog 53 l53 := ⟨Tryz.f53, Tryz.f53.body.getD .skip, kern_step_mmap_ea, Tryz.func53, by kernel_rfl, Tryz.call53, fun C N args K H e => by
  unfold l53 at e
  split at e
  · rw [kern_step_mmap_ee]; exact e
  · exact eF_no e⟩

/- (*halberd/kern.step).mprotect -/
def kern_step_mprotect_ea : Ann := .two (.none) (.two (.ord [0, 1, 2, 3, 4, 5, 6, 7, 8, 9, 10, 11, 12, 13, 14, 15, 16, 17, 18, 19, 20, 21, 22, 23]) (.two (.join (.ord [0, 1, 2, 3, 4, 5, 9, 10, 11, 12, 13, 14, 15, 6, 7, 8, 16, 17, 18, 19, 20, 21, 22, 23, 24]) (.two (.none) (.two (.two (.none) (.none)) (.none))) [(5, .any)]) (.two (.ord [2, 11, 0, 1, 3, 5, 6, 7, 8, 9, 12, 4, 10, 13, 14, 15]) (.two (.none) (.none)))))
noncomputable def kern_step_mprotect_p0 (C : Cal) (k23 : SV × Unit → ER) (x21 : SV) (x22 : SV) (x39 : SV) : ER :=
  eFieldAddr Tryz.prog 47 x22 4 fun x40 => eLoad Tryz.prog 4 x40 fun x41 => eUnS .not x41 fun x42 => eCallR Tryz.prog C 71 [x42, (.int .i64 13)] 26 fun x43 => eBuildSlice Tryz.prog 164 3 [(0, x21), (1, x39), (2, x43)] fun x44 => eCallR Tryz.prog C 70 [x44] 26 fun x45 => eHas .any x45 (k23 (x45, ()))
noncomputable def kern_step_mprotect_p1 (C : Cal) (k23 : SV × Unit → ER) (x21 : SV) (x39 : SV) : ER :=
  eCallR Tryz.prog C 71 [(.bool false), (.int .i64 13)] 26 fun x46 => eBuildSlice Tryz.prog 164 3 [(0, x21), (1, x39), (2, x46)] fun x47 => eCallR Tryz.prog C 70 [x47] 26 fun x48 => eHas .any x48 (k23 (x48, ()))
noncomputable def kern_step_mprotect_p2 (C : Cal) (x1 : SV) (k23 : SV × Unit → ER) (x21 : SV) (x22 : SV) (x29 : SV) (x30 : SV) (x33 : SV) (x34 : SV) : ER :=
  eBin Tryz.prog .and 3 false x34 (.int .i64 2) fun x35 => eBin Tryz.prog .neq 3 false x35 (.int .i64 0) fun x36 => eCallR Tryz.prog C 68 [x29, (.int .i64 0), (.int .i64 7)] 4 fun x37 => fun H => eLoadF Tryz.prog 3 x33 x34 H && (fun H => eLoadF Tryz.prog 70 x1 x30 H && (eUnS .not x37 fun x38 => eCallR Tryz.prog C 71 [x38, (.int .i64 22)] 26 fun x39 => fun H => eLoadF Tryz.prog 3 x33 x34 H && (fun H => eLoadF Tryz.prog 70 x1 x30 H && (eIfV x36
  (kern_step_mprotect_p0 C k23 x21 x22 x39)
  (kern_step_mprotect_p1 C k23 x21 x39)) H) H) H) H
noncomputable def kern_step_mprotect_p3 (C : Cal) (K : SV → ER) (x1 : SV) (x51 : SV) (x52 : SV) (x55 : SV) (x58 : SV) (x59 : SV) (x60 : SV) (x61 : SV) : ER :=
  fun H => eLoadF Tryz.prog 3 x51 x60 H && (fun H => eLoadF Tryz.prog 3 x58 x59 H && (fun H => eLoadF Tryz.prog 70 x1 x55 H && (fun H => eLoadF Tryz.prog 70 x1 x52 H && (eCallR Tryz.prog C 76 [x59] 126 fun x62 => fun H => eLoadF Tryz.prog 3 x51 x60 H && (fun H => eLoadF Tryz.prog 70 x1 x52 H && (eCallR Tryz.prog C 76 [x60] 126 fun x63 => fun H => eLoadF Tryz.prog 70 x1 x52 H && (eBuildSlice Tryz.prog 166 3 [(0, x61), (1, x62), (2, x63)] fun x64 => eCallR Tryz.prog C 74 [x52, (.int .i64 10), x64] 0 fun x65 => eLoad Tryz.prog 70 x1 fun x66 => eCallR Tryz.prog C 86 [x66, (.fn 142 [] [x1])] 26 fun x67 => K x67) H) H) H) H) H) H) H
noncomputable def kern_step_mprotect_p4 (C : Cal) (K : SV → ER) (x1 : SV) (x22 : SV) : ER :=
  eFieldAddr Tryz.prog 47 x22 1 fun x50 => eFieldAddr Tryz.prog 47 x22 2 fun x51 => eLoad Tryz.prog 70 x1 fun x52 => eLoad Tryz.prog 70 x1 fun x53 => eLoad Tryz.prog 3 x50 fun x54 => eLoad Tryz.prog 70 x1 fun x55 => eNilCk x55 fun x56 => eFieldAddr Tryz.prog 76 x56 0 fun x57 => eFieldAddr Tryz.prog 31 x57 3 fun x58 => eLoad Tryz.prog 3 x58 fun x59 => eLoad Tryz.prog 3 x51 fun x60 => eCallR Tryz.prog C 75 [x53, x54] 126 fun x61 => kern_step_mprotect_p3 C K x1 x51 x52 x55 x58 x59 x60 x61
noncomputable def kern_step_mprotect_p5 (C : Cal) (x1 : SV) (k23 : SV × Unit → ER) (x21 : SV) (x22 : SV) : ER :=
  eLoad Tryz.prog 70 x1 fun x25 => eNilCk x25 fun x26 => eFieldAddr Tryz.prog 76 x26 0 fun x27 => eFieldAddr Tryz.prog 31 x27 3 fun x28 => eLoad Tryz.prog 3 x28 fun x29 => eLoad Tryz.prog 70 x1 fun x30 => eNilCk x30 fun x31 => eFieldAddr Tryz.prog 76 x31 0 fun x32 => eFieldAddr Tryz.prog 31 x32 3 fun x33 => eLoad Tryz.prog 3 x33 fun x34 => kern_step_mprotect_p2 C x1 k23 x21 x22 x29 x30 x33 x34
noncomputable def kern_step_mprotect_p6 (C : Cal) (K : SV → ER) (x1 : SV) (x8 : SV) (x13 : SV) (x15 : SV) : ER :=
  eFieldAddr Tryz.prog 76 x15 0 fun x16 => eFieldAddr Tryz.prog 31 x16 2 fun x17 => eLoad Tryz.prog 3 x17 fun x18 => eCallR Tryz.prog C 141 [x8, x13, x18] 156 fun x19 => eExtract x19 0 fun x20 => eExtract x19 1 fun x21 => eAlloc Tryz.prog 47 fun x22 => eStore Tryz.prog 47 x22 x20 <| eJoinC (σ := SV × Unit) (fun (k23 : SV × Unit → ER) =>
  kern_step_mprotect_p5 C x1 k23 x21 x22) fun (s24 : SV × Unit) =>
  eBin Tryz.prog .neq 26 false s24.1 (.int .i64 0) fun x49 => eIfV x49
  (K s24.1)
  (kern_step_mprotect_p4 C K x1 x22)
noncomputable def kern_step_mprotect_e (C : Cal) (N : Nat) (a0 : SV) (K : SV → ER) : ER :=
  eBox Tryz.prog 70 a0 fun x1 => eLoad Tryz.prog 70 x1 fun x2 => eNilCk x2 fun x3 => eFieldAddr Tryz.prog 76 x3 1 fun x4 => eLoad Tryz.prog 23 x4 fun x5 => eNilCk x5 fun x6 => eFieldAddr Tryz.prog 58 x6 1 fun x7 => eLoad Tryz.prog 55 x7 fun x8 => eLoad Tryz.prog 70 x1 fun x9 => eNilCk x9 fun x10 => eFieldAddr Tryz.prog 76 x10 2 fun x11 => eFieldAddr Tryz.prog 50 x11 0 fun x12 => eLoad Tryz.prog 3 x12 fun x13 => eLoad Tryz.prog 70 x1 fun x14 => eNilCk x14 fun x15 => kern_step_mprotect_p6 C K x1 x8 x13 x15
theorem kern_step_mprotect_ee (C : Cal) (N : Nat) (a0 : SV) (K : SV → ER) : eBody Tryz.prog C N Tryz.f54 (Tryz.f54.body.getD .skip) kern_step_mprotect_ea [a0] K = kern_step_mprotect_e C N a0 K := by kernel_rfl
noncomputable def l54 : LeafT := fun C N args K => match args with
  | [a0] => kern_step_mprotect_e C N a0 K
  | _ => eF
theorem lok54 : LeafOk Tryz.prog 54 l54 := ⟨Tryz.f54, Tryz.f54.body.getD .skip, kern_step_mprotect_ea, Tryz.func54, by kernel_rfl, Tryz.call54, fun C N args K H e => by
  unfold l54 at e
  split at e
  · rw [kern_step_mprotect_ee]; exact e
  · exact eF_no e⟩

/- (*halberd/kern.step).munmap -/
def kern_step_munmap_ea : Ann := .two (.none) (.two (.two (.ord [0, 1, 2, 3, 4, 5, 6, 7, 8, 9, 10, 11, 12, 13, 14, 15, 16, 17, 18, 19, 20, 21, 22, 23]) (.two (.none) (.two (.two (.none) (.none)) (.none)))) (.two (.none) (.none)))
noncomputable def kern_step_munmap_p0 (C : Cal) (K : SV → ER) (x1 : SV) (x8 : SV) (x13 : SV) : ER :=
  eLoad Tryz.prog 70 x1 fun x14 => eNilCk x14 fun x15 => eFieldAddr Tryz.prog 76 x15 0 fun x16 => eFieldAddr Tryz.prog 31 x16 2 fun x17 => eLoad Tryz.prog 3 x17 fun x18 => eCallR Tryz.prog C 141 [x8, x13, x18] 156 fun x19 => eExtract x19 0 fun x20 => eExtract x19 1 fun x21 => eAlloc Tryz.prog 47 fun x22 => eStore Tryz.prog 47 x22 x20 <| eBin Tryz.prog .neq 26 false x21 (.int .i64 0) fun x23 => eIfV x23
  (K x21)
  (eLoad Tryz.prog 70 x1 fun x24 => eCallR Tryz.prog C 86 [x24, (.fn 144 [] [x1])] 26 fun x25 => K x25)
noncomputable def kern_step_munmap_e (C : Cal) (N : Nat) (a0 : SV) (K : SV → ER) : ER :=
  eBox Tryz.prog 70 a0 fun x1 => eLoad Tryz.prog 70 x1 fun x2 => eNilCk x2 fun x3 => eFieldAddr Tryz.prog 76 x3 1 fun x4 => eLoad Tryz.prog 23 x4 fun x5 => eNilCk x5 fun x6 => eFieldAddr Tryz.prog 58 x6 1 fun x7 => eLoad Tryz.prog 55 x7 fun x8 => eLoad Tryz.prog 70 x1 fun x9 => eNilCk x9 fun x10 => eFieldAddr Tryz.prog 76 x10 2 fun x11 => eFieldAddr Tryz.prog 50 x11 0 fun x12 => eLoad Tryz.prog 3 x12 fun x13 => kern_step_munmap_p0 C K x1 x8 x13
theorem kern_step_munmap_ee (C : Cal) (N : Nat) (a0 : SV) (K : SV → ER) : eBody Tryz.prog C N Tryz.f55 (Tryz.f55.body.getD .skip) kern_step_munmap_ea [a0] K = kern_step_munmap_e C N a0 K := by kernel_rfl
noncomputable def l55 : LeafT := fun C N args K => match args with
  | [a0] => kern_step_munmap_e C N a0 K
  | _ => eF
theorem lok55 : LeafOk Tryz.prog 55 l55 := ⟨Tryz.f55, Tryz.f55.body.getD .skip, kern_step_munmap_ea, Tryz.func55, by kernel_rfl, Tryz.call55, fun C N args K H e => by
  unfold l55 at e
  split at e
  · rw [kern_step_munmap_ee]; exact e
  · exact eF_no e⟩

/- (*halberd/kern.step).dup -/
def kern_step_dup_ea : Ann := .two (.none) (.two (.none) (.two (.two (.none) (.two (.none) (.two (.two (.none) (.none)) (.none)))) (.two (.none) (.none))))
noncomputable def kern_step_dup_p0 (C : Cal) (K : SV → ER) (x1 : SV) : ER :=
  eLoad Tryz.prog 70 x1 fun x2 => eCallR Tryz.prog C 85 [x2] 134 fun x3 => eExtract x3 0 fun x4 => eExtract x3 1 fun x5 => eAlloc Tryz.prog 44 fun x6 => eStore Tryz.prog 44 x6 x4 <| eLoad Tryz.prog 70 x1 fun x7 => eCallR Tryz.prog C 73 [x7] 26 fun x8 => eBuildSlice Tryz.prog 164 2 [(0, x5), (1, x8)] fun x9 => eCallR Tryz.prog C 70 [x9] 26 fun x10 => eBin Tryz.prog .neq 26 false x10 (.int .i64 0) fun x11 => eIfV x11
  (K x10)
  (eLoad Tryz.prog 70 x1 fun x12 => eCallR Tryz.prog C 77 [x12, (.fn 146 [] [x1])] 26 fun x13 => K x13)
noncomputable def kern_step_dup_e (C : Cal) (N : Nat) (a0 : SV) (K : SV → ER) : ER :=
  eBox Tryz.prog 70 a0 fun x1 => kern_step_dup_p0 C K x1
theorem kern_step_dup_ee (C : Cal) (N : Nat) (a0 : SV) (K : SV → ER) : eBody Tryz.prog C N Tryz.f56 (Tryz.f56.body.getD .skip) kern_step_dup_ea [a0] K = kern_step_dup_e C N a0 K := by kernel_rfl
noncomputable def l56 : LeafT := fun C N args K => match args with
  | [a0] => kern_step_dup_e C N a0 K
  | _ => eF
theorem lok56 : LeafOk Tryz.prog 56 l56 := ⟨Tryz.f56, Tryz.f56.body.getD .skip, kern_step_dup_ea, Tryz.func56, by kernel_rfl, Tryz.call56, fun C N args K H e => by
  unfold l56 at e
  split at e
  · rw [kern_step_dup_ee]; exact e
  · exact eF_no e⟩

/- (*halberd/kern.step).getpid -/
def kern_step_getpid_ea : Ann := .two (.none) (.two (.none) (.none))
noncomputable def kern_step_getpid_e (C : Cal) (N : Nat) (a0 : SV) (K : SV → ER) : ER :=
  eBox Tryz.prog 70 a0 fun x1 => eLoad Tryz.prog 70 x1 fun x2 => eCallR Tryz.prog C 77 [x2, (.fn 148 [] [x1])] 26 fun x3 => K x3
theorem kern_step_getpid_ee (C : Cal) (N : Nat) (a0 : SV) (K : SV → ER) : eBody Tryz.prog C N Tryz.f57 (Tryz.f57.body.getD .skip) kern_step_getpid_ea [a0] K = kern_step_getpid_e C N a0 K := by kernel_rfl
noncomputable def l57 : LeafT := fun C N args K => match args with
  | [a0] => kern_step_getpid_e C N a0 K
  | _ => eF
theorem lok57 : LeafOk Tryz.prog 57 l57 := ⟨Tryz.f57, Tryz.f57.body.getD .skip, kern_step_getpid_ea, Tryz.func57, by kernel_rfl, Tryz.call57, fun C N args K H e => by
  unfold l57 at e
  split at e
  · rw [kern_step_getpid_ee]; exact e
  · exact eF_no e⟩

/- (*halberd/tasks.Table).alive -/
def tasks_Table_alive_ea : Ann := .two (.none) (.two (.two (.none) (.join (.none) (.two (.two (.none) (.none)) (.none)) [(17, .any)])) (.two (.none) (.none)))
noncomputable def tasks_Table_alive_p0 (k2 : SV × Unit → ER) (x1 : SV) : ER :=
  eBin Tryz.prog .neq 94 true x1 (.ptr none) fun x4 => eIfV x4
  (eNilCk x1 fun x5 => eFieldAddr Tryz.prog 50 x5 8 fun x6 => eLoad Tryz.prog 4 x6 fun x7 => eUnS .not x7 fun x8 => eHas .any x8 (k2 (x8, ())))
  (eHas .any (.bool false) (k2 ((.bool false), ())))
noncomputable def tasks_Table_alive_e (C : Cal) (N : Nat) (a0 a1 : SV) (K : SV → ER) : ER :=
  eCallR Tryz.prog C 27 [a0, a1] 94 fun x1 => eJoinC (σ := SV × Unit) (fun (k2 : SV × Unit → ER) =>
  tasks_Table_alive_p0 k2 x1) fun (s3 : SV × Unit) =>
  eIfV s3.1
  (K x1)
  (K (.ptr none))
theorem tasks_Table_alive_ee (C : Cal) (N : Nat) (a0 a1 : SV) (K : SV → ER) : eBody Tryz.prog C N Tryz.f58 (Tryz.f58.body.getD .skip) tasks_Table_alive_ea [a0, a1] K = tasks_Table_alive_e C N a0 a1 K := by kernel_rfl
noncomputable def l58 : LeafT := fun C N args K => match args with
  | [a0, a1] => tasks_Table_alive_e C N a0 a1 K
  | _ => eF
theorem lok58 : LeafOk Tryz.prog 58 l58 := ⟨Tryz.f58, Tryz.f58.body.getD .skip, tasks_Table_alive_ea, Tryz.func58, by kernel_rfl, Tryz.call58, fun C N args K H e => by
  unfold l58 at e
  split at e
  · rw [tasks_Table_alive_ee]; exact e
  · exact eF_no e⟩

end Go.Proofs.YtnpcjhcgbcpcoaaGreatDoor

set_option linter.unusedVariables false
set_option maxRecDepth 100000
namespace Go.Proofs.YtnpcjhcgbcpcoaaGreatDoor
open Go.Hl
/- slices.ContainsFunc[[]halberd/api.Task,halberd/api.Task] -/
def slices_ContainsFunc_api_Task_api_Task_ea : Ann := .two (.none) (.two (.none) (.none))
noncomputable def slices_ContainsFunc_api_Task_api_Task_e (C : Cal) (N : Nat) (a0 a1 : SV) (K : SV → ER) : ER :=
  eCallR Tryz.prog C 149 [a0, a1] 3 fun x1 => eBin Tryz.prog .geq 3 false x1 (.int .i64 0) fun x2 => K x2
theorem slices_ContainsFunc_api_Task_api_Task_ee (C : Cal) (N : Nat) (a0 a1 : SV) (K : SV → ER) : eBody Tryz.prog C N Tryz.f59 (Tryz.f59.body.getD .skip) slices_ContainsFunc_api_Task_api_Task_ea [a0, a1] K = slices_ContainsFunc_api_Task_api_Task_e C N a0 a1 K := by kernel_rfl
noncomputable def l59 : LeafT := fun C N args K => match args with
  | [a0, a1] => slices_ContainsFunc_api_Task_api_Task_e C N a0 a1 K
  | _ => eF
theorem lok59 : LeafOk Tryz.prog 59 l59 := ⟨Tryz.f59, Tryz.f59.body.getD .skip, slices_ContainsFunc_api_Task_api_Task_ea, Tryz.func59, by kernel_rfl, Tryz.call59, fun C N args K H e => by
  unfold l59 at e
  split at e
  · rw [slices_ContainsFunc_api_Task_api_Task_ee]; exact e
  · exact eF_no e⟩

/- (*halberd/tasks.Table).Uses$1 -/
def tasks_Table_Uses_1_ea : Ann := .two (.none) (.join (.none) (.none) [(3, .any)])
noncomputable def tasks_Table_Uses_1_p0 (C : Cal) (a1 : SV) (k2 : SV × Unit → ER) (x1 : SV) : ER :=
  eFieldAddr Tryz.prog 50 x1 11 fun x17 => eSliceS Tryz.prog 45 x17 none none none fun x18 => eCallR Tryz.prog C 61 [x18, (.fn 62 [] [a1])] 4 fun x19 => eIfV x19
  (eHas .any (.bool true) (k2 ((.bool true), ())))
  (eFieldAddr Tryz.prog 50 x1 12 fun x20 => eSliceS Tryz.prog 48 x20 none none none fun x21 => eCallR Tryz.prog C 63 [x21, (.fn 64 [] [a1])] 4 fun x22 => eHas .any x22 (k2 (x22, ())))
noncomputable def tasks_Table_Uses_1_p1 (C : Cal) (a1 : SV) (k2 : SV × Unit → ER) (x1 : SV) : ER :=
  eFieldAddr Tryz.prog 50 x1 11 fun x23 => eSliceS Tryz.prog 45 x23 none none none fun x24 => eCallR Tryz.prog C 61 [x24, (.fn 62 [] [a1])] 4 fun x25 => eIfV x25
  (eHas .any (.bool true) (k2 ((.bool true), ())))
  (eFieldAddr Tryz.prog 50 x1 12 fun x26 => eSliceS Tryz.prog 48 x26 none none none fun x27 => eCallR Tryz.prog C 63 [x27, (.fn 64 [] [a1])] 4 fun x28 => eHas .any x28 (k2 (x28, ())))
noncomputable def tasks_Table_Uses_1_p2 (C : Cal) (a1 : SV) (k2 : SV × Unit → ER) (x1 : SV) : ER :=
  eFieldAddr Tryz.prog 50 x1 6 fun x11 => eLoad Tryz.prog 3 x11 fun x12 => eLoad Tryz.prog 3 a1 fun x13 => eBin Tryz.prog .eql 3 false x12 x13 fun x14 => eIfV x14
  (eLoad Tryz.prog 3 a1 fun x15 => eBin Tryz.prog .neq 3 false x15 (.int .i64 0) fun x16 => eIfV x16
  (eHas .any (.bool true) (k2 ((.bool true), ())))
  (tasks_Table_Uses_1_p0 C a1 k2 x1))
  (tasks_Table_Uses_1_p1 C a1 k2 x1)
noncomputable def tasks_Table_Uses_1_p3 (C : Cal) (a1 : SV) (k2 : SV × Unit → ER) (x1 : SV) : ER :=
  eFieldAddr Tryz.prog 50 x1 5 fun x7 => eLoad Tryz.prog 3 x7 fun x8 => eLoad Tryz.prog 3 a1 fun x9 => eBin Tryz.prog .eql 3 false x8 x9 fun x10 => eIfV x10
  (eHas .any (.bool true) (k2 ((.bool true), ())))
  (tasks_Table_Uses_1_p2 C a1 k2 x1)
noncomputable def tasks_Table_Uses_1_p4 (C : Cal) (a1 : SV) (k2 : SV × Unit → ER) (x1 : SV) : ER :=
  eFieldAddr Tryz.prog 50 x1 11 fun x29 => eSliceS Tryz.prog 45 x29 none none none fun x30 => eCallR Tryz.prog C 61 [x30, (.fn 62 [] [a1])] 4 fun x31 => eIfV x31
  (eHas .any (.bool true) (k2 ((.bool true), ())))
  (eFieldAddr Tryz.prog 50 x1 12 fun x32 => eSliceS Tryz.prog 48 x32 none none none fun x33 => eCallR Tryz.prog C 63 [x33, (.fn 64 [] [a1])] 4 fun x34 => eHas .any x34 (k2 (x34, ())))
noncomputable def tasks_Table_Uses_1_e (C : Cal) (N : Nat) (a0 a1 : SV) (K : SV → ER) : ER :=
  eBox Tryz.prog 50 a0 fun x1 => eJoinC (σ := SV × Unit) (fun (k2 : SV × Unit → ER) =>
  eFieldAddr Tryz.prog 50 x1 8 fun x4 => eLoad Tryz.prog 4 x4 fun x5 => eUnS .not x5 fun x6 => eIfV x6
  (tasks_Table_Uses_1_p3 C a1 k2 x1)
  (tasks_Table_Uses_1_p4 C a1 k2 x1)) fun (s3 : SV × Unit) =>
  K s3.1
theorem tasks_Table_Uses_1_ee (C : Cal) (N : Nat) (a0 a1 : SV) (K : SV → ER) : eBody Tryz.prog C N Tryz.f60 (Tryz.f60.body.getD .skip) tasks_Table_Uses_1_ea [a0, a1] K = tasks_Table_Uses_1_e C N a0 a1 K := by kernel_rfl
noncomputable def l60 : LeafT := fun C N args K => match args with
  | [a0, a1] => tasks_Table_Uses_1_e C N a0 a1 K
  | _ => eF
theorem lok60 : LeafOk Tryz.prog 60 l60 := ⟨Tryz.f60, Tryz.f60.body.getD .skip, tasks_Table_Uses_1_ea, Tryz.func60, by kernel_rfl, Tryz.call60, fun C N args K H e => by
  unfold l60 at e
  split at e
  · rw [tasks_Table_Uses_1_ee]; exact e
  · exact eF_no e⟩

/- slices.ContainsFunc[[]halberd/api.File,halberd/api.File] -/
def slices_ContainsFunc_api_File_api_File_ea : Ann := .two (.none) (.two (.none) (.none))
noncomputable def slices_ContainsFunc_api_File_api_File_e (C : Cal) (N : Nat) (a0 a1 : SV) (K : SV → ER) : ER :=
  eCallR Tryz.prog C 150 [a0, a1] 3 fun x1 => eBin Tryz.prog .geq 3 false x1 (.int .i64 0) fun x2 => K x2
theorem slices_ContainsFunc_api_File_api_File_ee (C : Cal) (N : Nat) (a0 a1 : SV) (K : SV → ER) : eBody Tryz.prog C N Tryz.f61 (Tryz.f61.body.getD .skip) slices_ContainsFunc_api_File_api_File_ea [a0, a1] K = slices_ContainsFunc_api_File_api_File_e C N a0 a1 K := by kernel_rfl
noncomputable def l61 : LeafT := fun C N args K => match args with
  | [a0, a1] => slices_ContainsFunc_api_File_api_File_e C N a0 a1 K
  | _ => eF
theorem lok61 : LeafOk Tryz.prog 61 l61 := ⟨Tryz.f61, Tryz.f61.body.getD .skip, slices_ContainsFunc_api_File_api_File_ea, Tryz.func61, by kernel_rfl, Tryz.call61, fun C N args K H e => by
  unfold l61 at e
  split at e
  · rw [slices_ContainsFunc_api_File_api_File_ee]; exact e
  · exact eF_no e⟩

/- (*halberd/tasks.Table).Uses$1$1 -/
def tasks_Table_Uses_1_1_ea : Ann := .two (.none) (.join (.none) (.none) [(3, .any)])
noncomputable def tasks_Table_Uses_1_1_p0 (a1 : SV) (k2 : SV × Unit → ER) (x1 : SV) : ER :=
  eLoad Tryz.prog 44 x1 fun x4 => eBuild Tryz.prog 44 [] fun x5 => eBin Tryz.prog .neq 44 false x4 x5 fun x6 => eIfV x6
  (eFieldAddr Tryz.prog 44 x1 0 fun x7 => eLoad Tryz.prog 3 x7 fun x8 => eLoad Tryz.prog 3 a1 fun x9 => eBin Tryz.prog .eql 3 false x8 x9 fun x10 => eHas .any x10 (k2 (x10, ())))
  (eHas .any (.bool false) (k2 ((.bool false), ())))
noncomputable def tasks_Table_Uses_1_1_e (C : Cal) (N : Nat) (a0 a1 : SV) (K : SV → ER) : ER :=
  eBox Tryz.prog 44 a0 fun x1 => eJoinC (σ := SV × Unit) (fun (k2 : SV × Unit → ER) =>
  tasks_Table_Uses_1_1_p0 a1 k2 x1) fun (s3 : SV × Unit) =>
  K s3.1
theorem tasks_Table_Uses_1_1_ee (C : Cal) (N : Nat) (a0 a1 : SV) (K : SV → ER) : eBody Tryz.prog C N Tryz.f62 (Tryz.f62.body.getD .skip) tasks_Table_Uses_1_1_ea [a0, a1] K = tasks_Table_Uses_1_1_e C N a0 a1 K := by kernel_rfl
noncomputable def l62 : LeafT := fun C N args K => match args with
  | [a0, a1] => tasks_Table_Uses_1_1_e C N a0 a1 K
  | _ => eF
theorem lok62 : LeafOk Tryz.prog 62 l62 := ⟨Tryz.f62, Tryz.f62.body.getD .skip, tasks_Table_Uses_1_1_ea, Tryz.func62, by kernel_rfl, Tryz.call62, fun C N args K H e => by
  unfold l62 at e
  split at e
  · rw [tasks_Table_Uses_1_1_ee]; exact e
  · exact eF_no e⟩

/- slices.ContainsFunc[[]halberd/api.Area,halberd/api.Area] -/
def slices_ContainsFunc_api_Area_api_Area_ea : Ann := .two (.none) (.two (.none) (.none))
noncomputable def slices_ContainsFunc_api_Area_api_Area_e (C : Cal) (N : Nat) (a0 a1 : SV) (K : SV → ER) : ER :=
  eCallR Tryz.prog C 151 [a0, a1] 3 fun x1 => eBin Tryz.prog .geq 3 false x1 (.int .i64 0) fun x2 => K x2
theorem slices_ContainsFunc_api_Area_api_Area_ee (C : Cal) (N : Nat) (a0 a1 : SV) (K : SV → ER) : eBody Tryz.prog C N Tryz.f63 (Tryz.f63.body.getD .skip) slices_ContainsFunc_api_Area_api_Area_ea [a0, a1] K = slices_ContainsFunc_api_Area_api_Area_e C N a0 a1 K := by kernel_rfl
noncomputable def l63 : LeafT := fun C N args K => match args with
  | [a0, a1] => slices_ContainsFunc_api_Area_api_Area_e C N a0 a1 K
  | _ => eF
theorem lok63 : LeafOk Tryz.prog 63 l63 := ⟨Tryz.f63, Tryz.f63.body.getD .skip, slices_ContainsFunc_api_Area_api_Area_ea, Tryz.func63, by kernel_rfl, Tryz.call63, fun C N args K H e => by
  unfold l63 at e
  split at e
  · rw [slices_ContainsFunc_api_Area_api_Area_ee]; exact e
  · exact eF_no e⟩

/- (*halberd/tasks.Table).Uses$1$2 -/
def tasks_Table_Uses_1_2_ea : Ann := .two (.none) (.join (.none) (.none) [(3, .any)])
noncomputable def tasks_Table_Uses_1_2_p0 (a1 : SV) (k2 : SV × Unit → ER) (x1 : SV) : ER :=
  eFieldAddr Tryz.prog 47 x1 1 fun x6 => eLoad Tryz.prog 3 x6 fun x7 => eLoad Tryz.prog 3 a1 fun x8 => eBin Tryz.prog .eql 3 false x7 x8 fun x9 => eIfV x9
  (eLoad Tryz.prog 3 a1 fun x10 => eBin Tryz.prog .neq 3 false x10 (.int .i64 0) fun x11 => eHas .any x11 (k2 (x11, ())))
  (eHas .any (.bool false) (k2 ((.bool false), ())))
noncomputable def tasks_Table_Uses_1_2_e (C : Cal) (N : Nat) (a0 a1 : SV) (K : SV → ER) : ER :=
  eBox Tryz.prog 47 a0 fun x1 => eJoinC (σ := SV × Unit) (fun (k2 : SV × Unit → ER) =>
  eFieldAddr Tryz.prog 47 x1 0 fun x4 => eLoad Tryz.prog 4 x4 fun x5 => eIfV x5
  (tasks_Table_Uses_1_2_p0 a1 k2 x1)
  (eHas .any (.bool false) (k2 ((.bool false), ())))) fun (s3 : SV × Unit) =>
  K s3.1
theorem tasks_Table_Uses_1_2_ee (C : Cal) (N : Nat) (a0 a1 : SV) (K : SV → ER) : eBody Tryz.prog C N Tryz.f64 (Tryz.f64.body.getD .skip) tasks_Table_Uses_1_2_ea [a0, a1] K = tasks_Table_Uses_1_2_e C N a0 a1 K := by kernel_rfl
noncomputable def l64 : LeafT := fun C N args K => match args with
  | [a0, a1] => tasks_Table_Uses_1_2_e C N a0 a1 K
  | _ => eF
theorem lok64 : LeafOk Tryz.prog 64 l64 := ⟨Tryz.f64, Tryz.f64.body.getD .skip, tasks_Table_Uses_1_2_ea, Tryz.func64, by kernel_rfl, Tryz.call64, fun C N args K H e => by
  unfold l64 at e
  split at e
  · rw [tasks_Table_Uses_1_2_ee]; exact e
  · exact eF_no e⟩

/- slices.Clone[[]string,string] -/
def slices_Clone_string_string_ea : Ann := .two (.none) (.two (.two (.none) (.two (.two (.none) (.none)) (.none))) (.two (.none) (.none)))
noncomputable def slices_Clone_string_string_e (C : Cal) (N : Nat) (a0 : SV) (K : SV → ER) : ER :=
  eBin Tryz.prog .eql 25 true a0 (.sl ⟨none, 0, .lit 0⟩) fun x1 => eIfV x1
  (K (.sl ⟨none, 0, .lit 0⟩))
  (eBuildSlice Tryz.prog 25 0 [] fun x2 => eApp Tryz.prog [25, 25] [x2, a0] fun x3 => K x3)
theorem slices_Clone_string_string_ee (C : Cal) (N : Nat) (a0 : SV) (K : SV → ER) : eBody Tryz.prog C N Tryz.f65 (Tryz.f65.body.getD .skip) slices_Clone_string_string_ea [a0] K = slices_Clone_string_string_e C N a0 K := by kernel_rfl
noncomputable def l65 : LeafT := fun C N args K => match args with
  | [a0] => slices_Clone_string_string_e C N a0 K
  | _ => eF
theorem lok65 : LeafOk Tryz.prog 65 l65 := ⟨Tryz.f65, Tryz.f65.body.getD .skip, slices_Clone_string_string_ea, Tryz.func65, by kernel_rfl, Tryz.call65, fun C N args K H e => by
  unfold l65 at e
  split at e
  · rw [slices_Clone_string_string_ee]; exact e
  · exact eF_no e⟩

/- slices.Clone[[]int,int] -/
def slices_Clone_int_int_ea : Ann := .two (.none) (.two (.two (.none) (.two (.two (.none) (.none)) (.none))) (.two (.none) (.none)))
noncomputable def slices_Clone_int_int_e (C : Cal) (N : Nat) (a0 : SV) (K : SV → ER) : ER :=
  eBin Tryz.prog .eql 38 true a0 (.sl ⟨none, 0, .lit 0⟩) fun x1 => eIfV x1
  (K (.sl ⟨none, 0, .lit 0⟩))
  (eBuildSlice Tryz.prog 38 0 [] fun x2 => eApp Tryz.prog [38, 38] [x2, a0] fun x3 => K x3)
theorem slices_Clone_int_int_ee (C : Cal) (N : Nat) (a0 : SV) (K : SV → ER) : eBody Tryz.prog C N Tryz.f66 (Tryz.f66.body.getD .skip) slices_Clone_int_int_ea [a0] K = slices_Clone_int_int_e C N a0 K := by kernel_rfl
noncomputable def l66 : LeafT := fun C N args K => match args with
  | [a0] => slices_Clone_int_int_e C N a0 K
  | _ => eF
theorem lok66 : LeafOk Tryz.prog 66 l66 := ⟨Tryz.f66, Tryz.f66.body.getD .skip, slices_Clone_int_int_ea, Tryz.func66, by kernel_rfl, Tryz.call66, fun C N args K H e => by
  unfold l66 at e
  split at e
  · rw [slices_Clone_int_int_ee]; exact e
  · exact eF_no e⟩

end Go.Proofs.YtnpcjhcgbcpcoaaGreatDoor

set_option linter.unusedVariables false
set_option maxRecDepth 100000
namespace Go.Proofs.YtnpcjhcgbcpcoaaGreatDoor
open Go.Hl
/- halberd/perms.Flags -/
def perms_Flags_ea : Ann := .two (.none) (.two (.join (.none) (.two (.two (.none) (.none)) (.none)) [(16, .any)]) (.two (.none) (.join (.two (.none) (.two (.none) (.none))) (.join (.two (.none) (.two (.none) (.none))) (.two (.none) (.none)) [(4, .any)]) [(4, .any)])))
noncomputable def perms_Flags_p0 (C : Cal) (a0 : SV) (k1 : SV × Unit → ER) : ER :=
  eBin Tryz.prog .gtr 3 false a0 (.int .i64 31) fun x4 => eIfV x4
  (eHas .any (.bool true) (k1 ((.bool true), ())))
  (eBuildSlice Tryz.prog 38 2 [(0, (.int .i64 1)), (1, (.int .i64 2))] fun x5 => eCallR Tryz.prog C 152 [a0, x5] 4 fun x6 => eUnS .not x6 fun x7 => eHas .any x7 (k1 (x7, ())))
noncomputable def perms_Flags_p1 (C : Cal) (a0 : SV) (s9 : SV × Unit) (k13 : SV × Unit → ER) : ER :=
  eBuildSlice Tryz.prog 38 2 [(0, (.int .i64 2)), (1, (.int .i64 16))] fun x15 => eCallR Tryz.prog C 152 [a0, x15] 4 fun x16 => eIfV x16
  (eBin Tryz.prog .or 3 false s9.1 (.int .i64 2) fun x17 => eHas .any x17 (k13 (x17, ())))
  (eHas .any s9.1 (k13 (s9.1, ())))
noncomputable def perms_Flags_p2 (C : Cal) (a0 : SV) (k8 : SV × Unit → ER) : ER :=
  eBuildSlice Tryz.prog 38 1 [(0, (.int .i64 1))] fun x10 => eCallR Tryz.prog C 152 [a0, x10] 4 fun x11 => eIfV x11
  (eBin Tryz.prog .or 3 false (.int .i64 0) (.int .i64 4) fun x12 => eHas .any x12 (k8 (x12, ())))
  (eHas .any (.int .i64 0) (k8 ((.int .i64 0), ())))
noncomputable def perms_Flags_p3 (C : Cal) (K : SV → ER) (a0 : SV) : ER :=
  eJoinC (σ := SV × Unit) (fun (k8 : SV × Unit → ER) =>
  perms_Flags_p2 C a0 k8) fun (s9 : SV × Unit) =>
  eJoinC (σ := SV × Unit) (fun (k13 : SV × Unit → ER) =>
  perms_Flags_p1 C a0 s9 k13) fun (s14 : SV × Unit) =>
  K (.tup [s14.1, (.bool true)])
noncomputable def perms_Flags_e (C : Cal) (N : Nat) (a0 : SV) (K : SV → ER) : ER :=
  eJoinC (σ := SV × Unit) (fun (k1 : SV × Unit → ER) =>
  eBin Tryz.prog .lss 3 false a0 (.int .i64 0) fun x3 => eIfV x3
  (eHas .any (.bool true) (k1 ((.bool true), ())))
  (perms_Flags_p0 C a0 k1)) fun (s2 : SV × Unit) =>
  eIfV s2.1
  (K (.tup [(.int .i64 0), (.bool false)]))
  (perms_Flags_p3 C K a0)
theorem perms_Flags_ee (C : Cal) (N : Nat) (a0 : SV) (K : SV → ER) : eBody Tryz.prog C N Tryz.f67 (Tryz.f67.body.getD .skip) perms_Flags_ea [a0] K = perms_Flags_e C N a0 K := by kernel_rfl
noncomputable def l67 : LeafT := fun C N args K => match args with
  | [a0] => perms_Flags_e C N a0 K
  | _ => eF
theorem lok67 : LeafOk Tryz.prog 67 l67 := ⟨Tryz.f67, Tryz.f67.body.getD .skip, perms_Flags_ea, Tryz.func67, by kernel_rfl, Tryz.call67, fun C N args K H e => by
  unfold l67 at e
  split at e
  · rw [perms_Flags_ee]; exact e
  · exact eF_no e⟩

/- halberd/kern.within -/
def kern_within_ea : Ann := .two (.none) (.join (.none) (.none) [(6, .any)])
noncomputable def kern_within_e (C : Cal) (N : Nat) (a0 a1 a2 : SV) (K : SV → ER) : ER :=
  eJoinC (σ := SV × Unit) (fun (k1 : SV × Unit → ER) =>
  eBin Tryz.prog .geq 3 false a0 a1 fun x3 => eIfV x3
  (eBin Tryz.prog .leq 3 false a0 a2 fun x4 => eHas .any x4 (k1 (x4, ())))
  (eHas .any (.bool false) (k1 ((.bool false), ())))) fun (s2 : SV × Unit) =>
  K s2.1
theorem kern_within_ee (C : Cal) (N : Nat) (a0 a1 a2 : SV) (K : SV → ER) : eBody Tryz.prog C N Tryz.f68 (Tryz.f68.body.getD .skip) kern_within_ea [a0, a1, a2] K = kern_within_e C N a0 a1 a2 K := by kernel_rfl
noncomputable def l68 : LeafT := fun C N args K => match args with
  | [a0, a1, a2] => kern_within_e C N a0 a1 a2 K
  | _ => eF
theorem lok68 : LeafOk Tryz.prog 68 l68 := ⟨Tryz.f68, Tryz.f68.body.getD .skip, kern_within_ea, Tryz.func68, by kernel_rfl, Tryz.call68, fun C N args K H e => by
  unfold l68 at e
  split at e
  · rw [kern_within_ee]; exact e
  · exact eF_no e⟩

/- (*halberd/kern.step).find -/
def kern_step_find_ea : Ann := .two (.none) (.two (.ord [0, 1, 2, 7, 8, 9, 10, 12, 13, 14, 15, 17, 18, 19, 20, 22, 23, 3, 4, 5, 6, 11, 16, 21, 24, 25, 26, 27, 28]) (.none))
noncomputable def kern_step_find_p0 (C : Cal) (K : SV → ER) (a1 : SV) (a2 : SV) (x1 : SV) (x3 : SV) (x6 : SV) (x9 : SV) (x10 : SV) : ER :=
  eFieldAddr Tryz.prog 76 x10 2 fun x11 => eFieldAddr Tryz.prog 50 x11 4 fun x12 => eLoad Tryz.prog 23 x3 fun x13 => eNilCk x13 fun x14 => eFieldAddr Tryz.prog 58 x14 0 fun x15 => eLoad Tryz.prog 53 x15 fun x16 => eLoad Tryz.prog 3 x6 fun x17 => eLoad Tryz.prog 3 x9 fun x18 => eLoad Tryz.prog 3 x12 fun x19 => eCallR Tryz.prog C 153 [x16, x17, x18, x19, a1, a2] 114 fun x20 => eExtract x20 0 fun x21 => eExtract x20 1 fun x22 => eStore Tryz.prog 113 x1 x21 <| eLoad Tryz.prog 113 x1 fun x23 => K (.tup [x23, x22])
noncomputable def kern_step_find_e (C : Cal) (N : Nat) (a0 a1 a2 : SV) (K : SV → ER) : ER :=
  eAlloc Tryz.prog 113 fun x1 => eNilCk a0 fun x2 => eFieldAddr Tryz.prog 76 x2 1 fun x3 => eNilCk a0 fun x4 => eFieldAddr Tryz.prog 76 x4 2 fun x5 => eFieldAddr Tryz.prog 50 x5 5 fun x6 => eNilCk a0 fun x7 => eFieldAddr Tryz.prog 76 x7 2 fun x8 => eFieldAddr Tryz.prog 50 x8 3 fun x9 => eNilCk a0 fun x10 => kern_step_find_p0 C K a1 a2 x1 x3 x6 x9 x10
theorem kern_step_find_ee (C : Cal) (N : Nat) (a0 a1 a2 : SV) (K : SV → ER) : eBody Tryz.prog C N Tryz.f69 (Tryz.f69.body.getD .skip) kern_step_find_ea [a0, a1, a2] K = kern_step_find_e C N a0 a1 a2 K := by kernel_rfl
noncomputable def l69 : LeafT := fun C N args K => match args with
  | [a0, a1, a2] => kern_step_find_e C N a0 a1 a2 K
  | _ => eF
theorem lok69 : LeafOk Tryz.prog 69 l69 := ⟨Tryz.f69, Tryz.f69.body.getD .skip, kern_step_find_ea, Tryz.func69, by kernel_rfl, Tryz.call69, fun C N args K H e => by
  unfold l69 at e
  split at e
  · rw [kern_step_find_ee]; exact e
  · exact eF_no e⟩

/- halberd/kern.first -/
def kern_first_ea : Ann := .two (.none) (.two (.two (.none) (.sub (.loop [(7, .any)] (.two (.none) (.two (.two (.none) (.none)) (.two (.sub (.two (.none) (.two (.none) (.two (.two (.none) (.none)) (.none))))) (.none))))))) (.two (.none) (.none)))
noncomputable def kern_first_p0 (K : SV → ER) (a0 : SV) (k2 : SV × Unit → ER) (s3 : SV × Unit) : ER :=
  eIndexAddrS Tryz.prog 164 a0 s3.1 fun x5 => eLoad Tryz.prog 26 x5 fun x6 => eBin Tryz.prog .neq 26 false x6 (.int .i64 0) fun x7 => eIfV x7
  (K x6)
  (eBin Tryz.prog .add 3 false s3.1 (.int .i64 1) fun x8 => eHas .any x8 (k2 (x8, ())))
noncomputable def kern_first_e (C : Cal) (N : Nat) (a0 : SV) (K : SV → ER) : ER :=
  eLenS Tryz.prog [164] [a0] fun x1 => eHas .any (.int .i64 0) (eIter (σ := SV × Unit) (fun (s3 : SV × Unit) (k2 : SV × Unit → ER) =>
  eBin Tryz.prog .lss 3 false s3.1 x1 fun x4 => eIfV x4
  (kern_first_p0 K a0 k2 s3)
  (K (.int .i64 0))) N ((.int .i64 0), ()))
theorem kern_first_ee (C : Cal) (N : Nat) (a0 : SV) (K : SV → ER) : eBody Tryz.prog C N Tryz.f70 (Tryz.f70.body.getD .skip) kern_first_ea [a0] K = kern_first_e C N a0 K := by kernel_rfl
noncomputable def l70 : LeafT := fun C N args K => match args with
  | [a0] => kern_first_e C N a0 K
  | _ => eF
theorem lok70 : LeafOk Tryz.prog 70 l70 := ⟨Tryz.f70, Tryz.f70.body.getD .skip, kern_first_ea, Tryz.func70, by kernel_rfl, Tryz.call70, fun C N args K H e => by
  unfold l70 at e
  split at e
  · rw [kern_first_ee]; exact e
  · exact eF_no e⟩

/- halberd/kern.bad -/
def kern_bad_ea : Ann := .two (.none) (.two (.two (.none) (.two (.two (.none) (.none)) (.none))) (.two (.none) (.none)))
noncomputable def kern_bad_e (C : Cal) (N : Nat) (a0 a1 : SV) (K : SV → ER) : ER :=
  eIfV a0
  (K a1)
  (K (.int .i64 0))
theorem kern_bad_ee (C : Cal) (N : Nat) (a0 a1 : SV) (K : SV → ER) : eBody Tryz.prog C N Tryz.f71 (Tryz.f71.body.getD .skip) kern_bad_ea [a0, a1] K = kern_bad_e C N a0 a1 K := by kernel_rfl
noncomputable def l71 : LeafT := fun C N args K => match args with
  | [a0, a1] => kern_bad_e C N a0 a1 K
  | _ => eF
theorem lok71 : LeafOk Tryz.prog 71 l71 := ⟨Tryz.f71, Tryz.f71.body.getD .skip, kern_bad_ea, Tryz.func71, by kernel_rfl, Tryz.call71, fun C N args K H e => by
  unfold l71 at e
  split at e
  · rw [kern_bad_ee]; exact e
  · exact eF_no e⟩

/- (*halberd/kern.step).may -/
def kern_step_may_ea : Ann := .two (.none) (.two (.none) (.two (.two (.ord [1, 2, 3, 4, 6, 7, 8, 9, 11, 0, 5, 10, 12, 13]) (.two (.two (.none) (.none)) (.none))) (.two (.none) (.none))))
noncomputable def kern_step_may_p0 (C : Cal) (K : SV → ER) (a0 : SV) (a2 : SV) (x7 : SV) (x8 : SV) : ER :=
  eExtract x7 1 fun x9 => eAlloc Tryz.prog 40 fun x10 => eStore Tryz.prog 40 x10 x8 <| eNilCk a0 fun x11 => eFieldAddr Tryz.prog 76 x11 2 fun x12 => eFieldAddr Tryz.prog 50 x12 3 fun x13 => eNilCk a0 fun x14 => eFieldAddr Tryz.prog 76 x14 2 fun x15 => eFieldAddr Tryz.prog 50 x15 4 fun x16 => eLoad Tryz.prog 40 x10 fun x17 => eLoad Tryz.prog 3 x13 fun x18 => eLoad Tryz.prog 3 x16 fun x19 => eCallR Tryz.prog C 154 [x17, x18, x19, a2] 4 fun x20 => eUnS .not x20 fun x21 => eIfV x21
  (K (.int .i64 13))
  (K (.int .i64 0))
noncomputable def kern_step_may_e (C : Cal) (N : Nat) (a0 a1 a2 : SV) (K : SV → ER) : ER :=
  eNilCk a0 fun x1 => eFieldAddr Tryz.prog 76 x1 1 fun x2 => eLoad Tryz.prog 23 x2 fun x3 => eNilCk x3 fun x4 => eFieldAddr Tryz.prog 58 x4 0 fun x5 => eLoad Tryz.prog 53 x5 fun x6 => eCallR Tryz.prog C 18 [x6, a1] 77 fun x7 => eExtract x7 0 fun x8 => kern_step_may_p0 C K a0 a2 x7 x8
theorem kern_step_may_ee (C : Cal) (N : Nat) (a0 a1 a2 : SV) (K : SV → ER) : eBody Tryz.prog C N Tryz.f72 (Tryz.f72.body.getD .skip) kern_step_may_ea [a0, a1, a2] K = kern_step_may_e C N a0 a1 a2 K := by kernel_rfl
noncomputable def l72 : LeafT := fun C N args K => match args with
  | [a0, a1, a2] => kern_step_may_e C N a0 a1 a2 K
  | _ => eF
theorem lok72 : LeafOk Tryz.prog 72 l72 := ⟨Tryz.f72, Tryz.f72.body.getD .skip, kern_step_may_ea, Tryz.func72, by kernel_rfl, Tryz.call72, fun C N args K H e => by
  unfold l72 at e
  split at e
  · rw [kern_step_may_ee]; exact e
  · exact eF_no e⟩

/- (*halberd/kern.step).fd -/
def kern_step_fd_ea : Ann := .two (.none) (.two (.none) (.two (.two (.none) (.sub (.loop [(3, .any), (11, .any)] (.two (.none) (.two (.two (.none) (.none)) (.join (.sub (.two (.none) (.none))) (.none) [(3, .any)])))))) (.two (.sub (.two (.none) (.two (.two (.none) (.none)) (.two (.none) (.two (.two (.none) (.none)) (.none)))))) (.two (.none) (.none)))))
noncomputable def kern_step_fd_p0 (k8 : SV × Unit → ER) (s6 : SV × SV × Unit) (x4 : SV) : ER :=
  eIndexS Tryz.prog 45 x4 s6.2.1 fun x10 => eAlloc Tryz.prog 44 fun x11 => eStore Tryz.prog 44 x11 x10 <| eIfV s6.1
  (eLoad Tryz.prog 44 x11 fun x12 => eBuild Tryz.prog 44 [] fun x13 => eBin Tryz.prog .neq 44 false x12 x13 fun x14 => eHas .any x14 (k8 (x14, ())))
  (eHas .any (.bool false) (k8 ((.bool false), ())))
noncomputable def kern_step_fd_p1 (k5 : SV × SV × Unit → ER) (s6 : SV × SV × Unit) (x4 : SV) : ER :=
  eJoinC (σ := SV × Unit) (fun (k8 : SV × Unit → ER) =>
  kern_step_fd_p0 k8 s6 x4) fun (s9 : SV × Unit) =>
  eBin Tryz.prog .add 3 false s6.2.1 (.int .i64 1) fun x15 => eHas .any s9.1 (eHas .any x15 (k5 (s9.1, x15, ())))
noncomputable def kern_step_fd_p2 (C : Cal) (K : SV → ER) (a0 : SV) : ER :=
  eNilCk a0 fun x16 => eFieldAddr Tryz.prog 76 x16 1 fun x17 => eLoad Tryz.prog 23 x17 fun x18 => eNilCk x18 fun x19 => eFieldAddr Tryz.prog 58 x19 1 fun x20 => eLoad Tryz.prog 55 x20 fun x21 => eCallR Tryz.prog C 155 [x21] 3 fun x22 => eBin Tryz.prog .geq 3 false x22 (.int .i64 16) fun x23 => eIfV x23
  (K (.int .i64 23))
  (K (.int .i64 0))
noncomputable def kern_step_fd_e (C : Cal) (N : Nat) (a0 : SV) (K : SV → ER) : ER :=
  eNilCk a0 fun x1 => eFieldAddr Tryz.prog 76 x1 2 fun x2 => eFieldAddr Tryz.prog 50 x2 11 fun x3 => eLoad Tryz.prog 45 x3 fun x4 => eHas .any (.bool true) (eHas .any (.int .i64 0) (eIter (σ := SV × SV × Unit) (fun (s6 : SV × SV × Unit) (k5 : SV × SV × Unit → ER) =>
  eBin Tryz.prog .lss 3 false s6.2.1 (.int .i64 6) fun x7 => eIfV x7
  (kern_step_fd_p1 k5 s6 x4)
  (eIfV s6.1
  (K (.int .i64 24))
  (kern_step_fd_p2 C K a0))) N ((.bool true), (.int .i64 0), ())))
theorem kern_step_fd_ee (C : Cal) (N : Nat) (a0 : SV) (K : SV → ER) : eBody Tryz.prog C N Tryz.f73 (Tryz.f73.body.getD .skip) kern_step_fd_ea [a0] K = kern_step_fd_e C N a0 K := by kernel_rfl
noncomputable def l73 : LeafT := fun C N args K => match args with
  | [a0] => kern_step_fd_e C N a0 K
  | _ => eF
theorem lok73 : LeafOk Tryz.prog 73 l73 := ⟨Tryz.f73, Tryz.f73.body.getD .skip, kern_step_fd_ea, Tryz.func73, by kernel_rfl, Tryz.call73, fun C N args K H e => by
  unfold l73 at e
  split at e
  · rw [kern_step_fd_ee]; exact e
  · exact eF_no e⟩

/- (*halberd/kern.step).ask -/
def kern_step_ask_ea : Ann := .ord [0, 1, 2, 3, 5, 6, 7, 8, 9, 10, 14, 4, 11, 12, 13, 15, 16, 17, 18, 19, 20, 21]
noncomputable def kern_step_ask_p0 (C : Cal) (K : SV → ER) (a0 : SV) (a1 : SV) (a2 : SV) (x2 : SV) (x5 : SV) (x6 : SV) : ER :=
  eLoad Tryz.prog 3 x5 fun x7 => eCallR Tryz.prog C 132 [a0, (.int .i64 1), x7] 126 fun x8 => fun H => eLoadF Tryz.prog 73 x2 x6 H && (eBuildSlice Tryz.prog 166 1 [(0, x8)] fun x9 => eApp Tryz.prog [166, 166] [x9, a2] fun x10 => fun H => eLoadF Tryz.prog 73 x2 x6 H && (eBuild Tryz.prog 168 [(0, a1), (1, x10)] fun x11 => eBuildSlice Tryz.prog 73 1 [(0, x11)] fun x12 => eApp Tryz.prog [73, 73] [x6, x12] fun x13 => eNilCk a0 fun x14 => eFieldAddr Tryz.prog 76 x14 3 fun x15 => eStore Tryz.prog 73 x15 x13 <| K (.tup [])) H) H
noncomputable def kern_step_ask_e (C : Cal) (N : Nat) (a0 a1 a2 : SV) (K : SV → ER) : ER :=
  eNilCk a0 fun x1 => eFieldAddr Tryz.prog 76 x1 3 fun x2 => eNilCk a0 fun x3 => eFieldAddr Tryz.prog 76 x3 2 fun x4 => eFieldAddr Tryz.prog 50 x4 0 fun x5 => eLoad Tryz.prog 73 x2 fun x6 => kern_step_ask_p0 C K a0 a1 a2 x2 x5 x6
theorem kern_step_ask_ee (C : Cal) (N : Nat) (a0 a1 a2 : SV) (K : SV → ER) : eBody Tryz.prog C N Tryz.f74 (Tryz.f74.body.getD .skip) kern_step_ask_ea [a0, a1, a2] K = kern_step_ask_e C N a0 a1 a2 K := by kernel_rfl
noncomputable def l74 : LeafT := fun C N args K => match args with
  | [a0, a1, a2] => kern_step_ask_e C N a0 a1 a2 K
  | _ => eF
theorem lok74 : LeafOk Tryz.prog 74 l74 := ⟨Tryz.f74, Tryz.f74.body.getD .skip, kern_step_ask_ea, Tryz.func74, by kernel_rfl, Tryz.call74, fun C N args K H e => by
  unfold l74 at e
  split at e
  · rw [kern_step_ask_ee]; exact e
  · exact eF_no e⟩

end Go.Proofs.YtnpcjhcgbcpcoaaGreatDoor
