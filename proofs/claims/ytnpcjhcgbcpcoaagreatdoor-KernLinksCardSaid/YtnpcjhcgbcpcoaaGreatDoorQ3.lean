/- The evaluator's texts of this seat's functions. Written by a program of this session. -/
import Derived.Test.YtnpcjhcgbcpcoaaGreatDoorV
import Derived.Test.YtnpcjhcgbcpcoaaGreatDoorE2
set_option linter.unusedVariables false
set_option maxRecDepth 100000
namespace Go.Proofs.YtnpcjhcgbcpcoaaGreatDoor
open Go.Hl
/- halberd/paths.names -/
def paths_names_ea : Ann := .two (.none) (.two (.none) (.none))
noncomputable def paths_names_e (C : Cal) (N : Nat) (a0 : SV) (K : SV → ER) : ER :=
  eCallR Tryz.prog C 245 [a0, (.str [47])] 25 fun x1 => eCallR Tryz.prog C 244 [x1, (.fn 246 [] [])] 25 fun x2 => K x2
theorem paths_names_ee (C : Cal) (N : Nat) (a0 : SV) (K : SV → ER) : eBody Tryz.prog C N Tryz.f223 (Tryz.f223.body.getD .skip) paths_names_ea [a0] K = paths_names_e C N a0 K := by kernel_rfl
noncomputable def l223 : LeafT := fun C N args K => match args with
  | [a0] => paths_names_e C N a0 K
  | _ => eF
theorem lok223 : LeafOk Tryz.prog 223 l223 := ⟨Tryz.f223, Tryz.f223.body.getD .skip, paths_names_ea, Tryz.func223, by kernel_rfl, Tryz.call223, fun C N args K H e => by
  unfold l223 at e
  split at e
  · rw [paths_names_ee]; exact e
  · exact eF_no e⟩

/- (*halberd/inodes.Table).Find -/
def inodes_Table_Find_ea : Ann := .two (.none) (.two (.none) (.two (.join (.none) (.two (.two (.none) (.none)) (.none)) [(22, .any)]) (.two (.none) (.two (.two (.none) (.two (.two (.none) (.none)) (.none))) (.two (.none) (.none))))))
noncomputable def inodes_Table_Find_p0 (K : SV → ER) (x1 : SV) (x13 : SV) : ER :=
  eNilCk x1 fun x16 => eFieldAddr Tryz.prog 40 x16 9 fun x17 => eLoad Tryz.prog 38 x17 fun x18 => eIndexAddrS Tryz.prog 38 x18 x13 fun x19 => eLoad Tryz.prog 3 x19 fun x20 => K (.tup [x20, (.bool true)])
noncomputable def inodes_Table_Find_p1 (C : Cal) (K : SV → ER) (a2 : SV) (x1 : SV) : ER :=
  eNilCk x1 fun x9 => eFieldAddr Tryz.prog 40 x9 8 fun x10 => eLoad Tryz.prog 25 x10 fun x11 => eCallR Tryz.prog C 170 [x11, a2] 109 fun x12 => eExtract x12 0 fun x13 => eExtract x12 1 fun x14 => eUnS .not x14 fun x15 => eIfV x15
  (K (.tup [(.int .i64 0), (.bool false)]))
  (inodes_Table_Find_p0 K x1 x13)
noncomputable def inodes_Table_Find_p2 (k2 : SV × Unit → ER) (x1 : SV) : ER :=
  eBin Tryz.prog .eql 91 true x1 (.ptr none) fun x4 => eIfV x4
  (eHas .any (.bool true) (k2 ((.bool true), ())))
  (eNilCk x1 fun x5 => eFieldAddr Tryz.prog 40 x5 2 fun x6 => eLoad Tryz.prog 3 x6 fun x7 => eBin Tryz.prog .neq 3 false x7 (.int .i64 2) fun x8 => eHas .any x8 (k2 (x8, ())))
noncomputable def inodes_Table_Find_e (C : Cal) (N : Nat) (a0 a1 a2 : SV) (K : SV → ER) : ER :=
  eCallR Tryz.prog C 25 [a0, a1] 91 fun x1 => eJoinC (σ := SV × Unit) (fun (k2 : SV × Unit → ER) =>
  inodes_Table_Find_p2 k2 x1) fun (s3 : SV × Unit) =>
  eIfV s3.1
  (K (.tup [(.int .i64 0), (.bool false)]))
  (inodes_Table_Find_p1 C K a2 x1)
theorem inodes_Table_Find_ee (C : Cal) (N : Nat) (a0 a1 a2 : SV) (K : SV → ER) : eBody Tryz.prog C N Tryz.f224 (Tryz.f224.body.getD .skip) inodes_Table_Find_ea [a0, a1, a2] K = inodes_Table_Find_e C N a0 a1 a2 K := by kernel_rfl
noncomputable def l224 : LeafT := fun C N args K => match args with
  | [a0, a1, a2] => inodes_Table_Find_e C N a0 a1 a2 K
  | _ => eF
theorem lok224 : LeafOk Tryz.prog 224 l224 := ⟨Tryz.f224, Tryz.f224.body.getD .skip, inodes_Table_Find_ea, Tryz.func224, by kernel_rfl, Tryz.call224, fun C N args K H e => by
  unfold l224 at e
  split at e
  · rw [inodes_Table_Find_ee]; exact e
  · exact eF_no e⟩

/- (*halberd/paths.walk).through -/
def paths_walk_through_ea : Ann := .two (.none) (.two (.sub (.two (.none) (.two (.two (.none) (.none)) (.two (.none) (.two (.two (.none) (.none)) (.none)))))) (.two (.none) (.two (.none) (.two (.none) (.none)))))
noncomputable def paths_walk_through_p0 (C : Cal) (K : SV → ER) (a0 : SV) (x1 : SV) : ER :=
  eNilCk a0 fun x9 => eFieldAddr Tryz.prog 197 x9 7 fun x10 => eLoad Tryz.prog 3 x10 fun x11 => eBin Tryz.prog .add 3 false x11 (.int .i64 1) fun x12 => eNilCk a0 fun x13 => eFieldAddr Tryz.prog 197 x13 7 fun x14 => eStore Tryz.prog 3 x14 x12 <| eFieldAddr Tryz.prog 40 x1 7 fun x15 => eLoad Tryz.prog 9 x15 fun x16 => eCallR Tryz.prog C 195 [a0, x16] 0 fun x17 => K (.int .i64 0)
noncomputable def paths_walk_through_e (C : Cal) (N : Nat) (a0 a1 : SV) (K : SV → ER) : ER :=
  eBox Tryz.prog 40 a1 fun x1 => eNilCk a0 fun x2 => eFieldAddr Tryz.prog 197 x2 7 fun x3 => eLoad Tryz.prog 3 x3 fun x4 => eBin Tryz.prog .eql 3 false x4 (.int .i64 8) fun x5 => eIfV x5
  (K (.int .i64 40))
  (eFieldAddr Tryz.prog 40 x1 7 fun x6 => eLoad Tryz.prog 9 x6 fun x7 => eBin Tryz.prog .eql 9 false x7 (.str []) fun x8 => eIfV x8
  (K (.int .i64 2))
  (paths_walk_through_p0 C K a0 x1))
theorem paths_walk_through_ee (C : Cal) (N : Nat) (a0 a1 : SV) (K : SV → ER) : eBody Tryz.prog C N Tryz.f225 (Tryz.f225.body.getD .skip) paths_walk_through_ea [a0, a1] K = paths_walk_through_e C N a0 a1 K := by kernel_rfl
noncomputable def l225 : LeafT := fun C N args K => match args with
  | [a0, a1] => paths_walk_through_e C N a0 a1 K
  | _ => eF
theorem lok225 : LeafOk Tryz.prog 225 l225 := ⟨Tryz.f225, Tryz.f225.body.getD .skip, paths_walk_through_ea, Tryz.func225, by kernel_rfl, Tryz.call225, fun C N args K H e => by
  unfold l225 at e
  split at e
  · rw [paths_walk_through_ee]; exact e
  · exact eF_no e⟩

/- (*halberd/paths.walk).last -/
def paths_walk_last_ea : Ann := .two (.none) (.two (.sub (.join (.none) (.two (.two (.none) (.none)) (.join (.none) (.two (.two (.none) (.none)) (.none)) [(19, .any)])) [(8, .any)])) (.two (.ord [0, 1, 2, 4, 5, 3, 6, 7, 8, 9]) (.none)))
noncomputable def paths_walk_last_p0 (K : SV → ER) (a0 : SV) (a1 : SV) (x1 : SV) (x2 : SV) : ER :=
  eNilCk a0 fun x23 => eFieldAddr Tryz.prog 197 x23 4 fun x24 => eFieldAddr Tryz.prog 40 x1 0 fun x25 => eLoad Tryz.prog 3 x24 fun x26 => eLoad Tryz.prog 3 x25 fun x27 => eBuild Tryz.prog 113 [(0, x26), (1, a1), (2, x27)] fun x28 => eStore Tryz.prog 113 x2 x28 <| eLoad Tryz.prog 113 x2 fun x29 => K (.tup [x29, (.int .i64 0)])
noncomputable def paths_walk_last_p1 (a0 : SV) (x1 : SV) (k13 : SV × Unit → ER) : ER :=
  eNilCk a0 fun x15 => eFieldAddr Tryz.prog 197 x15 6 fun x16 => eLoad Tryz.prog 4 x16 fun x17 => eIfV x17
  (eFieldAddr Tryz.prog 40 x1 2 fun x18 => eLoad Tryz.prog 3 x18 fun x19 => eBin Tryz.prog .neq 3 false x19 (.int .i64 2) fun x20 => eHas .any x20 (k13 (x20, ())))
  (eHas .any (.bool false) (k13 ((.bool false), ())))
noncomputable def paths_walk_last_p2 (K : SV → ER) (a0 : SV) (a1 : SV) (x1 : SV) (x2 : SV) : ER :=
  eJoinC (σ := SV × Unit) (fun (k13 : SV × Unit → ER) =>
  paths_walk_last_p1 a0 x1 k13) fun (s14 : SV × Unit) =>
  eIfV s14.1
  (eBuild Tryz.prog 113 [] fun x21 => eStore Tryz.prog 113 x2 x21 <| eLoad Tryz.prog 113 x2 fun x22 => K (.tup [x22, (.int .i64 20)]))
  (paths_walk_last_p0 K a0 a1 x1 x2)
noncomputable def paths_walk_last_p3 (a0 : SV) (k3 : SV × Unit → ER) (x1 : SV) : ER :=
  eNilCk a0 fun x5 => eFieldAddr Tryz.prog 197 x5 6 fun x6 => eLoad Tryz.prog 4 x6 fun x7 => eIfV x7
  (eFieldAddr Tryz.prog 40 x1 0 fun x8 => eLoad Tryz.prog 3 x8 fun x9 => eBin Tryz.prog .eql 3 false x9 (.int .i64 0) fun x10 => eHas .any x10 (k3 (x10, ())))
  (eHas .any (.bool false) (k3 ((.bool false), ())))
noncomputable def paths_walk_last_e (C : Cal) (N : Nat) (a0 a1 a2 : SV) (K : SV → ER) : ER :=
  eBox Tryz.prog 40 a2 fun x1 => eAlloc Tryz.prog 113 fun x2 => eJoinC (σ := SV × Unit) (fun (k3 : SV × Unit → ER) =>
  paths_walk_last_p3 a0 k3 x1) fun (s4 : SV × Unit) =>
  eIfV s4.1
  (eBuild Tryz.prog 113 [] fun x11 => eStore Tryz.prog 113 x2 x11 <| eLoad Tryz.prog 113 x2 fun x12 => K (.tup [x12, (.int .i64 2)]))
  (paths_walk_last_p2 K a0 a1 x1 x2)
theorem paths_walk_last_ee (C : Cal) (N : Nat) (a0 a1 a2 : SV) (K : SV → ER) : eBody Tryz.prog C N Tryz.f226 (Tryz.f226.body.getD .skip) paths_walk_last_ea [a0, a1, a2] K = paths_walk_last_e C N a0 a1 a2 K := by kernel_rfl
noncomputable def l226 : LeafT := fun C N args K => match args with
  | [a0, a1, a2] => paths_walk_last_e C N a0 a1 a2 K
  | _ => eF
theorem lok226 : LeafOk Tryz.prog 226 l226 := ⟨Tryz.f226, Tryz.f226.body.getD .skip, paths_walk_last_ea, Tryz.func226, by kernel_rfl, Tryz.call226, fun C N args K H e => by
  unfold l226 at e
  split at e
  · rw [paths_walk_last_ee]; exact e
  · exact eF_no e⟩

/- container/heap.down -/
def container_heap_down_ea : Ann := .two (.none) (.two (.none) (.join (.sub (.loop [(7, .any)] (.sub (.two (.none) (.two (.join (.none) (.two (.none) (.none)) [(21, .any)]) (.two (.none) (.join (.two (.none) (.join (.none) (.two (.none) (.none)) [(33, .any)])) (.two (.two (.none) (.two (.none) (.none))) (.two (.none) (.none))) [(9, .any)]))))))) (.two (.none) (.none)) [(7, .any)]))
noncomputable def container_heap_down_p0 (C : Cal) (a0 : SV) (a2 : SV) (x6 : SV) (k11 : SV × Unit → ER) : ER :=
  eBin Tryz.prog .add 3 false x6 (.int .i64 1) fun x13 => eJoinC (σ := SV × Unit) (fun (k14 : SV × Unit → ER) =>
  eBin Tryz.prog .lss 3 false x13 a2 fun x16 => eIfV x16
  (eInvokeR Tryz.prog C "Less" a0 [x13, x6] 4 fun x17 => eHas .any x17 (k14 (x17, ())))
  (eHas .any (.bool false) (k14 ((.bool false), ())))) fun (s15 : SV × Unit) =>
  eIfV s15.1
  (eHas .any x13 (k11 (x13, ())))
  (eHas .any x6 (k11 (x6, ())))
noncomputable def container_heap_down_p1 (C : Cal) (a0 : SV) (k1 : SV × Unit → ER) (k3 : SV × Unit → ER) (s4 : SV × Unit) (s12 : SV × Unit) : ER :=
  eInvokeR Tryz.prog C "Less" a0 [s12.1, s4.1] 4 fun x18 => eUnS .not x18 fun x19 => eIfV x19
  (eHas .any s4.1 (k1 (s4.1, ())))
  (eInvokeR Tryz.prog C "Swap" a0 [s4.1, s12.1] 0 fun x20 => eHas .any s12.1 (k3 (s12.1, ())))
noncomputable def container_heap_down_p2 (C : Cal) (a0 : SV) (a2 : SV) (k1 : SV × Unit → ER) (k3 : SV × Unit → ER) (s4 : SV × Unit) (s8 : SV × Unit) (x6 : SV) : ER :=
  eIfV s8.1
  (eHas .any s4.1 (k1 (s4.1, ())))
  (eJoinC (σ := SV × Unit) (fun (k11 : SV × Unit → ER) =>
  container_heap_down_p0 C a0 a2 x6 k11) fun (s12 : SV × Unit) =>
  container_heap_down_p1 C a0 k1 k3 s4 s12)
noncomputable def container_heap_down_p3 (C : Cal) (a0 : SV) (a2 : SV) (k1 : SV × Unit → ER) (k3 : SV × Unit → ER) (s4 : SV × Unit) : ER :=
  eBin Tryz.prog .mul 3 false (.int .i64 2) s4.1 fun x5 => eBin Tryz.prog .add 3 false x5 (.int .i64 1) fun x6 => eJoinC (σ := SV × Unit) (fun (k7 : SV × Unit → ER) =>
  eBin Tryz.prog .geq 3 false x6 a2 fun x9 => eIfV x9
  (eHas .any (.bool true) (k7 ((.bool true), ())))
  (eBin Tryz.prog .lss 3 false x6 (.int .i64 0) fun x10 => eHas .any x10 (k7 (x10, ())))) fun (s8 : SV × Unit) =>
  container_heap_down_p2 C a0 a2 k1 k3 s4 s8 x6
noncomputable def container_heap_down_e (C : Cal) (N : Nat) (a0 a1 a2 : SV) (K : SV → ER) : ER :=
  eJoinC (σ := SV × Unit) (fun (k1 : SV × Unit → ER) =>
  eHas .any a1 (eIter (σ := SV × Unit) (fun (s4 : SV × Unit) (k3 : SV × Unit → ER) =>
  container_heap_down_p3 C a0 a2 k1 k3 s4) N (a1, ()))) fun (s2 : SV × Unit) =>
  eBin Tryz.prog .gtr 3 false s2.1 a1 fun x21 => K x21
theorem container_heap_down_ee (C : Cal) (N : Nat) (a0 a1 a2 : SV) (K : SV → ER) : eBody Tryz.prog C N Tryz.f227 (Tryz.f227.body.getD .skip) container_heap_down_ea [a0, a1, a2] K = container_heap_down_e C N a0 a1 a2 K := by kernel_rfl
noncomputable def l227 : LeafT := fun C N args K => match args with
  | [a0, a1, a2] => container_heap_down_e C N a0 a1 a2 K
  | _ => eF
theorem lok227 : LeafOk Tryz.prog 227 l227 := ⟨Tryz.f227, Tryz.f227.body.getD .skip, container_heap_down_ea, Tryz.func227, by kernel_rfl, Tryz.call227, fun C N args K H e => by
  unfold l227 at e
  split at e
  · rw [container_heap_down_ee]; exact e
  · exact eF_no e⟩

/- math/bits.Mul32 -/
def math_bits_Mul32_ea : Ann := .two (.none) (.two (.none) (.two (.none) (.none)))
noncomputable def math_bits_Mul32_e (C : Cal) (N : Nat) (a0 a1 : SV) (K : SV → ER) : ER :=
  eConvS Tryz.prog 229 42 a0 fun x1 => eConvS Tryz.prog 229 42 a1 fun x2 => eBin Tryz.prog .mul 42 false x1 x2 fun x3 => eBin Tryz.prog .shr 42 false x3 (.int .u64 32) fun x4 => eConvS Tryz.prog 42 229 x4 fun x5 => eConvS Tryz.prog 42 229 x3 fun x6 => K (.tup [x5, x6])
theorem math_bits_Mul32_ee (C : Cal) (N : Nat) (a0 a1 : SV) (K : SV → ER) : eBody Tryz.prog C N Tryz.f228 (Tryz.f228.body.getD .skip) math_bits_Mul32_ea [a0, a1] K = math_bits_Mul32_e C N a0 a1 K := by kernel_rfl
noncomputable def l228 : LeafT := fun C N args K => match args with
  | [a0, a1] => math_bits_Mul32_e C N a0 a1 K
  | _ => eF
theorem lok228 : LeafOk Tryz.prog 228 l228 := ⟨Tryz.f228, Tryz.f228.body.getD .skip, math_bits_Mul32_ea, Tryz.func228, by kernel_rfl, Tryz.call228, fun C N args K H e => by
  unfold l228 at e
  split at e
  · rw [math_bits_Mul32_ee]; exact e
  · exact eF_no e⟩

/- math/bits.Mul64 -/
def math_bits_Mul64_ea : Ann := .two (.none) (.two (.none) (.two (.none) (.two (.none) (.two (.none) (.two (.none) (.two (.none) (.two (.none) (.two (.none) (.two (.none) (.two (.none) (.two (.none) (.none))))))))))))
noncomputable def math_bits_Mul64_p0 (K : SV → ER) (a0 : SV) (a1 : SV) (x1 : SV) (x2 : SV) (x4 : SV) (x6 : SV) (x7 : SV) : ER :=
  eBin Tryz.prog .add 42 false x6 x7 fun x8 => eBin Tryz.prog .and 42 false x8 (.int .u64 4294967295) fun x9 => eBin Tryz.prog .shr 42 false x8 (.int .u64 32) fun x10 => eBin Tryz.prog .mul 42 false x1 x4 fun x11 => eBin Tryz.prog .add 42 false x9 x11 fun x12 => eBin Tryz.prog .mul 42 false x2 x4 fun x13 => eBin Tryz.prog .add 42 false x13 x10 fun x14 => eBin Tryz.prog .shr 42 false x12 (.int .u64 32) fun x15 => eBin Tryz.prog .add 42 false x14 x15 fun x16 => eBin Tryz.prog .mul 42 false a0 a1 fun x17 => K (.tup [x16, x17])
noncomputable def math_bits_Mul64_e (C : Cal) (N : Nat) (a0 a1 : SV) (K : SV → ER) : ER :=
  eBin Tryz.prog .and 42 false a0 (.int .u64 4294967295) fun x1 => eBin Tryz.prog .shr 42 false a0 (.int .u64 32) fun x2 => eBin Tryz.prog .and 42 false a1 (.int .u64 4294967295) fun x3 => eBin Tryz.prog .shr 42 false a1 (.int .u64 32) fun x4 => eBin Tryz.prog .mul 42 false x1 x3 fun x5 => eBin Tryz.prog .mul 42 false x2 x3 fun x6 => eBin Tryz.prog .shr 42 false x5 (.int .u64 32) fun x7 => math_bits_Mul64_p0 K a0 a1 x1 x2 x4 x6 x7
theorem math_bits_Mul64_ee (C : Cal) (N : Nat) (a0 a1 : SV) (K : SV → ER) : eBody Tryz.prog C N Tryz.f229 (Tryz.f229.body.getD .skip) math_bits_Mul64_ea [a0, a1] K = math_bits_Mul64_e C N a0 a1 K := by kernel_rfl
noncomputable def l229 : LeafT := fun C N args K => match args with
  | [a0, a1] => math_bits_Mul64_e C N a0 a1 K
  | _ => eF
theorem lok229 : LeafOk Tryz.prog 229 l229 := ⟨Tryz.f229, Tryz.f229.body.getD .skip, math_bits_Mul64_ea, Tryz.func229, by kernel_rfl, Tryz.call229, fun C N args K H e => by
  unfold l229 at e
  split at e
  · rw [math_bits_Mul64_ee]; exact e
  · exact eF_no e⟩

/- internal/stringslite.HasPrefix -/
def internal_stringslite_HasPrefix_ea : Ann := .two (.none) (.join (.none) (.none) [(4, .any)])
noncomputable def internal_stringslite_HasPrefix_p0 (a0 : SV) (a1 : SV) (k1 : SV × Unit → ER) : ER :=
  eLenS Tryz.prog [9] [a0] fun x3 => eLenS Tryz.prog [9] [a1] fun x4 => eBin Tryz.prog .geq 3 false x3 x4 fun x5 => eIfV x5
  (eLenS Tryz.prog [9] [a1] fun x6 => eSliceS Tryz.prog 9 a0 none (some (.v x6)) none fun x7 => eBin Tryz.prog .eql 9 false x7 a1 fun x8 => eHas .any x8 (k1 (x8, ())))
  (eHas .any (.bool false) (k1 ((.bool false), ())))
noncomputable def internal_stringslite_HasPrefix_e (C : Cal) (N : Nat) (a0 a1 : SV) (K : SV → ER) : ER :=
  eJoinC (σ := SV × Unit) (fun (k1 : SV × Unit → ER) =>
  internal_stringslite_HasPrefix_p0 a0 a1 k1) fun (s2 : SV × Unit) =>
  K s2.1
theorem internal_stringslite_HasPrefix_ee (C : Cal) (N : Nat) (a0 a1 : SV) (K : SV → ER) : eBody Tryz.prog C N Tryz.f230 (Tryz.f230.body.getD .skip) internal_stringslite_HasPrefix_ea [a0, a1] K = internal_stringslite_HasPrefix_e C N a0 a1 K := by kernel_rfl
noncomputable def l230 : LeafT := fun C N args K => match args with
  | [a0, a1] => internal_stringslite_HasPrefix_e C N a0 a1 K
  | _ => eF
theorem lok230 : LeafOk Tryz.prog 230 l230 := ⟨Tryz.f230, Tryz.f230.body.getD .skip, internal_stringslite_HasPrefix_ea, Tryz.func230, by kernel_rfl, Tryz.call230, fun C N args K H e => by
  unfold l230 at e
  split at e
  · rw [internal_stringslite_HasPrefix_ee]; exact e
  · exact eF_no e⟩

end Go.Proofs.YtnpcjhcgbcpcoaaGreatDoor

set_option linter.unusedVariables false
set_option maxRecDepth 100000
namespace Go.Proofs.YtnpcjhcgbcpcoaaGreatDoor
open Go.Hl
/- (*strings.Builder).grow -/
def strings_Builder_grow_ea : Ann := .two (.ord [0, 1, 2, 6, 9, 10, 11, 3, 4, 5, 7, 12, 13, 8, 14, 15]) (.two (.none) (.none))
noncomputable def strings_Builder_grow_e (C : Cal) (N : Nat) (a0 a1 : SV) (K : SV → ER) : ER :=
  eNilCk a0 fun x1 => eFieldAddr Tryz.prog 209 x1 1 fun x2 => eNilCk a0 fun x3 => eFieldAddr Tryz.prog 209 x3 1 fun x4 => eLoad Tryz.prog 207 x2 fun x5 => eF
theorem strings_Builder_grow_ee (C : Cal) (N : Nat) (a0 a1 : SV) (K : SV → ER) : eBody Tryz.prog C N Tryz.f232 (Tryz.f232.body.getD .skip) strings_Builder_grow_ea [a0, a1] K = strings_Builder_grow_e C N a0 a1 K := by kernel_rfl
noncomputable def l232 : LeafT := fun C N args K => match args with
  | [a0, a1] => strings_Builder_grow_e C N a0 a1 K
  | _ => eF
theorem lok232 : LeafOk Tryz.prog 232 l232 := ⟨Tryz.f232, Tryz.f232.body.getD .skip, strings_Builder_grow_ea, Tryz.func232, by kernel_rfl, Tryz.call232, fun C N args K H e => by
  unfold l232 at e
  split at e
  · rw [strings_Builder_grow_ee]; exact e
  · exact eF_no e⟩

/- cmp.isNaN[string] -/
def cmp_isNaN_string_ea : Ann := .two (.none) (.two (.none) (.none))
noncomputable def cmp_isNaN_string_e (C : Cal) (N : Nat) (a0 : SV) (K : SV → ER) : ER :=
  eBin Tryz.prog .neq 9 false a0 a0 fun x1 => K x1
theorem cmp_isNaN_string_ee (C : Cal) (N : Nat) (a0 : SV) (K : SV → ER) : eBody Tryz.prog C N Tryz.f233 (Tryz.f233.body.getD .skip) cmp_isNaN_string_ea [a0] K = cmp_isNaN_string_e C N a0 K := by kernel_rfl
noncomputable def l233 : LeafT := fun C N args K => match args with
  | [a0] => cmp_isNaN_string_e C N a0 K
  | _ => eF
theorem lok233 : LeafOk Tryz.prog 233 l233 := ⟨Tryz.f233, Tryz.f233.body.getD .skip, cmp_isNaN_string_ea, Tryz.func233, by kernel_rfl, Tryz.call233, fun C N args K H e => by
  unfold l233 at e
  split at e
  · rw [cmp_isNaN_string_ee]; exact e
  · exact eF_no e⟩

/- strings.IndexAny -/
def strings_IndexAny_ea : Ann := .two (.none) (.two (.two (.none) (.two (.two (.none) (.none)) (.none))) (.two (.two (.none) (.two (.two (.none) (.join (.two (.none) (.two (.none) (.none))) (.two (.none) (.none)) [(5, .any)])) (.none))) (.join (.two (.none) (.two (.two (.none) (.two (.none) (.two (.two (.two (.none) (.sub (.loop [(8, .any)] (.two (.two (.none) (.two (.none) (.none))) (.two (.sub (.two (.none) (.two (.two (.none) (.none)) (.none)))) (.none)))))) (.two (.none) (.none))) (.none)))) (.none))) (.two (.two (.none) (.sub (.loop [] (.two (.none) (.two (.two (.none) (.none)) (.sub (.two (.none) (.two (.none) (.two (.two (.none) (.none)) (.none)))))))))) (.two (.none) (.none))) [])))
noncomputable def strings_IndexAny_p0 (C : Cal) (K : SV → ER) (a0 : SV) (a1 : SV) : ER :=
  eIndexS Tryz.prog 9 a1 (.int .i64 0) fun x4 => eConvS Tryz.prog 5 21 x4 fun x5 => eJoinC (σ := SV × Unit) (fun (k6 : SV × Unit → ER) =>
  eBin Tryz.prog .geq 21 false x5 (.int .i32 128) fun x8 => eIfV x8
  (eHas .any (.int .i32 65533) (k6 ((.int .i32 65533), ())))
  (eHas .any x5 (k6 (x5, ())))) fun (s7 : SV × Unit) =>
  eCallR Tryz.prog C 249 [a0, s7.1] 3 fun x9 => K x9
noncomputable def strings_IndexAny_p1 (C : Cal) (K : SV → ER) (a0 : SV) (k18 : SV × Unit → ER) (s19 : SV × Unit) (x17 : SV) : ER :=
  eLenS Tryz.prog [9] [a0] fun x20 => eBin Tryz.prog .lss 3 false s19.1 x20 fun x21 => eIfV x21
  (eIndexS Tryz.prog 9 a0 s19.1 fun x22 => eCallR Tryz.prog C 252 [x17, x22] 4 fun x23 => eIfV x23
  (K s19.1)
  (eBin Tryz.prog .add 3 false s19.1 (.int .i64 1) fun x24 => eHas .any x24 (k18 (x24, ()))))
  (K (.int .i64 (-1)))
noncomputable def strings_IndexAny_p2 (C : Cal) (K : SV → ER) (N : Nat) (a0 : SV) (a1 : SV) (k10 : Unit → ER) : ER :=
  eCallR Tryz.prog C 251 [a1] 249 fun x14 => eExtract x14 0 fun x15 => eExtract x14 1 fun x16 => eAlloc Tryz.prog 248 fun x17 => eStore Tryz.prog 248 x17 x15 <| eIfV x16
  (eHas .any (.int .i64 0) (eIter (σ := SV × Unit) (fun (s19 : SV × Unit) (k18 : SV × Unit → ER) =>
  strings_IndexAny_p1 C K a0 k18 s19 x17) N ((.int .i64 0), ())))
  (k10 (()))
noncomputable def strings_IndexAny_p3 (C : Cal) (K : SV → ER) (N : Nat) (a0 : SV) (a1 : SV) : ER :=
  eRange Tryz.prog 9 a0 fun x25 => eIter (σ := Unit) (fun (s27 : Unit) (k26 : Unit → ER) =>
  eNextV x25 (fun a28 c29 => eCallR Tryz.prog C 249 [a1, c29] 3 fun x30 => eBin Tryz.prog .geq 3 false x30 (.int .i64 0) fun x31 => eIfV x31
  (K a28)
  (k26 (())))
  (K (.int .i64 (-1)))) N (())
noncomputable def strings_IndexAny_p4 (C : Cal) (K : SV → ER) (N : Nat) (a0 : SV) (a1 : SV) : ER :=
  eJoinC (σ := Unit) (fun (k10 : Unit → ER) =>
  eLenS Tryz.prog [9] [a0] fun x12 => eCallR Tryz.prog C 250 [x12] 4 fun x13 => eIfV x13
  (strings_IndexAny_p2 C K N a0 a1 k10)
  (k10 (()))) fun (s11 : Unit) =>
  strings_IndexAny_p3 C K N a0 a1
noncomputable def strings_IndexAny_e (C : Cal) (N : Nat) (a0 a1 : SV) (K : SV → ER) : ER :=
  eBin Tryz.prog .eql 9 false a1 (.str []) fun x1 => eIfV x1
  (K (.int .i64 (-1)))
  (eLenS Tryz.prog [9] [a1] fun x2 => eBin Tryz.prog .eql 3 false x2 (.int .i64 1) fun x3 => eIfV x3
  (strings_IndexAny_p0 C K a0 a1)
  (strings_IndexAny_p4 C K N a0 a1))
theorem strings_IndexAny_ee (C : Cal) (N : Nat) (a0 a1 : SV) (K : SV → ER) : eBody Tryz.prog C N Tryz.f234 (Tryz.f234.body.getD .skip) strings_IndexAny_ea [a0, a1] K = strings_IndexAny_e C N a0 a1 K := by kernel_rfl
noncomputable def l234 : LeafT := fun C N args K => match args with
  | [a0, a1] => strings_IndexAny_e C N a0 a1 K
  | _ => eF
theorem lok234 : LeafOk Tryz.prog 234 l234 := ⟨Tryz.f234, Tryz.f234.body.getD .skip, strings_IndexAny_ea, Tryz.func234, by kernel_rfl, Tryz.call234, fun C N args K H e => by
  unfold l234 at e
  split at e
  · rw [strings_IndexAny_ee]; exact e
  · exact eF_no e⟩

/- slices.rotateLeft[string] -/
def slices_rotateLeft_string_ea : Ann := .two (.none) (.two (.none) (.none))
noncomputable def slices_rotateLeft_string_e (C : Cal) (N : Nat) (a0 a1 : SV) (K : SV → ER) : ER :=
  eSliceS Tryz.prog 25 a0 none (some (.v a1)) none fun x1 => eCallR Tryz.prog C 253 [x1] 0 fun x2 => eSliceS Tryz.prog 25 a0 (some (.v a1)) none none fun x3 => eCallR Tryz.prog C 253 [x3] 0 fun x4 => eCallR Tryz.prog C 253 [a0] 0 fun x5 => K (.tup [])
theorem slices_rotateLeft_string_ee (C : Cal) (N : Nat) (a0 a1 : SV) (K : SV → ER) : eBody Tryz.prog C N Tryz.f235 (Tryz.f235.body.getD .skip) slices_rotateLeft_string_ea [a0, a1] K = slices_rotateLeft_string_e C N a0 a1 K := by kernel_rfl
noncomputable def l235 : LeafT := fun C N args K => match args with
  | [a0, a1] => slices_rotateLeft_string_e C N a0 a1 K
  | _ => eF
theorem lok235 : LeafOk Tryz.prog 235 l235 := ⟨Tryz.f235, Tryz.f235.body.getD .skip, slices_rotateLeft_string_ea, Tryz.func235, by kernel_rfl, Tryz.call235, fun C N args K H e => by
  unfold l235 at e
  split at e
  · rw [slices_rotateLeft_string_ee]; exact e
  · exact eF_no e⟩

/- slices.rotateLeft[int] -/
def slices_rotateLeft_int_ea : Ann := .two (.none) (.two (.none) (.none))
noncomputable def slices_rotateLeft_int_e (C : Cal) (N : Nat) (a0 a1 : SV) (K : SV → ER) : ER :=
  eSliceS Tryz.prog 38 a0 none (some (.v a1)) none fun x1 => eCallR Tryz.prog C 254 [x1] 0 fun x2 => eSliceS Tryz.prog 38 a0 (some (.v a1)) none none fun x3 => eCallR Tryz.prog C 254 [x3] 0 fun x4 => eCallR Tryz.prog C 254 [a0] 0 fun x5 => K (.tup [])
theorem slices_rotateLeft_int_ee (C : Cal) (N : Nat) (a0 a1 : SV) (K : SV → ER) : eBody Tryz.prog C N Tryz.f236 (Tryz.f236.body.getD .skip) slices_rotateLeft_int_ea [a0, a1] K = slices_rotateLeft_int_e C N a0 a1 K := by kernel_rfl
noncomputable def l236 : LeafT := fun C N args K => match args with
  | [a0, a1] => slices_rotateLeft_int_e C N a0 a1 K
  | _ => eF
theorem lok236 : LeafOk Tryz.prog 236 l236 := ⟨Tryz.f236, Tryz.f236.body.getD .skip, slices_rotateLeft_int_ea, Tryz.func236, by kernel_rfl, Tryz.call236, fun C N args K H e => by
  unfold l236 at e
  split at e
  · rw [slices_rotateLeft_int_ee]; exact e
  · exact eF_no e⟩

/- internal/stringslite.IndexByte -/
def internal_stringslite_IndexByte_ea : Ann := .two (.none) (.two (.none) (.none))
noncomputable def internal_stringslite_IndexByte_e (C : Cal) (N : Nat) (a0 a1 : SV) (K : SV → ER) : ER :=
  eCallR Tryz.prog C 255 [a0, a1] 3 fun x1 => K x1
theorem internal_stringslite_IndexByte_ee (C : Cal) (N : Nat) (a0 a1 : SV) (K : SV → ER) : eBody Tryz.prog C N Tryz.f237 (Tryz.f237.body.getD .skip) internal_stringslite_IndexByte_ea [a0, a1] K = internal_stringslite_IndexByte_e C N a0 a1 K := by kernel_rfl
noncomputable def l237 : LeafT := fun C N args K => match args with
  | [a0, a1] => internal_stringslite_IndexByte_e C N a0 a1 K
  | _ => eF
theorem lok237 : LeafOk Tryz.prog 237 l237 := ⟨Tryz.f237, Tryz.f237.body.getD .skip, internal_stringslite_IndexByte_ea, Tryz.func237, by kernel_rfl, Tryz.call237, fun C N args K H e => by
  unfold l237 at e
  split at e
  · rw [internal_stringslite_IndexByte_ee]; exact e
  · exact eF_no e⟩

/- internal/bytealg.Cutover -/
def internal_bytealg_Cutover_ea : Ann := .two (.none) (.two (.none) (.none))
noncomputable def internal_bytealg_Cutover_e (C : Cal) (N : Nat) (a0 : SV) (K : SV → ER) : ER :=
  eBin Tryz.prog .add 3 false a0 (.int .i64 16) fun x1 => eBin Tryz.prog .quo 3 false x1 (.int .i64 8) fun x2 => K x2
theorem internal_bytealg_Cutover_ee (C : Cal) (N : Nat) (a0 : SV) (K : SV → ER) : eBody Tryz.prog C N Tryz.f239 (Tryz.f239.body.getD .skip) internal_bytealg_Cutover_ea [a0] K = internal_bytealg_Cutover_e C N a0 K := by kernel_rfl
noncomputable def l239 : LeafT := fun C N args K => match args with
  | [a0] => internal_bytealg_Cutover_e C N a0 K
  | _ => eF
theorem lok239 : LeafOk Tryz.prog 239 l239 := ⟨Tryz.f239, Tryz.f239.body.getD .skip, internal_bytealg_Cutover_ea, Tryz.func239, by kernel_rfl, Tryz.call239, fun C N args K H e => by
  unfold l239 at e
  split at e
  · rw [internal_bytealg_Cutover_ee]; exact e
  · exact eF_no e⟩

/- internal/bytealg.IndexRabinKarp[string] -/
def internal_bytealg_IndexRabinKarp_string_ea : Ann := .two (.none) (.two (.none) (.two (.none) (.two (.none) (.two (.two (.none) (.sub (.loop [(8, .any), (9, .any)] (.two (.two (.none) (.two (.none) (.none))) (.two (.sub (.none)) (.none)))))) (.two (.join (.none) (.two (.two (.none) (.none)) (.none)) [(39, .any)]) (.two (.two (.none) (.sub (.loop [(8, .any), (10, .any)] (.two (.two (.none) (.two (.none) (.none))) (.sub (.two (.none) (.two (.none) (.two (.none) (.two (.none) (.join (.none) (.two (.two (.none) (.none)) (.none)) [(77, .any)])))))))))) (.two (.none) (.none))))))))
noncomputable def internal_bytealg_IndexRabinKarp_string_p0 (a0 : SV) (k5 : SV × SV × Unit → ER) (s6 : SV × SV × Unit) : ER :=
  eBin Tryz.prog .mul 229 false s6.1 (.int .u32 16777619) fun x8 => eIndexS Tryz.prog 9 a0 s6.2.1 fun x9 => eConvS Tryz.prog 5 229 x9 fun x10 => eBin Tryz.prog .add 229 false x8 x10 fun x11 => eBin Tryz.prog .add 3 false s6.2.1 (.int .i64 1) fun x12 => eHas .any x11 (eHas .any x12 (k5 (x11, x12, ())))
noncomputable def internal_bytealg_IndexRabinKarp_string_p1 (a0 : SV) (a1 : SV) (x2 : SV) (x4 : SV) (k32 : SV × Unit → ER) (x30 : SV) (x31 : SV) : ER :=
  eBin Tryz.prog .eql 229 false x30 x2 fun x34 => eIfV x34
  (eBin Tryz.prog .sub 3 false x31 x4 fun x35 => eSliceS Tryz.prog 9 a0 (some (.v x35)) (some (.v x31)) none fun x36 => eBin Tryz.prog .eql 9 false x36 a1 fun x37 => eHas .any x37 (k32 (x37, ())))
  (eHas .any (.bool false) (k32 ((.bool false), ())))
noncomputable def internal_bytealg_IndexRabinKarp_string_p2 (K : SV → ER) (a0 : SV) (a1 : SV) (x2 : SV) (x3 : SV) (x4 : SV) (k18 : SV × SV × Unit → ER) (s19 : SV × SV × Unit) (x25 : SV) : ER :=
  eBin Tryz.prog .sub 3 false s19.2.1 x4 fun x26 => eIndexS Tryz.prog 9 a0 x26 fun x27 => eConvS Tryz.prog 5 229 x27 fun x28 => eBin Tryz.prog .mul 229 false x3 x28 fun x29 => eBin Tryz.prog .sub 229 false x25 x29 fun x30 => eBin Tryz.prog .add 3 false s19.2.1 (.int .i64 1) fun x31 => eJoinC (σ := SV × Unit) (fun (k32 : SV × Unit → ER) =>
  internal_bytealg_IndexRabinKarp_string_p1 a0 a1 x2 x4 k32 x30 x31) fun (s33 : SV × Unit) =>
  eIfV s33.1
  (eBin Tryz.prog .sub 3 false x31 x4 fun x38 => K x38)
  (eHas .any x30 (eHas .any x31 (k18 (x30, x31, ()))))
noncomputable def internal_bytealg_IndexRabinKarp_string_p3 (K : SV → ER) (a0 : SV) (a1 : SV) (x2 : SV) (x3 : SV) (x4 : SV) (k18 : SV × SV × Unit → ER) (s19 : SV × SV × Unit) : ER :=
  eBin Tryz.prog .mul 229 false s19.1 (.int .u32 16777619) fun x22 => eIndexS Tryz.prog 9 a0 s19.2.1 fun x23 => eConvS Tryz.prog 5 229 x23 fun x24 => eBin Tryz.prog .add 229 false x22 x24 fun x25 => internal_bytealg_IndexRabinKarp_string_p2 K a0 a1 x2 x3 x4 k18 s19 x25
noncomputable def internal_bytealg_IndexRabinKarp_string_p4 (K : SV → ER) (N : Nat) (a0 : SV) (a1 : SV) (s6 : SV × SV × Unit) (x2 : SV) (x3 : SV) (x4 : SV) : ER :=
  eHas .any s6.1 (eHas .any x4 (eIter (σ := SV × SV × Unit) (fun (s19 : SV × SV × Unit) (k18 : SV × SV × Unit → ER) =>
  eLenS Tryz.prog [9] [a0] fun x20 => eBin Tryz.prog .lss 3 false s19.2.1 x20 fun x21 => eIfV x21
  (internal_bytealg_IndexRabinKarp_string_p3 K a0 a1 x2 x3 x4 k18 s19)
  (K (.int .i64 (-1)))) N (s6.1, x4, ())))
noncomputable def internal_bytealg_IndexRabinKarp_string_p5 (a0 : SV) (a1 : SV) (s6 : SV × SV × Unit) (x2 : SV) (x4 : SV) (k13 : SV × Unit → ER) : ER :=
  eBin Tryz.prog .eql 229 false s6.1 x2 fun x15 => eIfV x15
  (eSliceS Tryz.prog 9 a0 none (some (.v x4)) none fun x16 => eBin Tryz.prog .eql 9 false x16 a1 fun x17 => eHas .any x17 (k13 (x17, ())))
  (eHas .any (.bool false) (k13 ((.bool false), ())))
noncomputable def internal_bytealg_IndexRabinKarp_string_p6 (K : SV → ER) (N : Nat) (a0 : SV) (a1 : SV) (s6 : SV × SV × Unit) (x2 : SV) (x3 : SV) (x4 : SV) : ER :=
  eJoinC (σ := SV × Unit) (fun (k13 : SV × Unit → ER) =>
  internal_bytealg_IndexRabinKarp_string_p5 a0 a1 s6 x2 x4 k13) fun (s14 : SV × Unit) =>
  eIfV s14.1
  (K (.int .i64 0))
  (internal_bytealg_IndexRabinKarp_string_p4 K N a0 a1 s6 x2 x3 x4)
noncomputable def internal_bytealg_IndexRabinKarp_string_e (C : Cal) (N : Nat) (a0 a1 : SV) (K : SV → ER) : ER :=
  eCallR Tryz.prog C 256 [a1] 230 fun x1 => eExtract x1 0 fun x2 => eExtract x1 1 fun x3 => eLenS Tryz.prog [9] [a1] fun x4 => eHas .any (.int .u32 0) (eHas .any (.int .i64 0) (eIter (σ := SV × SV × Unit) (fun (s6 : SV × SV × Unit) (k5 : SV × SV × Unit → ER) =>
  eBin Tryz.prog .lss 3 false s6.2.1 x4 fun x7 => eIfV x7
  (internal_bytealg_IndexRabinKarp_string_p0 a0 k5 s6)
  (internal_bytealg_IndexRabinKarp_string_p6 K N a0 a1 s6 x2 x3 x4)) N ((.int .u32 0), (.int .i64 0), ())))
theorem internal_bytealg_IndexRabinKarp_string_ee (C : Cal) (N : Nat) (a0 a1 : SV) (K : SV → ER) : eBody Tryz.prog C N Tryz.f240 (Tryz.f240.body.getD .skip) internal_bytealg_IndexRabinKarp_string_ea [a0, a1] K = internal_bytealg_IndexRabinKarp_string_e C N a0 a1 K := by kernel_rfl
noncomputable def l240 : LeafT := fun C N args K => match args with
  | [a0, a1] => internal_bytealg_IndexRabinKarp_string_e C N a0 a1 K
  | _ => eF
theorem lok240 : LeafOk Tryz.prog 240 l240 := ⟨Tryz.f240, Tryz.f240.body.getD .skip, internal_bytealg_IndexRabinKarp_string_ea, Tryz.func240, by kernel_rfl, Tryz.call240, fun C N args K H e => by
  unfold l240 at e
  split at e
  · rw [internal_bytealg_IndexRabinKarp_string_ee]; exact e
  · exact eF_no e⟩

end Go.Proofs.YtnpcjhcgbcpcoaaGreatDoor

set_option linter.unusedVariables false
set_option maxRecDepth 100000
namespace Go.Proofs.YtnpcjhcgbcpcoaaGreatDoor
open Go.Hl
/- internal/strconv.FormatInt -/
def internal_strconv_FormatInt_ea : Ann := .two (.none) (.two (.two (.none) (.two (.two (.join (.none) (.two (.two (.none) (.none)) (.none)) [(17, .any)]) (.two (.none) (.two (.none) (.join (.two (.none) (.two (.none) (.none))) (.two (.none) (.two (.none) (.two (.two (.none) (.two (.two (.none) (.two (.none) (.none))) (.none))) (.two (.none) (.none))))) [(6, .any)])))) (.none))) (.two (.none) (.two (.none) (.none))))
noncomputable def internal_strconv_FormatInt_p0 (K : SV → ER) (x7 : SV) (x13 : SV) : ER :=
  eIndexAddrS Tryz.prog 255 x7 (.int .i64 0) fun x18 => eStore Tryz.prog 5 x18 (.int .u8 45) <| eBin Tryz.prog .add 3 false (.int .i64 1) x13 fun x19 => eSliceS Tryz.prog 255 x7 none (some (.v x19)) none fun x20 => eConvS Tryz.prog 207 9 x20 fun x21 => K x21
noncomputable def internal_strconv_FormatInt_p1 (C : Cal) (K : SV → ER) (a0 : SV) (x7 : SV) (s10 : SV × Unit) : ER :=
  eCallR Tryz.prog C 258 [s10.1] 3 fun x13 => eBin Tryz.prog .add 3 false (.int .i64 1) x13 fun x14 => eSliceS Tryz.prog 255 x7 (some (.v (.int .i64 1))) (some (.v x14)) none fun x15 => eCallR Tryz.prog C 259 [x15, s10.1] 0 fun x16 => eBin Tryz.prog .lss 2 false a0 (.int .i64 0) fun x17 => eIfV x17
  (internal_strconv_FormatInt_p0 K x7 x13)
  (eBin Tryz.prog .add 3 false (.int .i64 1) x13 fun x22 => eSliceS Tryz.prog 255 x7 (some (.v (.int .i64 1))) (some (.v x22)) none fun x23 => eConvS Tryz.prog 207 9 x23 fun x24 => K x24)
noncomputable def internal_strconv_FormatInt_p2 (C : Cal) (K : SV → ER) (a0 : SV) : ER :=
  eAlloc Tryz.prog 255 fun x7 => eConvS Tryz.prog 2 42 a0 fun x8 => eJoinC (σ := SV × Unit) (fun (k9 : SV × Unit → ER) =>
  eBin Tryz.prog .lss 2 false a0 (.int .i64 0) fun x11 => eIfV x11
  (eUnS .neg x8 fun x12 => eHas .any x12 (k9 (x12, ())))
  (eHas .any x8 (k9 (x8, ())))) fun (s10 : SV × Unit) =>
  internal_strconv_FormatInt_p1 C K a0 x7 s10
noncomputable def internal_strconv_FormatInt_p3 (C : Cal) (K : SV → ER) (a0 : SV) : ER :=
  eJoinC (σ := SV × Unit) (fun (k2 : SV × Unit → ER) =>
  eBin Tryz.prog .leq 2 false (.int .i64 0) a0 fun x4 => eIfV x4
  (eBin Tryz.prog .lss 2 false a0 (.int .i64 100) fun x5 => eHas .any x5 (k2 (x5, ())))
  (eHas .any (.bool false) (k2 ((.bool false), ())))) fun (s3 : SV × Unit) =>
  eIfV s3.1
  (eCallR Tryz.prog C 257 [a0] 9 fun x6 => K x6)
  (internal_strconv_FormatInt_p2 C K a0)
noncomputable def internal_strconv_FormatInt_p4 (C : Cal) (K : SV → ER) (a0 : SV) (a1 : SV) : ER :=
  eConvS Tryz.prog 2 42 a0 fun x25 => eBin Tryz.prog .lss 2 false a0 (.int .i64 0) fun x26 => eCallR Tryz.prog C 260 [(.sl ⟨none, 0, .lit 0⟩), x25, a1, x26, (.bool false)] 258 fun x27 => eExtract x27 0 fun x28 => eExtract x27 1 fun x29 => K x29
noncomputable def internal_strconv_FormatInt_e (C : Cal) (N : Nat) (a0 a1 : SV) (K : SV → ER) : ER :=
  eBin Tryz.prog .eql 3 false a1 (.int .i64 10) fun x1 => eIfV x1
  (internal_strconv_FormatInt_p3 C K a0)
  (internal_strconv_FormatInt_p4 C K a0 a1)
theorem internal_strconv_FormatInt_ee (C : Cal) (N : Nat) (a0 a1 : SV) (K : SV → ER) : eBody Tryz.prog C N Tryz.f241 (Tryz.f241.body.getD .skip) internal_strconv_FormatInt_ea [a0, a1] K = internal_strconv_FormatInt_e C N a0 a1 K := by kernel_rfl
noncomputable def l241 : LeafT := fun C N args K => match args with
  | [a0, a1] => internal_strconv_FormatInt_e C N a0 a1 K
  | _ => eF
theorem lok241 : LeafOk Tryz.prog 241 l241 := ⟨Tryz.f241, Tryz.f241.body.getD .skip, internal_strconv_FormatInt_ea, Tryz.func241, by kernel_rfl, Tryz.call241, fun C N args K H e => by
  unfold l241 at e
  split at e
  · rw [internal_strconv_FormatInt_ee]; exact e
  · exact eF_no e⟩

/- (*halberd/tasks.Table).Up -/
def tasks_Table_Up_ea : Ann := .two (.none) (.two (.none) (.two (.two (.none) (.sub (.loop [(5, .any), (6, .any)] (.two (.join (.none) (.two (.none) (.none)) [(20, .any)]) (.two (.sub (.none)) (.none)))))) (.two (.none) (.none))))
noncomputable def tasks_Table_Up_p0 (C : Cal) (a0 : SV) (k2 : SV × SV × Unit → ER) (s3 : SV × SV × Unit) : ER :=
  eNilCk s3.2.1 fun x12 => eFieldAddr Tryz.prog 50 x12 0 fun x13 => eLoad Tryz.prog 3 x13 fun x14 => eBuildSlice Tryz.prog 38 1 [(0, x14)] fun x15 => eApp Tryz.prog [38, 38] [s3.1, x15] fun x16 => eNilCk s3.2.1 fun x17 => eFieldAddr Tryz.prog 50 x17 2 fun x18 => eLoad Tryz.prog 3 x18 fun x19 => eCallR Tryz.prog C 27 [a0, x19] 94 fun x20 => eHas .any x16 (eHas .any x20 (k2 (x16, x20, ())))
noncomputable def tasks_Table_Up_p1 (C : Cal) (k4 : SV × Unit → ER) (s3 : SV × SV × Unit) : ER :=
  eBin Tryz.prog .neq 94 true s3.2.1 (.ptr none) fun x6 => eIfV x6
  (eNilCk s3.2.1 fun x7 => eFieldAddr Tryz.prog 50 x7 0 fun x8 => eLoad Tryz.prog 3 x8 fun x9 => eCallR Tryz.prog C 261 [s3.1, x9] 4 fun x10 => eUnS .not x10 fun x11 => eHas .any x11 (k4 (x11, ())))
  (eHas .any (.bool false) (k4 ((.bool false), ())))
noncomputable def tasks_Table_Up_e (C : Cal) (N : Nat) (a0 a1 : SV) (K : SV → ER) : ER :=
  eCallR Tryz.prog C 27 [a0, a1] 94 fun x1 => eHas .any (.sl ⟨none, 0, .lit 0⟩) (eHas .any x1 (eIter (σ := SV × SV × Unit) (fun (s3 : SV × SV × Unit) (k2 : SV × SV × Unit → ER) =>
  eJoinC (σ := SV × Unit) (fun (k4 : SV × Unit → ER) =>
  tasks_Table_Up_p1 C k4 s3) fun (s5 : SV × Unit) =>
  eIfV s5.1
  (tasks_Table_Up_p0 C a0 k2 s3)
  (K s3.1)) N ((.sl ⟨none, 0, .lit 0⟩), x1, ())))
theorem tasks_Table_Up_ee (C : Cal) (N : Nat) (a0 a1 : SV) (K : SV → ER) : eBody Tryz.prog C N Tryz.f242 (Tryz.f242.body.getD .skip) tasks_Table_Up_ea [a0, a1] K = tasks_Table_Up_e C N a0 a1 K := by kernel_rfl
noncomputable def l242 : LeafT := fun C N args K => match args with
  | [a0, a1] => tasks_Table_Up_e C N a0 a1 K
  | _ => eF
theorem lok242 : LeafOk Tryz.prog 242 l242 := ⟨Tryz.f242, Tryz.f242.body.getD .skip, tasks_Table_Up_ea, Tryz.func242, by kernel_rfl, Tryz.call242, fun C N args K H e => by
  unfold l242 at e
  split at e
  · rw [tasks_Table_Up_ee]; exact e
  · exact eF_no e⟩

/- internal/stringslite.HasSuffix -/
def internal_stringslite_HasSuffix_ea : Ann := .two (.none) (.join (.none) (.none) [(4, .any)])
noncomputable def internal_stringslite_HasSuffix_p0 (a0 : SV) (a1 : SV) (k1 : SV × Unit → ER) : ER :=
  eLenS Tryz.prog [9] [a0] fun x6 => eLenS Tryz.prog [9] [a1] fun x7 => eBin Tryz.prog .sub 3 false x6 x7 fun x8 => eSliceS Tryz.prog 9 a0 (some (.v x8)) none none fun x9 => eBin Tryz.prog .eql 9 false x9 a1 fun x10 => eHas .any x10 (k1 (x10, ()))
noncomputable def internal_stringslite_HasSuffix_p1 (a0 : SV) (a1 : SV) (k1 : SV × Unit → ER) : ER :=
  eLenS Tryz.prog [9] [a0] fun x3 => eLenS Tryz.prog [9] [a1] fun x4 => eBin Tryz.prog .geq 3 false x3 x4 fun x5 => eIfV x5
  (internal_stringslite_HasSuffix_p0 a0 a1 k1)
  (eHas .any (.bool false) (k1 ((.bool false), ())))
noncomputable def internal_stringslite_HasSuffix_e (C : Cal) (N : Nat) (a0 a1 : SV) (K : SV → ER) : ER :=
  eJoinC (σ := SV × Unit) (fun (k1 : SV × Unit → ER) =>
  internal_stringslite_HasSuffix_p1 a0 a1 k1) fun (s2 : SV × Unit) =>
  K s2.1
theorem internal_stringslite_HasSuffix_ee (C : Cal) (N : Nat) (a0 a1 : SV) (K : SV → ER) : eBody Tryz.prog C N Tryz.f243 (Tryz.f243.body.getD .skip) internal_stringslite_HasSuffix_ea [a0, a1] K = internal_stringslite_HasSuffix_e C N a0 a1 K := by kernel_rfl
noncomputable def l243 : LeafT := fun C N args K => match args with
  | [a0, a1] => internal_stringslite_HasSuffix_e C N a0 a1 K
  | _ => eF
theorem lok243 : LeafOk Tryz.prog 243 l243 := ⟨Tryz.f243, Tryz.f243.body.getD .skip, internal_stringslite_HasSuffix_ea, Tryz.func243, by kernel_rfl, Tryz.call243, fun C N args K H e => by
  unfold l243 at e
  split at e
  · rw [internal_stringslite_HasSuffix_ee]; exact e
  · exact eF_no e⟩

/- slices.DeleteFunc[[]string,string] -/
def slices_DeleteFunc_string_string_ea : Ann := .two (.none) (.two (.none) (.two (.two (.none) (.two (.two (.none) (.none)) (.none))) (.two (.two (.none) (.sub (.loop [(5, .any), (6, .any)] (.two (.two (.none) (.two (.none) (.none))) (.join (.sub (.two (.none) (.two (.none) (.two (.two (.none) (.none)) (.none))))) (.none) [(5, .any)]))))) (.two (.none) (.two (.none) (.none))))))
noncomputable def slices_DeleteFunc_string_string_p0 (C : Cal) (a0 : SV) (a1 : SV) (k8 : SV × Unit → ER) (s5 : SV × SV × Unit) : ER :=
  eIndexAddrS Tryz.prog 25 a0 s5.2.1 fun x10 => eLoad Tryz.prog 9 x10 fun x11 => eCallVR Tryz.prog C a1 [x11] 4 fun x12 => eUnS .not x12 fun x13 => eIfV x13
  (eIndexAddrS Tryz.prog 25 a0 s5.1 fun x14 => eStore Tryz.prog 9 x14 x11 <| eBin Tryz.prog .add 3 false s5.1 (.int .i64 1) fun x15 => eHas .any x15 (k8 (x15, ())))
  (eHas .any s5.1 (k8 (s5.1, ())))
noncomputable def slices_DeleteFunc_string_string_p1 (C : Cal) (a0 : SV) (a1 : SV) (k4 : SV × SV × Unit → ER) (s5 : SV × SV × Unit) : ER :=
  eJoinC (σ := SV × Unit) (fun (k8 : SV × Unit → ER) =>
  slices_DeleteFunc_string_string_p0 C a0 a1 k8 s5) fun (s9 : SV × Unit) =>
  eBin Tryz.prog .add 3 false s5.2.1 (.int .i64 1) fun x16 => eHas .any s9.1 (eHas .any x16 (k4 (s9.1, x16, ())))
noncomputable def slices_DeleteFunc_string_string_p2 (C : Cal) (K : SV → ER) (a0 : SV) (a1 : SV) (k4 : SV × SV × Unit → ER) (s5 : SV × SV × Unit) : ER :=
  eLenS Tryz.prog [25] [a0] fun x6 => eBin Tryz.prog .lss 3 false s5.2.1 x6 fun x7 => eIfV x7
  (slices_DeleteFunc_string_string_p1 C a0 a1 k4 s5)
  (eSliceS Tryz.prog 25 a0 (some (.v s5.1)) none none fun x17 => eClear Tryz.prog [25] [x17] fun x18 => eSliceS Tryz.prog 25 a0 none (some (.v s5.1)) none fun x19 => K x19)
noncomputable def slices_DeleteFunc_string_string_p3 (C : Cal) (K : SV → ER) (N : Nat) (a0 : SV) (a1 : SV) (x1 : SV) : ER :=
  eBin Tryz.prog .add 3 false x1 (.int .i64 1) fun x3 => eHas .any x1 (eHas .any x3 (eIter (σ := SV × SV × Unit) (fun (s5 : SV × SV × Unit) (k4 : SV × SV × Unit → ER) =>
  slices_DeleteFunc_string_string_p2 C K a0 a1 k4 s5) N (x1, x3, ())))
noncomputable def slices_DeleteFunc_string_string_e (C : Cal) (N : Nat) (a0 a1 : SV) (K : SV → ER) : ER :=
  eCallR Tryz.prog C 262 [a0, a1] 3 fun x1 => eBin Tryz.prog .eql 3 false x1 (.int .i64 (-1)) fun x2 => eIfV x2
  (K a0)
  (slices_DeleteFunc_string_string_p3 C K N a0 a1 x1)
theorem slices_DeleteFunc_string_string_ee (C : Cal) (N : Nat) (a0 a1 : SV) (K : SV → ER) : eBody Tryz.prog C N Tryz.f244 (Tryz.f244.body.getD .skip) slices_DeleteFunc_string_string_ea [a0, a1] K = slices_DeleteFunc_string_string_e C N a0 a1 K := by kernel_rfl
noncomputable def l244 : LeafT := fun C N args K => match args with
  | [a0, a1] => slices_DeleteFunc_string_string_e C N a0 a1 K
  | _ => eF
theorem lok244 : LeafOk Tryz.prog 244 l244 := ⟨Tryz.f244, Tryz.f244.body.getD .skip, slices_DeleteFunc_string_string_ea, Tryz.func244, by kernel_rfl, Tryz.call244, fun C N args K H e => by
  unfold l244 at e
  split at e
  · rw [slices_DeleteFunc_string_string_ee]; exact e
  · exact eF_no e⟩

/- strings.Split -/
def strings_Split_ea : Ann := .two (.none) (.two (.none) (.none))
noncomputable def strings_Split_e (C : Cal) (N : Nat) (a0 a1 : SV) (K : SV → ER) : ER :=
  eCallR Tryz.prog C 263 [a0, a1, (.int .i64 0), (.int .i64 (-1))] 25 fun x1 => K x1
theorem strings_Split_ee (C : Cal) (N : Nat) (a0 a1 : SV) (K : SV → ER) : eBody Tryz.prog C N Tryz.f245 (Tryz.f245.body.getD .skip) strings_Split_ea [a0, a1] K = strings_Split_e C N a0 a1 K := by kernel_rfl
noncomputable def l245 : LeafT := fun C N args K => match args with
  | [a0, a1] => strings_Split_e C N a0 a1 K
  | _ => eF
theorem lok245 : LeafOk Tryz.prog 245 l245 := ⟨Tryz.f245, Tryz.f245.body.getD .skip, strings_Split_ea, Tryz.func245, by kernel_rfl, Tryz.call245, fun C N args K H e => by
  unfold l245 at e
  split at e
  · rw [strings_Split_ee]; exact e
  · exact eF_no e⟩

/- halberd/paths.names$1 -/
def paths_names_1_ea : Ann := .two (.none) (.two (.none) (.none))
noncomputable def paths_names_1_e (C : Cal) (N : Nat) (a0 : SV) (K : SV → ER) : ER :=
  eBin Tryz.prog .eql 9 false a0 (.str []) fun x1 => K x1
theorem paths_names_1_ee (C : Cal) (N : Nat) (a0 : SV) (K : SV → ER) : eBody Tryz.prog C N Tryz.f246 (Tryz.f246.body.getD .skip) paths_names_1_ea [a0] K = paths_names_1_e C N a0 K := by kernel_rfl
noncomputable def l246 : LeafT := fun C N args K => match args with
  | [a0] => paths_names_1_e C N a0 K
  | _ => eF
theorem lok246 : LeafOk Tryz.prog 246 l246 := ⟨Tryz.f246, Tryz.f246.body.getD .skip, paths_names_1_ea, Tryz.func246, by kernel_rfl, Tryz.call246, fun C N args K H e => by
  unfold l246 at e
  split at e
  · rw [paths_names_1_ee]; exact e
  · exact eF_no e⟩

/- strings.IndexRune -/
def strings_IndexRune_ea : Ann := .two (.none) (.sub (.join (.none) (.two (.two (.none) (.none)) (.two (.none) (.two (.two (.two (.none) (.sub (.loop [] (.two (.none) (.two (.two (.none) (.none)) (.sub (.two (.none) (.two (.none) (.two (.two (.none) (.none)) (.none)))))))))) (.two (.none) (.none))) (.two (.none) (.two (.two (.none) (.none)) (.sub (.two (.none) (.two (.none) (.two (.none) (.two (.none) (.two (.sub (.loop [(9, .any)] (.two (.two (.none) (.two (.none) (.none))) (.sub (.sub (.join (.two (.ord [0, 1, 2, 3, 4, 5, 6]) (.two (.two (.ord [0, 1, 2, 3, 4, 5, 6, 7, 8]) (.two (.two (.none) (.two (.two (.none) (.none)) (.none))) (.none))) (.none))) (.two (.two (.none) (.sub (.loop [(12, .any)] (.two (.two (.none) (.two (.none) (.none))) (.two (.sub (.two (.ord [0, 1, 2, 3, 4, 5, 6, 7, 8, 9, 10]) (.two (.none) (.none)))) (.none)))))) (.two (.two (.none) (.none)) (.two (.none) (.two (.none) (.two (.none) (.join (.none) (.two (.none) (.none)) [(98, .any)])))))) [(9, .any)])))))) (.two (.two (.none) (.none)) (.two (.none) (.join (.two (.two (.none) (.two (.none) (.two (.two (.none) (.none)) (.none)))) (.sub (.two (.none) (.two (.none) (.two (.none) (.sub (.loop [(9, .any)] (.two (.two (.none) (.two (.none) (.none))) (.join (.sub (.join (.none) (.two (.two (.two (.none) (.sub (.loop [(16, .any)] (.two (.two (.none) (.two (.none) (.none))) (.two (.sub (.two (.ord [0, 1, 2, 3, 4, 5, 6, 7, 8, 9, 10]) (.two (.none) (.none)))) (.none)))))) (.two (.none) (.none))) (.none)) [(139, .any)])) (.none) []))))))))) (.two (.none) (.none)) [])))))))))))))) [(160, .any)]))
noncomputable def strings_IndexRune_p0 (K : SV → ER) (N : Nat) (a0 : SV) : ER :=
  eRange Tryz.prog 9 a0 fun x8 => eIter (σ := Unit) (fun (s10 : Unit) (k9 : Unit → ER) =>
  eNextV x8 (fun a11 c12 => eBin Tryz.prog .eql 21 false c12 (.int .i32 65533) fun x13 => eIfV x13
  (K a11)
  (k9 (())))
  (K (.int .i64 (-1)))) N (())
noncomputable def strings_IndexRune_p1 (C : Cal) (K : SV → ER) (a0 : SV) (k23 : SV × Unit → ER) (s20 : SV × Unit) (x16 : SV) (x18 : SV) : ER :=
  eBin Tryz.prog .add 3 false s20.1 (.int .i64 1) fun x28 => eSliceS Tryz.prog 9 a0 (some (.v x28)) none none fun x29 => eIndexS Tryz.prog 9 x16 x18 fun x30 => eCallR Tryz.prog C 264 [x29, x30] 3 fun x31 => eBin Tryz.prog .lss 3 false x31 (.int .i64 0) fun x32 => eIfV x32
  (K (.int .i64 (-1)))
  (eBin Tryz.prog .add 3 false x31 (.int .i64 1) fun x33 => eBin Tryz.prog .add 3 false s20.1 x33 fun x34 => eHas .any x34 (k23 (x34, ())))
noncomputable def strings_IndexRune_p2 (a0 : SV) (k35 : SV × Unit → ER) (s24 : SV × Unit) (s36 : SV × Unit) (x16 : SV) (x18 : SV) : ER :=
  eBin Tryz.prog .sub 3 false s24.1 s36.1 fun x39 => eIndexS Tryz.prog 9 a0 x39 fun x40 => eBin Tryz.prog .sub 3 false x18 s36.1 fun x41 => eIndexS Tryz.prog 9 x16 x41 fun x42 => eBin Tryz.prog .neq 5 false x40 x42 fun x43 => eIfV x43
  (eF)
  (eBin Tryz.prog .add 3 false s36.1 (.int .i64 1) fun x44 => eHas .any x44 (k35 (x44, ())))
noncomputable def strings_IndexRune_p3 (C : Cal) (K : SV → ER) (a0 : SV) (k23 : SV × Unit → ER) (s20 : SV × Unit) (x16 : SV) (x18 : SV) : ER :=
  eIndexS Tryz.prog 9 a0 s20.1 fun x25 => eIndexS Tryz.prog 9 x16 x18 fun x26 => eBin Tryz.prog .neq 5 false x25 x26 fun x27 => eIfV x27
  (strings_IndexRune_p1 C K a0 k23 s20 x16 x18)
  (eHas .any s20.1 (k23 (s20.1, ())))
noncomputable def strings_IndexRune_p4 (K : SV → ER) (N : Nat) (a0 : SV) (s24 : SV × Unit) (x16 : SV) (x18 : SV) : ER :=
  eHas .any (.int .i64 1) (eIter (σ := SV × Unit) (fun (s36 : SV × Unit) (k35 : SV × Unit → ER) =>
  eLenS Tryz.prog [9] [x16] fun x37 => eBin Tryz.prog .lss 3 false s36.1 x37 fun x38 => eIfV x38
  (strings_IndexRune_p2 a0 k35 s24 s36 x16 x18)
  (eBin Tryz.prog .sub 3 false s24.1 x18 fun x45 => K x45)) N ((.int .i64 1), ()))
noncomputable def strings_IndexRune_p5 (C : Cal) (K : SV → ER) (N : Nat) (a0 : SV) (s20 : SV × Unit) (x16 : SV) (x18 : SV) : ER :=
  eLenS Tryz.prog [9] [a0] fun x21 => eBin Tryz.prog .lss 3 false s20.1 x21 fun x22 => eIfV x22
  (eJoinC (σ := SV × Unit) (fun (k23 : SV × Unit → ER) =>
  strings_IndexRune_p3 C K a0 k23 s20 x16 x18) fun (s24 : SV × Unit) =>
  strings_IndexRune_p4 K N a0 s24 x16 x18)
  (K (.int .i64 (-1)))
noncomputable def strings_IndexRune_p6 (C : Cal) (K : SV → ER) (N : Nat) (a0 : SV) (a1 : SV) : ER :=
  eConvS Tryz.prog 21 9 a1 fun x16 => eLenS Tryz.prog [9] [x16] fun x17 => eBin Tryz.prog .sub 3 false x17 (.int .i64 1) fun x18 => eHas .any x18 (eIter (σ := SV × Unit) (fun (s20 : SV × Unit) (k19 : SV × Unit → ER) =>
  strings_IndexRune_p5 C K N a0 s20 x16 x18) N (x18, ()))
noncomputable def strings_IndexRune_p7 (C : Cal) (K : SV → ER) (N : Nat) (a0 : SV) (a1 : SV) : ER :=
  eBin Tryz.prog .eql 21 false a1 (.int .i32 65533) fun x7 => eIfV x7
  (strings_IndexRune_p0 K N a0)
  (eCallR Tryz.prog C 265 [a1] 4 fun x14 => eUnS .not x14 fun x15 => eIfV x15
  (K (.int .i64 (-1)))
  (strings_IndexRune_p6 C K N a0 a1))
noncomputable def strings_IndexRune_p8 (a1 : SV) (k1 : SV × Unit → ER) : ER :=
  eBin Tryz.prog .leq 21 false (.int .i32 0) a1 fun x3 => eIfV x3
  (eBin Tryz.prog .lss 21 false a1 (.int .i32 128) fun x4 => eHas .any x4 (k1 (x4, ())))
  (eHas .any (.bool false) (k1 ((.bool false), ())))
noncomputable def strings_IndexRune_e (C : Cal) (N : Nat) (a0 a1 : SV) (K : SV → ER) : ER :=
  eJoinC (σ := SV × Unit) (fun (k1 : SV × Unit → ER) =>
  strings_IndexRune_p8 a1 k1) fun (s2 : SV × Unit) =>
  eIfV s2.1
  (eConvS Tryz.prog 21 5 a1 fun x5 => eCallR Tryz.prog C 264 [a0, x5] 3 fun x6 => K x6)
  (strings_IndexRune_p7 C K N a0 a1)
theorem strings_IndexRune_ee (C : Cal) (N : Nat) (a0 a1 : SV) (K : SV → ER) : eBody Tryz.prog C N Tryz.f249 (Tryz.f249.body.getD .skip) strings_IndexRune_ea [a0, a1] K = strings_IndexRune_e C N a0 a1 K := by kernel_rfl
noncomputable def l249 : LeafT := fun C N args K => match args with
  | [a0, a1] => strings_IndexRune_e C N a0 a1 K
  | _ => eF
theorem lok249 : LeafOk Tryz.prog 249 l249 := ⟨Tryz.f249, Tryz.f249.body.getD .skip, strings_IndexRune_ea, Tryz.func249, by kernel_rfl, Tryz.call249, fun C N args K H e => by
  unfold l249 at e
  split at e
  · rw [strings_IndexRune_ee]; exact e
  · exact eF_no e⟩

/- strings.shouldUseASCIISet -/
def strings_shouldUseASCIISet_ea : Ann := .two (.none) (.two (.none) (.none))
noncomputable def strings_shouldUseASCIISet_e (C : Cal) (N : Nat) (a0 : SV) (K : SV → ER) : ER :=
  eBin Tryz.prog .gtr 3 false a0 (.int .i64 8) fun x1 => K x1
theorem strings_shouldUseASCIISet_ee (C : Cal) (N : Nat) (a0 : SV) (K : SV → ER) : eBody Tryz.prog C N Tryz.f250 (Tryz.f250.body.getD .skip) strings_shouldUseASCIISet_ea [a0] K = strings_shouldUseASCIISet_e C N a0 K := by kernel_rfl
noncomputable def l250 : LeafT := fun C N args K => match args with
  | [a0] => strings_shouldUseASCIISet_e C N a0 K
  | _ => eF
theorem lok250 : LeafOk Tryz.prog 250 l250 := ⟨Tryz.f250, Tryz.f250.body.getD .skip, strings_shouldUseASCIISet_ea, Tryz.func250, by kernel_rfl, Tryz.call250, fun C N args K H e => by
  unfold l250 at e
  split at e
  · rw [strings_shouldUseASCIISet_ee]; exact e
  · exact eF_no e⟩

end Go.Proofs.YtnpcjhcgbcpcoaaGreatDoor

set_option linter.unusedVariables false
set_option maxRecDepth 100000
namespace Go.Proofs.YtnpcjhcgbcpcoaaGreatDoor
open Go.Hl
/- strings.makeASCIISet -/
def strings_makeASCIISet_ea : Ann := .two (.none) (.two (.two (.none) (.sub (.loop [(4, .any)] (.two (.two (.none) (.two (.none) (.none))) (.two (.sub (.two (.none) (.two (.two (.none) (.two (.two (.none) (.none)) (.none))) (.none)))) (.none)))))) (.two (.none) (.none)))
noncomputable def strings_makeASCIISet_p0 (K : SV → ER) (a0 : SV) (k2 : SV × Unit → ER) (s3 : SV × Unit) (x1 : SV) : ER :=
  eIndexS Tryz.prog 9 a0 s3.1 fun x6 => eBin Tryz.prog .geq 5 false x6 (.int .u8 128) fun x7 => eIfV x7
  (eLoad Tryz.prog 248 x1 fun x8 => eStore Tryz.prog 248 x1 x8 <| eLoad Tryz.prog 248 x1 fun x9 => K (.tup [x9, (.bool false)]))
  (eIndexAddrS Tryz.prog 248 x1 x6 fun x10 => eStore Tryz.prog 4 x10 (.bool true) <| eBin Tryz.prog .add 3 false s3.1 (.int .i64 1) fun x11 => eHas .any x11 (k2 (x11, ())))
noncomputable def strings_makeASCIISet_p1 (K : SV → ER) (a0 : SV) (k2 : SV × Unit → ER) (s3 : SV × Unit) (x1 : SV) : ER :=
  eLenS Tryz.prog [9] [a0] fun x4 => eBin Tryz.prog .lss 3 false s3.1 x4 fun x5 => eIfV x5
  (strings_makeASCIISet_p0 K a0 k2 s3 x1)
  (eLoad Tryz.prog 248 x1 fun x12 => eStore Tryz.prog 248 x1 x12 <| eLoad Tryz.prog 248 x1 fun x13 => K (.tup [x13, (.bool true)]))
noncomputable def strings_makeASCIISet_e (C : Cal) (N : Nat) (a0 : SV) (K : SV → ER) : ER :=
  eAlloc Tryz.prog 248 fun x1 => eHas .any (.int .i64 0) (eIter (σ := SV × Unit) (fun (s3 : SV × Unit) (k2 : SV × Unit → ER) =>
  strings_makeASCIISet_p1 K a0 k2 s3 x1) N ((.int .i64 0), ()))
theorem strings_makeASCIISet_ee (C : Cal) (N : Nat) (a0 : SV) (K : SV → ER) : eBody Tryz.prog C N Tryz.f251 (Tryz.f251.body.getD .skip) strings_makeASCIISet_ea [a0] K = strings_makeASCIISet_e C N a0 K := by kernel_rfl
noncomputable def l251 : LeafT := fun C N args K => match args with
  | [a0] => strings_makeASCIISet_e C N a0 K
  | _ => eF
theorem lok251 : LeafOk Tryz.prog 251 l251 := ⟨Tryz.f251, Tryz.f251.body.getD .skip, strings_makeASCIISet_ea, Tryz.func251, by kernel_rfl, Tryz.call251, fun C N args K H e => by
  unfold l251 at e
  split at e
  · rw [strings_makeASCIISet_ee]; exact e
  · exact eF_no e⟩

/- (*strings.asciiSet).contains -/
def strings_asciiSet_contains_ea : Ann := .two (.none) (.two (.none) (.none))
noncomputable def strings_asciiSet_contains_e (C : Cal) (N : Nat) (a0 a1 : SV) (K : SV → ER) : ER :=
  eNilCk a0 fun x1 => eIndexAddrS Tryz.prog 248 x1 a1 fun x2 => eLoad Tryz.prog 4 x2 fun x3 => K x3
theorem strings_asciiSet_contains_ee (C : Cal) (N : Nat) (a0 a1 : SV) (K : SV → ER) : eBody Tryz.prog C N Tryz.f252 (Tryz.f252.body.getD .skip) strings_asciiSet_contains_ea [a0, a1] K = strings_asciiSet_contains_e C N a0 a1 K := by kernel_rfl
noncomputable def l252 : LeafT := fun C N args K => match args with
  | [a0, a1] => strings_asciiSet_contains_e C N a0 a1 K
  | _ => eF
theorem lok252 : LeafOk Tryz.prog 252 l252 := ⟨Tryz.f252, Tryz.f252.body.getD .skip, strings_asciiSet_contains_ea, Tryz.func252, by kernel_rfl, Tryz.call252, fun C N args K H e => by
  unfold l252 at e
  split at e
  · rw [strings_asciiSet_contains_ee]; exact e
  · exact eF_no e⟩

/- slices.Reverse[[]string,string] -/
def slices_Reverse_string_string_ea : Ann := .two (.none) (.sub (.loop [(2, .any), (3, .any)] (.two (.two (.none) (.two (.none) (.none))) (.two (.sub (.ord [0, 1, 2, 3, 4, 5, 6, 8, 9, 10, 7, 11, 12, 13, 14, 15])) (.none)))))
noncomputable def slices_Reverse_string_string_p0 (a0 : SV) (k3 : SV × SV × Unit → ER) (s4 : SV × SV × Unit) : ER :=
  eIndexAddrS Tryz.prog 25 a0 s4.2.1 fun x6 => eIndexAddrS Tryz.prog 25 a0 s4.1 fun x7 => eLoad Tryz.prog 9 x6 fun x8 => eLoad Tryz.prog 9 x7 fun x9 => eIndexAddrS Tryz.prog 25 a0 s4.1 fun x10 => eStore Tryz.prog 9 x10 x8 <| eIndexAddrS Tryz.prog 25 a0 s4.2.1 fun x11 => eStore Tryz.prog 9 x11 x9 <| eBin Tryz.prog .add 3 false s4.1 (.int .i64 1) fun x12 => eBin Tryz.prog .sub 3 false s4.2.1 (.int .i64 1) fun x13 => eHas .any x12 (eHas .any x13 (k3 (x12, x13, ())))
noncomputable def slices_Reverse_string_string_e (C : Cal) (N : Nat) (a0 : SV) (K : SV → ER) : ER :=
  eLenS Tryz.prog [25] [a0] fun x1 => eBin Tryz.prog .sub 3 false x1 (.int .i64 1) fun x2 => eHas .any (.int .i64 0) (eHas .any x2 (eIter (σ := SV × SV × Unit) (fun (s4 : SV × SV × Unit) (k3 : SV × SV × Unit → ER) =>
  eBin Tryz.prog .lss 3 false s4.1 s4.2.1 fun x5 => eIfV x5
  (slices_Reverse_string_string_p0 a0 k3 s4)
  (K (.tup []))) N ((.int .i64 0), x2, ())))
theorem slices_Reverse_string_string_ee (C : Cal) (N : Nat) (a0 : SV) (K : SV → ER) : eBody Tryz.prog C N Tryz.f253 (Tryz.f253.body.getD .skip) slices_Reverse_string_string_ea [a0] K = slices_Reverse_string_string_e C N a0 K := by kernel_rfl
noncomputable def l253 : LeafT := fun C N args K => match args with
  | [a0] => slices_Reverse_string_string_e C N a0 K
  | _ => eF
theorem lok253 : LeafOk Tryz.prog 253 l253 := ⟨Tryz.f253, Tryz.f253.body.getD .skip, slices_Reverse_string_string_ea, Tryz.func253, by kernel_rfl, Tryz.call253, fun C N args K H e => by
  unfold l253 at e
  split at e
  · rw [slices_Reverse_string_string_ee]; exact e
  · exact eF_no e⟩

/- slices.Reverse[[]int,int] -/
def slices_Reverse_int_int_ea : Ann := .two (.none) (.sub (.loop [(2, .any), (3, .any)] (.two (.two (.none) (.two (.none) (.none))) (.two (.sub (.ord [0, 1, 2, 3, 4, 5, 6, 8, 9, 10, 7, 11, 12, 13, 14, 15])) (.none)))))
noncomputable def slices_Reverse_int_int_p0 (a0 : SV) (k3 : SV × SV × Unit → ER) (s4 : SV × SV × Unit) : ER :=
  eIndexAddrS Tryz.prog 38 a0 s4.2.1 fun x6 => eIndexAddrS Tryz.prog 38 a0 s4.1 fun x7 => eLoad Tryz.prog 3 x6 fun x8 => eLoad Tryz.prog 3 x7 fun x9 => eIndexAddrS Tryz.prog 38 a0 s4.1 fun x10 => eStore Tryz.prog 3 x10 x8 <| eIndexAddrS Tryz.prog 38 a0 s4.2.1 fun x11 => eStore Tryz.prog 3 x11 x9 <| eBin Tryz.prog .add 3 false s4.1 (.int .i64 1) fun x12 => eBin Tryz.prog .sub 3 false s4.2.1 (.int .i64 1) fun x13 => eHas .any x12 (eHas .any x13 (k3 (x12, x13, ())))
noncomputable def slices_Reverse_int_int_e (C : Cal) (N : Nat) (a0 : SV) (K : SV → ER) : ER :=
  eLenS Tryz.prog [38] [a0] fun x1 => eBin Tryz.prog .sub 3 false x1 (.int .i64 1) fun x2 => eHas .any (.int .i64 0) (eHas .any x2 (eIter (σ := SV × SV × Unit) (fun (s4 : SV × SV × Unit) (k3 : SV × SV × Unit → ER) =>
  eBin Tryz.prog .lss 3 false s4.1 s4.2.1 fun x5 => eIfV x5
  (slices_Reverse_int_int_p0 a0 k3 s4)
  (K (.tup []))) N ((.int .i64 0), x2, ())))
theorem slices_Reverse_int_int_ee (C : Cal) (N : Nat) (a0 : SV) (K : SV → ER) : eBody Tryz.prog C N Tryz.f254 (Tryz.f254.body.getD .skip) slices_Reverse_int_int_ea [a0] K = slices_Reverse_int_int_e C N a0 K := by kernel_rfl
noncomputable def l254 : LeafT := fun C N args K => match args with
  | [a0] => slices_Reverse_int_int_e C N a0 K
  | _ => eF
theorem lok254 : LeafOk Tryz.prog 254 l254 := ⟨Tryz.f254, Tryz.f254.body.getD .skip, slices_Reverse_int_int_ea, Tryz.func254, by kernel_rfl, Tryz.call254, fun C N args K H e => by
  unfold l254 at e
  split at e
  · rw [slices_Reverse_int_int_ee]; exact e
  · exact eF_no e⟩

/- internal/bytealg.hashStr[string] -/
def internal_bytealg_hashStr_string_ea : Ann := .two (.none) (.two (.none) (.two (.two (.none) (.sub (.loop [(4, .any), (5, .any)] (.two (.two (.none) (.two (.none) (.none))) (.two (.sub (.none)) (.none)))))) (.two (.none) (.two (.two (.none) (.sub (.loop [(6, .any), (7, .any), (8, .any)] (.two (.two (.none) (.two (.none) (.none))) (.two (.sub (.join (.two (.none) (.two (.none) (.none))) (.none) [(6, .any)])) (.none)))))) (.two (.none) (.none))))))
noncomputable def internal_bytealg_hashStr_string_p0 (a0 : SV) (k1 : SV × SV × Unit → ER) (s2 : SV × SV × Unit) : ER :=
  eBin Tryz.prog .mul 229 false s2.1 (.int .u32 16777619) fun x5 => eIndexS Tryz.prog 9 a0 s2.2.1 fun x6 => eConvS Tryz.prog 5 229 x6 fun x7 => eBin Tryz.prog .add 229 false x5 x7 fun x8 => eBin Tryz.prog .add 3 false s2.2.1 (.int .i64 1) fun x9 => eHas .any x8 (eHas .any x9 (k1 (x8, x9, ())))
noncomputable def internal_bytealg_hashStr_string_p1 (k14 : SV × Unit → ER) (s12 : SV × SV × SV × Unit) : ER :=
  eBin Tryz.prog .and 3 false s12.2.2.1 (.int .i64 1) fun x16 => eBin Tryz.prog .neq 3 false x16 (.int .i64 0) fun x17 => eIfV x17
  (eBin Tryz.prog .mul 229 false s12.1 s12.2.1 fun x18 => eHas .any x18 (k14 (x18, ())))
  (eHas .any s12.1 (k14 (s12.1, ())))
noncomputable def internal_bytealg_hashStr_string_p2 (k11 : SV × SV × SV × Unit → ER) (s12 : SV × SV × SV × Unit) : ER :=
  eJoinC (σ := SV × Unit) (fun (k14 : SV × Unit → ER) =>
  internal_bytealg_hashStr_string_p1 k14 s12) fun (s15 : SV × Unit) =>
  eBin Tryz.prog .mul 229 false s12.2.1 s12.2.1 fun x19 => eBin Tryz.prog .shr 3 false s12.2.2.1 (.int .u64 1) fun x20 => eHas .any s15.1 (eHas .any x19 (eHas .any x20 (k11 (s15.1, x19, x20, ()))))
noncomputable def internal_bytealg_hashStr_string_p3 (K : SV → ER) (N : Nat) (a0 : SV) (s2 : SV × SV × Unit) : ER :=
  eLenS Tryz.prog [9] [a0] fun x10 => eHas .any (.int .u32 1) (eHas .any (.int .u32 16777619) (eHas .any x10 (eIter (σ := SV × SV × SV × Unit) (fun (s12 : SV × SV × SV × Unit) (k11 : SV × SV × SV × Unit → ER) =>
  eBin Tryz.prog .gtr 3 false s12.2.2.1 (.int .i64 0) fun x13 => eIfV x13
  (internal_bytealg_hashStr_string_p2 k11 s12)
  (K (.tup [s2.1, s12.1]))) N ((.int .u32 1), (.int .u32 16777619), x10, ()))))
noncomputable def internal_bytealg_hashStr_string_e (C : Cal) (N : Nat) (a0 : SV) (K : SV → ER) : ER :=
  eHas .any (.int .u32 0) (eHas .any (.int .i64 0) (eIter (σ := SV × SV × Unit) (fun (s2 : SV × SV × Unit) (k1 : SV × SV × Unit → ER) =>
  eLenS Tryz.prog [9] [a0] fun x3 => eBin Tryz.prog .lss 3 false s2.2.1 x3 fun x4 => eIfV x4
  (internal_bytealg_hashStr_string_p0 a0 k1 s2)
  (internal_bytealg_hashStr_string_p3 K N a0 s2)) N ((.int .u32 0), (.int .i64 0), ())))
theorem internal_bytealg_hashStr_string_ee (C : Cal) (N : Nat) (a0 : SV) (K : SV → ER) : eBody Tryz.prog C N Tryz.f256 (Tryz.f256.body.getD .skip) internal_bytealg_hashStr_string_ea [a0] K = internal_bytealg_hashStr_string_e C N a0 K := by kernel_rfl
noncomputable def l256 : LeafT := fun C N args K => match args with
  | [a0] => internal_bytealg_hashStr_string_e C N a0 K
  | _ => eF
theorem lok256 : LeafOk Tryz.prog 256 l256 := ⟨Tryz.f256, Tryz.f256.body.getD .skip, internal_bytealg_hashStr_string_ea, Tryz.func256, by kernel_rfl, Tryz.call256, fun C N args K H e => by
  unfold l256 at e
  split at e
  · rw [internal_bytealg_hashStr_string_ee]; exact e
  · exact eF_no e⟩

/- internal/strconv.small -/
def internal_strconv_small_ea : Ann := .two (.none) (.two (.two (.none) (.two (.two (.none) (.none)) (.none))) (.two (.none) (.none)))
noncomputable def internal_strconv_small_p0 (K : SV → ER) (a0 : SV) : ER :=
  eBin Tryz.prog .add 3 false a0 (.int .i64 1) fun x2 => eSliceS Tryz.prog 9 (.str [48, 49, 50, 51, 52, 53, 54, 55, 56, 57, 97, 98, 99, 100, 101, 102, 103, 104, 105, 106, 107, 108, 109, 110, 111, 112, 113, 114, 115, 116, 117, 118, 119, 120, 121, 122]) (some (.v a0)) (some (.v x2)) none fun x3 => K x3
noncomputable def internal_strconv_small_p1 (K : SV → ER) (x4 : SV) (x6 : SV) : ER :=
  eSliceS Tryz.prog 9 (.str [48, 48, 48, 49, 48, 50, 48, 51, 48, 52, 48, 53, 48, 54, 48, 55, 48, 56, 48, 57, 49, 48, 49, 49, 49, 50, 49, 51, 49, 52, 49, 53, 49, 54, 49, 55, 49, 56, 49, 57, 50, 48, 50, 49, 50, 50, 50, 51, 50, 52, 50, 53, 50, 54, 50, 55, 50, 56, 50, 57, 51, 48, 51, 49, 51, 50, 51, 51, 51, 52, 51, 53, 51, 54, 51, 55, 51, 56, 51, 57, 52, 48, 52, 49, 52, 50, 52, 51, 52, 52, 52, 53, 52, 54, 52, 55, 52, 56, 52, 57, 53, 48, 53, 49, 53, 50, 53, 51, 53, 52, 53, 53, 53, 54, 53, 55, 53, 56, 53, 57, 54, 48, 54, 49, 54, 50, 54, 51, 54, 52, 54, 53, 54, 54, 54, 55, 54, 56, 54, 57, 55, 48, 55, 49, 55, 50, 55, 51, 55, 52, 55, 53, 55, 54, 55, 55, 55, 56, 55, 57, 56, 48, 56, 49, 56, 50, 56, 51, 56, 52, 56, 53, 56, 54, 56, 55, 56, 56, 56, 57, 57, 48, 57, 49, 57, 50, 57, 51, 57, 52, 57, 53, 57, 54, 57, 55, 57, 56, 57, 57]) (some (.v x4)) (some (.v x6)) none fun x7 => K x7
noncomputable def internal_strconv_small_e (C : Cal) (N : Nat) (a0 : SV) (K : SV → ER) : ER :=
  eBin Tryz.prog .lss 3 false a0 (.int .i64 10) fun x1 => eIfV x1
  (internal_strconv_small_p0 K a0)
  (eBin Tryz.prog .mul 3 false a0 (.int .i64 2) fun x4 => eBin Tryz.prog .mul 3 false a0 (.int .i64 2) fun x5 => eBin Tryz.prog .add 3 false x5 (.int .i64 2) fun x6 => internal_strconv_small_p1 K x4 x6)
theorem internal_strconv_small_ee (C : Cal) (N : Nat) (a0 : SV) (K : SV → ER) : eBody Tryz.prog C N Tryz.f257 (Tryz.f257.body.getD .skip) internal_strconv_small_ea [a0] K = internal_strconv_small_e C N a0 K := by kernel_rfl
noncomputable def l257 : LeafT := fun C N args K => match args with
  | [a0] => internal_strconv_small_e C N a0 K
  | _ => eF
theorem lok257 : LeafOk Tryz.prog 257 l257 := ⟨Tryz.f257, Tryz.f257.body.getD .skip, internal_strconv_small_ea, Tryz.func257, by kernel_rfl, Tryz.call257, fun C N args K H e => by
  unfold l257 at e
  split at e
  · rw [internal_strconv_small_ee]; exact e
  · exact eF_no e⟩

/- internal/strconv.numDigits -/
def internal_strconv_numDigits_ea : Ann := .two (.none) (.two (.none) (.two (.none) (.none)))
noncomputable def internal_strconv_numDigits_e (C : Cal) (N : Nat) (a0 : SV) (K : SV → ER) : ER :=
  eCallR Tryz.prog C 267 [a0] 3 fun x1 => eCallR Tryz.prog C 266 [x1] 3 fun x2 => eF
theorem internal_strconv_numDigits_ee (C : Cal) (N : Nat) (a0 : SV) (K : SV → ER) : eBody Tryz.prog C N Tryz.f258 (Tryz.f258.body.getD .skip) internal_strconv_numDigits_ea [a0] K = internal_strconv_numDigits_e C N a0 K := by kernel_rfl
noncomputable def l258 : LeafT := fun C N args K => match args with
  | [a0] => internal_strconv_numDigits_e C N a0 K
  | _ => eF
theorem lok258 : LeafOk Tryz.prog 258 l258 := ⟨Tryz.f258, Tryz.f258.body.getD .skip, internal_strconv_numDigits_ea, Tryz.func258, by kernel_rfl, Tryz.call258, fun C N args K H e => by
  unfold l258 at e
  split at e
  · rw [internal_strconv_numDigits_ee]; exact e
  · exact eF_no e⟩

/- internal/strconv.formatBase10 -/
def internal_strconv_formatBase10_ea : Ann := .two (.none) (.two (.sub (.loop [(1, .any), (4, .any)] (.two (.two (.none) (.two (.none) (.none))) (.sub (.two (.none) (.two (.none) (.two (.none) (.two (.none) (.two (.none) (.two (.ord [0, 1, 2, 3, 4, 5, 6, 7, 8, 9, 10, 11, 12, 13, 14]) (.two (.ord [0, 1, 2, 3, 4, 5, 6, 7, 8, 9, 10, 11, 12, 13, 14]) (.two (.ord [0, 1, 2, 3, 4, 5, 6, 7, 8, 9, 10, 11, 12, 13, 14]) (.two (.ord [0, 1, 2, 3, 4, 5, 6, 7, 8, 9, 10, 11, 12, 13, 14]) (.none)))))))))))))) (.two (.none) (.join (.two (.none) (.two (.two (.none) (.two (.none) (.two (.none) (.two (.ord [0, 1, 2, 3, 4, 5, 6, 7, 8, 9, 10, 11, 12, 13, 14]) (.two (.ord [0, 1, 2, 3, 4, 5, 6, 7, 8, 9, 10, 11, 12, 13, 14]) (.none)))))) (.none))) (.join (.two (.none) (.two (.two (.none) (.two (.none) (.two (.ord [0, 1, 2, 3, 4, 5, 6, 7, 8, 9, 10, 11, 12, 13, 14]) (.none)))) (.none))) (.two (.none) (.two (.none) (.none))) [(4, .any), (12, .any)]) [(4, .any), (12, .any)])))
noncomputable def internal_strconv_formatBase10_p0 (a0 : SV) (k2 : SV × SV × Unit → ER) (s3 : SV × SV × Unit) (x7 : SV) (x15 : SV) (x39 : SV) (x40 : SV) (x42 : SV) : ER :=
  eIndexS Tryz.prog 9 (.str [48, 48, 48, 49, 48, 50, 48, 51, 48, 52, 48, 53, 48, 54, 48, 55, 48, 56, 48, 57, 49, 48, 49, 49, 49, 50, 49, 51, 49, 52, 49, 53, 49, 54, 49, 55, 49, 56, 49, 57, 50, 48, 50, 49, 50, 50, 50, 51, 50, 52, 50, 53, 50, 54, 50, 55, 50, 56, 50, 57, 51, 48, 51, 49, 51, 50, 51, 51, 51, 52, 51, 53, 51, 54, 51, 55, 51, 56, 51, 57, 52, 48, 52, 49, 52, 50, 52, 51, 52, 52, 52, 53, 52, 54, 52, 55, 52, 56, 52, 57, 53, 48, 53, 49, 53, 50, 53, 51, 53, 52, 53, 53, 53, 54, 53, 55, 53, 56, 53, 57, 54, 48, 54, 49, 54, 50, 54, 51, 54, 52, 54, 53, 54, 54, 54, 55, 54, 56, 54, 57, 55, 48, 55, 49, 55, 50, 55, 51, 55, 52, 55, 53, 55, 54, 55, 55, 55, 56, 55, 57, 56, 48, 56, 49, 56, 50, 56, 51, 56, 52, 56, 53, 56, 54, 56, 55, 56, 56, 56, 57, 57, 48, 57, 49, 57, 50, 57, 51, 57, 52, 57, 53, 57, 54, 57, 55, 57, 56, 57, 57]) x15 fun x43 => eIndexAddrS Tryz.prog 207 a0 x39 fun x44 => eStore Tryz.prog 5 x44 x42 <| eIndexAddrS Tryz.prog 207 a0 x40 fun x45 => eStore Tryz.prog 5 x45 x43 <| eBin Tryz.prog .sub 3 false s3.2.1 (.int .i64 8) fun x46 => eHas .any x7 (eHas .any x46 (k2 (x7, x46, ())))
noncomputable def internal_strconv_formatBase10_p1 (a0 : SV) (k2 : SV × SV × Unit → ER) (s3 : SV × SV × Unit) (x7 : SV) (x15 : SV) (x39 : SV) (x40 : SV) (x41 : SV) : ER :=
  eIndexS Tryz.prog 9 (.str [48, 48, 48, 49, 48, 50, 48, 51, 48, 52, 48, 53, 48, 54, 48, 55, 48, 56, 48, 57, 49, 48, 49, 49, 49, 50, 49, 51, 49, 52, 49, 53, 49, 54, 49, 55, 49, 56, 49, 57, 50, 48, 50, 49, 50, 50, 50, 51, 50, 52, 50, 53, 50, 54, 50, 55, 50, 56, 50, 57, 51, 48, 51, 49, 51, 50, 51, 51, 51, 52, 51, 53, 51, 54, 51, 55, 51, 56, 51, 57, 52, 48, 52, 49, 52, 50, 52, 51, 52, 52, 52, 53, 52, 54, 52, 55, 52, 56, 52, 57, 53, 48, 53, 49, 53, 50, 53, 51, 53, 52, 53, 53, 53, 54, 53, 55, 53, 56, 53, 57, 54, 48, 54, 49, 54, 50, 54, 51, 54, 52, 54, 53, 54, 54, 54, 55, 54, 56, 54, 57, 55, 48, 55, 49, 55, 50, 55, 51, 55, 52, 55, 53, 55, 54, 55, 55, 55, 56, 55, 57, 56, 48, 56, 49, 56, 50, 56, 51, 56, 52, 56, 53, 56, 54, 56, 55, 56, 56, 56, 57, 57, 48, 57, 49, 57, 50, 57, 51, 57, 52, 57, 53, 57, 54, 57, 55, 57, 56, 57, 57]) x41 fun x42 => internal_strconv_formatBase10_p0 a0 k2 s3 x7 x15 x39 x40 x42
noncomputable def internal_strconv_formatBase10_p2 (a0 : SV) (k2 : SV × SV × Unit → ER) (s3 : SV × SV × Unit) (x7 : SV) (x15 : SV) (x17 : SV) (x32 : SV) (x33 : SV) (x35 : SV) : ER :=
  eIndexS Tryz.prog 9 (.str [48, 48, 48, 49, 48, 50, 48, 51, 48, 52, 48, 53, 48, 54, 48, 55, 48, 56, 48, 57, 49, 48, 49, 49, 49, 50, 49, 51, 49, 52, 49, 53, 49, 54, 49, 55, 49, 56, 49, 57, 50, 48, 50, 49, 50, 50, 50, 51, 50, 52, 50, 53, 50, 54, 50, 55, 50, 56, 50, 57, 51, 48, 51, 49, 51, 50, 51, 51, 51, 52, 51, 53, 51, 54, 51, 55, 51, 56, 51, 57, 52, 48, 52, 49, 52, 50, 52, 51, 52, 52, 52, 53, 52, 54, 52, 55, 52, 56, 52, 57, 53, 48, 53, 49, 53, 50, 53, 51, 53, 52, 53, 53, 53, 54, 53, 55, 53, 56, 53, 57, 54, 48, 54, 49, 54, 50, 54, 51, 54, 52, 54, 53, 54, 54, 54, 55, 54, 56, 54, 57, 55, 48, 55, 49, 55, 50, 55, 51, 55, 52, 55, 53, 55, 54, 55, 55, 55, 56, 55, 57, 56, 48, 56, 49, 56, 50, 56, 51, 56, 52, 56, 53, 56, 54, 56, 55, 56, 56, 56, 57, 57, 48, 57, 49, 57, 50, 57, 51, 57, 52, 57, 53, 57, 54, 57, 55, 57, 56, 57, 57]) x17 fun x36 => eIndexAddrS Tryz.prog 207 a0 x32 fun x37 => eStore Tryz.prog 5 x37 x35 <| eIndexAddrS Tryz.prog 207 a0 x33 fun x38 => eStore Tryz.prog 5 x38 x36 <| eBin Tryz.prog .sub 3 false s3.2.1 (.int .i64 7) fun x39 => eBin Tryz.prog .sub 3 false s3.2.1 (.int .i64 8) fun x40 => eBin Tryz.prog .add 229 false x15 (.int .u32 1) fun x41 => internal_strconv_formatBase10_p1 a0 k2 s3 x7 x15 x39 x40 x41
noncomputable def internal_strconv_formatBase10_p3 (a0 : SV) (k2 : SV × SV × Unit → ER) (s3 : SV × SV × Unit) (x7 : SV) (x15 : SV) (x17 : SV) (x32 : SV) (x33 : SV) (x34 : SV) : ER :=
  eIndexS Tryz.prog 9 (.str [48, 48, 48, 49, 48, 50, 48, 51, 48, 52, 48, 53, 48, 54, 48, 55, 48, 56, 48, 57, 49, 48, 49, 49, 49, 50, 49, 51, 49, 52, 49, 53, 49, 54, 49, 55, 49, 56, 49, 57, 50, 48, 50, 49, 50, 50, 50, 51, 50, 52, 50, 53, 50, 54, 50, 55, 50, 56, 50, 57, 51, 48, 51, 49, 51, 50, 51, 51, 51, 52, 51, 53, 51, 54, 51, 55, 51, 56, 51, 57, 52, 48, 52, 49, 52, 50, 52, 51, 52, 52, 52, 53, 52, 54, 52, 55, 52, 56, 52, 57, 53, 48, 53, 49, 53, 50, 53, 51, 53, 52, 53, 53, 53, 54, 53, 55, 53, 56, 53, 57, 54, 48, 54, 49, 54, 50, 54, 51, 54, 52, 54, 53, 54, 54, 54, 55, 54, 56, 54, 57, 55, 48, 55, 49, 55, 50, 55, 51, 55, 52, 55, 53, 55, 54, 55, 55, 55, 56, 55, 57, 56, 48, 56, 49, 56, 50, 56, 51, 56, 52, 56, 53, 56, 54, 56, 55, 56, 56, 56, 57, 57, 48, 57, 49, 57, 50, 57, 51, 57, 52, 57, 53, 57, 54, 57, 55, 57, 56, 57, 57]) x34 fun x35 => internal_strconv_formatBase10_p2 a0 k2 s3 x7 x15 x17 x32 x33 x35
noncomputable def internal_strconv_formatBase10_p4 (a0 : SV) (k2 : SV × SV × Unit → ER) (s3 : SV × SV × Unit) (x7 : SV) (x11 : SV) (x15 : SV) (x17 : SV) (x25 : SV) (x26 : SV) (x28 : SV) : ER :=
  eIndexS Tryz.prog 9 (.str [48, 48, 48, 49, 48, 50, 48, 51, 48, 52, 48, 53, 48, 54, 48, 55, 48, 56, 48, 57, 49, 48, 49, 49, 49, 50, 49, 51, 49, 52, 49, 53, 49, 54, 49, 55, 49, 56, 49, 57, 50, 48, 50, 49, 50, 50, 50, 51, 50, 52, 50, 53, 50, 54, 50, 55, 50, 56, 50, 57, 51, 48, 51, 49, 51, 50, 51, 51, 51, 52, 51, 53, 51, 54, 51, 55, 51, 56, 51, 57, 52, 48, 52, 49, 52, 50, 52, 51, 52, 52, 52, 53, 52, 54, 52, 55, 52, 56, 52, 57, 53, 48, 53, 49, 53, 50, 53, 51, 53, 52, 53, 53, 53, 54, 53, 55, 53, 56, 53, 57, 54, 48, 54, 49, 54, 50, 54, 51, 54, 52, 54, 53, 54, 54, 54, 55, 54, 56, 54, 57, 55, 48, 55, 49, 55, 50, 55, 51, 55, 52, 55, 53, 55, 54, 55, 55, 55, 56, 55, 57, 56, 48, 56, 49, 56, 50, 56, 51, 56, 52, 56, 53, 56, 54, 56, 55, 56, 56, 56, 57, 57, 48, 57, 49, 57, 50, 57, 51, 57, 52, 57, 53, 57, 54, 57, 55, 57, 56, 57, 57]) x11 fun x29 => eIndexAddrS Tryz.prog 207 a0 x25 fun x30 => eStore Tryz.prog 5 x30 x28 <| eIndexAddrS Tryz.prog 207 a0 x26 fun x31 => eStore Tryz.prog 5 x31 x29 <| eBin Tryz.prog .sub 3 false s3.2.1 (.int .i64 5) fun x32 => eBin Tryz.prog .sub 3 false s3.2.1 (.int .i64 6) fun x33 => eBin Tryz.prog .add 229 false x17 (.int .u32 1) fun x34 => internal_strconv_formatBase10_p3 a0 k2 s3 x7 x15 x17 x32 x33 x34
noncomputable def internal_strconv_formatBase10_p5 (a0 : SV) (k2 : SV × SV × Unit → ER) (s3 : SV × SV × Unit) (x7 : SV) (x11 : SV) (x15 : SV) (x17 : SV) (x25 : SV) (x26 : SV) (x27 : SV) : ER :=
  eIndexS Tryz.prog 9 (.str [48, 48, 48, 49, 48, 50, 48, 51, 48, 52, 48, 53, 48, 54, 48, 55, 48, 56, 48, 57, 49, 48, 49, 49, 49, 50, 49, 51, 49, 52, 49, 53, 49, 54, 49, 55, 49, 56, 49, 57, 50, 48, 50, 49, 50, 50, 50, 51, 50, 52, 50, 53, 50, 54, 50, 55, 50, 56, 50, 57, 51, 48, 51, 49, 51, 50, 51, 51, 51, 52, 51, 53, 51, 54, 51, 55, 51, 56, 51, 57, 52, 48, 52, 49, 52, 50, 52, 51, 52, 52, 52, 53, 52, 54, 52, 55, 52, 56, 52, 57, 53, 48, 53, 49, 53, 50, 53, 51, 53, 52, 53, 53, 53, 54, 53, 55, 53, 56, 53, 57, 54, 48, 54, 49, 54, 50, 54, 51, 54, 52, 54, 53, 54, 54, 54, 55, 54, 56, 54, 57, 55, 48, 55, 49, 55, 50, 55, 51, 55, 52, 55, 53, 55, 54, 55, 55, 55, 56, 55, 57, 56, 48, 56, 49, 56, 50, 56, 51, 56, 52, 56, 53, 56, 54, 56, 55, 56, 56, 56, 57, 57, 48, 57, 49, 57, 50, 57, 51, 57, 52, 57, 53, 57, 54, 57, 55, 57, 56, 57, 57]) x27 fun x28 => internal_strconv_formatBase10_p4 a0 k2 s3 x7 x11 x15 x17 x25 x26 x28
noncomputable def internal_strconv_formatBase10_p6 (a0 : SV) (k2 : SV × SV × Unit → ER) (s3 : SV × SV × Unit) (x7 : SV) (x11 : SV) (x13 : SV) (x15 : SV) (x17 : SV) (x18 : SV) (x19 : SV) (x21 : SV) : ER :=
  eIndexS Tryz.prog 9 (.str [48, 48, 48, 49, 48, 50, 48, 51, 48, 52, 48, 53, 48, 54, 48, 55, 48, 56, 48, 57, 49, 48, 49, 49, 49, 50, 49, 51, 49, 52, 49, 53, 49, 54, 49, 55, 49, 56, 49, 57, 50, 48, 50, 49, 50, 50, 50, 51, 50, 52, 50, 53, 50, 54, 50, 55, 50, 56, 50, 57, 51, 48, 51, 49, 51, 50, 51, 51, 51, 52, 51, 53, 51, 54, 51, 55, 51, 56, 51, 57, 52, 48, 52, 49, 52, 50, 52, 51, 52, 52, 52, 53, 52, 54, 52, 55, 52, 56, 52, 57, 53, 48, 53, 49, 53, 50, 53, 51, 53, 52, 53, 53, 53, 54, 53, 55, 53, 56, 53, 57, 54, 48, 54, 49, 54, 50, 54, 51, 54, 52, 54, 53, 54, 54, 54, 55, 54, 56, 54, 57, 55, 48, 55, 49, 55, 50, 55, 51, 55, 52, 55, 53, 55, 54, 55, 55, 55, 56, 55, 57, 56, 48, 56, 49, 56, 50, 56, 51, 56, 52, 56, 53, 56, 54, 56, 55, 56, 56, 56, 57, 57, 48, 57, 49, 57, 50, 57, 51, 57, 52, 57, 53, 57, 54, 57, 55, 57, 56, 57, 57]) x13 fun x22 => eIndexAddrS Tryz.prog 207 a0 x18 fun x23 => eStore Tryz.prog 5 x23 x21 <| eIndexAddrS Tryz.prog 207 a0 x19 fun x24 => eStore Tryz.prog 5 x24 x22 <| eBin Tryz.prog .sub 3 false s3.2.1 (.int .i64 3) fun x25 => eBin Tryz.prog .sub 3 false s3.2.1 (.int .i64 4) fun x26 => eBin Tryz.prog .add 229 false x11 (.int .u32 1) fun x27 => internal_strconv_formatBase10_p5 a0 k2 s3 x7 x11 x15 x17 x25 x26 x27
noncomputable def internal_strconv_formatBase10_p7 (a0 : SV) (k2 : SV × SV × Unit → ER) (s3 : SV × SV × Unit) (x7 : SV) (x11 : SV) (x13 : SV) (x15 : SV) (x17 : SV) (x18 : SV) (x19 : SV) (x20 : SV) : ER :=
  eIndexS Tryz.prog 9 (.str [48, 48, 48, 49, 48, 50, 48, 51, 48, 52, 48, 53, 48, 54, 48, 55, 48, 56, 48, 57, 49, 48, 49, 49, 49, 50, 49, 51, 49, 52, 49, 53, 49, 54, 49, 55, 49, 56, 49, 57, 50, 48, 50, 49, 50, 50, 50, 51, 50, 52, 50, 53, 50, 54, 50, 55, 50, 56, 50, 57, 51, 48, 51, 49, 51, 50, 51, 51, 51, 52, 51, 53, 51, 54, 51, 55, 51, 56, 51, 57, 52, 48, 52, 49, 52, 50, 52, 51, 52, 52, 52, 53, 52, 54, 52, 55, 52, 56, 52, 57, 53, 48, 53, 49, 53, 50, 53, 51, 53, 52, 53, 53, 53, 54, 53, 55, 53, 56, 53, 57, 54, 48, 54, 49, 54, 50, 54, 51, 54, 52, 54, 53, 54, 54, 54, 55, 54, 56, 54, 57, 55, 48, 55, 49, 55, 50, 55, 51, 55, 52, 55, 53, 55, 54, 55, 55, 55, 56, 55, 57, 56, 48, 56, 49, 56, 50, 56, 51, 56, 52, 56, 53, 56, 54, 56, 55, 56, 56, 56, 57, 57, 48, 57, 49, 57, 50, 57, 51, 57, 52, 57, 53, 57, 54, 57, 55, 57, 56, 57, 57]) x20 fun x21 => internal_strconv_formatBase10_p6 a0 k2 s3 x7 x11 x13 x15 x17 x18 x19 x21
noncomputable def internal_strconv_formatBase10_p8 (a0 : SV) (k2 : SV × SV × Unit → ER) (s3 : SV × SV × Unit) (x7 : SV) (x8 : SV) (x11 : SV) (x12 : SV) : ER :=
  eBin Tryz.prog .mul 229 false x12 (.int .u32 2) fun x13 => eBin Tryz.prog .quo 229 false x8 (.int .u32 100) fun x14 => eBin Tryz.prog .mul 229 false x14 (.int .u32 2) fun x15 => eBin Tryz.prog .rem 229 false x8 (.int .u32 100) fun x16 => eBin Tryz.prog .mul 229 false x16 (.int .u32 2) fun x17 => eBin Tryz.prog .sub 3 false s3.2.1 (.int .i64 1) fun x18 => eBin Tryz.prog .sub 3 false s3.2.1 (.int .i64 2) fun x19 => eBin Tryz.prog .add 229 false x13 (.int .u32 1) fun x20 => internal_strconv_formatBase10_p7 a0 k2 s3 x7 x11 x13 x15 x17 x18 x19 x20
noncomputable def internal_strconv_formatBase10_p9 (a0 : SV) (k2 : SV × SV × Unit → ER) (s3 : SV × SV × Unit) : ER :=
  eBin Tryz.prog .rem 42 false s3.1 (.int .u64 100000000) fun x5 => eConvS Tryz.prog 42 229 x5 fun x6 => eBin Tryz.prog .quo 42 false s3.1 (.int .u64 100000000) fun x7 => eBin Tryz.prog .quo 229 false x6 (.int .u32 10000) fun x8 => eBin Tryz.prog .rem 229 false x6 (.int .u32 10000) fun x9 => eBin Tryz.prog .quo 229 false x9 (.int .u32 100) fun x10 => eBin Tryz.prog .mul 229 false x10 (.int .u32 2) fun x11 => eBin Tryz.prog .rem 229 false x9 (.int .u32 100) fun x12 => internal_strconv_formatBase10_p8 a0 k2 s3 x7 x8 x11 x12
noncomputable def internal_strconv_formatBase10_p10 (a0 : SV) (s3 : SV × SV × Unit) (k48 : SV × SV × Unit → ER) (x52 : SV) (x54 : SV) (x64 : SV) (x65 : SV) (x67 : SV) : ER :=
  eIndexS Tryz.prog 9 (.str [48, 48, 48, 49, 48, 50, 48, 51, 48, 52, 48, 53, 48, 54, 48, 55, 48, 56, 48, 57, 49, 48, 49, 49, 49, 50, 49, 51, 49, 52, 49, 53, 49, 54, 49, 55, 49, 56, 49, 57, 50, 48, 50, 49, 50, 50, 50, 51, 50, 52, 50, 53, 50, 54, 50, 55, 50, 56, 50, 57, 51, 48, 51, 49, 51, 50, 51, 51, 51, 52, 51, 53, 51, 54, 51, 55, 51, 56, 51, 57, 52, 48, 52, 49, 52, 50, 52, 51, 52, 52, 52, 53, 52, 54, 52, 55, 52, 56, 52, 57, 53, 48, 53, 49, 53, 50, 53, 51, 53, 52, 53, 53, 53, 54, 53, 55, 53, 56, 53, 57, 54, 48, 54, 49, 54, 50, 54, 51, 54, 52, 54, 53, 54, 54, 54, 55, 54, 56, 54, 57, 55, 48, 55, 49, 55, 50, 55, 51, 55, 52, 55, 53, 55, 54, 55, 55, 55, 56, 55, 57, 56, 48, 56, 49, 56, 50, 56, 51, 56, 52, 56, 53, 56, 54, 56, 55, 56, 56, 56, 57, 57, 48, 57, 49, 57, 50, 57, 51, 57, 52, 57, 53, 57, 54, 57, 55, 57, 56, 57, 57]) x54 fun x68 => eIndexAddrS Tryz.prog 207 a0 x64 fun x69 => eStore Tryz.prog 5 x69 x67 <| eIndexAddrS Tryz.prog 207 a0 x65 fun x70 => eStore Tryz.prog 5 x70 x68 <| eBin Tryz.prog .sub 3 false s3.2.1 (.int .i64 4) fun x71 => eHas .any x71 (eHas .any x52 (k48 (x71, x52, ())))
noncomputable def internal_strconv_formatBase10_p11 (a0 : SV) (s3 : SV × SV × Unit) (k48 : SV × SV × Unit → ER) (x52 : SV) (x54 : SV) (x64 : SV) (x65 : SV) (x66 : SV) : ER :=
  eIndexS Tryz.prog 9 (.str [48, 48, 48, 49, 48, 50, 48, 51, 48, 52, 48, 53, 48, 54, 48, 55, 48, 56, 48, 57, 49, 48, 49, 49, 49, 50, 49, 51, 49, 52, 49, 53, 49, 54, 49, 55, 49, 56, 49, 57, 50, 48, 50, 49, 50, 50, 50, 51, 50, 52, 50, 53, 50, 54, 50, 55, 50, 56, 50, 57, 51, 48, 51, 49, 51, 50, 51, 51, 51, 52, 51, 53, 51, 54, 51, 55, 51, 56, 51, 57, 52, 48, 52, 49, 52, 50, 52, 51, 52, 52, 52, 53, 52, 54, 52, 55, 52, 56, 52, 57, 53, 48, 53, 49, 53, 50, 53, 51, 53, 52, 53, 53, 53, 54, 53, 55, 53, 56, 53, 57, 54, 48, 54, 49, 54, 50, 54, 51, 54, 52, 54, 53, 54, 54, 54, 55, 54, 56, 54, 57, 55, 48, 55, 49, 55, 50, 55, 51, 55, 52, 55, 53, 55, 54, 55, 55, 55, 56, 55, 57, 56, 48, 56, 49, 56, 50, 56, 51, 56, 52, 56, 53, 56, 54, 56, 55, 56, 56, 56, 57, 57, 48, 57, 49, 57, 50, 57, 51, 57, 52, 57, 53, 57, 54, 57, 55, 57, 56, 57, 57]) x66 fun x67 => internal_strconv_formatBase10_p10 a0 s3 k48 x52 x54 x64 x65 x67
noncomputable def internal_strconv_formatBase10_p12 (a0 : SV) (s3 : SV × SV × Unit) (k48 : SV × SV × Unit → ER) (x52 : SV) (x54 : SV) (x56 : SV) (x57 : SV) (x58 : SV) (x60 : SV) : ER :=
  eIndexS Tryz.prog 9 (.str [48, 48, 48, 49, 48, 50, 48, 51, 48, 52, 48, 53, 48, 54, 48, 55, 48, 56, 48, 57, 49, 48, 49, 49, 49, 50, 49, 51, 49, 52, 49, 53, 49, 54, 49, 55, 49, 56, 49, 57, 50, 48, 50, 49, 50, 50, 50, 51, 50, 52, 50, 53, 50, 54, 50, 55, 50, 56, 50, 57, 51, 48, 51, 49, 51, 50, 51, 51, 51, 52, 51, 53, 51, 54, 51, 55, 51, 56, 51, 57, 52, 48, 52, 49, 52, 50, 52, 51, 52, 52, 52, 53, 52, 54, 52, 55, 52, 56, 52, 57, 53, 48, 53, 49, 53, 50, 53, 51, 53, 52, 53, 53, 53, 54, 53, 55, 53, 56, 53, 57, 54, 48, 54, 49, 54, 50, 54, 51, 54, 52, 54, 53, 54, 54, 54, 55, 54, 56, 54, 57, 55, 48, 55, 49, 55, 50, 55, 51, 55, 52, 55, 53, 55, 54, 55, 55, 55, 56, 55, 57, 56, 48, 56, 49, 56, 50, 56, 51, 56, 52, 56, 53, 56, 54, 56, 55, 56, 56, 56, 57, 57, 48, 57, 49, 57, 50, 57, 51, 57, 52, 57, 53, 57, 54, 57, 55, 57, 56, 57, 57]) x56 fun x61 => eIndexAddrS Tryz.prog 207 a0 x57 fun x62 => eStore Tryz.prog 5 x62 x60 <| eIndexAddrS Tryz.prog 207 a0 x58 fun x63 => eStore Tryz.prog 5 x63 x61 <| eBin Tryz.prog .sub 3 false s3.2.1 (.int .i64 3) fun x64 => eBin Tryz.prog .sub 3 false s3.2.1 (.int .i64 4) fun x65 => eBin Tryz.prog .add 229 false x54 (.int .u32 1) fun x66 => internal_strconv_formatBase10_p11 a0 s3 k48 x52 x54 x64 x65 x66
noncomputable def internal_strconv_formatBase10_p13 (a0 : SV) (s3 : SV × SV × Unit) (k48 : SV × SV × Unit → ER) (x52 : SV) (x54 : SV) (x56 : SV) (x57 : SV) (x58 : SV) (x59 : SV) : ER :=
  eIndexS Tryz.prog 9 (.str [48, 48, 48, 49, 48, 50, 48, 51, 48, 52, 48, 53, 48, 54, 48, 55, 48, 56, 48, 57, 49, 48, 49, 49, 49, 50, 49, 51, 49, 52, 49, 53, 49, 54, 49, 55, 49, 56, 49, 57, 50, 48, 50, 49, 50, 50, 50, 51, 50, 52, 50, 53, 50, 54, 50, 55, 50, 56, 50, 57, 51, 48, 51, 49, 51, 50, 51, 51, 51, 52, 51, 53, 51, 54, 51, 55, 51, 56, 51, 57, 52, 48, 52, 49, 52, 50, 52, 51, 52, 52, 52, 53, 52, 54, 52, 55, 52, 56, 52, 57, 53, 48, 53, 49, 53, 50, 53, 51, 53, 52, 53, 53, 53, 54, 53, 55, 53, 56, 53, 57, 54, 48, 54, 49, 54, 50, 54, 51, 54, 52, 54, 53, 54, 54, 54, 55, 54, 56, 54, 57, 55, 48, 55, 49, 55, 50, 55, 51, 55, 52, 55, 53, 55, 54, 55, 55, 55, 56, 55, 57, 56, 48, 56, 49, 56, 50, 56, 51, 56, 52, 56, 53, 56, 54, 56, 55, 56, 56, 56, 57, 57, 48, 57, 49, 57, 50, 57, 51, 57, 52, 57, 53, 57, 54, 57, 55, 57, 56, 57, 57]) x59 fun x60 => internal_strconv_formatBase10_p12 a0 s3 k48 x52 x54 x56 x57 x58 x60
noncomputable def internal_strconv_formatBase10_p14 (a0 : SV) (s3 : SV × SV × Unit) (k48 : SV × SV × Unit → ER) (x47 : SV) (x51 : SV) : ER :=
  eBin Tryz.prog .quo 229 false x47 (.int .u32 10000) fun x52 => eBin Tryz.prog .quo 229 false x51 (.int .u32 100) fun x53 => eBin Tryz.prog .mul 229 false x53 (.int .u32 2) fun x54 => eBin Tryz.prog .rem 229 false x51 (.int .u32 100) fun x55 => eBin Tryz.prog .mul 229 false x55 (.int .u32 2) fun x56 => eBin Tryz.prog .sub 3 false s3.2.1 (.int .i64 1) fun x57 => eBin Tryz.prog .sub 3 false s3.2.1 (.int .i64 2) fun x58 => eBin Tryz.prog .add 229 false x56 (.int .u32 1) fun x59 => internal_strconv_formatBase10_p13 a0 s3 k48 x52 x54 x56 x57 x58 x59
noncomputable def internal_strconv_formatBase10_p15 (a0 : SV) (k72 : SV × SV × Unit → ER) (s49 : SV × SV × Unit) (x76 : SV) (x77 : SV) (x78 : SV) (x79 : SV) (x81 : SV) : ER :=
  eIndexS Tryz.prog 9 (.str [48, 48, 48, 49, 48, 50, 48, 51, 48, 52, 48, 53, 48, 54, 48, 55, 48, 56, 48, 57, 49, 48, 49, 49, 49, 50, 49, 51, 49, 52, 49, 53, 49, 54, 49, 55, 49, 56, 49, 57, 50, 48, 50, 49, 50, 50, 50, 51, 50, 52, 50, 53, 50, 54, 50, 55, 50, 56, 50, 57, 51, 48, 51, 49, 51, 50, 51, 51, 51, 52, 51, 53, 51, 54, 51, 55, 51, 56, 51, 57, 52, 48, 52, 49, 52, 50, 52, 51, 52, 52, 52, 53, 52, 54, 52, 55, 52, 56, 52, 57, 53, 48, 53, 49, 53, 50, 53, 51, 53, 52, 53, 53, 53, 54, 53, 55, 53, 56, 53, 57, 54, 48, 54, 49, 54, 50, 54, 51, 54, 52, 54, 53, 54, 54, 54, 55, 54, 56, 54, 57, 55, 48, 55, 49, 55, 50, 55, 51, 55, 52, 55, 53, 55, 54, 55, 55, 55, 56, 55, 57, 56, 48, 56, 49, 56, 50, 56, 51, 56, 52, 56, 53, 56, 54, 56, 55, 56, 56, 56, 57, 57, 48, 57, 49, 57, 50, 57, 51, 57, 52, 57, 53, 57, 54, 57, 55, 57, 56, 57, 57]) x76 fun x82 => eIndexAddrS Tryz.prog 207 a0 x78 fun x83 => eStore Tryz.prog 5 x83 x81 <| eIndexAddrS Tryz.prog 207 a0 x79 fun x84 => eStore Tryz.prog 5 x84 x82 <| eBin Tryz.prog .sub 3 false s49.1 (.int .i64 2) fun x85 => eHas .any x85 (eHas .any x77 (k72 (x85, x77, ())))
noncomputable def internal_strconv_formatBase10_p16 (a0 : SV) (k72 : SV × SV × Unit → ER) (s49 : SV × SV × Unit) (x76 : SV) (x77 : SV) (x78 : SV) (x79 : SV) (x80 : SV) : ER :=
  eIndexS Tryz.prog 9 (.str [48, 48, 48, 49, 48, 50, 48, 51, 48, 52, 48, 53, 48, 54, 48, 55, 48, 56, 48, 57, 49, 48, 49, 49, 49, 50, 49, 51, 49, 52, 49, 53, 49, 54, 49, 55, 49, 56, 49, 57, 50, 48, 50, 49, 50, 50, 50, 51, 50, 52, 50, 53, 50, 54, 50, 55, 50, 56, 50, 57, 51, 48, 51, 49, 51, 50, 51, 51, 51, 52, 51, 53, 51, 54, 51, 55, 51, 56, 51, 57, 52, 48, 52, 49, 52, 50, 52, 51, 52, 52, 52, 53, 52, 54, 52, 55, 52, 56, 52, 57, 53, 48, 53, 49, 53, 50, 53, 51, 53, 52, 53, 53, 53, 54, 53, 55, 53, 56, 53, 57, 54, 48, 54, 49, 54, 50, 54, 51, 54, 52, 54, 53, 54, 54, 54, 55, 54, 56, 54, 57, 55, 48, 55, 49, 55, 50, 55, 51, 55, 52, 55, 53, 55, 54, 55, 55, 55, 56, 55, 57, 56, 48, 56, 49, 56, 50, 56, 51, 56, 52, 56, 53, 56, 54, 56, 55, 56, 56, 56, 57, 57, 48, 57, 49, 57, 50, 57, 51, 57, 52, 57, 53, 57, 54, 57, 55, 57, 56, 57, 57]) x80 fun x81 => internal_strconv_formatBase10_p15 a0 k72 s49 x76 x77 x78 x79 x81
noncomputable def internal_strconv_formatBase10_p17 (a0 : SV) (k72 : SV × SV × Unit → ER) (s49 : SV × SV × Unit) : ER :=
  eBin Tryz.prog .rem 229 false s49.2.1 (.int .u32 100) fun x75 => eBin Tryz.prog .mul 229 false x75 (.int .u32 2) fun x76 => eBin Tryz.prog .quo 229 false s49.2.1 (.int .u32 100) fun x77 => eBin Tryz.prog .sub 3 false s49.1 (.int .i64 1) fun x78 => eBin Tryz.prog .sub 3 false s49.1 (.int .i64 2) fun x79 => eBin Tryz.prog .add 229 false x76 (.int .u32 1) fun x80 => internal_strconv_formatBase10_p16 a0 k72 s49 x76 x77 x78 x79 x80
noncomputable def internal_strconv_formatBase10_p18 (K : SV → ER) (a0 : SV) (s73 : SV × SV × Unit) : ER :=
  eBin Tryz.prog .gtr 3 false s73.1 (.int .i64 0) fun x86 => eIfV x86
  (eBin Tryz.prog .add 229 false (.int .u32 48) s73.2.1 fun x87 => eConvS Tryz.prog 229 5 x87 fun x88 => eIndexAddrS Tryz.prog 207 a0 (.int .i64 0) fun x89 => eStore Tryz.prog 5 x89 x88 <| K (.tup []))
  (K (.tup []))
noncomputable def internal_strconv_formatBase10_p19 (a0 : SV) (s3 : SV × SV × Unit) (k48 : SV × SV × Unit → ER) (x47 : SV) : ER :=
  eBin Tryz.prog .geq 3 false s3.2.1 (.int .i64 4) fun x50 => eIfV x50
  (eBin Tryz.prog .rem 229 false x47 (.int .u32 10000) fun x51 => internal_strconv_formatBase10_p14 a0 s3 k48 x47 x51)
  (eHas .any s3.2.1 (eHas .any x47 (k48 (s3.2.1, x47, ()))))
noncomputable def internal_strconv_formatBase10_p20 (K : SV → ER) (a0 : SV) (s49 : SV × SV × Unit) : ER :=
  eJoinC (σ := SV × SV × Unit) (fun (k72 : SV × SV × Unit → ER) =>
  eBin Tryz.prog .geq 3 false s49.1 (.int .i64 2) fun x74 => eIfV x74
  (internal_strconv_formatBase10_p17 a0 k72 s49)
  (eHas .any s49.1 (eHas .any s49.2.1 (k72 (s49.1, s49.2.1, ()))))) fun (s73 : SV × SV × Unit) =>
  internal_strconv_formatBase10_p18 K a0 s73
noncomputable def internal_strconv_formatBase10_p21 (K : SV → ER) (a0 : SV) (s3 : SV × SV × Unit) : ER :=
  eConvS Tryz.prog 42 229 s3.1 fun x47 => eJoinC (σ := SV × SV × Unit) (fun (k48 : SV × SV × Unit → ER) =>
  internal_strconv_formatBase10_p19 a0 s3 k48 x47) fun (s49 : SV × SV × Unit) =>
  internal_strconv_formatBase10_p20 K a0 s49
noncomputable def internal_strconv_formatBase10_e (C : Cal) (N : Nat) (a0 a1 : SV) (K : SV → ER) : ER :=
  eLenS Tryz.prog [207] [a0] fun x1 => eHas .any a1 (eHas .any x1 (eIter (σ := SV × SV × Unit) (fun (s3 : SV × SV × Unit) (k2 : SV × SV × Unit → ER) =>
  eBin Tryz.prog .geq 3 false s3.2.1 (.int .i64 8) fun x4 => eIfV x4
  (internal_strconv_formatBase10_p9 a0 k2 s3)
  (internal_strconv_formatBase10_p21 K a0 s3)) N (a1, x1, ())))
theorem internal_strconv_formatBase10_ee (C : Cal) (N : Nat) (a0 a1 : SV) (K : SV → ER) : eBody Tryz.prog C N Tryz.f259 (Tryz.f259.body.getD .skip) internal_strconv_formatBase10_ea [a0, a1] K = internal_strconv_formatBase10_e C N a0 a1 K := by kernel_rfl
noncomputable def l259 : LeafT := fun C N args K => match args with
  | [a0, a1] => internal_strconv_formatBase10_e C N a0 a1 K
  | _ => eF
theorem lok259 : LeafOk Tryz.prog 259 l259 := ⟨Tryz.f259, Tryz.f259.body.getD .skip, internal_strconv_formatBase10_ea, Tryz.func259, by kernel_rfl, Tryz.call259, fun C N args K H e => by
  unfold l259 at e
  split at e
  · rw [internal_strconv_formatBase10_ee]; exact e
  · exact eF_no e⟩

end Go.Proofs.YtnpcjhcgbcpcoaaGreatDoor

set_option linter.unusedVariables false
set_option maxRecDepth 100000
namespace Go.Proofs.YtnpcjhcgbcpcoaaGreatDoor
open Go.Hl
/- internal/strconv.formatBits -/
def internal_strconv_formatBits_ea : Ann := .two (.none) (.join (.join (.none) (.two (.none) (.none)) [(28, .any)]) (.two (.none) (.two (.none) (.join (.two (.none) (.two (.none) (.none))) (.join (.two (.none) (.two (.two (.none) (.two (.none) (.two (.none) (.two (.sub (.loop [(1, .any), (13, .any)] (.two (.two (.none) (.two (.none) (.none))) (.sub (.two (.none) (.two (.none) (.none))))))) (.two (.none) (.none)))))) (.two (.none) (.two (.sub (.loop [(1, .any), (13, .any)] (.two (.two (.none) (.two (.none) (.none))) (.sub (.two (.none) (.two (.none) (.two (.none) (.none)))))))) (.two (.none) (.none)))))) (.join (.two (.none) (.two (.two (.none) (.none)) (.none))) (.two (.two (.none) (.two (.two (.none) (.none)) (.none))) (.two (.none) (.none))) [(13, .any)]) [(13, .any)]) [(1, .any)]))) [])
noncomputable def internal_strconv_formatBits_p0  : ER :=
  eMakeIface Tryz.prog 9 (.str [115, 116, 114, 99, 111, 110, 118, 58, 32, 105, 108, 108, 101, 103, 97, 108, 32, 65, 112, 112, 101, 110, 100, 73, 110, 116, 47, 70, 111, 114, 109, 97, 116, 73, 110, 116, 32, 98, 97, 115, 101]) fun x8 => eF
noncomputable def internal_strconv_formatBits_p1 (a2 : SV) (k3 : SV × Unit → ER) : ER :=
  eBin Tryz.prog .lss 3 false a2 (.int .i64 2) fun x5 => eIfV x5
  (eHas .any (.bool true) (k3 ((.bool true), ())))
  (eBin Tryz.prog .eql 3 false a2 (.int .i64 10) fun x6 => eIfV x6
  (eHas .any (.bool true) (k3 ((.bool true), ())))
  (eBin Tryz.prog .gtr 3 false a2 (.int .i64 36) fun x7 => eHas .any x7 (k3 (x7, ()))))
noncomputable def internal_strconv_formatBits_p2 (x9 : SV) (k22 : SV × SV × Unit → ER) (s23 : SV × SV × Unit) (x18 : SV) (x21 : SV) : ER :=
  eBin Tryz.prog .sub 3 false s23.2.1 (.int .i64 1) fun x25 => eBin Tryz.prog .and 51 false s23.1 x21 fun x26 => eIndexS Tryz.prog 9 (.str [48, 49, 50, 51, 52, 53, 54, 55, 56, 57, 97, 98, 99, 100, 101, 102, 103, 104, 105, 106, 107, 108, 109, 110, 111, 112, 113, 114, 115, 116, 117, 118, 119, 120, 121, 122]) x26 fun x27 => eIndexAddrS Tryz.prog 267 x9 x25 fun x28 => eStore Tryz.prog 5 x28 x27 <| eBin Tryz.prog .shr 42 false s23.1 x18 fun x29 => eHas .any x29 (eHas .any x25 (k22 (x29, x25, ())))
noncomputable def internal_strconv_formatBits_p3 (x9 : SV) (k13 : SV × Unit → ER) (s23 : SV × SV × Unit) : ER :=
  eBin Tryz.prog .sub 3 false s23.2.1 (.int .i64 1) fun x30 => eIndexS Tryz.prog 9 (.str [48, 49, 50, 51, 52, 53, 54, 55, 56, 57, 97, 98, 99, 100, 101, 102, 103, 104, 105, 106, 107, 108, 109, 110, 111, 112, 113, 114, 115, 116, 117, 118, 119, 120, 121, 122]) s23.1 fun x31 => eIndexAddrS Tryz.prog 267 x9 x30 fun x32 => eStore Tryz.prog 5 x32 x31 <| eHas .any x30 (k13 (x30, ()))
noncomputable def internal_strconv_formatBits_p4 (C : Cal) (N : Nat) (a2 : SV) (x9 : SV) (k13 : SV × Unit → ER) (s11 : SV × Unit) (x16 : SV) : ER :=
  eCallR Tryz.prog C 270 [x16] 3 fun x17 => eConvS Tryz.prog 3 51 x17 fun x18 => eConvS Tryz.prog 3 42 a2 fun x19 => eConvS Tryz.prog 3 51 a2 fun x20 => eBin Tryz.prog .sub 51 false x20 (.int .u64 1) fun x21 => eHas .any s11.1 (eHas .any (.int .i64 65) (eIter (σ := SV × SV × Unit) (fun (s23 : SV × SV × Unit) (k22 : SV × SV × Unit → ER) =>
  eBin Tryz.prog .geq 42 false s23.1 x19 fun x24 => eIfV x24
  (internal_strconv_formatBits_p2 x9 k22 s23 x18 x21)
  (internal_strconv_formatBits_p3 x9 k13 s23)) N (s11.1, (.int .i64 65), ())))
noncomputable def internal_strconv_formatBits_p5 (x9 : SV) (k34 : SV × SV × Unit → ER) (s35 : SV × SV × Unit) (x33 : SV) : ER :=
  eBin Tryz.prog .sub 3 false s35.2.1 (.int .i64 1) fun x37 => eBin Tryz.prog .quo 42 false s35.1 x33 fun x38 => eBin Tryz.prog .mul 42 false x38 x33 fun x39 => eBin Tryz.prog .sub 42 false s35.1 x39 fun x40 => eIndexS Tryz.prog 9 (.str [48, 49, 50, 51, 52, 53, 54, 55, 56, 57, 97, 98, 99, 100, 101, 102, 103, 104, 105, 106, 107, 108, 109, 110, 111, 112, 113, 114, 115, 116, 117, 118, 119, 120, 121, 122]) x40 fun x41 => eIndexAddrS Tryz.prog 267 x9 x37 fun x42 => eStore Tryz.prog 5 x42 x41 <| eHas .any x38 (eHas .any x37 (k34 (x38, x37, ())))
noncomputable def internal_strconv_formatBits_p6 (x9 : SV) (k13 : SV × Unit → ER) (s35 : SV × SV × Unit) : ER :=
  eBin Tryz.prog .sub 3 false s35.2.1 (.int .i64 1) fun x43 => eIndexS Tryz.prog 9 (.str [48, 49, 50, 51, 52, 53, 54, 55, 56, 57, 97, 98, 99, 100, 101, 102, 103, 104, 105, 106, 107, 108, 109, 110, 111, 112, 113, 114, 115, 116, 117, 118, 119, 120, 121, 122]) s35.1 fun x44 => eIndexAddrS Tryz.prog 267 x9 x43 fun x45 => eStore Tryz.prog 5 x45 x44 <| eHas .any x43 (k13 (x43, ()))
noncomputable def internal_strconv_formatBits_p7 (N : Nat) (a2 : SV) (x9 : SV) (k13 : SV × Unit → ER) (s11 : SV × Unit) : ER :=
  eConvS Tryz.prog 3 42 a2 fun x33 => eHas .any s11.1 (eHas .any (.int .i64 65) (eIter (σ := SV × SV × Unit) (fun (s35 : SV × SV × Unit) (k34 : SV × SV × Unit → ER) =>
  eBin Tryz.prog .geq 42 false s35.1 x33 fun x36 => eIfV x36
  (internal_strconv_formatBits_p5 x9 k34 s35 x33)
  (internal_strconv_formatBits_p6 x9 k13 s35)) N (s11.1, (.int .i64 65), ())))
noncomputable def internal_strconv_formatBits_p8 (a3 : SV) (x9 : SV) (k46 : SV × Unit → ER) (s14 : SV × Unit) : ER :=
  eIfV a3
  (eBin Tryz.prog .sub 3 false s14.1 (.int .i64 1) fun x48 => eIndexAddrS Tryz.prog 267 x9 x48 fun x49 => eStore Tryz.prog 5 x49 (.int .u8 45) <| eHas .any x48 (k46 (x48, ())))
  (eHas .any s14.1 (k46 (s14.1, ())))
noncomputable def internal_strconv_formatBits_p9 (K : SV → ER) (a0 : SV) (a4 : SV) (x9 : SV) (s47 : SV × Unit) : ER :=
  eIfV a4
  (eSliceS Tryz.prog 267 x9 (some (.v s47.1)) none none fun x50 => eApp Tryz.prog [207, 207] [a0, x50] fun x51 => K (.tup [x51, (.str [])]))
  (eSliceS Tryz.prog 267 x9 (some (.v s47.1)) none none fun x52 => eConvS Tryz.prog 207 9 x52 fun x53 => K (.tup [(.sl ⟨none, 0, .lit 0⟩), x53]))
noncomputable def internal_strconv_formatBits_p10 (C : Cal) (K : SV → ER) (N : Nat) (a0 : SV) (a2 : SV) (a3 : SV) (a4 : SV) (x9 : SV) (s11 : SV × Unit) : ER :=
  eJoinC (σ := SV × Unit) (fun (k13 : SV × Unit → ER) =>
  eCallR Tryz.prog C 269 [a2] 4 fun x15 => eIfV x15
  (eConvS Tryz.prog 3 51 a2 fun x16 => internal_strconv_formatBits_p4 C N a2 x9 k13 s11 x16)
  (internal_strconv_formatBits_p7 N a2 x9 k13 s11)) fun (s14 : SV × Unit) =>
  eJoinC (σ := SV × Unit) (fun (k46 : SV × Unit → ER) =>
  internal_strconv_formatBits_p8 a3 x9 k46 s14) fun (s47 : SV × Unit) =>
  internal_strconv_formatBits_p9 K a0 a4 x9 s47
noncomputable def internal_strconv_formatBits_p11 (C : Cal) (K : SV → ER) (N : Nat) (a0 : SV) (a1 : SV) (a2 : SV) (a3 : SV) (a4 : SV) : ER :=
  eAlloc Tryz.prog 267 fun x9 => eJoinC (σ := SV × Unit) (fun (k10 : SV × Unit → ER) =>
  eIfV a3
  (eUnS .neg a1 fun x12 => eHas .any x12 (k10 (x12, ())))
  (eHas .any a1 (k10 (a1, ())))) fun (s11 : SV × Unit) =>
  internal_strconv_formatBits_p10 C K N a0 a2 a3 a4 x9 s11
noncomputable def internal_strconv_formatBits_e (C : Cal) (N : Nat) (a0 a1 a2 a3 a4 : SV) (K : SV → ER) : ER :=
  eJoinC (σ := Unit) (fun (k1 : Unit → ER) =>
  eJoinC (σ := SV × Unit) (fun (k3 : SV × Unit → ER) =>
  internal_strconv_formatBits_p1 a2 k3) fun (s4 : SV × Unit) =>
  eIfV s4.1
  (internal_strconv_formatBits_p0)
  (k1 (()))) fun (s2 : Unit) =>
  internal_strconv_formatBits_p11 C K N a0 a1 a2 a3 a4
theorem internal_strconv_formatBits_ee (C : Cal) (N : Nat) (a0 a1 a2 a3 a4 : SV) (K : SV → ER) : eBody Tryz.prog C N Tryz.f260 (Tryz.f260.body.getD .skip) internal_strconv_formatBits_ea [a0, a1, a2, a3, a4] K = internal_strconv_formatBits_e C N a0 a1 a2 a3 a4 K := by kernel_rfl
noncomputable def l260 : LeafT := fun C N args K => match args with
  | [a0, a1, a2, a3, a4] => internal_strconv_formatBits_e C N a0 a1 a2 a3 a4 K
  | _ => eF
theorem lok260 : LeafOk Tryz.prog 260 l260 := ⟨Tryz.f260, Tryz.f260.body.getD .skip, internal_strconv_formatBits_ea, Tryz.func260, by kernel_rfl, Tryz.call260, fun C N args K H e => by
  unfold l260 at e
  split at e
  · rw [internal_strconv_formatBits_ee]; exact e
  · exact eF_no e⟩

/- slices.Contains[[]int,int] -/
def slices_Contains_int_int_ea : Ann := .two (.none) (.two (.none) (.none))
noncomputable def slices_Contains_int_int_e (C : Cal) (N : Nat) (a0 a1 : SV) (K : SV → ER) : ER :=
  eCallR Tryz.prog C 271 [a0, a1] 3 fun x1 => eBin Tryz.prog .geq 3 false x1 (.int .i64 0) fun x2 => K x2
theorem slices_Contains_int_int_ee (C : Cal) (N : Nat) (a0 a1 : SV) (K : SV → ER) : eBody Tryz.prog C N Tryz.f261 (Tryz.f261.body.getD .skip) slices_Contains_int_int_ea [a0, a1] K = slices_Contains_int_int_e C N a0 a1 K := by kernel_rfl
noncomputable def l261 : LeafT := fun C N args K => match args with
  | [a0, a1] => slices_Contains_int_int_e C N a0 a1 K
  | _ => eF
theorem lok261 : LeafOk Tryz.prog 261 l261 := ⟨Tryz.f261, Tryz.f261.body.getD .skip, slices_Contains_int_int_ea, Tryz.func261, by kernel_rfl, Tryz.call261, fun C N args K H e => by
  unfold l261 at e
  split at e
  · rw [slices_Contains_int_int_ee]; exact e
  · exact eF_no e⟩

/- slices.IndexFunc[[]string,string] -/
def slices_IndexFunc_string_string_ea : Ann := .two (.none) (.two (.two (.none) (.sub (.loop [(8, .any)] (.two (.none) (.two (.two (.none) (.none)) (.two (.sub (.two (.none) (.two (.none) (.two (.two (.none) (.none)) (.none))))) (.none))))))) (.two (.none) (.none)))
noncomputable def slices_IndexFunc_string_string_p0 (C : Cal) (K : SV → ER) (a0 : SV) (a1 : SV) (k2 : SV × Unit → ER) (s3 : SV × Unit) : ER :=
  eIndexAddrS Tryz.prog 25 a0 s3.1 fun x5 => eLoad Tryz.prog 9 x5 fun x6 => eCallVR Tryz.prog C a1 [x6] 4 fun x7 => eIfV x7
  (K s3.1)
  (eBin Tryz.prog .add 3 false s3.1 (.int .i64 1) fun x8 => eHas .any x8 (k2 (x8, ())))
noncomputable def slices_IndexFunc_string_string_e (C : Cal) (N : Nat) (a0 a1 : SV) (K : SV → ER) : ER :=
  eLenS Tryz.prog [25] [a0] fun x1 => eHas .any (.int .i64 0) (eIter (σ := SV × Unit) (fun (s3 : SV × Unit) (k2 : SV × Unit → ER) =>
  eBin Tryz.prog .lss 3 false s3.1 x1 fun x4 => eIfV x4
  (slices_IndexFunc_string_string_p0 C K a0 a1 k2 s3)
  (K (.int .i64 (-1)))) N ((.int .i64 0), ()))
theorem slices_IndexFunc_string_string_ee (C : Cal) (N : Nat) (a0 a1 : SV) (K : SV → ER) : eBody Tryz.prog C N Tryz.f262 (Tryz.f262.body.getD .skip) slices_IndexFunc_string_string_ea [a0, a1] K = slices_IndexFunc_string_string_e C N a0 a1 K := by kernel_rfl
noncomputable def l262 : LeafT := fun C N args K => match args with
  | [a0, a1] => slices_IndexFunc_string_string_e C N a0 a1 K
  | _ => eF
theorem lok262 : LeafOk Tryz.prog 262 l262 := ⟨Tryz.f262, Tryz.f262.body.getD .skip, slices_IndexFunc_string_string_ea, Tryz.func262, by kernel_rfl, Tryz.call262, fun C N args K H e => by
  unfold l262 at e
  split at e
  · rw [slices_IndexFunc_string_string_ee]; exact e
  · exact eF_no e⟩

/- strings.genSplit -/
def strings_genSplit_ea : Ann := .two (.none) (.two (.two (.none) (.two (.two (.none) (.none)) (.none))) (.two (.two (.none) (.two (.two (.none) (.none)) (.none))) (.join (.two (.none) (.two (.none) (.none))) (.two (.none) (.two (.none) (.two (.none) (.two (.none) (.join (.sub (.loop [(0, .any), (10, .any)] (.two (.two (.none) (.two (.none) (.none))) (.sub (.two (.none) (.two (.two (.none) (.two (.none) (.none))) (.two (.none) (.two (.none) (.none))))))))) (.two (.none) (.two (.none) (.none))) [(0, .any), (10, .any)]))))) [(3, .any)])))
noncomputable def strings_genSplit_p0 (a1 : SV) (a2 : SV) (k16 : SV × SV × Unit → ER) (s17 : SV × SV × Unit) (x12 : SV) (x19 : SV) : ER :=
  eBin Tryz.prog .add 3 false x19 a2 fun x21 => eSliceS Tryz.prog 9 s17.1 none (some (.v x21)) none fun x22 => eIndexAddrS Tryz.prog 25 x12 s17.2.1 fun x23 => eStore Tryz.prog 9 x23 x22 <| eLenS Tryz.prog [9] [a1] fun x24 => eBin Tryz.prog .add 3 false x19 x24 fun x25 => eSliceS Tryz.prog 9 s17.1 (some (.v x25)) none none fun x26 => eBin Tryz.prog .add 3 false s17.2.1 (.int .i64 1) fun x27 => eHas .any x26 (eHas .any x27 (k16 (x26, x27, ())))
noncomputable def strings_genSplit_p1 (C : Cal) (a1 : SV) (a2 : SV) (k14 : SV × SV × Unit → ER) (k16 : SV × SV × Unit → ER) (s17 : SV × SV × Unit) (x12 : SV) : ER :=
  eCallR Tryz.prog C 176 [s17.1, a1] 3 fun x19 => eBin Tryz.prog .lss 3 false x19 (.int .i64 0) fun x20 => eIfV x20
  (eHas .any s17.1 (eHas .any s17.2.1 (k14 (s17.1, s17.2.1, ()))))
  (strings_genSplit_p0 a1 a2 k16 s17 x12 x19)
noncomputable def strings_genSplit_p2 (C : Cal) (N : Nat) (a0 : SV) (a1 : SV) (a2 : SV) (k14 : SV × SV × Unit → ER) (x12 : SV) (x13 : SV) : ER :=
  eHas .any a0 (eHas .any (.int .i64 0) (eIter (σ := SV × SV × Unit) (fun (s17 : SV × SV × Unit) (k16 : SV × SV × Unit → ER) =>
  eBin Tryz.prog .lss 3 false s17.2.1 x13 fun x18 => eIfV x18
  (strings_genSplit_p1 C a1 a2 k14 k16 s17 x12)
  (eHas .any s17.1 (eHas .any s17.2.1 (k14 (s17.1, s17.2.1, ()))))) N (a0, (.int .i64 0), ())))
noncomputable def strings_genSplit_p3 (K : SV → ER) (s15 : SV × SV × Unit) (x12 : SV) : ER :=
  eIndexAddrS Tryz.prog 25 x12 s15.2.1 fun x28 => eStore Tryz.prog 9 x28 s15.1 <| eBin Tryz.prog .add 3 false s15.2.1 (.int .i64 1) fun x29 => eSliceS Tryz.prog 25 x12 none (some (.v x29)) none fun x30 => K x30
noncomputable def strings_genSplit_p4 (C : Cal) (a0 : SV) (a1 : SV) (a3 : SV) (k4 : SV × Unit → ER) : ER :=
  eBin Tryz.prog .lss 3 false a3 (.int .i64 0) fun x6 => eIfV x6
  (eCallR Tryz.prog C 273 [a0, a1] 3 fun x7 => eBin Tryz.prog .add 3 false x7 (.int .i64 1) fun x8 => eHas .any x8 (k4 (x8, ())))
  (eHas .any a3 (k4 (a3, ())))
noncomputable def strings_genSplit_p5 (C : Cal) (K : SV → ER) (N : Nat) (a0 : SV) (a1 : SV) (a2 : SV) (s5 : SV × Unit) : ER :=
  eLenS Tryz.prog [9] [a0] fun x9 => eBin Tryz.prog .add 3 false x9 (.int .i64 1) fun x10 => eMinMaxS false [s5.1, x10] fun x11 => eMakeSliceS Tryz.prog 25 x11 x11 fun x12 => eBin Tryz.prog .sub 3 false x11 (.int .i64 1) fun x13 => eJoinC (σ := SV × SV × Unit) (fun (k14 : SV × SV × Unit → ER) =>
  strings_genSplit_p2 C N a0 a1 a2 k14 x12 x13) fun (s15 : SV × SV × Unit) =>
  strings_genSplit_p3 K s15 x12
noncomputable def strings_genSplit_p6 (C : Cal) (K : SV → ER) (N : Nat) (a0 : SV) (a1 : SV) (a2 : SV) (a3 : SV) : ER :=
  eBin Tryz.prog .eql 9 false a1 (.str []) fun x2 => eIfV x2
  (eCallR Tryz.prog C 272 [a0, a3] 25 fun x3 => K x3)
  (eJoinC (σ := SV × Unit) (fun (k4 : SV × Unit → ER) =>
  strings_genSplit_p4 C a0 a1 a3 k4) fun (s5 : SV × Unit) =>
  strings_genSplit_p5 C K N a0 a1 a2 s5)
noncomputable def strings_genSplit_e (C : Cal) (N : Nat) (a0 a1 a2 a3 : SV) (K : SV → ER) : ER :=
  eBin Tryz.prog .eql 3 false a3 (.int .i64 0) fun x1 => eIfV x1
  (K (.sl ⟨none, 0, .lit 0⟩))
  (strings_genSplit_p6 C K N a0 a1 a2 a3)
theorem strings_genSplit_ee (C : Cal) (N : Nat) (a0 a1 a2 a3 : SV) (K : SV → ER) : eBody Tryz.prog C N Tryz.f263 (Tryz.f263.body.getD .skip) strings_genSplit_ea [a0, a1, a2, a3] K = strings_genSplit_e C N a0 a1 a2 a3 K := by kernel_rfl
noncomputable def l263 : LeafT := fun C N args K => match args with
  | [a0, a1, a2, a3] => strings_genSplit_e C N a0 a1 a2 a3 K
  | _ => eF
theorem lok263 : LeafOk Tryz.prog 263 l263 := ⟨Tryz.f263, Tryz.f263.body.getD .skip, strings_genSplit_ea, Tryz.func263, by kernel_rfl, Tryz.call263, fun C N args K H e => by
  unfold l263 at e
  split at e
  · rw [strings_genSplit_ee]; exact e
  · exact eF_no e⟩

/- strings.IndexByte -/
def strings_IndexByte_ea : Ann := .two (.none) (.two (.none) (.none))
noncomputable def strings_IndexByte_e (C : Cal) (N : Nat) (a0 a1 : SV) (K : SV → ER) : ER :=
  eCallR Tryz.prog C 237 [a0, a1] 3 fun x1 => K x1
theorem strings_IndexByte_ee (C : Cal) (N : Nat) (a0 a1 : SV) (K : SV → ER) : eBody Tryz.prog C N Tryz.f264 (Tryz.f264.body.getD .skip) strings_IndexByte_ea [a0, a1] K = strings_IndexByte_e C N a0 a1 K := by kernel_rfl
noncomputable def l264 : LeafT := fun C N args K => match args with
  | [a0, a1] => strings_IndexByte_e C N a0 a1 K
  | _ => eF
theorem lok264 : LeafOk Tryz.prog 264 l264 := ⟨Tryz.f264, Tryz.f264.body.getD .skip, strings_IndexByte_ea, Tryz.func264, by kernel_rfl, Tryz.call264, fun C N args K H e => by
  unfold l264 at e
  split at e
  · rw [strings_IndexByte_ee]; exact e
  · exact eF_no e⟩

/- unicode/utf8.ValidRune -/
def unicode_utf8_ValidRune_ea : Ann := .two (.none) (.two (.sub (.join (.none) (.two (.two (.none) (.none)) (.join (.none) (.two (.two (.none) (.none)) (.none)) [(10, .any)])) [(3, .any)])) (.two (.none) (.none)))
noncomputable def unicode_utf8_ValidRune_p0 (a0 : SV) (k5 : SV × Unit → ER) : ER :=
  eBin Tryz.prog .lss 21 false (.int .i32 57343) a0 fun x7 => eIfV x7
  (eBin Tryz.prog .leq 21 false a0 (.int .i32 1114111) fun x8 => eHas .any x8 (k5 (x8, ())))
  (eHas .any (.bool false) (k5 ((.bool false), ())))
noncomputable def unicode_utf8_ValidRune_p1 (a0 : SV) (k1 : SV × Unit → ER) : ER :=
  eBin Tryz.prog .leq 21 false (.int .i32 0) a0 fun x3 => eIfV x3
  (eBin Tryz.prog .lss 21 false a0 (.int .i32 55296) fun x4 => eHas .any x4 (k1 (x4, ())))
  (eHas .any (.bool false) (k1 ((.bool false), ())))
noncomputable def unicode_utf8_ValidRune_e (C : Cal) (N : Nat) (a0 : SV) (K : SV → ER) : ER :=
  eJoinC (σ := SV × Unit) (fun (k1 : SV × Unit → ER) =>
  unicode_utf8_ValidRune_p1 a0 k1) fun (s2 : SV × Unit) =>
  eIfV s2.1
  (K (.bool true))
  (eJoinC (σ := SV × Unit) (fun (k5 : SV × Unit → ER) =>
  unicode_utf8_ValidRune_p0 a0 k5) fun (s6 : SV × Unit) =>
  eIfV s6.1
  (K (.bool true))
  (K (.bool false)))
theorem unicode_utf8_ValidRune_ee (C : Cal) (N : Nat) (a0 : SV) (K : SV → ER) : eBody Tryz.prog C N Tryz.f265 (Tryz.f265.body.getD .skip) unicode_utf8_ValidRune_ea [a0] K = unicode_utf8_ValidRune_e C N a0 K := by kernel_rfl
noncomputable def l265 : LeafT := fun C N args K => match args with
  | [a0] => unicode_utf8_ValidRune_e C N a0 K
  | _ => eF
theorem lok265 : LeafOk Tryz.prog 265 l265 := ⟨Tryz.f265, Tryz.f265.body.getD .skip, unicode_utf8_ValidRune_ea, Tryz.func265, by kernel_rfl, Tryz.call265, fun C N args K H e => by
  unfold l265 at e
  split at e
  · rw [unicode_utf8_ValidRune_ee]; exact e
  · exact eF_no e⟩

/- internal/strconv.log10Pow2 -/
def internal_strconv_log10Pow2_ea : Ann := .two (.none) (.two (.none) (.none))
noncomputable def internal_strconv_log10Pow2_e (C : Cal) (N : Nat) (a0 : SV) (K : SV → ER) : ER :=
  eBin Tryz.prog .mul 3 false a0 (.int .i64 78913) fun x1 => eBin Tryz.prog .shr 3 false x1 (.int .u64 18) fun x2 => K x2
theorem internal_strconv_log10Pow2_ee (C : Cal) (N : Nat) (a0 : SV) (K : SV → ER) : eBody Tryz.prog C N Tryz.f266 (Tryz.f266.body.getD .skip) internal_strconv_log10Pow2_ea [a0] K = internal_strconv_log10Pow2_e C N a0 K := by kernel_rfl
noncomputable def l266 : LeafT := fun C N args K => match args with
  | [a0] => internal_strconv_log10Pow2_e C N a0 K
  | _ => eF
theorem lok266 : LeafOk Tryz.prog 266 l266 := ⟨Tryz.f266, Tryz.f266.body.getD .skip, internal_strconv_log10Pow2_ea, Tryz.func266, by kernel_rfl, Tryz.call266, fun C N args K H e => by
  unfold l266 at e
  split at e
  · rw [internal_strconv_log10Pow2_ee]; exact e
  · exact eF_no e⟩

/- math/bits.Len64 -/
def math_bits_Len64_ea : Ann := .two (.none) (.join (.two (.none) (.two (.two (.none) (.none)) (.none))) (.join (.two (.none) (.two (.two (.none) (.none)) (.none))) (.join (.two (.none) (.two (.two (.none) (.none)) (.none))) (.two (.none) (.none)) [(0, .any), (2, .any)]) [(0, .any), (2, .any)]) [(0, .any), (2, .any)])
noncomputable def math_bits_Len64_p0 (K : SV → ER) (s11 : SV × SV × Unit) (x15 : SV) : ER :=
  eIndexS Tryz.prog 9 (.str [0, 1, 2, 2, 3, 3, 3, 3, 4, 4, 4, 4, 4, 4, 4, 4, 5, 5, 5, 5, 5, 5, 5, 5, 5, 5, 5, 5, 5, 5, 5, 5, 6, 6, 6, 6, 6, 6, 6, 6, 6, 6, 6, 6, 6, 6, 6, 6, 6, 6, 6, 6, 6, 6, 6, 6, 6, 6, 6, 6, 6, 6, 6, 6, 7, 7, 7, 7, 7, 7, 7, 7, 7, 7, 7, 7, 7, 7, 7, 7, 7, 7, 7, 7, 7, 7, 7, 7, 7, 7, 7, 7, 7, 7, 7, 7, 7, 7, 7, 7, 7, 7, 7, 7, 7, 7, 7, 7, 7, 7, 7, 7, 7, 7, 7, 7, 7, 7, 7, 7, 7, 7, 7, 7, 7, 7, 7, 7, 8, 8, 8, 8, 8, 8, 8, 8, 8, 8, 8, 8, 8, 8, 8, 8, 8, 8, 8, 8, 8, 8, 8, 8, 8, 8, 8, 8, 8, 8, 8, 8, 8, 8, 8, 8, 8, 8, 8, 8, 8, 8, 8, 8, 8, 8, 8, 8, 8, 8, 8, 8, 8, 8, 8, 8, 8, 8, 8, 8, 8, 8, 8, 8, 8, 8, 8, 8, 8, 8, 8, 8, 8, 8, 8, 8, 8, 8, 8, 8, 8, 8, 8, 8, 8, 8, 8, 8, 8, 8, 8, 8, 8, 8, 8, 8, 8, 8, 8, 8, 8, 8, 8, 8, 8, 8, 8, 8, 8, 8, 8, 8, 8, 8, 8, 8, 8, 8, 8, 8, 8, 8, 8, 8, 8, 8, 8, 8]) x15 fun x16 => eConvS Tryz.prog 5 3 x16 fun x17 => eBin Tryz.prog .add 3 false s11.2.1 x17 fun x18 => K x18
noncomputable def math_bits_Len64_p1 (s6 : SV × SV × Unit) (k10 : SV × SV × Unit → ER) : ER :=
  eBin Tryz.prog .geq 42 false s6.1 (.int .u64 256) fun x12 => eIfV x12
  (eBin Tryz.prog .shr 42 false s6.1 (.int .u64 8) fun x13 => eBin Tryz.prog .add 3 false s6.2.1 (.int .i64 8) fun x14 => eHas .any x13 (eHas .any x14 (k10 (x13, x14, ()))))
  (eHas .any s6.1 (eHas .any s6.2.1 (k10 (s6.1, s6.2.1, ()))))
noncomputable def math_bits_Len64_p2 (k5 : SV × SV × Unit → ER) (s2 : SV × SV × Unit) : ER :=
  eBin Tryz.prog .geq 42 false s2.1 (.int .u64 65536) fun x7 => eIfV x7
  (eBin Tryz.prog .shr 42 false s2.1 (.int .u64 16) fun x8 => eBin Tryz.prog .add 3 false s2.2.1 (.int .i64 16) fun x9 => eHas .any x8 (eHas .any x9 (k5 (x8, x9, ()))))
  (eHas .any s2.1 (eHas .any s2.2.1 (k5 (s2.1, s2.2.1, ()))))
noncomputable def math_bits_Len64_p3 (a0 : SV) (k1 : SV × SV × Unit → ER) : ER :=
  eBin Tryz.prog .geq 42 false a0 (.int .u64 4294967296) fun x3 => eIfV x3
  (eBin Tryz.prog .shr 42 false a0 (.int .u64 32) fun x4 => eHas .any x4 (eHas .any (.int .i64 32) (k1 (x4, (.int .i64 32), ()))))
  (eHas .any a0 (eHas .any (.int .i64 0) (k1 (a0, (.int .i64 0), ()))))
noncomputable def math_bits_Len64_p4 (K : SV → ER) (s2 : SV × SV × Unit) : ER :=
  eJoinC (σ := SV × SV × Unit) (fun (k5 : SV × SV × Unit → ER) =>
  math_bits_Len64_p2 k5 s2) fun (s6 : SV × SV × Unit) =>
  eJoinC (σ := SV × SV × Unit) (fun (k10 : SV × SV × Unit → ER) =>
  math_bits_Len64_p1 s6 k10) fun (s11 : SV × SV × Unit) =>
  eConvS Tryz.prog 42 5 s11.1 fun x15 => math_bits_Len64_p0 K s11 x15
noncomputable def math_bits_Len64_e (C : Cal) (N : Nat) (a0 : SV) (K : SV → ER) : ER :=
  eJoinC (σ := SV × SV × Unit) (fun (k1 : SV × SV × Unit → ER) =>
  math_bits_Len64_p3 a0 k1) fun (s2 : SV × SV × Unit) =>
  math_bits_Len64_p4 K s2
theorem math_bits_Len64_ee (C : Cal) (N : Nat) (a0 : SV) (K : SV → ER) : eBody Tryz.prog C N Tryz.f267 (Tryz.f267.body.getD .skip) math_bits_Len64_ea [a0] K = math_bits_Len64_e C N a0 K := by kernel_rfl
noncomputable def l267 : LeafT := fun C N args K => match args with
  | [a0] => math_bits_Len64_e C N a0 K
  | _ => eF
theorem lok267 : LeafOk Tryz.prog 267 l267 := ⟨Tryz.f267, Tryz.f267.body.getD .skip, math_bits_Len64_ea, Tryz.func267, by kernel_rfl, Tryz.call267, fun C N args K H e => by
  unfold l267 at e
  split at e
  · rw [math_bits_Len64_ee]; exact e
  · exact eF_no e⟩

end Go.Proofs.YtnpcjhcgbcpcoaaGreatDoor

set_option linter.unusedVariables false
set_option maxRecDepth 100000
namespace Go.Proofs.YtnpcjhcgbcpcoaaGreatDoor
open Go.Hl
/- internal/strconv.bool2[int] -/
def internal_strconv_bool2_int_ea : Ann := .two (.none) (.two (.two (.none) (.two (.two (.none) (.none)) (.none))) (.two (.none) (.none)))
noncomputable def internal_strconv_bool2_int_e (C : Cal) (N : Nat) (a0 : SV) (K : SV → ER) : ER :=
  eIfV a0
  (K (.int .i64 1))
  (K (.int .i64 0))
theorem internal_strconv_bool2_int_ee (C : Cal) (N : Nat) (a0 : SV) (K : SV → ER) : eBody Tryz.prog C N Tryz.f268 (Tryz.f268.body.getD .skip) internal_strconv_bool2_int_ea [a0] K = internal_strconv_bool2_int_e C N a0 K := by kernel_rfl
noncomputable def l268 : LeafT := fun C N args K => match args with
  | [a0] => internal_strconv_bool2_int_e C N a0 K
  | _ => eF
theorem lok268 : LeafOk Tryz.prog 268 l268 := ⟨Tryz.f268, Tryz.f268.body.getD .skip, internal_strconv_bool2_int_ea, Tryz.func268, by kernel_rfl, Tryz.call268, fun C N args K H e => by
  unfold l268 at e
  split at e
  · rw [internal_strconv_bool2_int_ee]; exact e
  · exact eF_no e⟩

/- internal/strconv.isPowerOfTwo -/
def internal_strconv_isPowerOfTwo_ea : Ann := .two (.none) (.two (.none) (.none))
noncomputable def internal_strconv_isPowerOfTwo_e (C : Cal) (N : Nat) (a0 : SV) (K : SV → ER) : ER :=
  eBin Tryz.prog .sub 3 false a0 (.int .i64 1) fun x1 => eBin Tryz.prog .and 3 false a0 x1 fun x2 => eBin Tryz.prog .eql 3 false x2 (.int .i64 0) fun x3 => K x3
theorem internal_strconv_isPowerOfTwo_ee (C : Cal) (N : Nat) (a0 : SV) (K : SV → ER) : eBody Tryz.prog C N Tryz.f269 (Tryz.f269.body.getD .skip) internal_strconv_isPowerOfTwo_ea [a0] K = internal_strconv_isPowerOfTwo_e C N a0 K := by kernel_rfl
noncomputable def l269 : LeafT := fun C N args K => match args with
  | [a0] => internal_strconv_isPowerOfTwo_e C N a0 K
  | _ => eF
theorem lok269 : LeafOk Tryz.prog 269 l269 := ⟨Tryz.f269, Tryz.f269.body.getD .skip, internal_strconv_isPowerOfTwo_ea, Tryz.func269, by kernel_rfl, Tryz.call269, fun C N args K H e => by
  unfold l269 at e
  split at e
  · rw [internal_strconv_isPowerOfTwo_ee]; exact e
  · exact eF_no e⟩

/- math/bits.TrailingZeros -/
def math_bits_TrailingZeros_ea : Ann := .two (.none) (.two (.two (.two (.none) (.none)) (.none)) (.two (.none) (.none)))
noncomputable def math_bits_TrailingZeros_e (C : Cal) (N : Nat) (a0 : SV) (K : SV → ER) : ER :=
  eCallR Tryz.prog C 275 [a0] 3 fun x1 => K x1
theorem math_bits_TrailingZeros_ee (C : Cal) (N : Nat) (a0 : SV) (K : SV → ER) : eBody Tryz.prog C N Tryz.f270 (Tryz.f270.body.getD .skip) math_bits_TrailingZeros_ea [a0] K = math_bits_TrailingZeros_e C N a0 K := by kernel_rfl
noncomputable def l270 : LeafT := fun C N args K => match args with
  | [a0] => math_bits_TrailingZeros_e C N a0 K
  | _ => eF
theorem lok270 : LeafOk Tryz.prog 270 l270 := ⟨Tryz.f270, Tryz.f270.body.getD .skip, math_bits_TrailingZeros_ea, Tryz.func270, by kernel_rfl, Tryz.call270, fun C N args K H e => by
  unfold l270 at e
  split at e
  · rw [math_bits_TrailingZeros_ee]; exact e
  · exact eF_no e⟩

/- slices.Index[[]int,int] -/
def slices_Index_int_int_ea : Ann := .two (.none) (.two (.two (.none) (.sub (.loop [(8, .any)] (.two (.none) (.two (.two (.none) (.none)) (.two (.sub (.two (.none) (.two (.none) (.two (.two (.none) (.none)) (.none))))) (.none))))))) (.two (.none) (.none)))
noncomputable def slices_Index_int_int_p0 (K : SV → ER) (a0 : SV) (a1 : SV) (k2 : SV × Unit → ER) (s3 : SV × Unit) : ER :=
  eIndexAddrS Tryz.prog 38 a0 s3.1 fun x5 => eLoad Tryz.prog 3 x5 fun x6 => eBin Tryz.prog .eql 3 false a1 x6 fun x7 => eIfV x7
  (K s3.1)
  (eBin Tryz.prog .add 3 false s3.1 (.int .i64 1) fun x8 => eHas .any x8 (k2 (x8, ())))
noncomputable def slices_Index_int_int_e (C : Cal) (N : Nat) (a0 a1 : SV) (K : SV → ER) : ER :=
  eLenS Tryz.prog [38] [a0] fun x1 => eHas .any (.int .i64 0) (eIter (σ := SV × Unit) (fun (s3 : SV × Unit) (k2 : SV × Unit → ER) =>
  eBin Tryz.prog .lss 3 false s3.1 x1 fun x4 => eIfV x4
  (slices_Index_int_int_p0 K a0 a1 k2 s3)
  (K (.int .i64 (-1)))) N ((.int .i64 0), ()))
theorem slices_Index_int_int_ee (C : Cal) (N : Nat) (a0 a1 : SV) (K : SV → ER) : eBody Tryz.prog C N Tryz.f271 (Tryz.f271.body.getD .skip) slices_Index_int_int_ea [a0, a1] K = slices_Index_int_int_e C N a0 a1 K := by kernel_rfl
noncomputable def l271 : LeafT := fun C N args K => match args with
  | [a0, a1] => slices_Index_int_int_e C N a0 a1 K
  | _ => eF
theorem lok271 : LeafOk Tryz.prog 271 l271 := ⟨Tryz.f271, Tryz.f271.body.getD .skip, slices_Index_int_int_ea, Tryz.func271, by kernel_rfl, Tryz.call271, fun C N args K H e => by
  unfold l271 at e
  split at e
  · rw [slices_Index_int_int_ee]; exact e
  · exact eF_no e⟩

/- strings.explode -/
def strings_explode_ea : Ann := .two (.none) (.two (.none) (.join (.join (.none) (.two (.none) (.none)) [(18, .any)]) (.two (.none) (.two (.two (.none) (.sub (.loop [(0, .any), (7, .any)] (.two (.two (.none) (.two (.none) (.none))) (.two (.sub (.two (.none) (.two (.none) (.none)))) (.none)))))) (.join (.two (.none) (.two (.none) (.none))) (.two (.none) (.none)) []))) [(1, .any)]))
noncomputable def strings_explode_p0 (C : Cal) (k9 : SV × SV × Unit → ER) (x8 : SV) (s10 : SV × SV × Unit) : ER :=
  eCallR Tryz.prog C 277 [s10.1] 273 fun x13 => eExtract x13 0 fun x14 => eExtract x13 1 fun x15 => eSliceS Tryz.prog 9 s10.1 none (some (.v x15)) none fun x16 => eIndexAddrS Tryz.prog 25 x8 s10.2.1 fun x17 => eStore Tryz.prog 9 x17 x16 <| eSliceS Tryz.prog 9 s10.1 (some (.v x15)) none none fun x18 => eBin Tryz.prog .add 3 false s10.2.1 (.int .i64 1) fun x19 => eHas .any x18 (eHas .any x19 (k9 (x18, x19, ())))
noncomputable def strings_explode_p1 (s3 : SV × Unit) (x8 : SV) (k20 : Unit → ER) (s10 : SV × SV × Unit) : ER :=
  eBin Tryz.prog .gtr 3 false s3.1 (.int .i64 0) fun x22 => eIfV x22
  (eBin Tryz.prog .sub 3 false s3.1 (.int .i64 1) fun x23 => eIndexAddrS Tryz.prog 25 x8 x23 fun x24 => eStore Tryz.prog 9 x24 s10.1 <| k20 (()))
  (k20 (()))
noncomputable def strings_explode_p2 (C : Cal) (K : SV → ER) (k9 : SV × SV × Unit → ER) (s3 : SV × Unit) (x8 : SV) (s10 : SV × SV × Unit) : ER :=
  eBin Tryz.prog .sub 3 false s3.1 (.int .i64 1) fun x11 => eBin Tryz.prog .lss 3 false s10.2.1 x11 fun x12 => eIfV x12
  (strings_explode_p0 C k9 x8 s10)
  (eJoinC (σ := Unit) (fun (k20 : Unit → ER) =>
  strings_explode_p1 s3 x8 k20 s10) fun (s21 : Unit) =>
  K x8)
noncomputable def strings_explode_p3 (a1 : SV) (k2 : SV × Unit → ER) (x1 : SV) : ER :=
  eJoinC (σ := SV × Unit) (fun (k4 : SV × Unit → ER) =>
  eBin Tryz.prog .lss 3 false a1 (.int .i64 0) fun x6 => eIfV x6
  (eHas .any (.bool true) (k4 ((.bool true), ())))
  (eBin Tryz.prog .gtr 3 false a1 x1 fun x7 => eHas .any x7 (k4 (x7, ())))) fun (s5 : SV × Unit) =>
  eIfV s5.1
  (eHas .any x1 (k2 (x1, ())))
  (eHas .any a1 (k2 (a1, ())))
noncomputable def strings_explode_p4 (C : Cal) (K : SV → ER) (N : Nat) (a0 : SV) (s3 : SV × Unit) : ER :=
  eMakeSliceS Tryz.prog 25 s3.1 s3.1 fun x8 => eHas .any a0 (eHas .any (.int .i64 0) (eIter (σ := SV × SV × Unit) (fun (s10 : SV × SV × Unit) (k9 : SV × SV × Unit → ER) =>
  strings_explode_p2 C K k9 s3 x8 s10) N (a0, (.int .i64 0), ())))
noncomputable def strings_explode_e (C : Cal) (N : Nat) (a0 a1 : SV) (K : SV → ER) : ER :=
  eCallR Tryz.prog C 276 [a0] 3 fun x1 => eJoinC (σ := SV × Unit) (fun (k2 : SV × Unit → ER) =>
  strings_explode_p3 a1 k2 x1) fun (s3 : SV × Unit) =>
  strings_explode_p4 C K N a0 s3
theorem strings_explode_ee (C : Cal) (N : Nat) (a0 a1 : SV) (K : SV → ER) : eBody Tryz.prog C N Tryz.f272 (Tryz.f272.body.getD .skip) strings_explode_ea [a0, a1] K = strings_explode_e C N a0 a1 K := by kernel_rfl
noncomputable def l272 : LeafT := fun C N args K => match args with
  | [a0, a1] => strings_explode_e C N a0 a1 K
  | _ => eF
theorem lok272 : LeafOk Tryz.prog 272 l272 := ⟨Tryz.f272, Tryz.f272.body.getD .skip, strings_explode_ea, Tryz.func272, by kernel_rfl, Tryz.call272, fun C N args K H e => by
  unfold l272 at e
  split at e
  · rw [strings_explode_ee]; exact e
  · exact eF_no e⟩

/- strings.Count -/
def strings_Count_ea : Ann := .two (.none) (.two (.two (.none) (.two (.two (.none) (.none)) (.none))) (.two (.two (.none) (.two (.two (.none) (.none)) (.none))) (.two (.none) (.sub (.loop [(0, .any), (5, .any)] (.sub (.two (.none) (.two (.two (.none) (.two (.two (.none) (.none)) (.none))) (.two (.none) (.none))))))))))
noncomputable def strings_Count_p0 (a1 : SV) (k9 : SV × SV × Unit → ER) (s10 : SV × SV × Unit) (x11 : SV) : ER :=
  eBin Tryz.prog .add 3 false s10.2.1 (.int .i64 1) fun x13 => eLenS Tryz.prog [9] [a1] fun x14 => eBin Tryz.prog .add 3 false x11 x14 fun x15 => eSliceS Tryz.prog 9 s10.1 (some (.v x15)) none none fun x16 => eHas .any x16 (eHas .any x13 (k9 (x16, x13, ())))
noncomputable def strings_Count_p1 (C : Cal) (K : SV → ER) (N : Nat) (a0 : SV) (a1 : SV) : ER :=
  eHas .any a0 (eHas .any (.int .i64 0) (eIter (σ := SV × SV × Unit) (fun (s10 : SV × SV × Unit) (k9 : SV × SV × Unit → ER) =>
  eCallR Tryz.prog C 176 [s10.1, a1] 3 fun x11 => eBin Tryz.prog .eql 3 false x11 (.int .i64 (-1)) fun x12 => eIfV x12
  (K s10.2.1)
  (strings_Count_p0 a1 k9 s10 x11)) N (a0, (.int .i64 0), ())))
noncomputable def strings_Count_p2 (C : Cal) (K : SV → ER) (N : Nat) (a0 : SV) (a1 : SV) : ER :=
  eLenS Tryz.prog [9] [a1] fun x5 => eBin Tryz.prog .eql 3 false x5 (.int .i64 1) fun x6 => eIfV x6
  (eIndexS Tryz.prog 9 a1 (.int .i64 0) fun x7 => eCallR Tryz.prog C 278 [a0, x7] 3 fun x8 => K x8)
  (strings_Count_p1 C K N a0 a1)
noncomputable def strings_Count_e (C : Cal) (N : Nat) (a0 a1 : SV) (K : SV → ER) : ER :=
  eLenS Tryz.prog [9] [a1] fun x1 => eBin Tryz.prog .eql 3 false x1 (.int .i64 0) fun x2 => eIfV x2
  (eCallR Tryz.prog C 276 [a0] 3 fun x3 => eBin Tryz.prog .add 3 false x3 (.int .i64 1) fun x4 => K x4)
  (strings_Count_p2 C K N a0 a1)
theorem strings_Count_ee (C : Cal) (N : Nat) (a0 a1 : SV) (K : SV → ER) : eBody Tryz.prog C N Tryz.f273 (Tryz.f273.body.getD .skip) strings_Count_ea [a0, a1] K = strings_Count_e C N a0 a1 K := by kernel_rfl
noncomputable def l273 : LeafT := fun C N args K => match args with
  | [a0, a1] => strings_Count_e C N a0 a1 K
  | _ => eF
theorem lok273 : LeafOk Tryz.prog 273 l273 := ⟨Tryz.f273, Tryz.f273.body.getD .skip, strings_Count_ea, Tryz.func273, by kernel_rfl, Tryz.call273, fun C N args K H e => by
  unfold l273 at e
  split at e
  · rw [strings_Count_ee]; exact e
  · exact eF_no e⟩

/- math/bits.TrailingZeros32 -/
def math_bits_TrailingZeros32_ea : Ann := .two (.none) (.two (.two (.none) (.two (.two (.none) (.none)) (.none))) (.two (.none) (.none)))
noncomputable def math_bits_TrailingZeros32_e (C : Cal) (N : Nat) (a0 : SV) (K : SV → ER) : ER :=
  eBin Tryz.prog .eql 229 false a0 (.int .u32 0) fun x1 => eIfV x1
  (K (.int .i64 32))
  (eUnS .neg a0 fun x2 => eBin Tryz.prog .and 229 false a0 x2 fun x3 => eBin Tryz.prog .mul 229 false x3 (.int .u32 125613361) fun x4 => eBin Tryz.prog .shr 229 false x4 (.int .u64 27) fun x5 => eF)
theorem math_bits_TrailingZeros32_ee (C : Cal) (N : Nat) (a0 : SV) (K : SV → ER) : eBody Tryz.prog C N Tryz.f274 (Tryz.f274.body.getD .skip) math_bits_TrailingZeros32_ea [a0] K = math_bits_TrailingZeros32_e C N a0 K := by kernel_rfl
noncomputable def l274 : LeafT := fun C N args K => match args with
  | [a0] => math_bits_TrailingZeros32_e C N a0 K
  | _ => eF
theorem lok274 : LeafOk Tryz.prog 274 l274 := ⟨Tryz.f274, Tryz.f274.body.getD .skip, math_bits_TrailingZeros32_ea, Tryz.func274, by kernel_rfl, Tryz.call274, fun C N args K H e => by
  unfold l274 at e
  split at e
  · rw [math_bits_TrailingZeros32_ee]; exact e
  · exact eF_no e⟩

/- math/bits.TrailingZeros64 -/
def math_bits_TrailingZeros64_ea : Ann := .two (.none) (.two (.two (.none) (.two (.two (.none) (.none)) (.none))) (.two (.none) (.none)))
noncomputable def math_bits_TrailingZeros64_p0 (a0 : SV) : ER :=
  eUnS .neg a0 fun x2 => eBin Tryz.prog .and 42 false a0 x2 fun x3 => eBin Tryz.prog .mul 42 false x3 (.int .u64 285870213051353865) fun x4 => eBin Tryz.prog .shr 42 false x4 (.int .u64 58) fun x5 => eF
noncomputable def math_bits_TrailingZeros64_e (C : Cal) (N : Nat) (a0 : SV) (K : SV → ER) : ER :=
  eBin Tryz.prog .eql 42 false a0 (.int .u64 0) fun x1 => eIfV x1
  (K (.int .i64 64))
  (math_bits_TrailingZeros64_p0 a0)
theorem math_bits_TrailingZeros64_ee (C : Cal) (N : Nat) (a0 : SV) (K : SV → ER) : eBody Tryz.prog C N Tryz.f275 (Tryz.f275.body.getD .skip) math_bits_TrailingZeros64_ea [a0] K = math_bits_TrailingZeros64_e C N a0 K := by kernel_rfl
noncomputable def l275 : LeafT := fun C N args K => match args with
  | [a0] => math_bits_TrailingZeros64_e C N a0 K
  | _ => eF
theorem lok275 : LeafOk Tryz.prog 275 l275 := ⟨Tryz.f275, Tryz.f275.body.getD .skip, math_bits_TrailingZeros64_ea, Tryz.func275, by kernel_rfl, Tryz.call275, fun C N args K H e => by
  unfold l275 at e
  split at e
  · rw [math_bits_TrailingZeros64_ee]; exact e
  · exact eF_no e⟩

end Go.Proofs.YtnpcjhcgbcpcoaaGreatDoor

set_option linter.unusedVariables false
set_option maxRecDepth 100000
namespace Go.Proofs.YtnpcjhcgbcpcoaaGreatDoor
open Go.Hl
/- unicode/utf8.RuneCountInString -/
def unicode_utf8_RuneCountInString_ea : Ann := .two (.none) (.two (.two (.none) (.sub (.loop [(2, .any)] (.two (.none) (.two (.two (.none) (.none)) (.sub (.none))))))) (.two (.none) (.none)))
noncomputable def unicode_utf8_RuneCountInString_e (C : Cal) (N : Nat) (a0 : SV) (K : SV → ER) : ER :=
  eRange Tryz.prog 9 a0 fun x1 => eHas .any (.int .i64 0) (eIter (σ := SV × Unit) (fun (s3 : SV × Unit) (k2 : SV × Unit → ER) =>
  eNextV x1 (fun a4 c5 => eBin Tryz.prog .add 3 false s3.1 (.int .i64 1) fun x6 => eHas .any x6 (k2 (x6, ())))
  (K s3.1)) N ((.int .i64 0), ()))
theorem unicode_utf8_RuneCountInString_ee (C : Cal) (N : Nat) (a0 : SV) (K : SV → ER) : eBody Tryz.prog C N Tryz.f276 (Tryz.f276.body.getD .skip) unicode_utf8_RuneCountInString_ea [a0] K = unicode_utf8_RuneCountInString_e C N a0 K := by kernel_rfl
noncomputable def l276 : LeafT := fun C N args K => match args with
  | [a0] => unicode_utf8_RuneCountInString_e C N a0 K
  | _ => eF
theorem lok276 : LeafOk Tryz.prog 276 l276 := ⟨Tryz.f276, Tryz.f276.body.getD .skip, unicode_utf8_RuneCountInString_ea, Tryz.func276, by kernel_rfl, Tryz.call276, fun C N args K H e => by
  unfold l276 at e
  split at e
  · rw [unicode_utf8_RuneCountInString_ee]; exact e
  · exact eF_no e⟩

/- unicode/utf8.DecodeRuneInString -/
def unicode_utf8_DecodeRuneInString_ea : Ann := .two (.none) (.two (.join (.none) (.two (.two (.none) (.none)) (.none)) [(10, .any)]) (.none))
noncomputable def unicode_utf8_DecodeRuneInString_p0 (a0 : SV) (k1 : SV × Unit → ER) : ER :=
  eBin Tryz.prog .neq 9 false a0 (.str []) fun x3 => eIfV x3
  (eIndexS Tryz.prog 9 a0 (.int .i64 0) fun x4 => eBin Tryz.prog .lss 5 false x4 (.int .u8 128) fun x5 => eHas .any x5 (k1 (x5, ())))
  (eHas .any (.bool false) (k1 ((.bool false), ())))
noncomputable def unicode_utf8_DecodeRuneInString_p1 (C : Cal) (K : SV → ER) (a0 : SV) (s2 : SV × Unit) : ER :=
  eIfV s2.1
  (eIndexS Tryz.prog 9 a0 (.int .i64 0) fun x6 => eConvS Tryz.prog 5 21 x6 fun x7 => K (.tup [x7, (.int .i64 1)]))
  (eCallR Tryz.prog C 279 [a0] 273 fun x8 => eExtract x8 0 fun x9 => eExtract x8 1 fun x10 => K (.tup [x9, x10]))
noncomputable def unicode_utf8_DecodeRuneInString_e (C : Cal) (N : Nat) (a0 : SV) (K : SV → ER) : ER :=
  eJoinC (σ := SV × Unit) (fun (k1 : SV × Unit → ER) =>
  unicode_utf8_DecodeRuneInString_p0 a0 k1) fun (s2 : SV × Unit) =>
  unicode_utf8_DecodeRuneInString_p1 C K a0 s2
theorem unicode_utf8_DecodeRuneInString_ee (C : Cal) (N : Nat) (a0 : SV) (K : SV → ER) : eBody Tryz.prog C N Tryz.f277 (Tryz.f277.body.getD .skip) unicode_utf8_DecodeRuneInString_ea [a0] K = unicode_utf8_DecodeRuneInString_e C N a0 K := by kernel_rfl
noncomputable def l277 : LeafT := fun C N args K => match args with
  | [a0] => unicode_utf8_DecodeRuneInString_e C N a0 K
  | _ => eF
theorem lok277 : LeafOk Tryz.prog 277 l277 := ⟨Tryz.f277, Tryz.f277.body.getD .skip, unicode_utf8_DecodeRuneInString_ea, Tryz.func277, by kernel_rfl, Tryz.call277, fun C N args K H e => by
  unfold l277 at e
  split at e
  · rw [unicode_utf8_DecodeRuneInString_ee]; exact e
  · exact eF_no e⟩

/- unicode/utf8.decodeRuneInStringSlow -/
def unicode_utf8_decodeRuneInStringSlow_ea : Ann := .two (.none) (.two (.none) (.two (.two (.none) (.two (.two (.none) (.none)) (.none))) (.two (.none) (.two (.none) (.two (.two (.none) (.two (.two (.none) (.two (.none) (.none))) (.none))) (.two (.none) (.two (.none) (.two (.two (.none) (.two (.two (.none) (.none)) (.none))) (.two (.none) (.two (.join (.none) (.two (.two (.none) (.none)) (.none)) [(57, .any)]) (.two (.two (.none) (.two (.two (.none) (.none)) (.none))) (.two (.none) (.two (.join (.none) (.two (.two (.none) (.none)) (.none)) [(75, .any)]) (.two (.two (.none) (.two (.two (.none) (.none)) (.none))) (.two (.none) (.two (.join (.none) (.two (.two (.none) (.none)) (.none)) [(98, .any)]) (.two (.none) (.none))))))))))))))))))
noncomputable def unicode_utf8_decodeRuneInStringSlow_e (C : Cal) (N : Nat) (a0 : SV) (K : SV → ER) : ER :=
  eLenS Tryz.prog [9] [a0] fun x1 => eBin Tryz.prog .lss 3 false x1 (.int .i64 1) fun x2 => eIfV x2
  (K (.tup [(.int .i32 65533), (.int .i64 0)]))
  (eIndexS Tryz.prog 9 a0 (.int .i64 0) fun x3 => eF)
theorem unicode_utf8_decodeRuneInStringSlow_ee (C : Cal) (N : Nat) (a0 : SV) (K : SV → ER) : eBody Tryz.prog C N Tryz.f279 (Tryz.f279.body.getD .skip) unicode_utf8_decodeRuneInStringSlow_ea [a0] K = unicode_utf8_decodeRuneInStringSlow_e C N a0 K := by kernel_rfl
noncomputable def l279 : LeafT := fun C N args K => match args with
  | [a0] => unicode_utf8_decodeRuneInStringSlow_e C N a0 K
  | _ => eF
theorem lok279 : LeafOk Tryz.prog 279 l279 := ⟨Tryz.f279, Tryz.f279.body.getD .skip, unicode_utf8_decodeRuneInStringSlow_ea, Tryz.func279, by kernel_rfl, Tryz.call279, fun C N args K H e => by
  unfold l279 at e
  split at e
  · rw [unicode_utf8_decodeRuneInStringSlow_ee]; exact e
  · exact eF_no e⟩

/- (halberd/inodes.free).Len -/
def inodes_free_Len_ea : Ann := .two (.none) (.two (.none) (.none))
noncomputable def inodes_free_Len_e (C : Cal) (N : Nat) (a0 : SV) (K : SV → ER) : ER :=
  eLenS Tryz.prog [62] [a0] fun x1 => K x1
theorem inodes_free_Len_ee (C : Cal) (N : Nat) (a0 : SV) (K : SV → ER) : eBody Tryz.prog C N Tryz.f296 (Tryz.f296.body.getD .skip) inodes_free_Len_ea [a0] K = inodes_free_Len_e C N a0 K := by kernel_rfl
noncomputable def l296 : LeafT := fun C N args K => match args with
  | [a0] => inodes_free_Len_e C N a0 K
  | _ => eF
theorem lok296 : LeafOk Tryz.prog 296 l296 := ⟨Tryz.f296, Tryz.f296.body.getD .skip, inodes_free_Len_ea, Tryz.func296, by kernel_rfl, Tryz.call296, fun C N args K H e => by
  unfold l296 at e
  split at e
  · rw [inodes_free_Len_ee]; exact e
  · exact eF_no e⟩

/- (halberd/inodes.free).Less -/
def inodes_free_Less_ea : Ann := .two (.none) (.two (.ord [0, 1, 2, 4, 5, 6, 3, 7, 8, 9]) (.none))
noncomputable def inodes_free_Less_e (C : Cal) (N : Nat) (a0 a1 a2 : SV) (K : SV → ER) : ER :=
  eIndexAddrS Tryz.prog 62 a0 a1 fun x1 => eIndexAddrS Tryz.prog 62 a0 a2 fun x2 => eLoad Tryz.prog 3 x1 fun x3 => eLoad Tryz.prog 3 x2 fun x4 => eBin Tryz.prog .lss 3 false x3 x4 fun x5 => K x5
theorem inodes_free_Less_ee (C : Cal) (N : Nat) (a0 a1 a2 : SV) (K : SV → ER) : eBody Tryz.prog C N Tryz.f297 (Tryz.f297.body.getD .skip) inodes_free_Less_ea [a0, a1, a2] K = inodes_free_Less_e C N a0 a1 a2 K := by kernel_rfl
noncomputable def l297 : LeafT := fun C N args K => match args with
  | [a0, a1, a2] => inodes_free_Less_e C N a0 a1 a2 K
  | _ => eF
theorem lok297 : LeafOk Tryz.prog 297 l297 := ⟨Tryz.f297, Tryz.f297.body.getD .skip, inodes_free_Less_ea, Tryz.func297, by kernel_rfl, Tryz.call297, fun C N args K H e => by
  unfold l297 at e
  split at e
  · rw [inodes_free_Less_ee]; exact e
  · exact eF_no e⟩

/- (halberd/inodes.free).Swap -/
def inodes_free_Swap_ea : Ann := .ord [0, 1, 2, 3, 4, 5, 6, 8, 9, 10, 7, 11, 12, 13, 14, 15]
noncomputable def inodes_free_Swap_e (C : Cal) (N : Nat) (a0 a1 a2 : SV) (K : SV → ER) : ER :=
  eIndexAddrS Tryz.prog 62 a0 a2 fun x1 => eIndexAddrS Tryz.prog 62 a0 a1 fun x2 => eLoad Tryz.prog 3 x1 fun x3 => eLoad Tryz.prog 3 x2 fun x4 => eIndexAddrS Tryz.prog 62 a0 a1 fun x5 => eStore Tryz.prog 3 x5 x3 <| eIndexAddrS Tryz.prog 62 a0 a2 fun x6 => eStore Tryz.prog 3 x6 x4 <| K (.tup [])
theorem inodes_free_Swap_ee (C : Cal) (N : Nat) (a0 a1 a2 : SV) (K : SV → ER) : eBody Tryz.prog C N Tryz.f298 (Tryz.f298.body.getD .skip) inodes_free_Swap_ea [a0, a1, a2] K = inodes_free_Swap_e C N a0 a1 a2 K := by kernel_rfl
noncomputable def l298 : LeafT := fun C N args K => match args with
  | [a0, a1, a2] => inodes_free_Swap_e C N a0 a1 a2 K
  | _ => eF
theorem lok298 : LeafOk Tryz.prog 298 l298 := ⟨Tryz.f298, Tryz.f298.body.getD .skip, inodes_free_Swap_ea, Tryz.func298, by kernel_rfl, Tryz.call298, fun C N args K H e => by
  unfold l298 at e
  split at e
  · rw [inodes_free_Swap_ee]; exact e
  · exact eF_no e⟩

/- (*halberd/inodes.free).Pop -/
def inodes_free_Pop_ea : Ann := .two (.none) (.two (.none) (.two (.none) (.two (.none) (.two (.none) (.none)))))
noncomputable def inodes_free_Pop_e (C : Cal) (N : Nat) (a0 : SV) (K : SV → ER) : ER :=
  eNilCk a0 fun x1 => eLoad Tryz.prog 62 x1 fun x2 => eLenS Tryz.prog [62] [x2] fun x3 => eBin Tryz.prog .sub 3 false x3 (.int .i64 1) fun x4 => eIndexAddrS Tryz.prog 62 x2 x4 fun x5 => eLoad Tryz.prog 3 x5 fun x6 => eLenS Tryz.prog [62] [x2] fun x7 => eBin Tryz.prog .sub 3 false x7 (.int .i64 1) fun x8 => eSliceS Tryz.prog 62 x2 none (some (.v x8)) none fun x9 => eNilCk a0 fun x10 => eStore Tryz.prog 62 x10 x9 <| eMakeIface Tryz.prog 3 x6 fun x11 => K x11
theorem inodes_free_Pop_ee (C : Cal) (N : Nat) (a0 : SV) (K : SV → ER) : eBody Tryz.prog C N Tryz.f299 (Tryz.f299.body.getD .skip) inodes_free_Pop_ea [a0] K = inodes_free_Pop_e C N a0 K := by kernel_rfl
noncomputable def l299 : LeafT := fun C N args K => match args with
  | [a0] => inodes_free_Pop_e C N a0 K
  | _ => eF
theorem lok299 : LeafOk Tryz.prog 299 l299 := ⟨Tryz.f299, Tryz.f299.body.getD .skip, inodes_free_Pop_ea, Tryz.func299, by kernel_rfl, Tryz.call299, fun C N args K H e => by
  unfold l299 at e
  split at e
  · rw [inodes_free_Pop_ee]; exact e
  · exact eF_no e⟩

/- (*halberd/inodes.free).Push -/
def inodes_free_Push_ea : Ann := .ord [0, 1, 2, 4, 5, 3, 6, 7, 8, 9]
noncomputable def inodes_free_Push_e (C : Cal) (N : Nat) (a0 a1 : SV) (K : SV → ER) : ER :=
  eNilCk a0 fun x1 => eTA Tryz.prog a1 3 false fun x2 => eLoad Tryz.prog 62 x1 fun x3 => eBuildSlice Tryz.prog 62 1 [(0, x2)] fun x4 => eApp Tryz.prog [62, 62] [x3, x4] fun x5 => eNilCk a0 fun x6 => eStore Tryz.prog 62 x6 x5 <| K (.tup [])
theorem inodes_free_Push_ee (C : Cal) (N : Nat) (a0 a1 : SV) (K : SV → ER) : eBody Tryz.prog C N Tryz.f300 (Tryz.f300.body.getD .skip) inodes_free_Push_ea [a0, a1] K = inodes_free_Push_e C N a0 a1 K := by kernel_rfl
noncomputable def l300 : LeafT := fun C N args K => match args with
  | [a0, a1] => inodes_free_Push_e C N a0 a1 K
  | _ => eF
theorem lok300 : LeafOk Tryz.prog 300 l300 := ⟨Tryz.f300, Tryz.f300.body.getD .skip, inodes_free_Push_ea, Tryz.func300, by kernel_rfl, Tryz.call300, fun C N args K H e => by
  unfold l300 at e
  split at e
  · rw [inodes_free_Push_ee]; exact e
  · exact eF_no e⟩

end Go.Proofs.YtnpcjhcgbcpcoaaGreatDoor
