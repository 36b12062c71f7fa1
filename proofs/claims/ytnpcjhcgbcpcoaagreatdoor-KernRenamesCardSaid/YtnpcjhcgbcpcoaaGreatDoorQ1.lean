/- The evaluator's texts of this seat's functions. Written by a program of this session. -/
import Derived.Test.YtnpcjhcgbcpcoaaGreatDoorV
import Derived.Test.YtnpcjhcgbcpcoaaGreatDoorE2
set_option linter.unusedVariables false
set_option maxRecDepth 100000
namespace Go.Proofs.YtnpcjhcgbcpcoaaGreatDoor
open Go.Hl
/- halberd/perms.Stat -/
def perms_Stat_ea : Ann := .two (.none) (.two (.none) (.join (.two (.none) (.two (.none) (.none))) (.two (.none) (.two (.two (.none) (.sub (.loop [(4, .any), (31, .any)] (.two (.none) (.two (.two (.none) (.none)) (.two (.sub (.two (.none) (.none))) (.none))))))) (.two (.none) (.none)))) [(3, .any)]))
noncomputable def perms_Stat_p0 (C : Cal) (k27 : SV × SV × Unit → ER) (s28 : SV × SV × Unit) (x25 : SV) : ER :=
  eIndexAddrS Tryz.prog 38 x25 s28.2.1 fun x30 => eLoad Tryz.prog 3 x30 fun x31 => eCallR Tryz.prog C 177 [x31] 9 fun x32 => eBuildSlice Tryz.prog 25 1 [(0, x32)] fun x33 => eApp Tryz.prog [25, 25] [s28.1, x33] fun x34 => eBin Tryz.prog .add 3 false s28.2.1 (.int .i64 1) fun x35 => eHas .any x34 (eHas .any x35 (k27 (x34, x35, ())))
noncomputable def perms_Stat_p1 (C : Cal) (K : SV → ER) (N : Nat) (s6 : SV × Unit) (x14 : SV) (x16 : SV) (x18 : SV) (x20 : SV) (x22 : SV) (x23 : SV) : ER :=
  eLoad Tryz.prog 3 x23 fun x24 => eBuildSlice Tryz.prog 38 7 [(0, x14), (1, x16), (2, x18), (3, x20), (4, x22), (5, x24), (6, s6.1)] fun x25 => eLenS Tryz.prog [38] [x25] fun x26 => eHas .any (.sl ⟨none, 0, .lit 0⟩) (eHas .any (.int .i64 0) (eIter (σ := SV × SV × Unit) (fun (s28 : SV × SV × Unit) (k27 : SV × SV × Unit → ER) =>
  eBin Tryz.prog .lss 3 false s28.2.1 x26 fun x29 => eIfV x29
  (perms_Stat_p0 C k27 s28 x25)
  (eCallR Tryz.prog C 178 [s28.1, (.str [32])] 9 fun x36 => K x36)) N ((.sl ⟨none, 0, .lit 0⟩), (.int .i64 0), ())))
noncomputable def perms_Stat_p2 (k5 : SV × Unit → ER) (x1 : SV) (x4 : SV) : ER :=
  eFieldAddr Tryz.prog 40 x1 2 fun x7 => eLoad Tryz.prog 3 x7 fun x8 => eBin Tryz.prog .eql 3 false x8 (.int .i64 2) fun x9 => eIfV x9
  (eFieldAddr Tryz.prog 40 x1 8 fun x10 => eLoad Tryz.prog 25 x10 fun x11 => eLenS Tryz.prog [25] [x11] fun x12 => eHas .any x12 (k5 (x12, ())))
  (eHas .any x4 (k5 (x4, ())))
noncomputable def perms_Stat_p3 (C : Cal) (K : SV → ER) (N : Nat) (s6 : SV × Unit) (x1 : SV) : ER :=
  eFieldAddr Tryz.prog 40 x1 0 fun x13 => eLoad Tryz.prog 3 x13 fun x14 => eFieldAddr Tryz.prog 40 x1 2 fun x15 => eLoad Tryz.prog 3 x15 fun x16 => eFieldAddr Tryz.prog 40 x1 3 fun x17 => eLoad Tryz.prog 3 x17 fun x18 => eFieldAddr Tryz.prog 40 x1 4 fun x19 => eLoad Tryz.prog 3 x19 fun x20 => eFieldAddr Tryz.prog 40 x1 5 fun x21 => eLoad Tryz.prog 3 x21 fun x22 => eFieldAddr Tryz.prog 40 x1 6 fun x23 => perms_Stat_p1 C K N s6 x14 x16 x18 x20 x22 x23
noncomputable def perms_Stat_e (C : Cal) (N : Nat) (a0 : SV) (K : SV → ER) : ER :=
  eBox Tryz.prog 40 a0 fun x1 => eFieldAddr Tryz.prog 40 x1 7 fun x2 => eLoad Tryz.prog 9 x2 fun x3 => eLenS Tryz.prog [9] [x3] fun x4 => eJoinC (σ := SV × Unit) (fun (k5 : SV × Unit → ER) =>
  perms_Stat_p2 k5 x1 x4) fun (s6 : SV × Unit) =>
  perms_Stat_p3 C K N s6 x1
theorem perms_Stat_ee (C : Cal) (N : Nat) (a0 : SV) (K : SV → ER) : eBody Tryz.prog C N Tryz.f111 (Tryz.f111.body.getD .skip) perms_Stat_ea [a0] K = perms_Stat_e C N a0 K := by kernel_rfl
noncomputable def l111 : LeafT := fun C N args K => match args with
  | [a0] => perms_Stat_e C N a0 K
  | _ => eF
theorem lok111 : LeafOk Tryz.prog 111 l111 := ⟨Tryz.f111, Tryz.f111.body.getD .skip, perms_Stat_ea, Tryz.func111, by kernel_rfl, Tryz.call111, fun C N args K H e => by
  unfold l111 at e
  split at e
  · rw [perms_Stat_ee]; exact e
  · exact eF_no e⟩

/- (*halberd/kern.step).object -/
def kern_step_object_ea : Ann := .two (.none) (.two (.none) (.two (.two (.none) (.two (.two (.none) (.none)) (.none))) (.two (.none) (.none))))
noncomputable def kern_step_object_p0 (C : Cal) (K : SV → ER) (a1 : SV) (a2 : SV) (x1 : SV) (x3 : SV) : ER :=
  eLoad Tryz.prog 23 x3 fun x4 => eCallR Tryz.prog C 183 [x4, a1, a2] 190 fun x5 => eExtract x5 0 fun x6 => eExtract x5 1 fun x7 => eAlloc Tryz.prog 124 fun x8 => eStore Tryz.prog 124 x8 x6 <| eUnS .not x7 fun x9 => eIfV x9
  (eBuild Tryz.prog 126 [(0, (.bool true))] fun x10 => eStore Tryz.prog 126 x1 x10 <| eLoad Tryz.prog 126 x1 fun x11 => K x11)
  (eLoad Tryz.prog 124 x8 fun x12 => eBuild Tryz.prog 126 [(1, (.bool true)), (2, x12)] fun x13 => eStore Tryz.prog 126 x1 x13 <| eLoad Tryz.prog 126 x1 fun x14 => K x14)
noncomputable def kern_step_object_e (C : Cal) (N : Nat) (a0 a1 a2 : SV) (K : SV → ER) : ER :=
  eAlloc Tryz.prog 126 fun x1 => eNilCk a0 fun x2 => eFieldAddr Tryz.prog 76 x2 1 fun x3 => kern_step_object_p0 C K a1 a2 x1 x3
theorem kern_step_object_ee (C : Cal) (N : Nat) (a0 a1 a2 : SV) (K : SV → ER) : eBody Tryz.prog C N Tryz.f132 (Tryz.f132.body.getD .skip) kern_step_object_ea [a0, a1, a2] K = kern_step_object_e C N a0 a1 a2 K := by kernel_rfl
noncomputable def l132 : LeafT := fun C N args K => match args with
  | [a0, a1, a2] => kern_step_object_e C N a0 a1 a2 K
  | _ => eF
theorem lok132 : LeafOk Tryz.prog 132 l132 := ⟨Tryz.f132, Tryz.f132.body.getD .skip, kern_step_object_ea, Tryz.func132, by kernel_rfl, Tryz.call132, fun C N args K H e => by
  unfold l132 at e
  split at e
  · rw [kern_step_object_ee]; exact e
  · exact eF_no e⟩

/- (*halberd/kern.step).getpid$1 -/
def kern_step_getpid_1_ea : Ann := .two (.none) (.two (.none) (.none))
noncomputable def kern_step_getpid_1_e (C : Cal) (N : Nat) (a0 : SV) (K : SV → ER) : ER :=
  eLoad Tryz.prog 70 a0 fun x1 => eNilCk x1 fun x2 => eFieldAddr Tryz.prog 76 x2 2 fun x3 => eFieldAddr Tryz.prog 50 x3 0 fun x4 => eLoad Tryz.prog 3 x4 fun x5 => K (.tup [x5, (.int .i64 0)])
theorem kern_step_getpid_1_ee (C : Cal) (N : Nat) (a0 : SV) (K : SV → ER) : eBody Tryz.prog C N Tryz.f148 (Tryz.f148.body.getD .skip) kern_step_getpid_1_ea [a0] K = kern_step_getpid_1_e C N a0 K := by kernel_rfl
noncomputable def l148 : LeafT := fun C N args K => match args with
  | [a0] => kern_step_getpid_1_e C N a0 K
  | _ => eF
theorem lok148 : LeafOk Tryz.prog 148 l148 := ⟨Tryz.f148, Tryz.f148.body.getD .skip, kern_step_getpid_1_ea, Tryz.func148, by kernel_rfl, Tryz.call148, fun C N args K H e => by
  unfold l148 at e
  split at e
  · rw [kern_step_getpid_1_ee]; exact e
  · exact eF_no e⟩

/- slices.IndexFunc[[]halberd/api.Task,halberd/api.Task] -/
def slices_IndexFunc_api_Task_api_Task_ea : Ann := .two (.none) (.two (.two (.none) (.sub (.loop [(8, .any)] (.two (.none) (.two (.two (.none) (.none)) (.two (.sub (.two (.none) (.two (.none) (.two (.two (.none) (.none)) (.none))))) (.none))))))) (.two (.none) (.none)))
noncomputable def slices_IndexFunc_api_Task_api_Task_p0 (C : Cal) (K : SV → ER) (a0 : SV) (a1 : SV) (k2 : SV × Unit → ER) (s3 : SV × Unit) : ER :=
  eIndexAddrS Tryz.prog 34 a0 s3.1 fun x5 => eLoad Tryz.prog 50 x5 fun x6 => eCallVR Tryz.prog C a1 [x6] 4 fun x7 => eIfV x7
  (K s3.1)
  (eBin Tryz.prog .add 3 false s3.1 (.int .i64 1) fun x8 => eHas .any x8 (k2 (x8, ())))
noncomputable def slices_IndexFunc_api_Task_api_Task_e (C : Cal) (N : Nat) (a0 a1 : SV) (K : SV → ER) : ER :=
  eLenS Tryz.prog [34] [a0] fun x1 => eHas .any (.int .i64 0) (eIter (σ := SV × Unit) (fun (s3 : SV × Unit) (k2 : SV × Unit → ER) =>
  eBin Tryz.prog .lss 3 false s3.1 x1 fun x4 => eIfV x4
  (slices_IndexFunc_api_Task_api_Task_p0 C K a0 a1 k2 s3)
  (K (.int .i64 (-1)))) N ((.int .i64 0), ()))
theorem slices_IndexFunc_api_Task_api_Task_ee (C : Cal) (N : Nat) (a0 a1 : SV) (K : SV → ER) : eBody Tryz.prog C N Tryz.f149 (Tryz.f149.body.getD .skip) slices_IndexFunc_api_Task_api_Task_ea [a0, a1] K = slices_IndexFunc_api_Task_api_Task_e C N a0 a1 K := by kernel_rfl
noncomputable def l149 : LeafT := fun C N args K => match args with
  | [a0, a1] => slices_IndexFunc_api_Task_api_Task_e C N a0 a1 K
  | _ => eF
theorem lok149 : LeafOk Tryz.prog 149 l149 := ⟨Tryz.f149, Tryz.f149.body.getD .skip, slices_IndexFunc_api_Task_api_Task_ea, Tryz.func149, by kernel_rfl, Tryz.call149, fun C N args K H e => by
  unfold l149 at e
  split at e
  · rw [slices_IndexFunc_api_Task_api_Task_ee]; exact e
  · exact eF_no e⟩

/- slices.IndexFunc[[]halberd/api.File,halberd/api.File] -/
def slices_IndexFunc_api_File_api_File_ea : Ann := .two (.none) (.two (.two (.none) (.sub (.loop [(8, .any)] (.two (.none) (.two (.two (.none) (.none)) (.two (.sub (.two (.none) (.two (.none) (.two (.two (.none) (.none)) (.none))))) (.none))))))) (.two (.none) (.none)))
noncomputable def slices_IndexFunc_api_File_api_File_p0 (C : Cal) (K : SV → ER) (a0 : SV) (a1 : SV) (k2 : SV × Unit → ER) (s3 : SV × Unit) : ER :=
  eIndexAddrS Tryz.prog 101 a0 s3.1 fun x5 => eLoad Tryz.prog 44 x5 fun x6 => eCallVR Tryz.prog C a1 [x6] 4 fun x7 => eIfV x7
  (K s3.1)
  (eBin Tryz.prog .add 3 false s3.1 (.int .i64 1) fun x8 => eHas .any x8 (k2 (x8, ())))
noncomputable def slices_IndexFunc_api_File_api_File_e (C : Cal) (N : Nat) (a0 a1 : SV) (K : SV → ER) : ER :=
  eLenS Tryz.prog [101] [a0] fun x1 => eHas .any (.int .i64 0) (eIter (σ := SV × Unit) (fun (s3 : SV × Unit) (k2 : SV × Unit → ER) =>
  eBin Tryz.prog .lss 3 false s3.1 x1 fun x4 => eIfV x4
  (slices_IndexFunc_api_File_api_File_p0 C K a0 a1 k2 s3)
  (K (.int .i64 (-1)))) N ((.int .i64 0), ()))
theorem slices_IndexFunc_api_File_api_File_ee (C : Cal) (N : Nat) (a0 a1 : SV) (K : SV → ER) : eBody Tryz.prog C N Tryz.f150 (Tryz.f150.body.getD .skip) slices_IndexFunc_api_File_api_File_ea [a0, a1] K = slices_IndexFunc_api_File_api_File_e C N a0 a1 K := by kernel_rfl
noncomputable def l150 : LeafT := fun C N args K => match args with
  | [a0, a1] => slices_IndexFunc_api_File_api_File_e C N a0 a1 K
  | _ => eF
theorem lok150 : LeafOk Tryz.prog 150 l150 := ⟨Tryz.f150, Tryz.f150.body.getD .skip, slices_IndexFunc_api_File_api_File_ea, Tryz.func150, by kernel_rfl, Tryz.call150, fun C N args K H e => by
  unfold l150 at e
  split at e
  · rw [slices_IndexFunc_api_File_api_File_ee]; exact e
  · exact eF_no e⟩

/- slices.IndexFunc[[]halberd/api.Area,halberd/api.Area] -/
def slices_IndexFunc_api_Area_api_Area_ea : Ann := .two (.none) (.two (.two (.none) (.sub (.loop [(8, .any)] (.two (.none) (.two (.two (.none) (.none)) (.two (.sub (.two (.none) (.two (.none) (.two (.two (.none) (.none)) (.none))))) (.none))))))) (.two (.none) (.none)))
noncomputable def slices_IndexFunc_api_Area_api_Area_p0 (C : Cal) (K : SV → ER) (a0 : SV) (a1 : SV) (k2 : SV × Unit → ER) (s3 : SV × Unit) : ER :=
  eIndexAddrS Tryz.prog 104 a0 s3.1 fun x5 => eLoad Tryz.prog 47 x5 fun x6 => eCallVR Tryz.prog C a1 [x6] 4 fun x7 => eIfV x7
  (K s3.1)
  (eBin Tryz.prog .add 3 false s3.1 (.int .i64 1) fun x8 => eHas .any x8 (k2 (x8, ())))
noncomputable def slices_IndexFunc_api_Area_api_Area_e (C : Cal) (N : Nat) (a0 a1 : SV) (K : SV → ER) : ER :=
  eLenS Tryz.prog [104] [a0] fun x1 => eHas .any (.int .i64 0) (eIter (σ := SV × Unit) (fun (s3 : SV × Unit) (k2 : SV × Unit → ER) =>
  eBin Tryz.prog .lss 3 false s3.1 x1 fun x4 => eIfV x4
  (slices_IndexFunc_api_Area_api_Area_p0 C K a0 a1 k2 s3)
  (K (.int .i64 (-1)))) N ((.int .i64 0), ()))
theorem slices_IndexFunc_api_Area_api_Area_ee (C : Cal) (N : Nat) (a0 a1 : SV) (K : SV → ER) : eBody Tryz.prog C N Tryz.f151 (Tryz.f151.body.getD .skip) slices_IndexFunc_api_Area_api_Area_ea [a0, a1] K = slices_IndexFunc_api_Area_api_Area_e C N a0 a1 K := by kernel_rfl
noncomputable def l151 : LeafT := fun C N args K => match args with
  | [a0, a1] => slices_IndexFunc_api_Area_api_Area_e C N a0 a1 K
  | _ => eF
theorem lok151 : LeafOk Tryz.prog 151 l151 := ⟨Tryz.f151, Tryz.f151.body.getD .skip, slices_IndexFunc_api_Area_api_Area_ea, Tryz.func151, by kernel_rfl, Tryz.call151, fun C N args K H e => by
  unfold l151 at e
  split at e
  · rw [slices_IndexFunc_api_Area_api_Area_ee]; exact e
  · exact eF_no e⟩

/- halberd/perms.has -/
def perms_has_ea : Ann := .two (.none) (.two (.two (.none) (.sub (.loop [(9, .any)] (.two (.none) (.two (.two (.none) (.none)) (.two (.sub (.two (.none) (.two (.none) (.two (.two (.none) (.none)) (.none))))) (.none))))))) (.two (.none) (.none)))
noncomputable def perms_has_p0 (K : SV → ER) (a0 : SV) (a1 : SV) (k2 : SV × Unit → ER) (s3 : SV × Unit) : ER :=
  eIndexAddrS Tryz.prog 38 a1 s3.1 fun x5 => eLoad Tryz.prog 3 x5 fun x6 => eBin Tryz.prog .and 3 false a0 x6 fun x7 => eBin Tryz.prog .neq 3 false x7 (.int .i64 0) fun x8 => eIfV x8
  (K (.bool true))
  (eBin Tryz.prog .add 3 false s3.1 (.int .i64 1) fun x9 => eHas .any x9 (k2 (x9, ())))
noncomputable def perms_has_e (C : Cal) (N : Nat) (a0 a1 : SV) (K : SV → ER) : ER :=
  eLenS Tryz.prog [38] [a1] fun x1 => eHas .any (.int .i64 0) (eIter (σ := SV × Unit) (fun (s3 : SV × Unit) (k2 : SV × Unit → ER) =>
  eBin Tryz.prog .lss 3 false s3.1 x1 fun x4 => eIfV x4
  (perms_has_p0 K a0 a1 k2 s3)
  (K (.bool false))) N ((.int .i64 0), ()))
theorem perms_has_ee (C : Cal) (N : Nat) (a0 a1 : SV) (K : SV → ER) : eBody Tryz.prog C N Tryz.f152 (Tryz.f152.body.getD .skip) perms_has_ea [a0, a1] K = perms_has_e C N a0 a1 K := by kernel_rfl
noncomputable def l152 : LeafT := fun C N args K => match args with
  | [a0, a1] => perms_has_e C N a0 a1 K
  | _ => eF
theorem lok152 : LeafOk Tryz.prog 152 l152 := ⟨Tryz.f152, Tryz.f152.body.getD .skip, perms_has_ea, Tryz.func152, by kernel_rfl, Tryz.call152, fun C N args K H e => by
  unfold l152 at e
  split at e
  · rw [perms_has_ee]; exact e
  · exact eF_no e⟩

/- halberd/paths.Find -/
def paths_Find_ea : Ann := .two (.none) (.two (.sub (.two (.none) (.two (.two (.none) (.none)) (.two (.none) (.two (.two (.none) (.none)) (.two (.none) (.two (.two (.none) (.none)) (.none)))))))) (.two (.none) (.two (.none) (.two (.two (.none) (.join (.none) (.two (.two (.none) (.none)) (.none)) [(58, .any)])) (.two (.sub (.loop [] (.two (.two (.none) (.two (.none) (.none))) (.sub (.two (.none) (.two (.two (.none) (.two (.two (.none) (.none)) (.none))) (.two (.none) (.two (.two (.none) (.none)) (.none))))))))) (.two (.none) (.none)))))))
noncomputable def paths_Find_p0 (C : Cal) (K : SV → ER) (x1 : SV) (k30 : Unit → ER) (x13 : SV) : ER :=
  eCallR Tryz.prog C 196 [x13] 199 fun x37 => eExtract x37 0 fun x38 => eExtract x37 1 fun x39 => eExtract x37 2 fun x40 => eAlloc Tryz.prog 113 fun x41 => eStore Tryz.prog 113 x41 x38 <| eBin Tryz.prog .neq 26 false x40 (.int .i64 0) fun x42 => eIfV x42
  (eBuild Tryz.prog 113 [] fun x43 => eStore Tryz.prog 113 x1 x43 <| eLoad Tryz.prog 113 x1 fun x44 => K (.tup [x44, x40]))
  (eIfV x39
  (eLoad Tryz.prog 113 x41 fun x45 => eStore Tryz.prog 113 x1 x45 <| eLoad Tryz.prog 113 x1 fun x46 => K (.tup [x46, (.int .i64 0)]))
  (k30 (())))
noncomputable def paths_Find_p1 (C : Cal) (K : SV → ER) (x1 : SV) (k30 : Unit → ER) (x13 : SV) : ER :=
  eNilCk x13 fun x32 => eFieldAddr Tryz.prog 197 x32 5 fun x33 => eLoad Tryz.prog 25 x33 fun x34 => eLenS Tryz.prog [25] [x34] fun x35 => eBin Tryz.prog .gtr 3 false x35 (.int .i64 0) fun x36 => eIfV x36
  (paths_Find_p0 C K x1 k30 x13)
  (eCallR Tryz.prog C 197 [x13] 113 fun x47 => eStore Tryz.prog 113 x1 x47 <| eLoad Tryz.prog 113 x1 fun x48 => K (.tup [x48, (.int .i64 0)]))
noncomputable def paths_Find_p2 (k22 : SV × Unit → ER) (x20 : SV) (x21 : SV) : ER :=
  eUnS .not x20 fun x24 => eIfV x24
  (eHas .any (.bool true) (k22 ((.bool true), ())))
  (eFieldAddr Tryz.prog 40 x21 2 fun x25 => eLoad Tryz.prog 3 x25 fun x26 => eBin Tryz.prog .neq 3 false x26 (.int .i64 2) fun x27 => eHas .any x27 (k22 (x27, ())))
noncomputable def paths_Find_p3 (C : Cal) (K : SV → ER) (N : Nat) (x1 : SV) (s23 : SV × Unit) (x13 : SV) : ER :=
  eIfV s23.1
  (eBuild Tryz.prog 113 [] fun x28 => eStore Tryz.prog 113 x1 x28 <| eLoad Tryz.prog 113 x1 fun x29 => K (.tup [x29, (.int .i64 2)]))
  (eIter (σ := Unit) (fun (s31 : Unit) (k30 : Unit → ER) =>
  paths_Find_p1 C K x1 k30 x13) N (()))
noncomputable def paths_Find_p4 (C : Cal) (K : SV → ER) (N : Nat) (a0 : SV) (a1 : SV) (a2 : SV) (a3 : SV) (a4 : SV) (a5 : SV) (x1 : SV) : ER :=
  eBuild Tryz.prog 197 [(0, a0), (1, a2), (2, a3), (3, a5), (4, a1)] fun x12 => eBox Tryz.prog 197 x12 fun x13 => eCallR Tryz.prog C 195 [x13, a4] 0 fun x14 => eNilCk x13 fun x15 => eFieldAddr Tryz.prog 197 x15 4 fun x16 => eLoad Tryz.prog 3 x16 fun x17 => eCallR Tryz.prog C 18 [a0, x17] 77 fun x18 => eExtract x18 0 fun x19 => eExtract x18 1 fun x20 => eAlloc Tryz.prog 40 fun x21 => eStore Tryz.prog 40 x21 x19 <| eJoinC (σ := SV × Unit) (fun (k22 : SV × Unit → ER) =>
  paths_Find_p2 k22 x20 x21) fun (s23 : SV × Unit) =>
  paths_Find_p3 C K N x1 s23 x13
noncomputable def paths_Find_p5 (C : Cal) (K : SV → ER) (N : Nat) (a0 : SV) (a1 : SV) (a2 : SV) (a3 : SV) (a4 : SV) (a5 : SV) (x1 : SV) : ER :=
  eCallR Tryz.prog C 102 [a4, (.str [0])] 4 fun x9 => eIfV x9
  (eBuild Tryz.prog 113 [] fun x10 => eStore Tryz.prog 113 x1 x10 <| eLoad Tryz.prog 113 x1 fun x11 => K (.tup [x11, (.int .i64 22)]))
  (paths_Find_p4 C K N a0 a1 a2 a3 a4 a5 x1)
noncomputable def paths_Find_p6 (C : Cal) (K : SV → ER) (N : Nat) (a0 : SV) (a1 : SV) (a2 : SV) (a3 : SV) (a4 : SV) (a5 : SV) (x1 : SV) : ER :=
  eLenS Tryz.prog [9] [a4] fun x5 => eBin Tryz.prog .gtr 3 false x5 (.int .i64 64) fun x6 => eIfV x6
  (eBuild Tryz.prog 113 [] fun x7 => eStore Tryz.prog 113 x1 x7 <| eLoad Tryz.prog 113 x1 fun x8 => K (.tup [x8, (.int .i64 36)]))
  (paths_Find_p5 C K N a0 a1 a2 a3 a4 a5 x1)
noncomputable def paths_Find_e (C : Cal) (N : Nat) (a0 a1 a2 a3 a4 a5 : SV) (K : SV → ER) : ER :=
  eAlloc Tryz.prog 113 fun x1 => eBin Tryz.prog .eql 9 false a4 (.str []) fun x2 => eIfV x2
  (eBuild Tryz.prog 113 [] fun x3 => eStore Tryz.prog 113 x1 x3 <| eLoad Tryz.prog 113 x1 fun x4 => K (.tup [x4, (.int .i64 2)]))
  (paths_Find_p6 C K N a0 a1 a2 a3 a4 a5 x1)
theorem paths_Find_ee (C : Cal) (N : Nat) (a0 a1 a2 a3 a4 a5 : SV) (K : SV → ER) : eBody Tryz.prog C N Tryz.f153 (Tryz.f153.body.getD .skip) paths_Find_ea [a0, a1, a2, a3, a4, a5] K = paths_Find_e C N a0 a1 a2 a3 a4 a5 K := by kernel_rfl
noncomputable def l153 : LeafT := fun C N args K => match args with
  | [a0, a1, a2, a3, a4, a5] => paths_Find_e C N a0 a1 a2 a3 a4 a5 K
  | _ => eF
theorem lok153 : LeafOk Tryz.prog 153 l153 := ⟨Tryz.f153, Tryz.f153.body.getD .skip, paths_Find_ea, Tryz.func153, by kernel_rfl, Tryz.call153, fun C N args K H e => by
  unfold l153 at e
  split at e
  · rw [paths_Find_ee]; exact e
  · exact eF_no e⟩

end Go.Proofs.YtnpcjhcgbcpcoaaGreatDoor

set_option linter.unusedVariables false
set_option maxRecDepth 100000
namespace Go.Proofs.YtnpcjhcgbcpcoaaGreatDoor
open Go.Hl
/- halberd/paths.May -/
def paths_May_ea : Ann := .two (.none) (.two (.none) (.join (.sub (.two (.none) (.two (.join (.none) (.none) [(8, .any)]) (.two (.none) (.two (.none) (.two (.none) (.two (.none) (.none)))))))) (.two (.none) (.none)) [(9, .any)]))
noncomputable def paths_May_p0 (k8 : SV × Unit → ER) (x1 : SV) : ER :=
  eFieldAddr Tryz.prog 40 x1 3 fun x15 => eLoad Tryz.prog 3 x15 fun x16 => eBin Tryz.prog .and 3 false x16 (.int .i64 73) fun x17 => eBin Tryz.prog .neq 3 false x17 (.int .i64 0) fun x18 => eHas .any x18 (k8 (x18, ()))
noncomputable def paths_May_p1 (k8 : SV × Unit → ER) (x1 : SV) : ER :=
  eFieldAddr Tryz.prog 40 x1 2 fun x12 => eLoad Tryz.prog 3 x12 fun x13 => eBin Tryz.prog .eql 3 false x13 (.int .i64 2) fun x14 => eIfV x14
  (eHas .any (.bool true) (k8 ((.bool true), ())))
  (paths_May_p0 k8 x1)
noncomputable def paths_May_p2 (K : SV → ER) (a3 : SV) (x1 : SV) : ER :=
  eJoinC (σ := SV × Unit) (fun (k8 : SV × Unit → ER) =>
  eBin Tryz.prog .and 3 false a3 (.int .i64 1) fun x10 => eBin Tryz.prog .eql 3 false x10 (.int .i64 0) fun x11 => eIfV x11
  (eHas .any (.bool true) (k8 ((.bool true), ())))
  (paths_May_p1 k8 x1)) fun (s9 : SV × Unit) =>
  K s9.1
noncomputable def paths_May_p3 (k5 : SV × Unit → ER) (x1 : SV) : ER :=
  eFieldAddr Tryz.prog 40 x1 3 fun x22 => eLoad Tryz.prog 3 x22 fun x23 => eBin Tryz.prog .shr 3 false x23 (.int .u64 6) fun x24 => eBin Tryz.prog .and 3 false x24 (.int .i64 7) fun x25 => eHas .any x25 (k5 (x25, ()))
noncomputable def paths_May_p4 (k5 : SV × Unit → ER) (x1 : SV) : ER :=
  eFieldAddr Tryz.prog 40 x1 3 fun x29 => eLoad Tryz.prog 3 x29 fun x30 => eBin Tryz.prog .shr 3 false x30 (.int .u64 3) fun x31 => eBin Tryz.prog .and 3 false x31 (.int .i64 7) fun x32 => eHas .any x32 (k5 (x32, ()))
noncomputable def paths_May_p5 (a1 : SV) (a2 : SV) (k5 : SV × Unit → ER) (x1 : SV) (x4 : SV) : ER :=
  eFieldAddr Tryz.prog 40 x1 4 fun x19 => eLoad Tryz.prog 3 x19 fun x20 => eBin Tryz.prog .eql 3 false a1 x20 fun x21 => eIfV x21
  (paths_May_p3 k5 x1)
  (eFieldAddr Tryz.prog 40 x1 5 fun x26 => eLoad Tryz.prog 3 x26 fun x27 => eBin Tryz.prog .eql 3 false a2 x27 fun x28 => eIfV x28
  (paths_May_p4 k5 x1)
  (eHas .any x4 (k5 (x4, ()))))
noncomputable def paths_May_e (C : Cal) (N : Nat) (a0 a1 a2 a3 : SV) (K : SV → ER) : ER :=
  eBox Tryz.prog 40 a0 fun x1 => eFieldAddr Tryz.prog 40 x1 3 fun x2 => eLoad Tryz.prog 3 x2 fun x3 => eBin Tryz.prog .and 3 false x3 (.int .i64 7) fun x4 => eJoinC (σ := SV × Unit) (fun (k5 : SV × Unit → ER) =>
  eBin Tryz.prog .eql 3 false a1 (.int .i64 0) fun x7 => eIfV x7
  (paths_May_p2 K a3 x1)
  (paths_May_p5 a1 a2 k5 x1 x4)) fun (s6 : SV × Unit) =>
  eBin Tryz.prog .and 3 false s6.1 a3 fun x33 => eBin Tryz.prog .eql 3 false x33 a3 fun x34 => K x34
theorem paths_May_ee (C : Cal) (N : Nat) (a0 a1 a2 a3 : SV) (K : SV → ER) : eBody Tryz.prog C N Tryz.f154 (Tryz.f154.body.getD .skip) paths_May_ea [a0, a1, a2, a3] K = paths_May_e C N a0 a1 a2 a3 K := by kernel_rfl
noncomputable def l154 : LeafT := fun C N args K => match args with
  | [a0, a1, a2, a3] => paths_May_e C N a0 a1 a2 a3 K
  | _ => eF
theorem lok154 : LeafOk Tryz.prog 154 l154 := ⟨Tryz.f154, Tryz.f154.body.getD .skip, paths_May_ea, Tryz.func154, by kernel_rfl, Tryz.call154, fun C N args K H e => by
  unfold l154 at e
  split at e
  · rw [paths_May_ee]; exact e
  · exact eF_no e⟩

/- (*halberd/tasks.Table).Open -/
def tasks_Table_Open_ea : Ann := .two (.none) (.two (.none) (.two (.two (.none) (.sub (.loop [(3, .any), (9, .any)] (.two (.none) (.two (.two (.none) (.none)) (.two (.sub (.two (.none) (.none))) (.none))))))) (.two (.none) (.none))))
noncomputable def tasks_Table_Open_p0 (C : Cal) (k3 : SV × SV × Unit → ER) (s4 : SV × SV × Unit) (x1 : SV) : ER :=
  eIndexAddrS Tryz.prog 34 x1 s4.2.1 fun x6 => eLoad Tryz.prog 50 x6 fun x7 => eAlloc Tryz.prog 50 fun x8 => eStore Tryz.prog 50 x8 x7 <| eLoad Tryz.prog 50 x8 fun x9 => eCallR Tryz.prog C 181 [x9] 3 fun x10 => eBin Tryz.prog .add 3 false s4.1 x10 fun x11 => eBin Tryz.prog .add 3 false s4.2.1 (.int .i64 1) fun x12 => eHas .any x11 (eHas .any x12 (k3 (x11, x12, ())))
noncomputable def tasks_Table_Open_e (C : Cal) (N : Nat) (a0 : SV) (K : SV → ER) : ER :=
  eCallR Tryz.prog C 14 [a0] 34 fun x1 => eLenS Tryz.prog [34] [x1] fun x2 => eHas .any (.int .i64 0) (eHas .any (.int .i64 0) (eIter (σ := SV × SV × Unit) (fun (s4 : SV × SV × Unit) (k3 : SV × SV × Unit → ER) =>
  eBin Tryz.prog .lss 3 false s4.2.1 x2 fun x5 => eIfV x5
  (tasks_Table_Open_p0 C k3 s4 x1)
  (K s4.1)) N ((.int .i64 0), (.int .i64 0), ())))
theorem tasks_Table_Open_ee (C : Cal) (N : Nat) (a0 : SV) (K : SV → ER) : eBody Tryz.prog C N Tryz.f155 (Tryz.f155.body.getD .skip) tasks_Table_Open_ea [a0] K = tasks_Table_Open_e C N a0 K := by kernel_rfl
noncomputable def l155 : LeafT := fun C N args K => match args with
  | [a0] => tasks_Table_Open_e C N a0 K
  | _ => eF
theorem lok155 : LeafOk Tryz.prog 155 l155 := ⟨Tryz.f155, Tryz.f155.body.getD .skip, tasks_Table_Open_ea, Tryz.func155, by kernel_rfl, Tryz.call155, fun C N args K H e => by
  unfold l155 at e
  split at e
  · rw [tasks_Table_Open_ee]; exact e
  · exact eF_no e⟩

/- (*halberd/kern.step).tells$1 -/
def kern_step_tells_1_ea : Ann := .two (.none) (.two (.none) (.none))
noncomputable def kern_step_tells_1_e (C : Cal) (N : Nat) (a0 : SV) (K : SV → ER) : ER :=
  eAlloc Tryz.prog 28 fun x1 => eLoad Tryz.prog 132 a0 fun x2 => eCallVR Tryz.prog C x2 [] 130 fun x3 => eExtract x3 0 fun x4 => eExtract x3 1 fun x5 => eCallR Tryz.prog C 157 [x4, x5] 28 fun x6 => eStore Tryz.prog 28 x1 x6 <| eLoad Tryz.prog 28 x1 fun x7 => K x7
theorem kern_step_tells_1_ee (C : Cal) (N : Nat) (a0 : SV) (K : SV → ER) : eBody Tryz.prog C N Tryz.f156 (Tryz.f156.body.getD .skip) kern_step_tells_1_ea [a0] K = kern_step_tells_1_e C N a0 K := by kernel_rfl
noncomputable def l156 : LeafT := fun C N args K => match args with
  | [a0] => kern_step_tells_1_e C N a0 K
  | _ => eF
theorem lok156 : LeafOk Tryz.prog 156 l156 := ⟨Tryz.f156, Tryz.f156.body.getD .skip, kern_step_tells_1_ea, Tryz.func156, by kernel_rfl, Tryz.call156, fun C N args K H e => by
  unfold l156 at e
  split at e
  · rw [kern_step_tells_1_ee]; exact e
  · exact eF_no e⟩

/- halberd/kern.numberOr -/
def kern_numberOr_ea : Ann := .two (.none) (.two (.two (.none) (.two (.two (.none) (.none)) (.none))) (.two (.none) (.none)))
noncomputable def kern_numberOr_e (C : Cal) (N : Nat) (a0 a1 : SV) (K : SV → ER) : ER :=
  eAlloc Tryz.prog 28 fun x1 => eBin Tryz.prog .neq 26 false a1 (.int .i64 0) fun x2 => eIfV x2
  (eBuild Tryz.prog 28 [(1, a1)] fun x3 => eStore Tryz.prog 28 x1 x3 <| eLoad Tryz.prog 28 x1 fun x4 => K x4)
  (eCallR Tryz.prog C 163 [a0] 28 fun x5 => eStore Tryz.prog 28 x1 x5 <| eLoad Tryz.prog 28 x1 fun x6 => K x6)
theorem kern_numberOr_ee (C : Cal) (N : Nat) (a0 a1 : SV) (K : SV → ER) : eBody Tryz.prog C N Tryz.f157 (Tryz.f157.body.getD .skip) kern_numberOr_ea [a0, a1] K = kern_numberOr_e C N a0 a1 K := by kernel_rfl
noncomputable def l157 : LeafT := fun C N args K => match args with
  | [a0, a1] => kern_numberOr_e C N a0 a1 K
  | _ => eF
theorem lok157 : LeafOk Tryz.prog 157 l157 := ⟨Tryz.f157, Tryz.f157.body.getD .skip, kern_numberOr_ea, Tryz.func157, by kernel_rfl, Tryz.call157, fun C N args K H e => by
  unfold l157 at e
  split at e
  · rw [kern_numberOr_ee]; exact e
  · exact eF_no e⟩

/- (*halberd/tasks.Table).put -/
def tasks_Table_put_ea : Ann := .two (.none) (.two (.none) (.two (.none) (.two (.two (.none) (.two (.two (.none) (.none)) (.none))) (.two (.none) (.none)))))
noncomputable def tasks_Table_put_e (C : Cal) (N : Nat) (a0 a1 a2 : SV) (K : SV → ER) : ER :=
  eBox Tryz.prog 55 a0 fun x1 => eBox Tryz.prog 44 a2 fun x2 => eAlloc Tryz.prog 3 fun x3 => eStore Tryz.prog 3 x3 (.int .i64 (-1)) <| eLoad Tryz.prog 55 x1 fun x4 => eCallR Tryz.prog C 179 [x4, a1, (.fn 198 [] [x3, x1, x2])] 26 fun x5 => eBin Tryz.prog .neq 26 false x5 (.int .i64 0) fun x6 => eIfV x6
  (K (.tup [(.int .i64 0), x5]))
  (eLoad Tryz.prog 3 x3 fun x7 => K (.tup [x7, (.int .i64 0)]))
theorem tasks_Table_put_ee (C : Cal) (N : Nat) (a0 a1 a2 : SV) (K : SV → ER) : eBody Tryz.prog C N Tryz.f158 (Tryz.f158.body.getD .skip) tasks_Table_put_ea [a0, a1, a2] K = tasks_Table_put_e C N a0 a1 a2 K := by kernel_rfl
noncomputable def l158 : LeafT := fun C N args K => match args with
  | [a0, a1, a2] => tasks_Table_put_e C N a0 a1 a2 K
  | _ => eF
theorem lok158 : LeafOk Tryz.prog 158 l158 := ⟨Tryz.f158, Tryz.f158.body.getD .skip, tasks_Table_put_ea, Tryz.func158, by kernel_rfl, Tryz.call158, fun C N args K H e => by
  unfold l158 at e
  split at e
  · rw [tasks_Table_put_ee]; exact e
  · exact eF_no e⟩

/- (*halberd/inodes.Table).Room -/
def inodes_Table_Room_ea : Ann := .two (.none) (.two (.two (.none) (.two (.two (.none) (.none)) (.none))) (.two (.none) (.none)))
noncomputable def inodes_Table_Room_e (C : Cal) (N : Nat) (a0 : SV) (K : SV → ER) : ER :=
  eBin Tryz.prog .eql 53 true a0 (.ptr none) fun x1 => eIfV x1
  (K (.int .i64 0))
  (eNilCk a0 fun x2 => eFieldAddr Tryz.prog 64 x2 1 fun x3 => eLoad Tryz.prog 62 x3 fun x4 => eLenS Tryz.prog [62] [x4] fun x5 => K x5)
theorem inodes_Table_Room_ee (C : Cal) (N : Nat) (a0 : SV) (K : SV → ER) : eBody Tryz.prog C N Tryz.f159 (Tryz.f159.body.getD .skip) inodes_Table_Room_ea [a0] K = inodes_Table_Room_e C N a0 K := by kernel_rfl
noncomputable def l159 : LeafT := fun C N args K => match args with
  | [a0] => inodes_Table_Room_e C N a0 K
  | _ => eF
theorem lok159 : LeafOk Tryz.prog 159 l159 := ⟨Tryz.f159, Tryz.f159.body.getD .skip, inodes_Table_Room_ea, Tryz.func159, by kernel_rfl, Tryz.call159, fun C N args K H e => by
  unfold l159 at e
  split at e
  · rw [inodes_Table_Room_ee]; exact e
  · exact eF_no e⟩

/- (*halberd/inodes.Table).Add -/
def inodes_Table_Add_ea : Ann := .two (.none) (.two (.sub (.join (.none) (.two (.two (.none) (.none)) (.two (.none) (.two (.two (.none) (.none)) (.none)))) [(13, .any)])) (.two (.none) (.two (.ord [0, 1, 2, 3, 4, 5, 6, 7, 8, 11, 12, 13, 14, 16, 17, 9, 10, 15, 18, 19]) (.two (.none) (.none)))))
noncomputable def inodes_Table_Add_p0 (K : SV → ER) (a0 : SV) (a1 : SV) (a2 : SV) (a3 : SV) (a4 : SV) (x14 : SV) : ER :=
  eTA Tryz.prog x14 3 false fun x15 => eNilCk a0 fun x16 => eFieldAddr Tryz.prog 64 x16 0 fun x17 => eIndexAddrS Tryz.prog 61 x17 x15 fun x18 => eFieldAddr Tryz.prog 40 x18 1 fun x19 => eNilCk a0 fun x20 => eFieldAddr Tryz.prog 64 x20 0 fun x21 => eLoad Tryz.prog 3 x19 fun x22 => eBin Tryz.prog .add 3 false x22 (.int .i64 1) fun x23 => eBuild Tryz.prog 40 [(0, x15), (1, x23), (2, a1), (3, a2), (4, a3), (5, a4)] fun x24 => eIndexAddrS Tryz.prog 61 x21 x15 fun x25 => eStore Tryz.prog 40 x25 x24 <| K (.tup [x15, (.int .i64 0)])
noncomputable def inodes_Table_Add_p1 (C : Cal) (K : SV → ER) (a0 : SV) (a1 : SV) (a2 : SV) (a3 : SV) (a4 : SV) : ER :=
  eNilCk a0 fun x6 => eFieldAddr Tryz.prog 64 x6 1 fun x7 => eLoad Tryz.prog 62 x7 fun x8 => eLenS Tryz.prog [62] [x8] fun x9 => eBin Tryz.prog .eql 3 false x9 (.int .i64 0) fun x10 => eIfV x10
  (K (.tup [(.int .i64 0), (.int .i64 28)]))
  (eNilCk a0 fun x11 => eFieldAddr Tryz.prog 64 x11 1 fun x12 => eMakeIface Tryz.prog 66 x12 fun x13 => eCallR Tryz.prog C 200 [x13] 20 fun x14 => inodes_Table_Add_p0 K a0 a1 a2 a3 a4 x14)
noncomputable def inodes_Table_Add_p2 (a0 : SV) (a1 : SV) (k1 : SV × Unit → ER) : ER :=
  eBin Tryz.prog .lss 3 false a1 (.int .i64 1) fun x3 => eIfV x3
  (eHas .any (.bool true) (k1 ((.bool true), ())))
  (eBin Tryz.prog .gtr 3 false a1 (.int .i64 3) fun x4 => eIfV x4
  (eHas .any (.bool true) (k1 ((.bool true), ())))
  (eBin Tryz.prog .eql 53 true a0 (.ptr none) fun x5 => eHas .any x5 (k1 (x5, ()))))
noncomputable def inodes_Table_Add_e (C : Cal) (N : Nat) (a0 a1 a2 a3 a4 : SV) (K : SV → ER) : ER :=
  eJoinC (σ := SV × Unit) (fun (k1 : SV × Unit → ER) =>
  inodes_Table_Add_p2 a0 a1 k1) fun (s2 : SV × Unit) =>
  eIfV s2.1
  (K (.tup [(.int .i64 0), (.int .i64 22)]))
  (inodes_Table_Add_p1 C K a0 a1 a2 a3 a4)
theorem inodes_Table_Add_ee (C : Cal) (N : Nat) (a0 a1 a2 a3 a4 : SV) (K : SV → ER) : eBody Tryz.prog C N Tryz.f160 (Tryz.f160.body.getD .skip) inodes_Table_Add_ea [a0, a1, a2, a3, a4] K = inodes_Table_Add_e C N a0 a1 a2 a3 a4 K := by kernel_rfl
noncomputable def l160 : LeafT := fun C N args K => match args with
  | [a0, a1, a2, a3, a4] => inodes_Table_Add_e C N a0 a1 a2 a3 a4 K
  | _ => eF
theorem lok160 : LeafOk Tryz.prog 160 l160 := ⟨Tryz.f160, Tryz.f160.body.getD .skip, inodes_Table_Add_ea, Tryz.func160, by kernel_rfl, Tryz.call160, fun C N args K H e => by
  unfold l160 at e
  split at e
  · rw [inodes_Table_Add_ee]; exact e
  · exact eF_no e⟩

/- (*halberd/tasks.Table).File -/
def tasks_Table_File_ea : Ann := .two (.none) (.two (.none) (.two (.none) (.two (.none) (.none))))
noncomputable def tasks_Table_File_e (C : Cal) (N : Nat) (a0 a1 a2 : SV) (K : SV → ER) : ER :=
  eAlloc Tryz.prog 44 fun x1 => eAlloc Tryz.prog 44 fun x2 => eCallR Tryz.prog C 164 [a0, a1, a2, (.fn 201 [] [x2])] 26 fun x3 => eLoad Tryz.prog 44 x2 fun x4 => eStore Tryz.prog 44 x1 x4 <| eLoad Tryz.prog 44 x1 fun x5 => K (.tup [x5, x3])
theorem tasks_Table_File_ee (C : Cal) (N : Nat) (a0 a1 a2 : SV) (K : SV → ER) : eBody Tryz.prog C N Tryz.f161 (Tryz.f161.body.getD .skip) tasks_Table_File_ea [a0, a1, a2] K = tasks_Table_File_e C N a0 a1 a2 K := by kernel_rfl
noncomputable def l161 : LeafT := fun C N args K => match args with
  | [a0, a1, a2] => tasks_Table_File_e C N a0 a1 a2 K
  | _ => eF
theorem lok161 : LeafOk Tryz.prog 161 l161 := ⟨Tryz.f161, Tryz.f161.body.getD .skip, tasks_Table_File_ea, Tryz.func161, by kernel_rfl, Tryz.call161, fun C N args K H e => by
  unfold l161 at e
  split at e
  · rw [tasks_Table_File_ee]; exact e
  · exact eF_no e⟩

end Go.Proofs.YtnpcjhcgbcpcoaaGreatDoor

set_option linter.unusedVariables false
set_option maxRecDepth 100000
namespace Go.Proofs.YtnpcjhcgbcpcoaaGreatDoor
open Go.Hl
/- (*halberd/kern.step).does$1 -/
def kern_step_does_1_ea : Ann := .two (.none) (.two (.none) (.two (.none) (.none)))
noncomputable def kern_step_does_1_e (C : Cal) (N : Nat) (a0 : SV) (K : SV → ER) : ER :=
  eAlloc Tryz.prog 28 fun x1 => eLoad Tryz.prog 1 a0 fun x2 => eCallVR Tryz.prog C x2 [] 0 fun x3 => eCallR Tryz.prog C 163 [(.int .i64 0)] 28 fun x4 => eStore Tryz.prog 28 x1 x4 <| eLoad Tryz.prog 28 x1 fun x5 => K x5
theorem kern_step_does_1_ee (C : Cal) (N : Nat) (a0 : SV) (K : SV → ER) : eBody Tryz.prog C N Tryz.f162 (Tryz.f162.body.getD .skip) kern_step_does_1_ea [a0] K = kern_step_does_1_e C N a0 K := by kernel_rfl
noncomputable def l162 : LeafT := fun C N args K => match args with
  | [a0] => kern_step_does_1_e C N a0 K
  | _ => eF
theorem lok162 : LeafOk Tryz.prog 162 l162 := ⟨Tryz.f162, Tryz.f162.body.getD .skip, kern_step_does_1_ea, Tryz.func162, by kernel_rfl, Tryz.call162, fun C N args K H e => by
  unfold l162 at e
  split at e
  · rw [kern_step_does_1_ee]; exact e
  · exact eF_no e⟩

/- halberd/kern.told -/
def kern_told_ea : Ann := .two (.none) (.two (.none) (.none))
noncomputable def kern_told_e (C : Cal) (N : Nat) (a0 : SV) (K : SV → ER) : ER :=
  eAlloc Tryz.prog 28 fun x1 => eBuild Tryz.prog 28 [(0, a0)] fun x2 => eStore Tryz.prog 28 x1 x2 <| eLoad Tryz.prog 28 x1 fun x3 => K x3
theorem kern_told_ee (C : Cal) (N : Nat) (a0 : SV) (K : SV → ER) : eBody Tryz.prog C N Tryz.f163 (Tryz.f163.body.getD .skip) kern_told_ea [a0] K = kern_told_e C N a0 K := by kernel_rfl
noncomputable def l163 : LeafT := fun C N args K => match args with
  | [a0] => kern_told_e C N a0 K
  | _ => eF
theorem lok163 : LeafOk Tryz.prog 163 l163 := ⟨Tryz.f163, Tryz.f163.body.getD .skip, kern_told_ea, Tryz.func163, by kernel_rfl, Tryz.call163, fun C N args K H e => by
  unfold l163 at e
  split at e
  · rw [kern_told_ee]; exact e
  · exact eF_no e⟩

/- (*halberd/tasks.Table).file -/
def tasks_Table_file_ea : Ann := .two (.none) (.two (.none) (.none))
noncomputable def tasks_Table_file_e (C : Cal) (N : Nat) (a0 a1 a2 a3 : SV) (K : SV → ER) : ER :=
  eBox Tryz.prog 3 a2 fun x1 => eBox Tryz.prog 176 a3 fun x2 => eCallR Tryz.prog C 179 [a0, a1, (.fn 202 [] [x1, x2])] 26 fun x3 => K x3
theorem tasks_Table_file_ee (C : Cal) (N : Nat) (a0 a1 a2 a3 : SV) (K : SV → ER) : eBody Tryz.prog C N Tryz.f164 (Tryz.f164.body.getD .skip) tasks_Table_file_ea [a0, a1, a2, a3] K = tasks_Table_file_e C N a0 a1 a2 a3 K := by kernel_rfl
noncomputable def l164 : LeafT := fun C N args K => match args with
  | [a0, a1, a2, a3] => tasks_Table_file_e C N a0 a1 a2 a3 K
  | _ => eF
theorem lok164 : LeafOk Tryz.prog 164 l164 := ⟨Tryz.f164, Tryz.f164.body.getD .skip, tasks_Table_file_ea, Tryz.func164, by kernel_rfl, Tryz.call164, fun C N args K H e => by
  unfold l164 at e
  split at e
  · rw [tasks_Table_file_ee]; exact e
  · exact eF_no e⟩

/- (*halberd/tasks.Table).Seek$1 -/
def tasks_Table_Seek_1_ea : Ann := .none
noncomputable def tasks_Table_Seek_1_e (C : Cal) (N : Nat) (a0 a1 : SV) (K : SV → ER) : ER :=
  eLoad Tryz.prog 3 a1 fun x1 => eNilCk a0 fun x2 => eFieldAddr Tryz.prog 44 x2 2 fun x3 => eStore Tryz.prog 3 x3 x1 <| K (.tup [])
theorem tasks_Table_Seek_1_ee (C : Cal) (N : Nat) (a0 a1 : SV) (K : SV → ER) : eBody Tryz.prog C N Tryz.f166 (Tryz.f166.body.getD .skip) tasks_Table_Seek_1_ea [a0, a1] K = tasks_Table_Seek_1_e C N a0 a1 K := by kernel_rfl
noncomputable def l166 : LeafT := fun C N args K => match args with
  | [a0, a1] => tasks_Table_Seek_1_e C N a0 a1 K
  | _ => eF
theorem lok166 : LeafOk Tryz.prog 166 l166 := ⟨Tryz.f166, Tryz.f166.body.getD .skip, tasks_Table_Seek_1_ea, Tryz.func166, by kernel_rfl, Tryz.call166, fun C N args K H e => by
  unfold l166 at e
  split at e
  · rw [tasks_Table_Seek_1_ee]; exact e
  · exact eF_no e⟩

/- strings.Repeat -/
def strings_Repeat_ea : Ann := .two (.none) (.two (.two (.none) (.sub (.two (.none) (.two (.two (.none) (.none)) (.two (.none) (.two (.two (.none) (.none)) (.none))))))) (.join (.two (.none) (.two (.none) (.none))) (.two (.none) (.join (.join (.none) (.two (.none) (.none)) [(34, .any)]) (.two (.none) (.two (.two (.none) (.two (.two (.none) (.none)) (.none))) (.join (.two (.none) (.sub (.join (.two (.none) (.two (.none) (.two (.none) (.two (.none) (.two (.none) (.two (.none) (.two (.none) (.two (.none) (.none))))))))) (.two (.sub (.join (.none) (.two (.two (.none) (.none)) (.join (.none) (.two (.two (.none) (.none)) (.join (.none) (.two (.two (.none) (.none)) (.join (.none) (.two (.two (.none) (.none)) (.join (.none) (.two (.two (.none) (.none)) (.none)) [(85, .any)])) [(76, .any)])) [(67, .any)])) [(58, .any)])) [(49, .any)])) (.none)) [(43, .any)]))) (.two (.none) (.join (.two (.none) (.two (.two (.none) (.two (.none) (.two (.none) (.none)))) (.none))) (.two (.none) (.two (.none) (.two (.none) (.two (.sub (.loop [] (.two (.two (.none) (.two (.none) (.none))) (.sub (.two (.none) (.none)))))) (.two (.none) (.none)))))) [(8, .any)])) []))) [])) []))
noncomputable def strings_Repeat_p0  : ER :=
  eMakeIface Tryz.prog 9 (.str [115, 116, 114, 105, 110, 103, 115, 58, 32, 82, 101, 112, 101, 97, 116, 32, 111, 117, 116, 112, 117, 116, 32, 108, 101, 110, 103, 116, 104, 32, 111, 118, 101, 114, 102, 108, 111, 119]) fun x19 => eF
noncomputable def strings_Repeat_p1 (k15 : SV × Unit → ER) (x11 : SV) (x12 : SV) : ER :=
  eBin Tryz.prog .gtr 51 false x11 (.int .u64 0) fun x17 => eIfV x17
  (eHas .any (.bool true) (k15 ((.bool true), ())))
  (eBin Tryz.prog .gtr 51 false x12 (.int .u64 9223372036854775807) fun x18 => eHas .any x18 (k15 (x18, ())))
noncomputable def strings_Repeat_p2 (k26 : SV × Unit → ER) (x25 : SV) : ER :=
  eBin Tryz.prog .eql 5 false x25 (.int .u8 48) fun x30 => eIfV x30
  (eHas .any x30 (k26 (x30, ())))
  (eBin Tryz.prog .eql 5 false x25 (.int .u8 61) fun x31 => eIfV x31
  (eHas .any x31 (k26 (x31, ())))
  (eBin Tryz.prog .eql 5 false x25 (.int .u8 9) fun x32 => eHas .any x32 (k26 (x32, ()))))
noncomputable def strings_Repeat_p3 (C : Cal) (a0 : SV) (k33 : SV × Unit → ER) : ER :=
  eCallR Tryz.prog C 204 [(.str [32, 32, 32, 32, 32, 32, 32, 32, 32, 32, 32, 32, 32, 32, 32, 32, 32, 32, 32, 32, 32, 32, 32, 32, 32, 32, 32, 32, 32, 32, 32, 32, 32, 32, 32, 32, 32, 32, 32, 32, 32, 32, 32, 32, 32, 32, 32, 32, 32, 32, 32, 32, 32, 32, 32, 32, 32, 32, 32, 32, 32, 32, 32, 32, 32, 32, 32, 32, 32, 32, 32, 32, 32, 32, 32, 32, 32, 32, 32, 32, 32, 32, 32, 32, 32, 32, 32, 32, 32, 32, 32, 32, 32, 32, 32, 32, 32, 32, 32, 32, 32, 32, 32, 32, 32, 32, 32, 32, 32, 32, 32, 32, 32, 32, 32, 32, 32, 32, 32, 32, 32, 32, 32, 32, 32, 32, 32, 32]), a0] 4 fun x36 => eHas .any x36 (k33 (x36, ()))
noncomputable def strings_Repeat_p4 (K : SV → ER) (x20 : SV) : ER :=
  eSliceS Tryz.prog 9 (.str [32, 32, 32, 32, 32, 32, 32, 32, 32, 32, 32, 32, 32, 32, 32, 32, 32, 32, 32, 32, 32, 32, 32, 32, 32, 32, 32, 32, 32, 32, 32, 32, 32, 32, 32, 32, 32, 32, 32, 32, 32, 32, 32, 32, 32, 32, 32, 32, 32, 32, 32, 32, 32, 32, 32, 32, 32, 32, 32, 32, 32, 32, 32, 32, 32, 32, 32, 32, 32, 32, 32, 32, 32, 32, 32, 32, 32, 32, 32, 32, 32, 32, 32, 32, 32, 32, 32, 32, 32, 32, 32, 32, 32, 32, 32, 32, 32, 32, 32, 32, 32, 32, 32, 32, 32, 32, 32, 32, 32, 32, 32, 32, 32, 32, 32, 32, 32, 32, 32, 32, 32, 32, 32, 32, 32, 32, 32, 32]) none (some (.v x20)) none fun x37 => K x37
noncomputable def strings_Repeat_p5 (C : Cal) (a0 : SV) (k38 : SV × Unit → ER) : ER :=
  eCallR Tryz.prog C 204 [(.str [45, 45, 45, 45, 45, 45, 45, 45, 45, 45, 45, 45, 45, 45, 45, 45, 45, 45, 45, 45, 45, 45, 45, 45, 45, 45, 45, 45, 45, 45, 45, 45, 45, 45, 45, 45, 45, 45, 45, 45, 45, 45, 45, 45, 45, 45, 45, 45, 45, 45, 45, 45, 45, 45, 45, 45, 45, 45, 45, 45, 45, 45, 45, 45, 45, 45, 45, 45, 45, 45, 45, 45, 45, 45, 45, 45, 45, 45, 45, 45, 45, 45, 45, 45, 45, 45, 45, 45, 45, 45, 45, 45, 45, 45, 45, 45, 45, 45, 45, 45, 45, 45, 45, 45, 45, 45, 45, 45, 45, 45, 45, 45, 45, 45, 45, 45, 45, 45, 45, 45, 45, 45, 45, 45, 45, 45, 45, 45]), a0] 4 fun x41 => eHas .any x41 (k38 (x41, ()))
noncomputable def strings_Repeat_p6 (K : SV → ER) (x20 : SV) : ER :=
  eSliceS Tryz.prog 9 (.str [45, 45, 45, 45, 45, 45, 45, 45, 45, 45, 45, 45, 45, 45, 45, 45, 45, 45, 45, 45, 45, 45, 45, 45, 45, 45, 45, 45, 45, 45, 45, 45, 45, 45, 45, 45, 45, 45, 45, 45, 45, 45, 45, 45, 45, 45, 45, 45, 45, 45, 45, 45, 45, 45, 45, 45, 45, 45, 45, 45, 45, 45, 45, 45, 45, 45, 45, 45, 45, 45, 45, 45, 45, 45, 45, 45, 45, 45, 45, 45, 45, 45, 45, 45, 45, 45, 45, 45, 45, 45, 45, 45, 45, 45, 45, 45, 45, 45, 45, 45, 45, 45, 45, 45, 45, 45, 45, 45, 45, 45, 45, 45, 45, 45, 45, 45, 45, 45, 45, 45, 45, 45, 45, 45, 45, 45, 45, 45]) none (some (.v x20)) none fun x42 => K x42
noncomputable def strings_Repeat_p7 (C : Cal) (a0 : SV) (k43 : SV × Unit → ER) : ER :=
  eCallR Tryz.prog C 204 [(.str [48, 48, 48, 48, 48, 48, 48, 48, 48, 48, 48, 48, 48, 48, 48, 48, 48, 48, 48, 48, 48, 48, 48, 48, 48, 48, 48, 48, 48, 48, 48, 48, 48, 48, 48, 48, 48, 48, 48, 48, 48, 48, 48, 48, 48, 48, 48, 48, 48, 48, 48, 48, 48, 48, 48, 48, 48, 48, 48, 48, 48, 48, 48, 48]), a0] 4 fun x46 => eHas .any x46 (k43 (x46, ()))
noncomputable def strings_Repeat_p8 (K : SV → ER) (x20 : SV) : ER :=
  eSliceS Tryz.prog 9 (.str [48, 48, 48, 48, 48, 48, 48, 48, 48, 48, 48, 48, 48, 48, 48, 48, 48, 48, 48, 48, 48, 48, 48, 48, 48, 48, 48, 48, 48, 48, 48, 48, 48, 48, 48, 48, 48, 48, 48, 48, 48, 48, 48, 48, 48, 48, 48, 48, 48, 48, 48, 48, 48, 48, 48, 48, 48, 48, 48, 48, 48, 48, 48, 48]) none (some (.v x20)) none fun x47 => K x47
noncomputable def strings_Repeat_p9 (C : Cal) (a0 : SV) (k48 : SV × Unit → ER) : ER :=
  eCallR Tryz.prog C 204 [(.str [61, 61, 61, 61, 61, 61, 61, 61, 61, 61, 61, 61, 61, 61, 61, 61, 61, 61, 61, 61, 61, 61, 61, 61, 61, 61, 61, 61, 61, 61, 61, 61, 61, 61, 61, 61, 61, 61, 61, 61, 61, 61, 61, 61, 61, 61, 61, 61, 61, 61, 61, 61, 61, 61, 61, 61, 61, 61, 61, 61, 61, 61, 61, 61, 61, 61, 61, 61, 61, 61, 61, 61, 61, 61, 61, 61, 61, 61, 61, 61, 61, 61, 61, 61, 61, 61, 61, 61, 61, 61, 61, 61, 61, 61, 61, 61, 61, 61, 61, 61, 61, 61, 61, 61, 61, 61, 61, 61, 61, 61, 61, 61, 61, 61, 61, 61, 61, 61, 61, 61, 61, 61, 61, 61, 61, 61, 61, 61]), a0] 4 fun x51 => eHas .any x51 (k48 (x51, ()))
noncomputable def strings_Repeat_p10 (K : SV → ER) (x20 : SV) : ER :=
  eSliceS Tryz.prog 9 (.str [61, 61, 61, 61, 61, 61, 61, 61, 61, 61, 61, 61, 61, 61, 61, 61, 61, 61, 61, 61, 61, 61, 61, 61, 61, 61, 61, 61, 61, 61, 61, 61, 61, 61, 61, 61, 61, 61, 61, 61, 61, 61, 61, 61, 61, 61, 61, 61, 61, 61, 61, 61, 61, 61, 61, 61, 61, 61, 61, 61, 61, 61, 61, 61, 61, 61, 61, 61, 61, 61, 61, 61, 61, 61, 61, 61, 61, 61, 61, 61, 61, 61, 61, 61, 61, 61, 61, 61, 61, 61, 61, 61, 61, 61, 61, 61, 61, 61, 61, 61, 61, 61, 61, 61, 61, 61, 61, 61, 61, 61, 61, 61, 61, 61, 61, 61, 61, 61, 61, 61, 61, 61, 61, 61, 61, 61, 61, 61]) none (some (.v x20)) none fun x52 => K x52
noncomputable def strings_Repeat_p11 (C : Cal) (a0 : SV) (k53 : SV × Unit → ER) : ER :=
  eCallR Tryz.prog C 204 [(.str [9, 9, 9, 9, 9, 9, 9, 9, 9, 9, 9, 9, 9, 9, 9, 9, 9, 9, 9, 9, 9, 9, 9, 9, 9, 9, 9, 9, 9, 9, 9, 9, 9, 9, 9, 9, 9, 9, 9, 9, 9, 9, 9, 9, 9, 9, 9, 9, 9, 9, 9, 9, 9, 9, 9, 9, 9, 9, 9, 9, 9, 9, 9, 9]), a0] 4 fun x56 => eHas .any x56 (k53 (x56, ()))
noncomputable def strings_Repeat_p12 (K : SV → ER) (x20 : SV) : ER :=
  eSliceS Tryz.prog 9 (.str [9, 9, 9, 9, 9, 9, 9, 9, 9, 9, 9, 9, 9, 9, 9, 9, 9, 9, 9, 9, 9, 9, 9, 9, 9, 9, 9, 9, 9, 9, 9, 9, 9, 9, 9, 9, 9, 9, 9, 9, 9, 9, 9, 9, 9, 9, 9, 9, 9, 9, 9, 9, 9, 9, 9, 9, 9, 9, 9, 9, 9, 9, 9, 9]) none (some (.v x20)) none fun x57 => K x57
noncomputable def strings_Repeat_p13 (C : Cal) (K : SV → ER) (a0 : SV) (k23 : Unit → ER) (x20 : SV) : ER :=
  eJoinC (σ := SV × Unit) (fun (k53 : SV × Unit → ER) =>
  eBin Tryz.prog .leq 3 false x20 (.int .i64 64) fun x55 => eIfV x55
  (strings_Repeat_p11 C a0 k53)
  (eHas .any (.bool false) (k53 ((.bool false), ())))) fun (s54 : SV × Unit) =>
  eIfV s54.1
  (strings_Repeat_p12 K x20)
  (k23 (()))
noncomputable def strings_Repeat_p14 (C : Cal) (K : SV → ER) (a0 : SV) (k23 : Unit → ER) (x20 : SV) : ER :=
  eJoinC (σ := SV × Unit) (fun (k48 : SV × Unit → ER) =>
  eBin Tryz.prog .leq 3 false x20 (.int .i64 128) fun x50 => eIfV x50
  (strings_Repeat_p9 C a0 k48)
  (eHas .any (.bool false) (k48 ((.bool false), ())))) fun (s49 : SV × Unit) =>
  eIfV s49.1
  (strings_Repeat_p10 K x20)
  (strings_Repeat_p13 C K a0 k23 x20)
noncomputable def strings_Repeat_p15 (C : Cal) (K : SV → ER) (a0 : SV) (k23 : Unit → ER) (x20 : SV) : ER :=
  eJoinC (σ := SV × Unit) (fun (k43 : SV × Unit → ER) =>
  eBin Tryz.prog .leq 3 false x20 (.int .i64 64) fun x45 => eIfV x45
  (strings_Repeat_p7 C a0 k43)
  (eHas .any (.bool false) (k43 ((.bool false), ())))) fun (s44 : SV × Unit) =>
  eIfV s44.1
  (strings_Repeat_p8 K x20)
  (strings_Repeat_p14 C K a0 k23 x20)
noncomputable def strings_Repeat_p16 (C : Cal) (K : SV → ER) (a0 : SV) (k23 : Unit → ER) (x20 : SV) : ER :=
  eJoinC (σ := SV × Unit) (fun (k38 : SV × Unit → ER) =>
  eBin Tryz.prog .leq 3 false x20 (.int .i64 128) fun x40 => eIfV x40
  (strings_Repeat_p5 C a0 k38)
  (eHas .any (.bool false) (k38 ((.bool false), ())))) fun (s39 : SV × Unit) =>
  eIfV s39.1
  (strings_Repeat_p6 K x20)
  (strings_Repeat_p15 C K a0 k23 x20)
noncomputable def strings_Repeat_p17 (C : Cal) (K : SV → ER) (a0 : SV) (k23 : Unit → ER) (x20 : SV) : ER :=
  eJoinC (σ := SV × Unit) (fun (k33 : SV × Unit → ER) =>
  eBin Tryz.prog .leq 3 false x20 (.int .i64 128) fun x35 => eIfV x35
  (strings_Repeat_p3 C a0 k33)
  (eHas .any (.bool false) (k33 ((.bool false), ())))) fun (s34 : SV × Unit) =>
  eIfV s34.1
  (strings_Repeat_p4 K x20)
  (strings_Repeat_p16 C K a0 k23 x20)
noncomputable def strings_Repeat_p18 (k26 : SV × Unit → ER) (x25 : SV) : ER :=
  eBin Tryz.prog .eql 5 false x25 (.int .u8 32) fun x28 => eIfV x28
  (eHas .any x28 (k26 (x28, ())))
  (eBin Tryz.prog .eql 5 false x25 (.int .u8 45) fun x29 => eIfV x29
  (eHas .any x29 (k26 (x29, ())))
  (strings_Repeat_p2 k26 x25))
noncomputable def strings_Repeat_p19 (a0 : SV) (k58 : SV × Unit → ER) : ER :=
  eLenS Tryz.prog [9] [a0] fun x61 => eBin Tryz.prog .quo 3 false (.int .i64 8192) x61 fun x62 => eLenS Tryz.prog [9] [a0] fun x63 => eBin Tryz.prog .mul 3 false x62 x63 fun x64 => eBin Tryz.prog .eql 3 false x64 (.int .i64 0) fun x65 => eIfV x65
  (eLenS Tryz.prog [9] [a0] fun x66 => eHas .any x66 (k58 (x66, ())))
  (eHas .any x64 (k58 (x64, ())))
noncomputable def strings_Repeat_p20 (C : Cal) (k70 : Unit → ER) (s59 : SV × Unit) (x20 : SV) (x67 : SV) : ER :=
  eCallR Tryz.prog C 207 [x67] 3 fun x74 => eBin Tryz.prog .sub 3 false x20 x74 fun x75 => eCallR Tryz.prog C 207 [x67] 3 fun x76 => eMinMaxS false [x75, x76, s59.1] fun x77 => eCallR Tryz.prog C 208 [x67] 9 fun x78 => eSliceS Tryz.prog 9 x78 none (some (.v x77)) none fun x79 => eCallR Tryz.prog C 206 [x67, x79] 213 fun x80 => k70 (())
noncomputable def strings_Repeat_p21 (C : Cal) (K : SV → ER) (N : Nat) (a0 : SV) (s59 : SV × Unit) (x20 : SV) : ER :=
  eAlloc Tryz.prog 209 fun x67 => eCallR Tryz.prog C 205 [x67, x20] 0 fun x68 => eCallR Tryz.prog C 206 [x67, a0] 213 fun x69 => eIter (σ := Unit) (fun (s71 : Unit) (k70 : Unit → ER) =>
  eCallR Tryz.prog C 207 [x67] 3 fun x72 => eBin Tryz.prog .lss 3 false x72 x20 fun x73 => eIfV x73
  (strings_Repeat_p20 C k70 s59 x20 x67)
  (eCallR Tryz.prog C 208 [x67] 9 fun x81 => K x81)) N (())
noncomputable def strings_Repeat_p22 (C : Cal) (K : SV → ER) (a0 : SV) (k23 : Unit → ER) (x20 : SV) : ER :=
  eIndexS Tryz.prog 9 a0 (.int .i64 0) fun x25 => eJoinC (σ := SV × Unit) (fun (k26 : SV × Unit → ER) =>
  strings_Repeat_p18 k26 x25) fun (s27 : SV × Unit) =>
  eIfV s27.1
  (strings_Repeat_p17 C K a0 k23 x20)
  (k23 (()))
noncomputable def strings_Repeat_p23 (C : Cal) (K : SV → ER) (N : Nat) (a0 : SV) (x20 : SV) : ER :=
  eJoinC (σ := SV × Unit) (fun (k58 : SV × Unit → ER) =>
  eBin Tryz.prog .gtr 3 false x20 (.int .i64 8192) fun x60 => eIfV x60
  (strings_Repeat_p19 a0 k58)
  (eHas .any x20 (k58 (x20, ())))) fun (s59 : SV × Unit) =>
  strings_Repeat_p21 C K N a0 s59 x20
noncomputable def strings_Repeat_p24 (C : Cal) (K : SV → ER) (N : Nat) (a0 : SV) (x12 : SV) : ER :=
  eConvS Tryz.prog 51 3 x12 fun x20 => eLenS Tryz.prog [9] [a0] fun x21 => eBin Tryz.prog .eql 3 false x21 (.int .i64 0) fun x22 => eIfV x22
  (K (.str []))
  (eJoinC (σ := Unit) (fun (k23 : Unit → ER) =>
  strings_Repeat_p22 C K a0 k23 x20) fun (s24 : Unit) =>
  strings_Repeat_p23 C K N a0 x20)
noncomputable def strings_Repeat_p25 (a1 : SV) (k3 : Unit → ER) : ER :=
  eBin Tryz.prog .lss 3 false a1 (.int .i64 0) fun x5 => eIfV x5
  (eMakeIface Tryz.prog 9 (.str [115, 116, 114, 105, 110, 103, 115, 58, 32, 110, 101, 103, 97, 116, 105, 118, 101, 32, 82, 101, 112, 101, 97, 116, 32, 99, 111, 117, 110, 116]) fun x6 => eF)
  (k3 (()))
noncomputable def strings_Repeat_p26 (C : Cal) (K : SV → ER) (N : Nat) (a0 : SV) (a1 : SV) : ER :=
  eLenS Tryz.prog [9] [a0] fun x7 => eConvS Tryz.prog 3 51 x7 fun x8 => eConvS Tryz.prog 3 51 a1 fun x9 => eCallR Tryz.prog C 203 [x8, x9] 204 fun x10 => eExtract x10 0 fun x11 => eExtract x10 1 fun x12 => eJoinC (σ := Unit) (fun (k13 : Unit → ER) =>
  eJoinC (σ := SV × Unit) (fun (k15 : SV × Unit → ER) =>
  strings_Repeat_p1 k15 x11 x12) fun (s16 : SV × Unit) =>
  eIfV s16.1
  (strings_Repeat_p0)
  (k13 (()))) fun (s14 : Unit) =>
  strings_Repeat_p24 C K N a0 x12
noncomputable def strings_Repeat_e (C : Cal) (N : Nat) (a0 a1 : SV) (K : SV → ER) : ER :=
  eBin Tryz.prog .eql 3 false a1 (.int .i64 0) fun x1 => eIfV x1
  (K (.str []))
  (eBin Tryz.prog .eql 3 false a1 (.int .i64 1) fun x2 => eIfV x2
  (K a0)
  (eJoinC (σ := Unit) (fun (k3 : Unit → ER) =>
  strings_Repeat_p25 a1 k3) fun (s4 : Unit) =>
  strings_Repeat_p26 C K N a0 a1))
theorem strings_Repeat_ee (C : Cal) (N : Nat) (a0 a1 : SV) (K : SV → ER) : eBody Tryz.prog C N Tryz.f167 (Tryz.f167.body.getD .skip) strings_Repeat_ea [a0, a1] K = strings_Repeat_e C N a0 a1 K := by kernel_rfl
noncomputable def l167 : LeafT := fun C N args K => match args with
  | [a0, a1] => strings_Repeat_e C N a0 a1 K
  | _ => eF
theorem lok167 : LeafOk Tryz.prog 167 l167 := ⟨Tryz.f167, Tryz.f167.body.getD .skip, strings_Repeat_ea, Tryz.func167, by kernel_rfl, Tryz.call167, fun C N args K H e => by
  unfold l167 at e
  split at e
  · rw [strings_Repeat_ee]; exact e
  · exact eF_no e⟩

/- halberd/kern.later -/
def kern_later_ea : Ann := .two (.none) (.two (.two (.none) (.two (.two (.none) (.none)) (.none))) (.two (.none) (.none)))
noncomputable def kern_later_e (C : Cal) (N : Nat) (a0 a1 : SV) (K : SV → ER) : ER :=
  eBin Tryz.prog .neq 26 false a0 (.int .i64 0) fun x1 => eIfV x1
  (K a0)
  (eCallVR Tryz.prog C a1 [] 26 fun x2 => K x2)
theorem kern_later_ee (C : Cal) (N : Nat) (a0 a1 : SV) (K : SV → ER) : eBody Tryz.prog C N Tryz.f168 (Tryz.f168.body.getD .skip) kern_later_ea [a0, a1] K = kern_later_e C N a0 a1 K := by kernel_rfl
noncomputable def l168 : LeafT := fun C N args K => match args with
  | [a0, a1] => kern_later_e C N a0 a1 K
  | _ => eF
theorem lok168 : LeafOk Tryz.prog 168 l168 := ⟨Tryz.f168, Tryz.f168.body.getD .skip, kern_later_ea, Tryz.func168, by kernel_rfl, Tryz.call168, fun C N args K H e => by
  unfold l168 at e
  split at e
  · rw [kern_later_ee]; exact e
  · exact eF_no e⟩

/- (*halberd/kern.step).fresh$1 -/
def kern_step_fresh_1_ea : Ann := .two (.none) (.two (.ord [1, 5, 0, 2, 4, 6, 3, 7, 8, 9, 10]) (.none))
noncomputable def kern_step_fresh_1_e (C : Cal) (N : Nat) (a0 a1 : SV) (K : SV → ER) : ER :=
  eFieldAddr Tryz.prog 113 a1 0 fun x1 => eFieldAddr Tryz.prog 113 a1 0 fun x2 => eLoad Tryz.prog 70 a0 fun x3 => eLoad Tryz.prog 3 x1 fun x4 => eLoad Tryz.prog 70 a0 fun x5 => eLoad Tryz.prog 3 x2 fun x6 => eCallR Tryz.prog C 72 [x3, x4, (.int .i64 2)] 26 fun x7 => fun H => eLoadF Tryz.prog 3 x2 x6 H && (fun H => eLoadF Tryz.prog 70 a0 x5 H && (eCallR Tryz.prog C 81 [x5, x6] 26 fun x8 => eBuildSlice Tryz.prog 164 2 [(0, x7), (1, x8)] fun x9 => eCallR Tryz.prog C 70 [x9] 26 fun x10 => K x10) H) H
theorem kern_step_fresh_1_ee (C : Cal) (N : Nat) (a0 a1 : SV) (K : SV → ER) : eBody Tryz.prog C N Tryz.f169 (Tryz.f169.body.getD .skip) kern_step_fresh_1_ea [a0, a1] K = kern_step_fresh_1_e C N a0 a1 K := by kernel_rfl
noncomputable def l169 : LeafT := fun C N args K => match args with
  | [a0, a1] => kern_step_fresh_1_e C N a0 a1 K
  | _ => eF
theorem lok169 : LeafOk Tryz.prog 169 l169 := ⟨Tryz.f169, Tryz.f169.body.getD .skip, kern_step_fresh_1_ea, Tryz.func169, by kernel_rfl, Tryz.call169, fun C N args K H e => by
  unfold l169 at e
  split at e
  · rw [kern_step_fresh_1_ee]; exact e
  · exact eF_no e⟩

/- slices.BinarySearch[[]string,string] -/
def slices_BinarySearch_string_string_ea : Ann := .two (.none) (.two (.none) (.two (.none) (.two (.sub (.loop [(7, .any), (8, .any)] (.two (.two (.none) (.two (.none) (.none))) (.sub (.two (.none) (.two (.none) (.two (.none) (.none)))))))) (.join (.none) (.none) [(4, .any), (5, .any)]))))
noncomputable def slices_BinarySearch_string_string_p0 (C : Cal) (a0 : SV) (a1 : SV) (k2 : SV × SV × Unit → ER) (s3 : SV × SV × Unit) : ER :=
  eBin Tryz.prog .add 3 false s3.1 s3.2.1 fun x5 => eConvS Tryz.prog 3 51 x5 fun x6 => eBin Tryz.prog .shr 51 false x6 (.int .u64 1) fun x7 => eConvS Tryz.prog 51 3 x7 fun x8 => eIndexAddrS Tryz.prog 25 a0 x8 fun x9 => eLoad Tryz.prog 9 x9 fun x10 => eCallR Tryz.prog C 209 [x10, a1] 4 fun x11 => eIfV x11
  (eBin Tryz.prog .add 3 false x8 (.int .i64 1) fun x12 => eHas .any x12 (eHas .any s3.2.1 (k2 (x12, s3.2.1, ()))))
  (eHas .any s3.1 (eHas .any x8 (k2 (s3.1, x8, ()))))
noncomputable def slices_BinarySearch_string_string_p1 (C : Cal) (a0 : SV) (a1 : SV) (s3 : SV × SV × Unit) (k13 : SV × SV × Unit → ER) : ER :=
  eIndexAddrS Tryz.prog 25 a0 s3.1 fun x19 => eLoad Tryz.prog 9 x19 fun x20 => eCallR Tryz.prog C 210 [x20] 4 fun x21 => eIfV x21
  (eCallR Tryz.prog C 210 [a1] 4 fun x22 => eHas .any s3.1 (eHas .any x22 (k13 (s3.1, x22, ()))))
  (eHas .any s3.1 (eHas .any (.bool false) (k13 (s3.1, (.bool false), ()))))
noncomputable def slices_BinarySearch_string_string_p2 (C : Cal) (a0 : SV) (a1 : SV) (s3 : SV × SV × Unit) (k13 : SV × SV × Unit → ER) : ER :=
  eIndexAddrS Tryz.prog 25 a0 s3.1 fun x16 => eLoad Tryz.prog 9 x16 fun x17 => eBin Tryz.prog .eql 9 false x17 a1 fun x18 => eIfV x18
  (eHas .any s3.1 (eHas .any (.bool true) (k13 (s3.1, (.bool true), ()))))
  (slices_BinarySearch_string_string_p1 C a0 a1 s3 k13)
noncomputable def slices_BinarySearch_string_string_p3 (C : Cal) (K : SV → ER) (a0 : SV) (a1 : SV) (s3 : SV × SV × Unit) (x1 : SV) : ER :=
  eJoinC (σ := SV × SV × Unit) (fun (k13 : SV × SV × Unit → ER) =>
  eBin Tryz.prog .lss 3 false s3.1 x1 fun x15 => eIfV x15
  (slices_BinarySearch_string_string_p2 C a0 a1 s3 k13)
  (eHas .any s3.1 (eHas .any (.bool false) (k13 (s3.1, (.bool false), ()))))) fun (s14 : SV × SV × Unit) =>
  K (.tup [s14.1, s14.2.1])
noncomputable def slices_BinarySearch_string_string_e (C : Cal) (N : Nat) (a0 a1 : SV) (K : SV → ER) : ER :=
  eLenS Tryz.prog [25] [a0] fun x1 => eHas .any (.int .i64 0) (eHas .any x1 (eIter (σ := SV × SV × Unit) (fun (s3 : SV × SV × Unit) (k2 : SV × SV × Unit → ER) =>
  eBin Tryz.prog .lss 3 false s3.1 s3.2.1 fun x4 => eIfV x4
  (slices_BinarySearch_string_string_p0 C a0 a1 k2 s3)
  (slices_BinarySearch_string_string_p3 C K a0 a1 s3 x1)) N ((.int .i64 0), x1, ())))
theorem slices_BinarySearch_string_string_ee (C : Cal) (N : Nat) (a0 a1 : SV) (K : SV → ER) : eBody Tryz.prog C N Tryz.f170 (Tryz.f170.body.getD .skip) slices_BinarySearch_string_string_ea [a0, a1] K = slices_BinarySearch_string_string_e C N a0 a1 K := by kernel_rfl
noncomputable def l170 : LeafT := fun C N args K => match args with
  | [a0, a1] => slices_BinarySearch_string_string_e C N a0 a1 K
  | _ => eF
theorem lok170 : LeafOk Tryz.prog 170 l170 := ⟨Tryz.f170, Tryz.f170.body.getD .skip, slices_BinarySearch_string_string_ea, Tryz.func170, by kernel_rfl, Tryz.call170, fun C N args K H e => by
  unfold l170 at e
  split at e
  · rw [slices_BinarySearch_string_string_ee]; exact e
  · exact eF_no e⟩

end Go.Proofs.YtnpcjhcgbcpcoaaGreatDoor

set_option linter.unusedVariables false
set_option maxRecDepth 100000
namespace Go.Proofs.YtnpcjhcgbcpcoaaGreatDoor
open Go.Hl
/- halberd/inodes.IsName -/
def inodes_IsName_ea : Ann := .two (.none) (.join (.none) (.none) [(2, .any)])
noncomputable def inodes_IsName_p0 (C : Cal) (a0 : SV) (k1 : SV × Unit → ER) : ER :=
  eBin Tryz.prog .neq 9 false a0 (.str [46, 46]) fun x7 => eIfV x7
  (eCallR Tryz.prog C 211 [a0, (.str [47, 0])] 4 fun x8 => eUnS .not x8 fun x9 => eHas .any x9 (k1 (x9, ())))
  (eHas .any (.bool false) (k1 ((.bool false), ())))
noncomputable def inodes_IsName_p1 (C : Cal) (a0 : SV) (k1 : SV × Unit → ER) : ER :=
  eLenS Tryz.prog [9] [a0] fun x4 => eBin Tryz.prog .leq 3 false x4 (.int .i64 8) fun x5 => eIfV x5
  (eBin Tryz.prog .neq 9 false a0 (.str [46]) fun x6 => eIfV x6
  (inodes_IsName_p0 C a0 k1)
  (eHas .any (.bool false) (k1 ((.bool false), ()))))
  (eHas .any (.bool false) (k1 ((.bool false), ())))
noncomputable def inodes_IsName_e (C : Cal) (N : Nat) (a0 : SV) (K : SV → ER) : ER :=
  eJoinC (σ := SV × Unit) (fun (k1 : SV × Unit → ER) =>
  eBin Tryz.prog .neq 9 false a0 (.str []) fun x3 => eIfV x3
  (inodes_IsName_p1 C a0 k1)
  (eHas .any (.bool false) (k1 ((.bool false), ())))) fun (s2 : SV × Unit) =>
  K s2.1
theorem inodes_IsName_ee (C : Cal) (N : Nat) (a0 : SV) (K : SV → ER) : eBody Tryz.prog C N Tryz.f173 (Tryz.f173.body.getD .skip) inodes_IsName_ea [a0] K = inodes_IsName_e C N a0 K := by kernel_rfl
noncomputable def l173 : LeafT := fun C N args K => match args with
  | [a0] => inodes_IsName_e C N a0 K
  | _ => eF
theorem lok173 : LeafOk Tryz.prog 173 l173 := ⟨Tryz.f173, Tryz.f173.body.getD .skip, inodes_IsName_ea, Tryz.func173, by kernel_rfl, Tryz.call173, fun C N args K H e => by
  unfold l173 at e
  split at e
  · rw [inodes_IsName_ee]; exact e
  · exact eF_no e⟩

/- strings.Index -/
def strings_Index_ea : Ann := .two (.none) (.two (.none) (.none))
noncomputable def strings_Index_e (C : Cal) (N : Nat) (a0 a1 : SV) (K : SV → ER) : ER :=
  eCallR Tryz.prog C 216 [a0, a1] 3 fun x1 => K x1
theorem strings_Index_ee (C : Cal) (N : Nat) (a0 a1 : SV) (K : SV → ER) : eBody Tryz.prog C N Tryz.f176 (Tryz.f176.body.getD .skip) strings_Index_ea [a0, a1] K = strings_Index_e C N a0 a1 K := by kernel_rfl
noncomputable def l176 : LeafT := fun C N args K => match args with
  | [a0, a1] => strings_Index_e C N a0 a1 K
  | _ => eF
theorem lok176 : LeafOk Tryz.prog 176 l176 := ⟨Tryz.f176, Tryz.f176.body.getD .skip, strings_Index_ea, Tryz.func176, by kernel_rfl, Tryz.call176, fun C N args K H e => by
  unfold l176 at e
  split at e
  · rw [strings_Index_ee]; exact e
  · exact eF_no e⟩

/- (*halberd/tasks.Table).on -/
def tasks_Table_on_ea : Ann := .two (.none) (.two (.none) (.two (.two (.none) (.two (.two (.none) (.none)) (.none))) (.two (.none) (.none))))
noncomputable def tasks_Table_on_e (C : Cal) (N : Nat) (a0 a1 a2 : SV) (K : SV → ER) : ER :=
  eCallR Tryz.prog C 58 [a0, a1] 94 fun x1 => eBin Tryz.prog .eql 94 true x1 (.ptr none) fun x2 => eIfV x2
  (K (.int .i64 3))
  (eCallVR Tryz.prog C a2 [x1] 26 fun x3 => K x3)
theorem tasks_Table_on_ee (C : Cal) (N : Nat) (a0 a1 a2 : SV) (K : SV → ER) : eBody Tryz.prog C N Tryz.f179 (Tryz.f179.body.getD .skip) tasks_Table_on_ea [a0, a1, a2] K = tasks_Table_on_e C N a0 a1 a2 K := by kernel_rfl
noncomputable def l179 : LeafT := fun C N args K => match args with
  | [a0, a1, a2] => tasks_Table_on_e C N a0 a1 a2 K
  | _ => eF
theorem lok179 : LeafOk Tryz.prog 179 l179 := ⟨Tryz.f179, Tryz.f179.body.getD .skip, tasks_Table_on_ea, Tryz.func179, by kernel_rfl, Tryz.call179, fun C N args K H e => by
  unfold l179 at e
  split at e
  · rw [tasks_Table_on_ee]; exact e
  · exact eF_no e⟩

/- halberd/tasks.open -/
def tasks_open_ea : Ann := .two (.none) (.two (.none) (.two (.two (.none) (.sub (.loop [(3, .any), (8, .any)] (.two (.none) (.two (.two (.none) (.none)) (.join (.sub (.two (.none) (.two (.none) (.two (.none) (.none))))) (.none) [(3, .any)])))))) (.two (.none) (.none))))
noncomputable def tasks_open_p0 (k7 : SV × Unit → ER) (s5 : SV × SV × Unit) (x3 : SV) : ER :=
  eIndexS Tryz.prog 45 x3 s5.2.1 fun x9 => eAlloc Tryz.prog 44 fun x10 => eStore Tryz.prog 44 x10 x9 <| eLoad Tryz.prog 44 x10 fun x11 => eBuild Tryz.prog 44 [] fun x12 => eBin Tryz.prog .neq 44 false x11 x12 fun x13 => eIfV x13
  (eBin Tryz.prog .add 3 false s5.1 (.int .i64 1) fun x14 => eHas .any x14 (k7 (x14, ())))
  (eHas .any s5.1 (k7 (s5.1, ())))
noncomputable def tasks_open_p1 (k4 : SV × SV × Unit → ER) (s5 : SV × SV × Unit) (x3 : SV) : ER :=
  eJoinC (σ := SV × Unit) (fun (k7 : SV × Unit → ER) =>
  tasks_open_p0 k7 s5 x3) fun (s8 : SV × Unit) =>
  eBin Tryz.prog .add 3 false s5.2.1 (.int .i64 1) fun x15 => eHas .any s8.1 (eHas .any x15 (k4 (s8.1, x15, ())))
noncomputable def tasks_open_e (C : Cal) (N : Nat) (a0 : SV) (K : SV → ER) : ER :=
  eBox Tryz.prog 50 a0 fun x1 => eFieldAddr Tryz.prog 50 x1 11 fun x2 => eLoad Tryz.prog 45 x2 fun x3 => eHas .any (.int .i64 0) (eHas .any (.int .i64 0) (eIter (σ := SV × SV × Unit) (fun (s5 : SV × SV × Unit) (k4 : SV × SV × Unit → ER) =>
  eBin Tryz.prog .lss 3 false s5.2.1 (.int .i64 6) fun x6 => eIfV x6
  (tasks_open_p1 k4 s5 x3)
  (K s5.1)) N ((.int .i64 0), (.int .i64 0), ())))
theorem tasks_open_ee (C : Cal) (N : Nat) (a0 : SV) (K : SV → ER) : eBody Tryz.prog C N Tryz.f181 (Tryz.f181.body.getD .skip) tasks_open_ea [a0] K = tasks_open_e C N a0 K := by kernel_rfl
noncomputable def l181 : LeafT := fun C N args K => match args with
  | [a0] => tasks_open_e C N a0 K
  | _ => eF
theorem lok181 : LeafOk Tryz.prog 181 l181 := ⟨Tryz.f181, Tryz.f181.body.getD .skip, tasks_open_ea, Tryz.func181, by kernel_rfl, Tryz.call181, fun C N args K H e => by
  unfold l181 at e
  split at e
  · rw [tasks_open_ee]; exact e
  · exact eF_no e⟩

/- (*halberd/kern.Kernel).Obj -/
def kern_Kernel_Obj_ea : Ann := .two (.none) (.two (.two (.none) (.two (.two (.none) (.none)) (.none))) (.two (.none) (.two (.join (.none) (.two (.two (.none) (.none)) (.none)) [(35, .any)]) (.two (.none) (.join (.two (.none) (.two (.none) (.none))) (.two (.ord [0, 1, 3, 6, 7, 8, 10, 2, 4, 5, 9, 11, 12, 13, 14]) (.two (.two (.none) (.sub (.loop [(75, .any)] (.two (.none) (.two (.two (.none) (.none)) (.two (.sub (.two (.none) (.none))) (.none))))))) (.two (.none) (.none)))) [(10, .any)])))))
noncomputable def kern_Kernel_Obj_p0 (k57 : SV × Unit → ER) (s58 : SV × Unit) (x41 : SV) (x56 : SV) : ER :=
  eIndexS Tryz.prog 222 x56 s58.1 fun x60 => eConvS Tryz.prog 3 42 x60 fun x61 => eFieldAddr Tryz.prog 124 x41 2 fun x62 => eIndexAddrS Tryz.prog 122 x62 s58.1 fun x63 => eStore Tryz.prog 42 x63 x61 <| eBin Tryz.prog .add 3 false s58.1 (.int .i64 1) fun x64 => eHas .any x64 (k57 (x64, ()))
noncomputable def kern_Kernel_Obj_p1 (K : SV → ER) (x1 : SV) (k57 : SV × Unit → ER) (s58 : SV × Unit) (x41 : SV) (x56 : SV) : ER :=
  eBin Tryz.prog .lss 3 false s58.1 (.int .i64 8) fun x59 => eIfV x59
  (kern_Kernel_Obj_p0 k57 s58 x41 x56)
  (eLoad Tryz.prog 124 x41 fun x65 => eStore Tryz.prog 124 x1 x65 <| eLoad Tryz.prog 124 x1 fun x66 => K (.tup [x66, (.bool true)]))
noncomputable def kern_Kernel_Obj_p2 (K : SV → ER) (N : Nat) (x1 : SV) (s24 : SV × Unit) (x13 : SV) (x41 : SV) (x43 : SV) (x45 : SV) (x47 : SV) (x48 : SV) : ER :=
  eLoad Tryz.prog 3 x48 fun x49 => eFieldAddr Tryz.prog 40 x13 5 fun x50 => eLoad Tryz.prog 3 x50 fun x51 => eFieldAddr Tryz.prog 40 x13 6 fun x52 => eLoad Tryz.prog 3 x52 fun x53 => eFieldAddr Tryz.prog 40 x13 1 fun x54 => eLoad Tryz.prog 3 x54 fun x55 => eBuild Tryz.prog 222 [(0, x43), (1, x45), (2, x47), (3, x49), (4, x51), (5, x53), (6, s24.1), (7, x55)] fun x56 => eHas .any (.int .i64 0) (eIter (σ := SV × Unit) (fun (s58 : SV × Unit) (k57 : SV × Unit → ER) =>
  kern_Kernel_Obj_p1 K x1 k57 s58 x41 x56) N ((.int .i64 0), ()))
noncomputable def kern_Kernel_Obj_p3 (K : SV → ER) (N : Nat) (a1 : SV) (x1 : SV) (s24 : SV × Unit) (x13 : SV) (x31 : SV) (x32 : SV) (x35 : SV) (x36 : SV) (x37 : SV) (x39 : SV) : ER :=
  fun H => eLoadF Tryz.prog 3 x32 x36 H && (fun H => eLoadF Tryz.prog 3 x31 x35 H && (eBuild Tryz.prog 124 [(0, a1), (1, x37), (3, x39)] fun x40 => eAlloc Tryz.prog 124 fun x41 => eStore Tryz.prog 124 x41 x40 <| eFieldAddr Tryz.prog 40 x13 0 fun x42 => eLoad Tryz.prog 3 x42 fun x43 => eFieldAddr Tryz.prog 40 x13 2 fun x44 => eLoad Tryz.prog 3 x44 fun x45 => eFieldAddr Tryz.prog 40 x13 3 fun x46 => eLoad Tryz.prog 3 x46 fun x47 => eFieldAddr Tryz.prog 40 x13 4 fun x48 => kern_Kernel_Obj_p2 K N x1 s24 x13 x41 x43 x45 x47 x48) H) H
noncomputable def kern_Kernel_Obj_p4 (k23 : SV × Unit → ER) (x13 : SV) (x22 : SV) : ER :=
  eFieldAddr Tryz.prog 40 x13 2 fun x25 => eLoad Tryz.prog 3 x25 fun x26 => eBin Tryz.prog .eql 3 false x26 (.int .i64 2) fun x27 => eIfV x27
  (eFieldAddr Tryz.prog 40 x13 8 fun x28 => eLoad Tryz.prog 25 x28 fun x29 => eLenS Tryz.prog [25] [x29] fun x30 => eHas .any x30 (k23 (x30, ())))
  (eHas .any x22 (k23 (x22, ())))
noncomputable def kern_Kernel_Obj_p5 (C : Cal) (K : SV → ER) (N : Nat) (a0 : SV) (a1 : SV) (a2 : SV) (x1 : SV) (s24 : SV × Unit) (x13 : SV) : ER :=
  eFieldAddr Tryz.prog 40 x13 0 fun x31 => eFieldAddr Tryz.prog 40 x13 1 fun x32 => eNilCk a0 fun x33 => eFieldAddr Tryz.prog 58 x33 0 fun x34 => eLoad Tryz.prog 3 x31 fun x35 => eLoad Tryz.prog 3 x32 fun x36 => eBuild Tryz.prog 121 [(0, x35), (1, x36)] fun x37 => eLoad Tryz.prog 53 x34 fun x38 => eCallR Tryz.prog C 219 [x38, a2] 9 fun x39 => kern_Kernel_Obj_p3 K N a1 x1 s24 x13 x31 x32 x35 x36 x37 x39
noncomputable def kern_Kernel_Obj_p6 (C : Cal) (K : SV → ER) (N : Nat) (a0 : SV) (a1 : SV) (a2 : SV) (x1 : SV) (x13 : SV) : ER :=
  eFieldAddr Tryz.prog 40 x13 7 fun x20 => eLoad Tryz.prog 9 x20 fun x21 => eLenS Tryz.prog [9] [x21] fun x22 => eJoinC (σ := SV × Unit) (fun (k23 : SV × Unit → ER) =>
  kern_Kernel_Obj_p4 k23 x13 x22) fun (s24 : SV × Unit) =>
  kern_Kernel_Obj_p5 C K N a0 a1 a2 x1 s24 x13
noncomputable def kern_Kernel_Obj_p7 (C : Cal) (K : SV → ER) (N : Nat) (a0 : SV) (a1 : SV) (a2 : SV) (x1 : SV) (x11 : SV) (x12 : SV) : ER :=
  eAlloc Tryz.prog 40 fun x13 => eStore Tryz.prog 40 x13 x11 <| eJoinC (σ := SV × Unit) (fun (k14 : SV × Unit → ER) =>
  eUnS .not x12 fun x16 => eIfV x16
  (eHas .any (.bool true) (k14 ((.bool true), ())))
  (eBin Tryz.prog .neq 3 false a1 (.int .i64 2) fun x17 => eHas .any x17 (k14 (x17, ())))) fun (s15 : SV × Unit) =>
  eIfV s15.1
  (eBuild Tryz.prog 124 [] fun x18 => eStore Tryz.prog 124 x1 x18 <| eLoad Tryz.prog 124 x1 fun x19 => K (.tup [x19, (.bool false)]))
  (kern_Kernel_Obj_p6 C K N a0 a1 a2 x1 x13)
noncomputable def kern_Kernel_Obj_p8 (C : Cal) (K : SV → ER) (N : Nat) (a0 : SV) (a1 : SV) (a2 : SV) (x1 : SV) : ER :=
  eNilCk a0 fun x7 => eFieldAddr Tryz.prog 58 x7 0 fun x8 => eLoad Tryz.prog 53 x8 fun x9 => eCallR Tryz.prog C 18 [x9, a2] 77 fun x10 => eExtract x10 0 fun x11 => eExtract x10 1 fun x12 => kern_Kernel_Obj_p7 C K N a0 a1 a2 x1 x11 x12
noncomputable def kern_Kernel_Obj_e (C : Cal) (N : Nat) (a0 a1 a2 : SV) (K : SV → ER) : ER :=
  eAlloc Tryz.prog 124 fun x1 => eBin Tryz.prog .eql 3 false a1 (.int .i64 1) fun x2 => eIfV x2
  (eCallR Tryz.prog C 218 [a0, a2] 190 fun x3 => eExtract x3 0 fun x4 => eExtract x3 1 fun x5 => eStore Tryz.prog 124 x1 x4 <| eLoad Tryz.prog 124 x1 fun x6 => K (.tup [x6, x5]))
  (kern_Kernel_Obj_p8 C K N a0 a1 a2 x1)
theorem kern_Kernel_Obj_ee (C : Cal) (N : Nat) (a0 a1 a2 : SV) (K : SV → ER) : eBody Tryz.prog C N Tryz.f183 (Tryz.f183.body.getD .skip) kern_Kernel_Obj_ea [a0, a1, a2] K = kern_Kernel_Obj_e C N a0 a1 a2 K := by kernel_rfl
noncomputable def l183 : LeafT := fun C N args K => match args with
  | [a0, a1, a2] => kern_Kernel_Obj_e C N a0 a1 a2 K
  | _ => eF
theorem lok183 : LeafOk Tryz.prog 183 l183 := ⟨Tryz.f183, Tryz.f183.body.getD .skip, kern_Kernel_Obj_ea, Tryz.func183, by kernel_rfl, Tryz.call183, fun C N args K H e => by
  unfold l183 at e
  split at e
  · rw [kern_Kernel_Obj_ee]; exact e
  · exact eF_no e⟩

/- (*halberd/paths.walk).into -/
def paths_walk_into_ea : Ann := .join (.two (.none) (.two (.none) (.none))) (.join (.join (.none) (.two (.none) (.none)) [(18, .any)]) (.ord [0, 1, 3, 4, 5, 6, 2, 7, 8, 9, 10]) []) []
noncomputable def paths_walk_into_p0 (a0 : SV) (k8 : SV × Unit → ER) : ER :=
  eNilCk a0 fun x11 => eFieldAddr Tryz.prog 197 x11 5 fun x12 => eLoad Tryz.prog 25 x12 fun x13 => eLenS Tryz.prog [25] [x13] fun x14 => eBin Tryz.prog .eql 3 false x14 (.int .i64 0) fun x15 => eHas .any x15 (k8 (x15, ()))
noncomputable def paths_walk_into_p1 (C : Cal) (a0 : SV) (a1 : SV) (k6 : Unit → ER) : ER :=
  eJoinC (σ := SV × Unit) (fun (k8 : SV × Unit → ER) =>
  eCallR Tryz.prog C 222 [a1, (.str [47])] 4 fun x10 => eIfV x10
  (paths_walk_into_p0 a0 k8)
  (eHas .any (.bool false) (k8 ((.bool false), ())))) fun (s9 : SV × Unit) =>
  eIfV s9.1
  (eNilCk a0 fun x16 => eFieldAddr Tryz.prog 197 x16 6 fun x17 => eStore Tryz.prog 4 x17 (.bool true) <| k6 (()))
  (k6 (()))
noncomputable def paths_walk_into_p2 (C : Cal) (K : SV → ER) (a0 : SV) (a1 : SV) : ER :=
  eNilCk a0 fun x18 => eFieldAddr Tryz.prog 197 x18 5 fun x19 => eLoad Tryz.prog 25 x19 fun x20 => eCallR Tryz.prog C 223 [a1] 25 fun x21 => fun H => eLoadF Tryz.prog 25 x19 x20 H && (eApp Tryz.prog [25, 25] [x21, x20] fun x22 => eNilCk a0 fun x23 => eFieldAddr Tryz.prog 197 x23 5 fun x24 => eStore Tryz.prog 25 x24 x22 <| K (.tup [])) H
noncomputable def paths_walk_into_e (C : Cal) (N : Nat) (a0 a1 : SV) (K : SV → ER) : ER :=
  eJoinC (σ := Unit) (fun (k1 : Unit → ER) =>
  eCallR Tryz.prog C 204 [a1, (.str [47])] 4 fun x3 => eIfV x3
  (eNilCk a0 fun x4 => eFieldAddr Tryz.prog 197 x4 4 fun x5 => eStore Tryz.prog 3 x5 (.int .i64 1) <| k1 (()))
  (k1 (()))) fun (s2 : Unit) =>
  eJoinC (σ := Unit) (fun (k6 : Unit → ER) =>
  paths_walk_into_p1 C a0 a1 k6) fun (s7 : Unit) =>
  paths_walk_into_p2 C K a0 a1
theorem paths_walk_into_ee (C : Cal) (N : Nat) (a0 a1 : SV) (K : SV → ER) : eBody Tryz.prog C N Tryz.f195 (Tryz.f195.body.getD .skip) paths_walk_into_ea [a0, a1] K = paths_walk_into_e C N a0 a1 K := by kernel_rfl
noncomputable def l195 : LeafT := fun C N args K => match args with
  | [a0, a1] => paths_walk_into_e C N a0 a1 K
  | _ => eF
theorem lok195 : LeafOk Tryz.prog 195 l195 := ⟨Tryz.f195, Tryz.f195.body.getD .skip, paths_walk_into_ea, Tryz.func195, by kernel_rfl, Tryz.call195, fun C N args K H e => by
  unfold l195 at e
  split at e
  · rw [paths_walk_into_ee]; exact e
  · exact eF_no e⟩

/- (*halberd/paths.walk).step -/
def paths_walk_step_ea : Ann := .two (.none) (.two (.ord [0, 1, 2, 4, 5, 6, 3, 7, 8, 9, 10, 11, 12, 13, 14]) (.two (.sub (.join (.none) (.two (.two (.none) (.none)) (.two (.ord [1, 2, 3, 5, 6, 7, 0, 4, 8, 9, 10, 11]) (.two (.two (.none) (.none)) (.none)))) [(27, .any)])) (.two (.ord [0, 1, 2, 6, 7, 8, 3, 4, 5, 12, 9, 10, 11, 13]) (.two (.none) (.two (.sub (.join (.none) (.two (.join (.two (.none) (.two (.none) (.none))) (.two (.none) (.none)) []) (.two (.none) (.two (.two (.none) (.none)) (.none)))) [(69, .any)])) (.two (.ord [0, 1, 2, 4, 5, 6, 8, 3, 7, 9, 10, 11, 12, 13, 14]) (.two (.none) (.two (.sub (.join (.none) (.two (.two (.none) (.none)) (.two (.none) (.two (.two (.none) (.two (.none) (.none))) (.two (.none) (.two (.two (.none) (.none)) (.two (.none) (.two (.two (.none) (.none)) (.none)))))))) [(113, .any)])) (.two (.none) (.two (.none) (.none)))))))))))
noncomputable def paths_walk_step_p0 (a0 : SV) (k51 : Unit → ER) (x11 : SV) (x37 : SV) : ER :=
  eBin Tryz.prog .eql 9 false x37 (.str [46, 46]) fun x53 => eIfV x53
  (eFieldAddr Tryz.prog 40 x11 10 fun x54 => eLoad Tryz.prog 3 x54 fun x55 => eNilCk a0 fun x56 => eFieldAddr Tryz.prog 197 x56 4 fun x57 => eStore Tryz.prog 3 x57 x55 <| k51 (()))
  (k51 (()))
noncomputable def paths_walk_step_p1 (C : Cal) (K : SV → ER) (a0 : SV) (x1 : SV) (x11 : SV) (x37 : SV) (x40 : SV) : ER :=
  eJoinC (σ := Unit) (fun (k51 : Unit → ER) =>
  paths_walk_step_p0 a0 k51 x11 x37) fun (s52 : Unit) =>
  eCallR Tryz.prog C 197 [a0] 113 fun x58 => eStore Tryz.prog 113 x1 x58 <| eLoad Tryz.prog 113 x1 fun x59 => K (.tup [x59, x40, (.int .i64 0)])
noncomputable def paths_walk_step_p2 (a0 : SV) (k80 : SV × Unit → ER) : ER :=
  eNilCk a0 fun x86 => eFieldAddr Tryz.prog 197 x86 3 fun x87 => eLoad Tryz.prog 4 x87 fun x88 => eIfV x88
  (eHas .any (.bool true) (k80 ((.bool true), ())))
  (eNilCk a0 fun x89 => eFieldAddr Tryz.prog 197 x89 6 fun x90 => eLoad Tryz.prog 4 x90 fun x91 => eHas .any x91 (k80 (x91, ())))
noncomputable def paths_walk_step_p3 (C : Cal) (K : SV → ER) (a0 : SV) (x1 : SV) (x79 : SV) : ER :=
  eBuild Tryz.prog 113 [] fun x92 => eLoad Tryz.prog 40 x79 fun x93 => eCallR Tryz.prog C 225 [a0, x93] 26 fun x94 => eStore Tryz.prog 113 x1 x92 <| eLoad Tryz.prog 113 x1 fun x95 => K (.tup [x95, (.bool false), x94])
noncomputable def paths_walk_step_p4 (C : Cal) (K : SV → ER) (a0 : SV) (x1 : SV) (x37 : SV) (x79 : SV) : ER :=
  eLoad Tryz.prog 40 x79 fun x96 => eCallR Tryz.prog C 226 [a0, x37, x96] 114 fun x97 => eExtract x97 0 fun x98 => eExtract x97 1 fun x99 => eAlloc Tryz.prog 113 fun x100 => eStore Tryz.prog 113 x100 x98 <| eLoad Tryz.prog 113 x100 fun x101 => eStore Tryz.prog 113 x1 x101 <| eLoad Tryz.prog 113 x1 fun x102 => K (.tup [x102, (.bool true), x99])
noncomputable def paths_walk_step_p5 (K : SV → ER) (a0 : SV) (x1 : SV) (x71 : SV) : ER :=
  eNilCk a0 fun x113 => eFieldAddr Tryz.prog 197 x113 4 fun x114 => eStore Tryz.prog 3 x114 x71 <| eBuild Tryz.prog 113 [] fun x115 => eStore Tryz.prog 113 x1 x115 <| eLoad Tryz.prog 113 x1 fun x116 => K (.tup [x116, (.bool false), (.int .i64 0)])
noncomputable def paths_walk_step_p6 (K : SV → ER) (a0 : SV) (x1 : SV) (x71 : SV) (x79 : SV) : ER :=
  eFieldAddr Tryz.prog 40 x79 2 fun x108 => eLoad Tryz.prog 3 x108 fun x109 => eBin Tryz.prog .neq 3 false x109 (.int .i64 2) fun x110 => eIfV x110
  (eBuild Tryz.prog 113 [] fun x111 => eStore Tryz.prog 113 x1 x111 <| eLoad Tryz.prog 113 x1 fun x112 => K (.tup [x112, (.bool false), (.int .i64 20)]))
  (paths_walk_step_p5 K a0 x1 x71)
noncomputable def paths_walk_step_p7 (K : SV → ER) (a0 : SV) (x1 : SV) (x71 : SV) (x79 : SV) : ER :=
  eFieldAddr Tryz.prog 40 x79 0 fun x103 => eLoad Tryz.prog 3 x103 fun x104 => eBin Tryz.prog .eql 3 false x104 (.int .i64 0) fun x105 => eIfV x105
  (eBuild Tryz.prog 113 [] fun x106 => eStore Tryz.prog 113 x1 x106 <| eLoad Tryz.prog 113 x1 fun x107 => K (.tup [x107, (.bool false), (.int .i64 2)]))
  (paths_walk_step_p6 K a0 x1 x71 x79)
noncomputable def paths_walk_step_p8 (a0 : SV) (k80 : SV × Unit → ER) (x40 : SV) (x79 : SV) : ER :=
  eFieldAddr Tryz.prog 40 x79 2 fun x82 => eLoad Tryz.prog 3 x82 fun x83 => eBin Tryz.prog .eql 3 false x83 (.int .i64 3) fun x84 => eIfV x84
  (eUnS .not x40 fun x85 => eIfV x85
  (eHas .any (.bool true) (k80 ((.bool true), ())))
  (paths_walk_step_p2 a0 k80))
  (eHas .any (.bool false) (k80 ((.bool false), ())))
noncomputable def paths_walk_step_p9 (C : Cal) (K : SV → ER) (a0 : SV) (x1 : SV) (x37 : SV) (x40 : SV) (x71 : SV) : ER :=
  eNilCk a0 fun x73 => eFieldAddr Tryz.prog 197 x73 0 fun x74 => eLoad Tryz.prog 53 x74 fun x75 => eCallR Tryz.prog C 18 [x75, x71] 77 fun x76 => eExtract x76 0 fun x77 => eExtract x76 1 fun x78 => eAlloc Tryz.prog 40 fun x79 => eStore Tryz.prog 40 x79 x77 <| eJoinC (σ := SV × Unit) (fun (k80 : SV × Unit → ER) =>
  paths_walk_step_p8 a0 k80 x40 x79) fun (s81 : SV × Unit) =>
  eIfV s81.1
  (paths_walk_step_p3 C K a0 x1 x79)
  (eIfV x40
  (paths_walk_step_p4 C K a0 x1 x37 x79)
  (paths_walk_step_p7 K a0 x1 x71 x79))
noncomputable def paths_walk_step_p10 (C : Cal) (K : SV → ER) (a0 : SV) (x1 : SV) (x37 : SV) (x40 : SV) : ER :=
  eNilCk a0 fun x64 => eFieldAddr Tryz.prog 197 x64 0 fun x65 => eNilCk a0 fun x66 => eFieldAddr Tryz.prog 197 x66 4 fun x67 => eLoad Tryz.prog 53 x65 fun x68 => eLoad Tryz.prog 3 x67 fun x69 => eCallR Tryz.prog C 224 [x68, x69, x37] 109 fun x70 => eExtract x70 0 fun x71 => eExtract x70 1 fun x72 => paths_walk_step_p9 C K a0 x1 x37 x40 x71
noncomputable def paths_walk_step_p11 (C : Cal) (K : SV → ER) (a0 : SV) (x1 : SV) (x37 : SV) (x40 : SV) : ER :=
  eLenS Tryz.prog [9] [x37] fun x60 => eBin Tryz.prog .gtr 3 false x60 (.int .i64 8) fun x61 => eIfV x61
  (eBuild Tryz.prog 113 [] fun x62 => eStore Tryz.prog 113 x1 x62 <| eLoad Tryz.prog 113 x1 fun x63 => K (.tup [x63, (.bool false), (.int .i64 36)]))
  (paths_walk_step_p10 C K a0 x1 x37 x40)
noncomputable def paths_walk_step_p12 (k47 : SV × Unit → ER) (x37 : SV) : ER :=
  eBin Tryz.prog .eql 9 false x37 (.str [46]) fun x49 => eIfV x49
  (eHas .any (.bool true) (k47 ((.bool true), ())))
  (eBin Tryz.prog .eql 9 false x37 (.str [46, 46]) fun x50 => eHas .any x50 (k47 (x50, ())))
noncomputable def paths_walk_step_p13 (C : Cal) (K : SV → ER) (a0 : SV) (x1 : SV) (x11 : SV) (x37 : SV) (x39 : SV) : ER :=
  eBin Tryz.prog .eql 3 false x39 (.int .i64 1) fun x40 => eNilCk a0 fun x41 => eFieldAddr Tryz.prog 197 x41 5 fun x42 => eLoad Tryz.prog 25 x42 fun x43 => eSliceS Tryz.prog 25 x43 (some (.v (.int .i64 1))) none none fun x44 => eNilCk a0 fun x45 => eFieldAddr Tryz.prog 197 x45 5 fun x46 => eStore Tryz.prog 25 x46 x44 <| eJoinC (σ := SV × Unit) (fun (k47 : SV × Unit → ER) =>
  paths_walk_step_p12 k47 x37) fun (s48 : SV × Unit) =>
  eIfV s48.1
  (paths_walk_step_p1 C K a0 x1 x11 x37 x40)
  (paths_walk_step_p11 C K a0 x1 x37 x40)
noncomputable def paths_walk_step_p14 (C : Cal) (K : SV → ER) (a0 : SV) (x1 : SV) (x11 : SV) : ER :=
  eNilCk a0 fun x31 => eFieldAddr Tryz.prog 197 x31 5 fun x32 => eNilCk a0 fun x33 => eFieldAddr Tryz.prog 197 x33 5 fun x34 => eLoad Tryz.prog 25 x32 fun x35 => eIndexAddrS Tryz.prog 25 x35 (.int .i64 0) fun x36 => eLoad Tryz.prog 9 x36 fun x37 => eLoad Tryz.prog 25 x34 fun x38 => eLenS Tryz.prog [25] [x38] fun x39 => paths_walk_step_p13 C K a0 x1 x11 x37 x39
noncomputable def paths_walk_step_p15 (C : Cal) (K : SV → ER) (a0 : SV) (x1 : SV) (x11 : SV) : ER :=
  eNilCk a0 fun x20 => eFieldAddr Tryz.prog 197 x20 1 fun x21 => eNilCk a0 fun x22 => eFieldAddr Tryz.prog 197 x22 2 fun x23 => eLoad Tryz.prog 40 x11 fun x24 => eLoad Tryz.prog 3 x21 fun x25 => eLoad Tryz.prog 3 x23 fun x26 => eCallR Tryz.prog C 154 [x24, x25, x26, (.int .i64 1)] 4 fun x27 => eUnS .not x27 fun x28 => eIfV x28
  (eBuild Tryz.prog 113 [] fun x29 => eStore Tryz.prog 113 x1 x29 <| eLoad Tryz.prog 113 x1 fun x30 => K (.tup [x30, (.bool false), (.int .i64 13)]))
  (paths_walk_step_p14 C K a0 x1 x11)
noncomputable def paths_walk_step_p16 (k12 : SV × Unit → ER) (x10 : SV) (x11 : SV) : ER :=
  eUnS .not x10 fun x14 => eIfV x14
  (eHas .any (.bool true) (k12 ((.bool true), ())))
  (eFieldAddr Tryz.prog 40 x11 2 fun x15 => eLoad Tryz.prog 3 x15 fun x16 => eBin Tryz.prog .neq 3 false x16 (.int .i64 2) fun x17 => eHas .any x17 (k12 (x17, ())))
noncomputable def paths_walk_step_p17 (C : Cal) (K : SV → ER) (a0 : SV) (x1 : SV) (x3 : SV) (x5 : SV) : ER :=
  eLoad Tryz.prog 53 x3 fun x6 => eLoad Tryz.prog 3 x5 fun x7 => eCallR Tryz.prog C 18 [x6, x7] 77 fun x8 => eExtract x8 0 fun x9 => eExtract x8 1 fun x10 => eAlloc Tryz.prog 40 fun x11 => eStore Tryz.prog 40 x11 x9 <| eJoinC (σ := SV × Unit) (fun (k12 : SV × Unit → ER) =>
  paths_walk_step_p16 k12 x10 x11) fun (s13 : SV × Unit) =>
  eIfV s13.1
  (eBuild Tryz.prog 113 [] fun x18 => eStore Tryz.prog 113 x1 x18 <| eLoad Tryz.prog 113 x1 fun x19 => K (.tup [x19, (.bool false), (.int .i64 20)]))
  (paths_walk_step_p15 C K a0 x1 x11)
noncomputable def paths_walk_step_e (C : Cal) (N : Nat) (a0 : SV) (K : SV → ER) : ER :=
  eAlloc Tryz.prog 113 fun x1 => eNilCk a0 fun x2 => eFieldAddr Tryz.prog 197 x2 0 fun x3 => eNilCk a0 fun x4 => eFieldAddr Tryz.prog 197 x4 4 fun x5 => paths_walk_step_p17 C K a0 x1 x3 x5
theorem paths_walk_step_ee (C : Cal) (N : Nat) (a0 : SV) (K : SV → ER) : eBody Tryz.prog C N Tryz.f196 (Tryz.f196.body.getD .skip) paths_walk_step_ea [a0] K = paths_walk_step_e C N a0 K := by kernel_rfl
noncomputable def l196 : LeafT := fun C N args K => match args with
  | [a0] => paths_walk_step_e C N a0 K
  | _ => eF
theorem lok196 : LeafOk Tryz.prog 196 l196 := ⟨Tryz.f196, Tryz.f196.body.getD .skip, paths_walk_step_ea, Tryz.func196, by kernel_rfl, Tryz.call196, fun C N args K H e => by
  unfold l196 at e
  split at e
  · rw [paths_walk_step_ee]; exact e
  · exact eF_no e⟩

/- (*halberd/paths.walk).here -/
def paths_walk_here_ea : Ann := .two (.none) (.two (.ord [0, 1, 2, 4, 5, 6, 3, 7, 8, 9]) (.none))
noncomputable def paths_walk_here_e (C : Cal) (N : Nat) (a0 : SV) (K : SV → ER) : ER :=
  eAlloc Tryz.prog 113 fun x1 => eNilCk a0 fun x2 => eFieldAddr Tryz.prog 197 x2 4 fun x3 => eNilCk a0 fun x4 => eFieldAddr Tryz.prog 197 x4 4 fun x5 => eLoad Tryz.prog 3 x3 fun x6 => eLoad Tryz.prog 3 x5 fun x7 => eBuild Tryz.prog 113 [(0, x6), (2, x7)] fun x8 => eStore Tryz.prog 113 x1 x8 <| eLoad Tryz.prog 113 x1 fun x9 => K x9
theorem paths_walk_here_ee (C : Cal) (N : Nat) (a0 : SV) (K : SV → ER) : eBody Tryz.prog C N Tryz.f197 (Tryz.f197.body.getD .skip) paths_walk_here_ea [a0] K = paths_walk_here_e C N a0 K := by kernel_rfl
noncomputable def l197 : LeafT := fun C N args K => match args with
  | [a0] => paths_walk_here_e C N a0 K
  | _ => eF
theorem lok197 : LeafOk Tryz.prog 197 l197 := ⟨Tryz.f197, Tryz.f197.body.getD .skip, paths_walk_here_ea, Tryz.func197, by kernel_rfl, Tryz.call197, fun C N args K H e => by
  unfold l197 at e
  split at e
  · rw [paths_walk_here_ee]; exact e
  · exact eF_no e⟩

end Go.Proofs.YtnpcjhcgbcpcoaaGreatDoor

set_option linter.unusedVariables false
set_option maxRecDepth 100000
namespace Go.Proofs.YtnpcjhcgbcpcoaaGreatDoor
open Go.Hl
/- (*halberd/tasks.Table).put$1 -/
def tasks_Table_put_1_ea : Ann := .two (.none) (.two (.none) (.two (.sub (.two (.none) (.two (.two (.none) (.none)) (.two (.none) (.two (.two (.none) (.none)) (.none)))))) (.two (.ord [0, 3, 4, 1, 2, 5, 6]) (.two (.none) (.none)))))
noncomputable def tasks_Table_put_1_p0 (K : SV → ER) (a0 : SV) (a1 : SV) (a3 : SV) : ER :=
  eNilCk a0 fun x11 => eFieldAddr Tryz.prog 50 x11 11 fun x12 => eLoad Tryz.prog 3 a1 fun x13 => eLoad Tryz.prog 44 a3 fun x14 => eIndexAddrS Tryz.prog 45 x12 x13 fun x15 => eStore Tryz.prog 44 x15 x14 <| K (.int .i64 0)
noncomputable def tasks_Table_put_1_e (C : Cal) (N : Nat) (a0 a1 a2 a3 : SV) (K : SV → ER) : ER :=
  eNilCk a0 fun x1 => eFieldAddr Tryz.prog 50 x1 11 fun x2 => eSliceS Tryz.prog 45 x2 none none none fun x3 => eBuild Tryz.prog 44 [] fun x4 => eCallR Tryz.prog C 199 [x3, x4] 3 fun x5 => eStore Tryz.prog 3 a1 x5 <| eLoad Tryz.prog 3 a1 fun x6 => eBin Tryz.prog .lss 3 false x6 (.int .i64 0) fun x7 => eIfV x7
  (K (.int .i64 24))
  (eLoad Tryz.prog 55 a2 fun x8 => eCallR Tryz.prog C 155 [x8] 3 fun x9 => eBin Tryz.prog .geq 3 false x9 (.int .i64 16) fun x10 => eIfV x10
  (K (.int .i64 23))
  (tasks_Table_put_1_p0 K a0 a1 a3))
theorem tasks_Table_put_1_ee (C : Cal) (N : Nat) (a0 a1 a2 a3 : SV) (K : SV → ER) : eBody Tryz.prog C N Tryz.f198 (Tryz.f198.body.getD .skip) tasks_Table_put_1_ea [a0, a1, a2, a3] K = tasks_Table_put_1_e C N a0 a1 a2 a3 K := by kernel_rfl
noncomputable def l198 : LeafT := fun C N args K => match args with
  | [a0, a1, a2, a3] => tasks_Table_put_1_e C N a0 a1 a2 a3 K
  | _ => eF
theorem lok198 : LeafOk Tryz.prog 198 l198 := ⟨Tryz.f198, Tryz.f198.body.getD .skip, tasks_Table_put_1_ea, Tryz.func198, by kernel_rfl, Tryz.call198, fun C N args K H e => by
  unfold l198 at e
  split at e
  · rw [tasks_Table_put_1_ee]; exact e
  · exact eF_no e⟩

/- slices.Index[[]halberd/api.File,halberd/api.File] -/
def slices_Index_api_File_api_File_ea : Ann := .two (.none) (.two (.two (.none) (.sub (.loop [(8, .any)] (.two (.none) (.two (.two (.none) (.none)) (.two (.sub (.two (.none) (.two (.ord [1, 2, 3, 0, 4, 5]) (.two (.two (.none) (.none)) (.none))))) (.none))))))) (.two (.none) (.none)))
noncomputable def slices_Index_api_File_api_File_p0 (K : SV → ER) (a0 : SV) (k3 : SV × Unit → ER) (s4 : SV × Unit) (x1 : SV) : ER :=
  eIndexAddrS Tryz.prog 101 a0 s4.1 fun x6 => eLoad Tryz.prog 44 x1 fun x7 => eLoad Tryz.prog 44 x6 fun x8 => eBin Tryz.prog .eql 44 false x7 x8 fun x9 => eIfV x9
  (K s4.1)
  (eBin Tryz.prog .add 3 false s4.1 (.int .i64 1) fun x10 => eHas .any x10 (k3 (x10, ())))
noncomputable def slices_Index_api_File_api_File_e (C : Cal) (N : Nat) (a0 a1 : SV) (K : SV → ER) : ER :=
  eBox Tryz.prog 44 a1 fun x1 => eLenS Tryz.prog [101] [a0] fun x2 => eHas .any (.int .i64 0) (eIter (σ := SV × Unit) (fun (s4 : SV × Unit) (k3 : SV × Unit → ER) =>
  eBin Tryz.prog .lss 3 false s4.1 x2 fun x5 => eIfV x5
  (slices_Index_api_File_api_File_p0 K a0 k3 s4 x1)
  (K (.int .i64 (-1)))) N ((.int .i64 0), ()))
theorem slices_Index_api_File_api_File_ee (C : Cal) (N : Nat) (a0 a1 : SV) (K : SV → ER) : eBody Tryz.prog C N Tryz.f199 (Tryz.f199.body.getD .skip) slices_Index_api_File_api_File_ea [a0, a1] K = slices_Index_api_File_api_File_e C N a0 a1 K := by kernel_rfl
noncomputable def l199 : LeafT := fun C N args K => match args with
  | [a0, a1] => slices_Index_api_File_api_File_e C N a0 a1 K
  | _ => eF
theorem lok199 : LeafOk Tryz.prog 199 l199 := ⟨Tryz.f199, Tryz.f199.body.getD .skip, slices_Index_api_File_api_File_ea, Tryz.func199, by kernel_rfl, Tryz.call199, fun C N args K H e => by
  unfold l199 at e
  split at e
  · rw [slices_Index_api_File_api_File_ee]; exact e
  · exact eF_no e⟩

/- container/heap.Pop -/
def container_heap_Pop_ea : Ann := .two (.none) (.two (.none) (.two (.none) (.two (.none) (.two (.none) (.none)))))
noncomputable def container_heap_Pop_e (C : Cal) (N : Nat) (a0 : SV) (K : SV → ER) : ER :=
  eInvokeR Tryz.prog C "Len" a0 [] 3 fun x1 => eBin Tryz.prog .sub 3 false x1 (.int .i64 1) fun x2 => eInvokeR Tryz.prog C "Swap" a0 [(.int .i64 0), x2] 0 fun x3 => eCallR Tryz.prog C 227 [a0, (.int .i64 0), x2] 4 fun x4 => eInvokeR Tryz.prog C "Pop" a0 [] 20 fun x5 => K x5
theorem container_heap_Pop_ee (C : Cal) (N : Nat) (a0 : SV) (K : SV → ER) : eBody Tryz.prog C N Tryz.f200 (Tryz.f200.body.getD .skip) container_heap_Pop_ea [a0] K = container_heap_Pop_e C N a0 K := by kernel_rfl
noncomputable def l200 : LeafT := fun C N args K => match args with
  | [a0] => container_heap_Pop_e C N a0 K
  | _ => eF
theorem lok200 : LeafOk Tryz.prog 200 l200 := ⟨Tryz.f200, Tryz.f200.body.getD .skip, container_heap_Pop_ea, Tryz.func200, by kernel_rfl, Tryz.call200, fun C N args K H e => by
  unfold l200 at e
  split at e
  · rw [container_heap_Pop_ee]; exact e
  · exact eF_no e⟩

/- (*halberd/tasks.Table).File$1 -/
def tasks_Table_File_1_ea : Ann := .none
noncomputable def tasks_Table_File_1_e (C : Cal) (N : Nat) (a0 a1 : SV) (K : SV → ER) : ER :=
  eNilCk a0 fun x1 => eLoad Tryz.prog 44 x1 fun x2 => eStore Tryz.prog 44 a1 x2 <| K (.tup [])
theorem tasks_Table_File_1_ee (C : Cal) (N : Nat) (a0 a1 : SV) (K : SV → ER) : eBody Tryz.prog C N Tryz.f201 (Tryz.f201.body.getD .skip) tasks_Table_File_1_ea [a0, a1] K = tasks_Table_File_1_e C N a0 a1 K := by kernel_rfl
noncomputable def l201 : LeafT := fun C N args K => match args with
  | [a0, a1] => tasks_Table_File_1_e C N a0 a1 K
  | _ => eF
theorem lok201 : LeafOk Tryz.prog 201 l201 := ⟨Tryz.f201, Tryz.f201.body.getD .skip, tasks_Table_File_1_ea, Tryz.func201, by kernel_rfl, Tryz.call201, fun C N args K H e => by
  unfold l201 at e
  split at e
  · rw [tasks_Table_File_1_ee]; exact e
  · exact eF_no e⟩

/- (*halberd/tasks.Table).file$1 -/
def tasks_Table_file_1_ea : Ann := .two (.none) (.two (.join (.ord [0, 1, 2, 3, 4, 5, 6, 7, 9, 10, 13, 8, 11, 12, 14, 15]) (.two (.two (.none) (.none)) (.none)) [(20, .any)]) (.two (.ord [1, 3, 4, 0, 2, 5, 6]) (.two (.none) (.none))))
noncomputable def tasks_Table_file_1_p0 (a0 : SV) (a1 : SV) (k1 : SV × Unit → ER) : ER :=
  eNilCk a0 fun x7 => eFieldAddr Tryz.prog 50 x7 11 fun x8 => eBuild Tryz.prog 44 [] fun x9 => eLoad Tryz.prog 3 a1 fun x10 => eIndexAddrS Tryz.prog 45 x8 x10 fun x11 => eLoad Tryz.prog 44 x11 fun x12 => eBin Tryz.prog .eql 44 false x12 x9 fun x13 => eHas .any x13 (k1 (x13, ()))
noncomputable def tasks_Table_file_1_p1 (C : Cal) (K : SV → ER) (a0 : SV) (a1 : SV) (a2 : SV) : ER :=
  eNilCk a0 fun x14 => eFieldAddr Tryz.prog 50 x14 11 fun x15 => eLoad Tryz.prog 176 a2 fun x16 => eLoad Tryz.prog 3 a1 fun x17 => eIndexAddrS Tryz.prog 45 x15 x17 fun x18 => eCallVR Tryz.prog C x16 [x18] 0 fun x19 => K (.int .i64 0)
noncomputable def tasks_Table_file_1_p2 (a0 : SV) (a1 : SV) (k1 : SV × Unit → ER) : ER :=
  eLoad Tryz.prog 3 a1 fun x3 => eBin Tryz.prog .lss 3 false x3 (.int .i64 0) fun x4 => eIfV x4
  (eHas .any (.bool true) (k1 ((.bool true), ())))
  (eLoad Tryz.prog 3 a1 fun x5 => eBin Tryz.prog .geq 3 false x5 (.int .i64 6) fun x6 => eIfV x6
  (eHas .any (.bool true) (k1 ((.bool true), ())))
  (tasks_Table_file_1_p0 a0 a1 k1))
noncomputable def tasks_Table_file_1_e (C : Cal) (N : Nat) (a0 a1 a2 : SV) (K : SV → ER) : ER :=
  eJoinC (σ := SV × Unit) (fun (k1 : SV × Unit → ER) =>
  tasks_Table_file_1_p2 a0 a1 k1) fun (s2 : SV × Unit) =>
  eIfV s2.1
  (K (.int .i64 9))
  (tasks_Table_file_1_p1 C K a0 a1 a2)
theorem tasks_Table_file_1_ee (C : Cal) (N : Nat) (a0 a1 a2 : SV) (K : SV → ER) : eBody Tryz.prog C N Tryz.f202 (Tryz.f202.body.getD .skip) tasks_Table_file_1_ea [a0, a1, a2] K = tasks_Table_file_1_e C N a0 a1 a2 K := by kernel_rfl
noncomputable def l202 : LeafT := fun C N args K => match args with
  | [a0, a1, a2] => tasks_Table_file_1_e C N a0 a1 a2 K
  | _ => eF
theorem lok202 : LeafOk Tryz.prog 202 l202 := ⟨Tryz.f202, Tryz.f202.body.getD .skip, tasks_Table_file_1_ea, Tryz.func202, by kernel_rfl, Tryz.call202, fun C N args K H e => by
  unfold l202 at e
  split at e
  · rw [tasks_Table_file_1_ee]; exact e
  · exact eF_no e⟩

/- math/bits.Mul -/
def math_bits_Mul_ea : Ann := .two (.none) (.two (.two (.two (.none) (.two (.none) (.none))) (.none)) (.two (.none) (.two (.none) (.none))))
noncomputable def math_bits_Mul_e (C : Cal) (N : Nat) (a0 a1 : SV) (K : SV → ER) : ER :=
  eCallR Tryz.prog C 229 [a0, a1] 232 fun x1 => eExtract x1 0 fun x2 => eExtract x1 1 fun x3 => K (.tup [x2, x3])
theorem math_bits_Mul_ee (C : Cal) (N : Nat) (a0 a1 : SV) (K : SV → ER) : eBody Tryz.prog C N Tryz.f203 (Tryz.f203.body.getD .skip) math_bits_Mul_ea [a0, a1] K = math_bits_Mul_e C N a0 a1 K := by kernel_rfl
noncomputable def l203 : LeafT := fun C N args K => match args with
  | [a0, a1] => math_bits_Mul_e C N a0 a1 K
  | _ => eF
theorem lok203 : LeafOk Tryz.prog 203 l203 := ⟨Tryz.f203, Tryz.f203.body.getD .skip, math_bits_Mul_ea, Tryz.func203, by kernel_rfl, Tryz.call203, fun C N args K H e => by
  unfold l203 at e
  split at e
  · rw [math_bits_Mul_ee]; exact e
  · exact eF_no e⟩

/- strings.HasPrefix -/
def strings_HasPrefix_ea : Ann := .two (.none) (.two (.none) (.none))
noncomputable def strings_HasPrefix_e (C : Cal) (N : Nat) (a0 a1 : SV) (K : SV → ER) : ER :=
  eCallR Tryz.prog C 230 [a0, a1] 4 fun x1 => K x1
theorem strings_HasPrefix_ee (C : Cal) (N : Nat) (a0 a1 : SV) (K : SV → ER) : eBody Tryz.prog C N Tryz.f204 (Tryz.f204.body.getD .skip) strings_HasPrefix_ea [a0, a1] K = strings_HasPrefix_e C N a0 a1 K := by kernel_rfl
noncomputable def l204 : LeafT := fun C N args K => match args with
  | [a0, a1] => strings_HasPrefix_e C N a0 a1 K
  | _ => eF
theorem lok204 : LeafOk Tryz.prog 204 l204 := ⟨Tryz.f204, Tryz.f204.body.getD .skip, strings_HasPrefix_ea, Tryz.func204, by kernel_rfl, Tryz.call204, fun C N args K H e => by
  unfold l204 at e
  split at e
  · rw [strings_HasPrefix_ee]; exact e
  · exact eF_no e⟩

/- (*strings.Builder).Grow -/
def strings_Builder_Grow_ea : Ann := .two (.none) (.join (.two (.none) (.two (.none) (.none))) (.two (.ord [0, 1, 2, 5, 6, 7, 11, 3, 4, 8, 9, 10, 12]) (.two (.none) (.none))) [])
noncomputable def strings_Builder_Grow_p0  : ER :=
  eMakeIface Tryz.prog 9 (.str [115, 116, 114, 105, 110, 103, 115, 46, 66, 117, 105, 108, 100, 101, 114, 46, 71, 114, 111, 119, 58, 32, 110, 101, 103, 97, 116, 105, 118, 101, 32, 99, 111, 117, 110, 116]) fun x5 => eF
noncomputable def strings_Builder_Grow_e (C : Cal) (N : Nat) (a0 a1 : SV) (K : SV → ER) : ER :=
  eCallR Tryz.prog C 231 [a0] 0 fun x1 => eJoinC (σ := Unit) (fun (k2 : Unit → ER) =>
  eBin Tryz.prog .lss 3 false a1 (.int .i64 0) fun x4 => eIfV x4
  (strings_Builder_Grow_p0)
  (k2 (()))) fun (s3 : Unit) =>
  eNilCk a0 fun x6 => eFieldAddr Tryz.prog 209 x6 1 fun x7 => eNilCk a0 fun x8 => eFieldAddr Tryz.prog 209 x8 1 fun x9 => eLoad Tryz.prog 207 x7 fun x10 => eF
theorem strings_Builder_Grow_ee (C : Cal) (N : Nat) (a0 a1 : SV) (K : SV → ER) : eBody Tryz.prog C N Tryz.f205 (Tryz.f205.body.getD .skip) strings_Builder_Grow_ea [a0, a1] K = strings_Builder_Grow_e C N a0 a1 K := by kernel_rfl
noncomputable def l205 : LeafT := fun C N args K => match args with
  | [a0, a1] => strings_Builder_Grow_e C N a0 a1 K
  | _ => eF
theorem lok205 : LeafOk Tryz.prog 205 l205 := ⟨Tryz.f205, Tryz.f205.body.getD .skip, strings_Builder_Grow_ea, Tryz.func205, by kernel_rfl, Tryz.call205, fun C N args K H e => by
  unfold l205 at e
  split at e
  · rw [strings_Builder_Grow_ee]; exact e
  · exact eF_no e⟩

end Go.Proofs.YtnpcjhcgbcpcoaaGreatDoor

set_option linter.unusedVariables false
set_option maxRecDepth 100000
namespace Go.Proofs.YtnpcjhcgbcpcoaaGreatDoor
open Go.Hl
/- (*strings.Builder).WriteString -/
def strings_Builder_WriteString_ea : Ann := .two (.none) (.two (.none) (.two (.none) (.two (.none) (.none))))
noncomputable def strings_Builder_WriteString_e (C : Cal) (N : Nat) (a0 a1 : SV) (K : SV → ER) : ER :=
  eCallR Tryz.prog C 231 [a0] 0 fun x1 => eNilCk a0 fun x2 => eFieldAddr Tryz.prog 209 x2 1 fun x3 => eLoad Tryz.prog 207 x3 fun x4 => eApp Tryz.prog [207, 9] [x4, a1] fun x5 => eNilCk a0 fun x6 => eFieldAddr Tryz.prog 209 x6 1 fun x7 => eStore Tryz.prog 207 x7 x5 <| eLenS Tryz.prog [9] [a1] fun x8 => K (.tup [x8, .nifc])
theorem strings_Builder_WriteString_ee (C : Cal) (N : Nat) (a0 a1 : SV) (K : SV → ER) : eBody Tryz.prog C N Tryz.f206 (Tryz.f206.body.getD .skip) strings_Builder_WriteString_ea [a0, a1] K = strings_Builder_WriteString_e C N a0 a1 K := by kernel_rfl
noncomputable def l206 : LeafT := fun C N args K => match args with
  | [a0, a1] => strings_Builder_WriteString_e C N a0 a1 K
  | _ => eF
theorem lok206 : LeafOk Tryz.prog 206 l206 := ⟨Tryz.f206, Tryz.f206.body.getD .skip, strings_Builder_WriteString_ea, Tryz.func206, by kernel_rfl, Tryz.call206, fun C N args K H e => by
  unfold l206 at e
  split at e
  · rw [strings_Builder_WriteString_ee]; exact e
  · exact eF_no e⟩

/- (*strings.Builder).Len -/
def strings_Builder_Len_ea : Ann := .two (.none) (.two (.none) (.none))
noncomputable def strings_Builder_Len_e (C : Cal) (N : Nat) (a0 : SV) (K : SV → ER) : ER :=
  eNilCk a0 fun x1 => eFieldAddr Tryz.prog 209 x1 1 fun x2 => eLoad Tryz.prog 207 x2 fun x3 => eLenS Tryz.prog [207] [x3] fun x4 => K x4
theorem strings_Builder_Len_ee (C : Cal) (N : Nat) (a0 : SV) (K : SV → ER) : eBody Tryz.prog C N Tryz.f207 (Tryz.f207.body.getD .skip) strings_Builder_Len_ea [a0] K = strings_Builder_Len_e C N a0 K := by kernel_rfl
noncomputable def l207 : LeafT := fun C N args K => match args with
  | [a0] => strings_Builder_Len_e C N a0 K
  | _ => eF
theorem lok207 : LeafOk Tryz.prog 207 l207 := ⟨Tryz.f207, Tryz.f207.body.getD .skip, strings_Builder_Len_ea, Tryz.func207, by kernel_rfl, Tryz.call207, fun C N args K H e => by
  unfold l207 at e
  split at e
  · rw [strings_Builder_Len_ee]; exact e
  · exact eF_no e⟩

/- (*strings.Builder).String -/
def strings_Builder_String_ea : Ann := .two (.none) (.two (.ord [0, 1, 2, 5, 6, 7, 3, 8, 9, 4, 10, 11]) (.none))
noncomputable def strings_Builder_String_e (C : Cal) (N : Nat) (a0 : SV) (K : SV → ER) : ER :=
  eNilCk a0 fun x1 => eFieldAddr Tryz.prog 209 x1 1 fun x2 => eNilCk a0 fun x3 => eFieldAddr Tryz.prog 209 x3 1 fun x4 => eLoad Tryz.prog 207 x2 fun x5 => eLoad Tryz.prog 207 x4 fun x6 => eLenS Tryz.prog [207] [x6] fun x7 => eF
theorem strings_Builder_String_ee (C : Cal) (N : Nat) (a0 : SV) (K : SV → ER) : eBody Tryz.prog C N Tryz.f208 (Tryz.f208.body.getD .skip) strings_Builder_String_ea [a0] K = strings_Builder_String_e C N a0 K := by kernel_rfl
noncomputable def l208 : LeafT := fun C N args K => match args with
  | [a0] => strings_Builder_String_e C N a0 K
  | _ => eF
theorem lok208 : LeafOk Tryz.prog 208 l208 := ⟨Tryz.f208, Tryz.f208.body.getD .skip, strings_Builder_String_ea, Tryz.func208, by kernel_rfl, Tryz.call208, fun C N args K H e => by
  unfold l208 at e
  split at e
  · rw [strings_Builder_String_ee]; exact e
  · exact eF_no e⟩

/- cmp.Less[string] -/
def cmp_Less_string_ea : Ann := .two (.none) (.join (.none) (.none) [(4, .any)])
noncomputable def cmp_Less_string_p0 (C : Cal) (a0 : SV) (a1 : SV) (k1 : SV × Unit → ER) : ER :=
  eCallR Tryz.prog C 233 [a0] 4 fun x3 => eIfV x3
  (eCallR Tryz.prog C 233 [a1] 4 fun x4 => eUnS .not x4 fun x5 => eIfV x5
  (eHas .any (.bool true) (k1 ((.bool true), ())))
  (eBin Tryz.prog .lss 9 false a0 a1 fun x6 => eHas .any x6 (k1 (x6, ()))))
  (eBin Tryz.prog .lss 9 false a0 a1 fun x7 => eHas .any x7 (k1 (x7, ())))
noncomputable def cmp_Less_string_e (C : Cal) (N : Nat) (a0 a1 : SV) (K : SV → ER) : ER :=
  eJoinC (σ := SV × Unit) (fun (k1 : SV × Unit → ER) =>
  cmp_Less_string_p0 C a0 a1 k1) fun (s2 : SV × Unit) =>
  K s2.1
theorem cmp_Less_string_ee (C : Cal) (N : Nat) (a0 a1 : SV) (K : SV → ER) : eBody Tryz.prog C N Tryz.f209 (Tryz.f209.body.getD .skip) cmp_Less_string_ea [a0, a1] K = cmp_Less_string_e C N a0 a1 K := by kernel_rfl
noncomputable def l209 : LeafT := fun C N args K => match args with
  | [a0, a1] => cmp_Less_string_e C N a0 a1 K
  | _ => eF
theorem lok209 : LeafOk Tryz.prog 209 l209 := ⟨Tryz.f209, Tryz.f209.body.getD .skip, cmp_Less_string_ea, Tryz.func209, by kernel_rfl, Tryz.call209, fun C N args K H e => by
  unfold l209 at e
  split at e
  · rw [cmp_Less_string_ee]; exact e
  · exact eF_no e⟩

/- slices.isNaN[string] -/
def slices_isNaN_string_ea : Ann := .two (.none) (.two (.none) (.none))
noncomputable def slices_isNaN_string_e (C : Cal) (N : Nat) (a0 : SV) (K : SV → ER) : ER :=
  eBin Tryz.prog .neq 9 false a0 a0 fun x1 => K x1
theorem slices_isNaN_string_ee (C : Cal) (N : Nat) (a0 : SV) (K : SV → ER) : eBody Tryz.prog C N Tryz.f210 (Tryz.f210.body.getD .skip) slices_isNaN_string_ea [a0] K = slices_isNaN_string_e C N a0 K := by kernel_rfl
noncomputable def l210 : LeafT := fun C N args K => match args with
  | [a0] => slices_isNaN_string_e C N a0 K
  | _ => eF
theorem lok210 : LeafOk Tryz.prog 210 l210 := ⟨Tryz.f210, Tryz.f210.body.getD .skip, slices_isNaN_string_ea, Tryz.func210, by kernel_rfl, Tryz.call210, fun C N args K H e => by
  unfold l210 at e
  split at e
  · rw [slices_isNaN_string_ee]; exact e
  · exact eF_no e⟩

/- strings.ContainsAny -/
def strings_ContainsAny_ea : Ann := .two (.none) (.two (.none) (.none))
noncomputable def strings_ContainsAny_e (C : Cal) (N : Nat) (a0 a1 : SV) (K : SV → ER) : ER :=
  eCallR Tryz.prog C 234 [a0, a1] 3 fun x1 => eBin Tryz.prog .geq 3 false x1 (.int .i64 0) fun x2 => K x2
theorem strings_ContainsAny_ee (C : Cal) (N : Nat) (a0 a1 : SV) (K : SV → ER) : eBody Tryz.prog C N Tryz.f211 (Tryz.f211.body.getD .skip) strings_ContainsAny_ea [a0, a1] K = strings_ContainsAny_e C N a0 a1 K := by kernel_rfl
noncomputable def l211 : LeafT := fun C N args K => match args with
  | [a0, a1] => strings_ContainsAny_e C N a0 a1 K
  | _ => eF
theorem lok211 : LeafOk Tryz.prog 211 l211 := ⟨Tryz.f211, Tryz.f211.body.getD .skip, strings_ContainsAny_ea, Tryz.func211, by kernel_rfl, Tryz.call211, fun C N args K H e => by
  unfold l211 at e
  split at e
  · rw [strings_ContainsAny_ee]; exact e
  · exact eF_no e⟩

/- internal/stringslite.Index -/
def internal_stringslite_Index_ea : Ann := .two (.none) (.two (.none) (.two (.sub (.join (.none) (.two (.two (.none) (.none)) (.two (.none) (.two (.two (.none) (.none)) (.two (.none) (.two (.two (.none) (.none)) (.join (.none) (.two (.two (.none) (.none)) (.none)) [(36, .any)])))))) [(16, .any)])) (.two (.none) (.two (.none) (.two (.none) (.two (.none) (.two (.none) (.two (.sub (.loop [(8, .any), (10, .any)] (.two (.two (.none) (.two (.none) (.none))) (.sub (.join (.two (.none) (.two (.two (.none) (.two (.two (.none) (.two (.two (.none) (.none)) (.none))) (.none))) (.none))) (.two (.join (.none) (.two (.two (.none) (.none)) (.none)) [(93, .any)]) (.two (.none) (.two (.none) (.join (.none) (.two (.two (.none) (.two (.two (.none) (.two (.two (.none) (.none)) (.none))) (.two (.none) (.none)))) (.join (.none) (.two (.two (.none) (.two (.two (.none) (.two (.two (.none) (.none)) (.none))) (.two (.none) (.none)))) (.none)) [(132, .any)])) [(107, .any)])))) [(8, .any)]))))) (.two (.none) (.none))))))))))
noncomputable def internal_stringslite_Index_p0 (C : Cal) (K : SV → ER) (a0 : SV) (k22 : SV × Unit → ER) (s20 : SV × SV × Unit) (x14 : SV) (x18 : SV) : ER :=
  eBin Tryz.prog .add 3 false s20.1 (.int .i64 1) fun x26 => eSliceS Tryz.prog 9 a0 (some (.v x26)) (some (.v x18)) none fun x27 => eCallR Tryz.prog C 237 [x27, x14] 3 fun x28 => eBin Tryz.prog .lss 3 false x28 (.int .i64 0) fun x29 => eIfV x29
  (K (.int .i64 (-1)))
  (eBin Tryz.prog .add 3 false x28 (.int .i64 1) fun x30 => eBin Tryz.prog .add 3 false s20.1 x30 fun x31 => eHas .any x31 (k22 (x31, ())))
noncomputable def internal_stringslite_Index_p1 (C : Cal) (K : SV → ER) (a0 : SV) (a1 : SV) (x40 : SV) : ER :=
  eSliceS Tryz.prog 9 a0 (some (.v x40)) none none fun x44 => eCallR Tryz.prog C 238 [x44, a1] 3 fun x45 => eBin Tryz.prog .geq 3 false x45 (.int .i64 0) fun x46 => eIfV x46
  (eBin Tryz.prog .add 3 false x45 x40 fun x47 => K x47)
  (K (.int .i64 (-1)))
noncomputable def internal_stringslite_Index_p2 (C : Cal) (K : SV → ER) (a0 : SV) (a1 : SV) (x40 : SV) : ER :=
  eSliceS Tryz.prog 9 a0 (some (.v x40)) none none fun x50 => eCallR Tryz.prog C 240 [x50, a1] 3 fun x51 => eBin Tryz.prog .lss 3 false x51 (.int .i64 0) fun x52 => eIfV x52
  (K (.int .i64 (-1)))
  (eBin Tryz.prog .add 3 false x40 x51 fun x53 => K x53)
noncomputable def internal_stringslite_Index_p3 (C : Cal) (K : SV → ER) (a0 : SV) (a1 : SV) (k19 : SV × SV × Unit → ER) (s43 : SV × Unit) (x40 : SV) (x41 : SV) : ER :=
  eIfV s43.1
  (internal_stringslite_Index_p1 C K a0 a1 x40)
  (eJoinC (σ := SV × Unit) (fun (k48 : SV × Unit → ER) =>
  eF) fun (s49 : SV × Unit) =>
  eIfV s49.1
  (internal_stringslite_Index_p2 C K a0 a1 x40)
  (eHas .any x40 (eHas .any x41 (k19 (x40, x41, ())))))
noncomputable def internal_stringslite_Index_p4 (C : Cal) (K : SV → ER) (a0 : SV) (a1 : SV) (k19 : SV × SV × Unit → ER) (s20 : SV × SV × Unit) (s23 : SV × Unit) : ER :=
  eBin Tryz.prog .add 3 false s23.1 (.int .i64 1) fun x40 => eBin Tryz.prog .add 3 false s20.2.1 (.int .i64 1) fun x41 => eJoinC (σ := SV × Unit) (fun (k42 : SV × Unit → ER) =>
  eF) fun (s43 : SV × Unit) =>
  internal_stringslite_Index_p3 C K a0 a1 k19 s43 x40 x41
noncomputable def internal_stringslite_Index_p5 (a0 : SV) (a1 : SV) (x1 : SV) (k32 : SV × Unit → ER) (s23 : SV × Unit) (x15 : SV) : ER :=
  eBin Tryz.prog .add 3 false s23.1 (.int .i64 1) fun x34 => eIndexS Tryz.prog 9 a0 x34 fun x35 => eBin Tryz.prog .eql 5 false x35 x15 fun x36 => eIfV x36
  (eBin Tryz.prog .add 3 false s23.1 x1 fun x37 => eSliceS Tryz.prog 9 a0 (some (.v s23.1)) (some (.v x37)) none fun x38 => eBin Tryz.prog .eql 9 false x38 a1 fun x39 => eHas .any x39 (k32 (x39, ())))
  (eHas .any (.bool false) (k32 ((.bool false), ())))
noncomputable def internal_stringslite_Index_p6 (C : Cal) (K : SV → ER) (a0 : SV) (a1 : SV) (x1 : SV) (k19 : SV × SV × Unit → ER) (s20 : SV × SV × Unit) (s23 : SV × Unit) (x15 : SV) : ER :=
  eJoinC (σ := SV × Unit) (fun (k32 : SV × Unit → ER) =>
  internal_stringslite_Index_p5 a0 a1 x1 k32 s23 x15) fun (s33 : SV × Unit) =>
  eIfV s33.1
  (K s23.1)
  (internal_stringslite_Index_p4 C K a0 a1 k19 s20 s23)
noncomputable def internal_stringslite_Index_p7 (C : Cal) (K : SV → ER) (a0 : SV) (a1 : SV) (x1 : SV) (k19 : SV × SV × Unit → ER) (s20 : SV × SV × Unit) (x14 : SV) (x15 : SV) (x18 : SV) : ER :=
  eJoinC (σ := SV × Unit) (fun (k22 : SV × Unit → ER) =>
  eIndexS Tryz.prog 9 a0 s20.1 fun x24 => eBin Tryz.prog .neq 5 false x24 x14 fun x25 => eIfV x25
  (internal_stringslite_Index_p0 C K a0 k22 s20 x14 x18)
  (eHas .any s20.1 (k22 (s20.1, ())))) fun (s23 : SV × Unit) =>
  internal_stringslite_Index_p6 C K a0 a1 x1 k19 s20 s23 x15
noncomputable def internal_stringslite_Index_p8 (C : Cal) (K : SV → ER) (N : Nat) (a0 : SV) (a1 : SV) (x1 : SV) (x14 : SV) : ER :=
  eIndexS Tryz.prog 9 a1 (.int .i64 1) fun x15 => eLenS Tryz.prog [9] [a0] fun x16 => eBin Tryz.prog .sub 3 false x16 x1 fun x17 => eBin Tryz.prog .add 3 false x17 (.int .i64 1) fun x18 => eHas .any (.int .i64 0) (eHas .any (.int .i64 0) (eIter (σ := SV × SV × Unit) (fun (s20 : SV × SV × Unit) (k19 : SV × SV × Unit → ER) =>
  eBin Tryz.prog .lss 3 false s20.1 x18 fun x21 => eIfV x21
  (internal_stringslite_Index_p7 C K a0 a1 x1 k19 s20 x14 x15 x18)
  (K (.int .i64 (-1)))) N ((.int .i64 0), (.int .i64 0), ())))
noncomputable def internal_stringslite_Index_p9 (C : Cal) (K : SV → ER) (N : Nat) (a0 : SV) (a1 : SV) (x1 : SV) : ER :=
  eJoinC (σ := SV × Unit) (fun (k11 : SV × Unit → ER) =>
  eF) fun (s12 : SV × Unit) =>
  eIfV s12.1
  (eCallR Tryz.prog C 238 [a0, a1] 3 fun x13 => K x13)
  (eIndexS Tryz.prog 9 a1 (.int .i64 0) fun x14 => internal_stringslite_Index_p8 C K N a0 a1 x1 x14)
noncomputable def internal_stringslite_Index_p10 (C : Cal) (K : SV → ER) (N : Nat) (a0 : SV) (a1 : SV) (x1 : SV) : ER :=
  eBin Tryz.prog .eql 3 false x1 (.int .i64 1) fun x6 => eIfV x6
  (eIndexS Tryz.prog 9 a1 (.int .i64 0) fun x7 => eCallR Tryz.prog C 237 [a0, x7] 3 fun x8 => K x8)
  (eLenS Tryz.prog [9] [a0] fun x9 => eBin Tryz.prog .geq 3 false x1 x9 fun x10 => eIfV x10
  (K (.int .i64 (-1)))
  (internal_stringslite_Index_p9 C K N a0 a1 x1))
noncomputable def internal_stringslite_Index_e (C : Cal) (N : Nat) (a0 a1 : SV) (K : SV → ER) : ER :=
  eLenS Tryz.prog [9] [a1] fun x1 => eJoinC (σ := SV × Unit) (fun (k2 : SV × Unit → ER) =>
  eBin Tryz.prog .eql 3 false x1 (.int .i64 0) fun x4 => eIfV x4
  (eHas .any (.bool true) (k2 ((.bool true), ())))
  (eBin Tryz.prog .eql 9 false a1 a0 fun x5 => eHas .any x5 (k2 (x5, ())))) fun (s3 : SV × Unit) =>
  eIfV s3.1
  (K (.int .i64 0))
  (internal_stringslite_Index_p10 C K N a0 a1 x1)
theorem internal_stringslite_Index_ee (C : Cal) (N : Nat) (a0 a1 : SV) (K : SV → ER) : eBody Tryz.prog C N Tryz.f216 (Tryz.f216.body.getD .skip) internal_stringslite_Index_ea [a0, a1] K = internal_stringslite_Index_e C N a0 a1 K := by kernel_rfl
noncomputable def l216 : LeafT := fun C N args K => match args with
  | [a0, a1] => internal_stringslite_Index_e C N a0 a1 K
  | _ => eF
theorem lok216 : LeafOk Tryz.prog 216 l216 := ⟨Tryz.f216, Tryz.f216.body.getD .skip, internal_stringslite_Index_ea, Tryz.func216, by kernel_rfl, Tryz.call216, fun C N args K H e => by
  unfold l216 at e
  split at e
  · rw [internal_stringslite_Index_ee]; exact e
  · exact eF_no e⟩

/- (*halberd/kern.Kernel).taskObj -/
def kern_Kernel_taskObj_ea : Ann := .two (.none) (.two (.none) (.two (.two (.none) (.two (.two (.none) (.none)) (.none))) (.two (.none) (.two (.two (.none) (.sub (.loop [(8, .any), (28, .any)] (.two (.none) (.two (.two (.none) (.none)) (.join (.sub (.two (.none) (.two (.none) (.two (.none) (.none))))) (.none) [(8, .any)])))))) (.two (.ord [0, 2, 5, 6, 7, 9, 1, 3, 4, 8, 10, 11, 12, 13]) (.two (.two (.none) (.sub (.loop [(65, .any)] (.two (.none) (.two (.two (.none) (.none)) (.two (.sub (.two (.none) (.none))) (.none))))))) (.two (.none) (.none))))))))
noncomputable def kern_Kernel_taskObj_p0 (k17 : SV × Unit → ER) (s15 : SV × SV × Unit) (x13 : SV) : ER :=
  eIndexS Tryz.prog 45 x13 s15.2.1 fun x19 => eAlloc Tryz.prog 44 fun x20 => eStore Tryz.prog 44 x20 x19 <| eLoad Tryz.prog 44 x20 fun x21 => eBuild Tryz.prog 44 [] fun x22 => eBin Tryz.prog .neq 44 false x21 x22 fun x23 => eIfV x23
  (eBin Tryz.prog .add 3 false s15.1 (.int .i64 1) fun x24 => eHas .any x24 (k17 (x24, ())))
  (eHas .any s15.1 (k17 (s15.1, ())))
noncomputable def kern_Kernel_taskObj_p1 (k14 : SV × SV × Unit → ER) (s15 : SV × SV × Unit) (x13 : SV) : ER :=
  eJoinC (σ := SV × Unit) (fun (k17 : SV × Unit → ER) =>
  kern_Kernel_taskObj_p0 k17 s15 x13) fun (s18 : SV × Unit) =>
  eBin Tryz.prog .add 3 false s15.2.1 (.int .i64 1) fun x25 => eHas .any s18.1 (eHas .any x25 (k14 (s18.1, x25, ())))
noncomputable def kern_Kernel_taskObj_p2 (k52 : SV × Unit → ER) (s53 : SV × Unit) (x36 : SV) (x51 : SV) : ER :=
  eIndexS Tryz.prog 222 x51 s53.1 fun x55 => eConvS Tryz.prog 3 42 x55 fun x56 => eFieldAddr Tryz.prog 124 x36 2 fun x57 => eIndexAddrS Tryz.prog 122 x57 s53.1 fun x58 => eStore Tryz.prog 42 x58 x56 <| eBin Tryz.prog .add 3 false s53.1 (.int .i64 1) fun x59 => eHas .any x59 (k52 (x59, ()))
noncomputable def kern_Kernel_taskObj_p3 (K : SV → ER) (x1 : SV) (k52 : SV × Unit → ER) (s53 : SV × Unit) (x36 : SV) (x51 : SV) : ER :=
  eBin Tryz.prog .lss 3 false s53.1 (.int .i64 8) fun x54 => eIfV x54
  (kern_Kernel_taskObj_p2 k52 s53 x36 x51)
  (eLoad Tryz.prog 124 x36 fun x60 => eStore Tryz.prog 124 x1 x60 <| eLoad Tryz.prog 124 x1 fun x61 => K (.tup [x61, (.bool true)]))
noncomputable def kern_Kernel_taskObj_p4 (K : SV → ER) (N : Nat) (x1 : SV) (x8 : SV) (s15 : SV × SV × Unit) (x36 : SV) (x38 : SV) (x40 : SV) (x42 : SV) (x43 : SV) : ER :=
  eLoad Tryz.prog 3 x43 fun x44 => eFieldAddr Tryz.prog 50 x8 6 fun x45 => eLoad Tryz.prog 3 x45 fun x46 => eFieldAddr Tryz.prog 50 x8 1 fun x47 => eLoad Tryz.prog 3 x47 fun x48 => eFieldAddr Tryz.prog 50 x8 7 fun x49 => eLoad Tryz.prog 3 x49 fun x50 => eBuild Tryz.prog 222 [(0, x38), (1, x40), (2, x42), (3, x44), (4, x46), (5, x48), (6, x50), (7, s15.1)] fun x51 => eHas .any (.int .i64 0) (eIter (σ := SV × Unit) (fun (s53 : SV × Unit) (k52 : SV × Unit → ER) =>
  kern_Kernel_taskObj_p3 K x1 k52 s53 x36 x51) N ((.int .i64 0), ()))
noncomputable def kern_Kernel_taskObj_p5 (K : SV → ER) (N : Nat) (x1 : SV) (x8 : SV) (s15 : SV × SV × Unit) (x26 : SV) (x27 : SV) (x30 : SV) (x31 : SV) (x32 : SV) (x34 : SV) : ER :=
  fun H => eLoadF Tryz.prog 3 x27 x31 H && (fun H => eLoadF Tryz.prog 3 x26 x30 H && (eBuild Tryz.prog 124 [(0, (.int .i64 1)), (1, x32), (4, x34)] fun x35 => eAlloc Tryz.prog 124 fun x36 => eStore Tryz.prog 124 x36 x35 <| eFieldAddr Tryz.prog 50 x8 0 fun x37 => eLoad Tryz.prog 3 x37 fun x38 => eFieldAddr Tryz.prog 50 x8 2 fun x39 => eLoad Tryz.prog 3 x39 fun x40 => eFieldAddr Tryz.prog 50 x8 3 fun x41 => eLoad Tryz.prog 3 x41 fun x42 => eFieldAddr Tryz.prog 50 x8 4 fun x43 => kern_Kernel_taskObj_p4 K N x1 x8 s15 x36 x38 x40 x42 x43) H) H
noncomputable def kern_Kernel_taskObj_p6 (C : Cal) (K : SV → ER) (N : Nat) (a0 : SV) (a1 : SV) (x1 : SV) (x8 : SV) (s15 : SV × SV × Unit) : ER :=
  eFieldAddr Tryz.prog 50 x8 0 fun x26 => eFieldAddr Tryz.prog 50 x8 1 fun x27 => eNilCk a0 fun x28 => eFieldAddr Tryz.prog 58 x28 1 fun x29 => eLoad Tryz.prog 3 x26 fun x30 => eLoad Tryz.prog 3 x27 fun x31 => eBuild Tryz.prog 121 [(0, x30), (1, x31)] fun x32 => eLoad Tryz.prog 55 x29 fun x33 => eCallR Tryz.prog C 242 [x33, a1] 38 fun x34 => kern_Kernel_taskObj_p5 K N x1 x8 s15 x26 x27 x30 x31 x32 x34
noncomputable def kern_Kernel_taskObj_p7 (C : Cal) (K : SV → ER) (N : Nat) (a0 : SV) (a1 : SV) (x1 : SV) (x8 : SV) : ER :=
  eFieldAddr Tryz.prog 50 x8 11 fun x12 => eLoad Tryz.prog 45 x12 fun x13 => eHas .any (.int .i64 0) (eHas .any (.int .i64 0) (eIter (σ := SV × SV × Unit) (fun (s15 : SV × SV × Unit) (k14 : SV × SV × Unit → ER) =>
  eBin Tryz.prog .lss 3 false s15.2.1 (.int .i64 6) fun x16 => eIfV x16
  (kern_Kernel_taskObj_p1 k14 s15 x13)
  (kern_Kernel_taskObj_p6 C K N a0 a1 x1 x8 s15)) N ((.int .i64 0), (.int .i64 0), ())))
noncomputable def kern_Kernel_taskObj_e (C : Cal) (N : Nat) (a0 a1 : SV) (K : SV → ER) : ER :=
  eAlloc Tryz.prog 124 fun x1 => eNilCk a0 fun x2 => eFieldAddr Tryz.prog 58 x2 1 fun x3 => eLoad Tryz.prog 55 x3 fun x4 => eCallR Tryz.prog C 19 [x4, a1] 79 fun x5 => eExtract x5 0 fun x6 => eExtract x5 1 fun x7 => eAlloc Tryz.prog 50 fun x8 => eStore Tryz.prog 50 x8 x6 <| eUnS .not x7 fun x9 => eIfV x9
  (eBuild Tryz.prog 124 [] fun x10 => eStore Tryz.prog 124 x1 x10 <| eLoad Tryz.prog 124 x1 fun x11 => K (.tup [x11, (.bool false)]))
  (kern_Kernel_taskObj_p7 C K N a0 a1 x1 x8)
theorem kern_Kernel_taskObj_ee (C : Cal) (N : Nat) (a0 a1 : SV) (K : SV → ER) : eBody Tryz.prog C N Tryz.f218 (Tryz.f218.body.getD .skip) kern_Kernel_taskObj_ea [a0, a1] K = kern_Kernel_taskObj_e C N a0 a1 K := by kernel_rfl
noncomputable def l218 : LeafT := fun C N args K => match args with
  | [a0, a1] => kern_Kernel_taskObj_e C N a0 a1 K
  | _ => eF
theorem lok218 : LeafOk Tryz.prog 218 l218 := ⟨Tryz.f218, Tryz.f218.body.getD .skip, kern_Kernel_taskObj_ea, Tryz.func218, by kernel_rfl, Tryz.call218, fun C N args K H e => by
  unfold l218 at e
  split at e
  · rw [kern_Kernel_taskObj_ee]; exact e
  · exact eF_no e⟩

end Go.Proofs.YtnpcjhcgbcpcoaaGreatDoor

set_option linter.unusedVariables false
set_option maxRecDepth 100000
namespace Go.Proofs.YtnpcjhcgbcpcoaaGreatDoor
open Go.Hl
/- halberd/paths.Of -/
def paths_Of_ea : Ann := .two (.none) (.two (.two (.none) (.two (.none) (.two (.two (.none) (.none)) (.none)))) (.two (.two (.none) (.two (.two (.none) (.none)) (.none))) (.two (.none) (.two (.sub (.loop [(7, .any)] (.two (.two (.none) (.two (.none) (.none))) (.sub (.two (.none) (.two (.two (.none) (.sub (.loop [(7, .any), (45, .any)] (.two (.none) (.two (.two (.none) (.none)) (.join (.sub (.two (.none) (.two (.none) (.two (.two (.none) (.two (.two (.none) (.none)) (.none))) (.two (.none) (.two (.none) (.join (.none) (.two (.two (.none) (.none)) (.none)) [(88, .any)]))))))) (.none) [(7, .any)])))))) (.none))))))) (.two (.none) (.none))))))
noncomputable def paths_Of_p0 (b8 : Nat) (k26 : SV × Unit → ER) (s24 : SV × SV × Unit) (x34 : SV) (x47 : SV) : ER :=
  eFieldAddr Tryz.prog 40 x47 0 fun x59 => eLoad Tryz.prog 3 x59 fun x60 => ePutS Tryz.prog 239 (.map (some b8)) x60 x34 fun x61 => eFieldAddr Tryz.prog 40 x47 0 fun x62 => eLoad Tryz.prog 3 x62 fun x63 => eBuildSlice Tryz.prog 38 1 [(0, x63)] fun x64 => eApp Tryz.prog [38, 38] [s24.1, x64] fun x65 => eHas .any x65 (k26 (x65, ()))
noncomputable def paths_Of_p1 (k53 : SV × Unit → ER) (x47 : SV) (x52 : SV) : ER :=
  eFieldAddr Tryz.prog 40 x47 2 fun x55 => eLoad Tryz.prog 3 x55 fun x56 => eBin Tryz.prog .eql 3 false x56 (.int .i64 2) fun x57 => eIfV x57
  (eUnS .not x52 fun x58 => eHas .any x58 (k53 (x58, ())))
  (eHas .any (.bool false) (k53 ((.bool false), ())))
noncomputable def paths_Of_p2 (C : Cal) (a0 : SV) (b8 : Nat) (k26 : SV × Unit → ER) (s24 : SV × SV × Unit) (x34 : SV) (x43 : SV) : ER :=
  eCallR Tryz.prog C 18 [a0, x43] 77 fun x44 => eExtract x44 0 fun x45 => eExtract x44 1 fun x46 => eAlloc Tryz.prog 40 fun x47 => eStore Tryz.prog 40 x47 x45 <| eFieldAddr Tryz.prog 40 x47 0 fun x48 => eLoad Tryz.prog 3 x48 fun x49 => eLookupS Tryz.prog 239 (.map (some b8)) x49 true fun x50 => eExtract x50 0 fun x51 => eExtract x50 1 fun x52 => eJoinC (σ := SV × Unit) (fun (k53 : SV × Unit → ER) =>
  paths_Of_p1 k53 x47 x52) fun (s54 : SV × Unit) =>
  eIfV s54.1
  (paths_Of_p0 b8 k26 s24 x34 x47)
  (eHas .any s24.1 (k26 (s24.1, ())))
noncomputable def paths_Of_p3 (C : Cal) (K : SV → ER) (a0 : SV) (a1 : SV) (b8 : Nat) (k26 : SV × Unit → ER) (s24 : SV × SV × Unit) (x19 : SV) (x29 : SV) (x32 : SV) : ER :=
  eBin Tryz.prog .add 9 false x32 (.str [47]) fun x33 => eBin Tryz.prog .add 9 false x33 x29 fun x34 => eFieldAddr Tryz.prog 40 x19 9 fun x35 => eLoad Tryz.prog 38 x35 fun x36 => eIndexAddrS Tryz.prog 38 x36 s24.2.1 fun x37 => eLoad Tryz.prog 3 x37 fun x38 => eBin Tryz.prog .eql 3 false x38 a1 fun x39 => eIfV x39
  (K x34)
  (eFieldAddr Tryz.prog 40 x19 9 fun x40 => eLoad Tryz.prog 38 x40 fun x41 => eIndexAddrS Tryz.prog 38 x41 s24.2.1 fun x42 => eLoad Tryz.prog 3 x42 fun x43 => paths_Of_p2 C a0 b8 k26 s24 x34 x43)
noncomputable def paths_Of_p4 (C : Cal) (K : SV → ER) (a0 : SV) (a1 : SV) (b8 : Nat) (k26 : SV × Unit → ER) (s24 : SV × SV × Unit) (x19 : SV) (x21 : SV) : ER :=
  eIndexAddrS Tryz.prog 25 x21 s24.2.1 fun x28 => eLoad Tryz.prog 9 x28 fun x29 => eFieldAddr Tryz.prog 40 x19 0 fun x30 => eLoad Tryz.prog 3 x30 fun x31 => eLookupS Tryz.prog 239 (.map (some b8)) x31 false fun x32 => paths_Of_p3 C K a0 a1 b8 k26 s24 x19 x29 x32
noncomputable def paths_Of_p5 (C : Cal) (K : SV → ER) (a0 : SV) (a1 : SV) (b8 : Nat) (k23 : SV × SV × Unit → ER) (s24 : SV × SV × Unit) (x19 : SV) (x21 : SV) : ER :=
  eJoinC (σ := SV × Unit) (fun (k26 : SV × Unit → ER) =>
  paths_Of_p4 C K a0 a1 b8 k26 s24 x19 x21) fun (s27 : SV × Unit) =>
  eBin Tryz.prog .add 3 false s24.2.1 (.int .i64 1) fun x66 => eHas .any s27.1 (eHas .any x66 (k23 (s27.1, x66, ())))
noncomputable def paths_Of_p6 (C : Cal) (K : SV → ER) (a0 : SV) (a1 : SV) (b8 : Nat) (k10 : SV × Unit → ER) (k23 : SV × SV × Unit → ER) (s24 : SV × SV × Unit) (x19 : SV) (x21 : SV) (x22 : SV) : ER :=
  eBin Tryz.prog .lss 3 false s24.2.1 x22 fun x25 => eIfV x25
  (paths_Of_p5 C K a0 a1 b8 k23 s24 x19 x21)
  (eSliceS Tryz.prog 38 s24.1 (some (.v (.int .i64 1))) none none fun x67 => eHas .any x67 (k10 (x67, ())))
noncomputable def paths_Of_p7 (C : Cal) (K : SV → ER) (N : Nat) (a0 : SV) (a1 : SV) (b8 : Nat) (k10 : SV × Unit → ER) (s11 : SV × Unit) (x14 : SV) : ER :=
  eLoad Tryz.prog 3 x14 fun x15 => eCallR Tryz.prog C 18 [a0, x15] 77 fun x16 => eExtract x16 0 fun x17 => eExtract x16 1 fun x18 => eAlloc Tryz.prog 40 fun x19 => eStore Tryz.prog 40 x19 x17 <| eFieldAddr Tryz.prog 40 x19 8 fun x20 => eLoad Tryz.prog 25 x20 fun x21 => eLenS Tryz.prog [25] [x21] fun x22 => eHas .any s11.1 (eHas .any (.int .i64 0) (eIter (σ := SV × SV × Unit) (fun (s24 : SV × SV × Unit) (k23 : SV × SV × Unit → ER) =>
  paths_Of_p6 C K a0 a1 b8 k10 k23 s24 x19 x21 x22) N (s11.1, (.int .i64 0), ())))
noncomputable def paths_Of_p8 (C : Cal) (K : SV → ER) (N : Nat) (a0 : SV) (a1 : SV) (b8 : Nat) (k10 : SV × Unit → ER) (s11 : SV × Unit) : ER :=
  eLenS Tryz.prog [38] [s11.1] fun x12 => eBin Tryz.prog .gtr 3 false x12 (.int .i64 0) fun x13 => eIfV x13
  (eIndexAddrS Tryz.prog 38 s11.1 (.int .i64 0) fun x14 => paths_Of_p7 C K N a0 a1 b8 k10 s11 x14)
  (K (.str []))
noncomputable def paths_Of_p9 (C : Cal) (K : SV → ER) (N : Nat) (a0 : SV) (a1 : SV) : ER :=
  eBuildSlice Tryz.prog 38 1 [(0, (.int .i64 1))] fun x7 => eNewB (.map []) fun b8 => ePutS Tryz.prog 239 (.map (some b8)) (.int .i64 1) (.str []) fun x9 => eHas .any x7 (eIter (σ := SV × Unit) (fun (s11 : SV × Unit) (k10 : SV × Unit → ER) =>
  paths_Of_p8 C K N a0 a1 b8 k10 s11) N (x7, ()))
noncomputable def paths_Of_e (C : Cal) (N : Nat) (a0 a1 : SV) (K : SV → ER) : ER :=
  eCallR Tryz.prog C 18 [a0, a1] 77 fun x1 => eExtract x1 0 fun x2 => eExtract x1 1 fun x3 => eAlloc Tryz.prog 40 fun x4 => eStore Tryz.prog 40 x4 x2 <| eUnS .not x3 fun x5 => eIfV x5
  (K (.str []))
  (eBin Tryz.prog .eql 3 false a1 (.int .i64 1) fun x6 => eIfV x6
  (K (.str [47]))
  (paths_Of_p9 C K N a0 a1))
theorem paths_Of_ee (C : Cal) (N : Nat) (a0 a1 : SV) (K : SV → ER) : eBody Tryz.prog C N Tryz.f219 (Tryz.f219.body.getD .skip) paths_Of_ea [a0, a1] K = paths_Of_e C N a0 a1 K := by kernel_rfl
noncomputable def l219 : LeafT := fun C N args K => match args with
  | [a0, a1] => paths_Of_e C N a0 a1 K
  | _ => eF
theorem lok219 : LeafOk Tryz.prog 219 l219 := ⟨Tryz.f219, Tryz.f219.body.getD .skip, paths_Of_ea, Tryz.func219, by kernel_rfl, Tryz.call219, fun C N args K H e => by
  unfold l219 at e
  split at e
  · rw [paths_Of_ee]; exact e
  · exact eF_no e⟩

/- strings.HasSuffix -/
def strings_HasSuffix_ea : Ann := .two (.none) (.two (.none) (.none))
noncomputable def strings_HasSuffix_e (C : Cal) (N : Nat) (a0 a1 : SV) (K : SV → ER) : ER :=
  eCallR Tryz.prog C 243 [a0, a1] 4 fun x1 => K x1
theorem strings_HasSuffix_ee (C : Cal) (N : Nat) (a0 a1 : SV) (K : SV → ER) : eBody Tryz.prog C N Tryz.f222 (Tryz.f222.body.getD .skip) strings_HasSuffix_ea [a0, a1] K = strings_HasSuffix_e C N a0 a1 K := by kernel_rfl
noncomputable def l222 : LeafT := fun C N args K => match args with
  | [a0, a1] => strings_HasSuffix_e C N a0 a1 K
  | _ => eF
theorem lok222 : LeafOk Tryz.prog 222 l222 := ⟨Tryz.f222, Tryz.f222.body.getD .skip, strings_HasSuffix_ea, Tryz.func222, by kernel_rfl, Tryz.call222, fun C N args K H e => by
  unfold l222 at e
  split at e
  · rw [strings_HasSuffix_ee]; exact e
  · exact eF_no e⟩

/- halberd/paths.names -/
def paths_names_ea : Ann := .two (.none) (.two (.none) (.none))
noncomputable def paths_names_e (C : Cal) (N : Nat) (a0 : SV) (K : SV → ER) : ER :=
  eCallR Tryz.prog C 245 [a0, (.str [47])] 25 fun x1 => eCallR Tryz.prog C 244 [x1, (.fn 246 [] [])] 25 fun x2 => K x2
theorem paths_names_ee (C : Cal) (N : Nat) (a0 : SV) (K : SV → ER) : eBody Tryz.prog C N Tryz.f223 (Tryz.f223.body.getD .skip) paths_names_ea [a0] K = paths_names_e C N a0 K := by kernel_rfl
noncomputable def l223 : LeafT := fun C N args K => match args with
  | [a0] => paths_names_e C N a0 K
  | _ => eF
theorem lok223 : LeafOk Tryz.prog 223 l223 := ⟨Tryz.f223, Tryz.f223.body.getD .skip, paths_names_ea, Tryz.func223, by kernel_rfl, Tryz.call223, fun C N args K H e => by
  unfold l223 at e
  split at e
  · rw [paths_names_ee]; exact e
  · exact eF_no e⟩

/- (*halberd/inodes.Table).Find -/
def inodes_Table_Find_ea : Ann := .two (.none) (.two (.none) (.two (.join (.none) (.two (.two (.none) (.none)) (.none)) [(22, .any)]) (.two (.none) (.two (.two (.none) (.two (.two (.none) (.none)) (.none))) (.two (.none) (.none))))))
noncomputable def inodes_Table_Find_p0 (K : SV → ER) (x1 : SV) (x13 : SV) : ER :=
  eNilCk x1 fun x16 => eFieldAddr Tryz.prog 40 x16 9 fun x17 => eLoad Tryz.prog 38 x17 fun x18 => eIndexAddrS Tryz.prog 38 x18 x13 fun x19 => eLoad Tryz.prog 3 x19 fun x20 => K (.tup [x20, (.bool true)])
noncomputable def inodes_Table_Find_p1 (C : Cal) (K : SV → ER) (a2 : SV) (x1 : SV) : ER :=
  eNilCk x1 fun x9 => eFieldAddr Tryz.prog 40 x9 8 fun x10 => eLoad Tryz.prog 25 x10 fun x11 => eCallR Tryz.prog C 170 [x11, a2] 109 fun x12 => eExtract x12 0 fun x13 => eExtract x12 1 fun x14 => eUnS .not x14 fun x15 => eIfV x15
  (K (.tup [(.int .i64 0), (.bool false)]))
  (inodes_Table_Find_p0 K x1 x13)
noncomputable def inodes_Table_Find_p2 (k2 : SV × Unit → ER) (x1 : SV) : ER :=
  eBin Tryz.prog .eql 91 true x1 (.ptr none) fun x4 => eIfV x4
  (eHas .any (.bool true) (k2 ((.bool true), ())))
  (eNilCk x1 fun x5 => eFieldAddr Tryz.prog 40 x5 2 fun x6 => eLoad Tryz.prog 3 x6 fun x7 => eBin Tryz.prog .neq 3 false x7 (.int .i64 2) fun x8 => eHas .any x8 (k2 (x8, ())))
noncomputable def inodes_Table_Find_e (C : Cal) (N : Nat) (a0 a1 a2 : SV) (K : SV → ER) : ER :=
  eCallR Tryz.prog C 25 [a0, a1] 91 fun x1 => eJoinC (σ := SV × Unit) (fun (k2 : SV × Unit → ER) =>
  inodes_Table_Find_p2 k2 x1) fun (s3 : SV × Unit) =>
  eIfV s3.1
  (K (.tup [(.int .i64 0), (.bool false)]))
  (inodes_Table_Find_p1 C K a2 x1)
theorem inodes_Table_Find_ee (C : Cal) (N : Nat) (a0 a1 a2 : SV) (K : SV → ER) : eBody Tryz.prog C N Tryz.f224 (Tryz.f224.body.getD .skip) inodes_Table_Find_ea [a0, a1, a2] K = inodes_Table_Find_e C N a0 a1 a2 K := by kernel_rfl
noncomputable def l224 : LeafT := fun C N args K => match args with
  | [a0, a1, a2] => inodes_Table_Find_e C N a0 a1 a2 K
  | _ => eF
theorem lok224 : LeafOk Tryz.prog 224 l224 := ⟨Tryz.f224, Tryz.f224.body.getD .skip, inodes_Table_Find_ea, Tryz.func224, by kernel_rfl, Tryz.call224, fun C N args K H e => by
  unfold l224 at e
  split at e
  · rw [inodes_Table_Find_ee]; exact e
  · exact eF_no e⟩

/- (*halberd/paths.walk).through -/
def paths_walk_through_ea : Ann := .two (.none) (.two (.sub (.two (.none) (.two (.two (.none) (.none)) (.two (.none) (.two (.two (.none) (.none)) (.none)))))) (.two (.none) (.two (.none) (.two (.none) (.none)))))
noncomputable def paths_walk_through_p0 (C : Cal) (K : SV → ER) (a0 : SV) (x1 : SV) : ER :=
  eNilCk a0 fun x9 => eFieldAddr Tryz.prog 197 x9 7 fun x10 => eLoad Tryz.prog 3 x10 fun x11 => eBin Tryz.prog .add 3 false x11 (.int .i64 1) fun x12 => eNilCk a0 fun x13 => eFieldAddr Tryz.prog 197 x13 7 fun x14 => eStore Tryz.prog 3 x14 x12 <| eFieldAddr Tryz.prog 40 x1 7 fun x15 => eLoad Tryz.prog 9 x15 fun x16 => eCallR Tryz.prog C 195 [a0, x16] 0 fun x17 => K (.int .i64 0)
noncomputable def paths_walk_through_e (C : Cal) (N : Nat) (a0 a1 : SV) (K : SV → ER) : ER :=
  eBox Tryz.prog 40 a1 fun x1 => eNilCk a0 fun x2 => eFieldAddr Tryz.prog 197 x2 7 fun x3 => eLoad Tryz.prog 3 x3 fun x4 => eBin Tryz.prog .eql 3 false x4 (.int .i64 8) fun x5 => eIfV x5
  (K (.int .i64 40))
  (eFieldAddr Tryz.prog 40 x1 7 fun x6 => eLoad Tryz.prog 9 x6 fun x7 => eBin Tryz.prog .eql 9 false x7 (.str []) fun x8 => eIfV x8
  (K (.int .i64 2))
  (paths_walk_through_p0 C K a0 x1))
theorem paths_walk_through_ee (C : Cal) (N : Nat) (a0 a1 : SV) (K : SV → ER) : eBody Tryz.prog C N Tryz.f225 (Tryz.f225.body.getD .skip) paths_walk_through_ea [a0, a1] K = paths_walk_through_e C N a0 a1 K := by kernel_rfl
noncomputable def l225 : LeafT := fun C N args K => match args with
  | [a0, a1] => paths_walk_through_e C N a0 a1 K
  | _ => eF
theorem lok225 : LeafOk Tryz.prog 225 l225 := ⟨Tryz.f225, Tryz.f225.body.getD .skip, paths_walk_through_ea, Tryz.func225, by kernel_rfl, Tryz.call225, fun C N args K H e => by
  unfold l225 at e
  split at e
  · rw [paths_walk_through_ee]; exact e
  · exact eF_no e⟩

/- (*halberd/paths.walk).last -/
def paths_walk_last_ea : Ann := .two (.none) (.two (.sub (.join (.none) (.two (.two (.none) (.none)) (.join (.none) (.two (.two (.none) (.none)) (.none)) [(19, .any)])) [(8, .any)])) (.two (.ord [0, 1, 2, 4, 5, 3, 6, 7, 8, 9]) (.none)))
noncomputable def paths_walk_last_p0 (K : SV → ER) (a0 : SV) (a1 : SV) (x1 : SV) (x2 : SV) : ER :=
  eNilCk a0 fun x23 => eFieldAddr Tryz.prog 197 x23 4 fun x24 => eFieldAddr Tryz.prog 40 x1 0 fun x25 => eLoad Tryz.prog 3 x24 fun x26 => eLoad Tryz.prog 3 x25 fun x27 => eBuild Tryz.prog 113 [(0, x26), (1, a1), (2, x27)] fun x28 => eStore Tryz.prog 113 x2 x28 <| eLoad Tryz.prog 113 x2 fun x29 => K (.tup [x29, (.int .i64 0)])
noncomputable def paths_walk_last_p1 (a0 : SV) (x1 : SV) (k13 : SV × Unit → ER) : ER :=
  eNilCk a0 fun x15 => eFieldAddr Tryz.prog 197 x15 6 fun x16 => eLoad Tryz.prog 4 x16 fun x17 => eIfV x17
  (eFieldAddr Tryz.prog 40 x1 2 fun x18 => eLoad Tryz.prog 3 x18 fun x19 => eBin Tryz.prog .neq 3 false x19 (.int .i64 2) fun x20 => eHas .any x20 (k13 (x20, ())))
  (eHas .any (.bool false) (k13 ((.bool false), ())))
noncomputable def paths_walk_last_p2 (K : SV → ER) (a0 : SV) (a1 : SV) (x1 : SV) (x2 : SV) : ER :=
  eJoinC (σ := SV × Unit) (fun (k13 : SV × Unit → ER) =>
  paths_walk_last_p1 a0 x1 k13) fun (s14 : SV × Unit) =>
  eIfV s14.1
  (eBuild Tryz.prog 113 [] fun x21 => eStore Tryz.prog 113 x2 x21 <| eLoad Tryz.prog 113 x2 fun x22 => K (.tup [x22, (.int .i64 20)]))
  (paths_walk_last_p0 K a0 a1 x1 x2)
noncomputable def paths_walk_last_p3 (a0 : SV) (k3 : SV × Unit → ER) (x1 : SV) : ER :=
  eNilCk a0 fun x5 => eFieldAddr Tryz.prog 197 x5 6 fun x6 => eLoad Tryz.prog 4 x6 fun x7 => eIfV x7
  (eFieldAddr Tryz.prog 40 x1 0 fun x8 => eLoad Tryz.prog 3 x8 fun x9 => eBin Tryz.prog .eql 3 false x9 (.int .i64 0) fun x10 => eHas .any x10 (k3 (x10, ())))
  (eHas .any (.bool false) (k3 ((.bool false), ())))
noncomputable def paths_walk_last_e (C : Cal) (N : Nat) (a0 a1 a2 : SV) (K : SV → ER) : ER :=
  eBox Tryz.prog 40 a2 fun x1 => eAlloc Tryz.prog 113 fun x2 => eJoinC (σ := SV × Unit) (fun (k3 : SV × Unit → ER) =>
  paths_walk_last_p3 a0 k3 x1) fun (s4 : SV × Unit) =>
  eIfV s4.1
  (eBuild Tryz.prog 113 [] fun x11 => eStore Tryz.prog 113 x2 x11 <| eLoad Tryz.prog 113 x2 fun x12 => K (.tup [x12, (.int .i64 2)]))
  (paths_walk_last_p2 K a0 a1 x1 x2)
theorem paths_walk_last_ee (C : Cal) (N : Nat) (a0 a1 a2 : SV) (K : SV → ER) : eBody Tryz.prog C N Tryz.f226 (Tryz.f226.body.getD .skip) paths_walk_last_ea [a0, a1, a2] K = paths_walk_last_e C N a0 a1 a2 K := by kernel_rfl
noncomputable def l226 : LeafT := fun C N args K => match args with
  | [a0, a1, a2] => paths_walk_last_e C N a0 a1 a2 K
  | _ => eF
theorem lok226 : LeafOk Tryz.prog 226 l226 := ⟨Tryz.f226, Tryz.f226.body.getD .skip, paths_walk_last_ea, Tryz.func226, by kernel_rfl, Tryz.call226, fun C N args K H e => by
  unfold l226 at e
  split at e
  · rw [paths_walk_last_ee]; exact e
  · exact eF_no e⟩

/- container/heap.down -/
def container_heap_down_ea : Ann := .two (.none) (.two (.none) (.join (.sub (.loop [(7, .any)] (.sub (.two (.none) (.two (.join (.none) (.two (.none) (.none)) [(21, .any)]) (.two (.none) (.join (.two (.none) (.join (.none) (.two (.none) (.none)) [(33, .any)])) (.two (.two (.none) (.two (.none) (.none))) (.two (.none) (.none))) [(9, .any)]))))))) (.two (.none) (.none)) [(7, .any)]))
noncomputable def container_heap_down_p0 (C : Cal) (a0 : SV) (a2 : SV) (x6 : SV) (k11 : SV × Unit → ER) : ER :=
  eBin Tryz.prog .add 3 false x6 (.int .i64 1) fun x13 => eJoinC (σ := SV × Unit) (fun (k14 : SV × Unit → ER) =>
  eBin Tryz.prog .lss 3 false x13 a2 fun x16 => eIfV x16
  (eInvokeR Tryz.prog C "Less" a0 [x13, x6] 4 fun x17 => eHas .any x17 (k14 (x17, ())))
  (eHas .any (.bool false) (k14 ((.bool false), ())))) fun (s15 : SV × Unit) =>
  eIfV s15.1
  (eHas .any x13 (k11 (x13, ())))
  (eHas .any x6 (k11 (x6, ())))
noncomputable def container_heap_down_p1 (C : Cal) (a0 : SV) (k1 : SV × Unit → ER) (k3 : SV × Unit → ER) (s4 : SV × Unit) (s12 : SV × Unit) : ER :=
  eInvokeR Tryz.prog C "Less" a0 [s12.1, s4.1] 4 fun x18 => eUnS .not x18 fun x19 => eIfV x19
  (eHas .any s4.1 (k1 (s4.1, ())))
  (eInvokeR Tryz.prog C "Swap" a0 [s4.1, s12.1] 0 fun x20 => eHas .any s12.1 (k3 (s12.1, ())))
noncomputable def container_heap_down_p2 (C : Cal) (a0 : SV) (a2 : SV) (k1 : SV × Unit → ER) (k3 : SV × Unit → ER) (s4 : SV × Unit) (s8 : SV × Unit) (x6 : SV) : ER :=
  eIfV s8.1
  (eHas .any s4.1 (k1 (s4.1, ())))
  (eJoinC (σ := SV × Unit) (fun (k11 : SV × Unit → ER) =>
  container_heap_down_p0 C a0 a2 x6 k11) fun (s12 : SV × Unit) =>
  container_heap_down_p1 C a0 k1 k3 s4 s12)
noncomputable def container_heap_down_p3 (C : Cal) (a0 : SV) (a2 : SV) (k1 : SV × Unit → ER) (k3 : SV × Unit → ER) (s4 : SV × Unit) : ER :=
  eBin Tryz.prog .mul 3 false (.int .i64 2) s4.1 fun x5 => eBin Tryz.prog .add 3 false x5 (.int .i64 1) fun x6 => eJoinC (σ := SV × Unit) (fun (k7 : SV × Unit → ER) =>
  eBin Tryz.prog .geq 3 false x6 a2 fun x9 => eIfV x9
  (eHas .any (.bool true) (k7 ((.bool true), ())))
  (eBin Tryz.prog .lss 3 false x6 (.int .i64 0) fun x10 => eHas .any x10 (k7 (x10, ())))) fun (s8 : SV × Unit) =>
  container_heap_down_p2 C a0 a2 k1 k3 s4 s8 x6
noncomputable def container_heap_down_e (C : Cal) (N : Nat) (a0 a1 a2 : SV) (K : SV → ER) : ER :=
  eJoinC (σ := SV × Unit) (fun (k1 : SV × Unit → ER) =>
  eHas .any a1 (eIter (σ := SV × Unit) (fun (s4 : SV × Unit) (k3 : SV × Unit → ER) =>
  container_heap_down_p3 C a0 a2 k1 k3 s4) N (a1, ()))) fun (s2 : SV × Unit) =>
  eBin Tryz.prog .gtr 3 false s2.1 a1 fun x21 => K x21
theorem container_heap_down_ee (C : Cal) (N : Nat) (a0 a1 a2 : SV) (K : SV → ER) : eBody Tryz.prog C N Tryz.f227 (Tryz.f227.body.getD .skip) container_heap_down_ea [a0, a1, a2] K = container_heap_down_e C N a0 a1 a2 K := by kernel_rfl
noncomputable def l227 : LeafT := fun C N args K => match args with
  | [a0, a1, a2] => container_heap_down_e C N a0 a1 a2 K
  | _ => eF
theorem lok227 : LeafOk Tryz.prog 227 l227 := ⟨Tryz.f227, Tryz.f227.body.getD .skip, container_heap_down_ea, Tryz.func227, by kernel_rfl, Tryz.call227, fun C N args K H e => by
  unfold l227 at e
  split at e
  · rw [container_heap_down_ee]; exact e
  · exact eF_no e⟩

/- math/bits.Mul32 -/
def math_bits_Mul32_ea : Ann := .two (.none) (.two (.none) (.two (.none) (.none)))
noncomputable def math_bits_Mul32_e (C : Cal) (N : Nat) (a0 a1 : SV) (K : SV → ER) : ER :=
  eConvS Tryz.prog 229 42 a0 fun x1 => eConvS Tryz.prog 229 42 a1 fun x2 => eBin Tryz.prog .mul 42 false x1 x2 fun x3 => eBin Tryz.prog .shr 42 false x3 (.int .u64 32) fun x4 => eConvS Tryz.prog 42 229 x4 fun x5 => eConvS Tryz.prog 42 229 x3 fun x6 => K (.tup [x5, x6])
theorem math_bits_Mul32_ee (C : Cal) (N : Nat) (a0 a1 : SV) (K : SV → ER) : eBody Tryz.prog C N Tryz.f228 (Tryz.f228.body.getD .skip) math_bits_Mul32_ea [a0, a1] K = math_bits_Mul32_e C N a0 a1 K := by kernel_rfl
noncomputable def l228 : LeafT := fun C N args K => match args with
  | [a0, a1] => math_bits_Mul32_e C N a0 a1 K
  | _ => eF
theorem lok228 : LeafOk Tryz.prog 228 l228 := ⟨Tryz.f228, Tryz.f228.body.getD .skip, math_bits_Mul32_ea, Tryz.func228, by kernel_rfl, Tryz.call228, fun C N args K H e => by
  unfold l228 at e
  split at e
  · rw [math_bits_Mul32_ee]; exact e
  · exact eF_no e⟩

end Go.Proofs.YtnpcjhcgbcpcoaaGreatDoor

set_option linter.unusedVariables false
set_option maxRecDepth 100000
namespace Go.Proofs.YtnpcjhcgbcpcoaaGreatDoor
open Go.Hl
/- math/bits.Mul64 -/
def math_bits_Mul64_ea : Ann := .two (.none) (.two (.none) (.two (.none) (.two (.none) (.two (.none) (.two (.none) (.two (.none) (.two (.none) (.two (.none) (.two (.none) (.two (.none) (.two (.none) (.none))))))))))))
noncomputable def math_bits_Mul64_p0 (K : SV → ER) (a0 : SV) (a1 : SV) (x1 : SV) (x2 : SV) (x4 : SV) (x6 : SV) (x7 : SV) : ER :=
  eBin Tryz.prog .add 42 false x6 x7 fun x8 => eBin Tryz.prog .and 42 false x8 (.int .u64 4294967295) fun x9 => eBin Tryz.prog .shr 42 false x8 (.int .u64 32) fun x10 => eBin Tryz.prog .mul 42 false x1 x4 fun x11 => eBin Tryz.prog .add 42 false x9 x11 fun x12 => eBin Tryz.prog .mul 42 false x2 x4 fun x13 => eBin Tryz.prog .add 42 false x13 x10 fun x14 => eBin Tryz.prog .shr 42 false x12 (.int .u64 32) fun x15 => eBin Tryz.prog .add 42 false x14 x15 fun x16 => eBin Tryz.prog .mul 42 false a0 a1 fun x17 => K (.tup [x16, x17])
noncomputable def math_bits_Mul64_e (C : Cal) (N : Nat) (a0 a1 : SV) (K : SV → ER) : ER :=
  eBin Tryz.prog .and 42 false a0 (.int .u64 4294967295) fun x1 => eBin Tryz.prog .shr 42 false a0 (.int .u64 32) fun x2 => eBin Tryz.prog .and 42 false a1 (.int .u64 4294967295) fun x3 => eBin Tryz.prog .shr 42 false a1 (.int .u64 32) fun x4 => eBin Tryz.prog .mul 42 false x1 x3 fun x5 => eBin Tryz.prog .mul 42 false x2 x3 fun x6 => eBin Tryz.prog .shr 42 false x5 (.int .u64 32) fun x7 => math_bits_Mul64_p0 K a0 a1 x1 x2 x4 x6 x7
theorem math_bits_Mul64_ee (C : Cal) (N : Nat) (a0 a1 : SV) (K : SV → ER) : eBody Tryz.prog C N Tryz.f229 (Tryz.f229.body.getD .skip) math_bits_Mul64_ea [a0, a1] K = math_bits_Mul64_e C N a0 a1 K := by kernel_rfl
noncomputable def l229 : LeafT := fun C N args K => match args with
  | [a0, a1] => math_bits_Mul64_e C N a0 a1 K
  | _ => eF
theorem lok229 : LeafOk Tryz.prog 229 l229 := ⟨Tryz.f229, Tryz.f229.body.getD .skip, math_bits_Mul64_ea, Tryz.func229, by kernel_rfl, Tryz.call229, fun C N args K H e => by
  unfold l229 at e
  split at e
  · rw [math_bits_Mul64_ee]; exact e
  · exact eF_no e⟩

/- internal/stringslite.HasPrefix -/
def internal_stringslite_HasPrefix_ea : Ann := .two (.none) (.join (.none) (.none) [(4, .any)])
noncomputable def internal_stringslite_HasPrefix_p0 (a0 : SV) (a1 : SV) (k1 : SV × Unit → ER) : ER :=
  eLenS Tryz.prog [9] [a0] fun x3 => eLenS Tryz.prog [9] [a1] fun x4 => eBin Tryz.prog .geq 3 false x3 x4 fun x5 => eIfV x5
  (eLenS Tryz.prog [9] [a1] fun x6 => eSliceS Tryz.prog 9 a0 none (some (.v x6)) none fun x7 => eBin Tryz.prog .eql 9 false x7 a1 fun x8 => eHas .any x8 (k1 (x8, ())))
  (eHas .any (.bool false) (k1 ((.bool false), ())))
noncomputable def internal_stringslite_HasPrefix_e (C : Cal) (N : Nat) (a0 a1 : SV) (K : SV → ER) : ER :=
  eJoinC (σ := SV × Unit) (fun (k1 : SV × Unit → ER) =>
  internal_stringslite_HasPrefix_p0 a0 a1 k1) fun (s2 : SV × Unit) =>
  K s2.1
theorem internal_stringslite_HasPrefix_ee (C : Cal) (N : Nat) (a0 a1 : SV) (K : SV → ER) : eBody Tryz.prog C N Tryz.f230 (Tryz.f230.body.getD .skip) internal_stringslite_HasPrefix_ea [a0, a1] K = internal_stringslite_HasPrefix_e C N a0 a1 K := by kernel_rfl
noncomputable def l230 : LeafT := fun C N args K => match args with
  | [a0, a1] => internal_stringslite_HasPrefix_e C N a0 a1 K
  | _ => eF
theorem lok230 : LeafOk Tryz.prog 230 l230 := ⟨Tryz.f230, Tryz.f230.body.getD .skip, internal_stringslite_HasPrefix_ea, Tryz.func230, by kernel_rfl, Tryz.call230, fun C N args K H e => by
  unfold l230 at e
  split at e
  · rw [internal_stringslite_HasPrefix_ee]; exact e
  · exact eF_no e⟩

/- (*strings.Builder).grow -/
def strings_Builder_grow_ea : Ann := .two (.ord [0, 1, 2, 6, 9, 10, 11, 3, 4, 5, 7, 12, 13, 8, 14, 15]) (.two (.none) (.none))
noncomputable def strings_Builder_grow_e (C : Cal) (N : Nat) (a0 a1 : SV) (K : SV → ER) : ER :=
  eNilCk a0 fun x1 => eFieldAddr Tryz.prog 209 x1 1 fun x2 => eNilCk a0 fun x3 => eFieldAddr Tryz.prog 209 x3 1 fun x4 => eLoad Tryz.prog 207 x2 fun x5 => eF
theorem strings_Builder_grow_ee (C : Cal) (N : Nat) (a0 a1 : SV) (K : SV → ER) : eBody Tryz.prog C N Tryz.f232 (Tryz.f232.body.getD .skip) strings_Builder_grow_ea [a0, a1] K = strings_Builder_grow_e C N a0 a1 K := by kernel_rfl
noncomputable def l232 : LeafT := fun C N args K => match args with
  | [a0, a1] => strings_Builder_grow_e C N a0 a1 K
  | _ => eF
theorem lok232 : LeafOk Tryz.prog 232 l232 := ⟨Tryz.f232, Tryz.f232.body.getD .skip, strings_Builder_grow_ea, Tryz.func232, by kernel_rfl, Tryz.call232, fun C N args K H e => by
  unfold l232 at e
  split at e
  · rw [strings_Builder_grow_ee]; exact e
  · exact eF_no e⟩

/- cmp.isNaN[string] -/
def cmp_isNaN_string_ea : Ann := .two (.none) (.two (.none) (.none))
noncomputable def cmp_isNaN_string_e (C : Cal) (N : Nat) (a0 : SV) (K : SV → ER) : ER :=
  eBin Tryz.prog .neq 9 false a0 a0 fun x1 => K x1
theorem cmp_isNaN_string_ee (C : Cal) (N : Nat) (a0 : SV) (K : SV → ER) : eBody Tryz.prog C N Tryz.f233 (Tryz.f233.body.getD .skip) cmp_isNaN_string_ea [a0] K = cmp_isNaN_string_e C N a0 K := by kernel_rfl
noncomputable def l233 : LeafT := fun C N args K => match args with
  | [a0] => cmp_isNaN_string_e C N a0 K
  | _ => eF
theorem lok233 : LeafOk Tryz.prog 233 l233 := ⟨Tryz.f233, Tryz.f233.body.getD .skip, cmp_isNaN_string_ea, Tryz.func233, by kernel_rfl, Tryz.call233, fun C N args K H e => by
  unfold l233 at e
  split at e
  · rw [cmp_isNaN_string_ee]; exact e
  · exact eF_no e⟩

/- strings.IndexAny -/
def strings_IndexAny_ea : Ann := .two (.none) (.two (.two (.none) (.two (.two (.none) (.none)) (.none))) (.two (.two (.none) (.two (.two (.none) (.join (.two (.none) (.two (.none) (.none))) (.two (.none) (.none)) [(5, .any)])) (.none))) (.join (.two (.none) (.two (.two (.none) (.two (.none) (.two (.two (.two (.none) (.sub (.loop [(8, .any)] (.two (.two (.none) (.two (.none) (.none))) (.two (.sub (.two (.none) (.two (.two (.none) (.none)) (.none)))) (.none)))))) (.two (.none) (.none))) (.none)))) (.none))) (.two (.two (.none) (.sub (.loop [] (.two (.none) (.two (.two (.none) (.none)) (.sub (.two (.none) (.two (.none) (.two (.two (.none) (.none)) (.none)))))))))) (.two (.none) (.none))) [])))
noncomputable def strings_IndexAny_p0 (C : Cal) (K : SV → ER) (a0 : SV) (a1 : SV) : ER :=
  eIndexS Tryz.prog 9 a1 (.int .i64 0) fun x4 => eConvS Tryz.prog 5 21 x4 fun x5 => eJoinC (σ := SV × Unit) (fun (k6 : SV × Unit → ER) =>
  eBin Tryz.prog .geq 21 false x5 (.int .i32 128) fun x8 => eIfV x8
  (eHas .any (.int .i32 65533) (k6 ((.int .i32 65533), ())))
  (eHas .any x5 (k6 (x5, ())))) fun (s7 : SV × Unit) =>
  eCallR Tryz.prog C 249 [a0, s7.1] 3 fun x9 => K x9
noncomputable def strings_IndexAny_p1 (C : Cal) (K : SV → ER) (a0 : SV) (k18 : SV × Unit → ER) (s19 : SV × Unit) (x17 : SV) : ER :=
  eLenS Tryz.prog [9] [a0] fun x20 => eBin Tryz.prog .lss 3 false s19.1 x20 fun x21 => eIfV x21
  (eIndexS Tryz.prog 9 a0 s19.1 fun x22 => eCallR Tryz.prog C 252 [x17, x22] 4 fun x23 => eIfV x23
  (K s19.1)
  (eBin Tryz.prog .add 3 false s19.1 (.int .i64 1) fun x24 => eHas .any x24 (k18 (x24, ()))))
  (K (.int .i64 (-1)))
noncomputable def strings_IndexAny_p2 (C : Cal) (K : SV → ER) (N : Nat) (a0 : SV) (a1 : SV) (k10 : Unit → ER) : ER :=
  eCallR Tryz.prog C 251 [a1] 249 fun x14 => eExtract x14 0 fun x15 => eExtract x14 1 fun x16 => eAlloc Tryz.prog 248 fun x17 => eStore Tryz.prog 248 x17 x15 <| eIfV x16
  (eHas .any (.int .i64 0) (eIter (σ := SV × Unit) (fun (s19 : SV × Unit) (k18 : SV × Unit → ER) =>
  strings_IndexAny_p1 C K a0 k18 s19 x17) N ((.int .i64 0), ())))
  (k10 (()))
noncomputable def strings_IndexAny_p3 (C : Cal) (K : SV → ER) (N : Nat) (a0 : SV) (a1 : SV) : ER :=
  eRange Tryz.prog 9 a0 fun x25 => eIter (σ := Unit) (fun (s27 : Unit) (k26 : Unit → ER) =>
  eNextV x25 (fun a28 c29 => eCallR Tryz.prog C 249 [a1, c29] 3 fun x30 => eBin Tryz.prog .geq 3 false x30 (.int .i64 0) fun x31 => eIfV x31
  (K a28)
  (k26 (())))
  (K (.int .i64 (-1)))) N (())
noncomputable def strings_IndexAny_p4 (C : Cal) (K : SV → ER) (N : Nat) (a0 : SV) (a1 : SV) : ER :=
  eJoinC (σ := Unit) (fun (k10 : Unit → ER) =>
  eLenS Tryz.prog [9] [a0] fun x12 => eCallR Tryz.prog C 250 [x12] 4 fun x13 => eIfV x13
  (strings_IndexAny_p2 C K N a0 a1 k10)
  (k10 (()))) fun (s11 : Unit) =>
  strings_IndexAny_p3 C K N a0 a1
noncomputable def strings_IndexAny_e (C : Cal) (N : Nat) (a0 a1 : SV) (K : SV → ER) : ER :=
  eBin Tryz.prog .eql 9 false a1 (.str []) fun x1 => eIfV x1
  (K (.int .i64 (-1)))
  (eLenS Tryz.prog [9] [a1] fun x2 => eBin Tryz.prog .eql 3 false x2 (.int .i64 1) fun x3 => eIfV x3
  (strings_IndexAny_p0 C K a0 a1)
  (strings_IndexAny_p4 C K N a0 a1))
theorem strings_IndexAny_ee (C : Cal) (N : Nat) (a0 a1 : SV) (K : SV → ER) : eBody Tryz.prog C N Tryz.f234 (Tryz.f234.body.getD .skip) strings_IndexAny_ea [a0, a1] K = strings_IndexAny_e C N a0 a1 K := by kernel_rfl
noncomputable def l234 : LeafT := fun C N args K => match args with
  | [a0, a1] => strings_IndexAny_e C N a0 a1 K
  | _ => eF
theorem lok234 : LeafOk Tryz.prog 234 l234 := ⟨Tryz.f234, Tryz.f234.body.getD .skip, strings_IndexAny_ea, Tryz.func234, by kernel_rfl, Tryz.call234, fun C N args K H e => by
  unfold l234 at e
  split at e
  · rw [strings_IndexAny_ee]; exact e
  · exact eF_no e⟩

/- internal/stringslite.IndexByte -/
def internal_stringslite_IndexByte_ea : Ann := .two (.none) (.two (.none) (.none))
noncomputable def internal_stringslite_IndexByte_e (C : Cal) (N : Nat) (a0 a1 : SV) (K : SV → ER) : ER :=
  eCallR Tryz.prog C 255 [a0, a1] 3 fun x1 => K x1
theorem internal_stringslite_IndexByte_ee (C : Cal) (N : Nat) (a0 a1 : SV) (K : SV → ER) : eBody Tryz.prog C N Tryz.f237 (Tryz.f237.body.getD .skip) internal_stringslite_IndexByte_ea [a0, a1] K = internal_stringslite_IndexByte_e C N a0 a1 K := by kernel_rfl
noncomputable def l237 : LeafT := fun C N args K => match args with
  | [a0, a1] => internal_stringslite_IndexByte_e C N a0 a1 K
  | _ => eF
theorem lok237 : LeafOk Tryz.prog 237 l237 := ⟨Tryz.f237, Tryz.f237.body.getD .skip, internal_stringslite_IndexByte_ea, Tryz.func237, by kernel_rfl, Tryz.call237, fun C N args K H e => by
  unfold l237 at e
  split at e
  · rw [internal_stringslite_IndexByte_ee]; exact e
  · exact eF_no e⟩

/- internal/bytealg.Cutover -/
def internal_bytealg_Cutover_ea : Ann := .two (.none) (.two (.none) (.none))
noncomputable def internal_bytealg_Cutover_e (C : Cal) (N : Nat) (a0 : SV) (K : SV → ER) : ER :=
  eBin Tryz.prog .add 3 false a0 (.int .i64 16) fun x1 => eBin Tryz.prog .quo 3 false x1 (.int .i64 8) fun x2 => K x2
theorem internal_bytealg_Cutover_ee (C : Cal) (N : Nat) (a0 : SV) (K : SV → ER) : eBody Tryz.prog C N Tryz.f239 (Tryz.f239.body.getD .skip) internal_bytealg_Cutover_ea [a0] K = internal_bytealg_Cutover_e C N a0 K := by kernel_rfl
noncomputable def l239 : LeafT := fun C N args K => match args with
  | [a0] => internal_bytealg_Cutover_e C N a0 K
  | _ => eF
theorem lok239 : LeafOk Tryz.prog 239 l239 := ⟨Tryz.f239, Tryz.f239.body.getD .skip, internal_bytealg_Cutover_ea, Tryz.func239, by kernel_rfl, Tryz.call239, fun C N args K H e => by
  unfold l239 at e
  split at e
  · rw [internal_bytealg_Cutover_ee]; exact e
  · exact eF_no e⟩

/- internal/bytealg.IndexRabinKarp[string] -/
def internal_bytealg_IndexRabinKarp_string_ea : Ann := .two (.none) (.two (.none) (.two (.none) (.two (.none) (.two (.two (.none) (.sub (.loop [(8, .any), (9, .any)] (.two (.two (.none) (.two (.none) (.none))) (.two (.sub (.none)) (.none)))))) (.two (.join (.none) (.two (.two (.none) (.none)) (.none)) [(39, .any)]) (.two (.two (.none) (.sub (.loop [(8, .any), (10, .any)] (.two (.two (.none) (.two (.none) (.none))) (.sub (.two (.none) (.two (.none) (.two (.none) (.two (.none) (.join (.none) (.two (.two (.none) (.none)) (.none)) [(77, .any)])))))))))) (.two (.none) (.none))))))))
noncomputable def internal_bytealg_IndexRabinKarp_string_p0 (a0 : SV) (k5 : SV × SV × Unit → ER) (s6 : SV × SV × Unit) : ER :=
  eBin Tryz.prog .mul 229 false s6.1 (.int .u32 16777619) fun x8 => eIndexS Tryz.prog 9 a0 s6.2.1 fun x9 => eConvS Tryz.prog 5 229 x9 fun x10 => eBin Tryz.prog .add 229 false x8 x10 fun x11 => eBin Tryz.prog .add 3 false s6.2.1 (.int .i64 1) fun x12 => eHas .any x11 (eHas .any x12 (k5 (x11, x12, ())))
noncomputable def internal_bytealg_IndexRabinKarp_string_p1 (a0 : SV) (a1 : SV) (x2 : SV) (x4 : SV) (k32 : SV × Unit → ER) (x30 : SV) (x31 : SV) : ER :=
  eBin Tryz.prog .eql 229 false x30 x2 fun x34 => eIfV x34
  (eBin Tryz.prog .sub 3 false x31 x4 fun x35 => eSliceS Tryz.prog 9 a0 (some (.v x35)) (some (.v x31)) none fun x36 => eBin Tryz.prog .eql 9 false x36 a1 fun x37 => eHas .any x37 (k32 (x37, ())))
  (eHas .any (.bool false) (k32 ((.bool false), ())))
noncomputable def internal_bytealg_IndexRabinKarp_string_p2 (K : SV → ER) (a0 : SV) (a1 : SV) (x2 : SV) (x3 : SV) (x4 : SV) (k18 : SV × SV × Unit → ER) (s19 : SV × SV × Unit) (x25 : SV) : ER :=
  eBin Tryz.prog .sub 3 false s19.2.1 x4 fun x26 => eIndexS Tryz.prog 9 a0 x26 fun x27 => eConvS Tryz.prog 5 229 x27 fun x28 => eBin Tryz.prog .mul 229 false x3 x28 fun x29 => eBin Tryz.prog .sub 229 false x25 x29 fun x30 => eBin Tryz.prog .add 3 false s19.2.1 (.int .i64 1) fun x31 => eJoinC (σ := SV × Unit) (fun (k32 : SV × Unit → ER) =>
  internal_bytealg_IndexRabinKarp_string_p1 a0 a1 x2 x4 k32 x30 x31) fun (s33 : SV × Unit) =>
  eIfV s33.1
  (eBin Tryz.prog .sub 3 false x31 x4 fun x38 => K x38)
  (eHas .any x30 (eHas .any x31 (k18 (x30, x31, ()))))
noncomputable def internal_bytealg_IndexRabinKarp_string_p3 (K : SV → ER) (a0 : SV) (a1 : SV) (x2 : SV) (x3 : SV) (x4 : SV) (k18 : SV × SV × Unit → ER) (s19 : SV × SV × Unit) : ER :=
  eBin Tryz.prog .mul 229 false s19.1 (.int .u32 16777619) fun x22 => eIndexS Tryz.prog 9 a0 s19.2.1 fun x23 => eConvS Tryz.prog 5 229 x23 fun x24 => eBin Tryz.prog .add 229 false x22 x24 fun x25 => internal_bytealg_IndexRabinKarp_string_p2 K a0 a1 x2 x3 x4 k18 s19 x25
noncomputable def internal_bytealg_IndexRabinKarp_string_p4 (K : SV → ER) (N : Nat) (a0 : SV) (a1 : SV) (s6 : SV × SV × Unit) (x2 : SV) (x3 : SV) (x4 : SV) : ER :=
  eHas .any s6.1 (eHas .any x4 (eIter (σ := SV × SV × Unit) (fun (s19 : SV × SV × Unit) (k18 : SV × SV × Unit → ER) =>
  eLenS Tryz.prog [9] [a0] fun x20 => eBin Tryz.prog .lss 3 false s19.2.1 x20 fun x21 => eIfV x21
  (internal_bytealg_IndexRabinKarp_string_p3 K a0 a1 x2 x3 x4 k18 s19)
  (K (.int .i64 (-1)))) N (s6.1, x4, ())))
noncomputable def internal_bytealg_IndexRabinKarp_string_p5 (a0 : SV) (a1 : SV) (s6 : SV × SV × Unit) (x2 : SV) (x4 : SV) (k13 : SV × Unit → ER) : ER :=
  eBin Tryz.prog .eql 229 false s6.1 x2 fun x15 => eIfV x15
  (eSliceS Tryz.prog 9 a0 none (some (.v x4)) none fun x16 => eBin Tryz.prog .eql 9 false x16 a1 fun x17 => eHas .any x17 (k13 (x17, ())))
  (eHas .any (.bool false) (k13 ((.bool false), ())))
noncomputable def internal_bytealg_IndexRabinKarp_string_p6 (K : SV → ER) (N : Nat) (a0 : SV) (a1 : SV) (s6 : SV × SV × Unit) (x2 : SV) (x3 : SV) (x4 : SV) : ER :=
  eJoinC (σ := SV × Unit) (fun (k13 : SV × Unit → ER) =>
  internal_bytealg_IndexRabinKarp_string_p5 a0 a1 s6 x2 x4 k13) fun (s14 : SV × Unit) =>
  eIfV s14.1
  (K (.int .i64 0))
  (internal_bytealg_IndexRabinKarp_string_p4 K N a0 a1 s6 x2 x3 x4)
noncomputable def internal_bytealg_IndexRabinKarp_string_e (C : Cal) (N : Nat) (a0 a1 : SV) (K : SV → ER) : ER :=
  eCallR Tryz.prog C 256 [a1] 230 fun x1 => eExtract x1 0 fun x2 => eExtract x1 1 fun x3 => eLenS Tryz.prog [9] [a1] fun x4 => eHas .any (.int .u32 0) (eHas .any (.int .i64 0) (eIter (σ := SV × SV × Unit) (fun (s6 : SV × SV × Unit) (k5 : SV × SV × Unit → ER) =>
  eBin Tryz.prog .lss 3 false s6.2.1 x4 fun x7 => eIfV x7
  (internal_bytealg_IndexRabinKarp_string_p0 a0 k5 s6)
  (internal_bytealg_IndexRabinKarp_string_p6 K N a0 a1 s6 x2 x3 x4)) N ((.int .u32 0), (.int .i64 0), ())))
theorem internal_bytealg_IndexRabinKarp_string_ee (C : Cal) (N : Nat) (a0 a1 : SV) (K : SV → ER) : eBody Tryz.prog C N Tryz.f240 (Tryz.f240.body.getD .skip) internal_bytealg_IndexRabinKarp_string_ea [a0, a1] K = internal_bytealg_IndexRabinKarp_string_e C N a0 a1 K := by kernel_rfl
noncomputable def l240 : LeafT := fun C N args K => match args with
  | [a0, a1] => internal_bytealg_IndexRabinKarp_string_e C N a0 a1 K
  | _ => eF
theorem lok240 : LeafOk Tryz.prog 240 l240 := ⟨Tryz.f240, Tryz.f240.body.getD .skip, internal_bytealg_IndexRabinKarp_string_ea, Tryz.func240, by kernel_rfl, Tryz.call240, fun C N args K H e => by
  unfold l240 at e
  split at e
  · rw [internal_bytealg_IndexRabinKarp_string_ee]; exact e
  · exact eF_no e⟩

end Go.Proofs.YtnpcjhcgbcpcoaaGreatDoor

set_option linter.unusedVariables false
set_option maxRecDepth 100000
namespace Go.Proofs.YtnpcjhcgbcpcoaaGreatDoor
open Go.Hl
/- (*halberd/tasks.Table).Up -/
def tasks_Table_Up_ea : Ann := .two (.none) (.two (.none) (.two (.two (.none) (.sub (.loop [(5, .any), (6, .any)] (.two (.join (.none) (.two (.none) (.none)) [(20, .any)]) (.two (.sub (.none)) (.none)))))) (.two (.none) (.none))))
noncomputable def tasks_Table_Up_p0 (C : Cal) (a0 : SV) (k2 : SV × SV × Unit → ER) (s3 : SV × SV × Unit) : ER :=
  eNilCk s3.2.1 fun x12 => eFieldAddr Tryz.prog 50 x12 0 fun x13 => eLoad Tryz.prog 3 x13 fun x14 => eBuildSlice Tryz.prog 38 1 [(0, x14)] fun x15 => eApp Tryz.prog [38, 38] [s3.1, x15] fun x16 => eNilCk s3.2.1 fun x17 => eFieldAddr Tryz.prog 50 x17 2 fun x18 => eLoad Tryz.prog 3 x18 fun x19 => eCallR Tryz.prog C 27 [a0, x19] 94 fun x20 => eHas .any x16 (eHas .any x20 (k2 (x16, x20, ())))
noncomputable def tasks_Table_Up_p1 (C : Cal) (k4 : SV × Unit → ER) (s3 : SV × SV × Unit) : ER :=
  eBin Tryz.prog .neq 94 true s3.2.1 (.ptr none) fun x6 => eIfV x6
  (eNilCk s3.2.1 fun x7 => eFieldAddr Tryz.prog 50 x7 0 fun x8 => eLoad Tryz.prog 3 x8 fun x9 => eCallR Tryz.prog C 261 [s3.1, x9] 4 fun x10 => eUnS .not x10 fun x11 => eHas .any x11 (k4 (x11, ())))
  (eHas .any (.bool false) (k4 ((.bool false), ())))
noncomputable def tasks_Table_Up_e (C : Cal) (N : Nat) (a0 a1 : SV) (K : SV → ER) : ER :=
  eCallR Tryz.prog C 27 [a0, a1] 94 fun x1 => eHas .any (.sl ⟨none, 0, .lit 0⟩) (eHas .any x1 (eIter (σ := SV × SV × Unit) (fun (s3 : SV × SV × Unit) (k2 : SV × SV × Unit → ER) =>
  eJoinC (σ := SV × Unit) (fun (k4 : SV × Unit → ER) =>
  tasks_Table_Up_p1 C k4 s3) fun (s5 : SV × Unit) =>
  eIfV s5.1
  (tasks_Table_Up_p0 C a0 k2 s3)
  (K s3.1)) N ((.sl ⟨none, 0, .lit 0⟩), x1, ())))
theorem tasks_Table_Up_ee (C : Cal) (N : Nat) (a0 a1 : SV) (K : SV → ER) : eBody Tryz.prog C N Tryz.f242 (Tryz.f242.body.getD .skip) tasks_Table_Up_ea [a0, a1] K = tasks_Table_Up_e C N a0 a1 K := by kernel_rfl
noncomputable def l242 : LeafT := fun C N args K => match args with
  | [a0, a1] => tasks_Table_Up_e C N a0 a1 K
  | _ => eF
theorem lok242 : LeafOk Tryz.prog 242 l242 := ⟨Tryz.f242, Tryz.f242.body.getD .skip, tasks_Table_Up_ea, Tryz.func242, by kernel_rfl, Tryz.call242, fun C N args K H e => by
  unfold l242 at e
  split at e
  · rw [tasks_Table_Up_ee]; exact e
  · exact eF_no e⟩

/- internal/stringslite.HasSuffix -/
def internal_stringslite_HasSuffix_ea : Ann := .two (.none) (.join (.none) (.none) [(4, .any)])
noncomputable def internal_stringslite_HasSuffix_p0 (a0 : SV) (a1 : SV) (k1 : SV × Unit → ER) : ER :=
  eLenS Tryz.prog [9] [a0] fun x6 => eLenS Tryz.prog [9] [a1] fun x7 => eBin Tryz.prog .sub 3 false x6 x7 fun x8 => eSliceS Tryz.prog 9 a0 (some (.v x8)) none none fun x9 => eBin Tryz.prog .eql 9 false x9 a1 fun x10 => eHas .any x10 (k1 (x10, ()))
noncomputable def internal_stringslite_HasSuffix_p1 (a0 : SV) (a1 : SV) (k1 : SV × Unit → ER) : ER :=
  eLenS Tryz.prog [9] [a0] fun x3 => eLenS Tryz.prog [9] [a1] fun x4 => eBin Tryz.prog .geq 3 false x3 x4 fun x5 => eIfV x5
  (internal_stringslite_HasSuffix_p0 a0 a1 k1)
  (eHas .any (.bool false) (k1 ((.bool false), ())))
noncomputable def internal_stringslite_HasSuffix_e (C : Cal) (N : Nat) (a0 a1 : SV) (K : SV → ER) : ER :=
  eJoinC (σ := SV × Unit) (fun (k1 : SV × Unit → ER) =>
  internal_stringslite_HasSuffix_p1 a0 a1 k1) fun (s2 : SV × Unit) =>
  K s2.1
theorem internal_stringslite_HasSuffix_ee (C : Cal) (N : Nat) (a0 a1 : SV) (K : SV → ER) : eBody Tryz.prog C N Tryz.f243 (Tryz.f243.body.getD .skip) internal_stringslite_HasSuffix_ea [a0, a1] K = internal_stringslite_HasSuffix_e C N a0 a1 K := by kernel_rfl
noncomputable def l243 : LeafT := fun C N args K => match args with
  | [a0, a1] => internal_stringslite_HasSuffix_e C N a0 a1 K
  | _ => eF
theorem lok243 : LeafOk Tryz.prog 243 l243 := ⟨Tryz.f243, Tryz.f243.body.getD .skip, internal_stringslite_HasSuffix_ea, Tryz.func243, by kernel_rfl, Tryz.call243, fun C N args K H e => by
  unfold l243 at e
  split at e
  · rw [internal_stringslite_HasSuffix_ee]; exact e
  · exact eF_no e⟩

/- slices.DeleteFunc[[]string,string] -/
def slices_DeleteFunc_string_string_ea : Ann := .two (.none) (.two (.none) (.two (.two (.none) (.two (.two (.none) (.none)) (.none))) (.two (.two (.none) (.sub (.loop [(5, .any), (6, .any)] (.two (.two (.none) (.two (.none) (.none))) (.join (.sub (.two (.none) (.two (.none) (.two (.two (.none) (.none)) (.none))))) (.none) [(5, .any)]))))) (.two (.none) (.two (.none) (.none))))))
noncomputable def slices_DeleteFunc_string_string_p0 (C : Cal) (a0 : SV) (a1 : SV) (k8 : SV × Unit → ER) (s5 : SV × SV × Unit) : ER :=
  eIndexAddrS Tryz.prog 25 a0 s5.2.1 fun x10 => eLoad Tryz.prog 9 x10 fun x11 => eCallVR Tryz.prog C a1 [x11] 4 fun x12 => eUnS .not x12 fun x13 => eIfV x13
  (eIndexAddrS Tryz.prog 25 a0 s5.1 fun x14 => eStore Tryz.prog 9 x14 x11 <| eBin Tryz.prog .add 3 false s5.1 (.int .i64 1) fun x15 => eHas .any x15 (k8 (x15, ())))
  (eHas .any s5.1 (k8 (s5.1, ())))
noncomputable def slices_DeleteFunc_string_string_p1 (C : Cal) (a0 : SV) (a1 : SV) (k4 : SV × SV × Unit → ER) (s5 : SV × SV × Unit) : ER :=
  eJoinC (σ := SV × Unit) (fun (k8 : SV × Unit → ER) =>
  slices_DeleteFunc_string_string_p0 C a0 a1 k8 s5) fun (s9 : SV × Unit) =>
  eBin Tryz.prog .add 3 false s5.2.1 (.int .i64 1) fun x16 => eHas .any s9.1 (eHas .any x16 (k4 (s9.1, x16, ())))
noncomputable def slices_DeleteFunc_string_string_p2 (C : Cal) (K : SV → ER) (a0 : SV) (a1 : SV) (k4 : SV × SV × Unit → ER) (s5 : SV × SV × Unit) : ER :=
  eLenS Tryz.prog [25] [a0] fun x6 => eBin Tryz.prog .lss 3 false s5.2.1 x6 fun x7 => eIfV x7
  (slices_DeleteFunc_string_string_p1 C a0 a1 k4 s5)
  (eSliceS Tryz.prog 25 a0 (some (.v s5.1)) none none fun x17 => eClear Tryz.prog [25] [x17] fun x18 => eSliceS Tryz.prog 25 a0 none (some (.v s5.1)) none fun x19 => K x19)
noncomputable def slices_DeleteFunc_string_string_p3 (C : Cal) (K : SV → ER) (N : Nat) (a0 : SV) (a1 : SV) (x1 : SV) : ER :=
  eBin Tryz.prog .add 3 false x1 (.int .i64 1) fun x3 => eHas .any x1 (eHas .any x3 (eIter (σ := SV × SV × Unit) (fun (s5 : SV × SV × Unit) (k4 : SV × SV × Unit → ER) =>
  slices_DeleteFunc_string_string_p2 C K a0 a1 k4 s5) N (x1, x3, ())))
noncomputable def slices_DeleteFunc_string_string_e (C : Cal) (N : Nat) (a0 a1 : SV) (K : SV → ER) : ER :=
  eCallR Tryz.prog C 262 [a0, a1] 3 fun x1 => eBin Tryz.prog .eql 3 false x1 (.int .i64 (-1)) fun x2 => eIfV x2
  (K a0)
  (slices_DeleteFunc_string_string_p3 C K N a0 a1 x1)
theorem slices_DeleteFunc_string_string_ee (C : Cal) (N : Nat) (a0 a1 : SV) (K : SV → ER) : eBody Tryz.prog C N Tryz.f244 (Tryz.f244.body.getD .skip) slices_DeleteFunc_string_string_ea [a0, a1] K = slices_DeleteFunc_string_string_e C N a0 a1 K := by kernel_rfl
noncomputable def l244 : LeafT := fun C N args K => match args with
  | [a0, a1] => slices_DeleteFunc_string_string_e C N a0 a1 K
  | _ => eF
theorem lok244 : LeafOk Tryz.prog 244 l244 := ⟨Tryz.f244, Tryz.f244.body.getD .skip, slices_DeleteFunc_string_string_ea, Tryz.func244, by kernel_rfl, Tryz.call244, fun C N args K H e => by
  unfold l244 at e
  split at e
  · rw [slices_DeleteFunc_string_string_ee]; exact e
  · exact eF_no e⟩

/- strings.Split -/
def strings_Split_ea : Ann := .two (.none) (.two (.none) (.none))
noncomputable def strings_Split_e (C : Cal) (N : Nat) (a0 a1 : SV) (K : SV → ER) : ER :=
  eCallR Tryz.prog C 263 [a0, a1, (.int .i64 0), (.int .i64 (-1))] 25 fun x1 => K x1
theorem strings_Split_ee (C : Cal) (N : Nat) (a0 a1 : SV) (K : SV → ER) : eBody Tryz.prog C N Tryz.f245 (Tryz.f245.body.getD .skip) strings_Split_ea [a0, a1] K = strings_Split_e C N a0 a1 K := by kernel_rfl
noncomputable def l245 : LeafT := fun C N args K => match args with
  | [a0, a1] => strings_Split_e C N a0 a1 K
  | _ => eF
theorem lok245 : LeafOk Tryz.prog 245 l245 := ⟨Tryz.f245, Tryz.f245.body.getD .skip, strings_Split_ea, Tryz.func245, by kernel_rfl, Tryz.call245, fun C N args K H e => by
  unfold l245 at e
  split at e
  · rw [strings_Split_ee]; exact e
  · exact eF_no e⟩

/- halberd/paths.names$1 -/
def paths_names_1_ea : Ann := .two (.none) (.two (.none) (.none))
noncomputable def paths_names_1_e (C : Cal) (N : Nat) (a0 : SV) (K : SV → ER) : ER :=
  eBin Tryz.prog .eql 9 false a0 (.str []) fun x1 => K x1
theorem paths_names_1_ee (C : Cal) (N : Nat) (a0 : SV) (K : SV → ER) : eBody Tryz.prog C N Tryz.f246 (Tryz.f246.body.getD .skip) paths_names_1_ea [a0] K = paths_names_1_e C N a0 K := by kernel_rfl
noncomputable def l246 : LeafT := fun C N args K => match args with
  | [a0] => paths_names_1_e C N a0 K
  | _ => eF
theorem lok246 : LeafOk Tryz.prog 246 l246 := ⟨Tryz.f246, Tryz.f246.body.getD .skip, paths_names_1_ea, Tryz.func246, by kernel_rfl, Tryz.call246, fun C N args K H e => by
  unfold l246 at e
  split at e
  · rw [paths_names_1_ee]; exact e
  · exact eF_no e⟩

/- strings.IndexRune -/
def strings_IndexRune_ea : Ann := .two (.none) (.sub (.join (.none) (.two (.two (.none) (.none)) (.two (.none) (.two (.two (.two (.none) (.sub (.loop [] (.two (.none) (.two (.two (.none) (.none)) (.sub (.two (.none) (.two (.none) (.two (.two (.none) (.none)) (.none)))))))))) (.two (.none) (.none))) (.two (.none) (.two (.two (.none) (.none)) (.sub (.two (.none) (.two (.none) (.two (.none) (.two (.none) (.two (.sub (.loop [(9, .any)] (.two (.two (.none) (.two (.none) (.none))) (.sub (.sub (.join (.two (.ord [0, 1, 2, 3, 4, 5, 6]) (.two (.two (.ord [0, 1, 2, 3, 4, 5, 6, 7, 8]) (.two (.two (.none) (.two (.two (.none) (.none)) (.none))) (.none))) (.none))) (.two (.two (.none) (.sub (.loop [(12, .any)] (.two (.two (.none) (.two (.none) (.none))) (.two (.sub (.two (.ord [0, 1, 2, 3, 4, 5, 6, 7, 8, 9, 10]) (.two (.none) (.none)))) (.none)))))) (.two (.two (.none) (.none)) (.two (.none) (.two (.none) (.two (.none) (.join (.none) (.two (.none) (.none)) [(98, .any)])))))) [(9, .any)])))))) (.two (.two (.none) (.none)) (.two (.none) (.join (.two (.two (.none) (.two (.none) (.two (.two (.none) (.none)) (.none)))) (.sub (.two (.none) (.two (.none) (.two (.none) (.sub (.loop [(9, .any)] (.two (.two (.none) (.two (.none) (.none))) (.join (.sub (.join (.none) (.two (.two (.two (.none) (.sub (.loop [(16, .any)] (.two (.two (.none) (.two (.none) (.none))) (.two (.sub (.two (.ord [0, 1, 2, 3, 4, 5, 6, 7, 8, 9, 10]) (.two (.none) (.none)))) (.none)))))) (.two (.none) (.none))) (.none)) [(139, .any)])) (.none) []))))))))) (.two (.none) (.none)) [])))))))))))))) [(160, .any)]))
noncomputable def strings_IndexRune_p0 (K : SV → ER) (N : Nat) (a0 : SV) : ER :=
  eRange Tryz.prog 9 a0 fun x8 => eIter (σ := Unit) (fun (s10 : Unit) (k9 : Unit → ER) =>
  eNextV x8 (fun a11 c12 => eBin Tryz.prog .eql 21 false c12 (.int .i32 65533) fun x13 => eIfV x13
  (K a11)
  (k9 (())))
  (K (.int .i64 (-1)))) N (())
noncomputable def strings_IndexRune_p1 (C : Cal) (K : SV → ER) (a0 : SV) (k23 : SV × Unit → ER) (s20 : SV × Unit) (x16 : SV) (x18 : SV) : ER :=
  eBin Tryz.prog .add 3 false s20.1 (.int .i64 1) fun x28 => eSliceS Tryz.prog 9 a0 (some (.v x28)) none none fun x29 => eIndexS Tryz.prog 9 x16 x18 fun x30 => eCallR Tryz.prog C 264 [x29, x30] 3 fun x31 => eBin Tryz.prog .lss 3 false x31 (.int .i64 0) fun x32 => eIfV x32
  (K (.int .i64 (-1)))
  (eBin Tryz.prog .add 3 false x31 (.int .i64 1) fun x33 => eBin Tryz.prog .add 3 false s20.1 x33 fun x34 => eHas .any x34 (k23 (x34, ())))
noncomputable def strings_IndexRune_p2 (a0 : SV) (k35 : SV × Unit → ER) (s24 : SV × Unit) (s36 : SV × Unit) (x16 : SV) (x18 : SV) : ER :=
  eBin Tryz.prog .sub 3 false s24.1 s36.1 fun x39 => eIndexS Tryz.prog 9 a0 x39 fun x40 => eBin Tryz.prog .sub 3 false x18 s36.1 fun x41 => eIndexS Tryz.prog 9 x16 x41 fun x42 => eBin Tryz.prog .neq 5 false x40 x42 fun x43 => eIfV x43
  (eF)
  (eBin Tryz.prog .add 3 false s36.1 (.int .i64 1) fun x44 => eHas .any x44 (k35 (x44, ())))
noncomputable def strings_IndexRune_p3 (C : Cal) (K : SV → ER) (a0 : SV) (k23 : SV × Unit → ER) (s20 : SV × Unit) (x16 : SV) (x18 : SV) : ER :=
  eIndexS Tryz.prog 9 a0 s20.1 fun x25 => eIndexS Tryz.prog 9 x16 x18 fun x26 => eBin Tryz.prog .neq 5 false x25 x26 fun x27 => eIfV x27
  (strings_IndexRune_p1 C K a0 k23 s20 x16 x18)
  (eHas .any s20.1 (k23 (s20.1, ())))
noncomputable def strings_IndexRune_p4 (K : SV → ER) (N : Nat) (a0 : SV) (s24 : SV × Unit) (x16 : SV) (x18 : SV) : ER :=
  eHas .any (.int .i64 1) (eIter (σ := SV × Unit) (fun (s36 : SV × Unit) (k35 : SV × Unit → ER) =>
  eLenS Tryz.prog [9] [x16] fun x37 => eBin Tryz.prog .lss 3 false s36.1 x37 fun x38 => eIfV x38
  (strings_IndexRune_p2 a0 k35 s24 s36 x16 x18)
  (eBin Tryz.prog .sub 3 false s24.1 x18 fun x45 => K x45)) N ((.int .i64 1), ()))
noncomputable def strings_IndexRune_p5 (C : Cal) (K : SV → ER) (N : Nat) (a0 : SV) (s20 : SV × Unit) (x16 : SV) (x18 : SV) : ER :=
  eLenS Tryz.prog [9] [a0] fun x21 => eBin Tryz.prog .lss 3 false s20.1 x21 fun x22 => eIfV x22
  (eJoinC (σ := SV × Unit) (fun (k23 : SV × Unit → ER) =>
  strings_IndexRune_p3 C K a0 k23 s20 x16 x18) fun (s24 : SV × Unit) =>
  strings_IndexRune_p4 K N a0 s24 x16 x18)
  (K (.int .i64 (-1)))
noncomputable def strings_IndexRune_p6 (C : Cal) (K : SV → ER) (N : Nat) (a0 : SV) (a1 : SV) : ER :=
  eConvS Tryz.prog 21 9 a1 fun x16 => eLenS Tryz.prog [9] [x16] fun x17 => eBin Tryz.prog .sub 3 false x17 (.int .i64 1) fun x18 => eHas .any x18 (eIter (σ := SV × Unit) (fun (s20 : SV × Unit) (k19 : SV × Unit → ER) =>
  strings_IndexRune_p5 C K N a0 s20 x16 x18) N (x18, ()))
noncomputable def strings_IndexRune_p7 (C : Cal) (K : SV → ER) (N : Nat) (a0 : SV) (a1 : SV) : ER :=
  eBin Tryz.prog .eql 21 false a1 (.int .i32 65533) fun x7 => eIfV x7
  (strings_IndexRune_p0 K N a0)
  (eCallR Tryz.prog C 265 [a1] 4 fun x14 => eUnS .not x14 fun x15 => eIfV x15
  (K (.int .i64 (-1)))
  (strings_IndexRune_p6 C K N a0 a1))
noncomputable def strings_IndexRune_p8 (a1 : SV) (k1 : SV × Unit → ER) : ER :=
  eBin Tryz.prog .leq 21 false (.int .i32 0) a1 fun x3 => eIfV x3
  (eBin Tryz.prog .lss 21 false a1 (.int .i32 128) fun x4 => eHas .any x4 (k1 (x4, ())))
  (eHas .any (.bool false) (k1 ((.bool false), ())))
noncomputable def strings_IndexRune_e (C : Cal) (N : Nat) (a0 a1 : SV) (K : SV → ER) : ER :=
  eJoinC (σ := SV × Unit) (fun (k1 : SV × Unit → ER) =>
  strings_IndexRune_p8 a1 k1) fun (s2 : SV × Unit) =>
  eIfV s2.1
  (eConvS Tryz.prog 21 5 a1 fun x5 => eCallR Tryz.prog C 264 [a0, x5] 3 fun x6 => K x6)
  (strings_IndexRune_p7 C K N a0 a1)
theorem strings_IndexRune_ee (C : Cal) (N : Nat) (a0 a1 : SV) (K : SV → ER) : eBody Tryz.prog C N Tryz.f249 (Tryz.f249.body.getD .skip) strings_IndexRune_ea [a0, a1] K = strings_IndexRune_e C N a0 a1 K := by kernel_rfl
noncomputable def l249 : LeafT := fun C N args K => match args with
  | [a0, a1] => strings_IndexRune_e C N a0 a1 K
  | _ => eF
theorem lok249 : LeafOk Tryz.prog 249 l249 := ⟨Tryz.f249, Tryz.f249.body.getD .skip, strings_IndexRune_ea, Tryz.func249, by kernel_rfl, Tryz.call249, fun C N args K H e => by
  unfold l249 at e
  split at e
  · rw [strings_IndexRune_ee]; exact e
  · exact eF_no e⟩

/- strings.shouldUseASCIISet -/
def strings_shouldUseASCIISet_ea : Ann := .two (.none) (.two (.none) (.none))
noncomputable def strings_shouldUseASCIISet_e (C : Cal) (N : Nat) (a0 : SV) (K : SV → ER) : ER :=
  eBin Tryz.prog .gtr 3 false a0 (.int .i64 8) fun x1 => K x1
theorem strings_shouldUseASCIISet_ee (C : Cal) (N : Nat) (a0 : SV) (K : SV → ER) : eBody Tryz.prog C N Tryz.f250 (Tryz.f250.body.getD .skip) strings_shouldUseASCIISet_ea [a0] K = strings_shouldUseASCIISet_e C N a0 K := by kernel_rfl
noncomputable def l250 : LeafT := fun C N args K => match args with
  | [a0] => strings_shouldUseASCIISet_e C N a0 K
  | _ => eF
theorem lok250 : LeafOk Tryz.prog 250 l250 := ⟨Tryz.f250, Tryz.f250.body.getD .skip, strings_shouldUseASCIISet_ea, Tryz.func250, by kernel_rfl, Tryz.call250, fun C N args K H e => by
  unfold l250 at e
  split at e
  · rw [strings_shouldUseASCIISet_ee]; exact e
  · exact eF_no e⟩

/- strings.makeASCIISet -/
def strings_makeASCIISet_ea : Ann := .two (.none) (.two (.two (.none) (.sub (.loop [(4, .any)] (.two (.two (.none) (.two (.none) (.none))) (.two (.sub (.two (.none) (.two (.two (.none) (.two (.two (.none) (.none)) (.none))) (.none)))) (.none)))))) (.two (.none) (.none)))
noncomputable def strings_makeASCIISet_p0 (K : SV → ER) (a0 : SV) (k2 : SV × Unit → ER) (s3 : SV × Unit) (x1 : SV) : ER :=
  eIndexS Tryz.prog 9 a0 s3.1 fun x6 => eBin Tryz.prog .geq 5 false x6 (.int .u8 128) fun x7 => eIfV x7
  (eLoad Tryz.prog 248 x1 fun x8 => eStore Tryz.prog 248 x1 x8 <| eLoad Tryz.prog 248 x1 fun x9 => K (.tup [x9, (.bool false)]))
  (eIndexAddrS Tryz.prog 248 x1 x6 fun x10 => eStore Tryz.prog 4 x10 (.bool true) <| eBin Tryz.prog .add 3 false s3.1 (.int .i64 1) fun x11 => eHas .any x11 (k2 (x11, ())))
noncomputable def strings_makeASCIISet_p1 (K : SV → ER) (a0 : SV) (k2 : SV × Unit → ER) (s3 : SV × Unit) (x1 : SV) : ER :=
  eLenS Tryz.prog [9] [a0] fun x4 => eBin Tryz.prog .lss 3 false s3.1 x4 fun x5 => eIfV x5
  (strings_makeASCIISet_p0 K a0 k2 s3 x1)
  (eLoad Tryz.prog 248 x1 fun x12 => eStore Tryz.prog 248 x1 x12 <| eLoad Tryz.prog 248 x1 fun x13 => K (.tup [x13, (.bool true)]))
noncomputable def strings_makeASCIISet_e (C : Cal) (N : Nat) (a0 : SV) (K : SV → ER) : ER :=
  eAlloc Tryz.prog 248 fun x1 => eHas .any (.int .i64 0) (eIter (σ := SV × Unit) (fun (s3 : SV × Unit) (k2 : SV × Unit → ER) =>
  strings_makeASCIISet_p1 K a0 k2 s3 x1) N ((.int .i64 0), ()))
theorem strings_makeASCIISet_ee (C : Cal) (N : Nat) (a0 : SV) (K : SV → ER) : eBody Tryz.prog C N Tryz.f251 (Tryz.f251.body.getD .skip) strings_makeASCIISet_ea [a0] K = strings_makeASCIISet_e C N a0 K := by kernel_rfl
noncomputable def l251 : LeafT := fun C N args K => match args with
  | [a0] => strings_makeASCIISet_e C N a0 K
  | _ => eF
theorem lok251 : LeafOk Tryz.prog 251 l251 := ⟨Tryz.f251, Tryz.f251.body.getD .skip, strings_makeASCIISet_ea, Tryz.func251, by kernel_rfl, Tryz.call251, fun C N args K H e => by
  unfold l251 at e
  split at e
  · rw [strings_makeASCIISet_ee]; exact e
  · exact eF_no e⟩

end Go.Proofs.YtnpcjhcgbcpcoaaGreatDoor
