/- The evaluator's texts of this seat's functions. Written by a program of this session. -/
import Derived.Test.YtnpcjhcgbcpcoaaGreatDoorV
import Derived.Test.YtnpcjhcgbcpcoaaGreatDoorE2
set_option linter.unusedVariables false
set_option maxRecDepth 100000
namespace Go.Proofs.YtnpcjhcgbcpcoaaGreatDoor
open Go.Hl
/- (*halberd/kern.step).inode -/
def kern_step_inode_ea : Ann := .two (.none) (.two (.none) (.none))
noncomputable def kern_step_inode_e (C : Cal) (N : Nat) (a0 a1 : SV) (K : SV → ER) : ER :=
  eAlloc Tryz.prog 126 fun x1 => eCallR Tryz.prog C 132 [a0, (.int .i64 2), a1] 126 fun x2 => eStore Tryz.prog 126 x1 x2 <| eLoad Tryz.prog 126 x1 fun x3 => K x3
theorem kern_step_inode_ee (C : Cal) (N : Nat) (a0 a1 : SV) (K : SV → ER) : eBody Tryz.prog C N Tryz.f75 (Tryz.f75.body.getD .skip) kern_step_inode_ea [a0, a1] K = kern_step_inode_e C N a0 a1 K := by kernel_rfl
noncomputable def l75 : LeafT := fun C N args K => match args with
  | [a0, a1] => kern_step_inode_e C N a0 a1 K
  | _ => eF
theorem lok75 : LeafOk Tryz.prog 75 l75 := ⟨Tryz.f75, Tryz.f75.body.getD .skip, kern_step_inode_ea, Tryz.func75, by kernel_rfl, Tryz.call75, fun C N args K H e => by
  unfold l75 at e
  split at e
  · rw [kern_step_inode_ee]; exact e
  · exact eF_no e⟩

/- halberd/kern.number -/
def kern_number_ea : Ann := .two (.none) (.two (.none) (.none))
noncomputable def kern_number_e (C : Cal) (N : Nat) (a0 : SV) (K : SV → ER) : ER :=
  eAlloc Tryz.prog 126 fun x1 => eConvS Tryz.prog 3 42 a0 fun x2 => eBuild Tryz.prog 126 [(3, x2)] fun x3 => eStore Tryz.prog 126 x1 x3 <| eLoad Tryz.prog 126 x1 fun x4 => K x4
theorem kern_number_ee (C : Cal) (N : Nat) (a0 : SV) (K : SV → ER) : eBody Tryz.prog C N Tryz.f76 (Tryz.f76.body.getD .skip) kern_number_ea [a0] K = kern_number_e C N a0 K := by kernel_rfl
noncomputable def l76 : LeafT := fun C N args K => match args with
  | [a0] => kern_number_e C N a0 K
  | _ => eF
theorem lok76 : LeafOk Tryz.prog 76 l76 := ⟨Tryz.f76, Tryz.f76.body.getD .skip, kern_number_ea, Tryz.func76, by kernel_rfl, Tryz.call76, fun C N args K H e => by
  unfold l76 at e
  split at e
  · rw [kern_number_ee]; exact e
  · exact eF_no e⟩

/- (*halberd/kern.step).tells -/
def kern_step_tells_ea : Ann := .two (.none) (.two (.none) (.two (.none) (.none)))
noncomputable def kern_step_tells_e (C : Cal) (N : Nat) (a0 a1 : SV) (K : SV → ER) : ER :=
  eBox Tryz.prog 132 a1 fun x1 => eNilCk a0 fun x2 => eFieldAddr Tryz.prog 76 x2 4 fun x3 => eStore Tryz.prog 74 x3 (.fn 156 [] [x1]) <| K (.int .i64 0)
theorem kern_step_tells_ee (C : Cal) (N : Nat) (a0 a1 : SV) (K : SV → ER) : eBody Tryz.prog C N Tryz.f77 (Tryz.f77.body.getD .skip) kern_step_tells_ea [a0, a1] K = kern_step_tells_e C N a0 a1 K := by kernel_rfl
noncomputable def l77 : LeafT := fun C N args K => match args with
  | [a0, a1] => kern_step_tells_e C N a0 a1 K
  | _ => eF
theorem lok77 : LeafOk Tryz.prog 77 l77 := ⟨Tryz.f77, Tryz.f77.body.getD .skip, kern_step_tells_ea, Tryz.func77, by kernel_rfl, Tryz.call77, fun C N args K H e => by
  unfold l77 at e
  split at e
  · rw [kern_step_tells_ee]; exact e
  · exact eF_no e⟩

/- (*halberd/kern.step).open$1 -/
def kern_step_open_1_ea : Ann := .two (.none) (.join (.two (.none) (.two (.ord [7, 0, 1, 2, 3, 4, 5, 6, 8, 9]) (.none))) (.two (.ord [12, 0, 1, 2, 3, 4, 5, 6, 7, 8, 9, 10, 11, 13, 14, 15, 16, 17, 18, 19]) (.none)) [])
noncomputable def kern_step_open_1_p0 (C : Cal) (a0 : SV) (a1 : SV) (k1 : Unit → ER) : ER :=
  eFieldAddr Tryz.prog 40 a1 0 fun x10 => eLoad Tryz.prog 70 a0 fun x11 => eNilCk x11 fun x12 => eFieldAddr Tryz.prog 76 x12 1 fun x13 => eLoad Tryz.prog 23 x13 fun x14 => eNilCk x14 fun x15 => eFieldAddr Tryz.prog 58 x15 0 fun x16 => eLoad Tryz.prog 53 x16 fun x17 => eLoad Tryz.prog 3 x10 fun x18 => eCallR Tryz.prog C 79 [x17, x18, (.str [])] 26 fun x19 => k1 (())
noncomputable def kern_step_open_1_p1 (C : Cal) (K : SV → ER) (a0 : SV) (a2 : SV) (x20 : SV) (x22 : SV) : ER :=
  eFieldAddr Tryz.prog 76 x22 1 fun x23 => eLoad Tryz.prog 23 x23 fun x24 => eNilCk x24 fun x25 => eFieldAddr Tryz.prog 58 x25 1 fun x26 => eLoad Tryz.prog 55 x26 fun x27 => eLoad Tryz.prog 70 a0 fun x28 => eNilCk x28 fun x29 => eFieldAddr Tryz.prog 76 x29 2 fun x30 => eFieldAddr Tryz.prog 50 x30 0 fun x31 => eLoad Tryz.prog 3 x31 fun x32 => eLoad Tryz.prog 3 x20 fun x33 => eLoad Tryz.prog 3 a2 fun x34 => eCallR Tryz.prog C 80 [x27, x32, x33, x34] 130 fun x35 => eExtract x35 0 fun x36 => eExtract x35 1 fun x37 => K (.tup [x36, x37])
noncomputable def kern_step_open_1_p2 (C : Cal) (a0 : SV) (a1 : SV) (k1 : Unit → ER) : ER :=
  eLoad Tryz.prog 70 a0 fun x3 => eNilCk x3 fun x4 => eFieldAddr Tryz.prog 76 x4 0 fun x5 => eFieldAddr Tryz.prog 31 x5 2 fun x6 => eLoad Tryz.prog 3 x6 fun x7 => eBin Tryz.prog .and 3 false x7 (.int .i64 16) fun x8 => eBin Tryz.prog .neq 3 false x8 (.int .i64 0) fun x9 => eIfV x9
  (kern_step_open_1_p0 C a0 a1 k1)
  (k1 (()))
noncomputable def kern_step_open_1_e (C : Cal) (N : Nat) (a0 a1 a2 : SV) (K : SV → ER) : ER :=
  eJoinC (σ := Unit) (fun (k1 : Unit → ER) =>
  kern_step_open_1_p2 C a0 a1 k1) fun (s2 : Unit) =>
  eFieldAddr Tryz.prog 40 a1 0 fun x20 => eLoad Tryz.prog 70 a0 fun x21 => eNilCk x21 fun x22 => kern_step_open_1_p1 C K a0 a2 x20 x22
theorem kern_step_open_1_ee (C : Cal) (N : Nat) (a0 a1 a2 : SV) (K : SV → ER) : eBody Tryz.prog C N Tryz.f78 (Tryz.f78.body.getD .skip) kern_step_open_1_ea [a0, a1, a2] K = kern_step_open_1_e C N a0 a1 a2 K := by kernel_rfl
noncomputable def l78 : LeafT := fun C N args K => match args with
  | [a0, a1, a2] => kern_step_open_1_e C N a0 a1 a2 K
  | _ => eF
theorem lok78 : LeafOk Tryz.prog 78 l78 := ⟨Tryz.f78, Tryz.f78.body.getD .skip, kern_step_open_1_ea, Tryz.func78, by kernel_rfl, Tryz.call78, fun C N args K H e => by
  unfold l78 at e
  split at e
  · rw [kern_step_open_1_ee]; exact e
  · exact eF_no e⟩

/- (*halberd/inodes.Table).Write -/
def inodes_Table_Write_ea : Ann := .two (.none) (.two (.none) (.two (.sub (.two (.none) (.two (.two (.none) (.none)) (.two (.none) (.two (.two (.none) (.none)) (.two (.none) (.two (.two (.none) (.none)) (.none)))))))) (.two (.none) (.two (.none) (.none)))))
noncomputable def inodes_Table_Write_p0 (K : SV → ER) (a2 : SV) (x1 : SV) : ER :=
  eLenS Tryz.prog [9] [a2] fun x7 => eBin Tryz.prog .gtr 3 false x7 (.int .i64 32) fun x8 => eIfV x8
  (K (.int .i64 27))
  (eNilCk x1 fun x9 => eFieldAddr Tryz.prog 40 x9 7 fun x10 => eStore Tryz.prog 9 x10 a2 <| K (.int .i64 0))
noncomputable def inodes_Table_Write_p1 (K : SV → ER) (a2 : SV) (x1 : SV) : ER :=
  eNilCk x1 fun x3 => eFieldAddr Tryz.prog 40 x3 2 fun x4 => eLoad Tryz.prog 3 x4 fun x5 => eBin Tryz.prog .eql 3 false x5 (.int .i64 2) fun x6 => eIfV x6
  (K (.int .i64 22))
  (inodes_Table_Write_p0 K a2 x1)
noncomputable def inodes_Table_Write_e (C : Cal) (N : Nat) (a0 a1 a2 : SV) (K : SV → ER) : ER :=
  eCallR Tryz.prog C 25 [a0, a1] 91 fun x1 => eBin Tryz.prog .eql 91 true x1 (.ptr none) fun x2 => eIfV x2
  (K (.int .i64 2))
  (inodes_Table_Write_p1 K a2 x1)
theorem inodes_Table_Write_ee (C : Cal) (N : Nat) (a0 a1 a2 : SV) (K : SV → ER) : eBody Tryz.prog C N Tryz.f79 (Tryz.f79.body.getD .skip) inodes_Table_Write_ea [a0, a1, a2] K = inodes_Table_Write_e C N a0 a1 a2 K := by kernel_rfl
noncomputable def l79 : LeafT := fun C N args K => match args with
  | [a0, a1, a2] => inodes_Table_Write_e C N a0 a1 a2 K
  | _ => eF
theorem lok79 : LeafOk Tryz.prog 79 l79 := ⟨Tryz.f79, Tryz.f79.body.getD .skip, inodes_Table_Write_ea, Tryz.func79, by kernel_rfl, Tryz.call79, fun C N args K H e => by
  unfold l79 at e
  split at e
  · rw [inodes_Table_Write_ee]; exact e
  · exact eF_no e⟩

/- (*halberd/tasks.Table).Add -/
def tasks_Table_Add_ea : Ann := .two (.none) (.two (.none) (.none))
noncomputable def tasks_Table_Add_e (C : Cal) (N : Nat) (a0 a1 a2 a3 : SV) (K : SV → ER) : ER :=
  eBuild Tryz.prog 44 [(0, a2), (1, a3)] fun x1 => eCallR Tryz.prog C 158 [a0, a1, x1] 130 fun x2 => eExtract x2 0 fun x3 => eExtract x2 1 fun x4 => K (.tup [x3, x4])
theorem tasks_Table_Add_ee (C : Cal) (N : Nat) (a0 a1 a2 a3 : SV) (K : SV → ER) : eBody Tryz.prog C N Tryz.f80 (Tryz.f80.body.getD .skip) tasks_Table_Add_ea [a0, a1, a2, a3] K = tasks_Table_Add_e C N a0 a1 a2 a3 K := by kernel_rfl
noncomputable def l80 : LeafT := fun C N args K => match args with
  | [a0, a1, a2, a3] => tasks_Table_Add_e C N a0 a1 a2 a3 K
  | _ => eF
theorem lok80 : LeafOk Tryz.prog 80 l80 := ⟨Tryz.f80, Tryz.f80.body.getD .skip, tasks_Table_Add_ea, Tryz.func80, by kernel_rfl, Tryz.call80, fun C N args K H e => by
  unfold l80 at e
  split at e
  · rw [tasks_Table_Add_ee]; exact e
  · exact eF_no e⟩

/- (*halberd/kern.step).room -/
def kern_step_room_ea : Ann := .two (.none) (.two (.two (.none) (.two (.none) (.two (.two (.none) (.none)) (.none)))) (.two (.none) (.none)))
noncomputable def kern_step_room_p0 (C : Cal) (K : SV → ER) (a1 : SV) (x1 : SV) : ER :=
  eFieldAddr Tryz.prog 76 x1 1 fun x2 => eLoad Tryz.prog 23 x2 fun x3 => eNilCk x3 fun x4 => eFieldAddr Tryz.prog 58 x4 0 fun x5 => eLoad Tryz.prog 53 x5 fun x6 => eCallR Tryz.prog C 18 [x6, a1] 77 fun x7 => eExtract x7 0 fun x8 => eExtract x7 1 fun x9 => eAlloc Tryz.prog 40 fun x10 => eStore Tryz.prog 40 x10 x8 <| eFieldAddr Tryz.prog 40 x10 8 fun x11 => eLoad Tryz.prog 25 x11 fun x12 => eLenS Tryz.prog [25] [x12] fun x13 => eBin Tryz.prog .geq 3 false x13 (.int .i64 8) fun x14 => eIfV x14
  (K (.int .i64 28))
  (K (.int .i64 0))
noncomputable def kern_step_room_e (C : Cal) (N : Nat) (a0 a1 : SV) (K : SV → ER) : ER :=
  eNilCk a0 fun x1 => kern_step_room_p0 C K a1 x1
theorem kern_step_room_ee (C : Cal) (N : Nat) (a0 a1 : SV) (K : SV → ER) : eBody Tryz.prog C N Tryz.f81 (Tryz.f81.body.getD .skip) kern_step_room_ea [a0, a1] K = kern_step_room_e C N a0 a1 K := by kernel_rfl
noncomputable def l81 : LeafT := fun C N args K => match args with
  | [a0, a1] => kern_step_room_e C N a0 a1 K
  | _ => eF
theorem lok81 : LeafOk Tryz.prog 81 l81 := ⟨Tryz.f81, Tryz.f81.body.getD .skip, kern_step_room_ea, Tryz.func81, by kernel_rfl, Tryz.call81, fun C N args K H e => by
  unfold l81 at e
  split at e
  · rw [kern_step_room_ee]; exact e
  · exact eF_no e⟩

/- (*halberd/kern.step).place -/
def kern_step_place_ea : Ann := .two (.none) (.two (.two (.none) (.two (.two (.none) (.none)) (.none))) (.two (.none) (.none)))
noncomputable def kern_step_place_e (C : Cal) (N : Nat) (a0 : SV) (K : SV → ER) : ER :=
  eNilCk a0 fun x1 => eFieldAddr Tryz.prog 76 x1 1 fun x2 => eLoad Tryz.prog 23 x2 fun x3 => eNilCk x3 fun x4 => eFieldAddr Tryz.prog 58 x4 0 fun x5 => eLoad Tryz.prog 53 x5 fun x6 => eCallR Tryz.prog C 159 [x6] 3 fun x7 => eBin Tryz.prog .eql 3 false x7 (.int .i64 0) fun x8 => eIfV x8
  (K (.int .i64 28))
  (K (.int .i64 0))
theorem kern_step_place_ee (C : Cal) (N : Nat) (a0 : SV) (K : SV → ER) : eBody Tryz.prog C N Tryz.f82 (Tryz.f82.body.getD .skip) kern_step_place_ea [a0] K = kern_step_place_e C N a0 K := by kernel_rfl
noncomputable def l82 : LeafT := fun C N args K => match args with
  | [a0] => kern_step_place_e C N a0 K
  | _ => eF
theorem lok82 : LeafOk Tryz.prog 82 l82 := ⟨Tryz.f82, Tryz.f82.body.getD .skip, kern_step_place_ea, Tryz.func82, by kernel_rfl, Tryz.call82, fun C N args K H e => by
  unfold l82 at e
  split at e
  · rw [kern_step_place_ee]; exact e
  · exact eF_no e⟩

end Go.Proofs.YtnpcjhcgbcpcoaaGreatDoor

set_option linter.unusedVariables false
set_option maxRecDepth 100000
namespace Go.Proofs.YtnpcjhcgbcpcoaaGreatDoor
open Go.Hl
/- (*halberd/kern.step).open$2 -/
def kern_step_open_2_ea : Ann := .two (.none) (.two (.ord [0, 1, 2, 3, 4, 5, 6, 7, 8, 9, 10, 11, 12, 13, 14, 15, 16, 17, 18, 20, 19, 21, 22, 23, 24, 25]) (.none))
noncomputable def kern_step_open_2_p0 (C : Cal) (K : SV → ER) (a0 : SV) (a2 : SV) (x1 : SV) (x3 : SV) (x4 : SV) (x6 : SV) (x7 : SV) (x8 : SV) (x11 : SV) (x12 : SV) (x13 : SV) (x14 : SV) (x19 : SV) : ER :=
  eLoad Tryz.prog 3 a2 fun x20 => eCallR Tryz.prog C 84 [x13, x14, (.int .i64 1), x19, (.str [])] 3 fun x21 => fun H => eLoadF Tryz.prog 3 a2 x20 H && (fun H => eLoadF Tryz.prog 3 x11 x12 H && (fun H => eLoadF Tryz.prog 70 a0 x8 H && (fun H => eLoadF Tryz.prog 55 x6 x7 H && (fun H => eLoadF Tryz.prog 23 x3 x4 H && (fun H => eLoadF Tryz.prog 70 a0 x1 H && (eCallR Tryz.prog C 80 [x7, x12, x21, x20] 130 fun x22 => eExtract x22 0 fun x23 => eExtract x22 1 fun x24 => K (.tup [x23, x24])) H) H) H) H) H) H
noncomputable def kern_step_open_2_p1 (C : Cal) (K : SV → ER) (a0 : SV) (a1 : SV) (a2 : SV) (x1 : SV) (x3 : SV) (x4 : SV) (x6 : SV) : ER :=
  eLoad Tryz.prog 55 x6 fun x7 => eLoad Tryz.prog 70 a0 fun x8 => eNilCk x8 fun x9 => eFieldAddr Tryz.prog 76 x9 2 fun x10 => eFieldAddr Tryz.prog 50 x10 0 fun x11 => eLoad Tryz.prog 3 x11 fun x12 => eLoad Tryz.prog 70 a0 fun x13 => eLoad Tryz.prog 113 a1 fun x14 => eLoad Tryz.prog 70 a0 fun x15 => eNilCk x15 fun x16 => eFieldAddr Tryz.prog 76 x16 0 fun x17 => eFieldAddr Tryz.prog 31 x17 3 fun x18 => eLoad Tryz.prog 3 x18 fun x19 => kern_step_open_2_p0 C K a0 a2 x1 x3 x4 x6 x7 x8 x11 x12 x13 x14 x19
noncomputable def kern_step_open_2_e (C : Cal) (N : Nat) (a0 a1 a2 : SV) (K : SV → ER) : ER :=
  eLoad Tryz.prog 70 a0 fun x1 => eNilCk x1 fun x2 => eFieldAddr Tryz.prog 76 x2 1 fun x3 => eLoad Tryz.prog 23 x3 fun x4 => eNilCk x4 fun x5 => eFieldAddr Tryz.prog 58 x5 1 fun x6 => kern_step_open_2_p1 C K a0 a1 a2 x1 x3 x4 x6
theorem kern_step_open_2_ee (C : Cal) (N : Nat) (a0 a1 a2 : SV) (K : SV → ER) : eBody Tryz.prog C N Tryz.f83 (Tryz.f83.body.getD .skip) kern_step_open_2_ea [a0, a1, a2] K = kern_step_open_2_e C N a0 a1 a2 K := by kernel_rfl
noncomputable def l83 : LeafT := fun C N args K => match args with
  | [a0, a1, a2] => kern_step_open_2_e C N a0 a1 a2 K
  | _ => eF
theorem lok83 : LeafOk Tryz.prog 83 l83 := ⟨Tryz.f83, Tryz.f83.body.getD .skip, kern_step_open_2_ea, Tryz.func83, by kernel_rfl, Tryz.call83, fun C N args K H e => by
  unfold l83 at e
  split at e
  · rw [kern_step_open_2_ee]; exact e
  · exact eF_no e⟩

/- (*halberd/kern.step).make -/
def kern_step_make_ea : Ann := .two (.none) (.two (.ord [0, 1, 2, 7, 8, 9, 10, 11, 12, 14, 15, 16, 17, 3, 4, 5, 6, 13, 18, 19, 20, 21, 22, 23, 24]) (.two (.ord [0, 1, 2, 7, 9, 11, 3, 4, 5, 6, 8, 10, 12]) (.join (.two (.none) (.two (.none) (.none))) (.two (.none) (.none)) [])))
noncomputable def kern_step_make_p0 (C : Cal) (a0 : SV) (a4 : SV) (k30 : Unit → ER) (x17 : SV) : ER :=
  eNilCk a0 fun x33 => eFieldAddr Tryz.prog 76 x33 1 fun x34 => eLoad Tryz.prog 23 x34 fun x35 => eNilCk x35 fun x36 => eFieldAddr Tryz.prog 58 x36 0 fun x37 => eLoad Tryz.prog 53 x37 fun x38 => eCallR Tryz.prog C 79 [x38, x17, a4] 26 fun x39 => k30 (())
noncomputable def kern_step_make_p1 (C : Cal) (K : SV → ER) (a0 : SV) (a2 : SV) (a4 : SV) (x1 : SV) (x17 : SV) (x20 : SV) : ER :=
  eFieldAddr Tryz.prog 113 x1 0 fun x21 => eFieldAddr Tryz.prog 113 x1 1 fun x22 => eLoad Tryz.prog 23 x20 fun x23 => eNilCk x23 fun x24 => eFieldAddr Tryz.prog 58 x24 0 fun x25 => eLoad Tryz.prog 53 x25 fun x26 => eLoad Tryz.prog 3 x21 fun x27 => eLoad Tryz.prog 9 x22 fun x28 => eCallR Tryz.prog C 101 [x26, x27, x28, x17] 26 fun x29 => eJoinC (σ := Unit) (fun (k30 : Unit → ER) =>
  eBin Tryz.prog .neq 3 false a2 (.int .i64 2) fun x32 => eIfV x32
  (kern_step_make_p0 C a0 a4 k30 x17)
  (k30 (()))) fun (s31 : Unit) =>
  K x17
noncomputable def kern_step_make_p2 (C : Cal) (K : SV → ER) (a0 : SV) (a2 : SV) (a3 : SV) (a4 : SV) (x1 : SV) (x3 : SV) (x6 : SV) : ER :=
  eNilCk a0 fun x7 => eFieldAddr Tryz.prog 76 x7 2 fun x8 => eFieldAddr Tryz.prog 50 x8 4 fun x9 => eLoad Tryz.prog 23 x3 fun x10 => eNilCk x10 fun x11 => eFieldAddr Tryz.prog 58 x11 0 fun x12 => eLoad Tryz.prog 53 x12 fun x13 => eLoad Tryz.prog 3 x6 fun x14 => eLoad Tryz.prog 3 x9 fun x15 => eCallR Tryz.prog C 160 [x13, a2, a3, x14, x15] 130 fun x16 => eExtract x16 0 fun x17 => eExtract x16 1 fun x18 => eNilCk a0 fun x19 => eFieldAddr Tryz.prog 76 x19 1 fun x20 => kern_step_make_p1 C K a0 a2 a4 x1 x17 x20
noncomputable def kern_step_make_e (C : Cal) (N : Nat) (a0 a1 a2 a3 a4 : SV) (K : SV → ER) : ER :=
  eBox Tryz.prog 113 a1 fun x1 => eNilCk a0 fun x2 => eFieldAddr Tryz.prog 76 x2 1 fun x3 => eNilCk a0 fun x4 => eFieldAddr Tryz.prog 76 x4 2 fun x5 => eFieldAddr Tryz.prog 50 x5 3 fun x6 => kern_step_make_p2 C K a0 a2 a3 a4 x1 x3 x6
theorem kern_step_make_ee (C : Cal) (N : Nat) (a0 a1 a2 a3 a4 : SV) (K : SV → ER) : eBody Tryz.prog C N Tryz.f84 (Tryz.f84.body.getD .skip) kern_step_make_ea [a0, a1, a2, a3, a4] K = kern_step_make_e C N a0 a1 a2 a3 a4 K := by kernel_rfl
noncomputable def l84 : LeafT := fun C N args K => match args with
  | [a0, a1, a2, a3, a4] => kern_step_make_e C N a0 a1 a2 a3 a4 K
  | _ => eF
theorem lok84 : LeafOk Tryz.prog 84 l84 := ⟨Tryz.f84, Tryz.f84.body.getD .skip, kern_step_make_ea, Tryz.func84, by kernel_rfl, Tryz.call84, fun C N args K H e => by
  unfold l84 at e
  split at e
  · rw [kern_step_make_ee]; exact e
  · exact eF_no e⟩

/- (*halberd/kern.step).file -/
def kern_step_file_ea : Ann := .two (.none) (.two (.ord [0, 1, 2, 7, 8, 9, 10, 12, 13, 14, 15, 3, 4, 5, 6, 11, 16, 17, 18, 19, 20, 21]) (.none))
noncomputable def kern_step_file_p0 (C : Cal) (K : SV → ER) (a0 : SV) (x1 : SV) (x3 : SV) (x5 : SV) : ER :=
  eFieldAddr Tryz.prog 50 x5 0 fun x6 => eNilCk a0 fun x7 => eFieldAddr Tryz.prog 76 x7 0 fun x8 => eFieldAddr Tryz.prog 31 x8 2 fun x9 => eLoad Tryz.prog 23 x3 fun x10 => eNilCk x10 fun x11 => eFieldAddr Tryz.prog 58 x11 1 fun x12 => eLoad Tryz.prog 55 x12 fun x13 => eLoad Tryz.prog 3 x6 fun x14 => eLoad Tryz.prog 3 x9 fun x15 => eCallR Tryz.prog C 161 [x13, x14, x15] 134 fun x16 => eExtract x16 0 fun x17 => eExtract x16 1 fun x18 => eStore Tryz.prog 44 x1 x17 <| eLoad Tryz.prog 44 x1 fun x19 => K (.tup [x19, x18])
noncomputable def kern_step_file_e (C : Cal) (N : Nat) (a0 : SV) (K : SV → ER) : ER :=
  eAlloc Tryz.prog 44 fun x1 => eNilCk a0 fun x2 => eFieldAddr Tryz.prog 76 x2 1 fun x3 => eNilCk a0 fun x4 => eFieldAddr Tryz.prog 76 x4 2 fun x5 => kern_step_file_p0 C K a0 x1 x3 x5
theorem kern_step_file_ee (C : Cal) (N : Nat) (a0 : SV) (K : SV → ER) : eBody Tryz.prog C N Tryz.f85 (Tryz.f85.body.getD .skip) kern_step_file_ea [a0] K = kern_step_file_e C N a0 K := by kernel_rfl
noncomputable def l85 : LeafT := fun C N args K => match args with
  | [a0] => kern_step_file_e C N a0 K
  | _ => eF
theorem lok85 : LeafOk Tryz.prog 85 l85 := ⟨Tryz.f85, Tryz.f85.body.getD .skip, kern_step_file_ea, Tryz.func85, by kernel_rfl, Tryz.call85, fun C N args K H e => by
  unfold l85 at e
  split at e
  · rw [kern_step_file_ee]; exact e
  · exact eF_no e⟩

/- (*halberd/kern.step).does -/
def kern_step_does_ea : Ann := .two (.none) (.two (.none) (.two (.none) (.none)))
noncomputable def kern_step_does_e (C : Cal) (N : Nat) (a0 a1 : SV) (K : SV → ER) : ER :=
  eBox Tryz.prog 1 a1 fun x1 => eNilCk a0 fun x2 => eFieldAddr Tryz.prog 76 x2 4 fun x3 => eStore Tryz.prog 74 x3 (.fn 162 [] [x1]) <| K (.int .i64 0)
theorem kern_step_does_ee (C : Cal) (N : Nat) (a0 a1 : SV) (K : SV → ER) : eBody Tryz.prog C N Tryz.f86 (Tryz.f86.body.getD .skip) kern_step_does_ea [a0, a1] K = kern_step_does_e C N a0 a1 K := by kernel_rfl
noncomputable def l86 : LeafT := fun C N args K => match args with
  | [a0, a1] => kern_step_does_e C N a0 a1 K
  | _ => eF
theorem lok86 : LeafOk Tryz.prog 86 l86 := ⟨Tryz.f86, Tryz.f86.body.getD .skip, kern_step_does_ea, Tryz.func86, by kernel_rfl, Tryz.call86, fun C N args K H e => by
  unfold l86 at e
  split at e
  · rw [kern_step_does_ee]; exact e
  · exact eF_no e⟩

/- (*halberd/kern.step).close$1 -/
def kern_step_close_1_ea : Ann := .ord [0, 1, 2, 3, 4, 5, 6, 7, 8, 9, 10, 11, 12, 13, 14, 15, 16, 17]
noncomputable def kern_step_close_1_p0 (C : Cal) (K : SV → ER) (a0 : SV) (x3 : SV) : ER :=
  eLoad Tryz.prog 23 x3 fun x4 => eNilCk x4 fun x5 => eFieldAddr Tryz.prog 58 x5 1 fun x6 => eLoad Tryz.prog 55 x6 fun x7 => eLoad Tryz.prog 70 a0 fun x8 => eNilCk x8 fun x9 => eFieldAddr Tryz.prog 76 x9 2 fun x10 => eFieldAddr Tryz.prog 50 x10 0 fun x11 => eLoad Tryz.prog 3 x11 fun x12 => eLoad Tryz.prog 70 a0 fun x13 => eNilCk x13 fun x14 => eFieldAddr Tryz.prog 76 x14 0 fun x15 => eFieldAddr Tryz.prog 31 x15 2 fun x16 => eLoad Tryz.prog 3 x16 fun x17 => eCallR Tryz.prog C 88 [x7, x12, x17] 26 fun x18 => K (.tup [])
noncomputable def kern_step_close_1_e (C : Cal) (N : Nat) (a0 : SV) (K : SV → ER) : ER :=
  eLoad Tryz.prog 70 a0 fun x1 => eNilCk x1 fun x2 => eFieldAddr Tryz.prog 76 x2 1 fun x3 => kern_step_close_1_p0 C K a0 x3
theorem kern_step_close_1_ee (C : Cal) (N : Nat) (a0 : SV) (K : SV → ER) : eBody Tryz.prog C N Tryz.f87 (Tryz.f87.body.getD .skip) kern_step_close_1_ea [a0] K = kern_step_close_1_e C N a0 K := by kernel_rfl
noncomputable def l87 : LeafT := fun C N args K => match args with
  | [a0] => kern_step_close_1_e C N a0 K
  | _ => eF
theorem lok87 : LeafOk Tryz.prog 87 l87 := ⟨Tryz.f87, Tryz.f87.body.getD .skip, kern_step_close_1_ea, Tryz.func87, by kernel_rfl, Tryz.call87, fun C N args K H e => by
  unfold l87 at e
  split at e
  · rw [kern_step_close_1_ee]; exact e
  · exact eF_no e⟩

/- (*halberd/tasks.Table).Close -/
def tasks_Table_Close_ea : Ann := .two (.none) (.two (.none) (.none))
noncomputable def tasks_Table_Close_e (C : Cal) (N : Nat) (a0 a1 a2 : SV) (K : SV → ER) : ER :=
  eCallR Tryz.prog C 164 [a0, a1, a2, (.fn 165 [] [])] 26 fun x1 => K x1
theorem tasks_Table_Close_ee (C : Cal) (N : Nat) (a0 a1 a2 : SV) (K : SV → ER) : eBody Tryz.prog C N Tryz.f88 (Tryz.f88.body.getD .skip) tasks_Table_Close_ea [a0, a1, a2] K = tasks_Table_Close_e C N a0 a1 a2 K := by kernel_rfl
noncomputable def l88 : LeafT := fun C N args K => match args with
  | [a0, a1, a2] => tasks_Table_Close_e C N a0 a1 a2 K
  | _ => eF
theorem lok88 : LeafOk Tryz.prog 88 l88 := ⟨Tryz.f88, Tryz.f88.body.getD .skip, tasks_Table_Close_ea, Tryz.func88, by kernel_rfl, Tryz.call88, fun C N args K H e => by
  unfold l88 at e
  split at e
  · rw [tasks_Table_Close_ee]; exact e
  · exact eF_no e⟩

/- (*halberd/kern.step).read$1 -/
def kern_step_read_1_ea : Ann := .two (.none) (.two (.ord [17, 0, 1, 2, 3, 4, 5, 6, 7, 8, 9, 10, 11, 12, 13, 14, 15, 16, 18, 19, 20, 21, 22, 23]) (.two (.ord [3, 0, 1, 2, 4, 5, 6, 7, 8, 9]) (.none)))
noncomputable def kern_step_read_1_p0 (C : Cal) (K : SV → ER) (a2 : SV) (a3 : SV) (a4 : SV) (x1 : SV) (x9 : SV) (x14 : SV) (x19 : SV) (x22 : SV) (x23 : SV) : ER :=
  eBin Tryz.prog .sub 3 false x22 x23 fun x24 => eCallR Tryz.prog C 90 [x9, x14, x19, x24] 26 fun x25 => eFieldAddr Tryz.prog 40 a4 7 fun x26 => eLoad Tryz.prog 3 a2 fun x27 => eLoad Tryz.prog 3 a3 fun x28 => eBin Tryz.prog .sub 3 false x27 x28 fun x29 => eLoad Tryz.prog 9 x26 fun x30 => eLoad Tryz.prog 3 a3 fun x31 => eLoad Tryz.prog 3 a2 fun x32 => eSliceS Tryz.prog 9 x30 (some (.v x31)) (some (.v x32)) none fun x33 => eBuild Tryz.prog 28 [(0, x29), (2, x33)] fun x34 => eStore Tryz.prog 28 x1 x34 <| eLoad Tryz.prog 28 x1 fun x35 => K x35
noncomputable def kern_step_read_1_p1 (C : Cal) (K : SV → ER) (a0 : SV) (a2 : SV) (a3 : SV) (a4 : SV) (x1 : SV) (x2 : SV) (x9 : SV) (x10 : SV) : ER :=
  eNilCk x10 fun x11 => eFieldAddr Tryz.prog 76 x11 2 fun x12 => eFieldAddr Tryz.prog 50 x12 0 fun x13 => eLoad Tryz.prog 3 x13 fun x14 => eLoad Tryz.prog 70 a0 fun x15 => eNilCk x15 fun x16 => eFieldAddr Tryz.prog 76 x16 0 fun x17 => eFieldAddr Tryz.prog 31 x17 2 fun x18 => eLoad Tryz.prog 3 x18 fun x19 => eLoad Tryz.prog 3 x2 fun x20 => eLoad Tryz.prog 3 a2 fun x21 => eBin Tryz.prog .add 3 false x20 x21 fun x22 => eLoad Tryz.prog 3 a3 fun x23 => kern_step_read_1_p0 C K a2 a3 a4 x1 x9 x14 x19 x22 x23
noncomputable def kern_step_read_1_e (C : Cal) (N : Nat) (a0 a1 a2 a3 a4 : SV) (K : SV → ER) : ER :=
  eAlloc Tryz.prog 28 fun x1 => eFieldAddr Tryz.prog 44 a1 2 fun x2 => eLoad Tryz.prog 70 a0 fun x3 => eNilCk x3 fun x4 => eFieldAddr Tryz.prog 76 x4 1 fun x5 => eLoad Tryz.prog 23 x5 fun x6 => eNilCk x6 fun x7 => eFieldAddr Tryz.prog 58 x7 1 fun x8 => eLoad Tryz.prog 55 x8 fun x9 => eLoad Tryz.prog 70 a0 fun x10 => kern_step_read_1_p1 C K a0 a2 a3 a4 x1 x2 x9 x10
theorem kern_step_read_1_ee (C : Cal) (N : Nat) (a0 a1 a2 a3 a4 : SV) (K : SV → ER) : eBody Tryz.prog C N Tryz.f89 (Tryz.f89.body.getD .skip) kern_step_read_1_ea [a0, a1, a2, a3, a4] K = kern_step_read_1_e C N a0 a1 a2 a3 a4 K := by kernel_rfl
noncomputable def l89 : LeafT := fun C N args K => match args with
  | [a0, a1, a2, a3, a4] => kern_step_read_1_e C N a0 a1 a2 a3 a4 K
  | _ => eF
theorem lok89 : LeafOk Tryz.prog 89 l89 := ⟨Tryz.f89, Tryz.f89.body.getD .skip, kern_step_read_1_ea, Tryz.func89, by kernel_rfl, Tryz.call89, fun C N args K H e => by
  unfold l89 at e
  split at e
  · rw [kern_step_read_1_ee]; exact e
  · exact eF_no e⟩

/- (*halberd/tasks.Table).Seek -/
def tasks_Table_Seek_ea : Ann := .two (.none) (.two (.none) (.none))
noncomputable def tasks_Table_Seek_e (C : Cal) (N : Nat) (a0 a1 a2 a3 : SV) (K : SV → ER) : ER :=
  eBox Tryz.prog 3 a3 fun x1 => eCallR Tryz.prog C 164 [a0, a1, a2, (.fn 166 [] [x1])] 26 fun x2 => K x2
theorem tasks_Table_Seek_ee (C : Cal) (N : Nat) (a0 a1 a2 a3 : SV) (K : SV → ER) : eBody Tryz.prog C N Tryz.f90 (Tryz.f90.body.getD .skip) tasks_Table_Seek_ea [a0, a1, a2, a3] K = tasks_Table_Seek_e C N a0 a1 a2 a3 K := by kernel_rfl
noncomputable def l90 : LeafT := fun C N args K => match args with
  | [a0, a1, a2, a3] => tasks_Table_Seek_e C N a0 a1 a2 a3 K
  | _ => eF
theorem lok90 : LeafOk Tryz.prog 90 l90 := ⟨Tryz.f90, Tryz.f90.body.getD .skip, tasks_Table_Seek_ea, Tryz.func90, by kernel_rfl, Tryz.call90, fun C N args K H e => by
  unfold l90 at e
  split at e
  · rw [tasks_Table_Seek_ee]; exact e
  · exact eF_no e⟩

end Go.Proofs.YtnpcjhcgbcpcoaaGreatDoor

set_option linter.unusedVariables false
set_option maxRecDepth 100000
namespace Go.Proofs.YtnpcjhcgbcpcoaaGreatDoor
open Go.Hl
/- (*halberd/kern.step).write$1 -/
def kern_step_write_1_ea : Ann := .two (.none) (.two (.ord [0, 2, 4, 1, 3, 5, 6, 7, 8, 9, 10]) (.two (.ord [7, 9, 10, 19, 21, 22, 0, 1, 2, 3, 4, 5, 6, 8, 11, 12, 13, 14, 15, 16, 17, 18, 20, 23, 24, 25, 26]) (.two (.ord [0, 1, 2, 3, 4, 5, 6, 7, 8, 9, 10, 11, 12, 13, 14, 15, 16, 17, 18]) (.two (.none) (.none)))))
noncomputable def kern_step_write_1_p0 (C : Cal) (K : SV → ER) (a2 : SV) (a3 : SV) (x41 : SV) (x45 : SV) : ER :=
  eLoad Tryz.prog 3 x45 fun x46 => eLoad Tryz.prog 70 a2 fun x47 => eNilCk x47 fun x48 => eFieldAddr Tryz.prog 76 x48 0 fun x49 => eFieldAddr Tryz.prog 31 x49 2 fun x50 => eLoad Tryz.prog 3 x50 fun x51 => eLoad Tryz.prog 3 a3 fun x52 => eCallR Tryz.prog C 90 [x41, x46, x51, x52] 26 fun x53 => eLoad Tryz.prog 70 a2 fun x54 => eNilCk x54 fun x55 => eFieldAddr Tryz.prog 76 x55 0 fun x56 => eFieldAddr Tryz.prog 31 x56 5 fun x57 => eLoad Tryz.prog 9 x57 fun x58 => eLenS Tryz.prog [9] [x58] fun x59 => K (.tup [x59, (.int .i64 0)])
noncomputable def kern_step_write_1_p1 (C : Cal) (K : SV → ER) (a2 : SV) (a3 : SV) (x20 : SV) (x21 : SV) (x29 : SV) (x32 : SV) : ER :=
  eBin Tryz.prog .add 9 false x29 x32 fun x33 => eCallR Tryz.prog C 79 [x20, x21, x33] 26 fun x34 => eLoad Tryz.prog 70 a2 fun x35 => eNilCk x35 fun x36 => eFieldAddr Tryz.prog 76 x36 1 fun x37 => eLoad Tryz.prog 23 x37 fun x38 => eNilCk x38 fun x39 => eFieldAddr Tryz.prog 58 x39 1 fun x40 => eLoad Tryz.prog 55 x40 fun x41 => eLoad Tryz.prog 70 a2 fun x42 => eNilCk x42 fun x43 => eFieldAddr Tryz.prog 76 x43 2 fun x44 => eFieldAddr Tryz.prog 50 x44 0 fun x45 => kern_step_write_1_p0 C K a2 a3 x41 x45
noncomputable def kern_step_write_1_p2 (C : Cal) (K : SV → ER) (a2 : SV) (a3 : SV) (x10 : SV) (x11 : SV) (x12 : SV) (x13 : SV) (x20 : SV) : ER :=
  eLoad Tryz.prog 3 x11 fun x21 => eLoad Tryz.prog 3 x12 fun x22 => eSliceS Tryz.prog 9 x10 none (some (.v x22)) none fun x23 => eLoad Tryz.prog 70 a2 fun x24 => eNilCk x24 fun x25 => eFieldAddr Tryz.prog 76 x25 0 fun x26 => eFieldAddr Tryz.prog 31 x26 5 fun x27 => eLoad Tryz.prog 9 x27 fun x28 => eBin Tryz.prog .add 9 false x23 x28 fun x29 => eLoad Tryz.prog 3 a3 fun x30 => eMinMaxS false [x30, x13] fun x31 => eSliceS Tryz.prog 9 x10 (some (.v x31)) none none fun x32 => kern_step_write_1_p1 C K a2 a3 x20 x21 x29 x32
noncomputable def kern_step_write_1_p3 (C : Cal) (K : SV → ER) (a0 : SV) (a1 : SV) (a2 : SV) (a3 : SV) (x1 : SV) (x4 : SV) (x8 : SV) : ER :=
  eCallR Tryz.prog C 92 [x8] 9 fun x9 => fun H => eLoadF Tryz.prog 9 x1 x4 H && (eBin Tryz.prog .add 9 false x4 x9 fun x10 => eFieldAddr Tryz.prog 40 a0 0 fun x11 => eFieldAddr Tryz.prog 44 a1 2 fun x12 => eLenS Tryz.prog [9] [x10] fun x13 => eLoad Tryz.prog 70 a2 fun x14 => eNilCk x14 fun x15 => eFieldAddr Tryz.prog 76 x15 1 fun x16 => eLoad Tryz.prog 23 x16 fun x17 => eNilCk x17 fun x18 => eFieldAddr Tryz.prog 58 x18 0 fun x19 => eLoad Tryz.prog 53 x19 fun x20 => kern_step_write_1_p2 C K a2 a3 x10 x11 x12 x13 x20) H
noncomputable def kern_step_write_1_e (C : Cal) (N : Nat) (a0 a1 a2 a3 : SV) (K : SV → ER) : ER :=
  eFieldAddr Tryz.prog 40 a0 7 fun x1 => eFieldAddr Tryz.prog 44 a1 2 fun x2 => eFieldAddr Tryz.prog 40 a0 7 fun x3 => eLoad Tryz.prog 9 x1 fun x4 => eLoad Tryz.prog 3 x2 fun x5 => eLoad Tryz.prog 9 x3 fun x6 => eLenS Tryz.prog [9] [x6] fun x7 => eBin Tryz.prog .sub 3 false x5 x7 fun x8 => kern_step_write_1_p3 C K a0 a1 a2 a3 x1 x4 x8
theorem kern_step_write_1_ee (C : Cal) (N : Nat) (a0 a1 a2 a3 : SV) (K : SV → ER) : eBody Tryz.prog C N Tryz.f91 (Tryz.f91.body.getD .skip) kern_step_write_1_ea [a0, a1, a2, a3] K = kern_step_write_1_e C N a0 a1 a2 a3 K := by kernel_rfl
noncomputable def l91 : LeafT := fun C N args K => match args with
  | [a0, a1, a2, a3] => kern_step_write_1_e C N a0 a1 a2 a3 K
  | _ => eF
theorem lok91 : LeafOk Tryz.prog 91 l91 := ⟨Tryz.f91, Tryz.f91.body.getD .skip, kern_step_write_1_ea, Tryz.func91, by kernel_rfl, Tryz.call91, fun C N args K H e => by
  unfold l91 at e
  split at e
  · rw [kern_step_write_1_ee]; exact e
  · exact eF_no e⟩

/- halberd/kern.zeros -/
def kern_zeros_ea : Ann := .two (.none) (.two (.none) (.none))
noncomputable def kern_zeros_e (C : Cal) (N : Nat) (a0 : SV) (K : SV → ER) : ER :=
  eMinMaxS true [a0, (.int .i64 0)] fun x1 => eCallR Tryz.prog C 167 [(.str [0]), x1] 9 fun x2 => K x2
theorem kern_zeros_ee (C : Cal) (N : Nat) (a0 : SV) (K : SV → ER) : eBody Tryz.prog C N Tryz.f92 (Tryz.f92.body.getD .skip) kern_zeros_ea [a0] K = kern_zeros_e C N a0 K := by kernel_rfl
noncomputable def l92 : LeafT := fun C N args K => match args with
  | [a0] => kern_zeros_e C N a0 K
  | _ => eF
theorem lok92 : LeafOk Tryz.prog 92 l92 := ⟨Tryz.f92, Tryz.f92.body.getD .skip, kern_zeros_ea, Tryz.func92, by kernel_rfl, Tryz.call92, fun C N args K H e => by
  unfold l92 at e
  split at e
  · rw [kern_zeros_ee]; exact e
  · exact eF_no e⟩

/- (*halberd/kern.step).seek$1 -/
def kern_step_seek_1_ea : Ann := .two (.none) (.two (.ord [0, 1, 2, 3, 4, 5, 6, 7, 8, 9, 10, 11, 12, 13, 14, 15, 16, 17, 18, 19, 20, 21, 22]) (.two (.none) (.none)))
noncomputable def kern_step_seek_1_p0 (C : Cal) (K : SV → ER) (a0 : SV) (x7 : SV) (x12 : SV) (x14 : SV) : ER :=
  eFieldAddr Tryz.prog 76 x14 0 fun x15 => eFieldAddr Tryz.prog 31 x15 2 fun x16 => eLoad Tryz.prog 3 x16 fun x17 => eLoad Tryz.prog 70 a0 fun x18 => eNilCk x18 fun x19 => eFieldAddr Tryz.prog 76 x19 0 fun x20 => eFieldAddr Tryz.prog 31 x20 3 fun x21 => eLoad Tryz.prog 3 x21 fun x22 => eCallR Tryz.prog C 90 [x7, x12, x17, x22] 26 fun x23 => eLoad Tryz.prog 70 a0 fun x24 => eNilCk x24 fun x25 => eFieldAddr Tryz.prog 76 x25 0 fun x26 => eFieldAddr Tryz.prog 31 x26 3 fun x27 => eLoad Tryz.prog 3 x27 fun x28 => K (.tup [x28, (.int .i64 0)])
noncomputable def kern_step_seek_1_e (C : Cal) (N : Nat) (a0 : SV) (K : SV → ER) : ER :=
  eLoad Tryz.prog 70 a0 fun x1 => eNilCk x1 fun x2 => eFieldAddr Tryz.prog 76 x2 1 fun x3 => eLoad Tryz.prog 23 x3 fun x4 => eNilCk x4 fun x5 => eFieldAddr Tryz.prog 58 x5 1 fun x6 => eLoad Tryz.prog 55 x6 fun x7 => eLoad Tryz.prog 70 a0 fun x8 => eNilCk x8 fun x9 => eFieldAddr Tryz.prog 76 x9 2 fun x10 => eFieldAddr Tryz.prog 50 x10 0 fun x11 => eLoad Tryz.prog 3 x11 fun x12 => eLoad Tryz.prog 70 a0 fun x13 => eNilCk x13 fun x14 => kern_step_seek_1_p0 C K a0 x7 x12 x14
theorem kern_step_seek_1_ee (C : Cal) (N : Nat) (a0 : SV) (K : SV → ER) : eBody Tryz.prog C N Tryz.f93 (Tryz.f93.body.getD .skip) kern_step_seek_1_ea [a0] K = kern_step_seek_1_e C N a0 K := by kernel_rfl
noncomputable def l93 : LeafT := fun C N args K => match args with
  | [a0] => kern_step_seek_1_e C N a0 K
  | _ => eF
theorem lok93 : LeafOk Tryz.prog 93 l93 := ⟨Tryz.f93, Tryz.f93.body.getD .skip, kern_step_seek_1_ea, Tryz.func93, by kernel_rfl, Tryz.call93, fun C N args K H e => by
  unfold l93 at e
  split at e
  · rw [kern_step_seek_1_ee]; exact e
  · exact eF_no e⟩

/- (*halberd/kern.step).fresh -/
def kern_step_fresh_ea : Ann := .two (.none) (.two (.none) (.join (.ord [1, 2, 3, 4, 5, 15, 16, 0, 6, 7, 8, 9, 10, 11, 12, 13, 14, 17, 18, 19, 20, 21]) (.none) [(5, .any)]))
noncomputable def kern_step_fresh_p0 (C : Cal) (k8 : SV × Unit → ER) (x1 : SV) (x2 : SV) (x6 : SV) (x7 : SV) (x12 : SV) : ER :=
  eCallR Tryz.prog C 71 [(.bool true), (.int .i64 17)] 26 fun x15 => fun H => eLoadF Tryz.prog 113 x7 x12 H && (eCallR Tryz.prog C 168 [x6, (.fn 169 [] [x1, x7])] 26 fun x16 => fun H => eLoadF Tryz.prog 113 x7 x12 H && (eBuildSlice Tryz.prog 164 3 [(0, x6), (1, x15), (2, x16)] fun x17 => eCallR Tryz.prog C 70 [x17] 26 fun x18 => fun H => eLoadF Tryz.prog 113 x7 x12 H && (eStore Tryz.prog 113 x2 x12 <| eHas .any x18 (k8 (x18, ()))) H) H) H
noncomputable def kern_step_fresh_p1 (C : Cal) (k8 : SV × Unit → ER) (x1 : SV) (x2 : SV) (x6 : SV) (x7 : SV) (x12 : SV) (x19 : SV) : ER :=
  eLoad Tryz.prog 9 x19 fun x20 => eBin Tryz.prog .eql 9 false x20 (.str []) fun x21 => eCallR Tryz.prog C 71 [x21, (.int .i64 17)] 26 fun x22 => fun H => eLoadF Tryz.prog 113 x7 x12 H && (eCallR Tryz.prog C 168 [x6, (.fn 169 [] [x1, x7])] 26 fun x23 => fun H => eLoadF Tryz.prog 113 x7 x12 H && (eBuildSlice Tryz.prog 164 3 [(0, x6), (1, x22), (2, x23)] fun x24 => eCallR Tryz.prog C 70 [x24] 26 fun x25 => fun H => eLoadF Tryz.prog 113 x7 x12 H && (eStore Tryz.prog 113 x2 x12 <| eHas .any x25 (k8 (x25, ()))) H) H) H
noncomputable def kern_step_fresh_p2 (C : Cal) (k8 : SV × Unit → ER) (x1 : SV) (x2 : SV) (x6 : SV) (x7 : SV) : ER :=
  eFieldAddr Tryz.prog 113 x7 2 fun x11 => eLoad Tryz.prog 113 x7 fun x12 => eLoad Tryz.prog 3 x11 fun x13 => eBin Tryz.prog .neq 3 false x13 (.int .i64 0) fun x14 => eIfV x14
  (kern_step_fresh_p0 C k8 x1 x2 x6 x7 x12)
  (eFieldAddr Tryz.prog 113 x7 1 fun x19 => kern_step_fresh_p1 C k8 x1 x2 x6 x7 x12 x19)
noncomputable def kern_step_fresh_p3 (C : Cal) (k8 : SV × Unit → ER) (x1 : SV) (x2 : SV) (x6 : SV) (x7 : SV) : ER :=
  eLoad Tryz.prog 113 x7 fun x26 => eCallR Tryz.prog C 71 [(.bool false), (.int .i64 17)] 26 fun x27 => fun H => eLoadF Tryz.prog 113 x7 x26 H && (eCallR Tryz.prog C 168 [x6, (.fn 169 [] [x1, x7])] 26 fun x28 => fun H => eLoadF Tryz.prog 113 x7 x26 H && (eBuildSlice Tryz.prog 164 3 [(0, x6), (1, x27), (2, x28)] fun x29 => eCallR Tryz.prog C 70 [x29] 26 fun x30 => fun H => eLoadF Tryz.prog 113 x7 x26 H && (eStore Tryz.prog 113 x2 x26 <| eHas .any x30 (k8 (x30, ()))) H) H) H
noncomputable def kern_step_fresh_p4 (C : Cal) (K : SV → ER) (a1 : SV) (x1 : SV) : ER :=
  eAlloc Tryz.prog 113 fun x2 => eLoad Tryz.prog 70 x1 fun x3 => eCallR Tryz.prog C 69 [x3, a1, (.bool false)] 114 fun x4 => eExtract x4 0 fun x5 => eExtract x4 1 fun x6 => eAlloc Tryz.prog 113 fun x7 => eStore Tryz.prog 113 x7 x5 <| eJoinC (σ := SV × Unit) (fun (k8 : SV × Unit → ER) =>
  eBin Tryz.prog .eql 26 false x6 (.int .i64 0) fun x10 => eIfV x10
  (kern_step_fresh_p2 C k8 x1 x2 x6 x7)
  (kern_step_fresh_p3 C k8 x1 x2 x6 x7)) fun (s9 : SV × Unit) =>
  eLoad Tryz.prog 113 x2 fun x31 => K (.tup [x31, s9.1])
noncomputable def kern_step_fresh_e (C : Cal) (N : Nat) (a0 a1 : SV) (K : SV → ER) : ER :=
  eBox Tryz.prog 70 a0 fun x1 => kern_step_fresh_p4 C K a1 x1
theorem kern_step_fresh_ee (C : Cal) (N : Nat) (a0 a1 : SV) (K : SV → ER) : eBody Tryz.prog C N Tryz.f94 (Tryz.f94.body.getD .skip) kern_step_fresh_ea [a0, a1] K = kern_step_fresh_e C N a0 a1 K := by kernel_rfl
noncomputable def l94 : LeafT := fun C N args K => match args with
  | [a0, a1] => kern_step_fresh_e C N a0 a1 K
  | _ => eF
theorem lok94 : LeafOk Tryz.prog 94 l94 := ⟨Tryz.f94, Tryz.f94.body.getD .skip, kern_step_fresh_ea, Tryz.func94, by kernel_rfl, Tryz.call94, fun C N args K H e => by
  unfold l94 at e
  split at e
  · rw [kern_step_fresh_ee]; exact e
  · exact eF_no e⟩

/- (*halberd/kern.step).mkdir$1 -/
def kern_step_mkdir_1_ea : Ann := .ord [0, 1, 2, 3, 4, 5, 6, 7]
noncomputable def kern_step_mkdir_1_e (C : Cal) (N : Nat) (a0 a1 : SV) (K : SV → ER) : ER :=
  eLoad Tryz.prog 70 a0 fun x1 => eLoad Tryz.prog 113 a1 fun x2 => eLoad Tryz.prog 70 a0 fun x3 => eNilCk x3 fun x4 => eFieldAddr Tryz.prog 76 x4 0 fun x5 => eFieldAddr Tryz.prog 31 x5 2 fun x6 => eLoad Tryz.prog 3 x6 fun x7 => eCallR Tryz.prog C 84 [x1, x2, (.int .i64 2), x7, (.str [])] 3 fun x8 => K (.tup [])
theorem kern_step_mkdir_1_ee (C : Cal) (N : Nat) (a0 a1 : SV) (K : SV → ER) : eBody Tryz.prog C N Tryz.f95 (Tryz.f95.body.getD .skip) kern_step_mkdir_1_ea [a0, a1] K = kern_step_mkdir_1_e C N a0 a1 K := by kernel_rfl
noncomputable def l95 : LeafT := fun C N args K => match args with
  | [a0, a1] => kern_step_mkdir_1_e C N a0 a1 K
  | _ => eF
theorem lok95 : LeafOk Tryz.prog 95 l95 := ⟨Tryz.f95, Tryz.f95.body.getD .skip, kern_step_mkdir_1_ea, Tryz.func95, by kernel_rfl, Tryz.call95, fun C N args K H e => by
  unfold l95 at e
  split at e
  · rw [kern_step_mkdir_1_ee]; exact e
  · exact eF_no e⟩

/- (*halberd/kern.step).there -/
def kern_step_there_ea : Ann := .two (.none) (.two (.none) (.two (.two (.none) (.two (.two (.none) (.none)) (.none))) (.two (.ord [0, 1, 2, 7, 3, 4, 5, 6, 8, 9, 10, 11, 12, 13, 14, 15]) (.two (.two (.none) (.two (.two (.ord [0, 1, 2, 3, 4]) (.none)) (.none))) (.two (.ord [0, 1, 2, 3, 4]) (.none))))))
noncomputable def kern_step_there_p0 (K : SV → ER) (x1 : SV) (x2 : SV) (x5 : SV) (x6 : SV) : ER :=
  eLoad Tryz.prog 113 x6 fun x8 => eBuild Tryz.prog 40 [] fun x9 => eStore Tryz.prog 113 x1 x8 <| eStore Tryz.prog 40 x2 x9 <| eLoad Tryz.prog 113 x1 fun x10 => eLoad Tryz.prog 40 x2 fun x11 => K (.tup [x10, x11, x5])
noncomputable def kern_step_there_p1 (K : SV → ER) (x1 : SV) (x2 : SV) (x6 : SV) (x23 : SV) : ER :=
  eLoad Tryz.prog 113 x6 fun x25 => eLoad Tryz.prog 40 x23 fun x26 => eStore Tryz.prog 113 x1 x25 <| fun H => eLoadF Tryz.prog 40 x23 x26 H && (eStore Tryz.prog 40 x2 x26 <| eLoad Tryz.prog 113 x1 fun x27 => eLoad Tryz.prog 40 x2 fun x28 => K (.tup [x27, x28, (.int .i64 2)])) H
noncomputable def kern_step_there_p2 (K : SV → ER) (x1 : SV) (x2 : SV) (x6 : SV) (x23 : SV) : ER :=
  eLoad Tryz.prog 113 x6 fun x29 => eLoad Tryz.prog 40 x23 fun x30 => eStore Tryz.prog 113 x1 x29 <| fun H => eLoadF Tryz.prog 40 x23 x30 H && (eStore Tryz.prog 40 x2 x30 <| eLoad Tryz.prog 113 x1 fun x31 => eLoad Tryz.prog 40 x2 fun x32 => K (.tup [x31, x32, (.int .i64 0)])) H
noncomputable def kern_step_there_p3 (C : Cal) (K : SV → ER) (x1 : SV) (x2 : SV) (x6 : SV) (x12 : SV) : ER :=
  eFieldAddr Tryz.prog 76 x12 1 fun x13 => eFieldAddr Tryz.prog 113 x6 2 fun x14 => eLoad Tryz.prog 23 x13 fun x15 => eNilCk x15 fun x16 => eFieldAddr Tryz.prog 58 x16 0 fun x17 => eLoad Tryz.prog 53 x17 fun x18 => eLoad Tryz.prog 3 x14 fun x19 => eCallR Tryz.prog C 18 [x18, x19] 77 fun x20 => eExtract x20 0 fun x21 => eExtract x20 1 fun x22 => eAlloc Tryz.prog 40 fun x23 => eStore Tryz.prog 40 x23 x21 <| eUnS .not x22 fun x24 => eIfV x24
  (kern_step_there_p1 K x1 x2 x6 x23)
  (kern_step_there_p2 K x1 x2 x6 x23)
noncomputable def kern_step_there_e (C : Cal) (N : Nat) (a0 a1 a2 : SV) (K : SV → ER) : ER :=
  eAlloc Tryz.prog 113 fun x1 => eAlloc Tryz.prog 40 fun x2 => eCallR Tryz.prog C 69 [a0, a1, a2] 114 fun x3 => eExtract x3 0 fun x4 => eExtract x3 1 fun x5 => eAlloc Tryz.prog 113 fun x6 => eStore Tryz.prog 113 x6 x4 <| eBin Tryz.prog .neq 26 false x5 (.int .i64 0) fun x7 => eIfV x7
  (kern_step_there_p0 K x1 x2 x5 x6)
  (eNilCk a0 fun x12 => kern_step_there_p3 C K x1 x2 x6 x12)
theorem kern_step_there_ee (C : Cal) (N : Nat) (a0 a1 a2 : SV) (K : SV → ER) : eBody Tryz.prog C N Tryz.f96 (Tryz.f96.body.getD .skip) kern_step_there_ea [a0, a1, a2] K = kern_step_there_e C N a0 a1 a2 K := by kernel_rfl
noncomputable def l96 : LeafT := fun C N args K => match args with
  | [a0, a1, a2] => kern_step_there_e C N a0 a1 a2 K
  | _ => eF
theorem lok96 : LeafOk Tryz.prog 96 l96 := ⟨Tryz.f96, Tryz.f96.body.getD .skip, kern_step_there_ea, Tryz.func96, by kernel_rfl, Tryz.call96, fun C N args K H e => by
  unfold l96 at e
  split at e
  · rw [kern_step_there_ee]; exact e
  · exact eF_no e⟩

/- (*halberd/kern.step).busy -/
def kern_step_busy_ea : Ann := .two (.none) (.two (.two (.none) (.sub (.loop [(16, .any)] (.two (.none) (.two (.two (.none) (.none)) (.two (.sub (.two (.none) (.join (.none) (.two (.two (.none) (.none)) (.none)) [(28, .any)]))) (.none))))))) (.two (.none) (.none)))
noncomputable def kern_step_busy_p0 (a1 : SV) (k15 : SV × Unit → ER) (x14 : SV) : ER :=
  eFieldAddr Tryz.prog 50 x14 8 fun x17 => eLoad Tryz.prog 4 x17 fun x18 => eUnS .not x18 fun x19 => eIfV x19
  (eFieldAddr Tryz.prog 50 x14 5 fun x20 => eLoad Tryz.prog 3 x20 fun x21 => eBin Tryz.prog .eql 3 false x21 a1 fun x22 => eHas .any x22 (k15 (x22, ())))
  (eHas .any (.bool false) (k15 ((.bool false), ())))
noncomputable def kern_step_busy_p1 (K : SV → ER) (a1 : SV) (k9 : SV × Unit → ER) (x7 : SV) (s10 : SV × Unit) : ER :=
  eIndexAddrS Tryz.prog 34 x7 s10.1 fun x12 => eLoad Tryz.prog 50 x12 fun x13 => eAlloc Tryz.prog 50 fun x14 => eStore Tryz.prog 50 x14 x13 <| eJoinC (σ := SV × Unit) (fun (k15 : SV × Unit → ER) =>
  kern_step_busy_p0 a1 k15 x14) fun (s16 : SV × Unit) =>
  eIfV s16.1
  (K (.bool true))
  (eBin Tryz.prog .add 3 false s10.1 (.int .i64 1) fun x23 => eHas .any x23 (k9 (x23, ())))
noncomputable def kern_step_busy_e (C : Cal) (N : Nat) (a0 a1 : SV) (K : SV → ER) : ER :=
  eNilCk a0 fun x1 => eFieldAddr Tryz.prog 76 x1 1 fun x2 => eLoad Tryz.prog 23 x2 fun x3 => eNilCk x3 fun x4 => eFieldAddr Tryz.prog 58 x4 1 fun x5 => eLoad Tryz.prog 55 x5 fun x6 => eCallR Tryz.prog C 14 [x6] 34 fun x7 => eLenS Tryz.prog [34] [x7] fun x8 => eHas .any (.int .i64 0) (eIter (σ := SV × Unit) (fun (s10 : SV × Unit) (k9 : SV × Unit → ER) =>
  eBin Tryz.prog .lss 3 false s10.1 x8 fun x11 => eIfV x11
  (kern_step_busy_p1 K a1 k9 x7 s10)
  (K (.bool false))) N ((.int .i64 0), ()))
theorem kern_step_busy_ee (C : Cal) (N : Nat) (a0 a1 : SV) (K : SV → ER) : eBody Tryz.prog C N Tryz.f97 (Tryz.f97.body.getD .skip) kern_step_busy_ea [a0, a1] K = kern_step_busy_e C N a0 a1 K := by kernel_rfl
noncomputable def l97 : LeafT := fun C N args K => match args with
  | [a0, a1] => kern_step_busy_e C N a0 a1 K
  | _ => eF
theorem lok97 : LeafOk Tryz.prog 97 l97 := ⟨Tryz.f97, Tryz.f97.body.getD .skip, kern_step_busy_ea, Tryz.func97, by kernel_rfl, Tryz.call97, fun C N args K H e => by
  unfold l97 at e
  split at e
  · rw [kern_step_busy_ee]; exact e
  · exact eF_no e⟩

/- (*halberd/kern.step).rmdir$1 -/
def kern_step_rmdir_1_ea : Ann := .ord [7, 9, 0, 1, 2, 3, 4, 5, 6, 8, 10, 11]
noncomputable def kern_step_rmdir_1_e (C : Cal) (N : Nat) (a0 a1 : SV) (K : SV → ER) : ER :=
  eFieldAddr Tryz.prog 113 a1 0 fun x1 => eFieldAddr Tryz.prog 113 a1 1 fun x2 => eLoad Tryz.prog 70 a0 fun x3 => eNilCk x3 fun x4 => eFieldAddr Tryz.prog 76 x4 1 fun x5 => eLoad Tryz.prog 23 x5 fun x6 => eNilCk x6 fun x7 => eFieldAddr Tryz.prog 58 x7 0 fun x8 => eLoad Tryz.prog 53 x8 fun x9 => eLoad Tryz.prog 3 x1 fun x10 => eLoad Tryz.prog 9 x2 fun x11 => eCallR Tryz.prog C 99 [x9, x10, x11] 130 fun x12 => K (.tup [])
theorem kern_step_rmdir_1_ee (C : Cal) (N : Nat) (a0 a1 : SV) (K : SV → ER) : eBody Tryz.prog C N Tryz.f98 (Tryz.f98.body.getD .skip) kern_step_rmdir_1_ea [a0, a1] K = kern_step_rmdir_1_e C N a0 a1 K := by kernel_rfl
noncomputable def l98 : LeafT := fun C N args K => match args with
  | [a0, a1] => kern_step_rmdir_1_e C N a0 a1 K
  | _ => eF
theorem lok98 : LeafOk Tryz.prog 98 l98 := ⟨Tryz.f98, Tryz.f98.body.getD .skip, kern_step_rmdir_1_ea, Tryz.func98, by kernel_rfl, Tryz.call98, fun C N args K H e => by
  unfold l98 at e
  split at e
  · rw [kern_step_rmdir_1_ee]; exact e
  · exact eF_no e⟩

end Go.Proofs.YtnpcjhcgbcpcoaaGreatDoor

set_option linter.unusedVariables false
set_option maxRecDepth 100000
namespace Go.Proofs.YtnpcjhcgbcpcoaaGreatDoor
open Go.Hl
/- (*halberd/inodes.Table).Leave -/
def inodes_Table_Leave_ea : Ann := .two (.none) (.two (.none) (.two (.sub (.two (.none) (.two (.two (.none) (.none)) (.two (.none) (.two (.two (.none) (.none)) (.none)))))) (.two (.none) (.two (.two (.none) (.two (.two (.none) (.none)) (.none))) (.two (.none) (.two (.ord [0, 1, 2, 3, 4, 6, 7, 8, 10, 11, 12, 14, 15, 16, 5, 13, 9, 17, 18, 19, 20, 21, 22, 23]) (.join (.two (.none) (.two (.none) (.two (.none) (.none)))) (.two (.none) (.none)) [])))))))
noncomputable def inodes_Table_Leave_p0 (k33 : Unit → ER) (x35 : SV) : ER :=
  eNilCk x35 fun x37 => eFieldAddr Tryz.prog 40 x37 6 fun x38 => eLoad Tryz.prog 3 x38 fun x39 => eBin Tryz.prog .sub 3 false x39 (.int .i64 1) fun x40 => eNilCk x35 fun x41 => eFieldAddr Tryz.prog 40 x41 6 fun x42 => eStore Tryz.prog 3 x42 x40 <| k33 (())
noncomputable def inodes_Table_Leave_p1 (C : Cal) (K : SV → ER) (a0 : SV) (x1 : SV) (x11 : SV) (x18 : SV) (x23 : SV) (x24 : SV) (x26 : SV) (x27 : SV) : ER :=
  fun H => eLoadF Tryz.prog 38 x23 x26 H && (eCallR Tryz.prog C 172 [x26, x11, x24] 38 fun x28 => eNilCk x1 fun x29 => eFieldAddr Tryz.prog 40 x29 8 fun x30 => eStore Tryz.prog 25 x30 x27 <| eNilCk x1 fun x31 => eFieldAddr Tryz.prog 40 x31 9 fun x32 => eStore Tryz.prog 38 x32 x28 <| eJoinC (σ := Unit) (fun (k33 : Unit → ER) =>
  eCallR Tryz.prog C 25 [a0, x18] 91 fun x35 => eBin Tryz.prog .neq 91 true x35 (.ptr none) fun x36 => eIfV x36
  (inodes_Table_Leave_p0 k33 x35)
  (k33 (()))) fun (s34 : Unit) =>
  K (.tup [x18, (.int .i64 0)])) H
noncomputable def inodes_Table_Leave_p2 (C : Cal) (K : SV → ER) (a0 : SV) (x1 : SV) (x11 : SV) (x15 : SV) : ER :=
  eLoad Tryz.prog 38 x15 fun x16 => eIndexAddrS Tryz.prog 38 x16 x11 fun x17 => eLoad Tryz.prog 3 x17 fun x18 => eNilCk x1 fun x19 => eFieldAddr Tryz.prog 40 x19 8 fun x20 => eBin Tryz.prog .add 3 false x11 (.int .i64 1) fun x21 => eNilCk x1 fun x22 => eFieldAddr Tryz.prog 40 x22 9 fun x23 => eBin Tryz.prog .add 3 false x11 (.int .i64 1) fun x24 => eLoad Tryz.prog 25 x20 fun x25 => eLoad Tryz.prog 38 x23 fun x26 => eCallR Tryz.prog C 171 [x25, x11, x21] 25 fun x27 => inodes_Table_Leave_p1 C K a0 x1 x11 x18 x23 x24 x26 x27
noncomputable def inodes_Table_Leave_p3 (C : Cal) (K : SV → ER) (a0 : SV) (a2 : SV) (x1 : SV) : ER :=
  eNilCk x1 fun x7 => eFieldAddr Tryz.prog 40 x7 8 fun x8 => eLoad Tryz.prog 25 x8 fun x9 => eCallR Tryz.prog C 170 [x9, a2] 109 fun x10 => eExtract x10 0 fun x11 => eExtract x10 1 fun x12 => eUnS .not x12 fun x13 => eIfV x13
  (K (.tup [(.int .i64 0), (.int .i64 2)]))
  (eNilCk x1 fun x14 => eFieldAddr Tryz.prog 40 x14 9 fun x15 => inodes_Table_Leave_p2 C K a0 x1 x11 x15)
noncomputable def inodes_Table_Leave_p4 (C : Cal) (K : SV → ER) (a0 : SV) (a2 : SV) (x1 : SV) : ER :=
  eNilCk x1 fun x3 => eFieldAddr Tryz.prog 40 x3 2 fun x4 => eLoad Tryz.prog 3 x4 fun x5 => eBin Tryz.prog .neq 3 false x5 (.int .i64 2) fun x6 => eIfV x6
  (K (.tup [(.int .i64 0), (.int .i64 20)]))
  (inodes_Table_Leave_p3 C K a0 a2 x1)
noncomputable def inodes_Table_Leave_e (C : Cal) (N : Nat) (a0 a1 a2 : SV) (K : SV → ER) : ER :=
  eCallR Tryz.prog C 25 [a0, a1] 91 fun x1 => eBin Tryz.prog .eql 91 true x1 (.ptr none) fun x2 => eIfV x2
  (K (.tup [(.int .i64 0), (.int .i64 2)]))
  (inodes_Table_Leave_p4 C K a0 a2 x1)
theorem inodes_Table_Leave_ee (C : Cal) (N : Nat) (a0 a1 a2 : SV) (K : SV → ER) : eBody Tryz.prog C N Tryz.f99 (Tryz.f99.body.getD .skip) inodes_Table_Leave_ea [a0, a1, a2] K = inodes_Table_Leave_e C N a0 a1 a2 K := by kernel_rfl
noncomputable def l99 : LeafT := fun C N args K => match args with
  | [a0, a1, a2] => inodes_Table_Leave_e C N a0 a1 a2 K
  | _ => eF
theorem lok99 : LeafOk Tryz.prog 99 l99 := ⟨Tryz.f99, Tryz.f99.body.getD .skip, inodes_Table_Leave_ea, Tryz.func99, by kernel_rfl, Tryz.call99, fun C N args K H e => by
  unfold l99 at e
  split at e
  · rw [inodes_Table_Leave_ee]; exact e
  · exact eF_no e⟩

/- (*halberd/kern.step).link$1 -/
def kern_step_link_1_ea : Ann := .ord [7, 9, 11, 0, 1, 2, 3, 4, 5, 6, 8, 10, 12, 13]
noncomputable def kern_step_link_1_e (C : Cal) (N : Nat) (a0 a1 a2 : SV) (K : SV → ER) : ER :=
  eFieldAddr Tryz.prog 113 a1 0 fun x1 => eFieldAddr Tryz.prog 113 a1 1 fun x2 => eFieldAddr Tryz.prog 40 a2 0 fun x3 => eLoad Tryz.prog 70 a0 fun x4 => eNilCk x4 fun x5 => eFieldAddr Tryz.prog 76 x5 1 fun x6 => eLoad Tryz.prog 23 x6 fun x7 => eNilCk x7 fun x8 => eFieldAddr Tryz.prog 58 x8 0 fun x9 => eLoad Tryz.prog 53 x9 fun x10 => eLoad Tryz.prog 3 x1 fun x11 => eLoad Tryz.prog 9 x2 fun x12 => eLoad Tryz.prog 3 x3 fun x13 => eCallR Tryz.prog C 101 [x10, x11, x12, x13] 26 fun x14 => K (.tup [])
theorem kern_step_link_1_ee (C : Cal) (N : Nat) (a0 a1 a2 : SV) (K : SV → ER) : eBody Tryz.prog C N Tryz.f100 (Tryz.f100.body.getD .skip) kern_step_link_1_ea [a0, a1, a2] K = kern_step_link_1_e C N a0 a1 a2 K := by kernel_rfl
noncomputable def l100 : LeafT := fun C N args K => match args with
  | [a0, a1, a2] => kern_step_link_1_e C N a0 a1 a2 K
  | _ => eF
theorem lok100 : LeafOk Tryz.prog 100 l100 := ⟨Tryz.f100, Tryz.f100.body.getD .skip, kern_step_link_1_ea, Tryz.func100, by kernel_rfl, Tryz.call100, fun C N args K H e => by
  unfold l100 at e
  split at e
  · rw [kern_step_link_1_ee]; exact e
  · exact eF_no e⟩

/- (*halberd/inodes.Table).Enter -/
def inodes_Table_Enter_ea : Ann := .two (.none) (.two (.none) (.two (.sub (.two (.none) (.two (.two (.none) (.none)) (.join (.none) (.two (.two (.none) (.none)) (.two (.none) (.two (.two (.none) (.none)) (.none)))) [(23, .any)])))) (.two (.none) (.two (.sub (.two (.none) (.two (.two (.none) (.none)) (.two (.none) (.two (.two (.none) (.none)) (.two (.none) (.two (.two (.none) (.none)) (.none)))))))) (.two (.ord [0, 1, 2, 3, 4, 6, 7, 10, 11, 12, 14, 15, 5, 13, 8, 9, 16, 17, 18, 19, 20, 21, 22, 23]) (.two (.none) (.join (.two (.none) (.two (.none) (.none))) (.two (.none) (.none)) [])))))))
noncomputable def inodes_Table_Enter_p0 (a1 : SV) (x2 : SV) (k49 : Unit → ER) : ER :=
  eNilCk x2 fun x51 => eFieldAddr Tryz.prog 40 x51 2 fun x52 => eLoad Tryz.prog 3 x52 fun x53 => eBin Tryz.prog .eql 3 false x53 (.int .i64 2) fun x54 => eIfV x54
  (eNilCk x2 fun x55 => eFieldAddr Tryz.prog 40 x55 10 fun x56 => eStore Tryz.prog 3 x56 a1 <| k49 (()))
  (k49 (()))
noncomputable def inodes_Table_Enter_p1 (K : SV → ER) (a1 : SV) (x1 : SV) (x2 : SV) (x36 : SV) (x38 : SV) (x39 : SV) : ER :=
  eFieldAddr Tryz.prog 40 x39 8 fun x40 => eStore Tryz.prog 25 x40 x36 <| eNilCk x1 fun x41 => eFieldAddr Tryz.prog 40 x41 9 fun x42 => eStore Tryz.prog 38 x42 x38 <| eNilCk x2 fun x43 => eFieldAddr Tryz.prog 40 x43 6 fun x44 => eLoad Tryz.prog 3 x44 fun x45 => eBin Tryz.prog .add 3 false x45 (.int .i64 1) fun x46 => eNilCk x2 fun x47 => eFieldAddr Tryz.prog 40 x47 6 fun x48 => eStore Tryz.prog 3 x48 x46 <| eJoinC (σ := Unit) (fun (k49 : Unit → ER) =>
  inodes_Table_Enter_p0 a1 x2 k49) fun (s50 : Unit) =>
  K (.int .i64 0)
noncomputable def inodes_Table_Enter_p2 (C : Cal) (K : SV → ER) (a1 : SV) (a2 : SV) (a3 : SV) (x1 : SV) (x2 : SV) (x17 : SV) (x29 : SV) (x30 : SV) : ER :=
  eFieldAddr Tryz.prog 40 x30 9 fun x31 => eLoad Tryz.prog 25 x29 fun x32 => eLoad Tryz.prog 38 x31 fun x33 => eBuildSlice Tryz.prog 25 1 [(0, a2)] fun x34 => fun H => (eBuildSlice Tryz.prog 38 1 [(0, a3)] fun x35 => (fun _ => true)) H && (eCallR Tryz.prog C 174 [x32, x17, x34] 25 fun x36 => fun H => eLoadF Tryz.prog 38 x31 x33 H && (eBuildSlice Tryz.prog 38 1 [(0, a3)] fun x37 => eCallR Tryz.prog C 175 [x33, x17, x37] 38 fun x38 => eNilCk x1 fun x39 => inodes_Table_Enter_p1 K a1 x1 x2 x36 x38 x39) H) H
noncomputable def inodes_Table_Enter_p3 (C : Cal) (K : SV → ER) (a1 : SV) (a2 : SV) (a3 : SV) (x1 : SV) (x2 : SV) (x17 : SV) : ER :=
  eNilCk x2 fun x24 => eFieldAddr Tryz.prog 40 x24 6 fun x25 => eLoad Tryz.prog 3 x25 fun x26 => eBin Tryz.prog .geq 3 false x26 (.int .i64 8) fun x27 => eIfV x27
  (K (.int .i64 31))
  (eNilCk x1 fun x28 => eFieldAddr Tryz.prog 40 x28 8 fun x29 => eNilCk x1 fun x30 => inodes_Table_Enter_p2 C K a1 a2 a3 x1 x2 x17 x29 x30)
noncomputable def inodes_Table_Enter_p4 (C : Cal) (K : SV → ER) (a1 : SV) (a2 : SV) (a3 : SV) (x1 : SV) (x2 : SV) (x17 : SV) : ER :=
  eNilCk x1 fun x19 => eFieldAddr Tryz.prog 40 x19 8 fun x20 => eLoad Tryz.prog 25 x20 fun x21 => eLenS Tryz.prog [25] [x21] fun x22 => eBin Tryz.prog .geq 3 false x22 (.int .i64 8) fun x23 => eIfV x23
  (K (.int .i64 28))
  (inodes_Table_Enter_p3 C K a1 a2 a3 x1 x2 x17)
noncomputable def inodes_Table_Enter_p5 (C : Cal) (K : SV → ER) (a1 : SV) (a2 : SV) (a3 : SV) (x1 : SV) (x2 : SV) : ER :=
  eNilCk x1 fun x13 => eFieldAddr Tryz.prog 40 x13 8 fun x14 => eLoad Tryz.prog 25 x14 fun x15 => eCallR Tryz.prog C 170 [x15, a2] 109 fun x16 => eExtract x16 0 fun x17 => eExtract x16 1 fun x18 => eIfV x18
  (K (.int .i64 17))
  (inodes_Table_Enter_p4 C K a1 a2 a3 x1 x2 x17)
noncomputable def inodes_Table_Enter_p6 (C : Cal) (K : SV → ER) (a1 : SV) (a2 : SV) (a3 : SV) (x1 : SV) (x2 : SV) : ER :=
  eNilCk x1 fun x9 => eFieldAddr Tryz.prog 40 x9 2 fun x10 => eLoad Tryz.prog 3 x10 fun x11 => eBin Tryz.prog .neq 3 false x11 (.int .i64 2) fun x12 => eIfV x12
  (K (.int .i64 20))
  (inodes_Table_Enter_p5 C K a1 a2 a3 x1 x2)
noncomputable def inodes_Table_Enter_p7 (C : Cal) (K : SV → ER) (a1 : SV) (a2 : SV) (a3 : SV) (x1 : SV) (x2 : SV) : ER :=
  eJoinC (σ := SV × Unit) (fun (k5 : SV × Unit → ER) =>
  eBin Tryz.prog .eql 91 true x1 (.ptr none) fun x7 => eIfV x7
  (eHas .any (.bool true) (k5 ((.bool true), ())))
  (eBin Tryz.prog .eql 91 true x2 (.ptr none) fun x8 => eHas .any x8 (k5 (x8, ())))) fun (s6 : SV × Unit) =>
  eIfV s6.1
  (K (.int .i64 2))
  (inodes_Table_Enter_p6 C K a1 a2 a3 x1 x2)
noncomputable def inodes_Table_Enter_e (C : Cal) (N : Nat) (a0 a1 a2 a3 : SV) (K : SV → ER) : ER :=
  eCallR Tryz.prog C 25 [a0, a1] 91 fun x1 => eCallR Tryz.prog C 25 [a0, a3] 91 fun x2 => eCallR Tryz.prog C 173 [a2] 4 fun x3 => eUnS .not x3 fun x4 => eIfV x4
  (K (.int .i64 22))
  (inodes_Table_Enter_p7 C K a1 a2 a3 x1 x2)
theorem inodes_Table_Enter_ee (C : Cal) (N : Nat) (a0 a1 a2 a3 : SV) (K : SV → ER) : eBody Tryz.prog C N Tryz.f101 (Tryz.f101.body.getD .skip) inodes_Table_Enter_ea [a0, a1, a2, a3] K = inodes_Table_Enter_e C N a0 a1 a2 a3 K := by kernel_rfl
noncomputable def l101 : LeafT := fun C N args K => match args with
  | [a0, a1, a2, a3] => inodes_Table_Enter_e C N a0 a1 a2 a3 K
  | _ => eF
theorem lok101 : LeafOk Tryz.prog 101 l101 := ⟨Tryz.f101, Tryz.f101.body.getD .skip, inodes_Table_Enter_ea, Tryz.func101, by kernel_rfl, Tryz.call101, fun C N args K H e => by
  unfold l101 at e
  split at e
  · rw [inodes_Table_Enter_ee]; exact e
  · exact eF_no e⟩

/- strings.Contains -/
def strings_Contains_ea : Ann := .two (.none) (.two (.none) (.none))
noncomputable def strings_Contains_e (C : Cal) (N : Nat) (a0 a1 : SV) (K : SV → ER) : ER :=
  eCallR Tryz.prog C 176 [a0, a1] 3 fun x1 => eBin Tryz.prog .geq 3 false x1 (.int .i64 0) fun x2 => K x2
theorem strings_Contains_ee (C : Cal) (N : Nat) (a0 a1 : SV) (K : SV → ER) : eBody Tryz.prog C N Tryz.f102 (Tryz.f102.body.getD .skip) strings_Contains_ea [a0, a1] K = strings_Contains_e C N a0 a1 K := by kernel_rfl
noncomputable def l102 : LeafT := fun C N args K => match args with
  | [a0, a1] => strings_Contains_e C N a0 a1 K
  | _ => eF
theorem lok102 : LeafOk Tryz.prog 102 l102 := ⟨Tryz.f102, Tryz.f102.body.getD .skip, strings_Contains_ea, Tryz.func102, by kernel_rfl, Tryz.call102, fun C N args K H e => by
  unfold l102 at e
  split at e
  · rw [strings_Contains_ee]; exact e
  · exact eF_no e⟩

/- (*halberd/kern.step).symlink$1 -/
def kern_step_symlink_1_ea : Ann := .ord [0, 1, 2, 3, 4, 5, 6, 7]
noncomputable def kern_step_symlink_1_e (C : Cal) (N : Nat) (a0 a1 : SV) (K : SV → ER) : ER :=
  eLoad Tryz.prog 70 a0 fun x1 => eLoad Tryz.prog 113 a1 fun x2 => eLoad Tryz.prog 70 a0 fun x3 => eNilCk x3 fun x4 => eFieldAddr Tryz.prog 76 x4 0 fun x5 => eFieldAddr Tryz.prog 31 x5 5 fun x6 => eLoad Tryz.prog 9 x6 fun x7 => eCallR Tryz.prog C 84 [x1, x2, (.int .i64 3), (.int .i64 511), x7] 3 fun x8 => K (.tup [])
theorem kern_step_symlink_1_ee (C : Cal) (N : Nat) (a0 a1 : SV) (K : SV → ER) : eBody Tryz.prog C N Tryz.f103 (Tryz.f103.body.getD .skip) kern_step_symlink_1_ea [a0, a1] K = kern_step_symlink_1_e C N a0 a1 K := by kernel_rfl
noncomputable def l103 : LeafT := fun C N args K => match args with
  | [a0, a1] => kern_step_symlink_1_e C N a0 a1 K
  | _ => eF
theorem lok103 : LeafOk Tryz.prog 103 l103 := ⟨Tryz.f103, Tryz.f103.body.getD .skip, kern_step_symlink_1_ea, Tryz.func103, by kernel_rfl, Tryz.call103, fun C N args K H e => by
  unfold l103 at e
  split at e
  · rw [kern_step_symlink_1_ee]; exact e
  · exact eF_no e⟩

/- (*halberd/kern.step).unlink$1 -/
def kern_step_unlink_1_ea : Ann := .ord [7, 9, 0, 1, 2, 3, 4, 5, 6, 8, 10, 11]
noncomputable def kern_step_unlink_1_e (C : Cal) (N : Nat) (a0 a1 : SV) (K : SV → ER) : ER :=
  eFieldAddr Tryz.prog 113 a1 0 fun x1 => eFieldAddr Tryz.prog 113 a1 1 fun x2 => eLoad Tryz.prog 70 a0 fun x3 => eNilCk x3 fun x4 => eFieldAddr Tryz.prog 76 x4 1 fun x5 => eLoad Tryz.prog 23 x5 fun x6 => eNilCk x6 fun x7 => eFieldAddr Tryz.prog 58 x7 0 fun x8 => eLoad Tryz.prog 53 x8 fun x9 => eLoad Tryz.prog 3 x1 fun x10 => eLoad Tryz.prog 9 x2 fun x11 => eCallR Tryz.prog C 99 [x9, x10, x11] 130 fun x12 => K (.tup [])
theorem kern_step_unlink_1_ee (C : Cal) (N : Nat) (a0 a1 : SV) (K : SV → ER) : eBody Tryz.prog C N Tryz.f104 (Tryz.f104.body.getD .skip) kern_step_unlink_1_ea [a0, a1] K = kern_step_unlink_1_e C N a0 a1 K := by kernel_rfl
noncomputable def l104 : LeafT := fun C N args K => match args with
  | [a0, a1] => kern_step_unlink_1_e C N a0 a1 K
  | _ => eF
theorem lok104 : LeafOk Tryz.prog 104 l104 := ⟨Tryz.f104, Tryz.f104.body.getD .skip, kern_step_unlink_1_ea, Tryz.func104, by kernel_rfl, Tryz.call104, fun C N args K H e => by
  unfold l104 at e
  split at e
  · rw [kern_step_unlink_1_ee]; exact e
  · exact eF_no e⟩

/- (*halberd/kern.step).rename$1 -/
def kern_step_rename_1_ea : Ann := .none
noncomputable def kern_step_rename_1_e (C : Cal) (N : Nat) (K : SV → ER) : ER :=
  K (.tup [])
theorem kern_step_rename_1_ee (C : Cal) (N : Nat) (K : SV → ER) : eBody Tryz.prog C N Tryz.f105 (Tryz.f105.body.getD .skip) kern_step_rename_1_ea [] K = kern_step_rename_1_e C N  K := by kernel_rfl
noncomputable def l105 : LeafT := fun C N args K => match args with
  | [] => kern_step_rename_1_e C N  K
  | _ => eF
theorem lok105 : LeafOk Tryz.prog 105 l105 := ⟨Tryz.f105, Tryz.f105.body.getD .skip, kern_step_rename_1_ea, Tryz.func105, by kernel_rfl, Tryz.call105, fun C N args K H e => by
  unfold l105 at e
  split at e
  · rw [kern_step_rename_1_ee]; exact e
  · exact eF_no e⟩

/- (*halberd/kern.step).below -/
def kern_step_below_ea : Ann := .two (.none) (.two (.sub (.loop [(1, .any)] (.two (.join (.none) (.two (.none) (.none)) [(15, .any)]) (.sub (.two (.none) (.none)))))) (.two (.none) (.none)))
noncomputable def kern_step_below_p0 (C : Cal) (a0 : SV) (k1 : SV × Unit → ER) (s2 : SV × Unit) : ER :=
  eNilCk a0 fun x7 => eFieldAddr Tryz.prog 76 x7 1 fun x8 => eLoad Tryz.prog 23 x8 fun x9 => eNilCk x9 fun x10 => eFieldAddr Tryz.prog 58 x10 0 fun x11 => eLoad Tryz.prog 53 x11 fun x12 => eCallR Tryz.prog C 18 [x12, s2.1] 77 fun x13 => eExtract x13 0 fun x14 => eExtract x13 1 fun x15 => eAlloc Tryz.prog 40 fun x16 => eStore Tryz.prog 40 x16 x14 <| eFieldAddr Tryz.prog 40 x16 10 fun x17 => eLoad Tryz.prog 3 x17 fun x18 => eHas .any x18 (k1 (x18, ()))
noncomputable def kern_step_below_p1 (C : Cal) (K : SV → ER) (a0 : SV) (a2 : SV) (k1 : SV × Unit → ER) (s2 : SV × Unit) : ER :=
  eJoinC (σ := SV × Unit) (fun (k3 : SV × Unit → ER) =>
  eBin Tryz.prog .neq 3 false s2.1 a2 fun x5 => eIfV x5
  (eBin Tryz.prog .neq 3 false s2.1 (.int .i64 1) fun x6 => eHas .any x6 (k3 (x6, ())))
  (eHas .any (.bool false) (k3 ((.bool false), ())))) fun (s4 : SV × Unit) =>
  eIfV s4.1
  (kern_step_below_p0 C a0 k1 s2)
  (eBin Tryz.prog .eql 3 false s2.1 a2 fun x19 => K x19)
noncomputable def kern_step_below_e (C : Cal) (N : Nat) (a0 a1 a2 : SV) (K : SV → ER) : ER :=
  eHas .any a1 (eIter (σ := SV × Unit) (fun (s2 : SV × Unit) (k1 : SV × Unit → ER) =>
  kern_step_below_p1 C K a0 a2 k1 s2) N (a1, ()))
theorem kern_step_below_ee (C : Cal) (N : Nat) (a0 a1 a2 : SV) (K : SV → ER) : eBody Tryz.prog C N Tryz.f106 (Tryz.f106.body.getD .skip) kern_step_below_ea [a0, a1, a2] K = kern_step_below_e C N a0 a1 a2 K := by kernel_rfl
noncomputable def l106 : LeafT := fun C N args K => match args with
  | [a0, a1, a2] => kern_step_below_e C N a0 a1 a2 K
  | _ => eF
theorem lok106 : LeafOk Tryz.prog 106 l106 := ⟨Tryz.f106, Tryz.f106.body.getD .skip, kern_step_below_ea, Tryz.func106, by kernel_rfl, Tryz.call106, fun C N args K H e => by
  unfold l106 at e
  split at e
  · rw [kern_step_below_ee]; exact e
  · exact eF_no e⟩

end Go.Proofs.YtnpcjhcgbcpcoaaGreatDoor

set_option linter.unusedVariables false
set_option maxRecDepth 100000
namespace Go.Proofs.YtnpcjhcgbcpcoaaGreatDoor
open Go.Hl
/- (*halberd/kern.step).replaced -/
def kern_step_replaced_ea : Ann := .two (.none) (.two (.none) (.join (.ord [0, 8, 15, 20, 1, 2, 3, 4, 5, 6, 9, 10, 16, 17, 18, 7, 11, 12, 13, 14, 19, 21, 22, 23, 24, 25, 26, 27, 28, 29, 30]) (.none) [(6, .any)]))
noncomputable def kern_step_replaced_p0 (C : Cal) (a0 : SV) (k6 : SV × Unit → ER) (x2 : SV) (x19 : SV) (x20 : SV) (x21 : SV) : ER :=
  eFieldAddr Tryz.prog 40 x2 0 fun x22 => eLoad Tryz.prog 3 x22 fun x23 => eCallR Tryz.prog C 97 [a0, x23] 4 fun x24 => eCallR Tryz.prog C 71 [x24, (.int .i64 16)] 26 fun x25 => eBuildSlice Tryz.prog 164 4 [(0, x19), (1, x20), (2, x21), (3, x25)] fun x26 => eCallR Tryz.prog C 70 [x26] 26 fun x27 => eHas .any x27 (k6 (x27, ()))
noncomputable def kern_step_replaced_p1 (C : Cal) (k6 : SV × Unit → ER) (x19 : SV) (x20 : SV) (x21 : SV) : ER :=
  eCallR Tryz.prog C 71 [(.bool false), (.int .i64 16)] 26 fun x28 => eBuildSlice Tryz.prog 164 4 [(0, x19), (1, x20), (2, x21), (3, x28)] fun x29 => eCallR Tryz.prog C 70 [x29] 26 fun x30 => eHas .any x30 (k6 (x30, ()))
noncomputable def kern_step_replaced_p2 (C : Cal) (a0 : SV) (k6 : SV × Unit → ER) (x2 : SV) (x5 : SV) (x10 : SV) (x16 : SV) (x18 : SV) (x19 : SV) : ER :=
  eCallR Tryz.prog C 71 [x5, (.int .i64 21)] 26 fun x20 => fun H => eLoadF Tryz.prog 25 x10 x16 H && (eCallR Tryz.prog C 71 [x18, (.int .i64 39)] 26 fun x21 => eIfV x5
  (kern_step_replaced_p0 C a0 k6 x2 x19 x20 x21)
  (kern_step_replaced_p1 C k6 x19 x20 x21)) H
noncomputable def kern_step_replaced_p3 (C : Cal) (a0 : SV) (k6 : SV × Unit → ER) (x2 : SV) (x19 : SV) (x31 : SV) (x32 : SV) : ER :=
  eFieldAddr Tryz.prog 40 x2 0 fun x33 => eLoad Tryz.prog 3 x33 fun x34 => eCallR Tryz.prog C 97 [a0, x34] 4 fun x35 => eCallR Tryz.prog C 71 [x35, (.int .i64 16)] 26 fun x36 => eBuildSlice Tryz.prog 164 4 [(0, x19), (1, x31), (2, x32), (3, x36)] fun x37 => eCallR Tryz.prog C 70 [x37] 26 fun x38 => eHas .any x38 (k6 (x38, ()))
noncomputable def kern_step_replaced_p4 (C : Cal) (k6 : SV × Unit → ER) (x19 : SV) (x31 : SV) (x32 : SV) : ER :=
  eCallR Tryz.prog C 71 [(.bool false), (.int .i64 16)] 26 fun x39 => eBuildSlice Tryz.prog 164 4 [(0, x19), (1, x31), (2, x32), (3, x39)] fun x40 => eCallR Tryz.prog C 70 [x40] 26 fun x41 => eHas .any x41 (k6 (x41, ()))
noncomputable def kern_step_replaced_p5 (C : Cal) (a0 : SV) (k6 : SV × Unit → ER) (x2 : SV) (x5 : SV) (x10 : SV) (x16 : SV) (x18 : SV) (x19 : SV) : ER :=
  eCallR Tryz.prog C 71 [(.bool false), (.int .i64 21)] 26 fun x31 => fun H => eLoadF Tryz.prog 25 x10 x16 H && (eCallR Tryz.prog C 71 [x18, (.int .i64 39)] 26 fun x32 => eIfV x5
  (kern_step_replaced_p3 C a0 k6 x2 x19 x31 x32)
  (kern_step_replaced_p4 C k6 x19 x31 x32)) H
noncomputable def kern_step_replaced_p6 (C : Cal) (a0 : SV) (k6 : SV × Unit → ER) (x2 : SV) (x5 : SV) (x9 : SV) (x10 : SV) : ER :=
  eUnS .not x5 fun x13 => eLoad Tryz.prog 3 x9 fun x14 => eBin Tryz.prog .neq 3 false x14 (.int .i64 2) fun x15 => eLoad Tryz.prog 25 x10 fun x16 => eLenS Tryz.prog [25] [x16] fun x17 => eBin Tryz.prog .gtr 3 false x17 (.int .i64 0) fun x18 => eCallR Tryz.prog C 71 [x13, (.int .i64 20)] 26 fun x19 => fun H => eLoadF Tryz.prog 25 x10 x16 H && (fun H => eLoadF Tryz.prog 3 x9 x14 H && (eIfV x15
  (kern_step_replaced_p2 C a0 k6 x2 x5 x10 x16 x18 x19)
  (kern_step_replaced_p5 C a0 k6 x2 x5 x10 x16 x18 x19)) H) H
noncomputable def kern_step_replaced_p7 (C : Cal) (a0 : SV) (k6 : SV × Unit → ER) (x2 : SV) (x47 : SV) (x48 : SV) (x49 : SV) : ER :=
  eFieldAddr Tryz.prog 40 x2 0 fun x50 => eLoad Tryz.prog 3 x50 fun x51 => eCallR Tryz.prog C 97 [a0, x51] 4 fun x52 => eCallR Tryz.prog C 71 [x52, (.int .i64 16)] 26 fun x53 => eBuildSlice Tryz.prog 164 4 [(0, x47), (1, x48), (2, x49), (3, x53)] fun x54 => eCallR Tryz.prog C 70 [x54] 26 fun x55 => eHas .any x55 (k6 (x55, ()))
noncomputable def kern_step_replaced_p8 (C : Cal) (k6 : SV × Unit → ER) (x47 : SV) (x48 : SV) (x49 : SV) : ER :=
  eCallR Tryz.prog C 71 [(.bool false), (.int .i64 16)] 26 fun x56 => eBuildSlice Tryz.prog 164 4 [(0, x47), (1, x48), (2, x49), (3, x56)] fun x57 => eCallR Tryz.prog C 70 [x57] 26 fun x58 => eHas .any x58 (k6 (x58, ()))
noncomputable def kern_step_replaced_p9 (C : Cal) (a0 : SV) (k6 : SV × Unit → ER) (x2 : SV) (x5 : SV) (x10 : SV) (x44 : SV) (x46 : SV) (x47 : SV) : ER :=
  eCallR Tryz.prog C 71 [x5, (.int .i64 21)] 26 fun x48 => fun H => eLoadF Tryz.prog 25 x10 x44 H && (eCallR Tryz.prog C 71 [x46, (.int .i64 39)] 26 fun x49 => eIfV x5
  (kern_step_replaced_p7 C a0 k6 x2 x47 x48 x49)
  (kern_step_replaced_p8 C k6 x47 x48 x49)) H
noncomputable def kern_step_replaced_p10 (C : Cal) (a0 : SV) (k6 : SV × Unit → ER) (x2 : SV) (x47 : SV) (x59 : SV) (x60 : SV) : ER :=
  eFieldAddr Tryz.prog 40 x2 0 fun x61 => eLoad Tryz.prog 3 x61 fun x62 => eCallR Tryz.prog C 97 [a0, x62] 4 fun x63 => eCallR Tryz.prog C 71 [x63, (.int .i64 16)] 26 fun x64 => eBuildSlice Tryz.prog 164 4 [(0, x47), (1, x59), (2, x60), (3, x64)] fun x65 => eCallR Tryz.prog C 70 [x65] 26 fun x66 => eHas .any x66 (k6 (x66, ()))
noncomputable def kern_step_replaced_p11 (C : Cal) (k6 : SV × Unit → ER) (x47 : SV) (x59 : SV) (x60 : SV) : ER :=
  eCallR Tryz.prog C 71 [(.bool false), (.int .i64 16)] 26 fun x67 => eBuildSlice Tryz.prog 164 4 [(0, x47), (1, x59), (2, x60), (3, x67)] fun x68 => eCallR Tryz.prog C 70 [x68] 26 fun x69 => eHas .any x69 (k6 (x69, ()))
noncomputable def kern_step_replaced_p12 (C : Cal) (a0 : SV) (k6 : SV × Unit → ER) (x2 : SV) (x5 : SV) (x10 : SV) (x44 : SV) (x46 : SV) (x47 : SV) : ER :=
  eCallR Tryz.prog C 71 [(.bool false), (.int .i64 21)] 26 fun x59 => fun H => eLoadF Tryz.prog 25 x10 x44 H && (eCallR Tryz.prog C 71 [x46, (.int .i64 39)] 26 fun x60 => eIfV x5
  (kern_step_replaced_p10 C a0 k6 x2 x47 x59 x60)
  (kern_step_replaced_p11 C k6 x47 x59 x60)) H
noncomputable def kern_step_replaced_p13 (C : Cal) (a0 : SV) (k6 : SV × Unit → ER) (x2 : SV) (x5 : SV) (x9 : SV) (x10 : SV) : ER :=
  eLoad Tryz.prog 3 x9 fun x42 => eBin Tryz.prog .neq 3 false x42 (.int .i64 2) fun x43 => eLoad Tryz.prog 25 x10 fun x44 => eLenS Tryz.prog [25] [x44] fun x45 => eBin Tryz.prog .gtr 3 false x45 (.int .i64 0) fun x46 => eCallR Tryz.prog C 71 [(.bool false), (.int .i64 20)] 26 fun x47 => fun H => eLoadF Tryz.prog 25 x10 x44 H && (fun H => eLoadF Tryz.prog 3 x9 x42 H && (eIfV x43
  (kern_step_replaced_p9 C a0 k6 x2 x5 x10 x44 x46 x47)
  (kern_step_replaced_p12 C a0 k6 x2 x5 x10 x44 x46 x47)) H) H
noncomputable def kern_step_replaced_p14 (C : Cal) (a0 : SV) (k6 : SV × Unit → ER) (x1 : SV) (x2 : SV) (x5 : SV) : ER :=
  eFieldAddr Tryz.prog 40 x1 2 fun x8 => eFieldAddr Tryz.prog 40 x1 2 fun x9 => eFieldAddr Tryz.prog 40 x2 8 fun x10 => eLoad Tryz.prog 3 x8 fun x11 => eBin Tryz.prog .eql 3 false x11 (.int .i64 2) fun x12 => eIfV x12
  (kern_step_replaced_p6 C a0 k6 x2 x5 x9 x10)
  (kern_step_replaced_p13 C a0 k6 x2 x5 x9 x10)
noncomputable def kern_step_replaced_e (C : Cal) (N : Nat) (a0 a1 a2 : SV) (K : SV → ER) : ER :=
  eBox Tryz.prog 40 a1 fun x1 => eBox Tryz.prog 40 a2 fun x2 => eFieldAddr Tryz.prog 40 x2 2 fun x3 => eLoad Tryz.prog 3 x3 fun x4 => eBin Tryz.prog .eql 3 false x4 (.int .i64 2) fun x5 => eJoinC (σ := SV × Unit) (fun (k6 : SV × Unit → ER) =>
  kern_step_replaced_p14 C a0 k6 x1 x2 x5) fun (s7 : SV × Unit) =>
  K s7.1
theorem kern_step_replaced_ee (C : Cal) (N : Nat) (a0 a1 a2 : SV) (K : SV → ER) : eBody Tryz.prog C N Tryz.f107 (Tryz.f107.body.getD .skip) kern_step_replaced_ea [a0, a1, a2] K = kern_step_replaced_e C N a0 a1 a2 K := by kernel_rfl
noncomputable def l107 : LeafT := fun C N args K => match args with
  | [a0, a1, a2] => kern_step_replaced_e C N a0 a1 a2 K
  | _ => eF
theorem lok107 : LeafOk Tryz.prog 107 l107 := ⟨Tryz.f107, Tryz.f107.body.getD .skip, kern_step_replaced_ea, Tryz.func107, by kernel_rfl, Tryz.call107, fun C N args K H e => by
  unfold l107 at e
  split at e
  · rw [kern_step_replaced_ee]; exact e
  · exact eF_no e⟩

/- (*halberd/kern.step).rename$2 -/
def kern_step_rename_2_ea : Ann := .join (.two (.none) (.two (.ord [7, 9, 0, 1, 2, 3, 4, 5, 6, 8, 10, 11]) (.none))) (.two (.ord [7, 9, 0, 1, 2, 3, 4, 5, 6, 8, 10, 11]) (.ord [7, 9, 11, 0, 1, 2, 3, 4, 5, 6, 8, 10, 12, 13])) []
noncomputable def kern_step_rename_2_p0 (C : Cal) (a1 : SV) (a2 : SV) (k1 : Unit → ER) : ER :=
  eFieldAddr Tryz.prog 113 a2 0 fun x4 => eFieldAddr Tryz.prog 113 a2 1 fun x5 => eLoad Tryz.prog 70 a1 fun x6 => eNilCk x6 fun x7 => eFieldAddr Tryz.prog 76 x7 1 fun x8 => eLoad Tryz.prog 23 x8 fun x9 => eNilCk x9 fun x10 => eFieldAddr Tryz.prog 58 x10 0 fun x11 => eLoad Tryz.prog 53 x11 fun x12 => eLoad Tryz.prog 3 x4 fun x13 => eLoad Tryz.prog 9 x5 fun x14 => eCallR Tryz.prog C 99 [x12, x13, x14] 130 fun x15 => k1 (())
noncomputable def kern_step_rename_2_p1 (C : Cal) (K : SV → ER) (a1 : SV) (a2 : SV) (a4 : SV) : ER :=
  eFieldAddr Tryz.prog 113 a2 0 fun x28 => eFieldAddr Tryz.prog 113 a2 1 fun x29 => eFieldAddr Tryz.prog 40 a4 0 fun x30 => eLoad Tryz.prog 70 a1 fun x31 => eNilCk x31 fun x32 => eFieldAddr Tryz.prog 76 x32 1 fun x33 => eLoad Tryz.prog 23 x33 fun x34 => eNilCk x34 fun x35 => eFieldAddr Tryz.prog 58 x35 0 fun x36 => eLoad Tryz.prog 53 x36 fun x37 => eLoad Tryz.prog 3 x28 fun x38 => eLoad Tryz.prog 9 x29 fun x39 => eLoad Tryz.prog 3 x30 fun x40 => eCallR Tryz.prog C 101 [x37, x38, x39, x40] 26 fun x41 => K (.tup [])
noncomputable def kern_step_rename_2_p2 (C : Cal) (K : SV → ER) (a1 : SV) (a2 : SV) (a3 : SV) (a4 : SV) : ER :=
  eFieldAddr Tryz.prog 113 a3 0 fun x16 => eFieldAddr Tryz.prog 113 a3 1 fun x17 => eLoad Tryz.prog 70 a1 fun x18 => eNilCk x18 fun x19 => eFieldAddr Tryz.prog 76 x19 1 fun x20 => eLoad Tryz.prog 23 x20 fun x21 => eNilCk x21 fun x22 => eFieldAddr Tryz.prog 58 x22 0 fun x23 => eLoad Tryz.prog 53 x23 fun x24 => eLoad Tryz.prog 3 x16 fun x25 => eLoad Tryz.prog 9 x17 fun x26 => eCallR Tryz.prog C 99 [x24, x25, x26] 130 fun x27 => kern_step_rename_2_p1 C K a1 a2 a4
noncomputable def kern_step_rename_2_e (C : Cal) (N : Nat) (a0 a1 a2 a3 a4 : SV) (K : SV → ER) : ER :=
  eJoinC (σ := Unit) (fun (k1 : Unit → ER) =>
  eLoad Tryz.prog 4 a0 fun x3 => eIfV x3
  (kern_step_rename_2_p0 C a1 a2 k1)
  (k1 (()))) fun (s2 : Unit) =>
  kern_step_rename_2_p2 C K a1 a2 a3 a4
theorem kern_step_rename_2_ee (C : Cal) (N : Nat) (a0 a1 a2 a3 a4 : SV) (K : SV → ER) : eBody Tryz.prog C N Tryz.f108 (Tryz.f108.body.getD .skip) kern_step_rename_2_ea [a0, a1, a2, a3, a4] K = kern_step_rename_2_e C N a0 a1 a2 a3 a4 K := by kernel_rfl
noncomputable def l108 : LeafT := fun C N args K => match args with
  | [a0, a1, a2, a3, a4] => kern_step_rename_2_e C N a0 a1 a2 a3 a4 K
  | _ => eF
theorem lok108 : LeafOk Tryz.prog 108 l108 := ⟨Tryz.f108, Tryz.f108.body.getD .skip, kern_step_rename_2_ea, Tryz.func108, by kernel_rfl, Tryz.call108, fun C N args K H e => by
  unfold l108 at e
  split at e
  · rw [kern_step_rename_2_ee]; exact e
  · exact eF_no e⟩

/- (*halberd/kern.step).readlink$1 -/
def kern_step_readlink_1_ea : Ann := .two (.none) (.two (.none) (.none))
noncomputable def kern_step_readlink_1_e (C : Cal) (N : Nat) (a0 : SV) (K : SV → ER) : ER :=
  eAlloc Tryz.prog 28 fun x1 => eFieldAddr Tryz.prog 40 a0 7 fun x2 => eLoad Tryz.prog 9 x2 fun x3 => eLenS Tryz.prog [9] [x3] fun x4 => eFieldAddr Tryz.prog 40 a0 7 fun x5 => eLoad Tryz.prog 9 x5 fun x6 => eBuild Tryz.prog 28 [(0, x4), (2, x6)] fun x7 => eStore Tryz.prog 28 x1 x7 <| eLoad Tryz.prog 28 x1 fun x8 => K x8
theorem kern_step_readlink_1_ee (C : Cal) (N : Nat) (a0 : SV) (K : SV → ER) : eBody Tryz.prog C N Tryz.f109 (Tryz.f109.body.getD .skip) kern_step_readlink_1_ea [a0] K = kern_step_readlink_1_e C N a0 K := by kernel_rfl
noncomputable def l109 : LeafT := fun C N args K => match args with
  | [a0] => kern_step_readlink_1_e C N a0 K
  | _ => eF
theorem lok109 : LeafOk Tryz.prog 109 l109 := ⟨Tryz.f109, Tryz.f109.body.getD .skip, kern_step_readlink_1_ea, Tryz.func109, by kernel_rfl, Tryz.call109, fun C N args K H e => by
  unfold l109 at e
  split at e
  · rw [kern_step_readlink_1_ee]; exact e
  · exact eF_no e⟩

/- (*halberd/kern.step).stat$1 -/
def kern_step_stat_1_ea : Ann := .two (.none) (.two (.none) (.none))
noncomputable def kern_step_stat_1_e (C : Cal) (N : Nat) (a0 : SV) (K : SV → ER) : ER :=
  eAlloc Tryz.prog 28 fun x1 => eLoad Tryz.prog 40 a0 fun x2 => eCallR Tryz.prog C 111 [x2] 9 fun x3 => eBuild Tryz.prog 28 [(2, x3)] fun x4 => eStore Tryz.prog 28 x1 x4 <| eLoad Tryz.prog 28 x1 fun x5 => K x5
theorem kern_step_stat_1_ee (C : Cal) (N : Nat) (a0 : SV) (K : SV → ER) : eBody Tryz.prog C N Tryz.f110 (Tryz.f110.body.getD .skip) kern_step_stat_1_ea [a0] K = kern_step_stat_1_e C N a0 K := by kernel_rfl
noncomputable def l110 : LeafT := fun C N args K => match args with
  | [a0] => kern_step_stat_1_e C N a0 K
  | _ => eF
theorem lok110 : LeafOk Tryz.prog 110 l110 := ⟨Tryz.f110, Tryz.f110.body.getD .skip, kern_step_stat_1_ea, Tryz.func110, by kernel_rfl, Tryz.call110, fun C N args K H e => by
  unfold l110 at e
  split at e
  · rw [kern_step_stat_1_ee]; exact e
  · exact eF_no e⟩

/- halberd/perms.Stat -/
def perms_Stat_ea : Ann := .two (.none) (.two (.none) (.join (.two (.none) (.two (.none) (.none))) (.two (.none) (.two (.two (.none) (.sub (.loop [(4, .any), (31, .any)] (.two (.none) (.two (.two (.none) (.none)) (.two (.sub (.two (.none) (.none))) (.none))))))) (.two (.none) (.none)))) [(3, .any)]))
noncomputable def perms_Stat_p0 (C : Cal) (k27 : SV × SV × Unit → ER) (s28 : SV × SV × Unit) (x25 : SV) : ER :=
  eIndexAddrS Tryz.prog 38 x25 s28.2.1 fun x30 => eLoad Tryz.prog 3 x30 fun x31 => eCallR Tryz.prog C 177 [x31] 9 fun x32 => eBuildSlice Tryz.prog 25 1 [(0, x32)] fun x33 => eApp Tryz.prog [25, 25] [s28.1, x33] fun x34 => eBin Tryz.prog .add 3 false s28.2.1 (.int .i64 1) fun x35 => eHas .any x34 (eHas .any x35 (k27 (x34, x35, ())))
noncomputable def perms_Stat_p1 (C : Cal) (K : SV → ER) (N : Nat) (s6 : SV × Unit) (x14 : SV) (x16 : SV) (x18 : SV) (x20 : SV) (x22 : SV) (x23 : SV) : ER :=
  eLoad Tryz.prog 3 x23 fun x24 => eBuildSlice Tryz.prog 38 7 [(0, x14), (1, x16), (2, x18), (3, x20), (4, x22), (5, x24), (6, s6.1)] fun x25 => eLenS Tryz.prog [38] [x25] fun x26 => eHas .any (.sl ⟨none, 0, .lit 0⟩) (eHas .any (.int .i64 0) (eIter (σ := SV × SV × Unit) (fun (s28 : SV × SV × Unit) (k27 : SV × SV × Unit → ER) =>
  eBin Tryz.prog .lss 3 false s28.2.1 x26 fun x29 => eIfV x29
  (perms_Stat_p0 C k27 s28 x25)
  (eCallR Tryz.prog C 178 [s28.1, (.str [32])] 9 fun x36 => K x36)) N ((.sl ⟨none, 0, .lit 0⟩), (.int .i64 0), ())))
noncomputable def perms_Stat_p2 (k5 : SV × Unit → ER) (x1 : SV) (x4 : SV) : ER :=
  eFieldAddr Tryz.prog 40 x1 2 fun x7 => eLoad Tryz.prog 3 x7 fun x8 => eBin Tryz.prog .eql 3 false x8 (.int .i64 2) fun x9 => eIfV x9
  (eFieldAddr Tryz.prog 40 x1 8 fun x10 => eLoad Tryz.prog 25 x10 fun x11 => eLenS Tryz.prog [25] [x11] fun x12 => eHas .any x12 (k5 (x12, ())))
  (eHas .any x4 (k5 (x4, ())))
noncomputable def perms_Stat_p3 (C : Cal) (K : SV → ER) (N : Nat) (s6 : SV × Unit) (x1 : SV) : ER :=
  eFieldAddr Tryz.prog 40 x1 0 fun x13 => eLoad Tryz.prog 3 x13 fun x14 => eFieldAddr Tryz.prog 40 x1 2 fun x15 => eLoad Tryz.prog 3 x15 fun x16 => eFieldAddr Tryz.prog 40 x1 3 fun x17 => eLoad Tryz.prog 3 x17 fun x18 => eFieldAddr Tryz.prog 40 x1 4 fun x19 => eLoad Tryz.prog 3 x19 fun x20 => eFieldAddr Tryz.prog 40 x1 5 fun x21 => eLoad Tryz.prog 3 x21 fun x22 => eFieldAddr Tryz.prog 40 x1 6 fun x23 => perms_Stat_p1 C K N s6 x14 x16 x18 x20 x22 x23
noncomputable def perms_Stat_e (C : Cal) (N : Nat) (a0 : SV) (K : SV → ER) : ER :=
  eBox Tryz.prog 40 a0 fun x1 => eFieldAddr Tryz.prog 40 x1 7 fun x2 => eLoad Tryz.prog 9 x2 fun x3 => eLenS Tryz.prog [9] [x3] fun x4 => eJoinC (σ := SV × Unit) (fun (k5 : SV × Unit → ER) =>
  perms_Stat_p2 k5 x1 x4) fun (s6 : SV × Unit) =>
  perms_Stat_p3 C K N s6 x1
theorem perms_Stat_ee (C : Cal) (N : Nat) (a0 : SV) (K : SV → ER) : eBody Tryz.prog C N Tryz.f111 (Tryz.f111.body.getD .skip) perms_Stat_ea [a0] K = perms_Stat_e C N a0 K := by kernel_rfl
noncomputable def l111 : LeafT := fun C N args K => match args with
  | [a0] => perms_Stat_e C N a0 K
  | _ => eF
theorem lok111 : LeafOk Tryz.prog 111 l111 := ⟨Tryz.f111, Tryz.f111.body.getD .skip, perms_Stat_ea, Tryz.func111, by kernel_rfl, Tryz.call111, fun C N args K H e => by
  unfold l111 at e
  split at e
  · rw [perms_Stat_ee]; exact e
  · exact eF_no e⟩

/- halberd/perms.Owner -/
def perms_Owner_ea : Ann := .two (.none) (.join (.none) (.none) [(4, .any)])
noncomputable def perms_Owner_p0 (a0 : SV) (k2 : SV × Unit → ER) (x1 : SV) : ER :=
  eBin Tryz.prog .eql 3 false a0 (.int .i64 0) fun x4 => eIfV x4
  (eHas .any (.bool true) (k2 ((.bool true), ())))
  (eFieldAddr Tryz.prog 40 x1 4 fun x5 => eLoad Tryz.prog 3 x5 fun x6 => eBin Tryz.prog .eql 3 false a0 x6 fun x7 => eHas .any x7 (k2 (x7, ())))
noncomputable def perms_Owner_e (C : Cal) (N : Nat) (a0 a1 : SV) (K : SV → ER) : ER :=
  eBox Tryz.prog 40 a1 fun x1 => eJoinC (σ := SV × Unit) (fun (k2 : SV × Unit → ER) =>
  perms_Owner_p0 a0 k2 x1) fun (s3 : SV × Unit) =>
  K s3.1
theorem perms_Owner_ee (C : Cal) (N : Nat) (a0 a1 : SV) (K : SV → ER) : eBody Tryz.prog C N Tryz.f112 (Tryz.f112.body.getD .skip) perms_Owner_ea [a0, a1] K = perms_Owner_e C N a0 a1 K := by kernel_rfl
noncomputable def l112 : LeafT := fun C N args K => match args with
  | [a0, a1] => perms_Owner_e C N a0 a1 K
  | _ => eF
theorem lok112 : LeafOk Tryz.prog 112 l112 := ⟨Tryz.f112, Tryz.f112.body.getD .skip, perms_Owner_ea, Tryz.func112, by kernel_rfl, Tryz.call112, fun C N args K H e => by
  unfold l112 at e
  split at e
  · rw [perms_Owner_ee]; exact e
  · exact eF_no e⟩

/- (*halberd/kern.step).attr -/
def kern_step_attr_ea : Ann := .two (.none) (.two (.none) (.two (.none) (.none)))
noncomputable def kern_step_attr_e (C : Cal) (N : Nat) (a0 a1 a2 a3 a4 a5 : SV) (K : SV → ER) : ER :=
  eCallR Tryz.prog C 75 [a0, a1] 126 fun x1 => eCallR Tryz.prog C 76 [a2] 126 fun x2 => eCallR Tryz.prog C 76 [a3] 126 fun x3 => eCallR Tryz.prog C 76 [a4] 126 fun x4 => eBuildSlice Tryz.prog 166 4 [(0, x1), (1, x2), (2, x3), (3, x4)] fun x5 => eCallR Tryz.prog C 74 [a0, (.int .i64 7), x5] 0 fun x6 => eCallR Tryz.prog C 86 [a0, a5] 26 fun x7 => K x7
theorem kern_step_attr_ee (C : Cal) (N : Nat) (a0 a1 a2 a3 a4 a5 : SV) (K : SV → ER) : eBody Tryz.prog C N Tryz.f113 (Tryz.f113.body.getD .skip) kern_step_attr_ea [a0, a1, a2, a3, a4, a5] K = kern_step_attr_e C N a0 a1 a2 a3 a4 a5 K := by kernel_rfl
noncomputable def l113 : LeafT := fun C N args K => match args with
  | [a0, a1, a2, a3, a4, a5] => kern_step_attr_e C N a0 a1 a2 a3 a4 a5 K
  | _ => eF
theorem lok113 : LeafOk Tryz.prog 113 l113 := ⟨Tryz.f113, Tryz.f113.body.getD .skip, kern_step_attr_ea, Tryz.func113, by kernel_rfl, Tryz.call113, fun C N args K H e => by
  unfold l113 at e
  split at e
  · rw [kern_step_attr_ee]; exact e
  · exact eF_no e⟩

/- (*halberd/kern.step).chmod$1 -/
def kern_step_chmod_1_ea : Ann := .ord [7, 14, 16, 0, 1, 2, 3, 4, 5, 6, 8, 9, 10, 11, 12, 13, 15, 17, 18]
noncomputable def kern_step_chmod_1_p0 (C : Cal) (K : SV → ER) (a0 : SV) (x1 : SV) (x2 : SV) (x3 : SV) (x5 : SV) : ER :=
  eFieldAddr Tryz.prog 76 x5 1 fun x6 => eLoad Tryz.prog 23 x6 fun x7 => eNilCk x7 fun x8 => eFieldAddr Tryz.prog 58 x8 0 fun x9 => eLoad Tryz.prog 53 x9 fun x10 => eLoad Tryz.prog 3 x1 fun x11 => eLoad Tryz.prog 70 a0 fun x12 => eNilCk x12 fun x13 => eFieldAddr Tryz.prog 76 x13 0 fun x14 => eFieldAddr Tryz.prog 31 x14 2 fun x15 => eLoad Tryz.prog 3 x15 fun x16 => eLoad Tryz.prog 3 x2 fun x17 => eLoad Tryz.prog 3 x3 fun x18 => eCallR Tryz.prog C 115 [x10, x11, x16, x17, x18] 26 fun x19 => K (.tup [])
noncomputable def kern_step_chmod_1_e (C : Cal) (N : Nat) (a0 a1 : SV) (K : SV → ER) : ER :=
  eFieldAddr Tryz.prog 40 a1 0 fun x1 => eFieldAddr Tryz.prog 40 a1 4 fun x2 => eFieldAddr Tryz.prog 40 a1 5 fun x3 => eLoad Tryz.prog 70 a0 fun x4 => eNilCk x4 fun x5 => kern_step_chmod_1_p0 C K a0 x1 x2 x3 x5
theorem kern_step_chmod_1_ee (C : Cal) (N : Nat) (a0 a1 : SV) (K : SV → ER) : eBody Tryz.prog C N Tryz.f114 (Tryz.f114.body.getD .skip) kern_step_chmod_1_ea [a0, a1] K = kern_step_chmod_1_e C N a0 a1 K := by kernel_rfl
noncomputable def l114 : LeafT := fun C N args K => match args with
  | [a0, a1] => kern_step_chmod_1_e C N a0 a1 K
  | _ => eF
theorem lok114 : LeafOk Tryz.prog 114 l114 := ⟨Tryz.f114, Tryz.f114.body.getD .skip, kern_step_chmod_1_ea, Tryz.func114, by kernel_rfl, Tryz.call114, fun C N args K H e => by
  unfold l114 at e
  split at e
  · rw [kern_step_chmod_1_ee]; exact e
  · exact eF_no e⟩

end Go.Proofs.YtnpcjhcgbcpcoaaGreatDoor

set_option linter.unusedVariables false
set_option maxRecDepth 100000
namespace Go.Proofs.YtnpcjhcgbcpcoaaGreatDoor
open Go.Hl
/- (*halberd/inodes.Table).Own -/
def inodes_Table_Own_ea : Ann := .two (.none) (.two (.none) (.two (.two (.none) (.two (.two (.none) (.none)) (.none))) (.two (.none) (.two (.none) (.none)))))
noncomputable def inodes_Table_Own_p0 (K : SV → ER) (a2 : SV) (a3 : SV) (a4 : SV) (x1 : SV) : ER :=
  eNilCk x1 fun x3 => eFieldAddr Tryz.prog 40 x3 3 fun x4 => eStore Tryz.prog 3 x4 a2 <| eNilCk x1 fun x5 => eFieldAddr Tryz.prog 40 x5 4 fun x6 => eStore Tryz.prog 3 x6 a3 <| eNilCk x1 fun x7 => eFieldAddr Tryz.prog 40 x7 5 fun x8 => eStore Tryz.prog 3 x8 a4 <| K (.int .i64 0)
noncomputable def inodes_Table_Own_e (C : Cal) (N : Nat) (a0 a1 a2 a3 a4 : SV) (K : SV → ER) : ER :=
  eCallR Tryz.prog C 25 [a0, a1] 91 fun x1 => eBin Tryz.prog .eql 91 true x1 (.ptr none) fun x2 => eIfV x2
  (K (.int .i64 2))
  (inodes_Table_Own_p0 K a2 a3 a4 x1)
theorem inodes_Table_Own_ee (C : Cal) (N : Nat) (a0 a1 a2 a3 a4 : SV) (K : SV → ER) : eBody Tryz.prog C N Tryz.f115 (Tryz.f115.body.getD .skip) inodes_Table_Own_ea [a0, a1, a2, a3, a4] K = inodes_Table_Own_e C N a0 a1 a2 a3 a4 K := by kernel_rfl
noncomputable def l115 : LeafT := fun C N args K => match args with
  | [a0, a1, a2, a3, a4] => inodes_Table_Own_e C N a0 a1 a2 a3 a4 K
  | _ => eF
theorem lok115 : LeafOk Tryz.prog 115 l115 := ⟨Tryz.f115, Tryz.f115.body.getD .skip, inodes_Table_Own_ea, Tryz.func115, by kernel_rfl, Tryz.call115, fun C N args K H e => by
  unfold l115 at e
  split at e
  · rw [inodes_Table_Own_ee]; exact e
  · exact eF_no e⟩

/- (*halberd/kern.step).chown$1 -/
def kern_step_chown_1_ea : Ann := .ord [7, 9, 0, 1, 2, 3, 4, 5, 6, 8, 10, 11, 12, 13, 14, 15, 16, 17, 18, 19, 20, 21]
noncomputable def kern_step_chown_1_p0 (C : Cal) (K : SV → ER) (a0 : SV) (x1 : SV) (x2 : SV) (x8 : SV) : ER :=
  eLoad Tryz.prog 53 x8 fun x9 => eLoad Tryz.prog 3 x1 fun x10 => eLoad Tryz.prog 3 x2 fun x11 => eLoad Tryz.prog 70 a0 fun x12 => eNilCk x12 fun x13 => eFieldAddr Tryz.prog 76 x13 0 fun x14 => eFieldAddr Tryz.prog 31 x14 2 fun x15 => eLoad Tryz.prog 3 x15 fun x16 => eLoad Tryz.prog 70 a0 fun x17 => eNilCk x17 fun x18 => eFieldAddr Tryz.prog 76 x18 0 fun x19 => eFieldAddr Tryz.prog 31 x19 3 fun x20 => eLoad Tryz.prog 3 x20 fun x21 => eCallR Tryz.prog C 115 [x9, x10, x11, x16, x21] 26 fun x22 => K (.tup [])
noncomputable def kern_step_chown_1_e (C : Cal) (N : Nat) (a0 a1 : SV) (K : SV → ER) : ER :=
  eFieldAddr Tryz.prog 40 a1 0 fun x1 => eFieldAddr Tryz.prog 40 a1 3 fun x2 => eLoad Tryz.prog 70 a0 fun x3 => eNilCk x3 fun x4 => eFieldAddr Tryz.prog 76 x4 1 fun x5 => eLoad Tryz.prog 23 x5 fun x6 => eNilCk x6 fun x7 => eFieldAddr Tryz.prog 58 x7 0 fun x8 => kern_step_chown_1_p0 C K a0 x1 x2 x8
theorem kern_step_chown_1_ee (C : Cal) (N : Nat) (a0 a1 : SV) (K : SV → ER) : eBody Tryz.prog C N Tryz.f116 (Tryz.f116.body.getD .skip) kern_step_chown_1_ea [a0, a1] K = kern_step_chown_1_e C N a0 a1 K := by kernel_rfl
noncomputable def l116 : LeafT := fun C N args K => match args with
  | [a0, a1] => kern_step_chown_1_e C N a0 a1 K
  | _ => eF
theorem lok116 : LeafOk Tryz.prog 116 l116 := ⟨Tryz.f116, Tryz.f116.body.getD .skip, kern_step_chown_1_ea, Tryz.func116, by kernel_rfl, Tryz.call116, fun C N args K H e => by
  unfold l116 at e
  split at e
  · rw [kern_step_chown_1_ee]; exact e
  · exact eF_no e⟩

/- (*halberd/kern.step).truncate$1 -/
def kern_step_truncate_1_ea : Ann := .ord [7, 9, 16, 0, 1, 2, 3, 4, 5, 6, 8, 10, 11, 12, 13, 14, 15, 17, 18, 19, 22, 23, 24, 25, 26, 20, 21, 27, 28]
noncomputable def kern_step_truncate_1_p0 (C : Cal) (K : SV → ER) (a0 : SV) (x1 : SV) (x2 : SV) (x4 : SV) (x6 : SV) (x7 : SV) (x9 : SV) (x10 : SV) (x11 : SV) (x12 : SV) (x20 : SV) (x21 : SV) (x24 : SV) (x25 : SV) : ER :=
  eCallR Tryz.prog C 92 [x20] 9 fun x26 => fun H => eLoadF Tryz.prog 3 x24 x25 H && (fun H => eLoadF Tryz.prog 70 a0 x21 H && (fun H => eLoadF Tryz.prog 9 x2 x12 H && (fun H => eLoadF Tryz.prog 3 x1 x11 H && (fun H => eLoadF Tryz.prog 53 x9 x10 H && (fun H => eLoadF Tryz.prog 23 x6 x7 H && (fun H => eLoadF Tryz.prog 70 a0 x4 H && (eBin Tryz.prog .add 9 false x12 x26 fun x27 => eSliceS Tryz.prog 9 x27 none (some (.v x25)) none fun x28 => eCallR Tryz.prog C 79 [x10, x11, x28] 26 fun x29 => K (.tup [])) H) H) H) H) H) H) H
noncomputable def kern_step_truncate_1_p1 (C : Cal) (K : SV → ER) (a0 : SV) (x1 : SV) (x2 : SV) (x3 : SV) (x4 : SV) (x6 : SV) (x7 : SV) (x9 : SV) (x10 : SV) (x11 : SV) (x12 : SV) : ER :=
  eLoad Tryz.prog 70 a0 fun x13 => eNilCk x13 fun x14 => eFieldAddr Tryz.prog 76 x14 0 fun x15 => eFieldAddr Tryz.prog 31 x15 2 fun x16 => eLoad Tryz.prog 3 x16 fun x17 => eLoad Tryz.prog 9 x3 fun x18 => eLenS Tryz.prog [9] [x18] fun x19 => eBin Tryz.prog .sub 3 false x17 x19 fun x20 => eLoad Tryz.prog 70 a0 fun x21 => eNilCk x21 fun x22 => eFieldAddr Tryz.prog 76 x22 0 fun x23 => eFieldAddr Tryz.prog 31 x23 2 fun x24 => eLoad Tryz.prog 3 x24 fun x25 => kern_step_truncate_1_p0 C K a0 x1 x2 x4 x6 x7 x9 x10 x11 x12 x20 x21 x24 x25
noncomputable def kern_step_truncate_1_e (C : Cal) (N : Nat) (a0 a1 : SV) (K : SV → ER) : ER :=
  eFieldAddr Tryz.prog 40 a1 0 fun x1 => eFieldAddr Tryz.prog 40 a1 7 fun x2 => eFieldAddr Tryz.prog 40 a1 7 fun x3 => eLoad Tryz.prog 70 a0 fun x4 => eNilCk x4 fun x5 => eFieldAddr Tryz.prog 76 x5 1 fun x6 => eLoad Tryz.prog 23 x6 fun x7 => eNilCk x7 fun x8 => eFieldAddr Tryz.prog 58 x8 0 fun x9 => eLoad Tryz.prog 53 x9 fun x10 => eLoad Tryz.prog 3 x1 fun x11 => eLoad Tryz.prog 9 x2 fun x12 => kern_step_truncate_1_p1 C K a0 x1 x2 x3 x4 x6 x7 x9 x10 x11 x12
theorem kern_step_truncate_1_ee (C : Cal) (N : Nat) (a0 a1 : SV) (K : SV → ER) : eBody Tryz.prog C N Tryz.f117 (Tryz.f117.body.getD .skip) kern_step_truncate_1_ea [a0, a1] K = kern_step_truncate_1_e C N a0 a1 K := by kernel_rfl
noncomputable def l117 : LeafT := fun C N args K => match args with
  | [a0, a1] => kern_step_truncate_1_e C N a0 a1 K
  | _ => eF
theorem lok117 : LeafOk Tryz.prog 117 l117 := ⟨Tryz.f117, Tryz.f117.body.getD .skip, kern_step_truncate_1_ea, Tryz.func117, by kernel_rfl, Tryz.call117, fun C N args K H e => by
  unfold l117 at e
  split at e
  · rw [kern_step_truncate_1_ee]; exact e
  · exact eF_no e⟩

/- (*halberd/kern.step).chdir$1 -/
def kern_step_chdir_1_ea : Ann := .ord [12, 0, 1, 2, 3, 4, 5, 6, 7, 8, 9, 10, 11, 13, 14]
noncomputable def kern_step_chdir_1_e (C : Cal) (N : Nat) (a0 a1 : SV) (K : SV → ER) : ER :=
  eFieldAddr Tryz.prog 40 a1 0 fun x1 => eLoad Tryz.prog 70 a0 fun x2 => eNilCk x2 fun x3 => eFieldAddr Tryz.prog 76 x3 1 fun x4 => eLoad Tryz.prog 23 x4 fun x5 => eNilCk x5 fun x6 => eFieldAddr Tryz.prog 58 x6 1 fun x7 => eLoad Tryz.prog 55 x7 fun x8 => eLoad Tryz.prog 70 a0 fun x9 => eNilCk x9 fun x10 => eFieldAddr Tryz.prog 76 x10 2 fun x11 => eFieldAddr Tryz.prog 50 x11 0 fun x12 => eLoad Tryz.prog 3 x12 fun x13 => eLoad Tryz.prog 3 x1 fun x14 => eCallR Tryz.prog C 119 [x8, x13, x14] 26 fun x15 => K (.tup [])
theorem kern_step_chdir_1_ee (C : Cal) (N : Nat) (a0 a1 : SV) (K : SV → ER) : eBody Tryz.prog C N Tryz.f118 (Tryz.f118.body.getD .skip) kern_step_chdir_1_ea [a0, a1] K = kern_step_chdir_1_e C N a0 a1 K := by kernel_rfl
noncomputable def l118 : LeafT := fun C N args K => match args with
  | [a0, a1] => kern_step_chdir_1_e C N a0 a1 K
  | _ => eF
theorem lok118 : LeafOk Tryz.prog 118 l118 := ⟨Tryz.f118, Tryz.f118.body.getD .skip, kern_step_chdir_1_ea, Tryz.func118, by kernel_rfl, Tryz.call118, fun C N args K H e => by
  unfold l118 at e
  split at e
  · rw [kern_step_chdir_1_ee]; exact e
  · exact eF_no e⟩

/- (*halberd/tasks.Table).Chdir -/
def tasks_Table_Chdir_ea : Ann := .two (.none) (.two (.none) (.none))
noncomputable def tasks_Table_Chdir_e (C : Cal) (N : Nat) (a0 a1 a2 : SV) (K : SV → ER) : ER :=
  eBox Tryz.prog 3 a2 fun x1 => eCallR Tryz.prog C 179 [a0, a1, (.fn 180 [] [x1])] 26 fun x2 => K x2
theorem tasks_Table_Chdir_ee (C : Cal) (N : Nat) (a0 a1 a2 : SV) (K : SV → ER) : eBody Tryz.prog C N Tryz.f119 (Tryz.f119.body.getD .skip) tasks_Table_Chdir_ea [a0, a1, a2] K = tasks_Table_Chdir_e C N a0 a1 a2 K := by kernel_rfl
noncomputable def l119 : LeafT := fun C N args K => match args with
  | [a0, a1, a2] => tasks_Table_Chdir_e C N a0 a1 a2 K
  | _ => eF
theorem lok119 : LeafOk Tryz.prog 119 l119 := ⟨Tryz.f119, Tryz.f119.body.getD .skip, tasks_Table_Chdir_ea, Tryz.func119, by kernel_rfl, Tryz.call119, fun C N args K H e => by
  unfold l119 at e
  split at e
  · rw [tasks_Table_Chdir_ee]; exact e
  · exact eF_no e⟩

/- (*halberd/tasks.Table).Copy -/
def tasks_Table_Copy_ea : Ann := .two (.none) (.two (.two (.none) (.two (.two (.none) (.none)) (.none))) (.two (.none) (.two (.none) (.none))))
noncomputable def tasks_Table_Copy_e (C : Cal) (N : Nat) (a0 : SV) (K : SV → ER) : ER :=
  eBin Tryz.prog .eql 55 true a0 (.ptr none) fun x1 => eIfV x1
  (K (.ptr none))
  (eNilCk a0 fun x2 => eLoad Tryz.prog 69 x2 fun x3 => eAlloc Tryz.prog 69 fun x4 => eStore Tryz.prog 69 x4 x3 <| K x4)
theorem tasks_Table_Copy_ee (C : Cal) (N : Nat) (a0 : SV) (K : SV → ER) : eBody Tryz.prog C N Tryz.f120 (Tryz.f120.body.getD .skip) tasks_Table_Copy_ea [a0] K = tasks_Table_Copy_e C N a0 K := by kernel_rfl
noncomputable def l120 : LeafT := fun C N args K => match args with
  | [a0] => tasks_Table_Copy_e C N a0 K
  | _ => eF
theorem lok120 : LeafOk Tryz.prog 120 l120 := ⟨Tryz.f120, Tryz.f120.body.getD .skip, tasks_Table_Copy_ea, Tryz.func120, by kernel_rfl, Tryz.call120, fun C N args K H e => by
  unfold l120 at e
  split at e
  · rw [tasks_Table_Copy_ee]; exact e
  · exact eF_no e⟩

/- (*halberd/tasks.Table).Fork -/
def tasks_Table_Fork_ea : Ann := .two (.none) (.two (.none) (.two (.two (.none) (.two (.two (.none) (.none)) (.none))) (.two (.none) (.two (.sub (.two (.none) (.two (.two (.none) (.none)) (.two (.ord [0, 2, 3, 4, 1, 5, 6, 7, 8]) (.two (.two (.none) (.none)) (.none)))))) (.two (.none) (.two (.ord [0, 1, 2, 3, 4, 5, 6, 9, 10, 7, 8, 11, 12, 13, 14, 15, 16, 17, 18, 19]) (.two (.ord [0, 1, 3, 4, 2, 5, 6]) (.two (.none) (.none)))))))))
noncomputable def tasks_Table_Fork_p0 (K : SV → ER) (a0 : SV) (a1 : SV) (x3 : SV) (x13 : SV) (x17 : SV) (x19 : SV) (x20 : SV) : ER :=
  fun H => eLoadF Tryz.prog 3 x17 x19 H && (eFieldAddr Tryz.prog 50 x13 1 fun x21 => eStore Tryz.prog 3 x21 x20 <| eFieldAddr Tryz.prog 50 x13 2 fun x22 => eStore Tryz.prog 3 x22 a1 <| eFieldAddr Tryz.prog 50 x13 10 fun x23 => eStore Tryz.prog 42 x23 (.int .u64 0) <| eFieldAddr Tryz.prog 50 x13 7 fun x24 => eStore Tryz.prog 3 x24 (.int .i64 0) <| eNilCk a0 fun x25 => eFieldAddr Tryz.prog 69 x25 0 fun x26 => eLoad Tryz.prog 50 x13 fun x27 => eIndexAddrS Tryz.prog 67 x26 x3 fun x28 => eStore Tryz.prog 50 x28 x27 <| K (.tup [x3, (.int .i64 0)])) H
noncomputable def tasks_Table_Fork_p1 (K : SV → ER) (a0 : SV) (a1 : SV) (x1 : SV) (x3 : SV) : ER :=
  eNilCk x1 fun x11 => eLoad Tryz.prog 50 x11 fun x12 => eAlloc Tryz.prog 50 fun x13 => eStore Tryz.prog 50 x13 x12 <| eNilCk a0 fun x14 => eFieldAddr Tryz.prog 69 x14 0 fun x15 => eIndexAddrS Tryz.prog 67 x15 x3 fun x16 => eFieldAddr Tryz.prog 50 x16 1 fun x17 => eFieldAddr Tryz.prog 50 x13 0 fun x18 => eLoad Tryz.prog 3 x17 fun x19 => eBin Tryz.prog .add 3 false x19 (.int .i64 1) fun x20 => eStore Tryz.prog 3 x18 x3 <| tasks_Table_Fork_p0 K a0 a1 x3 x13 x17 x19 x20
noncomputable def tasks_Table_Fork_p2 (C : Cal) (K : SV → ER) (a0 : SV) (a1 : SV) (x1 : SV) (x3 : SV) : ER :=
  eNilCk x1 fun x5 => eLoad Tryz.prog 50 x5 fun x6 => eCallR Tryz.prog C 155 [a0] 3 fun x7 => fun H => eLoadF Tryz.prog 50 x5 x6 H && (eCallR Tryz.prog C 181 [x6] 3 fun x8 => eBin Tryz.prog .add 3 false x7 x8 fun x9 => eBin Tryz.prog .gtr 3 false x9 (.int .i64 16) fun x10 => eIfV x10
  (K (.tup [(.int .i64 0), (.int .i64 23)]))
  (tasks_Table_Fork_p1 K a0 a1 x1 x3)) H
noncomputable def tasks_Table_Fork_e (C : Cal) (N : Nat) (a0 a1 : SV) (K : SV → ER) : ER :=
  eCallR Tryz.prog C 58 [a0, a1] 94 fun x1 => eBin Tryz.prog .eql 94 true x1 (.ptr none) fun x2 => eIfV x2
  (K (.tup [(.int .i64 0), (.int .i64 3)]))
  (eCallR Tryz.prog C 122 [a0] 3 fun x3 => eBin Tryz.prog .eql 3 false x3 (.int .i64 0) fun x4 => eIfV x4
  (K (.tup [(.int .i64 0), (.int .i64 11)]))
  (tasks_Table_Fork_p2 C K a0 a1 x1 x3))
theorem tasks_Table_Fork_ee (C : Cal) (N : Nat) (a0 a1 : SV) (K : SV → ER) : eBody Tryz.prog C N Tryz.f121 (Tryz.f121.body.getD .skip) tasks_Table_Fork_ea [a0, a1] K = tasks_Table_Fork_e C N a0 a1 K := by kernel_rfl
noncomputable def l121 : LeafT := fun C N args K => match args with
  | [a0, a1] => tasks_Table_Fork_e C N a0 a1 K
  | _ => eF
theorem lok121 : LeafOk Tryz.prog 121 l121 := ⟨Tryz.f121, Tryz.f121.body.getD .skip, tasks_Table_Fork_ea, Tryz.func121, by kernel_rfl, Tryz.call121, fun C N args K H e => by
  unfold l121 at e
  split at e
  · rw [tasks_Table_Fork_ee]; exact e
  · exact eF_no e⟩

/- (*halberd/tasks.Table).Next -/
def tasks_Table_Next_ea : Ann := .two (.none) (.two (.two (.none) (.sub (.loop [(3, .any)] (.two (.join (.none) (.two (.none) (.none)) [(9, .any)]) (.two (.sub (.two (.none) (.two (.two (.none) (.none)) (.none)))) (.none)))))) (.two (.none) (.none)))
noncomputable def tasks_Table_Next_p0 (K : SV → ER) (a0 : SV) (k1 : SV × Unit → ER) (s2 : SV × Unit) : ER :=
  eNilCk a0 fun x7 => eFieldAddr Tryz.prog 69 x7 0 fun x8 => eIndexAddrS Tryz.prog 67 x8 s2.1 fun x9 => eFieldAddr Tryz.prog 50 x9 0 fun x10 => eLoad Tryz.prog 3 x10 fun x11 => eBin Tryz.prog .eql 3 false x11 (.int .i64 0) fun x12 => eIfV x12
  (K s2.1)
  (eBin Tryz.prog .add 3 false s2.1 (.int .i64 1) fun x13 => eHas .any x13 (k1 (x13, ())))
noncomputable def tasks_Table_Next_p1 (K : SV → ER) (a0 : SV) (k1 : SV × Unit → ER) (s2 : SV × Unit) : ER :=
  eJoinC (σ := SV × Unit) (fun (k3 : SV × Unit → ER) =>
  eBin Tryz.prog .neq 55 true a0 (.ptr none) fun x5 => eIfV x5
  (eBin Tryz.prog .leq 3 false s2.1 (.int .i64 8) fun x6 => eHas .any x6 (k3 (x6, ())))
  (eHas .any (.bool false) (k3 ((.bool false), ())))) fun (s4 : SV × Unit) =>
  eIfV s4.1
  (tasks_Table_Next_p0 K a0 k1 s2)
  (K (.int .i64 0))
noncomputable def tasks_Table_Next_e (C : Cal) (N : Nat) (a0 : SV) (K : SV → ER) : ER :=
  eHas .any (.int .i64 1) (eIter (σ := SV × Unit) (fun (s2 : SV × Unit) (k1 : SV × Unit → ER) =>
  tasks_Table_Next_p1 K a0 k1 s2) N ((.int .i64 1), ()))
theorem tasks_Table_Next_ee (C : Cal) (N : Nat) (a0 : SV) (K : SV → ER) : eBody Tryz.prog C N Tryz.f122 (Tryz.f122.body.getD .skip) tasks_Table_Next_ea [a0] K = tasks_Table_Next_e C N a0 K := by kernel_rfl
noncomputable def l122 : LeafT := fun C N args K => match args with
  | [a0] => tasks_Table_Next_e C N a0 K
  | _ => eF
theorem lok122 : LeafOk Tryz.prog 122 l122 := ⟨Tryz.f122, Tryz.f122.body.getD .skip, tasks_Table_Next_ea, Tryz.func122, by kernel_rfl, Tryz.call122, fun C N args K H e => by
  unfold l122 at e
  split at e
  · rw [tasks_Table_Next_ee]; exact e
  · exact eF_no e⟩

end Go.Proofs.YtnpcjhcgbcpcoaaGreatDoor

set_option linter.unusedVariables false
set_option maxRecDepth 100000
namespace Go.Proofs.YtnpcjhcgbcpcoaaGreatDoor
open Go.Hl
/- (*halberd/kern.step).fork$1 -/
def kern_step_fork_1_ea : Ann := .two (.none) (.two (.ord [0, 1, 2, 3, 4, 5, 6, 7, 8, 9, 10, 11, 12, 13, 14, 15, 16]) (.none))
noncomputable def kern_step_fork_1_e (C : Cal) (N : Nat) (a0 : SV) (K : SV → ER) : ER :=
  eLoad Tryz.prog 70 a0 fun x1 => eNilCk x1 fun x2 => eFieldAddr Tryz.prog 76 x2 1 fun x3 => eLoad Tryz.prog 23 x3 fun x4 => eNilCk x4 fun x5 => eFieldAddr Tryz.prog 58 x5 1 fun x6 => eLoad Tryz.prog 55 x6 fun x7 => eLoad Tryz.prog 70 a0 fun x8 => eNilCk x8 fun x9 => eFieldAddr Tryz.prog 76 x9 2 fun x10 => eFieldAddr Tryz.prog 50 x10 0 fun x11 => eLoad Tryz.prog 3 x11 fun x12 => eCallR Tryz.prog C 121 [x7, x12] 130 fun x13 => eExtract x13 0 fun x14 => eExtract x13 1 fun x15 => K (.tup [x14, x15])
theorem kern_step_fork_1_ee (C : Cal) (N : Nat) (a0 : SV) (K : SV → ER) : eBody Tryz.prog C N Tryz.f123 (Tryz.f123.body.getD .skip) kern_step_fork_1_ea [a0] K = kern_step_fork_1_e C N a0 K := by kernel_rfl
noncomputable def l123 : LeafT := fun C N args K => match args with
  | [a0] => kern_step_fork_1_e C N a0 K
  | _ => eF
theorem lok123 : LeafOk Tryz.prog 123 l123 := ⟨Tryz.f123, Tryz.f123.body.getD .skip, kern_step_fork_1_ea, Tryz.func123, by kernel_rfl, Tryz.call123, fun C N args K H e => by
  unfold l123 at e
  split at e
  · rw [kern_step_fork_1_ee]; exact e
  · exact eF_no e⟩

/- (*halberd/kern.step).exec$1 -/
def kern_step_exec_1_ea : Ann := .ord [12, 0, 1, 2, 3, 4, 5, 6, 7, 8, 9, 10, 11, 13, 14]
noncomputable def kern_step_exec_1_e (C : Cal) (N : Nat) (a0 a1 : SV) (K : SV → ER) : ER :=
  eFieldAddr Tryz.prog 40 a1 0 fun x1 => eLoad Tryz.prog 70 a0 fun x2 => eNilCk x2 fun x3 => eFieldAddr Tryz.prog 76 x3 1 fun x4 => eLoad Tryz.prog 23 x4 fun x5 => eNilCk x5 fun x6 => eFieldAddr Tryz.prog 58 x6 1 fun x7 => eLoad Tryz.prog 55 x7 fun x8 => eLoad Tryz.prog 70 a0 fun x9 => eNilCk x9 fun x10 => eFieldAddr Tryz.prog 76 x10 2 fun x11 => eFieldAddr Tryz.prog 50 x11 0 fun x12 => eLoad Tryz.prog 3 x12 fun x13 => eLoad Tryz.prog 3 x1 fun x14 => eCallR Tryz.prog C 125 [x8, x13, x14] 26 fun x15 => K (.tup [])
theorem kern_step_exec_1_ee (C : Cal) (N : Nat) (a0 a1 : SV) (K : SV → ER) : eBody Tryz.prog C N Tryz.f124 (Tryz.f124.body.getD .skip) kern_step_exec_1_ea [a0, a1] K = kern_step_exec_1_e C N a0 a1 K := by kernel_rfl
noncomputable def l124 : LeafT := fun C N args K => match args with
  | [a0, a1] => kern_step_exec_1_e C N a0 a1 K
  | _ => eF
theorem lok124 : LeafOk Tryz.prog 124 l124 := ⟨Tryz.f124, Tryz.f124.body.getD .skip, kern_step_exec_1_ea, Tryz.func124, by kernel_rfl, Tryz.call124, fun C N args K H e => by
  unfold l124 at e
  split at e
  · rw [kern_step_exec_1_ee]; exact e
  · exact eF_no e⟩

/- (*halberd/tasks.Table).Exec -/
def tasks_Table_Exec_ea : Ann := .two (.none) (.two (.none) (.none))
noncomputable def tasks_Table_Exec_e (C : Cal) (N : Nat) (a0 a1 a2 : SV) (K : SV → ER) : ER :=
  eBox Tryz.prog 3 a2 fun x1 => eCallR Tryz.prog C 179 [a0, a1, (.fn 182 [] [x1])] 26 fun x2 => K x2
theorem tasks_Table_Exec_ee (C : Cal) (N : Nat) (a0 a1 a2 : SV) (K : SV → ER) : eBody Tryz.prog C N Tryz.f125 (Tryz.f125.body.getD .skip) tasks_Table_Exec_ea [a0, a1, a2] K = tasks_Table_Exec_e C N a0 a1 a2 K := by kernel_rfl
noncomputable def l125 : LeafT := fun C N args K => match args with
  | [a0, a1, a2] => tasks_Table_Exec_e C N a0 a1 a2 K
  | _ => eF
theorem lok125 : LeafOk Tryz.prog 125 l125 := ⟨Tryz.f125, Tryz.f125.body.getD .skip, tasks_Table_Exec_ea, Tryz.func125, by kernel_rfl, Tryz.call125, fun C N args K H e => by
  unfold l125 at e
  split at e
  · rw [tasks_Table_Exec_ee]; exact e
  · exact eF_no e⟩

/- (*halberd/kern.step).exit$1 -/
def kern_step_exit_1_ea : Ann := .ord [0, 1, 2, 3, 4, 5, 6, 7, 8, 9, 10, 11, 12, 13, 14, 15, 16, 17]
noncomputable def kern_step_exit_1_p0 (C : Cal) (K : SV → ER) (a0 : SV) (x3 : SV) : ER :=
  eLoad Tryz.prog 23 x3 fun x4 => eNilCk x4 fun x5 => eFieldAddr Tryz.prog 58 x5 1 fun x6 => eLoad Tryz.prog 55 x6 fun x7 => eLoad Tryz.prog 70 a0 fun x8 => eNilCk x8 fun x9 => eFieldAddr Tryz.prog 76 x9 2 fun x10 => eFieldAddr Tryz.prog 50 x10 0 fun x11 => eLoad Tryz.prog 3 x11 fun x12 => eLoad Tryz.prog 70 a0 fun x13 => eNilCk x13 fun x14 => eFieldAddr Tryz.prog 76 x14 0 fun x15 => eFieldAddr Tryz.prog 31 x15 2 fun x16 => eLoad Tryz.prog 3 x16 fun x17 => eCallR Tryz.prog C 127 [x7, x12, x17] 26 fun x18 => K (.tup [])
noncomputable def kern_step_exit_1_e (C : Cal) (N : Nat) (a0 : SV) (K : SV → ER) : ER :=
  eLoad Tryz.prog 70 a0 fun x1 => eNilCk x1 fun x2 => eFieldAddr Tryz.prog 76 x2 1 fun x3 => kern_step_exit_1_p0 C K a0 x3
theorem kern_step_exit_1_ee (C : Cal) (N : Nat) (a0 : SV) (K : SV → ER) : eBody Tryz.prog C N Tryz.f126 (Tryz.f126.body.getD .skip) kern_step_exit_1_ea [a0] K = kern_step_exit_1_e C N a0 K := by kernel_rfl
noncomputable def l126 : LeafT := fun C N args K => match args with
  | [a0] => kern_step_exit_1_e C N a0 K
  | _ => eF
theorem lok126 : LeafOk Tryz.prog 126 l126 := ⟨Tryz.f126, Tryz.f126.body.getD .skip, kern_step_exit_1_ea, Tryz.func126, by kernel_rfl, Tryz.call126, fun C N args K H e => by
  unfold l126 at e
  split at e
  · rw [kern_step_exit_1_ee]; exact e
  · exact eF_no e⟩

/- (*halberd/tasks.Table).Exit -/
def tasks_Table_Exit_ea : Ann := .two (.none) (.two (.none) (.two (.sub (.two (.none) (.two (.two (.none) (.none)) (.two (.none) (.two (.two (.none) (.none)) (.none)))))) (.two (.none) (.two (.none) (.two (.two (.none) (.sub (.loop [(41, .any)] (.two (.none) (.two (.two (.none) (.none)) (.join (.sub (.two (.none) (.two (.none) (.join (.two (.none) (.two (.none) (.none))) (.two (.none) (.two (.none) (.none))) [])))) (.none) [])))))) (.two (.none) (.none)))))))
noncomputable def tasks_Table_Exit_p0 (a1 : SV) (k27 : Unit → ER) (x26 : SV) : ER :=
  eNilCk x26 fun x29 => eFieldAddr Tryz.prog 50 x29 2 fun x30 => eLoad Tryz.prog 3 x30 fun x31 => eBin Tryz.prog .eql 3 false x31 a1 fun x32 => eIfV x32
  (eNilCk x26 fun x33 => eFieldAddr Tryz.prog 50 x33 2 fun x34 => eStore Tryz.prog 3 x34 (.int .i64 1) <| k27 (()))
  (k27 (()))
noncomputable def tasks_Table_Exit_p1 (a1 : SV) (k22 : Unit → ER) (x26 : SV) : ER :=
  eNilCk x26 fun x35 => eFieldAddr Tryz.prog 50 x35 7 fun x36 => eLoad Tryz.prog 3 x36 fun x37 => eBin Tryz.prog .eql 3 false x37 a1 fun x38 => eIfV x38
  (eNilCk x26 fun x39 => eFieldAddr Tryz.prog 50 x39 7 fun x40 => eStore Tryz.prog 3 x40 (.int .i64 0) <| k22 (()))
  (k22 (()))
noncomputable def tasks_Table_Exit_p2 (a0 : SV) (a1 : SV) (k22 : Unit → ER) (s20 : SV × Unit) : ER :=
  eNilCk a0 fun x24 => eFieldAddr Tryz.prog 69 x24 0 fun x25 => eIndexAddrS Tryz.prog 67 x25 s20.1 fun x26 => eJoinC (σ := Unit) (fun (k27 : Unit → ER) =>
  tasks_Table_Exit_p0 a1 k27 x26) fun (s28 : Unit) =>
  tasks_Table_Exit_p1 a1 k22 x26
noncomputable def tasks_Table_Exit_p3 (K : SV → ER) (a0 : SV) (a1 : SV) (k19 : SV × Unit → ER) (s20 : SV × Unit) : ER :=
  eBin Tryz.prog .lss 3 false s20.1 (.int .i64 9) fun x21 => eIfV x21
  (eJoinC (σ := Unit) (fun (k22 : Unit → ER) =>
  tasks_Table_Exit_p2 a0 a1 k22 s20) fun (s23 : Unit) =>
  eBin Tryz.prog .add 3 false s20.1 (.int .i64 1) fun x41 => eHas .any x41 (k19 (x41, ())))
  (K (.int .i64 0))
noncomputable def tasks_Table_Exit_p4 (K : SV → ER) (N : Nat) (a0 : SV) (a1 : SV) (x1 : SV) : ER :=
  eNilCk x1 fun x11 => eFieldAddr Tryz.prog 50 x11 7 fun x12 => eStore Tryz.prog 3 x12 (.int .i64 0) <| eBuild Tryz.prog 45 [] fun x13 => eBuild Tryz.prog 48 [] fun x14 => eNilCk x1 fun x15 => eFieldAddr Tryz.prog 50 x15 11 fun x16 => eStore Tryz.prog 45 x16 x13 <| eNilCk x1 fun x17 => eFieldAddr Tryz.prog 50 x17 12 fun x18 => eStore Tryz.prog 48 x18 x14 <| eHas .any (.int .i64 0) (eIter (σ := SV × Unit) (fun (s20 : SV × Unit) (k19 : SV × Unit → ER) =>
  tasks_Table_Exit_p3 K a0 a1 k19 s20) N ((.int .i64 0), ()))
noncomputable def tasks_Table_Exit_p5 (K : SV → ER) (N : Nat) (a0 : SV) (a1 : SV) (a2 : SV) (x1 : SV) : ER :=
  eBin Tryz.prog .and 3 false a2 (.int .i64 255) fun x4 => eNilCk x1 fun x5 => eFieldAddr Tryz.prog 50 x5 8 fun x6 => eStore Tryz.prog 4 x6 (.bool true) <| eNilCk x1 fun x7 => eFieldAddr Tryz.prog 50 x7 9 fun x8 => eStore Tryz.prog 3 x8 x4 <| eNilCk x1 fun x9 => eFieldAddr Tryz.prog 50 x9 10 fun x10 => eStore Tryz.prog 42 x10 (.int .u64 0) <| tasks_Table_Exit_p4 K N a0 a1 x1
noncomputable def tasks_Table_Exit_e (C : Cal) (N : Nat) (a0 a1 a2 : SV) (K : SV → ER) : ER :=
  eCallR Tryz.prog C 58 [a0, a1] 94 fun x1 => eBin Tryz.prog .eql 94 true x1 (.ptr none) fun x2 => eIfV x2
  (K (.int .i64 3))
  (eBin Tryz.prog .eql 3 false a1 (.int .i64 1) fun x3 => eIfV x3
  (K (.int .i64 1))
  (tasks_Table_Exit_p5 K N a0 a1 a2 x1))
theorem tasks_Table_Exit_ee (C : Cal) (N : Nat) (a0 a1 a2 : SV) (K : SV → ER) : eBody Tryz.prog C N Tryz.f127 (Tryz.f127.body.getD .skip) tasks_Table_Exit_ea [a0, a1, a2] K = tasks_Table_Exit_e C N a0 a1 a2 K := by kernel_rfl
noncomputable def l127 : LeafT := fun C N args K => match args with
  | [a0, a1, a2] => tasks_Table_Exit_e C N a0 a1 a2 K
  | _ => eF
theorem lok127 : LeafOk Tryz.prog 127 l127 := ⟨Tryz.f127, Tryz.f127.body.getD .skip, tasks_Table_Exit_ea, Tryz.func127, by kernel_rfl, Tryz.call127, fun C N args K H e => by
  unfold l127 at e
  split at e
  · rw [tasks_Table_Exit_ee]; exact e
  · exact eF_no e⟩

/- (*halberd/tasks.Table).Wait -/
def tasks_Table_Wait_ea : Ann := .two (.none) (.two (.two (.none) (.two (.two (.none) (.none)) (.none))) (.two (.none) (.two (.two (.none) (.sub (.loop [(7, .any), (17, .any)] (.two (.none) (.two (.two (.none) (.none)) (.join (.sub (.two (.none) (.two (.join (.none) (.two (.none) (.none)) [(30, .any)]) (.two (.two (.none) (.two (.two (.ord [0, 1, 3, 6, 7, 2, 4, 5, 8, 9]) (.two (.ord [0, 2, 1, 4, 3, 5, 6]) (.none))) (.none))) (.none))))) (.none) [(7, .any)])))))) (.two (.none) (.none)))))
noncomputable def tasks_Table_Wait_p0 (K : SV → ER) (a0 : SV) (x12 : SV) : ER :=
  eFieldAddr Tryz.prog 50 x12 0 fun x23 => eFieldAddr Tryz.prog 50 x12 1 fun x24 => eNilCk a0 fun x25 => eFieldAddr Tryz.prog 69 x25 0 fun x26 => eLoad Tryz.prog 3 x23 fun x27 => eLoad Tryz.prog 3 x24 fun x28 => eBuild Tryz.prog 50 [(1, x28)] fun x29 => eIndexAddrS Tryz.prog 67 x26 x27 fun x30 => eStore Tryz.prog 50 x30 x29 <| eFieldAddr Tryz.prog 50 x12 0 fun x31 => eFieldAddr Tryz.prog 50 x12 9 fun x32 => eLoad Tryz.prog 3 x31 fun x33 => eLoad Tryz.prog 3 x32 fun x34 => K (.tup [x33, x34, (.int .i64 0)])
noncomputable def tasks_Table_Wait_p1 (a1 : SV) (k13 : SV × Unit → ER) (x12 : SV) : ER :=
  eFieldAddr Tryz.prog 50 x12 2 fun x15 => eLoad Tryz.prog 3 x15 fun x16 => eBin Tryz.prog .neq 3 false x16 a1 fun x17 => eIfV x17
  (eHas .any (.bool true) (k13 ((.bool true), ())))
  (eFieldAddr Tryz.prog 50 x12 0 fun x18 => eLoad Tryz.prog 3 x18 fun x19 => eBin Tryz.prog .eql 3 false x19 a1 fun x20 => eHas .any x20 (k13 (x20, ())))
noncomputable def tasks_Table_Wait_p2 (K : SV → ER) (a0 : SV) (k8 : SV × Unit → ER) (s6 : SV × SV × Unit) (s14 : SV × Unit) (x12 : SV) : ER :=
  eIfV s14.1
  (eHas .any s6.1 (k8 (s6.1, ())))
  (eFieldAddr Tryz.prog 50 x12 8 fun x21 => eLoad Tryz.prog 4 x21 fun x22 => eIfV x22
  (tasks_Table_Wait_p0 K a0 x12)
  (eHas .any (.int .i64 11) (k8 ((.int .i64 11), ()))))
noncomputable def tasks_Table_Wait_p3 (K : SV → ER) (a0 : SV) (a1 : SV) (k8 : SV × Unit → ER) (s6 : SV × SV × Unit) (x3 : SV) : ER :=
  eIndexAddrS Tryz.prog 34 x3 s6.2.1 fun x10 => eLoad Tryz.prog 50 x10 fun x11 => eAlloc Tryz.prog 50 fun x12 => eStore Tryz.prog 50 x12 x11 <| eJoinC (σ := SV × Unit) (fun (k13 : SV × Unit → ER) =>
  tasks_Table_Wait_p1 a1 k13 x12) fun (s14 : SV × Unit) =>
  tasks_Table_Wait_p2 K a0 k8 s6 s14 x12
noncomputable def tasks_Table_Wait_p4 (K : SV → ER) (a0 : SV) (a1 : SV) (k5 : SV × SV × Unit → ER) (s6 : SV × SV × Unit) (x3 : SV) : ER :=
  eJoinC (σ := SV × Unit) (fun (k8 : SV × Unit → ER) =>
  tasks_Table_Wait_p3 K a0 a1 k8 s6 x3) fun (s9 : SV × Unit) =>
  eBin Tryz.prog .add 3 false s6.2.1 (.int .i64 1) fun x35 => eHas .any s9.1 (eHas .any x35 (k5 (s9.1, x35, ())))
noncomputable def tasks_Table_Wait_p5 (C : Cal) (K : SV → ER) (N : Nat) (a0 : SV) (a1 : SV) : ER :=
  eCallR Tryz.prog C 14 [a0] 34 fun x3 => eLenS Tryz.prog [34] [x3] fun x4 => eHas .any (.int .i64 10) (eHas .any (.int .i64 0) (eIter (σ := SV × SV × Unit) (fun (s6 : SV × SV × Unit) (k5 : SV × SV × Unit → ER) =>
  eBin Tryz.prog .lss 3 false s6.2.1 x4 fun x7 => eIfV x7
  (tasks_Table_Wait_p4 K a0 a1 k5 s6 x3)
  (K (.tup [(.int .i64 0), (.int .i64 0), s6.1]))) N ((.int .i64 10), (.int .i64 0), ())))
noncomputable def tasks_Table_Wait_e (C : Cal) (N : Nat) (a0 a1 : SV) (K : SV → ER) : ER :=
  eCallR Tryz.prog C 58 [a0, a1] 94 fun x1 => eBin Tryz.prog .eql 94 true x1 (.ptr none) fun x2 => eIfV x2
  (K (.tup [(.int .i64 0), (.int .i64 0), (.int .i64 3)]))
  (tasks_Table_Wait_p5 C K N a0 a1)
theorem tasks_Table_Wait_ee (C : Cal) (N : Nat) (a0 a1 : SV) (K : SV → ER) : eBody Tryz.prog C N Tryz.f128 (Tryz.f128.body.getD .skip) tasks_Table_Wait_ea [a0, a1] K = tasks_Table_Wait_e C N a0 a1 K := by kernel_rfl
noncomputable def l128 : LeafT := fun C N args K => match args with
  | [a0, a1] => tasks_Table_Wait_e C N a0 a1 K
  | _ => eF
theorem lok128 : LeafOk Tryz.prog 128 l128 := ⟨Tryz.f128, Tryz.f128.body.getD .skip, tasks_Table_Wait_ea, Tryz.func128, by kernel_rfl, Tryz.call128, fun C N args K H e => by
  unfold l128 at e
  split at e
  · rw [tasks_Table_Wait_ee]; exact e
  · exact eF_no e⟩

/- (*halberd/kern.step).wait$1 -/
def kern_step_wait_1_ea : Ann := .two (.none) (.two (.ord [0, 1, 2, 3, 4, 5, 6, 7, 8, 9, 10, 11, 12, 13, 14, 15, 16, 17, 18, 19]) (.two (.none) (.none)))
noncomputable def kern_step_wait_1_p0 (C : Cal) (K : SV → ER) (a0 : SV) (x1 : SV) (x6 : SV) : ER :=
  eFieldAddr Tryz.prog 58 x6 1 fun x7 => eLoad Tryz.prog 55 x7 fun x8 => eLoad Tryz.prog 70 a0 fun x9 => eNilCk x9 fun x10 => eFieldAddr Tryz.prog 76 x10 2 fun x11 => eFieldAddr Tryz.prog 50 x11 0 fun x12 => eLoad Tryz.prog 3 x12 fun x13 => eCallR Tryz.prog C 128 [x8, x13] 151 fun x14 => eExtract x14 0 fun x15 => eExtract x14 1 fun x16 => eExtract x14 2 fun x17 => eCallR Tryz.prog C 130 [x16] 9 fun x18 => eBuild Tryz.prog 28 [(0, x15), (2, x18)] fun x19 => eStore Tryz.prog 28 x1 x19 <| eLoad Tryz.prog 28 x1 fun x20 => K x20
noncomputable def kern_step_wait_1_e (C : Cal) (N : Nat) (a0 : SV) (K : SV → ER) : ER :=
  eAlloc Tryz.prog 28 fun x1 => eLoad Tryz.prog 70 a0 fun x2 => eNilCk x2 fun x3 => eFieldAddr Tryz.prog 76 x3 1 fun x4 => eLoad Tryz.prog 23 x4 fun x5 => eNilCk x5 fun x6 => kern_step_wait_1_p0 C K a0 x1 x6
theorem kern_step_wait_1_ee (C : Cal) (N : Nat) (a0 : SV) (K : SV → ER) : eBody Tryz.prog C N Tryz.f129 (Tryz.f129.body.getD .skip) kern_step_wait_1_ea [a0] K = kern_step_wait_1_e C N a0 K := by kernel_rfl
noncomputable def l129 : LeafT := fun C N args K => match args with
  | [a0] => kern_step_wait_1_e C N a0 K
  | _ => eF
theorem lok129 : LeafOk Tryz.prog 129 l129 := ⟨Tryz.f129, Tryz.f129.body.getD .skip, kern_step_wait_1_ea, Tryz.func129, by kernel_rfl, Tryz.call129, fun C N args K H e => by
  unfold l129 at e
  split at e
  · rw [kern_step_wait_1_ee]; exact e
  · exact eF_no e⟩

/- halberd/kern.decimal -/
def kern_decimal_ea : Ann := .two (.none) (.two (.none) (.none))
noncomputable def kern_decimal_e (C : Cal) (N : Nat) (a0 : SV) (K : SV → ER) : ER :=
  eCallR Tryz.prog C 177 [a0] 9 fun x1 => K x1
theorem kern_decimal_ee (C : Cal) (N : Nat) (a0 : SV) (K : SV → ER) : eBody Tryz.prog C N Tryz.f130 (Tryz.f130.body.getD .skip) kern_decimal_ea [a0] K = kern_decimal_e C N a0 K := by kernel_rfl
noncomputable def l130 : LeafT := fun C N args K => match args with
  | [a0] => kern_decimal_e C N a0 K
  | _ => eF
theorem lok130 : LeafOk Tryz.prog 130 l130 := ⟨Tryz.f130, Tryz.f130.body.getD .skip, kern_decimal_ea, Tryz.func130, by kernel_rfl, Tryz.call130, fun C N args K H e => by
  unfold l130 at e
  split at e
  · rw [kern_decimal_ee]; exact e
  · exact eF_no e⟩

end Go.Proofs.YtnpcjhcgbcpcoaaGreatDoor

set_option linter.unusedVariables false
set_option maxRecDepth 100000
namespace Go.Proofs.YtnpcjhcgbcpcoaaGreatDoor
open Go.Hl
/- halberd/perms.Signal -/
def perms_Signal_ea : Ann := .two (.none) (.join (.none) (.none) [(4, .any)])
noncomputable def perms_Signal_e (C : Cal) (N : Nat) (a0 a1 : SV) (K : SV → ER) : ER :=
  eJoinC (σ := SV × Unit) (fun (k1 : SV × Unit → ER) =>
  eBin Tryz.prog .eql 3 false a0 (.int .i64 0) fun x3 => eIfV x3
  (eHas .any (.bool true) (k1 ((.bool true), ())))
  (eBin Tryz.prog .eql 3 false a0 a1 fun x4 => eHas .any x4 (k1 (x4, ())))) fun (s2 : SV × Unit) =>
  K s2.1
theorem perms_Signal_ee (C : Cal) (N : Nat) (a0 a1 : SV) (K : SV → ER) : eBody Tryz.prog C N Tryz.f131 (Tryz.f131.body.getD .skip) perms_Signal_ea [a0, a1] K = perms_Signal_e C N a0 a1 K := by kernel_rfl
noncomputable def l131 : LeafT := fun C N args K => match args with
  | [a0, a1] => perms_Signal_e C N a0 a1 K
  | _ => eF
theorem lok131 : LeafOk Tryz.prog 131 l131 := ⟨Tryz.f131, Tryz.f131.body.getD .skip, perms_Signal_ea, Tryz.func131, by kernel_rfl, Tryz.call131, fun C N args K H e => by
  unfold l131 at e
  split at e
  · rw [perms_Signal_ee]; exact e
  · exact eF_no e⟩

/- (*halberd/kern.step).object -/
def kern_step_object_ea : Ann := .two (.none) (.two (.none) (.two (.two (.none) (.two (.two (.none) (.none)) (.none))) (.two (.none) (.none))))
noncomputable def kern_step_object_p0 (C : Cal) (K : SV → ER) (a1 : SV) (a2 : SV) (x1 : SV) (x3 : SV) : ER :=
  eLoad Tryz.prog 23 x3 fun x4 => eCallR Tryz.prog C 183 [x4, a1, a2] 190 fun x5 => eExtract x5 0 fun x6 => eExtract x5 1 fun x7 => eAlloc Tryz.prog 124 fun x8 => eStore Tryz.prog 124 x8 x6 <| eUnS .not x7 fun x9 => eIfV x9
  (eBuild Tryz.prog 126 [(0, (.bool true))] fun x10 => eStore Tryz.prog 126 x1 x10 <| eLoad Tryz.prog 126 x1 fun x11 => K x11)
  (eLoad Tryz.prog 124 x8 fun x12 => eBuild Tryz.prog 126 [(1, (.bool true)), (2, x12)] fun x13 => eStore Tryz.prog 126 x1 x13 <| eLoad Tryz.prog 126 x1 fun x14 => K x14)
noncomputable def kern_step_object_e (C : Cal) (N : Nat) (a0 a1 a2 : SV) (K : SV → ER) : ER :=
  eAlloc Tryz.prog 126 fun x1 => eNilCk a0 fun x2 => eFieldAddr Tryz.prog 76 x2 1 fun x3 => kern_step_object_p0 C K a1 a2 x1 x3
theorem kern_step_object_ee (C : Cal) (N : Nat) (a0 a1 a2 : SV) (K : SV → ER) : eBody Tryz.prog C N Tryz.f132 (Tryz.f132.body.getD .skip) kern_step_object_ea [a0, a1, a2] K = kern_step_object_e C N a0 a1 a2 K := by kernel_rfl
noncomputable def l132 : LeafT := fun C N args K => match args with
  | [a0, a1, a2] => kern_step_object_e C N a0 a1 a2 K
  | _ => eF
theorem lok132 : LeafOk Tryz.prog 132 l132 := ⟨Tryz.f132, Tryz.f132.body.getD .skip, kern_step_object_ea, Tryz.func132, by kernel_rfl, Tryz.call132, fun C N args K H e => by
  unfold l132 at e
  split at e
  · rw [kern_step_object_ee]; exact e
  · exact eF_no e⟩

/- (*halberd/kern.step).kill$1 -/
def kern_step_kill_1_ea : Ann := .two (.none) (.sub (.two (.none) (.two (.none) (.two (.none) (.two (.ord [0, 1, 2, 3, 4, 5, 6, 7, 8, 9, 10, 11, 12]) (.ord [0, 1, 2, 3, 4, 5, 6, 7, 8, 9, 10, 11, 12, 13, 14, 15, 16, 17]))))))
noncomputable def kern_step_kill_1_p0 (C : Cal) (K : SV → ER) (a0 : SV) : ER :=
  eLoad Tryz.prog 70 a0 fun x8 => eNilCk x8 fun x9 => eFieldAddr Tryz.prog 76 x9 1 fun x10 => eLoad Tryz.prog 23 x10 fun x11 => eNilCk x11 fun x12 => eFieldAddr Tryz.prog 58 x12 1 fun x13 => eLoad Tryz.prog 55 x13 fun x14 => eLoad Tryz.prog 70 a0 fun x15 => eNilCk x15 fun x16 => eFieldAddr Tryz.prog 76 x16 0 fun x17 => eFieldAddr Tryz.prog 31 x17 2 fun x18 => eLoad Tryz.prog 3 x18 fun x19 => eCallR Tryz.prog C 127 [x14, x19, (.int .i64 137)] 26 fun x20 => K (.tup [])
noncomputable def kern_step_kill_1_p1 (C : Cal) (K : SV → ER) (a0 : SV) (x24 : SV) : ER :=
  eNilCk x24 fun x25 => eFieldAddr Tryz.prog 58 x25 1 fun x26 => eLoad Tryz.prog 55 x26 fun x27 => eLoad Tryz.prog 70 a0 fun x28 => eNilCk x28 fun x29 => eFieldAddr Tryz.prog 76 x29 0 fun x30 => eFieldAddr Tryz.prog 31 x30 2 fun x31 => eLoad Tryz.prog 3 x31 fun x32 => eLoad Tryz.prog 70 a0 fun x33 => eNilCk x33 fun x34 => eFieldAddr Tryz.prog 76 x34 0 fun x35 => eFieldAddr Tryz.prog 31 x35 3 fun x36 => eLoad Tryz.prog 3 x36 fun x37 => eCallR Tryz.prog C 134 [x27, x32, x37] 26 fun x38 => K (.tup [])
noncomputable def kern_step_kill_1_p2 (C : Cal) (K : SV → ER) (a0 : SV) (x5 : SV) : ER :=
  eBin Tryz.prog .eql 3 false x5 (.int .i64 9) fun x7 => eIfV x7
  (kern_step_kill_1_p0 C K a0)
  (eLoad Tryz.prog 70 a0 fun x21 => eNilCk x21 fun x22 => eFieldAddr Tryz.prog 76 x22 1 fun x23 => eLoad Tryz.prog 23 x23 fun x24 => kern_step_kill_1_p1 C K a0 x24)
noncomputable def kern_step_kill_1_e (C : Cal) (N : Nat) (a0 : SV) (K : SV → ER) : ER :=
  eLoad Tryz.prog 70 a0 fun x1 => eNilCk x1 fun x2 => eFieldAddr Tryz.prog 76 x2 0 fun x3 => eFieldAddr Tryz.prog 31 x3 3 fun x4 => eLoad Tryz.prog 3 x4 fun x5 => eBin Tryz.prog .eql 3 false x5 (.int .i64 0) fun x6 => eIfV x6
  (K (.tup []))
  (kern_step_kill_1_p2 C K a0 x5)
theorem kern_step_kill_1_ee (C : Cal) (N : Nat) (a0 : SV) (K : SV → ER) : eBody Tryz.prog C N Tryz.f133 (Tryz.f133.body.getD .skip) kern_step_kill_1_ea [a0] K = kern_step_kill_1_e C N a0 K := by kernel_rfl
noncomputable def l133 : LeafT := fun C N args K => match args with
  | [a0] => kern_step_kill_1_e C N a0 K
  | _ => eF
theorem lok133 : LeafOk Tryz.prog 133 l133 := ⟨Tryz.f133, Tryz.f133.body.getD .skip, kern_step_kill_1_ea, Tryz.func133, by kernel_rfl, Tryz.call133, fun C N args K H e => by
  unfold l133 at e
  split at e
  · rw [kern_step_kill_1_ee]; exact e
  · exact eF_no e⟩

/- (*halberd/tasks.Table).Signal -/
def tasks_Table_Signal_ea : Ann := .two (.none) (.two (.none) (.none))
noncomputable def tasks_Table_Signal_e (C : Cal) (N : Nat) (a0 a1 a2 : SV) (K : SV → ER) : ER :=
  eBox Tryz.prog 3 a2 fun x1 => eCallR Tryz.prog C 179 [a0, a1, (.fn 184 [] [x1])] 26 fun x2 => K x2
theorem tasks_Table_Signal_ee (C : Cal) (N : Nat) (a0 a1 a2 : SV) (K : SV → ER) : eBody Tryz.prog C N Tryz.f134 (Tryz.f134.body.getD .skip) tasks_Table_Signal_ea [a0, a1, a2] K = tasks_Table_Signal_e C N a0 a1 a2 K := by kernel_rfl
noncomputable def l134 : LeafT := fun C N args K => match args with
  | [a0, a1, a2] => tasks_Table_Signal_e C N a0 a1 a2 K
  | _ => eF
theorem lok134 : LeafOk Tryz.prog 134 l134 := ⟨Tryz.f134, Tryz.f134.body.getD .skip, tasks_Table_Signal_ea, Tryz.func134, by kernel_rfl, Tryz.call134, fun C N args K H e => by
  unfold l134 at e
  split at e
  · rw [tasks_Table_Signal_ee]; exact e
  · exact eF_no e⟩

/- (*halberd/kern.step).ptrace$1 -/
def kern_step_ptrace_1_ea : Ann := .ord [0, 1, 2, 3, 4, 5, 6, 7, 8, 9, 10, 11, 12, 13]
noncomputable def kern_step_ptrace_1_e (C : Cal) (N : Nat) (a0 a1 : SV) (K : SV → ER) : ER :=
  eLoad Tryz.prog 70 a0 fun x1 => eNilCk x1 fun x2 => eFieldAddr Tryz.prog 76 x2 1 fun x3 => eLoad Tryz.prog 23 x3 fun x4 => eNilCk x4 fun x5 => eFieldAddr Tryz.prog 58 x5 1 fun x6 => eLoad Tryz.prog 55 x6 fun x7 => eLoad Tryz.prog 70 a0 fun x8 => eNilCk x8 fun x9 => eFieldAddr Tryz.prog 76 x9 0 fun x10 => eFieldAddr Tryz.prog 31 x10 3 fun x11 => eLoad Tryz.prog 3 x11 fun x12 => eLoad Tryz.prog 3 a1 fun x13 => eCallR Tryz.prog C 136 [x7, x12, x13] 26 fun x14 => K (.tup [])
theorem kern_step_ptrace_1_ee (C : Cal) (N : Nat) (a0 a1 : SV) (K : SV → ER) : eBody Tryz.prog C N Tryz.f135 (Tryz.f135.body.getD .skip) kern_step_ptrace_1_ea [a0, a1] K = kern_step_ptrace_1_e C N a0 a1 K := by kernel_rfl
noncomputable def l135 : LeafT := fun C N args K => match args with
  | [a0, a1] => kern_step_ptrace_1_e C N a0 a1 K
  | _ => eF
theorem lok135 : LeafOk Tryz.prog 135 l135 := ⟨Tryz.f135, Tryz.f135.body.getD .skip, kern_step_ptrace_1_ea, Tryz.func135, by kernel_rfl, Tryz.call135, fun C N args K H e => by
  unfold l135 at e
  split at e
  · rw [kern_step_ptrace_1_ee]; exact e
  · exact eF_no e⟩

/- (*halberd/tasks.Table).Trace -/
def tasks_Table_Trace_ea : Ann := .two (.none) (.two (.none) (.none))
noncomputable def tasks_Table_Trace_e (C : Cal) (N : Nat) (a0 a1 a2 : SV) (K : SV → ER) : ER :=
  eBox Tryz.prog 3 a2 fun x1 => eCallR Tryz.prog C 179 [a0, a1, (.fn 185 [] [x1])] 26 fun x2 => K x2
theorem tasks_Table_Trace_ee (C : Cal) (N : Nat) (a0 a1 a2 : SV) (K : SV → ER) : eBody Tryz.prog C N Tryz.f136 (Tryz.f136.body.getD .skip) tasks_Table_Trace_ea [a0, a1, a2] K = tasks_Table_Trace_e C N a0 a1 a2 K := by kernel_rfl
noncomputable def l136 : LeafT := fun C N args K => match args with
  | [a0, a1, a2] => tasks_Table_Trace_e C N a0 a1 a2 K
  | _ => eF
theorem lok136 : LeafOk Tryz.prog 136 l136 := ⟨Tryz.f136, Tryz.f136.body.getD .skip, tasks_Table_Trace_ea, Tryz.func136, by kernel_rfl, Tryz.call136, fun C N args K H e => by
  unfold l136 at e
  split at e
  · rw [tasks_Table_Trace_ee]; exact e
  · exact eF_no e⟩

/- (*halberd/kern.step).setid -/
def kern_step_setid_ea : Ann := .two (.none) (.two (.ord [13, 0, 1, 2, 3, 4, 8, 9, 10, 11, 12, 14, 15, 16, 17, 18, 5, 6, 7, 19, 20, 21, 22, 23, 24]) (.two (.two (.none) (.two (.two (.none) (.none)) (.none))) (.two (.ord [1, 0, 3, 4, 5, 6, 7, 2, 8, 9, 10]) (.two (.ord [0, 1, 2, 3, 4, 5, 6, 7, 8, 9, 10, 11, 12, 13]) (.join (.two (.none) (.two (.ord [0, 1, 2, 3, 4, 5, 6, 7, 8, 9, 10, 11]) (.none))) (.two (.none) (.none)) [])))))
noncomputable def kern_step_setid_p0 (x1 : SV) (k48 : Unit → ER) (x46 : SV) (x47 : SV) : ER :=
  eLoad Tryz.prog 70 x1 fun x51 => eNilCk x51 fun x52 => eFieldAddr Tryz.prog 76 x52 2 fun x53 => eFieldAddr Tryz.prog 50 x53 3 fun x54 => eLoad Tryz.prog 3 x54 fun x55 => eLoad Tryz.prog 70 x1 fun x56 => eNilCk x56 fun x57 => eFieldAddr Tryz.prog 76 x57 0 fun x58 => eFieldAddr Tryz.prog 31 x58 2 fun x59 => eLoad Tryz.prog 3 x59 fun x60 => eStore Tryz.prog 3 x46 x55 <| fun H => eLoadF Tryz.prog 3 x59 x60 H && (fun H => eLoadF Tryz.prog 70 x1 x56 H && (eStore Tryz.prog 3 x47 x60 <| k48 (())) H) H
noncomputable def kern_step_setid_p1 (C : Cal) (K : SV → ER) (a1 : SV) (x1 : SV) (x40 : SV) (x41 : SV) (x44 : SV) : ER :=
  eLoad Tryz.prog 3 x44 fun x45 => eAlloc Tryz.prog 3 fun x46 => eAlloc Tryz.prog 3 fun x47 => eStore Tryz.prog 3 x46 x40 <| fun H => eLoadF Tryz.prog 3 x44 x45 H && (fun H => eLoadF Tryz.prog 70 x1 x41 H && (eStore Tryz.prog 3 x47 x45 <| eJoinC (σ := Unit) (fun (k48 : Unit → ER) =>
  eBin Tryz.prog .eql 3 false a1 (.int .i64 2) fun x50 => eIfV x50
  (kern_step_setid_p0 x1 k48 x46 x47)
  (k48 (()))) fun (s49 : Unit) =>
  eLoad Tryz.prog 70 x1 fun x61 => eCallR Tryz.prog C 86 [x61, (.fn 187 [] [x1, x46, x47])] 26 fun x62 => K x62) H) H
noncomputable def kern_step_setid_p2 (C : Cal) (K : SV → ER) (a1 : SV) (x1 : SV) (x26 : SV) (x32 : SV) (x33 : SV) : ER :=
  fun H => eLoadF Tryz.prog 70 x1 x26 H && (eBuildSlice Tryz.prog 166 2 [(0, x32), (1, x33)] fun x34 => eCallR Tryz.prog C 74 [x26, (.int .i64 14), x34] 0 fun x35 => eLoad Tryz.prog 70 x1 fun x36 => eNilCk x36 fun x37 => eFieldAddr Tryz.prog 76 x37 0 fun x38 => eFieldAddr Tryz.prog 31 x38 2 fun x39 => eLoad Tryz.prog 3 x39 fun x40 => eLoad Tryz.prog 70 x1 fun x41 => eNilCk x41 fun x42 => eFieldAddr Tryz.prog 76 x42 2 fun x43 => eFieldAddr Tryz.prog 50 x43 4 fun x44 => kern_step_setid_p1 C K a1 x1 x40 x41 x44) H
noncomputable def kern_step_setid_p3 (C : Cal) (K : SV → ER) (a1 : SV) (x1 : SV) : ER :=
  eLoad Tryz.prog 70 x1 fun x26 => eLoad Tryz.prog 70 x1 fun x27 => eNilCk x27 fun x28 => eFieldAddr Tryz.prog 76 x28 0 fun x29 => eFieldAddr Tryz.prog 31 x29 2 fun x30 => eLoad Tryz.prog 3 x30 fun x31 => eCallR Tryz.prog C 76 [a1] 126 fun x32 => fun H => eLoadF Tryz.prog 3 x30 x31 H && (fun H => eLoadF Tryz.prog 70 x1 x27 H && (fun H => eLoadF Tryz.prog 70 x1 x26 H && (eCallR Tryz.prog C 76 [x31] 126 fun x33 => kern_step_setid_p2 C K a1 x1 x26 x32 x33) H) H) H
noncomputable def kern_step_setid_p4 (C : Cal) (K : SV → ER) (a1 : SV) (a2 : SV) (x1 : SV) (x7 : SV) (x10 : SV) (x11 : SV) (x12 : SV) (x15 : SV) (x16 : SV) (x19 : SV) : ER :=
  fun H => eLoadF Tryz.prog 3 x15 x16 H && (fun H => eLoadF Tryz.prog 70 x1 x12 H && (fun H => eLoadF Tryz.prog 3 x10 x11 H && (fun H => eLoadF Tryz.prog 70 x1 x7 H && (eCallR Tryz.prog C 186 [x11, a2, x16] 4 fun x20 => eUnS .not x20 fun x21 => eCallR Tryz.prog C 71 [x21, (.int .i64 1)] 26 fun x22 => eBuildSlice Tryz.prog 164 2 [(0, x19), (1, x22)] fun x23 => eCallR Tryz.prog C 70 [x23] 26 fun x24 => eBin Tryz.prog .neq 26 false x24 (.int .i64 0) fun x25 => eIfV x25
  (K x24)
  (kern_step_setid_p3 C K a1 x1)) H) H) H) H
noncomputable def kern_step_setid_p5 (C : Cal) (K : SV → ER) (a1 : SV) (a2 : SV) (x1 : SV) (x6 : SV) (x7 : SV) (x10 : SV) (x11 : SV) (x12 : SV) (x13 : SV) : ER :=
  eFieldAddr Tryz.prog 76 x13 0 fun x14 => eFieldAddr Tryz.prog 31 x14 2 fun x15 => eLoad Tryz.prog 3 x15 fun x16 => eCallR Tryz.prog C 68 [x6, (.int .i64 0), (.int .i64 65535)] 4 fun x17 => fun H => eLoadF Tryz.prog 3 x15 x16 H && (fun H => eLoadF Tryz.prog 70 x1 x12 H && (fun H => eLoadF Tryz.prog 3 x10 x11 H && (fun H => eLoadF Tryz.prog 70 x1 x7 H && (eUnS .not x17 fun x18 => eCallR Tryz.prog C 71 [x18, (.int .i64 22)] 26 fun x19 => kern_step_setid_p4 C K a1 a2 x1 x7 x10 x11 x12 x15 x16 x19) H) H) H) H
noncomputable def kern_step_setid_e (C : Cal) (N : Nat) (a0 a1 a2 : SV) (K : SV → ER) : ER :=
  eBox Tryz.prog 70 a0 fun x1 => eLoad Tryz.prog 70 x1 fun x2 => eNilCk x2 fun x3 => eFieldAddr Tryz.prog 76 x3 0 fun x4 => eFieldAddr Tryz.prog 31 x4 2 fun x5 => eLoad Tryz.prog 3 x5 fun x6 => eLoad Tryz.prog 70 x1 fun x7 => eNilCk x7 fun x8 => eFieldAddr Tryz.prog 76 x8 2 fun x9 => eFieldAddr Tryz.prog 50 x9 3 fun x10 => eLoad Tryz.prog 3 x10 fun x11 => eLoad Tryz.prog 70 x1 fun x12 => eNilCk x12 fun x13 => kern_step_setid_p5 C K a1 a2 x1 x6 x7 x10 x11 x12 x13
theorem kern_step_setid_ee (C : Cal) (N : Nat) (a0 a1 a2 : SV) (K : SV → ER) : eBody Tryz.prog C N Tryz.f137 (Tryz.f137.body.getD .skip) kern_step_setid_ea [a0, a1, a2] K = kern_step_setid_e C N a0 a1 a2 K := by kernel_rfl
noncomputable def l137 : LeafT := fun C N args K => match args with
  | [a0, a1, a2] => kern_step_setid_e C N a0 a1 a2 K
  | _ => eF
theorem lok137 : LeafOk Tryz.prog 137 l137 := ⟨Tryz.f137, Tryz.f137.body.getD .skip, kern_step_setid_ea, Tryz.func137, by kernel_rfl, Tryz.call137, fun C N args K H e => by
  unfold l137 at e
  split at e
  · rw [kern_step_setid_ee]; exact e
  · exact eF_no e⟩

/- halberd/perms.Prot -/
def perms_Prot_ea : Ann := .two (.none) (.join (.none) (.none) [(6, .any)])
noncomputable def perms_Prot_p0 (C : Cal) (a0 : SV) (a2 : SV) (k1 : SV × Unit → ER) : ER :=
  eIfV a2
  (eHas .any (.bool true) (k1 ((.bool true), ())))
  (eBuildSlice Tryz.prog 38 1 [(0, (.int .i64 2))] fun x3 => eCallR Tryz.prog C 152 [a0, x3] 4 fun x4 => eUnS .not x4 fun x5 => eHas .any x5 (k1 (x5, ())))
noncomputable def perms_Prot_e (C : Cal) (N : Nat) (a0 a1 a2 : SV) (K : SV → ER) : ER :=
  eJoinC (σ := SV × Unit) (fun (k1 : SV × Unit → ER) =>
  eIfV a1
  (perms_Prot_p0 C a0 a2 k1)
  (eHas .any (.bool false) (k1 ((.bool false), ())))) fun (s2 : SV × Unit) =>
  K s2.1
theorem perms_Prot_ee (C : Cal) (N : Nat) (a0 a1 a2 : SV) (K : SV → ER) : eBody Tryz.prog C N Tryz.f138 (Tryz.f138.body.getD .skip) perms_Prot_ea [a0, a1, a2] K = perms_Prot_e C N a0 a1 a2 K := by kernel_rfl
noncomputable def l138 : LeafT := fun C N args K => match args with
  | [a0, a1, a2] => perms_Prot_e C N a0 a1 a2 K
  | _ => eF
theorem lok138 : LeafOk Tryz.prog 138 l138 := ⟨Tryz.f138, Tryz.f138.body.getD .skip, perms_Prot_ea, Tryz.func138, by kernel_rfl, Tryz.call138, fun C N args K H e => by
  unfold l138 at e
  split at e
  · rw [perms_Prot_ee]; exact e
  · exact eF_no e⟩

end Go.Proofs.YtnpcjhcgbcpcoaaGreatDoor

set_option linter.unusedVariables false
set_option maxRecDepth 100000
namespace Go.Proofs.YtnpcjhcgbcpcoaaGreatDoor
open Go.Hl
/- (*halberd/tasks.Table).Map -/
def tasks_Table_Map_ea : Ann := .two (.none) (.two (.none) (.two (.none) (.two (.none) (.two (.two (.none) (.two (.two (.none) (.none)) (.none))) (.two (.none) (.none))))))
noncomputable def tasks_Table_Map_e (C : Cal) (N : Nat) (a0 a1 a2 : SV) (K : SV → ER) : ER :=
  eBox Tryz.prog 47 a2 fun x1 => eAlloc Tryz.prog 3 fun x2 => eStore Tryz.prog 3 x2 (.int .i64 (-1)) <| eFieldAddr Tryz.prog 47 x1 0 fun x3 => eStore Tryz.prog 4 x3 (.bool true) <| eCallR Tryz.prog C 179 [a0, a1, (.fn 189 [] [x2, x1])] 26 fun x4 => eBin Tryz.prog .neq 26 false x4 (.int .i64 0) fun x5 => eIfV x5
  (K (.tup [(.int .i64 0), x4]))
  (eLoad Tryz.prog 3 x2 fun x6 => K (.tup [x6, (.int .i64 0)]))
theorem tasks_Table_Map_ee (C : Cal) (N : Nat) (a0 a1 a2 : SV) (K : SV → ER) : eBody Tryz.prog C N Tryz.f139 (Tryz.f139.body.getD .skip) tasks_Table_Map_ea [a0, a1, a2] K = tasks_Table_Map_e C N a0 a1 a2 K := by kernel_rfl
noncomputable def l139 : LeafT := fun C N args K => match args with
  | [a0, a1, a2] => tasks_Table_Map_e C N a0 a1 a2 K
  | _ => eF
theorem lok139 : LeafOk Tryz.prog 139 l139 := ⟨Tryz.f139, Tryz.f139.body.getD .skip, tasks_Table_Map_ea, Tryz.func139, by kernel_rfl, Tryz.call139, fun C N args K H e => by
  unfold l139 at e
  split at e
  · rw [tasks_Table_Map_ee]; exact e
  · exact eF_no e⟩

/- (*halberd/kern.step).mmap$1 -/
def kern_step_mmap_1_ea : Ann := .two (.none) (.two (.ord [0, 1, 2, 3, 4, 5, 6, 7, 8, 9, 10, 11, 12, 13, 14, 15, 16, 17]) (.none))
noncomputable def kern_step_mmap_1_p0 (C : Cal) (K : SV → ER) (a0 : SV) (a1 : SV) (x1 : SV) : ER :=
  eNilCk x1 fun x2 => eFieldAddr Tryz.prog 76 x2 1 fun x3 => eLoad Tryz.prog 23 x3 fun x4 => eNilCk x4 fun x5 => eFieldAddr Tryz.prog 58 x5 1 fun x6 => eLoad Tryz.prog 55 x6 fun x7 => eLoad Tryz.prog 70 a0 fun x8 => eNilCk x8 fun x9 => eFieldAddr Tryz.prog 76 x9 2 fun x10 => eFieldAddr Tryz.prog 50 x10 0 fun x11 => eLoad Tryz.prog 3 x11 fun x12 => eLoad Tryz.prog 47 a1 fun x13 => eCallR Tryz.prog C 139 [x7, x12, x13] 130 fun x14 => eExtract x14 0 fun x15 => eExtract x14 1 fun x16 => K (.tup [x15, x16])
noncomputable def kern_step_mmap_1_e (C : Cal) (N : Nat) (a0 a1 : SV) (K : SV → ER) : ER :=
  eLoad Tryz.prog 70 a0 fun x1 => kern_step_mmap_1_p0 C K a0 a1 x1
theorem kern_step_mmap_1_ee (C : Cal) (N : Nat) (a0 a1 : SV) (K : SV → ER) : eBody Tryz.prog C N Tryz.f140 (Tryz.f140.body.getD .skip) kern_step_mmap_1_ea [a0, a1] K = kern_step_mmap_1_e C N a0 a1 K := by kernel_rfl
noncomputable def l140 : LeafT := fun C N args K => match args with
  | [a0, a1] => kern_step_mmap_1_e C N a0 a1 K
  | _ => eF
theorem lok140 : LeafOk Tryz.prog 140 l140 := ⟨Tryz.f140, Tryz.f140.body.getD .skip, kern_step_mmap_1_ea, Tryz.func140, by kernel_rfl, Tryz.call140, fun C N args K H e => by
  unfold l140 at e
  split at e
  · rw [kern_step_mmap_1_ee]; exact e
  · exact eF_no e⟩

/- (*halberd/tasks.Table).Area -/
def tasks_Table_Area_ea : Ann := .two (.none) (.two (.none) (.two (.none) (.two (.none) (.none))))
noncomputable def tasks_Table_Area_e (C : Cal) (N : Nat) (a0 a1 a2 : SV) (K : SV → ER) : ER :=
  eAlloc Tryz.prog 47 fun x1 => eAlloc Tryz.prog 47 fun x2 => eCallR Tryz.prog C 191 [a0, a1, a2, (.fn 192 [] [x2])] 26 fun x3 => eLoad Tryz.prog 47 x2 fun x4 => eStore Tryz.prog 47 x1 x4 <| eLoad Tryz.prog 47 x1 fun x5 => K (.tup [x5, x3])
theorem tasks_Table_Area_ee (C : Cal) (N : Nat) (a0 a1 a2 : SV) (K : SV → ER) : eBody Tryz.prog C N Tryz.f141 (Tryz.f141.body.getD .skip) tasks_Table_Area_ea [a0, a1, a2] K = tasks_Table_Area_e C N a0 a1 a2 K := by kernel_rfl
noncomputable def l141 : LeafT := fun C N args K => match args with
  | [a0, a1, a2] => tasks_Table_Area_e C N a0 a1 a2 K
  | _ => eF
theorem lok141 : LeafOk Tryz.prog 141 l141 := ⟨Tryz.f141, Tryz.f141.body.getD .skip, tasks_Table_Area_ea, Tryz.func141, by kernel_rfl, Tryz.call141, fun C N args K H e => by
  unfold l141 at e
  split at e
  · rw [tasks_Table_Area_ee]; exact e
  · exact eF_no e⟩

/- (*halberd/kern.step).mprotect$1 -/
def kern_step_mprotect_1_ea : Ann := .ord [0, 1, 2, 3, 4, 5, 6, 7, 8, 9, 10, 11, 12, 13, 14, 15, 16, 17, 18, 19, 20, 21, 22]
noncomputable def kern_step_mprotect_1_p0 (C : Cal) (K : SV → ER) (a0 : SV) (x7 : SV) (x9 : SV) : ER :=
  eFieldAddr Tryz.prog 76 x9 2 fun x10 => eFieldAddr Tryz.prog 50 x10 0 fun x11 => eLoad Tryz.prog 3 x11 fun x12 => eLoad Tryz.prog 70 a0 fun x13 => eNilCk x13 fun x14 => eFieldAddr Tryz.prog 76 x14 0 fun x15 => eFieldAddr Tryz.prog 31 x15 2 fun x16 => eLoad Tryz.prog 3 x16 fun x17 => eLoad Tryz.prog 70 a0 fun x18 => eNilCk x18 fun x19 => eFieldAddr Tryz.prog 76 x19 0 fun x20 => eFieldAddr Tryz.prog 31 x20 3 fun x21 => eLoad Tryz.prog 3 x21 fun x22 => eCallR Tryz.prog C 143 [x7, x12, x17, x22] 26 fun x23 => K (.tup [])
noncomputable def kern_step_mprotect_1_e (C : Cal) (N : Nat) (a0 : SV) (K : SV → ER) : ER :=
  eLoad Tryz.prog 70 a0 fun x1 => eNilCk x1 fun x2 => eFieldAddr Tryz.prog 76 x2 1 fun x3 => eLoad Tryz.prog 23 x3 fun x4 => eNilCk x4 fun x5 => eFieldAddr Tryz.prog 58 x5 1 fun x6 => eLoad Tryz.prog 55 x6 fun x7 => eLoad Tryz.prog 70 a0 fun x8 => eNilCk x8 fun x9 => kern_step_mprotect_1_p0 C K a0 x7 x9
theorem kern_step_mprotect_1_ee (C : Cal) (N : Nat) (a0 : SV) (K : SV → ER) : eBody Tryz.prog C N Tryz.f142 (Tryz.f142.body.getD .skip) kern_step_mprotect_1_ea [a0] K = kern_step_mprotect_1_e C N a0 K := by kernel_rfl
noncomputable def l142 : LeafT := fun C N args K => match args with
  | [a0] => kern_step_mprotect_1_e C N a0 K
  | _ => eF
theorem lok142 : LeafOk Tryz.prog 142 l142 := ⟨Tryz.f142, Tryz.f142.body.getD .skip, kern_step_mprotect_1_ea, Tryz.func142, by kernel_rfl, Tryz.call142, fun C N args K H e => by
  unfold l142 at e
  split at e
  · rw [kern_step_mprotect_1_ee]; exact e
  · exact eF_no e⟩

/- (*halberd/tasks.Table).Protect -/
def tasks_Table_Protect_ea : Ann := .two (.none) (.two (.none) (.none))
noncomputable def tasks_Table_Protect_e (C : Cal) (N : Nat) (a0 a1 a2 a3 : SV) (K : SV → ER) : ER :=
  eBox Tryz.prog 3 a3 fun x1 => eCallR Tryz.prog C 191 [a0, a1, a2, (.fn 193 [] [x1])] 26 fun x2 => K x2
theorem tasks_Table_Protect_ee (C : Cal) (N : Nat) (a0 a1 a2 a3 : SV) (K : SV → ER) : eBody Tryz.prog C N Tryz.f143 (Tryz.f143.body.getD .skip) tasks_Table_Protect_ea [a0, a1, a2, a3] K = tasks_Table_Protect_e C N a0 a1 a2 a3 K := by kernel_rfl
noncomputable def l143 : LeafT := fun C N args K => match args with
  | [a0, a1, a2, a3] => tasks_Table_Protect_e C N a0 a1 a2 a3 K
  | _ => eF
theorem lok143 : LeafOk Tryz.prog 143 l143 := ⟨Tryz.f143, Tryz.f143.body.getD .skip, tasks_Table_Protect_ea, Tryz.func143, by kernel_rfl, Tryz.call143, fun C N args K H e => by
  unfold l143 at e
  split at e
  · rw [tasks_Table_Protect_ee]; exact e
  · exact eF_no e⟩

/- (*halberd/kern.step).munmap$1 -/
def kern_step_munmap_1_ea : Ann := .ord [0, 1, 2, 3, 4, 5, 6, 7, 8, 9, 10, 11, 12, 13, 14, 15, 16, 17]
noncomputable def kern_step_munmap_1_p0 (C : Cal) (K : SV → ER) (a0 : SV) (x3 : SV) : ER :=
  eLoad Tryz.prog 23 x3 fun x4 => eNilCk x4 fun x5 => eFieldAddr Tryz.prog 58 x5 1 fun x6 => eLoad Tryz.prog 55 x6 fun x7 => eLoad Tryz.prog 70 a0 fun x8 => eNilCk x8 fun x9 => eFieldAddr Tryz.prog 76 x9 2 fun x10 => eFieldAddr Tryz.prog 50 x10 0 fun x11 => eLoad Tryz.prog 3 x11 fun x12 => eLoad Tryz.prog 70 a0 fun x13 => eNilCk x13 fun x14 => eFieldAddr Tryz.prog 76 x14 0 fun x15 => eFieldAddr Tryz.prog 31 x15 2 fun x16 => eLoad Tryz.prog 3 x16 fun x17 => eCallR Tryz.prog C 145 [x7, x12, x17] 26 fun x18 => K (.tup [])
noncomputable def kern_step_munmap_1_e (C : Cal) (N : Nat) (a0 : SV) (K : SV → ER) : ER :=
  eLoad Tryz.prog 70 a0 fun x1 => eNilCk x1 fun x2 => eFieldAddr Tryz.prog 76 x2 1 fun x3 => kern_step_munmap_1_p0 C K a0 x3
theorem kern_step_munmap_1_ee (C : Cal) (N : Nat) (a0 : SV) (K : SV → ER) : eBody Tryz.prog C N Tryz.f144 (Tryz.f144.body.getD .skip) kern_step_munmap_1_ea [a0] K = kern_step_munmap_1_e C N a0 K := by kernel_rfl
noncomputable def l144 : LeafT := fun C N args K => match args with
  | [a0] => kern_step_munmap_1_e C N a0 K
  | _ => eF
theorem lok144 : LeafOk Tryz.prog 144 l144 := ⟨Tryz.f144, Tryz.f144.body.getD .skip, kern_step_munmap_1_ea, Tryz.func144, by kernel_rfl, Tryz.call144, fun C N args K H e => by
  unfold l144 at e
  split at e
  · rw [kern_step_munmap_1_ee]; exact e
  · exact eF_no e⟩

/- (*halberd/tasks.Table).Unmap -/
def tasks_Table_Unmap_ea : Ann := .two (.none) (.two (.none) (.none))
noncomputable def tasks_Table_Unmap_e (C : Cal) (N : Nat) (a0 a1 a2 : SV) (K : SV → ER) : ER :=
  eCallR Tryz.prog C 191 [a0, a1, a2, (.fn 194 [] [])] 26 fun x1 => K x1
theorem tasks_Table_Unmap_ee (C : Cal) (N : Nat) (a0 a1 a2 : SV) (K : SV → ER) : eBody Tryz.prog C N Tryz.f145 (Tryz.f145.body.getD .skip) tasks_Table_Unmap_ea [a0, a1, a2] K = tasks_Table_Unmap_e C N a0 a1 a2 K := by kernel_rfl
noncomputable def l145 : LeafT := fun C N args K => match args with
  | [a0, a1, a2] => tasks_Table_Unmap_e C N a0 a1 a2 K
  | _ => eF
theorem lok145 : LeafOk Tryz.prog 145 l145 := ⟨Tryz.f145, Tryz.f145.body.getD .skip, tasks_Table_Unmap_ea, Tryz.func145, by kernel_rfl, Tryz.call145, fun C N args K H e => by
  unfold l145 at e
  split at e
  · rw [tasks_Table_Unmap_ee]; exact e
  · exact eF_no e⟩

/- (*halberd/kern.step).dup$1 -/
def kern_step_dup_1_ea : Ann := .two (.none) (.two (.ord [0, 1, 2, 3, 4, 5, 6, 7, 8, 9, 10, 11, 12, 13, 14, 15, 16, 17, 18, 19, 20, 21]) (.none))
noncomputable def kern_step_dup_1_p0 (C : Cal) (K : SV → ER) (a0 : SV) (x5 : SV) : ER :=
  eFieldAddr Tryz.prog 58 x5 1 fun x6 => eLoad Tryz.prog 55 x6 fun x7 => eLoad Tryz.prog 70 a0 fun x8 => eNilCk x8 fun x9 => eFieldAddr Tryz.prog 76 x9 2 fun x10 => eFieldAddr Tryz.prog 50 x10 0 fun x11 => eLoad Tryz.prog 3 x11 fun x12 => eLoad Tryz.prog 70 a0 fun x13 => eNilCk x13 fun x14 => eFieldAddr Tryz.prog 76 x14 0 fun x15 => eFieldAddr Tryz.prog 31 x15 2 fun x16 => eLoad Tryz.prog 3 x16 fun x17 => eCallR Tryz.prog C 147 [x7, x12, x17] 130 fun x18 => eExtract x18 0 fun x19 => eExtract x18 1 fun x20 => K (.tup [x19, x20])
noncomputable def kern_step_dup_1_e (C : Cal) (N : Nat) (a0 : SV) (K : SV → ER) : ER :=
  eLoad Tryz.prog 70 a0 fun x1 => eNilCk x1 fun x2 => eFieldAddr Tryz.prog 76 x2 1 fun x3 => eLoad Tryz.prog 23 x3 fun x4 => eNilCk x4 fun x5 => kern_step_dup_1_p0 C K a0 x5
theorem kern_step_dup_1_ee (C : Cal) (N : Nat) (a0 : SV) (K : SV → ER) : eBody Tryz.prog C N Tryz.f146 (Tryz.f146.body.getD .skip) kern_step_dup_1_ea [a0] K = kern_step_dup_1_e C N a0 K := by kernel_rfl
noncomputable def l146 : LeafT := fun C N args K => match args with
  | [a0] => kern_step_dup_1_e C N a0 K
  | _ => eF
theorem lok146 : LeafOk Tryz.prog 146 l146 := ⟨Tryz.f146, Tryz.f146.body.getD .skip, kern_step_dup_1_ea, Tryz.func146, by kernel_rfl, Tryz.call146, fun C N args K H e => by
  unfold l146 at e
  split at e
  · rw [kern_step_dup_1_ee]; exact e
  · exact eF_no e⟩

end Go.Proofs.YtnpcjhcgbcpcoaaGreatDoor
