/- The evaluator's texts of this seat's functions. Written by a program of this session. -/
import Derived.Test.YtjafpcagfgklgaaGreatDoorV
import Derived.Test.YtjafpcagfgklgaaGreatDoorE2
set_option linter.unusedVariables false
set_option maxRecDepth 100000
namespace Go.Proofs.YtjafpcagfgklgaaGreatDoor
open Go.Hl
/- (*halberd/verify.check).next -/
def verify_check_next_ea : Ann := .two (.none) (.join (.two (.none) (.two (.ord [0, 2, 3, 4, 5, 7, 1, 6, 8, 9, 10, 11, 12]) (.none))) (.two (.none) (.none)) [])
noncomputable def verify_check_next_p0 (a0 : SV) (a3 : SV) (k2 : Unit → ER) (x1 : SV) : ER :=
  eNilCk a0 fun x4 => eFieldAddr Tryz.prog 77 x4 4 fun x5 => eFieldAddr Tryz.prog 74 x5 1 fun x6 => eLoad Tryz.prog 71 x1 fun x7 => eLoad Tryz.prog 3 x6 fun x8 => eBin Tryz.prog .add 3 false x8 a3 fun x9 => eBuild Tryz.prog 74 [(0, x7), (1, x9)] fun x10 => eNilCk a0 fun x11 => eFieldAddr Tryz.prog 77 x11 4 fun x12 => eStore Tryz.prog 74 x12 x10 <| k2 (())
noncomputable def verify_check_next_e (C : Cal) (N : Nat) (a0 a1 a2 a3 : SV) (K : SV → ER) : ER :=
  eBox Tryz.prog 71 a1 fun x1 => eJoinC (σ := Unit) (fun (k2 : Unit → ER) =>
  eIfV a2
  (verify_check_next_p0 a0 a3 k2 x1)
  (k2 (()))) fun (s3 : Unit) =>
  K a2
theorem verify_check_next_ee (C : Cal) (N : Nat) (a0 a1 a2 a3 : SV) (K : SV → ER) : eBody Tryz.prog C N Tryz.f82 (Tryz.f82.body.getD .skip) verify_check_next_ea [a0, a1, a2, a3] K = verify_check_next_e C N a0 a1 a2 a3 K := by kernel_rfl
noncomputable def l82 : LeafT := fun C N args K => match args with
  | [a0, a1, a2, a3] => verify_check_next_e C N a0 a1 a2 a3 K
  | _ => eF
theorem lok82 : LeafOk Tryz.prog 82 l82 := .inl ⟨Tryz.f82, Tryz.f82.body.getD .skip, verify_check_next_ea, Tryz.func82, by kernel_rfl, Tryz.call82, fun C N args K H e => by
  unfold l82 at e
  split at e
  · rw [verify_check_next_ee]; exact e
  · exact eF_no e⟩

/- halberd/areg.Wide -/
def areg_Wide_ea : Ann := .two (.none) (.two (.none) (.two (.none) (.join (.two (.none) (.two (.none) (.ord [0, 1, 3, 2, 4, 5, 6]))) (.two (.none) (.none)) [])))
noncomputable def areg_Wide_p0 (C : Cal) (x2 : SV) (x6 : SV) (x9 : SV) (k10 : Unit → ER) : ER :=
  eFieldAddr Tryz.prog 38 x2 1 fun x15 => eLoad Tryz.prog 5 x15 fun x16 => eConvS Tryz.prog 23 3 x9 fun x17 => eBuild Tryz.prog 64 [(0, (.int .i64 7)), (4, x17)] fun x18 => eCallR Tryz.prog C 107 [x6, x16, x18] 0 fun x19 => k10 (())
noncomputable def areg_Wide_p1 (C : Cal) (x2 : SV) (x6 : SV) (x9 : SV) (k10 : Unit → ER) : ER :=
  eFieldAddr Tryz.prog 38 x2 1 fun x20 => eLoad Tryz.prog 5 x20 fun x21 => eCallR Tryz.prog C 109 [x9] 62 fun x22 => fun H => eLoadF Tryz.prog 5 x20 x21 H && (eCallR Tryz.prog C 108 [x22] 64 fun x23 => fun H => eLoadF Tryz.prog 5 x20 x21 H && (eCallR Tryz.prog C 107 [x6, x21, x23] 0 fun x24 => k10 (())) H) H
noncomputable def areg_Wide_p2 (C : Cal) (K : SV → ER) (x2 : SV) (x3 : SV) (x4 : SV) (x6 : SV) (x7 : SV) : ER :=
  eLoad Tryz.prog 38 x3 fun x8 => eCallR Tryz.prog C 62 [x7, x8] 23 fun x9 => eJoinC (σ := Unit) (fun (k10 : Unit → ER) =>
  eFieldAddr Tryz.prog 38 x2 2 fun x12 => eLoad Tryz.prog 5 x12 fun x13 => eBin Tryz.prog .eql 5 false x13 (.int .u8 1) fun x14 => eIfV x14
  (areg_Wide_p0 C x2 x6 x9 k10)
  (areg_Wide_p1 C x2 x6 x9 k10)) fun (s11 : Unit) =>
  eNilCk x6 fun x25 => eFieldAddr Tryz.prog 166 x25 0 fun x26 => eLoad Tryz.prog 71 x26 fun x27 => eStore Tryz.prog 71 x4 x27 <| eLoad Tryz.prog 71 x4 fun x28 => K x28
noncomputable def areg_Wide_e (C : Cal) (N : Nat) (a0 a1 a2 : SV) (K : SV → ER) : ER :=
  eBox Tryz.prog 71 a0 fun x1 => eBox Tryz.prog 38 a1 fun x2 => eBox Tryz.prog 38 a2 fun x3 => eAlloc Tryz.prog 71 fun x4 => eLoad Tryz.prog 71 x1 fun x5 => eCallR Tryz.prog C 106 [x5] 160 fun x6 => eLoad Tryz.prog 38 x2 fun x7 => areg_Wide_p2 C K x2 x3 x4 x6 x7
theorem areg_Wide_ee (C : Cal) (N : Nat) (a0 a1 a2 : SV) (K : SV → ER) : eBody Tryz.prog C N Tryz.f83 (Tryz.f83.body.getD .skip) areg_Wide_ea [a0, a1, a2] K = areg_Wide_e C N a0 a1 a2 K := by kernel_rfl
noncomputable def l83 : LeafT := fun C N args K => match args with
  | [a0, a1, a2] => areg_Wide_e C N a0 a1 a2 K
  | _ => eF
theorem lok83 : LeafOk Tryz.prog 83 l83 := .inl ⟨Tryz.f83, Tryz.f83.body.getD .skip, areg_Wide_ea, Tryz.func83, by kernel_rfl, Tryz.call83, fun C N args K H e => by
  unfold l83 at e
  split at e
  · rw [areg_Wide_ee]; exact e
  · exact eF_no e⟩

/- halberd/areg.Load -/
def areg_Load_ea : Ann := .two (.none) (.two (.none) (.two (.ord [0, 1, 6, 2, 4, 7, 8, 3, 5, 9, 10, 11, 12]) (.two (.join (.none) (.two (.two (.none) (.none)) (.none)) [(45, .any)]) (.two (.none) (.join (.two (.none) (.sub (.two (.none) (.two (.none) (.two (.none) (.two (.none) (.none))))))) (.two (.none) (.two (.none) (.none))) [])))))
noncomputable def areg_Load_p0 (C : Cal) (x5 : SV) (k15 : SV × Unit → ER) (x14 : SV) : ER :=
  eFieldAddr Tryz.prog 64 x14 3 fun x25 => eLoad Tryz.prog 3 x25 fun x26 => eCallR Tryz.prog C 114 [x26] 4 fun x27 => eCallR Tryz.prog C 112 [x5, x27] 4 fun x28 => eUnS .not x28 fun x29 => eHas .any x29 (k15 (x29, ()))
noncomputable def areg_Load_p1 (C : Cal) (x5 : SV) (k15 : SV × Unit → ER) (x14 : SV) : ER :=
  eFieldAddr Tryz.prog 64 x14 2 fun x22 => eLoad Tryz.prog 3 x22 fun x23 => eCallR Tryz.prog C 114 [x23] 4 fun x24 => eIfV x24
  (areg_Load_p0 C x5 k15 x14)
  (eCallR Tryz.prog C 112 [x5, (.bool false)] 4 fun x30 => eUnS .not x30 fun x31 => eHas .any x31 (k15 (x31, ())))
noncomputable def areg_Load_p2 (C : Cal) (x5 : SV) (k15 : SV × Unit → ER) (x14 : SV) : ER :=
  eFieldAddr Tryz.prog 64 x14 5 fun x19 => eLoad Tryz.prog 4 x19 fun x20 => eUnS .not x20 fun x21 => eIfV x21
  (areg_Load_p1 C x5 k15 x14)
  (eCallR Tryz.prog C 112 [x5, (.bool false)] 4 fun x32 => eUnS .not x32 fun x33 => eHas .any x33 (k15 (x33, ())))
noncomputable def areg_Load_p3 (C : Cal) (x5 : SV) (k42 : Unit → ER) (x11 : SV) (x13 : SV) (x14 : SV) (x41 : SV) : ER :=
  eFieldAddr Tryz.prog 64 x14 2 fun x47 => eLoad Tryz.prog 3 x47 fun x48 => eBin Tryz.prog .add 3 false x48 x11 fun x49 => eCallR Tryz.prog C 117 [x5, x49, x13] 64 fun x50 => eStore Tryz.prog 64 x41 x50 <| k42 (())
noncomputable def areg_Load_p4 (C : Cal) (a2 : SV) (x5 : SV) (k42 : Unit → ER) (x11 : SV) (x13 : SV) (x14 : SV) (x41 : SV) : ER :=
  eFieldAddr Tryz.prog 64 x14 2 fun x52 => eLoad Tryz.prog 3 x52 fun x53 => eBin Tryz.prog .add 3 false x53 x11 fun x54 => eCallR Tryz.prog C 118 [x5, x54, x13, a2] 64 fun x55 => eStore Tryz.prog 64 x41 x55 <| k42 (())
noncomputable def areg_Load_p5 (C : Cal) (a2 : SV) (a3 : SV) (x5 : SV) (k42 : Unit → ER) (x11 : SV) (x13 : SV) (x14 : SV) (x41 : SV) (x45 : SV) : ER :=
  eBin Tryz.prog .eql 3 false x45 (.int .i64 3) fun x51 => eIfV x51
  (areg_Load_p4 C a2 x5 k42 x11 x13 x14 x41)
  (eLoad Tryz.prog 64 x14 fun x56 => eCallR Tryz.prog C 119 [x5, x56, x11, x13, a3] 0 fun x57 => k42 (()))
noncomputable def areg_Load_p6 (C : Cal) (a2 : SV) (a3 : SV) (x5 : SV) (k42 : Unit → ER) (x11 : SV) (x13 : SV) (x14 : SV) (x41 : SV) : ER :=
  eFieldAddr Tryz.prog 64 x14 0 fun x44 => eLoad Tryz.prog 3 x44 fun x45 => eBin Tryz.prog .eql 3 false x45 (.int .i64 2) fun x46 => eIfV x46
  (areg_Load_p3 C x5 k42 x11 x13 x14 x41)
  (areg_Load_p5 C a2 a3 x5 k42 x11 x13 x14 x41 x45)
noncomputable def areg_Load_p7 (C : Cal) (K : SV → ER) (x2 : SV) (x3 : SV) (x5 : SV) (x41 : SV) : ER :=
  eFieldAddr Tryz.prog 38 x2 1 fun x58 => eLoad Tryz.prog 5 x58 fun x59 => eLoad Tryz.prog 64 x41 fun x60 => eCallR Tryz.prog C 107 [x5, x59, x60] 0 fun x61 => eCallR Tryz.prog C 115 [x5] 143 fun x62 => eExtract x62 0 fun x63 => eExtract x62 1 fun x64 => eStore Tryz.prog 71 x3 x63 <| eLoad Tryz.prog 71 x3 fun x65 => K (.tup [x65, x64])
noncomputable def areg_Load_p8 (C : Cal) (K : SV → ER) (a2 : SV) (a3 : SV) (x2 : SV) (x3 : SV) (x5 : SV) (x11 : SV) (x13 : SV) (x14 : SV) : ER :=
  eCallR Tryz.prog C 116 [x13] 64 fun x40 => eAlloc Tryz.prog 64 fun x41 => eStore Tryz.prog 64 x41 x40 <| eJoinC (σ := Unit) (fun (k42 : Unit → ER) =>
  areg_Load_p6 C a2 a3 x5 k42 x11 x13 x14 x41) fun (s43 : Unit) =>
  areg_Load_p7 C K x2 x3 x5 x41
noncomputable def areg_Load_p9 (C : Cal) (x5 : SV) (k15 : SV × Unit → ER) (x14 : SV) : ER :=
  eLoad Tryz.prog 64 x14 fun x17 => eCallR Tryz.prog C 113 [x17] 4 fun x18 => eIfV x18
  (areg_Load_p2 C x5 k15 x14)
  (eCallR Tryz.prog C 112 [x5, (.bool false)] 4 fun x34 => eUnS .not x34 fun x35 => eHas .any x35 (k15 (x35, ())))
noncomputable def areg_Load_p10 (C : Cal) (K : SV → ER) (a2 : SV) (a3 : SV) (x2 : SV) (x3 : SV) (x5 : SV) (s16 : SV × Unit) (x11 : SV) (x13 : SV) (x14 : SV) : ER :=
  eIfV s16.1
  (eCallR Tryz.prog C 115 [x5] 143 fun x36 => eExtract x36 0 fun x37 => eExtract x36 1 fun x38 => eStore Tryz.prog 71 x3 x37 <| eLoad Tryz.prog 71 x3 fun x39 => K (.tup [x39, x38]))
  (areg_Load_p8 C K a2 a3 x2 x3 x5 x11 x13 x14)
noncomputable def areg_Load_p11 (C : Cal) (K : SV → ER) (a2 : SV) (a3 : SV) (x2 : SV) (x3 : SV) (x5 : SV) (x7 : SV) (x8 : SV) (x9 : SV) (x10 : SV) : ER :=
  eConvS Tryz.prog 35 3 x10 fun x11 => eCallR Tryz.prog C 110 [x5, x8] 64 fun x12 => fun H => eLoadF Tryz.prog 35 x7 x10 H && (fun H => eLoadF Tryz.prog 38 x2 x9 H && (eCallR Tryz.prog C 111 [x9] 3 fun x13 => fun H => eLoadF Tryz.prog 35 x7 x10 H && (eAlloc Tryz.prog 64 fun x14 => eStore Tryz.prog 64 x14 x12 <| fun H => eLoadF Tryz.prog 35 x7 x10 H && (eJoinC (σ := SV × Unit) (fun (k15 : SV × Unit → ER) =>
  areg_Load_p9 C x5 k15 x14) fun (s16 : SV × Unit) =>
  areg_Load_p10 C K a2 a3 x2 x3 x5 s16 x11 x13 x14) H) H) H) H
noncomputable def areg_Load_e (C : Cal) (N : Nat) (a0 a1 a2 a3 : SV) (K : SV → ER) : ER :=
  eBox Tryz.prog 71 a0 fun x1 => eBox Tryz.prog 38 a1 fun x2 => eAlloc Tryz.prog 71 fun x3 => eLoad Tryz.prog 71 x1 fun x4 => eCallR Tryz.prog C 106 [x4] 160 fun x5 => eFieldAddr Tryz.prog 38 x2 2 fun x6 => eFieldAddr Tryz.prog 38 x2 3 fun x7 => eLoad Tryz.prog 5 x6 fun x8 => eLoad Tryz.prog 38 x2 fun x9 => eLoad Tryz.prog 35 x7 fun x10 => areg_Load_p11 C K a2 a3 x2 x3 x5 x7 x8 x9 x10
theorem areg_Load_ee (C : Cal) (N : Nat) (a0 a1 a2 a3 : SV) (K : SV → ER) : eBody Tryz.prog C N Tryz.f84 (Tryz.f84.body.getD .skip) areg_Load_ea [a0, a1, a2, a3] K = areg_Load_e C N a0 a1 a2 a3 K := by kernel_rfl
noncomputable def l84 : LeafT := fun C N args K => match args with
  | [a0, a1, a2, a3] => areg_Load_e C N a0 a1 a2 a3 K
  | _ => eF
theorem lok84 : LeafOk Tryz.prog 84 l84 := .inl ⟨Tryz.f84, Tryz.f84.body.getD .skip, areg_Load_ea, Tryz.func84, by kernel_rfl, Tryz.call84, fun C N args K H e => by
  unfold l84 at e
  split at e
  · rw [areg_Load_ee]; exact e
  · exact eF_no e⟩

/- halberd/areg.Store -/
def areg_Store_ea : Ann := .two (.none) (.two (.none) (.two (.ord [0, 1, 6, 2, 4, 7, 8, 3, 5, 9, 10, 11, 12]) (.two (.none) (.join (.two (.none) (.two (.none) (.none))) (.two (.join (.none) (.two (.two (.none) (.none)) (.none)) [(59, .any)]) (.join (.two (.none) (.sub (.two (.none) (.two (.none) (.join (.two (.none) (.two (.none) (.none))) (.two (.two (.none) (.none)) (.none)) [(79, .any)]))))) (.two (.none) (.none)) [])) []))))
noncomputable def areg_Store_p0 (C : Cal) (x5 : SV) (k27 : SV × Unit → ER) (x14 : SV) : ER :=
  eFieldAddr Tryz.prog 64 x14 3 fun x37 => eLoad Tryz.prog 3 x37 fun x38 => eCallR Tryz.prog C 114 [x38] 4 fun x39 => eCallR Tryz.prog C 112 [x5, x39] 4 fun x40 => eUnS .not x40 fun x41 => eIfV x41
  (eHas .any (.bool true) (k27 ((.bool true), ())))
  (eNilCk x5 fun x42 => eFieldAddr Tryz.prog 166 x42 1 fun x43 => eLoad Tryz.prog 4 x43 fun x44 => eHas .any x44 (k27 (x44, ())))
noncomputable def areg_Store_p1 (C : Cal) (x5 : SV) (k27 : SV × Unit → ER) : ER :=
  eCallR Tryz.prog C 112 [x5, (.bool false)] 4 fun x45 => eUnS .not x45 fun x46 => eIfV x46
  (eHas .any (.bool true) (k27 ((.bool true), ())))
  (eNilCk x5 fun x47 => eFieldAddr Tryz.prog 166 x47 1 fun x48 => eLoad Tryz.prog 4 x48 fun x49 => eHas .any x49 (k27 (x49, ())))
noncomputable def areg_Store_p2 (C : Cal) (x5 : SV) (k27 : SV × Unit → ER) : ER :=
  eCallR Tryz.prog C 112 [x5, (.bool false)] 4 fun x50 => eUnS .not x50 fun x51 => eIfV x51
  (eHas .any (.bool true) (k27 ((.bool true), ())))
  (eNilCk x5 fun x52 => eFieldAddr Tryz.prog 166 x52 1 fun x53 => eLoad Tryz.prog 4 x53 fun x54 => eHas .any x54 (k27 (x54, ())))
noncomputable def areg_Store_p3 (C : Cal) (x5 : SV) (k27 : SV × Unit → ER) (x14 : SV) : ER :=
  eFieldAddr Tryz.prog 64 x14 5 fun x31 => eLoad Tryz.prog 4 x31 fun x32 => eUnS .not x32 fun x33 => eIfV x33
  (eFieldAddr Tryz.prog 64 x14 2 fun x34 => eLoad Tryz.prog 3 x34 fun x35 => eCallR Tryz.prog C 114 [x35] 4 fun x36 => eIfV x36
  (areg_Store_p0 C x5 k27 x14)
  (areg_Store_p1 C x5 k27))
  (areg_Store_p2 C x5 k27)
noncomputable def areg_Store_p4 (C : Cal) (x5 : SV) (k27 : SV × Unit → ER) : ER :=
  eCallR Tryz.prog C 112 [x5, (.bool false)] 4 fun x55 => eUnS .not x55 fun x56 => eIfV x56
  (eHas .any (.bool true) (k27 ((.bool true), ())))
  (eNilCk x5 fun x57 => eFieldAddr Tryz.prog 166 x57 1 fun x58 => eLoad Tryz.prog 4 x58 fun x59 => eHas .any x59 (k27 (x59, ())))
noncomputable def areg_Store_p5 (C : Cal) (x5 : SV) (k64 : Unit → ER) (x11 : SV) (x13 : SV) (x14 : SV) (x17 : SV) : ER :=
  eFieldAddr Tryz.prog 64 x14 2 fun x69 => eLoad Tryz.prog 3 x69 fun x70 => eBin Tryz.prog .add 3 false x70 x11 fun x71 => eLoad Tryz.prog 64 x17 fun x72 => eCallR Tryz.prog C 121 [x5, x71, x13, x72] 0 fun x73 => k64 (())
noncomputable def areg_Store_p6 (C : Cal) (a2 : SV) (x5 : SV) (k64 : Unit → ER) (x11 : SV) (x13 : SV) (x14 : SV) (x17 : SV) : ER :=
  eFieldAddr Tryz.prog 64 x17 0 fun x78 => eLoad Tryz.prog 3 x78 fun x79 => eBin Tryz.prog .eql 3 false x79 (.int .i64 1) fun x80 => eCallR Tryz.prog C 112 [x5, x80] 4 fun x81 => eLoad Tryz.prog 64 x14 fun x82 => eCallR Tryz.prog C 119 [x5, x82, x11, x13, a2] 0 fun x83 => k64 (())
noncomputable def areg_Store_p7 (C : Cal) (a2 : SV) (x5 : SV) (k64 : Unit → ER) (x11 : SV) (x13 : SV) (x14 : SV) (x17 : SV) (x67 : SV) : ER :=
  eJoinC (σ := SV × Unit) (fun (k74 : SV × Unit → ER) =>
  eBin Tryz.prog .eql 3 false x67 (.int .i64 5) fun x76 => eIfV x76
  (eHas .any x76 (k74 (x76, ())))
  (eBin Tryz.prog .eql 3 false x67 (.int .i64 6) fun x77 => eHas .any x77 (k74 (x77, ())))) fun (s75 : SV × Unit) =>
  eIfV s75.1
  (areg_Store_p6 C a2 x5 k64 x11 x13 x14 x17)
  (eNilCk x5 fun x84 => eFieldAddr Tryz.prog 166 x84 1 fun x85 => eStore Tryz.prog 4 x85 (.bool true) <| k64 (()))
noncomputable def areg_Store_p8 (C : Cal) (a2 : SV) (x5 : SV) (k64 : Unit → ER) (x11 : SV) (x13 : SV) (x14 : SV) (x17 : SV) : ER :=
  eFieldAddr Tryz.prog 64 x14 0 fun x66 => eLoad Tryz.prog 3 x66 fun x67 => eBin Tryz.prog .eql 3 false x67 (.int .i64 2) fun x68 => eIfV x68
  (areg_Store_p5 C x5 k64 x11 x13 x14 x17)
  (areg_Store_p7 C a2 x5 k64 x11 x13 x14 x17 x67)
noncomputable def areg_Store_p9 (C : Cal) (K : SV → ER) (a2 : SV) (x3 : SV) (x5 : SV) (x11 : SV) (x13 : SV) (x14 : SV) (x17 : SV) : ER :=
  eJoinC (σ := Unit) (fun (k64 : Unit → ER) =>
  areg_Store_p8 C a2 x5 k64 x11 x13 x14 x17) fun (s65 : Unit) =>
  eCallR Tryz.prog C 115 [x5] 143 fun x86 => eExtract x86 0 fun x87 => eExtract x86 1 fun x88 => eStore Tryz.prog 71 x3 x87 <| eLoad Tryz.prog 71 x3 fun x89 => K (.tup [x89, x88])
noncomputable def areg_Store_p10 (C : Cal) (K : SV → ER) (a2 : SV) (x3 : SV) (x5 : SV) (s28 : SV × Unit) (x11 : SV) (x13 : SV) (x14 : SV) (x17 : SV) : ER :=
  eIfV s28.1
  (eCallR Tryz.prog C 115 [x5] 143 fun x60 => eExtract x60 0 fun x61 => eExtract x60 1 fun x62 => eStore Tryz.prog 71 x3 x61 <| eLoad Tryz.prog 71 x3 fun x63 => K (.tup [x63, x62]))
  (areg_Store_p9 C K a2 x3 x5 x11 x13 x14 x17)
noncomputable def areg_Store_p11 (C : Cal) (x2 : SV) (x5 : SV) (k18 : Unit → ER) (x17 : SV) : ER :=
  eFieldAddr Tryz.prog 38 x2 0 fun x20 => eLoad Tryz.prog 5 x20 fun x21 => eBin Tryz.prog .and 5 false x21 (.int .u8 7) fun x22 => eBin Tryz.prog .eql 5 false x22 (.int .u8 3) fun x23 => eIfV x23
  (eFieldAddr Tryz.prog 38 x2 2 fun x24 => eLoad Tryz.prog 5 x24 fun x25 => eCallR Tryz.prog C 110 [x5, x25] 64 fun x26 => eStore Tryz.prog 64 x17 x26 <| k18 (()))
  (k18 (()))
noncomputable def areg_Store_p12 (C : Cal) (K : SV → ER) (a2 : SV) (x3 : SV) (x5 : SV) (x11 : SV) (x13 : SV) (x14 : SV) (x17 : SV) : ER :=
  eJoinC (σ := SV × Unit) (fun (k27 : SV × Unit → ER) =>
  eLoad Tryz.prog 64 x14 fun x29 => eCallR Tryz.prog C 113 [x29] 4 fun x30 => eIfV x30
  (areg_Store_p3 C x5 k27 x14)
  (areg_Store_p4 C x5 k27)) fun (s28 : SV × Unit) =>
  areg_Store_p10 C K a2 x3 x5 s28 x11 x13 x14 x17
noncomputable def areg_Store_p13 (C : Cal) (K : SV → ER) (a2 : SV) (x2 : SV) (x3 : SV) (x5 : SV) (x7 : SV) (x9 : SV) (x10 : SV) (x11 : SV) (x12 : SV) : ER :=
  fun H => eLoadF Tryz.prog 35 x7 x10 H && (fun H => eLoadF Tryz.prog 38 x2 x9 H && (eCallR Tryz.prog C 111 [x9] 3 fun x13 => fun H => eLoadF Tryz.prog 35 x7 x10 H && (eAlloc Tryz.prog 64 fun x14 => eStore Tryz.prog 64 x14 x12 <| fun H => eLoadF Tryz.prog 35 x7 x10 H && (eLoad Tryz.prog 38 x2 fun x15 => eCallR Tryz.prog C 120 [x15] 64 fun x16 => eAlloc Tryz.prog 64 fun x17 => eStore Tryz.prog 64 x17 x16 <| eJoinC (σ := Unit) (fun (k18 : Unit → ER) =>
  areg_Store_p11 C x2 x5 k18 x17) fun (s19 : Unit) =>
  areg_Store_p12 C K a2 x3 x5 x11 x13 x14 x17) H) H) H) H
noncomputable def areg_Store_e (C : Cal) (N : Nat) (a0 a1 a2 : SV) (K : SV → ER) : ER :=
  eBox Tryz.prog 71 a0 fun x1 => eBox Tryz.prog 38 a1 fun x2 => eAlloc Tryz.prog 71 fun x3 => eLoad Tryz.prog 71 x1 fun x4 => eCallR Tryz.prog C 106 [x4] 160 fun x5 => eFieldAddr Tryz.prog 38 x2 1 fun x6 => eFieldAddr Tryz.prog 38 x2 3 fun x7 => eLoad Tryz.prog 5 x6 fun x8 => eLoad Tryz.prog 38 x2 fun x9 => eLoad Tryz.prog 35 x7 fun x10 => eConvS Tryz.prog 35 3 x10 fun x11 => eCallR Tryz.prog C 110 [x5, x8] 64 fun x12 => areg_Store_p13 C K a2 x2 x3 x5 x7 x9 x10 x11 x12
theorem areg_Store_ee (C : Cal) (N : Nat) (a0 a1 a2 : SV) (K : SV → ER) : eBody Tryz.prog C N Tryz.f85 (Tryz.f85.body.getD .skip) areg_Store_ea [a0, a1, a2] K = areg_Store_e C N a0 a1 a2 K := by kernel_rfl
noncomputable def l85 : LeafT := fun C N args K => match args with
  | [a0, a1, a2] => areg_Store_e C N a0 a1 a2 K
  | _ => eF
theorem lok85 : LeafOk Tryz.prog 85 l85 := .inl ⟨Tryz.f85, Tryz.f85.body.getD .skip, areg_Store_ea, Tryz.func85, by kernel_rfl, Tryz.call85, fun C N args K H e => by
  unfold l85 at e
  split at e
  · rw [areg_Store_ee]; exact e
  · exact eF_no e⟩

/- halberd/areg.Op -/
def areg_Op_ea : Ann := .two (.none) (.two (.none) (.two (.ord [0, 3, 1, 2, 7, 4, 5, 6, 8]) (.two (.none) (.join (.two (.none) (.two (.none) (.none))) (.two (.none) (.join (.two (.none) (.two (.none) (.none))) (.join (.sub (.two (.none) (.two (.none) (.join (.none) (.two (.none) (.join (.none) (.two (.ord [0, 1, 3, 4, 6, 2, 5, 7, 8, 9]) (.join (.none) (.two (.two (.none) (.ord [0, 1, 2, 3, 4, 5])) (.none)) [(82, .any)])) [(53, .any)])) [(42, .any)])))) (.two (.none) (.none)) []) [])) []))))
noncomputable def areg_Op_p0 (x9 : SV) (k42 : SV × Unit → ER) : ER :=
  eBin Tryz.prog .eql 5 false x9 (.int .u8 0) fun x49 => eIfV x49
  (eHas .any (.bool true) (k42 ((.bool true), ())))
  (eBin Tryz.prog .eql 5 false x9 (.int .u8 16) fun x50 => eHas .any x50 (k42 (x50, ())))
noncomputable def areg_Op_p1 (x9 : SV) (k42 : SV × Unit → ER) (x24 : SV) : ER :=
  eFieldAddr Tryz.prog 64 x24 0 fun x46 => eLoad Tryz.prog 3 x46 fun x47 => eBin Tryz.prog .eql 3 false x47 (.int .i64 1) fun x48 => eIfV x48
  (areg_Op_p0 x9 k42)
  (eHas .any (.bool false) (k42 ((.bool false), ())))
noncomputable def areg_Op_p2 (C : Cal) (x2 : SV) (x5 : SV) (x9 : SV) (k30 : Unit → ER) (x15 : SV) (x24 : SV) : ER :=
  eFieldAddr Tryz.prog 38 x2 1 fun x51 => eFieldAddr Tryz.prog 64 x24 1 fun x52 => eLoad Tryz.prog 5 x51 fun x53 => eLoad Tryz.prog 64 x15 fun x54 => eLoad Tryz.prog 62 x52 fun x55 => eCallR Tryz.prog C 123 [x5, x9, x54, x55] 64 fun x56 => fun H => eLoadF Tryz.prog 5 x51 x53 H && (eCallR Tryz.prog C 107 [x5, x53, x56] 0 fun x57 => k30 (())) H
noncomputable def areg_Op_p3 (C : Cal) (x5 : SV) (k58 : SV × Unit → ER) (x24 : SV) : ER :=
  eFieldAddr Tryz.prog 64 x24 0 fun x63 => eLoad Tryz.prog 3 x63 fun x64 => eBin Tryz.prog .eql 3 false x64 (.int .i64 1) fun x65 => eCallR Tryz.prog C 112 [x5, x65] 4 fun x66 => eHas .any x66 (k58 (x66, ()))
noncomputable def areg_Op_p4 (C : Cal) (x2 : SV) (x5 : SV) (x9 : SV) (k30 : Unit → ER) (x12 : SV) (x24 : SV) (x69 : SV) : ER :=
  eFieldAddr Tryz.prog 64 x24 1 fun x70 => eLoad Tryz.prog 62 x70 fun x71 => eCallR Tryz.prog C 124 [x9, x12, x69, x71] 180 fun x72 => eExtract x72 0 fun x73 => eExtract x72 1 fun x74 => eAlloc Tryz.prog 62 fun x75 => eStore Tryz.prog 62 x75 x73 <| eFieldAddr Tryz.prog 38 x2 1 fun x76 => eLoad Tryz.prog 5 x76 fun x77 => eLoad Tryz.prog 62 x75 fun x78 => eCallR Tryz.prog C 108 [x78] 64 fun x79 => fun H => eLoadF Tryz.prog 5 x76 x77 H && (eCallR Tryz.prog C 107 [x5, x77, x79] 0 fun x80 => k30 (())) H
noncomputable def areg_Op_p5 (C : Cal) (x5 : SV) (k58 : SV × Unit → ER) (x15 : SV) (x24 : SV) : ER :=
  eFieldAddr Tryz.prog 64 x15 0 fun x60 => eLoad Tryz.prog 3 x60 fun x61 => eBin Tryz.prog .eql 3 false x61 (.int .i64 1) fun x62 => eIfV x62
  (areg_Op_p3 C x5 k58 x24)
  (eCallR Tryz.prog C 112 [x5, (.bool false)] 4 fun x67 => eHas .any x67 (k58 (x67, ())))
noncomputable def areg_Op_p6 (C : Cal) (x2 : SV) (x5 : SV) (x9 : SV) (k30 : Unit → ER) (x12 : SV) (x15 : SV) (x24 : SV) : ER :=
  eJoinC (σ := SV × Unit) (fun (k58 : SV × Unit → ER) =>
  areg_Op_p5 C x5 k58 x15 x24) fun (s59 : SV × Unit) =>
  eIfV s59.1
  (eFieldAddr Tryz.prog 64 x15 1 fun x68 => eLoad Tryz.prog 62 x68 fun x69 => areg_Op_p4 C x2 x5 x9 k30 x12 x24 x69)
  (k30 (()))
noncomputable def areg_Op_p7 (C : Cal) (x9 : SV) (k42 : SV × Unit → ER) (x12 : SV) (x15 : SV) (x24 : SV) : ER :=
  eIfV x12
  (eLoad Tryz.prog 64 x15 fun x44 => eCallR Tryz.prog C 113 [x44] 4 fun x45 => eIfV x45
  (areg_Op_p1 x9 k42 x24)
  (eHas .any (.bool false) (k42 ((.bool false), ()))))
  (eHas .any (.bool false) (k42 ((.bool false), ())))
noncomputable def areg_Op_p8 (C : Cal) (x2 : SV) (x5 : SV) (x9 : SV) (k30 : Unit → ER) (s36 : SV × Unit) (x12 : SV) (x15 : SV) (x24 : SV) : ER :=
  eIfV s36.1
  (eFieldAddr Tryz.prog 38 x2 1 fun x38 => eLoad Tryz.prog 5 x38 fun x39 => eLoad Tryz.prog 64 x24 fun x40 => eCallR Tryz.prog C 107 [x5, x39, x40] 0 fun x41 => k30 (()))
  (eJoinC (σ := SV × Unit) (fun (k42 : SV × Unit → ER) =>
  areg_Op_p7 C x9 k42 x12 x15 x24) fun (s43 : SV × Unit) =>
  eIfV s43.1
  (areg_Op_p2 C x2 x5 x9 k30 x15 x24)
  (areg_Op_p6 C x2 x5 x9 k30 x12 x15 x24))
noncomputable def areg_Op_p9 (C : Cal) (x2 : SV) (x5 : SV) (x9 : SV) (k30 : Unit → ER) (x12 : SV) (x15 : SV) (x24 : SV) : ER :=
  eJoinC (σ := SV × Unit) (fun (k35 : SV × Unit → ER) =>
  eBin Tryz.prog .eql 5 false x9 (.int .u8 176) fun x37 => eIfV x37
  (eHas .any x12 (k35 (x12, ())))
  (eHas .any (.bool false) (k35 ((.bool false), ())))) fun (s36 : SV × Unit) =>
  areg_Op_p8 C x2 x5 x9 k30 s36 x12 x15 x24
noncomputable def areg_Op_p10 (C : Cal) (K : SV → ER) (x2 : SV) (x3 : SV) (x5 : SV) (x9 : SV) (x12 : SV) (x15 : SV) (x24 : SV) : ER :=
  eJoinC (σ := Unit) (fun (k30 : Unit → ER) =>
  eNilCk x5 fun x32 => eFieldAddr Tryz.prog 166 x32 1 fun x33 => eLoad Tryz.prog 4 x33 fun x34 => eIfV x34
  (k30 (()))
  (areg_Op_p9 C x2 x5 x9 k30 x12 x15 x24)) fun (s31 : Unit) =>
  eCallR Tryz.prog C 115 [x5] 143 fun x81 => eExtract x81 0 fun x82 => eExtract x81 1 fun x83 => eStore Tryz.prog 71 x3 x82 <| eLoad Tryz.prog 71 x3 fun x84 => K (.tup [x84, x83])
noncomputable def areg_Op_p11 (C : Cal) (x2 : SV) (x5 : SV) (x9 : SV) (k16 : Unit → ER) (x15 : SV) : ER :=
  eBin Tryz.prog .neq 5 false x9 (.int .u8 176) fun x18 => eIfV x18
  (eFieldAddr Tryz.prog 38 x2 1 fun x19 => eLoad Tryz.prog 5 x19 fun x20 => eCallR Tryz.prog C 110 [x5, x20] 64 fun x21 => eStore Tryz.prog 64 x15 x21 <| k16 (()))
  (k16 (()))
noncomputable def areg_Op_p12 (C : Cal) (K : SV → ER) (x2 : SV) (x3 : SV) (x5 : SV) (x9 : SV) (x12 : SV) (x15 : SV) : ER :=
  eCallR Tryz.prog C 109 [(.int .u64 0)] 62 fun x22 => eCallR Tryz.prog C 108 [x22] 64 fun x23 => eAlloc Tryz.prog 64 fun x24 => eStore Tryz.prog 64 x24 x23 <| eJoinC (σ := Unit) (fun (k25 : Unit → ER) =>
  eBin Tryz.prog .neq 5 false x9 (.int .u8 128) fun x27 => eIfV x27
  (eLoad Tryz.prog 38 x2 fun x28 => eCallR Tryz.prog C 122 [x5, x28] 64 fun x29 => eStore Tryz.prog 64 x24 x29 <| k25 (()))
  (k25 (()))) fun (s26 : Unit) =>
  areg_Op_p10 C K x2 x3 x5 x9 x12 x15 x24
noncomputable def areg_Op_p13 (C : Cal) (K : SV → ER) (x2 : SV) (x3 : SV) (x5 : SV) (x6 : SV) (x7 : SV) : ER :=
  eLoad Tryz.prog 5 x6 fun x8 => eBin Tryz.prog .and 5 false x8 (.int .u8 240) fun x9 => eLoad Tryz.prog 5 x7 fun x10 => eBin Tryz.prog .and 5 false x10 (.int .u8 7) fun x11 => eBin Tryz.prog .eql 5 false x11 (.int .u8 7) fun x12 => eCallR Tryz.prog C 109 [(.int .u64 0)] 62 fun x13 => eCallR Tryz.prog C 108 [x13] 64 fun x14 => eAlloc Tryz.prog 64 fun x15 => eStore Tryz.prog 64 x15 x14 <| eJoinC (σ := Unit) (fun (k16 : Unit → ER) =>
  areg_Op_p11 C x2 x5 x9 k16 x15) fun (s17 : Unit) =>
  areg_Op_p12 C K x2 x3 x5 x9 x12 x15
noncomputable def areg_Op_e (C : Cal) (N : Nat) (a0 a1 : SV) (K : SV → ER) : ER :=
  eBox Tryz.prog 71 a0 fun x1 => eBox Tryz.prog 38 a1 fun x2 => eAlloc Tryz.prog 71 fun x3 => eLoad Tryz.prog 71 x1 fun x4 => eCallR Tryz.prog C 106 [x4] 160 fun x5 => eFieldAddr Tryz.prog 38 x2 0 fun x6 => eFieldAddr Tryz.prog 38 x2 0 fun x7 => areg_Op_p13 C K x2 x3 x5 x6 x7
theorem areg_Op_ee (C : Cal) (N : Nat) (a0 a1 : SV) (K : SV → ER) : eBody Tryz.prog C N Tryz.f86 (Tryz.f86.body.getD .skip) areg_Op_ea [a0, a1] K = areg_Op_e C N a0 a1 K := by kernel_rfl
noncomputable def l86 : LeafT := fun C N args K => match args with
  | [a0, a1] => areg_Op_e C N a0 a1 K
  | _ => eF
theorem lok86 : LeafOk Tryz.prog 86 l86 := .inl ⟨Tryz.f86, Tryz.f86.body.getD .skip, areg_Op_ea, Tryz.func86, by kernel_rfl, Tryz.call86, fun C N args K H e => by
  unfold l86 at e
  split at e
  · rw [areg_Op_ee]; exact e
  · exact eF_no e⟩

/- halberd/areg.Exit -/
def areg_Exit_ea : Ann := .two (.none) (.two (.none) (.join (.none) (.none) [(4, .any)]))
noncomputable def areg_Exit_p0 (k6 : SV × Unit → ER) (x1 : SV) (x5 : SV) (x13 : SV) : ER :=
  eIndexAddrS Tryz.prog 65 x13 (.int .i64 0) fun x14 => eFieldAddr Tryz.prog 64 x14 1 fun x15 => eFieldAddr Tryz.prog 62 x15 2 fun x16 => eLoad Tryz.prog 23 x16 fun x17 => eFieldAddr Tryz.prog 53 x5 2 fun x18 => eLoad Tryz.prog 23 x18 fun x19 => eBin Tryz.prog .leq 23 false x17 x19 fun x20 => eIfV x20
  (eFieldAddr Tryz.prog 71 x1 2 fun x21 => eLoad Tryz.prog 36 x21 fun x22 => eLenS Tryz.prog [36] [x22] fun x23 => eBin Tryz.prog .eql 3 false x23 (.int .i64 0) fun x24 => eHas .any x24 (k6 (x24, ())))
  (eHas .any (.bool false) (k6 ((.bool false), ())))
noncomputable def areg_Exit_p1 (k6 : SV × Unit → ER) (x1 : SV) (x5 : SV) : ER :=
  eFieldAddr Tryz.prog 71 x1 0 fun x8 => eIndexAddrS Tryz.prog 65 x8 (.int .i64 0) fun x9 => eFieldAddr Tryz.prog 64 x9 0 fun x10 => eLoad Tryz.prog 3 x10 fun x11 => eBin Tryz.prog .eql 3 false x11 (.int .i64 1) fun x12 => eIfV x12
  (eFieldAddr Tryz.prog 71 x1 0 fun x13 => areg_Exit_p0 k6 x1 x5 x13)
  (eHas .any (.bool false) (k6 ((.bool false), ())))
noncomputable def areg_Exit_e (C : Cal) (N : Nat) (a0 a1 : SV) (K : SV → ER) : ER :=
  eBox Tryz.prog 71 a0 fun x1 => eCallR Tryz.prog C 17 [a1] 54 fun x2 => eExtract x2 0 fun x3 => eExtract x2 1 fun x4 => eAlloc Tryz.prog 53 fun x5 => eStore Tryz.prog 53 x5 x3 <| eJoinC (σ := SV × Unit) (fun (k6 : SV × Unit → ER) =>
  eIfV x4
  (areg_Exit_p1 k6 x1 x5)
  (eHas .any (.bool false) (k6 ((.bool false), ())))) fun (s7 : SV × Unit) =>
  K s7.1
theorem areg_Exit_ee (C : Cal) (N : Nat) (a0 a1 : SV) (K : SV → ER) : eBody Tryz.prog C N Tryz.f87 (Tryz.f87.body.getD .skip) areg_Exit_ea [a0, a1] K = areg_Exit_e C N a0 a1 K := by kernel_rfl
noncomputable def l87 : LeafT := fun C N args K => match args with
  | [a0, a1] => areg_Exit_e C N a0 a1 K
  | _ => eF
theorem lok87 : LeafOk Tryz.prog 87 l87 := .inl ⟨Tryz.f87, Tryz.f87.body.getD .skip, areg_Exit_ea, Tryz.func87, by kernel_rfl, Tryz.call87, fun C N args K H e => by
  unfold l87 at e
  split at e
  · rw [areg_Exit_ee]; exact e
  · exact eF_no e⟩

/- halberd/areg.Call -/
def areg_Call_ea : Ann := .two (.none) (.two (.none) (.two (.none) (.two (.two (.none) (.two (.two (.none) (.none)) (.none))) (.two (.none) (.two (.two (.none) (.sub (.loop [(40, .any)] (.two (.none) (.two (.two (.none) (.none)) (.two (.sub (.two (.none) (.two (.none) (.join (.two (.none) (.two (.ord [0, 1, 3, 4, 5, 6, 7, 8, 9, 2, 10, 11]) (.none))) (.two (.none) (.two (.two (.none) (.none)) (.none))) [])))) (.none))))))) (.two (.none) (.two (.two (.none) (.sub (.loop [(16, .any)] (.two (.two (.none) (.two (.none) (.none))) (.two (.sub (.none)) (.none)))))) (.two (.ord [0, 2, 3, 4, 1, 5, 6]) (.two (.none) (.none))))))))))
noncomputable def areg_Call_p0 (C : Cal) (x4 : SV) (k29 : Unit → ER) (s21 : SV × Unit) (x16 : SV) (x24 : SV) (x28 : SV) : ER :=
  eBin Tryz.prog .add 3 false s21.1 (.int .i64 2) fun x35 => eNilCk x4 fun x36 => eFieldAddr Tryz.prog 166 x36 0 fun x37 => eFieldAddr Tryz.prog 71 x37 0 fun x38 => eIndexAddrS Tryz.prog 65 x38 x35 fun x39 => eLoad Tryz.prog 64 x28 fun x40 => eLoad Tryz.prog 64 x39 fun x41 => eCallR Tryz.prog C 126 [x16, x24, x40, x41] 0 fun x42 => k29 (())
noncomputable def areg_Call_p1 (C : Cal) (K : SV → ER) (x2 : SV) (x4 : SV) (k20 : SV × Unit → ER) (s21 : SV × Unit) : ER :=
  eNilCk x4 fun x43 => eFieldAddr Tryz.prog 166 x43 1 fun x44 => eLoad Tryz.prog 4 x44 fun x45 => eIfV x45
  (eCallR Tryz.prog C 115 [x4] 143 fun x46 => eExtract x46 0 fun x47 => eExtract x46 1 fun x48 => eStore Tryz.prog 71 x2 x47 <| eLoad Tryz.prog 71 x2 fun x49 => K (.tup [x49, x48]))
  (eBin Tryz.prog .add 3 false s21.1 (.int .i64 1) fun x50 => eHas .any x50 (k20 (x50, ())))
noncomputable def areg_Call_p2 (C : Cal) (K : SV → ER) (x2 : SV) (x4 : SV) (k20 : SV × Unit → ER) (s21 : SV × Unit) (x16 : SV) (x23 : SV) : ER :=
  eLoad Tryz.prog 5 x23 fun x24 => eBin Tryz.prog .add 3 false s21.1 (.int .i64 1) fun x25 => eConvS Tryz.prog 3 5 x25 fun x26 => eCallR Tryz.prog C 110 [x4, x26] 64 fun x27 => eAlloc Tryz.prog 64 fun x28 => eStore Tryz.prog 64 x28 x27 <| eJoinC (σ := Unit) (fun (k29 : Unit → ER) =>
  eNilCk x4 fun x31 => eFieldAddr Tryz.prog 166 x31 1 fun x32 => eLoad Tryz.prog 4 x32 fun x33 => eUnS .not x33 fun x34 => eIfV x34
  (areg_Call_p0 C x4 k29 s21 x16 x24 x28)
  (k29 (()))) fun (s30 : Unit) =>
  areg_Call_p1 C K x2 x4 k20 s21
noncomputable def areg_Call_p3 (x4 : SV) (k55 : SV × Unit → ER) (s56 : SV × Unit) : ER :=
  eBuild Tryz.prog 64 [] fun x58 => eNilCk x4 fun x59 => eFieldAddr Tryz.prog 166 x59 0 fun x60 => eFieldAddr Tryz.prog 71 x60 0 fun x61 => eIndexAddrS Tryz.prog 65 x61 s56.1 fun x62 => eStore Tryz.prog 64 x62 x58 <| eBin Tryz.prog .add 3 false s56.1 (.int .i64 1) fun x63 => eHas .any x63 (k55 (x63, ()))
noncomputable def areg_Call_p4 (C : Cal) (K : SV → ER) (x2 : SV) (x4 : SV) (x54 : SV) : ER :=
  eNilCk x4 fun x64 => eFieldAddr Tryz.prog 166 x64 0 fun x65 => eFieldAddr Tryz.prog 71 x65 0 fun x66 => eLoad Tryz.prog 64 x54 fun x67 => eIndexAddrS Tryz.prog 65 x66 (.int .i64 0) fun x68 => eStore Tryz.prog 64 x68 x67 <| eCallR Tryz.prog C 115 [x4] 143 fun x69 => eExtract x69 0 fun x70 => eExtract x69 1 fun x71 => eStore Tryz.prog 71 x2 x70 <| eLoad Tryz.prog 71 x2 fun x72 => K (.tup [x72, x71])
noncomputable def areg_Call_p5 (C : Cal) (K : SV → ER) (N : Nat) (a1 : SV) (x2 : SV) (x4 : SV) (x16 : SV) : ER :=
  eCallR Tryz.prog C 127 [] 191 fun x51 => eLookupS Tryz.prog 191 x51 a1 false fun x52 => eCallVR Tryz.prog C x52 [x16] 64 fun x53 => eAlloc Tryz.prog 64 fun x54 => eStore Tryz.prog 64 x54 x53 <| eHas .any (.int .i64 1) (eIter (σ := SV × Unit) (fun (s56 : SV × Unit) (k55 : SV × Unit → ER) =>
  eBin Tryz.prog .leq 3 false s56.1 (.int .i64 5) fun x57 => eIfV x57
  (areg_Call_p3 x4 k55 s56)
  (areg_Call_p4 C K x2 x4 x54)) N ((.int .i64 1), ()))
noncomputable def areg_Call_p6 (C : Cal) (K : SV → ER) (N : Nat) (a1 : SV) (a2 : SV) (x2 : SV) (x4 : SV) (x8 : SV) : ER :=
  eBuild Tryz.prog 188 [(0, x4), (1, a1), (2, a2)] fun x15 => eBox Tryz.prog 188 x15 fun x16 => eFieldAddr Tryz.prog 183 x8 1 fun x17 => eLoad Tryz.prog 50 x17 fun x18 => eLenS Tryz.prog [50] [x18] fun x19 => eHas .any (.int .i64 0) (eIter (σ := SV × Unit) (fun (s21 : SV × Unit) (k20 : SV × Unit → ER) =>
  eBin Tryz.prog .lss 3 false s21.1 x19 fun x22 => eIfV x22
  (eIndexAddrS Tryz.prog 50 x18 s21.1 fun x23 => areg_Call_p2 C K x2 x4 k20 s21 x16 x23)
  (areg_Call_p5 C K N a1 x2 x4 x16)) N ((.int .i64 0), ()))
noncomputable def areg_Call_p7 (C : Cal) (K : SV → ER) (N : Nat) (a1 : SV) (a2 : SV) (x1 : SV) (x2 : SV) : ER :=
  eLoad Tryz.prog 71 x1 fun x3 => eCallR Tryz.prog C 106 [x3] 160 fun x4 => eCallR Tryz.prog C 125 [a1] 184 fun x5 => eExtract x5 0 fun x6 => eExtract x5 1 fun x7 => eAlloc Tryz.prog 183 fun x8 => eStore Tryz.prog 183 x8 x6 <| eCallR Tryz.prog C 112 [x4, x7] 4 fun x9 => eUnS .not x9 fun x10 => eIfV x10
  (eCallR Tryz.prog C 115 [x4] 143 fun x11 => eExtract x11 0 fun x12 => eExtract x11 1 fun x13 => eStore Tryz.prog 71 x2 x12 <| eLoad Tryz.prog 71 x2 fun x14 => K (.tup [x14, x13]))
  (areg_Call_p6 C K N a1 a2 x2 x4 x8)
noncomputable def areg_Call_e (C : Cal) (N : Nat) (a0 a1 a2 : SV) (K : SV → ER) : ER :=
  eBox Tryz.prog 71 a0 fun x1 => eAlloc Tryz.prog 71 fun x2 => areg_Call_p7 C K N a1 a2 x1 x2
theorem areg_Call_ee (C : Cal) (N : Nat) (a0 a1 a2 : SV) (K : SV → ER) : eBody Tryz.prog C N Tryz.f88 (Tryz.f88.body.getD .skip) areg_Call_ea [a0, a1, a2] K = areg_Call_e C N a0 a1 a2 K := by kernel_rfl
noncomputable def l88 : LeafT := fun C N args K => match args with
  | [a0, a1, a2] => areg_Call_e C N a0 a1 a2 K
  | _ => eF
theorem lok88 : LeafOk Tryz.prog 88 l88 := .inl ⟨Tryz.f88, Tryz.f88.body.getD .skip, areg_Call_ea, Tryz.func88, by kernel_rfl, Tryz.call88, fun C N args K H e => by
  unfold l88 at e
  split at e
  · rw [areg_Call_ee]; exact e
  · exact eF_no e⟩

/- halberd/areg.Jump -/
def areg_Jump_ea : Ann := .two (.none) (.two (.none) (.two (.ord [0, 3, 7, 1, 2, 11, 4, 5, 6, 12, 8, 9, 10, 13]) (.two (.ord [0, 1, 4, 2, 5, 3, 6, 7, 8, 9, 10]) (.two (.none) (.join (.sub (.two (.none) (.two (.none) (.join (.none) (.two (.none) (.join (.none) (.two (.two (.none) (.two (.none) (.two (.ord [0, 1, 2, 3, 4, 5]) (.two (.none) (.two (.ord [0, 1, 2, 3, 4, 5]) (.none)))))) (.none)) [(74, .any)])) [(44, .any)])))) (.two (.two (.none) (.two (.two (.none) (.none)) (.none))) (.two (.two (.none) (.two (.two (.none) (.none)) (.none))) (.two (.none) (.none)))) [(15, .any)])))))
noncomputable def areg_Jump_p0 (k29 : SV × Unit → ER) (x10 : SV) : ER :=
  eBin Tryz.prog .eql 5 false x10 (.int .u8 16) fun x37 => eIfV x37
  (eHas .any (.bool true) (k29 ((.bool true), ())))
  (eBin Tryz.prog .eql 5 false x10 (.int .u8 80) fun x38 => eHas .any x38 (k29 (x38, ())))
noncomputable def areg_Jump_p1 (x2 : SV) (k29 : SV × Unit → ER) (x10 : SV) : ER :=
  eFieldAddr Tryz.prog 38 x2 4 fun x34 => eLoad Tryz.prog 21 x34 fun x35 => eBin Tryz.prog .eql 21 false x35 (.int .i32 0) fun x36 => eIfV x36
  (areg_Jump_p0 k29 x10)
  (eHas .any (.bool false) (k29 ((.bool false), ())))
noncomputable def areg_Jump_p2 (C : Cal) (x2 : SV) (k29 : SV × Unit → ER) (x10 : SV) (x16 : SV) (x22 : SV) : ER :=
  eLoad Tryz.prog 64 x22 fun x31 => eCallR Tryz.prog C 113 [x31] 4 fun x32 => eIfV x32
  (eUnS .not x16 fun x33 => eIfV x33
  (areg_Jump_p1 x2 k29 x10)
  (eHas .any (.bool false) (k29 ((.bool false), ()))))
  (eHas .any (.bool false) (k29 ((.bool false), ())))
noncomputable def areg_Jump_p3 (C : Cal) (a2 : SV) (x5 : SV) (k24 : SV × Unit → ER) (x10 : SV) (x22 : SV) : ER :=
  eLoad Tryz.prog 64 x22 fun x39 => eBin Tryz.prog .eql 5 false x10 (.int .u8 16) fun x40 => eBin Tryz.prog .eql 4 false x40 a2 fun x41 => eCallR Tryz.prog C 128 [x5, x39, x41] 4 fun x42 => eHas .any x42 (k24 (x42, ()))
noncomputable def areg_Jump_p4 (C : Cal) (x5 : SV) (k43 : SV × Unit → ER) (x23 : SV) : ER :=
  eFieldAddr Tryz.prog 64 x23 0 fun x48 => eLoad Tryz.prog 3 x48 fun x49 => eBin Tryz.prog .eql 3 false x49 (.int .i64 1) fun x50 => eCallR Tryz.prog C 112 [x5, x50] 4 fun x51 => eHas .any x51 (k43 (x51, ()))
noncomputable def areg_Jump_p5 (C : Cal) (x2 : SV) (x5 : SV) (k24 : SV × Unit → ER) (x60 : SV) (x62 : SV) : ER :=
  eFieldAddr Tryz.prog 38 x2 2 fun x68 => eLoad Tryz.prog 5 x68 fun x69 => eLoad Tryz.prog 62 x62 fun x70 => eCallR Tryz.prog C 108 [x70] 64 fun x71 => fun H => eLoadF Tryz.prog 5 x68 x69 H && (eCallR Tryz.prog C 107 [x5, x69, x71] 0 fun x72 => eHas .any x60 (k24 (x60, ()))) H
noncomputable def areg_Jump_p6 (C : Cal) (x2 : SV) (x5 : SV) (k24 : SV × Unit → ER) (x16 : SV) (x57 : SV) : ER :=
  eExtract x57 0 fun x58 => eExtract x57 1 fun x59 => eExtract x57 2 fun x60 => eAlloc Tryz.prog 62 fun x61 => eAlloc Tryz.prog 62 fun x62 => eStore Tryz.prog 62 x61 x58 <| eStore Tryz.prog 62 x62 x59 <| eFieldAddr Tryz.prog 38 x2 1 fun x63 => eLoad Tryz.prog 5 x63 fun x64 => eLoad Tryz.prog 62 x61 fun x65 => eCallR Tryz.prog C 108 [x65] 64 fun x66 => fun H => eLoadF Tryz.prog 5 x63 x64 H && (eCallR Tryz.prog C 107 [x5, x64, x66] 0 fun x67 => eIfV x16
  (areg_Jump_p5 C x2 x5 k24 x60 x62)
  (eHas .any x60 (k24 (x60, ())))) H
noncomputable def areg_Jump_p7 (C : Cal) (a2 : SV) (x2 : SV) (x5 : SV) (k24 : SV × Unit → ER) (x10 : SV) (x13 : SV) (x16 : SV) (x22 : SV) (x23 : SV) : ER :=
  eFieldAddr Tryz.prog 64 x22 1 fun x53 => eLoad Tryz.prog 62 x53 fun x54 => eFieldAddr Tryz.prog 64 x23 1 fun x55 => eLoad Tryz.prog 62 x55 fun x56 => eCallR Tryz.prog C 129 [x10, x13, x54, x56, a2] 194 fun x57 => areg_Jump_p6 C x2 x5 k24 x16 x57
noncomputable def areg_Jump_p8 (C : Cal) (x5 : SV) (k43 : SV × Unit → ER) (x22 : SV) (x23 : SV) : ER :=
  eFieldAddr Tryz.prog 64 x22 0 fun x45 => eLoad Tryz.prog 3 x45 fun x46 => eBin Tryz.prog .eql 3 false x46 (.int .i64 1) fun x47 => eIfV x47
  (areg_Jump_p4 C x5 k43 x23)
  (eCallR Tryz.prog C 112 [x5, (.bool false)] 4 fun x52 => eHas .any x52 (k43 (x52, ())))
noncomputable def areg_Jump_p9 (C : Cal) (a2 : SV) (x2 : SV) (x5 : SV) (k24 : SV × Unit → ER) (x10 : SV) (x13 : SV) (x16 : SV) (x22 : SV) (x23 : SV) : ER :=
  eJoinC (σ := SV × Unit) (fun (k43 : SV × Unit → ER) =>
  areg_Jump_p8 C x5 k43 x22 x23) fun (s44 : SV × Unit) =>
  eIfV s44.1
  (areg_Jump_p7 C a2 x2 x5 k24 x10 x13 x16 x22 x23)
  (eHas .any (.bool true) (k24 ((.bool true), ())))
noncomputable def areg_Jump_p10 (C : Cal) (a2 : SV) (x2 : SV) (x5 : SV) (k24 : SV × Unit → ER) (x10 : SV) (x13 : SV) (x16 : SV) (x22 : SV) (x23 : SV) : ER :=
  eJoinC (σ := SV × Unit) (fun (k29 : SV × Unit → ER) =>
  eIfV x13
  (areg_Jump_p2 C x2 k29 x10 x16 x22)
  (eHas .any (.bool false) (k29 ((.bool false), ())))) fun (s30 : SV × Unit) =>
  eIfV s30.1
  (areg_Jump_p3 C a2 x5 k24 x10 x22)
  (areg_Jump_p9 C a2 x2 x5 k24 x10 x13 x16 x22 x23)
noncomputable def areg_Jump_p11 (K : SV → ER) (x3 : SV) (x5 : SV) : ER :=
  eNilCk x5 fun x81 => eFieldAddr Tryz.prog 166 x81 0 fun x82 => eLoad Tryz.prog 71 x82 fun x83 => eStore Tryz.prog 71 x3 x83 <| eLoad Tryz.prog 71 x3 fun x84 => K (.tup [x84, (.bool true), (.bool true)])
noncomputable def areg_Jump_p12 (K : SV → ER) (x3 : SV) (x5 : SV) (s25 : SV × Unit) : ER :=
  eUnS .not s25.1 fun x78 => eIfV x78
  (eBuild Tryz.prog 71 [] fun x79 => eStore Tryz.prog 71 x3 x79 <| eLoad Tryz.prog 71 x3 fun x80 => K (.tup [x80, (.bool false), (.bool true)]))
  (areg_Jump_p11 K x3 x5)
noncomputable def areg_Jump_p13 (C : Cal) (a2 : SV) (x2 : SV) (x5 : SV) (k24 : SV × Unit → ER) (x10 : SV) (x13 : SV) (x16 : SV) (x22 : SV) (x23 : SV) : ER :=
  eNilCk x5 fun x26 => eFieldAddr Tryz.prog 166 x26 1 fun x27 => eLoad Tryz.prog 4 x27 fun x28 => eIfV x28
  (eHas .any (.bool true) (k24 ((.bool true), ())))
  (areg_Jump_p10 C a2 x2 x5 k24 x10 x13 x16 x22 x23)
noncomputable def areg_Jump_p14 (K : SV → ER) (x3 : SV) (x5 : SV) (s25 : SV × Unit) : ER :=
  eNilCk x5 fun x73 => eFieldAddr Tryz.prog 166 x73 1 fun x74 => eLoad Tryz.prog 4 x74 fun x75 => eIfV x75
  (eBuild Tryz.prog 71 [] fun x76 => eStore Tryz.prog 71 x3 x76 <| eLoad Tryz.prog 71 x3 fun x77 => K (.tup [x77, (.bool false), (.bool false)]))
  (areg_Jump_p12 K x3 x5 s25)
noncomputable def areg_Jump_p15 (C : Cal) (K : SV → ER) (a2 : SV) (x2 : SV) (x3 : SV) (x5 : SV) (x10 : SV) (x13 : SV) (x16 : SV) : ER :=
  eFieldAddr Tryz.prog 38 x2 1 fun x17 => eLoad Tryz.prog 5 x17 fun x18 => eLoad Tryz.prog 38 x2 fun x19 => eCallR Tryz.prog C 110 [x5, x18] 64 fun x20 => fun H => eLoadF Tryz.prog 38 x2 x19 H && (eCallR Tryz.prog C 122 [x5, x19] 64 fun x21 => eAlloc Tryz.prog 64 fun x22 => eAlloc Tryz.prog 64 fun x23 => eStore Tryz.prog 64 x22 x20 <| eStore Tryz.prog 64 x23 x21 <| eJoinC (σ := SV × Unit) (fun (k24 : SV × Unit → ER) =>
  areg_Jump_p13 C a2 x2 x5 k24 x10 x13 x16 x22 x23) fun (s25 : SV × Unit) =>
  areg_Jump_p14 K x3 x5 s25) H
noncomputable def areg_Jump_p16 (C : Cal) (K : SV → ER) (a2 : SV) (x2 : SV) (x3 : SV) (x5 : SV) : ER :=
  eFieldAddr Tryz.prog 38 x2 0 fun x6 => eFieldAddr Tryz.prog 38 x2 0 fun x7 => eFieldAddr Tryz.prog 38 x2 0 fun x8 => eLoad Tryz.prog 5 x6 fun x9 => eBin Tryz.prog .and 5 false x9 (.int .u8 240) fun x10 => eLoad Tryz.prog 5 x7 fun x11 => eBin Tryz.prog .and 5 false x11 (.int .u8 7) fun x12 => eBin Tryz.prog .eql 5 false x12 (.int .u8 5) fun x13 => eLoad Tryz.prog 5 x8 fun x14 => eBin Tryz.prog .and 5 false x14 (.int .u8 8) fun x15 => eBin Tryz.prog .neq 5 false x15 (.int .u8 0) fun x16 => areg_Jump_p15 C K a2 x2 x3 x5 x10 x13 x16
noncomputable def areg_Jump_e (C : Cal) (N : Nat) (a0 a1 a2 : SV) (K : SV → ER) : ER :=
  eBox Tryz.prog 71 a0 fun x1 => eBox Tryz.prog 38 a1 fun x2 => eAlloc Tryz.prog 71 fun x3 => eLoad Tryz.prog 71 x1 fun x4 => eCallR Tryz.prog C 106 [x4] 160 fun x5 => areg_Jump_p16 C K a2 x2 x3 x5
theorem areg_Jump_ee (C : Cal) (N : Nat) (a0 a1 a2 : SV) (K : SV → ER) : eBody Tryz.prog C N Tryz.f89 (Tryz.f89.body.getD .skip) areg_Jump_ea [a0, a1, a2] K = areg_Jump_e C N a0 a1 a2 K := by kernel_rfl
noncomputable def l89 : LeafT := fun C N args K => match args with
  | [a0, a1, a2] => areg_Jump_e C N a0 a1 a2 K
  | _ => eF
theorem lok89 : LeafOk Tryz.prog 89 l89 := .inl ⟨Tryz.f89, Tryz.f89.body.getD .skip, areg_Jump_ea, Tryz.func89, by kernel_rfl, Tryz.call89, fun C N args K H e => by
  unfold l89 at e
  split at e
  · rw [areg_Jump_ee]; exact e
  · exact eF_no e⟩

end Go.Proofs.YtjafpcagfgklgaaGreatDoor

set_option linter.unusedVariables false
set_option maxRecDepth 100000
namespace Go.Proofs.YtjafpcagfgklgaaGreatDoor
open Go.Hl
/- unicode/utf8.decodeRuneInStringSlow -/
def unicode_utf8_decodeRuneInStringSlow_ea : Ann := .two (.none) (.two (.none) (.two (.two (.none) (.two (.two (.none) (.none)) (.none))) (.two (.none) (.two (.none) (.two (.two (.none) (.two (.two (.none) (.two (.none) (.none))) (.none))) (.two (.none) (.two (.none) (.two (.two (.none) (.two (.two (.none) (.none)) (.none))) (.two (.none) (.two (.join (.none) (.two (.two (.none) (.none)) (.none)) [(57, .any)]) (.two (.two (.none) (.two (.two (.none) (.none)) (.none))) (.two (.none) (.two (.join (.none) (.two (.two (.none) (.none)) (.none)) [(75, .any)]) (.two (.two (.none) (.two (.two (.none) (.none)) (.none))) (.two (.none) (.two (.join (.none) (.two (.two (.none) (.none)) (.none)) [(98, .any)]) (.two (.none) (.none))))))))))))))))))
noncomputable def unicode_utf8_decodeRuneInStringSlow_e (C : Cal) (N : Nat) (a0 : SV) (K : SV → ER) : ER :=
  eLenS Tryz.prog [9] [a0] fun x1 => eBin Tryz.prog .lss 3 false x1 (.int .i64 1) fun x2 => eIfV x2
  (K (.tup [(.int .i32 65533), (.int .i64 0)]))
  (eIndexS Tryz.prog 9 a0 (.int .i64 0) fun x3 => eF)
theorem unicode_utf8_decodeRuneInStringSlow_ee (C : Cal) (N : Nat) (a0 : SV) (K : SV → ER) : eBody Tryz.prog C N Tryz.f90 (Tryz.f90.body.getD .skip) unicode_utf8_decodeRuneInStringSlow_ea [a0] K = unicode_utf8_decodeRuneInStringSlow_e C N a0 K := by kernel_rfl
noncomputable def l90 : LeafT := fun C N args K => match args with
  | [a0] => unicode_utf8_decodeRuneInStringSlow_e C N a0 K
  | _ => eF
theorem lok90 : LeafOk Tryz.prog 90 l90 := .inl ⟨Tryz.f90, Tryz.f90.body.getD .skip, unicode_utf8_decodeRuneInStringSlow_ea, Tryz.func90, by kernel_rfl, Tryz.call90, fun C N args K H e => by
  unfold l90 at e
  split at e
  · rw [unicode_utf8_decodeRuneInStringSlow_ee]; exact e
  · exact eF_no e⟩

/- internal/stringslite.HasPrefix -/
def internal_stringslite_HasPrefix_ea : Ann := .two (.none) (.join (.none) (.none) [(4, .any)])
noncomputable def internal_stringslite_HasPrefix_p0 (a0 : SV) (a1 : SV) (k1 : SV × Unit → ER) : ER :=
  eLenS Tryz.prog [9] [a0] fun x3 => eLenS Tryz.prog [9] [a1] fun x4 => eBin Tryz.prog .geq 3 false x3 x4 fun x5 => eIfV x5
  (eLenS Tryz.prog [9] [a1] fun x6 => eSliceS Tryz.prog 9 a0 none (some (.v x6)) none fun x7 => eBin Tryz.prog .eql 9 false x7 a1 fun x8 => eHas .any x8 (k1 (x8, ())))
  (eHas .any (.bool false) (k1 ((.bool false), ())))
noncomputable def internal_stringslite_HasPrefix_e (C : Cal) (N : Nat) (a0 a1 : SV) (K : SV → ER) : ER :=
  eJoinC (σ := SV × Unit) (fun (k1 : SV × Unit → ER) =>
  internal_stringslite_HasPrefix_p0 a0 a1 k1) fun (s2 : SV × Unit) =>
  K s2.1
theorem internal_stringslite_HasPrefix_ee (C : Cal) (N : Nat) (a0 a1 : SV) (K : SV → ER) : eBody Tryz.prog C N Tryz.f95 (Tryz.f95.body.getD .skip) internal_stringslite_HasPrefix_ea [a0, a1] K = internal_stringslite_HasPrefix_e C N a0 a1 K := by kernel_rfl
noncomputable def l95 : LeafT := fun C N args K => match args with
  | [a0, a1] => internal_stringslite_HasPrefix_e C N a0 a1 K
  | _ => eF
theorem lok95 : LeafOk Tryz.prog 95 l95 := .inl ⟨Tryz.f95, Tryz.f95.body.getD .skip, internal_stringslite_HasPrefix_ea, Tryz.func95, by kernel_rfl, Tryz.call95, fun C N args K H e => by
  unfold l95 at e
  split at e
  · rw [internal_stringslite_HasPrefix_ee]; exact e
  · exact eF_no e⟩

/- strconv.syntaxError -/
def strconv_syntaxError_ea : Ann := .two (.none) (.two (.ord [0, 1, 3, 2, 4, 5, 6]) (.none))
noncomputable def strconv_syntaxError_e (C : Cal) (N : Nat) (a0 a1 : SV) (K : SV → ER) : ER :=
  eF
theorem strconv_syntaxError_ee (C : Cal) (N : Nat) (a0 a1 : SV) (K : SV → ER) : eBody Tryz.prog C N Tryz.f97 (Tryz.f97.body.getD .skip) strconv_syntaxError_ea [a0, a1] K = strconv_syntaxError_e C N a0 a1 K := by kernel_rfl
noncomputable def l97 : LeafT := fun C N args K => match args with
  | [a0, a1] => strconv_syntaxError_e C N a0 a1 K
  | _ => eF
theorem lok97 : LeafOk Tryz.prog 97 l97 := .inl ⟨Tryz.f97, Tryz.f97.body.getD .skip, strconv_syntaxError_ea, Tryz.func97, by kernel_rfl, Tryz.call97, fun C N args K H e => by
  unfold l97 at e
  split at e
  · rw [strconv_syntaxError_ee]; exact e
  · exact eF_no e⟩

/- strconv.rangeError -/
def strconv_rangeError_ea : Ann := .two (.none) (.two (.ord [0, 1, 3, 2, 4, 5, 6]) (.none))
noncomputable def strconv_rangeError_e (C : Cal) (N : Nat) (a0 a1 : SV) (K : SV → ER) : ER :=
  eF
theorem strconv_rangeError_ee (C : Cal) (N : Nat) (a0 a1 : SV) (K : SV → ER) : eBody Tryz.prog C N Tryz.f98 (Tryz.f98.body.getD .skip) strconv_rangeError_ea [a0, a1] K = strconv_rangeError_e C N a0 a1 K := by kernel_rfl
noncomputable def l98 : LeafT := fun C N args K => match args with
  | [a0, a1] => strconv_rangeError_e C N a0 a1 K
  | _ => eF
theorem lok98 : LeafOk Tryz.prog 98 l98 := .inl ⟨Tryz.f98, Tryz.f98.body.getD .skip, strconv_rangeError_ea, Tryz.func98, by kernel_rfl, Tryz.call98, fun C N args K H e => by
  unfold l98 at e
  split at e
  · rw [strconv_rangeError_ee]; exact e
  · exact eF_no e⟩

/- strconv.baseError -/
def strconv_baseError_ea : Ann := .two (.none) (.two (.none) (.none))
noncomputable def strconv_baseError_e (C : Cal) (N : Nat) (a0 a1 a2 : SV) (K : SV → ER) : ER :=
  eCallR Tryz.prog C 134 [a1] 9 fun x1 => eCallR Tryz.prog C 136 [a2] 9 fun x2 => eBin Tryz.prog .add 9 false (.str [105, 110, 118, 97, 108, 105, 100, 32, 98, 97, 115, 101, 32]) x2 fun x3 => eCallR Tryz.prog C 135 [x3] 112 fun x4 => eBuild Tryz.prog 205 [(0, a0), (1, x1), (2, x4)] fun x5 => eBox Tryz.prog 205 x5 fun x6 => K x6
theorem strconv_baseError_ee (C : Cal) (N : Nat) (a0 a1 a2 : SV) (K : SV → ER) : eBody Tryz.prog C N Tryz.f99 (Tryz.f99.body.getD .skip) strconv_baseError_ea [a0, a1, a2] K = strconv_baseError_e C N a0 a1 a2 K := by kernel_rfl
noncomputable def l99 : LeafT := fun C N args K => match args with
  | [a0, a1, a2] => strconv_baseError_e C N a0 a1 a2 K
  | _ => eF
theorem lok99 : LeafOk Tryz.prog 99 l99 := .inl ⟨Tryz.f99, Tryz.f99.body.getD .skip, strconv_baseError_ea, Tryz.func99, by kernel_rfl, Tryz.call99, fun C N args K H e => by
  unfold l99 at e
  split at e
  · rw [strconv_baseError_ee]; exact e
  · exact eF_no e⟩

/- strconv.bitSizeError -/
def strconv_bitSizeError_ea : Ann := .two (.none) (.two (.none) (.none))
noncomputable def strconv_bitSizeError_e (C : Cal) (N : Nat) (a0 a1 a2 : SV) (K : SV → ER) : ER :=
  eCallR Tryz.prog C 134 [a1] 9 fun x1 => eCallR Tryz.prog C 136 [a2] 9 fun x2 => eBin Tryz.prog .add 9 false (.str [105, 110, 118, 97, 108, 105, 100, 32, 98, 105, 116, 32, 115, 105, 122, 101, 32]) x2 fun x3 => eCallR Tryz.prog C 135 [x3] 112 fun x4 => eBuild Tryz.prog 205 [(0, a0), (1, x1), (2, x4)] fun x5 => eBox Tryz.prog 205 x5 fun x6 => K x6
theorem strconv_bitSizeError_ee (C : Cal) (N : Nat) (a0 a1 a2 : SV) (K : SV → ER) : eBody Tryz.prog C N Tryz.f100 (Tryz.f100.body.getD .skip) strconv_bitSizeError_ea [a0, a1, a2] K = strconv_bitSizeError_e C N a0 a1 a2 K := by kernel_rfl
noncomputable def l100 : LeafT := fun C N args K => match args with
  | [a0, a1, a2] => strconv_bitSizeError_e C N a0 a1 a2 K
  | _ => eF
theorem lok100 : LeafOk Tryz.prog 100 l100 := .inl ⟨Tryz.f100, Tryz.f100.body.getD .skip, strconv_bitSizeError_ea, Tryz.func100, by kernel_rfl, Tryz.call100, fun C N args K H e => by
  unfold l100 at e
  split at e
  · rw [strconv_bitSizeError_ee]; exact e
  · exact eF_no e⟩

/- internal/stringslite.CutSuffix -/
def internal_stringslite_CutSuffix_ea : Ann := .two (.none) (.two (.two (.none) (.two (.two (.none) (.none)) (.none))) (.two (.none) (.none)))
noncomputable def internal_stringslite_CutSuffix_e (C : Cal) (N : Nat) (a0 a1 : SV) (K : SV → ER) : ER :=
  eCallR Tryz.prog C 47 [a0, a1] 4 fun x1 => eUnS .not x1 fun x2 => eIfV x2
  (K (.tup [a0, (.bool false)]))
  (eLenS Tryz.prog [9] [a0] fun x3 => eLenS Tryz.prog [9] [a1] fun x4 => eBin Tryz.prog .sub 3 false x3 x4 fun x5 => eSliceS Tryz.prog 9 a0 none (some (.v x5)) none fun x6 => K (.tup [x6, (.bool true)]))
theorem internal_stringslite_CutSuffix_ee (C : Cal) (N : Nat) (a0 a1 : SV) (K : SV → ER) : eBody Tryz.prog C N Tryz.f102 (Tryz.f102.body.getD .skip) internal_stringslite_CutSuffix_ea [a0, a1] K = internal_stringslite_CutSuffix_e C N a0 a1 K := by kernel_rfl
noncomputable def l102 : LeafT := fun C N args K => match args with
  | [a0, a1] => internal_stringslite_CutSuffix_e C N a0 a1 K
  | _ => eF
theorem lok102 : LeafOk Tryz.prog 102 l102 := .inl ⟨Tryz.f102, Tryz.f102.body.getD .skip, internal_stringslite_CutSuffix_ea, Tryz.func102, by kernel_rfl, Tryz.call102, fun C N args K H e => by
  unfold l102 at e
  split at e
  · rw [internal_stringslite_CutSuffix_ee]; exact e
  · exact eF_no e⟩

/- halberd/isa.number -/
def isa_number_ea : Ann := .two (.none) (.two (.none) (.two (.sub (.join (.two (.none) (.two (.none) (.none))) (.two (.two (.none) (.none)) (.two (.none) (.two (.two (.none) (.none)) (.two (.none) (.two (.two (.none) (.none)) (.none)))))) [(11, .any)])) (.two (.none) (.none))))
noncomputable def isa_number_p0 (K : SV → ER) (x1 : SV) (x4 : SV) : ER :=
  eIfV x4
  (eBuild Tryz.prog 136 [(0, (.int .u8 9)), (1, (.int .u8 10))] fun x14 => eStore Tryz.prog 136 x1 x14 <| eLoad Tryz.prog 136 x1 fun x15 => K (.tup [x15, (.bool true)]))
  (eBuild Tryz.prog 136 [(0, (.int .u8 9)), (3, (.bool true))] fun x16 => eStore Tryz.prog 136 x1 x16 <| eLoad Tryz.prog 136 x1 fun x17 => K (.tup [x17, (.bool true)]))
noncomputable def isa_number_p1 (K : SV → ER) (x1 : SV) (x2 : SV) (x4 : SV) : ER :=
  eBin Tryz.prog .eql 5 false x2 (.int .u8 128) fun x11 => eIfV x11
  (eBuild Tryz.prog 136 [(0, (.int .u8 9))] fun x12 => eStore Tryz.prog 136 x1 x12 <| eLoad Tryz.prog 136 x1 fun x13 => K (.tup [x13, (.bool true)]))
  (isa_number_p0 K x1 x4)
noncomputable def isa_number_p2 (k5 : SV × Unit → ER) (x2 : SV) (x4 : SV) : ER :=
  eBin Tryz.prog .gtr 5 false x2 (.int .u8 192) fun x7 => eIfV x7
  (eHas .any x7 (k5 (x7, ())))
  (eBin Tryz.prog .eql 5 false x2 (.int .u8 128) fun x8 => eIfV x8
  (eHas .any x4 (k5 (x4, ())))
  (eHas .any (.bool false) (k5 ((.bool false), ()))))
noncomputable def isa_number_e (C : Cal) (N : Nat) (a0 : SV) (K : SV → ER) : ER :=
  eAlloc Tryz.prog 136 fun x1 => eBin Tryz.prog .and 5 false a0 (.int .u8 240) fun x2 => eBin Tryz.prog .and 5 false a0 (.int .u8 8) fun x3 => eBin Tryz.prog .neq 5 false x3 (.int .u8 0) fun x4 => eJoinC (σ := SV × Unit) (fun (k5 : SV × Unit → ER) =>
  isa_number_p2 k5 x2 x4) fun (s6 : SV × Unit) =>
  eIfV s6.1
  (eBuild Tryz.prog 136 [] fun x9 => eStore Tryz.prog 136 x1 x9 <| eLoad Tryz.prog 136 x1 fun x10 => K (.tup [x10, (.bool false)]))
  (isa_number_p1 K x1 x2 x4)
theorem isa_number_ee (C : Cal) (N : Nat) (a0 : SV) (K : SV → ER) : eBody Tryz.prog C N Tryz.f103 (Tryz.f103.body.getD .skip) isa_number_ea [a0] K = isa_number_e C N a0 K := by kernel_rfl
noncomputable def l103 : LeafT := fun C N args K => match args with
  | [a0] => isa_number_e C N a0 K
  | _ => eF
theorem lok103 : LeafOk Tryz.prog 103 l103 := .inl ⟨Tryz.f103, Tryz.f103.body.getD .skip, isa_number_ea, Tryz.func103, by kernel_rfl, Tryz.call103, fun C N args K H e => by
  unfold l103 at e
  split at e
  · rw [isa_number_ee]; exact e
  · exact eF_no e⟩

end Go.Proofs.YtjafpcagfgklgaaGreatDoor

set_option linter.unusedVariables false
set_option maxRecDepth 100000
namespace Go.Proofs.YtjafpcagfgklgaaGreatDoor
open Go.Hl
/- halberd/isa.jump -/
def isa_jump_ea : Ann := .two (.none) (.two (.none) (.two (.sub (.join (.none) (.two (.two (.none) (.none)) (.two (.none) (.two (.two (.none) (.none)) (.join (.none) (.two (.two (.none) (.none)) (.none)) [(24, .any)])))) [(13, .any)])) (.two (.none) (.two (.none) (.none)))))
noncomputable def isa_jump_p0 (K : SV → ER) (x1 : SV) (x2 : SV) (b19 : Nat) : ER :=
  eBuild Tryz.prog 136 [(3, (.bool true))] fun x22 => ePutS Tryz.prog 159 (.map (some b19)) (.int .u8 128) x22 fun x23 => eBuild Tryz.prog 136 [] fun x24 => ePutS Tryz.prog 159 (.map (some b19)) (.int .u8 144) x24 fun x25 => eLookupS Tryz.prog 159 (.map (some b19)) x2 true fun x26 => eExtract x26 0 fun x27 => eExtract x26 1 fun x28 => eAlloc Tryz.prog 136 fun x29 => eStore Tryz.prog 136 x29 x27 <| eLoad Tryz.prog 136 x29 fun x30 => eStore Tryz.prog 136 x1 x30 <| eLoad Tryz.prog 136 x1 fun x31 => K (.tup [x31, x28])
noncomputable def isa_jump_p1 (a0 : SV) (x4 : SV) (k13 : SV × Unit → ER) : ER :=
  eIfV x4
  (eHas .any (.bool true) (k13 ((.bool true), ())))
  (eBin Tryz.prog .and 5 false a0 (.int .u8 7) fun x15 => eBin Tryz.prog .neq 5 false x15 (.int .u8 5) fun x16 => eHas .any x16 (k13 (x16, ())))
noncomputable def isa_jump_p2 (K : SV → ER) (x1 : SV) (x2 : SV) (s14 : SV × Unit) : ER :=
  eIfV s14.1
  (eBuild Tryz.prog 136 [] fun x17 => eStore Tryz.prog 136 x1 x17 <| eLoad Tryz.prog 136 x1 fun x18 => K (.tup [x18, (.bool false)]))
  (eNewB (.map []) fun b19 => eBuild Tryz.prog 136 [(2, (.bool true))] fun x20 => ePutS Tryz.prog 159 (.map (some b19)) (.int .u8 0) x20 fun x21 => isa_jump_p0 K x1 x2 b19)
noncomputable def isa_jump_p3 (C : Cal) (K : SV → ER) (a0 : SV) (x1 : SV) (x2 : SV) (x4 : SV) : ER :=
  eCallR Tryz.prog C 81 [x2] 4 fun x10 => eIfV x10
  (eBuild Tryz.prog 136 [(0, (.int .u8 10)), (2, (.bool true)), (3, (.bool true))] fun x11 => eStore Tryz.prog 136 x1 x11 <| eLoad Tryz.prog 136 x1 fun x12 => K (.tup [x12, (.bool true)]))
  (eJoinC (σ := SV × Unit) (fun (k13 : SV × Unit → ER) =>
  isa_jump_p1 a0 x4 k13) fun (s14 : SV × Unit) =>
  isa_jump_p2 K x1 x2 s14)
noncomputable def isa_jump_p4 (C : Cal) (K : SV → ER) (a0 : SV) (s6 : SV × Unit) (x1 : SV) (x2 : SV) (x4 : SV) : ER :=
  eIfV s6.1
  (eBuild Tryz.prog 136 [(0, (.int .u8 10)), (1, (.int .u8 10)), (2, (.bool true))] fun x8 => eStore Tryz.prog 136 x1 x8 <| eLoad Tryz.prog 136 x1 fun x9 => K (.tup [x9, (.bool true)]))
  (isa_jump_p3 C K a0 x1 x2 x4)
noncomputable def isa_jump_e (C : Cal) (N : Nat) (a0 : SV) (K : SV → ER) : ER :=
  eAlloc Tryz.prog 136 fun x1 => eBin Tryz.prog .and 5 false a0 (.int .u8 240) fun x2 => eBin Tryz.prog .and 5 false a0 (.int .u8 8) fun x3 => eBin Tryz.prog .neq 5 false x3 (.int .u8 0) fun x4 => eJoinC (σ := SV × Unit) (fun (k5 : SV × Unit → ER) =>
  eCallR Tryz.prog C 81 [x2] 4 fun x7 => eIfV x7
  (eHas .any x4 (k5 (x4, ())))
  (eHas .any (.bool false) (k5 ((.bool false), ())))) fun (s6 : SV × Unit) =>
  isa_jump_p4 C K a0 s6 x1 x2 x4
theorem isa_jump_ee (C : Cal) (N : Nat) (a0 : SV) (K : SV → ER) : eBody Tryz.prog C N Tryz.f104 (Tryz.f104.body.getD .skip) isa_jump_ea [a0] K = isa_jump_e C N a0 K := by kernel_rfl
noncomputable def l104 : LeafT := fun C N args K => match args with
  | [a0] => isa_jump_e C N a0 K
  | _ => eF
theorem lok104 : LeafOk Tryz.prog 104 l104 := .inl ⟨Tryz.f104, Tryz.f104.body.getD .skip, isa_jump_ea, Tryz.func104, by kernel_rfl, Tryz.call104, fun C N args K H e => by
  unfold l104 at e
  split at e
  · rw [isa_jump_ee]; exact e
  · exact eF_no e⟩

/- halberd/isa.Size -/
def isa_Size_ea : Ann := .two (.none) (.two (.none) (.two (.join (.none) (.two (.two (.none) (.none)) (.none)) [(16, .any)]) (.two (.none) (.none))))
noncomputable def isa_Size_p0 (a0 : SV) (k2 : SV × Unit → ER) (x1 : SV) : ER :=
  eBin Tryz.prog .and 5 false a0 (.int .u8 224) fun x4 => eBin Tryz.prog .neq 5 false x4 (.int .u8 96) fun x5 => eIfV x5
  (eHas .any (.bool true) (k2 ((.bool true), ())))
  (eBin Tryz.prog .lss 5 false x1 (.int .u8 1) fun x6 => eIfV x6
  (eHas .any (.bool true) (k2 ((.bool true), ())))
  (eBin Tryz.prog .gtr 5 false x1 (.int .u8 3) fun x7 => eHas .any x7 (k2 (x7, ()))))
noncomputable def isa_Size_e (C : Cal) (N : Nat) (a0 : SV) (K : SV → ER) : ER :=
  eBin Tryz.prog .and 5 false a0 (.int .u8 7) fun x1 => eJoinC (σ := SV × Unit) (fun (k2 : SV × Unit → ER) =>
  isa_Size_p0 a0 k2 x1) fun (s3 : SV × Unit) =>
  eIfV s3.1
  (K (.int .i64 0))
  (eCallR Tryz.prog C 141 [] 213 fun x8 => eBin Tryz.prog .and 5 false a0 (.int .u8 24) fun x9 => eLookupS Tryz.prog 213 x8 x9 false fun x10 => K x10)
theorem isa_Size_ee (C : Cal) (N : Nat) (a0 : SV) (K : SV → ER) : eBody Tryz.prog C N Tryz.f105 (Tryz.f105.body.getD .skip) isa_Size_ea [a0] K = isa_Size_e C N a0 K := by kernel_rfl
noncomputable def l105 : LeafT := fun C N args K => match args with
  | [a0] => isa_Size_e C N a0 K
  | _ => eF
theorem lok105 : LeafOk Tryz.prog 105 l105 := .inl ⟨Tryz.f105, Tryz.f105.body.getD .skip, isa_Size_ea, Tryz.func105, by kernel_rfl, Tryz.call105, fun C N args K H e => by
  unfold l105 at e
  split at e
  · rw [isa_Size_ee]; exact e
  · exact eF_no e⟩

/- halberd/areg.on -/
def areg_on_ea : Ann := .two (.none) (.two (.none) (.two (.none) (.none)))
noncomputable def areg_on_e (C : Cal) (N : Nat) (a0 : SV) (K : SV → ER) : ER :=
  eBox Tryz.prog 71 a0 fun x1 => eFieldAddr Tryz.prog 71 x1 2 fun x2 => eLoad Tryz.prog 36 x2 fun x3 => eCallR Tryz.prog C 142 [x3] 36 fun x4 => eFieldAddr Tryz.prog 71 x1 2 fun x5 => eStore Tryz.prog 36 x5 x4 <| eLoad Tryz.prog 71 x1 fun x6 => eBuild Tryz.prog 166 [(0, x6)] fun x7 => eBox Tryz.prog 166 x7 fun x8 => K x8
theorem areg_on_ee (C : Cal) (N : Nat) (a0 : SV) (K : SV → ER) : eBody Tryz.prog C N Tryz.f106 (Tryz.f106.body.getD .skip) areg_on_ea [a0] K = areg_on_e C N a0 K := by kernel_rfl
noncomputable def l106 : LeafT := fun C N args K => match args with
  | [a0] => areg_on_e C N a0 K
  | _ => eF
theorem lok106 : LeafOk Tryz.prog 106 l106 := .inl ⟨Tryz.f106, Tryz.f106.body.getD .skip, areg_on_ea, Tryz.func106, by kernel_rfl, Tryz.call106, fun C N args K H e => by
  unfold l106 at e
  split at e
  · rw [areg_on_ee]; exact e
  · exact eF_no e⟩

/- (*halberd/areg.work).set -/
def areg_work_set_ea : Ann := .two (.none) (.two (.none) (.two (.ord [0, 1, 3, 4, 5, 2, 6, 7]) (.none)))
noncomputable def areg_work_set_p0 (K : SV → ER) (a0 : SV) (a1 : SV) (x1 : SV) : ER :=
  eNilCk a0 fun x5 => eFieldAddr Tryz.prog 166 x5 0 fun x6 => eFieldAddr Tryz.prog 71 x6 0 fun x7 => eLoad Tryz.prog 64 x1 fun x8 => eIndexAddrS Tryz.prog 65 x7 a1 fun x9 => eStore Tryz.prog 64 x9 x8 <| K (.tup [])
noncomputable def areg_work_set_e (C : Cal) (N : Nat) (a0 a1 a2 : SV) (K : SV → ER) : ER :=
  eBox Tryz.prog 64 a2 fun x1 => eConvS Tryz.prog 5 3 a1 fun x2 => eBin Tryz.prog .lss 3 false x2 (.int .i64 11) fun x3 => eCallR Tryz.prog C 112 [a0, x3] 4 fun x4 => eIfV x4
  (areg_work_set_p0 K a0 a1 x1)
  (K (.tup []))
theorem areg_work_set_ee (C : Cal) (N : Nat) (a0 a1 a2 : SV) (K : SV → ER) : eBody Tryz.prog C N Tryz.f107 (Tryz.f107.body.getD .skip) areg_work_set_ea [a0, a1, a2] K = areg_work_set_e C N a0 a1 a2 K := by kernel_rfl
noncomputable def l107 : LeafT := fun C N args K => match args with
  | [a0, a1, a2] => areg_work_set_e C N a0 a1 a2 K
  | _ => eF
theorem lok107 : LeafOk Tryz.prog 107 l107 := .inl ⟨Tryz.f107, Tryz.f107.body.getD .skip, areg_work_set_ea, Tryz.func107, by kernel_rfl, Tryz.call107, fun C N args K H e => by
  unfold l107 at e
  split at e
  · rw [areg_work_set_ee]; exact e
  · exact eF_no e⟩

/- halberd/areg.number -/
def areg_number_ea : Ann := .two (.none) (.two (.none) (.none))
noncomputable def areg_number_e (C : Cal) (N : Nat) (a0 : SV) (K : SV → ER) : ER :=
  eBox Tryz.prog 62 a0 fun x1 => eAlloc Tryz.prog 64 fun x2 => eLoad Tryz.prog 62 x1 fun x3 => eBuild Tryz.prog 64 [(0, (.int .i64 1)), (1, x3)] fun x4 => eStore Tryz.prog 64 x2 x4 <| eLoad Tryz.prog 64 x2 fun x5 => K x5
theorem areg_number_ee (C : Cal) (N : Nat) (a0 : SV) (K : SV → ER) : eBody Tryz.prog C N Tryz.f108 (Tryz.f108.body.getD .skip) areg_number_ea [a0] K = areg_number_e C N a0 K := by kernel_rfl
noncomputable def l108 : LeafT := fun C N args K => match args with
  | [a0] => areg_number_e C N a0 K
  | _ => eF
theorem lok108 : LeafOk Tryz.prog 108 l108 := .inl ⟨Tryz.f108, Tryz.f108.body.getD .skip, areg_number_ea, Tryz.func108, by kernel_rfl, Tryz.call108, fun C N args K H e => by
  unfold l108 at e
  split at e
  · rw [areg_number_ee]; exact e
  · exact eF_no e⟩

/- halberd/num.Const -/
def num_Const_ea : Ann := .two (.none) (.two (.none) (.none))
noncomputable def num_Const_e (C : Cal) (N : Nat) (a0 : SV) (K : SV → ER) : ER :=
  eAlloc Tryz.prog 62 fun x1 => eCallR Tryz.prog C 143 [a0] 60 fun x2 => eConvS Tryz.prog 23 2 a0 fun x3 => eConvS Tryz.prog 23 2 a0 fun x4 => eBuild Tryz.prog 62 [(0, x2), (1, a0), (2, a0), (3, x3), (4, x4)] fun x5 => eStore Tryz.prog 62 x1 x5 <| eLoad Tryz.prog 62 x1 fun x6 => K x6
theorem num_Const_ee (C : Cal) (N : Nat) (a0 : SV) (K : SV → ER) : eBody Tryz.prog C N Tryz.f109 (Tryz.f109.body.getD .skip) num_Const_ea [a0] K = num_Const_e C N a0 K := by kernel_rfl
noncomputable def l109 : LeafT := fun C N args K => match args with
  | [a0] => num_Const_e C N a0 K
  | _ => eF
theorem lok109 : LeafOk Tryz.prog 109 l109 := .inl ⟨Tryz.f109, Tryz.f109.body.getD .skip, num_Const_ea, Tryz.func109, by kernel_rfl, Tryz.call109, fun C N args K H e => by
  unfold l109 at e
  split at e
  · rw [num_Const_ee]; exact e
  · exact eF_no e⟩

/- (*halberd/areg.work).reg -/
def areg_work_reg_ea : Ann := .two (.none) (.two (.two (.none) (.two (.two (.none) (.two (.none) (.none))) (.none))) (.two (.none) (.two (.none) (.two (.none) (.none)))))
noncomputable def areg_work_reg_p0 (C : Cal) (K : SV → ER) (a0 : SV) (a1 : SV) (x1 : SV) : ER :=
  eNilCk a0 fun x8 => eFieldAddr Tryz.prog 166 x8 0 fun x9 => eFieldAddr Tryz.prog 71 x9 0 fun x10 => eIndexAddrS Tryz.prog 65 x10 a1 fun x11 => eLoad Tryz.prog 64 x11 fun x12 => eAlloc Tryz.prog 64 fun x13 => eStore Tryz.prog 64 x13 x12 <| eFieldAddr Tryz.prog 64 x13 0 fun x14 => eLoad Tryz.prog 3 x14 fun x15 => eBin Tryz.prog .neq 3 false x15 (.int .i64 0) fun x16 => eCallR Tryz.prog C 112 [a0, x16] 4 fun x17 => eLoad Tryz.prog 64 x13 fun x18 => eStore Tryz.prog 64 x1 x18 <| eLoad Tryz.prog 64 x1 fun x19 => K x19
noncomputable def areg_work_reg_e (C : Cal) (N : Nat) (a0 a1 : SV) (K : SV → ER) : ER :=
  eAlloc Tryz.prog 64 fun x1 => eConvS Tryz.prog 5 3 a1 fun x2 => eBin Tryz.prog .geq 3 false x2 (.int .i64 11) fun x3 => eIfV x3
  (eNilCk a0 fun x4 => eFieldAddr Tryz.prog 166 x4 1 fun x5 => eStore Tryz.prog 4 x5 (.bool true) <| eBuild Tryz.prog 64 [] fun x6 => eStore Tryz.prog 64 x1 x6 <| eLoad Tryz.prog 64 x1 fun x7 => K x7)
  (areg_work_reg_p0 C K a0 a1 x1)
theorem areg_work_reg_ee (C : Cal) (N : Nat) (a0 a1 : SV) (K : SV → ER) : eBody Tryz.prog C N Tryz.f110 (Tryz.f110.body.getD .skip) areg_work_reg_ea [a0, a1] K = areg_work_reg_e C N a0 a1 K := by kernel_rfl
noncomputable def l110 : LeafT := fun C N args K => match args with
  | [a0, a1] => areg_work_reg_e C N a0 a1 K
  | _ => eF
theorem lok110 : LeafOk Tryz.prog 110 l110 := .inl ⟨Tryz.f110, Tryz.f110.body.getD .skip, areg_work_reg_ea, Tryz.func110, by kernel_rfl, Tryz.call110, fun C N args K H e => by
  unfold l110 at e
  split at e
  · rw [areg_work_reg_ee]; exact e
  · exact eF_no e⟩

/- halberd/areg.size -/
def areg_size_ea : Ann := .two (.none) (.two (.none) (.none))
noncomputable def areg_size_e (C : Cal) (N : Nat) (a0 : SV) (K : SV → ER) : ER :=
  eBox Tryz.prog 38 a0 fun x1 => eFieldAddr Tryz.prog 38 x1 0 fun x2 => eLoad Tryz.prog 5 x2 fun x3 => eCallR Tryz.prog C 105 [x3] 3 fun x4 => K x4
theorem areg_size_ee (C : Cal) (N : Nat) (a0 : SV) (K : SV → ER) : eBody Tryz.prog C N Tryz.f111 (Tryz.f111.body.getD .skip) areg_size_ea [a0] K = areg_size_e C N a0 K := by kernel_rfl
noncomputable def l111 : LeafT := fun C N args K => match args with
  | [a0] => areg_size_e C N a0 K
  | _ => eF
theorem lok111 : LeafOk Tryz.prog 111 l111 := .inl ⟨Tryz.f111, Tryz.f111.body.getD .skip, areg_size_ea, Tryz.func111, by kernel_rfl, Tryz.call111, fun C N args K H e => by
  unfold l111 at e
  split at e
  · rw [areg_size_ee]; exact e
  · exact eF_no e⟩

end Go.Proofs.YtjafpcagfgklgaaGreatDoor

set_option linter.unusedVariables false
set_option maxRecDepth 100000
namespace Go.Proofs.YtjafpcagfgklgaaGreatDoor
open Go.Hl
/- (*halberd/areg.work).need -/
def areg_work_need_ea : Ann := .two (.none) (.join (.none) (.two (.none) (.none)) [])
noncomputable def areg_work_need_p0 (a0 : SV) (a1 : SV) (k1 : Unit → ER) : ER :=
  eNilCk a0 fun x3 => eFieldAddr Tryz.prog 166 x3 1 fun x4 => eLoad Tryz.prog 4 x4 fun x5 => eIfV x5
  (eNilCk a0 fun x6 => eFieldAddr Tryz.prog 166 x6 1 fun x7 => eStore Tryz.prog 4 x7 (.bool true) <| k1 (()))
  (eUnS .not a1 fun x8 => eNilCk a0 fun x9 => eFieldAddr Tryz.prog 166 x9 1 fun x10 => eStore Tryz.prog 4 x10 x8 <| k1 (()))
noncomputable def areg_work_need_e (C : Cal) (N : Nat) (a0 a1 : SV) (K : SV → ER) : ER :=
  eJoinC (σ := Unit) (fun (k1 : Unit → ER) =>
  areg_work_need_p0 a0 a1 k1) fun (s2 : Unit) =>
  K a1
theorem areg_work_need_ee (C : Cal) (N : Nat) (a0 a1 : SV) (K : SV → ER) : eBody Tryz.prog C N Tryz.f112 (Tryz.f112.body.getD .skip) areg_work_need_ea [a0, a1] K = areg_work_need_e C N a0 a1 K := by kernel_rfl
noncomputable def l112 : LeafT := fun C N args K => match args with
  | [a0, a1] => areg_work_need_e C N a0 a1 K
  | _ => eF
theorem lok112 : LeafOk Tryz.prog 112 l112 := .inl ⟨Tryz.f112, Tryz.f112.body.getD .skip, areg_work_need_ea, Tryz.func112, by kernel_rfl, Tryz.call112, fun C N args K H e => by
  unfold l112 at e
  split at e
  · rw [areg_work_need_ee]; exact e
  · exact eF_no e⟩

/- halberd/areg.isPointer -/
def areg_isPointer_ea : Ann := .two (.none) (.join (.none) (.none) [(2, .any)])
noncomputable def areg_isPointer_p0 (k2 : SV × Unit → ER) (x1 : SV) : ER :=
  eFieldAddr Tryz.prog 64 x1 0 fun x4 => eLoad Tryz.prog 3 x4 fun x5 => eBin Tryz.prog .geq 3 false x5 (.int .i64 2) fun x6 => eIfV x6
  (eFieldAddr Tryz.prog 64 x1 0 fun x7 => eLoad Tryz.prog 3 x7 fun x8 => eBin Tryz.prog .leq 3 false x8 (.int .i64 6) fun x9 => eHas .any x9 (k2 (x9, ())))
  (eHas .any (.bool false) (k2 ((.bool false), ())))
noncomputable def areg_isPointer_e (C : Cal) (N : Nat) (a0 : SV) (K : SV → ER) : ER :=
  eBox Tryz.prog 64 a0 fun x1 => eJoinC (σ := SV × Unit) (fun (k2 : SV × Unit → ER) =>
  areg_isPointer_p0 k2 x1) fun (s3 : SV × Unit) =>
  K s3.1
theorem areg_isPointer_ee (C : Cal) (N : Nat) (a0 : SV) (K : SV → ER) : eBody Tryz.prog C N Tryz.f113 (Tryz.f113.body.getD .skip) areg_isPointer_ea [a0] K = areg_isPointer_e C N a0 K := by kernel_rfl
noncomputable def l113 : LeafT := fun C N args K => match args with
  | [a0] => areg_isPointer_e C N a0 K
  | _ => eF
theorem lok113 : LeafOk Tryz.prog 113 l113 := .inl ⟨Tryz.f113, Tryz.f113.body.getD .skip, areg_isPointer_ea, Tryz.func113, by kernel_rfl, Tryz.call113, fun C N args K H e => by
  unfold l113 at e
  split at e
  · rw [areg_isPointer_ee]; exact e
  · exact eF_no e⟩

/- halberd/areg.inBounds -/
def areg_inBounds_ea : Ann := .two (.none) (.join (.none) (.none) [(2, .any)])
noncomputable def areg_inBounds_p0 (a0 : SV) (k1 : SV × Unit → ER) : ER :=
  eBin Tryz.prog .geq 3 false a0 (.int .i64 (-4096)) fun x3 => eIfV x3
  (eBin Tryz.prog .leq 3 false a0 (.int .i64 4096) fun x4 => eHas .any x4 (k1 (x4, ())))
  (eHas .any (.bool false) (k1 ((.bool false), ())))
noncomputable def areg_inBounds_e (C : Cal) (N : Nat) (a0 : SV) (K : SV → ER) : ER :=
  eJoinC (σ := SV × Unit) (fun (k1 : SV × Unit → ER) =>
  areg_inBounds_p0 a0 k1) fun (s2 : SV × Unit) =>
  K s2.1
theorem areg_inBounds_ee (C : Cal) (N : Nat) (a0 : SV) (K : SV → ER) : eBody Tryz.prog C N Tryz.f114 (Tryz.f114.body.getD .skip) areg_inBounds_ea [a0] K = areg_inBounds_e C N a0 K := by kernel_rfl
noncomputable def l114 : LeafT := fun C N args K => match args with
  | [a0] => areg_inBounds_e C N a0 K
  | _ => eF
theorem lok114 : LeafOk Tryz.prog 114 l114 := .inl ⟨Tryz.f114, Tryz.f114.body.getD .skip, areg_inBounds_ea, Tryz.func114, by kernel_rfl, Tryz.call114, fun C N args K H e => by
  unfold l114 at e
  split at e
  · rw [areg_inBounds_ee]; exact e
  · exact eF_no e⟩

/- (*halberd/areg.work).told -/
def areg_work_told_ea : Ann := .two (.none) (.two (.two (.none) (.two (.two (.none) (.none)) (.none))) (.two (.none) (.none)))
noncomputable def areg_work_told_e (C : Cal) (N : Nat) (a0 : SV) (K : SV → ER) : ER :=
  eAlloc Tryz.prog 71 fun x1 => eNilCk a0 fun x2 => eFieldAddr Tryz.prog 166 x2 1 fun x3 => eLoad Tryz.prog 4 x3 fun x4 => eIfV x4
  (eBuild Tryz.prog 71 [] fun x5 => eStore Tryz.prog 71 x1 x5 <| eLoad Tryz.prog 71 x1 fun x6 => K (.tup [x6, (.bool false)]))
  (eNilCk a0 fun x7 => eFieldAddr Tryz.prog 166 x7 0 fun x8 => eLoad Tryz.prog 71 x8 fun x9 => eStore Tryz.prog 71 x1 x9 <| eLoad Tryz.prog 71 x1 fun x10 => K (.tup [x10, (.bool true)]))
theorem areg_work_told_ee (C : Cal) (N : Nat) (a0 : SV) (K : SV → ER) : eBody Tryz.prog C N Tryz.f115 (Tryz.f115.body.getD .skip) areg_work_told_ea [a0] K = areg_work_told_e C N a0 K := by kernel_rfl
noncomputable def l115 : LeafT := fun C N args K => match args with
  | [a0] => areg_work_told_e C N a0 K
  | _ => eF
theorem lok115 : LeafOk Tryz.prog 115 l115 := .inl ⟨Tryz.f115, Tryz.f115.body.getD .skip, areg_work_told_ea, Tryz.func115, by kernel_rfl, Tryz.call115, fun C N args K H e => by
  unfold l115 at e
  split at e
  · rw [areg_work_told_ee]; exact e
  · exact eF_no e⟩

/- halberd/areg.ofBytes -/
def areg_ofBytes_ea : Ann := .two (.none) (.two (.two (.none) (.two (.two (.none) (.none)) (.none))) (.two (.none) (.none)))
noncomputable def areg_ofBytes_p0 (C : Cal) (K : SV → ER) (a0 : SV) (x1 : SV) : ER :=
  eBin Tryz.prog .mul 3 false (.int .i64 8) a0 fun x6 => eBin Tryz.prog .shl 23 false (.int .u64 1) x6 fun x7 => eBin Tryz.prog .sub 23 false x7 (.int .u64 1) fun x8 => eCallR Tryz.prog C 145 [x8] 64 fun x9 => eStore Tryz.prog 64 x1 x9 <| eLoad Tryz.prog 64 x1 fun x10 => K x10
noncomputable def areg_ofBytes_e (C : Cal) (N : Nat) (a0 : SV) (K : SV → ER) : ER :=
  eAlloc Tryz.prog 64 fun x1 => eBin Tryz.prog .geq 3 false a0 (.int .i64 8) fun x2 => eIfV x2
  (eCallR Tryz.prog C 144 [] 62 fun x3 => eCallR Tryz.prog C 108 [x3] 64 fun x4 => eStore Tryz.prog 64 x1 x4 <| eLoad Tryz.prog 64 x1 fun x5 => K x5)
  (areg_ofBytes_p0 C K a0 x1)
theorem areg_ofBytes_ee (C : Cal) (N : Nat) (a0 : SV) (K : SV → ER) : eBody Tryz.prog C N Tryz.f116 (Tryz.f116.body.getD .skip) areg_ofBytes_ea [a0] K = areg_ofBytes_e C N a0 K := by kernel_rfl
noncomputable def l116 : LeafT := fun C N args K => match args with
  | [a0] => areg_ofBytes_e C N a0 K
  | _ => eF
theorem lok116 : LeafOk Tryz.prog 116 l116 := .inl ⟨Tryz.f116, Tryz.f116.body.getD .skip, areg_ofBytes_ea, Tryz.func116, by kernel_rfl, Tryz.call116, fun C N args K H e => by
  unfold l116 at e
  split at e
  · rw [areg_ofBytes_ee]; exact e
  · exact eF_no e⟩

/- (*halberd/areg.work).loadStack -/
def areg_work_loadStack_ea : Ann := .two (.none) (.two (.none) (.two (.two (.none) (.two (.two (.none) (.none)) (.none))) (.two (.two (.none) (.join (.none) (.two (.two (.none) (.none)) (.none)) [(38, .any)])) (.two (.none) (.two (.none) (.none))))))
noncomputable def areg_work_loadStack_p0 (k15 : SV × Unit → ER) (x14 : SV) : ER :=
  eFieldAddr Tryz.prog 68 x14 0 fun x20 => eFieldAddr Tryz.prog 64 x20 0 fun x21 => eLoad Tryz.prog 3 x21 fun x22 => eBin Tryz.prog .neq 3 false x22 (.int .i64 0) fun x23 => eHas .any x23 (k15 (x23, ()))
noncomputable def areg_work_loadStack_p1 (x2 : SV) (k15 : SV × Unit → ER) (x14 : SV) : ER :=
  eBin Tryz.prog .rem 3 false x2 (.int .i64 8) fun x18 => eBin Tryz.prog .eql 3 false x18 (.int .i64 0) fun x19 => eIfV x19
  (areg_work_loadStack_p0 k15 x14)
  (eHas .any (.bool false) (k15 ((.bool false), ())))
noncomputable def areg_work_loadStack_p2 (C : Cal) (K : SV → ER) (a0 : SV) (a2 : SV) (x1 : SV) (x2 : SV) : ER :=
  eCallR Tryz.prog C 147 [a0, x2, a2] 4 fun x27 => eCallR Tryz.prog C 112 [a0, x27] 4 fun x28 => eCallR Tryz.prog C 116 [a2] 64 fun x29 => eStore Tryz.prog 64 x1 x29 <| eLoad Tryz.prog 64 x1 fun x30 => K x30
noncomputable def areg_work_loadStack_p3 (C : Cal) (K : SV → ER) (a0 : SV) (a2 : SV) (x1 : SV) (x2 : SV) (x12 : SV) : ER :=
  eLoad Tryz.prog 68 x12 fun x13 => eAlloc Tryz.prog 68 fun x14 => eStore Tryz.prog 68 x14 x13 <| eJoinC (σ := SV × Unit) (fun (k15 : SV × Unit → ER) =>
  eBin Tryz.prog .eql 3 false a2 (.int .i64 8) fun x17 => eIfV x17
  (areg_work_loadStack_p1 x2 k15 x14)
  (eHas .any (.bool false) (k15 ((.bool false), ())))) fun (s16 : SV × Unit) =>
  eIfV s16.1
  (eFieldAddr Tryz.prog 68 x14 0 fun x24 => eLoad Tryz.prog 64 x24 fun x25 => eStore Tryz.prog 64 x1 x25 <| eLoad Tryz.prog 64 x1 fun x26 => K x26)
  (areg_work_loadStack_p2 C K a0 a2 x1 x2)
noncomputable def areg_work_loadStack_p4 (C : Cal) (K : SV → ER) (a0 : SV) (a2 : SV) (x1 : SV) (x2 : SV) : ER :=
  eBin Tryz.prog .quo 3 false x2 (.int .i64 8) fun x8 => eNilCk a0 fun x9 => eFieldAddr Tryz.prog 166 x9 0 fun x10 => eFieldAddr Tryz.prog 71 x10 1 fun x11 => eIndexAddrS Tryz.prog 69 x11 x8 fun x12 => areg_work_loadStack_p3 C K a0 a2 x1 x2 x12
noncomputable def areg_work_loadStack_e (C : Cal) (N : Nat) (a0 a1 a2 : SV) (K : SV → ER) : ER :=
  eAlloc Tryz.prog 64 fun x1 => eCallR Tryz.prog C 146 [a0, a1, a2] 3 fun x2 => eNilCk a0 fun x3 => eFieldAddr Tryz.prog 166 x3 1 fun x4 => eLoad Tryz.prog 4 x4 fun x5 => eIfV x5
  (eBuild Tryz.prog 64 [] fun x6 => eStore Tryz.prog 64 x1 x6 <| eLoad Tryz.prog 64 x1 fun x7 => K x7)
  (areg_work_loadStack_p4 C K a0 a2 x1 x2)
theorem areg_work_loadStack_ee (C : Cal) (N : Nat) (a0 a1 a2 : SV) (K : SV → ER) : eBody Tryz.prog C N Tryz.f117 (Tryz.f117.body.getD .skip) areg_work_loadStack_ea [a0, a1, a2] K = areg_work_loadStack_e C N a0 a1 a2 K := by kernel_rfl
noncomputable def l117 : LeafT := fun C N args K => match args with
  | [a0, a1, a2] => areg_work_loadStack_e C N a0 a1 a2 K
  | _ => eF
theorem lok117 : LeafOk Tryz.prog 117 l117 := .inl ⟨Tryz.f117, Tryz.f117.body.getD .skip, areg_work_loadStack_ea, Tryz.func117, by kernel_rfl, Tryz.call117, fun C N args K H e => by
  unfold l117 at e
  split at e
  · rw [areg_work_loadStack_ee]; exact e
  · exact eF_no e⟩

/- (*halberd/areg.work).word -/
def areg_work_word_ea : Ann := .two (.none) (.two (.none) (.two (.join (.none) (.two (.two (.none) (.none)) (.none)) [(35, .any)]) (.two (.two (.none) (.two (.two (.none) (.none)) (.none))) (.two (.none) (.join (.two (.none) (.two (.none) (.none))) (.two (.none) (.two (.none) (.none))) [])))))
noncomputable def areg_work_word_p0 (C : Cal) (a0 : SV) (a1 : SV) (k6 : SV × Unit → ER) : ER :=
  eBin Tryz.prog .rem 3 false a1 (.int .i64 8) fun x10 => eBin Tryz.prog .eql 3 false x10 (.int .i64 0) fun x11 => eCallR Tryz.prog C 112 [a0, x11] 4 fun x12 => eUnS .not x12 fun x13 => eHas .any x13 (k6 (x13, ()))
noncomputable def areg_work_word_p1 (C : Cal) (a0 : SV) (a1 : SV) (k6 : SV × Unit → ER) : ER :=
  eBin Tryz.prog .geq 3 false a1 (.int .i64 0) fun x9 => eIfV x9
  (areg_work_word_p0 C a0 a1 k6)
  (eCallR Tryz.prog C 112 [a0, (.bool false)] 4 fun x14 => eUnS .not x14 fun x15 => eHas .any x15 (k6 (x15, ())))
noncomputable def areg_work_word_p2 (C : Cal) (a0 : SV) (a1 : SV) (a2 : SV) (k6 : SV × Unit → ER) : ER :=
  eBin Tryz.prog .eql 3 false a2 (.int .i64 8) fun x8 => eIfV x8
  (areg_work_word_p1 C a0 a1 k6)
  (eCallR Tryz.prog C 112 [a0, (.bool false)] 4 fun x16 => eUnS .not x16 fun x17 => eHas .any x17 (k6 (x17, ())))
noncomputable def areg_work_word_p3 (x4 : SV) (k33 : Unit → ER) (x32 : SV) : ER :=
  eBin Tryz.prog .andNot 5 false x4 (.int .u8 4) fun x35 => eBin Tryz.prog .eql 5 false x35 (.int .u8 2) fun x36 => eIfV x36
  (eFieldAddr Tryz.prog 64 x32 4 fun x37 => eStore Tryz.prog 3 x37 (.int .i64 2) <| k33 (()))
  (k33 (()))
noncomputable def areg_work_word_p4 (K : SV → ER) (a0 : SV) (x1 : SV) (x32 : SV) : ER :=
  eNilCk a0 fun x38 => eFieldAddr Tryz.prog 166 x38 0 fun x39 => eFieldAddr Tryz.prog 71 x39 3 fun x40 => eLoad Tryz.prog 3 x40 fun x41 => eBin Tryz.prog .add 3 false x41 (.int .i64 1) fun x42 => eNilCk a0 fun x43 => eFieldAddr Tryz.prog 166 x43 0 fun x44 => eFieldAddr Tryz.prog 71 x44 3 fun x45 => eStore Tryz.prog 3 x45 x42 <| eLoad Tryz.prog 64 x32 fun x46 => eStore Tryz.prog 64 x1 x46 <| eLoad Tryz.prog 64 x1 fun x47 => K x47
noncomputable def areg_work_word_p5 (K : SV → ER) (a0 : SV) (x1 : SV) (x4 : SV) : ER :=
  eBin Tryz.prog .and 5 false x4 (.int .u8 4) fun x25 => eBin Tryz.prog .neq 5 false x25 (.int .u8 0) fun x26 => eNilCk a0 fun x27 => eFieldAddr Tryz.prog 166 x27 0 fun x28 => eFieldAddr Tryz.prog 71 x28 3 fun x29 => eLoad Tryz.prog 3 x29 fun x30 => eBuild Tryz.prog 64 [(0, (.int .i64 4)), (4, (.int .i64 1)), (5, x26), (6, x30)] fun x31 => eAlloc Tryz.prog 64 fun x32 => eStore Tryz.prog 64 x32 x31 <| eJoinC (σ := Unit) (fun (k33 : Unit → ER) =>
  areg_work_word_p3 x4 k33 x32) fun (s34 : Unit) =>
  areg_work_word_p4 K a0 x1 x32
noncomputable def areg_work_word_p6 (C : Cal) (K : SV → ER) (a0 : SV) (x1 : SV) (x4 : SV) : ER :=
  eBin Tryz.prog .eql 5 false x4 (.int .u8 0) fun x22 => eIfV x22
  (eCallR Tryz.prog C 116 [(.int .i64 8)] 64 fun x23 => eStore Tryz.prog 64 x1 x23 <| eLoad Tryz.prog 64 x1 fun x24 => K x24)
  (areg_work_word_p5 K a0 x1 x4)
noncomputable def areg_work_word_p7 (C : Cal) (K : SV → ER) (a0 : SV) (a1 : SV) (a2 : SV) (a3 : SV) (x1 : SV) : ER :=
  eBin Tryz.prog .quo 3 false a1 (.int .i64 8) fun x2 => eCallR Tryz.prog C 148 [a3, x2] 90 fun x3 => eExtract x3 0 fun x4 => eExtract x3 1 fun x5 => eJoinC (σ := SV × Unit) (fun (k6 : SV × Unit → ER) =>
  eIfV x5
  (areg_work_word_p2 C a0 a1 a2 k6)
  (eCallR Tryz.prog C 112 [a0, (.bool false)] 4 fun x18 => eUnS .not x18 fun x19 => eHas .any x19 (k6 (x19, ())))) fun (s7 : SV × Unit) =>
  eIfV s7.1
  (eBuild Tryz.prog 64 [] fun x20 => eStore Tryz.prog 64 x1 x20 <| eLoad Tryz.prog 64 x1 fun x21 => K x21)
  (areg_work_word_p6 C K a0 x1 x4)
noncomputable def areg_work_word_e (C : Cal) (N : Nat) (a0 a1 a2 a3 : SV) (K : SV → ER) : ER :=
  eAlloc Tryz.prog 64 fun x1 => areg_work_word_p7 C K a0 a1 a2 a3 x1
theorem areg_work_word_ee (C : Cal) (N : Nat) (a0 a1 a2 a3 : SV) (K : SV → ER) : eBody Tryz.prog C N Tryz.f118 (Tryz.f118.body.getD .skip) areg_work_word_ea [a0, a1, a2, a3] K = areg_work_word_e C N a0 a1 a2 a3 K := by kernel_rfl
noncomputable def l118 : LeafT := fun C N args K => match args with
  | [a0, a1, a2, a3] => areg_work_word_e C N a0 a1 a2 a3 K
  | _ => eF
theorem lok118 : LeafOk Tryz.prog 118 l118 := .inl ⟨Tryz.f118, Tryz.f118.body.getD .skip, areg_work_word_ea, Tryz.func118, by kernel_rfl, Tryz.call118, fun C N args K H e => by
  unfold l118 at e
  split at e
  · rw [areg_work_word_ee]; exact e
  · exact eF_no e⟩

/- (*halberd/areg.work).bytes -/
def areg_work_bytes_ea : Ann := .two (.none) (.two (.none) (.join (.two (.none) (.sub (.two (.none) (.two (.two (.join (.none) (.two (.none) (.none)) [(27, .any)]) (.none)) (.two (.none) (.two (.two (.ord [0, 1, 2, 3, 4, 6, 5, 7, 8, 9]) (.none)) (.none))))))) (.none) [(10, .any)]))
noncomputable def areg_work_bytes_p0 (C : Cal) (a0 : SV) (a4 : SV) (k7 : SV × Unit → ER) (x1 : SV) : ER :=
  eFieldAddr Tryz.prog 64 x1 4 fun x12 => eLoad Tryz.prog 3 x12 fun x13 => eLenS Tryz.prog [51] [a4] fun x14 => eBin Tryz.prog .lss 3 false x13 x14 fun x15 => eCallR Tryz.prog C 112 [a0, x15] 4 fun x16 => eUnS .not x16 fun x17 => eHas .any x17 (k7 (x17, ()))
noncomputable def areg_work_bytes_p1 (a4 : SV) (k2 : SV × Unit → ER) (x1 : SV) : ER :=
  eFieldAddr Tryz.prog 64 x1 4 fun x20 => eLoad Tryz.prog 3 x20 fun x21 => eIndexAddrS Tryz.prog 51 a4 x21 fun x22 => eFieldAddr Tryz.prog 98 x22 2 fun x23 => eLoad Tryz.prog 3 x23 fun x24 => eHas .any x24 (k2 (x24, ()))
noncomputable def areg_work_bytes_p2 (C : Cal) (a0 : SV) (a4 : SV) (k7 : SV × Unit → ER) (x1 : SV) : ER :=
  eFieldAddr Tryz.prog 64 x1 4 fun x9 => eLoad Tryz.prog 3 x9 fun x10 => eBin Tryz.prog .geq 3 false x10 (.int .i64 0) fun x11 => eIfV x11
  (areg_work_bytes_p0 C a0 a4 k7 x1)
  (eCallR Tryz.prog C 112 [a0, (.bool false)] 4 fun x18 => eUnS .not x18 fun x19 => eHas .any x19 (k7 (x19, ())))
noncomputable def areg_work_bytes_p3 (C : Cal) (a0 : SV) (k2 : SV × Unit → ER) (x1 : SV) : ER :=
  eNilCk a0 fun x26 => eFieldAddr Tryz.prog 166 x26 0 fun x27 => eFieldAddr Tryz.prog 71 x27 2 fun x28 => eFieldAddr Tryz.prog 64 x1 6 fun x29 => eLoad Tryz.prog 36 x28 fun x30 => eLoad Tryz.prog 3 x29 fun x31 => eCallR Tryz.prog C 149 [x30, x31] 4 fun x32 => eCallR Tryz.prog C 112 [a0, x32] 4 fun x33 => eFieldAddr Tryz.prog 64 x1 4 fun x34 => eLoad Tryz.prog 3 x34 fun x35 => eHas .any x35 (k2 (x35, ()))
noncomputable def areg_work_bytes_p4 (C : Cal) (K : SV → ER) (a0 : SV) (a2 : SV) (a3 : SV) (s3 : SV × Unit) (x1 : SV) : ER :=
  eFieldAddr Tryz.prog 64 x1 3 fun x41 => eLoad Tryz.prog 3 x41 fun x42 => eBin Tryz.prog .add 3 false x42 a2 fun x43 => eBin Tryz.prog .add 3 false x43 a3 fun x44 => eBin Tryz.prog .leq 3 false x44 s3.1 fun x45 => eCallR Tryz.prog C 112 [a0, x45] 4 fun x46 => K (.tup [])
noncomputable def areg_work_bytes_p5 (C : Cal) (K : SV → ER) (a0 : SV) (a2 : SV) (a3 : SV) (s3 : SV × Unit) (x1 : SV) : ER :=
  eFieldAddr Tryz.prog 64 x1 2 fun x37 => eLoad Tryz.prog 3 x37 fun x38 => eBin Tryz.prog .add 3 false x38 a2 fun x39 => eBin Tryz.prog .geq 3 false x39 (.int .i64 0) fun x40 => eIfV x40
  (areg_work_bytes_p4 C K a0 a2 a3 s3 x1)
  (eCallR Tryz.prog C 112 [a0, (.bool false)] 4 fun x47 => K (.tup []))
noncomputable def areg_work_bytes_p6 (C : Cal) (K : SV → ER) (a0 : SV) (a4 : SV) (k2 : SV × Unit → ER) (x1 : SV) : ER :=
  eFieldAddr Tryz.prog 64 x1 0 fun x4 => eLoad Tryz.prog 3 x4 fun x5 => eBin Tryz.prog .eql 3 false x5 (.int .i64 5) fun x6 => eIfV x6
  (eJoinC (σ := SV × Unit) (fun (k7 : SV × Unit → ER) =>
  areg_work_bytes_p2 C a0 a4 k7 x1) fun (s8 : SV × Unit) =>
  eIfV s8.1
  (K (.tup []))
  (areg_work_bytes_p1 a4 k2 x1))
  (eBin Tryz.prog .eql 3 false x5 (.int .i64 6) fun x25 => eIfV x25
  (areg_work_bytes_p3 C a0 k2 x1)
  (eHas .any (.int .i64 64) (k2 ((.int .i64 64), ()))))
noncomputable def areg_work_bytes_e (C : Cal) (N : Nat) (a0 a1 a2 a3 a4 : SV) (K : SV → ER) : ER :=
  eBox Tryz.prog 64 a1 fun x1 => eJoinC (σ := SV × Unit) (fun (k2 : SV × Unit → ER) =>
  areg_work_bytes_p6 C K a0 a4 k2 x1) fun (s3 : SV × Unit) =>
  eBin Tryz.prog .gtr 3 false a3 (.int .i64 0) fun x36 => eIfV x36
  (areg_work_bytes_p5 C K a0 a2 a3 s3 x1)
  (eCallR Tryz.prog C 112 [a0, (.bool false)] 4 fun x48 => K (.tup []))
theorem areg_work_bytes_ee (C : Cal) (N : Nat) (a0 a1 a2 a3 a4 : SV) (K : SV → ER) : eBody Tryz.prog C N Tryz.f119 (Tryz.f119.body.getD .skip) areg_work_bytes_ea [a0, a1, a2, a3, a4] K = areg_work_bytes_e C N a0 a1 a2 a3 a4 K := by kernel_rfl
noncomputable def l119 : LeafT := fun C N args K => match args with
  | [a0, a1, a2, a3, a4] => areg_work_bytes_e C N a0 a1 a2 a3 a4 K
  | _ => eF
theorem lok119 : LeafOk Tryz.prog 119 l119 := .inl ⟨Tryz.f119, Tryz.f119.body.getD .skip, areg_work_bytes_ea, Tryz.func119, by kernel_rfl, Tryz.call119, fun C N args K H e => by
  unfold l119 at e
  split at e
  · rw [areg_work_bytes_ee]; exact e
  · exact eF_no e⟩

end Go.Proofs.YtjafpcagfgklgaaGreatDoor

set_option linter.unusedVariables false
set_option maxRecDepth 100000
namespace Go.Proofs.YtjafpcagfgklgaaGreatDoor
open Go.Hl
/- halberd/areg.ofImm -/
def areg_ofImm_ea : Ann := .two (.none) (.two (.none) (.none))
noncomputable def areg_ofImm_e (C : Cal) (N : Nat) (a0 : SV) (K : SV → ER) : ER :=
  eBox Tryz.prog 38 a0 fun x1 => eAlloc Tryz.prog 64 fun x2 => eFieldAddr Tryz.prog 38 x1 4 fun x3 => eLoad Tryz.prog 21 x3 fun x4 => eConvS Tryz.prog 21 2 x4 fun x5 => eConvS Tryz.prog 2 23 x5 fun x6 => eCallR Tryz.prog C 109 [x6] 62 fun x7 => eCallR Tryz.prog C 108 [x7] 64 fun x8 => eStore Tryz.prog 64 x2 x8 <| eLoad Tryz.prog 64 x2 fun x9 => K x9
theorem areg_ofImm_ee (C : Cal) (N : Nat) (a0 : SV) (K : SV → ER) : eBody Tryz.prog C N Tryz.f120 (Tryz.f120.body.getD .skip) areg_ofImm_ea [a0] K = areg_ofImm_e C N a0 K := by kernel_rfl
noncomputable def l120 : LeafT := fun C N args K => match args with
  | [a0] => areg_ofImm_e C N a0 K
  | _ => eF
theorem lok120 : LeafOk Tryz.prog 120 l120 := .inl ⟨Tryz.f120, Tryz.f120.body.getD .skip, areg_ofImm_ea, Tryz.func120, by kernel_rfl, Tryz.call120, fun C N args K H e => by
  unfold l120 at e
  split at e
  · rw [areg_ofImm_ee]; exact e
  · exact eF_no e⟩

/- (*halberd/areg.work).storeStack -/
def areg_work_storeStack_ea : Ann := .two (.none) (.two (.none) (.join (.none) (.two (.join (.none) (.two (.none) (.none)) [(36, .any)]) (.join (.two (.none) (.two (.none) (.none))) (.two (.none) (.two (.two (.none) (.two (.none) (.two (.none) (.two (.none) (.none))))) (.none))) [])) [(9, .any)]))
noncomputable def areg_work_storeStack_p0 (C : Cal) (a0 : SV) (k8 : SV × Unit → ER) : ER :=
  eCallR Tryz.prog C 112 [a0, (.bool true)] 4 fun x13 => eUnS .not x13 fun x14 => eIfV x14
  (eHas .any (.bool true) (k8 ((.bool true), ())))
  (eNilCk a0 fun x15 => eFieldAddr Tryz.prog 166 x15 1 fun x16 => eLoad Tryz.prog 4 x16 fun x17 => eHas .any x17 (k8 (x17, ())))
noncomputable def areg_work_storeStack_p1 (C : Cal) (a0 : SV) (k8 : SV × Unit → ER) (s4 : SV × Unit) : ER :=
  eCallR Tryz.prog C 112 [a0, s4.1] 4 fun x18 => eUnS .not x18 fun x19 => eIfV x19
  (eHas .any (.bool true) (k8 ((.bool true), ())))
  (eNilCk a0 fun x20 => eFieldAddr Tryz.prog 166 x20 1 fun x21 => eLoad Tryz.prog 4 x21 fun x22 => eHas .any x22 (k8 (x22, ())))
noncomputable def areg_work_storeStack_p2 (K : SV → ER) (x1 : SV) (x29 : SV) (x31 : SV) : ER :=
  eFieldAddr Tryz.prog 71 x31 1 fun x32 => eIndexAddrS Tryz.prog 69 x32 x29 fun x33 => eLoad Tryz.prog 64 x1 fun x34 => eNilCk x33 fun x35 => eFieldAddr Tryz.prog 68 x35 0 fun x36 => eStore Tryz.prog 64 x36 x34 <| eFieldAddr Tryz.prog 64 x1 0 fun x37 => eLoad Tryz.prog 3 x37 fun x38 => eBin Tryz.prog .neq 3 false x38 (.int .i64 1) fun x39 => eIfV x39
  (eBuild Tryz.prog 66 [] fun x40 => eNilCk x33 fun x41 => eFieldAddr Tryz.prog 68 x41 1 fun x42 => eStore Tryz.prog 66 x42 x40 <| K (.tup []))
  (K (.tup []))
noncomputable def areg_work_storeStack_p3 (C : Cal) (a0 : SV) (a2 : SV) (x1 : SV) (x2 : SV) (k23 : Unit → ER) : ER :=
  eFieldAddr Tryz.prog 64 x1 0 fun x25 => eLoad Tryz.prog 3 x25 fun x26 => eBin Tryz.prog .eql 3 false x26 (.int .i64 1) fun x27 => eIfV x27
  (eCallR Tryz.prog C 150 [a0, x2, a2] 0 fun x28 => k23 (()))
  (k23 (()))
noncomputable def areg_work_storeStack_p4 (C : Cal) (K : SV → ER) (a0 : SV) (a2 : SV) (s4 : SV × Unit) (x1 : SV) (x2 : SV) : ER :=
  eJoinC (σ := Unit) (fun (k23 : Unit → ER) =>
  areg_work_storeStack_p3 C a0 a2 x1 x2 k23) fun (s24 : Unit) =>
  eIfV s4.1
  (eBin Tryz.prog .quo 3 false x2 (.int .i64 8) fun x29 => eNilCk a0 fun x30 => eFieldAddr Tryz.prog 166 x30 0 fun x31 => areg_work_storeStack_p2 K x1 x29 x31)
  (K (.tup []))
noncomputable def areg_work_storeStack_p5 (C : Cal) (a0 : SV) (k8 : SV × Unit → ER) (s4 : SV × Unit) (x1 : SV) : ER :=
  eFieldAddr Tryz.prog 64 x1 0 fun x10 => eLoad Tryz.prog 3 x10 fun x11 => eBin Tryz.prog .eql 3 false x11 (.int .i64 1) fun x12 => eIfV x12
  (areg_work_storeStack_p0 C a0 k8)
  (areg_work_storeStack_p1 C a0 k8 s4)
noncomputable def areg_work_storeStack_p6 (a2 : SV) (k3 : SV × Unit → ER) (x2 : SV) : ER :=
  eBin Tryz.prog .eql 3 false a2 (.int .i64 8) fun x5 => eIfV x5
  (eBin Tryz.prog .rem 3 false x2 (.int .i64 8) fun x6 => eBin Tryz.prog .eql 3 false x6 (.int .i64 0) fun x7 => eHas .any x7 (k3 (x7, ())))
  (eHas .any (.bool false) (k3 ((.bool false), ())))
noncomputable def areg_work_storeStack_e (C : Cal) (N : Nat) (a0 a1 a2 a3 : SV) (K : SV → ER) : ER :=
  eBox Tryz.prog 64 a3 fun x1 => eCallR Tryz.prog C 146 [a0, a1, a2] 3 fun x2 => eJoinC (σ := SV × Unit) (fun (k3 : SV × Unit → ER) =>
  areg_work_storeStack_p6 a2 k3 x2) fun (s4 : SV × Unit) =>
  eJoinC (σ := SV × Unit) (fun (k8 : SV × Unit → ER) =>
  areg_work_storeStack_p5 C a0 k8 s4 x1) fun (s9 : SV × Unit) =>
  eIfV s9.1
  (K (.tup []))
  (areg_work_storeStack_p4 C K a0 a2 s4 x1 x2)
theorem areg_work_storeStack_ee (C : Cal) (N : Nat) (a0 a1 a2 a3 : SV) (K : SV → ER) : eBody Tryz.prog C N Tryz.f121 (Tryz.f121.body.getD .skip) areg_work_storeStack_ea [a0, a1, a2, a3] K = areg_work_storeStack_e C N a0 a1 a2 a3 K := by kernel_rfl
noncomputable def l121 : LeafT := fun C N args K => match args with
  | [a0, a1, a2, a3] => areg_work_storeStack_e C N a0 a1 a2 a3 K
  | _ => eF
theorem lok121 : LeafOk Tryz.prog 121 l121 := .inl ⟨Tryz.f121, Tryz.f121.body.getD .skip, areg_work_storeStack_ea, Tryz.func121, by kernel_rfl, Tryz.call121, fun C N args K H e => by
  unfold l121 at e
  split at e
  · rw [areg_work_storeStack_ee]; exact e
  · exact eF_no e⟩

/- (*halberd/areg.work).second -/
def areg_work_second_ea : Ann := .two (.none) (.two (.two (.none) (.two (.two (.none) (.none)) (.none))) (.two (.none) (.none)))
noncomputable def areg_work_second_p0 (C : Cal) (K : SV → ER) (x1 : SV) (x2 : SV) : ER :=
  eFieldAddr Tryz.prog 38 x1 4 fun x11 => eLoad Tryz.prog 21 x11 fun x12 => eConvS Tryz.prog 21 2 x12 fun x13 => eConvS Tryz.prog 2 23 x13 fun x14 => eCallR Tryz.prog C 109 [x14] 62 fun x15 => eCallR Tryz.prog C 108 [x15] 64 fun x16 => eStore Tryz.prog 64 x2 x16 <| eLoad Tryz.prog 64 x2 fun x17 => K x17
noncomputable def areg_work_second_e (C : Cal) (N : Nat) (a0 a1 : SV) (K : SV → ER) : ER :=
  eBox Tryz.prog 38 a1 fun x1 => eAlloc Tryz.prog 64 fun x2 => eFieldAddr Tryz.prog 38 x1 0 fun x3 => eLoad Tryz.prog 5 x3 fun x4 => eBin Tryz.prog .and 5 false x4 (.int .u8 8) fun x5 => eBin Tryz.prog .neq 5 false x5 (.int .u8 0) fun x6 => eIfV x6
  (eFieldAddr Tryz.prog 38 x1 2 fun x7 => eLoad Tryz.prog 5 x7 fun x8 => eCallR Tryz.prog C 110 [a0, x8] 64 fun x9 => eStore Tryz.prog 64 x2 x9 <| eLoad Tryz.prog 64 x2 fun x10 => K x10)
  (areg_work_second_p0 C K x1 x2)
theorem areg_work_second_ee (C : Cal) (N : Nat) (a0 a1 : SV) (K : SV → ER) : eBody Tryz.prog C N Tryz.f122 (Tryz.f122.body.getD .skip) areg_work_second_ea [a0, a1] K = areg_work_second_e C N a0 a1 K := by kernel_rfl
noncomputable def l122 : LeafT := fun C N args K => match args with
  | [a0, a1] => areg_work_second_e C N a0 a1 K
  | _ => eF
theorem lok122 : LeafOk Tryz.prog 122 l122 := .inl ⟨Tryz.f122, Tryz.f122.body.getD .skip, areg_work_second_ea, Tryz.func122, by kernel_rfl, Tryz.call122, fun C N args K H e => by
  unfold l122 at e
  split at e
  · rw [areg_work_second_ee]; exact e
  · exact eF_no e⟩

/- halberd/xfer.Do -/
def xfer_Do_ea : Ann := .two (.none) (.two (.none) (.two (.two (.none) (.two (.two (.none) (.none)) (.none))) (.two (.none) (.two (.none) (.two (.join (.none) (.two (.two (.none) (.two (.none) (.none))) (.none)) [(43, .any)]) (.two (.ord [2, 3, 0, 1, 4, 5, 6, 7]) (.join (.two (.none) (.two (.two (.ord [0, 1, 2, 3, 5, 4, 6, 7, 8, 9, 10, 11, 12, 13, 14, 15]) (.none)) (.none))) (.two (.none) (.two (.none) (.join (.two (.none) (.two (.none) (.none))) (.two (.none) (.none)) []))) [])))))))
noncomputable def xfer_Do_p0 (C : Cal) (K : SV → ER) (a0 : SV) (a1 : SV) (x3 : SV) (x13 : SV) (x17 : SV) : ER :=
  eCallR Tryz.prog C 153 [a0, a1, x13, x17] 225 fun x21 => eExtract x21 0 fun x22 => eExtract x21 1 fun x23 => eCallR Tryz.prog C 109 [x22] 62 fun x24 => eStore Tryz.prog 62 x3 x24 <| eLoad Tryz.prog 62 x3 fun x25 => K (.tup [x25, (.bool true)])
noncomputable def xfer_Do_p1 (C : Cal) (k31 : Unit → ER) (x30 : SV) (x37 : SV) (x41 : SV) : ER :=
  eStore Tryz.prog 62 x41 x37 <| eNilCk x30 fun x42 => eFieldAddr Tryz.prog 234 x42 4 fun x43 => eStore Tryz.prog 23 x43 (.int .u64 32) <| eNilCk x30 fun x44 => eFieldAddr Tryz.prog 234 x44 1 fun x45 => eLoad Tryz.prog 62 x45 fun x46 => eCallR Tryz.prog C 151 [x46] 225 fun x47 => eExtract x47 0 fun x48 => eExtract x47 1 fun x49 => eNilCk x30 fun x50 => eFieldAddr Tryz.prog 234 x50 2 fun x51 => eStore Tryz.prog 23 x51 x48 <| eNilCk x30 fun x52 => eFieldAddr Tryz.prog 234 x52 3 fun x53 => eStore Tryz.prog 4 x53 x49 <| k31 (())
noncomputable def xfer_Do_p2 (C : Cal) (x1 : SV) (x2 : SV) (k31 : Unit → ER) (x30 : SV) : ER :=
  eLoad Tryz.prog 62 x1 fun x34 => eLoad Tryz.prog 62 x2 fun x35 => eCallR Tryz.prog C 154 [x34, (.int .i64 4)] 62 fun x36 => fun H => eLoadF Tryz.prog 62 x2 x35 H && (eCallR Tryz.prog C 154 [x35, (.int .i64 4)] 62 fun x37 => eNilCk x30 fun x38 => eFieldAddr Tryz.prog 234 x38 0 fun x39 => eStore Tryz.prog 62 x39 x36 <| eNilCk x30 fun x40 => eFieldAddr Tryz.prog 234 x40 1 fun x41 => xfer_Do_p1 C k31 x30 x37 x41) H
noncomputable def xfer_Do_p3 (C : Cal) (K : SV → ER) (a1 : SV) (x3 : SV) (x57 : SV) : ER :=
  eCallR Tryz.prog C 155 [x57] 180 fun x58 => eExtract x58 0 fun x59 => eExtract x58 1 fun x60 => eAlloc Tryz.prog 62 fun x61 => eStore Tryz.prog 62 x61 x59 <| eJoinC (σ := Unit) (fun (k62 : Unit → ER) =>
  eUnS .not a1 fun x64 => eIfV x64
  (eLoad Tryz.prog 62 x61 fun x65 => eCallR Tryz.prog C 154 [x65, (.int .i64 4)] 62 fun x66 => eStore Tryz.prog 62 x61 x66 <| k62 (()))
  (k62 (()))) fun (s63 : Unit) =>
  eLoad Tryz.prog 62 x61 fun x67 => eStore Tryz.prog 62 x3 x67 <| eLoad Tryz.prog 62 x3 fun x68 => K (.tup [x68, (.bool true)])
noncomputable def xfer_Do_p4 (C : Cal) (K : SV → ER) (a1 : SV) (x1 : SV) (x2 : SV) (x3 : SV) (x6 : SV) (x17 : SV) (x18 : SV) (x26 : SV) (x27 : SV) (x28 : SV) : ER :=
  fun H => eLoadF Tryz.prog 62 x2 x27 H && (fun H => eLoadF Tryz.prog 62 x1 x26 H && (eBuild Tryz.prog 234 [(0, x26), (1, x27), (2, x17), (3, x18), (4, (.int .u64 64)), (5, x28)] fun x29 => eBox Tryz.prog 234 x29 fun x30 => eJoinC (σ := Unit) (fun (k31 : Unit → ER) =>
  eUnS .not a1 fun x33 => eIfV x33
  (xfer_Do_p2 C x1 x2 k31 x30)
  (k31 (()))) fun (s32 : Unit) =>
  eCallVR Tryz.prog C x6 [x30] 0 fun x54 => eNilCk x30 fun x55 => eFieldAddr Tryz.prog 234 x55 5 fun x56 => eLoad Tryz.prog 62 x56 fun x57 => xfer_Do_p3 C K a1 x3 x57) H) H
noncomputable def xfer_Do_p5 (C : Cal) (K : SV → ER) (a0 : SV) (a1 : SV) (x1 : SV) (x2 : SV) (x3 : SV) (x6 : SV) (s20 : SV × Unit) (x13 : SV) (x17 : SV) (x18 : SV) : ER :=
  eIfV s20.1
  (xfer_Do_p0 C K a0 a1 x3 x13 x17)
  (eLoad Tryz.prog 62 x1 fun x26 => eLoad Tryz.prog 62 x2 fun x27 => eCallR Tryz.prog C 144 [] 62 fun x28 => xfer_Do_p4 C K a1 x1 x2 x3 x6 x17 x18 x26 x27 x28)
noncomputable def xfer_Do_p6 (C : Cal) (K : SV → ER) (a0 : SV) (a1 : SV) (x1 : SV) (x2 : SV) (x3 : SV) (x6 : SV) : ER :=
  eLoad Tryz.prog 62 x1 fun x11 => eCallR Tryz.prog C 151 [x11] 225 fun x12 => eExtract x12 0 fun x13 => eExtract x12 1 fun x14 => eLoad Tryz.prog 62 x2 fun x15 => eCallR Tryz.prog C 151 [x15] 225 fun x16 => eExtract x16 0 fun x17 => eExtract x16 1 fun x18 => eJoinC (σ := SV × Unit) (fun (k19 : SV × Unit → ER) =>
  eIfV x14
  (eHas .any x18 (k19 (x18, ())))
  (eHas .any (.bool false) (k19 ((.bool false), ())))) fun (s20 : SV × Unit) =>
  xfer_Do_p5 C K a0 a1 x1 x2 x3 x6 s20 x13 x17 x18
noncomputable def xfer_Do_e (C : Cal) (N : Nat) (a0 a1 a2 a3 : SV) (K : SV → ER) : ER :=
  eBox Tryz.prog 62 a2 fun x1 => eBox Tryz.prog 62 a3 fun x2 => eAlloc Tryz.prog 62 fun x3 => eCallR Tryz.prog C 152 [] 229 fun x4 => eLookupS Tryz.prog 229 x4 a0 true fun x5 => eExtract x5 0 fun x6 => eExtract x5 1 fun x7 => eUnS .not x7 fun x8 => eIfV x8
  (eCallR Tryz.prog C 144 [] 62 fun x9 => eStore Tryz.prog 62 x3 x9 <| eLoad Tryz.prog 62 x3 fun x10 => K (.tup [x10, (.bool false)]))
  (xfer_Do_p6 C K a0 a1 x1 x2 x3 x6)
theorem xfer_Do_ee (C : Cal) (N : Nat) (a0 a1 a2 a3 : SV) (K : SV → ER) : eBody Tryz.prog C N Tryz.f124 (Tryz.f124.body.getD .skip) xfer_Do_ea [a0, a1, a2, a3] K = xfer_Do_e C N a0 a1 a2 a3 K := by kernel_rfl
noncomputable def l124 : LeafT := fun C N args K => match args with
  | [a0, a1, a2, a3] => xfer_Do_e C N a0 a1 a2 a3 K
  | _ => eF
theorem lok124 : LeafOk Tryz.prog 124 l124 := .inl ⟨Tryz.f124, Tryz.f124.body.getD .skip, xfer_Do_ea, Tryz.func124, by kernel_rfl, Tryz.call124, fun C N args K H e => by
  unfold l124 at e
  split at e
  · rw [xfer_Do_ee]; exact e
  · exact eF_no e⟩

/- halberd/helpers.Of -/
def helpers_Of_ea : Ann := .two (.none) (.two (.none) (.two (.none) (.none)))
noncomputable def helpers_Of_e (C : Cal) (N : Nat) (a0 : SV) (K : SV → ER) : ER :=
  eAlloc Tryz.prog 183 fun x1 => eCallR Tryz.prog C 156 [] 237 fun x2 => eLookupS Tryz.prog 237 x2 a0 true fun x3 => eExtract x3 0 fun x4 => eExtract x3 1 fun x5 => eAlloc Tryz.prog 183 fun x6 => eStore Tryz.prog 183 x6 x4 <| eLoad Tryz.prog 183 x6 fun x7 => eStore Tryz.prog 183 x1 x7 <| eLoad Tryz.prog 183 x1 fun x8 => K (.tup [x8, x5])
theorem helpers_Of_ee (C : Cal) (N : Nat) (a0 : SV) (K : SV → ER) : eBody Tryz.prog C N Tryz.f125 (Tryz.f125.body.getD .skip) helpers_Of_ea [a0] K = helpers_Of_e C N a0 K := by kernel_rfl
noncomputable def l125 : LeafT := fun C N args K => match args with
  | [a0] => helpers_Of_e C N a0 K
  | _ => eF
theorem lok125 : LeafOk Tryz.prog 125 l125 := .inl ⟨Tryz.f125, Tryz.f125.body.getD .skip, helpers_Of_ea, Tryz.func125, by kernel_rfl, Tryz.call125, fun C N args K H e => by
  unfold l125 at e
  split at e
  · rw [helpers_Of_ee]; exact e
  · exact eF_no e⟩

/- (*halberd/areg.call).take -/
def areg_call_take_ea : Ann := .two (.none) (.two (.none) (.sub (.two (.none) (.two (.join (.ord [0, 1, 2, 4, 3, 5, 6, 7, 8, 9, 10, 11, 12, 13, 15, 16, 17, 14, 18, 19, 20, 21, 22]) (.two (.two (.ord [0, 1, 2, 4, 5, 6, 8, 3, 7, 9, 10, 11, 12, 13, 14, 15, 16, 17]) (.ord [0, 1, 2, 4, 5, 6, 8, 9, 10, 11, 3, 7, 12, 13, 14])) (.none)) [(37, .any)]) (.two (.none) (.two (.ord [0, 2, 3, 4, 5, 1, 6, 7]) (.two (.none) (.two (.ord [0, 2, 3, 4, 5, 1, 6, 7]) (.two (.none) (.two (.ord [0, 1, 2, 4, 3, 5, 6, 7]) (.two (.none) (.two (.ord [0, 1, 2, 3, 4, 5, 6, 7, 8, 9, 10, 11]) (.two (.none) (.two (.ord [0, 1, 2, 3, 4, 5, 6, 7, 8, 9, 10, 11]) (.two (.none) (.two (.two (.none) (.ord [0, 1, 2, 4, 5, 6, 3, 7, 8, 9])) (.two (.none) (.two (.two (.none) (.join (.ord [0, 1, 2, 4, 3, 5, 6, 7, 8, 9, 10, 11, 12, 13, 14, 15, 16]) (.two (.ord [0, 1, 2, 3, 5, 7, 4, 6, 8, 9, 10, 11]) (.none)) [(164, .any)])) (.two (.none) (.two (.two (.none) (.two (.two (.none) (.sub (.loop [(9, .any), (187, .any)] (.two (.none) (.two (.two (.none) (.none)) (.join (.sub (.two (.none) (.none))) (.none) [(9, .any)])))))) (.join (.ord [0, 1, 2, 3, 4, 5, 6, 7, 8, 9]) (.none) []))) (.none)))))))))))))))))))))
noncomputable def areg_call_take_p0 (C : Cal) (a0 : SV) (k4 : SV × Unit → ER) (x1 : SV) (x9 : SV) : ER :=
  eFieldAddr Tryz.prog 64 x1 4 fun x15 => eNilCk a0 fun x16 => eFieldAddr Tryz.prog 188 x16 2 fun x17 => eLoad Tryz.prog 3 x15 fun x18 => eLoad Tryz.prog 51 x17 fun x19 => eLenS Tryz.prog [51] [x19] fun x20 => eBin Tryz.prog .lss 3 false x18 x20 fun x21 => eCallR Tryz.prog C 112 [x9, x21] 4 fun x22 => eHas .any x22 (k4 (x22, ()))
noncomputable def areg_call_take_p1 (C : Cal) (a0 : SV) (k4 : SV × Unit → ER) (x1 : SV) (x9 : SV) : ER :=
  eFieldAddr Tryz.prog 64 x1 4 fun x12 => eLoad Tryz.prog 3 x12 fun x13 => eBin Tryz.prog .geq 3 false x13 (.int .i64 0) fun x14 => eIfV x14
  (areg_call_take_p0 C a0 k4 x1 x9)
  (eCallR Tryz.prog C 112 [x9, (.bool false)] 4 fun x23 => eHas .any x23 (k4 (x23, ())))
noncomputable def areg_call_take_p2 (C : Cal) (K : SV → ER) (a0 : SV) (x33 : SV) (x37 : SV) : ER :=
  eStore Tryz.prog 98 x37 x33 <| eNilCk a0 fun x38 => eFieldAddr Tryz.prog 188 x38 0 fun x39 => eNilCk a0 fun x40 => eFieldAddr Tryz.prog 188 x40 1 fun x41 => eNilCk a0 fun x42 => eFieldAddr Tryz.prog 188 x42 3 fun x43 => eFieldAddr Tryz.prog 98 x43 0 fun x44 => eLoad Tryz.prog 160 x39 fun x45 => eLoad Tryz.prog 3 x41 fun x46 => eLoad Tryz.prog 3 x44 fun x47 => eCallR Tryz.prog C 157 [x46, x47] 4 fun x48 => fun H => eLoadF Tryz.prog 160 x39 x45 H && (eCallR Tryz.prog C 112 [x45, x48] 4 fun x49 => K (.tup [])) H
noncomputable def areg_call_take_p3 (C : Cal) (K : SV → ER) (a0 : SV) (x1 : SV) : ER :=
  eFieldAddr Tryz.prog 64 x1 4 fun x25 => eNilCk a0 fun x26 => eFieldAddr Tryz.prog 188 x26 2 fun x27 => eFieldAddr Tryz.prog 64 x1 4 fun x28 => eLoad Tryz.prog 3 x25 fun x29 => eLoad Tryz.prog 51 x27 fun x30 => eLoad Tryz.prog 3 x28 fun x31 => eIndexAddrS Tryz.prog 51 x30 x31 fun x32 => eLoad Tryz.prog 98 x32 fun x33 => eNilCk a0 fun x34 => eFieldAddr Tryz.prog 188 x34 4 fun x35 => eStore Tryz.prog 3 x35 x29 <| eNilCk a0 fun x36 => eFieldAddr Tryz.prog 188 x36 3 fun x37 => areg_call_take_p2 C K a0 x33 x37
noncomputable def areg_call_take_p4 (C : Cal) (a0 : SV) (k4 : SV × Unit → ER) (x1 : SV) : ER :=
  eNilCk a0 fun x6 => eFieldAddr Tryz.prog 188 x6 0 fun x7 => eFieldAddr Tryz.prog 64 x1 0 fun x8 => eLoad Tryz.prog 160 x7 fun x9 => eLoad Tryz.prog 3 x8 fun x10 => eBin Tryz.prog .eql 3 false x10 (.int .i64 7) fun x11 => eIfV x11
  (areg_call_take_p1 C a0 k4 x1 x9)
  (eCallR Tryz.prog C 112 [x9, (.bool false)] 4 fun x24 => eHas .any x24 (k4 (x24, ())))
noncomputable def areg_call_take_p5 (C : Cal) (K : SV → ER) (a0 : SV) (x1 : SV) : ER :=
  eNilCk a0 fun x51 => eFieldAddr Tryz.prog 188 x51 3 fun x52 => eFieldAddr Tryz.prog 98 x52 1 fun x53 => eLoad Tryz.prog 64 x1 fun x54 => eLoad Tryz.prog 3 x53 fun x55 => eCallR Tryz.prog C 158 [a0, x54, x55] 0 fun x56 => K (.tup [])
noncomputable def areg_call_take_p6 (C : Cal) (K : SV → ER) (a0 : SV) (x1 : SV) : ER :=
  eNilCk a0 fun x58 => eFieldAddr Tryz.prog 188 x58 3 fun x59 => eFieldAddr Tryz.prog 98 x59 2 fun x60 => eLoad Tryz.prog 64 x1 fun x61 => eLoad Tryz.prog 3 x60 fun x62 => eCallR Tryz.prog C 158 [a0, x61, x62] 0 fun x63 => K (.tup [])
noncomputable def areg_call_take_p7 (C : Cal) (K : SV → ER) (a0 : SV) (x1 : SV) : ER :=
  eNilCk a0 fun x65 => eFieldAddr Tryz.prog 188 x65 0 fun x66 => eFieldAddr Tryz.prog 64 x1 0 fun x67 => eLoad Tryz.prog 160 x66 fun x68 => eLoad Tryz.prog 3 x67 fun x69 => eBin Tryz.prog .eql 3 false x69 (.int .i64 1) fun x70 => eCallR Tryz.prog C 112 [x68, x70] 4 fun x71 => K (.tup [])
noncomputable def areg_call_take_p8 (C : Cal) (K : SV → ER) (a0 : SV) (x1 : SV) : ER :=
  eNilCk a0 fun x73 => eFieldAddr Tryz.prog 188 x73 0 fun x74 => eLoad Tryz.prog 160 x74 fun x75 => eLoad Tryz.prog 64 x1 fun x76 => eCallR Tryz.prog C 159 [x76, (.int .i64 4)] 4 fun x77 => fun H => eLoadF Tryz.prog 160 x74 x75 H && (eIfV x77
  (eFieldAddr Tryz.prog 64 x1 4 fun x78 => eLoad Tryz.prog 3 x78 fun x79 => eBin Tryz.prog .eql 3 false x79 (.int .i64 2) fun x80 => eCallR Tryz.prog C 112 [x75, x80] 4 fun x81 => K (.tup []))
  (eCallR Tryz.prog C 112 [x75, (.bool false)] 4 fun x82 => K (.tup []))) H
noncomputable def areg_call_take_p9 (C : Cal) (K : SV → ER) (a0 : SV) (x1 : SV) : ER :=
  eNilCk a0 fun x84 => eFieldAddr Tryz.prog 188 x84 0 fun x85 => eLoad Tryz.prog 160 x85 fun x86 => eLoad Tryz.prog 64 x1 fun x87 => eCallR Tryz.prog C 159 [x87, (.int .i64 4)] 4 fun x88 => fun H => eLoadF Tryz.prog 160 x85 x86 H && (eIfV x88
  (eFieldAddr Tryz.prog 64 x1 4 fun x89 => eLoad Tryz.prog 3 x89 fun x90 => eBin Tryz.prog .eql 3 false x90 (.int .i64 1) fun x91 => eCallR Tryz.prog C 112 [x86, x91] 4 fun x92 => K (.tup []))
  (eCallR Tryz.prog C 112 [x86, (.bool false)] 4 fun x93 => K (.tup []))) H
noncomputable def areg_call_take_p10 (C : Cal) (K : SV → ER) (a0 : SV) (x1 : SV) : ER :=
  eLoad Tryz.prog 64 x1 fun x95 => eCallR Tryz.prog C 160 [x95] 3 fun x96 => eNilCk a0 fun x97 => eFieldAddr Tryz.prog 188 x97 5 fun x98 => eStore Tryz.prog 3 x98 x96 <| eNilCk a0 fun x99 => eFieldAddr Tryz.prog 188 x99 0 fun x100 => eNilCk a0 fun x101 => eFieldAddr Tryz.prog 188 x101 5 fun x102 => eLoad Tryz.prog 160 x100 fun x103 => eLoad Tryz.prog 3 x102 fun x104 => eBin Tryz.prog .gtr 3 false x104 (.int .i64 0) fun x105 => eCallR Tryz.prog C 112 [x103, x105] 4 fun x106 => K (.tup [])
noncomputable def areg_call_take_p11 (C : Cal) (x1 : SV) (k110 : SV × Unit → ER) (x113 : SV) (x115 : SV) : ER :=
  eFieldAddr Tryz.prog 64 x1 2 fun x119 => eLoad Tryz.prog 3 x119 fun x120 => eCallR Tryz.prog C 114 [x120] 4 fun x121 => fun H => eLoadF Tryz.prog 160 x113 x115 H && (eCallR Tryz.prog C 112 [x115, x121] 4 fun x122 => eHas .any x122 (k110 (x122, ()))) H
noncomputable def areg_call_take_p12 (C : Cal) (x1 : SV) (k110 : SV × Unit → ER) (x109 : SV) (x113 : SV) (x115 : SV) : ER :=
  eBin Tryz.prog .gtr 3 false x109 (.int .i64 0) fun x118 => eIfV x118
  (areg_call_take_p11 C x1 k110 x113 x115)
  (eCallR Tryz.prog C 112 [x115, (.bool false)] 4 fun x123 => eHas .any x123 (k110 (x123, ())))
noncomputable def areg_call_take_p13 (C : Cal) (K : SV → ER) (a0 : SV) (x1 : SV) (x109 : SV) : ER :=
  eNilCk a0 fun x125 => eFieldAddr Tryz.prog 188 x125 0 fun x126 => eFieldAddr Tryz.prog 64 x1 2 fun x127 => eLoad Tryz.prog 160 x126 fun x128 => eLoad Tryz.prog 3 x127 fun x129 => eCallR Tryz.prog C 146 [x128, x129, x109] 3 fun x130 => eNilCk a0 fun x131 => eFieldAddr Tryz.prog 188 x131 6 fun x132 => eStore Tryz.prog 3 x132 x130 <| K (.tup [])
noncomputable def areg_call_take_p14 (C : Cal) (a0 : SV) (x1 : SV) (k110 : SV × Unit → ER) (x109 : SV) : ER :=
  eNilCk a0 fun x112 => eFieldAddr Tryz.prog 188 x112 0 fun x113 => eFieldAddr Tryz.prog 64 x1 0 fun x114 => eLoad Tryz.prog 160 x113 fun x115 => eLoad Tryz.prog 3 x114 fun x116 => eBin Tryz.prog .eql 3 false x116 (.int .i64 2) fun x117 => eIfV x117
  (areg_call_take_p12 C x1 k110 x109 x113 x115)
  (eCallR Tryz.prog C 112 [x115, (.bool false)] 4 fun x124 => eHas .any x124 (k110 (x124, ())))
noncomputable def areg_call_take_p15 (C : Cal) (K : SV → ER) (a0 : SV) (x1 : SV) (x2 : SV) : ER :=
  eLoad Tryz.prog 64 x2 fun x108 => eCallR Tryz.prog C 160 [x108] 3 fun x109 => eJoinC (σ := SV × Unit) (fun (k110 : SV × Unit → ER) =>
  areg_call_take_p14 C a0 x1 k110 x109) fun (s111 : SV × Unit) =>
  eIfV s111.1
  (areg_call_take_p13 C K a0 x1 x109)
  (K (.tup []))
noncomputable def areg_call_take_p16 (x1 : SV) (k145 : SV × Unit → ER) (s143 : SV × SV × Unit) (x140 : SV) : ER :=
  eIndexAddrS Tryz.prog 36 x140 s143.2.1 fun x147 => eLoad Tryz.prog 3 x147 fun x148 => eIfV s143.1
  (eHas .any (.bool true) (k145 ((.bool true), ())))
  (eFieldAddr Tryz.prog 64 x1 6 fun x149 => eLoad Tryz.prog 3 x149 fun x150 => eBin Tryz.prog .eql 3 false x148 x150 fun x151 => eHas .any x151 (k145 (x151, ())))
noncomputable def areg_call_take_p17 (x1 : SV) (k142 : SV × SV × Unit → ER) (s143 : SV × SV × Unit) (x140 : SV) : ER :=
  eJoinC (σ := SV × Unit) (fun (k145 : SV × Unit → ER) =>
  areg_call_take_p16 x1 k145 s143 x140) fun (s146 : SV × Unit) =>
  eBin Tryz.prog .add 3 false s143.2.1 (.int .i64 1) fun x152 => eHas .any s146.1 (eHas .any x152 (k142 (s146.1, x152, ())))
noncomputable def areg_call_take_p18 (C : Cal) (a0 : SV) (x1 : SV) (k153 : Unit → ER) (s143 : SV × SV × Unit) : ER :=
  eNilCk a0 fun x155 => eFieldAddr Tryz.prog 188 x155 0 fun x156 => eLoad Tryz.prog 160 x156 fun x157 => eLoad Tryz.prog 64 x1 fun x158 => eCallR Tryz.prog C 159 [x158, (.int .i64 6)] 4 fun x159 => fun H => eLoadF Tryz.prog 160 x156 x157 H && (eIfV x159
  (eCallR Tryz.prog C 112 [x157, s143.1] 4 fun x160 => k153 (()))
  (eCallR Tryz.prog C 112 [x157, (.bool false)] 4 fun x161 => k153 (()))) H
noncomputable def areg_call_take_p19 (C : Cal) (K : SV → ER) (a0 : SV) (x1 : SV) (s143 : SV × SV × Unit) : ER :=
  eJoinC (σ := Unit) (fun (k153 : Unit → ER) =>
  areg_call_take_p18 C a0 x1 k153 s143) fun (s154 : Unit) =>
  eFieldAddr Tryz.prog 64 x1 6 fun x162 => eLoad Tryz.prog 3 x162 fun x163 => eNilCk a0 fun x164 => eFieldAddr Tryz.prog 188 x164 7 fun x165 => eStore Tryz.prog 3 x165 x163 <| K (.tup [])
noncomputable def areg_call_take_p20 (C : Cal) (K : SV → ER) (N : Nat) (a0 : SV) (x1 : SV) (x136 : SV) : ER :=
  eNilCk x136 fun x137 => eFieldAddr Tryz.prog 166 x137 0 fun x138 => eFieldAddr Tryz.prog 71 x138 2 fun x139 => eLoad Tryz.prog 36 x139 fun x140 => eLenS Tryz.prog [36] [x140] fun x141 => eHas .any (.bool false) (eHas .any (.int .i64 0) (eIter (σ := SV × SV × Unit) (fun (s143 : SV × SV × Unit) (k142 : SV × SV × Unit → ER) =>
  eBin Tryz.prog .lss 3 false s143.2.1 x141 fun x144 => eIfV x144
  (areg_call_take_p17 x1 k142 s143 x140)
  (areg_call_take_p19 C K a0 x1 s143)) N ((.bool false), (.int .i64 0), ())))
noncomputable def areg_call_take_p21 (C : Cal) (K : SV → ER) (N : Nat) (a0 : SV) (a1 : SV) (x1 : SV) : ER :=
  eBin Tryz.prog .eql 5 false a1 (.int .u8 9) fun x133 => eIfV x133
  (eNilCk a0 fun x134 => eFieldAddr Tryz.prog 188 x134 0 fun x135 => eLoad Tryz.prog 160 x135 fun x136 => areg_call_take_p20 C K N a0 x1 x136)
  (K (.tup []))
noncomputable def areg_call_take_p22 (C : Cal) (K : SV → ER) (N : Nat) (a0 : SV) (a1 : SV) (x1 : SV) (x2 : SV) : ER :=
  eBin Tryz.prog .eql 5 false a1 (.int .u8 7) fun x94 => eIfV x94
  (areg_call_take_p10 C K a0 x1)
  (eBin Tryz.prog .eql 5 false a1 (.int .u8 8) fun x107 => eIfV x107
  (areg_call_take_p15 C K a0 x1 x2)
  (areg_call_take_p21 C K N a0 a1 x1))
noncomputable def areg_call_take_p23 (C : Cal) (K : SV → ER) (N : Nat) (a0 : SV) (a1 : SV) (x1 : SV) (x2 : SV) : ER :=
  eBin Tryz.prog .eql 5 false a1 (.int .u8 5) fun x72 => eIfV x72
  (areg_call_take_p8 C K a0 x1)
  (eBin Tryz.prog .eql 5 false a1 (.int .u8 6) fun x83 => eIfV x83
  (areg_call_take_p9 C K a0 x1)
  (areg_call_take_p22 C K N a0 a1 x1 x2))
noncomputable def areg_call_take_p24 (C : Cal) (K : SV → ER) (N : Nat) (a0 : SV) (a1 : SV) (x1 : SV) (x2 : SV) : ER :=
  eBin Tryz.prog .eql 5 false a1 (.int .u8 3) fun x57 => eIfV x57
  (areg_call_take_p6 C K a0 x1)
  (eBin Tryz.prog .eql 5 false a1 (.int .u8 4) fun x64 => eIfV x64
  (areg_call_take_p7 C K a0 x1)
  (areg_call_take_p23 C K N a0 a1 x1 x2))
noncomputable def areg_call_take_e (C : Cal) (N : Nat) (a0 a1 a2 a3 : SV) (K : SV → ER) : ER :=
  eBox Tryz.prog 64 a2 fun x1 => eBox Tryz.prog 64 a3 fun x2 => eBin Tryz.prog .eql 5 false a1 (.int .u8 1) fun x3 => eIfV x3
  (eJoinC (σ := SV × Unit) (fun (k4 : SV × Unit → ER) =>
  areg_call_take_p4 C a0 k4 x1) fun (s5 : SV × Unit) =>
  eIfV s5.1
  (areg_call_take_p3 C K a0 x1)
  (K (.tup [])))
  (eBin Tryz.prog .eql 5 false a1 (.int .u8 2) fun x50 => eIfV x50
  (areg_call_take_p5 C K a0 x1)
  (areg_call_take_p24 C K N a0 a1 x1 x2))
theorem areg_call_take_ee (C : Cal) (N : Nat) (a0 a1 a2 a3 : SV) (K : SV → ER) : eBody Tryz.prog C N Tryz.f126 (Tryz.f126.body.getD .skip) areg_call_take_ea [a0, a1, a2, a3] K = areg_call_take_e C N a0 a1 a2 a3 K := by kernel_rfl
noncomputable def l126 : LeafT := fun C N args K => match args with
  | [a0, a1, a2, a3] => areg_call_take_e C N a0 a1 a2 a3 K
  | _ => eF
theorem lok126 : LeafOk Tryz.prog 126 l126 := .inl ⟨Tryz.f126, Tryz.f126.body.getD .skip, areg_call_take_ea, Tryz.func126, by kernel_rfl, Tryz.call126, fun C N args K H e => by
  unfold l126 at e
  split at e
  · rw [areg_call_take_ee]; exact e
  · exact eF_no e⟩

/- halberd/areg.does -/
def areg_does_ea : Ann := .two (.none) (.two (.none) (.none))
noncomputable def areg_does_p0 (K : SV → ER) (b1 : Nat) : ER :=
  ePutS Tryz.prog 191 (.map (some b1)) (.int .i64 7) (.fn 162 [] []) fun x8 => ePutS Tryz.prog 191 (.map (some b1)) (.int .i64 8) (.fn 163 [] []) fun x9 => ePutS Tryz.prog 191 (.map (some b1)) (.int .i64 9) (.fn 164 [] []) fun x10 => ePutS Tryz.prog 191 (.map (some b1)) (.int .i64 10) (.fn 164 [] []) fun x11 => ePutS Tryz.prog 191 (.map (some b1)) (.int .i64 11) (.fn 162 [] []) fun x12 => ePutS Tryz.prog 191 (.map (some b1)) (.int .i64 12) (.fn 165 [] []) fun x13 => ePutS Tryz.prog 191 (.map (some b1)) (.int .i64 13) (.fn 166 [] []) fun x14 => K (.map (some b1))
noncomputable def areg_does_e (C : Cal) (N : Nat) (K : SV → ER) : ER :=
  eNewB (.map []) fun b1 => ePutS Tryz.prog 191 (.map (some b1)) (.int .i64 1) (.fn 161 [] []) fun x2 => ePutS Tryz.prog 191 (.map (some b1)) (.int .i64 2) (.fn 162 [] []) fun x3 => ePutS Tryz.prog 191 (.map (some b1)) (.int .i64 3) (.fn 162 [] []) fun x4 => ePutS Tryz.prog 191 (.map (some b1)) (.int .i64 4) (.fn 161 [] []) fun x5 => ePutS Tryz.prog 191 (.map (some b1)) (.int .i64 5) (.fn 161 [] []) fun x6 => ePutS Tryz.prog 191 (.map (some b1)) (.int .i64 6) (.fn 162 [] []) fun x7 => areg_does_p0 K b1
theorem areg_does_ee (C : Cal) (N : Nat) (K : SV → ER) : eBody Tryz.prog C N Tryz.f127 (Tryz.f127.body.getD .skip) areg_does_ea [] K = areg_does_e C N  K := by kernel_rfl
noncomputable def l127 : LeafT := fun C N args K => match args with
  | [] => areg_does_e C N  K
  | _ => eF
theorem lok127 : LeafOk Tryz.prog 127 l127 := .inl ⟨Tryz.f127, Tryz.f127.body.getD .skip, areg_does_ea, Tryz.func127, by kernel_rfl, Tryz.call127, fun C N args K H e => by
  unfold l127 at e
  split at e
  · rw [areg_does_ee]; exact e
  · exact eF_no e⟩

/- (*halberd/areg.work).same -/
def areg_work_same_ea : Ann := .two (.none) (.two (.two (.none) (.two (.two (.none) (.none)) (.none))) (.two (.none) (.join (.two (.none) (.two (.none) (.none))) (.two (.none) (.none)) [])))
noncomputable def areg_work_same_p0 (C : Cal) (K : SV → ER) (a0 : SV) (x1 : SV) (x2 : SV) : ER :=
  eFieldAddr Tryz.prog 64 x1 6 fun x8 => eLoad Tryz.prog 3 x8 fun x9 => eCallR Tryz.prog C 167 [a0, x9, (.fn 168 [] [x2])] 0 fun x10 => eJoinC (σ := Unit) (fun (k11 : Unit → ER) =>
  eLoad Tryz.prog 4 x2 fun x13 => eIfV x13
  (eFieldAddr Tryz.prog 64 x1 6 fun x14 => eLoad Tryz.prog 3 x14 fun x15 => eCallR Tryz.prog C 169 [a0, x15] 0 fun x16 => k11 (()))
  (k11 (()))) fun (s12 : Unit) =>
  K (.bool true)
noncomputable def areg_work_same_e (C : Cal) (N : Nat) (a0 a1 a2 : SV) (K : SV → ER) : ER :=
  eBox Tryz.prog 64 a1 fun x1 => eBox Tryz.prog 4 a2 fun x2 => eFieldAddr Tryz.prog 64 x1 5 fun x3 => eLoad Tryz.prog 4 x3 fun x4 => eUnS .not x4 fun x5 => eIfV x5
  (eLoad Tryz.prog 4 x2 fun x6 => eUnS .not x6 fun x7 => K x7)
  (areg_work_same_p0 C K a0 x1 x2)
theorem areg_work_same_ee (C : Cal) (N : Nat) (a0 a1 a2 : SV) (K : SV → ER) : eBody Tryz.prog C N Tryz.f128 (Tryz.f128.body.getD .skip) areg_work_same_ea [a0, a1, a2] K = areg_work_same_e C N a0 a1 a2 K := by kernel_rfl
noncomputable def l128 : LeafT := fun C N args K => match args with
  | [a0, a1, a2] => areg_work_same_e C N a0 a1 a2 K
  | _ => eF
theorem lok128 : LeafOk Tryz.prog 128 l128 := .inl ⟨Tryz.f128, Tryz.f128.body.getD .skip, areg_work_same_ea, Tryz.func128, by kernel_rfl, Tryz.call128, fun C N args K H e => by
  unfold l128 at e
  split at e
  · rw [areg_work_same_ee]; exact e
  · exact eF_no e⟩

end Go.Proofs.YtjafpcagfgklgaaGreatDoor

set_option linter.unusedVariables false
set_option maxRecDepth 100000
namespace Go.Proofs.YtjafpcagfgklgaaGreatDoor
open Go.Hl
/- halberd/narrow.Way -/
def narrow_Way_ea : Ann := .two (.none) (.two (.none) (.two (.join (.none) (.two (.two (.ord [0, 1, 2, 3, 4]) (.none)) (.none)) [(46, .any)]) (.two (.none) (.two (.none) (.join (.two (.none) (.two (.none) (.none))) (.two (.none) (.two (.none) (.two (.none) (.two (.join (.none) (.two (.two (.ord [0, 1, 2, 3, 4]) (.none)) (.none)) [(89, .any)]) (.two (.ord [0, 1, 2, 3, 4]) (.none)))))) [(16, .any)])))))
noncomputable def narrow_Way_p0 (C : Cal) (x1 : SV) (x2 : SV) (k10 : SV × Unit → ER) : ER :=
  eLoad Tryz.prog 62 x1 fun x15 => eCallR Tryz.prog C 172 [x15, (.int .i64 4)] 4 fun x16 => eUnS .not x16 fun x17 => eIfV x17
  (eHas .any (.bool true) (k10 ((.bool true), ())))
  (eLoad Tryz.prog 62 x2 fun x18 => eCallR Tryz.prog C 172 [x18, (.int .i64 4)] 4 fun x19 => eUnS .not x19 fun x20 => eHas .any x20 (k10 (x20, ())))
noncomputable def narrow_Way_p1 (C : Cal) (a0 : SV) (a1 : SV) (x1 : SV) (x2 : SV) (k10 : SV × Unit → ER) : ER :=
  eUnS .not a1 fun x13 => eIfV x13
  (eCallR Tryz.prog C 171 [a0] 4 fun x14 => eIfV x14
  (eHas .any (.bool true) (k10 ((.bool true), ())))
  (narrow_Way_p0 C x1 x2 k10))
  (eHas .any (.bool false) (k10 ((.bool false), ())))
noncomputable def narrow_Way_p2 (K : SV → ER) (x1 : SV) (x2 : SV) (x3 : SV) (x4 : SV) : ER :=
  eLoad Tryz.prog 62 x1 fun x21 => eLoad Tryz.prog 62 x2 fun x22 => eStore Tryz.prog 62 x3 x21 <| fun H => eLoadF Tryz.prog 62 x2 x22 H && (eStore Tryz.prog 62 x4 x22 <| eLoad Tryz.prog 62 x3 fun x23 => eLoad Tryz.prog 62 x4 fun x24 => K (.tup [x23, x24, (.bool true)])) H
noncomputable def narrow_Way_p3 (K : SV → ER) (x1 : SV) (x2 : SV) (x3 : SV) (x4 : SV) : ER :=
  eLoad Tryz.prog 62 x1 fun x58 => eLoad Tryz.prog 62 x2 fun x59 => eStore Tryz.prog 62 x3 x58 <| fun H => eLoadF Tryz.prog 62 x2 x59 H && (eStore Tryz.prog 62 x4 x59 <| eLoad Tryz.prog 62 x3 fun x60 => eLoad Tryz.prog 62 x4 fun x61 => K (.tup [x60, x61, (.bool false)])) H
noncomputable def narrow_Way_p4 (K : SV → ER) (x3 : SV) (x4 : SV) (x43 : SV) (x50 : SV) : ER :=
  eLoad Tryz.prog 62 x43 fun x62 => eLoad Tryz.prog 62 x50 fun x63 => eStore Tryz.prog 62 x3 x62 <| fun H => eLoadF Tryz.prog 62 x50 x63 H && (eStore Tryz.prog 62 x4 x63 <| eLoad Tryz.prog 62 x3 fun x64 => eLoad Tryz.prog 62 x4 fun x65 => K (.tup [x64, x65, (.bool true)])) H
noncomputable def narrow_Way_p5 (k51 : SV × Unit → ER) (x28 : SV) (x42 : SV) (x49 : SV) : ER :=
  eNilCk x28 fun x53 => eFieldAddr Tryz.prog 255 x53 2 fun x54 => eLoad Tryz.prog 4 x54 fun x55 => eIfV x55
  (eHas .any (.bool true) (k51 ((.bool true), ())))
  (eUnS .not x42 fun x56 => eIfV x56
  (eHas .any (.bool true) (k51 ((.bool true), ())))
  (eUnS .not x49 fun x57 => eHas .any x57 (k51 (x57, ()))))
noncomputable def narrow_Way_p6 (C : Cal) (K : SV → ER) (x1 : SV) (x2 : SV) (x3 : SV) (x4 : SV) (x28 : SV) (x41 : SV) (x42 : SV) : ER :=
  eAlloc Tryz.prog 62 fun x43 => eStore Tryz.prog 62 x43 x41 <| eNilCk x28 fun x44 => eFieldAddr Tryz.prog 255 x44 1 fun x45 => eLoad Tryz.prog 62 x45 fun x46 => eCallR Tryz.prog C 155 [x46] 180 fun x47 => eExtract x47 0 fun x48 => eExtract x47 1 fun x49 => eAlloc Tryz.prog 62 fun x50 => eStore Tryz.prog 62 x50 x48 <| eJoinC (σ := SV × Unit) (fun (k51 : SV × Unit → ER) =>
  narrow_Way_p5 k51 x28 x42 x49) fun (s52 : SV × Unit) =>
  eIfV s52.1
  (narrow_Way_p3 K x1 x2 x3 x4)
  (narrow_Way_p4 K x3 x4 x43 x50)
noncomputable def narrow_Way_p7 (C : Cal) (K : SV → ER) (x1 : SV) (x2 : SV) (x3 : SV) (x4 : SV) (s32 : SV × Unit) (x28 : SV) : ER :=
  eCallVR Tryz.prog C s32.1 [x28] 0 fun x36 => eNilCk x28 fun x37 => eFieldAddr Tryz.prog 255 x37 0 fun x38 => eLoad Tryz.prog 62 x38 fun x39 => eCallR Tryz.prog C 155 [x39] 180 fun x40 => eExtract x40 0 fun x41 => eExtract x40 1 fun x42 => narrow_Way_p6 C K x1 x2 x3 x4 x28 x41 x42
noncomputable def narrow_Way_p8 (C : Cal) (K : SV → ER) (a4 : SV) (x1 : SV) (x2 : SV) (x3 : SV) (x4 : SV) (x9 : SV) (x25 : SV) : ER :=
  eLoad Tryz.prog 62 x2 fun x26 => eBuild Tryz.prog 255 [(0, x25), (1, x26)] fun x27 => eBox Tryz.prog 255 x27 fun x28 => eIndexAddrS Tryz.prog 248 x9 (.int .i64 0) fun x29 => eLoad Tryz.prog 247 x29 fun x30 => eJoinC (σ := SV × Unit) (fun (k31 : SV × Unit → ER) =>
  eUnS .not a4 fun x33 => eIfV x33
  (eIndexAddrS Tryz.prog 248 x9 (.int .i64 1) fun x34 => eLoad Tryz.prog 247 x34 fun x35 => eHas .any x35 (k31 (x35, ())))
  (eHas .any x30 (k31 (x30, ())))) fun (s32 : SV × Unit) =>
  narrow_Way_p7 C K x1 x2 x3 x4 s32 x28
noncomputable def narrow_Way_p9 (C : Cal) (K : SV → ER) (a0 : SV) (a1 : SV) (a4 : SV) (x1 : SV) (x2 : SV) (x3 : SV) (x4 : SV) : ER :=
  eCallR Tryz.prog C 170 [] 250 fun x5 => eLookupS Tryz.prog 250 x5 a0 true fun x6 => eExtract x6 0 fun x7 => eExtract x6 1 fun x8 => eAlloc Tryz.prog 248 fun x9 => eStore Tryz.prog 248 x9 x7 <| eJoinC (σ := SV × Unit) (fun (k10 : SV × Unit → ER) =>
  eUnS .not x8 fun x12 => eIfV x12
  (eHas .any (.bool true) (k10 ((.bool true), ())))
  (narrow_Way_p1 C a0 a1 x1 x2 k10)) fun (s11 : SV × Unit) =>
  eIfV s11.1
  (narrow_Way_p2 K x1 x2 x3 x4)
  (eLoad Tryz.prog 62 x1 fun x25 => narrow_Way_p8 C K a4 x1 x2 x3 x4 x9 x25)
noncomputable def narrow_Way_e (C : Cal) (N : Nat) (a0 a1 a2 a3 a4 : SV) (K : SV → ER) : ER :=
  eBox Tryz.prog 62 a2 fun x1 => eBox Tryz.prog 62 a3 fun x2 => eAlloc Tryz.prog 62 fun x3 => eAlloc Tryz.prog 62 fun x4 => narrow_Way_p9 C K a0 a1 a4 x1 x2 x3 x4
theorem narrow_Way_ee (C : Cal) (N : Nat) (a0 a1 a2 a3 a4 : SV) (K : SV → ER) : eBody Tryz.prog C N Tryz.f129 (Tryz.f129.body.getD .skip) narrow_Way_ea [a0, a1, a2, a3, a4] K = narrow_Way_e C N a0 a1 a2 a3 a4 K := by kernel_rfl
noncomputable def l129 : LeafT := fun C N args K => match args with
  | [a0, a1, a2, a3, a4] => narrow_Way_e C N a0 a1 a2 a3 a4 K
  | _ => eF
theorem lok129 : LeafOk Tryz.prog 129 l129 := .inl ⟨Tryz.f129, Tryz.f129.body.getD .skip, narrow_Way_ea, Tryz.func129, by kernel_rfl, Tryz.call129, fun C N args K H e => by
  unfold l129 at e
  split at e
  · rw [narrow_Way_ee]; exact e
  · exact eF_no e⟩

/- internal/stringslite.Clone -/
def internal_stringslite_Clone_ea : Ann := .two (.none) (.two (.two (.none) (.two (.two (.none) (.none)) (.none))) (.two (.none) (.two (.none) (.two (.none) (.none)))))
noncomputable def internal_stringslite_Clone_p0 (a0 : SV) : ER :=
  eLenS Tryz.prog [9] [a0] fun x3 => eMakeSliceS Tryz.prog 50 x3 x3 fun x4 => eCopy Tryz.prog [50, 9] [x4, a0] fun x5 => eIndexAddrS Tryz.prog 50 x4 (.int .i64 0) fun x6 => eLenS Tryz.prog [50] [x4] fun x7 => eF
noncomputable def internal_stringslite_Clone_e (C : Cal) (N : Nat) (a0 : SV) (K : SV → ER) : ER :=
  eLenS Tryz.prog [9] [a0] fun x1 => eBin Tryz.prog .eql 3 false x1 (.int .i64 0) fun x2 => eIfV x2
  (K (.str []))
  (internal_stringslite_Clone_p0 a0)
theorem internal_stringslite_Clone_ee (C : Cal) (N : Nat) (a0 : SV) (K : SV → ER) : eBody Tryz.prog C N Tryz.f134 (Tryz.f134.body.getD .skip) internal_stringslite_Clone_ea [a0] K = internal_stringslite_Clone_e C N a0 K := by kernel_rfl
noncomputable def l134 : LeafT := fun C N args K => match args with
  | [a0] => internal_stringslite_Clone_e C N a0 K
  | _ => eF
theorem lok134 : LeafOk Tryz.prog 134 l134 := .inl ⟨Tryz.f134, Tryz.f134.body.getD .skip, internal_stringslite_Clone_ea, Tryz.func134, by kernel_rfl, Tryz.call134, fun C N args K H e => by
  unfold l134 at e
  split at e
  · rw [internal_stringslite_Clone_ee]; exact e
  · exact eF_no e⟩

/- errors.New -/
def errors_New_ea : Ann := .two (.none) (.two (.none) (.none))
noncomputable def errors_New_e (C : Cal) (N : Nat) (a0 : SV) (K : SV → ER) : ER :=
  eBuild Tryz.prog 259 [(0, a0)] fun x1 => eBox Tryz.prog 259 x1 fun x2 => eMakeIface Tryz.prog 257 x2 fun x3 => K x3
theorem errors_New_ee (C : Cal) (N : Nat) (a0 : SV) (K : SV → ER) : eBody Tryz.prog C N Tryz.f135 (Tryz.f135.body.getD .skip) errors_New_ea [a0] K = errors_New_e C N a0 K := by kernel_rfl
noncomputable def l135 : LeafT := fun C N args K => match args with
  | [a0] => errors_New_e C N a0 K
  | _ => eF
theorem lok135 : LeafOk Tryz.prog 135 l135 := .inl ⟨Tryz.f135, Tryz.f135.body.getD .skip, errors_New_ea, Tryz.func135, by kernel_rfl, Tryz.call135, fun C N args K H e => by
  unfold l135 at e
  split at e
  · rw [errors_New_ee]; exact e
  · exact eF_no e⟩

/- halberd/isa.sizes -/
def isa_sizes_ea : Ann := .two (.none) (.two (.none) (.none))
noncomputable def isa_sizes_e (C : Cal) (N : Nat) (K : SV → ER) : ER :=
  eNewB (.map []) fun b1 => ePutS Tryz.prog 213 (.map (some b1)) (.int .u8 0) (.int .i64 4) fun x2 => ePutS Tryz.prog 213 (.map (some b1)) (.int .u8 8) (.int .i64 2) fun x3 => ePutS Tryz.prog 213 (.map (some b1)) (.int .u8 16) (.int .i64 1) fun x4 => ePutS Tryz.prog 213 (.map (some b1)) (.int .u8 24) (.int .i64 8) fun x5 => K (.map (some b1))
theorem isa_sizes_ee (C : Cal) (N : Nat) (K : SV → ER) : eBody Tryz.prog C N Tryz.f141 (Tryz.f141.body.getD .skip) isa_sizes_ea [] K = isa_sizes_e C N  K := by kernel_rfl
noncomputable def l141 : LeafT := fun C N args K => match args with
  | [] => isa_sizes_e C N  K
  | _ => eF
theorem lok141 : LeafOk Tryz.prog 141 l141 := .inl ⟨Tryz.f141, Tryz.f141.body.getD .skip, isa_sizes_ea, Tryz.func141, by kernel_rfl, Tryz.call141, fun C N args K H e => by
  unfold l141 at e
  split at e
  · rw [isa_sizes_ee]; exact e
  · exact eF_no e⟩

/- slices.Clone[[]int,int] -/
def slices_Clone_int_int_ea : Ann := .two (.none) (.two (.two (.none) (.two (.two (.none) (.none)) (.none))) (.two (.none) (.none)))
noncomputable def slices_Clone_int_int_e (C : Cal) (N : Nat) (a0 : SV) (K : SV → ER) : ER :=
  eBin Tryz.prog .eql 36 true a0 (.sl ⟨none, 0, .lit 0⟩) fun x1 => eIfV x1
  (K (.sl ⟨none, 0, .lit 0⟩))
  (eBuildSlice Tryz.prog 36 0 [] fun x2 => eApp Tryz.prog [36, 36] [x2, a0] fun x3 => K x3)
theorem slices_Clone_int_int_ee (C : Cal) (N : Nat) (a0 : SV) (K : SV → ER) : eBody Tryz.prog C N Tryz.f142 (Tryz.f142.body.getD .skip) slices_Clone_int_int_ea [a0] K = slices_Clone_int_int_e C N a0 K := by kernel_rfl
noncomputable def l142 : LeafT := fun C N args K => match args with
  | [a0] => slices_Clone_int_int_e C N a0 K
  | _ => eF
theorem lok142 : LeafOk Tryz.prog 142 l142 := .inl ⟨Tryz.f142, Tryz.f142.body.getD .skip, slices_Clone_int_int_ea, Tryz.func142, by kernel_rfl, Tryz.call142, fun C N args K H e => by
  unfold l142 at e
  split at e
  · rw [slices_Clone_int_int_ee]; exact e
  · exact eF_no e⟩

/- halberd/tnum.Const -/
def tnum_Const_ea : Ann := .two (.none) (.two (.none) (.none))
noncomputable def tnum_Const_e (C : Cal) (N : Nat) (a0 : SV) (K : SV → ER) : ER :=
  eAlloc Tryz.prog 60 fun x1 => eBuild Tryz.prog 60 [(0, a0)] fun x2 => eStore Tryz.prog 60 x1 x2 <| eLoad Tryz.prog 60 x1 fun x3 => K x3
theorem tnum_Const_ee (C : Cal) (N : Nat) (a0 : SV) (K : SV → ER) : eBody Tryz.prog C N Tryz.f143 (Tryz.f143.body.getD .skip) tnum_Const_ea [a0] K = tnum_Const_e C N a0 K := by kernel_rfl
noncomputable def l143 : LeafT := fun C N args K => match args with
  | [a0] => tnum_Const_e C N a0 K
  | _ => eF
theorem lok143 : LeafOk Tryz.prog 143 l143 := .inl ⟨Tryz.f143, Tryz.f143.body.getD .skip, tnum_Const_ea, Tryz.func143, by kernel_rfl, Tryz.call143, fun C N args K H e => by
  unfold l143 at e
  split at e
  · rw [tnum_Const_ee]; exact e
  · exact eF_no e⟩

/- halberd/num.All -/
def num_All_ea : Ann := .two (.none) (.two (.none) (.none))
noncomputable def num_All_e (C : Cal) (N : Nat) (K : SV → ER) : ER :=
  eAlloc Tryz.prog 62 fun x1 => eCallR Tryz.prog C 179 [] 60 fun x2 => eBuild Tryz.prog 62 [(0, x2), (2, (.int .u64 18446744073709551615)), (3, (.int .i64 (-9223372036854775808))), (4, (.int .i64 9223372036854775807))] fun x3 => eStore Tryz.prog 62 x1 x3 <| eLoad Tryz.prog 62 x1 fun x4 => K x4
theorem num_All_ee (C : Cal) (N : Nat) (K : SV → ER) : eBody Tryz.prog C N Tryz.f144 (Tryz.f144.body.getD .skip) num_All_ea [] K = num_All_e C N  K := by kernel_rfl
noncomputable def l144 : LeafT := fun C N args K => match args with
  | [] => num_All_e C N  K
  | _ => eF
theorem lok144 : LeafOk Tryz.prog 144 l144 := .inl ⟨Tryz.f144, Tryz.f144.body.getD .skip, num_All_ea, Tryz.func144, by kernel_rfl, Tryz.call144, fun C N args K H e => by
  unfold l144 at e
  split at e
  · rw [num_All_ee]; exact e
  · exact eF_no e⟩

/- halberd/areg.upTo -/
def areg_upTo_ea : Ann := .two (.none) (.two (.none) (.none))
noncomputable def areg_upTo_e (C : Cal) (N : Nat) (a0 : SV) (K : SV → ER) : ER :=
  eAlloc Tryz.prog 64 fun x1 => eCallR Tryz.prog C 180 [(.int .u64 0), a0] 62 fun x2 => eCallR Tryz.prog C 108 [x2] 64 fun x3 => eStore Tryz.prog 64 x1 x3 <| eLoad Tryz.prog 64 x1 fun x4 => K x4
theorem areg_upTo_ee (C : Cal) (N : Nat) (a0 : SV) (K : SV → ER) : eBody Tryz.prog C N Tryz.f145 (Tryz.f145.body.getD .skip) areg_upTo_ea [a0] K = areg_upTo_e C N a0 K := by kernel_rfl
noncomputable def l145 : LeafT := fun C N args K => match args with
  | [a0] => areg_upTo_e C N a0 K
  | _ => eF
theorem lok145 : LeafOk Tryz.prog 145 l145 := .inl ⟨Tryz.f145, Tryz.f145.body.getD .skip, areg_upTo_ea, Tryz.func145, by kernel_rfl, Tryz.call145, fun C N args K H e => by
  unfold l145 at e
  split at e
  · rw [areg_upTo_ee]; exact e
  · exact eF_no e⟩

end Go.Proofs.YtjafpcagfgklgaaGreatDoor

set_option linter.unusedVariables false
set_option maxRecDepth 100000
namespace Go.Proofs.YtjafpcagfgklgaaGreatDoor
open Go.Hl
/- (*halberd/areg.work).stackAt -/
def areg_work_stackAt_ea : Ann := .two (.none) (.two (.join (.none) (.two (.two (.none) (.none)) (.none)) [(21, .any)]) (.two (.none) (.none)))
noncomputable def areg_work_stackAt_p0 (C : Cal) (a0 : SV) (a1 : SV) (a2 : SV) (k1 : SV × Unit → ER) : ER :=
  eBin Tryz.prog .gtr 3 false a2 (.int .i64 0) fun x4 => eIfV x4
  (eUnS .neg a2 fun x5 => eBin Tryz.prog .leq 3 false a1 x5 fun x6 => eCallR Tryz.prog C 112 [a0, x6] 4 fun x7 => eUnS .not x7 fun x8 => eHas .any x8 (k1 (x8, ())))
  (eCallR Tryz.prog C 112 [a0, (.bool false)] 4 fun x9 => eUnS .not x9 fun x10 => eHas .any x10 (k1 (x10, ())))
noncomputable def areg_work_stackAt_p1 (C : Cal) (a0 : SV) (a1 : SV) (a2 : SV) (k1 : SV × Unit → ER) : ER :=
  eBin Tryz.prog .geq 3 false a1 (.int .i64 (-64)) fun x3 => eIfV x3
  (areg_work_stackAt_p0 C a0 a1 a2 k1)
  (eCallR Tryz.prog C 112 [a0, (.bool false)] 4 fun x11 => eUnS .not x11 fun x12 => eHas .any x12 (k1 (x12, ())))
noncomputable def areg_work_stackAt_e (C : Cal) (N : Nat) (a0 a1 a2 : SV) (K : SV → ER) : ER :=
  eJoinC (σ := SV × Unit) (fun (k1 : SV × Unit → ER) =>
  areg_work_stackAt_p1 C a0 a1 a2 k1) fun (s2 : SV × Unit) =>
  eIfV s2.1
  (K (.int .i64 0))
  (eBin Tryz.prog .add 3 false a1 (.int .i64 64) fun x13 => K x13)
theorem areg_work_stackAt_ee (C : Cal) (N : Nat) (a0 a1 a2 : SV) (K : SV → ER) : eBody Tryz.prog C N Tryz.f146 (Tryz.f146.body.getD .skip) areg_work_stackAt_ea [a0, a1, a2] K = areg_work_stackAt_e C N a0 a1 a2 K := by kernel_rfl
noncomputable def l146 : LeafT := fun C N args K => match args with
  | [a0, a1, a2] => areg_work_stackAt_e C N a0 a1 a2 K
  | _ => eF
theorem lok146 : LeafOk Tryz.prog 146 l146 := .inl ⟨Tryz.f146, Tryz.f146.body.getD .skip, areg_work_stackAt_ea, Tryz.func146, by kernel_rfl, Tryz.call146, fun C N args K H e => by
  unfold l146 at e
  split at e
  · rw [areg_work_stackAt_ee]; exact e
  · exact eF_no e⟩

/- (*halberd/areg.work).solid -/
def areg_work_solid_ea : Ann := .two (.none) (.two (.two (.none) (.sub (.loop [(7, .any)] (.two (.two (.none) (.two (.none) (.none))) (.two (.sub (.two (.none) (.join (.none) (.two (.two (.none) (.none)) (.none)) [(36, .any)]))) (.none)))))) (.two (.none) (.none)))
noncomputable def areg_work_solid_p0 (s2 : SV × Unit) (k12 : SV × Unit → ER) (x11 : SV) : ER :=
  eBin Tryz.prog .rem 3 false s2.1 (.int .i64 8) fun x18 => eFieldAddr Tryz.prog 68 x11 1 fun x19 => eIndexAddrS Tryz.prog 66 x19 x18 fun x20 => eLoad Tryz.prog 4 x20 fun x21 => eUnS .not x21 fun x22 => eHas .any x22 (k12 (x22, ()))
noncomputable def areg_work_solid_p1 (s2 : SV × Unit) (k12 : SV × Unit → ER) (x11 : SV) : ER :=
  eFieldAddr Tryz.prog 68 x11 0 fun x14 => eFieldAddr Tryz.prog 64 x14 0 fun x15 => eLoad Tryz.prog 3 x15 fun x16 => eBin Tryz.prog .gtr 3 false x16 (.int .i64 1) fun x17 => eIfV x17
  (eHas .any (.bool true) (k12 ((.bool true), ())))
  (areg_work_solid_p0 s2 k12 x11)
noncomputable def areg_work_solid_p2 (K : SV → ER) (a0 : SV) (k1 : SV × Unit → ER) (s2 : SV × Unit) : ER :=
  eBin Tryz.prog .quo 3 false s2.1 (.int .i64 8) fun x5 => eNilCk a0 fun x6 => eFieldAddr Tryz.prog 166 x6 0 fun x7 => eFieldAddr Tryz.prog 71 x7 1 fun x8 => eIndexAddrS Tryz.prog 69 x8 x5 fun x9 => eLoad Tryz.prog 68 x9 fun x10 => eAlloc Tryz.prog 68 fun x11 => eStore Tryz.prog 68 x11 x10 <| eJoinC (σ := SV × Unit) (fun (k12 : SV × Unit → ER) =>
  areg_work_solid_p1 s2 k12 x11) fun (s13 : SV × Unit) =>
  eIfV s13.1
  (K (.bool false))
  (eBin Tryz.prog .add 3 false s2.1 (.int .i64 1) fun x23 => eHas .any x23 (k1 (x23, ())))
noncomputable def areg_work_solid_e (C : Cal) (N : Nat) (a0 a1 a2 : SV) (K : SV → ER) : ER :=
  eHas .any a1 (eIter (σ := SV × Unit) (fun (s2 : SV × Unit) (k1 : SV × Unit → ER) =>
  eBin Tryz.prog .add 3 false a1 a2 fun x3 => eBin Tryz.prog .lss 3 false s2.1 x3 fun x4 => eIfV x4
  (areg_work_solid_p2 K a0 k1 s2)
  (K (.bool true))) N (a1, ()))
theorem areg_work_solid_ee (C : Cal) (N : Nat) (a0 a1 a2 : SV) (K : SV → ER) : eBody Tryz.prog C N Tryz.f147 (Tryz.f147.body.getD .skip) areg_work_solid_ea [a0, a1, a2] K = areg_work_solid_e C N a0 a1 a2 K := by kernel_rfl
noncomputable def l147 : LeafT := fun C N args K => match args with
  | [a0, a1, a2] => areg_work_solid_e C N a0 a1 a2 K
  | _ => eF
theorem lok147 : LeafOk Tryz.prog 147 l147 := .inl ⟨Tryz.f147, Tryz.f147.body.getD .skip, areg_work_solid_ea, Tryz.func147, by kernel_rfl, Tryz.call147, fun C N args K H e => by
  unfold l147 at e
  split at e
  · rw [areg_work_solid_ee]; exact e
  · exact eF_no e⟩

/- halberd/hooks.Kind -/
def hooks_Kind_ea : Ann := .two (.none) (.two (.none) (.two (.join (.none) (.two (.two (.none) (.none)) (.none)) [(25, .any)]) (.two (.none) (.none))))
noncomputable def hooks_Kind_p0 (a1 : SV) (k5 : SV × Unit → ER) (x4 : SV) : ER :=
  eBin Tryz.prog .lss 3 false a1 (.int .i64 0) fun x8 => eIfV x8
  (eHas .any (.bool true) (k5 ((.bool true), ())))
  (eFieldAddr Tryz.prog 53 x4 1 fun x9 => eLoad Tryz.prog 50 x9 fun x10 => eLenS Tryz.prog [50] [x10] fun x11 => eBin Tryz.prog .geq 3 false a1 x11 fun x12 => eHas .any x12 (k5 (x12, ())))
noncomputable def hooks_Kind_p1 (K : SV → ER) (a1 : SV) (s6 : SV × Unit) (x4 : SV) : ER :=
  eIfV s6.1
  (K (.tup [(.int .u8 0), (.bool false)]))
  (eFieldAddr Tryz.prog 53 x4 1 fun x13 => eLoad Tryz.prog 50 x13 fun x14 => eIndexAddrS Tryz.prog 50 x14 a1 fun x15 => eLoad Tryz.prog 5 x15 fun x16 => K (.tup [x16, (.bool true)]))
noncomputable def hooks_Kind_e (C : Cal) (N : Nat) (a0 a1 : SV) (K : SV → ER) : ER :=
  eCallR Tryz.prog C 17 [a0] 54 fun x1 => eExtract x1 0 fun x2 => eExtract x1 1 fun x3 => eAlloc Tryz.prog 53 fun x4 => eStore Tryz.prog 53 x4 x2 <| eJoinC (σ := SV × Unit) (fun (k5 : SV × Unit → ER) =>
  eUnS .not x3 fun x7 => eIfV x7
  (eHas .any (.bool true) (k5 ((.bool true), ())))
  (hooks_Kind_p0 a1 k5 x4)) fun (s6 : SV × Unit) =>
  hooks_Kind_p1 K a1 s6 x4
theorem hooks_Kind_ee (C : Cal) (N : Nat) (a0 a1 : SV) (K : SV → ER) : eBody Tryz.prog C N Tryz.f148 (Tryz.f148.body.getD .skip) hooks_Kind_ea [a0, a1] K = hooks_Kind_e C N a0 a1 K := by kernel_rfl
noncomputable def l148 : LeafT := fun C N args K => match args with
  | [a0, a1] => hooks_Kind_e C N a0 a1 K
  | _ => eF
theorem lok148 : LeafOk Tryz.prog 148 l148 := .inl ⟨Tryz.f148, Tryz.f148.body.getD .skip, hooks_Kind_ea, Tryz.func148, by kernel_rfl, Tryz.call148, fun C N args K H e => by
  unfold l148 at e
  split at e
  · rw [hooks_Kind_ee]; exact e
  · exact eF_no e⟩

/- slices.Contains[[]int,int] -/
def slices_Contains_int_int_ea : Ann := .two (.none) (.two (.none) (.none))
noncomputable def slices_Contains_int_int_e (C : Cal) (N : Nat) (a0 a1 : SV) (K : SV → ER) : ER :=
  eCallR Tryz.prog C 181 [a0, a1] 3 fun x1 => eBin Tryz.prog .geq 3 false x1 (.int .i64 0) fun x2 => K x2
theorem slices_Contains_int_int_ee (C : Cal) (N : Nat) (a0 a1 : SV) (K : SV → ER) : eBody Tryz.prog C N Tryz.f149 (Tryz.f149.body.getD .skip) slices_Contains_int_int_ea [a0, a1] K = slices_Contains_int_int_e C N a0 a1 K := by kernel_rfl
noncomputable def l149 : LeafT := fun C N args K => match args with
  | [a0, a1] => slices_Contains_int_int_e C N a0 a1 K
  | _ => eF
theorem lok149 : LeafOk Tryz.prog 149 l149 := .inl ⟨Tryz.f149, Tryz.f149.body.getD .skip, slices_Contains_int_int_ea, Tryz.func149, by kernel_rfl, Tryz.call149, fun C N args K H e => by
  unfold l149 at e
  split at e
  · rw [slices_Contains_int_int_ee]; exact e
  · exact eF_no e⟩

/- (*halberd/areg.work).touch -/
def areg_work_touch_ea : Ann := .two (.none) (.sub (.loop [(6, .any)] (.two (.two (.none) (.two (.none) (.none))) (.two (.sub (.two (.none) (.join (.two (.none) (.two (.none) (.none))) (.two (.none) (.none)) []))) (.none)))))
noncomputable def areg_work_touch_p0 (x9 : SV) (k10 : Unit → ER) : ER :=
  eNilCk x9 fun x12 => eFieldAddr Tryz.prog 68 x12 0 fun x13 => eFieldAddr Tryz.prog 64 x13 0 fun x14 => eLoad Tryz.prog 3 x14 fun x15 => eBin Tryz.prog .gtr 3 false x15 (.int .i64 1) fun x16 => eIfV x16
  (eBuild Tryz.prog 66 [] fun x17 => eNilCk x9 fun x18 => eFieldAddr Tryz.prog 68 x18 1 fun x19 => eStore Tryz.prog 66 x19 x17 <| k10 (()))
  (k10 (()))
noncomputable def areg_work_touch_p1 (k1 : SV × Unit → ER) (s2 : SV × Unit) (x9 : SV) : ER :=
  eBuild Tryz.prog 64 [] fun x20 => eNilCk x9 fun x21 => eFieldAddr Tryz.prog 68 x21 0 fun x22 => eStore Tryz.prog 64 x22 x20 <| eBin Tryz.prog .rem 3 false s2.1 (.int .i64 8) fun x23 => eNilCk x9 fun x24 => eFieldAddr Tryz.prog 68 x24 1 fun x25 => eIndexAddrS Tryz.prog 66 x25 x23 fun x26 => eStore Tryz.prog 4 x26 (.bool true) <| eBin Tryz.prog .add 3 false s2.1 (.int .i64 1) fun x27 => eHas .any x27 (k1 (x27, ()))
noncomputable def areg_work_touch_p2 (a0 : SV) (k1 : SV × Unit → ER) (s2 : SV × Unit) : ER :=
  eBin Tryz.prog .quo 3 false s2.1 (.int .i64 8) fun x5 => eNilCk a0 fun x6 => eFieldAddr Tryz.prog 166 x6 0 fun x7 => eFieldAddr Tryz.prog 71 x7 1 fun x8 => eIndexAddrS Tryz.prog 69 x8 x5 fun x9 => eJoinC (σ := Unit) (fun (k10 : Unit → ER) =>
  areg_work_touch_p0 x9 k10) fun (s11 : Unit) =>
  areg_work_touch_p1 k1 s2 x9
noncomputable def areg_work_touch_e (C : Cal) (N : Nat) (a0 a1 a2 : SV) (K : SV → ER) : ER :=
  eHas .any a1 (eIter (σ := SV × Unit) (fun (s2 : SV × Unit) (k1 : SV × Unit → ER) =>
  eBin Tryz.prog .add 3 false a1 a2 fun x3 => eBin Tryz.prog .lss 3 false s2.1 x3 fun x4 => eIfV x4
  (areg_work_touch_p2 a0 k1 s2)
  (K (.tup []))) N (a1, ()))
theorem areg_work_touch_ee (C : Cal) (N : Nat) (a0 a1 a2 : SV) (K : SV → ER) : eBody Tryz.prog C N Tryz.f150 (Tryz.f150.body.getD .skip) areg_work_touch_ea [a0, a1, a2] K = areg_work_touch_e C N a0 a1 a2 K := by kernel_rfl
noncomputable def l150 : LeafT := fun C N args K => match args with
  | [a0, a1, a2] => areg_work_touch_e C N a0 a1 a2 K
  | _ => eF
theorem lok150 : LeafOk Tryz.prog 150 l150 := .inl ⟨Tryz.f150, Tryz.f150.body.getD .skip, areg_work_touch_ea, Tryz.func150, by kernel_rfl, Tryz.call150, fun C N args K H e => by
  unfold l150 at e
  split at e
  · rw [areg_work_touch_ee]; exact e
  · exact eF_no e⟩

/- halberd/num.IsConst -/
def num_IsConst_ea : Ann := .two (.none) (.two (.two (.none) (.two (.two (.none) (.none)) (.none))) (.two (.none) (.none)))
noncomputable def num_IsConst_e (C : Cal) (N : Nat) (a0 : SV) (K : SV → ER) : ER :=
  eBox Tryz.prog 62 a0 fun x1 => eFieldAddr Tryz.prog 62 x1 0 fun x2 => eFieldAddr Tryz.prog 60 x2 1 fun x3 => eLoad Tryz.prog 23 x3 fun x4 => eBin Tryz.prog .neq 23 false x4 (.int .u64 0) fun x5 => eIfV x5
  (K (.tup [(.int .u64 0), (.bool false)]))
  (eFieldAddr Tryz.prog 62 x1 0 fun x6 => eFieldAddr Tryz.prog 60 x6 0 fun x7 => eLoad Tryz.prog 23 x7 fun x8 => K (.tup [x8, (.bool true)]))
theorem num_IsConst_ee (C : Cal) (N : Nat) (a0 : SV) (K : SV → ER) : eBody Tryz.prog C N Tryz.f151 (Tryz.f151.body.getD .skip) num_IsConst_ea [a0] K = num_IsConst_e C N a0 K := by kernel_rfl
noncomputable def l151 : LeafT := fun C N args K => match args with
  | [a0] => num_IsConst_e C N a0 K
  | _ => eF
theorem lok151 : LeafOk Tryz.prog 151 l151 := .inl ⟨Tryz.f151, Tryz.f151.body.getD .skip, num_IsConst_ea, Tryz.func151, by kernel_rfl, Tryz.call151, fun C N args K H e => by
  unfold l151 at e
  split at e
  · rw [num_IsConst_ee]; exact e
  · exact eF_no e⟩

/- halberd/xfer.rows -/
def xfer_rows_ea : Ann := .two (.none) (.two (.none) (.none))
noncomputable def xfer_rows_p0 (K : SV → ER) (b1 : Nat) : ER :=
  ePutS Tryz.prog 229 (.map (some b1)) (.int .u8 64) (.fn 188 [] []) fun x8 => ePutS Tryz.prog 229 (.map (some b1)) (.int .u8 160) (.fn 189 [] []) fun x9 => ePutS Tryz.prog 229 (.map (some b1)) (.int .u8 96) (.fn 190 [] []) fun x10 => ePutS Tryz.prog 229 (.map (some b1)) (.int .u8 112) (.fn 191 [] []) fun x11 => ePutS Tryz.prog 229 (.map (some b1)) (.int .u8 192) (.fn 192 [] []) fun x12 => ePutS Tryz.prog 229 (.map (some b1)) (.int .u8 128) (.fn 193 [] []) fun x13 => ePutS Tryz.prog 229 (.map (some b1)) (.int .u8 176) (.fn 194 [] []) fun x14 => K (.map (some b1))
noncomputable def xfer_rows_e (C : Cal) (N : Nat) (K : SV → ER) : ER :=
  eNewB (.map []) fun b1 => ePutS Tryz.prog 229 (.map (some b1)) (.int .u8 0) (.fn 182 [] []) fun x2 => ePutS Tryz.prog 229 (.map (some b1)) (.int .u8 16) (.fn 183 [] []) fun x3 => ePutS Tryz.prog 229 (.map (some b1)) (.int .u8 32) (.fn 184 [] []) fun x4 => ePutS Tryz.prog 229 (.map (some b1)) (.int .u8 48) (.fn 185 [] []) fun x5 => ePutS Tryz.prog 229 (.map (some b1)) (.int .u8 144) (.fn 186 [] []) fun x6 => ePutS Tryz.prog 229 (.map (some b1)) (.int .u8 80) (.fn 187 [] []) fun x7 => xfer_rows_p0 K b1
theorem xfer_rows_ee (C : Cal) (N : Nat) (K : SV → ER) : eBody Tryz.prog C N Tryz.f152 (Tryz.f152.body.getD .skip) xfer_rows_ea [] K = xfer_rows_e C N  K := by kernel_rfl
noncomputable def l152 : LeafT := fun C N args K => match args with
  | [] => xfer_rows_e C N  K
  | _ => eF
theorem lok152 : LeafOk Tryz.prog 152 l152 := .inl ⟨Tryz.f152, Tryz.f152.body.getD .skip, xfer_rows_ea, Tryz.func152, by kernel_rfl, Tryz.call152, fun C N args K H e => by
  unfold l152 at e
  split at e
  · rw [xfer_rows_ee]; exact e
  · exact eF_no e⟩

/- halberd/alu.Do -/
def alu_Do_ea : Ann := .two (.none) (.two (.none) (.join (.two (.none) (.two (.none) (.none))) (.two (.none) (.two (.two (.none) (.two (.none) (.two (.two (.none) (.none)) (.none)))) (.two (.none) (.two (.two (.none) (.two (.two (.none) (.none)) (.none))) (.two (.none) (.none)))))) [(10, .any), (11, .any)]))
noncomputable def alu_Do_p0 (C : Cal) (K : SV → ER) (a0 : SV) (s2 : SV × SV × Unit) (x4 : SV) (x5 : SV) : ER :=
  eCallR Tryz.prog C 197 [] 271 fun x10 => eLookupS Tryz.prog 271 x10 a0 true fun x11 => eExtract x11 0 fun x12 => eExtract x11 1 fun x13 => eUnS .not x13 fun x14 => eIfV x14
  (K (.tup [(.int .u64 0), (.bool false)]))
  (eCallVR Tryz.prog C x12 [x4, x5] 23 fun x15 => eCallR Tryz.prog C 195 [x15, s2.2.1] 23 fun x16 => K (.tup [x16, (.bool true)]))
noncomputable def alu_Do_p1 (a1 : SV) (k1 : SV × SV × Unit → ER) : ER :=
  eUnS .not a1 fun x3 => eIfV x3
  (eHas .any (.int .u64 32) (eHas .any (.int .i64 4) (k1 ((.int .u64 32), (.int .i64 4), ()))))
  (eHas .any (.int .u64 64) (eHas .any (.int .i64 8) (k1 ((.int .u64 64), (.int .i64 8), ()))))
noncomputable def alu_Do_p2 (C : Cal) (K : SV → ER) (a0 : SV) (a2 : SV) (a3 : SV) (s2 : SV × SV × Unit) : ER :=
  eCallR Tryz.prog C 195 [a2, s2.2.1] 23 fun x4 => eCallR Tryz.prog C 195 [a3, s2.2.1] 23 fun x5 => eCallR Tryz.prog C 196 [a0, s2.1, x4, x5] 225 fun x6 => eExtract x6 0 fun x7 => eExtract x6 1 fun x8 => eIfV x8
  (eCallR Tryz.prog C 195 [x7, s2.2.1] 23 fun x9 => K (.tup [x9, (.bool true)]))
  (alu_Do_p0 C K a0 s2 x4 x5)
noncomputable def alu_Do_e (C : Cal) (N : Nat) (a0 a1 a2 a3 : SV) (K : SV → ER) : ER :=
  eJoinC (σ := SV × SV × Unit) (fun (k1 : SV × SV × Unit → ER) =>
  alu_Do_p1 a1 k1) fun (s2 : SV × SV × Unit) =>
  alu_Do_p2 C K a0 a2 a3 s2
theorem alu_Do_ee (C : Cal) (N : Nat) (a0 a1 a2 a3 : SV) (K : SV → ER) : eBody Tryz.prog C N Tryz.f153 (Tryz.f153.body.getD .skip) alu_Do_ea [a0, a1, a2, a3] K = alu_Do_e C N a0 a1 a2 a3 K := by kernel_rfl
noncomputable def l153 : LeafT := fun C N args K => match args with
  | [a0, a1, a2, a3] => alu_Do_e C N a0 a1 a2 a3 K
  | _ => eF
theorem lok153 : LeafOk Tryz.prog 153 l153 := .inl ⟨Tryz.f153, Tryz.f153.body.getD .skip, alu_Do_ea, Tryz.func153, by kernel_rfl, Tryz.call153, fun C N args K H e => by
  unfold l153 at e
  split at e
  · rw [alu_Do_ee]; exact e
  · exact eF_no e⟩

end Go.Proofs.YtjafpcagfgklgaaGreatDoor

set_option linter.unusedVariables false
set_option maxRecDepth 100000
namespace Go.Proofs.YtjafpcagfgklgaaGreatDoor
open Go.Hl
/- halberd/num.Cut -/
def num_Cut_ea : Ann := .two (.none) (.two (.join (.none) (.two (.two (.none) (.none)) (.none)) [(12, .any)]) (.two (.none) (.two (.none) (.join (.two (.none) (.two (.ord [0, 2, 1, 4, 3, 5, 6, 7]) (.none))) (.two (.none) (.none)) []))))
noncomputable def num_Cut_p0 (x1 : SV) (k19 : Unit → ER) (x11 : SV) : ER :=
  eFieldAddr Tryz.prog 62 x1 1 fun x23 => eFieldAddr Tryz.prog 62 x1 2 fun x24 => eLoad Tryz.prog 23 x23 fun x25 => eFieldAddr Tryz.prog 62 x11 1 fun x26 => eLoad Tryz.prog 23 x24 fun x27 => eStore Tryz.prog 23 x26 x25 <| fun H => eLoadF Tryz.prog 23 x24 x27 H && (eFieldAddr Tryz.prog 62 x11 2 fun x28 => eStore Tryz.prog 23 x28 x27 <| k19 (())) H
noncomputable def num_Cut_p1 (C : Cal) (K : SV → ER) (a1 : SV) (x1 : SV) (x2 : SV) (x11 : SV) (x14 : SV) (x15 : SV) : ER :=
  eCallR Tryz.prog C 200 [x15] 23 fun x16 => eFieldAddr Tryz.prog 62 x11 0 fun x17 => eStore Tryz.prog 60 x17 x14 <| eFieldAddr Tryz.prog 62 x11 2 fun x18 => eStore Tryz.prog 23 x18 x16 <| eJoinC (σ := Unit) (fun (k19 : Unit → ER) =>
  eLoad Tryz.prog 62 x1 fun x21 => eCallR Tryz.prog C 172 [x21, a1] 4 fun x22 => eIfV x22
  (num_Cut_p0 x1 k19 x11)
  (k19 (()))) fun (s20 : Unit) =>
  eLoad Tryz.prog 62 x11 fun x29 => eCallR Tryz.prog C 201 [x29] 62 fun x30 => eStore Tryz.prog 62 x2 x30 <| eLoad Tryz.prog 62 x2 fun x31 => K x31
noncomputable def num_Cut_p2 (C : Cal) (K : SV → ER) (a1 : SV) (x1 : SV) (x2 : SV) : ER :=
  eCallR Tryz.prog C 144 [] 62 fun x10 => eAlloc Tryz.prog 62 fun x11 => eStore Tryz.prog 62 x11 x10 <| eFieldAddr Tryz.prog 62 x1 0 fun x12 => eLoad Tryz.prog 60 x12 fun x13 => eCallR Tryz.prog C 199 [x13, a1] 60 fun x14 => eBin Tryz.prog .mul 3 false (.int .i64 8) a1 fun x15 => num_Cut_p1 C K a1 x1 x2 x11 x14 x15
noncomputable def num_Cut_p3 (C : Cal) (a1 : SV) (k3 : SV × Unit → ER) : ER :=
  eBin Tryz.prog .eql 3 false a1 (.int .i64 8) fun x5 => eIfV x5
  (eHas .any (.bool true) (k3 ((.bool true), ())))
  (eCallR Tryz.prog C 198 [a1] 4 fun x6 => eUnS .not x6 fun x7 => eHas .any x7 (k3 (x7, ())))
noncomputable def num_Cut_e (C : Cal) (N : Nat) (a0 a1 : SV) (K : SV → ER) : ER :=
  eBox Tryz.prog 62 a0 fun x1 => eAlloc Tryz.prog 62 fun x2 => eJoinC (σ := SV × Unit) (fun (k3 : SV × Unit → ER) =>
  num_Cut_p3 C a1 k3) fun (s4 : SV × Unit) =>
  eIfV s4.1
  (eLoad Tryz.prog 62 x1 fun x8 => eStore Tryz.prog 62 x2 x8 <| eLoad Tryz.prog 62 x2 fun x9 => K x9)
  (num_Cut_p2 C K a1 x1 x2)
theorem num_Cut_ee (C : Cal) (N : Nat) (a0 a1 : SV) (K : SV → ER) : eBody Tryz.prog C N Tryz.f154 (Tryz.f154.body.getD .skip) num_Cut_ea [a0, a1] K = num_Cut_e C N a0 a1 K := by kernel_rfl
noncomputable def l154 : LeafT := fun C N args K => match args with
  | [a0, a1] => num_Cut_e C N a0 a1 K
  | _ => eF
theorem lok154 : LeafOk Tryz.prog 154 l154 := .inl ⟨Tryz.f154, Tryz.f154.body.getD .skip, num_Cut_ea, Tryz.func154, by kernel_rfl, Tryz.call154, fun C N args K H e => by
  unfold l154 at e
  split at e
  · rw [num_Cut_ee]; exact e
  · exact eF_no e⟩

/- halberd/num.Refine -/
def num_Refine_ea : Ann := .two (.none) (.two (.none) (.two (.two (.none) (.sub (.loop [(8, .any)] (.two (.none) (.two (.two (.none) (.none)) (.two (.sub (.two (.none) (.two (.two (.none) (.none)) (.none)))) (.none))))))) (.two (.none) (.none))))
noncomputable def num_Refine_p0 (C : Cal) (K : SV → ER) (k6 : SV × Unit → ER) (s7 : SV × Unit) (x2 : SV) (x5 : SV) : ER :=
  eCallR Tryz.prog C 202 [x5] 4 fun x9 => eUnS .not x9 fun x10 => eIfV x10
  (eCallR Tryz.prog C 144 [] 62 fun x11 => eStore Tryz.prog 62 x2 x11 <| eLoad Tryz.prog 62 x2 fun x12 => K (.tup [x12, (.bool false)]))
  (eBin Tryz.prog .add 3 false s7.1 (.int .i64 1) fun x13 => eHas .any x13 (k6 (x13, ())))
noncomputable def num_Refine_p1 (C : Cal) (K : SV → ER) (k6 : SV × Unit → ER) (s7 : SV × Unit) (x2 : SV) (x5 : SV) : ER :=
  eBin Tryz.prog .lss 3 false s7.1 (.int .i64 2) fun x8 => eIfV x8
  (num_Refine_p0 C K k6 s7 x2 x5)
  (eNilCk x5 fun x14 => eFieldAddr Tryz.prog 278 x14 0 fun x15 => eLoad Tryz.prog 62 x15 fun x16 => eStore Tryz.prog 62 x2 x16 <| eLoad Tryz.prog 62 x2 fun x17 => K (.tup [x17, (.bool true)]))
noncomputable def num_Refine_e (C : Cal) (N : Nat) (a0 : SV) (K : SV → ER) : ER :=
  eBox Tryz.prog 62 a0 fun x1 => eAlloc Tryz.prog 62 fun x2 => eLoad Tryz.prog 62 x1 fun x3 => eBuild Tryz.prog 278 [(0, x3)] fun x4 => eBox Tryz.prog 278 x4 fun x5 => eHas .any (.int .i64 0) (eIter (σ := SV × Unit) (fun (s7 : SV × Unit) (k6 : SV × Unit → ER) =>
  num_Refine_p1 C K k6 s7 x2 x5) N ((.int .i64 0), ()))
theorem num_Refine_ee (C : Cal) (N : Nat) (a0 : SV) (K : SV → ER) : eBody Tryz.prog C N Tryz.f155 (Tryz.f155.body.getD .skip) num_Refine_ea [a0] K = num_Refine_e C N a0 K := by kernel_rfl
noncomputable def l155 : LeafT := fun C N args K => match args with
  | [a0] => num_Refine_e C N a0 K
  | _ => eF
theorem lok155 : LeafOk Tryz.prog 155 l155 := .inl ⟨Tryz.f155, Tryz.f155.body.getD .skip, num_Refine_ea, Tryz.func155, by kernel_rfl, Tryz.call155, fun C N args K H e => by
  unfold l155 at e
  split at e
  · rw [num_Refine_ee]; exact e
  · exact eF_no e⟩

/- halberd/helpers.table -/
def helpers_table_ea : Ann := .two (.none) (.two (.none) (.two (.none) (.none)))
noncomputable def helpers_table_p0 (K : SV → ER) (b2 : Nat) : ER :=
  eBuildSlice Tryz.prog 50 3 [(0, (.int .u8 5)), (1, (.int .u8 8)), (2, (.int .u8 7))] fun x41 => eBuild Tryz.prog 183 [(0, (.str [112, 97, 116, 104])), (1, x41), (3, (.int .u8 1))] fun x42 => ePutS Tryz.prog 237 (.map (some b2)) (.int .i64 12) x42 fun x43 => eBuildSlice Tryz.prog 50 2 [(0, (.int .u8 6)), (1, (.int .u8 4))] fun x44 => eBuild Tryz.prog 183 [(0, (.str [105, 110, 115, 105, 100, 101])), (1, x44), (3, (.int .u8 1))] fun x45 => ePutS Tryz.prog 237 (.map (some b2)) (.int .i64 13) x45 fun x46 => K (.map (some b2))
noncomputable def helpers_table_p1 (K : SV → ER) (b2 : Nat) (x33 : SV) : ER :=
  eBuild Tryz.prog 183 [(0, (.str [115, 117, 98, 109, 105, 116])), (1, x33), (3, (.int .u8 1))] fun x34 => ePutS Tryz.prog 237 (.map (some b2)) (.int .i64 9) x34 fun x35 => eBuildSlice Tryz.prog 50 1 [(0, (.int .u8 9))] fun x36 => eBuild Tryz.prog 183 [(0, (.str [100, 105, 115, 99, 97, 114, 100])), (1, x36), (3, (.int .u8 1))] fun x37 => ePutS Tryz.prog 237 (.map (some b2)) (.int .i64 10) x37 fun x38 => eBuild Tryz.prog 183 [(0, (.str [110, 111, 119])), (3, (.int .u8 1))] fun x39 => ePutS Tryz.prog 237 (.map (some b2)) (.int .i64 11) x39 fun x40 => helpers_table_p0 K b2
noncomputable def helpers_table_p2 (K : SV → ER) (b2 : Nat) (x25 : SV) (x26 : SV) : ER :=
  eBuild Tryz.prog 183 [(0, (.str [116, 97, 115, 107, 95, 100, 101, 108])), (1, x25), (2, x26), (3, (.int .u8 1))] fun x27 => ePutS Tryz.prog 237 (.map (some b2)) (.int .i64 7) x27 fun x28 => eBuildSlice Tryz.prog 50 2 [(0, (.int .u8 1)), (1, (.int .u8 7))] fun x29 => eBuildSlice Tryz.prog 36 1 [(0, (.int .i64 5))] fun x30 => eBuild Tryz.prog 183 [(0, (.str [114, 101, 115, 101, 114, 118, 101])), (1, x29), (2, x30), (3, (.int .u8 3))] fun x31 => ePutS Tryz.prog 237 (.map (some b2)) (.int .i64 8) x31 fun x32 => eBuildSlice Tryz.prog 50 1 [(0, (.int .u8 9))] fun x33 => helpers_table_p1 K b2 x33
noncomputable def helpers_table_p3 (K : SV → ER) (b2 : Nat) (x19 : SV) : ER :=
  ePutS Tryz.prog 237 (.map (some b2)) (.int .i64 5) x19 fun x20 => eBuildSlice Tryz.prog 50 2 [(0, (.int .u8 1)), (1, (.int .u8 5))] fun x21 => eBuildSlice Tryz.prog 36 1 [(0, (.int .i64 3))] fun x22 => eBuild Tryz.prog 183 [(0, (.str [105, 110, 111, 100, 101, 95, 100, 101, 108])), (1, x21), (2, x22), (3, (.int .u8 1))] fun x23 => ePutS Tryz.prog 237 (.map (some b2)) (.int .i64 6) x23 fun x24 => eBuildSlice Tryz.prog 50 2 [(0, (.int .u8 1)), (1, (.int .u8 6))] fun x25 => eBuildSlice Tryz.prog 36 1 [(0, (.int .i64 4))] fun x26 => helpers_table_p2 K b2 x25 x26
noncomputable def helpers_table_p4 (K : SV → ER) (b2 : Nat) (x13 : SV) (x14 : SV) : ER :=
  eBuild Tryz.prog 183 [(0, (.str [105, 110, 111, 100, 101, 95, 103, 101, 116])), (1, x13), (2, x14), (3, (.int .u8 2))] fun x15 => ePutS Tryz.prog 237 (.map (some b2)) (.int .i64 4) x15 fun x16 => eBuildSlice Tryz.prog 50 3 [(0, (.int .u8 1)), (1, (.int .u8 6)), (2, (.int .u8 4))] fun x17 => eBuildSlice Tryz.prog 36 1 [(0, (.int .i64 4))] fun x18 => eBuild Tryz.prog 183 [(0, (.str [116, 97, 115, 107, 95, 103, 101, 116])), (1, x17), (2, x18), (3, (.int .u8 2))] fun x19 => helpers_table_p3 K b2 x19
noncomputable def helpers_table_p5 (K : SV → ER) (b2 : Nat) : ER :=
  eBuildSlice Tryz.prog 50 2 [(0, (.int .u8 1)), (1, (.int .u8 2))] fun x9 => eBuildSlice Tryz.prog 36 1 [(0, (.int .i64 2))] fun x10 => eBuild Tryz.prog 183 [(0, (.str [100, 101, 108, 101, 116, 101])), (1, x9), (2, x10), (3, (.int .u8 1))] fun x11 => ePutS Tryz.prog 237 (.map (some b2)) (.int .i64 3) x11 fun x12 => eBuildSlice Tryz.prog 50 3 [(0, (.int .u8 1)), (1, (.int .u8 5)), (2, (.int .u8 4))] fun x13 => eBuildSlice Tryz.prog 36 1 [(0, (.int .i64 3))] fun x14 => helpers_table_p4 K b2 x13 x14
noncomputable def helpers_table_p6 (K : SV → ER) (b2 : Nat) (x1 : SV) : ER :=
  eBuildSlice Tryz.prog 50 2 [(0, (.int .u8 1)), (1, (.int .u8 2))] fun x3 => eBuild Tryz.prog 183 [(0, (.str [108, 111, 111, 107, 117, 112])), (1, x3), (2, x1), (3, (.int .u8 2))] fun x4 => ePutS Tryz.prog 237 (.map (some b2)) (.int .i64 1) x4 fun x5 => eBuildSlice Tryz.prog 50 4 [(0, (.int .u8 1)), (1, (.int .u8 2)), (2, (.int .u8 3)), (3, (.int .u8 4))] fun x6 => eBuild Tryz.prog 183 [(0, (.str [117, 112, 100, 97, 116, 101])), (1, x6), (2, x1), (3, (.int .u8 1))] fun x7 => ePutS Tryz.prog 237 (.map (some b2)) (.int .i64 2) x7 fun x8 => helpers_table_p5 K b2
noncomputable def helpers_table_e (C : Cal) (N : Nat) (K : SV → ER) : ER :=
  eBuildSlice Tryz.prog 36 2 [(0, (.int .i64 1)), (1, (.int .i64 2))] fun x1 => eNewB (.map []) fun b2 => helpers_table_p6 K b2 x1
theorem helpers_table_ee (C : Cal) (N : Nat) (K : SV → ER) : eBody Tryz.prog C N Tryz.f156 (Tryz.f156.body.getD .skip) helpers_table_ea [] K = helpers_table_e C N  K := by kernel_rfl
noncomputable def l156 : LeafT := fun C N args K => match args with
  | [] => helpers_table_e C N  K
  | _ => eF
theorem lok156 : LeafOk Tryz.prog 156 l156 := .inl ⟨Tryz.f156, Tryz.f156.body.getD .skip, helpers_table_ea, Tryz.func156, by kernel_rfl, Tryz.call156, fun C N args K H e => by
  unfold l156 at e
  split at e
  · rw [helpers_table_ee]; exact e
  · exact eF_no e⟩

/- halberd/helpers.Suits -/
def helpers_Suits_ea : Ann := .two (.none) (.two (.none) (.join (.none) (.none) [(4, .any)]))
noncomputable def helpers_Suits_p0 (C : Cal) (k6 : SV × Unit → ER) (x1 : SV) (x4 : SV) (x5 : SV) : ER :=
  eIfV x4
  (eFieldAddr Tryz.prog 183 x5 2 fun x8 => eLoad Tryz.prog 36 x8 fun x9 => eCallR Tryz.prog C 203 [x9, (.fn 204 [] [x1])] 4 fun x10 => eHas .any x10 (k6 (x10, ())))
  (eHas .any (.bool false) (k6 ((.bool false), ())))
noncomputable def helpers_Suits_e (C : Cal) (N : Nat) (a0 a1 : SV) (K : SV → ER) : ER :=
  eBox Tryz.prog 3 a1 fun x1 => eCallR Tryz.prog C 125 [a0] 184 fun x2 => eExtract x2 0 fun x3 => eExtract x2 1 fun x4 => eAlloc Tryz.prog 183 fun x5 => eStore Tryz.prog 183 x5 x3 <| eJoinC (σ := SV × Unit) (fun (k6 : SV × Unit → ER) =>
  helpers_Suits_p0 C k6 x1 x4 x5) fun (s7 : SV × Unit) =>
  K s7.1
theorem helpers_Suits_ee (C : Cal) (N : Nat) (a0 a1 : SV) (K : SV → ER) : eBody Tryz.prog C N Tryz.f157 (Tryz.f157.body.getD .skip) helpers_Suits_ea [a0, a1] K = helpers_Suits_e C N a0 a1 K := by kernel_rfl
noncomputable def l157 : LeafT := fun C N args K => match args with
  | [a0, a1] => helpers_Suits_e C N a0 a1 K
  | _ => eF
theorem lok157 : LeafOk Tryz.prog 157 l157 := .inl ⟨Tryz.f157, Tryz.f157.body.getD .skip, helpers_Suits_ea, Tryz.func157, by kernel_rfl, Tryz.call157, fun C N args K H e => by
  unfold l157 at e
  split at e
  · rw [helpers_Suits_ee]; exact e
  · exact eF_no e⟩

/- (*halberd/areg.call).stackBytes -/
def areg_call_stackBytes_ea : Ann := .two (.none) (.two (.join (.ord [0, 1, 2, 4, 3, 5, 6, 7, 8, 9, 10, 11, 12, 13]) (.two (.none) (.none)) [(20, .any)]) (.two (.ord [0, 1, 2, 4, 6, 3, 5, 7, 8]) (.ord [0, 1, 2, 4, 5, 6, 3, 7, 8, 9, 10, 11, 12, 13, 14, 16, 17, 15, 18, 19, 20])))
noncomputable def areg_call_stackBytes_p0 (C : Cal) (k2 : SV × Unit → ER) (x1 : SV) (x5 : SV) (x7 : SV) : ER :=
  eFieldAddr Tryz.prog 64 x1 2 fun x10 => eLoad Tryz.prog 3 x10 fun x11 => eCallR Tryz.prog C 114 [x11] 4 fun x12 => fun H => eLoadF Tryz.prog 160 x5 x7 H && (eCallR Tryz.prog C 112 [x7, x12] 4 fun x13 => eUnS .not x13 fun x14 => eHas .any x14 (k2 (x14, ()))) H
noncomputable def areg_call_stackBytes_p1 (C : Cal) (K : SV → ER) (a0 : SV) (a2 : SV) (x22 : SV) (x24 : SV) (x27 : SV) : ER :=
  eNilCk a0 fun x33 => eFieldAddr Tryz.prog 188 x33 0 fun x34 => eLoad Tryz.prog 160 x34 fun x35 => eCallR Tryz.prog C 147 [x35, x22, a2] 4 fun x36 => fun H => eLoadF Tryz.prog 160 x24 x27 H && (eCallR Tryz.prog C 112 [x27, x36] 4 fun x37 => K (.tup [])) H
noncomputable def areg_call_stackBytes_p2 (C : Cal) (K : SV → ER) (a0 : SV) (a2 : SV) (x19 : SV) (x20 : SV) : ER :=
  eLoad Tryz.prog 3 x19 fun x21 => eCallR Tryz.prog C 146 [x20, x21, a2] 3 fun x22 => eNilCk a0 fun x23 => eFieldAddr Tryz.prog 188 x23 0 fun x24 => eNilCk a0 fun x25 => eFieldAddr Tryz.prog 188 x25 0 fun x26 => eLoad Tryz.prog 160 x24 fun x27 => eLoad Tryz.prog 160 x26 fun x28 => eNilCk x28 fun x29 => eFieldAddr Tryz.prog 166 x29 1 fun x30 => eLoad Tryz.prog 4 x30 fun x31 => eIfV x31
  (eCallR Tryz.prog C 112 [x27, (.bool true)] 4 fun x32 => K (.tup []))
  (areg_call_stackBytes_p1 C K a0 a2 x22 x24 x27)
noncomputable def areg_call_stackBytes_p3 (C : Cal) (a0 : SV) (k2 : SV × Unit → ER) (x1 : SV) : ER :=
  eNilCk a0 fun x4 => eFieldAddr Tryz.prog 188 x4 0 fun x5 => eFieldAddr Tryz.prog 64 x1 0 fun x6 => eLoad Tryz.prog 160 x5 fun x7 => eLoad Tryz.prog 3 x6 fun x8 => eBin Tryz.prog .eql 3 false x8 (.int .i64 2) fun x9 => eIfV x9
  (areg_call_stackBytes_p0 C k2 x1 x5 x7)
  (eCallR Tryz.prog C 112 [x7, (.bool false)] 4 fun x15 => eUnS .not x15 fun x16 => eHas .any x16 (k2 (x16, ())))
noncomputable def areg_call_stackBytes_p4 (C : Cal) (K : SV → ER) (a0 : SV) (a2 : SV) (s3 : SV × Unit) (x1 : SV) : ER :=
  eIfV s3.1
  (K (.tup []))
  (eNilCk a0 fun x17 => eFieldAddr Tryz.prog 188 x17 0 fun x18 => eFieldAddr Tryz.prog 64 x1 2 fun x19 => eLoad Tryz.prog 160 x18 fun x20 => areg_call_stackBytes_p2 C K a0 a2 x19 x20)
noncomputable def areg_call_stackBytes_e (C : Cal) (N : Nat) (a0 a1 a2 : SV) (K : SV → ER) : ER :=
  eBox Tryz.prog 64 a1 fun x1 => eJoinC (σ := SV × Unit) (fun (k2 : SV × Unit → ER) =>
  areg_call_stackBytes_p3 C a0 k2 x1) fun (s3 : SV × Unit) =>
  areg_call_stackBytes_p4 C K a0 a2 s3 x1
theorem areg_call_stackBytes_ee (C : Cal) (N : Nat) (a0 a1 a2 : SV) (K : SV → ER) : eBody Tryz.prog C N Tryz.f158 (Tryz.f158.body.getD .skip) areg_call_stackBytes_ea [a0, a1, a2] K = areg_call_stackBytes_e C N a0 a1 a2 K := by kernel_rfl
noncomputable def l158 : LeafT := fun C N args K => match args with
  | [a0, a1, a2] => areg_call_stackBytes_e C N a0 a1 a2 K
  | _ => eF
theorem lok158 : LeafOk Tryz.prog 158 l158 := .inl ⟨Tryz.f158, Tryz.f158.body.getD .skip, areg_call_stackBytes_ea, Tryz.func158, by kernel_rfl, Tryz.call158, fun C N args K H e => by
  unfold l158 at e
  split at e
  · rw [areg_call_stackBytes_ee]; exact e
  · exact eF_no e⟩

/- halberd/areg.plain -/
def areg_plain_ea : Ann := .two (.none) (.join (.none) (.none) [(4, .any)])
noncomputable def areg_plain_p0 (k2 : SV × Unit → ER) (x1 : SV) : ER :=
  eFieldAddr Tryz.prog 64 x1 2 fun x10 => eLoad Tryz.prog 3 x10 fun x11 => eBin Tryz.prog .eql 3 false x11 (.int .i64 0) fun x12 => eIfV x12
  (eFieldAddr Tryz.prog 64 x1 3 fun x13 => eLoad Tryz.prog 3 x13 fun x14 => eBin Tryz.prog .eql 3 false x14 (.int .i64 0) fun x15 => eHas .any x15 (k2 (x15, ())))
  (eHas .any (.bool false) (k2 ((.bool false), ())))
noncomputable def areg_plain_p1 (a1 : SV) (k2 : SV × Unit → ER) (x1 : SV) : ER :=
  eFieldAddr Tryz.prog 64 x1 0 fun x4 => eLoad Tryz.prog 3 x4 fun x5 => eBin Tryz.prog .eql 3 false x5 a1 fun x6 => eIfV x6
  (eFieldAddr Tryz.prog 64 x1 5 fun x7 => eLoad Tryz.prog 4 x7 fun x8 => eUnS .not x8 fun x9 => eIfV x9
  (areg_plain_p0 k2 x1)
  (eHas .any (.bool false) (k2 ((.bool false), ()))))
  (eHas .any (.bool false) (k2 ((.bool false), ())))
noncomputable def areg_plain_e (C : Cal) (N : Nat) (a0 a1 : SV) (K : SV → ER) : ER :=
  eBox Tryz.prog 64 a0 fun x1 => eJoinC (σ := SV × Unit) (fun (k2 : SV × Unit → ER) =>
  areg_plain_p1 a1 k2 x1) fun (s3 : SV × Unit) =>
  K s3.1
theorem areg_plain_ee (C : Cal) (N : Nat) (a0 a1 : SV) (K : SV → ER) : eBody Tryz.prog C N Tryz.f159 (Tryz.f159.body.getD .skip) areg_plain_ea [a0, a1] K = areg_plain_e C N a0 a1 K := by kernel_rfl
noncomputable def l159 : LeafT := fun C N args K => match args with
  | [a0, a1] => areg_plain_e C N a0 a1 K
  | _ => eF
theorem lok159 : LeafOk Tryz.prog 159 l159 := .inl ⟨Tryz.f159, Tryz.f159.body.getD .skip, areg_plain_ea, Tryz.func159, by kernel_rfl, Tryz.call159, fun C N args K H e => by
  unfold l159 at e
  split at e
  · rw [areg_plain_ee]; exact e
  · exact eF_no e⟩

/- halberd/areg.constant -/
def areg_constant_ea : Ann := .two (.none) (.two (.none) (.two (.join (.none) (.two (.two (.none) (.none)) (.none)) [(25, .any)]) (.two (.none) (.none))))
noncomputable def areg_constant_p0 (k7 : SV × Unit → ER) (x5 : SV) : ER :=
  eBin Tryz.prog .lss 23 false x5 (.int .u64 1) fun x13 => eIfV x13
  (eHas .any (.bool true) (k7 ((.bool true), ())))
  (eBin Tryz.prog .gtr 23 false x5 (.int .u64 32) fun x14 => eHas .any x14 (k7 (x14, ())))
noncomputable def areg_constant_p1 (k7 : SV × Unit → ER) (x1 : SV) (x5 : SV) (x6 : SV) : ER :=
  eFieldAddr Tryz.prog 64 x1 0 fun x9 => eLoad Tryz.prog 3 x9 fun x10 => eBin Tryz.prog .neq 3 false x10 (.int .i64 1) fun x11 => eIfV x11
  (eHas .any (.bool true) (k7 ((.bool true), ())))
  (eUnS .not x6 fun x12 => eIfV x12
  (eHas .any (.bool true) (k7 ((.bool true), ())))
  (areg_constant_p0 k7 x5))
noncomputable def areg_constant_e (C : Cal) (N : Nat) (a0 : SV) (K : SV → ER) : ER :=
  eBox Tryz.prog 64 a0 fun x1 => eFieldAddr Tryz.prog 64 x1 1 fun x2 => eLoad Tryz.prog 62 x2 fun x3 => eCallR Tryz.prog C 151 [x3] 225 fun x4 => eExtract x4 0 fun x5 => eExtract x4 1 fun x6 => eJoinC (σ := SV × Unit) (fun (k7 : SV × Unit → ER) =>
  areg_constant_p1 k7 x1 x5 x6) fun (s8 : SV × Unit) =>
  eIfV s8.1
  (K (.int .i64 0))
  (eConvS Tryz.prog 23 3 x5 fun x15 => K x15)
theorem areg_constant_ee (C : Cal) (N : Nat) (a0 : SV) (K : SV → ER) : eBody Tryz.prog C N Tryz.f160 (Tryz.f160.body.getD .skip) areg_constant_ea [a0] K = areg_constant_e C N a0 K := by kernel_rfl
noncomputable def l160 : LeafT := fun C N args K => match args with
  | [a0] => areg_constant_e C N a0 K
  | _ => eF
theorem lok160 : LeafOk Tryz.prog 160 l160 := .inl ⟨Tryz.f160, Tryz.f160.body.getD .skip, areg_constant_ea, Tryz.func160, by kernel_rfl, Tryz.call160, fun C N args K H e => by
  unfold l160 at e
  split at e
  · rw [areg_constant_ee]; exact e
  · exact eF_no e⟩

/- (*halberd/areg.call).slot -/
def areg_call_slot_ea : Ann := .two (.none) (.two (.none) (.none))
noncomputable def areg_call_slot_e (C : Cal) (N : Nat) (a0 : SV) (K : SV → ER) : ER :=
  eAlloc Tryz.prog 64 fun x1 => eNilCk a0 fun x2 => eFieldAddr Tryz.prog 188 x2 4 fun x3 => eLoad Tryz.prog 3 x3 fun x4 => eCallR Tryz.prog C 205 [a0, (.int .i64 5), x4] 64 fun x5 => eStore Tryz.prog 64 x1 x5 <| eLoad Tryz.prog 64 x1 fun x6 => K x6
theorem areg_call_slot_ee (C : Cal) (N : Nat) (a0 : SV) (K : SV → ER) : eBody Tryz.prog C N Tryz.f161 (Tryz.f161.body.getD .skip) areg_call_slot_ea [a0] K = areg_call_slot_e C N a0 K := by kernel_rfl
noncomputable def l161 : LeafT := fun C N args K => match args with
  | [a0] => areg_call_slot_e C N a0 K
  | _ => eF
theorem lok161 : LeafOk Tryz.prog 161 l161 := .inl ⟨Tryz.f161, Tryz.f161.body.getD .skip, areg_call_slot_ea, Tryz.func161, by kernel_rfl, Tryz.call161, fun C N args K H e => by
  unfold l161 at e
  split at e
  · rw [areg_call_slot_ee]; exact e
  · exact eF_no e⟩

end Go.Proofs.YtjafpcagfgklgaaGreatDoor

set_option linter.unusedVariables false
set_option maxRecDepth 100000
namespace Go.Proofs.YtjafpcagfgklgaaGreatDoor
open Go.Hl
/- (*halberd/areg.call).any -/
def areg_call_any_ea : Ann := .two (.none) (.two (.none) (.none))
noncomputable def areg_call_any_e (C : Cal) (N : Nat) (a0 : SV) (K : SV → ER) : ER :=
  eAlloc Tryz.prog 64 fun x1 => eCallR Tryz.prog C 144 [] 62 fun x2 => eCallR Tryz.prog C 108 [x2] 64 fun x3 => eStore Tryz.prog 64 x1 x3 <| eLoad Tryz.prog 64 x1 fun x4 => K x4
theorem areg_call_any_ee (C : Cal) (N : Nat) (a0 : SV) (K : SV → ER) : eBody Tryz.prog C N Tryz.f162 (Tryz.f162.body.getD .skip) areg_call_any_ea [a0] K = areg_call_any_e C N a0 K := by kernel_rfl
noncomputable def l162 : LeafT := fun C N args K => match args with
  | [a0] => areg_call_any_e C N a0 K
  | _ => eF
theorem lok162 : LeafOk Tryz.prog 162 l162 := .inl ⟨Tryz.f162, Tryz.f162.body.getD .skip, areg_call_any_ea, Tryz.func162, by kernel_rfl, Tryz.call162, fun C N args K H e => by
  unfold l162 at e
  split at e
  · rw [areg_call_any_ee]; exact e
  · exact eF_no e⟩

/- (*halberd/areg.call).reserve -/
def areg_call_reserve_ea : Ann := .two (.none) (.two (.none) (.two (.ord [0, 1, 2, 4, 5, 6, 12, 3, 7, 8, 9, 10, 11, 13, 14, 15, 16, 17, 18, 19]) (.two (.none) (.none))))
noncomputable def areg_call_reserve_p0 (K : SV → ER) (x1 : SV) (x6 : SV) (x8 : SV) (x11 : SV) (x12 : SV) (x14 : SV) : ER :=
  eFieldAddr Tryz.prog 166 x14 0 fun x15 => eFieldAddr Tryz.prog 71 x15 2 fun x16 => eLoad Tryz.prog 36 x16 fun x17 => eLoad Tryz.prog 3 x11 fun x18 => eBuildSlice Tryz.prog 36 1 [(0, x18)] fun x19 => eApp Tryz.prog [36, 36] [x17, x19] fun x20 => fun H => eLoadF Tryz.prog 160 x8 x12 H && (eNilCk x12 fun x21 => eFieldAddr Tryz.prog 166 x21 0 fun x22 => eFieldAddr Tryz.prog 71 x22 2 fun x23 => eStore Tryz.prog 36 x23 x20 <| eLoad Tryz.prog 64 x6 fun x24 => eStore Tryz.prog 64 x1 x24 <| eLoad Tryz.prog 64 x1 fun x25 => K x25) H
noncomputable def areg_call_reserve_p1 (C : Cal) (K : SV → ER) (a0 : SV) (x1 : SV) : ER :=
  eNilCk a0 fun x2 => eFieldAddr Tryz.prog 188 x2 5 fun x3 => eLoad Tryz.prog 3 x3 fun x4 => eCallR Tryz.prog C 205 [a0, (.int .i64 6), x4] 64 fun x5 => eAlloc Tryz.prog 64 fun x6 => eStore Tryz.prog 64 x6 x5 <| eNilCk a0 fun x7 => eFieldAddr Tryz.prog 188 x7 0 fun x8 => eNilCk a0 fun x9 => eFieldAddr Tryz.prog 188 x9 0 fun x10 => eFieldAddr Tryz.prog 64 x6 6 fun x11 => eLoad Tryz.prog 160 x8 fun x12 => eLoad Tryz.prog 160 x10 fun x13 => eNilCk x13 fun x14 => areg_call_reserve_p0 K x1 x6 x8 x11 x12 x14
noncomputable def areg_call_reserve_e (C : Cal) (N : Nat) (a0 : SV) (K : SV → ER) : ER :=
  eAlloc Tryz.prog 64 fun x1 => areg_call_reserve_p1 C K a0 x1
theorem areg_call_reserve_ee (C : Cal) (N : Nat) (a0 : SV) (K : SV → ER) : eBody Tryz.prog C N Tryz.f163 (Tryz.f163.body.getD .skip) areg_call_reserve_ea [a0] K = areg_call_reserve_e C N a0 K := by kernel_rfl
noncomputable def l163 : LeafT := fun C N args K => match args with
  | [a0] => areg_call_reserve_e C N a0 K
  | _ => eF
theorem lok163 : LeafOk Tryz.prog 163 l163 := .inl ⟨Tryz.f163, Tryz.f163.body.getD .skip, areg_call_reserve_ea, Tryz.func163, by kernel_rfl, Tryz.call163, fun C N args K H e => by
  unfold l163 at e
  split at e
  · rw [areg_call_reserve_ee]; exact e
  · exact eF_no e⟩

/- (*halberd/areg.call).end -/
def areg_call_end_ea : Ann := .two (.none) (.two (.ord [0, 1, 2, 4, 5, 6, 3, 7, 8]) (.two (.ord [0, 1, 2, 4, 5, 6, 3, 7, 8]) (.two (.none) (.none))))
noncomputable def areg_call_end_p0 (C : Cal) (K : SV → ER) (a0 : SV) (x1 : SV) (x3 : SV) (x5 : SV) : ER :=
  eLoad Tryz.prog 160 x3 fun x6 => eLoad Tryz.prog 3 x5 fun x7 => eCallR Tryz.prog C 167 [x6, x7, (.fn 206 [] [])] 0 fun x8 => eNilCk a0 fun x9 => eFieldAddr Tryz.prog 188 x9 0 fun x10 => eNilCk a0 fun x11 => eFieldAddr Tryz.prog 188 x11 7 fun x12 => eLoad Tryz.prog 160 x10 fun x13 => eLoad Tryz.prog 3 x12 fun x14 => eCallR Tryz.prog C 169 [x13, x14] 0 fun x15 => eCallR Tryz.prog C 109 [(.int .u64 0)] 62 fun x16 => eCallR Tryz.prog C 108 [x16] 64 fun x17 => eStore Tryz.prog 64 x1 x17 <| eLoad Tryz.prog 64 x1 fun x18 => K x18
noncomputable def areg_call_end_e (C : Cal) (N : Nat) (a0 : SV) (K : SV → ER) : ER :=
  eAlloc Tryz.prog 64 fun x1 => eNilCk a0 fun x2 => eFieldAddr Tryz.prog 188 x2 0 fun x3 => eNilCk a0 fun x4 => eFieldAddr Tryz.prog 188 x4 7 fun x5 => areg_call_end_p0 C K a0 x1 x3 x5
theorem areg_call_end_ee (C : Cal) (N : Nat) (a0 : SV) (K : SV → ER) : eBody Tryz.prog C N Tryz.f164 (Tryz.f164.body.getD .skip) areg_call_end_ea [a0] K = areg_call_end_e C N a0 K := by kernel_rfl
noncomputable def l164 : LeafT := fun C N args K => match args with
  | [a0] => areg_call_end_e C N a0 K
  | _ => eF
theorem lok164 : LeafOk Tryz.prog 164 l164 := .inl ⟨Tryz.f164, Tryz.f164.body.getD .skip, areg_call_end_ea, Tryz.func164, by kernel_rfl, Tryz.call164, fun C N args K H e => by
  unfold l164 at e
  split at e
  · rw [areg_call_end_ee]; exact e
  · exact eF_no e⟩

/- (*halberd/areg.call).path -/
def areg_call_path_ea : Ann := .two (.none) (.two (.ord [0, 1, 2, 4, 5, 6, 8, 9, 10, 3, 7, 11, 12]) (.two (.none) (.none)))
noncomputable def areg_call_path_p0 (C : Cal) (K : SV → ER) (a0 : SV) (x1 : SV) (x3 : SV) : ER :=
  eNilCk a0 fun x4 => eFieldAddr Tryz.prog 188 x4 6 fun x5 => eNilCk a0 fun x6 => eFieldAddr Tryz.prog 188 x6 5 fun x7 => eLoad Tryz.prog 160 x3 fun x8 => eLoad Tryz.prog 3 x5 fun x9 => eLoad Tryz.prog 3 x7 fun x10 => eCallR Tryz.prog C 150 [x8, x9, x10] 0 fun x11 => eNilCk a0 fun x12 => eFieldAddr Tryz.prog 188 x12 5 fun x13 => eLoad Tryz.prog 3 x13 fun x14 => eConvS Tryz.prog 3 23 x14 fun x15 => eCallR Tryz.prog C 145 [x15] 64 fun x16 => eStore Tryz.prog 64 x1 x16 <| eLoad Tryz.prog 64 x1 fun x17 => K x17
noncomputable def areg_call_path_e (C : Cal) (N : Nat) (a0 : SV) (K : SV → ER) : ER :=
  eAlloc Tryz.prog 64 fun x1 => eNilCk a0 fun x2 => eFieldAddr Tryz.prog 188 x2 0 fun x3 => areg_call_path_p0 C K a0 x1 x3
theorem areg_call_path_ee (C : Cal) (N : Nat) (a0 : SV) (K : SV → ER) : eBody Tryz.prog C N Tryz.f165 (Tryz.f165.body.getD .skip) areg_call_path_ea [a0] K = areg_call_path_e C N a0 K := by kernel_rfl
noncomputable def l165 : LeafT := fun C N args K => match args with
  | [a0] => areg_call_path_e C N a0 K
  | _ => eF
theorem lok165 : LeafOk Tryz.prog 165 l165 := .inl ⟨Tryz.f165, Tryz.f165.body.getD .skip, areg_call_path_ea, Tryz.func165, by kernel_rfl, Tryz.call165, fun C N args K H e => by
  unfold l165 at e
  split at e
  · rw [areg_call_path_ee]; exact e
  · exact eF_no e⟩

/- (*halberd/areg.call).inside -/
def areg_call_inside_ea : Ann := .two (.none) (.two (.none) (.none))
noncomputable def areg_call_inside_e (C : Cal) (N : Nat) (a0 : SV) (K : SV → ER) : ER :=
  eAlloc Tryz.prog 64 fun x1 => eCallR Tryz.prog C 145 [(.int .u64 1)] 64 fun x2 => eStore Tryz.prog 64 x1 x2 <| eLoad Tryz.prog 64 x1 fun x3 => K x3
theorem areg_call_inside_ee (C : Cal) (N : Nat) (a0 : SV) (K : SV → ER) : eBody Tryz.prog C N Tryz.f166 (Tryz.f166.body.getD .skip) areg_call_inside_ea [a0] K = areg_call_inside_e C N a0 K := by kernel_rfl
noncomputable def l166 : LeafT := fun C N args K => match args with
  | [a0] => areg_call_inside_e C N a0 K
  | _ => eF
theorem lok166 : LeafOk Tryz.prog 166 l166 := .inl ⟨Tryz.f166, Tryz.f166.body.getD .skip, areg_call_inside_ea, Tryz.func166, by kernel_rfl, Tryz.call166, fun C N args K H e => by
  unfold l166 at e
  split at e
  · rw [areg_call_inside_ee]; exact e
  · exact eF_no e⟩

/- (*halberd/areg.work).each -/
def areg_work_each_ea : Ann := .two (.none) (.two (.none) (.two (.two (.none) (.sub (.loop [(10, .any)] (.two (.none) (.two (.two (.none) (.none)) (.join (.sub (.two (.none) (.two (.none) (.two (.none) (.none))))) (.none) [])))))) (.two (.none) (.sub (.loop [(31, .any)] (.two (.none) (.two (.two (.none) (.none)) (.join (.sub (.two (.none) (.two (.none) (.two (.ord [0, 1, 2, 3, 4, 5, 6, 7, 8, 9, 10, 11, 12, 13, 14]) (.none))))) (.none) []))))))))
noncomputable def areg_work_each_p0 (C : Cal) (a0 : SV) (a2 : SV) (k5 : Unit → ER) (s3 : SV × Unit) : ER :=
  eNilCk a0 fun x13 => eFieldAddr Tryz.prog 166 x13 0 fun x14 => eFieldAddr Tryz.prog 71 x14 0 fun x15 => eIndexAddrS Tryz.prog 65 x15 s3.1 fun x16 => eCallVR Tryz.prog C a2 [x16, (.ptr none)] 0 fun x17 => k5 (())
noncomputable def areg_work_each_p1 (C : Cal) (a0 : SV) (a2 : SV) (k5 : Unit → ER) (s3 : SV × Unit) (x1 : SV) : ER :=
  eNilCk a0 fun x7 => eFieldAddr Tryz.prog 166 x7 0 fun x8 => eFieldAddr Tryz.prog 71 x8 0 fun x9 => eIndexAddrS Tryz.prog 65 x9 s3.1 fun x10 => eLoad Tryz.prog 64 x10 fun x11 => eCallVR Tryz.prog C (.fn 207 [] [x1]) [x11] 4 fun x12 => eIfV x12
  (areg_work_each_p0 C a0 a2 k5 s3)
  (k5 (()))
noncomputable def areg_work_each_p2 (C : Cal) (a0 : SV) (a2 : SV) (k22 : Unit → ER) (s20 : SV × Unit) : ER :=
  eNilCk a0 fun x31 => eFieldAddr Tryz.prog 166 x31 0 fun x32 => eFieldAddr Tryz.prog 71 x32 1 fun x33 => eIndexAddrS Tryz.prog 69 x33 s20.1 fun x34 => eFieldAddr Tryz.prog 68 x34 0 fun x35 => eNilCk a0 fun x36 => eFieldAddr Tryz.prog 166 x36 0 fun x37 => eFieldAddr Tryz.prog 71 x37 1 fun x38 => eIndexAddrS Tryz.prog 69 x38 s20.1 fun x39 => eCallVR Tryz.prog C a2 [x35, x39] 0 fun x40 => k22 (())
noncomputable def areg_work_each_p3 (C : Cal) (a0 : SV) (a2 : SV) (x1 : SV) (k22 : Unit → ER) (s20 : SV × Unit) : ER :=
  eNilCk a0 fun x24 => eFieldAddr Tryz.prog 166 x24 0 fun x25 => eFieldAddr Tryz.prog 71 x25 1 fun x26 => eIndexAddrS Tryz.prog 69 x26 s20.1 fun x27 => eFieldAddr Tryz.prog 68 x27 0 fun x28 => eLoad Tryz.prog 64 x28 fun x29 => eCallVR Tryz.prog C (.fn 207 [] [x1]) [x29] 4 fun x30 => eIfV x30
  (areg_work_each_p2 C a0 a2 k22 s20)
  (k22 (()))
noncomputable def areg_work_each_p4 (C : Cal) (K : SV → ER) (a0 : SV) (a2 : SV) (x1 : SV) (k19 : SV × Unit → ER) (s20 : SV × Unit) : ER :=
  eBin Tryz.prog .lss 3 false s20.1 (.int .i64 8) fun x21 => eIfV x21
  (eJoinC (σ := Unit) (fun (k22 : Unit → ER) =>
  areg_work_each_p3 C a0 a2 x1 k22 s20) fun (s23 : Unit) =>
  eBin Tryz.prog .add 3 false s20.1 (.int .i64 1) fun x41 => eHas .any x41 (k19 (x41, ())))
  (K (.tup []))
noncomputable def areg_work_each_p5 (C : Cal) (K : SV → ER) (N : Nat) (a0 : SV) (a2 : SV) (k2 : SV × Unit → ER) (s3 : SV × Unit) (x1 : SV) : ER :=
  eBin Tryz.prog .lss 3 false s3.1 (.int .i64 11) fun x4 => eIfV x4
  (eJoinC (σ := Unit) (fun (k5 : Unit → ER) =>
  areg_work_each_p1 C a0 a2 k5 s3 x1) fun (s6 : Unit) =>
  eBin Tryz.prog .add 3 false s3.1 (.int .i64 1) fun x18 => eHas .any x18 (k2 (x18, ())))
  (eHas .any (.int .i64 0) (eIter (σ := SV × Unit) (fun (s20 : SV × Unit) (k19 : SV × Unit → ER) =>
  areg_work_each_p4 C K a0 a2 x1 k19 s20) N ((.int .i64 0), ())))
noncomputable def areg_work_each_e (C : Cal) (N : Nat) (a0 a1 a2 : SV) (K : SV → ER) : ER :=
  eBox Tryz.prog 3 a1 fun x1 => eHas .any (.int .i64 0) (eIter (σ := SV × Unit) (fun (s3 : SV × Unit) (k2 : SV × Unit → ER) =>
  areg_work_each_p5 C K N a0 a2 k2 s3 x1) N ((.int .i64 0), ()))
theorem areg_work_each_ee (C : Cal) (N : Nat) (a0 a1 a2 : SV) (K : SV → ER) : eBody Tryz.prog C N Tryz.f167 (Tryz.f167.body.getD .skip) areg_work_each_ea [a0, a1, a2] K = areg_work_each_e C N a0 a1 a2 K := by kernel_rfl
noncomputable def l167 : LeafT := fun C N args K => match args with
  | [a0, a1, a2] => areg_work_each_e C N a0 a1 a2 K
  | _ => eF
theorem lok167 : LeafOk Tryz.prog 167 l167 := .inl ⟨Tryz.f167, Tryz.f167.body.getD .skip, areg_work_each_ea, Tryz.func167, by kernel_rfl, Tryz.call167, fun C N args K H e => by
  unfold l167 at e
  split at e
  · rw [areg_work_each_ee]; exact e
  · exact eF_no e⟩

/- (*halberd/areg.work).same$1 -/
def areg_work_same_1_ea : Ann := .two (.two (.none) (.two (.two (.none) (.none)) (.none))) (.two (.none) (.two (.none) (.two (.none) (.none))))
noncomputable def areg_work_same_1_p0 (K : SV → ER) (a1 : SV) : ER :=
  eBuild Tryz.prog 66 [(0, (.bool true)), (1, (.bool true)), (2, (.bool true)), (3, (.bool true)), (4, (.bool true)), (5, (.bool true)), (6, (.bool true)), (7, (.bool true))] fun x9 => eNilCk a1 fun x10 => eFieldAddr Tryz.prog 68 x10 1 fun x11 => eStore Tryz.prog 66 x11 x9 <| K (.tup [])
noncomputable def areg_work_same_1_p1 (C : Cal) (K : SV → ER) (a0 : SV) (a1 : SV) : ER :=
  eCallR Tryz.prog C 109 [(.int .u64 0)] 62 fun x5 => eCallR Tryz.prog C 108 [x5] 64 fun x6 => eNilCk a0 fun x7 => eStore Tryz.prog 64 x7 x6 <| eBin Tryz.prog .neq 224 true a1 (.ptr none) fun x8 => eIfV x8
  (areg_work_same_1_p0 K a1)
  (K (.tup []))
noncomputable def areg_work_same_1_e (C : Cal) (N : Nat) (a0 a1 a2 : SV) (K : SV → ER) : ER :=
  eLoad Tryz.prog 4 a2 fun x1 => eUnS .not x1 fun x2 => eIfV x2
  (eNilCk a0 fun x3 => eFieldAddr Tryz.prog 64 x3 5 fun x4 => eStore Tryz.prog 4 x4 (.bool false) <| K (.tup []))
  (areg_work_same_1_p1 C K a0 a1)
theorem areg_work_same_1_ee (C : Cal) (N : Nat) (a0 a1 a2 : SV) (K : SV → ER) : eBody Tryz.prog C N Tryz.f168 (Tryz.f168.body.getD .skip) areg_work_same_1_ea [a0, a1, a2] K = areg_work_same_1_e C N a0 a1 a2 K := by kernel_rfl
noncomputable def l168 : LeafT := fun C N args K => match args with
  | [a0, a1, a2] => areg_work_same_1_e C N a0 a1 a2 K
  | _ => eF
theorem lok168 : LeafOk Tryz.prog 168 l168 := .inl ⟨Tryz.f168, Tryz.f168.body.getD .skip, areg_work_same_1_ea, Tryz.func168, by kernel_rfl, Tryz.call168, fun C N args K H e => by
  unfold l168 at e
  split at e
  · rw [areg_work_same_1_ee]; exact e
  · exact eF_no e⟩

/- (*halberd/areg.work).drop -/
def areg_work_drop_ea : Ann := .two (.none) (.none)
noncomputable def areg_work_drop_e (C : Cal) (N : Nat) (a0 a1 : SV) (K : SV → ER) : ER :=
  eBox Tryz.prog 3 a1 fun x1 => eNilCk a0 fun x2 => eFieldAddr Tryz.prog 166 x2 0 fun x3 => eFieldAddr Tryz.prog 71 x3 2 fun x4 => eLoad Tryz.prog 36 x4 fun x5 => eCallR Tryz.prog C 208 [x5, (.fn 209 [] [x1])] 36 fun x6 => eNilCk a0 fun x7 => eFieldAddr Tryz.prog 166 x7 0 fun x8 => eFieldAddr Tryz.prog 71 x8 2 fun x9 => eStore Tryz.prog 36 x9 x6 <| K (.tup [])
theorem areg_work_drop_ee (C : Cal) (N : Nat) (a0 a1 : SV) (K : SV → ER) : eBody Tryz.prog C N Tryz.f169 (Tryz.f169.body.getD .skip) areg_work_drop_ea [a0, a1] K = areg_work_drop_e C N a0 a1 K := by kernel_rfl
noncomputable def l169 : LeafT := fun C N args K => match args with
  | [a0, a1] => areg_work_drop_e C N a0 a1 K
  | _ => eF
theorem lok169 : LeafOk Tryz.prog 169 l169 := .inl ⟨Tryz.f169, Tryz.f169.body.getD .skip, areg_work_drop_ea, Tryz.func169, by kernel_rfl, Tryz.call169, fun C N args K H e => by
  unfold l169 at e
  split at e
  · rw [areg_work_drop_ee]; exact e
  · exact eF_no e⟩

end Go.Proofs.YtjafpcagfgklgaaGreatDoor
