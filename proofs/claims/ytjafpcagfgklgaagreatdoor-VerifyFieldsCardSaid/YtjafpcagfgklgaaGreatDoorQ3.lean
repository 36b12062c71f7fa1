/- The evaluator's texts of this seat's functions. Written by a program of this session. -/
import Derived.Test.YtjafpcagfgklgaaGreatDoorV
import Derived.Test.YtjafpcagfgklgaaGreatDoorE2
set_option linter.unusedVariables false
set_option maxRecDepth 100000
namespace Go.Proofs.YtjafpcagfgklgaaGreatDoor
open Go.Hl
/- slices.IndexFunc[[]int,int] -/
def slices_IndexFunc_int_int_ea : Ann := .two (.none) (.two (.two (.none) (.sub (.loop [(8, .any)] (.two (.none) (.two (.two (.none) (.none)) (.two (.sub (.two (.none) (.two (.none) (.two (.two (.none) (.none)) (.none))))) (.none))))))) (.two (.none) (.none)))
noncomputable def slices_IndexFunc_int_int_p0 (C : Cal) (K : SV → ER) (a0 : SV) (a1 : SV) (k2 : SV × Unit → ER) (s3 : SV × Unit) : ER :=
  eIndexAddrS Tryz.prog 36 a0 s3.1 fun x5 => eLoad Tryz.prog 3 x5 fun x6 => eCallVR Tryz.prog C a1 [x6] 4 fun x7 => eIfV x7
  (K s3.1)
  (eBin Tryz.prog .add 3 false s3.1 (.int .i64 1) fun x8 => eHas .any x8 (k2 (x8, ())))
noncomputable def slices_IndexFunc_int_int_e (C : Cal) (N : Nat) (a0 a1 : SV) (K : SV → ER) : ER :=
  eLenS Tryz.prog [36] [a0] fun x1 => eHas .any (.int .i64 0) (eIter (σ := SV × Unit) (fun (s3 : SV × Unit) (k2 : SV × Unit → ER) =>
  eBin Tryz.prog .lss 3 false s3.1 x1 fun x4 => eIfV x4
  (slices_IndexFunc_int_int_p0 C K a0 a1 k2 s3)
  (K (.int .i64 (-1)))) N ((.int .i64 0), ()))
theorem slices_IndexFunc_int_int_ee (C : Cal) (N : Nat) (a0 a1 : SV) (K : SV → ER) : eBody Tryz.prog C N Tryz.f249 (Tryz.f249.body.getD .skip) slices_IndexFunc_int_int_ea [a0, a1] K = slices_IndexFunc_int_int_e C N a0 a1 K := by kernel_rfl
noncomputable def l249 : LeafT := fun C N args K => match args with
  | [a0, a1] => slices_IndexFunc_int_int_e C N a0 a1 K
  | _ => eF
theorem lok249 : LeafOk Tryz.prog 249 l249 := .inl ⟨Tryz.f249, Tryz.f249.body.getD .skip, slices_IndexFunc_int_int_ea, Tryz.func249, by kernel_rfl, Tryz.call249, fun C N args K H e => by
  unfold l249 at e
  split at e
  · rw [slices_IndexFunc_int_int_ee]; exact e
  · exact eF_no e⟩

/- halberd/num.Meet -/
def num_Meet_ea : Ann := .two (.none) (.two (.none) (.two (.none) (.two (.none) (.two (.none) (.two (.two (.none) (.two (.two (.none) (.none)) (.none))) (.two (.none) (.two (.none) (.none))))))))
noncomputable def num_Meet_p0 (C : Cal) (K : SV → ER) (x3 : SV) (x6 : SV) (x24 : SV) : ER :=
  eLoad Tryz.prog 60 x24 fun x28 => eNilCk x6 fun x29 => eFieldAddr Tryz.prog 278 x29 0 fun x30 => eFieldAddr Tryz.prog 62 x30 0 fun x31 => eStore Tryz.prog 60 x31 x28 <| eNilCk x6 fun x32 => eFieldAddr Tryz.prog 278 x32 0 fun x33 => eLoad Tryz.prog 62 x33 fun x34 => eCallR Tryz.prog C 155 [x34] 180 fun x35 => eExtract x35 0 fun x36 => eExtract x35 1 fun x37 => eStore Tryz.prog 62 x3 x36 <| eLoad Tryz.prog 62 x3 fun x38 => K (.tup [x38, x37])
noncomputable def num_Meet_p1 (C : Cal) (K : SV → ER) (x1 : SV) (x2 : SV) (x3 : SV) (x6 : SV) : ER :=
  eFieldAddr Tryz.prog 62 x1 0 fun x17 => eLoad Tryz.prog 60 x17 fun x18 => eFieldAddr Tryz.prog 62 x2 0 fun x19 => eLoad Tryz.prog 60 x19 fun x20 => eCallR Tryz.prog C 247 [x18, x20] 290 fun x21 => eExtract x21 0 fun x22 => eExtract x21 1 fun x23 => eAlloc Tryz.prog 60 fun x24 => eStore Tryz.prog 60 x24 x22 <| eUnS .not x23 fun x25 => eIfV x25
  (eCallR Tryz.prog C 144 [] 62 fun x26 => eStore Tryz.prog 62 x3 x26 <| eLoad Tryz.prog 62 x3 fun x27 => K (.tup [x27, (.bool false)]))
  (num_Meet_p0 C K x3 x6 x24)
noncomputable def num_Meet_p2 (C : Cal) (K : SV → ER) (x1 : SV) (x2 : SV) (x3 : SV) : ER :=
  eLoad Tryz.prog 62 x1 fun x4 => eBuild Tryz.prog 278 [(0, x4)] fun x5 => eBox Tryz.prog 278 x5 fun x6 => eFieldAddr Tryz.prog 62 x2 1 fun x7 => eLoad Tryz.prog 23 x7 fun x8 => eFieldAddr Tryz.prog 62 x2 2 fun x9 => eLoad Tryz.prog 23 x9 fun x10 => eCallR Tryz.prog C 245 [x6, x8, x10] 0 fun x11 => eFieldAddr Tryz.prog 62 x2 3 fun x12 => eLoad Tryz.prog 2 x12 fun x13 => eFieldAddr Tryz.prog 62 x2 4 fun x14 => eLoad Tryz.prog 2 x14 fun x15 => eCallR Tryz.prog C 246 [x6, x13, x15] 0 fun x16 => num_Meet_p1 C K x1 x2 x3 x6
noncomputable def num_Meet_e (C : Cal) (N : Nat) (a0 a1 : SV) (K : SV → ER) : ER :=
  eBox Tryz.prog 62 a0 fun x1 => eBox Tryz.prog 62 a1 fun x2 => eAlloc Tryz.prog 62 fun x3 => num_Meet_p2 C K x1 x2 x3
theorem num_Meet_ee (C : Cal) (N : Nat) (a0 a1 : SV) (K : SV → ER) : eBody Tryz.prog C N Tryz.f250 (Tryz.f250.body.getD .skip) num_Meet_ea [a0, a1] K = num_Meet_e C N a0 a1 K := by kernel_rfl
noncomputable def l250 : LeafT := fun C N args K => match args with
  | [a0, a1] => num_Meet_e C N a0 a1 K
  | _ => eF
theorem lok250 : LeafOk Tryz.prog 250 l250 := .inl ⟨Tryz.f250, Tryz.f250.body.getD .skip, num_Meet_ea, Tryz.func250, by kernel_rfl, Tryz.call250, fun C N args K H e => by
  unfold l250 at e
  split at e
  · rw [num_Meet_ee]; exact e
  · exact eF_no e⟩

/- halberd/narrow.without -/
def narrow_without_ea : Ann := .two (.none) (.two (.none) (.two (.join (.none) (.two (.two (.none) (.none)) (.none)) [(19, .any)]) (.two (.none) (.join (.join (.none) (.two (.none) (.none)) [(29, .any)]) (.join (.join (.none) (.two (.none) (.none)) [(41, .any)]) (.join (.join (.none) (.two (.none) (.none)) [(53, .any)]) (.join (.join (.none) (.two (.none) (.none)) [(65, .any)]) (.two (.none) (.none)) []) []) []) []))))
noncomputable def narrow_without_p0 (k16 : Unit → ER) (x15 : SV) : ER :=
  eFieldAddr Tryz.prog 62 x15 1 fun x24 => eLoad Tryz.prog 23 x24 fun x25 => eBin Tryz.prog .add 23 false x25 (.int .u64 1) fun x26 => eFieldAddr Tryz.prog 62 x15 1 fun x27 => eStore Tryz.prog 23 x27 x26 <| k16 (())
noncomputable def narrow_without_p1 (a1 : SV) (x1 : SV) (k18 : SV × Unit → ER) : ER :=
  eFieldAddr Tryz.prog 62 x1 1 fun x20 => eLoad Tryz.prog 23 x20 fun x21 => eBin Tryz.prog .eql 23 false x21 a1 fun x22 => eIfV x22
  (eBin Tryz.prog .lss 23 false a1 (.int .u64 18446744073709551615) fun x23 => eHas .any x23 (k18 (x23, ())))
  (eHas .any (.bool false) (k18 ((.bool false), ())))
noncomputable def narrow_without_p2 (k28 : Unit → ER) (x15 : SV) : ER :=
  eFieldAddr Tryz.prog 62 x15 2 fun x36 => eLoad Tryz.prog 23 x36 fun x37 => eBin Tryz.prog .sub 23 false x37 (.int .u64 1) fun x38 => eFieldAddr Tryz.prog 62 x15 2 fun x39 => eStore Tryz.prog 23 x39 x38 <| k28 (())
noncomputable def narrow_without_p3 (a1 : SV) (x1 : SV) (k30 : SV × Unit → ER) : ER :=
  eFieldAddr Tryz.prog 62 x1 2 fun x32 => eLoad Tryz.prog 23 x32 fun x33 => eBin Tryz.prog .eql 23 false x33 a1 fun x34 => eIfV x34
  (eBin Tryz.prog .gtr 23 false a1 (.int .u64 0) fun x35 => eHas .any x35 (k30 (x35, ())))
  (eHas .any (.bool false) (k30 ((.bool false), ())))
noncomputable def narrow_without_p4 (k40 : Unit → ER) (x15 : SV) : ER :=
  eFieldAddr Tryz.prog 62 x15 3 fun x48 => eLoad Tryz.prog 2 x48 fun x49 => eBin Tryz.prog .add 2 false x49 (.int .i64 1) fun x50 => eFieldAddr Tryz.prog 62 x15 3 fun x51 => eStore Tryz.prog 2 x51 x50 <| k40 (())
noncomputable def narrow_without_p5 (x1 : SV) (x3 : SV) (k42 : SV × Unit → ER) : ER :=
  eFieldAddr Tryz.prog 62 x1 3 fun x44 => eLoad Tryz.prog 2 x44 fun x45 => eBin Tryz.prog .eql 2 false x45 x3 fun x46 => eIfV x46
  (eBin Tryz.prog .lss 2 false x3 (.int .i64 9223372036854775807) fun x47 => eHas .any x47 (k42 (x47, ())))
  (eHas .any (.bool false) (k42 ((.bool false), ())))
noncomputable def narrow_without_p6 (k52 : Unit → ER) (x15 : SV) : ER :=
  eFieldAddr Tryz.prog 62 x15 4 fun x60 => eLoad Tryz.prog 2 x60 fun x61 => eBin Tryz.prog .sub 2 false x61 (.int .i64 1) fun x62 => eFieldAddr Tryz.prog 62 x15 4 fun x63 => eStore Tryz.prog 2 x63 x62 <| k52 (())
noncomputable def narrow_without_p7 (x1 : SV) (x3 : SV) (k54 : SV × Unit → ER) : ER :=
  eFieldAddr Tryz.prog 62 x1 4 fun x56 => eLoad Tryz.prog 2 x56 fun x57 => eBin Tryz.prog .eql 2 false x57 x3 fun x58 => eIfV x58
  (eBin Tryz.prog .gtr 2 false x3 (.int .i64 (-9223372036854775808)) fun x59 => eHas .any x59 (k54 (x59, ())))
  (eHas .any (.bool false) (k54 ((.bool false), ())))
noncomputable def narrow_without_p8 (K : SV → ER) (x1 : SV) (x2 : SV) (x3 : SV) (x15 : SV) : ER :=
  eJoinC (σ := Unit) (fun (k52 : Unit → ER) =>
  eJoinC (σ := SV × Unit) (fun (k54 : SV × Unit → ER) =>
  narrow_without_p7 x1 x3 k54) fun (s55 : SV × Unit) =>
  eIfV s55.1
  (narrow_without_p6 k52 x15)
  (k52 (()))) fun (s53 : Unit) =>
  eLoad Tryz.prog 62 x15 fun x64 => eStore Tryz.prog 62 x2 x64 <| eLoad Tryz.prog 62 x2 fun x65 => K (.tup [x65, (.bool true)])
noncomputable def narrow_without_p9 (K : SV → ER) (x1 : SV) (x2 : SV) (x3 : SV) (x15 : SV) : ER :=
  eJoinC (σ := Unit) (fun (k40 : Unit → ER) =>
  eJoinC (σ := SV × Unit) (fun (k42 : SV × Unit → ER) =>
  narrow_without_p5 x1 x3 k42) fun (s43 : SV × Unit) =>
  eIfV s43.1
  (narrow_without_p4 k40 x15)
  (k40 (()))) fun (s41 : Unit) =>
  narrow_without_p8 K x1 x2 x3 x15
noncomputable def narrow_without_p10 (K : SV → ER) (a1 : SV) (x1 : SV) (x2 : SV) (x3 : SV) (x15 : SV) : ER :=
  eJoinC (σ := Unit) (fun (k28 : Unit → ER) =>
  eJoinC (σ := SV × Unit) (fun (k30 : SV × Unit → ER) =>
  narrow_without_p3 a1 x1 k30) fun (s31 : SV × Unit) =>
  eIfV s31.1
  (narrow_without_p2 k28 x15)
  (k28 (()))) fun (s29 : Unit) =>
  narrow_without_p9 K x1 x2 x3 x15
noncomputable def narrow_without_p11 (K : SV → ER) (a1 : SV) (x1 : SV) (x2 : SV) (x3 : SV) : ER :=
  eLoad Tryz.prog 62 x1 fun x14 => eAlloc Tryz.prog 62 fun x15 => eStore Tryz.prog 62 x15 x14 <| eJoinC (σ := Unit) (fun (k16 : Unit → ER) =>
  eJoinC (σ := SV × Unit) (fun (k18 : SV × Unit → ER) =>
  narrow_without_p1 a1 x1 k18) fun (s19 : SV × Unit) =>
  eIfV s19.1
  (narrow_without_p0 k16 x15)
  (k16 (()))) fun (s17 : Unit) =>
  narrow_without_p10 K a1 x1 x2 x3 x15
noncomputable def narrow_without_p12 (a1 : SV) (k4 : SV × Unit → ER) (x1 : SV) : ER :=
  eFieldAddr Tryz.prog 62 x1 1 fun x6 => eLoad Tryz.prog 23 x6 fun x7 => eBin Tryz.prog .eql 23 false x7 a1 fun x8 => eIfV x8
  (eFieldAddr Tryz.prog 62 x1 2 fun x9 => eLoad Tryz.prog 23 x9 fun x10 => eBin Tryz.prog .eql 23 false x10 a1 fun x11 => eHas .any x11 (k4 (x11, ())))
  (eHas .any (.bool false) (k4 ((.bool false), ())))
noncomputable def narrow_without_e (C : Cal) (N : Nat) (a0 a1 : SV) (K : SV → ER) : ER :=
  eBox Tryz.prog 62 a0 fun x1 => eAlloc Tryz.prog 62 fun x2 => eConvS Tryz.prog 23 2 a1 fun x3 => eJoinC (σ := SV × Unit) (fun (k4 : SV × Unit → ER) =>
  narrow_without_p12 a1 k4 x1) fun (s5 : SV × Unit) =>
  eIfV s5.1
  (eLoad Tryz.prog 62 x1 fun x12 => eStore Tryz.prog 62 x2 x12 <| eLoad Tryz.prog 62 x2 fun x13 => K (.tup [x13, (.bool false)]))
  (narrow_without_p11 K a1 x1 x2 x3)
theorem narrow_without_ee (C : Cal) (N : Nat) (a0 a1 : SV) (K : SV → ER) : eBody Tryz.prog C N Tryz.f251 (Tryz.f251.body.getD .skip) narrow_without_ea [a0, a1] K = narrow_without_e C N a0 a1 K := by kernel_rfl
noncomputable def l251 : LeafT := fun C N args K => match args with
  | [a0, a1] => narrow_without_e C N a0 a1 K
  | _ => eF
theorem lok251 : LeafOk Tryz.prog 251 l251 := .inl ⟨Tryz.f251, Tryz.f251.body.getD .skip, narrow_without_ea, Tryz.func251, by kernel_rfl, Tryz.call251, fun C N args K H e => by
  unfold l251 at e
  split at e
  · rw [narrow_without_ee]; exact e
  · exact eF_no e⟩

/- halberd/narrow.turned$1 -/
def narrow_turned_1_ea : Ann := .two (.ord [0, 1, 2, 3, 4, 6, 7, 8, 5, 9, 10, 11, 12, 13, 14, 15]) (.two (.none) (.ord [0, 1, 2, 3, 4, 6, 7, 8, 5, 9, 10, 11, 12, 13, 14, 15]))
noncomputable def narrow_turned_1_p0 (C : Cal) (K : SV → ER) (a0 : SV) (a1 : SV) (x6 : SV) (x9 : SV) : ER :=
  eFieldAddr Tryz.prog 255 x9 1 fun x10 => eStore Tryz.prog 62 x10 x6 <| eLoad Tryz.prog 247 a1 fun x11 => eCallVR Tryz.prog C x11 [a0] 0 fun x12 => eNilCk a0 fun x13 => eFieldAddr Tryz.prog 255 x13 1 fun x14 => eNilCk a0 fun x15 => eFieldAddr Tryz.prog 255 x15 0 fun x16 => eLoad Tryz.prog 62 x14 fun x17 => eLoad Tryz.prog 62 x16 fun x18 => eNilCk a0 fun x19 => eFieldAddr Tryz.prog 255 x19 0 fun x20 => eStore Tryz.prog 62 x20 x17 <| eNilCk a0 fun x21 => eFieldAddr Tryz.prog 255 x21 1 fun x22 => eStore Tryz.prog 62 x22 x18 <| K (.tup [])
noncomputable def narrow_turned_1_e (C : Cal) (N : Nat) (a0 a1 : SV) (K : SV → ER) : ER :=
  eNilCk a0 fun x1 => eFieldAddr Tryz.prog 255 x1 1 fun x2 => eNilCk a0 fun x3 => eFieldAddr Tryz.prog 255 x3 0 fun x4 => eLoad Tryz.prog 62 x2 fun x5 => eLoad Tryz.prog 62 x4 fun x6 => eNilCk a0 fun x7 => eFieldAddr Tryz.prog 255 x7 0 fun x8 => eStore Tryz.prog 62 x8 x5 <| eNilCk a0 fun x9 => narrow_turned_1_p0 C K a0 a1 x6 x9
theorem narrow_turned_1_ee (C : Cal) (N : Nat) (a0 a1 : SV) (K : SV → ER) : eBody Tryz.prog C N Tryz.f252 (Tryz.f252.body.getD .skip) narrow_turned_1_ea [a0, a1] K = narrow_turned_1_e C N a0 a1 K := by kernel_rfl
noncomputable def l252 : LeafT := fun C N args K => match args with
  | [a0, a1] => narrow_turned_1_e C N a0 a1 K
  | _ => eF
theorem lok252 : LeafOk Tryz.prog 252 l252 := .inl ⟨Tryz.f252, Tryz.f252.body.getD .skip, narrow_turned_1_ea, Tryz.func252, by kernel_rfl, Tryz.call252, fun C N args K H e => by
  unfold l252 at e
  split at e
  · rw [narrow_turned_1_ee]; exact e
  · exact eF_no e⟩

/- math/bits.OnesCount64 -/
def math_bits_OnesCount64_ea : Ann := .two (.none) (.two (.none) (.two (.none) (.two (.none) (.two (.none) (.two (.none) (.two (.none) (.two (.none) (.none))))))))
noncomputable def math_bits_OnesCount64_p0 (K : SV → ER) (x8 : SV) (x9 : SV) : ER :=
  eBin Tryz.prog .add 23 false x9 x8 fun x10 => eBin Tryz.prog .and 23 false x10 (.int .u64 1085102592571150095) fun x11 => eBin Tryz.prog .shr 23 false x11 (.int .u64 8) fun x12 => eBin Tryz.prog .add 23 false x11 x12 fun x13 => eBin Tryz.prog .shr 23 false x13 (.int .u64 16) fun x14 => eBin Tryz.prog .add 23 false x13 x14 fun x15 => eBin Tryz.prog .shr 23 false x15 (.int .u64 32) fun x16 => eBin Tryz.prog .add 23 false x15 x16 fun x17 => eConvS Tryz.prog 23 3 x17 fun x18 => eBin Tryz.prog .and 3 false x18 (.int .i64 127) fun x19 => K x19
noncomputable def math_bits_OnesCount64_p1 (K : SV → ER) (a0 : SV) (x1 : SV) : ER :=
  eBin Tryz.prog .and 23 false x1 (.int .u64 6148914691236517205) fun x2 => eBin Tryz.prog .and 23 false a0 (.int .u64 6148914691236517205) fun x3 => eBin Tryz.prog .add 23 false x2 x3 fun x4 => eBin Tryz.prog .shr 23 false x4 (.int .u64 2) fun x5 => eBin Tryz.prog .and 23 false x5 (.int .u64 3689348814741910323) fun x6 => eBin Tryz.prog .and 23 false x4 (.int .u64 3689348814741910323) fun x7 => eBin Tryz.prog .add 23 false x6 x7 fun x8 => eBin Tryz.prog .shr 23 false x8 (.int .u64 4) fun x9 => math_bits_OnesCount64_p0 K x8 x9
noncomputable def math_bits_OnesCount64_e (C : Cal) (N : Nat) (a0 : SV) (K : SV → ER) : ER :=
  eBin Tryz.prog .shr 23 false a0 (.int .u64 1) fun x1 => math_bits_OnesCount64_p1 K a0 x1
theorem math_bits_OnesCount64_ee (C : Cal) (N : Nat) (a0 : SV) (K : SV → ER) : eBody Tryz.prog C N Tryz.f253 (Tryz.f253.body.getD .skip) math_bits_OnesCount64_ea [a0] K = math_bits_OnesCount64_e C N a0 K := by kernel_rfl
noncomputable def l253 : LeafT := fun C N args K => match args with
  | [a0] => math_bits_OnesCount64_e C N a0 K
  | _ => eF
theorem lok253 : LeafOk Tryz.prog 253 l253 := .inl ⟨Tryz.f253, Tryz.f253.body.getD .skip, math_bits_OnesCount64_ea, Tryz.func253, by kernel_rfl, Tryz.call253, fun C N args K H e => by
  unfold l253 at e
  split at e
  · rw [math_bits_OnesCount64_ee]; exact e
  · exact eF_no e⟩

/- (*halberd/narrow.pair).meet -/
def narrow_pair_meet_ea : Ann := .two (.none) (.two (.ord [0, 1, 2, 3, 4, 5, 6, 7, 8, 9, 10, 11, 12]) (.none))
noncomputable def narrow_pair_meet_p0 (C : Cal) (K : SV → ER) (a0 : SV) (x1 : SV) (x4 : SV) : ER :=
  eLoad Tryz.prog 60 x4 fun x5 => eLoad Tryz.prog 60 x1 fun x6 => eCallR Tryz.prog C 247 [x5, x6] 290 fun x7 => eExtract x7 0 fun x8 => eExtract x7 1 fun x9 => eAlloc Tryz.prog 60 fun x10 => eStore Tryz.prog 60 x10 x8 <| eLoad Tryz.prog 60 x10 fun x11 => eUnS .not x9 fun x12 => eNilCk a0 fun x13 => eFieldAddr Tryz.prog 255 x13 0 fun x14 => eFieldAddr Tryz.prog 62 x14 0 fun x15 => eStore Tryz.prog 60 x15 x11 <| eNilCk a0 fun x16 => eFieldAddr Tryz.prog 255 x16 2 fun x17 => eStore Tryz.prog 4 x17 x12 <| K (.tup [])
noncomputable def narrow_pair_meet_e (C : Cal) (N : Nat) (a0 a1 : SV) (K : SV → ER) : ER :=
  eBox Tryz.prog 60 a1 fun x1 => eNilCk a0 fun x2 => eFieldAddr Tryz.prog 255 x2 0 fun x3 => eFieldAddr Tryz.prog 62 x3 0 fun x4 => narrow_pair_meet_p0 C K a0 x1 x4
theorem narrow_pair_meet_ee (C : Cal) (N : Nat) (a0 a1 : SV) (K : SV → ER) : eBody Tryz.prog C N Tryz.f254 (Tryz.f254.body.getD .skip) narrow_pair_meet_ea [a0, a1] K = narrow_pair_meet_e C N a0 a1 K := by kernel_rfl
noncomputable def l254 : LeafT := fun C N args K => match args with
  | [a0, a1] => narrow_pair_meet_e C N a0 a1 K
  | _ => eF
theorem lok254 : LeafOk Tryz.prog 254 l254 := .inl ⟨Tryz.f254, Tryz.f254.body.getD .skip, narrow_pair_meet_ea, Tryz.func254, by kernel_rfl, Tryz.call254, fun C N args K H e => by
  unfold l254 at e
  split at e
  · rw [narrow_pair_meet_ee]; exact e
  · exact eF_no e⟩

end Go.Proofs.YtjafpcagfgklgaaGreatDoor
