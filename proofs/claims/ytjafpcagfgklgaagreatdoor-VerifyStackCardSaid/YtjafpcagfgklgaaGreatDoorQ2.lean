/- The evaluator's texts of this seat's functions. Written by a program of this session. -/
import Derived.Test.YtjafpcagfgklgaaGreatDoorV
import Derived.Test.YtjafpcagfgklgaaGreatDoorE2
set_option linter.unusedVariables false
set_option maxRecDepth 100000
namespace Go.Proofs.YtjafpcagfgklgaaGreatDoor
open Go.Hl
/- halberd/narrow.ways -/
def narrow_ways_ea : Ann := .two (.none) (.two (.none) (.two (.none) (.two (.none) (.none))))
noncomputable def narrow_ways_p0 (C : Cal) (K : SV → ER) (b1 : Nat) : ER :=
  eCallR Tryz.prog C 216 [(.fn 212 [] [])] 247 fun x24 => eBuild Tryz.prog 248 [(0, x24), (1, (.fn 213 [] []))] fun x25 => ePutS Tryz.prog 250 (.map (some b1)) (.int .u8 192) x25 fun x26 => eCallR Tryz.prog C 216 [(.fn 213 [] [])] 247 fun x27 => eBuild Tryz.prog 248 [(0, x27), (1, (.fn 212 [] []))] fun x28 => ePutS Tryz.prog 250 (.map (some b1)) (.int .u8 208) x28 fun x29 => eBuild Tryz.prog 248 [(0, (.fn 217 [] [])), (1, (.fn 218 [] []))] fun x30 => ePutS Tryz.prog 250 (.map (some b1)) (.int .u8 64) x30 fun x31 => K (.map (some b1))
noncomputable def narrow_ways_p1 (C : Cal) (K : SV → ER) (b1 : Nat) (x15 : SV) : ER :=
  eBuild Tryz.prog 248 [(0, x15), (1, (.fn 210 [] []))] fun x16 => ePutS Tryz.prog 250 (.map (some b1)) (.int .u8 176) x16 fun x17 => eCallR Tryz.prog C 216 [(.fn 213 [] [])] 247 fun x18 => eBuild Tryz.prog 248 [(0, (.fn 212 [] [])), (1, x18)] fun x19 => ePutS Tryz.prog 250 (.map (some b1)) (.int .u8 96) x19 fun x20 => eCallR Tryz.prog C 216 [(.fn 212 [] [])] 247 fun x21 => eBuild Tryz.prog 248 [(0, (.fn 213 [] [])), (1, x21)] fun x22 => ePutS Tryz.prog 250 (.map (some b1)) (.int .u8 112) x22 fun x23 => narrow_ways_p0 C K b1
noncomputable def narrow_ways_p2 (C : Cal) (K : SV → ER) (b1 : Nat) (x7 : SV) : ER :=
  ePutS Tryz.prog 250 (.map (some b1)) (.int .u8 32) x7 fun x8 => eCallR Tryz.prog C 216 [(.fn 210 [] [])] 247 fun x9 => eBuild Tryz.prog 248 [(0, (.fn 211 [] [])), (1, x9)] fun x10 => ePutS Tryz.prog 250 (.map (some b1)) (.int .u8 48) x10 fun x11 => eCallR Tryz.prog C 216 [(.fn 210 [] [])] 247 fun x12 => eBuild Tryz.prog 248 [(0, x12), (1, (.fn 211 [] []))] fun x13 => ePutS Tryz.prog 250 (.map (some b1)) (.int .u8 160) x13 fun x14 => eCallR Tryz.prog C 216 [(.fn 211 [] [])] 247 fun x15 => narrow_ways_p1 C K b1 x15
noncomputable def narrow_ways_e (C : Cal) (N : Nat) (K : SV → ER) : ER :=
  eNewB (.map []) fun b1 => eBuild Tryz.prog 248 [(0, (.fn 214 [] [])), (1, (.fn 215 [] []))] fun x2 => ePutS Tryz.prog 250 (.map (some b1)) (.int .u8 16) x2 fun x3 => eBuild Tryz.prog 248 [(0, (.fn 215 [] [])), (1, (.fn 214 [] []))] fun x4 => ePutS Tryz.prog 250 (.map (some b1)) (.int .u8 80) x4 fun x5 => eCallR Tryz.prog C 216 [(.fn 211 [] [])] 247 fun x6 => eBuild Tryz.prog 248 [(0, (.fn 210 [] [])), (1, x6)] fun x7 => narrow_ways_p2 C K b1 x7
theorem narrow_ways_ee (C : Cal) (N : Nat) (K : SV → ER) : eBody Tryz.prog C N Tryz.f170 (Tryz.f170.body.getD .skip) narrow_ways_ea [] K = narrow_ways_e C N  K := by kernel_rfl
noncomputable def l170 : LeafT := fun C N args K => match args with
  | [] => narrow_ways_e C N  K
  | _ => eF
theorem lok170 : LeafOk Tryz.prog 170 l170 := .inl ⟨Tryz.f170, Tryz.f170.body.getD .skip, narrow_ways_ea, Tryz.func170, by kernel_rfl, Tryz.call170, fun C N args K H e => by
  unfold l170 at e
  split at e
  · rw [narrow_ways_ee]; exact e
  · exact eF_no e⟩

/- halberd/narrow.hasSign -/
def narrow_hasSign_ea : Ann := .two (.none) (.join (.none) (.none) [(2, .any)])
noncomputable def narrow_hasSign_p0 (a0 : SV) (k1 : SV × Unit → ER) : ER :=
  eBin Tryz.prog .eql 5 false a0 (.int .u8 112) fun x4 => eIfV x4
  (eHas .any (.bool true) (k1 ((.bool true), ())))
  (eBin Tryz.prog .eql 5 false a0 (.int .u8 192) fun x5 => eIfV x5
  (eHas .any (.bool true) (k1 ((.bool true), ())))
  (eBin Tryz.prog .eql 5 false a0 (.int .u8 208) fun x6 => eHas .any x6 (k1 (x6, ()))))
noncomputable def narrow_hasSign_e (C : Cal) (N : Nat) (a0 : SV) (K : SV → ER) : ER :=
  eJoinC (σ := SV × Unit) (fun (k1 : SV × Unit → ER) =>
  eBin Tryz.prog .eql 5 false a0 (.int .u8 96) fun x3 => eIfV x3
  (eHas .any (.bool true) (k1 ((.bool true), ())))
  (narrow_hasSign_p0 a0 k1)) fun (s2 : SV × Unit) =>
  K s2.1
theorem narrow_hasSign_ee (C : Cal) (N : Nat) (a0 : SV) (K : SV → ER) : eBody Tryz.prog C N Tryz.f171 (Tryz.f171.body.getD .skip) narrow_hasSign_ea [a0] K = narrow_hasSign_e C N a0 K := by kernel_rfl
noncomputable def l171 : LeafT := fun C N args K => match args with
  | [a0] => narrow_hasSign_e C N a0 K
  | _ => eF
theorem lok171 : LeafOk Tryz.prog 171 l171 := .inl ⟨Tryz.f171, Tryz.f171.body.getD .skip, narrow_hasSign_ea, Tryz.func171, by kernel_rfl, Tryz.call171, fun C N args K H e => by
  unfold l171 at e
  split at e
  · rw [narrow_hasSign_ee]; exact e
  · exact eF_no e⟩

/- halberd/num.Low -/
def num_Low_ea : Ann := .two (.none) (.two (.ord [0, 2, 4, 1, 3, 5, 6, 7]) (.none))
noncomputable def num_Low_e (C : Cal) (N : Nat) (a0 a1 : SV) (K : SV → ER) : ER :=
  eBox Tryz.prog 62 a0 fun x1 => eFieldAddr Tryz.prog 62 x1 2 fun x2 => eFieldAddr Tryz.prog 62 x1 2 fun x3 => eLoad Tryz.prog 23 x2 fun x4 => eLoad Tryz.prog 23 x3 fun x5 => eCallR Tryz.prog C 195 [x5, a1] 23 fun x6 => fun H => eLoadF Tryz.prog 23 x2 x4 H && (eBin Tryz.prog .eql 23 false x4 x6 fun x7 => K x7) H
theorem num_Low_ee (C : Cal) (N : Nat) (a0 a1 : SV) (K : SV → ER) : eBody Tryz.prog C N Tryz.f172 (Tryz.f172.body.getD .skip) num_Low_ea [a0, a1] K = num_Low_e C N a0 a1 K := by kernel_rfl
noncomputable def l172 : LeafT := fun C N args K => match args with
  | [a0, a1] => num_Low_e C N a0 a1 K
  | _ => eF
theorem lok172 : LeafOk Tryz.prog 172 l172 := .inl ⟨Tryz.f172, Tryz.f172.body.getD .skip, num_Low_ea, Tryz.func172, by kernel_rfl, Tryz.call172, fun C N args K H e => by
  unfold l172 at e
  split at e
  · rw [num_Low_ee]; exact e
  · exact eF_no e⟩

/- math/bits.Len64 -/
def math_bits_Len64_ea : Ann := .two (.none) (.join (.two (.none) (.two (.two (.none) (.none)) (.none))) (.join (.two (.none) (.two (.two (.none) (.none)) (.none))) (.join (.two (.none) (.two (.two (.none) (.none)) (.none))) (.two (.none) (.none)) [(0, .any), (2, .any)]) [(0, .any), (2, .any)]) [(0, .any), (2, .any)])
noncomputable def math_bits_Len64_p0 (K : SV → ER) (s11 : SV × SV × Unit) (x15 : SV) : ER :=
  eIndexS Tryz.prog 9 (.str [0, 1, 2, 2, 3, 3, 3, 3, 4, 4, 4, 4, 4, 4, 4, 4, 5, 5, 5, 5, 5, 5, 5, 5, 5, 5, 5, 5, 5, 5, 5, 5, 6, 6, 6, 6, 6, 6, 6, 6, 6, 6, 6, 6, 6, 6, 6, 6, 6, 6, 6, 6, 6, 6, 6, 6, 6, 6, 6, 6, 6, 6, 6, 6, 7, 7, 7, 7, 7, 7, 7, 7, 7, 7, 7, 7, 7, 7, 7, 7, 7, 7, 7, 7, 7, 7, 7, 7, 7, 7, 7, 7, 7, 7, 7, 7, 7, 7, 7, 7, 7, 7, 7, 7, 7, 7, 7, 7, 7, 7, 7, 7, 7, 7, 7, 7, 7, 7, 7, 7, 7, 7, 7, 7, 7, 7, 7, 7, 8, 8, 8, 8, 8, 8, 8, 8, 8, 8, 8, 8, 8, 8, 8, 8, 8, 8, 8, 8, 8, 8, 8, 8, 8, 8, 8, 8, 8, 8, 8, 8, 8, 8, 8, 8, 8, 8, 8, 8, 8, 8, 8, 8, 8, 8, 8, 8, 8, 8, 8, 8, 8, 8, 8, 8, 8, 8, 8, 8, 8, 8, 8, 8, 8, 8, 8, 8, 8, 8, 8, 8, 8, 8, 8, 8, 8, 8, 8, 8, 8, 8, 8, 8, 8, 8, 8, 8, 8, 8, 8, 8, 8, 8, 8, 8, 8, 8, 8, 8, 8, 8, 8, 8, 8, 8, 8, 8, 8, 8, 8, 8, 8, 8, 8, 8, 8, 8, 8, 8, 8, 8, 8, 8, 8, 8, 8, 8]) x15 fun x16 => eConvS Tryz.prog 5 3 x16 fun x17 => eBin Tryz.prog .add 3 false s11.2.1 x17 fun x18 => K x18
noncomputable def math_bits_Len64_p1 (s6 : SV × SV × Unit) (k10 : SV × SV × Unit → ER) : ER :=
  eBin Tryz.prog .geq 23 false s6.1 (.int .u64 256) fun x12 => eIfV x12
  (eBin Tryz.prog .shr 23 false s6.1 (.int .u64 8) fun x13 => eBin Tryz.prog .add 3 false s6.2.1 (.int .i64 8) fun x14 => eHas .any x13 (eHas .any x14 (k10 (x13, x14, ()))))
  (eHas .any s6.1 (eHas .any s6.2.1 (k10 (s6.1, s6.2.1, ()))))
noncomputable def math_bits_Len64_p2 (k5 : SV × SV × Unit → ER) (s2 : SV × SV × Unit) : ER :=
  eBin Tryz.prog .geq 23 false s2.1 (.int .u64 65536) fun x7 => eIfV x7
  (eBin Tryz.prog .shr 23 false s2.1 (.int .u64 16) fun x8 => eBin Tryz.prog .add 3 false s2.2.1 (.int .i64 16) fun x9 => eHas .any x8 (eHas .any x9 (k5 (x8, x9, ()))))
  (eHas .any s2.1 (eHas .any s2.2.1 (k5 (s2.1, s2.2.1, ()))))
noncomputable def math_bits_Len64_p3 (a0 : SV) (k1 : SV × SV × Unit → ER) : ER :=
  eBin Tryz.prog .geq 23 false a0 (.int .u64 4294967296) fun x3 => eIfV x3
  (eBin Tryz.prog .shr 23 false a0 (.int .u64 32) fun x4 => eHas .any x4 (eHas .any (.int .i64 32) (k1 (x4, (.int .i64 32), ()))))
  (eHas .any a0 (eHas .any (.int .i64 0) (k1 (a0, (.int .i64 0), ()))))
noncomputable def math_bits_Len64_p4 (K : SV → ER) (s2 : SV × SV × Unit) : ER :=
  eJoinC (σ := SV × SV × Unit) (fun (k5 : SV × SV × Unit → ER) =>
  math_bits_Len64_p2 k5 s2) fun (s6 : SV × SV × Unit) =>
  eJoinC (σ := SV × SV × Unit) (fun (k10 : SV × SV × Unit → ER) =>
  math_bits_Len64_p1 s6 k10) fun (s11 : SV × SV × Unit) =>
  eConvS Tryz.prog 23 5 s11.1 fun x15 => math_bits_Len64_p0 K s11 x15
noncomputable def math_bits_Len64_e (C : Cal) (N : Nat) (a0 : SV) (K : SV → ER) : ER :=
  eJoinC (σ := SV × SV × Unit) (fun (k1 : SV × SV × Unit → ER) =>
  math_bits_Len64_p3 a0 k1) fun (s2 : SV × SV × Unit) =>
  math_bits_Len64_p4 K s2
theorem math_bits_Len64_ee (C : Cal) (N : Nat) (a0 : SV) (K : SV → ER) : eBody Tryz.prog C N Tryz.f175 (Tryz.f175.body.getD .skip) math_bits_Len64_ea [a0] K = math_bits_Len64_e C N a0 K := by kernel_rfl
noncomputable def l175 : LeafT := fun C N args K => match args with
  | [a0] => math_bits_Len64_e C N a0 K
  | _ => eF
theorem lok175 : LeafOk Tryz.prog 175 l175 := .inl ⟨Tryz.f175, Tryz.f175.body.getD .skip, math_bits_Len64_ea, Tryz.func175, by kernel_rfl, Tryz.call175, fun C N args K H e => by
  unfold l175 at e
  split at e
  · rw [math_bits_Len64_ee]; exact e
  · exact eF_no e⟩

/- halberd/tnum.All -/
def tnum_All_ea : Ann := .two (.none) (.two (.none) (.none))
noncomputable def tnum_All_e (C : Cal) (N : Nat) (K : SV → ER) : ER :=
  eAlloc Tryz.prog 60 fun x1 => eBuild Tryz.prog 60 [(1, (.int .u64 18446744073709551615))] fun x2 => eStore Tryz.prog 60 x1 x2 <| eLoad Tryz.prog 60 x1 fun x3 => K x3
theorem tnum_All_ee (C : Cal) (N : Nat) (K : SV → ER) : eBody Tryz.prog C N Tryz.f179 (Tryz.f179.body.getD .skip) tnum_All_ea [] K = tnum_All_e C N  K := by kernel_rfl
noncomputable def l179 : LeafT := fun C N args K => match args with
  | [] => tnum_All_e C N  K
  | _ => eF
theorem lok179 : LeafOk Tryz.prog 179 l179 := .inl ⟨Tryz.f179, Tryz.f179.body.getD .skip, tnum_All_ea, Tryz.func179, by kernel_rfl, Tryz.call179, fun C N args K H e => by
  unfold l179 at e
  split at e
  · rw [tnum_All_ee]; exact e
  · exact eF_no e⟩

/- halberd/num.Bounds -/
def num_Bounds_ea : Ann := .two (.none) (.two (.none) (.two (.none) (.two (.none) (.none))))
noncomputable def num_Bounds_e (C : Cal) (N : Nat) (a0 a1 : SV) (K : SV → ER) : ER :=
  eAlloc Tryz.prog 62 fun x1 => eCallR Tryz.prog C 144 [] 62 fun x2 => eAlloc Tryz.prog 62 fun x3 => eStore Tryz.prog 62 x3 x2 <| eFieldAddr Tryz.prog 62 x3 1 fun x4 => eStore Tryz.prog 23 x4 a0 <| eFieldAddr Tryz.prog 62 x3 2 fun x5 => eStore Tryz.prog 23 x5 a1 <| eLoad Tryz.prog 62 x3 fun x6 => eCallR Tryz.prog C 201 [x6] 62 fun x7 => eStore Tryz.prog 62 x1 x7 <| eLoad Tryz.prog 62 x1 fun x8 => K x8
theorem num_Bounds_ee (C : Cal) (N : Nat) (a0 a1 : SV) (K : SV → ER) : eBody Tryz.prog C N Tryz.f180 (Tryz.f180.body.getD .skip) num_Bounds_ea [a0, a1] K = num_Bounds_e C N a0 a1 K := by kernel_rfl
noncomputable def l180 : LeafT := fun C N args K => match args with
  | [a0, a1] => num_Bounds_e C N a0 a1 K
  | _ => eF
theorem lok180 : LeafOk Tryz.prog 180 l180 := .inl ⟨Tryz.f180, Tryz.f180.body.getD .skip, num_Bounds_ea, Tryz.func180, by kernel_rfl, Tryz.call180, fun C N args K H e => by
  unfold l180 at e
  split at e
  · rw [num_Bounds_ee]; exact e
  · exact eF_no e⟩

/- slices.Index[[]int,int] -/
def slices_Index_int_int_ea : Ann := .two (.none) (.two (.two (.none) (.sub (.loop [(8, .any)] (.two (.none) (.two (.two (.none) (.none)) (.two (.sub (.two (.none) (.two (.none) (.two (.two (.none) (.none)) (.none))))) (.none))))))) (.two (.none) (.none)))
noncomputable def slices_Index_int_int_p0 (K : SV → ER) (a0 : SV) (a1 : SV) (k2 : SV × Unit → ER) (s3 : SV × Unit) : ER :=
  eIndexAddrS Tryz.prog 36 a0 s3.1 fun x5 => eLoad Tryz.prog 3 x5 fun x6 => eBin Tryz.prog .eql 3 false a1 x6 fun x7 => eIfV x7
  (K s3.1)
  (eBin Tryz.prog .add 3 false s3.1 (.int .i64 1) fun x8 => eHas .any x8 (k2 (x8, ())))
noncomputable def slices_Index_int_int_e (C : Cal) (N : Nat) (a0 a1 : SV) (K : SV → ER) : ER :=
  eLenS Tryz.prog [36] [a0] fun x1 => eHas .any (.int .i64 0) (eIter (σ := SV × Unit) (fun (s3 : SV × Unit) (k2 : SV × Unit → ER) =>
  eBin Tryz.prog .lss 3 false s3.1 x1 fun x4 => eIfV x4
  (slices_Index_int_int_p0 K a0 a1 k2 s3)
  (K (.int .i64 (-1)))) N ((.int .i64 0), ()))
theorem slices_Index_int_int_ee (C : Cal) (N : Nat) (a0 a1 : SV) (K : SV → ER) : eBody Tryz.prog C N Tryz.f181 (Tryz.f181.body.getD .skip) slices_Index_int_int_ea [a0, a1] K = slices_Index_int_int_e C N a0 a1 K := by kernel_rfl
noncomputable def l181 : LeafT := fun C N args K => match args with
  | [a0, a1] => slices_Index_int_int_e C N a0 a1 K
  | _ => eF
theorem lok181 : LeafOk Tryz.prog 181 l181 := .inl ⟨Tryz.f181, Tryz.f181.body.getD .skip, slices_Index_int_int_ea, Tryz.func181, by kernel_rfl, Tryz.call181, fun C N args K H e => by
  unfold l181 at e
  split at e
  · rw [slices_Index_int_int_ee]; exact e
  · exact eF_no e⟩

/- (*halberd/xfer.row).add -/
def xfer_row_add_ea : Ann := .two (.ord [0, 1, 2, 3, 4, 6, 7, 8, 9, 5, 10, 11, 12, 13, 14, 15]) (.join (.two (.ord [0, 1, 2, 3, 5, 6, 7, 8, 4, 9, 10, 11]) (.two (.none) (.two (.ord [0, 1, 2, 3, 4, 6, 7, 8, 9, 12, 5, 10, 11, 13]) (.none)))) (.two (.ord [0, 1, 2, 3, 5, 6, 7, 8, 4, 9, 10, 11, 12, 13, 14, 15]) (.two (.ord [0, 1, 2, 3, 5, 6, 7, 8, 4, 9, 10, 11, 12, 13, 14, 15]) (.join (.none) (.two (.none) (.none)) [(85, .any)]))) [])
noncomputable def xfer_row_add_p0 (C : Cal) (a0 : SV) (k13 : Unit → ER) (x23 : SV) : ER :=
  eNilCk a0 fun x29 => eFieldAddr Tryz.prog 234 x29 0 fun x30 => eFieldAddr Tryz.prog 62 x30 1 fun x31 => eNilCk a0 fun x32 => eFieldAddr Tryz.prog 234 x32 1 fun x33 => eFieldAddr Tryz.prog 62 x33 1 fun x34 => eLoad Tryz.prog 23 x31 fun x35 => eLoad Tryz.prog 23 x34 fun x36 => eBin Tryz.prog .add 23 false x35 x36 fun x37 => eCallR Tryz.prog C 222 [a0, x37, x23] 0 fun x38 => k13 (())
noncomputable def xfer_row_add_p1 (C : Cal) (a0 : SV) (k13 : Unit → ER) (x15 : SV) : ER :=
  eFieldAddr Tryz.prog 234 x15 0 fun x16 => eFieldAddr Tryz.prog 62 x16 2 fun x17 => eNilCk a0 fun x18 => eFieldAddr Tryz.prog 234 x18 1 fun x19 => eFieldAddr Tryz.prog 62 x19 2 fun x20 => eLoad Tryz.prog 23 x17 fun x21 => eLoad Tryz.prog 23 x20 fun x22 => eBin Tryz.prog .add 23 false x21 x22 fun x23 => eNilCk a0 fun x24 => eFieldAddr Tryz.prog 234 x24 0 fun x25 => eFieldAddr Tryz.prog 62 x25 2 fun x26 => eLoad Tryz.prog 23 x26 fun x27 => eBin Tryz.prog .geq 23 false x23 x27 fun x28 => eIfV x28
  (xfer_row_add_p0 C a0 k13 x23)
  (k13 (()))
noncomputable def xfer_row_add_p2 (C : Cal) (K : SV → ER) (a0 : SV) (x48 : SV) (x49 : SV) (x52 : SV) (x53 : SV) : ER :=
  eFieldAddr Tryz.prog 234 x53 1 fun x54 => eFieldAddr Tryz.prog 62 x54 4 fun x55 => eLoad Tryz.prog 2 x52 fun x56 => eLoad Tryz.prog 2 x55 fun x57 => eCallR Tryz.prog C 223 [x56, x57] 285 fun x58 => eExtract x58 0 fun x59 => eExtract x58 1 fun x60 => eJoinC (σ := SV × Unit) (fun (k61 : SV × Unit → ER) =>
  eIfV x49
  (eHas .any x60 (k61 (x60, ())))
  (eHas .any (.bool false) (k61 ((.bool false), ())))) fun (s62 : SV × Unit) =>
  eIfV s62.1
  (eCallR Tryz.prog C 224 [a0, x48, x59] 0 fun x63 => K (.tup []))
  (K (.tup []))
noncomputable def xfer_row_add_p3 (C : Cal) (K : SV → ER) (a0 : SV) (x39 : SV) : ER :=
  eFieldAddr Tryz.prog 234 x39 0 fun x40 => eFieldAddr Tryz.prog 62 x40 3 fun x41 => eNilCk a0 fun x42 => eFieldAddr Tryz.prog 234 x42 1 fun x43 => eFieldAddr Tryz.prog 62 x43 3 fun x44 => eLoad Tryz.prog 2 x41 fun x45 => eLoad Tryz.prog 2 x44 fun x46 => eCallR Tryz.prog C 223 [x45, x46] 285 fun x47 => eExtract x47 0 fun x48 => eExtract x47 1 fun x49 => eNilCk a0 fun x50 => eFieldAddr Tryz.prog 234 x50 0 fun x51 => eFieldAddr Tryz.prog 62 x51 4 fun x52 => eNilCk a0 fun x53 => xfer_row_add_p2 C K a0 x48 x49 x52 x53
noncomputable def xfer_row_add_p4 (C : Cal) (K : SV → ER) (a0 : SV) (x3 : SV) : ER :=
  eNilCk a0 fun x4 => eFieldAddr Tryz.prog 234 x4 1 fun x5 => eFieldAddr Tryz.prog 62 x5 0 fun x6 => eLoad Tryz.prog 60 x3 fun x7 => eLoad Tryz.prog 60 x6 fun x8 => eCallR Tryz.prog C 221 [x7, x8] 60 fun x9 => eNilCk a0 fun x10 => eFieldAddr Tryz.prog 234 x10 5 fun x11 => eFieldAddr Tryz.prog 62 x11 0 fun x12 => eStore Tryz.prog 60 x12 x9 <| eJoinC (σ := Unit) (fun (k13 : Unit → ER) =>
  eNilCk a0 fun x15 => xfer_row_add_p1 C a0 k13 x15) fun (s14 : Unit) =>
  eNilCk a0 fun x39 => xfer_row_add_p3 C K a0 x39
noncomputable def xfer_row_add_e (C : Cal) (N : Nat) (a0 : SV) (K : SV → ER) : ER :=
  eNilCk a0 fun x1 => eFieldAddr Tryz.prog 234 x1 0 fun x2 => eFieldAddr Tryz.prog 62 x2 0 fun x3 => xfer_row_add_p4 C K a0 x3
theorem xfer_row_add_ee (C : Cal) (N : Nat) (a0 : SV) (K : SV → ER) : eBody Tryz.prog C N Tryz.f182 (Tryz.f182.body.getD .skip) xfer_row_add_ea [a0] K = xfer_row_add_e C N a0 K := by kernel_rfl
noncomputable def l182 : LeafT := fun C N args K => match args with
  | [a0] => xfer_row_add_e C N a0 K
  | _ => eF
theorem lok182 : LeafOk Tryz.prog 182 l182 := .inl ⟨Tryz.f182, Tryz.f182.body.getD .skip, xfer_row_add_ea, Tryz.func182, by kernel_rfl, Tryz.call182, fun C N args K H e => by
  unfold l182 at e
  split at e
  · rw [xfer_row_add_ee]; exact e
  · exact eF_no e⟩

end Go.Proofs.YtjafpcagfgklgaaGreatDoor

set_option linter.unusedVariables false
set_option maxRecDepth 100000
namespace Go.Proofs.YtjafpcagfgklgaaGreatDoor
open Go.Hl
/- (*halberd/xfer.row).sub -/
def xfer_row_sub_ea : Ann := .two (.ord [0, 1, 2, 3, 4, 6, 7, 8, 9, 5, 10, 11, 12, 13, 14, 15]) (.join (.two (.ord [0, 1, 2, 3, 5, 6, 7, 8, 4, 9, 10]) (.two (.ord [0, 1, 2, 3, 4, 6, 7, 8, 9, 12, 13, 14, 15, 17, 18, 19, 20, 5, 10, 11, 16, 21, 22, 23]) (.none))) (.two (.ord [0, 1, 2, 3, 5, 6, 7, 8, 4, 9, 10, 11, 12, 13, 14, 15]) (.two (.ord [0, 1, 2, 3, 5, 6, 7, 8, 4, 9, 10, 11, 12, 13, 14, 15]) (.join (.none) (.two (.none) (.none)) [(87, .any)]))) [])
noncomputable def xfer_row_sub_p0 (C : Cal) (a0 : SV) (k13 : Unit → ER) (x26 : SV) (x28 : SV) : ER :=
  eFieldAddr Tryz.prog 62 x28 2 fun x29 => eNilCk a0 fun x30 => eFieldAddr Tryz.prog 234 x30 0 fun x31 => eFieldAddr Tryz.prog 62 x31 2 fun x32 => eNilCk a0 fun x33 => eFieldAddr Tryz.prog 234 x33 1 fun x34 => eFieldAddr Tryz.prog 62 x34 1 fun x35 => eLoad Tryz.prog 23 x26 fun x36 => eLoad Tryz.prog 23 x29 fun x37 => eBin Tryz.prog .sub 23 false x36 x37 fun x38 => eLoad Tryz.prog 23 x32 fun x39 => eLoad Tryz.prog 23 x35 fun x40 => eBin Tryz.prog .sub 23 false x39 x40 fun x41 => eCallR Tryz.prog C 222 [a0, x38, x41] 0 fun x42 => k13 (())
noncomputable def xfer_row_sub_p1 (C : Cal) (a0 : SV) (k13 : Unit → ER) (x15 : SV) : ER :=
  eFieldAddr Tryz.prog 234 x15 0 fun x16 => eFieldAddr Tryz.prog 62 x16 1 fun x17 => eNilCk a0 fun x18 => eFieldAddr Tryz.prog 234 x18 1 fun x19 => eFieldAddr Tryz.prog 62 x19 2 fun x20 => eLoad Tryz.prog 23 x17 fun x21 => eLoad Tryz.prog 23 x20 fun x22 => eBin Tryz.prog .geq 23 false x21 x22 fun x23 => eIfV x23
  (eNilCk a0 fun x24 => eFieldAddr Tryz.prog 234 x24 0 fun x25 => eFieldAddr Tryz.prog 62 x25 1 fun x26 => eNilCk a0 fun x27 => eFieldAddr Tryz.prog 234 x27 1 fun x28 => xfer_row_sub_p0 C a0 k13 x26 x28)
  (k13 (()))
noncomputable def xfer_row_sub_p2 (C : Cal) (K : SV → ER) (a0 : SV) (x52 : SV) (x53 : SV) (x56 : SV) (x57 : SV) : ER :=
  eFieldAddr Tryz.prog 234 x57 1 fun x58 => eFieldAddr Tryz.prog 62 x58 3 fun x59 => eLoad Tryz.prog 2 x56 fun x60 => eLoad Tryz.prog 2 x59 fun x61 => eCallR Tryz.prog C 226 [x60, x61] 285 fun x62 => eExtract x62 0 fun x63 => eExtract x62 1 fun x64 => eJoinC (σ := SV × Unit) (fun (k65 : SV × Unit → ER) =>
  eIfV x53
  (eHas .any x64 (k65 (x64, ())))
  (eHas .any (.bool false) (k65 ((.bool false), ())))) fun (s66 : SV × Unit) =>
  eIfV s66.1
  (eCallR Tryz.prog C 224 [a0, x52, x63] 0 fun x67 => K (.tup []))
  (K (.tup []))
noncomputable def xfer_row_sub_p3 (C : Cal) (K : SV → ER) (a0 : SV) (x43 : SV) : ER :=
  eFieldAddr Tryz.prog 234 x43 0 fun x44 => eFieldAddr Tryz.prog 62 x44 3 fun x45 => eNilCk a0 fun x46 => eFieldAddr Tryz.prog 234 x46 1 fun x47 => eFieldAddr Tryz.prog 62 x47 4 fun x48 => eLoad Tryz.prog 2 x45 fun x49 => eLoad Tryz.prog 2 x48 fun x50 => eCallR Tryz.prog C 226 [x49, x50] 285 fun x51 => eExtract x51 0 fun x52 => eExtract x51 1 fun x53 => eNilCk a0 fun x54 => eFieldAddr Tryz.prog 234 x54 0 fun x55 => eFieldAddr Tryz.prog 62 x55 4 fun x56 => eNilCk a0 fun x57 => xfer_row_sub_p2 C K a0 x52 x53 x56 x57
noncomputable def xfer_row_sub_p4 (C : Cal) (K : SV → ER) (a0 : SV) (x3 : SV) : ER :=
  eNilCk a0 fun x4 => eFieldAddr Tryz.prog 234 x4 1 fun x5 => eFieldAddr Tryz.prog 62 x5 0 fun x6 => eLoad Tryz.prog 60 x3 fun x7 => eLoad Tryz.prog 60 x6 fun x8 => eCallR Tryz.prog C 225 [x7, x8] 60 fun x9 => eNilCk a0 fun x10 => eFieldAddr Tryz.prog 234 x10 5 fun x11 => eFieldAddr Tryz.prog 62 x11 0 fun x12 => eStore Tryz.prog 60 x12 x9 <| eJoinC (σ := Unit) (fun (k13 : Unit → ER) =>
  eNilCk a0 fun x15 => xfer_row_sub_p1 C a0 k13 x15) fun (s14 : Unit) =>
  eNilCk a0 fun x43 => xfer_row_sub_p3 C K a0 x43
noncomputable def xfer_row_sub_e (C : Cal) (N : Nat) (a0 : SV) (K : SV → ER) : ER :=
  eNilCk a0 fun x1 => eFieldAddr Tryz.prog 234 x1 0 fun x2 => eFieldAddr Tryz.prog 62 x2 0 fun x3 => xfer_row_sub_p4 C K a0 x3
theorem xfer_row_sub_ee (C : Cal) (N : Nat) (a0 : SV) (K : SV → ER) : eBody Tryz.prog C N Tryz.f183 (Tryz.f183.body.getD .skip) xfer_row_sub_ea [a0] K = xfer_row_sub_e C N a0 K := by kernel_rfl
noncomputable def l183 : LeafT := fun C N args K => match args with
  | [a0] => xfer_row_sub_e C N a0 K
  | _ => eF
theorem lok183 : LeafOk Tryz.prog 183 l183 := .inl ⟨Tryz.f183, Tryz.f183.body.getD .skip, xfer_row_sub_ea, Tryz.func183, by kernel_rfl, Tryz.call183, fun C N args K H e => by
  unfold l183 at e
  split at e
  · rw [xfer_row_sub_ee]; exact e
  · exact eF_no e⟩

/- (*halberd/xfer.row).mul -/
def xfer_row_mul_ea : Ann := .join (.none) (.two (.ord [0, 1, 2, 3, 4, 6, 7, 8, 9, 12, 13, 14, 15, 17, 18, 19, 20, 5, 10, 11, 16, 21, 22, 23]) (.none)) [(15, .any)]
noncomputable def xfer_row_mul_p0 (a0 : SV) (k1 : SV × Unit → ER) : ER :=
  eNilCk a0 fun x8 => eFieldAddr Tryz.prog 234 x8 1 fun x9 => eFieldAddr Tryz.prog 62 x9 2 fun x10 => eLoad Tryz.prog 23 x10 fun x11 => eBin Tryz.prog .leq 23 false x11 (.int .u64 4294967295) fun x12 => eHas .any x12 (k1 (x12, ()))
noncomputable def xfer_row_mul_p1 (C : Cal) (K : SV → ER) (a0 : SV) (x15 : SV) (x18 : SV) : ER :=
  eNilCk a0 fun x19 => eFieldAddr Tryz.prog 234 x19 0 fun x20 => eFieldAddr Tryz.prog 62 x20 2 fun x21 => eNilCk a0 fun x22 => eFieldAddr Tryz.prog 234 x22 1 fun x23 => eFieldAddr Tryz.prog 62 x23 2 fun x24 => eLoad Tryz.prog 23 x15 fun x25 => eLoad Tryz.prog 23 x18 fun x26 => eBin Tryz.prog .mul 23 false x25 x26 fun x27 => eLoad Tryz.prog 23 x21 fun x28 => eLoad Tryz.prog 23 x24 fun x29 => eBin Tryz.prog .mul 23 false x28 x29 fun x30 => eCallR Tryz.prog C 222 [a0, x27, x30] 0 fun x31 => K (.tup [])
noncomputable def xfer_row_mul_p2 (C : Cal) (K : SV → ER) (a0 : SV) : ER :=
  eNilCk a0 fun x13 => eFieldAddr Tryz.prog 234 x13 0 fun x14 => eFieldAddr Tryz.prog 62 x14 1 fun x15 => eNilCk a0 fun x16 => eFieldAddr Tryz.prog 234 x16 1 fun x17 => eFieldAddr Tryz.prog 62 x17 1 fun x18 => xfer_row_mul_p1 C K a0 x15 x18
noncomputable def xfer_row_mul_p3 (a0 : SV) (k1 : SV × Unit → ER) : ER :=
  eNilCk a0 fun x3 => eFieldAddr Tryz.prog 234 x3 0 fun x4 => eFieldAddr Tryz.prog 62 x4 2 fun x5 => eLoad Tryz.prog 23 x5 fun x6 => eBin Tryz.prog .leq 23 false x6 (.int .u64 4294967295) fun x7 => eIfV x7
  (xfer_row_mul_p0 a0 k1)
  (eHas .any (.bool false) (k1 ((.bool false), ())))
noncomputable def xfer_row_mul_e (C : Cal) (N : Nat) (a0 : SV) (K : SV → ER) : ER :=
  eJoinC (σ := SV × Unit) (fun (k1 : SV × Unit → ER) =>
  xfer_row_mul_p3 a0 k1) fun (s2 : SV × Unit) =>
  eIfV s2.1
  (xfer_row_mul_p2 C K a0)
  (K (.tup []))
theorem xfer_row_mul_ee (C : Cal) (N : Nat) (a0 : SV) (K : SV → ER) : eBody Tryz.prog C N Tryz.f184 (Tryz.f184.body.getD .skip) xfer_row_mul_ea [a0] K = xfer_row_mul_e C N a0 K := by kernel_rfl
noncomputable def l184 : LeafT := fun C N args K => match args with
  | [a0] => xfer_row_mul_e C N a0 K
  | _ => eF
theorem lok184 : LeafOk Tryz.prog 184 l184 := .inl ⟨Tryz.f184, Tryz.f184.body.getD .skip, xfer_row_mul_ea, Tryz.func184, by kernel_rfl, Tryz.call184, fun C N args K H e => by
  unfold l184 at e
  split at e
  · rw [xfer_row_mul_ee]; exact e
  · exact eF_no e⟩

/- (*halberd/xfer.row).div -/
def xfer_row_div_ea : Ann := .two (.join (.none) (.two (.two (.ord [0, 1, 2, 3, 4, 6, 7, 8, 11, 12, 13, 14, 16, 17, 18, 5, 9, 10, 15, 19, 20, 21]) (.none)) (.none)) [(12, .any)]) (.none)
noncomputable def xfer_row_div_p0 (C : Cal) (K : SV → ER) (a0 : SV) (x12 : SV) (x13 : SV) : ER :=
  eFieldAddr Tryz.prog 234 x13 2 fun x14 => eNilCk a0 fun x15 => eFieldAddr Tryz.prog 234 x15 0 fun x16 => eFieldAddr Tryz.prog 62 x16 2 fun x17 => eNilCk a0 fun x18 => eFieldAddr Tryz.prog 234 x18 2 fun x19 => eLoad Tryz.prog 23 x12 fun x20 => eLoad Tryz.prog 23 x14 fun x21 => eBin Tryz.prog .quo 23 false x20 x21 fun x22 => eLoad Tryz.prog 23 x17 fun x23 => eLoad Tryz.prog 23 x19 fun x24 => eBin Tryz.prog .quo 23 false x23 x24 fun x25 => eCallR Tryz.prog C 222 [a0, x22, x25] 0 fun x26 => K (.tup [])
noncomputable def xfer_row_div_p1 (C : Cal) (K : SV → ER) (a0 : SV) : ER :=
  eNilCk a0 fun x27 => eFieldAddr Tryz.prog 234 x27 0 fun x28 => eFieldAddr Tryz.prog 62 x28 2 fun x29 => eLoad Tryz.prog 23 x29 fun x30 => eCallR Tryz.prog C 222 [a0, (.int .u64 0), x30] 0 fun x31 => K (.tup [])
noncomputable def xfer_row_div_p2 (a0 : SV) (k1 : SV × Unit → ER) : ER :=
  eNilCk a0 fun x3 => eFieldAddr Tryz.prog 234 x3 3 fun x4 => eLoad Tryz.prog 4 x4 fun x5 => eIfV x5
  (eNilCk a0 fun x6 => eFieldAddr Tryz.prog 234 x6 2 fun x7 => eLoad Tryz.prog 23 x7 fun x8 => eBin Tryz.prog .gtr 23 false x8 (.int .u64 0) fun x9 => eHas .any x9 (k1 (x9, ())))
  (eHas .any (.bool false) (k1 ((.bool false), ())))
noncomputable def xfer_row_div_e (C : Cal) (N : Nat) (a0 : SV) (K : SV → ER) : ER :=
  eJoinC (σ := SV × Unit) (fun (k1 : SV × Unit → ER) =>
  xfer_row_div_p2 a0 k1) fun (s2 : SV × Unit) =>
  eIfV s2.1
  (eNilCk a0 fun x10 => eFieldAddr Tryz.prog 234 x10 0 fun x11 => eFieldAddr Tryz.prog 62 x11 1 fun x12 => eNilCk a0 fun x13 => xfer_row_div_p0 C K a0 x12 x13)
  (xfer_row_div_p1 C K a0)
theorem xfer_row_div_ee (C : Cal) (N : Nat) (a0 : SV) (K : SV → ER) : eBody Tryz.prog C N Tryz.f185 (Tryz.f185.body.getD .skip) xfer_row_div_ea [a0] K = xfer_row_div_e C N a0 K := by kernel_rfl
noncomputable def l185 : LeafT := fun C N args K => match args with
  | [a0] => xfer_row_div_e C N a0 K
  | _ => eF
theorem lok185 : LeafOk Tryz.prog 185 l185 := .inl ⟨Tryz.f185, Tryz.f185.body.getD .skip, xfer_row_div_ea, Tryz.func185, by kernel_rfl, Tryz.call185, fun C N args K H e => by
  unfold l185 at e
  split at e
  · rw [xfer_row_div_ee]; exact e
  · exact eF_no e⟩

/- (*halberd/xfer.row).mod -/
def xfer_row_mod_ea : Ann := .two (.none) (.join (.none) (.two (.ord [0, 1, 2, 3, 4, 6, 7, 8, 5, 9, 10, 11, 12, 13, 14, 15]) (.none)) [(19, .any)])
noncomputable def xfer_row_mod_p0 (K : SV → ER) (a0 : SV) : ER :=
  eNilCk a0 fun x15 => eFieldAddr Tryz.prog 234 x15 5 fun x16 => eFieldAddr Tryz.prog 62 x16 2 fun x17 => eNilCk a0 fun x18 => eFieldAddr Tryz.prog 234 x18 2 fun x19 => eLoad Tryz.prog 23 x17 fun x20 => eLoad Tryz.prog 23 x19 fun x21 => eBin Tryz.prog .sub 23 false x21 (.int .u64 1) fun x22 => eMinMaxS false [x20, x22] fun x23 => eNilCk a0 fun x24 => eFieldAddr Tryz.prog 234 x24 5 fun x25 => eFieldAddr Tryz.prog 62 x25 2 fun x26 => eStore Tryz.prog 23 x26 x23 <| K (.tup [])
noncomputable def xfer_row_mod_p1 (a0 : SV) (k6 : SV × Unit → ER) : ER :=
  eNilCk a0 fun x8 => eFieldAddr Tryz.prog 234 x8 3 fun x9 => eLoad Tryz.prog 4 x9 fun x10 => eIfV x10
  (eNilCk a0 fun x11 => eFieldAddr Tryz.prog 234 x11 2 fun x12 => eLoad Tryz.prog 23 x12 fun x13 => eBin Tryz.prog .gtr 23 false x13 (.int .u64 0) fun x14 => eHas .any x14 (k6 (x14, ())))
  (eHas .any (.bool false) (k6 ((.bool false), ())))
noncomputable def xfer_row_mod_e (C : Cal) (N : Nat) (a0 : SV) (K : SV → ER) : ER :=
  eNilCk a0 fun x1 => eFieldAddr Tryz.prog 234 x1 0 fun x2 => eFieldAddr Tryz.prog 62 x2 2 fun x3 => eLoad Tryz.prog 23 x3 fun x4 => eCallR Tryz.prog C 222 [a0, (.int .u64 0), x4] 0 fun x5 => eJoinC (σ := SV × Unit) (fun (k6 : SV × Unit → ER) =>
  xfer_row_mod_p1 a0 k6) fun (s7 : SV × Unit) =>
  eIfV s7.1
  (xfer_row_mod_p0 K a0)
  (K (.tup []))
theorem xfer_row_mod_ee (C : Cal) (N : Nat) (a0 : SV) (K : SV → ER) : eBody Tryz.prog C N Tryz.f186 (Tryz.f186.body.getD .skip) xfer_row_mod_ea [a0] K = xfer_row_mod_e C N a0 K := by kernel_rfl
noncomputable def l186 : LeafT := fun C N args K => match args with
  | [a0] => xfer_row_mod_e C N a0 K
  | _ => eF
theorem lok186 : LeafOk Tryz.prog 186 l186 := .inl ⟨Tryz.f186, Tryz.f186.body.getD .skip, xfer_row_mod_ea, Tryz.func186, by kernel_rfl, Tryz.call186, fun C N args K H e => by
  unfold l186 at e
  split at e
  · rw [xfer_row_mod_ee]; exact e
  · exact eF_no e⟩

/- (*halberd/xfer.row).and -/
def xfer_row_and_ea : Ann := .two (.ord [0, 1, 2, 3, 4, 6, 7, 8, 9, 5, 10, 11, 12, 13, 14, 15]) (.ord [0, 1, 2, 3, 4, 6, 7, 8, 9, 5, 10, 11, 12])
noncomputable def xfer_row_and_p0 (C : Cal) (K : SV → ER) (a0 : SV) (x9 : SV) : ER :=
  eNilCk a0 fun x10 => eFieldAddr Tryz.prog 234 x10 5 fun x11 => eFieldAddr Tryz.prog 62 x11 0 fun x12 => eStore Tryz.prog 60 x12 x9 <| eNilCk a0 fun x13 => eFieldAddr Tryz.prog 234 x13 0 fun x14 => eFieldAddr Tryz.prog 62 x14 2 fun x15 => eNilCk a0 fun x16 => eFieldAddr Tryz.prog 234 x16 1 fun x17 => eFieldAddr Tryz.prog 62 x17 2 fun x18 => eLoad Tryz.prog 23 x15 fun x19 => eLoad Tryz.prog 23 x18 fun x20 => eMinMaxS false [x19, x20] fun x21 => eCallR Tryz.prog C 222 [a0, (.int .u64 0), x21] 0 fun x22 => K (.tup [])
noncomputable def xfer_row_and_e (C : Cal) (N : Nat) (a0 : SV) (K : SV → ER) : ER :=
  eNilCk a0 fun x1 => eFieldAddr Tryz.prog 234 x1 0 fun x2 => eFieldAddr Tryz.prog 62 x2 0 fun x3 => eNilCk a0 fun x4 => eFieldAddr Tryz.prog 234 x4 1 fun x5 => eFieldAddr Tryz.prog 62 x5 0 fun x6 => eLoad Tryz.prog 60 x3 fun x7 => eLoad Tryz.prog 60 x6 fun x8 => eCallR Tryz.prog C 227 [x7, x8] 60 fun x9 => xfer_row_and_p0 C K a0 x9
theorem xfer_row_and_ee (C : Cal) (N : Nat) (a0 : SV) (K : SV → ER) : eBody Tryz.prog C N Tryz.f187 (Tryz.f187.body.getD .skip) xfer_row_and_ea [a0] K = xfer_row_and_e C N a0 K := by kernel_rfl
noncomputable def l187 : LeafT := fun C N args K => match args with
  | [a0] => xfer_row_and_e C N a0 K
  | _ => eF
theorem lok187 : LeafOk Tryz.prog 187 l187 := .inl ⟨Tryz.f187, Tryz.f187.body.getD .skip, xfer_row_and_ea, Tryz.func187, by kernel_rfl, Tryz.call187, fun C N args K H e => by
  unfold l187 at e
  split at e
  · rw [xfer_row_and_ee]; exact e
  · exact eF_no e⟩

/- (*halberd/xfer.row).or -/
def xfer_row_or_ea : Ann := .two (.ord [0, 1, 2, 3, 4, 6, 7, 8, 9, 5, 10, 11, 12, 13, 14, 15]) (.ord [0, 1, 2, 3, 4, 6, 7, 8, 9, 5, 10, 11, 12])
noncomputable def xfer_row_or_p0 (C : Cal) (K : SV → ER) (a0 : SV) (x9 : SV) (x10 : SV) : ER :=
  eFieldAddr Tryz.prog 234 x10 5 fun x11 => eFieldAddr Tryz.prog 62 x11 0 fun x12 => eStore Tryz.prog 60 x12 x9 <| eNilCk a0 fun x13 => eFieldAddr Tryz.prog 234 x13 0 fun x14 => eFieldAddr Tryz.prog 62 x14 1 fun x15 => eNilCk a0 fun x16 => eFieldAddr Tryz.prog 234 x16 1 fun x17 => eFieldAddr Tryz.prog 62 x17 1 fun x18 => eLoad Tryz.prog 23 x15 fun x19 => eLoad Tryz.prog 23 x18 fun x20 => eMinMaxS true [x19, x20] fun x21 => eCallR Tryz.prog C 222 [a0, x21, (.int .u64 18446744073709551615)] 0 fun x22 => K (.tup [])
noncomputable def xfer_row_or_e (C : Cal) (N : Nat) (a0 : SV) (K : SV → ER) : ER :=
  eNilCk a0 fun x1 => eFieldAddr Tryz.prog 234 x1 0 fun x2 => eFieldAddr Tryz.prog 62 x2 0 fun x3 => eNilCk a0 fun x4 => eFieldAddr Tryz.prog 234 x4 1 fun x5 => eFieldAddr Tryz.prog 62 x5 0 fun x6 => eLoad Tryz.prog 60 x3 fun x7 => eLoad Tryz.prog 60 x6 fun x8 => eCallR Tryz.prog C 228 [x7, x8] 60 fun x9 => eNilCk a0 fun x10 => xfer_row_or_p0 C K a0 x9 x10
theorem xfer_row_or_ee (C : Cal) (N : Nat) (a0 : SV) (K : SV → ER) : eBody Tryz.prog C N Tryz.f188 (Tryz.f188.body.getD .skip) xfer_row_or_ea [a0] K = xfer_row_or_e C N a0 K := by kernel_rfl
noncomputable def l188 : LeafT := fun C N args K => match args with
  | [a0] => xfer_row_or_e C N a0 K
  | _ => eF
theorem lok188 : LeafOk Tryz.prog 188 l188 := .inl ⟨Tryz.f188, Tryz.f188.body.getD .skip, xfer_row_or_ea, Tryz.func188, by kernel_rfl, Tryz.call188, fun C N args K H e => by
  unfold l188 at e
  split at e
  · rw [xfer_row_or_ee]; exact e
  · exact eF_no e⟩

/- (*halberd/xfer.row).xor -/
def xfer_row_xor_ea : Ann := .ord [0, 1, 2, 3, 4, 6, 7, 8, 9, 5, 10, 11, 12, 13, 14, 15]
noncomputable def xfer_row_xor_e (C : Cal) (N : Nat) (a0 : SV) (K : SV → ER) : ER :=
  eNilCk a0 fun x1 => eFieldAddr Tryz.prog 234 x1 0 fun x2 => eFieldAddr Tryz.prog 62 x2 0 fun x3 => eNilCk a0 fun x4 => eFieldAddr Tryz.prog 234 x4 1 fun x5 => eFieldAddr Tryz.prog 62 x5 0 fun x6 => eLoad Tryz.prog 60 x3 fun x7 => eLoad Tryz.prog 60 x6 fun x8 => eCallR Tryz.prog C 229 [x7, x8] 60 fun x9 => eNilCk a0 fun x10 => eFieldAddr Tryz.prog 234 x10 5 fun x11 => eFieldAddr Tryz.prog 62 x11 0 fun x12 => eStore Tryz.prog 60 x12 x9 <| K (.tup [])
theorem xfer_row_xor_ee (C : Cal) (N : Nat) (a0 : SV) (K : SV → ER) : eBody Tryz.prog C N Tryz.f189 (Tryz.f189.body.getD .skip) xfer_row_xor_ea [a0] K = xfer_row_xor_e C N a0 K := by kernel_rfl
noncomputable def l189 : LeafT := fun C N args K => match args with
  | [a0] => xfer_row_xor_e C N a0 K
  | _ => eF
theorem lok189 : LeafOk Tryz.prog 189 l189 := .inl ⟨Tryz.f189, Tryz.f189.body.getD .skip, xfer_row_xor_ea, Tryz.func189, by kernel_rfl, Tryz.call189, fun C N args K H e => by
  unfold l189 at e
  split at e
  · rw [xfer_row_xor_ee]; exact e
  · exact eF_no e⟩

/- (*halberd/xfer.row).lsh -/
def xfer_row_lsh_ea : Ann := .two (.two (.none) (.two (.none) (.none))) (.two (.ord [0, 1, 2, 4, 5, 6, 3, 7, 8, 9]) (.two (.none) (.two (.ord [0, 1, 2, 3, 5, 7, 9, 10, 11, 12, 4, 6, 8, 13, 14]) (.two (.ord [0, 1, 2, 3, 4, 6, 8, 9, 10, 11, 13, 5, 7, 12, 14, 15]) (.none)))))
noncomputable def xfer_row_lsh_p0 (C : Cal) (K : SV → ER) (a0 : SV) (x11 : SV) : ER :=
  eNilCk a0 fun x31 => eFieldAddr Tryz.prog 234 x31 0 fun x32 => eFieldAddr Tryz.prog 62 x32 1 fun x33 => eNilCk a0 fun x34 => eFieldAddr Tryz.prog 234 x34 0 fun x35 => eFieldAddr Tryz.prog 62 x35 2 fun x36 => eLoad Tryz.prog 23 x33 fun x37 => eBin Tryz.prog .shl 23 false x37 x11 fun x38 => eLoad Tryz.prog 23 x36 fun x39 => eBin Tryz.prog .shl 23 false x39 x11 fun x40 => eCallR Tryz.prog C 222 [a0, x38, x40] 0 fun x41 => K (.tup [])
noncomputable def xfer_row_lsh_p1 (C : Cal) (K : SV → ER) (a0 : SV) (x11 : SV) (x16 : SV) (x19 : SV) : ER :=
  eStore Tryz.prog 60 x19 x16 <| eNilCk a0 fun x20 => eFieldAddr Tryz.prog 234 x20 0 fun x21 => eFieldAddr Tryz.prog 62 x21 2 fun x22 => eNilCk a0 fun x23 => eFieldAddr Tryz.prog 234 x23 0 fun x24 => eFieldAddr Tryz.prog 62 x24 2 fun x25 => eLoad Tryz.prog 23 x22 fun x26 => eBin Tryz.prog .shl 23 false x26 x11 fun x27 => eBin Tryz.prog .shr 23 false x27 x11 fun x28 => eLoad Tryz.prog 23 x25 fun x29 => eBin Tryz.prog .eql 23 false x28 x29 fun x30 => eIfV x30
  (xfer_row_lsh_p0 C K a0 x11)
  (K (.tup []))
noncomputable def xfer_row_lsh_p2 (C : Cal) (K : SV → ER) (a0 : SV) (x5 : SV) : ER :=
  eFieldAddr Tryz.prog 234 x5 2 fun x6 => eNilCk a0 fun x7 => eFieldAddr Tryz.prog 234 x7 4 fun x8 => eLoad Tryz.prog 23 x6 fun x9 => eLoad Tryz.prog 23 x8 fun x10 => eBin Tryz.prog .rem 23 false x9 x10 fun x11 => eNilCk a0 fun x12 => eFieldAddr Tryz.prog 234 x12 0 fun x13 => eFieldAddr Tryz.prog 62 x13 0 fun x14 => eLoad Tryz.prog 60 x14 fun x15 => eCallR Tryz.prog C 230 [x15, x11] 60 fun x16 => eNilCk a0 fun x17 => eFieldAddr Tryz.prog 234 x17 5 fun x18 => eFieldAddr Tryz.prog 62 x18 0 fun x19 => xfer_row_lsh_p1 C K a0 x11 x16 x19
noncomputable def xfer_row_lsh_e (C : Cal) (N : Nat) (a0 : SV) (K : SV → ER) : ER :=
  eNilCk a0 fun x1 => eFieldAddr Tryz.prog 234 x1 3 fun x2 => eLoad Tryz.prog 4 x2 fun x3 => eUnS .not x3 fun x4 => eIfV x4
  (K (.tup []))
  (eNilCk a0 fun x5 => xfer_row_lsh_p2 C K a0 x5)
theorem xfer_row_lsh_ee (C : Cal) (N : Nat) (a0 : SV) (K : SV → ER) : eBody Tryz.prog C N Tryz.f190 (Tryz.f190.body.getD .skip) xfer_row_lsh_ea [a0] K = xfer_row_lsh_e C N a0 K := by kernel_rfl
noncomputable def l190 : LeafT := fun C N args K => match args with
  | [a0] => xfer_row_lsh_e C N a0 K
  | _ => eF
theorem lok190 : LeafOk Tryz.prog 190 l190 := .inl ⟨Tryz.f190, Tryz.f190.body.getD .skip, xfer_row_lsh_ea, Tryz.func190, by kernel_rfl, Tryz.call190, fun C N args K H e => by
  unfold l190 at e
  split at e
  · rw [xfer_row_lsh_ee]; exact e
  · exact eF_no e⟩

end Go.Proofs.YtjafpcagfgklgaaGreatDoor

set_option linter.unusedVariables false
set_option maxRecDepth 100000
namespace Go.Proofs.YtjafpcagfgklgaaGreatDoor
open Go.Hl
/- (*halberd/xfer.row).rsh -/
def xfer_row_rsh_ea : Ann := .two (.two (.none) (.two (.two (.none) (.none)) (.none))) (.two (.ord [0, 1, 2, 4, 5, 6, 3, 7, 8, 9]) (.two (.none) (.ord [0, 1, 2, 3, 4, 6, 8, 9, 10, 11, 13, 5, 7, 12, 14, 15])))
noncomputable def xfer_row_rsh_p0 (C : Cal) (K : SV → ER) (a0 : SV) : ER :=
  eNilCk a0 fun x5 => eFieldAddr Tryz.prog 234 x5 0 fun x6 => eFieldAddr Tryz.prog 62 x6 2 fun x7 => eLoad Tryz.prog 23 x7 fun x8 => eCallR Tryz.prog C 222 [a0, (.int .u64 0), x8] 0 fun x9 => K (.tup [])
noncomputable def xfer_row_rsh_p1 (C : Cal) (K : SV → ER) (a0 : SV) (x16 : SV) (x21 : SV) (x23 : SV) : ER :=
  eFieldAddr Tryz.prog 62 x23 0 fun x24 => eStore Tryz.prog 60 x24 x21 <| eNilCk a0 fun x25 => eFieldAddr Tryz.prog 234 x25 0 fun x26 => eFieldAddr Tryz.prog 62 x26 1 fun x27 => eNilCk a0 fun x28 => eFieldAddr Tryz.prog 234 x28 0 fun x29 => eFieldAddr Tryz.prog 62 x29 2 fun x30 => eLoad Tryz.prog 23 x27 fun x31 => eBin Tryz.prog .shr 23 false x31 x16 fun x32 => eLoad Tryz.prog 23 x30 fun x33 => eBin Tryz.prog .shr 23 false x33 x16 fun x34 => eCallR Tryz.prog C 222 [a0, x32, x34] 0 fun x35 => K (.tup [])
noncomputable def xfer_row_rsh_p2 (C : Cal) (K : SV → ER) (a0 : SV) (x10 : SV) : ER :=
  eFieldAddr Tryz.prog 234 x10 2 fun x11 => eNilCk a0 fun x12 => eFieldAddr Tryz.prog 234 x12 4 fun x13 => eLoad Tryz.prog 23 x11 fun x14 => eLoad Tryz.prog 23 x13 fun x15 => eBin Tryz.prog .rem 23 false x14 x15 fun x16 => eNilCk a0 fun x17 => eFieldAddr Tryz.prog 234 x17 0 fun x18 => eFieldAddr Tryz.prog 62 x18 0 fun x19 => eLoad Tryz.prog 60 x19 fun x20 => eCallR Tryz.prog C 231 [x20, x16] 60 fun x21 => eNilCk a0 fun x22 => eFieldAddr Tryz.prog 234 x22 5 fun x23 => xfer_row_rsh_p1 C K a0 x16 x21 x23
noncomputable def xfer_row_rsh_e (C : Cal) (N : Nat) (a0 : SV) (K : SV → ER) : ER :=
  eNilCk a0 fun x1 => eFieldAddr Tryz.prog 234 x1 3 fun x2 => eLoad Tryz.prog 4 x2 fun x3 => eUnS .not x3 fun x4 => eIfV x4
  (xfer_row_rsh_p0 C K a0)
  (eNilCk a0 fun x10 => xfer_row_rsh_p2 C K a0 x10)
theorem xfer_row_rsh_ee (C : Cal) (N : Nat) (a0 : SV) (K : SV → ER) : eBody Tryz.prog C N Tryz.f191 (Tryz.f191.body.getD .skip) xfer_row_rsh_ea [a0] K = xfer_row_rsh_e C N a0 K := by kernel_rfl
noncomputable def l191 : LeafT := fun C N args K => match args with
  | [a0] => xfer_row_rsh_e C N a0 K
  | _ => eF
theorem lok191 : LeafOk Tryz.prog 191 l191 := .inl ⟨Tryz.f191, Tryz.f191.body.getD .skip, xfer_row_rsh_ea, Tryz.func191, by kernel_rfl, Tryz.call191, fun C N args K H e => by
  unfold l191 at e
  split at e
  · rw [xfer_row_rsh_ee]; exact e
  · exact eF_no e⟩

/- (*halberd/xfer.row).arsh -/
def xfer_row_arsh_ea : Ann := .sub (.two (.none) (.two (.none) (.two (.none) (.two (.two (.ord [0, 1, 2, 4, 5, 6, 3, 7, 8, 9]) (.two (.none) (.ord [0, 1, 2, 3, 4, 6, 8, 9, 10, 11, 13, 5, 7, 12, 14, 15]))) (.ord [0, 1, 2, 3, 4, 7, 8, 9, 10, 5, 6, 11, 12, 13])))))
noncomputable def xfer_row_arsh_p0 (C : Cal) (K : SV → ER) (a0 : SV) (x14 : SV) (x19 : SV) (x21 : SV) : ER :=
  eFieldAddr Tryz.prog 62 x21 0 fun x22 => eStore Tryz.prog 60 x22 x19 <| eNilCk a0 fun x23 => eFieldAddr Tryz.prog 234 x23 0 fun x24 => eFieldAddr Tryz.prog 62 x24 3 fun x25 => eNilCk a0 fun x26 => eFieldAddr Tryz.prog 234 x26 0 fun x27 => eFieldAddr Tryz.prog 62 x27 4 fun x28 => eLoad Tryz.prog 2 x25 fun x29 => eBin Tryz.prog .shr 2 false x29 x14 fun x30 => eLoad Tryz.prog 2 x28 fun x31 => eBin Tryz.prog .shr 2 false x31 x14 fun x32 => eCallR Tryz.prog C 224 [a0, x30, x32] 0 fun x33 => K (.tup [])
noncomputable def xfer_row_arsh_p1 (C : Cal) (K : SV → ER) (a0 : SV) (x8 : SV) : ER :=
  eFieldAddr Tryz.prog 234 x8 2 fun x9 => eNilCk a0 fun x10 => eFieldAddr Tryz.prog 234 x10 4 fun x11 => eLoad Tryz.prog 23 x9 fun x12 => eLoad Tryz.prog 23 x11 fun x13 => eBin Tryz.prog .rem 23 false x12 x13 fun x14 => eNilCk a0 fun x15 => eFieldAddr Tryz.prog 234 x15 0 fun x16 => eFieldAddr Tryz.prog 62 x16 0 fun x17 => eLoad Tryz.prog 60 x17 fun x18 => eCallR Tryz.prog C 232 [x18, x14] 60 fun x19 => eNilCk a0 fun x20 => eFieldAddr Tryz.prog 234 x20 5 fun x21 => xfer_row_arsh_p0 C K a0 x14 x19 x21
noncomputable def xfer_row_arsh_p2 (C : Cal) (K : SV → ER) (a0 : SV) : ER :=
  eNilCk a0 fun x34 => eFieldAddr Tryz.prog 234 x34 0 fun x35 => eFieldAddr Tryz.prog 62 x35 3 fun x36 => eNilCk a0 fun x37 => eFieldAddr Tryz.prog 234 x37 0 fun x38 => eFieldAddr Tryz.prog 62 x38 4 fun x39 => eLoad Tryz.prog 2 x36 fun x40 => eMinMaxS false [x40, (.int .i64 0)] fun x41 => eLoad Tryz.prog 2 x39 fun x42 => eMinMaxS true [x42, (.int .i64 (-1))] fun x43 => eCallR Tryz.prog C 224 [a0, x41, x43] 0 fun x44 => K (.tup [])
noncomputable def xfer_row_arsh_e (C : Cal) (N : Nat) (a0 : SV) (K : SV → ER) : ER :=
  eNilCk a0 fun x1 => eFieldAddr Tryz.prog 234 x1 4 fun x2 => eLoad Tryz.prog 23 x2 fun x3 => eBin Tryz.prog .neq 23 false x3 (.int .u64 64) fun x4 => eIfV x4
  (K (.tup []))
  (eNilCk a0 fun x5 => eFieldAddr Tryz.prog 234 x5 3 fun x6 => eLoad Tryz.prog 4 x6 fun x7 => eIfV x7
  (eNilCk a0 fun x8 => xfer_row_arsh_p1 C K a0 x8)
  (xfer_row_arsh_p2 C K a0))
theorem xfer_row_arsh_ee (C : Cal) (N : Nat) (a0 : SV) (K : SV → ER) : eBody Tryz.prog C N Tryz.f192 (Tryz.f192.body.getD .skip) xfer_row_arsh_ea [a0] K = xfer_row_arsh_e C N a0 K := by kernel_rfl
noncomputable def l192 : LeafT := fun C N args K => match args with
  | [a0] => xfer_row_arsh_e C N a0 K
  | _ => eF
theorem lok192 : LeafOk Tryz.prog 192 l192 := .inl ⟨Tryz.f192, Tryz.f192.body.getD .skip, xfer_row_arsh_ea, Tryz.func192, by kernel_rfl, Tryz.call192, fun C N args K H e => by
  unfold l192 at e
  split at e
  · rw [xfer_row_arsh_ee]; exact e
  · exact eF_no e⟩

/- (*halberd/xfer.row).neg -/
def xfer_row_neg_ea : Ann := .two (.ord [0, 1, 2, 3, 4, 5, 6, 7, 8, 9, 10, 11, 12]) (.none)
noncomputable def xfer_row_neg_e (C : Cal) (N : Nat) (a0 : SV) (K : SV → ER) : ER :=
  eNilCk a0 fun x1 => eFieldAddr Tryz.prog 234 x1 0 fun x2 => eLoad Tryz.prog 62 x2 fun x3 => eCallR Tryz.prog C 109 [(.int .u64 0)] 62 fun x4 => fun H => eLoadF Tryz.prog 62 x2 x3 H && (eNilCk a0 fun x5 => eFieldAddr Tryz.prog 234 x5 1 fun x6 => eStore Tryz.prog 62 x6 x3 <| eNilCk a0 fun x7 => eFieldAddr Tryz.prog 234 x7 0 fun x8 => eStore Tryz.prog 62 x8 x4 <| eCallR Tryz.prog C 183 [a0] 0 fun x9 => K (.tup [])) H
theorem xfer_row_neg_ee (C : Cal) (N : Nat) (a0 : SV) (K : SV → ER) : eBody Tryz.prog C N Tryz.f193 (Tryz.f193.body.getD .skip) xfer_row_neg_ea [a0] K = xfer_row_neg_e C N a0 K := by kernel_rfl
noncomputable def l193 : LeafT := fun C N args K => match args with
  | [a0] => xfer_row_neg_e C N a0 K
  | _ => eF
theorem lok193 : LeafOk Tryz.prog 193 l193 := .inl ⟨Tryz.f193, Tryz.f193.body.getD .skip, xfer_row_neg_ea, Tryz.func193, by kernel_rfl, Tryz.call193, fun C N args K H e => by
  unfold l193 at e
  split at e
  · rw [xfer_row_neg_ee]; exact e
  · exact eF_no e⟩

/- (*halberd/xfer.row).mov -/
def xfer_row_mov_ea : Ann := .none
noncomputable def xfer_row_mov_e (C : Cal) (N : Nat) (a0 : SV) (K : SV → ER) : ER :=
  eNilCk a0 fun x1 => eFieldAddr Tryz.prog 234 x1 1 fun x2 => eLoad Tryz.prog 62 x2 fun x3 => eNilCk a0 fun x4 => eFieldAddr Tryz.prog 234 x4 5 fun x5 => eStore Tryz.prog 62 x5 x3 <| K (.tup [])
theorem xfer_row_mov_ee (C : Cal) (N : Nat) (a0 : SV) (K : SV → ER) : eBody Tryz.prog C N Tryz.f194 (Tryz.f194.body.getD .skip) xfer_row_mov_ea [a0] K = xfer_row_mov_e C N a0 K := by kernel_rfl
noncomputable def l194 : LeafT := fun C N args K => match args with
  | [a0] => xfer_row_mov_e C N a0 K
  | _ => eF
theorem lok194 : LeafOk Tryz.prog 194 l194 := .inl ⟨Tryz.f194, Tryz.f194.body.getD .skip, xfer_row_mov_ea, Tryz.func194, by kernel_rfl, Tryz.call194, fun C N args K H e => by
  unfold l194 at e
  split at e
  · rw [xfer_row_mov_ee]; exact e
  · exact eF_no e⟩

/- halberd/words.Zext -/
def words_Zext_ea : Ann := .two (.none) (.two (.two (.none) (.two (.two (.none) (.none)) (.none))) (.two (.none) (.none)))
noncomputable def words_Zext_e (C : Cal) (N : Nat) (a0 a1 : SV) (K : SV → ER) : ER :=
  eCallR Tryz.prog C 198 [a1] 4 fun x1 => eUnS .not x1 fun x2 => eIfV x2
  (K a0)
  (eBin Tryz.prog .mul 3 false (.int .i64 8) a1 fun x3 => eCallR Tryz.prog C 200 [x3] 23 fun x4 => eBin Tryz.prog .and 23 false a0 x4 fun x5 => K x5)
theorem words_Zext_ee (C : Cal) (N : Nat) (a0 a1 : SV) (K : SV → ER) : eBody Tryz.prog C N Tryz.f195 (Tryz.f195.body.getD .skip) words_Zext_ea [a0, a1] K = words_Zext_e C N a0 a1 K := by kernel_rfl
noncomputable def l195 : LeafT := fun C N args K => match args with
  | [a0, a1] => words_Zext_e C N a0 a1 K
  | _ => eF
theorem lok195 : LeafOk Tryz.prog 195 l195 := .inl ⟨Tryz.f195, Tryz.f195.body.getD .skip, words_Zext_ea, Tryz.func195, by kernel_rfl, Tryz.call195, fun C N args K H e => by
  unfold l195 at e
  split at e
  · rw [words_Zext_ee]; exact e
  · exact eF_no e⟩

/- halberd/alu.shift -/
def alu_shift_ea : Ann := .two (.none) (.two (.none) (.two (.two (.none) (.sub (.two (.none) (.two (.two (.none) (.none)) (.two (.none) (.two (.two (.none) (.none)) (.two (.none) (.two (.two (.none) (.none)) (.none))))))))) (.two (.none) (.none))))
noncomputable def alu_shift_p0 (C : Cal) (K : SV → ER) (a1 : SV) (a2 : SV) (x1 : SV) : ER :=
  eConvS Tryz.prog 23 3 a1 fun x7 => eBin Tryz.prog .quo 3 false x7 (.int .i64 8) fun x8 => eCallR Tryz.prog C 233 [a2, x8] 23 fun x9 => eConvS Tryz.prog 23 2 x9 fun x10 => eBin Tryz.prog .shr 2 false x10 x1 fun x11 => eConvS Tryz.prog 2 23 x11 fun x12 => K (.tup [x12, (.bool true)])
noncomputable def alu_shift_p1 (C : Cal) (K : SV → ER) (a0 : SV) (a1 : SV) (a2 : SV) (x1 : SV) : ER :=
  eBin Tryz.prog .eql 5 false a0 (.int .u8 112) fun x4 => eIfV x4
  (eBin Tryz.prog .shr 23 false a2 x1 fun x5 => K (.tup [x5, (.bool true)]))
  (eBin Tryz.prog .eql 5 false a0 (.int .u8 192) fun x6 => eIfV x6
  (alu_shift_p0 C K a1 a2 x1)
  (K (.tup [(.int .u64 0), (.bool false)])))
noncomputable def alu_shift_e (C : Cal) (N : Nat) (a0 a1 a2 a3 : SV) (K : SV → ER) : ER :=
  eBin Tryz.prog .rem 23 false a3 a1 fun x1 => eBin Tryz.prog .eql 5 false a0 (.int .u8 96) fun x2 => eIfV x2
  (eBin Tryz.prog .shl 23 false a2 x1 fun x3 => K (.tup [x3, (.bool true)]))
  (alu_shift_p1 C K a0 a1 a2 x1)
theorem alu_shift_ee (C : Cal) (N : Nat) (a0 a1 a2 a3 : SV) (K : SV → ER) : eBody Tryz.prog C N Tryz.f196 (Tryz.f196.body.getD .skip) alu_shift_ea [a0, a1, a2, a3] K = alu_shift_e C N a0 a1 a2 a3 K := by kernel_rfl
noncomputable def l196 : LeafT := fun C N args K => match args with
  | [a0, a1, a2, a3] => alu_shift_e C N a0 a1 a2 a3 K
  | _ => eF
theorem lok196 : LeafOk Tryz.prog 196 l196 := .inl ⟨Tryz.f196, Tryz.f196.body.getD .skip, alu_shift_ea, Tryz.func196, by kernel_rfl, Tryz.call196, fun C N args K H e => by
  unfold l196 at e
  split at e
  · rw [alu_shift_ee]; exact e
  · exact eF_no e⟩

/- halberd/alu.plain -/
def alu_plain_ea : Ann := .two (.none) (.two (.none) (.none))
noncomputable def alu_plain_p0 (K : SV → ER) (b1 : Nat) : ER :=
  ePutS Tryz.prog 271 (.map (some b1)) (.int .u8 48) (.fn 237 [] []) fun x5 => ePutS Tryz.prog 271 (.map (some b1)) (.int .u8 144) (.fn 238 [] []) fun x6 => ePutS Tryz.prog 271 (.map (some b1)) (.int .u8 64) (.fn 239 [] []) fun x7 => ePutS Tryz.prog 271 (.map (some b1)) (.int .u8 80) (.fn 240 [] []) fun x8 => ePutS Tryz.prog 271 (.map (some b1)) (.int .u8 160) (.fn 241 [] []) fun x9 => ePutS Tryz.prog 271 (.map (some b1)) (.int .u8 176) (.fn 242 [] []) fun x10 => ePutS Tryz.prog 271 (.map (some b1)) (.int .u8 128) (.fn 243 [] []) fun x11 => K (.map (some b1))
noncomputable def alu_plain_e (C : Cal) (N : Nat) (K : SV → ER) : ER :=
  eNewB (.map []) fun b1 => ePutS Tryz.prog 271 (.map (some b1)) (.int .u8 0) (.fn 234 [] []) fun x2 => ePutS Tryz.prog 271 (.map (some b1)) (.int .u8 16) (.fn 235 [] []) fun x3 => ePutS Tryz.prog 271 (.map (some b1)) (.int .u8 32) (.fn 236 [] []) fun x4 => alu_plain_p0 K b1
theorem alu_plain_ee (C : Cal) (N : Nat) (K : SV → ER) : eBody Tryz.prog C N Tryz.f197 (Tryz.f197.body.getD .skip) alu_plain_ea [] K = alu_plain_e C N  K := by kernel_rfl
noncomputable def l197 : LeafT := fun C N args K => match args with
  | [] => alu_plain_e C N  K
  | _ => eF
theorem lok197 : LeafOk Tryz.prog 197 l197 := .inl ⟨Tryz.f197, Tryz.f197.body.getD .skip, alu_plain_ea, Tryz.func197, by kernel_rfl, Tryz.call197, fun C N args K H e => by
  unfold l197 at e
  split at e
  · rw [alu_plain_ee]; exact e
  · exact eF_no e⟩

/- halberd/words.IsSize -/
def words_IsSize_ea : Ann := .two (.none) (.join (.none) (.none) [(2, .any)])
noncomputable def words_IsSize_p0 (a0 : SV) (k1 : SV × Unit → ER) : ER :=
  eBin Tryz.prog .eql 3 false a0 (.int .i64 2) fun x4 => eIfV x4
  (eHas .any (.bool true) (k1 ((.bool true), ())))
  (eBin Tryz.prog .eql 3 false a0 (.int .i64 4) fun x5 => eIfV x5
  (eHas .any (.bool true) (k1 ((.bool true), ())))
  (eBin Tryz.prog .eql 3 false a0 (.int .i64 8) fun x6 => eHas .any x6 (k1 (x6, ()))))
noncomputable def words_IsSize_e (C : Cal) (N : Nat) (a0 : SV) (K : SV → ER) : ER :=
  eJoinC (σ := SV × Unit) (fun (k1 : SV × Unit → ER) =>
  eBin Tryz.prog .eql 3 false a0 (.int .i64 1) fun x3 => eIfV x3
  (eHas .any (.bool true) (k1 ((.bool true), ())))
  (words_IsSize_p0 a0 k1)) fun (s2 : SV × Unit) =>
  K s2.1
theorem words_IsSize_ee (C : Cal) (N : Nat) (a0 : SV) (K : SV → ER) : eBody Tryz.prog C N Tryz.f198 (Tryz.f198.body.getD .skip) words_IsSize_ea [a0] K = words_IsSize_e C N a0 K := by kernel_rfl
noncomputable def l198 : LeafT := fun C N args K => match args with
  | [a0] => words_IsSize_e C N a0 K
  | _ => eF
theorem lok198 : LeafOk Tryz.prog 198 l198 := .inl ⟨Tryz.f198, Tryz.f198.body.getD .skip, words_IsSize_ea, Tryz.func198, by kernel_rfl, Tryz.call198, fun C N args K H e => by
  unfold l198 at e
  split at e
  · rw [words_IsSize_ee]; exact e
  · exact eF_no e⟩

end Go.Proofs.YtjafpcagfgklgaaGreatDoor

set_option linter.unusedVariables false
set_option maxRecDepth 100000
namespace Go.Proofs.YtjafpcagfgklgaaGreatDoor
open Go.Hl
/- halberd/tnum.Cut -/
def tnum_Cut_ea : Ann := .two (.none) (.two (.none) (.two (.ord [0, 2, 4, 6, 1, 5, 3, 7, 8, 9]) (.none)))
noncomputable def tnum_Cut_p0 (C : Cal) (K : SV → ER) (a1 : SV) (x1 : SV) : ER :=
  eAlloc Tryz.prog 60 fun x2 => eLoad Tryz.prog 60 x1 fun x3 => eCallR Tryz.prog C 244 [x3] 60 fun x4 => eStore Tryz.prog 60 x1 x4 <| eFieldAddr Tryz.prog 60 x1 0 fun x5 => eFieldAddr Tryz.prog 60 x1 1 fun x6 => eLoad Tryz.prog 23 x5 fun x7 => eLoad Tryz.prog 23 x6 fun x8 => eCallR Tryz.prog C 195 [x7, a1] 23 fun x9 => fun H => eLoadF Tryz.prog 23 x6 x8 H && (eCallR Tryz.prog C 195 [x8, a1] 23 fun x10 => eBuild Tryz.prog 60 [(0, x9), (1, x10)] fun x11 => eStore Tryz.prog 60 x2 x11 <| eLoad Tryz.prog 60 x2 fun x12 => K x12) H
noncomputable def tnum_Cut_e (C : Cal) (N : Nat) (a0 a1 : SV) (K : SV → ER) : ER :=
  eBox Tryz.prog 60 a0 fun x1 => tnum_Cut_p0 C K a1 x1
theorem tnum_Cut_ee (C : Cal) (N : Nat) (a0 a1 : SV) (K : SV → ER) : eBody Tryz.prog C N Tryz.f199 (Tryz.f199.body.getD .skip) tnum_Cut_ea [a0, a1] K = tnum_Cut_e C N a0 a1 K := by kernel_rfl
noncomputable def l199 : LeafT := fun C N args K => match args with
  | [a0, a1] => tnum_Cut_e C N a0 a1 K
  | _ => eF
theorem lok199 : LeafOk Tryz.prog 199 l199 := .inl ⟨Tryz.f199, Tryz.f199.body.getD .skip, tnum_Cut_ea, Tryz.func199, by kernel_rfl, Tryz.call199, fun C N args K H e => by
  unfold l199 at e
  split at e
  · rw [tnum_Cut_ee]; exact e
  · exact eF_no e⟩

/- halberd/words.Low -/
def words_Low_ea : Ann := .two (.none) (.two (.sub (.two (.none) (.two (.two (.none) (.none)) (.two (.none) (.two (.two (.none) (.none)) (.none)))))) (.two (.none) (.none)))
noncomputable def words_Low_p0 (K : SV → ER) (a0 : SV) : ER :=
  eBin Tryz.prog .gtr 3 false a0 (.int .i64 63) fun x2 => eIfV x2
  (K (.int .u64 18446744073709551615))
  (eBin Tryz.prog .shl 23 false (.int .u64 1) a0 fun x3 => eBin Tryz.prog .sub 23 false x3 (.int .u64 1) fun x4 => K x4)
noncomputable def words_Low_e (C : Cal) (N : Nat) (a0 : SV) (K : SV → ER) : ER :=
  eBin Tryz.prog .lss 3 false a0 (.int .i64 1) fun x1 => eIfV x1
  (K (.int .u64 0))
  (words_Low_p0 K a0)
theorem words_Low_ee (C : Cal) (N : Nat) (a0 : SV) (K : SV → ER) : eBody Tryz.prog C N Tryz.f200 (Tryz.f200.body.getD .skip) words_Low_ea [a0] K = words_Low_e C N a0 K := by kernel_rfl
noncomputable def l200 : LeafT := fun C N args K => match args with
  | [a0] => words_Low_e C N a0 K
  | _ => eF
theorem lok200 : LeafOk Tryz.prog 200 l200 := .inl ⟨Tryz.f200, Tryz.f200.body.getD .skip, words_Low_ea, Tryz.func200, by kernel_rfl, Tryz.call200, fun C N args K H e => by
  unfold l200 at e
  split at e
  · rw [words_Low_ee]; exact e
  · exact eF_no e⟩

/- halberd/num.orAll -/
def num_orAll_ea : Ann := .two (.none) (.two (.none) (.two (.none) (.none)))
noncomputable def num_orAll_e (C : Cal) (N : Nat) (a0 : SV) (K : SV → ER) : ER :=
  eBox Tryz.prog 62 a0 fun x1 => eAlloc Tryz.prog 62 fun x2 => eLoad Tryz.prog 62 x1 fun x3 => eCallR Tryz.prog C 155 [x3] 180 fun x4 => eExtract x4 0 fun x5 => eExtract x4 1 fun x6 => eAlloc Tryz.prog 62 fun x7 => eStore Tryz.prog 62 x7 x5 <| eLoad Tryz.prog 62 x7 fun x8 => eStore Tryz.prog 62 x2 x8 <| eLoad Tryz.prog 62 x2 fun x9 => K x9
theorem num_orAll_ee (C : Cal) (N : Nat) (a0 : SV) (K : SV → ER) : eBody Tryz.prog C N Tryz.f201 (Tryz.f201.body.getD .skip) num_orAll_ea [a0] K = num_orAll_e C N a0 K := by kernel_rfl
noncomputable def l201 : LeafT := fun C N args K => match args with
  | [a0] => num_orAll_e C N a0 K
  | _ => eF
theorem lok201 : LeafOk Tryz.prog 201 l201 := .inl ⟨Tryz.f201, Tryz.f201.body.getD .skip, num_orAll_ea, Tryz.func201, by kernel_rfl, Tryz.call201, fun C N args K H e => by
  unfold l201 at e
  split at e
  · rw [num_orAll_ee]; exact e
  · exact eF_no e⟩

/- (*halberd/num.known).round -/
def num_known_round_ea : Ann := .two (.none) (.two (.ord [0, 1, 2, 3, 4, 6, 7, 8, 9, 10, 5, 11, 12, 13]) (.two (.none) (.two (.none) (.two (.ord [0, 1, 2, 3, 4, 5, 6, 11, 12, 13, 14, 15, 16, 7, 8, 9, 10, 17, 18, 19, 20, 21]) (.join (.two (.ord [0, 1, 2, 3, 6, 7, 8, 9, 4, 5, 10, 11, 12]) (.two (.ord [0, 1, 2, 3, 4, 7, 8, 9, 10, 5, 6, 11, 12, 13]) (.none))) (.join (.two (.ord [0, 1, 2, 3, 6, 7, 8, 9, 4, 5, 10, 11, 12]) (.two (.ord [0, 1, 2, 3, 4, 7, 8, 9, 10, 5, 6, 11, 12, 13]) (.none))) (.two (.join (.ord [0, 1, 2, 3, 5, 6, 7, 8, 4, 9, 10, 11, 12, 13, 14, 15, 17, 18, 19, 20, 16, 21, 22, 23]) (.two (.two (.none) (.none)) (.none)) [(131, .any)]) (.two (.ord [0, 1, 2, 3, 5, 6, 7, 8, 10, 11, 12, 13, 4, 9, 14, 15, 16, 17, 18, 19, 20, 21, 22]) (.two (.none) (.two (.none) (.none))))) []) [])))))
noncomputable def num_known_round_p0 (C : Cal) (a0 : SV) (k36 : Unit → ER) : ER :=
  eNilCk a0 fun x49 => eFieldAddr Tryz.prog 278 x49 0 fun x50 => eFieldAddr Tryz.prog 62 x50 1 fun x51 => eNilCk a0 fun x52 => eFieldAddr Tryz.prog 278 x52 0 fun x53 => eFieldAddr Tryz.prog 62 x53 2 fun x54 => eLoad Tryz.prog 23 x51 fun x55 => eConvS Tryz.prog 23 2 x55 fun x56 => eLoad Tryz.prog 23 x54 fun x57 => eConvS Tryz.prog 23 2 x57 fun x58 => eCallR Tryz.prog C 246 [a0, x56, x58] 0 fun x59 => k36 (())
noncomputable def num_known_round_p1 (C : Cal) (a0 : SV) (k36 : Unit → ER) (x38 : SV) : ER :=
  eFieldAddr Tryz.prog 278 x38 0 fun x39 => eFieldAddr Tryz.prog 62 x39 1 fun x40 => eNilCk a0 fun x41 => eFieldAddr Tryz.prog 278 x41 0 fun x42 => eFieldAddr Tryz.prog 62 x42 2 fun x43 => eLoad Tryz.prog 23 x40 fun x44 => eBin Tryz.prog .and 23 false x44 (.int .u64 9223372036854775808) fun x45 => eLoad Tryz.prog 23 x43 fun x46 => eBin Tryz.prog .and 23 false x46 (.int .u64 9223372036854775808) fun x47 => eBin Tryz.prog .eql 23 false x45 x47 fun x48 => eIfV x48
  (num_known_round_p0 C a0 k36)
  (k36 (()))
noncomputable def num_known_round_p2 (C : Cal) (a0 : SV) (k60 : Unit → ER) : ER :=
  eNilCk a0 fun x73 => eFieldAddr Tryz.prog 278 x73 0 fun x74 => eFieldAddr Tryz.prog 62 x74 3 fun x75 => eNilCk a0 fun x76 => eFieldAddr Tryz.prog 278 x76 0 fun x77 => eFieldAddr Tryz.prog 62 x77 4 fun x78 => eLoad Tryz.prog 2 x75 fun x79 => eConvS Tryz.prog 2 23 x79 fun x80 => eLoad Tryz.prog 2 x78 fun x81 => eConvS Tryz.prog 2 23 x81 fun x82 => eCallR Tryz.prog C 245 [a0, x80, x82] 0 fun x83 => k60 (())
noncomputable def num_known_round_p3 (a0 : SV) (k84 : SV × Unit → ER) : ER :=
  eNilCk a0 fun x95 => eFieldAddr Tryz.prog 278 x95 0 fun x96 => eFieldAddr Tryz.prog 62 x96 3 fun x97 => eNilCk a0 fun x98 => eFieldAddr Tryz.prog 278 x98 0 fun x99 => eFieldAddr Tryz.prog 62 x99 4 fun x100 => eLoad Tryz.prog 2 x97 fun x101 => eLoad Tryz.prog 2 x100 fun x102 => eBin Tryz.prog .gtr 2 false x101 x102 fun x103 => eHas .any x103 (k84 (x103, ()))
noncomputable def num_known_round_p4 (C : Cal) (K : SV → ER) (a0 : SV) (x106 : SV) (x109 : SV) (x112 : SV) (x113 : SV) : ER :=
  eLoad Tryz.prog 23 x109 fun x114 => eLoad Tryz.prog 23 x112 fun x115 => eCallR Tryz.prog C 248 [x114, x115] 60 fun x116 => fun H => eLoadF Tryz.prog 60 x106 x113 H && (eCallR Tryz.prog C 247 [x113, x116] 290 fun x117 => eExtract x117 0 fun x118 => eExtract x117 1 fun x119 => eAlloc Tryz.prog 60 fun x120 => eStore Tryz.prog 60 x120 x118 <| eLoad Tryz.prog 60 x120 fun x121 => eNilCk a0 fun x122 => eFieldAddr Tryz.prog 278 x122 0 fun x123 => eFieldAddr Tryz.prog 62 x123 0 fun x124 => eStore Tryz.prog 60 x124 x121 <| K x119) H
noncomputable def num_known_round_p5 (C : Cal) (K : SV → ER) (a0 : SV) : ER :=
  eNilCk a0 fun x104 => eFieldAddr Tryz.prog 278 x104 0 fun x105 => eFieldAddr Tryz.prog 62 x105 0 fun x106 => eNilCk a0 fun x107 => eFieldAddr Tryz.prog 278 x107 0 fun x108 => eFieldAddr Tryz.prog 62 x108 1 fun x109 => eNilCk a0 fun x110 => eFieldAddr Tryz.prog 278 x110 0 fun x111 => eFieldAddr Tryz.prog 62 x111 2 fun x112 => eLoad Tryz.prog 60 x106 fun x113 => num_known_round_p4 C K a0 x106 x109 x112 x113
noncomputable def num_known_round_p6 (a0 : SV) (k84 : SV × Unit → ER) : ER :=
  eNilCk a0 fun x86 => eFieldAddr Tryz.prog 278 x86 0 fun x87 => eFieldAddr Tryz.prog 62 x87 1 fun x88 => eNilCk a0 fun x89 => eFieldAddr Tryz.prog 278 x89 0 fun x90 => eFieldAddr Tryz.prog 62 x90 2 fun x91 => eLoad Tryz.prog 23 x88 fun x92 => eLoad Tryz.prog 23 x91 fun x93 => eBin Tryz.prog .gtr 23 false x92 x93 fun x94 => eIfV x94
  (eHas .any (.bool true) (k84 ((.bool true), ())))
  (num_known_round_p3 a0 k84)
noncomputable def num_known_round_p7 (C : Cal) (a0 : SV) (k60 : Unit → ER) : ER :=
  eNilCk a0 fun x62 => eFieldAddr Tryz.prog 278 x62 0 fun x63 => eFieldAddr Tryz.prog 62 x63 3 fun x64 => eNilCk a0 fun x65 => eFieldAddr Tryz.prog 278 x65 0 fun x66 => eFieldAddr Tryz.prog 62 x66 4 fun x67 => eLoad Tryz.prog 2 x64 fun x68 => eBin Tryz.prog .lss 2 false x68 (.int .i64 0) fun x69 => eLoad Tryz.prog 2 x67 fun x70 => eBin Tryz.prog .lss 2 false x70 (.int .i64 0) fun x71 => eBin Tryz.prog .eql 4 false x69 x71 fun x72 => eIfV x72
  (num_known_round_p2 C a0 k60)
  (k60 (()))
noncomputable def num_known_round_p8 (C : Cal) (K : SV → ER) (a0 : SV) : ER :=
  eJoinC (σ := Unit) (fun (k60 : Unit → ER) =>
  num_known_round_p7 C a0 k60) fun (s61 : Unit) =>
  eJoinC (σ := SV × Unit) (fun (k84 : SV × Unit → ER) =>
  num_known_round_p6 a0 k84) fun (s85 : SV × Unit) =>
  eIfV s85.1
  (K (.bool false))
  (num_known_round_p5 C K a0)
noncomputable def num_known_round_p9 (C : Cal) (K : SV → ER) (a0 : SV) (x11 : SV) (x26 : SV) (x27 : SV) : ER :=
  eBin Tryz.prog .and 23 false x27 (.int .u64 9223372036854775808) fun x28 => eBin Tryz.prog .or 23 false x11 x28 fun x29 => eConvS Tryz.prog 23 2 x29 fun x30 => eLoad Tryz.prog 23 x26 fun x31 => eBin Tryz.prog .andNot 23 false x31 (.int .u64 9223372036854775808) fun x32 => eBin Tryz.prog .or 23 false x11 x32 fun x33 => eConvS Tryz.prog 23 2 x33 fun x34 => eCallR Tryz.prog C 246 [a0, x30, x34] 0 fun x35 => eJoinC (σ := Unit) (fun (k36 : Unit → ER) =>
  eNilCk a0 fun x38 => num_known_round_p1 C a0 k36 x38) fun (s37 : Unit) =>
  num_known_round_p8 C K a0
noncomputable def num_known_round_p10 (C : Cal) (K : SV → ER) (a0 : SV) (x11 : SV) (x14 : SV) : ER :=
  eFieldAddr Tryz.prog 60 x14 1 fun x15 => eLoad Tryz.prog 23 x15 fun x16 => eBin Tryz.prog .or 23 false x11 x16 fun x17 => eCallR Tryz.prog C 245 [a0, x11, x17] 0 fun x18 => eNilCk a0 fun x19 => eFieldAddr Tryz.prog 278 x19 0 fun x20 => eFieldAddr Tryz.prog 62 x20 0 fun x21 => eFieldAddr Tryz.prog 60 x21 1 fun x22 => eNilCk a0 fun x23 => eFieldAddr Tryz.prog 278 x23 0 fun x24 => eFieldAddr Tryz.prog 62 x24 0 fun x25 => eFieldAddr Tryz.prog 60 x25 1 fun x26 => eLoad Tryz.prog 23 x22 fun x27 => num_known_round_p9 C K a0 x11 x26 x27
noncomputable def num_known_round_p11 (C : Cal) (K : SV → ER) (a0 : SV) (x1 : SV) : ER :=
  eFieldAddr Tryz.prog 278 x1 0 fun x2 => eFieldAddr Tryz.prog 62 x2 0 fun x3 => eFieldAddr Tryz.prog 60 x3 0 fun x4 => eNilCk a0 fun x5 => eFieldAddr Tryz.prog 278 x5 0 fun x6 => eFieldAddr Tryz.prog 62 x6 0 fun x7 => eFieldAddr Tryz.prog 60 x7 1 fun x8 => eLoad Tryz.prog 23 x4 fun x9 => eLoad Tryz.prog 23 x8 fun x10 => eBin Tryz.prog .andNot 23 false x9 x10 fun x11 => eNilCk a0 fun x12 => eFieldAddr Tryz.prog 278 x12 0 fun x13 => eFieldAddr Tryz.prog 62 x13 0 fun x14 => num_known_round_p10 C K a0 x11 x14
noncomputable def num_known_round_e (C : Cal) (N : Nat) (a0 : SV) (K : SV → ER) : ER :=
  eNilCk a0 fun x1 => num_known_round_p11 C K a0 x1
theorem num_known_round_ee (C : Cal) (N : Nat) (a0 : SV) (K : SV → ER) : eBody Tryz.prog C N Tryz.f202 (Tryz.f202.body.getD .skip) num_known_round_ea [a0] K = num_known_round_e C N a0 K := by kernel_rfl
noncomputable def l202 : LeafT := fun C N args K => match args with
  | [a0] => num_known_round_e C N a0 K
  | _ => eF
theorem lok202 : LeafOk Tryz.prog 202 l202 := .inl ⟨Tryz.f202, Tryz.f202.body.getD .skip, num_known_round_ea, Tryz.func202, by kernel_rfl, Tryz.call202, fun C N args K H e => by
  unfold l202 at e
  split at e
  · rw [num_known_round_ee]; exact e
  · exact eF_no e⟩

/- slices.ContainsFunc[[]int,int] -/
def slices_ContainsFunc_int_int_ea : Ann := .two (.none) (.two (.none) (.none))
noncomputable def slices_ContainsFunc_int_int_e (C : Cal) (N : Nat) (a0 a1 : SV) (K : SV → ER) : ER :=
  eCallR Tryz.prog C 249 [a0, a1] 3 fun x1 => eBin Tryz.prog .geq 3 false x1 (.int .i64 0) fun x2 => K x2
theorem slices_ContainsFunc_int_int_ee (C : Cal) (N : Nat) (a0 a1 : SV) (K : SV → ER) : eBody Tryz.prog C N Tryz.f203 (Tryz.f203.body.getD .skip) slices_ContainsFunc_int_int_ea [a0, a1] K = slices_ContainsFunc_int_int_e C N a0 a1 K := by kernel_rfl
noncomputable def l203 : LeafT := fun C N args K => match args with
  | [a0, a1] => slices_ContainsFunc_int_int_e C N a0 a1 K
  | _ => eF
theorem lok203 : LeafOk Tryz.prog 203 l203 := .inl ⟨Tryz.f203, Tryz.f203.body.getD .skip, slices_ContainsFunc_int_int_ea, Tryz.func203, by kernel_rfl, Tryz.call203, fun C N args K H e => by
  unfold l203 at e
  split at e
  · rw [slices_ContainsFunc_int_int_ee]; exact e
  · exact eF_no e⟩

/- halberd/helpers.Suits$1 -/
def helpers_Suits_1_ea : Ann := .two (.none) (.two (.none) (.none))
noncomputable def helpers_Suits_1_e (C : Cal) (N : Nat) (a0 a1 : SV) (K : SV → ER) : ER :=
  eLoad Tryz.prog 3 a1 fun x1 => eBin Tryz.prog .eql 3 false a0 x1 fun x2 => K x2
theorem helpers_Suits_1_ee (C : Cal) (N : Nat) (a0 a1 : SV) (K : SV → ER) : eBody Tryz.prog C N Tryz.f204 (Tryz.f204.body.getD .skip) helpers_Suits_1_ea [a0, a1] K = helpers_Suits_1_e C N a0 a1 K := by kernel_rfl
noncomputable def l204 : LeafT := fun C N args K => match args with
  | [a0, a1] => helpers_Suits_1_e C N a0 a1 K
  | _ => eF
theorem lok204 : LeafOk Tryz.prog 204 l204 := .inl ⟨Tryz.f204, Tryz.f204.body.getD .skip, helpers_Suits_1_ea, Tryz.func204, by kernel_rfl, Tryz.call204, fun C N args K H e => by
  unfold l204 at e
  split at e
  · rw [helpers_Suits_1_ee]; exact e
  · exact eF_no e⟩

/- (*halberd/areg.call).fresh -/
def areg_call_fresh_ea : Ann := .two (.none) (.two (.none) (.two (.none) (.two (.none) (.none))))
noncomputable def areg_call_fresh_p0 (K : SV → ER) (x1 : SV) (x10 : SV) (x11 : SV) : ER :=
  eFieldAddr Tryz.prog 188 x11 0 fun x12 => eLoad Tryz.prog 160 x12 fun x13 => eNilCk x13 fun x14 => eFieldAddr Tryz.prog 166 x14 0 fun x15 => eFieldAddr Tryz.prog 71 x15 3 fun x16 => eLoad Tryz.prog 3 x16 fun x17 => eBin Tryz.prog .add 3 false x17 (.int .i64 1) fun x18 => eNilCk x13 fun x19 => eFieldAddr Tryz.prog 166 x19 0 fun x20 => eFieldAddr Tryz.prog 71 x20 3 fun x21 => eStore Tryz.prog 3 x21 x18 <| eLoad Tryz.prog 64 x10 fun x22 => eStore Tryz.prog 64 x1 x22 <| eLoad Tryz.prog 64 x1 fun x23 => K x23
noncomputable def areg_call_fresh_e (C : Cal) (N : Nat) (a0 a1 a2 : SV) (K : SV → ER) : ER :=
  eAlloc Tryz.prog 64 fun x1 => eNilCk a0 fun x2 => eFieldAddr Tryz.prog 188 x2 0 fun x3 => eLoad Tryz.prog 160 x3 fun x4 => eNilCk x4 fun x5 => eFieldAddr Tryz.prog 166 x5 0 fun x6 => eFieldAddr Tryz.prog 71 x6 3 fun x7 => eLoad Tryz.prog 3 x7 fun x8 => eBuild Tryz.prog 64 [(0, a1), (4, a2), (5, (.bool true)), (6, x8)] fun x9 => eAlloc Tryz.prog 64 fun x10 => eStore Tryz.prog 64 x10 x9 <| eNilCk a0 fun x11 => areg_call_fresh_p0 K x1 x10 x11
theorem areg_call_fresh_ee (C : Cal) (N : Nat) (a0 a1 a2 : SV) (K : SV → ER) : eBody Tryz.prog C N Tryz.f205 (Tryz.f205.body.getD .skip) areg_call_fresh_ea [a0, a1, a2] K = areg_call_fresh_e C N a0 a1 a2 K := by kernel_rfl
noncomputable def l205 : LeafT := fun C N args K => match args with
  | [a0, a1, a2] => areg_call_fresh_e C N a0 a1 a2 K
  | _ => eF
theorem lok205 : LeafOk Tryz.prog 205 l205 := .inl ⟨Tryz.f205, Tryz.f205.body.getD .skip, areg_call_fresh_ea, Tryz.func205, by kernel_rfl, Tryz.call205, fun C N args K H e => by
  unfold l205 at e
  split at e
  · rw [areg_call_fresh_ee]; exact e
  · exact eF_no e⟩

/- (*halberd/areg.call).end$1 -/
def areg_call_end_1_ea : Ann := .two (.none) (.two (.none) (.two (.none) (.none)))
noncomputable def areg_call_end_1_e (C : Cal) (N : Nat) (a0 a1 : SV) (K : SV → ER) : ER :=
  eBuild Tryz.prog 64 [] fun x1 => eNilCk a0 fun x2 => eStore Tryz.prog 64 x2 x1 <| eBin Tryz.prog .neq 224 true a1 (.ptr none) fun x3 => eIfV x3
  (eBuild Tryz.prog 66 [] fun x4 => eNilCk a1 fun x5 => eFieldAddr Tryz.prog 68 x5 1 fun x6 => eStore Tryz.prog 66 x6 x4 <| K (.tup []))
  (K (.tup []))
theorem areg_call_end_1_ee (C : Cal) (N : Nat) (a0 a1 : SV) (K : SV → ER) : eBody Tryz.prog C N Tryz.f206 (Tryz.f206.body.getD .skip) areg_call_end_1_ea [a0, a1] K = areg_call_end_1_e C N a0 a1 K := by kernel_rfl
noncomputable def l206 : LeafT := fun C N args K => match args with
  | [a0, a1] => areg_call_end_1_e C N a0 a1 K
  | _ => eF
theorem lok206 : LeafOk Tryz.prog 206 l206 := .inl ⟨Tryz.f206, Tryz.f206.body.getD .skip, areg_call_end_1_ea, Tryz.func206, by kernel_rfl, Tryz.call206, fun C N args K H e => by
  unfold l206 at e
  split at e
  · rw [areg_call_end_1_ee]; exact e
  · exact eF_no e⟩

end Go.Proofs.YtjafpcagfgklgaaGreatDoor

set_option linter.unusedVariables false
set_option maxRecDepth 100000
namespace Go.Proofs.YtjafpcagfgklgaaGreatDoor
open Go.Hl
/- (*halberd/areg.work).each$1 -/
def areg_work_each_1_ea : Ann := .two (.none) (.join (.none) (.none) [(3, .any)])
noncomputable def areg_work_each_1_p0 (a1 : SV) (k2 : SV × Unit → ER) (x1 : SV) : ER :=
  eFieldAddr Tryz.prog 64 x1 0 fun x7 => eLoad Tryz.prog 3 x7 fun x8 => eBin Tryz.prog .leq 3 false x8 (.int .i64 6) fun x9 => eIfV x9
  (eFieldAddr Tryz.prog 64 x1 6 fun x10 => eLoad Tryz.prog 3 x10 fun x11 => eLoad Tryz.prog 3 a1 fun x12 => eBin Tryz.prog .eql 3 false x11 x12 fun x13 => eHas .any x13 (k2 (x13, ())))
  (eHas .any (.bool false) (k2 ((.bool false), ())))
noncomputable def areg_work_each_1_p1 (a1 : SV) (k2 : SV × Unit → ER) (x1 : SV) : ER :=
  eFieldAddr Tryz.prog 64 x1 0 fun x4 => eLoad Tryz.prog 3 x4 fun x5 => eBin Tryz.prog .geq 3 false x5 (.int .i64 4) fun x6 => eIfV x6
  (areg_work_each_1_p0 a1 k2 x1)
  (eHas .any (.bool false) (k2 ((.bool false), ())))
noncomputable def areg_work_each_1_e (C : Cal) (N : Nat) (a0 a1 : SV) (K : SV → ER) : ER :=
  eBox Tryz.prog 64 a0 fun x1 => eJoinC (σ := SV × Unit) (fun (k2 : SV × Unit → ER) =>
  areg_work_each_1_p1 a1 k2 x1) fun (s3 : SV × Unit) =>
  K s3.1
theorem areg_work_each_1_ee (C : Cal) (N : Nat) (a0 a1 : SV) (K : SV → ER) : eBody Tryz.prog C N Tryz.f207 (Tryz.f207.body.getD .skip) areg_work_each_1_ea [a0, a1] K = areg_work_each_1_e C N a0 a1 K := by kernel_rfl
noncomputable def l207 : LeafT := fun C N args K => match args with
  | [a0, a1] => areg_work_each_1_e C N a0 a1 K
  | _ => eF
theorem lok207 : LeafOk Tryz.prog 207 l207 := .inl ⟨Tryz.f207, Tryz.f207.body.getD .skip, areg_work_each_1_ea, Tryz.func207, by kernel_rfl, Tryz.call207, fun C N args K H e => by
  unfold l207 at e
  split at e
  · rw [areg_work_each_1_ee]; exact e
  · exact eF_no e⟩

/- slices.DeleteFunc[[]int,int] -/
def slices_DeleteFunc_int_int_ea : Ann := .two (.none) (.two (.none) (.two (.two (.none) (.two (.two (.none) (.none)) (.none))) (.two (.two (.none) (.sub (.loop [(5, .any), (6, .any)] (.two (.two (.none) (.two (.none) (.none))) (.join (.sub (.two (.none) (.two (.none) (.two (.two (.none) (.none)) (.none))))) (.none) [(5, .any)]))))) (.two (.none) (.two (.none) (.none))))))
noncomputable def slices_DeleteFunc_int_int_p0 (C : Cal) (a0 : SV) (a1 : SV) (k8 : SV × Unit → ER) (s5 : SV × SV × Unit) : ER :=
  eIndexAddrS Tryz.prog 36 a0 s5.2.1 fun x10 => eLoad Tryz.prog 3 x10 fun x11 => eCallVR Tryz.prog C a1 [x11] 4 fun x12 => eUnS .not x12 fun x13 => eIfV x13
  (eIndexAddrS Tryz.prog 36 a0 s5.1 fun x14 => eStore Tryz.prog 3 x14 x11 <| eBin Tryz.prog .add 3 false s5.1 (.int .i64 1) fun x15 => eHas .any x15 (k8 (x15, ())))
  (eHas .any s5.1 (k8 (s5.1, ())))
noncomputable def slices_DeleteFunc_int_int_p1 (C : Cal) (a0 : SV) (a1 : SV) (k4 : SV × SV × Unit → ER) (s5 : SV × SV × Unit) : ER :=
  eJoinC (σ := SV × Unit) (fun (k8 : SV × Unit → ER) =>
  slices_DeleteFunc_int_int_p0 C a0 a1 k8 s5) fun (s9 : SV × Unit) =>
  eBin Tryz.prog .add 3 false s5.2.1 (.int .i64 1) fun x16 => eHas .any s9.1 (eHas .any x16 (k4 (s9.1, x16, ())))
noncomputable def slices_DeleteFunc_int_int_p2 (C : Cal) (K : SV → ER) (a0 : SV) (a1 : SV) (k4 : SV × SV × Unit → ER) (s5 : SV × SV × Unit) : ER :=
  eLenS Tryz.prog [36] [a0] fun x6 => eBin Tryz.prog .lss 3 false s5.2.1 x6 fun x7 => eIfV x7
  (slices_DeleteFunc_int_int_p1 C a0 a1 k4 s5)
  (eSliceS Tryz.prog 36 a0 (some (.v s5.1)) none none fun x17 => eClear Tryz.prog [36] [x17] fun x18 => eSliceS Tryz.prog 36 a0 none (some (.v s5.1)) none fun x19 => K x19)
noncomputable def slices_DeleteFunc_int_int_p3 (C : Cal) (K : SV → ER) (N : Nat) (a0 : SV) (a1 : SV) (x1 : SV) : ER :=
  eBin Tryz.prog .add 3 false x1 (.int .i64 1) fun x3 => eHas .any x1 (eHas .any x3 (eIter (σ := SV × SV × Unit) (fun (s5 : SV × SV × Unit) (k4 : SV × SV × Unit → ER) =>
  slices_DeleteFunc_int_int_p2 C K a0 a1 k4 s5) N (x1, x3, ())))
noncomputable def slices_DeleteFunc_int_int_e (C : Cal) (N : Nat) (a0 a1 : SV) (K : SV → ER) : ER :=
  eCallR Tryz.prog C 249 [a0, a1] 3 fun x1 => eBin Tryz.prog .eql 3 false x1 (.int .i64 (-1)) fun x2 => eIfV x2
  (K a0)
  (slices_DeleteFunc_int_int_p3 C K N a0 a1 x1)
theorem slices_DeleteFunc_int_int_ee (C : Cal) (N : Nat) (a0 a1 : SV) (K : SV → ER) : eBody Tryz.prog C N Tryz.f208 (Tryz.f208.body.getD .skip) slices_DeleteFunc_int_int_ea [a0, a1] K = slices_DeleteFunc_int_int_e C N a0 a1 K := by kernel_rfl
noncomputable def l208 : LeafT := fun C N args K => match args with
  | [a0, a1] => slices_DeleteFunc_int_int_e C N a0 a1 K
  | _ => eF
theorem lok208 : LeafOk Tryz.prog 208 l208 := .inl ⟨Tryz.f208, Tryz.f208.body.getD .skip, slices_DeleteFunc_int_int_ea, Tryz.func208, by kernel_rfl, Tryz.call208, fun C N args K H e => by
  unfold l208 at e
  split at e
  · rw [slices_DeleteFunc_int_int_ee]; exact e
  · exact eF_no e⟩

/- (*halberd/areg.work).drop$1 -/
def areg_work_drop_1_ea : Ann := .two (.none) (.two (.none) (.none))
noncomputable def areg_work_drop_1_e (C : Cal) (N : Nat) (a0 a1 : SV) (K : SV → ER) : ER :=
  eLoad Tryz.prog 3 a1 fun x1 => eBin Tryz.prog .eql 3 false a0 x1 fun x2 => K x2
theorem areg_work_drop_1_ee (C : Cal) (N : Nat) (a0 a1 : SV) (K : SV → ER) : eBody Tryz.prog C N Tryz.f209 (Tryz.f209.body.getD .skip) areg_work_drop_1_ea [a0, a1] K = areg_work_drop_1_e C N a0 a1 K := by kernel_rfl
noncomputable def l209 : LeafT := fun C N args K => match args with
  | [a0, a1] => areg_work_drop_1_e C N a0 a1 K
  | _ => eF
theorem lok209 : LeafOk Tryz.prog 209 l209 := .inl ⟨Tryz.f209, Tryz.f209.body.getD .skip, areg_work_drop_1_ea, Tryz.func209, by kernel_rfl, Tryz.call209, fun C N args K H e => by
  unfold l209 at e
  split at e
  · rw [areg_work_drop_1_ee]; exact e
  · exact eF_no e⟩

/- (*halberd/narrow.pair).above -/
def narrow_pair_above_ea : Ann := .two (.join (.none) (.two (.two (.none) (.none)) (.none)) [(15, .any)]) (.ord [0, 1, 2, 3, 4, 5, 7, 8, 9, 10, 14, 15, 16, 17, 19, 20, 21, 22, 6, 11, 12, 13, 18, 23, 24, 25, 26, 27, 28, 29, 30, 31, 32, 33])
noncomputable def narrow_pair_above_p0 (a0 : SV) (k1 : SV × Unit → ER) : ER :=
  eNilCk a0 fun x8 => eFieldAddr Tryz.prog 255 x8 0 fun x9 => eFieldAddr Tryz.prog 62 x9 2 fun x10 => eLoad Tryz.prog 23 x10 fun x11 => eBin Tryz.prog .eql 23 false x11 (.int .u64 0) fun x12 => eHas .any x12 (k1 (x12, ()))
noncomputable def narrow_pair_above_p1 (K : SV → ER) (a0 : SV) (x23 : SV) (x26 : SV) (x27 : SV) (x28 : SV) : ER :=
  eBin Tryz.prog .add 23 false x28 (.int .u64 1) fun x29 => eMinMaxS true [x27, x29] fun x30 => eLoad Tryz.prog 23 x23 fun x31 => eLoad Tryz.prog 23 x26 fun x32 => eBin Tryz.prog .sub 23 false x32 (.int .u64 1) fun x33 => eMinMaxS false [x31, x33] fun x34 => eNilCk a0 fun x35 => eFieldAddr Tryz.prog 255 x35 0 fun x36 => eFieldAddr Tryz.prog 62 x36 1 fun x37 => eStore Tryz.prog 23 x37 x30 <| eNilCk a0 fun x38 => eFieldAddr Tryz.prog 255 x38 1 fun x39 => eFieldAddr Tryz.prog 62 x39 2 fun x40 => eStore Tryz.prog 23 x40 x34 <| K (.tup [])
noncomputable def narrow_pair_above_p2 (K : SV → ER) (a0 : SV) (x15 : SV) : ER :=
  eFieldAddr Tryz.prog 255 x15 0 fun x16 => eFieldAddr Tryz.prog 62 x16 1 fun x17 => eNilCk a0 fun x18 => eFieldAddr Tryz.prog 255 x18 1 fun x19 => eFieldAddr Tryz.prog 62 x19 1 fun x20 => eNilCk a0 fun x21 => eFieldAddr Tryz.prog 255 x21 1 fun x22 => eFieldAddr Tryz.prog 62 x22 2 fun x23 => eNilCk a0 fun x24 => eFieldAddr Tryz.prog 255 x24 0 fun x25 => eFieldAddr Tryz.prog 62 x25 2 fun x26 => eLoad Tryz.prog 23 x17 fun x27 => eLoad Tryz.prog 23 x20 fun x28 => narrow_pair_above_p1 K a0 x23 x26 x27 x28
noncomputable def narrow_pair_above_p3 (a0 : SV) (k1 : SV × Unit → ER) : ER :=
  eNilCk a0 fun x3 => eFieldAddr Tryz.prog 255 x3 1 fun x4 => eFieldAddr Tryz.prog 62 x4 1 fun x5 => eLoad Tryz.prog 23 x5 fun x6 => eBin Tryz.prog .eql 23 false x6 (.int .u64 18446744073709551615) fun x7 => eIfV x7
  (eHas .any (.bool true) (k1 ((.bool true), ())))
  (narrow_pair_above_p0 a0 k1)
noncomputable def narrow_pair_above_e (C : Cal) (N : Nat) (a0 : SV) (K : SV → ER) : ER :=
  eJoinC (σ := SV × Unit) (fun (k1 : SV × Unit → ER) =>
  narrow_pair_above_p3 a0 k1) fun (s2 : SV × Unit) =>
  eIfV s2.1
  (eNilCk a0 fun x13 => eFieldAddr Tryz.prog 255 x13 2 fun x14 => eStore Tryz.prog 4 x14 (.bool true) <| K (.tup []))
  (eNilCk a0 fun x15 => narrow_pair_above_p2 K a0 x15)
theorem narrow_pair_above_ee (C : Cal) (N : Nat) (a0 : SV) (K : SV → ER) : eBody Tryz.prog C N Tryz.f210 (Tryz.f210.body.getD .skip) narrow_pair_above_ea [a0] K = narrow_pair_above_e C N a0 K := by kernel_rfl
noncomputable def l210 : LeafT := fun C N args K => match args with
  | [a0] => narrow_pair_above_e C N a0 K
  | _ => eF
theorem lok210 : LeafOk Tryz.prog 210 l210 := .inl ⟨Tryz.f210, Tryz.f210.body.getD .skip, narrow_pair_above_ea, Tryz.func210, by kernel_rfl, Tryz.call210, fun C N args K H e => by
  unfold l210 at e
  split at e
  · rw [narrow_pair_above_ee]; exact e
  · exact eF_no e⟩

/- (*halberd/narrow.pair).notBelow -/
def narrow_pair_notBelow_ea : Ann := .ord [0, 1, 2, 3, 4, 5, 7, 8, 9, 10, 13, 14, 15, 16, 18, 19, 20, 21, 6, 11, 12, 17, 22, 23, 24, 25, 26, 27, 28, 29, 30, 31]
noncomputable def narrow_pair_notBelow_p0 (K : SV → ER) (a0 : SV) (x3 : SV) (x6 : SV) (x9 : SV) (x11 : SV) : ER :=
  eFieldAddr Tryz.prog 62 x11 2 fun x12 => eLoad Tryz.prog 23 x3 fun x13 => eLoad Tryz.prog 23 x6 fun x14 => eMinMaxS true [x13, x14] fun x15 => eLoad Tryz.prog 23 x9 fun x16 => eLoad Tryz.prog 23 x12 fun x17 => eMinMaxS false [x16, x17] fun x18 => eNilCk a0 fun x19 => eFieldAddr Tryz.prog 255 x19 0 fun x20 => eFieldAddr Tryz.prog 62 x20 1 fun x21 => eStore Tryz.prog 23 x21 x15 <| eNilCk a0 fun x22 => eFieldAddr Tryz.prog 255 x22 1 fun x23 => eFieldAddr Tryz.prog 62 x23 2 fun x24 => eStore Tryz.prog 23 x24 x18 <| K (.tup [])
noncomputable def narrow_pair_notBelow_e (C : Cal) (N : Nat) (a0 : SV) (K : SV → ER) : ER :=
  eNilCk a0 fun x1 => eFieldAddr Tryz.prog 255 x1 0 fun x2 => eFieldAddr Tryz.prog 62 x2 1 fun x3 => eNilCk a0 fun x4 => eFieldAddr Tryz.prog 255 x4 1 fun x5 => eFieldAddr Tryz.prog 62 x5 1 fun x6 => eNilCk a0 fun x7 => eFieldAddr Tryz.prog 255 x7 1 fun x8 => eFieldAddr Tryz.prog 62 x8 2 fun x9 => eNilCk a0 fun x10 => eFieldAddr Tryz.prog 255 x10 0 fun x11 => narrow_pair_notBelow_p0 K a0 x3 x6 x9 x11
theorem narrow_pair_notBelow_ee (C : Cal) (N : Nat) (a0 : SV) (K : SV → ER) : eBody Tryz.prog C N Tryz.f211 (Tryz.f211.body.getD .skip) narrow_pair_notBelow_ea [a0] K = narrow_pair_notBelow_e C N a0 K := by kernel_rfl
noncomputable def l211 : LeafT := fun C N args K => match args with
  | [a0] => narrow_pair_notBelow_e C N a0 K
  | _ => eF
theorem lok211 : LeafOk Tryz.prog 211 l211 := .inl ⟨Tryz.f211, Tryz.f211.body.getD .skip, narrow_pair_notBelow_ea, Tryz.func211, by kernel_rfl, Tryz.call211, fun C N args K H e => by
  unfold l211 at e
  split at e
  · rw [narrow_pair_notBelow_ee]; exact e
  · exact eF_no e⟩

/- (*halberd/narrow.pair).aboveSigned -/
def narrow_pair_aboveSigned_ea : Ann := .two (.join (.none) (.two (.two (.none) (.none)) (.none)) [(15, .any)]) (.ord [0, 1, 2, 3, 4, 5, 7, 8, 9, 10, 14, 15, 16, 17, 19, 20, 21, 22, 6, 11, 12, 13, 18, 23, 24, 25, 26, 27, 28, 29, 30, 31, 32, 33])
noncomputable def narrow_pair_aboveSigned_p0 (a0 : SV) (k1 : SV × Unit → ER) : ER :=
  eNilCk a0 fun x8 => eFieldAddr Tryz.prog 255 x8 0 fun x9 => eFieldAddr Tryz.prog 62 x9 4 fun x10 => eLoad Tryz.prog 2 x10 fun x11 => eBin Tryz.prog .eql 2 false x11 (.int .i64 (-9223372036854775808)) fun x12 => eHas .any x12 (k1 (x12, ()))
noncomputable def narrow_pair_aboveSigned_p1 (K : SV → ER) (a0 : SV) (x23 : SV) (x26 : SV) (x27 : SV) (x28 : SV) : ER :=
  eBin Tryz.prog .add 2 false x28 (.int .i64 1) fun x29 => eMinMaxS true [x27, x29] fun x30 => eLoad Tryz.prog 2 x23 fun x31 => eLoad Tryz.prog 2 x26 fun x32 => eBin Tryz.prog .sub 2 false x32 (.int .i64 1) fun x33 => eMinMaxS false [x31, x33] fun x34 => eNilCk a0 fun x35 => eFieldAddr Tryz.prog 255 x35 0 fun x36 => eFieldAddr Tryz.prog 62 x36 3 fun x37 => eStore Tryz.prog 2 x37 x30 <| eNilCk a0 fun x38 => eFieldAddr Tryz.prog 255 x38 1 fun x39 => eFieldAddr Tryz.prog 62 x39 4 fun x40 => eStore Tryz.prog 2 x40 x34 <| K (.tup [])
noncomputable def narrow_pair_aboveSigned_p2 (K : SV → ER) (a0 : SV) (x15 : SV) : ER :=
  eFieldAddr Tryz.prog 255 x15 0 fun x16 => eFieldAddr Tryz.prog 62 x16 3 fun x17 => eNilCk a0 fun x18 => eFieldAddr Tryz.prog 255 x18 1 fun x19 => eFieldAddr Tryz.prog 62 x19 3 fun x20 => eNilCk a0 fun x21 => eFieldAddr Tryz.prog 255 x21 1 fun x22 => eFieldAddr Tryz.prog 62 x22 4 fun x23 => eNilCk a0 fun x24 => eFieldAddr Tryz.prog 255 x24 0 fun x25 => eFieldAddr Tryz.prog 62 x25 4 fun x26 => eLoad Tryz.prog 2 x17 fun x27 => eLoad Tryz.prog 2 x20 fun x28 => narrow_pair_aboveSigned_p1 K a0 x23 x26 x27 x28
noncomputable def narrow_pair_aboveSigned_p3 (a0 : SV) (k1 : SV × Unit → ER) : ER :=
  eNilCk a0 fun x3 => eFieldAddr Tryz.prog 255 x3 1 fun x4 => eFieldAddr Tryz.prog 62 x4 3 fun x5 => eLoad Tryz.prog 2 x5 fun x6 => eBin Tryz.prog .eql 2 false x6 (.int .i64 9223372036854775807) fun x7 => eIfV x7
  (eHas .any (.bool true) (k1 ((.bool true), ())))
  (narrow_pair_aboveSigned_p0 a0 k1)
noncomputable def narrow_pair_aboveSigned_e (C : Cal) (N : Nat) (a0 : SV) (K : SV → ER) : ER :=
  eJoinC (σ := SV × Unit) (fun (k1 : SV × Unit → ER) =>
  narrow_pair_aboveSigned_p3 a0 k1) fun (s2 : SV × Unit) =>
  eIfV s2.1
  (eNilCk a0 fun x13 => eFieldAddr Tryz.prog 255 x13 2 fun x14 => eStore Tryz.prog 4 x14 (.bool true) <| K (.tup []))
  (eNilCk a0 fun x15 => narrow_pair_aboveSigned_p2 K a0 x15)
theorem narrow_pair_aboveSigned_ee (C : Cal) (N : Nat) (a0 : SV) (K : SV → ER) : eBody Tryz.prog C N Tryz.f212 (Tryz.f212.body.getD .skip) narrow_pair_aboveSigned_ea [a0] K = narrow_pair_aboveSigned_e C N a0 K := by kernel_rfl
noncomputable def l212 : LeafT := fun C N args K => match args with
  | [a0] => narrow_pair_aboveSigned_e C N a0 K
  | _ => eF
theorem lok212 : LeafOk Tryz.prog 212 l212 := .inl ⟨Tryz.f212, Tryz.f212.body.getD .skip, narrow_pair_aboveSigned_ea, Tryz.func212, by kernel_rfl, Tryz.call212, fun C N args K H e => by
  unfold l212 at e
  split at e
  · rw [narrow_pair_aboveSigned_ee]; exact e
  · exact eF_no e⟩

/- (*halberd/narrow.pair).notBelowSigned -/
def narrow_pair_notBelowSigned_ea : Ann := .ord [0, 1, 2, 3, 4, 5, 7, 8, 9, 10, 13, 14, 15, 16, 18, 19, 20, 21, 6, 11, 12, 17, 22, 23, 24, 25, 26, 27, 28, 29, 30, 31]
noncomputable def narrow_pair_notBelowSigned_p0 (K : SV → ER) (a0 : SV) (x3 : SV) (x6 : SV) (x9 : SV) (x11 : SV) : ER :=
  eFieldAddr Tryz.prog 62 x11 4 fun x12 => eLoad Tryz.prog 2 x3 fun x13 => eLoad Tryz.prog 2 x6 fun x14 => eMinMaxS true [x13, x14] fun x15 => eLoad Tryz.prog 2 x9 fun x16 => eLoad Tryz.prog 2 x12 fun x17 => eMinMaxS false [x16, x17] fun x18 => eNilCk a0 fun x19 => eFieldAddr Tryz.prog 255 x19 0 fun x20 => eFieldAddr Tryz.prog 62 x20 3 fun x21 => eStore Tryz.prog 2 x21 x15 <| eNilCk a0 fun x22 => eFieldAddr Tryz.prog 255 x22 1 fun x23 => eFieldAddr Tryz.prog 62 x23 4 fun x24 => eStore Tryz.prog 2 x24 x18 <| K (.tup [])
noncomputable def narrow_pair_notBelowSigned_e (C : Cal) (N : Nat) (a0 : SV) (K : SV → ER) : ER :=
  eNilCk a0 fun x1 => eFieldAddr Tryz.prog 255 x1 0 fun x2 => eFieldAddr Tryz.prog 62 x2 3 fun x3 => eNilCk a0 fun x4 => eFieldAddr Tryz.prog 255 x4 1 fun x5 => eFieldAddr Tryz.prog 62 x5 3 fun x6 => eNilCk a0 fun x7 => eFieldAddr Tryz.prog 255 x7 1 fun x8 => eFieldAddr Tryz.prog 62 x8 4 fun x9 => eNilCk a0 fun x10 => eFieldAddr Tryz.prog 255 x10 0 fun x11 => narrow_pair_notBelowSigned_p0 K a0 x3 x6 x9 x11
theorem narrow_pair_notBelowSigned_ee (C : Cal) (N : Nat) (a0 : SV) (K : SV → ER) : eBody Tryz.prog C N Tryz.f213 (Tryz.f213.body.getD .skip) narrow_pair_notBelowSigned_ea [a0] K = narrow_pair_notBelowSigned_e C N a0 K := by kernel_rfl
noncomputable def l213 : LeafT := fun C N args K => match args with
  | [a0] => narrow_pair_notBelowSigned_e C N a0 K
  | _ => eF
theorem lok213 : LeafOk Tryz.prog 213 l213 := .inl ⟨Tryz.f213, Tryz.f213.body.getD .skip, narrow_pair_notBelowSigned_ea, Tryz.func213, by kernel_rfl, Tryz.call213, fun C N args K H e => by
  unfold l213 at e
  split at e
  · rw [narrow_pair_notBelowSigned_ee]; exact e
  · exact eF_no e⟩

/- (*halberd/narrow.pair).same -/
def narrow_pair_same_ea : Ann := .two (.ord [0, 1, 2, 4, 5, 6, 3, 7, 8, 9, 10, 11, 12, 13, 14]) (.ord [0, 1, 2, 5, 6, 3, 7, 8, 4, 9, 10, 11, 12, 13, 14, 15])
noncomputable def narrow_pair_same_p0 (K : SV → ER) (a0 : SV) (x7 : SV) (x8 : SV) : ER :=
  eExtract x7 1 fun x9 => eAlloc Tryz.prog 62 fun x10 => eStore Tryz.prog 62 x10 x8 <| eUnS .not x9 fun x11 => eLoad Tryz.prog 62 x10 fun x12 => eNilCk a0 fun x13 => eFieldAddr Tryz.prog 255 x13 0 fun x14 => eLoad Tryz.prog 62 x10 fun x15 => eStore Tryz.prog 62 x14 x12 <| fun H => eLoadF Tryz.prog 62 x10 x15 H && (eNilCk a0 fun x16 => eFieldAddr Tryz.prog 255 x16 1 fun x17 => eStore Tryz.prog 62 x17 x15 <| eNilCk a0 fun x18 => eFieldAddr Tryz.prog 255 x18 2 fun x19 => eStore Tryz.prog 4 x19 x11 <| K (.tup [])) H
noncomputable def narrow_pair_same_e (C : Cal) (N : Nat) (a0 : SV) (K : SV → ER) : ER :=
  eNilCk a0 fun x1 => eFieldAddr Tryz.prog 255 x1 0 fun x2 => eNilCk a0 fun x3 => eFieldAddr Tryz.prog 255 x3 1 fun x4 => eLoad Tryz.prog 62 x2 fun x5 => eLoad Tryz.prog 62 x4 fun x6 => eCallR Tryz.prog C 250 [x5, x6] 180 fun x7 => eExtract x7 0 fun x8 => narrow_pair_same_p0 K a0 x7 x8
theorem narrow_pair_same_ee (C : Cal) (N : Nat) (a0 : SV) (K : SV → ER) : eBody Tryz.prog C N Tryz.f214 (Tryz.f214.body.getD .skip) narrow_pair_same_ea [a0] K = narrow_pair_same_e C N a0 K := by kernel_rfl
noncomputable def l214 : LeafT := fun C N args K => match args with
  | [a0] => narrow_pair_same_e C N a0 K
  | _ => eF
theorem lok214 : LeafOk Tryz.prog 214 l214 := .inl ⟨Tryz.f214, Tryz.f214.body.getD .skip, narrow_pair_same_ea, Tryz.func214, by kernel_rfl, Tryz.call214, fun C N args K H e => by
  unfold l214 at e
  split at e
  · rw [narrow_pair_same_ee]; exact e
  · exact eF_no e⟩

end Go.Proofs.YtjafpcagfgklgaaGreatDoor

set_option linter.unusedVariables false
set_option maxRecDepth 100000
namespace Go.Proofs.YtjafpcagfgklgaaGreatDoor
open Go.Hl
/- (*halberd/narrow.pair).unlike -/
def narrow_pair_unlike_ea : Ann := .two (.none) (.two (.none) (.two (.ord [0, 1, 2, 4, 5, 6, 3, 7, 8, 9, 10, 11, 12, 13]) (.join (.two (.none) (.two (.none) (.none))) (.join (.two (.none) (.two (.none) (.none))) (.ord [0, 1, 2, 5, 6, 7, 8, 9, 10, 3, 11, 12, 4, 13, 14, 15, 16, 17, 18, 19]) [(9, .any)]) [(8, .any)])))
noncomputable def narrow_pair_unlike_p0 (C : Cal) (a0 : SV) (k21 : SV × Unit → ER) (x11 : SV) (x19 : SV) : ER :=
  eNilCk a0 fun x23 => eFieldAddr Tryz.prog 255 x23 0 fun x24 => eLoad Tryz.prog 62 x24 fun x25 => eCallR Tryz.prog C 251 [x25, x11] 180 fun x26 => eExtract x26 0 fun x27 => eExtract x26 1 fun x28 => eStore Tryz.prog 62 x19 x27 <| eHas .any x28 (k21 (x28, ()))
noncomputable def narrow_pair_unlike_p1 (C : Cal) (a0 : SV) (x5 : SV) (k29 : SV × Unit → ER) (x20 : SV) : ER :=
  eNilCk a0 fun x31 => eFieldAddr Tryz.prog 255 x31 1 fun x32 => eLoad Tryz.prog 62 x32 fun x33 => eCallR Tryz.prog C 251 [x33, x5] 180 fun x34 => eExtract x34 0 fun x35 => eExtract x34 1 fun x36 => eStore Tryz.prog 62 x20 x35 <| eHas .any x36 (k29 (x36, ()))
noncomputable def narrow_pair_unlike_p2 (K : SV → ER) (a0 : SV) (x19 : SV) (x20 : SV) : ER :=
  eLoad Tryz.prog 62 x19 fun x38 => eNilCk a0 fun x39 => eFieldAddr Tryz.prog 255 x39 0 fun x40 => eLoad Tryz.prog 62 x20 fun x41 => eStore Tryz.prog 62 x40 x38 <| fun H => eLoadF Tryz.prog 62 x20 x41 H && (eNilCk a0 fun x42 => eFieldAddr Tryz.prog 255 x42 1 fun x43 => eStore Tryz.prog 62 x43 x41 <| eNilCk a0 fun x44 => eFieldAddr Tryz.prog 255 x44 2 fun x45 => eStore Tryz.prog 4 x45 (.bool true) <| K (.tup [])) H
noncomputable def narrow_pair_unlike_p3 (K : SV → ER) (a0 : SV) (s30 : SV × Unit) (x19 : SV) (x20 : SV) : ER :=
  eUnS .not s30.1 fun x46 => eLoad Tryz.prog 62 x19 fun x47 => eNilCk a0 fun x48 => eFieldAddr Tryz.prog 255 x48 0 fun x49 => eLoad Tryz.prog 62 x20 fun x50 => eStore Tryz.prog 62 x49 x47 <| fun H => eLoadF Tryz.prog 62 x20 x50 H && (eNilCk a0 fun x51 => eFieldAddr Tryz.prog 255 x51 1 fun x52 => eStore Tryz.prog 62 x52 x50 <| eNilCk a0 fun x53 => eFieldAddr Tryz.prog 255 x53 2 fun x54 => eStore Tryz.prog 4 x54 x46 <| K (.tup [])) H
noncomputable def narrow_pair_unlike_p4 (C : Cal) (K : SV → ER) (a0 : SV) (x5 : SV) (x6 : SV) (s22 : SV × Unit) (x19 : SV) (x20 : SV) : ER :=
  eJoinC (σ := SV × Unit) (fun (k29 : SV × Unit → ER) =>
  eIfV x6
  (narrow_pair_unlike_p1 C a0 x5 k29 x20)
  (eHas .any (.bool true) (k29 ((.bool true), ())))) fun (s30 : SV × Unit) =>
  eUnS .not s22.1 fun x37 => eIfV x37
  (narrow_pair_unlike_p2 K a0 x19 x20)
  (narrow_pair_unlike_p3 K a0 s30 x19 x20)
noncomputable def narrow_pair_unlike_p5 (C : Cal) (K : SV → ER) (a0 : SV) (x5 : SV) (x6 : SV) (x11 : SV) (x12 : SV) (x14 : SV) (x15 : SV) : ER :=
  eFieldAddr Tryz.prog 255 x15 1 fun x16 => eLoad Tryz.prog 62 x14 fun x17 => eLoad Tryz.prog 62 x16 fun x18 => eAlloc Tryz.prog 62 fun x19 => eAlloc Tryz.prog 62 fun x20 => eStore Tryz.prog 62 x19 x17 <| fun H => eLoadF Tryz.prog 62 x16 x18 H && (eStore Tryz.prog 62 x20 x18 <| eJoinC (σ := SV × Unit) (fun (k21 : SV × Unit → ER) =>
  eIfV x12
  (narrow_pair_unlike_p0 C a0 k21 x11 x19)
  (eHas .any (.bool true) (k21 ((.bool true), ())))) fun (s22 : SV × Unit) =>
  narrow_pair_unlike_p4 C K a0 x5 x6 s22 x19 x20) H
noncomputable def narrow_pair_unlike_e (C : Cal) (N : Nat) (a0 : SV) (K : SV → ER) : ER :=
  eNilCk a0 fun x1 => eFieldAddr Tryz.prog 255 x1 0 fun x2 => eLoad Tryz.prog 62 x2 fun x3 => eCallR Tryz.prog C 151 [x3] 225 fun x4 => eExtract x4 0 fun x5 => eExtract x4 1 fun x6 => eNilCk a0 fun x7 => eFieldAddr Tryz.prog 255 x7 1 fun x8 => eLoad Tryz.prog 62 x8 fun x9 => eCallR Tryz.prog C 151 [x9] 225 fun x10 => eExtract x10 0 fun x11 => eExtract x10 1 fun x12 => eNilCk a0 fun x13 => eFieldAddr Tryz.prog 255 x13 0 fun x14 => eNilCk a0 fun x15 => narrow_pair_unlike_p5 C K a0 x5 x6 x11 x12 x14 x15
theorem narrow_pair_unlike_ee (C : Cal) (N : Nat) (a0 : SV) (K : SV → ER) : eBody Tryz.prog C N Tryz.f215 (Tryz.f215.body.getD .skip) narrow_pair_unlike_ea [a0] K = narrow_pair_unlike_e C N a0 K := by kernel_rfl
noncomputable def l215 : LeafT := fun C N args K => match args with
  | [a0] => narrow_pair_unlike_e C N a0 K
  | _ => eF
theorem lok215 : LeafOk Tryz.prog 215 l215 := .inl ⟨Tryz.f215, Tryz.f215.body.getD .skip, narrow_pair_unlike_ea, Tryz.func215, by kernel_rfl, Tryz.call215, fun C N args K H e => by
  unfold l215 at e
  split at e
  · rw [narrow_pair_unlike_ee]; exact e
  · exact eF_no e⟩

/- halberd/narrow.turned -/
def narrow_turned_ea : Ann := .two (.none) (.two (.none) (.none))
noncomputable def narrow_turned_e (C : Cal) (N : Nat) (a0 : SV) (K : SV → ER) : ER :=
  eBox Tryz.prog 247 a0 fun x1 => K (.fn 252 [] [x1])
theorem narrow_turned_ee (C : Cal) (N : Nat) (a0 : SV) (K : SV → ER) : eBody Tryz.prog C N Tryz.f216 (Tryz.f216.body.getD .skip) narrow_turned_ea [a0] K = narrow_turned_e C N a0 K := by kernel_rfl
noncomputable def l216 : LeafT := fun C N args K => match args with
  | [a0] => narrow_turned_e C N a0 K
  | _ => eF
theorem lok216 : LeafOk Tryz.prog 216 l216 := .inl ⟨Tryz.f216, Tryz.f216.body.getD .skip, narrow_turned_ea, Tryz.func216, by kernel_rfl, Tryz.call216, fun C N args K H e => by
  unfold l216 at e
  split at e
  · rw [narrow_turned_ee]; exact e
  · exact eF_no e⟩

/- (*halberd/narrow.pair).common -/
def narrow_pair_common_ea : Ann := .two (.none) (.join (.none) (.two (.none) (.none)) [(17, .any)])
noncomputable def narrow_pair_common_p0 (C : Cal) (K : SV → ER) (a0 : SV) (x3 : SV) : ER :=
  eCallR Tryz.prog C 151 [x3] 225 fun x4 => eExtract x4 0 fun x5 => eExtract x4 1 fun x6 => eJoinC (σ := SV × Unit) (fun (k7 : SV × Unit → ER) =>
  eIfV x6
  (eCallR Tryz.prog C 253 [x5] 3 fun x9 => eBin Tryz.prog .eql 3 false x9 (.int .i64 1) fun x10 => eHas .any x10 (k7 (x10, ())))
  (eHas .any (.bool false) (k7 ((.bool false), ())))) fun (s8 : SV × Unit) =>
  eIfV s8.1
  (eUnS .xor x5 fun x11 => eBuild Tryz.prog 60 [(0, x5), (1, x11)] fun x12 => eCallR Tryz.prog C 254 [a0, x12] 0 fun x13 => K (.tup []))
  (K (.tup []))
noncomputable def narrow_pair_common_e (C : Cal) (N : Nat) (a0 : SV) (K : SV → ER) : ER :=
  eNilCk a0 fun x1 => eFieldAddr Tryz.prog 255 x1 1 fun x2 => eLoad Tryz.prog 62 x2 fun x3 => narrow_pair_common_p0 C K a0 x3
theorem narrow_pair_common_ee (C : Cal) (N : Nat) (a0 : SV) (K : SV → ER) : eBody Tryz.prog C N Tryz.f217 (Tryz.f217.body.getD .skip) narrow_pair_common_ea [a0] K = narrow_pair_common_e C N a0 K := by kernel_rfl
noncomputable def l217 : LeafT := fun C N args K => match args with
  | [a0] => narrow_pair_common_e C N a0 K
  | _ => eF
theorem lok217 : LeafOk Tryz.prog 217 l217 := .inl ⟨Tryz.f217, Tryz.f217.body.getD .skip, narrow_pair_common_ea, Tryz.func217, by kernel_rfl, Tryz.call217, fun C N args K H e => by
  unfold l217 at e
  split at e
  · rw [narrow_pair_common_ee]; exact e
  · exact eF_no e⟩

/- (*halberd/narrow.pair).apart -/
def narrow_pair_apart_ea : Ann := .two (.none) (.two (.none) (.two (.none) (.none)))
noncomputable def narrow_pair_apart_e (C : Cal) (N : Nat) (a0 : SV) (K : SV → ER) : ER :=
  eNilCk a0 fun x1 => eFieldAddr Tryz.prog 255 x1 1 fun x2 => eLoad Tryz.prog 62 x2 fun x3 => eCallR Tryz.prog C 151 [x3] 225 fun x4 => eExtract x4 0 fun x5 => eExtract x4 1 fun x6 => eIfV x6
  (eUnS .xor x5 fun x7 => eBuild Tryz.prog 60 [(1, x7)] fun x8 => eCallR Tryz.prog C 254 [a0, x8] 0 fun x9 => K (.tup []))
  (K (.tup []))
theorem narrow_pair_apart_ee (C : Cal) (N : Nat) (a0 : SV) (K : SV → ER) : eBody Tryz.prog C N Tryz.f218 (Tryz.f218.body.getD .skip) narrow_pair_apart_ea [a0] K = narrow_pair_apart_e C N a0 K := by kernel_rfl
noncomputable def l218 : LeafT := fun C N args K => match args with
  | [a0] => narrow_pair_apart_e C N a0 K
  | _ => eF
theorem lok218 : LeafOk Tryz.prog 218 l218 := .inl ⟨Tryz.f218, Tryz.f218.body.getD .skip, narrow_pair_apart_ea, Tryz.func218, by kernel_rfl, Tryz.call218, fun C N args K H e => by
  unfold l218 at e
  split at e
  · rw [narrow_pair_apart_ee]; exact e
  · exact eF_no e⟩

/- halberd/tnum.Add -/
def tnum_Add_ea : Ann := .two (.none) (.two (.ord [0, 2, 1, 3, 4, 5]) (.two (.none) (.two (.none) (.two (.none) (.none)))))
noncomputable def tnum_Add_p0 (C : Cal) (K : SV → ER) (x1 : SV) (x2 : SV) (x3 : SV) (x12 : SV) (x15 : SV) (x17 : SV) : ER :=
  eBin Tryz.prog .add 23 false x15 x17 fun x18 => eBin Tryz.prog .xor 23 false x12 x18 fun x19 => eFieldAddr Tryz.prog 60 x1 1 fun x20 => eLoad Tryz.prog 23 x20 fun x21 => eBin Tryz.prog .or 23 false x19 x21 fun x22 => eFieldAddr Tryz.prog 60 x2 1 fun x23 => eLoad Tryz.prog 23 x23 fun x24 => eBin Tryz.prog .or 23 false x22 x24 fun x25 => eBuild Tryz.prog 60 [(0, x12), (1, x25)] fun x26 => eCallR Tryz.prog C 244 [x26] 60 fun x27 => eStore Tryz.prog 60 x3 x27 <| eLoad Tryz.prog 60 x3 fun x28 => K x28
noncomputable def tnum_Add_p1 (C : Cal) (K : SV → ER) (x1 : SV) (x2 : SV) (x3 : SV) (x5 : SV) (x6 : SV) : ER :=
  fun H => eLoadF Tryz.prog 60 x2 x5 H && (eCallR Tryz.prog C 244 [x5] 60 fun x7 => eStore Tryz.prog 60 x1 x6 <| eStore Tryz.prog 60 x2 x7 <| eFieldAddr Tryz.prog 60 x1 0 fun x8 => eLoad Tryz.prog 23 x8 fun x9 => eFieldAddr Tryz.prog 60 x2 0 fun x10 => eLoad Tryz.prog 23 x10 fun x11 => eBin Tryz.prog .add 23 false x9 x11 fun x12 => eFieldAddr Tryz.prog 60 x1 1 fun x13 => eLoad Tryz.prog 23 x13 fun x14 => eBin Tryz.prog .add 23 false x12 x14 fun x15 => eFieldAddr Tryz.prog 60 x2 1 fun x16 => eLoad Tryz.prog 23 x16 fun x17 => tnum_Add_p0 C K x1 x2 x3 x12 x15 x17) H
noncomputable def tnum_Add_e (C : Cal) (N : Nat) (a0 a1 : SV) (K : SV → ER) : ER :=
  eBox Tryz.prog 60 a0 fun x1 => eBox Tryz.prog 60 a1 fun x2 => eAlloc Tryz.prog 60 fun x3 => eLoad Tryz.prog 60 x1 fun x4 => eLoad Tryz.prog 60 x2 fun x5 => eCallR Tryz.prog C 244 [x4] 60 fun x6 => tnum_Add_p1 C K x1 x2 x3 x5 x6
theorem tnum_Add_ee (C : Cal) (N : Nat) (a0 a1 : SV) (K : SV → ER) : eBody Tryz.prog C N Tryz.f221 (Tryz.f221.body.getD .skip) tnum_Add_ea [a0, a1] K = tnum_Add_e C N a0 a1 K := by kernel_rfl
noncomputable def l221 : LeafT := fun C N args K => match args with
  | [a0, a1] => tnum_Add_e C N a0 a1 K
  | _ => eF
theorem lok221 : LeafOk Tryz.prog 221 l221 := .inl ⟨Tryz.f221, Tryz.f221.body.getD .skip, tnum_Add_ea, Tryz.func221, by kernel_rfl, Tryz.call221, fun C N args K H e => by
  unfold l221 at e
  split at e
  · rw [tnum_Add_ee]; exact e
  · exact eF_no e⟩

/- (*halberd/xfer.row).unsigned -/
def xfer_row_unsigned_ea : Ann := .none
noncomputable def xfer_row_unsigned_e (C : Cal) (N : Nat) (a0 a1 a2 : SV) (K : SV → ER) : ER :=
  eNilCk a0 fun x1 => eFieldAddr Tryz.prog 234 x1 5 fun x2 => eFieldAddr Tryz.prog 62 x2 1 fun x3 => eStore Tryz.prog 23 x3 a1 <| eNilCk a0 fun x4 => eFieldAddr Tryz.prog 234 x4 5 fun x5 => eFieldAddr Tryz.prog 62 x5 2 fun x6 => eStore Tryz.prog 23 x6 a2 <| K (.tup [])
theorem xfer_row_unsigned_ee (C : Cal) (N : Nat) (a0 a1 a2 : SV) (K : SV → ER) : eBody Tryz.prog C N Tryz.f222 (Tryz.f222.body.getD .skip) xfer_row_unsigned_ea [a0, a1, a2] K = xfer_row_unsigned_e C N a0 a1 a2 K := by kernel_rfl
noncomputable def l222 : LeafT := fun C N args K => match args with
  | [a0, a1, a2] => xfer_row_unsigned_e C N a0 a1 a2 K
  | _ => eF
theorem lok222 : LeafOk Tryz.prog 222 l222 := .inl ⟨Tryz.f222, Tryz.f222.body.getD .skip, xfer_row_unsigned_ea, Tryz.func222, by kernel_rfl, Tryz.call222, fun C N args K H e => by
  unfold l222 at e
  split at e
  · rw [xfer_row_unsigned_ee]; exact e
  · exact eF_no e⟩

/- halberd/xfer.sum -/
def xfer_sum_ea : Ann := .two (.none) (.two (.none) (.two (.none) (.none)))
noncomputable def xfer_sum_e (C : Cal) (N : Nat) (a0 a1 : SV) (K : SV → ER) : ER :=
  eBin Tryz.prog .add 2 false a0 a1 fun x1 => eBin Tryz.prog .lss 2 false x1 a0 fun x2 => eBin Tryz.prog .lss 2 false a1 (.int .i64 0) fun x3 => eBin Tryz.prog .eql 4 false x2 x3 fun x4 => K (.tup [x1, x4])
theorem xfer_sum_ee (C : Cal) (N : Nat) (a0 a1 : SV) (K : SV → ER) : eBody Tryz.prog C N Tryz.f223 (Tryz.f223.body.getD .skip) xfer_sum_ea [a0, a1] K = xfer_sum_e C N a0 a1 K := by kernel_rfl
noncomputable def l223 : LeafT := fun C N args K => match args with
  | [a0, a1] => xfer_sum_e C N a0 a1 K
  | _ => eF
theorem lok223 : LeafOk Tryz.prog 223 l223 := .inl ⟨Tryz.f223, Tryz.f223.body.getD .skip, xfer_sum_ea, Tryz.func223, by kernel_rfl, Tryz.call223, fun C N args K H e => by
  unfold l223 at e
  split at e
  · rw [xfer_sum_ee]; exact e
  · exact eF_no e⟩

/- (*halberd/xfer.row).signed -/
def xfer_row_signed_ea : Ann := .none
noncomputable def xfer_row_signed_e (C : Cal) (N : Nat) (a0 a1 a2 : SV) (K : SV → ER) : ER :=
  eNilCk a0 fun x1 => eFieldAddr Tryz.prog 234 x1 5 fun x2 => eFieldAddr Tryz.prog 62 x2 3 fun x3 => eStore Tryz.prog 2 x3 a1 <| eNilCk a0 fun x4 => eFieldAddr Tryz.prog 234 x4 5 fun x5 => eFieldAddr Tryz.prog 62 x5 4 fun x6 => eStore Tryz.prog 2 x6 a2 <| K (.tup [])
theorem xfer_row_signed_ee (C : Cal) (N : Nat) (a0 a1 a2 : SV) (K : SV → ER) : eBody Tryz.prog C N Tryz.f224 (Tryz.f224.body.getD .skip) xfer_row_signed_ea [a0, a1, a2] K = xfer_row_signed_e C N a0 a1 a2 K := by kernel_rfl
noncomputable def l224 : LeafT := fun C N args K => match args with
  | [a0, a1, a2] => xfer_row_signed_e C N a0 a1 a2 K
  | _ => eF
theorem lok224 : LeafOk Tryz.prog 224 l224 := .inl ⟨Tryz.f224, Tryz.f224.body.getD .skip, xfer_row_signed_ea, Tryz.func224, by kernel_rfl, Tryz.call224, fun C N args K H e => by
  unfold l224 at e
  split at e
  · rw [xfer_row_signed_ee]; exact e
  · exact eF_no e⟩

end Go.Proofs.YtjafpcagfgklgaaGreatDoor

set_option linter.unusedVariables false
set_option maxRecDepth 100000
namespace Go.Proofs.YtjafpcagfgklgaaGreatDoor
open Go.Hl
/- halberd/tnum.Sub -/
def tnum_Sub_ea : Ann := .two (.none) (.two (.ord [0, 2, 1, 3, 4, 5]) (.two (.none) (.two (.none) (.none))))
noncomputable def tnum_Sub_p0 (C : Cal) (K : SV → ER) (x1 : SV) (x2 : SV) (x3 : SV) (x12 : SV) (x15 : SV) (x17 : SV) : ER :=
  eBin Tryz.prog .sub 23 false x12 x17 fun x18 => eBin Tryz.prog .xor 23 false x15 x18 fun x19 => eFieldAddr Tryz.prog 60 x1 1 fun x20 => eLoad Tryz.prog 23 x20 fun x21 => eBin Tryz.prog .or 23 false x19 x21 fun x22 => eFieldAddr Tryz.prog 60 x2 1 fun x23 => eLoad Tryz.prog 23 x23 fun x24 => eBin Tryz.prog .or 23 false x22 x24 fun x25 => eBuild Tryz.prog 60 [(0, x12), (1, x25)] fun x26 => eCallR Tryz.prog C 244 [x26] 60 fun x27 => eStore Tryz.prog 60 x3 x27 <| eLoad Tryz.prog 60 x3 fun x28 => K x28
noncomputable def tnum_Sub_p1 (C : Cal) (K : SV → ER) (x1 : SV) (x2 : SV) (x3 : SV) (x5 : SV) (x6 : SV) : ER :=
  fun H => eLoadF Tryz.prog 60 x2 x5 H && (eCallR Tryz.prog C 244 [x5] 60 fun x7 => eStore Tryz.prog 60 x1 x6 <| eStore Tryz.prog 60 x2 x7 <| eFieldAddr Tryz.prog 60 x1 0 fun x8 => eLoad Tryz.prog 23 x8 fun x9 => eFieldAddr Tryz.prog 60 x2 0 fun x10 => eLoad Tryz.prog 23 x10 fun x11 => eBin Tryz.prog .sub 23 false x9 x11 fun x12 => eFieldAddr Tryz.prog 60 x1 1 fun x13 => eLoad Tryz.prog 23 x13 fun x14 => eBin Tryz.prog .add 23 false x12 x14 fun x15 => eFieldAddr Tryz.prog 60 x2 1 fun x16 => eLoad Tryz.prog 23 x16 fun x17 => tnum_Sub_p0 C K x1 x2 x3 x12 x15 x17) H
noncomputable def tnum_Sub_e (C : Cal) (N : Nat) (a0 a1 : SV) (K : SV → ER) : ER :=
  eBox Tryz.prog 60 a0 fun x1 => eBox Tryz.prog 60 a1 fun x2 => eAlloc Tryz.prog 60 fun x3 => eLoad Tryz.prog 60 x1 fun x4 => eLoad Tryz.prog 60 x2 fun x5 => eCallR Tryz.prog C 244 [x4] 60 fun x6 => tnum_Sub_p1 C K x1 x2 x3 x5 x6
theorem tnum_Sub_ee (C : Cal) (N : Nat) (a0 a1 : SV) (K : SV → ER) : eBody Tryz.prog C N Tryz.f225 (Tryz.f225.body.getD .skip) tnum_Sub_ea [a0, a1] K = tnum_Sub_e C N a0 a1 K := by kernel_rfl
noncomputable def l225 : LeafT := fun C N args K => match args with
  | [a0, a1] => tnum_Sub_e C N a0 a1 K
  | _ => eF
theorem lok225 : LeafOk Tryz.prog 225 l225 := .inl ⟨Tryz.f225, Tryz.f225.body.getD .skip, tnum_Sub_ea, Tryz.func225, by kernel_rfl, Tryz.call225, fun C N args K H e => by
  unfold l225 at e
  split at e
  · rw [tnum_Sub_ee]; exact e
  · exact eF_no e⟩

/- halberd/xfer.less -/
def xfer_less_ea : Ann := .two (.none) (.two (.none) (.two (.none) (.none)))
noncomputable def xfer_less_e (C : Cal) (N : Nat) (a0 a1 : SV) (K : SV → ER) : ER :=
  eBin Tryz.prog .sub 2 false a0 a1 fun x1 => eBin Tryz.prog .gtr 2 false x1 a0 fun x2 => eBin Tryz.prog .lss 2 false a1 (.int .i64 0) fun x3 => eBin Tryz.prog .eql 4 false x2 x3 fun x4 => K (.tup [x1, x4])
theorem xfer_less_ee (C : Cal) (N : Nat) (a0 a1 : SV) (K : SV → ER) : eBody Tryz.prog C N Tryz.f226 (Tryz.f226.body.getD .skip) xfer_less_ea [a0, a1] K = xfer_less_e C N a0 a1 K := by kernel_rfl
noncomputable def l226 : LeafT := fun C N args K => match args with
  | [a0, a1] => xfer_less_e C N a0 a1 K
  | _ => eF
theorem lok226 : LeafOk Tryz.prog 226 l226 := .inl ⟨Tryz.f226, Tryz.f226.body.getD .skip, xfer_less_ea, Tryz.func226, by kernel_rfl, Tryz.call226, fun C N args K H e => by
  unfold l226 at e
  split at e
  · rw [xfer_less_ee]; exact e
  · exact eF_no e⟩

/- halberd/tnum.And -/
def tnum_And_ea : Ann := .two (.none) (.two (.ord [0, 2, 1, 3, 4, 5]) (.two (.none) (.two (.none) (.none))))
noncomputable def tnum_And_p0 (K : SV → ER) (x1 : SV) (x2 : SV) (x3 : SV) (x12 : SV) (x14 : SV) : ER :=
  eFieldAddr Tryz.prog 60 x1 1 fun x15 => eLoad Tryz.prog 23 x15 fun x16 => eBin Tryz.prog .or 23 false x14 x16 fun x17 => eFieldAddr Tryz.prog 60 x2 0 fun x18 => eLoad Tryz.prog 23 x18 fun x19 => eFieldAddr Tryz.prog 60 x2 1 fun x20 => eLoad Tryz.prog 23 x20 fun x21 => eBin Tryz.prog .or 23 false x19 x21 fun x22 => eBin Tryz.prog .and 23 false x17 x22 fun x23 => eBin Tryz.prog .andNot 23 false x23 x12 fun x24 => eBuild Tryz.prog 60 [(0, x12), (1, x24)] fun x25 => eStore Tryz.prog 60 x3 x25 <| eLoad Tryz.prog 60 x3 fun x26 => K x26
noncomputable def tnum_And_p1 (C : Cal) (K : SV → ER) (x1 : SV) (x2 : SV) (x3 : SV) (x4 : SV) : ER :=
  eLoad Tryz.prog 60 x2 fun x5 => eCallR Tryz.prog C 244 [x4] 60 fun x6 => fun H => eLoadF Tryz.prog 60 x2 x5 H && (eCallR Tryz.prog C 244 [x5] 60 fun x7 => eStore Tryz.prog 60 x1 x6 <| eStore Tryz.prog 60 x2 x7 <| eFieldAddr Tryz.prog 60 x1 0 fun x8 => eLoad Tryz.prog 23 x8 fun x9 => eFieldAddr Tryz.prog 60 x2 0 fun x10 => eLoad Tryz.prog 23 x10 fun x11 => eBin Tryz.prog .and 23 false x9 x11 fun x12 => eFieldAddr Tryz.prog 60 x1 0 fun x13 => eLoad Tryz.prog 23 x13 fun x14 => tnum_And_p0 K x1 x2 x3 x12 x14) H
noncomputable def tnum_And_e (C : Cal) (N : Nat) (a0 a1 : SV) (K : SV → ER) : ER :=
  eBox Tryz.prog 60 a0 fun x1 => eBox Tryz.prog 60 a1 fun x2 => eAlloc Tryz.prog 60 fun x3 => eLoad Tryz.prog 60 x1 fun x4 => tnum_And_p1 C K x1 x2 x3 x4
theorem tnum_And_ee (C : Cal) (N : Nat) (a0 a1 : SV) (K : SV → ER) : eBody Tryz.prog C N Tryz.f227 (Tryz.f227.body.getD .skip) tnum_And_ea [a0, a1] K = tnum_And_e C N a0 a1 K := by kernel_rfl
noncomputable def l227 : LeafT := fun C N args K => match args with
  | [a0, a1] => tnum_And_e C N a0 a1 K
  | _ => eF
theorem lok227 : LeafOk Tryz.prog 227 l227 := .inl ⟨Tryz.f227, Tryz.f227.body.getD .skip, tnum_And_ea, Tryz.func227, by kernel_rfl, Tryz.call227, fun C N args K H e => by
  unfold l227 at e
  split at e
  · rw [tnum_And_ee]; exact e
  · exact eF_no e⟩

/- halberd/tnum.Or -/
def tnum_Or_ea : Ann := .two (.none) (.two (.ord [0, 2, 1, 3, 4, 5]) (.two (.none) (.two (.none) (.none))))
noncomputable def tnum_Or_p0 (K : SV → ER) (x1 : SV) (x2 : SV) (x3 : SV) (x8 : SV) : ER :=
  eLoad Tryz.prog 23 x8 fun x9 => eFieldAddr Tryz.prog 60 x2 0 fun x10 => eLoad Tryz.prog 23 x10 fun x11 => eBin Tryz.prog .or 23 false x9 x11 fun x12 => eFieldAddr Tryz.prog 60 x1 1 fun x13 => eLoad Tryz.prog 23 x13 fun x14 => eFieldAddr Tryz.prog 60 x2 1 fun x15 => eLoad Tryz.prog 23 x15 fun x16 => eBin Tryz.prog .or 23 false x14 x16 fun x17 => eBin Tryz.prog .andNot 23 false x17 x12 fun x18 => eBuild Tryz.prog 60 [(0, x12), (1, x18)] fun x19 => eStore Tryz.prog 60 x3 x19 <| eLoad Tryz.prog 60 x3 fun x20 => K x20
noncomputable def tnum_Or_e (C : Cal) (N : Nat) (a0 a1 : SV) (K : SV → ER) : ER :=
  eBox Tryz.prog 60 a0 fun x1 => eBox Tryz.prog 60 a1 fun x2 => eAlloc Tryz.prog 60 fun x3 => eLoad Tryz.prog 60 x1 fun x4 => eLoad Tryz.prog 60 x2 fun x5 => eCallR Tryz.prog C 244 [x4] 60 fun x6 => fun H => eLoadF Tryz.prog 60 x2 x5 H && (eCallR Tryz.prog C 244 [x5] 60 fun x7 => eStore Tryz.prog 60 x1 x6 <| eStore Tryz.prog 60 x2 x7 <| eFieldAddr Tryz.prog 60 x1 0 fun x8 => tnum_Or_p0 K x1 x2 x3 x8) H
theorem tnum_Or_ee (C : Cal) (N : Nat) (a0 a1 : SV) (K : SV → ER) : eBody Tryz.prog C N Tryz.f228 (Tryz.f228.body.getD .skip) tnum_Or_ea [a0, a1] K = tnum_Or_e C N a0 a1 K := by kernel_rfl
noncomputable def l228 : LeafT := fun C N args K => match args with
  | [a0, a1] => tnum_Or_e C N a0 a1 K
  | _ => eF
theorem lok228 : LeafOk Tryz.prog 228 l228 := .inl ⟨Tryz.f228, Tryz.f228.body.getD .skip, tnum_Or_ea, Tryz.func228, by kernel_rfl, Tryz.call228, fun C N args K H e => by
  unfold l228 at e
  split at e
  · rw [tnum_Or_ee]; exact e
  · exact eF_no e⟩

/- halberd/tnum.Xor -/
def tnum_Xor_ea : Ann := .two (.none) (.two (.ord [0, 2, 1, 3, 4, 5]) (.two (.none) (.none)))
noncomputable def tnum_Xor_p0 (C : Cal) (K : SV → ER) (x1 : SV) (x2 : SV) (x3 : SV) (x8 : SV) : ER :=
  eLoad Tryz.prog 23 x8 fun x9 => eFieldAddr Tryz.prog 60 x2 0 fun x10 => eLoad Tryz.prog 23 x10 fun x11 => eBin Tryz.prog .xor 23 false x9 x11 fun x12 => eFieldAddr Tryz.prog 60 x1 1 fun x13 => eLoad Tryz.prog 23 x13 fun x14 => eFieldAddr Tryz.prog 60 x2 1 fun x15 => eLoad Tryz.prog 23 x15 fun x16 => eBin Tryz.prog .or 23 false x14 x16 fun x17 => eBuild Tryz.prog 60 [(0, x12), (1, x17)] fun x18 => eCallR Tryz.prog C 244 [x18] 60 fun x19 => eStore Tryz.prog 60 x3 x19 <| eLoad Tryz.prog 60 x3 fun x20 => K x20
noncomputable def tnum_Xor_e (C : Cal) (N : Nat) (a0 a1 : SV) (K : SV → ER) : ER :=
  eBox Tryz.prog 60 a0 fun x1 => eBox Tryz.prog 60 a1 fun x2 => eAlloc Tryz.prog 60 fun x3 => eLoad Tryz.prog 60 x1 fun x4 => eLoad Tryz.prog 60 x2 fun x5 => eCallR Tryz.prog C 244 [x4] 60 fun x6 => fun H => eLoadF Tryz.prog 60 x2 x5 H && (eCallR Tryz.prog C 244 [x5] 60 fun x7 => eStore Tryz.prog 60 x1 x6 <| eStore Tryz.prog 60 x2 x7 <| eFieldAddr Tryz.prog 60 x1 0 fun x8 => tnum_Xor_p0 C K x1 x2 x3 x8) H
theorem tnum_Xor_ee (C : Cal) (N : Nat) (a0 a1 : SV) (K : SV → ER) : eBody Tryz.prog C N Tryz.f229 (Tryz.f229.body.getD .skip) tnum_Xor_ea [a0, a1] K = tnum_Xor_e C N a0 a1 K := by kernel_rfl
noncomputable def l229 : LeafT := fun C N args K => match args with
  | [a0, a1] => tnum_Xor_e C N a0 a1 K
  | _ => eF
theorem lok229 : LeafOk Tryz.prog 229 l229 := .inl ⟨Tryz.f229, Tryz.f229.body.getD .skip, tnum_Xor_ea, Tryz.func229, by kernel_rfl, Tryz.call229, fun C N args K H e => by
  unfold l229 at e
  split at e
  · rw [tnum_Xor_ee]; exact e
  · exact eF_no e⟩

/- halberd/tnum.Lsh -/
def tnum_Lsh_ea : Ann := .two (.none) (.two (.none) (.two (.none) (.none)))
noncomputable def tnum_Lsh_p0 (C : Cal) (K : SV → ER) (a1 : SV) (x1 : SV) (x2 : SV) (x3 : SV) : ER :=
  eCallR Tryz.prog C 244 [x3] 60 fun x4 => eStore Tryz.prog 60 x1 x4 <| eFieldAddr Tryz.prog 60 x1 0 fun x5 => eLoad Tryz.prog 23 x5 fun x6 => eBin Tryz.prog .rem 23 false a1 (.int .u64 64) fun x7 => eBin Tryz.prog .shl 23 false x6 x7 fun x8 => eFieldAddr Tryz.prog 60 x1 1 fun x9 => eLoad Tryz.prog 23 x9 fun x10 => eBin Tryz.prog .rem 23 false a1 (.int .u64 64) fun x11 => eBin Tryz.prog .shl 23 false x10 x11 fun x12 => eBuild Tryz.prog 60 [(0, x8), (1, x12)] fun x13 => eStore Tryz.prog 60 x2 x13 <| eLoad Tryz.prog 60 x2 fun x14 => K x14
noncomputable def tnum_Lsh_e (C : Cal) (N : Nat) (a0 a1 : SV) (K : SV → ER) : ER :=
  eBox Tryz.prog 60 a0 fun x1 => eAlloc Tryz.prog 60 fun x2 => eLoad Tryz.prog 60 x1 fun x3 => tnum_Lsh_p0 C K a1 x1 x2 x3
theorem tnum_Lsh_ee (C : Cal) (N : Nat) (a0 a1 : SV) (K : SV → ER) : eBody Tryz.prog C N Tryz.f230 (Tryz.f230.body.getD .skip) tnum_Lsh_ea [a0, a1] K = tnum_Lsh_e C N a0 a1 K := by kernel_rfl
noncomputable def l230 : LeafT := fun C N args K => match args with
  | [a0, a1] => tnum_Lsh_e C N a0 a1 K
  | _ => eF
theorem lok230 : LeafOk Tryz.prog 230 l230 := .inl ⟨Tryz.f230, Tryz.f230.body.getD .skip, tnum_Lsh_ea, Tryz.func230, by kernel_rfl, Tryz.call230, fun C N args K H e => by
  unfold l230 at e
  split at e
  · rw [tnum_Lsh_ee]; exact e
  · exact eF_no e⟩

/- halberd/tnum.Rsh -/
def tnum_Rsh_ea : Ann := .two (.none) (.two (.none) (.two (.none) (.none)))
noncomputable def tnum_Rsh_p0 (C : Cal) (K : SV → ER) (a1 : SV) (x1 : SV) (x2 : SV) (x3 : SV) : ER :=
  eCallR Tryz.prog C 244 [x3] 60 fun x4 => eStore Tryz.prog 60 x1 x4 <| eFieldAddr Tryz.prog 60 x1 0 fun x5 => eLoad Tryz.prog 23 x5 fun x6 => eBin Tryz.prog .rem 23 false a1 (.int .u64 64) fun x7 => eBin Tryz.prog .shr 23 false x6 x7 fun x8 => eFieldAddr Tryz.prog 60 x1 1 fun x9 => eLoad Tryz.prog 23 x9 fun x10 => eBin Tryz.prog .rem 23 false a1 (.int .u64 64) fun x11 => eBin Tryz.prog .shr 23 false x10 x11 fun x12 => eBuild Tryz.prog 60 [(0, x8), (1, x12)] fun x13 => eStore Tryz.prog 60 x2 x13 <| eLoad Tryz.prog 60 x2 fun x14 => K x14
noncomputable def tnum_Rsh_e (C : Cal) (N : Nat) (a0 a1 : SV) (K : SV → ER) : ER :=
  eBox Tryz.prog 60 a0 fun x1 => eAlloc Tryz.prog 60 fun x2 => eLoad Tryz.prog 60 x1 fun x3 => tnum_Rsh_p0 C K a1 x1 x2 x3
theorem tnum_Rsh_ee (C : Cal) (N : Nat) (a0 a1 : SV) (K : SV → ER) : eBody Tryz.prog C N Tryz.f231 (Tryz.f231.body.getD .skip) tnum_Rsh_ea [a0, a1] K = tnum_Rsh_e C N a0 a1 K := by kernel_rfl
noncomputable def l231 : LeafT := fun C N args K => match args with
  | [a0, a1] => tnum_Rsh_e C N a0 a1 K
  | _ => eF
theorem lok231 : LeafOk Tryz.prog 231 l231 := .inl ⟨Tryz.f231, Tryz.f231.body.getD .skip, tnum_Rsh_ea, Tryz.func231, by kernel_rfl, Tryz.call231, fun C N args K H e => by
  unfold l231 at e
  split at e
  · rw [tnum_Rsh_ee]; exact e
  · exact eF_no e⟩

/- halberd/tnum.Arsh -/
def tnum_Arsh_ea : Ann := .two (.none) (.two (.none) (.two (.none) (.none)))
noncomputable def tnum_Arsh_p0 (K : SV → ER) (a1 : SV) (x1 : SV) (x2 : SV) (x7 : SV) : ER :=
  eBin Tryz.prog .rem 23 false a1 (.int .u64 64) fun x8 => eBin Tryz.prog .shr 2 false x7 x8 fun x9 => eConvS Tryz.prog 2 23 x9 fun x10 => eFieldAddr Tryz.prog 60 x1 1 fun x11 => eLoad Tryz.prog 23 x11 fun x12 => eConvS Tryz.prog 23 2 x12 fun x13 => eBin Tryz.prog .rem 23 false a1 (.int .u64 64) fun x14 => eBin Tryz.prog .shr 2 false x13 x14 fun x15 => eConvS Tryz.prog 2 23 x15 fun x16 => eBuild Tryz.prog 60 [(0, x10), (1, x16)] fun x17 => eStore Tryz.prog 60 x2 x17 <| eLoad Tryz.prog 60 x2 fun x18 => K x18
noncomputable def tnum_Arsh_e (C : Cal) (N : Nat) (a0 a1 : SV) (K : SV → ER) : ER :=
  eBox Tryz.prog 60 a0 fun x1 => eAlloc Tryz.prog 60 fun x2 => eLoad Tryz.prog 60 x1 fun x3 => eCallR Tryz.prog C 244 [x3] 60 fun x4 => eStore Tryz.prog 60 x1 x4 <| eFieldAddr Tryz.prog 60 x1 0 fun x5 => eLoad Tryz.prog 23 x5 fun x6 => eConvS Tryz.prog 23 2 x6 fun x7 => tnum_Arsh_p0 K a1 x1 x2 x7
theorem tnum_Arsh_ee (C : Cal) (N : Nat) (a0 a1 : SV) (K : SV → ER) : eBody Tryz.prog C N Tryz.f232 (Tryz.f232.body.getD .skip) tnum_Arsh_ea [a0, a1] K = tnum_Arsh_e C N a0 a1 K := by kernel_rfl
noncomputable def l232 : LeafT := fun C N args K => match args with
  | [a0, a1] => tnum_Arsh_e C N a0 a1 K
  | _ => eF
theorem lok232 : LeafOk Tryz.prog 232 l232 := .inl ⟨Tryz.f232, Tryz.f232.body.getD .skip, tnum_Arsh_ea, Tryz.func232, by kernel_rfl, Tryz.call232, fun C N args K H e => by
  unfold l232 at e
  split at e
  · rw [tnum_Arsh_ee]; exact e
  · exact eF_no e⟩

end Go.Proofs.YtjafpcagfgklgaaGreatDoor

set_option linter.unusedVariables false
set_option maxRecDepth 100000
namespace Go.Proofs.YtjafpcagfgklgaaGreatDoor
open Go.Hl
/- halberd/words.Sext -/
def words_Sext_ea : Ann := .two (.none) (.two (.two (.none) (.two (.two (.none) (.none)) (.none))) (.two (.none) (.two (.none) (.none))))
noncomputable def words_Sext_p0 (K : SV → ER) (a0 : SV) (a1 : SV) : ER :=
  eBin Tryz.prog .mul 3 false (.int .i64 8) a1 fun x3 => eBin Tryz.prog .sub 3 false (.int .i64 64) x3 fun x4 => eBin Tryz.prog .shl 23 false a0 x4 fun x5 => eConvS Tryz.prog 23 2 x5 fun x6 => eBin Tryz.prog .shr 2 false x6 x4 fun x7 => eConvS Tryz.prog 2 23 x7 fun x8 => K x8
noncomputable def words_Sext_e (C : Cal) (N : Nat) (a0 a1 : SV) (K : SV → ER) : ER :=
  eCallR Tryz.prog C 198 [a1] 4 fun x1 => eUnS .not x1 fun x2 => eIfV x2
  (K a0)
  (words_Sext_p0 K a0 a1)
theorem words_Sext_ee (C : Cal) (N : Nat) (a0 a1 : SV) (K : SV → ER) : eBody Tryz.prog C N Tryz.f233 (Tryz.f233.body.getD .skip) words_Sext_ea [a0, a1] K = words_Sext_e C N a0 a1 K := by kernel_rfl
noncomputable def l233 : LeafT := fun C N args K => match args with
  | [a0, a1] => words_Sext_e C N a0 a1 K
  | _ => eF
theorem lok233 : LeafOk Tryz.prog 233 l233 := .inl ⟨Tryz.f233, Tryz.f233.body.getD .skip, words_Sext_ea, Tryz.func233, by kernel_rfl, Tryz.call233, fun C N args K H e => by
  unfold l233 at e
  split at e
  · rw [words_Sext_ee]; exact e
  · exact eF_no e⟩

/- halberd/alu.plain$1 -/
def alu_plain_1_ea : Ann := .two (.none) (.two (.none) (.none))
noncomputable def alu_plain_1_e (C : Cal) (N : Nat) (a0 a1 : SV) (K : SV → ER) : ER :=
  eBin Tryz.prog .add 23 false a0 a1 fun x1 => K x1
theorem alu_plain_1_ee (C : Cal) (N : Nat) (a0 a1 : SV) (K : SV → ER) : eBody Tryz.prog C N Tryz.f234 (Tryz.f234.body.getD .skip) alu_plain_1_ea [a0, a1] K = alu_plain_1_e C N a0 a1 K := by kernel_rfl
noncomputable def l234 : LeafT := fun C N args K => match args with
  | [a0, a1] => alu_plain_1_e C N a0 a1 K
  | _ => eF
theorem lok234 : LeafOk Tryz.prog 234 l234 := .inl ⟨Tryz.f234, Tryz.f234.body.getD .skip, alu_plain_1_ea, Tryz.func234, by kernel_rfl, Tryz.call234, fun C N args K H e => by
  unfold l234 at e
  split at e
  · rw [alu_plain_1_ee]; exact e
  · exact eF_no e⟩

/- halberd/alu.plain$2 -/
def alu_plain_2_ea : Ann := .two (.none) (.two (.none) (.none))
noncomputable def alu_plain_2_e (C : Cal) (N : Nat) (a0 a1 : SV) (K : SV → ER) : ER :=
  eBin Tryz.prog .sub 23 false a0 a1 fun x1 => K x1
theorem alu_plain_2_ee (C : Cal) (N : Nat) (a0 a1 : SV) (K : SV → ER) : eBody Tryz.prog C N Tryz.f235 (Tryz.f235.body.getD .skip) alu_plain_2_ea [a0, a1] K = alu_plain_2_e C N a0 a1 K := by kernel_rfl
noncomputable def l235 : LeafT := fun C N args K => match args with
  | [a0, a1] => alu_plain_2_e C N a0 a1 K
  | _ => eF
theorem lok235 : LeafOk Tryz.prog 235 l235 := .inl ⟨Tryz.f235, Tryz.f235.body.getD .skip, alu_plain_2_ea, Tryz.func235, by kernel_rfl, Tryz.call235, fun C N args K H e => by
  unfold l235 at e
  split at e
  · rw [alu_plain_2_ee]; exact e
  · exact eF_no e⟩

/- halberd/alu.plain$3 -/
def alu_plain_3_ea : Ann := .two (.none) (.two (.none) (.none))
noncomputable def alu_plain_3_e (C : Cal) (N : Nat) (a0 a1 : SV) (K : SV → ER) : ER :=
  eBin Tryz.prog .mul 23 false a0 a1 fun x1 => K x1
theorem alu_plain_3_ee (C : Cal) (N : Nat) (a0 a1 : SV) (K : SV → ER) : eBody Tryz.prog C N Tryz.f236 (Tryz.f236.body.getD .skip) alu_plain_3_ea [a0, a1] K = alu_plain_3_e C N a0 a1 K := by kernel_rfl
noncomputable def l236 : LeafT := fun C N args K => match args with
  | [a0, a1] => alu_plain_3_e C N a0 a1 K
  | _ => eF
theorem lok236 : LeafOk Tryz.prog 236 l236 := .inl ⟨Tryz.f236, Tryz.f236.body.getD .skip, alu_plain_3_ea, Tryz.func236, by kernel_rfl, Tryz.call236, fun C N args K H e => by
  unfold l236 at e
  split at e
  · rw [alu_plain_3_ee]; exact e
  · exact eF_no e⟩

/- halberd/alu.div -/
def alu_div_ea : Ann := .two (.none) (.two (.two (.none) (.two (.two (.none) (.none)) (.none))) (.two (.none) (.none)))
noncomputable def alu_div_e (C : Cal) (N : Nat) (a0 a1 : SV) (K : SV → ER) : ER :=
  eBin Tryz.prog .eql 23 false a1 (.int .u64 0) fun x1 => eIfV x1
  (K (.int .u64 0))
  (eBin Tryz.prog .quo 23 false a0 a1 fun x2 => K x2)
theorem alu_div_ee (C : Cal) (N : Nat) (a0 a1 : SV) (K : SV → ER) : eBody Tryz.prog C N Tryz.f237 (Tryz.f237.body.getD .skip) alu_div_ea [a0, a1] K = alu_div_e C N a0 a1 K := by kernel_rfl
noncomputable def l237 : LeafT := fun C N args K => match args with
  | [a0, a1] => alu_div_e C N a0 a1 K
  | _ => eF
theorem lok237 : LeafOk Tryz.prog 237 l237 := .inl ⟨Tryz.f237, Tryz.f237.body.getD .skip, alu_div_ea, Tryz.func237, by kernel_rfl, Tryz.call237, fun C N args K H e => by
  unfold l237 at e
  split at e
  · rw [alu_div_ee]; exact e
  · exact eF_no e⟩

/- halberd/alu.mod -/
def alu_mod_ea : Ann := .two (.none) (.two (.two (.none) (.two (.two (.none) (.none)) (.none))) (.two (.none) (.none)))
noncomputable def alu_mod_e (C : Cal) (N : Nat) (a0 a1 : SV) (K : SV → ER) : ER :=
  eBin Tryz.prog .eql 23 false a1 (.int .u64 0) fun x1 => eIfV x1
  (K a0)
  (eBin Tryz.prog .rem 23 false a0 a1 fun x2 => K x2)
theorem alu_mod_ee (C : Cal) (N : Nat) (a0 a1 : SV) (K : SV → ER) : eBody Tryz.prog C N Tryz.f238 (Tryz.f238.body.getD .skip) alu_mod_ea [a0, a1] K = alu_mod_e C N a0 a1 K := by kernel_rfl
noncomputable def l238 : LeafT := fun C N args K => match args with
  | [a0, a1] => alu_mod_e C N a0 a1 K
  | _ => eF
theorem lok238 : LeafOk Tryz.prog 238 l238 := .inl ⟨Tryz.f238, Tryz.f238.body.getD .skip, alu_mod_ea, Tryz.func238, by kernel_rfl, Tryz.call238, fun C N args K H e => by
  unfold l238 at e
  split at e
  · rw [alu_mod_ee]; exact e
  · exact eF_no e⟩

/- halberd/alu.plain$4 -/
def alu_plain_4_ea : Ann := .two (.none) (.two (.none) (.none))
noncomputable def alu_plain_4_e (C : Cal) (N : Nat) (a0 a1 : SV) (K : SV → ER) : ER :=
  eBin Tryz.prog .or 23 false a0 a1 fun x1 => K x1
theorem alu_plain_4_ee (C : Cal) (N : Nat) (a0 a1 : SV) (K : SV → ER) : eBody Tryz.prog C N Tryz.f239 (Tryz.f239.body.getD .skip) alu_plain_4_ea [a0, a1] K = alu_plain_4_e C N a0 a1 K := by kernel_rfl
noncomputable def l239 : LeafT := fun C N args K => match args with
  | [a0, a1] => alu_plain_4_e C N a0 a1 K
  | _ => eF
theorem lok239 : LeafOk Tryz.prog 239 l239 := .inl ⟨Tryz.f239, Tryz.f239.body.getD .skip, alu_plain_4_ea, Tryz.func239, by kernel_rfl, Tryz.call239, fun C N args K H e => by
  unfold l239 at e
  split at e
  · rw [alu_plain_4_ee]; exact e
  · exact eF_no e⟩

/- halberd/alu.plain$5 -/
def alu_plain_5_ea : Ann := .two (.none) (.two (.none) (.none))
noncomputable def alu_plain_5_e (C : Cal) (N : Nat) (a0 a1 : SV) (K : SV → ER) : ER :=
  eBin Tryz.prog .and 23 false a0 a1 fun x1 => K x1
theorem alu_plain_5_ee (C : Cal) (N : Nat) (a0 a1 : SV) (K : SV → ER) : eBody Tryz.prog C N Tryz.f240 (Tryz.f240.body.getD .skip) alu_plain_5_ea [a0, a1] K = alu_plain_5_e C N a0 a1 K := by kernel_rfl
noncomputable def l240 : LeafT := fun C N args K => match args with
  | [a0, a1] => alu_plain_5_e C N a0 a1 K
  | _ => eF
theorem lok240 : LeafOk Tryz.prog 240 l240 := .inl ⟨Tryz.f240, Tryz.f240.body.getD .skip, alu_plain_5_ea, Tryz.func240, by kernel_rfl, Tryz.call240, fun C N args K H e => by
  unfold l240 at e
  split at e
  · rw [alu_plain_5_ee]; exact e
  · exact eF_no e⟩

end Go.Proofs.YtjafpcagfgklgaaGreatDoor

set_option linter.unusedVariables false
set_option maxRecDepth 100000
namespace Go.Proofs.YtjafpcagfgklgaaGreatDoor
open Go.Hl
/- halberd/alu.plain$6 -/
def alu_plain_6_ea : Ann := .two (.none) (.two (.none) (.none))
noncomputable def alu_plain_6_e (C : Cal) (N : Nat) (a0 a1 : SV) (K : SV → ER) : ER :=
  eBin Tryz.prog .xor 23 false a0 a1 fun x1 => K x1
theorem alu_plain_6_ee (C : Cal) (N : Nat) (a0 a1 : SV) (K : SV → ER) : eBody Tryz.prog C N Tryz.f241 (Tryz.f241.body.getD .skip) alu_plain_6_ea [a0, a1] K = alu_plain_6_e C N a0 a1 K := by kernel_rfl
noncomputable def l241 : LeafT := fun C N args K => match args with
  | [a0, a1] => alu_plain_6_e C N a0 a1 K
  | _ => eF
theorem lok241 : LeafOk Tryz.prog 241 l241 := .inl ⟨Tryz.f241, Tryz.f241.body.getD .skip, alu_plain_6_ea, Tryz.func241, by kernel_rfl, Tryz.call241, fun C N args K H e => by
  unfold l241 at e
  split at e
  · rw [alu_plain_6_ee]; exact e
  · exact eF_no e⟩

/- halberd/alu.plain$7 -/
def alu_plain_7_ea : Ann := .two (.none) (.two (.none) (.none))
noncomputable def alu_plain_7_e (C : Cal) (N : Nat) (a0 a1 : SV) (K : SV → ER) : ER :=
  K a1
theorem alu_plain_7_ee (C : Cal) (N : Nat) (a0 a1 : SV) (K : SV → ER) : eBody Tryz.prog C N Tryz.f242 (Tryz.f242.body.getD .skip) alu_plain_7_ea [a0, a1] K = alu_plain_7_e C N a0 a1 K := by kernel_rfl
noncomputable def l242 : LeafT := fun C N args K => match args with
  | [a0, a1] => alu_plain_7_e C N a0 a1 K
  | _ => eF
theorem lok242 : LeafOk Tryz.prog 242 l242 := .inl ⟨Tryz.f242, Tryz.f242.body.getD .skip, alu_plain_7_ea, Tryz.func242, by kernel_rfl, Tryz.call242, fun C N args K H e => by
  unfold l242 at e
  split at e
  · rw [alu_plain_7_ee]; exact e
  · exact eF_no e⟩

/- halberd/alu.plain$8 -/
def alu_plain_8_ea : Ann := .two (.none) (.two (.none) (.none))
noncomputable def alu_plain_8_e (C : Cal) (N : Nat) (a0 a1 : SV) (K : SV → ER) : ER :=
  eUnS .neg a0 fun x1 => K x1
theorem alu_plain_8_ee (C : Cal) (N : Nat) (a0 a1 : SV) (K : SV → ER) : eBody Tryz.prog C N Tryz.f243 (Tryz.f243.body.getD .skip) alu_plain_8_ea [a0, a1] K = alu_plain_8_e C N a0 a1 K := by kernel_rfl
noncomputable def l243 : LeafT := fun C N args K => match args with
  | [a0, a1] => alu_plain_8_e C N a0 a1 K
  | _ => eF
theorem lok243 : LeafOk Tryz.prog 243 l243 := .inl ⟨Tryz.f243, Tryz.f243.body.getD .skip, alu_plain_8_ea, Tryz.func243, by kernel_rfl, Tryz.call243, fun C N args K H e => by
  unfold l243 at e
  split at e
  · rw [alu_plain_8_ee]; exact e
  · exact eF_no e⟩

/- halberd/tnum.right -/
def tnum_right_ea : Ann := .two (.none) (.two (.none) (.none))
noncomputable def tnum_right_e (C : Cal) (N : Nat) (a0 : SV) (K : SV → ER) : ER :=
  eBox Tryz.prog 60 a0 fun x1 => eAlloc Tryz.prog 60 fun x2 => eFieldAddr Tryz.prog 60 x1 0 fun x3 => eLoad Tryz.prog 23 x3 fun x4 => eFieldAddr Tryz.prog 60 x1 1 fun x5 => eLoad Tryz.prog 23 x5 fun x6 => eBin Tryz.prog .andNot 23 false x4 x6 fun x7 => eFieldAddr Tryz.prog 60 x1 1 fun x8 => eLoad Tryz.prog 23 x8 fun x9 => eBuild Tryz.prog 60 [(0, x7), (1, x9)] fun x10 => eStore Tryz.prog 60 x2 x10 <| eLoad Tryz.prog 60 x2 fun x11 => K x11
theorem tnum_right_ee (C : Cal) (N : Nat) (a0 : SV) (K : SV → ER) : eBody Tryz.prog C N Tryz.f244 (Tryz.f244.body.getD .skip) tnum_right_ea [a0] K = tnum_right_e C N a0 K := by kernel_rfl
noncomputable def l244 : LeafT := fun C N args K => match args with
  | [a0] => tnum_right_e C N a0 K
  | _ => eF
theorem lok244 : LeafOk Tryz.prog 244 l244 := .inl ⟨Tryz.f244, Tryz.f244.body.getD .skip, tnum_right_ea, Tryz.func244, by kernel_rfl, Tryz.call244, fun C N args K H e => by
  unfold l244 at e
  split at e
  · rw [tnum_right_ee]; exact e
  · exact eF_no e⟩

/- (*halberd/num.known).unsigned -/
def num_known_unsigned_ea : Ann := .ord [0, 1, 2, 3, 4, 5, 7, 9, 10, 11, 12, 14, 6, 8, 13, 15, 16, 17, 18, 19, 20, 21, 22, 23]
noncomputable def num_known_unsigned_p0 (K : SV → ER) (a0 : SV) (a1 : SV) (a2 : SV) (x3 : SV) : ER :=
  eNilCk a0 fun x4 => eFieldAddr Tryz.prog 278 x4 0 fun x5 => eFieldAddr Tryz.prog 62 x5 2 fun x6 => eLoad Tryz.prog 23 x3 fun x7 => eMinMaxS true [x7, a1] fun x8 => eLoad Tryz.prog 23 x6 fun x9 => eMinMaxS false [x9, a2] fun x10 => eNilCk a0 fun x11 => eFieldAddr Tryz.prog 278 x11 0 fun x12 => eFieldAddr Tryz.prog 62 x12 1 fun x13 => eStore Tryz.prog 23 x13 x8 <| eNilCk a0 fun x14 => eFieldAddr Tryz.prog 278 x14 0 fun x15 => eFieldAddr Tryz.prog 62 x15 2 fun x16 => eStore Tryz.prog 23 x16 x10 <| K (.tup [])
noncomputable def num_known_unsigned_e (C : Cal) (N : Nat) (a0 a1 a2 : SV) (K : SV → ER) : ER :=
  eNilCk a0 fun x1 => eFieldAddr Tryz.prog 278 x1 0 fun x2 => eFieldAddr Tryz.prog 62 x2 1 fun x3 => num_known_unsigned_p0 K a0 a1 a2 x3
theorem num_known_unsigned_ee (C : Cal) (N : Nat) (a0 a1 a2 : SV) (K : SV → ER) : eBody Tryz.prog C N Tryz.f245 (Tryz.f245.body.getD .skip) num_known_unsigned_ea [a0, a1, a2] K = num_known_unsigned_e C N a0 a1 a2 K := by kernel_rfl
noncomputable def l245 : LeafT := fun C N args K => match args with
  | [a0, a1, a2] => num_known_unsigned_e C N a0 a1 a2 K
  | _ => eF
theorem lok245 : LeafOk Tryz.prog 245 l245 := .inl ⟨Tryz.f245, Tryz.f245.body.getD .skip, num_known_unsigned_ea, Tryz.func245, by kernel_rfl, Tryz.call245, fun C N args K H e => by
  unfold l245 at e
  split at e
  · rw [num_known_unsigned_ee]; exact e
  · exact eF_no e⟩

/- (*halberd/num.known).signed -/
def num_known_signed_ea : Ann := .ord [0, 1, 2, 3, 4, 5, 7, 9, 10, 11, 12, 14, 6, 8, 13, 15, 16, 17, 18, 19, 20, 21, 22, 23]
noncomputable def num_known_signed_p0 (K : SV → ER) (a0 : SV) (a1 : SV) (a2 : SV) (x3 : SV) : ER :=
  eNilCk a0 fun x4 => eFieldAddr Tryz.prog 278 x4 0 fun x5 => eFieldAddr Tryz.prog 62 x5 4 fun x6 => eLoad Tryz.prog 2 x3 fun x7 => eMinMaxS true [x7, a1] fun x8 => eLoad Tryz.prog 2 x6 fun x9 => eMinMaxS false [x9, a2] fun x10 => eNilCk a0 fun x11 => eFieldAddr Tryz.prog 278 x11 0 fun x12 => eFieldAddr Tryz.prog 62 x12 3 fun x13 => eStore Tryz.prog 2 x13 x8 <| eNilCk a0 fun x14 => eFieldAddr Tryz.prog 278 x14 0 fun x15 => eFieldAddr Tryz.prog 62 x15 4 fun x16 => eStore Tryz.prog 2 x16 x10 <| K (.tup [])
noncomputable def num_known_signed_e (C : Cal) (N : Nat) (a0 a1 a2 : SV) (K : SV → ER) : ER :=
  eNilCk a0 fun x1 => eFieldAddr Tryz.prog 278 x1 0 fun x2 => eFieldAddr Tryz.prog 62 x2 3 fun x3 => num_known_signed_p0 K a0 a1 a2 x3
theorem num_known_signed_ee (C : Cal) (N : Nat) (a0 a1 a2 : SV) (K : SV → ER) : eBody Tryz.prog C N Tryz.f246 (Tryz.f246.body.getD .skip) num_known_signed_ea [a0, a1, a2] K = num_known_signed_e C N a0 a1 a2 K := by kernel_rfl
noncomputable def l246 : LeafT := fun C N args K => match args with
  | [a0, a1, a2] => num_known_signed_e C N a0 a1 a2 K
  | _ => eF
theorem lok246 : LeafOk Tryz.prog 246 l246 := .inl ⟨Tryz.f246, Tryz.f246.body.getD .skip, num_known_signed_ea, Tryz.func246, by kernel_rfl, Tryz.call246, fun C N args K H e => by
  unfold l246 at e
  split at e
  · rw [num_known_signed_ee]; exact e
  · exact eF_no e⟩

/- halberd/tnum.Meet -/
def tnum_Meet_ea : Ann := .two (.none) (.two (.ord [0, 2, 1, 3, 4, 5]) (.two (.two (.none) (.two (.two (.none) (.none)) (.none))) (.two (.none) (.none))))
noncomputable def tnum_Meet_p0 (C : Cal) (K : SV → ER) (x1 : SV) (x2 : SV) (x3 : SV) (x23 : SV) : ER :=
  eFieldAddr Tryz.prog 60 x2 0 fun x24 => eLoad Tryz.prog 23 x24 fun x25 => eBin Tryz.prog .or 23 false x23 x25 fun x26 => eFieldAddr Tryz.prog 60 x1 1 fun x27 => eLoad Tryz.prog 23 x27 fun x28 => eFieldAddr Tryz.prog 60 x2 1 fun x29 => eLoad Tryz.prog 23 x29 fun x30 => eBin Tryz.prog .and 23 false x28 x30 fun x31 => eBuild Tryz.prog 60 [(0, x26), (1, x31)] fun x32 => eCallR Tryz.prog C 244 [x32] 60 fun x33 => eStore Tryz.prog 60 x3 x33 <| eLoad Tryz.prog 60 x3 fun x34 => K (.tup [x34, (.bool true)])
noncomputable def tnum_Meet_p1 (C : Cal) (K : SV → ER) (x1 : SV) (x2 : SV) (x3 : SV) (x12 : SV) (x13 : SV) : ER :=
  eLoad Tryz.prog 23 x13 fun x14 => eFieldAddr Tryz.prog 60 x2 1 fun x15 => eLoad Tryz.prog 23 x15 fun x16 => eBin Tryz.prog .or 23 false x14 x16 fun x17 => eBin Tryz.prog .andNot 23 false x12 x17 fun x18 => eBin Tryz.prog .neq 23 false x18 (.int .u64 0) fun x19 => eIfV x19
  (eCallR Tryz.prog C 179 [] 60 fun x20 => eStore Tryz.prog 60 x3 x20 <| eLoad Tryz.prog 60 x3 fun x21 => K (.tup [x21, (.bool false)]))
  (eFieldAddr Tryz.prog 60 x1 0 fun x22 => eLoad Tryz.prog 23 x22 fun x23 => tnum_Meet_p0 C K x1 x2 x3 x23)
noncomputable def tnum_Meet_p2 (C : Cal) (K : SV → ER) (x1 : SV) (x2 : SV) (x3 : SV) : ER :=
  eLoad Tryz.prog 60 x1 fun x4 => eLoad Tryz.prog 60 x2 fun x5 => eCallR Tryz.prog C 244 [x4] 60 fun x6 => fun H => eLoadF Tryz.prog 60 x2 x5 H && (eCallR Tryz.prog C 244 [x5] 60 fun x7 => eStore Tryz.prog 60 x1 x6 <| eStore Tryz.prog 60 x2 x7 <| eFieldAddr Tryz.prog 60 x1 0 fun x8 => eLoad Tryz.prog 23 x8 fun x9 => eFieldAddr Tryz.prog 60 x2 0 fun x10 => eLoad Tryz.prog 23 x10 fun x11 => eBin Tryz.prog .xor 23 false x9 x11 fun x12 => eFieldAddr Tryz.prog 60 x1 1 fun x13 => tnum_Meet_p1 C K x1 x2 x3 x12 x13) H
noncomputable def tnum_Meet_e (C : Cal) (N : Nat) (a0 a1 : SV) (K : SV → ER) : ER :=
  eBox Tryz.prog 60 a0 fun x1 => eBox Tryz.prog 60 a1 fun x2 => eAlloc Tryz.prog 60 fun x3 => tnum_Meet_p2 C K x1 x2 x3
theorem tnum_Meet_ee (C : Cal) (N : Nat) (a0 a1 : SV) (K : SV → ER) : eBody Tryz.prog C N Tryz.f247 (Tryz.f247.body.getD .skip) tnum_Meet_ea [a0, a1] K = tnum_Meet_e C N a0 a1 K := by kernel_rfl
noncomputable def l247 : LeafT := fun C N args K => match args with
  | [a0, a1] => tnum_Meet_e C N a0 a1 K
  | _ => eF
theorem lok247 : LeafOk Tryz.prog 247 l247 := .inl ⟨Tryz.f247, Tryz.f247.body.getD .skip, tnum_Meet_ea, Tryz.func247, by kernel_rfl, Tryz.call247, fun C N args K H e => by
  unfold l247 at e
  split at e
  · rw [tnum_Meet_ee]; exact e
  · exact eF_no e⟩

/- halberd/tnum.Range -/
def tnum_Range_ea : Ann := .two (.none) (.two (.two (.none) (.two (.two (.none) (.none)) (.none))) (.two (.none) (.none)))
noncomputable def tnum_Range_p0 (C : Cal) (K : SV → ER) (a0 : SV) (a1 : SV) (x1 : SV) : ER :=
  eBin Tryz.prog .xor 23 false a0 a1 fun x5 => eCallR Tryz.prog C 175 [x5] 3 fun x6 => eCallR Tryz.prog C 200 [x6] 23 fun x7 => eBuild Tryz.prog 60 [(0, a0), (1, x7)] fun x8 => eCallR Tryz.prog C 244 [x8] 60 fun x9 => eStore Tryz.prog 60 x1 x9 <| eLoad Tryz.prog 60 x1 fun x10 => K x10
noncomputable def tnum_Range_e (C : Cal) (N : Nat) (a0 a1 : SV) (K : SV → ER) : ER :=
  eAlloc Tryz.prog 60 fun x1 => eBin Tryz.prog .lss 23 false a1 a0 fun x2 => eIfV x2
  (eCallR Tryz.prog C 179 [] 60 fun x3 => eStore Tryz.prog 60 x1 x3 <| eLoad Tryz.prog 60 x1 fun x4 => K x4)
  (tnum_Range_p0 C K a0 a1 x1)
theorem tnum_Range_ee (C : Cal) (N : Nat) (a0 a1 : SV) (K : SV → ER) : eBody Tryz.prog C N Tryz.f248 (Tryz.f248.body.getD .skip) tnum_Range_ea [a0, a1] K = tnum_Range_e C N a0 a1 K := by kernel_rfl
noncomputable def l248 : LeafT := fun C N args K => match args with
  | [a0, a1] => tnum_Range_e C N a0 a1 K
  | _ => eF
theorem lok248 : LeafOk Tryz.prog 248 l248 := .inl ⟨Tryz.f248, Tryz.f248.body.getD .skip, tnum_Range_ea, Tryz.func248, by kernel_rfl, Tryz.call248, fun C N args K H e => by
  unfold l248 at e
  split at e
  · rw [tnum_Range_ee]; exact e
  · exact eF_no e⟩

end Go.Proofs.YtjafpcagfgklgaaGreatDoor
