/- Texts of this proof, part W: parts of it in the order in which they build. -/
import Derived.Test.YtkbcneomjkfheaaDoorV
set_option linter.unusedVariables false
namespace Go.Proofs.YtkbcneomjkfheaaDoor
open Go.Hl
/- (*halberd/halberdref21.Table).Free -/
def ref21_Table_Free (t_0 : Option Addr) (ino_1 : Int) (KP K : Value → Pr) : Pr :=
  pCall Tryd.prog 33 [(.pointer t_0), (.int .i64 ino_1)] KP (.one .bool) fun (r1 : Bool) => pIf (!r1)
  (K (.int .i64 2))
  (pIf ((ino_1 : Int) == 1)
  (K (.int .i64 22))
  (pSome t_0 fun a2 => pIdx ino_1 25 <| pSome t_0 fun a3 => pLd (.int .i64) (((a2.add 0).add ((ino_1 : Int).toNat * 11)).add 1) fun (x4 : Int) => pIdx ino_1 25 <| pStA 11 ((a3.add 0).add ((ino_1 : Int).toNat * 11)) (lay (zc Tryd.prog 25) [(1, (.int .i64 x4))]) <| K (.int .i64 0)))
def ref21_Table_Free_ann : Ann := .two (.none) (.two (.two (.none) (.two (.two (.none) (.none)) (.none))) (.two (.two (.none) (.two (.two (.none) (.none)) (.none))) (.two (.ord [0, 1, 2, 3, 4, 5, 6, 7, 10, 11, 8, 9, 12, 13]) (.two (.none) (.none)))))
theorem ref21_Table_Free_eq (t_0 : Option Addr) (ino_1 : Int) (KP K : Value → Pr) : vcBody Tryd.prog Tryd.f53 (Tryd.f53.body.getD .skip) ref21_Table_Free_ann [(.pointer t_0), (.int .i64 ino_1)] KP K = ref21_Table_Free t_0 ino_1 KP K := by kernel_rfl
theorem ref21_Table_Free_call (t_0 : Option Addr) (ino_1 : Int) {KP K : Value → Pr} {h : Heap} (s : ref21_Table_Free t_0 ino_1 (fgt KP) (fgt K) h) : WpCall Tryd.prog 53 [(.pointer t_0), (.int .i64 ino_1)].toArray KP K h :=
  WpCall.of_vc Tryd.mixed Tryd.func53 (by kernel_rfl) Tryd.call53 ref21_Table_Free_ann (by rw [ref21_Table_Free_eq]; exact s)

/- (*halberd/halberdref21.Table).Enter -/
def ref21_Table_Enter_j1 (name_2 : ByteArray) (ino_3 : Int) (x14 : Sl) (x15 : Sl) (x16 : Bool) (k20 : Sl × Sl × Bool × Unit → Pr) (x26 : Bool) : Pr :=
  pIf x26
  (pNew (lay (reps 1 (zc Tryd.prog 9)) [(0, (.string name_2))]) fun b27 => pAppend 1 16 x14 ⟨(some ⟨b27, 0, none⟩), 1, 1⟩ fun s28 => pNew (lay (reps 1 (zc Tryd.prog 3)) [(0, (.int .i64 ino_3))]) fun b29 => pAppend 1 8 x15 ⟨(some ⟨b29, 0, none⟩), 1, 1⟩ fun s30 => k20 (s28, s30, true, ()))
  (k20 (x14, x15, x16, ()))
def ref21_Table_Enter_j2 (t_0 : Option Addr) (dir_1 : Int) (k13 : Sl × Sl × Bool × Int × Unit → Pr) (x17 : Int) (x31 : Sl) (x32 : Sl) (x33 : Bool) : Pr :=
  pSome t_0 fun a34 => pIdx dir_1 25 <| pLd .slice (((a34.add 0).add ((dir_1 : Int).toNat * 11)).add 8) fun (x35 : Sl) => pIdx x17 x35.len <| pSome x35.base fun a36 => pLd .str (a36.add ((x17 : Int).toNat * 1)) fun (x37 : ByteArray) => pNew (lay (reps 1 (zc Tryd.prog 9)) [(0, (.string x37))]) fun b38 => pAppend 1 16 x31 ⟨(some ⟨b38, 0, none⟩), 1, 1⟩ fun s39 => pSome t_0 fun a40 => pIdx dir_1 25 <| pLd .slice (((a40.add 0).add ((dir_1 : Int).toNat * 11)).add 9) fun (x41 : Sl) => pIdx x17 x41.len <| pSome x41.base fun a42 => pLd (.int .i64) (a42.add ((x17 : Int).toNat * 1)) fun (x43 : Int) => pNew (lay (reps 1 (zc Tryd.prog 3)) [(0, (.int .i64 x43))]) fun b44 => pAppend 1 8 x32 ⟨(some ⟨b44, 0, none⟩), 1, 1⟩ fun s45 => k13 (s39, s45, x33, (IntKind.i64.wrap (x17 + 1)), ())
def ref21_Table_Enter_j3 (K : Value → Pr) : Pr :=
  K (.int .i64 0)
def ref21_Table_Enter_j4 (t_0 : Option Addr) (dir_1 : Int) (ino_3 : Int) (K : Value → Pr) (x51 : Sl) (x52 : Sl) : Pr :=
  pSome t_0 fun a53 => pIdx dir_1 25 <| pSt (((a53.add 0).add ((dir_1 : Int).toNat * 11)).add 8) (.slice x51.base x51.len x51.cap) <| pSome t_0 fun a54 => pIdx dir_1 25 <| pSt (((a54.add 0).add ((dir_1 : Int).toNat * 11)).add 9) (.slice x52.base x52.len x52.cap) <| pSome t_0 fun a55 => pIdx ino_3 25 <| pSome t_0 fun a56 => pLd (.int .i64) (((a55.add 0).add ((ino_3 : Int).toNat * 11)).add 6) fun (x57 : Int) => pIdx ino_3 25 <| pSt (((a56.add 0).add ((ino_3 : Int).toNat * 11)).add 6) (.int .i64 (IntKind.i64.wrap (x57 + 1))) <| pJoin (σ := Unit)
  (fun k58 => pSome t_0 fun a59 => pIdx ino_3 25 <| pLd (.int .i64) (((a59.add 0).add ((ino_3 : Int).toNat * 11)).add 2) fun (x60 : Int) => pIf ((x60 : Int) == 2)
  (pSome t_0 fun a61 => pIdx ino_3 25 <| pSt (((a61.add 0).add ((ino_3 : Int).toNat * 11)).add 10) (.int .i64 dir_1) <| k58 (()))
  (k58 (())))
  (fun s => ref21_Table_Enter_j3 K)
def ref21_Table_Enter_l5 (t_0 : Option Addr) (dir_1 : Int) (name_2 : ByteArray) (ino_3 : Int) (K : Value → Pr) (k13 : Sl × Sl × Bool × Int × Unit → Pr) (x14 : Sl) (x15 : Sl) (x16 : Bool) (x17 : Int) : Pr :=
  pSome t_0 fun a18 => pIdx dir_1 25 <| pLd .slice (((a18.add 0).add ((dir_1 : Int).toNat * 11)).add 8) fun (x19 : Sl) => pIf (decide ((x17 : Int) < (x19.len : Int)))
  (pJoin (σ := Sl × Sl × Bool × Unit)
  (fun k20 => pJoin (σ := Bool × Unit)
  (fun k21 => pIf (!x16)
  (pSome t_0 fun a22 => pIdx dir_1 25 <| pLd .slice (((a22.add 0).add ((dir_1 : Int).toNat * 11)).add 8) fun (x23 : Sl) => pIdx x17 x23.len <| pSome x23.base fun a24 => pLd .str (a24.add ((x17 : Int).toNat * 1)) fun (x25 : ByteArray) => k21 ((Op.bytesLess name_2.toList x25.toList), ()))
  (k21 (false, ())))
  (fun s => ref21_Table_Enter_j1 name_2 ino_3 x14 x15 x16 k20 s.1))
  (fun s => ref21_Table_Enter_j2 t_0 dir_1 k13 x17 s.1 s.2.1 s.2.2.1))
  (pJoin (σ := Sl × Sl × Unit)
  (fun k46 => pIf (!x16)
  (pNew (lay (reps 1 (zc Tryd.prog 9)) [(0, (.string name_2))]) fun b47 => pAppend 1 16 x14 ⟨(some ⟨b47, 0, none⟩), 1, 1⟩ fun s48 => pNew (lay (reps 1 (zc Tryd.prog 3)) [(0, (.int .i64 ino_3))]) fun b49 => pAppend 1 8 x15 ⟨(some ⟨b49, 0, none⟩), 1, 1⟩ fun s50 => k46 (s48, s50, ()))
  (k46 (x14, x15, ())))
  (fun s => ref21_Table_Enter_j4 t_0 dir_1 ino_3 K s.1 s.2.1))
def ref21_Table_Enter_j6 (t_0 : Option Addr) (dir_1 : Int) (name_2 : ByteArray) (ino_3 : Int) (KP : Value → Pr) (K : Value → Pr) (x5 : Bool) : Pr :=
  pIf x5
  (K (.int .i64 2))
  (pSome t_0 fun a6 => pIdx dir_1 25 <| pLd (.int .i64) (((a6.add 0).add ((dir_1 : Int).toNat * 11)).add 2) fun (x7 : Int) => pIf ((x7 : Int) != 2)
  (K (.int .i64 20))
  (pCall Tryd.prog 72 [(.pointer t_0), (.int .i64 dir_1), (.string name_2)] KP (.one (.int .i64)) fun (r8 : Int) => pIf (decide ((r8 : Int) > 0))
  (K (.int .i64 17))
  (pSome t_0 fun a9 => pIdx dir_1 25 <| pLd .slice (((a9.add 0).add ((dir_1 : Int).toNat * 11)).add 8) fun (x10 : Sl) => pIf (decide (((x10.len : Int) : Int) ≥ 8))
  (K (.int .i64 28))
  (pSome t_0 fun a11 => pIdx ino_3 25 <| pLd (.int .i64) (((a11.add 0).add ((ino_3 : Int).toNat * 11)).add 6) fun (x12 : Int) => pIf (decide ((x12 : Int) ≥ 8))
  (K (.int .i64 31))
  (pLoop (σ := Sl × Sl × Bool × Int × Unit) (fun s k13 => ref21_Table_Enter_l5 t_0 dir_1 name_2 ino_3 K k13 s.1 s.2.1 s.2.2.1 s.2.2.2.1) (⟨none, 0, 0⟩, ⟨none, 0, 0⟩, false, 0, ()))))))
def ref21_Table_Enter (t_0 : Option Addr) (dir_1 : Int) (name_2 : ByteArray) (ino_3 : Int) (KP K : Value → Pr) : Pr :=
  pCall Tryd.prog 71 [(.string name_2)] KP (.one .bool) fun (r1 : Bool) => pIf (!r1)
  (K (.int .i64 22))
  (pJoin (σ := Bool × Unit)
  (fun k2 => pCall Tryd.prog 33 [(.pointer t_0), (.int .i64 dir_1)] KP (.one .bool) fun (r3 : Bool) => pIf (!r3)
  (k2 (true, ()))
  (pCall Tryd.prog 33 [(.pointer t_0), (.int .i64 ino_3)] KP (.one .bool) fun (r4 : Bool) => k2 ((!r4), ())))
  (fun s => ref21_Table_Enter_j6 t_0 dir_1 name_2 ino_3 KP K s.1))
def ref21_Table_Enter_ann : Ann := .two (.none) (.two (.two (.none) (.two (.two (.none) (.none)) (.none))) (.two (.join (.none) (.two (.two (.none) (.none)) (.none)) [(25, .bool)]) (.two (.two (.none) (.two (.two (.none) (.none)) (.none))) (.two (.two (.none) (.two (.two (.none) (.none)) (.none))) (.two (.two (.none) (.two (.two (.none) (.none)) (.none))) (.two (.two (.none) (.two (.two (.none) (.none)) (.none))) (.two (.none) (.two (.none) (.two (.none) (.two (.two (.none) (.sub (.loop [(9, .slice), (10, .slice), (11, .bool), (12, (.int .i64))] (.two (.two (.none) (.two (.none) (.none))) (.two (.sub (.join (.join (.none) (.two (.two (.none) (.two (.none) (.none))) (.none)) [(83, .bool)]) (.two (.none) (.none)) [(9, .slice), (10, .slice), (11, .bool)])) (.none)))))) (.join (.two (.none) (.two (.two (.none) (.none)) (.none))) (.two (.none) (.two (.none) (.two (.ord [0, 1, 2, 3, 4, 5, 8, 9, 6, 7, 10, 11, 12]) (.join (.two (.none) (.two (.none) (.none))) (.two (.none) (.none)) [])))) [(9, .slice), (10, .slice)])))))))))))
theorem ref21_Table_Enter_eq (t_0 : Option Addr) (dir_1 : Int) (name_2 : ByteArray) (ino_3 : Int) (KP K : Value → Pr) : vcBody Tryd.prog Tryd.f54 (Tryd.f54.body.getD .skip) ref21_Table_Enter_ann [(.pointer t_0), (.int .i64 dir_1), (.string name_2), (.int .i64 ino_3)] KP K = ref21_Table_Enter t_0 dir_1 name_2 ino_3 KP K := by kernel_rfl
theorem ref21_Table_Enter_call (t_0 : Option Addr) (dir_1 : Int) (name_2 : ByteArray) (ino_3 : Int) {KP K : Value → Pr} {h : Heap} (s : ref21_Table_Enter t_0 dir_1 name_2 ino_3 (fgt KP) (fgt K) h) : WpCall Tryd.prog 54 [(.pointer t_0), (.int .i64 dir_1), (.string name_2), (.int .i64 ino_3)].toArray KP K h :=
  WpCall.of_vc Tryd.mixed Tryd.func54 (by kernel_rfl) Tryd.call54 ref21_Table_Enter_ann (by rw [ref21_Table_Enter_eq]; exact s)

/- (*halberd/inodes.Table).Leave -/
def inodes_Table_Leave_j1 (K : Value → Pr) (x10 : Int) : Pr :=
  K (.tuple [(.int .i64 x10), (.int .i64 0)].toArray)
def inodes_Table_Leave (t_0 : Option Addr) (dir_1 : Int) (name_2 : ByteArray) (KP K : Value → Pr) : Pr :=
  pCall Tryd.prog 21 [(.pointer t_0), (.int .i64 dir_1)] KP (.one .ptr) fun (r1 : Option Addr) => pIf (r1.isNone)
  (K (.tuple [(.int .i64 0), (.int .i64 2)].toArray))
  (pSome r1 fun a2 => pLd (.int .i64) (a2.add 2) fun (x3 : Int) => pIf ((x3 : Int) != 2)
  (K (.tuple [(.int .i64 0), (.int .i64 20)].toArray))
  (pSome r1 fun a4 => pLd .slice (a4.add 8) fun (x5 : Sl) => pCall Tryd.prog 23 [(.slice x5.base x5.len x5.cap), (.string name_2)] KP (.many [(.int .i64), .bool]) fun (r6 : Int × Bool × Unit) => pIf (!r6.2.1)
  (K (.tuple [(.int .i64 0), (.int .i64 2)].toArray))
  (pSome r1 fun a7 => pLd .slice (a7.add 9) fun (x8 : Sl) => pIdx r6.1 x8.len <| pSome x8.base fun a9 => pLd (.int .i64) (a9.add ((r6.1 : Int).toNat * 1)) fun (x10 : Int) => pSome r1 fun a11 => pSome r1 fun a12 => pLd .slice (a11.add 8) fun (x13 : Sl) => pLd .slice (a12.add 9) fun (x14 : Sl) => pCall Tryd.prog 73 [(.slice x13.base x13.len x13.cap), (.int .i64 r6.1), (.int .i64 (IntKind.i64.wrap (r6.1 + 1)))] KP (.one .slice) fun (r15 : Sl) => pKeep (loadF Tryd.prog 23 (.pointer (some (a12.add 9))) (.slice x14.base x14.len x14.cap)) <| pCall Tryd.prog 74 [(.slice x14.base x14.len x14.cap), (.int .i64 r6.1), (.int .i64 (IntKind.i64.wrap (r6.1 + 1)))] KP (.one .slice) fun (r16 : Sl) => pSome r1 fun a17 => pSt (a17.add 8) (.slice r15.base r15.len r15.cap) <| pSome r1 fun a18 => pSt (a18.add 9) (.slice r16.base r16.len r16.cap) <| pJoin (σ := Unit)
  (fun k19 => pCall Tryd.prog 21 [(.pointer t_0), (.int .i64 x10)] KP (.one .ptr) fun (r20 : Option Addr) => pIf (!r20.isNone)
  (pSome r20 fun a21 => pLd (.int .i64) (a21.add 6) fun (x22 : Int) => pSome r20 fun a23 => pSt (a23.add 6) (.int .i64 (IntKind.i64.wrap (x22 - 1))) <| k19 (()))
  (k19 (())))
  (fun s => inodes_Table_Leave_j1 K x10))))
def inodes_Table_Leave_ann : Ann := .two (.none) (.two (.none) (.two (.sub (.two (.none) (.two (.two (.none) (.none)) (.two (.none) (.two (.two (.none) (.none)) (.none)))))) (.two (.none) (.two (.two (.none) (.two (.two (.none) (.none)) (.none))) (.two (.none) (.two (.ord [0, 1, 2, 3, 4, 6, 7, 8, 10, 11, 12, 14, 15, 16, 5, 13, 9, 17, 18, 19, 20, 21, 22, 23]) (.join (.two (.none) (.two (.none) (.two (.none) (.none)))) (.two (.none) (.none)) [])))))))
theorem inodes_Table_Leave_eq (t_0 : Option Addr) (dir_1 : Int) (name_2 : ByteArray) (KP K : Value → Pr) : vcBody Tryd.prog Tryd.f55 (Tryd.f55.body.getD .skip) inodes_Table_Leave_ann [(.pointer t_0), (.int .i64 dir_1), (.string name_2)] KP K = inodes_Table_Leave t_0 dir_1 name_2 KP K := by kernel_rfl
theorem inodes_Table_Leave_call (t_0 : Option Addr) (dir_1 : Int) (name_2 : ByteArray) {KP K : Value → Pr} {h : Heap} (s : inodes_Table_Leave t_0 dir_1 name_2 (fgt KP) (fgt K) h) : WpCall Tryd.prog 55 [(.pointer t_0), (.int .i64 dir_1), (.string name_2)].toArray KP K h :=
  WpCall.of_vc Tryd.mixed Tryd.func55 (by kernel_rfl) Tryd.call55 inodes_Table_Leave_ann (by rw [inodes_Table_Leave_eq]; exact s)

/- (*halberd/halberdref21.Table).Leave -/
def ref21_Table_Leave_j1 (k5 : Sl × Sl × Int × Unit → Pr) (x8 : Int) (x28 : Sl) (x29 : Sl) : Pr :=
  k5 (x28, x29, (IntKind.i64.wrap (x8 + 1)), ())
def ref21_Table_Leave_j2 (K : Value → Pr) (r4 : Int) : Pr :=
  K (.tuple [(.int .i64 r4), (.int .i64 0)].toArray)
def ref21_Table_Leave_l3 (t_0 : Option Addr) (dir_1 : Int) (name_2 : ByteArray) (KP : Value → Pr) (K : Value → Pr) (r4 : Int) (k5 : Sl × Sl × Int × Unit → Pr) (x6 : Sl) (x7 : Sl) (x8 : Int) : Pr :=
  pSome t_0 fun a9 => pIdx dir_1 25 <| pLd .slice (((a9.add 0).add ((dir_1 : Int).toNat * 11)).add 8) fun (x10 : Sl) => pIf (decide ((x8 : Int) < (x10.len : Int)))
  (pJoin (σ := Sl × Sl × Unit)
  (fun k11 => pSome t_0 fun a12 => pIdx dir_1 25 <| pLd .slice (((a12.add 0).add ((dir_1 : Int).toNat * 11)).add 8) fun (x13 : Sl) => pIdx x8 x13.len <| pSome x13.base fun a14 => pLd .str (a14.add ((x8 : Int).toNat * 1)) fun (x15 : ByteArray) => pIf (!strEq x15 name_2)
  (pSome t_0 fun a16 => pIdx dir_1 25 <| pLd .slice (((a16.add 0).add ((dir_1 : Int).toNat * 11)).add 8) fun (x17 : Sl) => pIdx x8 x17.len <| pSome x17.base fun a18 => pLd .str (a18.add ((x8 : Int).toNat * 1)) fun (x19 : ByteArray) => pNew (lay (reps 1 (zc Tryd.prog 9)) [(0, (.string x19))]) fun b20 => pAppend 1 16 x6 ⟨(some ⟨b20, 0, none⟩), 1, 1⟩ fun s21 => pSome t_0 fun a22 => pIdx dir_1 25 <| pLd .slice (((a22.add 0).add ((dir_1 : Int).toNat * 11)).add 9) fun (x23 : Sl) => pIdx x8 x23.len <| pSome x23.base fun a24 => pLd (.int .i64) (a24.add ((x8 : Int).toNat * 1)) fun (x25 : Int) => pNew (lay (reps 1 (zc Tryd.prog 3)) [(0, (.int .i64 x25))]) fun b26 => pAppend 1 8 x7 ⟨(some ⟨b26, 0, none⟩), 1, 1⟩ fun s27 => k11 (s21, s27, ()))
  (k11 (x6, x7, ())))
  (fun s => ref21_Table_Leave_j1 k5 x8 s.1 s.2.1))
  (pSome t_0 fun a30 => pIdx dir_1 25 <| pSt (((a30.add 0).add ((dir_1 : Int).toNat * 11)).add 8) (.slice x6.base x6.len x6.cap) <| pSome t_0 fun a31 => pIdx dir_1 25 <| pSt (((a31.add 0).add ((dir_1 : Int).toNat * 11)).add 9) (.slice x7.base x7.len x7.cap) <| pJoin (σ := Unit)
  (fun k32 => pCall Tryd.prog 33 [(.pointer t_0), (.int .i64 r4)] KP (.one .bool) fun (r33 : Bool) => pIf r33
  (pSome t_0 fun a34 => pIdx r4 25 <| pSome t_0 fun a35 => pLd (.int .i64) (((a34.add 0).add ((r4 : Int).toNat * 11)).add 6) fun (x36 : Int) => pIdx r4 25 <| pSt (((a35.add 0).add ((r4 : Int).toNat * 11)).add 6) (.int .i64 (IntKind.i64.wrap (x36 - 1))) <| k32 (()))
  (k32 (())))
  (fun s => ref21_Table_Leave_j2 K r4))
def ref21_Table_Leave (t_0 : Option Addr) (dir_1 : Int) (name_2 : ByteArray) (KP K : Value → Pr) : Pr :=
  pCall Tryd.prog 33 [(.pointer t_0), (.int .i64 dir_1)] KP (.one .bool) fun (r1 : Bool) => pIf (!r1)
  (K (.tuple [(.int .i64 0), (.int .i64 2)].toArray))
  (pSome t_0 fun a2 => pIdx dir_1 25 <| pLd (.int .i64) (((a2.add 0).add ((dir_1 : Int).toNat * 11)).add 2) fun (x3 : Int) => pIf ((x3 : Int) != 2)
  (K (.tuple [(.int .i64 0), (.int .i64 20)].toArray))
  (pCall Tryd.prog 72 [(.pointer t_0), (.int .i64 dir_1), (.string name_2)] KP (.one (.int .i64)) fun (r4 : Int) => pIf ((r4 : Int) == 0)
  (K (.tuple [(.int .i64 0), (.int .i64 2)].toArray))
  (pLoop (σ := Sl × Sl × Int × Unit) (fun s k5 => ref21_Table_Leave_l3 t_0 dir_1 name_2 KP K r4 k5 s.1 s.2.1 s.2.2.1) (⟨none, 0, 0⟩, ⟨none, 0, 0⟩, 0, ()))))
def ref21_Table_Leave_ann : Ann := .two (.none) (.two (.two (.none) (.two (.two (.none) (.none)) (.none))) (.two (.two (.none) (.two (.two (.none) (.none)) (.none))) (.two (.none) (.two (.two (.none) (.two (.two (.none) (.none)) (.none))) (.two (.none) (.two (.none) (.two (.two (.none) (.sub (.loop [(9, .slice), (10, .slice), (11, (.int .i64))] (.two (.two (.none) (.two (.none) (.none))) (.join (.sub (.two (.none) (.two (.two (.none) (.none)) (.none)))) (.none) [(9, .slice), (10, .slice)]))))) (.two (.none) (.two (.none) (.join (.two (.none) (.two (.ord [0, 1, 2, 3, 4, 5, 8, 9, 6, 7, 10, 11, 12]) (.none))) (.two (.none) (.none)) []))))))))))
theorem ref21_Table_Leave_eq (t_0 : Option Addr) (dir_1 : Int) (name_2 : ByteArray) (KP K : Value → Pr) : vcBody Tryd.prog Tryd.f56 (Tryd.f56.body.getD .skip) ref21_Table_Leave_ann [(.pointer t_0), (.int .i64 dir_1), (.string name_2)] KP K = ref21_Table_Leave t_0 dir_1 name_2 KP K := by kernel_rfl
theorem ref21_Table_Leave_call (t_0 : Option Addr) (dir_1 : Int) (name_2 : ByteArray) {KP K : Value → Pr} {h : Heap} (s : ref21_Table_Leave t_0 dir_1 name_2 (fgt KP) (fgt K) h) : WpCall Tryd.prog 56 [(.pointer t_0), (.int .i64 dir_1), (.string name_2)].toArray KP K h :=
  WpCall.of_vc Tryd.mixed Tryd.func56 (by kernel_rfl) Tryd.call56 ref21_Table_Leave_ann (by rw [ref21_Table_Leave_eq]; exact s)

/- (*halberd/halberdref21.Table).Write -/
def ref21_Table_Write (t_0 : Option Addr) (ino_1 : Int) (data_2 : ByteArray) (KP K : Value → Pr) : Pr :=
  pCall Tryd.prog 33 [(.pointer t_0), (.int .i64 ino_1)] KP (.one .bool) fun (r1 : Bool) => pIf (!r1)
  (K (.int .i64 2))
  (pSome t_0 fun a2 => pIdx ino_1 25 <| pLd (.int .i64) (((a2.add 0).add ((ino_1 : Int).toNat * 11)).add 2) fun (x3 : Int) => pIf ((x3 : Int) == 2)
  (K (.int .i64 22))
  (pIf (decide (((data_2.size : Int) : Int) > 32))
  (K (.int .i64 27))
  (pSome t_0 fun a4 => pIdx ino_1 25 <| pSt (((a4.add 0).add ((ino_1 : Int).toNat * 11)).add 7) (.string data_2) <| K (.int .i64 0))))
def ref21_Table_Write_ann : Ann := .two (.none) (.two (.two (.none) (.two (.two (.none) (.none)) (.none))) (.two (.two (.none) (.two (.two (.none) (.none)) (.none))) (.two (.two (.none) (.two (.two (.none) (.none)) (.none))) (.two (.none) (.two (.none) (.none))))))
theorem ref21_Table_Write_eq (t_0 : Option Addr) (ino_1 : Int) (data_2 : ByteArray) (KP K : Value → Pr) : vcBody Tryd.prog Tryd.f57 (Tryd.f57.body.getD .skip) ref21_Table_Write_ann [(.pointer t_0), (.int .i64 ino_1), (.string data_2)] KP K = ref21_Table_Write t_0 ino_1 data_2 KP K := by kernel_rfl
theorem ref21_Table_Write_call (t_0 : Option Addr) (ino_1 : Int) (data_2 : ByteArray) {KP K : Value → Pr} {h : Heap} (s : ref21_Table_Write t_0 ino_1 data_2 (fgt KP) (fgt K) h) : WpCall Tryd.prog 57 [(.pointer t_0), (.int .i64 ino_1), (.string data_2)].toArray KP K h :=
  WpCall.of_vc Tryd.mixed Tryd.func57 (by kernel_rfl) Tryd.call57 ref21_Table_Write_ann (by rw [ref21_Table_Write_eq]; exact s)

/- (*halberd/inodes.Table).Own -/
def inodes_Table_Own (t_0 : Option Addr) (ino_1 : Int) (mode_2 : Int) (uid_3 : Int) (gid_4 : Int) (KP K : Value → Pr) : Pr :=
  pCall Tryd.prog 21 [(.pointer t_0), (.int .i64 ino_1)] KP (.one .ptr) fun (r1 : Option Addr) => pIf (r1.isNone)
  (K (.int .i64 2))
  (pSome r1 fun a2 => pSt (a2.add 3) (.int .i64 mode_2) <| pSome r1 fun a3 => pSt (a3.add 4) (.int .i64 uid_3) <| pSome r1 fun a4 => pSt (a4.add 5) (.int .i64 gid_4) <| K (.int .i64 0))
def inodes_Table_Own_ann : Ann := .two (.none) (.two (.none) (.two (.two (.none) (.two (.two (.none) (.none)) (.none))) (.two (.none) (.two (.none) (.none)))))
theorem inodes_Table_Own_eq (t_0 : Option Addr) (ino_1 : Int) (mode_2 : Int) (uid_3 : Int) (gid_4 : Int) (KP K : Value → Pr) : vcBody Tryd.prog Tryd.f58 (Tryd.f58.body.getD .skip) inodes_Table_Own_ann [(.pointer t_0), (.int .i64 ino_1), (.int .i64 mode_2), (.int .i64 uid_3), (.int .i64 gid_4)] KP K = inodes_Table_Own t_0 ino_1 mode_2 uid_3 gid_4 KP K := by kernel_rfl
theorem inodes_Table_Own_call (t_0 : Option Addr) (ino_1 : Int) (mode_2 : Int) (uid_3 : Int) (gid_4 : Int) {KP K : Value → Pr} {h : Heap} (s : inodes_Table_Own t_0 ino_1 mode_2 uid_3 gid_4 (fgt KP) (fgt K) h) : WpCall Tryd.prog 58 [(.pointer t_0), (.int .i64 ino_1), (.int .i64 mode_2), (.int .i64 uid_3), (.int .i64 gid_4)].toArray KP K h :=
  WpCall.of_vc Tryd.mixed Tryd.func58 (by kernel_rfl) Tryd.call58 inodes_Table_Own_ann (by rw [inodes_Table_Own_eq]; exact s)

/- strings.IndexAny -/
def strings_IndexAny_j1 (s_0 : ByteArray) (KP : Value → Pr) (K : Value → Pr) (x2 : Int) : Pr :=
  pCall Tryd.prog 75 [(.string s_0), (.int .i32 x2)] KP (.one (.int .i64)) fun (r3 : Int) => K (.int .i64 r3)
def strings_IndexAny_l2 (s_0 : ByteArray) (KP : Value → Pr) (K : Value → Pr) (b7 : Nat) (k8 : Int × Unit → Pr) (x9 : Int) : Pr :=
  pIf (decide ((x9 : Int) < (s_0.size : Int)))
  (pIdx x9 s_0.size <| pCall Tryd.prog 78 [(.pointer (some ⟨b7, 0, none⟩)), (.int .u8 (byteAt s_0 x9))] KP (.one .bool) fun (r10 : Bool) => pIf r10
  (K (.int .i64 x9))
  (k8 ((IntKind.i64.wrap (x9 + 1)), ())))
  (K (.int .i64 (-1)))
def strings_IndexAny_l3 (chars_1 : ByteArray) (KP : Value → Pr) (K : Value → Pr) (b11 : Nat) (k12 : Unit → Pr) : Pr :=
  pRune b11 (fun (i13 : Int) (c14 : Int) => pCall Tryd.prog 75 [(.string chars_1), (.int .i32 c14)] KP (.one (.int .i64)) fun (r15 : Int) => pIf (decide ((r15 : Int) ≥ 0))
  (K (.int .i64 i13))
  (k12 (())))
  (K (.int .i64 (-1)))
def strings_IndexAny_j4 (s_0 : ByteArray) (chars_1 : ByteArray) (KP : Value → Pr) (K : Value → Pr) : Pr :=
  pNewObj (.obj (.stringIter s_0 0)) fun b11 => pLoop (σ := Unit) (fun s k12 => strings_IndexAny_l3 chars_1 KP K b11 k12) (())
def strings_IndexAny (s_0 : ByteArray) (chars_1 : ByteArray) (KP K : Value → Pr) : Pr :=
  pIf (strEq chars_1 (⟨#[]⟩ : ByteArray))
  (K (.int .i64 (-1)))
  (pIf (((chars_1.size : Int) : Int) == 1)
  (pIdx 0 chars_1.size <| pJoin (σ := Int × Unit)
  (fun k1 => pIf (decide (((IntKind.i32.wrap (byteAt chars_1 0)) : Int) ≥ 128))
  (k1 (65533, ()))
  (k1 ((IntKind.i32.wrap (byteAt chars_1 0)), ())))
  (fun s => strings_IndexAny_j1 s_0 KP K s.1))
  (pJoin (σ := Unit)
  (fun k4 => pCall Tryd.prog 76 [(.int .i64 (s_0.size : Int))] KP (.one .bool) fun (r5 : Bool) => pIf r5
  (pCall Tryd.prog 77 [(.string chars_1)] KP (.many [.agg, .bool]) fun (r6 : (List Value) × Bool × Unit) => pNew (zc Tryd.prog 119) fun b7 => pStA 256 ⟨b7, 0, none⟩ r6.1 <| pIf r6.2.1
  (pLoop (σ := Int × Unit) (fun s k8 => strings_IndexAny_l2 s_0 KP K b7 k8 s.1) (0, ()))
  (k4 (())))
  (k4 (())))
  (fun s => strings_IndexAny_j4 s_0 chars_1 KP K)))
def strings_IndexAny_ann : Ann := .two (.none) (.two (.two (.none) (.two (.two (.none) (.none)) (.none))) (.two (.two (.none) (.two (.two (.none) (.join (.two (.none) (.two (.none) (.none))) (.two (.none) (.none)) [(5, (.int .i32))])) (.none))) (.join (.two (.none) (.two (.two (.none) (.two (.none) (.two (.two (.two (.none) (.sub (.loop [(8, (.int .i64))] (.two (.two (.none) (.two (.none) (.none))) (.two (.sub (.two (.none) (.two (.two (.none) (.none)) (.none)))) (.none)))))) (.two (.none) (.none))) (.none)))) (.none))) (.two (.two (.none) (.sub (.loop [] (.two (.none) (.two (.two (.none) (.none)) (.sub (.two (.none) (.two (.none) (.two (.two (.none) (.none)) (.none)))))))))) (.two (.none) (.none))) [])))
theorem strings_IndexAny_eq (s_0 : ByteArray) (chars_1 : ByteArray) (KP K : Value → Pr) : vcBody Tryd.prog Tryd.f59 (Tryd.f59.body.getD .skip) strings_IndexAny_ann [(.string s_0), (.string chars_1)] KP K = strings_IndexAny s_0 chars_1 KP K := by kernel_rfl
theorem strings_IndexAny_call (s_0 : ByteArray) (chars_1 : ByteArray) {KP K : Value → Pr} {h : Heap} (s : strings_IndexAny s_0 chars_1 (fgt KP) (fgt K) h) : WpCall Tryd.prog 59 [(.string s_0), (.string chars_1)].toArray KP K h :=
  WpCall.of_vc Tryd.mixed Tryd.func59 (by kernel_rfl) Tryd.call59 strings_IndexAny_ann (by rw [strings_IndexAny_eq]; exact s)

/- cmp.isNaN[string] -/
def cmp_isNaN_string (x_0 : ByteArray) (KP K : Value → Pr) : Pr :=
  K (.bool (!strEq x_0 x_0))
def cmp_isNaN_string_ann : Ann := .two (.none) (.two (.none) (.none))
theorem cmp_isNaN_string_eq (x_0 : ByteArray) (KP K : Value → Pr) : vcBody Tryd.prog Tryd.f60 (Tryd.f60.body.getD .skip) cmp_isNaN_string_ann [(.string x_0)] KP K = cmp_isNaN_string x_0 KP K := by kernel_rfl
theorem cmp_isNaN_string_call (x_0 : ByteArray) {KP K : Value → Pr} {h : Heap} (s : cmp_isNaN_string x_0 (fgt KP) (fgt K) h) : WpCall Tryd.prog 60 [(.string x_0)].toArray KP K h :=
  WpCall.of_vc Tryd.mixed Tryd.func60 (by kernel_rfl) Tryd.call60 cmp_isNaN_string_ann (by rw [cmp_isNaN_string_eq]; exact s)

end Go.Proofs.YtkbcneomjkfheaaDoor

set_option linter.unusedVariables false
namespace Go.Proofs.YtkbcneomjkfheaaDoor
open Go.Hl
/- slices.rotateLeft[string] -/
def slices_rotateLeft_string (s_0 : Sl) (r_1 : Int) (KP K : Value → Pr) : Pr :=
  pAssert (0 ≤ (0 : Int) ∧ (0 : Int) ≤ r_1 ∧ r_1 ≤ (s_0.cap : Int)) <| pCall Tryd.prog 79 [(.slice (if s_0.cap = (0 : Int).toNat then s_0.base else (s_0.base : Option Addr).map (·.add ((0 : Int).toNat * 1))) ((r_1 : Int).toNat - (0 : Int).toNat) (s_0.cap - (0 : Int).toNat))] KP (.many []) fun (r1 : Unit) => pAssert (0 ≤ (r_1 : Int) ∧ (r_1 : Int) ≤ (s_0.len : Int) ∧ (s_0.len : Int) ≤ (s_0.cap : Int)) <| pCall Tryd.prog 79 [(.slice (if s_0.cap = (r_1 : Int).toNat then s_0.base else (s_0.base : Option Addr).map (·.add ((r_1 : Int).toNat * 1))) (((s_0.len : Int) : Int).toNat - (r_1 : Int).toNat) (s_0.cap - (r_1 : Int).toNat))] KP (.many []) fun (r2 : Unit) => pCall Tryd.prog 79 [(.slice s_0.base s_0.len s_0.cap)] KP (.many []) fun (r3 : Unit) => K (.tuple [].toArray)
def slices_rotateLeft_string_ann : Ann := .two (.none) (.two (.none) (.none))
theorem slices_rotateLeft_string_eq (s_0 : Sl) (r_1 : Int) (KP K : Value → Pr) : vcBody Tryd.prog Tryd.f61 (Tryd.f61.body.getD .skip) slices_rotateLeft_string_ann [(.slice s_0.base s_0.len s_0.cap), (.int .i64 r_1)] KP K = slices_rotateLeft_string s_0 r_1 KP K := by kernel_rfl
theorem slices_rotateLeft_string_call (s_0 : Sl) (r_1 : Int) {KP K : Value → Pr} {h : Heap} (s : slices_rotateLeft_string s_0 r_1 (fgt KP) (fgt K) h) : WpCall Tryd.prog 61 [(.slice s_0.base s_0.len s_0.cap), (.int .i64 r_1)].toArray KP K h :=
  WpCall.of_vc Tryd.mixed Tryd.func61 (by kernel_rfl) Tryd.call61 slices_rotateLeft_string_ann (by rw [slices_rotateLeft_string_eq]; exact s)

/- slices.rotateLeft[int] -/
def slices_rotateLeft_int (s_0 : Sl) (r_1 : Int) (KP K : Value → Pr) : Pr :=
  pAssert (0 ≤ (0 : Int) ∧ (0 : Int) ≤ r_1 ∧ r_1 ≤ (s_0.cap : Int)) <| pCall Tryd.prog 80 [(.slice (if s_0.cap = (0 : Int).toNat then s_0.base else (s_0.base : Option Addr).map (·.add ((0 : Int).toNat * 1))) ((r_1 : Int).toNat - (0 : Int).toNat) (s_0.cap - (0 : Int).toNat))] KP (.many []) fun (r1 : Unit) => pAssert (0 ≤ (r_1 : Int) ∧ (r_1 : Int) ≤ (s_0.len : Int) ∧ (s_0.len : Int) ≤ (s_0.cap : Int)) <| pCall Tryd.prog 80 [(.slice (if s_0.cap = (r_1 : Int).toNat then s_0.base else (s_0.base : Option Addr).map (·.add ((r_1 : Int).toNat * 1))) (((s_0.len : Int) : Int).toNat - (r_1 : Int).toNat) (s_0.cap - (r_1 : Int).toNat))] KP (.many []) fun (r2 : Unit) => pCall Tryd.prog 80 [(.slice s_0.base s_0.len s_0.cap)] KP (.many []) fun (r3 : Unit) => K (.tuple [].toArray)
def slices_rotateLeft_int_ann : Ann := .two (.none) (.two (.none) (.none))
theorem slices_rotateLeft_int_eq (s_0 : Sl) (r_1 : Int) (KP K : Value → Pr) : vcBody Tryd.prog Tryd.f62 (Tryd.f62.body.getD .skip) slices_rotateLeft_int_ann [(.slice s_0.base s_0.len s_0.cap), (.int .i64 r_1)] KP K = slices_rotateLeft_int s_0 r_1 KP K := by kernel_rfl
theorem slices_rotateLeft_int_call (s_0 : Sl) (r_1 : Int) {KP K : Value → Pr} {h : Heap} (s : slices_rotateLeft_int s_0 r_1 (fgt KP) (fgt K) h) : WpCall Tryd.prog 62 [(.slice s_0.base s_0.len s_0.cap), (.int .i64 r_1)].toArray KP K h :=
  WpCall.of_vc Tryd.mixed Tryd.func62 (by kernel_rfl) Tryd.call62 slices_rotateLeft_int_ann (by rw [slices_rotateLeft_int_eq]; exact s)

/- internal/stringslite.Index -/
def internal_stringslite_Index_j1 (s_0 : ByteArray) (substr_1 : ByteArray) (KP : Value → Pr) (K : Value → Pr) (k8 : Int × Int × Unit → Pr) (x10 : Int) (x13 : Int) (x23 : Bool) : Pr :=
  pIf x23
  (pAssert (0 ≤ ((IntKind.i64.wrap (x13 + 1)) : Int) ∧ ((IntKind.i64.wrap (x13 + 1)) : Int) ≤ (s_0.size : Int) ∧ (s_0.size : Int) ≤ s_0.size) <| pCall Tryd.prog 84 [(.string (s_0.extract ((IntKind.i64.wrap (x13 + 1)) : Int).toNat ((s_0.size : Int) : Int).toNat)), (.string substr_1)] KP (.one (.int .i64)) fun (r24 : Int) => pIf (decide ((r24 : Int) < 0))
  (K (.int .i64 (-1)))
  (K (.int .i64 (IntKind.i64.wrap ((IntKind.i64.wrap (x13 + 1)) + r24)))))
  (k8 ((IntKind.i64.wrap (x13 + 1)), (IntKind.i64.wrap (x10 + 1)), ()))
def internal_stringslite_Index_j2 (s_0 : ByteArray) (substr_1 : ByteArray) (KP : Value → Pr) (K : Value → Pr) (k8 : Int × Int × Unit → Pr) (x10 : Int) (x13 : Int) (x19 : Bool) : Pr :=
  pIf x19
  (pAssert (0 ≤ ((IntKind.i64.wrap (x13 + 1)) : Int) ∧ ((IntKind.i64.wrap (x13 + 1)) : Int) ≤ (s_0.size : Int) ∧ (s_0.size : Int) ≤ s_0.size) <| pCall Tryd.prog 82 [(.string (s_0.extract ((IntKind.i64.wrap (x13 + 1)) : Int).toNat ((s_0.size : Int) : Int).toNat)), (.string substr_1)] KP (.one (.int .i64)) fun (r20 : Int) => pIf (decide ((r20 : Int) ≥ 0))
  (K (.int .i64 (IntKind.i64.wrap (r20 + (IntKind.i64.wrap (x13 + 1))))))
  (K (.int .i64 (-1))))
  (pJoin (σ := Bool × Unit)
  (fun k21 => pLd (.int .i64) ⟨0, 0, none⟩ fun (x22 : Int) => pIf (decide (((substr_1.size : Int) : Int) > x22))
  (pAssert (0 ≤ (4 : Int)) <| pIf (decide (((IntKind.i64.wrap (x10 + 1)) : Int) ≥ (IntKind.i64.wrap (4 + (((IntKind.i64.wrap (x13 + 1)) : Int).fdiv (2 ^ (min (4 : Int).toNat (IntKind.i64).bits)))))))
  (k21 ((decide (((IntKind.i64.wrap (x13 + 1)) : Int) < (IntKind.i64.wrap ((IntKind.i64.wrap ((s_0.size : Int) - (substr_1.size : Int))) + 1)))), ()))
  (k21 (false, ())))
  (k21 (false, ())))
  (fun s => internal_stringslite_Index_j1 s_0 substr_1 KP K k8 x10 x13 s.1))
def internal_stringslite_Index_j3 (s_0 : ByteArray) (substr_1 : ByteArray) (KP : Value → Pr) (K : Value → Pr) (k8 : Int × Int × Unit → Pr) (x10 : Int) (x13 : Int) (x15 : Bool) : Pr :=
  pIf x15
  (K (.int .i64 x13))
  (pJoin (σ := Bool × Unit)
  (fun k16 => pLd (.int .i64) ⟨0, 0, none⟩ fun (x17 : Int) => pIf (decide (((substr_1.size : Int) : Int) ≤ x17))
  (pCall Tryd.prog 83 [(.int .i64 (IntKind.i64.wrap (x13 + 1)))] KP (.one (.int .i64)) fun (r18 : Int) => k16 ((decide (((IntKind.i64.wrap (x10 + 1)) : Int) > r18)), ()))
  (k16 (false, ())))
  (fun s => internal_stringslite_Index_j2 s_0 substr_1 KP K k8 x10 x13 s.1))
def internal_stringslite_Index_j4 (s_0 : ByteArray) (substr_1 : ByteArray) (KP : Value → Pr) (K : Value → Pr) (k8 : Int × Int × Unit → Pr) (x10 : Int) (x13 : Int) : Pr :=
  pJoin (σ := Bool × Unit)
  (fun k14 => pIdx (IntKind.i64.wrap (x13 + 1)) s_0.size <| pIf (((byteAt s_0 (IntKind.i64.wrap (x13 + 1))) : Int) == (byteAt substr_1 1))
  (pAssert (0 ≤ (x13 : Int) ∧ (x13 : Int) ≤ (IntKind.i64.wrap (x13 + (substr_1.size : Int))) ∧ (IntKind.i64.wrap (x13 + (substr_1.size : Int))) ≤ s_0.size) <| k14 ((strEq (s_0.extract (x13 : Int).toNat ((IntKind.i64.wrap (x13 + (substr_1.size : Int))) : Int).toNat) substr_1), ()))
  (k14 (false, ())))
  (fun s => internal_stringslite_Index_j3 s_0 substr_1 KP K k8 x10 x13 s.1)
def internal_stringslite_Index_l5 (s_0 : ByteArray) (substr_1 : ByteArray) (KP : Value → Pr) (K : Value → Pr) (k8 : Int × Int × Unit → Pr) (x9 : Int) (x10 : Int) : Pr :=
  pIf (decide ((x9 : Int) < (IntKind.i64.wrap ((IntKind.i64.wrap ((s_0.size : Int) - (substr_1.size : Int))) + 1))))
  (pJoin (σ := Int × Unit)
  (fun k11 => pIdx x9 s_0.size <| pIf (((byteAt s_0 x9) : Int) != (byteAt substr_1 0))
  (pAssert (0 ≤ ((IntKind.i64.wrap (x9 + 1)) : Int) ∧ ((IntKind.i64.wrap (x9 + 1)) : Int) ≤ (IntKind.i64.wrap ((IntKind.i64.wrap ((s_0.size : Int) - (substr_1.size : Int))) + 1)) ∧ (IntKind.i64.wrap ((IntKind.i64.wrap ((s_0.size : Int) - (substr_1.size : Int))) + 1)) ≤ s_0.size) <| pCall Tryd.prog 81 [(.string (s_0.extract ((IntKind.i64.wrap (x9 + 1)) : Int).toNat ((IntKind.i64.wrap ((IntKind.i64.wrap ((s_0.size : Int) - (substr_1.size : Int))) + 1)) : Int).toNat)), (.int .u8 (byteAt substr_1 0))] KP (.one (.int .i64)) fun (r12 : Int) => pIf (decide ((r12 : Int) < 0))
  (K (.int .i64 (-1)))
  (k11 ((IntKind.i64.wrap (x9 + (IntKind.i64.wrap (r12 + 1)))), ())))
  (k11 (x9, ())))
  (fun s => internal_stringslite_Index_j4 s_0 substr_1 KP K k8 x10 s.1))
  (K (.int .i64 (-1)))
def internal_stringslite_Index_j6 (s_0 : ByteArray) (substr_1 : ByteArray) (KP : Value → Pr) (K : Value → Pr) (x6 : Bool) : Pr :=
  pIf x6
  (pCall Tryd.prog 82 [(.string s_0), (.string substr_1)] KP (.one (.int .i64)) fun (r7 : Int) => K (.int .i64 r7))
  (pIdx 0 substr_1.size <| pIdx 1 substr_1.size <| pLoop (σ := Int × Int × Unit) (fun s k8 => internal_stringslite_Index_l5 s_0 substr_1 KP K k8 s.1 s.2.1) (0, 0, ()))
def internal_stringslite_Index_j7 (s_0 : ByteArray) (substr_1 : ByteArray) (KP : Value → Pr) (K : Value → Pr) (x2 : Bool) : Pr :=
  pIf x2
  (K (.int .i64 0))
  (pIf (((substr_1.size : Int) : Int) == 1)
  (pIdx 0 substr_1.size <| pCall Tryd.prog 81 [(.string s_0), (.int .u8 (byteAt substr_1 0))] KP (.one (.int .i64)) fun (r3 : Int) => K (.int .i64 r3))
  (pIf (decide (((substr_1.size : Int) : Int) ≥ (s_0.size : Int)))
  (K (.int .i64 (-1)))
  (pJoin (σ := Bool × Unit)
  (fun k4 => pLd (.int .i64) ⟨0, 0, none⟩ fun (x5 : Int) => pIf (decide (((substr_1.size : Int) : Int) ≤ x5))
  (k4 ((decide (((s_0.size : Int) : Int) ≤ 64)), ()))
  (k4 (false, ())))
  (fun s => internal_stringslite_Index_j6 s_0 substr_1 KP K s.1))))
def internal_stringslite_Index (s_0 : ByteArray) (substr_1 : ByteArray) (KP K : Value → Pr) : Pr :=
  pJoin (σ := Bool × Unit)
  (fun k1 => pIf (((substr_1.size : Int) : Int) == 0)
  (k1 (true, ()))
  (k1 ((strEq substr_1 s_0), ())))
  (fun s => internal_stringslite_Index_j7 s_0 substr_1 KP K s.1)
def internal_stringslite_Index_ann : Ann := .two (.none) (.two (.none) (.two (.sub (.join (.none) (.two (.two (.none) (.none)) (.two (.none) (.two (.two (.none) (.none)) (.two (.none) (.two (.two (.none) (.none)) (.join (.none) (.two (.two (.none) (.none)) (.none)) [(36, .bool)])))))) [(16, .bool)])) (.two (.none) (.two (.none) (.two (.none) (.two (.none) (.two (.none) (.two (.sub (.loop [(8, (.int .i64)), (10, (.int .i64))] (.two (.two (.none) (.two (.none) (.none))) (.sub (.join (.two (.none) (.two (.two (.none) (.two (.two (.none) (.two (.two (.none) (.none)) (.none))) (.none))) (.none))) (.two (.join (.none) (.two (.two (.none) (.none)) (.none)) [(93, .bool)]) (.two (.none) (.two (.none) (.join (.none) (.two (.two (.none) (.two (.two (.none) (.two (.two (.none) (.none)) (.none))) (.two (.none) (.none)))) (.join (.none) (.two (.two (.none) (.two (.two (.none) (.two (.two (.none) (.none)) (.none))) (.two (.none) (.none)))) (.none)) [(132, .bool)])) [(107, .bool)])))) [(8, (.int .i64))]))))) (.two (.none) (.none))))))))))
theorem internal_stringslite_Index_eq (s_0 : ByteArray) (substr_1 : ByteArray) (KP K : Value → Pr) : vcBody Tryd.prog Tryd.f63 (Tryd.f63.body.getD .skip) internal_stringslite_Index_ann [(.string s_0), (.string substr_1)] KP K = internal_stringslite_Index s_0 substr_1 KP K := by kernel_rfl
theorem internal_stringslite_Index_call (s_0 : ByteArray) (substr_1 : ByteArray) {KP K : Value → Pr} {h : Heap} (s : internal_stringslite_Index s_0 substr_1 (fgt KP) (fgt K) h) : WpCall Tryd.prog 63 [(.string s_0), (.string substr_1)].toArray KP K h :=
  WpCall.of_vc Tryd.mixed Tryd.func63 (by kernel_rfl) Tryd.call63 internal_stringslite_Index_ann (by rw [internal_stringslite_Index_eq]; exact s)

/- internal/stringslite.HasPrefix -/
def internal_stringslite_HasPrefix_j1 (K : Value → Pr) (x2 : Bool) : Pr :=
  K (.bool x2)
def internal_stringslite_HasPrefix (s_0 : ByteArray) (prefix_1 : ByteArray) (KP K : Value → Pr) : Pr :=
  pJoin (σ := Bool × Unit)
  (fun k1 => pIf (decide (((s_0.size : Int) : Int) ≥ (prefix_1.size : Int)))
  (pAssert (0 ≤ (0 : Int) ∧ (0 : Int) ≤ (prefix_1.size : Int) ∧ (prefix_1.size : Int) ≤ s_0.size) <| k1 ((strEq (s_0.extract (0 : Int).toNat ((prefix_1.size : Int) : Int).toNat) prefix_1), ()))
  (k1 (false, ())))
  (fun s => internal_stringslite_HasPrefix_j1 K s.1)
def internal_stringslite_HasPrefix_ann : Ann := .two (.none) (.join (.none) (.none) [(4, .bool)])
theorem internal_stringslite_HasPrefix_eq (s_0 : ByteArray) (prefix_1 : ByteArray) (KP K : Value → Pr) : vcBody Tryd.prog Tryd.f64 (Tryd.f64.body.getD .skip) internal_stringslite_HasPrefix_ann [(.string s_0), (.string prefix_1)] KP K = internal_stringslite_HasPrefix s_0 prefix_1 KP K := by kernel_rfl
theorem internal_stringslite_HasPrefix_call (s_0 : ByteArray) (prefix_1 : ByteArray) {KP K : Value → Pr} {h : Heap} (s : internal_stringslite_HasPrefix s_0 prefix_1 (fgt KP) (fgt K) h) : WpCall Tryd.prog 64 [(.string s_0), (.string prefix_1)].toArray KP K h :=
  WpCall.of_vc Tryd.mixed Tryd.func64 (by kernel_rfl) Tryd.call64 internal_stringslite_HasPrefix_ann (by rw [internal_stringslite_HasPrefix_eq]; exact s)

/- internal/stringslite.HasSuffix -/
def internal_stringslite_HasSuffix_j1 (K : Value → Pr) (x2 : Bool) : Pr :=
  K (.bool x2)
def internal_stringslite_HasSuffix (s_0 : ByteArray) (suffix_1 : ByteArray) (KP K : Value → Pr) : Pr :=
  pJoin (σ := Bool × Unit)
  (fun k1 => pIf (decide (((s_0.size : Int) : Int) ≥ (suffix_1.size : Int)))
  (pAssert (0 ≤ ((IntKind.i64.wrap ((s_0.size : Int) - (suffix_1.size : Int))) : Int) ∧ ((IntKind.i64.wrap ((s_0.size : Int) - (suffix_1.size : Int))) : Int) ≤ (s_0.size : Int) ∧ (s_0.size : Int) ≤ s_0.size) <| k1 ((strEq (s_0.extract ((IntKind.i64.wrap ((s_0.size : Int) - (suffix_1.size : Int))) : Int).toNat ((s_0.size : Int) : Int).toNat) suffix_1), ()))
  (k1 (false, ())))
  (fun s => internal_stringslite_HasSuffix_j1 K s.1)
def internal_stringslite_HasSuffix_ann : Ann := .two (.none) (.join (.none) (.none) [(4, .bool)])
theorem internal_stringslite_HasSuffix_eq (s_0 : ByteArray) (suffix_1 : ByteArray) (KP K : Value → Pr) : vcBody Tryd.prog Tryd.f65 (Tryd.f65.body.getD .skip) internal_stringslite_HasSuffix_ann [(.string s_0), (.string suffix_1)] KP K = internal_stringslite_HasSuffix s_0 suffix_1 KP K := by kernel_rfl
theorem internal_stringslite_HasSuffix_call (s_0 : ByteArray) (suffix_1 : ByteArray) {KP K : Value → Pr} {h : Heap} (s : internal_stringslite_HasSuffix s_0 suffix_1 (fgt KP) (fgt K) h) : WpCall Tryd.prog 65 [(.string s_0), (.string suffix_1)].toArray KP K h :=
  WpCall.of_vc Tryd.mixed Tryd.func65 (by kernel_rfl) Tryd.call65 internal_stringslite_HasSuffix_ann (by rw [internal_stringslite_HasSuffix_eq]; exact s)

/- slices.DeleteFunc[[]string,string] -/
def slices_DeleteFunc_string_string_j1 (k2 : Int × Int × Unit → Pr) (x4 : Int) (x10 : Int) : Pr :=
  k2 (x10, (IntKind.i64.wrap (x4 + 1)), ())
def slices_DeleteFunc_string_string_l2 (s_0 : Sl) (del_1 : Value) (KP : Value → Pr) (K : Value → Pr) (k2 : Int × Int × Unit → Pr) (x3 : Int) (x4 : Int) : Pr :=
  pIf (decide ((x4 : Int) < (s_0.len : Int)))
  (pJoin (σ := Int × Unit)
  (fun k5 => pIdx x4 s_0.len <| pSome s_0.base fun a6 => pLd .str (a6.add ((x4 : Int).toNat * 1)) fun (x7 : ByteArray) => pCallV Tryd.prog del_1 [(.string x7)] KP (.one .bool) fun (r8 : Bool) => pIf (!r8)
  (pIdx x3 s_0.len <| pSome s_0.base fun a9 => pSt (a9.add ((x3 : Int).toNat * 1)) (.string x7) <| k5 ((IntKind.i64.wrap (x3 + 1)), ()))
  (k5 (x3, ())))
  (fun s => slices_DeleteFunc_string_string_j1 k2 x4 s.1))
  (pAssert (0 ≤ (x3 : Int) ∧ (x3 : Int) ≤ (s_0.len : Int) ∧ (s_0.len : Int) ≤ (s_0.cap : Int)) <| pClear 1 (zc Tryd.prog 9) ⟨(if s_0.cap = (x3 : Int).toNat then s_0.base else (s_0.base : Option Addr).map (·.add ((x3 : Int).toNat * 1))), (((s_0.len : Int) : Int).toNat - (x3 : Int).toNat), (s_0.cap - (x3 : Int).toNat)⟩ <| pAssert (0 ≤ (0 : Int) ∧ (0 : Int) ≤ x3 ∧ x3 ≤ (s_0.cap : Int)) <| K (.slice (if s_0.cap = (0 : Int).toNat then s_0.base else (s_0.base : Option Addr).map (·.add ((0 : Int).toNat * 1))) ((x3 : Int).toNat - (0 : Int).toNat) (s_0.cap - (0 : Int).toNat)))
def slices_DeleteFunc_string_string (s_0 : Sl) (del_1 : Value) (KP K : Value → Pr) : Pr :=
  pCall Tryd.prog 85 [(.slice s_0.base s_0.len s_0.cap), del_1] KP (.one (.int .i64)) fun (r1 : Int) => pIf ((r1 : Int) == (-1))
  (K (.slice s_0.base s_0.len s_0.cap))
  (pLoop (σ := Int × Int × Unit) (fun s k2 => slices_DeleteFunc_string_string_l2 s_0 del_1 KP K k2 s.1 s.2.1) (r1, (IntKind.i64.wrap (r1 + 1)), ()))
def slices_DeleteFunc_string_string_ann : Ann := .two (.none) (.two (.none) (.two (.two (.none) (.two (.two (.none) (.none)) (.none))) (.two (.two (.none) (.sub (.loop [(5, (.int .i64)), (6, (.int .i64))] (.two (.two (.none) (.two (.none) (.none))) (.join (.sub (.two (.none) (.two (.none) (.two (.two (.none) (.none)) (.none))))) (.none) [(5, (.int .i64))]))))) (.two (.none) (.two (.none) (.none))))))
theorem slices_DeleteFunc_string_string_eq (s_0 : Sl) (del_1 : Value) (KP K : Value → Pr) : vcBody Tryd.prog Tryd.f66 (Tryd.f66.body.getD .skip) slices_DeleteFunc_string_string_ann [(.slice s_0.base s_0.len s_0.cap), del_1] KP K = slices_DeleteFunc_string_string s_0 del_1 KP K := by kernel_rfl
theorem slices_DeleteFunc_string_string_call (s_0 : Sl) (del_1 : Value) {KP K : Value → Pr} {h : Heap} (s : slices_DeleteFunc_string_string s_0 del_1 (fgt KP) (fgt K) h) : WpCall Tryd.prog 66 [(.slice s_0.base s_0.len s_0.cap), del_1].toArray KP K h :=
  WpCall.of_vc Tryd.mixed Tryd.func66 (by kernel_rfl) Tryd.call66 slices_DeleteFunc_string_string_ann (by rw [slices_DeleteFunc_string_string_eq]; exact s)

/- strings.Split -/
def strings_Split (s_0 : ByteArray) (sep_1 : ByteArray) (KP K : Value → Pr) : Pr :=
  pCall Tryd.prog 86 [(.string s_0), (.string sep_1), (.int .i64 0), (.int .i64 (-1))] KP (.one .slice) fun (r1 : Sl) => K (.slice r1.base r1.len r1.cap)
def strings_Split_ann : Ann := .two (.none) (.two (.none) (.none))
theorem strings_Split_eq (s_0 : ByteArray) (sep_1 : ByteArray) (KP K : Value → Pr) : vcBody Tryd.prog Tryd.f67 (Tryd.f67.body.getD .skip) strings_Split_ann [(.string s_0), (.string sep_1)] KP K = strings_Split s_0 sep_1 KP K := by kernel_rfl
theorem strings_Split_call (s_0 : ByteArray) (sep_1 : ByteArray) {KP K : Value → Pr} {h : Heap} (s : strings_Split s_0 sep_1 (fgt KP) (fgt K) h) : WpCall Tryd.prog 67 [(.string s_0), (.string sep_1)].toArray KP K h :=
  WpCall.of_vc Tryd.mixed Tryd.func67 (by kernel_rfl) Tryd.call67 strings_Split_ann (by rw [strings_Split_eq]; exact s)

/- halberd/paths.names$1 -/
def paths_names_1 (s_0 : ByteArray) (KP K : Value → Pr) : Pr :=
  K (.bool (strEq s_0 (⟨#[]⟩ : ByteArray)))
def paths_names_1_ann : Ann := .two (.none) (.two (.none) (.none))
theorem paths_names_1_eq (s_0 : ByteArray) (KP K : Value → Pr) : vcBody Tryd.prog Tryd.f68 (Tryd.f68.body.getD .skip) paths_names_1_ann [(.string s_0)] KP K = paths_names_1 s_0 KP K := by kernel_rfl
theorem paths_names_1_call (s_0 : ByteArray) {KP K : Value → Pr} {h : Heap} (s : paths_names_1 s_0 (fgt KP) (fgt K) h) : WpCall Tryd.prog 68 [(.string s_0)].toArray KP K h :=
  WpCall.of_vc Tryd.mixed Tryd.func68 (by kernel_rfl) Tryd.call68 paths_names_1_ann (by rw [paths_names_1_eq]; exact s)

end Go.Proofs.YtkbcneomjkfheaaDoor

set_option linter.unusedVariables false
namespace Go.Proofs.YtkbcneomjkfheaaDoor
open Go.Hl
/- slices.Clone[[]string,string] -/
def slices_Clone_string_string (s_0 : Sl) (KP K : Value → Pr) : Pr :=
  pIf (s_0.base.isNone)
  (K (.slice none 0 0))
  (pNew (lay (reps 0 (zc Tryd.prog 9)) []) fun b1 => pAppend 1 16 ⟨(some ⟨b1, 0, none⟩), 0, 0⟩ s_0 fun s2 => K (.slice s2.base s2.len s2.cap))
def slices_Clone_string_string_ann : Ann := .two (.none) (.two (.two (.none) (.two (.two (.none) (.none)) (.none))) (.two (.none) (.none)))
theorem slices_Clone_string_string_eq (s_0 : Sl) (KP K : Value → Pr) : vcBody Tryd.prog Tryd.f69 (Tryd.f69.body.getD .skip) slices_Clone_string_string_ann [(.slice s_0.base s_0.len s_0.cap)] KP K = slices_Clone_string_string s_0 KP K := by kernel_rfl
theorem slices_Clone_string_string_call (s_0 : Sl) {KP K : Value → Pr} {h : Heap} (s : slices_Clone_string_string s_0 (fgt KP) (fgt K) h) : WpCall Tryd.prog 69 [(.slice s_0.base s_0.len s_0.cap)].toArray KP K h :=
  WpCall.of_vc Tryd.mixed Tryd.func69 (by kernel_rfl) Tryd.call69 slices_Clone_string_string_ann (by rw [slices_Clone_string_string_eq]; exact s)

/- slices.Clone[[]int,int] -/
def slices_Clone_int_int (s_0 : Sl) (KP K : Value → Pr) : Pr :=
  pIf (s_0.base.isNone)
  (K (.slice none 0 0))
  (pNew (lay (reps 0 (zc Tryd.prog 3)) []) fun b1 => pAppend 1 8 ⟨(some ⟨b1, 0, none⟩), 0, 0⟩ s_0 fun s2 => K (.slice s2.base s2.len s2.cap))
def slices_Clone_int_int_ann : Ann := .two (.none) (.two (.two (.none) (.two (.two (.none) (.none)) (.none))) (.two (.none) (.none)))
theorem slices_Clone_int_int_eq (s_0 : Sl) (KP K : Value → Pr) : vcBody Tryd.prog Tryd.f70 (Tryd.f70.body.getD .skip) slices_Clone_int_int_ann [(.slice s_0.base s_0.len s_0.cap)] KP K = slices_Clone_int_int s_0 KP K := by kernel_rfl
theorem slices_Clone_int_int_call (s_0 : Sl) {KP K : Value → Pr} {h : Heap} (s : slices_Clone_int_int s_0 (fgt KP) (fgt K) h) : WpCall Tryd.prog 70 [(.slice s_0.base s_0.len s_0.cap)].toArray KP K h :=
  WpCall.of_vc Tryd.mixed Tryd.func70 (by kernel_rfl) Tryd.call70 slices_Clone_int_int_ann (by rw [slices_Clone_int_int_eq]; exact s)

/- halberd/halberdref21.Name -/
def ref21_Name_j1 (K : Value → Pr) (k3 : Int × Unit → Pr) (x4 : Int) (x6 : Bool) : Pr :=
  pIf x6
  (K (.bool false))
  (k3 ((IntKind.i64.wrap (x4 + 1)), ()))
def ref21_Name_l2 (s_0 : ByteArray) (K : Value → Pr) (k3 : Int × Unit → Pr) (x4 : Int) : Pr :=
  pIf (decide ((x4 : Int) < (s_0.size : Int)))
  (pJoin (σ := Bool × Unit)
  (fun k5 => pIdx x4 s_0.size <| pIf (((byteAt s_0 x4) : Int) == 47)
  (k5 (true, ()))
  (pIdx x4 s_0.size <| k5 ((((byteAt s_0 x4) : Int) == 0), ())))
  (fun s => ref21_Name_j1 K k3 x4 s.1))
  (K (.bool true))
def ref21_Name_j3 (s_0 : ByteArray) (K : Value → Pr) (x2 : Bool) : Pr :=
  pIf x2
  (K (.bool false))
  (pLoop (σ := Int × Unit) (fun s k3 => ref21_Name_l2 s_0 K k3 s.1) (0, ()))
def ref21_Name (s_0 : ByteArray) (KP K : Value → Pr) : Pr :=
  pJoin (σ := Bool × Unit)
  (fun k1 => pIf (decide (((s_0.size : Int) : Int) < 1))
  (k1 (true, ()))
  (pIf (decide (((s_0.size : Int) : Int) > 8))
  (k1 (true, ()))
  (pIf (strEq s_0 (⟨#[46]⟩ : ByteArray))
  (k1 (true, ()))
  (k1 ((strEq s_0 (⟨#[46, 46]⟩ : ByteArray)), ())))))
  (fun s => ref21_Name_j3 s_0 K s.1)
def ref21_Name_ann : Ann := .two (.none) (.two (.join (.none) (.two (.two (.none) (.none)) (.none)) [(19, .bool)]) (.two (.two (.none) (.sub (.loop [(3, (.int .i64))] (.two (.two (.none) (.two (.none) (.none))) (.two (.sub (.join (.none) (.two (.two (.none) (.none)) (.none)) [(35, .bool)])) (.none)))))) (.two (.none) (.none))))
theorem ref21_Name_eq (s_0 : ByteArray) (KP K : Value → Pr) : vcBody Tryd.prog Tryd.f71 (Tryd.f71.body.getD .skip) ref21_Name_ann [(.string s_0)] KP K = ref21_Name s_0 KP K := by kernel_rfl
theorem ref21_Name_call (s_0 : ByteArray) {KP K : Value → Pr} {h : Heap} (s : ref21_Name s_0 (fgt KP) (fgt K) h) : WpCall Tryd.prog 71 [(.string s_0)].toArray KP K h :=
  WpCall.of_vc Tryd.mixed Tryd.func71 (by kernel_rfl) Tryd.call71 ref21_Name_ann (by rw [ref21_Name_eq]; exact s)

/- (*halberd/halberdref21.Table).Find -/
def ref21_Table_Find_l1 (t_0 : Option Addr) (dir_1 : Int) (name_2 : ByteArray) (K : Value → Pr) (k6 : Int × Unit → Pr) (x7 : Int) : Pr :=
  pSome t_0 fun a8 => pIdx dir_1 25 <| pLd .slice (((a8.add 0).add ((dir_1 : Int).toNat * 11)).add 8) fun (x9 : Sl) => pIf (decide ((x7 : Int) < (x9.len : Int)))
  (pSome t_0 fun a10 => pIdx dir_1 25 <| pLd .slice (((a10.add 0).add ((dir_1 : Int).toNat * 11)).add 8) fun (x11 : Sl) => pIdx x7 x11.len <| pSome x11.base fun a12 => pLd .str (a12.add ((x7 : Int).toNat * 1)) fun (x13 : ByteArray) => pIf (strEq x13 name_2)
  (pSome t_0 fun a14 => pIdx dir_1 25 <| pLd .slice (((a14.add 0).add ((dir_1 : Int).toNat * 11)).add 9) fun (x15 : Sl) => pIdx x7 x15.len <| pSome x15.base fun a16 => pLd (.int .i64) (a16.add ((x7 : Int).toNat * 1)) fun (x17 : Int) => K (.int .i64 x17))
  (k6 ((IntKind.i64.wrap (x7 + 1)), ())))
  (K (.int .i64 0))
def ref21_Table_Find_j2 (t_0 : Option Addr) (dir_1 : Int) (name_2 : ByteArray) (K : Value → Pr) (x5 : Bool) : Pr :=
  pIf x5
  (K (.int .i64 0))
  (pLoop (σ := Int × Unit) (fun s k6 => ref21_Table_Find_l1 t_0 dir_1 name_2 K k6 s.1) (0, ()))
def ref21_Table_Find (t_0 : Option Addr) (dir_1 : Int) (name_2 : ByteArray) (KP K : Value → Pr) : Pr :=
  pJoin (σ := Bool × Unit)
  (fun k1 => pCall Tryd.prog 33 [(.pointer t_0), (.int .i64 dir_1)] KP (.one .bool) fun (r2 : Bool) => pIf (!r2)
  (k1 (true, ()))
  (pSome t_0 fun a3 => pIdx dir_1 25 <| pLd (.int .i64) (((a3.add 0).add ((dir_1 : Int).toNat * 11)).add 2) fun (x4 : Int) => k1 (((x4 : Int) != 2), ())))
  (fun s => ref21_Table_Find_j2 t_0 dir_1 name_2 K s.1)
def ref21_Table_Find_ann : Ann := .two (.none) (.two (.join (.none) (.two (.two (.none) (.none)) (.none)) [(21, .bool)]) (.two (.two (.none) (.sub (.loop [(7, (.int .i64))] (.two (.two (.none) (.two (.none) (.none))) (.two (.sub (.two (.none) (.two (.two (.none) (.none)) (.none)))) (.none)))))) (.two (.none) (.none))))
theorem ref21_Table_Find_eq (t_0 : Option Addr) (dir_1 : Int) (name_2 : ByteArray) (KP K : Value → Pr) : vcBody Tryd.prog Tryd.f72 (Tryd.f72.body.getD .skip) ref21_Table_Find_ann [(.pointer t_0), (.int .i64 dir_1), (.string name_2)] KP K = ref21_Table_Find t_0 dir_1 name_2 KP K := by kernel_rfl
theorem ref21_Table_Find_call (t_0 : Option Addr) (dir_1 : Int) (name_2 : ByteArray) {KP K : Value → Pr} {h : Heap} (s : ref21_Table_Find t_0 dir_1 name_2 (fgt KP) (fgt K) h) : WpCall Tryd.prog 72 [(.pointer t_0), (.int .i64 dir_1), (.string name_2)].toArray KP K h :=
  WpCall.of_vc Tryd.mixed Tryd.func72 (by kernel_rfl) Tryd.call72 ref21_Table_Find_ann (by rw [ref21_Table_Find_eq]; exact s)

/- slices.Delete[[]string,string] -/
def slices_Delete_string_string (s_0 : Sl) (i_1 : Int) (j_2 : Int) (KP K : Value → Pr) : Pr :=
  pAssert (0 ≤ (i_1 : Int) ∧ (i_1 : Int) ≤ j_2 ∧ j_2 ≤ ((s_0.len : Int) : Int) ∧ ((s_0.len : Int) : Int) ≤ (s_0.cap : Int)) <| pIf ((i_1 : Int) == j_2)
  (K (.slice s_0.base s_0.len s_0.cap))
  (pAssert (0 ≤ (0 : Int) ∧ (0 : Int) ≤ i_1 ∧ i_1 ≤ (s_0.cap : Int)) <| pAssert (0 ≤ (j_2 : Int) ∧ (j_2 : Int) ≤ (s_0.len : Int) ∧ (s_0.len : Int) ≤ (s_0.cap : Int)) <| pAppend 1 16 ⟨(if s_0.cap = (0 : Int).toNat then s_0.base else (s_0.base : Option Addr).map (·.add ((0 : Int).toNat * 1))), ((i_1 : Int).toNat - (0 : Int).toNat), (s_0.cap - (0 : Int).toNat)⟩ ⟨(if s_0.cap = (j_2 : Int).toNat then s_0.base else (s_0.base : Option Addr).map (·.add ((j_2 : Int).toNat * 1))), (((s_0.len : Int) : Int).toNat - (j_2 : Int).toNat), (s_0.cap - (j_2 : Int).toNat)⟩ fun s1 => pAssert (0 ≤ ((s1.len : Int) : Int) ∧ ((s1.len : Int) : Int) ≤ (s_0.len : Int) ∧ (s_0.len : Int) ≤ (s1.cap : Int)) <| pClear 1 (zc Tryd.prog 9) ⟨(if s1.cap = ((s1.len : Int) : Int).toNat then s1.base else (s1.base : Option Addr).map (·.add (((s1.len : Int) : Int).toNat * 1))), (((s_0.len : Int) : Int).toNat - ((s1.len : Int) : Int).toNat), (s1.cap - ((s1.len : Int) : Int).toNat)⟩ <| K (.slice s1.base s1.len s1.cap))
def slices_Delete_string_string_ann : Ann := .two (.none) (.two (.none) (.two (.two (.none) (.two (.two (.none) (.none)) (.none))) (.two (.none) (.two (.ord [0, 1, 2, 3, 4, 5, 6, 7]) (.two (.none) (.two (.none) (.none)))))))
theorem slices_Delete_string_string_eq (s_0 : Sl) (i_1 : Int) (j_2 : Int) (KP K : Value → Pr) : vcBody Tryd.prog Tryd.f73 (Tryd.f73.body.getD .skip) slices_Delete_string_string_ann [(.slice s_0.base s_0.len s_0.cap), (.int .i64 i_1), (.int .i64 j_2)] KP K = slices_Delete_string_string s_0 i_1 j_2 KP K := by kernel_rfl
theorem slices_Delete_string_string_call (s_0 : Sl) (i_1 : Int) (j_2 : Int) {KP K : Value → Pr} {h : Heap} (s : slices_Delete_string_string s_0 i_1 j_2 (fgt KP) (fgt K) h) : WpCall Tryd.prog 73 [(.slice s_0.base s_0.len s_0.cap), (.int .i64 i_1), (.int .i64 j_2)].toArray KP K h :=
  WpCall.of_vc Tryd.mixed Tryd.func73 (by kernel_rfl) Tryd.call73 slices_Delete_string_string_ann (by rw [slices_Delete_string_string_eq]; exact s)

/- slices.Delete[[]int,int] -/
def slices_Delete_int_int (s_0 : Sl) (i_1 : Int) (j_2 : Int) (KP K : Value → Pr) : Pr :=
  pAssert (0 ≤ (i_1 : Int) ∧ (i_1 : Int) ≤ j_2 ∧ j_2 ≤ ((s_0.len : Int) : Int) ∧ ((s_0.len : Int) : Int) ≤ (s_0.cap : Int)) <| pIf ((i_1 : Int) == j_2)
  (K (.slice s_0.base s_0.len s_0.cap))
  (pAssert (0 ≤ (0 : Int) ∧ (0 : Int) ≤ i_1 ∧ i_1 ≤ (s_0.cap : Int)) <| pAssert (0 ≤ (j_2 : Int) ∧ (j_2 : Int) ≤ (s_0.len : Int) ∧ (s_0.len : Int) ≤ (s_0.cap : Int)) <| pAppend 1 8 ⟨(if s_0.cap = (0 : Int).toNat then s_0.base else (s_0.base : Option Addr).map (·.add ((0 : Int).toNat * 1))), ((i_1 : Int).toNat - (0 : Int).toNat), (s_0.cap - (0 : Int).toNat)⟩ ⟨(if s_0.cap = (j_2 : Int).toNat then s_0.base else (s_0.base : Option Addr).map (·.add ((j_2 : Int).toNat * 1))), (((s_0.len : Int) : Int).toNat - (j_2 : Int).toNat), (s_0.cap - (j_2 : Int).toNat)⟩ fun s1 => pAssert (0 ≤ ((s1.len : Int) : Int) ∧ ((s1.len : Int) : Int) ≤ (s_0.len : Int) ∧ (s_0.len : Int) ≤ (s1.cap : Int)) <| pClear 1 (zc Tryd.prog 3) ⟨(if s1.cap = ((s1.len : Int) : Int).toNat then s1.base else (s1.base : Option Addr).map (·.add (((s1.len : Int) : Int).toNat * 1))), (((s_0.len : Int) : Int).toNat - ((s1.len : Int) : Int).toNat), (s1.cap - ((s1.len : Int) : Int).toNat)⟩ <| K (.slice s1.base s1.len s1.cap))
def slices_Delete_int_int_ann : Ann := .two (.none) (.two (.none) (.two (.two (.none) (.two (.two (.none) (.none)) (.none))) (.two (.none) (.two (.ord [0, 1, 2, 3, 4, 5, 6, 7]) (.two (.none) (.two (.none) (.none)))))))
theorem slices_Delete_int_int_eq (s_0 : Sl) (i_1 : Int) (j_2 : Int) (KP K : Value → Pr) : vcBody Tryd.prog Tryd.f74 (Tryd.f74.body.getD .skip) slices_Delete_int_int_ann [(.slice s_0.base s_0.len s_0.cap), (.int .i64 i_1), (.int .i64 j_2)] KP K = slices_Delete_int_int s_0 i_1 j_2 KP K := by kernel_rfl
theorem slices_Delete_int_int_call (s_0 : Sl) (i_1 : Int) (j_2 : Int) {KP K : Value → Pr} {h : Heap} (s : slices_Delete_int_int s_0 i_1 j_2 (fgt KP) (fgt K) h) : WpCall Tryd.prog 74 [(.slice s_0.base s_0.len s_0.cap), (.int .i64 i_1), (.int .i64 j_2)].toArray KP K h :=
  WpCall.of_vc Tryd.mixed Tryd.func74 (by kernel_rfl) Tryd.call74 slices_Delete_int_int_ann (by rw [slices_Delete_int_int_eq]; exact s)

/- strings.IndexRune -/
def strings_IndexRune_l1 (K : Value → Pr) (b4 : Nat) (k5 : Unit → Pr) : Pr :=
  pRune b4 (fun (i6 : Int) (c7 : Int) => pIf ((c7 : Int) == 65533)
  (K (.int .i64 i6))
  (k5 (())))
  (K (.int .i64 (-1)))
def strings_IndexRune_l2 (s_0 : ByteArray) (r_1 : Int) (K : Value → Pr) (x13 : Int) (k14 : Int × Unit → Pr) (x15 : Int) : Pr :=
  pIf (decide ((x15 : Int) < ((Utf8.encode r_1).size : Int)))
  (pIdx (IntKind.i64.wrap (x13 - x15)) s_0.size <| pIdx (IntKind.i64.wrap ((IntKind.i64.wrap (((Utf8.encode r_1).size : Int) - 1)) - x15)) (Utf8.encode r_1).size <| pIf (((byteAt s_0 (IntKind.i64.wrap (x13 - x15))) : Int) != (byteAt (Utf8.encode r_1) (IntKind.i64.wrap ((IntKind.i64.wrap (((Utf8.encode r_1).size : Int) - 1)) - x15))))
  (F)
  (k14 ((IntKind.i64.wrap (x15 + 1)), ())))
  (K (.int .i64 (IntKind.i64.wrap (x13 - (IntKind.i64.wrap (((Utf8.encode r_1).size : Int) - 1))))))
def strings_IndexRune_j3 (s_0 : ByteArray) (r_1 : Int) (K : Value → Pr) (x13 : Int) : Pr :=
  pLoop (σ := Int × Unit) (fun s k14 => strings_IndexRune_l2 s_0 r_1 K x13 k14 s.1) (1, ())
def strings_IndexRune_l4 (s_0 : ByteArray) (r_1 : Int) (KP : Value → Pr) (K : Value → Pr) (x10 : Int) : Pr :=
  pIf (decide ((x10 : Int) < (s_0.size : Int)))
  (pJoin (σ := Int × Unit)
  (fun k11 => pIdx x10 s_0.size <| pIdx (IntKind.i64.wrap (((Utf8.encode r_1).size : Int) - 1)) (Utf8.encode r_1).size <| pIf (((byteAt s_0 x10) : Int) != (byteAt (Utf8.encode r_1) (IntKind.i64.wrap (((Utf8.encode r_1).size : Int) - 1))))
  (pAssert (0 ≤ ((IntKind.i64.wrap (x10 + 1)) : Int) ∧ ((IntKind.i64.wrap (x10 + 1)) : Int) ≤ (s_0.size : Int) ∧ (s_0.size : Int) ≤ s_0.size) <| pIdx (IntKind.i64.wrap (((Utf8.encode r_1).size : Int) - 1)) (Utf8.encode r_1).size <| pCall Tryd.prog 87 [(.string (s_0.extract ((IntKind.i64.wrap (x10 + 1)) : Int).toNat ((s_0.size : Int) : Int).toNat)), (.int .u8 (byteAt (Utf8.encode r_1) (IntKind.i64.wrap (((Utf8.encode r_1).size : Int) - 1))))] KP (.one (.int .i64)) fun (r12 : Int) => pIf (decide ((r12 : Int) < 0))
  (K (.int .i64 (-1)))
  (k11 ((IntKind.i64.wrap (x10 + (IntKind.i64.wrap (r12 + 1)))), ())))
  (k11 (x10, ())))
  (fun s => strings_IndexRune_j3 s_0 r_1 K s.1))
  (K (.int .i64 (-1)))
def strings_IndexRune_j5 (s_0 : ByteArray) (r_1 : Int) (KP : Value → Pr) (K : Value → Pr) (x2 : Bool) : Pr :=
  pIf x2
  (pCall Tryd.prog 87 [(.string s_0), (.int .u8 (IntKind.u8.wrap r_1))] KP (.one (.int .i64)) fun (r3 : Int) => K (.int .i64 r3))
  (pIf ((r_1 : Int) == 65533)
  (pNewObj (.obj (.stringIter s_0 0)) fun b4 => pLoop (σ := Unit) (fun s k5 => strings_IndexRune_l1 K b4 k5) (()))
  (pCall Tryd.prog 88 [(.int .i32 r_1)] KP (.one .bool) fun (r8 : Bool) => pIf (!r8)
  (K (.int .i64 (-1)))
  (pLoop (σ := Int × Unit) (fun s k9 => strings_IndexRune_l4 s_0 r_1 KP K s.1) ((IntKind.i64.wrap (((Utf8.encode r_1).size : Int) - 1)), ()))))
def strings_IndexRune (s_0 : ByteArray) (r_1 : Int) (KP K : Value → Pr) : Pr :=
  pJoin (σ := Bool × Unit)
  (fun k1 => pIf (decide ((0 : Int) ≤ r_1))
  (k1 ((decide ((r_1 : Int) < 128)), ()))
  (k1 (false, ())))
  (fun s => strings_IndexRune_j5 s_0 r_1 KP K s.1)
def strings_IndexRune_ann : Ann := .two (.none) (.sub (.join (.none) (.two (.two (.none) (.none)) (.two (.none) (.two (.two (.two (.none) (.sub (.loop [] (.two (.none) (.two (.two (.none) (.none)) (.sub (.two (.none) (.two (.none) (.two (.two (.none) (.none)) (.none)))))))))) (.two (.none) (.none))) (.two (.none) (.two (.two (.none) (.none)) (.sub (.two (.none) (.two (.none) (.two (.none) (.two (.none) (.two (.sub (.loop [(9, (.int .i64))] (.two (.two (.none) (.two (.none) (.none))) (.sub (.sub (.join (.two (.ord [0, 1, 2, 3, 4, 5, 6]) (.two (.two (.ord [0, 1, 2, 3, 4, 5, 6, 7, 8]) (.two (.two (.none) (.two (.two (.none) (.none)) (.none))) (.none))) (.none))) (.two (.two (.none) (.sub (.loop [(12, (.int .i64))] (.two (.two (.none) (.two (.none) (.none))) (.two (.sub (.two (.ord [0, 1, 2, 3, 4, 5, 6, 7, 8, 9, 10]) (.two (.none) (.none)))) (.none)))))) (.two (.two (.none) (.none)) (.none))) [(9, (.int .i64))])))))) (.two (.two (.none) (.none)) (.none))))))))))))) [(160, .bool)]))
theorem strings_IndexRune_eq (s_0 : ByteArray) (r_1 : Int) (KP K : Value → Pr) : vcBody Tryd.prog Tryd.f75 (Tryd.f75.body.getD .skip) strings_IndexRune_ann [(.string s_0), (.int .i32 r_1)] KP K = strings_IndexRune s_0 r_1 KP K := by kernel_rfl
theorem strings_IndexRune_call (s_0 : ByteArray) (r_1 : Int) {KP K : Value → Pr} {h : Heap} (s : strings_IndexRune s_0 r_1 (fgt KP) (fgt K) h) : WpCall Tryd.prog 75 [(.string s_0), (.int .i32 r_1)].toArray KP K h :=
  WpCall.of_vc Tryd.mixed Tryd.func75 (by kernel_rfl) Tryd.call75 strings_IndexRune_ann (by rw [strings_IndexRune_eq]; exact s)

/- strings.shouldUseASCIISet -/
def strings_shouldUseASCIISet (bufLen_0 : Int) (KP K : Value → Pr) : Pr :=
  K (.bool (decide ((bufLen_0 : Int) > 8)))
def strings_shouldUseASCIISet_ann : Ann := .two (.none) (.two (.none) (.none))
theorem strings_shouldUseASCIISet_eq (bufLen_0 : Int) (KP K : Value → Pr) : vcBody Tryd.prog Tryd.f76 (Tryd.f76.body.getD .skip) strings_shouldUseASCIISet_ann [(.int .i64 bufLen_0)] KP K = strings_shouldUseASCIISet bufLen_0 KP K := by kernel_rfl
theorem strings_shouldUseASCIISet_call (bufLen_0 : Int) {KP K : Value → Pr} {h : Heap} (s : strings_shouldUseASCIISet bufLen_0 (fgt KP) (fgt K) h) : WpCall Tryd.prog 76 [(.int .i64 bufLen_0)].toArray KP K h :=
  WpCall.of_vc Tryd.mixed Tryd.func76 (by kernel_rfl) Tryd.call76 strings_shouldUseASCIISet_ann (by rw [strings_shouldUseASCIISet_eq]; exact s)

end Go.Proofs.YtkbcneomjkfheaaDoor

set_option linter.unusedVariables false
namespace Go.Proofs.YtkbcneomjkfheaaDoor
open Go.Hl
/- strings.makeASCIISet -/
def strings_makeASCIISet_l1 (chars_0 : ByteArray) (K : Value → Pr) (b1 : Nat) (k2 : Int × Unit → Pr) (x3 : Int) : Pr :=
  pIf (decide ((x3 : Int) < (chars_0.size : Int)))
  (pIdx x3 chars_0.size <| pIf (decide (((byteAt chars_0 x3) : Int) ≥ 128))
  (pLdA 256 ⟨b1, 0, none⟩ fun x4 => pStA 256 ⟨b1, 0, none⟩ x4 <| pLdA 256 ⟨b1, 0, none⟩ fun x5 => K (.tuple [(.agg x5.toArray), (.bool false)].toArray))
  (pIdx (byteAt chars_0 x3) 256 <| pSt ((⟨b1, 0, none⟩ : Addr).add (((byteAt chars_0 x3) : Int).toNat * 1)) (.bool true) <| k2 ((IntKind.i64.wrap (x3 + 1)), ())))
  (pLdA 256 ⟨b1, 0, none⟩ fun x6 => pStA 256 ⟨b1, 0, none⟩ x6 <| pLdA 256 ⟨b1, 0, none⟩ fun x7 => K (.tuple [(.agg x7.toArray), (.bool true)].toArray))
def strings_makeASCIISet (chars_0 : ByteArray) (KP K : Value → Pr) : Pr :=
  pNew (zc Tryd.prog 119) fun b1 => pLoop (σ := Int × Unit) (fun s k2 => strings_makeASCIISet_l1 chars_0 K b1 k2 s.1) (0, ())
def strings_makeASCIISet_ann : Ann := .two (.none) (.two (.two (.none) (.sub (.loop [(4, (.int .i64))] (.two (.two (.none) (.two (.none) (.none))) (.two (.sub (.two (.none) (.two (.two (.none) (.two (.two (.none) (.none)) (.none))) (.none)))) (.none)))))) (.two (.none) (.none)))
theorem strings_makeASCIISet_eq (chars_0 : ByteArray) (KP K : Value → Pr) : vcBody Tryd.prog Tryd.f77 (Tryd.f77.body.getD .skip) strings_makeASCIISet_ann [(.string chars_0)] KP K = strings_makeASCIISet chars_0 KP K := by kernel_rfl
theorem strings_makeASCIISet_call (chars_0 : ByteArray) {KP K : Value → Pr} {h : Heap} (s : strings_makeASCIISet chars_0 (fgt KP) (fgt K) h) : WpCall Tryd.prog 77 [(.string chars_0)].toArray KP K h :=
  WpCall.of_vc Tryd.mixed Tryd.func77 (by kernel_rfl) Tryd.call77 strings_makeASCIISet_ann (by rw [strings_makeASCIISet_eq]; exact s)

/- (*strings.asciiSet).contains -/
def strings_asciiSet_contains (as_0 : Option Addr) (c_1 : Int) (KP K : Value → Pr) : Pr :=
  pSome as_0 fun a1 => pIdx c_1 256 <| pLd .bool (a1.add ((c_1 : Int).toNat * 1)) fun (x2 : Bool) => K (.bool x2)
def strings_asciiSet_contains_ann : Ann := .two (.none) (.two (.none) (.none))
theorem strings_asciiSet_contains_eq (as_0 : Option Addr) (c_1 : Int) (KP K : Value → Pr) : vcBody Tryd.prog Tryd.f78 (Tryd.f78.body.getD .skip) strings_asciiSet_contains_ann [(.pointer as_0), (.int .u8 c_1)] KP K = strings_asciiSet_contains as_0 c_1 KP K := by kernel_rfl
theorem strings_asciiSet_contains_call (as_0 : Option Addr) (c_1 : Int) {KP K : Value → Pr} {h : Heap} (s : strings_asciiSet_contains as_0 c_1 (fgt KP) (fgt K) h) : WpCall Tryd.prog 78 [(.pointer as_0), (.int .u8 c_1)].toArray KP K h :=
  WpCall.of_vc Tryd.mixed Tryd.func78 (by kernel_rfl) Tryd.call78 strings_asciiSet_contains_ann (by rw [strings_asciiSet_contains_eq]; exact s)

/- slices.Reverse[[]string,string] -/
def slices_Reverse_string_string_l1 (s_0 : Sl) (K : Value → Pr) (k1 : Int × Int × Unit → Pr) (x2 : Int) (x3 : Int) : Pr :=
  pIf (decide ((x2 : Int) < x3))
  (pIdx x3 s_0.len <| pSome s_0.base fun a4 => pIdx x2 s_0.len <| pSome s_0.base fun a5 => pLd .str (a4.add ((x3 : Int).toNat * 1)) fun (x6 : ByteArray) => pLd .str (a5.add ((x2 : Int).toNat * 1)) fun (x7 : ByteArray) => pIdx x2 s_0.len <| pSome s_0.base fun a8 => pSt (a8.add ((x2 : Int).toNat * 1)) (.string x6) <| pIdx x3 s_0.len <| pSome s_0.base fun a9 => pSt (a9.add ((x3 : Int).toNat * 1)) (.string x7) <| k1 ((IntKind.i64.wrap (x2 + 1)), (IntKind.i64.wrap (x3 - 1)), ()))
  (K (.tuple [].toArray))
def slices_Reverse_string_string (s_0 : Sl) (KP K : Value → Pr) : Pr :=
  pLoop (σ := Int × Int × Unit) (fun s k1 => slices_Reverse_string_string_l1 s_0 K k1 s.1 s.2.1) (0, (IntKind.i64.wrap ((s_0.len : Int) - 1)), ())
def slices_Reverse_string_string_ann : Ann := .two (.none) (.sub (.loop [(2, (.int .i64)), (3, (.int .i64))] (.two (.two (.none) (.two (.none) (.none))) (.two (.sub (.ord [0, 1, 2, 3, 4, 5, 6, 8, 9, 10, 7, 11, 12, 13, 14, 15])) (.none)))))
theorem slices_Reverse_string_string_eq (s_0 : Sl) (KP K : Value → Pr) : vcBody Tryd.prog Tryd.f79 (Tryd.f79.body.getD .skip) slices_Reverse_string_string_ann [(.slice s_0.base s_0.len s_0.cap)] KP K = slices_Reverse_string_string s_0 KP K := by kernel_rfl
theorem slices_Reverse_string_string_call (s_0 : Sl) {KP K : Value → Pr} {h : Heap} (s : slices_Reverse_string_string s_0 (fgt KP) (fgt K) h) : WpCall Tryd.prog 79 [(.slice s_0.base s_0.len s_0.cap)].toArray KP K h :=
  WpCall.of_vc Tryd.mixed Tryd.func79 (by kernel_rfl) Tryd.call79 slices_Reverse_string_string_ann (by rw [slices_Reverse_string_string_eq]; exact s)

/- slices.Reverse[[]int,int] -/
def slices_Reverse_int_int_l1 (s_0 : Sl) (K : Value → Pr) (k1 : Int × Int × Unit → Pr) (x2 : Int) (x3 : Int) : Pr :=
  pIf (decide ((x2 : Int) < x3))
  (pIdx x3 s_0.len <| pSome s_0.base fun a4 => pIdx x2 s_0.len <| pSome s_0.base fun a5 => pLd (.int .i64) (a4.add ((x3 : Int).toNat * 1)) fun (x6 : Int) => pLd (.int .i64) (a5.add ((x2 : Int).toNat * 1)) fun (x7 : Int) => pIdx x2 s_0.len <| pSome s_0.base fun a8 => pSt (a8.add ((x2 : Int).toNat * 1)) (.int .i64 x6) <| pIdx x3 s_0.len <| pSome s_0.base fun a9 => pSt (a9.add ((x3 : Int).toNat * 1)) (.int .i64 x7) <| k1 ((IntKind.i64.wrap (x2 + 1)), (IntKind.i64.wrap (x3 - 1)), ()))
  (K (.tuple [].toArray))
def slices_Reverse_int_int (s_0 : Sl) (KP K : Value → Pr) : Pr :=
  pLoop (σ := Int × Int × Unit) (fun s k1 => slices_Reverse_int_int_l1 s_0 K k1 s.1 s.2.1) (0, (IntKind.i64.wrap ((s_0.len : Int) - 1)), ())
def slices_Reverse_int_int_ann : Ann := .two (.none) (.sub (.loop [(2, (.int .i64)), (3, (.int .i64))] (.two (.two (.none) (.two (.none) (.none))) (.two (.sub (.ord [0, 1, 2, 3, 4, 5, 6, 8, 9, 10, 7, 11, 12, 13, 14, 15])) (.none)))))
theorem slices_Reverse_int_int_eq (s_0 : Sl) (KP K : Value → Pr) : vcBody Tryd.prog Tryd.f80 (Tryd.f80.body.getD .skip) slices_Reverse_int_int_ann [(.slice s_0.base s_0.len s_0.cap)] KP K = slices_Reverse_int_int s_0 KP K := by kernel_rfl
theorem slices_Reverse_int_int_call (s_0 : Sl) {KP K : Value → Pr} {h : Heap} (s : slices_Reverse_int_int s_0 (fgt KP) (fgt K) h) : WpCall Tryd.prog 80 [(.slice s_0.base s_0.len s_0.cap)].toArray KP K h :=
  WpCall.of_vc Tryd.mixed Tryd.func80 (by kernel_rfl) Tryd.call80 slices_Reverse_int_int_ann (by rw [slices_Reverse_int_int_eq]; exact s)

/- internal/stringslite.IndexByte -/
def internal_stringslite_IndexByte (s_0 : ByteArray) (c_1 : Int) (KP K : Value → Pr) : Pr :=
  pCall Tryd.prog 89 [(.string s_0), (.int .u8 c_1)] KP (.one (.int .i64)) fun (r1 : Int) => K (.int .i64 r1)
def internal_stringslite_IndexByte_ann : Ann := .two (.none) (.two (.none) (.none))
theorem internal_stringslite_IndexByte_eq (s_0 : ByteArray) (c_1 : Int) (KP K : Value → Pr) : vcBody Tryd.prog Tryd.f81 (Tryd.f81.body.getD .skip) internal_stringslite_IndexByte_ann [(.string s_0), (.int .u8 c_1)] KP K = internal_stringslite_IndexByte s_0 c_1 KP K := by kernel_rfl
theorem internal_stringslite_IndexByte_call (s_0 : ByteArray) (c_1 : Int) {KP K : Value → Pr} {h : Heap} (s : internal_stringslite_IndexByte s_0 c_1 (fgt KP) (fgt K) h) : WpCall Tryd.prog 81 [(.string s_0), (.int .u8 c_1)].toArray KP K h :=
  WpCall.of_vc Tryd.mixed Tryd.func81 (by kernel_rfl) Tryd.call81 internal_stringslite_IndexByte_ann (by rw [internal_stringslite_IndexByte_eq]; exact s)

/- internal/bytealg.Cutover -/
def internal_bytealg_Cutover (n_0 : Int) (KP K : Value → Pr) : Pr :=
  pAssert ((8 : Int) ≠ 0) <| K (.int .i64 (IntKind.i64.wrap (((IntKind.i64.wrap (n_0 + 16)) : Int).tdiv 8)))
def internal_bytealg_Cutover_ann : Ann := .two (.none) (.two (.none) (.none))
theorem internal_bytealg_Cutover_eq (n_0 : Int) (KP K : Value → Pr) : vcBody Tryd.prog Tryd.f83 (Tryd.f83.body.getD .skip) internal_bytealg_Cutover_ann [(.int .i64 n_0)] KP K = internal_bytealg_Cutover n_0 KP K := by kernel_rfl
theorem internal_bytealg_Cutover_call (n_0 : Int) {KP K : Value → Pr} {h : Heap} (s : internal_bytealg_Cutover n_0 (fgt KP) (fgt K) h) : WpCall Tryd.prog 83 [(.int .i64 n_0)].toArray KP K h :=
  WpCall.of_vc Tryd.mixed Tryd.func83 (by kernel_rfl) Tryd.call83 internal_bytealg_Cutover_ann (by rw [internal_bytealg_Cutover_eq]; exact s)

/- internal/bytealg.IndexRabinKarp[string] -/
def internal_bytealg_IndexRabinKarp_string_j1 (s_0 : ByteArray) (sep_1 : ByteArray) (K : Value → Pr) (r1 : Int × Int × Unit) (k7 : Int × Int × Unit → Pr) (x8 : Int) (x9 : Int) (x11 : Bool) : Pr :=
  pIf x11
  (K (.int .i64 (IntKind.i64.wrap ((IntKind.i64.wrap (x9 + 1)) - (sep_1.size : Int)))))
  (k7 ((IntKind.u32.wrap ((IntKind.u32.wrap ((IntKind.u32.wrap (x8 * 16777619)) + (IntKind.u32.wrap (byteAt s_0 x9)))) - (IntKind.u32.wrap (r1.2.1 * (IntKind.u32.wrap (byteAt s_0 (IntKind.i64.wrap (x9 - (sep_1.size : Int))))))))), (IntKind.i64.wrap (x9 + 1)), ()))
def internal_bytealg_IndexRabinKarp_string_l2 (s_0 : ByteArray) (sep_1 : ByteArray) (K : Value → Pr) (r1 : Int × Int × Unit) (k7 : Int × Int × Unit → Pr) (x8 : Int) (x9 : Int) : Pr :=
  pIf (decide ((x9 : Int) < (s_0.size : Int)))
  (pIdx x9 s_0.size <| pIdx (IntKind.i64.wrap (x9 - (sep_1.size : Int))) s_0.size <| pJoin (σ := Bool × Unit)
  (fun k10 => pIf (((IntKind.u32.wrap ((IntKind.u32.wrap ((IntKind.u32.wrap (x8 * 16777619)) + (IntKind.u32.wrap (byteAt s_0 x9)))) - (IntKind.u32.wrap (r1.2.1 * (IntKind.u32.wrap (byteAt s_0 (IntKind.i64.wrap (x9 - (sep_1.size : Int))))))))) : Int) == r1.1)
  (pAssert (0 ≤ ((IntKind.i64.wrap ((IntKind.i64.wrap (x9 + 1)) - (sep_1.size : Int))) : Int) ∧ ((IntKind.i64.wrap ((IntKind.i64.wrap (x9 + 1)) - (sep_1.size : Int))) : Int) ≤ (IntKind.i64.wrap (x9 + 1)) ∧ (IntKind.i64.wrap (x9 + 1)) ≤ s_0.size) <| k10 ((strEq (s_0.extract ((IntKind.i64.wrap ((IntKind.i64.wrap (x9 + 1)) - (sep_1.size : Int))) : Int).toNat ((IntKind.i64.wrap (x9 + 1)) : Int).toNat) sep_1), ()))
  (k10 (false, ())))
  (fun s => internal_bytealg_IndexRabinKarp_string_j1 s_0 sep_1 K r1 k7 x8 x9 s.1))
  (K (.int .i64 (-1)))
def internal_bytealg_IndexRabinKarp_string_j3 (s_0 : ByteArray) (sep_1 : ByteArray) (K : Value → Pr) (r1 : Int × Int × Unit) (x3 : Int) (x6 : Bool) : Pr :=
  pIf x6
  (K (.int .i64 0))
  (pLoop (σ := Int × Int × Unit) (fun s k7 => internal_bytealg_IndexRabinKarp_string_l2 s_0 sep_1 K r1 k7 s.1 s.2.1) (x3, (sep_1.size : Int), ()))
def internal_bytealg_IndexRabinKarp_string_l4 (s_0 : ByteArray) (sep_1 : ByteArray) (K : Value → Pr) (r1 : Int × Int × Unit) (k2 : Int × Int × Unit → Pr) (x3 : Int) (x4 : Int) : Pr :=
  pIf (decide ((x4 : Int) < (sep_1.size : Int)))
  (pIdx x4 s_0.size <| k2 ((IntKind.u32.wrap ((IntKind.u32.wrap (x3 * 16777619)) + (IntKind.u32.wrap (byteAt s_0 x4)))), (IntKind.i64.wrap (x4 + 1)), ()))
  (pJoin (σ := Bool × Unit)
  (fun k5 => pIf ((x3 : Int) == r1.1)
  (pAssert (0 ≤ (0 : Int) ∧ (0 : Int) ≤ (sep_1.size : Int) ∧ (sep_1.size : Int) ≤ s_0.size) <| k5 ((strEq (s_0.extract (0 : Int).toNat ((sep_1.size : Int) : Int).toNat) sep_1), ()))
  (k5 (false, ())))
  (fun s => internal_bytealg_IndexRabinKarp_string_j3 s_0 sep_1 K r1 x3 s.1))
def internal_bytealg_IndexRabinKarp_string (s_0 : ByteArray) (sep_1 : ByteArray) (KP K : Value → Pr) : Pr :=
  pCall Tryd.prog 90 [(.string sep_1)] KP (.many [(.int .u32), (.int .u32)]) fun (r1 : Int × Int × Unit) => pLoop (σ := Int × Int × Unit) (fun s k2 => internal_bytealg_IndexRabinKarp_string_l4 s_0 sep_1 K r1 k2 s.1 s.2.1) (0, 0, ())
def internal_bytealg_IndexRabinKarp_string_ann : Ann := .two (.none) (.two (.none) (.two (.none) (.two (.none) (.two (.two (.none) (.sub (.loop [(8, (.int .u32)), (9, (.int .i64))] (.two (.two (.none) (.two (.none) (.none))) (.two (.sub (.none)) (.none)))))) (.two (.join (.none) (.two (.two (.none) (.none)) (.none)) [(39, .bool)]) (.two (.two (.none) (.sub (.loop [(8, (.int .u32)), (10, (.int .i64))] (.two (.two (.none) (.two (.none) (.none))) (.sub (.two (.none) (.two (.none) (.two (.none) (.two (.none) (.join (.none) (.two (.two (.none) (.none)) (.none)) [(77, .bool)])))))))))) (.two (.none) (.none))))))))
theorem internal_bytealg_IndexRabinKarp_string_eq (s_0 : ByteArray) (sep_1 : ByteArray) (KP K : Value → Pr) : vcBody Tryd.prog Tryd.f84 (Tryd.f84.body.getD .skip) internal_bytealg_IndexRabinKarp_string_ann [(.string s_0), (.string sep_1)] KP K = internal_bytealg_IndexRabinKarp_string s_0 sep_1 KP K := by kernel_rfl
theorem internal_bytealg_IndexRabinKarp_string_call (s_0 : ByteArray) (sep_1 : ByteArray) {KP K : Value → Pr} {h : Heap} (s : internal_bytealg_IndexRabinKarp_string s_0 sep_1 (fgt KP) (fgt K) h) : WpCall Tryd.prog 84 [(.string s_0), (.string sep_1)].toArray KP K h :=
  WpCall.of_vc Tryd.mixed Tryd.func84 (by kernel_rfl) Tryd.call84 internal_bytealg_IndexRabinKarp_string_ann (by rw [internal_bytealg_IndexRabinKarp_string_eq]; exact s)

/- slices.IndexFunc[[]string,string] -/
def slices_IndexFunc_string_string_l1 (s_0 : Sl) (f_1 : Value) (KP : Value → Pr) (K : Value → Pr) (k1 : Int × Unit → Pr) (x2 : Int) : Pr :=
  pIf (decide ((x2 : Int) < (s_0.len : Int)))
  (pIdx x2 s_0.len <| pSome s_0.base fun a3 => pLd .str (a3.add ((x2 : Int).toNat * 1)) fun (x4 : ByteArray) => pCallV Tryd.prog f_1 [(.string x4)] KP (.one .bool) fun (r5 : Bool) => pIf r5
  (K (.int .i64 x2))
  (k1 ((IntKind.i64.wrap (x2 + 1)), ())))
  (K (.int .i64 (-1)))
def slices_IndexFunc_string_string (s_0 : Sl) (f_1 : Value) (KP K : Value → Pr) : Pr :=
  pLoop (σ := Int × Unit) (fun s k1 => slices_IndexFunc_string_string_l1 s_0 f_1 KP K k1 s.1) (0, ())
def slices_IndexFunc_string_string_ann : Ann := .two (.none) (.two (.two (.none) (.sub (.loop [(8, (.int .i64))] (.two (.none) (.two (.two (.none) (.none)) (.two (.sub (.two (.none) (.two (.none) (.two (.two (.none) (.none)) (.none))))) (.none))))))) (.two (.none) (.none)))
theorem slices_IndexFunc_string_string_eq (s_0 : Sl) (f_1 : Value) (KP K : Value → Pr) : vcBody Tryd.prog Tryd.f85 (Tryd.f85.body.getD .skip) slices_IndexFunc_string_string_ann [(.slice s_0.base s_0.len s_0.cap), f_1] KP K = slices_IndexFunc_string_string s_0 f_1 KP K := by kernel_rfl
theorem slices_IndexFunc_string_string_call (s_0 : Sl) (f_1 : Value) {KP K : Value → Pr} {h : Heap} (s : slices_IndexFunc_string_string s_0 f_1 (fgt KP) (fgt K) h) : WpCall Tryd.prog 85 [(.slice s_0.base s_0.len s_0.cap), f_1].toArray KP K h :=
  WpCall.of_vc Tryd.mixed Tryd.func85 (by kernel_rfl) Tryd.call85 slices_IndexFunc_string_string_ann (by rw [slices_IndexFunc_string_string_eq]; exact s)

end Go.Proofs.YtkbcneomjkfheaaDoor

set_option linter.unusedVariables false
namespace Go.Proofs.YtkbcneomjkfheaaDoor
open Go.Hl
/- strings.genSplit -/
def strings_genSplit_l1 (s_0 : ByteArray) (sep_1 : ByteArray) (sepSave_2 : Int) (KP : Value → Pr) (x4 : Int) (b5 : Nat) (k6 : ByteArray × Int × Unit → Pr) (k7 : ByteArray × Int × Unit → Pr) (x8 : ByteArray) (x9 : Int) : Pr :=
  pIf (decide ((x9 : Int) < (IntKind.i64.wrap ((if (IntKind.i64.wrap ((s_0.size : Int) + 1)) < x4 then (IntKind.i64.wrap ((s_0.size : Int) + 1)) else x4) - 1))))
  (pCall Tryd.prog 43 [(.string x8), (.string sep_1)] KP (.one (.int .i64)) fun (r10 : Int) => pIf (decide ((r10 : Int) < 0))
  (k6 (x8, x9, ()))
  (pAssert (0 ≤ (0 : Int) ∧ (0 : Int) ≤ (IntKind.i64.wrap (r10 + sepSave_2)) ∧ (IntKind.i64.wrap (r10 + sepSave_2)) ≤ x8.size) <| pIdx x9 (((if (IntKind.i64.wrap ((s_0.size : Int) + 1)) < x4 then (IntKind.i64.wrap ((s_0.size : Int) + 1)) else x4) : Int).toNat) <| pSome (some ⟨b5, 0, none⟩) fun a11 => pSt (a11.add ((x9 : Int).toNat * 1)) (.string (x8.extract (0 : Int).toNat ((IntKind.i64.wrap (r10 + sepSave_2)) : Int).toNat)) <| pAssert (0 ≤ ((IntKind.i64.wrap (r10 + (sep_1.size : Int))) : Int) ∧ ((IntKind.i64.wrap (r10 + (sep_1.size : Int))) : Int) ≤ (x8.size : Int) ∧ (x8.size : Int) ≤ x8.size) <| k7 ((x8.extract ((IntKind.i64.wrap (r10 + (sep_1.size : Int))) : Int).toNat ((x8.size : Int) : Int).toNat), (IntKind.i64.wrap (x9 + 1)), ())))
  (k6 (x8, x9, ()))
def strings_genSplit_j2 (s_0 : ByteArray) (K : Value → Pr) (x4 : Int) (b5 : Nat) (x12 : ByteArray) (x13 : Int) : Pr :=
  pIdx x13 (((if (IntKind.i64.wrap ((s_0.size : Int) + 1)) < x4 then (IntKind.i64.wrap ((s_0.size : Int) + 1)) else x4) : Int).toNat) <| pSome (some ⟨b5, 0, none⟩) fun a14 => pSt (a14.add ((x13 : Int).toNat * 1)) (.string x12) <| pAssert (0 ≤ (0 : Int) ∧ (0 : Int) ≤ (IntKind.i64.wrap (x13 + 1)) ∧ (IntKind.i64.wrap (x13 + 1)) ≤ ((((if (IntKind.i64.wrap ((s_0.size : Int) + 1)) < x4 then (IntKind.i64.wrap ((s_0.size : Int) + 1)) else x4) : Int).toNat) : Int)) <| K (.slice (if (((if (IntKind.i64.wrap ((s_0.size : Int) + 1)) < x4 then (IntKind.i64.wrap ((s_0.size : Int) + 1)) else x4) : Int).toNat) = (0 : Int).toNat then (some ⟨b5, 0, none⟩) else ((some ⟨b5, 0, none⟩) : Option Addr).map (·.add ((0 : Int).toNat * 1))) (((IntKind.i64.wrap (x13 + 1)) : Int).toNat - (0 : Int).toNat) ((((if (IntKind.i64.wrap ((s_0.size : Int) + 1)) < x4 then (IntKind.i64.wrap ((s_0.size : Int) + 1)) else x4) : Int).toNat) - (0 : Int).toNat))
def strings_genSplit_j3 (s_0 : ByteArray) (sep_1 : ByteArray) (sepSave_2 : Int) (KP : Value → Pr) (K : Value → Pr) (x4 : Int) : Pr :=
  pAssert (0 ≤ ((if (IntKind.i64.wrap ((s_0.size : Int) + 1)) < x4 then (IntKind.i64.wrap ((s_0.size : Int) + 1)) else x4) : Int) ∧ ((if (IntKind.i64.wrap ((s_0.size : Int) + 1)) < x4 then (IntKind.i64.wrap ((s_0.size : Int) + 1)) else x4) : Int) ≤ ((if (IntKind.i64.wrap ((s_0.size : Int) + 1)) < x4 then (IntKind.i64.wrap ((s_0.size : Int) + 1)) else x4) : Int) ∧ Hl.Roomy ((if (IntKind.i64.wrap ((s_0.size : Int) + 1)) < x4 then (IntKind.i64.wrap ((s_0.size : Int) + 1)) else x4) : Int).toNat 16) <| pNew (reps ((if (IntKind.i64.wrap ((s_0.size : Int) + 1)) < x4 then (IntKind.i64.wrap ((s_0.size : Int) + 1)) else x4) : Int).toNat (zc Tryd.prog 9)) fun b5 => pJoin (σ := ByteArray × Int × Unit)
  (fun k6 => pLoop (σ := ByteArray × Int × Unit) (fun s k7 => strings_genSplit_l1 s_0 sep_1 sepSave_2 KP x4 b5 k6 k7 s.1 s.2.1) (s_0, 0, ()))
  (fun s => strings_genSplit_j2 s_0 K x4 b5 s.1 s.2.1)
def strings_genSplit (s_0 : ByteArray) (sep_1 : ByteArray) (sepSave_2 : Int) (n_3 : Int) (KP K : Value → Pr) : Pr :=
  pIf ((n_3 : Int) == 0)
  (K (.slice none 0 0))
  (pIf (strEq sep_1 (⟨#[]⟩ : ByteArray))
  (pCall Tryd.prog 91 [(.string s_0), (.int .i64 n_3)] KP (.one .slice) fun (r1 : Sl) => K (.slice r1.base r1.len r1.cap))
  (pJoin (σ := Int × Unit)
  (fun k2 => pIf (decide ((n_3 : Int) < 0))
  (pCall Tryd.prog 92 [(.string s_0), (.string sep_1)] KP (.one (.int .i64)) fun (r3 : Int) => k2 ((IntKind.i64.wrap (r3 + 1)), ()))
  (k2 (n_3, ())))
  (fun s => strings_genSplit_j3 s_0 sep_1 sepSave_2 KP K s.1)))
def strings_genSplit_ann : Ann := .two (.none) (.two (.two (.none) (.two (.two (.none) (.none)) (.none))) (.two (.two (.none) (.two (.two (.none) (.none)) (.none))) (.join (.two (.none) (.two (.none) (.none))) (.two (.none) (.two (.none) (.two (.none) (.two (.none) (.join (.sub (.loop [(0, .str), (10, (.int .i64))] (.two (.two (.none) (.two (.none) (.none))) (.sub (.two (.none) (.two (.two (.none) (.two (.none) (.none))) (.two (.none) (.two (.none) (.none))))))))) (.two (.none) (.two (.none) (.none))) [(0, .str), (10, (.int .i64))]))))) [(3, (.int .i64))])))
theorem strings_genSplit_eq (s_0 : ByteArray) (sep_1 : ByteArray) (sepSave_2 : Int) (n_3 : Int) (KP K : Value → Pr) : vcBody Tryd.prog Tryd.f86 (Tryd.f86.body.getD .skip) strings_genSplit_ann [(.string s_0), (.string sep_1), (.int .i64 sepSave_2), (.int .i64 n_3)] KP K = strings_genSplit s_0 sep_1 sepSave_2 n_3 KP K := by kernel_rfl
theorem strings_genSplit_call (s_0 : ByteArray) (sep_1 : ByteArray) (sepSave_2 : Int) (n_3 : Int) {KP K : Value → Pr} {h : Heap} (s : strings_genSplit s_0 sep_1 sepSave_2 n_3 (fgt KP) (fgt K) h) : WpCall Tryd.prog 86 [(.string s_0), (.string sep_1), (.int .i64 sepSave_2), (.int .i64 n_3)].toArray KP K h :=
  WpCall.of_vc Tryd.mixed Tryd.func86 (by kernel_rfl) Tryd.call86 strings_genSplit_ann (by rw [strings_genSplit_eq]; exact s)

/- strings.IndexByte -/
def strings_IndexByte (s_0 : ByteArray) (c_1 : Int) (KP K : Value → Pr) : Pr :=
  pCall Tryd.prog 81 [(.string s_0), (.int .u8 c_1)] KP (.one (.int .i64)) fun (r1 : Int) => K (.int .i64 r1)
def strings_IndexByte_ann : Ann := .two (.none) (.two (.none) (.none))
theorem strings_IndexByte_eq (s_0 : ByteArray) (c_1 : Int) (KP K : Value → Pr) : vcBody Tryd.prog Tryd.f87 (Tryd.f87.body.getD .skip) strings_IndexByte_ann [(.string s_0), (.int .u8 c_1)] KP K = strings_IndexByte s_0 c_1 KP K := by kernel_rfl
theorem strings_IndexByte_call (s_0 : ByteArray) (c_1 : Int) {KP K : Value → Pr} {h : Heap} (s : strings_IndexByte s_0 c_1 (fgt KP) (fgt K) h) : WpCall Tryd.prog 87 [(.string s_0), (.int .u8 c_1)].toArray KP K h :=
  WpCall.of_vc Tryd.mixed Tryd.func87 (by kernel_rfl) Tryd.call87 strings_IndexByte_ann (by rw [strings_IndexByte_eq]; exact s)

/- unicode/utf8.ValidRune -/
def unicode_utf8_ValidRune_j1 (K : Value → Pr) (x4 : Bool) : Pr :=
  pIf x4
  (K (.bool true))
  (K (.bool false))
def unicode_utf8_ValidRune_j2 (r_0 : Int) (K : Value → Pr) (x2 : Bool) : Pr :=
  pIf x2
  (K (.bool true))
  (pJoin (σ := Bool × Unit)
  (fun k3 => pIf (decide ((57343 : Int) < r_0))
  (k3 ((decide ((r_0 : Int) ≤ 1114111)), ()))
  (k3 (false, ())))
  (fun s => unicode_utf8_ValidRune_j1 K s.1))
def unicode_utf8_ValidRune (r_0 : Int) (KP K : Value → Pr) : Pr :=
  pJoin (σ := Bool × Unit)
  (fun k1 => pIf (decide ((0 : Int) ≤ r_0))
  (k1 ((decide ((r_0 : Int) < 55296)), ()))
  (k1 (false, ())))
  (fun s => unicode_utf8_ValidRune_j2 r_0 K s.1)
def unicode_utf8_ValidRune_ann : Ann := .two (.none) (.two (.sub (.join (.none) (.two (.two (.none) (.none)) (.join (.none) (.two (.two (.none) (.none)) (.none)) [(10, .bool)])) [(3, .bool)])) (.two (.none) (.none)))
theorem unicode_utf8_ValidRune_eq (r_0 : Int) (KP K : Value → Pr) : vcBody Tryd.prog Tryd.f88 (Tryd.f88.body.getD .skip) unicode_utf8_ValidRune_ann [(.int .i32 r_0)] KP K = unicode_utf8_ValidRune r_0 KP K := by kernel_rfl
theorem unicode_utf8_ValidRune_call (r_0 : Int) {KP K : Value → Pr} {h : Heap} (s : unicode_utf8_ValidRune r_0 (fgt KP) (fgt K) h) : WpCall Tryd.prog 88 [(.int .i32 r_0)].toArray KP K h :=
  WpCall.of_vc Tryd.mixed Tryd.func88 (by kernel_rfl) Tryd.call88 unicode_utf8_ValidRune_ann (by rw [unicode_utf8_ValidRune_eq]; exact s)

/- internal/bytealg.hashStr[string] -/
def internal_bytealg_hashStr_string_j1 (k4 : Int × Int × Int × Unit → Pr) (x6 : Int) (x7 : Int) (x9 : Int) : Pr :=
  pAssert (0 ≤ (1 : Int)) <| k4 (x9, (IntKind.u32.wrap (x6 * x6)), ((x7 : Int).fdiv (2 ^ (min (1 : Int).toNat (IntKind.i64).bits))), ())
def internal_bytealg_hashStr_string_l2 (K : Value → Pr) (x2 : Int) (k4 : Int × Int × Int × Unit → Pr) (x5 : Int) (x6 : Int) (x7 : Int) : Pr :=
  pIf (decide ((x7 : Int) > 0))
  (pJoin (σ := Int × Unit)
  (fun k8 => pIf (((bitsV .and .i64 x7 1) : Int) != 0)
  (k8 ((IntKind.u32.wrap (x5 * x6)), ()))
  (k8 (x5, ())))
  (fun s => internal_bytealg_hashStr_string_j1 k4 x6 x7 s.1))
  (K (.tuple [(.int .u32 x2), (.int .u32 x5)].toArray))
def internal_bytealg_hashStr_string_l3 (sep_0 : ByteArray) (K : Value → Pr) (k1 : Int × Int × Unit → Pr) (x2 : Int) (x3 : Int) : Pr :=
  pIf (decide ((x3 : Int) < (sep_0.size : Int)))
  (pIdx x3 sep_0.size <| k1 ((IntKind.u32.wrap ((IntKind.u32.wrap (x2 * 16777619)) + (IntKind.u32.wrap (byteAt sep_0 x3)))), (IntKind.i64.wrap (x3 + 1)), ()))
  (pLoop (σ := Int × Int × Int × Unit) (fun s k4 => internal_bytealg_hashStr_string_l2 K x2 k4 s.1 s.2.1 s.2.2.1) (1, 16777619, (sep_0.size : Int), ()))
def internal_bytealg_hashStr_string (sep_0 : ByteArray) (KP K : Value → Pr) : Pr :=
  pLoop (σ := Int × Int × Unit) (fun s k1 => internal_bytealg_hashStr_string_l3 sep_0 K k1 s.1 s.2.1) (0, 0, ())
def internal_bytealg_hashStr_string_ann : Ann := .two (.none) (.two (.none) (.two (.two (.none) (.sub (.loop [(4, (.int .u32)), (5, (.int .i64))] (.two (.two (.none) (.two (.none) (.none))) (.two (.sub (.none)) (.none)))))) (.two (.none) (.two (.two (.none) (.sub (.loop [(6, (.int .u32)), (7, (.int .u32)), (8, (.int .i64))] (.two (.two (.none) (.two (.none) (.none))) (.two (.sub (.join (.two (.none) (.two (.none) (.none))) (.none) [(6, (.int .u32))])) (.none)))))) (.two (.none) (.none))))))
theorem internal_bytealg_hashStr_string_eq (sep_0 : ByteArray) (KP K : Value → Pr) : vcBody Tryd.prog Tryd.f90 (Tryd.f90.body.getD .skip) internal_bytealg_hashStr_string_ann [(.string sep_0)] KP K = internal_bytealg_hashStr_string sep_0 KP K := by kernel_rfl
theorem internal_bytealg_hashStr_string_call (sep_0 : ByteArray) {KP K : Value → Pr} {h : Heap} (s : internal_bytealg_hashStr_string sep_0 (fgt KP) (fgt K) h) : WpCall Tryd.prog 90 [(.string sep_0)].toArray KP K h :=
  WpCall.of_vc Tryd.mixed Tryd.func90 (by kernel_rfl) Tryd.call90 internal_bytealg_hashStr_string_ann (by rw [internal_bytealg_hashStr_string_eq]; exact s)

/- strings.explode -/
def strings_explode_j1 (n_1 : Int) (r1 : Int) (k2 : Int × Unit → Pr) (x4 : Bool) : Pr :=
  pIf x4
  (k2 (r1, ()))
  (k2 (n_1, ()))
def strings_explode_j2 (K : Value → Pr) (x5 : Int) (b6 : Nat) : Pr :=
  K (.slice (some ⟨b6, 0, none⟩) ((x5 : Int).toNat) ((x5 : Int).toNat))
def strings_explode_l3 (KP : Value → Pr) (K : Value → Pr) (x5 : Int) (b6 : Nat) (k7 : ByteArray × Int × Unit → Pr) (x8 : ByteArray) (x9 : Int) : Pr :=
  pIf (decide ((x9 : Int) < (IntKind.i64.wrap (x5 - 1))))
  (pCall Tryd.prog 94 [(.string x8)] KP (.many [(.int .i32), (.int .i64)]) fun (r10 : Int × Int × Unit) => pAssert (0 ≤ (0 : Int) ∧ (0 : Int) ≤ r10.2.1 ∧ r10.2.1 ≤ x8.size) <| pIdx x9 ((x5 : Int).toNat) <| pSome (some ⟨b6, 0, none⟩) fun a11 => pSt (a11.add ((x9 : Int).toNat * 1)) (.string (x8.extract (0 : Int).toNat (r10.2.1 : Int).toNat)) <| pAssert (0 ≤ (r10.2.1 : Int) ∧ (r10.2.1 : Int) ≤ (x8.size : Int) ∧ (x8.size : Int) ≤ x8.size) <| k7 ((x8.extract (r10.2.1 : Int).toNat ((x8.size : Int) : Int).toNat), (IntKind.i64.wrap (x9 + 1)), ()))
  (pJoin (σ := Unit)
  (fun k12 => pIf (decide ((x5 : Int) > 0))
  (pIdx (IntKind.i64.wrap (x5 - 1)) ((x5 : Int).toNat) <| pSome (some ⟨b6, 0, none⟩) fun a13 => pSt (a13.add (((IntKind.i64.wrap (x5 - 1)) : Int).toNat * 1)) (.string x8) <| k12 (()))
  (k12 (())))
  (fun s => strings_explode_j2 K x5 b6))
def strings_explode_j4 (s_0 : ByteArray) (KP : Value → Pr) (K : Value → Pr) (x5 : Int) : Pr :=
  pAssert (0 ≤ (x5 : Int) ∧ (x5 : Int) ≤ (x5 : Int) ∧ Hl.Roomy (x5 : Int).toNat 16) <| pNew (reps (x5 : Int).toNat (zc Tryd.prog 9)) fun b6 => pLoop (σ := ByteArray × Int × Unit) (fun s k7 => strings_explode_l3 KP K x5 b6 k7 s.1 s.2.1) (s_0, 0, ())
def strings_explode (s_0 : ByteArray) (n_1 : Int) (KP K : Value → Pr) : Pr :=
  pCall Tryd.prog 93 [(.string s_0)] KP (.one (.int .i64)) fun (r1 : Int) => pJoin (σ := Int × Unit)
  (fun k2 => pJoin (σ := Bool × Unit)
  (fun k3 => pIf (decide ((n_1 : Int) < 0))
  (k3 (true, ()))
  (k3 ((decide ((n_1 : Int) > r1)), ())))
  (fun s => strings_explode_j1 n_1 r1 k2 s.1))
  (fun s => strings_explode_j4 s_0 KP K s.1)
def strings_explode_ann : Ann := .two (.none) (.two (.none) (.join (.join (.none) (.two (.none) (.none)) [(18, .bool)]) (.two (.none) (.two (.two (.none) (.sub (.loop [(0, .str), (7, (.int .i64))] (.two (.two (.none) (.two (.none) (.none))) (.two (.sub (.two (.none) (.two (.none) (.none)))) (.none)))))) (.join (.two (.none) (.two (.none) (.none))) (.two (.none) (.none)) []))) [(1, (.int .i64))]))
theorem strings_explode_eq (s_0 : ByteArray) (n_1 : Int) (KP K : Value → Pr) : vcBody Tryd.prog Tryd.f91 (Tryd.f91.body.getD .skip) strings_explode_ann [(.string s_0), (.int .i64 n_1)] KP K = strings_explode s_0 n_1 KP K := by kernel_rfl
theorem strings_explode_call (s_0 : ByteArray) (n_1 : Int) {KP K : Value → Pr} {h : Heap} (s : strings_explode s_0 n_1 (fgt KP) (fgt K) h) : WpCall Tryd.prog 91 [(.string s_0), (.int .i64 n_1)].toArray KP K h :=
  WpCall.of_vc Tryd.mixed Tryd.func91 (by kernel_rfl) Tryd.call91 strings_explode_ann (by rw [strings_explode_eq]; exact s)

/- strings.Count -/
def strings_Count_l1 (substr_1 : ByteArray) (KP : Value → Pr) (K : Value → Pr) (k3 : ByteArray × Int × Unit → Pr) (x4 : ByteArray) (x5 : Int) : Pr :=
  pCall Tryd.prog 43 [(.string x4), (.string substr_1)] KP (.one (.int .i64)) fun (r6 : Int) => pIf ((r6 : Int) == (-1))
  (K (.int .i64 x5))
  (pAssert (0 ≤ ((IntKind.i64.wrap (r6 + (substr_1.size : Int))) : Int) ∧ ((IntKind.i64.wrap (r6 + (substr_1.size : Int))) : Int) ≤ (x4.size : Int) ∧ (x4.size : Int) ≤ x4.size) <| k3 ((x4.extract ((IntKind.i64.wrap (r6 + (substr_1.size : Int))) : Int).toNat ((x4.size : Int) : Int).toNat), (IntKind.i64.wrap (x5 + 1)), ()))
def strings_Count (s_0 : ByteArray) (substr_1 : ByteArray) (KP K : Value → Pr) : Pr :=
  pIf (((substr_1.size : Int) : Int) == 0)
  (pCall Tryd.prog 93 [(.string s_0)] KP (.one (.int .i64)) fun (r1 : Int) => K (.int .i64 (IntKind.i64.wrap (r1 + 1))))
  (pIf (((substr_1.size : Int) : Int) == 1)
  (pIdx 0 substr_1.size <| pCall Tryd.prog 95 [(.string s_0), (.int .u8 (byteAt substr_1 0))] KP (.one (.int .i64)) fun (r2 : Int) => K (.int .i64 r2))
  (pLoop (σ := ByteArray × Int × Unit) (fun s k3 => strings_Count_l1 substr_1 KP K k3 s.1 s.2.1) (s_0, 0, ())))
def strings_Count_ann : Ann := .two (.none) (.two (.two (.none) (.two (.two (.none) (.none)) (.none))) (.two (.two (.none) (.two (.two (.none) (.none)) (.none))) (.two (.none) (.sub (.loop [(0, .str), (5, (.int .i64))] (.sub (.two (.none) (.two (.two (.none) (.two (.two (.none) (.none)) (.none))) (.two (.none) (.none))))))))))
theorem strings_Count_eq (s_0 : ByteArray) (substr_1 : ByteArray) (KP K : Value → Pr) : vcBody Tryd.prog Tryd.f92 (Tryd.f92.body.getD .skip) strings_Count_ann [(.string s_0), (.string substr_1)] KP K = strings_Count s_0 substr_1 KP K := by kernel_rfl
theorem strings_Count_call (s_0 : ByteArray) (substr_1 : ByteArray) {KP K : Value → Pr} {h : Heap} (s : strings_Count s_0 substr_1 (fgt KP) (fgt K) h) : WpCall Tryd.prog 92 [(.string s_0), (.string substr_1)].toArray KP K h :=
  WpCall.of_vc Tryd.mixed Tryd.func92 (by kernel_rfl) Tryd.call92 strings_Count_ann (by rw [strings_Count_eq]; exact s)

/- unicode/utf8.RuneCountInString -/
def unicode_utf8_RuneCountInString_l1 (K : Value → Pr) (b1 : Nat) (k2 : Int × Unit → Pr) (x3 : Int) : Pr :=
  pRune b1 (fun (i4 : Int) (c5 : Int) => k2 ((IntKind.i64.wrap (x3 + 1)), ()))
  (K (.int .i64 x3))
def unicode_utf8_RuneCountInString (s_0 : ByteArray) (KP K : Value → Pr) : Pr :=
  pNewObj (.obj (.stringIter s_0 0)) fun b1 => pLoop (σ := Int × Unit) (fun s k2 => unicode_utf8_RuneCountInString_l1 K b1 k2 s.1) (0, ())
def unicode_utf8_RuneCountInString_ann : Ann := .two (.none) (.two (.two (.none) (.sub (.loop [(2, (.int .i64))] (.two (.none) (.two (.two (.none) (.none)) (.sub (.none))))))) (.two (.none) (.none)))
theorem unicode_utf8_RuneCountInString_eq (s_0 : ByteArray) (KP K : Value → Pr) : vcBody Tryd.prog Tryd.f93 (Tryd.f93.body.getD .skip) unicode_utf8_RuneCountInString_ann [(.string s_0)] KP K = unicode_utf8_RuneCountInString s_0 KP K := by kernel_rfl
theorem unicode_utf8_RuneCountInString_call (s_0 : ByteArray) {KP K : Value → Pr} {h : Heap} (s : unicode_utf8_RuneCountInString s_0 (fgt KP) (fgt K) h) : WpCall Tryd.prog 93 [(.string s_0)].toArray KP K h :=
  WpCall.of_vc Tryd.mixed Tryd.func93 (by kernel_rfl) Tryd.call93 unicode_utf8_RuneCountInString_ann (by rw [unicode_utf8_RuneCountInString_eq]; exact s)

/- unicode/utf8.DecodeRuneInString -/
def unicode_utf8_DecodeRuneInString_j1 (s_0 : ByteArray) (KP : Value → Pr) (K : Value → Pr) (x2 : Bool) : Pr :=
  pIf x2
  (pIdx 0 s_0.size <| K (.tuple [(.int .i32 (IntKind.i32.wrap (byteAt s_0 0))), (.int .i64 1)].toArray))
  (pCall Tryd.prog 96 [(.string s_0)] KP (.many [(.int .i32), (.int .i64)]) fun (r3 : Int × Int × Unit) => K (.tuple [(.int .i32 r3.1), (.int .i64 r3.2.1)].toArray))
def unicode_utf8_DecodeRuneInString (s_0 : ByteArray) (KP K : Value → Pr) : Pr :=
  pJoin (σ := Bool × Unit)
  (fun k1 => pIf (!strEq s_0 (⟨#[]⟩ : ByteArray))
  (pIdx 0 s_0.size <| k1 ((decide (((byteAt s_0 0) : Int) < 128)), ()))
  (k1 (false, ())))
  (fun s => unicode_utf8_DecodeRuneInString_j1 s_0 KP K s.1)
def unicode_utf8_DecodeRuneInString_ann : Ann := .two (.none) (.two (.join (.none) (.two (.two (.none) (.none)) (.none)) [(10, .bool)]) (.none))
theorem unicode_utf8_DecodeRuneInString_eq (s_0 : ByteArray) (KP K : Value → Pr) : vcBody Tryd.prog Tryd.f94 (Tryd.f94.body.getD .skip) unicode_utf8_DecodeRuneInString_ann [(.string s_0)] KP K = unicode_utf8_DecodeRuneInString s_0 KP K := by kernel_rfl
theorem unicode_utf8_DecodeRuneInString_call (s_0 : ByteArray) {KP K : Value → Pr} {h : Heap} (s : unicode_utf8_DecodeRuneInString s_0 (fgt KP) (fgt K) h) : WpCall Tryd.prog 94 [(.string s_0)].toArray KP K h :=
  WpCall.of_vc Tryd.mixed Tryd.func94 (by kernel_rfl) Tryd.call94 unicode_utf8_DecodeRuneInString_ann (by rw [unicode_utf8_DecodeRuneInString_eq]; exact s)

end Go.Proofs.YtkbcneomjkfheaaDoor

set_option linter.unusedVariables false
namespace Go.Proofs.YtkbcneomjkfheaaDoor
open Go.Hl
/- unicode/utf8.decodeRuneInStringSlow -/
def unicode_utf8_decodeRuneInStringSlow_j1 (s_0 : ByteArray) (K : Value → Pr) (x11 : Bool) : Pr :=
  pIf x11
  (K (.tuple [(.int .i32 65533), (.int .i64 1)].toArray))
  (pAssert (0 ≤ (18 : Int)) <| pAssert (0 ≤ (12 : Int)) <| pAssert (0 ≤ (6 : Int)) <| K (.tuple [(.int .i32 (bitsV .or .i32 (bitsV .or .i32 (bitsV .or .i32 (IntKind.i32.wrap ((IntKind.i32.wrap (bitsV .and .u8 (byteAt s_0 0) 7)) * 2 ^ (min (18 : Int).toNat (IntKind.i32).bits))) (IntKind.i32.wrap ((IntKind.i32.wrap (bitsV .and .u8 (byteAt s_0 1) 63)) * 2 ^ (min (12 : Int).toNat (IntKind.i32).bits)))) (IntKind.i32.wrap ((IntKind.i32.wrap (bitsV .and .u8 (byteAt s_0 2) 63)) * 2 ^ (min (6 : Int).toNat (IntKind.i32).bits)))) (IntKind.i32.wrap (bitsV .and .u8 (byteAt s_0 3) 63)))), (.int .i64 4)].toArray))
def unicode_utf8_decodeRuneInStringSlow_j2 (s_0 : ByteArray) (K : Value → Pr) (x1 : Int) (x9 : Bool) : Pr :=
  pIf x9
  (K (.tuple [(.int .i32 65533), (.int .i64 1)].toArray))
  (pIf (decide (((IntKind.i64.wrap (bitsV .and .u8 x1 7)) : Int) ≤ 3))
  (pAssert (0 ≤ (12 : Int)) <| pAssert (0 ≤ (6 : Int)) <| K (.tuple [(.int .i32 (bitsV .or .i32 (bitsV .or .i32 (IntKind.i32.wrap ((IntKind.i32.wrap (bitsV .and .u8 (byteAt s_0 0) 15)) * 2 ^ (min (12 : Int).toNat (IntKind.i32).bits))) (IntKind.i32.wrap ((IntKind.i32.wrap (bitsV .and .u8 (byteAt s_0 1) 63)) * 2 ^ (min (6 : Int).toNat (IntKind.i32).bits)))) (IntKind.i32.wrap (bitsV .and .u8 (byteAt s_0 2) 63)))), (.int .i64 3)].toArray))
  (pIdx 3 s_0.size <| pJoin (σ := Bool × Unit)
  (fun k10 => pIf (decide (((byteAt s_0 3) : Int) < 128))
  (k10 (true, ()))
  (k10 ((decide ((191 : Int) < (byteAt s_0 3))), ())))
  (fun s => unicode_utf8_decodeRuneInStringSlow_j1 s_0 K s.1)))
def unicode_utf8_decodeRuneInStringSlow_j3 (s_0 : ByteArray) (K : Value → Pr) (x1 : Int) (x7 : Bool) : Pr :=
  pIf x7
  (K (.tuple [(.int .i32 65533), (.int .i64 1)].toArray))
  (pIf (decide (((IntKind.i64.wrap (bitsV .and .u8 x1 7)) : Int) ≤ 2))
  (pAssert (0 ≤ (6 : Int)) <| K (.tuple [(.int .i32 (bitsV .or .i32 (IntKind.i32.wrap ((IntKind.i32.wrap (bitsV .and .u8 (byteAt s_0 0) 31)) * 2 ^ (min (6 : Int).toNat (IntKind.i32).bits))) (IntKind.i32.wrap (bitsV .and .u8 (byteAt s_0 1) 63)))), (.int .i64 2)].toArray))
  (pIdx 2 s_0.size <| pJoin (σ := Bool × Unit)
  (fun k8 => pIf (decide (((byteAt s_0 2) : Int) < 128))
  (k8 (true, ()))
  (k8 ((decide ((191 : Int) < (byteAt s_0 2))), ())))
  (fun s => unicode_utf8_decodeRuneInStringSlow_j2 s_0 K x1 s.1)))
def unicode_utf8_decodeRuneInStringSlow (s_0 : ByteArray) (KP K : Value → Pr) : Pr :=
  pIf (decide (((s_0.size : Int) : Int) < 1))
  (K (.tuple [(.int .i32 65533), (.int .i64 0)].toArray))
  (pIdx 0 s_0.size <| pIdx (byteAt s_0 0) 256 <| pLd (.int .u8) ((⟨1, 0, none⟩ : Addr).add (((byteAt s_0 0) : Int).toNat * 1)) fun (x1 : Int) => pIf (decide ((x1 : Int) ≥ 240))
  (pAssert (0 ≤ (31 : Int)) <| pAssert (0 ≤ (31 : Int)) <| pIdx 0 s_0.size <| K (.tuple [(.int .i32 (bitsV .or .i32 (bitsV .andNot .i32 (IntKind.i32.wrap (byteAt s_0 0)) (((IntKind.i32.wrap ((IntKind.i32.wrap x1) * 2 ^ (min (31 : Int).toNat (IntKind.i32).bits))) : Int).fdiv (2 ^ (min (31 : Int).toNat (IntKind.i32).bits)))) (bitsV .and .i32 65533 (((IntKind.i32.wrap ((IntKind.i32.wrap x1) * 2 ^ (min (31 : Int).toNat (IntKind.i32).bits))) : Int).fdiv (2 ^ (min (31 : Int).toNat (IntKind.i32).bits)))))), (.int .i64 1)].toArray))
  (pAssert (0 ≤ (4 : Int)) <| pIdx ((x1 : Int).fdiv (2 ^ (min (4 : Int).toNat (IntKind.u8).bits))) 16 <| pLdA 2 ((⟨2, 0, none⟩ : Addr).add ((((x1 : Int).fdiv (2 ^ (min (4 : Int).toNat (IntKind.u8).bits))) : Int).toNat * 2)) fun x2 => pNew (zc Tryd.prog 138) fun b3 => pStA 2 ⟨b3, 0, none⟩ x2 <| pIf (decide (((s_0.size : Int) : Int) < (IntKind.i64.wrap (bitsV .and .u8 x1 7))))
  (K (.tuple [(.int .i32 65533), (.int .i64 1)].toArray))
  (pIdx 1 s_0.size <| pJoin (σ := Bool × Unit)
  (fun k4 => pLd (.int .u8) ((⟨b3, 0, none⟩ : Addr).add 0) fun (x5 : Int) => pIf (decide (((byteAt s_0 1) : Int) < x5))
  (k4 (true, ()))
  (pLd (.int .u8) ((⟨b3, 0, none⟩ : Addr).add 1) fun (x6 : Int) => k4 ((decide ((x6 : Int) < (byteAt s_0 1))), ())))
  (fun s => unicode_utf8_decodeRuneInStringSlow_j3 s_0 K x1 s.1))))
def unicode_utf8_decodeRuneInStringSlow_ann : Ann := .two (.none) (.two (.none) (.two (.two (.none) (.two (.two (.none) (.none)) (.none))) (.two (.none) (.two (.none) (.two (.two (.none) (.two (.two (.none) (.two (.none) (.none))) (.none))) (.two (.none) (.two (.none) (.two (.two (.none) (.two (.two (.none) (.none)) (.none))) (.two (.none) (.two (.join (.none) (.two (.two (.none) (.none)) (.none)) [(57, .bool)]) (.two (.two (.none) (.two (.two (.none) (.none)) (.none))) (.two (.none) (.two (.join (.none) (.two (.two (.none) (.none)) (.none)) [(75, .bool)]) (.two (.two (.none) (.two (.two (.none) (.none)) (.none))) (.two (.none) (.two (.join (.none) (.two (.two (.none) (.none)) (.none)) [(98, .bool)]) (.two (.none) (.none))))))))))))))))))
theorem unicode_utf8_decodeRuneInStringSlow_eq (s_0 : ByteArray) (KP K : Value → Pr) : vcBody Tryd.prog Tryd.f96 (Tryd.f96.body.getD .skip) unicode_utf8_decodeRuneInStringSlow_ann [(.string s_0)] KP K = unicode_utf8_decodeRuneInStringSlow s_0 KP K := by kernel_rfl
theorem unicode_utf8_decodeRuneInStringSlow_call (s_0 : ByteArray) {KP K : Value → Pr} {h : Heap} (s : unicode_utf8_decodeRuneInStringSlow s_0 (fgt KP) (fgt K) h) : WpCall Tryd.prog 96 [(.string s_0)].toArray KP K h :=
  WpCall.of_vc Tryd.mixed Tryd.func96 (by kernel_rfl) Tryd.call96 unicode_utf8_decodeRuneInStringSlow_ann (by rw [unicode_utf8_decodeRuneInStringSlow_eq]; exact s)

/- (halberd/inodes.free).Len -/
def inodes_free_Len (f_0 : Sl) (KP K : Value → Pr) : Pr :=
  K (.int .i64 (f_0.len : Int))
def inodes_free_Len_ann : Ann := .two (.none) (.two (.none) (.none))
theorem inodes_free_Len_eq (f_0 : Sl) (KP K : Value → Pr) : vcBody Tryd.prog Tryd.f115 (Tryd.f115.body.getD .skip) inodes_free_Len_ann [(.slice f_0.base f_0.len f_0.cap)] KP K = inodes_free_Len f_0 KP K := by kernel_rfl
theorem inodes_free_Len_call (f_0 : Sl) {KP K : Value → Pr} {h : Heap} (s : inodes_free_Len f_0 (fgt KP) (fgt K) h) : WpCall Tryd.prog 115 [(.slice f_0.base f_0.len f_0.cap)].toArray KP K h :=
  WpCall.of_vc Tryd.mixed Tryd.func115 (by kernel_rfl) Tryd.call115 inodes_free_Len_ann (by rw [inodes_free_Len_eq]; exact s)

/- (halberd/inodes.free).Less -/
def inodes_free_Less (f_0 : Sl) (i_1 : Int) (k_2 : Int) (KP K : Value → Pr) : Pr :=
  pIdx i_1 f_0.len <| pSome f_0.base fun a1 => pIdx k_2 f_0.len <| pSome f_0.base fun a2 => pLd (.int .i64) (a1.add ((i_1 : Int).toNat * 1)) fun (x3 : Int) => pLd (.int .i64) (a2.add ((k_2 : Int).toNat * 1)) fun (x4 : Int) => K (.bool (decide ((x3 : Int) < x4)))
def inodes_free_Less_ann : Ann := .two (.none) (.two (.ord [0, 1, 2, 4, 5, 6, 3, 7, 8, 9]) (.none))
theorem inodes_free_Less_eq (f_0 : Sl) (i_1 : Int) (k_2 : Int) (KP K : Value → Pr) : vcBody Tryd.prog Tryd.f116 (Tryd.f116.body.getD .skip) inodes_free_Less_ann [(.slice f_0.base f_0.len f_0.cap), (.int .i64 i_1), (.int .i64 k_2)] KP K = inodes_free_Less f_0 i_1 k_2 KP K := by kernel_rfl
theorem inodes_free_Less_call (f_0 : Sl) (i_1 : Int) (k_2 : Int) {KP K : Value → Pr} {h : Heap} (s : inodes_free_Less f_0 i_1 k_2 (fgt KP) (fgt K) h) : WpCall Tryd.prog 116 [(.slice f_0.base f_0.len f_0.cap), (.int .i64 i_1), (.int .i64 k_2)].toArray KP K h :=
  WpCall.of_vc Tryd.mixed Tryd.func116 (by kernel_rfl) Tryd.call116 inodes_free_Less_ann (by rw [inodes_free_Less_eq]; exact s)

/- (halberd/inodes.free).Swap -/
def inodes_free_Swap (f_0 : Sl) (i_1 : Int) (k_2 : Int) (KP K : Value → Pr) : Pr :=
  pIdx k_2 f_0.len <| pSome f_0.base fun a1 => pIdx i_1 f_0.len <| pSome f_0.base fun a2 => pLd (.int .i64) (a1.add ((k_2 : Int).toNat * 1)) fun (x3 : Int) => pLd (.int .i64) (a2.add ((i_1 : Int).toNat * 1)) fun (x4 : Int) => pIdx i_1 f_0.len <| pSome f_0.base fun a5 => pSt (a5.add ((i_1 : Int).toNat * 1)) (.int .i64 x3) <| pIdx k_2 f_0.len <| pSome f_0.base fun a6 => pSt (a6.add ((k_2 : Int).toNat * 1)) (.int .i64 x4) <| K (.tuple [].toArray)
def inodes_free_Swap_ann : Ann := .ord [0, 1, 2, 3, 4, 5, 6, 8, 9, 10, 7, 11, 12, 13, 14, 15]
theorem inodes_free_Swap_eq (f_0 : Sl) (i_1 : Int) (k_2 : Int) (KP K : Value → Pr) : vcBody Tryd.prog Tryd.f117 (Tryd.f117.body.getD .skip) inodes_free_Swap_ann [(.slice f_0.base f_0.len f_0.cap), (.int .i64 i_1), (.int .i64 k_2)] KP K = inodes_free_Swap f_0 i_1 k_2 KP K := by kernel_rfl
theorem inodes_free_Swap_call (f_0 : Sl) (i_1 : Int) (k_2 : Int) {KP K : Value → Pr} {h : Heap} (s : inodes_free_Swap f_0 i_1 k_2 (fgt KP) (fgt K) h) : WpCall Tryd.prog 117 [(.slice f_0.base f_0.len f_0.cap), (.int .i64 i_1), (.int .i64 k_2)].toArray KP K h :=
  WpCall.of_vc Tryd.mixed Tryd.func117 (by kernel_rfl) Tryd.call117 inodes_free_Swap_ann (by rw [inodes_free_Swap_eq]; exact s)

/- (*halberd/inodes.free).Pop -/
def inodes_free_Pop (f_0 : Option Addr) (KP K : Value → Pr) : Pr :=
  pSome f_0 fun a1 => pLd .slice a1 fun (x2 : Sl) => pIdx (IntKind.i64.wrap ((x2.len : Int) - 1)) x2.len <| pSome x2.base fun a3 => pLd (.int .i64) (a3.add (((IntKind.i64.wrap ((x2.len : Int) - 1)) : Int).toNat * 1)) fun (x4 : Int) => pAssert (0 ≤ (0 : Int) ∧ (0 : Int) ≤ (IntKind.i64.wrap ((x2.len : Int) - 1)) ∧ (IntKind.i64.wrap ((x2.len : Int) - 1)) ≤ (x2.cap : Int)) <| pSome f_0 fun a5 => pSt a5 (.slice (if x2.cap = (0 : Int).toNat then x2.base else (x2.base : Option Addr).map (·.add ((0 : Int).toNat * 1))) (((IntKind.i64.wrap ((x2.len : Int) - 1)) : Int).toNat - (0 : Int).toNat) (x2.cap - (0 : Int).toNat)) <| K (.iface 3 (.int .i64 x4))
def inodes_free_Pop_ann : Ann := .two (.none) (.two (.none) (.two (.none) (.two (.none) (.two (.none) (.none)))))
theorem inodes_free_Pop_eq (f_0 : Option Addr) (KP K : Value → Pr) : vcBody Tryd.prog Tryd.f118 (Tryd.f118.body.getD .skip) inodes_free_Pop_ann [(.pointer f_0)] KP K = inodes_free_Pop f_0 KP K := by kernel_rfl
theorem inodes_free_Pop_call (f_0 : Option Addr) {KP K : Value → Pr} {h : Heap} (s : inodes_free_Pop f_0 (fgt KP) (fgt K) h) : WpCall Tryd.prog 118 [(.pointer f_0)].toArray KP K h :=
  WpCall.of_vc Tryd.mixed Tryd.func118 (by kernel_rfl) Tryd.call118 inodes_free_Pop_ann (by rw [inodes_free_Pop_eq]; exact s)

/- (*halberd/inodes.free).Push -/
def inodes_free_Push (f_0 : Option Addr) (x_1 : Value) (KP K : Value → Pr) : Pr :=
  pSome f_0 fun a1 => pUnbox x_1 3 (.int .i64) fun (x2 : Int) => pLd .slice a1 fun (x3 : Sl) => pNew (lay (reps 1 (zc Tryd.prog 3)) [(0, (.int .i64 x2))]) fun b4 => pAppend 1 8 x3 ⟨(some ⟨b4, 0, none⟩), 1, 1⟩ fun s5 => pSome f_0 fun a6 => pSt a6 (.slice s5.base s5.len s5.cap) <| K (.tuple [].toArray)
def inodes_free_Push_ann : Ann := .ord [0, 1, 2, 4, 5, 3, 6, 7, 8, 9]
theorem inodes_free_Push_eq (f_0 : Option Addr) (x_1 : Value) (KP K : Value → Pr) : vcBody Tryd.prog Tryd.f119 (Tryd.f119.body.getD .skip) inodes_free_Push_ann [(.pointer f_0), x_1] KP K = inodes_free_Push f_0 x_1 KP K := by kernel_rfl
theorem inodes_free_Push_call (f_0 : Option Addr) (x_1 : Value) {KP K : Value → Pr} {h : Heap} (s : inodes_free_Push f_0 x_1 (fgt KP) (fgt K) h) : WpCall Tryd.prog 119 [(.pointer f_0), x_1].toArray KP K h :=
  WpCall.of_vc Tryd.mixed Tryd.func119 (by kernel_rfl) Tryd.call119 inodes_free_Push_ann (by rw [inodes_free_Push_eq]; exact s)

end Go.Proofs.YtkbcneomjkfheaaDoor


