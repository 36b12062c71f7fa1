/- Texts of this proof, part V: parts of it in the order in which they build. -/
import Derived.Test.YtkbcneomjkfheaaDoorH2
import Derived.Test.YtkbcneomjkfheaaDoorChecked
namespace Go.Proofs.YtkbcneomjkfheaaDoor
open Go.Hl
theorem Tryd.mixed : Tryd.prog.follows .mixedOrders = true := Tryd.checked.mixed
end Go.Proofs.YtkbcneomjkfheaaDoor

set_option linter.unusedVariables false
namespace Go.Proofs.YtkbcneomjkfheaaDoor
open Go.Hl
/- halberd/halberdlaw22.PathsMay -/
def law22_PathsMay_j1 (uid_1 : Int) (gid_2 : Int) (want_3 : Int) (KP : Value → Pr) (K : Value → Pr) (b1 : Nat) (x7 : Bool) : Pr :=
  pIf x7
  (K (.bool true))
  (pLdA 11 ⟨b1, 0, none⟩ fun x8 => pLdA 11 ⟨b1, 0, none⟩ fun x9 => pCall Tryd.prog 8 [(.agg x8.toArray), (.int .i64 uid_1), (.int .i64 gid_2), (.int .i64 want_3)] KP (.one .bool) fun (r10 : Bool) => pKeep (loadF Tryd.prog 25 (.pointer (some ⟨b1, 0, none⟩)) (.agg x9.toArray)) <| pCall Tryd.prog 9 [(.agg x9.toArray), (.int .i64 uid_1), (.int .i64 gid_2), (.int .i64 want_3)] KP (.one .bool) fun (r11 : Bool) => K (.bool (r10 == r11)))
def law22_PathsMay (x_0 : List Value) (uid_1 : Int) (gid_2 : Int) (want_3 : Int) (KP K : Value → Pr) : Pr :=
  pNew x_0 fun b1 => pCall Tryd.prog 7 [] KP (.one .bool) fun (r2 : Bool) => pIf (!r2)
  (K (.bool false))
  (pJoin (σ := Bool × Unit)
  (fun k3 => pLd .slice ((⟨b1, 0, none⟩ : Addr).add 8) fun (x4 : Sl) => pIf (decide (((x4.len : Int) : Int) > 100))
  (k3 (true, ()))
  (pLd (.int .i64) ((⟨b1, 0, none⟩ : Addr).add 3) fun (x5 : Int) => pIf (decide ((x5 : Int) < 0))
  (k3 (true, ()))
  (pLd (.int .i64) ((⟨b1, 0, none⟩ : Addr).add 3) fun (x6 : Int) => pIf (decide ((x6 : Int) > 4095))
  (k3 (true, ()))
  (pIf (decide ((want_3 : Int) < 0))
  (k3 (true, ()))
  (k3 ((decide ((want_3 : Int) > 7)), ()))))))
  (fun s => law22_PathsMay_j1 uid_1 gid_2 want_3 KP K b1 s.1))
def law22_PathsMay_ann : Ann := .two (.none) (.two (.two (.none) (.two (.two (.none) (.none)) (.none))) (.two (.join (.none) (.two (.two (.none) (.none)) (.none)) [(32, .bool)]) (.two (.ord [1, 2, 3, 6, 7, 8, 0, 5, 4, 9, 10, 11]) (.none))))
theorem law22_PathsMay_eq (x_0 : List Value) (uid_1 : Int) (gid_2 : Int) (want_3 : Int) (KP K : Value → Pr) : vcBody Tryd.prog Tryd.f3 (Tryd.f3.body.getD .skip) law22_PathsMay_ann [(.agg x_0.toArray), (.int .i64 uid_1), (.int .i64 gid_2), (.int .i64 want_3)] KP K = law22_PathsMay x_0 uid_1 gid_2 want_3 KP K := by kernel_rfl
theorem law22_PathsMay_call (x_0 : List Value) (uid_1 : Int) (gid_2 : Int) (want_3 : Int) {KP K : Value → Pr} {h : Heap} (s : law22_PathsMay x_0 uid_1 gid_2 want_3 (fgt KP) (fgt K) h) : WpCall Tryd.prog 3 [(.agg x_0.toArray), (.int .i64 uid_1), (.int .i64 gid_2), (.int .i64 want_3)].toArray KP K h :=
  WpCall.of_vc Tryd.mixed Tryd.func3 (by kernel_rfl) Tryd.call3 law22_PathsMay_ann (by rw [law22_PathsMay_eq]; exact s)

/- halberd/halberdlaw22.PathsLinks -/
def law22_PathsLinks_j1 (K : Value → Pr) (k7 : Int × Unit → Pr) (x8 : Int) (x15 : Bool) : Pr :=
  pIf x15
  (K (.bool false))
  (k7 ((IntKind.i64.wrap (x8 + 1)), ()))
def law22_PathsLinks_j2 (K : Value → Pr) (x28 : Bool) : Pr :=
  K (.bool x28)
def law22_PathsLinks_j3 (n_0 : Int) (KP : Value → Pr) (K : Value → Pr) (r2 : Option Addr) (k7 : Int × Unit → Pr) (x8 : Int) (x10 : Bool) : Pr :=
  pIf x10
  (pCall Tryd.prog 11 [(.pointer r2), (.int .i64 3), (.int .i64 511), (.int .i64 0), (.int .i64 0)] KP (.many [(.int .i64), (.int .i64)]) fun (r11 : Int × Int × Unit) => pJoin (σ := Bool × Unit)
  (fun k12 => pIf ((r11.2.1 : Int) != 0)
  (k12 (true, ()))
  (pAssert (0 ≤ (x8 : Int) ∧ (x8 : Int) ≤ (IntKind.i64.wrap (x8 + 1)) ∧ (IntKind.i64.wrap (x8 + 1)) ≤ (⟨#[97, 98, 99, 100, 101, 102, 103, 104]⟩ : ByteArray).size) <| pCall Tryd.prog 12 [(.pointer r2), (.int .i64 2), (.string ((⟨#[97, 98, 99, 100, 101, 102, 103, 104]⟩ : ByteArray).extract (x8 : Int).toNat ((IntKind.i64.wrap (x8 + 1)) : Int).toNat)), (.int .i64 r11.1)] KP (.one (.int .i64)) fun (r13 : Int) => pIf ((r13 : Int) != 0)
  (k12 (true, ()))
  (pAssert (0 ≤ ((IntKind.i64.wrap (x8 - 1)) : Int) ∧ ((IntKind.i64.wrap (x8 - 1)) : Int) ≤ x8 ∧ x8 ≤ (⟨#[97, 98, 99, 100, 101, 102, 103, 104]⟩ : ByteArray).size) <| pCall Tryd.prog 13 [(.pointer r2), (.int .i64 r11.1), (.string ((⟨#[97, 98, 99, 100, 101, 102, 103, 104]⟩ : ByteArray).extract ((IntKind.i64.wrap (x8 - 1)) : Int).toNat (x8 : Int).toNat))] KP (.one (.int .i64)) fun (r14 : Int) => k12 (((r14 : Int) != 0), ()))))
  (fun s => law22_PathsLinks_j1 K k7 x8 s.1))
  (pAssert (0 ≤ ((IntKind.i64.wrap ((n_0 : Int).tmod 8)) : Int) ∧ ((IntKind.i64.wrap ((n_0 : Int).tmod 8)) : Int) ≤ (IntKind.i64.wrap ((IntKind.i64.wrap ((n_0 : Int).tmod 8)) + 1)) ∧ (IntKind.i64.wrap ((IntKind.i64.wrap ((n_0 : Int).tmod 8)) + 1)) ≤ (⟨#[97, 98, 99, 100, 101, 102, 103, 104]⟩ : ByteArray).size) <| pCall Tryd.prog 14 [(.pointer r2), (.int .i64 2), (.int .i64 0), (.int .i64 0), (.string ((⟨#[97, 98, 99, 100, 101, 102, 103, 104]⟩ : ByteArray).extract ((IntKind.i64.wrap ((n_0 : Int).tmod 8)) : Int).toNat ((IntKind.i64.wrap ((IntKind.i64.wrap ((n_0 : Int).tmod 8)) + 1)) : Int).toNat)), (.bool true)] KP (.many [.agg, (.int .i64)]) fun (r16 : (List Value) × Int × Unit) => pNew (zc Tryd.prog 36) fun b17 => pStA 3 ⟨b17, 0, none⟩ r16.1 <| pAssert (0 ≤ ((IntKind.i64.wrap ((n_0 : Int).tmod 8)) : Int) ∧ ((IntKind.i64.wrap ((n_0 : Int).tmod 8)) : Int) ≤ (IntKind.i64.wrap ((IntKind.i64.wrap ((n_0 : Int).tmod 8)) + 1)) ∧ (IntKind.i64.wrap ((IntKind.i64.wrap ((n_0 : Int).tmod 8)) + 1)) ≤ (⟨#[97, 98, 99, 100, 101, 102, 103, 104]⟩ : ByteArray).size) <| pCall Tryd.prog 14 [(.pointer r2), (.int .i64 2), (.int .i64 0), (.int .i64 0), (.string ((⟨#[97, 98, 99, 100, 101, 102, 103, 104]⟩ : ByteArray).extract ((IntKind.i64.wrap ((n_0 : Int).tmod 8)) : Int).toNat ((IntKind.i64.wrap ((IntKind.i64.wrap ((n_0 : Int).tmod 8)) + 1)) : Int).toNat)), (.bool false)] KP (.many [.agg, (.int .i64)]) fun (r18 : (List Value) × Int × Unit) => pNew (zc Tryd.prog 36) fun b19 => pStA 3 ⟨b19, 0, none⟩ r18.1 <| pCall Tryd.prog 11 [(.pointer r2), (.int .i64 3), (.int .i64 511), (.int .i64 0), (.int .i64 0)] KP (.many [(.int .i64), (.int .i64)]) fun (r20 : Int × Int × Unit) => pCall Tryd.prog 12 [(.pointer r2), (.int .i64 1), (.string (⟨#[122]⟩ : ByteArray)), (.int .i64 r20.1)] KP (.one (.int .i64)) fun (r21 : Int) => pCall Tryd.prog 13 [(.pointer r2), (.int .i64 r20.1), (.string (⟨#[47, 122]⟩ : ByteArray))] KP (.one (.int .i64)) fun (r22 : Int) => pCall Tryd.prog 14 [(.pointer r2), (.int .i64 2), (.int .i64 0), (.int .i64 0), (.string (⟨#[47, 122]⟩ : ByteArray)), (.bool true)] KP (.many [.agg, (.int .i64)]) fun (r23 : (List Value) × Int × Unit) => pNew (zc Tryd.prog 36) fun b24 => pStA 3 ⟨b24, 0, none⟩ r23.1 <| pJoin (σ := Bool × Unit)
  (fun k25 => pIf ((r16.2.1 : Int) == 0)
  (pLdA 3 ⟨b17, 0, none⟩ fun x26 => pAssert (okCells [.int .i64, .str, .int .i64] x26 = true ∧ okCells [.int .i64, .str, .int .i64] (lay (zc Tryd.prog 36) [(0, (.int .i64 2)), (1, (.string (⟨#[97]⟩ : ByteArray))), (2, (.int .i64 3))]) = true) <| pIf (eqCells x26 (lay (zc Tryd.prog 36) [(0, (.int .i64 2)), (1, (.string (⟨#[97]⟩ : ByteArray))), (2, (.int .i64 3))]))
  (pIf ((r18.2.1 : Int) == 0)
  (pLd (.int .i64) ((⟨b19, 0, none⟩ : Addr).add 2) fun (x27 : Int) => pIf ((x27 : Int) == (IntKind.i64.wrap (3 + (IntKind.i64.wrap ((n_0 : Int).tmod 8)))))
  (k25 (((r23.2.1 : Int) == 40), ()))
  (k25 (false, ())))
  (k25 (false, ())))
  (k25 (false, ())))
  (k25 (false, ())))
  (fun s => law22_PathsLinks_j2 K s.1))
def law22_PathsLinks_l4 (n_0 : Int) (KP : Value → Pr) (K : Value → Pr) (r2 : Option Addr) (k7 : Int × Unit → Pr) (x8 : Int) : Pr :=
  pJoin (σ := Bool × Unit)
  (fun k9 => pIf (decide ((x8 : Int) ≤ (IntKind.i64.wrap ((n_0 : Int).tmod 8))))
  (k9 ((decide ((x8 : Int) < 8)), ()))
  (k9 (false, ())))
  (fun s => law22_PathsLinks_j3 n_0 KP K r2 k7 x8 s.1)
def law22_PathsLinks (n_0 : Int) (KP K : Value → Pr) : Pr :=
  pCall Tryd.prog 7 [] KP (.one .bool) fun (r1 : Bool) => pIf (!r1)
  (K (.bool false))
  (pAssert ((8 : Int) ≠ 0) <| pCall Tryd.prog 10 [] KP (.one .ptr) fun (r2 : Option Addr) => pCall Tryd.prog 11 [(.pointer r2), (.int .i64 2), (.int .i64 493), (.int .i64 0), (.int .i64 0)] KP (.many [(.int .i64), (.int .i64)]) fun (r3 : Int × Int × Unit) => pCall Tryd.prog 12 [(.pointer r2), (.int .i64 1), (.string (⟨#[100]⟩ : ByteArray)), (.int .i64 2)] KP (.one (.int .i64)) fun (r4 : Int) => pCall Tryd.prog 11 [(.pointer r2), (.int .i64 1), (.int .i64 420), (.int .i64 0), (.int .i64 0)] KP (.many [(.int .i64), (.int .i64)]) fun (r5 : Int × Int × Unit) => pCall Tryd.prog 12 [(.pointer r2), (.int .i64 2), (.string (⟨#[97]⟩ : ByteArray)), (.int .i64 3)] KP (.one (.int .i64)) fun (r6 : Int) => pLoop (σ := Int × Unit) (fun s k7 => law22_PathsLinks_l4 n_0 KP K r2 k7 s.1) (1, ()))
def law22_PathsLinks_ann : Ann := .two (.none) (.two (.two (.none) (.two (.two (.none) (.none)) (.none))) (.two (.none) (.two (.none) (.two (.none) (.two (.none) (.two (.none) (.two (.none) (.two (.none) (.two (.two (.none) (.sub (.loop [(6, (.int .i64))] (.two (.join (.none) (.two (.none) (.none)) [(37, .bool)]) (.two (.sub (.two (.none) (.join (.none) (.two (.two (.none) (.none)) (.none)) [(68, .bool)]))) (.none)))))) (.two (.none) (.two (.none) (.two (.none) (.two (.none) (.two (.none) (.two (.none) (.join (.none) (.none) [(2, .bool)]))))))))))))))))
theorem law22_PathsLinks_eq (n_0 : Int) (KP K : Value → Pr) : vcBody Tryd.prog Tryd.f4 (Tryd.f4.body.getD .skip) law22_PathsLinks_ann [(.int .u8 n_0)] KP K = law22_PathsLinks n_0 KP K := by kernel_rfl
theorem law22_PathsLinks_call (n_0 : Int) {KP K : Value → Pr} {h : Heap} (s : law22_PathsLinks n_0 (fgt KP) (fgt K) h) : WpCall Tryd.prog 4 [(.int .u8 n_0)].toArray KP K h :=
  WpCall.of_vc Tryd.mixed Tryd.func4 (by kernel_rfl) Tryd.call4 law22_PathsLinks_ann (by rw [law22_PathsLinks_eq]; exact s)

/- halberd/halberdlaw22.PathsOf -/
def law22_PathsOf_j1 (K : Value → Pr) (x6 : Bool) : Pr :=
  K (.bool x6)
def law22_PathsOf (l_0 : Sl) (ino_1 : Int) (KP K : Value → Pr) : Pr :=
  pCall Tryd.prog 7 [] KP (.one .bool) fun (r1 : Bool) => pIf (!r1)
  (K (.bool false))
  (pCall Tryd.prog 15 [(.slice l_0.base l_0.len l_0.cap)] KP (.many [.ptr, .ptr]) fun (r2 : (Option Addr) × (Option Addr) × Unit) => pJoin (σ := Bool × Unit)
  (fun k3 => pIf (r2.1.isNone)
  (k3 (true, ()))
  (pCall Tryd.prog 16 [(.pointer r2.1), (.int .i64 ino_1)] KP (.one .str) fun (r4 : ByteArray) => pCall Tryd.prog 17 [(.pointer r2.2.1), (.int .i64 ino_1)] KP (.one .str) fun (r5 : ByteArray) => k3 ((strEq r4 r5), ())))
  (fun s => law22_PathsOf_j1 K s.1))
def law22_PathsOf_ann : Ann := .two (.none) (.two (.two (.none) (.two (.two (.none) (.none)) (.none))) (.two (.none) (.join (.none) (.none) [(4, .bool)])))
theorem law22_PathsOf_eq (l_0 : Sl) (ino_1 : Int) (KP K : Value → Pr) : vcBody Tryd.prog Tryd.f5 (Tryd.f5.body.getD .skip) law22_PathsOf_ann [(.slice l_0.base l_0.len l_0.cap), (.int .i64 ino_1)] KP K = law22_PathsOf l_0 ino_1 KP K := by kernel_rfl
theorem law22_PathsOf_call (l_0 : Sl) (ino_1 : Int) {KP K : Value → Pr} {h : Heap} (s : law22_PathsOf l_0 ino_1 (fgt KP) (fgt K) h) : WpCall Tryd.prog 5 [(.slice l_0.base l_0.len l_0.cap), (.int .i64 ino_1)].toArray KP K h :=
  WpCall.of_vc Tryd.mixed Tryd.func5 (by kernel_rfl) Tryd.call5 law22_PathsOf_ann (by rw [law22_PathsOf_eq]; exact s)

/- halberd/halberdlaw22.PathsBack -/
def law22_PathsBack_j1 (K : Value → Pr) (x13 : Bool) : Pr :=
  K (.bool x13)
def law22_PathsBack_j2 (ino_1 : Int) (KP : Value → Pr) (K : Value → Pr) (r2 : (Option Addr) × (Option Addr) × Unit) (r6 : ByteArray) (x8 : Bool) : Pr :=
  pIf x8
  (K (.bool true))
  (pCall Tryd.prog 14 [(.pointer r2.1), (.int .i64 1), (.int .i64 0), (.int .i64 0), (.string r6), (.bool false)] KP (.many [.agg, (.int .i64)]) fun (r9 : (List Value) × Int × Unit) => pNew (zc Tryd.prog 36) fun b10 => pStA 3 ⟨b10, 0, none⟩ r9.1 <| pJoin (σ := Bool × Unit)
  (fun k11 => pIf ((r9.2.1 : Int) == 0)
  (pLd (.int .i64) ((⟨b10, 0, none⟩ : Addr).add 2) fun (x12 : Int) => k11 (((x12 : Int) == ino_1), ()))
  (k11 (false, ())))
  (fun s => law22_PathsBack_j1 K s.1))
def law22_PathsBack_j3 (ino_1 : Int) (KP : Value → Pr) (K : Value → Pr) (r2 : (Option Addr) × (Option Addr) × Unit) (x5 : Bool) : Pr :=
  pIf x5
  (K (.bool true))
  (pCall Tryd.prog 16 [(.pointer r2.1), (.int .i64 ino_1)] KP (.one .str) fun (r6 : ByteArray) => pJoin (σ := Bool × Unit)
  (fun k7 => pIf (strEq r6 (⟨#[]⟩ : ByteArray))
  (k7 (true, ()))
  (k7 ((decide (((r6.size : Int) : Int) > 64)), ())))
  (fun s => law22_PathsBack_j2 ino_1 KP K r2 r6 s.1))
def law22_PathsBack (l_0 : Sl) (ino_1 : Int) (KP K : Value → Pr) : Pr :=
  pCall Tryd.prog 7 [] KP (.one .bool) fun (r1 : Bool) => pIf (!r1)
  (K (.bool false))
  (pCall Tryd.prog 15 [(.slice l_0.base l_0.len l_0.cap)] KP (.many [.ptr, .ptr]) fun (r2 : (Option Addr) × (Option Addr) × Unit) => pJoin (σ := Bool × Unit)
  (fun k3 => pIf (r2.1.isNone)
  (k3 (true, ()))
  (pCall Tryd.prog 18 [(.pointer r2.2.1)] KP (.one .bool) fun (r4 : Bool) => k3 (r4, ())))
  (fun s => law22_PathsBack_j3 ino_1 KP K r2 s.1))
def law22_PathsBack_ann : Ann := .two (.none) (.two (.two (.none) (.two (.two (.none) (.none)) (.none))) (.two (.none) (.two (.join (.none) (.two (.two (.none) (.none)) (.none)) [(22, .bool)]) (.two (.none) (.two (.join (.none) (.two (.two (.none) (.none)) (.none)) [(32, .bool)]) (.two (.none) (.join (.none) (.none) [(4, .bool)])))))))
theorem law22_PathsBack_eq (l_0 : Sl) (ino_1 : Int) (KP K : Value → Pr) : vcBody Tryd.prog Tryd.f6 (Tryd.f6.body.getD .skip) law22_PathsBack_ann [(.slice l_0.base l_0.len l_0.cap), (.int .i64 ino_1)] KP K = law22_PathsBack l_0 ino_1 KP K := by kernel_rfl
theorem law22_PathsBack_call (l_0 : Sl) (ino_1 : Int) {KP K : Value → Pr} {h : Heap} (s : law22_PathsBack l_0 ino_1 (fgt KP) (fgt K) h) : WpCall Tryd.prog 6 [(.slice l_0.base l_0.len l_0.cap), (.int .i64 ino_1)].toArray KP K h :=
  WpCall.of_vc Tryd.mixed Tryd.func6 (by kernel_rfl) Tryd.call6 law22_PathsBack_ann (by rw [law22_PathsBack_eq]; exact s)

/- halberd/halberdlaw22.alive -/
def law22_alive_j1 (K : Value → Pr) (x16 : Bool) : Pr :=
  K (.bool x16)
def law22_alive  (KP K : Value → Pr) : Pr :=
  pCall Tryd.prog 10 [] KP (.one .ptr) fun (r1 : Option Addr) => pCall Tryd.prog 11 [(.pointer r1), (.int .i64 1), (.int .i64 420), (.int .i64 0), (.int .i64 0)] KP (.many [(.int .i64), (.int .i64)]) fun (r2 : Int × Int × Unit) => pCall Tryd.prog 12 [(.pointer r1), (.int .i64 1), (.string (⟨#[97]⟩ : ByteArray)), (.int .i64 2)] KP (.one (.int .i64)) fun (r3 : Int) => pCall Tryd.prog 11 [(.pointer r1), (.int .i64 3), (.int .i64 511), (.int .i64 0), (.int .i64 0)] KP (.many [(.int .i64), (.int .i64)]) fun (r4 : Int × Int × Unit) => pCall Tryd.prog 12 [(.pointer r1), (.int .i64 1), (.string (⟨#[108]⟩ : ByteArray)), (.int .i64 3)] KP (.one (.int .i64)) fun (r5 : Int) => pCall Tryd.prog 13 [(.pointer r1), (.int .i64 3), (.string (⟨#[108]⟩ : ByteArray))] KP (.one (.int .i64)) fun (r6 : Int) => pCall Tryd.prog 14 [(.pointer r1), (.int .i64 1), (.int .i64 0), (.int .i64 0), (.string (⟨#[47]⟩ : ByteArray)), (.bool true)] KP (.many [.agg, (.int .i64)]) fun (r7 : (List Value) × Int × Unit) => pNew (zc Tryd.prog 36) fun b8 => pStA 3 ⟨b8, 0, none⟩ r7.1 <| pCall Tryd.prog 14 [(.pointer r1), (.int .i64 1), (.int .i64 0), (.int .i64 0), (.string (⟨#[97, 47, 98]⟩ : ByteArray)), (.bool true)] KP (.many [.agg, (.int .i64)]) fun (r9 : (List Value) × Int × Unit) => pNew (zc Tryd.prog 36) fun b10 => pStA 3 ⟨b10, 0, none⟩ r9.1 <| pCall Tryd.prog 14 [(.pointer r1), (.int .i64 1), (.int .i64 0), (.int .i64 0), (.string (⟨#[108]⟩ : ByteArray)), (.bool true)] KP (.many [.agg, (.int .i64)]) fun (r11 : (List Value) × Int × Unit) => pNew (zc Tryd.prog 36) fun b12 => pStA 3 ⟨b12, 0, none⟩ r11.1 <| pJoin (σ := Bool × Unit)
  (fun k13 => pIf ((r7.2.1 : Int) == 0)
  (pLdA 3 ⟨b8, 0, none⟩ fun x14 => pAssert (okCells [.int .i64, .str, .int .i64] x14 = true ∧ okCells [.int .i64, .str, .int .i64] (lay (zc Tryd.prog 36) [(0, (.int .i64 1)), (2, (.int .i64 1))]) = true) <| pIf (eqCells x14 (lay (zc Tryd.prog 36) [(0, (.int .i64 1)), (2, (.int .i64 1))]))
  (pIf ((r9.2.1 : Int) == 20)
  (pIf ((r11.2.1 : Int) == 40)
  (pCall Tryd.prog 16 [(.pointer r1), (.int .i64 2)] KP (.one .str) fun (r15 : ByteArray) => k13 ((strEq r15 (⟨#[47, 97]⟩ : ByteArray)), ()))
  (k13 (false, ())))
  (k13 (false, ())))
  (k13 (false, ())))
  (k13 (false, ())))
  (fun s => law22_alive_j1 K s.1)
def law22_alive_ann : Ann := .two (.none) (.two (.none) (.two (.none) (.two (.none) (.two (.none) (.two (.none) (.two (.none) (.two (.none) (.two (.none) (.two (.none) (.join (.none) (.none) [(0, .bool)]))))))))))
theorem law22_alive_eq  (KP K : Value → Pr) : vcBody Tryd.prog Tryd.f7 (Tryd.f7.body.getD .skip) law22_alive_ann [] KP K = law22_alive  KP K := by kernel_rfl
theorem law22_alive_call  {KP K : Value → Pr} {h : Heap} (s : law22_alive  (fgt KP) (fgt K) h) : WpCall Tryd.prog 7 [].toArray KP K h :=
  WpCall.of_vc Tryd.mixed Tryd.func7 (by kernel_rfl) Tryd.call7 law22_alive_ann (by rw [law22_alive_eq]; exact s)

/- halberd/paths.May -/
def paths_May_j1 (K : Value → Pr) (x7 : Bool) : Pr :=
  K (.bool x7)
def paths_May_j2 (want_3 : Int) (K : Value → Pr) (x12 : Int) : Pr :=
  K (.bool (((bitsV .and .i64 x12 want_3) : Int) == want_3))
def paths_May (x_0 : List Value) (uid_1 : Int) (gid_2 : Int) (want_3 : Int) (KP K : Value → Pr) : Pr :=
  pNew x_0 fun b1 => pLd (.int .i64) ((⟨b1, 0, none⟩ : Addr).add 3) fun (x2 : Int) => pJoin (σ := Int × Unit)
  (fun k3 => pIf ((uid_1 : Int) == 0)
  (pJoin (σ := Bool × Unit)
  (fun k4 => pIf (((bitsV .and .i64 want_3 1) : Int) == 0)
  (k4 (true, ()))
  (pLd (.int .i64) ((⟨b1, 0, none⟩ : Addr).add 2) fun (x5 : Int) => pIf ((x5 : Int) == 2)
  (k4 (true, ()))
  (pLd (.int .i64) ((⟨b1, 0, none⟩ : Addr).add 3) fun (x6 : Int) => k4 ((((bitsV .and .i64 x6 73) : Int) != 0), ()))))
  (fun s => paths_May_j1 K s.1))
  (pLd (.int .i64) ((⟨b1, 0, none⟩ : Addr).add 4) fun (x8 : Int) => pIf ((uid_1 : Int) == x8)
  (pLd (.int .i64) ((⟨b1, 0, none⟩ : Addr).add 3) fun (x9 : Int) => pAssert (0 ≤ (6 : Int)) <| k3 ((bitsV .and .i64 ((x9 : Int).fdiv (2 ^ (min (6 : Int).toNat (IntKind.i64).bits))) 7), ()))
  (pLd (.int .i64) ((⟨b1, 0, none⟩ : Addr).add 5) fun (x10 : Int) => pIf ((gid_2 : Int) == x10)
  (pLd (.int .i64) ((⟨b1, 0, none⟩ : Addr).add 3) fun (x11 : Int) => pAssert (0 ≤ (3 : Int)) <| k3 ((bitsV .and .i64 ((x11 : Int).fdiv (2 ^ (min (3 : Int).toNat (IntKind.i64).bits))) 7), ()))
  (k3 ((bitsV .and .i64 x2 7), ())))))
  (fun s => paths_May_j2 want_3 K s.1)
def paths_May_ann : Ann := .two (.none) (.two (.none) (.join (.sub (.two (.none) (.two (.join (.none) (.none) [(8, .bool)]) (.two (.none) (.two (.none) (.two (.none) (.two (.none) (.none)))))))) (.two (.none) (.none)) [(9, (.int .i64))]))
theorem paths_May_eq (x_0 : List Value) (uid_1 : Int) (gid_2 : Int) (want_3 : Int) (KP K : Value → Pr) : vcBody Tryd.prog Tryd.f8 (Tryd.f8.body.getD .skip) paths_May_ann [(.agg x_0.toArray), (.int .i64 uid_1), (.int .i64 gid_2), (.int .i64 want_3)] KP K = paths_May x_0 uid_1 gid_2 want_3 KP K := by kernel_rfl
theorem paths_May_call (x_0 : List Value) (uid_1 : Int) (gid_2 : Int) (want_3 : Int) {KP K : Value → Pr} {h : Heap} (s : paths_May x_0 uid_1 gid_2 want_3 (fgt KP) (fgt K) h) : WpCall Tryd.prog 8 [(.agg x_0.toArray), (.int .i64 uid_1), (.int .i64 gid_2), (.int .i64 want_3)].toArray KP K h :=
  WpCall.of_vc Tryd.mixed Tryd.func8 (by kernel_rfl) Tryd.call8 paths_May_ann (by rw [paths_May_eq]; exact s)

/- halberd/halberdref22.May -/
def ref22_May_j1 (K : Value → Pr) (x7 : Bool) : Pr :=
  K (.bool x7)
def ref22_May_j2 (want_3 : Int) (K : Value → Pr) (x14 : Int) : Pr :=
  K (.bool (((bitsV .and .i64 x14 want_3) : Int) == want_3))
def ref22_May (x_0 : List Value) (uid_1 : Int) (gid_2 : Int) (want_3 : Int) (KP K : Value → Pr) : Pr :=
  pNew x_0 fun b1 => pIf ((uid_1 : Int) == 0)
  (pJoin (σ := Bool × Unit)
  (fun k2 => pAssert ((2 : Int) ≠ 0) <| pIf ((((want_3 : Int).tmod 2) : Int) == 0)
  (k2 (true, ()))
  (pLd (.int .i64) ((⟨b1, 0, none⟩ : Addr).add 2) fun (x3 : Int) => pIf ((x3 : Int) == 2)
  (k2 (true, ()))
  (pLd (.int .i64) ((⟨b1, 0, none⟩ : Addr).add 3) fun (x4 : Int) => pAssert ((2 : Int) ≠ 0) <| pIf ((((x4 : Int).tmod 2) : Int) == 1)
  (k2 (true, ()))
  (pLd (.int .i64) ((⟨b1, 0, none⟩ : Addr).add 3) fun (x5 : Int) => pAssert ((8 : Int) ≠ 0) <| pAssert ((2 : Int) ≠ 0) <| pIf (((((IntKind.i64.wrap ((x5 : Int).tdiv 8)) : Int).tmod 2) : Int) == 1)
  (k2 (true, ()))
  (pLd (.int .i64) ((⟨b1, 0, none⟩ : Addr).add 3) fun (x6 : Int) => pAssert ((64 : Int) ≠ 0) <| pAssert ((2 : Int) ≠ 0) <| k2 ((((((IntKind.i64.wrap ((x6 : Int).tdiv 64)) : Int).tmod 2) : Int) == 1), ()))))))
  (fun s => ref22_May_j1 K s.1))
  (pLd (.int .i64) ((⟨b1, 0, none⟩ : Addr).add 3) fun (x8 : Int) => pAssert ((8 : Int) ≠ 0) <| pJoin (σ := Int × Unit)
  (fun k9 => pLd (.int .i64) ((⟨b1, 0, none⟩ : Addr).add 4) fun (x10 : Int) => pIf ((uid_1 : Int) == x10)
  (pLd (.int .i64) ((⟨b1, 0, none⟩ : Addr).add 3) fun (x11 : Int) => pAssert ((64 : Int) ≠ 0) <| pAssert ((8 : Int) ≠ 0) <| k9 ((((IntKind.i64.wrap ((x11 : Int).tdiv 64)) : Int).tmod 8), ()))
  (pLd (.int .i64) ((⟨b1, 0, none⟩ : Addr).add 5) fun (x12 : Int) => pIf ((gid_2 : Int) == x12)
  (pLd (.int .i64) ((⟨b1, 0, none⟩ : Addr).add 3) fun (x13 : Int) => pAssert ((8 : Int) ≠ 0) <| pAssert ((8 : Int) ≠ 0) <| k9 ((((IntKind.i64.wrap ((x13 : Int).tdiv 8)) : Int).tmod 8), ()))
  (k9 (((x8 : Int).tmod 8), ()))))
  (fun s => ref22_May_j2 want_3 K s.1))
def ref22_May_ann : Ann := .two (.none) (.two (.two (.none) (.two (.join (.none) (.none) [(8, .bool)]) (.none))) (.two (.none) (.join (.two (.none) (.two (.none) (.two (.none) (.two (.none) (.none))))) (.two (.none) (.none)) [(9, (.int .i64))])))
theorem ref22_May_eq (x_0 : List Value) (uid_1 : Int) (gid_2 : Int) (want_3 : Int) (KP K : Value → Pr) : vcBody Tryd.prog Tryd.f9 (Tryd.f9.body.getD .skip) ref22_May_ann [(.agg x_0.toArray), (.int .i64 uid_1), (.int .i64 gid_2), (.int .i64 want_3)] KP K = ref22_May x_0 uid_1 gid_2 want_3 KP K := by kernel_rfl
theorem ref22_May_call (x_0 : List Value) (uid_1 : Int) (gid_2 : Int) (want_3 : Int) {KP K : Value → Pr} {h : Heap} (s : ref22_May x_0 uid_1 gid_2 want_3 (fgt KP) (fgt K) h) : WpCall Tryd.prog 9 [(.agg x_0.toArray), (.int .i64 uid_1), (.int .i64 gid_2), (.int .i64 want_3)].toArray KP K h :=
  WpCall.of_vc Tryd.mixed Tryd.func9 (by kernel_rfl) Tryd.call9 ref22_May_ann (by rw [ref22_May_eq]; exact s)

/- halberd/inodes.New -/
def inodes_New_l1 (KP : Value → Pr) (K : Value → Pr) (b1 : Nat) (k2 : Int × Unit → Pr) (x3 : Int) : Pr :=
  pIf (decide ((x3 : Int) ≤ 24))
  (pSome (some ⟨b1, 0, none⟩) fun a4 => pCall Tryd.prog 19 [(.iface 54 (.pointer (some (a4.add 275)))), (.iface 3 (.int .i64 x3))] KP (.many []) fun (r5 : Unit) => k2 ((IntKind.i64.wrap (x3 + 1)), ()))
  (pSome (some ⟨b1, 0, none⟩) fun a6 => pIdx 1 25 <| pStA 11 ((a6.add 0).add ((1 : Int).toNat * 11)) (lay (zc Tryd.prog 25) [(0, (.int .i64 1)), (1, (.int .i64 1)), (2, (.int .i64 2)), (3, (.int .i64 493)), (6, (.int .i64 1)), (10, (.int .i64 1))]) <| K (.pointer (some ⟨b1, 0, none⟩)))
def inodes_New  (KP K : Value → Pr) : Pr :=
  pNew (lay (zc Tryd.prog 52) []) fun b1 => pLoop (σ := Int × Unit) (fun s k2 => inodes_New_l1 KP K b1 k2 s.1) (2, ())
def inodes_New_ann : Ann := .two (.none) (.two (.none) (.two (.two (.none) (.sub (.loop [(2, (.int .i64))] (.two (.two (.none) (.two (.none) (.none))) (.two (.sub (.none)) (.none)))))) (.two (.none) (.two (.none) (.none)))))
theorem inodes_New_eq  (KP K : Value → Pr) : vcBody Tryd.prog Tryd.f10 (Tryd.f10.body.getD .skip) inodes_New_ann [] KP K = inodes_New  KP K := by kernel_rfl
theorem inodes_New_call  {KP K : Value → Pr} {h : Heap} (s : inodes_New  (fgt KP) (fgt K) h) : WpCall Tryd.prog 10 [].toArray KP K h :=
  WpCall.of_vc Tryd.mixed Tryd.func10 (by kernel_rfl) Tryd.call10 inodes_New_ann (by rw [inodes_New_eq]; exact s)

end Go.Proofs.YtkbcneomjkfheaaDoor

set_option linter.unusedVariables false
namespace Go.Proofs.YtkbcneomjkfheaaDoor
open Go.Hl
/- (*halberd/inodes.Table).Add -/
def inodes_Table_Add_j1 (t_0 : Option Addr) (kind_1 : Int) (mode_2 : Int) (uid_3 : Int) (gid_4 : Int) (KP : Value → Pr) (K : Value → Pr) (x2 : Bool) : Pr :=
  pIf x2
  (K (.tuple [(.int .i64 0), (.int .i64 22)].toArray))
  (pSome t_0 fun a3 => pLd .slice (a3.add 275) fun (x4 : Sl) => pIf (((x4.len : Int) : Int) == 0)
  (K (.tuple [(.int .i64 0), (.int .i64 28)].toArray))
  (pSome t_0 fun a5 => pCall Tryd.prog 20 [(.iface 54 (.pointer (some (a5.add 275))))] KP (.one .any) fun (r6 : Value) => pUnbox r6 3 (.int .i64) fun (x7 : Int) => pSome t_0 fun a8 => pIdx x7 25 <| pSome t_0 fun a9 => pLd (.int .i64) (((a8.add 0).add ((x7 : Int).toNat * 11)).add 1) fun (x10 : Int) => pIdx x7 25 <| pStA 11 ((a9.add 0).add ((x7 : Int).toNat * 11)) (lay (zc Tryd.prog 25) [(0, (.int .i64 x7)), (1, (.int .i64 (IntKind.i64.wrap (x10 + 1)))), (2, (.int .i64 kind_1)), (3, (.int .i64 mode_2)), (4, (.int .i64 uid_3)), (5, (.int .i64 gid_4))]) <| K (.tuple [(.int .i64 x7), (.int .i64 0)].toArray)))
def inodes_Table_Add (t_0 : Option Addr) (kind_1 : Int) (mode_2 : Int) (uid_3 : Int) (gid_4 : Int) (KP K : Value → Pr) : Pr :=
  pJoin (σ := Bool × Unit)
  (fun k1 => pIf (decide ((kind_1 : Int) < 1))
  (k1 (true, ()))
  (pIf (decide ((kind_1 : Int) > 3))
  (k1 (true, ()))
  (k1 ((t_0.isNone), ()))))
  (fun s => inodes_Table_Add_j1 t_0 kind_1 mode_2 uid_3 gid_4 KP K s.1)
def inodes_Table_Add_ann : Ann := .two (.none) (.two (.sub (.join (.none) (.two (.two (.none) (.none)) (.two (.none) (.two (.two (.none) (.none)) (.none)))) [(13, .bool)])) (.two (.none) (.two (.ord [0, 1, 2, 3, 4, 5, 6, 7, 8, 11, 12, 13, 14, 16, 17, 9, 10, 15, 18, 19]) (.two (.none) (.none)))))
theorem inodes_Table_Add_eq (t_0 : Option Addr) (kind_1 : Int) (mode_2 : Int) (uid_3 : Int) (gid_4 : Int) (KP K : Value → Pr) : vcBody Tryd.prog Tryd.f11 (Tryd.f11.body.getD .skip) inodes_Table_Add_ann [(.pointer t_0), (.int .i64 kind_1), (.int .i64 mode_2), (.int .i64 uid_3), (.int .i64 gid_4)] KP K = inodes_Table_Add t_0 kind_1 mode_2 uid_3 gid_4 KP K := by kernel_rfl
theorem inodes_Table_Add_call (t_0 : Option Addr) (kind_1 : Int) (mode_2 : Int) (uid_3 : Int) (gid_4 : Int) {KP K : Value → Pr} {h : Heap} (s : inodes_Table_Add t_0 kind_1 mode_2 uid_3 gid_4 (fgt KP) (fgt K) h) : WpCall Tryd.prog 11 [(.pointer t_0), (.int .i64 kind_1), (.int .i64 mode_2), (.int .i64 uid_3), (.int .i64 gid_4)].toArray KP K h :=
  WpCall.of_vc Tryd.mixed Tryd.func11 (by kernel_rfl) Tryd.call11 inodes_Table_Add_ann (by rw [inodes_Table_Add_eq]; exact s)

/- (*halberd/inodes.Table).Enter -/
def inodes_Table_Enter_j1 (K : Value → Pr) : Pr :=
  K (.int .i64 0)
def inodes_Table_Enter_j2 (dir_1 : Int) (name_2 : ByteArray) (ino_3 : Int) (KP : Value → Pr) (K : Value → Pr) (r1 : Option Addr) (r2 : Option Addr) (x5 : Bool) : Pr :=
  pIf x5
  (K (.int .i64 2))
  (pSome r1 fun a6 => pLd (.int .i64) (a6.add 2) fun (x7 : Int) => pIf ((x7 : Int) != 2)
  (K (.int .i64 20))
  (pSome r1 fun a8 => pLd .slice (a8.add 8) fun (x9 : Sl) => pCall Tryd.prog 23 [(.slice x9.base x9.len x9.cap), (.string name_2)] KP (.many [(.int .i64), .bool]) fun (r10 : Int × Bool × Unit) => pIf r10.2.1
  (K (.int .i64 17))
  (pSome r1 fun a11 => pLd .slice (a11.add 8) fun (x12 : Sl) => pIf (decide (((x12.len : Int) : Int) ≥ 8))
  (K (.int .i64 28))
  (pSome r2 fun a13 => pLd (.int .i64) (a13.add 6) fun (x14 : Int) => pIf (decide ((x14 : Int) ≥ 8))
  (K (.int .i64 31))
  (pSome r1 fun a15 => pSome r1 fun a16 => pLd .slice (a15.add 8) fun (x17 : Sl) => pLd .slice (a16.add 9) fun (x18 : Sl) => pNew (lay (reps 1 (zc Tryd.prog 9)) [(0, (.string name_2))]) fun b19 => pAnd (pNew (lay (reps 1 (zc Tryd.prog 3)) [(0, (.int .i64 ino_3))]) fun b20 => T) <| pCall Tryd.prog 24 [(.slice x17.base x17.len x17.cap), (.int .i64 r10.1), (.slice (some ⟨b19, 0, none⟩) 1 1)] KP (.one .slice) fun (r21 : Sl) => pKeep (loadF Tryd.prog 23 (.pointer (some (a16.add 9))) (.slice x18.base x18.len x18.cap)) <| pNew (lay (reps 1 (zc Tryd.prog 3)) [(0, (.int .i64 ino_3))]) fun b22 => pCall Tryd.prog 25 [(.slice x18.base x18.len x18.cap), (.int .i64 r10.1), (.slice (some ⟨b22, 0, none⟩) 1 1)] KP (.one .slice) fun (r23 : Sl) => pSome r1 fun a24 => pSt (a24.add 8) (.slice r21.base r21.len r21.cap) <| pSome r1 fun a25 => pSt (a25.add 9) (.slice r23.base r23.len r23.cap) <| pSome r2 fun a26 => pLd (.int .i64) (a26.add 6) fun (x27 : Int) => pSome r2 fun a28 => pSt (a28.add 6) (.int .i64 (IntKind.i64.wrap (x27 + 1))) <| pJoin (σ := Unit)
  (fun k29 => pSome r2 fun a30 => pLd (.int .i64) (a30.add 2) fun (x31 : Int) => pIf ((x31 : Int) == 2)
  (pSome r2 fun a32 => pSt (a32.add 10) (.int .i64 dir_1) <| k29 (()))
  (k29 (())))
  (fun s => inodes_Table_Enter_j1 K))))))
def inodes_Table_Enter (t_0 : Option Addr) (dir_1 : Int) (name_2 : ByteArray) (ino_3 : Int) (KP K : Value → Pr) : Pr :=
  pCall Tryd.prog 21 [(.pointer t_0), (.int .i64 dir_1)] KP (.one .ptr) fun (r1 : Option Addr) => pCall Tryd.prog 21 [(.pointer t_0), (.int .i64 ino_3)] KP (.one .ptr) fun (r2 : Option Addr) => pCall Tryd.prog 22 [(.string name_2)] KP (.one .bool) fun (r3 : Bool) => pIf (!r3)
  (K (.int .i64 22))
  (pJoin (σ := Bool × Unit)
  (fun k4 => pIf (r1.isNone)
  (k4 (true, ()))
  (k4 ((r2.isNone), ())))
  (fun s => inodes_Table_Enter_j2 dir_1 name_2 ino_3 KP K r1 r2 s.1))
def inodes_Table_Enter_ann : Ann := .two (.none) (.two (.none) (.two (.sub (.two (.none) (.two (.two (.none) (.none)) (.join (.none) (.two (.two (.none) (.none)) (.two (.none) (.two (.two (.none) (.none)) (.none)))) [(23, .bool)])))) (.two (.none) (.two (.sub (.two (.none) (.two (.two (.none) (.none)) (.two (.none) (.two (.two (.none) (.none)) (.two (.none) (.two (.two (.none) (.none)) (.none)))))))) (.two (.ord [0, 1, 2, 3, 4, 6, 7, 10, 11, 12, 14, 15, 5, 13, 8, 9, 16, 17, 18, 19, 20, 21, 22, 23]) (.two (.none) (.join (.two (.none) (.two (.none) (.none))) (.two (.none) (.none)) [])))))))
theorem inodes_Table_Enter_eq (t_0 : Option Addr) (dir_1 : Int) (name_2 : ByteArray) (ino_3 : Int) (KP K : Value → Pr) : vcBody Tryd.prog Tryd.f12 (Tryd.f12.body.getD .skip) inodes_Table_Enter_ann [(.pointer t_0), (.int .i64 dir_1), (.string name_2), (.int .i64 ino_3)] KP K = inodes_Table_Enter t_0 dir_1 name_2 ino_3 KP K := by kernel_rfl
theorem inodes_Table_Enter_call (t_0 : Option Addr) (dir_1 : Int) (name_2 : ByteArray) (ino_3 : Int) {KP K : Value → Pr} {h : Heap} (s : inodes_Table_Enter t_0 dir_1 name_2 ino_3 (fgt KP) (fgt K) h) : WpCall Tryd.prog 12 [(.pointer t_0), (.int .i64 dir_1), (.string name_2), (.int .i64 ino_3)].toArray KP K h :=
  WpCall.of_vc Tryd.mixed Tryd.func12 (by kernel_rfl) Tryd.call12 inodes_Table_Enter_ann (by rw [inodes_Table_Enter_eq]; exact s)

/- (*halberd/inodes.Table).Write -/
def inodes_Table_Write (t_0 : Option Addr) (ino_1 : Int) (data_2 : ByteArray) (KP K : Value → Pr) : Pr :=
  pCall Tryd.prog 21 [(.pointer t_0), (.int .i64 ino_1)] KP (.one .ptr) fun (r1 : Option Addr) => pIf (r1.isNone)
  (K (.int .i64 2))
  (pSome r1 fun a2 => pLd (.int .i64) (a2.add 2) fun (x3 : Int) => pIf ((x3 : Int) == 2)
  (K (.int .i64 22))
  (pIf (decide (((data_2.size : Int) : Int) > 32))
  (K (.int .i64 27))
  (pSome r1 fun a4 => pSt (a4.add 7) (.string data_2) <| K (.int .i64 0))))
def inodes_Table_Write_ann : Ann := .two (.none) (.two (.none) (.two (.sub (.two (.none) (.two (.two (.none) (.none)) (.two (.none) (.two (.two (.none) (.none)) (.two (.none) (.two (.two (.none) (.none)) (.none)))))))) (.two (.none) (.two (.none) (.none)))))
theorem inodes_Table_Write_eq (t_0 : Option Addr) (ino_1 : Int) (data_2 : ByteArray) (KP K : Value → Pr) : vcBody Tryd.prog Tryd.f13 (Tryd.f13.body.getD .skip) inodes_Table_Write_ann [(.pointer t_0), (.int .i64 ino_1), (.string data_2)] KP K = inodes_Table_Write t_0 ino_1 data_2 KP K := by kernel_rfl
theorem inodes_Table_Write_call (t_0 : Option Addr) (ino_1 : Int) (data_2 : ByteArray) {KP K : Value → Pr} {h : Heap} (s : inodes_Table_Write t_0 ino_1 data_2 (fgt KP) (fgt K) h) : WpCall Tryd.prog 13 [(.pointer t_0), (.int .i64 ino_1), (.string data_2)].toArray KP K h :=
  WpCall.of_vc Tryd.mixed Tryd.func13 (by kernel_rfl) Tryd.call13 inodes_Table_Write_ann (by rw [inodes_Table_Write_eq]; exact s)

/- halberd/paths.Find -/
def paths_Find_l1 (KP : Value → Pr) (K : Value → Pr) (b1 : Nat) (b6 : Nat) (k16 : Unit → Pr) : Pr :=
  pSome (some ⟨b6, 0, none⟩) fun a17 => pLd .slice (a17.add 5) fun (x18 : Sl) => pIf (decide (((x18.len : Int) : Int) > 0))
  (pCall Tryd.prog 29 [(.pointer (some ⟨b6, 0, none⟩))] KP (.many [.agg, .bool, (.int .i64)]) fun (r19 : (List Value) × Bool × Int × Unit) => pNew (zc Tryd.prog 36) fun b20 => pStA 3 ⟨b20, 0, none⟩ r19.1 <| pIf ((r19.2.2.1 : Int) != 0)
  (pStA 3 ⟨b1, 0, none⟩ (lay (zc Tryd.prog 36) []) <| pLdA 3 ⟨b1, 0, none⟩ fun x21 => K (.tuple [(.agg x21.toArray), (.int .i64 r19.2.2.1)].toArray))
  (pIf r19.2.1
  (pLdA 3 ⟨b20, 0, none⟩ fun x22 => pStA 3 ⟨b1, 0, none⟩ x22 <| pLdA 3 ⟨b1, 0, none⟩ fun x23 => K (.tuple [(.agg x23.toArray), (.int .i64 0)].toArray))
  (k16 (()))))
  (pCall Tryd.prog 30 [(.pointer (some ⟨b6, 0, none⟩))] KP (.one .agg) fun (r24 : List Value) => pStA 3 ⟨b1, 0, none⟩ r24 <| pLdA 3 ⟨b1, 0, none⟩ fun x25 => K (.tuple [(.agg x25.toArray), (.int .i64 0)].toArray))
def paths_Find_j2 (KP : Value → Pr) (K : Value → Pr) (b1 : Nat) (b6 : Nat) (x14 : Bool) : Pr :=
  pIf x14
  (pStA 3 ⟨b1, 0, none⟩ (lay (zc Tryd.prog 36) []) <| pLdA 3 ⟨b1, 0, none⟩ fun x15 => K (.tuple [(.agg x15.toArray), (.int .i64 2)].toArray))
  (pLoop (σ := Unit) (fun s k16 => paths_Find_l1 KP K b1 b6 k16) (()))
def paths_Find (t_0 : Option Addr) (cwd_1 : Int) (uid_2 : Int) (gid_3 : Int) (path_4 : ByteArray) (follow_5 : Bool) (KP K : Value → Pr) : Pr :=
  pNew (zc Tryd.prog 36) fun b1 => pIf (strEq path_4 (⟨#[]⟩ : ByteArray))
  (pStA 3 ⟨b1, 0, none⟩ (lay (zc Tryd.prog 36) []) <| pLdA 3 ⟨b1, 0, none⟩ fun x2 => K (.tuple [(.agg x2.toArray), (.int .i64 2)].toArray))
  (pIf (decide (((path_4.size : Int) : Int) > 64))
  (pStA 3 ⟨b1, 0, none⟩ (lay (zc Tryd.prog 36) []) <| pLdA 3 ⟨b1, 0, none⟩ fun x3 => K (.tuple [(.agg x3.toArray), (.int .i64 36)].toArray))
  (pCall Tryd.prog 26 [(.string path_4), (.string (⟨#[0]⟩ : ByteArray))] KP (.one .bool) fun (r4 : Bool) => pIf r4
  (pStA 3 ⟨b1, 0, none⟩ (lay (zc Tryd.prog 36) []) <| pLdA 3 ⟨b1, 0, none⟩ fun x5 => K (.tuple [(.agg x5.toArray), (.int .i64 22)].toArray))
  (pNew (lay (zc Tryd.prog 66) [(0, (.pointer t_0)), (1, (.int .i64 uid_2)), (2, (.int .i64 gid_3)), (3, (.bool follow_5)), (4, (.int .i64 cwd_1))]) fun b6 => pCall Tryd.prog 27 [(.pointer (some ⟨b6, 0, none⟩)), (.string path_4)] KP (.many []) fun (r7 : Unit) => pSome (some ⟨b6, 0, none⟩) fun a8 => pLd (.int .i64) (a8.add 4) fun (x9 : Int) => pCall Tryd.prog 28 [(.pointer t_0), (.int .i64 x9)] KP (.many [.agg, .bool]) fun (r10 : (List Value) × Bool × Unit) => pNew (zc Tryd.prog 25) fun b11 => pStA 11 ⟨b11, 0, none⟩ r10.1 <| pJoin (σ := Bool × Unit)
  (fun k12 => pIf (!r10.2.1)
  (k12 (true, ()))
  (pLd (.int .i64) ((⟨b11, 0, none⟩ : Addr).add 2) fun (x13 : Int) => k12 (((x13 : Int) != 2), ())))
  (fun s => paths_Find_j2 KP K b1 b6 s.1))))
def paths_Find_ann : Ann := .two (.none) (.two (.sub (.two (.none) (.two (.two (.none) (.none)) (.two (.none) (.two (.two (.none) (.none)) (.two (.none) (.two (.two (.none) (.none)) (.none)))))))) (.two (.none) (.two (.none) (.two (.two (.none) (.join (.none) (.two (.two (.none) (.none)) (.none)) [(58, .bool)])) (.two (.sub (.loop [] (.two (.two (.none) (.two (.none) (.none))) (.sub (.two (.none) (.two (.two (.none) (.two (.two (.none) (.none)) (.none))) (.two (.none) (.two (.two (.none) (.none)) (.none))))))))) (.two (.none) (.none)))))))
theorem paths_Find_eq (t_0 : Option Addr) (cwd_1 : Int) (uid_2 : Int) (gid_3 : Int) (path_4 : ByteArray) (follow_5 : Bool) (KP K : Value → Pr) : vcBody Tryd.prog Tryd.f14 (Tryd.f14.body.getD .skip) paths_Find_ann [(.pointer t_0), (.int .i64 cwd_1), (.int .i64 uid_2), (.int .i64 gid_3), (.string path_4), (.bool follow_5)] KP K = paths_Find t_0 cwd_1 uid_2 gid_3 path_4 follow_5 KP K := by kernel_rfl
theorem paths_Find_call (t_0 : Option Addr) (cwd_1 : Int) (uid_2 : Int) (gid_3 : Int) (path_4 : ByteArray) (follow_5 : Bool) {KP K : Value → Pr} {h : Heap} (s : paths_Find t_0 cwd_1 uid_2 gid_3 path_4 follow_5 (fgt KP) (fgt K) h) : WpCall Tryd.prog 14 [(.pointer t_0), (.int .i64 cwd_1), (.int .i64 uid_2), (.int .i64 gid_3), (.string path_4), (.bool follow_5)].toArray KP K h :=
  WpCall.of_vc Tryd.mixed Tryd.func14 (by kernel_rfl) Tryd.call14 paths_Find_ann (by rw [paths_Find_eq]; exact s)

/- halberd/halberdlaw22.Built -/
def law22_Built_j1 (l_0 : Sl) (KP : Value → Pr) (K : Value → Pr) (r1 : Option Addr) (r2 : Option Addr) (k3 : Int × Unit → Pr) (x4 : Int) (x6 : Bool) : Pr :=
  pIf x6
  (pIdx x4 l_0.len <| pSome l_0.base fun a7 => pLd .str ((a7.add ((x4 : Int).toNat * 6)).add 5) fun (x8 : ByteArray) => pIf (decide (((x8.size : Int) : Int) > 100))
  (K (.tuple [(.pointer none), (.pointer none)].toArray))
  (pIdx x4 l_0.len <| pSome l_0.base fun a9 => pLdA 6 (a9.add ((x4 : Int).toNat * 6)) fun x10 => pCall Tryd.prog 32 [(.pointer r1), (.pointer r2), (.agg x10.toArray)] KP (.one .bool) fun (r11 : Bool) => k3 ((IntKind.i64.wrap (x4 + 1)), ())))
  (K (.tuple [(.pointer r1), (.pointer r2)].toArray))
def law22_Built_l2 (l_0 : Sl) (KP : Value → Pr) (K : Value → Pr) (r1 : Option Addr) (r2 : Option Addr) (k3 : Int × Unit → Pr) (x4 : Int) : Pr :=
  pJoin (σ := Bool × Unit)
  (fun k5 => pIf (decide ((x4 : Int) < (l_0.len : Int)))
  (k5 ((decide ((x4 : Int) < 60)), ()))
  (k5 (false, ())))
  (fun s => law22_Built_j1 l_0 KP K r1 r2 k3 x4 s.1)
def law22_Built (l_0 : Sl) (KP K : Value → Pr) : Pr :=
  pCall Tryd.prog 10 [] KP (.one .ptr) fun (r1 : Option Addr) => pCall Tryd.prog 31 [] KP (.one .ptr) fun (r2 : Option Addr) => pLoop (σ := Int × Unit) (fun s k3 => law22_Built_l2 l_0 KP K r1 r2 k3 s.1) (0, ())
def law22_Built_ann : Ann := .two (.none) (.two (.none) (.two (.two (.none) (.sub (.loop [(6, (.int .i64))] (.two (.join (.none) (.two (.none) (.none)) [(16, .bool)]) (.two (.sub (.two (.two (.none) (.two (.two (.none) (.none)) (.none))) (.none))) (.none)))))) (.two (.none) (.none))))
theorem law22_Built_eq (l_0 : Sl) (KP K : Value → Pr) : vcBody Tryd.prog Tryd.f15 (Tryd.f15.body.getD .skip) law22_Built_ann [(.slice l_0.base l_0.len l_0.cap)] KP K = law22_Built l_0 KP K := by kernel_rfl
theorem law22_Built_call (l_0 : Sl) {KP K : Value → Pr} {h : Heap} (s : law22_Built l_0 (fgt KP) (fgt K) h) : WpCall Tryd.prog 15 [(.slice l_0.base l_0.len l_0.cap)].toArray KP K h :=
  WpCall.of_vc Tryd.mixed Tryd.func15 (by kernel_rfl) Tryd.call15 law22_Built_ann (by rw [law22_Built_eq]; exact s)

/- halberd/paths.Of -/
def paths_Of_j1 (b4 : Nat) (x13 : Sl) (k15 : Sl × Unit → Pr) (x17 : ByteArray) (x19 : ByteArray) (b28 : Nat) (x34 : Bool) : Pr :=
  pIf x34
  (pLd (.int .i64) ((⟨b28, 0, none⟩ : Addr).add 0) fun (x35 : Int) => pPut (.int .i64) (some b4) (.int .i64 x35) (.string ((x19 ++ (⟨#[47]⟩ : ByteArray)) ++ x17)) <| pLd (.int .i64) ((⟨b28, 0, none⟩ : Addr).add 0) fun (x36 : Int) => pNew (lay (reps 1 (zc Tryd.prog 3)) [(0, (.int .i64 x36))]) fun b37 => pAppend 1 8 x13 ⟨(some ⟨b37, 0, none⟩), 1, 1⟩ fun s38 => k15 (s38, ()))
  (k15 (x13, ()))
def paths_Of_j2 (k12 : Sl × Int × Unit → Pr) (x14 : Int) (x39 : Sl) : Pr :=
  k12 (x39, (IntKind.i64.wrap (x14 + 1)), ())
def paths_Of_l3 (t_0 : Option Addr) (ino_1 : Int) (KP : Value → Pr) (K : Value → Pr) (b4 : Nat) (k5 : Sl × Unit → Pr) (b10 : Nat) (x11 : Sl) (k12 : Sl × Int × Unit → Pr) (x13 : Sl) (x14 : Int) : Pr :=
  pIf (decide ((x14 : Int) < (x11.len : Int)))
  (pJoin (σ := Sl × Unit)
  (fun k15 => pIdx x14 x11.len <| pSome x11.base fun a16 => pLd .str (a16.add ((x14 : Int).toNat * 1)) fun (x17 : ByteArray) => pLd (.int .i64) ((⟨b10, 0, none⟩ : Addr).add 0) fun (x18 : Int) => pGetS (.int .i64) (some b4) (.int .i64 x18) .str (.string (⟨#[]⟩ : ByteArray)) fun (x19 : ByteArray) (b20 : Bool) => pAssert (x19.size + (⟨#[47]⟩ : ByteArray).size < 9223372036854775808) <| pAssert ((x19 ++ (⟨#[47]⟩ : ByteArray)).size + x17.size < 9223372036854775808) <| pLd .slice ((⟨b10, 0, none⟩ : Addr).add 9) fun (x21 : Sl) => pIdx x14 x21.len <| pSome x21.base fun a22 => pLd (.int .i64) (a22.add ((x14 : Int).toNat * 1)) fun (x23 : Int) => pIf ((x23 : Int) == ino_1)
  (K (.string ((x19 ++ (⟨#[47]⟩ : ByteArray)) ++ x17)))
  (pLd .slice ((⟨b10, 0, none⟩ : Addr).add 9) fun (x24 : Sl) => pIdx x14 x24.len <| pSome x24.base fun a25 => pLd (.int .i64) (a25.add ((x14 : Int).toNat * 1)) fun (x26 : Int) => pCall Tryd.prog 28 [(.pointer t_0), (.int .i64 x26)] KP (.many [.agg, .bool]) fun (r27 : (List Value) × Bool × Unit) => pNew (zc Tryd.prog 25) fun b28 => pStA 11 ⟨b28, 0, none⟩ r27.1 <| pLd (.int .i64) ((⟨b28, 0, none⟩ : Addr).add 0) fun (x29 : Int) => pGetS (.int .i64) (some b4) (.int .i64 x29) .str (.string (⟨#[]⟩ : ByteArray)) fun (x30 : ByteArray) (b31 : Bool) => pJoin (σ := Bool × Unit)
  (fun k32 => pLd (.int .i64) ((⟨b28, 0, none⟩ : Addr).add 2) fun (x33 : Int) => pIf ((x33 : Int) == 2)
  (k32 ((!b31), ()))
  (k32 (false, ())))
  (fun s => paths_Of_j1 b4 x13 k15 x17 x19 b28 s.1)))
  (fun s => paths_Of_j2 k12 x14 s.1))
  (pAssert (0 ≤ (1 : Int) ∧ (1 : Int) ≤ (x13.len : Int) ∧ (x13.len : Int) ≤ (x13.cap : Int)) <| k5 (⟨(if x13.cap = (1 : Int).toNat then x13.base else (x13.base : Option Addr).map (·.add ((1 : Int).toNat * 1))), (((x13.len : Int) : Int).toNat - (1 : Int).toNat), (x13.cap - (1 : Int).toNat)⟩, ()))
def paths_Of_l4 (t_0 : Option Addr) (ino_1 : Int) (KP : Value → Pr) (K : Value → Pr) (b4 : Nat) (k5 : Sl × Unit → Pr) (x6 : Sl) : Pr :=
  pIf (decide (((x6.len : Int) : Int) > 0))
  (pIdx 0 x6.len <| pSome x6.base fun a7 => pLd (.int .i64) (a7.add ((0 : Int).toNat * 1)) fun (x8 : Int) => pCall Tryd.prog 28 [(.pointer t_0), (.int .i64 x8)] KP (.many [.agg, .bool]) fun (r9 : (List Value) × Bool × Unit) => pNew (zc Tryd.prog 25) fun b10 => pStA 11 ⟨b10, 0, none⟩ r9.1 <| pLd .slice ((⟨b10, 0, none⟩ : Addr).add 8) fun (x11 : Sl) => pLoop (σ := Sl × Int × Unit) (fun s k12 => paths_Of_l3 t_0 ino_1 KP K b4 k5 b10 x11 k12 s.1 s.2.1) (x6, 0, ()))
  (K (.string (⟨#[]⟩ : ByteArray)))
def paths_Of (t_0 : Option Addr) (ino_1 : Int) (KP K : Value → Pr) : Pr :=
  pCall Tryd.prog 28 [(.pointer t_0), (.int .i64 ino_1)] KP (.many [.agg, .bool]) fun (r1 : (List Value) × Bool × Unit) => pNew (zc Tryd.prog 25) fun b2 => pStA 11 ⟨b2, 0, none⟩ r1.1 <| pIf (!r1.2.1)
  (K (.string (⟨#[]⟩ : ByteArray)))
  (pIf ((ino_1 : Int) == 1)
  (K (.string (⟨#[47]⟩ : ByteArray)))
  (pNew (lay (reps 1 (zc Tryd.prog 3)) [(0, (.int .i64 1))]) fun b3 => pNewObj (.map []) fun b4 => pPut (.int .i64) (some b4) (.int .i64 1) (.string (⟨#[]⟩ : ByteArray)) <| pLoop (σ := Sl × Unit) (fun s k5 => paths_Of_l4 t_0 ino_1 KP K b4 k5 s.1) (⟨(some ⟨b3, 0, none⟩), 1, 1⟩, ())))
def paths_Of_ann : Ann := .two (.none) (.two (.two (.none) (.two (.none) (.two (.two (.none) (.none)) (.none)))) (.two (.two (.none) (.two (.two (.none) (.none)) (.none))) (.two (.none) (.two (.sub (.loop [(7, .slice)] (.two (.two (.none) (.two (.none) (.none))) (.sub (.two (.none) (.two (.two (.none) (.sub (.loop [(7, .slice), (45, (.int .i64))] (.two (.none) (.two (.two (.none) (.none)) (.join (.sub (.two (.none) (.two (.none) (.two (.two (.none) (.two (.two (.none) (.none)) (.none))) (.two (.none) (.two (.none) (.join (.none) (.two (.two (.none) (.none)) (.none)) [(88, .bool)]))))))) (.none) [(7, .slice)])))))) (.none))))))) (.two (.none) (.none))))))
theorem paths_Of_eq (t_0 : Option Addr) (ino_1 : Int) (KP K : Value → Pr) : vcBody Tryd.prog Tryd.f16 (Tryd.f16.body.getD .skip) paths_Of_ann [(.pointer t_0), (.int .i64 ino_1)] KP K = paths_Of t_0 ino_1 KP K := by kernel_rfl
theorem paths_Of_call (t_0 : Option Addr) (ino_1 : Int) {KP K : Value → Pr} {h : Heap} (s : paths_Of t_0 ino_1 (fgt KP) (fgt K) h) : WpCall Tryd.prog 16 [(.pointer t_0), (.int .i64 ino_1)].toArray KP K h :=
  WpCall.of_vc Tryd.mixed Tryd.func16 (by kernel_rfl) Tryd.call16 paths_Of_ann (by rw [paths_Of_eq]; exact s)

/- halberd/halberdref22.Of -/
def ref22_Of_l1 (ino_1 : Int) (K : Value → Pr) (x7 : Sl) (k9 : Int × Unit → Pr) (x10 : Int) (b15 : Nat) (k16 : Int × Unit → Pr) (x17 : Int) : Pr :=
  pLd .slice ((⟨b15, 0, none⟩ : Addr).add 8) fun (x18 : Sl) => pIf (decide ((x17 : Int) < (x18.len : Int)))
  (pLd .slice ((⟨b15, 0, none⟩ : Addr).add 9) fun (x19 : Sl) => pIdx x17 x19.len <| pSome x19.base fun a20 => pLd (.int .i64) (a20.add ((x17 : Int).toNat * 1)) fun (x21 : Int) => pIf ((x21 : Int) == ino_1)
  (pIdx x10 x7.len <| pSome x7.base fun a22 => pLd .str (a22.add ((x10 : Int).toNat * 1)) fun (x23 : ByteArray) => pAssert (x23.size + (⟨#[47]⟩ : ByteArray).size < 9223372036854775808) <| pLd .slice ((⟨b15, 0, none⟩ : Addr).add 8) fun (x24 : Sl) => pIdx x17 x24.len <| pSome x24.base fun a25 => pLd .str (a25.add ((x17 : Int).toNat * 1)) fun (x26 : ByteArray) => pAssert ((x23 ++ (⟨#[47]⟩ : ByteArray)).size + x26.size < 9223372036854775808) <| K (.string ((x23 ++ (⟨#[47]⟩ : ByteArray)) ++ x26)))
  (k16 ((IntKind.i64.wrap (x17 + 1)), ())))
  (k9 ((IntKind.i64.wrap (x10 + 1)), ()))
def ref22_Of_j2 (b4 : Nat) (x7 : Sl) (x30 : Int) (b35 : Nat) (x37 : Sl) (x38 : Sl) (x39 : Int) (k41 : Sl × Sl × Unit → Pr) (x56 : Bool) : Pr :=
  pIf x56
  (pLd .slice ((⟨b35, 0, none⟩ : Addr).add 9) fun (x57 : Sl) => pIdx x39 x57.len <| pSome x57.base fun a58 => pLd (.int .i64) (a58.add ((x39 : Int).toNat * 1)) fun (x59 : Int) => pIdx x59 25 <| pSt ((⟨b4, 0, none⟩ : Addr).add ((x59 : Int).toNat * 1)) (.bool true) <| pLd .slice ((⟨b35, 0, none⟩ : Addr).add 9) fun (x60 : Sl) => pIdx x39 x60.len <| pSome x60.base fun a61 => pLd (.int .i64) (a61.add ((x39 : Int).toNat * 1)) fun (x62 : Int) => pNew (lay (reps 1 (zc Tryd.prog 3)) [(0, (.int .i64 x62))]) fun b63 => pAppend 1 8 x37 ⟨(some ⟨b63, 0, none⟩), 1, 1⟩ fun s64 => pIdx x30 x7.len <| pSome x7.base fun a65 => pLd .str (a65.add ((x30 : Int).toNat * 1)) fun (x66 : ByteArray) => pAssert (x66.size + (⟨#[47]⟩ : ByteArray).size < 9223372036854775808) <| pLd .slice ((⟨b35, 0, none⟩ : Addr).add 8) fun (x67 : Sl) => pIdx x39 x67.len <| pSome x67.base fun a68 => pLd .str (a68.add ((x39 : Int).toNat * 1)) fun (x69 : ByteArray) => pAssert ((x66 ++ (⟨#[47]⟩ : ByteArray)).size + x69.size < 9223372036854775808) <| pNew (lay (reps 1 (zc Tryd.prog 9)) [(0, (.string ((x66 ++ (⟨#[47]⟩ : ByteArray)) ++ x69)))]) fun b70 => pAppend 1 16 x38 ⟨(some ⟨b70, 0, none⟩), 1, 1⟩ fun s71 => k41 (s64, s71, ()))
  (k41 (x37, x38, ()))
def ref22_Of_j3 (k36 : Sl × Sl × Int × Unit → Pr) (x39 : Int) (x72 : Sl) (x73 : Sl) : Pr :=
  k36 (x72, x73, (IntKind.i64.wrap (x39 + 1)), ())
def ref22_Of_l4 (t_0 : Option Addr) (KP : Value → Pr) (b4 : Nat) (x7 : Sl) (k27 : Sl × Sl × Int × Unit → Pr) (x30 : Int) (b35 : Nat) (k36 : Sl × Sl × Int × Unit → Pr) (x37 : Sl) (x38 : Sl) (x39 : Int) : Pr :=
  pLd .slice ((⟨b35, 0, none⟩ : Addr).add 8) fun (x40 : Sl) => pIf (decide ((x39 : Int) < (x40.len : Int)))
  (pJoin (σ := Sl × Sl × Unit)
  (fun k41 => pJoin (σ := Bool × Unit)
  (fun k42 => pLd .slice ((⟨b35, 0, none⟩ : Addr).add 9) fun (x43 : Sl) => pIdx x39 x43.len <| pSome x43.base fun a44 => pLd (.int .i64) (a44.add ((x39 : Int).toNat * 1)) fun (x45 : Int) => pCall Tryd.prog 33 [(.pointer t_0), (.int .i64 x45)] KP (.one .bool) fun (r46 : Bool) => pIf r46
  (pSome t_0 fun a47 => pLd .slice ((⟨b35, 0, none⟩ : Addr).add 9) fun (x48 : Sl) => pIdx x39 x48.len <| pSome x48.base fun a49 => pLd (.int .i64) (a49.add ((x39 : Int).toNat * 1)) fun (x50 : Int) => pIdx x50 25 <| pLd (.int .i64) (((a47.add 0).add ((x50 : Int).toNat * 11)).add 2) fun (x51 : Int) => pIf ((x51 : Int) == 2)
  (pLd .slice ((⟨b35, 0, none⟩ : Addr).add 9) fun (x52 : Sl) => pIdx x39 x52.len <| pSome x52.base fun a53 => pLd (.int .i64) (a53.add ((x39 : Int).toNat * 1)) fun (x54 : Int) => pIdx x54 25 <| pLd .bool ((⟨b4, 0, none⟩ : Addr).add ((x54 : Int).toNat * 1)) fun (x55 : Bool) => k42 ((!x55), ()))
  (k42 (false, ())))
  (k42 (false, ())))
  (fun s => ref22_Of_j2 b4 x7 x30 b35 x37 x38 x39 k41 s.1))
  (fun s => ref22_Of_j3 k36 x39 s.1 s.2.1))
  (k27 (x37, x38, (IntKind.i64.wrap (x30 + 1)), ()))
def ref22_Of_l5 (t_0 : Option Addr) (KP : Value → Pr) (b4 : Nat) (k5 : Sl × Sl × Int × Unit → Pr) (x6 : Sl) (x7 : Sl) (x8 : Int) (k27 : Sl × Sl × Int × Unit → Pr) (x28 : Sl) (x29 : Sl) (x30 : Int) : Pr :=
  pIf (decide ((x30 : Int) < (x6.len : Int)))
  (pIdx x30 x6.len <| pSome x6.base fun a31 => pSome t_0 fun a32 => pLd (.int .i64) (a31.add ((x30 : Int).toNat * 1)) fun (x33 : Int) => pIdx x33 25 <| pLdA 11 ((a32.add 0).add ((x33 : Int).toNat * 11)) fun x34 => pNew (zc Tryd.prog 25) fun b35 => pStA 11 ⟨b35, 0, none⟩ x34 <| pLoop (σ := Sl × Sl × Int × Unit) (fun s k36 => ref22_Of_l4 t_0 KP b4 x7 k27 x30 b35 k36 s.1 s.2.1 s.2.2.1) (x28, x29, 0, ()))
  (k5 (x28, x29, (IntKind.i64.wrap (x8 + 1)), ()))
def ref22_Of_l6 (t_0 : Option Addr) (ino_1 : Int) (KP : Value → Pr) (K : Value → Pr) (b4 : Nat) (k5 : Sl × Sl × Int × Unit → Pr) (x6 : Sl) (x7 : Sl) (x8 : Int) (k9 : Int × Unit → Pr) (x10 : Int) : Pr :=
  pIf (decide ((x10 : Int) < (x6.len : Int)))
  (pIdx x10 x6.len <| pSome x6.base fun a11 => pSome t_0 fun a12 => pLd (.int .i64) (a11.add ((x10 : Int).toNat * 1)) fun (x13 : Int) => pIdx x13 25 <| pLdA 11 ((a12.add 0).add ((x13 : Int).toNat * 11)) fun x14 => pNew (zc Tryd.prog 25) fun b15 => pStA 11 ⟨b15, 0, none⟩ x14 <| pLoop (σ := Int × Unit) (fun s k16 => ref22_Of_l1 ino_1 K x7 k9 x10 b15 k16 s.1) (0, ()))
  (pLoop (σ := Sl × Sl × Int × Unit) (fun s k27 => ref22_Of_l5 t_0 KP b4 k5 x6 x7 x8 k27 s.1 s.2.1 s.2.2.1) (⟨none, 0, 0⟩, ⟨none, 0, 0⟩, 0, ()))
def ref22_Of_l7 (t_0 : Option Addr) (ino_1 : Int) (KP : Value → Pr) (K : Value → Pr) (b4 : Nat) (k5 : Sl × Sl × Int × Unit → Pr) (x6 : Sl) (x7 : Sl) (x8 : Int) : Pr :=
  pIf (decide ((x8 : Int) < 25))
  (pLoop (σ := Int × Unit) (fun s k9 => ref22_Of_l6 t_0 ino_1 KP K b4 k5 x6 x7 x8 k9 s.1) (0, ()))
  (K (.string (⟨#[]⟩ : ByteArray)))
def ref22_Of (t_0 : Option Addr) (ino_1 : Int) (KP K : Value → Pr) : Pr :=
  pCall Tryd.prog 33 [(.pointer t_0), (.int .i64 ino_1)] KP (.one .bool) fun (r1 : Bool) => pIf (!r1)
  (K (.string (⟨#[]⟩ : ByteArray)))
  (pIf ((ino_1 : Int) == 1)
  (K (.string (⟨#[47]⟩ : ByteArray)))
  (pNew (lay (reps 1 (zc Tryd.prog 3)) [(0, (.int .i64 1))]) fun b2 => pNew (lay (reps 1 (zc Tryd.prog 9)) [(0, (.string (⟨#[]⟩ : ByteArray)))]) fun b3 => pNew (zc Tryd.prog 80) fun b4 => pIdx 1 25 <| pSt ((⟨b4, 0, none⟩ : Addr).add ((1 : Int).toNat * 1)) (.bool true) <| pLoop (σ := Sl × Sl × Int × Unit) (fun s k5 => ref22_Of_l7 t_0 ino_1 KP K b4 k5 s.1 s.2.1 s.2.2.1) (⟨(some ⟨b2, 0, none⟩), 1, 1⟩, ⟨(some ⟨b3, 0, none⟩), 1, 1⟩, 0, ())))
def ref22_Of_ann : Ann := .two (.none) (.two (.two (.none) (.two (.two (.none) (.none)) (.none))) (.two (.two (.none) (.two (.two (.none) (.none)) (.none))) (.two (.none) (.two (.none) (.two (.none) (.two (.two (.none) (.sub (.loop [(5, .slice), (6, .slice), (8, (.int .i64))] (.two (.two (.none) (.two (.none) (.none))) (.two (.sub (.two (.none) (.two (.none) (.two (.two (.none) (.sub (.loop [(11, (.int .i64))] (.two (.two (.none) (.two (.none) (.none))) (.two (.sub (.two (.ord [0, 1, 2, 3, 5, 6, 4, 7, 8, 9, 10]) (.two (.none) (.sub (.loop [(13, (.int .i64))] (.two (.two (.none) (.two (.none) (.none))) (.two (.sub (.two (.none) (.two (.two (.ord [0, 1, 2, 5, 7, 3, 4, 6, 8, 9, 10, 11]) (.none)) (.none)))) (.none)))))))) (.none)))))) (.two (.two (.none) (.sub (.loop [(9, .slice), (10, .slice), (14, (.int .i64))] (.two (.two (.none) (.two (.none) (.none))) (.two (.sub (.two (.ord [0, 1, 2, 3, 5, 6, 4, 7, 8, 9, 10]) (.two (.none) (.sub (.loop [(9, .slice), (10, .slice), (16, (.int .i64))] (.two (.two (.none) (.two (.none) (.none))) (.join (.sub (.join (.ord [0, 1, 3, 2, 4, 5, 6, 7, 8, 9, 11, 14, 15, 10, 12, 13, 16, 17, 18, 19, 20, 21, 22, 24, 23, 25, 26, 27, 28, 29, 30]) (.two (.two (.none) (.two (.none) (.ord [0, 1, 2, 3, 6, 8, 4, 5, 7, 9, 10, 11, 12, 13, 14]))) (.none)) [(122, .bool)])) (.none) [(9, .slice), (10, .slice)]))))))) (.none)))))) (.two (.none) (.none))))))) (.none)))))) (.two (.none) (.none))))))))
theorem ref22_Of_eq (t_0 : Option Addr) (ino_1 : Int) (KP K : Value → Pr) : vcBody Tryd.prog Tryd.f17 (Tryd.f17.body.getD .skip) ref22_Of_ann [(.pointer t_0), (.int .i64 ino_1)] KP K = ref22_Of t_0 ino_1 KP K := by kernel_rfl
theorem ref22_Of_call (t_0 : Option Addr) (ino_1 : Int) {KP K : Value → Pr} {h : Heap} (s : ref22_Of t_0 ino_1 (fgt KP) (fgt K) h) : WpCall Tryd.prog 17 [(.pointer t_0), (.int .i64 ino_1)].toArray KP K h :=
  WpCall.of_vc Tryd.mixed Tryd.func17 (by kernel_rfl) Tryd.call17 ref22_Of_ann (by rw [ref22_Of_eq]; exact s)

/- halberd/halberdlaw22.odd -/
def law22_odd_j1 (K : Value → Pr) (k1 : Int × Unit → Pr) (x2 : Int) (x8 : Bool) : Pr :=
  pIf x8
  (K (.bool true))
  (k1 ((IntKind.i64.wrap (x2 + 1)), ()))
def law22_odd_l2 (w_0 : Option Addr) (K : Value → Pr) (k1 : Int × Unit → Pr) (x2 : Int) : Pr :=
  pIf (decide ((x2 : Int) ≤ 24))
  (pJoin (σ := Bool × Unit)
  (fun k3 => pSome w_0 fun a4 => pIdx x2 25 <| pLd (.int .i64) (((a4.add 0).add ((x2 : Int).toNat * 11)).add 3) fun (x5 : Int) => pIf (decide ((x5 : Int) < 0))
  (k3 (true, ()))
  (pSome w_0 fun a6 => pIdx x2 25 <| pLd (.int .i64) (((a6.add 0).add ((x2 : Int).toNat * 11)).add 3) fun (x7 : Int) => k3 ((decide ((x7 : Int) > 4095)), ())))
  (fun s => law22_odd_j1 K k1 x2 s.1))
  (K (.bool false))
def law22_odd (w_0 : Option Addr) (KP K : Value → Pr) : Pr :=
  pLoop (σ := Int × Unit) (fun s k1 => law22_odd_l2 w_0 K k1 s.1) (1, ())
def law22_odd_ann : Ann := .two (.none) (.two (.two (.none) (.sub (.loop [(3, (.int .i64))] (.two (.two (.none) (.two (.none) (.none))) (.two (.sub (.join (.none) (.two (.two (.none) (.none)) (.none)) [(25, .bool)])) (.none)))))) (.two (.none) (.none)))
theorem law22_odd_eq (w_0 : Option Addr) (KP K : Value → Pr) : vcBody Tryd.prog Tryd.f18 (Tryd.f18.body.getD .skip) law22_odd_ann [(.pointer w_0)] KP K = law22_odd w_0 KP K := by kernel_rfl
theorem law22_odd_call (w_0 : Option Addr) {KP K : Value → Pr} {h : Heap} (s : law22_odd w_0 (fgt KP) (fgt K) h) : WpCall Tryd.prog 18 [(.pointer w_0)].toArray KP K h :=
  WpCall.of_vc Tryd.mixed Tryd.func18 (by kernel_rfl) Tryd.call18 law22_odd_ann (by rw [law22_odd_eq]; exact s)

end Go.Proofs.YtkbcneomjkfheaaDoor

set_option linter.unusedVariables false
namespace Go.Proofs.YtkbcneomjkfheaaDoor
open Go.Hl
/- container/heap.Push -/
def container_heap_Push (h_0 : Value) (x_1 : Value) (KP K : Value → Pr) : Pr :=
  pInvoke Tryd.prog KP "Push" h_0 [x_1] (.many []) fun (r1 : Unit) => pInvoke Tryd.prog KP "Len" h_0 [] (.one (.int .i64)) fun (r2 : Int) => pCall Tryd.prog 34 [h_0, (.int .i64 (IntKind.i64.wrap (r2 - 1)))] KP (.many []) fun (r3 : Unit) => K (.tuple [].toArray)
def container_heap_Push_ann : Ann := .two (.none) (.none)
theorem container_heap_Push_eq (h_0 : Value) (x_1 : Value) (KP K : Value → Pr) : vcBody Tryd.prog Tryd.f19 (Tryd.f19.body.getD .skip) container_heap_Push_ann [h_0, x_1] KP K = container_heap_Push h_0 x_1 KP K := by kernel_rfl
theorem container_heap_Push_call (h_0 : Value) (x_1 : Value) {KP K : Value → Pr} {h : Heap} (s : container_heap_Push h_0 x_1 (fgt KP) (fgt K) h) : WpCall Tryd.prog 19 [h_0, x_1].toArray KP K h :=
  WpCall.of_vc Tryd.mixed Tryd.func19 (by kernel_rfl) Tryd.call19 container_heap_Push_ann (by rw [container_heap_Push_eq]; exact s)

/- container/heap.Pop -/
def container_heap_Pop (h_0 : Value) (KP K : Value → Pr) : Pr :=
  pInvoke Tryd.prog KP "Len" h_0 [] (.one (.int .i64)) fun (r1 : Int) => pInvoke Tryd.prog KP "Swap" h_0 [(.int .i64 0), (.int .i64 (IntKind.i64.wrap (r1 - 1)))] (.many []) fun (r2 : Unit) => pCall Tryd.prog 35 [h_0, (.int .i64 0), (.int .i64 (IntKind.i64.wrap (r1 - 1)))] KP (.one .bool) fun (r3 : Bool) => pInvoke Tryd.prog KP "Pop" h_0 [] (.one .any) fun (r4 : Value) => K r4
def container_heap_Pop_ann : Ann := .two (.none) (.two (.none) (.two (.none) (.two (.none) (.two (.none) (.none)))))
theorem container_heap_Pop_eq (h_0 : Value) (KP K : Value → Pr) : vcBody Tryd.prog Tryd.f20 (Tryd.f20.body.getD .skip) container_heap_Pop_ann [h_0] KP K = container_heap_Pop h_0 KP K := by kernel_rfl
theorem container_heap_Pop_call (h_0 : Value) {KP K : Value → Pr} {h : Heap} (s : container_heap_Pop h_0 (fgt KP) (fgt K) h) : WpCall Tryd.prog 20 [h_0].toArray KP K h :=
  WpCall.of_vc Tryd.mixed Tryd.func20 (by kernel_rfl) Tryd.call20 container_heap_Pop_ann (by rw [container_heap_Pop_eq]; exact s)

/- (*halberd/inodes.Table).at -/
def inodes_Table_at_j1 (t_0 : Option Addr) (ino_1 : Int) (K : Value → Pr) (x4 : Bool) : Pr :=
  pIf x4
  (K (.pointer none))
  (pSome t_0 fun a5 => pIdx ino_1 25 <| K (.pointer (some ((a5.add 0).add ((ino_1 : Int).toNat * 11)))))
def inodes_Table_at (t_0 : Option Addr) (ino_1 : Int) (KP K : Value → Pr) : Pr :=
  pJoin (σ := Bool × Unit)
  (fun k1 => pIf (t_0.isNone)
  (k1 (true, ()))
  (pIf (decide ((ino_1 : Int) < 1))
  (k1 (true, ()))
  (pIf (decide ((ino_1 : Int) ≥ 25))
  (k1 (true, ()))
  (pSome t_0 fun a2 => pIdx ino_1 25 <| pLd (.int .i64) (((a2.add 0).add ((ino_1 : Int).toNat * 11)).add 2) fun (x3 : Int) => k1 (((x3 : Int) == 0), ())))))
  (fun s => inodes_Table_at_j1 t_0 ino_1 K s.1)
def inodes_Table_at_ann : Ann := .two (.none) (.two (.join (.none) (.two (.two (.none) (.none)) (.none)) [(24, .bool)]) (.two (.none) (.none)))
theorem inodes_Table_at_eq (t_0 : Option Addr) (ino_1 : Int) (KP K : Value → Pr) : vcBody Tryd.prog Tryd.f21 (Tryd.f21.body.getD .skip) inodes_Table_at_ann [(.pointer t_0), (.int .i64 ino_1)] KP K = inodes_Table_at t_0 ino_1 KP K := by kernel_rfl
theorem inodes_Table_at_call (t_0 : Option Addr) (ino_1 : Int) {KP K : Value → Pr} {h : Heap} (s : inodes_Table_at t_0 ino_1 (fgt KP) (fgt K) h) : WpCall Tryd.prog 21 [(.pointer t_0), (.int .i64 ino_1)].toArray KP K h :=
  WpCall.of_vc Tryd.mixed Tryd.func21 (by kernel_rfl) Tryd.call21 inodes_Table_at_ann (by rw [inodes_Table_at_eq]; exact s)

/- halberd/inodes.IsName -/
def inodes_IsName_j1 (K : Value → Pr) (x3 : Bool) : Pr :=
  K (.bool x3)
def inodes_IsName (s_0 : ByteArray) (KP K : Value → Pr) : Pr :=
  pJoin (σ := Bool × Unit)
  (fun k1 => pIf (!strEq s_0 (⟨#[]⟩ : ByteArray))
  (pIf (decide (((s_0.size : Int) : Int) ≤ 8))
  (pIf (!strEq s_0 (⟨#[46]⟩ : ByteArray))
  (pIf (!strEq s_0 (⟨#[46, 46]⟩ : ByteArray))
  (pCall Tryd.prog 36 [(.string s_0), (.string (⟨#[47, 0]⟩ : ByteArray))] KP (.one .bool) fun (r2 : Bool) => k1 ((!r2), ()))
  (k1 (false, ())))
  (k1 (false, ())))
  (k1 (false, ())))
  (k1 (false, ())))
  (fun s => inodes_IsName_j1 K s.1)
def inodes_IsName_ann : Ann := .two (.none) (.join (.none) (.none) [(2, .bool)])
theorem inodes_IsName_eq (s_0 : ByteArray) (KP K : Value → Pr) : vcBody Tryd.prog Tryd.f22 (Tryd.f22.body.getD .skip) inodes_IsName_ann [(.string s_0)] KP K = inodes_IsName s_0 KP K := by kernel_rfl
theorem inodes_IsName_call (s_0 : ByteArray) {KP K : Value → Pr} {h : Heap} (s : inodes_IsName s_0 (fgt KP) (fgt K) h) : WpCall Tryd.prog 22 [(.string s_0)].toArray KP K h :=
  WpCall.of_vc Tryd.mixed Tryd.func22 (by kernel_rfl) Tryd.call22 inodes_IsName_ann (by rw [inodes_IsName_eq]; exact s)

/- slices.BinarySearch[[]string,string] -/
def slices_BinarySearch_string_string_j1 (K : Value → Pr) (x14 : Int) (x15 : Bool) : Pr :=
  K (.tuple [(.int .i64 x14), (.bool x15)].toArray)
def slices_BinarySearch_string_string_l2 (x_0 : Sl) (target_1 : ByteArray) (KP : Value → Pr) (K : Value → Pr) (k1 : Int × Int × Unit → Pr) (x2 : Int) (x3 : Int) : Pr :=
  pIf (decide ((x2 : Int) < x3))
  (pAssert (0 ≤ (1 : Int)) <| pIdx (IntKind.i64.wrap (((IntKind.u64.wrap (IntKind.i64.wrap (x2 + x3))) : Int).fdiv (2 ^ (min (1 : Int).toNat (IntKind.u64).bits)))) x_0.len <| pSome x_0.base fun a4 => pLd .str (a4.add (((IntKind.i64.wrap (((IntKind.u64.wrap (IntKind.i64.wrap (x2 + x3))) : Int).fdiv (2 ^ (min (1 : Int).toNat (IntKind.u64).bits)))) : Int).toNat * 1)) fun (x5 : ByteArray) => pCall Tryd.prog 37 [(.string x5), (.string target_1)] KP (.one .bool) fun (r6 : Bool) => pIf r6
  (k1 ((IntKind.i64.wrap ((IntKind.i64.wrap (((IntKind.u64.wrap (IntKind.i64.wrap (x2 + x3))) : Int).fdiv (2 ^ (min (1 : Int).toNat (IntKind.u64).bits)))) + 1)), x3, ()))
  (k1 (x2, (IntKind.i64.wrap (((IntKind.u64.wrap (IntKind.i64.wrap (x2 + x3))) : Int).fdiv (2 ^ (min (1 : Int).toNat (IntKind.u64).bits)))), ())))
  (pJoin (σ := Int × Bool × Unit)
  (fun k7 => pIf (decide ((x2 : Int) < (x_0.len : Int)))
  (pIdx x2 x_0.len <| pSome x_0.base fun a8 => pLd .str (a8.add ((x2 : Int).toNat * 1)) fun (x9 : ByteArray) => pIf (strEq x9 target_1)
  (k7 (x2, true, ()))
  (pIdx x2 x_0.len <| pSome x_0.base fun a10 => pLd .str (a10.add ((x2 : Int).toNat * 1)) fun (x11 : ByteArray) => pCall Tryd.prog 38 [(.string x11)] KP (.one .bool) fun (r12 : Bool) => pIf r12
  (pCall Tryd.prog 38 [(.string target_1)] KP (.one .bool) fun (r13 : Bool) => k7 (x2, r13, ()))
  (k7 (x2, false, ()))))
  (k7 (x2, false, ())))
  (fun s => slices_BinarySearch_string_string_j1 K s.1 s.2.1))
def slices_BinarySearch_string_string (x_0 : Sl) (target_1 : ByteArray) (KP K : Value → Pr) : Pr :=
  pLoop (σ := Int × Int × Unit) (fun s k1 => slices_BinarySearch_string_string_l2 x_0 target_1 KP K k1 s.1 s.2.1) (0, (x_0.len : Int), ())
def slices_BinarySearch_string_string_ann : Ann := .two (.none) (.two (.none) (.two (.none) (.two (.sub (.loop [(7, (.int .i64)), (8, (.int .i64))] (.two (.two (.none) (.two (.none) (.none))) (.sub (.two (.none) (.two (.none) (.two (.none) (.none)))))))) (.join (.none) (.none) [(4, (.int .i64)), (5, .bool)]))))
theorem slices_BinarySearch_string_string_eq (x_0 : Sl) (target_1 : ByteArray) (KP K : Value → Pr) : vcBody Tryd.prog Tryd.f23 (Tryd.f23.body.getD .skip) slices_BinarySearch_string_string_ann [(.slice x_0.base x_0.len x_0.cap), (.string target_1)] KP K = slices_BinarySearch_string_string x_0 target_1 KP K := by kernel_rfl
theorem slices_BinarySearch_string_string_call (x_0 : Sl) (target_1 : ByteArray) {KP K : Value → Pr} {h : Heap} (s : slices_BinarySearch_string_string x_0 target_1 (fgt KP) (fgt K) h) : WpCall Tryd.prog 23 [(.slice x_0.base x_0.len x_0.cap), (.string target_1)].toArray KP K h :=
  WpCall.of_vc Tryd.mixed Tryd.func23 (by kernel_rfl) Tryd.call23 slices_BinarySearch_string_string_ann (by rw [slices_BinarySearch_string_string_eq]; exact s)

/- slices.Insert[[]string,string] -/
def slices_Insert_string_string (s_0 : Sl) (i_1 : Int) (v_2 : Sl) (KP K : Value → Pr) : Pr :=
  pAssert (0 ≤ (i_1 : Int) ∧ (i_1 : Int) ≤ (s_0.len : Int) ∧ (s_0.len : Int) ≤ (s_0.cap : Int)) <| pIf (((v_2.len : Int) : Int) == 0)
  (K (.slice s_0.base s_0.len s_0.cap))
  (pIf ((i_1 : Int) == (s_0.len : Int))
  (pAppend 1 16 s_0 v_2 fun s1 => K (.slice s1.base s1.len s1.cap))
  (pIf (decide (((IntKind.i64.wrap ((s_0.len : Int) + (v_2.len : Int))) : Int) > (s_0.cap : Int)))
  (pAssert (0 ≤ (0 : Int) ∧ (0 : Int) ≤ i_1 ∧ i_1 ≤ (s_0.cap : Int)) <| pExtend 1 16 (zc Tryd.prog 9) ⟨(if s_0.cap = (0 : Int).toNat then s_0.base else (s_0.base : Option Addr).map (·.add ((0 : Int).toNat * 1))), ((i_1 : Int).toNat - (0 : Int).toNat), (s_0.cap - (0 : Int).toNat)⟩ (IntKind.i64.wrap ((IntKind.i64.wrap ((s_0.len : Int) + (v_2.len : Int))) - i_1)) fun s2 => pAssert (0 ≤ (i_1 : Int) ∧ (i_1 : Int) ≤ (s2.len : Int) ∧ (s2.len : Int) ≤ (s2.cap : Int)) <| pCopy 1 ⟨(if s2.cap = (i_1 : Int).toNat then s2.base else (s2.base : Option Addr).map (·.add ((i_1 : Int).toNat * 1))), (((s2.len : Int) : Int).toNat - (i_1 : Int).toNat), (s2.cap - (i_1 : Int).toNat)⟩ v_2 fun (n3 : Int) => pAssert (0 ≤ ((IntKind.i64.wrap (i_1 + (v_2.len : Int))) : Int) ∧ ((IntKind.i64.wrap (i_1 + (v_2.len : Int))) : Int) ≤ (s2.len : Int) ∧ (s2.len : Int) ≤ (s2.cap : Int)) <| pAssert (0 ≤ (i_1 : Int) ∧ (i_1 : Int) ≤ (s_0.len : Int) ∧ (s_0.len : Int) ≤ (s_0.cap : Int)) <| pCopy 1 ⟨(if s2.cap = ((IntKind.i64.wrap (i_1 + (v_2.len : Int))) : Int).toNat then s2.base else (s2.base : Option Addr).map (·.add (((IntKind.i64.wrap (i_1 + (v_2.len : Int))) : Int).toNat * 1))), (((s2.len : Int) : Int).toNat - ((IntKind.i64.wrap (i_1 + (v_2.len : Int))) : Int).toNat), (s2.cap - ((IntKind.i64.wrap (i_1 + (v_2.len : Int))) : Int).toNat)⟩ ⟨(if s_0.cap = (i_1 : Int).toNat then s_0.base else (s_0.base : Option Addr).map (·.add ((i_1 : Int).toNat * 1))), (((s_0.len : Int) : Int).toNat - (i_1 : Int).toNat), (s_0.cap - (i_1 : Int).toNat)⟩ fun (n4 : Int) => K (.slice s2.base s2.len s2.cap))
  (pAssert (0 ≤ (0 : Int) ∧ (0 : Int) ≤ (IntKind.i64.wrap ((s_0.len : Int) + (v_2.len : Int))) ∧ (IntKind.i64.wrap ((s_0.len : Int) + (v_2.len : Int))) ≤ (s_0.cap : Int)) <| pAssert (0 ≤ ((IntKind.i64.wrap (i_1 + (v_2.len : Int))) : Int) ∧ ((IntKind.i64.wrap (i_1 + (v_2.len : Int))) : Int) ≤ ((((IntKind.i64.wrap ((s_0.len : Int) + (v_2.len : Int))) : Int).toNat - (0 : Int).toNat) : Int) ∧ ((((IntKind.i64.wrap ((s_0.len : Int) + (v_2.len : Int))) : Int).toNat - (0 : Int).toNat) : Int) ≤ ((s_0.cap - (0 : Int).toNat) : Int)) <| pCall Tryd.prog 39 [(.slice v_2.base v_2.len v_2.cap), (.slice (if (s_0.cap - (0 : Int).toNat) = ((IntKind.i64.wrap (i_1 + (v_2.len : Int))) : Int).toNat then (if s_0.cap = (0 : Int).toNat then s_0.base else (s_0.base : Option Addr).map (·.add ((0 : Int).toNat * 1))) else ((if s_0.cap = (0 : Int).toNat then s_0.base else (s_0.base : Option Addr).map (·.add ((0 : Int).toNat * 1))) : Option Addr).map (·.add (((IntKind.i64.wrap (i_1 + (v_2.len : Int))) : Int).toNat * 1))) ((((((IntKind.i64.wrap ((s_0.len : Int) + (v_2.len : Int))) : Int).toNat - (0 : Int).toNat) : Int) : Int).toNat - ((IntKind.i64.wrap (i_1 + (v_2.len : Int))) : Int).toNat) ((s_0.cap - (0 : Int).toNat) - ((IntKind.i64.wrap (i_1 + (v_2.len : Int))) : Int).toNat))] KP (.one .bool) fun (r5 : Bool) => pIf (!r5)
  (pAssert (0 ≤ ((IntKind.i64.wrap (i_1 + (v_2.len : Int))) : Int) ∧ ((IntKind.i64.wrap (i_1 + (v_2.len : Int))) : Int) ≤ ((((IntKind.i64.wrap ((s_0.len : Int) + (v_2.len : Int))) : Int).toNat - (0 : Int).toNat) : Int) ∧ ((((IntKind.i64.wrap ((s_0.len : Int) + (v_2.len : Int))) : Int).toNat - (0 : Int).toNat) : Int) ≤ ((s_0.cap - (0 : Int).toNat) : Int)) <| pAssert (0 ≤ (i_1 : Int) ∧ (i_1 : Int) ≤ ((((IntKind.i64.wrap ((s_0.len : Int) + (v_2.len : Int))) : Int).toNat - (0 : Int).toNat) : Int) ∧ ((((IntKind.i64.wrap ((s_0.len : Int) + (v_2.len : Int))) : Int).toNat - (0 : Int).toNat) : Int) ≤ ((s_0.cap - (0 : Int).toNat) : Int)) <| pCopy 1 ⟨(if (s_0.cap - (0 : Int).toNat) = ((IntKind.i64.wrap (i_1 + (v_2.len : Int))) : Int).toNat then (if s_0.cap = (0 : Int).toNat then s_0.base else (s_0.base : Option Addr).map (·.add ((0 : Int).toNat * 1))) else ((if s_0.cap = (0 : Int).toNat then s_0.base else (s_0.base : Option Addr).map (·.add ((0 : Int).toNat * 1))) : Option Addr).map (·.add (((IntKind.i64.wrap (i_1 + (v_2.len : Int))) : Int).toNat * 1))), ((((((IntKind.i64.wrap ((s_0.len : Int) + (v_2.len : Int))) : Int).toNat - (0 : Int).toNat) : Int) : Int).toNat - ((IntKind.i64.wrap (i_1 + (v_2.len : Int))) : Int).toNat), ((s_0.cap - (0 : Int).toNat) - ((IntKind.i64.wrap (i_1 + (v_2.len : Int))) : Int).toNat)⟩ ⟨(if (s_0.cap - (0 : Int).toNat) = (i_1 : Int).toNat then (if s_0.cap = (0 : Int).toNat then s_0.base else (s_0.base : Option Addr).map (·.add ((0 : Int).toNat * 1))) else ((if s_0.cap = (0 : Int).toNat then s_0.base else (s_0.base : Option Addr).map (·.add ((0 : Int).toNat * 1))) : Option Addr).map (·.add ((i_1 : Int).toNat * 1))), ((((((IntKind.i64.wrap ((s_0.len : Int) + (v_2.len : Int))) : Int).toNat - (0 : Int).toNat) : Int) : Int).toNat - (i_1 : Int).toNat), ((s_0.cap - (0 : Int).toNat) - (i_1 : Int).toNat)⟩ fun (n6 : Int) => pAssert (0 ≤ (i_1 : Int) ∧ (i_1 : Int) ≤ ((((IntKind.i64.wrap ((s_0.len : Int) + (v_2.len : Int))) : Int).toNat - (0 : Int).toNat) : Int) ∧ ((((IntKind.i64.wrap ((s_0.len : Int) + (v_2.len : Int))) : Int).toNat - (0 : Int).toNat) : Int) ≤ ((s_0.cap - (0 : Int).toNat) : Int)) <| pCopy 1 ⟨(if (s_0.cap - (0 : Int).toNat) = (i_1 : Int).toNat then (if s_0.cap = (0 : Int).toNat then s_0.base else (s_0.base : Option Addr).map (·.add ((0 : Int).toNat * 1))) else ((if s_0.cap = (0 : Int).toNat then s_0.base else (s_0.base : Option Addr).map (·.add ((0 : Int).toNat * 1))) : Option Addr).map (·.add ((i_1 : Int).toNat * 1))), ((((((IntKind.i64.wrap ((s_0.len : Int) + (v_2.len : Int))) : Int).toNat - (0 : Int).toNat) : Int) : Int).toNat - (i_1 : Int).toNat), ((s_0.cap - (0 : Int).toNat) - (i_1 : Int).toNat)⟩ v_2 fun (n7 : Int) => K (.slice (if s_0.cap = (0 : Int).toNat then s_0.base else (s_0.base : Option Addr).map (·.add ((0 : Int).toNat * 1))) (((IntKind.i64.wrap ((s_0.len : Int) + (v_2.len : Int))) : Int).toNat - (0 : Int).toNat) (s_0.cap - (0 : Int).toNat)))
  (pAssert (0 ≤ ((s_0.len : Int) : Int) ∧ ((s_0.len : Int) : Int) ≤ ((((IntKind.i64.wrap ((s_0.len : Int) + (v_2.len : Int))) : Int).toNat - (0 : Int).toNat) : Int) ∧ ((((IntKind.i64.wrap ((s_0.len : Int) + (v_2.len : Int))) : Int).toNat - (0 : Int).toNat) : Int) ≤ ((s_0.cap - (0 : Int).toNat) : Int)) <| pCopy 1 ⟨(if (s_0.cap - (0 : Int).toNat) = ((s_0.len : Int) : Int).toNat then (if s_0.cap = (0 : Int).toNat then s_0.base else (s_0.base : Option Addr).map (·.add ((0 : Int).toNat * 1))) else ((if s_0.cap = (0 : Int).toNat then s_0.base else (s_0.base : Option Addr).map (·.add ((0 : Int).toNat * 1))) : Option Addr).map (·.add (((s_0.len : Int) : Int).toNat * 1))), ((((((IntKind.i64.wrap ((s_0.len : Int) + (v_2.len : Int))) : Int).toNat - (0 : Int).toNat) : Int) : Int).toNat - ((s_0.len : Int) : Int).toNat), ((s_0.cap - (0 : Int).toNat) - ((s_0.len : Int) : Int).toNat)⟩ v_2 fun (n8 : Int) => pAssert (0 ≤ (i_1 : Int) ∧ (i_1 : Int) ≤ ((((IntKind.i64.wrap ((s_0.len : Int) + (v_2.len : Int))) : Int).toNat - (0 : Int).toNat) : Int) ∧ ((((IntKind.i64.wrap ((s_0.len : Int) + (v_2.len : Int))) : Int).toNat - (0 : Int).toNat) : Int) ≤ ((s_0.cap - (0 : Int).toNat) : Int)) <| pCall Tryd.prog 40 [(.slice (if (s_0.cap - (0 : Int).toNat) = (i_1 : Int).toNat then (if s_0.cap = (0 : Int).toNat then s_0.base else (s_0.base : Option Addr).map (·.add ((0 : Int).toNat * 1))) else ((if s_0.cap = (0 : Int).toNat then s_0.base else (s_0.base : Option Addr).map (·.add ((0 : Int).toNat * 1))) : Option Addr).map (·.add ((i_1 : Int).toNat * 1))) ((((((IntKind.i64.wrap ((s_0.len : Int) + (v_2.len : Int))) : Int).toNat - (0 : Int).toNat) : Int) : Int).toNat - (i_1 : Int).toNat) ((s_0.cap - (0 : Int).toNat) - (i_1 : Int).toNat)), (.int .i64 (v_2.len : Int))] KP (.many []) fun (r9 : Unit) => K (.slice (if s_0.cap = (0 : Int).toNat then s_0.base else (s_0.base : Option Addr).map (·.add ((0 : Int).toNat * 1))) (((IntKind.i64.wrap ((s_0.len : Int) + (v_2.len : Int))) : Int).toNat - (0 : Int).toNat) (s_0.cap - (0 : Int).toNat))))))
def slices_Insert_string_string_ann : Ann := .two (.none) (.two (.none) (.two (.none) (.two (.two (.none) (.two (.two (.none) (.none)) (.none))) (.two (.none) (.two (.two (.none) (.two (.two (.none) (.none)) (.none))) (.two (.two (.none) (.two (.two (.none) (.two (.none) (.two (.ord [0, 1, 2, 3, 4, 5, 6, 7, 8]) (.two (.none) (.none))))) (.none))) (.two (.none) (.two (.two (.none) (.two (.two (.ord [0, 1, 2, 3, 4, 5, 6, 7, 8]) (.two (.none) (.two (.none) (.none)))) (.none))) (.two (.none) (.two (.none) (.two (.none) (.none))))))))))))
theorem slices_Insert_string_string_eq (s_0 : Sl) (i_1 : Int) (v_2 : Sl) (KP K : Value → Pr) : vcBody Tryd.prog Tryd.f24 (Tryd.f24.body.getD .skip) slices_Insert_string_string_ann [(.slice s_0.base s_0.len s_0.cap), (.int .i64 i_1), (.slice v_2.base v_2.len v_2.cap)] KP K = slices_Insert_string_string s_0 i_1 v_2 KP K := by kernel_rfl
theorem slices_Insert_string_string_call (s_0 : Sl) (i_1 : Int) (v_2 : Sl) {KP K : Value → Pr} {h : Heap} (s : slices_Insert_string_string s_0 i_1 v_2 (fgt KP) (fgt K) h) : WpCall Tryd.prog 24 [(.slice s_0.base s_0.len s_0.cap), (.int .i64 i_1), (.slice v_2.base v_2.len v_2.cap)].toArray KP K h :=
  WpCall.of_vc Tryd.mixed Tryd.func24 (by kernel_rfl) Tryd.call24 slices_Insert_string_string_ann (by rw [slices_Insert_string_string_eq]; exact s)

/- slices.Insert[[]int,int] -/
def slices_Insert_int_int (s_0 : Sl) (i_1 : Int) (v_2 : Sl) (KP K : Value → Pr) : Pr :=
  pAssert (0 ≤ (i_1 : Int) ∧ (i_1 : Int) ≤ (s_0.len : Int) ∧ (s_0.len : Int) ≤ (s_0.cap : Int)) <| pIf (((v_2.len : Int) : Int) == 0)
  (K (.slice s_0.base s_0.len s_0.cap))
  (pIf ((i_1 : Int) == (s_0.len : Int))
  (pAppend 1 8 s_0 v_2 fun s1 => K (.slice s1.base s1.len s1.cap))
  (pIf (decide (((IntKind.i64.wrap ((s_0.len : Int) + (v_2.len : Int))) : Int) > (s_0.cap : Int)))
  (pAssert (0 ≤ (0 : Int) ∧ (0 : Int) ≤ i_1 ∧ i_1 ≤ (s_0.cap : Int)) <| pExtend 1 8 (zc Tryd.prog 3) ⟨(if s_0.cap = (0 : Int).toNat then s_0.base else (s_0.base : Option Addr).map (·.add ((0 : Int).toNat * 1))), ((i_1 : Int).toNat - (0 : Int).toNat), (s_0.cap - (0 : Int).toNat)⟩ (IntKind.i64.wrap ((IntKind.i64.wrap ((s_0.len : Int) + (v_2.len : Int))) - i_1)) fun s2 => pAssert (0 ≤ (i_1 : Int) ∧ (i_1 : Int) ≤ (s2.len : Int) ∧ (s2.len : Int) ≤ (s2.cap : Int)) <| pCopy 1 ⟨(if s2.cap = (i_1 : Int).toNat then s2.base else (s2.base : Option Addr).map (·.add ((i_1 : Int).toNat * 1))), (((s2.len : Int) : Int).toNat - (i_1 : Int).toNat), (s2.cap - (i_1 : Int).toNat)⟩ v_2 fun (n3 : Int) => pAssert (0 ≤ ((IntKind.i64.wrap (i_1 + (v_2.len : Int))) : Int) ∧ ((IntKind.i64.wrap (i_1 + (v_2.len : Int))) : Int) ≤ (s2.len : Int) ∧ (s2.len : Int) ≤ (s2.cap : Int)) <| pAssert (0 ≤ (i_1 : Int) ∧ (i_1 : Int) ≤ (s_0.len : Int) ∧ (s_0.len : Int) ≤ (s_0.cap : Int)) <| pCopy 1 ⟨(if s2.cap = ((IntKind.i64.wrap (i_1 + (v_2.len : Int))) : Int).toNat then s2.base else (s2.base : Option Addr).map (·.add (((IntKind.i64.wrap (i_1 + (v_2.len : Int))) : Int).toNat * 1))), (((s2.len : Int) : Int).toNat - ((IntKind.i64.wrap (i_1 + (v_2.len : Int))) : Int).toNat), (s2.cap - ((IntKind.i64.wrap (i_1 + (v_2.len : Int))) : Int).toNat)⟩ ⟨(if s_0.cap = (i_1 : Int).toNat then s_0.base else (s_0.base : Option Addr).map (·.add ((i_1 : Int).toNat * 1))), (((s_0.len : Int) : Int).toNat - (i_1 : Int).toNat), (s_0.cap - (i_1 : Int).toNat)⟩ fun (n4 : Int) => K (.slice s2.base s2.len s2.cap))
  (pAssert (0 ≤ (0 : Int) ∧ (0 : Int) ≤ (IntKind.i64.wrap ((s_0.len : Int) + (v_2.len : Int))) ∧ (IntKind.i64.wrap ((s_0.len : Int) + (v_2.len : Int))) ≤ (s_0.cap : Int)) <| pAssert (0 ≤ ((IntKind.i64.wrap (i_1 + (v_2.len : Int))) : Int) ∧ ((IntKind.i64.wrap (i_1 + (v_2.len : Int))) : Int) ≤ ((((IntKind.i64.wrap ((s_0.len : Int) + (v_2.len : Int))) : Int).toNat - (0 : Int).toNat) : Int) ∧ ((((IntKind.i64.wrap ((s_0.len : Int) + (v_2.len : Int))) : Int).toNat - (0 : Int).toNat) : Int) ≤ ((s_0.cap - (0 : Int).toNat) : Int)) <| pCall Tryd.prog 41 [(.slice v_2.base v_2.len v_2.cap), (.slice (if (s_0.cap - (0 : Int).toNat) = ((IntKind.i64.wrap (i_1 + (v_2.len : Int))) : Int).toNat then (if s_0.cap = (0 : Int).toNat then s_0.base else (s_0.base : Option Addr).map (·.add ((0 : Int).toNat * 1))) else ((if s_0.cap = (0 : Int).toNat then s_0.base else (s_0.base : Option Addr).map (·.add ((0 : Int).toNat * 1))) : Option Addr).map (·.add (((IntKind.i64.wrap (i_1 + (v_2.len : Int))) : Int).toNat * 1))) ((((((IntKind.i64.wrap ((s_0.len : Int) + (v_2.len : Int))) : Int).toNat - (0 : Int).toNat) : Int) : Int).toNat - ((IntKind.i64.wrap (i_1 + (v_2.len : Int))) : Int).toNat) ((s_0.cap - (0 : Int).toNat) - ((IntKind.i64.wrap (i_1 + (v_2.len : Int))) : Int).toNat))] KP (.one .bool) fun (r5 : Bool) => pIf (!r5)
  (pAssert (0 ≤ ((IntKind.i64.wrap (i_1 + (v_2.len : Int))) : Int) ∧ ((IntKind.i64.wrap (i_1 + (v_2.len : Int))) : Int) ≤ ((((IntKind.i64.wrap ((s_0.len : Int) + (v_2.len : Int))) : Int).toNat - (0 : Int).toNat) : Int) ∧ ((((IntKind.i64.wrap ((s_0.len : Int) + (v_2.len : Int))) : Int).toNat - (0 : Int).toNat) : Int) ≤ ((s_0.cap - (0 : Int).toNat) : Int)) <| pAssert (0 ≤ (i_1 : Int) ∧ (i_1 : Int) ≤ ((((IntKind.i64.wrap ((s_0.len : Int) + (v_2.len : Int))) : Int).toNat - (0 : Int).toNat) : Int) ∧ ((((IntKind.i64.wrap ((s_0.len : Int) + (v_2.len : Int))) : Int).toNat - (0 : Int).toNat) : Int) ≤ ((s_0.cap - (0 : Int).toNat) : Int)) <| pCopy 1 ⟨(if (s_0.cap - (0 : Int).toNat) = ((IntKind.i64.wrap (i_1 + (v_2.len : Int))) : Int).toNat then (if s_0.cap = (0 : Int).toNat then s_0.base else (s_0.base : Option Addr).map (·.add ((0 : Int).toNat * 1))) else ((if s_0.cap = (0 : Int).toNat then s_0.base else (s_0.base : Option Addr).map (·.add ((0 : Int).toNat * 1))) : Option Addr).map (·.add (((IntKind.i64.wrap (i_1 + (v_2.len : Int))) : Int).toNat * 1))), ((((((IntKind.i64.wrap ((s_0.len : Int) + (v_2.len : Int))) : Int).toNat - (0 : Int).toNat) : Int) : Int).toNat - ((IntKind.i64.wrap (i_1 + (v_2.len : Int))) : Int).toNat), ((s_0.cap - (0 : Int).toNat) - ((IntKind.i64.wrap (i_1 + (v_2.len : Int))) : Int).toNat)⟩ ⟨(if (s_0.cap - (0 : Int).toNat) = (i_1 : Int).toNat then (if s_0.cap = (0 : Int).toNat then s_0.base else (s_0.base : Option Addr).map (·.add ((0 : Int).toNat * 1))) else ((if s_0.cap = (0 : Int).toNat then s_0.base else (s_0.base : Option Addr).map (·.add ((0 : Int).toNat * 1))) : Option Addr).map (·.add ((i_1 : Int).toNat * 1))), ((((((IntKind.i64.wrap ((s_0.len : Int) + (v_2.len : Int))) : Int).toNat - (0 : Int).toNat) : Int) : Int).toNat - (i_1 : Int).toNat), ((s_0.cap - (0 : Int).toNat) - (i_1 : Int).toNat)⟩ fun (n6 : Int) => pAssert (0 ≤ (i_1 : Int) ∧ (i_1 : Int) ≤ ((((IntKind.i64.wrap ((s_0.len : Int) + (v_2.len : Int))) : Int).toNat - (0 : Int).toNat) : Int) ∧ ((((IntKind.i64.wrap ((s_0.len : Int) + (v_2.len : Int))) : Int).toNat - (0 : Int).toNat) : Int) ≤ ((s_0.cap - (0 : Int).toNat) : Int)) <| pCopy 1 ⟨(if (s_0.cap - (0 : Int).toNat) = (i_1 : Int).toNat then (if s_0.cap = (0 : Int).toNat then s_0.base else (s_0.base : Option Addr).map (·.add ((0 : Int).toNat * 1))) else ((if s_0.cap = (0 : Int).toNat then s_0.base else (s_0.base : Option Addr).map (·.add ((0 : Int).toNat * 1))) : Option Addr).map (·.add ((i_1 : Int).toNat * 1))), ((((((IntKind.i64.wrap ((s_0.len : Int) + (v_2.len : Int))) : Int).toNat - (0 : Int).toNat) : Int) : Int).toNat - (i_1 : Int).toNat), ((s_0.cap - (0 : Int).toNat) - (i_1 : Int).toNat)⟩ v_2 fun (n7 : Int) => K (.slice (if s_0.cap = (0 : Int).toNat then s_0.base else (s_0.base : Option Addr).map (·.add ((0 : Int).toNat * 1))) (((IntKind.i64.wrap ((s_0.len : Int) + (v_2.len : Int))) : Int).toNat - (0 : Int).toNat) (s_0.cap - (0 : Int).toNat)))
  (pAssert (0 ≤ ((s_0.len : Int) : Int) ∧ ((s_0.len : Int) : Int) ≤ ((((IntKind.i64.wrap ((s_0.len : Int) + (v_2.len : Int))) : Int).toNat - (0 : Int).toNat) : Int) ∧ ((((IntKind.i64.wrap ((s_0.len : Int) + (v_2.len : Int))) : Int).toNat - (0 : Int).toNat) : Int) ≤ ((s_0.cap - (0 : Int).toNat) : Int)) <| pCopy 1 ⟨(if (s_0.cap - (0 : Int).toNat) = ((s_0.len : Int) : Int).toNat then (if s_0.cap = (0 : Int).toNat then s_0.base else (s_0.base : Option Addr).map (·.add ((0 : Int).toNat * 1))) else ((if s_0.cap = (0 : Int).toNat then s_0.base else (s_0.base : Option Addr).map (·.add ((0 : Int).toNat * 1))) : Option Addr).map (·.add (((s_0.len : Int) : Int).toNat * 1))), ((((((IntKind.i64.wrap ((s_0.len : Int) + (v_2.len : Int))) : Int).toNat - (0 : Int).toNat) : Int) : Int).toNat - ((s_0.len : Int) : Int).toNat), ((s_0.cap - (0 : Int).toNat) - ((s_0.len : Int) : Int).toNat)⟩ v_2 fun (n8 : Int) => pAssert (0 ≤ (i_1 : Int) ∧ (i_1 : Int) ≤ ((((IntKind.i64.wrap ((s_0.len : Int) + (v_2.len : Int))) : Int).toNat - (0 : Int).toNat) : Int) ∧ ((((IntKind.i64.wrap ((s_0.len : Int) + (v_2.len : Int))) : Int).toNat - (0 : Int).toNat) : Int) ≤ ((s_0.cap - (0 : Int).toNat) : Int)) <| pCall Tryd.prog 42 [(.slice (if (s_0.cap - (0 : Int).toNat) = (i_1 : Int).toNat then (if s_0.cap = (0 : Int).toNat then s_0.base else (s_0.base : Option Addr).map (·.add ((0 : Int).toNat * 1))) else ((if s_0.cap = (0 : Int).toNat then s_0.base else (s_0.base : Option Addr).map (·.add ((0 : Int).toNat * 1))) : Option Addr).map (·.add ((i_1 : Int).toNat * 1))) ((((((IntKind.i64.wrap ((s_0.len : Int) + (v_2.len : Int))) : Int).toNat - (0 : Int).toNat) : Int) : Int).toNat - (i_1 : Int).toNat) ((s_0.cap - (0 : Int).toNat) - (i_1 : Int).toNat)), (.int .i64 (v_2.len : Int))] KP (.many []) fun (r9 : Unit) => K (.slice (if s_0.cap = (0 : Int).toNat then s_0.base else (s_0.base : Option Addr).map (·.add ((0 : Int).toNat * 1))) (((IntKind.i64.wrap ((s_0.len : Int) + (v_2.len : Int))) : Int).toNat - (0 : Int).toNat) (s_0.cap - (0 : Int).toNat))))))
def slices_Insert_int_int_ann : Ann := .two (.none) (.two (.none) (.two (.none) (.two (.two (.none) (.two (.two (.none) (.none)) (.none))) (.two (.none) (.two (.two (.none) (.two (.two (.none) (.none)) (.none))) (.two (.two (.none) (.two (.two (.none) (.two (.none) (.two (.ord [0, 1, 2, 3, 4, 5, 6, 7, 8]) (.two (.none) (.none))))) (.none))) (.two (.none) (.two (.two (.none) (.two (.two (.ord [0, 1, 2, 3, 4, 5, 6, 7, 8]) (.two (.none) (.two (.none) (.none)))) (.none))) (.two (.none) (.two (.none) (.two (.none) (.none))))))))))))
theorem slices_Insert_int_int_eq (s_0 : Sl) (i_1 : Int) (v_2 : Sl) (KP K : Value → Pr) : vcBody Tryd.prog Tryd.f25 (Tryd.f25.body.getD .skip) slices_Insert_int_int_ann [(.slice s_0.base s_0.len s_0.cap), (.int .i64 i_1), (.slice v_2.base v_2.len v_2.cap)] KP K = slices_Insert_int_int s_0 i_1 v_2 KP K := by kernel_rfl
theorem slices_Insert_int_int_call (s_0 : Sl) (i_1 : Int) (v_2 : Sl) {KP K : Value → Pr} {h : Heap} (s : slices_Insert_int_int s_0 i_1 v_2 (fgt KP) (fgt K) h) : WpCall Tryd.prog 25 [(.slice s_0.base s_0.len s_0.cap), (.int .i64 i_1), (.slice v_2.base v_2.len v_2.cap)].toArray KP K h :=
  WpCall.of_vc Tryd.mixed Tryd.func25 (by kernel_rfl) Tryd.call25 slices_Insert_int_int_ann (by rw [slices_Insert_int_int_eq]; exact s)

/- strings.Contains -/
def strings_Contains (s_0 : ByteArray) (substr_1 : ByteArray) (KP K : Value → Pr) : Pr :=
  pCall Tryd.prog 43 [(.string s_0), (.string substr_1)] KP (.one (.int .i64)) fun (r1 : Int) => K (.bool (decide ((r1 : Int) ≥ 0)))
def strings_Contains_ann : Ann := .two (.none) (.two (.none) (.none))
theorem strings_Contains_eq (s_0 : ByteArray) (substr_1 : ByteArray) (KP K : Value → Pr) : vcBody Tryd.prog Tryd.f26 (Tryd.f26.body.getD .skip) strings_Contains_ann [(.string s_0), (.string substr_1)] KP K = strings_Contains s_0 substr_1 KP K := by kernel_rfl
theorem strings_Contains_call (s_0 : ByteArray) (substr_1 : ByteArray) {KP K : Value → Pr} {h : Heap} (s : strings_Contains s_0 substr_1 (fgt KP) (fgt K) h) : WpCall Tryd.prog 26 [(.string s_0), (.string substr_1)].toArray KP K h :=
  WpCall.of_vc Tryd.mixed Tryd.func26 (by kernel_rfl) Tryd.call26 strings_Contains_ann (by rw [strings_Contains_eq]; exact s)

end Go.Proofs.YtkbcneomjkfheaaDoor

set_option linter.unusedVariables false
namespace Go.Proofs.YtkbcneomjkfheaaDoor
open Go.Hl
/- (*halberd/paths.walk).into -/
def paths_walk_into_j1 (w_0 : Option Addr) (k4 : Unit → Pr) (x9 : Bool) : Pr :=
  pIf x9
  (pSome w_0 fun a10 => pSt (a10.add 6) (.bool true) <| k4 (()))
  (k4 (()))
def paths_walk_into_j2 (w_0 : Option Addr) (path_1 : ByteArray) (KP : Value → Pr) (K : Value → Pr) : Pr :=
  pSome w_0 fun a11 => pLd .slice (a11.add 5) fun (x12 : Sl) => pCall Tryd.prog 46 [(.string path_1)] KP (.one .slice) fun (r13 : Sl) => pKeep (loadF Tryd.prog 22 (.pointer (some (a11.add 5))) (.slice x12.base x12.len x12.cap)) <| pAppend 1 16 r13 x12 fun s14 => pSome w_0 fun a15 => pSt (a15.add 5) (.slice s14.base s14.len s14.cap) <| K (.tuple [].toArray)
def paths_walk_into_j3 (w_0 : Option Addr) (path_1 : ByteArray) (KP : Value → Pr) (K : Value → Pr) : Pr :=
  pJoin (σ := Unit)
  (fun k4 => pJoin (σ := Bool × Unit)
  (fun k5 => pCall Tryd.prog 45 [(.string path_1), (.string (⟨#[47]⟩ : ByteArray))] KP (.one .bool) fun (r6 : Bool) => pIf r6
  (pSome w_0 fun a7 => pLd .slice (a7.add 5) fun (x8 : Sl) => k5 ((((x8.len : Int) : Int) == 0), ()))
  (k5 (false, ())))
  (fun s => paths_walk_into_j1 w_0 k4 s.1))
  (fun s => paths_walk_into_j2 w_0 path_1 KP K)
def paths_walk_into (w_0 : Option Addr) (path_1 : ByteArray) (KP K : Value → Pr) : Pr :=
  pJoin (σ := Unit)
  (fun k1 => pCall Tryd.prog 44 [(.string path_1), (.string (⟨#[47]⟩ : ByteArray))] KP (.one .bool) fun (r2 : Bool) => pIf r2
  (pSome w_0 fun a3 => pSt (a3.add 4) (.int .i64 1) <| k1 (()))
  (k1 (())))
  (fun s => paths_walk_into_j3 w_0 path_1 KP K)
def paths_walk_into_ann : Ann := .join (.two (.none) (.two (.none) (.none))) (.join (.join (.none) (.two (.none) (.none)) [(18, .bool)]) (.ord [0, 1, 3, 4, 5, 6, 2, 7, 8, 9, 10]) []) []
theorem paths_walk_into_eq (w_0 : Option Addr) (path_1 : ByteArray) (KP K : Value → Pr) : vcBody Tryd.prog Tryd.f27 (Tryd.f27.body.getD .skip) paths_walk_into_ann [(.pointer w_0), (.string path_1)] KP K = paths_walk_into w_0 path_1 KP K := by kernel_rfl
theorem paths_walk_into_call (w_0 : Option Addr) (path_1 : ByteArray) {KP K : Value → Pr} {h : Heap} (s : paths_walk_into w_0 path_1 (fgt KP) (fgt K) h) : WpCall Tryd.prog 27 [(.pointer w_0), (.string path_1)].toArray KP K h :=
  WpCall.of_vc Tryd.mixed Tryd.func27 (by kernel_rfl) Tryd.call27 paths_walk_into_ann (by rw [paths_walk_into_eq]; exact s)

/- (*halberd/inodes.Table).Get -/
def inodes_Table_Get (t_0 : Option Addr) (ino_1 : Int) (KP K : Value → Pr) : Pr :=
  pNew (zc Tryd.prog 25) fun b1 => pCall Tryd.prog 21 [(.pointer t_0), (.int .i64 ino_1)] KP (.one .ptr) fun (r2 : Option Addr) => pIf (r2.isNone)
  (pStA 11 ⟨b1, 0, none⟩ (lay (zc Tryd.prog 25) []) <| pLdA 11 ⟨b1, 0, none⟩ fun x3 => K (.tuple [(.agg x3.toArray), (.bool false)].toArray))
  (pSome r2 fun a4 => pLdA 11 a4 fun x5 => pCall Tryd.prog 47 [(.agg x5.toArray)] KP (.one .agg) fun (r6 : List Value) => pStA 11 ⟨b1, 0, none⟩ r6 <| pLdA 11 ⟨b1, 0, none⟩ fun x7 => K (.tuple [(.agg x7.toArray), (.bool true)].toArray))
def inodes_Table_Get_ann : Ann := .two (.none) (.two (.none) (.two (.two (.none) (.two (.two (.none) (.none)) (.none))) (.two (.none) (.none))))
theorem inodes_Table_Get_eq (t_0 : Option Addr) (ino_1 : Int) (KP K : Value → Pr) : vcBody Tryd.prog Tryd.f28 (Tryd.f28.body.getD .skip) inodes_Table_Get_ann [(.pointer t_0), (.int .i64 ino_1)] KP K = inodes_Table_Get t_0 ino_1 KP K := by kernel_rfl
theorem inodes_Table_Get_call (t_0 : Option Addr) (ino_1 : Int) {KP K : Value → Pr} {h : Heap} (s : inodes_Table_Get t_0 ino_1 (fgt KP) (fgt K) h) : WpCall Tryd.prog 28 [(.pointer t_0), (.int .i64 ino_1)].toArray KP K h :=
  WpCall.of_vc Tryd.mixed Tryd.func28 (by kernel_rfl) Tryd.call28 inodes_Table_Get_ann (by rw [inodes_Table_Get_eq]; exact s)

/- (*halberd/paths.walk).step -/
def paths_walk_step_j1 (w_0 : Option Addr) (KP : Value → Pr) (K : Value → Pr) (b1 : Nat) (x24 : Sl) : Pr :=
  pCall Tryd.prog 30 [(.pointer w_0)] KP (.one .agg) fun (r33 : List Value) => pStA 3 ⟨b1, 0, none⟩ r33 <| pLdA 3 ⟨b1, 0, none⟩ fun x34 => K (.tuple [(.agg x34.toArray), (.bool (((x24.len : Int) : Int) == 1)), (.int .i64 0)].toArray)
def paths_walk_step_j2 (w_0 : Option Addr) (KP : Value → Pr) (K : Value → Pr) (b1 : Nat) (x23 : ByteArray) (x24 : Sl) (r40 : Int × Bool × Unit) (b44 : Nat) (x51 : Bool) : Pr :=
  pIf x51
  (pLdA 11 ⟨b44, 0, none⟩ fun x52 => pCall Tryd.prog 49 [(.pointer w_0), (.agg x52.toArray)] KP (.one (.int .i64)) fun (r53 : Int) => pStA 3 ⟨b1, 0, none⟩ (lay (zc Tryd.prog 36) []) <| pLdA 3 ⟨b1, 0, none⟩ fun x54 => K (.tuple [(.agg x54.toArray), (.bool false), (.int .i64 r53)].toArray))
  (pIf (((x24.len : Int) : Int) == 1)
  (pLdA 11 ⟨b44, 0, none⟩ fun x55 => pCall Tryd.prog 50 [(.pointer w_0), (.string x23), (.agg x55.toArray)] KP (.many [.agg, (.int .i64)]) fun (r56 : (List Value) × Int × Unit) => pNew (zc Tryd.prog 36) fun b57 => pStA 3 ⟨b57, 0, none⟩ r56.1 <| pLdA 3 ⟨b57, 0, none⟩ fun x58 => pStA 3 ⟨b1, 0, none⟩ x58 <| pLdA 3 ⟨b1, 0, none⟩ fun x59 => K (.tuple [(.agg x59.toArray), (.bool true), (.int .i64 r56.2.1)].toArray))
  (pLd (.int .i64) ((⟨b44, 0, none⟩ : Addr).add 0) fun (x60 : Int) => pIf ((x60 : Int) == 0)
  (pStA 3 ⟨b1, 0, none⟩ (lay (zc Tryd.prog 36) []) <| pLdA 3 ⟨b1, 0, none⟩ fun x61 => K (.tuple [(.agg x61.toArray), (.bool false), (.int .i64 2)].toArray))
  (pLd (.int .i64) ((⟨b44, 0, none⟩ : Addr).add 2) fun (x62 : Int) => pIf ((x62 : Int) != 2)
  (pStA 3 ⟨b1, 0, none⟩ (lay (zc Tryd.prog 36) []) <| pLdA 3 ⟨b1, 0, none⟩ fun x63 => K (.tuple [(.agg x63.toArray), (.bool false), (.int .i64 20)].toArray))
  (pSome w_0 fun a64 => pSt (a64.add 4) (.int .i64 r40.1) <| pStA 3 ⟨b1, 0, none⟩ (lay (zc Tryd.prog 36) []) <| pLdA 3 ⟨b1, 0, none⟩ fun x65 => K (.tuple [(.agg x65.toArray), (.bool false), (.int .i64 0)].toArray)))))
def paths_walk_step_j3 (w_0 : Option Addr) (KP : Value → Pr) (K : Value → Pr) (b1 : Nat) (b7 : Nat) (x23 : ByteArray) (x24 : Sl) (x29 : Bool) : Pr :=
  pIf x29
  (pJoin (σ := Unit)
  (fun k30 => pIf (strEq x23 (⟨#[46, 46]⟩ : ByteArray))
  (pLd (.int .i64) ((⟨b7, 0, none⟩ : Addr).add 10) fun (x31 : Int) => pSome w_0 fun a32 => pSt (a32.add 4) (.int .i64 x31) <| k30 (()))
  (k30 (())))
  (fun s => paths_walk_step_j1 w_0 KP K b1 x24))
  (pIf (decide (((x23.size : Int) : Int) > 8))
  (pStA 3 ⟨b1, 0, none⟩ (lay (zc Tryd.prog 36) []) <| pLdA 3 ⟨b1, 0, none⟩ fun x35 => K (.tuple [(.agg x35.toArray), (.bool false), (.int .i64 36)].toArray))
  (pSome w_0 fun a36 => pSome w_0 fun a37 => pLd .ptr (a36.add 0) fun (x38 : Option Addr) => pLd (.int .i64) (a37.add 4) fun (x39 : Int) => pCall Tryd.prog 48 [(.pointer x38), (.int .i64 x39), (.string x23)] KP (.many [(.int .i64), .bool]) fun (r40 : Int × Bool × Unit) => pSome w_0 fun a41 => pLd .ptr (a41.add 0) fun (x42 : Option Addr) => pCall Tryd.prog 28 [(.pointer x42), (.int .i64 r40.1)] KP (.many [.agg, .bool]) fun (r43 : (List Value) × Bool × Unit) => pNew (zc Tryd.prog 25) fun b44 => pStA 11 ⟨b44, 0, none⟩ r43.1 <| pJoin (σ := Bool × Unit)
  (fun k45 => pLd (.int .i64) ((⟨b44, 0, none⟩ : Addr).add 2) fun (x46 : Int) => pIf ((x46 : Int) == 3)
  (pIf (!(((x24.len : Int) : Int) == 1))
  (k45 (true, ()))
  (pSome w_0 fun a47 => pLd .bool (a47.add 3) fun (x48 : Bool) => pIf x48
  (k45 (true, ()))
  (pSome w_0 fun a49 => pLd .bool (a49.add 6) fun (x50 : Bool) => k45 (x50, ()))))
  (k45 (false, ())))
  (fun s => paths_walk_step_j2 w_0 KP K b1 x23 x24 r40 b44 s.1)))
def paths_walk_step_j4 (w_0 : Option Addr) (KP : Value → Pr) (K : Value → Pr) (b1 : Nat) (b7 : Nat) (x10 : Bool) : Pr :=
  pIf x10
  (pStA 3 ⟨b1, 0, none⟩ (lay (zc Tryd.prog 36) []) <| pLdA 3 ⟨b1, 0, none⟩ fun x11 => K (.tuple [(.agg x11.toArray), (.bool false), (.int .i64 20)].toArray))
  (pSome w_0 fun a12 => pSome w_0 fun a13 => pLdA 11 ⟨b7, 0, none⟩ fun x14 => pLd (.int .i64) (a12.add 1) fun (x15 : Int) => pLd (.int .i64) (a13.add 2) fun (x16 : Int) => pCall Tryd.prog 8 [(.agg x14.toArray), (.int .i64 x15), (.int .i64 x16), (.int .i64 1)] KP (.one .bool) fun (r17 : Bool) => pIf (!r17)
  (pStA 3 ⟨b1, 0, none⟩ (lay (zc Tryd.prog 36) []) <| pLdA 3 ⟨b1, 0, none⟩ fun x18 => K (.tuple [(.agg x18.toArray), (.bool false), (.int .i64 13)].toArray))
  (pSome w_0 fun a19 => pSome w_0 fun a20 => pLd .slice (a19.add 5) fun (x21 : Sl) => pIdx 0 x21.len <| pSome x21.base fun a22 => pLd .str (a22.add ((0 : Int).toNat * 1)) fun (x23 : ByteArray) => pLd .slice (a20.add 5) fun (x24 : Sl) => pSome w_0 fun a25 => pLd .slice (a25.add 5) fun (x26 : Sl) => pAssert (0 ≤ (1 : Int) ∧ (1 : Int) ≤ (x26.len : Int) ∧ (x26.len : Int) ≤ (x26.cap : Int)) <| pSome w_0 fun a27 => pSt (a27.add 5) (.slice (if x26.cap = (1 : Int).toNat then x26.base else (x26.base : Option Addr).map (·.add ((1 : Int).toNat * 1))) (((x26.len : Int) : Int).toNat - (1 : Int).toNat) (x26.cap - (1 : Int).toNat)) <| pJoin (σ := Bool × Unit)
  (fun k28 => pIf (strEq x23 (⟨#[46]⟩ : ByteArray))
  (k28 (true, ()))
  (k28 ((strEq x23 (⟨#[46, 46]⟩ : ByteArray)), ())))
  (fun s => paths_walk_step_j3 w_0 KP K b1 b7 x23 x24 s.1)))
def paths_walk_step (w_0 : Option Addr) (KP K : Value → Pr) : Pr :=
  pNew (zc Tryd.prog 36) fun b1 => pSome w_0 fun a2 => pSome w_0 fun a3 => pLd .ptr (a2.add 0) fun (x4 : Option Addr) => pLd (.int .i64) (a3.add 4) fun (x5 : Int) => pCall Tryd.prog 28 [(.pointer x4), (.int .i64 x5)] KP (.many [.agg, .bool]) fun (r6 : (List Value) × Bool × Unit) => pNew (zc Tryd.prog 25) fun b7 => pStA 11 ⟨b7, 0, none⟩ r6.1 <| pJoin (σ := Bool × Unit)
  (fun k8 => pIf (!r6.2.1)
  (k8 (true, ()))
  (pLd (.int .i64) ((⟨b7, 0, none⟩ : Addr).add 2) fun (x9 : Int) => k8 (((x9 : Int) != 2), ())))
  (fun s => paths_walk_step_j4 w_0 KP K b1 b7 s.1)
def paths_walk_step_ann : Ann := .two (.none) (.two (.ord [0, 1, 2, 4, 5, 6, 3, 7, 8, 9, 10, 11, 12, 13, 14]) (.two (.sub (.join (.none) (.two (.two (.none) (.none)) (.two (.ord [1, 2, 3, 5, 6, 7, 0, 4, 8, 9, 10, 11]) (.two (.two (.none) (.none)) (.none)))) [(27, .bool)])) (.two (.ord [0, 1, 2, 6, 7, 8, 3, 4, 5, 12, 9, 10, 11, 13]) (.two (.none) (.two (.sub (.join (.none) (.two (.join (.two (.none) (.two (.none) (.none))) (.two (.none) (.none)) []) (.two (.none) (.two (.two (.none) (.none)) (.none)))) [(69, .bool)])) (.two (.ord [0, 1, 2, 4, 5, 6, 8, 3, 7, 9, 10, 11, 12, 13, 14]) (.two (.none) (.two (.sub (.join (.none) (.two (.two (.none) (.none)) (.two (.none) (.two (.two (.none) (.two (.none) (.none))) (.two (.none) (.two (.two (.none) (.none)) (.two (.none) (.two (.two (.none) (.none)) (.none)))))))) [(113, .bool)])) (.two (.none) (.two (.none) (.none)))))))))))
theorem paths_walk_step_eq (w_0 : Option Addr) (KP K : Value → Pr) : vcBody Tryd.prog Tryd.f29 (Tryd.f29.body.getD .skip) paths_walk_step_ann [(.pointer w_0)] KP K = paths_walk_step w_0 KP K := by kernel_rfl
theorem paths_walk_step_call (w_0 : Option Addr) {KP K : Value → Pr} {h : Heap} (s : paths_walk_step w_0 (fgt KP) (fgt K) h) : WpCall Tryd.prog 29 [(.pointer w_0)].toArray KP K h :=
  WpCall.of_vc Tryd.mixed Tryd.func29 (by kernel_rfl) Tryd.call29 paths_walk_step_ann (by rw [paths_walk_step_eq]; exact s)

/- (*halberd/paths.walk).here -/
def paths_walk_here (w_0 : Option Addr) (KP K : Value → Pr) : Pr :=
  pNew (zc Tryd.prog 36) fun b1 => pSome w_0 fun a2 => pSome w_0 fun a3 => pLd (.int .i64) (a2.add 4) fun (x4 : Int) => pLd (.int .i64) (a3.add 4) fun (x5 : Int) => pStA 3 ⟨b1, 0, none⟩ (lay (zc Tryd.prog 36) [(0, (.int .i64 x4)), (2, (.int .i64 x5))]) <| pLdA 3 ⟨b1, 0, none⟩ fun x6 => K (.agg x6.toArray)
def paths_walk_here_ann : Ann := .two (.none) (.two (.ord [0, 1, 2, 4, 5, 6, 3, 7, 8, 9]) (.none))
theorem paths_walk_here_eq (w_0 : Option Addr) (KP K : Value → Pr) : vcBody Tryd.prog Tryd.f30 (Tryd.f30.body.getD .skip) paths_walk_here_ann [(.pointer w_0)] KP K = paths_walk_here w_0 KP K := by kernel_rfl
theorem paths_walk_here_call (w_0 : Option Addr) {KP K : Value → Pr} {h : Heap} (s : paths_walk_here w_0 (fgt KP) (fgt K) h) : WpCall Tryd.prog 30 [(.pointer w_0)].toArray KP K h :=
  WpCall.of_vc Tryd.mixed Tryd.func30 (by kernel_rfl) Tryd.call30 paths_walk_here_ann (by rw [paths_walk_here_eq]; exact s)

/- halberd/halberdref21.New -/
def ref21_New  (KP K : Value → Pr) : Pr :=
  pNew (lay (zc Tryd.prog 82) []) fun b1 => pSome (some ⟨b1, 0, none⟩) fun a2 => pIdx 1 25 <| pStA 11 ((a2.add 0).add ((1 : Int).toNat * 11)) (lay (zc Tryd.prog 25) [(0, (.int .i64 1)), (1, (.int .i64 1)), (2, (.int .i64 2)), (3, (.int .i64 493)), (6, (.int .i64 1)), (10, (.int .i64 1))]) <| K (.pointer (some ⟨b1, 0, none⟩))
def ref21_New_ann : Ann := .two (.none) (.two (.none) (.two (.none) (.two (.none) (.none))))
theorem ref21_New_eq  (KP K : Value → Pr) : vcBody Tryd.prog Tryd.f31 (Tryd.f31.body.getD .skip) ref21_New_ann [] KP K = ref21_New  KP K := by kernel_rfl
theorem ref21_New_call  {KP K : Value → Pr} {h : Heap} (s : ref21_New  (fgt KP) (fgt K) h) : WpCall Tryd.prog 31 [].toArray KP K h :=
  WpCall.of_vc Tryd.mixed Tryd.func31 (by kernel_rfl) Tryd.call31 ref21_New_ann (by rw [ref21_New_eq]; exact s)

/- halberd/halberdlaw21.Do -/
def law21_Do_j1 (K : Value → Pr) (x14 : Bool) : Pr :=
  K (.bool x14)
def law21_Do_j2 (K : Value → Pr) (x34 : Bool) : Pr :=
  K (.bool x34)
def law21_Do (t_0 : Option Addr) (w_1 : Option Addr) (o_2 : List Value) (KP K : Value → Pr) : Pr :=
  pNew o_2 fun b1 => pLd (.int .u8) ((⟨b1, 0, none⟩ : Addr).add 0) fun (x2 : Int) => pAssert ((6 : Int) ≠ 0) <| pIf ((((x2 : Int).tmod 6) : Int) == 0)
  (pLd (.int .i64) ((⟨b1, 0, none⟩ : Addr).add 1) fun (x3 : Int) => pLd (.int .i64) ((⟨b1, 0, none⟩ : Addr).add 2) fun (x4 : Int) => pLd (.int .i64) ((⟨b1, 0, none⟩ : Addr).add 3) fun (x5 : Int) => pLd (.int .i64) ((⟨b1, 0, none⟩ : Addr).add 4) fun (x6 : Int) => pCall Tryd.prog 11 [(.pointer t_0), (.int .i64 x3), (.int .i64 x4), (.int .i64 x5), (.int .i64 x6)] KP (.many [(.int .i64), (.int .i64)]) fun (r7 : Int × Int × Unit) => pLd (.int .i64) ((⟨b1, 0, none⟩ : Addr).add 1) fun (x8 : Int) => pLd (.int .i64) ((⟨b1, 0, none⟩ : Addr).add 2) fun (x9 : Int) => pLd (.int .i64) ((⟨b1, 0, none⟩ : Addr).add 3) fun (x10 : Int) => pLd (.int .i64) ((⟨b1, 0, none⟩ : Addr).add 4) fun (x11 : Int) => pCall Tryd.prog 51 [(.pointer w_1), (.int .i64 x8), (.int .i64 x9), (.int .i64 x10), (.int .i64 x11)] KP (.many [(.int .i64), (.int .i64)]) fun (r12 : Int × Int × Unit) => pJoin (σ := Bool × Unit)
  (fun k13 => pIf ((r7.1 : Int) == r12.1)
  (k13 (((r7.2.1 : Int) == r12.2.1), ()))
  (k13 (false, ())))
  (fun s => law21_Do_j1 K s.1))
  (pIf ((((x2 : Int).tmod 6) : Int) == 1)
  (pLd (.int .i64) ((⟨b1, 0, none⟩ : Addr).add 1) fun (x15 : Int) => pLd (.int .i64) ((⟨b1, 0, none⟩ : Addr).add 1) fun (x16 : Int) => pCall Tryd.prog 52 [(.pointer t_0), (.int .i64 x15)] KP (.one (.int .i64)) fun (r17 : Int) => pKeep (loadF Tryd.prog 3 (.pointer (some ((⟨b1, 0, none⟩ : Addr).add 1))) (.int .i64 x16)) <| pCall Tryd.prog 53 [(.pointer w_1), (.int .i64 x16)] KP (.one (.int .i64)) fun (r18 : Int) => K (.bool ((r17 : Int) == r18)))
  (pIf ((((x2 : Int).tmod 6) : Int) == 2)
  (pLd (.int .i64) ((⟨b1, 0, none⟩ : Addr).add 1) fun (x19 : Int) => pLd .str ((⟨b1, 0, none⟩ : Addr).add 5) fun (x20 : ByteArray) => pLd (.int .i64) ((⟨b1, 0, none⟩ : Addr).add 2) fun (x21 : Int) => pLd (.int .i64) ((⟨b1, 0, none⟩ : Addr).add 1) fun (x22 : Int) => pLd .str ((⟨b1, 0, none⟩ : Addr).add 5) fun (x23 : ByteArray) => pLd (.int .i64) ((⟨b1, 0, none⟩ : Addr).add 2) fun (x24 : Int) => pCall Tryd.prog 12 [(.pointer t_0), (.int .i64 x19), (.string x20), (.int .i64 x21)] KP (.one (.int .i64)) fun (r25 : Int) => pKeep (loadF Tryd.prog 3 (.pointer (some ((⟨b1, 0, none⟩ : Addr).add 2))) (.int .i64 x24)) <| pKeep (loadF Tryd.prog 9 (.pointer (some ((⟨b1, 0, none⟩ : Addr).add 5))) (.string x23)) <| pKeep (loadF Tryd.prog 3 (.pointer (some ((⟨b1, 0, none⟩ : Addr).add 1))) (.int .i64 x22)) <| pCall Tryd.prog 54 [(.pointer w_1), (.int .i64 x22), (.string x23), (.int .i64 x24)] KP (.one (.int .i64)) fun (r26 : Int) => K (.bool ((r25 : Int) == r26)))
  (pIf ((((x2 : Int).tmod 6) : Int) == 3)
  (pLd (.int .i64) ((⟨b1, 0, none⟩ : Addr).add 1) fun (x27 : Int) => pLd .str ((⟨b1, 0, none⟩ : Addr).add 5) fun (x28 : ByteArray) => pCall Tryd.prog 55 [(.pointer t_0), (.int .i64 x27), (.string x28)] KP (.many [(.int .i64), (.int .i64)]) fun (r29 : Int × Int × Unit) => pLd (.int .i64) ((⟨b1, 0, none⟩ : Addr).add 1) fun (x30 : Int) => pLd .str ((⟨b1, 0, none⟩ : Addr).add 5) fun (x31 : ByteArray) => pCall Tryd.prog 56 [(.pointer w_1), (.int .i64 x30), (.string x31)] KP (.many [(.int .i64), (.int .i64)]) fun (r32 : Int × Int × Unit) => pJoin (σ := Bool × Unit)
  (fun k33 => pIf ((r29.1 : Int) == r32.1)
  (k33 (((r29.2.1 : Int) == r32.2.1), ()))
  (k33 (false, ())))
  (fun s => law21_Do_j2 K s.1))
  (pIf ((((x2 : Int).tmod 6) : Int) == 4)
  (pLd (.int .i64) ((⟨b1, 0, none⟩ : Addr).add 1) fun (x35 : Int) => pLd .str ((⟨b1, 0, none⟩ : Addr).add 5) fun (x36 : ByteArray) => pLd (.int .i64) ((⟨b1, 0, none⟩ : Addr).add 1) fun (x37 : Int) => pLd .str ((⟨b1, 0, none⟩ : Addr).add 5) fun (x38 : ByteArray) => pCall Tryd.prog 13 [(.pointer t_0), (.int .i64 x35), (.string x36)] KP (.one (.int .i64)) fun (r39 : Int) => pKeep (loadF Tryd.prog 9 (.pointer (some ((⟨b1, 0, none⟩ : Addr).add 5))) (.string x38)) <| pKeep (loadF Tryd.prog 3 (.pointer (some ((⟨b1, 0, none⟩ : Addr).add 1))) (.int .i64 x37)) <| pCall Tryd.prog 57 [(.pointer w_1), (.int .i64 x37), (.string x38)] KP (.one (.int .i64)) fun (r40 : Int) => K (.bool ((r39 : Int) == r40)))
  (pLd (.int .i64) ((⟨b1, 0, none⟩ : Addr).add 1) fun (x41 : Int) => pLd (.int .i64) ((⟨b1, 0, none⟩ : Addr).add 2) fun (x42 : Int) => pLd (.int .i64) ((⟨b1, 0, none⟩ : Addr).add 3) fun (x43 : Int) => pLd (.int .i64) ((⟨b1, 0, none⟩ : Addr).add 4) fun (x44 : Int) => pCall Tryd.prog 58 [(.pointer t_0), (.int .i64 x41), (.int .i64 x42), (.int .i64 x43), (.int .i64 x44)] KP (.one (.int .i64)) fun (r45 : Int) => pLd (.int .i64) ((⟨b1, 0, none⟩ : Addr).add 1) fun (x46 : Int) => pCall Tryd.prog 33 [(.pointer w_1), (.int .i64 x46)] KP (.one .bool) fun (r47 : Bool) => pIf (!r47)
  (K (.bool ((r45 : Int) == 2)))
  (pSome w_1 fun a48 => pLd (.int .i64) ((⟨b1, 0, none⟩ : Addr).add 1) fun (x49 : Int) => pLd (.int .i64) ((⟨b1, 0, none⟩ : Addr).add 2) fun (x50 : Int) => pIdx x49 25 <| pSt (((a48.add 0).add ((x49 : Int).toNat * 11)).add 3) (.int .i64 x50) <| pSome w_1 fun a51 => pLd (.int .i64) ((⟨b1, 0, none⟩ : Addr).add 1) fun (x52 : Int) => pLd (.int .i64) ((⟨b1, 0, none⟩ : Addr).add 3) fun (x53 : Int) => pIdx x52 25 <| pSt (((a51.add 0).add ((x52 : Int).toNat * 11)).add 4) (.int .i64 x53) <| pSome w_1 fun a54 => pLd (.int .i64) ((⟨b1, 0, none⟩ : Addr).add 1) fun (x55 : Int) => pLd (.int .i64) ((⟨b1, 0, none⟩ : Addr).add 4) fun (x56 : Int) => pIdx x55 25 <| pSt (((a54.add 0).add ((x55 : Int).toNat * 11)).add 5) (.int .i64 x56) <| K (.bool ((r45 : Int) == 0))))))))
def law21_Do_ann : Ann := .two (.none) (.two (.two (.none) (.sub (.two (.none) (.two (.two (.none) (.two (.none) (.join (.none) (.none) [(6, .bool)]))) (.two (.none) (.two (.two (.ord [0, 1, 4, 5, 2, 6, 3, 7, 8, 9]) (.none)) (.two (.none) (.two (.two (.ord [0, 1, 3, 5, 8, 9, 11, 13, 2, 4, 6, 10, 12, 14, 7, 15, 16, 17]) (.none)) (.two (.none) (.two (.two (.none) (.two (.none) (.join (.none) (.none) [(6, .bool)]))) (.two (.none) (.two (.two (.ord [0, 1, 3, 6, 7, 9, 2, 4, 8, 10, 5, 11, 12, 13]) (.none)) (.none))))))))))))) (.two (.none) (.two (.two (.none) (.two (.two (.none) (.none)) (.none))) (.two (.ord [0, 1, 3, 5, 6, 2, 4, 7, 8, 9]) (.two (.ord [0, 1, 3, 5, 6, 2, 4, 7, 8, 9]) (.two (.ord [0, 1, 3, 5, 6, 2, 4, 7, 8, 9]) (.two (.none) (.none))))))))
theorem law21_Do_eq (t_0 : Option Addr) (w_1 : Option Addr) (o_2 : List Value) (KP K : Value → Pr) : vcBody Tryd.prog Tryd.f32 (Tryd.f32.body.getD .skip) law21_Do_ann [(.pointer t_0), (.pointer w_1), (.agg o_2.toArray)] KP K = law21_Do t_0 w_1 o_2 KP K := by kernel_rfl
theorem law21_Do_call (t_0 : Option Addr) (w_1 : Option Addr) (o_2 : List Value) {KP K : Value → Pr} {h : Heap} (s : law21_Do t_0 w_1 o_2 (fgt KP) (fgt K) h) : WpCall Tryd.prog 32 [(.pointer t_0), (.pointer w_1), (.agg o_2.toArray)].toArray KP K h :=
  WpCall.of_vc Tryd.mixed Tryd.func32 (by kernel_rfl) Tryd.call32 law21_Do_ann (by rw [law21_Do_eq]; exact s)

/- (*halberd/halberdref21.Table).Has -/
def ref21_Table_Has_j1 (K : Value → Pr) (x4 : Bool) : Pr :=
  K (.bool x4)
def ref21_Table_Has (t_0 : Option Addr) (ino_1 : Int) (KP K : Value → Pr) : Pr :=
  pJoin (σ := Bool × Unit)
  (fun k1 => pIf (decide ((ino_1 : Int) ≥ 1))
  (pIf (decide ((ino_1 : Int) ≤ 24))
  (pSome t_0 fun a2 => pIdx ino_1 25 <| pLd (.int .i64) (((a2.add 0).add ((ino_1 : Int).toNat * 11)).add 2) fun (x3 : Int) => k1 (((x3 : Int) != 0), ()))
  (k1 (false, ())))
  (k1 (false, ())))
  (fun s => ref21_Table_Has_j1 K s.1)
def ref21_Table_Has_ann : Ann := .two (.none) (.join (.none) (.none) [(4, .bool)])
theorem ref21_Table_Has_eq (t_0 : Option Addr) (ino_1 : Int) (KP K : Value → Pr) : vcBody Tryd.prog Tryd.f33 (Tryd.f33.body.getD .skip) ref21_Table_Has_ann [(.pointer t_0), (.int .i64 ino_1)] KP K = ref21_Table_Has t_0 ino_1 KP K := by kernel_rfl
theorem ref21_Table_Has_call (t_0 : Option Addr) (ino_1 : Int) {KP K : Value → Pr} {h : Heap} (s : ref21_Table_Has t_0 ino_1 (fgt KP) (fgt K) h) : WpCall Tryd.prog 33 [(.pointer t_0), (.int .i64 ino_1)].toArray KP K h :=
  WpCall.of_vc Tryd.mixed Tryd.func33 (by kernel_rfl) Tryd.call33 ref21_Table_Has_ann (by rw [ref21_Table_Has_eq]; exact s)

/- container/heap.up -/
def container_heap_up_j1 (h_0 : Value) (KP : Value → Pr) (K : Value → Pr) (k1 : Int × Unit → Pr) (x2 : Int) (x5 : Bool) : Pr :=
  pIf x5
  (K (.tuple [].toArray))
  (pInvoke Tryd.prog KP "Swap" h_0 [(.int .i64 (IntKind.i64.wrap (((IntKind.i64.wrap (x2 - 1)) : Int).tdiv 2))), (.int .i64 x2)] (.many []) fun (r6 : Unit) => k1 ((IntKind.i64.wrap (((IntKind.i64.wrap (x2 - 1)) : Int).tdiv 2)), ()))
def container_heap_up_l2 (h_0 : Value) (KP : Value → Pr) (K : Value → Pr) (k1 : Int × Unit → Pr) (x2 : Int) : Pr :=
  pAssert ((2 : Int) ≠ 0) <| pJoin (σ := Bool × Unit)
  (fun k3 => pIf (((IntKind.i64.wrap (((IntKind.i64.wrap (x2 - 1)) : Int).tdiv 2)) : Int) == x2)
  (k3 (true, ()))
  (pInvoke Tryd.prog KP "Less" h_0 [(.int .i64 x2), (.int .i64 (IntKind.i64.wrap (((IntKind.i64.wrap (x2 - 1)) : Int).tdiv 2)))] (.one .bool) fun (r4 : Bool) => k3 ((!r4), ())))
  (fun s => container_heap_up_j1 h_0 KP K k1 x2 s.1)
def container_heap_up (h_0 : Value) (j_1 : Int) (KP K : Value → Pr) : Pr :=
  pLoop (σ := Int × Unit) (fun s k1 => container_heap_up_l2 h_0 KP K k1 s.1) (j_1, ())
def container_heap_up_ann : Ann := .sub (.loop [(1, (.int .i64))] (.sub (.two (.none) (.two (.join (.none) (.two (.none) (.none)) [(17, .bool)]) (.two (.none) (.none))))))
theorem container_heap_up_eq (h_0 : Value) (j_1 : Int) (KP K : Value → Pr) : vcBody Tryd.prog Tryd.f34 (Tryd.f34.body.getD .skip) container_heap_up_ann [h_0, (.int .i64 j_1)] KP K = container_heap_up h_0 j_1 KP K := by kernel_rfl
theorem container_heap_up_call (h_0 : Value) (j_1 : Int) {KP K : Value → Pr} {h : Heap} (s : container_heap_up h_0 j_1 (fgt KP) (fgt K) h) : WpCall Tryd.prog 34 [h_0, (.int .i64 j_1)].toArray KP K h :=
  WpCall.of_vc Tryd.mixed Tryd.func34 (by kernel_rfl) Tryd.call34 container_heap_up_ann (by rw [container_heap_up_eq]; exact s)

end Go.Proofs.YtkbcneomjkfheaaDoor

set_option linter.unusedVariables false
namespace Go.Proofs.YtkbcneomjkfheaaDoor
open Go.Hl
/- container/heap.down -/
def container_heap_down_j1 (x3 : Int) (k6 : Int × Unit → Pr) (x9 : Bool) : Pr :=
  pIf x9
  (k6 ((IntKind.i64.wrap ((IntKind.i64.wrap ((IntKind.i64.wrap (2 * x3)) + 1)) + 1)), ()))
  (k6 ((IntKind.i64.wrap ((IntKind.i64.wrap (2 * x3)) + 1)), ()))
def container_heap_down_j2 (h_0 : Value) (KP : Value → Pr) (k1 : Int × Unit → Pr) (k2 : Int × Unit → Pr) (x3 : Int) (x10 : Int) : Pr :=
  pInvoke Tryd.prog KP "Less" h_0 [(.int .i64 x10), (.int .i64 x3)] (.one .bool) fun (r11 : Bool) => pIf (!r11)
  (k1 (x3, ()))
  (pInvoke Tryd.prog KP "Swap" h_0 [(.int .i64 x3), (.int .i64 x10)] (.many []) fun (r12 : Unit) => k2 (x10, ()))
def container_heap_down_j3 (h_0 : Value) (n_2 : Int) (KP : Value → Pr) (k1 : Int × Unit → Pr) (k2 : Int × Unit → Pr) (x3 : Int) (x5 : Bool) : Pr :=
  pIf x5
  (k1 (x3, ()))
  (pJoin (σ := Int × Unit)
  (fun k6 => pJoin (σ := Bool × Unit)
  (fun k7 => pIf (decide (((IntKind.i64.wrap ((IntKind.i64.wrap ((IntKind.i64.wrap (2 * x3)) + 1)) + 1)) : Int) < n_2))
  (pInvoke Tryd.prog KP "Less" h_0 [(.int .i64 (IntKind.i64.wrap ((IntKind.i64.wrap ((IntKind.i64.wrap (2 * x3)) + 1)) + 1))), (.int .i64 (IntKind.i64.wrap ((IntKind.i64.wrap (2 * x3)) + 1)))] (.one .bool) fun (r8 : Bool) => k7 (r8, ()))
  (k7 (false, ())))
  (fun s => container_heap_down_j1 x3 k6 s.1))
  (fun s => container_heap_down_j2 h_0 KP k1 k2 x3 s.1))
def container_heap_down_l4 (h_0 : Value) (n_2 : Int) (KP : Value → Pr) (k1 : Int × Unit → Pr) (k2 : Int × Unit → Pr) (x3 : Int) : Pr :=
  pJoin (σ := Bool × Unit)
  (fun k4 => pIf (decide (((IntKind.i64.wrap ((IntKind.i64.wrap (2 * x3)) + 1)) : Int) ≥ n_2))
  (k4 (true, ()))
  (k4 ((decide (((IntKind.i64.wrap ((IntKind.i64.wrap (2 * x3)) + 1)) : Int) < 0)), ())))
  (fun s => container_heap_down_j3 h_0 n_2 KP k1 k2 x3 s.1)
def container_heap_down_j5 (i0_1 : Int) (K : Value → Pr) (x13 : Int) : Pr :=
  K (.bool (decide ((x13 : Int) > i0_1)))
def container_heap_down (h_0 : Value) (i0_1 : Int) (n_2 : Int) (KP K : Value → Pr) : Pr :=
  pJoin (σ := Int × Unit)
  (fun k1 => pLoop (σ := Int × Unit) (fun s k2 => container_heap_down_l4 h_0 n_2 KP k1 k2 s.1) (i0_1, ()))
  (fun s => container_heap_down_j5 i0_1 K s.1)
def container_heap_down_ann : Ann := .two (.none) (.two (.none) (.join (.sub (.loop [(7, (.int .i64))] (.sub (.two (.none) (.two (.join (.none) (.two (.none) (.none)) [(21, .bool)]) (.two (.none) (.join (.two (.none) (.join (.none) (.two (.none) (.none)) [(33, .bool)])) (.two (.two (.none) (.two (.none) (.none))) (.two (.none) (.none))) [(9, (.int .i64))]))))))) (.two (.none) (.none)) [(7, (.int .i64))]))
theorem container_heap_down_eq (h_0 : Value) (i0_1 : Int) (n_2 : Int) (KP K : Value → Pr) : vcBody Tryd.prog Tryd.f35 (Tryd.f35.body.getD .skip) container_heap_down_ann [h_0, (.int .i64 i0_1), (.int .i64 n_2)] KP K = container_heap_down h_0 i0_1 n_2 KP K := by kernel_rfl
theorem container_heap_down_call (h_0 : Value) (i0_1 : Int) (n_2 : Int) {KP K : Value → Pr} {h : Heap} (s : container_heap_down h_0 i0_1 n_2 (fgt KP) (fgt K) h) : WpCall Tryd.prog 35 [h_0, (.int .i64 i0_1), (.int .i64 n_2)].toArray KP K h :=
  WpCall.of_vc Tryd.mixed Tryd.func35 (by kernel_rfl) Tryd.call35 container_heap_down_ann (by rw [container_heap_down_eq]; exact s)

/- strings.ContainsAny -/
def strings_ContainsAny (s_0 : ByteArray) (chars_1 : ByteArray) (KP K : Value → Pr) : Pr :=
  pCall Tryd.prog 59 [(.string s_0), (.string chars_1)] KP (.one (.int .i64)) fun (r1 : Int) => K (.bool (decide ((r1 : Int) ≥ 0)))
def strings_ContainsAny_ann : Ann := .two (.none) (.two (.none) (.none))
theorem strings_ContainsAny_eq (s_0 : ByteArray) (chars_1 : ByteArray) (KP K : Value → Pr) : vcBody Tryd.prog Tryd.f36 (Tryd.f36.body.getD .skip) strings_ContainsAny_ann [(.string s_0), (.string chars_1)] KP K = strings_ContainsAny s_0 chars_1 KP K := by kernel_rfl
theorem strings_ContainsAny_call (s_0 : ByteArray) (chars_1 : ByteArray) {KP K : Value → Pr} {h : Heap} (s : strings_ContainsAny s_0 chars_1 (fgt KP) (fgt K) h) : WpCall Tryd.prog 36 [(.string s_0), (.string chars_1)].toArray KP K h :=
  WpCall.of_vc Tryd.mixed Tryd.func36 (by kernel_rfl) Tryd.call36 strings_ContainsAny_ann (by rw [strings_ContainsAny_eq]; exact s)

/- cmp.Less[string] -/
def cmp_Less_string_j1 (K : Value → Pr) (x4 : Bool) : Pr :=
  K (.bool x4)
def cmp_Less_string (x_0 : ByteArray) (y_1 : ByteArray) (KP K : Value → Pr) : Pr :=
  pJoin (σ := Bool × Unit)
  (fun k1 => pCall Tryd.prog 60 [(.string x_0)] KP (.one .bool) fun (r2 : Bool) => pIf r2
  (pCall Tryd.prog 60 [(.string y_1)] KP (.one .bool) fun (r3 : Bool) => pIf (!r3)
  (k1 (true, ()))
  (k1 ((Op.bytesLess x_0.toList y_1.toList), ())))
  (k1 ((Op.bytesLess x_0.toList y_1.toList), ())))
  (fun s => cmp_Less_string_j1 K s.1)
def cmp_Less_string_ann : Ann := .two (.none) (.join (.none) (.none) [(4, .bool)])
theorem cmp_Less_string_eq (x_0 : ByteArray) (y_1 : ByteArray) (KP K : Value → Pr) : vcBody Tryd.prog Tryd.f37 (Tryd.f37.body.getD .skip) cmp_Less_string_ann [(.string x_0), (.string y_1)] KP K = cmp_Less_string x_0 y_1 KP K := by kernel_rfl
theorem cmp_Less_string_call (x_0 : ByteArray) (y_1 : ByteArray) {KP K : Value → Pr} {h : Heap} (s : cmp_Less_string x_0 y_1 (fgt KP) (fgt K) h) : WpCall Tryd.prog 37 [(.string x_0), (.string y_1)].toArray KP K h :=
  WpCall.of_vc Tryd.mixed Tryd.func37 (by kernel_rfl) Tryd.call37 cmp_Less_string_ann (by rw [cmp_Less_string_eq]; exact s)

/- slices.isNaN[string] -/
def slices_isNaN_string (x_0 : ByteArray) (KP K : Value → Pr) : Pr :=
  K (.bool (!strEq x_0 x_0))
def slices_isNaN_string_ann : Ann := .two (.none) (.two (.none) (.none))
theorem slices_isNaN_string_eq (x_0 : ByteArray) (KP K : Value → Pr) : vcBody Tryd.prog Tryd.f38 (Tryd.f38.body.getD .skip) slices_isNaN_string_ann [(.string x_0)] KP K = slices_isNaN_string x_0 KP K := by kernel_rfl
theorem slices_isNaN_string_call (x_0 : ByteArray) {KP K : Value → Pr} {h : Heap} (s : slices_isNaN_string x_0 (fgt KP) (fgt K) h) : WpCall Tryd.prog 38 [(.string x_0)].toArray KP K h :=
  WpCall.of_vc Tryd.mixed Tryd.func38 (by kernel_rfl) Tryd.call38 slices_isNaN_string_ann (by rw [slices_isNaN_string_eq]; exact s)

/- slices.rotateRight[string] -/
def slices_rotateRight_string (s_0 : Sl) (r_1 : Int) (KP K : Value → Pr) : Pr :=
  pCall Tryd.prog 61 [(.slice s_0.base s_0.len s_0.cap), (.int .i64 (IntKind.i64.wrap ((s_0.len : Int) - r_1)))] KP (.many []) fun (r1 : Unit) => K (.tuple [].toArray)
def slices_rotateRight_string_ann : Ann := .none
theorem slices_rotateRight_string_eq (s_0 : Sl) (r_1 : Int) (KP K : Value → Pr) : vcBody Tryd.prog Tryd.f40 (Tryd.f40.body.getD .skip) slices_rotateRight_string_ann [(.slice s_0.base s_0.len s_0.cap), (.int .i64 r_1)] KP K = slices_rotateRight_string s_0 r_1 KP K := by kernel_rfl
theorem slices_rotateRight_string_call (s_0 : Sl) (r_1 : Int) {KP K : Value → Pr} {h : Heap} (s : slices_rotateRight_string s_0 r_1 (fgt KP) (fgt K) h) : WpCall Tryd.prog 40 [(.slice s_0.base s_0.len s_0.cap), (.int .i64 r_1)].toArray KP K h :=
  WpCall.of_vc Tryd.mixed Tryd.func40 (by kernel_rfl) Tryd.call40 slices_rotateRight_string_ann (by rw [slices_rotateRight_string_eq]; exact s)

/- slices.rotateRight[int] -/
def slices_rotateRight_int (s_0 : Sl) (r_1 : Int) (KP K : Value → Pr) : Pr :=
  pCall Tryd.prog 62 [(.slice s_0.base s_0.len s_0.cap), (.int .i64 (IntKind.i64.wrap ((s_0.len : Int) - r_1)))] KP (.many []) fun (r1 : Unit) => K (.tuple [].toArray)
def slices_rotateRight_int_ann : Ann := .none
theorem slices_rotateRight_int_eq (s_0 : Sl) (r_1 : Int) (KP K : Value → Pr) : vcBody Tryd.prog Tryd.f42 (Tryd.f42.body.getD .skip) slices_rotateRight_int_ann [(.slice s_0.base s_0.len s_0.cap), (.int .i64 r_1)] KP K = slices_rotateRight_int s_0 r_1 KP K := by kernel_rfl
theorem slices_rotateRight_int_call (s_0 : Sl) (r_1 : Int) {KP K : Value → Pr} {h : Heap} (s : slices_rotateRight_int s_0 r_1 (fgt KP) (fgt K) h) : WpCall Tryd.prog 42 [(.slice s_0.base s_0.len s_0.cap), (.int .i64 r_1)].toArray KP K h :=
  WpCall.of_vc Tryd.mixed Tryd.func42 (by kernel_rfl) Tryd.call42 slices_rotateRight_int_ann (by rw [slices_rotateRight_int_eq]; exact s)

/- strings.Index -/
def strings_Index (s_0 : ByteArray) (substr_1 : ByteArray) (KP K : Value → Pr) : Pr :=
  pCall Tryd.prog 63 [(.string s_0), (.string substr_1)] KP (.one (.int .i64)) fun (r1 : Int) => K (.int .i64 r1)
def strings_Index_ann : Ann := .two (.none) (.two (.none) (.none))
theorem strings_Index_eq (s_0 : ByteArray) (substr_1 : ByteArray) (KP K : Value → Pr) : vcBody Tryd.prog Tryd.f43 (Tryd.f43.body.getD .skip) strings_Index_ann [(.string s_0), (.string substr_1)] KP K = strings_Index s_0 substr_1 KP K := by kernel_rfl
theorem strings_Index_call (s_0 : ByteArray) (substr_1 : ByteArray) {KP K : Value → Pr} {h : Heap} (s : strings_Index s_0 substr_1 (fgt KP) (fgt K) h) : WpCall Tryd.prog 43 [(.string s_0), (.string substr_1)].toArray KP K h :=
  WpCall.of_vc Tryd.mixed Tryd.func43 (by kernel_rfl) Tryd.call43 strings_Index_ann (by rw [strings_Index_eq]; exact s)

/- strings.HasPrefix -/
def strings_HasPrefix (s_0 : ByteArray) (prefix_1 : ByteArray) (KP K : Value → Pr) : Pr :=
  pCall Tryd.prog 64 [(.string s_0), (.string prefix_1)] KP (.one .bool) fun (r1 : Bool) => K (.bool r1)
def strings_HasPrefix_ann : Ann := .two (.none) (.two (.none) (.none))
theorem strings_HasPrefix_eq (s_0 : ByteArray) (prefix_1 : ByteArray) (KP K : Value → Pr) : vcBody Tryd.prog Tryd.f44 (Tryd.f44.body.getD .skip) strings_HasPrefix_ann [(.string s_0), (.string prefix_1)] KP K = strings_HasPrefix s_0 prefix_1 KP K := by kernel_rfl
theorem strings_HasPrefix_call (s_0 : ByteArray) (prefix_1 : ByteArray) {KP K : Value → Pr} {h : Heap} (s : strings_HasPrefix s_0 prefix_1 (fgt KP) (fgt K) h) : WpCall Tryd.prog 44 [(.string s_0), (.string prefix_1)].toArray KP K h :=
  WpCall.of_vc Tryd.mixed Tryd.func44 (by kernel_rfl) Tryd.call44 strings_HasPrefix_ann (by rw [strings_HasPrefix_eq]; exact s)

end Go.Proofs.YtkbcneomjkfheaaDoor

set_option linter.unusedVariables false
namespace Go.Proofs.YtkbcneomjkfheaaDoor
open Go.Hl
/- strings.HasSuffix -/
def strings_HasSuffix (s_0 : ByteArray) (suffix_1 : ByteArray) (KP K : Value → Pr) : Pr :=
  pCall Tryd.prog 65 [(.string s_0), (.string suffix_1)] KP (.one .bool) fun (r1 : Bool) => K (.bool r1)
def strings_HasSuffix_ann : Ann := .two (.none) (.two (.none) (.none))
theorem strings_HasSuffix_eq (s_0 : ByteArray) (suffix_1 : ByteArray) (KP K : Value → Pr) : vcBody Tryd.prog Tryd.f45 (Tryd.f45.body.getD .skip) strings_HasSuffix_ann [(.string s_0), (.string suffix_1)] KP K = strings_HasSuffix s_0 suffix_1 KP K := by kernel_rfl
theorem strings_HasSuffix_call (s_0 : ByteArray) (suffix_1 : ByteArray) {KP K : Value → Pr} {h : Heap} (s : strings_HasSuffix s_0 suffix_1 (fgt KP) (fgt K) h) : WpCall Tryd.prog 45 [(.string s_0), (.string suffix_1)].toArray KP K h :=
  WpCall.of_vc Tryd.mixed Tryd.func45 (by kernel_rfl) Tryd.call45 strings_HasSuffix_ann (by rw [strings_HasSuffix_eq]; exact s)

/- halberd/paths.names -/
def paths_names (path_0 : ByteArray) (KP K : Value → Pr) : Pr :=
  pCall Tryd.prog 67 [(.string path_0), (.string (⟨#[47]⟩ : ByteArray))] KP (.one .slice) fun (r1 : Sl) => pCall Tryd.prog 66 [(.slice r1.base r1.len r1.cap), (.func (.func 68) [].toArray [].toArray)] KP (.one .slice) fun (r2 : Sl) => K (.slice r2.base r2.len r2.cap)
def paths_names_ann : Ann := .two (.none) (.two (.none) (.none))
theorem paths_names_eq (path_0 : ByteArray) (KP K : Value → Pr) : vcBody Tryd.prog Tryd.f46 (Tryd.f46.body.getD .skip) paths_names_ann [(.string path_0)] KP K = paths_names path_0 KP K := by kernel_rfl
theorem paths_names_call (path_0 : ByteArray) {KP K : Value → Pr} {h : Heap} (s : paths_names path_0 (fgt KP) (fgt K) h) : WpCall Tryd.prog 46 [(.string path_0)].toArray KP K h :=
  WpCall.of_vc Tryd.mixed Tryd.func46 (by kernel_rfl) Tryd.call46 paths_names_ann (by rw [paths_names_eq]; exact s)

/- halberd/inodes.own -/
def inodes_own (x_0 : List Value) (KP K : Value → Pr) : Pr :=
  pNew x_0 fun b1 => pNew (zc Tryd.prog 25) fun b2 => pLd .slice ((⟨b1, 0, none⟩ : Addr).add 8) fun (x3 : Sl) => pLd .slice ((⟨b1, 0, none⟩ : Addr).add 9) fun (x4 : Sl) => pCall Tryd.prog 69 [(.slice x3.base x3.len x3.cap)] KP (.one .slice) fun (r5 : Sl) => pKeep (loadF Tryd.prog 23 (.pointer (some ((⟨b1, 0, none⟩ : Addr).add 9))) (.slice x4.base x4.len x4.cap)) <| pCall Tryd.prog 70 [(.slice x4.base x4.len x4.cap)] KP (.one .slice) fun (r6 : Sl) => pSt ((⟨b1, 0, none⟩ : Addr).add 8) (.slice r5.base r5.len r5.cap) <| pSt ((⟨b1, 0, none⟩ : Addr).add 9) (.slice r6.base r6.len r6.cap) <| pLdA 11 ⟨b1, 0, none⟩ fun x7 => pStA 11 ⟨b2, 0, none⟩ x7 <| pLdA 11 ⟨b2, 0, none⟩ fun x8 => K (.agg x8.toArray)
def inodes_own_ann : Ann := .two (.none) (.two (.ord [0, 3, 1, 4, 2, 6, 5, 7, 8, 9]) (.two (.none) (.none)))
theorem inodes_own_eq (x_0 : List Value) (KP K : Value → Pr) : vcBody Tryd.prog Tryd.f47 (Tryd.f47.body.getD .skip) inodes_own_ann [(.agg x_0.toArray)] KP K = inodes_own x_0 KP K := by kernel_rfl
theorem inodes_own_call (x_0 : List Value) {KP K : Value → Pr} {h : Heap} (s : inodes_own x_0 (fgt KP) (fgt K) h) : WpCall Tryd.prog 47 [(.agg x_0.toArray)].toArray KP K h :=
  WpCall.of_vc Tryd.mixed Tryd.func47 (by kernel_rfl) Tryd.call47 inodes_own_ann (by rw [inodes_own_eq]; exact s)

/- (*halberd/inodes.Table).Find -/
def inodes_Table_Find_j1 (name_2 : ByteArray) (KP : Value → Pr) (K : Value → Pr) (r1 : Option Addr) (x5 : Bool) : Pr :=
  pIf x5
  (K (.tuple [(.int .i64 0), (.bool false)].toArray))
  (pSome r1 fun a6 => pLd .slice (a6.add 8) fun (x7 : Sl) => pCall Tryd.prog 23 [(.slice x7.base x7.len x7.cap), (.string name_2)] KP (.many [(.int .i64), .bool]) fun (r8 : Int × Bool × Unit) => pIf (!r8.2.1)
  (K (.tuple [(.int .i64 0), (.bool false)].toArray))
  (pSome r1 fun a9 => pLd .slice (a9.add 9) fun (x10 : Sl) => pIdx r8.1 x10.len <| pSome x10.base fun a11 => pLd (.int .i64) (a11.add ((r8.1 : Int).toNat * 1)) fun (x12 : Int) => K (.tuple [(.int .i64 x12), (.bool true)].toArray)))
def inodes_Table_Find (t_0 : Option Addr) (dir_1 : Int) (name_2 : ByteArray) (KP K : Value → Pr) : Pr :=
  pCall Tryd.prog 21 [(.pointer t_0), (.int .i64 dir_1)] KP (.one .ptr) fun (r1 : Option Addr) => pJoin (σ := Bool × Unit)
  (fun k2 => pIf (r1.isNone)
  (k2 (true, ()))
  (pSome r1 fun a3 => pLd (.int .i64) (a3.add 2) fun (x4 : Int) => k2 (((x4 : Int) != 2), ())))
  (fun s => inodes_Table_Find_j1 name_2 KP K r1 s.1)
def inodes_Table_Find_ann : Ann := .two (.none) (.two (.none) (.two (.join (.none) (.two (.two (.none) (.none)) (.none)) [(22, .bool)]) (.two (.none) (.two (.two (.none) (.two (.two (.none) (.none)) (.none))) (.two (.none) (.none))))))
theorem inodes_Table_Find_eq (t_0 : Option Addr) (dir_1 : Int) (name_2 : ByteArray) (KP K : Value → Pr) : vcBody Tryd.prog Tryd.f48 (Tryd.f48.body.getD .skip) inodes_Table_Find_ann [(.pointer t_0), (.int .i64 dir_1), (.string name_2)] KP K = inodes_Table_Find t_0 dir_1 name_2 KP K := by kernel_rfl
theorem inodes_Table_Find_call (t_0 : Option Addr) (dir_1 : Int) (name_2 : ByteArray) {KP K : Value → Pr} {h : Heap} (s : inodes_Table_Find t_0 dir_1 name_2 (fgt KP) (fgt K) h) : WpCall Tryd.prog 48 [(.pointer t_0), (.int .i64 dir_1), (.string name_2)].toArray KP K h :=
  WpCall.of_vc Tryd.mixed Tryd.func48 (by kernel_rfl) Tryd.call48 inodes_Table_Find_ann (by rw [inodes_Table_Find_eq]; exact s)

/- (*halberd/paths.walk).through -/
def paths_walk_through (w_0 : Option Addr) (x_1 : List Value) (KP K : Value → Pr) : Pr :=
  pNew x_1 fun b1 => pSome w_0 fun a2 => pLd (.int .i64) (a2.add 7) fun (x3 : Int) => pIf ((x3 : Int) == 8)
  (K (.int .i64 40))
  (pLd .str ((⟨b1, 0, none⟩ : Addr).add 7) fun (x4 : ByteArray) => pIf (strEq x4 (⟨#[]⟩ : ByteArray))
  (K (.int .i64 2))
  (pSome w_0 fun a5 => pLd (.int .i64) (a5.add 7) fun (x6 : Int) => pSome w_0 fun a7 => pSt (a7.add 7) (.int .i64 (IntKind.i64.wrap (x6 + 1))) <| pLd .str ((⟨b1, 0, none⟩ : Addr).add 7) fun (x8 : ByteArray) => pCall Tryd.prog 27 [(.pointer w_0), (.string x8)] KP (.many []) fun (r9 : Unit) => K (.int .i64 0)))
def paths_walk_through_ann : Ann := .two (.none) (.two (.sub (.two (.none) (.two (.two (.none) (.none)) (.two (.none) (.two (.two (.none) (.none)) (.none)))))) (.two (.none) (.two (.none) (.two (.none) (.none)))))
theorem paths_walk_through_eq (w_0 : Option Addr) (x_1 : List Value) (KP K : Value → Pr) : vcBody Tryd.prog Tryd.f49 (Tryd.f49.body.getD .skip) paths_walk_through_ann [(.pointer w_0), (.agg x_1.toArray)] KP K = paths_walk_through w_0 x_1 KP K := by kernel_rfl
theorem paths_walk_through_call (w_0 : Option Addr) (x_1 : List Value) {KP K : Value → Pr} {h : Heap} (s : paths_walk_through w_0 x_1 (fgt KP) (fgt K) h) : WpCall Tryd.prog 49 [(.pointer w_0), (.agg x_1.toArray)].toArray KP K h :=
  WpCall.of_vc Tryd.mixed Tryd.func49 (by kernel_rfl) Tryd.call49 paths_walk_through_ann (by rw [paths_walk_through_eq]; exact s)

/- (*halberd/paths.walk).last -/
def paths_walk_last_j1 (w_0 : Option Addr) (name_1 : ByteArray) (K : Value → Pr) (b1 : Nat) (b2 : Nat) (x13 : Bool) : Pr :=
  pIf x13
  (pStA 3 ⟨b2, 0, none⟩ (lay (zc Tryd.prog 36) []) <| pLdA 3 ⟨b2, 0, none⟩ fun x14 => K (.tuple [(.agg x14.toArray), (.int .i64 20)].toArray))
  (pSome w_0 fun a15 => pLd (.int .i64) (a15.add 4) fun (x16 : Int) => pLd (.int .i64) ((⟨b1, 0, none⟩ : Addr).add 0) fun (x17 : Int) => pStA 3 ⟨b2, 0, none⟩ (lay (zc Tryd.prog 36) [(0, (.int .i64 x16)), (1, (.string name_1)), (2, (.int .i64 x17))]) <| pLdA 3 ⟨b2, 0, none⟩ fun x18 => K (.tuple [(.agg x18.toArray), (.int .i64 0)].toArray))
def paths_walk_last_j2 (w_0 : Option Addr) (name_1 : ByteArray) (K : Value → Pr) (b1 : Nat) (b2 : Nat) (x7 : Bool) : Pr :=
  pIf x7
  (pStA 3 ⟨b2, 0, none⟩ (lay (zc Tryd.prog 36) []) <| pLdA 3 ⟨b2, 0, none⟩ fun x8 => K (.tuple [(.agg x8.toArray), (.int .i64 2)].toArray))
  (pJoin (σ := Bool × Unit)
  (fun k9 => pSome w_0 fun a10 => pLd .bool (a10.add 6) fun (x11 : Bool) => pIf x11
  (pLd (.int .i64) ((⟨b1, 0, none⟩ : Addr).add 2) fun (x12 : Int) => k9 (((x12 : Int) != 2), ()))
  (k9 (false, ())))
  (fun s => paths_walk_last_j1 w_0 name_1 K b1 b2 s.1))
def paths_walk_last (w_0 : Option Addr) (name_1 : ByteArray) (x_2 : List Value) (KP K : Value → Pr) : Pr :=
  pNew x_2 fun b1 => pNew (zc Tryd.prog 36) fun b2 => pJoin (σ := Bool × Unit)
  (fun k3 => pSome w_0 fun a4 => pLd .bool (a4.add 6) fun (x5 : Bool) => pIf x5
  (pLd (.int .i64) ((⟨b1, 0, none⟩ : Addr).add 0) fun (x6 : Int) => k3 (((x6 : Int) == 0), ()))
  (k3 (false, ())))
  (fun s => paths_walk_last_j2 w_0 name_1 K b1 b2 s.1)
def paths_walk_last_ann : Ann := .two (.none) (.two (.sub (.join (.none) (.two (.two (.none) (.none)) (.join (.none) (.two (.two (.none) (.none)) (.none)) [(19, .bool)])) [(8, .bool)])) (.two (.ord [0, 1, 2, 4, 5, 3, 6, 7, 8, 9]) (.none)))
theorem paths_walk_last_eq (w_0 : Option Addr) (name_1 : ByteArray) (x_2 : List Value) (KP K : Value → Pr) : vcBody Tryd.prog Tryd.f50 (Tryd.f50.body.getD .skip) paths_walk_last_ann [(.pointer w_0), (.string name_1), (.agg x_2.toArray)] KP K = paths_walk_last w_0 name_1 x_2 KP K := by kernel_rfl
theorem paths_walk_last_call (w_0 : Option Addr) (name_1 : ByteArray) (x_2 : List Value) {KP K : Value → Pr} {h : Heap} (s : paths_walk_last w_0 name_1 x_2 (fgt KP) (fgt K) h) : WpCall Tryd.prog 50 [(.pointer w_0), (.string name_1), (.agg x_2.toArray)].toArray KP K h :=
  WpCall.of_vc Tryd.mixed Tryd.func50 (by kernel_rfl) Tryd.call50 paths_walk_last_ann (by rw [paths_walk_last_eq]; exact s)

/- (*halberd/halberdref21.Table).Add -/
def ref21_Table_Add_l1 (t_0 : Option Addr) (kind_1 : Int) (mode_2 : Int) (uid_3 : Int) (gid_4 : Int) (K : Value → Pr) (k3 : Int × Unit → Pr) (x4 : Int) : Pr :=
  pIf (decide ((x4 : Int) ≤ 24))
  (pSome t_0 fun a5 => pIdx x4 25 <| pLd (.int .i64) (((a5.add 0).add ((x4 : Int).toNat * 11)).add 2) fun (x6 : Int) => pIf ((x6 : Int) == 0)
  (pSome t_0 fun a7 => pIdx x4 25 <| pSome t_0 fun a8 => pLd (.int .i64) (((a7.add 0).add ((x4 : Int).toNat * 11)).add 1) fun (x9 : Int) => pIdx x4 25 <| pStA 11 ((a8.add 0).add ((x4 : Int).toNat * 11)) (lay (zc Tryd.prog 25) [(0, (.int .i64 x4)), (1, (.int .i64 (IntKind.i64.wrap (x9 + 1)))), (2, (.int .i64 kind_1)), (3, (.int .i64 mode_2)), (4, (.int .i64 uid_3)), (5, (.int .i64 gid_4))]) <| K (.tuple [(.int .i64 x4), (.int .i64 0)].toArray))
  (k3 ((IntKind.i64.wrap (x4 + 1)), ())))
  (K (.tuple [(.int .i64 0), (.int .i64 28)].toArray))
def ref21_Table_Add_j2 (t_0 : Option Addr) (kind_1 : Int) (mode_2 : Int) (uid_3 : Int) (gid_4 : Int) (K : Value → Pr) (x2 : Bool) : Pr :=
  pIf x2
  (K (.tuple [(.int .i64 0), (.int .i64 22)].toArray))
  (pLoop (σ := Int × Unit) (fun s k3 => ref21_Table_Add_l1 t_0 kind_1 mode_2 uid_3 gid_4 K k3 s.1) (2, ()))
def ref21_Table_Add (t_0 : Option Addr) (kind_1 : Int) (mode_2 : Int) (uid_3 : Int) (gid_4 : Int) (KP K : Value → Pr) : Pr :=
  pJoin (σ := Bool × Unit)
  (fun k1 => pIf (decide ((kind_1 : Int) < 1))
  (k1 (true, ()))
  (k1 ((decide ((kind_1 : Int) > 3)), ())))
  (fun s => ref21_Table_Add_j2 t_0 kind_1 mode_2 uid_3 gid_4 K s.1)
def ref21_Table_Add_ann : Ann := .two (.none) (.two (.join (.none) (.two (.two (.none) (.none)) (.none)) [(18, .bool)]) (.two (.two (.none) (.sub (.loop [(12, (.int .i64))] (.two (.two (.none) (.two (.none) (.none))) (.two (.sub (.two (.none) (.two (.two (.ord [0, 1, 2, 3, 4, 5, 6, 7, 8, 11, 12, 13, 14, 16, 17, 9, 10, 15, 18, 19]) (.two (.none) (.none))) (.none)))) (.none)))))) (.two (.none) (.none))))
theorem ref21_Table_Add_eq (t_0 : Option Addr) (kind_1 : Int) (mode_2 : Int) (uid_3 : Int) (gid_4 : Int) (KP K : Value → Pr) : vcBody Tryd.prog Tryd.f51 (Tryd.f51.body.getD .skip) ref21_Table_Add_ann [(.pointer t_0), (.int .i64 kind_1), (.int .i64 mode_2), (.int .i64 uid_3), (.int .i64 gid_4)] KP K = ref21_Table_Add t_0 kind_1 mode_2 uid_3 gid_4 KP K := by kernel_rfl
theorem ref21_Table_Add_call (t_0 : Option Addr) (kind_1 : Int) (mode_2 : Int) (uid_3 : Int) (gid_4 : Int) {KP K : Value → Pr} {h : Heap} (s : ref21_Table_Add t_0 kind_1 mode_2 uid_3 gid_4 (fgt KP) (fgt K) h) : WpCall Tryd.prog 51 [(.pointer t_0), (.int .i64 kind_1), (.int .i64 mode_2), (.int .i64 uid_3), (.int .i64 gid_4)].toArray KP K h :=
  WpCall.of_vc Tryd.mixed Tryd.func51 (by kernel_rfl) Tryd.call51 ref21_Table_Add_ann (by rw [ref21_Table_Add_eq]; exact s)

/- (*halberd/inodes.Table).Free -/
def inodes_Table_Free (t_0 : Option Addr) (ino_1 : Int) (KP K : Value → Pr) : Pr :=
  pCall Tryd.prog 21 [(.pointer t_0), (.int .i64 ino_1)] KP (.one .ptr) fun (r1 : Option Addr) => pIf (r1.isNone)
  (K (.int .i64 2))
  (pIf ((ino_1 : Int) == 1)
  (K (.int .i64 22))
  (pSome r1 fun a2 => pLd (.int .i64) (a2.add 1) fun (x3 : Int) => pSome r1 fun a4 => pStA 11 a4 (lay (zc Tryd.prog 25) [(1, (.int .i64 x3))]) <| pSome t_0 fun a5 => pCall Tryd.prog 19 [(.iface 54 (.pointer (some (a5.add 275)))), (.iface 3 (.int .i64 ino_1))] KP (.many []) fun (r6 : Unit) => K (.int .i64 0)))
def inodes_Table_Free_ann : Ann := .two (.none) (.two (.none) (.two (.sub (.two (.none) (.two (.two (.none) (.none)) (.two (.none) (.two (.two (.none) (.none)) (.none)))))) (.two (.none) (.two (.none) (.two (.none) (.none))))))
theorem inodes_Table_Free_eq (t_0 : Option Addr) (ino_1 : Int) (KP K : Value → Pr) : vcBody Tryd.prog Tryd.f52 (Tryd.f52.body.getD .skip) inodes_Table_Free_ann [(.pointer t_0), (.int .i64 ino_1)] KP K = inodes_Table_Free t_0 ino_1 KP K := by kernel_rfl
theorem inodes_Table_Free_call (t_0 : Option Addr) (ino_1 : Int) {KP K : Value → Pr} {h : Heap} (s : inodes_Table_Free t_0 ino_1 (fgt KP) (fgt K) h) : WpCall Tryd.prog 52 [(.pointer t_0), (.int .i64 ino_1)].toArray KP K h :=
  WpCall.of_vc Tryd.mixed Tryd.func52 (by kernel_rfl) Tryd.call52 inodes_Table_Free_ann (by rw [inodes_Table_Free_eq]; exact s)

end Go.Proofs.YtkbcneomjkfheaaDoor
