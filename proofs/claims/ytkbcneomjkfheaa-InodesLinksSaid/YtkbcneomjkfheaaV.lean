/- Texts of this proof, part V: parts of it in the order in which they build. -/
import Derived.Test.YtkbcneomjkfheaaH2
import Derived.Test.YtkbcneomjkfheaaChecked
namespace Go.Proofs.Ytkbcneomjkfheaa
open Go.Hl
theorem Try.mixed : Try.prog.follows .mixedOrders = true := Try.checked.mixed
end Go.Proofs.Ytkbcneomjkfheaa

set_option linter.unusedVariables false
namespace Go.Proofs.Ytkbcneomjkfheaa
open Go.Hl
/- halberd/halberdlaw21.InodesNames -/
def law21_InodesNames_j1 (K : Value → Pr) (x5 : Bool) : Pr :=
  K (.bool x5)
def law21_InodesNames (s_0 : ByteArray) (KP K : Value → Pr) : Pr :=
  pCall Try.prog 8 [] KP (.one .bool) fun (r1 : Bool) => pIf (!r1)
  (K (.bool false))
  (pJoin (σ := Bool × Unit)
  (fun k2 => pIf (decide (((s_0.size : Int) : Int) > 200))
  (k2 (true, ()))
  (pCall Try.prog 9 [(.string s_0)] KP (.one .bool) fun (r3 : Bool) => pCall Try.prog 10 [(.string s_0)] KP (.one .bool) fun (r4 : Bool) => k2 ((r3 == r4), ())))
  (fun s => law21_InodesNames_j1 K s.1))
def law21_InodesNames_ann : Ann := .two (.none) (.two (.two (.none) (.two (.two (.none) (.none)) (.none))) (.join (.none) (.none) [(2, .bool)]))
theorem law21_InodesNames_eq (s_0 : ByteArray) (KP K : Value → Pr) : vcBody Try.prog Try.f3 (Try.f3.body.getD .skip) law21_InodesNames_ann [(.string s_0)] KP K = law21_InodesNames s_0 KP K := by kernel_rfl
theorem law21_InodesNames_call (s_0 : ByteArray) {KP K : Value → Pr} {h : Heap} (s : law21_InodesNames s_0 (fgt KP) (fgt K) h) : WpCall Try.prog 3 [(.string s_0)].toArray KP K h :=
  WpCall.of_vc Try.mixed Try.func3 (by kernel_rfl) Try.call3 law21_InodesNames_ann (by rw [law21_InodesNames_eq]; exact s)

/- halberd/halberdlaw21.InodesFull -/
def law21_InodesFull_j1 (K : Value → Pr) (k3 : Int × Unit → Pr) (x4 : Int) (x7 : Bool) : Pr :=
  pIf x7
  (K (.bool false))
  (k3 ((IntKind.i64.wrap (x4 + 1)), ()))
def law21_InodesFull_j2 (K : Value → Pr) (x20 : Bool) : Pr :=
  K (.bool x20)
def law21_InodesFull_j3 (kind_0 : Int) (at_1 : Int) (KP : Value → Pr) (K : Value → Pr) (r2 : Option Addr) (x13 : Bool) : Pr :=
  pIf x13
  (K (.bool false))
  (pCall Try.prog 12 [(.pointer r2), (.int .i64 (IntKind.i64.wrap ((IntKind.i64.wrap ((kind_0 : Int).tmod 3)) + 1))), (.int .i64 0), (.int .i64 0), (.int .i64 0)] KP (.many [(.int .i64), (.int .i64)]) fun (r14 : Int × Int × Unit) => pCall Try.prog 15 [(.pointer r2), (.int .i64 r14.1)] KP (.many [.agg, .bool]) fun (r15 : (List Value) × Bool × Unit) => pNew (zc Try.prog 34) fun b16 => pStA 11 ⟨b16, 0, none⟩ r15.1 <| pJoin (σ := Bool × Unit)
  (fun k17 => pIf ((r14.1 : Int) == (IntKind.i64.wrap ((IntKind.i64.wrap ((at_1 : Int).tmod 23)) + 2)))
  (pIf ((r14.2.1 : Int) == 0)
  (pIf r15.2.1
  (pLd (.int .i64) ((⟨b16, 0, none⟩ : Addr).add 1) fun (x18 : Int) => pIf ((x18 : Int) == 2)
  (pLd (.int .i64) ((⟨b16, 0, none⟩ : Addr).add 2) fun (x19 : Int) => k17 (((x19 : Int) == (IntKind.i64.wrap ((IntKind.i64.wrap ((kind_0 : Int).tmod 3)) + 1))), ()))
  (k17 (false, ())))
  (k17 (false, ())))
  (k17 (false, ())))
  (k17 (false, ())))
  (fun s => law21_InodesFull_j2 K s.1))
def law21_InodesFull_l4 (kind_0 : Int) (at_1 : Int) (KP : Value → Pr) (K : Value → Pr) (r2 : Option Addr) (k3 : Int × Unit → Pr) (x4 : Int) : Pr :=
  pIf (decide ((x4 : Int) ≤ 24))
  (pCall Try.prog 12 [(.pointer r2), (.int .i64 (IntKind.i64.wrap ((IntKind.i64.wrap ((kind_0 : Int).tmod 3)) + 1))), (.int .i64 0), (.int .i64 0), (.int .i64 0)] KP (.many [(.int .i64), (.int .i64)]) fun (r5 : Int × Int × Unit) => pJoin (σ := Bool × Unit)
  (fun k6 => pIf ((r5.1 : Int) != x4)
  (k6 (true, ()))
  (k6 (((r5.2.1 : Int) != 0), ())))
  (fun s => law21_InodesFull_j1 K k3 x4 s.1))
  (pCall Try.prog 12 [(.pointer r2), (.int .i64 (IntKind.i64.wrap ((IntKind.i64.wrap ((kind_0 : Int).tmod 3)) + 1))), (.int .i64 0), (.int .i64 0), (.int .i64 0)] KP (.many [(.int .i64), (.int .i64)]) fun (r8 : Int × Int × Unit) => pAssert ((23 : Int) ≠ 0) <| pJoin (σ := Bool × Unit)
  (fun k9 => pIf ((r8.2.1 : Int) != 28)
  (k9 (true, ()))
  (pCall Try.prog 13 [(.pointer r2)] KP (.one (.int .i64)) fun (r10 : Int) => pIf ((r10 : Int) != 0)
  (k9 (true, ()))
  (pCall Try.prog 14 [(.pointer r2), (.int .i64 (IntKind.i64.wrap ((IntKind.i64.wrap ((at_1 : Int).tmod 23)) + 2)))] KP (.one (.int .i64)) fun (r11 : Int) => pIf ((r11 : Int) != 0)
  (k9 (true, ()))
  (pCall Try.prog 13 [(.pointer r2)] KP (.one (.int .i64)) fun (r12 : Int) => k9 (((r12 : Int) != 1), ())))))
  (fun s => law21_InodesFull_j3 kind_0 at_1 KP K r2 s.1))
def law21_InodesFull (kind_0 : Int) (at_1 : Int) (KP K : Value → Pr) : Pr :=
  pCall Try.prog 8 [] KP (.one .bool) fun (r1 : Bool) => pIf (!r1)
  (K (.bool false))
  (pCall Try.prog 11 [] KP (.one .ptr) fun (r2 : Option Addr) => pAssert ((3 : Int) ≠ 0) <| pLoop (σ := Int × Unit) (fun s k3 => law21_InodesFull_l4 kind_0 at_1 KP K r2 k3 s.1) (2, ()))
def law21_InodesFull_ann : Ann := .two (.none) (.two (.two (.none) (.two (.two (.none) (.none)) (.none))) (.two (.none) (.two (.none) (.two (.two (.none) (.sub (.loop [(7, (.int .i64))] (.two (.two (.none) (.two (.none) (.none))) (.two (.sub (.two (.none) (.join (.none) (.two (.two (.none) (.none)) (.none)) [(40, .bool)]))) (.none)))))) (.two (.none) (.two (.none) (.two (.join (.none) (.two (.two (.none) (.none)) (.none)) [(68, .bool)]) (.two (.none) (.two (.none) (.join (.none) (.none) [(4, .bool)]))))))))))
theorem law21_InodesFull_eq (kind_0 : Int) (at_1 : Int) (KP K : Value → Pr) : vcBody Try.prog Try.f4 (Try.f4.body.getD .skip) law21_InodesFull_ann [(.int .u8 kind_0), (.int .u8 at_1)] KP K = law21_InodesFull kind_0 at_1 KP K := by kernel_rfl
theorem law21_InodesFull_call (kind_0 : Int) (at_1 : Int) {KP K : Value → Pr} {h : Heap} (s : law21_InodesFull kind_0 at_1 (fgt KP) (fgt K) h) : WpCall Try.prog 4 [(.int .u8 kind_0), (.int .u8 at_1)].toArray KP K h :=
  WpCall.of_vc Try.mixed Try.func4 (by kernel_rfl) Try.call4 law21_InodesFull_ann (by rw [law21_InodesFull_eq]; exact s)

/- halberd/halberdlaw21.InodesLinks -/
def law21_InodesLinks_j1 (k4 : Int × Unit → Pr) (x5 : Int) : Pr :=
  k4 ((IntKind.i64.wrap (x5 + 1)), ())
def law21_InodesLinks_j2 (k26 : Int × Int × Unit → Pr) (x28 : Int) (x38 : Int) : Pr :=
  k26 (x38, (IntKind.i64.wrap (x28 + 1)), ())
def law21_InodesLinks_l3 (r16 : Sl) (x18 : Int) (k23 : Int × Int × Unit → Pr) (x25 : Int) (k26 : Int × Int × Unit → Pr) (x27 : Int) (x28 : Int) : Pr :=
  pIdx x25 r16.len <| pSome r16.base fun a29 => pLd .slice ((a29.add ((x25 : Int).toNat * 11)).add 9) fun (x30 : Sl) => pIf (decide ((x28 : Int) < (x30.len : Int)))
  (pJoin (σ := Int × Unit)
  (fun k31 => pIdx x25 r16.len <| pSome r16.base fun a32 => pIdx x18 r16.len <| pSome r16.base fun a33 => pLd .slice ((a32.add ((x25 : Int).toNat * 11)).add 9) fun (x34 : Sl) => pIdx x28 x34.len <| pSome x34.base fun a35 => pLd (.int .i64) (a35.add ((x28 : Int).toNat * 1)) fun (x36 : Int) => pLd (.int .i64) ((a33.add ((x18 : Int).toNat * 11)).add 0) fun (x37 : Int) => pIf ((x36 : Int) == x37)
  (k31 ((IntKind.i64.wrap (x27 + 1)), ()))
  (k31 (x27, ())))
  (fun s => law21_InodesLinks_j2 k26 x28 s.1))
  (k23 (x27, (IntKind.i64.wrap (x25 + 1)), ()))
def law21_InodesLinks_l4 (K : Value → Pr) (r16 : Sl) (k17 : Int × Unit → Pr) (x18 : Int) (k23 : Int × Int × Unit → Pr) (x24 : Int) (x25 : Int) : Pr :=
  pIf (decide ((x25 : Int) < (r16.len : Int)))
  (pLoop (σ := Int × Int × Unit) (fun s k26 => law21_InodesLinks_l3 r16 x18 k23 x25 k26 s.1 s.2.1) (x24, 0, ()))
  (pIdx x18 r16.len <| pSome r16.base fun a39 => pLd (.int .i64) ((a39.add ((x18 : Int).toNat * 11)).add 6) fun (x40 : Int) => pIf ((x24 : Int) != x40)
  (K (.bool false))
  (k17 ((IntKind.i64.wrap (x18 + 1)), ())))
def law21_InodesLinks_j5 (K : Value → Pr) (r16 : Sl) (k17 : Int × Unit → Pr) (x18 : Int) (x22 : Int) : Pr :=
  pLoop (σ := Int × Int × Unit) (fun s k23 => law21_InodesLinks_l4 K r16 k17 x18 k23 s.1 s.2.1) (x22, 0, ())
def law21_InodesLinks_l6 (K : Value → Pr) (r16 : Sl) (k17 : Int × Unit → Pr) (x18 : Int) : Pr :=
  pIf (decide ((x18 : Int) < (r16.len : Int)))
  (pJoin (σ := Int × Unit)
  (fun k19 => pIdx x18 r16.len <| pSome r16.base fun a20 => pLd (.int .i64) ((a20.add ((x18 : Int).toNat * 11)).add 0) fun (x21 : Int) => pIf ((x21 : Int) == 1)
  (k19 (1, ()))
  (k19 (0, ())))
  (fun s => law21_InodesLinks_j5 K r16 k17 x18 s.1))
  (K (.bool true))
def law21_InodesLinks_j7 (l_0 : Sl) (KP : Value → Pr) (K : Value → Pr) (r2 : Option Addr) (r3 : Option Addr) (k4 : Int × Unit → Pr) (x5 : Int) (x7 : Bool) : Pr :=
  pIf x7
  (pJoin (σ := Unit)
  (fun k8 => pIdx x5 l_0.len <| pSome l_0.base fun a9 => pLd .str ((a9.add ((x5 : Int).toNat * 6)).add 5) fun (x10 : ByteArray) => pIf (decide (((x10.size : Int) : Int) > 100))
  (K (.bool true))
  (pIdx x5 l_0.len <| pSome l_0.base fun a11 => pLd (.int .u8) ((a11.add ((x5 : Int).toNat * 6)).add 0) fun (x12 : Int) => pAssert ((6 : Int) ≠ 0) <| pIf ((((x12 : Int).tmod 6) : Int) != 1)
  (pIdx x5 l_0.len <| pSome l_0.base fun a13 => pLdA 6 (a13.add ((x5 : Int).toNat * 6)) fun x14 => pCall Try.prog 17 [(.pointer r2), (.pointer r3), (.agg x14.toArray)] KP (.one .bool) fun (r15 : Bool) => k8 (()))
  (k8 (()))))
  (fun s => law21_InodesLinks_j1 k4 x5))
  (pCall Try.prog 18 [(.pointer r2)] KP (.one .slice) fun (r16 : Sl) => pLoop (σ := Int × Unit) (fun s k17 => law21_InodesLinks_l6 K r16 k17 s.1) (0, ()))
def law21_InodesLinks_l8 (l_0 : Sl) (KP : Value → Pr) (K : Value → Pr) (r2 : Option Addr) (r3 : Option Addr) (k4 : Int × Unit → Pr) (x5 : Int) : Pr :=
  pJoin (σ := Bool × Unit)
  (fun k6 => pIf (decide ((x5 : Int) < (l_0.len : Int)))
  (k6 ((decide ((x5 : Int) < 80)), ()))
  (k6 (false, ())))
  (fun s => law21_InodesLinks_j7 l_0 KP K r2 r3 k4 x5 s.1)
def law21_InodesLinks (l_0 : Sl) (KP K : Value → Pr) : Pr :=
  pCall Try.prog 8 [] KP (.one .bool) fun (r1 : Bool) => pIf (!r1)
  (K (.bool false))
  (pCall Try.prog 11 [] KP (.one .ptr) fun (r2 : Option Addr) => pCall Try.prog 16 [] KP (.one .ptr) fun (r3 : Option Addr) => pLoop (σ := Int × Unit) (fun s k4 => law21_InodesLinks_l8 l_0 KP K r2 r3 k4 s.1) (0, ()))
def law21_InodesLinks_ann : Ann := .two (.none) (.two (.two (.none) (.two (.two (.none) (.none)) (.none))) (.two (.none) (.two (.none) (.two (.two (.none) (.sub (.loop [(5, (.int .i64))] (.two (.join (.none) (.two (.none) (.none)) [(22, .bool)]) (.join (.sub (.two (.two (.none) (.two (.two (.none) (.none)) (.none))) (.two (.none) (.two (.none) (.none))))) (.none) []))))) (.two (.none) (.two (.two (.none) (.sub (.loop [(7, (.int .i64))] (.two (.two (.none) (.two (.none) (.none))) (.two (.sub (.two (.none) (.join (.two (.none) (.two (.none) (.none))) (.two (.two (.none) (.sub (.loop [(8, (.int .i64)), (9, (.int .i64))] (.two (.two (.none) (.two (.none) (.none))) (.two (.sub (.two (.none) (.sub (.loop [(8, (.int .i64)), (10, (.int .i64))] (.two (.two (.none) (.two (.none) (.none))) (.join (.sub (.two (.ord [0, 1, 2, 3, 5, 8, 9, 10, 11, 4, 6, 7, 12, 13]) (.two (.none) (.none)))) (.none) [(8, (.int .i64))])))))) (.none)))))) (.two (.none) (.two (.two (.none) (.none)) (.none)))) [(8, (.int .i64))]))) (.none)))))) (.two (.none) (.none))))))))
theorem law21_InodesLinks_eq (l_0 : Sl) (KP K : Value → Pr) : vcBody Try.prog Try.f5 (Try.f5.body.getD .skip) law21_InodesLinks_ann [(.slice l_0.base l_0.len l_0.cap)] KP K = law21_InodesLinks l_0 KP K := by kernel_rfl
theorem law21_InodesLinks_call (l_0 : Sl) {KP K : Value → Pr} {h : Heap} (s : law21_InodesLinks l_0 (fgt KP) (fgt K) h) : WpCall Try.prog 5 [(.slice l_0.base l_0.len l_0.cap)].toArray KP K h :=
  WpCall.of_vc Try.mixed Try.func5 (by kernel_rfl) Try.call5 law21_InodesLinks_ann (by rw [law21_InodesLinks_eq]; exact s)

/- halberd/halberdlaw21.InodesOwn -/
def law21_InodesOwn_l1 (s_1 : ByteArray) (r13 : Sl) (k14 : Int × Unit → Pr) (x15 : Int) (k16 : Int × Unit → Pr) (x17 : Int) : Pr :=
  pIdx x15 r13.len <| pSome r13.base fun a18 => pLd .slice ((a18.add ((x15 : Int).toNat * 11)).add 8) fun (x19 : Sl) => pIf (decide ((x17 : Int) < (x19.len : Int)))
  (pIdx x15 r13.len <| pSome r13.base fun a20 => pLd .slice ((a20.add ((x15 : Int).toNat * 11)).add 8) fun (x21 : Sl) => pIdx x17 x21.len <| pSome x21.base fun a22 => pSt (a22.add ((x17 : Int).toNat * 1)) (.string s_1) <| pIdx x15 r13.len <| pSome r13.base fun a23 => pLd .slice ((a23.add ((x15 : Int).toNat * 11)).add 9) fun (x24 : Sl) => pIdx x17 x24.len <| pSome x24.base fun a25 => pSt (a25.add ((x17 : Int).toNat * 1)) (.int .i64 77) <| k16 ((IntKind.i64.wrap (x17 + 1)), ()))
  (k14 ((IntKind.i64.wrap (x15 + 1)), ()))
def law21_InodesOwn_l2 (s_1 : ByteArray) (KP : Value → Pr) (K : Value → Pr) (r2 : Option Addr) (r3 : Option Addr) (r13 : Sl) (k14 : Int × Unit → Pr) (x15 : Int) : Pr :=
  pIf (decide ((x15 : Int) < (r13.len : Int)))
  (pLoop (σ := Int × Unit) (fun s k16 => law21_InodesOwn_l1 s_1 r13 k14 x15 k16 s.1) (0, ()))
  (pCall Try.prog 18 [(.pointer r2)] KP (.one .slice) fun (r26 : Sl) => pCall Try.prog 20 [(.pointer r3)] KP (.one .slice) fun (r27 : Sl) => pCall Try.prog 19 [(.slice r26.base r26.len r26.cap), (.slice r27.base r27.len r27.cap)] KP (.one .bool) fun (r28 : Bool) => K (.bool r28))
def law21_InodesOwn_j3 (l_0 : Sl) (s_1 : ByteArray) (KP : Value → Pr) (K : Value → Pr) (r2 : Option Addr) (r3 : Option Addr) (k4 : Int × Unit → Pr) (x5 : Int) (x7 : Bool) : Pr :=
  pIf x7
  (pIdx x5 l_0.len <| pSome l_0.base fun a8 => pLd .str ((a8.add ((x5 : Int).toNat * 6)).add 5) fun (x9 : ByteArray) => pIf (decide (((x9.size : Int) : Int) > 100))
  (K (.bool true))
  (pIdx x5 l_0.len <| pSome l_0.base fun a10 => pLdA 6 (a10.add ((x5 : Int).toNat * 6)) fun x11 => pCall Try.prog 17 [(.pointer r2), (.pointer r3), (.agg x11.toArray)] KP (.one .bool) fun (r12 : Bool) => k4 ((IntKind.i64.wrap (x5 + 1)), ())))
  (pCall Try.prog 18 [(.pointer r2)] KP (.one .slice) fun (r13 : Sl) => pLoop (σ := Int × Unit) (fun s k14 => law21_InodesOwn_l2 s_1 KP K r2 r3 r13 k14 s.1) (0, ()))
def law21_InodesOwn_l4 (l_0 : Sl) (s_1 : ByteArray) (KP : Value → Pr) (K : Value → Pr) (r2 : Option Addr) (r3 : Option Addr) (k4 : Int × Unit → Pr) (x5 : Int) : Pr :=
  pJoin (σ := Bool × Unit)
  (fun k6 => pIf (decide ((x5 : Int) < (l_0.len : Int)))
  (k6 ((decide ((x5 : Int) < 40)), ()))
  (k6 (false, ())))
  (fun s => law21_InodesOwn_j3 l_0 s_1 KP K r2 r3 k4 x5 s.1)
def law21_InodesOwn (l_0 : Sl) (s_1 : ByteArray) (KP K : Value → Pr) : Pr :=
  pCall Try.prog 8 [] KP (.one .bool) fun (r1 : Bool) => pIf (!r1)
  (K (.bool false))
  (pCall Try.prog 11 [] KP (.one .ptr) fun (r2 : Option Addr) => pCall Try.prog 16 [] KP (.one .ptr) fun (r3 : Option Addr) => pLoop (σ := Int × Unit) (fun s k4 => law21_InodesOwn_l4 l_0 s_1 KP K r2 r3 k4 s.1) (0, ()))
def law21_InodesOwn_ann : Ann := .two (.none) (.two (.two (.none) (.two (.two (.none) (.none)) (.none))) (.two (.none) (.two (.two (.none) (.sub (.loop [(7, (.int .i64))] (.two (.join (.none) (.two (.none) (.none)) [(22, .bool)]) (.two (.sub (.two (.two (.none) (.two (.two (.none) (.none)) (.none))) (.none))) (.none)))))) (.two (.none) (.two (.two (.none) (.sub (.loop [(9, (.int .i64))] (.two (.two (.none) (.two (.none) (.none))) (.two (.sub (.two (.none) (.sub (.loop [(10, (.int .i64))] (.two (.two (.none) (.two (.none) (.none))) (.two (.sub (.two (.none) (.none))) (.none))))))) (.none)))))) (.two (.none) (.none)))))))
theorem law21_InodesOwn_eq (l_0 : Sl) (s_1 : ByteArray) (KP K : Value → Pr) : vcBody Try.prog Try.f6 (Try.f6.body.getD .skip) law21_InodesOwn_ann [(.slice l_0.base l_0.len l_0.cap), (.string s_1)] KP K = law21_InodesOwn l_0 s_1 KP K := by kernel_rfl
theorem law21_InodesOwn_call (l_0 : Sl) (s_1 : ByteArray) {KP K : Value → Pr} {h : Heap} (s : law21_InodesOwn l_0 s_1 (fgt KP) (fgt K) h) : WpCall Try.prog 6 [(.slice l_0.base l_0.len l_0.cap), (.string s_1)].toArray KP K h :=
  WpCall.of_vc Try.mixed Try.func6 (by kernel_rfl) Try.call6 law21_InodesOwn_ann (by rw [law21_InodesOwn_eq]; exact s)

/- halberd/halberdlaw21.InodesPlays -/
def law21_InodesPlays_j1 (K : Value → Pr) (k4 : (Option Addr) × Sl × Int × Unit → Pr) (x7 : Int) (x15 : Option Addr) (x16 : Sl) (x38 : Bool) : Pr :=
  pIf x38
  (K (.bool false))
  (k4 (x15, x16, (IntKind.i64.wrap (x7 + 1)), ()))
def law21_InodesPlays_j2 (l_0 : Sl) (KP : Value → Pr) (K : Value → Pr) (r2 : Option Addr) (r3 : Option Addr) (k4 : (Option Addr) × Sl × Int × Unit → Pr) (x7 : Int) (x15 : Option Addr) (x16 : Sl) (x26 : Bool) : Pr :=
  pIf x26
  (K (.bool false))
  (pIdx x7 l_0.len <| pSome l_0.base fun a27 => pIdx x7 l_0.len <| pSome l_0.base fun a28 => pLd (.int .i64) ((a27.add ((x7 : Int).toNat * 6)).add 1) fun (x29 : Int) => pLd .str ((a28.add ((x7 : Int).toNat * 6)).add 5) fun (x30 : ByteArray) => pCall Try.prog 23 [(.pointer r2), (.int .i64 x29), (.string x30)] KP (.many [(.int .i64), .bool]) fun (r31 : Int × Bool × Unit) => pIdx x7 l_0.len <| pSome l_0.base fun a32 => pIdx x7 l_0.len <| pSome l_0.base fun a33 => pLd (.int .i64) ((a32.add ((x7 : Int).toNat * 6)).add 1) fun (x34 : Int) => pLd .str ((a33.add ((x7 : Int).toNat * 6)).add 5) fun (x35 : ByteArray) => pCall Try.prog 24 [(.pointer r3), (.int .i64 x34), (.string x35)] KP (.one (.int .i64)) fun (r36 : Int) => pJoin (σ := Bool × Unit)
  (fun k37 => pIf (!(r31.2.1 == (decide ((r36 : Int) > 0))))
  (k37 (true, ()))
  (k37 (((r31.1 : Int) != r36), ())))
  (fun s => law21_InodesPlays_j1 K k4 x7 x15 x16 s.1))
def law21_InodesPlays_j3 (l_0 : Sl) (KP : Value → Pr) (K : Value → Pr) (r2 : Option Addr) (r3 : Option Addr) (k4 : (Option Addr) × Sl × Int × Unit → Pr) (x7 : Int) (x15 : Option Addr) (x16 : Sl) : Pr :=
  pJoin (σ := Bool × Unit)
  (fun k17 => pIdx x7 l_0.len <| pSome l_0.base fun a18 => pLdA 6 (a18.add ((x7 : Int).toNat * 6)) fun x19 => pCall Try.prog 17 [(.pointer r2), (.pointer r3), (.agg x19.toArray)] KP (.one .bool) fun (r20 : Bool) => pIf (!r20)
  (k17 (true, ()))
  (pCall Try.prog 13 [(.pointer r2)] KP (.one (.int .i64)) fun (r21 : Int) => pCall Try.prog 22 [(.pointer r3)] KP (.one (.int .i64)) fun (r22 : Int) => pIf ((r21 : Int) != r22)
  (k17 (true, ()))
  (pCall Try.prog 18 [(.pointer r2)] KP (.one .slice) fun (r23 : Sl) => pCall Try.prog 20 [(.pointer r3)] KP (.one .slice) fun (r24 : Sl) => pCall Try.prog 19 [(.slice r23.base r23.len r23.cap), (.slice r24.base r24.len r24.cap)] KP (.one .bool) fun (r25 : Bool) => k17 ((!r25), ()))))
  (fun s => law21_InodesPlays_j2 l_0 KP K r2 r3 k4 x7 x15 x16 s.1)
def law21_InodesPlays_j4 (K : Value → Pr) (x42 : Bool) : Pr :=
  K (.bool x42)
def law21_InodesPlays_j5 (l_0 : Sl) (cut_1 : Int) (KP : Value → Pr) (K : Value → Pr) (r2 : Option Addr) (r3 : Option Addr) (k4 : (Option Addr) × Sl × Int × Unit → Pr) (x5 : Option Addr) (x6 : Sl) (x7 : Int) (x9 : Bool) : Pr :=
  pIf x9
  (pIdx x7 l_0.len <| pSome l_0.base fun a10 => pLd .str ((a10.add ((x7 : Int).toNat * 6)).add 5) fun (x11 : ByteArray) => pIf (decide (((x11.size : Int) : Int) > 100))
  (K (.bool true))
  (pJoin (σ := (Option Addr) × Sl × Unit)
  (fun k12 => pAssert ((60 : Int) ≠ 0) <| pIf ((x7 : Int) == (IntKind.i64.wrap ((cut_1 : Int).tmod 60)))
  (pCall Try.prog 21 [(.pointer r2)] KP (.one .ptr) fun (r13 : Option Addr) => pCall Try.prog 18 [(.pointer r2)] KP (.one .slice) fun (r14 : Sl) => k12 (r13, r14, ()))
  (k12 (x5, x6, ())))
  (fun s => law21_InodesPlays_j3 l_0 KP K r2 r3 k4 x7 s.1 s.2.1)))
  (pJoin (σ := Bool × Unit)
  (fun k39 => pIf (x5.isNone)
  (k39 (true, ()))
  (pCall Try.prog 18 [(.pointer x5)] KP (.one .slice) fun (r40 : Sl) => pCall Try.prog 19 [(.slice r40.base r40.len r40.cap), (.slice x6.base x6.len x6.cap)] KP (.one .bool) fun (r41 : Bool) => k39 (r41, ())))
  (fun s => law21_InodesPlays_j4 K s.1))
def law21_InodesPlays_l6 (l_0 : Sl) (cut_1 : Int) (KP : Value → Pr) (K : Value → Pr) (r2 : Option Addr) (r3 : Option Addr) (k4 : (Option Addr) × Sl × Int × Unit → Pr) (x5 : Option Addr) (x6 : Sl) (x7 : Int) : Pr :=
  pJoin (σ := Bool × Unit)
  (fun k8 => pIf (decide ((x7 : Int) < (l_0.len : Int)))
  (k8 ((decide ((x7 : Int) < 80)), ()))
  (k8 (false, ())))
  (fun s => law21_InodesPlays_j5 l_0 cut_1 KP K r2 r3 k4 x5 x6 x7 s.1)
def law21_InodesPlays (l_0 : Sl) (cut_1 : Int) (KP K : Value → Pr) : Pr :=
  pCall Try.prog 8 [] KP (.one .bool) fun (r1 : Bool) => pIf (!r1)
  (K (.bool false))
  (pCall Try.prog 11 [] KP (.one .ptr) fun (r2 : Option Addr) => pCall Try.prog 16 [] KP (.one .ptr) fun (r3 : Option Addr) => pLoop (σ := (Option Addr) × Sl × Int × Unit) (fun s k4 => law21_InodesPlays_l6 l_0 cut_1 KP K r2 r3 k4 s.1 s.2.1 s.2.2.1) (none, ⟨none, 0, 0⟩, 0, ()))
def law21_InodesPlays_ann : Ann := .two (.none) (.two (.two (.none) (.two (.two (.none) (.none)) (.none))) (.two (.none) (.two (.none) (.two (.none) (.two (.two (.none) (.sub (.loop [(7, .ptr), (8, .slice), (9, (.int .i64))] (.two (.join (.none) (.two (.none) (.none)) [(24, .bool)]) (.two (.sub (.two (.two (.none) (.two (.two (.none) (.none)) (.none))) (.join (.two (.none) (.two (.two (.none) (.none)) (.none))) (.two (.join (.none) (.two (.two (.none) (.none)) (.none)) [(65, .bool)]) (.two (.ord [0, 1, 2, 3, 4, 6, 7, 8, 9, 5, 10, 11, 12, 13, 14, 15, 16]) (.two (.ord [0, 1, 2, 3, 4, 6, 7, 8, 9, 5, 10, 11, 12]) (.join (.none) (.two (.two (.none) (.none)) (.none)) [(101, .bool)])))) [(7, .ptr), (8, .slice)]))) (.none)))))) (.join (.none) (.none) [(4, .bool)]))))))
theorem law21_InodesPlays_eq (l_0 : Sl) (cut_1 : Int) (KP K : Value → Pr) : vcBody Try.prog Try.f7 (Try.f7.body.getD .skip) law21_InodesPlays_ann [(.slice l_0.base l_0.len l_0.cap), (.int .u8 cut_1)] KP K = law21_InodesPlays l_0 cut_1 KP K := by kernel_rfl
theorem law21_InodesPlays_call (l_0 : Sl) (cut_1 : Int) {KP K : Value → Pr} {h : Heap} (s : law21_InodesPlays l_0 cut_1 (fgt KP) (fgt K) h) : WpCall Try.prog 7 [(.slice l_0.base l_0.len l_0.cap), (.int .u8 cut_1)].toArray KP K h :=
  WpCall.of_vc Try.mixed Try.func7 (by kernel_rfl) Try.call7 law21_InodesPlays_ann (by rw [law21_InodesPlays_eq]; exact s)

/- halberd/halberdlaw21.alive -/
def law21_alive_j1 (K : Value → Pr) (x12 : Bool) : Pr :=
  K (.bool x12)
def law21_alive  (KP K : Value → Pr) : Pr :=
  pCall Try.prog 11 [] KP (.one .ptr) fun (r1 : Option Addr) => pCall Try.prog 12 [(.pointer r1), (.int .i64 1), (.int .i64 0), (.int .i64 0), (.int .i64 0)] KP (.many [(.int .i64), (.int .i64)]) fun (r2 : Int × Int × Unit) => pCall Try.prog 25 [(.pointer r1), (.int .i64 1), (.string ⟨#[97]⟩), (.int .i64 2)] KP (.one (.int .i64)) fun (r3 : Int) => pCall Try.prog 15 [(.pointer r1), (.int .i64 2)] KP (.many [.agg, .bool]) fun (r4 : (List Value) × Bool × Unit) => pNew (zc Try.prog 34) fun b5 => pStA 11 ⟨b5, 0, none⟩ r4.1 <| pCall Try.prog 26 [(.pointer r1), (.int .i64 1), (.string ⟨#[97]⟩)] KP (.many [(.int .i64), (.int .i64)]) fun (r6 : Int × Int × Unit) => pCall Try.prog 15 [(.pointer r1), (.int .i64 2)] KP (.many [.agg, .bool]) fun (r7 : (List Value) × Bool × Unit) => pNew (zc Try.prog 34) fun b8 => pStA 11 ⟨b8, 0, none⟩ r7.1 <| pJoin (σ := Bool × Unit)
  (fun k9 => pIf ((r2.1 : Int) == 2)
  (pIf ((r2.2.1 : Int) == 0)
  (pIf ((r3 : Int) == 0)
  (pIf r4.2.1
  (pLd (.int .i64) ((⟨b5, 0, none⟩ : Addr).add 6) fun (x10 : Int) => pIf ((x10 : Int) == 1)
  (pIf ((r6.1 : Int) == 2)
  (pIf ((r6.2.1 : Int) == 0)
  (pIf r7.2.1
  (pLd (.int .i64) ((⟨b8, 0, none⟩ : Addr).add 6) fun (x11 : Int) => k9 (((x11 : Int) == 0), ()))
  (k9 (false, ())))
  (k9 (false, ())))
  (k9 (false, ())))
  (k9 (false, ())))
  (k9 (false, ())))
  (k9 (false, ())))
  (k9 (false, ())))
  (k9 (false, ())))
  (fun s => law21_alive_j1 K s.1)
def law21_alive_ann : Ann := .two (.none) (.two (.none) (.two (.none) (.two (.none) (.two (.none) (.two (.none) (.two (.none) (.join (.none) (.none) [(0, .bool)])))))))
theorem law21_alive_eq  (KP K : Value → Pr) : vcBody Try.prog Try.f8 (Try.f8.body.getD .skip) law21_alive_ann [] KP K = law21_alive  KP K := by kernel_rfl
theorem law21_alive_call  {KP K : Value → Pr} {h : Heap} (s : law21_alive  (fgt KP) (fgt K) h) : WpCall Try.prog 8 [].toArray KP K h :=
  WpCall.of_vc Try.mixed Try.func8 (by kernel_rfl) Try.call8 law21_alive_ann (by rw [law21_alive_eq]; exact s)

/- halberd/inodes.IsName -/
def inodes_IsName_j1 (K : Value → Pr) (x3 : Bool) : Pr :=
  K (.bool x3)
def inodes_IsName (s_0 : ByteArray) (KP K : Value → Pr) : Pr :=
  pJoin (σ := Bool × Unit)
  (fun k1 => pIf (!strEq s_0 ⟨#[]⟩)
  (pIf (decide (((s_0.size : Int) : Int) ≤ 8))
  (pIf (!strEq s_0 ⟨#[46]⟩)
  (pIf (!strEq s_0 ⟨#[46, 46]⟩)
  (pCall Try.prog 27 [(.string s_0), (.string ⟨#[47, 0]⟩)] KP (.one .bool) fun (r2 : Bool) => k1 ((!r2), ()))
  (k1 (false, ())))
  (k1 (false, ())))
  (k1 (false, ())))
  (k1 (false, ())))
  (fun s => inodes_IsName_j1 K s.1)
def inodes_IsName_ann : Ann := .two (.none) (.join (.none) (.none) [(2, .bool)])
theorem inodes_IsName_eq (s_0 : ByteArray) (KP K : Value → Pr) : vcBody Try.prog Try.f9 (Try.f9.body.getD .skip) inodes_IsName_ann [(.string s_0)] KP K = inodes_IsName s_0 KP K := by kernel_rfl
theorem inodes_IsName_call (s_0 : ByteArray) {KP K : Value → Pr} {h : Heap} (s : inodes_IsName s_0 (fgt KP) (fgt K) h) : WpCall Try.prog 9 [(.string s_0)].toArray KP K h :=
  WpCall.of_vc Try.mixed Try.func9 (by kernel_rfl) Try.call9 inodes_IsName_ann (by rw [inodes_IsName_eq]; exact s)

/- halberd/halberdref21.Name -/
def ref21_Name_j1 (K : Value → Pr) (k3 : Int × Unit → Pr) (x4 : Int) (x6 : Bool) : Pr :=
  pIf x6
  (K (.bool false))
  (k3 ((IntKind.i64.wrap (x4 + 1)), ()))
def ref21_Name_l2 (s_0 : ByteArray) (K : Value → Pr) (k3 : Int × Unit → Pr) (x4 : Int) : Pr :=
  pIf (decide ((x4 : Int) < (s_0.size : Int)))
  (pJoin (σ := Bool × Unit)
  (fun k5 => pIdx x4 s_0.size <| pIf (((byteAt s_0 x4) : Int) == 47)
  (k5 (true, ()))
  (pIdx x4 s_0.size <| k5 ((((byteAt s_0 x4) : Int) == 0), ())))
  (fun s => ref21_Name_j1 K k3 x4 s.1))
  (K (.bool true))
def ref21_Name_j3 (s_0 : ByteArray) (K : Value → Pr) (x2 : Bool) : Pr :=
  pIf x2
  (K (.bool false))
  (pLoop (σ := Int × Unit) (fun s k3 => ref21_Name_l2 s_0 K k3 s.1) (0, ()))
def ref21_Name (s_0 : ByteArray) (KP K : Value → Pr) : Pr :=
  pJoin (σ := Bool × Unit)
  (fun k1 => pIf (decide (((s_0.size : Int) : Int) < 1))
  (k1 (true, ()))
  (pIf (decide (((s_0.size : Int) : Int) > 8))
  (k1 (true, ()))
  (pIf (strEq s_0 ⟨#[46]⟩)
  (k1 (true, ()))
  (k1 ((strEq s_0 ⟨#[46, 46]⟩), ())))))
  (fun s => ref21_Name_j3 s_0 K s.1)
def ref21_Name_ann : Ann := .two (.none) (.two (.join (.none) (.two (.two (.none) (.none)) (.none)) [(19, .bool)]) (.two (.two (.none) (.sub (.loop [(3, (.int .i64))] (.two (.two (.none) (.two (.none) (.none))) (.two (.sub (.join (.none) (.two (.two (.none) (.none)) (.none)) [(35, .bool)])) (.none)))))) (.two (.none) (.none))))
theorem ref21_Name_eq (s_0 : ByteArray) (KP K : Value → Pr) : vcBody Try.prog Try.f10 (Try.f10.body.getD .skip) ref21_Name_ann [(.string s_0)] KP K = ref21_Name s_0 KP K := by kernel_rfl
theorem ref21_Name_call (s_0 : ByteArray) {KP K : Value → Pr} {h : Heap} (s : ref21_Name s_0 (fgt KP) (fgt K) h) : WpCall Try.prog 10 [(.string s_0)].toArray KP K h :=
  WpCall.of_vc Try.mixed Try.func10 (by kernel_rfl) Try.call10 ref21_Name_ann (by rw [ref21_Name_eq]; exact s)

end Go.Proofs.Ytkbcneomjkfheaa

set_option linter.unusedVariables false
namespace Go.Proofs.Ytkbcneomjkfheaa
open Go.Hl
/- halberd/inodes.New -/
def inodes_New_l1 (KP : Value → Pr) (K : Value → Pr) (b1 : Nat) (k2 : Int × Unit → Pr) (x3 : Int) : Pr :=
  pIf (decide ((x3 : Int) ≤ 24))
  (pSome (some ⟨b1, 0, none⟩) fun a4 => pCall Try.prog 28 [(.iface 61 (.pointer (some (a4.add 275)))), (.iface 3 (.int .i64 x3))] KP (.many []) fun (r5 : Unit) => k2 ((IntKind.i64.wrap (x3 + 1)), ()))
  (pSome (some ⟨b1, 0, none⟩) fun a6 => pIdx 1 25 <| pStA 11 ((a6.add 0).add ((1 : Int).toNat * 11)) (lay (zc Try.prog 34) [(0, (.int .i64 1)), (1, (.int .i64 1)), (2, (.int .i64 2)), (3, (.int .i64 493)), (6, (.int .i64 1)), (10, (.int .i64 1))]) <| K (.pointer (some ⟨b1, 0, none⟩)))
def inodes_New  (KP K : Value → Pr) : Pr :=
  pNew (lay (zc Try.prog 59) []) fun b1 => pLoop (σ := Int × Unit) (fun s k2 => inodes_New_l1 KP K b1 k2 s.1) (2, ())
def inodes_New_ann : Ann := .two (.none) (.two (.none) (.two (.two (.none) (.sub (.loop [(2, (.int .i64))] (.two (.two (.none) (.two (.none) (.none))) (.two (.sub (.none)) (.none)))))) (.two (.none) (.two (.none) (.none)))))
theorem inodes_New_eq  (KP K : Value → Pr) : vcBody Try.prog Try.f11 (Try.f11.body.getD .skip) inodes_New_ann [] KP K = inodes_New  KP K := by kernel_rfl
theorem inodes_New_call  {KP K : Value → Pr} {h : Heap} (s : inodes_New  (fgt KP) (fgt K) h) : WpCall Try.prog 11 [].toArray KP K h :=
  WpCall.of_vc Try.mixed Try.func11 (by kernel_rfl) Try.call11 inodes_New_ann (by rw [inodes_New_eq]; exact s)

/- (*halberd/inodes.Table).Add -/
def inodes_Table_Add_j1 (t_0 : Option Addr) (kind_1 : Int) (mode_2 : Int) (uid_3 : Int) (gid_4 : Int) (KP : Value → Pr) (K : Value → Pr) (x2 : Bool) : Pr :=
  pIf x2
  (K (.tuple [(.int .i64 0), (.int .i64 22)].toArray))
  (pSome t_0 fun a3 => pLd .slice (a3.add 275) fun (x4 : Sl) => pIf (((x4.len : Int) : Int) == 0)
  (K (.tuple [(.int .i64 0), (.int .i64 28)].toArray))
  (pSome t_0 fun a5 => pCall Try.prog 29 [(.iface 61 (.pointer (some (a5.add 275))))] KP (.one .any) fun (r6 : Value) => pUnbox r6 3 (.int .i64) fun (x7 : Int) => pSome t_0 fun a8 => pIdx x7 25 <| pSome t_0 fun a9 => pLd (.int .i64) (((a8.add 0).add ((x7 : Int).toNat * 11)).add 1) fun (x10 : Int) => pIdx x7 25 <| pStA 11 ((a9.add 0).add ((x7 : Int).toNat * 11)) (lay (zc Try.prog 34) [(0, (.int .i64 x7)), (1, (.int .i64 (IntKind.i64.wrap (x10 + 1)))), (2, (.int .i64 kind_1)), (3, (.int .i64 mode_2)), (4, (.int .i64 uid_3)), (5, (.int .i64 gid_4))]) <| K (.tuple [(.int .i64 x7), (.int .i64 0)].toArray)))
def inodes_Table_Add (t_0 : Option Addr) (kind_1 : Int) (mode_2 : Int) (uid_3 : Int) (gid_4 : Int) (KP K : Value → Pr) : Pr :=
  pJoin (σ := Bool × Unit)
  (fun k1 => pIf (decide ((kind_1 : Int) < 1))
  (k1 (true, ()))
  (pIf (decide ((kind_1 : Int) > 3))
  (k1 (true, ()))
  (k1 ((t_0.isNone), ()))))
  (fun s => inodes_Table_Add_j1 t_0 kind_1 mode_2 uid_3 gid_4 KP K s.1)
def inodes_Table_Add_ann : Ann := .two (.none) (.two (.sub (.join (.none) (.two (.two (.none) (.none)) (.two (.none) (.two (.two (.none) (.none)) (.none)))) [(13, .bool)])) (.two (.none) (.two (.ord [0, 1, 2, 3, 4, 5, 6, 7, 8, 11, 12, 13, 14, 16, 17, 9, 10, 15, 18, 19]) (.two (.none) (.none)))))
theorem inodes_Table_Add_eq (t_0 : Option Addr) (kind_1 : Int) (mode_2 : Int) (uid_3 : Int) (gid_4 : Int) (KP K : Value → Pr) : vcBody Try.prog Try.f12 (Try.f12.body.getD .skip) inodes_Table_Add_ann [(.pointer t_0), (.int .i64 kind_1), (.int .i64 mode_2), (.int .i64 uid_3), (.int .i64 gid_4)] KP K = inodes_Table_Add t_0 kind_1 mode_2 uid_3 gid_4 KP K := by kernel_rfl
theorem inodes_Table_Add_call (t_0 : Option Addr) (kind_1 : Int) (mode_2 : Int) (uid_3 : Int) (gid_4 : Int) {KP K : Value → Pr} {h : Heap} (s : inodes_Table_Add t_0 kind_1 mode_2 uid_3 gid_4 (fgt KP) (fgt K) h) : WpCall Try.prog 12 [(.pointer t_0), (.int .i64 kind_1), (.int .i64 mode_2), (.int .i64 uid_3), (.int .i64 gid_4)].toArray KP K h :=
  WpCall.of_vc Try.mixed Try.func12 (by kernel_rfl) Try.call12 inodes_Table_Add_ann (by rw [inodes_Table_Add_eq]; exact s)

/- (*halberd/inodes.Table).Room -/
def inodes_Table_Room (t_0 : Option Addr) (KP K : Value → Pr) : Pr :=
  pIf (t_0.isNone)
  (K (.int .i64 0))
  (pSome t_0 fun a1 => pLd .slice (a1.add 275) fun (x2 : Sl) => K (.int .i64 (x2.len : Int)))
def inodes_Table_Room_ann : Ann := .two (.none) (.two (.two (.none) (.two (.two (.none) (.none)) (.none))) (.two (.none) (.none)))
theorem inodes_Table_Room_eq (t_0 : Option Addr) (KP K : Value → Pr) : vcBody Try.prog Try.f13 (Try.f13.body.getD .skip) inodes_Table_Room_ann [(.pointer t_0)] KP K = inodes_Table_Room t_0 KP K := by kernel_rfl
theorem inodes_Table_Room_call (t_0 : Option Addr) {KP K : Value → Pr} {h : Heap} (s : inodes_Table_Room t_0 (fgt KP) (fgt K) h) : WpCall Try.prog 13 [(.pointer t_0)].toArray KP K h :=
  WpCall.of_vc Try.mixed Try.func13 (by kernel_rfl) Try.call13 inodes_Table_Room_ann (by rw [inodes_Table_Room_eq]; exact s)

/- (*halberd/inodes.Table).Free -/
def inodes_Table_Free (t_0 : Option Addr) (ino_1 : Int) (KP K : Value → Pr) : Pr :=
  pCall Try.prog 30 [(.pointer t_0), (.int .i64 ino_1)] KP (.one .ptr) fun (r1 : Option Addr) => pIf (r1.isNone)
  (K (.int .i64 2))
  (pIf ((ino_1 : Int) == 1)
  (K (.int .i64 22))
  (pSome r1 fun a2 => pLd (.int .i64) (a2.add 1) fun (x3 : Int) => pSome r1 fun a4 => pStA 11 a4 (lay (zc Try.prog 34) [(1, (.int .i64 x3))]) <| pSome t_0 fun a5 => pCall Try.prog 28 [(.iface 61 (.pointer (some (a5.add 275)))), (.iface 3 (.int .i64 ino_1))] KP (.many []) fun (r6 : Unit) => K (.int .i64 0)))
def inodes_Table_Free_ann : Ann := .two (.none) (.two (.none) (.two (.sub (.two (.none) (.two (.two (.none) (.none)) (.two (.none) (.two (.two (.none) (.none)) (.none)))))) (.two (.none) (.two (.none) (.two (.none) (.none))))))
theorem inodes_Table_Free_eq (t_0 : Option Addr) (ino_1 : Int) (KP K : Value → Pr) : vcBody Try.prog Try.f14 (Try.f14.body.getD .skip) inodes_Table_Free_ann [(.pointer t_0), (.int .i64 ino_1)] KP K = inodes_Table_Free t_0 ino_1 KP K := by kernel_rfl
theorem inodes_Table_Free_call (t_0 : Option Addr) (ino_1 : Int) {KP K : Value → Pr} {h : Heap} (s : inodes_Table_Free t_0 ino_1 (fgt KP) (fgt K) h) : WpCall Try.prog 14 [(.pointer t_0), (.int .i64 ino_1)].toArray KP K h :=
  WpCall.of_vc Try.mixed Try.func14 (by kernel_rfl) Try.call14 inodes_Table_Free_ann (by rw [inodes_Table_Free_eq]; exact s)

/- (*halberd/inodes.Table).Get -/
def inodes_Table_Get (t_0 : Option Addr) (ino_1 : Int) (KP K : Value → Pr) : Pr :=
  pNew (zc Try.prog 34) fun b1 => pCall Try.prog 30 [(.pointer t_0), (.int .i64 ino_1)] KP (.one .ptr) fun (r2 : Option Addr) => pIf (r2.isNone)
  (pStA 11 ⟨b1, 0, none⟩ (lay (zc Try.prog 34) []) <| pLdA 11 ⟨b1, 0, none⟩ fun x3 => K (.tuple [(.agg x3.toArray), (.bool false)].toArray))
  (pSome r2 fun a4 => pLdA 11 a4 fun x5 => pCall Try.prog 31 [(.agg x5.toArray)] KP (.one .agg) fun (r6 : List Value) => pStA 11 ⟨b1, 0, none⟩ r6 <| pLdA 11 ⟨b1, 0, none⟩ fun x7 => K (.tuple [(.agg x7.toArray), (.bool true)].toArray))
def inodes_Table_Get_ann : Ann := .two (.none) (.two (.none) (.two (.two (.none) (.two (.two (.none) (.none)) (.none))) (.two (.none) (.none))))
theorem inodes_Table_Get_eq (t_0 : Option Addr) (ino_1 : Int) (KP K : Value → Pr) : vcBody Try.prog Try.f15 (Try.f15.body.getD .skip) inodes_Table_Get_ann [(.pointer t_0), (.int .i64 ino_1)] KP K = inodes_Table_Get t_0 ino_1 KP K := by kernel_rfl
theorem inodes_Table_Get_call (t_0 : Option Addr) (ino_1 : Int) {KP K : Value → Pr} {h : Heap} (s : inodes_Table_Get t_0 ino_1 (fgt KP) (fgt K) h) : WpCall Try.prog 15 [(.pointer t_0), (.int .i64 ino_1)].toArray KP K h :=
  WpCall.of_vc Try.mixed Try.func15 (by kernel_rfl) Try.call15 inodes_Table_Get_ann (by rw [inodes_Table_Get_eq]; exact s)

/- halberd/halberdref21.New -/
def ref21_New  (KP K : Value → Pr) : Pr :=
  pNew (lay (zc Try.prog 67) []) fun b1 => pSome (some ⟨b1, 0, none⟩) fun a2 => pIdx 1 25 <| pStA 11 ((a2.add 0).add ((1 : Int).toNat * 11)) (lay (zc Try.prog 34) [(0, (.int .i64 1)), (1, (.int .i64 1)), (2, (.int .i64 2)), (3, (.int .i64 493)), (6, (.int .i64 1)), (10, (.int .i64 1))]) <| K (.pointer (some ⟨b1, 0, none⟩))
def ref21_New_ann : Ann := .two (.none) (.two (.none) (.two (.none) (.two (.none) (.none))))
theorem ref21_New_eq  (KP K : Value → Pr) : vcBody Try.prog Try.f16 (Try.f16.body.getD .skip) ref21_New_ann [] KP K = ref21_New  KP K := by kernel_rfl
theorem ref21_New_call  {KP K : Value → Pr} {h : Heap} (s : ref21_New  (fgt KP) (fgt K) h) : WpCall Try.prog 16 [].toArray KP K h :=
  WpCall.of_vc Try.mixed Try.func16 (by kernel_rfl) Try.call16 ref21_New_ann (by rw [ref21_New_eq]; exact s)

/- halberd/halberdlaw21.Do -/
def law21_Do_j1 (K : Value → Pr) (x14 : Bool) : Pr :=
  K (.bool x14)
def law21_Do_j2 (K : Value → Pr) (x34 : Bool) : Pr :=
  K (.bool x34)
def law21_Do (t_0 : Option Addr) (w_1 : Option Addr) (o_2 : List Value) (KP K : Value → Pr) : Pr :=
  pNew o_2 fun b1 => pLd (.int .u8) ((⟨b1, 0, none⟩ : Addr).add 0) fun (x2 : Int) => pAssert ((6 : Int) ≠ 0) <| pIf ((((x2 : Int).tmod 6) : Int) == 0)
  (pLd (.int .i64) ((⟨b1, 0, none⟩ : Addr).add 1) fun (x3 : Int) => pLd (.int .i64) ((⟨b1, 0, none⟩ : Addr).add 2) fun (x4 : Int) => pLd (.int .i64) ((⟨b1, 0, none⟩ : Addr).add 3) fun (x5 : Int) => pLd (.int .i64) ((⟨b1, 0, none⟩ : Addr).add 4) fun (x6 : Int) => pCall Try.prog 12 [(.pointer t_0), (.int .i64 x3), (.int .i64 x4), (.int .i64 x5), (.int .i64 x6)] KP (.many [(.int .i64), (.int .i64)]) fun (r7 : Int × Int × Unit) => pLd (.int .i64) ((⟨b1, 0, none⟩ : Addr).add 1) fun (x8 : Int) => pLd (.int .i64) ((⟨b1, 0, none⟩ : Addr).add 2) fun (x9 : Int) => pLd (.int .i64) ((⟨b1, 0, none⟩ : Addr).add 3) fun (x10 : Int) => pLd (.int .i64) ((⟨b1, 0, none⟩ : Addr).add 4) fun (x11 : Int) => pCall Try.prog 32 [(.pointer w_1), (.int .i64 x8), (.int .i64 x9), (.int .i64 x10), (.int .i64 x11)] KP (.many [(.int .i64), (.int .i64)]) fun (r12 : Int × Int × Unit) => pJoin (σ := Bool × Unit)
  (fun k13 => pIf ((r7.1 : Int) == r12.1)
  (k13 (((r7.2.1 : Int) == r12.2.1), ()))
  (k13 (false, ())))
  (fun s => law21_Do_j1 K s.1))
  (pIf ((((x2 : Int).tmod 6) : Int) == 1)
  (pLd (.int .i64) ((⟨b1, 0, none⟩ : Addr).add 1) fun (x15 : Int) => pLd (.int .i64) ((⟨b1, 0, none⟩ : Addr).add 1) fun (x16 : Int) => pCall Try.prog 14 [(.pointer t_0), (.int .i64 x15)] KP (.one (.int .i64)) fun (r17 : Int) => pKeep (loadF Try.prog 3 (.pointer (some ((⟨b1, 0, none⟩ : Addr).add 1))) (.int .i64 x16)) <| pCall Try.prog 33 [(.pointer w_1), (.int .i64 x16)] KP (.one (.int .i64)) fun (r18 : Int) => K (.bool ((r17 : Int) == r18)))
  (pIf ((((x2 : Int).tmod 6) : Int) == 2)
  (pLd (.int .i64) ((⟨b1, 0, none⟩ : Addr).add 1) fun (x19 : Int) => pLd .str ((⟨b1, 0, none⟩ : Addr).add 5) fun (x20 : ByteArray) => pLd (.int .i64) ((⟨b1, 0, none⟩ : Addr).add 2) fun (x21 : Int) => pLd (.int .i64) ((⟨b1, 0, none⟩ : Addr).add 1) fun (x22 : Int) => pLd .str ((⟨b1, 0, none⟩ : Addr).add 5) fun (x23 : ByteArray) => pLd (.int .i64) ((⟨b1, 0, none⟩ : Addr).add 2) fun (x24 : Int) => pCall Try.prog 25 [(.pointer t_0), (.int .i64 x19), (.string x20), (.int .i64 x21)] KP (.one (.int .i64)) fun (r25 : Int) => pKeep (loadF Try.prog 3 (.pointer (some ((⟨b1, 0, none⟩ : Addr).add 2))) (.int .i64 x24)) <| pKeep (loadF Try.prog 9 (.pointer (some ((⟨b1, 0, none⟩ : Addr).add 5))) (.string x23)) <| pKeep (loadF Try.prog 3 (.pointer (some ((⟨b1, 0, none⟩ : Addr).add 1))) (.int .i64 x22)) <| pCall Try.prog 34 [(.pointer w_1), (.int .i64 x22), (.string x23), (.int .i64 x24)] KP (.one (.int .i64)) fun (r26 : Int) => K (.bool ((r25 : Int) == r26)))
  (pIf ((((x2 : Int).tmod 6) : Int) == 3)
  (pLd (.int .i64) ((⟨b1, 0, none⟩ : Addr).add 1) fun (x27 : Int) => pLd .str ((⟨b1, 0, none⟩ : Addr).add 5) fun (x28 : ByteArray) => pCall Try.prog 26 [(.pointer t_0), (.int .i64 x27), (.string x28)] KP (.many [(.int .i64), (.int .i64)]) fun (r29 : Int × Int × Unit) => pLd (.int .i64) ((⟨b1, 0, none⟩ : Addr).add 1) fun (x30 : Int) => pLd .str ((⟨b1, 0, none⟩ : Addr).add 5) fun (x31 : ByteArray) => pCall Try.prog 35 [(.pointer w_1), (.int .i64 x30), (.string x31)] KP (.many [(.int .i64), (.int .i64)]) fun (r32 : Int × Int × Unit) => pJoin (σ := Bool × Unit)
  (fun k33 => pIf ((r29.1 : Int) == r32.1)
  (k33 (((r29.2.1 : Int) == r32.2.1), ()))
  (k33 (false, ())))
  (fun s => law21_Do_j2 K s.1))
  (pIf ((((x2 : Int).tmod 6) : Int) == 4)
  (pLd (.int .i64) ((⟨b1, 0, none⟩ : Addr).add 1) fun (x35 : Int) => pLd .str ((⟨b1, 0, none⟩ : Addr).add 5) fun (x36 : ByteArray) => pLd (.int .i64) ((⟨b1, 0, none⟩ : Addr).add 1) fun (x37 : Int) => pLd .str ((⟨b1, 0, none⟩ : Addr).add 5) fun (x38 : ByteArray) => pCall Try.prog 36 [(.pointer t_0), (.int .i64 x35), (.string x36)] KP (.one (.int .i64)) fun (r39 : Int) => pKeep (loadF Try.prog 9 (.pointer (some ((⟨b1, 0, none⟩ : Addr).add 5))) (.string x38)) <| pKeep (loadF Try.prog 3 (.pointer (some ((⟨b1, 0, none⟩ : Addr).add 1))) (.int .i64 x37)) <| pCall Try.prog 37 [(.pointer w_1), (.int .i64 x37), (.string x38)] KP (.one (.int .i64)) fun (r40 : Int) => K (.bool ((r39 : Int) == r40)))
  (pLd (.int .i64) ((⟨b1, 0, none⟩ : Addr).add 1) fun (x41 : Int) => pLd (.int .i64) ((⟨b1, 0, none⟩ : Addr).add 2) fun (x42 : Int) => pLd (.int .i64) ((⟨b1, 0, none⟩ : Addr).add 3) fun (x43 : Int) => pLd (.int .i64) ((⟨b1, 0, none⟩ : Addr).add 4) fun (x44 : Int) => pCall Try.prog 38 [(.pointer t_0), (.int .i64 x41), (.int .i64 x42), (.int .i64 x43), (.int .i64 x44)] KP (.one (.int .i64)) fun (r45 : Int) => pLd (.int .i64) ((⟨b1, 0, none⟩ : Addr).add 1) fun (x46 : Int) => pCall Try.prog 39 [(.pointer w_1), (.int .i64 x46)] KP (.one .bool) fun (r47 : Bool) => pIf (!r47)
  (K (.bool ((r45 : Int) == 2)))
  (pSome w_1 fun a48 => pLd (.int .i64) ((⟨b1, 0, none⟩ : Addr).add 1) fun (x49 : Int) => pLd (.int .i64) ((⟨b1, 0, none⟩ : Addr).add 2) fun (x50 : Int) => pIdx x49 25 <| pSt (((a48.add 0).add ((x49 : Int).toNat * 11)).add 3) (.int .i64 x50) <| pSome w_1 fun a51 => pLd (.int .i64) ((⟨b1, 0, none⟩ : Addr).add 1) fun (x52 : Int) => pLd (.int .i64) ((⟨b1, 0, none⟩ : Addr).add 3) fun (x53 : Int) => pIdx x52 25 <| pSt (((a51.add 0).add ((x52 : Int).toNat * 11)).add 4) (.int .i64 x53) <| pSome w_1 fun a54 => pLd (.int .i64) ((⟨b1, 0, none⟩ : Addr).add 1) fun (x55 : Int) => pLd (.int .i64) ((⟨b1, 0, none⟩ : Addr).add 4) fun (x56 : Int) => pIdx x55 25 <| pSt (((a54.add 0).add ((x55 : Int).toNat * 11)).add 5) (.int .i64 x56) <| K (.bool ((r45 : Int) == 0))))))))
def law21_Do_ann : Ann := .two (.none) (.two (.two (.none) (.sub (.two (.none) (.two (.two (.none) (.two (.none) (.join (.none) (.none) [(6, .bool)]))) (.two (.none) (.two (.two (.ord [0, 1, 4, 5, 2, 6, 3, 7, 8, 9]) (.none)) (.two (.none) (.two (.two (.ord [0, 1, 3, 5, 8, 9, 11, 13, 2, 4, 6, 10, 12, 14, 7, 15, 16, 17]) (.none)) (.two (.none) (.two (.two (.none) (.two (.none) (.join (.none) (.none) [(6, .bool)]))) (.two (.none) (.two (.two (.ord [0, 1, 3, 6, 7, 9, 2, 4, 8, 10, 5, 11, 12, 13]) (.none)) (.none))))))))))))) (.two (.none) (.two (.two (.none) (.two (.two (.none) (.none)) (.none))) (.two (.ord [0, 1, 3, 5, 6, 2, 4, 7, 8, 9]) (.two (.ord [0, 1, 3, 5, 6, 2, 4, 7, 8, 9]) (.two (.ord [0, 1, 3, 5, 6, 2, 4, 7, 8, 9]) (.two (.none) (.none))))))))
theorem law21_Do_eq (t_0 : Option Addr) (w_1 : Option Addr) (o_2 : List Value) (KP K : Value → Pr) : vcBody Try.prog Try.f17 (Try.f17.body.getD .skip) law21_Do_ann [(.pointer t_0), (.pointer w_1), (.agg o_2.toArray)] KP K = law21_Do t_0 w_1 o_2 KP K := by kernel_rfl
theorem law21_Do_call (t_0 : Option Addr) (w_1 : Option Addr) (o_2 : List Value) {KP K : Value → Pr} {h : Heap} (s : law21_Do t_0 w_1 o_2 (fgt KP) (fgt K) h) : WpCall Try.prog 17 [(.pointer t_0), (.pointer w_1), (.agg o_2.toArray)].toArray KP K h :=
  WpCall.of_vc Try.mixed Try.func17 (by kernel_rfl) Try.call17 law21_Do_ann (by rw [law21_Do_eq]; exact s)

/- (*halberd/inodes.Table).All -/
def inodes_Table_All_j1 (k1 : Sl × Int × Unit → Pr) (x3 : Int) (x10 : Sl) : Pr :=
  k1 (x10, (IntKind.i64.wrap (x3 + 1)), ())
def inodes_Table_All_l2 (t_0 : Option Addr) (KP : Value → Pr) (K : Value → Pr) (k1 : Sl × Int × Unit → Pr) (x2 : Sl) (x3 : Int) : Pr :=
  pIf (decide ((x3 : Int) ≤ 24))
  (pJoin (σ := Sl × Unit)
  (fun k4 => pCall Try.prog 15 [(.pointer t_0), (.int .i64 x3)] KP (.many [.agg, .bool]) fun (r5 : (List Value) × Bool × Unit) => pNew (zc Try.prog 34) fun b6 => pStA 11 ⟨b6, 0, none⟩ r5.1 <| pIf r5.2.1
  (pLdA 11 ⟨b6, 0, none⟩ fun x7 => pAssert (x7.length = 11) <| pNew (lay (reps 1 (zc Try.prog 34)) [(0, (.agg x7.toArray))]) fun b8 => pAppend 11 128 x2 ⟨(some ⟨b8, 0, none⟩), 1, 1⟩ fun s9 => k4 (s9, ()))
  (k4 (x2, ())))
  (fun s => inodes_Table_All_j1 k1 x3 s.1))
  (K (.slice x2.base x2.len x2.cap))
def inodes_Table_All (t_0 : Option Addr) (KP K : Value → Pr) : Pr :=
  pLoop (σ := Sl × Int × Unit) (fun s k1 => inodes_Table_All_l2 t_0 KP K k1 s.1 s.2.1) (⟨none, 0, 0⟩, 1, ())
def inodes_Table_All_ann : Ann := .two (.none) (.two (.none) (.two (.two (.none) (.sub (.loop [(3, .slice), (4, (.int .i64))] (.two (.two (.none) (.two (.none) (.none))) (.join (.sub (.two (.none) (.two (.none) (.two (.none) (.none))))) (.none) [(3, .slice)]))))) (.two (.none) (.none))))
theorem inodes_Table_All_eq (t_0 : Option Addr) (KP K : Value → Pr) : vcBody Try.prog Try.f18 (Try.f18.body.getD .skip) inodes_Table_All_ann [(.pointer t_0)] KP K = inodes_Table_All t_0 KP K := by kernel_rfl
theorem inodes_Table_All_call (t_0 : Option Addr) {KP K : Value → Pr} {h : Heap} (s : inodes_Table_All t_0 (fgt KP) (fgt K) h) : WpCall Try.prog 18 [(.pointer t_0)].toArray KP K h :=
  WpCall.of_vc Try.mixed Try.func18 (by kernel_rfl) Try.call18 inodes_Table_All_ann (by rw [inodes_Table_All_eq]; exact s)

end Go.Proofs.Ytkbcneomjkfheaa

set_option linter.unusedVariables false
namespace Go.Proofs.Ytkbcneomjkfheaa
open Go.Hl
/- halberd/halberdref21.Sames -/
def ref21_Sames_l1 (a_0 : Sl) (b_1 : Sl) (KP : Value → Pr) (K : Value → Pr) (k1 : Int × Unit → Pr) (x2 : Int) : Pr :=
  pIf (decide ((x2 : Int) < (a_0.len : Int)))
  (pIdx x2 a_0.len <| pSome a_0.base fun a3 => pIdx x2 b_1.len <| pSome b_1.base fun a4 => pLdA 11 (a3.add ((x2 : Int).toNat * 11)) fun x5 => pLdA 11 (a4.add ((x2 : Int).toNat * 11)) fun x6 => pCall Try.prog 40 [(.agg x5.toArray), (.agg x6.toArray)] KP (.one .bool) fun (r7 : Bool) => pIf (!r7)
  (K (.bool false))
  (k1 ((IntKind.i64.wrap (x2 + 1)), ())))
  (K (.bool true))
def ref21_Sames (a_0 : Sl) (b_1 : Sl) (KP K : Value → Pr) : Pr :=
  pIf (((a_0.len : Int) : Int) != (b_1.len : Int))
  (K (.bool false))
  (pLoop (σ := Int × Unit) (fun s k1 => ref21_Sames_l1 a_0 b_1 KP K k1 s.1) (0, ()))
def ref21_Sames_ann : Ann := .two (.none) (.two (.two (.none) (.two (.two (.none) (.none)) (.none))) (.two (.two (.none) (.sub (.loop [(5, (.int .i64))] (.two (.two (.none) (.two (.none) (.none))) (.two (.sub (.two (.ord [0, 1, 2, 4, 5, 6, 3, 7, 8, 9]) (.two (.two (.none) (.none)) (.none)))) (.none)))))) (.two (.none) (.none))))
theorem ref21_Sames_eq (a_0 : Sl) (b_1 : Sl) (KP K : Value → Pr) : vcBody Try.prog Try.f19 (Try.f19.body.getD .skip) ref21_Sames_ann [(.slice a_0.base a_0.len a_0.cap), (.slice b_1.base b_1.len b_1.cap)] KP K = ref21_Sames a_0 b_1 KP K := by kernel_rfl
theorem ref21_Sames_call (a_0 : Sl) (b_1 : Sl) {KP K : Value → Pr} {h : Heap} (s : ref21_Sames a_0 b_1 (fgt KP) (fgt K) h) : WpCall Try.prog 19 [(.slice a_0.base a_0.len a_0.cap), (.slice b_1.base b_1.len b_1.cap)].toArray KP K h :=
  WpCall.of_vc Try.mixed Try.func19 (by kernel_rfl) Try.call19 ref21_Sames_ann (by rw [ref21_Sames_eq]; exact s)

/- (*halberd/halberdref21.Table).All -/
def ref21_Table_All_j1 (k1 : Sl × Int × Unit → Pr) (x3 : Int) (x11 : Sl) : Pr :=
  k1 (x11, (IntKind.i64.wrap (x3 + 1)), ())
def ref21_Table_All_l2 (t_0 : Option Addr) (K : Value → Pr) (k1 : Sl × Int × Unit → Pr) (x2 : Sl) (x3 : Int) : Pr :=
  pIf (decide ((x3 : Int) ≤ 24))
  (pJoin (σ := Sl × Unit)
  (fun k4 => pSome t_0 fun a5 => pIdx x3 25 <| pLd (.int .i64) (((a5.add 0).add ((x3 : Int).toNat * 11)).add 2) fun (x6 : Int) => pIf ((x6 : Int) != 0)
  (pSome t_0 fun a7 => pIdx x3 25 <| pLdA 11 ((a7.add 0).add ((x3 : Int).toNat * 11)) fun x8 => pAssert (x8.length = 11) <| pNew (lay (reps 1 (zc Try.prog 34)) [(0, (.agg x8.toArray))]) fun b9 => pAppend 11 128 x2 ⟨(some ⟨b9, 0, none⟩), 1, 1⟩ fun s10 => k4 (s10, ()))
  (k4 (x2, ())))
  (fun s => ref21_Table_All_j1 k1 x3 s.1))
  (K (.slice x2.base x2.len x2.cap))
def ref21_Table_All (t_0 : Option Addr) (KP K : Value → Pr) : Pr :=
  pLoop (σ := Sl × Int × Unit) (fun s k1 => ref21_Table_All_l2 t_0 K k1 s.1 s.2.1) (⟨none, 0, 0⟩, 1, ())
def ref21_Table_All_ann : Ann := .two (.none) (.two (.none) (.two (.two (.none) (.sub (.loop [(3, .slice), (4, (.int .i64))] (.two (.two (.none) (.two (.none) (.none))) (.join (.sub (.two (.none) (.two (.none) (.none)))) (.none) [(3, .slice)]))))) (.two (.none) (.none))))
theorem ref21_Table_All_eq (t_0 : Option Addr) (KP K : Value → Pr) : vcBody Try.prog Try.f20 (Try.f20.body.getD .skip) ref21_Table_All_ann [(.pointer t_0)] KP K = ref21_Table_All t_0 KP K := by kernel_rfl
theorem ref21_Table_All_call (t_0 : Option Addr) {KP K : Value → Pr} {h : Heap} (s : ref21_Table_All t_0 (fgt KP) (fgt K) h) : WpCall Try.prog 20 [(.pointer t_0)].toArray KP K h :=
  WpCall.of_vc Try.mixed Try.func20 (by kernel_rfl) Try.call20 ref21_Table_All_ann (by rw [ref21_Table_All_eq]; exact s)

/- (*halberd/inodes.Table).Copy -/
def inodes_Table_Copy_l1 (KP : Value → Pr) (K : Value → Pr) (b4 : Nat) (x6 : List Value) (k7 : Int × Unit → Pr) (x8 : Int) : Pr :=
  pIf (decide ((x8 : Int) < 25))
  (pIdx x8 25 <| pNew (zc Try.prog 34) fun b9 => pStA 11 ⟨b9, 0, none⟩ ((x6.drop ((x8 : Int).toNat * 11)).take 11) <| pSome (some ⟨b4, 0, none⟩) fun a10 => pLdA 11 ⟨b9, 0, none⟩ fun x11 => pCall Try.prog 31 [(.agg x11.toArray)] KP (.one .agg) fun (r12 : List Value) => pIdx x8 25 <| pStA 11 ((a10.add 0).add ((x8 : Int).toNat * 11)) r12 <| k7 ((IntKind.i64.wrap (x8 + 1)), ()))
  (K (.pointer (some ⟨b4, 0, none⟩)))
def inodes_Table_Copy (t_0 : Option Addr) (KP K : Value → Pr) : Pr :=
  pIf (t_0.isNone)
  (K (.pointer none))
  (pSome t_0 fun a1 => pLd .slice (a1.add 275) fun (x2 : Sl) => pCall Try.prog 41 [(.slice x2.base x2.len x2.cap)] KP (.one .slice) fun (r3 : Sl) => pNew (lay (zc Try.prog 59) [(275, (.slice r3.base r3.len r3.cap))]) fun b4 => pSome t_0 fun a5 => pLdA 275 (a5.add 0) fun x6 => pLoop (σ := Int × Unit) (fun s k7 => inodes_Table_Copy_l1 KP K b4 x6 k7 s.1) (0, ()))
def inodes_Table_Copy_ann : Ann := .two (.none) (.two (.two (.none) (.two (.two (.none) (.none)) (.none))) (.two (.none) (.two (.two (.none) (.sub (.loop [(19, (.int .i64))] (.two (.none) (.two (.two (.none) (.none)) (.two (.sub (.two (.none) (.ord [0, 1, 4, 5, 2, 3, 6, 7]))) (.none))))))) (.two (.none) (.none)))))
theorem inodes_Table_Copy_eq (t_0 : Option Addr) (KP K : Value → Pr) : vcBody Try.prog Try.f21 (Try.f21.body.getD .skip) inodes_Table_Copy_ann [(.pointer t_0)] KP K = inodes_Table_Copy t_0 KP K := by kernel_rfl
theorem inodes_Table_Copy_call (t_0 : Option Addr) {KP K : Value → Pr} {h : Heap} (s : inodes_Table_Copy t_0 (fgt KP) (fgt K) h) : WpCall Try.prog 21 [(.pointer t_0)].toArray KP K h :=
  WpCall.of_vc Try.mixed Try.func21 (by kernel_rfl) Try.call21 inodes_Table_Copy_ann (by rw [inodes_Table_Copy_eq]; exact s)

/- (*halberd/halberdref21.Table).Room -/
def ref21_Table_Room_j1 (k1 : Int × Int × Unit → Pr) (x3 : Int) (x7 : Int) : Pr :=
  k1 (x7, (IntKind.i64.wrap (x3 + 1)), ())
def ref21_Table_Room_l2 (t_0 : Option Addr) (K : Value → Pr) (k1 : Int × Int × Unit → Pr) (x2 : Int) (x3 : Int) : Pr :=
  pIf (decide ((x3 : Int) ≤ 24))
  (pJoin (σ := Int × Unit)
  (fun k4 => pSome t_0 fun a5 => pIdx x3 25 <| pLd (.int .i64) (((a5.add 0).add ((x3 : Int).toNat * 11)).add 2) fun (x6 : Int) => pIf ((x6 : Int) == 0)
  (k4 ((IntKind.i64.wrap (x2 + 1)), ()))
  (k4 (x2, ())))
  (fun s => ref21_Table_Room_j1 k1 x3 s.1))
  (K (.int .i64 x2))
def ref21_Table_Room (t_0 : Option Addr) (KP K : Value → Pr) : Pr :=
  pLoop (σ := Int × Int × Unit) (fun s k1 => ref21_Table_Room_l2 t_0 K k1 s.1 s.2.1) (0, 1, ())
def ref21_Table_Room_ann : Ann := .two (.none) (.two (.none) (.two (.two (.none) (.sub (.loop [(3, (.int .i64)), (4, (.int .i64))] (.two (.two (.none) (.two (.none) (.none))) (.join (.sub (.two (.none) (.two (.none) (.none)))) (.none) [(3, (.int .i64))]))))) (.two (.none) (.none))))
theorem ref21_Table_Room_eq (t_0 : Option Addr) (KP K : Value → Pr) : vcBody Try.prog Try.f22 (Try.f22.body.getD .skip) ref21_Table_Room_ann [(.pointer t_0)] KP K = ref21_Table_Room t_0 KP K := by kernel_rfl
theorem ref21_Table_Room_call (t_0 : Option Addr) {KP K : Value → Pr} {h : Heap} (s : ref21_Table_Room t_0 (fgt KP) (fgt K) h) : WpCall Try.prog 22 [(.pointer t_0)].toArray KP K h :=
  WpCall.of_vc Try.mixed Try.func22 (by kernel_rfl) Try.call22 ref21_Table_Room_ann (by rw [ref21_Table_Room_eq]; exact s)

/- (*halberd/inodes.Table).Find -/
def inodes_Table_Find_j1 (name_2 : ByteArray) (KP : Value → Pr) (K : Value → Pr) (r1 : Option Addr) (x5 : Bool) : Pr :=
  pIf x5
  (K (.tuple [(.int .i64 0), (.bool false)].toArray))
  (pSome r1 fun a6 => pLd .slice (a6.add 8) fun (x7 : Sl) => pCall Try.prog 42 [(.slice x7.base x7.len x7.cap), (.string name_2)] KP (.many [(.int .i64), .bool]) fun (r8 : Int × Bool × Unit) => pIf (!r8.2.1)
  (K (.tuple [(.int .i64 0), (.bool false)].toArray))
  (pSome r1 fun a9 => pLd .slice (a9.add 9) fun (x10 : Sl) => pIdx r8.1 x10.len <| pSome x10.base fun a11 => pLd (.int .i64) (a11.add ((r8.1 : Int).toNat * 1)) fun (x12 : Int) => K (.tuple [(.int .i64 x12), (.bool true)].toArray)))
def inodes_Table_Find (t_0 : Option Addr) (dir_1 : Int) (name_2 : ByteArray) (KP K : Value → Pr) : Pr :=
  pCall Try.prog 30 [(.pointer t_0), (.int .i64 dir_1)] KP (.one .ptr) fun (r1 : Option Addr) => pJoin (σ := Bool × Unit)
  (fun k2 => pIf (r1.isNone)
  (k2 (true, ()))
  (pSome r1 fun a3 => pLd (.int .i64) (a3.add 2) fun (x4 : Int) => k2 (((x4 : Int) != 2), ())))
  (fun s => inodes_Table_Find_j1 name_2 KP K r1 s.1)
def inodes_Table_Find_ann : Ann := .two (.none) (.two (.none) (.two (.join (.none) (.two (.two (.none) (.none)) (.none)) [(22, .bool)]) (.two (.none) (.two (.two (.none) (.two (.two (.none) (.none)) (.none))) (.two (.none) (.none))))))
theorem inodes_Table_Find_eq (t_0 : Option Addr) (dir_1 : Int) (name_2 : ByteArray) (KP K : Value → Pr) : vcBody Try.prog Try.f23 (Try.f23.body.getD .skip) inodes_Table_Find_ann [(.pointer t_0), (.int .i64 dir_1), (.string name_2)] KP K = inodes_Table_Find t_0 dir_1 name_2 KP K := by kernel_rfl
theorem inodes_Table_Find_call (t_0 : Option Addr) (dir_1 : Int) (name_2 : ByteArray) {KP K : Value → Pr} {h : Heap} (s : inodes_Table_Find t_0 dir_1 name_2 (fgt KP) (fgt K) h) : WpCall Try.prog 23 [(.pointer t_0), (.int .i64 dir_1), (.string name_2)].toArray KP K h :=
  WpCall.of_vc Try.mixed Try.func23 (by kernel_rfl) Try.call23 inodes_Table_Find_ann (by rw [inodes_Table_Find_eq]; exact s)

/- (*halberd/halberdref21.Table).Find -/
def ref21_Table_Find_l1 (t_0 : Option Addr) (dir_1 : Int) (name_2 : ByteArray) (K : Value → Pr) (k6 : Int × Unit → Pr) (x7 : Int) : Pr :=
  pSome t_0 fun a8 => pIdx dir_1 25 <| pLd .slice (((a8.add 0).add ((dir_1 : Int).toNat * 11)).add 8) fun (x9 : Sl) => pIf (decide ((x7 : Int) < (x9.len : Int)))
  (pSome t_0 fun a10 => pIdx dir_1 25 <| pLd .slice (((a10.add 0).add ((dir_1 : Int).toNat * 11)).add 8) fun (x11 : Sl) => pIdx x7 x11.len <| pSome x11.base fun a12 => pLd .str (a12.add ((x7 : Int).toNat * 1)) fun (x13 : ByteArray) => pIf (strEq x13 name_2)
  (pSome t_0 fun a14 => pIdx dir_1 25 <| pLd .slice (((a14.add 0).add ((dir_1 : Int).toNat * 11)).add 9) fun (x15 : Sl) => pIdx x7 x15.len <| pSome x15.base fun a16 => pLd (.int .i64) (a16.add ((x7 : Int).toNat * 1)) fun (x17 : Int) => K (.int .i64 x17))
  (k6 ((IntKind.i64.wrap (x7 + 1)), ())))
  (K (.int .i64 0))
def ref21_Table_Find_j2 (t_0 : Option Addr) (dir_1 : Int) (name_2 : ByteArray) (K : Value → Pr) (x5 : Bool) : Pr :=
  pIf x5
  (K (.int .i64 0))
  (pLoop (σ := Int × Unit) (fun s k6 => ref21_Table_Find_l1 t_0 dir_1 name_2 K k6 s.1) (0, ()))
def ref21_Table_Find (t_0 : Option Addr) (dir_1 : Int) (name_2 : ByteArray) (KP K : Value → Pr) : Pr :=
  pJoin (σ := Bool × Unit)
  (fun k1 => pCall Try.prog 39 [(.pointer t_0), (.int .i64 dir_1)] KP (.one .bool) fun (r2 : Bool) => pIf (!r2)
  (k1 (true, ()))
  (pSome t_0 fun a3 => pIdx dir_1 25 <| pLd (.int .i64) (((a3.add 0).add ((dir_1 : Int).toNat * 11)).add 2) fun (x4 : Int) => k1 (((x4 : Int) != 2), ())))
  (fun s => ref21_Table_Find_j2 t_0 dir_1 name_2 K s.1)
def ref21_Table_Find_ann : Ann := .two (.none) (.two (.join (.none) (.two (.two (.none) (.none)) (.none)) [(21, .bool)]) (.two (.two (.none) (.sub (.loop [(7, (.int .i64))] (.two (.two (.none) (.two (.none) (.none))) (.two (.sub (.two (.none) (.two (.two (.none) (.none)) (.none)))) (.none)))))) (.two (.none) (.none))))
theorem ref21_Table_Find_eq (t_0 : Option Addr) (dir_1 : Int) (name_2 : ByteArray) (KP K : Value → Pr) : vcBody Try.prog Try.f24 (Try.f24.body.getD .skip) ref21_Table_Find_ann [(.pointer t_0), (.int .i64 dir_1), (.string name_2)] KP K = ref21_Table_Find t_0 dir_1 name_2 KP K := by kernel_rfl
theorem ref21_Table_Find_call (t_0 : Option Addr) (dir_1 : Int) (name_2 : ByteArray) {KP K : Value → Pr} {h : Heap} (s : ref21_Table_Find t_0 dir_1 name_2 (fgt KP) (fgt K) h) : WpCall Try.prog 24 [(.pointer t_0), (.int .i64 dir_1), (.string name_2)].toArray KP K h :=
  WpCall.of_vc Try.mixed Try.func24 (by kernel_rfl) Try.call24 ref21_Table_Find_ann (by rw [ref21_Table_Find_eq]; exact s)

/- (*halberd/inodes.Table).Enter -/
def inodes_Table_Enter_j1 (K : Value → Pr) : Pr :=
  K (.int .i64 0)
def inodes_Table_Enter_j2 (dir_1 : Int) (name_2 : ByteArray) (ino_3 : Int) (KP : Value → Pr) (K : Value → Pr) (r1 : Option Addr) (r2 : Option Addr) (x5 : Bool) : Pr :=
  pIf x5
  (K (.int .i64 2))
  (pSome r1 fun a6 => pLd (.int .i64) (a6.add 2) fun (x7 : Int) => pIf ((x7 : Int) != 2)
  (K (.int .i64 20))
  (pSome r1 fun a8 => pLd .slice (a8.add 8) fun (x9 : Sl) => pCall Try.prog 42 [(.slice x9.base x9.len x9.cap), (.string name_2)] KP (.many [(.int .i64), .bool]) fun (r10 : Int × Bool × Unit) => pIf r10.2.1
  (K (.int .i64 17))
  (pSome r1 fun a11 => pLd .slice (a11.add 8) fun (x12 : Sl) => pIf (decide (((x12.len : Int) : Int) ≥ 8))
  (K (.int .i64 28))
  (pSome r2 fun a13 => pLd (.int .i64) (a13.add 6) fun (x14 : Int) => pIf (decide ((x14 : Int) ≥ 8))
  (K (.int .i64 31))
  (pSome r1 fun a15 => pSome r1 fun a16 => pLd .slice (a15.add 8) fun (x17 : Sl) => pLd .slice (a16.add 9) fun (x18 : Sl) => pNew (lay (reps 1 (zc Try.prog 9)) [(0, (.string name_2))]) fun b19 => pAnd (pNew (lay (reps 1 (zc Try.prog 3)) [(0, (.int .i64 ino_3))]) fun b20 => T) <| pCall Try.prog 43 [(.slice x17.base x17.len x17.cap), (.int .i64 r10.1), (.slice (some ⟨b19, 0, none⟩) 1 1)] KP (.one .slice) fun (r21 : Sl) => pKeep (loadF Try.prog 32 (.pointer (some (a16.add 9))) (.slice x18.base x18.len x18.cap)) <| pNew (lay (reps 1 (zc Try.prog 3)) [(0, (.int .i64 ino_3))]) fun b22 => pCall Try.prog 44 [(.slice x18.base x18.len x18.cap), (.int .i64 r10.1), (.slice (some ⟨b22, 0, none⟩) 1 1)] KP (.one .slice) fun (r23 : Sl) => pSome r1 fun a24 => pSt (a24.add 8) (.slice r21.base r21.len r21.cap) <| pSome r1 fun a25 => pSt (a25.add 9) (.slice r23.base r23.len r23.cap) <| pSome r2 fun a26 => pLd (.int .i64) (a26.add 6) fun (x27 : Int) => pSome r2 fun a28 => pSt (a28.add 6) (.int .i64 (IntKind.i64.wrap (x27 + 1))) <| pJoin (σ := Unit)
  (fun k29 => pSome r2 fun a30 => pLd (.int .i64) (a30.add 2) fun (x31 : Int) => pIf ((x31 : Int) == 2)
  (pSome r2 fun a32 => pSt (a32.add 10) (.int .i64 dir_1) <| k29 (()))
  (k29 (())))
  (fun s => inodes_Table_Enter_j1 K))))))
def inodes_Table_Enter (t_0 : Option Addr) (dir_1 : Int) (name_2 : ByteArray) (ino_3 : Int) (KP K : Value → Pr) : Pr :=
  pCall Try.prog 30 [(.pointer t_0), (.int .i64 dir_1)] KP (.one .ptr) fun (r1 : Option Addr) => pCall Try.prog 30 [(.pointer t_0), (.int .i64 ino_3)] KP (.one .ptr) fun (r2 : Option Addr) => pCall Try.prog 9 [(.string name_2)] KP (.one .bool) fun (r3 : Bool) => pIf (!r3)
  (K (.int .i64 22))
  (pJoin (σ := Bool × Unit)
  (fun k4 => pIf (r1.isNone)
  (k4 (true, ()))
  (k4 ((r2.isNone), ())))
  (fun s => inodes_Table_Enter_j2 dir_1 name_2 ino_3 KP K r1 r2 s.1))
def inodes_Table_Enter_ann : Ann := .two (.none) (.two (.none) (.two (.sub (.two (.none) (.two (.two (.none) (.none)) (.join (.none) (.two (.two (.none) (.none)) (.two (.none) (.two (.two (.none) (.none)) (.none)))) [(23, .bool)])))) (.two (.none) (.two (.sub (.two (.none) (.two (.two (.none) (.none)) (.two (.none) (.two (.two (.none) (.none)) (.two (.none) (.two (.two (.none) (.none)) (.none)))))))) (.two (.ord [0, 1, 2, 3, 4, 6, 7, 10, 11, 12, 14, 15, 5, 13, 8, 9, 16, 17, 18, 19, 20, 21, 22, 23]) (.two (.none) (.join (.two (.none) (.two (.none) (.none))) (.two (.none) (.none)) [])))))))
theorem inodes_Table_Enter_eq (t_0 : Option Addr) (dir_1 : Int) (name_2 : ByteArray) (ino_3 : Int) (KP K : Value → Pr) : vcBody Try.prog Try.f25 (Try.f25.body.getD .skip) inodes_Table_Enter_ann [(.pointer t_0), (.int .i64 dir_1), (.string name_2), (.int .i64 ino_3)] KP K = inodes_Table_Enter t_0 dir_1 name_2 ino_3 KP K := by kernel_rfl
theorem inodes_Table_Enter_call (t_0 : Option Addr) (dir_1 : Int) (name_2 : ByteArray) (ino_3 : Int) {KP K : Value → Pr} {h : Heap} (s : inodes_Table_Enter t_0 dir_1 name_2 ino_3 (fgt KP) (fgt K) h) : WpCall Try.prog 25 [(.pointer t_0), (.int .i64 dir_1), (.string name_2), (.int .i64 ino_3)].toArray KP K h :=
  WpCall.of_vc Try.mixed Try.func25 (by kernel_rfl) Try.call25 inodes_Table_Enter_ann (by rw [inodes_Table_Enter_eq]; exact s)

/- (*halberd/inodes.Table).Leave -/
def inodes_Table_Leave_j1 (K : Value → Pr) (x10 : Int) : Pr :=
  K (.tuple [(.int .i64 x10), (.int .i64 0)].toArray)
def inodes_Table_Leave (t_0 : Option Addr) (dir_1 : Int) (name_2 : ByteArray) (KP K : Value → Pr) : Pr :=
  pCall Try.prog 30 [(.pointer t_0), (.int .i64 dir_1)] KP (.one .ptr) fun (r1 : Option Addr) => pIf (r1.isNone)
  (K (.tuple [(.int .i64 0), (.int .i64 2)].toArray))
  (pSome r1 fun a2 => pLd (.int .i64) (a2.add 2) fun (x3 : Int) => pIf ((x3 : Int) != 2)
  (K (.tuple [(.int .i64 0), (.int .i64 20)].toArray))
  (pSome r1 fun a4 => pLd .slice (a4.add 8) fun (x5 : Sl) => pCall Try.prog 42 [(.slice x5.base x5.len x5.cap), (.string name_2)] KP (.many [(.int .i64), .bool]) fun (r6 : Int × Bool × Unit) => pIf (!r6.2.1)
  (K (.tuple [(.int .i64 0), (.int .i64 2)].toArray))
  (pSome r1 fun a7 => pLd .slice (a7.add 9) fun (x8 : Sl) => pIdx r6.1 x8.len <| pSome x8.base fun a9 => pLd (.int .i64) (a9.add ((r6.1 : Int).toNat * 1)) fun (x10 : Int) => pSome r1 fun a11 => pSome r1 fun a12 => pLd .slice (a11.add 8) fun (x13 : Sl) => pLd .slice (a12.add 9) fun (x14 : Sl) => pCall Try.prog 45 [(.slice x13.base x13.len x13.cap), (.int .i64 r6.1), (.int .i64 (IntKind.i64.wrap (r6.1 + 1)))] KP (.one .slice) fun (r15 : Sl) => pKeep (loadF Try.prog 32 (.pointer (some (a12.add 9))) (.slice x14.base x14.len x14.cap)) <| pCall Try.prog 46 [(.slice x14.base x14.len x14.cap), (.int .i64 r6.1), (.int .i64 (IntKind.i64.wrap (r6.1 + 1)))] KP (.one .slice) fun (r16 : Sl) => pSome r1 fun a17 => pSt (a17.add 8) (.slice r15.base r15.len r15.cap) <| pSome r1 fun a18 => pSt (a18.add 9) (.slice r16.base r16.len r16.cap) <| pJoin (σ := Unit)
  (fun k19 => pCall Try.prog 30 [(.pointer t_0), (.int .i64 x10)] KP (.one .ptr) fun (r20 : Option Addr) => pIf (!r20.isNone)
  (pSome r20 fun a21 => pLd (.int .i64) (a21.add 6) fun (x22 : Int) => pSome r20 fun a23 => pSt (a23.add 6) (.int .i64 (IntKind.i64.wrap (x22 - 1))) <| k19 (()))
  (k19 (())))
  (fun s => inodes_Table_Leave_j1 K x10))))
def inodes_Table_Leave_ann : Ann := .two (.none) (.two (.none) (.two (.sub (.two (.none) (.two (.two (.none) (.none)) (.two (.none) (.two (.two (.none) (.none)) (.none)))))) (.two (.none) (.two (.two (.none) (.two (.two (.none) (.none)) (.none))) (.two (.none) (.two (.ord [0, 1, 2, 3, 4, 6, 7, 8, 10, 11, 12, 14, 15, 16, 5, 13, 9, 17, 18, 19, 20, 21, 22, 23]) (.join (.two (.none) (.two (.none) (.two (.none) (.none)))) (.two (.none) (.none)) [])))))))
theorem inodes_Table_Leave_eq (t_0 : Option Addr) (dir_1 : Int) (name_2 : ByteArray) (KP K : Value → Pr) : vcBody Try.prog Try.f26 (Try.f26.body.getD .skip) inodes_Table_Leave_ann [(.pointer t_0), (.int .i64 dir_1), (.string name_2)] KP K = inodes_Table_Leave t_0 dir_1 name_2 KP K := by kernel_rfl
theorem inodes_Table_Leave_call (t_0 : Option Addr) (dir_1 : Int) (name_2 : ByteArray) {KP K : Value → Pr} {h : Heap} (s : inodes_Table_Leave t_0 dir_1 name_2 (fgt KP) (fgt K) h) : WpCall Try.prog 26 [(.pointer t_0), (.int .i64 dir_1), (.string name_2)].toArray KP K h :=
  WpCall.of_vc Try.mixed Try.func26 (by kernel_rfl) Try.call26 inodes_Table_Leave_ann (by rw [inodes_Table_Leave_eq]; exact s)

end Go.Proofs.Ytkbcneomjkfheaa

set_option linter.unusedVariables false
namespace Go.Proofs.Ytkbcneomjkfheaa
open Go.Hl
/- strings.ContainsAny -/
def strings_ContainsAny (s_0 : ByteArray) (chars_1 : ByteArray) (KP K : Value → Pr) : Pr :=
  pCall Try.prog 47 [(.string s_0), (.string chars_1)] KP (.one (.int .i64)) fun (r1 : Int) => K (.bool (decide ((r1 : Int) ≥ 0)))
def strings_ContainsAny_ann : Ann := .two (.none) (.two (.none) (.none))
theorem strings_ContainsAny_eq (s_0 : ByteArray) (chars_1 : ByteArray) (KP K : Value → Pr) : vcBody Try.prog Try.f27 (Try.f27.body.getD .skip) strings_ContainsAny_ann [(.string s_0), (.string chars_1)] KP K = strings_ContainsAny s_0 chars_1 KP K := by kernel_rfl
theorem strings_ContainsAny_call (s_0 : ByteArray) (chars_1 : ByteArray) {KP K : Value → Pr} {h : Heap} (s : strings_ContainsAny s_0 chars_1 (fgt KP) (fgt K) h) : WpCall Try.prog 27 [(.string s_0), (.string chars_1)].toArray KP K h :=
  WpCall.of_vc Try.mixed Try.func27 (by kernel_rfl) Try.call27 strings_ContainsAny_ann (by rw [strings_ContainsAny_eq]; exact s)

/- container/heap.Push -/
def container_heap_Push (h_0 : Value) (x_1 : Value) (KP K : Value → Pr) : Pr :=
  pInvoke Try.prog KP "Push" h_0 [x_1] (.many []) fun (r1 : Unit) => pInvoke Try.prog KP "Len" h_0 [] (.one (.int .i64)) fun (r2 : Int) => pCall Try.prog 48 [h_0, (.int .i64 (IntKind.i64.wrap (r2 - 1)))] KP (.many []) fun (r3 : Unit) => K (.tuple [].toArray)
def container_heap_Push_ann : Ann := .two (.none) (.none)
theorem container_heap_Push_eq (h_0 : Value) (x_1 : Value) (KP K : Value → Pr) : vcBody Try.prog Try.f28 (Try.f28.body.getD .skip) container_heap_Push_ann [h_0, x_1] KP K = container_heap_Push h_0 x_1 KP K := by kernel_rfl
theorem container_heap_Push_call (h_0 : Value) (x_1 : Value) {KP K : Value → Pr} {h : Heap} (s : container_heap_Push h_0 x_1 (fgt KP) (fgt K) h) : WpCall Try.prog 28 [h_0, x_1].toArray KP K h :=
  WpCall.of_vc Try.mixed Try.func28 (by kernel_rfl) Try.call28 container_heap_Push_ann (by rw [container_heap_Push_eq]; exact s)

/- container/heap.Pop -/
def container_heap_Pop (h_0 : Value) (KP K : Value → Pr) : Pr :=
  pInvoke Try.prog KP "Len" h_0 [] (.one (.int .i64)) fun (r1 : Int) => pInvoke Try.prog KP "Swap" h_0 [(.int .i64 0), (.int .i64 (IntKind.i64.wrap (r1 - 1)))] (.many []) fun (r2 : Unit) => pCall Try.prog 49 [h_0, (.int .i64 0), (.int .i64 (IntKind.i64.wrap (r1 - 1)))] KP (.one .bool) fun (r3 : Bool) => pInvoke Try.prog KP "Pop" h_0 [] (.one .any) fun (r4 : Value) => K r4
def container_heap_Pop_ann : Ann := .two (.none) (.two (.none) (.two (.none) (.two (.none) (.two (.none) (.none)))))
theorem container_heap_Pop_eq (h_0 : Value) (KP K : Value → Pr) : vcBody Try.prog Try.f29 (Try.f29.body.getD .skip) container_heap_Pop_ann [h_0] KP K = container_heap_Pop h_0 KP K := by kernel_rfl
theorem container_heap_Pop_call (h_0 : Value) {KP K : Value → Pr} {h : Heap} (s : container_heap_Pop h_0 (fgt KP) (fgt K) h) : WpCall Try.prog 29 [h_0].toArray KP K h :=
  WpCall.of_vc Try.mixed Try.func29 (by kernel_rfl) Try.call29 container_heap_Pop_ann (by rw [container_heap_Pop_eq]; exact s)

/- (*halberd/inodes.Table).at -/
def inodes_Table_at_j1 (t_0 : Option Addr) (ino_1 : Int) (K : Value → Pr) (x4 : Bool) : Pr :=
  pIf x4
  (K (.pointer none))
  (pSome t_0 fun a5 => pIdx ino_1 25 <| K (.pointer (some ((a5.add 0).add ((ino_1 : Int).toNat * 11)))))
def inodes_Table_at (t_0 : Option Addr) (ino_1 : Int) (KP K : Value → Pr) : Pr :=
  pJoin (σ := Bool × Unit)
  (fun k1 => pIf (t_0.isNone)
  (k1 (true, ()))
  (pIf (decide ((ino_1 : Int) < 1))
  (k1 (true, ()))
  (pIf (decide ((ino_1 : Int) ≥ 25))
  (k1 (true, ()))
  (pSome t_0 fun a2 => pIdx ino_1 25 <| pLd (.int .i64) (((a2.add 0).add ((ino_1 : Int).toNat * 11)).add 2) fun (x3 : Int) => k1 (((x3 : Int) == 0), ())))))
  (fun s => inodes_Table_at_j1 t_0 ino_1 K s.1)
def inodes_Table_at_ann : Ann := .two (.none) (.two (.join (.none) (.two (.two (.none) (.none)) (.none)) [(24, .bool)]) (.two (.none) (.none)))
theorem inodes_Table_at_eq (t_0 : Option Addr) (ino_1 : Int) (KP K : Value → Pr) : vcBody Try.prog Try.f30 (Try.f30.body.getD .skip) inodes_Table_at_ann [(.pointer t_0), (.int .i64 ino_1)] KP K = inodes_Table_at t_0 ino_1 KP K := by kernel_rfl
theorem inodes_Table_at_call (t_0 : Option Addr) (ino_1 : Int) {KP K : Value → Pr} {h : Heap} (s : inodes_Table_at t_0 ino_1 (fgt KP) (fgt K) h) : WpCall Try.prog 30 [(.pointer t_0), (.int .i64 ino_1)].toArray KP K h :=
  WpCall.of_vc Try.mixed Try.func30 (by kernel_rfl) Try.call30 inodes_Table_at_ann (by rw [inodes_Table_at_eq]; exact s)

/- halberd/inodes.own -/
def inodes_own (x_0 : List Value) (KP K : Value → Pr) : Pr :=
  pNew x_0 fun b1 => pNew (zc Try.prog 34) fun b2 => pLd .slice ((⟨b1, 0, none⟩ : Addr).add 8) fun (x3 : Sl) => pLd .slice ((⟨b1, 0, none⟩ : Addr).add 9) fun (x4 : Sl) => pCall Try.prog 50 [(.slice x3.base x3.len x3.cap)] KP (.one .slice) fun (r5 : Sl) => pKeep (loadF Try.prog 32 (.pointer (some ((⟨b1, 0, none⟩ : Addr).add 9))) (.slice x4.base x4.len x4.cap)) <| pCall Try.prog 51 [(.slice x4.base x4.len x4.cap)] KP (.one .slice) fun (r6 : Sl) => pSt ((⟨b1, 0, none⟩ : Addr).add 8) (.slice r5.base r5.len r5.cap) <| pSt ((⟨b1, 0, none⟩ : Addr).add 9) (.slice r6.base r6.len r6.cap) <| pLdA 11 ⟨b1, 0, none⟩ fun x7 => pStA 11 ⟨b2, 0, none⟩ x7 <| pLdA 11 ⟨b2, 0, none⟩ fun x8 => K (.agg x8.toArray)
def inodes_own_ann : Ann := .two (.none) (.two (.ord [0, 3, 1, 4, 2, 6, 5, 7, 8, 9]) (.two (.none) (.none)))
theorem inodes_own_eq (x_0 : List Value) (KP K : Value → Pr) : vcBody Try.prog Try.f31 (Try.f31.body.getD .skip) inodes_own_ann [(.agg x_0.toArray)] KP K = inodes_own x_0 KP K := by kernel_rfl
theorem inodes_own_call (x_0 : List Value) {KP K : Value → Pr} {h : Heap} (s : inodes_own x_0 (fgt KP) (fgt K) h) : WpCall Try.prog 31 [(.agg x_0.toArray)].toArray KP K h :=
  WpCall.of_vc Try.mixed Try.func31 (by kernel_rfl) Try.call31 inodes_own_ann (by rw [inodes_own_eq]; exact s)

/- (*halberd/halberdref21.Table).Add -/
def ref21_Table_Add_l1 (t_0 : Option Addr) (kind_1 : Int) (mode_2 : Int) (uid_3 : Int) (gid_4 : Int) (K : Value → Pr) (k3 : Int × Unit → Pr) (x4 : Int) : Pr :=
  pIf (decide ((x4 : Int) ≤ 24))
  (pSome t_0 fun a5 => pIdx x4 25 <| pLd (.int .i64) (((a5.add 0).add ((x4 : Int).toNat * 11)).add 2) fun (x6 : Int) => pIf ((x6 : Int) == 0)
  (pSome t_0 fun a7 => pIdx x4 25 <| pSome t_0 fun a8 => pLd (.int .i64) (((a7.add 0).add ((x4 : Int).toNat * 11)).add 1) fun (x9 : Int) => pIdx x4 25 <| pStA 11 ((a8.add 0).add ((x4 : Int).toNat * 11)) (lay (zc Try.prog 34) [(0, (.int .i64 x4)), (1, (.int .i64 (IntKind.i64.wrap (x9 + 1)))), (2, (.int .i64 kind_1)), (3, (.int .i64 mode_2)), (4, (.int .i64 uid_3)), (5, (.int .i64 gid_4))]) <| K (.tuple [(.int .i64 x4), (.int .i64 0)].toArray))
  (k3 ((IntKind.i64.wrap (x4 + 1)), ())))
  (K (.tuple [(.int .i64 0), (.int .i64 28)].toArray))
def ref21_Table_Add_j2 (t_0 : Option Addr) (kind_1 : Int) (mode_2 : Int) (uid_3 : Int) (gid_4 : Int) (K : Value → Pr) (x2 : Bool) : Pr :=
  pIf x2
  (K (.tuple [(.int .i64 0), (.int .i64 22)].toArray))
  (pLoop (σ := Int × Unit) (fun s k3 => ref21_Table_Add_l1 t_0 kind_1 mode_2 uid_3 gid_4 K k3 s.1) (2, ()))
def ref21_Table_Add (t_0 : Option Addr) (kind_1 : Int) (mode_2 : Int) (uid_3 : Int) (gid_4 : Int) (KP K : Value → Pr) : Pr :=
  pJoin (σ := Bool × Unit)
  (fun k1 => pIf (decide ((kind_1 : Int) < 1))
  (k1 (true, ()))
  (k1 ((decide ((kind_1 : Int) > 3)), ())))
  (fun s => ref21_Table_Add_j2 t_0 kind_1 mode_2 uid_3 gid_4 K s.1)
def ref21_Table_Add_ann : Ann := .two (.none) (.two (.join (.none) (.two (.two (.none) (.none)) (.none)) [(18, .bool)]) (.two (.two (.none) (.sub (.loop [(12, (.int .i64))] (.two (.two (.none) (.two (.none) (.none))) (.two (.sub (.two (.none) (.two (.two (.ord [0, 1, 2, 3, 4, 5, 6, 7, 8, 11, 12, 13, 14, 16, 17, 9, 10, 15, 18, 19]) (.two (.none) (.none))) (.none)))) (.none)))))) (.two (.none) (.none))))
theorem ref21_Table_Add_eq (t_0 : Option Addr) (kind_1 : Int) (mode_2 : Int) (uid_3 : Int) (gid_4 : Int) (KP K : Value → Pr) : vcBody Try.prog Try.f32 (Try.f32.body.getD .skip) ref21_Table_Add_ann [(.pointer t_0), (.int .i64 kind_1), (.int .i64 mode_2), (.int .i64 uid_3), (.int .i64 gid_4)] KP K = ref21_Table_Add t_0 kind_1 mode_2 uid_3 gid_4 KP K := by kernel_rfl
theorem ref21_Table_Add_call (t_0 : Option Addr) (kind_1 : Int) (mode_2 : Int) (uid_3 : Int) (gid_4 : Int) {KP K : Value → Pr} {h : Heap} (s : ref21_Table_Add t_0 kind_1 mode_2 uid_3 gid_4 (fgt KP) (fgt K) h) : WpCall Try.prog 32 [(.pointer t_0), (.int .i64 kind_1), (.int .i64 mode_2), (.int .i64 uid_3), (.int .i64 gid_4)].toArray KP K h :=
  WpCall.of_vc Try.mixed Try.func32 (by kernel_rfl) Try.call32 ref21_Table_Add_ann (by rw [ref21_Table_Add_eq]; exact s)

/- (*halberd/halberdref21.Table).Free -/
def ref21_Table_Free (t_0 : Option Addr) (ino_1 : Int) (KP K : Value → Pr) : Pr :=
  pCall Try.prog 39 [(.pointer t_0), (.int .i64 ino_1)] KP (.one .bool) fun (r1 : Bool) => pIf (!r1)
  (K (.int .i64 2))
  (pIf ((ino_1 : Int) == 1)
  (K (.int .i64 22))
  (pSome t_0 fun a2 => pIdx ino_1 25 <| pSome t_0 fun a3 => pLd (.int .i64) (((a2.add 0).add ((ino_1 : Int).toNat * 11)).add 1) fun (x4 : Int) => pIdx ino_1 25 <| pStA 11 ((a3.add 0).add ((ino_1 : Int).toNat * 11)) (lay (zc Try.prog 34) [(1, (.int .i64 x4))]) <| K (.int .i64 0)))
def ref21_Table_Free_ann : Ann := .two (.none) (.two (.two (.none) (.two (.two (.none) (.none)) (.none))) (.two (.two (.none) (.two (.two (.none) (.none)) (.none))) (.two (.ord [0, 1, 2, 3, 4, 5, 6, 7, 10, 11, 8, 9, 12, 13]) (.two (.none) (.none)))))
theorem ref21_Table_Free_eq (t_0 : Option Addr) (ino_1 : Int) (KP K : Value → Pr) : vcBody Try.prog Try.f33 (Try.f33.body.getD .skip) ref21_Table_Free_ann [(.pointer t_0), (.int .i64 ino_1)] KP K = ref21_Table_Free t_0 ino_1 KP K := by kernel_rfl
theorem ref21_Table_Free_call (t_0 : Option Addr) (ino_1 : Int) {KP K : Value → Pr} {h : Heap} (s : ref21_Table_Free t_0 ino_1 (fgt KP) (fgt K) h) : WpCall Try.prog 33 [(.pointer t_0), (.int .i64 ino_1)].toArray KP K h :=
  WpCall.of_vc Try.mixed Try.func33 (by kernel_rfl) Try.call33 ref21_Table_Free_ann (by rw [ref21_Table_Free_eq]; exact s)

/- (*halberd/halberdref21.Table).Enter -/
def ref21_Table_Enter_j1 (name_2 : ByteArray) (ino_3 : Int) (x14 : Sl) (x15 : Sl) (x16 : Bool) (k20 : Sl × Sl × Bool × Unit → Pr) (x26 : Bool) : Pr :=
  pIf x26
  (pNew (lay (reps 1 (zc Try.prog 9)) [(0, (.string name_2))]) fun b27 => pAppend 1 16 x14 ⟨(some ⟨b27, 0, none⟩), 1, 1⟩ fun s28 => pNew (lay (reps 1 (zc Try.prog 3)) [(0, (.int .i64 ino_3))]) fun b29 => pAppend 1 8 x15 ⟨(some ⟨b29, 0, none⟩), 1, 1⟩ fun s30 => k20 (s28, s30, true, ()))
  (k20 (x14, x15, x16, ()))
def ref21_Table_Enter_j2 (t_0 : Option Addr) (dir_1 : Int) (k13 : Sl × Sl × Bool × Int × Unit → Pr) (x17 : Int) (x31 : Sl) (x32 : Sl) (x33 : Bool) : Pr :=
  pSome t_0 fun a34 => pIdx dir_1 25 <| pLd .slice (((a34.add 0).add ((dir_1 : Int).toNat * 11)).add 8) fun (x35 : Sl) => pIdx x17 x35.len <| pSome x35.base fun a36 => pLd .str (a36.add ((x17 : Int).toNat * 1)) fun (x37 : ByteArray) => pNew (lay (reps 1 (zc Try.prog 9)) [(0, (.string x37))]) fun b38 => pAppend 1 16 x31 ⟨(some ⟨b38, 0, none⟩), 1, 1⟩ fun s39 => pSome t_0 fun a40 => pIdx dir_1 25 <| pLd .slice (((a40.add 0).add ((dir_1 : Int).toNat * 11)).add 9) fun (x41 : Sl) => pIdx x17 x41.len <| pSome x41.base fun a42 => pLd (.int .i64) (a42.add ((x17 : Int).toNat * 1)) fun (x43 : Int) => pNew (lay (reps 1 (zc Try.prog 3)) [(0, (.int .i64 x43))]) fun b44 => pAppend 1 8 x32 ⟨(some ⟨b44, 0, none⟩), 1, 1⟩ fun s45 => k13 (s39, s45, x33, (IntKind.i64.wrap (x17 + 1)), ())
def ref21_Table_Enter_j3 (K : Value → Pr) : Pr :=
  K (.int .i64 0)
def ref21_Table_Enter_j4 (t_0 : Option Addr) (dir_1 : Int) (ino_3 : Int) (K : Value → Pr) (x51 : Sl) (x52 : Sl) : Pr :=
  pSome t_0 fun a53 => pIdx dir_1 25 <| pSt (((a53.add 0).add ((dir_1 : Int).toNat * 11)).add 8) (.slice x51.base x51.len x51.cap) <| pSome t_0 fun a54 => pIdx dir_1 25 <| pSt (((a54.add 0).add ((dir_1 : Int).toNat * 11)).add 9) (.slice x52.base x52.len x52.cap) <| pSome t_0 fun a55 => pIdx ino_3 25 <| pSome t_0 fun a56 => pLd (.int .i64) (((a55.add 0).add ((ino_3 : Int).toNat * 11)).add 6) fun (x57 : Int) => pIdx ino_3 25 <| pSt (((a56.add 0).add ((ino_3 : Int).toNat * 11)).add 6) (.int .i64 (IntKind.i64.wrap (x57 + 1))) <| pJoin (σ := Unit)
  (fun k58 => pSome t_0 fun a59 => pIdx ino_3 25 <| pLd (.int .i64) (((a59.add 0).add ((ino_3 : Int).toNat * 11)).add 2) fun (x60 : Int) => pIf ((x60 : Int) == 2)
  (pSome t_0 fun a61 => pIdx ino_3 25 <| pSt (((a61.add 0).add ((ino_3 : Int).toNat * 11)).add 10) (.int .i64 dir_1) <| k58 (()))
  (k58 (())))
  (fun s => ref21_Table_Enter_j3 K)
def ref21_Table_Enter_l5 (t_0 : Option Addr) (dir_1 : Int) (name_2 : ByteArray) (ino_3 : Int) (K : Value → Pr) (k13 : Sl × Sl × Bool × Int × Unit → Pr) (x14 : Sl) (x15 : Sl) (x16 : Bool) (x17 : Int) : Pr :=
  pSome t_0 fun a18 => pIdx dir_1 25 <| pLd .slice (((a18.add 0).add ((dir_1 : Int).toNat * 11)).add 8) fun (x19 : Sl) => pIf (decide ((x17 : Int) < (x19.len : Int)))
  (pJoin (σ := Sl × Sl × Bool × Unit)
  (fun k20 => pJoin (σ := Bool × Unit)
  (fun k21 => pIf (!x16)
  (pSome t_0 fun a22 => pIdx dir_1 25 <| pLd .slice (((a22.add 0).add ((dir_1 : Int).toNat * 11)).add 8) fun (x23 : Sl) => pIdx x17 x23.len <| pSome x23.base fun a24 => pLd .str (a24.add ((x17 : Int).toNat * 1)) fun (x25 : ByteArray) => k21 ((Op.bytesLess name_2.toList x25.toList), ()))
  (k21 (false, ())))
  (fun s => ref21_Table_Enter_j1 name_2 ino_3 x14 x15 x16 k20 s.1))
  (fun s => ref21_Table_Enter_j2 t_0 dir_1 k13 x17 s.1 s.2.1 s.2.2.1))
  (pJoin (σ := Sl × Sl × Unit)
  (fun k46 => pIf (!x16)
  (pNew (lay (reps 1 (zc Try.prog 9)) [(0, (.string name_2))]) fun b47 => pAppend 1 16 x14 ⟨(some ⟨b47, 0, none⟩), 1, 1⟩ fun s48 => pNew (lay (reps 1 (zc Try.prog 3)) [(0, (.int .i64 ino_3))]) fun b49 => pAppend 1 8 x15 ⟨(some ⟨b49, 0, none⟩), 1, 1⟩ fun s50 => k46 (s48, s50, ()))
  (k46 (x14, x15, ())))
  (fun s => ref21_Table_Enter_j4 t_0 dir_1 ino_3 K s.1 s.2.1))
def ref21_Table_Enter_j6 (t_0 : Option Addr) (dir_1 : Int) (name_2 : ByteArray) (ino_3 : Int) (KP : Value → Pr) (K : Value → Pr) (x5 : Bool) : Pr :=
  pIf x5
  (K (.int .i64 2))
  (pSome t_0 fun a6 => pIdx dir_1 25 <| pLd (.int .i64) (((a6.add 0).add ((dir_1 : Int).toNat * 11)).add 2) fun (x7 : Int) => pIf ((x7 : Int) != 2)
  (K (.int .i64 20))
  (pCall Try.prog 24 [(.pointer t_0), (.int .i64 dir_1), (.string name_2)] KP (.one (.int .i64)) fun (r8 : Int) => pIf (decide ((r8 : Int) > 0))
  (K (.int .i64 17))
  (pSome t_0 fun a9 => pIdx dir_1 25 <| pLd .slice (((a9.add 0).add ((dir_1 : Int).toNat * 11)).add 8) fun (x10 : Sl) => pIf (decide (((x10.len : Int) : Int) ≥ 8))
  (K (.int .i64 28))
  (pSome t_0 fun a11 => pIdx ino_3 25 <| pLd (.int .i64) (((a11.add 0).add ((ino_3 : Int).toNat * 11)).add 6) fun (x12 : Int) => pIf (decide ((x12 : Int) ≥ 8))
  (K (.int .i64 31))
  (pLoop (σ := Sl × Sl × Bool × Int × Unit) (fun s k13 => ref21_Table_Enter_l5 t_0 dir_1 name_2 ino_3 K k13 s.1 s.2.1 s.2.2.1 s.2.2.2.1) (⟨none, 0, 0⟩, ⟨none, 0, 0⟩, false, 0, ()))))))
def ref21_Table_Enter (t_0 : Option Addr) (dir_1 : Int) (name_2 : ByteArray) (ino_3 : Int) (KP K : Value → Pr) : Pr :=
  pCall Try.prog 10 [(.string name_2)] KP (.one .bool) fun (r1 : Bool) => pIf (!r1)
  (K (.int .i64 22))
  (pJoin (σ := Bool × Unit)
  (fun k2 => pCall Try.prog 39 [(.pointer t_0), (.int .i64 dir_1)] KP (.one .bool) fun (r3 : Bool) => pIf (!r3)
  (k2 (true, ()))
  (pCall Try.prog 39 [(.pointer t_0), (.int .i64 ino_3)] KP (.one .bool) fun (r4 : Bool) => k2 ((!r4), ())))
  (fun s => ref21_Table_Enter_j6 t_0 dir_1 name_2 ino_3 KP K s.1))
def ref21_Table_Enter_ann : Ann := .two (.none) (.two (.two (.none) (.two (.two (.none) (.none)) (.none))) (.two (.join (.none) (.two (.two (.none) (.none)) (.none)) [(25, .bool)]) (.two (.two (.none) (.two (.two (.none) (.none)) (.none))) (.two (.two (.none) (.two (.two (.none) (.none)) (.none))) (.two (.two (.none) (.two (.two (.none) (.none)) (.none))) (.two (.two (.none) (.two (.two (.none) (.none)) (.none))) (.two (.none) (.two (.none) (.two (.none) (.two (.two (.none) (.sub (.loop [(9, .slice), (10, .slice), (11, .bool), (12, (.int .i64))] (.two (.two (.none) (.two (.none) (.none))) (.two (.sub (.join (.join (.none) (.two (.two (.none) (.two (.none) (.none))) (.none)) [(83, .bool)]) (.two (.none) (.none)) [(9, .slice), (10, .slice), (11, .bool)])) (.none)))))) (.join (.two (.none) (.two (.two (.none) (.none)) (.none))) (.two (.none) (.two (.none) (.two (.ord [0, 1, 2, 3, 4, 5, 8, 9, 6, 7, 10, 11, 12]) (.join (.two (.none) (.two (.none) (.none))) (.two (.none) (.none)) [])))) [(9, .slice), (10, .slice)])))))))))))
theorem ref21_Table_Enter_eq (t_0 : Option Addr) (dir_1 : Int) (name_2 : ByteArray) (ino_3 : Int) (KP K : Value → Pr) : vcBody Try.prog Try.f34 (Try.f34.body.getD .skip) ref21_Table_Enter_ann [(.pointer t_0), (.int .i64 dir_1), (.string name_2), (.int .i64 ino_3)] KP K = ref21_Table_Enter t_0 dir_1 name_2 ino_3 KP K := by kernel_rfl
theorem ref21_Table_Enter_call (t_0 : Option Addr) (dir_1 : Int) (name_2 : ByteArray) (ino_3 : Int) {KP K : Value → Pr} {h : Heap} (s : ref21_Table_Enter t_0 dir_1 name_2 ino_3 (fgt KP) (fgt K) h) : WpCall Try.prog 34 [(.pointer t_0), (.int .i64 dir_1), (.string name_2), (.int .i64 ino_3)].toArray KP K h :=
  WpCall.of_vc Try.mixed Try.func34 (by kernel_rfl) Try.call34 ref21_Table_Enter_ann (by rw [ref21_Table_Enter_eq]; exact s)

end Go.Proofs.Ytkbcneomjkfheaa

set_option linter.unusedVariables false
namespace Go.Proofs.Ytkbcneomjkfheaa
open Go.Hl
/- (*halberd/halberdref21.Table).Leave -/
def ref21_Table_Leave_j1 (k5 : Sl × Sl × Int × Unit → Pr) (x8 : Int) (x28 : Sl) (x29 : Sl) : Pr :=
  k5 (x28, x29, (IntKind.i64.wrap (x8 + 1)), ())
def ref21_Table_Leave_j2 (K : Value → Pr) (r4 : Int) : Pr :=
  K (.tuple [(.int .i64 r4), (.int .i64 0)].toArray)
def ref21_Table_Leave_l3 (t_0 : Option Addr) (dir_1 : Int) (name_2 : ByteArray) (KP : Value → Pr) (K : Value → Pr) (r4 : Int) (k5 : Sl × Sl × Int × Unit → Pr) (x6 : Sl) (x7 : Sl) (x8 : Int) : Pr :=
  pSome t_0 fun a9 => pIdx dir_1 25 <| pLd .slice (((a9.add 0).add ((dir_1 : Int).toNat * 11)).add 8) fun (x10 : Sl) => pIf (decide ((x8 : Int) < (x10.len : Int)))
  (pJoin (σ := Sl × Sl × Unit)
  (fun k11 => pSome t_0 fun a12 => pIdx dir_1 25 <| pLd .slice (((a12.add 0).add ((dir_1 : Int).toNat * 11)).add 8) fun (x13 : Sl) => pIdx x8 x13.len <| pSome x13.base fun a14 => pLd .str (a14.add ((x8 : Int).toNat * 1)) fun (x15 : ByteArray) => pIf (!strEq x15 name_2)
  (pSome t_0 fun a16 => pIdx dir_1 25 <| pLd .slice (((a16.add 0).add ((dir_1 : Int).toNat * 11)).add 8) fun (x17 : Sl) => pIdx x8 x17.len <| pSome x17.base fun a18 => pLd .str (a18.add ((x8 : Int).toNat * 1)) fun (x19 : ByteArray) => pNew (lay (reps 1 (zc Try.prog 9)) [(0, (.string x19))]) fun b20 => pAppend 1 16 x6 ⟨(some ⟨b20, 0, none⟩), 1, 1⟩ fun s21 => pSome t_0 fun a22 => pIdx dir_1 25 <| pLd .slice (((a22.add 0).add ((dir_1 : Int).toNat * 11)).add 9) fun (x23 : Sl) => pIdx x8 x23.len <| pSome x23.base fun a24 => pLd (.int .i64) (a24.add ((x8 : Int).toNat * 1)) fun (x25 : Int) => pNew (lay (reps 1 (zc Try.prog 3)) [(0, (.int .i64 x25))]) fun b26 => pAppend 1 8 x7 ⟨(some ⟨b26, 0, none⟩), 1, 1⟩ fun s27 => k11 (s21, s27, ()))
  (k11 (x6, x7, ())))
  (fun s => ref21_Table_Leave_j1 k5 x8 s.1 s.2.1))
  (pSome t_0 fun a30 => pIdx dir_1 25 <| pSt (((a30.add 0).add ((dir_1 : Int).toNat * 11)).add 8) (.slice x6.base x6.len x6.cap) <| pSome t_0 fun a31 => pIdx dir_1 25 <| pSt (((a31.add 0).add ((dir_1 : Int).toNat * 11)).add 9) (.slice x7.base x7.len x7.cap) <| pJoin (σ := Unit)
  (fun k32 => pCall Try.prog 39 [(.pointer t_0), (.int .i64 r4)] KP (.one .bool) fun (r33 : Bool) => pIf r33
  (pSome t_0 fun a34 => pIdx r4 25 <| pSome t_0 fun a35 => pLd (.int .i64) (((a34.add 0).add ((r4 : Int).toNat * 11)).add 6) fun (x36 : Int) => pIdx r4 25 <| pSt (((a35.add 0).add ((r4 : Int).toNat * 11)).add 6) (.int .i64 (IntKind.i64.wrap (x36 - 1))) <| k32 (()))
  (k32 (())))
  (fun s => ref21_Table_Leave_j2 K r4))
def ref21_Table_Leave (t_0 : Option Addr) (dir_1 : Int) (name_2 : ByteArray) (KP K : Value → Pr) : Pr :=
  pCall Try.prog 39 [(.pointer t_0), (.int .i64 dir_1)] KP (.one .bool) fun (r1 : Bool) => pIf (!r1)
  (K (.tuple [(.int .i64 0), (.int .i64 2)].toArray))
  (pSome t_0 fun a2 => pIdx dir_1 25 <| pLd (.int .i64) (((a2.add 0).add ((dir_1 : Int).toNat * 11)).add 2) fun (x3 : Int) => pIf ((x3 : Int) != 2)
  (K (.tuple [(.int .i64 0), (.int .i64 20)].toArray))
  (pCall Try.prog 24 [(.pointer t_0), (.int .i64 dir_1), (.string name_2)] KP (.one (.int .i64)) fun (r4 : Int) => pIf ((r4 : Int) == 0)
  (K (.tuple [(.int .i64 0), (.int .i64 2)].toArray))
  (pLoop (σ := Sl × Sl × Int × Unit) (fun s k5 => ref21_Table_Leave_l3 t_0 dir_1 name_2 KP K r4 k5 s.1 s.2.1 s.2.2.1) (⟨none, 0, 0⟩, ⟨none, 0, 0⟩, 0, ()))))
def ref21_Table_Leave_ann : Ann := .two (.none) (.two (.two (.none) (.two (.two (.none) (.none)) (.none))) (.two (.two (.none) (.two (.two (.none) (.none)) (.none))) (.two (.none) (.two (.two (.none) (.two (.two (.none) (.none)) (.none))) (.two (.none) (.two (.none) (.two (.two (.none) (.sub (.loop [(9, .slice), (10, .slice), (11, (.int .i64))] (.two (.two (.none) (.two (.none) (.none))) (.join (.sub (.two (.none) (.two (.two (.none) (.none)) (.none)))) (.none) [(9, .slice), (10, .slice)]))))) (.two (.none) (.two (.none) (.join (.two (.none) (.two (.ord [0, 1, 2, 3, 4, 5, 8, 9, 6, 7, 10, 11, 12]) (.none))) (.two (.none) (.none)) []))))))))))
theorem ref21_Table_Leave_eq (t_0 : Option Addr) (dir_1 : Int) (name_2 : ByteArray) (KP K : Value → Pr) : vcBody Try.prog Try.f35 (Try.f35.body.getD .skip) ref21_Table_Leave_ann [(.pointer t_0), (.int .i64 dir_1), (.string name_2)] KP K = ref21_Table_Leave t_0 dir_1 name_2 KP K := by kernel_rfl
theorem ref21_Table_Leave_call (t_0 : Option Addr) (dir_1 : Int) (name_2 : ByteArray) {KP K : Value → Pr} {h : Heap} (s : ref21_Table_Leave t_0 dir_1 name_2 (fgt KP) (fgt K) h) : WpCall Try.prog 35 [(.pointer t_0), (.int .i64 dir_1), (.string name_2)].toArray KP K h :=
  WpCall.of_vc Try.mixed Try.func35 (by kernel_rfl) Try.call35 ref21_Table_Leave_ann (by rw [ref21_Table_Leave_eq]; exact s)

/- (*halberd/inodes.Table).Write -/
def inodes_Table_Write (t_0 : Option Addr) (ino_1 : Int) (data_2 : ByteArray) (KP K : Value → Pr) : Pr :=
  pCall Try.prog 30 [(.pointer t_0), (.int .i64 ino_1)] KP (.one .ptr) fun (r1 : Option Addr) => pIf (r1.isNone)
  (K (.int .i64 2))
  (pSome r1 fun a2 => pLd (.int .i64) (a2.add 2) fun (x3 : Int) => pIf ((x3 : Int) == 2)
  (K (.int .i64 22))
  (pIf (decide (((data_2.size : Int) : Int) > 32))
  (K (.int .i64 27))
  (pSome r1 fun a4 => pSt (a4.add 7) (.string data_2) <| K (.int .i64 0))))
def inodes_Table_Write_ann : Ann := .two (.none) (.two (.none) (.two (.sub (.two (.none) (.two (.two (.none) (.none)) (.two (.none) (.two (.two (.none) (.none)) (.two (.none) (.two (.two (.none) (.none)) (.none)))))))) (.two (.none) (.two (.none) (.none)))))
theorem inodes_Table_Write_eq (t_0 : Option Addr) (ino_1 : Int) (data_2 : ByteArray) (KP K : Value → Pr) : vcBody Try.prog Try.f36 (Try.f36.body.getD .skip) inodes_Table_Write_ann [(.pointer t_0), (.int .i64 ino_1), (.string data_2)] KP K = inodes_Table_Write t_0 ino_1 data_2 KP K := by kernel_rfl
theorem inodes_Table_Write_call (t_0 : Option Addr) (ino_1 : Int) (data_2 : ByteArray) {KP K : Value → Pr} {h : Heap} (s : inodes_Table_Write t_0 ino_1 data_2 (fgt KP) (fgt K) h) : WpCall Try.prog 36 [(.pointer t_0), (.int .i64 ino_1), (.string data_2)].toArray KP K h :=
  WpCall.of_vc Try.mixed Try.func36 (by kernel_rfl) Try.call36 inodes_Table_Write_ann (by rw [inodes_Table_Write_eq]; exact s)

/- (*halberd/halberdref21.Table).Write -/
def ref21_Table_Write (t_0 : Option Addr) (ino_1 : Int) (data_2 : ByteArray) (KP K : Value → Pr) : Pr :=
  pCall Try.prog 39 [(.pointer t_0), (.int .i64 ino_1)] KP (.one .bool) fun (r1 : Bool) => pIf (!r1)
  (K (.int .i64 2))
  (pSome t_0 fun a2 => pIdx ino_1 25 <| pLd (.int .i64) (((a2.add 0).add ((ino_1 : Int).toNat * 11)).add 2) fun (x3 : Int) => pIf ((x3 : Int) == 2)
  (K (.int .i64 22))
  (pIf (decide (((data_2.size : Int) : Int) > 32))
  (K (.int .i64 27))
  (pSome t_0 fun a4 => pIdx ino_1 25 <| pSt (((a4.add 0).add ((ino_1 : Int).toNat * 11)).add 7) (.string data_2) <| K (.int .i64 0))))
def ref21_Table_Write_ann : Ann := .two (.none) (.two (.two (.none) (.two (.two (.none) (.none)) (.none))) (.two (.two (.none) (.two (.two (.none) (.none)) (.none))) (.two (.two (.none) (.two (.two (.none) (.none)) (.none))) (.two (.none) (.two (.none) (.none))))))
theorem ref21_Table_Write_eq (t_0 : Option Addr) (ino_1 : Int) (data_2 : ByteArray) (KP K : Value → Pr) : vcBody Try.prog Try.f37 (Try.f37.body.getD .skip) ref21_Table_Write_ann [(.pointer t_0), (.int .i64 ino_1), (.string data_2)] KP K = ref21_Table_Write t_0 ino_1 data_2 KP K := by kernel_rfl
theorem ref21_Table_Write_call (t_0 : Option Addr) (ino_1 : Int) (data_2 : ByteArray) {KP K : Value → Pr} {h : Heap} (s : ref21_Table_Write t_0 ino_1 data_2 (fgt KP) (fgt K) h) : WpCall Try.prog 37 [(.pointer t_0), (.int .i64 ino_1), (.string data_2)].toArray KP K h :=
  WpCall.of_vc Try.mixed Try.func37 (by kernel_rfl) Try.call37 ref21_Table_Write_ann (by rw [ref21_Table_Write_eq]; exact s)

/- (*halberd/inodes.Table).Own -/
def inodes_Table_Own (t_0 : Option Addr) (ino_1 : Int) (mode_2 : Int) (uid_3 : Int) (gid_4 : Int) (KP K : Value → Pr) : Pr :=
  pCall Try.prog 30 [(.pointer t_0), (.int .i64 ino_1)] KP (.one .ptr) fun (r1 : Option Addr) => pIf (r1.isNone)
  (K (.int .i64 2))
  (pSome r1 fun a2 => pSt (a2.add 3) (.int .i64 mode_2) <| pSome r1 fun a3 => pSt (a3.add 4) (.int .i64 uid_3) <| pSome r1 fun a4 => pSt (a4.add 5) (.int .i64 gid_4) <| K (.int .i64 0))
def inodes_Table_Own_ann : Ann := .two (.none) (.two (.none) (.two (.two (.none) (.two (.two (.none) (.none)) (.none))) (.two (.none) (.two (.none) (.none)))))
theorem inodes_Table_Own_eq (t_0 : Option Addr) (ino_1 : Int) (mode_2 : Int) (uid_3 : Int) (gid_4 : Int) (KP K : Value → Pr) : vcBody Try.prog Try.f38 (Try.f38.body.getD .skip) inodes_Table_Own_ann [(.pointer t_0), (.int .i64 ino_1), (.int .i64 mode_2), (.int .i64 uid_3), (.int .i64 gid_4)] KP K = inodes_Table_Own t_0 ino_1 mode_2 uid_3 gid_4 KP K := by kernel_rfl
theorem inodes_Table_Own_call (t_0 : Option Addr) (ino_1 : Int) (mode_2 : Int) (uid_3 : Int) (gid_4 : Int) {KP K : Value → Pr} {h : Heap} (s : inodes_Table_Own t_0 ino_1 mode_2 uid_3 gid_4 (fgt KP) (fgt K) h) : WpCall Try.prog 38 [(.pointer t_0), (.int .i64 ino_1), (.int .i64 mode_2), (.int .i64 uid_3), (.int .i64 gid_4)].toArray KP K h :=
  WpCall.of_vc Try.mixed Try.func38 (by kernel_rfl) Try.call38 inodes_Table_Own_ann (by rw [inodes_Table_Own_eq]; exact s)

/- (*halberd/halberdref21.Table).Has -/
def ref21_Table_Has_j1 (K : Value → Pr) (x4 : Bool) : Pr :=
  K (.bool x4)
def ref21_Table_Has (t_0 : Option Addr) (ino_1 : Int) (KP K : Value → Pr) : Pr :=
  pJoin (σ := Bool × Unit)
  (fun k1 => pIf (decide ((ino_1 : Int) ≥ 1))
  (pIf (decide ((ino_1 : Int) ≤ 24))
  (pSome t_0 fun a2 => pIdx ino_1 25 <| pLd (.int .i64) (((a2.add 0).add ((ino_1 : Int).toNat * 11)).add 2) fun (x3 : Int) => k1 (((x3 : Int) != 0), ()))
  (k1 (false, ())))
  (k1 (false, ())))
  (fun s => ref21_Table_Has_j1 K s.1)
def ref21_Table_Has_ann : Ann := .two (.none) (.join (.none) (.none) [(4, .bool)])
theorem ref21_Table_Has_eq (t_0 : Option Addr) (ino_1 : Int) (KP K : Value → Pr) : vcBody Try.prog Try.f39 (Try.f39.body.getD .skip) ref21_Table_Has_ann [(.pointer t_0), (.int .i64 ino_1)] KP K = ref21_Table_Has t_0 ino_1 KP K := by kernel_rfl
theorem ref21_Table_Has_call (t_0 : Option Addr) (ino_1 : Int) {KP K : Value → Pr} {h : Heap} (s : ref21_Table_Has t_0 ino_1 (fgt KP) (fgt K) h) : WpCall Try.prog 39 [(.pointer t_0), (.int .i64 ino_1)].toArray KP K h :=
  WpCall.of_vc Try.mixed Try.func39 (by kernel_rfl) Try.call39 ref21_Table_Has_ann (by rw [ref21_Table_Has_eq]; exact s)

/- halberd/halberdref21.Same -/
def ref21_Same_l1 (K : Value → Pr) (b1 : Nat) (b2 : Nat) (k36 : Int × Unit → Pr) (x37 : Int) : Pr :=
  pLd .slice ((⟨b1, 0, none⟩ : Addr).add 9) fun (x38 : Sl) => pIf (decide ((x37 : Int) < (x38.len : Int)))
  (pLd .slice ((⟨b1, 0, none⟩ : Addr).add 9) fun (x39 : Sl) => pIdx x37 x39.len <| pSome x39.base fun a40 => pLd (.int .i64) (a40.add ((x37 : Int).toNat * 1)) fun (x41 : Int) => pLd .slice ((⟨b2, 0, none⟩ : Addr).add 9) fun (x42 : Sl) => pIdx x37 x42.len <| pSome x42.base fun a43 => pLd (.int .i64) (a43.add ((x37 : Int).toNat * 1)) fun (x44 : Int) => pIf ((x41 : Int) != x44)
  (K (.bool false))
  (k36 ((IntKind.i64.wrap (x37 + 1)), ())))
  (K (.bool true))
def ref21_Same_l2 (K : Value → Pr) (b1 : Nat) (b2 : Nat) (k27 : Int × Unit → Pr) (x28 : Int) : Pr :=
  pLd .slice ((⟨b1, 0, none⟩ : Addr).add 8) fun (x29 : Sl) => pIf (decide ((x28 : Int) < (x29.len : Int)))
  (pLd .slice ((⟨b1, 0, none⟩ : Addr).add 8) fun (x30 : Sl) => pIdx x28 x30.len <| pSome x30.base fun a31 => pLd .str (a31.add ((x28 : Int).toNat * 1)) fun (x32 : ByteArray) => pLd .slice ((⟨b2, 0, none⟩ : Addr).add 8) fun (x33 : Sl) => pIdx x28 x33.len <| pSome x33.base fun a34 => pLd .str (a34.add ((x28 : Int).toNat * 1)) fun (x35 : ByteArray) => pIf (!strEq x32 x35)
  (K (.bool false))
  (k27 ((IntKind.i64.wrap (x28 + 1)), ())))
  (pLoop (σ := Int × Unit) (fun s k36 => ref21_Same_l1 K b1 b2 k36 s.1) (0, ()))
def ref21_Same_j3 (K : Value → Pr) (b1 : Nat) (b2 : Nat) (x26 : Bool) : Pr :=
  pIf x26
  (K (.bool false))
  (pLoop (σ := Int × Unit) (fun s k27 => ref21_Same_l2 K b1 b2 k27 s.1) (0, ()))
def ref21_Same (a_0 : List Value) (b_1 : List Value) (KP K : Value → Pr) : Pr :=
  pNew a_0 fun b1 => pNew b_1 fun b2 => pJoin (σ := Bool × Unit)
  (fun k3 => pLd (.int .i64) ((⟨b1, 0, none⟩ : Addr).add 0) fun (x4 : Int) => pLd (.int .i64) ((⟨b2, 0, none⟩ : Addr).add 0) fun (x5 : Int) => pIf ((x4 : Int) != x5)
  (k3 (true, ()))
  (pLd (.int .i64) ((⟨b1, 0, none⟩ : Addr).add 1) fun (x6 : Int) => pLd (.int .i64) ((⟨b2, 0, none⟩ : Addr).add 1) fun (x7 : Int) => pIf ((x6 : Int) != x7)
  (k3 (true, ()))
  (pLd (.int .i64) ((⟨b1, 0, none⟩ : Addr).add 2) fun (x8 : Int) => pLd (.int .i64) ((⟨b2, 0, none⟩ : Addr).add 2) fun (x9 : Int) => pIf ((x8 : Int) != x9)
  (k3 (true, ()))
  (pLd (.int .i64) ((⟨b1, 0, none⟩ : Addr).add 3) fun (x10 : Int) => pLd (.int .i64) ((⟨b2, 0, none⟩ : Addr).add 3) fun (x11 : Int) => pIf ((x10 : Int) != x11)
  (k3 (true, ()))
  (pLd (.int .i64) ((⟨b1, 0, none⟩ : Addr).add 4) fun (x12 : Int) => pLd (.int .i64) ((⟨b2, 0, none⟩ : Addr).add 4) fun (x13 : Int) => pIf ((x12 : Int) != x13)
  (k3 (true, ()))
  (pLd (.int .i64) ((⟨b1, 0, none⟩ : Addr).add 5) fun (x14 : Int) => pLd (.int .i64) ((⟨b2, 0, none⟩ : Addr).add 5) fun (x15 : Int) => pIf ((x14 : Int) != x15)
  (k3 (true, ()))
  (pLd (.int .i64) ((⟨b1, 0, none⟩ : Addr).add 6) fun (x16 : Int) => pLd (.int .i64) ((⟨b2, 0, none⟩ : Addr).add 6) fun (x17 : Int) => pIf ((x16 : Int) != x17)
  (k3 (true, ()))
  (pLd .str ((⟨b1, 0, none⟩ : Addr).add 7) fun (x18 : ByteArray) => pLd .str ((⟨b2, 0, none⟩ : Addr).add 7) fun (x19 : ByteArray) => pIf (!strEq x18 x19)
  (k3 (true, ()))
  (pLd (.int .i64) ((⟨b1, 0, none⟩ : Addr).add 10) fun (x20 : Int) => pLd (.int .i64) ((⟨b2, 0, none⟩ : Addr).add 10) fun (x21 : Int) => pIf ((x20 : Int) != x21)
  (k3 (true, ()))
  (pLd .slice ((⟨b1, 0, none⟩ : Addr).add 8) fun (x22 : Sl) => pLd .slice ((⟨b2, 0, none⟩ : Addr).add 8) fun (x23 : Sl) => pIf (((x22.len : Int) : Int) != (x23.len : Int))
  (k3 (true, ()))
  (pLd .slice ((⟨b1, 0, none⟩ : Addr).add 9) fun (x24 : Sl) => pLd .slice ((⟨b2, 0, none⟩ : Addr).add 9) fun (x25 : Sl) => k3 ((((x24.len : Int) : Int) != (x25.len : Int)), ()))))))))))))
  (fun s => ref21_Same_j3 K b1 b2 s.1)
def ref21_Same_ann : Ann := .two (.none) (.two (.join (.none) (.two (.two (.none) (.none)) (.none)) [(85, .bool)]) (.two (.two (.none) (.sub (.loop [(5, (.int .i64))] (.two (.two (.none) (.two (.none) (.none))) (.two (.sub (.two (.ord [0, 2, 5, 7, 1, 3, 4, 6, 8, 9, 10]) (.two (.two (.none) (.none)) (.none)))) (.none)))))) (.two (.two (.none) (.sub (.loop [(6, (.int .i64))] (.two (.two (.none) (.two (.none) (.none))) (.two (.sub (.two (.ord [0, 2, 5, 7, 1, 3, 4, 6, 8, 9, 10]) (.two (.two (.none) (.none)) (.none)))) (.none)))))) (.two (.none) (.none)))))
theorem ref21_Same_eq (a_0 : List Value) (b_1 : List Value) (KP K : Value → Pr) : vcBody Try.prog Try.f40 (Try.f40.body.getD .skip) ref21_Same_ann [(.agg a_0.toArray), (.agg b_1.toArray)] KP K = ref21_Same a_0 b_1 KP K := by kernel_rfl
theorem ref21_Same_call (a_0 : List Value) (b_1 : List Value) {KP K : Value → Pr} {h : Heap} (s : ref21_Same a_0 b_1 (fgt KP) (fgt K) h) : WpCall Try.prog 40 [(.agg a_0.toArray), (.agg b_1.toArray)].toArray KP K h :=
  WpCall.of_vc Try.mixed Try.func40 (by kernel_rfl) Try.call40 ref21_Same_ann (by rw [ref21_Same_eq]; exact s)

/- slices.Clone[halberd/inodes.free,int] -/
def slices_Clone_inodes_free_int (s_0 : Sl) (KP K : Value → Pr) : Pr :=
  pIf (s_0.base.isNone)
  (K (.slice none 0 0))
  (pNew (lay (reps 0 (zc Try.prog 3)) []) fun b1 => pAppend 1 8 ⟨(some ⟨b1, 0, none⟩), 0, 0⟩ s_0 fun s2 => K (.slice s2.base s2.len s2.cap))
def slices_Clone_inodes_free_int_ann : Ann := .two (.none) (.two (.two (.none) (.two (.two (.none) (.none)) (.none))) (.two (.none) (.none)))
theorem slices_Clone_inodes_free_int_eq (s_0 : Sl) (KP K : Value → Pr) : vcBody Try.prog Try.f41 (Try.f41.body.getD .skip) slices_Clone_inodes_free_int_ann [(.slice s_0.base s_0.len s_0.cap)] KP K = slices_Clone_inodes_free_int s_0 KP K := by kernel_rfl
theorem slices_Clone_inodes_free_int_call (s_0 : Sl) {KP K : Value → Pr} {h : Heap} (s : slices_Clone_inodes_free_int s_0 (fgt KP) (fgt K) h) : WpCall Try.prog 41 [(.slice s_0.base s_0.len s_0.cap)].toArray KP K h :=
  WpCall.of_vc Try.mixed Try.func41 (by kernel_rfl) Try.call41 slices_Clone_inodes_free_int_ann (by rw [slices_Clone_inodes_free_int_eq]; exact s)

/- slices.BinarySearch[[]string,string] -/
def slices_BinarySearch_string_string_j1 (K : Value → Pr) (x14 : Int) (x15 : Bool) : Pr :=
  K (.tuple [(.int .i64 x14), (.bool x15)].toArray)
def slices_BinarySearch_string_string_l2 (x_0 : Sl) (target_1 : ByteArray) (KP : Value → Pr) (K : Value → Pr) (k1 : Int × Int × Unit → Pr) (x2 : Int) (x3 : Int) : Pr :=
  pIf (decide ((x2 : Int) < x3))
  (pAssert (0 ≤ (1 : Int)) <| pIdx (IntKind.i64.wrap (((IntKind.u64.wrap (IntKind.i64.wrap (x2 + x3))) : Int).fdiv (2 ^ (min (1 : Int).toNat (IntKind.u64).bits)))) x_0.len <| pSome x_0.base fun a4 => pLd .str (a4.add (((IntKind.i64.wrap (((IntKind.u64.wrap (IntKind.i64.wrap (x2 + x3))) : Int).fdiv (2 ^ (min (1 : Int).toNat (IntKind.u64).bits)))) : Int).toNat * 1)) fun (x5 : ByteArray) => pCall Try.prog 52 [(.string x5), (.string target_1)] KP (.one .bool) fun (r6 : Bool) => pIf r6
  (k1 ((IntKind.i64.wrap ((IntKind.i64.wrap (((IntKind.u64.wrap (IntKind.i64.wrap (x2 + x3))) : Int).fdiv (2 ^ (min (1 : Int).toNat (IntKind.u64).bits)))) + 1)), x3, ()))
  (k1 (x2, (IntKind.i64.wrap (((IntKind.u64.wrap (IntKind.i64.wrap (x2 + x3))) : Int).fdiv (2 ^ (min (1 : Int).toNat (IntKind.u64).bits)))), ())))
  (pJoin (σ := Int × Bool × Unit)
  (fun k7 => pIf (decide ((x2 : Int) < (x_0.len : Int)))
  (pIdx x2 x_0.len <| pSome x_0.base fun a8 => pLd .str (a8.add ((x2 : Int).toNat * 1)) fun (x9 : ByteArray) => pIf (strEq x9 target_1)
  (k7 (x2, true, ()))
  (pIdx x2 x_0.len <| pSome x_0.base fun a10 => pLd .str (a10.add ((x2 : Int).toNat * 1)) fun (x11 : ByteArray) => pCall Try.prog 53 [(.string x11)] KP (.one .bool) fun (r12 : Bool) => pIf r12
  (pCall Try.prog 53 [(.string target_1)] KP (.one .bool) fun (r13 : Bool) => k7 (x2, r13, ()))
  (k7 (x2, false, ()))))
  (k7 (x2, false, ())))
  (fun s => slices_BinarySearch_string_string_j1 K s.1 s.2.1))
def slices_BinarySearch_string_string (x_0 : Sl) (target_1 : ByteArray) (KP K : Value → Pr) : Pr :=
  pLoop (σ := Int × Int × Unit) (fun s k1 => slices_BinarySearch_string_string_l2 x_0 target_1 KP K k1 s.1 s.2.1) (0, (x_0.len : Int), ())
def slices_BinarySearch_string_string_ann : Ann := .two (.none) (.two (.none) (.two (.none) (.two (.sub (.loop [(7, (.int .i64)), (8, (.int .i64))] (.two (.two (.none) (.two (.none) (.none))) (.sub (.two (.none) (.two (.none) (.two (.none) (.none)))))))) (.join (.none) (.none) [(4, (.int .i64)), (5, .bool)]))))
theorem slices_BinarySearch_string_string_eq (x_0 : Sl) (target_1 : ByteArray) (KP K : Value → Pr) : vcBody Try.prog Try.f42 (Try.f42.body.getD .skip) slices_BinarySearch_string_string_ann [(.slice x_0.base x_0.len x_0.cap), (.string target_1)] KP K = slices_BinarySearch_string_string x_0 target_1 KP K := by kernel_rfl
theorem slices_BinarySearch_string_string_call (x_0 : Sl) (target_1 : ByteArray) {KP K : Value → Pr} {h : Heap} (s : slices_BinarySearch_string_string x_0 target_1 (fgt KP) (fgt K) h) : WpCall Try.prog 42 [(.slice x_0.base x_0.len x_0.cap), (.string target_1)].toArray KP K h :=
  WpCall.of_vc Try.mixed Try.func42 (by kernel_rfl) Try.call42 slices_BinarySearch_string_string_ann (by rw [slices_BinarySearch_string_string_eq]; exact s)

end Go.Proofs.Ytkbcneomjkfheaa

set_option linter.unusedVariables false
namespace Go.Proofs.Ytkbcneomjkfheaa
open Go.Hl
/- slices.Insert[[]string,string] -/
def slices_Insert_string_string (s_0 : Sl) (i_1 : Int) (v_2 : Sl) (KP K : Value → Pr) : Pr :=
  pAssert (0 ≤ (i_1 : Int) ∧ (i_1 : Int) ≤ (s_0.len : Int) ∧ (s_0.len : Int) ≤ (s_0.cap : Int)) <| pIf (((v_2.len : Int) : Int) == 0)
  (K (.slice s_0.base s_0.len s_0.cap))
  (pIf ((i_1 : Int) == (s_0.len : Int))
  (pAppend 1 16 s_0 v_2 fun s1 => K (.slice s1.base s1.len s1.cap))
  (pIf (decide (((IntKind.i64.wrap ((s_0.len : Int) + (v_2.len : Int))) : Int) > (s_0.cap : Int)))
  (pAssert (0 ≤ (0 : Int) ∧ (0 : Int) ≤ i_1 ∧ i_1 ≤ (s_0.cap : Int)) <| pExtend 1 16 (zc Try.prog 9) ⟨(if s_0.cap = (0 : Int).toNat then s_0.base else (s_0.base : Option Addr).map (·.add ((0 : Int).toNat * 1))), ((i_1 : Int).toNat - (0 : Int).toNat), (s_0.cap - (0 : Int).toNat)⟩ (IntKind.i64.wrap ((IntKind.i64.wrap ((s_0.len : Int) + (v_2.len : Int))) - i_1)) fun s2 => pAssert (0 ≤ (i_1 : Int) ∧ (i_1 : Int) ≤ (s2.len : Int) ∧ (s2.len : Int) ≤ (s2.cap : Int)) <| pCopy 1 ⟨(if s2.cap = (i_1 : Int).toNat then s2.base else (s2.base : Option Addr).map (·.add ((i_1 : Int).toNat * 1))), (((s2.len : Int) : Int).toNat - (i_1 : Int).toNat), (s2.cap - (i_1 : Int).toNat)⟩ v_2 fun (n3 : Int) => pAssert (0 ≤ ((IntKind.i64.wrap (i_1 + (v_2.len : Int))) : Int) ∧ ((IntKind.i64.wrap (i_1 + (v_2.len : Int))) : Int) ≤ (s2.len : Int) ∧ (s2.len : Int) ≤ (s2.cap : Int)) <| pAssert (0 ≤ (i_1 : Int) ∧ (i_1 : Int) ≤ (s_0.len : Int) ∧ (s_0.len : Int) ≤ (s_0.cap : Int)) <| pCopy 1 ⟨(if s2.cap = ((IntKind.i64.wrap (i_1 + (v_2.len : Int))) : Int).toNat then s2.base else (s2.base : Option Addr).map (·.add (((IntKind.i64.wrap (i_1 + (v_2.len : Int))) : Int).toNat * 1))), (((s2.len : Int) : Int).toNat - ((IntKind.i64.wrap (i_1 + (v_2.len : Int))) : Int).toNat), (s2.cap - ((IntKind.i64.wrap (i_1 + (v_2.len : Int))) : Int).toNat)⟩ ⟨(if s_0.cap = (i_1 : Int).toNat then s_0.base else (s_0.base : Option Addr).map (·.add ((i_1 : Int).toNat * 1))), (((s_0.len : Int) : Int).toNat - (i_1 : Int).toNat), (s_0.cap - (i_1 : Int).toNat)⟩ fun (n4 : Int) => K (.slice s2.base s2.len s2.cap))
  (pAssert (0 ≤ (0 : Int) ∧ (0 : Int) ≤ (IntKind.i64.wrap ((s_0.len : Int) + (v_2.len : Int))) ∧ (IntKind.i64.wrap ((s_0.len : Int) + (v_2.len : Int))) ≤ (s_0.cap : Int)) <| pAssert (0 ≤ ((IntKind.i64.wrap (i_1 + (v_2.len : Int))) : Int) ∧ ((IntKind.i64.wrap (i_1 + (v_2.len : Int))) : Int) ≤ ((((IntKind.i64.wrap ((s_0.len : Int) + (v_2.len : Int))) : Int).toNat - (0 : Int).toNat) : Int) ∧ ((((IntKind.i64.wrap ((s_0.len : Int) + (v_2.len : Int))) : Int).toNat - (0 : Int).toNat) : Int) ≤ ((s_0.cap - (0 : Int).toNat) : Int)) <| pCall Try.prog 54 [(.slice v_2.base v_2.len v_2.cap), (.slice (if (s_0.cap - (0 : Int).toNat) = ((IntKind.i64.wrap (i_1 + (v_2.len : Int))) : Int).toNat then (if s_0.cap = (0 : Int).toNat then s_0.base else (s_0.base : Option Addr).map (·.add ((0 : Int).toNat * 1))) else ((if s_0.cap = (0 : Int).toNat then s_0.base else (s_0.base : Option Addr).map (·.add ((0 : Int).toNat * 1))) : Option Addr).map (·.add (((IntKind.i64.wrap (i_1 + (v_2.len : Int))) : Int).toNat * 1))) ((((((IntKind.i64.wrap ((s_0.len : Int) + (v_2.len : Int))) : Int).toNat - (0 : Int).toNat) : Int) : Int).toNat - ((IntKind.i64.wrap (i_1 + (v_2.len : Int))) : Int).toNat) ((s_0.cap - (0 : Int).toNat) - ((IntKind.i64.wrap (i_1 + (v_2.len : Int))) : Int).toNat))] KP (.one .bool) fun (r5 : Bool) => pIf (!r5)
  (pAssert (0 ≤ ((IntKind.i64.wrap (i_1 + (v_2.len : Int))) : Int) ∧ ((IntKind.i64.wrap (i_1 + (v_2.len : Int))) : Int) ≤ ((((IntKind.i64.wrap ((s_0.len : Int) + (v_2.len : Int))) : Int).toNat - (0 : Int).toNat) : Int) ∧ ((((IntKind.i64.wrap ((s_0.len : Int) + (v_2.len : Int))) : Int).toNat - (0 : Int).toNat) : Int) ≤ ((s_0.cap - (0 : Int).toNat) : Int)) <| pAssert (0 ≤ (i_1 : Int) ∧ (i_1 : Int) ≤ ((((IntKind.i64.wrap ((s_0.len : Int) + (v_2.len : Int))) : Int).toNat - (0 : Int).toNat) : Int) ∧ ((((IntKind.i64.wrap ((s_0.len : Int) + (v_2.len : Int))) : Int).toNat - (0 : Int).toNat) : Int) ≤ ((s_0.cap - (0 : Int).toNat) : Int)) <| pCopy 1 ⟨(if (s_0.cap - (0 : Int).toNat) = ((IntKind.i64.wrap (i_1 + (v_2.len : Int))) : Int).toNat then (if s_0.cap = (0 : Int).toNat then s_0.base else (s_0.base : Option Addr).map (·.add ((0 : Int).toNat * 1))) else ((if s_0.cap = (0 : Int).toNat then s_0.base else (s_0.base : Option Addr).map (·.add ((0 : Int).toNat * 1))) : Option Addr).map (·.add (((IntKind.i64.wrap (i_1 + (v_2.len : Int))) : Int).toNat * 1))), ((((((IntKind.i64.wrap ((s_0.len : Int) + (v_2.len : Int))) : Int).toNat - (0 : Int).toNat) : Int) : Int).toNat - ((IntKind.i64.wrap (i_1 + (v_2.len : Int))) : Int).toNat), ((s_0.cap - (0 : Int).toNat) - ((IntKind.i64.wrap (i_1 + (v_2.len : Int))) : Int).toNat)⟩ ⟨(if (s_0.cap - (0 : Int).toNat) = (i_1 : Int).toNat then (if s_0.cap = (0 : Int).toNat then s_0.base else (s_0.base : Option Addr).map (·.add ((0 : Int).toNat * 1))) else ((if s_0.cap = (0 : Int).toNat then s_0.base else (s_0.base : Option Addr).map (·.add ((0 : Int).toNat * 1))) : Option Addr).map (·.add ((i_1 : Int).toNat * 1))), ((((((IntKind.i64.wrap ((s_0.len : Int) + (v_2.len : Int))) : Int).toNat - (0 : Int).toNat) : Int) : Int).toNat - (i_1 : Int).toNat), ((s_0.cap - (0 : Int).toNat) - (i_1 : Int).toNat)⟩ fun (n6 : Int) => pAssert (0 ≤ (i_1 : Int) ∧ (i_1 : Int) ≤ ((((IntKind.i64.wrap ((s_0.len : Int) + (v_2.len : Int))) : Int).toNat - (0 : Int).toNat) : Int) ∧ ((((IntKind.i64.wrap ((s_0.len : Int) + (v_2.len : Int))) : Int).toNat - (0 : Int).toNat) : Int) ≤ ((s_0.cap - (0 : Int).toNat) : Int)) <| pCopy 1 ⟨(if (s_0.cap - (0 : Int).toNat) = (i_1 : Int).toNat then (if s_0.cap = (0 : Int).toNat then s_0.base else (s_0.base : Option Addr).map (·.add ((0 : Int).toNat * 1))) else ((if s_0.cap = (0 : Int).toNat then s_0.base else (s_0.base : Option Addr).map (·.add ((0 : Int).toNat * 1))) : Option Addr).map (·.add ((i_1 : Int).toNat * 1))), ((((((IntKind.i64.wrap ((s_0.len : Int) + (v_2.len : Int))) : Int).toNat - (0 : Int).toNat) : Int) : Int).toNat - (i_1 : Int).toNat), ((s_0.cap - (0 : Int).toNat) - (i_1 : Int).toNat)⟩ v_2 fun (n7 : Int) => K (.slice (if s_0.cap = (0 : Int).toNat then s_0.base else (s_0.base : Option Addr).map (·.add ((0 : Int).toNat * 1))) (((IntKind.i64.wrap ((s_0.len : Int) + (v_2.len : Int))) : Int).toNat - (0 : Int).toNat) (s_0.cap - (0 : Int).toNat)))
  (pAssert (0 ≤ ((s_0.len : Int) : Int) ∧ ((s_0.len : Int) : Int) ≤ ((((IntKind.i64.wrap ((s_0.len : Int) + (v_2.len : Int))) : Int).toNat - (0 : Int).toNat) : Int) ∧ ((((IntKind.i64.wrap ((s_0.len : Int) + (v_2.len : Int))) : Int).toNat - (0 : Int).toNat) : Int) ≤ ((s_0.cap - (0 : Int).toNat) : Int)) <| pCopy 1 ⟨(if (s_0.cap - (0 : Int).toNat) = ((s_0.len : Int) : Int).toNat then (if s_0.cap = (0 : Int).toNat then s_0.base else (s_0.base : Option Addr).map (·.add ((0 : Int).toNat * 1))) else ((if s_0.cap = (0 : Int).toNat then s_0.base else (s_0.base : Option Addr).map (·.add ((0 : Int).toNat * 1))) : Option Addr).map (·.add (((s_0.len : Int) : Int).toNat * 1))), ((((((IntKind.i64.wrap ((s_0.len : Int) + (v_2.len : Int))) : Int).toNat - (0 : Int).toNat) : Int) : Int).toNat - ((s_0.len : Int) : Int).toNat), ((s_0.cap - (0 : Int).toNat) - ((s_0.len : Int) : Int).toNat)⟩ v_2 fun (n8 : Int) => pAssert (0 ≤ (i_1 : Int) ∧ (i_1 : Int) ≤ ((((IntKind.i64.wrap ((s_0.len : Int) + (v_2.len : Int))) : Int).toNat - (0 : Int).toNat) : Int) ∧ ((((IntKind.i64.wrap ((s_0.len : Int) + (v_2.len : Int))) : Int).toNat - (0 : Int).toNat) : Int) ≤ ((s_0.cap - (0 : Int).toNat) : Int)) <| pCall Try.prog 55 [(.slice (if (s_0.cap - (0 : Int).toNat) = (i_1 : Int).toNat then (if s_0.cap = (0 : Int).toNat then s_0.base else (s_0.base : Option Addr).map (·.add ((0 : Int).toNat * 1))) else ((if s_0.cap = (0 : Int).toNat then s_0.base else (s_0.base : Option Addr).map (·.add ((0 : Int).toNat * 1))) : Option Addr).map (·.add ((i_1 : Int).toNat * 1))) ((((((IntKind.i64.wrap ((s_0.len : Int) + (v_2.len : Int))) : Int).toNat - (0 : Int).toNat) : Int) : Int).toNat - (i_1 : Int).toNat) ((s_0.cap - (0 : Int).toNat) - (i_1 : Int).toNat)), (.int .i64 (v_2.len : Int))] KP (.many []) fun (r9 : Unit) => K (.slice (if s_0.cap = (0 : Int).toNat then s_0.base else (s_0.base : Option Addr).map (·.add ((0 : Int).toNat * 1))) (((IntKind.i64.wrap ((s_0.len : Int) + (v_2.len : Int))) : Int).toNat - (0 : Int).toNat) (s_0.cap - (0 : Int).toNat))))))
def slices_Insert_string_string_ann : Ann := .two (.none) (.two (.none) (.two (.none) (.two (.two (.none) (.two (.two (.none) (.none)) (.none))) (.two (.none) (.two (.two (.none) (.two (.two (.none) (.none)) (.none))) (.two (.two (.none) (.two (.two (.none) (.two (.none) (.two (.ord [0, 1, 2, 3, 4, 5, 6, 7, 8]) (.two (.none) (.none))))) (.none))) (.two (.none) (.two (.two (.none) (.two (.two (.ord [0, 1, 2, 3, 4, 5, 6, 7, 8]) (.two (.none) (.two (.none) (.none)))) (.none))) (.two (.none) (.two (.none) (.two (.none) (.none))))))))))))
theorem slices_Insert_string_string_eq (s_0 : Sl) (i_1 : Int) (v_2 : Sl) (KP K : Value → Pr) : vcBody Try.prog Try.f43 (Try.f43.body.getD .skip) slices_Insert_string_string_ann [(.slice s_0.base s_0.len s_0.cap), (.int .i64 i_1), (.slice v_2.base v_2.len v_2.cap)] KP K = slices_Insert_string_string s_0 i_1 v_2 KP K := by kernel_rfl
theorem slices_Insert_string_string_call (s_0 : Sl) (i_1 : Int) (v_2 : Sl) {KP K : Value → Pr} {h : Heap} (s : slices_Insert_string_string s_0 i_1 v_2 (fgt KP) (fgt K) h) : WpCall Try.prog 43 [(.slice s_0.base s_0.len s_0.cap), (.int .i64 i_1), (.slice v_2.base v_2.len v_2.cap)].toArray KP K h :=
  WpCall.of_vc Try.mixed Try.func43 (by kernel_rfl) Try.call43 slices_Insert_string_string_ann (by rw [slices_Insert_string_string_eq]; exact s)

/- slices.Insert[[]int,int] -/
def slices_Insert_int_int (s_0 : Sl) (i_1 : Int) (v_2 : Sl) (KP K : Value → Pr) : Pr :=
  pAssert (0 ≤ (i_1 : Int) ∧ (i_1 : Int) ≤ (s_0.len : Int) ∧ (s_0.len : Int) ≤ (s_0.cap : Int)) <| pIf (((v_2.len : Int) : Int) == 0)
  (K (.slice s_0.base s_0.len s_0.cap))
  (pIf ((i_1 : Int) == (s_0.len : Int))
  (pAppend 1 8 s_0 v_2 fun s1 => K (.slice s1.base s1.len s1.cap))
  (pIf (decide (((IntKind.i64.wrap ((s_0.len : Int) + (v_2.len : Int))) : Int) > (s_0.cap : Int)))
  (pAssert (0 ≤ (0 : Int) ∧ (0 : Int) ≤ i_1 ∧ i_1 ≤ (s_0.cap : Int)) <| pExtend 1 8 (zc Try.prog 3) ⟨(if s_0.cap = (0 : Int).toNat then s_0.base else (s_0.base : Option Addr).map (·.add ((0 : Int).toNat * 1))), ((i_1 : Int).toNat - (0 : Int).toNat), (s_0.cap - (0 : Int).toNat)⟩ (IntKind.i64.wrap ((IntKind.i64.wrap ((s_0.len : Int) + (v_2.len : Int))) - i_1)) fun s2 => pAssert (0 ≤ (i_1 : Int) ∧ (i_1 : Int) ≤ (s2.len : Int) ∧ (s2.len : Int) ≤ (s2.cap : Int)) <| pCopy 1 ⟨(if s2.cap = (i_1 : Int).toNat then s2.base else (s2.base : Option Addr).map (·.add ((i_1 : Int).toNat * 1))), (((s2.len : Int) : Int).toNat - (i_1 : Int).toNat), (s2.cap - (i_1 : Int).toNat)⟩ v_2 fun (n3 : Int) => pAssert (0 ≤ ((IntKind.i64.wrap (i_1 + (v_2.len : Int))) : Int) ∧ ((IntKind.i64.wrap (i_1 + (v_2.len : Int))) : Int) ≤ (s2.len : Int) ∧ (s2.len : Int) ≤ (s2.cap : Int)) <| pAssert (0 ≤ (i_1 : Int) ∧ (i_1 : Int) ≤ (s_0.len : Int) ∧ (s_0.len : Int) ≤ (s_0.cap : Int)) <| pCopy 1 ⟨(if s2.cap = ((IntKind.i64.wrap (i_1 + (v_2.len : Int))) : Int).toNat then s2.base else (s2.base : Option Addr).map (·.add (((IntKind.i64.wrap (i_1 + (v_2.len : Int))) : Int).toNat * 1))), (((s2.len : Int) : Int).toNat - ((IntKind.i64.wrap (i_1 + (v_2.len : Int))) : Int).toNat), (s2.cap - ((IntKind.i64.wrap (i_1 + (v_2.len : Int))) : Int).toNat)⟩ ⟨(if s_0.cap = (i_1 : Int).toNat then s_0.base else (s_0.base : Option Addr).map (·.add ((i_1 : Int).toNat * 1))), (((s_0.len : Int) : Int).toNat - (i_1 : Int).toNat), (s_0.cap - (i_1 : Int).toNat)⟩ fun (n4 : Int) => K (.slice s2.base s2.len s2.cap))
  (pAssert (0 ≤ (0 : Int) ∧ (0 : Int) ≤ (IntKind.i64.wrap ((s_0.len : Int) + (v_2.len : Int))) ∧ (IntKind.i64.wrap ((s_0.len : Int) + (v_2.len : Int))) ≤ (s_0.cap : Int)) <| pAssert (0 ≤ ((IntKind.i64.wrap (i_1 + (v_2.len : Int))) : Int) ∧ ((IntKind.i64.wrap (i_1 + (v_2.len : Int))) : Int) ≤ ((((IntKind.i64.wrap ((s_0.len : Int) + (v_2.len : Int))) : Int).toNat - (0 : Int).toNat) : Int) ∧ ((((IntKind.i64.wrap ((s_0.len : Int) + (v_2.len : Int))) : Int).toNat - (0 : Int).toNat) : Int) ≤ ((s_0.cap - (0 : Int).toNat) : Int)) <| pCall Try.prog 56 [(.slice v_2.base v_2.len v_2.cap), (.slice (if (s_0.cap - (0 : Int).toNat) = ((IntKind.i64.wrap (i_1 + (v_2.len : Int))) : Int).toNat then (if s_0.cap = (0 : Int).toNat then s_0.base else (s_0.base : Option Addr).map (·.add ((0 : Int).toNat * 1))) else ((if s_0.cap = (0 : Int).toNat then s_0.base else (s_0.base : Option Addr).map (·.add ((0 : Int).toNat * 1))) : Option Addr).map (·.add (((IntKind.i64.wrap (i_1 + (v_2.len : Int))) : Int).toNat * 1))) ((((((IntKind.i64.wrap ((s_0.len : Int) + (v_2.len : Int))) : Int).toNat - (0 : Int).toNat) : Int) : Int).toNat - ((IntKind.i64.wrap (i_1 + (v_2.len : Int))) : Int).toNat) ((s_0.cap - (0 : Int).toNat) - ((IntKind.i64.wrap (i_1 + (v_2.len : Int))) : Int).toNat))] KP (.one .bool) fun (r5 : Bool) => pIf (!r5)
  (pAssert (0 ≤ ((IntKind.i64.wrap (i_1 + (v_2.len : Int))) : Int) ∧ ((IntKind.i64.wrap (i_1 + (v_2.len : Int))) : Int) ≤ ((((IntKind.i64.wrap ((s_0.len : Int) + (v_2.len : Int))) : Int).toNat - (0 : Int).toNat) : Int) ∧ ((((IntKind.i64.wrap ((s_0.len : Int) + (v_2.len : Int))) : Int).toNat - (0 : Int).toNat) : Int) ≤ ((s_0.cap - (0 : Int).toNat) : Int)) <| pAssert (0 ≤ (i_1 : Int) ∧ (i_1 : Int) ≤ ((((IntKind.i64.wrap ((s_0.len : Int) + (v_2.len : Int))) : Int).toNat - (0 : Int).toNat) : Int) ∧ ((((IntKind.i64.wrap ((s_0.len : Int) + (v_2.len : Int))) : Int).toNat - (0 : Int).toNat) : Int) ≤ ((s_0.cap - (0 : Int).toNat) : Int)) <| pCopy 1 ⟨(if (s_0.cap - (0 : Int).toNat) = ((IntKind.i64.wrap (i_1 + (v_2.len : Int))) : Int).toNat then (if s_0.cap = (0 : Int).toNat then s_0.base else (s_0.base : Option Addr).map (·.add ((0 : Int).toNat * 1))) else ((if s_0.cap = (0 : Int).toNat then s_0.base else (s_0.base : Option Addr).map (·.add ((0 : Int).toNat * 1))) : Option Addr).map (·.add (((IntKind.i64.wrap (i_1 + (v_2.len : Int))) : Int).toNat * 1))), ((((((IntKind.i64.wrap ((s_0.len : Int) + (v_2.len : Int))) : Int).toNat - (0 : Int).toNat) : Int) : Int).toNat - ((IntKind.i64.wrap (i_1 + (v_2.len : Int))) : Int).toNat), ((s_0.cap - (0 : Int).toNat) - ((IntKind.i64.wrap (i_1 + (v_2.len : Int))) : Int).toNat)⟩ ⟨(if (s_0.cap - (0 : Int).toNat) = (i_1 : Int).toNat then (if s_0.cap = (0 : Int).toNat then s_0.base else (s_0.base : Option Addr).map (·.add ((0 : Int).toNat * 1))) else ((if s_0.cap = (0 : Int).toNat then s_0.base else (s_0.base : Option Addr).map (·.add ((0 : Int).toNat * 1))) : Option Addr).map (·.add ((i_1 : Int).toNat * 1))), ((((((IntKind.i64.wrap ((s_0.len : Int) + (v_2.len : Int))) : Int).toNat - (0 : Int).toNat) : Int) : Int).toNat - (i_1 : Int).toNat), ((s_0.cap - (0 : Int).toNat) - (i_1 : Int).toNat)⟩ fun (n6 : Int) => pAssert (0 ≤ (i_1 : Int) ∧ (i_1 : Int) ≤ ((((IntKind.i64.wrap ((s_0.len : Int) + (v_2.len : Int))) : Int).toNat - (0 : Int).toNat) : Int) ∧ ((((IntKind.i64.wrap ((s_0.len : Int) + (v_2.len : Int))) : Int).toNat - (0 : Int).toNat) : Int) ≤ ((s_0.cap - (0 : Int).toNat) : Int)) <| pCopy 1 ⟨(if (s_0.cap - (0 : Int).toNat) = (i_1 : Int).toNat then (if s_0.cap = (0 : Int).toNat then s_0.base else (s_0.base : Option Addr).map (·.add ((0 : Int).toNat * 1))) else ((if s_0.cap = (0 : Int).toNat then s_0.base else (s_0.base : Option Addr).map (·.add ((0 : Int).toNat * 1))) : Option Addr).map (·.add ((i_1 : Int).toNat * 1))), ((((((IntKind.i64.wrap ((s_0.len : Int) + (v_2.len : Int))) : Int).toNat - (0 : Int).toNat) : Int) : Int).toNat - (i_1 : Int).toNat), ((s_0.cap - (0 : Int).toNat) - (i_1 : Int).toNat)⟩ v_2 fun (n7 : Int) => K (.slice (if s_0.cap = (0 : Int).toNat then s_0.base else (s_0.base : Option Addr).map (·.add ((0 : Int).toNat * 1))) (((IntKind.i64.wrap ((s_0.len : Int) + (v_2.len : Int))) : Int).toNat - (0 : Int).toNat) (s_0.cap - (0 : Int).toNat)))
  (pAssert (0 ≤ ((s_0.len : Int) : Int) ∧ ((s_0.len : Int) : Int) ≤ ((((IntKind.i64.wrap ((s_0.len : Int) + (v_2.len : Int))) : Int).toNat - (0 : Int).toNat) : Int) ∧ ((((IntKind.i64.wrap ((s_0.len : Int) + (v_2.len : Int))) : Int).toNat - (0 : Int).toNat) : Int) ≤ ((s_0.cap - (0 : Int).toNat) : Int)) <| pCopy 1 ⟨(if (s_0.cap - (0 : Int).toNat) = ((s_0.len : Int) : Int).toNat then (if s_0.cap = (0 : Int).toNat then s_0.base else (s_0.base : Option Addr).map (·.add ((0 : Int).toNat * 1))) else ((if s_0.cap = (0 : Int).toNat then s_0.base else (s_0.base : Option Addr).map (·.add ((0 : Int).toNat * 1))) : Option Addr).map (·.add (((s_0.len : Int) : Int).toNat * 1))), ((((((IntKind.i64.wrap ((s_0.len : Int) + (v_2.len : Int))) : Int).toNat - (0 : Int).toNat) : Int) : Int).toNat - ((s_0.len : Int) : Int).toNat), ((s_0.cap - (0 : Int).toNat) - ((s_0.len : Int) : Int).toNat)⟩ v_2 fun (n8 : Int) => pAssert (0 ≤ (i_1 : Int) ∧ (i_1 : Int) ≤ ((((IntKind.i64.wrap ((s_0.len : Int) + (v_2.len : Int))) : Int).toNat - (0 : Int).toNat) : Int) ∧ ((((IntKind.i64.wrap ((s_0.len : Int) + (v_2.len : Int))) : Int).toNat - (0 : Int).toNat) : Int) ≤ ((s_0.cap - (0 : Int).toNat) : Int)) <| pCall Try.prog 57 [(.slice (if (s_0.cap - (0 : Int).toNat) = (i_1 : Int).toNat then (if s_0.cap = (0 : Int).toNat then s_0.base else (s_0.base : Option Addr).map (·.add ((0 : Int).toNat * 1))) else ((if s_0.cap = (0 : Int).toNat then s_0.base else (s_0.base : Option Addr).map (·.add ((0 : Int).toNat * 1))) : Option Addr).map (·.add ((i_1 : Int).toNat * 1))) ((((((IntKind.i64.wrap ((s_0.len : Int) + (v_2.len : Int))) : Int).toNat - (0 : Int).toNat) : Int) : Int).toNat - (i_1 : Int).toNat) ((s_0.cap - (0 : Int).toNat) - (i_1 : Int).toNat)), (.int .i64 (v_2.len : Int))] KP (.many []) fun (r9 : Unit) => K (.slice (if s_0.cap = (0 : Int).toNat then s_0.base else (s_0.base : Option Addr).map (·.add ((0 : Int).toNat * 1))) (((IntKind.i64.wrap ((s_0.len : Int) + (v_2.len : Int))) : Int).toNat - (0 : Int).toNat) (s_0.cap - (0 : Int).toNat))))))
def slices_Insert_int_int_ann : Ann := .two (.none) (.two (.none) (.two (.none) (.two (.two (.none) (.two (.two (.none) (.none)) (.none))) (.two (.none) (.two (.two (.none) (.two (.two (.none) (.none)) (.none))) (.two (.two (.none) (.two (.two (.none) (.two (.none) (.two (.ord [0, 1, 2, 3, 4, 5, 6, 7, 8]) (.two (.none) (.none))))) (.none))) (.two (.none) (.two (.two (.none) (.two (.two (.ord [0, 1, 2, 3, 4, 5, 6, 7, 8]) (.two (.none) (.two (.none) (.none)))) (.none))) (.two (.none) (.two (.none) (.two (.none) (.none))))))))))))
theorem slices_Insert_int_int_eq (s_0 : Sl) (i_1 : Int) (v_2 : Sl) (KP K : Value → Pr) : vcBody Try.prog Try.f44 (Try.f44.body.getD .skip) slices_Insert_int_int_ann [(.slice s_0.base s_0.len s_0.cap), (.int .i64 i_1), (.slice v_2.base v_2.len v_2.cap)] KP K = slices_Insert_int_int s_0 i_1 v_2 KP K := by kernel_rfl
theorem slices_Insert_int_int_call (s_0 : Sl) (i_1 : Int) (v_2 : Sl) {KP K : Value → Pr} {h : Heap} (s : slices_Insert_int_int s_0 i_1 v_2 (fgt KP) (fgt K) h) : WpCall Try.prog 44 [(.slice s_0.base s_0.len s_0.cap), (.int .i64 i_1), (.slice v_2.base v_2.len v_2.cap)].toArray KP K h :=
  WpCall.of_vc Try.mixed Try.func44 (by kernel_rfl) Try.call44 slices_Insert_int_int_ann (by rw [slices_Insert_int_int_eq]; exact s)

/- slices.Delete[[]string,string] -/
def slices_Delete_string_string (s_0 : Sl) (i_1 : Int) (j_2 : Int) (KP K : Value → Pr) : Pr :=
  pAssert (0 ≤ (i_1 : Int) ∧ (i_1 : Int) ≤ j_2 ∧ j_2 ≤ ((s_0.len : Int) : Int) ∧ ((s_0.len : Int) : Int) ≤ (s_0.cap : Int)) <| pIf ((i_1 : Int) == j_2)
  (K (.slice s_0.base s_0.len s_0.cap))
  (pAssert (0 ≤ (0 : Int) ∧ (0 : Int) ≤ i_1 ∧ i_1 ≤ (s_0.cap : Int)) <| pAssert (0 ≤ (j_2 : Int) ∧ (j_2 : Int) ≤ (s_0.len : Int) ∧ (s_0.len : Int) ≤ (s_0.cap : Int)) <| pAppend 1 16 ⟨(if s_0.cap = (0 : Int).toNat then s_0.base else (s_0.base : Option Addr).map (·.add ((0 : Int).toNat * 1))), ((i_1 : Int).toNat - (0 : Int).toNat), (s_0.cap - (0 : Int).toNat)⟩ ⟨(if s_0.cap = (j_2 : Int).toNat then s_0.base else (s_0.base : Option Addr).map (·.add ((j_2 : Int).toNat * 1))), (((s_0.len : Int) : Int).toNat - (j_2 : Int).toNat), (s_0.cap - (j_2 : Int).toNat)⟩ fun s1 => pAssert (0 ≤ ((s1.len : Int) : Int) ∧ ((s1.len : Int) : Int) ≤ (s_0.len : Int) ∧ (s_0.len : Int) ≤ (s1.cap : Int)) <| pClear 1 (zc Try.prog 9) ⟨(if s1.cap = ((s1.len : Int) : Int).toNat then s1.base else (s1.base : Option Addr).map (·.add (((s1.len : Int) : Int).toNat * 1))), (((s_0.len : Int) : Int).toNat - ((s1.len : Int) : Int).toNat), (s1.cap - ((s1.len : Int) : Int).toNat)⟩ <| K (.slice s1.base s1.len s1.cap))
def slices_Delete_string_string_ann : Ann := .two (.none) (.two (.none) (.two (.two (.none) (.two (.two (.none) (.none)) (.none))) (.two (.none) (.two (.ord [0, 1, 2, 3, 4, 5, 6, 7]) (.two (.none) (.two (.none) (.none)))))))
theorem slices_Delete_string_string_eq (s_0 : Sl) (i_1 : Int) (j_2 : Int) (KP K : Value → Pr) : vcBody Try.prog Try.f45 (Try.f45.body.getD .skip) slices_Delete_string_string_ann [(.slice s_0.base s_0.len s_0.cap), (.int .i64 i_1), (.int .i64 j_2)] KP K = slices_Delete_string_string s_0 i_1 j_2 KP K := by kernel_rfl
theorem slices_Delete_string_string_call (s_0 : Sl) (i_1 : Int) (j_2 : Int) {KP K : Value → Pr} {h : Heap} (s : slices_Delete_string_string s_0 i_1 j_2 (fgt KP) (fgt K) h) : WpCall Try.prog 45 [(.slice s_0.base s_0.len s_0.cap), (.int .i64 i_1), (.int .i64 j_2)].toArray KP K h :=
  WpCall.of_vc Try.mixed Try.func45 (by kernel_rfl) Try.call45 slices_Delete_string_string_ann (by rw [slices_Delete_string_string_eq]; exact s)

/- slices.Delete[[]int,int] -/
def slices_Delete_int_int (s_0 : Sl) (i_1 : Int) (j_2 : Int) (KP K : Value → Pr) : Pr :=
  pAssert (0 ≤ (i_1 : Int) ∧ (i_1 : Int) ≤ j_2 ∧ j_2 ≤ ((s_0.len : Int) : Int) ∧ ((s_0.len : Int) : Int) ≤ (s_0.cap : Int)) <| pIf ((i_1 : Int) == j_2)
  (K (.slice s_0.base s_0.len s_0.cap))
  (pAssert (0 ≤ (0 : Int) ∧ (0 : Int) ≤ i_1 ∧ i_1 ≤ (s_0.cap : Int)) <| pAssert (0 ≤ (j_2 : Int) ∧ (j_2 : Int) ≤ (s_0.len : Int) ∧ (s_0.len : Int) ≤ (s_0.cap : Int)) <| pAppend 1 8 ⟨(if s_0.cap = (0 : Int).toNat then s_0.base else (s_0.base : Option Addr).map (·.add ((0 : Int).toNat * 1))), ((i_1 : Int).toNat - (0 : Int).toNat), (s_0.cap - (0 : Int).toNat)⟩ ⟨(if s_0.cap = (j_2 : Int).toNat then s_0.base else (s_0.base : Option Addr).map (·.add ((j_2 : Int).toNat * 1))), (((s_0.len : Int) : Int).toNat - (j_2 : Int).toNat), (s_0.cap - (j_2 : Int).toNat)⟩ fun s1 => pAssert (0 ≤ ((s1.len : Int) : Int) ∧ ((s1.len : Int) : Int) ≤ (s_0.len : Int) ∧ (s_0.len : Int) ≤ (s1.cap : Int)) <| pClear 1 (zc Try.prog 3) ⟨(if s1.cap = ((s1.len : Int) : Int).toNat then s1.base else (s1.base : Option Addr).map (·.add (((s1.len : Int) : Int).toNat * 1))), (((s_0.len : Int) : Int).toNat - ((s1.len : Int) : Int).toNat), (s1.cap - ((s1.len : Int) : Int).toNat)⟩ <| K (.slice s1.base s1.len s1.cap))
def slices_Delete_int_int_ann : Ann := .two (.none) (.two (.none) (.two (.two (.none) (.two (.two (.none) (.none)) (.none))) (.two (.none) (.two (.ord [0, 1, 2, 3, 4, 5, 6, 7]) (.two (.none) (.two (.none) (.none)))))))
theorem slices_Delete_int_int_eq (s_0 : Sl) (i_1 : Int) (j_2 : Int) (KP K : Value → Pr) : vcBody Try.prog Try.f46 (Try.f46.body.getD .skip) slices_Delete_int_int_ann [(.slice s_0.base s_0.len s_0.cap), (.int .i64 i_1), (.int .i64 j_2)] KP K = slices_Delete_int_int s_0 i_1 j_2 KP K := by kernel_rfl
theorem slices_Delete_int_int_call (s_0 : Sl) (i_1 : Int) (j_2 : Int) {KP K : Value → Pr} {h : Heap} (s : slices_Delete_int_int s_0 i_1 j_2 (fgt KP) (fgt K) h) : WpCall Try.prog 46 [(.slice s_0.base s_0.len s_0.cap), (.int .i64 i_1), (.int .i64 j_2)].toArray KP K h :=
  WpCall.of_vc Try.mixed Try.func46 (by kernel_rfl) Try.call46 slices_Delete_int_int_ann (by rw [slices_Delete_int_int_eq]; exact s)

/- strings.IndexAny -/
def strings_IndexAny_j1 (s_0 : ByteArray) (KP : Value → Pr) (K : Value → Pr) (x2 : Int) : Pr :=
  pCall Try.prog 58 [(.string s_0), (.int .i32 x2)] KP (.one (.int .i64)) fun (r3 : Int) => K (.int .i64 r3)
def strings_IndexAny_l2 (s_0 : ByteArray) (KP : Value → Pr) (K : Value → Pr) (b7 : Nat) (k8 : Int × Unit → Pr) (x9 : Int) : Pr :=
  pIf (decide ((x9 : Int) < (s_0.size : Int)))
  (pIdx x9 s_0.size <| pCall Try.prog 61 [(.pointer (some ⟨b7, 0, none⟩)), (.int .u8 (byteAt s_0 x9))] KP (.one .bool) fun (r10 : Bool) => pIf r10
  (K (.int .i64 x9))
  (k8 ((IntKind.i64.wrap (x9 + 1)), ())))
  (K (.int .i64 (-1)))
def strings_IndexAny_l3 (chars_1 : ByteArray) (KP : Value → Pr) (K : Value → Pr) (b11 : Nat) (k12 : Unit → Pr) : Pr :=
  pRune b11 (fun (i13 : Int) (c14 : Int) => pCall Try.prog 58 [(.string chars_1), (.int .i32 c14)] KP (.one (.int .i64)) fun (r15 : Int) => pIf (decide ((r15 : Int) ≥ 0))
  (K (.int .i64 i13))
  (k12 (())))
  (K (.int .i64 (-1)))
def strings_IndexAny_j4 (s_0 : ByteArray) (chars_1 : ByteArray) (KP : Value → Pr) (K : Value → Pr) : Pr :=
  pNewObj (.obj (.stringIter s_0 0)) fun b11 => pLoop (σ := Unit) (fun s k12 => strings_IndexAny_l3 chars_1 KP K b11 k12) (())
def strings_IndexAny (s_0 : ByteArray) (chars_1 : ByteArray) (KP K : Value → Pr) : Pr :=
  pIf (strEq chars_1 ⟨#[]⟩)
  (K (.int .i64 (-1)))
  (pIf (((chars_1.size : Int) : Int) == 1)
  (pIdx 0 chars_1.size <| pJoin (σ := Int × Unit)
  (fun k1 => pIf (decide (((IntKind.i32.wrap (byteAt chars_1 0)) : Int) ≥ 128))
  (k1 (65533, ()))
  (k1 ((IntKind.i32.wrap (byteAt chars_1 0)), ())))
  (fun s => strings_IndexAny_j1 s_0 KP K s.1))
  (pJoin (σ := Unit)
  (fun k4 => pCall Try.prog 59 [(.int .i64 (s_0.size : Int))] KP (.one .bool) fun (r5 : Bool) => pIf r5
  (pCall Try.prog 60 [(.string chars_1)] KP (.many [.agg, .bool]) fun (r6 : (List Value) × Bool × Unit) => pNew (zc Try.prog 100) fun b7 => pStA 256 ⟨b7, 0, none⟩ r6.1 <| pIf r6.2.1
  (pLoop (σ := Int × Unit) (fun s k8 => strings_IndexAny_l2 s_0 KP K b7 k8 s.1) (0, ()))
  (k4 (())))
  (k4 (())))
  (fun s => strings_IndexAny_j4 s_0 chars_1 KP K)))
def strings_IndexAny_ann : Ann := .two (.none) (.two (.two (.none) (.two (.two (.none) (.none)) (.none))) (.two (.two (.none) (.two (.two (.none) (.join (.two (.none) (.two (.none) (.none))) (.two (.none) (.none)) [(5, (.int .i32))])) (.none))) (.join (.two (.none) (.two (.two (.none) (.two (.none) (.two (.two (.two (.none) (.sub (.loop [(8, (.int .i64))] (.two (.two (.none) (.two (.none) (.none))) (.two (.sub (.two (.none) (.two (.two (.none) (.none)) (.none)))) (.none)))))) (.two (.none) (.none))) (.none)))) (.none))) (.two (.two (.none) (.sub (.loop [] (.two (.none) (.two (.two (.none) (.none)) (.sub (.two (.none) (.two (.none) (.two (.two (.none) (.none)) (.none)))))))))) (.two (.none) (.none))) [])))
theorem strings_IndexAny_eq (s_0 : ByteArray) (chars_1 : ByteArray) (KP K : Value → Pr) : vcBody Try.prog Try.f47 (Try.f47.body.getD .skip) strings_IndexAny_ann [(.string s_0), (.string chars_1)] KP K = strings_IndexAny s_0 chars_1 KP K := by kernel_rfl
theorem strings_IndexAny_call (s_0 : ByteArray) (chars_1 : ByteArray) {KP K : Value → Pr} {h : Heap} (s : strings_IndexAny s_0 chars_1 (fgt KP) (fgt K) h) : WpCall Try.prog 47 [(.string s_0), (.string chars_1)].toArray KP K h :=
  WpCall.of_vc Try.mixed Try.func47 (by kernel_rfl) Try.call47 strings_IndexAny_ann (by rw [strings_IndexAny_eq]; exact s)

/- container/heap.up -/
def container_heap_up_j1 (h_0 : Value) (KP : Value → Pr) (K : Value → Pr) (k1 : Int × Unit → Pr) (x2 : Int) (x5 : Bool) : Pr :=
  pIf x5
  (K (.tuple [].toArray))
  (pInvoke Try.prog KP "Swap" h_0 [(.int .i64 (IntKind.i64.wrap (((IntKind.i64.wrap (x2 - 1)) : Int).tdiv 2))), (.int .i64 x2)] (.many []) fun (r6 : Unit) => k1 ((IntKind.i64.wrap (((IntKind.i64.wrap (x2 - 1)) : Int).tdiv 2)), ()))
def container_heap_up_l2 (h_0 : Value) (KP : Value → Pr) (K : Value → Pr) (k1 : Int × Unit → Pr) (x2 : Int) : Pr :=
  pAssert ((2 : Int) ≠ 0) <| pJoin (σ := Bool × Unit)
  (fun k3 => pIf (((IntKind.i64.wrap (((IntKind.i64.wrap (x2 - 1)) : Int).tdiv 2)) : Int) == x2)
  (k3 (true, ()))
  (pInvoke Try.prog KP "Less" h_0 [(.int .i64 x2), (.int .i64 (IntKind.i64.wrap (((IntKind.i64.wrap (x2 - 1)) : Int).tdiv 2)))] (.one .bool) fun (r4 : Bool) => k3 ((!r4), ())))
  (fun s => container_heap_up_j1 h_0 KP K k1 x2 s.1)
def container_heap_up (h_0 : Value) (j_1 : Int) (KP K : Value → Pr) : Pr :=
  pLoop (σ := Int × Unit) (fun s k1 => container_heap_up_l2 h_0 KP K k1 s.1) (j_1, ())
def container_heap_up_ann : Ann := .sub (.loop [(1, (.int .i64))] (.sub (.two (.none) (.two (.join (.none) (.two (.none) (.none)) [(17, .bool)]) (.two (.none) (.none))))))
theorem container_heap_up_eq (h_0 : Value) (j_1 : Int) (KP K : Value → Pr) : vcBody Try.prog Try.f48 (Try.f48.body.getD .skip) container_heap_up_ann [h_0, (.int .i64 j_1)] KP K = container_heap_up h_0 j_1 KP K := by kernel_rfl
theorem container_heap_up_call (h_0 : Value) (j_1 : Int) {KP K : Value → Pr} {h : Heap} (s : container_heap_up h_0 j_1 (fgt KP) (fgt K) h) : WpCall Try.prog 48 [h_0, (.int .i64 j_1)].toArray KP K h :=
  WpCall.of_vc Try.mixed Try.func48 (by kernel_rfl) Try.call48 container_heap_up_ann (by rw [container_heap_up_eq]; exact s)

/- container/heap.down -/
def container_heap_down_j1 (x3 : Int) (k6 : Int × Unit → Pr) (x9 : Bool) : Pr :=
  pIf x9
  (k6 ((IntKind.i64.wrap ((IntKind.i64.wrap ((IntKind.i64.wrap (2 * x3)) + 1)) + 1)), ()))
  (k6 ((IntKind.i64.wrap ((IntKind.i64.wrap (2 * x3)) + 1)), ()))
def container_heap_down_j2 (h_0 : Value) (KP : Value → Pr) (k1 : Int × Unit → Pr) (k2 : Int × Unit → Pr) (x3 : Int) (x10 : Int) : Pr :=
  pInvoke Try.prog KP "Less" h_0 [(.int .i64 x10), (.int .i64 x3)] (.one .bool) fun (r11 : Bool) => pIf (!r11)
  (k1 (x3, ()))
  (pInvoke Try.prog KP "Swap" h_0 [(.int .i64 x3), (.int .i64 x10)] (.many []) fun (r12 : Unit) => k2 (x10, ()))
def container_heap_down_j3 (h_0 : Value) (n_2 : Int) (KP : Value → Pr) (k1 : Int × Unit → Pr) (k2 : Int × Unit → Pr) (x3 : Int) (x5 : Bool) : Pr :=
  pIf x5
  (k1 (x3, ()))
  (pJoin (σ := Int × Unit)
  (fun k6 => pJoin (σ := Bool × Unit)
  (fun k7 => pIf (decide (((IntKind.i64.wrap ((IntKind.i64.wrap ((IntKind.i64.wrap (2 * x3)) + 1)) + 1)) : Int) < n_2))
  (pInvoke Try.prog KP "Less" h_0 [(.int .i64 (IntKind.i64.wrap ((IntKind.i64.wrap ((IntKind.i64.wrap (2 * x3)) + 1)) + 1))), (.int .i64 (IntKind.i64.wrap ((IntKind.i64.wrap (2 * x3)) + 1)))] (.one .bool) fun (r8 : Bool) => k7 (r8, ()))
  (k7 (false, ())))
  (fun s => container_heap_down_j1 x3 k6 s.1))
  (fun s => container_heap_down_j2 h_0 KP k1 k2 x3 s.1))
def container_heap_down_l4 (h_0 : Value) (n_2 : Int) (KP : Value → Pr) (k1 : Int × Unit → Pr) (k2 : Int × Unit → Pr) (x3 : Int) : Pr :=
  pJoin (σ := Bool × Unit)
  (fun k4 => pIf (decide (((IntKind.i64.wrap ((IntKind.i64.wrap (2 * x3)) + 1)) : Int) ≥ n_2))
  (k4 (true, ()))
  (k4 ((decide (((IntKind.i64.wrap ((IntKind.i64.wrap (2 * x3)) + 1)) : Int) < 0)), ())))
  (fun s => container_heap_down_j3 h_0 n_2 KP k1 k2 x3 s.1)
def container_heap_down_j5 (i0_1 : Int) (K : Value → Pr) (x13 : Int) : Pr :=
  K (.bool (decide ((x13 : Int) > i0_1)))
def container_heap_down (h_0 : Value) (i0_1 : Int) (n_2 : Int) (KP K : Value → Pr) : Pr :=
  pJoin (σ := Int × Unit)
  (fun k1 => pLoop (σ := Int × Unit) (fun s k2 => container_heap_down_l4 h_0 n_2 KP k1 k2 s.1) (i0_1, ()))
  (fun s => container_heap_down_j5 i0_1 K s.1)
def container_heap_down_ann : Ann := .two (.none) (.two (.none) (.join (.sub (.loop [(7, (.int .i64))] (.sub (.two (.none) (.two (.join (.none) (.two (.none) (.none)) [(21, .bool)]) (.two (.none) (.join (.two (.none) (.join (.none) (.two (.none) (.none)) [(33, .bool)])) (.two (.two (.none) (.two (.none) (.none))) (.two (.none) (.none))) [(9, (.int .i64))]))))))) (.two (.none) (.none)) [(7, (.int .i64))]))
theorem container_heap_down_eq (h_0 : Value) (i0_1 : Int) (n_2 : Int) (KP K : Value → Pr) : vcBody Try.prog Try.f49 (Try.f49.body.getD .skip) container_heap_down_ann [h_0, (.int .i64 i0_1), (.int .i64 n_2)] KP K = container_heap_down h_0 i0_1 n_2 KP K := by kernel_rfl
theorem container_heap_down_call (h_0 : Value) (i0_1 : Int) (n_2 : Int) {KP K : Value → Pr} {h : Heap} (s : container_heap_down h_0 i0_1 n_2 (fgt KP) (fgt K) h) : WpCall Try.prog 49 [h_0, (.int .i64 i0_1), (.int .i64 n_2)].toArray KP K h :=
  WpCall.of_vc Try.mixed Try.func49 (by kernel_rfl) Try.call49 container_heap_down_ann (by rw [container_heap_down_eq]; exact s)

/- slices.Clone[[]string,string] -/
def slices_Clone_string_string (s_0 : Sl) (KP K : Value → Pr) : Pr :=
  pIf (s_0.base.isNone)
  (K (.slice none 0 0))
  (pNew (lay (reps 0 (zc Try.prog 9)) []) fun b1 => pAppend 1 16 ⟨(some ⟨b1, 0, none⟩), 0, 0⟩ s_0 fun s2 => K (.slice s2.base s2.len s2.cap))
def slices_Clone_string_string_ann : Ann := .two (.none) (.two (.two (.none) (.two (.two (.none) (.none)) (.none))) (.two (.none) (.none)))
theorem slices_Clone_string_string_eq (s_0 : Sl) (KP K : Value → Pr) : vcBody Try.prog Try.f50 (Try.f50.body.getD .skip) slices_Clone_string_string_ann [(.slice s_0.base s_0.len s_0.cap)] KP K = slices_Clone_string_string s_0 KP K := by kernel_rfl
theorem slices_Clone_string_string_call (s_0 : Sl) {KP K : Value → Pr} {h : Heap} (s : slices_Clone_string_string s_0 (fgt KP) (fgt K) h) : WpCall Try.prog 50 [(.slice s_0.base s_0.len s_0.cap)].toArray KP K h :=
  WpCall.of_vc Try.mixed Try.func50 (by kernel_rfl) Try.call50 slices_Clone_string_string_ann (by rw [slices_Clone_string_string_eq]; exact s)

end Go.Proofs.Ytkbcneomjkfheaa

set_option linter.unusedVariables false
namespace Go.Proofs.Ytkbcneomjkfheaa
open Go.Hl
/- slices.Clone[[]int,int] -/
def slices_Clone_int_int (s_0 : Sl) (KP K : Value → Pr) : Pr :=
  pIf (s_0.base.isNone)
  (K (.slice none 0 0))
  (pNew (lay (reps 0 (zc Try.prog 3)) []) fun b1 => pAppend 1 8 ⟨(some ⟨b1, 0, none⟩), 0, 0⟩ s_0 fun s2 => K (.slice s2.base s2.len s2.cap))
def slices_Clone_int_int_ann : Ann := .two (.none) (.two (.two (.none) (.two (.two (.none) (.none)) (.none))) (.two (.none) (.none)))
theorem slices_Clone_int_int_eq (s_0 : Sl) (KP K : Value → Pr) : vcBody Try.prog Try.f51 (Try.f51.body.getD .skip) slices_Clone_int_int_ann [(.slice s_0.base s_0.len s_0.cap)] KP K = slices_Clone_int_int s_0 KP K := by kernel_rfl
theorem slices_Clone_int_int_call (s_0 : Sl) {KP K : Value → Pr} {h : Heap} (s : slices_Clone_int_int s_0 (fgt KP) (fgt K) h) : WpCall Try.prog 51 [(.slice s_0.base s_0.len s_0.cap)].toArray KP K h :=
  WpCall.of_vc Try.mixed Try.func51 (by kernel_rfl) Try.call51 slices_Clone_int_int_ann (by rw [slices_Clone_int_int_eq]; exact s)

/- cmp.Less[string] -/
def cmp_Less_string_j1 (K : Value → Pr) (x4 : Bool) : Pr :=
  K (.bool x4)
def cmp_Less_string (x_0 : ByteArray) (y_1 : ByteArray) (KP K : Value → Pr) : Pr :=
  pJoin (σ := Bool × Unit)
  (fun k1 => pCall Try.prog 62 [(.string x_0)] KP (.one .bool) fun (r2 : Bool) => pIf r2
  (pCall Try.prog 62 [(.string y_1)] KP (.one .bool) fun (r3 : Bool) => pIf (!r3)
  (k1 (true, ()))
  (k1 ((Op.bytesLess x_0.toList y_1.toList), ())))
  (k1 ((Op.bytesLess x_0.toList y_1.toList), ())))
  (fun s => cmp_Less_string_j1 K s.1)
def cmp_Less_string_ann : Ann := .two (.none) (.join (.none) (.none) [(4, .bool)])
theorem cmp_Less_string_eq (x_0 : ByteArray) (y_1 : ByteArray) (KP K : Value → Pr) : vcBody Try.prog Try.f52 (Try.f52.body.getD .skip) cmp_Less_string_ann [(.string x_0), (.string y_1)] KP K = cmp_Less_string x_0 y_1 KP K := by kernel_rfl
theorem cmp_Less_string_call (x_0 : ByteArray) (y_1 : ByteArray) {KP K : Value → Pr} {h : Heap} (s : cmp_Less_string x_0 y_1 (fgt KP) (fgt K) h) : WpCall Try.prog 52 [(.string x_0), (.string y_1)].toArray KP K h :=
  WpCall.of_vc Try.mixed Try.func52 (by kernel_rfl) Try.call52 cmp_Less_string_ann (by rw [cmp_Less_string_eq]; exact s)

/- slices.isNaN[string] -/
def slices_isNaN_string (x_0 : ByteArray) (KP K : Value → Pr) : Pr :=
  K (.bool (!strEq x_0 x_0))
def slices_isNaN_string_ann : Ann := .two (.none) (.two (.none) (.none))
theorem slices_isNaN_string_eq (x_0 : ByteArray) (KP K : Value → Pr) : vcBody Try.prog Try.f53 (Try.f53.body.getD .skip) slices_isNaN_string_ann [(.string x_0)] KP K = slices_isNaN_string x_0 KP K := by kernel_rfl
theorem slices_isNaN_string_call (x_0 : ByteArray) {KP K : Value → Pr} {h : Heap} (s : slices_isNaN_string x_0 (fgt KP) (fgt K) h) : WpCall Try.prog 53 [(.string x_0)].toArray KP K h :=
  WpCall.of_vc Try.mixed Try.func53 (by kernel_rfl) Try.call53 slices_isNaN_string_ann (by rw [slices_isNaN_string_eq]; exact s)

/- slices.rotateRight[string] -/
def slices_rotateRight_string (s_0 : Sl) (r_1 : Int) (KP K : Value → Pr) : Pr :=
  pCall Try.prog 63 [(.slice s_0.base s_0.len s_0.cap), (.int .i64 (IntKind.i64.wrap ((s_0.len : Int) - r_1)))] KP (.many []) fun (r1 : Unit) => K (.tuple [].toArray)
def slices_rotateRight_string_ann : Ann := .none
theorem slices_rotateRight_string_eq (s_0 : Sl) (r_1 : Int) (KP K : Value → Pr) : vcBody Try.prog Try.f55 (Try.f55.body.getD .skip) slices_rotateRight_string_ann [(.slice s_0.base s_0.len s_0.cap), (.int .i64 r_1)] KP K = slices_rotateRight_string s_0 r_1 KP K := by kernel_rfl
theorem slices_rotateRight_string_call (s_0 : Sl) (r_1 : Int) {KP K : Value → Pr} {h : Heap} (s : slices_rotateRight_string s_0 r_1 (fgt KP) (fgt K) h) : WpCall Try.prog 55 [(.slice s_0.base s_0.len s_0.cap), (.int .i64 r_1)].toArray KP K h :=
  WpCall.of_vc Try.mixed Try.func55 (by kernel_rfl) Try.call55 slices_rotateRight_string_ann (by rw [slices_rotateRight_string_eq]; exact s)

/- slices.rotateRight[int] -/
def slices_rotateRight_int (s_0 : Sl) (r_1 : Int) (KP K : Value → Pr) : Pr :=
  pCall Try.prog 64 [(.slice s_0.base s_0.len s_0.cap), (.int .i64 (IntKind.i64.wrap ((s_0.len : Int) - r_1)))] KP (.many []) fun (r1 : Unit) => K (.tuple [].toArray)
def slices_rotateRight_int_ann : Ann := .none
theorem slices_rotateRight_int_eq (s_0 : Sl) (r_1 : Int) (KP K : Value → Pr) : vcBody Try.prog Try.f57 (Try.f57.body.getD .skip) slices_rotateRight_int_ann [(.slice s_0.base s_0.len s_0.cap), (.int .i64 r_1)] KP K = slices_rotateRight_int s_0 r_1 KP K := by kernel_rfl
theorem slices_rotateRight_int_call (s_0 : Sl) (r_1 : Int) {KP K : Value → Pr} {h : Heap} (s : slices_rotateRight_int s_0 r_1 (fgt KP) (fgt K) h) : WpCall Try.prog 57 [(.slice s_0.base s_0.len s_0.cap), (.int .i64 r_1)].toArray KP K h :=
  WpCall.of_vc Try.mixed Try.func57 (by kernel_rfl) Try.call57 slices_rotateRight_int_ann (by rw [slices_rotateRight_int_eq]; exact s)

/- strings.IndexRune -/
def strings_IndexRune_l1 (K : Value → Pr) (b4 : Nat) (k5 : Unit → Pr) : Pr :=
  pRune b4 (fun (i6 : Int) (c7 : Int) => pIf ((c7 : Int) == 65533)
  (K (.int .i64 i6))
  (k5 (())))
  (K (.int .i64 (-1)))
def strings_IndexRune_l2 (s_0 : ByteArray) (r_1 : Int) (K : Value → Pr) (x13 : Int) (k14 : Int × Unit → Pr) (x15 : Int) : Pr :=
  pIf (decide ((x15 : Int) < ((Utf8.encode r_1).size : Int)))
  (pIdx (IntKind.i64.wrap (x13 - x15)) s_0.size <| pIdx (IntKind.i64.wrap ((IntKind.i64.wrap (((Utf8.encode r_1).size : Int) - 1)) - x15)) (Utf8.encode r_1).size <| pIf (((byteAt s_0 (IntKind.i64.wrap (x13 - x15))) : Int) != (byteAt (Utf8.encode r_1) (IntKind.i64.wrap ((IntKind.i64.wrap (((Utf8.encode r_1).size : Int) - 1)) - x15))))
  (F)
  (k14 ((IntKind.i64.wrap (x15 + 1)), ())))
  (K (.int .i64 (IntKind.i64.wrap (x13 - (IntKind.i64.wrap (((Utf8.encode r_1).size : Int) - 1))))))
def strings_IndexRune_j3 (s_0 : ByteArray) (r_1 : Int) (K : Value → Pr) (x13 : Int) : Pr :=
  pLoop (σ := Int × Unit) (fun s k14 => strings_IndexRune_l2 s_0 r_1 K x13 k14 s.1) (1, ())
def strings_IndexRune_l4 (s_0 : ByteArray) (r_1 : Int) (KP : Value → Pr) (K : Value → Pr) (x10 : Int) : Pr :=
  pIf (decide ((x10 : Int) < (s_0.size : Int)))
  (pJoin (σ := Int × Unit)
  (fun k11 => pIdx x10 s_0.size <| pIdx (IntKind.i64.wrap (((Utf8.encode r_1).size : Int) - 1)) (Utf8.encode r_1).size <| pIf (((byteAt s_0 x10) : Int) != (byteAt (Utf8.encode r_1) (IntKind.i64.wrap (((Utf8.encode r_1).size : Int) - 1))))
  (pAssert (0 ≤ ((IntKind.i64.wrap (x10 + 1)) : Int) ∧ ((IntKind.i64.wrap (x10 + 1)) : Int) ≤ (s_0.size : Int) ∧ (s_0.size : Int) ≤ s_0.size) <| pIdx (IntKind.i64.wrap (((Utf8.encode r_1).size : Int) - 1)) (Utf8.encode r_1).size <| pCall Try.prog 65 [(.string (s_0.extract ((IntKind.i64.wrap (x10 + 1)) : Int).toNat ((s_0.size : Int) : Int).toNat)), (.int .u8 (byteAt (Utf8.encode r_1) (IntKind.i64.wrap (((Utf8.encode r_1).size : Int) - 1))))] KP (.one (.int .i64)) fun (r12 : Int) => pIf (decide ((r12 : Int) < 0))
  (K (.int .i64 (-1)))
  (k11 ((IntKind.i64.wrap (x10 + (IntKind.i64.wrap (r12 + 1)))), ())))
  (k11 (x10, ())))
  (fun s => strings_IndexRune_j3 s_0 r_1 K s.1))
  (K (.int .i64 (-1)))
def strings_IndexRune_j5 (s_0 : ByteArray) (r_1 : Int) (KP : Value → Pr) (K : Value → Pr) (x2 : Bool) : Pr :=
  pIf x2
  (pCall Try.prog 65 [(.string s_0), (.int .u8 (IntKind.u8.wrap r_1))] KP (.one (.int .i64)) fun (r3 : Int) => K (.int .i64 r3))
  (pIf ((r_1 : Int) == 65533)
  (pNewObj (.obj (.stringIter s_0 0)) fun b4 => pLoop (σ := Unit) (fun s k5 => strings_IndexRune_l1 K b4 k5) (()))
  (pCall Try.prog 66 [(.int .i32 r_1)] KP (.one .bool) fun (r8 : Bool) => pIf (!r8)
  (K (.int .i64 (-1)))
  (pLoop (σ := Int × Unit) (fun s k9 => strings_IndexRune_l4 s_0 r_1 KP K s.1) ((IntKind.i64.wrap (((Utf8.encode r_1).size : Int) - 1)), ()))))
def strings_IndexRune (s_0 : ByteArray) (r_1 : Int) (KP K : Value → Pr) : Pr :=
  pJoin (σ := Bool × Unit)
  (fun k1 => pIf (decide ((0 : Int) ≤ r_1))
  (k1 ((decide ((r_1 : Int) < 128)), ()))
  (k1 (false, ())))
  (fun s => strings_IndexRune_j5 s_0 r_1 KP K s.1)
def strings_IndexRune_ann : Ann := .two (.none) (.sub (.join (.none) (.two (.two (.none) (.none)) (.two (.none) (.two (.two (.two (.none) (.sub (.loop [] (.two (.none) (.two (.two (.none) (.none)) (.sub (.two (.none) (.two (.none) (.two (.two (.none) (.none)) (.none)))))))))) (.two (.none) (.none))) (.two (.none) (.two (.two (.none) (.none)) (.sub (.two (.none) (.two (.none) (.two (.none) (.two (.none) (.two (.sub (.loop [(9, (.int .i64))] (.two (.two (.none) (.two (.none) (.none))) (.sub (.sub (.join (.two (.ord [0, 1, 2, 3, 4, 5, 6]) (.two (.two (.ord [0, 1, 2, 3, 4, 5, 6, 7, 8]) (.two (.two (.none) (.two (.two (.none) (.none)) (.none))) (.none))) (.none))) (.two (.two (.none) (.sub (.loop [(12, (.int .i64))] (.two (.two (.none) (.two (.none) (.none))) (.two (.sub (.two (.ord [0, 1, 2, 3, 4, 5, 6, 7, 8, 9, 10]) (.two (.none) (.none)))) (.none)))))) (.two (.two (.none) (.none)) (.none))) [(9, (.int .i64))])))))) (.two (.two (.none) (.none)) (.none))))))))))))) [(160, .bool)]))
theorem strings_IndexRune_eq (s_0 : ByteArray) (r_1 : Int) (KP K : Value → Pr) : vcBody Try.prog Try.f58 (Try.f58.body.getD .skip) strings_IndexRune_ann [(.string s_0), (.int .i32 r_1)] KP K = strings_IndexRune s_0 r_1 KP K := by kernel_rfl
theorem strings_IndexRune_call (s_0 : ByteArray) (r_1 : Int) {KP K : Value → Pr} {h : Heap} (s : strings_IndexRune s_0 r_1 (fgt KP) (fgt K) h) : WpCall Try.prog 58 [(.string s_0), (.int .i32 r_1)].toArray KP K h :=
  WpCall.of_vc Try.mixed Try.func58 (by kernel_rfl) Try.call58 strings_IndexRune_ann (by rw [strings_IndexRune_eq]; exact s)

/- strings.shouldUseASCIISet -/
def strings_shouldUseASCIISet (bufLen_0 : Int) (KP K : Value → Pr) : Pr :=
  K (.bool (decide ((bufLen_0 : Int) > 8)))
def strings_shouldUseASCIISet_ann : Ann := .two (.none) (.two (.none) (.none))
theorem strings_shouldUseASCIISet_eq (bufLen_0 : Int) (KP K : Value → Pr) : vcBody Try.prog Try.f59 (Try.f59.body.getD .skip) strings_shouldUseASCIISet_ann [(.int .i64 bufLen_0)] KP K = strings_shouldUseASCIISet bufLen_0 KP K := by kernel_rfl
theorem strings_shouldUseASCIISet_call (bufLen_0 : Int) {KP K : Value → Pr} {h : Heap} (s : strings_shouldUseASCIISet bufLen_0 (fgt KP) (fgt K) h) : WpCall Try.prog 59 [(.int .i64 bufLen_0)].toArray KP K h :=
  WpCall.of_vc Try.mixed Try.func59 (by kernel_rfl) Try.call59 strings_shouldUseASCIISet_ann (by rw [strings_shouldUseASCIISet_eq]; exact s)

/- strings.makeASCIISet -/
def strings_makeASCIISet_l1 (chars_0 : ByteArray) (K : Value → Pr) (b1 : Nat) (k2 : Int × Unit → Pr) (x3 : Int) : Pr :=
  pIf (decide ((x3 : Int) < (chars_0.size : Int)))
  (pIdx x3 chars_0.size <| pIf (decide (((byteAt chars_0 x3) : Int) ≥ 128))
  (pLdA 256 ⟨b1, 0, none⟩ fun x4 => pStA 256 ⟨b1, 0, none⟩ x4 <| pLdA 256 ⟨b1, 0, none⟩ fun x5 => K (.tuple [(.agg x5.toArray), (.bool false)].toArray))
  (pIdx (byteAt chars_0 x3) 256 <| pSt ((⟨b1, 0, none⟩ : Addr).add (((byteAt chars_0 x3) : Int).toNat * 1)) (.bool true) <| k2 ((IntKind.i64.wrap (x3 + 1)), ())))
  (pLdA 256 ⟨b1, 0, none⟩ fun x6 => pStA 256 ⟨b1, 0, none⟩ x6 <| pLdA 256 ⟨b1, 0, none⟩ fun x7 => K (.tuple [(.agg x7.toArray), (.bool true)].toArray))
def strings_makeASCIISet (chars_0 : ByteArray) (KP K : Value → Pr) : Pr :=
  pNew (zc Try.prog 100) fun b1 => pLoop (σ := Int × Unit) (fun s k2 => strings_makeASCIISet_l1 chars_0 K b1 k2 s.1) (0, ())
def strings_makeASCIISet_ann : Ann := .two (.none) (.two (.two (.none) (.sub (.loop [(4, (.int .i64))] (.two (.two (.none) (.two (.none) (.none))) (.two (.sub (.two (.none) (.two (.two (.none) (.two (.two (.none) (.none)) (.none))) (.none)))) (.none)))))) (.two (.none) (.none)))
theorem strings_makeASCIISet_eq (chars_0 : ByteArray) (KP K : Value → Pr) : vcBody Try.prog Try.f60 (Try.f60.body.getD .skip) strings_makeASCIISet_ann [(.string chars_0)] KP K = strings_makeASCIISet chars_0 KP K := by kernel_rfl
theorem strings_makeASCIISet_call (chars_0 : ByteArray) {KP K : Value → Pr} {h : Heap} (s : strings_makeASCIISet chars_0 (fgt KP) (fgt K) h) : WpCall Try.prog 60 [(.string chars_0)].toArray KP K h :=
  WpCall.of_vc Try.mixed Try.func60 (by kernel_rfl) Try.call60 strings_makeASCIISet_ann (by rw [strings_makeASCIISet_eq]; exact s)

end Go.Proofs.Ytkbcneomjkfheaa

set_option linter.unusedVariables false
namespace Go.Proofs.Ytkbcneomjkfheaa
open Go.Hl
/- (*strings.asciiSet).contains -/
def strings_asciiSet_contains (as_0 : Option Addr) (c_1 : Int) (KP K : Value → Pr) : Pr :=
  pSome as_0 fun a1 => pIdx c_1 256 <| pLd .bool (a1.add ((c_1 : Int).toNat * 1)) fun (x2 : Bool) => K (.bool x2)
def strings_asciiSet_contains_ann : Ann := .two (.none) (.two (.none) (.none))
theorem strings_asciiSet_contains_eq (as_0 : Option Addr) (c_1 : Int) (KP K : Value → Pr) : vcBody Try.prog Try.f61 (Try.f61.body.getD .skip) strings_asciiSet_contains_ann [(.pointer as_0), (.int .u8 c_1)] KP K = strings_asciiSet_contains as_0 c_1 KP K := by kernel_rfl
theorem strings_asciiSet_contains_call (as_0 : Option Addr) (c_1 : Int) {KP K : Value → Pr} {h : Heap} (s : strings_asciiSet_contains as_0 c_1 (fgt KP) (fgt K) h) : WpCall Try.prog 61 [(.pointer as_0), (.int .u8 c_1)].toArray KP K h :=
  WpCall.of_vc Try.mixed Try.func61 (by kernel_rfl) Try.call61 strings_asciiSet_contains_ann (by rw [strings_asciiSet_contains_eq]; exact s)

/- cmp.isNaN[string] -/
def cmp_isNaN_string (x_0 : ByteArray) (KP K : Value → Pr) : Pr :=
  K (.bool (!strEq x_0 x_0))
def cmp_isNaN_string_ann : Ann := .two (.none) (.two (.none) (.none))
theorem cmp_isNaN_string_eq (x_0 : ByteArray) (KP K : Value → Pr) : vcBody Try.prog Try.f62 (Try.f62.body.getD .skip) cmp_isNaN_string_ann [(.string x_0)] KP K = cmp_isNaN_string x_0 KP K := by kernel_rfl
theorem cmp_isNaN_string_call (x_0 : ByteArray) {KP K : Value → Pr} {h : Heap} (s : cmp_isNaN_string x_0 (fgt KP) (fgt K) h) : WpCall Try.prog 62 [(.string x_0)].toArray KP K h :=
  WpCall.of_vc Try.mixed Try.func62 (by kernel_rfl) Try.call62 cmp_isNaN_string_ann (by rw [cmp_isNaN_string_eq]; exact s)

/- slices.rotateLeft[string] -/
def slices_rotateLeft_string (s_0 : Sl) (r_1 : Int) (KP K : Value → Pr) : Pr :=
  pAssert (0 ≤ (0 : Int) ∧ (0 : Int) ≤ r_1 ∧ r_1 ≤ (s_0.cap : Int)) <| pCall Try.prog 69 [(.slice (if s_0.cap = (0 : Int).toNat then s_0.base else (s_0.base : Option Addr).map (·.add ((0 : Int).toNat * 1))) ((r_1 : Int).toNat - (0 : Int).toNat) (s_0.cap - (0 : Int).toNat))] KP (.many []) fun (r1 : Unit) => pAssert (0 ≤ (r_1 : Int) ∧ (r_1 : Int) ≤ (s_0.len : Int) ∧ (s_0.len : Int) ≤ (s_0.cap : Int)) <| pCall Try.prog 69 [(.slice (if s_0.cap = (r_1 : Int).toNat then s_0.base else (s_0.base : Option Addr).map (·.add ((r_1 : Int).toNat * 1))) (((s_0.len : Int) : Int).toNat - (r_1 : Int).toNat) (s_0.cap - (r_1 : Int).toNat))] KP (.many []) fun (r2 : Unit) => pCall Try.prog 69 [(.slice s_0.base s_0.len s_0.cap)] KP (.many []) fun (r3 : Unit) => K (.tuple [].toArray)
def slices_rotateLeft_string_ann : Ann := .two (.none) (.two (.none) (.none))
theorem slices_rotateLeft_string_eq (s_0 : Sl) (r_1 : Int) (KP K : Value → Pr) : vcBody Try.prog Try.f63 (Try.f63.body.getD .skip) slices_rotateLeft_string_ann [(.slice s_0.base s_0.len s_0.cap), (.int .i64 r_1)] KP K = slices_rotateLeft_string s_0 r_1 KP K := by kernel_rfl
theorem slices_rotateLeft_string_call (s_0 : Sl) (r_1 : Int) {KP K : Value → Pr} {h : Heap} (s : slices_rotateLeft_string s_0 r_1 (fgt KP) (fgt K) h) : WpCall Try.prog 63 [(.slice s_0.base s_0.len s_0.cap), (.int .i64 r_1)].toArray KP K h :=
  WpCall.of_vc Try.mixed Try.func63 (by kernel_rfl) Try.call63 slices_rotateLeft_string_ann (by rw [slices_rotateLeft_string_eq]; exact s)

/- slices.rotateLeft[int] -/
def slices_rotateLeft_int (s_0 : Sl) (r_1 : Int) (KP K : Value → Pr) : Pr :=
  pAssert (0 ≤ (0 : Int) ∧ (0 : Int) ≤ r_1 ∧ r_1 ≤ (s_0.cap : Int)) <| pCall Try.prog 70 [(.slice (if s_0.cap = (0 : Int).toNat then s_0.base else (s_0.base : Option Addr).map (·.add ((0 : Int).toNat * 1))) ((r_1 : Int).toNat - (0 : Int).toNat) (s_0.cap - (0 : Int).toNat))] KP (.many []) fun (r1 : Unit) => pAssert (0 ≤ (r_1 : Int) ∧ (r_1 : Int) ≤ (s_0.len : Int) ∧ (s_0.len : Int) ≤ (s_0.cap : Int)) <| pCall Try.prog 70 [(.slice (if s_0.cap = (r_1 : Int).toNat then s_0.base else (s_0.base : Option Addr).map (·.add ((r_1 : Int).toNat * 1))) (((s_0.len : Int) : Int).toNat - (r_1 : Int).toNat) (s_0.cap - (r_1 : Int).toNat))] KP (.many []) fun (r2 : Unit) => pCall Try.prog 70 [(.slice s_0.base s_0.len s_0.cap)] KP (.many []) fun (r3 : Unit) => K (.tuple [].toArray)
def slices_rotateLeft_int_ann : Ann := .two (.none) (.two (.none) (.none))
theorem slices_rotateLeft_int_eq (s_0 : Sl) (r_1 : Int) (KP K : Value → Pr) : vcBody Try.prog Try.f64 (Try.f64.body.getD .skip) slices_rotateLeft_int_ann [(.slice s_0.base s_0.len s_0.cap), (.int .i64 r_1)] KP K = slices_rotateLeft_int s_0 r_1 KP K := by kernel_rfl
theorem slices_rotateLeft_int_call (s_0 : Sl) (r_1 : Int) {KP K : Value → Pr} {h : Heap} (s : slices_rotateLeft_int s_0 r_1 (fgt KP) (fgt K) h) : WpCall Try.prog 64 [(.slice s_0.base s_0.len s_0.cap), (.int .i64 r_1)].toArray KP K h :=
  WpCall.of_vc Try.mixed Try.func64 (by kernel_rfl) Try.call64 slices_rotateLeft_int_ann (by rw [slices_rotateLeft_int_eq]; exact s)

/- strings.IndexByte -/
def strings_IndexByte (s_0 : ByteArray) (c_1 : Int) (KP K : Value → Pr) : Pr :=
  pCall Try.prog 71 [(.string s_0), (.int .u8 c_1)] KP (.one (.int .i64)) fun (r1 : Int) => K (.int .i64 r1)
def strings_IndexByte_ann : Ann := .two (.none) (.two (.none) (.none))
theorem strings_IndexByte_eq (s_0 : ByteArray) (c_1 : Int) (KP K : Value → Pr) : vcBody Try.prog Try.f65 (Try.f65.body.getD .skip) strings_IndexByte_ann [(.string s_0), (.int .u8 c_1)] KP K = strings_IndexByte s_0 c_1 KP K := by kernel_rfl
theorem strings_IndexByte_call (s_0 : ByteArray) (c_1 : Int) {KP K : Value → Pr} {h : Heap} (s : strings_IndexByte s_0 c_1 (fgt KP) (fgt K) h) : WpCall Try.prog 65 [(.string s_0), (.int .u8 c_1)].toArray KP K h :=
  WpCall.of_vc Try.mixed Try.func65 (by kernel_rfl) Try.call65 strings_IndexByte_ann (by rw [strings_IndexByte_eq]; exact s)

/- unicode/utf8.ValidRune -/
def unicode_utf8_ValidRune_j1 (K : Value → Pr) (x4 : Bool) : Pr :=
  pIf x4
  (K (.bool true))
  (K (.bool false))
def unicode_utf8_ValidRune_j2 (r_0 : Int) (K : Value → Pr) (x2 : Bool) : Pr :=
  pIf x2
  (K (.bool true))
  (pJoin (σ := Bool × Unit)
  (fun k3 => pIf (decide ((57343 : Int) < r_0))
  (k3 ((decide ((r_0 : Int) ≤ 1114111)), ()))
  (k3 (false, ())))
  (fun s => unicode_utf8_ValidRune_j1 K s.1))
def unicode_utf8_ValidRune (r_0 : Int) (KP K : Value → Pr) : Pr :=
  pJoin (σ := Bool × Unit)
  (fun k1 => pIf (decide ((0 : Int) ≤ r_0))
  (k1 ((decide ((r_0 : Int) < 55296)), ()))
  (k1 (false, ())))
  (fun s => unicode_utf8_ValidRune_j2 r_0 K s.1)
def unicode_utf8_ValidRune_ann : Ann := .two (.none) (.two (.sub (.join (.none) (.two (.two (.none) (.none)) (.join (.none) (.two (.two (.none) (.none)) (.none)) [(10, .bool)])) [(3, .bool)])) (.two (.none) (.none)))
theorem unicode_utf8_ValidRune_eq (r_0 : Int) (KP K : Value → Pr) : vcBody Try.prog Try.f66 (Try.f66.body.getD .skip) unicode_utf8_ValidRune_ann [(.int .i32 r_0)] KP K = unicode_utf8_ValidRune r_0 KP K := by kernel_rfl
theorem unicode_utf8_ValidRune_call (r_0 : Int) {KP K : Value → Pr} {h : Heap} (s : unicode_utf8_ValidRune r_0 (fgt KP) (fgt K) h) : WpCall Try.prog 66 [(.int .i32 r_0)].toArray KP K h :=
  WpCall.of_vc Try.mixed Try.func66 (by kernel_rfl) Try.call66 unicode_utf8_ValidRune_ann (by rw [unicode_utf8_ValidRune_eq]; exact s)

/- internal/bytealg.Cutover -/
def internal_bytealg_Cutover (n_0 : Int) (KP K : Value → Pr) : Pr :=
  pAssert ((8 : Int) ≠ 0) <| K (.int .i64 (IntKind.i64.wrap (((IntKind.i64.wrap (n_0 + 16)) : Int).tdiv 8)))
def internal_bytealg_Cutover_ann : Ann := .two (.none) (.two (.none) (.none))
theorem internal_bytealg_Cutover_eq (n_0 : Int) (KP K : Value → Pr) : vcBody Try.prog Try.f67 (Try.f67.body.getD .skip) internal_bytealg_Cutover_ann [(.int .i64 n_0)] KP K = internal_bytealg_Cutover n_0 KP K := by kernel_rfl
theorem internal_bytealg_Cutover_call (n_0 : Int) {KP K : Value → Pr} {h : Heap} (s : internal_bytealg_Cutover n_0 (fgt KP) (fgt K) h) : WpCall Try.prog 67 [(.int .i64 n_0)].toArray KP K h :=
  WpCall.of_vc Try.mixed Try.func67 (by kernel_rfl) Try.call67 internal_bytealg_Cutover_ann (by rw [internal_bytealg_Cutover_eq]; exact s)

/- slices.Reverse[[]string,string] -/
def slices_Reverse_string_string_l1 (s_0 : Sl) (K : Value → Pr) (k1 : Int × Int × Unit → Pr) (x2 : Int) (x3 : Int) : Pr :=
  pIf (decide ((x2 : Int) < x3))
  (pIdx x3 s_0.len <| pSome s_0.base fun a4 => pIdx x2 s_0.len <| pSome s_0.base fun a5 => pLd .str (a4.add ((x3 : Int).toNat * 1)) fun (x6 : ByteArray) => pLd .str (a5.add ((x2 : Int).toNat * 1)) fun (x7 : ByteArray) => pIdx x2 s_0.len <| pSome s_0.base fun a8 => pSt (a8.add ((x2 : Int).toNat * 1)) (.string x6) <| pIdx x3 s_0.len <| pSome s_0.base fun a9 => pSt (a9.add ((x3 : Int).toNat * 1)) (.string x7) <| k1 ((IntKind.i64.wrap (x2 + 1)), (IntKind.i64.wrap (x3 - 1)), ()))
  (K (.tuple [].toArray))
def slices_Reverse_string_string (s_0 : Sl) (KP K : Value → Pr) : Pr :=
  pLoop (σ := Int × Int × Unit) (fun s k1 => slices_Reverse_string_string_l1 s_0 K k1 s.1 s.2.1) (0, (IntKind.i64.wrap ((s_0.len : Int) - 1)), ())
def slices_Reverse_string_string_ann : Ann := .two (.none) (.sub (.loop [(2, (.int .i64)), (3, (.int .i64))] (.two (.two (.none) (.two (.none) (.none))) (.two (.sub (.ord [0, 1, 2, 3, 4, 5, 6, 8, 9, 10, 7, 11, 12, 13, 14, 15])) (.none)))))
theorem slices_Reverse_string_string_eq (s_0 : Sl) (KP K : Value → Pr) : vcBody Try.prog Try.f69 (Try.f69.body.getD .skip) slices_Reverse_string_string_ann [(.slice s_0.base s_0.len s_0.cap)] KP K = slices_Reverse_string_string s_0 KP K := by kernel_rfl
theorem slices_Reverse_string_string_call (s_0 : Sl) {KP K : Value → Pr} {h : Heap} (s : slices_Reverse_string_string s_0 (fgt KP) (fgt K) h) : WpCall Try.prog 69 [(.slice s_0.base s_0.len s_0.cap)].toArray KP K h :=
  WpCall.of_vc Try.mixed Try.func69 (by kernel_rfl) Try.call69 slices_Reverse_string_string_ann (by rw [slices_Reverse_string_string_eq]; exact s)

end Go.Proofs.Ytkbcneomjkfheaa

set_option linter.unusedVariables false
namespace Go.Proofs.Ytkbcneomjkfheaa
open Go.Hl
/- slices.Reverse[[]int,int] -/
def slices_Reverse_int_int_l1 (s_0 : Sl) (K : Value → Pr) (k1 : Int × Int × Unit → Pr) (x2 : Int) (x3 : Int) : Pr :=
  pIf (decide ((x2 : Int) < x3))
  (pIdx x3 s_0.len <| pSome s_0.base fun a4 => pIdx x2 s_0.len <| pSome s_0.base fun a5 => pLd (.int .i64) (a4.add ((x3 : Int).toNat * 1)) fun (x6 : Int) => pLd (.int .i64) (a5.add ((x2 : Int).toNat * 1)) fun (x7 : Int) => pIdx x2 s_0.len <| pSome s_0.base fun a8 => pSt (a8.add ((x2 : Int).toNat * 1)) (.int .i64 x6) <| pIdx x3 s_0.len <| pSome s_0.base fun a9 => pSt (a9.add ((x3 : Int).toNat * 1)) (.int .i64 x7) <| k1 ((IntKind.i64.wrap (x2 + 1)), (IntKind.i64.wrap (x3 - 1)), ()))
  (K (.tuple [].toArray))
def slices_Reverse_int_int (s_0 : Sl) (KP K : Value → Pr) : Pr :=
  pLoop (σ := Int × Int × Unit) (fun s k1 => slices_Reverse_int_int_l1 s_0 K k1 s.1 s.2.1) (0, (IntKind.i64.wrap ((s_0.len : Int) - 1)), ())
def slices_Reverse_int_int_ann : Ann := .two (.none) (.sub (.loop [(2, (.int .i64)), (3, (.int .i64))] (.two (.two (.none) (.two (.none) (.none))) (.two (.sub (.ord [0, 1, 2, 3, 4, 5, 6, 8, 9, 10, 7, 11, 12, 13, 14, 15])) (.none)))))
theorem slices_Reverse_int_int_eq (s_0 : Sl) (KP K : Value → Pr) : vcBody Try.prog Try.f70 (Try.f70.body.getD .skip) slices_Reverse_int_int_ann [(.slice s_0.base s_0.len s_0.cap)] KP K = slices_Reverse_int_int s_0 KP K := by kernel_rfl
theorem slices_Reverse_int_int_call (s_0 : Sl) {KP K : Value → Pr} {h : Heap} (s : slices_Reverse_int_int s_0 (fgt KP) (fgt K) h) : WpCall Try.prog 70 [(.slice s_0.base s_0.len s_0.cap)].toArray KP K h :=
  WpCall.of_vc Try.mixed Try.func70 (by kernel_rfl) Try.call70 slices_Reverse_int_int_ann (by rw [slices_Reverse_int_int_eq]; exact s)

/- internal/stringslite.IndexByte -/
def internal_stringslite_IndexByte (s_0 : ByteArray) (c_1 : Int) (KP K : Value → Pr) : Pr :=
  pCall Try.prog 72 [(.string s_0), (.int .u8 c_1)] KP (.one (.int .i64)) fun (r1 : Int) => K (.int .i64 r1)
def internal_stringslite_IndexByte_ann : Ann := .two (.none) (.two (.none) (.none))
theorem internal_stringslite_IndexByte_eq (s_0 : ByteArray) (c_1 : Int) (KP K : Value → Pr) : vcBody Try.prog Try.f71 (Try.f71.body.getD .skip) internal_stringslite_IndexByte_ann [(.string s_0), (.int .u8 c_1)] KP K = internal_stringslite_IndexByte s_0 c_1 KP K := by kernel_rfl
theorem internal_stringslite_IndexByte_call (s_0 : ByteArray) (c_1 : Int) {KP K : Value → Pr} {h : Heap} (s : internal_stringslite_IndexByte s_0 c_1 (fgt KP) (fgt K) h) : WpCall Try.prog 71 [(.string s_0), (.int .u8 c_1)].toArray KP K h :=
  WpCall.of_vc Try.mixed Try.func71 (by kernel_rfl) Try.call71 internal_stringslite_IndexByte_ann (by rw [internal_stringslite_IndexByte_eq]; exact s)

/- (halberd/inodes.free).Len -/
def inodes_free_Len (f_0 : Sl) (KP K : Value → Pr) : Pr :=
  K (.int .i64 (f_0.len : Int))
def inodes_free_Len_ann : Ann := .two (.none) (.two (.none) (.none))
theorem inodes_free_Len_eq (f_0 : Sl) (KP K : Value → Pr) : vcBody Try.prog Try.f89 (Try.f89.body.getD .skip) inodes_free_Len_ann [(.slice f_0.base f_0.len f_0.cap)] KP K = inodes_free_Len f_0 KP K := by kernel_rfl
theorem inodes_free_Len_call (f_0 : Sl) {KP K : Value → Pr} {h : Heap} (s : inodes_free_Len f_0 (fgt KP) (fgt K) h) : WpCall Try.prog 89 [(.slice f_0.base f_0.len f_0.cap)].toArray KP K h :=
  WpCall.of_vc Try.mixed Try.func89 (by kernel_rfl) Try.call89 inodes_free_Len_ann (by rw [inodes_free_Len_eq]; exact s)

/- (halberd/inodes.free).Less -/
def inodes_free_Less (f_0 : Sl) (i_1 : Int) (k_2 : Int) (KP K : Value → Pr) : Pr :=
  pIdx i_1 f_0.len <| pSome f_0.base fun a1 => pIdx k_2 f_0.len <| pSome f_0.base fun a2 => pLd (.int .i64) (a1.add ((i_1 : Int).toNat * 1)) fun (x3 : Int) => pLd (.int .i64) (a2.add ((k_2 : Int).toNat * 1)) fun (x4 : Int) => K (.bool (decide ((x3 : Int) < x4)))
def inodes_free_Less_ann : Ann := .two (.none) (.two (.ord [0, 1, 2, 4, 5, 6, 3, 7, 8, 9]) (.none))
theorem inodes_free_Less_eq (f_0 : Sl) (i_1 : Int) (k_2 : Int) (KP K : Value → Pr) : vcBody Try.prog Try.f90 (Try.f90.body.getD .skip) inodes_free_Less_ann [(.slice f_0.base f_0.len f_0.cap), (.int .i64 i_1), (.int .i64 k_2)] KP K = inodes_free_Less f_0 i_1 k_2 KP K := by kernel_rfl
theorem inodes_free_Less_call (f_0 : Sl) (i_1 : Int) (k_2 : Int) {KP K : Value → Pr} {h : Heap} (s : inodes_free_Less f_0 i_1 k_2 (fgt KP) (fgt K) h) : WpCall Try.prog 90 [(.slice f_0.base f_0.len f_0.cap), (.int .i64 i_1), (.int .i64 k_2)].toArray KP K h :=
  WpCall.of_vc Try.mixed Try.func90 (by kernel_rfl) Try.call90 inodes_free_Less_ann (by rw [inodes_free_Less_eq]; exact s)

/- (halberd/inodes.free).Swap -/
def inodes_free_Swap (f_0 : Sl) (i_1 : Int) (k_2 : Int) (KP K : Value → Pr) : Pr :=
  pIdx k_2 f_0.len <| pSome f_0.base fun a1 => pIdx i_1 f_0.len <| pSome f_0.base fun a2 => pLd (.int .i64) (a1.add ((k_2 : Int).toNat * 1)) fun (x3 : Int) => pLd (.int .i64) (a2.add ((i_1 : Int).toNat * 1)) fun (x4 : Int) => pIdx i_1 f_0.len <| pSome f_0.base fun a5 => pSt (a5.add ((i_1 : Int).toNat * 1)) (.int .i64 x3) <| pIdx k_2 f_0.len <| pSome f_0.base fun a6 => pSt (a6.add ((k_2 : Int).toNat * 1)) (.int .i64 x4) <| K (.tuple [].toArray)
def inodes_free_Swap_ann : Ann := .ord [0, 1, 2, 3, 4, 5, 6, 8, 9, 10, 7, 11, 12, 13, 14, 15]
theorem inodes_free_Swap_eq (f_0 : Sl) (i_1 : Int) (k_2 : Int) (KP K : Value → Pr) : vcBody Try.prog Try.f91 (Try.f91.body.getD .skip) inodes_free_Swap_ann [(.slice f_0.base f_0.len f_0.cap), (.int .i64 i_1), (.int .i64 k_2)] KP K = inodes_free_Swap f_0 i_1 k_2 KP K := by kernel_rfl
theorem inodes_free_Swap_call (f_0 : Sl) (i_1 : Int) (k_2 : Int) {KP K : Value → Pr} {h : Heap} (s : inodes_free_Swap f_0 i_1 k_2 (fgt KP) (fgt K) h) : WpCall Try.prog 91 [(.slice f_0.base f_0.len f_0.cap), (.int .i64 i_1), (.int .i64 k_2)].toArray KP K h :=
  WpCall.of_vc Try.mixed Try.func91 (by kernel_rfl) Try.call91 inodes_free_Swap_ann (by rw [inodes_free_Swap_eq]; exact s)

/- (*halberd/inodes.free).Pop -/
def inodes_free_Pop (f_0 : Option Addr) (KP K : Value → Pr) : Pr :=
  pSome f_0 fun a1 => pLd .slice a1 fun (x2 : Sl) => pIdx (IntKind.i64.wrap ((x2.len : Int) - 1)) x2.len <| pSome x2.base fun a3 => pLd (.int .i64) (a3.add (((IntKind.i64.wrap ((x2.len : Int) - 1)) : Int).toNat * 1)) fun (x4 : Int) => pAssert (0 ≤ (0 : Int) ∧ (0 : Int) ≤ (IntKind.i64.wrap ((x2.len : Int) - 1)) ∧ (IntKind.i64.wrap ((x2.len : Int) - 1)) ≤ (x2.cap : Int)) <| pSome f_0 fun a5 => pSt a5 (.slice (if x2.cap = (0 : Int).toNat then x2.base else (x2.base : Option Addr).map (·.add ((0 : Int).toNat * 1))) (((IntKind.i64.wrap ((x2.len : Int) - 1)) : Int).toNat - (0 : Int).toNat) (x2.cap - (0 : Int).toNat)) <| K (.iface 3 (.int .i64 x4))
def inodes_free_Pop_ann : Ann := .two (.none) (.two (.none) (.two (.none) (.two (.none) (.two (.none) (.none)))))
theorem inodes_free_Pop_eq (f_0 : Option Addr) (KP K : Value → Pr) : vcBody Try.prog Try.f92 (Try.f92.body.getD .skip) inodes_free_Pop_ann [(.pointer f_0)] KP K = inodes_free_Pop f_0 KP K := by kernel_rfl
theorem inodes_free_Pop_call (f_0 : Option Addr) {KP K : Value → Pr} {h : Heap} (s : inodes_free_Pop f_0 (fgt KP) (fgt K) h) : WpCall Try.prog 92 [(.pointer f_0)].toArray KP K h :=
  WpCall.of_vc Try.mixed Try.func92 (by kernel_rfl) Try.call92 inodes_free_Pop_ann (by rw [inodes_free_Pop_eq]; exact s)

/- (*halberd/inodes.free).Push -/
def inodes_free_Push (f_0 : Option Addr) (x_1 : Value) (KP K : Value → Pr) : Pr :=
  pSome f_0 fun a1 => pUnbox x_1 3 (.int .i64) fun (x2 : Int) => pLd .slice a1 fun (x3 : Sl) => pNew (lay (reps 1 (zc Try.prog 3)) [(0, (.int .i64 x2))]) fun b4 => pAppend 1 8 x3 ⟨(some ⟨b4, 0, none⟩), 1, 1⟩ fun s5 => pSome f_0 fun a6 => pSt a6 (.slice s5.base s5.len s5.cap) <| K (.tuple [].toArray)
def inodes_free_Push_ann : Ann := .ord [0, 1, 2, 4, 5, 3, 6, 7, 8, 9]
theorem inodes_free_Push_eq (f_0 : Option Addr) (x_1 : Value) (KP K : Value → Pr) : vcBody Try.prog Try.f93 (Try.f93.body.getD .skip) inodes_free_Push_ann [(.pointer f_0), x_1] KP K = inodes_free_Push f_0 x_1 KP K := by kernel_rfl
theorem inodes_free_Push_call (f_0 : Option Addr) (x_1 : Value) {KP K : Value → Pr} {h : Heap} (s : inodes_free_Push f_0 x_1 (fgt KP) (fgt K) h) : WpCall Try.prog 93 [(.pointer f_0), x_1].toArray KP K h :=
  WpCall.of_vc Try.mixed Try.func93 (by kernel_rfl) Try.call93 inodes_free_Push_ann (by rw [inodes_free_Push_eq]; exact s)

end Go.Proofs.Ytkbcneomjkfheaa
