import Derived.Test.YtgheplpbffanoaaV
set_option linter.unusedVariables false
namespace Go.Proofs.Ytgheplpbffanoaa
open Go.Hl
/- halberd/halberdlaw24.TasksFull -/
def law24_TasksFull_j1 (K : Value → Pr) (k3 : Int × Unit → Pr) (x4 : Int) (x7 : Bool) : Pr :=
  pIf x7
  (K (.bool false))
  (k3 ((IntKind.i64.wrap (x4 + 1)), ()))
def law24_TasksFull_j2 (K : Value → Pr) (x19 : Bool) : Pr :=
  K (.bool x19)
def law24_TasksFull_j3 (at_0 : Int) (code_1 : Int) (KP : Value → Pr) (K : Value → Pr) (r2 : Option Addr) (x11 : Bool) : Pr :=
  pIf x11
  (K (.bool false))
  (pCall Try.prog 9 [(.pointer r2), (.int .i64 1)] KP (.many [(.int .i64), (.int .i64)]) fun (r12 : Int × Int × Unit) => pCall Try.prog 11 [(.pointer r2), (.int .i64 1)] KP (.many [(.int .i64), (.int .i64), (.int .i64)]) fun (r13 : Int × Int × Int × Unit) => pCall Try.prog 9 [(.pointer r2), (.int .i64 1)] KP (.many [(.int .i64), (.int .i64)]) fun (r14 : Int × Int × Unit) => pCall Try.prog 12 [(.pointer r2), (.int .i64 r14.1)] KP (.many [.agg, .bool]) fun (r15 : (List Value) × Bool × Unit) => pNew (zc Try.prog 39) fun b16 => pStA 49 ⟨b16, 0, none⟩ r15.1 <| pJoin (σ := Bool × Unit)
  (fun k17 => pIf ((r12.2.1 : Int) == 11)
  (pIf ((r13.1 : Int) == (IntKind.i64.wrap ((IntKind.i64.wrap ((at_0 : Int).tmod 7)) + 2)))
  (pIf (decide ((r13.2.1 : Int) ≥ 0))
  (pIf (decide ((r13.2.1 : Int) < 256))
  (pAssert ((256 : Int) ≠ 0) <| pIf (((((IntKind.i64.wrap (r13.2.1 - code_1)) : Int).tmod 256) : Int) == 0)
  (pIf ((r13.2.2.1 : Int) == 0)
  (pIf ((r14.1 : Int) == (IntKind.i64.wrap ((IntKind.i64.wrap ((at_0 : Int).tmod 7)) + 2)))
  (pIf ((r14.2.1 : Int) == 0)
  (pIf r15.2.1
  (pLd (.int .i64) ((⟨b16, 0, none⟩ : Addr).add 1) fun (x18 : Int) => k17 (((x18 : Int) == 2), ()))
  (k17 (false, ())))
  (k17 (false, ())))
  (k17 (false, ())))
  (k17 (false, ())))
  (k17 (false, ())))
  (k17 (false, ())))
  (k17 (false, ())))
  (k17 (false, ())))
  (k17 (false, ())))
  (fun s => law24_TasksFull_j2 K s.1))
def law24_TasksFull_l4 (at_0 : Int) (code_1 : Int) (KP : Value → Pr) (K : Value → Pr) (r2 : Option Addr) (k3 : Int × Unit → Pr) (x4 : Int) : Pr :=
  pIf (decide ((x4 : Int) ≤ 8))
  (pCall Try.prog 9 [(.pointer r2), (.int .i64 1)] KP (.many [(.int .i64), (.int .i64)]) fun (r5 : Int × Int × Unit) => pJoin (σ := Bool × Unit)
  (fun k6 => pIf ((r5.1 : Int) != x4)
  (k6 (true, ()))
  (k6 (((r5.2.1 : Int) != 0), ())))
  (fun s => law24_TasksFull_j1 K k3 x4 s.1))
  (pAssert ((7 : Int) ≠ 0) <| pCall Try.prog 9 [(.pointer r2), (.int .i64 1)] KP (.many [(.int .i64), (.int .i64)]) fun (r8 : Int × Int × Unit) => pJoin (σ := Bool × Unit)
  (fun k9 => pIf ((r8.2.1 : Int) != 11)
  (k9 (true, ()))
  (pCall Try.prog 10 [(.pointer r2), (.int .i64 (IntKind.i64.wrap ((IntKind.i64.wrap ((at_0 : Int).tmod 7)) + 2))), (.int .i64 code_1)] KP (.one (.int .i64)) fun (r10 : Int) => k9 (((r10 : Int) != 0), ())))
  (fun s => law24_TasksFull_j3 at_0 code_1 KP K r2 s.1))
def law24_TasksFull (at_0 : Int) (code_1 : Int) (KP K : Value → Pr) : Pr :=
  pCall Try.prog 7 [] KP (.one .bool) fun (r1 : Bool) => pIf (!r1)
  (K (.bool false))
  (pCall Try.prog 8 [] KP (.one .ptr) fun (r2 : Option Addr) => pLoop (σ := Int × Unit) (fun s k3 => law24_TasksFull_l4 at_0 code_1 KP K r2 k3 s.1) (2, ()))
def law24_TasksFull_ann : Ann := .two (.none) (.two (.two (.none) (.two (.two (.none) (.none)) (.none))) (.two (.none) (.two (.two (.none) (.sub (.loop [(6, (.int .i64))] (.two (.two (.none) (.two (.none) (.none))) (.two (.sub (.two (.none) (.join (.none) (.two (.two (.none) (.none)) (.none)) [(39, .bool)]))) (.none)))))) (.two (.none) (.two (.none) (.two (.join (.none) (.two (.two (.none) (.none)) (.none)) [(57, .bool)]) (.two (.none) (.two (.none) (.two (.none) (.two (.none) (.join (.none) (.none) [(4, .bool)])))))))))))
theorem law24_TasksFull_eq (at_0 : Int) (code_1 : Int) (KP K : Value → Pr) : vcBody Try.prog Try.f3 (Try.f3.body.getD .skip) law24_TasksFull_ann [(.int .u8 at_0), (.int .i64 code_1)] KP K = law24_TasksFull at_0 code_1 KP K := by kernel_rfl
theorem law24_TasksFull_call (at_0 : Int) (code_1 : Int) {KP K : Value → Pr} {h : Heap} (s : law24_TasksFull at_0 code_1 (fgt KP) (fgt K) h) : WpCall Try.prog 3 [(.int .u8 at_0), (.int .i64 code_1)].toArray KP K h :=
  WpCall.of_vc Try.mixed Try.func3 (by kernel_rfl) Try.call3 law24_TasksFull_ann (by rw [law24_TasksFull_eq]; exact s)

/- halberd/halberdlaw24.TasksGens -/
def law24_TasksGens_j1 (K : Value → Pr) (k23 : Int × Unit → Pr) (x24 : Int) (x32 : Bool) : Pr :=
  pIf x32
  (K (.bool false))
  (k23 ((IntKind.i64.wrap (x24 + 1)), ()))
def law24_TasksGens_l2 (K : Value → Pr) (x5 : Sl) (k9 : Sl × Unit → Pr) (b22 : Nat) (k23 : Int × Unit → Pr) (x24 : Int) : Pr :=
  pIf (decide ((x24 : Int) < (x5.len : Int)))
  (pJoin (σ := Bool × Unit)
  (fun k25 => pIdx x24 x5.len <| pSome x5.base fun a26 => pLd (.int .i64) ((a26.add ((x24 : Int).toNat * 2)).add 0) fun (x27 : Int) => pLd (.int .i64) ((⟨b22, 0, none⟩ : Addr).add 0) fun (x28 : Int) => pIf ((x27 : Int) == x28)
  (pIdx x24 x5.len <| pSome x5.base fun a29 => pLd (.int .i64) ((a29.add ((x24 : Int).toNat * 2)).add 1) fun (x30 : Int) => pLd (.int .i64) ((⟨b22, 0, none⟩ : Addr).add 1) fun (x31 : Int) => k25 (((x30 : Int) == x31), ()))
  (k25 (false, ())))
  (fun s => law24_TasksGens_j1 K k23 x24 s.1))
  (pLd (.int .i64) ((⟨b22, 0, none⟩ : Addr).add 0) fun (x33 : Int) => pLd (.int .i64) ((⟨b22, 0, none⟩ : Addr).add 1) fun (x34 : Int) => pAssert ((lay (zc Try.prog 53) [(0, (.int .i64 x33)), (1, (.int .i64 x34))]).length = 2) <| pNew (lay (reps 1 (zc Try.prog 53)) [(0, (.agg (lay (zc Try.prog 53) [(0, (.int .i64 x33)), (1, (.int .i64 x34))]).toArray))]) fun b35 => pAppend 2 16 x5 ⟨(some ⟨b35, 0, none⟩), 1, 1⟩ fun s36 => k9 (s36, ()))
def law24_TasksGens_j3 (k4 : Sl × Int × Unit → Pr) (x6 : Int) (x37 : Sl) : Pr :=
  k4 (x37, (IntKind.i64.wrap (x6 + 1)), ())
def law24_TasksGens_j4 (l_0 : Sl) (KP : Value → Pr) (K : Value → Pr) (r2 : Option Addr) (r3 : Option Addr) (k4 : Sl × Int × Unit → Pr) (x5 : Sl) (x6 : Int) (x8 : Bool) : Pr :=
  pIf x8
  (pJoin (σ := Sl × Unit)
  (fun k9 => pIdx x6 l_0.len <| pSome l_0.base fun a10 => pLd (.int .u8) ((a10.add ((x6 : Int).toNat * 9)).add 0) fun (x11 : Int) => pAssert ((15 : Int) ≠ 0) <| pIf ((((x11 : Int).tmod 15) : Int) != 0)
  (pIdx x6 l_0.len <| pSome l_0.base fun a12 => pLdA 9 (a12.add ((x6 : Int).toNat * 9)) fun x13 => pCall Try.prog 14 [(.pointer r2), (.pointer r3), (.agg x13.toArray)] KP (.one .bool) fun (r14 : Bool) => k9 (x5, ()))
  (pIdx x6 l_0.len <| pSome l_0.base fun a15 => pLd (.int .i64) ((a15.add ((x6 : Int).toNat * 9)).add 1) fun (x16 : Int) => pCall Try.prog 9 [(.pointer r2), (.int .i64 x16)] KP (.many [(.int .i64), (.int .i64)]) fun (r17 : Int × Int × Unit) => pIdx x6 l_0.len <| pSome l_0.base fun a18 => pLd (.int .i64) ((a18.add ((x6 : Int).toNat * 9)).add 1) fun (x19 : Int) => pCall Try.prog 15 [(.pointer r3), (.int .i64 x19)] KP (.many [(.int .i64), (.int .i64)]) fun (r20 : Int × Int × Unit) => pIf ((r17.2.1 : Int) != 0)
  (k9 (x5, ()))
  (pCall Try.prog 12 [(.pointer r2), (.int .i64 r17.1)] KP (.many [.agg, .bool]) fun (r21 : (List Value) × Bool × Unit) => pNew (zc Try.prog 39) fun b22 => pStA 49 ⟨b22, 0, none⟩ r21.1 <| pIf (!r21.2.1)
  (K (.bool false))
  (pLoop (σ := Int × Unit) (fun s k23 => law24_TasksGens_l2 K x5 k9 b22 k23 s.1) (0, ())))))
  (fun s => law24_TasksGens_j3 k4 x6 s.1))
  (K (.bool true))
def law24_TasksGens_l5 (l_0 : Sl) (KP : Value → Pr) (K : Value → Pr) (r2 : Option Addr) (r3 : Option Addr) (k4 : Sl × Int × Unit → Pr) (x5 : Sl) (x6 : Int) : Pr :=
  pJoin (σ := Bool × Unit)
  (fun k7 => pIf (decide ((x6 : Int) < (l_0.len : Int)))
  (k7 ((decide ((x6 : Int) < 60)), ()))
  (k7 (false, ())))
  (fun s => law24_TasksGens_j4 l_0 KP K r2 r3 k4 x5 x6 s.1)
def law24_TasksGens (l_0 : Sl) (KP K : Value → Pr) : Pr :=
  pCall Try.prog 7 [] KP (.one .bool) fun (r1 : Bool) => pIf (!r1)
  (K (.bool false))
  (pCall Try.prog 8 [] KP (.one .ptr) fun (r2 : Option Addr) => pCall Try.prog 13 [] KP (.one .ptr) fun (r3 : Option Addr) => pLoop (σ := Sl × Int × Unit) (fun s k4 => law24_TasksGens_l5 l_0 KP K r2 r3 k4 s.1 s.2.1) (⟨none, 0, 0⟩, 0, ()))
def law24_TasksGens_ann : Ann := .two (.none) (.two (.two (.none) (.two (.two (.none) (.none)) (.none))) (.two (.none) (.two (.none) (.two (.two (.none) (.sub (.loop [(5, .slice), (6, (.int .i64))] (.two (.join (.none) (.two (.none) (.none)) [(23, .bool)]) (.join (.sub (.two (.none) (.two (.two (.none) (.two (.two (.none) (.none)) (.none))) (.two (.none) (.two (.none) (.two (.two (.none) (.two (.none) (.none))) (.two (.none) (.two (.two (.none) (.two (.two (.none) (.none)) (.none))) (.two (.two (.none) (.sub (.loop [(11, (.int .i64))] (.two (.two (.none) (.two (.none) (.none))) (.two (.sub (.join (.ord [0, 1, 2, 3, 5, 4, 6, 7, 8, 9, 10, 11, 12, 14, 13, 15, 16, 17]) (.two (.two (.none) (.none)) (.none)) [(90, .bool)])) (.none)))))) (.none)))))))))) (.none) [(5, .slice)]))))) (.two (.none) (.none))))))
theorem law24_TasksGens_eq (l_0 : Sl) (KP K : Value → Pr) : vcBody Try.prog Try.f4 (Try.f4.body.getD .skip) law24_TasksGens_ann [(.slice l_0.base l_0.len l_0.cap)] KP K = law24_TasksGens l_0 KP K := by kernel_rfl
theorem law24_TasksGens_call (l_0 : Sl) {KP K : Value → Pr} {h : Heap} (s : law24_TasksGens l_0 (fgt KP) (fgt K) h) : WpCall Try.prog 4 [(.slice l_0.base l_0.len l_0.cap)].toArray KP K h :=
  WpCall.of_vc Try.mixed Try.func4 (by kernel_rfl) Try.call4 law24_TasksGens_ann (by rw [law24_TasksGens_eq]; exact s)

/- halberd/halberdlaw24.TasksTree -/
def law24_TasksTree_j1 (K : Value → Pr) (k24 : Int × Unit → Pr) (x25 : Int) (x35 : Bool) : Pr :=
  pIf x35
  (K (.bool false))
  (k24 ((IntKind.i64.wrap (x25 + 1)), ()))
def law24_TasksTree_l2 (KP : Value → Pr) (K : Value → Pr) (r2 : Option Addr) (k8 : Unit → Pr) (r18 : Sl) (k24 : Int × Unit → Pr) (x25 : Int) : Pr :=
  pIf (decide ((x25 : Int) < (r18.len : Int)))
  (pIdx x25 r18.len <| pSome r18.base fun a26 => pLd (.int .i64) ((a26.add ((x25 : Int).toNat * 49)).add 0) fun (x27 : Int) => pCall Try.prog 18 [(.pointer r2), (.int .i64 x27)] KP (.one .slice) fun (r28 : Sl) => pJoin (σ := Bool × Unit)
  (fun k29 => pIdx x25 r18.len <| pSome r18.base fun a30 => pLd (.int .i64) ((a30.add ((x25 : Int).toNat * 49)).add 2) fun (x31 : Int) => pCall Try.prog 19 [(.pointer r2), (.int .i64 x31)] KP (.one .bool) fun (r32 : Bool) => pIf (!r32)
  (k29 (true, ()))
  (pIf (((r28.len : Int) : Int) == 0)
  (k29 (true, ()))
  (pIdx (IntKind.i64.wrap ((r28.len : Int) - 1)) r28.len <| pSome r28.base fun a33 => pLd (.int .i64) (a33.add (((IntKind.i64.wrap ((r28.len : Int) - 1)) : Int).toNat * 1)) fun (x34 : Int) => k29 (((x34 : Int) != 1), ()))))
  (fun s => law24_TasksTree_j1 K k24 x25 s.1))
  (k8 (()))
def law24_TasksTree_j3 (KP : Value → Pr) (K : Value → Pr) (r2 : Option Addr) (k8 : Unit → Pr) (r18 : Sl) (x23 : Bool) : Pr :=
  pIf x23
  (K (.bool false))
  (pLoop (σ := Int × Unit) (fun s k24 => law24_TasksTree_l2 KP K r2 k8 r18 k24 s.1) (0, ()))
def law24_TasksTree_j4 (l_0 : Sl) (KP : Value → Pr) (K : Value → Pr) (r2 : Option Addr) (r3 : Option Addr) (x5 : Int) (k8 : Unit → Pr) (x14 : Bool) : Pr :=
  pIf x14
  (k8 (()))
  (pIdx x5 l_0.len <| pSome l_0.base fun a15 => pLdA 9 (a15.add ((x5 : Int).toNat * 9)) fun x16 => pCall Try.prog 14 [(.pointer r2), (.pointer r3), (.agg x16.toArray)] KP (.one .bool) fun (r17 : Bool) => pCall Try.prog 16 [(.pointer r2)] KP (.one .slice) fun (r18 : Sl) => pJoin (σ := Bool × Unit)
  (fun k19 => pCall Try.prog 17 [(.pointer r2)] KP (.one (.int .i64)) fun (r20 : Int) => pIf (decide ((r20 : Int) > 16))
  (k19 (true, ()))
  (pIf (((r18.len : Int) : Int) == 0)
  (k19 (true, ()))
  (pIdx 0 r18.len <| pSome r18.base fun a21 => pLd (.int .i64) ((a21.add ((0 : Int).toNat * 49)).add 0) fun (x22 : Int) => k19 (((x22 : Int) != 1), ()))))
  (fun s => law24_TasksTree_j3 KP K r2 k8 r18 s.1))
def law24_TasksTree_j5 (k4 : Int × Unit → Pr) (x5 : Int) : Pr :=
  k4 ((IntKind.i64.wrap (x5 + 1)), ())
def law24_TasksTree_j6 (l_0 : Sl) (KP : Value → Pr) (K : Value → Pr) (r2 : Option Addr) (r3 : Option Addr) (k4 : Int × Unit → Pr) (x5 : Int) (x7 : Bool) : Pr :=
  pIf x7
  (pJoin (σ := Unit)
  (fun k8 => pIdx x5 l_0.len <| pSome l_0.base fun a9 => pLd (.int .u8) ((a9.add ((x5 : Int).toNat * 9)).add 0) fun (x10 : Int) => pAssert ((15 : Int) ≠ 0) <| pJoin (σ := Bool × Unit)
  (fun k11 => pIf ((((x10 : Int).tmod 15) : Int) == 3)
  (pIdx x5 l_0.len <| pSome l_0.base fun a12 => pLd (.int .i64) ((a12.add ((x5 : Int).toNat * 9)).add 2) fun (x13 : Int) => pIf ((x13 : Int) == 0)
  (k11 (true, ()))
  (k11 (((((x10 : Int).tmod 15) : Int) == 5), ())))
  (k11 (((((x10 : Int).tmod 15) : Int) == 5), ())))
  (fun s => law24_TasksTree_j4 l_0 KP K r2 r3 x5 k8 s.1))
  (fun s => law24_TasksTree_j5 k4 x5))
  (K (.bool true))
def law24_TasksTree_l7 (l_0 : Sl) (KP : Value → Pr) (K : Value → Pr) (r2 : Option Addr) (r3 : Option Addr) (k4 : Int × Unit → Pr) (x5 : Int) : Pr :=
  pJoin (σ := Bool × Unit)
  (fun k6 => pIf (decide ((x5 : Int) < (l_0.len : Int)))
  (k6 ((decide ((x5 : Int) < 80)), ()))
  (k6 (false, ())))
  (fun s => law24_TasksTree_j6 l_0 KP K r2 r3 k4 x5 s.1)
def law24_TasksTree (l_0 : Sl) (KP K : Value → Pr) : Pr :=
  pCall Try.prog 7 [] KP (.one .bool) fun (r1 : Bool) => pIf (!r1)
  (K (.bool false))
  (pCall Try.prog 8 [] KP (.one .ptr) fun (r2 : Option Addr) => pCall Try.prog 13 [] KP (.one .ptr) fun (r3 : Option Addr) => pLoop (σ := Int × Unit) (fun s k4 => law24_TasksTree_l7 l_0 KP K r2 r3 k4 s.1) (0, ()))
def law24_TasksTree_ann : Ann := .two (.none) (.two (.two (.none) (.two (.two (.none) (.none)) (.none))) (.two (.none) (.two (.two (.none) (.sub (.loop [(5, (.int .i64))] (.two (.join (.none) (.two (.none) (.none)) [(21, .bool)]) (.join (.sub (.two (.two (.none) (.join (.none) (.two (.none) (.none)) [(43, .bool)])) (.two (.none) (.two (.none) (.two (.join (.none) (.two (.two (.none) (.none)) (.none)) [(67, .bool)]) (.two (.none) (.sub (.loop [(8, (.int .i64))] (.two (.two (.none) (.two (.none) (.none))) (.two (.sub (.two (.none) (.join (.none) (.two (.two (.none) (.none)) (.none)) [(102, .bool)]))) (.none))))))))))) (.none) []))))) (.two (.none) (.none)))))
theorem law24_TasksTree_eq (l_0 : Sl) (KP K : Value → Pr) : vcBody Try.prog Try.f5 (Try.f5.body.getD .skip) law24_TasksTree_ann [(.slice l_0.base l_0.len l_0.cap)] KP K = law24_TasksTree l_0 KP K := by kernel_rfl
theorem law24_TasksTree_call (l_0 : Sl) {KP K : Value → Pr} {h : Heap} (s : law24_TasksTree l_0 (fgt KP) (fgt K) h) : WpCall Try.prog 5 [(.slice l_0.base l_0.len l_0.cap)].toArray KP K h :=
  WpCall.of_vc Try.mixed Try.func5 (by kernel_rfl) Try.call5 law24_TasksTree_ann (by rw [law24_TasksTree_eq]; exact s)

/- halberd/halberdlaw24.TasksPlays -/
def law24_TasksPlays_j1 (K : Value → Pr) (k4 : (Option Addr) × Sl × Int × Unit → Pr) (x7 : Int) (x13 : Option Addr) (x14 : Sl) (x22 : Bool) : Pr :=
  pIf x22
  (K (.bool false))
  (k4 (x13, x14, (IntKind.i64.wrap (x7 + 1)), ()))
def law24_TasksPlays_j2 (l_0 : Sl) (KP : Value → Pr) (K : Value → Pr) (r2 : Option Addr) (r3 : Option Addr) (k4 : (Option Addr) × Sl × Int × Unit → Pr) (x7 : Int) (x13 : Option Addr) (x14 : Sl) : Pr :=
  pJoin (σ := Bool × Unit)
  (fun k15 => pIdx x7 l_0.len <| pSome l_0.base fun a16 => pLdA 9 (a16.add ((x7 : Int).toNat * 9)) fun x17 => pCall Try.prog 14 [(.pointer r2), (.pointer r3), (.agg x17.toArray)] KP (.one .bool) fun (r18 : Bool) => pIf (!r18)
  (k15 (true, ()))
  (pIdx x7 l_0.len <| pSome l_0.base fun a19 => pLdA 9 (a19.add ((x7 : Int).toNat * 9)) fun x20 => pCall Try.prog 21 [(.pointer r2), (.pointer r3), (.agg x20.toArray)] KP (.one .bool) fun (r21 : Bool) => k15 ((!r21), ())))
  (fun s => law24_TasksPlays_j1 K k4 x7 x13 x14 s.1)
def law24_TasksPlays_j3 (K : Value → Pr) (x26 : Bool) : Pr :=
  K (.bool x26)
def law24_TasksPlays_j4 (l_0 : Sl) (cut_1 : Int) (KP : Value → Pr) (K : Value → Pr) (r2 : Option Addr) (r3 : Option Addr) (k4 : (Option Addr) × Sl × Int × Unit → Pr) (x5 : Option Addr) (x6 : Sl) (x7 : Int) (x9 : Bool) : Pr :=
  pIf x9
  (pJoin (σ := (Option Addr) × Sl × Unit)
  (fun k10 => pAssert ((60 : Int) ≠ 0) <| pIf ((x7 : Int) == (IntKind.i64.wrap ((cut_1 : Int).tmod 60)))
  (pCall Try.prog 20 [(.pointer r2)] KP (.one .ptr) fun (r11 : Option Addr) => pCall Try.prog 16 [(.pointer r2)] KP (.one .slice) fun (r12 : Sl) => k10 (r11, r12, ()))
  (k10 (x5, x6, ())))
  (fun s => law24_TasksPlays_j2 l_0 KP K r2 r3 k4 x7 s.1 s.2.1))
  (pJoin (σ := Bool × Unit)
  (fun k23 => pIf (x5.isNone)
  (k23 (true, ()))
  (pCall Try.prog 16 [(.pointer x5)] KP (.one .slice) fun (r24 : Sl) => pCall Try.prog 22 [(.slice r24.base r24.len r24.cap), (.slice x6.base x6.len x6.cap)] KP (.one .bool) fun (r25 : Bool) => k23 (r25, ())))
  (fun s => law24_TasksPlays_j3 K s.1))
def law24_TasksPlays_l5 (l_0 : Sl) (cut_1 : Int) (KP : Value → Pr) (K : Value → Pr) (r2 : Option Addr) (r3 : Option Addr) (k4 : (Option Addr) × Sl × Int × Unit → Pr) (x5 : Option Addr) (x6 : Sl) (x7 : Int) : Pr :=
  pJoin (σ := Bool × Unit)
  (fun k8 => pIf (decide ((x7 : Int) < (l_0.len : Int)))
  (k8 ((decide ((x7 : Int) < 80)), ()))
  (k8 (false, ())))
  (fun s => law24_TasksPlays_j4 l_0 cut_1 KP K r2 r3 k4 x5 x6 x7 s.1)
def law24_TasksPlays (l_0 : Sl) (cut_1 : Int) (KP K : Value → Pr) : Pr :=
  pCall Try.prog 7 [] KP (.one .bool) fun (r1 : Bool) => pIf (!r1)
  (K (.bool false))
  (pCall Try.prog 8 [] KP (.one .ptr) fun (r2 : Option Addr) => pCall Try.prog 13 [] KP (.one .ptr) fun (r3 : Option Addr) => pLoop (σ := (Option Addr) × Sl × Int × Unit) (fun s k4 => law24_TasksPlays_l5 l_0 cut_1 KP K r2 r3 k4 s.1 s.2.1 s.2.2.1) (none, ⟨none, 0, 0⟩, 0, ()))
def law24_TasksPlays_ann : Ann := .two (.none) (.two (.two (.none) (.two (.two (.none) (.none)) (.none))) (.two (.none) (.two (.none) (.two (.none) (.two (.two (.none) (.sub (.loop [(7, .ptr), (8, .slice), (9, (.int .i64))] (.two (.join (.none) (.two (.none) (.none)) [(21, .bool)]) (.two (.sub (.join (.two (.none) (.two (.two (.none) (.none)) (.none))) (.join (.none) (.two (.two (.none) (.none)) (.none)) [(50, .bool)]) [(7, .ptr), (8, .slice)])) (.none)))))) (.join (.none) (.none) [(4, .bool)]))))))
theorem law24_TasksPlays_eq (l_0 : Sl) (cut_1 : Int) (KP K : Value → Pr) : vcBody Try.prog Try.f6 (Try.f6.body.getD .skip) law24_TasksPlays_ann [(.slice l_0.base l_0.len l_0.cap), (.int .u8 cut_1)] KP K = law24_TasksPlays l_0 cut_1 KP K := by kernel_rfl
theorem law24_TasksPlays_call (l_0 : Sl) (cut_1 : Int) {KP K : Value → Pr} {h : Heap} (s : law24_TasksPlays l_0 cut_1 (fgt KP) (fgt K) h) : WpCall Try.prog 6 [(.slice l_0.base l_0.len l_0.cap), (.int .u8 cut_1)].toArray KP K h :=
  WpCall.of_vc Try.mixed Try.func6 (by kernel_rfl) Try.call6 law24_TasksPlays_ann (by rw [law24_TasksPlays_eq]; exact s)

/- halberd/halberdlaw24.alive -/
def law24_alive_j1 (K : Value → Pr) (x7 : Bool) : Pr :=
  K (.bool x7)
def law24_alive  (KP K : Value → Pr) : Pr :=
  pCall Try.prog 8 [] KP (.one .ptr) fun (r1 : Option Addr) => pCall Try.prog 9 [(.pointer r1), (.int .i64 1)] KP (.many [(.int .i64), (.int .i64)]) fun (r2 : Int × Int × Unit) => pCall Try.prog 10 [(.pointer r1), (.int .i64 2), (.int .i64 7)] KP (.one (.int .i64)) fun (r3 : Int) => pCall Try.prog 11 [(.pointer r1), (.int .i64 1)] KP (.many [(.int .i64), (.int .i64), (.int .i64)]) fun (r4 : Int × Int × Int × Unit) => pCall Try.prog 11 [(.pointer r1), (.int .i64 1)] KP (.many [(.int .i64), (.int .i64), (.int .i64)]) fun (r5 : Int × Int × Int × Unit) => pJoin (σ := Bool × Unit)
  (fun k6 => pIf ((r2.1 : Int) == 2)
  (pIf ((r2.2.1 : Int) == 0)
  (pIf ((r3 : Int) == 0)
  (pIf ((r4.1 : Int) == 2)
  (pIf ((r4.2.1 : Int) == 7)
  (pIf ((r4.2.2.1 : Int) == 0)
  (k6 (((r5.2.2.1 : Int) == 10), ()))
  (k6 (false, ())))
  (k6 (false, ())))
  (k6 (false, ())))
  (k6 (false, ())))
  (k6 (false, ())))
  (k6 (false, ())))
  (fun s => law24_alive_j1 K s.1)
def law24_alive_ann : Ann := .two (.none) (.two (.none) (.two (.none) (.two (.none) (.two (.none) (.two (.none) (.join (.none) (.none) [(0, .bool)]))))))
theorem law24_alive_eq  (KP K : Value → Pr) : vcBody Try.prog Try.f7 (Try.f7.body.getD .skip) law24_alive_ann [] KP K = law24_alive  KP K := by kernel_rfl
theorem law24_alive_call  {KP K : Value → Pr} {h : Heap} (s : law24_alive  (fgt KP) (fgt K) h) : WpCall Try.prog 7 [].toArray KP K h :=
  WpCall.of_vc Try.mixed Try.func7 (by kernel_rfl) Try.call7 law24_alive_ann (by rw [law24_alive_eq]; exact s)

/- halberd/tasks.New -/
def tasks_New  (KP K : Value → Pr) : Pr :=
  pNew (lay (zc Try.prog 65) []) fun b1 => pSome (some ⟨b1, 0, none⟩) fun a2 => pIdx 1 9 <| pStA 49 ((a2.add 0).add ((1 : Int).toNat * 49)) (lay (zc Try.prog 39) [(0, (.int .i64 1)), (1, (.int .i64 1)), (2, (.int .i64 1)), (5, (.int .i64 1))]) <| K (.pointer (some ⟨b1, 0, none⟩))
def tasks_New_ann : Ann := .two (.none) (.two (.none) (.two (.none) (.two (.none) (.none))))
theorem tasks_New_eq  (KP K : Value → Pr) : vcBody Try.prog Try.f8 (Try.f8.body.getD .skip) tasks_New_ann [] KP K = tasks_New  KP K := by kernel_rfl
theorem tasks_New_call  {KP K : Value → Pr} {h : Heap} (s : tasks_New  (fgt KP) (fgt K) h) : WpCall Try.prog 8 [].toArray KP K h :=
  WpCall.of_vc Try.mixed Try.func8 (by kernel_rfl) Try.call8 tasks_New_ann (by rw [tasks_New_eq]; exact s)

/- (*halberd/tasks.Table).Fork -/
def tasks_Table_Fork (t_0 : Option Addr) (pid_1 : Int) (KP K : Value → Pr) : Pr :=
  pCall Try.prog 23 [(.pointer t_0), (.int .i64 pid_1)] KP (.one .ptr) fun (r1 : Option Addr) => pIf (r1.isNone)
  (K (.tuple [(.int .i64 0), (.int .i64 3)].toArray))
  (pCall Try.prog 24 [(.pointer t_0)] KP (.one (.int .i64)) fun (r2 : Int) => pIf ((r2 : Int) == 0)
  (K (.tuple [(.int .i64 0), (.int .i64 11)].toArray))
  (pSome r1 fun a3 => pLdA 49 a3 fun x4 => pCall Try.prog 17 [(.pointer t_0)] KP (.one (.int .i64)) fun (r5 : Int) => pKeep (loadF Try.prog 39 (.pointer (some a3)) (.agg x4.toArray)) <| pCall Try.prog 25 [(.agg x4.toArray)] KP (.one (.int .i64)) fun (r6 : Int) => pIf (decide (((IntKind.i64.wrap (r5 + r6)) : Int) > 16))
  (K (.tuple [(.int .i64 0), (.int .i64 23)].toArray))
  (pSome r1 fun a7 => pLdA 49 a7 fun x8 => pNew (zc Try.prog 39) fun b9 => pStA 49 ⟨b9, 0, none⟩ x8 <| pSome t_0 fun a10 => pIdx r2 9 <| pLd (.int .i64) (((a10.add 0).add ((r2 : Int).toNat * 49)).add 1) fun (x11 : Int) => pSt ((⟨b9, 0, none⟩ : Addr).add 0) (.int .i64 r2) <| pKeep (loadF Try.prog 3 (.pointer (some (((a10.add 0).add ((r2 : Int).toNat * 49)).add 1))) (.int .i64 x11)) <| pSt ((⟨b9, 0, none⟩ : Addr).add 1) (.int .i64 (IntKind.i64.wrap (x11 + 1))) <| pSt ((⟨b9, 0, none⟩ : Addr).add 2) (.int .i64 pid_1) <| pSt ((⟨b9, 0, none⟩ : Addr).add 10) (.int .u64 0) <| pSt ((⟨b9, 0, none⟩ : Addr).add 7) (.int .i64 0) <| pSome t_0 fun a12 => pLdA 49 ⟨b9, 0, none⟩ fun x13 => pIdx r2 9 <| pStA 49 ((a12.add 0).add ((r2 : Int).toNat * 49)) x13 <| K (.tuple [(.int .i64 r2), (.int .i64 0)].toArray))))
def tasks_Table_Fork_ann : Ann := .two (.none) (.two (.none) (.two (.two (.none) (.two (.two (.none) (.none)) (.none))) (.two (.none) (.two (.sub (.two (.none) (.two (.two (.none) (.none)) (.two (.ord [0, 2, 3, 4, 1, 5, 6, 7, 8]) (.two (.two (.none) (.none)) (.none)))))) (.two (.none) (.two (.ord [0, 1, 2, 3, 4, 5, 6, 9, 10, 7, 8, 11, 12, 13, 14, 15, 16, 17, 18, 19]) (.two (.ord [0, 1, 3, 4, 2, 5, 6]) (.two (.none) (.none)))))))))
theorem tasks_Table_Fork_eq (t_0 : Option Addr) (pid_1 : Int) (KP K : Value → Pr) : vcBody Try.prog Try.f9 (Try.f9.body.getD .skip) tasks_Table_Fork_ann [(.pointer t_0), (.int .i64 pid_1)] KP K = tasks_Table_Fork t_0 pid_1 KP K := by kernel_rfl
theorem tasks_Table_Fork_call (t_0 : Option Addr) (pid_1 : Int) {KP K : Value → Pr} {h : Heap} (s : tasks_Table_Fork t_0 pid_1 (fgt KP) (fgt K) h) : WpCall Try.prog 9 [(.pointer t_0), (.int .i64 pid_1)].toArray KP K h :=
  WpCall.of_vc Try.mixed Try.func9 (by kernel_rfl) Try.call9 tasks_Table_Fork_ann (by rw [tasks_Table_Fork_eq]; exact s)

/- (*halberd/tasks.Table).Exit -/
def tasks_Table_Exit_j1 (pid_1 : Int) (x9 : Int) (k10 : Unit → Pr) (a11 : Addr) : Pr :=
  pSome (some ((a11.add 0).add ((x9 : Int).toNat * 49))) fun a16 => pLd (.int .i64) (a16.add 7) fun (x17 : Int) => pIf ((x17 : Int) == pid_1)
  (pSome (some ((a11.add 0).add ((x9 : Int).toNat * 49))) fun a18 => pSt (a18.add 7) (.int .i64 0) <| k10 (()))
  (k10 (()))
def tasks_Table_Exit_j2 (k8 : Int × Unit → Pr) (x9 : Int) : Pr :=
  k8 ((IntKind.i64.wrap (x9 + 1)), ())
def tasks_Table_Exit_l3 (t_0 : Option Addr) (pid_1 : Int) (K : Value → Pr) (k8 : Int × Unit → Pr) (x9 : Int) : Pr :=
  pIf (decide ((x9 : Int) < 9))
  (pJoin (σ := Unit)
  (fun k10 => pSome t_0 fun a11 => pIdx x9 9 <| pJoin (σ := Unit)
  (fun k12 => pSome (some ((a11.add 0).add ((x9 : Int).toNat * 49))) fun a13 => pLd (.int .i64) (a13.add 2) fun (x14 : Int) => pIf ((x14 : Int) == pid_1)
  (pSome (some ((a11.add 0).add ((x9 : Int).toNat * 49))) fun a15 => pSt (a15.add 2) (.int .i64 1) <| k12 (()))
  (k12 (())))
  (fun s => tasks_Table_Exit_j1 pid_1 x9 k10 a11))
  (fun s => tasks_Table_Exit_j2 k8 x9))
  (K (.int .i64 0))
def tasks_Table_Exit (t_0 : Option Addr) (pid_1 : Int) (code_2 : Int) (KP K : Value → Pr) : Pr :=
  pCall Try.prog 23 [(.pointer t_0), (.int .i64 pid_1)] KP (.one .ptr) fun (r1 : Option Addr) => pIf (r1.isNone)
  (K (.int .i64 3))
  (pIf ((pid_1 : Int) == 1)
  (K (.int .i64 1))
  (pSome r1 fun a2 => pSt (a2.add 8) (.bool true) <| pSome r1 fun a3 => pSt (a3.add 9) (.int .i64 (bitsV .and .i64 code_2 255)) <| pSome r1 fun a4 => pSt (a4.add 10) (.int .u64 0) <| pSome r1 fun a5 => pSt (a5.add 7) (.int .i64 0) <| pSome r1 fun a6 => pStA 18 (a6.add 11) (lay (zc Try.prog 34) []) <| pSome r1 fun a7 => pStA 20 (a7.add 29) (lay (zc Try.prog 37) []) <| pLoop (σ := Int × Unit) (fun s k8 => tasks_Table_Exit_l3 t_0 pid_1 K k8 s.1) (0, ())))
def tasks_Table_Exit_ann : Ann := .two (.none) (.two (.none) (.two (.sub (.two (.none) (.two (.two (.none) (.none)) (.two (.none) (.two (.two (.none) (.none)) (.none)))))) (.two (.none) (.two (.none) (.two (.two (.none) (.sub (.loop [(41, (.int .i64))] (.two (.none) (.two (.two (.none) (.none)) (.join (.sub (.two (.none) (.two (.none) (.join (.two (.none) (.two (.none) (.none))) (.two (.none) (.two (.none) (.none))) [])))) (.none) [])))))) (.two (.none) (.none)))))))
theorem tasks_Table_Exit_eq (t_0 : Option Addr) (pid_1 : Int) (code_2 : Int) (KP K : Value → Pr) : vcBody Try.prog Try.f10 (Try.f10.body.getD .skip) tasks_Table_Exit_ann [(.pointer t_0), (.int .i64 pid_1), (.int .i64 code_2)] KP K = tasks_Table_Exit t_0 pid_1 code_2 KP K := by kernel_rfl
theorem tasks_Table_Exit_call (t_0 : Option Addr) (pid_1 : Int) (code_2 : Int) {KP K : Value → Pr} {h : Heap} (s : tasks_Table_Exit t_0 pid_1 code_2 (fgt KP) (fgt K) h) : WpCall Try.prog 10 [(.pointer t_0), (.int .i64 pid_1), (.int .i64 code_2)].toArray KP K h :=
  WpCall.of_vc Try.mixed Try.func10 (by kernel_rfl) Try.call10 tasks_Table_Exit_ann (by rw [tasks_Table_Exit_eq]; exact s)

end Go.Proofs.Ytgheplpbffanoaa
