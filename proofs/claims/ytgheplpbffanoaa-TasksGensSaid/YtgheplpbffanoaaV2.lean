import Derived.Test.YtgheplpbffanoaaV
set_option linter.unusedVariables false
namespace Go.Proofs.Ytgheplpbffanoaa
open Go.Hl
/- (*halberd/tasks.Table).Alive -/
def tasks_Table_Alive (t_0 : Option Addr) (pid_1 : Int) (KP K : Value → Pr) : Pr :=
  pCall Try.prog 23 [(.pointer t_0), (.int .i64 pid_1)] KP (.one .ptr) fun (r1 : Option Addr) => K (.bool (!r1.isNone))
def tasks_Table_Alive_ann : Ann := .two (.none) (.two (.none) (.none))
theorem tasks_Table_Alive_eq (t_0 : Option Addr) (pid_1 : Int) (KP K : Value → Pr) : vcBody Try.prog Try.f19 (Try.f19.body.getD .skip) tasks_Table_Alive_ann [(.pointer t_0), (.int .i64 pid_1)] KP K = tasks_Table_Alive t_0 pid_1 KP K := by kernel_rfl
theorem tasks_Table_Alive_call (t_0 : Option Addr) (pid_1 : Int) {KP K : Value → Pr} {h : Heap} (s : tasks_Table_Alive t_0 pid_1 (fgt KP) (fgt K) h) : WpCall Try.prog 19 [(.pointer t_0), (.int .i64 pid_1)].toArray KP K h :=
  WpCall.of_vc Try.mixed Try.func19 (by kernel_rfl) Try.call19 tasks_Table_Alive_ann (by rw [tasks_Table_Alive_eq]; exact s)

/- (*halberd/tasks.Table).Copy -/
def tasks_Table_Copy (t_0 : Option Addr) (KP K : Value → Pr) : Pr :=
  pIf (t_0.isNone)
  (K (.pointer none))
  (pSome t_0 fun a1 => pLdA 441 a1 fun x2 => pNew (zc Try.prog 65) fun b3 => pStA 441 ⟨b3, 0, none⟩ x2 <| K (.pointer (some ⟨b3, 0, none⟩)))
def tasks_Table_Copy_ann : Ann := .two (.none) (.two (.two (.none) (.two (.two (.none) (.none)) (.none))) (.two (.none) (.two (.none) (.none))))
theorem tasks_Table_Copy_eq (t_0 : Option Addr) (KP K : Value → Pr) : vcBody Try.prog Try.f20 (Try.f20.body.getD .skip) tasks_Table_Copy_ann [(.pointer t_0)] KP K = tasks_Table_Copy t_0 KP K := by kernel_rfl
theorem tasks_Table_Copy_call (t_0 : Option Addr) {KP K : Value → Pr} {h : Heap} (s : tasks_Table_Copy t_0 (fgt KP) (fgt K) h) : WpCall Try.prog 20 [(.pointer t_0)].toArray KP K h :=
  WpCall.of_vc Try.mixed Try.func20 (by kernel_rfl) Try.call20 tasks_Table_Copy_ann (by rw [tasks_Table_Copy_eq]; exact s)

/- halberd/halberdlaw24.same -/
def law24_same_j1 (K : Value → Pr) (x61 : Bool) : Pr :=
  K (.bool x61)
def law24_same_l2 (t_0 : Option Addr) (w_1 : Option Addr) (KP : Value → Pr) (K : Value → Pr) (b1 : Nat) (r37 : Sl) (r38 : Sl) (k45 : Int × Unit → Pr) (x46 : Int) : Pr :=
  pIf (decide ((x46 : Int) < (r37.len : Int)))
  (pIdx x46 r37.len <| pSome r37.base fun a47 => pIdx x46 r38.len <| pSome r38.base fun a48 => pLd (.int .i64) (a47.add ((x46 : Int).toNat * 1)) fun (x49 : Int) => pLd (.int .i64) (a48.add ((x46 : Int).toNat * 1)) fun (x50 : Int) => pIf ((x49 : Int) != x50)
  (K (.bool false))
  (k45 ((IntKind.i64.wrap (x46 + 1)), ())))
  (pLd (.int .i64) ((⟨b1, 0, none⟩ : Addr).add 1) fun (x51 : Int) => pCall Try.prog 12 [(.pointer t_0), (.int .i64 x51)] KP (.many [.agg, .bool]) fun (r52 : (List Value) × Bool × Unit) => pNew (zc Try.prog 39) fun b53 => pStA 49 ⟨b53, 0, none⟩ r52.1 <| pJoin (σ := Bool × Unit)
  (fun k54 => pLd (.int .i64) ((⟨b1, 0, none⟩ : Addr).add 1) fun (x55 : Int) => pCall Try.prog 60 [(.pointer w_1), (.int .i64 x55)] KP (.one .bool) fun (r56 : Bool) => pIf (r52.2.1 == r56)
  (pIf (!r52.2.1)
  (k54 (true, ()))
  (pSome w_1 fun a57 => pLdA 49 ⟨b53, 0, none⟩ fun x58 => pLd (.int .i64) ((⟨b1, 0, none⟩ : Addr).add 1) fun (x59 : Int) => pIdx x59 9 <| pLdA 49 ((a57.add 0).add ((x59 : Int).toNat * 49)) fun x60 => pAssert (okCells [.int .i64, .int .i64, .int .i64, .int .i64, .int .i64, .int .i64, .int .i64, .int .i64, .bool, .int .i64, .int .u64, .int .i64, .int .i64, .int .i64, .int .i64, .int .i64, .int .i64, .int .i64, .int .i64, .int .i64, .int .i64, .int .i64, .int .i64, .int .i64, .int .i64, .int .i64, .int .i64, .int .i64, .int .i64, .bool, .int .i64, .int .i64, .int .i64, .bool, .bool, .int .i64, .int .i64, .int .i64, .bool, .bool, .int .i64, .int .i64, .int .i64, .bool, .bool, .int .i64, .int .i64, .int .i64, .bool] x58 = true ∧ okCells [.int .i64, .int .i64, .int .i64, .int .i64, .int .i64, .int .i64, .int .i64, .int .i64, .bool, .int .i64, .int .u64, .int .i64, .int .i64, .int .i64, .int .i64, .int .i64, .int .i64, .int .i64, .int .i64, .int .i64, .int .i64, .int .i64, .int .i64, .int .i64, .int .i64, .int .i64, .int .i64, .int .i64, .int .i64, .bool, .int .i64, .int .i64, .int .i64, .bool, .bool, .int .i64, .int .i64, .int .i64, .bool, .bool, .int .i64, .int .i64, .int .i64, .bool, .bool, .int .i64, .int .i64, .int .i64, .bool] x60 = true) <| k54 ((eqCells x58 x60), ())))
  (k54 (false, ())))
  (fun s => law24_same_j1 K s.1))
def law24_same_j3 (t_0 : Option Addr) (w_1 : Option Addr) (KP : Value → Pr) (K : Value → Pr) (b1 : Nat) (r37 : Sl) (r38 : Sl) (x44 : Bool) : Pr :=
  pIf x44
  (K (.bool false))
  (pLoop (σ := Int × Unit) (fun s k45 => law24_same_l2 t_0 w_1 KP K b1 r37 r38 k45 s.1) (0, ()))
def law24_same_j4 (t_0 : Option Addr) (w_1 : Option Addr) (KP : Value → Pr) (K : Value → Pr) (b1 : Nat) (x18 : Bool) : Pr :=
  pIf x18
  (K (.bool false))
  (pLd (.int .i64) ((⟨b1, 0, none⟩ : Addr).add 1) fun (x19 : Int) => pLd (.int .i64) ((⟨b1, 0, none⟩ : Addr).add 2) fun (x20 : Int) => pCall Try.prog 56 [(.pointer t_0), (.int .i64 x19), (.int .i64 x20)] KP (.many [.agg, (.int .i64)]) fun (r21 : (List Value) × Int × Unit) => pNew (zc Try.prog 33) fun b22 => pStA 3 ⟨b22, 0, none⟩ r21.1 <| pLd (.int .i64) ((⟨b1, 0, none⟩ : Addr).add 1) fun (x23 : Int) => pLd (.int .i64) ((⟨b1, 0, none⟩ : Addr).add 2) fun (x24 : Int) => pCall Try.prog 57 [(.pointer w_1), (.int .i64 x23), (.int .i64 x24)] KP (.many [.agg, (.int .i64)]) fun (r25 : (List Value) × Int × Unit) => pNew (zc Try.prog 33) fun b26 => pStA 3 ⟨b26, 0, none⟩ r25.1 <| pLd (.int .i64) ((⟨b1, 0, none⟩ : Addr).add 1) fun (x27 : Int) => pLd (.int .i64) ((⟨b1, 0, none⟩ : Addr).add 2) fun (x28 : Int) => pCall Try.prog 58 [(.pointer t_0), (.int .i64 x27), (.int .i64 x28)] KP (.many [.agg, (.int .i64)]) fun (r29 : (List Value) × Int × Unit) => pNew (zc Try.prog 36) fun b30 => pStA 5 ⟨b30, 0, none⟩ r29.1 <| pLd (.int .i64) ((⟨b1, 0, none⟩ : Addr).add 1) fun (x31 : Int) => pLd (.int .i64) ((⟨b1, 0, none⟩ : Addr).add 2) fun (x32 : Int) => pCall Try.prog 39 [(.pointer w_1), (.int .i64 x31), (.int .i64 x32)] KP (.many [.agg, (.int .i64)]) fun (r33 : (List Value) × Int × Unit) => pNew (zc Try.prog 36) fun b34 => pStA 5 ⟨b34, 0, none⟩ r33.1 <| pLd (.int .i64) ((⟨b1, 0, none⟩ : Addr).add 1) fun (x35 : Int) => pLd (.int .i64) ((⟨b1, 0, none⟩ : Addr).add 1) fun (x36 : Int) => pCall Try.prog 18 [(.pointer t_0), (.int .i64 x35)] KP (.one .slice) fun (r37 : Sl) => pKeep (loadF Try.prog 3 (.pointer (some ((⟨b1, 0, none⟩ : Addr).add 1))) (.int .i64 x36)) <| pCall Try.prog 59 [(.pointer w_1), (.int .i64 x36)] KP (.one .slice) fun (r38 : Sl) => pJoin (σ := Bool × Unit)
  (fun k39 => pLdA 3 ⟨b22, 0, none⟩ fun x40 => pLdA 3 ⟨b26, 0, none⟩ fun x41 => pAssert (okCells [.int .i64, .int .i64, .int .i64] x40 = true ∧ okCells [.int .i64, .int .i64, .int .i64] x41 = true) <| pIf (!eqCells x40 x41)
  (k39 (true, ()))
  (pIf ((r21.2.1 : Int) != r25.2.1)
  (k39 (true, ()))
  (pLdA 5 ⟨b30, 0, none⟩ fun x42 => pLdA 5 ⟨b34, 0, none⟩ fun x43 => pAssert (okCells [.bool, .int .i64, .int .i64, .int .i64, .bool] x42 = true ∧ okCells [.bool, .int .i64, .int .i64, .int .i64, .bool] x43 = true) <| pIf (!eqCells x42 x43)
  (k39 (true, ()))
  (pIf ((r29.2.1 : Int) != r33.2.1)
  (k39 (true, ()))
  (k39 ((((r37.len : Int) : Int) != (r38.len : Int)), ()))))))
  (fun s => law24_same_j3 t_0 w_1 KP K b1 r37 r38 s.1))
def law24_same (t_0 : Option Addr) (w_1 : Option Addr) (o_2 : List Value) (KP K : Value → Pr) : Pr :=
  pNew o_2 fun b1 => pJoin (σ := Bool × Unit)
  (fun k2 => pCall Try.prog 16 [(.pointer t_0)] KP (.one .slice) fun (r3 : Sl) => pCall Try.prog 53 [(.pointer w_1)] KP (.one .slice) fun (r4 : Sl) => pCall Try.prog 22 [(.slice r3.base r3.len r3.cap), (.slice r4.base r4.len r4.cap)] KP (.one .bool) fun (r5 : Bool) => pIf (!r5)
  (k2 (true, ()))
  (pCall Try.prog 17 [(.pointer t_0)] KP (.one (.int .i64)) fun (r6 : Int) => pCall Try.prog 50 [(.pointer w_1)] KP (.one (.int .i64)) fun (r7 : Int) => pIf ((r6 : Int) != r7)
  (k2 (true, ()))
  (pCall Try.prog 24 [(.pointer t_0)] KP (.one (.int .i64)) fun (r8 : Int) => pCall Try.prog 49 [(.pointer w_1)] KP (.one (.int .i64)) fun (r9 : Int) => pIf ((r8 : Int) != r9)
  (k2 (true, ()))
  (pLd (.int .i64) ((⟨b1, 0, none⟩ : Addr).add 2) fun (x10 : Int) => pLd (.int .i64) ((⟨b1, 0, none⟩ : Addr).add 2) fun (x11 : Int) => pCall Try.prog 54 [(.pointer t_0), (.int .i64 x10)] KP (.one .bool) fun (r12 : Bool) => pKeep (loadF Try.prog 3 (.pointer (some ((⟨b1, 0, none⟩ : Addr).add 2))) (.int .i64 x11)) <| pCall Try.prog 55 [(.pointer w_1), (.int .i64 x11)] KP (.one .bool) fun (r13 : Bool) => pIf (!(r12 == r13))
  (k2 (true, ()))
  (pLd (.int .i64) ((⟨b1, 0, none⟩ : Addr).add 1) fun (x14 : Int) => pLd (.int .i64) ((⟨b1, 0, none⟩ : Addr).add 1) fun (x15 : Int) => pCall Try.prog 19 [(.pointer t_0), (.int .i64 x14)] KP (.one .bool) fun (r16 : Bool) => pKeep (loadF Try.prog 3 (.pointer (some ((⟨b1, 0, none⟩ : Addr).add 1))) (.int .i64 x15)) <| pCall Try.prog 43 [(.pointer w_1), (.int .i64 x15)] KP (.one .bool) fun (r17 : Bool) => k2 ((!(r16 == r17)), ()))))))
  (fun s => law24_same_j4 t_0 w_1 KP K b1 s.1)
def law24_same_ann : Ann := .two (.none) (.two (.join (.ord [0, 2, 1, 3, 4, 5, 6, 7, 9, 8, 10, 11, 12, 13, 14, 16, 15, 17, 18, 19, 20, 21, 22, 25, 26, 23, 27, 24, 28, 29, 30, 31, 32, 33, 36, 37, 34, 38, 35, 39, 40, 41]) (.two (.two (.none) (.none)) (.none)) [(61, .bool)]) (.two (.none) (.two (.none) (.two (.none) (.two (.none) (.two (.ord [0, 1, 4, 5, 2, 6, 3, 7, 8, 9]) (.two (.join (.none) (.two (.two (.none) (.none)) (.none)) [(130, .bool)]) (.two (.two (.none) (.sub (.loop [(17, (.int .i64))] (.two (.two (.none) (.two (.none) (.none))) (.two (.sub (.two (.ord [0, 1, 2, 4, 5, 6, 3, 7, 8]) (.two (.two (.none) (.none)) (.none)))) (.none)))))) (.two (.none) (.join (.ord [0, 1, 2, 3, 4, 5, 6, 7, 8, 9, 11, 12, 14, 15, 10, 13, 16, 17, 18, 19, 20, 21]) (.none) [(6, .bool)]))))))))))
theorem law24_same_eq (t_0 : Option Addr) (w_1 : Option Addr) (o_2 : List Value) (KP K : Value → Pr) : vcBody Try.prog Try.f21 (Try.f21.body.getD .skip) law24_same_ann [(.pointer t_0), (.pointer w_1), (.agg o_2.toArray)] KP K = law24_same t_0 w_1 o_2 KP K := by kernel_rfl
theorem law24_same_call (t_0 : Option Addr) (w_1 : Option Addr) (o_2 : List Value) {KP K : Value → Pr} {h : Heap} (s : law24_same t_0 w_1 o_2 (fgt KP) (fgt K) h) : WpCall Try.prog 21 [(.pointer t_0), (.pointer w_1), (.agg o_2.toArray)].toArray KP K h :=
  WpCall.of_vc Try.mixed Try.func21 (by kernel_rfl) Try.call21 law24_same_ann (by rw [law24_same_eq]; exact s)

/- halberd/halberdref24.Same -/
def ref24_Same_l1 (a_0 : Sl) (b_1 : Sl) (K : Value → Pr) (k1 : Int × Unit → Pr) (x2 : Int) : Pr :=
  pIf (decide ((x2 : Int) < (a_0.len : Int)))
  (pIdx x2 a_0.len <| pSome a_0.base fun a3 => pIdx x2 b_1.len <| pSome b_1.base fun a4 => pLdA 49 (a3.add ((x2 : Int).toNat * 49)) fun x5 => pLdA 49 (a4.add ((x2 : Int).toNat * 49)) fun x6 => pAssert (okCells [.int .i64, .int .i64, .int .i64, .int .i64, .int .i64, .int .i64, .int .i64, .int .i64, .bool, .int .i64, .int .u64, .int .i64, .int .i64, .int .i64, .int .i64, .int .i64, .int .i64, .int .i64, .int .i64, .int .i64, .int .i64, .int .i64, .int .i64, .int .i64, .int .i64, .int .i64, .int .i64, .int .i64, .int .i64, .bool, .int .i64, .int .i64, .int .i64, .bool, .bool, .int .i64, .int .i64, .int .i64, .bool, .bool, .int .i64, .int .i64, .int .i64, .bool, .bool, .int .i64, .int .i64, .int .i64, .bool] x5 = true ∧ okCells [.int .i64, .int .i64, .int .i64, .int .i64, .int .i64, .int .i64, .int .i64, .int .i64, .bool, .int .i64, .int .u64, .int .i64, .int .i64, .int .i64, .int .i64, .int .i64, .int .i64, .int .i64, .int .i64, .int .i64, .int .i64, .int .i64, .int .i64, .int .i64, .int .i64, .int .i64, .int .i64, .int .i64, .int .i64, .bool, .int .i64, .int .i64, .int .i64, .bool, .bool, .int .i64, .int .i64, .int .i64, .bool, .bool, .int .i64, .int .i64, .int .i64, .bool, .bool, .int .i64, .int .i64, .int .i64, .bool] x6 = true) <| pIf (!eqCells x5 x6)
  (K (.bool false))
  (k1 ((IntKind.i64.wrap (x2 + 1)), ())))
  (K (.bool true))
def ref24_Same (a_0 : Sl) (b_1 : Sl) (KP K : Value → Pr) : Pr :=
  pIf (((a_0.len : Int) : Int) != (b_1.len : Int))
  (K (.bool false))
  (pLoop (σ := Int × Unit) (fun s k1 => ref24_Same_l1 a_0 b_1 K k1 s.1) (0, ()))
def ref24_Same_ann : Ann := .two (.none) (.two (.two (.none) (.two (.two (.none) (.none)) (.none))) (.two (.two (.none) (.sub (.loop [(5, (.int .i64))] (.two (.two (.none) (.two (.none) (.none))) (.two (.sub (.two (.ord [0, 1, 2, 4, 5, 6, 3, 7, 8]) (.two (.two (.none) (.none)) (.none)))) (.none)))))) (.two (.none) (.none))))
theorem ref24_Same_eq (a_0 : Sl) (b_1 : Sl) (KP K : Value → Pr) : vcBody Try.prog Try.f22 (Try.f22.body.getD .skip) ref24_Same_ann [(.slice a_0.base a_0.len a_0.cap), (.slice b_1.base b_1.len b_1.cap)] KP K = ref24_Same a_0 b_1 KP K := by kernel_rfl
theorem ref24_Same_call (a_0 : Sl) (b_1 : Sl) {KP K : Value → Pr} {h : Heap} (s : ref24_Same a_0 b_1 (fgt KP) (fgt K) h) : WpCall Try.prog 22 [(.slice a_0.base a_0.len a_0.cap), (.slice b_1.base b_1.len b_1.cap)].toArray KP K h :=
  WpCall.of_vc Try.mixed Try.func22 (by kernel_rfl) Try.call22 ref24_Same_ann (by rw [ref24_Same_eq]; exact s)

/- (*halberd/tasks.Table).alive -/
def tasks_Table_alive_j1 (K : Value → Pr) (r1 : Option Addr) (x5 : Bool) : Pr :=
  pIf x5
  (K (.pointer r1))
  (K (.pointer none))
def tasks_Table_alive (t_0 : Option Addr) (pid_1 : Int) (KP K : Value → Pr) : Pr :=
  pCall Try.prog 26 [(.pointer t_0), (.int .i64 pid_1)] KP (.one .ptr) fun (r1 : Option Addr) => pJoin (σ := Bool × Unit)
  (fun k2 => pIf (!r1.isNone)
  (pSome r1 fun a3 => pLd .bool (a3.add 8) fun (x4 : Bool) => k2 ((!x4), ()))
  (k2 (false, ())))
  (fun s => tasks_Table_alive_j1 K r1 s.1)
def tasks_Table_alive_ann : Ann := .two (.none) (.two (.two (.none) (.join (.none) (.two (.two (.none) (.none)) (.none)) [(17, .bool)])) (.two (.none) (.none)))
theorem tasks_Table_alive_eq (t_0 : Option Addr) (pid_1 : Int) (KP K : Value → Pr) : vcBody Try.prog Try.f23 (Try.f23.body.getD .skip) tasks_Table_alive_ann [(.pointer t_0), (.int .i64 pid_1)] KP K = tasks_Table_alive t_0 pid_1 KP K := by kernel_rfl
theorem tasks_Table_alive_call (t_0 : Option Addr) (pid_1 : Int) {KP K : Value → Pr} {h : Heap} (s : tasks_Table_alive t_0 pid_1 (fgt KP) (fgt K) h) : WpCall Try.prog 23 [(.pointer t_0), (.int .i64 pid_1)].toArray KP K h :=
  WpCall.of_vc Try.mixed Try.func23 (by kernel_rfl) Try.call23 tasks_Table_alive_ann (by rw [tasks_Table_alive_eq]; exact s)

/- (*halberd/tasks.Table).Next -/
def tasks_Table_Next_j1 (t_0 : Option Addr) (K : Value → Pr) (k1 : Int × Unit → Pr) (x2 : Int) (x4 : Bool) : Pr :=
  pIf x4
  (pSome t_0 fun a5 => pIdx x2 9 <| pLd (.int .i64) (((a5.add 0).add ((x2 : Int).toNat * 49)).add 0) fun (x6 : Int) => pIf ((x6 : Int) == 0)
  (K (.int .i64 x2))
  (k1 ((IntKind.i64.wrap (x2 + 1)), ())))
  (K (.int .i64 0))
def tasks_Table_Next_l2 (t_0 : Option Addr) (K : Value → Pr) (k1 : Int × Unit → Pr) (x2 : Int) : Pr :=
  pJoin (σ := Bool × Unit)
  (fun k3 => pIf (!t_0.isNone)
  (k3 ((decide ((x2 : Int) ≤ 8)), ()))
  (k3 (false, ())))
  (fun s => tasks_Table_Next_j1 t_0 K k1 x2 s.1)
def tasks_Table_Next (t_0 : Option Addr) (KP K : Value → Pr) : Pr :=
  pLoop (σ := Int × Unit) (fun s k1 => tasks_Table_Next_l2 t_0 K k1 s.1) (1, ())
def tasks_Table_Next_ann : Ann := .two (.none) (.two (.two (.none) (.sub (.loop [(3, (.int .i64))] (.two (.join (.none) (.two (.none) (.none)) [(9, .bool)]) (.two (.sub (.two (.none) (.two (.two (.none) (.none)) (.none)))) (.none)))))) (.two (.none) (.none)))
theorem tasks_Table_Next_eq (t_0 : Option Addr) (KP K : Value → Pr) : vcBody Try.prog Try.f24 (Try.f24.body.getD .skip) tasks_Table_Next_ann [(.pointer t_0)] KP K = tasks_Table_Next t_0 KP K := by kernel_rfl
theorem tasks_Table_Next_call (t_0 : Option Addr) {KP K : Value → Pr} {h : Heap} (s : tasks_Table_Next t_0 (fgt KP) (fgt K) h) : WpCall Try.prog 24 [(.pointer t_0)].toArray KP K h :=
  WpCall.of_vc Try.mixed Try.func24 (by kernel_rfl) Try.call24 tasks_Table_Next_ann (by rw [tasks_Table_Next_eq]; exact s)

/- halberd/tasks.open -/
def tasks_open_j1 (k3 : Int × Int × Unit → Pr) (x5 : Int) (x9 : Int) : Pr :=
  k3 (x9, (IntKind.i64.wrap (x5 + 1)), ())
def tasks_open_l2 (K : Value → Pr) (x2 : List Value) (k3 : Int × Int × Unit → Pr) (x4 : Int) (x5 : Int) : Pr :=
  pIf (decide ((x5 : Int) < 6))
  (pJoin (σ := Int × Unit)
  (fun k6 => pIdx x5 6 <| pNew (zc Try.prog 33) fun b7 => pStA 3 ⟨b7, 0, none⟩ ((x2.drop ((x5 : Int).toNat * 3)).take 3) <| pLdA 3 ⟨b7, 0, none⟩ fun x8 => pAssert (okCells [.int .i64, .int .i64, .int .i64] x8 = true ∧ okCells [.int .i64, .int .i64, .int .i64] (lay (zc Try.prog 33) []) = true) <| pIf (!eqCells x8 (lay (zc Try.prog 33) []))
  (k6 ((IntKind.i64.wrap (x4 + 1)), ()))
  (k6 (x4, ())))
  (fun s => tasks_open_j1 k3 x5 s.1))
  (K (.int .i64 x4))
def tasks_open (x_0 : List Value) (KP K : Value → Pr) : Pr :=
  pNew x_0 fun b1 => pLdA 18 ((⟨b1, 0, none⟩ : Addr).add 11) fun x2 => pLoop (σ := Int × Int × Unit) (fun s k3 => tasks_open_l2 K x2 k3 s.1 s.2.1) (0, 0, ())
def tasks_open_ann : Ann := .two (.none) (.two (.none) (.two (.two (.none) (.sub (.loop [(3, (.int .i64)), (8, (.int .i64))] (.two (.none) (.two (.two (.none) (.none)) (.join (.sub (.two (.none) (.two (.none) (.two (.none) (.none))))) (.none) [(3, (.int .i64))])))))) (.two (.none) (.none))))
theorem tasks_open_eq (x_0 : List Value) (KP K : Value → Pr) : vcBody Try.prog Try.f25 (Try.f25.body.getD .skip) tasks_open_ann [(.agg x_0.toArray)] KP K = tasks_open x_0 KP K := by kernel_rfl
theorem tasks_open_call (x_0 : List Value) {KP K : Value → Pr} {h : Heap} (s : tasks_open x_0 (fgt KP) (fgt K) h) : WpCall Try.prog 25 [(.agg x_0.toArray)].toArray KP K h :=
  WpCall.of_vc Try.mixed Try.func25 (by kernel_rfl) Try.call25 tasks_open_ann (by rw [tasks_open_eq]; exact s)

/- (*halberd/tasks.Table).at -/
def tasks_Table_at_j1 (t_0 : Option Addr) (pid_1 : Int) (K : Value → Pr) (x4 : Bool) : Pr :=
  pIf x4
  (K (.pointer none))
  (pSome t_0 fun a5 => pIdx pid_1 9 <| K (.pointer (some ((a5.add 0).add ((pid_1 : Int).toNat * 49)))))
def tasks_Table_at (t_0 : Option Addr) (pid_1 : Int) (KP K : Value → Pr) : Pr :=
  pJoin (σ := Bool × Unit)
  (fun k1 => pIf (t_0.isNone)
  (k1 (true, ()))
  (pIf (decide ((pid_1 : Int) < 1))
  (k1 (true, ()))
  (pIf (decide ((pid_1 : Int) ≥ 9))
  (k1 (true, ()))
  (pSome t_0 fun a2 => pIdx pid_1 9 <| pLd (.int .i64) (((a2.add 0).add ((pid_1 : Int).toNat * 49)).add 0) fun (x3 : Int) => k1 (((x3 : Int) == 0), ())))))
  (fun s => tasks_Table_at_j1 t_0 pid_1 K s.1)
def tasks_Table_at_ann : Ann := .two (.none) (.two (.join (.none) (.two (.two (.none) (.none)) (.none)) [(24, .bool)]) (.two (.none) (.none)))
theorem tasks_Table_at_eq (t_0 : Option Addr) (pid_1 : Int) (KP K : Value → Pr) : vcBody Try.prog Try.f26 (Try.f26.body.getD .skip) tasks_Table_at_ann [(.pointer t_0), (.int .i64 pid_1)] KP K = tasks_Table_at t_0 pid_1 KP K := by kernel_rfl
theorem tasks_Table_at_call (t_0 : Option Addr) (pid_1 : Int) {KP K : Value → Pr} {h : Heap} (s : tasks_Table_at t_0 pid_1 (fgt KP) (fgt K) h) : WpCall Try.prog 26 [(.pointer t_0), (.int .i64 pid_1)].toArray KP K h :=
  WpCall.of_vc Try.mixed Try.func26 (by kernel_rfl) Try.call26 tasks_Table_at_ann (by rw [tasks_Table_at_eq]; exact s)

end Go.Proofs.Ytgheplpbffanoaa
