import Derived.Test.YtgheplpbffanoaaV
set_option linter.unusedVariables false
namespace Go.Proofs.Ytgheplpbffanoaa
open Go.Hl
/- (*halberd/tasks.Table).Exec$1 -/
def tasks_Table_Exec_1 (x_0 : Option Addr) (p_1 : Addr) (KP K : Value → Pr) : Pr :=
  pLd (.int .i64) p_1 fun (x1 : Int) => pSome x_0 fun a2 => pSt (a2.add 6) (.int .i64 x1) <| pSome x_0 fun a3 => pStA 20 (a3.add 29) (lay (zc Try.prog 37) []) <| K (.int .i64 0)
def tasks_Table_Exec_1_ann : Ann := .two (.none) (.two (.none) (.two (.none) (.none)))
theorem tasks_Table_Exec_1_eq (x_0 : Option Addr) (p_1 : Addr) (KP K : Value → Pr) : vcBody Try.prog Try.f75 (Try.f75.body.getD .skip) tasks_Table_Exec_1_ann [(.pointer x_0), (.pointer (some p_1))] KP K = tasks_Table_Exec_1 x_0 p_1 KP K := by kernel_rfl
theorem tasks_Table_Exec_1_call (x_0 : Option Addr) (p_1 : Addr) {KP K : Value → Pr} {h : Heap} (s : tasks_Table_Exec_1 x_0 p_1 (fgt KP) (fgt K) h) : WpCall Try.prog 75 [(.pointer x_0), (.pointer (some p_1))].toArray KP K h :=
  WpCall.of_vc Try.mixed Try.func75 (by kernel_rfl) Try.call75 tasks_Table_Exec_1_ann (by rw [tasks_Table_Exec_1_eq]; exact s)

/- (*halberd/tasks.Table).Signal$1 -/
def tasks_Table_Signal_1_j1 (x_0 : Option Addr) (p_1 : Addr) (K : Value → Pr) (x4 : Bool) : Pr :=
  pIf x4
  (K (.int .i64 22))
  (pSome x_0 fun a5 => pLd (.int .u64) (a5.add 10) fun (x6 : Int) => pLd (.int .i64) p_1 fun (x7 : Int) => pAssert (0 ≤ (x7 : Int)) <| pSome x_0 fun a8 => pSt (a8.add 10) (.int .u64 (bitsV .or .u64 x6 (IntKind.u64.wrap (1 * 2 ^ (min (x7 : Int).toNat (IntKind.u64).bits))))) <| K (.int .i64 0))
def tasks_Table_Signal_1 (x_0 : Option Addr) (p_1 : Addr) (KP K : Value → Pr) : Pr :=
  pJoin (σ := Bool × Unit)
  (fun k1 => pLd (.int .i64) p_1 fun (x2 : Int) => pIf (decide ((x2 : Int) < 0))
  (k1 (true, ()))
  (pLd (.int .i64) p_1 fun (x3 : Int) => k1 ((decide ((x3 : Int) > 63)), ())))
  (fun s => tasks_Table_Signal_1_j1 x_0 p_1 K s.1)
def tasks_Table_Signal_1_ann : Ann := .two (.none) (.two (.join (.none) (.two (.two (.none) (.none)) (.none)) [(9, .bool)]) (.two (.ord [0, 1, 2, 3, 4, 5, 6, 7, 8, 9]) (.two (.none) (.none))))
theorem tasks_Table_Signal_1_eq (x_0 : Option Addr) (p_1 : Addr) (KP K : Value → Pr) : vcBody Try.prog Try.f76 (Try.f76.body.getD .skip) tasks_Table_Signal_1_ann [(.pointer x_0), (.pointer (some p_1))] KP K = tasks_Table_Signal_1 x_0 p_1 KP K := by kernel_rfl
theorem tasks_Table_Signal_1_call (x_0 : Option Addr) (p_1 : Addr) {KP K : Value → Pr} {h : Heap} (s : tasks_Table_Signal_1 x_0 p_1 (fgt KP) (fgt K) h) : WpCall Try.prog 76 [(.pointer x_0), (.pointer (some p_1))].toArray KP K h :=
  WpCall.of_vc Try.mixed Try.func76 (by kernel_rfl) Try.call76 tasks_Table_Signal_1_ann (by rw [tasks_Table_Signal_1_eq]; exact s)

/- (*halberd/tasks.Table).Trace$1 -/
def tasks_Table_Trace_1 (x_0 : Option Addr) (p_1 : Addr) (KP K : Value → Pr) : Pr :=
  pLd (.int .i64) p_1 fun (x1 : Int) => pSome x_0 fun a2 => pSt (a2.add 7) (.int .i64 x1) <| K (.int .i64 0)
def tasks_Table_Trace_1_ann : Ann := .two (.none) (.two (.none) (.two (.none) (.none)))
theorem tasks_Table_Trace_1_eq (x_0 : Option Addr) (p_1 : Addr) (KP K : Value → Pr) : vcBody Try.prog Try.f77 (Try.f77.body.getD .skip) tasks_Table_Trace_1_ann [(.pointer x_0), (.pointer (some p_1))] KP K = tasks_Table_Trace_1 x_0 p_1 KP K := by kernel_rfl
theorem tasks_Table_Trace_1_call (x_0 : Option Addr) (p_1 : Addr) {KP K : Value → Pr} {h : Heap} (s : tasks_Table_Trace_1 x_0 p_1 (fgt KP) (fgt K) h) : WpCall Try.prog 77 [(.pointer x_0), (.pointer (some p_1))].toArray KP K h :=
  WpCall.of_vc Try.mixed Try.func77 (by kernel_rfl) Try.call77 tasks_Table_Trace_1_ann (by rw [tasks_Table_Trace_1_eq]; exact s)

/- slices.Index[[]int,int] -/
def slices_Index_int_int_l1 (s_0 : Sl) (v_1 : Int) (K : Value → Pr) (k1 : Int × Unit → Pr) (x2 : Int) : Pr :=
  pIf (decide ((x2 : Int) < (s_0.len : Int)))
  (pIdx x2 s_0.len <| pSome s_0.base fun a3 => pLd (.int .i64) (a3.add ((x2 : Int).toNat * 1)) fun (x4 : Int) => pIf ((v_1 : Int) == x4)
  (K (.int .i64 x2))
  (k1 ((IntKind.i64.wrap (x2 + 1)), ())))
  (K (.int .i64 (-1)))
def slices_Index_int_int (s_0 : Sl) (v_1 : Int) (KP K : Value → Pr) : Pr :=
  pLoop (σ := Int × Unit) (fun s k1 => slices_Index_int_int_l1 s_0 v_1 K k1 s.1) (0, ())
def slices_Index_int_int_ann : Ann := .two (.none) (.two (.two (.none) (.sub (.loop [(8, (.int .i64))] (.two (.none) (.two (.two (.none) (.none)) (.two (.sub (.two (.none) (.two (.none) (.two (.two (.none) (.none)) (.none))))) (.none))))))) (.two (.none) (.none)))
theorem slices_Index_int_int_eq (s_0 : Sl) (v_1 : Int) (KP K : Value → Pr) : vcBody Try.prog Try.f78 (Try.f78.body.getD .skip) slices_Index_int_int_ann [(.slice s_0.base s_0.len s_0.cap), (.int .i64 v_1)] KP K = slices_Index_int_int s_0 v_1 KP K := by kernel_rfl
theorem slices_Index_int_int_call (s_0 : Sl) (v_1 : Int) {KP K : Value → Pr} {h : Heap} (s : slices_Index_int_int s_0 v_1 (fgt KP) (fgt K) h) : WpCall Try.prog 78 [(.slice s_0.base s_0.len s_0.cap), (.int .i64 v_1)].toArray KP K h :=
  WpCall.of_vc Try.mixed Try.func78 (by kernel_rfl) Try.call78 slices_Index_int_int_ann (by rw [slices_Index_int_int_eq]; exact s)

/- slices.ContainsFunc[[]halberd/api.Task,halberd/api.Task] -/
def slices_ContainsFunc_api_Task_api_Task (s_0 : Sl) (f_1 : Value) (KP K : Value → Pr) : Pr :=
  pCall Try.prog 91 [(.slice s_0.base s_0.len s_0.cap), f_1] KP (.one (.int .i64)) fun (r1 : Int) => K (.bool (decide ((r1 : Int) ≥ 0)))
def slices_ContainsFunc_api_Task_api_Task_ann : Ann := .two (.none) (.two (.none) (.none))
theorem slices_ContainsFunc_api_Task_api_Task_eq (s_0 : Sl) (f_1 : Value) (KP K : Value → Pr) : vcBody Try.prog Try.f79 (Try.f79.body.getD .skip) slices_ContainsFunc_api_Task_api_Task_ann [(.slice s_0.base s_0.len s_0.cap), f_1] KP K = slices_ContainsFunc_api_Task_api_Task s_0 f_1 KP K := by kernel_rfl
theorem slices_ContainsFunc_api_Task_api_Task_call (s_0 : Sl) (f_1 : Value) {KP K : Value → Pr} {h : Heap} (s : slices_ContainsFunc_api_Task_api_Task s_0 f_1 (fgt KP) (fgt K) h) : WpCall Try.prog 79 [(.slice s_0.base s_0.len s_0.cap), f_1].toArray KP K h :=
  WpCall.of_vc Try.mixed Try.func79 (by kernel_rfl) Try.call79 slices_ContainsFunc_api_Task_api_Task_ann (by rw [slices_ContainsFunc_api_Task_api_Task_eq]; exact s)

/- (*halberd/tasks.Table).Uses$1 -/
def tasks_Table_Uses_1_j1 (K : Value → Pr) (x15 : Bool) : Pr :=
  K (.bool x15)
def tasks_Table_Uses_1 (x_0 : List Value) (p_1 : Addr) (KP K : Value → Pr) : Pr :=
  pNew x_0 fun b1 => pJoin (σ := Bool × Unit)
  (fun k2 => pLd .bool ((⟨b1, 0, none⟩ : Addr).add 8) fun (x3 : Bool) => pIf (!x3)
  (pLd (.int .i64) ((⟨b1, 0, none⟩ : Addr).add 5) fun (x4 : Int) => pLd (.int .i64) p_1 fun (x5 : Int) => pIf ((x4 : Int) == x5)
  (k2 (true, ()))
  (pLd (.int .i64) ((⟨b1, 0, none⟩ : Addr).add 6) fun (x6 : Int) => pLd (.int .i64) p_1 fun (x7 : Int) => pIf ((x6 : Int) == x7)
  (pLd (.int .i64) p_1 fun (x8 : Int) => pIf ((x8 : Int) != 0)
  (k2 (true, ()))
  (pAssert (0 ≤ (0 : Int) ∧ (0 : Int) ≤ (6 : Int) ∧ (6 : Int) ≤ (6 : Int)) <| pCall Try.prog 81 [(.slice (some (if (6 : Nat) = (0 : Int).toNat then ((⟨b1, 0, none⟩ : Addr).add 11) else ((⟨b1, 0, none⟩ : Addr).add 11).add ((0 : Int).toNat * 3))) (((6 : Int) : Int).toNat - (0 : Int).toNat) (6 - (0 : Int).toNat)), (.func (.func 82) [].toArray [(.pointer (some p_1))].toArray)] KP (.one .bool) fun (r9 : Bool) => pIf r9
  (k2 (true, ()))
  (pAssert (0 ≤ (0 : Int) ∧ (0 : Int) ≤ (4 : Int) ∧ (4 : Int) ≤ (4 : Int)) <| pCall Try.prog 83 [(.slice (some (if (4 : Nat) = (0 : Int).toNat then ((⟨b1, 0, none⟩ : Addr).add 29) else ((⟨b1, 0, none⟩ : Addr).add 29).add ((0 : Int).toNat * 5))) (((4 : Int) : Int).toNat - (0 : Int).toNat) (4 - (0 : Int).toNat)), (.func (.func 84) [].toArray [(.pointer (some p_1))].toArray)] KP (.one .bool) fun (r10 : Bool) => k2 (r10, ()))))
  (pAssert (0 ≤ (0 : Int) ∧ (0 : Int) ≤ (6 : Int) ∧ (6 : Int) ≤ (6 : Int)) <| pCall Try.prog 81 [(.slice (some (if (6 : Nat) = (0 : Int).toNat then ((⟨b1, 0, none⟩ : Addr).add 11) else ((⟨b1, 0, none⟩ : Addr).add 11).add ((0 : Int).toNat * 3))) (((6 : Int) : Int).toNat - (0 : Int).toNat) (6 - (0 : Int).toNat)), (.func (.func 82) [].toArray [(.pointer (some p_1))].toArray)] KP (.one .bool) fun (r11 : Bool) => pIf r11
  (k2 (true, ()))
  (pAssert (0 ≤ (0 : Int) ∧ (0 : Int) ≤ (4 : Int) ∧ (4 : Int) ≤ (4 : Int)) <| pCall Try.prog 83 [(.slice (some (if (4 : Nat) = (0 : Int).toNat then ((⟨b1, 0, none⟩ : Addr).add 29) else ((⟨b1, 0, none⟩ : Addr).add 29).add ((0 : Int).toNat * 5))) (((4 : Int) : Int).toNat - (0 : Int).toNat) (4 - (0 : Int).toNat)), (.func (.func 84) [].toArray [(.pointer (some p_1))].toArray)] KP (.one .bool) fun (r12 : Bool) => k2 (r12, ())))))
  (pAssert (0 ≤ (0 : Int) ∧ (0 : Int) ≤ (6 : Int) ∧ (6 : Int) ≤ (6 : Int)) <| pCall Try.prog 81 [(.slice (some (if (6 : Nat) = (0 : Int).toNat then ((⟨b1, 0, none⟩ : Addr).add 11) else ((⟨b1, 0, none⟩ : Addr).add 11).add ((0 : Int).toNat * 3))) (((6 : Int) : Int).toNat - (0 : Int).toNat) (6 - (0 : Int).toNat)), (.func (.func 82) [].toArray [(.pointer (some p_1))].toArray)] KP (.one .bool) fun (r13 : Bool) => pIf r13
  (k2 (true, ()))
  (pAssert (0 ≤ (0 : Int) ∧ (0 : Int) ≤ (4 : Int) ∧ (4 : Int) ≤ (4 : Int)) <| pCall Try.prog 83 [(.slice (some (if (4 : Nat) = (0 : Int).toNat then ((⟨b1, 0, none⟩ : Addr).add 29) else ((⟨b1, 0, none⟩ : Addr).add 29).add ((0 : Int).toNat * 5))) (((4 : Int) : Int).toNat - (0 : Int).toNat) (4 - (0 : Int).toNat)), (.func (.func 84) [].toArray [(.pointer (some p_1))].toArray)] KP (.one .bool) fun (r14 : Bool) => k2 (r14, ()))))
  (fun s => tasks_Table_Uses_1_j1 K s.1)
def tasks_Table_Uses_1_ann : Ann := .two (.none) (.join (.none) (.none) [(3, .bool)])
theorem tasks_Table_Uses_1_eq (x_0 : List Value) (p_1 : Addr) (KP K : Value → Pr) : vcBody Try.prog Try.f80 (Try.f80.body.getD .skip) tasks_Table_Uses_1_ann [(.agg x_0.toArray), (.pointer (some p_1))] KP K = tasks_Table_Uses_1 x_0 p_1 KP K := by kernel_rfl
theorem tasks_Table_Uses_1_call (x_0 : List Value) (p_1 : Addr) {KP K : Value → Pr} {h : Heap} (s : tasks_Table_Uses_1 x_0 p_1 (fgt KP) (fgt K) h) : WpCall Try.prog 80 [(.agg x_0.toArray), (.pointer (some p_1))].toArray KP K h :=
  WpCall.of_vc Try.mixed Try.func80 (by kernel_rfl) Try.call80 tasks_Table_Uses_1_ann (by rw [tasks_Table_Uses_1_eq]; exact s)

/- slices.ContainsFunc[[]halberd/api.File,halberd/api.File] -/
def slices_ContainsFunc_api_File_api_File (s_0 : Sl) (f_1 : Value) (KP K : Value → Pr) : Pr :=
  pCall Try.prog 92 [(.slice s_0.base s_0.len s_0.cap), f_1] KP (.one (.int .i64)) fun (r1 : Int) => K (.bool (decide ((r1 : Int) ≥ 0)))
def slices_ContainsFunc_api_File_api_File_ann : Ann := .two (.none) (.two (.none) (.none))
theorem slices_ContainsFunc_api_File_api_File_eq (s_0 : Sl) (f_1 : Value) (KP K : Value → Pr) : vcBody Try.prog Try.f81 (Try.f81.body.getD .skip) slices_ContainsFunc_api_File_api_File_ann [(.slice s_0.base s_0.len s_0.cap), f_1] KP K = slices_ContainsFunc_api_File_api_File s_0 f_1 KP K := by kernel_rfl
theorem slices_ContainsFunc_api_File_api_File_call (s_0 : Sl) (f_1 : Value) {KP K : Value → Pr} {h : Heap} (s : slices_ContainsFunc_api_File_api_File s_0 f_1 (fgt KP) (fgt K) h) : WpCall Try.prog 81 [(.slice s_0.base s_0.len s_0.cap), f_1].toArray KP K h :=
  WpCall.of_vc Try.mixed Try.func81 (by kernel_rfl) Try.call81 slices_ContainsFunc_api_File_api_File_ann (by rw [slices_ContainsFunc_api_File_api_File_eq]; exact s)

/- (*halberd/tasks.Table).Uses$1$1 -/
def tasks_Table_Uses_1_1_j1 (K : Value → Pr) (x6 : Bool) : Pr :=
  K (.bool x6)
def tasks_Table_Uses_1_1 (f_0 : List Value) (p_1 : Addr) (KP K : Value → Pr) : Pr :=
  pNew f_0 fun b1 => pJoin (σ := Bool × Unit)
  (fun k2 => pLdA 3 ⟨b1, 0, none⟩ fun x3 => pAssert (okCells [.int .i64, .int .i64, .int .i64] x3 = true ∧ okCells [.int .i64, .int .i64, .int .i64] (lay (zc Try.prog 33) []) = true) <| pIf (!eqCells x3 (lay (zc Try.prog 33) []))
  (pLd (.int .i64) ((⟨b1, 0, none⟩ : Addr).add 0) fun (x4 : Int) => pLd (.int .i64) p_1 fun (x5 : Int) => k2 (((x4 : Int) == x5), ()))
  (k2 (false, ())))
  (fun s => tasks_Table_Uses_1_1_j1 K s.1)
def tasks_Table_Uses_1_1_ann : Ann := .two (.none) (.join (.none) (.none) [(3, .bool)])
theorem tasks_Table_Uses_1_1_eq (f_0 : List Value) (p_1 : Addr) (KP K : Value → Pr) : vcBody Try.prog Try.f82 (Try.f82.body.getD .skip) tasks_Table_Uses_1_1_ann [(.agg f_0.toArray), (.pointer (some p_1))] KP K = tasks_Table_Uses_1_1 f_0 p_1 KP K := by kernel_rfl
theorem tasks_Table_Uses_1_1_call (f_0 : List Value) (p_1 : Addr) {KP K : Value → Pr} {h : Heap} (s : tasks_Table_Uses_1_1 f_0 p_1 (fgt KP) (fgt K) h) : WpCall Try.prog 82 [(.agg f_0.toArray), (.pointer (some p_1))].toArray KP K h :=
  WpCall.of_vc Try.mixed Try.func82 (by kernel_rfl) Try.call82 tasks_Table_Uses_1_1_ann (by rw [tasks_Table_Uses_1_1_eq]; exact s)

end Go.Proofs.Ytgheplpbffanoaa
