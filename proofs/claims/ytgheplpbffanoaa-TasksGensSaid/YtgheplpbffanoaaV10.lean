import Derived.Test.YtgheplpbffanoaaV
set_option linter.unusedVariables false
namespace Go.Proofs.Ytgheplpbffanoaa
open Go.Hl
/- slices.ContainsFunc[[]halberd/api.Area,halberd/api.Area] -/
def slices_ContainsFunc_api_Area_api_Area (s_0 : Sl) (f_1 : Value) (KP K : Value → Pr) : Pr :=
  pCall Try.prog 68 [(.slice s_0.base s_0.len s_0.cap), f_1] KP (.one (.int .i64)) fun (r1 : Int) => K (.bool (decide ((r1 : Int) ≥ 0)))
def slices_ContainsFunc_api_Area_api_Area_ann : Ann := .two (.none) (.two (.none) (.none))
theorem slices_ContainsFunc_api_Area_api_Area_eq (s_0 : Sl) (f_1 : Value) (KP K : Value → Pr) : vcBody Try.prog Try.f83 (Try.f83.body.getD .skip) slices_ContainsFunc_api_Area_api_Area_ann [(.slice s_0.base s_0.len s_0.cap), f_1] KP K = slices_ContainsFunc_api_Area_api_Area s_0 f_1 KP K := by kernel_rfl
theorem slices_ContainsFunc_api_Area_api_Area_call (s_0 : Sl) (f_1 : Value) {KP K : Value → Pr} {h : Heap} (s : slices_ContainsFunc_api_Area_api_Area s_0 f_1 (fgt KP) (fgt K) h) : WpCall Try.prog 83 [(.slice s_0.base s_0.len s_0.cap), f_1].toArray KP K h :=
  WpCall.of_vc Try.mixed Try.func83 (by kernel_rfl) Try.call83 slices_ContainsFunc_api_Area_api_Area_ann (by rw [slices_ContainsFunc_api_Area_api_Area_eq]; exact s)

/- (*halberd/tasks.Table).Uses$1$2 -/
def tasks_Table_Uses_1_2_j1 (K : Value → Pr) (x7 : Bool) : Pr :=
  K (.bool x7)
def tasks_Table_Uses_1_2 (a_0 : List Value) (p_1 : Addr) (KP K : Value → Pr) : Pr :=
  pNew a_0 fun b1 => pJoin (σ := Bool × Unit)
  (fun k2 => pLd .bool ((⟨b1, 0, none⟩ : Addr).add 0) fun (x3 : Bool) => pIf x3
  (pLd (.int .i64) ((⟨b1, 0, none⟩ : Addr).add 1) fun (x4 : Int) => pLd (.int .i64) p_1 fun (x5 : Int) => pIf ((x4 : Int) == x5)
  (pLd (.int .i64) p_1 fun (x6 : Int) => k2 (((x6 : Int) != 0), ()))
  (k2 (false, ())))
  (k2 (false, ())))
  (fun s => tasks_Table_Uses_1_2_j1 K s.1)
def tasks_Table_Uses_1_2_ann : Ann := .two (.none) (.join (.none) (.none) [(3, .bool)])
theorem tasks_Table_Uses_1_2_eq (a_0 : List Value) (p_1 : Addr) (KP K : Value → Pr) : vcBody Try.prog Try.f84 (Try.f84.body.getD .skip) tasks_Table_Uses_1_2_ann [(.agg a_0.toArray), (.pointer (some p_1))] KP K = tasks_Table_Uses_1_2 a_0 p_1 KP K := by kernel_rfl
theorem tasks_Table_Uses_1_2_call (a_0 : List Value) (p_1 : Addr) {KP K : Value → Pr} {h : Heap} (s : tasks_Table_Uses_1_2 a_0 p_1 (fgt KP) (fgt K) h) : WpCall Try.prog 84 [(.agg a_0.toArray), (.pointer (some p_1))].toArray KP K h :=
  WpCall.of_vc Try.mixed Try.func84 (by kernel_rfl) Try.call84 tasks_Table_Uses_1_2_ann (by rw [tasks_Table_Uses_1_2_eq]; exact s)

/- (*halberd/tasks.Table).File$1 -/
def tasks_Table_File_1 (f_0 : Option Addr) (p_1 : Addr) (KP K : Value → Pr) : Pr :=
  pSome f_0 fun a1 => pLdA 3 a1 fun x2 => pStA 3 p_1 x2 <| K (.tuple [].toArray)
def tasks_Table_File_1_ann : Ann := .none
theorem tasks_Table_File_1_eq (f_0 : Option Addr) (p_1 : Addr) (KP K : Value → Pr) : vcBody Try.prog Try.f85 (Try.f85.body.getD .skip) tasks_Table_File_1_ann [(.pointer f_0), (.pointer (some p_1))] KP K = tasks_Table_File_1 f_0 p_1 KP K := by kernel_rfl
theorem tasks_Table_File_1_call (f_0 : Option Addr) (p_1 : Addr) {KP K : Value → Pr} {h : Heap} (s : tasks_Table_File_1 f_0 p_1 (fgt KP) (fgt K) h) : WpCall Try.prog 85 [(.pointer f_0), (.pointer (some p_1))].toArray KP K h :=
  WpCall.of_vc Try.mixed Try.func85 (by kernel_rfl) Try.call85 tasks_Table_File_1_ann (by rw [tasks_Table_File_1_eq]; exact s)

/- (*halberd/tasks.Table).Area$1 -/
def tasks_Table_Area_1 (a_0 : Option Addr) (p_1 : Addr) (KP K : Value → Pr) : Pr :=
  pSome a_0 fun a1 => pLdA 5 a1 fun x2 => pStA 5 p_1 x2 <| K (.tuple [].toArray)
def tasks_Table_Area_1_ann : Ann := .none
theorem tasks_Table_Area_1_eq (a_0 : Option Addr) (p_1 : Addr) (KP K : Value → Pr) : vcBody Try.prog Try.f86 (Try.f86.body.getD .skip) tasks_Table_Area_1_ann [(.pointer a_0), (.pointer (some p_1))] KP K = tasks_Table_Area_1 a_0 p_1 KP K := by kernel_rfl
theorem tasks_Table_Area_1_call (a_0 : Option Addr) (p_1 : Addr) {KP K : Value → Pr} {h : Heap} (s : tasks_Table_Area_1 a_0 p_1 (fgt KP) (fgt K) h) : WpCall Try.prog 86 [(.pointer a_0), (.pointer (some p_1))].toArray KP K h :=
  WpCall.of_vc Try.mixed Try.func86 (by kernel_rfl) Try.call86 tasks_Table_Area_1_ann (by rw [tasks_Table_Area_1_eq]; exact s)

/- (*halberd/tasks.Table).put$1 -/
def tasks_Table_put_1 (x_0 : Option Addr) (p_1 : Addr) (p_2 : Addr) (p_3 : Addr) (KP K : Value → Pr) : Pr :=
  pSome x_0 fun a1 => pAssert (0 ≤ (0 : Int) ∧ (0 : Int) ≤ (6 : Int) ∧ (6 : Int) ≤ (6 : Int)) <| pCall Try.prog 88 [(.slice (some (if (6 : Nat) = (0 : Int).toNat then (a1.add 11) else (a1.add 11).add ((0 : Int).toNat * 3))) (((6 : Int) : Int).toNat - (0 : Int).toNat) (6 - (0 : Int).toNat)), (.agg (lay (zc Try.prog 33) []).toArray)] KP (.one (.int .i64)) fun (r2 : Int) => pSt p_1 (.int .i64 r2) <| pLd (.int .i64) p_1 fun (x3 : Int) => pIf (decide ((x3 : Int) < 0))
  (K (.int .i64 24))
  (pLd .ptr p_2 fun (x4 : Option Addr) => pCall Try.prog 17 [(.pointer x4)] KP (.one (.int .i64)) fun (r5 : Int) => pIf (decide ((r5 : Int) ≥ 16))
  (K (.int .i64 23))
  (pSome x_0 fun a6 => pLd (.int .i64) p_1 fun (x7 : Int) => pLdA 3 p_3 fun x8 => pIdx x7 6 <| pStA 3 ((a6.add 11).add ((x7 : Int).toNat * 3)) x8 <| K (.int .i64 0)))
def tasks_Table_put_1_ann : Ann := .two (.none) (.two (.none) (.two (.sub (.two (.none) (.two (.two (.none) (.none)) (.two (.none) (.two (.two (.none) (.none)) (.none)))))) (.two (.ord [0, 3, 4, 1, 2, 5, 6]) (.two (.none) (.none)))))
theorem tasks_Table_put_1_eq (x_0 : Option Addr) (p_1 : Addr) (p_2 : Addr) (p_3 : Addr) (KP K : Value → Pr) : vcBody Try.prog Try.f87 (Try.f87.body.getD .skip) tasks_Table_put_1_ann [(.pointer x_0), (.pointer (some p_1)), (.pointer (some p_2)), (.pointer (some p_3))] KP K = tasks_Table_put_1 x_0 p_1 p_2 p_3 KP K := by kernel_rfl
theorem tasks_Table_put_1_call (x_0 : Option Addr) (p_1 : Addr) (p_2 : Addr) (p_3 : Addr) {KP K : Value → Pr} {h : Heap} (s : tasks_Table_put_1 x_0 p_1 p_2 p_3 (fgt KP) (fgt K) h) : WpCall Try.prog 87 [(.pointer x_0), (.pointer (some p_1)), (.pointer (some p_2)), (.pointer (some p_3))].toArray KP K h :=
  WpCall.of_vc Try.mixed Try.func87 (by kernel_rfl) Try.call87 tasks_Table_put_1_ann (by rw [tasks_Table_put_1_eq]; exact s)

/- slices.Index[[]halberd/api.File,halberd/api.File] -/
def slices_Index_api_File_api_File_l1 (s_0 : Sl) (K : Value → Pr) (b1 : Nat) (k2 : Int × Unit → Pr) (x3 : Int) : Pr :=
  pIf (decide ((x3 : Int) < (s_0.len : Int)))
  (pIdx x3 s_0.len <| pSome s_0.base fun a4 => pLdA 3 ⟨b1, 0, none⟩ fun x5 => pLdA 3 (a4.add ((x3 : Int).toNat * 3)) fun x6 => pAssert (okCells [.int .i64, .int .i64, .int .i64] x5 = true ∧ okCells [.int .i64, .int .i64, .int .i64] x6 = true) <| pIf (eqCells x5 x6)
  (K (.int .i64 x3))
  (k2 ((IntKind.i64.wrap (x3 + 1)), ())))
  (K (.int .i64 (-1)))
def slices_Index_api_File_api_File (s_0 : Sl) (v_1 : List Value) (KP K : Value → Pr) : Pr :=
  pNew v_1 fun b1 => pLoop (σ := Int × Unit) (fun s k2 => slices_Index_api_File_api_File_l1 s_0 K b1 k2 s.1) (0, ())
def slices_Index_api_File_api_File_ann : Ann := .two (.none) (.two (.two (.none) (.sub (.loop [(8, (.int .i64))] (.two (.none) (.two (.two (.none) (.none)) (.two (.sub (.two (.none) (.two (.ord [1, 2, 3, 0, 4, 5]) (.two (.two (.none) (.none)) (.none))))) (.none))))))) (.two (.none) (.none)))
theorem slices_Index_api_File_api_File_eq (s_0 : Sl) (v_1 : List Value) (KP K : Value → Pr) : vcBody Try.prog Try.f88 (Try.f88.body.getD .skip) slices_Index_api_File_api_File_ann [(.slice s_0.base s_0.len s_0.cap), (.agg v_1.toArray)] KP K = slices_Index_api_File_api_File s_0 v_1 KP K := by kernel_rfl
theorem slices_Index_api_File_api_File_call (s_0 : Sl) (v_1 : List Value) {KP K : Value → Pr} {h : Heap} (s : slices_Index_api_File_api_File s_0 v_1 (fgt KP) (fgt K) h) : WpCall Try.prog 88 [(.slice s_0.base s_0.len s_0.cap), (.agg v_1.toArray)].toArray KP K h :=
  WpCall.of_vc Try.mixed Try.func88 (by kernel_rfl) Try.call88 slices_Index_api_File_api_File_ann (by rw [slices_Index_api_File_api_File_eq]; exact s)

/- (*halberd/tasks.Table).file$1 -/
def tasks_Table_file_1_j1 (x_0 : Option Addr) (p_1 : Addr) (p_2 : Addr) (KP : Value → Pr) (K : Value → Pr) (x7 : Bool) : Pr :=
  pIf x7
  (K (.int .i64 9))
  (pSome x_0 fun a8 => pLd .any p_2 fun (x9 : Value) => pLd (.int .i64) p_1 fun (x10 : Int) => pIdx x10 6 <| pCallV Try.prog x9 [(.pointer (some ((a8.add 11).add ((x10 : Int).toNat * 3))))] KP (.many []) fun (r11 : Unit) => K (.int .i64 0))
def tasks_Table_file_1 (x_0 : Option Addr) (p_1 : Addr) (p_2 : Addr) (KP K : Value → Pr) : Pr :=
  pJoin (σ := Bool × Unit)
  (fun k1 => pLd (.int .i64) p_1 fun (x2 : Int) => pIf (decide ((x2 : Int) < 0))
  (k1 (true, ()))
  (pLd (.int .i64) p_1 fun (x3 : Int) => pIf (decide ((x3 : Int) ≥ 6))
  (k1 (true, ()))
  (pSome x_0 fun a4 => pLd (.int .i64) p_1 fun (x5 : Int) => pIdx x5 6 <| pLdA 3 ((a4.add 11).add ((x5 : Int).toNat * 3)) fun x6 => pAssert (okCells [.int .i64, .int .i64, .int .i64] x6 = true ∧ okCells [.int .i64, .int .i64, .int .i64] (lay (zc Try.prog 33) []) = true) <| k1 ((eqCells x6 (lay (zc Try.prog 33) [])), ()))))
  (fun s => tasks_Table_file_1_j1 x_0 p_1 p_2 KP K s.1)
def tasks_Table_file_1_ann : Ann := .two (.none) (.two (.join (.ord [0, 1, 2, 3, 4, 5, 6, 7, 9, 10, 13, 8, 11, 12, 14, 15]) (.two (.two (.none) (.none)) (.none)) [(20, .bool)]) (.two (.ord [1, 3, 4, 0, 2, 5, 6]) (.two (.none) (.none))))
theorem tasks_Table_file_1_eq (x_0 : Option Addr) (p_1 : Addr) (p_2 : Addr) (KP K : Value → Pr) : vcBody Try.prog Try.f89 (Try.f89.body.getD .skip) tasks_Table_file_1_ann [(.pointer x_0), (.pointer (some p_1)), (.pointer (some p_2))] KP K = tasks_Table_file_1 x_0 p_1 p_2 KP K := by kernel_rfl
theorem tasks_Table_file_1_call (x_0 : Option Addr) (p_1 : Addr) (p_2 : Addr) {KP K : Value → Pr} {h : Heap} (s : tasks_Table_file_1 x_0 p_1 p_2 (fgt KP) (fgt K) h) : WpCall Try.prog 89 [(.pointer x_0), (.pointer (some p_1)), (.pointer (some p_2))].toArray KP K h :=
  WpCall.of_vc Try.mixed Try.func89 (by kernel_rfl) Try.call89 tasks_Table_file_1_ann (by rw [tasks_Table_file_1_eq]; exact s)

/- (*halberd/tasks.Table).area$1 -/
def tasks_Table_area_1_j1 (x_0 : Option Addr) (p_1 : Addr) (p_2 : Addr) (KP : Value → Pr) (K : Value → Pr) (x7 : Bool) : Pr :=
  pIf x7
  (K (.int .i64 22))
  (pSome x_0 fun a8 => pLd .any p_2 fun (x9 : Value) => pLd (.int .i64) p_1 fun (x10 : Int) => pIdx x10 4 <| pCallV Try.prog x9 [(.pointer (some ((a8.add 29).add ((x10 : Int).toNat * 5))))] KP (.many []) fun (r11 : Unit) => K (.int .i64 0))
def tasks_Table_area_1 (x_0 : Option Addr) (p_1 : Addr) (p_2 : Addr) (KP K : Value → Pr) : Pr :=
  pJoin (σ := Bool × Unit)
  (fun k1 => pLd (.int .i64) p_1 fun (x2 : Int) => pIf (decide ((x2 : Int) < 0))
  (k1 (true, ()))
  (pLd (.int .i64) p_1 fun (x3 : Int) => pIf (decide ((x3 : Int) ≥ 4))
  (k1 (true, ()))
  (pSome x_0 fun a4 => pLd (.int .i64) p_1 fun (x5 : Int) => pIdx x5 4 <| pLd .bool (((a4.add 29).add ((x5 : Int).toNat * 5)).add 0) fun (x6 : Bool) => k1 ((!x6), ()))))
  (fun s => tasks_Table_area_1_j1 x_0 p_1 p_2 KP K s.1)
def tasks_Table_area_1_ann : Ann := .two (.none) (.two (.join (.ord [0, 1, 2, 3, 4, 5, 6, 7, 9, 10, 8, 11, 12, 13, 14, 15]) (.two (.two (.none) (.none)) (.none)) [(20, .bool)]) (.two (.ord [1, 3, 4, 0, 2, 5, 6]) (.two (.none) (.none))))
theorem tasks_Table_area_1_eq (x_0 : Option Addr) (p_1 : Addr) (p_2 : Addr) (KP K : Value → Pr) : vcBody Try.prog Try.f90 (Try.f90.body.getD .skip) tasks_Table_area_1_ann [(.pointer x_0), (.pointer (some p_1)), (.pointer (some p_2))] KP K = tasks_Table_area_1 x_0 p_1 p_2 KP K := by kernel_rfl
theorem tasks_Table_area_1_call (x_0 : Option Addr) (p_1 : Addr) (p_2 : Addr) {KP K : Value → Pr} {h : Heap} (s : tasks_Table_area_1 x_0 p_1 p_2 (fgt KP) (fgt K) h) : WpCall Try.prog 90 [(.pointer x_0), (.pointer (some p_1)), (.pointer (some p_2))].toArray KP K h :=
  WpCall.of_vc Try.mixed Try.func90 (by kernel_rfl) Try.call90 tasks_Table_area_1_ann (by rw [tasks_Table_area_1_eq]; exact s)

end Go.Proofs.Ytgheplpbffanoaa
