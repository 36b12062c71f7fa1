import Derived.Test.YtgheplpbffanoaaV
set_option linter.unusedVariables false
namespace Go.Proofs.Ytgheplpbffanoaa
open Go.Hl
/- (*halberd/tasks.Table).Map$1 -/
def tasks_Table_Map_1 (x_0 : Option Addr) (p_1 : Addr) (p_2 : Addr) (KP K : Value → Pr) : Pr :=
  pSome x_0 fun a1 => pAssert (0 ≤ (0 : Int) ∧ (0 : Int) ≤ (4 : Int) ∧ (4 : Int) ≤ (4 : Int)) <| pCall Try.prog 68 [(.slice (some (if (4 : Nat) = (0 : Int).toNat then (a1.add 29) else (a1.add 29).add ((0 : Int).toNat * 5))) (((4 : Int) : Int).toNat - (0 : Int).toNat) (4 - (0 : Int).toNat)), (.func (.func 69) [].toArray [].toArray)] KP (.one (.int .i64)) fun (r2 : Int) => pSt p_1 (.int .i64 r2) <| pLd (.int .i64) p_1 fun (x3 : Int) => pIf (decide ((x3 : Int) < 0))
  (K (.int .i64 12))
  (pSome x_0 fun a4 => pLd (.int .i64) p_1 fun (x5 : Int) => pLdA 5 p_2 fun x6 => pIdx x5 4 <| pStA 5 ((a4.add 29).add ((x5 : Int).toNat * 5)) x6 <| K (.int .i64 0))
def tasks_Table_Map_1_ann : Ann := .two (.none) (.two (.none) (.two (.two (.none) (.two (.two (.none) (.none)) (.none))) (.two (.ord [0, 3, 4, 1, 2, 5, 6]) (.two (.none) (.none)))))
theorem tasks_Table_Map_1_eq (x_0 : Option Addr) (p_1 : Addr) (p_2 : Addr) (KP K : Value → Pr) : vcBody Try.prog Try.f67 (Try.f67.body.getD .skip) tasks_Table_Map_1_ann [(.pointer x_0), (.pointer (some p_1)), (.pointer (some p_2))] KP K = tasks_Table_Map_1 x_0 p_1 p_2 KP K := by kernel_rfl
theorem tasks_Table_Map_1_call (x_0 : Option Addr) (p_1 : Addr) (p_2 : Addr) {KP K : Value → Pr} {h : Heap} (s : tasks_Table_Map_1 x_0 p_1 p_2 (fgt KP) (fgt K) h) : WpCall Try.prog 67 [(.pointer x_0), (.pointer (some p_1)), (.pointer (some p_2))].toArray KP K h :=
  WpCall.of_vc Try.mixed Try.func67 (by kernel_rfl) Try.call67 tasks_Table_Map_1_ann (by rw [tasks_Table_Map_1_eq]; exact s)

/- slices.IndexFunc[[]halberd/api.Area,halberd/api.Area] -/
def slices_IndexFunc_api_Area_api_Area_l1 (s_0 : Sl) (f_1 : Value) (KP : Value → Pr) (K : Value → Pr) (k1 : Int × Unit → Pr) (x2 : Int) : Pr :=
  pIf (decide ((x2 : Int) < (s_0.len : Int)))
  (pIdx x2 s_0.len <| pSome s_0.base fun a3 => pLdA 5 (a3.add ((x2 : Int).toNat * 5)) fun x4 => pCallV Try.prog f_1 [(.agg x4.toArray)] KP (.one .bool) fun (r5 : Bool) => pIf r5
  (K (.int .i64 x2))
  (k1 ((IntKind.i64.wrap (x2 + 1)), ())))
  (K (.int .i64 (-1)))
def slices_IndexFunc_api_Area_api_Area (s_0 : Sl) (f_1 : Value) (KP K : Value → Pr) : Pr :=
  pLoop (σ := Int × Unit) (fun s k1 => slices_IndexFunc_api_Area_api_Area_l1 s_0 f_1 KP K k1 s.1) (0, ())
def slices_IndexFunc_api_Area_api_Area_ann : Ann := .two (.none) (.two (.two (.none) (.sub (.loop [(8, (.int .i64))] (.two (.none) (.two (.two (.none) (.none)) (.two (.sub (.two (.none) (.two (.none) (.two (.two (.none) (.none)) (.none))))) (.none))))))) (.two (.none) (.none)))
theorem slices_IndexFunc_api_Area_api_Area_eq (s_0 : Sl) (f_1 : Value) (KP K : Value → Pr) : vcBody Try.prog Try.f68 (Try.f68.body.getD .skip) slices_IndexFunc_api_Area_api_Area_ann [(.slice s_0.base s_0.len s_0.cap), f_1] KP K = slices_IndexFunc_api_Area_api_Area s_0 f_1 KP K := by kernel_rfl
theorem slices_IndexFunc_api_Area_api_Area_call (s_0 : Sl) (f_1 : Value) {KP K : Value → Pr} {h : Heap} (s : slices_IndexFunc_api_Area_api_Area s_0 f_1 (fgt KP) (fgt K) h) : WpCall Try.prog 68 [(.slice s_0.base s_0.len s_0.cap), f_1].toArray KP K h :=
  WpCall.of_vc Try.mixed Try.func68 (by kernel_rfl) Try.call68 slices_IndexFunc_api_Area_api_Area_ann (by rw [slices_IndexFunc_api_Area_api_Area_eq]; exact s)

/- (*halberd/tasks.Table).Map$1$1 -/
def tasks_Table_Map_1_1 (y_0 : List Value) (KP K : Value → Pr) : Pr :=
  pNew y_0 fun b1 => pLd .bool ((⟨b1, 0, none⟩ : Addr).add 0) fun (x2 : Bool) => K (.bool (!x2))
def tasks_Table_Map_1_1_ann : Ann := .two (.none) (.two (.none) (.none))
theorem tasks_Table_Map_1_1_eq (y_0 : List Value) (KP K : Value → Pr) : vcBody Try.prog Try.f69 (Try.f69.body.getD .skip) tasks_Table_Map_1_1_ann [(.agg y_0.toArray)] KP K = tasks_Table_Map_1_1 y_0 KP K := by kernel_rfl
theorem tasks_Table_Map_1_1_call (y_0 : List Value) {KP K : Value → Pr} {h : Heap} (s : tasks_Table_Map_1_1 y_0 (fgt KP) (fgt K) h) : WpCall Try.prog 69 [(.agg y_0.toArray)].toArray KP K h :=
  WpCall.of_vc Try.mixed Try.func69 (by kernel_rfl) Try.call69 tasks_Table_Map_1_1_ann (by rw [tasks_Table_Map_1_1_eq]; exact s)

/- (*halberd/tasks.Table).area -/
def tasks_Table_area (t_0 : Option Addr) (pid_1 : Int) (k_2 : Int) (do_3 : Value) (KP K : Value → Pr) : Pr :=
  pNew [(.int .i64 k_2)] fun b1 => pAssert (do_3.oneCell' = true) <| pNew [do_3] fun b2 => pCall Try.prog 66 [(.pointer t_0), (.int .i64 pid_1), (.func (.func 90) [].toArray [(.pointer (some ⟨b1, 0, none⟩)), (.pointer (some ⟨b2, 0, none⟩))].toArray)] KP (.one (.int .i64)) fun (r3 : Int) => K (.int .i64 r3)
def tasks_Table_area_ann : Ann := .two (.none) (.two (.none) (.none))
theorem tasks_Table_area_eq (t_0 : Option Addr) (pid_1 : Int) (k_2 : Int) (do_3 : Value) (KP K : Value → Pr) : vcBody Try.prog Try.f70 (Try.f70.body.getD .skip) tasks_Table_area_ann [(.pointer t_0), (.int .i64 pid_1), (.int .i64 k_2), do_3] KP K = tasks_Table_area t_0 pid_1 k_2 do_3 KP K := by kernel_rfl
theorem tasks_Table_area_call (t_0 : Option Addr) (pid_1 : Int) (k_2 : Int) (do_3 : Value) {KP K : Value → Pr} {h : Heap} (s : tasks_Table_area t_0 pid_1 k_2 do_3 (fgt KP) (fgt K) h) : WpCall Try.prog 70 [(.pointer t_0), (.int .i64 pid_1), (.int .i64 k_2), do_3].toArray KP K h :=
  WpCall.of_vc Try.mixed Try.func70 (by kernel_rfl) Try.call70 tasks_Table_area_ann (by rw [tasks_Table_area_eq]; exact s)

/- (*halberd/tasks.Table).Protect$1 -/
def tasks_Table_Protect_1 (a_0 : Option Addr) (p_1 : Addr) (KP K : Value → Pr) : Pr :=
  pLd (.int .i64) p_1 fun (x1 : Int) => pSome a_0 fun a2 => pSt (a2.add 2) (.int .i64 x1) <| K (.tuple [].toArray)
def tasks_Table_Protect_1_ann : Ann := .none
theorem tasks_Table_Protect_1_eq (a_0 : Option Addr) (p_1 : Addr) (KP K : Value → Pr) : vcBody Try.prog Try.f71 (Try.f71.body.getD .skip) tasks_Table_Protect_1_ann [(.pointer a_0), (.pointer (some p_1))] KP K = tasks_Table_Protect_1 a_0 p_1 KP K := by kernel_rfl
theorem tasks_Table_Protect_1_call (a_0 : Option Addr) (p_1 : Addr) {KP K : Value → Pr} {h : Heap} (s : tasks_Table_Protect_1 a_0 p_1 (fgt KP) (fgt K) h) : WpCall Try.prog 71 [(.pointer a_0), (.pointer (some p_1))].toArray KP K h :=
  WpCall.of_vc Try.mixed Try.func71 (by kernel_rfl) Try.call71 tasks_Table_Protect_1_ann (by rw [tasks_Table_Protect_1_eq]; exact s)

/- (*halberd/tasks.Table).Unmap$1 -/
def tasks_Table_Unmap_1 (a_0 : Option Addr) (KP K : Value → Pr) : Pr :=
  pSome a_0 fun a1 => pStA 5 a1 (lay (zc Try.prog 36) []) <| K (.tuple [].toArray)
def tasks_Table_Unmap_1_ann : Ann := .none
theorem tasks_Table_Unmap_1_eq (a_0 : Option Addr) (KP K : Value → Pr) : vcBody Try.prog Try.f72 (Try.f72.body.getD .skip) tasks_Table_Unmap_1_ann [(.pointer a_0)] KP K = tasks_Table_Unmap_1 a_0 KP K := by kernel_rfl
theorem tasks_Table_Unmap_1_call (a_0 : Option Addr) {KP K : Value → Pr} {h : Heap} (s : tasks_Table_Unmap_1 a_0 (fgt KP) (fgt K) h) : WpCall Try.prog 72 [(.pointer a_0)].toArray KP K h :=
  WpCall.of_vc Try.mixed Try.func72 (by kernel_rfl) Try.call72 tasks_Table_Unmap_1_ann (by rw [tasks_Table_Unmap_1_eq]; exact s)

/- (*halberd/tasks.Table).Own$1 -/
def tasks_Table_Own_1 (x_0 : Option Addr) (p_1 : Addr) (p_2 : Addr) (KP K : Value → Pr) : Pr :=
  pLd (.int .i64) p_1 fun (x1 : Int) => pSome x_0 fun a2 => pLd (.int .i64) p_2 fun (x3 : Int) => pSt (a2.add 3) (.int .i64 x1) <| pKeep (loadF Try.prog 3 (.pointer (some p_2)) (.int .i64 x3)) <| pSome x_0 fun a4 => pSt (a4.add 4) (.int .i64 x3) <| K (.int .i64 0)
def tasks_Table_Own_1_ann : Ann := .two (.none) (.two (.ord [0, 1, 2, 4, 5, 3, 6, 7, 8, 9]) (.two (.none) (.none)))
theorem tasks_Table_Own_1_eq (x_0 : Option Addr) (p_1 : Addr) (p_2 : Addr) (KP K : Value → Pr) : vcBody Try.prog Try.f73 (Try.f73.body.getD .skip) tasks_Table_Own_1_ann [(.pointer x_0), (.pointer (some p_1)), (.pointer (some p_2))] KP K = tasks_Table_Own_1 x_0 p_1 p_2 KP K := by kernel_rfl
theorem tasks_Table_Own_1_call (x_0 : Option Addr) (p_1 : Addr) (p_2 : Addr) {KP K : Value → Pr} {h : Heap} (s : tasks_Table_Own_1 x_0 p_1 p_2 (fgt KP) (fgt K) h) : WpCall Try.prog 73 [(.pointer x_0), (.pointer (some p_1)), (.pointer (some p_2))].toArray KP K h :=
  WpCall.of_vc Try.mixed Try.func73 (by kernel_rfl) Try.call73 tasks_Table_Own_1_ann (by rw [tasks_Table_Own_1_eq]; exact s)

/- (*halberd/tasks.Table).Chdir$1 -/
def tasks_Table_Chdir_1 (x_0 : Option Addr) (p_1 : Addr) (KP K : Value → Pr) : Pr :=
  pLd (.int .i64) p_1 fun (x1 : Int) => pSome x_0 fun a2 => pSt (a2.add 5) (.int .i64 x1) <| K (.int .i64 0)
def tasks_Table_Chdir_1_ann : Ann := .two (.none) (.two (.none) (.two (.none) (.none)))
theorem tasks_Table_Chdir_1_eq (x_0 : Option Addr) (p_1 : Addr) (KP K : Value → Pr) : vcBody Try.prog Try.f74 (Try.f74.body.getD .skip) tasks_Table_Chdir_1_ann [(.pointer x_0), (.pointer (some p_1))] KP K = tasks_Table_Chdir_1 x_0 p_1 KP K := by kernel_rfl
theorem tasks_Table_Chdir_1_call (x_0 : Option Addr) (p_1 : Addr) {KP K : Value → Pr} {h : Heap} (s : tasks_Table_Chdir_1 x_0 p_1 (fgt KP) (fgt K) h) : WpCall Try.prog 74 [(.pointer x_0), (.pointer (some p_1))].toArray KP K h :=
  WpCall.of_vc Try.mixed Try.func74 (by kernel_rfl) Try.call74 tasks_Table_Chdir_1_ann (by rw [tasks_Table_Chdir_1_eq]; exact s)

end Go.Proofs.Ytgheplpbffanoaa
