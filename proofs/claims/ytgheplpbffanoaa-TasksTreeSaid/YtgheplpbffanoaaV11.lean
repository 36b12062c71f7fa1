import Derived.Test.YtgheplpbffanoaaV
set_option linter.unusedVariables false
namespace Go.Proofs.Ytgheplpbffanoaa
open Go.Hl
/- slices.IndexFunc[[]halberd/api.Task,halberd/api.Task] -/
def slices_IndexFunc_api_Task_api_Task_l1 (s_0 : Sl) (f_1 : Value) (KP : Value → Pr) (K : Value → Pr) (k1 : Int × Unit → Pr) (x2 : Int) : Pr :=
  pIf (decide ((x2 : Int) < (s_0.len : Int)))
  (pIdx x2 s_0.len <| pSome s_0.base fun a3 => pLdA 49 (a3.add ((x2 : Int).toNat * 49)) fun x4 => pCallV Try.prog f_1 [(.agg x4.toArray)] KP (.one .bool) fun (r5 : Bool) => pIf r5
  (K (.int .i64 x2))
  (k1 ((IntKind.i64.wrap (x2 + 1)), ())))
  (K (.int .i64 (-1)))
def slices_IndexFunc_api_Task_api_Task (s_0 : Sl) (f_1 : Value) (KP K : Value → Pr) : Pr :=
  pLoop (σ := Int × Unit) (fun s k1 => slices_IndexFunc_api_Task_api_Task_l1 s_0 f_1 KP K k1 s.1) (0, ())
def slices_IndexFunc_api_Task_api_Task_ann : Ann := .two (.none) (.two (.two (.none) (.sub (.loop [(8, (.int .i64))] (.two (.none) (.two (.two (.none) (.none)) (.two (.sub (.two (.none) (.two (.none) (.two (.two (.none) (.none)) (.none))))) (.none))))))) (.two (.none) (.none)))
theorem slices_IndexFunc_api_Task_api_Task_eq (s_0 : Sl) (f_1 : Value) (KP K : Value → Pr) : vcBody Try.prog Try.f91 (Try.f91.body.getD .skip) slices_IndexFunc_api_Task_api_Task_ann [(.slice s_0.base s_0.len s_0.cap), f_1] KP K = slices_IndexFunc_api_Task_api_Task s_0 f_1 KP K := by kernel_rfl
theorem slices_IndexFunc_api_Task_api_Task_call (s_0 : Sl) (f_1 : Value) {KP K : Value → Pr} {h : Heap} (s : slices_IndexFunc_api_Task_api_Task s_0 f_1 (fgt KP) (fgt K) h) : WpCall Try.prog 91 [(.slice s_0.base s_0.len s_0.cap), f_1].toArray KP K h :=
  WpCall.of_vc Try.mixed Try.func91 (by kernel_rfl) Try.call91 slices_IndexFunc_api_Task_api_Task_ann (by rw [slices_IndexFunc_api_Task_api_Task_eq]; exact s)

/- slices.IndexFunc[[]halberd/api.File,halberd/api.File] -/
def slices_IndexFunc_api_File_api_File_l1 (s_0 : Sl) (f_1 : Value) (KP : Value → Pr) (K : Value → Pr) (k1 : Int × Unit → Pr) (x2 : Int) : Pr :=
  pIf (decide ((x2 : Int) < (s_0.len : Int)))
  (pIdx x2 s_0.len <| pSome s_0.base fun a3 => pLdA 3 (a3.add ((x2 : Int).toNat * 3)) fun x4 => pCallV Try.prog f_1 [(.agg x4.toArray)] KP (.one .bool) fun (r5 : Bool) => pIf r5
  (K (.int .i64 x2))
  (k1 ((IntKind.i64.wrap (x2 + 1)), ())))
  (K (.int .i64 (-1)))
def slices_IndexFunc_api_File_api_File (s_0 : Sl) (f_1 : Value) (KP K : Value → Pr) : Pr :=
  pLoop (σ := Int × Unit) (fun s k1 => slices_IndexFunc_api_File_api_File_l1 s_0 f_1 KP K k1 s.1) (0, ())
def slices_IndexFunc_api_File_api_File_ann : Ann := .two (.none) (.two (.two (.none) (.sub (.loop [(8, (.int .i64))] (.two (.none) (.two (.two (.none) (.none)) (.two (.sub (.two (.none) (.two (.none) (.two (.two (.none) (.none)) (.none))))) (.none))))))) (.two (.none) (.none)))
theorem slices_IndexFunc_api_File_api_File_eq (s_0 : Sl) (f_1 : Value) (KP K : Value → Pr) : vcBody Try.prog Try.f92 (Try.f92.body.getD .skip) slices_IndexFunc_api_File_api_File_ann [(.slice s_0.base s_0.len s_0.cap), f_1] KP K = slices_IndexFunc_api_File_api_File s_0 f_1 KP K := by kernel_rfl
theorem slices_IndexFunc_api_File_api_File_call (s_0 : Sl) (f_1 : Value) {KP K : Value → Pr} {h : Heap} (s : slices_IndexFunc_api_File_api_File s_0 f_1 (fgt KP) (fgt K) h) : WpCall Try.prog 92 [(.slice s_0.base s_0.len s_0.cap), f_1].toArray KP K h :=
  WpCall.of_vc Try.mixed Try.func92 (by kernel_rfl) Try.call92 slices_IndexFunc_api_File_api_File_ann (by rw [slices_IndexFunc_api_File_api_File_eq]; exact s)

end Go.Proofs.Ytgheplpbffanoaa
