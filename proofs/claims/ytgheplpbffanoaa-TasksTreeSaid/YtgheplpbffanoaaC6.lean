import Derived.Test.YtgheplpbffanoaaC5
import Derived.KernelRfl
set_option linter.unusedVariables false
namespace Go.Proofs.Ytgheplpbffanoaa
open Go.Hl
attribute [local irreducible] loadF zc sizeP bytesP vcBody

def WFb (T : List Task) : Bool := (List.range 9).all fun i => decide ((T.getD i .z).pid = 0 ∨ (T.getD i .z).pid = i)
theorem WF.of_b {T : List Task} (h : WFb T = true) : WF T := fun p hp => by
  simp only [hasB, Bool.and_eq_true, decide_eq_true_eq, bne_iff_ne, ne_eq] at hp
  have := List.all_eq_true.1 h p.toNat (List.mem_range.2 (by omega))
  simp only [decide_eq_true_eq] at this
  rcases this with h0 | h0
  · exact absurd h0 hp.2
  · unfold tk; rw [h0]; omega

abbrev HS (h : Heap) (b : Nat) (T : List Task) : Heap := h.set b (.row (encT T) 441)
theorem HS.tab {h : Heap} {b : Nat} {T : List Task} (hl : T.length = 9) : Tab (HS h b T) b T := ⟨Heap.set_same _ _ _, hl⟩

def A1 : List Task := (fork newT 1).1
def A2 : List Task := (exitF A1 2 7).1
def A3 : List Task := (waitF A2 1).1
theorem a1 : (fork newT 1).2 = (2, 0) := by kernel_rfl
theorem a2 : (exitF A1 2 7).2 = 0 := by kernel_rfl
theorem a3 : (waitF A2 1).2 = (2, 7, 0) := by kernel_rfl
theorem a4 : (waitF A3 1).2.2.2 = 10 := by kernel_rfl
theorem l1 : A1.length = 9 := by kernel_rfl
theorem l2 : A2.length = 9 := by kernel_rfl
theorem l3 : A3.length = 9 := by kernel_rfl
theorem w2 : WF A2 := WF.of_b (by kernel_rfl)
theorem w3 : WF A3 := WF.of_b (by kernel_rfl)

theorem alive_law {h : Heap} {KP K : Value → Pr} (k : K (.bool true) h) : WpCall Try.prog 7 #[] KP K h := by
  refine law24_alive_call ?_
  unfold law24_alive
  refine new_ok fun b hb => ⟨_, rfl, ?_⟩
  have fin : ∀ Y, fgt K (.bool true) (h.set b Y) := fun Y => fgt_here (Heap.le_set_new (Heap.le_refl _) hb _) k
  refine fork_ok (HS.tab rfl) 1 ⟨((fork newT 1).2.1, (fork newT 1).2.2, ()), rfl, ?_⟩
  rw [Heap.set_set, a1]
  refine exit_ok (HS.tab l1) 2 7 ⟨(exitF A1 2 7).2, rfl, ?_⟩
  rw [Heap.set_set, a2]
  refine wait_ok (HS.tab l2) w2 1 ⟨((waitF A2 1).2.1, (waitF A2 1).2.2.1, (waitF A2 1).2.2.2, ()), rfl, ?_⟩
  rw [Heap.set_set, a3]
  refine wait_ok (HS.tab l3) w3 1 ⟨((waitF A3 1).2.1, (waitF A3 1).2.2.1, (waitF A3 1).2.2.2, ()), rfl, ?_⟩
  rw [Heap.set_set, a4]
  exact pIf_t rfl (pIf_t rfl (pIf_t rfl (pIf_t rfl (pIf_t rfl (pIf_t rfl (fin _))))))

end Go.Proofs.Ytgheplpbffanoaa
