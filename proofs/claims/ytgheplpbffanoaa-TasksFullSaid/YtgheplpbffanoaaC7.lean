import Derived.Test.YtgheplpbffanoaaC6
set_option linter.unusedVariables false
namespace Go.Proofs.Ytgheplpbffanoaa
open Go.Hl
attribute [local irreducible] loadF zc sizeP bytesP vcBody

def TF : Nat → List Task
  | 0 => newT
  | n + 1 => (fork (TF n) 1).1
theorem tf_step : ∀ n, n < 7 → (fork (TF n) 1).2 = ((n : Int) + 2, 0) ∧ (TF n).length = 9
  | 0, _ => ⟨by kernel_rfl, by kernel_rfl⟩
  | 1, _ => ⟨by kernel_rfl, by kernel_rfl⟩
  | 2, _ => ⟨by kernel_rfl, by kernel_rfl⟩
  | 3, _ => ⟨by kernel_rfl, by kernel_rfl⟩
  | 4, _ => ⟨by kernel_rfl, by kernel_rfl⟩
  | 5, _ => ⟨by kernel_rfl, by kernel_rfl⟩
  | 6, _ => ⟨by kernel_rfl, by kernel_rfl⟩
  | n + 7, h => absurd h (by omega)
def T7 : List Task := TF 7
theorem l7 : T7.length = 9 := by kernel_rfl
theorem f7 : fork T7 1 = (T7, 0, 11) := by kernel_rfl
def XF (g code : Int) : List Task := (exitF T7 g code).1
def YF (g code : Int) : List Task := (waitF (XF g code) 1).1
def ZF (g code : Int) : List Task := (fork (YF g code) 1).1

structure Facts7 (g code : Int) : Prop where
  x : (exitF T7 g code).2 = 0
  lx : (XF g code).length = 9
  fx : fork (XF g code) 1 = (XF g code, 0, 11)
  wx : WF (XF g code)
  wy : (waitF (XF g code) 1).2 = (g, bitsV .and .i64 code 255, 0)
  ly : (YF g code).length = 9
  fy : (fork (YF g code) 1).2 = (g, 0)
  lz : (ZF g code).length = 9
  hz : hasB (ZF g code) g = true
  gz : (tk (ZF g code) g).gen = 2

theorem facts7 (g code : Int) (h : 2 ≤ g ∧ g ≤ 8) : Facts7 g code := by
  have : g = 2 ∨ g = 3 ∨ g = 4 ∨ g = 5 ∨ g = 6 ∨ g = 7 ∨ g = 8 := by omega
  rcases this with rfl | rfl | rfl | rfl | rfl | rfl | rfl <;>
    exact ⟨by kernel_rfl, by kernel_rfl, by kernel_rfl, WF.of_b (by kernel_rfl), by kernel_rfl, by kernel_rfl, by kernel_rfl, by kernel_rfl, by kernel_rfl, by kernel_rfl⟩

theorem and255 (c : Int) : bitsV .and .i64 c 255 = c % 256 := by
  have h1 : (BitVec.ofInt 64 c &&& BitVec.ofInt 64 255).toNat = (c % 256).toNat := by
    rw [BitVec.toNat_and, show (BitVec.ofInt 64 255).toNat = 2 ^ 8 - 1 by decide, Nat.and_two_pow_sub_one_eq_mod, BitVec.toNat_ofInt]
    omega
  show IntKind.i64.wrap ((BitVec.ofInt 64 c &&& BitVec.ofInt 64 255).toNat : Int) = c % 256
  rw [h1, wrap_small (by omega) (by omega)]
  omega
theorem diff256 (c : Int) (hc : -9223372036854775808 ≤ c ∧ c ≤ 9223372036854775807) : (IntKind.i64.wrap (c % 256 - c)).tmod 256 = 0 := by
  rw [IntKind.wrap_i64]
  exact Int.tmod_eq_zero_of_dvd (by omega)

theorem full_law {h : Heap} (at_ code : Int) (ha : 0 ≤ at_ ∧ at_ ≤ 255) (hc : -9223372036854775808 ≤ code ∧ code ≤ 9223372036854775807) {KP K : Value → Pr} (k : K (.bool true) h) :
    WpCall Try.prog 3 #[.int .u8 at_, .int .i64 code] KP K h := by
  refine law24_TasksFull_call _ _ ?_
  unfold law24_TasksFull
  refine alive_law ⟨true, rfl, pIf_f rfl ?_⟩
  refine new_ok fun b hb => ⟨_, rfl, ?_⟩
  have fin : ∀ Y, fgt K (.bool true) (h.set b Y) := fun Y => fgt_here (Heap.le_set_new (Heap.le_refl _) hb _) k
  refine pLoop_rule (fun (s : Int × Unit) h' => 2 ≤ s.1 ∧ s.1 ≤ 9 ∧ h' = HS h b (TF (s.1 - 2).toNat)) (fun s => (9 - s.1).toNat) ?_ ?_
  rotate_left
  · refine ⟨?_, ?_, ?_⟩
    · show (2 : Int) ≤ 2; omega
    · show (2 : Int) ≤ 9; omega
    · rfl
  rintro ⟨p, ⟨⟩⟩ h' kk ⟨h0, h1, rfl⟩ hk
  simp only at h0 h1 hk ⊢
  unfold law24_TasksFull_l4 law24_TasksFull_j1 pJoin
  by_cases hp : p ≤ 8
  · obtain ⟨e, el⟩ := tf_step (p - 2).toNat (by omega)
    refine pIf_t (by simpa using hp) ?_
    refine fork_ok (HS.tab el) 1 ⟨((fork (TF (p - 2).toNat) 1).2.1, (fork (TF (p - 2).toNat) 1).2.2, ()), rfl, ?_⟩
    rw [Heap.set_set, e]
    have e2 : ((p - 2).toNat : Int) + 2 = p := by omega
    refine pIf_f (by rw [bne_eq_false_iff_eq]; exact e2) (pIf_f rfl ?_)
    rw [wrap_small (by omega) (by omega)]
    refine hk _ _ ⟨by simp only; omega, by simp only; omega, ?_⟩ (by simp only; omega)
    simp only
    rw [show (p + 1 - 2).toNat = (p - 2).toNat + 1 by omega]
    rfl
  · have : p = 9 := by omega
    subst this
    refine pIf_f rfl (pAssert_i (by decide) ?_)
    show WpCall Try.prog 9 _ _ _ (HS h b T7)
    refine fork_ok (HS.tab l7) 1 ⟨((fork T7 1).2.1, (fork T7 1).2.2, ()), rfl, ?_⟩
    rw [Heap.set_set, f7]
    have hg : IntKind.i64.wrap (IntKind.i64.wrap (at_.tmod 7) + 2) = at_ % 7 + 2 := by
      rw [show at_.tmod 7 = at_ % 7 from Int.tmod_eq_emod_of_nonneg ha.1]
      rw [wrap_small (x := at_ % 7) (by omega) (by omega), wrap_small (by omega) (by omega)]
    have hg7 : 2 ≤ at_ % 7 + 2 ∧ at_ % 7 + 2 ≤ 8 := by omega
    generalize at_ % 7 + 2 = g at hg7 hg
    rw [hg]
    have F7 := facts7 g code hg7
    refine pIf_f rfl ?_
    refine exit_ok (HS.tab l7) g code ⟨(exitF T7 g code).2, rfl, ?_⟩
    rw [Heap.set_set, F7.x]
    show law24_TasksFull_j3 at_ code (fgt KP) (fgt K) (some ⟨b, 0, none⟩) false (HS h b (XF g code))
    unfold law24_TasksFull_j3 law24_TasksFull_j2 pJoin
    refine pIf_f rfl ?_
    refine fork_ok (HS.tab F7.lx) 1 ⟨((fork (XF g code) 1).2.1, (fork (XF g code) 1).2.2, ()), rfl, ?_⟩
    rw [Heap.set_set, F7.fx]
    refine wait_ok (HS.tab F7.lx) F7.wx 1 ⟨((waitF (XF g code) 1).2.1, (waitF (XF g code) 1).2.2.1, (waitF (XF g code) 1).2.2.2, ()), rfl, ?_⟩
    rw [Heap.set_set, F7.wy]
    refine fork_ok (HS.tab F7.ly) 1 ⟨((fork (YF g code) 1).2.1, (fork (YF g code) 1).2.2, ()), rfl, ?_⟩
    rw [Heap.set_set, F7.fy]
    refine get_ok (HS.tab F7.lz) g ⟨((if hasB (ZF g code) g = true then tk (ZF g code) g else Task.z).enc, hasB (ZF g code) g, ()), rfl, ?_⟩
    rw [F7.hz, if_pos rfl]
    intro b16 hb16
    refine pStA_new zc_tlen (Task.len _) (task_one _) ?_
    have ce : ((HS h b (ZF g code)).set b16 (.row (tk (ZF g code) g).enc (zc Try.prog 39).length)).cell ⟨b16, 1, none⟩ = some (.int .i64 2) := by
      rw [cell_row (Heap.set_same _ _ _)]
      show some (Value.int .i64 (tk (ZF g code) g).gen) = _
      rw [F7.gz]
    have h256 := and255 code
    refine pIf_t rfl (pIf_t ?_ (pIf_t ?_ (pIf_t ?_ (pAssert_i (by decide) (pIf_t ?_ (pIf_t rfl (pIf_t ?_ (pIf_t rfl (pIf_t rfl ?_)))))))))
    · rw [hg]; simp
    · simp only [h256]; simp; omega
    · simp only [h256]; simp; omega
    · simp only [h256, diff256 code hc]; rfl
    · rw [hg]; simp
    · simp only [add_mk, Nat.zero_add]
      refine pLd_i (2 : Int) ce ?_
      exact fgt_here (Heap.le_set_new (Heap.le_set_new (Heap.le_refl _) hb _) hb16 _) k

end Go.Proofs.Ytgheplpbffanoaa
