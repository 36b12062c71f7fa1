/- Texts of this proof, part J: parts of it in the order in which they build. -/
import Derived.Test.YtkbcneomjkfheaaDoorI
import Derived.Test.YtkbcneomjkfheaaDoorH2
set_option linter.unusedVariables false
set_option linter.unusedSimpArgs false
namespace Go.Proofs.YtkbcneomjkfheaaDoor
open Go.Hl
attribute [local irreducible] loadF zc sizeP bytesP vcBody pInvoke

/-- Add: the table, the number, an error's number. -/
def addF (T : List Ind) (kind mode uid gid : Int) : List Ind × Int × Int :=
  if kind < 1 ∨ kind > 3 then (T, 0, 22) else match freeL T with
    | [] => (T, 0, 28)
    | p :: _ => (T.set p.toNat (newI T p kind mode uid gid), p, 0)

theorem add_inv {T : List Ind} (v : Inv T) (kind mode uid gid : Int) : Inv (addF T kind mode uid gid).1 := by
  unfold addF
  split
  · exact v
  · split
    · exact v
    · rename_i p r e
      refine v.set (by unfold newI; exact List.Pairwise.nil) rfl (by unfold newI; simp) (fun y hy => by simp [newI] at hy) (fun e1 => ?_)
      have hp := mem_freeL.1 (show p ∈ freeL T by rw [e]; exact List.mem_cons_self ..)
      unfold isFree at hp; omega
theorem free_inv {T : List Ind} (v : Inv T) (ino : Int) : Inv (freeF T ino).1 := by
  unfold freeF
  by_cases hb : hasB T ino = true
  · simp only [hb, if_true]
    split
    · exact v
    · rename_i h1
      obtain ⟨r1, r2⟩ := hasB_range hb
      exact v.set List.Pairwise.nil rfl (by simp) (fun y hy => by simp at hy) (fun e1 => by omega)
  · simp only [hb, if_false, Bool.false_eq_true]; exact v
theorem FreeOk.take {T : List Ind} {F F' : List Int} (f : FreeOk T F) (hT : T.length = 25) {p : Int} {r : List Int} (e : freeL T = p :: r) {x : Ind} (hx : x.kind ≠ 0) (h : HeapOk (fun x => F'.getD x 0) F'.length) (c : ∀ y, F.count y = F'.count y + (if p = y then 1 else 0)) : FreeOk (T.set p.toNat x) F' := by
  have hp := mem_freeL.1 (show p ∈ freeL T by rw [e]; exact List.mem_cons_self ..)
  have hp' := hp
  unfold isFree at hp'
  refine ⟨h, List.perm_iff_count.2 fun y => ?_⟩
  have h1 := c y
  rw [List.perm_iff_count.1 f.perm y, freeL_count] at h1
  rw [freeL_count]
  have hl : p.toNat < T.length := by omega
  by_cases hy : p = y
  · subst hy
    rw [if_pos hp, if_pos rfl] at h1
    rw [if_neg (fun q => by unfold isFree at q; rw [getD_set hl, if_pos rfl] at q; exact hx q.2.2)]
    omega
  · rw [if_neg hy] at h1
    by_cases hq : isFree T y
    · rw [if_pos hq] at h1
      rw [if_pos]
      · omega
      · unfold isFree at *; rw [getD_set hl, if_neg (by omega)]; exact hq
    · rw [if_neg hq] at h1
      rw [if_neg]
      · omega
      · intro q; apply hq; unfold isFree at *; rw [getD_set hl, if_neg (by omega)] at q; exact q
theorem FreeOk.give {T : List Ind} {F F' : List Int} (f : FreeOk T F) (hT : T.length = 25) {p : Int} (hp : 2 ≤ p ∧ p < 25) (hk : (T.getD p.toNat default).kind ≠ 0) {x : Ind} (hx : x.kind = 0) (h : HeapOk (fun x => F'.getD x 0) F'.length) (c : ∀ y, F'.count y = F.count y + (if p = y then 1 else 0)) : FreeOk (T.set p.toNat x) F' := by
  refine ⟨h, List.perm_iff_count.2 fun y => ?_⟩
  have h1 := c y
  rw [List.perm_iff_count.1 f.perm y, freeL_count] at h1
  rw [freeL_count, h1]
  have hl : p.toNat < T.length := by omega
  by_cases hy : p = y
  · subst hy
    rw [if_pos rfl, if_neg (fun q => by unfold isFree at q; exact hk q.2.2), if_pos]
    unfold isFree; rw [getD_set hl, if_pos rfl]; exact ⟨hp.1, hp.2, hx⟩
  · rw [if_neg hy]
    by_cases hq : isFree T y
    · rw [if_pos hq, if_pos]
      unfold isFree at *; rw [getD_set hl, if_neg (by omega)]; exact hq
    · rw [if_neg hq, if_neg]
      intro q; apply hq; unfold isFree at *; rw [getD_set hl, if_neg (by omega)] at q; exact q

def tabQ (b : Nat) (T : List Ind) (F : List Int) : Heap → (Nat → Prop) → Prop := fun h G => TabF h b T F G
theorem tabQ_foot (b : Nat) (T : List Ind) (F : List Int) : Foot (tabQ b T F) := by
  refine ⟨fun {h g G} t m => TabF.upd (U := fun x => ¬ G x) t (fun x y hx hn => m x y hx (Classical.byContradiction fun e => hn e)) (fun x hx hn => hn hx), fun {h G} t => ?_⟩
  obtain ⟨N, I, fr, t, g⟩ := t
  refine ⟨fun x => x = b ∨ foot (fr :: (N ++ I)) x, ⟨N, I, fr, t, fun x hx => hx⟩, fun x hx => ⟨g x hx, ?_⟩⟩
  rcases hx with rfl | ⟨s, hs, hx⟩
  · exact ⟨_, t.row, fun o e => by cases e⟩
  · obtain ⟨k, hk, rfl⟩ := List.getElem_of_mem hs
    have o := t.pool.has k hk
    obtain ⟨a, ha, hx⟩ := hx
    obtain ⟨_, _, ⟨h1, _⟩ | ⟨b', rest, tot, h1, h3, h4⟩⟩ := o
    · rw [h1] at ha; cases ha
    · rw [h1] at ha; cases ha; subst hx
      exact ⟨_, h3, fun o e => by cases e⟩
/-- The program's table. -/
def progP (b : Nat) (T : List Ind) : Pr := fun g => Inv T ∧ ∃ F, FreeOk T F ∧ ex (tabQ b T F) g
theorem prog_open {b : Nat} {T : List Ind} {L : List Pr} {h : Heap} (H : seps (progP b T :: L) h) :
    Inv T ∧ ∃ F G, FreeOk T F ∧ TabF h b T F G ∧ ∀ h' T' F', Inv T' → FreeOk T' F' → TabF h' b T' F' (More G h) → Upd G h h' → seps (progP b T' :: L) h' := by
  obtain ⟨g1, g2, d, l1, l2, ⟨v, F, f, e⟩, r⟩ := H
  have H' : seps (ex (tabQ b T F) :: L) h := ⟨g1, g2, d, l1, l2, e, r⟩
  obtain ⟨G, t, st⟩ := ex_step (tabQ_foot b T F) H'
  exact ⟨v, F, G, f, t, fun h' T' F' v' f' t' u => seps_imp (fun g e => ⟨v', F', f', e⟩) (st (tabQ b T' F') h' (tabQ_foot b T' F') t' u)⟩
theorem prog_inv {b : Nat} {T : List Ind} {L : List Pr} {h : Heap} (H : seps (progP b T :: L) h) : Inv T := (prog_open H).1

section
variable {b : Nat} {T : List Ind} {L : List Pr} {h : Heap} (H : seps (progP b T :: L) h) {KP K : Value → Pr}
include H
theorem write_s {ino : Int} {d : ByteArray} (k : ∀ h', seps (progP b (writeF T ino d).1 :: L) h' → K (.int .i64 (writeF T ino d).2) h') : WpCall Tryd.prog 13 #[.pointer (some ⟨b, 0, none⟩), .int .i64 ino, .string d] KP K h := by
  obtain ⟨v, F, G, f, t, st⟩ := prog_open H
  obtain ⟨v', q⟩ := write_inv v ino d
  exact write_ok t fun h' t' u => k h' (st h' _ F v' (f.kinds q) (t'.more fun x hx => .inl hx) u)
theorem own_s {ino m u g : Int} (k : ∀ h', seps (progP b (ownF T ino m u g).1 :: L) h' → K (.int .i64 (ownF T ino m u g).2) h') : WpCall Tryd.prog 58 #[.pointer (some ⟨b, 0, none⟩), .int .i64 ino, .int .i64 m, .int .i64 u, .int .i64 g] KP K h := by
  obtain ⟨v, F, G, f, t, st⟩ := prog_open H
  obtain ⟨v', q⟩ := own_inv v ino m u g
  exact own_ok t fun h' t' u => k h' (st h' _ F v' (f.kinds q) (t'.more fun x hx => .inl hx) u)
theorem enter_s {dir ino : Int} {name : ByteArray} (k : ∀ h', seps (progP b (enterF T dir name ino).1 :: L) h' → K (.int .i64 (enterF T dir name ino).2) h') : WpCall Tryd.prog 12 #[.pointer (some ⟨b, 0, none⟩), .int .i64 dir, .string name, .int .i64 ino] KP K h := by
  obtain ⟨v, F, G, f, t, st⟩ := prog_open H
  obtain ⟨v', q⟩ := enter_inv v dir ino name
  exact enter_ok t v.Small v.fine fun h' t' u => k h' (st h' _ F v' (f.kinds q) t' u)
theorem leave_s {dir : Int} {name : ByteArray} (k : ∀ h', seps (progP b (leaveF T dir name).1 :: L) h' → K (.tuple #[.int .i64 (leaveF T dir name).2.1, .int .i64 (leaveF T dir name).2.2]) h') : WpCall Tryd.prog 55 #[.pointer (some ⟨b, 0, none⟩), .int .i64 dir, .string name] KP K h := by
  obtain ⟨v, F, G, f, t, st⟩ := prog_open H
  obtain ⟨v', q⟩ := leave_inv v dir name
  exact leave_ok t v.Small v.fine fun h' t' u => k h' (st h' _ F v' (f.kinds q) t' u)
theorem find_s {dir : Int} {name : ByteArray} (k : K (.tuple #[.int .i64 ((findF T dir name).getD 0), .bool (findF T dir name).isSome]) h) : WpCall Tryd.prog 48 #[.pointer (some ⟨b, 0, none⟩), .int .i64 dir, .string name] KP K h := by
  obtain ⟨v, F, G, f, t, st⟩ := prog_open H
  exact find_ok t v.Small v.fine k
theorem free_s {ino : Int} (k : ∀ h', seps (progP b (freeF T ino).1 :: L) h' → K (.int .i64 (freeF T ino).2) h') : WpCall Tryd.prog 52 #[.pointer (some ⟨b, 0, none⟩), .int .i64 ino] KP K h := by
  obtain ⟨v, F, G, f, t, st⟩ := prog_open H
  have v' := free_inv v ino
  have hl := f.len
  refine free_ok t f.heap (by omega) (fun hne => k h ?_) (fun he F' h' p1 p2 p3 t' u => ?_)
  · have : (freeF T ino).1 = T := by
      unfold freeF at hne ⊢
      by_cases hb : hasB T ino = true
      · simp only [hb, if_true] at hne ⊢
        split
        · rfl
        · rename_i h1; simp [h1] at hne
      · simp only [hb, if_false, Bool.false_eq_true]
    rw [this]; exact H
  · have k' := k h'
    rw [he] at k'
    refine k' (st h' _ F' v' ?_ t' u)
    unfold freeF at he ⊢
    by_cases hb : hasB T ino = true
    · obtain ⟨r1, r2⟩ := hasB_range hb
      simp only [hb, if_true] at he ⊢
      by_cases h1 : ino = 1
      · simp [h1] at he
      · simp only [h1, if_false]
        refine f.give v.len ⟨by omega, r2⟩ ?_ rfl p3 p2
        unfold hasB at hb
        simp only [Bool.and_eq_true, bne_iff_ne] at hb
        exact hb.2
    · simp only [hb, if_false, Bool.false_eq_true] at he; exact absurd he (by decide)
theorem add_s {kind mode uid gid : Int} (k : ∀ h', seps (progP b (addF T kind mode uid gid).1 :: L) h' → K (.tuple #[.int .i64 (addF T kind mode uid gid).2.1, .int .i64 (addF T kind mode uid gid).2.2]) h') :
    WpCall Tryd.prog 11 #[.pointer (some ⟨b, 0, none⟩), .int .i64 kind, .int .i64 mode, .int .i64 uid, .int .i64 gid] KP K h := by
  obtain ⟨v, F, G, f, t, st⟩ := prog_open H
  have v' := add_inv v kind mode uid gid
  have hl := f.len
  refine add_ok t f.heap (by omega) f.range (fun hk => ?_) (fun hk he => ?_) (fun hk hne F' h' p1 p2 p3 t' u => ?_)
  · have e : addF T kind mode uid gid = (T, 0, 22) := by unfold addF; rw [if_pos hk]
    rw [e] at k; exact k h H
  · have e0 : freeL T = [] := by have := f.perm.length_eq; rw [he] at this; exact List.length_eq_zero_iff.1 this.symm
    have e : addF T kind mode uid gid = (T, 0, 28) := by unfold addF; rw [if_neg hk, e0]
    rw [e] at k; exact k h H
  · cases e0 : freeL T with
    | nil => exact absurd (f.none e0) hne
    | cons p r =>
      have e : addF T kind mode uid gid = (T.set p.toNat (newI T p kind mode uid gid), p, 0) := by unfold addF; rw [if_neg hk, e0]
      have hp := (f.head e0).2
      rw [hp] at p2 t' ⊢
      rw [e] at k v'
      exact k h' (st h' _ F' v' (f.take v.len e0 (show kind ≠ 0 by omega) p3 p2) t' u)
theorem get_s {ino : Int} (k0 : hasB T ino = false → ∀ h', seps (progP b T :: L) h' → K (.tuple #[.agg (encI {} nil0 nil0).toArray, .bool false]) h')
    (k1 : hasB T ino = true → ∀ n' i' h', seps (own 1 n' (strs (T.getD ino.toNat default).names) :: own 1 i' (ints (T.getD ino.toNat default).inos) :: progP b T :: L) h' → K (.tuple #[.agg (encI (T.getD ino.toNat default) n' i').toArray, .bool true]) h') :
    WpCall Tryd.prog 28 #[.pointer (some ⟨b, 0, none⟩), .int .i64 ino] KP K h := by
  obtain ⟨v, F, G, f, t, st⟩ := prog_open H
  exact get_ok t v.Small (fun e h' le => k0 e h' (seps_mono H le)) (fun e n' i' h' le o1 o2 f1 f2 ap => k1 e n' i' h' (own_new2 H le o1 f1 o2 f2 ap))
end
end Go.Proofs.YtkbcneomjkfheaaDoor

set_option linter.unusedVariables false
set_option linter.unusedSimpArgs false
namespace Go.Proofs.YtkbcneomjkfheaaDoor
open Go.Hl
attribute [local irreducible] loadF zc sizeP bytesP vcBody pInvoke

def rootI : Ind := { ino := 1, gen := 1, kind := 2, mode := 493, links := 1, up := 1 }
def zeroT : List Ind := List.replicate 25 {}
/-- A new table. -/
def newT : List Ind := zeroT.set 1 rootI
def nils : List Sl := List.replicate 25 nil0
theorem zc_table : lay (zc Tryd.prog 52) [] = encT zeroT nils nils ++ [.slice none 0 0] := by kernel_rfl
theorem lay_root : lay (zc Tryd.prog 25) [(0, (.int .i64 1)), (1, (.int .i64 1)), (2, (.int .i64 2)), (3, (.int .i64 493)), (6, (.int .i64 1)), (10, (.int .i64 1))] = encI rootI nil0 nil0 := by rw [zc_ind]; rfl
theorem newT_at (i : Nat) : newT.getD i default = if i = 1 then rootI else {} := by
  unfold newT zeroT
  rw [getD_set (by simp)]
  split
  · rfl
  · rw [List.getD_eq_getElem?_getD, List.getElem?_replicate]; split <;> rfl
theorem newT_inv : Inv newT := by
  refine ⟨rfl, fun i => ?_, fun i => ?_, fun i => ?_, rfl⟩
  all_goals (rw [newT_at]; split)
  · exact ⟨List.Pairwise.nil, rfl⟩
  · exact ⟨List.Pairwise.nil, rfl⟩
  · exact Nat.zero_le 8
  · exact Nat.zero_le 8
  · intro x hx; simp [rootI] at hx
  · intro x hx; simp at hx

theorem nil_pool {h : Heap} {R : Nat → Prop} (n : Nat) : Pool h R (List.replicate n nil0) (List.replicate n []) := by
  refine ⟨by simp, fun k hk => ?_, fun j k hj hk e x hx => ?_, fun k hk x hx => ?_⟩
  · simp only [List.getElem_replicate]; exact Has.none _ _
  · simp [nil0] at hx
  · simp [nil0] at hx
theorem zeroTab {h : Heap} {b : Nat} (hb : h b = none) : Tab (h.set b (.row (encT zeroT nils nils ++ [.slice none 0 0]) (encT zeroT nils nils ++ [Value.slice none 0 0]).length)) b zeroT nils nils nil0 [] := by
  refine ⟨rfl, rfl, rfl, by rw [Heap.set_same, show (encT zeroT nils nils ++ [Value.slice none 0 0]).length = 276 by simp [encT_len, zeroT]]; rfl, ?_⟩
  have e1 : nil0 :: (nils ++ nils) = List.replicate 51 nil0 := by kernel_rfl
  have e2 : ints [] :: (zeroT.map (fun t => strs t.names) ++ zeroT.map (fun t => ints t.inos)) = List.replicate 51 [] := by kernel_rfl
  rw [e1, e2]
  exact nil_pool 51

theorem new_s {L : List Pr} {h : Heap} (H : seps L h) {KP K : Value → Pr} (k : ∀ b h', seps (progP b newT :: L) h' → K (.pointer (some ⟨b, 0, none⟩)) h') : WpCall Tryd.prog 10 #[] KP K h := by
  refine inodes_New_call ?_
  unfold inodes_New
  intro b hb
  rw [zc_table]
  refine pLoop_rule (fun (s : Int × Unit) h' => ∃ fr F, Tab h' b zeroT nils nils fr F ∧ HeapOk (fun x => F.getD x 0) F.length ∧ (∀ x, F.count x = if 2 ≤ x ∧ x < s.1 then 1 else 0) ∧ 2 ≤ s.1 ∧ s.1 ≤ 25 ∧ (F.length : Int) = s.1 - 2 ∧ Heap.le h h' ∧ ∀ x, blk fr x → h x = none) (fun s => (25 - s.1).toNat) ?_ ?_
  rotate_left
  · refine ⟨nil0, [], zeroTab hb, fun c h1 h2 => by simp at h2, fun x => ?_, ?_, ?_, ?_, Heap.le_set_new (Heap.le_refl _) hb _, fun x hx => by simp [nil0] at hx⟩
    · rw [if_neg (by show ¬ (2 ≤ x ∧ x < 2); omega)]; rfl
    · show (2 : Int) ≤ 2; omega
    · show (2 : Int) ≤ 25; omega
    · show ((0 : Nat) : Int) = 2 - 2; rfl
  rintro ⟨i, ⟨⟩⟩ h' kk ⟨fr, F, t, hu, hc, r1, r2, hl, le, hf⟩ hk
  simp only at hc r1 r2 hl hk ⊢
  unfold inodes_New_l1
  simp only [pSome_some, add_mk, Nat.zero_add]
  by_cases hi : i ≤ 24
  · refine pIf_t (by simpa using hi) ?_
    refine hpush_ok (off := 275) t.row t.free t.hasF (fun e => t.pool.root 0 (by simp) b e rfl) hu (by omega) fun F' fr' h2 p1 p2 p3 o' hs' hb' u' => ⟨(), rfl, ?_⟩
    rw [set_last t.lenT] at hb'
    have t2 := t.turnF u' o' hs' hb'
    rw [wrap_small (by omega) (by omega)]
    refine hk _ _ ⟨fr', F', t2, p3, fun x => ?_, ?_, ?_, ?_, ?_, ?_⟩ (by simp only; omega)
    · rw [p2 x, hc x]
      by_cases e : i = x
      · subst e
        rw [if_neg (by omega), if_pos rfl, if_pos (by simp only; omega)]
      · rw [if_neg e]
        by_cases q : 2 ≤ x ∧ x < i
        · rw [if_pos q, if_pos (by simp only; omega)]
        · rw [if_neg q, if_neg (by simp only; omega)]
    · simp only; omega
    · simp only; omega
    · simp only; omega
    · intro x y hx
      refine u' x y (le x y hx) fun e => ?_
      rcases e with rfl | e
      · rw [hb] at hx; cases hx
      · rw [hf x e] at hx; cases hx
    · intro x hx
      rcases hs' x hx with e | e
      · exact hf x e
      · exact Heap.le_none le e
  · have : i = 25 := by omega
    subst this
    refine pIf_f (by simp) ?_
    refine pIdx_i (by omega) (by omega) ?_
    rw [lay_root]
    refine stA_b t.row (by simp [encT_len, t.lenT]) rfl (oneCells_encI _ _ _) ?_
    have t3 := t.clearP (i := 1) (by omega) rootI rfl rfl
    have en : nils.set 1 nil0 = nils := rfl
    rw [en] at t3
    have fo : FreeOk newT F := by
      refine ⟨hu, List.perm_iff_count.2 fun x => ?_⟩
      rw [hc x, freeL_count]
      by_cases q : 2 ≤ x ∧ x < 25
      · rw [if_pos q, if_pos]
        unfold isFree
        rw [newT_at, if_neg (by omega)]
        exact ⟨q.1, q.2, rfl⟩
      · rw [if_neg q, if_neg (fun e => q ⟨e.1, e.2.1⟩)]
    refine fgt_mk (k b _ ?_)
    have le2 : Heap.le h (h'.set b (.row (splice (encT zeroT nils nils ++ [Value.slice fr.base fr.len fr.cap]) (1 * 11) (encI rootI nil0 nil0)) 276)) := fun x y hx => by
      rw [Heap.set_ne _ _ (fun e => by subst e; rw [hb] at hx; cases hx)]
      exact le x y hx
    refine seps_imp (fun g e => ⟨newT_inv, F, fo, e⟩) (ex_new (tabQ_foot b newT F) H le2 ⟨nils, nils, fr, t3, fun x hx => ?_⟩)
    rcases hx with rfl | ⟨s, hs, hx⟩
    · exact hb
    · rcases List.mem_cons.1 hs with rfl | hs
      · exact hf x hx
      · have : s = nil0 := by
          rcases List.mem_append.1 hs with q | q <;> exact (List.mem_replicate.1 q).2
        rw [this] at hx; simp [nil0] at hx
end Go.Proofs.YtkbcneomjkfheaaDoor

set_option linter.unusedVariables false
set_option linter.unusedSimpArgs false
namespace Go.Proofs.YtkbcneomjkfheaaDoor
open Go.Hl
attribute [local irreducible] loadF zc sizeP bytesP vcBody pInvoke

def nameA : ByteArray := ⟨#[97]⟩
def A1 : List Ind := (addF newT 1 0 0 0).1
def A2 : List Ind := (enterF A1 1 nameA 2).1
def A3 : List Ind := (leaveF A2 1 nameA).1
theorem a1 : (addF newT 1 0 0 0).2 = (2, 0) := by kernel_rfl
theorem a2 : (enterF A1 1 nameA 2).2 = 0 := by kernel_rfl
theorem a3 : hasB A2 2 = true := by kernel_rfl
theorem a4 : (A2.getD 2 default).links = 1 := by kernel_rfl
theorem a5 : (leaveF A2 1 nameA).2 = (2, 0) := by kernel_rfl
theorem a6 : hasB A3 2 = true := by kernel_rfl
theorem a7 : (A3.getD 2 default).links = 0 := by kernel_rfl
theorem zc_ilen : (zc Tryd.prog 25).length = 11 := by rw [zc_ind]; rfl

end Go.Proofs.YtkbcneomjkfheaaDoor

set_option linter.unusedVariables false
set_option linter.unusedSimpArgs false
namespace Go.Proofs.YtkbcneomjkfheaaDoor
open Go.Hl
attribute [local irreducible] loadF zc sizeP bytesP vcBody pInvoke

end Go.Proofs.YtkbcneomjkfheaaDoor

set_option linter.unusedVariables false
set_option linter.unusedSimpArgs false
namespace Go.Proofs.YtkbcneomjkfheaaDoor
open Go.Hl
attribute [local irreducible] loadF zc sizeP bytesP vcBody pInvoke

/-- Places 2 to i-1 are taken by files of a kind. -/
def fullT (kind : Int) : Nat → List Ind
  | 0 => newT
  | n + 1 => (addF (fullT kind n) kind 0 0 0).1
theorem full_step (kind : Int) (hk : 1 ≤ kind ∧ kind ≤ 3) : ∀ n, n < 23 → (addF (fullT kind n) kind 0 0 0).2 = ((n : Int) + 2, 0) := by
  have : kind = 1 ∨ kind = 2 ∨ kind = 3 := by omega
  intro n hn
  have all : ∀ k : Fin 23, (addF (fullT kind k.val) kind 0 0 0).2 = ((k.val : Int) + 2, 0) := by
    rcases this with rfl | rfl | rfl
    · exact of_decide_eq_true (by kernel_rfl)
    · exact of_decide_eq_true (by kernel_rfl)
    · exact of_decide_eq_true (by kernel_rfl)
  exact all ⟨n, hn⟩
def ffB (kind g : Int) : Bool :=
  let T := fullT kind 23
  let T1 := (freeF T g).1
  let T2 := (addF T1 kind 0 0 0).1
  (freeL T).length == 0 && ((freeF T g).2 == 0 && ((freeL T1).length == 1 && ((addF T1 kind 0 0 0).2 == (g, 0) && (hasB T2 g && ((T2.getD g.toNat default).gen == 2 && (T2.getD g.toNat default).kind == kind)))))
theorem ff_all : ∀ k : Fin 3, ∀ g : Fin 23, ffB ((k.val : Int) + 1) ((g.val : Int) + 2) = true := of_decide_eq_true (by kernel_rfl)
structure FullFacts (kind g : Int) : Prop where
  room : (freeL (fullT kind 23)).length = 0
  free : (freeF (fullT kind 23) g).2 = 0
  room1 : (freeL (freeF (fullT kind 23) g).1).length = 1
  add : (addF (freeF (fullT kind 23) g).1 kind 0 0 0).2 = (g, 0)
  has : hasB (addF (freeF (fullT kind 23) g).1 kind 0 0 0).1 g = true
  gen : ((addF (freeF (fullT kind 23) g).1 kind 0 0 0).1.getD g.toNat default).gen = 2
  kind : ((addF (freeF (fullT kind 23) g).1 kind 0 0 0).1.getD g.toNat default).kind = kind
theorem ff (kind g : Int) (hk : 1 ≤ kind ∧ kind ≤ 3) (hg : 2 ≤ g ∧ g ≤ 24) : FullFacts kind g := by
  have := ff_all ⟨(kind - 1).toNat, by omega⟩ ⟨(g - 2).toNat, by omega⟩
  simp only at this
  rw [show (((kind - 1).toNat : Nat) : Int) + 1 = kind by omega, show (((g - 2).toNat : Nat) : Int) + 2 = g by omega] at this
  unfold ffB at this
  simp only [Bool.and_eq_true, beq_iff_eq] at this
  obtain ⟨h1, h2, h3, h4, h5, h6, h7⟩ := this
  exact ⟨h1, h2, h3, h4, h5, h6, h7⟩
theorem add_full {T : List Ind} (h : (freeL T).length = 0) (kind : Int) (hk : 1 ≤ kind ∧ kind ≤ 3) (m u g : Int) : addF T kind m u g = (T, 0, 28) := by
  unfold addF
  rw [if_neg (by omega), List.length_eq_zero_iff.1 h]

end Go.Proofs.YtkbcneomjkfheaaDoor

set_option linter.unusedVariables false
set_option linter.unusedSimpArgs false
namespace Go.Proofs.YtkbcneomjkfheaaDoor
open Go.Hl
attribute [local irreducible] loadF zc sizeP bytesP vcBody pInvoke

theorem seps_new {L : List Pr} {h : Heap} (H : seps L h) {b : Nat} (hb : h b = none) (x : Blk) : seps L (h.set b x) := seps_mono H (Heap.le_set_new (Heap.le_refl _) hb x)

/-- The slices of inodes, each alone. -/
def slots : List Pl → List Pr
  | [] => []
  | p :: r => own 1 p.2.1 (strs p.1.names) :: own 1 p.2.2 (ints p.1.inos) :: slots r
theorem slots_app : ∀ (ps qs : List Pl), slots (ps ++ qs) = slots ps ++ slots qs
  | [], _ => rfl
  | p :: r, qs => by simp [slots, slots_app r qs]
theorem slots_snoc {ps : List Pl} {p : Pl} {L : List Pr} {h : Heap} (H : seps (own 1 p.2.1 (strs p.1.names) :: own 1 p.2.2 (ints p.1.inos) :: (slots ps ++ L)) h) : seps (slots (ps ++ [p]) ++ L) h := by
  have H1 := seps_mid' (seps_under (fun _ => seps_mid') H)
  rw [slots_app, List.append_assoc]
  exact H1
/-- Inodes that are told: a slice of them, each with its names and inodes alone. -/
def indsP (s : Sl) (l : List Ind) : Pr := fun h => ∃ ps : List Pl, ps.map (·.1) = l ∧ seps (own 11 s (ps.flatMap encP) :: slots ps) h

/-- The inodes that there are, from i on. -/
def allFrom (T : List Ind) (i : Nat) : List Ind := (T.drop i).filter fun x => x.kind != 0
def allF (T : List Ind) : List Ind := allFrom T 1
theorem allFrom_step {T : List Ind} (hT : T.length = 25) {i : Nat} (h0 : 1 ≤ i) (h : i < 25) : allFrom T i = if hasB T i = true then T.getD i default :: allFrom T (i + 1) else allFrom T (i + 1) := by
  unfold allFrom hasB
  rw [List.drop_eq_getElem_cons (by omega), List.filter_cons, getD_lt (by simpa [hT] using h)]
  simp only [Int.toNat_natCast]
  have e1 : decide ((1 : Int) ≤ (i : Int)) = true := by simp; omega
  have e2 : decide ((i : Int) < 25) = true := by simp; omega
  simp only [e1, e2, Bool.true_and, getD_lt (d := default) (show i < T.length by omega)]
theorem allFrom_end {T : List Ind} (hT : T.length = 25) : allFrom T 25 = [] := by
  unfold allFrom
  rw [List.drop_eq_nil_of_le (by omega)]; rfl

theorem lay_one (x : Ind) (n i : Sl) : lay (reps 1 (zc Tryd.prog 25)) [(0, (.agg (encI x n i).toArray))] = encI x n i := by rw [zc_ind]; rfl

section
variable {b : Nat} {T : List Ind} {L : List Pr} {h : Heap} (H : seps (progP b T :: L) h) {KP K : Value → Pr}
include H
end
end Go.Proofs.YtkbcneomjkfheaaDoor

set_option linter.unusedVariables false
set_option linter.unusedSimpArgs false
namespace Go.Proofs.YtkbcneomjkfheaaDoor
open Go.Hl
attribute [local irreducible] loadF zc sizeP bytesP vcBody pInvoke

/-- Slices each alone. -/
def owns : List Sl → List (List Value) → List Pr
  | s :: S, c :: C => own 1 s c :: owns S C
  | _, _ => []
theorem owns_app : ∀ {S S' : List Sl} {C C' : List (List Value)}, S.length = C.length → owns (S ++ S') (C ++ C') = owns S C ++ owns S' C'
  | [], S', [], C', _ => rfl
  | s :: S, S', c :: C, C', h => by simp [owns, owns_app (S := S) (C := C) (by simpa using h)]
theorem has_row {z : Nat} {h : Heap} {s : Sl} {xs : List Value} (o : Has z h s xs) {b : Nat} (hb : blk s b) : ∃ cs tot, h b = some (.row cs tot) := by
  obtain ⟨a, ha, hx⟩ := hb
  obtain ⟨_, _, ⟨h1, _⟩ | ⟨b', rest, tot, h1, h3, h4⟩⟩ := o
  · rw [h1] at ha; cases ha
  · rw [h1] at ha; cases ha; subst hx; exact ⟨_, _, h3⟩
theorem dis_row {g h : Heap} (d : Dis g h) {b : Nat} {cs cs' : List Value} {t t' : Nat} (e : g b = some (.row cs t)) (f : h b = some (.row cs' t')) : False := by
  rcases d b with q | q | ⟨o, q, _⟩
  · rw [e] at q; cases q
  · rw [f] at q; cases q
  · rw [e] at q; cases q
theorem pool_seps : ∀ {S : List Sl} {C : List (List Value)} {h : Heap}, S.length = C.length → seps (owns S C) h → Pool h (fun _ => False) S C
  | [], [], h, _, _ => ⟨rfl, fun k hk => absurd hk (by simp), fun j k hj => absurd hj (by simp), fun k hk => absurd hk (by simp)⟩
  | s :: S, c :: C, h, e, H => by
    obtain ⟨g1, g2, d, l1, l2, o, r⟩ := H
    have p := pool_seps (S := S) (C := C) (by simpa using e) r
    have ap : ∀ k (hk : k < S.length) b, blk s b → ¬ blk S[k] b := fun k hk b hb hb' => by
      obtain ⟨_, _, e1⟩ := has_row o hb
      obtain ⟨_, _, e2⟩ := has_row (p.has k hk) hb'
      exact dis_row d e1 e2
    refine ⟨by simpa using p.len, fun k hk => ?_, fun j k hj hk hne b hb hb' => ?_, fun k hk b hb hr => hr⟩
    · cases k with
      | zero => exact Has.keep o l1
      | succ k => exact (p.has k (by simpa using hk)).keep l2
    · cases j with
      | zero =>
        cases k with
        | zero => exact hne rfl
        | succ k => exact ap k (by simpa using hk) b hb hb'
      | succ j =>
        cases k with
        | zero => exact ap j (by simpa using hj) b hb' hb
        | succ k => exact p.apart j k (by simpa using hj) (by simpa using hk) (by omega) b hb hb'
  | [], _ :: _, _, e, _ => by simp at e
  | _ :: _, [], _, e, _ => by simp at e

/-- The slots in the order of a table. -/
theorem slots_owns : ∀ {ps : List Pl} {L : List Pr} {h : Heap}, seps (slots ps ++ L) h → seps (owns (ps.map (·.2.1)) (ps.map fun p => strs p.1.names) ++ (owns (ps.map (·.2.2)) (ps.map fun p => ints p.1.inos) ++ L)) h
  | [], _, _, H => H
  | p :: r, L, h, H => seps_under (fun _ H => seps_mid' (seps_under (fun _ H => slots_owns (ps := r) H) H)) H

theorem plc_of {ps : List Pl} : plc (ps.map (·.1)) (ps.map (·.2.1)) (ps.map (·.2.2)) = ps := by
  apply List.ext_getElem
  · simp [plc]
  intro i h1 h2
  rw [plc_at _ _ _ (by simpa using h2)]
  simp [List.getD_eq_getElem?_getD, h2]

/-- A table out of its parts. -/
theorem tab_close {b : Nat} {ps : List Pl} {fr : Sl} {F : List Int} {L : List Pr} {h : Heap} (hl : ps.length = 25) (H : seps (rowP b (ps.flatMap encP ++ [.slice fr.base fr.len fr.cap]) 276 :: own 1 fr (ints F) :: (slots ps ++ L)) h) : seps (ex (tabQ b (ps.map (·.1)) F) :: L) h := by
  have H1 := seps_under (fun _ H => seps_under (fun _ H => slots_owns H) H) H
  have e1 : own 1 fr (ints F) :: (owns (ps.map (·.2.1)) (ps.map fun p => strs p.1.names) ++ (owns (ps.map (·.2.2)) (ps.map fun p => ints p.1.inos) ++ L)) =
      owns (fr :: (ps.map (·.2.1) ++ ps.map (·.2.2))) (ints F :: (ps.map (fun p => strs p.1.names) ++ ps.map fun p => ints p.1.inos)) ++ L := by
    simp [owns, owns_app]
  rw [e1] at H1
  have H2 := seps_join (A := rowP b (ps.flatMap encP ++ [.slice fr.base fr.len fr.cap]) 276 :: owns (fr :: (ps.map (·.2.1) ++ ps.map (·.2.2))) (ints F :: (ps.map (fun p => strs p.1.names) ++ ps.map fun p => ints p.1.inos))) H1
  refine seps_imp (fun g Hg => ?_) H2
  obtain ⟨g1, g2, d, l1, l2, hr, ho⟩ := Hg
  have p := pool_seps (by simp) ho
  have t : Tab g b (ps.map (·.1)) (ps.map (·.2.1)) (ps.map (·.2.2)) fr F := by
    refine ⟨by simpa using hl, by simpa using hl, by simpa using hl, ?_, ?_⟩
    · unfold encT
      rw [plc_of]
      exact l1 _ _ hr
    · rw [List.map_map, List.map_map]
      refine ⟨p.len, fun k hk => (p.has k hk).keep l2, p.apart, fun k hk x hx hxb => ?_⟩
      subst hxb
      obtain ⟨_, _, e2⟩ := has_row (p.has k hk) hx
      exact dis_row d hr e2
  obtain ⟨G', t', w⟩ := (tabQ_foot b (ps.map (·.1)) F).norm (h := g) (G := fun _ => True) ⟨_, _, fr, t, fun _ _ => trivial⟩
  exact ⟨G', t', fun x hx => (w x hx).2⟩

theorem lay_tab (fr : Sl) : lay (zc Tryd.prog 52) [(275, (.slice fr.base fr.len fr.cap))] = (List.replicate 25 (({}, nil0, nil0) : Pl)).flatMap encP ++ [.slice fr.base fr.len fr.cap] := by kernel_rfl

theorem flat_set1 (qs rs : List Pl) (x y : Pl) (v : List Value) : splice ((qs ++ x :: rs).flatMap encP ++ v) (qs.length * 11) (encP y) = (qs ++ y :: rs).flatMap encP ++ v := by
  have e : (qs.flatMap encP).length = qs.length * 11 := flat_len encP 11 encP_len qs
  simp only [List.flatMap_append, List.flatMap_cons, List.append_assoc]
  exact splice_mid e (by rw [encP_len, encP_len])
end Go.Proofs.YtkbcneomjkfheaaDoor

set_option linter.unusedVariables false
set_option linter.unusedSimpArgs false
namespace Go.Proofs.YtkbcneomjkfheaaDoor
open Go.Hl
attribute [local irreducible] loadF zc sizeP bytesP vcBody pInvoke

def zeroPl : Pl := ({}, nil0, nil0)
theorem encT_len25 {T : List Ind} {N I : List Sl} (h : T.length = 25) : (encT T N I).length = 275 := by rw [encT_len, h]
section
variable {b : Nat} {T : List Ind} {L : List Pr} {h : Heap} (H : seps (progP b T :: L) h) {KP K : Value → Pr}
include H
end
end Go.Proofs.YtkbcneomjkfheaaDoor

set_option linter.unusedVariables false
set_option linter.unusedSimpArgs false
namespace Go.Proofs.YtkbcneomjkfheaaDoor
open Go.Hl
attribute [local irreducible] loadF zc sizeP bytesP vcBody pInvoke

/-! The reference's table. -/
def refP (b : Nat) (T : List Ind) : Pr := fun g => ∃ ps : List Pl, ps.length = 25 ∧ ps.map (·.1) = T ∧ seps (rowP b (ps.flatMap encP) 275 :: slots ps) g
theorem ref_open {b : Nat} {T : List Ind} {L : List Pr} {h : Heap} (H : seps (refP b T :: L) h) : ∃ ps : List Pl, ps.length = 25 ∧ ps.map (·.1) = T ∧ seps (rowP b (ps.flatMap encP) 275 :: (slots ps ++ L)) h := by
  obtain ⟨g1, g2, d, l1, l2, ⟨ps, h1, h2, h3⟩, r⟩ := H
  exact ⟨ps, h1, h2, seps_split (A := rowP b (ps.flatMap encP) 275 :: slots ps) ⟨g1, g2, d, l1, l2, h3, r⟩⟩
theorem ref_close {b : Nat} {ps : List Pl} {L : List Pr} {h : Heap} (h1 : ps.length = 25) (H : seps (rowP b (ps.flatMap encP) 275 :: (slots ps ++ L)) h) : seps (refP b (ps.map (·.1)) :: L) h :=
  seps_imp (fun g H => ⟨ps, h1, rfl, H⟩) (seps_join (A := rowP b (ps.flatMap encP) 275 :: slots ps) H)
def plx (ps : List Pl) (i : Nat) : Pl := ps.getD i zeroPl
theorem plx_fst {ps : List Pl} (i : Nat) : (plx ps i).1 = (ps.map (·.1)).getD i default := by
  unfold plx
  simp only [List.getD_eq_getElem?_getD, List.getElem?_map]
  cases ps[i]? <;> rfl
theorem ref_cell {ps : List Pl} {i k : Nat} (hi : i < ps.length) (hk : k < 11) : (ps.flatMap encP)[i * 11 + k]? = (encP (plx ps i))[k]? := by
  rw [flat_get encP 11 encP_len _ _ _ hi hk]
  unfold plx
  rw [getD_lt hi]
theorem ref_cut {ps : List Pl} {i : Nat} (hi : i < ps.length) : cut (ps.flatMap encP) (i * 11) 11 = some (encP (plx ps i)) := by
  have := flat_cut encP 11 encP_len ps i 0 11 hi (by omega)
  rw [Nat.add_zero] at this
  rw [this]
  unfold plx
  rw [getD_lt hi]
  exact cut_all' rfl
theorem ref_flen {ps : List Pl} (h : ps.length = 25) : (ps.flatMap encP).length = 275 := by rw [flat_len encP 11 encP_len, h]
theorem ref_set {ps : List Pl} {i k : Nat} (hi : i < ps.length) (hk : k < 11) {v : Value} {p : Pl} (e : encP p = (encP (plx ps i)).set k v) : (ps.flatMap encP).set (i * 11 + k) v = (ps.set i p).flatMap encP := by
  refine flat_set encP 11 encP_len ps i k v p hi hk ?_
  unfold plx at e
  rwa [getD_lt hi] at e
theorem ref_splice {ps : List Pl} {i : Nat} (hi : i < ps.length) (p : Pl) : splice (ps.flatMap encP) (i * 11) (encP p) = (ps.set i p).flatMap encP := by
  have := flat_splice encP 11 encP_len ps i 0 (encP p) p hi (by rw [encP_len]; exact Nat.le_refl _) (by rw [splice_whole (by rw [encP_len, encP_len])])
  rwa [Nat.add_zero] at this
theorem slots_at {ps : List Pl} {i : Nat} (hi : i < ps.length) : slots ps = slots (ps.take i) ++ (own 1 (plx ps i).2.1 (strs (plx ps i).1.names) :: own 1 (plx ps i).2.2 (ints (plx ps i).1.inos) :: slots (ps.drop (i + 1))) := by
  have e : ps = ps.take i ++ (ps[i] :: ps.drop (i + 1)) := by rw [← List.drop_eq_getElem_cons hi, List.take_append_drop]
  unfold plx
  rw [getD_lt hi]
  conv => lhs; rw [e, slots_app]
  rfl
/-- The slices of a place in front. -/
theorem slots_take {ps : List Pl} {i : Nat} (hi : i < ps.length) {L : List Pr} {h : Heap} (H : seps (slots ps ++ L) h) :
    seps (own 1 (plx ps i).2.1 (strs (plx ps i).1.names) :: own 1 (plx ps i).2.2 (ints (plx ps i).1.inos) :: (slots (ps.take i) ++ (slots (ps.drop (i + 1)) ++ L))) h := by
  rw [slots_at hi, List.append_assoc] at H
  exact seps_under (fun _ H => seps_mid H) (seps_mid H) |> fun H => H
theorem slots_put {ps : List Pl} {i : Nat} (hi : i < ps.length) {p : Pl} {L : List Pr} {h : Heap}
    (H : seps (own 1 p.2.1 (strs p.1.names) :: own 1 p.2.2 (ints p.1.inos) :: (slots (ps.take i) ++ (slots (ps.drop (i + 1)) ++ L))) h) : seps (slots (ps.set i p) ++ L) h := by
  have H1 := seps_mid' (seps_under (fun _ H => seps_mid' H) H)
  rw [slots_at (ps := ps.set i p) (i := i) (by simpa using hi), List.append_assoc]
  have e1 : (ps.set i p).take i = ps.take i := by rw [List.take_set]; exact List.set_eq_of_length_le (by simp; omega)
  have e2 : (ps.set i p).drop (i + 1) = ps.drop (i + 1) := by rw [List.drop_set]; simp
  have e3 : plx (ps.set i p) i = p := by unfold plx; rw [getD_set hi, if_pos rfl]
  rw [e1, e2, e3]
  exact H1
/-- What a place has changes, but for its slices. -/
theorem slots_keep {ps : List Pl} {i : Nat} (hi : i < ps.length) {p : Pl} (e1 : p.2 = (plx ps i).2) (e2 : p.1.names = (plx ps i).1.names) (e3 : p.1.inos = (plx ps i).1.inos) {L : List Pr} {h : Heap} (H : seps (slots ps ++ L) h) : seps (slots (ps.set i p) ++ L) h := by
  refine slots_put hi ?_
  rw [e1, e2, e3]
  exact slots_take hi H
theorem slots_vals {ps : List Pl} {i : Nat} (hi : i < ps.length) {L : List Pr} {h : Heap} (H : seps (slots ps ++ L) h) : Has 1 h (plx ps i).2.1 (strs (plx ps i).1.names) ∧ Has 1 h (plx ps i).2.2 (ints (plx ps i).1.inos) :=
  ⟨own_at (slots_take hi H), own_at (f1 (slots_take hi H))⟩

section
variable {b : Nat} {T : List Ind} {L : List Pr} {h : Heap} (H : seps (refP b T :: L) h) {KP K : Value → Pr}
include H
theorem ref_len : T.length = 25 := by
  obtain ⟨ps, h1, rfl, _⟩ := ref_open H
  simpa using h1
theorem ref_kind {i : Nat} (hi : i < 25) : ∃ cs, h b = some (.row cs 275) ∧ cs[i * 11 + 2]? = some (Value.int .i64 (T.getD i default).kind) := by
  obtain ⟨ps, h1, rfl, H'⟩ := ref_open H
  refine ⟨_, row_at H', ?_⟩
  rw [ref_cell (by omega) (by omega), ← plx_fst]; rfl
theorem refHas_s {ino : Int} (k : K (.bool (hasB T ino)) h) : WpCall Tryd.prog 33 #[.pointer (some ⟨b, 0, none⟩), .int .i64 ino] KP K h := by
  refine ref21_Table_Has_call (some ⟨b, 0, none⟩) ino ?_
  unfold ref21_Table_Has ref21_Table_Has_j1 pJoin
  simp only [pSome_some, add_mk, Nat.zero_add, Nat.add_zero]
  refine pIf_i (fun h1 => ?_) (fun h1 => ?_)
  · have h1 : ino ≥ 1 := by simpa using h1
    refine pIf_i (fun h2 => ?_) (fun h2 => ?_)
    · have h2 : ino ≤ 24 := by simpa using h2
      obtain ⟨cs, hb, hc⟩ := ref_kind H (i := ino.toNat) (by omega)
      refine pIdx_i (by omega) (by omega) (ld_b (s := .int .i64) hb (x := (T.getD ino.toNat default).kind) hc ?_)
      have e : hasB T ino = ((T.getD ino.toNat default).kind != 0) := by
        unfold hasB
        rw [decide_eq_true (by omega : 1 ≤ ino), decide_eq_true (by omega : ino < 25)]; rfl
      rw [e] at k
      exact fgt_mk k
    · have h2 : ¬ ino ≤ 24 := by simpa using h2
      rw [show hasB T ino = false by unfold hasB; simp; omega] at k
      exact fgt_mk k
  · have h1 : ¬ ino ≥ 1 := by simpa using h1
    rw [show hasB T ino = false by unfold hasB; simp; omega] at k
    exact fgt_mk k
end
end Go.Proofs.YtkbcneomjkfheaaDoor

set_option linter.unusedVariables false
set_option linter.unusedSimpArgs false
namespace Go.Proofs.YtkbcneomjkfheaaDoor
open Go.Hl
attribute [local irreducible] loadF zc sizeP bytesP vcBody pInvoke

theorem map_set1 {ps : List Pl} {i : Nat} (p : Pl) : (ps.set i p).map (·.1) = (ps.map (·.1)).set i p.1 := by rw [List.map_set]
theorem lay_rtab : lay (zc Tryd.prog 82) [] = (List.replicate 25 zeroPl).flatMap encP := by kernel_rfl
theorem slots_zero : ∀ (n : Nat) {L : List Pr} {h : Heap}, seps L h → seps (slots (List.replicate n zeroPl) ++ L) h
  | 0, _, _, H => H
  | n + 1, _, _, H => own_nil (own_nil (slots_zero n H))
theorem refNew_s {L : List Pr} {h : Heap} (H : seps L h) {KP K : Value → Pr} (k : ∀ b h', seps (refP b newT :: L) h' → K (.pointer (some ⟨b, 0, none⟩)) h') : WpCall Tryd.prog 31 #[] KP K h := by
  refine ref21_New_call ?_
  unfold ref21_New
  intro b hb
  rw [lay_rtab, lay_root]
  have hl : ((List.replicate 25 zeroPl).flatMap encP).length = 275 := ref_flen (by simp)
  have H1 := new_row (cs := (List.replicate 25 zeroPl).flatMap encP) (n := ((List.replicate 25 zeroPl).flatMap encP).length) (slots_zero 25 H) hb
  rw [hl] at H1 ⊢
  simp only [pSome_some, add_mk, Nat.zero_add]
  refine pIdx_i (by omega) (by omega) (stA_b (row_at H1) (by rw [hl]; decide) rfl (oneCells_encI _ _ _) ?_)
  have es : splice ((List.replicate 25 zeroPl).flatMap encP) ((1 : Int).toNat * 11) (encI rootI nil0 nil0) = ((List.replicate 25 zeroPl).set 1 (rootI, nil0, nil0)).flatMap encP := ref_splice (by simp) (rootI, nil0, nil0)
  rw [es]
  have H2 := row_set (cs' := ((List.replicate 25 zeroPl).set 1 (rootI, nil0, nil0)).flatMap encP) (tot' := 275) H1
  have H3 := seps_under (fun _ H => slots_keep (i := 1) (p := (rootI, nil0, nil0)) (by simp) rfl rfl rfl H) H2
  have H4 := ref_close (by simp) H3
  refine fgt_mk (k b _ ?_)
  have e : ((List.replicate 25 zeroPl).set 1 (rootI, nil0, nil0)).map (·.1) = newT := by rw [map_set1]; rfl
  rw [e] at H4
  exact H4

section
variable {b : Nat} {T : List Ind} {L : List Pr} {h : Heap} (H : seps (refP b T :: L) h) {KP K : Value → Pr}
include H
/-- A place is written whole. -/
theorem ref_whole {i : Nat} (hi : i < 25) (x : Ind) (h1 : x.names = []) (h2 : x.inos = []) {k : Pr} (hk : ∀ h', seps (refP b (T.set i x) :: L) h' → k h') : pStA 11 ⟨b, i * 11, none⟩ (encI x nil0 nil0) k h := by
  obtain ⟨ps, hl, e, H'⟩ := ref_open H
  subst e
  refine stA_b (row_at H') (by rw [ref_flen hl]; omega) rfl (oneCells_encI _ _ _) ?_
  have es : splice (ps.flatMap encP) (i * 11) (encI x nil0 nil0) = (ps.set i (x, nil0, nil0)).flatMap encP := ref_splice (by omega) (x, nil0, nil0)
  rw [es]
  have H2 := row_set (cs' := (ps.set i (x, nil0, nil0)).flatMap encP) (tot' := 275) H'
  have hi' : i < ps.length := by omega
  have H3 : seps (rowP b ((ps.set i (x, nil0, nil0)).flatMap encP) 275 :: (slots (ps.set i (x, nil0, nil0)) ++ L)) _ := seps_under (fun _ H => slots_put (ps := ps) (i := i) (p := (x, nil0, nil0)) hi' (by rw [h1, h2]; exact own_nil (own_nil (seps_tail (seps_tail (slots_take hi' H)))))) H2
  have H4 := ref_close (by simpa using hl) H3
  rw [map_set1] at H4
  exact hk _ H4
/-- A field that is no slice. -/
theorem ref_put {i k : Nat} (hi : i < 25) (hk : k < 11) {v : Value} {x : Ind} (e : ∀ n m, encI x n m = (encI (T.getD i default) n m).set k v) (h1 : x.names = (T.getD i default).names) (h2 : x.inos = (T.getD i default).inos) (h3 : v.oneCell' = true) {q : Pr} (hq : ∀ h', seps (refP b (T.set i x) :: L) h' → q h') :
    pSt ⟨b, i * 11 + k, none⟩ v q h := by
  obtain ⟨ps, hl, et, H'⟩ := ref_open H
  subst et
  rw [← plx_fst] at e h1 h2
  refine st_b (row_at H') (by rw [ref_flen hl]; omega) h3 ?_
  have es : (ps.flatMap encP).set (i * 11 + k) v = (ps.set i (x, (plx ps i).2)).flatMap encP := ref_set (ps := ps) (i := i) (p := (x, (plx ps i).2)) (by omega) hk (e _ _)
  rw [es]
  have H2 := row_set (cs' := (ps.set i (x, (plx ps i).2)).flatMap encP) (tot' := 275) H'
  have H3 := seps_under (fun _ H => slots_keep (i := i) (p := (x, (plx ps i).2)) (by omega) rfl h1 h2 H) H2
  have H4 := ref_close (by simpa using hl) H3
  rw [map_set1] at H4
  exact hq _ H4
/-- A field that is no slice is read. -/
theorem ref_ld {s : Shape} {i k : Nat} (hi : i < 25) (hk : k < 11) {x : s.T} (e : ∀ n m, (encI (T.getD i default) n m)[k]? = some (s.inj x)) {q : s.T → Pr} (hq : q x h) : pLd s ⟨b, i * 11 + k, none⟩ q h := by
  obtain ⟨ps, hl, et, H'⟩ := ref_open H
  subst et
  refine ld_b (row_at H') (x := x) ?_ hq
  rw [ref_cell (by omega) hk]
  have := e (plx ps i).2.1 (plx ps i).2.2
  rw [← plx_fst] at this
  exact this
theorem refWrite_s {ino : Int} {d : ByteArray} (k : ∀ h', seps (refP b (writeF T ino d).1 :: L) h' → K (.int .i64 (writeF T ino d).2) h') : WpCall Tryd.prog 57 #[.pointer (some ⟨b, 0, none⟩), .int .i64 ino, .string d] KP K h := by
  refine ref21_Table_Write_call (some ⟨b, 0, none⟩) ino d ?_
  unfold ref21_Table_Write
  refine refHas_s H ⟨_, rfl, ?_⟩
  simp only [pSome_some, add_mk, Nat.zero_add, Nat.add_zero]
  unfold writeF at k
  by_cases hb : hasB T ino = true
  · obtain ⟨r1, r2⟩ := hasB_range hb
    simp only [hb, if_true] at k ⊢
    refine pIf_f rfl (pIdx_i (by omega) (by omega) (ref_ld H (s := .int .i64) (by omega) (by omega) (x := (T.getD ino.toNat default).kind) (fun _ _ => rfl) ?_))
    refine pIf_i (fun h1 => ?_) (fun h1 => ?_)
    · have h1 : (T.getD ino.toNat default).kind = 2 := by simpa using h1
      simp only [h1, if_true] at k
      exact fgt_mk (k h H)
    have h1 : ¬ (T.getD ino.toNat default).kind = 2 := by simpa using h1
    simp only [h1, if_false] at k
    refine pIf_i (fun h2 => ?_) (fun h2 => ?_)
    · have h2 : d.size > 32 := by simp at h2; omega
      simp only [h2, if_true] at k
      exact fgt_mk (k h H)
    have h2 : ¬ d.size > 32 := by simp at h2; omega
    simp only [h2, if_false] at k
    refine pIdx_i (by omega) (by omega) (ref_put H (by omega) (by omega) (x := { T.getD ino.toNat default with data := d }) (fun _ _ => rfl) rfl rfl rfl fun h' H' => fgt_mk (k h' H'))
  · simp only [hb, if_false, Bool.false_eq_true] at k ⊢
    exact pIf_t rfl (fgt_mk (k h H))
theorem refFree_s {ino : Int} (k : ∀ h', seps (refP b (freeF T ino).1 :: L) h' → K (.int .i64 (freeF T ino).2) h') : WpCall Tryd.prog 53 #[.pointer (some ⟨b, 0, none⟩), .int .i64 ino] KP K h := by
  refine ref21_Table_Free_call (some ⟨b, 0, none⟩) ino ?_
  unfold ref21_Table_Free
  refine refHas_s H ⟨_, rfl, ?_⟩
  simp only [pSome_some, add_mk, Nat.zero_add, Nat.add_zero]
  unfold freeF at k
  by_cases hb : hasB T ino = true
  · obtain ⟨r1, r2⟩ := hasB_range hb
    simp only [hb, if_true] at k ⊢
    refine pIf_f rfl ?_
    refine pIf_i (fun h1 => ?_) (fun h1 => ?_)
    · have h1 : ino = 1 := by simpa using h1
      simp only [h1, if_true] at k
      exact fgt_mk (k h (by rw [h1] at *; exact H))
    have h1 : ¬ ino = 1 := by simpa using h1
    simp only [h1, if_false] at k
    refine pIdx_i (by omega) (by omega) (ref_ld H (s := .int .i64) (by omega) (by omega) (x := (T.getD ino.toNat default).gen) (fun _ _ => rfl) ?_)
    refine pIdx_i (by omega) (by omega) ?_
    rw [lay_gen]
    exact ref_whole H (by omega) _ rfl rfl fun h' H' => fgt_mk (k h' H')
  · simp only [hb, if_false, Bool.false_eq_true] at k ⊢
    exact pIf_t rfl (fgt_mk (k h H))
theorem refAdd_s {kind mode uid gid : Int} (k : ∀ h', seps (refP b (addF T kind mode uid gid).1 :: L) h' → K (.tuple #[.int .i64 (addF T kind mode uid gid).2.1, .int .i64 (addF T kind mode uid gid).2.2]) h') :
    WpCall Tryd.prog 51 #[.pointer (some ⟨b, 0, none⟩), .int .i64 kind, .int .i64 mode, .int .i64 uid, .int .i64 gid] KP K h := by
  refine ref21_Table_Add_call (some ⟨b, 0, none⟩) kind mode uid gid ?_
  unfold ref21_Table_Add pJoin ref21_Table_Add_j2
  have bad : (kind < 1 ∨ kind > 3) → fgt K (.tuple [.int .i64 0, .int .i64 22].toArray) h := fun hk => by
    have e : addF T kind mode uid gid = (T, 0, 22) := by unfold addF; rw [if_pos hk]
    rw [e] at k; exact fgt_mk (k h H)
  refine pIf_i (fun h1 => pIf_t rfl (bad (.inl (by simpa using h1)))) (fun h1 => ?_)
  refine pIf_i (fun h2 => bad (.inr (by simpa using h2))) (fun h2 => ?_)
  have hk : ¬ (kind < 1 ∨ kind > 3) := by simp at h1 h2; omega
  refine pLoop_rule (fun (s : Int × Unit) h' => h' = h ∧ 2 ≤ s.1 ∧ s.1 ≤ 25 ∧ freeFrom T s.1.toNat = freeL T) (fun s => (25 - s.1).toNat) ?_ ?_
  rotate_left
  · refine ⟨rfl, ?_, ?_, rfl⟩
    · show (2 : Int) ≤ 2; omega
    · show (2 : Int) ≤ 25; omega
  rintro ⟨i, ⟨⟩⟩ h' kk ⟨rfl, r1, r2, e⟩ hkk
  simp only at r1 r2 e hkk ⊢
  unfold ref21_Table_Add_l1
  simp only [pSome_some, add_mk, Nat.zero_add, Nat.add_zero]
  by_cases hi : i ≤ 24
  · refine pIf_t (by simpa using hi) (pIdx_i (by omega) (by omega) (ref_ld H (s := .int .i64) (by omega) (by omega) (x := (T.getD i.toNat default).kind) (fun _ _ => rfl) ?_))
    rw [freeFrom_step T (by omega)] at e
    refine pIf_i (fun hz => ?_) (fun hz => ?_)
    · have hz : (T.getD i.toNat default).kind = 0 := by simpa using hz
      rw [if_pos hz] at e
      have ei : ((i.toNat : Nat) : Int) = i := by omega
      have ea : addF T kind mode uid gid = (T.set i.toNat (newI T i kind mode uid gid), i, 0) := by unfold addF; rw [if_neg hk, ← e, ei]
      rw [ea] at k
      refine pIdx_i (by omega) (by omega) (ref_ld H (s := .int .i64) (by omega) (by omega) (x := (T.getD i.toNat default).gen) (fun _ _ => rfl) ?_)
      refine pIdx_i (by omega) (by omega) ?_
      rw [lay_new]
      exact ref_whole H (by omega) (newI T i kind mode uid gid) rfl rfl fun h' H' => fgt_mk (k h' H')
    · have hz : ¬ (T.getD i.toNat default).kind = 0 := by simpa using hz
      rw [if_neg hz] at e
      rw [wrap_small (by omega) (by omega)]
      exact hkk _ _ ⟨rfl, by simp only; omega, by simp only; omega, by simp only; rw [show (i + 1).toNat = i.toNat + 1 by omega]; exact e⟩ (by simp only; omega)
  · have : i = 25 := by omega
    subst this
    rw [show ((25 : Int).toNat) = 25 from rfl, freeFrom_end T (by omega)] at e
    have ea : addF T kind mode uid gid = (T, 0, 28) := by unfold addF; rw [if_neg hk, ← e]
    rw [ea] at k
    exact pIf_f rfl (fgt_mk (k h' H))
end
end Go.Proofs.YtkbcneomjkfheaaDoor

set_option linter.unusedVariables false
set_option linter.unusedSimpArgs false
namespace Go.Proofs.YtkbcneomjkfheaaDoor
open Go.Hl
attribute [local irreducible] loadF zc sizeP bytesP vcBody pInvoke

/-- The place of a name is the one at which it stands. -/
theorem pos_of {ns : List ByteArray} (s : Sorted ns) {t : ByteArray} {j : Nat} (hj : j < ns.length) (e : strEq ns[j] t = true) : pos ns t = j ∧ thereB ns t = true := by
  have e' := strEq_iff.1 e
  have hp := pos_spec s t
  have h1 := hp j hj
  rw [e', lt_irrefl] at h1
  have h1 : ¬ j < pos ns t := by simpa using h1.symm
  have h2 : pos ns t = j := by
    by_cases q : pos ns t < j
    · have h3 := hp (pos ns t) (by omega)
      have h4 : lt ns[pos ns t] ns[j] = true := List.pairwise_iff_getElem.1 s _ _ _ _ q
      rw [e'] at h4
      rw [h4] at h3; simp at h3
    · omega
  refine ⟨h2, ?_⟩
  unfold thereB
  rw [decide_eq_true_eq]
  exact ⟨by omega, by simp only [h2]; exact e⟩
theorem there_not {ns : List ByteArray} {t : ByteArray} (h : ∀ j (hj : j < ns.length), strEq ns[j] t = false) : thereB ns t = false := by
  unfold thereB
  rw [decide_eq_false_iff_not]
  rintro ⟨hi, e⟩
  rw [h _ hi] at e; cases e

/-- A cell of a slice of strings, of whole numbers. -/
theorem str_at {h : Heap} {s : Sl} {ns : List ByteArray} (o : Has 1 h s (strs ns)) {j : Nat} (hj : j < ns.length) : ∃ a, s.base = some a ∧ h.cell (a.add (j * 1)) = some (.string ns[j]) := by
  have hlen : s.len = ns.length := by have := o.len; rw [strs_len] at this; exact this
  have hv : s.vals 1 h (ns.flatMap fun y => [Value.string y]) := by rw [← map_flat]; exact o.vals
  obtain ⟨a, ha, hv⟩ := sl_elem (enc := fun y : ByteArray => [Value.string y]) (n := 1) (fun _ => rfl) hv hlen hj
  exact ⟨a, ha, vals_cell1 hv⟩
theorem int_at {h : Heap} {s : Sl} {ns : List Int} (o : Has 1 h s (ints ns)) {j : Nat} (hj : j < ns.length) : ∃ a, s.base = some a ∧ h.cell (a.add (j * 1)) = some (.int .i64 ns[j]) := by
  have hlen : s.len = ns.length := by have := o.len; rw [ints_len] at this; exact this
  have hv : s.vals 1 h (ns.flatMap fun y => [Value.int .i64 y]) := by rw [← map_flat]; exact o.vals
  obtain ⟨a, ha, hv⟩ := sl_elem (enc := fun y : Int => [Value.int .i64 y]) (n := 1) (fun _ => rfl) hv hlen hj
  exact ⟨a, ha, vals_cell1 hv⟩

/-- A table of the reference, opened: its row, its slices. -/
structure RT (h : Heap) (b : Nat) (ps : List Pl) : Prop where
  len : ps.length = 25
  row : h b = some (.row (ps.flatMap encP) 275)
  names : ∀ i, i < 25 → Has 1 h (plx ps i).2.1 (strs (plx ps i).1.names)
  inos : ∀ i, i < 25 → Has 1 h (plx ps i).2.2 (ints (plx ps i).1.inos)
theorem RT.of {b : Nat} {ps : List Pl} {L : List Pr} {h : Heap} (hl : ps.length = 25) (H : seps (rowP b (ps.flatMap encP) 275 :: (slots ps ++ L)) h) : RT h b ps :=
  ⟨hl, row_at H, fun i hi => (slots_vals (by omega) (seps_tail H)).1, fun i hi => (slots_vals (by omega) (seps_tail H)).2⟩
theorem RT.le {h h' : Heap} {b : Nat} {ps : List Pl} (t : RT h b ps) (l : Heap.le h h') : RT h' b ps :=
  ⟨t.len, l _ _ t.row, fun i hi => (t.names i hi).keep l, fun i hi => (t.inos i hi).keep l⟩
theorem RT.ld {h : Heap} {b : Nat} {ps : List Pl} (t : RT h b ps) {s : Shape} {i k : Nat} (hi : i < 25) (hk : k < 11) {x : s.T} (e : (encP (plx ps i))[k]? = some (s.inj x)) {q : s.T → Pr} (hq : q x h) : pLd s ⟨b, i * 11 + k, none⟩ q h :=
  ld_b t.row (x := x) (by rw [ref_cell (by have := t.len; omega) hk]; exact e) hq

theorem refFind_s {b : Nat} {T : List Ind} {L : List Pr} {h : Heap} (H : seps (refP b T :: L) h) (v : Inv T) {dir : Int} {name : ByteArray} {KP K : Value → Pr} (k : K (.int .i64 ((findF T dir name).getD 0)) h) :
    WpCall Tryd.prog 72 #[.pointer (some ⟨b, 0, none⟩), .int .i64 dir, .string name] KP K h := by
  refine ref21_Table_Find_call (some ⟨b, 0, none⟩) dir name ?_
  unfold ref21_Table_Find pJoin ref21_Table_Find_j2
  refine refHas_s H ⟨_, rfl, ?_⟩
  obtain ⟨ps, hl, et, H'⟩ := ref_open H
  have t := RT.of hl H'
  simp only [pSome_some, add_mk, Nat.zero_add, Nat.add_zero]
  unfold findF at k
  by_cases hb : hasB T dir = true
  · obtain ⟨r1, r2⟩ := hasB_range hb
    simp only [hb, if_true] at k ⊢
    have ex : T.getD dir.toNat default = (plx ps dir.toNat).1 := by rw [← et, plx_fst]
    rw [ex] at k
    refine pIf_f rfl (pIdx_i (by omega) (by omega) (t.ld (s := .int .i64) (by omega) (by omega) (x := (plx ps dir.toNat).1.kind) rfl ?_))
    refine pIf_i (fun h1 => ?_) (fun h1 => ?_)
    · have h1 : ¬ (plx ps dir.toNat).1.kind = 2 := by simpa using h1
      simp only [h1, if_false] at k
      exact fgt_mk k
    have h1 : (plx ps dir.toNat).1.kind = 2 := by simpa using h1
    simp only [h1, if_true] at k
    have fi := v.fine dir.toNat
    have sm := v.small dir.toNat
    rw [ex] at fi sm
    obtain ⟨so, il⟩ := fi
    have oN := t.names dir.toNat (by omega)
    have oI := t.inos dir.toNat (by omega)
    have ln : (plx ps dir.toNat).2.1.len = (plx ps dir.toNat).1.names.length := by have := oN.len; rw [strs_len] at this; exact this
    have li : (plx ps dir.toNat).2.2.len = (plx ps dir.toNat).1.inos.length := by have := oI.len; rw [ints_len] at this; exact this
    refine pLoop_rule (fun (s : Int × Unit) h' => h' = h ∧ 0 ≤ s.1 ∧ s.1 ≤ (plx ps dir.toNat).1.names.length ∧ ∀ j (hj : j < (plx ps dir.toNat).1.names.length), (j : Int) < s.1 → strEq (plx ps dir.toNat).1.names[j] name = false) (fun s => ((plx ps dir.toNat).1.names.length - s.1).toNat) ?_ ?_
    rotate_left
    · refine ⟨rfl, ?_, ?_, fun j hj hlt => ?_⟩
      · show (0 : Int) ≤ 0; omega
      · show (0 : Int) ≤ _; omega
      · exact absurd hlt (by show ¬ ((j : Int) < 0); omega)
    rintro ⟨i, ⟨⟩⟩ h' kk ⟨rfl, q1, q2, q3⟩ hk
    simp only at q1 q2 q3 hk ⊢
    unfold ref21_Table_Find_l1
    simp only [pSome_some, add_mk, Nat.zero_add, Nat.add_zero]
    refine pIdx_i (by omega) (by omega) (t.ld (s := .slice) (by omega) (by omega) (x := (plx ps dir.toNat).2.1) rfl ?_)
    by_cases hi : i < (plx ps dir.toNat).1.names.length
    · refine pIf_t (by rw [ln]; simpa using hi) (pIdx_i (by omega) (by omega) (t.ld (s := .slice) (by omega) (by omega) (x := (plx ps dir.toNat).2.1) rfl ?_))
      have hj : i.toNat < (plx ps dir.toNat).1.names.length := by omega
      obtain ⟨a, ha, hc⟩ := str_at oN hj
      refine pIdx_i (by omega) (by omega) (pSome_i ha (pLd_i (s := .str) _ hc ?_))
      refine pIf_i (fun he => ?_) (fun he => ?_)
      · obtain ⟨p1, p2⟩ := pos_of so hj he
        simp only [p2, if_true, p1] at k
        refine pIdx_i (by omega) (by omega) (t.ld (s := .slice) (by omega) (by omega) (x := (plx ps dir.toNat).2.2) rfl ?_)
        have hj2 : i.toNat < (plx ps dir.toNat).1.inos.length := by omega
        obtain ⟨a2, ha2, hc2⟩ := int_at oI hj2
        refine pIdx_i (by omega) (by omega) (pSome_i ha2 (pLd_i (s := .int .i64) _ hc2 ?_))
        rw [← getD_lt (d := 0) hj2]
        exact fgt_mk k
      · rw [wrap_small (by omega) (by omega)]
        refine hk _ _ ⟨rfl, by simp only; omega, by simp only; omega, fun j hj' hlt => ?_⟩ (by simp only; omega)
        simp only at hlt
        by_cases e : j = i.toNat
        · subst e; exact he
        · exact q3 j hj' (by omega)
    · have hn := there_not (t := name) fun j hj => q3 j hj (by omega)
      simp only [hn, if_false, Bool.false_eq_true] at k
      exact pIf_f (by rw [ln]; simpa using hi) (fgt_mk k)
  · simp only [hb, if_false, Bool.false_eq_true] at k ⊢
    exact pIf_t rfl (pIf_t rfl (fgt_mk k))
end Go.Proofs.YtkbcneomjkfheaaDoor

set_option linter.unusedVariables false
set_option linter.unusedSimpArgs false
namespace Go.Proofs.YtkbcneomjkfheaaDoor
open Go.Hl
attribute [local irreducible] loadF zc sizeP bytesP vcBody pInvoke

theorem app_str {h : Heap} {s : Sl} {l : List ByteArray} {x : ByteArray} {L : List Pr} {k : Sl → Pr} (H : seps (own 1 s (strs l) :: L) h) (hl : l.length < 1000000) (hk : ∀ s' h', seps (own 1 s' (strs (l ++ [x])) :: L) h' → k s' h') :
    pNew (lay (reps 1 (zc Tryd.prog 9)) [(0, (.string x))]) (fun b => pAppend 1 16 s ⟨(some ⟨b, 0, none⟩), 1, 1⟩ k) h := by
  intro b hb
  rw [lay_s1]
  have hlen : s.len = l.length := by have := (own_at H).len; rw [strs_len] at this; exact this
  have hv : (Sl.mk (some ⟨b, 0, none⟩) 1 1).vals 1 (h.set b (.row [.string x] ([Value.string x] : List Value).length)) [.string x] := by
    unfold Sl.vals; simp only; rw [vals_row (Heap.set_same _ _ _)]; rfl
  refine append_sep (seps_new H hb _) hv (show (s.len + 1) * 16 ≤ 140737488355328 by omega) (fun v hv => by rw [List.mem_singleton.1 hv]; rfl) fun s' h' H' _ => hk s' h' ?_
  have e : strs (l ++ [x]) = strs l ++ [.string x] := by simp [strs]
  rw [e]; exact H'
theorem app_int {h : Heap} {s : Sl} {l : List Int} {x : Int} {L : List Pr} {k : Sl → Pr} (H : seps (own 1 s (ints l) :: L) h) (hl : l.length < 1000000) (hk : ∀ s' h', seps (own 1 s' (ints (l ++ [x])) :: L) h' → k s' h') :
    pNew (lay (reps 1 (zc Tryd.prog 3)) [(0, (.int .i64 x))]) (fun b => pAppend 1 8 s ⟨(some ⟨b, 0, none⟩), 1, 1⟩ k) h := by
  intro b hb
  rw [lay1]
  have hlen : s.len = l.length := by have := (own_at H).len; rw [ints_len] at this; exact this
  have hv : (Sl.mk (some ⟨b, 0, none⟩) 1 1).vals 1 (h.set b (.row [.int .i64 x] ([Value.int .i64 x] : List Value).length)) [.int .i64 x] := by
    unfold Sl.vals; simp only; rw [vals_row (Heap.set_same _ _ _)]; rfl
  refine append_sep (seps_new H hb _) hv (show (s.len + 1) * 8 ≤ 140737488355328 by omega) (fun v hv => by rw [List.mem_singleton.1 hv]; rfl) fun s' h' H' _ => hk s' h' ?_
  have e : ints (l ++ [x]) = ints l ++ [.int .i64 x] := by simp [ints]
  rw [e]; exact H'

/-- With one put in. -/
def insL {α : Type} (l : List α) (p : Nat) (x : α) : List α := l.take p ++ x :: l.drop p
section
variable {α : Type} {l : List α} {p : Nat} {x : α}
theorem insL_len (hp : p ≤ l.length) : (insL l p x).length = l.length + 1 := by unfold insL; simp; omega
theorem insL_lt {i : Nat} (hi : i < p) (hp : p ≤ l.length) : (insL l p x)[i]? = some (l[i]'(by omega)) := by
  unfold insL
  rw [List.getElem?_append_left (by simp; omega), List.getElem?_take, if_pos hi, List.getElem?_eq_getElem (by omega)]
theorem insL_eq (hp : p ≤ l.length) : (insL l p x)[p]? = some x := by
  unfold insL
  rw [List.getElem?_append_right (by simp; omega)]
  simp [Nat.min_eq_left hp]
theorem insL_gt {i : Nat} (hi : p ≤ i) (hl : i < l.length) : (insL l p x)[i + 1]? = some l[i] := by
  unfold insL
  have e : min p l.length = p := by omega
  rw [List.getElem?_append_right (by simp; omega), List.length_take, e, show i + 1 - p = (i - p) + 1 by omega, List.getElem?_cons_succ, List.getElem?_drop, show p + (i - p) = i by omega, List.getElem?_eq_getElem hl]
theorem take_snoc {m : Nat} {y : α} (h : l[m]? = some y) : l.take (m + 1) = l.take m ++ [y] := by rw [List.take_add_one, h]; rfl
end

/-- The slices of a place turn. -/
theorem ref_turn {b : Nat} {ps : List Pl} {L : List Pr} {h : Heap} (hl : ps.length = 25) {i : Nat} (hi : i < 25) {d : Int} (hd : 0 ≤ d ∧ d < 25) {n' i' : Sl} {x : Ind} (e : encI x n' i' = ((encP (plx ps i)).set 8 (.slice n'.base n'.len n'.cap)).set 9 (.slice i'.base i'.len i'.cap))
    (H : seps (own 1 n' (strs x.names) :: own 1 i' (ints x.inos) :: rowP b (ps.flatMap encP) 275 :: (slots ps ++ L)) h) {k : Pr} (hk : ∀ h', seps (refP b ((ps.map (·.1)).set i x) :: L) h' → k h') :
    pSt ⟨b, i * 11 + 8, none⟩ (.slice n'.base n'.len n'.cap) (pIdx d 25 (pSt ⟨b, i * 11 + 9, none⟩ (.slice i'.base i'.len i'.cap) k)) h := by
  have hi' : i < ps.length := by omega
  have H1 := f2 H
  have hf : ((ps.flatMap encP).set (i * 11 + 8) (.slice n'.base n'.len n'.cap)).length = 275 := by rw [List.length_set]; exact ref_flen hl
  refine st_b (row_at H1) (by rw [ref_flen hl]; omega) rfl (pIdx_i hd.1 hd.2 (st_b (Heap.set_same _ _ _) (by rw [hf]; omega) rfl ?_))
  rw [Heap.set_set]
  have e1 : ((ps.flatMap encP).set (i * 11 + 8) (.slice n'.base n'.len n'.cap)).set (i * 11 + 9) (.slice i'.base i'.len i'.cap) = (ps.set i (x, n', i')).flatMap encP := by
    rw [ref_set (ps := ps) (i := i) (k := 8) (p := ((plx ps i).1, n', (plx ps i).2.2)) hi' (by omega) rfl]
    have e2 : plx (ps.set i ((plx ps i).1, n', (plx ps i).2.2)) i = ((plx ps i).1, n', (plx ps i).2.2) := by unfold plx; rw [getD_set hi', if_pos rfl]
    rw [ref_set (ps := ps.set i ((plx ps i).1, n', (plx ps i).2.2)) (i := i) (k := 9) (p := (x, n', i')) (by simpa using hi') (by omega) (by rw [e2]; exact e), List.set_set]
  rw [e1]
  have H2 := row_set (cs' := (ps.set i (x, n', i')).flatMap encP) (tot' := 275) H1
  have H3 : seps (rowP b ((ps.set i (x, n', i')).flatMap encP) 275 :: (slots (ps.set i (x, n', i')) ++ L)) _ := seps_under (fun _ H => slots_put hi' (seps_under (fun _ H => seps_under (fun _ H => seps_tail (seps_tail (slots_take hi' H))) H) H)) H2
  have H4 := ref_close (by simpa using hl) H3
  rw [map_set1] at H4
  exact hk _ H4

theorem find_pos {T : List Ind} (v : Inv T) {dir : Int} {name : ByteArray} (hb : hasB T dir = true) (hk : (T.getD dir.toNat default).kind = 2) : decide ((findF T dir name).getD 0 > 0) = thereB (T.getD dir.toNat default).names name := by
  unfold findF
  simp only [hb, hk, if_true]
  by_cases h : thereB (T.getD dir.toNat default).names name = true
  · simp only [h, if_true]
    have hp : pos (T.getD dir.toNat default).names name < (T.getD dir.toNat default).names.length := by unfold thereB at h; simp at h; exact h.1
    have hl := (v.fine dir.toNat).2
    have := v.inos dir.toNat ((T.getD dir.toNat default).inos.getD (pos (T.getD dir.toNat default).names name) 0) (getD_mem (by omega))
    simp only [Option.getD_some, decide_eq_true_eq]
    omega
  · have h : thereB (T.getD dir.toNat default).names name = false := by simpa using h
    simp only [h, if_false, Bool.false_eq_true]
    rfl
end Go.Proofs.YtkbcneomjkfheaaDoor

set_option linter.unusedVariables false
set_option linter.unusedSimpArgs false
namespace Go.Proofs.YtkbcneomjkfheaaDoor
open Go.Hl
attribute [local irreducible] loadF zc sizeP bytesP vcBody pInvoke

/-- The last part of the reference's Enter. -/
theorem ref_link {b : Nat} {T : List Ind} {L : List Pr} {h : Heap} (H : seps (refP b T :: L) h) {ino dir : Int} (r3 : 1 ≤ ino) (r4 : ino < 25) {k : Pr} (hk : ∀ h', seps (refP b (T.set ino.toNat (linkI (T.getD ino.toNat default) dir)) :: L) h' → k h') :
    (pLd (.int .i64) ⟨b, ino.toNat * 11 + 6, none⟩ fun (x57 : Int) => pIdx ino 25 <| pSt ⟨b, ino.toNat * 11 + 6, none⟩ (.int .i64 (IntKind.i64.wrap (x57 + 1))) <|
      pIdx ino 25 <| pLd (.int .i64) ⟨b, ino.toNat * 11 + 2, none⟩ fun (x60 : Int) => pIf ((x60 : Int) == 2) (pIdx ino 25 <| pSt ⟨b, ino.toNat * 11 + 10, none⟩ (.int .i64 dir) k) k) h := by
  have hT := ref_len H
  have hlT : ino.toNat < T.length := by omega
  refine ref_ld H (s := .int .i64) (by omega) (by omega) (x := (T.getD ino.toNat default).links) (fun _ _ => rfl) (pIdx_i (by omega) (by omega) ?_)
  refine ref_put H (i := ino.toNat) (k := 6) (by omega) (by omega) (x := { T.getD ino.toNat default with links := IntKind.i64.wrap ((T.getD ino.toNat default).links + 1) }) (fun _ _ => rfl) rfl rfl rfl fun h1 H1 => pIdx_i (by omega) (by omega) ?_
  refine ref_ld H1 (s := .int .i64) (by omega) (by omega) (x := (T.getD ino.toNat default).kind) (fun _ _ => by rw [getD_set_self hlT]; rfl) ?_
  refine pIf_i (fun hy => ?_) (fun hy => ?_)
  · have hy : (T.getD ino.toNat default).kind = 2 := by simpa using hy
    refine pIdx_i (by omega) (by omega) (ref_put H1 (i := ino.toNat) (k := 10) (by omega) (by omega) (x := linkI (T.getD ino.toNat default) dir) (fun _ _ => by rw [getD_set_self hlT]; unfold linkI; simp only [hy, if_true]; rfl) (by rw [getD_set_self hlT]; unfold linkI; simp only [hy, if_true]) (by rw [getD_set_self hlT]; unfold linkI; simp only [hy, if_true]) rfl fun h2 H2 => ?_)
    rw [List.set_set] at H2
    exact hk h2 H2
  · have hy : ¬ (T.getD ino.toNat default).kind = 2 := by simpa using hy
    have e : linkI (T.getD ino.toNat default) dir = { T.getD ino.toNat default with links := IntKind.i64.wrap ((T.getD ino.toNat default).links + 1) } := by unfold linkI; simp only [hy, if_false]
    rw [← e] at H1
    exact hk h1 H1

/-- How far the new list is. -/
def upTo (p i : Nat) : Nat := if p < i then i + 1 else i

theorem refEnter_s {b : Nat} {T : List Ind} {L : List Pr} {h : Heap} (H : seps (refP b T :: L) h) (v : Inv T) {dir ino : Int} {name : ByteArray} {KP K : Value → Pr} (k : ∀ h', seps (refP b (enterF T dir name ino).1 :: L) h' → K (.int .i64 (enterF T dir name ino).2) h') :
    WpCall Tryd.prog 54 #[.pointer (some ⟨b, 0, none⟩), .int .i64 dir, .string name, .int .i64 ino] KP K h := by
  refine ref21_Table_Enter_call (some ⟨b, 0, none⟩) dir name ino ?_
  unfold ref21_Table_Enter
  refine refName_ok ⟨_, rfl, ?_⟩
  unfold enterF at k
  refine pIf_i (fun hz => ?_) (fun hz => ?_)
  · have hz : ¬ isName name = true := by simpa using hz
    simp only [hz, if_false, Bool.false_eq_true] at k
    exact fgt_mk (k h H)
  have hz : isName name = true := by simpa using hz
  simp only [hz, if_true] at k
  unfold pJoin ref21_Table_Enter_j6
  refine refHas_s H ⟨_, rfl, ?_⟩
  by_cases hb : hasB T dir = true ∧ hasB T ino = true
  case neg =>
    simp only [hb, if_false] at k
    have fin := fgt_mk (k h H)
    by_cases hd : hasB T dir = true
    · have hi : hasB T ino = false := by
        cases e : hasB T ino with
        | false => rfl
        | true => exact absurd ⟨hd, e⟩ hb
      simp only [hd]
      refine pIf_f rfl (refHas_s H ⟨_, rfl, ?_⟩)
      simp only [hi]
      exact pIf_t rfl fin
    · have hd : hasB T dir = false := by simpa using hd
      simp only [hd]
      exact pIf_t rfl (pIf_t rfl fin)
  simp only [hb, and_self, if_true] at k
  obtain ⟨hd, hi⟩ := hb
  obtain ⟨r1, r2⟩ := hasB_range hd
  obtain ⟨r3, r4⟩ := hasB_range hi
  simp only [hd]
  refine pIf_f rfl (refHas_s H ⟨_, rfl, ?_⟩)
  simp only [hi, pSome_some, add_mk, Nat.zero_add, Nat.add_zero]
  refine pIf_f rfl (pIdx_i (by omega) (by omega) (ref_ld H (s := .int .i64) (by omega) (by omega) (x := (T.getD dir.toNat default).kind) (fun _ _ => rfl) ?_))
  refine pIf_i (fun hq => ?_) (fun hq => ?_)
  · have hq : ¬ (T.getD dir.toNat default).kind = 2 := by simpa using hq
    simp only [hq, if_false] at k
    exact fgt_mk (k h H)
  have hq : (T.getD dir.toNat default).kind = 2 := by simpa using hq
  simp only [hq, if_true] at k
  refine refFind_s H v ⟨_, rfl, ?_⟩
  dsimp only
  rw [find_pos v hd hq]
  refine pIf_i (fun hw => ?_) (fun hw => ?_)
  · simp only [hw, if_true] at k
    exact fgt_mk (k h H)
  simp only [hw, if_false, Bool.false_eq_true] at k
  obtain ⟨ps, hl, et, H'⟩ := ref_open H
  have t := RT.of hl H'
  have ex : T.getD dir.toNat default = (plx ps dir.toNat).1 := by rw [← et, plx_fst]
  obtain ⟨so, il⟩ := v.fine dir.toNat
  have sm := v.small dir.toNat
  have hpos := pos_spec so name
  have ple := pos_le (T.getD dir.toNat default).names name
  have eT1 : enterOk T dir name ino = ((ps.map (·.1)).set dir.toNat (insI (T.getD dir.toNat default) name ino)).set ino.toNat (linkI (((ps.map (·.1)).set dir.toNat (insI (T.getD dir.toNat default) name ino)).getD ino.toNat default) dir) := by rw [et]; rfl
  have eins : insI (T.getD dir.toNat default) name ino = { T.getD dir.toNat default with names := insL (T.getD dir.toNat default).names (pos (T.getD dir.toNat default).names name) name, inos := insL (T.getD dir.toNat default).inos (pos (T.getD dir.toNat default).names name) ino } := rfl
  have oN0 : ∀ h', RT h' b ps → Has 1 h' (plx ps dir.toNat).2.1 (strs (T.getD dir.toNat default).names) := fun h' t => by rw [ex]; exact t.names _ (by omega)
  have oI0 : ∀ h', RT h' b ps → Has 1 h' (plx ps dir.toNat).2.2 (ints (T.getD dir.toNat default).inos) := fun h' t => by rw [ex]; exact t.inos _ (by omega)
  have ln : (plx ps dir.toNat).2.1.len = (T.getD dir.toNat default).names.length := by have := (oN0 h t).len; rw [strs_len] at this; exact this
  have li : (plx ps dir.toNat).2.2.len = (T.getD dir.toNat default).inos.length := by have := (oI0 h t).len; rw [ints_len] at this; exact this
  refine pIdx_i (by omega) (by omega) (t.ld (s := .slice) (by omega) (by omega) (x := (plx ps dir.toNat).2.1) rfl ?_)
  refine pIf_i (fun hv => ?_) (fun hv => ?_)
  · have hv : (T.getD dir.toNat default).names.length ≥ 8 := by have := of_decide_eq_true hv; omega
    simp only [hv, if_true] at k
    exact fgt_mk (k h H)
  have hv : ¬ (T.getD dir.toNat default).names.length ≥ 8 := by have := of_decide_eq_false hv; omega
  simp only [hv, if_false] at k
  refine pIdx_i (by omega) (by omega) (ref_ld H (s := .int .i64) (by omega) (by omega) (x := (T.getD ino.toNat default).links) (fun _ _ => rfl) ?_)
  refine pIf_i (fun hy => ?_) (fun hy => ?_)
  · have hy : (T.getD ino.toNat default).links ≥ 8 := by simpa using hy
    simp only [hy, if_true] at k
    exact fgt_mk (k h H)
  have hy : ¬ (T.getD ino.toNat default).links ≥ 8 := by simpa using hy
  simp only [hy, if_false] at k
  rw [eT1] at k
  generalize hx : T.getD dir.toNat default = x at *
  generalize hp : pos x.names name = p at *
  refine pLoop_rule (fun (s : Sl × Sl × Bool × Int × Unit) h' => 0 ≤ s.2.2.2.1 ∧ s.2.2.2.1 ≤ x.names.length ∧ s.2.2.1 = decide (p < s.2.2.2.1.toNat) ∧
    seps (own 1 s.1 (strs ((insL x.names p name).take (upTo p s.2.2.2.1.toNat))) :: own 1 s.2.1 (ints ((insL x.inos p ino).take (upTo p s.2.2.2.1.toNat))) :: rowP b (ps.flatMap encP) 275 :: (slots ps ++ L)) h') (fun s => (x.names.length - s.2.2.2.1).toNat) ?_ ?_
  rotate_left
  · refine ⟨?_, ?_, ?_, ?_⟩
    · show (0 : Int) ≤ 0; omega
    · show (0 : Int) ≤ _; omega
    · show false = decide (p < 0); simp
    · exact own_nil (own_nil H')
  rintro ⟨sn, si, done, i, ⟨⟩⟩ h2 kk ⟨q1, q2, q3, H2⟩ hk
  simp only at q1 q2 q3 H2 hk ⊢
  rw [q3]; clear q3
  have t2 := RT.of hl (seps_tail (seps_tail H2))
  unfold ref21_Table_Enter_l5 pJoin
  simp only [pSome_some, add_mk, Nat.zero_add, Nat.add_zero]
  refine pIdx_i (by omega) (by omega) (t2.ld (s := .slice) (by omega) (by omega) (x := (plx ps dir.toNat).2.1) rfl ?_)
  have lN : (insL x.names p name).length = x.names.length + 1 := insL_len ple
  have lI : (insL x.inos p ino).length = x.inos.length + 1 := insL_len (by omega)
  by_cases hlt : i < x.names.length
  · refine pIf_t (by rw [ln]; simpa using hlt) ?_
    have hj : i.toNat < x.names.length := by omega
    have hj2 : i.toNat < x.inos.length := by omega
    -- the part behind: what stood there is appended
    have rest : ∀ (sn si : Sl) (h3 : Heap), seps (own 1 sn (strs ((insL x.names p name).take (upTo p (i.toNat + 1) - 1))) :: own 1 si (ints ((insL x.inos p ino).take (upTo p (i.toNat + 1) - 1))) :: rowP b (ps.flatMap encP) 275 :: (slots ps ++ L)) h3 → p ≤ i.toNat ∨ i.toNat < p →
        ref21_Table_Enter_j2 (some ⟨b, 0, none⟩) dir kk i sn si (decide (p < (i + 1).toNat)) h3 := by
      intro sn si h3 H3 _
      have t3 := RT.of hl (seps_tail (seps_tail H3))
      unfold ref21_Table_Enter_j2
      simp only [pSome_some, add_mk, Nat.zero_add, Nat.add_zero]
      obtain ⟨a, ha, hc⟩ := str_at (oN0 h3 t3) hj
      refine pIdx_i (by omega) (by omega) (t3.ld (s := .slice) (by omega) (by omega) (x := (plx ps dir.toNat).2.1) rfl ?_)
      refine pIdx_i (by omega) (by omega) (pSome_i ha (pLd_i (s := .str) _ hc ?_))
      have e3 : upTo p (i.toNat + 1) = upTo p (i.toNat + 1) - 1 + 1 := by unfold upTo; split <;> omega
      have gN : (insL x.names p name)[upTo p (i.toNat + 1) - 1]? = some x.names[i.toNat] := by
        unfold upTo
        by_cases e : p < i.toNat + 1
        · rw [if_pos e]; exact insL_gt (by omega) hj
        · rw [if_neg e]; exact insL_lt (by omega) ple
      have gI : (insL x.inos p ino)[upTo p (i.toNat + 1) - 1]? = some x.inos[i.toNat] := by
        unfold upTo
        by_cases e : p < i.toNat + 1
        · rw [if_pos e]; exact insL_gt (by omega) hj2
        · rw [if_neg e]; exact insL_lt (by omega) (by omega)
      refine app_str H3 (by rw [List.length_take]; omega) fun s' h4 H4 => ?_
      rw [← take_snoc gN, ← e3] at H4
      have t4 := RT.of hl (seps_tail (seps_tail H4))
      obtain ⟨a2, ha2, hc2⟩ := int_at (oI0 h4 t4) hj2
      refine pIdx_i (by omega) (by omega) (t4.ld (s := .slice) (by omega) (by omega) (x := (plx ps dir.toNat).2.2) rfl ?_)
      refine pIdx_i (by omega) (by omega) (pSome_i ha2 (pLd_i (s := .int .i64) _ hc2 ?_))
      refine app_int (f1 H4) (by rw [List.length_take]; omega) fun s2 h5 H5 => ?_
      rw [← take_snoc gI, ← e3] at H5
      rw [wrap_small (by omega) (by omega)]
      refine hk _ _ ⟨by simp only; omega, by simp only; omega, rfl, ?_⟩ (by simp only; omega)
      simp only
      rw [show (i + 1).toNat = i.toNat + 1 by omega]
      exact f1 H5
    have hdone : ∀ (x26 : Bool), (x26 = true ↔ p = i.toNat) → ref21_Table_Enter_j1 name ino sn si (decide (p < i.toNat)) (fun s => ref21_Table_Enter_j2 (some ⟨b, 0, none⟩) dir kk i s.1 s.2.1 s.2.2.1) x26 h2 := by
      intro x26 hx26
      unfold ref21_Table_Enter_j1
      refine pIf_i (fun he => ?_) (fun he => ?_)
      · have he := hx26.1 he
        have eu : upTo p i.toNat = p := by unfold upTo; rw [if_neg (by omega)]; exact he.symm
        have eu2 : upTo p (i.toNat + 1) - 1 = p + 1 := by unfold upTo; rw [if_pos (by omega)]; omega
        rw [eu] at H2
        refine app_str H2 (by rw [List.length_take]; omega) fun s' h3 H3 => ?_
        rw [← take_snoc (insL_eq ple)] at H3
        refine app_int (f1 H3) (by rw [List.length_take]; omega) fun s2 h4 H4 => ?_
        rw [← take_snoc (insL_eq (by omega))] at H4
        have := rest s' s2 h4 (by rw [eu2]; exact f1 H4) (.inl (by omega))
        rwa [show decide (p < (i + 1).toNat) = true by simp; omega] at this
      · have he : ¬ p = i.toNat := fun e => by have := hx26.2 e; rw [this] at he; cases he
        have eu : upTo p (i.toNat + 1) - 1 = upTo p i.toNat := by unfold upTo; split <;> split <;> omega
        have := rest sn si h2 (by rw [eu]; exact H2) (by omega)
        rwa [show decide (p < (i + 1).toNat) = decide (p < i.toNat) by simp; omega] at this
    by_cases hd2 : p < i.toNat
    · refine pIf_f (by simp [hd2]) (hdone false ⟨fun e => (by cases e), fun e => by omega⟩)
    · refine pIf_t (by simp [hd2]) (pIdx_i (by omega) (by omega) (t2.ld (s := .slice) (by omega) (by omega) (x := (plx ps dir.toNat).2.1) rfl ?_))
      obtain ⟨a, ha, hc⟩ := str_at (oN0 h2 t2) hj
      refine pIdx_i (by omega) (by omega) (pSome_i ha (pLd_i (s := .str) _ hc ?_))
      refine hdone _ ?_
      -- a name that is less comes ahead of it
      show lt name x.names[i.toNat] = true ↔ p = i.toNat
      have h1 := hpos i.toNat hj
      constructor
      · intro e
        by_cases e2 : i.toNat < p
        · rw [decide_eq_true e2] at h1
          have := lt_trans e h1
          rw [lt_irrefl] at this; cases this
        · omega
      · intro e
        rw [e] at h1
        simp only [Nat.lt_irrefl, decide_false] at h1
        refine lt_total h1 ?_
        cases e2 : strEq name x.names[i.toNat] with
        | false => rfl
        | true =>
          have e3 := strEq_iff.1 e2
          have := (pos_of so hj (by rw [← e3, strEq_self])).2
          rw [this] at hw; cases hw
  · refine pIf_f (by rw [ln]; simpa using hlt) ?_
    have hi0 : i.toNat = x.names.length := by omega
    -- the last part
    have last : ∀ (sn si : Sl) (h3 : Heap), seps (own 1 sn (strs (insL x.names p name)) :: own 1 si (ints (insL x.inos p ino)) :: rowP b (ps.flatMap encP) 275 :: (slots ps ++ L)) h3 → ref21_Table_Enter_j4 (some ⟨b, 0, none⟩) dir ino (fgt K) sn si h3 := by
      intro sn si h3 H3
      unfold ref21_Table_Enter_j4 pJoin ref21_Table_Enter_j3
      simp only [pSome_some, add_mk, Nat.zero_add, Nat.add_zero]
      refine pIdx_i (by omega) (by omega) ?_
      refine ref_turn (x := insI x name ino) (n' := sn) (i' := si) hl (i := dir.toNat) (by omega) (d := dir) ⟨by omega, by omega⟩ (by unfold encP; rw [← ex]; rfl) (by rw [eins]; exact H3) fun h4 H4 => ?_
      exact pIdx_i (by omega) (by omega) (ref_link H4 r3 r4 fun h5 H5 => fgt_mk (k h5 H5))
    by_cases hd2 : p < i.toNat
    · have eu : upTo p i.toNat = x.names.length + 1 := by unfold upTo; rw [if_pos hd2, hi0]
      rw [eu, List.take_of_length_le (by omega), List.take_of_length_le (by omega)] at H2
      exact pIf_f (by simp [hd2]) (last _ _ _ H2)
    · have eu : upTo p i.toNat = p := by unfold upTo; rw [if_neg hd2]; omega
      rw [eu] at H2
      refine pIf_t (by simp [hd2]) ?_
      refine app_str H2 (by rw [List.length_take]; omega) fun s' h3 H3 => ?_
      rw [← take_snoc (insL_eq ple), List.take_of_length_le (by omega)] at H3
      refine app_int (f1 H3) (by rw [List.length_take]; omega) fun s2 h4 H4 => ?_
      rw [← take_snoc (insL_eq (by omega)), List.take_of_length_le (by omega)] at H4
      exact last _ _ _ (f1 H4)
end Go.Proofs.YtkbcneomjkfheaaDoor

set_option linter.unusedVariables false
set_option linter.unusedSimpArgs false
namespace Go.Proofs.YtkbcneomjkfheaaDoor
open Go.Hl
attribute [local irreducible] loadF zc sizeP bytesP vcBody pInvoke

def downTo (p i : Nat) : Nat := if p < i then i - 1 else i
theorem erase_lt {α : Type} {l : List α} {p i : Nat} (hi : i < p) (hp : p < l.length) : (l.eraseIdx p)[i]? = some (l[i]'(by omega)) := by
  rw [List.getElem?_eraseIdx, if_pos hi, List.getElem?_eq_getElem]
theorem erase_gt {α : Type} {l : List α} {p i : Nat} (hi : p < i) (hl : i < l.length) : (l.eraseIdx p)[i - 1]? = some l[i] := by
  rw [List.getElem?_eraseIdx, if_neg (by omega), show i - 1 + 1 = i by omega, List.getElem?_eq_getElem hl]

theorem refLeave_s {b : Nat} {T : List Ind} {L : List Pr} {h : Heap} (H : seps (refP b T :: L) h) (v : Inv T) {dir : Int} {name : ByteArray} {KP K : Value → Pr} (k : ∀ h', seps (refP b (leaveF T dir name).1 :: L) h' → K (.tuple #[.int .i64 (leaveF T dir name).2.1, .int .i64 (leaveF T dir name).2.2]) h') :
    WpCall Tryd.prog 56 #[.pointer (some ⟨b, 0, none⟩), .int .i64 dir, .string name] KP K h := by
  refine ref21_Table_Leave_call (some ⟨b, 0, none⟩) dir name ?_
  unfold ref21_Table_Leave
  refine refHas_s H ⟨_, rfl, ?_⟩
  unfold leaveF at k
  by_cases hd : hasB T dir = true
  case neg =>
    simp only [hd, if_false, Bool.false_eq_true] at k ⊢
    exact pIf_t rfl (fgt_mk (k h H))
  simp only [hd, if_true] at k ⊢
  obtain ⟨r1, r2⟩ := hasB_range hd
  simp only [pSome_some, add_mk, Nat.zero_add, Nat.add_zero]
  refine pIf_f rfl (pIdx_i (by omega) (by omega) (ref_ld H (s := .int .i64) (by omega) (by omega) (x := (T.getD dir.toNat default).kind) (fun _ _ => rfl) ?_))
  refine pIf_i (fun hq => ?_) (fun hq => ?_)
  · have hq : ¬ (T.getD dir.toNat default).kind = 2 := by simpa using hq
    simp only [hq, if_false] at k
    exact fgt_mk (k h H)
  have hq : (T.getD dir.toNat default).kind = 2 := by simpa using hq
  simp only [hq, if_true] at k
  refine refFind_s H v ⟨_, rfl, ?_⟩
  dsimp only
  have fp := find_pos v (name := name) hd hq
  have ef : (findF T dir name).getD 0 = if thereB (T.getD dir.toNat default).names name = true then (T.getD dir.toNat default).inos.getD (pos (T.getD dir.toNat default).names name) 0 else 0 := by
    unfold findF; simp only [hd, hq, if_true]; split <;> rfl
  by_cases hw : thereB (T.getD dir.toNat default).names name = true
  case neg =>
    have hw : thereB (T.getD dir.toNat default).names name = false := by simpa using hw
    simp only [hw, if_false, Bool.false_eq_true] at k ef
    rw [ef]
    exact pIf_t rfl (fgt_mk (k h H))
  simp only [hw, if_true] at k ef
  rw [ef] at fp ⊢
  have hne : ¬ (T.getD dir.toNat default).inos.getD (pos (T.getD dir.toNat default).names name) 0 = 0 := by
    have := of_decide_eq_true (fp.trans hw); omega
  have hin : ∃ hi : pos (T.getD dir.toNat default).names name < (T.getD dir.toNat default).names.length, strEq (T.getD dir.toNat default).names[pos (T.getD dir.toNat default).names name] name = true := by unfold thereB at hw; exact of_decide_eq_true hw
  obtain ⟨ps, hl, et, H'⟩ := ref_open H
  have t := RT.of hl H'
  have ex : T.getD dir.toNat default = (plx ps dir.toNat).1 := by rw [← et, plx_fst]
  obtain ⟨so, il⟩ := v.fine dir.toNat
  have sm := v.small dir.toNat
  have oN0 : ∀ h', RT h' b ps → Has 1 h' (plx ps dir.toNat).2.1 (strs (T.getD dir.toNat default).names) := fun h' t => by rw [ex]; exact t.names _ (by omega)
  have oI0 : ∀ h', RT h' b ps → Has 1 h' (plx ps dir.toNat).2.2 (ints (T.getD dir.toNat default).inos) := fun h' t => by rw [ex]; exact t.inos _ (by omega)
  have ln : (plx ps dir.toNat).2.1.len = (T.getD dir.toNat default).names.length := by have := (oN0 h t).len; rw [strs_len] at this; exact this
  have li : (plx ps dir.toNat).2.2.len = (T.getD dir.toNat default).inos.length := by have := (oI0 h t).len; rw [ints_len] at this; exact this
  unfold leaveOk at k
  have hpu : ∀ j (hj : j < (T.getD dir.toNat default).names.length), strEq (T.getD dir.toNat default).names[j] name = true → j = pos (T.getD dir.toNat default).names name := fun j hj e => (pos_of so hj e).1.symm
  generalize (T.getD dir.toNat default).inos.getD (pos (T.getD dir.toNat default).names name) 0 = ino at *
  have eT : T.set dir.toNat = (ps.map (·.1)).set dir.toNat := by rw [et]
  generalize hx : T.getD dir.toNat default = x at *
  generalize hp : pos x.names name = p at *
  obtain ⟨hpl, hpe⟩ := hin
  refine pIf_f (by simpa using hne) ?_
  refine pLoop_rule (fun (s : Sl × Sl × Int × Unit) h' => 0 ≤ s.2.2.1 ∧ s.2.2.1 ≤ x.names.length ∧
    seps (own 1 s.1 (strs ((x.names.eraseIdx p).take (downTo p s.2.2.1.toNat))) :: own 1 s.2.1 (ints ((x.inos.eraseIdx p).take (downTo p s.2.2.1.toNat))) :: rowP b (ps.flatMap encP) 275 :: (slots ps ++ L)) h') (fun s => (x.names.length - s.2.2.1).toNat) ?_ ?_
  rotate_left
  · refine ⟨?_, ?_, ?_⟩
    · show (0 : Int) ≤ 0; omega
    · show (0 : Int) ≤ _; omega
    · exact own_nil (own_nil H')
  rintro ⟨sn, si, i, ⟨⟩⟩ h2 kk ⟨q1, q2, H2⟩ hk
  simp only at q1 q2 H2 hk ⊢
  have t2 := RT.of hl (seps_tail (seps_tail H2))
  unfold ref21_Table_Leave_l3 pJoin ref21_Table_Leave_j1
  simp only [pSome_some, add_mk, Nat.zero_add, Nat.add_zero]
  refine pIdx_i (by omega) (by omega) (t2.ld (s := .slice) (by omega) (by omega) (x := (plx ps dir.toNat).2.1) rfl ?_)
  by_cases hlt : i < x.names.length
  · refine pIf_t (by rw [ln]; simpa using hlt) ?_
    have hj : i.toNat < x.names.length := by omega
    have hj2 : i.toNat < x.inos.length := by omega
    obtain ⟨a, ha, hc⟩ := str_at (oN0 h2 t2) hj
    refine pIdx_i (by omega) (by omega) (t2.ld (s := .slice) (by omega) (by omega) (x := (plx ps dir.toNat).2.1) rfl ?_)
    refine pIdx_i (by omega) (by omega) (pSome_i ha (pLd_i (s := .str) _ hc ?_))
    have step : ∀ (sn si : Sl) (h3 : Heap), seps (own 1 sn (strs ((x.names.eraseIdx p).take (downTo p (i.toNat + 1)))) :: own 1 si (ints ((x.inos.eraseIdx p).take (downTo p (i.toNat + 1)))) :: rowP b (ps.flatMap encP) 275 :: (slots ps ++ L)) h3 → kk (sn, si, IntKind.i64.wrap (i + 1), ()) h3 := by
      intro sn si h3 H3
      rw [wrap_small (by omega) (by omega)]
      refine hk _ _ ⟨by simp only; omega, by simp only; omega, ?_⟩ (by simp only; omega)
      simp only
      rw [show (i + 1).toNat = i.toNat + 1 by omega]
      exact H3
    by_cases he : i.toNat = p
    · refine pIf_f (by subst he; rw [hpe]; rfl) (step sn si h2 ?_)
      rw [show downTo p (i.toNat + 1) = downTo p i.toNat by unfold downTo; rw [if_pos (by omega), if_neg (by omega)]; omega]
      exact H2
    · have hne2 : strEq x.names[i.toNat] name = false := by
        cases e : strEq x.names[i.toNat] name with
        | false => rfl
        | true => exact absurd (hpu _ hj e) he
      refine pIf_t (by rw [hne2]; rfl) ?_
      refine pIdx_i (by omega) (by omega) (t2.ld (s := .slice) (by omega) (by omega) (x := (plx ps dir.toNat).2.1) rfl ?_)
      refine pIdx_i (by omega) (by omega) (pSome_i ha (pLd_i (s := .str) _ hc ?_))
      have lN : (x.names.eraseIdx p).length ≤ x.names.length := (List.eraseIdx_sublist ..).length_le
      have lI : (x.inos.eraseIdx p).length ≤ x.inos.length := (List.eraseIdx_sublist ..).length_le
      have e3 : downTo p (i.toNat + 1) = downTo p i.toNat + 1 := by unfold downTo; split <;> split <;> omega
      have gN : (x.names.eraseIdx p)[downTo p i.toNat]? = some x.names[i.toNat] := by
        unfold downTo
        by_cases e : p < i.toNat
        · rw [if_pos e]; exact erase_gt e hj
        · rw [if_neg e]; exact erase_lt (by omega) hpl
      have gI : (x.inos.eraseIdx p)[downTo p i.toNat]? = some x.inos[i.toNat] := by
        unfold downTo
        by_cases e : p < i.toNat
        · rw [if_pos e]; exact erase_gt e hj2
        · rw [if_neg e]; exact erase_lt (by omega) (by omega)
      refine app_str H2 (by rw [List.length_take]; omega) fun s' h4 H4 => ?_
      rw [← take_snoc gN, ← e3] at H4
      have t4 := RT.of hl (seps_tail (seps_tail H4))
      obtain ⟨a2, ha2, hc2⟩ := int_at (oI0 h4 t4) hj2
      refine pIdx_i (by omega) (by omega) (t4.ld (s := .slice) (by omega) (by omega) (x := (plx ps dir.toNat).2.2) rfl ?_)
      refine pIdx_i (by omega) (by omega) (pSome_i ha2 (pLd_i (s := .int .i64) _ hc2 ?_))
      refine app_int (f1 H4) (by rw [List.length_take]; omega) fun s2 h5 H5 => ?_
      rw [← take_snoc gI, ← e3] at H5
      exact step _ _ _ (f1 H5)
  · refine pIf_f (by rw [ln]; simpa using hlt) ?_
    have hi0 : i.toNat = x.names.length := by omega
    have eu : downTo p i.toNat = x.names.length - 1 := by unfold downTo; rw [if_pos (by omega), hi0]
    have lN : (x.names.eraseIdx p).length = x.names.length - 1 := by rw [List.length_eraseIdx, if_pos hpl]
    have lI : (x.inos.eraseIdx p).length = x.inos.length - 1 := by rw [List.length_eraseIdx, if_pos (by omega)]
    rw [eu, List.take_of_length_le (by omega), List.take_of_length_le (by omega)] at H2
    refine pIdx_i (by omega) (by omega) ?_
    rw [eT] at k
    refine ref_turn (x := delI x p) (n' := sn) (i' := si) hl (i := dir.toNat) (by omega) (d := dir) ⟨by omega, by omega⟩ (by unfold encP; rw [← ex]; rfl) H2 fun h4 H4 => ?_
    refine refHas_s H4 ⟨_, rfl, ?_⟩
    unfold ref21_Table_Leave_j2
    by_cases hi : hasB ((ps.map (·.1)).set dir.toNat (delI x p)) ino = true
    · obtain ⟨r3, r4⟩ := hasB_range hi
      simp only [hi, if_true] at k ⊢
      refine pIf_t rfl (pIdx_i (by omega) (by omega) (ref_ld H4 (s := .int .i64) (by omega) (by omega) (x := (((ps.map (·.1)).set dir.toNat (delI x p)).getD ino.toNat default).links) (fun _ _ => rfl) ?_))
      refine pIdx_i (by omega) (by omega) (ref_put H4 (i := ino.toNat) (k := 6) (by omega) (by omega) (x := unlinkI (((ps.map (·.1)).set dir.toNat (delI x p)).getD ino.toNat default)) (fun _ _ => rfl) rfl rfl rfl fun h5 H5 => fgt_mk (k h5 H5))
    · simp only [hi, if_false, Bool.false_eq_true] at k ⊢
      exact pIf_f rfl (fgt_mk (k h4 H4))
end Go.Proofs.YtkbcneomjkfheaaDoor

set_option linter.unusedVariables false
set_option linter.unusedSimpArgs false
namespace Go.Proofs.YtkbcneomjkfheaaDoor
open Go.Hl
attribute [local irreducible] loadF zc sizeP bytesP vcBody pInvoke

/-- A slice's strings, whole numbers are read. -/
def Strs (h : Heap) (s : Sl) (l : List ByteArray) : Prop := s.len = l.length ∧ ∀ j (hj : j < l.length), ∃ a, s.base = some a ∧ h.cell (a.add (j * 1)) = some (.string l[j])
def Ints (h : Heap) (s : Sl) (l : List Int) : Prop := s.len = l.length ∧ ∀ j (hj : j < l.length), ∃ a, s.base = some a ∧ h.cell (a.add (j * 1)) = some (.int .i64 l[j])
theorem Strs.of {h : Heap} {s : Sl} {l : List ByteArray} (o : Has 1 h s (strs l)) : Strs h s l := ⟨by have := o.len; rw [strs_len] at this; exact this, fun j hj => str_at o hj⟩
theorem Ints.of {h : Heap} {s : Sl} {l : List Int} (o : Has 1 h s (ints l)) : Ints h s l := ⟨by have := o.len; rw [ints_len] at this; exact this, fun j hj => int_at o hj⟩
theorem Strs.le {h h' : Heap} {s : Sl} {l : List ByteArray} (t : Strs h s l) (e : Heap.le h h') : Strs h' s l := ⟨t.1, fun j hj => by obtain ⟨a, h1, h2⟩ := t.2 j hj; exact ⟨a, h1, cell_le e h2⟩⟩
theorem Ints.le {h h' : Heap} {s : Sl} {l : List Int} (t : Ints h s l) (e : Heap.le h h') : Ints h' s l := ⟨t.1, fun j hj => by obtain ⟨a, h1, h2⟩ := t.2 j hj; exact ⟨a, h1, cell_le e h2⟩⟩

/-- Inodes that are read. -/
structure Told (h : Heap) (s : Sl) (ps : List Pl) : Prop where
  len : s.len = ps.length
  cells : s.vals 11 h (ps.flatMap encP)
  names : ∀ i (hi : i < ps.length), Strs h ps[i].2.1 ps[i].1.names
  inos : ∀ i (hi : i < ps.length), Ints h ps[i].2.2 ps[i].1.inos
theorem Told.le {h h' : Heap} {s : Sl} {ps : List Pl} (t : Told h s ps) (e : Heap.le h h') : Told h' s ps :=
  ⟨t.len, Sl.vals_le e t.cells, fun i hi => (t.names i hi).le e, fun i hi => (t.inos i hi).le e⟩
theorem inds_told {s : Sl} {l : List Ind} {L : List Pr} {h : Heap} (H : seps (indsP s l :: L) h) : ∃ ps : List Pl, ps.map (·.1) = l ∧ Told h s ps := by
  obtain ⟨g1, g2, d, l1, l2, ⟨ps, e, H1⟩, r⟩ := H
  have H2 := seps_mono H1 l1
  refine ⟨ps, e, ?_, (own_at H2).vals, fun i hi => ?_, fun i hi => ?_⟩
  · have := (own_at H2).1
    rw [flat_len encP 11 encP_len] at this; omega
  · have := (slots_vals hi (L := []) (by rw [List.append_nil]; exact seps_tail H2)).1
    unfold plx at this; rw [getD_lt hi] at this
    exact Strs.of this
  · have := (slots_vals hi (L := []) (by rw [List.append_nil]; exact seps_tail H2)).2
    unfold plx at this; rw [getD_lt hi] at this
    exact Ints.of this

end Go.Proofs.YtkbcneomjkfheaaDoor

set_option linter.unusedVariables false
set_option linter.unusedSimpArgs false
namespace Go.Proofs.YtkbcneomjkfheaaDoor
open Go.Hl
attribute [local irreducible] loadF zc sizeP bytesP vcBody pInvoke

/-- An op. -/
structure Op where
  kind : Int
  a : Int
  b : Int
  c : Int
  d : Int
  s : ByteArray
def Op.enc (o : Op) : List Value := [.int .u8 o.kind, .int .i64 o.a, .int .i64 o.b, .int .i64 o.c, .int .i64 o.d, .string o.s]
theorem Op.len (o : Op) : o.enc.length = 6 := rfl
/-- What an op does to a table. -/
def doF (T : List Ind) (o : Op) : List Ind :=
  if o.kind.tmod 6 = 0 then (addF T o.a o.b o.c o.d).1
  else if o.kind.tmod 6 = 1 then (freeF T o.a).1
  else if o.kind.tmod 6 = 2 then (enterF T o.a o.s o.b).1
  else if o.kind.tmod 6 = 3 then (leaveF T o.a o.s).1
  else if o.kind.tmod 6 = 4 then (writeF T o.a o.s).1
  else (ownF T o.a o.b o.c o.d).1

theorem fin3 {p q r : Pr} {L : List Pr} {h : Heap} (H : seps (q :: p :: r :: L) h) : seps (p :: q :: L) h := seps_under (fun _ H => seps_under (fun _ H => seps_tail H) H) (f1 H)
theorem do_s {bt bw : Nat} {T : List Ind} {L : List Pr} {h : Heap} (H : seps (progP bt T :: refP bw T :: L) h) (o : Op) {KP K : Value → Pr} (k : ∀ h', seps (progP bt (doF T o) :: refP bw (doF T o) :: L) h' → K (.bool true) h') :
    WpCall Tryd.prog 32 #[.pointer (some ⟨bt, 0, none⟩), .pointer (some ⟨bw, 0, none⟩), .agg o.enc.toArray] KP K h := by
  have v := prog_inv H
  refine law21_Do_call (some ⟨bt, 0, none⟩) (some ⟨bw, 0, none⟩) o.enc ?_
  unfold law21_Do
  intro b1 hb1
  have H1 := new_row (cs := o.enc) (n := o.enc.length) H hb1
  generalize h.set b1 _ = h1 at H1 ⊢
  clear hb1
  simp only [add_mk, Nat.zero_add, Nat.add_zero]
  have ld : ∀ {s : Shape} {i : Nat} {x : s.T} {q : s.T → Pr} {h' : Heap}, h' b1 = some (.row o.enc o.enc.length) → o.enc[i]? = some (s.inj x) → q x h' → pLd s ⟨b1, i, none⟩ q h' := fun hb he hq => ld_b hb he hq
  refine ld (s := .int .u8) (row_at H1) (x := o.kind) rfl (pAssert_i (by decide) ?_)
  unfold doF at k
  have beq_tt : ∀ z : Int, (z == z) = true := fun z => by simp
  refine pIf_i (fun e0 => ?_) (fun e0 => ?_)
  · have e0 : o.kind.tmod 6 = 0 := by simpa using e0
    rw [if_pos e0] at k
    refine ld (s := .int .i64) (row_at H1) (x := o.a) rfl (ld (s := .int .i64) (row_at H1) (x := o.b) rfl (ld (s := .int .i64) (row_at H1) (x := o.c) rfl (ld (s := .int .i64) (row_at H1) (x := o.d) rfl ?_)))
    refine add_s (f1 H1) fun h2 H2 => ⟨((addF T o.a o.b o.c o.d).2.1, (addF T o.a o.b o.c o.d).2.2, ()), rfl, ?_⟩
    have r := row_at (f1 H2)
    refine ld (s := .int .i64) r (x := o.a) rfl (ld (s := .int .i64) r (x := o.b) rfl (ld (s := .int .i64) r (x := o.c) rfl (ld (s := .int .i64) r (x := o.d) rfl ?_)))
    refine refAdd_s (f2 H2) fun h3 H3 => ⟨((addF T o.a o.b o.c o.d).2.1, (addF T o.a o.b o.c o.d).2.2, ()), rfl, ?_⟩
    unfold pJoin law21_Do_j1
    refine pIf_t (beq_tt _) ?_
    dsimp only
    rw [beq_tt]
    exact fgt_mk (k h3 (fin3 H3))
  have e0 : ¬ o.kind.tmod 6 = 0 := by simpa using e0
  rw [if_neg e0] at k
  refine pIf_i (fun e1 => ?_) (fun e1 => ?_)
  · have e1 : o.kind.tmod 6 = 1 := by simpa using e1
    rw [if_pos e1] at k
    refine ld (s := .int .i64) (row_at H1) (x := o.a) rfl (ld (s := .int .i64) (row_at H1) (x := o.a) rfl ?_)
    refine free_s (f1 H1) fun h2 H2 => ⟨_, rfl, ?_⟩
    refine keep_cell (.int .i64) (by kernel_rfl) (by decide) (row_at (f1 H2)) rfl ?_
    refine refFree_s (f2 H2) fun h3 H3 => ⟨_, rfl, ?_⟩
    dsimp only
    rw [beq_tt]
    exact fgt_mk (k h3 (fin3 H3))
  have e1 : ¬ o.kind.tmod 6 = 1 := by simpa using e1
  rw [if_neg e1] at k
  refine pIf_i (fun e2 => ?_) (fun e2 => ?_)
  · have e2 : o.kind.tmod 6 = 2 := by simpa using e2
    rw [if_pos e2] at k
    refine ld (s := .int .i64) (row_at H1) (x := o.a) rfl (ld (s := .str) (row_at H1) (x := o.s) rfl (ld (s := .int .i64) (row_at H1) (x := o.b) rfl ?_))
    refine ld (s := .int .i64) (row_at H1) (x := o.a) rfl (ld (s := .str) (row_at H1) (x := o.s) rfl (ld (s := .int .i64) (row_at H1) (x := o.b) rfl ?_))
    refine enter_s (f1 H1) fun h2 H2 => ⟨_, rfl, ?_⟩
    refine keep_cell (.int .i64) (by kernel_rfl) (by decide) (row_at (f1 H2)) rfl (keep_cell .str (by kernel_rfl) (by decide) (row_at (f1 H2)) rfl (keep_cell (.int .i64) (by kernel_rfl) (by decide) (row_at (f1 H2)) rfl ?_))
    refine refEnter_s (f2 H2) v fun h3 H3 => ⟨_, rfl, ?_⟩
    dsimp only
    rw [beq_tt]
    exact fgt_mk (k h3 (fin3 H3))
  have e2 : ¬ o.kind.tmod 6 = 2 := by simpa using e2
  rw [if_neg e2] at k
  refine pIf_i (fun e3 => ?_) (fun e3 => ?_)
  · have e3 : o.kind.tmod 6 = 3 := by simpa using e3
    rw [if_pos e3] at k
    refine ld (s := .int .i64) (row_at H1) (x := o.a) rfl (ld (s := .str) (row_at H1) (x := o.s) rfl ?_)
    refine leave_s (f1 H1) fun h2 H2 => ⟨((leaveF T o.a o.s).2.1, (leaveF T o.a o.s).2.2, ()), rfl, ?_⟩
    have r := row_at (f1 H2)
    refine ld (s := .int .i64) r (x := o.a) rfl (ld (s := .str) r (x := o.s) rfl ?_)
    refine refLeave_s (f2 H2) v fun h3 H3 => ⟨((leaveF T o.a o.s).2.1, (leaveF T o.a o.s).2.2, ()), rfl, ?_⟩
    unfold pJoin law21_Do_j2
    refine pIf_t (beq_tt _) ?_
    dsimp only
    rw [beq_tt]
    exact fgt_mk (k h3 (fin3 H3))
  have e3 : ¬ o.kind.tmod 6 = 3 := by simpa using e3
  rw [if_neg e3] at k
  refine pIf_i (fun e4 => ?_) (fun e4 => ?_)
  · have e4 : o.kind.tmod 6 = 4 := by simpa using e4
    rw [if_pos e4] at k
    refine ld (s := .int .i64) (row_at H1) (x := o.a) rfl (ld (s := .str) (row_at H1) (x := o.s) rfl ?_)
    refine ld (s := .int .i64) (row_at H1) (x := o.a) rfl (ld (s := .str) (row_at H1) (x := o.s) rfl ?_)
    refine write_s (f1 H1) fun h2 H2 => ⟨_, rfl, ?_⟩
    refine keep_cell .str (by kernel_rfl) (by decide) (row_at (f1 H2)) rfl (keep_cell (.int .i64) (by kernel_rfl) (by decide) (row_at (f1 H2)) rfl ?_)
    refine refWrite_s (f2 H2) fun h3 H3 => ⟨_, rfl, ?_⟩
    dsimp only
    rw [beq_tt]
    exact fgt_mk (k h3 (fin3 H3))
  have e4 : ¬ o.kind.tmod 6 = 4 := by simpa using e4
  rw [if_neg e4] at k
  refine ld (s := .int .i64) (row_at H1) (x := o.a) rfl (ld (s := .int .i64) (row_at H1) (x := o.b) rfl (ld (s := .int .i64) (row_at H1) (x := o.c) rfl (ld (s := .int .i64) (row_at H1) (x := o.d) rfl ?_)))
  refine own_s (f1 H1) fun h2 H2 => ⟨_, rfl, ?_⟩
  refine ld (s := .int .i64) (row_at (f1 H2)) (x := o.a) rfl (refHas_s (f2 H2) ⟨_, rfl, ?_⟩)
  unfold ownF at k H2 ⊢
  by_cases hb : hasB T o.a = true
  · obtain ⟨r1, r2⟩ := hasB_range hb
    have hlT : o.a.toNat < T.length := by rw [v.len]; omega
    simp only [hb, if_true] at k H2 ⊢
    refine pIf_f rfl ?_
    simp only [pSome_some, add_mk, Nat.zero_add]
    refine ld (s := .int .i64) (row_at (f1 H2)) (x := o.a) rfl (ld (s := .int .i64) (row_at (f1 H2)) (x := o.b) rfl (pIdx_i (by omega) (by omega) ?_))
    refine ref_put (f2 H2) (i := o.a.toNat) (k := 3) (by omega) (by omega) (x := { T.getD o.a.toNat default with mode := o.b }) (fun _ _ => rfl) rfl rfl rfl fun h3 H3 => ?_
    refine ld (s := .int .i64) (row_at (f2 H3)) (x := o.a) rfl (ld (s := .int .i64) (row_at (f2 H3)) (x := o.c) rfl (pIdx_i (by omega) (by omega) ?_))
    refine ref_put H3 (i := o.a.toNat) (k := 4) (by omega) (by omega) (x := { T.getD o.a.toNat default with mode := o.b, uid := o.c }) (fun _ _ => by rw [getD_set_self hlT]; rfl) (by rw [getD_set_self hlT]) (by rw [getD_set_self hlT]) rfl fun h4 H4 => ?_
    rw [List.set_set] at H4
    refine ld (s := .int .i64) (row_at (f2 H4)) (x := o.a) rfl (ld (s := .int .i64) (row_at (f2 H4)) (x := o.d) rfl (pIdx_i (by omega) (by omega) ?_))
    refine ref_put H4 (i := o.a.toNat) (k := 5) (by omega) (by omega) (x := { T.getD o.a.toNat default with mode := o.b, uid := o.c, gid := o.d }) (fun _ _ => by rw [getD_set_self hlT]; rfl) (by rw [getD_set_self hlT]) (by rw [getD_set_self hlT]) rfl fun h5 H5 => ?_
    rw [List.set_set] at H5
    exact fgt_mk (k h5 (fin3 H5))
  · simp only [hb, if_false, Bool.false_eq_true] at k H2 ⊢
    exact pIf_t rfl (fgt_mk (k h2 (fin3 (f2 H2))))
end Go.Proofs.YtkbcneomjkfheaaDoor

set_option linter.unusedVariables false
set_option linter.unusedSimpArgs false
namespace Go.Proofs.YtkbcneomjkfheaaDoor
open Go.Hl
attribute [local irreducible] loadF zc sizeP bytesP vcBody pInvoke

/-- A slice whose elements are read one by one. -/
def rdE {α : Type} (enc : α → List Value) (n : Nat) (s : Sl) (l : List α) : Pr := fun h => SlE enc n h s l
theorem rdE_at {α : Type} {enc : α → List Value} {n : Nat} {s : Sl} {l : List α} {L : List Pr} {h : Heap} (H : seps (rdE enc n s l :: L) h) : SlE enc n h s l := seps_fst H fun {_ _} p le => p.le le
theorem seps_one {p : Pr} {h : Heap} (hp : p h) : seps [p] h := ⟨h, fun _ => none, fun _ => .inr (.inl rfl), Heap.le_refl _, fun _ _ e => (by cases e), hp, trivial⟩

theorem allF_small {T : List Ind} (v : Inv T) {ps : List Pl} (e : ps.map (·.1) = allF T) : ps.length < 1000000 ∧ ∀ x ∈ ps, x.1.names.length < 1000000 ∧ x.1.inos.length < 1000000 := by
  have hl : ps.length = (allF T).length := by rw [← e]; simp
  refine ⟨?_, fun x hx => ?_⟩
  · rw [hl]
    have : (allF T).length ≤ (T.drop 1).length := List.length_filter_le ..
    rw [List.length_drop, v.len] at this
    omega
  · have hm : x.1 ∈ allF T := by rw [← e]; exact List.mem_map_of_mem hx
    have hm2 : x.1 ∈ T := List.mem_of_mem_drop (List.mem_filter.1 hm).1
    obtain ⟨i, hi, he⟩ := List.getElem_of_mem hm2
    have h1 := v.small i; have h2 := (v.fine i).2
    rw [getD_lt hi, he] at h1 h2
    omega

/-- What was kept. -/
def kept (c : Option Addr) (was : Sl) : Pr := fun h => c = none ∨ ∃ bc Tc, c = some ⟨bc, 0, none⟩ ∧ seps [progP bc Tc, indsP was (allF Tc)] h

theorem findF_ref {T : List Ind} (v : Inv T) (dir : Int) (name : ByteArray) : (findF T dir name).isSome = decide ((findF T dir name).getD 0 > 0) := by
  by_cases hb : hasB T dir = true
  · by_cases hk : (T.getD dir.toNat default).kind = 2
    · rw [find_pos v hb hk]
      unfold findF
      simp only [hb, hk, if_true]
      split
      · rename_i h; rw [h]; rfl
      · rename_i h
        have h : thereB (T.getD dir.toNat default).names name = false := by simpa using h
        rw [h]; rfl
    · unfold findF
      simp only [hb, hk, if_true, if_false]; rfl
  · unfold findF
    simp only [hb, if_false, Bool.false_eq_true]; rfl

end Go.Proofs.YtkbcneomjkfheaaDoor

set_option linter.unusedVariables false
set_option linter.unusedSimpArgs false
namespace Go.Proofs.YtkbcneomjkfheaaDoor
open Go.Hl
attribute [local irreducible] loadF zc sizeP bytesP vcBody pInvoke

/-- A cell of a slice that has its block alone is written. -/
theorem own_put {h : Heap} {s : Sl} {xs : List Value} {L : List Pr} (H : seps (own 1 s xs :: L) h) {i : Nat} (hi : i < xs.length) {v : Value} (h1 : v.oneCell' = true) :
    ∃ a, s.base = some a ∧ ∀ {q : Pr}, (∀ h', seps (own 1 s (xs.set i v) :: L) h' → q h') → pSt (a.add (i * 1)) v q h := by
  have o := own_at H
  obtain ⟨hl, hc, ⟨e1, e2, e3⟩ | ⟨b, rest, tot, e1, e3, e4⟩⟩ := o
  · omega
  · refine ⟨_, e1, fun {q} hq => ?_⟩
    rw [Nat.mul_one, add_mk, Nat.zero_add]
    refine st_b e3 (by simp; omega) h1 (hq _ ?_)
    refine own_step H (Upd.set (.inl ⟨_, e1, rfl⟩)) ⟨by simpa using hl, hc, .inr ⟨b, rest, tot, e1, ?_, e4⟩⟩ (fun b hb => .inl hb)
    rw [Heap.set_same, List.set_append_left _ _ hi]

theorem strs_put (l : List ByteArray) (i : Nat) (x : ByteArray) : (strs l).set i (.string x) = strs (l.set i x) := by simp [strs, List.map_set]
theorem ints_put (l : List Int) (i : Nat) (x : Int) : (ints l).set i (.int .i64 x) = ints (l.set i x) := by simp [ints, List.map_set]

/-- A place of what was told is written over. -/
def over1 (p : Pl) (k : Nat) (s : ByteArray) : Pl := ({ p.1 with names := p.1.names.set k s, inos := p.1.inos.set k 77 }, p.2)
theorem over1_enc (p : Pl) (k : Nat) (s : ByteArray) : encP (over1 p k s) = encP p := rfl
theorem enc_over {ps : List Pl} {i k : Nat} (hi : i < ps.length) (s : ByteArray) : (ps.set i (over1 (plx ps i) k s)).flatMap encP = ps.flatMap encP := by
  rw [← ref_splice hi (over1 (plx ps i) k s), over1_enc]
  have e := flat_split encP 11 encP_len ps i hi
  have : encP (plx ps i) = encP ps[i] := by unfold plx; rw [getD_lt hi]
  rw [this, e]
  exact splice_mid (by rw [flat_len encP 11 encP_len, List.length_take]; congr 1; omega) rfl

end Go.Proofs.YtkbcneomjkfheaaDoor
