/- Texts of this proof, part I: parts of it in the order in which they build. -/
import Derived.Test.YtkbcneomjkfheaaDoorW
import Derived.Test.YtkbcneomjkfheaaDoorH2
set_option linter.unusedVariables false
set_option linter.unusedSimpArgs false
namespace Go.Proofs.YtkbcneomjkfheaaDoor
open Go.Hl
attribute [local irreducible] loadF zc sizeP bytesP vcBody

theorem zc_str : zc Tryd.prog 9 = [.string ⟨#[]⟩] := by kernel_rfl
theorem zc_int : zc Tryd.prog 3 = [.int .i64 0] := by kernel_rfl

theorem ext_str : IsExtern Tryd.prog 39 (Extern.SlicesOverlaps.overlaps #[22, 22] #[4]) :=
  ⟨fun args w => run_callFunc_extern Tryd.func39 (by kernel_rfl) (by kernel_rfl) (by kernel_rfl) (by kernel_rfl) args w⟩
theorem ov_str_5 : Tryd.prog.underlying 22 = some (.slice 9) := by kernel_rfl
theorem ov_str_6 (w : World) : (Go.sizeOf 9).run Tryd.prog w = .ok 1 w := by kernel_rfl
theorem overlaps_str {h : Heap} {a b : Addr} {la ca lb cb : Nat} {ra rb : List Value} {ta tb : Nat} (ha : h a.block = some (.row ra ta)) (hb : h b.block = some (.row rb tb)) (hne : a.block ≠ b.block) (h0 : tb ≠ 0) {KP K : Value → Pr} (k : K (.bool false) h) :
    WpCall Tryd.prog 39 #[.slice (some a) la ca, .slice (some b) lb cb] KP K h := by
  refine ext_str.call (fun w r => ?_) k
  obtain ⟨t1, s1⟩ := r.shape ha
  obtain ⟨t2, s2⟩ := r.shape hb
  exact Go.Lib.run_overlaps_apart (P := Tryd.prog) w 22 4 9 ov_str_5 1 ov_str_6 a b la ca lb cb hne t1 t2 ta tb s1 s2 h0 (r.frozen ha rfl) (r.frozen ha rfl)
theorem ext_int : IsExtern Tryd.prog 41 (Extern.SlicesOverlaps.overlaps #[23, 23] #[4]) :=
  ⟨fun args w => run_callFunc_extern Tryd.func41 (by kernel_rfl) (by kernel_rfl) (by kernel_rfl) (by kernel_rfl) args w⟩
theorem ov_int_5 : Tryd.prog.underlying 23 = some (.slice 3) := by kernel_rfl
theorem ov_int_6 (w : World) : (Go.sizeOf 3).run Tryd.prog w = .ok 1 w := by kernel_rfl
theorem overlaps_int {h : Heap} {a b : Addr} {la ca lb cb : Nat} {ra rb : List Value} {ta tb : Nat} (ha : h a.block = some (.row ra ta)) (hb : h b.block = some (.row rb tb)) (hne : a.block ≠ b.block) (h0 : tb ≠ 0) {KP K : Value → Pr} (k : K (.bool false) h) :
    WpCall Tryd.prog 41 #[.slice (some a) la ca, .slice (some b) lb cb] KP K h := by
  refine ext_int.call (fun w r => ?_) k
  obtain ⟨t1, s1⟩ := r.shape ha
  obtain ⟨t2, s2⟩ := r.shape hb
  exact Go.Lib.run_overlaps_apart (P := Tryd.prog) w 23 4 3 ov_int_5 1 ov_int_6 a b la ca lb cb hne t1 t2 ta tb s1 s2 h0 (r.frozen ha rfl) (r.frozen ha rfl)
end Go.Proofs.YtkbcneomjkfheaaDoor

set_option linter.unusedVariables false
set_option linter.unusedSimpArgs false
namespace Go.Proofs.YtkbcneomjkfheaaDoor
open Go.Hl
attribute [local irreducible] loadF zc sizeP bytesP vcBody

theorem splice_mid {a b c vs : List Value} {o : Nat} (ha : a.length = o) (hb : b.length = vs.length) : splice (a ++ (b ++ c)) o vs = a ++ (vs ++ c) := by
  subst ha
  unfold splice
  rw [List.take_left, List.drop_append, List.drop_append]
  simp only [Nat.add_sub_cancel_left]
  rw [List.drop_of_length_le (l := a) (by omega), List.drop_of_length_le (l := b) (by omega), hb]
  simp
theorem splice_tail {a b vs : List Value} {o : Nat} (ha : a.length = o) (hb : b.length ≤ vs.length) : splice (a ++ b) o vs = a ++ vs := by
  subst ha
  unfold splice
  rw [List.take_left, List.drop_of_length_le (by simp; omega)]
  simp
theorem ins_move (xs rest : List Value) (x : Value) (i : Nat) (hi : i < xs.length) :
    splice (splice (xs ++ rest) (i + 1) (xs.drop i)) i [x] = (xs.take i ++ x :: xs.drop i) ++ rest.drop 1 := by
  have h0 : xs ++ rest = xs.take (i + 1) ++ (xs.drop (i + 1) ++ rest) := by rw [← List.append_assoc, List.take_append_drop]
  have h1 : (xs.take (i + 1)).length = i + 1 := by simp; omega
  have h2 : splice (xs ++ rest) (i + 1) (xs.drop i) = xs.take (i + 1) ++ (xs.drop i ++ rest.drop 1) := by
    rw [h0]
    cases rest with
    | nil => rw [splice_tail h1 (by simp; omega)]; simp
    | cons r rest =>
      rw [show xs.drop (i + 1) ++ r :: rest = (xs.drop (i + 1) ++ [r]) ++ rest by simp, splice_mid h1 (by simp; omega)]
      simp
  have h3 : xs.take (i + 1) = xs.take i ++ [xs[i]] := by rw [List.take_add_one, List.getElem?_eq_getElem hi]; rfl
  have h4 : (xs.take i).length = i := by simp; omega
  rw [h2, h3, List.append_assoc, splice_mid (b := [xs[i]]) (vs := [x]) h4 rfl]
  simp
theorem ins_new (xs zs : List Value) (x : Value) (i : Nat) (hi : i < xs.length) (hz : zs.length = xs.length + 1 - i) :
    splice (splice (xs.take i ++ zs) i [x]) (i + 1) (xs.drop i) = xs.take i ++ x :: xs.drop i := by
  have h1 : (xs.take i).length = i := by simp; omega
  cases zs with
  | nil => simp at hz; omega
  | cons z zs =>
    rw [show xs.take i ++ z :: zs = xs.take i ++ ([z] ++ zs) by rfl, splice_mid (b := [z]) (vs := [x]) h1 rfl, ← List.append_assoc]
    rw [splice_tail (by simp; omega) (by simp at hz ⊢; omega)]
    simp
theorem oneCells_take {xs : List Value} (h : oneCells xs) (i : Nat) : oneCells (xs.take i) := fun v hv => h v (List.mem_of_mem_take hv)
theorem oneCells_drop {xs : List Value} (h : oneCells xs) (i : Nat) : oneCells (xs.drop i) := fun v hv => h v (List.mem_of_mem_drop hv)
theorem cut_drop (xs rest : List Value) (i : Nat) (hi : i ≤ xs.length) : cut (xs ++ rest) i (xs.length - i) = some (xs.drop i) := by
  unfold cut
  rw [if_pos (by simp; omega), List.drop_append_of_le_length hi, List.take_append_of_le_length (by simp), List.take_of_length_le (by simp)]
theorem cut_take (xs rest : List Value) (i : Nat) (hi : i ≤ xs.length) : cut (xs ++ rest) 0 i = some (xs.take i) := by
  unfold cut
  rw [if_pos (by simp; omega), List.drop_zero, List.take_append_of_le_length hi]

theorem insert_str {h : Heap} {s : Sl} {xs : List Value} {x : Value} {i bv : Nat} (o : Has 1 h s xs) (hi : i ≤ xs.length) (hv : h bv = some (.row [x] 1)) (hne : ¬ blk s bv) (h1 : oneCells xs) (hx : x.oneCell' = true) (hl : xs.length < 1000000000) {KP K : Value → Pr}
    (k : ∀ s' h', Upd (blk s) h h' → Has 1 h' s' (xs.take i ++ x :: xs.drop i) → (∀ b, blk s' b → blk s b ∨ h b = none) → K (.slice s'.base s'.len s'.cap) h') :
    WpCall Tryd.prog 24 #[.slice s.base s.len s.cap, .int .i64 i, .slice (some ⟨bv, 0, none⟩) 1 1] KP K h := by
  have hlen := o.len
  have hvx : Sl.vals 1 ⟨some ⟨bv, 0, none⟩, 1, 1⟩ h [x] := by unfold Sl.vals; simp only; rw [vals_row hv]; rfl
  have hox : oneCells [x] := fun v hv => by simp at hv; subst hv; exact hx
  have wr : ∀ n : Nat, n < 2000000000 → IntKind.i64.wrap (n : Int) = n := fun n hn => wrap_small (by omega) (by omega)
  refine slices_Insert_string_string_call s i ⟨some ⟨bv, 0, none⟩, 1, 1⟩ ?_
  unfold slices_Insert_string_string
  refine pAssert_i ⟨by omega, by omega, by have := o.2.1; omega⟩ (pIf_f rfl ?_)
  refine pIf_i (fun e => ?_) (fun e => ?_)
  · have e : i = xs.length := by simp at e; omega
    subst e
    refine append_has (bytes := 16) o hvx (show (s.len + 1) * 16 ≤ 140737488355328 by omega) hox fun s' h' u o' hs hl' => ?_
    refine fgt_mk (k s' h' u ?_ hs)
    simpa using o'
  · have e : i < xs.length := by simp at e; omega
    have hi1 : (i : Int) + ((1 : Nat) : Int) = ((i + 1 : Nat) : Int) := by omega
    have hn1 : (s.len : Int) + ((1 : Nat) : Int) = ((s.len + 1 : Nat) : Int) := by omega
    simp only [hi1, hn1, wr (i + 1) (by omega), wr (s.len + 1) (by omega), Int.toNat_zero, Int.toNat_natCast, Nat.sub_zero]
    obtain ⟨_, hc, ⟨_, e2, _⟩ | ⟨b, rest, tot, e1, e3, e4⟩⟩ := o
    · omega
    have hbv : b ≠ bv := fun hh => hne ⟨_, e1, hh⟩
    have had : ∀ (c j : Nat), (if j = 0 then (⟨c, 0, none⟩ : Addr) else ⟨c, j, none⟩) = ⟨c, j, none⟩ := fun c j => by
      by_cases hh : j = 0
      · rw [if_pos hh, hh]
      · rw [if_neg hh]
    simp only [e1, ite_self, Option.map_some, Addr.add, Nat.zero_add, Nat.mul_one, Nat.add_zero, had, Int.natCast_zero, Int.sub_zero, Int.toNat_natCast]
    refine pIf_i (fun e5 => ?_) (fun e5 => ?_)
    · have e5 : s.cap < s.len + 1 := by simp at e5; omega
      have hni : IntKind.i64.wrap (((s.len + 1 : Nat) : Int) - (i : Int)) = ((s.len + 1 - i : Nat) : Int) := by rw [wrap_small (by omega) (by omega)]; omega
      rw [hni]
      refine pAssert_i ⟨by omega, by omega, by omega⟩ ?_
      refine extend_new e3 (cut_take xs rest (i * 1) (by omega)) (show (i + (s.len + 1 - i)) * 16 ≤ 140737488355328 by omega) (by rw [zc_str]; intro v hv; rw [List.mem_singleton.1 hv]; rfl) (by omega) fun b' cap' hb' hc' => ?_
      have hnb : b ≠ b' := fun hh => by subst hh; rw [e3] at hb'; cases hb'
      have hnv : bv ≠ b' := fun hh => by subst hh; rw [hv] at hb'; cases hb'
      rw [zc_str]
      simp only [Option.map_some, Nat.zero_add, had, Nat.mul_one]
      have hci : ¬ cap' = i := by omega
      have hci1 : ¬ cap' = i + 1 := by omega
      have hsi : ¬ s.cap = i := by omega
      simp only [if_neg hci, if_neg hci1, if_neg hsi]
      refine pAssert_i ⟨by omega, by omega, by omega⟩ ?_
      refine copy_b (m := 1) (by simp only [Nat.min_def]; split <;> omega) (by omega) (Heap.look_ne hnv hv) (xs := [x]) rfl (Heap.set_same _ _ _) (by simp; omega) (by omega) hox ?_
      refine pAssert_i ⟨by omega, by omega, by omega⟩ (pAssert_i ⟨by omega, by omega, by omega⟩ ?_)
      rw [Heap.set_set]
      refine copy_b (m := s.len - i) (by simp only [Nat.min_def]; split <;> omega) (by omega) (Heap.look_ne hnb e3) (by rw [Nat.mul_one, hlen]; exact cut_drop xs rest i hi) (Heap.set_same _ _ _) (by simp [splice]; omega) (by omega) (oneCells_drop h1 i) ?_
      rw [Heap.set_set]
      rw [ins_new xs _ x i e (by simp; omega)]
      refine fgt_mk (k ⟨some ⟨b', 0, none⟩, i + (s.len + 1 - i), cap'⟩ _ (Upd.set (.inr hb')) ⟨by simp; omega, show i + (s.len + 1 - i) ≤ cap' by omega, .inr ⟨b', [], cap' * 1, rfl, by simp, Nat.le_refl _⟩⟩ ?_)
      intro b'' hb''
      simp at hb''
      subst hb''
      exact .inr hb'
    · have e5 : s.len + 1 ≤ s.cap := by simp at e5; omega
      have hsi : ¬ s.cap = i := by omega
      have hsi1 : ¬ s.cap = i + 1 := by omega
      simp only [if_neg hsi, if_neg hsi1]
      refine pAssert_i ⟨by omega, by omega, by omega⟩ (pAssert_i ⟨by omega, by omega, by omega⟩ ?_)
      refine overlaps_str (a := ⟨bv, 0, none⟩) (b := ⟨b, i + 1, none⟩) hv e3 (Ne.symm hbv) (by omega) ⟨false, rfl, ?_⟩
      refine pIf_t rfl (pAssert_i ⟨by omega, by omega, by omega⟩ (pAssert_i ⟨by omega, by omega, by omega⟩ ?_))
      refine copy_b (m := s.len - i) (by simp only [Nat.min_def]; split <;> omega) (by omega) e3 (by rw [Nat.mul_one, hlen]; exact cut_drop xs rest i hi) e3 (by simp; omega) (by omega) (oneCells_drop h1 i) ?_
      refine pAssert_i ⟨by omega, by omega, by omega⟩ ?_
      refine copy_b (m := 1) (by simp only [Nat.min_def]; split <;> omega) (by omega) (Heap.look_ne (Ne.symm hbv) hv) (xs := [x]) rfl (Heap.set_same _ _ _) (by simp [splice]; omega) (by omega) hox ?_
      rw [Heap.set_set, ins_move xs rest x i e]
      refine fgt_mk (k ⟨some ⟨b, 0, none⟩, s.len + 1, s.cap⟩ _ (Upd.set (.inl ⟨_, e1, rfl⟩)) ⟨by simp; omega, by omega, .inr ⟨b, _, tot, rfl, Heap.set_same _ _ _, e4⟩⟩ ?_)
      intro b'' hb''
      simp at hb''
      subst hb''
      exact .inl ⟨_, e1, rfl⟩
theorem insert_int {h : Heap} {s : Sl} {xs : List Value} {x : Value} {i bv : Nat} (o : Has 1 h s xs) (hi : i ≤ xs.length) (hv : h bv = some (.row [x] 1)) (hne : ¬ blk s bv) (h1 : oneCells xs) (hx : x.oneCell' = true) (hl : xs.length < 1000000000) {KP K : Value → Pr}
    (k : ∀ s' h', Upd (blk s) h h' → Has 1 h' s' (xs.take i ++ x :: xs.drop i) → (∀ b, blk s' b → blk s b ∨ h b = none) → K (.slice s'.base s'.len s'.cap) h') :
    WpCall Tryd.prog 25 #[.slice s.base s.len s.cap, .int .i64 i, .slice (some ⟨bv, 0, none⟩) 1 1] KP K h := by
  have hlen := o.len
  have hvx : Sl.vals 1 ⟨some ⟨bv, 0, none⟩, 1, 1⟩ h [x] := by unfold Sl.vals; simp only; rw [vals_row hv]; rfl
  have hox : oneCells [x] := fun v hv => by simp at hv; subst hv; exact hx
  have wr : ∀ n : Nat, n < 2000000000 → IntKind.i64.wrap (n : Int) = n := fun n hn => wrap_small (by omega) (by omega)
  refine slices_Insert_int_int_call s i ⟨some ⟨bv, 0, none⟩, 1, 1⟩ ?_
  unfold slices_Insert_int_int
  refine pAssert_i ⟨by omega, by omega, by have := o.2.1; omega⟩ (pIf_f rfl ?_)
  refine pIf_i (fun e => ?_) (fun e => ?_)
  · have e : i = xs.length := by simp at e; omega
    subst e
    refine append_has (bytes := 8) o hvx (show (s.len + 1) * 8 ≤ 140737488355328 by omega) hox fun s' h' u o' hs hl' => ?_
    refine fgt_mk (k s' h' u ?_ hs)
    simpa using o'
  · have e : i < xs.length := by simp at e; omega
    have hi1 : (i : Int) + ((1 : Nat) : Int) = ((i + 1 : Nat) : Int) := by omega
    have hn1 : (s.len : Int) + ((1 : Nat) : Int) = ((s.len + 1 : Nat) : Int) := by omega
    simp only [hi1, hn1, wr (i + 1) (by omega), wr (s.len + 1) (by omega), Int.toNat_zero, Int.toNat_natCast, Nat.sub_zero]
    obtain ⟨_, hc, ⟨_, e2, _⟩ | ⟨b, rest, tot, e1, e3, e4⟩⟩ := o
    · omega
    have hbv : b ≠ bv := fun hh => hne ⟨_, e1, hh⟩
    have had : ∀ (c j : Nat), (if j = 0 then (⟨c, 0, none⟩ : Addr) else ⟨c, j, none⟩) = ⟨c, j, none⟩ := fun c j => by
      by_cases hh : j = 0
      · rw [if_pos hh, hh]
      · rw [if_neg hh]
    simp only [e1, ite_self, Option.map_some, Addr.add, Nat.zero_add, Nat.mul_one, Nat.add_zero, had, Int.natCast_zero, Int.sub_zero, Int.toNat_natCast]
    refine pIf_i (fun e5 => ?_) (fun e5 => ?_)
    · have e5 : s.cap < s.len + 1 := by simp at e5; omega
      have hni : IntKind.i64.wrap (((s.len + 1 : Nat) : Int) - (i : Int)) = ((s.len + 1 - i : Nat) : Int) := by rw [wrap_small (by omega) (by omega)]; omega
      rw [hni]
      refine pAssert_i ⟨by omega, by omega, by omega⟩ ?_
      refine extend_new e3 (cut_take xs rest (i * 1) (by omega)) (show (i + (s.len + 1 - i)) * 8 ≤ 140737488355328 by omega) (by rw [zc_int]; intro v hv; rw [List.mem_singleton.1 hv]; rfl) (by omega) fun b' cap' hb' hc' => ?_
      have hnb : b ≠ b' := fun hh => by subst hh; rw [e3] at hb'; cases hb'
      have hnv : bv ≠ b' := fun hh => by subst hh; rw [hv] at hb'; cases hb'
      rw [zc_int]
      simp only [Option.map_some, Nat.zero_add, had, Nat.mul_one]
      have hci : ¬ cap' = i := by omega
      have hci1 : ¬ cap' = i + 1 := by omega
      have hsi : ¬ s.cap = i := by omega
      simp only [if_neg hci, if_neg hci1, if_neg hsi]
      refine pAssert_i ⟨by omega, by omega, by omega⟩ ?_
      refine copy_b (m := 1) (by simp only [Nat.min_def]; split <;> omega) (by omega) (Heap.look_ne hnv hv) (xs := [x]) rfl (Heap.set_same _ _ _) (by simp; omega) (by omega) hox ?_
      refine pAssert_i ⟨by omega, by omega, by omega⟩ (pAssert_i ⟨by omega, by omega, by omega⟩ ?_)
      rw [Heap.set_set]
      refine copy_b (m := s.len - i) (by simp only [Nat.min_def]; split <;> omega) (by omega) (Heap.look_ne hnb e3) (by rw [Nat.mul_one, hlen]; exact cut_drop xs rest i hi) (Heap.set_same _ _ _) (by simp [splice]; omega) (by omega) (oneCells_drop h1 i) ?_
      rw [Heap.set_set]
      rw [ins_new xs _ x i e (by simp; omega)]
      refine fgt_mk (k ⟨some ⟨b', 0, none⟩, i + (s.len + 1 - i), cap'⟩ _ (Upd.set (.inr hb')) ⟨by simp; omega, show i + (s.len + 1 - i) ≤ cap' by omega, .inr ⟨b', [], cap' * 1, rfl, by simp, Nat.le_refl _⟩⟩ ?_)
      intro b'' hb''
      simp at hb''
      subst hb''
      exact .inr hb'
    · have e5 : s.len + 1 ≤ s.cap := by simp at e5; omega
      have hsi : ¬ s.cap = i := by omega
      have hsi1 : ¬ s.cap = i + 1 := by omega
      simp only [if_neg hsi, if_neg hsi1]
      refine pAssert_i ⟨by omega, by omega, by omega⟩ (pAssert_i ⟨by omega, by omega, by omega⟩ ?_)
      refine overlaps_int (a := ⟨bv, 0, none⟩) (b := ⟨b, i + 1, none⟩) hv e3 (Ne.symm hbv) (by omega) ⟨false, rfl, ?_⟩
      refine pIf_t rfl (pAssert_i ⟨by omega, by omega, by omega⟩ (pAssert_i ⟨by omega, by omega, by omega⟩ ?_))
      refine copy_b (m := s.len - i) (by simp only [Nat.min_def]; split <;> omega) (by omega) e3 (by rw [Nat.mul_one, hlen]; exact cut_drop xs rest i hi) e3 (by simp; omega) (by omega) (oneCells_drop h1 i) ?_
      refine pAssert_i ⟨by omega, by omega, by omega⟩ ?_
      refine copy_b (m := 1) (by simp only [Nat.min_def]; split <;> omega) (by omega) (Heap.look_ne (Ne.symm hbv) hv) (xs := [x]) rfl (Heap.set_same _ _ _) (by simp [splice]; omega) (by omega) hox ?_
      rw [Heap.set_set, ins_move xs rest x i e]
      refine fgt_mk (k ⟨some ⟨b, 0, none⟩, s.len + 1, s.cap⟩ _ (Upd.set (.inl ⟨_, e1, rfl⟩)) ⟨by simp; omega, by omega, .inr ⟨b, _, tot, rfl, Heap.set_same _ _ _, e4⟩⟩ ?_)
      intro b'' hb''
      simp at hb''
      subst hb''
      exact .inl ⟨_, e1, rfl⟩
end Go.Proofs.YtkbcneomjkfheaaDoor

set_option linter.unusedVariables false
set_option linter.unusedSimpArgs false
namespace Go.Proofs.YtkbcneomjkfheaaDoor
open Go.Hl
attribute [local irreducible] loadF zc sizeP bytesP vcBody

theorem lay0 (cs : List Value) : lay (reps 0 cs) [] = [] := rfl

theorem clone_str {h : Heap} {s : Sl} {xs : List Value} (hv : s.vals 1 h xs) (h1 : oneCells xs) (hl : s.len < 1000000000) {KP K : Value → Pr}
    (k : ∀ s' h', Heap.le h h' → Has 1 h' s' xs → (∀ b, blk s' b → h b = none) → K (.slice s'.base s'.len s'.cap) h') :
    WpCall Tryd.prog 69 #[.slice s.base s.len s.cap] KP K h := by
  refine slices_Clone_string_string_call s ?_
  unfold slices_Clone_string_string
  refine pIf_i (fun e => ?_) (fun e => ?_)
  · have hb : s.base = none := by simpa using e
    unfold Sl.vals at hv
    rw [hb] at hv
    simp only at hv
    rw [hv.2] at k
    exact fgt_mk (k ⟨none, 0, 0⟩ h (Heap.le_refl _) (Has.none _ _) (fun b hb => by simp at hb))
  · intro b hb
    rw [lay0]
    have hle : Heap.le h (h.set b (.row [] ([] : List Value).length)) := Heap.le_set_new (Heap.le_refl _) hb _
    have o : Has 1 (h.set b (.row [] ([] : List Value).length)) ⟨some ⟨b, 0, none⟩, 0, 0⟩ [] := ⟨rfl, Nat.le_refl _, .inr ⟨b, [], 0, rfl, Heap.set_same _ _ _, Nat.le_refl _⟩⟩
    refine append_has (bytes := 16) o (Sl.vals_le hle hv) (show (0 + s.len) * 16 ≤ 140737488355328 by omega) h1 fun s' h' u o' hs hl' => ?_
    refine fgt_mk (k s' h' ?_ (by simpa using o') (fun b' hb' => ?_))
    · intro i y hy
      refine u i y (hle i y hy) fun hbi => ?_
      simp at hbi
      subst hbi
      rw [hb] at hy; cases hy
    · rcases hs b' hb' with hq | hq
      · simp at hq; subst hq; exact hb
      · exact (Heap.set_none.1 hq).2
theorem clone_int {h : Heap} {s : Sl} {xs : List Value} (hv : s.vals 1 h xs) (h1 : oneCells xs) (hl : s.len < 1000000000) {KP K : Value → Pr}
    (k : ∀ s' h', Heap.le h h' → Has 1 h' s' xs → (∀ b, blk s' b → h b = none) → K (.slice s'.base s'.len s'.cap) h') :
    WpCall Tryd.prog 70 #[.slice s.base s.len s.cap] KP K h := by
  refine slices_Clone_int_int_call s ?_
  unfold slices_Clone_int_int
  refine pIf_i (fun e => ?_) (fun e => ?_)
  · have hb : s.base = none := by simpa using e
    unfold Sl.vals at hv
    rw [hb] at hv
    simp only at hv
    rw [hv.2] at k
    exact fgt_mk (k ⟨none, 0, 0⟩ h (Heap.le_refl _) (Has.none _ _) (fun b hb => by simp at hb))
  · intro b hb
    rw [lay0]
    have hle : Heap.le h (h.set b (.row [] ([] : List Value).length)) := Heap.le_set_new (Heap.le_refl _) hb _
    have o : Has 1 (h.set b (.row [] ([] : List Value).length)) ⟨some ⟨b, 0, none⟩, 0, 0⟩ [] := ⟨rfl, Nat.le_refl _, .inr ⟨b, [], 0, rfl, Heap.set_same _ _ _, Nat.le_refl _⟩⟩
    refine append_has (bytes := 8) o (Sl.vals_le hle hv) (show (0 + s.len) * 8 ≤ 140737488355328 by omega) h1 fun s' h' u o' hs hl' => ?_
    refine fgt_mk (k s' h' ?_ (by simpa using o') (fun b' hb' => ?_))
    · intro i y hy
      refine u i y (hle i y hy) fun hbi => ?_
      simp at hbi
      subst hbi
      rw [hb] at hy; cases hy
    · rcases hs b' hb' with hq | hq
      · simp at hq; subst hq; exact hb
      · exact (Heap.set_none.1 hq).2
theorem del_move (xs rest : List Value) (z : Value) (i : Nat) (hi : i < xs.length) :
    splice (splice (xs ++ rest) i (xs.drop (i + 1))) (xs.length - 1) [z] = xs.eraseIdx i ++ ([z] ++ rest) := by
  have h0 : xs ++ rest = xs.take i ++ (xs.drop i ++ rest) := by rw [← List.append_assoc, List.take_append_drop]
  have h1 : (xs.take i).length = i := by simp; omega
  -- the last one stays where it is
  have h2 : xs.drop i = (xs.drop i).take (xs.length - 1 - i) ++ (xs.drop i).drop (xs.length - 1 - i) := (List.take_append_drop _ _).symm
  have h3 : ((xs.drop i).take (xs.length - 1 - i)).length = (xs.drop (i + 1)).length := by simp; omega
  have h4 : ((xs.drop i).drop (xs.length - 1 - i)).length = 1 := by simp; omega
  rw [h0, h2, List.append_assoc, splice_mid h1 h3, ← List.append_assoc, splice_mid (by simp; omega) (by rw [h4]; rfl)]
  rw [List.eraseIdx_eq_take_drop_succ]

theorem delete_str {h : Heap} {s : Sl} {xs : List Value} {i : Nat} (o : Has 1 h s xs) (hi : i < xs.length) (h1 : oneCells xs) (hl : xs.length < 1000000000) {KP K : Value → Pr}
    (k : ∀ s' h', Upd (blk s) h h' → Has 1 h' s' (xs.eraseIdx i) → (∀ b, blk s' b → blk s b) → K (.slice s'.base s'.len s'.cap) h') :
    WpCall Tryd.prog 73 #[.slice s.base s.len s.cap, .int .i64 i, .int .i64 ((i + 1 : Nat) : Int)] KP K h := by
  have hlen := o.len
  refine slices_Delete_string_string_call s i ((i + 1 : Nat) : Int) ?_
  unfold slices_Delete_string_string
  obtain ⟨_, hc, ⟨_, e2, _⟩ | ⟨b, rest, tot, e1, e3, e4⟩⟩ := o
  · omega
  have had : ∀ (c j : Nat), (if j = 0 then (⟨c, 0, none⟩ : Addr) else ⟨c, j, none⟩) = ⟨c, j, none⟩ := fun c j => by
      by_cases hh : j = 0
      · rw [if_pos hh, hh]
      · rw [if_neg hh]
  simp only [e1, ite_self, Option.map_some, Addr.add, Nat.zero_add, Nat.mul_one, Nat.add_zero, had, Int.natCast_zero, Int.sub_zero, Int.toNat_natCast, Int.toNat_zero, Nat.sub_zero]
  refine pAssert_i ⟨by omega, by omega, by omega, by omega⟩ (pIf_f (by simp; omega) (pAssert_i ⟨by omega, by omega, by omega⟩ (pAssert_i ⟨by omega, by omega, by omega⟩ ?_)))
  have hnew : Sl.vals 1 ⟨if s.cap = i + 1 then some ⟨b, 0, none⟩ else some ⟨b, i + 1, none⟩, s.len - (i + 1), s.cap - (i + 1)⟩ h (xs.drop (i + 1)) := by
    unfold Sl.vals
    by_cases hq : s.cap = i + 1
    · have hd : xs.drop (i + 1) = [] := List.drop_of_length_le (by omega)
      simp only [if_pos hq, hd]
      rw [vals_row e3]
      have : (s.len - (i + 1)) * 1 = 0 := by omega
      rw [this]; simp [cut]
    · simp only [if_neg hq]
      rw [vals_row e3, Nat.mul_one, hlen]
      exact cut_drop xs rest (i + 1) (by omega)
  refine ⟨xs.take i, xs.drop (i + 1), ?_, hnew, show (i + (s.len - (i + 1))) * 16 ≤ 140737488355328 by omega, oneCells_drop h1 _, fun _ => ?_, fun hq => ?_⟩
  · unfold Sl.vals
    simp only
    rw [vals_row e3, Nat.mul_one]
    exact cut_take xs rest i (by omega)
  · simp only
    refine ⟨xs ++ rest, tot, trivial, e3, by simp; omega, by simpa using e4, ?_⟩
    have hs1 : ¬ s.cap = i + (s.len - (i + 1)) := by omega
    simp only [if_neg hs1, Option.map_some, Nat.zero_add, Nat.mul_one, had]
    refine pAssert_i ⟨by omega, by omega, by omega⟩ ?_
    refine ⟨fun hq => ?_, fun _ hq => ?_, fun _ a ha => ?_⟩
    · simp only at hq; omega
    · simp at hq
    · simp only [Option.some.injEq] at ha
      subst ha
      refine ⟨_, tot, rfl, Heap.set_same _ _ _, ?_, by rw [zc_str]; intro v hv; rw [List.mem_singleton.1 hv]; rfl, ?_⟩
      · simp [splice]; omega
      rw [zc_str, Heap.set_set]
      have hcnt : s.len - (xs.length - 1) = 1 := by omega
      have hpos : i + (s.len - (i + 1)) = xs.length - 1 := by omega
      simp only [hpos, hcnt, List.replicate_one, List.flatten_cons, List.flatten_nil, List.append_nil]
      rw [del_move xs rest _ i hi]
      refine fgt_mk (k ⟨some ⟨b, 0, none⟩, xs.length - 1, s.cap⟩ _ (Upd.set (.inl ⟨_, e1, rfl⟩)) ⟨?_, ?_, .inr ⟨b, _, tot, rfl, Heap.set_same _ _ _, e4⟩⟩ ?_)
      · simp [List.length_eraseIdx, hi]
      · show xs.length - 1 ≤ s.cap; omega
      · intro b' hb'; simp at hb'; subst hb'; exact ⟨_, e1, rfl⟩
  · simp only at hq; omega
theorem delete_int {h : Heap} {s : Sl} {xs : List Value} {i : Nat} (o : Has 1 h s xs) (hi : i < xs.length) (h1 : oneCells xs) (hl : xs.length < 1000000000) {KP K : Value → Pr}
    (k : ∀ s' h', Upd (blk s) h h' → Has 1 h' s' (xs.eraseIdx i) → (∀ b, blk s' b → blk s b) → K (.slice s'.base s'.len s'.cap) h') :
    WpCall Tryd.prog 74 #[.slice s.base s.len s.cap, .int .i64 i, .int .i64 ((i + 1 : Nat) : Int)] KP K h := by
  have hlen := o.len
  refine slices_Delete_int_int_call s i ((i + 1 : Nat) : Int) ?_
  unfold slices_Delete_int_int
  obtain ⟨_, hc, ⟨_, e2, _⟩ | ⟨b, rest, tot, e1, e3, e4⟩⟩ := o
  · omega
  have had : ∀ (c j : Nat), (if j = 0 then (⟨c, 0, none⟩ : Addr) else ⟨c, j, none⟩) = ⟨c, j, none⟩ := fun c j => by
      by_cases hh : j = 0
      · rw [if_pos hh, hh]
      · rw [if_neg hh]
  simp only [e1, ite_self, Option.map_some, Addr.add, Nat.zero_add, Nat.mul_one, Nat.add_zero, had, Int.natCast_zero, Int.sub_zero, Int.toNat_natCast, Int.toNat_zero, Nat.sub_zero]
  refine pAssert_i ⟨by omega, by omega, by omega, by omega⟩ (pIf_f (by simp; omega) (pAssert_i ⟨by omega, by omega, by omega⟩ (pAssert_i ⟨by omega, by omega, by omega⟩ ?_)))
  have hnew : Sl.vals 1 ⟨if s.cap = i + 1 then some ⟨b, 0, none⟩ else some ⟨b, i + 1, none⟩, s.len - (i + 1), s.cap - (i + 1)⟩ h (xs.drop (i + 1)) := by
    unfold Sl.vals
    by_cases hq : s.cap = i + 1
    · have hd : xs.drop (i + 1) = [] := List.drop_of_length_le (by omega)
      simp only [if_pos hq, hd]
      rw [vals_row e3]
      have : (s.len - (i + 1)) * 1 = 0 := by omega
      rw [this]; simp [cut]
    · simp only [if_neg hq]
      rw [vals_row e3, Nat.mul_one, hlen]
      exact cut_drop xs rest (i + 1) (by omega)
  refine ⟨xs.take i, xs.drop (i + 1), ?_, hnew, show (i + (s.len - (i + 1))) * 8 ≤ 140737488355328 by omega, oneCells_drop h1 _, fun _ => ?_, fun hq => ?_⟩
  · unfold Sl.vals
    simp only
    rw [vals_row e3, Nat.mul_one]
    exact cut_take xs rest i (by omega)
  · simp only
    refine ⟨xs ++ rest, tot, trivial, e3, by simp; omega, by simpa using e4, ?_⟩
    have hs1 : ¬ s.cap = i + (s.len - (i + 1)) := by omega
    simp only [if_neg hs1, Option.map_some, Nat.zero_add, Nat.mul_one, had]
    refine pAssert_i ⟨by omega, by omega, by omega⟩ ?_
    refine ⟨fun hq => ?_, fun _ hq => ?_, fun _ a ha => ?_⟩
    · simp only at hq; omega
    · simp at hq
    · simp only [Option.some.injEq] at ha
      subst ha
      refine ⟨_, tot, rfl, Heap.set_same _ _ _, ?_, by rw [zc_int]; intro v hv; rw [List.mem_singleton.1 hv]; rfl, ?_⟩
      · simp [splice]; omega
      rw [zc_int, Heap.set_set]
      have hcnt : s.len - (xs.length - 1) = 1 := by omega
      have hpos : i + (s.len - (i + 1)) = xs.length - 1 := by omega
      simp only [hpos, hcnt, List.replicate_one, List.flatten_cons, List.flatten_nil, List.append_nil]
      rw [del_move xs rest _ i hi]
      refine fgt_mk (k ⟨some ⟨b, 0, none⟩, xs.length - 1, s.cap⟩ _ (Upd.set (.inl ⟨_, e1, rfl⟩)) ⟨?_, ?_, .inr ⟨b, _, tot, rfl, Heap.set_same _ _ _, e4⟩⟩ ?_)
      · simp [List.length_eraseIdx, hi]
      · show xs.length - 1 ≤ s.cap; omega
      · intro b' hb'; simp at hb'; subst hb'; exact ⟨_, e1, rfl⟩
  · simp only at hq; omega
end Go.Proofs.YtkbcneomjkfheaaDoor

set_option linter.unusedVariables false
set_option linter.unusedSimpArgs false
namespace Go.Proofs.YtkbcneomjkfheaaDoor
open Go.Hl
attribute [local irreducible] loadF zc sizeP bytesP vcBody

/-- Is a text less than another? -/
def lt (a b : ByteArray) : Bool := Op.bytesLess a.toList b.toList

theorem nan1_ok {h : Heap} {a : ByteArray} {KP K : Value → Pr} (k : K (.bool false) h) : WpCall Tryd.prog 60 #[.string a] KP K h := by
  refine cmp_isNaN_string_call a ?_
  unfold cmp_isNaN_string
  exact ⟨h, Heap.le_refl _, by simpa [strEq] using k⟩
theorem nan2_ok {h : Heap} {a : ByteArray} {KP K : Value → Pr} (k : K (.bool false) h) : WpCall Tryd.prog 38 #[.string a] KP K h := by
  refine slices_isNaN_string_call a ?_
  unfold slices_isNaN_string
  exact ⟨h, Heap.le_refl _, by simpa [strEq] using k⟩
theorem less_ok {h : Heap} {a b : ByteArray} {KP K : Value → Pr} (k : K (.bool (lt a b)) h) : WpCall Tryd.prog 37 #[.string a, .string b] KP K h := by
  refine cmp_Less_string_call a b ?_
  unfold cmp_Less_string
  rw [pJoin_eq]
  refine nan1_ok ⟨false, rfl, pIf_f rfl ?_⟩
  exact fgt_mk k

theorem map_flat {α β : Type} (f : α → β) : ∀ l : List α, l.map f = l.flatMap fun x => [f x]
  | [] => rfl
  | x :: l => by rw [List.map_cons, List.flatMap_cons, map_flat f l]; rfl

theorem mid_eq (a b : Nat) (hl : a + b < 2000000000) : IntKind.i64.wrap (((IntKind.u64.wrap (IntKind.i64.wrap ((a : Int) + (b : Int)))) : Int).fdiv (2 ^ (min (1 : Int).toNat (IntKind.u64).bits))) = (((a + b) / 2 : Nat) : Int) := by
  rw [wrap_small (x := (a : Int) + (b : Int)) (by omega) (by omega)]
  have h1 : IntKind.u64.wrap ((a : Int) + (b : Int)) = ((a + b : Nat) : Int) := by
    simp only [IntKind.wrap, IntKind.bits, IntKind.signed]; simp; omega
  rw [h1]
  have h2 : (2 : Int) ^ (min (1 : Int).toNat (IntKind.u64).bits) = 2 := by decide
  rw [h2, Int.fdiv_eq_ediv_of_nonneg _ (by decide)]
  rw [wrap_small (by omega) (by omega)]
  omega

/-- Where a text stands, or would stand, and whether it stands there. -/
theorem search_ok {h : Heap} {s : Sl} {ns : List ByteArray} {t : ByteArray} {p : Nat} (hv : s.vals 1 h (ns.map .string)) (hl : ns.length < 1000000000) (hp : p ≤ ns.length) (hlt : ∀ i (hi : i < ns.length), lt ns[i] t = decide (i < p)) {KP K : Value → Pr}
    (k : K (.tuple #[.int .i64 p, .bool (decide (∃ hi : p < ns.length, strEq ns[p] t = true))]) h) : WpCall Tryd.prog 23 #[.slice s.base s.len s.cap, .string t] KP K h := by
  have hlen : s.len = ns.length := by have := sl_length hv; simp at this; omega
  have hel : ∀ i (hi : i < ns.length), ∃ a, s.base = some a ∧ h.cell (a.add (i * 1)) = some (.string ns[i]) := fun i hi => by
    have he : (ns.map Value.string) = ns.flatMap (fun x => [Value.string x]) := map_flat _ _
    rw [he] at hv
    obtain ⟨a, h1, h2⟩ := sl_elem (enc := fun x => [Value.string x]) (n := 1) (fun _ => rfl) hv hlen hi
    exact ⟨a, h1, vals_cell1 h2⟩
  refine slices_BinarySearch_string_string_call s t ?_
  unfold slices_BinarySearch_string_string
  refine pLoop_rule (fun (q : Int × Int × Unit) H => H = h ∧ ∃ a b : Nat, q.1 = a ∧ q.2.1 = b ∧ a ≤ p ∧ p ≤ b ∧ b ≤ ns.length) (fun q => (q.2.1 - q.1).toNat) ?_ ?_
  rotate_left
  · exact ⟨rfl, 0, ns.length, rfl, by simp [hlen], Nat.zero_le _, hp, Nat.le_refl _⟩
  rintro ⟨x2, x3, ⟨⟩⟩ H kk ⟨rfl, a, b, ha, hb, h1, h2, h3⟩ hk
  simp only at ha hb hk ⊢
  subst ha hb
  unfold slices_BinarySearch_string_string_l2
  rw [mid_eq a b (by omega)]
  refine pIf_i (fun hz => ?_) (fun hz => ?_)
  · have hz : a < b := by simpa using hz
    have hm : (a + b) / 2 < ns.length := by omega
    obtain ⟨ad, hb1, hc⟩ := hel _ hm
    refine pAssert_i (by decide) (pIdx_i (by omega) (by omega) (pSome_i hb1 (pLd_i (s := .str) ns[(a + b) / 2] (by rw [Int.toNat_natCast]; exact hc) ?_)))
    refine less_ok ⟨_, rfl, ?_⟩
    rw [hlt _ hm]
    refine pIf_i (fun hy => ?_) (fun hy => ?_)
    · have hy : (a + b) / 2 < p := by simpa using hy
      rw [wrap_small (by omega) (by omega)]
      exact hk _ _ ⟨rfl, (a + b) / 2 + 1, b, by simp, rfl, by omega, by omega, by omega⟩ (by simp only; omega)
    · have hy : ¬ (a + b) / 2 < p := by simpa using hy
      exact hk _ _ ⟨rfl, a, (a + b) / 2, rfl, rfl, by omega, by omega, by omega⟩ (by simp only; omega)
  · have hz : ¬ a < b := by simpa using hz
    have e : a = p := by omega
    subst e
    rw [pJoin_eq]
    unfold slices_BinarySearch_string_string_j1
    refine pIf_i (fun hy => ?_) (fun hy => ?_)
    · have hy : a < ns.length := by simp [hlen] at hy; omega
      obtain ⟨ad, hb1, hc⟩ := hel _ hy
      refine pIdx_i (by omega) (by omega) (pSome_i hb1 (pLd_i (s := .str) ns[a] (by rw [Int.toNat_natCast]; exact hc) ?_))
      refine pIf_i (fun hq => ?_) (fun hq => ?_)
      · have : decide (∃ hi : a < ns.length, strEq ns[a] t = true) = true := by simpa using ⟨hy, hq⟩
        rw [this] at k
        exact fgt_mk k
      · have : decide (∃ hi : a < ns.length, strEq ns[a] t = true) = false := by simp [hq]
        rw [this] at k
        refine pIdx_i (by omega) (by omega) (pSome_i hb1 (pLd_i (s := .str) ns[a] (by rw [Int.toNat_natCast]; exact hc) ?_))
        refine nan2_ok ⟨false, rfl, pIf_f rfl ?_⟩
        exact fgt_mk k
    · have hy : ¬ a < ns.length := by simp [hlen] at hy; omega
      have : decide (∃ hi : a < ns.length, strEq ns[a] t = true) = false := by simp [hy]
      rw [this] at k
      exact fgt_mk k
end Go.Proofs.YtkbcneomjkfheaaDoor

set_option linter.unusedVariables false
set_option linter.unusedSimpArgs false
namespace Go.Proofs.YtkbcneomjkfheaaDoor
open Go.Hl
attribute [local irreducible] loadF zc sizeP bytesP vcBody

def ints (l : List Int) : List Value := l.map (.int .i64)
theorem ints_len (l : List Int) : (ints l).length = l.length := by simp [ints]
theorem ints_at (l : List Int) (rest : List Value) {i : Nat} (hi : i < l.length) : (ints l ++ rest)[i]? = some (.int .i64 (l.getD i 0)) := by
  rw [List.getElem?_append_left (by rw [ints_len]; exact hi)]
  simp [ints, hi]
theorem ints_set (l : List Int) (rest : List Value) {i : Nat} (hi : i < l.length) (x : Int) : (ints l ++ rest).set i (.int .i64 x) = ints (l.set i x) ++ rest := by
  rw [List.set_append_left _ _ (by rw [ints_len]; exact hi)]
  simp [ints, List.map_set]

theorem inv_len (a : Addr) (KP : Value → Pr) (k : Int → Pr) : pInvoke Tryd.prog KP "Len" (.iface 54 (.pointer (some a))) [] (.one (.int .i64)) k = pLd .slice a fun (s : Sl) => pCall Tryd.prog 115 [.slice s.base s.len s.cap] KP (.one (.int .i64)) k := by kernel_rfl
theorem inv_less (a : Addr) (KP : Value → Pr) (i j : Value) (k : Bool → Pr) : pInvoke Tryd.prog KP "Less" (.iface 54 (.pointer (some a))) [i, j] (.one .bool) k = pLd .slice a fun (s : Sl) => pCall Tryd.prog 116 [.slice s.base s.len s.cap, i, j] KP (.one .bool) k := by kernel_rfl
theorem inv_swap (a : Addr) (KP : Value → Pr) (i j : Value) (k : Unit → Pr) : pInvoke Tryd.prog KP "Swap" (.iface 54 (.pointer (some a))) [i, j] (.many []) k = pLd .slice a fun (s : Sl) => pCall Tryd.prog 117 [.slice s.base s.len s.cap, i, j] KP (.many []) k := by kernel_rfl
theorem inv_push (a : Addr) (KP : Value → Pr) (x : Value) (k : Unit → Pr) : pInvoke Tryd.prog KP "Push" (.iface 54 (.pointer (some a))) [x] (.many []) k = pCall Tryd.prog 119 [.pointer (some a), x] KP (.many []) k := by kernel_rfl
theorem inv_pop (a : Addr) (KP : Value → Pr) (k : Value → Pr) : pInvoke Tryd.prog KP "Pop" (.iface 54 (.pointer (some a))) [] (.one .any) k = pCall Tryd.prog 118 [.pointer (some a)] KP (.one .any) k := by kernel_rfl

theorem flen_ok {h : Heap} {s : Sl} {KP K : Value → Pr} (k : K (.int .i64 s.len) h) : WpCall Tryd.prog 115 #[.slice s.base s.len s.cap] KP K h := by
  refine inodes_free_Len_call s ?_
  unfold inodes_free_Len
  exact fgt_mk k
theorem fless_ok {h : Heap} {bs n c tot : Nat} {l : List Int} {rest : List Value} (hbs : h bs = some (.row (ints l ++ rest) tot)) (hn : n = l.length) {i j : Nat} (hi : i < l.length) (hj : j < l.length) {KP K : Value → Pr} (k : K (.bool (decide (l.getD i 0 < l.getD j 0))) h) :
    WpCall Tryd.prog 116 #[.slice (some ⟨bs, 0, none⟩) n c, .int .i64 i, .int .i64 j] KP K h := by
  subst hn
  refine inodes_free_Less_call ⟨some ⟨bs, 0, none⟩, l.length, c⟩ i j ?_
  unfold inodes_free_Less
  simp only [pSome_some, add_mk, Nat.zero_add, Int.toNat_natCast, Nat.mul_one]
  refine pIdx_i (by omega) (by omega) (pIdx_i (by omega) (by omega) (ld_b hbs (ints_at l rest hi) (ld_b hbs (ints_at l rest hj) ?_)))
  exact fgt_mk k
theorem fswap_ok {h : Heap} {bs n c tot : Nat} {l : List Int} {rest : List Value} (hbs : h bs = some (.row (ints l ++ rest) tot)) (hn : n = l.length) {i j : Nat} (hi : i < l.length) (hj : j < l.length) {KP K : Value → Pr}
    (k : K (.tuple #[]) (h.set bs (.row (ints (swL l i j) ++ rest) tot))) :
    WpCall Tryd.prog 117 #[.slice (some ⟨bs, 0, none⟩) n c, .int .i64 i, .int .i64 j] KP K h := by
  subst hn
  refine inodes_free_Swap_call ⟨some ⟨bs, 0, none⟩, l.length, c⟩ i j ?_
  unfold inodes_free_Swap
  simp only [pSome_some, add_mk, Nat.zero_add, Int.toNat_natCast, Nat.mul_one]
  refine pIdx_i (by omega) (by omega) (pIdx_i (by omega) (by omega) (ld_b hbs (ints_at l rest hj) (ld_b hbs (ints_at l rest hi) ?_)))
  refine pIdx_i (by omega) (by omega) (st_b hbs (by simp [ints_len]; omega) rfl ?_)
  refine pIdx_i (by omega) (by omega) (st_b (Heap.set_same _ _ _) (by simp [ints_len]; omega) rfl ?_)
  rw [Heap.set_set, ints_set l rest hi, ints_set _ rest (by simpa using hj)]
  exact fgt_mk k

/-- container/heap.up. -/
theorem up_ok {h : Heap} {b off bs c tot tb : Nat} {l : List Int} {rest cs : List Value} (hb : h b = some (.row cs tb)) (hs : cs[off]? = some (.slice (some ⟨bs, 0, none⟩) l.length c)) (hbs : h bs = some (.row (ints l ++ rest) tot)) (hne : b ≠ bs)
    {j : Nat} (hj : j < l.length) (hu : HeapUp (fun x => l.getD x 0) l.length j) (hl : l.length < 1000000000) {KP K : Value → Pr}
    (k : ∀ l' : List Int, l'.length = l.length → (∀ x, l'.count x = l.count x) → HeapOk (fun x => l'.getD x 0) l.length → K (.tuple #[]) (h.set bs (.row (ints l' ++ rest) tot))) :
    WpCall Tryd.prog 34 #[(.iface 54 (.pointer (some ⟨b, off, none⟩))), .int .i64 j] KP K h := by
  refine container_heap_up_call (.iface 54 (.pointer (some ⟨b, off, none⟩))) j ?_
  unfold container_heap_up
  refine pLoop_rule (fun (q : Int × Unit) H => ∃ (l' : List Int) (j' : Nat), q.1 = j' ∧ H = h.set bs (.row (ints l' ++ rest) tot) ∧ l'.length = l.length ∧ (∀ x, l'.count x = l.count x) ∧ j' < l.length ∧ HeapUp (fun x => l'.getD x 0) l.length j') (fun q => q.1.toNat) ?_ ?_
  rotate_left
  · exact ⟨l, j, rfl, (Heap.set_self _ hbs).symm, rfl, fun _ => rfl, hj, hu⟩
  rintro ⟨x2, ⟨⟩⟩ H kk ⟨l', j', hx, rfl, hlen, hcnt, hj', hu'⟩ hk
  simp only at hx hk ⊢
  subst hx
  unfold container_heap_up_l2
  refine pAssert_i (by decide) ?_
  rw [pJoin_eq]
  unfold container_heap_up_j1
  have hw : IntKind.i64.wrap ((j' : Int) - 1) = (j' : Int) - 1 := wrap_small (by omega) (by omega)
  by_cases h0 : j' = 0
  · subst h0
    refine pIf_t (by rw [hw]; decide) (pIf_t rfl ?_)
    exact fgt_mk (k l' hlen hcnt (hu'.stop (.inl rfl)))
  · have hd : IntKind.i64.wrap ((IntKind.i64.wrap ((j' : Int) - 1)).tdiv 2) = (((j' - 1) / 2 : Nat) : Int) := by
      rw [hw, show (j' : Int) - 1 = ((j' - 1 : Nat) : Int) by omega]
      rw [Int.tdiv_eq_ediv_of_nonneg (by omega), wrap_small (by omega) (by omega)]
      omega
    rw [hd]
    refine pIf_f (by simp; omega) ?_
    have hbl : (h.set bs (.row (ints l' ++ rest) tot)) b = some (.row cs tb) := Heap.look_ne hne hb
    rw [inv_less, inv_swap]
    rw [← hlen] at hs hj' 
    refine ld_b (s := .slice) hbl (x := ⟨some ⟨bs, 0, none⟩, l'.length, c⟩) hs ?_
    refine fless_ok (Heap.set_same _ _ _) rfl hj' (by omega) ⟨_, rfl, ?_⟩
    refine pIf_i (fun hy => ?_) (fun hy => ?_)
    · have hy : ¬ l'.getD j' 0 < l'.getD ((j' - 1) / 2) 0 := by simpa using hy
      exact fgt_mk (k l' hlen hcnt (hu'.stop (.inr (by omega))))
    · have hy : l'.getD j' 0 < l'.getD ((j' - 1) / 2) 0 := by simpa using hy
      refine ld_b (s := .slice) hbl (x := ⟨some ⟨bs, 0, none⟩, l'.length, c⟩) hs ?_
      refine fswap_ok (Heap.set_same _ _ _) rfl (by omega) hj' ⟨(), rfl, ?_⟩
      rw [Heap.set_set]
      refine hk _ _ ⟨swL l' ((j' - 1) / 2) j', (j' - 1) / 2, rfl, rfl, by rw [swL_len, hlen], fun x => by rw [swL_count _ (by omega) hj', hcnt], by omega, ?_⟩ (by simp only; omega)
      have := hu'.step (by omega) (by omega) hy
      rwa [show (fun x => (swL l' ((j' - 1) / 2) j').getD x 0) = sw (fun x => l'.getD x 0) ((j' - 1) / 2) j' from funext fun x => swL_at l' (by omega) hj' x]
end Go.Proofs.YtkbcneomjkfheaaDoor

set_option linter.unusedVariables false
set_option linter.unusedSimpArgs false
namespace Go.Proofs.YtkbcneomjkfheaaDoor
open Go.Hl
attribute [local irreducible] loadF zc sizeP bytesP vcBody pInvoke

/-- container/heap.down. -/
theorem down_ok {h : Heap} {b off bs c tot tb : Nat} {l : List Int} {rest cs : List Value} (hb : h b = some (.row cs tb)) (hs : cs[off]? = some (.slice (some ⟨bs, 0, none⟩) l.length c)) (hbs : h bs = some (.row (ints l ++ rest) tot)) (hne : b ≠ bs)
    {i n : Nat} (hn : n ≤ l.length) (hu : HeapDn (fun x => l.getD x 0) n i) (hi : i < 1000000000) (hl : l.length < 1000000000) {KP K : Value → Pr}
    (k : ∀ (l' : List Int) (r : Bool), l'.length = l.length → (∀ x, l'.count x = l.count x) → HeapOk (fun x => l'.getD x 0) n → (∀ x, n ≤ x → l'.getD x 0 = l.getD x 0) → K (.bool r) (h.set bs (.row (ints l' ++ rest) tot))) :
    WpCall Tryd.prog 35 #[(.iface 54 (.pointer (some ⟨b, off, none⟩))), .int .i64 i, .int .i64 n] KP K h := by
  refine container_heap_down_call (.iface 54 (.pointer (some ⟨b, off, none⟩))) i n ?_
  unfold container_heap_down
  rw [pJoin_eq]
  refine pLoop_rule (fun (q : Int × Unit) H => ∃ (l' : List Int) (j' : Nat), q.1 = j' ∧ H = h.set bs (.row (ints l' ++ rest) tot) ∧ l'.length = l.length ∧ (∀ x, l'.count x = l.count x) ∧ j' < 1000000000 ∧ (∀ x, n ≤ x → l'.getD x 0 = l.getD x 0) ∧ HeapDn (fun x => l'.getD x 0) n j') (fun q => (n - q.1).toNat) ?_ ?_
  rotate_left
  · exact ⟨l, i, rfl, (Heap.set_self _ hbs).symm, rfl, fun _ => rfl, hi, fun _ _ => rfl, hu⟩
  rintro ⟨x2, ⟨⟩⟩ H kk ⟨l', j', hx, rfl, hlen, hcnt, hj', hkeep, hu'⟩ hk
  simp only at hx hk ⊢
  subst hx
  unfold container_heap_down_l4
  rw [pJoin_eq]
  unfold container_heap_down_j3
  have w1 : IntKind.i64.wrap ((IntKind.i64.wrap (2 * (j' : Int))) + 1) = ((2 * j' + 1 : Nat) : Int) := by rw [wrap_small (x := 2 * (j' : Int)) (by omega) (by omega), wrap_small (by omega) (by omega)]; omega
  have w2 : IntKind.i64.wrap (((2 * j' + 1 : Nat) : Int) + 1) = ((2 * j' + 2 : Nat) : Int) := by rw [wrap_small (by omega) (by omega)]; omega
  simp only [w1, w2]
  have hbl : (h.set bs (.row (ints l' ++ rest) tot)) b = some (.row cs tb) := Heap.look_ne hne hb
  rw [← hlen] at hs
  have hs' := hs
  unfold container_heap_down_j5
  by_cases h1 : n ≤ 2 * j' + 1
  · refine pIf_t (by simp; omega) (pIf_t rfl ?_)
    exact fgt_mk (k l' _ hlen hcnt (hu'.stop fun c c1 c2 c3 => by omega) hkeep)
  · refine pIf_f (by simp; omega) (pIf_f (by simp; omega) ?_)
    rw [pJoin_eq, pJoin_eq]
    unfold container_heap_down_j1 container_heap_down_j2
    simp only [w1, w2]
    -- the lesser child m
    have rest_ok : ∀ m : Nat, (m = 2 * j' + 1 ∨ m = 2 * j' + 2) → m < n → (∀ c, 1 ≤ c → c < n → (c - 1) / 2 = j' → l'.getD m 0 ≤ l'.getD c 0) →
        (pInvoke Tryd.prog (fgt KP) "Less" (.iface 54 (.pointer (some ⟨b, off, none⟩))) [(.int .i64 (m : Int)), (.int .i64 (j' : Int))] (.one .bool) fun (r11 : Bool) => pIf (!r11)
          (fgt K (.bool (decide ((j' : Int) > (i : Int)))))
          (pInvoke Tryd.prog (fgt KP) "Swap" (.iface 54 (.pointer (some ⟨b, off, none⟩))) [(.int .i64 (j' : Int)), (.int .i64 (m : Int))] (.many []) fun (r12 : Unit) => kk ((m : Int), ()))) (h.set bs (.row (ints l' ++ rest) tot)) := by
      intro m hm hmn hmin
      rw [inv_less, inv_swap]
      refine ld_b (s := .slice) hbl (x := ⟨some ⟨bs, 0, none⟩, l'.length, c⟩) hs ?_
      refine fless_ok (Heap.set_same _ _ _) rfl (by omega) (by omega) ⟨_, rfl, ?_⟩
      refine pIf_i (fun hy => ?_) (fun hy => ?_)
      · have hy : ¬ l'.getD m 0 < l'.getD j' 0 := by simpa using hy
        exact fgt_mk (k l' _ hlen hcnt (hu'.stop fun c c1 c2 c3 => by have := hmin c c1 c2 c3; omega) hkeep)
      · have hy : l'.getD m 0 < l'.getD j' 0 := by simpa using hy
        refine ld_b (s := .slice) hbl (x := ⟨some ⟨bs, 0, none⟩, l'.length, c⟩) hs ?_
        refine fswap_ok (Heap.set_same _ _ _) rfl (by omega) (by omega) ⟨(), rfl, ?_⟩
        rw [Heap.set_set]
        refine hk _ _ ⟨swL l' j' m, m, rfl, rfl, by rw [swL_len, hlen], fun x => by rw [swL_count _ (by omega) (by omega), hcnt], by omega, fun x hx => ?_, ?_⟩ (by simp only; omega)
        · rw [swL_at l' (by omega) (by omega)]
          unfold sw
          rw [if_neg (by omega), if_neg (by omega)]
          exact hkeep x hx
        · have := hu'.step (m := m) (by omega) (by omega) hmn hy hmin
          rwa [show (fun x => (swL l' j' m).getD x 0) = sw (fun x => l'.getD x 0) j' m from funext fun x => swL_at l' (by omega) (by omega) x]
    refine pIf_i (fun h2 => ?_) (fun h2 => ?_)
    · have h2 : 2 * j' + 2 < n := by simp at h2; omega
      rw [inv_less]
      refine ld_b (s := .slice) hbl (x := ⟨some ⟨bs, 0, none⟩, l'.length, c⟩) hs ?_
      refine fless_ok (Heap.set_same _ _ _) rfl (by omega) (by omega) ⟨_, rfl, ?_⟩
      refine pIf_i (fun hy => ?_) (fun hy => ?_)
      · have hy : l'.getD (2 * j' + 2) 0 < l'.getD (2 * j' + 1) 0 := by simpa using hy
        refine rest_ok (2 * j' + 2) (.inr rfl) h2 fun c c1 c2 c3 => ?_
        have : c = 2 * j' + 1 ∨ c = 2 * j' + 2 := by omega
        rcases this with rfl | rfl <;> omega
      · have hy : ¬ l'.getD (2 * j' + 2) 0 < l'.getD (2 * j' + 1) 0 := by simpa using hy
        refine rest_ok (2 * j' + 1) (.inl rfl) (by omega) fun c c1 c2 c3 => ?_
        have : c = 2 * j' + 1 ∨ c = 2 * j' + 2 := by omega
        rcases this with rfl | rfl <;> omega
    · have h2 : ¬ 2 * j' + 2 < n := by simp at h2; omega
      refine pIf_f rfl ?_
      refine rest_ok (2 * j' + 1) (.inl rfl) (by omega) fun c c1 c2 c3 => ?_
      have : c = 2 * j' + 1 := by omega
      subst this; omega
end Go.Proofs.YtkbcneomjkfheaaDoor

set_option linter.unusedVariables false
set_option linter.unusedSimpArgs false
namespace Go.Proofs.YtkbcneomjkfheaaDoor
open Go.Hl
attribute [local irreducible] loadF zc sizeP bytesP vcBody pInvoke

theorem lay1 (x : Int) : lay (reps 1 (zc Tryd.prog 3)) [(0, (.int .i64 x))] = [.int .i64 x] := by rw [zc_int]; rfl
/-- container/heap.Push of a whole number. -/
theorem hpush_ok {h : Heap} {b off tb : Nat} {s : Sl} {l : List Int} {cs : List Value} {v : Int} (hb : h b = some (.row cs tb)) (hs : cs[off]? = some (.slice s.base s.len s.cap)) (o : Has 1 h s (ints l)) (hne : ¬ blk s b)
    (hu : HeapOk (fun x => l.getD x 0) l.length) (hl : l.length < 100000000) {KP K : Value → Pr}
    (k : ∀ (l' : List Int) s' h', l'.length = l.length + 1 → (∀ x, l'.count x = l.count x + (if v = x then 1 else 0)) → HeapOk (fun x => l'.getD x 0) l'.length → Has 1 h' s' (ints l') → (∀ bb, blk s' bb → blk s bb ∨ h bb = none) →
      h' b = some (.row (cs.set off (.slice s'.base s'.len s'.cap)) tb) → Upd (fun x => x = b ∨ blk s x) h h' → K (.tuple #[]) h') :
    WpCall Tryd.prog 19 #[(.iface 54 (.pointer (some ⟨b, off, none⟩))), .iface 3 (.int .i64 v)] KP K h := by
  have hlen : s.len = l.length := by have := o.len; rw [ints_len] at this; exact this
  have hoff : off < cs.length := (List.getElem?_eq_some_iff.1 hs).1
  refine container_heap_Push_call (.iface 54 (.pointer (some ⟨b, off, none⟩))) (.iface 3 (.int .i64 v)) ?_
  unfold container_heap_Push
  rw [inv_push, inv_len]
  refine inodes_free_Push_call (some ⟨b, off, none⟩) (.iface 3 (.int .i64 v)) ?_
  unfold inodes_free_Push
  simp only [pSome_some]
  refine ⟨v, rfl, ld_b (s := .slice) hb (x := s) hs ?_⟩
  intro b4 hb4
  rw [lay1]
  have n4 : b ≠ b4 := fun e => by subst e; rw [hb] at hb4; cases hb4
  have hle : Heap.le h (h.set b4 (.row [.int .i64 v] ([Value.int .i64 v] : List Value).length)) := Heap.le_set_new (Heap.le_refl _) hb4 _
  refine append_has (bytes := 8) (o.keep hle) (x := ⟨some ⟨b4, 0, none⟩, 1, 1⟩) (new := [.int .i64 v]) (by unfold Sl.vals; simp only; rw [vals_row (Heap.set_same _ _ _)]; rfl) (show (s.len + 1) * 8 ≤ 140737488355328 by omega) (fun u hu => by rw [List.mem_singleton.1 hu]; rfl) fun s' h' up o' hs' hl' => ?_
  have hb' : h' b = some (.row cs tb) := up b _ (hle b _ hb) hne
  have hne' : ¬ blk s' b := fun e => by
    rcases hs' b e with e | e
    · exact hne e
    · rw [hle b _ hb] at e; cases e
  refine st_b hb' hoff rfl ?_
  refine fgt_mk ⟨(), rfl, ?_⟩
  -- behind it
  have e1 : ints l ++ [.int .i64 v] = ints (l ++ [v]) := by simp [ints]
  rw [e1] at o'
  have hlen' : s'.len = (l ++ [v]).length := by rw [hl', hlen]; simp
  have hbl : (h'.set b (.row (cs.set off (.slice s'.base s'.len s'.cap)) tb)) b = some (.row (cs.set off (.slice s'.base s'.len s'.cap)) tb) := Heap.set_same _ _ _
  have hs2 : (cs.set off (.slice s'.base s'.len s'.cap))[off]? = some (.slice s'.base s'.len s'.cap) := by simp [hoff]
  refine ld_b (s := .slice) hbl (x := s') hs2 ?_
  refine flen_ok ⟨_, rfl, ?_⟩
  have hw : IntKind.i64.wrap ((s'.len : Int) - 1) = ((l.length : Nat) : Int) := by
    have : (l ++ [v]).length = l.length + 1 := by simp
    rw [hlen', this, wrap_small (by omega) (by omega)]; omega
  show pCall _ _ [_, .int .i64 (IntKind.i64.wrap ((s'.len : Int) - 1))] _ _ _ _
  rw [hw]
  obtain ⟨_, hc', ⟨e2, e3, _⟩ | ⟨bs, rest, tot, e2, e3, e4⟩⟩ := o'
  · rw [hlen'] at e3; simp at e3
  have hbs : (h'.set b (.row (cs.set off (.slice s'.base s'.len s'.cap)) tb)) bs = some (.row (ints (l ++ [v]) ++ rest) tot) := by
    rw [Heap.set_ne]
    · exact e3
    · rintro rfl; exact hne' ⟨_, e2, rfl⟩
  have hnb : b ≠ bs := fun e => hne' ⟨_, e2, e.symm⟩
  have hup : HeapUp (fun x => (l ++ [v]).getD x 0) (l ++ [v]).length l.length := by
    have := (hu.congr (g := fun x => (l ++ [v]).getD x 0) (fun c hc => by simp [List.getD_eq_getElem?_getD, List.getElem?_append_left hc])).push
    simpa using this
  refine up_ok hbl (by rw [hs2, e2, hlen']) hbs hnb (by simp) hup (by simp; omega) fun l' h1 h2 h3 => ⟨(), rfl, ?_⟩
  refine fgt_mk (k l' s' _ (by rw [h1]; simp) (fun x => by rw [h2, List.count_append, List.count_singleton]; simp only [beq_iff_eq]) (by rw [h1]; exact h3) ⟨by rw [ints_len, h1, hlen']; simp, hc', .inr ⟨bs, rest, tot, e2, Heap.set_same _ _ _, e4⟩⟩ ?_ ?_ ?_)
  · intro bb hbb
    rcases hs' bb hbb with q | q
    · exact .inl q
    · exact .inr (Heap.set_none.1 q).2
  · rw [Heap.set_ne _ _ hnb]; exact hbl
  · intro i y hy hn
    have q1 : i ≠ b := fun e => hn (.inl e)
    have q2 : i ≠ bs := fun e => by
      subst e
      rcases hs' i ⟨_, e2, rfl⟩ with q | q
      · exact hn (.inr q)
      · rw [hle i y hy] at q; cases q
    rw [Heap.set_ne _ _ q2, Heap.set_ne _ _ q1]
    exact up i y (hle i y hy) fun q => hn (.inr q)
end Go.Proofs.YtkbcneomjkfheaaDoor

set_option linter.unusedVariables false
set_option linter.unusedSimpArgs false
namespace Go.Proofs.YtkbcneomjkfheaaDoor
open Go.Hl
attribute [local irreducible] loadF zc sizeP bytesP vcBody pInvoke

theorem count_last (l : List Int) (n : Nat) (h : l.length = n + 1) (x : Int) : l.count x = (l.take n).count x + (if l.getD n 0 = x then 1 else 0) := by
  have e : l = l.take n ++ [l.getD n 0] := by
    have h1 : l.drop n = [l.getD n 0] := by
      rw [List.drop_eq_getElem_cons (by omega), List.drop_of_length_le (by omega)]
      simp [List.getD_eq_getElem?_getD, h]
    rw [← h1, List.take_append_drop]
  conv => lhs; rw [e]
  rw [List.count_append, List.count_singleton]
  simp only [beq_iff_eq]

/-- container/heap.Pop of whole numbers: the least one. -/
theorem hpop_ok {h : Heap} {b off tb : Nat} {s : Sl} {l : List Int} {cs : List Value} (hb : h b = some (.row cs tb)) (hs : cs[off]? = some (.slice s.base s.len s.cap)) (o : Has 1 h s (ints l)) (hne : ¬ blk s b)
    (hu : HeapOk (fun x => l.getD x 0) l.length) (hl : l.length < 100000000) (h0 : 0 < l.length) {KP K : Value → Pr}
    (k : ∀ (l' : List Int) s' h', l.length = l'.length + 1 → (∀ x, l.count x = l'.count x + (if l.getD 0 0 = x then 1 else 0)) → HeapOk (fun x => l'.getD x 0) l'.length → Has 1 h' s' (ints l') → (∀ bb, blk s' bb → blk s bb) →
      h' b = some (.row (cs.set off (.slice s'.base s'.len s'.cap)) tb) → Upd (fun x => x = b ∨ blk s x) h h' → K (.iface 3 (.int .i64 (l.getD 0 0))) h') :
    WpCall Tryd.prog 20 #[(.iface 54 (.pointer (some ⟨b, off, none⟩)))] KP K h := by
  have hlen : s.len = l.length := by have := o.len; rw [ints_len] at this; exact this
  have hoff : off < cs.length := (List.getElem?_eq_some_iff.1 hs).1
  obtain ⟨_, hc, ⟨e1, e2, _⟩ | ⟨bs, rest, tot, e1, e3, e4⟩⟩ := o
  · omega
  have hnb : b ≠ bs := fun e => hne ⟨_, e1, e.symm⟩
  obtain ⟨n, hn⟩ : ∃ n, l.length = n + 1 := ⟨l.length - 1, by omega⟩
  rw [e1, hlen] at hs
  refine container_heap_Pop_call (.iface 54 (.pointer (some ⟨b, off, none⟩))) ?_
  unfold container_heap_Pop
  rw [inv_len, inv_pop]
  simp only [inv_swap]
  refine ld_b (s := .slice) hb (x := ⟨some ⟨bs, 0, none⟩, l.length, s.cap⟩) hs ?_
  refine flen_ok ⟨_, rfl, ?_⟩
  have hw : IntKind.i64.wrap ((l.length : Int) - 1) = (n : Int) := by rw [hn, wrap_small (by omega) (by omega)]; omega
  simp only [hw]
  refine ld_b (s := .slice) hb (x := ⟨some ⟨bs, 0, none⟩, l.length, s.cap⟩) hs ?_
  refine fswap_ok (i := 0) (j := n) e3 rfl h0 (by omega) ⟨(), rfl, ?_⟩
  have hbl : ∀ X, (h.set bs X) b = some (.row cs tb) := fun X => Heap.look_ne hnb hb
  have hdn : HeapDn (fun x => (swL l 0 n).getD x 0) n 0 := by
    rw [show (fun x => (swL l 0 n).getD x 0) = sw (fun x => l.getD x 0) 0 n from funext fun x => swL_at l h0 (by omega) x]
    rw [hn] at hu
    exact hu.pop
  refine down_ok (i := 0) (n := n) (hbl _) (by rw [swL_len]; exact hs) (Heap.set_same _ _ _) hnb (by rw [swL_len]; omega) hdn (by omega) (by rw [swL_len]; omega) fun l1 r g1 g2 g3 g4 => ⟨r, rfl, ?_⟩
  rw [Heap.set_set]
  rw [swL_len, hn] at g1
  have hlast : l1.getD n 0 = l.getD 0 0 := by
    rw [g4 n (Nat.le_refl _), swL_at l h0 (by omega)]
    unfold sw
    by_cases q : n = 0
    · subst q; rfl
    · rw [if_neg q, if_pos rfl]
  refine inodes_free_Pop_call (some ⟨b, off, none⟩) ?_
  unfold inodes_free_Pop
  simp only [pSome_some]
  refine ld_b (s := .slice) (hbl _) (x := ⟨some ⟨bs, 0, none⟩, l.length, s.cap⟩) hs ?_
  simp only [hw, pSome_some, add_mk, Nat.zero_add, Int.toNat_natCast, Nat.mul_one, Int.toNat_zero, Nat.sub_zero, Option.map_some, ite_self]
  refine pIdx_i (by omega) (by omega) (ld_b (s := .int .i64) (Heap.set_same _ _ _) (x := l1.getD n 0) (ints_at l1 rest (by omega)) ?_)
  refine pAssert_i ⟨by omega, by omega, by omega⟩ ?_
  refine st_b (hbl _) hoff rfl ?_
  rw [hlast]
  refine fgt_mk ⟨_, rfl, fgt_mk ?_⟩
  have hsplit : ints l1 ++ rest = ints (l1.take n) ++ (ints (l1.drop n) ++ rest) := by
    rw [← List.append_assoc]; congr 1
    simp [ints, ← List.map_append]
  have hlen1 : (l1.take n).length = n := by simp; omega
  refine k (l1.take n) ⟨some ⟨bs, 0, none⟩, n, s.cap⟩ _ (by omega) (fun x => ?_) ?_ ⟨by rw [ints_len, hlen1]; simp, show n ≤ s.cap by omega, .inr ⟨bs, ints (l1.drop n) ++ rest, tot, rfl, ?_, e4⟩⟩ ?_ ?_ ?_
  · rw [← swL_count l h0 (j := n) (by omega), ← g2, count_last l1 n g1, hlast]
  · rw [hlen1]
    exact g3.congr fun c hc => by simp [List.getD_eq_getElem?_getD, List.getElem?_take, hc]
  · rw [Heap.set_ne _ _ (Ne.symm hnb), Heap.set_same, hsplit]
  · intro bb hbb; simp at hbb; subst hbb; exact ⟨_, e1, rfl⟩
  · exact Heap.set_same _ _ _
  · intro i y hy hnn
    have q1 : i ≠ b := fun e => hnn (.inl e)
    have q2 : i ≠ bs := fun e => hnn (.inr ⟨_, e1, e.symm⟩)
    rw [Heap.set_ne _ _ q1, Heap.set_ne _ _ q2]
    exact hy
end Go.Proofs.YtkbcneomjkfheaaDoor

set_option linter.unusedVariables false
set_option linter.unusedSimpArgs false
namespace Go.Proofs.YtkbcneomjkfheaaDoor
open Go.Hl
attribute [local irreducible] loadF zc sizeP bytesP vcBody pInvoke

def sepStr : ByteArray := ⟨#[47, 0]⟩

theorem encode_hi {c : Nat} (h : 128 ≤ c) : 2 ≤ (Utf8.encode c).size ∧ (Utf8.encode c).size ≤ 4 ∧ 128 ≤ byteAt (Utf8.encode c) ((Utf8.encode c).size - 1 : Nat) ∧ byteAt (Utf8.encode c) ((Utf8.encode c).size - 1 : Nat) < 256 := by
  have hb : ∀ n : Nat, (UInt8.ofNat (0x80 + n % 64)).toNat = 0x80 + n % 64 := fun n => by
    rw [UInt8.toNat_ofNat']; omega
  unfold Utf8.encode
  generalize hd : (if Utf8.valid (c : Int) = true then (c : Int).toNat else Utf8.runeError) = d
  have hd1 : 128 ≤ d := by
    rw [← hd]
    split
    · omega
    · decide
  simp only
  rw [if_neg (by omega)]
  have fin : ∀ (e : ByteArray) (x : UInt8) (n : Nat), e.size = n → 2 ≤ n → n ≤ 4 → byteAt e ((n - 1 : Nat) : Int) = x.toNat → x.toNat = 128 + d % 64 → 2 ≤ e.size ∧ e.size ≤ 4 ∧ 128 ≤ byteAt e ((e.size - 1 : Nat) : Int) ∧ byteAt e ((e.size - 1 : Nat) : Int) < 256 := fun e x n h1 h2 h3 h4 h5 => by
    rw [h1, h4, h5]; omega
  split
  · exact fin _ (UInt8.ofNat (128 + d % 64)) 2 rfl (by decide) (by decide) rfl (hb d)
  split
  · exact fin _ (UInt8.ofNat (128 + d % 64)) 3 rfl (by decide) (by decide) rfl (hb d)
  · exact fin _ (UInt8.ofNat (128 + d % 64)) 4 rfl (by decide) (by decide) rfl (hb d)

theorem decode_lo {s : ByteArray} {i : Nat} (h : (s.get! i).toNat < 128) : Utf8.decode s i = ((s.get! i).toNat, 1) := by
  unfold Utf8.decode
  simp only [Nat.add_zero]
  rw [if_pos (by omega)]
theorem decode_hi {s : ByteArray} {i : Nat} (hi : i < s.size) (h : ¬ (s.get! i).toNat < 128) : 128 ≤ (Utf8.decode s i).1 ∧ 1 ≤ (Utf8.decode s i).2 ∧ ∀ k, k < (Utf8.decode s i).2 → i + k < s.size ∧ ¬ (s.get! (i + k)).toNat < 128 := by
  have one : 128 ≤ Utf8.runeError ∧ 1 ≤ 1 ∧ ∀ k, k < 1 → i + k < s.size ∧ ¬ (s.get! (i + k)).toNat < 128 := ⟨by decide, Nat.le_refl _, fun k hk => by
    have : k = 0 := by omega
    subst this; exact ⟨hi, h⟩⟩
  unfold Utf8.decode
  simp only [Nat.add_zero]
  rw [if_neg h]
  split
  · rename_i hc
    simp only [Bool.and_eq_true, beq_iff_eq, decide_eq_true_eq] at hc
    split
    · rename_i h2
      refine ⟨h2, by simp, fun k hk => ?_⟩
      have : k = 0 ∨ k = 1 := by simp only at hk; omega
      rcases this with rfl | rfl
      · exact ⟨hi, h⟩
      · exact ⟨hc.2.1, by omega⟩
    · exact one
  split
  · rename_i hc
    simp only [Bool.and_eq_true, beq_iff_eq, decide_eq_true_eq] at hc
    split
    · rename_i h2
      simp only [Bool.and_eq_true, decide_eq_true_eq] at h2
      refine ⟨by simp only; omega, by simp, fun k hk => ?_⟩
      have : k = 0 ∨ k = 1 ∨ k = 2 := by simp only at hk; omega
      rcases this with rfl | rfl | rfl
      · exact ⟨hi, h⟩
      · exact ⟨hc.1.2.1, by omega⟩
      · exact ⟨hc.2.1, by omega⟩
    · exact one
  split
  · rename_i hc
    simp only [Bool.and_eq_true, beq_iff_eq, decide_eq_true_eq] at hc
    split
    · rename_i h2
      simp only [Bool.and_eq_true, decide_eq_true_eq] at h2
      refine ⟨by simp only; omega, by simp, fun k hk => ?_⟩
      have : k = 0 ∨ k = 1 ∨ k = 2 ∨ k = 3 := by simp only at hk; omega
      rcases this with rfl | rfl | rfl | rfl
      · exact ⟨hi, h⟩
      · exact ⟨hc.1.1.2.1, by omega⟩
      · exact ⟨hc.1.2.1, by omega⟩
      · exact ⟨hc.2.1, by omega⟩
    · exact one
  · exact one
end Go.Proofs.YtkbcneomjkfheaaDoor

set_option linter.unusedVariables false
set_option linter.unusedSimpArgs false
namespace Go.Proofs.YtkbcneomjkfheaaDoor
open Go.Hl
attribute [local irreducible] loadF zc sizeP bytesP vcBody pInvoke

theorem ext_ib : IsExtern Tryd.prog 89 Extern.BytealgIndexByte.indexByte :=
  ⟨fun args w => run_callFunc_extern Tryd.func89 (by kernel_rfl) (by kernel_rfl) (by kernel_rfl) (by kernel_rfl) args w⟩
theorem indexByte1_ok {h : Heap} {s : ByteArray} {c : Int} {KP K : Value → Pr} (k : K (.int .i64 (firstIdx s c.toNat.toUInt8)) h) : WpCall Tryd.prog 81 #[.string s, .int .u8 c] KP K h := by
  refine internal_stringslite_IndexByte_call s c ?_
  unfold internal_stringslite_IndexByte
  refine ext_ib.call (v := .int .i64 (firstIdx s c.toNat.toUInt8)) (fun w _ => run_indexByte_string s c w) ?_
  exact ⟨_, rfl, fgt_mk k⟩
theorem indexByte_ok {h : Heap} {s : ByteArray} {c : Int} {KP K : Value → Pr} (k : K (.int .i64 (firstIdx s c.toNat.toUInt8)) h) : WpCall Tryd.prog 87 #[.string s, .int .u8 c] KP K h := by
  refine strings_IndexByte_call s c ?_
  unfold strings_IndexByte
  refine indexByte1_ok ?_
  exact ⟨_, rfl, fgt_mk k⟩
theorem validRune_ok {h : Heap} {c : Int} {KP K : Value → Pr} (k : ∀ b, K (.bool b) h) : WpCall Tryd.prog 88 #[.int .i32 c] KP K h := by
  refine unicode_utf8_ValidRune_call c ?_
  unfold unicode_utf8_ValidRune
  simp only [pJoin_eq]
  unfold unicode_utf8_ValidRune_j2
  simp only [pJoin_eq]
  unfold unicode_utf8_ValidRune_j1
  have f : ∀ b, fgt K (.bool b) h := fun b => fgt_mk (k b)
  repeat' first | exact f _ | refine pIf_i (fun _ => ?_) (fun _ => ?_)

/-- Which of the two separators it is. -/
def sepAt (c : Nat) : Int := if c = 47 then 0 else if c = 0 then 1 else -1
theorem firstIdx_seps : ∀ c : Fin 128, firstIdx sepStr c.val.toUInt8 = sepAt c.val := by decide

theorem byteAt_lt (s : ByteArray) (i : Int) : 0 ≤ byteAt s i ∧ byteAt s i < 256 := by
  unfold byteAt
  have := ((s[i.toNat]?).getD 0).toNat_lt
  omega

theorem indexRune_ok {h : Heap} {c : Nat} (hc : c < 1114112) {KP K : Value → Pr} (k : ∀ h', Heap.le h h' → K (.int .i64 (sepAt c)) h') : WpCall Tryd.prog 75 #[.string sepStr, .int .i32 c] KP K h := by
  refine strings_IndexRune_call sepStr c ?_
  unfold strings_IndexRune
  rw [pJoin_eq]
  unfold strings_IndexRune_j5
  refine pIf_t (by simp) ?_
  refine pIf_i (fun hz => ?_) (fun hz => ?_)
  · have hz : c < 128 := by simp at hz; omega
    have hw : IntKind.u8.wrap (c : Int) = c := by simp only [IntKind.wrap, IntKind.bits, IntKind.signed]; simp; omega
    rw [hw]
    refine indexByte_ok ⟨_, rfl, ?_⟩
    have := firstIdx_seps ⟨c, hz⟩
    rw [Int.toNat_natCast, this]
    exact fgt_mk (k h (Heap.le_refl _))
  · have hz : ¬ c < 128 := by simp at hz; omega
    have hneg : sepAt c = -1 := by unfold sepAt; rw [if_neg (by omega), if_neg (by omega)]
    rw [hneg] at k
    refine pIf_i (fun hy => ?_) (fun hy => ?_)
    · intro b hb
      have hle : ∀ X, Heap.le h (h.set b X) := fun X => Heap.le_set_new (Heap.le_refl _) hb X
      refine ⟨3, ?_⟩
      unfold iter
      unfold strings_IndexRune_l1
      refine ⟨sepStr, 0, Heap.set_same _ _ _, fun _ => ?_, fun hn => absurd (by decide) hn⟩
      refine pIf_f (by decide) ?_
      unfold iter
      refine ⟨sepStr, 1, Heap.set_same _ _ _, fun _ => ?_, fun hn => absurd (by decide) hn⟩
      refine pIf_f (by decide) ?_
      unfold iter
      refine ⟨sepStr, 2, Heap.set_same _ _ _, fun hn => absurd hn (by decide), fun _ => ?_⟩
      simp only [Heap.set_set]
      exact fgt_mk (k _ (hle _))
    · obtain ⟨e1, e2, e3, e4⟩ := encode_hi (c := c) (by omega)
      refine validRune_ok fun b => ⟨b, rfl, ?_⟩
      refine pIf_i (fun _ => fgt_mk (k h (Heap.le_refl _))) (fun _ => ?_)
      have hw : IntKind.i64.wrap (((Utf8.encode (c : Int)).size : Int) - 1) = (((Utf8.encode (c : Int)).size - 1 : Nat) : Int) := by rw [wrap_small (by omega) (by omega)]; omega
      rw [hw]
      refine ⟨1, ?_⟩
      unfold iter
      unfold strings_IndexRune_l4
      refine pIf_i (fun hx => ?_) (fun hx => fgt_mk (k h (Heap.le_refl _)))
      have hs2 : sepStr.size = 2 := rfl
      have hx : (Utf8.encode (c : Int)).size - 1 = 1 := by rw [hs2] at hx; simp at hx; omega
      rw [pJoin_eq]
      simp only [hw, hx]
      rw [hx] at e3
      refine pIdx_i (by decide) (by decide) (pIdx_i (by decide) (by omega) ?_)
      have hb1 : byteAt sepStr ((1 : Nat) : Int) = 0 := by decide
      refine pIf_t (by rw [hb1]; simp only [bne_iff_ne, ne_eq]; omega) ?_
      refine pAssert_i (by decide) (pIdx_i (by decide) (by omega) ?_)
      refine indexByte_ok ⟨_, rfl, ?_⟩
      refine pIf_t ?_ (fgt_mk (k h (Heap.le_refl _)))
      have : sepStr.extract (IntKind.i64.wrap (((1 : Nat) : Int) + 1)).toNat (((sepStr.size : Int)).toNat) = ⟨#[]⟩ := by decide
      rw [this]
      have he : ∀ x, firstIdx ⟨#[]⟩ x = -1 := fun x => rfl
      rw [he]; decide
end Go.Proofs.YtkbcneomjkfheaaDoor

set_option linter.unusedVariables false
set_option linter.unusedSimpArgs false
namespace Go.Proofs.YtkbcneomjkfheaaDoor
open Go.Hl
attribute [local irreducible] loadF zc sizeP bytesP vcBody pInvoke

theorem pLoop_ruleN {σ : Type} {body : σ → (σ → Pr) → Pr} (I : Nat → σ → Heap → Prop) (step : ∀ n s h (k : σ → Pr), I n s h → (∀ m s' h', m < n → I m s' h' → k s' h') → body s k h) {n : Nat} {s : σ} {h : Heap} (hi : I n s h) : pLoop body s h := by
  have key : ∀ N n s h, n < N → I n s h → iter body N s h := by
    intro N
    induction N with
    | zero => intro n s h hn; omega
    | succ N ih => intro n s h hn hi; exact step n s h _ hi fun m s' h' hm hi' => ih m s' h' (by omega) hi'
  exact ⟨n + 1, key (n + 1) n s h (Nat.lt_succ_self _) hi⟩

theorem get_byteAt {s : ByteArray} {q : Nat} (hq : q < s.size) : ((s.get! q).toNat : Int) = byteAt s q := by
  have h1 : s.get! q = s.data[q]! := rfl
  have h2 : s[q]? = some s.data[q] := by simp [hq]; rfl
  unfold byteAt
  rw [Int.toNat_natCast, h2, h1]
  have h3 : s.data[q]! = s.data[q] := getElem!_pos s.data q hq
  rw [h3]; rfl

def sepB (s : ByteArray) (q : Nat) : Bool := byteAt s q == 47 || byteAt s q == 0
def hasSep (s : ByteArray) : Bool := (List.range s.size).any (sepB s)
theorem hasSep_iff {s : ByteArray} : hasSep s = true ↔ ∃ q, q < s.size ∧ sepB s q = true := by simp [hasSep]

theorem decode_le (s : ByteArray) (i : Nat) : (Utf8.decode s i).1 < 1114112 := by
  have hb : ∀ k, (s.get! k).toNat < 256 := fun k => (s.get! k).toNat_lt
  have hv : ∀ c : Nat, Utf8.valid c = true → c < 1114112 := fun c h => by
    unfold Utf8.valid at h
    simp at h; omega
  unfold Utf8.decode
  simp only
  split
  · simp only; omega
  split
  · split
    · simp only; have := hb (i + 0); omega
    · decide
  split
  · split
    · rename_i h2; simp only [Bool.and_eq_true] at h2; exact hv _ h2.2
    · decide
  split
  · split
    · rename_i h2; simp only [Bool.and_eq_true] at h2; exact hv _ h2.2
    · decide
  · decide

theorem indexAny_ok {h : Heap} {s : ByteArray} (hs : s.size ≤ 8) {KP K : Value → Pr} (k : ∀ (i : Int) h', Heap.le h h' → (decide (i ≥ 0) = hasSep s) → K (.int .i64 i) h') : WpCall Tryd.prog 59 #[.string s, .string sepStr] KP K h := by
  refine strings_IndexAny_call s sepStr ?_
  unfold strings_IndexAny
  refine pIf_f (by kernel_rfl) (pIf_f (by kernel_rfl) ?_)
  rw [pJoin_eq]
  refine strings_shouldUseASCIISet_call (s.size : Int) ?_
  unfold strings_shouldUseASCIISet
  refine fgt_mk ⟨_, rfl, ?_⟩
  refine pIf_f (by simp; omega) ?_
  unfold strings_IndexAny_j4
  intro b hb
  refine pLoop_ruleN (fun n (_ : Unit) H => ∃ pos, n = s.size - pos ∧ H b = some (.obj (.stringIter s pos)) ∧ Heap.le h H ∧ pos ≤ s.size ∧ ∀ q, q < pos → sepB s q = false) ?_ ⟨0, rfl, Heap.set_same _ _ _, Heap.le_set_new (Heap.le_refl _) hb _, Nat.zero_le _, fun q hq => by omega⟩
  rintro n ⟨⟩ H kk ⟨pos, rfl, hbl, hle, hpos, hno⟩ hk
  unfold strings_IndexAny_l3
  refine ⟨s, pos, hbl, fun hlt => ?_, fun hge => ?_⟩
  · have hle2 : ∀ X, Heap.le h (H.set b X) := fun X i x hx => by
      rw [Heap.set_ne _ _ (fun e => by subst e; rw [hb] at hx; cases hx)]; exact hle i x hx
    have hg := get_byteAt hlt
    by_cases hz : (s.get! pos).toNat < 128
    · rw [decode_lo hz]
      refine indexRune_ok (by omega) fun h' hle' => ⟨_, rfl, ?_⟩
      refine pIf_i (fun hy => ?_) (fun hy => ?_)
      · have hsep : sepB s pos = true := by
          unfold sepB; rw [← hg]
          unfold sepAt at hy
          split at hy
          · simp_all
          · split at hy
            · simp_all
            · simp at hy
        refine fgt_mk (k _ _ (Heap.le_trans (hle2 _) hle') ?_)
        rw [hasSep_iff.2 ⟨pos, hlt, hsep⟩]; simp
      · have hsep : sepB s pos = false := by
          unfold sepB; rw [← hg]
          unfold sepAt at hy
          split at hy
          · simp at hy
          · split at hy
            · simp at hy
            · simp; omega
        refine hk _ () _ ?_ ⟨pos + 1, rfl, hle' _ _ (Heap.set_same _ _ _), Heap.le_trans (hle2 _) hle', by omega, fun q hq => ?_⟩
        · omega
        · by_cases e : q = pos
          · subst e; exact hsep
          · exact hno q (by omega)
    · obtain ⟨d1, d2, d3⟩ := decode_hi hlt hz
      have hc : (Utf8.decode s pos).1 < 1114112 := decode_le s pos
      have hneg : sepAt (Utf8.decode s pos).1 = -1 := by unfold sepAt; rw [if_neg (by omega), if_neg (by omega)]
      have hno2 : ∀ q, pos ≤ q → q < pos + (Utf8.decode s pos).2 → sepB s q = false := fun q q1 q2 => by
        obtain ⟨g1, g2⟩ := d3 (q - pos) (by omega)
        rw [show pos + (q - pos) = q by omega] at g1 g2
        have := get_byteAt g1
        unfold sepB; rw [← this]; simp; omega
      have hend : pos + (Utf8.decode s pos).2 ≤ s.size := by
        have := (d3 ((Utf8.decode s pos).2 - 1) (by omega)).1; omega
      refine indexRune_ok hc fun h' hle' => ⟨_, rfl, ?_⟩
      rw [hneg]
      refine pIf_f rfl ?_
      refine hk _ () _ ?_ ⟨pos + (Utf8.decode s pos).2, rfl, hle' _ _ (Heap.set_same _ _ _), Heap.le_trans (hle2 _) hle', hend, fun q hq => ?_⟩
      · omega
      · by_cases e : q < pos
        · exact hno q e
        · exact hno2 q (by omega) hq
  · have hno' : hasSep s = false := by
      cases hh : hasSep s with
      | false => rfl
      | true => obtain ⟨q, q1, q2⟩ := hasSep_iff.1 hh; rw [hno q (by omega)] at q2; cases q2
    exact fgt_mk (k (-1) H hle (by rw [hno']; rfl))
end Go.Proofs.YtkbcneomjkfheaaDoor

set_option linter.unusedVariables false
set_option linter.unusedSimpArgs false
namespace Go.Proofs.YtkbcneomjkfheaaDoor
open Go.Hl
attribute [local irreducible] loadF zc sizeP bytesP vcBody pInvoke

theorem containsAny_ok {h : Heap} {s : ByteArray} (hs : s.size ≤ 8) {KP K : Value → Pr} (k : ∀ h', Heap.le h h' → K (.bool (hasSep s)) h') : WpCall Tryd.prog 36 #[.string s, .string sepStr] KP K h := by
  refine strings_ContainsAny_call s sepStr ?_
  unfold strings_ContainsAny
  refine indexAny_ok hs fun i h' hle hi => ⟨_, rfl, ?_⟩
  have hi' : decide ((i : Int) ≥ 0) = hasSep s := hi
  simp only [hi']
  exact fgt_mk (k h' hle)

/-- Is a text a name? -/
def isName (s : ByteArray) : Bool := !strEq s ⟨#[]⟩ && decide (s.size ≤ 8) && !strEq s ⟨#[46]⟩ && !strEq s ⟨#[46, 46]⟩ && !hasSep s

theorem isName_ok {h : Heap} {s : ByteArray} {KP K : Value → Pr} (k : ∀ h', Heap.le h h' → K (.bool (isName s)) h') : WpCall Tryd.prog 22 #[.string s] KP K h := by
  refine inodes_IsName_call s ?_
  unfold inodes_IsName
  rw [pJoin_eq]
  unfold inodes_IsName_j1 isName at *
  have here : fgt K (.bool _) h := fgt_mk (k h (Heap.le_refl _))
  refine pIf_i (fun h1 => ?_) (fun h1 => ?_)
  · refine pIf_i (fun h2 => ?_) (fun h2 => ?_)
    · have h2 : s.size ≤ 8 := by simp at h2; omega
      refine pIf_i (fun h3 => ?_) (fun h3 => ?_)
      · refine pIf_i (fun h4 => ?_) (fun h4 => ?_)
        · refine containsAny_ok h2 fun h' hle => ⟨_, rfl, fgt_mk ?_⟩
          have := k h' hle
          simpa [h1, h2, h3, h4] using this
        · simpa [h1, h2, h3, h4] using here
      · simpa [h1, h2, h3] using here
    · have h2 : ¬ s.size ≤ 8 := by simp at h2; omega
      simpa [h1, h2] using here
  · simpa [h1] using here

theorem strEq_iff {a b : ByteArray} : strEq a b = true ↔ a = b := by
  unfold strEq
  rw [ByteArray.toList_eq, ByteArray.toList_eq, beq_iff_eq]
  constructor
  · intro h
    cases a; cases b
    simp only [Array.toList_inj] at h
    rw [h]
  · rintro rfl; rfl
theorem strEq_self (a : ByteArray) : strEq a a = true := strEq_iff.2 rfl
theorem strEq_size {a b : ByteArray} (h : a.size ≠ b.size) : strEq a b = false := by
  cases e : strEq a b with
  | false => rfl
  | true => rw [strEq_iff.1 e] at h; exact absurd rfl h
theorem empty_iff {s : ByteArray} : strEq s ⟨#[]⟩ = decide (s.size = 0) := by
  by_cases h : s.size = 0
  · have : s = ⟨#[]⟩ := by
      cases s with
      | mk d => simp only [ByteArray.size] at h; congr 1; exact Array.eq_empty_of_size_eq_zero h
    rw [this]; decide +kernel
  · rw [strEq_size (b := ⟨#[]⟩) h]; simp [h]
end Go.Proofs.YtkbcneomjkfheaaDoor

set_option linter.unusedVariables false
set_option linter.unusedSimpArgs false
namespace Go.Proofs.YtkbcneomjkfheaaDoor
open Go.Hl
attribute [local irreducible] loadF zc sizeP bytesP vcBody pInvoke

theorem refName_ok {h : Heap} {s : ByteArray} {KP K : Value → Pr} (k : K (.bool (isName s)) h) : WpCall Tryd.prog 71 #[.string s] KP K h := by
  refine ref21_Name_call s ?_
  unfold ref21_Name
  rw [pJoin_eq]
  unfold ref21_Name_j3
  unfold isName at k
  rw [empty_iff] at k
  refine pIf_i (fun h1 => ?_) (fun h1 => ?_)
  · have h1 : s.size = 0 := by simp at h1; omega
    refine pIf_t rfl (fgt_mk ?_)
    simpa [h1] using k
  have h1 : ¬ s.size = 0 := by simp at h1; omega
  refine pIf_i (fun h2 => ?_) (fun h2 => ?_)
  · have h2 : ¬ s.size ≤ 8 := by simp at h2; omega
    refine pIf_t rfl (fgt_mk ?_)
    simpa [h1, h2] using k
  have h2 : s.size ≤ 8 := by simp at h2; omega
  refine pIf_i (fun h3 => ?_) (fun h3 => ?_)
  · refine pIf_t rfl (fgt_mk ?_)
    simpa [h1, h2, h3] using k
  refine pIf_i (fun (h4 : strEq s ⟨#[46, 46]⟩ = true) => ?_) (fun (h4 : strEq s ⟨#[46, 46]⟩ = false) => ?_)
  · refine fgt_mk ?_
    simpa [h1, h2, h3, h4] using k
  have k : K (.bool (!hasSep s)) h := by simpa [h1, h2, h3, h4] using k
  refine pLoop_rule (fun (q : Int × Unit) H => H = h ∧ ∃ a : Nat, q.1 = a ∧ a ≤ s.size ∧ ∀ x, x < a → sepB s x = false) (fun q => (s.size - q.1).toNat) ?_ ?_
  rotate_left
  · exact ⟨rfl, 0, rfl, Nat.zero_le _, fun x hx => by omega⟩
  rintro ⟨x4, ⟨⟩⟩ H kk ⟨rfl, a, ha, hle, hno⟩ hk
  simp only at ha hk ⊢
  subst ha
  unfold ref21_Name_l2 ref21_Name_j1
  refine pIf_i (fun hz => ?_) (fun hz => ?_)
  · have hz : a < s.size := by simpa using hz
    rw [pJoin_eq]
    have yes : sepB s a = true → fgt K (.bool false) H := fun hs => by
      rw [hasSep_iff.2 ⟨a, hz, hs⟩] at k
      exact fgt_mk k
    refine pIdx_i (by omega) (by omega) (pIf_i (fun hy => ?_) (fun hy => ?_))
    · exact pIf_t rfl (yes (by unfold sepB; rw [hy]; rfl))
    · refine pIdx_i (by omega) (by omega) (pIf_i (fun (hw : (byteAt s (a : Int) == 0) = true) => ?_) (fun (hw : (byteAt s (a : Int) == 0) = false) => ?_))
      · exact yes (by unfold sepB; rw [hw]; simp)
      · rw [wrap_small (by omega) (by omega)]
        refine hk _ _ ⟨rfl, a + 1, by simp, by omega, fun x hx => ?_⟩ (by simp only; omega)
        by_cases e : x = a
        · subst e; unfold sepB; rw [hy, hw]; rfl
        · exact hno x (by omega)
  · have hz : ¬ a < s.size := by simpa using hz
    have hno' : hasSep s = false := by
      cases hh : hasSep s with
      | false => rfl
      | true => obtain ⟨q, q1, q2⟩ := hasSep_iff.1 hh; rw [hno q (by omega)] at q2; cases q2
    rw [hno'] at k
    exact fgt_mk k
end Go.Proofs.YtkbcneomjkfheaaDoor

set_option linter.unusedVariables false
set_option linter.unusedSimpArgs false
namespace Go.Proofs.YtkbcneomjkfheaaDoor
open Go.Hl
attribute [local irreducible] loadF zc sizeP bytesP vcBody pInvoke

/-- An inode. -/
structure Ind where
  ino : Int := 0
  gen : Int := 0
  kind : Int := 0
  mode : Int := 0
  uid : Int := 0
  gid : Int := 0
  links : Int := 0
  data : ByteArray := ⟨#[]⟩
  names : List ByteArray := []
  inos : List Int := []
  up : Int := 0
instance : Inhabited Ind := ⟨{}⟩

def nil0 : Sl := ⟨none, 0, 0⟩
/-- Its cells, where its names and inodes lie in these slices. -/
def encI (x : Ind) (n i : Sl) : List Value :=
  [.int .i64 x.ino, .int .i64 x.gen, .int .i64 x.kind, .int .i64 x.mode, .int .i64 x.uid, .int .i64 x.gid, .int .i64 x.links, .string x.data, .slice n.base n.len n.cap, .slice i.base i.len i.cap, .int .i64 x.up]
abbrev Pl := Ind × Sl × Sl
def encP (p : Pl) : List Value := encI p.1 p.2.1 p.2.2
theorem encP_len (p : Pl) : (encP p).length = 11 := rfl

/-- The places. -/
def plc (T : List Ind) (N I : List Sl) : List Pl := (List.range T.length).map fun i => (T.getD i default, N.getD i nil0, I.getD i nil0)
theorem plc_len (T : List Ind) (N I : List Sl) : (plc T N I).length = T.length := by simp [plc]
theorem plc_at (T : List Ind) (N I : List Sl) {i : Nat} (h : i < T.length) : (plc T N I)[i]'(by rw [plc_len]; exact h) = (T.getD i default, N.getD i nil0, I.getD i nil0) := by simp [plc]
theorem plc_set {T : List Ind} {N I : List Sl} (hN : N.length = T.length) (hI : I.length = T.length) {i : Nat} (h : i < T.length) (t : Ind) (n k : Sl) :
    plc (T.set i t) (N.set i n) (I.set i k) = (plc T N I).set i (t, n, k) := by
  apply List.ext_getElem
  · simp [plc]
  intro j h1 h2
  have hj : j < T.length := by simpa [plc] using h1
  rw [plc_at _ _ _ (by simpa using hj), List.getElem_set]
  by_cases e : i = j
  · subst e
    simp [List.getD_eq_getElem?_getD, List.getElem?_set, h, hN, hI]
  · rw [if_neg e, plc_at _ _ _ hj]
    simp [List.getD_eq_getElem?_getD, List.getElem?_set, e]
theorem set_same {α : Type} {l : List α} {i : Nat} {d : α} (h : i < l.length) : l.set i (l.getD i d) = l := by
  apply List.ext_getElem (by simp)
  intro j h1 h2
  rw [List.getElem_set]
  split
  · rename_i e; subst e; simp [List.getD_eq_getElem?_getD, h]
  · rfl

/-- The cells of a table. -/
def encT (T : List Ind) (N I : List Sl) : List Value := (plc T N I).flatMap encP
def strs (l : List ByteArray) : List Value := l.map .string

/-- The program's table at a block: its cells, and its slices, each alone. -/
structure Tab (h : Heap) (b : Nat) (T : List Ind) (N I : List Sl) (fr : Sl) (F : List Int) : Prop where
  lenT : T.length = 25
  lenN : N.length = 25
  lenI : I.length = 25
  row : h b = some (.row (encT T N I ++ [.slice fr.base fr.len fr.cap]) 276)
  pool : Pool h (fun x => x = b) (fr :: (N ++ I)) (ints F :: (T.map (fun t => strs t.names) ++ T.map (fun t => ints t.inos)))

theorem encT_len (T : List Ind) (N I : List Sl) : (encT T N I).length = T.length * 11 := by
  unfold encT
  rw [flat_len encP 11 encP_len, plc_len]
theorem encT_at {T : List Ind} {N I : List Sl} {i k : Nat} (h : i < T.length) (hk : k < 11) : (encT T N I)[i * 11 + k]? = (encI (T.getD i default) (N.getD i nil0) (I.getD i nil0))[k]? := by
  unfold encT
  rw [flat_get encP 11 encP_len _ _ _ (by rw [plc_len]; exact h) hk, plc_at _ _ _ h]
  rfl
end Go.Proofs.YtkbcneomjkfheaaDoor

set_option linter.unusedVariables false
set_option linter.unusedSimpArgs false
namespace Go.Proofs.YtkbcneomjkfheaaDoor
open Go.Hl
attribute [local irreducible] loadF zc sizeP bytesP vcBody pInvoke

theorem Tab.cell {h : Heap} {b : Nat} {T : List Ind} {N I : List Sl} {fr : Sl} {F : List Int} (t : Tab h b T N I fr F) {i k : Nat} (hi : i < 25) (hk : k < 11) :
    (encT T N I ++ [Value.slice fr.base fr.len fr.cap])[i * 11 + k]? = (encI (T.getD i default) (N.getD i nil0) (I.getD i nil0))[k]? := by
  rw [List.getElem?_append_left (by rw [encT_len, t.lenT]; omega)]
  exact encT_at (by rw [t.lenT]; exact hi) hk
theorem Tab.free {h : Heap} {b : Nat} {T : List Ind} {N I : List Sl} {fr : Sl} {F : List Int} (t : Tab h b T N I fr F) :
    (encT T N I ++ [Value.slice fr.base fr.len fr.cap])[275]? = some (.slice fr.base fr.len fr.cap) := by
  rw [List.getElem?_append_right (by rw [encT_len, t.lenT]; omega), encT_len, t.lenT]; rfl
theorem Tab.hasF {h : Heap} {b : Nat} {T : List Ind} {N I : List Sl} {fr : Sl} {F : List Int} (t : Tab h b T N I fr F) : Has 1 h fr (ints F) := t.pool.has 0 (by simp)
theorem Tab.hasN {h : Heap} {b : Nat} {T : List Ind} {N I : List Sl} {fr : Sl} {F : List Int} (t : Tab h b T N I fr F) {i : Nat} (hi : i < 25) : Has 1 h (N.getD i nil0) (strs (T.getD i default).names) := by
  have hN := t.lenN; have hI := t.lenI; have hT := t.lenT
  have := t.pool.has (i + 1) (by simp; omega)
  simp only [List.getElem_cons_succ] at this
  rw [List.getElem_append_left (by omega), List.getElem_append_left (by simp; omega)] at this
  simpa [List.getD_eq_getElem?_getD, hi, hN, hT] using this
theorem Tab.hasI {h : Heap} {b : Nat} {T : List Ind} {N I : List Sl} {fr : Sl} {F : List Int} (t : Tab h b T N I fr F) {i : Nat} (hi : i < 25) : Has 1 h (I.getD i nil0) (ints (T.getD i default).inos) := by
  have hN := t.lenN; have hI := t.lenI; have hT := t.lenT
  have := t.pool.has (25 + i + 1) (by simp; omega)
  simp only [List.getElem_cons_succ] at this
  rw [List.getElem_append_right (by omega), List.getElem_append_right (by simp; omega)] at this
  simpa [List.getD_eq_getElem?_getD, hi, hN, hT, hI] using this

/-- Is there such an inode? -/
def hasB (T : List Ind) (ino : Int) : Bool := decide (1 ≤ ino) && decide (ino < 25) && (T.getD ino.toNat default).kind != 0

theorem at_ok {h : Heap} {b : Nat} {T : List Ind} {N I : List Sl} {fr : Sl} {F : List Int} (t : Tab h b T N I fr F) {ino : Int} {KP K : Value → Pr} (k : K (.pointer (if hasB T ino = true then some ⟨b, ino.toNat * 11, none⟩ else none)) h) :
    WpCall Tryd.prog 21 #[.pointer (some ⟨b, 0, none⟩), .int .i64 ino] KP K h := by
  refine inodes_Table_at_call (some ⟨b, 0, none⟩) ino ?_
  unfold inodes_Table_at
  rw [pJoin_eq]
  unfold inodes_Table_at_j1
  simp only [pSome_some, add_mk, Nat.zero_add, Nat.add_zero]
  refine pIf_f rfl (pIf_i (fun h1 => ?_) (fun h1 => ?_))
  · have h1 : ino < 1 := by simpa using h1
    rw [show hasB T ino = false by unfold hasB; simp; omega] at k
    exact pIf_t rfl (fgt_mk k)
  have h1 : ¬ ino < 1 := by simpa using h1
  refine pIf_i (fun h2 => ?_) (fun h2 => ?_)
  · have h2 : ino ≥ 25 := by simpa using h2
    rw [show hasB T ino = false by unfold hasB; simp; omega] at k
    exact pIf_t rfl (fgt_mk k)
  have h2 : ¬ ino ≥ 25 := by simpa using h2
  refine pIdx_i (by omega) (by omega) (ld_b (s := .int .i64) t.row (x := (T.getD ino.toNat default).kind) (by rw [t.cell (by omega) (by omega)]; rfl) ?_)
  refine pIf_i (fun (h3 : ((T.getD ino.toNat default).kind == 0) = true) => ?_) (fun (h3 : ((T.getD ino.toNat default).kind == 0) = false) => ?_)
  · rw [show hasB T ino = false by unfold hasB; rw [bne, h3]; simp] at k
    exact fgt_mk k
  · rw [show hasB T ino = true by unfold hasB; rw [bne, h3]; simp; omega] at k
    exact pIdx_i (by omega) (by omega) (fgt_mk k)
end Go.Proofs.YtkbcneomjkfheaaDoor

set_option linter.unusedVariables false
set_option linter.unusedSimpArgs false
namespace Go.Proofs.YtkbcneomjkfheaaDoor
open Go.Hl
attribute [local irreducible] loadF zc sizeP bytesP vcBody pInvoke

theorem encT_set {T : List Ind} {N I : List Sl} (hN : N.length = T.length) (hI : I.length = T.length) {i k : Nat} (hi : i < T.length) (hk : k < 11) {v : Value} {t' : Ind} {n' k' : Sl} (he : encI t' n' k' = (encI (T.getD i default) (N.getD i nil0) (I.getD i nil0)).set k v) :
    (encT T N I).set (i * 11 + k) v = encT (T.set i t') (N.set i n') (I.set i k') := by
  unfold encT
  rw [plc_set hN hI hi]
  exact flat_set encP 11 encP_len (plc T N I) i k v (t', n', k') (by rw [plc_len]; exact hi) hk (by rw [plc_at _ _ _ hi]; exact he)

/-- A field that is no slice turns. -/
theorem Tab.put {h : Heap} {b : Nat} {T : List Ind} {N I : List Sl} {fr : Sl} {F : List Int} (t : Tab h b T N I fr F) {i k : Nat} (hi : i < 25) (hk : k < 11) {v : Value} {t' : Ind} (he : encI t' (N.getD i nil0) (I.getD i nil0) = (encI (T.getD i default) (N.getD i nil0) (I.getD i nil0)).set k v)
    (hn : t'.names = (T.getD i default).names) (hs : t'.inos = (T.getD i default).inos) :
    Tab (h.set b (.row ((encT T N I ++ [Value.slice fr.base fr.len fr.cap]).set (i * 11 + k) v) 276)) b (T.set i t') N I fr F := by
  refine ⟨by rw [List.length_set]; exact t.lenT, t.lenN, t.lenI, ?_, ?_⟩
  · rw [Heap.set_same, List.set_append_left _ _ (by rw [encT_len, t.lenT]; omega), encT_set (by rw [t.lenN, t.lenT]) (by rw [t.lenI, t.lenT]) (by rw [t.lenT]; exact hi) hk he, set_same (by rw [t.lenN]; exact hi), set_same (by rw [t.lenI]; exact hi)]
  · have e1 : (T.set i t').map (fun t => strs t.names) = T.map (fun t => strs t.names) := by
      rw [List.map_set, hn]
      have : (T.map (fun t => strs t.names)).getD i (strs (default : Ind).names) = strs (T.getD i default).names := by simp [List.getD_eq_getElem?_getD, t.lenT, hi]
      rw [← this]
      exact set_same (by simp [t.lenT, hi])
    have e2 : (T.set i t').map (fun t => ints t.inos) = T.map (fun t => ints t.inos) := by
      rw [List.map_set, hs]
      have : (T.map (fun t => ints t.inos)).getD i (ints (default : Ind).inos) = ints (T.getD i default).inos := by simp [List.getD_eq_getElem?_getD, t.lenT, hi]
      rw [← this]
      exact set_same (by simp [t.lenT, hi])
    rw [e1, e2]
    refine t.pool.upd (F := fun x => x = b) (Upd.set (.inl rfl)) fun x hx hf => ?_
    obtain ⟨s, hs, hb⟩ := hf
    obtain ⟨j, hj, rfl⟩ := List.getElem_of_mem hs
    exact t.pool.root j hj x hb hx

/-- A table whose blocks are all among G. -/
def TabF (h : Heap) (b : Nat) (T : List Ind) (F : List Int) (G : Nat → Prop) : Prop := ∃ N I fr, Tab h b T N I fr F ∧ ∀ x, x = b ∨ foot (fr :: (N ++ I)) x → G x
/-- G, and what is new. -/
def More (G : Nat → Prop) (h : Heap) : Nat → Prop := fun x => G x ∨ h x = none
theorem TabF.more {h : Heap} {b : Nat} {T : List Ind} {F : List Int} {G G' : Nat → Prop} (t : TabF h b T F G) (m : ∀ x, G x → G' x) : TabF h b T F G' := by
  obtain ⟨N, I, fr, t, g⟩ := t
  exact ⟨N, I, fr, t, fun x hx => m x (g x hx)⟩
theorem Tab.upd {h h' : Heap} {b : Nat} {T : List Ind} {N I : List Sl} {fr : Sl} {F : List Int} (t : Tab h b T N I fr F) {U : Nat → Prop} (u : Upd U h h') (d : ∀ x, x = b ∨ foot (fr :: (N ++ I)) x → ¬ U x) : Tab h' b T N I fr F :=
  ⟨t.lenT, t.lenN, t.lenI, u _ _ t.row (d b (.inl rfl)), t.pool.upd u fun x hx hf => d x (.inr hf) hx⟩
theorem TabF.upd {h h' : Heap} {b : Nat} {T : List Ind} {F : List Int} {G U : Nat → Prop} (t : TabF h b T F G) (u : Upd U h h') (d : ∀ x, G x → ¬ U x) : TabF h' b T F G := by
  obtain ⟨N, I, fr, t, g⟩ := t
  exact ⟨N, I, fr, t.upd u fun x hx => d x (g x hx), g⟩
theorem TabF.keep {h h' : Heap} {b : Nat} {T : List Ind} {F : List Int} {G : Nat → Prop} (t : TabF h b T F G) (l : Heap.le h h') : TabF h' b T F G := t.upd (Upd.of_le (F := fun _ => False) l) fun _ _ h => h

/-- Write: the table, an error's number. -/
def writeF (T : List Ind) (ino : Int) (d : ByteArray) : List Ind × Int :=
  if hasB T ino = true then
    let x := T.getD ino.toNat default
    if x.kind = 2 then (T, 22) else if d.size > 32 then (T, 27) else (T.set ino.toNat { x with data := d }, 0)
  else (T, 2)
theorem hasB_range {T : List Ind} {ino : Int} (h : hasB T ino = true) : 1 ≤ ino ∧ ino < 25 := by
  unfold hasB at h; simp at h; omega
theorem write_ok {h : Heap} {b : Nat} {T : List Ind} {F : List Int} {G : Nat → Prop} (t : TabF h b T F G) {ino : Int} {d : ByteArray} {KP K : Value → Pr}
    (k : ∀ h', TabF h' b (writeF T ino d).1 F G → Upd G h h' → K (.int .i64 (writeF T ino d).2) h') : WpCall Tryd.prog 13 #[.pointer (some ⟨b, 0, none⟩), .int .i64 ino, .string d] KP K h := by
  have t0 := t
  obtain ⟨N, I, fr, t, g⟩ := t
  refine inodes_Table_Write_call (some ⟨b, 0, none⟩) ino d ?_
  unfold inodes_Table_Write
  refine at_ok t ⟨_, rfl, ?_⟩
  unfold writeF at k
  by_cases hb : hasB T ino = true
  · obtain ⟨r1, r2⟩ := hasB_range hb
    simp only [hb, if_true, pSome_some, add_mk] at k ⊢
    refine pIf_f rfl (ld_b (s := .int .i64) t.row (x := (T.getD ino.toNat default).kind) (by rw [t.cell (by omega) (by omega)]; rfl) ?_)
    refine pIf_i (fun h1 => ?_) (fun h1 => ?_)
    · have h1 : (T.getD ino.toNat default).kind = 2 := by simpa using h1
      simp only [h1, if_true] at k
      exact fgt_mk (k h t0 (Upd.refl _ _))
    have h1 : ¬ (T.getD ino.toNat default).kind = 2 := by simpa using h1
    simp only [h1, if_false] at k
    refine pIf_i (fun h2 => ?_) (fun h2 => ?_)
    · have h2 : d.size > 32 := by simp at h2; omega
      simp only [h2, if_true] at k
      exact fgt_mk (k h t0 (Upd.refl _ _))
    have h2 : ¬ d.size > 32 := by simp at h2; omega
    simp only [h2, if_false] at k
    refine st_b t.row (by simp [encT_len, t.lenT]; omega) rfl ?_
    refine fgt_mk (k _ ⟨N, I, fr, t.put (k := 7) (by omega) (by omega) rfl rfl rfl, g⟩ (Upd.set (.inl (g b (.inl rfl)))))
  · simp only [hb, if_false, Bool.false_eq_true] at k ⊢
    refine pIf_t rfl (fgt_mk (k h t0 (Upd.refl _ _)))
end Go.Proofs.YtkbcneomjkfheaaDoor

set_option linter.unusedVariables false
set_option linter.unusedSimpArgs false
namespace Go.Proofs.YtkbcneomjkfheaaDoor
open Go.Hl
attribute [local irreducible] loadF zc sizeP bytesP vcBody pInvoke

/-- Own: the table, an error's number. -/
def ownF (T : List Ind) (ino mode uid gid : Int) : List Ind × Int :=
  if hasB T ino = true then (T.set ino.toNat { T.getD ino.toNat default with mode := mode, uid := uid, gid := gid }, 0) else (T, 2)

theorem getD_set_self {α : Type} {l : List α} {i : Nat} {x d : α} (h : i < l.length) : (l.set i x).getD i d = x := by simp [List.getD_eq_getElem?_getD, h]

theorem own_ok {h : Heap} {b : Nat} {T : List Ind} {F : List Int} {G : Nat → Prop} (t : TabF h b T F G) {ino m u g' : Int} {KP K : Value → Pr}
    (k : ∀ h', TabF h' b (ownF T ino m u g').1 F G → Upd G h h' → K (.int .i64 (ownF T ino m u g').2) h') : WpCall Tryd.prog 58 #[.pointer (some ⟨b, 0, none⟩), .int .i64 ino, .int .i64 m, .int .i64 u, .int .i64 g'] KP K h := by
  have t0 := t
  obtain ⟨N, I, fr, t, g⟩ := t
  refine inodes_Table_Own_call (some ⟨b, 0, none⟩) ino m u g' ?_
  unfold inodes_Table_Own
  refine at_ok t ⟨_, rfl, ?_⟩
  unfold ownF at k
  by_cases hb : hasB T ino = true
  · obtain ⟨r1, r2⟩ := hasB_range hb
    have hlT : ino.toNat < T.length := by rw [t.lenT]; omega
    simp only [hb, if_true, pSome_some, add_mk] at k ⊢
    refine pIf_f rfl ?_
    have t1 := t.put (i := ino.toNat) (k := 3) (v := .int .i64 m) (t' := { T.getD ino.toNat default with mode := m }) (by omega) (by omega) rfl rfl rfl
    refine st_b t.row (by simp [encT_len, t.lenT]; omega) rfl ?_
    have t2 := t1.put (i := ino.toNat) (k := 4) (v := .int .i64 u) (t' := { T.getD ino.toNat default with mode := m, uid := u }) (by omega) (by omega) (by rw [getD_set_self hlT]; rfl) (by rw [getD_set_self hlT]) (by rw [getD_set_self hlT])
    refine st_b t1.row (by simp [encT_len, t.lenT]; omega) rfl ?_
    have t3 := t2.put (i := ino.toNat) (k := 5) (v := .int .i64 g') (t' := { T.getD ino.toNat default with mode := m, uid := u, gid := g' }) (by omega) (by omega) (by rw [getD_set_self (by simpa using hlT)]; rfl) (by rw [getD_set_self (by simpa using hlT)]) (by rw [getD_set_self (by simpa using hlT)])
    refine st_b t2.row (by simp [encT_len, t.lenT]; omega) rfl ?_
    have e3 : ∀ (i : Nat) (x y z : Ind), ((T.set i x).set i y).set i z = T.set i z := fun i x y z => by rw [List.set_set, List.set_set]
    rw [e3] at t3
    have hG : G b := g b (.inl rfl)
    refine fgt_mk (k _ ⟨N, I, fr, t3, g⟩ ?_)
    intro i y hy hn
    have hne : i ≠ b := fun e => hn (by rw [e]; exact hG)
    simp only [Heap.set_ne _ _ hne]
    exact hy
  · simp only [hb, if_false, Bool.false_eq_true] at k ⊢
    refine pIf_t rfl (fgt_mk (k h t0 (Upd.refl _ _)))
end Go.Proofs.YtkbcneomjkfheaaDoor

set_option linter.unusedVariables false
set_option linter.unusedSimpArgs false
namespace Go.Proofs.YtkbcneomjkfheaaDoor
open Go.Hl
attribute [local irreducible] loadF zc sizeP bytesP vcBody pInvoke

theorem zc_ind : zc Tryd.prog 25 = encI {} nil0 nil0 := by kernel_rfl
theorem oneCells_strs (l : List ByteArray) : oneCells (strs l) := fun v hv => by
  obtain ⟨x, _, rfl⟩ := List.mem_map.1 hv; rfl
theorem oneCells_ints (l : List Int) : oneCells (ints l) := fun v hv => by
  obtain ⟨x, _, rfl⟩ := List.mem_map.1 hv; rfl
theorem oneCells_encI (x : Ind) (n i : Sl) : oneCells (encI x n i) := fun v hv => by
  simp only [encI, List.mem_cons, List.not_mem_nil, or_false] at hv
  rcases hv with h | h | h | h | h | h | h | h | h | h | h <;> rw [h] <;> rfl
theorem strs_len (l : List ByteArray) : (strs l).length = l.length := by simp [strs]

/-- An inode with slices of its own. -/
theorem ownCopy_ok {h : Heap} {x : Ind} {n i : Sl} (hn : n.vals 1 h (strs x.names)) (hi : i.vals 1 h (ints x.inos)) (h1 : x.names.length < 100000000) (h2 : x.inos.length < 100000000) {KP K : Value → Pr}
    (k : ∀ n' i' h', Heap.le h h' → Has 1 h' n' (strs x.names) → Has 1 h' i' (ints x.inos) → (∀ b, blk n' b → h b = none) → (∀ b, blk i' b → h b = none) → (∀ b, blk n' b → ¬ blk i' b) → K (.agg (encI x n' i').toArray) h') :
    WpCall Tryd.prog 47 #[.agg (encI x n i).toArray] KP K h := by
  refine inodes_own_call (encI x n i) ?_
  unfold inodes_own
  intro b1 hb1
  intro b2 hb2
  rw [zc_ind]
  have n21 : b2 ≠ b1 := fun e => by subst e; simp at hb2
  have hb2' : h b2 = none := (Heap.set_none.1 hb2).2
  simp only [add_mk, Nat.zero_add]
  have le1 : Heap.le h ((h.set b1 (.row (encI x n i) (encI x n i).length)).set b2 (.row (encI {} nil0 nil0) (encI {} nil0 nil0).length)) := Heap.le_set_new (Heap.le_set_new (Heap.le_refl _) hb1 _) hb2 _
  have l1 : ((h.set b1 (.row (encI x n i) (encI x n i).length)).set b2 (.row (encI {} nil0 nil0) (encI {} nil0 nil0).length)) b1 = some (.row (encI x n i) 11) := Heap.look_ne (Ne.symm n21) (Heap.set_same _ _ _)
  have l2 : ((h.set b1 (.row (encI x n i) (encI x n i).length)).set b2 (.row (encI {} nil0 nil0) (encI {} nil0 nil0).length)) b2 = some (.row (encI {} nil0 nil0) 11) := Heap.set_same _ _ _
  generalize (h.set b1 (.row (encI x n i) (encI x n i).length)).set b2 (.row (encI {} nil0 nil0) (encI {} nil0 nil0).length) = H at *
  refine ld_b (s := .slice) l1 (x := n) rfl (ld_b (s := .slice) l1 (x := i) rfl ?_)
  have hln : n.len = x.names.length := by have := sl_length hn; rw [strs_len] at this; omega
  have hli : i.len = x.inos.length := by have := sl_length hi; rw [ints_len] at this; omega
  refine clone_str (Sl.vals_le le1 hn) (oneCells_strs _) (by omega) fun n' H1 le2 o1 f1 => ⟨n', rfl, ?_⟩
  refine keep_cell .slice (by kernel_rfl) (by decide) (le2 _ _ l1) rfl ?_
  refine clone_int (Sl.vals_le le2 (Sl.vals_le le1 hi)) (oneCells_ints _) (by omega) fun i' H2 le3 o2 f2 => ⟨i', rfl, ?_⟩
  have m1 := le3 _ _ (le2 _ _ l1)
  have m2 := le3 _ _ (le2 _ _ l2)
  refine st_b m1 (show 8 < 11 by decide) rfl (st_b (Heap.set_same _ _ _) (by rw [List.length_set]; exact (show 9 < 11 by decide)) rfl ?_)
  refine ldA_all (Heap.set_same _ _ _) rfl ?_
  refine stA_all (Heap.look_ne n21 (Heap.look_ne n21 m2)) rfl rfl (oneCells_encI x n' i') ?_
  refine ldA_all (Heap.set_same _ _ _) rfl ?_
  have hle : Heap.le h H2 := Heap.le_trans le1 (Heap.le_trans le2 le3)
  have lef : Heap.le h (((H2.set b1 (.row ((encI x n i).set 8 (.slice n'.base n'.len n'.cap)) 11)).set b1 (.row (((encI x n i).set 8 (.slice n'.base n'.len n'.cap)).set 9 (.slice i'.base i'.len i'.cap)) 11)).set b2 (.row (encI x n' i') 11)) := by
    intro j y hy
    have q1 : j ≠ b1 := fun e => by subst e; rw [hb1] at hy; cases hy
    have q2 : j ≠ b2 := fun e => by subst e; rw [hb2'] at hy; cases hy
    rw [Heap.set_ne _ _ q2, Heap.set_ne _ _ q1, Heap.set_ne _ _ q1]
    exact hle j y hy
  have u : Upd (fun j => j = b1 ∨ j = b2) H2 (((H2.set b1 (.row ((encI x n i).set 8 (.slice n'.base n'.len n'.cap)) 11)).set b1 (.row (((encI x n i).set 8 (.slice n'.base n'.len n'.cap)).set 9 (.slice i'.base i'.len i'.cap)) 11)).set b2 (.row (encI x n' i') 11)) := by
    intro j y hy hn
    have q1 : j ≠ b1 := fun e => hn (.inl e)
    have q2 : j ≠ b2 := fun e => hn (.inr e)
    rw [Heap.set_ne _ _ q2, Heap.set_ne _ _ q1, Heap.set_ne _ _ q1]
    exact hy
  have a1 : ∀ b, blk n' b → ¬ (b = b1 ∨ b = b2) := fun b hb e => by
    have := f1 b hb
    rcases e with e | e
    · rw [e, l1] at this; cases this
    · rw [e, l2] at this; cases this
  have a2 : ∀ b, blk i' b → ¬ (b = b1 ∨ b = b2) := fun b hb e => by
    have := f2 b hb
    rcases e with e | e
    · rw [e, le2 _ _ l1] at this; cases this
    · rw [e, le2 _ _ l2] at this; cases this
  exact fgt_mk (k n' i' _ lef ((o1.keep le3).upd u a1) (o2.upd u a2) (fun b hb => Heap.le_none le1 (f1 b hb)) (fun b hb => Heap.le_none (Heap.le_trans le1 le2) (f2 b hb)) (fun b hb hb' => (o1.block hb) (f2 b hb')))
end Go.Proofs.YtkbcneomjkfheaaDoor

set_option linter.unusedVariables false
set_option linter.unusedSimpArgs false
namespace Go.Proofs.YtkbcneomjkfheaaDoor
open Go.Hl
attribute [local irreducible] loadF zc sizeP bytesP vcBody pInvoke

theorem cut_app {cs r xs : List Value} {o n : Nat} (h : cut cs o n = some xs) : cut (cs ++ r) o n = some xs := by
  unfold cut at *
  by_cases hc : o + n ≤ cs.length
  · rw [if_pos hc] at h
    rw [if_pos (by simp; omega), List.drop_append_of_le_length (by omega), List.take_append_of_le_length (by simp; omega)]
    exact h
  · rw [if_neg hc] at h; cases h
theorem encT_cut {T : List Ind} {N I : List Sl} {i : Nat} (h : i < T.length) : cut (encT T N I) (i * 11) 11 = some (encI (T.getD i default) (N.getD i nil0) (I.getD i nil0)) := by
  unfold encT
  have := flat_cut encP 11 encP_len (plc T N I) i 0 11 (by rw [plc_len]; exact h) (by omega)
  rw [Nat.add_zero, plc_at _ _ _ h] at this
  rw [this]
  exact cut_all' rfl
theorem Tab.cutI {h : Heap} {b : Nat} {T : List Ind} {N I : List Sl} {fr : Sl} {F : List Int} (t : Tab h b T N I fr F) {i : Nat} (hi : i < 25) :
    cut (encT T N I ++ [Value.slice fr.base fr.len fr.cap]) (i * 11) 11 = some (encI (T.getD i default) (N.getD i nil0) (I.getD i nil0)) :=
  cut_app (encT_cut (by rw [t.lenT]; exact hi))

theorem lay_ind : lay (zc Tryd.prog 25) [] = encI {} nil0 nil0 := by rw [zc_ind]; rfl

/-- No list is too long. -/
def Small (T : List Ind) : Prop := ∀ i, (T.getD i default).names.length < 100000000 ∧ (T.getD i default).inos.length < 100000000

theorem get_ok {h : Heap} {b : Nat} {T : List Ind} {F : List Int} {G : Nat → Prop} (t : TabF h b T F G) (sm : Small T) {ino : Int} {KP K : Value → Pr}
    (k0 : hasB T ino = false → ∀ h', Heap.le h h' → K (.tuple #[.agg (encI {} nil0 nil0).toArray, .bool false]) h')
    (k1 : hasB T ino = true → ∀ n' i' h', Heap.le h h' → Has 1 h' n' (strs (T.getD ino.toNat default).names) → Has 1 h' i' (ints (T.getD ino.toNat default).inos) → (∀ b, blk n' b → h b = none) → (∀ b, blk i' b → h b = none) → (∀ b, blk n' b → ¬ blk i' b) →
      K (.tuple #[.agg (encI (T.getD ino.toNat default) n' i').toArray, .bool true]) h') :
    WpCall Tryd.prog 28 #[.pointer (some ⟨b, 0, none⟩), .int .i64 ino] KP K h := by
  obtain ⟨N, I, fr, t, g⟩ := t
  refine inodes_Table_Get_call (some ⟨b, 0, none⟩) ino ?_
  unfold inodes_Table_Get
  intro b1 hb1
  rw [lay_ind, zc_ind]
  have hle : Heap.le h (h.set b1 (.row (encI {} nil0 nil0) (encI {} nil0 nil0).length)) := Heap.le_set_new (Heap.le_refl _) hb1 _
  have nb : b ≠ b1 := fun e => by subst e; rw [t.row] at hb1; cases hb1
  have t' := t.upd (Upd.of_le (F := fun _ => False) hle) (fun _ _ h => h)
  refine at_ok t' ⟨_, rfl, ?_⟩
  by_cases hb : hasB T ino = true
  · obtain ⟨r1, r2⟩ := hasB_range hb
    simp only [hb, if_true, pSome_some]
    refine pIf_f rfl (ldA_b t'.row (t'.cutI (by omega)) ?_)
    refine ownCopy_ok (t'.hasN (by omega)).vals (t'.hasI (by omega)).vals (sm _).1 (sm _).2 fun n' i' h' le2 o1 o2 f1 f2 ap => ⟨_, rfl, ?_⟩
    have m1 := le2 _ _ (Heap.set_same h b1 (.row (encI {} nil0 nil0) (encI {} nil0 nil0).length))
    refine stA_all m1 rfl rfl (oneCells_encI _ _ _) (ldA_all (Heap.set_same _ _ _) rfl ?_)
    have q1 : ∀ x, blk n' x → ¬ x = b1 := fun x hx e => by have := f1 x hx; rw [e, Heap.set_same] at this; cases this
    have q2 : ∀ x, blk i' x → ¬ x = b1 := fun x hx e => by have := f2 x hx; rw [e, Heap.set_same] at this; cases this
    refine fgt_mk (k1 hb n' i' _ ?_ (o1.upd (F := fun x => x = b1) (Upd.set (.inl rfl)) q1) (o2.upd (F := fun x => x = b1) (Upd.set (.inl rfl)) q2) (fun x hx => Heap.le_none hle (f1 x hx)) (fun x hx => Heap.le_none hle (f2 x hx)) ap)
    intro j y hy
    have q : j ≠ b1 := fun e => by subst e; rw [hb1] at hy; cases hy
    rw [Heap.set_ne _ _ q]
    exact le2 _ _ (hle j y hy)
  · have hb' : hasB T ino = false := by simpa using hb
    simp only [hb', if_false, Bool.false_eq_true]
    refine pIf_t rfl (stA_all (Heap.set_same _ _ _) rfl rfl (oneCells_encI _ _ _) (ldA_all (Heap.set_same _ _ _) rfl ?_))
    rw [Heap.set_set]
    exact fgt_mk (k0 hb' _ (Heap.le_set_new (Heap.le_refl _) hb1 _))
end Go.Proofs.YtkbcneomjkfheaaDoor

set_option linter.unusedVariables false
set_option linter.unusedSimpArgs false
namespace Go.Proofs.YtkbcneomjkfheaaDoor
open Go.Hl
attribute [local irreducible] loadF zc sizeP bytesP vcBody pInvoke

/-- One slice of a pool turns, and with it what stands in the roots. -/
theorem turnR {h h' : Heap} {R : Nat → Prop} {S : List Sl} {C : List (List Value)} (p : Pool h R S C) {k : Nat} (hk : k < S.length) {s' : Sl} {c' : List Value} (u : Upd (fun x => R x ∨ blk S[k] x) h h') (o : Has 1 h' s' c') (hs : ∀ b, blk s' b → blk S[k] b ∨ h b = none)
    (hR : ∀ b, R b → h b ≠ none) : Pool h' R (S.set k s') (C.set k c') := by
  have un : ∀ j (hj : j < S.length), j ≠ k → ∀ b, blk S[j] b → ¬ (R b ∨ blk S[k] b) := fun j hj e b hb hf => by
    rcases hf with hf | hf
    · exact p.root j hj b hb hf
    · exact p.apart j k hj hk e b hb hf
  refine ⟨by simp [p.len], fun j hj => ?_, fun i j hi hj hij b hb hb' => ?_, fun j hj b hb hr => ?_⟩
  · rw [List.length_set] at hj
    by_cases e : k = j
    · subst e; simpa using o
    · simp only [List.getElem_set_ne e]
      exact (p.has j hj).upd u fun b hb => un j hj (Ne.symm e) b hb
  · rw [List.length_set] at hi hj
    by_cases ei : k = i
    · subst ei
      simp only [List.getElem_set_self] at hb
      simp only [List.getElem_set_ne hij] at hb'
      rcases hs b hb with hb | hb
      · exact p.apart k j hk hj hij b hb hb'
      · exact (p.has j hj).block hb' hb
    · simp only [List.getElem_set_ne ei] at hb
      by_cases ej : k = j
      · subst ej
        simp only [List.getElem_set_self] at hb'
        rcases hs b hb' with hb' | hb'
        · exact p.apart i k hi hk hij b hb hb'
        · exact (p.has i hi).block hb hb'
      · simp only [List.getElem_set_ne ej] at hb'
        exact p.apart i j hi hj hij b hb hb'
  · rw [List.length_set] at hj
    by_cases e : k = j
    · subst e
      simp only [List.getElem_set_self] at hb
      rcases hs b hb with hb | hb
      · exact p.root k hk b hb hr
      · exact hR b hr hb
    · simp only [List.getElem_set_ne e] at hb
      exact p.root j hj b hb hr

theorem set_head {α : Type} (x y : α) (l : List α) : (x :: l).set 0 y = y :: l := rfl
theorem set_left {α : Type} (x y : α) {l r : List α} {i : Nat} (h : i < l.length) : (x :: (l ++ r)).set (i + 1) y = x :: (l.set i y ++ r) := by
  rw [List.set_cons_succ, List.set_append_left _ _ h]
theorem set_right {α : Type} (x y : α) {l r : List α} {i : Nat} : (x :: (l ++ r)).set (l.length + i + 1) y = x :: (l ++ r.set i y) := by
  rw [List.set_cons_succ, List.set_append_right _ _ (by omega)]
  simp

/-- The free list turns. -/
theorem Tab.turnF {h h' : Heap} {b : Nat} {T : List Ind} {N I : List Sl} {fr fr' : Sl} {F F' : List Int} (t : Tab h b T N I fr F) (u : Upd (fun x => x = b ∨ blk fr x) h h') (o : Has 1 h' fr' (ints F')) (hs : ∀ x, blk fr' x → blk fr x ∨ h x = none)
    (hb : h' b = some (.row (encT T N I ++ [.slice fr'.base fr'.len fr'.cap]) 276)) : Tab h' b T N I fr' F' := by
  refine ⟨t.lenT, t.lenN, t.lenI, hb, ?_⟩
  have := turnR t.pool (k := 0) (by simp) (s' := fr') (c' := ints F') u o hs (fun x hx => by rw [hx, t.row]; simp)
  simpa only [set_head] using this
/-- A place is emptied. -/
theorem Tab.clearP {h : Heap} {b : Nat} {T : List Ind} {N I : List Sl} {fr : Sl} {F : List Int} (t : Tab h b T N I fr F) {i : Nat} (hi : i < 25) (t' : Ind) (h1 : t'.names = []) (h2 : t'.inos = []) :
    Tab (h.set b (.row (splice (encT T N I ++ [Value.slice fr.base fr.len fr.cap]) (i * 11) (encI t' nil0 nil0)) 276)) b (T.set i t') (N.set i nil0) (I.set i nil0) fr F := by
  have hT := t.lenT; have hN := t.lenN; have hI := t.lenI
  refine ⟨by simpa using hT, by simpa using hN, by simpa using hI, ?_, ?_⟩
  · rw [Heap.set_same]
    have hiT : i < T.length := by omega
    have e1 : splice (encT T N I ++ [Value.slice fr.base fr.len fr.cap]) (i * 11) (encI t' nil0 nil0) = splice (encT T N I) (i * 11) (encI t' nil0 nil0) ++ [Value.slice fr.base fr.len fr.cap] := by
      unfold splice
      have h1 : i * 11 + (encI t' nil0 nil0).length ≤ (encT T N I).length := by rw [encT_len, hT]; show i * 11 + 11 ≤ 25 * 11; omega
      rw [List.take_append_of_le_length (by omega), List.drop_append_of_le_length (by omega)]
      simp
    have e2 : splice (encT T N I) (i * 11) (encI t' nil0 nil0) = encT (T.set i t') (N.set i nil0) (I.set i nil0) := by
      unfold encT
      rw [plc_set (by omega) (by omega) hiT]
      have := flat_splice encP 11 encP_len (plc T N I) i 0 (encI t' nil0 nil0) (t', nil0, nil0) (by rw [plc_len]; exact hiT) (Nat.le_refl _) (by rw [splice_whole (vs := encI t' nil0 nil0) (by rw [encP_len]; rfl)]; rfl)
      rw [Nat.add_zero] at this
      exact this
    rw [e1, e2]
  · have hr : ∀ x, x = b → h x ≠ none := fun x hx => by rw [hx, t.row]; simp
    have p1 := turnR t.pool (k := i + 1) (by simp; omega) (h' := h.set b (.row (splice (encT T N I ++ [Value.slice fr.base fr.len fr.cap]) (i * 11) (encI t' nil0 nil0)) 276)) (s' := nil0) (c' := []) (Upd.set (.inl (.inl rfl))) (Has.none _ _) (fun x hx => by simp [nil0] at hx) hr
    have p2 := turnR p1 (k := 25 + i + 1) (by simp; omega) (s' := nil0) (c' := []) (Upd.refl _ _) (Has.none _ _) (fun x hx => by simp [nil0] at hx) (fun x hx => by rw [hx, Heap.set_same]; simp)
    have q0 : (fr :: (N ++ I)).set (i + 1) nil0 = fr :: (N.set i nil0 ++ I) := set_left _ _ (by omega)
    have q5 : (ints F :: (T.map (fun t => strs t.names) ++ T.map (fun t => ints t.inos))).set (i + 1) [] = ints F :: ((T.map (fun t => strs t.names)).set i [] ++ T.map (fun t => ints t.inos)) := set_left _ _ (by simp; omega)
    rw [q0, q5] at p2
    have q1 : 25 + i + 1 = (N.set i nil0).length + i + 1 := by simp; omega
    have q2 : (fr :: (N.set i nil0 ++ I)).set (25 + i + 1) nil0 = fr :: (N.set i nil0 ++ I.set i nil0) := by rw [q1, set_right]
    have q3 : 25 + i + 1 = ((T.map (fun t => strs t.names)).set i []).length + i + 1 := by simp; omega
    have q4 : (ints F :: ((T.map (fun t => strs t.names)).set i [] ++ T.map (fun t => ints t.inos))).set (25 + i + 1) [] = ints F :: ((T.map (fun t => strs t.names)).set i [] ++ (T.map (fun t => ints t.inos)).set i []) := by rw [q3, set_right]
    rw [q2, q4] at p2
    have r1 : (T.set i t').map (fun t => strs t.names) = (T.map (fun t => strs t.names)).set i [] := by rw [List.map_set, h1]; rfl
    have r2 : (T.set i t').map (fun t => ints t.inos) = (T.map (fun t => ints t.inos)).set i [] := by rw [List.map_set, h2]; rfl
    rw [r1, r2]
    exact p2
end Go.Proofs.YtkbcneomjkfheaaDoor

set_option linter.unusedVariables false
set_option linter.unusedSimpArgs false
namespace Go.Proofs.YtkbcneomjkfheaaDoor
open Go.Hl
attribute [local irreducible] loadF zc sizeP bytesP vcBody pInvoke

theorem set_last {T : List Ind} {N I : List Sl} (hT : T.length = 25) (v w : Value) : (encT T N I ++ [v]).set 275 w = encT T N I ++ [w] := by
  have e : (encT T N I).length = 275 := by rw [encT_len, hT]
  rw [List.set_append_right _ _ (by omega), e]; rfl

/-- Free: the table, an error's number. -/
def freeF (T : List Ind) (ino : Int) : List Ind × Int :=
  if hasB T ino = true then if ino = 1 then (T, 22) else (T.set ino.toNat { gen := (T.getD ino.toNat default).gen }, 0) else (T, 2)

theorem lay_gen (x : Int) : lay (zc Tryd.prog 25) [(1, .int .i64 x)] = encI { gen := x } nil0 nil0 := by rw [zc_ind]; rfl

theorem free_ok {h : Heap} {b : Nat} {T : List Ind} {F : List Int} {G : Nat → Prop} (t : TabF h b T F G) (hu : HeapOk (fun x => F.getD x 0) F.length) (hl : F.length < 100000000) {ino : Int} {KP K : Value → Pr}
    (k0 : (freeF T ino).2 ≠ 0 → K (.int .i64 (freeF T ino).2) h)
    (k1 : (freeF T ino).2 = 0 → ∀ (F' : List Int) h', F'.length = F.length + 1 → (∀ x, F'.count x = F.count x + (if ino = x then 1 else 0)) → HeapOk (fun x => F'.getD x 0) F'.length → TabF h' b (freeF T ino).1 F' (More G h) → Upd G h h' → K (.int .i64 0) h') :
    WpCall Tryd.prog 52 #[.pointer (some ⟨b, 0, none⟩), .int .i64 ino] KP K h := by
  obtain ⟨N, I, fr, t, g⟩ := t
  refine inodes_Table_Free_call (some ⟨b, 0, none⟩) ino ?_
  unfold inodes_Table_Free
  refine at_ok t ⟨_, rfl, ?_⟩
  unfold freeF at k0 k1
  by_cases hb : hasB T ino = true
  · obtain ⟨r1, r2⟩ := hasB_range hb
    simp only [hb, if_true, pSome_some, add_mk, Nat.zero_add] at k0 k1 ⊢
    refine pIf_f rfl (pIf_i (fun h1 => ?_) (fun h1 => ?_))
    · have h1 : ino = 1 := by simpa using h1
      simp only [h1, if_true] at k0
      exact fgt_mk (k0 (by decide))
    have h1 : ¬ ino = 1 := by simpa using h1
    simp only [h1, if_false] at k1
    refine ld_b (s := .int .i64) t.row (x := (T.getD ino.toNat default).gen) (by rw [t.cell (by omega) (by omega)]; rfl) ?_
    rw [lay_gen]
    refine stA_b t.row (by simp [encT_len, t.lenT]; omega) rfl (oneCells_encI _ _ _) ?_
    have t1 := t.clearP (i := ino.toNat) (by omega) { gen := (T.getD ino.toNat default).gen } rfl rfl
    have hG : ∀ x, x = b ∨ blk fr x → G x := fun x hx => g x (hx.imp id fun hx => ⟨fr, List.mem_cons_self .., hx⟩)
    refine hpush_ok (off := 275) t1.row t1.free t1.hasF (fun e => t1.pool.root 0 (by simp) b e rfl) hu hl fun F' fr' h' p1 p2 p3 o' hs' hb' u' => ⟨(), rfl, ?_⟩
    rw [set_last t1.lenT] at hb'
    have t2 := t1.turnF u' o' hs' hb'
    refine fgt_mk (k1 trivial F' h' p1 p2 p3 ⟨_, _, fr', t2, fun x hx => ?_⟩ ?_)
    · rcases hx with hx | ⟨s, hs, hx⟩
      · exact .inl (hG x (.inl hx))
      · rcases List.mem_cons.1 hs with rfl | hs
        · rcases hs' x hx with q | q
          · exact .inl (hG x (.inr q))
          · exact .inr (Heap.set_none.1 q).2
        · left
          have key : ∀ (L : List Sl), (∀ y ∈ L, y ∈ fr :: (N ++ I)) → s ∈ L.set ino.toNat nil0 → G x := fun L hL hsl => by
            rcases List.mem_or_eq_of_mem_set hsl with q | q
            · exact g x (.inr ⟨s, hL s q, hx⟩)
            · rw [q] at hx; simp [nil0] at hx
          rcases List.mem_append.1 hs with q | q
          · exact key N (fun y hy => List.mem_cons_of_mem _ (List.mem_append_left _ hy)) q
          · exact key I (fun y hy => List.mem_cons_of_mem _ (List.mem_append_right _ hy)) q
    · intro j y hy hn
      have q1 : j ≠ b := fun e => hn (hG j (.inl e))
      refine u' j y ?_ fun q => hn (hG j q)
      rw [Heap.set_ne _ _ q1]; exact hy
  · have hb' : hasB T ino = false := by simpa using hb
    simp only [hb', if_false, Bool.false_eq_true] at k0 ⊢
    exact pIf_t rfl (fgt_mk (k0 (by decide)))
end Go.Proofs.YtkbcneomjkfheaaDoor

set_option linter.unusedVariables false
set_option linter.unusedSimpArgs false
namespace Go.Proofs.YtkbcneomjkfheaaDoor
open Go.Hl
attribute [local irreducible] loadF zc sizeP bytesP vcBody pInvoke

/-- A new inode at a place. -/
def newI (T : List Ind) (p kind mode uid gid : Int) : Ind := { ino := p, gen := IntKind.i64.wrap ((T.getD p.toNat default).gen + 1), kind := kind, mode := mode, uid := uid, gid := gid }
theorem lay_new (a b c d e f : Int) : lay (zc Tryd.prog 25) [(0, .int .i64 a), (1, .int .i64 b), (2, .int .i64 c), (3, .int .i64 d), (4, .int .i64 e), (5, .int .i64 f)] = encI { ino := a, gen := b, kind := c, mode := d, uid := e, gid := f } nil0 nil0 := by rw [zc_ind]; rfl

theorem add_ok {h : Heap} {b : Nat} {T : List Ind} {F : List Int} {G : Nat → Prop} (t : TabF h b T F G) (hu : HeapOk (fun x => F.getD x 0) F.length) (hl : F.length < 100000000) (hr : ∀ x ∈ F, 1 ≤ x ∧ x < 25) {kind mode uid gid : Int} {KP K : Value → Pr}
    (k0 : kind < 1 ∨ kind > 3 → K (.tuple #[.int .i64 0, .int .i64 22]) h) (k1 : ¬ (kind < 1 ∨ kind > 3) → F = [] → K (.tuple #[.int .i64 0, .int .i64 28]) h)
    (k2 : ¬ (kind < 1 ∨ kind > 3) → F ≠ [] → ∀ (F' : List Int) h', F.length = F'.length + 1 → (∀ x, F.count x = F'.count x + (if F.getD 0 0 = x then 1 else 0)) → HeapOk (fun x => F'.getD x 0) F'.length →
      TabF h' b (T.set (F.getD 0 0).toNat (newI T (F.getD 0 0) kind mode uid gid)) F' (More G h) → Upd G h h' → K (.tuple #[.int .i64 (F.getD 0 0), .int .i64 0]) h') :
    WpCall Tryd.prog 11 #[.pointer (some ⟨b, 0, none⟩), .int .i64 kind, .int .i64 mode, .int .i64 uid, .int .i64 gid] KP K h := by
  obtain ⟨N, I, fr, t, g⟩ := t
  refine inodes_Table_Add_call (some ⟨b, 0, none⟩) kind mode uid gid ?_
  unfold inodes_Table_Add
  rw [pJoin_eq]
  unfold inodes_Table_Add_j1
  refine pIf_i (fun h1 => pIf_t rfl (fgt_mk (k0 (.inl (by simpa using h1))))) (fun h1 => pIf_i (fun h2 => pIf_t rfl (fgt_mk (k0 (.inr (by simpa using h2))))) (fun h2 => pIf_f rfl ?_))
  have hk : ¬ (kind < 1 ∨ kind > 3) := by simp at h1 h2; omega
  simp only [pSome_some, add_mk, Nat.zero_add, Nat.add_zero]
  have hlen : fr.len = F.length := by have := t.hasF.len; rw [ints_len] at this; exact this
  refine ld_b (s := .slice) t.row (x := fr) t.free ?_
  refine pIf_i (fun h3 => ?_) (fun h3 => ?_)
  · have h3 : F = [] := by rw [hlen] at h3; simpa using h3
    exact fgt_mk (k1 hk h3)
  have h3 : F ≠ [] := by rw [hlen] at h3; simpa using h3
  have h0 : 0 < F.length := List.length_pos_iff.2 h3
  have hm : F.getD 0 0 ∈ F := by
    have : F.getD 0 0 = F[0] := by simp [List.getD_eq_getElem?_getD, h0]
    rw [this]; exact List.getElem_mem h0
  obtain ⟨r1, r2⟩ := hr _ hm
  generalize hp : F.getD 0 0 = p at *
  have hG : ∀ x, x = b ∨ blk fr x → G x := fun x hx => g x (hx.imp id fun hx => ⟨fr, List.mem_cons_self .., hx⟩)
  refine hpop_ok (off := 275) t.row t.free t.hasF (fun e => t.pool.root 0 (by simp) b e rfl) hu hl h0 fun F' fr' h' p1 p2 p3 o' hs' hb' u' => ⟨_, rfl, ?_⟩
  rw [hp] at p2 ⊢
  rw [set_last t.lenT] at hb'
  have t2 := t.turnF u' o' (fun x hx => .inl (hs' x hx)) hb'
  refine ⟨p, rfl, ?_⟩
  refine pIdx_i (by omega) (by omega) (ld_b (s := .int .i64) t2.row (x := (T.getD p.toNat default).gen) (by rw [t2.cell (by omega) (by omega)]; rfl) ?_)
  refine pIdx_i (by omega) (by omega) ?_
  rw [lay_new]
  refine stA_b t2.row (by simp [encT_len, t.lenT]; omega) rfl (oneCells_encI _ _ _) ?_
  have t3 := t2.clearP (i := p.toNat) (by omega) (newI T p kind mode uid gid) rfl rfl
  refine fgt_mk (k2 hk h3 F' _ p1 p2 p3 ⟨_, _, fr', t3, fun x hx => ?_⟩ ?_)
  · rcases hx with hx | ⟨s, hs, hx⟩
    · exact .inl (hG x (.inl hx))
    · rcases List.mem_cons.1 hs with rfl | hs
      · exact .inl (hG x (.inr (hs' x hx)))
      · left
        have key : ∀ (L : List Sl), (∀ y ∈ L, y ∈ fr :: (N ++ I)) → s ∈ L.set p.toNat nil0 → G x := fun L hL hsl => by
          rcases List.mem_or_eq_of_mem_set hsl with q | q
          · exact g x (.inr ⟨s, hL s q, hx⟩)
          · rw [q] at hx; simp [nil0] at hx
        rcases List.mem_append.1 hs with q | q
        · exact key N (fun y hy => List.mem_cons_of_mem _ (List.mem_append_left _ hy)) q
        · exact key I (fun y hy => List.mem_cons_of_mem _ (List.mem_append_right _ hy)) q
  · intro j y hy hn
    have q1 : j ≠ b := fun e => hn (hG j (.inl e))
    rw [Heap.set_ne _ _ q1]
    exact u' j y hy fun q => hn (hG j q)
end Go.Proofs.YtkbcneomjkfheaaDoor

set_option linter.unusedVariables false
set_option linter.unusedSimpArgs false
namespace Go.Proofs.YtkbcneomjkfheaaDoor
open Go.Hl
attribute [local irreducible] loadF zc sizeP bytesP vcBody pInvoke

theorem less_list : ∀ (x y : List UInt8), Op.bytesLess x y = decide (x < y)
  | [], [] => by simp [Op.bytesLess]
  | _ :: _, [] => by simp [Op.bytesLess]
  | [], _ :: _ => by simp [Op.bytesLess]
  | a :: x, b :: y => by
    unfold Op.bytesLess
    rw [less_list x y, Bool.eq_iff_iff]
    simp [List.cons_lt_cons_iff]
theorem lt_def (a b : ByteArray) : lt a b = decide (a.data.toList < b.data.toList) := by
  unfold lt
  rw [less_list, ByteArray.toList_eq, ByteArray.toList_eq]
theorem lt_trans {a b c : ByteArray} (h1 : lt a b = true) (h2 : lt b c = true) : lt a c = true := by
  rw [lt_def, decide_eq_true_eq] at *
  exact List.lt_trans h1 h2
theorem lt_irrefl (a : ByteArray) : lt a a = false := by
  rw [lt_def, decide_eq_false_iff_not]; exact List.lt_irrefl _

/-- Names rise. -/
def Sorted (ns : List ByteArray) : Prop := ns.Pairwise fun a b => lt a b = true
/-- How many are less. -/
def pos (ns : List ByteArray) (t : ByteArray) : Nat := ns.countP fun n => lt n t
theorem pos_le (ns : List ByteArray) (t : ByteArray) : pos ns t ≤ ns.length := List.countP_le_length
theorem pos_spec {ns : List ByteArray} (s : Sorted ns) (t : ByteArray) : ∀ i (hi : i < ns.length), lt ns[i] t = decide (i < pos ns t) := by
  induction ns with
  | nil => intro i hi; simp at hi
  | cons n r ih =>
    obtain ⟨s1, s2⟩ := List.pairwise_cons.1 s
    intro i hi
    unfold pos
    by_cases hn : lt n t = true
    · rw [List.countP_cons_of_pos (by simpa using hn)]
      cases i with
      | zero => simp [hn]
      | succ i =>
        have := ih s2 i (by simpa using hi)
        simp only [List.getElem_cons_succ, this, pos]
        congr 1
        simp
    · have h0 : r.countP (fun n => lt n t) = 0 := by
        rw [List.countP_eq_zero]
        intro x hx hlt
        exact hn (lt_trans (s1 x hx) (by simpa using hlt))
      rw [List.countP_cons_of_neg (by simpa using hn), h0]
      simp only [Nat.not_lt_zero, decide_false]
      cases i with
      | zero => simpa using hn
      | succ i =>
        have hm : r[i]'(by simpa using hi) ∈ r := List.getElem_mem _
        simp only [List.getElem_cons_succ]
        cases e : lt (r[i]'(by simpa using hi)) t with
        | false => rfl
        | true => exact absurd (lt_trans (s1 _ hm) e) hn
end Go.Proofs.YtkbcneomjkfheaaDoor

set_option linter.unusedVariables false
set_option linter.unusedSimpArgs false
namespace Go.Proofs.YtkbcneomjkfheaaDoor
open Go.Hl
attribute [local irreducible] loadF zc sizeP bytesP vcBody pInvoke

/-- What is always so of a table's inodes. -/
def Fine (T : List Ind) : Prop := ∀ i, Sorted (T.getD i default).names ∧ (T.getD i default).inos.length = (T.getD i default).names.length

def thereB (ns : List ByteArray) (t : ByteArray) : Bool := decide (∃ hi : pos ns t < ns.length, strEq ns[pos ns t] t = true)
def findF (T : List Ind) (dir : Int) (name : ByteArray) : Option Int :=
  if hasB T dir = true then
    let x := T.getD dir.toNat default
    if x.kind = 2 then (if thereB x.names name = true then some (x.inos.getD (pos x.names name) 0) else none) else none
  else none

theorem find_ok {h : Heap} {b : Nat} {T : List Ind} {F : List Int} {G : Nat → Prop} (t : TabF h b T F G) (sm : Small T) (fi : Fine T) {dir : Int} {name : ByteArray} {KP K : Value → Pr}
    (k : K (.tuple #[.int .i64 ((findF T dir name).getD 0), .bool (findF T dir name).isSome]) h) :
    WpCall Tryd.prog 48 #[.pointer (some ⟨b, 0, none⟩), .int .i64 dir, .string name] KP K h := by
  obtain ⟨N, I, fr, t, g⟩ := t
  refine inodes_Table_Find_call (some ⟨b, 0, none⟩) dir name ?_
  unfold inodes_Table_Find
  simp only [pJoin_eq]
  unfold inodes_Table_Find_j1
  refine at_ok t ⟨_, rfl, ?_⟩
  unfold findF at k
  by_cases hb : hasB T dir = true
  · obtain ⟨r1, r2⟩ := hasB_range hb
    simp only [hb, if_true, pSome_some, add_mk] at k ⊢
    refine pIf_f rfl (ld_b (s := .int .i64) t.row (x := (T.getD dir.toNat default).kind) (by rw [t.cell (by omega) (by omega)]; rfl) ?_)
    refine pIf_i (fun (h1 : ((T.getD dir.toNat default).kind != 2) = true) => ?_) (fun (h1 : ((T.getD dir.toNat default).kind != 2) = false) => ?_)
    · have h1 : ¬ (T.getD dir.toNat default).kind = 2 := by simpa using h1
      simp only [h1, if_false] at k
      exact fgt_mk k
    have h1 : (T.getD dir.toNat default).kind = 2 := by simpa using h1
    simp only [h1, if_true] at k
    refine ld_b (s := .slice) t.row (x := N.getD dir.toNat nil0) (by rw [t.cell (i := dir.toNat) (k := 8) (by omega) (by omega)]; rfl) ?_
    have hN := (t.hasN (i := dir.toNat) (by omega)).vals
    have hI := (t.hasI (i := dir.toNat) (by omega)).vals
    obtain ⟨s1, s2⟩ := fi dir.toNat
    have sm1 := (sm dir.toNat).1
    have hli : (I.getD dir.toNat nil0).len = (T.getD dir.toNat default).inos.length := by have := sl_length hI; rw [ints_len] at this; omega
    generalize T.getD dir.toNat default = x at *
    refine search_ok (ns := x.names) (p := pos x.names name) hN (by omega) (pos_le _ _) (pos_spec s1 name) ⟨((pos x.names name : Int), thereB x.names name, ()), rfl, ?_⟩
    dsimp only
    have hth : decide (∃ hi : pos x.names name < x.names.length, strEq x.names[pos x.names name] name = true) = thereB x.names name := rfl
    by_cases h2 : thereB x.names name = true
    · simp only [h2, if_true] at k ⊢
      have hp : pos x.names name < x.names.length := by unfold thereB at h2; simp at h2; exact h2.1
      refine pIf_f rfl (ld_b (s := .slice) t.row (x := I.getD dir.toNat nil0) (by rw [t.cell (i := dir.toNat) (k := 9) (by omega) (by omega)]; rfl) ?_)
      have hI' : (I.getD dir.toNat nil0).vals 1 h (x.inos.flatMap fun y => [Value.int .i64 y]) := by
        rw [← map_flat]; exact hI
      obtain ⟨a, ha, hv⟩ := sl_elem (enc := fun y : Int => [Value.int .i64 y]) (n := 1) (fun _ => rfl) hI' hli (i := pos x.names name) (by omega)
      refine pIdx_i (by omega) (by omega) (pSome_i ha (pLd_i (s := .int .i64) (x.inos.getD (pos x.names name) 0) ?_ ?_))
      · rw [Int.toNat_natCast]
        have := vals_cell1 hv
        rw [this]
        have hlt : pos x.names name < x.inos.length := by omega
        simp [List.getD_eq_getElem?_getD, hlt]
        rfl
      · exact fgt_mk k
    · have h2 : thereB x.names name = false := by simpa using h2
      simp only [h2, if_false, Bool.false_eq_true] at k ⊢
      exact pIf_t rfl (fgt_mk k)
  · simp only [hb, if_false, Bool.false_eq_true] at k ⊢
    exact pIf_t rfl (pIf_t rfl (fgt_mk k))
end Go.Proofs.YtkbcneomjkfheaaDoor

set_option linter.unusedVariables false
set_option linter.unusedSimpArgs false
namespace Go.Proofs.YtkbcneomjkfheaaDoor
open Go.Hl
attribute [local irreducible] loadF zc sizeP bytesP vcBody pInvoke

/-- The names of a place turn. -/
theorem pool_names {h h' : Heap} {R : Nat → Prop} {fr : Sl} {N I : List Sl} {c : List Value} {A B : List (List Value)} (p : Pool h R (fr :: (N ++ I)) (c :: (A ++ B))) (hN : N.length = 25) (hA : A.length = 25) {i : Nat} (hi : i < 25) {s' : Sl} {c' : List Value}
    (u : Upd (fun x => R x ∨ blk (N.getD i nil0) x) h h') (o : Has 1 h' s' c') (hs : ∀ b, blk s' b → blk (N.getD i nil0) b ∨ h b = none) (hR : ∀ b, R b → h b ≠ none) :
    Pool h' R (fr :: (N.set i s' ++ I)) (c :: (A.set i c' ++ B)) := by
  have e : (fr :: (N ++ I))[i + 1]'(by simp; omega) = N.getD i nil0 := by
    simp only [List.getElem_cons_succ]
    rw [List.getElem_append_left (by omega)]
    simp [List.getD_eq_getElem?_getD, hN, hi]
  have := turnR p (k := i + 1) (by simp; omega) (s' := s') (c' := c') (by rw [e]; exact u) o (by rw [e]; exact hs) hR
  rwa [set_left _ _ (by omega), set_left _ _ (by omega)] at this
/-- The inodes of a place turn. -/
theorem pool_inos {h h' : Heap} {R : Nat → Prop} {fr : Sl} {N I : List Sl} {c : List Value} {A B : List (List Value)} (p : Pool h R (fr :: (N ++ I)) (c :: (A ++ B))) (hN : N.length = 25) (hI : I.length = 25) (hA : A.length = 25) {i : Nat} (hi : i < 25) {s' : Sl} {c' : List Value}
    (u : Upd (fun x => R x ∨ blk (I.getD i nil0) x) h h') (o : Has 1 h' s' c') (hs : ∀ b, blk s' b → blk (I.getD i nil0) b ∨ h b = none) (hR : ∀ b, R b → h b ≠ none) :
    Pool h' R (fr :: (N ++ I.set i s')) (c :: (A ++ B.set i c')) := by
  have e : (fr :: (N ++ I))[N.length + i + 1]'(by simp; omega) = I.getD i nil0 := by
    simp only [List.getElem_cons_succ]
    rw [List.getElem_append_right (by omega)]
    simp [List.getD_eq_getElem?_getD, hI, hi]
  have := turnR p (k := N.length + i + 1) (by simp; omega) (s' := s') (c' := c') (by rw [e]; exact u) o (by rw [e]; exact hs) hR
  rw [set_right] at this
  rwa [show N.length + i + 1 = A.length + i + 1 by omega, set_right] at this
end Go.Proofs.YtkbcneomjkfheaaDoor

set_option linter.unusedVariables false
set_option linter.unusedSimpArgs false
namespace Go.Proofs.YtkbcneomjkfheaaDoor
open Go.Hl
attribute [local irreducible] loadF zc sizeP bytesP vcBody pInvoke

theorem lay_s1 (x : ByteArray) : lay (reps 1 (zc Tryd.prog 9)) [(0, (.string x))] = [.string x] := by rw [zc_str]; rfl

/-- A name put where it stands in the order, and the inode beside it. -/
def insI (x : Ind) (name : ByteArray) (ino : Int) : Ind :=
  let p := pos x.names name
  { x with names := x.names.take p ++ name :: x.names.drop p, inos := x.inos.take p ++ ino :: x.inos.drop p }
/-- One link more; a directory's way up. -/
def linkI (x : Ind) (dir : Int) : Ind :=
  let y := { x with links := IntKind.i64.wrap (x.links + 1) }
  if y.kind = 2 then { y with up := dir } else y
def enterOk (T : List Ind) (dir : Int) (name : ByteArray) (ino : Int) : List Ind :=
  let T1 := T.set dir.toNat (insI (T.getD dir.toNat default) name ino)
  T1.set ino.toNat (linkI (T1.getD ino.toNat default) dir)
/-- Enter: the table, an error's number. -/
def enterF (T : List Ind) (dir : Int) (name : ByteArray) (ino : Int) : List Ind × Int :=
  if isName name = true then
    if hasB T dir = true ∧ hasB T ino = true then
      let d := T.getD dir.toNat default
      if d.kind = 2 then
        if thereB d.names name = true then (T, 17)
        else if d.names.length ≥ 8 then (T, 28)
        else if (T.getD ino.toNat default).links ≥ 8 then (T, 31)
        else (enterOk T dir name ino, 0)
      else (T, 20)
    else (T, 2)
  else (T, 22)
theorem strs_ins (l : List ByteArray) (x : ByteArray) (p : Nat) : (strs l).take p ++ .string x :: (strs l).drop p = strs (l.take p ++ x :: l.drop p) := by simp [strs]
theorem ints_ins (l : List Int) (x : Int) (p : Nat) : (ints l).take p ++ .int .i64 x :: (ints l).drop p = ints (l.take p ++ x :: l.drop p) := by simp [ints]
end Go.Proofs.YtkbcneomjkfheaaDoor

set_option linter.unusedVariables false
set_option linter.unusedSimpArgs false
namespace Go.Proofs.YtkbcneomjkfheaaDoor
open Go.Hl
attribute [local irreducible] loadF zc sizeP bytesP vcBody pInvoke

/-- The last part of Enter. -/
theorem link_tail {H : Heap} {b : Nat} {T : List Ind} {N I : List Sl} {fr : Sl} {F : List Int} (t : Tab H b T N I fr F) {ino dir : Int} (h1 : 1 ≤ ino) (h2 : ino < 25) {k : Pr}
    (hk : ∀ h', Tab h' b (T.set ino.toNat (linkI (T.getD ino.toNat default) dir)) N I fr F → Upd (fun x => x = b) H h' → k h') :
    (pLd (.int .i64) ⟨b, ino.toNat * 11 + 6, none⟩ fun (x27 : Int) => pSt ⟨b, ino.toNat * 11 + 6, none⟩ (.int .i64 (IntKind.i64.wrap (x27 + 1))) <|
      pLd (.int .i64) ⟨b, ino.toNat * 11 + 2, none⟩ fun (x31 : Int) => pIf ((x31 : Int) == 2) (pSt ⟨b, ino.toNat * 11 + 10, none⟩ (.int .i64 dir) k) k) H := by
  have hlT : ino.toNat < T.length := by rw [t.lenT]; omega
  refine ld_b (s := .int .i64) t.row (x := (T.getD ino.toNat default).links) (by rw [t.cell (i := ino.toNat) (k := 6) (by omega) (by omega)]; rfl) ?_
  refine st_b t.row (by simp [encT_len, t.lenT]; omega) rfl ?_
  have t1 := t.put (i := ino.toNat) (k := 6) (v := .int .i64 (IntKind.i64.wrap ((T.getD ino.toNat default).links + 1))) (t' := { T.getD ino.toNat default with links := IntKind.i64.wrap ((T.getD ino.toNat default).links + 1) }) (by omega) (by omega) rfl rfl rfl
  refine ld_b (s := .int .i64) t1.row (x := (T.getD ino.toNat default).kind) (by rw [t1.cell (i := ino.toNat) (k := 2) (by omega) (by omega), getD_set_self hlT]; rfl) ?_
  refine pIf_i (fun hy => ?_) (fun hy => ?_)
  · have hy : (T.getD ino.toNat default).kind = 2 := by simpa using hy
    refine st_b t1.row (by simp [encT_len, t.lenT]; omega) rfl ?_
    have t2 := t1.put (i := ino.toNat) (k := 10) (v := .int .i64 dir) (t' := linkI (T.getD ino.toNat default) dir) (by omega) (by omega) (by rw [getD_set_self hlT]; unfold linkI; simp only [hy, if_true]; rfl) (by rw [getD_set_self hlT]; unfold linkI; simp only [hy, if_true]) (by rw [getD_set_self hlT]; unfold linkI; simp only [hy, if_true])
    rw [List.set_set] at t2
    have u1 : ∀ (H : Heap) X, Upd (fun x => x = b) H (H.set b X) := fun H X => Upd.set (.inl rfl)
    exact hk _ t2 ((u1 _ _).trans (u1 _ _))
  · have hy : ¬ (T.getD ino.toNat default).kind = 2 := by simpa using hy
    have e : linkI (T.getD ino.toNat default) dir = { T.getD ino.toNat default with links := IntKind.i64.wrap ((T.getD ino.toNat default).links + 1) } := by unfold linkI; simp only [hy, if_false]
    rw [← e] at t1
    refine hk _ ?_ (Upd.set (.inl rfl))
    exact t1
end Go.Proofs.YtkbcneomjkfheaaDoor

set_option linter.unusedVariables false
set_option linter.unusedSimpArgs false
namespace Go.Proofs.YtkbcneomjkfheaaDoor
open Go.Hl
attribute [local irreducible] loadF zc sizeP bytesP vcBody pInvoke

theorem Tab.rootN {h : Heap} {b : Nat} {T : List Ind} {N I : List Sl} {fr : Sl} {F : List Int} (t : Tab h b T N I fr F) {i : Nat} (hi : i < 25) : ¬ blk (N.getD i nil0) b := fun e => by
  have hN := t.lenN
  refine t.pool.root (i + 1) (by simp; omega) b ?_ rfl
  simp only [List.getElem_cons_succ]
  rw [List.getElem_append_left (by omega)]
  simpa [List.getD_eq_getElem?_getD, hN, hi] using e

theorem pool_hasI {h : Heap} {R : Nat → Prop} {fr : Sl} {N I : List Sl} {c : List Value} {A B : List (List Value)} (p : Pool h R (fr :: (N ++ I)) (c :: (A ++ B))) (hN : N.length = 25) (hI : I.length = 25) (hA : A.length = 25) (hB : B.length = 25) {i : Nat} (hi : i < 25) : Has 1 h (I.getD i nil0) (B.getD i []) := by
  have := p.has (25 + i + 1) (by simp; omega)
  simp only [List.getElem_cons_succ] at this
  rw [List.getElem_append_right (by omega), List.getElem_append_right (by omega)] at this
  simpa [List.getD_eq_getElem?_getD, hi, hN, hA, hB, hI] using this

theorem pool_rootI {h : Heap} {R : Nat → Prop} {fr : Sl} {N I : List Sl} {C : List (List Value)} (p : Pool h R (fr :: (N ++ I)) C) (hN : N.length = 25) (hI : I.length = 25) {i : Nat} (hi : i < 25) {b : Nat} (hb : R b) : ¬ blk (I.getD i nil0) b := fun e => by
  refine p.root (25 + i + 1) (by simp; omega) b ?_ hb
  simp only [List.getElem_cons_succ]
  rw [List.getElem_append_right (by omega)]
  simpa [List.getD_eq_getElem?_getD, hN, hI, hi] using e
theorem row_ins {T : List Ind} {N I : List Sl} (hT : T.length = 25) (hN : N.length = 25) (hI : I.length = 25) {i : Nat} (hi : i < 25) (n' i' fr : Sl) (name : ByteArray) (ino : Int) :
    ((encT T N I ++ [Value.slice fr.base fr.len fr.cap]).set (i * 11 + 8) (.slice n'.base n'.len n'.cap)).set (i * 11 + 9) (.slice i'.base i'.len i'.cap) = encT (T.set i (insI (T.getD i default) name ino)) (N.set i n') (I.set i i') ++ [Value.slice fr.base fr.len fr.cap] := by
  have e1 : (encT T N I).set (i * 11 + 8) (.slice n'.base n'.len n'.cap) = encT T (N.set i n') I := by
    rw [encT_set (by omega) (by omega) (by omega) (by omega) (t' := T.getD i default) (n' := n') (k' := I.getD i nil0) rfl, set_same (by omega), set_same (by omega)]
  have e2 : (encT T (N.set i n') I).set (i * 11 + 9) (.slice i'.base i'.len i'.cap) = encT (T.set i (insI (T.getD i default) name ino)) (N.set i n') (I.set i i') := by
    rw [encT_set (by simp; omega) (by omega) (by omega) (by omega) (t' := insI (T.getD i default) name ino) (n' := n') (k' := i') (by rw [getD_set_self (by omega)]; rfl), List.set_set]
  rw [List.set_append_left _ _ (by rw [encT_len]; omega), e1, List.set_append_left _ _ (by rw [encT_len]; omega), e2]

theorem getD_mem {α : Type} {l : List α} {i : Nat} {d : α} (h : i < l.length) : l.getD i d ∈ l := by
  rw [List.getD_eq_getElem?_getD, List.getElem?_eq_getElem h]; exact List.getElem_mem h

theorem enter_ok {h : Heap} {b : Nat} {T : List Ind} {F : List Int} {G : Nat → Prop} (t : TabF h b T F G) (sm : Small T) (fi : Fine T) {dir ino : Int} {name : ByteArray} {KP K : Value → Pr}
    (k : ∀ h', TabF h' b (enterF T dir name ino).1 F (More G h) → Upd G h h' → K (.int .i64 (enterF T dir name ino).2) h') :
    WpCall Tryd.prog 12 #[.pointer (some ⟨b, 0, none⟩), .int .i64 dir, .string name, .int .i64 ino] KP K h := by
  have t0 := t
  obtain ⟨N, I, fr, t, g⟩ := t
  refine inodes_Table_Enter_call (some ⟨b, 0, none⟩) dir name ino ?_
  unfold inodes_Table_Enter
  refine at_ok t ⟨_, rfl, at_ok t ⟨_, rfl, isName_ok fun h1 le1 => ⟨_, rfl, ?_⟩⟩⟩
  have same : TabF h1 b T F (More G h) := (t0.keep le1).more fun x hx => .inl hx
  have us : Upd G h h1 := Upd.of_le le1
  have t1 := t.upd (Upd.of_le (F := fun _ => False) le1) (fun _ _ h => h)
  unfold enterF at k
  refine pIf_i (fun hz => ?_) (fun hz => ?_)
  · have hz : ¬ isName name = true := by simpa using hz
    simp only [hz, if_false, Bool.false_eq_true] at k
    exact fgt_mk (k h1 same us)
  have hz : isName name = true := by simpa using hz
  simp only [hz, if_true] at k
  simp only [pJoin_eq]
  unfold inodes_Table_Enter_j2 inodes_Table_Enter_j1
  by_cases hb : hasB T dir = true ∧ hasB T ino = true
  · simp only [hb, and_self, if_true] at k
    obtain ⟨hd, hi⟩ := hb
    obtain ⟨r1, r2⟩ := hasB_range hd
    obtain ⟨r3, r4⟩ := hasB_range hi
    simp only [hd, hi, if_true, pSome_some, add_mk]
    refine pIf_f rfl (pIf_f rfl (ld_b (s := .int .i64) t1.row (x := (T.getD dir.toNat default).kind) (by rw [t1.cell (i := dir.toNat) (k := 2) (by omega) (by omega)]; rfl) ?_))
    refine pIf_i (fun hq => ?_) (fun hq => ?_)
    · have hq : ¬ (T.getD dir.toNat default).kind = 2 := by simpa using hq
      simp only [hq, if_false] at k
      exact fgt_mk (k h1 same us)
    have hq : (T.getD dir.toNat default).kind = 2 := by simpa using hq
    simp only [hq, if_true] at k
    have cN : (encT T N I ++ [Value.slice fr.base fr.len fr.cap])[dir.toNat * 11 + 8]? = some (Shape.slice.inj (N.getD dir.toNat nil0)) := by rw [t1.cell (i := dir.toNat) (k := 8) (by omega) (by omega)]; rfl
    have cI : (encT T N I ++ [Value.slice fr.base fr.len fr.cap])[dir.toNat * 11 + 9]? = some (Shape.slice.inj (I.getD dir.toNat nil0)) := by rw [t1.cell (i := dir.toNat) (k := 9) (by omega) (by omega)]; rfl
    obtain ⟨s1, s2⟩ := fi dir.toNat
    have sm1 := (sm dir.toNat).1
    have oN := t1.hasN (i := dir.toNat) (by omega)
    have oI := t1.hasI (i := dir.toNat) (by omega)
    refine ld_b (s := .slice) t1.row (x := N.getD dir.toNat nil0) cN ?_
    refine search_ok (ns := (T.getD dir.toNat default).names) (p := pos (T.getD dir.toNat default).names name) oN.vals (by omega) (pos_le _ _) (pos_spec s1 name) ⟨((pos (T.getD dir.toNat default).names name : Int), thereB (T.getD dir.toNat default).names name, ()), rfl, ?_⟩
    dsimp only
    refine pIf_i (fun hw => ?_) (fun hw => ?_)
    · simp only [hw, if_true] at k
      exact fgt_mk (k h1 same us)
    simp only [hw, if_false, Bool.false_eq_true] at k
    refine ld_b (s := .slice) t1.row (x := N.getD dir.toNat nil0) cN ?_
    have hln : (N.getD dir.toNat nil0).len = (T.getD dir.toNat default).names.length := by have := oN.len; rw [strs_len] at this; exact this
    refine pIf_i (fun hv => ?_) (fun hv => ?_)
    · have hv : (T.getD dir.toNat default).names.length ≥ 8 := by have := of_decide_eq_true hv; omega
      simp only [hv, if_true] at k
      exact fgt_mk (k h1 same us)
    have hv : ¬ (T.getD dir.toNat default).names.length ≥ 8 := by have := of_decide_eq_false hv; omega
    simp only [hv, if_false] at k
    refine ld_b (s := .int .i64) t1.row (x := (T.getD ino.toNat default).links) (by rw [t1.cell (i := ino.toNat) (k := 6) (by omega) (by omega)]; rfl) ?_
    refine pIf_i (fun hy => ?_) (fun hy => ?_)
    · have hy : (T.getD ino.toNat default).links ≥ 8 := by simpa using hy
      simp only [hy, if_true] at k
      exact fgt_mk (k h1 same us)
    have hy : ¬ (T.getD ino.toNat default).links ≥ 8 := by simpa using hy
    simp only [hy, if_false] at k
    refine ld_b (s := .slice) t1.row (x := N.getD dir.toNat nil0) cN (ld_b (s := .slice) t1.row (x := I.getD dir.toNat nil0) cI ?_)
    intro b19 hb19
    rw [lay_s1]
    refine ⟨fun _ _ => trivial, ?_⟩
    have le2 : Heap.le h1 (h1.set b19 (.row [.string name] ([Value.string name] : List Value).length)) := Heap.le_set_new (Heap.le_refl _) hb19 _
    have t2 := t1.upd (Upd.of_le (F := fun _ => False) le2) (fun _ _ h => h)
    have oN2 := t2.hasN (i := dir.toNat) (by omega)
    refine insert_str (i := pos (T.getD dir.toNat default).names name) oN2 (by rw [strs_len]; exact pos_le _ _) (Heap.set_same _ _ _) (fun e => oN.block e hb19) (oneCells_strs _) rfl (by rw [strs_len]; omega) fun n' h2 u2 o2 f2 => ⟨n', rfl, ?_⟩
    rw [strs_ins] at o2
    have P3 := pool_names t2.pool t.lenN (by simp [t.lenT]) (i := dir.toNat) (by omega) (u2.mono fun x hx => .inr hx) o2 f2 (fun x hx => by rw [hx, t2.row]; simp)
    have hb2 := u2 b _ t2.row (t2.rootN (by omega))
    refine keep_cell .slice (by kernel_rfl) (by decide) hb2 cI ?_
    intro b22 hb22
    rw [lay1]
    have le3 : Heap.le h2 (h2.set b22 (.row [.int .i64 ino] ([Value.int .i64 ino] : List Value).length)) := Heap.le_set_new (Heap.le_refl _) hb22 _
    have P4 := P3.upd (F := fun _ => False) (Upd.of_le le3) (fun _ h => h.elim)
    have oI4 := pool_hasI P4 (by simpa using t.lenN) t.lenI (by simp [t.lenT]) (by simp [t.lenT]) (i := dir.toNat) (by omega)
    have eB : (T.map (fun t => ints t.inos)).getD dir.toNat [] = ints (T.getD dir.toNat default).inos := by simp [List.getD_eq_getElem?_getD, t.lenT, show dir.toNat < 25 by omega]
    rw [eB] at oI4
    have nI : ¬ blk (I.getD dir.toNat nil0) b22 := fun e => (pool_hasI P3 (by simpa using t.lenN) t.lenI (by simp [t.lenT]) (by simp [t.lenT]) (i := dir.toNat) (by omega)).block e hb22
    refine insert_int (i := pos (T.getD dir.toNat default).names name) oI4 (by rw [ints_len, s2]; exact pos_le _ _) (Heap.set_same _ _ _) nI (oneCells_ints _) rfl (by rw [ints_len]; omega) fun i' h4 u4 o4 f4 => ⟨i', rfl, ?_⟩
    rw [ints_ins] at o4
    have P5 := pool_inos P4 (by simpa using t.lenN) t.lenI (by simp [t.lenT]) (i := dir.toNat) (by omega) (u4.mono fun x hx => .inr hx) o4 f4 (fun x hx => by rw [hx, le3 _ _ hb2]; simp)
    have hb4 := u4 b _ (le3 _ _ hb2) (pool_rootI P4 (by simpa using t.lenN) t.lenI (i := dir.toNat) (by omega) rfl)
    refine st_b hb4 (by simp [encT_len, t.lenT]; omega) rfl (st_b (Heap.set_same _ _ _) (by simp [encT_len, t.lenT]; omega) rfl ?_)
    rw [Heap.set_set, row_ins t.lenT t.lenN t.lenI (by omega) n' i' fr name ino]
    have t5 : Tab (h4.set b (.row (encT (T.set dir.toNat (insI (T.getD dir.toNat default) name ino)) (N.set dir.toNat n') (I.set dir.toNat i') ++ [Value.slice fr.base fr.len fr.cap]) 276)) b (T.set dir.toNat (insI (T.getD dir.toNat default) name ino)) (N.set dir.toNat n') (I.set dir.toNat i') fr F := by
      refine ⟨by simpa using t.lenT, by simpa using t.lenN, by simpa using t.lenI, Heap.set_same _ _ _, ?_⟩
      rw [List.map_set, List.map_set]
      refine P5.upd (F := fun x => x = b) (Upd.set (.inl rfl)) fun x hx hf => ?_
      obtain ⟨s, hs, hxb⟩ := hf
      obtain ⟨j, hj, rfl⟩ := List.getElem_of_mem hs
      exact P5.root j hj x hxb hx
    refine link_tail t5 r3 r4 fun h5 t6 u6 => ?_
    have hG : ∀ x, x = b → G x := fun x hx => g x (.inl hx)
    have gN : ∀ x, blk (N.getD dir.toNat nil0) x → G x := fun x hx => g x (.inr ⟨_, List.mem_cons_of_mem _ (List.mem_append_left _ (getD_mem (by rw [t.lenN]; omega))), hx⟩)
    have gI : ∀ x, blk (I.getD dir.toNat nil0) x → G x := fun x hx => g x (.inr ⟨_, List.mem_cons_of_mem _ (List.mem_append_right _ (getD_mem (by rw [t.lenI]; omega))), hx⟩)
    have new2 : ∀ x, h2 x = none → G x ∨ h x = none := fun x hx => by
      by_cases hg : G x
      · exact .inl hg
      · right
        cases hq : h x with
        | none => rfl
        | some y =>
          have := u2 x y (le2 _ _ (le1 _ _ hq)) (fun e => hg (gN x e))
          rw [this] at hx; cases hx
    refine fgt_mk (k h5 ⟨_, _, fr, t6, fun x hx => ?_⟩ ?_)
    · rcases hx with hx | ⟨s, hs, hx⟩
      · exact .inl (hG x hx)
      · rcases List.mem_cons.1 hs with rfl | hs
        · exact .inl (g x (.inr ⟨s, List.mem_cons_self .., hx⟩))
        · rcases List.mem_append.1 hs with q | q
          · rcases List.mem_or_eq_of_mem_set q with q | rfl
            · exact .inl (g x (.inr ⟨s, List.mem_cons_of_mem _ (List.mem_append_left _ q), hx⟩))
            · rcases f2 x hx with q | q
              · exact .inl (gN x q)
              · exact .inr (Heap.le_none (Heap.le_trans le1 le2) q)
          · rcases List.mem_or_eq_of_mem_set q with q | rfl
            · exact .inl (g x (.inr ⟨s, List.mem_cons_of_mem _ (List.mem_append_right _ q), hx⟩))
            · rcases f4 x hx with q | q
              · exact .inl (gI x q)
              · exact new2 x (Heap.le_none le3 q)
    · intro j y hy hn
      have q1 := u2 j y (le2 _ _ (le1 _ _ hy)) (fun e => hn (gN j e))
      have q2 := u4 j y (le3 _ _ q1) (fun e => hn (gI j e))
      refine u6 j y ?_ (fun e => hn (hG j e))
      rw [Heap.set_ne _ _ (fun e => hn (hG j e))]
      exact q2
  · simp only [hb, if_false] at k
    have fin := fgt_mk (k h1 same us)
    by_cases hd : hasB T dir = true
    · have hi : hasB T ino = false := by
        cases e : hasB T ino with
        | false => rfl
        | true => exact absurd ⟨hd, e⟩ hb
      simp only [hd, hi, if_true, if_false, Bool.false_eq_true]
      exact pIf_f rfl (pIf_t rfl fin)
    · have hd : hasB T dir = false := by simpa using hd
      simp only [hd, if_false, Bool.false_eq_true]
      exact pIf_t rfl (pIf_t rfl fin)
end Go.Proofs.YtkbcneomjkfheaaDoor

set_option linter.unusedVariables false
set_option linter.unusedSimpArgs false
namespace Go.Proofs.YtkbcneomjkfheaaDoor
open Go.Hl
attribute [local irreducible] loadF zc sizeP bytesP vcBody pInvoke

/-- The name at a place goes, and the inode beside it. -/
def delI (x : Ind) (p : Nat) : Ind := { x with names := x.names.eraseIdx p, inos := x.inos.eraseIdx p }
/-- One link less. -/
def unlinkI (x : Ind) : Ind := { x with links := IntKind.i64.wrap (x.links - 1) }
def leaveOk (T : List Ind) (dir : Int) (p : Nat) (ino : Int) : List Ind :=
  let T1 := T.set dir.toNat (delI (T.getD dir.toNat default) p)
  if hasB T1 ino = true then T1.set ino.toNat (unlinkI (T1.getD ino.toNat default)) else T1
/-- Leave: the table, the inode, an error's number. -/
def leaveF (T : List Ind) (dir : Int) (name : ByteArray) : List Ind × Int × Int :=
  if hasB T dir = true then
    let d := T.getD dir.toNat default
    if d.kind = 2 then
      if thereB d.names name = true then (leaveOk T dir (pos d.names name) (d.inos.getD (pos d.names name) 0), d.inos.getD (pos d.names name) 0, 0)
      else (T, 0, 2)
    else (T, 0, 20)
  else (T, 0, 2)

theorem row_del {T : List Ind} {N I : List Sl} (hT : T.length = 25) (hN : N.length = 25) (hI : I.length = 25) {i : Nat} (hi : i < 25) (n' i' fr : Sl) (p : Nat) :
    ((encT T N I ++ [Value.slice fr.base fr.len fr.cap]).set (i * 11 + 8) (.slice n'.base n'.len n'.cap)).set (i * 11 + 9) (.slice i'.base i'.len i'.cap) = encT (T.set i (delI (T.getD i default) p)) (N.set i n') (I.set i i') ++ [Value.slice fr.base fr.len fr.cap] := by
  have e1 : (encT T N I).set (i * 11 + 8) (.slice n'.base n'.len n'.cap) = encT T (N.set i n') I := by
    rw [encT_set (by omega) (by omega) (by omega) (by omega) (t' := T.getD i default) (n' := n') (k' := I.getD i nil0) rfl, set_same (by omega), set_same (by omega)]
  have e2 : (encT T (N.set i n') I).set (i * 11 + 9) (.slice i'.base i'.len i'.cap) = encT (T.set i (delI (T.getD i default) p)) (N.set i n') (I.set i i') := by
    rw [encT_set (by simp; omega) (by omega) (by omega) (by omega) (t' := delI (T.getD i default) p) (n' := n') (k' := i') (by rw [getD_set_self (by omega)]; rfl), List.set_set]
  rw [List.set_append_left _ _ (by rw [encT_len]; omega), e1, List.set_append_left _ _ (by rw [encT_len]; omega), e2]

theorem strs_del (l : List ByteArray) (p : Nat) : (strs l).eraseIdx p = strs (l.eraseIdx p) := by simp [strs, List.eraseIdx_eq_take_drop_succ]
theorem ints_del (l : List Int) (p : Nat) : (ints l).eraseIdx p = ints (l.eraseIdx p) := by simp [ints, List.eraseIdx_eq_take_drop_succ]

theorem getD_lt {α : Type} {l : List α} {i : Nat} {d : α} (h : i < l.length) : l.getD i d = l[i] := by rw [List.getD_eq_getElem?_getD, List.getElem?_eq_getElem h]; rfl

theorem leave_ok {h : Heap} {b : Nat} {T : List Ind} {F : List Int} {G : Nat → Prop} (t : TabF h b T F G) (sm : Small T) (fi : Fine T) {dir : Int} {name : ByteArray} {KP K : Value → Pr}
    (k : ∀ h', TabF h' b (leaveF T dir name).1 F (More G h) → Upd G h h' → K (.tuple #[.int .i64 (leaveF T dir name).2.1, .int .i64 (leaveF T dir name).2.2]) h') :
    WpCall Tryd.prog 55 #[.pointer (some ⟨b, 0, none⟩), .int .i64 dir, .string name] KP K h := by
  have t0 := t
  obtain ⟨N, I, fr, t, g⟩ := t
  refine inodes_Table_Leave_call (some ⟨b, 0, none⟩) dir name ?_
  unfold inodes_Table_Leave
  refine at_ok t ⟨_, rfl, ?_⟩
  have same : TabF h b T F (More G h) := t0.more fun x hx => .inl hx
  have us : Upd G h h := Upd.refl _ _
  unfold leaveF at k
  by_cases hd : hasB T dir = true
  · simp only [hd, if_true] at k ⊢
    obtain ⟨r1, r2⟩ := hasB_range hd
    simp only [pSome_some, add_mk]
    refine pIf_f rfl (ld_b (s := .int .i64) t.row (x := (T.getD dir.toNat default).kind) (by rw [t.cell (i := dir.toNat) (k := 2) (by omega) (by omega)]; rfl) ?_)
    refine pIf_i (fun hq => ?_) (fun hq => ?_)
    · have hq : ¬ (T.getD dir.toNat default).kind = 2 := by simpa using hq
      simp only [hq, if_false] at k
      exact fgt_mk (k h same us)
    have hq : (T.getD dir.toNat default).kind = 2 := by simpa using hq
    simp only [hq, if_true] at k
    have cN : (encT T N I ++ [Value.slice fr.base fr.len fr.cap])[dir.toNat * 11 + 8]? = some (Shape.slice.inj (N.getD dir.toNat nil0)) := by rw [t.cell (i := dir.toNat) (k := 8) (by omega) (by omega)]; rfl
    have cI : (encT T N I ++ [Value.slice fr.base fr.len fr.cap])[dir.toNat * 11 + 9]? = some (Shape.slice.inj (I.getD dir.toNat nil0)) := by rw [t.cell (i := dir.toNat) (k := 9) (by omega) (by omega)]; rfl
    obtain ⟨s1, s2⟩ := fi dir.toNat
    have sm1 := (sm dir.toNat).1
    have oN := t.hasN (i := dir.toNat) (by omega)
    have oI := t.hasI (i := dir.toNat) (by omega)
    refine ld_b (s := .slice) t.row (x := N.getD dir.toNat nil0) cN ?_
    refine search_ok (ns := (T.getD dir.toNat default).names) (p := pos (T.getD dir.toNat default).names name) oN.vals (by omega) (pos_le _ _) (pos_spec s1 name) ⟨((pos (T.getD dir.toNat default).names name : Int), thereB (T.getD dir.toNat default).names name, ()), rfl, ?_⟩
    dsimp only
    refine pIf_i (fun hw => ?_) (fun hw => ?_)
    · have hw : ¬ thereB (T.getD dir.toNat default).names name = true := by simpa using hw
      simp only [hw, if_false, Bool.false_eq_true] at k
      exact fgt_mk (k h same us)
    have hw : thereB (T.getD dir.toNat default).names name = true := by simpa using hw
    simp only [hw, if_true] at k
    have hp : pos (T.getD dir.toNat default).names name < (T.getD dir.toNat default).names.length := by unfold thereB at hw; simp at hw; exact hw.1
    refine ld_b (s := .slice) t.row (x := I.getD dir.toNat nil0) cI ?_
    have hli : (I.getD dir.toNat nil0).len = (T.getD dir.toNat default).inos.length := by have := oI.len; rw [ints_len] at this; exact this
    have hI' : (I.getD dir.toNat nil0).vals 1 h ((T.getD dir.toNat default).inos.flatMap fun y => [Value.int .i64 y]) := by
      rw [← map_flat]; exact oI.vals
    obtain ⟨a, ha, hv⟩ := sl_elem (enc := fun y : Int => [Value.int .i64 y]) (n := 1) (fun _ => rfl) hI' hli (i := pos (T.getD dir.toNat default).names name) (by omega)
    refine pIdx_i (by omega) (by omega) (pSome_i ha (pLd_i (s := .int .i64) ((T.getD dir.toNat default).inos.getD (pos (T.getD dir.toNat default).names name) 0) ?_ ?_))
    · rw [Int.toNat_natCast]
      rw [vals_cell1 hv]
      have hlt : pos (T.getD dir.toNat default).names name < (T.getD dir.toNat default).inos.length := by omega
      have hx : (T.getD dir.toNat default).inos[pos (T.getD dir.toNat default).names name] = (T.getD dir.toNat default).inos.getD (pos (T.getD dir.toNat default).names name) 0 := (getD_lt hlt).symm
      rw [hx]; rfl
    clear hv
    generalize hino : (T.getD dir.toNat default).inos.getD (pos (T.getD dir.toNat default).names name) 0 = ino at k ⊢
    generalize hpp : pos (T.getD dir.toNat default).names name = p at k hp ⊢
    have e1 : IntKind.i64.wrap ((p : Int) + 1) = ((p + 1 : Nat) : Int) := by rw [wrap_small (by omega) (by omega)]; rfl
    refine ld_b (s := .slice) t.row (x := N.getD dir.toNat nil0) cN (ld_b (s := .slice) t.row (x := I.getD dir.toNat nil0) cI ?_)
    simp only [e1]
    refine delete_str (i := p) oN (by rw [strs_len]; omega) (oneCells_strs _) (by rw [strs_len]; omega) fun n' h2 u2 o2 f2 => ⟨n', rfl, ?_⟩
    rw [strs_del] at o2
    have P3 := pool_names t.pool t.lenN (by simp [t.lenT]) (i := dir.toNat) (by omega) (u2.mono fun x hx => .inr hx) o2 (fun x hx => .inl (f2 x hx)) (fun x hx => by rw [hx, t.row]; simp)
    have hb2 := u2 b _ t.row (t.rootN (by omega))
    refine keep_cell .slice (by kernel_rfl) (by decide) hb2 cI ?_
    have oI4 := pool_hasI P3 (by simpa using t.lenN) t.lenI (by simp [t.lenT]) (by simp [t.lenT]) (i := dir.toNat) (by omega)
    have eB : (T.map (fun t => ints t.inos)).getD dir.toNat [] = ints (T.getD dir.toNat default).inos := by simp [List.getD_eq_getElem?_getD, t.lenT, show dir.toNat < 25 by omega]
    rw [eB] at oI4
    refine delete_int (i := p) oI4 (by rw [ints_len]; omega) (oneCells_ints _) (by rw [ints_len]; omega) fun i' h4 u4 o4 f4 => ⟨i', rfl, ?_⟩
    rw [ints_del] at o4
    have P5 := pool_inos P3 (by simpa using t.lenN) t.lenI (by simp [t.lenT]) (i := dir.toNat) (by omega) (u4.mono fun x hx => .inr hx) o4 (fun x hx => .inl (f4 x hx)) (fun x hx => by rw [hx, hb2]; simp)
    have hb4 := u4 b _ hb2 (pool_rootI P3 (by simpa using t.lenN) t.lenI (i := dir.toNat) (by omega) rfl)
    refine st_b hb4 (by simp [encT_len, t.lenT]; omega) rfl (st_b (Heap.set_same _ _ _) (by simp [encT_len, t.lenT]; omega) rfl ?_)
    rw [Heap.set_set, row_del t.lenT t.lenN t.lenI (by omega) n' i' fr p]
    have t5 : Tab (h4.set b (.row (encT (T.set dir.toNat (delI (T.getD dir.toNat default) p)) (N.set dir.toNat n') (I.set dir.toNat i') ++ [Value.slice fr.base fr.len fr.cap]) 276)) b (T.set dir.toNat (delI (T.getD dir.toNat default) p)) (N.set dir.toNat n') (I.set dir.toNat i') fr F := by
      refine ⟨by simpa using t.lenT, by simpa using t.lenN, by simpa using t.lenI, Heap.set_same _ _ _, ?_⟩
      rw [List.map_set, List.map_set]
      refine P5.upd (F := fun x => x = b) (Upd.set (.inl rfl)) fun x hx hf => ?_
      obtain ⟨s, hs, hxb⟩ := hf
      obtain ⟨j, hj, rfl⟩ := List.getElem_of_mem hs
      exact P5.root j hj x hxb hx
    have hG : ∀ x, x = b → G x := fun x hx => g x (.inl hx)
    have gN : ∀ x, blk (N.getD dir.toNat nil0) x → G x := fun x hx => g x (.inr ⟨_, List.mem_cons_of_mem _ (List.mem_append_left _ (getD_mem (by rw [t.lenN]; omega))), hx⟩)
    have gI : ∀ x, blk (I.getD dir.toNat nil0) x → G x := fun x hx => g x (.inr ⟨_, List.mem_cons_of_mem _ (List.mem_append_right _ (getD_mem (by rw [t.lenI]; omega))), hx⟩)
    have fin : ∀ (T' : List Ind) h', Tab h' b T' (N.set dir.toNat n') (I.set dir.toNat i') fr F → Upd (fun x => x = b) (h4.set b (.row (encT (T.set dir.toNat (delI (T.getD dir.toNat default) p)) (N.set dir.toNat n') (I.set dir.toNat i') ++ [Value.slice fr.base fr.len fr.cap]) 276)) h' → TabF h' b T' F (More G h) ∧ Upd G h h' := by
      intro T' h' t6 u6
      refine ⟨⟨_, _, fr, t6, fun x hx => ?_⟩, ?_⟩
      · rcases hx with hx | ⟨s, hs, hx⟩
        · exact .inl (hG x hx)
        · rcases List.mem_cons.1 hs with rfl | hs
          · exact .inl (g x (.inr ⟨s, List.mem_cons_self .., hx⟩))
          · rcases List.mem_append.1 hs with q | q
            · rcases List.mem_or_eq_of_mem_set q with q | rfl
              · exact .inl (g x (.inr ⟨s, List.mem_cons_of_mem _ (List.mem_append_left _ q), hx⟩))
              · exact .inl (gN x (f2 x hx))
            · rcases List.mem_or_eq_of_mem_set q with q | rfl
              · exact .inl (g x (.inr ⟨s, List.mem_cons_of_mem _ (List.mem_append_right _ q), hx⟩))
              · exact .inl (gI x (f4 x hx))
      · intro j y hy hn
        have q1 := u2 j y hy (fun e => hn (gN j e))
        have q2 := u4 j y q1 (fun e => hn (gI j e))
        refine u6 j y ?_ (fun e => hn (hG j e))
        rw [Heap.set_ne _ _ (fun e => hn (hG j e))]
        exact q2
    unfold leaveOk at k
    refine at_ok t5 ⟨_, rfl, ?_⟩
    unfold inodes_Table_Leave_j1
    dsimp only
    by_cases hi : hasB (T.set dir.toNat (delI (T.getD dir.toNat default) p)) ino = true
    · obtain ⟨r3, r4⟩ := hasB_range hi
      simp only [hi, if_true] at k ⊢
      simp only [pSome_some, add_mk, Nat.zero_add]
      refine pIf_t rfl (ld_b (s := .int .i64) t5.row (x := ((T.set dir.toNat (delI (T.getD dir.toNat default) p)).getD ino.toNat default).links) (by rw [t5.cell (i := ino.toNat) (k := 6) (by omega) (by omega)]; rfl) ?_)
      refine st_b t5.row (by simp [encT_len, t.lenT]; omega) rfl ?_
      have t6 := t5.put (i := ino.toNat) (k := 6) (v := .int .i64 (IntKind.i64.wrap (((T.set dir.toNat (delI (T.getD dir.toNat default) p)).getD ino.toNat default).links - 1))) (t' := unlinkI ((T.set dir.toNat (delI (T.getD dir.toNat default) p)).getD ino.toNat default)) (by omega) (by omega) rfl rfl rfl
      obtain ⟨q1, q2⟩ := fin _ _ t6 (Upd.set (.inl rfl))
      exact fgt_mk (k _ q1 q2)
    · simp only [hi, if_false, Bool.false_eq_true] at k ⊢
      obtain ⟨q1, q2⟩ := fin _ _ t5 (Upd.refl _ _)
      exact pIf_f rfl (fgt_mk (k _ q1 q2))
  · simp only [hd, if_false, Bool.false_eq_true] at k ⊢
    exact pIf_t rfl (fgt_mk (k h same us))
end Go.Proofs.YtkbcneomjkfheaaDoor

set_option linter.unusedVariables false
set_option linter.unusedSimpArgs false
namespace Go.Proofs.YtkbcneomjkfheaaDoor
open Go.Hl

/-! The plain law of a table: what is always so of it, and that each op keeps it. -/
/-- Free places from i on. -/
def freeFrom (T : List Ind) (i : Nat) : List Int := ((List.range' i (25 - i)).filter fun i => (T.getD i default).kind == 0).map fun (n : Nat) => (n : Int)
def freeL (T : List Ind) : List Int := freeFrom T 2
theorem freeFrom_step (T : List Ind) {i : Nat} (h : i < 25) : freeFrom T i = if (T.getD i default).kind = 0 then (i : Int) :: freeFrom T (i + 1) else freeFrom T (i + 1) := by
  unfold freeFrom
  rw [show 25 - i = (25 - (i + 1)) + 1 by omega, List.range'_succ, List.filter_cons]
  by_cases e : (T.getD i default).kind = 0
  · rw [if_pos (by rw [e]; rfl), if_pos e, List.map_cons]
  · rw [if_neg (by rw [beq_iff_eq]; exact e), if_neg e]
theorem freeFrom_end (T : List Ind) {i : Nat} (h : ¬ i < 25) : freeFrom T i = [] := by
  unfold freeFrom
  rw [show 25 - i = 0 by omega]; rfl
def isFree (T : List Ind) (x : Int) : Prop := 2 ≤ x ∧ x < 25 ∧ (T.getD x.toNat default).kind = 0
instance (T : List Ind) (x : Int) : Decidable (isFree T x) := by unfold isFree; infer_instance
theorem mem_freeL {T : List Ind} {x : Int} : x ∈ freeL T ↔ isFree T x := by
  unfold freeL freeFrom isFree
  simp only [List.mem_map, List.mem_filter, List.mem_range'_1, beq_iff_eq]
  constructor
  · rintro ⟨n, ⟨⟨h1, h2⟩, h3⟩, rfl⟩
    exact ⟨by omega, by omega, by simpa using h3⟩
  · rintro ⟨h1, h2, h3⟩
    exact ⟨x.toNat, ⟨⟨by omega, by omega⟩, h3⟩, by omega⟩
theorem freeL_sorted (T : List Ind) : (freeL T).Pairwise (· < ·) := by
  unfold freeL freeFrom
  rw [List.pairwise_map]
  refine List.Pairwise.imp ?_ ((List.pairwise_lt_range' (s := 2) (n := 25 - 2) (step := 1)).filter _)
  intro a b h; omega
theorem count_of_sorted : ∀ {l : List Int}, l.Pairwise (· < ·) → ∀ x, l.count x = if x ∈ l then 1 else 0
  | [], _, x => by simp
  | a :: r, h, x => by
    obtain ⟨h1, h2⟩ := List.pairwise_cons.1 h
    rw [List.count_cons, count_of_sorted h2 x]
    by_cases e : a = x
    · subst e
      have : ¬ a ∈ r := fun hm => by have := h1 a hm; omega
      simp [this]
    · have : ¬ x = a := fun h => e h.symm
      simp [e, this]
theorem freeL_count (T : List Ind) (x : Int) : (freeL T).count x = if isFree T x then 1 else 0 := by
  rw [count_of_sorted (freeL_sorted T)]
  simp only [mem_freeL]

structure FreeOk (T : List Ind) (F : List Int) : Prop where
  heap : HeapOk (fun x => F.getD x 0) F.length
  perm : F.Perm (freeL T)
theorem freeL_len (T : List Ind) : (freeL T).length ≤ 23 := by
  unfold freeL freeFrom
  rw [List.length_map]
  exact Nat.le_trans (List.length_filter_le _ _) (by simp)
theorem FreeOk.len {T : List Ind} {F : List Int} (f : FreeOk T F) : F.length ≤ 23 := by rw [f.perm.length_eq]; exact freeL_len T
theorem FreeOk.range {T : List Ind} {F : List Int} (f : FreeOk T F) : ∀ x ∈ F, 1 ≤ x ∧ x < 25 := fun x hx => by
  have := mem_freeL.1 (f.perm.mem_iff.1 hx)
  unfold isFree at this; omega
theorem heap_min {f : Nat → Int} {n : Nat} (h : HeapOk f n) : ∀ c, c < n → f 0 ≤ f c := by
  intro c
  induction c using Nat.strongRecOn with
  | ind c ih =>
    intro hc
    by_cases e : c = 0
    · subst e; omega
    · have h1 := h c (by omega) hc
      have h2 := ih ((c - 1) / 2) (by omega) (by omega)
      omega
theorem FreeOk.head {T : List Ind} {F : List Int} (f : FreeOk T F) {p : Int} {r : List Int} (e : freeL T = p :: r) : F ≠ [] ∧ F.getD 0 0 = p := by
  have hl : 0 < F.length := by rw [f.perm.length_eq, e]; simp
  have hne : F ≠ [] := List.length_pos_iff.1 hl
  refine ⟨hne, ?_⟩
  have hp : p ∈ F := f.perm.mem_iff.2 (by rw [e]; exact List.mem_cons_self ..)
  obtain ⟨i, hi, hip⟩ := List.getElem_of_mem hp
  have h1 : F.getD 0 0 ≤ F.getD i 0 := heap_min f.heap i hi
  rw [getD_lt hi, hip] at h1
  have h0 : F.getD 0 0 ∈ freeL T := f.perm.mem_iff.1 (by rw [getD_lt hl]; exact List.getElem_mem hl)
  rw [e] at h0
  have hs := freeL_sorted T
  rw [e] at hs
  rcases List.mem_cons.1 h0 with q | q
  · exact q
  · have := (List.pairwise_cons.1 hs).1 _ q; omega
theorem FreeOk.none {T : List Ind} {F : List Int} (f : FreeOk T F) (e : freeL T = []) : F = [] := by
  have := f.perm.length_eq
  rw [e] at this
  exact List.length_eq_zero_iff.1 (by simpa using this)

/-- What is always so. -/
structure Inv (T : List Ind) : Prop where
  len : T.length = 25
  fine : Fine T
  small : ∀ i, (T.getD i default).names.length ≤ 8
  inos : ∀ i, ∀ x ∈ (T.getD i default).inos, 1 ≤ x ∧ x < 25
  root : (T.getD 1 default).kind = 2
theorem Inv.Small {T : List Ind} (v : Inv T) : Small T := fun i => by
  have := v.small i
  have := (v.fine i).2
  omega
theorem getD_set {α : Type} {l : List α} {i j : Nat} {x d : α} (h : i < l.length) : (l.set i x).getD j d = if j = i then x else l.getD j d := by
  by_cases e : j = i
  · subst e; simp [List.getD_eq_getElem?_getD, h]
  · simp [List.getD_eq_getElem?_getD, List.getElem?_set, e, Ne.symm e]
/-- A place turns. -/
theorem Inv.set {T : List Ind} (v : Inv T) {i : Nat} {x : Ind} (s : Sorted x.names) (l : x.inos.length = x.names.length) (m : x.names.length ≤ 8) (n : ∀ y ∈ x.inos, 1 ≤ y ∧ y < 25) (r : i = 1 → x.kind = 2) : Inv (T.set i x) := by
  by_cases hi : i < T.length
  · refine ⟨by simpa using v.len, fun j => ?_, fun j => ?_, fun j => ?_, ?_⟩
    · rw [getD_set hi]; split
      · exact ⟨s, l⟩
      · exact v.fine j
    · rw [getD_set hi]; split
      · exact m
      · exact v.small j
    · rw [getD_set hi]; split
      · exact n
      · exact v.inos j
    · rw [getD_set hi]; split
      · rename_i e; exact r e.symm
      · exact v.root
  · rw [List.set_eq_of_length_le (by omega)]; exact v
/-- The kinds are as they were. -/
theorem FreeOk.kinds {T T' : List Ind} {F : List Int} (f : FreeOk T F) (k : ∀ i, (T'.getD i default).kind = (T.getD i default).kind) : FreeOk T' F := by
  refine ⟨f.heap, ?_⟩
  have : freeL T' = freeL T := by unfold freeL freeFrom; simp only [k]
  rw [this]; exact f.perm

theorem write_inv {T : List Ind} (v : Inv T) (ino : Int) (d : ByteArray) : Inv (writeF T ino d).1 ∧ ∀ i, ((writeF T ino d).1.getD i default).kind = (T.getD i default).kind := by
  unfold writeF
  by_cases hb : hasB T ino = true
  · obtain ⟨r1, r2⟩ := hasB_range hb
    have hl : ino.toNat < T.length := by rw [v.len]; omega
    simp only [hb, if_true]
    split
    · exact ⟨v, fun _ => rfl⟩
    · split
      · exact ⟨v, fun _ => rfl⟩
      · refine ⟨v.set (v.fine ino.toNat).1 (v.fine ino.toNat).2 (v.small _) (v.inos _) (fun e => by rw [e]; exact v.root), fun i => ?_⟩
        rw [getD_set hl]; split
        · rename_i e; rw [e]
        · rfl
  · simp only [hb, if_false, Bool.false_eq_true]
    exact ⟨v, fun _ => trivial⟩
theorem own_inv {T : List Ind} (v : Inv T) (ino m u g : Int) : Inv (ownF T ino m u g).1 ∧ ∀ i, ((ownF T ino m u g).1.getD i default).kind = (T.getD i default).kind := by
  unfold ownF
  by_cases hb : hasB T ino = true
  · obtain ⟨r1, r2⟩ := hasB_range hb
    have hl : ino.toNat < T.length := by rw [v.len]; omega
    simp only [hb, if_true]
    refine ⟨v.set (v.fine ino.toNat).1 (v.fine ino.toNat).2 (v.small _) (v.inos _) (fun e => by rw [e]; exact v.root), fun i => ?_⟩
    rw [getD_set hl]; split
    · rename_i e; rw [e]
    · rfl
  · simp only [hb, if_false, Bool.false_eq_true]
    exact ⟨v, fun _ => trivial⟩

theorem lt_total {a b : ByteArray} (h1 : lt a b = false) (h2 : strEq b a = false) : lt b a = true := by
  rw [lt_def, decide_eq_true_eq]
  rw [lt_def, decide_eq_false_iff_not] at h1
  rcases Std.lt_trichotomy a.data.toList b.data.toList with h | h | h
  · exact absurd h h1
  · exfalso
    have : a = b := by cases a; cases b; simp only [ByteArray.mk.injEq] at *; exact Array.toList_inj.1 h
    rw [this, strEq_self] at h2; cases h2
  · exact h
theorem ins_sorted {ns : List ByteArray} (s : Sorted ns) {t : ByteArray} (h : thereB ns t = false) : Sorted (ns.take (pos ns t) ++ t :: ns.drop (pos ns t)) := by
  have hp := pos_spec s t
  have hle := pos_le ns t
  unfold Sorted
  rw [List.pairwise_append, List.pairwise_cons]
  have hpost : ∀ x ∈ ns.drop (pos ns t), lt t x = true := by
    intro x hx
    obtain ⟨j, hj, rfl⟩ := List.getElem_of_mem hx
    rw [List.length_drop] at hj
    rw [List.getElem_drop]
    have h0 : pos ns t < ns.length := by omega
    have hne : strEq ns[pos ns t] t = false := by
      unfold thereB at h
      simp only [decide_eq_false_iff_not, not_exists, Bool.not_eq_true] at h
      exact h h0
    have hlt : lt ns[pos ns t] t = false := by rw [hp _ h0]; simp
    have h1 : lt t ns[pos ns t] = true := by
      refine lt_total hlt ?_
      cases e : strEq t ns[pos ns t] with
      | false => rfl
      | true => rw [strEq_iff] at e; rw [← e, strEq_self] at hne; cases hne
    by_cases hj0 : j = 0
    · subst hj0; simpa using h1
    · exact lt_trans h1 (List.pairwise_iff_getElem.1 s _ _ _ _ (by omega))
  refine ⟨s.sublist (List.take_sublist _ _), ⟨hpost, s.sublist (List.drop_sublist _ _)⟩, fun a ha b hb => ?_⟩
  obtain ⟨i, hi, rfl⟩ := List.getElem_of_mem ha
  rw [List.length_take] at hi
  rw [List.getElem_take]
  have h1 : lt ns[i] t = true := by rw [hp i (by omega)]; simp; omega
  rcases List.mem_cons.1 hb with rfl | hb
  · exact h1
  · exact lt_trans h1 (hpost b hb)

theorem link_same (x : Ind) (dir : Int) : (linkI x dir).names = x.names ∧ (linkI x dir).inos = x.inos ∧ (linkI x dir).kind = x.kind := by
  unfold linkI
  dsimp only
  split <;> exact ⟨rfl, rfl, rfl⟩

theorem enter_inv {T : List Ind} (v : Inv T) (dir ino : Int) (name : ByteArray) : Inv (enterF T dir name ino).1 ∧ ∀ i, ((enterF T dir name ino).1.getD i default).kind = (T.getD i default).kind := by
  have same : Inv T ∧ ∀ i, (T.getD i default).kind = (T.getD i default).kind := ⟨v, fun _ => rfl⟩
  unfold enterF
  by_cases h0 : isName name = true
  · by_cases hb : hasB T dir = true ∧ hasB T ino = true
    · obtain ⟨hd, hi⟩ := hb
      obtain ⟨r1, r2⟩ := hasB_range hd
      obtain ⟨r3, r4⟩ := hasB_range hi
      have hl : dir.toNat < T.length := by rw [v.len]; omega
      have hl2 : ino.toNat < T.length := by rw [v.len]; omega
      simp only [h0, hd, hi, and_self, if_true]
      split
      · split
        · exact same
        · rename_i h3
          split
          · exact same
          · rename_i h4
            split
            · exact same
            · have hp := pos_le (T.getD dir.toNat default).names name
              have v1 : Inv (T.set dir.toNat (insI (T.getD dir.toNat default) name ino)) := by
                refine v.set (ins_sorted (v.fine _).1 (by simpa using h3)) ?_ ?_ ?_ (fun e => ?_)
                · have := (v.fine dir.toNat).2
                  simp only [insI, List.length_append, List.length_take, List.length_cons, List.length_drop]; omega
                · simp only [insI, List.length_append, List.length_take, List.length_cons, List.length_drop]; omega
                · intro y hy
                  unfold insI at hy
                  rcases List.mem_append.1 hy with q | q
                  · exact v.inos _ y (List.mem_of_mem_take q)
                  · rcases List.mem_cons.1 q with rfl | q
                    · exact ⟨r3, r4⟩
                    · exact v.inos _ y (List.mem_of_mem_drop q)
                · rw [e]; exact v.root
              unfold enterOk
              obtain ⟨q1, q2, q3⟩ := link_same ((T.set dir.toNat (insI (T.getD dir.toNat default) name ino)).getD ino.toNat default) dir
              refine ⟨v1.set (by rw [q1]; exact (v1.fine _).1) (by rw [q1, q2]; exact (v1.fine _).2) (by rw [q1]; exact v1.small _) (by rw [q2]; exact v1.inos _) (fun e => by rw [q3, e]; exact v1.root), fun i => ?_⟩
              rw [getD_set (by simpa using hl2)]
              split
              · rename_i e
                rw [q3, e, getD_set hl]
                split
                · rename_i e2; rw [e2]; rfl
                · rfl
              · rw [getD_set hl]
                split
                · rename_i e2; rw [e2]; rfl
                · rfl
      · exact same
    · simp only [h0, hb, if_true, if_false]; exact ⟨v, fun _ => trivial⟩
  · simp only [h0, if_false, Bool.false_eq_true]; exact ⟨v, fun _ => trivial⟩

theorem leave_inv {T : List Ind} (v : Inv T) (dir : Int) (name : ByteArray) : Inv (leaveF T dir name).1 ∧ ∀ i, ((leaveF T dir name).1.getD i default).kind = (T.getD i default).kind := by
  have same : Inv T ∧ ∀ i, (T.getD i default).kind = (T.getD i default).kind := ⟨v, fun _ => rfl⟩
  unfold leaveF
  by_cases hd : hasB T dir = true
  · obtain ⟨r1, r2⟩ := hasB_range hd
    have hl : dir.toNat < T.length := by rw [v.len]; omega
    simp only [hd, if_true]
    split
    · split
      · rename_i h3
        generalize hp : pos (T.getD dir.toNat default).names name = p
        generalize (T.getD dir.toNat default).inos.getD p 0 = ino
        have hlt : p < (T.getD dir.toNat default).names.length := by unfold thereB at h3; simp at h3; rw [← hp]; exact h3.1
        have v1 : Inv (T.set dir.toNat (delI (T.getD dir.toNat default) p)) := by
          have h2 := (v.fine dir.toNat).2
          refine v.set ((v.fine _).1.sublist (List.eraseIdx_sublist ..)) ?_ ?_ ?_ (fun e => ?_)
          · simp only [delI, List.length_eraseIdx]; rw [h2]
          · have := v.small dir.toNat
            simp only [delI, List.length_eraseIdx]; split <;> omega
          · intro y hy
            exact v.inos _ y ((List.eraseIdx_sublist ..).mem hy)
          · rw [e]; exact v.root
        have k1 : ∀ i, ((T.set dir.toNat (delI (T.getD dir.toNat default) p)).getD i default).kind = (T.getD i default).kind := fun i => by
          rw [getD_set hl]
          split
          · rename_i e2; rw [e2]; rfl
          · rfl
        unfold leaveOk
        dsimp only
        split
        · rename_i hi
          obtain ⟨r3, r4⟩ := hasB_range hi
          refine ⟨v1.set (v1.fine _).1 (v1.fine _).2 (v1.small _) (v1.inos _) (fun e => by rw [e]; exact v1.root), fun i => ?_⟩
          rw [getD_set (by simp [v.len]; omega)]
          split
          · rename_i e; rw [e]; exact k1 _
          · exact k1 i
        · exact ⟨v1, k1⟩
      · exact same
    · exact same
  · simp only [hd, if_false, Bool.false_eq_true]; exact ⟨v, fun _ => trivial⟩
end Go.Proofs.YtkbcneomjkfheaaDoor
