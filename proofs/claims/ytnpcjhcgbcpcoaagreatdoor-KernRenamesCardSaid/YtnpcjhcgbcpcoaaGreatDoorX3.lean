/- Texts of this proof, part X3: parts of it in the order in which they build. -/
import Derived.Test.YtnpcjhcgbcpcoaaGreatDoorV0
import Derived.Test.YtnpcjhcgbcpcoaaGreatDoorH2
import Derived.Test.YtnpcjhcgbcpcoaaGreatDoorV
import Derived.Test.YtnpcjhcgbcpcoaaGreatDoorE2
import Derived.Lib.Bytealg
import Derived.Lib.Overlaps
set_option linter.unusedVariables false
set_option linter.unusedSimpArgs false
namespace Go.Proofs.YtnpcjhcgbcpcoaaGreatDoor
open Go.Hl
attribute [local irreducible] loadF zc sizeP bytesP vcBody

theorem zc_str : zc Tryz.prog 9 = [.string ⟨#[]⟩] := by kernel_rfl
theorem zc_int : zc Tryz.prog 3 = [.int .i64 0] := by kernel_rfl

theorem ext_str : IsExtern Tryz.prog 212 (Extern.SlicesOverlaps.overlaps #[25, 25] #[4]) :=
  ⟨fun args w => run_callFunc_extern Tryz.func212 (by kernel_rfl) (by kernel_rfl) (by kernel_rfl) (by kernel_rfl) args w⟩
theorem ov_str_5 : Tryz.prog.underlying 25 = some (.slice 9) := by kernel_rfl
theorem ov_str_6 (w : World) : (Go.sizeOf 9).run Tryz.prog w = .ok 1 w := by kernel_rfl
theorem overlaps_str {h : Heap} {a b : Addr} {la ca lb cb : Nat} {ra rb : List Value} {ta tb : Nat} (ha : h a.block = some (.row ra ta)) (hb : h b.block = some (.row rb tb)) (hne : a.block ≠ b.block) (h0 : tb ≠ 0) {KP K : Value → Pr} (k : K (.bool false) h) :
    WpCall Tryz.prog 212 #[.slice (some a) la ca, .slice (some b) lb cb] KP K h := by
  refine ext_str.call (fun w r => ?_) k
  obtain ⟨t1, s1⟩ := r.shape ha
  obtain ⟨t2, s2⟩ := r.shape hb
  exact Go.Lib.run_overlaps_apart (P := Tryz.prog) w 25 4 9 ov_str_5 1 ov_str_6 a b la ca lb cb hne t1 t2 ta tb s1 s2 h0 (r.frozen ha rfl) (r.frozen ha rfl)
theorem ext_int : IsExtern Tryz.prog 214 (Extern.SlicesOverlaps.overlaps #[38, 38] #[4]) :=
  ⟨fun args w => run_callFunc_extern Tryz.func214 (by kernel_rfl) (by kernel_rfl) (by kernel_rfl) (by kernel_rfl) args w⟩
theorem ov_int_5 : Tryz.prog.underlying 38 = some (.slice 3) := by kernel_rfl
theorem ov_int_6 (w : World) : (Go.sizeOf 3).run Tryz.prog w = .ok 1 w := by kernel_rfl
theorem overlaps_int {h : Heap} {a b : Addr} {la ca lb cb : Nat} {ra rb : List Value} {ta tb : Nat} (ha : h a.block = some (.row ra ta)) (hb : h b.block = some (.row rb tb)) (hne : a.block ≠ b.block) (h0 : tb ≠ 0) {KP K : Value → Pr} (k : K (.bool false) h) :
    WpCall Tryz.prog 214 #[.slice (some a) la ca, .slice (some b) lb cb] KP K h := by
  refine ext_int.call (fun w r => ?_) k
  obtain ⟨t1, s1⟩ := r.shape ha
  obtain ⟨t2, s2⟩ := r.shape hb
  exact Go.Lib.run_overlaps_apart (P := Tryz.prog) w 38 4 3 ov_int_5 1 ov_int_6 a b la ca lb cb hne t1 t2 ta tb s1 s2 h0 (r.frozen ha rfl) (r.frozen ha rfl)
end Go.Proofs.YtnpcjhcgbcpcoaaGreatDoor

set_option linter.unusedVariables false
set_option linter.unusedSimpArgs false
namespace Go.Proofs.YtnpcjhcgbcpcoaaGreatDoor
open Go.Hl
attribute [local irreducible] loadF zc sizeP bytesP vcBody

theorem splice_mid {a b c vs : List Value} {o : Nat} (ha : a.length = o) (hb : b.length = vs.length) : splice (a ++ (b ++ c)) o vs = a ++ (vs ++ c) := by
  subst ha
  unfold splice
  rw [List.take_left, List.drop_append, List.drop_append]
  simp only [Nat.add_sub_cancel_left]
  rw [List.drop_of_length_le (l := a) (by omega), List.drop_of_length_le (l := b) (by omega), hb]
  simp
theorem splice_tail {a b vs : List Value} {o : Nat} (ha : a.length = o) (hb : b.length ≤ vs.length) : splice (a ++ b) o vs = a ++ vs := by
  subst ha
  unfold splice
  rw [List.take_left, List.drop_of_length_le (by simp; omega)]
  simp
theorem ins_move (xs rest : List Value) (x : Value) (i : Nat) (hi : i < xs.length) :
    splice (splice (xs ++ rest) (i + 1) (xs.drop i)) i [x] = (xs.take i ++ x :: xs.drop i) ++ rest.drop 1 := by
  have h0 : xs ++ rest = xs.take (i + 1) ++ (xs.drop (i + 1) ++ rest) := by rw [← List.append_assoc, List.take_append_drop]
  have h1 : (xs.take (i + 1)).length = i + 1 := by simp; omega
  have h2 : splice (xs ++ rest) (i + 1) (xs.drop i) = xs.take (i + 1) ++ (xs.drop i ++ rest.drop 1) := by
    rw [h0]
    cases rest with
    | nil => rw [splice_tail h1 (by simp; omega)]; simp
    | cons r rest =>
      rw [show xs.drop (i + 1) ++ r :: rest = (xs.drop (i + 1) ++ [r]) ++ rest by simp, splice_mid h1 (by simp; omega)]
      simp
  have h3 : xs.take (i + 1) = xs.take i ++ [xs[i]] := by rw [List.take_add_one, List.getElem?_eq_getElem hi]; rfl
  have h4 : (xs.take i).length = i := by simp; omega
  rw [h2, h3, List.append_assoc, splice_mid (b := [xs[i]]) (vs := [x]) h4 rfl]
  simp
theorem ins_new (xs zs : List Value) (x : Value) (i : Nat) (hi : i < xs.length) (hz : zs.length = xs.length + 1 - i) :
    splice (splice (xs.take i ++ zs) i [x]) (i + 1) (xs.drop i) = xs.take i ++ x :: xs.drop i := by
  have h1 : (xs.take i).length = i := by simp; omega
  cases zs with
  | nil => simp at hz; omega
  | cons z zs =>
    rw [show xs.take i ++ z :: zs = xs.take i ++ ([z] ++ zs) by rfl, splice_mid (b := [z]) (vs := [x]) h1 rfl, ← List.append_assoc]
    rw [splice_tail (by simp; omega) (by simp at hz ⊢; omega)]
    simp
theorem oneCells_take {xs : List Value} (h : oneCells xs) (i : Nat) : oneCells (xs.take i) := fun v hv => h v (List.mem_of_mem_take hv)
theorem oneCells_drop {xs : List Value} (h : oneCells xs) (i : Nat) : oneCells (xs.drop i) := fun v hv => h v (List.mem_of_mem_drop hv)
theorem cut_drop (xs rest : List Value) (i : Nat) (hi : i ≤ xs.length) : cut (xs ++ rest) i (xs.length - i) = some (xs.drop i) := by
  unfold cut
  rw [if_pos (by simp; omega), List.drop_append_of_le_length hi, List.take_append_of_le_length (by simp), List.take_of_length_le (by simp)]
theorem cut_take (xs rest : List Value) (i : Nat) (hi : i ≤ xs.length) : cut (xs ++ rest) 0 i = some (xs.take i) := by
  unfold cut
  rw [if_pos (by simp; omega), List.drop_zero, List.take_append_of_le_length hi]

theorem insert_str {h : Heap} {s : Sl} {xs : List Value} {x : Value} {i bv : Nat} (o : Has 1 h s xs) (hi : i ≤ xs.length) (hv : h bv = some (.row [x] 1)) (hne : ¬ blk s bv) (h1 : oneCells xs) (hx : x.oneCell' = true) (hl : xs.length < 1000000000) {KP K : Value → Pr}
    (k : ∀ s' h', Upd (blk s) h h' → Has 1 h' s' (xs.take i ++ x :: xs.drop i) → (∀ b, blk s' b → blk s b ∨ h b = none) → K (.slice s'.base s'.len s'.cap) h') :
    WpCall Tryz.prog 174 #[.slice s.base s.len s.cap, .int .i64 i, .slice (some ⟨bv, 0, none⟩) 1 1] KP K h := by
  have hlen := o.len
  have hvx : Sl.vals 1 ⟨some ⟨bv, 0, none⟩, 1, 1⟩ h [x] := by unfold Sl.vals; simp only; rw [vals_row hv]; rfl
  have hox : oneCells [x] := fun v hv => by simp at hv; subst hv; exact hx
  have wr : ∀ n : Nat, n < 2000000000 → IntKind.i64.wrap (n : Int) = n := fun n hn => wrap_small (by omega) (by omega)
  refine slices_Insert_string_string_call s i ⟨some ⟨bv, 0, none⟩, 1, 1⟩ ?_
  unfold slices_Insert_string_string
  refine pAssert_i ⟨by omega, by omega, by have := o.2.1; omega⟩ (pIf_f rfl ?_)
  refine pIf_i (fun e => ?_) (fun e => ?_)
  · have e : i = xs.length := by simp at e; omega
    subst e
    refine append_has (bytes := 16) o hvx (show (s.len + 1) * 16 ≤ 140737488355328 by omega) hox fun s' h' u o' hs hl' => ?_
    refine fgt_mk (k s' h' u ?_ hs)
    simpa using o'
  · have e : i < xs.length := by simp at e; omega
    have hi1 : (i : Int) + ((1 : Nat) : Int) = ((i + 1 : Nat) : Int) := by omega
    have hn1 : (s.len : Int) + ((1 : Nat) : Int) = ((s.len + 1 : Nat) : Int) := by omega
    simp only [hi1, hn1, wr (i + 1) (by omega), wr (s.len + 1) (by omega), Int.toNat_zero, Int.toNat_natCast, Nat.sub_zero]
    obtain ⟨_, hc, ⟨_, e2, _⟩ | ⟨b, rest, tot, e1, e3, e4⟩⟩ := o
    · omega
    have hbv : b ≠ bv := fun hh => hne ⟨_, e1, hh⟩
    have had : ∀ (c j : Nat), (if j = 0 then (⟨c, 0, none⟩ : Addr) else ⟨c, j, none⟩) = ⟨c, j, none⟩ := fun c j => by
      by_cases hh : j = 0
      · rw [if_pos hh, hh]
      · rw [if_neg hh]
    simp only [e1, ite_self, Option.map_some, Addr.add, Nat.zero_add, Nat.mul_one, Nat.add_zero, had, Int.natCast_zero, Int.sub_zero, Int.toNat_natCast]
    refine pIf_i (fun e5 => ?_) (fun e5 => ?_)
    · have e5 : s.cap < s.len + 1 := by simp at e5; omega
      have hni : IntKind.i64.wrap (((s.len + 1 : Nat) : Int) - (i : Int)) = ((s.len + 1 - i : Nat) : Int) := by rw [wrap_small (by omega) (by omega)]; omega
      rw [hni]
      refine pAssert_i ⟨by omega, by omega, by omega⟩ ?_
      refine extend_new e3 (cut_take xs rest (i * 1) (by omega)) (show (i + (s.len + 1 - i)) * 16 ≤ 140737488355328 by omega) (by rw [zc_str]; intro v hv; rw [List.mem_singleton.1 hv]; rfl) (by omega) fun b' cap' hb' hc' => ?_
      have hnb : b ≠ b' := fun hh => by subst hh; rw [e3] at hb'; cases hb'
      have hnv : bv ≠ b' := fun hh => by subst hh; rw [hv] at hb'; cases hb'
      rw [zc_str]
      simp only [Option.map_some, Nat.zero_add, had, Nat.mul_one]
      have hci : ¬ cap' = i := by omega
      have hci1 : ¬ cap' = i + 1 := by omega
      have hsi : ¬ s.cap = i := by omega
      simp only [if_neg hci, if_neg hci1, if_neg hsi]
      refine pAssert_i ⟨by omega, by omega, by omega⟩ ?_
      refine copy_b (m := 1) (by simp only [Nat.min_def]; split <;> omega) (by omega) (Heap.look_ne hnv hv) (xs := [x]) rfl (Heap.set_same _ _ _) (by simp; omega) (by omega) hox ?_
      refine pAssert_i ⟨by omega, by omega, by omega⟩ (pAssert_i ⟨by omega, by omega, by omega⟩ ?_)
      rw [Heap.set_set]
      refine copy_b (m := s.len - i) (by simp only [Nat.min_def]; split <;> omega) (by omega) (Heap.look_ne hnb e3) (by rw [Nat.mul_one, hlen]; exact cut_drop xs rest i hi) (Heap.set_same _ _ _) (by simp [splice]; omega) (by omega) (oneCells_drop h1 i) ?_
      rw [Heap.set_set]
      rw [ins_new xs _ x i e (by simp; omega)]
      refine fgt_mk (k ⟨some ⟨b', 0, none⟩, i + (s.len + 1 - i), cap'⟩ _ (Upd.set (.inr hb')) ⟨by simp; omega, show i + (s.len + 1 - i) ≤ cap' by omega, .inr ⟨b', [], cap' * 1, rfl, by simp, Nat.le_refl _⟩⟩ ?_)
      intro b'' hb''
      simp at hb''
      subst hb''
      exact .inr hb'
    · have e5 : s.len + 1 ≤ s.cap := by simp at e5; omega
      have hsi : ¬ s.cap = i := by omega
      have hsi1 : ¬ s.cap = i + 1 := by omega
      simp only [if_neg hsi, if_neg hsi1]
      refine pAssert_i ⟨by omega, by omega, by omega⟩ (pAssert_i ⟨by omega, by omega, by omega⟩ ?_)
      refine overlaps_str (a := ⟨bv, 0, none⟩) (b := ⟨b, i + 1, none⟩) hv e3 (Ne.symm hbv) (by omega) ⟨false, rfl, ?_⟩
      refine pIf_t rfl (pAssert_i ⟨by omega, by omega, by omega⟩ (pAssert_i ⟨by omega, by omega, by omega⟩ ?_))
      refine copy_b (m := s.len - i) (by simp only [Nat.min_def]; split <;> omega) (by omega) e3 (by rw [Nat.mul_one, hlen]; exact cut_drop xs rest i hi) e3 (by simp; omega) (by omega) (oneCells_drop h1 i) ?_
      refine pAssert_i ⟨by omega, by omega, by omega⟩ ?_
      refine copy_b (m := 1) (by simp only [Nat.min_def]; split <;> omega) (by omega) (Heap.look_ne (Ne.symm hbv) hv) (xs := [x]) rfl (Heap.set_same _ _ _) (by simp [splice]; omega) (by omega) hox ?_
      rw [Heap.set_set, ins_move xs rest x i e]
      refine fgt_mk (k ⟨some ⟨b, 0, none⟩, s.len + 1, s.cap⟩ _ (Upd.set (.inl ⟨_, e1, rfl⟩)) ⟨by simp; omega, by omega, .inr ⟨b, _, tot, rfl, Heap.set_same _ _ _, e4⟩⟩ ?_)
      intro b'' hb''
      simp at hb''
      subst hb''
      exact .inl ⟨_, e1, rfl⟩
theorem insert_int {h : Heap} {s : Sl} {xs : List Value} {x : Value} {i bv : Nat} (o : Has 1 h s xs) (hi : i ≤ xs.length) (hv : h bv = some (.row [x] 1)) (hne : ¬ blk s bv) (h1 : oneCells xs) (hx : x.oneCell' = true) (hl : xs.length < 1000000000) {KP K : Value → Pr}
    (k : ∀ s' h', Upd (blk s) h h' → Has 1 h' s' (xs.take i ++ x :: xs.drop i) → (∀ b, blk s' b → blk s b ∨ h b = none) → K (.slice s'.base s'.len s'.cap) h') :
    WpCall Tryz.prog 175 #[.slice s.base s.len s.cap, .int .i64 i, .slice (some ⟨bv, 0, none⟩) 1 1] KP K h := by
  have hlen := o.len
  have hvx : Sl.vals 1 ⟨some ⟨bv, 0, none⟩, 1, 1⟩ h [x] := by unfold Sl.vals; simp only; rw [vals_row hv]; rfl
  have hox : oneCells [x] := fun v hv => by simp at hv; subst hv; exact hx
  have wr : ∀ n : Nat, n < 2000000000 → IntKind.i64.wrap (n : Int) = n := fun n hn => wrap_small (by omega) (by omega)
  refine slices_Insert_int_int_call s i ⟨some ⟨bv, 0, none⟩, 1, 1⟩ ?_
  unfold slices_Insert_int_int
  refine pAssert_i ⟨by omega, by omega, by have := o.2.1; omega⟩ (pIf_f rfl ?_)
  refine pIf_i (fun e => ?_) (fun e => ?_)
  · have e : i = xs.length := by simp at e; omega
    subst e
    refine append_has (bytes := 8) o hvx (show (s.len + 1) * 8 ≤ 140737488355328 by omega) hox fun s' h' u o' hs hl' => ?_
    refine fgt_mk (k s' h' u ?_ hs)
    simpa using o'
  · have e : i < xs.length := by simp at e; omega
    have hi1 : (i : Int) + ((1 : Nat) : Int) = ((i + 1 : Nat) : Int) := by omega
    have hn1 : (s.len : Int) + ((1 : Nat) : Int) = ((s.len + 1 : Nat) : Int) := by omega
    simp only [hi1, hn1, wr (i + 1) (by omega), wr (s.len + 1) (by omega), Int.toNat_zero, Int.toNat_natCast, Nat.sub_zero]
    obtain ⟨_, hc, ⟨_, e2, _⟩ | ⟨b, rest, tot, e1, e3, e4⟩⟩ := o
    · omega
    have hbv : b ≠ bv := fun hh => hne ⟨_, e1, hh⟩
    have had : ∀ (c j : Nat), (if j = 0 then (⟨c, 0, none⟩ : Addr) else ⟨c, j, none⟩) = ⟨c, j, none⟩ := fun c j => by
      by_cases hh : j = 0
      · rw [if_pos hh, hh]
      · rw [if_neg hh]
    simp only [e1, ite_self, Option.map_some, Addr.add, Nat.zero_add, Nat.mul_one, Nat.add_zero, had, Int.natCast_zero, Int.sub_zero, Int.toNat_natCast]
    refine pIf_i (fun e5 => ?_) (fun e5 => ?_)
    · have e5 : s.cap < s.len + 1 := by simp at e5; omega
      have hni : IntKind.i64.wrap (((s.len + 1 : Nat) : Int) - (i : Int)) = ((s.len + 1 - i : Nat) : Int) := by rw [wrap_small (by omega) (by omega)]; omega
      rw [hni]
      refine pAssert_i ⟨by omega, by omega, by omega⟩ ?_
      refine extend_new e3 (cut_take xs rest (i * 1) (by omega)) (show (i + (s.len + 1 - i)) * 8 ≤ 140737488355328 by omega) (by rw [zc_int]; intro v hv; rw [List.mem_singleton.1 hv]; rfl) (by omega) fun b' cap' hb' hc' => ?_
      have hnb : b ≠ b' := fun hh => by subst hh; rw [e3] at hb'; cases hb'
      have hnv : bv ≠ b' := fun hh => by subst hh; rw [hv] at hb'; cases hb'
      rw [zc_int]
      simp only [Option.map_some, Nat.zero_add, had, Nat.mul_one]
      have hci : ¬ cap' = i := by omega
      have hci1 : ¬ cap' = i + 1 := by omega
      have hsi : ¬ s.cap = i := by omega
      simp only [if_neg hci, if_neg hci1, if_neg hsi]
      refine pAssert_i ⟨by omega, by omega, by omega⟩ ?_
      refine copy_b (m := 1) (by simp only [Nat.min_def]; split <;> omega) (by omega) (Heap.look_ne hnv hv) (xs := [x]) rfl (Heap.set_same _ _ _) (by simp; omega) (by omega) hox ?_
      refine pAssert_i ⟨by omega, by omega, by omega⟩ (pAssert_i ⟨by omega, by omega, by omega⟩ ?_)
      rw [Heap.set_set]
      refine copy_b (m := s.len - i) (by simp only [Nat.min_def]; split <;> omega) (by omega) (Heap.look_ne hnb e3) (by rw [Nat.mul_one, hlen]; exact cut_drop xs rest i hi) (Heap.set_same _ _ _) (by simp [splice]; omega) (by omega) (oneCells_drop h1 i) ?_
      rw [Heap.set_set]
      rw [ins_new xs _ x i e (by simp; omega)]
      refine fgt_mk (k ⟨some ⟨b', 0, none⟩, i + (s.len + 1 - i), cap'⟩ _ (Upd.set (.inr hb')) ⟨by simp; omega, show i + (s.len + 1 - i) ≤ cap' by omega, .inr ⟨b', [], cap' * 1, rfl, by simp, Nat.le_refl _⟩⟩ ?_)
      intro b'' hb''
      simp at hb''
      subst hb''
      exact .inr hb'
    · have e5 : s.len + 1 ≤ s.cap := by simp at e5; omega
      have hsi : ¬ s.cap = i := by omega
      have hsi1 : ¬ s.cap = i + 1 := by omega
      simp only [if_neg hsi, if_neg hsi1]
      refine pAssert_i ⟨by omega, by omega, by omega⟩ (pAssert_i ⟨by omega, by omega, by omega⟩ ?_)
      refine overlaps_int (a := ⟨bv, 0, none⟩) (b := ⟨b, i + 1, none⟩) hv e3 (Ne.symm hbv) (by omega) ⟨false, rfl, ?_⟩
      refine pIf_t rfl (pAssert_i ⟨by omega, by omega, by omega⟩ (pAssert_i ⟨by omega, by omega, by omega⟩ ?_))
      refine copy_b (m := s.len - i) (by simp only [Nat.min_def]; split <;> omega) (by omega) e3 (by rw [Nat.mul_one, hlen]; exact cut_drop xs rest i hi) e3 (by simp; omega) (by omega) (oneCells_drop h1 i) ?_
      refine pAssert_i ⟨by omega, by omega, by omega⟩ ?_
      refine copy_b (m := 1) (by simp only [Nat.min_def]; split <;> omega) (by omega) (Heap.look_ne (Ne.symm hbv) hv) (xs := [x]) rfl (Heap.set_same _ _ _) (by simp [splice]; omega) (by omega) hox ?_
      rw [Heap.set_set, ins_move xs rest x i e]
      refine fgt_mk (k ⟨some ⟨b, 0, none⟩, s.len + 1, s.cap⟩ _ (Upd.set (.inl ⟨_, e1, rfl⟩)) ⟨by simp; omega, by omega, .inr ⟨b, _, tot, rfl, Heap.set_same _ _ _, e4⟩⟩ ?_)
      intro b'' hb''
      simp at hb''
      subst hb''
      exact .inl ⟨_, e1, rfl⟩
end Go.Proofs.YtnpcjhcgbcpcoaaGreatDoor

set_option linter.unusedVariables false
set_option linter.unusedSimpArgs false
namespace Go.Proofs.YtnpcjhcgbcpcoaaGreatDoor
open Go.Hl
attribute [local irreducible] loadF zc sizeP bytesP vcBody

theorem lay0 (cs : List Value) : lay (reps 0 cs) [] = [] := rfl

theorem clone_str {h : Heap} {s : Sl} {xs : List Value} (hv : s.vals 1 h xs) (h1 : oneCells xs) (hl : s.len < 1000000000) {KP K : Value → Pr}
    (k : ∀ s' h', Heap.le h h' → Has 1 h' s' xs → (∀ b, blk s' b → h b = none) → K (.slice s'.base s'.len s'.cap) h') :
    WpCall Tryz.prog 65 #[.slice s.base s.len s.cap] KP K h := by
  refine slices_Clone_string_string_call s ?_
  unfold slices_Clone_string_string
  refine pIf_i (fun e => ?_) (fun e => ?_)
  · have hb : s.base = none := by simpa using e
    unfold Sl.vals at hv
    rw [hb] at hv
    simp only at hv
    rw [hv.2] at k
    exact fgt_mk (k ⟨none, 0, 0⟩ h (Heap.le_refl _) (Has.none _ _) (fun b hb => by simp at hb))
  · intro b hb
    rw [lay0]
    have hle : Heap.le h (h.set b (.row [] ([] : List Value).length)) := Heap.le_set_new (Heap.le_refl _) hb _
    have o : Has 1 (h.set b (.row [] ([] : List Value).length)) ⟨some ⟨b, 0, none⟩, 0, 0⟩ [] := ⟨rfl, Nat.le_refl _, .inr ⟨b, [], 0, rfl, Heap.set_same _ _ _, Nat.le_refl _⟩⟩
    refine append_has (bytes := 16) o (Sl.vals_le hle hv) (show (0 + s.len) * 16 ≤ 140737488355328 by omega) h1 fun s' h' u o' hs hl' => ?_
    refine fgt_mk (k s' h' ?_ (by simpa using o') (fun b' hb' => ?_))
    · intro i y hy
      refine u i y (hle i y hy) fun hbi => ?_
      simp at hbi
      subst hbi
      rw [hb] at hy; cases hy
    · rcases hs b' hb' with hq | hq
      · simp at hq; subst hq; exact hb
      · exact (Heap.set_none.1 hq).2
theorem clone_int {h : Heap} {s : Sl} {xs : List Value} (hv : s.vals 1 h xs) (h1 : oneCells xs) (hl : s.len < 1000000000) {KP K : Value → Pr}
    (k : ∀ s' h', Heap.le h h' → Has 1 h' s' xs → (∀ b, blk s' b → h b = none) → K (.slice s'.base s'.len s'.cap) h') :
    WpCall Tryz.prog 66 #[.slice s.base s.len s.cap] KP K h := by
  refine slices_Clone_int_int_call s ?_
  unfold slices_Clone_int_int
  refine pIf_i (fun e => ?_) (fun e => ?_)
  · have hb : s.base = none := by simpa using e
    unfold Sl.vals at hv
    rw [hb] at hv
    simp only at hv
    rw [hv.2] at k
    exact fgt_mk (k ⟨none, 0, 0⟩ h (Heap.le_refl _) (Has.none _ _) (fun b hb => by simp at hb))
  · intro b hb
    rw [lay0]
    have hle : Heap.le h (h.set b (.row [] ([] : List Value).length)) := Heap.le_set_new (Heap.le_refl _) hb _
    have o : Has 1 (h.set b (.row [] ([] : List Value).length)) ⟨some ⟨b, 0, none⟩, 0, 0⟩ [] := ⟨rfl, Nat.le_refl _, .inr ⟨b, [], 0, rfl, Heap.set_same _ _ _, Nat.le_refl _⟩⟩
    refine append_has (bytes := 8) o (Sl.vals_le hle hv) (show (0 + s.len) * 8 ≤ 140737488355328 by omega) h1 fun s' h' u o' hs hl' => ?_
    refine fgt_mk (k s' h' ?_ (by simpa using o') (fun b' hb' => ?_))
    · intro i y hy
      refine u i y (hle i y hy) fun hbi => ?_
      simp at hbi
      subst hbi
      rw [hb] at hy; cases hy
    · rcases hs b' hb' with hq | hq
      · simp at hq; subst hq; exact hb
      · exact (Heap.set_none.1 hq).2
theorem del_move (xs rest : List Value) (z : Value) (i : Nat) (hi : i < xs.length) :
    splice (splice (xs ++ rest) i (xs.drop (i + 1))) (xs.length - 1) [z] = xs.eraseIdx i ++ ([z] ++ rest) := by
  have h0 : xs ++ rest = xs.take i ++ (xs.drop i ++ rest) := by rw [← List.append_assoc, List.take_append_drop]
  have h1 : (xs.take i).length = i := by simp; omega
  -- the last one stays where it is
  have h2 : xs.drop i = (xs.drop i).take (xs.length - 1 - i) ++ (xs.drop i).drop (xs.length - 1 - i) := (List.take_append_drop _ _).symm
  have h3 : ((xs.drop i).take (xs.length - 1 - i)).length = (xs.drop (i + 1)).length := by simp; omega
  have h4 : ((xs.drop i).drop (xs.length - 1 - i)).length = 1 := by simp; omega
  rw [h0, h2, List.append_assoc, splice_mid h1 h3, ← List.append_assoc, splice_mid (by simp; omega) (by rw [h4]; rfl)]
  rw [List.eraseIdx_eq_take_drop_succ]

theorem deleteB_str {h : Heap} {s : Sl} {xs : List Value} {i : Nat} (o : Has 1 h s xs) (hi : i < xs.length) (h1 : oneCells xs) (hl : xs.length < 1000000000) {KP K : Value → Pr}
    (k : ∀ s' h', Upd (blk s) h h' → Has 1 h' s' (xs.eraseIdx i) → (∀ b, blk s' b → blk s b) → s'.base = s.base → K (.slice s'.base s'.len s'.cap) h') :
    WpCall Tryz.prog 171 #[.slice s.base s.len s.cap, .int .i64 i, .int .i64 ((i + 1 : Nat) : Int)] KP K h := by
  have hlen := o.len
  refine slices_Delete_string_string_call s i ((i + 1 : Nat) : Int) ?_
  unfold slices_Delete_string_string
  obtain ⟨_, hc, ⟨_, e2, _⟩ | ⟨b, rest, tot, e1, e3, e4⟩⟩ := o
  · omega
  have had : ∀ (c j : Nat), (if j = 0 then (⟨c, 0, none⟩ : Addr) else ⟨c, j, none⟩) = ⟨c, j, none⟩ := fun c j => by
      by_cases hh : j = 0
      · rw [if_pos hh, hh]
      · rw [if_neg hh]
  simp only [e1, ite_self, Option.map_some, Addr.add, Nat.zero_add, Nat.mul_one, Nat.add_zero, had, Int.natCast_zero, Int.sub_zero, Int.toNat_natCast, Int.toNat_zero, Nat.sub_zero]
  refine pAssert_i ⟨by omega, by omega, by omega, by omega⟩ (pIf_f (by simp; omega) (pAssert_i ⟨by omega, by omega, by omega⟩ (pAssert_i ⟨by omega, by omega, by omega⟩ ?_)))
  have hnew : Sl.vals 1 ⟨if s.cap = i + 1 then some ⟨b, 0, none⟩ else some ⟨b, i + 1, none⟩, s.len - (i + 1), s.cap - (i + 1)⟩ h (xs.drop (i + 1)) := by
    unfold Sl.vals
    by_cases hq : s.cap = i + 1
    · have hd : xs.drop (i + 1) = [] := List.drop_of_length_le (by omega)
      simp only [if_pos hq, hd]
      rw [vals_row e3]
      have : (s.len - (i + 1)) * 1 = 0 := by omega
      rw [this]; simp [cut]
    · simp only [if_neg hq]
      rw [vals_row e3, Nat.mul_one, hlen]
      exact cut_drop xs rest (i + 1) (by omega)
  refine ⟨xs.take i, xs.drop (i + 1), ?_, hnew, show (i + (s.len - (i + 1))) * 16 ≤ 140737488355328 by omega, oneCells_drop h1 _, fun _ => ?_, fun hq => ?_⟩
  · unfold Sl.vals
    simp only
    rw [vals_row e3, Nat.mul_one]
    exact cut_take xs rest i (by omega)
  · simp only
    refine ⟨xs ++ rest, tot, trivial, e3, by simp; omega, by simpa using e4, ?_⟩
    have hs1 : ¬ s.cap = i + (s.len - (i + 1)) := by omega
    simp only [if_neg hs1, Option.map_some, Nat.zero_add, Nat.mul_one, had]
    refine pAssert_i ⟨by omega, by omega, by omega⟩ ?_
    refine ⟨fun hq => ?_, fun _ hq => ?_, fun _ a ha => ?_⟩
    · simp only at hq; omega
    · simp at hq
    · simp only [Option.some.injEq] at ha
      subst ha
      refine ⟨_, tot, rfl, Heap.set_same _ _ _, ?_, by rw [zc_str]; intro v hv; rw [List.mem_singleton.1 hv]; rfl, ?_⟩
      · simp [splice]; omega
      rw [zc_str, Heap.set_set]
      have hcnt : s.len - (xs.length - 1) = 1 := by omega
      have hpos : i + (s.len - (i + 1)) = xs.length - 1 := by omega
      simp only [hpos, hcnt, List.replicate_one, List.flatten_cons, List.flatten_nil, List.append_nil]
      rw [del_move xs rest _ i hi]
      refine fgt_mk (k ⟨some ⟨b, 0, none⟩, xs.length - 1, s.cap⟩ _ (Upd.set (.inl ⟨_, e1, rfl⟩)) ⟨?_, ?_, .inr ⟨b, _, tot, rfl, Heap.set_same _ _ _, e4⟩⟩ ?_ e1.symm)
      · simp [List.length_eraseIdx, hi]
      · show xs.length - 1 ≤ s.cap; omega
      · intro b' hb'; simp at hb'; subst hb'; exact ⟨_, e1, rfl⟩
  · simp only at hq; omega
theorem delete_str {h : Heap} {s : Sl} {xs : List Value} {i : Nat} (o : Has 1 h s xs) (hi : i < xs.length) (h1 : oneCells xs) (hl : xs.length < 1000000000) {KP K : Value → Pr}
    (k : ∀ s' h', Upd (blk s) h h' → Has 1 h' s' (xs.eraseIdx i) → (∀ b, blk s' b → blk s b) → K (.slice s'.base s'.len s'.cap) h') :
    WpCall Tryz.prog 171 #[.slice s.base s.len s.cap, .int .i64 i, .int .i64 ((i + 1 : Nat) : Int)] KP K h :=
  deleteB_str o hi h1 hl fun s' h' u o' q _ => k s' h' u o' q
theorem deleteB_int {h : Heap} {s : Sl} {xs : List Value} {i : Nat} (o : Has 1 h s xs) (hi : i < xs.length) (h1 : oneCells xs) (hl : xs.length < 1000000000) {KP K : Value → Pr}
    (k : ∀ s' h', Upd (blk s) h h' → Has 1 h' s' (xs.eraseIdx i) → (∀ b, blk s' b → blk s b) → s'.base = s.base → K (.slice s'.base s'.len s'.cap) h') :
    WpCall Tryz.prog 172 #[.slice s.base s.len s.cap, .int .i64 i, .int .i64 ((i + 1 : Nat) : Int)] KP K h := by
  have hlen := o.len
  refine slices_Delete_int_int_call s i ((i + 1 : Nat) : Int) ?_
  unfold slices_Delete_int_int
  obtain ⟨_, hc, ⟨_, e2, _⟩ | ⟨b, rest, tot, e1, e3, e4⟩⟩ := o
  · omega
  have had : ∀ (c j : Nat), (if j = 0 then (⟨c, 0, none⟩ : Addr) else ⟨c, j, none⟩) = ⟨c, j, none⟩ := fun c j => by
      by_cases hh : j = 0
      · rw [if_pos hh, hh]
      · rw [if_neg hh]
  simp only [e1, ite_self, Option.map_some, Addr.add, Nat.zero_add, Nat.mul_one, Nat.add_zero, had, Int.natCast_zero, Int.sub_zero, Int.toNat_natCast, Int.toNat_zero, Nat.sub_zero]
  refine pAssert_i ⟨by omega, by omega, by omega, by omega⟩ (pIf_f (by simp; omega) (pAssert_i ⟨by omega, by omega, by omega⟩ (pAssert_i ⟨by omega, by omega, by omega⟩ ?_)))
  have hnew : Sl.vals 1 ⟨if s.cap = i + 1 then some ⟨b, 0, none⟩ else some ⟨b, i + 1, none⟩, s.len - (i + 1), s.cap - (i + 1)⟩ h (xs.drop (i + 1)) := by
    unfold Sl.vals
    by_cases hq : s.cap = i + 1
    · have hd : xs.drop (i + 1) = [] := List.drop_of_length_le (by omega)
      simp only [if_pos hq, hd]
      rw [vals_row e3]
      have : (s.len - (i + 1)) * 1 = 0 := by omega
      rw [this]; simp [cut]
    · simp only [if_neg hq]
      rw [vals_row e3, Nat.mul_one, hlen]
      exact cut_drop xs rest (i + 1) (by omega)
  refine ⟨xs.take i, xs.drop (i + 1), ?_, hnew, show (i + (s.len - (i + 1))) * 8 ≤ 140737488355328 by omega, oneCells_drop h1 _, fun _ => ?_, fun hq => ?_⟩
  · unfold Sl.vals
    simp only
    rw [vals_row e3, Nat.mul_one]
    exact cut_take xs rest i (by omega)
  · simp only
    refine ⟨xs ++ rest, tot, trivial, e3, by simp; omega, by simpa using e4, ?_⟩
    have hs1 : ¬ s.cap = i + (s.len - (i + 1)) := by omega
    simp only [if_neg hs1, Option.map_some, Nat.zero_add, Nat.mul_one, had]
    refine pAssert_i ⟨by omega, by omega, by omega⟩ ?_
    refine ⟨fun hq => ?_, fun _ hq => ?_, fun _ a ha => ?_⟩
    · simp only at hq; omega
    · simp at hq
    · simp only [Option.some.injEq] at ha
      subst ha
      refine ⟨_, tot, rfl, Heap.set_same _ _ _, ?_, by rw [zc_int]; intro v hv; rw [List.mem_singleton.1 hv]; rfl, ?_⟩
      · simp [splice]; omega
      rw [zc_int, Heap.set_set]
      have hcnt : s.len - (xs.length - 1) = 1 := by omega
      have hpos : i + (s.len - (i + 1)) = xs.length - 1 := by omega
      simp only [hpos, hcnt, List.replicate_one, List.flatten_cons, List.flatten_nil, List.append_nil]
      rw [del_move xs rest _ i hi]
      refine fgt_mk (k ⟨some ⟨b, 0, none⟩, xs.length - 1, s.cap⟩ _ (Upd.set (.inl ⟨_, e1, rfl⟩)) ⟨?_, ?_, .inr ⟨b, _, tot, rfl, Heap.set_same _ _ _, e4⟩⟩ ?_ e1.symm)
      · simp [List.length_eraseIdx, hi]
      · show xs.length - 1 ≤ s.cap; omega
      · intro b' hb'; simp at hb'; subst hb'; exact ⟨_, e1, rfl⟩
  · simp only at hq; omega
theorem delete_int {h : Heap} {s : Sl} {xs : List Value} {i : Nat} (o : Has 1 h s xs) (hi : i < xs.length) (h1 : oneCells xs) (hl : xs.length < 1000000000) {KP K : Value → Pr}
    (k : ∀ s' h', Upd (blk s) h h' → Has 1 h' s' (xs.eraseIdx i) → (∀ b, blk s' b → blk s b) → K (.slice s'.base s'.len s'.cap) h') :
    WpCall Tryz.prog 172 #[.slice s.base s.len s.cap, .int .i64 i, .int .i64 ((i + 1 : Nat) : Int)] KP K h :=
  deleteB_int o hi h1 hl fun s' h' u o' q _ => k s' h' u o' q
end Go.Proofs.YtnpcjhcgbcpcoaaGreatDoor

set_option linter.unusedVariables false
set_option linter.unusedSimpArgs false
namespace Go.Proofs.YtnpcjhcgbcpcoaaGreatDoor
open Go.Hl
attribute [local irreducible] loadF zc sizeP bytesP vcBody pInvoke

theorem WpCall.real {P : Program} {f : FuncId} {args : Array Value} {KP K : Value → Pr} {h : Heap}
    (c : WpCall P f args KP (fun v h' => (∃ w, R h' w) → K v h') h) : WpCall P f args KP K h := ⟨fun _ r =>
  (WpCall.go c r).mono (fun _ _ he => by
    obtain ⟨h', k, r', f⟩ := he
    exact ⟨h', k ⟨_, r'⟩, r', f⟩) (fun _ _ he => he)⟩
theorem real_row {h : Heap} (e : ∃ w, R h w) {b : Nat} {cs : List Value} {tot : Nat} (hb : h b = some (.row cs tot)) : cs.length ≤ tot := by
  obtain ⟨w, r⟩ := e
  obtain ⟨sp, ty, fr, _, g, _⟩ := r _ _ hb
  rw [List.length_append] at g; omega
theorem ext_ib : IsExtern Tryz.prog 255 Extern.BytealgIndexByte.indexByte :=
  ⟨fun args w => run_callFunc_extern Tryz.func255 (by kernel_rfl) (by kernel_rfl) (by kernel_rfl) (by kernel_rfl) args w⟩
theorem ext_cs : IsExtern Tryz.prog 278 Extern.BytealgCount.count :=
  ⟨fun args w => run_callFunc_extern Tryz.func278 (by kernel_rfl) (by kernel_rfl) (by kernel_rfl) (by kernel_rfl) args w⟩
/-! Functions without a text, for the evaluator. -/
noncomputable def xOverlaps (a : List SV) (k : SV → ER) : ER := fun H => match a with
  | [.sl ⟨some x, _, _⟩, .sl ⟨some y, _, _⟩] => (match Nat.beq x.b y.b with
    | false => H.row x.b fun _ _ => H.row y.b fun cs _ => (match getR cs 0 with
      | some _ => k (.bool false) H
      | none => false)
    | true => false)
  | _ => false
theorem xov_str {r : Ro} {h0 : Heap} {H : CH} {h : Heap} (S : Sat r h0 H h) {a : List SV} {a' : List Value} (ha : SDl r a a') {k : SV → ER} {KP k' : Value → Pr} (K : KR r h0 k k') (e : xOverlaps a k H = true) : WpCall Tryz.prog 212 a'.toArray KP k' h := by
  unfold xOverlaps at e
  split at e
  · rename_i x n c y n' c'
    obtain ⟨_, _, rfl, h1, _, _, rfl, h2, rfl⟩ := ha
    obtain ⟨s1, ⟨⟨x', hx1, px, hpx, rfl⟩, hl1, _⟩, rfl⟩ := h1
    obtain ⟨s2, ⟨⟨y', hy1, py, hpy, rfl⟩, hl2, _⟩, rfl⟩ := h2
    rw [hx1, hy1]
    cases hb : Nat.beq x.b y.b with
    | true => simp only [hb] at e; cases e
    | false =>
      simp only [hb] at e
      obtain ⟨cs, rm, p, pre, mid, rest, tot, hg, e, hp, hh, hl, hd, hr⟩ := row_inv S e
      obtain ⟨cs2, rm2, p2, pre2, mid2, rest2, tot2, hg2, e, hp2, hh2, hl2', ⟨hd2, ro2⟩, hr2⟩ := row_inv S e
      obtain rfl : p = px := Option.some.inj (hp.symm.trans hpx)
      obtain rfl : p2 = py := Option.some.inj (hp2.symm.trans hpy)
      have hne : p.b ≠ p2.b := fun he => by
        have := S.inj _ _ _ _ _ _ hg trivial hg2 trivial hp hp2 he
        rw [this, Nat.beq_refl] at hb; cases hb
      cases hc2 : getR cs2 0 with
      | none => rw [hc2] at e; cases e
      | some v0 =>
        rw [hc2] at e
        rw [getR_eq ro2] at hc2
        obtain ⟨w0, hw0, _⟩ := hd2.get hc2
        refine ext_str.call (fun w r => ?_) (K.now S (by exact rfl) e)
        obtain ⟨t1, q1⟩ := r.shape hh
        obtain ⟨t2, q2⟩ := r.shape hh2
        have h0' : tot2 ≠ 0 := by
          obtain ⟨sp, ty, fr, _, g, _⟩ := r _ _ hh2
          intro z; rw [z] at g
          cases mid2 with
          | nil => cases hw0
          | cons _ _ => simp at g
        exact Go.Lib.run_overlaps_apart (P := Tryz.prog) w 25 4 9 ov_str_5 1 ov_str_6 ⟨p.b, p.o + x.o, none⟩ ⟨p2.b, p2.o + y.o, none⟩ s1.len s1.cap s2.len s2.cap hne t1 t2 tot tot2 q1 q2 h0' (r.frozen hh rfl) (r.frozen hh rfl)
  · cases e
theorem xov_int {r : Ro} {h0 : Heap} {H : CH} {h : Heap} (S : Sat r h0 H h) {a : List SV} {a' : List Value} (ha : SDl r a a') {k : SV → ER} {KP k' : Value → Pr} (K : KR r h0 k k') (e : xOverlaps a k H = true) : WpCall Tryz.prog 214 a'.toArray KP k' h := by
  unfold xOverlaps at e
  split at e
  · rename_i x n c y n' c'
    obtain ⟨_, _, rfl, h1, _, _, rfl, h2, rfl⟩ := ha
    obtain ⟨s1, ⟨⟨x', hx1, px, hpx, rfl⟩, hl1, _⟩, rfl⟩ := h1
    obtain ⟨s2, ⟨⟨y', hy1, py, hpy, rfl⟩, hl2, _⟩, rfl⟩ := h2
    rw [hx1, hy1]
    cases hb : Nat.beq x.b y.b with
    | true => simp only [hb] at e; cases e
    | false =>
      simp only [hb] at e
      obtain ⟨cs, rm, p, pre, mid, rest, tot, hg, e, hp, hh, hl, hd, hr⟩ := row_inv S e
      obtain ⟨cs2, rm2, p2, pre2, mid2, rest2, tot2, hg2, e, hp2, hh2, hl2', ⟨hd2, ro2⟩, hr2⟩ := row_inv S e
      obtain rfl : p = px := Option.some.inj (hp.symm.trans hpx)
      obtain rfl : p2 = py := Option.some.inj (hp2.symm.trans hpy)
      have hne : p.b ≠ p2.b := fun he => by
        have := S.inj _ _ _ _ _ _ hg trivial hg2 trivial hp hp2 he
        rw [this, Nat.beq_refl] at hb; cases hb
      cases hc2 : getR cs2 0 with
      | none => rw [hc2] at e; cases e
      | some v0 =>
        rw [hc2] at e
        rw [getR_eq ro2] at hc2
        obtain ⟨w0, hw0, _⟩ := hd2.get hc2
        refine ext_int.call (fun w r => ?_) (K.now S (by exact rfl) e)
        obtain ⟨t1, q1⟩ := r.shape hh
        obtain ⟨t2, q2⟩ := r.shape hh2
        have h0' : tot2 ≠ 0 := by
          obtain ⟨sp, ty, fr, _, g, _⟩ := r _ _ hh2
          intro z; rw [z] at g
          cases mid2 with
          | nil => cases hw0
          | cons _ _ => simp at g
        exact Go.Lib.run_overlaps_apart (P := Tryz.prog) w 38 4 3 ov_int_5 1 ov_int_6 ⟨p.b, p.o + x.o, none⟩ ⟨p2.b, p2.o + y.o, none⟩ s1.len s1.cap s2.len s2.cap hne t1 t2 tot tot2 q1 q2 h0' (r.frozen hh rfl) (r.frozen hh rfl)
  · cases e
noncomputable def xIndexByte (a : List SV) (k : SV → ER) : ER := match a with
  | [.str s, .int .u8 c] => k (.int .i64 (firstIdx ⟨⟨s⟩⟩ c.toNat.toUInt8))
  | _ => eF
noncomputable def xCount (a : List SV) (k : SV → ER) : ER := match a with
  | [.str s, .int .u8 c] => k (.int .i64 (Lib.countByte s c.toNat.toUInt8))
  | _ => eF
theorem xcount {r : Ro} {h0 : Heap} {H : CH} {h : Heap} (S : Sat r h0 H h) {a : List SV} {a' : List Value} (ha : SDl r a a') {k : SV → ER} {KP k' : Value → Pr} (K : KR r h0 k k') (e : xCount a k H = true) : WpCall Tryz.prog 278 a'.toArray KP k' h := by
  unfold xCount at e
  split at e
  · rename_i s c
    obtain ⟨_, _, rfl, h1, _, _, rfl, h2, rfl⟩ := ha
    rw [show _ = Value.string ⟨⟨s⟩⟩ from h1, show _ = Value.int .u8 c from h2]
    exact ext_cs.call (v := .int .i64 (Lib.countByte s c.toNat.toUInt8)) (fun w _ => Lib.run_countString ⟨⟨s⟩⟩ c w) (K.now S (by exact rfl) e)
  · exact eF_no e
theorem xindex {r : Ro} {h0 : Heap} {H : CH} {h : Heap} (S : Sat r h0 H h) {a : List SV} {a' : List Value} (ha : SDl r a a') {k : SV → ER} {KP k' : Value → Pr} (K : KR r h0 k k') (e : xIndexByte a k H = true) : WpCall Tryz.prog 255 a'.toArray KP k' h := by
  unfold xIndexByte at e
  split at e
  · rename_i s c
    obtain ⟨_, _, rfl, h1, _, _, rfl, h2, rfl⟩ := ha
    rw [show _ = Value.string ⟨⟨s⟩⟩ from h1, show _ = Value.int .u8 c from h2]
    exact ext_ib.call (v := .int .i64 (firstIdx ⟨⟨s⟩⟩ c.toNat.toUInt8)) (fun w _ => run_indexByte_string ⟨⟨s⟩⟩ c w) (K.now S (by exact rfl) e)
  · exact eF_no e
noncomputable def xInsert (args : List SV) (k : SV → ER) : ER := match args with
  | [.sl s, .int .i64 (.ofNat n), .sl ⟨some ⟨bv, 0⟩, 1, .lit 1⟩] => fun H => H.row bv fun cx rx => (match rx, getR cx 0 with
    | .lit 1, some v => (match v.one && Nat.blt H.n 1000000 with
      | true => (match s with
        | ⟨none, 0, .lit 0⟩ => (match n with
          | 0 => k (.sl ⟨some ⟨H.n, 0⟩, 1, .sym 0⟩) (H.push (.row [(1, [v])] (.sym 1)))
          | _ + 1 => false)
        | ⟨some ⟨b, 0⟩, len, .sym 0⟩ => (match Nat.beq b bv with
          | true => false
          | false => H.row b fun cs rm => (match rm, subR cs 0 len with
            | .sym 1, some old => (match okN (flatR old) len && (Nat.ble n len && Nat.blt len 1000000000) with
              | true => k (.sl ⟨some ⟨H.n, 0⟩, len + 1, .sym 0⟩) ((H.put b .dead).push (.row [(len + 1, appL (takeL (flatR old) n) (v :: dropL (flatR old) n))] (.sym 1)))
              | false => false)
            | _, _ => false))
        | _ => false)
      | false => false)
    | _, _ => false)
  | _ => eF
theorem xins_str {r : Ro} {h0 : Heap} {H : CH} {h : Heap} (S : Sat r h0 H h) {a : List SV} {a' : List Value} (ha : SDl r a a') {k : SV → ER} {KP k' : Value → Pr} (K : KR r h0 k k') (e : xInsert a k H = true) : WpCall Tryz.prog 174 a'.toArray KP k' h := by
  unfold xInsert at e
  split at e
  · rename_i s n bv
    obtain ⟨_, _, rfl, h1, _, _, rfl, h2, _, _, rfl, h3, rfl⟩ := ha
    obtain ⟨s1, hs1, rfl⟩ := h1
    obtain ⟨x1, ⟨⟨ya, hya, px, hpx, rfl⟩, hxl, hxc⟩, rfl⟩ := h3
    rw [show _ = Value.int .i64 (.ofNat n) from h2]
    have hxc : x1.cap = 1 := hxc
    have hxl : x1.len = 1 := hxl
    rw [hya, hxl, hxc]
    obtain ⟨cx, rx, p2, pre2, mid2, rest2, tot2, hg2, e, hp2, hh2, hl2, ⟨hd2, ro2⟩, hr2, ht2⟩ := row_inv S e
    obtain rfl : p2 = px := Option.some.inj (hp2.symm.trans hpx)
    split at e
    · rename_i v hv0
      rw [getR_eq ro2] at hv0
      obtain ⟨w, hw, hvw⟩ := hd2.get hv0
      have hp0 : p2.o = 0 := hr2.1
      have htt : p2.o + 1 = tot2 := hr2.2
      have hpre : pre2 = [] := List.eq_nil_of_length_eq_zero (by omega)
      subst hpre
      have hrow : h p2.b = some (.row [w] 1) := by
        rw [hh2]
        simp only [List.nil_append, List.length_append] at ht2
        cases mid2 with
        | nil => cases hw
        | cons m ms =>
          simp only [List.length_cons] at ht2
          have h1 : ms = [] := List.eq_nil_of_length_eq_zero (by omega)
          have h2 : rest2 = [] := List.eq_nil_of_length_eq_zero (by omega)
          subst h1 h2
          simp at hw
          subst hw
          rw [show tot2 = 1 by omega]; rfl
      have hadr : (⟨p2.b, p2.o + 0, none⟩ : Addr) = ⟨p2.b, 0, none⟩ := by rw [hp0]
      rw [hadr]
      split at e
      · rename_i hc
        rw [Bool.and_eq_true] at hc
        have hone := one_rel hvw hc.1
        have hn := blt_iff.1 hc.2
        split at e
        · obtain ⟨hb, hl, hcap⟩ := hs1
          have hb : s1.base = none := hb
          have hl : s1.len = 0 := hl
          have hcap : s1.cap = 0 := hcap
          split at e
          · have hs : s1 = ⟨none, 0, 0⟩ := by cases s1; simp_all
            subst hs
            have o : Has 1 h ⟨none, 0, 0⟩ [] := Has.none 1 h
            refine WpCall.real ?_
            refine insert_str (xs := []) (i := 0) (bv := p2.b) o (Nat.le_refl _) hrow (by simp) (fun v hv => by cases hv) hone (by simp) fun s' h' u o' hs' hw => ?_
            obtain ⟨q1, q2, ⟨_, q3, _⟩ | ⟨b', rest, tot, q3, q4, q5⟩⟩ := o'
            · simp [q3] at q1
            · have hbn : h b' = none := by
                rcases hs' b' ⟨_, q3, rfl⟩ with g | g
                · simp at g
                · exact g
              have ul : Heap.le h h' := fun b x e => u b x e (by simp)
              have S2 := S.gain (B := .row [(1, [v])] (.sym 1)) (q := ⟨b', 0, s'.cap, 0, []⟩) hn ul hbn q4 (BD.mk (pre := []) (mid := [w]) (rest := rest) (RopeOk.cons rfl RopeOk.nil) (by simp) rfl (SDl.cons (SD.mono (Ro.le_push _ _) _ hvw) rfl) ⟨rfl, by show 0 + s'.cap * 1 ≤ tot; omega⟩ (real_row hw q4))
              have hget : (r ++ [(⟨b', 0, s'.cap, 0, []⟩ : Pl3)])[H.n]? = some ⟨b', 0, s'.cap, 0, []⟩ := by rw [List.getElem?_append_right (by rw [S.len]; exact Nat.le_refl _), S.len]; simp
              exact K _ _ _ (.sl ⟨some ⟨H.n, 0⟩, 1, .sym 0⟩) _ (Ro.le_push _ _) S2 ⟨s', ⟨⟨_, q3, _, hget, rfl⟩, by show s'.len = 1; simp at q1; omega, _, _, rfl, hget, rfl, q2⟩, rfl⟩ e
          · cases e
        · rename_i b len _
          split at e
          · cases e
          · rename_i hbb
            obtain ⟨cs, rm, p, pre, mid, rest, tot, hg, e, hp, hh, hl, ⟨hd, ro⟩, hr, ht⟩ := row_inv S e
            split at e
            · rename_i old hold
              split at e
              · rename_i hc3
                rw [Bool.and_eq_true, Bool.and_eq_true] at hc3
                obtain ⟨c1, c2, c3⟩ := hc3
                obtain ⟨d1, d2⟩ := okN_eq c1
                have c2 := Nat.le_of_ble_eq_true c2
                have c3 := blt_iff.1 c3
                obtain ⟨hb, hlen, hcap⟩ := hs1
                obtain ⟨y, hy, p', hp', rfl⟩ := hb
                obtain rfl : p = p' := Option.some.inj (hp.symm.trans hp')
                obtain ⟨a3, p3, f1, f2, f3, f4⟩ := hcap
                cases f1
                obtain rfl : p = p3 := Option.some.inj (hp.symm.trans f2)
                have hpo : p.o = 0 := hr.1
                have hrc : p.o + p.c * 1 ≤ tot := hr.2
                have hlen : s1.len = len := hlen
                obtain ⟨g1, g2, g3⟩ := subR_eq ro hold
                have hpre : pre = [] := List.eq_nil_of_length_eq_zero (by omega)
                subst hpre
                have hmid := hd.len
                have hsd : SDl r (flatR old) (mid.take len) := by rw [g3, List.drop_zero]; exact hd.take len
                have hxs : (mid.take len).length = len := by rw [hsd.len]; exact d1
                have hrow1 : [] ++ (mid ++ rest) = mid.take len ++ (mid.drop len ++ rest) := by rw [List.nil_append, ← List.append_assoc, List.take_append_drop]
                have o : Has 1 h s1 (mid.take len) := ⟨by rw [hxs, hlen, Nat.mul_one], f4, .inr ⟨p.b, mid.drop len ++ rest, tot, by rw [hy]; simp only; rw [hpo], by rw [← hrow1]; exact hh, by omega⟩⟩
                have hne : p.b ≠ p2.b := fun he => by
                  have := S.inj _ _ _ _ _ _ hg trivial hg2 trivial hp hp2 he
                  rw [this, Nat.beq_refl] at hbb; cases hbb
                refine WpCall.real ?_
                refine insert_str (xs := mid.take len) (i := n) (bv := p2.b) o (by omega) hrow (by rintro ⟨q, k1, k2⟩; rw [hy] at k1; cases k1; exact hne k2) (ones_rel hsd d2) hone (by omega) fun s' h' u o' hs' hw => ?_
                have hins : SDl r (appL (takeL (flatR old) n) (v :: dropL (flatR old) n)) ((mid.take len).take n ++ w :: (mid.take len).drop n) := by
                  rw [appL_eq, takeL_eq, dropL_eq]
                  exact (hsd.take n).app (SDl.cons hvw (hsd.drop n))
                have hil := hins.len
                obtain ⟨q1, q2, ⟨_, q3, _⟩ | ⟨b', rest', tot', q3, q4, q5⟩⟩ := o'
                · simp [q3] at q1
                · have hq1 : s'.len = len + 1 := by simp only [List.length_append, List.length_take, List.length_cons, List.length_drop, hxs] at q1; omega
                  have hlf : (appL (takeL (flatR old) n) (v :: dropL (flatR old) n)).length = len + 1 := by rw [← hil, q1, hq1, Nat.mul_one]
                  have hqq : b' = p.b ∨ h b' = none := by
                    rcases hs' b' ⟨_, q3, rfl⟩ with ⟨z, k1, k2⟩ | g
                    · left; rw [hy] at k1; cases k1; exact k2.symm
                    · exact .inr g
                  have u2 : Upd (fun c => c = p.b) h h' := u.mono fun c hc => by
                    obtain ⟨z, k1, k2⟩ := hc
                    rw [hy] at k1; cases k1; exact k2.symm
                  have S2 := S.turn (B := .row [(len + 1, appL (takeL (flatR old) n) (v :: dropL (flatR old) n))] (.sym 1)) (q := ⟨b', 0, s'.cap, 0, []⟩) hn hg trivial hp u2 hqq q4 (BD.mk (pre := []) (mid := (mid.take len).take n ++ w :: (mid.take len).drop n) (rest := rest') (RopeOk.cons hlf RopeOk.nil) (by simp) rfl (SDl.mono (Ro.le_push _ _) _ hins) ⟨rfl, by show 0 + s'.cap * 1 ≤ tot'; omega⟩ (real_row hw q4))
                  have hget : (r ++ [(⟨b', 0, s'.cap, 0, []⟩ : Pl3)])[H.n]? = some ⟨b', 0, s'.cap, 0, []⟩ := by rw [List.getElem?_append_right (by rw [S.len]; exact Nat.le_refl _), S.len]; simp
                  exact K _ _ _ (.sl ⟨some ⟨H.n, 0⟩, len + 1, .sym 0⟩) _ (Ro.le_push _ _) S2 ⟨s', ⟨⟨_, q3, _, hget, rfl⟩, hq1, _, _, rfl, hget, rfl, q2⟩, rfl⟩ e
              · cases e
            · cases e
        · cases e
      · cases e
    · cases e
  · exact eF_no e
theorem xins_int {r : Ro} {h0 : Heap} {H : CH} {h : Heap} (S : Sat r h0 H h) {a : List SV} {a' : List Value} (ha : SDl r a a') {k : SV → ER} {KP k' : Value → Pr} (K : KR r h0 k k') (e : xInsert a k H = true) : WpCall Tryz.prog 175 a'.toArray KP k' h := by
  unfold xInsert at e
  split at e
  · rename_i s n bv
    obtain ⟨_, _, rfl, h1, _, _, rfl, h2, _, _, rfl, h3, rfl⟩ := ha
    obtain ⟨s1, hs1, rfl⟩ := h1
    obtain ⟨x1, ⟨⟨ya, hya, px, hpx, rfl⟩, hxl, hxc⟩, rfl⟩ := h3
    rw [show _ = Value.int .i64 (.ofNat n) from h2]
    have hxc : x1.cap = 1 := hxc
    have hxl : x1.len = 1 := hxl
    rw [hya, hxl, hxc]
    obtain ⟨cx, rx, p2, pre2, mid2, rest2, tot2, hg2, e, hp2, hh2, hl2, ⟨hd2, ro2⟩, hr2, ht2⟩ := row_inv S e
    obtain rfl : p2 = px := Option.some.inj (hp2.symm.trans hpx)
    split at e
    · rename_i v hv0
      rw [getR_eq ro2] at hv0
      obtain ⟨w, hw, hvw⟩ := hd2.get hv0
      have hp0 : p2.o = 0 := hr2.1
      have htt : p2.o + 1 = tot2 := hr2.2
      have hpre : pre2 = [] := List.eq_nil_of_length_eq_zero (by omega)
      subst hpre
      have hrow : h p2.b = some (.row [w] 1) := by
        rw [hh2]
        simp only [List.nil_append, List.length_append] at ht2
        cases mid2 with
        | nil => cases hw
        | cons m ms =>
          simp only [List.length_cons] at ht2
          have h1 : ms = [] := List.eq_nil_of_length_eq_zero (by omega)
          have h2 : rest2 = [] := List.eq_nil_of_length_eq_zero (by omega)
          subst h1 h2
          simp at hw
          subst hw
          rw [show tot2 = 1 by omega]; rfl
      have hadr : (⟨p2.b, p2.o + 0, none⟩ : Addr) = ⟨p2.b, 0, none⟩ := by rw [hp0]
      rw [hadr]
      split at e
      · rename_i hc
        rw [Bool.and_eq_true] at hc
        have hone := one_rel hvw hc.1
        have hn := blt_iff.1 hc.2
        split at e
        · obtain ⟨hb, hl, hcap⟩ := hs1
          have hb : s1.base = none := hb
          have hl : s1.len = 0 := hl
          have hcap : s1.cap = 0 := hcap
          split at e
          · have hs : s1 = ⟨none, 0, 0⟩ := by cases s1; simp_all
            subst hs
            have o : Has 1 h ⟨none, 0, 0⟩ [] := Has.none 1 h
            refine WpCall.real ?_
            refine insert_int (xs := []) (i := 0) (bv := p2.b) o (Nat.le_refl _) hrow (by simp) (fun v hv => by cases hv) hone (by simp) fun s' h' u o' hs' hw => ?_
            obtain ⟨q1, q2, ⟨_, q3, _⟩ | ⟨b', rest, tot, q3, q4, q5⟩⟩ := o'
            · simp [q3] at q1
            · have hbn : h b' = none := by
                rcases hs' b' ⟨_, q3, rfl⟩ with g | g
                · simp at g
                · exact g
              have ul : Heap.le h h' := fun b x e => u b x e (by simp)
              have S2 := S.gain (B := .row [(1, [v])] (.sym 1)) (q := ⟨b', 0, s'.cap, 0, []⟩) hn ul hbn q4 (BD.mk (pre := []) (mid := [w]) (rest := rest) (RopeOk.cons rfl RopeOk.nil) (by simp) rfl (SDl.cons (SD.mono (Ro.le_push _ _) _ hvw) rfl) ⟨rfl, by show 0 + s'.cap * 1 ≤ tot; omega⟩ (real_row hw q4))
              have hget : (r ++ [(⟨b', 0, s'.cap, 0, []⟩ : Pl3)])[H.n]? = some ⟨b', 0, s'.cap, 0, []⟩ := by rw [List.getElem?_append_right (by rw [S.len]; exact Nat.le_refl _), S.len]; simp
              exact K _ _ _ (.sl ⟨some ⟨H.n, 0⟩, 1, .sym 0⟩) _ (Ro.le_push _ _) S2 ⟨s', ⟨⟨_, q3, _, hget, rfl⟩, by show s'.len = 1; simp at q1; omega, _, _, rfl, hget, rfl, q2⟩, rfl⟩ e
          · cases e
        · rename_i b len _
          split at e
          · cases e
          · rename_i hbb
            obtain ⟨cs, rm, p, pre, mid, rest, tot, hg, e, hp, hh, hl, ⟨hd, ro⟩, hr, ht⟩ := row_inv S e
            split at e
            · rename_i old hold
              split at e
              · rename_i hc3
                rw [Bool.and_eq_true, Bool.and_eq_true] at hc3
                obtain ⟨c1, c2, c3⟩ := hc3
                obtain ⟨d1, d2⟩ := okN_eq c1
                have c2 := Nat.le_of_ble_eq_true c2
                have c3 := blt_iff.1 c3
                obtain ⟨hb, hlen, hcap⟩ := hs1
                obtain ⟨y, hy, p', hp', rfl⟩ := hb
                obtain rfl : p = p' := Option.some.inj (hp.symm.trans hp')
                obtain ⟨a3, p3, f1, f2, f3, f4⟩ := hcap
                cases f1
                obtain rfl : p = p3 := Option.some.inj (hp.symm.trans f2)
                have hpo : p.o = 0 := hr.1
                have hrc : p.o + p.c * 1 ≤ tot := hr.2
                have hlen : s1.len = len := hlen
                obtain ⟨g1, g2, g3⟩ := subR_eq ro hold
                have hpre : pre = [] := List.eq_nil_of_length_eq_zero (by omega)
                subst hpre
                have hmid := hd.len
                have hsd : SDl r (flatR old) (mid.take len) := by rw [g3, List.drop_zero]; exact hd.take len
                have hxs : (mid.take len).length = len := by rw [hsd.len]; exact d1
                have hrow1 : [] ++ (mid ++ rest) = mid.take len ++ (mid.drop len ++ rest) := by rw [List.nil_append, ← List.append_assoc, List.take_append_drop]
                have o : Has 1 h s1 (mid.take len) := ⟨by rw [hxs, hlen, Nat.mul_one], f4, .inr ⟨p.b, mid.drop len ++ rest, tot, by rw [hy]; simp only; rw [hpo], by rw [← hrow1]; exact hh, by omega⟩⟩
                have hne : p.b ≠ p2.b := fun he => by
                  have := S.inj _ _ _ _ _ _ hg trivial hg2 trivial hp hp2 he
                  rw [this, Nat.beq_refl] at hbb; cases hbb
                refine WpCall.real ?_
                refine insert_int (xs := mid.take len) (i := n) (bv := p2.b) o (by omega) hrow (by rintro ⟨q, k1, k2⟩; rw [hy] at k1; cases k1; exact hne k2) (ones_rel hsd d2) hone (by omega) fun s' h' u o' hs' hw => ?_
                have hins : SDl r (appL (takeL (flatR old) n) (v :: dropL (flatR old) n)) ((mid.take len).take n ++ w :: (mid.take len).drop n) := by
                  rw [appL_eq, takeL_eq, dropL_eq]
                  exact (hsd.take n).app (SDl.cons hvw (hsd.drop n))
                have hil := hins.len
                obtain ⟨q1, q2, ⟨_, q3, _⟩ | ⟨b', rest', tot', q3, q4, q5⟩⟩ := o'
                · simp [q3] at q1
                · have hq1 : s'.len = len + 1 := by simp only [List.length_append, List.length_take, List.length_cons, List.length_drop, hxs] at q1; omega
                  have hlf : (appL (takeL (flatR old) n) (v :: dropL (flatR old) n)).length = len + 1 := by rw [← hil, q1, hq1, Nat.mul_one]
                  have hqq : b' = p.b ∨ h b' = none := by
                    rcases hs' b' ⟨_, q3, rfl⟩ with ⟨z, k1, k2⟩ | g
                    · left; rw [hy] at k1; cases k1; exact k2.symm
                    · exact .inr g
                  have u2 : Upd (fun c => c = p.b) h h' := u.mono fun c hc => by
                    obtain ⟨z, k1, k2⟩ := hc
                    rw [hy] at k1; cases k1; exact k2.symm
                  have S2 := S.turn (B := .row [(len + 1, appL (takeL (flatR old) n) (v :: dropL (flatR old) n))] (.sym 1)) (q := ⟨b', 0, s'.cap, 0, []⟩) hn hg trivial hp u2 hqq q4 (BD.mk (pre := []) (mid := (mid.take len).take n ++ w :: (mid.take len).drop n) (rest := rest') (RopeOk.cons hlf RopeOk.nil) (by simp) rfl (SDl.mono (Ro.le_push _ _) _ hins) ⟨rfl, by show 0 + s'.cap * 1 ≤ tot'; omega⟩ (real_row hw q4))
                  have hget : (r ++ [(⟨b', 0, s'.cap, 0, []⟩ : Pl3)])[H.n]? = some ⟨b', 0, s'.cap, 0, []⟩ := by rw [List.getElem?_append_right (by rw [S.len]; exact Nat.le_refl _), S.len]; simp
                  exact K _ _ _ (.sl ⟨some ⟨H.n, 0⟩, len + 1, .sym 0⟩) _ (Ro.le_push _ _) S2 ⟨s', ⟨⟨_, q3, _, hget, rfl⟩, hq1, _, _, rfl, hget, rfl, q2⟩, rfl⟩ e
              · cases e
            · cases e
        · cases e
      · cases e
    · cases e
  · exact eF_no e
noncomputable def extX : Cal := fun f a k => match Nat.beq f 212 with
  | true => xOverlaps a k
  | false => match Nat.beq f 214 with
    | true => xOverlaps a k
    | false => match Nat.beq f 278 with
      | true => xCount a k
      | false => match Nat.beq f 255 with
        | true => xIndexByte a k
        | false => match Nat.beq f 174 with
          | true => xInsert a k
          | false => match Nat.beq f 175 with
            | true => xInsert a k
            | false => eF
theorem extX_ok : CalOk Tryz.prog extX := fun r h0 H h f a a' k KP k' S ha K e => by
  unfold extX at e
  cases h1 : Nat.beq f 212 with
  | true => simp only [h1] at e; have := Nat.eq_of_beq_eq_true h1; subst this; exact xov_str S ha K e
  | false =>
    simp only [h1] at e
    cases h2 : Nat.beq f 214 with
    | true => simp only [h2] at e; have := Nat.eq_of_beq_eq_true h2; subst this; exact xov_int S ha K e
    | false =>
      simp only [h2] at e
      cases h3 : Nat.beq f 278 with
      | true => simp only [h3] at e; have := Nat.eq_of_beq_eq_true h3; subst this; exact xcount S ha K e
      | false =>
        simp only [h3] at e
        cases h4 : Nat.beq f 255 with
        | true => simp only [h4] at e; have := Nat.eq_of_beq_eq_true h4; subst this; exact xindex S ha K e
        | false =>
          simp only [h4] at e
          cases h5 : Nat.beq f 174 with
          | true => simp only [h5] at e; have := Nat.eq_of_beq_eq_true h5; subst this; exact xins_str S ha K e
          | false =>
            simp only [h5] at e
            cases h6 : Nat.beq f 175 with
            | true => simp only [h6] at e; have := Nat.eq_of_beq_eq_true h6; subst this; exact xins_int S ha K e
            | false => simp only [h6] at e; exact eF_no e
end Go.Proofs.YtnpcjhcgbcpcoaaGreatDoor
