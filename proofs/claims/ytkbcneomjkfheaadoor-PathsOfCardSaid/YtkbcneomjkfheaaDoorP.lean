/- Texts of this proof, part P: parts of it in the order in which they build. -/
import Derived.Test.YtkbcneomjkfheaaDoorJ
import Derived.Lib.Bytealg
import Derived.Test.YtkbcneomjkfheaaDoorH2
set_option linter.unusedVariables false
set_option linter.unusedSimpArgs false
namespace Go.Proofs.YtkbcneomjkfheaaDoor
open Go.Hl
attribute [local irreducible] loadF zc sizeP bytesP vcBody pInvoke

/-- The bytes of a text. -/
def by' (s : ByteArray) : List UInt8 := s.data.toList
def bs (l : List UInt8) : ByteArray := ⟨l.toArray⟩
theorem by_bs (l : List UInt8) : by' (bs l) = l := rfl
theorem bs_by (s : ByteArray) : bs (by' s) = s := Lib.mk_data s
theorem by_len (s : ByteArray) : (by' s).length = s.size := (Lib.size_eq s).symm
theorem strEq_by (a b : ByteArray) : strEq a b = (by' a == by' b) := by
  unfold strEq by'
  rw [Lib.toList_data, Lib.toList_data]
theorem extract_by (s : ByteArray) (a b : Nat) : by' (s.extract a b) = ((by' s).drop a).take (b - a) := Lib.extract_data s a b
/-- A text of one byte. -/
def one (c : UInt8) : ByteArray := ⟨#[c]⟩

theorem index1_ok {h : Heap} {s : ByteArray} {c : UInt8} (hs : s.size < 1000000000) {KP K : Value → Pr} (k : K (.int .i64 (Lib.indexByte (by' s) c)) h) : WpCall Tryd.prog 43 #[.string s, .string (one c)] KP K h := by
  refine strings_Index_call s (one c) ?_
  unfold strings_Index
  refine internal_stringslite_Index_call s (one c) ?_
  unfold internal_stringslite_Index pJoin internal_stringslite_Index_j7
  refine pIf_f rfl ?_
  refine pIf_i (fun he => ?_) (fun he => ?_)
  · have he : one c = s := strEq_iff.1 he
    refine fgt_mk ⟨_, rfl, fgt_mk ?_⟩
    rw [← he] at k
    have : Lib.indexByte (by' (one c)) c = 0 := by show Lib.indexByte [c] c = 0; unfold Lib.indexByte; simp
    rw [this] at k; exact k
  · refine pIf_t rfl (pIdx_i (by omega) (by show (0 : Int) < 1; omega) ?_)
    have hc : byteAt (one c) 0 = (c.toNat : Int) := rfl
    rw [hc]
    refine indexByte1_ok ⟨_, rfl, fgt_mk ⟨_, rfl, fgt_mk ?_⟩⟩
    have : ((c.toNat : Int).toNat.toUInt8) = c := by simp
    rw [this, Lib.firstIdx_eq]
    exact k
theorem contains1_ok {h : Heap} {s : ByteArray} {c : UInt8} (hs : s.size < 1000000000) {KP K : Value → Pr} (k : K (.bool ((by' s).contains c)) h) : WpCall Tryd.prog 26 #[.string s, .string (one c)] KP K h := by
  refine strings_Contains_call s (one c) ?_
  unfold strings_Contains
  refine index1_ok hs ⟨_, rfl, fgt_mk ?_⟩
  have : decide (Lib.indexByte (by' s) c ≥ 0) = (by' s).contains c := by
    induction by' s with
    | nil => rfl
    | cons b l ih =>
      unfold Lib.indexByte
      rw [List.contains_cons]
      have hge := Lib.indexByte_ge l c
      by_cases e : b = c
      · simp [e]
      · have e2 : (b == c) = false := by simpa using e
        have e3 : (c == b) = false := by simpa using fun h => e h.symm
        rw [e2, e3, Bool.false_or, ← ih]
        simp only [Bool.false_eq_true, if_false]
        by_cases e4 : Lib.indexByte l c = -1
        · simp [e4]
        · have : (Lib.indexByte l c == -1) = false := by simpa using e4
          rw [this]; simp only [Bool.false_eq_true, if_false]
          congr 1
          simp only [eq_iff_iff]; omega
  rw [this]; exact k
theorem hasPrefix_ok {h : Heap} {s : ByteArray} {c : UInt8} {KP K : Value → Pr} (k : K (.bool ((by' s).head? == some c)) h) : WpCall Tryd.prog 44 #[.string s, .string (one c)] KP K h := by
  refine strings_HasPrefix_call s (one c) ?_
  unfold strings_HasPrefix
  refine internal_stringslite_HasPrefix_call s (one c) ?_
  unfold internal_stringslite_HasPrefix pJoin internal_stringslite_HasPrefix_j1
  have hz : ((one c).size : Int) = 1 := rfl
  rw [hz]
  have hl := by_len s
  refine pIf_i (fun he => ?_) (fun he => ?_)
  · have he : s.size ≥ 1 := by simp at he; omega
    refine pAssert_i ⟨by omega, by omega, by omega⟩ (fgt_mk ⟨_, rfl, fgt_mk ?_⟩)
    rw [strEq_by, extract_by]
    have e : ((by' s).drop (0 : Int).toNat).take ((1 : Int).toNat - (0 : Int).toNat) = (by' s).take 1 := rfl
    rw [e]
    have e2 : by' (one c) = [c] := rfl
    rw [e2]
    cases hb : by' s with
    | nil => rw [hb] at hl; simp at hl; omega
    | cons b l =>
      rw [hb] at k
      have : (List.take 1 (b :: l) == [c]) = ((b :: l).head? == some c) := by simp
      rw [this]; exact k
  · have he : s.size = 0 := by simp at he; omega
    refine fgt_mk ⟨_, rfl, fgt_mk ?_⟩
    cases hb : by' s with
    | nil => rw [hb] at k; exact k
    | cons b l => rw [hb] at hl; simp at hl; omega
theorem hasSuffix_ok {h : Heap} {s : ByteArray} {c : UInt8} (hs : s.size < 1000000000) {KP K : Value → Pr} (k : K (.bool ((by' s).getLast? == some c)) h) : WpCall Tryd.prog 45 #[.string s, .string (one c)] KP K h := by
  refine strings_HasSuffix_call s (one c) ?_
  unfold strings_HasSuffix
  refine internal_stringslite_HasSuffix_call s (one c) ?_
  unfold internal_stringslite_HasSuffix pJoin internal_stringslite_HasSuffix_j1
  have hz : ((one c).size : Int) = 1 := rfl
  rw [hz]
  have hl := by_len s
  refine pIf_i (fun he => ?_) (fun he => ?_)
  · have he : s.size ≥ 1 := by simp at he; omega
    have ew : IntKind.i64.wrap ((s.size : Int) - 1) = ((s.size - 1 : Nat) : Int) := by rw [wrap_small (by omega) (by omega)]; omega
    rw [ew]
    refine pAssert_i ⟨by omega, by omega, by omega⟩ (fgt_mk ⟨_, rfl, fgt_mk ?_⟩)
    rw [strEq_by, extract_by]
    rw [Int.toNat_natCast, Int.toNat_natCast]
    have e2 : by' (one c) = [c] := rfl
    rw [e2, show s.size - (s.size - 1) = 1 by omega, ← hl]
    rcases List.eq_nil_or_concat (by' s) with e | ⟨l, b, e⟩
    · rw [e] at hl; simp at hl; omega
    · rw [e] at k ⊢
      have e3 : (List.take 1 (List.drop ((l.concat b).length - 1) (l.concat b)) == [c]) = ((l.concat b).getLast? == some c) := by simp
      rw [e3]; exact k
  · have he : s.size = 0 := by simp at he; omega
    refine fgt_mk ⟨_, rfl, fgt_mk ?_⟩
    cases hb : by' s with
    | nil => rw [hb] at k; exact k
    | cons b l => rw [hb] at hl; simp at hl; omega
theorem ext_cs : IsExtern Tryd.prog 95 Extern.BytealgCount.count :=
  ⟨fun args w => run_callFunc_extern Tryd.func95 (by kernel_rfl) (by kernel_rfl) (by kernel_rfl) (by kernel_rfl) args w⟩
theorem count1_ok {h : Heap} {s : ByteArray} {c : UInt8} {KP K : Value → Pr} (k : K (.int .i64 ((by' s).count c)) h) : WpCall Tryd.prog 92 #[.string s, .string (one c)] KP K h := by
  refine strings_Count_call s (one c) ?_
  unfold strings_Count
  refine pIf_f rfl (pIf_t rfl (pIdx_i (by omega) (by show (0 : Int) < 1; omega) ?_))
  have hc : byteAt (one c) 0 = (c.toNat : Int) := rfl
  rw [hc]
  refine ext_cs.call (v := .int .i64 (Lib.countByte s.data.toList (c.toNat : Int).toNat.toUInt8)) (fun w _ => Lib.run_countString s (c.toNat : Int) w) ⟨_, rfl, fgt_mk ?_⟩
  have : ((c.toNat : Int).toNat.toUInt8) = c := by simp
  rw [this]
  exact k
end Go.Proofs.YtkbcneomjkfheaaDoor

set_option linter.unusedVariables false
set_option linter.unusedSimpArgs false
namespace Go.Proofs.YtkbcneomjkfheaaDoor
open Go.Hl
attribute [local irreducible] loadF zc sizeP bytesP vcBody pInvoke

/-- What stands between the signs c. -/
def splitL (c : UInt8) : List UInt8 → List (List UInt8)
  | [] => [[]]
  | b :: l => if b == c then [] :: splitL c l else match splitL c l with
    | [] => [[b]]
    | s :: r => (b :: s) :: r
theorem splitL_ne (c : UInt8) : ∀ l, splitL c l ≠ []
  | [] => by simp [splitL]
  | b :: l => by
    unfold splitL
    split
    · simp
    · split <;> simp
theorem splitL_len (c : UInt8) : ∀ l, (splitL c l).length = l.count c + 1
  | [] => rfl
  | b :: l => by
    have ih := splitL_len c l
    unfold splitL
    rw [List.count_cons]
    by_cases e : b = c
    · simp [e, ih]
    · have : (b == c) = false := by simpa using e
      simp only [this, Bool.false_eq_true, if_false]
      cases hs : splitL c l with
      | nil => exact absurd hs (splitL_ne c l)
      | cons s r => rw [hs] at ih; simpa using ih
theorem splitL_none {c : UInt8} : ∀ {l : List UInt8}, Lib.indexByte l c = -1 → splitL c l = [l]
  | [], _ => rfl
  | b :: l, h => by
    unfold Lib.indexByte at h
    by_cases e : b = c
    · simp [e] at h
    · have e2 : (b == c) = false := by simpa using e
      have e3 : Lib.indexByte l c = -1 := by
        have := Lib.indexByte_ge l c
        rw [e2] at h
        simp only [Bool.false_eq_true, if_false] at h
        split at h
        · rename_i q; simpa using q
        · omega
      unfold splitL
      rw [e2, splitL_none e3]
      rfl
theorem splitL_some {c : UInt8} : ∀ {l : List UInt8} {m : Int}, Lib.indexByte l c = m → 0 ≤ m → m.toNat < l.length ∧ splitL c l = l.take m.toNat :: splitL c (l.drop (m.toNat + 1))
  | [], m, h, h0 => by unfold Lib.indexByte at h; omega
  | b :: l, m, h, h0 => by
    unfold Lib.indexByte at h
    by_cases e : b = c
    · subst e
      simp at h
      subst h
      refine ⟨by simp, ?_⟩
      show splitL b (b :: l) = [] :: splitL b l
      rw [splitL]; simp
    · have e2 : (b == c) = false := by simpa using e
      rw [e2] at h
      simp only [Bool.false_eq_true, if_false] at h
      split at h
      · omega
      · have hge := Lib.indexByte_ge l c
        rename_i q
        have q : ¬ Lib.indexByte l c = -1 := by simpa using q
        obtain ⟨h1, h2⟩ := splitL_some (c := c) (l := l) rfl (by omega)
        have em : m.toNat = (Lib.indexByte l c).toNat + 1 := by omega
        refine ⟨by simp; omega, ?_⟩
        rw [splitL, e2, em, h2]
        simp

theorem zc_string : zc Tryd.prog 9 = [.string ⟨#[]⟩] := by kernel_rfl
theorem reps_str (n : Nat) : reps n (zc Tryd.prog 9) = List.replicate n (.string ⟨#[]⟩) := by
  rw [zc_string]; unfold reps
  induction n with
  | zero => rfl
  | succ n ih => rw [List.replicate_succ, List.flatten_cons, ih, List.replicate_succ]; rfl
theorem oneB (s : ByteArray) : (Value.string s).oneCell' = true := rfl

theorem split_ok {L : List Pr} {h : Heap} (H : seps L h) {s : ByteArray} {c : UInt8} (hs : s.size < 100000) {KP K : Value → Pr} (k : ∀ s' h', seps (own 1 s' (strs ((splitL c (by' s)).map bs)) :: L) h' → K (.slice s'.base s'.len s'.cap) h') :
    WpCall Tryd.prog 67 #[.string s, .string (one c)] KP K h := by
  refine strings_Split_call s (one c) ?_
  unfold strings_Split
  refine strings_genSplit_call s (one c) 0 (-1) ?_
  unfold strings_genSplit pJoin strings_genSplit_j3
  refine pIf_f rfl (pIf_f (by rw [strEq_by]; rfl) (pIf_t rfl (count1_ok ⟨_, rfl, ?_⟩)))
  have hc : (by' s).count c ≤ s.size := by rw [← by_len]; exact List.count_le_length
  have hn : IntKind.i64.wrap (((by' s).count c : Int) + 1) = (((by' s).count c + 1 : Nat) : Int) := by rw [wrap_small (by omega) (by omega)]; omega
  have hm : (if IntKind.i64.wrap ((s.size : Int) + 1) < IntKind.i64.wrap (((by' s).count c : Int) + 1) then IntKind.i64.wrap ((s.size : Int) + 1) else IntKind.i64.wrap (((by' s).count c : Int) + 1)) = (((by' s).count c + 1 : Nat) : Int) := by
    rw [hn, wrap_small (by omega) (by omega), if_neg (by omega)]
  dsimp only
  rw [hm]
  generalize hN : (by' s).count c + 1 = n at *
  have hlen := splitL_len c (by' s)
  rw [hN] at hlen
  unfold pJoin
  refine pAssert_i ⟨by omega, by omega, show ((n : Int)).toNat * 16 ≤ 140737488355328 by omega⟩ ?_
  intro b hb
  rw [Int.toNat_natCast, reps_str]
  have H1 := new_row (cs := List.replicate n (.string ⟨#[]⟩)) (n := (List.replicate n (Value.string ⟨#[]⟩)).length) H hb
  rw [List.length_replicate] at H1 ⊢
  generalize h.set b _ = h1 at H1 ⊢
  -- what is left, how many stand
  refine pLoop_rule (fun (st : ByteArray × Int × Unit) h' => 0 ≤ st.2.1 ∧ st.1.size ≤ s.size ∧ ∃ d : List (List UInt8), (d.length : Int) = st.2.1 ∧ splitL c (by' s) = d ++ splitL c (by' st.1) ∧
    seps (rowP b (strs (d.map bs) ++ List.replicate (n - d.length) (.string ⟨#[]⟩)) n :: L) h') (fun st => (n - st.2.1).toNat) ?_ ?_
  rotate_left
  · refine ⟨by show (0 : Int) ≤ 0; omega, Nat.le_refl _, [], rfl, rfl, H1⟩
  rintro ⟨x, i, ⟨⟩⟩ h2 kk ⟨i0, hx, d, hd, e, H2⟩ hk
  simp only at i0 hx hd e H2 hk ⊢
  have hne := splitL_ne c (by' x)
  have hle : d.length + (splitL c (by' x)).length = n := by rw [← hlen, e]; simp
  have hpos : 0 < (splitL c (by' x)).length := List.length_pos_iff.2 hne
  have hrow : (strs (d.map bs) ++ List.replicate (n - d.length) (Value.string ⟨#[]⟩)).length = n := by simp [strs]; omega
  have hset : ∀ y : ByteArray, (strs (d.map bs) ++ List.replicate (n - d.length) (Value.string ⟨#[]⟩)).set d.length (.string y) = strs ((d ++ [by' y]).map bs) ++ List.replicate (n - (d.length + 1)) (.string ⟨#[]⟩) := fun y => by
    rw [List.set_append_right _ _ (by simp [strs])]
    have e1 : d.length - (strs (d.map bs)).length = 0 := by simp [strs]
    rw [e1, show n - d.length = (n - (d.length + 1)) + 1 by omega, List.replicate_succ, List.set_cons_zero]
    simp [strs, bs_by]
  unfold strings_genSplit_l1
  have hi : i.toNat = d.length := by omega
  -- the last one
  have last : splitL c (by' x) = [by' x] → strings_genSplit_j2 s (fgt (fun v h' => ∃ y : Sl, v = .slice y.base y.len y.cap ∧ fgt K (.slice y.base y.len y.cap) h')) (IntKind.i64.wrap (((by' s).count c : Int) + 1)) b x i h2 := by
    intro ex
    rw [ex] at hle
    have hle : d.length + 1 = n := by simpa using hle
    unfold strings_genSplit_j2
    rw [hm]
    rw [Int.toNat_natCast]
    refine pIdx_i i0 (by omega) ?_
    simp only [pSome_some, add_mk, Nat.zero_add, Nat.mul_one]
    rw [hi]
    refine st_b (row_at H2) (by rw [hrow]; omega) rfl ?_
    rw [hset]
    have H3 := row_set (cs' := strs ((d ++ [by' x]).map bs) ++ List.replicate (n - (d.length + 1)) (.string ⟨#[]⟩)) (tot' := n) H2
    have ei : IntKind.i64.wrap (i + 1) = ((n : Nat) : Int) := by rw [wrap_small (by omega) (by omega)]; omega
    rw [ei]
    refine pAssert_i ⟨by omega, by omega, by omega⟩ ?_
    rw [Int.toNat_natCast]
    have en : ¬ n = 0 := by omega
    simp only [Int.toNat_zero, Nat.zero_mul, Option.map_some, add_mk, Nat.add_zero, ite_self, Nat.sub_zero]
    rw [show n - (d.length + 1) = 0 by omega, List.replicate_zero, List.append_nil, ← ex, List.map_append, ← List.map_append, ← e] at H3 ⊢
    refine fgt_mk ⟨⟨some ⟨b, 0, none⟩, n, n⟩, rfl, fgt_mk (k ⟨some ⟨b, 0, none⟩, n, n⟩ _ (seps_imp (fun g hg => ?_) H3))⟩
    refine ⟨by simp [strs, hlen], Nat.le_refl _, .inr ⟨b, [], n, rfl, by rw [List.append_nil]; exact hg, by simp⟩⟩
  by_cases hlt : i < ((n : Int) - 1)
  · refine pIf_t (by rw [hm, wrap_small (by omega) (by omega)]; simpa using hlt) ?_
    refine index1_ok (by omega) ⟨_, rfl, ?_⟩
    have hge := Lib.indexByte_ge (by' x) c
    refine pIf_i (fun hz => ?_) (fun hz => ?_)
    · have hz : Lib.indexByte (by' x) c = -1 := by simp at hz; omega
      exact last (splitL_none hz)
    · have hz : 0 ≤ Lib.indexByte (by' x) c := by simp at hz; omega
      obtain ⟨m1, m2⟩ := splitL_some rfl hz
      generalize Lib.indexByte (by' x) c = m at *
      have hbl := by_len x
      have hz1 : ((one c).size : Int) = 1 := rfl
      rw [hz1, wrap_small (x := m + 0) (by omega) (by omega), wrap_small (x := m + 1) (by omega) (by omega), hm, Int.toNat_natCast]
      refine pAssert_i ⟨by omega, by omega, by omega⟩ (pIdx_i i0 (by omega) ?_)
      simp only [pSome_some, add_mk, Nat.zero_add, Nat.mul_one]
      rw [hi]
      refine st_b (row_at H2) (by rw [hrow]; omega) rfl (pAssert_i ⟨by omega, by omega, by omega⟩ ?_)
      rw [hset, wrap_small (by omega) (by omega)]
      have H3 := row_set (cs' := strs ((d ++ [by' (x.extract (0 : Int).toNat (m + 0).toNat)]).map bs) ++ List.replicate (n - (d.length + 1)) (.string ⟨#[]⟩)) (tot' := n) H2
      have ex1 : by' (x.extract (0 : Int).toNat (m + 0).toNat) = (by' x).take m.toNat := by rw [extract_by]; simp
      have ex2 : by' (x.extract (m + 1).toNat ((x.size : Int)).toNat) = (by' x).drop (m.toNat + 1) := by
        rw [extract_by, List.take_of_length_le (by rw [List.length_drop, hbl]; omega), show (m + 1).toNat = m.toNat + 1 by omega]
      have exl : (x.extract (m + 1).toNat ((x.size : Int)).toNat).size ≤ x.size := by
        have := by_len (x.extract (m + 1).toNat ((x.size : Int)).toNat)
        rw [ex2, List.length_drop, hbl] at this; omega
      refine hk _ _ ⟨by simp only; omega, by simp only; omega, d ++ [(by' x).take m.toNat], by simp; omega, ?_, ?_⟩ (by simp only; omega)
      · simp only
        rw [e, m2, ex2]; simp
      · rw [ex1] at H3 ⊢
        rw [List.length_append]
        exact H3
  · refine pIf_f (by rw [hm, wrap_small (by omega) (by omega)]; simpa using hlt) (last ?_)
    have h1 : (splitL c (by' x)).length = 1 := by omega
    have h2 := splitL_len c (by' x)
    have h3 : (by' x).count c = 0 := by omega
    refine splitL_none ?_
    rcases Int.lt_or_le (Lib.indexByte (by' x) c) 0 with q | q
    · have := Lib.indexByte_ge (by' x) c; omega
    · obtain ⟨m1, m2⟩ := splitL_some rfl q
      have := congrArg List.length m2
      rw [List.length_cons] at this
      have := List.length_pos_iff.2 (splitL_ne c ((by' x).drop ((Lib.indexByte (by' x) c).toNat + 1)))
      omega
end Go.Proofs.YtkbcneomjkfheaaDoor

set_option linter.unusedVariables false
set_option linter.unusedSimpArgs false
namespace Go.Proofs.YtkbcneomjkfheaaDoor
open Go.Hl
attribute [local irreducible] loadF zc sizeP bytesP vcBody pInvoke

/-- Is there something? -/
def full (s : ByteArray) : Bool := !strEq s ⟨#[]⟩
theorem isEmpty_ok {h : Heap} {s : ByteArray} {KP K : Value → Pr} (k : K (.bool (!full s)) h) : WpVal Tryd.prog (.func (.func 68) [].toArray [].toArray) [.string s] KP K h := by
  refine WpVal.of_func (args := [.string s]) (caps := []) ?_
  show WpCall Tryd.prog 68 #[.string s] KP K h
  refine paths_names_1_call s ?_
  unfold paths_names_1
  unfold full at k
  rw [Bool.not_not] at k
  exact fgt_mk k

/-- The first empty one. -/
theorem indexEmpty_ok {L : List Pr} {h : Heap} {s : Sl} {l : List ByteArray} (H : seps (own 1 s (strs l) :: L) h) (hl : l.length < 1000000) {KP K : Value → Pr}
    (k0 : l.filter full = l → K (.int .i64 (-1)) h) (k1 : ∀ i (hi : i < l.length), full l[i] = false → (l.take i).filter full = l.take i → K (.int .i64 i) h) :
    WpCall Tryd.prog 85 #[.slice s.base s.len s.cap, .func (.func 68) [].toArray [].toArray] KP K h := by
  refine slices_IndexFunc_string_string_call s _ ?_
  unfold slices_IndexFunc_string_string
  have o := own_at H
  have hlen : s.len = l.length := by have := o.len; rw [strs_len] at this; exact this
  refine pLoop_rule (fun (st : Int × Unit) h' => h' = h ∧ 0 ≤ st.1 ∧ st.1 ≤ l.length ∧ (l.take st.1.toNat).filter full = l.take st.1.toNat) (fun st => (l.length - st.1).toNat) ?_ ⟨rfl, by show (0 : Int) ≤ 0; omega, by show (0 : Int) ≤ _; omega, rfl⟩
  rintro ⟨i, ⟨⟩⟩ h' kk ⟨rfl, i0, i1, e⟩ hk
  simp only at i0 i1 e hk ⊢
  unfold slices_IndexFunc_string_string_l1
  by_cases hi : i < l.length
  · have hil : i.toNat < l.length := by omega
    obtain ⟨a, ha, hc⟩ := str_at o hil
    refine pIf_t (by rw [hlen]; simpa using hi) (pIdx_i i0 (by omega) (pSome_i ha (pLd_i (s := .str) _ hc ?_)))
    refine isEmpty_ok ⟨_, rfl, ?_⟩
    refine pIf_i (fun hz => ?_) (fun hz => ?_)
    · have hz : full l[i.toNat] = false := by simpa using hz
      have := k1 i.toNat hil hz e
      rw [show ((i.toNat : Nat) : Int) = i by omega] at this
      exact fgt_mk this
    · have hz : full l[i.toNat] = true := by simpa using hz
      rw [wrap_small (by omega) (by omega)]
      refine hk _ _ ⟨rfl, by simp only; omega, by simp only; omega, ?_⟩ (by simp only; omega)
      simp only
      rw [show (i + 1).toNat = i.toNat + 1 by omega, List.take_add_one, List.getElem?_eq_getElem hil, List.filter_append, e]
      simp [hz]
  · rw [List.take_of_length_le (by omega)] at e
    exact pIf_f (by rw [hlen]; simpa using hi) (fgt_mk (k0 e))

theorem set_at {α : Type} (F m r : List α) (x y : α) : (F ++ (x :: m) ++ r).set F.length y = F ++ [y] ++ m ++ r := by
  rw [List.append_assoc, List.set_append_right _ _ (Nat.le_refl _), Nat.sub_self]
  simp

/-- Those that are empty go. -/
theorem delEmpty_ok {L : List Pr} {h : Heap} {s : Sl} {l : List ByteArray} (H : seps (own 1 s (strs l) :: L) h) (hl : l.length < 1000000) {KP K : Value → Pr} (k : ∀ s' h', seps (own 1 s' (strs (l.filter full)) :: L) h' → K (.slice s'.base s'.len s'.cap) h') :
    WpCall Tryd.prog 66 #[.slice s.base s.len s.cap, .func (.func 68) [].toArray [].toArray] KP K h := by
  refine slices_DeleteFunc_string_string_call s _ ?_
  unfold slices_DeleteFunc_string_string
  have hlen : s.len = l.length := by have := (own_at H).len; rw [strs_len] at this; exact this
  refine indexEmpty_ok H hl (fun e => ⟨_, rfl, ?_⟩) (fun r hr hz e => ⟨_, rfl, ?_⟩)
  · rw [e] at k
    exact pIf_t rfl (fgt_mk (k s h H))
  have hcap := (own_at H).2.1
  refine pIf_f (by rw [beq_eq_false_iff_ne]; omega) ?_
  rw [wrap_small (by omega) (by omega)]
  refine pLoop_rule (fun (st : Int × Int × Unit) h' => 0 ≤ st.1 ∧ st.1 < st.2.1 ∧ st.2.1 ≤ l.length ∧ ((l.take st.2.1.toNat).filter full).length = st.1.toNat ∧
    ∃ m : List Value, m.length = (st.2.1 - st.1).toNat ∧ seps (own 1 s (strs ((l.take st.2.1.toNat).filter full) ++ m ++ strs (l.drop st.2.1.toNat)) :: L) h') (fun st => (l.length - st.2.1).toNat) ?_ ?_
  rotate_left
  · have er : ((r : Int) + 1).toNat = r + 1 := by omega
    have ef : (l.take (r + 1)).filter full = l.take r := by
      rw [List.take_add_one, List.getElem?_eq_getElem hr, List.filter_append, e]
      simp [hz]
    refine ⟨by show (0 : Int) ≤ r; omega, by show (r : Int) < r + 1; omega, by show (r : Int) + 1 ≤ _; omega, ?_, [.string l[r]], ?_, ?_⟩
    · simp only; rw [er, ef, List.length_take]; omega
    · simp only; rw [show ((r : Int) + 1 - r).toNat = 1 by omega]; rfl
    · simp only; rw [er, ef]
      have : strs (l.take r) ++ [Value.string l[r]] ++ strs (l.drop (r + 1)) = strs l := by
        rw [List.append_assoc]
        have h1 : [Value.string l[r]] ++ strs (l.drop (r + 1)) = strs (l[r] :: l.drop (r + 1)) := rfl
        rw [h1, ← List.drop_eq_getElem_cons hr]
        unfold strs
        rw [← List.map_append, List.take_append_drop]
      rw [this]; exact H
  rintro ⟨i, j, ⟨⟩⟩ h1 kk ⟨i0, ij, jl, ef, m, em, H1⟩ hk
  simp only at i0 ij jl ef em H1 hk ⊢
  unfold slices_DeleteFunc_string_string_l2 pJoin slices_DeleteFunc_string_string_j1
  have hF : (strs ((l.take j.toNat).filter full)).length = i.toNat := by rw [strs_len, ef]
  by_cases hj : j < l.length
  · have hjl : j.toNat < l.length := by omega
    have hd : l.drop j.toNat = l[j.toNat] :: l.drop (j.toNat + 1) := List.drop_eq_getElem_cons hjl
    rw [hd] at H1
    have o := own_at H1
    have hx : ∃ a, s.base = some a ∧ h1.cell (a.add (j.toNat * 1)) = some (.string l[j.toNat]) := by
      have hv := o.vals
      have hv' : s.vals 1 h1 ((strs ((l.take j.toNat).filter full) ++ m ++ strs (l[j.toNat] :: l.drop (j.toNat + 1))).flatMap fun v => [v]) := by
        have : ∀ X : List Value, X.flatMap (fun v => [v]) = X := fun X => by induction X with | nil => rfl | cons x X ih => simp [List.flatMap_cons, ih]
        rw [this]; exact o.vals
      have hlx : s.len = (strs ((l.take j.toNat).filter full) ++ m ++ strs (l[j.toNat] :: l.drop (j.toNat + 1))).length := by have := o.len; exact this
      have hjx : j.toNat < (strs ((l.take j.toNat).filter full) ++ m ++ strs (l[j.toNat] :: l.drop (j.toNat + 1))).length := by rw [← hlx, hlen]; exact hjl
      obtain ⟨a, ha, hv2⟩ := sl_elem (enc := fun v : Value => [v]) (n := 1) (fun _ => rfl) hv' hlx hjx
      refine ⟨a, ha, ?_⟩
      have := vals_cell1 hv2
      rw [this]
      have e1 : (strs ((l.take j.toNat).filter full) ++ m).length = j.toNat := by rw [List.length_append, hF, em]; omega
      rw [List.getElem_append_right (by omega)]
      simp only [e1, Nat.sub_self]
      rfl
    obtain ⟨a, ha, hc⟩ := hx
    refine pIf_t (by rw [hlen]; simpa using hj) (pIdx_i (by omega) (by omega) (pSome_i ha (pLd_i (s := .str) _ hc ?_)))
    refine isEmpty_ok ⟨_, rfl, ?_⟩
    have et : (l.take (j.toNat + 1)).filter full = (l.take j.toNat).filter full ++ (if full l[j.toNat] = true then [l[j.toNat]] else []) := by
      rw [List.take_add_one, List.getElem?_eq_getElem hjl, List.filter_append]
      congr 1
      by_cases q : full l[j.toNat] = true <;> simp [q]
    rw [wrap_small (x := j + 1) (by omega) (by omega)]
    refine pIf_i (fun hz2 => ?_) (fun hz2 => ?_)
    · have hz2 : full l[j.toNat] = true := by simpa using hz2
      rw [if_pos hz2] at et
      have hset : ∃ m', m'.length = m.length ∧ (strs ((l.take j.toNat).filter full) ++ m ++ strs (l[j.toNat] :: l.drop (j.toNat + 1))).set i.toNat (.string l[j.toNat]) = strs ((l.take (j.toNat + 1)).filter full) ++ m' ++ strs (l.drop (j.toNat + 1)) := by
        cases m with
        | nil => simp at em; omega
        | cons m0 m1 =>
          refine ⟨m1 ++ [.string l[j.toNat]], by simp, ?_⟩
          rw [← hF, set_at, et]
          simp only [strs, List.map_append, List.map_cons, List.map_nil, List.append_assoc, List.cons_append, List.nil_append]
      obtain ⟨m', em', hs'⟩ := hset
      obtain ⟨a2, ha2, st2⟩ := own_put H1 (i := i.toNat) (v := .string l[j.toNat]) (by rw [List.length_append, List.length_append, hF]; omega) rfl
      refine pIdx_i i0 (by omega) (pSome_i ha2 (st2 fun h2 H2 => ?_))
      rw [hs'] at H2
      rw [wrap_small (by omega) (by omega)]
      have ej : (j + 1).toNat = j.toNat + 1 := by omega
      refine hk _ _ ⟨by simp only; omega, by simp only; omega, by simp only; omega, ?_, m', ?_, ?_⟩ (by simp only; omega)
      · simp only; rw [ej, et, List.length_append, ef]; simp; omega
      · simp only; rw [em', em]; omega
      · simp only; rw [ej]; exact H2
    · have hz2 : full l[j.toNat] = false := by simpa using hz2
      rw [if_neg (by rw [hz2]; simp), List.append_nil] at et
      have ej : (j + 1).toNat = j.toNat + 1 := by omega
      refine hk _ _ ⟨by simp only; omega, by simp only; omega, by simp only; omega, ?_, m ++ [.string l[j.toNat]], ?_, ?_⟩ (by simp only; omega)
      · simp only; rw [ej, et, ef]
      · simp only; rw [List.length_append, em]; simp; omega
      · simp only; rw [ej, et]
        have : strs ((l.take j.toNat).filter full) ++ (m ++ [Value.string l[j.toNat]]) ++ strs (l.drop (j.toNat + 1)) = strs ((l.take j.toNat).filter full) ++ m ++ strs (l[j.toNat] :: l.drop (j.toNat + 1)) := by simp only [strs, List.map_append, List.map_cons, List.map_nil, List.append_assoc, List.cons_append, List.nil_append]
        rw [this]; exact H1
  · have ej : j.toNat = l.length := by omega
    rw [ej, List.take_of_length_le (Nat.le_refl _), List.drop_of_length_le (Nat.le_refl _)] at H1
    rw [ej, List.take_of_length_le (Nat.le_refl _)] at ef hF
    have H1 : seps (own 1 s (strs (l.filter full) ++ m) :: L) h1 := by simpa [strs] using H1
    refine pIf_f (by rw [hlen]; simpa using hj) (pAssert_i ⟨by omega, by omega, by omega⟩ ?_)
    have o := own_at H1
    obtain ⟨ol, oc, ⟨e1, e2, e3⟩ | ⟨b, rest, tot, e1, e3, e4⟩⟩ := o
    · omega
    have hm0 : ¬ (s.len - i.toNat = 0) := by omega
    refine ⟨fun q => absurd q (by simpa using hm0), fun _ q => ?_, fun _ a2 q => ?_⟩
    · rw [e1] at q
      simp only [Option.map_some] at q
      split at q <;> cases q
    · rw [e1] at q
      have ea : a2 = ⟨b, i.toNat, none⟩ := by
        by_cases hcc : s.cap = i.toNat
        · omega
        · rw [if_neg hcc] at q
          simp only [Option.map_some, add_mk, Nat.zero_add, Nat.mul_one, Option.some.injEq] at q
          exact q.symm
      subst ea
      refine ⟨strs (l.filter full) ++ m ++ rest, tot, rfl, e3, ?_, ?_, ?_⟩
      · simp only [Int.toNat_natCast]
        rw [List.length_append, ← Nat.mul_one (strs (l.filter full) ++ m).length, show (strs (l.filter full) ++ m).length * 1 = s.len * 1 by omega]
        omega
      · intro v hv
        rw [zc_string] at hv
        rw [List.mem_singleton.1 hv]; rfl
      · refine pAssert_i ⟨by omega, by omega, by omega⟩ ?_
        simp only [Int.toNat_natCast, Int.toNat_zero, Nat.zero_mul, Nat.sub_zero]
        rw [e1]
        simp only [Option.map_some, add_mk, Nat.zero_add, ite_self]
        have es : splice (strs (l.filter full) ++ m ++ rest) i.toNat (List.replicate (s.len - i.toNat) (zc Tryd.prog 9)).flatten = strs (l.filter full) ++ ((List.replicate (s.len - i.toNat) (zc Tryd.prog 9)).flatten ++ (strs (l.filter full) ++ m ++ rest).drop (i.toNat + (List.replicate (s.len - i.toNat) (zc Tryd.prog 9)).flatten.length)) := by
          unfold splice
          rw [List.append_assoc, List.append_assoc]
          congr 1
          rw [List.take_append_of_le_length (by omega), List.take_of_length_le (by omega)]
        obtain ⟨R, es⟩ : ∃ R, splice (strs (l.filter full) ++ m ++ rest) i.toNat (List.replicate (s.len - i.toNat) (zc Tryd.prog 9)).flatten = strs (l.filter full) ++ R := ⟨_, es⟩
        have H2 : seps (own 1 ⟨some ⟨b, 0, none⟩, i.toNat, s.cap⟩ (strs (l.filter full)) :: L) (h1.set b (.row (splice (strs (l.filter full) ++ m ++ rest) i.toNat (List.replicate (s.len - i.toNat) (zc Tryd.prog 9)).flatten) tot)) := by
          refine own_step H1 (Upd.set (.inl ⟨_, e1, rfl⟩)) ⟨by rw [hF]; simp, by simp only; omega, .inr ⟨b, R, tot, rfl, ?_, e4⟩⟩ (fun b' hb' => ?_)
          · rw [Heap.set_same, es]
          · simp at hb'; subst hb'; exact .inl ⟨_, e1, rfl⟩
        exact fgt_mk (k ⟨some ⟨b, 0, none⟩, i.toNat, s.cap⟩ _ H2)

/-- The names of a path. -/
def namesF (path : ByteArray) : List ByteArray := ((splitL 47 (by' path)).map bs).filter full
theorem names_ok {L : List Pr} {h : Heap} (H : seps L h) {path : ByteArray} (hs : path.size < 100000) {KP K : Value → Pr} (k : ∀ s' h', seps (own 1 s' (strs (namesF path)) :: L) h' → K (.slice s'.base s'.len s'.cap) h') :
    WpCall Tryd.prog 46 #[.string path] KP K h := by
  refine paths_names_call path ?_
  unfold paths_names
  refine split_ok H hs fun s1 h1 H1 => ⟨s1, rfl, ?_⟩
  have hc : (by' path).count 47 ≤ path.size := by rw [← by_len]; exact List.count_le_length
  exact delEmpty_ok H1 (by rw [List.length_map, splitL_len]; omega) fun s2 h2 H2 => ⟨s2, rfl, fgt_mk (k s2 h2 H2)⟩
end Go.Proofs.YtkbcneomjkfheaaDoor

set_option linter.unusedVariables false
set_option linter.unusedSimpArgs false
namespace Go.Proofs.YtkbcneomjkfheaaDoor
open Go.Hl
attribute [local irreducible] loadF zc sizeP bytesP vcBody pInvoke

/-- What is found. -/
structure Fd where
  dir : Int := 0
  name : ByteArray := ⟨#[]⟩
  ino : Int := 0
def Fd.enc (f : Fd) : List Value := [.int .i64 f.dir, .string f.name, .int .i64 f.ino]
theorem zc_fd : zc Tryd.prog 36 = Fd.enc {} := by kernel_rfl
theorem lay_fd0 : lay (zc Tryd.prog 36) [] = Fd.enc {} := by rw [zc_fd]; rfl
theorem lay_fd2 (a b : Int) : lay (zc Tryd.prog 36) [(0, .int .i64 a), (2, .int .i64 b)] = Fd.enc ⟨a, ⟨#[]⟩, b⟩ := by rw [zc_fd]; rfl
theorem lay_fd3 (a b : Int) (n : ByteArray) : lay (zc Tryd.prog 36) [(0, .int .i64 a), (1, .string n), (2, .int .i64 b)] = Fd.enc ⟨a, n, b⟩ := by rw [zc_fd]; rfl
theorem oneCells_fd (f : Fd) : oneCells f.enc := fun v hv => by
  simp only [Fd.enc, List.mem_cons, List.not_mem_nil, or_false] at hv
  rcases hv with rfl | rfl | rfl <;> rfl

/-- A walk. -/
structure Wk where
  at_ : Int
  left : List ByteArray
  dir : Bool
  links : Int
structure Who where
  t : Nat
  uid : Int
  gid : Int
  follow : Bool
def wcells (o : Who) (w : Wk) (s : Sl) : List Value := [.pointer (some ⟨o.t, 0, none⟩), .int .i64 o.uid, .int .i64 o.gid, .bool o.follow, .int .i64 w.at_, .slice s.base s.len s.cap, .bool w.dir, .int .i64 w.links]
/-- A walk in memory. -/
def walkP (b : Nat) (o : Who) (w : Wk) : Pr := fun h => ∃ s : Sl, s.len ≤ s.cap ∧ seps [rowP b (wcells o w s) 8, rd 1 s (strs w.left)] h
theorem walk_open {b : Nat} {o : Who} {w : Wk} {L : List Pr} {h : Heap} (H : seps (walkP b o w :: L) h) : ∃ s : Sl, s.len = w.left.length ∧ s.len ≤ s.cap ∧ seps (rowP b (wcells o w s) 8 :: rd 1 s (strs w.left) :: L) h := by
  obtain ⟨g1, g2, d, l1, l2, ⟨s, hc, hs⟩, r⟩ := H
  have H1 := seps_split (A := [rowP b (wcells o w s) 8, rd 1 s (strs w.left)]) ⟨g1, g2, d, l1, l2, hs, r⟩
  have := sl_length (rd_at (f1 H1))
  rw [strs_len] at this
  exact ⟨s, by omega, hc, H1⟩
theorem walk_close {b : Nat} {o : Who} {w : Wk} {s : Sl} {L : List Pr} {h : Heap} (hc : s.len ≤ s.cap) (H : seps (rowP b (wcells o w s) 8 :: rd 1 s (strs w.left) :: L) h) : seps (walkP b o w :: L) h :=
  seps_imp (fun g H => ⟨s, hc, H⟩) (seps_join (A := [rowP b (wcells o w s) 8, rd 1 s (strs w.left)]) H)
/-- A field is read. -/
theorem walk_ld {b : Nat} {o : Who} {w : Wk} {L : List Pr} {h : Heap} (H : seps (walkP b o w :: L) h) {s : Shape} {k : Nat} {x : s.T} (e : ∀ sl, (wcells o w sl)[k]? = some (s.inj x)) {q : s.T → Pr} (hq : q x h) : pLd s ⟨b, k, none⟩ q h := by
  obtain ⟨sl, _, _, H'⟩ := walk_open H
  exact ld_b (row_at H') (e sl) hq
/-- A field is written. -/
theorem walk_st {b : Nat} {o : Who} {w w' : Wk} {L : List Pr} {h : Heap} (H : seps (walkP b o w :: L) h) {k : Nat} (hk : k < 8) {v : Value} (h1 : v.oneCell' = true) (e : ∀ sl, (wcells o w sl).set k v = wcells o w' sl) (hl : w'.left = w.left) {q : Pr} (hq : ∀ h', seps (walkP b o w' :: L) h' → q h') : pSt ⟨b, k, none⟩ v q h := by
  obtain ⟨sl, hs, hc, H'⟩ := walk_open H
  refine st_b (row_at H') (by exact hk) h1 ?_
  rw [e]
  refine hq _ (walk_close hc ?_)
  rw [hl]
  exact row_set H'

/-- Into a path. -/
def intoF (w : Wk) (path : ByteArray) : Wk :=
  { at_ := if (by' path).head? == some 47 then 1 else w.at_,
    left := namesF path ++ w.left,
    dir := if ((by' path).getLast? == some 47 && w.left.isEmpty) = true then true else w.dir,
    links := w.links }

theorem namesF_len (path : ByteArray) : (namesF path).length ≤ path.size + 1 := by
  unfold namesF
  refine Nat.le_trans (List.length_filter_le _ _) ?_
  rw [List.length_map, splitL_len, ← by_len]
  have := List.count_le_length (a := (47 : UInt8)) (l := by' path)
  omega

theorem into_s {b : Nat} {o : Who} {w : Wk} {L : List Pr} {h : Heap} (H : seps (walkP b o w :: L) h) {path : ByteArray} (hp : path.size ≤ 64) (hl : w.left.length < 10000) {KP K : Value → Pr} (k : ∀ h', seps (walkP b o (intoF w path) :: L) h' → K (.tuple #[]) h') :
    WpCall Tryd.prog 27 #[.pointer (some ⟨b, 0, none⟩), .string path] KP K h := by
  refine paths_walk_into_call (some ⟨b, 0, none⟩) path ?_
  unfold paths_walk_into pJoin
  have e47 : (⟨#[47]⟩ : ByteArray) = one 47 := rfl
  rw [e47]
  -- the last part
  have last : ∀ (w1 : Wk) h1, seps (walkP b o w1 :: L) h1 → w1.left = w.left → (∀ h', seps (walkP b o { w1 with left := namesF path ++ w.left } :: L) h' → K (.tuple #[]) h') → paths_walk_into_j2 (some ⟨b, 0, none⟩) path (fgt KP) (fgt K) h1 := by
    intro w1 h1 H1 hl1 k1
    unfold paths_walk_into_j2
    obtain ⟨s, hs, hc, H1'⟩ := walk_open H1
    rw [hl1] at hs H1'
    simp only [pSome_some, add_mk, Nat.zero_add]
    refine ld_b (s := .slice) (row_at H1') (x := s) rfl ?_
    refine names_ok H1' (by omega) fun s1 h2 H2 => ⟨s1, rfl, ?_⟩
    refine keep_cell .slice (by kernel_rfl) (by decide) (row_at (f1 H2)) rfl ?_
    have hn := namesF_len path
    have hl2 : s1.len = (namesF path).length := by have := (own_at H2).len; rw [strs_len] at this; exact this
    refine append_sep H2 (rd_at (f2 H2)) (show (s1.len + s.len) * 16 ≤ 140737488355328 by omega) (oneCells_strs _) fun s2 h3 H3 hl3 => ?_
    have e1 : strs (namesF path) ++ strs w.left = strs (namesF path ++ w.left) := by simp [strs]
    rw [e1] at H3
    have hc3 := (own_at H3).2.1
    refine st_b (row_at (f1 H3)) (by show 5 < 8; omega) rfl ?_
    have e2 : (wcells o w1 s).set 5 (.slice s2.base s2.len s2.cap) = wcells o { w1 with left := namesF path ++ w.left } s2 := rfl
    rw [e2]
    have H4 := row_set (cs' := wcells o { w1 with left := namesF path ++ w.left } s2) (tot' := 8) (f1 H3)
    refine fgt_mk (k1 _ (walk_close hc3 ?_))
    exact seps_under (fun _ H => own_rd (seps_under (fun _ H => seps_tail H) H)) H4
  have mid : ∀ (w1 : Wk) h1, seps (walkP b o w1 :: L) h1 → w1.left = w.left → (∀ h', seps (walkP b o { w1 with left := namesF path ++ w.left, dir := if ((by' path).getLast? == some 47 && w.left.isEmpty) = true then true else w1.dir } :: L) h' → K (.tuple #[]) h') → paths_walk_into_j3 (some ⟨b, 0, none⟩) path (fgt KP) (fgt K) h1 := by
    intro w1 h1 H1 hl1 k1
    unfold paths_walk_into_j3 pJoin paths_walk_into_j1
    rw [e47]
    obtain ⟨s, hs, hc, H1'⟩ := walk_open H1
    rw [hl1] at hs
    refine hasSuffix_ok (by omega) ⟨_, rfl, ?_⟩
    simp only [pSome_some, add_mk, Nat.zero_add]
    refine pIf_i (fun hz => ?_) (fun hz => ?_)
    · refine ld_b (s := .slice) (row_at H1') (x := s) rfl ?_
      have eq : (((s.len : Int) : Int) == 0) = w.left.isEmpty := by
        rw [hs]
        cases w.left with
        | nil => rfl
        | cons a l => simp; omega
      rw [eq]
      rw [hz, Bool.true_and] at k1
      refine pIf_i (fun hy => ?_) (fun hy => ?_)
      · rw [if_pos hy] at k1
        refine walk_st H1 (k := 6) (by omega) rfl (w' := { w1 with dir := true }) (fun _ => rfl) rfl fun h2 H2 => ?_
        exact last { w1 with dir := true } h2 H2 hl1 k1
      · rw [if_neg (by rw [hy]; simp)] at k1
        exact last w1 h1 H1 hl1 k1
    · rw [hz, Bool.false_and, if_neg (by simp)] at k1
      exact pIf_f rfl (last w1 h1 H1 hl1 k1)
  refine hasPrefix_ok ⟨_, rfl, ?_⟩
  simp only [pSome_some, add_mk, Nat.zero_add]
  unfold intoF at k
  refine pIf_i (fun hz => ?_) (fun hz => ?_)
  · rw [if_pos hz] at k
    refine walk_st H (k := 4) (by omega) rfl (w' := { w with at_ := 1 }) (fun _ => rfl) rfl fun h2 H2 => ?_
    exact mid { w with at_ := 1 } h2 H2 rfl k
  · rw [if_neg (by rw [hz]; simp)] at k
    exact mid w h H rfl k

theorem here_s {b : Nat} {o : Who} {w : Wk} {L : List Pr} {h : Heap} (H : seps (walkP b o w :: L) h) {KP K : Value → Pr} (k : ∀ h', seps (walkP b o w :: L) h' → K (.agg (Fd.enc ⟨w.at_, ⟨#[]⟩, w.at_⟩).toArray) h') :
    WpCall Tryd.prog 30 #[.pointer (some ⟨b, 0, none⟩)] KP K h := by
  refine paths_walk_here_call (some ⟨b, 0, none⟩) ?_
  unfold paths_walk_here
  intro b1 hb1
  rw [zc_fd]
  have H1 := seps_new H hb1 (.row (Fd.enc {}) (Fd.enc {}).length)
  have e1 := Heap.set_same h b1 (.row (Fd.enc {}) (Fd.enc {}).length)
  simp only [pSome_some, add_mk, Nat.zero_add]
  refine walk_ld H1 (s := .int .i64) (k := 4) (x := w.at_) (fun _ => rfl) (walk_ld H1 (s := .int .i64) (k := 4) (x := w.at_) (fun _ => rfl) ?_)
  have e2 := lay_fd2 w.at_ w.at_
  rw [zc_fd] at e2
  rw [e2]
  refine stA_all e1 rfl rfl (oneCells_fd _) (ldA_all (Heap.set_same _ _ _) rfl ?_)
  rw [Heap.set_set]
  exact fgt_mk (k _ (seps_new H hb1 _))

/-- Through a symbolic link: the walk, an error's number. -/
def throughF (w : Wk) (x : Ind) : Wk × Int :=
  if w.links = 8 then (w, 40) else if strEq x.data ⟨#[]⟩ = true then (w, 2) else (intoF { w with links := IntKind.i64.wrap (w.links + 1) } x.data, 0)
theorem through_s {b : Nat} {o : Who} {w : Wk} {L : List Pr} {h : Heap} (H : seps (walkP b o w :: L) h) {x : Ind} {n i : Sl} (hp : x.data.size ≤ 64) (hl : w.left.length < 10000) {KP K : Value → Pr} (k : ∀ h', seps (walkP b o (throughF w x).1 :: L) h' → K (.int .i64 (throughF w x).2) h') :
    WpCall Tryd.prog 49 #[.pointer (some ⟨b, 0, none⟩), .agg (encI x n i).toArray] KP K h := by
  refine paths_walk_through_call (some ⟨b, 0, none⟩) (encI x n i) ?_
  unfold paths_walk_through
  intro b1 hb1
  have H1 := new_row (cs := encI x n i) (n := (encI x n i).length) H hb1
  generalize h.set b1 _ = h1 at H1 ⊢
  simp only [pSome_some, add_mk, Nat.zero_add]
  unfold throughF at k
  refine walk_ld (f1 H1) (s := .int .i64) (k := 7) (x := w.links) (fun _ => rfl) ?_
  refine pIf_i (fun hz => ?_) (fun hz => ?_)
  · have hz : w.links = 8 := by simpa using hz
    rw [if_pos hz] at k
    exact fgt_mk (k _ (seps_tail H1))
  have hz : ¬ w.links = 8 := by simpa using hz
  rw [if_neg hz] at k
  refine ld_b (s := .str) (row_at H1) (x := x.data) rfl ?_
  refine pIf_i (fun hy => ?_) (fun hy => ?_)
  · rw [if_pos hy] at k
    exact fgt_mk (k _ (seps_tail H1))
  rw [if_neg (by rw [hy]; simp)] at k
  refine walk_ld (f1 H1) (s := .int .i64) (k := 7) (x := w.links) (fun _ => rfl) ?_
  refine walk_st (f1 H1) (k := 7) (by omega) rfl (w' := { w with links := IntKind.i64.wrap (w.links + 1) }) (fun _ => rfl) rfl fun h2 H2 => ?_
  refine ld_b (s := .str) (row_at (f1 H2)) (x := x.data) rfl ?_
  exact into_s H2 hp hl fun h3 H3 => ⟨(), rfl, fgt_mk (k _ (seps_under (fun _ H => seps_tail H) H3))⟩

/-- The last name: what is found, an error's number. -/
def lastF (w : Wk) (name : ByteArray) (x : Ind) : Fd × Int :=
  if (w.dir && x.ino == 0) = true then ({}, 2) else if (w.dir && x.kind != 2) = true then ({}, 20) else (⟨w.at_, name, x.ino⟩, 0)
theorem last_s {b : Nat} {o : Who} {w : Wk} {L : List Pr} {h : Heap} (H : seps (walkP b o w :: L) h) {name : ByteArray} {x : Ind} {n i : Sl} {KP K : Value → Pr} (k : ∀ h', seps (walkP b o w :: L) h' → K (.tuple #[.agg (lastF w name x).1.enc.toArray, .int .i64 (lastF w name x).2]) h') :
    WpCall Tryd.prog 50 #[.pointer (some ⟨b, 0, none⟩), .string name, .agg (encI x n i).toArray] KP K h := by
  refine paths_walk_last_call (some ⟨b, 0, none⟩) name (encI x n i) ?_
  unfold paths_walk_last
  intro b1 hb1
  have H1 := new_row (cs := encI x n i) (n := (encI x n i).length) H hb1
  generalize h.set b1 _ = h1 at H1 ⊢
  intro b2 hb2
  rw [zc_fd]
  have H2 := new_row (cs := Fd.enc {}) (n := (Fd.enc {}).length) H1 hb2
  generalize h1.set b2 _ = h2 at H2 ⊢
  have out : ∀ f e, lastF w name x = (f, e) → pStA 3 ⟨b2, 0, none⟩ f.enc (pLdA 3 ⟨b2, 0, none⟩ fun x8 => fgt K (.tuple [(.agg x8.toArray), (.int .i64 e)].toArray)) h2 := fun f e he => by
    rw [he] at k
    refine stA_all (row_at H2) rfl rfl (oneCells_fd _) (ldA_all (Heap.set_same _ _ _) rfl ?_)
    exact fgt_mk (k _ (seps_tail (seps_tail (row_set (cs' := f.enc) (tot' := (Fd.enc {}).length) H2))))
  have HW := f2 H2
  have lf0 := lay_fd0
  have lf3 := lay_fd3 w.at_ x.ino name
  rw [zc_fd] at lf0 lf3
  unfold pJoin
  simp only [pSome_some, add_mk, Nat.zero_add]
  refine walk_ld HW (s := .bool) (k := 6) (x := w.dir) (fun _ => rfl) ?_
  unfold lastF at out
  have second : ¬ (w.dir && x.ino == 0) = true → paths_walk_last_j2 (some ⟨b, 0, none⟩) name (fgt K) b1 b2 false h2 := by
    intro hn
    rw [if_neg hn] at out
    unfold paths_walk_last_j2 pJoin paths_walk_last_j1
    simp only [pSome_some, add_mk, Nat.zero_add]
    rw [zc_fd]
    refine pIf_f rfl (walk_ld HW (s := .bool) (k := 6) (x := w.dir) (fun _ => rfl) ?_)
    have third : ¬ (w.dir && x.kind != 2) = true → pLd (.int .i64) ⟨b, 4, none⟩ (fun x16 => pLd (.int .i64) ⟨b1, 0, none⟩ fun x17 => pStA 3 ⟨b2, 0, none⟩ (lay (Fd.enc {}) [(0, .int .i64 x16), (1, .string name), (2, .int .i64 x17)]) (pLdA 3 ⟨b2, 0, none⟩ fun x18 => fgt K (.tuple [(.agg x18.toArray), (.int .i64 0)].toArray))) h2 := by
      intro hn2
      rw [if_neg hn2] at out
      refine walk_ld HW (s := .int .i64) (k := 4) (x := w.at_) (fun _ => rfl) (ld_b (s := .int .i64) (row_at (f1 H2)) (x := x.ino) rfl ?_)
      rw [lf3]
      exact out _ _ rfl
    refine pIf_i (fun hd => ?_) (fun hd => ?_)
    · refine ld_b (s := .int .i64) (row_at (f1 H2)) (x := x.kind) rfl ?_
      refine pIf_i (fun hk => ?_) (fun hk => ?_)
      · rw [if_pos (by rw [hd, hk]; rfl)] at out
        rw [lf0]; exact out _ _ rfl
      · exact third (by rw [hd, hk]; simp)
    · exact pIf_f rfl (third (by rw [hd]; simp))
  refine pIf_i (fun hd => ?_) (fun hd => ?_)
  · refine ld_b (s := .int .i64) (row_at (f1 H2)) (x := x.ino) rfl ?_
    cases hk : (x.ino == 0) with
    | true =>
      rw [if_pos (by rw [hd, hk]; rfl)] at out
      unfold paths_walk_last_j2
      rw [zc_fd, lf0]
      exact pIf_t rfl (out _ _ rfl)
    | false => exact second (by rw [hd, hk]; simp)
  · exact second (by rw [hd]; simp)
end Go.Proofs.YtkbcneomjkfheaaDoor

set_option linter.unusedVariables false
set_option linter.unusedSimpArgs false
namespace Go.Proofs.YtkbcneomjkfheaaDoor
open Go.Hl
attribute [local irreducible] loadF zc sizeP bytesP vcBody pInvoke

/-- The inode of a number, or none. -/
def getI (T : List Ind) (ino : Int) : Ind := if hasB T ino = true then T.getD ino.toNat default else {}
theorem get_any {b : Nat} {T : List Ind} {L : List Pr} {h : Heap} (H : seps (progP b T :: L) h) {ino : Int} {KP K : Value → Pr} (k : ∀ n i h', seps (progP b T :: L) h' → K (.tuple #[.agg (encI (getI T ino) n i).toArray, .bool (hasB T ino)]) h') :
    WpCall Tryd.prog 28 #[.pointer (some ⟨b, 0, none⟩), .int .i64 ino] KP K h := by
  refine get_s H (fun e h' H' => ?_) (fun e n i h' H' => ?_)
  · have := k nil0 nil0 h' H'
    unfold getI at this
    rw [e] at this; exact this
  · have := k n i h' (seps_tail (seps_tail H'))
    unfold getI at this
    rw [e] at this; exact this

/-- Which bits of a mode count. -/
def bitsOf (x : Ind) (uid gid : Int) : Int :=
  if uid = x.uid then bitsV .and .i64 (x.mode.fdiv (2 ^ (min (6 : Int).toNat (IntKind.i64).bits))) 7
  else if gid = x.gid then bitsV .and .i64 (x.mode.fdiv (2 ^ (min (3 : Int).toNat (IntKind.i64).bits))) 7
  else bitsV .and .i64 x.mode 7
/-- May rights be had? -/
def mayF (x : Ind) (uid gid want : Int) : Bool :=
  if uid = 0 then (bitsV .and .i64 want 1 == 0 || (x.kind == 2 || bitsV .and .i64 x.mode 73 != 0)) else bitsV .and .i64 (bitsOf x uid gid) want == want
theorem may_ok {h : Heap} {x : Ind} {n i : Sl} {uid gid want : Int} {KP K : Value → Pr} (k : ∀ h', Heap.le h h' → K (.bool (mayF x uid gid want)) h') :
    WpCall Tryd.prog 8 #[.agg (encI x n i).toArray, .int .i64 uid, .int .i64 gid, .int .i64 want] KP K h := by
  refine paths_May_call (encI x n i) uid gid want ?_
  unfold paths_May
  intro b1 hb1
  have k' := k _ (Heap.le_set_new (Heap.le_refl _) hb1 (.row (encI x n i) (encI x n i).length))
  have e1 := Heap.set_same h b1 (.row (encI x n i) (encI x n i).length)
  generalize h.set b1 _ = h1 at e1 k' ⊢
  have fin := fgt_mk k'
  unfold mayF at fin
  unfold pJoin paths_May_j2 paths_May_j1
  simp only [add_mk, Nat.zero_add]
  refine ld_b (s := .int .i64) e1 (x := x.mode) rfl ?_
  refine pIf_i (fun h1 => ?_) (fun h1 => ?_)
  · have h1 : uid = 0 := by simpa using h1
    rw [if_pos h1] at fin
    refine pIf_i (fun h2 => ?_) (fun h2 => ?_)
    · rw [h2, Bool.true_or] at fin; exact fin
    · rw [h2, Bool.false_or] at fin
      refine ld_b (s := .int .i64) e1 (x := x.kind) rfl ?_
      refine pIf_i (fun h3 => ?_) (fun h3 => ?_)
      · rw [h3, Bool.true_or] at fin; exact fin
      · rw [h3, Bool.false_or] at fin
        exact ld_b (s := .int .i64) e1 (x := x.mode) rfl fin
  · have h1 : ¬ uid = 0 := by simpa using h1
    rw [if_neg h1] at fin
    unfold bitsOf at fin
    refine ld_b (s := .int .i64) e1 (x := x.uid) rfl ?_
    refine pIf_i (fun h2 => ?_) (fun h2 => ?_)
    · rw [if_pos (by simpa using h2)] at fin
      exact ld_b (s := .int .i64) e1 (x := x.mode) rfl (pAssert_i (by decide) fin)
    · rw [if_neg (by simpa using h2)] at fin
      refine ld_b (s := .int .i64) e1 (x := x.gid) rfl ?_
      refine pIf_i (fun h3 => ?_) (fun h3 => ?_)
      · rw [if_pos (by simpa using h3)] at fin
        exact ld_b (s := .int .i64) e1 (x := x.mode) rfl (pAssert_i (by decide) fin)
      · rw [if_neg (by simpa using h3)] at fin
        exact fin

def dot : ByteArray := ⟨#[46]⟩
def dots : ByteArray := ⟨#[46, 46]⟩
/-- What a step does with the next name: the walk, what is found, whether it is, an error's number. -/
def stepN (T : List Ind) (o : Who) (w : Wk) (d : Ind) (name : ByteArray) (isLast : Bool) : Wk × Fd × Bool × Int :=
  if (strEq name dot || strEq name dots) = true then
    let w2 := if strEq name dots = true then { w with at_ := d.up } else w
    (w2, ⟨w2.at_, ⟨#[]⟩, w2.at_⟩, isLast, 0)
  else if name.size > 8 then (w, {}, false, 36)
  else
    let ino := (findF T w.at_ name).getD 0
    let x := getI T ino
    if (x.kind == 3 && (!isLast || (o.follow || w.dir))) = true then ((throughF w x).1, {}, false, (throughF w x).2)
    else if isLast = true then (w, (lastF w name x).1, true, (lastF w name x).2)
    else if x.ino = 0 then (w, {}, false, 2)
    else if x.kind ≠ 2 then (w, {}, false, 20)
    else ({ w with at_ := ino }, {}, false, 0)
def stepF (T : List Ind) (o : Who) (w : Wk) : Wk × Fd × Bool × Int :=
  if (!hasB T w.at_ || (getI T w.at_).kind != 2) = true then (w, {}, false, 20)
  else if mayF (getI T w.at_) o.uid o.gid 1 = false then (w, {}, false, 13)
  else stepN T o { w with left := w.left.tail } (getI T w.at_) (w.left.headD ⟨#[]⟩) (decide (w.left.length = 1))

/-- No inode's data are too long. -/
def DataOk (T : List Ind) : Prop := ∀ i, (T.getD i default).data.size ≤ 32
theorem DataOk.get {T : List Ind} (d : DataOk T) (ino : Int) : (getI T ino).data.size ≤ 32 := by
  unfold getI; split
  · exact d _
  · decide

theorem oneCells_encI' (x : Ind) (n i : Sl) : oneCells (encI x n i) := oneCells_encI x n i
theorem step_s {b : Nat} {o : Who} {w : Wk} {T : List Ind} {L : List Pr} {h : Heap} (H : seps (walkP b o w :: progP o.t T :: L) h) (dk : DataOk T) (hl : w.left.length < 10000) (hne : w.left ≠ []) {KP K : Value → Pr}
    (k : ∀ h', seps (walkP b o (stepF T o w).1 :: progP o.t T :: L) h' → K (.tuple #[.agg (stepF T o w).2.1.enc.toArray, .bool (stepF T o w).2.2.1, .int .i64 (stepF T o w).2.2.2]) h') :
    WpCall Tryd.prog 29 #[.pointer (some ⟨b, 0, none⟩)] KP K h := by
  refine paths_walk_step_call (some ⟨b, 0, none⟩) ?_
  unfold paths_walk_step
  intro b1 hb1
  rw [zc_fd]
  have H1 := new_row (cs := Fd.enc {}) (n := (Fd.enc {}).length) H hb1
  generalize h.set b1 _ = h1 at H1 ⊢
  simp only [pSome_some, add_mk, Nat.zero_add, Nat.add_zero]
  -- the end: what is found is stored and told
  have out : ∀ (w' : Wk) (f : Fd) (fd : Bool) (e : Int) (h' : Heap) (M : List Pr), stepF T o w = (w', f, fd, e) → seps (rowP b1 (Fd.enc {}) (Fd.enc {}).length :: walkP b o w' :: progP o.t T :: M) h' → (∀ g, seps M g → seps L g) →
      pStA 3 ⟨b1, 0, none⟩ f.enc (pLdA 3 ⟨b1, 0, none⟩ fun x8 => fgt K (.tuple [(.agg x8.toArray), (.bool fd), (.int .i64 e)].toArray)) h' := fun w' f fd e h' M he Hw hM => by
    rw [he] at k
    refine stA_all (row_at Hw) rfl rfl (oneCells_fd _) (ldA_all (Heap.set_same _ _ _) rfl ?_)
    have := seps_tail (row_set (cs' := f.enc) (tot' := (Fd.enc {}).length) Hw)
    exact fgt_mk (k _ (seps_under (fun _ H => seps_under hM H) this))
  have lf0 := lay_fd0
  rw [zc_fd] at lf0
  refine walk_ld (f1 H1) (s := .ptr) (k := 0) (x := some ⟨o.t, 0, none⟩) (fun _ => rfl) (walk_ld (f1 H1) (s := .int .i64) (k := 4) (x := w.at_) (fun _ => rfl) ?_)
  refine get_any (f2 H1) fun n i h2 H2 => ⟨(encI (getI T w.at_) n i, hasB T w.at_, ()), rfl, ?_⟩
  intro b7 hb7
  refine pStA_new zc_ilen rfl (oneCells_encI _ _ _) ?_
  have H3 := new_row (cs := encI (getI T w.at_) n i) (n := (zc Tryd.prog 25).length) H2 hb7
  generalize h2.set b7 _ = h3 at H3 ⊢
  -- H3: b7, the table, b1, the walk
  have H4 : seps (rowP b1 (Fd.enc {}) (Fd.enc {}).length :: walkP b o w :: progP o.t T :: rowP b7 (encI (getI T w.at_) n i) (zc Tryd.prog 25).length :: L) h3 := pk [2, 3, 1, 0] H3
  clear H3 H2 H1
  have dropT : ∀ g, seps (rowP b7 (encI (getI T w.at_) n i) (zc Tryd.prog 25).length :: L) g → seps L g := fun _ H => seps_tail H
  unfold pJoin
  have bad : (!hasB T w.at_ || (getI T w.at_).kind != 2) = true → paths_walk_step_j4 (some ⟨b, 0, none⟩) (fgt KP) (fgt K) b1 b7 true h3 := fun hb => by
    unfold paths_walk_step_j4
    rw [zc_fd, lf0]
    exact pIf_t rfl (out w {} false 20 h3 _ (by unfold stepF; rw [if_pos hb]) H4 dropT)
  refine pIf_i (fun hz => ?_) (fun hz => ?_)
  · exact bad (by rw [hz]; rfl)
  have r7 := row_at (f3 H4)
  refine ld_b (s := .int .i64) r7 (x := (getI T w.at_).kind) rfl ?_
  cases hk : ((getI T w.at_).kind != 2) with
  | true => exact bad (by rw [hk]; simp)
  | false =>
  have hg : ¬ (!hasB T w.at_ || (getI T w.at_).kind != 2) = true := by rw [hk, hz]; simp
  unfold paths_walk_step_j4
  rw [zc_fd]
  simp only [pSome_some, add_mk, Nat.zero_add, Nat.add_zero, lf0]
  refine pIf_f rfl (ldA_all r7 rfl ?_)
  refine walk_ld (f1 H4) (s := .int .i64) (k := 1) (x := o.uid) (fun _ => rfl) (walk_ld (f1 H4) (s := .int .i64) (k := 2) (x := o.gid) (fun _ => rfl) ?_)
  refine may_ok fun h4 le4 => ⟨_, rfl, ?_⟩
  have H5 := seps_mono H4 le4
  clear H4 r7
  refine pIf_i (fun hm => ?_) (fun hm => ?_)
  · have hm : mayF (getI T w.at_) o.uid o.gid 1 = false := by simpa using hm
    exact out w {} false 13 h4 _ (by unfold stepF; rw [if_neg hg, if_pos hm]) H5 dropT
  have hm : ¬ mayF (getI T w.at_) o.uid o.gid 1 = false := by simpa using hm
  have es : stepF T o w = stepN T o { w with left := w.left.tail } (getI T w.at_) (w.left.headD ⟨#[]⟩) (decide (w.left.length = 1)) := by unfold stepF; rw [if_neg hg, if_neg hm]
  -- the next name
  obtain ⟨name, rest, hw⟩ : ∃ name rest, w.left = name :: rest := by
    cases hw : w.left with
    | nil => exact absurd hw hne
    | cons a l => exact ⟨a, l, rfl⟩
  obtain ⟨s, hs, hcap, HW⟩ := walk_open (f1 H5)
  rw [hw] at es hs HW hl
  simp only [List.tail_cons, List.headD_cons, List.length_cons] at es hs hl
  have rw_ := row_at HW
  have rv := rd_at (f1 HW)
  have hv : s.vals 1 h4 ((name :: rest).flatMap fun y => [Value.string y]) := by rw [← map_flat]; exact rv
  obtain ⟨a, ha, hva⟩ := sl_elem (enc := fun y : ByteArray => [Value.string y]) (n := 1) (fun _ => rfl) hv (by rw [hs]; rfl) (i := 0) (by simp)
  refine ld_b (s := .slice) rw_ (x := s) rfl (pIdx_i (by omega) (by omega) (pSome_i ha (pLd_i (s := .str) name (vals_cell1 hva) ?_)))
  refine ld_b (s := .slice) rw_ (x := s) rfl (ld_b (s := .slice) rw_ (x := s) rfl ?_)
  refine pAssert_i ⟨by omega, by omega, by omega⟩ ?_
  refine st_b rw_ (by show 5 < 8; omega) rfl ?_
  have e2 : ∀ sl : Sl, (wcells o w s).set 5 (.slice sl.base sl.len sl.cap) = wcells o { w with left := rest } sl := fun _ => rfl
  have hsub : ∃ s2 : Sl, s2 = ⟨(if s.cap = (1 : Int).toNat then s.base else (s.base : Option Addr).map (·.add ((1 : Int).toNat * 1))), (((s.len : Int) : Int).toNat - (1 : Int).toNat), (s.cap - (1 : Int).toNat)⟩ := ⟨_, rfl⟩
  obtain ⟨s2, hs2⟩ := hsub
  have e3 : Value.slice (if s.cap = (1 : Int).toNat then s.base else (s.base : Option Addr).map (·.add ((1 : Int).toNat * 1))) (((s.len : Int) : Int).toNat - (1 : Int).toNat) (s.cap - (1 : Int).toNat) = .slice s2.base s2.len s2.cap := by rw [hs2]
  rw [e3, e2]
  have H6 : seps (walkP b o { w with left := rest } :: rowP b1 (Fd.enc {}) (Fd.enc {}).length :: progP o.t T :: rowP b7 (encI (getI T w.at_) n i) (zc Tryd.prog 25).length :: L) (h4.set b (.row (wcells o { w with left := rest } s2) 8)) := by
    refine walk_close (s := s2) (by rw [hs2]; simp only [Int.toNat_natCast]; omega) ?_
    refine row_set (seps_under (fun g H => seps_imp (fun g' hr => ?_) H) HW)
    -- the tail of a slice is read
    show s2.vals 1 g' (strs rest)
    have hr : s.vals 1 g' (strs (name :: rest)) := hr
    rw [hs2]
    unfold Sl.vals at hr ⊢
    rw [ha] at hr ⊢
    simp only [Int.toNat_natCast, Int.toNat_one, Nat.mul_one, Option.map_some] at hr ⊢
    by_cases hc1 : s.cap = 1
    · have hr0 : rest = [] := by have : rest.length = 0 := by omega
                                 exact List.length_eq_zero_iff.1 this
      rw [if_pos hc1]
      subst hr0
      simp only [List.length_nil] at hs
      have := vals_sub hr (k := 0) (m := 0) (by omega)
      have e0 : a.add 0 = a := by unfold Addr.add; split <;> simp_all
      rw [e0] at this
      simp only
      rw [show s.len - 1 = 0 by omega, this]
      simp [cut, strs]
    · rw [if_neg hc1]
      simp only
      have := vals_sub hr (k := 1) (m := s.len - 1) (by omega)
      rw [this]
      unfold cut
      rw [if_pos (by rw [strs_len, List.length_cons]; omega)]
      have hh : (strs (name :: rest)).drop 1 = strs rest := rfl
      rw [hh, List.take_of_length_le (by rw [strs_len]; omega)]
  generalize h4.set b _ = h5 at H6 ⊢
  clear H5 HW rw_ rv hv hva e3 e2 hs2
  have hla : (((s.len : Int) : Int) == 1) = decide (rest.length + 1 = 1) := by
    rw [hs]
    by_cases q : rest.length = 0
    · simp [q]
    · simp [q]; omega
  have hll : s.len = 1 ↔ (rest.length + 1 = 1) := by omega
  -- H6: the walk, b1, the table, b7
  have H7 := f1 H6
  unfold stepN at es
  have isd : ∀ x29, x29 = (strEq name dot || strEq name dots) → paths_walk_step_j3 (some ⟨b, 0, none⟩) (fgt KP) (fgt K) b1 b7 name s x29 h5 := by
    intro x29 hx
    unfold paths_walk_step_j3 pJoin
    rw [zc_fd]
    simp only [pSome_some, add_mk, Nat.zero_add, Nat.add_zero, lf0]
    refine pIf_i (fun hq => ?_) (fun hq => ?_)
    · rw [if_pos (by rw [← hx]; exact hq)] at es
      have fin : ∀ (w2 : Wk) (h6 : Heap), seps (walkP b o w2 :: rowP b1 (Fd.enc {}) (Fd.enc {}).length :: progP o.t T :: rowP b7 (encI (getI T w.at_) n i) (zc Tryd.prog 25).length :: L) h6 → stepF T o w = (w2, ⟨w2.at_, ⟨#[]⟩, w2.at_⟩, decide (rest.length + 1 = 1), 0) →
          paths_walk_step_j1 (some ⟨b, 0, none⟩) (fgt KP) (fgt K) b1 s h6 := by
        intro w2 h6 H8 e8
        unfold paths_walk_step_j1
        refine here_s H8 fun h7 H9 => ⟨_, rfl, ?_⟩
        rw [hla]
        exact out w2 _ _ 0 h7 _ e8 (f1 H9) dropT
      refine pIf_i (fun hd => ?_) (fun hd => ?_)
      · have hd' : strEq name dots = true := hd
        simp only [hd', if_true] at es
        refine ld_b (s := .int .i64) (row_at (f3 H6)) (x := (getI T w.at_).up) rfl ?_
        refine walk_st H6 (k := 4) (by omega) rfl (w' := { w with left := rest, at_ := (getI T w.at_).up }) (fun _ => rfl) rfl fun h6 H8 => ?_
        exact fin { w with left := rest, at_ := (getI T w.at_).up } h6 H8 es
      · have hd' : strEq name dots = false := hd
        simp only [hd', if_false, Bool.false_eq_true] at es
        exact fin _ h5 H6 es
    · have hq : ¬ (strEq name dot || strEq name dots) = true := by rw [← hx, hq]; simp
      rw [if_neg hq] at es
      refine pIf_i (fun hd => ?_) (fun hd => ?_)
      · have hd : name.size > 8 := by simp at hd; omega
        rw [if_pos hd] at es
        exact out _ {} false 36 h5 _ es H7 dropT
      have hd : ¬ name.size > 8 := by simp at hd; omega
      rw [if_neg hd] at es
      refine walk_ld H6 (s := .ptr) (k := 0) (x := some ⟨o.t, 0, none⟩) (fun _ => rfl) (walk_ld H6 (s := .int .i64) (k := 4) (x := w.at_) (fun _ => rfl) ?_)
      refine find_s (f2 H6) ⟨((findF T w.at_ name).getD 0, (findF T w.at_ name).isSome, ()), rfl, ?_⟩
      refine walk_ld H6 (s := .ptr) (k := 0) (x := some ⟨o.t, 0, none⟩) (fun _ => rfl) ?_
      dsimp only at es ⊢
      generalize hino : (findF T w.at_ name).getD 0 = ino at es ⊢
      refine get_any (f2 H6) fun n2 i2 h6 H8 => ⟨(encI (getI T ino) n2 i2, hasB T ino, ()), rfl, ?_⟩
      have dx := dk.get ino
      generalize getI T ino = x at es dx ⊢
      intro b44 hb44
      refine pStA_new zc_ilen rfl (oneCells_encI _ _ _) ?_
      have H9 := new_row (cs := encI x n2 i2) (n := (zc Tryd.prog 25).length) H8 hb44
      generalize h6.set b44 _ = h7 at H9 ⊢
      -- the walk, b1, the table, b44, b7
      have H10 : seps (walkP b o { w with left := rest } :: rowP b1 (Fd.enc {}) (Fd.enc {}).length :: progP o.t T :: rowP b44 (encI x n2 i2) (zc Tryd.prog 25).length :: rowP b7 (encI (getI T w.at_) n i) (zc Tryd.prog 25).length :: L) h7 := pk [2, 3, 1, 0] H9
      have drop2 : ∀ g, seps (rowP b44 (encI x n2 i2) (zc Tryd.prog 25).length :: rowP b7 (encI (getI T w.at_) n i) (zc Tryd.prog 25).length :: L) g → seps L g := fun _ H => seps_tail (seps_tail H)
      have r44 := row_at (f3 H10)
      have main : ∀ x51, x51 = (x.kind == 3 && (!decide (rest.length + 1 = 1) || (o.follow || w.dir))) → paths_walk_step_j2 (some ⟨b, 0, none⟩) (fgt KP) (fgt K) b1 name s (ino, (findF T w.at_ name).isSome, ()) b44 x51 h7 := by
        intro x51 hx51
        unfold paths_walk_step_j2
        rw [zc_fd]
        simp only [pSome_some, add_mk, Nat.zero_add, Nat.add_zero, lf0]
        refine pIf_i (fun h51 => ?_) (fun h51 => ?_)
        · rw [if_pos (by rw [← hx51]; exact h51)] at es
          refine ldA_all r44 rfl ?_
          refine through_s H10 (by omega) (by show rest.length < 10000; omega) fun h8 H11 => ⟨_, rfl, ?_⟩
          exact out _ {} false _ h8 _ es (f1 H11) drop2
        · rw [if_neg (by rw [← hx51, h51]; simp)] at es
          refine pIf_i (fun h52 => ?_) (fun h52 => ?_)
          · have h52' : decide (rest.length + 1 = 1) = true := by rw [← hla]; exact h52
            rw [if_pos h52'] at es
            refine ldA_all r44 rfl ?_
            refine last_s H10 fun h8 H11 => ⟨((lastF { w with left := rest } name x).1.enc, (lastF { w with left := rest } name x).2, ()), rfl, ?_⟩
            intro b57 hb57
            refine pStA_new rfl rfl (oneCells_fd _) (ldA_all (Heap.set_same _ _ _) rfl ?_)
            exact out _ _ true _ _ _ es (f1 (seps_new H11 hb57 _)) drop2
          · have h52' : ¬ decide (rest.length + 1 = 1) = true := by rw [← hla, h52]; simp
            rw [if_neg h52'] at es
            refine ld_b (s := .int .i64) r44 (x := x.ino) rfl ?_
            refine pIf_i (fun h53 => ?_) (fun h53 => ?_)
            · rw [if_pos (by simpa using h53)] at es
              exact out _ {} false 2 h7 _ es (f1 H10) drop2
            rw [if_neg (by simpa using h53)] at es
            refine ld_b (s := .int .i64) r44 (x := x.kind) rfl ?_
            refine pIf_i (fun h54 => ?_) (fun h54 => ?_)
            · rw [if_pos (by simpa using h54)] at es
              exact out _ {} false 20 h7 _ es (f1 H10) drop2
            rw [if_neg (by simpa using h54)] at es
            refine walk_st H10 (k := 4) (by omega) rfl (w' := { w with left := rest, at_ := ino }) (fun _ => rfl) rfl fun h8 H11 => ?_
            exact out _ {} false 0 h8 _ es (f1 H11) drop2
      refine ld_b (s := .int .i64) r44 (x := x.kind) rfl ?_
      refine pIf_i (fun h3 => ?_) (fun h3 => main false (by rw [h3]; rfl))
      refine pIf_i (fun h4 => main true ?_) (fun h4 => ?_)
      · rw [h3, ← hla, h4]; rfl
      · refine walk_ld H10 (s := .bool) (k := 3) (x := o.follow) (fun _ => rfl) ?_
        refine pIf_i (fun h5 => main true ?_) (fun h5 => ?_)
        · rw [h3, h5]; simp
        · refine walk_ld H10 (s := .bool) (k := 6) (x := w.dir) (fun _ => rfl) (main _ ?_)
          rw [h3, ← hla, h4, h5]; simp
  refine pIf_i (fun hd => isd true ?_) (fun hd => isd _ ?_)
  · have : strEq name dot = true := hd
    rw [this]; rfl
  · have : strEq name dot = false := hd
    rw [this]; rfl
end Go.Proofs.YtkbcneomjkfheaaDoor

set_option linter.unusedVariables false
set_option linter.unusedSimpArgs false
namespace Go.Proofs.YtkbcneomjkfheaaDoor
open Go.Hl
attribute [local irreducible] loadF zc sizeP bytesP vcBody pInvoke

/-- The steps of a walk. -/
def loopF (T : List Ind) (o : Who) : Nat → Wk → Fd × Int
  | 0, _ => ({}, -1)
  | n + 1, w => if w.left.isEmpty = true then (⟨w.at_, ⟨#[]⟩, w.at_⟩, 0) else
    let r := stepF T o w
    if r.2.2.2 ≠ 0 then ({}, r.2.2.2) else if r.2.2.1 = true then (r.2.1, 0) else loopF T o n r.1
theorem loopF_succ (T : List Ind) (o : Who) (n : Nat) (w : Wk) : loopF T o (n + 1) w = if w.left.isEmpty = true then (⟨w.at_, ⟨#[]⟩, w.at_⟩, 0) else
    let r := stepF T o w
    if r.2.2.2 ≠ 0 then ({}, r.2.2.2) else if r.2.2.1 = true then (r.2.1, 0) else loopF T o n r.1 := rfl
/-- Find. -/
def findP (T : List Ind) (o : Who) (cwd : Int) (path : ByteArray) : Fd × Int :=
  if strEq path ⟨#[]⟩ = true then ({}, 2)
  else if path.size > 64 then ({}, 36)
  else if (by' path).contains 0 = true then ({}, 22)
  else
    let w := intoF ⟨cwd, [], false, 0⟩ path
    if (!hasB T w.at_ || (getI T w.at_).kind != 2) = true then ({}, 2) else loopF T o 400 w

def mu (w : Wk) : Nat := w.left.length + 34 * (8 - w.links).toNat
theorem step_mu {T : List Ind} {o : Who} {w : Wk} (dk : DataOk T) (hl : 0 ≤ w.links ∧ w.links ≤ 8) (hne : w.left ≠ []) (h1 : (stepF T o w).2.2.2 = 0) (h2 : (stepF T o w).2.2.1 = false) :
    mu (stepF T o w).1 < mu w ∧ 0 ≤ (stepF T o w).1.links ∧ (stepF T o w).1.links ≤ 8 := by
  have hlen : w.left.tail.length + 1 = w.left.length := by
    cases hw : w.left with
    | nil => exact absurd hw hne
    | cons a l => rfl
  have tl : ∀ at_, mu { w with left := w.left.tail, at_ := at_ } < mu w ∧ 0 ≤ w.links ∧ w.links ≤ 8 := fun at_ => ⟨by unfold mu; simp only; omega, hl⟩
  unfold stepF at h1 h2 ⊢
  split at h1
  · simp at h1
  rename_i c1
  rw [if_neg c1] at h2 ⊢
  split at h1
  · simp at h1
  rename_i c2
  rw [if_neg c2] at h2 ⊢
  unfold stepN at h1 h2 ⊢
  split at h1
  · rename_i c3
    rw [if_pos c3] at h2 ⊢
    dsimp only
    split
    · exact tl _
    · exact tl _
  rename_i c3
  rw [if_neg c3] at h2 ⊢
  split at h1
  · simp at h1
  rename_i c4
  rw [if_neg c4] at h2 ⊢
  dsimp only at h1 h2 ⊢
  have dx := dk.get ((findF T w.at_ (w.left.headD ⟨#[]⟩)).getD 0)
  generalize (findF T w.at_ (w.left.headD ⟨#[]⟩)).getD 0 = ino at *
  generalize getI T ino = x at *
  split at h1
  · rename_i c5
    rw [if_pos c5] at h2 ⊢
    simp only at h1 ⊢
    unfold throughF at h1 ⊢
    split at h1
    · simp at h1
    rename_i c6
    rw [if_neg c6]
    split at h1
    · simp at h1
    rename_i c7
    rw [if_neg c7]
    simp only at c6
    have ew : IntKind.i64.wrap (w.links + 1) = w.links + 1 := wrap_small (by omega) (by omega)
    unfold intoF mu
    simp only
    rw [ew, List.length_append]
    have := namesF_len x.data
    omega
  rename_i c5
  rw [if_neg c5] at h2 ⊢
  split at h1
  · rename_i c6
    rw [if_pos c6] at h2
    simp at h2
  rename_i c6
  rw [if_neg c6] at h2 ⊢
  split at h1
  · simp at h1
  rename_i c7
  rw [if_neg c7] at h2 ⊢
  split at h1
  · simp at h1
  rename_i c8
  rw [if_neg c8] at h2 ⊢
  exact tl _

theorem lay_walk (o : Who) (cwd : Int) : lay (zc Tryd.prog 66) [(0, (.pointer (some ⟨o.t, 0, none⟩))), (1, (.int .i64 o.uid)), (2, (.int .i64 o.gid)), (3, (.bool o.follow)), (4, (.int .i64 cwd))] = wcells o ⟨cwd, [], false, 0⟩ nil0 := by kernel_rfl

theorem findP_s {o : Who} {T : List Ind} {L : List Pr} {h : Heap} (H : seps (progP o.t T :: L) h) (dk : DataOk T) {cwd : Int} {path : ByteArray} {KP K : Value → Pr}
    (k : ∀ h', seps (progP o.t T :: L) h' → K (.tuple #[.agg (findP T o cwd path).1.enc.toArray, .int .i64 (findP T o cwd path).2]) h') :
    WpCall Tryd.prog 14 #[.pointer (some ⟨o.t, 0, none⟩), .int .i64 cwd, .int .i64 o.uid, .int .i64 o.gid, .string path, .bool o.follow] KP K h := by
  refine paths_Find_call (some ⟨o.t, 0, none⟩) cwd o.uid o.gid path o.follow ?_
  unfold paths_Find
  intro b1 hb1
  rw [zc_fd]
  have H1 := new_row (cs := Fd.enc {}) (n := (Fd.enc {}).length) H hb1
  generalize h.set b1 _ = h1 at H1 ⊢
  have lf0 := lay_fd0
  rw [zc_fd] at lf0
  rw [lf0]
  -- the end
  have out : ∀ (f : Fd) (e : Int) (h' : Heap) (M : List Pr), findP T o cwd path = (f, e) → seps (rowP b1 (Fd.enc {}) (Fd.enc {}).length :: progP o.t T :: M) h' → (∀ g, seps M g → seps L g) →
      pStA 3 ⟨b1, 0, none⟩ f.enc (pLdA 3 ⟨b1, 0, none⟩ fun x8 => fgt K (.tuple [(.agg x8.toArray), (.int .i64 e)].toArray)) h' := fun f e h' M he Hw hM => by
    rw [he] at k
    refine stA_all (row_at Hw) rfl rfl (oneCells_fd _) (ldA_all (Heap.set_same _ _ _) rfl ?_)
    exact fgt_mk (k _ (seps_under hM (seps_tail (row_set (cs' := f.enc) (tot' := (Fd.enc {}).length) Hw))))
  unfold findP at out
  refine pIf_i (fun hz => ?_) (fun hz => ?_)
  · rw [if_pos hz] at out
    exact out {} 2 h1 L rfl H1 (fun _ H => H)
  rw [if_neg (by rw [hz]; simp)] at out
  refine pIf_i (fun hy => ?_) (fun hy => ?_)
  · rw [if_pos (by simp at hy; omega)] at out
    exact out {} 36 h1 L rfl H1 (fun _ H => H)
  have hy : ¬ path.size > 64 := by simp at hy; omega
  rw [if_neg hy] at out
  have e0 : (⟨#[0]⟩ : ByteArray) = one 0 := rfl
  rw [e0]
  refine contains1_ok (by omega) ⟨_, rfl, ?_⟩
  refine pIf_i (fun hx => ?_) (fun hx => ?_)
  · rw [if_pos hx] at out
    exact out {} 22 h1 L rfl H1 (fun _ H => H)
  rw [if_neg (by rw [hx]; simp)] at out
  intro b6 hb6
  rw [lay_walk]
  have H2 := new_row (cs := wcells o ⟨cwd, [], false, 0⟩ nil0) (n := (wcells o ⟨cwd, [], false, 0⟩ nil0).length) H1 hb6
  generalize h1.set b6 _ = h2 at H2 ⊢
  have H3 : seps (walkP b6 o ⟨cwd, [], false, 0⟩ :: rowP b1 (Fd.enc {}) (Fd.enc {}).length :: progP o.t T :: L) h2 :=
    walk_close (Nat.le_refl 0) (seps_under (fun _ H => own_rd (own_nil H)) H2)
  refine into_s H3 (by omega) (by show 0 < 10000; omega) fun h3 H4 => ⟨(), rfl, ?_⟩
  have hn := namesF_len path
  have hw0 : (intoF ⟨cwd, [], false, 0⟩ path).left.length ≤ 65 := by unfold intoF; simp only [List.append_nil]; omega
  have hl0 : (intoF ⟨cwd, [], false, 0⟩ path).links = 0 := rfl
  dsimp only at out
  generalize intoF ⟨cwd, [], false, 0⟩ path = w at *
  simp only [pSome_some, add_mk, Nat.zero_add]
  refine walk_ld H4 (s := .int .i64) (k := 4) (x := w.at_) (fun _ => rfl) ?_
  refine get_any (f2 H4) fun n i h4 H5 => ⟨(encI (getI T w.at_) n i, hasB T w.at_, ()), rfl, ?_⟩
  intro b11 hb11
  refine pStA_new zc_ilen rfl (oneCells_encI _ _ _) ?_
  have H6 := seps_new H5 hb11 (.row (encI (getI T w.at_) n i) (zc Tryd.prog 25).length)
  have r11 := Heap.set_same h4 b11 (.row (encI (getI T w.at_) n i) (zc Tryd.prog 25).length)
  generalize h4.set b11 _ = h5 at H6 r11 ⊢
  -- the table, the walk, b1
  unfold pJoin
  have bad : (!hasB T w.at_ || (getI T w.at_).kind != 2) = true → paths_Find_j2 (fgt KP) (fgt K) b1 b6 true h5 := fun hb => by
    unfold paths_Find_j2
    rw [zc_fd, lf0]
    rw [if_pos hb] at out
    exact pIf_t rfl (out {} 2 h5 _ rfl (pk [2, 0] H6) (fun _ H => seps_tail H))
  refine pIf_i (fun hz => ?_) (fun hz => ?_)
  · exact bad (by rw [hz]; rfl)
  refine ld_b (s := .int .i64) r11 (x := (getI T w.at_).kind) rfl ?_
  cases hk : ((getI T w.at_).kind != 2) with
  | true => exact bad (by rw [hk]; simp)
  | false =>
  rw [if_neg (by rw [hk, hz]; simp)] at out
  unfold paths_Find_j2
  refine pIf_f rfl ?_
  refine pLoop_ruleN (fun m (_ : Unit) h' => ∃ w' n', m = n' ∧ loopF T o 400 w = loopF T o n' w' ∧ mu w' < n' ∧ n' ≤ 400 ∧ 0 ≤ w'.links ∧ w'.links ≤ 8 ∧ seps (walkP b6 o w' :: progP o.t T :: rowP b1 (Fd.enc {}) (Fd.enc {}).length :: L) h') ?_ (n := 400) ⟨w, 400, rfl, rfl, by unfold mu; rw [hl0]; omega, Nat.le_refl _, by omega, by omega, pk [1, 0, 2] H6⟩
  rintro m ⟨⟩ h6 kk ⟨w', n', rfl, el, hmu, hn4, l0, l8, H7⟩ hkk
  unfold paths_Find_l1
  simp only [pSome_some, add_mk, Nat.zero_add]
  obtain ⟨s, hs, hc, H8⟩ := walk_open H7
  refine ld_b (s := .slice) (row_at H8) (x := s) rfl ?_
  obtain ⟨m, rfl⟩ : ∃ q, m = q + 1 := ⟨m - 1, by omega⟩
  by_cases he : w'.left = []
  · refine pIf_f (by rw [hs, he]; rfl) ?_
    refine here_s H7 fun h7 H9 => ⟨_, rfl, ?_⟩
    refine out _ 0 h7 _ ?_ (pk [2, 1] H9) (fun _ H => seps_tail H)
    rw [el, loopF, he]; rfl
  · have hpos : 0 < w'.left.length := List.length_pos_iff.2 he
    have hie : ¬ w'.left.isEmpty = true := by simpa using he
    refine pIf_t (by rw [hs]; simpa using hpos) ?_
    have hlen : w'.left.length < 10000 := by unfold mu at hmu; omega
    refine step_s H7 dk hlen he fun h7 H9 => ⟨((stepF T o w').2.1.enc, (stepF T o w').2.2.1, (stepF T o w').2.2.2, ()), rfl, ?_⟩
    rw [loopF_succ T o m w', if_neg hie] at el
    dsimp only at el
    intro b20 hb20
    refine pStA_new (by rw [zc_fd]; rfl) rfl (oneCells_fd _) ?_
    have H10 := seps_new H9 hb20 (.row (stepF T o w').2.1.enc (zc Tryd.prog 36).length)
    have r20 := Heap.set_same h7 b20 (.row (stepF T o w').2.1.enc (zc Tryd.prog 36).length)
    generalize h7.set b20 _ = h8 at H10 r20 ⊢
    rw [zc_fd, lf0]
    refine pIf_i (fun h1 => ?_) (fun h1 => ?_)
    · have h1 : (stepF T o w').2.2.2 ≠ 0 := by simpa using h1
      rw [if_pos h1] at el
      exact out {} _ h8 _ el (pk [2, 1] H10) (fun _ H => seps_tail H)
    have h1 : (stepF T o w').2.2.2 = 0 := by simpa using h1
    rw [if_neg (by simpa using h1)] at el
    refine pIf_i (fun h2 => ?_) (fun h2 => ?_)
    · rw [if_pos h2] at el
      refine ldA_all r20 rfl ?_
      exact out _ 0 h8 _ el (pk [2, 1] H10) (fun _ H => seps_tail H)
    · rw [if_neg (by rw [h2]; simp)] at el
      obtain ⟨q1, q2, q3⟩ := step_mu dk ⟨l0, l8⟩ he h1 h2
      exact hkk m () h8 (by omega) ⟨(stepF T o w').1, m, rfl, el, by omega, by omega, q2, q3, H10⟩
end Go.Proofs.YtkbcneomjkfheaaDoor

set_option linter.unusedVariables false
set_option linter.unusedSimpArgs false
namespace Go.Proofs.YtkbcneomjkfheaaDoor
open Go.Hl

/-! Paths of inodes: the plain law. -/
def slash : ByteArray := one 47
/-- A name behind a path. -/
def under (p n : ByteArray) : ByteArray := (p ++ slash) ++ n
theorem under_size (p n : ByteArray) : (under p n).size = p.size + 1 + n.size := by
  unfold under; rw [ByteArray.size_append, ByteArray.size_append]; rfl
/-- What a directory has. -/
def ents (T : List Ind) (d : Int) : List (ByteArray × Int) := (T.getD d.toNat default).names.zip (T.getD d.toNat default).inos
def isDir (T : List Ind) (y : Int) : Bool := hasB T y && (T.getD y.toNat default).kind == 2
abbrev Vs := List (Int × ByteArray)
/-- One more directory, if it is new. -/
def addE (T : List Ind) (p : ByteArray) (V : Vs) (e : ByteArray × Int) : Vs := if (isDir T e.2 && (getE V e.2).isNone) = true then V ++ [(e.2, under p e.1)] else V
def expd (T : List Ind) (V : Vs) (d : Int × ByteArray) : Vs := (ents T d.1).foldl (addE T d.2) V
/-- Is it in this directory? -/
def srch (T : List Ind) (ino : Int) (d : Int × ByteArray) : Option ByteArray := (ents T d.1).findSome? fun e => if e.2 == ino then some (under d.2 e.1) else none
def ofQ (T : List Ind) (ino : Int) : Nat → Vs → Nat → ByteArray
  | 0, _, _ => ⟨#[]⟩
  | f + 1, V, i => match V[i]? with
    | none => ⟨#[]⟩
    | some d => match srch T ino d with
      | some s => s
      | none => ofQ T ino f (expd T V d) (i + 1)
def ofF (T : List Ind) (ino : Int) : ByteArray :=
  if hasB T ino = true then (if ino = 1 then slash else ofQ T ino 25 [(1, ⟨#[]⟩)] 0) else ⟨#[]⟩

theorem getE_none {α : Type} : ∀ {V : List (Int × α)} {x : Int}, getE V x = none ↔ x ∉ V.map (·.1)
  | [], _ => by simp [getE]
  | (y, a) :: r, x => by
    unfold getE
    by_cases e : x = y
    · simp [e]
    · rw [if_neg e, getE_none (V := r)]; simp [e]
theorem getE_at {α : Type} : ∀ {V : List (Int × α)} (hn : (V.map (·.1)).Nodup) {i : Nat} (hi : i < V.length), getE V V[i].1 = some V[i].2
  | (y, a) :: r, hn, 0, _ => by simp [getE]
  | (y, a) :: r, hn, i + 1, hi => by
    rw [List.map_cons, List.nodup_cons] at hn
    have hi' : i < r.length := by simpa using hi
    have : r[i].1 ≠ y := fun e => hn.1 (by rw [← e]; exact List.mem_map.2 ⟨r[i], List.getElem_mem hi', rfl⟩)
    simp only [List.getElem_cons_succ, getE]
    rw [if_neg this]
    exact getE_at hn.2 hi'

/-- The names of a table are names; each inode has its place's number; no data are too long. -/
structure Ext (T : List Ind) : Prop where
  data : DataOk T
  names : ∀ i, ∀ x ∈ (T.getD i default).names, isName x = true
  ino : ∀ p, hasB T p = true → (T.getD p.toNat default).ino = p
theorem Ext.put {T : List Ind} (v : Ext T) (hT : T.length = 25) {p : Int} (hp : 1 ≤ p ∧ p < 25) {x : Ind} (h1 : x.data.size ≤ 32) (h2 : ∀ y ∈ x.names, isName y = true) (h3 : x.kind ≠ 0 → x.ino = p) : Ext (T.set p.toNat x) := by
  have hl : p.toNat < T.length := by omega
  refine ⟨fun i => ?_, fun i y hy => ?_, fun q hq => ?_⟩
  · rw [getD_set hl]; split
    · exact h1
    · exact v.data i
  · rw [getD_set hl] at hy; split at hy
    · exact h2 y hy
    · exact v.names i y hy
  · have hr := hasB_range hq
    unfold hasB at hq
    rw [getD_set hl] at hq ⊢
    by_cases e : q.toNat = p.toNat
    · rw [if_pos e] at hq ⊢
      have : q = p := by omega
      subst this
      refine h3 ?_
      simp only [Bool.and_eq_true, bne_iff_ne] at hq
      exact hq.2
    · rw [if_neg e] at hq ⊢
      exact v.ino q hq
theorem newT_ext : Ext newT := by
  refine ⟨fun i => ?_, fun i y hy => ?_, fun q hq => ?_⟩
  · rw [newT_at]; split <;> decide
  · rw [newT_at] at hy; split at hy <;> simp [rootI] at hy
  · unfold hasB at hq
    rw [newT_at] at hq ⊢
    by_cases e : q.toNat = 1
    · rw [if_pos e]
      have : 1 ≤ q := by simp at hq; exact hq.1.1
      show (1 : Int) = q; omega
    · rw [if_neg e] at hq; simp at hq
theorem addF_ext {T : List Ind} (w : Inv T) (v : Ext T) (kind mode uid gid : Int) : Ext (addF T kind mode uid gid).1 := by
  unfold addF
  split
  · exact v
  · split
    · exact v
    · rename_i q r e
      have hq := mem_freeL.1 (show q ∈ freeL T by rw [e]; exact List.mem_cons_self ..)
      unfold isFree at hq
      exact v.put w.len ⟨by omega, hq.2.1⟩ (by show (0 : Nat) ≤ 32; omega) (fun y hy => by simp [newI] at hy) (fun _ => rfl)
theorem freeF_ext {T : List Ind} (w : Inv T) (v : Ext T) (ino : Int) : Ext (freeF T ino).1 := by
  unfold freeF
  by_cases hb : hasB T ino = true
  · simp only [hb, if_true]
    split
    · exact v
    · exact v.put w.len (hasB_range hb) (by show (0 : Nat) ≤ 32; omega) (fun y hy => by simp at hy) (fun e => absurd rfl e)
  · simp only [hb, if_false, Bool.false_eq_true]; exact v
theorem writeF_ext {T : List Ind} (w : Inv T) (v : Ext T) (ino : Int) (d : ByteArray) : Ext (writeF T ino d).1 := by
  unfold writeF
  by_cases hb : hasB T ino = true
  · simp only [hb, if_true]
    split
    · exact v
    · split
      · exact v
      · rename_i h1 h2
        exact v.put w.len (hasB_range hb) (by show d.size ≤ 32; omega) (v.names _) (fun _ => v.ino ino hb)
  · simp only [hb, if_false, Bool.false_eq_true]; exact v
theorem ownF_ext {T : List Ind} (w : Inv T) (v : Ext T) (ino m u g : Int) : Ext (ownF T ino m u g).1 := by
  unfold ownF
  by_cases hb : hasB T ino = true
  · simp only [hb, if_true]
    exact v.put w.len (hasB_range hb) (v.data _) (v.names _) (fun _ => v.ino ino hb)
  · simp only [hb, if_false, Bool.false_eq_true]; exact v
theorem set_same_has {T : List Ind} (hT : T.length = 25) {p : Int} (hp : hasB T p = true) {x : Ind} (hk : x.kind = (T.getD p.toNat default).kind) {q : Int} (hq : hasB T q = true) : hasB (T.set p.toNat x) q = true := by
  have hl : p.toNat < T.length := by have := hasB_range hp; omega
  unfold hasB at hq ⊢
  rw [getD_set hl]; split
  · rename_i e; rw [hk, ← e]; exact hq
  · exact hq
theorem enterF_ext {T : List Ind} (w : Inv T) (v : Ext T) (dir ino : Int) (name : ByteArray) : Ext (enterF T dir name ino).1 := by
  unfold enterF
  by_cases h0 : isName name = true
  · by_cases hb : hasB T dir = true ∧ hasB T ino = true
    · simp only [h0, hb, and_self, if_true]
      obtain ⟨hd, hi⟩ := hb
      split
      · split
        · exact v
        · split
          · exact v
          · split
            · exact v
            · unfold enterOk
              have hl : dir.toNat < T.length := by have := hasB_range hd; rw [w.len]; omega
              have v1 : Ext (T.set dir.toNat (insI (T.getD dir.toNat default) name ino)) := v.put w.len (hasB_range hd) (v.data _) (fun y hy => by
                unfold insI at hy
                rcases List.mem_append.1 hy with q1 | q1
                · exact v.names _ y (List.mem_of_mem_take q1)
                · rcases List.mem_cons.1 q1 with rfl | q1
                  · exact h0
                  · exact v.names _ y (List.mem_of_mem_drop q1)) (fun _ => v.ino dir hd)
              have hi1 := set_same_has w.len hd (x := insI (T.getD dir.toNat default) name ino) rfl hi
              obtain ⟨q1, q2, q3⟩ := link_same ((T.set dir.toNat (insI (T.getD dir.toNat default) name ino)).getD ino.toNat default) dir
              have e5 : ∀ z : Ind, (linkI z dir).data = z.data ∧ (linkI z dir).ino = z.ino := fun z => by unfold linkI; dsimp only; split <;> exact ⟨rfl, rfl⟩
              dsimp only
              refine v1.put (by simpa using w.len) (hasB_range hi) (by rw [(e5 _).1]; exact v1.data _) (by rw [q1]; exact v1.names _) (fun _ => by rw [(e5 _).2]; exact v1.ino ino hi1)
      · exact v
    · simp only [h0, hb, if_true, if_false]; exact v
  · simp only [h0, if_false, Bool.false_eq_true]; exact v
theorem leaveF_ext {T : List Ind} (w : Inv T) (v : Ext T) (dir : Int) (name : ByteArray) : Ext (leaveF T dir name).1 := by
  unfold leaveF
  by_cases hd : hasB T dir = true
  · simp only [hd, if_true]
    split
    · split
      · generalize pos (T.getD dir.toNat default).names name = k
        generalize (T.getD dir.toNat default).inos.getD k 0 = ino
        unfold leaveOk
        have v1 : Ext (T.set dir.toNat (delI (T.getD dir.toNat default) k)) := v.put w.len (hasB_range hd) (v.data _) (fun y hy => v.names _ y ((List.eraseIdx_sublist ..).mem hy)) (fun _ => v.ino dir hd)
        dsimp only
        split
        · rename_i hi
          exact v1.put (by simpa using w.len) (hasB_range hi) (v1.data _) (v1.names _) (fun _ => v1.ino ino hi)
        · exact v1
      · exact v
    · exact v
  · simp only [hd, if_false, Bool.false_eq_true]; exact v
theorem do_ext {T : List Ind} (w : Inv T) (v : Ext T) (o : Op) : Ext (doF T o) := by
  unfold doF
  split
  · exact addF_ext w v ..
  · split
    · exact freeF_ext w v ..
    · split
      · exact enterF_ext w v ..
      · split
        · exact leaveF_ext w v ..
        · split
          · exact writeF_ext w v ..
          · exact ownF_ext w v ..

/-- What is always so of the directories that were seen. -/
structure VOk (T : List Ind) (V : Vs) : Prop where
  dirs : ∀ d ∈ V, isDir T d.1 = true
  nodup : (V.map (·.1)).Nodup
  size : ∀ j (hj : j < V.length), V[j].2.size ≤ 9 * j
theorem isDir_range {T : List Ind} {y : Int} (h : isDir T y = true) : 1 ≤ y ∧ y < 25 := by
  unfold isDir at h; simp only [Bool.and_eq_true] at h; exact hasB_range h.1
theorem VOk.len {T : List Ind} {V : Vs} (v : VOk T V) : V.length ≤ 24 := by
  have hp : (V.map (·.1)).Perm (((List.range' 1 24).map fun (n : Nat) => (n : Int)).filter fun x => decide (x ∈ V.map (·.1))) := by
    rw [List.perm_iff_count]
    intro x
    have h1 : ((List.range' 1 24).map fun (n : Nat) => (n : Int)).Pairwise (· < ·) := by
      rw [List.pairwise_map]
      refine List.Pairwise.imp ?_ (List.pairwise_lt_range' (s := 1) (n := 24) (step := 1))
      intro a b h; omega
    rw [count_of_sorted (h1.filter _)]
    by_cases hx : x ∈ V.map (·.1)
    · have c1 := List.nodup_iff_count.1 v.nodup x
      have c2 := List.count_pos_iff.2 hx
      rw [show List.count x (V.map (·.1)) = 1 by omega, if_pos]
      rw [List.mem_filter]
      refine ⟨?_, by simpa using hx⟩
      obtain ⟨d, hd, rfl⟩ := List.mem_map.1 hx
      have := isDir_range (v.dirs d hd)
      exact List.mem_map.2 ⟨d.1.toNat, by rw [List.mem_range'_1]; omega, by omega⟩
    · rw [List.count_eq_zero.2 hx, if_neg]
      rw [List.mem_filter]
      intro h; exact hx (by simpa using h.2)
  have := hp.length_eq
  rw [List.length_map] at this
  rw [this]
  exact Nat.le_trans (List.length_filter_le _ _) (by simp)
theorem VOk.addE {T : List Ind} {V : Vs} (v : VOk T V) {i : Nat} (hi : i < V.length) {e : ByteArray × Int} (he : e.1.size ≤ 8) : VOk T (addE T V[i].2 V e) ∧ ∃ r, Proofs.YtkbcneomjkfheaaDoor.addE T V[i].2 V e = V ++ r := by
  unfold Proofs.YtkbcneomjkfheaaDoor.addE
  split
  · rename_i h
    simp only [Bool.and_eq_true, Option.isNone_iff_eq_none] at h
    refine ⟨⟨fun d hd => ?_, ?_, fun j hj => ?_⟩, _, rfl⟩
    · rcases List.mem_append.1 hd with q | q
      · exact v.dirs d q
      · rw [List.mem_singleton.1 q]; exact h.1
    · rw [List.map_append, List.nodup_append]
      refine ⟨v.nodup, by simp, fun a ha b hb => ?_⟩
      rw [List.map_singleton, List.mem_singleton] at hb
      intro hab
      have hb : b = e.2 := hb
      exact getE_none.1 h.2 (by rw [← hb, ← hab]; exact ha)
    · rw [List.length_append, List.length_singleton] at hj
      by_cases q : j < V.length
      · rw [List.getElem_append_left q]; exact v.size j q
      · have : j = V.length := by omega
        subst this
        rw [List.getElem_append_right (Nat.le_refl _)]
        simp only [Nat.sub_self, List.getElem_cons_zero]
        rw [under_size]
        have := v.size i hi
        omega
  · exact ⟨v, [], by simp⟩
theorem isName_size {x : ByteArray} (h : isName x = true) : x.size ≤ 8 := by
  unfold isName at h; simp only [Bool.and_eq_true, decide_eq_true_eq] at h; exact h.1.1.1.2
theorem fold_ok {T : List Ind} : ∀ (es : List (ByteArray × Int)) {V : Vs} (v : VOk T V) {i : Nat} (hi : i < V.length), (∀ e ∈ es, e.1.size ≤ 8) → VOk T (es.foldl (addE T V[i].2) V) ∧ ∃ r, es.foldl (addE T V[i].2) V = V ++ r
  | [], V, v, i, hi, _ => ⟨v, [], by simp⟩
  | e :: es, V, v, i, hi, he => by
    obtain ⟨v1, r, hr⟩ := v.addE hi (he e (List.mem_cons_self ..))
    rw [List.foldl_cons]
    have hi1 : i < (addE T V[i].2 V e).length := by rw [hr, List.length_append]; omega
    have e1 : (addE T V[i].2 V e)[i].2 = V[i].2 := by simp only [hr]; rw [List.getElem_append_left hi]
    obtain ⟨v2, r2, hr2⟩ := fold_ok es v1 hi1 fun x hx => he x (List.mem_cons_of_mem _ hx)
    rw [e1] at v2 hr2
    exact ⟨v2, r ++ r2, by rw [hr2, hr, List.append_assoc]⟩
theorem ents_name {T : List Ind} (x : Ext T) {d : Int} {e : ByteArray × Int} (he : e ∈ ents T d) : isName e.1 = true := x.names _ _ (List.of_mem_zip (a := e.1) (b := e.2) he).1
theorem expd_ok {T : List Ind} (x : Ext T) {V : Vs} (v : VOk T V) {i : Nat} (hi : i < V.length) : VOk T (expd T V V[i]) ∧ ∃ r, expd T V V[i] = V ++ r :=
  fold_ok _ v hi fun e he => isName_size (ents_name x he)
theorem first_ok {T : List Ind} (w : Inv T) : VOk T [(1, ⟨#[]⟩)] := by
  refine ⟨fun d hd => ?_, by simp, fun j hj => ?_⟩
  · rw [List.mem_singleton.1 hd]
    have := w.root
    unfold isDir hasB
    rw [show ((1 : Int), (⟨#[]⟩ : ByteArray)).1.toNat = 1 from rfl, this]; rfl
  · have : j = 0 := by simpa using hj
    subst this
    exact Nat.zero_le _
end Go.Proofs.YtkbcneomjkfheaaDoor

set_option linter.unusedVariables false
set_option linter.unusedSimpArgs false
namespace Go.Proofs.YtkbcneomjkfheaaDoor
open Go.Hl
attribute [local irreducible] loadF zc sizeP bytesP vcBody pInvoke

theorem zip_at {α β : Type} {a : List α} {b : List β} {j : Nat} (h1 : j < a.length) (h2 : j < b.length) : (a.zip b)[j]? = some (a[j], b[j]) := by
  rw [List.getElem?_eq_getElem (by simp; omega)]; simp
theorem srch_hit {T : List Ind} {ino : Int} {d : Int × ByteArray} {j : Nat} {e : ByteArray × Int} (hj : (ents T d.1)[j]? = some e) (he : e.2 = ino) (hb : ∀ (k : Nat) (e' : ByteArray × Int), k < j → (ents T d.1)[k]? = some e' → e'.2 ≠ ino) : srch T ino d = some (under d.2 e.1) := by
  unfold srch
  generalize ents T d.1 = l at *
  induction l generalizing j with
  | nil => simp at hj
  | cons a l ih =>
    cases j with
    | zero =>
      simp at hj
      subst hj
      rw [List.findSome?_cons, if_pos (by simpa using he)]
    | succ j =>
      have := hb 0 a (by omega) rfl
      rw [List.findSome?_cons, if_neg (by simpa using this)]
      exact ih (j := j) (by simpa using hj) fun k e' hk hk' => hb (k + 1) e' (by omega) (by simpa using hk')
theorem srch_miss {T : List Ind} {ino : Int} {d : Int × ByteArray} (hb : ∀ (k : Nat) (e' : ByteArray × Int), (ents T d.1)[k]? = some e' → e'.2 ≠ ino) : srch T ino d = none := by
  unfold srch
  rw [List.findSome?_eq_none_iff]
  intro e he
  obtain ⟨k, hk, rfl⟩ := List.getElem_of_mem he
  have := hb k _ (List.getElem?_eq_getElem hk)
  simp [this]
theorem ofQ_hit {T : List Ind} {ino : Int} {f : Nat} {V : Vs} {i : Nat} (hi : i < V.length) {s : ByteArray} (h : srch T ino V[i] = some s) : ofQ T ino (f + 1) V i = s := by
  rw [ofQ, List.getElem?_eq_getElem hi]; simp only [h]
theorem ofQ_miss {T : List Ind} {ino : Int} {f : Nat} {V : Vs} {i : Nat} (hi : i < V.length) (h : srch T ino V[i] = none) : ofQ T ino (f + 1) V i = ofQ T ino f (expd T V V[i]) (i + 1) := by
  rw [ofQ, List.getElem?_eq_getElem hi]; simp only [h]
theorem ofQ_end {T : List Ind} {ino : Int} {f : Nat} {V : Vs} {i : Nat} (hi : ¬ i < V.length) : ofQ T ino f V i = ⟨#[]⟩ := by
  cases f with
  | zero => rfl
  | succ f => rw [ofQ, List.getElem?_eq_none (by omega)]
theorem foldl_take {α β : Type} (g : β → α → β) (b : β) {l : List α} {j : Nat} {e : α} (h : l[j]? = some e) : (l.take (j + 1)).foldl g b = g ((l.take j).foldl g b) e := by
  rw [List.take_add_one, h, List.foldl_append]; rfl

theorem lay_i1 (x : Int) : lay (reps 1 (zc Tryd.prog 3)) [(0, (.int .i64 x))] = [.int .i64 x] := lay1 x
theorem app_intO {h : Heap} {s : Sl} {l : List Int} {x : Int} {L : List Pr} {k : Sl → Pr} (H : seps (ownO 1 s (ints l) :: L) h) (hl : l.length < 1000000) (hk : ∀ s' h', seps (ownO 1 s' (ints (l ++ [x])) :: L) h' → k s' h') :
    pNew (lay (reps 1 (zc Tryd.prog 3)) [(0, (.int .i64 x))]) (fun b => pAppend 1 8 s ⟨(some ⟨b, 0, none⟩), 1, 1⟩ k) h := by
  intro b hb
  rw [lay1]
  have hlen : s.len = l.length := by have := (ownO_at H).1; rw [ints_len] at this; omega
  have hv : (Sl.mk (some ⟨b, 0, none⟩) 1 1).vals 1 (h.set b (.row [.int .i64 x] ([Value.int .i64 x] : List Value).length)) [.int .i64 x] := by
    unfold Sl.vals; simp only; rw [vals_row (Heap.set_same _ _ _)]; rfl
  refine append_O (seps_new H hb _) hv (show (s.len + 1) * 8 ≤ 140737488355328 by omega) (fun v hv => by rw [List.mem_singleton.1 hv]; rfl) fun s' h' H' _ => hk s' h' ?_
  have e : ints (l ++ [x]) = ints l ++ [.int .i64 x] := by simp [ints]
  rw [e]; exact H'

theorem of_s {b : Nat} {T : List Ind} {L : List Pr} {h : Heap} (H : seps (progP b T :: L) h) (ex : Ext T) {ino : Int} {KP K : Value → Pr} (k : ∀ h', seps (progP b T :: L) h' → K (.string (ofF T ino)) h') :
    WpCall Tryd.prog 16 #[.pointer (some ⟨b, 0, none⟩), .int .i64 ino] KP K h := by
  have v := prog_inv H
  refine paths_Of_call (some ⟨b, 0, none⟩) ino ?_
  unfold paths_Of
  refine get_any H fun n i h1 H1 => ⟨(encI (getI T ino) n i, hasB T ino, ()), rfl, ?_⟩
  intro b2 hb2
  refine pStA_new zc_ilen rfl (oneCells_encI _ _ _) ?_
  have H2 := seps_new H1 hb2 (.row (encI (getI T ino) n i) (zc Tryd.prog 25).length)
  generalize h1.set b2 _ = h2 at H2 ⊢
  unfold ofF at k
  refine pIf_i (fun hz => ?_) (fun hz => ?_)
  · rw [if_neg (by simpa using hz)] at k
    exact fgt_mk (k _ H2)
  rw [if_pos (by simpa using hz)] at k
  refine pIf_i (fun hy => ?_) (fun hy => ?_)
  · rw [if_pos (by simpa using hy)] at k
    exact fgt_mk (k _ H2)
  rw [if_neg (by simpa using hy)] at k
  intro b3 hb3
  rw [lay1]
  have H3 : seps (ownO 1 ⟨some ⟨b3, 0, none⟩, 1, 1⟩ (ints [1]) :: progP b T :: L) (h2.set b3 (.row [.int .i64 1] ([Value.int .i64 1] : List Value).length)) :=
    seps_imp (fun g hg => ⟨rfl, Nat.le_refl _, .inr ⟨b3, [], [], 1, rfl, hg, Nat.le_refl _⟩⟩) (new_row (cs := [.int .i64 1]) (n := 1) H2 hb3)
  generalize h2.set b3 _ = h3 at H3 ⊢
  intro b4 hb4
  have H4 : seps (mapP b4 (intE .string []) :: ownO 1 ⟨some ⟨b3, 0, none⟩, 1, 1⟩ (ints [1]) :: progP b T :: L) (h3.set b4 (.map [])) := map_new H3 hb4
  generalize h3.set b4 _ = h4 at H4 ⊢
  refine put_str H4 (x := 1) (a := ⟨#[]⟩) rfl fun h5 H5 => ?_
  refine pLoop_ruleN (fun (f : Nat) (s : Sl × Unit) h' => ∃ (V : Vs) (i : Nat), ofQ T ino 25 [(1, ⟨#[]⟩)] 0 = ofQ T ino f V i ∧ f + i = 25 ∧ i ≤ V.length ∧ VOk T V ∧ seps (ownO 1 s.1 (ints ((V.map fun d : Int × ByteArray => d.1).drop i)) :: mapP b4 (intE .string V) :: progP b T :: L) h') ?_ (n := 25) ⟨[(1, ⟨#[]⟩)], 0, rfl, rfl, by simp, first_ok v, f1 H5⟩
  rintro f ⟨s, ⟨⟩⟩ h6 kk ⟨V, i, eq, ef, iV, vk, H6⟩ hkk
  simp only at H6 ⊢
  have vlen := vk.len
  have slen : s.len = V.length - i := by have := (ownO_at H6).1; rw [ints_len, List.length_drop, List.length_map] at this; omega
  unfold paths_Of_l4
  by_cases hi : i < V.length
  case neg =>
    rw [ofQ_end hi] at eq
    rw [eq] at k
    exact pIf_f (by rw [slen]; simp; omega) (fgt_mk (k _ (pk [2] H6 |> fun H => seps_under (fun _ H => seps_tail (seps_tail H)) H)))
  have hd : (V.map (·.1)).drop i = V[i].1 :: (V.map (·.1)).drop (i + 1) := by rw [List.drop_eq_getElem_cons (by simpa using hi)]; simp
  have hv : s.vals 1 h6 (((V.map (·.1)).drop i).flatMap fun y => [Value.int .i64 y]) := by rw [← map_flat]; exact (ownO_at H6).vals
  rw [hd] at hv
  obtain ⟨a, ha, hva⟩ := sl_elem (enc := fun y : Int => [Value.int .i64 y]) (n := 1) (fun _ => rfl) hv (by rw [slen]; simp; omega) (i := 0) (by simp)
  refine pIf_t (by rw [slen]; simp; omega) (pIdx_i (by omega) (by omega) (pSome_i ha (pLd_i (s := .int .i64) V[i].1 (vals_cell1 hva) ?_)))
  have hdir := vk.dirs _ (List.getElem_mem hi)
  have hhas : hasB T V[i].1 = true := by unfold isDir at hdir; simp only [Bool.and_eq_true] at hdir; exact hdir.1
  refine get_s (f2 H6) (fun e => by rw [hhas] at e; cases e) fun _ n' i' h7 H7 => ⟨(encI (T.getD V[i].1.toNat default) n' i', true, ()), rfl, ?_⟩
  intro b10 hb10
  refine pStA_new zc_ilen rfl (oneCells_encI _ _ _) ?_
  have H8 := new_row (cs := encI (T.getD V[i].1.toNat default) n' i') (n := (zc Tryd.prog 25).length) H7 hb10
  generalize h7.set b10 _ = h8 at H8 ⊢
  clear H7 H6 hv hva
  -- b10, n', i', the table, the queue, the map
  simp only [add_mk, Nat.zero_add]
  refine ld_b (s := .slice) (row_at H8) (x := n') rfl ?_
  have hino := ex.ino _ hhas
  obtain ⟨so, il⟩ := v.fine V[i].1.toNat
  have sm := v.small V[i].1.toNat
  have entsd : ents T V[i].1 = (T.getD V[i].1.toNat default).names.zip (T.getD V[i].1.toNat default).inos := rfl
  generalize hx : T.getD V[i].1.toNat default = x at *
  have H9 : seps (ownO 1 s (ints ((V.map (·.1)).drop i)) :: mapP b4 (intE .string V) :: rowP b10 (encI x n' i') (zc Tryd.prog 25).length :: own 1 n' (strs x.names) :: own 1 i' (ints x.inos) :: progP b T :: L) h8 := pk [4, 5, 0, 1, 2, 3] H8
  have ln : n'.len = x.names.length := by have := (own_at (pk [3] H9)).len; rw [strs_len] at this; exact this
  have li : i'.len = x.inos.length := by have := (own_at (pk [4] H9)).len; rw [ints_len] at this; exact this
  have fpos : 0 < f := by omega
  obtain ⟨f', rfl⟩ : ∃ q, f = q + 1 := ⟨f - 1, by omega⟩
  refine pLoop_rule (fun (st : Sl × Int × Unit) h' => 0 ≤ st.2.1 ∧ st.2.1 ≤ x.names.length ∧ (∀ (q : Nat) (e' : ByteArray × Int), q < st.2.1.toNat → (ents T V[i].1)[q]? = some e' → e'.2 ≠ ino) ∧
    ∃ V' : Vs, V' = ((ents T V[i].1).take st.2.1.toNat).foldl (addE T V[i].2) V ∧
    seps (ownO 1 st.1 (ints ((V'.map (·.1)).drop i)) :: mapP b4 (intE .string V') :: rowP b10 (encI x n' i') (zc Tryd.prog 25).length :: own 1 n' (strs x.names) :: own 1 i' (ints x.inos) :: progP b T :: L) h') (fun st => (x.names.length - st.2.1).toNat) ?_ ?_
  rotate_left
  · exact ⟨by show (0 : Int) ≤ 0; omega, by show (0 : Int) ≤ _; omega, fun q e' hq => absurd hq (Nat.not_lt_zero _), V, rfl, H9⟩
  clear H8 H9
  rintro ⟨wt, j, ⟨⟩⟩ h9 k2 ⟨j0, j1, nomatch_, V', eV, H9⟩ hk2
  simp only at j0 j1 nomatch_ eV H9 hk2 ⊢
  have hes : ∀ e ∈ (ents T V[i].1).take j.toNat, e.1.size ≤ 8 := fun e he => isName_size (ents_name ex (List.mem_of_mem_take he))
  obtain ⟨vk', r, hr⟩ := fold_ok ((ents T V[i].1).take j.toNat) vk hi hes
  rw [← eV] at vk' hr
  have hi' : i < V'.length := by rw [hr, List.length_append]; omega
  have eVi : V'[i] = V[i] := by simp only [hr]; rw [List.getElem_append_left hi]
  have vlen' := vk'.len
  unfold paths_Of_l3 pJoin paths_Of_j2
  by_cases hj : j < x.names.length
  · have hjn : j.toNat < x.names.length := by omega
    have hji : j.toNat < x.inos.length := by omega
    have hent : (ents T V[i].1)[j.toNat]? = some (x.names[j.toNat], x.inos[j.toNat]) := by rw [entsd]; exact zip_at hjn hji
    have hnm : isName x.names[j.toNat] = true := ents_name ex (List.mem_of_getElem? hent)
    have hns := isName_size hnm
    have hps := vk'.size i hi'
    rw [eVi] at hps
    obtain ⟨a1, ha1, hc1⟩ := str_at (own_at (pk [3] H9)) hjn
    obtain ⟨a2, ha2, hc2⟩ := int_at (own_at (pk [4] H9)) hji
    have r10 := row_at (pk [2] H9)
    refine pIf_t (by rw [ln]; simpa using hj) (pIdx_i (by omega) (by omega) (pSome_i ha1 (pLd_i (s := .str) _ hc1 ?_)))
    simp only [add_mk, Nat.zero_add]
    refine ld_b (s := .int .i64) r10 (x := x.ino) rfl ?_
    rw [hino]
    have hget : getE V' V[i].1 = some V[i].2 := by have := getE_at vk'.nodup hi'; rw [eVi] at this; exact this
    refine getS_str (map_at (pk [1] H9)) ?_
    rw [hget]
    simp only [Option.getD_some]
    have e47 : (⟨#[47]⟩ : ByteArray) = slash := rfl
    rw [e47]
    have s1 : (V[i].2 ++ slash).size = V[i].2.size + 1 := by rw [ByteArray.size_append]; rfl
    refine pAssert_i (show V[i].2.size + 1 < _ by omega) (pAssert_i (by rw [s1]; omega) ?_)
    refine ld_b (s := .slice) r10 (x := i') rfl (pIdx_i (by omega) (by omega) (pSome_i ha2 (pLd_i (s := .int .i64) _ hc2 ?_)))
    have eun : V[i].2 ++ slash ++ x.names[j.toNat] = under V[i].2 x.names[j.toNat] := rfl
    rw [eun]
    refine pIf_i (fun hm => ?_) (fun hm => ?_)
    · have hm : x.inos[j.toNat] = ino := by simpa using hm
      have hs := srch_hit (ino := ino) (d := V[i]) hent hm nomatch_
      rw [ofQ_hit hi hs] at eq
      rw [eq] at k
      exact fgt_mk (k _ (pk [5] H9 |> fun H => seps_under (fun _ H => seps_tail (seps_tail (seps_tail (seps_tail (seps_tail H))))) H))
    have hm : ¬ x.inos[j.toNat] = ino := by simpa using hm
    refine ld_b (s := .slice) r10 (x := i') rfl (pIdx_i (by omega) (by omega) (pSome_i ha2 (pLd_i (s := .int .i64) _ hc2 ?_)))
    generalize hyy : x.inos[j.toNat] = y at *
    generalize hnn : x.names[j.toNat] = nm at *
    refine get_any (pk [5] H9) fun n3 i3 h10 H10 => ⟨(encI (getI T y) n3 i3, hasB T y, ()), rfl, ?_⟩
    intro b28 hb28
    refine pStA_new zc_ilen rfl (oneCells_encI _ _ _) ?_
    have H11 := new_row (cs := encI (getI T y) n3 i3) (n := (zc Tryd.prog 25).length) H10 hb28
    generalize h10.set b28 _ = h11 at H11 ⊢
    -- b28, the table, the queue, the map, b10, n', i'
    have r28 := row_at H11
    refine ld_b (s := .int .i64) r28 (x := (getI T y).ino) rfl ?_
    refine getS_str (map_at (pk [3] H11)) ?_
    have step : ∀ (wt2 : Sl) (h12 : Heap) (V2 : Vs), V2 = addE T V[i].2 V' (nm, y) → seps (ownO 1 wt2 (ints ((V2.map (·.1)).drop i)) :: mapP b4 (intE .string V2) :: rowP b10 (encI x n' i') (zc Tryd.prog 25).length :: own 1 n' (strs x.names) :: own 1 i' (ints x.inos) :: progP b T :: L) h12 → k2 (wt2, IntKind.i64.wrap (j + 1), ()) h12 := by
      intro wt2 h12 V2 e2 H12
      rw [wrap_small (by omega) (by omega)]
      refine hk2 _ _ ⟨by simp only; omega, by simp only; omega, fun q e' hq hq' => ?_, V2, ?_, H12⟩ (by simp only; omega)
      · simp only at hq
        by_cases c : q = j.toNat
        · subst c
          rw [hent] at hq'
          cases hq'; exact hm
        · exact nomatch_ q e' (by omega) hq'
      · simp only
        rw [show (j + 1).toNat = j.toNat + 1 by omega, foldl_take _ _ hent, ← eV]
        exact e2
    have back : seps (ownO 1 wt (ints ((V'.map (·.1)).drop i)) :: mapP b4 (intE .string V') :: rowP b10 (encI x n' i') (zc Tryd.prog 25).length :: own 1 n' (strs x.names) :: own 1 i' (ints x.inos) :: progP b T :: L) h11 := pk [1, 2, 3, 4, 5, 0] (seps_tail H11)
    -- no new directory
    have no : (isDir T y && (getE V' y).isNone) = false → k2 (wt, IntKind.i64.wrap (j + 1), ()) h11 := fun hn => step wt h11 V' (by unfold addE; rw [if_neg (by simp only; rw [hn]; simp)]) back
    unfold paths_Of_j1
    simp only [add_mk, Nat.zero_add]
    refine ld_b (s := .int .i64) r28 (x := (getI T y).kind) rfl ?_
    refine pIf_i (fun hk => ?_) (fun hk => ?_)
    · have hk : (getI T y).kind = 2 := by simpa using hk
      have hh : hasB T y = true := by
        cases q : hasB T y with
        | true => rfl
        | false => unfold getI at hk; rw [q] at hk; simp at hk
      have hg : getI T y = T.getD y.toNat default := by unfold getI; rw [if_pos hh]
      have hd2 : isDir T y = true := by unfold isDir; rw [hh, ← hg, hk]; rfl
      have hyi : (getI T y).ino = y := by rw [hg]; exact ex.ino y hh
      rw [hyi]
      cases hs : getE V' y with
      | some p =>
        exact pIf_f rfl (no (by rw [hs, hd2]; rfl))
      | none =>
        refine pIf_t rfl (ld_b (s := .int .i64) r28 (x := (getI T y).ino) rfl ?_)
        rw [hyi]
        refine put_str (pk [3, 2, 4, 5, 6, 1, 0] H11) hs fun h12 H12 => ?_
        have r28' := row_at (pk [6] H12)
        refine ld_b (s := .int .i64) r28' (x := (getI T y).ino) rfl ?_
        rw [hyi]
        have hle : ((V'.map (·.1)).drop i).length < 1000000 := by rw [List.length_drop, List.length_map]; omega
        refine app_intO (f1 H12) hle fun s3 h13 H13 => ?_
        refine step s3 h13 (V' ++ [(y, under V[i].2 nm)]) (by unfold addE; rw [if_pos (by simp only; rw [hs, hd2]; rfl)]) ?_
        rw [List.map_append, List.drop_append_of_le_length (by rw [List.length_map]; omega)]
        exact rid 6 H13
    · have hk : ¬ (getI T y).kind = 2 := by simpa using hk
      refine pIf_f rfl (no ?_)
      have : isDir T y = false := by
        unfold isDir
        cases q : hasB T y with
        | false => rfl
        | true =>
          unfold getI at hk; rw [q, if_pos rfl] at hk
          simpa using hk
      rw [this]; rfl
  · have hjl : j.toNat = x.names.length := by omega
    have htk : (ents T V[i].1).take j.toNat = ents T V[i].1 := List.take_of_length_le (by rw [entsd, List.length_zip]; omega)
    rw [htk] at eV
    have wlen : wt.len = V'.length - i := by have := (ownO_at H9).1; rw [ints_len, List.length_drop, List.length_map] at this; omega
    have wcap := (ownO_at H9).2.1
    refine pIf_f (by rw [ln]; simpa using hj) (pAssert_i ⟨by omega, by omega, by omega⟩ ?_)
    have hms : srch T ino V[i] = none := srch_miss fun q e' hq => nomatch_ q e' (by
      have := (List.getElem?_eq_some_iff.1 hq).1
      rw [entsd, List.length_zip] at this; omega) hq
    rw [ofQ_miss hi hms] at eq
    have hd' : (V'.map (·.1)).drop i = V'[i].1 :: (V'.map (·.1)).drop (i + 1) := by rw [List.drop_eq_getElem_cons (by simpa using hi')]; simp
    have H10 : seps (ownO 1 wt (.int .i64 V'[i].1 :: ints ((V'.map (·.1)).drop (i + 1))) :: mapP b4 (intE .string V') :: progP b T :: L) h9 := by
      have := pk [0, 1, 5] H9
      rw [hd'] at this
      exact seps_under (fun _ H => seps_under (fun _ H => seps_under (fun _ H => seps_tail (seps_tail (seps_tail H))) H) H) this
    refine hkk f' _ _ (by omega) ⟨V', i + 1, ?_, by omega, by omega, vk', tail_O H10 ?_⟩
    · rw [eq, eV]; rfl
    · simp only [Int.toNat_natCast, Int.toNat_one, Nat.mul_one]
end Go.Proofs.YtkbcneomjkfheaaDoor

set_option linter.unusedVariables false
set_option linter.unusedSimpArgs false
namespace Go.Proofs.YtkbcneomjkfheaaDoor
open Go.Hl
attribute [local irreducible] loadF zc sizeP bytesP vcBody pInvoke

def nmA : ByteArray := ⟨#[97]⟩
def nmL : ByteArray := ⟨#[108]⟩
def pAB : ByteArray := ⟨#[97, 47, 98]⟩
def pA : ByteArray := ⟨#[47, 97]⟩
def B1 : List Ind := (addF newT 1 420 0 0).1
def B2 : List Ind := (enterF B1 1 nmA 2).1
def B3 : List Ind := (addF B2 3 511 0 0).1
def B4 : List Ind := (enterF B3 1 nmL 3).1
def B5 : List Ind := (writeF B4 3 nmL).1
theorem w1 (t : Nat) : findP B5 ⟨t, 0, 0, true⟩ 1 slash = (⟨1, ⟨#[]⟩, 1⟩, 0) := by kernel_rfl
theorem w2 (t : Nat) : (findP B5 ⟨t, 0, 0, true⟩ 1 pAB).2 = 20 := by kernel_rfl
theorem w3 (t : Nat) : (findP B5 ⟨t, 0, 0, true⟩ 1 nmL).2 = 40 := by kernel_rfl
theorem w4 : strEq (ofF B5 2) pA = true := by kernel_rfl

theorem alive22_s {L : List Pr} {h : Heap} (H : seps L h) {KP K : Value → Pr} (k : ∀ h', seps L h' → K (.bool true) h') : WpCall Tryd.prog 7 #[] KP K h := by
  refine law22_alive_call ?_
  unfold law22_alive
  refine new_s H fun b h1 H => ⟨_, rfl, ?_⟩
  have v0 := prog_inv H; have x0 := newT_ext
  refine add_s H fun h2 H => ⟨((addF newT 1 420 0 0).2.1, (addF newT 1 420 0 0).2.2, ()), rfl, ?_⟩
  have v1 := prog_inv H; have x1 := addF_ext v0 x0 1 420 0 0
  refine enter_s (dir := 1) (ino := 2) (name := nmA) H fun h3 H => ⟨_, rfl, ?_⟩
  have v2 := prog_inv H; have x2 := enterF_ext v1 x1 1 2 nmA
  refine add_s H fun h4 H => ⟨((addF B2 3 511 0 0).2.1, (addF B2 3 511 0 0).2.2, ()), rfl, ?_⟩
  have v3 := prog_inv H; have x3 := addF_ext v2 x2 3 511 0 0
  refine enter_s (dir := 1) (ino := 3) (name := nmL) H fun h5 H => ⟨_, rfl, ?_⟩
  have v4 := prog_inv H; have x4 := enterF_ext v3 x3 1 3 nmL
  refine write_s (ino := 3) (d := nmL) H fun h6 H => ⟨_, rfl, ?_⟩
  have x5 := writeF_ext v4 x4 3 nmL
  have H : seps (progP b B5 :: L) h6 := H
  have x5 : Ext B5 := x5
  refine findP_s (o := ⟨b, 0, 0, true⟩) H x5.data (cwd := 1) (path := slash) fun h7 H => ⟨((findP B5 ⟨b, 0, 0, true⟩ 1 slash).1.enc, (findP B5 ⟨b, 0, 0, true⟩ 1 slash).2, ()), rfl, ?_⟩
  rw [w1]
  intro b8 hb8
  refine pStA_new (by rw [zc_fd]; rfl) rfl (oneCells_fd _) ?_
  have H := new_row (cs := Fd.enc ⟨1, ⟨#[]⟩, 1⟩) (n := (zc Tryd.prog 36).length) H hb8
  generalize h7.set b8 _ = h8 at H ⊢
  refine findP_s (o := ⟨b, 0, 0, true⟩) (f1 H) x5.data (cwd := 1) (path := pAB) fun h9 H => ⟨((findP B5 ⟨b, 0, 0, true⟩ 1 pAB).1.enc, (findP B5 ⟨b, 0, 0, true⟩ 1 pAB).2, ()), rfl, ?_⟩
  intro b10 hb10
  refine pStA_new (by rw [zc_fd]; rfl) rfl (oneCells_fd _) ?_
  have H := seps_new H hb10 (.row (findP B5 ⟨b, 0, 0, true⟩ 1 pAB).1.enc (zc Tryd.prog 36).length)
  generalize h9.set b10 _ = h10 at H ⊢
  refine findP_s (o := ⟨b, 0, 0, true⟩) H x5.data (cwd := 1) (path := nmL) fun h11 H => ⟨((findP B5 ⟨b, 0, 0, true⟩ 1 nmL).1.enc, (findP B5 ⟨b, 0, 0, true⟩ 1 nmL).2, ()), rfl, ?_⟩
  intro b12 hb12
  refine pStA_new (by rw [zc_fd]; rfl) rfl (oneCells_fd _) ?_
  have H := seps_new H hb12 (.row (findP B5 ⟨b, 0, 0, true⟩ 1 nmL).1.enc (zc Tryd.prog 36).length)
  generalize h11.set b12 _ = h12 at H ⊢
  unfold pJoin law22_alive_j1
  dsimp only
  rw [w2, w3]
  refine pIf_t rfl (ldA_all (row_at (f1 H)) rfl ?_)
  have e2 : lay (zc Tryd.prog 36) [(0, (.int .i64 1)), (2, (.int .i64 1))] = Fd.enc ⟨1, ⟨#[]⟩, 1⟩ := lay_fd2 1 1
  rw [e2]
  refine pAssert_i ⟨rfl, rfl⟩ (pIf_t (by kernel_rfl) (pIf_t rfl (pIf_t rfl ?_)))
  refine of_s H x5 (ino := 2) fun h13 H => ⟨_, rfl, ?_⟩
  have e4 : strEq (ofF B5 2) (⟨#[47, 97]⟩ : ByteArray) = true := w4
  dsimp only
  rw [e4]
  exact fgt_mk (k _ (seps_tail (seps_tail H)))
end Go.Proofs.YtkbcneomjkfheaaDoor

set_option linter.unusedVariables false
set_option linter.unusedSimpArgs false
namespace Go.Proofs.YtkbcneomjkfheaaDoor
open Go.Hl
attribute [local irreducible] loadF zc sizeP bytesP vcBody pInvoke

def refBits (x : Ind) (uid gid : Int) : Int :=
  if uid = x.uid then (IntKind.i64.wrap (x.mode.tdiv 64)).tmod 8 else if gid = x.gid then (IntKind.i64.wrap (x.mode.tdiv 8)).tmod 8 else x.mode.tmod 8
def refMayF (x : Ind) (uid gid want : Int) : Bool :=
  if uid = 0 then (want.tmod 2 == 0 || (x.kind == 2 || (x.mode.tmod 2 == 1 || ((IntKind.i64.wrap (x.mode.tdiv 8)).tmod 2 == 1 || (IntKind.i64.wrap (x.mode.tdiv 64)).tmod 2 == 1)))) else bitsV .and .i64 (refBits x uid gid) want == want

def bitB (m : Int) : Bool :=
  (bitsV .and .i64 m 73 != 0) == (m.tmod 2 == 1 || ((IntKind.i64.wrap (m.tdiv 8)).tmod 2 == 1 || (IntKind.i64.wrap (m.tdiv 64)).tmod 2 == 1)) &&
  (bitsV .and .i64 (m.fdiv (2 ^ (min (6 : Int).toNat (IntKind.i64).bits))) 7 == (IntKind.i64.wrap (m.tdiv 64)).tmod 8 &&
  (bitsV .and .i64 (m.fdiv (2 ^ (min (3 : Int).toNat (IntKind.i64).bits))) 7 == (IntKind.i64.wrap (m.tdiv 8)).tmod 8 && bitsV .and .i64 m 7 == m.tmod 8))
theorem bit_all : ∀ a : Fin 64, ∀ b : Fin 64, bitB ((64 * a.val + b.val : Nat) : Int) = true := of_decide_eq_true (by kernel_rfl)
theorem want_all : ∀ w : Fin 8, (bitsV .and .i64 (w.val : Int) 1 == 0) = ((w.val : Int).tmod 2 == 0) := of_decide_eq_true (by kernel_rfl)
theorem may_eq {x : Ind} (hm : 0 ≤ x.mode ∧ x.mode ≤ 4095) {want : Int} (hw : 0 ≤ want ∧ want ≤ 7) (uid gid : Int) : mayF x uid gid want = refMayF x uid gid want := by
  have b := bit_all ⟨x.mode.toNat / 64, by omega⟩ ⟨x.mode.toNat % 64, by omega⟩
  have c := want_all ⟨want.toNat, by omega⟩
  simp only at b c
  rw [show ((64 * (x.mode.toNat / 64) + x.mode.toNat % 64 : Nat) : Int) = x.mode by omega] at b
  rw [show ((want.toNat : Nat) : Int) = want by omega] at c
  unfold bitB at b
  simp only [Bool.and_eq_true, beq_iff_eq] at b
  obtain ⟨b1, b2, b3, b4⟩ := b
  unfold mayF refMayF bitsOf refBits
  split
  · rw [c, b1]
  · congr 2
    split
    · exact b2
    · split
      · exact b3
      · exact b4

theorem refMay_ok {h : Heap} {x : Ind} {n i : Sl} {uid gid want : Int} {KP K : Value → Pr} (k : ∀ h', K (.bool (refMayF x uid gid want)) h') :
    WpCall Tryd.prog 9 #[.agg (encI x n i).toArray, .int .i64 uid, .int .i64 gid, .int .i64 want] KP K h := by
  refine ref22_May_call (encI x n i) uid gid want ?_
  unfold ref22_May
  intro b1 hb1
  have e1 := Heap.set_same h b1 (.row (encI x n i) (encI x n i).length)
  generalize h.set b1 _ = h1 at e1 ⊢
  have fin := fgt_mk (k h1)
  unfold refMayF at fin
  unfold pJoin ref22_May_j2 ref22_May_j1
  simp only [add_mk, Nat.zero_add]
  refine pIf_i (fun h1 => ?_) (fun h1 => ?_)
  · have h1 : uid = 0 := by simpa using h1
    rw [if_pos h1] at fin
    refine pAssert_i (by decide) (pIf_i (fun h2 => ?_) (fun h2 => ?_))
    · rw [h2, Bool.true_or] at fin; exact fin
    rw [h2, Bool.false_or] at fin
    refine ld_b (s := .int .i64) e1 (x := x.kind) rfl (pIf_i (fun h3 => ?_) (fun h3 => ?_))
    · rw [h3, Bool.true_or] at fin; exact fin
    rw [h3, Bool.false_or] at fin
    refine ld_b (s := .int .i64) e1 (x := x.mode) rfl (pAssert_i (by decide) (pIf_i (fun h4 => ?_) (fun h4 => ?_)))
    · rw [h4, Bool.true_or] at fin; exact fin
    rw [h4, Bool.false_or] at fin
    refine ld_b (s := .int .i64) e1 (x := x.mode) rfl (pAssert_i (by decide) (pAssert_i (by decide) (pIf_i (fun h5 => ?_) (fun h5 => ?_))))
    · rw [h5, Bool.true_or] at fin; exact fin
    rw [h5, Bool.false_or] at fin
    exact ld_b (s := .int .i64) e1 (x := x.mode) rfl (pAssert_i (by decide) (pAssert_i (by decide) fin))
  · have h1 : ¬ uid = 0 := by simpa using h1
    rw [if_neg h1] at fin
    unfold refBits at fin
    refine ld_b (s := .int .i64) e1 (x := x.mode) rfl (pAssert_i (by decide) (ld_b (s := .int .i64) e1 (x := x.uid) rfl ?_))
    refine pIf_i (fun h2 => ?_) (fun h2 => ?_)
    · rw [if_pos (by simpa using h2)] at fin
      exact ld_b (s := .int .i64) e1 (x := x.mode) rfl (pAssert_i (by decide) (pAssert_i (by decide) fin))
    · rw [if_neg (by simpa using h2)] at fin
      refine ld_b (s := .int .i64) e1 (x := x.gid) rfl (pIf_i (fun h3 => ?_) (fun h3 => ?_))
      · rw [if_pos (by simpa using h3)] at fin
        exact ld_b (s := .int .i64) e1 (x := x.mode) rfl (pAssert_i (by decide) (pAssert_i (by decide) fin))
      · rw [if_neg (by simpa using h3)] at fin
        exact fin

theorem may_law {h : Heap} (x : Ind) (n i : Sl) (uid gid want : Int) {KP K : Value → Pr} (k : ∀ h', K (.bool true) h') : WpCall Tryd.prog 3 #[.agg (encI x n i).toArray, .int .i64 uid, .int .i64 gid, .int .i64 want] KP K h := by
  refine law22_PathsMay_call (encI x n i) uid gid want ?_
  unfold law22_PathsMay
  intro b1 hb1
  have H := new_row (L := []) (cs := encI x n i) (n := (encI x n i).length) trivial hb1
  generalize h.set b1 _ = h1 at H ⊢
  refine alive22_s H fun h2 H => ⟨true, rfl, pIf_f rfl ?_⟩
  have r := row_at H
  unfold pJoin law22_PathsMay_j1
  simp only [add_mk, Nat.zero_add]
  have tt : pIf true (fgt K (.bool true)) (pLdA 11 ⟨b1, 0, none⟩ fun x8 => pLdA 11 ⟨b1, 0, none⟩ fun x9 => pCall Tryd.prog 8 [(.agg x8.toArray), (.int .i64 uid), (.int .i64 gid), (.int .i64 want)] (fgt KP) (.one .bool) fun (r10 : Bool) => pKeep (loadF Tryd.prog 25 (.pointer (some ⟨b1, 0, none⟩)) (.agg x9.toArray)) <| pCall Tryd.prog 9 [(.agg x9.toArray), (.int .i64 uid), (.int .i64 gid), (.int .i64 want)] (fgt KP) (.one .bool) fun (r11 : Bool) => fgt K (.bool (r10 == r11))) h2 := pIf_t rfl (fgt_mk (k _))
  refine ld_b (s := .slice) r (x := n) rfl (pIf_i (fun _ => tt) (fun _ => ?_))
  refine ld_b (s := .int .i64) r (x := x.mode) rfl (pIf_i (fun _ => tt) (fun h1 => ?_))
  refine ld_b (s := .int .i64) r (x := x.mode) rfl (pIf_i (fun _ => tt) (fun h2 => ?_))
  refine pIf_i (fun _ => tt) (fun h3 => ?_)
  refine pIf_i (fun h4 => ?_) (fun h4 => ?_)
  · exact fgt_mk (k _)
  · have hm : 0 ≤ x.mode ∧ x.mode ≤ 4095 := by have := of_decide_eq_false h1; have := of_decide_eq_false h2; omega
    have hw : 0 ≤ want ∧ want ≤ 7 := by have := of_decide_eq_false h3; have := of_decide_eq_false h4; omega
    refine ldA_all r rfl (ldA_all r rfl ?_)
    refine may_ok fun h3 le => ⟨_, rfl, pKeep_i ?_ (refMay_ok fun h4 => ⟨_, rfl, ?_⟩)⟩
    · refine loadF_vals (by kernel_rfl) (n := 11) (by kernel_rfl) ?_
      rw [vals_row (le _ _ r)]; exact cut_all' rfl
    · rw [may_eq hm hw]
      simp only [beq_self_eq_true]
      exact fgt_mk (k _)
end Go.Proofs.YtkbcneomjkfheaaDoor

set_option linter.unusedVariables false
set_option linter.unusedSimpArgs false
namespace Go.Proofs.YtkbcneomjkfheaaDoor
open Go.Hl
attribute [local irreducible] loadF zc sizeP bytesP vcBody pInvoke

def letters : ByteArray := ⟨#[97, 98, 99, 100, 101, 102, 103, 104]⟩
def nmI (i : Nat) : ByteArray := letters.extract i (i + 1)
def nmD : ByteArray := ⟨#[100]⟩
def nmZ : ByteArray := ⟨#[122]⟩
def pZ : ByteArray := ⟨#[47, 122]⟩
def L1 : List Ind := (addF newT 2 493 0 0).1
def L2 : List Ind := (enterF L1 1 nmD 2).1
def L3 : List Ind := (addF L2 1 420 0 0).1
def L4 : List Ind := (enterF L3 2 nmA 3).1
/-- A chain of links. -/
def Ck (i : Nat) (T : List Ind) : Int := (addF T 3 511 0 0).2.1
def C : Nat → List Ind
  | 0 => L4
  | i + 1 => (writeF (enterF (addF (C i) 3 511 0 0).1 2 (nmI (i + 1)) (Ck i (C i))).1 (Ck i (C i)) (nmI i)).1
def cB (i : Nat) : Bool := (addF (C i) 3 511 0 0).2.2 == 0 && ((enterF (addF (C i) 3 511 0 0).1 2 (nmI (i + 1)) (Ck i (C i))).2 == 0 && (writeF (enterF (addF (C i) 3 511 0 0).1 2 (nmI (i + 1)) (Ck i (C i))).1 (Ck i (C i)) (nmI i)).2 == 0)
theorem c_all : ∀ i : Fin 7, cB i.val = true := of_decide_eq_true (by kernel_rfl)
/-- One that leads to itself. -/
def D1 (m : Nat) : List Ind := (addF (C m) 3 511 0 0).1
def D2 (m : Nat) : List Ind := (enterF (D1 m) 1 nmZ (Ck m (C m))).1
def D3 (m : Nat) : List Ind := (writeF (D2 m) (Ck m (C m)) pZ).1
def eB (t m : Nat) : Bool :=
  let r := findP (C m) ⟨t, 0, 0, true⟩ 2 (nmI m)
  let s := findP (C m) ⟨t, 0, 0, false⟩ 2 (nmI m)
  r.2 == 0 && (r.1.dir == 2 && (strEq r.1.name nmA && (r.1.ino == 3 && (s.2 == 0 && (s.1.ino == 3 + m && (findP (D3 m) ⟨t, 0, 0, true⟩ 2 pZ).2 == 40)))))
theorem e_all (t : Nat) : ∀ m : Fin 8, eB t m.val = true := of_decide_eq_true (by kernel_rfl)

theorem links_law22 {h : Heap} (n : Int) (hn : 0 ≤ n ∧ n ≤ 255) {KP K : Value → Pr} (k : ∀ h', K (.bool true) h') : WpCall Tryd.prog 4 #[.int .u8 n] KP K h := by
  refine law22_PathsLinks_call n ?_
  unfold law22_PathsLinks
  refine alive22_s (L := []) trivial fun h1 H => ⟨true, rfl, pIf_f rfl (pAssert_i (by decide) ?_)⟩
  refine new_s H fun b h2 H => ⟨_, rfl, ?_⟩
  have v0 := prog_inv H; have x0 := newT_ext
  refine add_s H fun h3 H => ⟨((addF newT 2 493 0 0).2.1, (addF newT 2 493 0 0).2.2, ()), rfl, ?_⟩
  have v1 := prog_inv H; have x1 := addF_ext v0 x0 2 493 0 0
  refine enter_s (dir := 1) (ino := 2) (name := nmD) H fun h4 H => ⟨_, rfl, ?_⟩
  have v2 := prog_inv H; have x2 := enterF_ext v1 x1 1 2 nmD
  refine add_s H fun h5 H => ⟨((addF L2 1 420 0 0).2.1, (addF L2 1 420 0 0).2.2, ()), rfl, ?_⟩
  have v3 := prog_inv H; have x3 := addF_ext v2 x2 1 420 0 0
  refine enter_s (dir := 2) (ino := 3) (name := nmA) H fun h6 H => ⟨_, rfl, ?_⟩
  have x4 := enterF_ext v3 x3 2 3 nmA
  have H : seps [progP b L4] h6 := H
  have x4 : Ext L4 := x4
  have em : IntKind.i64.wrap (n.tmod 8) = n % 8 := by
    rw [show n.tmod 8 = n % 8 from Int.tmod_eq_emod_of_nonneg hn.1, wrap_small (by omega) (by omega)]
  obtain ⟨m, hm, hm8⟩ : ∃ m : Nat, n % 8 = m ∧ m < 8 := ⟨(n % 8).toNat, by omega, by omega⟩
  refine pLoop_rule (fun (s : Int × Unit) h' => 1 ≤ s.1 ∧ s.1 ≤ m + 1 ∧ Ext (C (s.1 - 1).toNat) ∧ seps [progP b (C (s.1 - 1).toNat)] h') (fun s => (m + 1 - s.1).toNat) ?_ ⟨by show (1 : Int) ≤ 1; omega, by show (1 : Int) ≤ _; omega, x4, H⟩
  clear H v0 x0 v1 x1 v2 x2 v3 x3 x4
  rintro ⟨i, ⟨⟩⟩ h7 kk ⟨i0, i1, x, H⟩ hk
  simp only at i0 i1 x H hk ⊢
  unfold law22_PathsLinks_l4 pJoin
  rw [em, hm]
  have v := prog_inv H
  by_cases hi : i ≤ m
  · refine pIf_t (by simpa using hi) ?_
    unfold law22_PathsLinks_j3 pJoin law22_PathsLinks_j1
    rw [decide_eq_true (by omega : i < 8)]
    refine pIf_t rfl ?_
    obtain ⟨j, rfl⟩ : ∃ j : Nat, i = j + 1 := ⟨(i - 1).toNat, by omega⟩
    have ej : ((j : Int) + 1 - 1).toNat = j := by omega
    rw [ej] at x H v
    have cf := c_all ⟨j, by omega⟩
    unfold cB at cf
    simp only [Bool.and_eq_true, beq_iff_eq] at cf
    obtain ⟨c1, c2, c3⟩ := cf
    refine add_s H fun h8 H => ⟨((addF (C j) 3 511 0 0).2.1, (addF (C j) 3 511 0 0).2.2, ()), rfl, ?_⟩
    have v1 := prog_inv H; have x1 := addF_ext v x 3 511 0 0
    rw [c1]
    have w1 : IntKind.i64.wrap ((j : Int) + 1 + 1) = (j : Int) + 2 := by rw [wrap_small (by omega) (by omega)]; omega
    have w2 : IntKind.i64.wrap ((j : Int) + 1 - 1) = (j : Int) := by rw [wrap_small (by omega) (by omega)]; omega
    have e8 : ((⟨#[97, 98, 99, 100, 101, 102, 103, 104]⟩ : ByteArray).size : Int) = 8 := rfl
    have n1 : (⟨#[97, 98, 99, 100, 101, 102, 103, 104]⟩ : ByteArray).extract ((j : Int) + 1).toNat ((j : Int) + 2).toNat = nmI (j + 1) := by unfold nmI letters; rw [show ((j : Int) + 1).toNat = j + 1 by omega, show ((j : Int) + 2).toNat = j + 1 + 1 by omega]
    have n2 : (⟨#[97, 98, 99, 100, 101, 102, 103, 104]⟩ : ByteArray).extract ((j : Int)).toNat ((j : Int) + 1).toNat = nmI j := by unfold nmI letters; rw [show ((j : Int)).toNat = j by omega, show ((j : Int) + 1).toNat = j + 1 by omega]
    rw [w1, w2, n1, n2, e8]
    refine pIf_f rfl (pAssert_i ⟨by omega, by omega, by omega⟩ ?_)
    refine enter_s (dir := 2) (ino := Ck j (C j)) (name := nmI (j + 1)) H fun h9 H => ⟨_, rfl, ?_⟩
    have v2 := prog_inv H; have x2 := enterF_ext v1 x1 2 (Ck j (C j)) (nmI (j + 1))
    rw [c2]
    refine pIf_f rfl (pAssert_i ⟨by omega, by omega, by omega⟩ ?_)
    refine write_s (ino := Ck j (C j)) (d := nmI j) H fun h10 H => ⟨_, rfl, ?_⟩
    have x3 := writeF_ext v2 x2 (Ck j (C j)) (nmI j)
    rw [c3]
    refine pIf_f rfl (hk _ _ ⟨by simp only; omega, by simp only; omega, ?_, ?_⟩ (by simp only; omega))
    · simp only; rw [show ((j : Int) + 2 - 1).toNat = j + 1 by omega]; exact x3
    · simp only; rw [show ((j : Int) + 2 - 1).toNat = j + 1 by omega]; exact H
  · have : i = m + 1 := by omega
    subst this
    have ej : ((m : Int) + 1 - 1).toNat = m := by omega
    rw [ej] at x H v
    refine pIf_f (by simp; omega) ?_
    unfold law22_PathsLinks_j3 pJoin law22_PathsLinks_j2
    rw [em, hm]
    have w1 : IntKind.i64.wrap ((m : Int) + 1) = (m : Int) + 1 := by rw [wrap_small (by omega) (by omega)]
    have w3 : IntKind.i64.wrap (3 + (m : Int)) = 3 + (m : Int) := by rw [wrap_small (by omega) (by omega)]
    have e8 : ((⟨#[97, 98, 99, 100, 101, 102, 103, 104]⟩ : ByteArray).size : Int) = 8 := rfl
    have n1 : (⟨#[97, 98, 99, 100, 101, 102, 103, 104]⟩ : ByteArray).extract ((m : Int)).toNat ((m : Int) + 1).toNat = nmI m := by unfold nmI letters; rw [show ((m : Int)).toNat = m by omega, show ((m : Int) + 1).toNat = m + 1 by omega]
    rw [w1, w3, n1, e8]
    have ef := e_all b ⟨m, hm8⟩
    unfold eB at ef
    simp only [Bool.and_eq_true, beq_iff_eq] at ef
    obtain ⟨e1, e2, e3, e4, e5, e6, e7⟩ := ef
    refine pIf_f rfl (pAssert_i ⟨by omega, by omega, by omega⟩ ?_)
    refine findP_s (o := ⟨b, 0, 0, true⟩) H x.data (cwd := 2) (path := nmI m) fun h8 H => ⟨((findP (C m) ⟨b, 0, 0, true⟩ 2 (nmI m)).1.enc, (findP (C m) ⟨b, 0, 0, true⟩ 2 (nmI m)).2, ()), rfl, ?_⟩
    intro b17 hb17
    refine pStA_new (by rw [zc_fd]; rfl) rfl (oneCells_fd _) ?_
    have H := new_row (cs := (findP (C m) ⟨b, 0, 0, true⟩ 2 (nmI m)).1.enc) (n := (zc Tryd.prog 36).length) H hb17
    generalize h8.set b17 _ = h9 at H ⊢
    refine pAssert_i ⟨by omega, by omega, by omega⟩ ?_
    refine findP_s (o := ⟨b, 0, 0, false⟩) (f1 H) x.data (cwd := 2) (path := nmI m) fun h10 H => ⟨((findP (C m) ⟨b, 0, 0, false⟩ 2 (nmI m)).1.enc, (findP (C m) ⟨b, 0, 0, false⟩ 2 (nmI m)).2, ()), rfl, ?_⟩
    intro b19 hb19
    refine pStA_new (by rw [zc_fd]; rfl) rfl (oneCells_fd _) ?_
    have H := new_row (cs := (findP (C m) ⟨b, 0, 0, false⟩ 2 (nmI m)).1.enc) (n := (zc Tryd.prog 36).length) H hb19
    generalize h10.set b19 _ = h11 at H ⊢
    refine add_s (f1 H) fun h12 H => ⟨((addF (C m) 3 511 0 0).2.1, (addF (C m) 3 511 0 0).2.2, ()), rfl, ?_⟩
    have v1 := prog_inv H; have x1 := addF_ext v x 3 511 0 0
    refine enter_s (dir := 1) (ino := Ck m (C m)) (name := nmZ) H fun h13 H => ⟨_, rfl, ?_⟩
    have v2 := prog_inv H; have x2 := enterF_ext v1 x1 1 (Ck m (C m)) nmZ
    refine write_s (ino := Ck m (C m)) (d := pZ) H fun h14 H => ⟨_, rfl, ?_⟩
    have x3 := writeF_ext v2 x2 (Ck m (C m)) pZ
    have H : seps (progP b (D3 m) :: _) h14 := H
    have x3 : Ext (D3 m) := x3
    refine findP_s (o := ⟨b, 0, 0, true⟩) H x3.data (cwd := 2) (path := pZ) fun h15 H => ⟨((findP (D3 m) ⟨b, 0, 0, true⟩ 2 pZ).1.enc, (findP (D3 m) ⟨b, 0, 0, true⟩ 2 pZ).2, ()), rfl, ?_⟩
    intro b24 hb24
    refine pStA_new (by rw [zc_fd]; rfl) rfl (oneCells_fd _) ?_
    have H := seps_new H hb24 (.row (findP (D3 m) ⟨b, 0, 0, true⟩ 2 pZ).1.enc (zc Tryd.prog 36).length)
    generalize h15.set b24 _ = h16 at H ⊢
    have e3' : (findP (C m) ⟨b, 0, 0, true⟩ 2 (nmI m)).1.name = nmA := strEq_iff.1 e3
    have eF : (findP (C m) ⟨b, 0, 0, true⟩ 2 (nmI m)).1.enc = Fd.enc ⟨2, nmA, 3⟩ := by unfold Fd.enc; rw [e2, e3', e4]
    have el : lay (zc Tryd.prog 36) [(0, (.int .i64 2)), (1, (.string (⟨#[97]⟩ : ByteArray))), (2, (.int .i64 3))] = Fd.enc ⟨2, nmA, 3⟩ := lay_fd3 2 3 nmA
    refine pIf_t (by simpa using e1) (ldA_all (row_at (pk [2] H)) rfl ?_)
    rw [eF, el]
    refine pAssert_i ⟨rfl, rfl⟩ (pIf_t (by kernel_rfl) (pIf_t (by simpa using e5) ?_))
    simp only [add_mk, Nat.zero_add]
    refine ld_b (s := .int .i64) (row_at (pk [1] H)) (x := (findP (C m) ⟨b, 0, 0, false⟩ 2 (nmI m)).1.ino) rfl ?_
    refine pIf_t (by rw [e6]; simp) ?_
    rw [e7]
    exact fgt_mk (k _)
end Go.Proofs.YtkbcneomjkfheaaDoor

set_option linter.unusedVariables false
set_option linter.unusedSimpArgs false
namespace Go.Proofs.YtkbcneomjkfheaaDoor
open Go.Hl
attribute [local irreducible] loadF zc sizeP bytesP vcBody pInvoke

/-! What is found by an inode's path. -/
/-- A path's bytes. -/
def jn (ms : List ByteArray) : List UInt8 := ms.flatMap fun n => 47 :: by' n
theorem no_sep {n : ByteArray} (h : isName n = true) : 47 ∉ by' n ∧ 0 ∉ by' n := by
  unfold isName at h
  simp only [Bool.and_eq_true, Bool.not_eq_true'] at h
  have hs := h.2
  have key : ∀ c : UInt8, (c = 47 ∨ c = 0) → c ∉ by' n := by
    intro c hc hm
    have : hasSep n = true := by
      obtain ⟨j, hj, he⟩ := List.getElem_of_mem hm
      rw [by_len] at hj
      rw [hasSep_iff]
      refine ⟨j, hj, ?_⟩
      have e : byteAt n (j : Int) = (c.toNat : Int) := by
        unfold byteAt
        rw [Int.toNat_natCast]
        have : n[j]? = some c := by
          rw [getElem?_pos n j hj, ← he]; rfl
        rw [this]; rfl
      unfold sepB
      rw [e]
      rcases hc with rfl | rfl <;> rfl
    rw [this] at hs; cases hs
  exact ⟨key 47 (.inl rfl), key 0 (.inr rfl)⟩
theorem name_full {n : ByteArray} (h : isName n = true) : full n = true := by
  unfold isName at h
  simp only [Bool.and_eq_true] at h
  unfold full; exact h.1.1.1.1
theorem splitL_cons {c : UInt8} : ∀ {a : List UInt8} (r : List UInt8), c ∉ a → splitL c (a ++ c :: r) = a :: splitL c r
  | [], r, _ => by rw [List.nil_append, splitL]; simp
  | b :: a, r, h => by
    have hb : (b == c) = false := by simp only [beq_eq_false_iff_ne]; intro e; exact h (by rw [e]; exact List.mem_cons_self ..)
    have ih := splitL_cons (a := a) r fun hm => h (List.mem_cons_of_mem _ hm)
    rw [List.cons_append, splitL, hb, ih]
    rfl
theorem splitL_one {c : UInt8} : ∀ {a : List UInt8}, c ∉ a → splitL c a = [a]
  | [], _ => rfl
  | b :: a, h => by
    have hb : (b == c) = false := by simp only [beq_eq_false_iff_ne]; intro e; exact h (by rw [e]; exact List.mem_cons_self ..)
    rw [splitL, hb, splitL_one fun hm => h (List.mem_cons_of_mem _ hm)]
    rfl
theorem splitL_jn : ∀ {ms : List ByteArray} {a : List UInt8}, 47 ∉ a → (∀ n ∈ ms, isName n = true) → splitL 47 (a ++ jn ms) = a :: ms.map by'
  | [], a, ha, _ => by rw [jn, List.flatMap_nil, List.append_nil]; exact splitL_one ha
  | n :: ms, a, ha, hn => by
    have e : jn (n :: ms) = 47 :: (by' n ++ jn ms) := by simp [jn]
    rw [e, splitL_cons _ ha, splitL_jn (no_sep (hn n (List.mem_cons_self ..))).1 fun x hx => hn x (List.mem_cons_of_mem _ hx)]
    rfl
theorem names_jn {s : ByteArray} {ms : List ByteArray} (hs : by' s = jn ms) (hn : ∀ n ∈ ms, isName n = true) : namesF s = ms := by
  unfold namesF
  have := splitL_jn (a := []) (ms := ms) (by simp) hn
  rw [List.nil_append] at this
  rw [hs, this, List.map_cons, List.filter_cons]
  have h0 : full (bs []) = false := by unfold full; rw [strEq_by]; rfl
  rw [h0, List.map_map]
  have h1 : ms.map (bs ∘ by') = ms := by
    conv => rhs; rw [← List.map_id ms]
    exact List.map_congr_left fun n _ => bs_by n
  rw [h1]
  simp only [Bool.false_eq_true, if_false]
  exact List.filter_eq_self.2 fun n h => name_full (hn n h)

inductive Chain (T : List Ind) : Int → List ByteArray → Int → Prop
  | last {d y : Int} {n : ByteArray} (hd : isDir T d = true) (he : (n, y) ∈ ents T d) : Chain T d [n] y
  | more {d d' y : Int} {n : ByteArray} {ms : List ByteArray} (hd : isDir T d = true) (he : (n, d') ∈ ents T d) (c : Chain T d' ms y) : Chain T d (n :: ms) y
theorem Chain.names {T : List Ind} (x : Ext T) {d y : Int} {ms : List ByteArray} (c : Chain T d ms y) : ∀ n ∈ ms, isName n = true := by
  induction c with
  | last hd he => intro n hn; rw [List.mem_singleton.1 hn]; exact ents_name x he
  | more hd he c ih =>
    intro n hn
    rcases List.mem_cons.1 hn with rfl | hn
    · exact ents_name x he
    · exact ih n hn
theorem Chain.ne {T : List Ind} {d y : Int} {ms : List ByteArray} (c : Chain T d ms y) : ms ≠ [] := by cases c <;> simp
theorem Chain.dir {T : List Ind} {d y : Int} {ms : List ByteArray} (c : Chain T d ms y) : isDir T d = true := by cases c <;> assumption

theorem find_ent {T : List Ind} (v : Inv T) {d y : Int} {n : ByteArray} (hd : isDir T d = true) (he : (n, y) ∈ ents T d) : (findF T d n).getD 0 = y := by
  unfold isDir at hd
  simp only [Bool.and_eq_true, beq_iff_eq] at hd
  obtain ⟨j, hj, e⟩ := List.getElem_of_mem he
  unfold ents at hj e
  rw [List.length_zip] at hj
  have h1 : j < (T.getD d.toNat default).names.length := by omega
  have h2 : j < (T.getD d.toNat default).inos.length := by omega
  rw [List.getElem_zip] at e
  simp only [Prod.mk.injEq] at e
  obtain ⟨p1, p2⟩ := pos_of (v.fine d.toNat).1 h1 (t := n) (by rw [e.1]; exact strEq_self n)
  unfold findF
  simp only [hd.1, hd.2, if_true, p2, p1]
  rw [Option.getD_some, getD_lt h2]; exact e.2
theorem name_plain {n : ByteArray} (h : isName n = true) : ¬ (strEq n dot || strEq n dots) = true ∧ ¬ n.size > 8 := by
  refine ⟨?_, by have := isName_size h; omega⟩
  unfold isName at h
  simp only [Bool.and_eq_true, Bool.not_eq_true'] at h
  have h1 : strEq n dot = false := h.1.1.2
  have h2 : strEq n dots = false := h.1.2
  rw [h1, h2]; simp
theorem chain_find {T : List Ind} (v : Inv T) (x : Ext T) (t : Nat) {d y : Int} {ms : List ByteArray} (c : Chain T d ms y) (hy : hasB T y = true) : ∀ k, ∃ f, loopF T ⟨t, 0, 0, false⟩ (ms.length + k) ⟨d, ms, false, 0⟩ = (f, 0) ∧ f.ino = y := by
  have st : ∀ {d y : Int} {n : ByteArray} (rest : List ByteArray), isDir T d = true → (n, y) ∈ ents T d → stepF T ⟨t, 0, 0, false⟩ ⟨d, n :: rest, false, 0⟩ = stepN T ⟨t, 0, 0, false⟩ ⟨d, rest, false, 0⟩ (getI T d) n (decide (rest.length + 1 = 1)) := by
    intro d y n rest hd he
    unfold isDir at hd
    simp only [Bool.and_eq_true, beq_iff_eq] at hd
    have hg : getI T d = T.getD d.toNat default := by unfold getI; rw [if_pos hd.1]
    unfold stepF
    rw [if_neg (by rw [hd.1, hg, hd.2]; simp)]
    have hm : mayF (getI T d) 0 0 1 = true := by unfold mayF; rw [if_pos rfl, hg, hd.2]; simp
    rw [if_neg (by rw [hm]; simp)]
    rfl
  induction c with
  | @last d y n hd he =>
    intro k
    have s1 := st [] hd he
    obtain ⟨p1, p2⟩ := name_plain (ents_name x he)
    have hg : getI T y = T.getD y.toNat default := by unfold getI; rw [if_pos hy]
    have s2 : stepN T ⟨t, 0, 0, false⟩ ⟨d, [], false, 0⟩ (getI T d) n true = (⟨d, [], false, 0⟩, ⟨d, n, y⟩, true, 0) := by
      unfold stepN
      rw [if_neg p1, if_neg p2, find_ent v hd he]
      dsimp only
      rw [if_neg (by simp), if_pos rfl]
      unfold lastF
      rw [if_neg (by simp), if_neg (by simp), hg, x.ino y hy]
    refine ⟨⟨d, n, y⟩, ?_, rfl⟩
    rw [show [n].length + k = k + 1 by simp; omega, loopF_succ, if_neg (by simp), s1]
    have : decide (([] : List ByteArray).length + 1 = 1) = true := rfl
    rw [this, s2]
    rfl
  | @more d d' y n ms hd he c ih =>
    intro k
    obtain ⟨f, hf, hfy⟩ := ih hy k
    refine ⟨f, ?_, hfy⟩
    have s1 := st ms hd he
    obtain ⟨p1, p2⟩ := name_plain (ents_name x he)
    have hd' := c.dir
    unfold isDir at hd'
    simp only [Bool.and_eq_true, beq_iff_eq] at hd'
    have hg : getI T d' = T.getD d'.toNat default := by unfold getI; rw [if_pos hd'.1]
    have hi := x.ino d' hd'.1
    have hr := hasB_range hd'.1
    have hl : decide (ms.length + 1 = 1) = false := by
      have := List.length_pos_iff.2 c.ne
      rw [decide_eq_false_iff_not]; omega
    have s2 : stepN T ⟨t, 0, 0, false⟩ ⟨d, ms, false, 0⟩ (getI T d) n false = (⟨d', ms, false, 0⟩, {}, false, 0) := by
      unfold stepN
      rw [if_neg p1, if_neg p2, find_ent v hd he]
      dsimp only
      rw [hg, hd'.2]
      rw [if_neg (by simp), if_neg (by simp), hi, if_neg (by omega), if_neg (by simp)]
    rw [show (n :: ms).length + k = (ms.length + k) + 1 by simp; omega, loopF_succ, if_neg (by simp), s1, hl, s2]
    exact hf

/-- The directories that were seen, with their ways. -/
def Ways (T : List Ind) (V : Vs) : Prop := ∀ d ∈ V, ∃ ns, by' d.2 = jn ns ∧ ∀ rest y, Chain T d.1 rest y → Chain T 1 (ns ++ rest) y
theorem jn_under (p n : ByteArray) {ns : List ByteArray} (h : by' p = jn ns) : by' (under p n) = jn (ns ++ [n]) := by
  have : by' (under p n) = by' p ++ (47 :: by' n) := by
    unfold under by'
    simp [slash, one]
  rw [this, h]; simp [jn]
theorem ways_fold {T : List Ind} {p : ByteArray} {d : Int} {ns : List ByteArray} (hd : isDir T d = true) (hp : by' p = jn ns) (hc : ∀ rest y, Chain T d rest y → Chain T 1 (ns ++ rest) y) : ∀ (es : List (ByteArray × Int)) {V : Vs}, (∀ e ∈ es, e ∈ ents T d) → Ways T V → Ways T (es.foldl (addE T p) V)
  | [], V, _, w => w
  | e :: es, V, he, w => by
    rw [List.foldl_cons]
    refine ways_fold hd hp hc es (fun x hx => he x (List.mem_cons_of_mem _ hx)) fun q hq => ?_
    unfold addE at hq
    split at hq
    · rcases List.mem_append.1 hq with h1 | h1
      · exact w q h1
      · rw [List.mem_singleton.1 h1]
        refine ⟨ns ++ [e.1], jn_under p e.1 hp, fun rest y c => ?_⟩
        rw [List.append_assoc]
        exact hc _ _ (.more hd (he e (List.mem_cons_self ..)) c)
    · exact w q hq
theorem ofQ_chain {T : List Ind} (x : Ext T) {ino : Int} : ∀ (f : Nat) {V : Vs} {i : Nat}, VOk T V → Ways T V → ofQ T ino f V i ≠ ⟨#[]⟩ → ∃ ms, by' (ofQ T ino f V i) = jn ms ∧ Chain T 1 ms ino
  | 0, V, i, _, _, h => absurd rfl h
  | f + 1, V, i, vk, w, h => by
    by_cases hi : i < V.length
    case neg => rw [ofQ_end hi] at h; exact absurd rfl h
    have hdir := vk.dirs _ (List.getElem_mem hi)
    obtain ⟨ns, h1, h2⟩ := w _ (List.getElem_mem hi)
    cases hs : srch T ino V[i] with
    | some s =>
      rw [ofQ_hit hi hs] at h ⊢
      unfold srch at hs
      obtain ⟨e, he, hse⟩ := List.exists_of_findSome?_eq_some hs
      split at hse
      · rename_i hie
        have hie : e.2 = ino := by simpa using hie
        cases hse
        exact ⟨ns ++ [e.1], jn_under _ _ h1, h2 _ _ (.last hdir (by rw [← hie]; exact he))⟩
      · cases hse
    | none =>
      rw [ofQ_miss hi hs] at h ⊢
      exact ofQ_chain x f (expd_ok x vk hi).1 (ways_fold hdir h1 h2 _ (fun e he => he) w) h
theorem back_ok {T : List Ind} (v : Inv T) (x : Ext T) (t : Nat) {ino : Int} {s : ByteArray} (hs : ofF T ino = s) (hne : s ≠ ⟨#[]⟩) (hl : s.size ≤ 64) : ∃ f, findP T ⟨t, 0, 0, false⟩ 1 s = (f, 0) ∧ f.ino = ino := by
  unfold ofF at hs
  by_cases hb : hasB T ino = true
  case neg => rw [if_neg hb] at hs; exact absurd hs.symm hne
  rw [if_pos hb] at hs
  have hroot : isDir T 1 = true := by
    have := v.root
    unfold isDir hasB
    rw [show (1 : Int).toNat = 1 from rfl, this]; rfl
  have hr := hroot
  unfold isDir at hr
  simp only [Bool.and_eq_true, beq_iff_eq] at hr
  have hg : getI T 1 = T.getD (1 : Int).toNat default := by unfold getI; rw [if_pos hr.1]
  have hz : ¬ (!hasB T 1 || (getI T 1).kind != 2) = true := by rw [hr.1, hg, hr.2]; simp
  by_cases h1 : ino = 1
  · rw [if_pos h1] at hs
    subst hs h1
    unfold findP
    rw [if_neg (by rw [strEq_by]; decide), if_neg (by decide), if_neg (by decide)]
    have ei : intoF ⟨1, [], false, 0⟩ slash = ⟨1, [], true, 0⟩ := by kernel_rfl
    dsimp only
    rw [ei, if_neg hz]
    exact ⟨⟨1, ⟨#[]⟩, 1⟩, rfl, rfl⟩
  rw [if_neg h1] at hs
  have w0 : Ways T [(1, ⟨#[]⟩)] := fun d hd => by
    rw [List.mem_singleton.1 hd]
    exact ⟨[], rfl, fun rest y c => c⟩
  obtain ⟨ms, hj, c⟩ := ofQ_chain x 25 (first_ok v) w0 (by rw [hs]; exact hne)
  rw [hs] at hj
  have hn := c.names x
  have hnm := names_jn hj hn
  have hbl := by_len s
  -- its bytes
  obtain ⟨n0, r0, hms⟩ : ∃ n r, ms = n :: r := by
    cases ms with
    | nil => exact absurd rfl c.ne
    | cons n r => exact ⟨n, r, rfl⟩
  have hhead : (by' s).head? = some 47 := by rw [hj, hms]; simp [jn]
  obtain ⟨r1, n1, hms2⟩ : ∃ r n, ms = r ++ [n] := by
    rcases List.eq_nil_or_concat ms with e | ⟨r, n, e⟩
    · exact absurd e c.ne
    · exact ⟨r, n, by rw [e]; simp⟩
  have hlast : ((by' s).getLast? == some 47) = false := by
    have hn1 := hn n1 (by rw [hms2]; simp)
    have e : by' s = (jn r1 ++ [47]) ++ by' n1 := by rw [hj, hms2]; simp [jn]
    have hfull := name_full hn1
    unfold full at hfull
    rw [strEq_by] at hfull
    rw [e, List.getLast?_append]
    cases hl1 : (by' n1).getLast? with
    | none =>
      rw [List.getLast?_eq_none_iff] at hl1
      rw [hl1] at hfull; simp at hfull
      exact absurd rfl hfull
    | some z =>
      have hz1 : z ∈ by' n1 := List.mem_of_getLast? hl1
      have : z ≠ 47 := fun e => (no_sep hn1).1 (by rw [← e]; exact hz1)
      simp [this]
  have hzero : ¬ (by' s).contains 0 = true := by
    rw [List.contains_iff_mem, hj]
    intro hm
    unfold jn at hm
    rw [List.mem_flatMap] at hm
    obtain ⟨n, hnm', hz0⟩ := hm
    rcases List.mem_cons.1 hz0 with e | e
    · cases e
    · exact (no_sep (hn n hnm')).2 e
  have hlen : ms.length ≤ 64 := by
    have key : ∀ l : List ByteArray, l.length ≤ (jn l).length := by
      intro l
      induction l with
      | nil => simp
      | cons a l ih => simp only [jn, List.flatMap_cons, List.length_append, List.length_cons] at ih ⊢; omega
    have := key ms
    rw [← hj, hbl] at this; omega
  unfold findP
  rw [if_neg (by rw [strEq_iff]; exact hne), if_neg (by omega), if_neg hzero]
  have ei : intoF ⟨1, [], false, 0⟩ s = ⟨1, ms, false, 0⟩ := by
    unfold intoF
    rw [hnm, hlast, hhead]; simp
  dsimp only
  rw [ei, if_neg hz]
  have := chain_find v x t c hb (400 - ms.length)
  rw [show ms.length + (400 - ms.length) = 400 by omega] at this
  exact this
end Go.Proofs.YtkbcneomjkfheaaDoor

set_option linter.unusedVariables false
set_option linter.unusedSimpArgs false
namespace Go.Proofs.YtkbcneomjkfheaaDoor
open Go.Hl
attribute [local irreducible] loadF zc sizeP bytesP vcBody pInvoke

theorem built_s {h : Heap} {s : Sl} {l : List Op} {L : List Pr} (H : seps (rdE Op.enc 6 s l :: L) h) (hl : s.len ≤ 9223372036854775807) {KP K : Value → Pr} (k0 : ∀ h', K (.tuple #[.pointer none, .pointer none]) h')
    (k1 : ∀ bt bw T h', Ext T → seps (progP bt T :: refP bw T :: rdE Op.enc 6 s l :: L) h' → K (.tuple #[.pointer (some ⟨bt, 0, none⟩), .pointer (some ⟨bw, 0, none⟩)]) h') :
    WpCall Tryd.prog 15 #[.slice s.base s.len s.cap] KP K h := by
  refine law22_Built_call s ?_
  unfold law22_Built
  refine new_s H fun bt h2 H => ⟨some ⟨bt, 0, none⟩, rfl, ?_⟩
  refine refNew_s H fun bw h3 H => ⟨some ⟨bw, 0, none⟩, rfl, ?_⟩
  refine pLoop_rule (fun (st : Int × Unit) h' => 0 ≤ st.1 ∧ st.1 ≤ 60 ∧ ∃ T, Ext T ∧ seps (progP bt T :: refP bw T :: rdE Op.enc 6 s l :: L) h') (fun st => (60 - st.1).toNat) ?_ ?_
  rotate_left
  · exact ⟨by show (0 : Int) ≤ 0; omega, by show (0 : Int) ≤ 60; omega, newT, newT_ext, f1 H⟩
  rintro ⟨i, ⟨⟩⟩ h' kk ⟨i0, i1, T, x, H⟩ hk
  simp only at i0 i1 H hk ⊢
  unfold law22_Built_l2 pJoin
  by_cases hi : i < (s.len : Int)
  · refine pIf_t (by simpa using hi) ?_
    by_cases hi8 : i < 60
    · show law22_Built_j1 _ _ _ _ _ _ _ (decide (i < 60)) _
      rw [decide_eq_true hi8]
      unfold law22_Built_j1
      refine pIf_t rfl ?_
      have hlt : i.toNat < l.length := by have := (rdE_at (f2 H)).1; omega
      obtain ⟨a, ha, hv⟩ := (rdE_at (f2 H)).2 i.toNat hlt
      refine pIdx_i i0 (by omega) (pSome_i ha (pLd_i (s := .str) l[i.toNat].s ((vals_cell hv).2.2 5 _ rfl) ?_))
      refine pIf_i (fun _ => fgt_mk (k0 _)) (fun _ => ?_)
      refine pIdx_i i0 (by omega) (pSome_i ha (pLdA_i hv ?_))
      have v := prog_inv H
      refine do_s H l[i.toNat] fun h4 H4 => ⟨true, rfl, ?_⟩
      rw [wrap_small (by omega) (by omega)]
      exact hk _ _ ⟨by simp only; omega, by simp only; omega, _, do_ext v x _, H4⟩ (by simp only; omega)
    · show law22_Built_j1 _ _ _ _ _ _ _ (decide (i < 60)) _
      rw [decide_eq_false hi8]
      exact pIf_f rfl (fgt_mk (k1 bt bw T h' x H))
  · exact pIf_f (by simpa using hi) (pIf_f rfl (fgt_mk (k1 bt bw T h' x H)))

theorem odd_s {b : Nat} {T : List Ind} {L : List Pr} {h : Heap} (H : seps (refP b T :: L) h) {KP K : Value → Pr} (k : ∀ r, K (.bool r) h) : WpCall Tryd.prog 18 #[.pointer (some ⟨b, 0, none⟩)] KP K h := by
  refine law22_odd_call (some ⟨b, 0, none⟩) ?_
  unfold law22_odd
  refine pLoop_rule (fun (s : Int × Unit) h' => h' = h ∧ 1 ≤ s.1 ∧ s.1 ≤ 25) (fun s => (25 - s.1).toNat) ?_ ⟨rfl, by show (1 : Int) ≤ 1; omega, by show (1 : Int) ≤ 25; omega⟩
  rintro ⟨i, ⟨⟩⟩ h' kk ⟨rfl, r1, r2⟩ hk
  simp only at r1 r2 hk ⊢
  unfold law22_odd_l2 pJoin law22_odd_j1
  simp only [pSome_some, add_mk, Nat.zero_add, Nat.add_zero]
  have next : ∀ x8 : Bool, i ≤ 24 → pIf x8 (fgt K (.bool true)) (kk (IntKind.i64.wrap (i + 1), ())) h' := fun x8 hi => by
    refine pIf_i (fun _ => fgt_mk (k _)) (fun _ => ?_)
    rw [wrap_small (by omega) (by omega)]
    exact hk _ _ ⟨rfl, by simp only; omega, by simp only; omega⟩ (by simp only; omega)
  by_cases hi : i ≤ 24
  · refine pIf_t (by simpa using hi) (pIdx_i (by omega) (by omega) (ref_ld H (s := .int .i64) (by omega) (by omega) (x := (T.getD i.toNat default).mode) (fun _ _ => rfl) ?_))
    refine pIf_i (fun _ => next true hi) (fun _ => ?_)
    exact pIdx_i (by omega) (by omega) (ref_ld H (s := .int .i64) (by omega) (by omega) (x := (T.getD i.toNat default).mode) (fun _ _ => rfl) (next _ hi))
  · exact pIf_f (by simpa using hi) (fgt_mk (k _))

theorem back_law {h : Heap} {s : Sl} {l : List Op} (hs : SlE Op.enc 6 h s l) (hl : s.len ≤ 9223372036854775807) (ino : Int) {KP K : Value → Pr} (k : ∀ h', K (.bool true) h') :
    WpCall Tryd.prog 6 #[.slice s.base s.len s.cap, .int .i64 ino] KP K h := by
  refine law22_PathsBack_call s ino ?_
  unfold law22_PathsBack
  refine alive22_s (seps_one (p := rdE Op.enc 6 s l) hs) fun h1 H => ⟨true, rfl, pIf_f rfl ?_⟩
  refine built_s H hl (fun h2 => ⟨(none, none, ()), rfl, ?_⟩) (fun bt bw T h2 x H => ⟨(some ⟨bt, 0, none⟩, some ⟨bw, 0, none⟩, ()), rfl, ?_⟩)
  · unfold pJoin law22_PathsBack_j3
    exact pIf_t rfl (pIf_t rfl (fgt_mk (k _)))
  · unfold pJoin
    refine pIf_f rfl (odd_s (f1 H) fun r => ⟨r, rfl, ?_⟩)
    unfold law22_PathsBack_j3 pJoin
    refine pIf_i (fun _ => fgt_mk (k _)) (fun _ => ?_)
    refine of_s H x fun h3 H => ⟨_, rfl, ?_⟩
    dsimp only
    unfold law22_PathsBack_j2
    refine pIf_i (fun _ => pIf_t rfl (fgt_mk (k _))) (fun h4 => ?_)
    refine pIf_i (fun _ => fgt_mk (k _)) (fun h5 => ?_)
    have hne : ofF T ino ≠ ⟨#[]⟩ := fun e => by rw [e, strEq_self] at h4; cases h4
    have hsz : (ofF T ino).size ≤ 64 := by have := of_decide_eq_false h5; omega
    obtain ⟨f, e1, e2⟩ := back_ok (prog_inv H) x bt rfl hne hsz
    refine findP_s (o := ⟨bt, 0, 0, false⟩) H x.data (cwd := 1) (path := ofF T ino) fun h6 H => ⟨((findP T ⟨bt, 0, 0, false⟩ 1 (ofF T ino)).1.enc, (findP T ⟨bt, 0, 0, false⟩ 1 (ofF T ino)).2, ()), rfl, ?_⟩
    rw [e1]
    intro b10 hb10
    refine pStA_new (by rw [zc_fd]; rfl) rfl (oneCells_fd _) ?_
    have r10 := Heap.set_same h6 b10 (.row f.enc (zc Tryd.prog 36).length)
    unfold pJoin law22_PathsBack_j1
    simp only [add_mk, Nat.zero_add]
    refine pIf_t rfl (ld_b (s := .int .i64) r10 (x := f.ino) rfl ?_)
    rw [e2]
    simp only [beq_self_eq_true]
    exact fgt_mk (k _)
end Go.Proofs.YtkbcneomjkfheaaDoor

set_option linter.unusedVariables false
set_option linter.unusedSimpArgs false
namespace Go.Proofs.YtkbcneomjkfheaaDoor
open Go.Hl
attribute [local irreducible] loadF zc sizeP bytesP vcBody pInvoke

/-! The reference's way: by rounds. -/
/-- The first of some that were seen in which it is. -/
def srchL (T : List Ind) (ino : Int) : List (Int × ByteArray) → Option ByteArray
  | [] => none
  | d :: r => match srch T ino d with
    | some s => some s
    | none => srchL T ino r
/-- All of a round are looked through and widened. -/
def expdL (T : List Ind) : Vs → List (Int × ByteArray) → Vs
  | V, [] => V
  | V, d :: r => expdL T (expd T V d) r
theorem expd_app {T : List Ind} (p : ByteArray) : ∀ (es : List (ByteArray × Int)) (V : Vs), ∃ r, es.foldl (addE T p) V = V ++ r
  | [], V => ⟨[], by simp⟩
  | e :: es, V => by
    rw [List.foldl_cons]
    obtain ⟨r, hr⟩ := expd_app p es (addE T p V e)
    unfold addE at hr ⊢
    split at hr
    · rename_i h; rw [if_pos h]; exact ⟨_, by rw [hr, List.append_assoc]⟩
    · rename_i h; rw [if_neg h]; exact ⟨_, hr⟩
theorem expdL_app {T : List Ind} : ∀ (l : List (Int × ByteArray)) (V : Vs), ∃ r, expdL T V l = V ++ r
  | [], V => ⟨[], by simp [expdL]⟩
  | d :: l, V => by
    obtain ⟨r1, h1⟩ := expd_app (T := T) d.2 (ents T d.1) V
    obtain ⟨r2, h2⟩ := expdL_app (T := T) l (expd T V d)
    unfold expdL
    refine ⟨r1 ++ r2, ?_⟩
    rw [h2]
    unfold expd
    rw [h1, List.append_assoc]
/-- A round. -/
theorem ofQ_round {T : List Ind} {ino : Int} : ∀ (R : List (Int × ByteArray)) (f : Nat) (V : Vs) (i : Nat) (W : List (Int × ByteArray)), V.drop i = R ++ W → i + (R ++ W).length = V.length → R.length ≤ f →
    ofQ T ino f V i = match srchL T ino R with | some s => s | none => ofQ T ino (f - R.length) (expdL T V R) (i + R.length)
  | [], f, V, i, W, _, _, _ => rfl
  | d :: R, f, V, i, W, h, hl, hf => by
    obtain ⟨f', rfl⟩ : ∃ q, f = q + 1 := ⟨f - 1, by simp at hf; omega⟩
    have hi : i < V.length := by rw [List.length_append, List.length_cons] at hl; omega
    have hd : V.drop i = V[i] :: V.drop (i + 1) := List.drop_eq_getElem_cons hi
    rw [hd] at h
    have h1 : V[i] = d := (List.cons.inj h).1
    have h2 : V.drop (i + 1) = R ++ W := (List.cons.inj h).2
    unfold srchL expdL
    cases hs : srch T ino d with
    | some s =>
      rw [ofQ_hit hi (by rw [h1]; exact hs)]
    | none =>
      rw [ofQ_miss hi (by rw [h1]; exact hs), h1]
      obtain ⟨r, hr⟩ := expd_app (T := T) d.2 (ents T d.1) V
      have hr : expd T V d = V ++ r := hr
      have hl2 : i + 1 + (R ++ W).length = V.length := by
        rw [List.cons_append, List.length_cons] at hl; omega
      have := ofQ_round (T := T) (ino := ino) R f' (expd T V d) (i + 1) (W ++ r) (by rw [hr, List.drop_append_of_le_length (by omega), h2, List.append_assoc]) (by rw [hr]; simp only [List.length_append] at *; omega) (by simp at hf; omega)
      rw [this]
      dsimp only
      rw [List.length_cons, show f' + 1 - (R.length + 1) = f' - R.length by omega, show i + (R.length + 1) = i + 1 + R.length by omega]
/-- Behind the last round there is nothing. -/
theorem srchL_split {T : List Ind} {ino : Int} {l : List (Int × ByteArray)} {j : Nat} (hj : j < l.length) (h : srchL T ino (l.take j) = none) : srchL T ino (l.take (j + 1)) = srch T ino l[j] := by
  induction l generalizing j with
  | nil => simp at hj
  | cons d l ih =>
    cases j with
    | zero => simp only [List.take_succ_cons, List.take_zero, srchL, List.getElem_cons_zero]; cases srch T ino d <;> rfl
    | succ j =>
      rw [List.take_succ_cons] at h ⊢
      simp only [srchL, List.getElem_cons_succ] at h ⊢
      cases hs : srch T ino d with
      | some s => rw [hs] at h; cases h
      | none =>
        rw [hs] at h
        exact ih (by simpa using hj) h
theorem srchL_hit {T : List Ind} {ino : Int} {l : List (Int × ByteArray)} {j : Nat} (hj : j < l.length) (h : srchL T ino (l.take j) = none) {s : ByteArray} (hs : srch T ino l[j] = some s) : srchL T ino l = some s := by
  induction l generalizing j with
  | nil => simp at hj
  | cons d l ih =>
    cases j with
    | zero => simp only [srchL]; simp only [List.getElem_cons_zero] at hs; rw [hs]
    | succ j =>
      rw [List.take_succ_cons] at h
      simp only [srchL] at h ⊢
      cases hd : srch T ino d with
      | some s => rw [hd] at h; cases h
      | none =>
        rw [hd] at h
        simpa using ih (by simpa using hj) h (by simpa using hs)
theorem expdL_split {T : List Ind} : ∀ {l : List (Int × ByteArray)} {V : Vs} {j : Nat} (hj : j < l.length), expdL T V (l.take (j + 1)) = expd T (expdL T V (l.take j)) l[j]
  | d :: l, V, 0, _ => by simp [expdL]
  | d :: l, V, j + 1, hj => by
    rw [List.take_succ_cons, List.take_succ_cons]
    simp only [expdL, List.getElem_cons_succ]
    exact expdL_split (by simpa using hj)
/-- A round keeps what is always so. -/
theorem expdL_ok {T : List Ind} (x : Ext T) : ∀ (R : List (Int × ByteArray)) (V : Vs) (i : Nat) (W : List (Int × ByteArray)), VOk T V → V.drop i = R ++ W → VOk T (expdL T V R)
  | [], V, i, W, v, _ => v
  | d :: R, V, i, W, v, h => by
    have hi : i < V.length := by
      rcases Nat.lt_or_ge i V.length with q | q
      · exact q
      · rw [List.drop_of_length_le q] at h; simp at h
    have hd : V.drop i = V[i] :: V.drop (i + 1) := List.drop_eq_getElem_cons hi
    rw [hd] at h
    have h1 : V[i] = d := (List.cons.inj h).1
    have h2 : V.drop (i + 1) = R ++ W := (List.cons.inj h).2
    obtain ⟨v1, r, hr⟩ := expd_ok x v hi
    rw [h1] at v1 hr
    unfold expdL
    exact expdL_ok x R (expd T V d) (i + 1) (W ++ r) v1 (by rw [hr, List.drop_append_of_le_length (by omega), h2, List.append_assoc])
end Go.Proofs.YtkbcneomjkfheaaDoor

set_option linter.unusedVariables false
set_option linter.unusedSimpArgs false
namespace Go.Proofs.YtkbcneomjkfheaaDoor
open Go.Hl
attribute [local irreducible] loadF zc sizeP bytesP vcBody pInvoke

/-! The reference's Of. -/
theorem getE_app {α : Type} : ∀ (V : List (Int × α)) (y : Int) (p : α) (x : Int), getE (V ++ [(y, p)]) x = match getE V x with | some a => some a | none => if x = y then some p else none
  | [], y, p, x => by simp [getE]
  | (z, a) :: r, y, p, x => by
    rw [List.cons_append]
    unfold getE
    by_cases e : x = z
    · simp [e]
    · rw [if_neg e, if_neg e]; exact getE_app r y p x
/-- Which were seen. -/
def bl (V : Vs) : List Value := (List.range 25).map fun (i : Nat) => .bool (getE V (i : Int)).isSome
theorem bl_len (V : Vs) : (bl V).length = 25 := by simp [bl]
theorem bl_at {V : Vs} {i : Int} (h0 : 0 ≤ i) (h1 : i < 25) : (bl V)[i.toNat]? = some (.bool (getE V i).isSome) := by
  have h : i.toNat < (bl V).length := by rw [bl_len]; omega
  rw [List.getElem?_eq_getElem h]
  simp only [bl, List.getElem_map, List.getElem_range]
  rw [show ((i.toNat : Nat) : Int) = i by omega]
theorem bl_add {V : Vs} {y : Int} {p : ByteArray} (h0 : 0 ≤ y) (h1 : y < 25) : (bl V).set y.toNat (.bool true) = bl (V ++ [(y, p)]) := by
  apply List.ext_getElem (by simp [bl])
  intro i hi hj
  have hi' : i < 25 := by rw [List.length_set, bl_len] at hi; exact hi
  rw [List.getElem_set]
  simp only [bl, List.getElem_map, List.getElem_range]
  rw [getE_app]
  by_cases e : y.toNat = i
  · rw [if_pos e, if_pos (by omega)]
    cases getE V (i : Int) <;> rfl
  · rw [if_neg e, if_neg (by omega)]
    cases getE V (i : Int) <;> rfl
theorem zc_been : (zc Tryd.prog 80).set 1 (.bool true) = bl [(1, ⟨#[]⟩)] := by kernel_rfl
theorem zc_been_len : (zc Tryd.prog 80).length = 25 := by kernel_rfl
theorem isDir_has {T : List Ind} {y : Int} (h : isDir T y = true) : hasB T y = true := by unfold isDir at h; simp only [Bool.and_eq_true] at h; exact h.1

theorem refOf_s {b : Nat} {T : List Ind} {L : List Pr} {h : Heap} (H : seps (refP b T :: L) h) (v : Inv T) (ex : Ext T) {ino : Int} {KP K : Value → Pr} (k : ∀ h', seps (refP b T :: L) h' → K (.string (ofF T ino)) h') :
    WpCall Tryd.prog 17 #[.pointer (some ⟨b, 0, none⟩), .int .i64 ino] KP K h := by
  refine ref22_Of_call (some ⟨b, 0, none⟩) ino ?_
  unfold ref22_Of
  refine refHas_s H ⟨_, rfl, ?_⟩
  unfold ofF at k
  refine pIf_i (fun hz => ?_) (fun hz => ?_)
  · rw [if_neg (by simpa using hz)] at k
    exact fgt_mk (k _ H)
  rw [if_pos (by simpa using hz)] at k
  refine pIf_i (fun hy => ?_) (fun hy => ?_)
  · rw [if_pos (by simpa using hy)] at k
    exact fgt_mk (k _ H)
  rw [if_neg (by simpa using hy)] at k
  obtain ⟨ps, hl, et, H1⟩ := ref_open H
  have fin : ∀ h', seps (rowP b (ps.flatMap encP) 275 :: (slots ps ++ L)) h' → fgt K (.string (ofQ T ino 25 [(1, ⟨#[]⟩)] 0)) h' := fun h' H => fgt_mk (k h' (by rw [← et]; exact ref_close hl H))
  clear k H
  intro b2 hb2
  rw [lay1]
  have H2 : seps (own 1 ⟨some ⟨b2, 0, none⟩, 1, 1⟩ (ints [1]) :: rowP b (ps.flatMap encP) 275 :: (slots ps ++ L)) (h.set b2 (.row [.int .i64 1] ([Value.int .i64 1] : List Value).length)) :=
    seps_imp (fun g hg => ⟨rfl, Nat.le_refl _, .inr ⟨b2, [], 1, rfl, hg, Nat.le_refl _⟩⟩) (new_row (cs := [.int .i64 1]) (n := 1) H1 hb2)
  generalize h.set b2 _ = h2 at H2 ⊢
  intro b3 hb3
  rw [lay_s1]
  have H3 : seps (own 1 ⟨some ⟨b3, 0, none⟩, 1, 1⟩ (strs [⟨#[]⟩]) :: own 1 ⟨some ⟨b2, 0, none⟩, 1, 1⟩ (ints [1]) :: rowP b (ps.flatMap encP) 275 :: (slots ps ++ L)) (h2.set b3 (.row [.string ⟨#[]⟩] ([Value.string ⟨#[]⟩] : List Value).length)) :=
    seps_imp (fun g hg => ⟨rfl, Nat.le_refl _, .inr ⟨b3, [], 1, rfl, hg, Nat.le_refl _⟩⟩) (new_row (cs := [.string ⟨#[]⟩]) (n := 1) H2 hb3)
  generalize h2.set b3 _ = h3 at H3 ⊢
  intro b4 hb4
  have H4 := new_row (cs := zc Tryd.prog 80) (n := (zc Tryd.prog 80).length) H3 hb4
  generalize h3.set b4 _ = h4 at H4 ⊢
  refine pIdx_i (by omega) (by omega) (st_b (row_at H4) (by rw [zc_been_len]; show 0 + 1 * 1 < 25; omega) rfl ?_)
  have H5 := row_set (cs' := bl [(1, ⟨#[]⟩)]) (tot' := 25) H4
  simp only [add_mk, Nat.zero_add, Nat.add_zero, Int.toNat_one, Nat.mul_one]
  rw [zc_been, zc_been_len]
  generalize h4.set b4 _ = h5 at H5 ⊢
  clear H1 H2 H3 H4 hb2 hb3 hb4
  -- the rounds
  refine pLoop_rule (fun (st : Sl × Sl × Int × Unit) h' => 0 ≤ st.2.2.1 ∧ st.2.2.1 ≤ 25 ∧ ∃ (V : Vs) (f lo : Nat), ofQ T ino 25 [(1, ⟨#[]⟩)] 0 = ofQ T ino f V lo ∧ f + lo = 25 ∧ lo ≤ V.length ∧ VOk T V ∧ (st.2.2.1 ≤ lo ∨ lo = V.length) ∧
    seps (rowP b4 (bl V) 25 :: own 1 st.1 (ints ((V.drop lo).map (·.1))) :: own 1 st.2.1 (strs ((V.drop lo).map (·.2))) :: rowP b (ps.flatMap encP) 275 :: (slots ps ++ L)) h') (fun st => (25 - st.2.2.1).toNat) ?_ ?_
  rotate_left
  · exact ⟨by show (0 : Int) ≤ 0; omega, by show (0 : Int) ≤ 25; omega, [(1, ⟨#[]⟩)], 25, 0, rfl, rfl, Nat.zero_le _, first_ok v, .inl (by show (0 : Int) ≤ 0; omega), pk [0, 2, 1] H5⟩
  clear H5
  rintro ⟨x6, x7, r, ⟨⟩⟩ h6 kk ⟨r0, r1, V, f, lo, eq, ef, loV, vk, rl, H6⟩ hkk
  simp only at r0 r1 rl H6 hkk ⊢
  unfold ref22_Of_l7
  have vlen := vk.len
  by_cases hr : r < 25
  case neg =>
    rw [ofQ_end (f := f) (V := V) (i := lo) (by omega)] at eq
    rw [eq] at fin
    exact pIf_f (by simpa using hr) (fin _ (seps_tail (seps_tail (seps_tail H6))))
  refine pIf_t (by simpa using hr) ?_
  obtain ⟨R, hR⟩ : ∃ R, R = V.drop lo := ⟨_, rfl⟩
  rw [← hR] at H6
  have Rlen : lo + R.length = V.length := by rw [hR, List.length_drop]; omega
  have hRi : ∀ i (hi : i < R.length), R[i] = V[lo + i] := fun i hi => by simp only [hR, List.getElem_drop]
  have hdir : ∀ i (hi : i < R.length), isDir T R[i].1 = true := fun i hi => by rw [hRi i hi]; exact vk.dirs _ (List.getElem_mem _)
  have hround := ofQ_round (T := T) (ino := ino) R f V lo [] (by rw [hR]; simp) (by simp; exact Rlen) (by omega)
  have l6 : x6.len = R.length := by have := (own_at (f1 H6 |> fun _ => seps_tail H6)).len; rw [ints_len, List.length_map] at this; exact this
  have l7 : x7.len = R.length := by have := (own_at (seps_tail (seps_tail H6))).len; rw [strs_len, List.length_map] at this; exact this
  have rsz : ∀ i (hi : i < R.length), R[i].2.size ≤ 216 := fun i hi => by rw [hRi i hi]; have := vk.size (lo + i) (by omega); omega
  have plxT : ∀ i, (plx ps i).1 = T.getD i default := fun i => by rw [plx_fst, et]
  -- looking through
  refine pLoop_rule (fun (st : Int × Unit) h' => 0 ≤ st.1 ∧ st.1 ≤ R.length ∧ srchL T ino (R.take st.1.toNat) = none ∧
    seps (rowP b4 (bl V) 25 :: own 1 x6 (ints (R.map (·.1))) :: own 1 x7 (strs (R.map (·.2))) :: rowP b (ps.flatMap encP) 275 :: (slots ps ++ L)) h') (fun st => (R.length - st.1).toNat) ?_ ?_
  rotate_left
  · exact ⟨by show (0 : Int) ≤ 0; omega, by show (0 : Int) ≤ _; omega, rfl, H6⟩
  clear H6
  rintro ⟨i, ⟨⟩⟩ h7 k2 ⟨i0, i1, hno, H7⟩ hk2
  simp only at i0 i1 hno H7 hk2 ⊢
  unfold ref22_Of_l6
  by_cases hi : i < R.length
  · have hin : i.toNat < R.length := by omega
    refine pIf_t (by rw [l6]; simpa using hi) ?_
    obtain ⟨a1, ha1, hc1⟩ := int_at (own_at (seps_tail H7)) (j := i.toNat) (by rw [List.length_map]; exact hin)
    rw [List.getElem_map] at hc1
    have hd := hdir i.toNat hin
    have dr := isDir_range hd
    refine pIdx_i (by omega) (by omega) (pSome_i ha1 (pSome_i rfl (pLd_i (s := .int .i64) _ hc1 ?_)))
    refine pIdx_i (by omega) (by omega) ?_
    simp only [add_mk, Nat.zero_add, Nat.add_zero]
    have t7 := RT.of hl (seps_tail (seps_tail (seps_tail H7)))
    refine ldA_b t7.row (ref_cut (by omega)) ?_
    intro b15 hb15
    refine pStA_new zc_ilen (encP_len _) (oneCells_encI _ _ _) ?_
    have H8 := seps_new H7 hb15 (.row (encP (plx ps R[i.toNat].1.toNat)) (zc Tryd.prog 25).length)
    have r15 := Heap.set_same h7 b15 (.row (encP (plx ps R[i.toNat].1.toNat)) (zc Tryd.prog 25).length)
    generalize h7.set b15 _ = h8 at H8 r15 ⊢
    have t8 := RT.of hl (seps_tail (seps_tail (seps_tail H8)))
    have oN := t8.names R[i.toNat].1.toNat (by omega)
    have oI := t8.inos R[i.toNat].1.toNat (by omega)
    have r15' : h8 b15 = some (.row (encI (T.getD R[i.toNat].1.toNat default) (plx ps R[i.toNat].1.toNat).2.1 (plx ps R[i.toNat].1.toNat).2.2) (zc Tryd.prog 25).length) := by rw [r15, ← plxT]; rfl
    rw [plxT] at oN oI
    obtain ⟨so, il⟩ := v.fine R[i.toNat].1.toNat
    have sm := v.small R[i.toNat].1.toNat
    have entsd : ents T R[i.toNat].1 = (T.getD R[i.toNat].1.toNat default).names.zip (T.getD R[i.toNat].1.toNat default).inos := rfl
    generalize hx : T.getD R[i.toNat].1.toNat default = x at *
    generalize (plx ps R[i.toNat].1.toNat).2.1 = n' at *
    generalize (plx ps R[i.toNat].1.toNat).2.2 = i' at *
    have ln : n'.len = x.names.length := by have := oN.len; rw [strs_len] at this; exact this
    have li : i'.len = x.inos.length := by have := oI.len; rw [ints_len] at this; exact this
    refine pLoop_rule (fun (st : Int × Unit) h' => h' = h8 ∧ 0 ≤ st.1 ∧ st.1 ≤ x.names.length ∧ (∀ (q : Nat) (e' : ByteArray × Int), q < st.1.toNat → (ents T R[i.toNat].1)[q]? = some e' → e'.2 ≠ ino)) (fun st => (x.names.length - st.1).toNat) ?_ ?_
    rotate_left
    · exact ⟨rfl, by show (0 : Int) ≤ 0; omega, by show (0 : Int) ≤ _; omega, fun q e' hq => absurd hq (Nat.not_lt_zero _)⟩
    rintro ⟨j, ⟨⟩⟩ h9 k3 ⟨rfl, j0, j1, nom⟩ hk3
    simp only at j0 j1 nom hk3 ⊢
    unfold ref22_Of_l1
    simp only [add_mk, Nat.zero_add, Nat.add_zero]
    refine ld_b (s := .slice) r15' (x := n') rfl ?_
    by_cases hj : j < x.names.length
    · have hjn : j.toNat < x.names.length := by omega
      have hji : j.toNat < x.inos.length := by omega
      have hent : (ents T R[i.toNat].1)[j.toNat]? = some (x.names[j.toNat], x.inos[j.toNat]) := by rw [entsd]; exact zip_at hjn hji
      refine pIf_t (by rw [ln]; simpa using hj) (ld_b (s := .slice) r15' (x := i') rfl ?_)
      obtain ⟨a2, ha2, hc2⟩ := int_at oI hji
      refine pIdx_i (by omega) (by omega) (pSome_i ha2 (pLd_i (s := .int .i64) _ hc2 ?_))
      refine pIf_i (fun hm => ?_) (fun hm => ?_)
      · have hm : x.inos[j.toNat] = ino := by simpa using hm
        have hs := srch_hit (ino := ino) (d := R[i.toNat]) hent hm nom
        obtain ⟨a3, ha3, hc3⟩ := str_at (own_at (seps_tail (seps_tail H8))) (j := i.toNat) (by rw [List.length_map]; exact hin)
        rw [List.getElem_map] at hc3
        obtain ⟨a4, ha4, hc4⟩ := str_at oN hjn
        have hns := isName_size (ents_name ex (List.mem_of_getElem? hent))
        have hps := rsz i.toNat hin
        have e47 : (⟨#[47]⟩ : ByteArray) = slash := rfl
        rw [e47]
        have s1 : (R[i.toNat].2 ++ slash).size = R[i.toNat].2.size + 1 := by rw [ByteArray.size_append]; rfl
        refine pIdx_i (by omega) (by omega) (pSome_i ha3 (pLd_i (s := .str) _ hc3 (pAssert_i (show R[i.toNat].2.size + 1 < _ by omega) ?_)))
        refine ld_b (s := .slice) r15' (x := n') rfl (pIdx_i (by omega) (by omega) (pSome_i ha4 (pLd_i (s := .str) _ hc4 (pAssert_i (by rw [s1]; simp only at hns; omega) ?_))))
        rw [eq, hround, srchL_hit hin hno hs] at fin
        exact fin _ (seps_tail (seps_tail (seps_tail H8)))
      · have hm : ¬ x.inos[j.toNat] = ino := by simpa using hm
        rw [wrap_small (by omega) (by omega)]
        refine hk3 _ _ ⟨rfl, by simp only; omega, by simp only; omega, fun q e' hq hq' => ?_⟩ (by simp only; omega)
        simp only at hq
        by_cases c : q = j.toNat
        · subst c
          rw [hent] at hq'
          cases hq'; exact hm
        · exact nom q e' (by omega) hq'
    · refine pIf_f (by rw [ln]; simpa using hj) ?_
      have hms : srch T ino R[i.toNat] = none := srch_miss fun q e' hq => nom q e' (by
        have := (List.getElem?_eq_some_iff.1 hq).1
        rw [entsd, List.length_zip] at this; omega) hq
      rw [wrap_small (by omega) (by omega)]
      refine hk2 _ _ ⟨by simp only; omega, by simp only; omega, ?_, H8⟩ (by simp only; omega)
      simp only
      rw [show (i + 1).toNat = i.toNat + 1 by omega, srchL_split hin hno, hms]
  refine pIf_f (by rw [l6]; simpa using hi) ?_
  have hnoR : srchL T ino R = none := by rwa [List.take_of_length_le (by omega)] at hno
  clear hno
  rw [hnoR] at hround
  simp only at hround
  clear hk2
  -- widening
  refine pLoop_rule (fun (st : Sl × Sl × Int × Unit) h' => 0 ≤ st.2.2.1 ∧ st.2.2.1 ≤ R.length ∧ ∃ V' : Vs, V' = expdL T V (R.take st.2.2.1.toNat) ∧
    seps (rowP b4 (bl V') 25 :: own 1 st.1 (ints ((V'.drop V.length).map (·.1))) :: own 1 st.2.1 (strs ((V'.drop V.length).map (·.2))) :: own 1 x6 (ints (R.map (·.1))) :: own 1 x7 (strs (R.map (·.2))) :: rowP b (ps.flatMap encP) 275 :: (slots ps ++ L)) h') (fun st => (R.length - st.2.2.1).toNat) ?_ ?_
  rotate_left
  · refine ⟨by show (0 : Int) ≤ 0; omega, by show (0 : Int) ≤ _; omega, V, rfl, ?_⟩
    have e1 : V.drop V.length = [] := List.drop_length
    rw [e1]
    exact pk [2, 0, 1] (own_nil (own_nil H7))
  clear H7 i0 i1 hi i
  rintro ⟨s1, s2, i, ⟨⟩⟩ h10 k4 ⟨i0, i1, V', eV', H10⟩ hk4
  simp only at i0 i1 eV' H10 hk4 ⊢
  unfold ref22_Of_l5
  have vt : V.drop lo = R.take i.toNat ++ R.drop i.toNat := by rw [List.take_append_drop, hR]
  have vk' : VOk T V' := by rw [eV']; exact expdL_ok ex (R.take i.toNat) V lo (R.drop i.toNat) vk vt
  obtain ⟨w, hw⟩ := expdL_app (T := T) (R.take i.toNat) V
  rw [← eV'] at hw
  by_cases hi : i < R.length
  case neg =>
    refine pIf_f (by rw [l6]; simpa using hi) ?_
    have e1 : R.take i.toNat = R := List.take_of_length_le (by omega)
    rw [e1] at eV'
    rw [wrap_small (by omega) (by omega)]
    have hVl : V.length ≤ V'.length := by rw [hw, List.length_append]; omega
    refine hkk _ _ ⟨by simp only; omega, by simp only; omega, V', f - R.length, V.length, ?_, by omega, hVl, vk', ?_, pk [0, 1, 2, 5] H10 |> fun H => ?_⟩ (by simp only; omega)
    · rw [eq, hround, eV', Rlen]
    · simp only
      rcases rl with q | q
      · by_cases e2 : R.length = 0
        · right
          have : R = [] := List.length_eq_zero_iff.1 e2
          rw [this] at eV'
          rw [eV']; rfl
        · left; omega
      · right
        have : R = [] := List.length_eq_zero_iff.1 (by omega)
        rw [this] at eV'
        rw [eV']; rfl
    · exact seps_under (fun _ H => seps_under (fun _ H => seps_under (fun _ H => seps_tail (seps_tail H)) H) H) H10
  have hin : i.toNat < R.length := by omega
  refine pIf_t (by rw [l6]; simpa using hi) ?_
  obtain ⟨a1, ha1, hc1⟩ := int_at (own_at (seps_tail (seps_tail (seps_tail H10)))) (j := i.toNat) (by rw [List.length_map]; exact hin)
  rw [List.getElem_map] at hc1
  have hd := hdir i.toNat hin
  have dr := isDir_range hd
  refine pIdx_i (by omega) (by omega) (pSome_i ha1 (pSome_i rfl (pLd_i (s := .int .i64) _ hc1 ?_)))
  refine pIdx_i (by omega) (by omega) ?_
  simp only [add_mk, Nat.zero_add, Nat.add_zero]
  have t10 := RT.of hl (seps_tail (seps_tail (seps_tail (seps_tail (seps_tail H10)))))
  refine ldA_b t10.row (ref_cut (by omega)) ?_
  intro b35 hb35
  refine pStA_new zc_ilen (encP_len _) (oneCells_encI _ _ _) ?_
  have H11 := new_row (cs := encP (plx ps R[i.toNat].1.toNat)) (n := (zc Tryd.prog 25).length) H10 hb35
  generalize h10.set b35 _ = h11 at H11 ⊢
  have epl : encP (plx ps R[i.toNat].1.toNat) = encI (T.getD R[i.toNat].1.toNat default) (plx ps R[i.toNat].1.toNat).2.1 (plx ps R[i.toNat].1.toNat).2.2 := by rw [← plxT]; rfl
  rw [epl] at H11
  have oN : ∀ {h'}, RT h' b ps → Has 1 h' (plx ps R[i.toNat].1.toNat).2.1 (strs (T.getD R[i.toNat].1.toNat default).names) := fun t => by rw [← plxT]; exact t.names _ (by omega)
  have oI : ∀ {h'}, RT h' b ps → Has 1 h' (plx ps R[i.toNat].1.toNat).2.2 (ints (T.getD R[i.toNat].1.toNat default).inos) := fun t => by rw [← plxT]; exact t.inos _ (by omega)
  obtain ⟨so, il⟩ := v.fine R[i.toNat].1.toNat
  have sm := v.small R[i.toNat].1.toNat
  have entsd : ents T R[i.toNat].1 = (T.getD R[i.toNat].1.toNat default).names.zip (T.getD R[i.toNat].1.toNat default).inos := rfl
  clear epl hc1
  generalize hx : T.getD R[i.toNat].1.toNat default = x at *
  generalize (plx ps R[i.toNat].1.toNat).2.1 = n' at *
  generalize (plx ps R[i.toNat].1.toNat).2.2 = i' at *
  have t11 := RT.of hl (seps_tail (seps_tail (seps_tail (seps_tail (seps_tail (seps_tail H11))))))
  have ln : n'.len = x.names.length := by have := (oN t11).len; rw [strs_len] at this; exact this
  have li : i'.len = x.inos.length := by have := (oI t11).len; rw [ints_len] at this; exact this
  have hps := rsz i.toNat hin
  have hlo : lo + i.toNat < V'.length := by rw [hw, List.length_append]; omega
  have hVR : V'[lo + i.toNat] = R[i.toNat] := by simp only [hw]; rw [List.getElem_append_left (by omega), hRi _ hin]
  refine pLoop_rule (fun (st : Sl × Sl × Int × Unit) h' => 0 ≤ st.2.2.1 ∧ st.2.2.1 ≤ x.names.length ∧ ∃ V2 : Vs, V2 = ((ents T R[i.toNat].1).take st.2.2.1.toNat).foldl (addE T R[i.toNat].2) V' ∧
    seps (rowP b35 (encI x n' i') (zc Tryd.prog 25).length :: rowP b4 (bl V2) 25 :: own 1 st.1 (ints ((V2.drop V.length).map (·.1))) :: own 1 st.2.1 (strs ((V2.drop V.length).map (·.2))) :: own 1 x6 (ints (R.map (·.1))) :: own 1 x7 (strs (R.map (·.2))) :: rowP b (ps.flatMap encP) 275 :: (slots ps ++ L)) h') (fun st => (x.names.length - st.2.2.1).toNat) ?_ ?_
  rotate_left
  · exact ⟨by show (0 : Int) ≤ 0; omega, by show (0 : Int) ≤ _; omega, V', rfl, H11⟩
  clear H11 t11 H10 t10
  rintro ⟨s3, s4, j, ⟨⟩⟩ h12 k5 ⟨j0, j1, V2, eV2, H12⟩ hk5
  simp only at j0 j1 eV2 H12 hk5 ⊢
  have hes : ∀ e ∈ (ents T R[i.toNat].1).take j.toNat, e.1.size ≤ 8 := fun e he => isName_size (ents_name ex (List.mem_of_mem_take he))
  obtain ⟨vk2, w2, hw2⟩ := fold_ok ((ents T R[i.toNat].1).take j.toNat) vk' hlo (T := T) hes
  rw [hVR, ← eV2] at vk2 hw2
  have v2len := vk2.len
  have hVl2 : V.length ≤ V2.length := by rw [hw2, hw, List.length_append, List.length_append]; omega
  unfold ref22_Of_l4 pJoin
  have r35 := row_at H12
  simp only [add_mk, Nat.zero_add, Nat.add_zero]
  refine ld_b (s := .slice) r35 (x := n') rfl ?_
  by_cases hj : j < x.names.length
  case neg =>
    refine pIf_f (by rw [ln]; simpa using hj) ?_
    have hjl : j.toNat = x.names.length := by omega
    have htk : (ents T R[i.toNat].1).take j.toNat = ents T R[i.toNat].1 := List.take_of_length_le (by rw [entsd, List.length_zip]; omega)
    rw [htk] at eV2
    rw [wrap_small (by omega) (by omega)]
    refine hk4 _ _ ⟨by simp only; omega, by simp only; omega, V2, ?_, seps_tail H12⟩ (by simp only; omega)
    simp only
    rw [show (i + 1).toNat = i.toNat + 1 by omega, expdL_split hin, ← eV']
    exact eV2
  have hjn : j.toNat < x.names.length := by omega
  have hji : j.toNat < x.inos.length := by omega
  have hent : (ents T R[i.toNat].1)[j.toNat]? = some (x.names[j.toNat], x.inos[j.toNat]) := by rw [entsd]; exact zip_at hjn hji
  have hns := isName_size (ents_name ex (List.mem_of_getElem? hent))
  simp only at hns
  have t12 := RT.of hl (seps_tail (seps_tail (seps_tail (seps_tail (seps_tail (seps_tail H12))))))
  obtain ⟨a2, ha2, hc2⟩ := int_at (oI t12) hji
  refine pIf_t (by rw [ln]; simpa using hj) (ld_b (s := .slice) r35 (x := i') rfl ?_)
  refine pIdx_i (by omega) (by omega) (pSome_i ha2 (pLd_i (s := .int .i64) _ hc2 ?_))
  generalize hyy : x.inos[j.toNat] = y at *
  generalize hnn : x.names[j.toNat] = nm at *
  have step : ∀ (s5 s6 : Sl) (h13 : Heap) (V3 : Vs), V3 = addE T R[i.toNat].2 V2 (nm, y) → seps (rowP b35 (encI x n' i') (zc Tryd.prog 25).length :: rowP b4 (bl V3) 25 :: own 1 s5 (ints ((V3.drop V.length).map (·.1))) :: own 1 s6 (strs ((V3.drop V.length).map (·.2))) :: own 1 x6 (ints (R.map (·.1))) :: own 1 x7 (strs (R.map (·.2))) :: rowP b (ps.flatMap encP) 275 :: (slots ps ++ L)) h13 → ref22_Of_j3 k5 j s5 s6 h13 := by
    intro s5 s6 h13 V3 e3 H13
    unfold ref22_Of_j3
    rw [wrap_small (by omega) (by omega)]
    refine hk5 _ _ ⟨by simp only; omega, by simp only; omega, V3, ?_, H13⟩ (by simp only; omega)
    simp only
    rw [show (j + 1).toNat = j.toNat + 1 by omega, foldl_take _ _ hent, ← eV2]
    exact e3
  unfold ref22_Of_j2
  have no : (isDir T y && (getE V2 y).isNone) = false → pIf false (fun _ => False) (ref22_Of_j3 k5 j s3 s4) h12 := fun hn => pIf_f rfl (step s3 s4 h12 V2 (by unfold addE; rw [if_neg (by simp only; rw [hn]; simp)]) H12)
  refine refHas_s (T := T) (by rw [← et]; exact ref_close hl (seps_tail (seps_tail (seps_tail (seps_tail (seps_tail (seps_tail H12))))))) ⟨_, rfl, ?_⟩
  refine pIf_i (fun hh => ?_) (fun hh => ?_)
  case refine_2 =>
    exact pIf_f rfl (step s3 s4 h12 V2 (by unfold addE isDir; rw [if_neg (by simp only; rw [hh]; simp)]) H12)
  obtain ⟨y1, y2⟩ := hasB_range hh
  refine pSome_i rfl (ld_b (s := .slice) r35 (x := i') rfl (pIdx_i (by omega) (by omega) (pSome_i ha2 (pLd_i (s := .int .i64) _ hc2 ?_))))
  simp only [add_mk, Nat.zero_add, Nat.add_zero]
  refine pIdx_i (by omega) (by omega) (t12.ld (s := .int .i64) (by omega) (by omega) (x := (plx ps y.toNat).1.kind) rfl ?_)
  rw [plxT]
  refine pIf_i (fun hk => ?_) (fun hk => ?_)
  case refine_2 =>
    exact pIf_f rfl (step s3 s4 h12 V2 (by unfold addE isDir; rw [if_neg (by simp only; rw [hk]; simp)]) H12)
  have hd2 : isDir T y = true := by unfold isDir; rw [hh, hk]; rfl
  refine ld_b (s := .slice) r35 (x := i') rfl (pIdx_i (by omega) (by omega) (pSome_i ha2 (pLd_i (s := .int .i64) _ hc2 ?_)))
  rw [Nat.mul_one]
  refine pIdx_i (by omega) (by omega) (ld_b (s := .bool) (row_at (seps_tail H12)) (x := (getE V2 y).isSome) (bl_at (by omega) (by omega)) ?_)
  cases hs : getE V2 y with
  | some p =>
    exact pIf_f rfl (step s3 s4 h12 V2 (by unfold addE; rw [if_neg (by simp only; rw [hs]; simp)]) H12)
  | none =>
    refine pIf_t rfl (ld_b (s := .slice) r35 (x := i') rfl (pIdx_i (by omega) (by omega) (pSome_i ha2 (pLd_i (s := .int .i64) _ hc2 ?_))))
    simp only [add_mk, Nat.zero_add, Nat.add_zero, Nat.mul_one]
    refine pIdx_i (by omega) (by omega) (st_b (row_at (seps_tail H12)) (by rw [bl_len]; omega) rfl ?_)
    have H13 := row_set (cs' := (bl V2).set y.toNat (.bool true)) (tot' := 25) (pk [1, 0] H12)
    generalize h12.set b4 _ = h13 at H13 ⊢
    rw [bl_add (p := under R[i.toNat].2 nm) (by omega) (by omega)] at H13
    have r35 := row_at (seps_tail H13)
    have t13 := RT.of hl (seps_tail (seps_tail (seps_tail (seps_tail (seps_tail (seps_tail H13))))))
    obtain ⟨a3, ha3, hc3⟩ := int_at (oI t13) hji
    rw [hyy, Nat.mul_one] at hc3
    refine ld_b (s := .slice) r35 (x := i') rfl (pIdx_i (by omega) (by omega) (pSome_i ha3 (pLd_i (s := .int .i64) _ hc3 ?_)))
    refine app_int (pk [2] H13) (by rw [List.length_map, List.length_drop]; omega) fun s5 h14 H14 => ?_
    -- s5, b4, b35, s4, ..
    obtain ⟨a4, ha4, hc4⟩ := str_at (own_at (pk [5] H14)) (j := i.toNat) (by rw [List.length_map]; exact hin)
    rw [List.getElem_map, Nat.mul_one] at hc4
    have e47 : (⟨#[47]⟩ : ByteArray) = slash := rfl
    rw [e47]
    have z1 : (R[i.toNat].2 ++ slash).size = R[i.toNat].2.size + 1 := by rw [ByteArray.size_append]; rfl
    refine pIdx_i (by omega) (by omega) (pSome_i ha4 (pLd_i (s := .str) _ hc4 (pAssert_i (show R[i.toNat].2.size + 1 < _ by omega) ?_)))
    have t14 := RT.of hl (seps_tail (seps_tail (seps_tail (seps_tail (seps_tail (seps_tail H14))))))
    obtain ⟨a5, ha5, hc5⟩ := str_at (oN t14) hjn
    rw [hnn, Nat.mul_one] at hc5
    refine ld_b (s := .slice) (row_at (seps_tail (seps_tail H14))) (x := n') rfl (pIdx_i (by omega) (by omega) (pSome_i ha5 (pLd_i (s := .str) _ hc5 (pAssert_i (by rw [z1]; omega) ?_))))
    refine app_str (pk [3] H14) (by rw [List.length_map, List.length_drop]; omega) fun s6 h15 H15 => ?_
    refine step s5 s6 h15 (V2 ++ [(y, under R[i.toNat].2 nm)]) (by unfold addE; rw [if_pos (by simp only; rw [hs, hd2]; rfl)]) ?_
    rw [List.drop_append_of_le_length hVl2, List.map_append, List.map_append]
    exact pk [3, 2, 1, 0] H15

theorem of_law {h : Heap} {s : Sl} {l : List Op} (hs : SlE Op.enc 6 h s l) (hl : s.len ≤ 9223372036854775807) (ino : Int) {KP K : Value → Pr} (k : ∀ h', K (.bool true) h') :
    WpCall Tryd.prog 5 #[.slice s.base s.len s.cap, .int .i64 ino] KP K h := by
  refine law22_PathsOf_call s ino ?_
  unfold law22_PathsOf
  refine alive22_s (seps_one (p := rdE Op.enc 6 s l) hs) fun h1 H => ⟨true, rfl, pIf_f rfl ?_⟩
  refine built_s H hl (fun h2 => ⟨(none, none, ()), rfl, ?_⟩) (fun bt bw T h2 x H => ⟨(some ⟨bt, 0, none⟩, some ⟨bw, 0, none⟩, ()), rfl, ?_⟩)
  · unfold pJoin law22_PathsOf_j1
    exact pIf_t rfl (fgt_mk (k _))
  · unfold pJoin law22_PathsOf_j1
    have v := prog_inv H
    refine pIf_f rfl (of_s H x fun h3 H => ⟨_, rfl, ?_⟩)
    refine refOf_s (f1 H) v x fun h4 H => ⟨_, rfl, ?_⟩
    dsimp only
    rw [strEq_self]
    exact fgt_mk (k _)
end Go.Proofs.YtkbcneomjkfheaaDoor
