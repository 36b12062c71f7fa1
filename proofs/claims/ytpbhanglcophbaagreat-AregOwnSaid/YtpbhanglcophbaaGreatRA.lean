/- AregOwn: no state that is handed in to an operation, a load, a store, a jump or a call of areg is changed; the beginning is the document's. Conditions: none beyond the given statement's. -/
import Derived.Test.YtpbhanglcophbaaGreatRows
import Derived.WalkKit
import Derived.ProofKit
import Derived.OpenShut
import Derived.ChangeMaps5
import Derived.Test.YtpbhanglcophbaaGreatF
namespace Go.Proofs.YtpbhanglcophbaaGreat.aregOwn
open Go.ChangeShapes Go.WideShapes Go.ChangeAt Go.RowKit Go.ChangeMaps Go.Hl
set_option linter.unusedVariables false
set_option linter.unusedSimpArgs false
set_option linter.unnecessarySimpa false

theorem own : ownKnob Tryz.prog.godebug = none := by kernel_rfl
theorem laidOut : laidOutB Tryz.prog = true := by kernel_rfl
theorem u64_of {n : Int} (w : (Lit.int .u64 n).wf = true) : ((BitVec.ofInt 64 n).toNat : Int) = n := by
  have := wf_u64 w
  rw [BitVec.toNat_ofInt]; omega
theorem i64_of {n : Int} (w : (Lit.int .i64 n).wf = true) : (BitVec.ofInt 64 n).toInt = n := by
  have := wf_i64 w
  have h1 := w_i64 n
  rw [← h1, IntKind.wrap_i64]; omega
theorem vals_app {h : Heap} {a : Addr} {m k : Nat} {xs ys : List Value} (h1 : h.vals a m = some xs) (h2 : h.vals (a.add m) k = some ys) : h.vals a (m + k) = some (xs ++ ys) := by
  have hs := (vals_cell h1).1
  have key : ∀ cs : List Value, cut cs a.off m = some xs → cut cs (a.off + m) k = some ys → cut cs a.off (m + k) = some (xs ++ ys) := fun cs e1 e2 => by
    unfold cut at e1 e2 ⊢
    split at e1
    · split at e2
      · rename_i q1 q2
        rw [if_pos (by omega)]
        cases e1; cases e2
        congr 1
        rw [List.take_add, List.drop_drop]
      · cases e2
    · cases e1
  unfold Heap.vals at h1 h2 ⊢
  rw [hs] at h1 ⊢
  rw [add_spot hs, add_block, add_off] at h2
  simp only at h1 h2 ⊢
  split at h1
  · rename_i cs tot e
    rw [e] at h2
    exact key _ h1 h2
  · rename_i c t f e
    rw [e] at h2
    exact key _ h1 h2
  · cases h1
theorem slE_valsE {α : Type} {enc : α → List Value} {z : Nat} {h : Heap} {s : Sl} {xs : List α} (e : SlE enc z h s xs) : s.valsE z h (xs.flatMap enc) := by
  obtain ⟨e1, e2⟩ := e
  by_cases hx : xs = []
  · exact .inl ⟨by rw [e1, hx]; rfl, by rw [hx]; rfl⟩
  · have h0 : 0 < xs.length := List.length_pos_iff.2 hx
    obtain ⟨a, ha, _⟩ := e2 0 h0
    have each : ∀ i (hi : i < xs.length), h.vals (a.add (i * z)) z = some (enc xs[i]) := fun i hi => by
      obtain ⟨b, hb, hv⟩ := e2 i hi
      rw [ha] at hb; cases hb; exact hv
    have all : ∀ n, n < xs.length → h.vals a ((n + 1) * z) = some ((xs.take (n + 1)).flatMap enc) := fun n => by
      induction n with
      | zero =>
        intro hn
        have := each 0 hn
        rw [Nat.zero_mul] at this
        rw [Nat.one_mul, List.take_add_one]
        simp only [List.take_zero, List.nil_append, List.getElem?_eq_getElem hn, Option.toList_some, List.flatMap_cons, List.flatMap_nil, List.append_nil]
        exact this
      | succ n ih =>
        intro hn
        have := vals_app (ih (by omega)) (each (n + 1) hn)
        rw [show (n + 1 + 1) * z = (n + 1) * z + z by rw [Nat.add_mul (n + 1) 1 z, Nat.one_mul], this]
        have e : xs.take (n + 1 + 1) = xs.take (n + 1) ++ [xs[n + 1]] := by rw [List.take_add_one]; simp [hn]
        rw [e, List.flatMap_append]; simp
    refine .inr ?_
    unfold Sl.vals
    rw [ha]
    simp only
    have := all (xs.length - 1) (by omega)
    rw [show xs.length - 1 + 1 = xs.length by omega, List.take_length] at this
    rw [e1]; exact this
abbrev abTy : List CTy := [.int .i64, .int .u64, .int .u64, .int .u64, .int .u64, .int .i64, .int .i64, .int .i64, .int .i64, .int .i64, .bool, .int .i64]
abbrev plTy : List CTy := [.int .i64, .int .u64, .int .u64, .int .u64, .int .u64, .int .i64, .int .i64, .int .i64, .int .i64, .int .i64, .bool, .int .i64, .bool, .bool, .bool, .bool, .bool, .bool, .bool, .bool]
abbrev inTy : List CTy := [.int .u8, .int .u8, .int .u8, .int .i16, .int .i32]
abbrev mpTy : List CTy := [.int .i64, .int .i64, .int .i64, .int .i64]
def stTy : List CTy := (List.replicate 11 abTy).flatten ++ ((List.replicate 8 plTy).flatten ++ [.slice [.int .i64], .int .i64])
theorem ab_of {W : World} {r : List CTy} {cs : List Value} (h : COks W (abTy ++ r) cs) : ∃ (a : Ab) (cs' : List Value), cs = a.enc ++ cs' ∧ COks W r cs' := by
  obtain ⟨x0, _, rfl, w0, h1_⟩ := COks.int' h
  obtain ⟨x1, _, rfl, w1, h2_⟩ := COks.int' h1_
  obtain ⟨x2, _, rfl, w2, h3_⟩ := COks.int' h2_
  obtain ⟨x3, _, rfl, w3, h4_⟩ := COks.int' h3_
  obtain ⟨x4, _, rfl, w4, h5_⟩ := COks.int' h4_
  obtain ⟨x5, _, rfl, w5, h6_⟩ := COks.int' h5_
  obtain ⟨x6, _, rfl, w6, h7_⟩ := COks.int' h6_
  obtain ⟨x7, _, rfl, w7, h8_⟩ := COks.int' h7_
  obtain ⟨x8, _, rfl, w8, h9_⟩ := COks.int' h8_
  obtain ⟨x9, _, rfl, w9, h10_⟩ := COks.int' h9_
  obtain ⟨x10, _, rfl, h11_⟩ := COks.bool' h10_
  obtain ⟨x11, cs', rfl, w11, h12_⟩ := COks.int' h11_
  refine ⟨⟨x0, ⟨⟨BitVec.ofInt 64 x1, BitVec.ofInt 64 x2⟩, BitVec.ofInt 64 x3, BitVec.ofInt 64 x4, BitVec.ofInt 64 x5, BitVec.ofInt 64 x6⟩, BitVec.ofInt 64 x7, BitVec.ofInt 64 x8, x9, x10, x11⟩, cs', ?_, h12_⟩
  simp only [Ab.enc, u64_of w1, u64_of w2, u64_of w3, u64_of w4, i64_of w5, i64_of w6, i64_of w7, i64_of w8, List.cons_append, List.nil_append]
theorem bits_of (b0 b1 b2 b3 b4 b5 b6 b7 : Bool) : ∃ x : BitVec 8, bits8 x = [.bool b0, .bool b1, .bool b2, .bool b3, .bool b4, .bool b5, .bool b6, .bool b7] := by
  have key : ∀ b0 b1 b2 b3 b4 b5 b6 b7 : Bool, ∃ x : BitVec 8, x.getLsbD 0 = b0 ∧ x.getLsbD 1 = b1 ∧ x.getLsbD 2 = b2 ∧ x.getLsbD 3 = b3 ∧ x.getLsbD 4 = b4 ∧ x.getLsbD 5 = b5 ∧ x.getLsbD 6 = b6 ∧ x.getLsbD 7 = b7 := fun b0 b1 b2 b3 b4 b5 b6 b7 =>
    ⟨BitVec.ofNat 8 (b0.toNat + 2 * b1.toNat + 4 * b2.toNat + 8 * b3.toNat + 16 * b4.toNat + 32 * b5.toNat + 64 * b6.toNat + 128 * b7.toNat), by
      cases b0 <;> cases b1 <;> cases b2 <;> cases b3 <;> cases b4 <;> cases b5 <;> cases b6 <;> cases b7 <;> decide⟩
  obtain ⟨x, rfl, rfl, rfl, rfl, rfl, rfl, rfl, rfl⟩ := key b0 b1 b2 b3 b4 b5 b6 b7
  exact ⟨x, rfl⟩
theorem pl_of {W : World} {r : List CTy} {cs : List Value} (h : COks W (plTy ++ r) cs) : ∃ (a : Pl) (cs' : List Value), cs = a.enc ++ cs' ∧ COks W r cs' := by
  obtain ⟨a, _, rfl, h1_⟩ := ab_of (r := [.bool, .bool, .bool, .bool, .bool, .bool, .bool, .bool] ++ r) h
  obtain ⟨b0, _, rfl, h2_⟩ := COks.bool' h1_
  obtain ⟨b1, _, rfl, h3_⟩ := COks.bool' h2_
  obtain ⟨b2, _, rfl, h4_⟩ := COks.bool' h3_
  obtain ⟨b3, _, rfl, h5_⟩ := COks.bool' h4_
  obtain ⟨b4, _, rfl, h6_⟩ := COks.bool' h5_
  obtain ⟨b5, _, rfl, h7_⟩ := COks.bool' h6_
  obtain ⟨b6, _, rfl, h8_⟩ := COks.bool' h7_
  obtain ⟨b7, cs', rfl, h9_⟩ := COks.bool' h8_
  obtain ⟨x, hx⟩ := bits_of b0 b1 b2 b3 b4 b5 b6 b7
  refine ⟨⟨a, x⟩, cs', ?_, h9_⟩
  unfold Pl.enc
  rw [hx]
  simp only [List.append_assoc, List.cons_append, List.nil_append]
theorem rep_of {α : Type} {W : World} {T : List CTy} {enc : α → List Value} (of : ∀ {r : List CTy} {cs : List Value}, COks W (T ++ r) cs → ∃ (a : α) (cs' : List Value), cs = enc a ++ cs' ∧ COks W r cs') : ∀ (n : Nat) {r : List CTy} {cs : List Value}, COks W ((List.replicate n T).flatten ++ r) cs → ∃ L : List α, L.length = n ∧ ∃ cs' : List Value, cs = L.flatMap enc ++ cs' ∧ COks W r cs'
  | 0, r, cs, h => ⟨[], rfl, cs, rfl, h⟩
  | n + 1, r, cs, h => by
    rw [List.replicate_succ, List.flatten_cons, List.append_assoc] at h
    obtain ⟨a, cs1, rfl, h1⟩ := of h
    obtain ⟨L, hL, cs2, rfl, h2⟩ := rep_of of n h1
    exact ⟨a :: L, by simp [hL], cs2, by simp, h2⟩
theorem int1_of {W : World} (cs : List Value) (h : COks W [.int .i64] cs) : ∃ x : Int, cs = [.int .i64 x] ∧ True := by
  obtain ⟨x, _, rfl, _, h1_⟩ := COks.int' h
  obtain rfl := COks.nil' h1_
  exact ⟨x, rfl, trivial⟩
theorem st_of {W : World} {cs : List Value} (h : COks W stTy cs) : ∃ (s : St) (l : Sl), cs = stC s l ∧ l.valsE 1 (fixW W) (inC s.held) ∧ l.len = s.held.length := by
  obtain ⟨A, hA, _, rfl, h1_⟩ := rep_of ab_of 11 h
  obtain ⟨B, hB, _, rfl, h2_⟩ := rep_of pl_of 8 h1_
  obtain ⟨v, _, rfl, h1, h3_⟩ := h2_.cons'
  obtain ⟨n, _, rfl, _, h4_⟩ := COks.int' h3_
  obtain rfl := COks.nil' h4_
  obtain ⟨l, xs, rfl, _, he, _⟩ := open_slice (enc := fun n : Int => [.int .i64 n]) (φ := fun _ => True) h1 int1_of
  refine ⟨⟨⟨A, hA⟩, ⟨B, hB⟩, xs, n⟩, l, rfl, ?_, he.1⟩
  have := slE_valsE he
  have e : ∀ xs : List Int, xs.flatMap (fun n : Int => [Value.int .i64 n]) = inC xs := fun xs => by
    induction xs with
    | nil => rfl
    | cons a l ih => rw [List.flatMap_cons, ih]; rfl
  rw [← e]; exact this
theorem in_of {W : World} {cs : List Value} (h : COks W inTy cs) : ∃ i : In, cs = i.enc ∧ i.Ok := by
  obtain ⟨x0, _, rfl, w0, h1_⟩ := COks.int' h
  obtain ⟨x1, _, rfl, w1, h2_⟩ := COks.int' h1_
  obtain ⟨x2, _, rfl, w2, h3_⟩ := COks.int' h2_
  obtain ⟨x3, _, rfl, w3, h4_⟩ := COks.int' h3_
  obtain ⟨x4, _, rfl, w4, h5_⟩ := COks.int' h4_
  obtain rfl := COks.nil' h5_
  have q0 := wf_u8 w0
  have q1 := wf_u8 w1
  have q2 := wf_u8 w2
  have q3 := wf_i16 w3
  have q4 := wf_i32 w4
  refine ⟨⟨x0.toNat, x1.toNat, x2.toNat, x3, x4⟩, ?_, ⟨by show x0.toNat < 256; omega, by show x1.toNat < 256; omega, by show x2.toNat < 256; omega, by show -32768 ≤ x3 ∧ x3 < 32768; omega, by show -2147483648 ≤ x4 ∧ x4 < 2147483648; omega⟩⟩
  simp only [In.enc, Int.toNat_of_nonneg q0.1, Int.toNat_of_nonneg q1.1, Int.toNat_of_nonneg q2.1]
theorem mp_of {W : World} (cs : List Value) (h : COks W mpTy cs) : ∃ d : Mp, cs = d.enc ∧ d.Fit := by
  obtain ⟨x0, _, rfl, w0, h1_⟩ := COks.int' h
  obtain ⟨x1, _, rfl, w1, h2_⟩ := COks.int' h1_
  obtain ⟨x2, _, rfl, w2, h3_⟩ := COks.int' h2_
  obtain ⟨x3, _, rfl, w3, h4_⟩ := COks.int' h3_
  obtain rfl := COks.nil' h4_
  have q1 := wf_i64 w1
  have q2 := wf_i64 w2
  exact ⟨⟨x0, x1, x2, x3⟩, rfl, ⟨by show x1 < 9223372036854775808; omega, by show x2 < 9223372036854775808; omega⟩⟩

/-! ### THE ROW's STEP -/
set_option maxRecDepth 100000 in
theorem lifted (os : Os) (started : os.Started) (H : Type) (enc : TypeId × Value → H) :
    ReturnsInHanded {} Tryz.checked os 3 .any (Rows.aregOwnSpec.pre6 enc Tryz.prog Tryz.f3 Rows.aregOwnRow.domain false) (Rows.aregOwnSpec.post enc Tryz.prog Tryz.f3 false true false false) := by
  refine returnsInHanded_of_change (C := Tryz.checked) own started (by kernel_rfl) Tryz.func3
    (ChangeSpec.witness6 (enc := enc) (C := Tryz.checked) false ⟨#[], #[.agg #[.int .i64 0, .int .u64 0, .int .u64 0, .int .u64 0, .int .u64 0, .int .i64 0, .int .i64 0, .int .i64 0, .int .i64 0, .int .i64 0, .bool false, .int .i64 0, .int .i64 0, .int .u64 0, .int .u64 0, .int .u64 0, .int .u64 0, .int .i64 0, .int .i64 0, .int .i64 0, .int .i64 0, .int .i64 0, .bool false, .int .i64 0, .int .i64 0, .int .u64 0, .int .u64 0, .int .u64 0, .int .u64 0, .int .i64 0, .int .i64 0, .int .i64 0, .int .i64 0, .int .i64 0, .bool false, .int .i64 0, .int .i64 0, .int .u64 0, .int .u64 0, .int .u64 0, .int .u64 0, .int .i64 0, .int .i64 0, .int .i64 0, .int .i64 0, .int .i64 0, .bool false, .int .i64 0, .int .i64 0, .int .u64 0, .int .u64 0, .int .u64 0, .int .u64 0, .int .i64 0, .int .i64 0, .int .i64 0, .int .i64 0, .int .i64 0, .bool false, .int .i64 0, .int .i64 0, .int .u64 0, .int .u64 0, .int .u64 0, .int .u64 0, .int .i64 0, .int .i64 0, .int .i64 0, .int .i64 0, .int .i64 0, .bool false, .int .i64 0, .int .i64 0, .int .u64 0, .int .u64 0, .int .u64 0, .int .u64 0, .int .i64 0, .int .i64 0, .int .i64 0, .int .i64 0, .int .i64 0, .bool false, .int .i64 0, .int .i64 0, .int .u64 0, .int .u64 0, .int .u64 0, .int .u64 0, .int .i64 0, .int .i64 0, .int .i64 0, .int .i64 0, .int .i64 0, .bool false, .int .i64 0, .int .i64 0, .int .u64 0, .int .u64 0, .int .u64 0, .int .u64 0, .int .i64 0, .int .i64 0, .int .i64 0, .int .i64 0, .int .i64 0, .bool false, .int .i64 0, .int .i64 0, .int .u64 0, .int .u64 0, .int .u64 0, .int .u64 0, .int .i64 0, .int .i64 0, .int .i64 0, .int .i64 0, .int .i64 0, .bool false, .int .i64 0, .int .i64 0, .int .u64 0, .int .u64 0, .int .u64 0, .int .u64 0, .int .i64 0, .int .i64 0, .int .i64 0, .int .i64 0, .int .i64 0, .bool false, .int .i64 0, .int .i64 0, .int .u64 0, .int .u64 0, .int .u64 0, .int .u64 0, .int .i64 0, .int .i64 0, .int .i64 0, .int .i64 0, .int .i64 0, .bool false, .int .i64 0, .bool false, .bool false, .bool false, .bool false, .bool false, .bool false, .bool false, .bool false, .int .i64 0, .int .u64 0, .int .u64 0, .int .u64 0, .int .u64 0, .int .i64 0, .int .i64 0, .int .i64 0, .int .i64 0, .int .i64 0, .bool false, .int .i64 0, .bool false, .bool false, .bool false, .bool false, .bool false, .bool false, .bool false, .bool false, .int .i64 0, .int .u64 0, .int .u64 0, .int .u64 0, .int .u64 0, .int .i64 0, .int .i64 0, .int .i64 0, .int .i64 0, .int .i64 0, .bool false, .int .i64 0, .bool false, .bool false, .bool false, .bool false, .bool false, .bool false, .bool false, .bool false, .int .i64 0, .int .u64 0, .int .u64 0, .int .u64 0, .int .u64 0, .int .i64 0, .int .i64 0, .int .i64 0, .int .i64 0, .int .i64 0, .bool false, .int .i64 0, .bool false, .bool false, .bool false, .bool false, .bool false, .bool false, .bool false, .bool false, .int .i64 0, .int .u64 0, .int .u64 0, .int .u64 0, .int .u64 0, .int .i64 0, .int .i64 0, .int .i64 0, .int .i64 0, .int .i64 0, .bool false, .int .i64 0, .bool false, .bool false, .bool false, .bool false, .bool false, .bool false, .bool false, .bool false, .int .i64 0, .int .u64 0, .int .u64 0, .int .u64 0, .int .u64 0, .int .i64 0, .int .i64 0, .int .i64 0, .int .i64 0, .int .i64 0, .bool false, .int .i64 0, .bool false, .bool false, .bool false, .bool false, .bool false, .bool false, .bool false, .bool false, .int .i64 0, .int .u64 0, .int .u64 0, .int .u64 0, .int .u64 0, .int .i64 0, .int .i64 0, .int .i64 0, .int .i64 0, .int .i64 0, .bool false, .int .i64 0, .bool false, .bool false, .bool false, .bool false, .bool false, .bool false, .bool false, .bool false, .int .i64 0, .int .u64 0, .int .u64 0, .int .u64 0, .int .u64 0, .int .i64 0, .int .i64 0, .int .i64 0, .int .i64 0, .int .i64 0, .bool false, .int .i64 0, .bool false, .bool false, .bool false, .bool false, .bool false, .bool false, .bool false, .bool false, .slice none 0 0, .int .i64 0], .agg #[.int .u8 0, .int .u8 0, .int .u8 0, .int .i16 0, .int .i32 0], .int .i64 0, .int .i64 0, .slice none 0 0], []⟩ 8 (by kernel_rfl) (by kernel_rfl) (by kernel_rfl) (by kernel_rfl)) ?_
  intro W base args ds gs before hval0 hW hcnd _
  have hval : ∀ (j : Nat) t v, Tryz.f3.params[j]? = some t → args[j]? = some v → Value.okWide Tryz.prog W .any base t v := hval0
  have hW' := hW
  obtain ⟨p, q, hA0, hV, rfl, hfz, hnd⟩ := hW
  have hA : DataW.TrodAll enc Tryz.prog W 0 (fun _ => true) true Tryz.f3.params.toList args.toList ds p := hA0
  rw [Tryz.params3] at hA hval
  obtain ⟨v0, vs0, d0, ds0, p0, q0, hargs, rfl, rfl, h0, r0⟩ := trodAll_cons hA
  obtain ⟨v1, vs1, d1, ds1, p1, q1, rfl, rfl, rfl, h1, r1⟩ := trodAll_cons r0
  obtain ⟨v2, vs2, d2, ds2, p2, q2, rfl, rfl, rfl, h2, r2⟩ := trodAll_cons r1
  obtain ⟨v3, vs3, d3, ds3, p3, q3, rfl, rfl, rfl, h3, r3⟩ := trodAll_cons r2
  obtain ⟨v4, vs4, d4, ds4, p4, q4, rfl, rfl, rfl, h4, r4⟩ := trodAll_cons r3
  obtain ⟨rfl, rfl, rfl⟩ := trodAll_nil r4
  obtain rfl : args = #[v0, v1, v2, v3, v4] := by cases args; simp_all
  obtain ⟨rfl, rfl⟩ := trodVars_none hV
  obtain ⟨cs0, hv0, hn0⟩ := okWide_struct Tryz.underlying36 (hval 0 _ v0 rfl rfl)
  subst hv0
  have hc0 := open_cok (l := stTy) (by kernel_rfl) h0
  obtain ⟨s0, l0, hs0, hl0, hll0⟩ := st_of hc0; obtain rfl : cs0 = (stC s0 l0).toArray := by rw [← hs0]; rfl
  obtain ⟨cs1, hv1, hn1⟩ := okWide_struct Tryz.underlying39 (hval 1 _ v1 rfl rfl)
  subst hv1
  have hc1 := open_cok (l := inTy) (by kernel_rfl) h1
  obtain ⟨i1, hi1, oi1⟩ := in_of hc1; obtain rfl : cs1 = i1.enc.toArray := by rw [← hi1]; rfl
  obtain ⟨a2, rfl, rfl, rfl, w2⟩ := open_int Tryz.underlying3 (hval 2 3 v2 rfl rfl) h2
  obtain ⟨a3, rfl, rfl, rfl, w3⟩ := open_int Tryz.underlying3 (hval 3 3 v3 rfl rfl) h3
  have hc4 := open_cok (l := [.slice mpTy]) (by kernel_rfl) h4
  obtain ⟨sb4, sl4, sc4, hv4⟩ := okWide_slice Tryz.underlying40 (hval 4 _ v4 rfl rfl)
  subst hv4
  obtain ⟨s4, l4, hse4, hs4, he4, hp4⟩ := open_slice (enc := Mp.enc) (φ := Mp.Fit) hc4.1 mp_of
  rw [hse4] at h4 hW' ⊢
  clear hA0 hval0
  have hlt : ∀ x ∈ p0 ++ (p1 ++ (p4)), x.block < W.heap.size := fun x hx => by simpa using hW'.lt x (by simpa [or_assoc] using hx)
  simp only [List.append_nil, List.nil_append] at hW'
  refine ((aregOwn_law (KP := fun _ _ => False) (K := fun u _ => u = .bool true) (s := s0) (l := l0) (i := i1) (D := l4) (dl := s4) oi1 hl0 hll0 (slE_valsE he4) he4.1 hp4 rfl).law Tryz.call3 (fixW_quiet W) (fixW_R W)).mono fun e W' ⟨he, hg⟩ => ?_
  subst he
  exact ⟨_, rfl, Go.Hl.post_below (pa := p0 ++ (p1 ++ (p4))) (pv := []) hW' hg (by simp) (fun _ _ _ => (trodAll_cons_mk (shut_bool Tryz.underlying4 _) trodAll_mk0)) (fun sp hsp => by have := (trodAll_cons_mk (WideElems.Trod_stays laidOut (by kernel_rfl) (of_decide_eq_true (by kernel_rfl)) h0 (fun x hx => hg.same (hlt x (by simp [hx]))) (fun x hx => hsp x (by simp [hx]))) (trodAll_cons_mk (WideElems.Trod_stays laidOut (by kernel_rfl) (of_decide_eq_true (by kernel_rfl)) h1 (fun x hx => hg.same (hlt x (by simp [hx]))) (fun x hx => hsp x (by simp [hx]))) (trodAll_cons_mk (shut_int Tryz.underlying3 w2) (trodAll_cons_mk (shut_int Tryz.underlying3 w3) (trodAll_cons_mk (WideElems.Trod_stays laidOut (by kernel_rfl) (of_decide_eq_true (by kernel_rfl)) h4 (fun x hx => hg.same (hlt x (by simp [hx]))) (fun x hx => hsp x (by simp [hx]))) (trodAll_mk0 (enc := enc) (P := Tryz.prog) (w := W') (base := 0) (spare := sp) (held := true))))))); simp only [List.append_nil, List.nil_append] at this; exact this) (fun _ _ => rfl)
    (ok_one (by kernel_rfl) rfl (okWide_bool_mk Tryz.underlying4 _))⟩

theorem over : Rows.aregOwnRow.holds Tryz.pinned (OpenSpec.ofChange Rows.aregOwnSpec) :=
  OpenClaim.holds_of_wide 3 Tryz.f3 rfl rfl rfl rfl rfl rfl rfl ⟨rfl, rfl, rfl, rfl, rfl⟩ rfl rfl rfl rfl rfl (by kernel_rfl) Tryz.func3 (by kernel_rfl)
    (of_decide_eq_true (by kernel_rfl)) (by unfold Func.isWrapper; first | (rw [if_pos (by decide +kernel)]; kernel_rfl) | (rw [if_neg (by decide +kernel)]; exact ⟨rfl, rfl⟩))
    (fun os started H enc _ => lifted os started H enc)

/-- ████ THE STATEMENT ████ -/
theorem proved : Rows.AregOwnSaid :=
  over
#print axioms proved
end Go.Proofs.YtpbhanglcophbaaGreat.aregOwn
