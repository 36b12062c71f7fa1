/- Oracles for the corpus: strings.Join, halberdref05.Digits, beside those of asm. -/
import Derived.Test.YtahmmlebelhamaaGreatDoorX5
import Derived.Test.YtahmmlebelhamaaGreatDoorDG
import Derived.Test.YtahmmlebelhamaaGreatDoorSh
set_option linter.unusedVariables false
set_option linter.unusedSimpArgs false
namespace Go.Proofs.YtahmmlebelhamaaGreatDoor
open Go.Hl Go.RowKit Go.Sort Go.Lib
attribute [local irreducible] loadF zc sizeP bytesP vcBody pInvoke
def tailE : List SV → List UInt8 → Option (List UInt8)
  | [], _ => some []
  | .str x :: l, sep => match tailE l sep with
    | some t => some (sep ++ (x ++ t))
    | none => none
  | _ :: _, _ => none
theorem tailE_eq {r : Ro} : ∀ (l : List SV) (sep t : List UInt8) (vs : List Value), tailE l sep = some t → SDl r l vs → ∃ xs : List ByteArray, vs = xs.map Value.string ∧ Lib.joinTail sep (xs.map (·.data.toList)) = t
  | [], _, _, _, h, s => by cases h; exact ⟨[], s, rfl⟩
  | .str x :: l, sep, t, vs, h, s => by
    unfold tailE at h
    cases ht : tailE l sep with
    | none => rw [ht] at h; cases h
    | some t' =>
      rw [ht] at h; cases h
      obtain ⟨y, z, rfl, h1, h2⟩ := s
      obtain ⟨xs, rfl, h3⟩ := tailE_eq l sep t' z ht h2
      refine ⟨⟨⟨x⟩⟩ :: xs, by rw [show y = Value.string ⟨⟨x⟩⟩ from h1]; rfl, ?_⟩
      simp only [Lib.joinTail, List.map_cons, List.flatten_cons, List.append_assoc] at h3 ⊢
      rw [← h3]
  | .int .. :: _, _, _, _, h, _ => by cases h
  | .sint .. :: _, _, _, _, h, _ => by cases h
  | .ostr .. :: _, _, _, _, h, _ => by cases h
  | .bool .. :: _, _, _, _, h, _ => by cases h
  | .ptr .. :: _, _, _, _, h, _ => by cases h
  | .sl .. :: _, _, _, _, h, _ => by cases h
  | .map .. :: _, _, _, _, h, _ => by cases h
  | .fn .. :: _, _, _, _, h, _ => by cases h
  | .agg .. :: _, _, _, _, h, _ => by cases h
  | .tup .. :: _, _, _, _, h, _ => by cases h
  | .ifc .. :: _, _, _, _, h, _ => by cases h
  | .nifc :: _, _, _, _, h, _ => by cases h
  | .nfn :: _, _, _, _, h, _ => by cases h
def capOk (len : Nat) : Cp → Bool
  | .lit c => Nat.ble len c
  | .sym _ => true
/-- Of one element or more. -/
noncomputable def xJoin (a : List SV) (k : SV → ER) : ER := match a with
  | [.sl ⟨some ⟨b, o⟩, len, c⟩, .str sep] => fun H => (match capOk len c with
    | true => H.row b fun cs _ => (match subR cs o len with
      | some old => (match flatR old with
        | .str x :: l => (match tailE l sep with
          | some t => (match Nat.ble (x ++ t).length 140737488355328 && Nat.ble len 140737488355328 with
            | true => k (.str (x ++ t)) H
            | false => false)
          | none => false)
        | _ => false)
      | none => false)
    | false => false)
  | _ => eF
theorem xjoin {r : Ro} {h0 : Heap} {H : CH} {h : Heap} (S : Sat r h0 H h) {a : List SV} {a' : List Value} (ha : SDl r a a') {k : SV → ER} {KP k' : Value → Pr} (K : KR r h0 k k') (e : xJoin a k H = true) : WpCall Tryz.prog 27 a'.toArray KP k' h := by
  unfold xJoin at e
  split at e
  · rename_i b o len c sep
    obtain ⟨_, _, rfl, h1, _, _, rfl, h2, rfl⟩ := ha
    obtain ⟨s1, ⟨⟨y, hy, p', hp', rfl⟩, hlen, hcap⟩, rfl⟩ := h1
    rw [show _ = Value.string ⟨⟨sep⟩⟩ from h2, hy]
    have hlen : s1.len = len := hlen
    rw [hlen]
    split at e
    · rename_i hlc
      have hlc : len ≤ s1.cap := by
        cases c with
        | lit n =>
          have hcap : s1.cap = n := hcap
          rw [hcap]; exact Nat.le_of_ble_eq_true hlc
        | sym z =>
          obtain ⟨_, _, _, _, _, q⟩ := hcap
          exact Nat.le_trans (Nat.le_of_eq hlen.symm) q
      obtain ⟨cs, rm, p, pre, mid, rest, tot, hg, e, hp, hh, hl, ⟨hd, ro⟩, hr, ht⟩ := row_inv S e
      obtain rfl : p = p' := Option.some.inj (hp.symm.trans hp')
      split at e
      · rename_i old hold
        obtain ⟨g1, g2, g3⟩ := subR_eq ro hold
        split at e
        · rename_i x l hfl
          split at e
          · rename_i t htl
            split at e
            · rename_i hb
              rw [Bool.and_eq_true] at hb
              have hb1 := Nat.le_of_ble_eq_true hb.1
              have hb2 := Nat.le_of_ble_eq_true hb.2
              have hsd : SDl r (flatR old) ((mid.drop o).take len) := by rw [g3]; exact (hd.drop o).take len
              have hml : ((mid.drop o).take len).length = len := by
                have := hd.len
                simp only [List.length_take, List.length_drop]; omega
              rw [hfl] at hsd
              obtain ⟨v0, vs, hvs, hx, hsl⟩ := hsd
              obtain ⟨xs, rfl, hxt⟩ := tailE_eq l sep t vs htl hsl
              have hall : ((mid.drop o).take len) = ((⟨⟨x⟩⟩ : ByteArray) :: xs).map Value.string := by rw [hvs, show v0 = Value.string ⟨⟨x⟩⟩ from hx]; rfl
              have hnn : ((⟨⟨x⟩⟩ : ByteArray) :: xs).length = len := by rw [← hml, hall, List.length_map]
              have hj : Lib.join ((((⟨⟨x⟩⟩ : ByteArray) :: xs)).map (·.data.toList)) sep = x ++ t := by
                rw [List.map_cons, Lib.join_cons, hxt]
              refine WpCall.of_below (v := .string ⟨⟨x ++ t⟩⟩) (Tryz.call27 _) (fun w r => ?_) (K.now S (by exact rfl) e)
              have rr := r _ _ hh
              have := Tryz.strings_Join p.b (p.o + o) s1.cap ((⟨⟨x⟩⟩ : ByteArray) :: xs) ⟨⟨sep⟩⟩ w (fun j z hz => ?_) (r.lt hh) (by omega) (by omega) (by show (Lib.join _ sep).length ≤ _; rw [hj]; exact hb1)
              · rw [hnn] at this
                refine this.mono fun e w' ⟨he, hw⟩ => ⟨?_, hw⟩
                rw [he]
                show Ending.returned (.string ⟨(Lib.join _ sep).toArray⟩) = _
                rw [hj]
              · refine row_cell rr ?_ none rfl
                have hjl : j < len := by
                  rcases Nat.lt_or_ge j len with q | q
                  · exact q
                  · rw [List.getElem?_eq_none (by omega)] at hz; cases hz
                have hmid : mid[o + j]? = some (.string z) := by
                  have h1 : ((mid.drop o).take len)[j]? = mid[o + j]? := by rw [List.getElem?_take_of_lt hjl, List.getElem?_drop]
                  rw [← h1, hall, List.getElem?_map, hz]; rfl
                have hom : o + j < mid.length := by
                  rcases Nat.lt_or_ge (o + j) mid.length with q | q
                  · exact q
                  · rw [List.getElem?_eq_none q] at hmid; cases hmid
                rw [List.getElem?_append_right (by omega), show p.o + o + j - pre.length = o + j by omega, List.getElem?_append_left hom]
                exact hmid
            · cases e
          · cases e
        · cases e
      · cases e
    · cases e
  · exact eF_no e
noncomputable def xDigits (a : List SV) (k : SV → ER) : ER := match a with
  | [.int .i64 n] => fun H => (match numE n with
    | some l => k (.str l) H
    | none => false)
  | _ => eF
theorem xdigits {r : Ro} {h0 : Heap} {H : CH} {h : Heap} (S : Sat r h0 H h) {a : List SV} {a' : List Value} (ha : SDl r a a') {k : SV → ER} {KP k' : Value → Pr} (K : KR r h0 k k') (e : xDigits a k H = true) : WpCall Tryz.prog 38 a'.toArray KP k' h := by
  unfold xDigits at e
  split at e
  · rename_i n
    obtain ⟨_, _, rfl, h1, rfl⟩ := ha
    rw [show _ = Value.int .i64 n from h1]
    split at e
    · rename_i l hl
      obtain ⟨hi, hn1, hn2⟩ := numE_eq _ _ hl
      refine WpCall.of_below (v := .string ⟨⟨l⟩⟩) (Tryz.call38 _) (fun w r => ?_) (K.now S (by exact rfl) e)
      refine (digits_calls n w hn1 hn2).mono fun e w' ⟨he, hb⟩ => ⟨?_, hb⟩
      rw [he, hi]
    · cases e
  · exact eF_no e
noncomputable def extW : Cal := fun f a k => match Nat.beq f 27 with
  | true => xJoin a k
  | false => match Nat.beq f 38 with
    | true => xDigits a k
    | false => extZ f a k
theorem extW_ok : CalOk Tryz.prog extW := fun r h0 H h f a a' k KP k' S ha K e => by
  unfold extW at e
  cases h1 : Nat.beq f 27 with
  | true => simp only [h1] at e; have := Nat.eq_of_beq_eq_true h1; subst this; exact xjoin S ha K e
  | false =>
    simp only [h1] at e
    cases h2 : Nat.beq f 38 with
    | true => simp only [h2] at e; have := Nat.eq_of_beq_eq_true h2; subst this; exact xdigits S ha K e
    | false => simp only [h2] at e; exact extZ_ok r h0 H h f a a' k KP k' S ha K e
end Go.Proofs.YtahmmlebelhamaaGreatDoor
