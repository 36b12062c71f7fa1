/- More oracles of the seat r4: slices.Delete (of one element), strings.Join, strconv.Itoa. -/
import Derived.Test.YtnpcjhcgbcpcoaaGreatDoorX3
import Derived.Test.YtnpcjhcgbcpcoaaGreatDoorSh
set_option linter.unusedVariables false
set_option linter.unusedSimpArgs false
namespace Go.Proofs.YtnpcjhcgbcpcoaaGreatDoor
open Go.Hl Go.RowKit Go.Sort Go.Lib
attribute [local irreducible] loadF zc sizeP bytesP vcBody pInvoke

/-- A contract of the shelf: what there was stays. -/
theorem WpCall.of_below {P : Program} {f : FuncId} {args : Array Value} {v : Value} {KP K : Value → Pr} {h : Heap} (hen : ∀ w, (callFunc f args).run P w = .ok (.enter f args) w)
    (c : ∀ w, R h w → Calls P f args w fun e w' => e = .returned v ∧ Below w.heap.size w w') (k : K v h) : WpCall P f args KP K h := ⟨fun w r => by
  unfold CallTo
  rw [hen w]
  refine (c w r).mono fun e w' ⟨he, hb⟩ => ?_
  subst he
  exact ⟨h, k, fun b x hx => by rw [hb.block b (r.lt hx)]; exact r b x hx, hb.os, hb.tape, hb.output, hb.size, fun b hlt _ => ⟨hb.block b hlt, .inr rfl⟩⟩⟩
theorem below_grow (w : World) (k : Nat) (os : Array Obj) : Below w.heap.size w (Go.Sort.grow (w.drewN k) os) :=
  ⟨rfl, rfl, rfl, by show _ ≤ (w.heap ++ os).size; simp, fun i hi => by show (w.heap ++ os)[i]? = _; rw [Array.getElem?_append_left hi]⟩
/- The decimal digits. -/
def digE : Nat → Nat → List UInt8 → Option (List UInt8)
  | 0, _, _ => none
  | f + 1, u, acc => match Nat.blt u 10 with
    | true => some (UInt8.ofNat (Nat.add 48 u) :: acc)
    | false => digE f (Nat.div u 10) (UInt8.ofNat (Nat.add 48 (Nat.mod u 10)) :: acc)
theorem digE_eq : ∀ (f u : Nat) (acc l : List UInt8), digE f u acc = some l → l = Lib.decDigits u ++ acc
  | 0, _, _, _, h => by cases h
  | f + 1, u, acc, l, h => by
    unfold digE at h
    rw [Lib.decDigits]
    cases hu : Nat.blt u 10 with
    | true =>
      simp only [hu] at h
      cases h
      rw [dif_pos (blt_iff.1 hu)]; rfl
    | false =>
      simp only [hu] at h
      have : ¬ u < 10 := fun hh => by rw [blt_iff.2 hh] at hu; cases hu
      rw [dif_neg this]
      have := digE_eq f _ _ _ h
      rw [this, List.append_assoc]; rfl
noncomputable def xItoa (a : List SV) (k : SV → ER) : ER := match a with
  | [.int .i64 (.ofNat n)] => fun H => (match H.t.get 0 with
    | some (.pow10 g) => (match Nat.beq g 1 && Nat.ble n 9223372036854775807 with
      | true => (match digE 25 n [] with
        | some l => k (.str l) H
        | none => false)
      | false => false)
    | _ => false)
  | _ => eF
theorem pow_named : Tryz.prog.globalNamed "internal/strconv.uint64pow10" = some 1 := by kernel_rfl
theorem xitoa {r : Ro} {h0 : Heap} {H : CH} {h : Heap} (S : Sat r h0 H h) {a : List SV} {a' : List Value} (ha : SDl r a a') {k : SV → ER} {KP k' : Value → Pr} (K : KR r h0 k k') (e : xItoa a k H = true) : WpCall Tryz.prog 177 a'.toArray KP k' h := by
  unfold xItoa at e
  split at e
  · rename_i n
    obtain ⟨_, _, rfl, h1, rfl⟩ := ha
    rw [show _ = Value.int .i64 (.ofNat n) from h1]
    split at e
    · rename_i g hg
      split at e
      · rename_i hc
        rw [Bool.and_eq_true] at hc
        have hgg := Nat.eq_of_beq_eq_true hc.1
        have hn := Nat.le_of_ble_eq_true hc.2
        split at e
        · rename_i l hl
          have hl := digE_eq _ _ _ _ hl
          rw [List.append_nil] at hl
          obtain ⟨ty, fr, hh⟩ := S.glob 0 g hg
          refine WpCall.of_below (v := .string ⟨⟨l⟩⟩) (Tryz.call177 _) (fun w r => ?_) (K.now S (by exact rfl) e)
          have hi : Lib.itoa (Int.ofNat n) = l := by rw [hl]; exact Lib.itoa_nonneg n
          refine (Tryz.strconv_Itoa (Int.ofNat n) (Int.le_trans (by decide) (Int.natCast_nonneg n)) (Int.ofNat_le.2 hn) w ?_).mono fun e w' ⟨he, kk, os, hw⟩ => ?_
          · have := r _ _ (S.le _ _ hh)
            show w.var? _ _ = _
            unfold World.var?
            rw [pow_named, ← hgg]
            simp only [Option.bind_some]
            rw [show w.heap[g]? = _ from this]
          · rw [hi] at he
            rw [hw]
            exact ⟨he, below_grow _ _ _⟩
        · cases e
      · cases e
    · cases e
  · exact eF_no e
def tailE : List SV → List UInt8 → Option (List UInt8)
  | [], _ => some []
  | .str x :: l, sep => match tailE l sep with
    | some t => some (sep ++ (x ++ t))
    | none => none
  | _ :: _, _ => none
theorem tailE_eq {r : Ro} : ∀ (l : List SV) (sep t : List UInt8) (vs : List Value), tailE l sep = some t → SDl r l vs → ∃ xs : List ByteArray, vs = xs.map Value.string ∧ Lib.joinTail sep (xs.map (·.data.toList)) = t
  | [], _, _, _, h, s => by cases h; exact ⟨[], s, rfl⟩
  | .str x :: l, sep, t, vs, h, s => by
    unfold tailE at h
    cases ht : tailE l sep with
    | none => rw [ht] at h; cases h
    | some t' =>
      rw [ht] at h; cases h
      obtain ⟨y, z, rfl, h1, h2⟩ := s
      obtain ⟨xs, rfl, h3⟩ := tailE_eq l sep t' z ht h2
      refine ⟨⟨⟨x⟩⟩ :: xs, by rw [show y = Value.string ⟨⟨x⟩⟩ from h1]; rfl, ?_⟩
      simp only [Lib.joinTail, List.map_cons, List.flatten_cons, List.append_assoc] at h3 ⊢
      rw [← h3]
  | .int .. :: _, _, _, _, h, _ => by cases h
  | .sint .. :: _, _, _, _, h, _ => by cases h
  | .ostr .. :: _, _, _, _, h, _ => by cases h
  | .bool .. :: _, _, _, _, h, _ => by cases h
  | .ptr .. :: _, _, _, _, h, _ => by cases h
  | .sl .. :: _, _, _, _, h, _ => by cases h
  | .map .. :: _, _, _, _, h, _ => by cases h
  | .fn .. :: _, _, _, _, h, _ => by cases h
  | .agg .. :: _, _, _, _, h, _ => by cases h
  | .tup .. :: _, _, _, _, h, _ => by cases h
  | .ifc .. :: _, _, _, _, h, _ => by cases h
  | .nifc :: _, _, _, _, h, _ => by cases h
  | .nfn :: _, _, _, _, h, _ => by cases h
def capOk (len : Nat) : Cp → Bool
  | .lit c => Nat.ble len c
  | .sym _ => true
/-- Of one element or more. -/
noncomputable def xJoin (a : List SV) (k : SV → ER) : ER := match a with
  | [.sl ⟨some ⟨b, o⟩, len, c⟩, .str sep] => fun H => (match capOk len c with
    | true => H.row b fun cs _ => (match subR cs o len with
      | some old => (match flatR old with
        | .str x :: l => (match tailE l sep with
          | some t => (match Nat.ble (x ++ t).length 140737488355328 && Nat.ble len 140737488355328 with
            | true => k (.str (x ++ t)) H
            | false => false)
          | none => false)
        | _ => false)
      | none => false)
    | false => false)
  | _ => eF
theorem xjoin {r : Ro} {h0 : Heap} {H : CH} {h : Heap} (S : Sat r h0 H h) {a : List SV} {a' : List Value} (ha : SDl r a a') {k : SV → ER} {KP k' : Value → Pr} (K : KR r h0 k k') (e : xJoin a k H = true) : WpCall Tryz.prog 178 a'.toArray KP k' h := by
  unfold xJoin at e
  split at e
  · rename_i b o len c sep
    obtain ⟨_, _, rfl, h1, _, _, rfl, h2, rfl⟩ := ha
    obtain ⟨s1, ⟨⟨y, hy, p', hp', rfl⟩, hlen, hcap⟩, rfl⟩ := h1
    rw [show _ = Value.string ⟨⟨sep⟩⟩ from h2, hy]
    have hlen : s1.len = len := hlen
    rw [hlen]
    split at e
    · rename_i hlc
      have hlc : len ≤ s1.cap := by
        cases c with
        | lit n =>
          have hcap : s1.cap = n := hcap
          rw [hcap]; exact Nat.le_of_ble_eq_true hlc
        | sym z =>
          obtain ⟨_, _, _, _, _, q⟩ := hcap
          exact Nat.le_trans (Nat.le_of_eq hlen.symm) q
      obtain ⟨cs, rm, p, pre, mid, rest, tot, hg, e, hp, hh, hl, ⟨hd, ro⟩, hr, ht⟩ := row_inv S e
      obtain rfl : p = p' := Option.some.inj (hp.symm.trans hp')
      split at e
      · rename_i old hold
        obtain ⟨g1, g2, g3⟩ := subR_eq ro hold
        split at e
        · rename_i x l hfl
          split at e
          · rename_i t htl
            split at e
            · rename_i hb
              rw [Bool.and_eq_true] at hb
              have hb1 := Nat.le_of_ble_eq_true hb.1
              have hb2 := Nat.le_of_ble_eq_true hb.2
              have hsd : SDl r (flatR old) ((mid.drop o).take len) := by rw [g3]; exact (hd.drop o).take len
              have hml : ((mid.drop o).take len).length = len := by
                have := hd.len
                simp only [List.length_take, List.length_drop]; omega
              rw [hfl] at hsd
              obtain ⟨v0, vs, hvs, hx, hsl⟩ := hsd
              obtain ⟨xs, rfl, hxt⟩ := tailE_eq l sep t vs htl hsl
              have hall : ((mid.drop o).take len) = ((⟨⟨x⟩⟩ : ByteArray) :: xs).map Value.string := by rw [hvs, show v0 = Value.string ⟨⟨x⟩⟩ from hx]; rfl
              have hnn : ((⟨⟨x⟩⟩ : ByteArray) :: xs).length = len := by rw [← hml, hall, List.length_map]
              have hj : Lib.join ((((⟨⟨x⟩⟩ : ByteArray) :: xs)).map (·.data.toList)) sep = x ++ t := by
                rw [List.map_cons, Lib.join_cons, hxt]
              refine WpCall.of_below (v := .string ⟨⟨x ++ t⟩⟩) (Tryz.call178 _) (fun w r => ?_) (K.now S (by exact rfl) e)
              have rr := r _ _ hh
              have := Tryz.strings_Join p.b (p.o + o) s1.cap ((⟨⟨x⟩⟩ : ByteArray) :: xs) ⟨⟨sep⟩⟩ w (fun j z hz => ?_) (r.lt hh) (by omega) (by omega) (by show (Lib.join _ sep).length ≤ _; rw [hj]; exact hb1)
              · rw [hnn] at this
                refine this.mono fun e w' ⟨he, hw⟩ => ⟨?_, hw⟩
                rw [he]
                show Ending.returned (.string ⟨(Lib.join _ sep).toArray⟩) = _
                rw [hj]
              · refine row_cell rr ?_ none rfl
                have hjl : j < len := by
                  rcases Nat.lt_or_ge j len with q | q
                  · exact q
                  · rw [List.getElem?_eq_none (by omega)] at hz; cases hz
                have hmid : mid[o + j]? = some (.string z) := by
                  have h1 : ((mid.drop o).take len)[j]? = mid[o + j]? := by rw [List.getElem?_take_of_lt hjl, List.getElem?_drop]
                  rw [← h1, hall, List.getElem?_map, hz]; rfl
                have hom : o + j < mid.length := by
                  rcases Nat.lt_or_ge (o + j) mid.length with q | q
                  · exact q
                  · rw [List.getElem?_eq_none q] at hmid; cases hmid
                rw [List.getElem?_append_right (by omega), show p.o + o + j - pre.length = o + j by omega, List.getElem?_append_left hom]
                exact hmid
            · cases e
          · cases e
        · cases e
      · cases e
    · cases e
  · exact eF_no e
/-- Of one element. -/
noncomputable def xDelete (args : List SV) (k : SV → ER) : ER := match args with
  | [.sl ⟨some ⟨b, 0⟩, len, .sym 0⟩, .int .i64 (.ofNat i), .int .i64 (.ofNat j)] => fun H => (match Nat.beq j (Nat.succ i) && Nat.blt i len with
    | true => (match Nat.blt H.n 1000000 with
      | true => H.row b fun cs rm => (match rm, subR cs 0 len with
        | .sym 1, some old => (match okN (flatR old) len && Nat.blt len 1000000000 with
          | true => k (.sl ⟨some ⟨H.n, 0⟩, Nat.pred len, .sym 0⟩) ((H.put b .dead).push (.row [(Nat.pred len, appL (takeL (flatR old) i) (dropL (flatR old) (Nat.succ i)))] (.sym 1)))
          | false => false)
        | _, _ => false)
      | false => false)
    | false => false)
  | _ => eF
theorem xdel_str {r : Ro} {h0 : Heap} {H : CH} {h : Heap} (S : Sat r h0 H h) {a : List SV} {a' : List Value} (ha : SDl r a a') {k : SV → ER} {KP k' : Value → Pr} (K : KR r h0 k k') (e : xDelete a k H = true) : WpCall Tryz.prog 171 a'.toArray KP k' h := by
  unfold xDelete at e
  split at e
  · rename_i b len i j
    obtain ⟨_, _, rfl, h1, _, _, rfl, h2, _, _, rfl, h3, rfl⟩ := ha
    obtain ⟨s1, ⟨hb, hlen, hcap⟩, rfl⟩ := h1
    rw [show _ = Value.int .i64 (.ofNat i) from h2, show _ = Value.int .i64 (.ofNat j) from h3]
    split at e
    · rename_i hc0
      rw [Bool.and_eq_true] at hc0
      have hji := Nat.eq_of_beq_eq_true hc0.1
      have hil := blt_iff.1 hc0.2
      simp only at e
      split at e
      · rename_i hn
        have hn := blt_iff.1 hn
        obtain ⟨cs, rm, p, pre, mid, rest, tot, hg, e, hp, hh, hl, ⟨hd, ro⟩, hr, ht⟩ := row_inv S e
        split at e
        · rename_i old hold
          split at e
          · rename_i hc3
            rw [Bool.and_eq_true] at hc3
            obtain ⟨c1, c3⟩ := hc3
            obtain ⟨d1, d2⟩ := okN_eq c1
            have c3 := blt_iff.1 c3
            obtain ⟨y, hy, p', hp', rfl⟩ := hb
            obtain rfl : p = p' := Option.some.inj (hp.symm.trans hp')
            obtain ⟨a3, p3, f1, f2, f3, f4⟩ := hcap
            cases f1
            obtain rfl : p = p3 := Option.some.inj (hp.symm.trans f2)
            have hpo : p.o = 0 := hr.1
            have hrc : p.o + p.c * 1 ≤ tot := hr.2
            have hlen : s1.len = len := hlen
            obtain ⟨g1, g2, g3⟩ := subR_eq ro hold
            have hpre : pre = [] := List.eq_nil_of_length_eq_zero (by omega)
            subst hpre
            have hmid := hd.len
            have hsd : SDl r (flatR old) (mid.take len) := by rw [g3, List.drop_zero]; exact hd.take len
            have hxs : (mid.take len).length = len := by rw [hsd.len]; exact d1
            have hrow1 : [] ++ (mid ++ rest) = mid.take len ++ (mid.drop len ++ rest) := by rw [List.nil_append, ← List.append_assoc, List.take_append_drop]
            have o : Has 1 h s1 (mid.take len) := ⟨by rw [hxs, hlen, Nat.mul_one], f4, .inr ⟨p.b, mid.drop len ++ rest, tot, by rw [hy]; simp only; rw [hpo], by rw [← hrow1]; exact hh, by omega⟩⟩
            refine WpCall.real ?_
            rw [show Value.int .i64 (.ofNat j) = .int .i64 ((i + 1 : Nat) : Int) by rw [hji]; rfl]
            refine deleteB_str (xs := mid.take len) (i := i) o (by omega) (ones_rel hsd d2) (by omega) fun s' h' u o' hs' hbs hw => ?_
            have hers : SDl r (appL (takeL (flatR old) i) (dropL (flatR old) (Nat.succ i))) ((mid.take len).eraseIdx i) := by
              rw [appL_eq, takeL_eq, dropL_eq, List.eraseIdx_eq_take_drop_succ]
              exact (hsd.take i).app (hsd.drop (i + 1))
            have hil' := hers.len
            have hel : ((mid.take len).eraseIdx i).length = len - 1 := by rw [List.length_eraseIdx, hxs, if_pos hil]
            obtain ⟨q1, q2, ⟨q5, q3, q4⟩ | ⟨b', rest', tot', q3, q4, q5⟩⟩ := o'
            · rw [q5, hy] at hbs; cases hbs
            · have hq1 : s'.len = len - 1 := by omega
              have hlf : (appL (takeL (flatR old) i) (dropL (flatR old) (Nat.succ i))).length = Nat.pred len := by rw [← hil', hel]; rfl
              have hqq : b' = p.b := by
                obtain ⟨z, k1, k2⟩ := hs' b' ⟨_, q3, rfl⟩
                rw [hy] at k1; cases k1; exact k2.symm
              have u2 : Upd (fun c => c = p.b) h h' := u.mono fun c hc => by
                obtain ⟨z, k1, k2⟩ := hc
                rw [hy] at k1; cases k1; exact k2.symm
              have S2 := S.turn (B := .row [(Nat.pred len, appL (takeL (flatR old) i) (dropL (flatR old) (Nat.succ i)))] (.sym 1)) (q := ⟨b', 0, s'.cap, 0, []⟩) hn hg trivial hp u2 (.inl hqq) q4 (BD.mk (pre := []) (mid := (mid.take len).eraseIdx i) (rest := rest') (RopeOk.cons hlf RopeOk.nil) (by simp) rfl (SDl.mono (Ro.le_push _ _) _ hers) ⟨rfl, by show 0 + s'.cap * 1 ≤ tot'; omega⟩ (real_row hw q4))
              have hget : (r ++ [(⟨b', 0, s'.cap, 0, []⟩ : Pl3)])[H.n]? = some ⟨b', 0, s'.cap, 0, []⟩ := by rw [List.getElem?_append_right (by rw [S.len]; exact Nat.le_refl _), S.len]; simp
              exact K _ _ _ (.sl ⟨some ⟨H.n, 0⟩, Nat.pred len, .sym 0⟩) _ (Ro.le_push _ _) S2 ⟨s', ⟨⟨_, q3, _, hget, rfl⟩, hq1, _, _, rfl, hget, rfl, q2⟩, rfl⟩ e
          · cases e
        · cases e
      · cases e
    · cases e
  · exact eF_no e
theorem xdel_int {r : Ro} {h0 : Heap} {H : CH} {h : Heap} (S : Sat r h0 H h) {a : List SV} {a' : List Value} (ha : SDl r a a') {k : SV → ER} {KP k' : Value → Pr} (K : KR r h0 k k') (e : xDelete a k H = true) : WpCall Tryz.prog 172 a'.toArray KP k' h := by
  unfold xDelete at e
  split at e
  · rename_i b len i j
    obtain ⟨_, _, rfl, h1, _, _, rfl, h2, _, _, rfl, h3, rfl⟩ := ha
    obtain ⟨s1, ⟨hb, hlen, hcap⟩, rfl⟩ := h1
    rw [show _ = Value.int .i64 (.ofNat i) from h2, show _ = Value.int .i64 (.ofNat j) from h3]
    split at e
    · rename_i hc0
      rw [Bool.and_eq_true] at hc0
      have hji := Nat.eq_of_beq_eq_true hc0.1
      have hil := blt_iff.1 hc0.2
      simp only at e
      split at e
      · rename_i hn
        have hn := blt_iff.1 hn
        obtain ⟨cs, rm, p, pre, mid, rest, tot, hg, e, hp, hh, hl, ⟨hd, ro⟩, hr, ht⟩ := row_inv S e
        split at e
        · rename_i old hold
          split at e
          · rename_i hc3
            rw [Bool.and_eq_true] at hc3
            obtain ⟨c1, c3⟩ := hc3
            obtain ⟨d1, d2⟩ := okN_eq c1
            have c3 := blt_iff.1 c3
            obtain ⟨y, hy, p', hp', rfl⟩ := hb
            obtain rfl : p = p' := Option.some.inj (hp.symm.trans hp')
            obtain ⟨a3, p3, f1, f2, f3, f4⟩ := hcap
            cases f1
            obtain rfl : p = p3 := Option.some.inj (hp.symm.trans f2)
            have hpo : p.o = 0 := hr.1
            have hrc : p.o + p.c * 1 ≤ tot := hr.2
            have hlen : s1.len = len := hlen
            obtain ⟨g1, g2, g3⟩ := subR_eq ro hold
            have hpre : pre = [] := List.eq_nil_of_length_eq_zero (by omega)
            subst hpre
            have hmid := hd.len
            have hsd : SDl r (flatR old) (mid.take len) := by rw [g3, List.drop_zero]; exact hd.take len
            have hxs : (mid.take len).length = len := by rw [hsd.len]; exact d1
            have hrow1 : [] ++ (mid ++ rest) = mid.take len ++ (mid.drop len ++ rest) := by rw [List.nil_append, ← List.append_assoc, List.take_append_drop]
            have o : Has 1 h s1 (mid.take len) := ⟨by rw [hxs, hlen, Nat.mul_one], f4, .inr ⟨p.b, mid.drop len ++ rest, tot, by rw [hy]; simp only; rw [hpo], by rw [← hrow1]; exact hh, by omega⟩⟩
            refine WpCall.real ?_
            rw [show Value.int .i64 (.ofNat j) = .int .i64 ((i + 1 : Nat) : Int) by rw [hji]; rfl]
            refine deleteB_int (xs := mid.take len) (i := i) o (by omega) (ones_rel hsd d2) (by omega) fun s' h' u o' hs' hbs hw => ?_
            have hers : SDl r (appL (takeL (flatR old) i) (dropL (flatR old) (Nat.succ i))) ((mid.take len).eraseIdx i) := by
              rw [appL_eq, takeL_eq, dropL_eq, List.eraseIdx_eq_take_drop_succ]
              exact (hsd.take i).app (hsd.drop (i + 1))
            have hil' := hers.len
            have hel : ((mid.take len).eraseIdx i).length = len - 1 := by rw [List.length_eraseIdx, hxs, if_pos hil]
            obtain ⟨q1, q2, ⟨q5, q3, q4⟩ | ⟨b', rest', tot', q3, q4, q5⟩⟩ := o'
            · rw [q5, hy] at hbs; cases hbs
            · have hq1 : s'.len = len - 1 := by omega
              have hlf : (appL (takeL (flatR old) i) (dropL (flatR old) (Nat.succ i))).length = Nat.pred len := by rw [← hil', hel]; rfl
              have hqq : b' = p.b := by
                obtain ⟨z, k1, k2⟩ := hs' b' ⟨_, q3, rfl⟩
                rw [hy] at k1; cases k1; exact k2.symm
              have u2 : Upd (fun c => c = p.b) h h' := u.mono fun c hc => by
                obtain ⟨z, k1, k2⟩ := hc
                rw [hy] at k1; cases k1; exact k2.symm
              have S2 := S.turn (B := .row [(Nat.pred len, appL (takeL (flatR old) i) (dropL (flatR old) (Nat.succ i)))] (.sym 1)) (q := ⟨b', 0, s'.cap, 0, []⟩) hn hg trivial hp u2 (.inl hqq) q4 (BD.mk (pre := []) (mid := (mid.take len).eraseIdx i) (rest := rest') (RopeOk.cons hlf RopeOk.nil) (by simp) rfl (SDl.mono (Ro.le_push _ _) _ hers) ⟨rfl, by show 0 + s'.cap * 1 ≤ tot'; omega⟩ (real_row hw q4))
              have hget : (r ++ [(⟨b', 0, s'.cap, 0, []⟩ : Pl3)])[H.n]? = some ⟨b', 0, s'.cap, 0, []⟩ := by rw [List.getElem?_append_right (by rw [S.len]; exact Nat.le_refl _), S.len]; simp
              exact K _ _ _ (.sl ⟨some ⟨H.n, 0⟩, Nat.pred len, .sym 0⟩) _ (Ro.le_push _ _) S2 ⟨s', ⟨⟨_, q3, _, hget, rfl⟩, hq1, _, _, rfl, hget, rfl, q2⟩, rfl⟩ e
          · cases e
        · cases e
      · cases e
    · cases e
  · exact eF_no e
noncomputable def extY : Cal := fun f a k => match Nat.beq f 171 with
  | true => xDelete a k
  | false => match Nat.beq f 172 with
    | true => xDelete a k
    | false => match Nat.beq f 177 with
      | true => xItoa a k
      | false => match Nat.beq f 178 with
        | true => xJoin a k
        | false => extX f a k
theorem extY_ok : CalOk Tryz.prog extY := fun r h0 H h f a a' k KP k' S ha K e => by
  unfold extY at e
  cases h1 : Nat.beq f 171 with
  | true => simp only [h1] at e; have := Nat.eq_of_beq_eq_true h1; subst this; exact xdel_str S ha K e
  | false =>
    simp only [h1] at e
    cases h2 : Nat.beq f 172 with
    | true => simp only [h2] at e; have := Nat.eq_of_beq_eq_true h2; subst this; exact xdel_int S ha K e
    | false =>
      simp only [h2] at e
      cases h3 : Nat.beq f 177 with
      | true => simp only [h3] at e; have := Nat.eq_of_beq_eq_true h3; subst this; exact xitoa S ha K e
      | false =>
        simp only [h3] at e
        cases h4 : Nat.beq f 178 with
        | true => simp only [h4] at e; have := Nat.eq_of_beq_eq_true h4; subst this; exact xjoin S ha K e
        | false => simp only [h4] at e; exact extX_ok r h0 H h f a a' k KP k' S ha K e
end Go.Proofs.YtnpcjhcgbcpcoaaGreatDoor
