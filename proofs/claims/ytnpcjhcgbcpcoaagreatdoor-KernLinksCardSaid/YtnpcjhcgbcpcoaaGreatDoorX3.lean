/- Texts of this proof, part X3: parts of it in the order in which they build. -/
import Derived.Test.YtnpcjhcgbcpcoaaGreatDoorV
import Derived.Test.YtnpcjhcgbcpcoaaGreatDoorE2
import Derived.Test.YtnpcjhcgbcpcoaaGreatDoorH2
import Derived.Test.YtnpcjhcgbcpcoaaGreatDoorV0
import Derived.Lib.Bytealg
import Derived.Lib.Overlaps
set_option linter.unusedVariables false
set_option linter.unusedSimpArgs false
namespace Go.Proofs.YtnpcjhcgbcpcoaaGreatDoor
open Go.Hl
attribute [local irreducible] loadF zc sizeP bytesP vcBody pInvoke

theorem WpCall.real {P : Program} {f : FuncId} {args : Array Value} {KP K : Value → Pr} {h : Heap}
    (c : WpCall P f args KP (fun v h' => (∃ w, R h' w) → K v h') h) : WpCall P f args KP K h := ⟨fun _ r =>
  (WpCall.go c r).mono (fun _ _ he => by
    obtain ⟨h', k, r', f⟩ := he
    exact ⟨h', k ⟨_, r'⟩, r', f⟩) (fun _ _ he => he)⟩
theorem real_row {h : Heap} (e : ∃ w, R h w) {b : Nat} {cs : List Value} {tot : Nat} (hb : h b = some (.row cs tot)) : cs.length ≤ tot := by
  obtain ⟨w, r⟩ := e
  obtain ⟨sp, ty, fr, _, g, _⟩ := r _ _ hb
  rw [List.length_append] at g; omega
theorem ext_ib : IsExtern Tryz.prog 255 Extern.BytealgIndexByte.indexByte :=
  ⟨fun args w => run_callFunc_extern Tryz.func255 (by kernel_rfl) (by kernel_rfl) (by kernel_rfl) (by kernel_rfl) args w⟩
theorem ext_cs : IsExtern Tryz.prog 278 Extern.BytealgCount.count :=
  ⟨fun args w => run_callFunc_extern Tryz.func278 (by kernel_rfl) (by kernel_rfl) (by kernel_rfl) (by kernel_rfl) args w⟩
/-! Functions without a text, for the evaluator. -/
noncomputable def xOverlaps (a : List SV) (k : SV → ER) : ER := fun H => match a with
  | [.sl ⟨some x, _, _⟩, .sl ⟨some y, _, _⟩] => (match Nat.beq x.b y.b with
    | false => H.row x.b fun _ _ => H.row y.b fun cs _ => (match getR cs 0 with
      | some _ => k (.bool false) H
      | none => false)
    | true => false)
  | _ => false
theorem xov_str {r : Ro} {h0 : Heap} {H : CH} {h : Heap} (S : Sat r h0 H h) {a : List SV} {a' : List Value} (ha : SDl r a a') {k : SV → ER} {KP k' : Value → Pr} (K : KR r h0 k k') (e : xOverlaps a k H = true) : WpCall Tryz.prog 212 a'.toArray KP k' h := by
  unfold xOverlaps at e
  split at e
  · rename_i x n c y n' c'
    obtain ⟨_, _, rfl, h1, _, _, rfl, h2, rfl⟩ := ha
    obtain ⟨s1, ⟨⟨x', hx1, px, hpx, rfl⟩, hl1, _⟩, rfl⟩ := h1
    obtain ⟨s2, ⟨⟨y', hy1, py, hpy, rfl⟩, hl2, _⟩, rfl⟩ := h2
    rw [hx1, hy1]
    cases hb : Nat.beq x.b y.b with
    | true => simp only [hb] at e; cases e
    | false =>
      simp only [hb] at e
      obtain ⟨cs, rm, p, pre, mid, rest, tot, hg, e, hp, hh, hl, hd, hr⟩ := row_inv S e
      obtain ⟨cs2, rm2, p2, pre2, mid2, rest2, tot2, hg2, e, hp2, hh2, hl2', ⟨hd2, ro2⟩, hr2⟩ := row_inv S e
      obtain rfl : p = px := Option.some.inj (hp.symm.trans hpx)
      obtain rfl : p2 = py := Option.some.inj (hp2.symm.trans hpy)
      have hne : p.b ≠ p2.b := fun he => by
        have := S.inj _ _ _ _ _ _ hg trivial hg2 trivial hp hp2 he
        rw [this, Nat.beq_refl] at hb; cases hb
      cases hc2 : getR cs2 0 with
      | none => rw [hc2] at e; cases e
      | some v0 =>
        rw [hc2] at e
        rw [getR_eq ro2] at hc2
        obtain ⟨w0, hw0, _⟩ := hd2.get hc2
        refine ext_str.call (fun w r => ?_) (K.now S (by exact rfl) e)
        obtain ⟨t1, q1⟩ := r.shape hh
        obtain ⟨t2, q2⟩ := r.shape hh2
        have h0' : tot2 ≠ 0 := by
          obtain ⟨sp, ty, fr, _, g, _⟩ := r _ _ hh2
          intro z; rw [z] at g
          cases mid2 with
          | nil => cases hw0
          | cons _ _ => simp at g
        exact Go.Lib.run_overlaps_apart (P := Tryz.prog) w 25 4 9 ov_str_5 1 ov_str_6 ⟨p.b, p.o + x.o, none⟩ ⟨p2.b, p2.o + y.o, none⟩ s1.len s1.cap s2.len s2.cap hne t1 t2 tot tot2 q1 q2 h0' (r.frozen hh rfl) (r.frozen hh rfl)
  · cases e
theorem xov_int {r : Ro} {h0 : Heap} {H : CH} {h : Heap} (S : Sat r h0 H h) {a : List SV} {a' : List Value} (ha : SDl r a a') {k : SV → ER} {KP k' : Value → Pr} (K : KR r h0 k k') (e : xOverlaps a k H = true) : WpCall Tryz.prog 214 a'.toArray KP k' h := by
  unfold xOverlaps at e
  split at e
  · rename_i x n c y n' c'
    obtain ⟨_, _, rfl, h1, _, _, rfl, h2, rfl⟩ := ha
    obtain ⟨s1, ⟨⟨x', hx1, px, hpx, rfl⟩, hl1, _⟩, rfl⟩ := h1
    obtain ⟨s2, ⟨⟨y', hy1, py, hpy, rfl⟩, hl2, _⟩, rfl⟩ := h2
    rw [hx1, hy1]
    cases hb : Nat.beq x.b y.b with
    | true => simp only [hb] at e; cases e
    | false =>
      simp only [hb] at e
      obtain ⟨cs, rm, p, pre, mid, rest, tot, hg, e, hp, hh, hl, hd, hr⟩ := row_inv S e
      obtain ⟨cs2, rm2, p2, pre2, mid2, rest2, tot2, hg2, e, hp2, hh2, hl2', ⟨hd2, ro2⟩, hr2⟩ := row_inv S e
      obtain rfl : p = px := Option.some.inj (hp.symm.trans hpx)
      obtain rfl : p2 = py := Option.some.inj (hp2.symm.trans hpy)
      have hne : p.b ≠ p2.b := fun he => by
        have := S.inj _ _ _ _ _ _ hg trivial hg2 trivial hp hp2 he
        rw [this, Nat.beq_refl] at hb; cases hb
      cases hc2 : getR cs2 0 with
      | none => rw [hc2] at e; cases e
      | some v0 =>
        rw [hc2] at e
        rw [getR_eq ro2] at hc2
        obtain ⟨w0, hw0, _⟩ := hd2.get hc2
        refine ext_int.call (fun w r => ?_) (K.now S (by exact rfl) e)
        obtain ⟨t1, q1⟩ := r.shape hh
        obtain ⟨t2, q2⟩ := r.shape hh2
        have h0' : tot2 ≠ 0 := by
          obtain ⟨sp, ty, fr, _, g, _⟩ := r _ _ hh2
          intro z; rw [z] at g
          cases mid2 with
          | nil => cases hw0
          | cons _ _ => simp at g
        exact Go.Lib.run_overlaps_apart (P := Tryz.prog) w 38 4 3 ov_int_5 1 ov_int_6 ⟨p.b, p.o + x.o, none⟩ ⟨p2.b, p2.o + y.o, none⟩ s1.len s1.cap s2.len s2.cap hne t1 t2 tot tot2 q1 q2 h0' (r.frozen hh rfl) (r.frozen hh rfl)
  · cases e
noncomputable def xIndexByte (a : List SV) (k : SV → ER) : ER := match a with
  | [.str s, .int .u8 c] => k (.int .i64 (firstIdx ⟨⟨s⟩⟩ c.toNat.toUInt8))
  | _ => eF
noncomputable def xCount (a : List SV) (k : SV → ER) : ER := match a with
  | [.str s, .int .u8 c] => k (.int .i64 (Lib.countByte s c.toNat.toUInt8))
  | _ => eF
theorem xcount {r : Ro} {h0 : Heap} {H : CH} {h : Heap} (S : Sat r h0 H h) {a : List SV} {a' : List Value} (ha : SDl r a a') {k : SV → ER} {KP k' : Value → Pr} (K : KR r h0 k k') (e : xCount a k H = true) : WpCall Tryz.prog 278 a'.toArray KP k' h := by
  unfold xCount at e
  split at e
  · rename_i s c
    obtain ⟨_, _, rfl, h1, _, _, rfl, h2, rfl⟩ := ha
    rw [show _ = Value.string ⟨⟨s⟩⟩ from h1, show _ = Value.int .u8 c from h2]
    exact ext_cs.call (v := .int .i64 (Lib.countByte s c.toNat.toUInt8)) (fun w _ => Lib.run_countString ⟨⟨s⟩⟩ c w) (K.now S (by exact rfl) e)
  · exact eF_no e
theorem xindex {r : Ro} {h0 : Heap} {H : CH} {h : Heap} (S : Sat r h0 H h) {a : List SV} {a' : List Value} (ha : SDl r a a') {k : SV → ER} {KP k' : Value → Pr} (K : KR r h0 k k') (e : xIndexByte a k H = true) : WpCall Tryz.prog 255 a'.toArray KP k' h := by
  unfold xIndexByte at e
  split at e
  · rename_i s c
    obtain ⟨_, _, rfl, h1, _, _, rfl, h2, rfl⟩ := ha
    rw [show _ = Value.string ⟨⟨s⟩⟩ from h1, show _ = Value.int .u8 c from h2]
    exact ext_ib.call (v := .int .i64 (firstIdx ⟨⟨s⟩⟩ c.toNat.toUInt8)) (fun w _ => run_indexByte_string ⟨⟨s⟩⟩ c w) (K.now S (by exact rfl) e)
  · exact eF_no e
noncomputable def xInsert (args : List SV) (k : SV → ER) : ER := match args with
  | [.sl s, .int .i64 (.ofNat n), .sl ⟨some ⟨bv, 0⟩, 1, .lit 1⟩] => fun H => H.row bv fun cx rx => (match rx, getR cx 0 with
    | .lit 1, some v => (match v.one && Nat.blt H.n 1000000 with
      | true => (match s with
        | ⟨none, 0, .lit 0⟩ => (match n with
          | 0 => k (.sl ⟨some ⟨H.n, 0⟩, 1, .sym 0⟩) (H.push (.row [(1, [v])] (.sym 1)))
          | _ + 1 => false)
        | ⟨some ⟨b, 0⟩, len, .sym 0⟩ => (match Nat.beq b bv with
          | true => false
          | false => H.row b fun cs rm => (match rm, subR cs 0 len with
            | .sym 1, some old => (match okN (flatR old) len && (Nat.ble n len && Nat.blt len 1000000000) with
              | true => k (.sl ⟨some ⟨H.n, 0⟩, len + 1, .sym 0⟩) ((H.put b .dead).push (.row [(len + 1, appL (takeL (flatR old) n) (v :: dropL (flatR old) n))] (.sym 1)))
              | false => false)
            | _, _ => false))
        | _ => false)
      | false => false)
    | _, _ => false)
  | _ => eF
theorem xins_str {r : Ro} {h0 : Heap} {H : CH} {h : Heap} (S : Sat r h0 H h) {a : List SV} {a' : List Value} (ha : SDl r a a') {k : SV → ER} {KP k' : Value → Pr} (K : KR r h0 k k') (e : xInsert a k H = true) : WpCall Tryz.prog 174 a'.toArray KP k' h := by
  unfold xInsert at e
  split at e
  · rename_i s n bv
    obtain ⟨_, _, rfl, h1, _, _, rfl, h2, _, _, rfl, h3, rfl⟩ := ha
    obtain ⟨s1, hs1, rfl⟩ := h1
    obtain ⟨x1, ⟨⟨ya, hya, px, hpx, rfl⟩, hxl, hxc⟩, rfl⟩ := h3
    rw [show _ = Value.int .i64 (.ofNat n) from h2]
    have hxc : x1.cap = 1 := hxc
    have hxl : x1.len = 1 := hxl
    rw [hya, hxl, hxc]
    obtain ⟨cx, rx, p2, pre2, mid2, rest2, tot2, hg2, e, hp2, hh2, hl2, ⟨hd2, ro2⟩, hr2, ht2⟩ := row_inv S e
    obtain rfl : p2 = px := Option.some.inj (hp2.symm.trans hpx)
    split at e
    · rename_i v hv0
      rw [getR_eq ro2] at hv0
      obtain ⟨w, hw, hvw⟩ := hd2.get hv0
      have hp0 : p2.o = 0 := hr2.1
      have htt : p2.o + 1 = tot2 := hr2.2
      have hpre : pre2 = [] := List.eq_nil_of_length_eq_zero (by omega)
      subst hpre
      have hrow : h p2.b = some (.row [w] 1) := by
        rw [hh2]
        simp only [List.nil_append, List.length_append] at ht2
        cases mid2 with
        | nil => cases hw
        | cons m ms =>
          simp only [List.length_cons] at ht2
          have h1 : ms = [] := List.eq_nil_of_length_eq_zero (by omega)
          have h2 : rest2 = [] := List.eq_nil_of_length_eq_zero (by omega)
          subst h1 h2
          simp at hw
          subst hw
          rw [show tot2 = 1 by omega]; rfl
      have hadr : (⟨p2.b, p2.o + 0, none⟩ : Addr) = ⟨p2.b, 0, none⟩ := by rw [hp0]
      rw [hadr]
      split at e
      · rename_i hc
        rw [Bool.and_eq_true] at hc
        have hone := one_rel hvw hc.1
        have hn := blt_iff.1 hc.2
        split at e
        · obtain ⟨hb, hl, hcap⟩ := hs1
          have hb : s1.base = none := hb
          have hl : s1.len = 0 := hl
          have hcap : s1.cap = 0 := hcap
          split at e
          · have hs : s1 = ⟨none, 0, 0⟩ := by cases s1; simp_all
            subst hs
            have o : Has 1 h ⟨none, 0, 0⟩ [] := Has.none 1 h
            refine WpCall.real ?_
            refine insert_str (xs := []) (i := 0) (bv := p2.b) o (Nat.le_refl _) hrow (by simp) (fun v hv => by cases hv) hone (by simp) fun s' h' u o' hs' hw => ?_
            obtain ⟨q1, q2, ⟨_, q3, _⟩ | ⟨b', rest, tot, q3, q4, q5⟩⟩ := o'
            · simp [q3] at q1
            · have hbn : h b' = none := by
                rcases hs' b' ⟨_, q3, rfl⟩ with g | g
                · simp at g
                · exact g
              have ul : Heap.le h h' := fun b x e => u b x e (by simp)
              have S2 := S.gain (B := .row [(1, [v])] (.sym 1)) (q := ⟨b', 0, s'.cap, 0, []⟩) hn ul hbn q4 (BD.mk (pre := []) (mid := [w]) (rest := rest) (RopeOk.cons rfl RopeOk.nil) (by simp) rfl (SDl.cons (SD.mono (Ro.le_push _ _) _ hvw) rfl) ⟨rfl, by show 0 + s'.cap * 1 ≤ tot; omega⟩ (real_row hw q4))
              have hget : (r ++ [(⟨b', 0, s'.cap, 0, []⟩ : Pl3)])[H.n]? = some ⟨b', 0, s'.cap, 0, []⟩ := by rw [List.getElem?_append_right (by rw [S.len]; exact Nat.le_refl _), S.len]; simp
              exact K _ _ _ (.sl ⟨some ⟨H.n, 0⟩, 1, .sym 0⟩) _ (Ro.le_push _ _) S2 ⟨s', ⟨⟨_, q3, _, hget, rfl⟩, by show s'.len = 1; simp at q1; omega, _, _, rfl, hget, rfl, q2⟩, rfl⟩ e
          · cases e
        · rename_i b len _
          split at e
          · cases e
          · rename_i hbb
            obtain ⟨cs, rm, p, pre, mid, rest, tot, hg, e, hp, hh, hl, ⟨hd, ro⟩, hr, ht⟩ := row_inv S e
            split at e
            · rename_i old hold
              split at e
              · rename_i hc3
                rw [Bool.and_eq_true, Bool.and_eq_true] at hc3
                obtain ⟨c1, c2, c3⟩ := hc3
                obtain ⟨d1, d2⟩ := okN_eq c1
                have c2 := Nat.le_of_ble_eq_true c2
                have c3 := blt_iff.1 c3
                obtain ⟨hb, hlen, hcap⟩ := hs1
                obtain ⟨y, hy, p', hp', rfl⟩ := hb
                obtain rfl : p = p' := Option.some.inj (hp.symm.trans hp')
                obtain ⟨a3, p3, f1, f2, f3, f4⟩ := hcap
                cases f1
                obtain rfl : p = p3 := Option.some.inj (hp.symm.trans f2)
                have hpo : p.o = 0 := hr.1
                have hrc : p.o + p.c * 1 ≤ tot := hr.2
                have hlen : s1.len = len := hlen
                obtain ⟨g1, g2, g3⟩ := subR_eq ro hold
                have hpre : pre = [] := List.eq_nil_of_length_eq_zero (by omega)
                subst hpre
                have hmid := hd.len
                have hsd : SDl r (flatR old) (mid.take len) := by rw [g3, List.drop_zero]; exact hd.take len
                have hxs : (mid.take len).length = len := by rw [hsd.len]; exact d1
                have hrow1 : [] ++ (mid ++ rest) = mid.take len ++ (mid.drop len ++ rest) := by rw [List.nil_append, ← List.append_assoc, List.take_append_drop]
                have o : Has 1 h s1 (mid.take len) := ⟨by rw [hxs, hlen, Nat.mul_one], f4, .inr ⟨p.b, mid.drop len ++ rest, tot, by rw [hy]; simp only; rw [hpo], by rw [← hrow1]; exact hh, by omega⟩⟩
                have hne : p.b ≠ p2.b := fun he => by
                  have := S.inj _ _ _ _ _ _ hg trivial hg2 trivial hp hp2 he
                  rw [this, Nat.beq_refl] at hbb; cases hbb
                refine WpCall.real ?_
                refine insert_str (xs := mid.take len) (i := n) (bv := p2.b) o (by omega) hrow (by rintro ⟨q, k1, k2⟩; rw [hy] at k1; cases k1; exact hne k2) (ones_rel hsd d2) hone (by omega) fun s' h' u o' hs' hw => ?_
                have hins : SDl r (appL (takeL (flatR old) n) (v :: dropL (flatR old) n)) ((mid.take len).take n ++ w :: (mid.take len).drop n) := by
                  rw [appL_eq, takeL_eq, dropL_eq]
                  exact (hsd.take n).app (SDl.cons hvw (hsd.drop n))
                have hil := hins.len
                obtain ⟨q1, q2, ⟨_, q3, _⟩ | ⟨b', rest', tot', q3, q4, q5⟩⟩ := o'
                · simp [q3] at q1
                · have hq1 : s'.len = len + 1 := by simp only [List.length_append, List.length_take, List.length_cons, List.length_drop, hxs] at q1; omega
                  have hlf : (appL (takeL (flatR old) n) (v :: dropL (flatR old) n)).length = len + 1 := by rw [← hil, q1, hq1, Nat.mul_one]
                  have hqq : b' = p.b ∨ h b' = none := by
                    rcases hs' b' ⟨_, q3, rfl⟩ with ⟨z, k1, k2⟩ | g
                    · left; rw [hy] at k1; cases k1; exact k2.symm
                    · exact .inr g
                  have u2 : Upd (fun c => c = p.b) h h' := u.mono fun c hc => by
                    obtain ⟨z, k1, k2⟩ := hc
                    rw [hy] at k1; cases k1; exact k2.symm
                  have S2 := S.turn (B := .row [(len + 1, appL (takeL (flatR old) n) (v :: dropL (flatR old) n))] (.sym 1)) (q := ⟨b', 0, s'.cap, 0, []⟩) hn hg trivial hp u2 hqq q4 (BD.mk (pre := []) (mid := (mid.take len).take n ++ w :: (mid.take len).drop n) (rest := rest') (RopeOk.cons hlf RopeOk.nil) (by simp) rfl (SDl.mono (Ro.le_push _ _) _ hins) ⟨rfl, by show 0 + s'.cap * 1 ≤ tot'; omega⟩ (real_row hw q4))
                  have hget : (r ++ [(⟨b', 0, s'.cap, 0, []⟩ : Pl3)])[H.n]? = some ⟨b', 0, s'.cap, 0, []⟩ := by rw [List.getElem?_append_right (by rw [S.len]; exact Nat.le_refl _), S.len]; simp
                  exact K _ _ _ (.sl ⟨some ⟨H.n, 0⟩, len + 1, .sym 0⟩) _ (Ro.le_push _ _) S2 ⟨s', ⟨⟨_, q3, _, hget, rfl⟩, hq1, _, _, rfl, hget, rfl, q2⟩, rfl⟩ e
              · cases e
            · cases e
        · cases e
      · cases e
    · cases e
  · exact eF_no e
theorem xins_int {r : Ro} {h0 : Heap} {H : CH} {h : Heap} (S : Sat r h0 H h) {a : List SV} {a' : List Value} (ha : SDl r a a') {k : SV → ER} {KP k' : Value → Pr} (K : KR r h0 k k') (e : xInsert a k H = true) : WpCall Tryz.prog 175 a'.toArray KP k' h := by
  unfold xInsert at e
  split at e
  · rename_i s n bv
    obtain ⟨_, _, rfl, h1, _, _, rfl, h2, _, _, rfl, h3, rfl⟩ := ha
    obtain ⟨s1, hs1, rfl⟩ := h1
    obtain ⟨x1, ⟨⟨ya, hya, px, hpx, rfl⟩, hxl, hxc⟩, rfl⟩ := h3
    rw [show _ = Value.int .i64 (.ofNat n) from h2]
    have hxc : x1.cap = 1 := hxc
    have hxl : x1.len = 1 := hxl
    rw [hya, hxl, hxc]
    obtain ⟨cx, rx, p2, pre2, mid2, rest2, tot2, hg2, e, hp2, hh2, hl2, ⟨hd2, ro2⟩, hr2, ht2⟩ := row_inv S e
    obtain rfl : p2 = px := Option.some.inj (hp2.symm.trans hpx)
    split at e
    · rename_i v hv0
      rw [getR_eq ro2] at hv0
      obtain ⟨w, hw, hvw⟩ := hd2.get hv0
      have hp0 : p2.o = 0 := hr2.1
      have htt : p2.o + 1 = tot2 := hr2.2
      have hpre : pre2 = [] := List.eq_nil_of_length_eq_zero (by omega)
      subst hpre
      have hrow : h p2.b = some (.row [w] 1) := by
        rw [hh2]
        simp only [List.nil_append, List.length_append] at ht2
        cases mid2 with
        | nil => cases hw
        | cons m ms =>
          simp only [List.length_cons] at ht2
          have h1 : ms = [] := List.eq_nil_of_length_eq_zero (by omega)
          have h2 : rest2 = [] := List.eq_nil_of_length_eq_zero (by omega)
          subst h1 h2
          simp at hw
          subst hw
          rw [show tot2 = 1 by omega]; rfl
      have hadr : (⟨p2.b, p2.o + 0, none⟩ : Addr) = ⟨p2.b, 0, none⟩ := by rw [hp0]
      rw [hadr]
      split at e
      · rename_i hc
        rw [Bool.and_eq_true] at hc
        have hone := one_rel hvw hc.1
        have hn := blt_iff.1 hc.2
        split at e
        · obtain ⟨hb, hl, hcap⟩ := hs1
          have hb : s1.base = none := hb
          have hl : s1.len = 0 := hl
          have hcap : s1.cap = 0 := hcap
          split at e
          · have hs : s1 = ⟨none, 0, 0⟩ := by cases s1; simp_all
            subst hs
            have o : Has 1 h ⟨none, 0, 0⟩ [] := Has.none 1 h
            refine WpCall.real ?_
            refine insert_int (xs := []) (i := 0) (bv := p2.b) o (Nat.le_refl _) hrow (by simp) (fun v hv => by cases hv) hone (by simp) fun s' h' u o' hs' hw => ?_
            obtain ⟨q1, q2, ⟨_, q3, _⟩ | ⟨b', rest, tot, q3, q4, q5⟩⟩ := o'
            · simp [q3] at q1
            · have hbn : h b' = none := by
                rcases hs' b' ⟨_, q3, rfl⟩ with g | g
                · simp at g
                · exact g
              have ul : Heap.le h h' := fun b x e => u b x e (by simp)
              have S2 := S.gain (B := .row [(1, [v])] (.sym 1)) (q := ⟨b', 0, s'.cap, 0, []⟩) hn ul hbn q4 (BD.mk (pre := []) (mid := [w]) (rest := rest) (RopeOk.cons rfl RopeOk.nil) (by simp) rfl (SDl.cons (SD.mono (Ro.le_push _ _) _ hvw) rfl) ⟨rfl, by show 0 + s'.cap * 1 ≤ tot; omega⟩ (real_row hw q4))
              have hget : (r ++ [(⟨b', 0, s'.cap, 0, []⟩ : Pl3)])[H.n]? = some ⟨b', 0, s'.cap, 0, []⟩ := by rw [List.getElem?_append_right (by rw [S.len]; exact Nat.le_refl _), S.len]; simp
              exact K _ _ _ (.sl ⟨some ⟨H.n, 0⟩, 1, .sym 0⟩) _ (Ro.le_push _ _) S2 ⟨s', ⟨⟨_, q3, _, hget, rfl⟩, by show s'.len = 1; simp at q1; omega, _, _, rfl, hget, rfl, q2⟩, rfl⟩ e
          · cases e
        · rename_i b len _
          split at e
          · cases e
          · rename_i hbb
            obtain ⟨cs, rm, p, pre, mid, rest, tot, hg, e, hp, hh, hl, ⟨hd, ro⟩, hr, ht⟩ := row_inv S e
            split at e
            · rename_i old hold
              split at e
              · rename_i hc3
                rw [Bool.and_eq_true, Bool.and_eq_true] at hc3
                obtain ⟨c1, c2, c3⟩ := hc3
                obtain ⟨d1, d2⟩ := okN_eq c1
                have c2 := Nat.le_of_ble_eq_true c2
                have c3 := blt_iff.1 c3
                obtain ⟨hb, hlen, hcap⟩ := hs1
                obtain ⟨y, hy, p', hp', rfl⟩ := hb
                obtain rfl : p = p' := Option.some.inj (hp.symm.trans hp')
                obtain ⟨a3, p3, f1, f2, f3, f4⟩ := hcap
                cases f1
                obtain rfl : p = p3 := Option.some.inj (hp.symm.trans f2)
                have hpo : p.o = 0 := hr.1
                have hrc : p.o + p.c * 1 ≤ tot := hr.2
                have hlen : s1.len = len := hlen
                obtain ⟨g1, g2, g3⟩ := subR_eq ro hold
                have hpre : pre = [] := List.eq_nil_of_length_eq_zero (by omega)
                subst hpre
                have hmid := hd.len
                have hsd : SDl r (flatR old) (mid.take len) := by rw [g3, List.drop_zero]; exact hd.take len
                have hxs : (mid.take len).length = len := by rw [hsd.len]; exact d1
                have hrow1 : [] ++ (mid ++ rest) = mid.take len ++ (mid.drop len ++ rest) := by rw [List.nil_append, ← List.append_assoc, List.take_append_drop]
                have o : Has 1 h s1 (mid.take len) := ⟨by rw [hxs, hlen, Nat.mul_one], f4, .inr ⟨p.b, mid.drop len ++ rest, tot, by rw [hy]; simp only; rw [hpo], by rw [← hrow1]; exact hh, by omega⟩⟩
                have hne : p.b ≠ p2.b := fun he => by
                  have := S.inj _ _ _ _ _ _ hg trivial hg2 trivial hp hp2 he
                  rw [this, Nat.beq_refl] at hbb; cases hbb
                refine WpCall.real ?_
                refine insert_int (xs := mid.take len) (i := n) (bv := p2.b) o (by omega) hrow (by rintro ⟨q, k1, k2⟩; rw [hy] at k1; cases k1; exact hne k2) (ones_rel hsd d2) hone (by omega) fun s' h' u o' hs' hw => ?_
                have hins : SDl r (appL (takeL (flatR old) n) (v :: dropL (flatR old) n)) ((mid.take len).take n ++ w :: (mid.take len).drop n) := by
                  rw [appL_eq, takeL_eq, dropL_eq]
                  exact (hsd.take n).app (SDl.cons hvw (hsd.drop n))
                have hil := hins.len
                obtain ⟨q1, q2, ⟨_, q3, _⟩ | ⟨b', rest', tot', q3, q4, q5⟩⟩ := o'
                · simp [q3] at q1
                · have hq1 : s'.len = len + 1 := by simp only [List.length_append, List.length_take, List.length_cons, List.length_drop, hxs] at q1; omega
                  have hlf : (appL (takeL (flatR old) n) (v :: dropL (flatR old) n)).length = len + 1 := by rw [← hil, q1, hq1, Nat.mul_one]
                  have hqq : b' = p.b ∨ h b' = none := by
                    rcases hs' b' ⟨_, q3, rfl⟩ with ⟨z, k1, k2⟩ | g
                    · left; rw [hy] at k1; cases k1; exact k2.symm
                    · exact .inr g
                  have u2 : Upd (fun c => c = p.b) h h' := u.mono fun c hc => by
                    obtain ⟨z, k1, k2⟩ := hc
                    rw [hy] at k1; cases k1; exact k2.symm
                  have S2 := S.turn (B := .row [(len + 1, appL (takeL (flatR old) n) (v :: dropL (flatR old) n))] (.sym 1)) (q := ⟨b', 0, s'.cap, 0, []⟩) hn hg trivial hp u2 hqq q4 (BD.mk (pre := []) (mid := (mid.take len).take n ++ w :: (mid.take len).drop n) (rest := rest') (RopeOk.cons hlf RopeOk.nil) (by simp) rfl (SDl.mono (Ro.le_push _ _) _ hins) ⟨rfl, by show 0 + s'.cap * 1 ≤ tot'; omega⟩ (real_row hw q4))
                  have hget : (r ++ [(⟨b', 0, s'.cap, 0, []⟩ : Pl3)])[H.n]? = some ⟨b', 0, s'.cap, 0, []⟩ := by rw [List.getElem?_append_right (by rw [S.len]; exact Nat.le_refl _), S.len]; simp
                  exact K _ _ _ (.sl ⟨some ⟨H.n, 0⟩, len + 1, .sym 0⟩) _ (Ro.le_push _ _) S2 ⟨s', ⟨⟨_, q3, _, hget, rfl⟩, hq1, _, _, rfl, hget, rfl, q2⟩, rfl⟩ e
              · cases e
            · cases e
        · cases e
      · cases e
    · cases e
  · exact eF_no e
noncomputable def extX : Cal := fun f a k => match Nat.beq f 212 with
  | true => xOverlaps a k
  | false => match Nat.beq f 214 with
    | true => xOverlaps a k
    | false => match Nat.beq f 278 with
      | true => xCount a k
      | false => match Nat.beq f 255 with
        | true => xIndexByte a k
        | false => match Nat.beq f 174 with
          | true => xInsert a k
          | false => match Nat.beq f 175 with
            | true => xInsert a k
            | false => eF
theorem extX_ok : CalOk Tryz.prog extX := fun r h0 H h f a a' k KP k' S ha K e => by
  unfold extX at e
  cases h1 : Nat.beq f 212 with
  | true => simp only [h1] at e; have := Nat.eq_of_beq_eq_true h1; subst this; exact xov_str S ha K e
  | false =>
    simp only [h1] at e
    cases h2 : Nat.beq f 214 with
    | true => simp only [h2] at e; have := Nat.eq_of_beq_eq_true h2; subst this; exact xov_int S ha K e
    | false =>
      simp only [h2] at e
      cases h3 : Nat.beq f 278 with
      | true => simp only [h3] at e; have := Nat.eq_of_beq_eq_true h3; subst this; exact xcount S ha K e
      | false =>
        simp only [h3] at e
        cases h4 : Nat.beq f 255 with
        | true => simp only [h4] at e; have := Nat.eq_of_beq_eq_true h4; subst this; exact xindex S ha K e
        | false =>
          simp only [h4] at e
          cases h5 : Nat.beq f 174 with
          | true => simp only [h5] at e; have := Nat.eq_of_beq_eq_true h5; subst this; exact xins_str S ha K e
          | false =>
            simp only [h5] at e
            cases h6 : Nat.beq f 175 with
            | true => simp only [h6] at e; have := Nat.eq_of_beq_eq_true h6; subst this; exact xins_int S ha K e
            | false => simp only [h6] at e; exact eF_no e
end Go.Proofs.YtnpcjhcgbcpcoaaGreatDoor
