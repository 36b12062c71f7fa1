/- Texts of this proof, part X2: parts of it in the order in which they build. -/
import Derived.Test.YtnpcjhcgbcpcoaaGreatDoorV
import Derived.Test.YtnpcjhcgbcpcoaaGreatDoorE2
import Derived.Test.YtnpcjhcgbcpcoaaGreatDoorH2
import Derived.Lib.Bytealg
import Derived.Lib.Overlaps
set_option linter.unusedVariables false
set_option linter.unusedSimpArgs false
namespace Go.Proofs.YtnpcjhcgbcpcoaaGreatDoor
open Go.Hl
attribute [local irreducible] loadF zc sizeP bytesP vcBody pInvoke

theorem ext_str : IsExtern Tryz.prog 212 (Extern.SlicesOverlaps.overlaps #[25, 25] #[4]) :=
  ⟨fun args w => run_callFunc_extern Tryz.func212 (by kernel_rfl) (by kernel_rfl) (by kernel_rfl) (by kernel_rfl) args w⟩
theorem ov_str_5 : Tryz.prog.underlying 25 = some (.slice 9) := by kernel_rfl
theorem ov_str_6 (w : World) : (Go.sizeOf 9).run Tryz.prog w = .ok 1 w := by kernel_rfl
theorem ext_int : IsExtern Tryz.prog 214 (Extern.SlicesOverlaps.overlaps #[38, 38] #[4]) :=
  ⟨fun args w => run_callFunc_extern Tryz.func214 (by kernel_rfl) (by kernel_rfl) (by kernel_rfl) (by kernel_rfl) args w⟩
theorem ov_int_5 : Tryz.prog.underlying 38 = some (.slice 3) := by kernel_rfl
theorem ov_int_6 (w : World) : (Go.sizeOf 3).run Tryz.prog w = .ok 1 w := by kernel_rfl
theorem ext_ib : IsExtern Tryz.prog 255 Extern.BytealgIndexByte.indexByte :=
  ⟨fun args w => run_callFunc_extern Tryz.func255 (by kernel_rfl) (by kernel_rfl) (by kernel_rfl) (by kernel_rfl) args w⟩
theorem ext_cs : IsExtern Tryz.prog 278 Extern.BytealgCount.count :=
  ⟨fun args w => run_callFunc_extern Tryz.func278 (by kernel_rfl) (by kernel_rfl) (by kernel_rfl) (by kernel_rfl) args w⟩
/-! Functions without a text, for the evaluator. -/
noncomputable def xOverlaps (a : List SV) (k : SV → ER) : ER := fun H => match a with
  | [.sl ⟨some x, _, _⟩, .sl ⟨some y, _, _⟩] => (match Nat.beq x.b y.b with
    | false => H.row x.b fun _ _ => H.row y.b fun cs _ => (match getR cs 0 with
      | some _ => k (.bool false) H
      | none => false)
    | true => false)
  | _ => false
theorem xov_str {r : Ro} {h0 : Heap} {H : CH} {h : Heap} (S : Sat r h0 H h) {a : List SV} {a' : List Value} (ha : SDl r a a') {k : SV → ER} {KP k' : Value → Pr} (K : KR r h0 k k') (e : xOverlaps a k H = true) : WpCall Tryz.prog 212 a'.toArray KP k' h := by
  unfold xOverlaps at e
  split at e
  · rename_i x n c y n' c'
    obtain ⟨_, _, rfl, h1, _, _, rfl, h2, rfl⟩ := ha
    obtain ⟨s1, ⟨⟨x', hx1, px, hpx, rfl⟩, hl1, _⟩, rfl⟩ := h1
    obtain ⟨s2, ⟨⟨y', hy1, py, hpy, rfl⟩, hl2, _⟩, rfl⟩ := h2
    rw [hx1, hy1]
    cases hb : Nat.beq x.b y.b with
    | true => simp only [hb] at e; cases e
    | false =>
      simp only [hb] at e
      obtain ⟨cs, rm, p, pre, mid, rest, tot, hg, e, hp, hh, hl, hd, hr⟩ := row_inv S e
      obtain ⟨cs2, rm2, p2, pre2, mid2, rest2, tot2, hg2, e, hp2, hh2, hl2', ⟨hd2, ro2⟩, hr2⟩ := row_inv S e
      obtain rfl : p = px := Option.some.inj (hp.symm.trans hpx)
      obtain rfl : p2 = py := Option.some.inj (hp2.symm.trans hpy)
      have hne : p.b ≠ p2.b := fun he => by
        have := S.inj _ _ _ _ _ _ hg trivial hg2 trivial hp hp2 he
        rw [this, Nat.beq_refl] at hb; cases hb
      cases hc2 : getR cs2 0 with
      | none => rw [hc2] at e; cases e
      | some v0 =>
        rw [hc2] at e
        rw [getR_eq ro2] at hc2
        obtain ⟨w0, hw0, _⟩ := hd2.get hc2
        refine ext_str.call (fun w r => ?_) (K.now S (by exact rfl) e)
        obtain ⟨t1, q1⟩ := r.shape hh
        obtain ⟨t2, q2⟩ := r.shape hh2
        have h0' : tot2 ≠ 0 := by
          obtain ⟨sp, ty, fr, _, g, _⟩ := r _ _ hh2
          intro z; rw [z] at g
          cases mid2 with
          | nil => cases hw0
          | cons _ _ => simp at g
        exact Go.Lib.run_overlaps_apart (P := Tryz.prog) w 25 4 9 ov_str_5 1 ov_str_6 ⟨p.b, p.o + x.o, none⟩ ⟨p2.b, p2.o + y.o, none⟩ s1.len s1.cap s2.len s2.cap hne t1 t2 tot tot2 q1 q2 h0' (r.frozen hh rfl) (r.frozen hh rfl)
  · cases e
theorem xov_int {r : Ro} {h0 : Heap} {H : CH} {h : Heap} (S : Sat r h0 H h) {a : List SV} {a' : List Value} (ha : SDl r a a') {k : SV → ER} {KP k' : Value → Pr} (K : KR r h0 k k') (e : xOverlaps a k H = true) : WpCall Tryz.prog 214 a'.toArray KP k' h := by
  unfold xOverlaps at e
  split at e
  · rename_i x n c y n' c'
    obtain ⟨_, _, rfl, h1, _, _, rfl, h2, rfl⟩ := ha
    obtain ⟨s1, ⟨⟨x', hx1, px, hpx, rfl⟩, hl1, _⟩, rfl⟩ := h1
    obtain ⟨s2, ⟨⟨y', hy1, py, hpy, rfl⟩, hl2, _⟩, rfl⟩ := h2
    rw [hx1, hy1]
    cases hb : Nat.beq x.b y.b with
    | true => simp only [hb] at e; cases e
    | false =>
      simp only [hb] at e
      obtain ⟨cs, rm, p, pre, mid, rest, tot, hg, e, hp, hh, hl, hd, hr⟩ := row_inv S e
      obtain ⟨cs2, rm2, p2, pre2, mid2, rest2, tot2, hg2, e, hp2, hh2, hl2', ⟨hd2, ro2⟩, hr2⟩ := row_inv S e
      obtain rfl : p = px := Option.some.inj (hp.symm.trans hpx)
      obtain rfl : p2 = py := Option.some.inj (hp2.symm.trans hpy)
      have hne : p.b ≠ p2.b := fun he => by
        have := S.inj _ _ _ _ _ _ hg trivial hg2 trivial hp hp2 he
        rw [this, Nat.beq_refl] at hb; cases hb
      cases hc2 : getR cs2 0 with
      | none => rw [hc2] at e; cases e
      | some v0 =>
        rw [hc2] at e
        rw [getR_eq ro2] at hc2
        obtain ⟨w0, hw0, _⟩ := hd2.get hc2
        refine ext_int.call (fun w r => ?_) (K.now S (by exact rfl) e)
        obtain ⟨t1, q1⟩ := r.shape hh
        obtain ⟨t2, q2⟩ := r.shape hh2
        have h0' : tot2 ≠ 0 := by
          obtain ⟨sp, ty, fr, _, g, _⟩ := r _ _ hh2
          intro z; rw [z] at g
          cases mid2 with
          | nil => cases hw0
          | cons _ _ => simp at g
        exact Go.Lib.run_overlaps_apart (P := Tryz.prog) w 38 4 3 ov_int_5 1 ov_int_6 ⟨p.b, p.o + x.o, none⟩ ⟨p2.b, p2.o + y.o, none⟩ s1.len s1.cap s2.len s2.cap hne t1 t2 tot tot2 q1 q2 h0' (r.frozen hh rfl) (r.frozen hh rfl)
  · cases e
noncomputable def xIndexByte (a : List SV) (k : SV → ER) : ER := match a with
  | [.str s, .int .u8 c] => k (.int .i64 (firstIdx ⟨⟨s⟩⟩ c.toNat.toUInt8))
  | _ => eF
noncomputable def xCount (a : List SV) (k : SV → ER) : ER := match a with
  | [.str s, .int .u8 c] => k (.int .i64 (Lib.countByte s c.toNat.toUInt8))
  | _ => eF
theorem xcount {r : Ro} {h0 : Heap} {H : CH} {h : Heap} (S : Sat r h0 H h) {a : List SV} {a' : List Value} (ha : SDl r a a') {k : SV → ER} {KP k' : Value → Pr} (K : KR r h0 k k') (e : xCount a k H = true) : WpCall Tryz.prog 278 a'.toArray KP k' h := by
  unfold xCount at e
  split at e
  · rename_i s c
    obtain ⟨_, _, rfl, h1, _, _, rfl, h2, rfl⟩ := ha
    rw [show _ = Value.string ⟨⟨s⟩⟩ from h1, show _ = Value.int .u8 c from h2]
    exact ext_cs.call (v := .int .i64 (Lib.countByte s c.toNat.toUInt8)) (fun w _ => Lib.run_countString ⟨⟨s⟩⟩ c w) (K.now S (by exact rfl) e)
  · exact eF_no e
theorem xindex {r : Ro} {h0 : Heap} {H : CH} {h : Heap} (S : Sat r h0 H h) {a : List SV} {a' : List Value} (ha : SDl r a a') {k : SV → ER} {KP k' : Value → Pr} (K : KR r h0 k k') (e : xIndexByte a k H = true) : WpCall Tryz.prog 255 a'.toArray KP k' h := by
  unfold xIndexByte at e
  split at e
  · rename_i s c
    obtain ⟨_, _, rfl, h1, _, _, rfl, h2, rfl⟩ := ha
    rw [show _ = Value.string ⟨⟨s⟩⟩ from h1, show _ = Value.int .u8 c from h2]
    exact ext_ib.call (v := .int .i64 (firstIdx ⟨⟨s⟩⟩ c.toNat.toUInt8)) (fun w _ => run_indexByte_string ⟨⟨s⟩⟩ c w) (K.now S (by exact rfl) e)
  · exact eF_no e
noncomputable def extX : Cal := fun f a k => match Nat.beq f 212 with
  | true => xOverlaps a k
  | false => match Nat.beq f 214 with
    | true => xOverlaps a k
    | false => match Nat.beq f 278 with
      | true => xCount a k
      | false => match Nat.beq f 255 with
        | true => xIndexByte a k
        | false => eF
theorem extX_ok : CalOk Tryz.prog extX := fun r h0 H h f a a' k KP k' S ha K e => by
  unfold extX at e
  cases h1 : Nat.beq f 212 with
  | true => simp only [h1] at e; have := Nat.eq_of_beq_eq_true h1; subst this; exact xov_str S ha K e
  | false =>
    simp only [h1] at e
    cases h2 : Nat.beq f 214 with
    | true => simp only [h2] at e; have := Nat.eq_of_beq_eq_true h2; subst this; exact xov_int S ha K e
    | false =>
      simp only [h2] at e
      cases h3 : Nat.beq f 278 with
      | true => simp only [h3] at e; have := Nat.eq_of_beq_eq_true h3; subst this; exact xcount S ha K e
      | false =>
        simp only [h3] at e
        cases h4 : Nat.beq f 255 with
        | true => simp only [h4] at e; have := Nat.eq_of_beq_eq_true h4; subst this; exact xindex S ha K e
        | false => simp only [h4] at e; exact eF_no e
end Go.Proofs.YtnpcjhcgbcpcoaaGreatDoor
