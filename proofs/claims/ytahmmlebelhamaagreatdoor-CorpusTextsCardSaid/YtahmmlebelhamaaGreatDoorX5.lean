/- Oracles for asm: opOf (a range over a map), intOf. -/
import Derived.Test.YtahmmlebelhamaaGreatDoorV
import Derived.Test.YtahmmlebelhamaaGreatDoorE2
import Derived.Test.YtahmmlebelhamaaGreatDoorH2
import Derived.Test.YtahmmlebelhamaaGreatDoorSh
import Derived.Lib.Bytealg
import Derived.Lib.SmallJoins
import Derived.Tactics
import Derived.Tactics2
import Derived.StillTactics
import Derived.Scope
import Derived.LoopTactic
import Derived.LoopN
import Derived.WalkKit
import Derived.Laws.IdiomRangeMap
set_option linter.unusedVariables false
set_option linter.unusedSimpArgs false
namespace Go.Proofs.YtahmmlebelhamaaGreatDoor
open Go.Hl Go.RowKit
/-- The numbers of two variables of the library's: uint64pow10, MaxLen. -/
abbrev powG : Nat := 5
abbrev maxG : Nat := 0

def hitOf (word : ByteArray) (x : MapEntry) : Prop := ∃ k s, x.key = .int .u8 k ∧ x.val = .string s ∧ (word.toList = s.toList ∨ word.toList = (s ++ ⟨#[51, 50]⟩).toList)
def resOf (word : ByteArray) (x : MapEntry) (v : Value) : Prop := ∃ k s, x.key = .int .u8 k ∧ x.val = .string s ∧ v = .tuple #[.int .u8 k, .bool (!(word.toList == s.toList)), .bool true]
set_option maxRecDepth 1000000 in
theorem opOf_walk (bm : Nat) (es : Array MapEntry) (clock : Nat) (word : ByteArray) (w : World) (hb : w.heap[bm]? = some (.map es clock)) (hst : BornOk es clock) (hv : ∀ x ∈ es.toList, ∃ k s, x.key = .int .u8 k ∧ x.val = .string s ∧ s.size ≤ 1000) :
    Calls Tryz.prog 63 #[.map (some bm), .string word] w fun e w' => ∃ v, e = .returned v ∧ ((∃ x ∈ es.toList, hitOf word x ∧ resOf word x v) ∨ ((∀ x ∈ es.toList, ¬ hitOf word x) ∧ v = .tuple #[.int .u8 0, .bool false, .bool false])) ∧ ∃ (w1 : World) (seen : Array Nat), (w1.Alike w ∧ w1.tape = w.tape) ∧ w' = w1.alloc (.mapIter (some bm) clock seen clock) := by
  have hrg := run_range_map (P := Tryz.prog) w 138 5 9 bm es clock Tryz.underlying138 hb
  go_enter Tryz.func63, Tryz.ntmps63
  go_wp2
  go_loopw [] (fun w' => ∃ (w1 : World) (seen : Array Nat), (w1.Alike w ∧ w1.tape = w.tape) ∧ w' = w1.alloc (.mapIter (some bm) clock seen clock) ∧ ∀ x ∈ es.toList, seen.contains x.born = true → ¬ hitOf word x) (fun w' => (leftOf es (w'.iterSeen w.heap.size)).size)
  case atStart => exact ⟨w, #[], ⟨⟨rfl, rfl, rfl⟩, rfl⟩, rfl, fun x _ h => by simp at h⟩
  case round =>
    obtain ⟨w1, seen, ⟨hal, htp⟩, rfl, hno⟩ := hrel
    have hsz : w1.heap.size = w.heap.size := by rw [hal.1]
    have hb1 : w1.heap[bm]? = some (.map es clock) := by rw [hal.1]; exact hb
    have law := run_next_map (P := Tryz.prog) w1 0 bm clock clock seen es clock hb1 hst.1 (Nat.le_refl _)
    rw [hsz] at law
    rcases law with ⟨h0, hrun⟩ | ⟨e, he, w2, hal2, hrun⟩
    · have hnx : ∀ ty, (Instr.next (.pointer (some ⟨w.heap.size, 0, none⟩)) false ty).run Tryz.prog (w1.alloc (.mapIter (some bm) clock seen clock)) = _ := fun _ => hrun
      go_wp2
      refine ⟨rfl, _, by simp [results, Tryz.results63, go_sem]; rfl, _, rfl, ?_⟩
      exact ⟨.inr ⟨fun x hx => hno x hx (all_seen es seen h0 x hx), rfl⟩, w1, seen, ⟨hal, htp⟩, rfl⟩
    · obtain ⟨k, s, hk, hs, hsm⟩ := hv e (mem_left he).1
      have htp2 : w2.tape = w1.tape := by
        have := NoSt.tape _ (noSt_next _ _ _) _ _ _ hrun
        exact this
      rw [hk, hs] at hrun
      have hnx : ∀ ty, (Instr.next (.pointer (some ⟨w.heap.size, 0, none⟩)) false ty).run Tryz.prog (w1.alloc (.mapIter (some bm) clock seen clock)) = _ := fun _ => hrun
      have hsz2 : w2.heap.size = w.heap.size := by rw [hal2.1, hal.1]
      have hb2 : w2.heap[bm]? = some (.map es clock) := by rw [hal2.1]; exact hb1
      have hen := run_entry_map (P := Tryz.prog) w2 bm clock seen es clock e hb2 (mem_left he).1 hst.2
      rw [hsz2, hk, hs] at hen
      have hal3 : w2.Alike w := ⟨hal2.1.trans hal.1, hal2.2.1.trans hal.2.1, hal2.2.2.trans hal.2.2⟩
      go_wp2
      · rename_i hq
        refine ⟨rfl, _, by simp [results, Tryz.results63, go_sem]; rfl, _, rfl, .inl ⟨e, (mem_left he).1, ⟨k, s, hk, hs, .inl hq⟩, ⟨k, s, hk, hs, ?_⟩⟩, w2, _, ⟨hal3, htp2.trans htp⟩, rfl⟩
        simp [hq]
      · rename_i hq1 hq2 hq
        refine ⟨rfl, _, by simp [results, Tryz.results63, go_sem]; rfl, _, rfl, .inl ⟨e, (mem_left he).1, ⟨k, s, hk, hs, .inr ?_⟩, ⟨k, s, hk, hs, ?_⟩⟩, w2, _, ⟨hal3, htp2.trans htp⟩, rfl⟩
        · rcases hq with h | h
          · exact absurd (eq_of_beq h) hq1
          · exact eq_of_beq h
        · simp [hq1]
      · rename_i hq1 hq2 hq
        go_roundw
        case rel =>
          refine ⟨w2, seen.push e.born, ⟨hal3, htp2.trans htp⟩, rfl, fun x hx hc => ?_⟩
          rw [contains_push] at hc
          rcases Bool.or_eq_true _ _ ▸ hc with h1 | h1
          · exact hno x hx h1
          · have : x = e := born_inj hst.2 hx (mem_left he).1 (beq_iff_eq.1 h1)
            subst this
            rintro ⟨k', s', hk', hs', h⟩
            rw [hs] at hs'
            cases hs'
            rcases h with h | h
            · exact hq1 h
            · have := hq.2
              rw [h] at this
              simp at this
        case measure =>
          rw [← hsz2, World.iterSeen_alloc, hsz2, ← hsz, World.iterSeen_alloc]
          exact left_shrinks es seen e he
/-- A contract of the shelf: what there was stays. -/
theorem WpCall.of_belowE {P : Program} {f : FuncId} {args : Array Value} {KP K : Value → Pr} {h : Heap} (hen : ∀ w, (callFunc f args).run P w = .ok (.enter f args) w)
    (c : ∀ w, R h w → Calls P f args w fun e w' => ∃ v, e = .returned v ∧ K v h ∧ Below w.heap.size w w') : WpCall P f args KP K h := ⟨fun w r => by
  unfold CallTo
  rw [hen w]
  refine (c w r).mono fun e w' ⟨v, he, k, hb⟩ => ?_
  subst he
  exact ⟨h, k, fun b x hx => by rw [hb.block b (r.lt hx)]; exact r b x hx, hb.os, hb.tape, hb.output, hb.size, fun b hlt _ => ⟨hb.block b hlt, .inr rfl⟩⟩⟩
theorem WpCall.of_below {P : Program} {f : FuncId} {args : Array Value} {v : Value} {KP K : Value → Pr} {h : Heap} (hen : ∀ w, (callFunc f args).run P w = .ok (.enter f args) w)
    (c : ∀ w, R h w → Calls P f args w fun e w' => e = .returned v ∧ Below w.heap.size w w') (k : K v h) : WpCall P f args KP K h :=
  WpCall.of_belowE hen fun w r => (c w r).mono fun e w' ⟨he, hb⟩ => ⟨v, he, k, hb⟩
theorem below_grow (w : World) (k : Nat) (os : Array Obj) : Below w.heap.size w (Go.Sort.grow (w.drewN k) os) :=
  ⟨rfl, rfl, rfl, by show _ ≤ (w.heap ++ os).size; simp, fun i hi => by show (w.heap ++ os)[i]? = _; rw [Array.getElem?_append_left hi]⟩
def beqL : List UInt8 → List UInt8 → Bool
  | [], [] => true
  | a :: l, b :: m => match Nat.beq a.toNat b.toNat with
    | true => beqL l m
    | false => false
  | _, _ => false
theorem beqL_iff : ∀ a b : List UInt8, beqL a b = true ↔ a = b
  | [], [] => by simp [beqL]
  | [], _ :: _ => by simp [beqL]
  | _ :: _, [] => by simp [beqL]
  | a :: l, b :: m => by
    unfold beqL
    cases h : Nat.beq a.toNat b.toNat with
    | true =>
      have : a = b := UInt8.toNat_inj.1 (Nat.eq_of_beq_eq_true h)
      subst this
      simp only [List.cons.injEq, true_and]
      exact beqL_iff l m
    | false =>
      have : a ≠ b := fun e => by subst e; rw [Nat.beq_refl] at h; cases h
      simp [this]
/-- The entries of a map of words that a word is, with or without 32 behind. -/
def hitsE (word : List UInt8) : List (SV × SV) → Option (List (Int × Bool))
  | [] => some []
  | (.int .u8 k, .str s) :: l => match hitsE word l with
    | some r => (match Nat.ble s.length 1000 with
      | true => (match beqL word s with
        | true => some ((k, false) :: r)
        | false => (match beqL word (s ++ [51, 50]) with
          | true => some ((k, true) :: r)
          | false => some r))
      | false => none)
    | none => none
  | _ => none
theorem toList_mk (l : List UInt8) : (⟨⟨l⟩⟩ : ByteArray).toList = l := Lib.toList_data _
theorem hitsE_eq {r : Ro} (word : List UInt8) : ∀ (l : List (SV × SV)) (es : List (Value × Value)) (hs : List (Int × Bool)), hitsE word l = some hs → MD r l es →
    (∀ x ∈ es, ∃ k s, x.1 = .int .u8 k ∧ x.2 = .string ⟨⟨s⟩⟩ ∧ s.length ≤ 1000) ∧ (∀ x ∈ es, ∀ k s, x.1 = .int .u8 k → x.2 = .string ⟨⟨s⟩⟩ → (word = s ∨ word = s ++ [51, 50]) → (k, !(beqL word s)) ∈ hs) ∧
    ∀ y ∈ hs, ∃ x ∈ es, ∃ k s, x.1 = .int .u8 k ∧ x.2 = .string ⟨⟨s⟩⟩ ∧ (word = s ∨ word = s ++ [51, 50])
  | [], es, hs, h, m => by
    have h : hs = [] := by unfold hitsE at h; exact (Option.some.inj h).symm
    have m : es = [] := m
    subst h m
    exact ⟨by simp, by simp, by simp⟩
  | (a, b) :: l, es, hs, h, m => by
    obtain ⟨y, z, w, rfl, h1, h2, h3⟩ := m
    unfold hitsE at h
    split at h
    · rename_i e; cases e
    · rename_i k s l' e
      cases e
      have h1 : y = .int .u8 k := h1
      have h2 : z = .string ⟨⟨s⟩⟩ := h2
      subst h1 h2
      split at h
      · rename_i rs hr
        obtain ⟨g1, g2, g3⟩ := hitsE_eq word l w rs hr h3
        split at h
        · rename_i hb
          have hb := Nat.le_of_ble_eq_true hb
          have G1 : ∀ x ∈ ((Value.int .u8 k, Value.string ⟨⟨s⟩⟩) :: w), ∃ k s, x.1 = .int .u8 k ∧ x.2 = .string ⟨⟨s⟩⟩ ∧ s.length ≤ 1000 := fun x hx => by
            rcases List.mem_cons.1 hx with hx | hx
            · subst hx; exact ⟨k, s, rfl, rfl, hb⟩
            · exact g1 x hx
          split at h
          · rename_i hq
            cases h
            refine ⟨G1, fun x hx k' s' q1 q2 q3 => ?_, fun y hy => ?_⟩
            · rcases List.mem_cons.1 hx with hx | hx
              · subst hx
                cases q1; cases q2
                rw [hq]; exact List.mem_cons_self
              · exact List.mem_cons_of_mem _ (g2 x hx k' s' q1 q2 q3)
            · rcases List.mem_cons.1 hy with hy | hy
              · exact ⟨_, List.mem_cons_self, k, s, rfl, rfl, .inl ((beqL_iff _ _).1 hq)⟩
              · obtain ⟨x, hx, g⟩ := g3 y hy
                exact ⟨x, List.mem_cons_of_mem _ hx, g⟩
          · rename_i hq
            split at h
            · rename_i hq2
              cases h
              refine ⟨G1, fun x hx k' s' q1 q2 q3 => ?_, fun y hy => ?_⟩
              · rcases List.mem_cons.1 hx with hx | hx
                · subst hx
                  cases q1; cases q2
                  rw [hq]; exact List.mem_cons_self
                · exact List.mem_cons_of_mem _ (g2 x hx k' s' q1 q2 q3)
              · rcases List.mem_cons.1 hy with hy | hy
                · exact ⟨_, List.mem_cons_self, k, s, rfl, rfl, .inr ((beqL_iff _ _).1 hq2)⟩
                · obtain ⟨x, hx, g⟩ := g3 y hy
                  exact ⟨x, List.mem_cons_of_mem _ hx, g⟩
            · rename_i hq2
              cases h
              refine ⟨G1, fun x hx k' s' q1 q2 q3 => ?_, fun y hy => ?_⟩
              · rcases List.mem_cons.1 hx with hx | hx
                · subst hx
                  cases q1; cases q2
                  rcases q3 with q3 | q3
                  · rw [(beqL_iff _ _).2 q3] at hq; cases hq
                  · rw [(beqL_iff _ _).2 q3] at hq2; cases hq2
                · exact g2 x hx k' s' q1 q2 q3
              · obtain ⟨x, hx, g⟩ := g3 y hy
                exact ⟨x, List.mem_cons_of_mem _ hx, g⟩
        · cases h
      · cases h
    · cases h
noncomputable def xOpOf (a : List SV) (k : SV → ER) : ER := match a with
  | [.map (some b), .str word] => fun H => (match H.t.get b with
    | some (.map es) => (match hitsE word es with
      | some [] => k (.tup [.int .u8 0, .bool false, .bool false]) H
      | some [(c, q)] => k (.tup [.int .u8 c, .bool q, .bool true]) H
      | _ => false)
    | _ => false)
  | _ => eF
theorem xopOf {r : Ro} {h0 : Heap} {H : CH} {h : Heap} (S : Sat r h0 H h) {a : List SV} {a' : List Value} (ha : SDl r a a') {k : SV → ER} {KP k' : Value → Pr} (K : KR r h0 k k') (e : xOpOf a k H = true) : WpCall Tryz.prog 63 a'.toArray KP k' h := by
  unfold xOpOf at e
  split at e
  · rename_i b word
    obtain ⟨_, _, rfl, ⟨p, hp, rfl⟩, _, _, rfl, h2, rfl⟩ := ha
    rw [show _ = Value.string ⟨⟨word⟩⟩ from h2]
    split at e
    · rename_i es hes
      obtain ⟨p', x, q1, q2, q3, _⟩ := S.live b _ hes trivial
      obtain rfl := Option.some.inj (hp.symm.trans q1)
      cases x with
      | map es' =>
        have q3 : MD r es es' := q3
        have main : ∀ hs, hitsE word es = some hs → (∀ v, ((hs = [] ∧ v = .tuple #[.int .u8 0, .bool false, .bool false]) ∨ (∃ c q, hs = [(c, q)] ∧ v = .tuple #[.int .u8 c, .bool q, .bool true])) → k' v h) → (hs = [] ∨ ∃ c q, hs = [(c, q)]) → WpCall Tryz.prog 63 #[.map (some p.b), .string ⟨⟨word⟩⟩] KP k' h := fun hs hh fin two => by
          obtain ⟨g1, g2, g3⟩ := hitsE_eq word es es' hs hh q3
          refine WpCall.of_belowE (Tryz.call63 _) fun w r => ?_
          obtain ⟨me, clk, w1, w2, w3⟩ := r _ _ q2
          have mm : ∀ x ∈ me.toList, (x.key, x.val) ∈ es' := fun x hx => by rw [← w2]; exact List.mem_map.2 ⟨x, hx, rfl⟩
          refine (opOf_walk p.b me clk ⟨⟨word⟩⟩ w w1 w3 fun x hx => ?_).mono fun e w' ⟨v, he, hv, wa, seen, ⟨⟨l1, l2, l3⟩, l4⟩, hw'⟩ => ?_
          · obtain ⟨k, s, a1, a2, a3⟩ := g1 _ (mm x hx)
            exact ⟨k, ⟨⟨s⟩⟩, a1, a2, a3⟩
          · refine ⟨v, he, fin v ?_, ?_⟩
            · rcases hv with ⟨x, hx, ⟨kx, sx, b1, b2, b3⟩, ⟨ky, sy, c1, c2, c3⟩⟩ | ⟨hno, hv⟩
              · rw [b1] at c1; cases c1
                rw [b2] at c2; cases c2
                have : (kx, !(beqL word sx.data.toList)) ∈ hs := g2 _ (mm x hx) kx sx.data.toList b1 b2 (by
                  rw [toList_mk, Lib.toList_data, Lib.toList_data] at b3
                  simpa using b3)
                rcases two with rfl | ⟨c, q, rfl⟩
                · cases this
                · refine .inr ⟨c, q, rfl, ?_⟩
                  obtain ⟨rfl, rfl⟩ := Prod.mk.inj (List.mem_singleton.1 this)
                  rw [c3, toList_mk, Lib.toList_data]
                  have : (word == sx.data.toList) = beqL word sx.data.toList := by
                    rw [Bool.eq_iff_iff, beq_iff_eq, beqL_iff]
                  rw [this]
              · rcases two with rfl | ⟨c, q, rfl⟩
                · exact .inl ⟨rfl, hv⟩
                · exfalso
                  obtain ⟨x, hx, kx, s, d1, d2, d3⟩ := g3 _ List.mem_cons_self
                  rw [← w2] at hx
                  obtain ⟨y, hy, rfl⟩ := List.mem_map.1 hx
                  refine hno y hy ⟨kx, ⟨⟨s⟩⟩, d1, d2, ?_⟩
                  rw [toList_mk, toList_mk, Lib.toList_data]
                  simpa using d3
            · subst hw'
              exact (show Below w.heap.size w wa from ⟨l2, l4, l3, by rw [l1]; exact Nat.le_refl _, fun _ _ => by rw [l1]⟩).alloc (Nat.le_of_eq (by rw [l1])) _
        split at e
        · rename_i hh
          refine main [] hh (fun v hv => ?_) (.inl rfl)
          rcases hv with ⟨_, rfl⟩ | ⟨c, q, h, _⟩
          · exact K.now S (v := .tup [.int .u8 0, .bool false, .bool false]) ⟨_, SDl.cons rfl (SDl.cons rfl (SDl.cons rfl SDl.nil)), rfl⟩ e
          · cases h
        · rename_i c q hh
          refine main _ hh (fun v hv => ?_) (.inr ⟨c, q, rfl⟩)
          rcases hv with ⟨h, _⟩ | ⟨c', q', h, rfl⟩
          · cases h
          · cases h
            exact K.now S (v := .tup [.int .u8 c, .bool q, .bool true]) ⟨_, SDl.cons rfl (SDl.cons rfl (SDl.cons rfl SDl.nil)), rfl⟩ e
        · cases e
      | row _ _ => exact q3.elim
      | fix _ => exact q3.elim
      | obj _ => exact q3.elim
    · cases e
  · exact eF_no e
noncomputable def xParse (a : List SV) (k : SV → ER) : ER := match a with
  | [.str s, .int .i64 (.ofNat m), .int .i64 (.ofNat b)] => fun H => (match Nat.beq m 10 && Nat.beq b 64 && (Nat.ble s.length 100000 && Nat.blt 0 s.length) with
      | true => (match Lib.parseIntB 64 s with
        | .ok n => k (.tup [.int .i64 n, .nifc]) H
        | _ => false)
      | false => false)
  | _ => eF
theorem xparse {r : Ro} {h0 : Heap} {H : CH} {h : Heap} (S : Sat r h0 H h) {a : List SV} {a' : List Value} (ha : SDl r a a') {k : SV → ER} {KP k' : Value → Pr} (K : KR r h0 k k') (e : xParse a k H = true) : WpCall Tryz.prog 147 a'.toArray KP k' h := by
  unfold xParse at e
  split at e
  · rename_i s m b
    obtain ⟨_, _, rfl, h1, _, _, rfl, h2, _, _, rfl, h3, rfl⟩ := ha
    rw [show _ = Value.string ⟨⟨s⟩⟩ from h1, show _ = Value.int .i64 (.ofNat m) from h2, show _ = Value.int .i64 (.ofNat b) from h3]
    split at e
    · rename_i hb
      simp only [Bool.and_eq_true] at hb
      obtain ⟨⟨b1, b2⟩, b3, b4⟩ := hb
      have b1 := Nat.eq_of_beq_eq_true b1
      have b2 := Nat.eq_of_beq_eq_true b2
      subst b1 b2
      have b3 := Nat.le_of_ble_eq_true b3
      have b4 := blt_iff.1 b4
      split at e
      · rename_i n hn
        refine WpCall.of_below (v := .tuple #[.int .i64 n, .nilIface]) (Tryz.call147 _) (fun w r => ?_) (K.now S (v := .tup [.int .i64 n, .nifc]) ⟨_, SDl.cons rfl (SDl.cons rfl SDl.nil), rfl⟩ e)
        have hz : (⟨⟨s⟩⟩ : ByteArray).size = s.length := rfl
        refine (Tryz.internal_strconv_ParseInt_10_at64 ⟨⟨s⟩⟩ (by rw [hz]; omega) (by rw [hz]; omega) w).mono fun e w' ⟨he, hw⟩ => ⟨?_, ?_⟩
        · rw [he]
          show Ending.returned (Lib.intTuple _ _ (Lib.parseIntB 64 s)) = _
          rw [hn]; rfl
        · rcases hw with rfl | ⟨t, rfl⟩
          · exact Below.refl _ _
          · exact Go.Joins.below_bytesWorld _ _ _ _ (Nat.le_refl _)
      · cases e
    · cases e
  · exact eF_no e
/- The decimal digits. -/
def digE : Nat → Nat → List UInt8 → Option (List UInt8)
  | 0, _, _ => none
  | f + 1, u, acc => match Nat.blt u 10 with
    | true => some (UInt8.ofNat (Nat.add 48 u) :: acc)
    | false => digE f (Nat.div u 10) (UInt8.ofNat (Nat.add 48 (Nat.mod u 10)) :: acc)
theorem digE_eq : ∀ (f u : Nat) (acc l : List UInt8), digE f u acc = some l → l = Lib.decDigits u ++ acc
  | 0, _, _, _, h => by cases h
  | f + 1, u, acc, l, h => by
    unfold digE at h
    rw [Lib.decDigits]
    cases hu : Nat.blt u 10 with
    | true =>
      simp only [hu] at h
      cases h
      rw [dif_pos (blt_iff.1 hu)]; rfl
    | false =>
      simp only [hu] at h
      have : ¬ u < 10 := fun hh => by rw [blt_iff.2 hh] at hu; cases hu
      rw [dif_neg this]
      have := digE_eq f _ _ _ h
      rw [this, List.append_assoc]; rfl
/-- The decimal numeral of a number. -/
def numE : Int → Option (List UInt8)
  | .ofNat n => match Nat.ble n 9223372036854775807 with
    | true => digE 25 n []
    | false => none
  | .negSucc n => match Nat.ble n 9223372036854775807 with
    | true => (match digE 25 (Nat.succ n) [] with
      | some l => some (45 :: l)
      | none => none)
    | false => none
theorem numE_eq : ∀ (n : Int) (l : List UInt8), numE n = some l → Lib.itoa n = l ∧ -9223372036854775808 ≤ n ∧ n ≤ 9223372036854775807
  | .ofNat n, l, h => by
    unfold numE at h
    simp only at h
    split at h
    · rename_i hb
      have hb := Nat.le_of_ble_eq_true hb
      have := digE_eq _ _ _ _ h
      rw [List.append_nil] at this
      refine ⟨by rw [this]; exact Lib.itoa_nonneg n, ?_, ?_⟩
      · show _ ≤ (n : Int); omega
      · show (n : Int) ≤ _; omega
    · cases h
  | .negSucc n, l, h => by
    unfold numE at h
    simp only at h
    split at h
    · rename_i hb
      have hb := Nat.le_of_ble_eq_true hb
      split at h
      · rename_i l' hl
        cases h
        have := digE_eq _ _ _ _ hl
        rw [List.append_nil] at this
        refine ⟨?_, ?_, ?_⟩
        · rw [this]
          exact Lib.itoa_neg (n + 1) (by omega)
        · rw [Int.negSucc_eq]; omega
        · rw [Int.negSucc_eq]; omega
      · cases h
    · cases h
noncomputable def xFormat (a : List SV) (k : SV → ER) : ER := match a with
  | [.int .i64 n, .int .i64 (.ofNat m)] => fun H => (match numE n with
    | some l => (match H.t.get 0 with
      | some (.pow10 g) => (match Nat.beq g powG && Nat.beq m 10 with
        | true => k (.str l) H
        | false => false)
      | _ => false)
    | none => false)
  | _ => eF
theorem pow_named : Tryz.prog.globalNamed "internal/strconv.uint64pow10" = some powG := by kernel_rfl
theorem xformat {r : Ro} {h0 : Heap} {H : CH} {h : Heap} (S : Sat r h0 H h) {a : List SV} {a' : List Value} (ha : SDl r a a') {k : SV → ER} {KP k' : Value → Pr} (K : KR r h0 k k') (e : xFormat a k H = true) : WpCall Tryz.prog 149 a'.toArray KP k' h := by
  unfold xFormat at e
  split at e
  · rename_i n m
    obtain ⟨_, _, rfl, h1, _, _, rfl, h2, rfl⟩ := ha
    rw [show _ = Value.int .i64 n from h1, show _ = Value.int .i64 (.ofNat m) from h2]
    split at e
    · rename_i l hl
      split at e
      · rename_i g hg
        split at e
        · rename_i hc
          rw [Bool.and_eq_true] at hc
          have hgg := Nat.eq_of_beq_eq_true hc.1
          have hm := Nat.eq_of_beq_eq_true hc.2
          subst hm
          obtain ⟨hi, hn1, hn2⟩ := numE_eq _ _ hl
          obtain ⟨ty, fr, hh⟩ := (S.glob 0 g hg).1 (by rw [hgg]; decide)
          refine WpCall.of_below (v := .string ⟨⟨l⟩⟩) (Tryz.call149 _) (fun w r => ?_) (K.now S (by exact rfl) e)
          refine (Tryz.strconv_FormatInt_10 n hn1 hn2 w ?_).mono fun e w' ⟨he, kk, os, hw⟩ => ?_
          · have := r _ _ (S.le _ _ hh)
            show w.var? _ _ = _
            unfold World.var?
            rw [pow_named, ← hgg]
            simp only [Option.bind_some]
            rw [show w.heap[g]? = _ from this]
          · rw [hi] at he
            rw [hw]
            exact ⟨he, below_grow _ _ _⟩
        · cases e
      · cases e
    · cases e
  · exact eF_no e
def idxE (sub : List UInt8) : Nat → List UInt8 → Int
  | i, [] => match sub with
    | [] => Int.ofNat i
    | _ :: _ => -1
  | i, b :: l => match beqL sub ((b :: l).take sub.length) with
    | true => Int.ofNat i
    | false => idxE sub (Nat.succ i) l
theorem idxE_eq (sub : List UInt8) : ∀ (l : List UInt8) (i : Nat), idxE sub i l = if Lib.index l sub = -1 then -1 else Lib.index l sub + i
  | [], i => by
    unfold idxE Lib.index
    cases sub <;> simp
  | b :: l, i => by
    unfold idxE Lib.index
    have hp : sub.isPrefixOf (b :: l) = beqL sub ((b :: l).take sub.length) := by
      rw [Bool.eq_iff_iff, beqL_iff, List.isPrefixOf_iff_prefix]
      exact List.prefix_iff_eq_take
    rw [hp]
    cases beqL sub ((b :: l).take sub.length) with
    | true => simp
    | false =>
      simp only
      rw [idxE_eq sub l (Nat.succ i)]
      have := Lib.index_ge l sub
      by_cases h : Lib.index l sub = -1
      · simp [h]
      · rw [if_neg h]
        simp only [Bool.false_eq_true, if_false, beq_iff_eq, h]
        rw [if_neg (by omega)]
        push_cast
        omega
noncomputable def xIndex (a : List SV) (k : SV → ER) : ER := match a with
  | [.str s, .str sub] => fun H => (match H.t.get 1 with
    | some (.pow10 g) => (match Nat.beq g (1000 + maxG) && Nat.ble s.length 100000 with
      | true => k (.int .i64 (idxE sub 0 s)) H
      | false => false)
    | _ => false)
  | _ => eF
theorem xindexS {r : Ro} {h0 : Heap} {H : CH} {h : Heap} (S : Sat r h0 H h) {a : List SV} {a' : List Value} (ha : SDl r a a') {k : SV → ER} {KP k' : Value → Pr} (K : KR r h0 k k') (e : xIndex a k H = true) : WpCall Tryz.prog 145 a'.toArray KP k' h := by
  unfold xIndex at e
  split at e
  · rename_i s sub
    obtain ⟨_, _, rfl, h1, _, _, rfl, h2, rfl⟩ := ha
    rw [show _ = Value.string ⟨⟨s⟩⟩ from h1, show _ = Value.string ⟨⟨sub⟩⟩ from h2]
    split at e
    · rename_i g hg
      split at e
      · rename_i hc
        rw [Bool.and_eq_true] at hc
        obtain rfl := Nat.eq_of_beq_eq_true hc.1
        have hn := Nat.le_of_ble_eq_true hc.2
        obtain ⟨m, cs, ty, fr, hh, hm⟩ := (S.glob 1 _ hg).2 (by omega)
        refine WpCall.of_below (v := .int .i64 (idxE sub 0 s)) (Tryz.call145 _) (fun w r => ?_) (K.now S (by exact rfl) e)
        have hz : (⟨⟨s⟩⟩ : ByteArray).size = s.length := rfl
        refine (Tryz.stringslite_Index ⟨⟨s⟩⟩ ⟨⟨sub⟩⟩ m w (by rw [hz]; omega) ?_).mono fun e w' ⟨he, hw⟩ => ?_
        · have := r _ _ (S.le _ _ hh)
          unfold World.cell?
          simp only
          rw [show w.heap[maxG]? = _ from this]
          simpa using hm
        · rw [hw, he]
          refine ⟨?_, Below.refl _ _⟩
          show Ending.returned (.int .i64 (Lib.index s sub)) = _
          have := idxE_eq sub s 0
          rw [this]
          have := Lib.index_ge s sub
          split
          · rename_i h; rw [h]
          · simp
      · cases e
    · cases e
  · exact eF_no e
theorem ext_ib : IsExtern Tryz.prog 220 Extern.BytealgIndexByte.indexByte :=
  ⟨fun args w => run_callFunc_extern Tryz.func220 (by kernel_rfl) (by kernel_rfl) (by kernel_rfl) (by kernel_rfl) args w⟩
theorem ext_cs : IsExtern Tryz.prog 144 Extern.BytealgCount.count :=
  ⟨fun args w => run_callFunc_extern Tryz.func144 (by kernel_rfl) (by kernel_rfl) (by kernel_rfl) (by kernel_rfl) args w⟩
noncomputable def xIndexByte (a : List SV) (k : SV → ER) : ER := match a with
  | [.str s, .int .u8 c] => k (.int .i64 (firstIdx ⟨⟨s⟩⟩ c.toNat.toUInt8))
  | _ => eF
noncomputable def xCount (a : List SV) (k : SV → ER) : ER := match a with
  | [.str s, .int .u8 c] => k (.int .i64 (Lib.countByte s c.toNat.toUInt8))
  | _ => eF
theorem xcount {r : Ro} {h0 : Heap} {H : CH} {h : Heap} (S : Sat r h0 H h) {a : List SV} {a' : List Value} (ha : SDl r a a') {k : SV → ER} {KP k' : Value → Pr} (K : KR r h0 k k') (e : xCount a k H = true) : WpCall Tryz.prog 144 a'.toArray KP k' h := by
  unfold xCount at e
  split at e
  · rename_i s c
    obtain ⟨_, _, rfl, h1, _, _, rfl, h2, rfl⟩ := ha
    rw [show _ = Value.string ⟨⟨s⟩⟩ from h1, show _ = Value.int .u8 c from h2]
    exact ext_cs.call (v := .int .i64 (Lib.countByte s c.toNat.toUInt8)) (fun w _ => Lib.run_countString ⟨⟨s⟩⟩ c w) (K.now S (by exact rfl) e)
  · exact eF_no e
theorem xindex {r : Ro} {h0 : Heap} {H : CH} {h : Heap} (S : Sat r h0 H h) {a : List SV} {a' : List Value} (ha : SDl r a a') {k : SV → ER} {KP k' : Value → Pr} (K : KR r h0 k k') (e : xIndexByte a k H = true) : WpCall Tryz.prog 220 a'.toArray KP k' h := by
  unfold xIndexByte at e
  split at e
  · rename_i s c
    obtain ⟨_, _, rfl, h1, _, _, rfl, h2, rfl⟩ := ha
    rw [show _ = Value.string ⟨⟨s⟩⟩ from h1, show _ = Value.int .u8 c from h2]
    exact ext_ib.call (v := .int .i64 (firstIdx ⟨⟨s⟩⟩ c.toNat.toUInt8)) (fun w _ => run_indexByte_string ⟨⟨s⟩⟩ c w) (K.now S (by exact rfl) e)
  · exact eF_no e
noncomputable def extZ : Cal := fun f a k => match Nat.beq f 63 with
  | true => xOpOf a k
  | false => match Nat.beq f 147 with
    | true => xParse a k
    | false => match Nat.beq f 149 with
      | true => xFormat a k
      | false => match Nat.beq f 145 with
        | true => xIndex a k
        | false => match Nat.beq f 144 with
          | true => xCount a k
          | false => match Nat.beq f 220 with
            | true => xIndexByte a k
            | false => eF
theorem extZ_ok : CalOk Tryz.prog extZ := fun r h0 H h f a a' k KP k' S ha K e => by
  unfold extZ at e
  cases h1 : Nat.beq f 63 with
  | true => simp only [h1] at e; have := Nat.eq_of_beq_eq_true h1; subst this; exact xopOf S ha K e
  | false =>
    simp only [h1] at e
    cases h2 : Nat.beq f 147 with
    | true => simp only [h2] at e; have := Nat.eq_of_beq_eq_true h2; subst this; exact xparse S ha K e
    | false =>
      simp only [h2] at e
      cases h3 : Nat.beq f 149 with
      | true => simp only [h3] at e; have := Nat.eq_of_beq_eq_true h3; subst this; exact xformat S ha K e
      | false =>
        simp only [h3] at e
        cases h4 : Nat.beq f 145 with
        | true => simp only [h4] at e; have := Nat.eq_of_beq_eq_true h4; subst this; exact xindexS S ha K e
        | false =>
          simp only [h4] at e
          cases h5 : Nat.beq f 144 with
          | true => simp only [h5] at e; have := Nat.eq_of_beq_eq_true h5; subst this; exact xcount S ha K e
          | false =>
            simp only [h5] at e
            cases h6 : Nat.beq f 220 with
            | true => simp only [h6] at e; have := Nat.eq_of_beq_eq_true h6; subst this; exact xindex S ha K e
            | false => simp only [h6] at e; exact eF_no e
end Go.Proofs.YtahmmlebelhamaaGreatDoor
