/- areg.Begin, Wide, Op. -/
import Derived.Test.YtpbhanglcophbaaGreatE
set_option linter.unusedVariables false
set_option linter.unusedSimpArgs false
set_option linter.unnecessarySimpa false
namespace Go.Proofs.YtpbhanglcophbaaGreat
open Go.Hl
attribute [local irreducible] loadF zc sizeP bytesP vcBody pInvoke pIf pAssert pNew pLd pLdA pSt pStA pSome pIdx pPart pCall pCallV pAppend pExtend pGet pGetS pPut pNewObj pJoin pLoop pKeep fgt iter pFits pClear
section
variable {KP K : Value → Pr} {h : Heap} {x y n id kind hook : Int} {M R : List Pr} {p tot op : Nat} {a b : Ab} {s : St} {l : Sl} {no ok : Bool} {L : List Int} {i j : In} {D : List Mp} {dl : Sl}
abbrev tellV (s : St) (l : Sl) (ok : Bool) : Value := .tuple #[.agg (stC s l).toArray, .bool ok]
abbrev noV : Value := tellV .zero ⟨none, 0, 0⟩ false
theorem and240 {n : Nat} (h : n < 256) : bitsV .and .u8 (n : Int) 240 = ((n &&& 240 : Nat) : Int) := and8' (m := 240) (q := 240) h rfl (by decide)
theorem and7' {n : Nat} (h : n < 256) : bitsV .and .u8 (n : Int) 7 = ((n &&& 7 : Nat) : Int) := and8' (m := 7) (q := 7) h rfl (by decide)
theorem and8'' {n : Nat} (h : n < 256) : bitsV .and .u8 (n : Int) 8 = ((n &&& 8 : Nat) : Int) := and8' (m := 8) (q := 8) h rfl (by decide)
theorem begin_s (k : K (.agg (stC .begin ⟨none, 0, 0⟩).toArray) h) : WpCall Tryz.prog 12 #[] KP K h := by
  refine areg_Begin_call ?_
  have H := hstart h
  simp only [areg_Begin, zc_eq, lay_eq, add_mk, Nat.zero_add, Nat.add_zero]
  refine new_c (n := 294) H (stC_len _ _) fun b1 h H => new_c (n := 294) H (stC_len _ _) fun b2 h H => stA_c H (stC_len _ _) fun h H => pIdx_i (by decide) (by decide) ?_
  refine st_c (c := st_reg_put (k := 1) (j := 0) (a := ⟨3, .zero, 0#64, 0#64, 0, false, 0⟩) (by decide) (by decide) (by rfl)) H fun h H => pIdx_i (by decide) (by decide) ?_
  refine st_c (c := st_reg_put (k := 10) (j := 0) (a := ⟨2, .zero, 0#64, 0#64, 0, false, 0⟩) (by decide) (by decide) (by rfl)) H fun h H => ?_
  refine ldA_c H (stA_c H (stC_len _ _) fun h H => ldA_c H (back H k))
theorem wideA_s (oi : i.Ok) (C : Ints l s.held h) (H : seps M h) (k : ∀ l' h, seps (own 1 l' (inC s.held) :: M) h → K (.agg (stC (wideSt s i j) l').toArray) h) : WpCall Tryz.prog 14 #[.agg (stC s l).toArray, .agg i.enc.toArray, .agg j.enc.toArray] KP K h := by
  refine areg_Wide_call (stC s l) i.enc j.enc ?_
  unfold wideSt at k
  simp only [areg_Wide, zc_eq, lay_eq, pJoin_eq, add_mk, Nat.zero_add, Nat.add_zero]
  refine new_l H (stC_len _ _) fun b1 h le H => ?_
  have C := C.le le
  refine new_l H (show i.enc.length = 5 from rfl) fun b2 h le H => ?_
  have C := C.le le
  refine new_l H (show j.enc.length = 5 from rfl) fun b3 h le H => ?_
  have C := C.le le
  refine new_l H (stC_len _ _) fun b4 h le H => ?_
  have C := C.le le
  clear le
  refine ldA_c H (call_c (on_s C H fun p l' h H => one1 (s := .ptr) ?_))
  refine ldA_c H (ldA_c H (call_c (wide_s (one1 (s := .int .u64) (x := ((wideF i.imm j.imm).toNat : Int)) ?_))))
  have last : ∀ (t : St) (no : Bool) h, t = (if 10 < i.dst then s else s.setReg i.dst (if i.src = 1 then ⟨7, .zero, 0#64, 0#64, (wideF i.imm j.imm).toInt, false, 0⟩ else conF (wideF i.imm j.imm))) → seps (rowP p (wkC t l' no) 295 :: own 1 l' (inC s.held) :: rowP b4 (stC .zero ⟨none, 0, 0⟩) 294 :: M) h → areg_Wide_j1 (fgt K) b4 (some ⟨p, 0, none⟩) h := fun t no h et H => by
    subst et
    simp only [areg_Wide_j1, pSome_some, add_mk, Nat.zero_add]
    refine ldA_c H (stA_c H (stC_len _ _) fun h H => ldA_c H (fgt_mk (k l' _ (sub H))))
  refine ld_c H rfl (if_c (fun h1 => ?_) (fun h1 => ?_))
  · have h1 : i.src = 1 := by omega
    refine ld_c H rfl (call_c ?_)
    rw [u_i]
    refine set_c (a := ⟨7, .zero, 0#64, 0#64, (wideF i.imm j.imm).toInt, false, 0⟩) rfl oi.dst H (fun h2 h H => tup0 (last _ _ _ ?_ (row_out p H))) (fun h2 h H => tup0 (last _ _ _ ?_ (row_out p H)))
    · rw [if_neg (by omega), if_pos h1]
    · rw [if_pos h2]
  · have h1 : ¬ i.src = 1 := by omega
    refine ld_c H rfl (call_c (con_s (v := wideF i.imm j.imm) (one1 (keep_c H (by rfl) (call_c (anum_s (q := Nm.con (wideF i.imm j.imm)) (one1 (keep_c H (by rfl) (call_c ?_)))))))))
    refine set_c (a := conF (wideF i.imm j.imm)) rfl oi.dst H (fun h2 h H => tup0 (last _ _ _ ?_ (row_out p H))) (fun h2 h H => tup0 (last _ _ _ ?_ (row_out p H)))
    · rw [if_neg (by omega), if_neg h1]
    · rw [if_pos h2]
/-- How a function of a state ends. -/
def EndOk (K : Value → Pr) (M : List Pr) (o : Option St) : Prop := match o with
  | none => ∀ h, seps M h → K noV h
  | some t => ∀ l' h, seps (own 1 l' (inC t.held) :: M) h → K (tellV t l' true) h
theorem op_j4 {b3 : Nat} {cs : List Value} {t : St} (hc : cs = stC .zero ⟨none, 0, 0⟩) {l : Sl} (H : seps (rowP p (wkC t l false) 295 :: own 1 l (inC t.held) :: rowP b3 cs 294 :: M) h) (k : EndOk K M (some t)) : areg_Op_j4 (fgt KP) (fgt K) b3 (some ⟨p, 0, none⟩) h := by
  subst hc
  unfold areg_Op_j4
  refine call_c (told_t H fun h H => tup2 (s := .agg) (x := stC t l) ?_)
  dsimp only
  exact stA_c H (stC_len _ _) fun h H => ldA_c H (fgt_mk (k l _ (sub H)))
theorem op_j4n {b3 : Nat} {t : St} {N : List Pr} (H : seps (rowP p (wkC t l true) 295 :: rowP b3 (stC .zero ⟨none, 0, 0⟩) 294 :: N) h) [q : Sub N M] (k : EndOk K M none) : areg_Op_j4 (fgt KP) (fgt K) b3 (some ⟨p, 0, none⟩) h := by
  unfold areg_Op_j4
  refine call_c (told_f H fun h H => tup2 (s := .agg) (x := stC .zero ⟨none, 0, 0⟩) ?_)
  dsimp only
  refine stA_c H (stC_len _ _) fun h H => ldA_c H (fgt_mk (k _ ?_))
  exact q.out (seps_tail (seps_tail H))
set_option maxHeartbeats 1000000 in
theorem opA_s (oi : i.Ok) (C : Ints l s.held h) (H : seps M h) (k : EndOk K M (opF s i)) : WpCall Tryz.prog 7 #[.agg (stC s l).toArray, .agg i.enc.toArray] KP K h := by
  refine areg_Op_call (stC s l) i.enc ?_
  simp only [areg_Op, zc_eq, lay_eq, pJoin_eq, add_mk, Nat.zero_add, Nat.add_zero]
  refine new_l H (stC_len _ _) fun b1 h le H => ?_
  have C := C.le le
  refine new_l H (show i.enc.length = 5 from rfl) fun b2 h le H => ?_
  have C := C.le le
  refine new_l H (stC_len _ _) fun b3 h le H => ?_
  have C := C.le le
  clear le
  refine ldA_c H (call_c (on_s C H fun p l' h H => one1 (s := .ptr) ?_))
  clear C
  refine ld_c H rfl (ld_c H rfl (call_c (con_s (v := 0#64) (one1 (call_c (anum_s (q := Nm.con 0#64) (one1 (new_c (n := 12) H (by rfl) fun b10 h H => stA_c H (by rfl) fun h H => ?_))))))))
  rw [and240 oi.op]
  -- what is refused
  have bad5 : ∀ (u w : Ab) b16 h, opF s i = none → seps (rowP p (wkC s l' true) 295 :: rowP b16 w.enc 12 :: rowP b10 u.enc 12 :: own 1 l' (inC s.held) :: rowP b3 (stC .zero ⟨none, 0, 0⟩) 294 :: rowP b2 i.enc 5 :: M) h → areg_Op_j5 (fgt KP) (fgt K) b2 b3 (some ⟨p, 0, none⟩) i.op i.op b10 b16 h := fun u w b16 h e H => by
    rw [e] at k
    simp only [areg_Op_j5, pJoin_eq, pSome_some, add_mk, Nat.zero_add]
    refine ld_c H wk_no (pIf_t (by rfl) ?_)
    exact op_j4n (M := M) (N := M) (row_out p H) k
  -- both operands
  have j5 : ∀ (u w : Ab) b16 h, (¬ i.op &&& 240 = 176 → ¬ 10 < i.dst ∧ ¬ (s.reg i.dst).kind = 0) → u = (if i.op &&& 240 = 176 then conF 0#64 else s.reg i.dst) → (if i.op &&& 240 = 128 then some (conF 0#64) else operandF s i) = some w → seps (rowP p (wkC s l' false) 295 :: rowP b16 w.enc 12 :: rowP b10 u.enc 12 :: own 1 l' (inC s.held) :: rowP b3 (stC .zero ⟨none, 0, 0⟩) 294 :: rowP b2 i.enc 5 :: M) h → areg_Op_j5 (fgt KP) (fgt K) b2 b3 (some ⟨p, 0, none⟩) i.op i.op b10 b16 h := fun u w b16 h ed eu ew H => by
    have en : 10 < i.dst → opF s i = none := fun e => by unfold opF; rw [if_pos e]
    have ee : ¬ 10 < i.dst → opF s i = (if i.op &&& 240 = 176 ∧ i.op &&& 7 = 7 then some (s.setReg i.dst w)
        else if i.op &&& 7 = 7 ∧ u.ptr = true ∧ w.kind = 1 ∧ (i.op &&& 240 = 0 ∨ i.op &&& 240 = 16) then (movedF (i.op &&& 240) u w.num).map (s.setReg i.dst)
        else if u.kind = 1 ∧ w.kind = 1 then some (s.setReg i.dst (.ofNum ((xferO ((i.op &&& 240 : Nat) : Int) (decide (i.op &&& 7 = 7)) u.num w.num).getD .all))) else none) := fun hd => by
      unfold opF
      rw [if_neg hd, if_neg (fun e => (ed e.1).2 e.2), ew]
      dsimp only
      rw [← eu]
    have e7 : (((i.op &&& 7 : Nat) : Int) == 7) = decide (i.op &&& 7 = 7) := by rw [Bool.eq_iff_iff]; simp; omega
    have hp := oi.op
    have ok4 : ∀ (x : Ab) h, ¬ 10 < i.dst → opF s i = some (s.setReg i.dst x) → seps (rowP p (wkC (s.setReg i.dst x) l' false) 295 :: rowP b16 w.enc 12 :: rowP b10 u.enc 12 :: own 1 l' (inC s.held) :: rowP b3 (stC .zero ⟨none, 0, 0⟩) 294 :: rowP b2 i.enc 5 :: M) h → areg_Op_j4 (fgt KP) (fgt K) b3 (some ⟨p, 0, none⟩) h := fun x h hd e H => by
      rw [e] at k
      have H2 := row_out (R := own 1 l' (inC s.held) :: rowP b3 (stC .zero ⟨none, 0, 0⟩) 294 :: M) p H
      exact op_j4 (M := M) (t := s.setReg i.dst x) rfl H2 k
    have no4 : ∀ (t : St) h, opF s i = none → seps (rowP p (wkC t l' true) 295 :: rowP b16 w.enc 12 :: rowP b10 u.enc 12 :: own 1 l' (inC s.held) :: rowP b3 (stC .zero ⟨none, 0, 0⟩) 294 :: rowP b2 i.enc 5 :: M) h → areg_Op_j4 (fgt KP) (fgt K) b3 (some ⟨p, 0, none⟩) h := fun t h e H => by
      rw [e] at k
      exact op_j4n (M := M) (N := M) (row_out p H) k
    have j2f : ∀ h, ¬ (i.op &&& 240 = 176 ∧ i.op &&& 7 = 7) → ¬ (i.op &&& 7 = 7 ∧ u.ptr = true ∧ w.kind = 1 ∧ (i.op &&& 240 = 0 ∨ i.op &&& 240 = 16)) → seps (rowP p (wkC s l' false) 295 :: rowP b16 w.enc 12 :: rowP b10 u.enc 12 :: own 1 l' (inC s.held) :: rowP b3 (stC .zero ⟨none, 0, 0⟩) 294 :: rowP b2 i.enc 5 :: M) h → areg_Op_j2 (fgt KP) b2 (some ⟨p, 0, none⟩) i.op i.op b10 b16 (fun s => areg_Op_j4 (fgt KP) (fgt K) b3 (some ⟨p, 0, none⟩)) false h := fun h n1 n2 H => by
      have e3 : ¬ (u.kind = 1 ∧ w.kind = 1) → opF s i = none := fun e => by
        by_cases hd : 10 < i.dst
        · exact en hd
        · rw [ee hd, if_neg n1, if_neg n2, if_neg e]
      simp only [areg_Op_j2, pJoin_eq, add_mk, Nat.zero_add]
      refine pIf_f (by rfl) (ld_c H rfl ?_)
      have j1f : ∀ h, ¬ (u.kind = 1 ∧ w.kind = 1) → seps (rowP p (wkC s l' true) 295 :: rowP b16 w.enc 12 :: rowP b10 u.enc 12 :: own 1 l' (inC s.held) :: rowP b3 (stC .zero ⟨none, 0, 0⟩) 294 :: rowP b2 i.enc 5 :: M) h → areg_Op_j1 (fgt KP) b2 (some ⟨p, 0, none⟩) i.op i.op b10 b16 (fun s => areg_Op_j4 (fgt KP) (fgt K) b3 (some ⟨p, 0, none⟩)) false h := fun h e H => by
        unfold areg_Op_j1
        exact pIf_f (by rfl) (no4 s _ (e3 e) H)
      refine if_c (fun h1 => ?_) (fun h1 => call_c (need_c H (fun h3 => absurd h3 (by simp)) (fun h3 h H => one1 (j1f _ (fun e => h1 e.1) (row_out p H)))))
      refine ld_c H rfl ?_
      refine call_c (need_c H (fun h2 h H => one1 ?_) (fun h2 h H => one1 (j1f _ (fun e => h2 e.2) (row_out p H))))
      simp only [areg_Op_j1, zc_eq, add_mk, Nat.zero_add]
      rw [and240 hp, and7' hp, e7]
      refine pIf_t (by rfl) (ldA_c H (ldA_c H (call_c (xfer_s (a := u.num) (b := w.num) (tup2 (s := .agg) (x := ((xferO ((i.op &&& 240 : Nat) : Int) (decide (i.op &&& 7 = 7)) u.num w.num).getD .all).enc) ?_)))))
      dsimp only
      generalize hx : ((xferO ((i.op &&& 240 : Nat) : Int) (decide (i.op &&& 7 = 7)) u.num w.num).getD .all) = x at ee
      refine new_c (n := 6) H (by rfl) fun b47 h H => stA_c H (by rfl) fun h H => ld_c H rfl (ldA_c H (call_c (anum_s (q := x) (one1 (keep_c H rfl (call_c ?_))))))
      refine set_c (a := Ab.ofNum x) rfl oi.dst H (fun h2' h H => tup0 (ok4 (Ab.ofNum x) _ (by omega) ?_ (row_out p H))) (fun h2' h H => tup0 (no4 s _ (en h2') (row_out p H)))
      rw [ee (by omega), if_neg n1, if_neg n2, if_pos ⟨h1, h2⟩]
    have j3f : ∀ h, ¬ (i.op &&& 240 = 176 ∧ i.op &&& 7 = 7) → seps (rowP p (wkC s l' false) 295 :: rowP b16 w.enc 12 :: rowP b10 u.enc 12 :: own 1 l' (inC s.held) :: rowP b3 (stC .zero ⟨none, 0, 0⟩) 294 :: rowP b2 i.enc 5 :: M) h → areg_Op_j3 (fgt KP) b2 (some ⟨p, 0, none⟩) i.op i.op b10 b16 (fun s => areg_Op_j4 (fgt KP) (fgt K) b3 (some ⟨p, 0, none⟩)) false h := fun h n1 H => by
      simp only [areg_Op_j3, pJoin_eq, add_mk, Nat.zero_add]
      rw [and240 hp, and7' hp]
      have j2t : ∀ h, (i.op &&& 7 = 7 ∧ u.ptr = true ∧ w.kind = 1 ∧ (i.op &&& 240 = 0 ∨ i.op &&& 240 = 16)) → seps (rowP p (wkC s l' false) 295 :: rowP b16 w.enc 12 :: rowP b10 u.enc 12 :: own 1 l' (inC s.held) :: rowP b3 (stC .zero ⟨none, 0, 0⟩) 294 :: rowP b2 i.enc 5 :: M) h → areg_Op_j2 (fgt KP) b2 (some ⟨p, 0, none⟩) i.op i.op b10 b16 (fun s => areg_Op_j4 (fgt KP) (fgt K) b3 (some ⟨p, 0, none⟩)) true h := fun h q H => by
        simp only [areg_Op_j2, add_mk, Nat.zero_add]
        rw [and240 hp]
        refine pIf_t (by rfl) (ld_c H rfl (ldA_c H (ldA_c H (call_c ?_))))
        refine moved_c (a := u) (q := w.num) (op := i.op &&& 240) q.2.2.2 rfl H (fun x ex h H => one1 (keep_c H rfl (call_c ?_))) (fun ex x h H => one1 (keep_c H rfl (call_c ?_)))
        · refine set_c (a := x) rfl oi.dst H (fun h2' h H => tup0 (ok4 x _ (by omega) ?_ (row_out p H))) (fun h2' h H => tup0 (no4 s _ (en h2') (row_out p H)))
          rw [ee (by omega), if_neg n1, if_pos q, ex]; rfl
        · have hn : opF s i = none := by
            by_cases hd : 10 < i.dst
            · exact en hd
            · rw [ee hd, if_neg n1, if_pos q, ex]; rfl
          refine set_c (a := x) rfl oi.dst H (fun h2' h H => tup0 (no4 _ _ hn (row_out p H))) (fun h2' h H => tup0 (no4 s _ hn (row_out p H)))
      refine pIf_f (by rfl) (if_c (fun h1 => ?_) (fun h1 => j2f _ n1 (fun e => h1 (by omega)) H))
      have h1 : i.op &&& 7 = 7 := by omega
      refine ldA_c H (call_c (isPointer_s (a := u) (one1 (if_c (fun h2 => ?_) (fun h2 => j2f _ n1 (fun e => h2 e.2.1) H)))))
      refine ld_c H rfl ?_
      refine if_c (fun h3 => ?_) (fun h3 => j2f _ n1 (fun e => h3 e.2.2.1) H)
      refine if_c (fun h4 => j2t _ ⟨h1, h2, h3, .inl (by omega)⟩ H) (fun h4 => ?_)
      by_cases h5 : i.op &&& 240 = 16
      · rw [show (((i.op &&& 240 : Nat) : Int) == 16) = true by simp; omega]; exact j2t _ ⟨h1, h2, h3, .inr h5⟩ H
      · rw [show (((i.op &&& 240 : Nat) : Int) == 16) = false by simp; omega]; exact j2f _ n1 (fun e => by omega) H
    simp only [areg_Op_j5, pJoin_eq, pSome_some, add_mk, Nat.zero_add]
    rw [and240 hp, and7' hp]
    refine ld_c H wk_no (pIf_f (by rfl) (if_c (fun h1 => ?_) (fun h1 => j3f _ (fun e => h1 (by omega)) H)))
    have h1 : i.op &&& 240 = 176 := by omega
    by_cases h2 : i.op &&& 7 = 7
    · rw [show (((i.op &&& 7 : Nat) : Int) == 7) = true by simp; omega]
      unfold areg_Op_j3
      simp only [add_mk, Nat.zero_add]
      refine pIf_t (by rfl) (ld_c H rfl (ldA_c H (call_c ?_)))
      refine set_c (a := w) rfl oi.dst H (fun h2' h H => tup0 (ok4 w _ (by omega) ?_ (row_out p H))) (fun h2' h H => tup0 (no4 s _ (en h2') (row_out p H)))
      rw [ee (by omega), if_pos ⟨h1, h2⟩]
    · rw [show (((i.op &&& 7 : Nat) : Int) == 7) = false by simp; omega]
      exact j3f _ (fun e => h2 e.2) H
  have j6 : ∀ (u : Ab) h, (¬ i.op &&& 240 = 176 → ¬ 10 < i.dst ∧ ¬ (s.reg i.dst).kind = 0) → u = (if i.op &&& 240 = 176 then conF 0#64 else s.reg i.dst) → seps (rowP p (wkC s l' false) 295 :: rowP b10 u.enc 12 :: own 1 l' (inC s.held) :: rowP b3 (stC .zero ⟨none, 0, 0⟩) 294 :: rowP b2 i.enc 5 :: M) h → areg_Op_j6 (fgt KP) (fgt K) b2 b3 (some ⟨p, 0, none⟩) i.op i.op b10 h := fun u h ed eu H => by
    simp only [areg_Op_j6, zc_eq, pJoin_eq, add_mk, Nat.zero_add, Nat.add_zero]
    refine call_c (con_s (v := 0#64) (one1 (call_c (anum_s (q := Nm.con 0#64) (one1 (new_c (n := 12) H (by rfl) fun b16 h H => stA_c H (by rfl) fun h H => ?_))))))
    rw [and240 oi.op]
    refine if_c (fun h1 => ?_) (fun h1 => ?_)
    · have h1 : ¬ i.op &&& 240 = 128 := by omega
      refine ldA_c H (call_c (second_c oi H (fun w ew h H => one1 ?_) (fun ew w h hw H => one1 ?_)))
      · refine stA_c H (by rfl) fun h H => j5 u w b16 _ ed eu (by rw [if_neg h1]; exact ew) (f1 H)
      · refine stA_c H (by rfl) fun h H => bad5 u w b16 _ ?_ (f1 H)
        unfold opF
        rw [if_neg h1, ew]
        split
        · rfl
        · split <;> rfl
    · have h1 : i.op &&& 240 = 128 := by omega
      exact j5 u (conF 0#64) b16 _ ed eu (by rw [if_pos h1]) (f1 H)
  have bad6 : ∀ (u : Ab) h, opF s i = none → seps (rowP p (wkC s l' true) 295 :: rowP b10 u.enc 12 :: own 1 l' (inC s.held) :: rowP b3 (stC .zero ⟨none, 0, 0⟩) 294 :: rowP b2 i.enc 5 :: M) h → areg_Op_j6 (fgt KP) (fgt K) b2 b3 (some ⟨p, 0, none⟩) i.op i.op b10 h := fun u h e H => by
    simp only [areg_Op_j6, zc_eq, pJoin_eq, add_mk, Nat.zero_add, Nat.add_zero]
    refine call_c (con_s (v := 0#64) (one1 (call_c (anum_s (q := Nm.con 0#64) (one1 (new_c (n := 12) H (by rfl) fun b16 h H => stA_c H (by rfl) fun h H => ?_))))))
    rw [and240 oi.op]
    refine if_c (fun h1 => ?_) (fun h1 => bad5 u (conF 0#64) b16 _ e (f1 H))
    refine ldA_c H (call_c (second_c oi H (fun w ew h H => one1 ?_) (fun ew w h hw H => one1 ?_)))
    · refine stA_c H (by rfl) fun h H => bad5 u w b16 _ e (f1 H)
    · refine stA_c H (by rfl) fun h H => bad5 u w b16 _ e (f1 H)
  have H := row_out (R := rowP b10 (conF 0#64).enc 12 :: own 1 l' (inC s.held) :: rowP b3 (stC .zero ⟨none, 0, 0⟩) 294 :: rowP b2 i.enc 5 :: M) p H
  refine if_c (fun h1 => ?_) (fun h1 => ?_)
  · have h1 : ¬ i.op &&& 240 = 176 := by omega
    refine ld_c H rfl (call_c (reg_c rfl oi.dst H (fun h2 h3 h H => one1 ?_) (fun h2 u h hu H => one1 ?_)))
    · refine stA_c H (by rfl) fun h H => j6 (s.reg i.dst) _ (fun _ => ⟨by omega, h3⟩) (by rw [if_neg h1]) (f1 H)
    · refine stA_c H (by rfl) fun h H => bad6 u _ ?_ (f1 H)
      unfold opF
      rcases h2 with h2 | h2
      · rw [if_pos h2]
      · split
        · rfl
        · rw [if_pos ⟨h1, h2⟩]
  · have h1 : i.op &&& 240 = 176 := by omega
    exact j6 (conF 0#64) _ (fun e => absurd h1 e) (by rw [if_pos h1]) H
end
end Go.Proofs.YtpbhanglcophbaaGreat

set_option linter.unusedVariables false
set_option linter.unusedSimpArgs false
set_option linter.unnecessarySimpa false
namespace Go.Proofs.YtpbhanglcophbaaGreat
open Go.Hl
attribute [local irreducible] loadF zc sizeP bytesP vcBody pInvoke pIf pAssert pNew pLd pLdA pSt pStA pSome pIdx pPart pCall pCallV pAppend pExtend pGet pGetS pPut pNewObj pJoin pLoop pKeep fgt iter pFits pClear
theorem sizeF_sz (n : Nat) : isSz (sizeF n) := by
  unfold sizeF isSz
  repeat' split
  all_goals omega
theorem big64 (x : B64) : -9223372036854775808 ≤ x.toInt ∧ x.toInt < 9223372036854775808 := by
  have h1 := BitVec.toInt_lt (x := x)
  have h2 := BitVec.le_toInt (x := x)
  simp at h1 h2
  omega
section
variable {KP K : Value → Pr} {h : Heap} {x y n id kind hook : Int} {M R : List Pr} {p tot op : Nat} {a b : Ab} {s : St} {l : Sl} {no ok : Bool} {L : List Int} {i j : In} {D : List Mp} {dl : Sl}
theorem lo_eq {v : B64} {o : Int} : IntKind.i64.wrap (v.toInt + IntKind.i64.wrap o) = (v + BitVec.ofInt 64 o).toInt := S.eq
set_option maxHeartbeats 1000000 in
theorem loadA_s (oi : i.Ok) (C : Ints l s.held h) (CD : ∀ {g}, seps M g → Maps dl D g) (H : seps M h) (k : EndOk K M (loadF' s i hook D)) : WpCall Tryz.prog 8 #[.agg (stC s l).toArray, .agg i.enc.toArray, .int .i64 hook, .slice dl.base dl.len dl.cap] KP K h := by
  refine areg_Load_call (stC s l) i.enc hook dl ?_
  have hs := C.small
  have hsz := sizeF_sz i.op
  simp only [areg_Load, zc_eq, lay_eq, pJoin_eq, add_mk, Nat.zero_add, Nat.add_zero]
  refine new_l H (stC_len _ _) fun b1 h le H => ?_
  have C := C.le le
  refine new_l H (show i.enc.length = 5 from rfl) fun b2 h le H => ?_
  have C := C.le le
  refine new_l H (stC_len _ _) fun b3 h le H => ?_
  have C := C.le le
  clear le
  refine ldA_c H (call_c (on_s C H fun p l' h H => one1 (s := .ptr) ?_))
  clear C
  have H := row_out (R := own 1 l' (inC s.held) :: rowP b3 (stC .zero ⟨none, 0, 0⟩) 294 :: rowP b2 i.enc 5 :: M) p H
  refine ld_c H rfl (ldA_c H (ld_c H rfl (call_c ?_)))
  -- refused
  have no2 : ∀ (t : St) (w : Ab) b11 h, loadF' s i hook D = none → seps (rowP p (wkC t l' true) 295 :: rowP b11 w.enc 12 :: own 1 l' (inC s.held) :: rowP b3 (stC .zero ⟨none, 0, 0⟩) 294 :: rowP b2 i.enc 5 :: M) h → areg_Load_j2 hook dl (fgt KP) (fgt K) b2 b3 (some ⟨p, 0, none⟩) i.off (sizeF i.op) b11 true h := fun t w b11 h e H => by
    rw [e] at k
    unfold areg_Load_j2
    refine pIf_t (by rfl) (call_c (told_f H fun h H => tup2 (s := .agg) (x := stC .zero ⟨none, 0, 0⟩) ?_))
    dsimp only
    exact stA_c H (stC_len _ _) fun h H => ldA_c H (fgt_mk (k _ (sub H)))
  refine reg_c rfl oi.src H (fun h1 h2 h H => one1 ?_) (fun h1 a h ha H => one1 ?_)
  rotate_left
  · have en : loadF' s i hook D = none := by
      unfold loadF'
      rcases h1 with h1 | h1
      · rw [if_pos (.inl h1)]
      · split
        · rfl
        · rw [if_pos (fun e => by
            have := e.1; unfold Ab.ptr at this; rw [h1] at this; exact absurd this (by decide))]
    refine keep_c H rfl (keepA_c H (call_c (asize_s oi (one1 (keep_c H rfl (new_c (n := 12) H (by rfl) fun b11 h H => stA_c H (by rfl) fun h H => keep_c H rfl (ldA_c H (call_c (isPointer_s (a := a) (one1 ?_))))))))))
    have hp : a.ptr = false := by unfold Ab.ptr; rw [ha]; rfl
    rw [hp]
    refine pIf_f (by rfl) (call_c (need_c H (fun h3 => absurd h3 (by simp)) (fun h3 h H => one1 (no2 s a b11 _ en H))))
  generalize ea : s.reg i.src = a at h2
  refine keep_c H rfl (keepA_c H (call_c (asize_s oi (one1 (keep_c H rfl (new_c (n := 12) H (by rfl) fun b11 h H => stA_c H (by rfl) fun h H => keep_c H rfl (ldA_c H (call_c (isPointer_s (a := a) (one1 ?_))))))))))
  have bad : ∀ h, ¬ (a.ptr = true ∧ a.null = false ∧ a.near = true) → seps (rowP p (wkC s l' true) 295 :: rowP b11 a.enc 12 :: own 1 l' (inC s.held) :: rowP b3 (stC .zero ⟨none, 0, 0⟩) 294 :: rowP b2 i.enc 5 :: M) h → areg_Load_j2 hook dl (fgt KP) (fgt K) b2 b3 (some ⟨p, 0, none⟩) i.off (sizeF i.op) b11 true h := fun h e H =>
    no2 s a b11 h (by unfold loadF'; rw [ea, if_pos e]; split <;> rfl) H
  refine if_c (fun q1 => ?_) (fun q1 => call_c (need_c H (fun h3 => absurd h3 (by simp)) (fun h3 h H => one1 (bad _ (fun e => q1 e.1) H))))
  refine ld_c H rfl ?_
  cases qn : a.null
  rotate_left
  · refine pIf_f (by rfl) (call_c (need_c H (fun h3 => absurd h3 (by simp)) (fun h3 h H => one1 (bad _ (fun e => by rw [qn] at e; exact absurd e.2.1 (by simp)) H))))
  refine pIf_t (by rfl) (ld_c H rfl (call_c (inBounds_s (v := a.lo) (one1 (if_c (fun q2 => ?_) (fun q2 => call_c (need_c H (fun h3 => absurd h3 (by simp)) (fun h3 h H => one1 (bad _ (fun e => q2 (by have := e.2.2; unfold Ab.near at this; simp at this; exact this.1)) H)))))))))
  refine ld_c H rfl (call_c (inBounds_s (v := a.hi) (one1 ?_)))
  refine call_c (need_c H (fun q3 h H => one1 ?_) (fun q3 h H => one1 (bad _ (fun e => q3 (by have := e.2.2; unfold Ab.near at this; simp at this; exact this.2)) H)))
  have good : ¬ ¬ (a.ptr = true ∧ a.null = false ∧ a.near = true) := fun e => e ⟨q1, qn, by unfold Ab.near; rw [q2, q3]; rfl⟩
  have en : 10 < i.dst → loadF' s i hook D = none := fun e => by unfold loadF'; rw [if_pos (.inr e)]
  have ee : ¬ 10 < i.dst → loadF' s i hook D = (if a.kind = 2 then (loadStF s (a.lo + BitVec.ofInt 64 i.off).toInt (sizeF i.op)).map (s.setReg i.dst)
      else if a.kind = 3 then (wordF s (a.lo + BitVec.ofInt 64 i.off).toInt (sizeF i.op) hook).map fun r => r.2.setReg i.dst r.1
      else if reachF s a i.off (sizeF i.op) D = true then some (s.setReg i.dst (ofBytesF (sizeF i.op))) else none) := fun e => by
    unfold loadF'
    rw [if_neg (by omega), ea, if_neg good]
  clear bad no2
  -- the end
  have no1 : ∀ (t : St) (w : Ab) b28 h, loadF' s i hook D = none → seps (rowP p (wkC t l' true) 295 :: rowP b28 w.enc 12 :: own 1 l' (inC s.held) :: rowP b3 (stC .zero ⟨none, 0, 0⟩) 294 :: rowP b2 i.enc 5 :: M) h → areg_Load_j1 (fgt KP) (fgt K) b2 b3 (some ⟨p, 0, none⟩) b28 h := fun t w b28 h e H => by
    rw [e] at k
    simp only [areg_Load_j1, add_mk, Nat.zero_add]
    have fin : ∀ (t : St) h, seps (rowP p (wkC t l' true) 295 :: rowP b28 w.enc 12 :: own 1 l' (inC s.held) :: rowP b3 (stC .zero ⟨none, 0, 0⟩) 294 :: rowP b2 i.enc 5 :: M) h → (pCall Tryz.prog 26 [(.pointer (some ⟨p, 0, none⟩))] (fgt KP) (.many [.agg, .bool]) fun (r40 : (List Value) × Bool × Unit) => pStA 294 ⟨b3, 0, none⟩ r40.1 <| pLdA 294 ⟨b3, 0, none⟩ fun x41 => fgt K (.tuple [(.agg x41.toArray), (.bool r40.2.1)].toArray)) h := fun t h H => by
      refine call_c (told_f H fun h H => tup2 (s := .agg) (x := stC .zero ⟨none, 0, 0⟩) ?_)
      dsimp only
      exact stA_c H (stC_len _ _) fun h H => ldA_c H (fgt_mk (k _ (sub H)))
    refine ld_c H rfl (ldA_c H (call_c (set_c (a := w) rfl oi.dst H (fun h2' h H => tup0 (fin _ _ H)) (fun h2' h H => tup0 (fin _ _ H)))))
  have ok1 : ∀ (t : St) (w : Ab) b28 h, t.held = s.held → (¬ 10 < i.dst → loadF' s i hook D = some (t.setReg i.dst w)) → seps (rowP p (wkC t l' false) 295 :: rowP b28 w.enc 12 :: own 1 l' (inC s.held) :: rowP b3 (stC .zero ⟨none, 0, 0⟩) 294 :: rowP b2 i.enc 5 :: M) h → areg_Load_j1 (fgt KP) (fgt K) b2 b3 (some ⟨p, 0, none⟩) b28 h := fun t w b28 h eh e H => by
    by_cases hd : 10 < i.dst
    · have en := en hd
      rw [en] at k
      simp only [areg_Load_j1, add_mk, Nat.zero_add]
      refine ld_c H rfl (ldA_c H (call_c (set_c (a := w) rfl oi.dst H (fun h2' => absurd hd (by omega)) (fun h2' h H => tup0 ?_))))
      refine call_c (told_f H fun h H => tup2 (s := .agg) (x := stC .zero ⟨none, 0, 0⟩) ?_)
      dsimp only
      exact stA_c H (stC_len _ _) fun h H => ldA_c H (fgt_mk (k _ (sub H)))
    · rw [e hd] at k
      simp only [areg_Load_j1, add_mk, Nat.zero_add]
      refine ld_c H rfl (ldA_c H (call_c (set_c (a := w) rfl oi.dst H (fun h2' h H => tup0 ?_) (fun h2' => absurd h2' hd))))
      refine call_c (told_t H fun h H => tup2 (s := .agg) (x := stC (t.setReg i.dst w) l') ?_)
      dsimp only
      refine stA_c H (stC_len _ _) fun h H => ldA_c H (fgt_mk ?_)
      have H2 : seps (own 1 l' (inC s.held) :: M) h := sub H
      rw [← eh] at H2
      exact k l' h H2
  simp only [areg_Load_j2, zc_eq, pJoin_eq, add_mk, Nat.zero_add]
  refine pIf_f (by rfl) (call_c (ofBytes_s hsz (one1 (new_c (n := 12) H (by rfl) fun b28 h H => stA_c H (by rfl) fun h H => ld_c H rfl ?_))))
  have H : seps (rowP b28 (ofBytesF (sizeF i.op)).enc 12 :: rowP p (wkC s l' false) 295 :: rowP b11 a.enc 12 :: own 1 l' (inC s.held) :: rowP b3 (stC .zero ⟨none, 0, 0⟩) 294 :: rowP b2 i.enc 5 :: M) h := H
  refine if_c (fun h3 => ?_) (fun h3 => if_c (fun h4 => ?_) (fun h4 => ?_))
  · refine ld_c H rfl (call_c ?_)
    rw [lo_eq]
    refine loadStack_c hsz H (fun x ex h H => one1 ?_) (fun ex x h H => one1 ?_)
    · refine stA_c H (by rfl) fun h H => ok1 s x b28 _ rfl (fun hd => ?_) (row_out p (f1 H))
      rw [ee hd, if_pos h3, ex]; rfl
    · refine stA_c H (by rfl) fun h H => no1 s x b28 _ ?_ (row_out p (f1 H))
      by_cases hd : 10 < i.dst
      · exact en hd
      · rw [ee hd, if_pos h3, ex]; rfl
  · refine ld_c H rfl (call_c ?_)
    rw [lo_eq]
    refine word_c (big64 _) H (fun r er h H => one1 ?_) (fun er x h H => one1 ?_)
    · refine stA_c H (by rfl) fun h H => ok1 r.2 r.1 b28 _ ?_ (fun hd => ?_) (row_out p (f1 H))
      · unfold wordF at er
        split at er
        · split at er <;> cases er <;> rfl
        · cases er
      · rw [ee hd, if_neg h3, if_pos h4, er]; rfl
    · refine stA_c H (by rfl) fun h H => no1 s x b28 _ ?_ (row_out p (f1 H))
      by_cases hd : 10 < i.dst
      · exact en hd
      · rw [ee hd, if_neg h3, if_pos h4, er]; rfl
  · refine ldA_c H (call_c (bytes_c (a := a) hsz (fun H => CD (sub H)) (fun H => ints_own H hs) H (fun er h H => tup0 ?_) (fun er h H => tup0 ?_)))
    · refine ok1 s (ofBytesF (sizeF i.op)) b28 _ rfl (fun hd => ?_) (row_out p H)
      rw [ee hd, if_neg h3, if_neg h4, if_pos er]
    · refine no1 s (ofBytesF (sizeF i.op)) b28 _ ?_ (row_out p H)
      by_cases hd : 10 < i.dst
      · exact en hd
      · rw [ee hd, if_neg h3, if_neg h4, if_neg (by rw [er]; simp)]
end
end Go.Proofs.YtpbhanglcophbaaGreat

set_option linter.unusedVariables false
set_option linter.unusedSimpArgs false
set_option linter.unnecessarySimpa false
namespace Go.Proofs.YtpbhanglcophbaaGreat
open Go.Hl
attribute [local irreducible] loadF zc sizeP bytesP vcBody pInvoke pIf pAssert pNew pLd pLdA pSt pStA pSome pIdx pPart pCall pCallV pAppend pExtend pGet pGetS pPut pNewObj pJoin pLoop pKeep fgt iter pFits pClear
section
variable {KP K : Value → Pr} {h : Heap} {x y n id kind hook : Int} {M R : List Pr} {p tot op : Nat} {a b : Ab} {s : St} {l : Sl} {no ok : Bool} {L : List Int} {i j : In} {D : List Mp} {dl : Sl}
theorem store_tf {b3 : Nat} {t : St} {lw : Sl} {N : List Pr} [q : Sub N M] (H : seps (rowP p (wkC t lw true) 295 :: rowP b3 (stC .zero ⟨none, 0, 0⟩) 294 :: N) h) (k : EndOk K M none) : (pCall Tryz.prog 26 [(.pointer (some ⟨p, 0, none⟩))] (fgt KP) (.many [.agg, .bool]) fun (r40 : (List Value) × Bool × Unit) => pStA 294 ⟨b3, 0, none⟩ r40.1 <| pLdA 294 ⟨b3, 0, none⟩ fun x41 => fgt K (.tuple [(.agg x41.toArray), (.bool r40.2.1)].toArray)) h := by
  refine call_c (told_f H fun h H => tup2 (s := .agg) (x := stC .zero ⟨none, 0, 0⟩) ?_)
  dsimp only
  refine stA_c H (stC_len _ _) fun h H => ldA_c H (fgt_mk (k _ ?_))
  exact q.out (seps_tail (seps_tail H))
theorem store_tt {b3 : Nat} {t : St} {lw : Sl} {L : List Int} {N : List Pr} [q : Sub N M] (eh : t.held = L) (H : seps (rowP p (wkC t lw false) 295 :: rowP b3 (stC .zero ⟨none, 0, 0⟩) 294 :: own 1 lw (inC L) :: N) h) (k : EndOk K M (some t)) : (pCall Tryz.prog 26 [(.pointer (some ⟨p, 0, none⟩))] (fgt KP) (.many [.agg, .bool]) fun (r40 : (List Value) × Bool × Unit) => pStA 294 ⟨b3, 0, none⟩ r40.1 <| pLdA 294 ⟨b3, 0, none⟩ fun x41 => fgt K (.tuple [(.agg x41.toArray), (.bool r40.2.1)].toArray)) h := by
  subst eh
  refine call_c (told_t H fun h H => tup2 (s := .agg) (x := stC t lw) ?_)
  dsimp only
  refine stA_c H (stC_len _ _) fun h H => ldA_c H (fgt_mk (k lw _ ?_))
  exact seps_under (fun _ H => q.out H) (seps_tail (seps_tail H))
set_option maxHeartbeats 1000000 in
theorem storeA_s (oi : i.Ok) (C : Ints l s.held h) (CD : ∀ {g}, seps M g → Maps dl D g) (H : seps M h) (k : EndOk K M (storeF s i D)) : WpCall Tryz.prog 9 #[.agg (stC s l).toArray, .agg i.enc.toArray, .slice dl.base dl.len dl.cap] KP K h := by
  refine areg_Store_call (stC s l) i.enc dl ?_
  have hs := C.small
  have hsz := sizeF_sz i.op
  have hop := oi.op
  simp only [areg_Store, zc_eq, lay_eq, pJoin_eq, add_mk, Nat.zero_add, Nat.add_zero]
  refine new_l H (stC_len _ _) fun b1 h le H => ?_
  have C := C.le le
  refine new_l H (show i.enc.length = 5 from rfl) fun b2 h le H => ?_
  have C := C.le le
  refine new_l H (stC_len _ _) fun b3 h le H => ?_
  have C := C.le le
  clear le
  refine ldA_c H (call_c (on_s C H fun p l' h H => one1 (s := .ptr) ?_))
  clear C
  have H := row_out (R := rowP b3 (stC .zero ⟨none, 0, 0⟩) 294 :: own 1 l' (inC s.held) :: rowP b2 i.enc 5 :: M) p H
  refine ld_c H rfl (ldA_c H (ld_c H rfl (call_c ?_)))
  -- the first operand is a; the second one is v
  have no3 : ∀ (t : St) (u v : Ab) b11 b14 h, storeF s i D = none → seps (rowP p (wkC t l' true) 295 :: rowP b3 (stC .zero ⟨none, 0, 0⟩) 294 :: rowP b14 v.enc 12 :: rowP b11 u.enc 12 :: own 1 l' (inC s.held) :: rowP b2 i.enc 5 :: M) h → areg_Store_j3 dl (fgt KP) (fgt K) b3 (some ⟨p, 0, none⟩) i.off (sizeF i.op) b11 b14 true h := fun t u v b11 b14 h e H => by
    rw [e] at k
    unfold areg_Store_j3
    exact pIf_t (by rfl) (store_tf H k)
  have J4 : ∀ (no : Bool) (u v : Ab) b11 b14 h, (no = true → storeF s i D = none) → (no = false → u = s.reg i.dst ∧ v = storeV s i ∧ ¬ 10 < i.dst ∧ ¬ (i.op &&& 7 = 3 ∧ 10 < i.src) ∧ ¬ v.kind = 0) → seps (rowP p (wkC s l' no) 295 :: rowP b3 (stC .zero ⟨none, 0, 0⟩) 294 :: rowP b14 v.enc 12 :: rowP b11 u.enc 12 :: own 1 l' (inC s.held) :: rowP b2 i.enc 5 :: M) h → areg_Store_j4 dl (fgt KP) (fgt K) b3 (some ⟨p, 0, none⟩) i.off (sizeF i.op) b11 b14 h := fun no u v b11 b14 h e1 e2 H => by
    simp only [areg_Store_j4, pJoin_eq, add_mk, Nat.zero_add, pSome_some]
    have bad : ∀ h, ¬ (u.ptr = true ∧ u.null = false ∧ u.near = true) → seps (rowP p (wkC s l' true) 295 :: rowP b3 (stC .zero ⟨none, 0, 0⟩) 294 :: rowP b14 v.enc 12 :: rowP b11 u.enc 12 :: own 1 l' (inC s.held) :: rowP b2 i.enc 5 :: M) h → areg_Store_j3 dl (fgt KP) (fgt K) b3 (some ⟨p, 0, none⟩) i.off (sizeF i.op) b11 b14 true h := fun h e H => by
      refine no3 s u v b11 b14 h ?_ H
      cases hn : no
      · obtain ⟨q1, q2, q3, q4, q5⟩ := e2 hn
        unfold storeF
        rw [if_neg (by omega), ← q1, if_pos (fun q => e ⟨q.1, q.2.1, q.2.2.1⟩)]
      · exact e1 hn
    refine ldA_c H (call_c (isPointer_s (a := u) (one1 ?_)))
    refine if_c (fun q1 => ?_) (fun q1 => call_c (need_c H (fun h3 => absurd h3 (by simp)) (fun h3 h H => one1 (pIf_t (by rfl) (bad _ (fun e => q1 e.1) H)))))
    refine ld_c H rfl ?_
    cases qn : u.null
    rotate_left
    · refine pIf_f (by rfl) (call_c (need_c H (fun h3 => absurd h3 (by simp)) (fun h3 h H => one1 (pIf_t (by rfl) (bad _ (fun e => by rw [qn] at e; exact absurd e.2.1 (by simp)) H)))))
    refine pIf_t (by rfl) (ld_c H rfl (call_c (inBounds_s (v := u.lo) (one1 (if_c (fun q2 => ?_) (fun q2 => call_c (need_c H (fun h3 => absurd h3 (by simp)) (fun h3 h H => one1 (pIf_t (by rfl) (bad _ (fun e => q2 (by have := e.2.2; unfold Ab.near at this; simp at this; exact this.1)) H))))))))))
    refine ld_c H rfl (call_c (inBounds_s (v := u.hi) (one1 ?_)))
    refine call_c (need_c H (fun q3 h H => one1 (pIf_f (by rfl) ?_)) (fun q3 h H => one1 (pIf_t (by rfl) (bad _ (fun e => q3 (by have := e.2.2; unfold Ab.near at this; simp at this; exact this.2)) H))))
    refine ld_c H wk_no ?_
    cases hn : no
    rotate_left
    · rw [hn] at H
      exact no3 s u v b11 b14 h (e1 hn) H
    rw [hn] at H
    obtain ⟨r1, r2, r3, r4, r5⟩ := e2 hn
    have good : ¬ ¬ (u.ptr = true ∧ u.null = false ∧ u.near = true ∧ ¬ (storeV s i).kind = 0) := fun e => e ⟨q1, qn, by unfold Ab.near; rw [q2, q3]; rfl, by rw [← r2]; exact r5⟩
    have ee : storeF s i D = (if u.kind = 2 then storeStF s (u.lo + BitVec.ofInt 64 i.off).toInt (sizeF i.op) v
        else if u.kind = 5 ∨ u.kind = 6 then (if v.kind = 1 ∧ reachF s u i.off (sizeF i.op) D = true then some s else none) else none) := by
      unfold storeF
      rw [if_neg (by omega), ← r1, if_neg good, ← r2]
    clear bad no3 e1 e2
    simp only [areg_Store_j3, areg_Store_j2, pJoin_eq, add_mk, Nat.zero_add, pSome_some]
    refine pIf_f (by rfl) (ld_c H rfl ?_)
    refine if_c (fun h3 => ?_) (fun h3 => ?_)
    · rw [if_pos h3] at ee
      refine ld_c H rfl (ldA_c H (call_c ?_))
      rw [lo_eq]
      refine storeStack_c (a := v) hsz H rfl (fun t et h H => tup0 ?_) (fun et h H => tup0 ?_)
      · rw [ee, et] at k
        have eh : t.held = s.held := by
          unfold storeStF at et
          split at et
          · cases et
          · rename_i m hm
            have tk : ∀ n (t : St) k, (touchF t k n).held = t.held := fun n => by
              induction n with
              | zero => intro t k; rfl
              | succ n ih => intro t k; show (touchF (touch1 t k) (k + 1) n).held = _; rw [ih]; rfl
            split at et
            · split at et
              · cases et; exact tk _ _ _
              · cases et; exact tk _ _ _
            · split at et
              · cases et; rfl
              · cases et
        exact store_tt (M := M) (N := rowP b2 i.enc 5 :: M) eh (row_out p H) k
      · rw [ee, et] at k
        exact store_tf (M := M) (N := M) (row_out p H) k
    · rw [if_neg h3] at ee
      have j1t : ∀ h, (u.kind = 5 ∨ u.kind = 6) → seps (rowP p (wkC s l' false) 295 :: rowP b11 u.enc 12 :: rowP b3 (stC .zero ⟨none, 0, 0⟩) 294 :: rowP b14 v.enc 12 :: own 1 l' (inC s.held) :: rowP b2 i.enc 5 :: M) h → areg_Store_j1 dl (fgt KP) (some ⟨p, 0, none⟩) i.off (sizeF i.op) b11 b14 (fun s => pCall Tryz.prog 26 [(.pointer (some ⟨p, 0, none⟩))] (fgt KP) (.many [.agg, .bool]) fun (r40 : (List Value) × Bool × Unit) => pStA 294 ⟨b3, 0, none⟩ r40.1 <| pLdA 294 ⟨b3, 0, none⟩ fun x41 => fgt K (.tuple [(.agg x41.toArray), (.bool r40.2.1)].toArray)) true h := fun h hk H => by
        rw [if_pos hk] at ee
        simp only [areg_Store_j1, add_mk, Nat.zero_add]
        refine pIf_t (by rfl) (ld_c H rfl ?_)
        refine call_c (need_c H (fun h4 h H => one1 ?_) (fun h4 h H => one1 ?_))
        · refine ldA_c H (call_c (bytes_c (a := u) hsz (fun H => CD (sub H)) (fun H => ints_own H hs) H (fun er h H => tup0 ?_) (fun er h H => tup0 ?_)))
          · rw [ee, if_pos ⟨h4, er⟩] at k
            exact store_tt (M := M) (N := M) rfl (row_out p H) k
          · rw [ee, if_neg (by rw [er]; simp)] at k
            exact store_tf (M := M) (N := M) (row_out p H) k
        · rw [ee, if_neg (fun e => h4 e.1)] at k
          refine ldA_c H (call_c (bytes_c (a := u) hsz (fun H => CD (sub H)) (fun H => ints_own H hs) H (fun er h H => tup0 ?_) (fun er h H => tup0 ?_)))
          · exact store_tf (M := M) (N := M) (row_out p H) k
          · exact store_tf (M := M) (N := M) (row_out p H) k
      have e0 : ∀ c : Int, u.kind = c → (u.kind == c) = true := fun c e => by simp [e]
      have H9 := row_out (R := rowP b11 u.enc 12 :: rowP b3 (stC .zero ⟨none, 0, 0⟩) 294 :: rowP b14 v.enc 12 :: own 1 l' (inC s.held) :: rowP b2 i.enc 5 :: M) p H
      by_cases h5 : u.kind = 5
      · rw [e0 5 h5]
        exact pIf_t (by rfl) (j1t _ (.inl h5) H9)
      · rw [show (u.kind == 5) = false by simp [h5]]
        refine pIf_f (by rfl) ?_
        by_cases h6 : u.kind = 6
        · rw [e0 6 h6]; exact j1t _ (.inr h6) H9
        · rw [show (u.kind == 6) = false by simp [h6]]
          simp only [areg_Store_j1, pSome_some, add_mk, Nat.zero_add]
          rw [ee, if_neg (by omega)] at k
          exact pIf_f (by rfl) (st_c H9 fun h H => store_tf (M := M) (N := M) (row_out p H) k)
  have mid : ∀ (no : Bool) (u : Ab) h, (no = true → storeF s i D = none) → (no = false → u = s.reg i.dst ∧ ¬ 10 < i.dst) → seps (rowP p (wkC s l' no) 295 :: rowP b3 (stC .zero ⟨none, 0, 0⟩) 294 :: own 1 l' (inC s.held) :: rowP b2 i.enc 5 :: M) h → (pKeep (loadF Tryz.prog 37 (.pointer (some ⟨b2, 3, none⟩)) (.int .i16 i.off)) <| pKeep (loadF Tryz.prog 39 (.pointer (some ⟨b2, 0, none⟩)) (.agg i.enc.toArray)) <| pCall Tryz.prog 27 [(.agg i.enc.toArray)] (fgt KP) (.one (.int .i64)) fun (r10 : Int) => pKeep (loadF Tryz.prog 37 (.pointer (some ⟨b2, 3, none⟩)) (.int .i16 i.off)) <| pNew z12 fun b11 => pStA 12 ⟨b11, 0, none⟩ u.enc <| pKeep (loadF Tryz.prog 37 (.pointer (some ⟨b2, 3, none⟩)) (.int .i16 i.off)) <| pLdA 5 ⟨b2, 0, none⟩ fun x12 => pCall Tryz.prog 33 [(.agg x12.toArray)] (fgt KP) (.one .agg) fun (r13 : List Value) => pNew z12 fun b14 => pStA 12 ⟨b14, 0, none⟩ r13 <| pLd (.int .u8) ⟨b2, 0, none⟩ fun (x16 : Int) => pIf (((bitsV .and .u8 x16 7) : Int) == 3)
      (pLd (.int .u8) ⟨b2, 2, none⟩ fun (x17 : Int) => pCall Tryz.prog 19 [(.pointer (some ⟨p, 0, none⟩)), (.int .u8 x17)] (fgt KP) (.one .agg) fun (r18 : List Value) => pStA 12 ⟨b14, 0, none⟩ r18 <| areg_Store_j4 dl (fgt KP) (fgt K) b3 (some ⟨p, 0, none⟩) i.off r10 b11 b14)
      (areg_Store_j4 dl (fgt KP) (fgt K) b3 (some ⟨p, 0, none⟩) i.off r10 b11 b14)) h := fun no u h e1 e2 H => by
    refine keep_c H rfl (keepA_c H (call_c (asize_s oi (one1 (keep_c H rfl (new_c (n := 12) H (by rfl) fun b11 h H => stA_c H (by rfl) fun h H => keep_c H rfl (ldA_c H (call_c (ofImm_s (one1 (new_c (n := 12) H (by rfl) fun b14 h H => stA_c H (by rfl) fun h H => ld_c H rfl ?_)))))))))))
    rw [and7' hop]
    have H : seps (rowP b14 (conF (BitVec.ofInt 64 i.imm)).enc 12 :: rowP b11 u.enc 12 :: rowP p (wkC s l' no) 295 :: rowP b3 (stC .zero ⟨none, 0, 0⟩) 294 :: own 1 l' (inC s.held) :: rowP b2 i.enc 5 :: M) h := H
    refine if_c (fun h1 => ?_) (fun h1 => ?_)
    · have h1 : i.op &&& 7 = 3 := by omega
      have ev : storeV s i = s.reg i.src := by unfold storeV; rw [if_pos h1]
      refine ld_c H rfl (call_c (reg_c rfl oi.src H (fun g1 g2 h H => one1 ?_) (fun g1 v h hv H => one1 ?_)))
      · refine stA_c H (by rfl) fun h H => ?_
        refine J4 no u (s.reg i.src) b11 b14 _ e1 (fun e => ?_) (pk [1, 3, 0, 2] H)
        obtain ⟨q1, q2⟩ := e2 e
        exact ⟨q1, ev.symm, q2, fun e => by omega, g2⟩
      · refine stA_c H (by rfl) fun h H => ?_
        refine J4 true u v b11 b14 _ (fun _ => ?_) (fun e => absurd e (by simp)) (pk [1, 3, 0, 2] H)
        unfold storeF
        rcases g1 with g1 | g1
        · rw [if_pos (.inr ⟨h1, g1⟩)]
        · split
          · rfl
          · rw [if_pos (fun e => e.2.2.2 (by rw [ev]; exact g1))]
    · have h1 : ¬ i.op &&& 7 = 3 := by omega
      have ev : storeV s i = conF (BitVec.ofInt 64 i.imm) := by unfold storeV; rw [if_neg h1]
      refine J4 no u (conF (BitVec.ofInt 64 i.imm)) b11 b14 _ e1 (fun e => ?_) (pk [2, 3, 0, 1] H)
      obtain ⟨q1, q2⟩ := e2 e
      exact ⟨q1, ev.symm, q2, fun e => h1 e.1, by show ¬ (1 : Int) = 0; decide⟩
  refine reg_c rfl oi.dst H (fun h1 h2 h H => one1 ?_) (fun h1 u h hu H => one1 ?_)
  · exact mid false (s.reg i.dst) h (fun e => absurd e (by simp)) (fun _ => ⟨rfl, by omega⟩) H
  · refine mid true u h (fun _ => ?_) (fun e => absurd e (by simp)) H
    unfold storeF
    rcases h1 with h1 | h1
    · rw [if_pos (.inl h1)]
    · split
      · rfl
      · rw [if_pos (fun e => by have := e.1; unfold Ab.ptr at this; rw [h1] at this; exact absurd this (by decide))]
end
end Go.Proofs.YtpbhanglcophbaaGreat

set_option linter.unusedVariables false
set_option linter.unusedSimpArgs false
set_option linter.unnecessarySimpa false
namespace Go.Proofs.YtpbhanglcophbaaGreat
open Go.Hl
attribute [local irreducible] loadF zc sizeP bytesP vcBody pInvoke pIf pAssert pNew pLd pLdA pSt pStA pSome pIdx pPart pCall pCallV pAppend pExtend pGet pGetS pPut pNewObj pJoin pLoop pKeep fgt iter pFits pClear
section
variable {KP K : Value → Pr} {h : Heap} {x y n id kind hook : Int} {M R : List Pr} {p tot op : Nat} {a b : Ab} {s : St} {l : Sl} {no ok taken : Bool} {L : List Int} {i j : In} {D : List Mp} {dl : Sl}
abbrev jmpV (s : St) (l : Sl) (may ok : Bool) : Value := .tuple #[.agg (stC s l).toArray, .bool may, .bool ok]
def EndJ (K : Value → Pr) (M : List Pr) (o : Option (Option St)) : Prop := match o with
  | none => ∀ h, seps M h → K (jmpV .zero ⟨none, 0, 0⟩ false false) h
  | some none => ∀ h, seps M h → K (jmpV .zero ⟨none, 0, 0⟩ false true) h
  | some (some t) => ∀ l' h, seps (own 1 l' (inC t.held) :: M) h → K (jmpV t l' true true) h
theorem jump_no {b3 : Nat} {t : St} {lw : Sl} {N : List Pr} {may : Bool} [q : Sub N M] (H : seps (rowP p (wkC t lw true) 295 :: rowP b3 (stC .zero ⟨none, 0, 0⟩) 294 :: N) h) (k : EndJ K M none) : areg_Jump_j3 (fgt K) b3 (some ⟨p, 0, none⟩) may h := by
  simp only [areg_Jump_j3, zc_eq, lay_eq, pSome_some, add_mk, Nat.zero_add]
  refine ld_c H wk_no (pIf_t (by rfl) (stA_c H (stC_len _ _) fun h H => ldA_c H (fgt_mk (k _ ?_))))
  exact q.out (seps_tail (seps_tail H))
theorem jump_not {b3 : Nat} {t : St} {lw : Sl} {N : List Pr} [q : Sub N M] (H : seps (rowP p (wkC t lw false) 295 :: rowP b3 (stC .zero ⟨none, 0, 0⟩) 294 :: N) h) (k : EndJ K M (some none)) : areg_Jump_j3 (fgt K) b3 (some ⟨p, 0, none⟩) false h := by
  simp only [areg_Jump_j3, zc_eq, lay_eq, pSome_some, add_mk, Nat.zero_add]
  refine ld_c H wk_no (pIf_f (by rfl) (pIf_t (by rfl) (stA_c H (stC_len _ _) fun h H => ldA_c H (fgt_mk (k _ ?_)))))
  exact q.out (seps_tail (seps_tail H))
theorem jump_may {b3 : Nat} {t : St} {lw : Sl} {L : List Int} {N : List Pr} [q : Sub N M] (eh : t.held = L) (H : seps (rowP p (wkC t lw false) 295 :: rowP b3 (stC .zero ⟨none, 0, 0⟩) 294 :: own 1 lw (inC L) :: N) h) (k : EndJ K M (some (some t))) : areg_Jump_j3 (fgt K) b3 (some ⟨p, 0, none⟩) true h := by
  subst eh
  simp only [areg_Jump_j3, zc_eq, lay_eq, pSome_some, add_mk, Nat.zero_add]
  refine ld_c H wk_no (pIf_f (by rfl) (pIf_f (by rfl) (ldA_c H (stA_c H (stC_len _ _) fun h H => ldA_c H (fgt_mk (k lw _ ?_))))))
  have H := row_out (R := rowP p (wkC t lw false) 295 :: own 1 lw (inC t.held) :: N) b3 H
  exact seps_under (fun _ H => q.out H) (seps_tail (seps_tail H))
set_option maxHeartbeats 1000000 in
theorem jumpA_s (oi : i.Ok) (C : Ints l s.held h) (H : seps M h) (k : EndJ K M (jumpSt s i taken)) : WpCall Tryz.prog 10 #[.agg (stC s l).toArray, .agg i.enc.toArray, .bool taken] KP K h := by
  refine areg_Jump_call (stC s l) i.enc taken ?_
  have hs := C.small
  have hp := oi.op
  simp only [areg_Jump, zc_eq, lay_eq, pJoin_eq, add_mk, Nat.zero_add, Nat.add_zero]
  refine new_l H (stC_len _ _) fun b1 h le H => ?_
  have C := C.le le
  refine new_l H (show i.enc.length = 5 from rfl) fun b2 h le H => ?_
  have C := C.le le
  refine new_l H (stC_len _ _) fun b3 h le H => ?_
  have C := C.le le
  clear le
  refine ldA_c H (call_c (on_s C H fun p l' h H => one1 (s := .ptr) ?_))
  clear C
  have H := row_out (R := rowP b3 (stC .zero ⟨none, 0, 0⟩) 294 :: own 1 l' (inC s.held) :: rowP b2 i.enc 5 :: M) p H
  refine ld_c H rfl (ld_c H rfl (ld_c H rfl (ld_c H rfl (ldA_c H (call_c ?_)))))
  -- refused
  have bad : ∀ (t : St) (u w : Ab) b13 b14 (P : Addr → Bool → Pr) (R' : Pr) h, jumpSt s i taken = none → seps (rowP p (wkC t l' true) 295 :: rowP b3 (stC .zero ⟨none, 0, 0⟩) 294 :: rowP b14 w.enc 12 :: rowP b13 u.enc 12 :: own 1 l' (inC s.held) :: rowP b2 i.enc 5 :: M) h → (R' = areg_Jump_j3 (fgt K) b3 (some ⟨p, 0, none⟩) true) → (pSome (some ⟨p, 0, none⟩) fun a16 => pLd .bool (a16.add 294) fun (x17 : Bool) => pIf x17 R' (P a16 x17)) h := fun t u w b13 b14 P R' h e H er => by
    rw [e] at k
    simp only [pSome_some, add_mk, Nat.zero_add]
    refine ld_c H wk_no (pIf_t (by rfl) ?_)
    rw [er]
    exact jump_no (M := M) (N := rowP b14 w.enc 12 :: rowP b13 u.enc 12 :: own 1 l' (inC s.held) :: rowP b2 i.enc 5 :: M) H k
  refine reg_c rfl oi.dst H (fun h1 h2 h H => one1 ?_) (fun h1 u h hu H => one1 ?_)
  rotate_left
  · have en : jumpSt s i taken = none := by
      unfold jumpSt
      rcases h1 with h1 | h1
      · rw [if_pos h1]
      · simp [h1]
    refine keepA_c H (call_c (second_c oi H (fun w ew h H => one1 ?_) (fun ew w h hw H => one1 ?_)))
    · refine new_c (n := 12) H (by rfl) fun b13 h H => new_c (n := 12) H (by rfl) fun b14 h H => stA_c H (by rfl) fun h H => stA_c H (by rfl) fun h H => ?_
      exact bad s u w b13 b14 _ _ _ en (pk [2, 3, 0, 1] H) rfl
    · refine new_c (n := 12) H (by rfl) fun b13 h H => new_c (n := 12) H (by rfl) fun b14 h H => stA_c H (by rfl) fun h H => stA_c H (by rfl) fun h H => ?_
      exact bad s u w b13 b14 _ _ _ en (pk [2, 3, 0, 1] H) rfl
  refine keepA_c H (call_c (second_c oi H (fun w ew h H => one1 ?_) (fun ew w h hw H => one1 ?_)))
  rotate_left
  · have en : jumpSt s i taken = none := by
      unfold jumpSt
      rw [if_neg (by omega), if_neg h2, ew]
    refine new_c (n := 12) H (by rfl) fun b13 h H => new_c (n := 12) H (by rfl) fun b14 h H => stA_c H (by rfl) fun h H => stA_c H (by rfl) fun h H => ?_
    exact bad s (s.reg i.dst) w b13 b14 _ _ _ en (pk [2, 3, 0, 1] H) rfl
  refine new_c (n := 12) H (by rfl) fun b13 h H => new_c (n := 12) H (by rfl) fun b14 h H => stA_c H (by rfl) fun h H => stA_c H (by rfl) fun h H => ?_
  generalize ea : s.reg i.dst = u at h2 H
  have H : seps (rowP p (wkC s l' false) 295 :: rowP b3 (stC .zero ⟨none, 0, 0⟩) 294 :: rowP b14 w.enc 12 :: rowP b13 u.enc 12 :: own 1 l' (inC s.held) :: rowP b2 i.enc 5 :: M) h := pk [2, 3, 0, 1] H
  clear bad
  have ee : jumpSt s i taken = (if i.op &&& 7 = 5 ∧ u.ptr = true ∧ i.op &&& 8 = 0 ∧ i.imm = 0 ∧ (i.op &&& 240 = 16 ∨ i.op &&& 240 = 80) then some (sameF s u (decide (i.op &&& 240 = 16) == taken))
      else if u.kind = 1 ∧ w.kind = 1 then
        some (if (wayF ((i.op &&& 240 : Nat) : Int) (decide (i.op &&& 7 = 5)) u.num w.num taken).2.2 = true then some (if i.op &&& 8 = 0 then s.setReg i.dst (.ofNum (wayF ((i.op &&& 240 : Nat) : Int) (decide (i.op &&& 7 = 5)) u.num w.num taken).1) else (s.setReg i.dst (.ofNum (wayF ((i.op &&& 240 : Nat) : Int) (decide (i.op &&& 7 = 5)) u.num w.num taken).1)).setReg i.src (.ofNum (wayF ((i.op &&& 240 : Nat) : Int) (decide (i.op &&& 7 = 5)) u.num w.num taken).2.1)) else none)
      else none) := by
    unfold jumpSt
    rw [if_neg (by omega), ea, if_neg h2, ew]
  have e5 : (((i.op &&& 7 : Nat) : Int) == 5) = decide (i.op &&& 7 = 5) := by rw [Bool.eq_iff_iff]; simp; omega
  have e16 : (((i.op &&& 240 : Nat) : Int) == 16) = decide (i.op &&& 240 = 16) := by rw [Bool.eq_iff_iff]; simp; omega
  have e8 : (((i.op &&& 8 : Nat) : Int) != 0) = !decide (i.op &&& 8 = 0) := by rw [Bool.eq_iff_iff]; simp
  have hsrc : ¬ i.op &&& 8 = 0 → i.src ≤ 10 := fun e => by
    unfold operandF at ew
    rw [if_neg e] at ew
    split at ew
    · cases ew
    · omega
  have j2t : ∀ h, (i.op &&& 7 = 5 ∧ u.ptr = true ∧ i.op &&& 8 = 0 ∧ i.imm = 0 ∧ (i.op &&& 240 = 16 ∨ i.op &&& 240 = 80)) → seps (rowP p (wkC s l' false) 295 :: rowP b3 (stC .zero ⟨none, 0, 0⟩) 294 :: rowP b14 w.enc 12 :: rowP b13 u.enc 12 :: own 1 l' (inC s.held) :: rowP b2 i.enc 5 :: M) h → areg_Jump_j2 taken (fgt KP) b2 (some ⟨p, 0, none⟩) i.op i.op i.op b13 b14 (fun s => areg_Jump_j3 (fgt K) b3 (some ⟨p, 0, none⟩) s.1) true h := fun h q H => by
    rw [ee, if_pos q] at k
    simp only [areg_Jump_j2]
    rw [and240 hp, e16]
    refine pIf_t (by rfl) (ldA_c H (call_c (same_s (a := u) (M := rowP b3 (stC .zero ⟨none, 0, 0⟩) 294 :: rowP b14 w.enc 12 :: rowP b13 u.enc 12 :: rowP b2 i.enc 5 :: M) hs (pk [0, 4] H) (fun t et l'' h H => one1 ?_) (fun et h H => one1 ?_))))
    · rw [et] at k
      exact jump_may (M := M) (N := rowP b14 w.enc 12 :: rowP b13 u.enc 12 :: rowP b2 i.enc 5 :: M) rfl (pk [0, 2, 1] H) k
    · rw [et] at k
      exact jump_not (M := M) (N := own 1 l' (inC s.held) :: rowP b14 w.enc 12 :: rowP b13 u.enc 12 :: rowP b2 i.enc 5 :: M) (pk [0, 2, 1] H) k
  have j2f : ∀ h, ¬ (i.op &&& 7 = 5 ∧ u.ptr = true ∧ i.op &&& 8 = 0 ∧ i.imm = 0 ∧ (i.op &&& 240 = 16 ∨ i.op &&& 240 = 80)) → seps (rowP p (wkC s l' false) 295 :: rowP b3 (stC .zero ⟨none, 0, 0⟩) 294 :: rowP b14 w.enc 12 :: rowP b13 u.enc 12 :: own 1 l' (inC s.held) :: rowP b2 i.enc 5 :: M) h → areg_Jump_j2 taken (fgt KP) b2 (some ⟨p, 0, none⟩) i.op i.op i.op b13 b14 (fun s => areg_Jump_j3 (fgt K) b3 (some ⟨p, 0, none⟩) s.1) false h := fun h q H => by
    rw [ee, if_neg q] at k
    simp only [areg_Jump_j2, pJoin_eq, add_mk, Nat.zero_add]
    refine pIf_f (by rfl) (ld_c H rfl ?_)
    have j1f : ∀ h, ¬ (u.kind = 1 ∧ w.kind = 1) → seps (rowP p (wkC s l' true) 295 :: rowP b3 (stC .zero ⟨none, 0, 0⟩) 294 :: rowP b14 w.enc 12 :: rowP b13 u.enc 12 :: own 1 l' (inC s.held) :: rowP b2 i.enc 5 :: M) h → areg_Jump_j1 taken (fgt KP) b2 (some ⟨p, 0, none⟩) i.op i.op i.op b13 b14 (fun s => areg_Jump_j3 (fgt K) b3 (some ⟨p, 0, none⟩) s.1) false h := fun h e H => by
      rw [if_neg e] at k
      unfold areg_Jump_j1
      exact pIf_f (by rfl) (jump_no (M := M) (N := rowP b14 w.enc 12 :: rowP b13 u.enc 12 :: own 1 l' (inC s.held) :: rowP b2 i.enc 5 :: M) H k)
    refine if_c (fun h1 => ?_) (fun h1 => call_c (need_c H (fun h3 => absurd h3 (by simp)) (fun h3 h H => one1 (j1f _ (fun e => h1 e.1) H))))
    refine ld_c H rfl ?_
    refine call_c (need_c H (fun h2 h H => one1 ?_) (fun h2 h H => one1 (j1f _ (fun e => h2 e.2) H)))
    rw [if_pos ⟨h1, h2⟩] at k
    clear j1f ee j2t
    simp only [areg_Jump_j1, zc_eq, add_mk, Nat.zero_add]
    rw [and240 hp, and7' hp, and8'' hp, e5, e8]
    refine pIf_t (by rfl) (ldA_c H (ldA_c H (call_c (way_s (a := u.num) (b := w.num) ?_))))
    generalize wayF ((i.op &&& 240 : Nat) : Int) (decide (i.op &&& 7 = 5)) u.num w.num taken = X at k
    obtain ⟨x1, x2, x3⟩ := X
    refine tup3 (s := .agg) (t := .agg) (x := x1.enc) (y := x2.enc) ?_
    dsimp only at k ⊢
    refine new_c (n := 6) H (by rfl) fun b34 h H => new_c (n := 6) H (by rfl) fun b35 h H => stA_c H (by rfl) fun h H => stA_c H (by rfl) fun h H => ld_c H rfl (ldA_c H (call_c (anum_s (q := x1) (one1 (keep_c H rfl (call_c ?_))))))
    have fin : ∀ (t : St) h, t.held = s.held → (x3 = true → EndJ K M (some (some t))) → seps (rowP p (wkC t l' false) 295 :: rowP b35 x2.enc 6 :: rowP b34 x1.enc 6 :: rowP b3 (stC .zero ⟨none, 0, 0⟩) 294 :: rowP b14 w.enc 12 :: rowP b13 u.enc 12 :: own 1 l' (inC s.held) :: rowP b2 i.enc 5 :: M) h → areg_Jump_j3 (fgt K) b3 (some ⟨p, 0, none⟩) x3 h := fun t h eh kk H => by
      cases x3
      · rw [if_neg (by simp)] at k
        exact jump_not (M := M) (N := rowP b35 x2.enc 6 :: rowP b34 x1.enc 6 :: rowP b14 w.enc 12 :: rowP b13 u.enc 12 :: own 1 l' (inC s.held) :: rowP b2 i.enc 5 :: M) (pk [0, 3, 1, 2] H) k
      · exact jump_may (M := M) (N := rowP b35 x2.enc 6 :: rowP b34 x1.enc 6 :: rowP b14 w.enc 12 :: rowP b13 u.enc 12 :: rowP b2 i.enc 5 :: M) eh (pk [0, 3, 6, 1, 2, 4, 5] H) (kk rfl)
    refine set_c (a := Ab.ofNum x1) rfl oi.dst H (fun h2' h H => tup0 ?_) (fun h2' => absurd h2' (by omega))
    have H : seps (rowP p (wkC (s.setReg i.dst (Ab.ofNum x1)) l' false) 295 :: rowP b35 x2.enc 6 :: rowP b34 x1.enc 6 :: rowP b3 (stC .zero ⟨none, 0, 0⟩) 294 :: rowP b14 w.enc 12 :: rowP b13 u.enc 12 :: own 1 l' (inC s.held) :: rowP b2 i.enc 5 :: M) h := H
    by_cases h8 : i.op &&& 8 = 0
    · rw [decide_eq_true h8]
      refine pIf_f (by rfl) (fin (s.setReg i.dst (Ab.ofNum x1)) h rfl (fun e => ?_) H)
      rw [if_pos e, if_pos h8] at k; exact k
    · rw [decide_eq_false h8]
      refine pIf_t (by rfl) (ld_c H rfl (ldA_c H (call_c (anum_s (q := x2) (one1 (keep_c H rfl (call_c ?_)))))))
      refine set_c (a := Ab.ofNum x2) rfl oi.src H (fun h2' h H => tup0 (fin ((s.setReg i.dst (Ab.ofNum x1)).setReg i.src (Ab.ofNum x2)) h rfl (fun e => ?_) H)) (fun h2' => absurd h2' (by have := hsrc h8; omega))
      rw [if_pos e, if_neg h8] at k; exact k
  simp only [pSome_some, add_mk, Nat.zero_add]
  rw [and240 hp, and7' hp, and8'' hp]
  refine ld_c H wk_no (pIf_f (by rfl) (if_c (fun g1 => ?_) (fun g1 => j2f _ (fun e => g1 (by omega)) H)))
  refine ldA_c H (call_c (isPointer_s (a := u) (one1 (if_c (fun g2 => ?_) (fun g2 => j2f _ (fun e => g2 e.2.1) H)))))
  rw [e8]
  by_cases g3 : i.op &&& 8 = 0
  rotate_left
  · rw [decide_eq_false g3]
    exact pIf_f (by rfl) (j2f _ (fun e => g3 e.2.2.1) H)
  rw [decide_eq_true g3]
  refine pIf_t (by rfl) (ld_c H rfl ?_)
  refine if_c (fun g4 => ?_) (fun g4 => j2f _ (fun e => g4 e.2.2.2.1) H)
  refine if_c (fun g5 => j2t _ ⟨by omega, g2, g3, g4, .inl (by omega)⟩ H) (fun g5 => ?_)
  by_cases g6 : i.op &&& 240 = 80
  · rw [show (((i.op &&& 240 : Nat) : Int) == 80) = true by simp; omega]; exact j2t _ ⟨by omega, g2, g3, g4, .inr g6⟩ H
  · rw [show (((i.op &&& 240 : Nat) : Int) == 80) = false by simp; omega]; exact j2f _ (fun e => by omega) H
end
end Go.Proofs.YtpbhanglcophbaaGreat

set_option linter.unusedVariables false
set_option linter.unusedSimpArgs false
set_option linter.unnecessarySimpa false
namespace Go.Proofs.YtpbhanglcophbaaGreat
open Go.Hl
attribute [local irreducible] loadF zc sizeP bytesP vcBody pInvoke pIf pAssert pNew pLd pLdA pSt pStA pSome pIdx pPart pCall pCallV pAppend pExtend pGet pGetS pPut pNewObj pJoin pLoop pKeep fgt iter pFits pClear
section
variable {KP K : Value → Pr} {h : Heap} {x y n id kind what : Int} {M R : List Pr} {p q tot op : Nat} {a b : Ab} {s : St} {l : Sl} {no ok taken : Bool} {L : List Int} {i j : In} {D : List Mp} {dl : Sl} {c : Cl}
abbrev clC (p : Nat) (id : Int) (dl : Sl) (c : Cl) : List Value := [.pointer (some ⟨p, 0, none⟩), .int .i64 id, .slice dl.base dl.len dl.cap, .int .i64 c.d.kind, .int .i64 c.d.key, .int .i64 c.d.val, .int .i64 c.d.room, .int .i64 c.m, .int .i64 c.n, .int .i64 c.buf, .int .i64 c.rcd]
theorem aplain_s (k : K (.bool (a.plain kind)) h) : WpCall Tryz.prog 65 #[.agg a.enc.toArray, .int .i64 kind] KP K h := by
  refine areg_plain_call a.enc kind ?_
  have H := hstart h
  simp only [areg_plain, areg_plain_j1, pJoin_eq, add_mk, Nat.zero_add, Nat.add_zero]
  unfold Ab.plain at k
  refine new_c (n := 12) H (by rfl) fun b h H => ld_c H rfl ?_
  refine if_c (fun h1 => ld_c H rfl ?_) (fun h1 => ?_)
  rotate_left
  · rw [decide_eq_false (fun e => h1 e.1)] at k; exact back H k
  cases hn : a.null
  rotate_left
  · rw [decide_eq_false (fun e => by rw [hn] at e; exact absurd e.2.1 (by simp))] at k; exact pIf_f (by rfl) (back H k)
  refine pIf_t (by rfl) (ld_c H rfl ?_)
  refine if_c (fun h2 => ld_c H rfl ?_) (fun h2 => ?_)
  rotate_left
  · rw [decide_eq_false (fun e => h2 e.2.2.1)] at k; exact back H k
  refine back H (kbool ?_ k)
  rw [Bool.eq_iff_iff]
  simp only [decide_eq_true_eq, beq_iff_eq]
  have e0 : a.hi.toInt = 0 ↔ a.hi = 0#64 := by
    rw [show (0 : Int) = (0#64 : B64).toInt from rfl, BitVec.toInt_inj]
  rw [e0]
  exact ⟨fun e => e.2.2.2, fun e => ⟨h1, hn, h2, e⟩⟩
theorem constF_lt : 0 ≤ constF a ∧ constF a ≤ 32 := by
  unfold constF
  split
  · rename_i h
    have := h.2.2.2
    rw [BitVec.le_def] at this
    have e : (32#64 : B64).toNat = 32 := rfl
    rw [e] at this
    omega
  · omega
theorem constant_s (k : K (.int .i64 (constF a)) h) : WpCall Tryz.prog 66 #[.agg a.enc.toArray] KP K h := by
  refine areg_constant_call a.enc ?_
  have H := hstart h
  simp only [areg_constant, areg_constant_j1, pJoin_eq, add_mk, Nat.zero_add, Nat.add_zero]
  unfold constF at k
  refine new_c (n := 12) H (by rfl) fun b h H => ldA_c H (call_c (isConst_s (v := a.num.bits.v) (m := a.num.bits.m) (tup2 ?_)))
  dsimp only
  refine ld_c H rfl ?_
  refine if_c (fun h1 => pIf_t (by rfl) (back H ?_)) (fun h1 => ?_)
  · rw [if_neg (fun e => h1 e.1)] at k; exact k
  have h1 : a.kind = 1 := by simpa using h1
  by_cases hm : a.num.bits.m = 0#64
  rotate_left
  · rw [decide_eq_false hm]
    rw [if_neg (fun e => hm e.2.1)] at k
    exact pIf_t (by rfl) (pIf_t (by rfl) (back H k))
  simp only [if_pos hm, decide_eq_true hm]
  refine pIf_f (by rfl) ?_
  by_cases h2 : a.num.bits.v < 1#64
  · rw [show decide ((a.num.bits.v.toNat : Int) < 1) = true by rw [BitVec.lt_def] at h2; simp at h2 ⊢; omega]
    rw [if_neg (fun e => by have := e.2.2.1; rw [BitVec.le_def] at this; rw [BitVec.lt_def] at h2; omega)] at k
    exact pIf_t (by rfl) (pIf_t (by rfl) (back H k))
  · have h2' : 1 ≤ a.num.bits.v.toNat := by rw [BitVec.lt_def] at h2; simp at h2; omega
    rw [show decide ((a.num.bits.v.toNat : Int) < 1) = false by simp; omega]
    refine pIf_f (by rfl) ?_
    by_cases h3 : 32#64 < a.num.bits.v
    · rw [show decide ((a.num.bits.v.toNat : Int) > 32) = true by rw [BitVec.lt_def] at h3; simp at h3 ⊢; omega]
      rw [if_neg (fun e => by have := e.2.2.2; rw [BitVec.le_def] at this; rw [BitVec.lt_def] at h3; omega)] at k
      exact pIf_t (by rfl) (back H k)
    · have h3' : a.num.bits.v.toNat ≤ 32 := by rw [BitVec.lt_def] at h3; simp at h3; omega
      rw [show decide ((a.num.bits.v.toNat : Int) > 32) = false by simp; omega]
      rw [if_pos ⟨h1, hm, by rw [BitVec.le_def]; simpa using h2', by rw [BitVec.le_def]; simpa using h3'⟩] at k
      rw [wrap_small (by omega) (by omega)]
      exact pIf_f (by rfl) (back H k)
/- What a helper does. -/
theorem fresh_s (H : seps (rowP q (clC p id dl c) 11 :: rowP p (wkC s l no) 295 :: R) h) (k : ∀ h, seps (rowP q (clC p id dl c) 11 :: rowP p (wkC s.up l no) 295 :: R) h → K (.agg (freshF s kind what).enc.toArray) h) :
    WpCall Tryz.prog 113 #[.pointer (some ⟨q, 0, none⟩), .int .i64 kind, .int .i64 what] KP K h := by
  refine areg_call_fresh_call (some ⟨q, 0, none⟩) kind what ?_
  simp only [areg_call_fresh, zc_eq, pSome_some, add_mk, Nat.zero_add, Nat.add_zero]
  refine new_c (n := 12) H (by rfl) fun b1 h H => ld_c (s := .ptr) (x := some ⟨p, 0, none⟩) H rfl ?_
  simp only [pSome_some, add_mk, Nat.zero_add, Nat.add_zero]
  refine ld_c (s := .int .i64) (x := s.next) H wk_next (new_c (n := 12) H (by rfl) fun b6 h H => ?_)
  rw [lay_eq]
  refine stA_c H (by rfl) fun h H => ld_c (s := .ptr) (x := some ⟨p, 0, none⟩) H rfl ?_
  simp only [pSome_some, add_mk, Nat.zero_add, Nat.add_zero]
  refine ld_c (s := .int .i64) (x := s.next) H wk_next (st_c H fun h H => ldA_c H (stA_c H (by rfl) fun h H => ldA_c H (fgt_mk (k _ ?_))))
  have H2 := row_out (R := rowP p (wkC ⟨s.regs, s.pls, s.held, IntKind.i64.wrap (s.next + 1)⟩ l no) 295 :: R) q H
  exact H2
theorem up_held : s.up.held = s.held := rfl
theorem any_s (k : K (.agg (Ab.ofNum .all).enc.toArray) h) : WpCall Tryz.prog 68 #[.pointer (some ⟨q, 0, none⟩)] KP K h := by
  refine areg_call_any_call (some ⟨q, 0, none⟩) ?_
  have H := hstart h
  simp only [areg_call_any, zc_eq]
  refine new_c (n := 12) H (by rfl) fun b1 h H => call_c (all_s (one1 (call_c (anum_s (q := Nm.all) (one1 (stA_c H (by rfl) fun h H => ldA_c H (back H k)))))))
theorem inside_s (k : K (.agg (upToF 1#64).enc.toArray) h) : WpCall Tryz.prog 72 #[.pointer (some ⟨q, 0, none⟩)] KP K h := by
  refine areg_call_inside_call (some ⟨q, 0, none⟩) ?_
  have H := hstart h
  simp only [areg_call_inside, zc_eq]
  refine new_c (n := 12) H (by rfl) fun b1 h H => call_c (upTo_s (v := 1#64) (one1 (stA_c H (by rfl) fun h H => ldA_c H (back H k))))
theorem slot_s (H : seps (rowP q (clC p id dl c) 11 :: rowP p (wkC s l no) 295 :: R) h) (k : ∀ h, seps (rowP q (clC p id dl c) 11 :: rowP p (wkC s.up l no) 295 :: R) h → K (.agg (freshF s 5 c.m).enc.toArray) h) :
    WpCall Tryz.prog 67 #[.pointer (some ⟨q, 0, none⟩)] KP K h := by
  refine areg_call_slot_call (some ⟨q, 0, none⟩) ?_
  simp only [areg_call_slot, zc_eq, pSome_some, add_mk, Nat.zero_add, Nat.add_zero]
  refine new_c (n := 12) H (by rfl) fun b1 h H => ld_c H rfl (call_c (fresh_s (R := rowP b1 z12 12 :: R) (pk [1, 2, 0] H) fun h H => one1 (stA_c H (by rfl) fun h H => ldA_c H (fgt_mk (k _ ?_)))))
  exact row_out (R := rowP p (wkC s.up l no) 295 :: R) q H
theorem reserve_s (hs : s.held.length ≤ 1000000) (H : seps (rowP q (clC p id dl c) 11 :: rowP p (wkC s l no) 295 :: own 1 l (inC s.held) :: R) h) (k : ∀ l' h, seps (rowP q (clC p id dl c) 11 :: rowP p (wkC (s.up.setHeld (s.held ++ [s.next])) l' no) 295 :: own 1 l' (inC (s.held ++ [s.next])) :: R) h → K (.agg (freshF s 6 c.n).enc.toArray) h) :
    WpCall Tryz.prog 69 #[.pointer (some ⟨q, 0, none⟩)] KP K h := by
  refine areg_call_reserve_call (some ⟨q, 0, none⟩) ?_
  simp only [areg_call_reserve, zc_eq, pSome_some, add_mk, Nat.zero_add, Nat.add_zero]
  refine new_c (n := 12) H (by rfl) fun b1 h H => ld_c H rfl (call_c (fresh_s (R := rowP b1 z12 12 :: own 1 l (inC s.held) :: R) (pk [1, 2, 0] H) fun h H => one1 (new_c (n := 12) H (by rfl) fun b5 h H => stA_c H (by rfl) fun h H => ?_)))
  refine ld_c (s := .ptr) (x := some ⟨p, 0, none⟩) H rfl (ld_c (s := .ptr) (x := some ⟨p, 0, none⟩) H rfl ?_)
  simp only [pSome_some, add_mk, Nat.zero_add, Nat.add_zero]
  refine ld_c (s := .slice) (x := l) H wk_held (ld_c (s := .int .i64) (x := s.next) H rfl ?_)
  rw [rep1, lay_eq]
  refine new_c (n := 1) H (by rfl) fun b13 h H => ?_
  have hb := row_at H
  have H : seps (rowP b13 [.int .i64 s.next] 1 :: rowP b5 (freshF s 6 c.n).enc 12 :: rowP q (clC p id dl c) 11 :: rowP p (wkC s.up l no) 295 :: rowP b1 z12 12 :: own 1 l (inC s.held) :: R) h := H
  have hl : l.len = s.held.length := by
    have o := own_at (pk [5] H)
    have := o.len
    simp [inC] at this; exact this
  refine append_sep (bytes := 8) (new := [.int .i64 s.next]) (L := rowP b13 [.int .i64 s.next] 1 :: rowP b5 (freshF s 6 c.n).enc 12 :: rowP q (clC p id dl c) 11 :: rowP p (wkC s.up l no) 295 :: rowP b1 z12 12 :: R) (pk [5] H) ?_ (show (l.len + 1) * 8 ≤ 140737488355328 by omega) (fun v hv => by rw [List.mem_singleton.1 hv]; rfl) fun l' h H e => ?_
  · show Heap.vals _ _ _ = _
    rw [vals_row hb]; rfl
  have H : seps (own 1 l' (inC (s.held ++ [s.next])) :: rowP b13 [.int .i64 s.next] 1 :: rowP b5 (freshF s 6 c.n).enc 12 :: rowP q (clC p id dl c) 11 :: rowP p (wkC s.up l no) 295 :: rowP b1 z12 12 :: R) h := by
    have e2 : inC s.held ++ [Value.int .i64 s.next] = inC (s.held ++ [s.next]) := by simp [inC]
    rw [← e2]; exact H
  refine keep_c H rfl ?_
  refine st_c H fun h H => ldA_c H (stA_c H (by rfl) fun h H => ldA_c H (fgt_mk (k l' _ ?_)))
  have H2 := row_out (R := rowP p (wkC s.up l' no) 295 :: own 1 l' (inC (s.held ++ [s.next])) :: R) q H
  exact H2
theorem end_s (hs : s.held.length ≤ 1000000) (H : seps (rowP q (clC p id dl c) 11 :: rowP p (wkC s l no) 295 :: own 1 l (inC s.held) :: R) h) (k : ∀ l' h, seps (rowP q (clC p id dl c) 11 :: rowP p (wkC (endF s c.rcd) l' no) 295 :: own 1 l' (inC (dropF s.held c.rcd)) :: R) h → K (.agg (conF 0#64).enc.toArray) h) :
    WpCall Tryz.prog 70 #[.pointer (some ⟨q, 0, none⟩)] KP K h := by
  refine areg_call_end_call (some ⟨q, 0, none⟩) ?_
  simp only [areg_call_end, zc_eq, pSome_some, add_mk, Nat.zero_add, Nat.add_zero]
  refine new_c (n := 12) H (by rfl) fun b1 h H => ld_c (s := .ptr) (x := some ⟨p, 0, none⟩) H rfl (ld_c H rfl (call_c ?_))
  refine each_s (id := c.rcd) (B := []) (M := rowP q (clC p id dl c) 11 :: rowP b1 z12 12 :: own 1 l (inC s.held) :: R) end_r end_p (pk [2, 1, 0] H) fun h H => tup0 ?_
  have H : seps (rowP p (wkC (endF s c.rcd) l no) 295 :: rowP q (clC p id dl c) 11 :: rowP b1 z12 12 :: own 1 l (inC s.held) :: R) h := H
  refine ld_c (s := .ptr) (x := some ⟨p, 0, none⟩) H rfl (ld_c (s := .int .i64) (x := c.rcd) H rfl (call_c ?_))
  refine drop_s (id := c.rcd) (s := endF s c.rcd) hs (M := rowP q (clC p id dl c) 11 :: rowP b1 z12 12 :: R) (pk [0, 3, 1, 2] H) fun l' h H => tup0 ?_
  refine call_c (con_s (v := 0#64) (one1 (call_c (anum_s (q := Nm.con 0#64) (one1 (stA_c H (by rfl) fun h H => ldA_c H (fgt_mk (k l' _ ?_))))))))
  exact row_out (R := rowP p (wkC (endF s c.rcd) l' no) 295 :: own 1 l' (inC (dropF s.held c.rcd)) :: R) q H
theorem path_s {m n : Nat} (hb : c.buf = m) (hn : c.n = n) (hm : m + n ≤ 64) (H : seps (rowP q (clC p id dl c) 11 :: rowP p (wkC s l no) 295 :: R) h) (k : ∀ h, seps (rowP q (clC p id dl c) 11 :: rowP p (wkC (touchF s m n) l no) 295 :: R) h → K (.agg (upToF (BitVec.ofInt 64 c.n)).enc.toArray) h) :
    WpCall Tryz.prog 71 #[.pointer (some ⟨q, 0, none⟩)] KP K h := by
  refine areg_call_path_call (some ⟨q, 0, none⟩) ?_
  simp only [areg_call_path, zc_eq, pSome_some, add_mk, Nat.zero_add, Nat.add_zero]
  refine new_c (n := 12) H (by rfl) fun b1 h H => ld_c (s := .ptr) (x := some ⟨p, 0, none⟩) H rfl (ld_c (s := .int .i64) (x := c.buf) H rfl (ld_c (s := .int .i64) (x := c.n) H rfl (call_c ?_)))
  rw [hb, hn]
  refine touch_s hm H fun h H => tup0 ?_
  refine ld_c (s := .int .i64) (x := c.n) H rfl (call_c (upTo_s (v := BitVec.ofInt 64 c.n) (j := ⟨w_u64 _⟩) (one1 (stA_c H (by rfl) fun h H => ldA_c H (fgt_mk (k _ ?_))))))
  exact row_out (R := rowP p (wkC (touchF s m n) l no) 295 :: R) q H
end
end Go.Proofs.YtpbhanglcophbaaGreat

set_option linter.unusedVariables false
set_option linter.unusedSimpArgs false
set_option linter.unnecessarySimpa false
namespace Go.Proofs.YtpbhanglcophbaaGreat
open Go.Hl
attribute [local irreducible] loadF zc sizeP bytesP vcBody pInvoke pIf pAssert pNew pLd pLdA pSt pStA pSome pIdx pPart pCall pCallV pAppend pExtend pGet pGetS pPut pNewObj pJoin pLoop pKeep fgt iter pFits pClear
section
variable {KP K : Value → Pr} {h : Heap} {x y n id what : Int} {M R : List Pr} {p q tot op : Nat} {a b next : Ab} {s : St} {l : Sl} {no ok taken : Bool} {L : List Int} {i j : In} {D : List Mp} {dl : Sl} {c : Cl}
theorem stackBytes_c (hn : n < 9223372036854775808) (H : seps (rowP q (clC p id dl c) 11 :: rowP p (wkC s l false) 295 :: R) h) (kt : stackBytesF s a n = true → ∀ h, seps (rowP q (clC p id dl c) 11 :: rowP p (wkC s l false) 295 :: R) h → K (.tuple #[]) h) (kf : stackBytesF s a n = false → ∀ h, seps (rowP q (clC p id dl c) 11 :: rowP p (wkC s l true) 295 :: R) h → K (.tuple #[]) h) :
    WpCall Tryz.prog 64 #[.pointer (some ⟨q, 0, none⟩), .agg a.enc.toArray, .int .i64 n] KP K h := by
  refine areg_call_stackBytes_call (some ⟨q, 0, none⟩) a.enc n ?_
  unfold stackBytesF at kt kf
  simp only [areg_call_stackBytes, pJoin_eq, pSome_some, add_mk, Nat.zero_add, Nat.add_zero]
  refine new_c (n := 12) H (by rfl) fun b1 h H => ld_c (s := .ptr) (x := some ⟨p, 0, none⟩) H rfl (ld_c (s := .int .i64) (x := a.kind) H rfl ?_)
  have j1t : ∀ h, ¬ (a.kind = 2 ∧ nearF a.lo = true) → seps (rowP p (wkC s l true) 295 :: rowP b1 a.enc 12 :: rowP q (clC p id dl c) 11 :: R) h → areg_call_stackBytes_j1 (some ⟨q, 0, none⟩) n (fgt KP) (fgt K) b1 true h := fun h e H => by
    unfold areg_call_stackBytes_j1
    refine pIf_t (by rfl) (fgt_mk (kf ?_ _ (row_out (R := rowP p (wkC s l true) 295 :: R) q H)))
    rw [Bool.eq_false_iff]
    intro e2
    simp only [Bool.and_eq_true, decide_eq_true_eq] at e2
    exact e e2.1
  refine if_c (fun h1 => ld_c (s := .int .i64) (x := a.lo.toInt) H rfl (call_c (inBounds_s (v := a.lo) (one1 (keep_c H rfl (call_c ?_)))))) (fun h1 => call_c (need_c H (fun h3 => absurd h3 (by simp)) (fun h3 h H => one1 (j1t _ (fun e => h1 e.1) H))))
  refine need_c H (fun h2 h H => one1 ?_) (fun h2 h H => one1 (j1t _ (fun e => h2 e.2) H))
  simp only [areg_call_stackBytes_j1, pSome_some, add_mk, Nat.zero_add, Nat.add_zero]
  have e0 : (decide (a.kind = 2) && nearF a.lo) = true := by rw [decide_eq_true h1, h2]; rfl
  rw [e0, Bool.true_and] at kt kf
  refine pIf_f (by rfl) (ld_c (s := .ptr) (x := some ⟨p, 0, none⟩) H rfl (ld_c (s := .int .i64) (x := a.lo.toInt) H rfl (call_c ?_)))
  refine stackAt_c hn H (fun m hm h H => one1 ?_) (fun hm h H => one1 ?_)
  · have qq := stackAtF_lt hm
    rw [hm] at kt kf
    dsimp only at kt kf
    refine ld_c (s := .ptr) (x := some ⟨p, 0, none⟩) H rfl (ld_c (s := .ptr) (x := some ⟨p, 0, none⟩) H rfl ?_)
    simp only [pSome_some, add_mk, Nat.zero_add, Nat.add_zero]
    refine ld_c H wk_no (pIf_f (by rfl) (ld_c (s := .ptr) (x := some ⟨p, 0, none⟩) H rfl (call_c ?_)))
    obtain ⟨nn, rfl⟩ : ∃ k : Nat, n = k := ⟨n.toNat, by omega⟩
    simp only [Int.toNat_natCast] at qq kt kf
    refine solid_s (by omega) H fun h H => one1 (s := .bool) (keep_c H rfl (call_c ?_))
    refine need_c H (fun h3 h H => one1 (fgt_mk (kt h3 _ ?_))) (fun h3 h H => one1 (fgt_mk (kf (by simpa using h3) _ ?_)))
    · exact row_out (R := rowP p (wkC s l false) 295 :: R) q H
    · exact row_out (R := rowP p (wkC s l true) 295 :: R) q H
  · rw [hm] at kf
    dsimp only at kf
    refine ld_c (s := .ptr) (x := some ⟨p, 0, none⟩) H rfl (ld_c (s := .ptr) (x := some ⟨p, 0, none⟩) H rfl ?_)
    simp only [pSome_some, add_mk, Nat.zero_add, Nat.add_zero]
    refine ld_c H wk_no (pIf_t (by rfl) (call_c ?_))
    refine need_c H (fun h3 h H => one1 (fgt_mk (kf rfl _ ?_))) (fun h3 => absurd h3 (by simp))
    exact row_out (R := rowP p (wkC s l true) 295 :: R) q H
def Mp.Fit (d : Mp) : Prop := d.key < 9223372036854775808 ∧ d.val < 9223372036854775808
def clOk (c : Cl) : Prop := c.d.Fit
set_option maxHeartbeats 2000000 in
theorem take_c {kind : Nat} {r : List Nat × List Int} (hk : 1 ≤ kind ∧ kind ≤ 9) (er : helpF id = some r) (cf : c.d.Fit) (C : ∀ {g}, seps R g → Maps dl D g) (I : ∀ {g}, seps R g → Ints l s.held g)
    (H : seps (rowP q (clC p id dl c) 11 :: rowP p (wkC s l false) 295 :: R) h) (kt : ∀ c', takeF s r.2 D c kind a next = some c' → ∀ h, seps (rowP q (clC p id dl c') 11 :: rowP p (wkC s l false) 295 :: R) h → K (.tuple #[]) h) (kf : takeF s r.2 D c kind a next = none → ∀ c' h, seps (rowP q (clC p id dl c') 11 :: rowP p (wkC s l true) 295 :: R) h → K (.tuple #[]) h) :
    WpCall Tryz.prog 38 #[.pointer (some ⟨q, 0, none⟩), .int .u8 kind, .agg a.enc.toArray, .agg next.enc.toArray] KP K h := by
  refine areg_call_take_call (some ⟨q, 0, none⟩) kind a.enc next.enc ?_
  have hD : dl.len = D.length := (C (seps_tail (seps_tail H))).len
  have hDs : D.length ≤ 1000000 := (C (seps_tail (seps_tail H))).small
  simp only [areg_call_take, pJoin_eq, pSome_some, add_mk, Nat.zero_add, Nat.add_zero]
  refine new_c (n := 12) H (by rfl) fun b1 h H => new_c (n := 12) H (by rfl) fun b2 h H => ?_
  have H : seps (rowP b2 next.enc 12 :: rowP b1 a.enc 12 :: rowP q (clC p id dl c) 11 :: rowP p (wkC s l false) 295 :: R) h := H
  -- the ends
  have okE : ∀ (c' : Cl) h, takeF s r.2 D c kind a next = some c' → seps (rowP p (wkC s l false) 295 :: rowP b2 next.enc 12 :: rowP b1 a.enc 12 :: rowP q (clC p id dl c') 11 :: R) h → fgt K (.tuple #[]) h := fun c' h e H => fgt_mk (kt c' e _ (row_out (R := rowP p (wkC s l false) 295 :: R) q H))
  have noE : ∀ (c' : Cl) h, takeF s r.2 D c kind a next = none → seps (rowP p (wkC s l true) 295 :: rowP b2 next.enc 12 :: rowP b1 a.enc 12 :: rowP q (clC p id dl c') 11 :: R) h → fgt K (.tuple #[]) h := fun c' h e H => fgt_mk (kf e c' _ (row_out (R := rowP p (wkC s l true) 295 :: R) q H))
  clear kt kf
  have cs : kind = 1 ∨ kind = 2 ∨ kind = 3 ∨ kind = 4 ∨ kind = 5 ∨ kind = 6 ∨ kind = 7 ∨ kind = 8 ∨ kind = 9 := by omega
  rcases cs with rfl | rfl | rfl | rfl | rfl | rfl | rfl | rfl | rfl
  · -- a map
    unfold takeF at okE noE
    refine pIf_t (by rfl) (ld_c (s := .ptr) (x := some ⟨p, 0, none⟩) H rfl (ld_c (s := .int .i64) (x := a.kind) H rfl ?_))
    have j1f : ∀ h, ¬ (a.kind = 7 ∧ 0 ≤ a.what ∧ a.what < D.length) → seps (rowP p (wkC s l true) 295 :: rowP b2 next.enc 12 :: rowP b1 a.enc 12 :: rowP q (clC p id dl c) 11 :: R) h → areg_call_take_j1 (some ⟨q, 0, none⟩) (fgt KP) (fgt K) b1 false h := fun h e H => by
      unfold areg_call_take_j1
      exact pIf_f (by rfl) (noE c _ (if_neg (fun q => e ⟨q.1, q.2.1, q.2.2.1⟩)) H)
    refine if_c (fun h1 => ld_c (s := .int .i64) (x := a.what) H rfl ?_) (fun h1 => call_c (need_c H (fun h3 => absurd h3 (by simp)) (fun h3 h H => one1 (j1f _ (fun e => h1 e.1) H))))
    refine if_c (fun h2 => ld_c (s := .int .i64) (x := a.what) H rfl (ld_c (s := .slice) (x := dl) H rfl (call_c ?_))) (fun h2 => call_c (need_c H (fun h3 => absurd h3 (by simp)) (fun h3 h H => one1 (j1f _ (fun e => h2 e.2.1) H))))
    refine need_c (P := a.what < (D.length : Int)) (Q := ¬ a.what < (D.length : Int)) (j := ⟨fun e => by rw [hD] at e; simpa using e, fun e => by rw [hD] at e; simpa using e⟩) H (fun h3 h H => one1 ?_) (fun h3 h H => one1 (j1f _ (fun e => h3 e.2.2) H))
    have h2 : 0 ≤ a.what := h2
    clear j1f
    simp only [areg_call_take_j1, pSome_some, add_mk, Nat.zero_add, Nat.add_zero]
    refine pIf_t (by rfl) (ld_c (s := .int .i64) (x := a.what) H rfl (ld_c (s := .slice) (x := dl) H rfl (ld_c (s := .int .i64) (x := a.what) H rfl ?_)))
    have C2 := C (g := h) (sub H)
    refine C2.at (i := a.what.toNat) (by omega) (by omega) fun ad ha => ldV ha ?_
    generalize hd : D.getD a.what.toNat .nil = d at okE noE
    refine st_c H fun h H => stA_c H (by rfl) fun h H => ?_
    have H : seps (rowP q (clC p id dl ⟨a.what, d, c.n, c.buf, c.rcd⟩) 11 :: rowP p (wkC s l false) 295 :: rowP b2 next.enc 12 :: rowP b1 a.enc 12 :: R) h := H
    refine ld_c (s := .ptr) (x := some ⟨p, 0, none⟩) H rfl (ld_c (s := .int .i64) (x := id) H rfl (ld_c (s := .int .i64) (x := d.kind) H rfl (call_c ?_)))
    refine suits_s (id := id) (kind := d.kind) ?_
    rw [er]
    refine one1 (s := .bool) (keep_c H rfl (call_c ?_))
    refine need_c H (fun h4 h H => one1 ?_) (fun h4 h H => one1 ?_)
    · exact okE _ _ (if_pos ⟨h1, h2, h3, by simpa using h4⟩) (pk [0, 2, 3, 1] H)
    · exact noE _ _ (if_neg (fun q => by simpa [q.2.2.2] using h4)) (pk [0, 2, 3, 1] H)
  · -- a key
    unfold takeF at okE noE
    refine pIf_f (by rfl) (pIf_t (by rfl) (ldA_c H (ld_c (s := .int .i64) (x := c.d.key) H rfl (call_c ?_))))
    refine stackBytes_c (a := a) (R := rowP b2 next.enc 12 :: rowP b1 a.enc 12 :: R) cf.1 (pk [2, 3, 0, 1] H) (fun e h H => tup0 (okE c _ (if_pos e) (pk [1, 2, 3, 0] H))) (fun e h H => tup0 (noE c _ (if_neg (by rw [e]; simp)) (pk [1, 2, 3, 0] H)))
  · -- a value
    unfold takeF at okE noE
    refine pIf_f (by rfl) (pIf_f (by rfl) (pIf_t (by rfl) (ldA_c H (ld_c (s := .int .i64) (x := c.d.val) H rfl (call_c ?_)))))
    refine stackBytes_c (a := a) (R := rowP b2 next.enc 12 :: rowP b1 a.enc 12 :: R) cf.2 (pk [2, 3, 0, 1] H) (fun e h H => tup0 (okE c _ (if_pos e) (pk [1, 2, 3, 0] H))) (fun e h H => tup0 (noE c _ (if_neg (by rw [e]; simp)) (pk [1, 2, 3, 0] H)))
  · -- a number
    unfold takeF at okE noE
    refine pIf_f (by rfl) (pIf_f (by rfl) (pIf_f (by rfl) (pIf_t (by rfl) (ld_c (s := .ptr) (x := some ⟨p, 0, none⟩) H rfl (ld_c (s := .int .i64) (x := a.kind) H rfl ?_)))))
    refine call_c (need_c H (fun h4 h H => one1 (okE c _ (if_pos h4) H)) (fun h4 h H => one1 (noE c _ (if_neg h4) H)))
  · -- an inode
    unfold takeF at okE noE
    refine pIf_f (by rfl) (pIf_f (by rfl) (pIf_f (by rfl) (pIf_f (by rfl) (pIf_t (by rfl) (ld_c (s := .ptr) (x := some ⟨p, 0, none⟩) H rfl (ldA_c H (call_c (aplain_s (a := a) (one1 (keep_c H rfl ?_))))))))))
    refine if_c (fun h3 => ld_c (s := .int .i64) (x := a.what) H rfl ?_) (fun h3 => call_c (need_c H (fun h4 => absurd h4 (by simp)) (fun h4 h H => one1 (noE c _ (if_neg (fun e => h3 e.1)) H))))
    refine call_c (need_c H (fun h4 h H => one1 (okE c _ (if_pos ⟨h3, h4⟩) H)) (fun h4 h H => one1 (noE c _ (if_neg (fun e => h4 e.2)) H)))
  · -- a task
    unfold takeF at okE noE
    refine pIf_f (by rfl) (pIf_f (by rfl) (pIf_f (by rfl) (pIf_f (by rfl) (pIf_f (by rfl) (pIf_t (by rfl) (ld_c (s := .ptr) (x := some ⟨p, 0, none⟩) H rfl (ldA_c H (call_c (aplain_s (a := a) (one1 (keep_c H rfl ?_)))))))))))
    refine if_c (fun h3 => ld_c (s := .int .i64) (x := a.what) H rfl ?_) (fun h3 => call_c (need_c H (fun h4 => absurd h4 (by simp)) (fun h4 h H => one1 (noE c _ (if_neg (fun e => h3 e.1)) H))))
    refine call_c (need_c H (fun h4 h H => one1 (okE c _ (if_pos ⟨h3, h4⟩) H)) (fun h4 h H => one1 (noE c _ (if_neg (fun e => h4 e.2)) H)))
  · -- a constant
    unfold takeF at okE noE
    refine pIf_f (by rfl) (pIf_f (by rfl) (pIf_f (by rfl) (pIf_f (by rfl) (pIf_f (by rfl) (pIf_f (by rfl) (pIf_t (by rfl) (ldA_c H (call_c (constant_s (a := a) (one1 (st_c H fun h H => ?_)))))))))))
    have H : seps (rowP q (clC p id dl ⟨c.m, c.d, constF a, c.buf, c.rcd⟩) 11 :: rowP b2 next.enc 12 :: rowP b1 a.enc 12 :: rowP p (wkC s l false) 295 :: R) h := H
    refine ld_c (s := .ptr) (x := some ⟨p, 0, none⟩) H rfl (ld_c (s := .int .i64) (x := constF a) H rfl (call_c ?_))
    refine need_c H (fun h4 h H => one1 ?_) (fun h4 h H => one1 ?_)
    · exact okE _ _ (if_pos h4) (pk [0, 2, 3, 1] H)
    · exact noE _ _ (if_neg h4) (pk [0, 2, 3, 1] H)
  · -- a buffer
    have e8 : takeF s r.2 D c 8 a next = (if a.kind = 2 ∧ 0 < constF next ∧ nearF a.lo = true then (stackAtF a.lo.toInt (constF next)).map fun (p : Nat) => (⟨c.m, c.d, c.n, (p : Int), c.rcd⟩ : Cl) else none) := rfl
    rw [e8] at okE noE
    have hc := constF_lt (a := next)
    refine pIf_f (by rfl) (pIf_f (by rfl) (pIf_f (by rfl) (pIf_f (by rfl) (pIf_f (by rfl) (pIf_f (by rfl) (pIf_f (by rfl) (pIf_t (by rfl) (ldA_c H (call_c (constant_s (a := next) (one1 ?_)))))))))))
    generalize constF next = z at okE noE hc
    refine ld_c (s := .ptr) (x := some ⟨p, 0, none⟩) H rfl (ld_c (s := .int .i64) (x := a.kind) H rfl ?_)
    have j2f : ∀ h, ¬ (a.kind = 2 ∧ 0 < z ∧ nearF a.lo = true) → seps (rowP p (wkC s l true) 295 :: rowP b2 next.enc 12 :: rowP b1 a.enc 12 :: rowP q (clC p id dl c) 11 :: R) h → areg_call_take_j2 (some ⟨q, 0, none⟩) (fgt KP) (fgt K) b1 z false h := fun h e H => by
      unfold areg_call_take_j2
      exact pIf_f (by rfl) (noE c _ (if_neg e) H)
    refine if_c (fun h1 => ?_) (fun h1 => call_c (need_c H (fun h3 => absurd h3 (by simp)) (fun h3 h H => one1 (j2f _ (fun e => h1 e.1) H))))
    refine if_c (fun h2 => ld_c (s := .int .i64) (x := a.lo.toInt) H rfl (call_c (inBounds_s (v := a.lo) (one1 (keep_c H rfl (call_c ?_)))))) (fun h2 => call_c (need_c H (fun h3 => absurd h3 (by simp)) (fun h3 h H => one1 (j2f _ (fun e => h2 e.2.1) H))))
    refine need_c H (fun h3 h H => one1 ?_) (fun h3 h H => one1 (j2f _ (fun e => h3 e.2.2) H))
    clear j2f
    simp only [areg_call_take_j2, pSome_some, add_mk, Nat.zero_add, Nat.add_zero]
    refine pIf_t (by rfl) (ld_c (s := .ptr) (x := some ⟨p, 0, none⟩) H rfl (ld_c (s := .int .i64) (x := a.lo.toInt) H rfl (call_c ?_)))
    refine stackAt_c (by omega) H (fun m hm h H => one1 ?_) (fun hm h H => one1 ?_)
    · refine st_c H fun h H => ?_
      have H : seps (rowP q (clC p id dl ⟨c.m, c.d, c.n, m, c.rcd⟩) 11 :: rowP p (wkC s l false) 295 :: rowP b2 next.enc 12 :: rowP b1 a.enc 12 :: R) h := H
      exact okE _ _ (by rw [if_pos ⟨h1, h2, h3⟩, hm]; rfl) (pk [1, 2, 3, 0] H)
    · refine st_c H fun h H => ?_
      have H : seps (rowP q (clC p id dl ⟨c.m, c.d, c.n, 0, c.rcd⟩) 11 :: rowP p (wkC s l true) 295 :: rowP b2 next.enc 12 :: rowP b1 a.enc 12 :: R) h := H
      exact noE _ _ (by rw [if_pos ⟨h1, h2, h3⟩, hm]; rfl) (pk [1, 2, 3, 0] H)
  · -- a record
    unfold takeF at okE noE
    refine pIf_f (by rfl) (pIf_f (by rfl) (pIf_f (by rfl) (pIf_f (by rfl) (pIf_f (by rfl) (pIf_f (by rfl) (pIf_f (by rfl) (pIf_f (by rfl) (pIf_t (by rfl) (ld_c (s := .ptr) (x := some ⟨p, 0, none⟩) H rfl ?_)))))))))
    simp only [pSome_some, add_mk, Nat.zero_add, Nat.add_zero]
    refine ld_c (s := .slice) (x := l) H wk_held ?_
    have hI := I (g := h) (sub H)
    have hIl := hI.len
    have hIs := hI.small
    refine pLoop_rule (fun st g => ∃ j : Nat, j ≤ s.held.length ∧ st = (decide (a.id ∈ s.held.take j), (j : Int), ()) ∧ g = h) (fun st => s.held.length - st.2.1.toNat) ?_ ⟨0, Nat.zero_le _, by simp, rfl⟩
    rintro st g k' ⟨j, hj, rfl, rfl⟩ kl
    dsimp only
    simp only [areg_call_take_l5, areg_call_take_j3, areg_call_take_j4, pJoin_eq, pSome_some, add_mk, Nat.zero_add, Nat.add_zero]
    refine pIf_i (fun h1 => ?_) (fun h1 => ?_)
    · rw [decide_eq_true_eq] at h1
      have hj : j < s.held.length := by omega
      refine hI.ld (i := j) rfl hj ?_
      have e1 : s.held.take (j + 1) = s.held.take j ++ [s.held[j]] := by rw [List.take_add_one]; simp [hj]
      have e2 : s.held.getD j 0 = s.held[j] := by simp [List.getD, hj]
      have nx : ∀ bb, bb = decide (a.id ∈ s.held.take (j + 1)) → k' (bb, IntKind.i64.wrap ((j : Int) + 1), ()) g := fun bb e => by
        rw [wrap_small (by omega) (by omega)]
        exact kl _ _ ⟨j + 1, by omega, by rw [e]; rfl, rfl⟩ (by dsimp only; omega)
      refine if_c (fun h2 => nx true ?_) (fun h2 => ld_c (s := .int .i64) (x := a.id) H rfl (nx _ ?_))
      · have h2 : a.id ∈ s.held.take j := by simpa using h2
        rw [e1, decide_eq_true (List.mem_append_left _ h2)]
      · have h2 : ¬ a.id ∈ s.held.take j := by simpa using h2
        rw [e1, e2, Bool.eq_iff_iff]
        simp only [beq_iff_eq, decide_eq_true_eq, List.mem_append, List.mem_singleton]
        exact ⟨fun e => .inr e.symm, fun e => (e.resolve_left h2).symm⟩
    · rw [decide_eq_false_iff_not] at h1
      have hj : j = s.held.length := by omega
      subst hj
      rw [List.take_length]
      refine ld_c (s := .ptr) (x := some ⟨p, 0, none⟩) H rfl (ldA_c H (call_c (aplain_s (a := a) (one1 (keep_c H rfl ?_)))))
      refine if_c (fun h3 => ?_) (fun h3 => ?_)
      · refine call_c (need_c H (fun h4 h H => one1 ?_) (fun h4 h H => one1 ?_))
        · refine ld_c (s := .int .i64) (x := a.id) H rfl (st_c H fun h H => ?_)
          have H : seps (rowP q (clC p id dl ⟨c.m, c.d, c.n, c.buf, a.id⟩) 11 :: rowP p (wkC s l false) 295 :: rowP b2 next.enc 12 :: rowP b1 a.enc 12 :: R) h := H
          exact okE _ _ (if_pos ⟨h3, by simpa using h4⟩) (pk [1, 2, 3, 0] H)
        · refine ld_c (s := .int .i64) (x := a.id) H rfl (st_c H fun h H => ?_)
          have H : seps (rowP q (clC p id dl ⟨c.m, c.d, c.n, c.buf, a.id⟩) 11 :: rowP p (wkC s l true) 295 :: rowP b2 next.enc 12 :: rowP b1 a.enc 12 :: R) h := H
          exact noE _ _ (if_neg (fun e => by simpa [e.2] using h4)) (pk [1, 2, 3, 0] H)
      · refine call_c (need_c H (fun h4 => absurd h4 (by simp)) (fun h4 h H => one1 ?_))
        refine ld_c (s := .int .i64) (x := a.id) H rfl (st_c H fun h H => ?_)
        have H : seps (rowP q (clC p id dl ⟨c.m, c.d, c.n, c.buf, a.id⟩) 11 :: rowP p (wkC s l true) 295 :: rowP b2 next.enc 12 :: rowP b1 a.enc 12 :: R) h := H
        exact noE _ _ (if_neg (fun e => h3 e.1)) (pk [1, 2, 3, 0] H)
end
end Go.Proofs.YtpbhanglcophbaaGreat

set_option linter.unusedVariables false
set_option linter.unusedSimpArgs false
set_option linter.unnecessarySimpa false
namespace Go.Proofs.YtpbhanglcophbaaGreat
open Go.Hl
theorem hb_ld {l : Sl} {L : List Nat} {g : Heap} (hv : l.vals 1 g (hbC L)) (hl : l.len = L.length) {i : Nat} {x : Int} (hx : x = i) (hi : i < L.length) {k : Int → Pr} (q : k ((L.getD i 0 : Nat) : Int) g) : pIdx x l.len (pSome l.base fun a => pLd (.int .u8) (a.add (x.toNat * 1)) k) g := by
  subst hx
  refine pIdx_i (by omega) (by omega) ?_
  unfold Sl.vals at hv
  cases hb : l.base with
  | none => rw [hb] at hv; have := hv.1; omega
  | some a =>
    rw [hb] at hv
    refine ⟨a, rfl, _, ?_, q⟩
    refine (vals_cell hv).2.2 _ _ ?_
    rw [Int.toNat_natCast, Nat.mul_one]
    simp [hbC, hi, List.getD]
    rfl
attribute [local irreducible] loadF zc sizeP bytesP vcBody pInvoke pIf pAssert pNew pLd pLdA pSt pStA pSome pIdx pPart pCall pCallV pAppend pExtend pGet pGetS pPut pNewObj pJoin pLoop pKeep fgt iter pFits pClear
section
variable {KP K : Value → Pr} {h : Heap} {x y n id what : Int} {M R : List Pr} {p q tot op : Nat} {a b next : Ab} {s t : St} {l : Sl} {no ok taken : Bool} {L : List Int} {i j : In} {D : List Mp} {dl : Sl} {c : Cl}
theorem takeF_fit {maps : List Int} {kind : Nat} {c' : Cl} (hD : ∀ d ∈ D, d.Fit) (cf : c.d.Fit) (e : takeF s maps D c kind a next = some c') : c'.d.Fit := by
  unfold takeF at e
  split at e
  · split at e
    · rename_i hq
      cases e
      show (D.getD a.what.toNat .nil).Fit
      have hw : a.what.toNat < D.length := by omega
      have e1 : D.getD a.what.toNat .nil = D[a.what.toNat] := by simp [List.getD, hw]
      rw [e1]; exact hD _ (List.getElem_mem hw)
    · cases e
  all_goals first
    | (split at e <;> cases e <;> exact cf)
    | (cases e; exact cf)
    | skip
  · split at e
    · rw [Option.map_eq_some_iff] at e
      obtain ⟨m, _, rfl⟩ := e
      exact cf
    · cases e
theorem path_ok {maps : List Int} {c0 : Cl} (e : argsF s maps D [5, 8, 7] 0 c0 = some c) : ∃ m n : Nat, c.buf = m ∧ c.n = n ∧ m + n ≤ 64 := by
  have e5 : ∀ c a next, takeF s maps D c 5 a next = (if a.plain 4 = true ∧ a.what = 2 then some c else none) := fun _ _ _ => rfl
  have e8 : ∀ c a next, takeF s maps D c 8 a next = (if a.kind = 2 ∧ 0 < constF next ∧ nearF a.lo = true then (stackAtF a.lo.toInt (constF next)).map fun (p : Nat) => (⟨c.m, c.d, c.n, (p : Int), c.rcd⟩ : Cl) else none) := fun _ _ _ => rfl
  have e7 : ∀ c a next, takeF s maps D c 7 a next = (if 0 < constF a then some ⟨c.m, c.d, constF a, c.buf, c.rcd⟩ else none) := fun _ _ _ => rfl
  simp only [argsF, e5, e8, e7] at e
  split at e
  · cases e
  split at e
  · cases e
  rename_i c1 h1
  split at h1
  · cases h1
    split at e
    · cases e
    split at e
    · cases e
    rename_i c2 h2
    split at h2
    · rw [Option.map_eq_some_iff] at h2
      obtain ⟨m, hm, rfl⟩ := h2
      split at e
      · cases e
      split at e
      · cases e
      rename_i c3 h3
      split at h3
      · cases h3
        cases e
        have q := stackAtF_lt hm
        have hc := constF_lt (a := s.reg (0 + 1 + 1 + 1))
        refine ⟨m, (constF (s.reg (0 + 1 + 1 + 1))).toNat, rfl, by show constF _ = _; omega, ?_⟩
        exact q.1
      · cases h3
    · cases h2
  · cases h1
def clearF (s : St) : Nat → St
  | 0 => s
  | j + 1 => (clearF s j).setReg (j + 1) .nil
theorem clearF_held (s : St) : ∀ j, (clearF s j).held = s.held
  | 0 => rfl
  | j + 1 => clearF_held s j
abbrev doesE : List (Value × Value) := [(.int .i64 1, fnV 67), (.int .i64 2, fnV 68), (.int .i64 3, fnV 68), (.int .i64 4, fnV 67), (.int .i64 5, fnV 67), (.int .i64 6, fnV 68), (.int .i64 7, fnV 68), (.int .i64 8, fnV 69), (.int .i64 9, fnV 70), (.int .i64 10, fnV 70), (.int .i64 11, fnV 68), (.int .i64 12, fnV 71), (.int .i64 13, fnV 72)]
set_option maxHeartbeats 1000000 in
theorem does_s (H : seps M h) (k : ∀ b h, seps (mapP b doesE :: M) h → K (.map (some b)) h) : WpCall Tryz.prog 39 #[] KP K h := by
  refine areg_does_call ?_
  simp only [areg_does]
  refine newM_c H fun mp h H => ?_
  repeat (refine put_c H (by kernel_rfl) fun h H => ?_)
  exact fgt_mk (k mp _ H)
/-- What a helper does, as a function's value. -/
theorem does_c (hs : s.held.length ≤ 1000000) (hid : 1 ≤ id ∧ id ≤ 13) (hpath : id = 12 → ∃ m n : Nat, c.buf = m ∧ c.n = n ∧ m + n ≤ 64) {b : Nat} {k : List Value → Pr} (H : seps (mapP b doesE :: rowP q (clC p id dl c) 11 :: rowP p (wkC s l false) 295 :: own 1 l (inC s.held) :: R) h)
    (kk : ∀ l' h, seps (rowP p (wkC (doesF id s c).2 l' false) 295 :: own 1 l' (inC (doesF id s c).2.held) :: R) h → k (doesF id s c).1.enc h) :
    pGetS (.int .i64) (some b) (.int .i64 id) .any .nilFunc (fun (x30 : Value) (b31 : Bool) => pCallV Tryz.prog x30 [(.pointer (some ⟨q, 0, none⟩))] KP (.one .agg) k) h := by
  refine getS_c H (by rfl) ?_
  simp only [GetAll]
  have slot : (doesF id s c) = (freshF s 5 c.m, s.up) → pCallV Tryz.prog (fnV 67) [(.pointer (some ⟨q, 0, none⟩))] KP (.one .agg) k h := fun e => by
    rw [e] at kk
    refine callV0_c (slot_s (R := mapP b doesE :: own 1 l (inC s.held) :: R) (pk [1, 2, 0, 3] H) fun h H => one1 (s := .agg) (x := (freshF s 5 c.m).enc) (kk l _ ?_))
    have H2 := row_out (R := own 1 l (inC s.held) :: R) p H
    exact H2
  have any : (doesF id s c) = (.ofNum .all, s) → pCallV Tryz.prog (fnV 68) [(.pointer (some ⟨q, 0, none⟩))] KP (.one .agg) k h := fun e => by
    rw [e] at kk
    refine callV0_c (any_s (one1 (s := .agg) (x := (Ab.ofNum .all).enc) (kk l _ ?_)))
    exact row_out (R := own 1 l (inC s.held) :: R) p H
  have ends : (doesF id s c) = (conF 0#64, endF s c.rcd) → pCallV Tryz.prog (fnV 70) [(.pointer (some ⟨q, 0, none⟩))] KP (.one .agg) k h := fun e => by
    rw [e] at kk
    refine callV0_c (end_s hs (R := mapP b doesE :: R) (pk [1, 2, 3, 0] H) fun l' h H => one1 (s := .agg) (x := (conF 0#64).enc) (kk l' _ ?_))
    have H2 := row_out (R := own 1 l' (inC (dropF s.held c.rcd)) :: R) p H
    exact H2
  refine ⟨fun e => ⟨_, rfl, slot (by subst e; rfl)⟩, fun n1 => ⟨fun e => ⟨_, rfl, any (by subst e; rfl)⟩, fun n2 => ⟨fun e => ⟨_, rfl, any (by subst e; rfl)⟩, fun n3 => ⟨fun e => ⟨_, rfl, slot (by subst e; rfl)⟩, fun n4 => ⟨fun e => ⟨_, rfl, slot (by subst e; rfl)⟩, fun n5 => ⟨fun e => ⟨_, rfl, any (by subst e; rfl)⟩, fun n6 => ⟨fun e => ⟨_, rfl, any (by subst e; rfl)⟩, fun n7 => ⟨fun e => ⟨_, rfl, ?_⟩, fun n8 => ⟨fun e => ⟨_, rfl, ends (by subst e; rfl)⟩, fun n9 => ⟨fun e => ⟨_, rfl, ends (by subst e; rfl)⟩, fun n10 => ⟨fun e => ⟨_, rfl, any (by subst e; rfl)⟩, fun n11 => ⟨fun e => ⟨_, rfl, ?_⟩, fun n12 => ⟨fun e => ⟨_, rfl, ?_⟩, fun n13 => absurd hid (by omega)⟩⟩⟩⟩⟩⟩⟩⟩⟩⟩⟩⟩⟩
  · subst e
    refine callV0_c (reserve_s hs (R := mapP b doesE :: R) (pk [1, 2, 3, 0] H) fun l' h H => one1 (s := .agg) (x := (freshF s 6 c.n).enc) (kk l' _ ?_))
    have H2 := row_out (R := own 1 l' (inC (s.held ++ [s.next])) :: R) p H
    exact H2
  · subst e
    obtain ⟨m, n, e1, e2, e3⟩ := hpath rfl
    have e : doesF 12 s c = (upToF (BitVec.ofInt 64 c.n), touchF s m n) := by
      show (upToF (BitVec.ofInt 64 c.n), touchF s c.buf.toNat c.n.toNat) = _
      rw [e1, e2]; rfl
    rw [e] at kk
    have tk : ∀ n (t : St) k, (touchF t k n).held = t.held := fun n => by
      induction n with
      | zero => intro t k; rfl
      | succ n ih => intro t k; show (touchF (touch1 t k) (k + 1) n).held = _; rw [ih]; rfl
    rw [tk] at kk
    refine callV0_c (path_s e1 e2 e3 (R := mapP b doesE :: own 1 l (inC s.held) :: R) (pk [1, 2, 0, 3] H) fun h H => one1 (s := .agg) (x := (upToF (BitVec.ofInt 64 c.n)).enc) (kk l _ ?_))
    exact row_out (R := own 1 l (inC s.held) :: R) p H
  · subst e
    have e : doesF 13 s c = (upToF 1#64, s) := rfl
    rw [e] at kk
    refine callV0_c (inside_s (one1 (s := .agg) (x := (upToF 1#64).enc) (kk l _ ?_)))
    exact row_out (R := own 1 l (inC s.held) :: R) p H
theorem helpF_some {r : List Nat × List Int} (er : helpF id = some r) : (1 ≤ id ∧ id ≤ 13) ∧ r.1.length ≤ 4 ∧ ∀ k ∈ r.1, 1 ≤ k ∧ k ≤ 9 := by
  unfold helpF at er
  split at er
  · rename_i hq
    refine ⟨hq, ?_⟩
    have all : ∀ j : Fin 14, (helpT.getD j.val ([], [])).1.length ≤ 4 ∧ ∀ k ∈ (helpT.getD j.val ([], [])).1, 1 ≤ k ∧ k ≤ 9 := by decide
    have h2 : helpT.getD id.toNat ([], []) = r := by rw [List.getD_eq_getElem?_getD, er]; rfl
    have := all ⟨id.toNat, by omega⟩
    rw [← h2]; exact this
  · cases er
theorem call_tf {b2 : Nat} {lw : Sl} {N : List Pr} [qq : Sub N M] (H : seps (rowP p (wkC t lw true) 295 :: rowP b2 (stC .zero ⟨none, 0, 0⟩) 294 :: N) h) (k : EndOk K M none) : (pCall Tryz.prog 26 [(.pointer (some ⟨p, 0, none⟩))] (fgt KP) (.many [.agg, .bool]) fun (r40 : (List Value) × Bool × Unit) => pStA 294 ⟨b2, 0, none⟩ r40.1 <| pLdA 294 ⟨b2, 0, none⟩ fun x41 => fgt K (.tuple [(.agg x41.toArray), (.bool r40.2.1)].toArray)) h := store_tf H k
set_option maxHeartbeats 1000000 in
theorem callA_s (hD : ∀ d ∈ D, d.Fit) (C : Ints l s.held h) (CD : ∀ {g}, seps M g → Maps dl D g) (H : seps M h) (k : EndOk K M (callF s id D)) : WpCall Tryz.prog 11 #[.agg (stC s l).toArray, .int .i64 id, .slice dl.base dl.len dl.cap] KP K h := by
  refine areg_Call_call (stC s l) id dl ?_
  have hs := C.small
  unfold callF at k
  simp only [areg_Call, zc_eq, add_mk, Nat.zero_add, Nat.add_zero]
  refine new_l H (stC_len _ _) fun b1 h le H => ?_
  have C := C.le le
  refine new_l H (stC_len _ _) fun b2 h le H => ?_
  have C := C.le le
  clear le
  refine ldA_c H (call_c (on_s C H fun p l' h H => one1 (s := .ptr) ?_))
  clear C
  have H := row_out (R := rowP b2 (stC .zero ⟨none, 0, 0⟩) 294 :: own 1 l' (inC s.held) :: M) p H
  refine call_c (pof_s H (fun r er nm sa sm ret h l1 l2 H => tup2 (s := .agg) (x := [.string nm, .slice sa.base sa.len sa.cap, .slice sm.base sm.len sm.cap, .int .u8 ret]) ?_) (fun er h H => tup2 (s := .agg) (x := [.string ⟨#[]⟩, .slice none 0 0, .slice none 0 0, .int .u8 0]) ?_))
  rotate_left
  · rw [er] at k
    dsimp only at k ⊢
    refine new_c (n := 4) H (by rfl) fun b6 h H => stA_c H (by rfl) fun h H => call_c ?_
    refine need_c H (fun h3 => absurd h3 (by simp)) (fun h3 h H => one1 (pIf_t (by rfl) ?_))
    have H2 := row_out (R := rowP b2 (stC .zero ⟨none, 0, 0⟩) 294 :: M) p H
    exact call_tf (M := M) (N := M) H2 k
  obtain ⟨hid, hr4, hr9⟩ := helpF_some er
  rw [er] at k
  dsimp only at k ⊢
  refine new_c (n := 4) H (by rfl) fun b6 h H => stA_c H (by rfl) fun h H => call_c ?_
  refine need_c H (fun h3 h H => one1 (pIf_f (by rfl) ?_)) (fun h3 => absurd h3 (by simp))
  rw [lay_eq]
  refine new_c (n := 11) H (by rfl) fun q h H => ld_c (s := .slice) (x := sa) H rfl ?_
  have H : seps (rowP q (clC p id dl ⟨0, .nil, 0, 0, 0⟩) 11 :: rowP p (wkC s l' false) 295 :: rowP b6 [.string nm, .slice sa.base sa.len sa.cap, .slice sm.base sm.len sm.cap, .int .u8 ret] 4 :: Hl.rd 1 sa (hbC r.1) :: Hl.rd 1 sm (inC r.2) :: rowP b2 (stC .zero ⟨none, 0, 0⟩) 294 :: own 1 l' (inC s.held) :: M) h := H
  have H : seps (rowP q (clC p id dl ⟨0, .nil, 0, 0, 0⟩) 11 :: rowP p (wkC s l' false) 295 :: Hl.rd 1 sa (hbC r.1) :: rowP b2 (stC .zero ⟨none, 0, 0⟩) 294 :: own 1 l' (inC s.held) :: M) h := row_out (R := rowP p (wkC s l' false) 295 :: Hl.rd 1 sa (hbC r.1) :: rowP b2 (stC .zero ⟨none, 0, 0⟩) 294 :: own 1 l' (inC s.held) :: M) q H
  generalize hres : argsF s r.2 D r.1 0 ⟨0, .nil, 0, 0, 0⟩ = res at k
  refine pLoop_rule (fun st g => ∃ (j : Nat) (c : Cl), j ≤ r.1.length ∧ st = ((j : Int), ()) ∧ c.d.Fit ∧ argsF s r.2 D (r.1.drop j) j c = res ∧ seps (rowP q (clC p id dl c) 11 :: rowP p (wkC s l' false) 295 :: Hl.rd 1 sa (hbC r.1) :: rowP b2 (stC .zero ⟨none, 0, 0⟩) 294 :: own 1 l' (inC s.held) :: M) g) (fun st => r.1.length - st.1.toNat) ?_ ⟨0, ⟨0, .nil, 0, 0, 0⟩, Nat.zero_le _, rfl, ⟨by decide, by decide⟩, hres, H⟩
  rintro st h k' ⟨j, c, hj, rfl, cf, ea, H⟩ kl
  dsimp only
  simp only [areg_Call_l3, areg_Call_j1, zc_eq, pJoin_eq, pSome_some, add_mk, Nat.zero_add, Nat.add_zero]
  have finN : ∀ (c' : Cl) h, res = none → seps (rowP q (clC p id dl c') 11 :: rowP p (wkC s l' true) 295 :: Hl.rd 1 sa (hbC r.1) :: rowP b2 (stC .zero ⟨none, 0, 0⟩) 294 :: own 1 l' (inC s.held) :: M) h → (pLd .bool ⟨p, 294, none⟩ fun (x26 : Bool) => pIf x26
      (pCall Tryz.prog 26 [(.pointer (some ⟨p, 0, none⟩))] (fgt KP) (.many [.agg, .bool]) fun (r27 : (List Value) × Bool × Unit) => pStA 294 ⟨b2, 0, none⟩ r27.1 <| pLdA 294 ⟨b2, 0, none⟩ fun x28 => fgt K (.tuple [(.agg x28.toArray), (.bool r27.2.1)].toArray))
      (k' ((IntKind.i64.wrap ((j : Int) + 1)), ()))) h := fun c' h e H => by
    rw [e] at k
    have H2 := row_out (R := rowP b2 (stC .zero ⟨none, 0, 0⟩) 294 :: M) p H
    refine ld_c H2 wk_no (pIf_t (by rfl) (call_tf (M := M) (N := M) H2 k))
  refine if_c (fun h1 => ?_) (fun h1 => ?_)
  · have hj : j < r.1.length := by omega
    have hd : r.1.drop j = r.1[j] :: r.1.drop (j + 1) := List.drop_eq_getElem_cons hj
    have e0 : r.1.getD j 0 = r.1[j] := by simp [List.getD, hj]
    have hkk := hr9 _ (List.getElem_mem hj)
    rw [hd] at ea
    unfold argsF at ea
    refine hb_ld (rd_at (pk [2] H)) l1 (i := j) rfl hj ?_
    rw [e0]
    rw [show IntKind.u8.wrap (IntKind.i64.wrap ((j : Int) + 1)) = ((j + 1 : Nat) : Int) by rw [wrap_small (by omega) (by omega), IntKind.wrap_u8]; omega]
    rw [show IntKind.i64.wrap ((j : Int) + 2) = ((j + 2 : Nat) : Int) by rw [wrap_small (by omega) (by omega)]; rfl]
    refine call_c (reg_c (m := j + 1) rfl (by omega) H (fun g1 g2 h H => one1 ?_) (fun g1 a h ha H => one1 ?_))
    · rw [if_neg g2] at ea
      refine new_c (n := 12) H (by rfl) fun b17 h H => stA_c H (by rfl) fun h H => ?_
      have H : seps (rowP b17 (s.reg (j + 1)).enc 12 :: rowP p (wkC s l' false) 295 :: rowP q (clC p id dl c) 11 :: Hl.rd 1 sa (hbC r.1) :: rowP b2 (stC .zero ⟨none, 0, 0⟩) 294 :: own 1 l' (inC s.held) :: M) h := H
      refine ld_c H wk_no (pIf_t (by rfl) (pIdx_i (by omega) (by omega) (ldA_c H ?_)))
      simp only [Int.toNat_natCast]
      refine ldA_c (c := wk_reg_cut (k := j + 2) (by omega)) H (call_c ?_)
      refine take_c (a := s.reg (j + 1)) (next := s.reg (j + 2)) (r := r) (R := rowP b17 (s.reg (j + 1)).enc 12 :: Hl.rd 1 sa (hbC r.1) :: rowP b2 (stC .zero ⟨none, 0, 0⟩) 294 :: own 1 l' (inC s.held) :: M) hkk er cf (fun H => CD (sub H)) (fun H => ints_own H hs) (pk [2, 1, 0] H) (fun c' ec h H => tup0 ?_) (fun ec c' h H => tup0 ?_)
      · rw [ec] at ea
        dsimp only at ea
        have H : seps (rowP q (clC p id dl c') 11 :: rowP p (wkC s l' false) 295 :: Hl.rd 1 sa (hbC r.1) :: rowP b2 (stC .zero ⟨none, 0, 0⟩) 294 :: own 1 l' (inC s.held) :: M) h := row_out (R := rowP p (wkC s l' false) 295 :: Hl.rd 1 sa (hbC r.1) :: rowP b2 (stC .zero ⟨none, 0, 0⟩) 294 :: own 1 l' (inC s.held) :: M) q H
        refine ld_c H wk_no (pIf_f (by rfl) ?_)
        rw [wrap_small (by omega) (by omega)]
        exact kl _ _ ⟨j + 1, c', by omega, rfl, takeF_fit hD cf ec, ea, H⟩ (by dsimp only; omega)
      · rw [ec] at ea
        dsimp only at ea
        exact finN c' _ ea.symm (row_out (R := rowP p (wkC s l' true) 295 :: Hl.rd 1 sa (hbC r.1) :: rowP b2 (stC .zero ⟨none, 0, 0⟩) 294 :: own 1 l' (inC s.held) :: M) q H)
    · rw [if_pos (by rcases g1 with g1 | g1; · omega
                     · exact g1)] at ea
      refine new_c (n := 12) H (by rfl) fun b17 h H => stA_c H (by rfl) fun h H => ?_
      refine ld_c H wk_no (pIf_f (by rfl) ?_)
      exact finN c _ ea.symm (row_out (R := rowP p (wkC s l' true) 295 :: Hl.rd 1 sa (hbC r.1) :: rowP b2 (stC .zero ⟨none, 0, 0⟩) 294 :: own 1 l' (inC s.held) :: M) q H)
  · have hjl : j = r.1.length := by omega
    subst hjl
    rw [List.drop_length] at ea
    unfold argsF at ea
    subst ea
    clear finN kl
    refine call_c (does_s H fun mp h H => one1 (s := .map) (x := some mp) ?_)
    refine does_c hs hid (fun e => ?_) (p := p) (l := l') (R := Hl.rd 1 sa (hbC r.1) :: rowP b2 (stC .zero ⟨none, 0, 0⟩) 294 :: M) (pk [0, 1, 2, 5, 3, 4] H) fun lw h H => ?_
    · subst e
      have e12 : helpF 12 = some ([5, 8, 7], []) := rfl
      rw [e12] at er
      cases er
      exact path_ok hres
    have k : EndOk K M (some (leaveF (doesF id s c).2 (doesF id s c).1)) := k
    generalize hdo : doesF id s c = X at k
    obtain ⟨out, t⟩ := X
    rw [hdo] at H
    dsimp only at H k ⊢
    have k : EndOk K M (some (leaveF t out)) := k
    refine new_c (n := 12) H (by rfl) fun b33 h H => stA_c H (by rfl) fun h H => ?_
    have H : seps (rowP p (wkC t lw false) 295 :: rowP b33 out.enc 12 :: own 1 lw (inC t.held) :: rowP b2 (stC .zero ⟨none, 0, 0⟩) 294 :: M) h := row_out (R := rowP b33 out.enc 12 :: own 1 lw (inC t.held) :: rowP b2 (stC .zero ⟨none, 0, 0⟩) 294 :: M) p H
    refine pLoop_rule (fun st g => ∃ j : Nat, j ≤ 5 ∧ st = (((j + 1 : Nat) : Int), ()) ∧ seps (rowP p (wkC (clearF t j) lw false) 295 :: rowP b33 out.enc 12 :: own 1 lw (inC t.held) :: rowP b2 (stC .zero ⟨none, 0, 0⟩) 294 :: M) g) (fun st => 6 - st.1.toNat) ?_ ⟨0, by omega, rfl, H⟩
    rintro st h k' ⟨j, hj, rfl, H⟩ kl
    dsimp only
    simp only [areg_Call_l2, zc_eq, lay_eq, pSome_some, add_mk, Nat.zero_add, Nat.add_zero]
    refine if_c (fun h1 => ?_) (fun h1 => ?_)
    · have hj : j < 5 := by omega
      refine pIdx_i (by omega) (by omega) ?_
      simp only [Int.toNat_natCast]
      refine stA_c (c := wk_reg_spl (k := j + 1) (a := .nil) (by omega)) H (by rfl) fun h H => ?_
      rw [wrap_small (by omega) (by omega)]
      exact kl _ _ ⟨j + 1, by omega, rfl, H⟩ (by dsimp only; omega)
    · have hj : j = 5 := by omega
      subst hj
      refine ldA_c H (pIdx_i (by decide) (by decide) ?_)
      refine stA_c (c := wk_reg_spl (k := 0) (a := out) (by decide)) H (by rfl) fun h H => ?_
      refine store_tt (M := M) (N := rowP b33 out.enc 12 :: M) (t := leaveF t out) (lw := lw) (L := t.held) rfl ?_ k
      exact row_out (R := rowP b2 (stC .zero ⟨none, 0, 0⟩) 294 :: own 1 lw (inC t.held) :: rowP b33 out.enc 12 :: M) p H
end
end Go.Proofs.YtpbhanglcophbaaGreat

set_option linter.unusedVariables false
set_option linter.unusedSimpArgs false
set_option linter.unnecessarySimpa false
namespace Go.Proofs.YtpbhanglcophbaaGreat
open Go.Hl
attribute [local irreducible] loadF zc sizeP bytesP vcBody pInvoke pIf pAssert pNew pLd pLdA pSt pStA pSome pIdx pPart pCall pCallV pAppend pExtend pGet pGetS pPut pNewObj pJoin pLoop pKeep fgt iter pFits pClear
section
variable {KP K : Value → Pr} {h : Heap} {x y n id what hook : Int} {M R : List Pr} {p q tot op : Nat} {a b next : Ab} {s t : St} {l l2 : Sl} {no ok taken : Bool} {L : List Int} {i j : In} {D : List Mp} {dl : Sl} {c : Cl}
theorem far_s (k : ∀ b, K (.bool b) h) : WpCall Tryz.prog 15 #[.agg a.enc.toArray] KP K h := by
  refine law19_far_call a.enc ?_
  have H := hstart h
  simp only [law19_far, law19_far_j1, pJoin_eq, add_mk, Nat.zero_add, Nat.add_zero]
  refine new_c (n := 12) H (by rfl) fun b h H => ?_
  repeat' (first | refine ld_c H rfl ?_ | refine pIf_i (fun _ => ?_) (fun _ => ?_) | exact back H (k _))
theorem great_s (kt : K (.bool true) h) (kf : l.len ≤ 60 → dl.len ≤ 60 → K (.bool false) h) : WpCall Tryz.prog 5 #[.agg (stC s l).toArray, .slice dl.base dl.len dl.cap] KP K h := by
  refine law19_great_call (stC s l) dl ?_
  have H := hstart h
  simp only [law19_great, pJoin_eq, add_mk, Nat.zero_add, Nat.add_zero]
  refine new_c (n := 294) H (stC_len _ _) fun b1 h H => ld_c (s := .slice) (x := l) H st_held ?_
  have j2t : law19_great_j2 (fgt KP) (fgt K) b1 true h := by
    unfold law19_great_j2
    exact pIf_t (by rfl) (back H kt)
  refine if_c (fun h1 => j2t) (fun h1 => ?_)
  by_cases h2 : dl.len ≤ 60
  rotate_left
  · rw [decide_eq_true (by omega)]; exact j2t
  rw [decide_eq_false (by omega)]
  have kf := kf (by omega) h2
  unfold law19_great_j2
  refine pIf_f (by rfl) ?_
  refine pLoop_rule (fun st g => ∃ j : Nat, j ≤ 11 ∧ st = ((j : Int), ()) ∧ seps [rowP b1 (stC s l) 294, was _] g) (fun st => 11 - st.1.toNat) ?_ ⟨0, by omega, rfl, H⟩
  rintro st g k' ⟨j, hj, rfl, H⟩ kl
  dsimp only
  simp only [law19_great_l1, add_mk, Nat.zero_add, Nat.add_zero]
  refine if_c (fun h1 => ?_) (fun h1 => back H kf)
  have hj : j < 11 := by omega
  simp only [Int.toNat_natCast]
  refine pIdx_i (by omega) (by omega) (ldA_c (c := st_reg_cut hj) H (call_c (far_s fun b => one1 (s := .bool) (x := b) ?_)))
  cases b
  · refine pIf_f (by rfl) ?_
    rw [wrap_small (by omega) (by omega)]
    exact kl _ _ ⟨j + 1, by omega, rfl, H⟩ (by dsimp only; omega)
  · exact pIf_t (by rfl) (back H kt)
theorem copy_s (C : Ints l s.held h) (H : seps M h) (k : ∀ l' h', seps (own 1 l' (inC s.held) :: M) h' → K (.agg (stC s l').toArray) h') : WpCall Tryz.prog 6 #[.agg (stC s l).toArray] KP K h := by
  refine ref19_Copy_call (stC s l) ?_
  have hl := C.len
  have hs := C.small
  simp only [ref19_Copy, zc_eq, add_mk, Nat.zero_add, Nat.add_zero]
  refine new_l H (stC_len _ _) fun b1 h le H => ?_
  have C := C.le le
  refine new_l H (stC_len _ _) fun b2 h le H => ?_
  have C := C.le le
  refine new_l (n := 0) H (by rfl) fun b3 h le H => ?_
  have C := C.le le
  refine ld_c (s := .slice) (x := l) H st_held ?_
  have o : seps (own 1 ⟨some ⟨b3, 0, none⟩, 0, 0⟩ [] :: rowP b2 (stC .zero ⟨none, 0, 0⟩) 294 :: rowP b1 (stC s l) 294 :: M) h := seps_imp (fun g hg => ⟨rfl, Nat.le_refl _, .inr ⟨b3, [], 0, rfl, hg, Nat.le_refl _⟩⟩) H
  refine append_sepE (bytes := 8) o C.vals (show (0 + l.len) * 8 ≤ 140737488355328 by omega) (ones_in s.held) fun l' h H e => ?_
  have H : seps (own 1 l' (inC s.held) :: rowP b2 (stC .zero ⟨none, 0, 0⟩) 294 :: rowP b1 (stC s l) 294 :: M) h := by simpa using H
  refine st_c H fun h H => ldA_c H (stA_c H (stC_len _ _) fun h H => ldA_c H (fgt_mk (k l' _ ?_)))
  exact sub H
theorem eqCells_self : ∀ (l : List Value), (∀ v ∈ l, eqv v v = true) → eqCells l l = true
  | [], _ => rfl
  | a :: l, h => by
    show (eqv a a && eqCells l l) = true
    rw [h a (by simp), eqCells_self l (fun v hv => h v (by simp [hv]))]; rfl
theorem enc_eqv (a : Ab) : ∀ v ∈ a.enc, eqv v v = true := by
  intro v hv
  simp only [List.mem_cons, List.not_mem_nil, or_false] at hv
  rcases hv with rfl | rfl | rfl | rfl | rfl | rfl | rfl | rfl | rfl | rfl | rfl | rfl <;> simp [eqv]
theorem penc_eqv (a : Pl) : ∀ v ∈ a.enc, eqv v v = true := by
  intro v hv
  unfold Pl.enc at hv
  rcases List.mem_append.1 hv with hv | hv
  · exact enc_eqv _ v hv
  · simp only [List.mem_cons, List.not_mem_nil, or_false] at hv
    rcases hv with rfl | rfl | rfl | rfl | rfl | rfl | rfl | rfl <;> simp [eqv]
theorem regC_eq (r : Regs) : eqCells (regC r) (regC r) = true := eqCells_self _ fun v hv => by
  obtain ⟨a, _, ha⟩ := List.mem_flatMap.1 hv
  exact enc_eqv a v ha
theorem plC_eq (r : Pls) : eqCells (plC r) (plC r) = true := eqCells_self _ fun v hv => by
  obtain ⟨a, _, ha⟩ := List.mem_flatMap.1 hv
  exact penc_eqv a v ha
theorem regs11 (r : Regs) : ∃ a0 a1 a2 a3 a4 a5 a6 a7 a8 a9 a10, r.l = [a0, a1, a2, a3, a4, a5, a6, a7, a8, a9, a10] := by
  obtain ⟨l, hl⟩ := r
  match l, hl with
  | [a0, a1, a2, a3, a4, a5, a6, a7, a8, a9, a10], _ => exact ⟨_, _, _, _, _, _, _, _, _, _, _, rfl⟩
theorem pls8 (r : Pls) : ∃ a0 a1 a2 a3 a4 a5 a6 a7, r.l = [a0, a1, a2, a3, a4, a5, a6, a7] := by
  obtain ⟨l, hl⟩ := r
  match l, hl with
  | [a0, a1, a2, a3, a4, a5, a6, a7], _ => exact ⟨_, _, _, _, _, _, _, _, rfl⟩
theorem st_regs_cut : Cut (stC s l) 0 132 (regC s.regs) := ⟨by
  have := cut_mid (A := []) (X := regC s.regs) (B := plC s.pls ++ [.slice l.base l.len l.cap, .int .i64 s.next]) (k := 0) (n := 132) rfl (regC_len _)
  exact this⟩
theorem st_pls_cut : Cut (stC s l) 132 160 (plC s.pls) := ⟨cut_mid (regC_len _) (plC_len _)⟩
theorem same_true (C : Ints l s.held h) (C2 : Ints l2 s.held h) (k : K (.bool true) h) : WpCall Tryz.prog 13 #[.agg (stC s l).toArray, .agg (stC s l2).toArray] KP K h := by
  refine ref19_Same_call (stC s l) (stC s l2) ?_
  have H := hstart h
  have hs := C.small
  simp only [ref19_Same, add_mk, Nat.zero_add, Nat.add_zero]
  refine new_c (n := 294) H (stC_len _ _) fun b1 g H => new_c (n := 294) H (stC_len _ _) fun b2 g H => ld_c (s := .slice) (x := l) H st_held (ld_c (s := .slice) (x := l2) H st_held ?_)
  refine pIf_f (by rw [C.len, C2.len]; simp) ?_
  refine pLoop_rule (fun st g => ∃ j : Nat, j ≤ s.held.length ∧ st = ((j : Int), ()) ∧ seps [rowP b2 (stC s l2) 294, rowP b1 (stC s l) 294, was h] g) (fun st => s.held.length - st.1.toNat) ?_ ⟨0, by omega, rfl, H⟩
  rintro st g k' ⟨j, hj, rfl, H⟩ kl
  dsimp only
  simp only [ref19_Same_l2, ref19_Same_j1, pJoin_eq, add_mk, Nat.zero_add, Nat.add_zero]
  refine ld_c (s := .slice) (x := l) H st_held ?_
  have I1 := C.le (Was.out H)
  have I2 := C2.le (Was.out H)
  refine pIf_i (fun h1 => ?_) (fun h1 => ?_)
  · rw [decide_eq_true_eq, C.len] at h1
    have hj : j < s.held.length := by omega
    refine ld_c (s := .slice) (x := l) H st_held (I1.ld (i := j) rfl hj (ld_c (s := .slice) (x := l2) H st_held (I2.ld (i := j) rfl hj ?_)))
    refine pIf_f (by simp) ?_
    rw [wrap_small (by omega) (by omega)]
    exact kl _ _ ⟨j + 1, by omega, rfl, H⟩ (by dsimp only; omega)
  · refine ldA_c (c := st_regs_cut) H (ldA_c (c := st_regs_cut) H (pAssert_i ?_ (pIf_t (regC_eq _) (ldA_c (c := st_pls_cut) H (ldA_c (c := st_pls_cut) H (pAssert_i ?_ (pIf_t (plC_eq _) (ld_c (s := .int .i64) (x := s.next) H st_next (ld_c (s := .int .i64) (x := s.next) H st_next (back H (kbool (by simp) k)))))))))))
    · obtain ⟨a0, a1, a2, a3, a4, a5, a6, a7, a8, a9, a10, hr⟩ := regs11 s.regs
      unfold regC
      rw [hr]
      exact ⟨rfl, rfl⟩
    · obtain ⟨a0, a1, a2, a3, a4, a5, a6, a7, hr⟩ := pls8 s.pls
      unfold plC
      rw [hr]
      exact ⟨rfl, rfl⟩
theorem endOk_any {o : Option St} (k : ∀ (t : St) (l : Sl) ok h, seps M h → K (tellV t l ok) h) : EndOk K M o := by
  cases o with
  | none => exact fun h H => k _ _ _ h H
  | some t => exact fun l' h H => k _ _ _ h (seps_tail H)
theorem endJ_any {o : Option (Option St)} (k : ∀ (t : St) (l : Sl) may ok h, seps M h → K (jmpV t l may ok) h) : EndJ K M o := by
  cases o with
  | none => exact fun h H => k _ _ _ _ h H
  | some o => cases o with
    | none => exact fun h H => k _ _ _ _ h H
    | some t => exact fun l' h H => k _ _ _ _ h (seps_tail H)
theorem endOk_some {o : Option St} (e : o.isSome = true) (k : ∀ l' h, seps (own 1 l' (inC (o.getD .zero).held) :: M) h → K (tellV (o.getD .zero) l' true) h) : EndOk K M o := by
  cases o with
  | none => cases e
  | some t => exact k
theorem endOk_none {o : Option St} (e : o.isSome = false) (k : ∀ h, seps M h → K noV h) : EndOk K M o := by
  cases o with
  | none => exact k
  | some t => cases e
end
end Go.Proofs.YtpbhanglcophbaaGreat

set_option linter.unusedVariables false
set_option linter.unusedSimpArgs false
set_option linter.unnecessarySimpa false
namespace Go.Proofs.YtpbhanglcophbaaGreat
open Go.Hl
attribute [local irreducible] loadF zc sizeP bytesP vcBody pInvoke pIf pAssert pNew pLd pLdA pSt pStA pSome pIdx pPart pCall pCallV pAppend pExtend pGet pGetS pPut pNewObj pJoin pLoop pKeep fgt iter pFits pClear
section
variable {KP K : Value → Pr} {h g : Heap} {x y n id what hook : Int} {M R : List Pr} {p q tot op b1 : Nat} {a b next : Ab} {s t : St} {l l2 : Sl} {no ok taken : Bool} {L : List Int} {i j : In} {D : List Mp} {dl : Sl} {c : Cl}
theorem reps1 (l : List Value) : reps 1 l = l := by unfold reps; simp
def alD : List Mp := [⟨1, 4, 8, 1⟩]
def al1 : St := (storeF .begin ⟨98, 10, 0, -4, 0⟩ alD).getD .zero
def al2 : St := wideSt al1 ⟨24, 1, 1, 0, 0⟩ ⟨0, 0, 0, 0, 0⟩
def al3 : St := (opF al2 ⟨191, 2, 10, 0, 0⟩).getD .zero
def al4 : St := (opF al3 ⟨7, 2, 0, 0, -4⟩).getD .zero
def al5 : St := (callF al4 1 alD).getD .zero
def al6 : St := ((jumpSt al5 ⟨21, 0, 0, 0, 0⟩ false).getD none).getD .zero
theorem e1 : (storeF .begin ⟨98, 10, 0, -4, 0⟩ alD).isSome = true := by kernel_rfl
theorem e3 : (opF al2 ⟨191, 2, 10, 0, 0⟩).isSome = true := by kernel_rfl
theorem e4 : (opF al3 ⟨7, 2, 0, 0, -4⟩).isSome = true := by kernel_rfl
theorem e5 : (callF al4 1 alD).isSome = true := by kernel_rfl
theorem e6 : ((jumpSt al5 ⟨21, 0, 0, 0, 0⟩ false).getD none).isSome = true := by kernel_rfl
theorem e7 : (loadF' al5 ⟨121, 3, 0, 0, 0⟩ 1 alD).isSome = false := by kernel_rfl
theorem e8 : (loadF' al6 ⟨121, 3, 0, 0, 0⟩ 1 alD).isSome = true := by kernel_rfl
theorem e9 : ((al5.reg 0).kind, (al5.reg 0).null) = (5, true) := by kernel_rfl
theorem endJ_some {o : Option (Option St)} (e : (o.getD none).isSome = true) (k : ∀ l' h, seps (own 1 l' (inC ((o.getD none).getD .zero).held) :: M) h → K (jmpV ((o.getD none).getD .zero) l' true true) h) : EndJ K M o := by
  cases o with
  | none => cases e
  | some o => cases o with
    | none => cases e
    | some t => exact k
theorem ints_nil : Ints ⟨none, 0, 0⟩ [] h := ⟨.inl ⟨rfl, rfl⟩, rfl, Nat.zero_le _⟩
theorem alD_fit : ∀ d ∈ alD, d.Fit := fun d hd => by
  rw [List.mem_singleton.1 hd]
  exact ⟨by decide, by decide⟩
abbrev alC : List Value := [.int .i64 1, .int .i64 4, .int .i64 8, .int .i64 1]
theorem alD_maps [i : Pick M (.blk b1) (rowP b1 alC 4) R] (H : seps M g) : Maps ⟨some ⟨b1, 0, none⟩, 1, 1⟩ alD g := by
  refine ⟨.inr ?_, rfl, by decide⟩
  show Heap.vals _ _ _ = _
  rw [vals_row (row_at (i.out H))]
  rfl
theorem aok (op dst src : Nat) (off imm : Int) (h1 : decide (op < 256 ∧ dst < 256 ∧ src < 256 ∧ (-32768 ≤ off ∧ off < 32768) ∧ (-2147483648 ≤ imm ∧ imm < 2147483648)) = true) : In.Ok ⟨op, dst, src, off, imm⟩ := by
  rw [decide_eq_true_eq] at h1
  exact ⟨h1.1, h1.2.1, h1.2.2.1, h1.2.2.2.1, h1.2.2.2.2⟩
theorem held_small {t : St} (e : Nat.ble t.held.length 1000000 = true) : t.held.length ≤ 1000000 := Nat.le_of_ble_eq_true e
set_option maxHeartbeats 1000000 in
theorem alive19_s (k : K (.bool true) h) : WpCall Tryz.prog 4 #[] KP K h := by
  refine law19_alive_call ?_
  have H := hstart h
  simp only [law19_alive, zc_eq, lay_eq, reps1, pJoin_eq, add_mk, Nat.zero_add, Nat.add_zero]
  refine pAssert_i (by rfl) (new_c (n := 4) H (by rfl) fun b1 g H => call_c (begin_s (one1 (s := .agg) (x := stC .begin ⟨none, 0, 0⟩) ?_)))
  refine new_c (n := 294) H (stC_len _ _) fun b3 g H => stA_c H (stC_len _ _) fun g H => ldA_c H (call_c ?_)
  have H : seps (rowP b3 (stC .begin ⟨none, 0, 0⟩) 294 :: rowP b1 alC 4 :: [was h]) g := H
  refine storeA_s (s := .begin) (l := ⟨none, 0, 0⟩) (i := ⟨98, 10, 0, -4, 0⟩) (D := alD) (dl := ⟨some ⟨b1, 0, none⟩, 1, 1⟩) (aok _ _ _ _ _ (by decide)) ints_nil (fun H => alD_maps H) H (endOk_some e1 fun l1 g H => tup2 (s := .agg) (x := stC al1 l1) ?_)
  have H : seps (own 1 l1 (inC al1.held) :: rowP b3 (stC .begin ⟨none, 0, 0⟩) 294 :: rowP b1 alC 4 :: [was h]) g := H
  dsimp only
  refine stA_c H (stC_len _ _) fun g H => ldA_c H (call_c ?_)
  have H : seps (rowP b3 (stC al1 l1) 294 :: own 1 l1 (inC al1.held) :: rowP b1 alC 4 :: [was h]) g := H
  refine wideA_s (s := al1) (l := l1) (i := ⟨24, 1, 1, 0, 0⟩) (j := ⟨0, 0, 0, 0, 0⟩) (aok _ _ _ _ _ (by decide)) (ints_own H (held_small (by kernel_rfl))) H fun l2 g H => one1 (s := .agg) (x := stC al2 l2) ?_
  have H : seps (own 1 l2 (inC al2.held) :: rowP b3 (stC al1 l1) 294 :: own 1 l1 (inC al1.held) :: rowP b1 alC 4 :: [was h]) g := H
  refine stA_c H (stC_len _ _) fun g H => ldA_c H (call_c ?_)
  have H : seps (rowP b3 (stC al2 l2) 294 :: own 1 l2 (inC al2.held) :: own 1 l1 (inC al1.held) :: rowP b1 alC 4 :: [was h]) g := H
  have H : seps (rowP b3 (stC al2 l2) 294 :: own 1 l2 (inC al2.held) :: rowP b1 alC 4 :: [was h]) g := sub H
  refine opA_s (s := al2) (l := l2) (i := ⟨191, 2, 10, 0, 0⟩) (aok _ _ _ _ _ (by decide)) (ints_own H (held_small (by kernel_rfl))) H (endOk_some e3 fun l3 g H => tup2 (s := .agg) (x := stC al3 l3) ?_)
  have H : seps (own 1 l3 (inC al3.held) :: rowP b3 (stC al2 l2) 294 :: own 1 l2 (inC al2.held) :: rowP b1 alC 4 :: [was h]) g := H
  have H : seps (own 1 l3 (inC al3.held) :: rowP b3 (stC al2 l2) 294 :: rowP b1 alC 4 :: [was h]) g := sub H
  dsimp only
  refine stA_c H (stC_len _ _) fun g H => ldA_c H (call_c ?_)
  have H : seps (rowP b3 (stC al3 l3) 294 :: own 1 l3 (inC al3.held) :: rowP b1 alC 4 :: [was h]) g := H
  refine opA_s (s := al3) (l := l3) (i := ⟨7, 2, 0, 0, -4⟩) (aok _ _ _ _ _ (by decide)) (ints_own H (held_small (by kernel_rfl))) H (endOk_some e4 fun l4 g H => tup2 (s := .agg) (x := stC al4 l4) ?_)
  have H : seps (own 1 l4 (inC al4.held) :: rowP b3 (stC al3 l3) 294 :: own 1 l3 (inC al3.held) :: rowP b1 alC 4 :: [was h]) g := H
  have H : seps (own 1 l4 (inC al4.held) :: rowP b3 (stC al3 l3) 294 :: rowP b1 alC 4 :: [was h]) g := sub H
  dsimp only
  refine stA_c H (stC_len _ _) fun g H => ldA_c H (call_c ?_)
  have H : seps (rowP b3 (stC al4 l4) 294 :: own 1 l4 (inC al4.held) :: rowP b1 alC 4 :: [was h]) g := H
  refine callA_s (s := al4) (l := l4) (id := 1) (D := alD) (dl := ⟨some ⟨b1, 0, none⟩, 1, 1⟩) alD_fit (ints_own H (held_small (by kernel_rfl))) (fun H => alD_maps H) H (endOk_some e5 fun l5 g H => tup2 (s := .agg) (x := stC al5 l5) ?_)
  have H : seps (own 1 l5 (inC al5.held) :: rowP b3 (stC al4 l4) 294 :: own 1 l4 (inC al4.held) :: rowP b1 alC 4 :: [was h]) g := H
  have H : seps (own 1 l5 (inC al5.held) :: rowP b3 (stC al4 l4) 294 :: rowP b1 alC 4 :: [was h]) g := sub H
  dsimp only
  refine stA_c H (stC_len _ _) fun g H => pIf_f (by rfl) (pIf_f (by rfl) (pIf_f (by rfl) (pIf_f (by rfl) (pIdx_i (by decide) (by decide) ?_))))
  have H : seps (rowP b3 (stC al5 l5) 294 :: own 1 l5 (inC al5.held) :: rowP b1 alC 4 :: [was h]) g := H
  have r0 : ∀ j v, j < 12 → (al5.reg 0).enc[j]? = v → (stC al5 l5)[j]? = v := fun j v hj e => by rw [← e]; have := st_reg_get (s := al5) (l := l5) (k := 0) (j := j) (by omega) hj; rw [Nat.zero_mul, Nat.zero_add] at this; exact this
  have k5 : (al5.reg 0).kind = 5 := congrArg Prod.fst e9
  have k6 : (al5.reg 0).null = true := congrArg Prod.snd e9
  refine ld_c (s := .int .i64) (x := (al5.reg 0).kind) (k := 0) H (r0 0 _ (by omega) rfl) ?_
  rw [k5]
  refine pIf_f (by rfl) (pIdx_i (by decide) (by decide) (ld_c (s := .bool) (x := (al5.reg 0).null) (k := 10) H (r0 10 _ (by omega) rfl) ?_))
  rw [k6]
  simp only [law19_alive_j2, law19_alive_j1, zc_eq, lay_eq, pJoin_eq, add_mk, Nat.zero_add, Nat.add_zero]
  refine pIf_f (by rfl) (new_c (n := 5) H (by rfl) fun b18 g H => stA_c H (by rfl) fun g H => ldA_c H (ldA_c H (call_c ?_)))
  have H : seps (rowP b18 (In.enc ⟨121, 3, 0, 0, 0⟩) 5 :: rowP b3 (stC al5 l5) 294 :: own 1 l5 (inC al5.held) :: rowP b1 alC 4 :: [was h]) g := H
  refine loadA_s (s := al5) (l := l5) (i := ⟨121, 3, 0, 0, 0⟩) (hook := 1) (D := alD) (dl := ⟨some ⟨b1, 0, none⟩, 1, 1⟩) (aok _ _ _ _ _ (by decide)) (ints_own H (held_small (by kernel_rfl))) (fun H => alD_maps H) H (endOk_none e7 fun g H => tup2 (s := .agg) (x := stC .zero ⟨none, 0, 0⟩) ?_)
  dsimp only
  refine new_c (n := 294) H (stC_len _ _) fun b22 g H => stA_c H (stC_len _ _) fun g H => ldA_c H (call_c ?_)
  have H : seps (rowP b22 (stC .zero ⟨none, 0, 0⟩) 294 :: rowP b18 (In.enc ⟨121, 3, 0, 0, 0⟩) 5 :: rowP b3 (stC al5 l5) 294 :: own 1 l5 (inC al5.held) :: rowP b1 alC 4 :: [was h]) g := H
  refine jumpA_s (s := al5) (l := l5) (i := ⟨21, 0, 0, 0, 0⟩) (taken := false) (aok _ _ _ _ _ (by decide)) (ints_own H (held_small (by kernel_rfl))) H (endJ_some e6 fun l6 g H => tup3 (s := .agg) (x := stC al6 l6) ?_)
  have H : seps (own 1 l6 (inC al6.held) :: rowP b22 (stC .zero ⟨none, 0, 0⟩) 294 :: rowP b18 (In.enc ⟨121, 3, 0, 0, 0⟩) 5 :: rowP b3 (stC al5 l5) 294 :: own 1 l5 (inC al5.held) :: rowP b1 alC 4 :: [was h]) g := H
  have H : seps (own 1 l6 (inC al6.held) :: rowP b18 (In.enc ⟨121, 3, 0, 0, 0⟩) 5 :: rowP b1 alC 4 :: [was h]) g := sub H
  dsimp only
  refine new_c (n := 294) H (stC_len _ _) fun b25 g H => stA_c H (stC_len _ _) fun g H => ldA_c H (ldA_c H (call_c ?_))
  have H : seps (rowP b25 (stC al6 l6) 294 :: own 1 l6 (inC al6.held) :: rowP b18 (In.enc ⟨121, 3, 0, 0, 0⟩) 5 :: rowP b1 alC 4 :: [was h]) g := H
  refine loadA_s (s := al6) (l := l6) (i := ⟨121, 3, 0, 0, 0⟩) (hook := 1) (D := alD) (dl := ⟨some ⟨b1, 0, none⟩, 1, 1⟩) (aok _ _ _ _ _ (by decide)) (ints_own H (held_small (by kernel_rfl))) (fun H => alD_maps H) H (endOk_some e8 fun l8 g H => tup2 (s := .agg) (x := stC _ l8) ?_)
  dsimp only
  refine new_c (n := 294) H (stC_len _ _) fun b29 g H => stA_c H (stC_len _ _) fun g H => pIf_t (by rfl) (pIf_t (by rfl) (pIf_t (by rfl) (back H k)))
set_option maxHeartbeats 1000000 in
theorem aregOwn_law (oi : i.Ok) (hl : l.valsE 1 h (inC s.held)) (hll : l.len = s.held.length) (hd : dl.valsE 4 h (mpC D)) (hdl : dl.len = D.length) (hD : ∀ d ∈ D, d.Fit) (k : K (.bool true) h) : WpCall Tryz.prog 3 #[.agg (stC s l).toArray, .agg i.enc.toArray, .int .i64 id, .int .i64 hook, .slice dl.base dl.len dl.cap] KP K h := by
  refine law19_AregOwn_call (stC s l) i.enc id hook dl ?_
  have H := hstart h
  simp only [law19_AregOwn, law19_AregOwn_j1, zc_eq, lay_eq, pJoin_eq, add_mk, Nat.zero_add, Nat.add_zero]
  refine new_c (n := 294) H (stC_len _ _) fun b1 g H => new_c (n := 5) H (by rfl) fun b2 g H => call_c (alive19_s (one1 (s := .bool) (x := true) (pIf_f (by rfl) (ldA_c H (call_c (great_s (one1 (s := .bool) (x := true) (pIf_t (by rfl) (back H k))) (fun g1 g2 => one1 (s := .bool) (x := false) (pIf_f (by rfl) (ldA_c H (call_c ?_))))))))))
  have C : Ints l s.held h := ⟨hl, hll, by omega⟩
  have D0 : Maps dl D h := ⟨hd, hdl, by omega⟩
  refine copy_s (s := s) (l := l) (C.le (Was.out H)) H fun l2 g H => one1 (s := .agg) (x := stC s l2) ?_
  refine new_c (n := 294) H (stC_len _ _) fun b8 g H => stA_c H (stC_len _ _) fun g H => ?_
  have H : seps (rowP b8 (stC s l2) 294 :: own 1 l2 (inC s.held) :: rowP b2 i.enc 5 :: rowP b1 (stC s l) 294 :: [was h]) g := H
  refine ldA_c H (ldA_c H (call_c (opA_s (s := s) (l := l) oi (C.le (Was.out H)) H (endOk_any fun t lt ok g H => tup2 (s := .agg) (x := stC t lt) ?_))))
  refine ldA_c H (ldA_c H (call_c (loadA_s (s := s) (l := l) (D := D) oi (C.le (Was.out H)) (fun H => D0.le (Was.out H)) H (endOk_any fun t lt ok g H => tup2 (s := .agg) (x := stC t lt) ?_))))
  refine ldA_c H (ldA_c H (call_c (storeA_s (s := s) (l := l) (D := D) oi (C.le (Was.out H)) (fun H => D0.le (Was.out H)) H (endOk_any fun t lt ok g H => tup2 (s := .agg) (x := stC t lt) ?_))))
  refine ldA_c H (ldA_c H (call_c (jumpA_s (s := s) (l := l) oi (C.le (Was.out H)) H (endJ_any fun t lt may ok g H => tup3 (s := .agg) (x := stC t lt) ?_))))
  refine ldA_c H (call_c (callA_s (s := s) (l := l) (D := D) hD (C.le (Was.out H)) (fun H => D0.le (Was.out H)) H (endOk_any fun t lt ok g H => tup2 (s := .agg) (x := stC t lt) ?_)))
  refine call_c (begin_s (one1 (s := .agg) (x := stC .begin ⟨none, 0, 0⟩) ?_))
  refine new_c (n := 294) H (stC_len _ _) fun b24 g H => stA_c H (stC_len _ _) fun g H => new_c (n := 294) H (stC_len _ _) fun b25 g H => stA_c H (stC_len _ _) fun g H => pIdx_i (by decide) (by decide) ?_
  refine st_c (c := st_reg_put (k := 1) (j := 0) (a := ⟨3, .zero, 0#64, 0#64, 0, false, 0⟩) (by decide) (by decide) (by rfl)) H fun g H => pIdx_i (by decide) (by decide) ?_
  refine st_c (c := st_reg_put (k := 10) (j := 0) (a := ⟨2, .zero, 0#64, 0#64, 0, false, 0⟩) (by decide) (by decide) (by rfl)) H fun g H => ?_
  have H : seps (rowP b25 (stC .begin ⟨none, 0, 0⟩) 294 :: rowP b24 (stC .begin ⟨none, 0, 0⟩) 294 :: rowP b8 (stC s l2) 294 :: own 1 l2 (inC s.held) :: rowP b2 i.enc 5 :: rowP b1 (stC s l) 294 :: [was h]) g := H
  refine ldA_c H (ldA_c H (call_c (same_true (s := s) (C.le (Was.out H)) (ints_own H C.small) (one1 (s := .bool) (x := true) (pIf_t (by rfl) (ldA_c H (ldA_c H (call_c (same_true (s := .begin) ints_nil ints_nil (one1 (s := .bool) (x := true) (back H k)))))))))))
end
end Go.Proofs.YtpbhanglcophbaaGreat
