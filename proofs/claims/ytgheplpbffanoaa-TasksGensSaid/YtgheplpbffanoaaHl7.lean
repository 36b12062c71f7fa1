/- The heap logic: each operation by its class. -/
import Derived.Test.YtgheplpbffanoaaHl6
namespace Go.Hl
section
variable {P : Program} {o : Oper} {e : Operand → EV} {KP k : Value → Pr} {h : Heap}

theorem eq_ptr_nil {t el : TypeId} (hu : P.underlying t = some (.pointer el)) (d : Nat) (a : Option Addr) (w : World) : (Op.equalIn (d + 1) t (.pointer a) (.pointer none)).run P w = .ok a.isNone w := by
  cases a <;> simp [Op.equalIn, run_underlying hu]
theorem eq_slice_nil {t el : TypeId} (hu : P.underlying t = some (.slice el)) (d : Nat) (a : Option Addr) (n c n' c' : Nat) (w : World) : (Op.equalIn (d + 1) t (.slice a n c) (.slice none n' c')).run P w = .ok a.isNone w := by
  cases a <;> simp [Op.equalIn, run_underlying hu]
theorem eq_map_nil {t kt et : TypeId} (hu : P.underlying t = some (.map kt et)) (d : Nat) (a : Option Nat) (w : World) : (Op.equalIn (d + 1) t (.map a) (.map none)).run P w = .ok a.isNone w := by
  cases a <;> simp [Op.equalIn, run_underlying hu]

theorem nil_bin {op : BinOp} {t u : TypeId} {x y : Operand} (ho : o.op = .binOp op t x y u) {vx vy : Value} (hx : (e x).get = some vx) (hy : (e y).get = some vy) {d : TypeDesc} (hu : P.underlying t = some d)
    (s : (match op with | .eql => nilTest d vx vy fun b => k (.bool b) | .neq => nilTest d vx vy fun b => k (.bool (!b)) | _ => F) h) : SemP P o e k h := by
  have key : ∀ {kb : Bool → Pr}, nilTest d vx vy kb h → ∃ r : Bool, kb r h ∧ (∀ w, (Op.equal t vx vy).run P w = .ok r w) ∧ (∀ c, vx ≠ .agg c) ∧ vx ≠ .nilIface ∧ (∀ k n, vx ≠ .int k n) ∧ (∀ s, vx ≠ .string s) ∧ (∀ k n, vx ≠ .float k n) ∧ (∀ k n m, vx ≠ .complex k n m) := by
    intro kb s
    unfold nilTest at s
    cases d <;> try exact s.elim
    case pointer el =>
      cases vx <;> try exact s.elim
      rename_i a
      cases vy <;> try exact s.elim
      rename_i b
      cases b with
      | some _ => exact s.elim
      | none =>
        exact ⟨_, s, fun w => eq_ptr_nil hu 9999 a w, by simp, by simp, by simp, by simp, by simp, by simp⟩
    case slice el =>
      cases vx <;> try exact s.elim
      rename_i a n c
      cases vy <;> try exact s.elim
      rename_i b n' c'
      cases b with
      | some _ => exact s.elim
      | none =>
        exact ⟨_, s, fun w => eq_slice_nil hu 9999 a n c n' c' w, by simp, by simp, by simp, by simp, by simp, by simp⟩
    case map kt et =>
      cases vx <;> try exact s.elim
      rename_i a
      cases vy <;> try exact s.elim
      rename_i b
      cases b with
      | some _ => exact s.elim
      | none =>
        exact ⟨_, s, fun w => eq_map_nil hu 9999 a w, by simp, by simp, by simp, by simp, by simp, by simp⟩
  cases op <;> try exact s.elim
  · obtain ⟨r, hk, hr, n1, n2, n3, n4, n5, n6⟩ := key s
    exact ⟨_, bin_run ho hx hy (fun w => eqGuard_skip n1 n2 w) (fun w => (equal_run hr n3 n4 n5 n6 w).1), hk⟩
  · obtain ⟨r, hk, hr, n1, n2, n3, n4, n5, n6⟩ := key s
    exact ⟨_, bin_run ho hx hy (fun w => eqGuard_skip n1 n2 w) (fun w => (equal_run hr n3 n4 n5 n6 w).2), hk⟩

theorem sem_str {op : BinOp} {t u : TypeId} {x y : Operand} (ho : o.op = .binOp op t x y u) {a b : ByteArray} (hx : (e x).get = some (.string a)) (hy : (e y).get = some (.string b))
    (s : (match op with
    | .add => pAssert (a.size + b.size < 9223372036854775808) (k (.string (a ++ b)))
    | .eql => k (.bool (strEq a b))
    | .neq => k (.bool (!strEq a b))
    | .lss => k (.bool (Op.bytesLess a.toList b.toList))
    | .leq => k (.bool (Op.bytesLess a.toList b.toList || strEq a b))
    | .gtr => k (.bool !(Op.bytesLess a.toList b.toList || strEq a b))
    | .geq => k (.bool !(Op.bytesLess a.toList b.toList))
    | _ => F) h) : SemP P o e k h := by
  have hg : ∀ w, (eqGuard op t x y (.string a) (.string b)).run P w = .ok () w := fun w => eqGuard_skip (by simp) (by simp) w
  have mk : ∀ v, (∀ w, (binOp op t (.string a) (.string b)).run P w = .ok v w) → k v h → SemP P o e k h := fun v hr hk => ⟨v, bin_run ho hx hy hg hr, hk⟩
  cases op <;> first
    | exact s.elim
    | (exact mk _ (fun w => by simp [binOp, Op.stringOp, strEq]) s)
    | skip
  case add =>
    refine mk _ (fun w => ?_) s.2
    have h1 := s.1
    have hm : ¬ ((a.size + b.size : Nat) : Int) > IntKind.i64.max := by
      have : IntKind.i64.max = 9223372036854775807 := by decide
      rw [this]; omega
    simp only [binOp, Op.stringOp]
    rw [if_neg hm]
    simp

theorem sem_bin {op : BinOp} {t u : TypeId} {x y : Operand} (ho : o.op = .binOp op t x y u) {vx vy : Value} (hx : (e x).get = some vx) (hy : (e y).get = some vy) (s : vcBin P op t y vx vy k h) : SemP P o e k h := by
  unfold vcBin at s
  cases hn : isNilConst y with
  | true =>
    simp only [hn] at s
    cases hu : P.underlying t with
    | none => simp only [hu] at s; exact s.elim
    | some d =>
      simp only [hu] at s
      exact nil_bin ho hx hy hu s
  | false =>
    simp only [hn] at s
    cases vx <;> cases vy <;> try exact s.elim
    case int.int i a j b =>
      by_cases h1 : op = .shl
      · subst h1; exact sem_shift ho hx hy (.inl rfl) s.1 (by simpa using s.2)
      · by_cases h2 : op = .shr
        · subst h2; exact sem_shift ho hx hy (.inr rfl) s.1 (by simpa using s.2)
        · have s' : (if i = j then vcInt op i a b k else F) h := by cases op <;> first | exact s | exact absurd rfl h1 | exact absurd rfl h2
          by_cases hij : i = j
          · subst hij
            simp only [if_true] at s'
            exact sem_int ho hx hy ⟨h1, h2⟩ s'
          · simp only [hij, if_false] at s'; exact s'.elim
    case bool.bool a b =>
      cases hu : P.underlying t with
      | none => simp only [hu] at s; exact s.elim
      | some d =>
        simp only [hu] at s
        cases d <;> try exact s.elim
        have hr : ∀ w, (Op.equal t (.bool a) (.bool b)).run P w = .ok (a == b) w := fun w => run_equalIn_bool w 9999 t a b hu
        have hq := fun w => equal_run (P := P) (t := t) hr (by simp) (by simp) (by simp) (by simp) w
        cases op <;> try exact s.elim
        · exact ⟨_, bin_run ho hx hy (fun w => eqGuard_skip (by simp) (by simp) w) (fun w => (hq w).1), s⟩
        · exact ⟨_, bin_run ho hx hy (fun w => eqGuard_skip (by simp) (by simp) w) (fun w => (hq w).2), s⟩
    case string.string a b => exact sem_str ho hx hy s
    case agg.agg a b =>
      cases hf : flatTy P 50 t with
      | none => simp only [hf] at s; exact s.elim
      | some l =>
        cases hg : P.eqGuardType P.depth t with
        | true => simp only [hf, hg] at s; exact s.elim
        | false =>
          cases ha : (P.underlying t).any (fun d => decide (shapeD d = .agg)) with
          | false => simp only [hf, hg, ha] at s; exact s.elim
          | true =>
            simp only [hf, hg, ha] at s
            have hd : ∃ d, P.underlying t = some d ∧ isAggD d = true := by
              cases hu : P.underlying t with
              | none => simp [hu] at ha
              | some d => simp [hu] at ha; exact ⟨d, rfl, shape_agg ha⟩
            have mk : ∀ (v : Value), (okCells l a.toList = true ∧ okCells l b.toList = true → ∀ w, (binOp op t (.agg a) (.agg b)).run P w = .ok v w) → pAssert (okCells l a.toList = true ∧ okCells l b.toList = true) (k v) h → SemP P o e k h :=
              fun v hr hk => ⟨v, bin_run ho hx hy (fun w => eqGuard_agg hg w) (hr hk.1), hk.2⟩
            cases op <;> try exact s.elim
            · exact mk _ (fun hh w => by simp [run_eql_struct, agg_run hf hh.1 hh.2 hd w]) s
            · exact mk _ (fun hh w => by simp [run_neq_struct, agg_run hf hh.1 hh.2 hd w]) s

theorem sem_un {op : UnOp} {t : TypeId} {x : Operand} (ho : o.op = .unOp op t x) {v : Value} (hx : (e x).get = some v) (s : vcUn op v k h) : SemP P o e k h := by
  unfold vcUn at s
  cases op <;> cases v <;> first
    | exact s.elim
    | exact ⟨_, fun ρ w hf => by simp [execOp, ho, hf x _ hx, Op.unary, Op.intArith, Op.intBits, bitsV], s⟩

theorem sem_convert {a b : TypeId} {x : Operand} (ho : o.op = .convert a b x) {v : Value} (hx : (e x).get = some v) (s : vcConvert P a b v k h) : SemP P o e k h := by
  unfold vcConvert at s
  cases ha : P.underlying a with
  | none => simp only [ha] at s; exact s.elim
  | some da =>
    cases hb : P.underlying b with
    | none => simp only [ha, hb] at s; cases da <;> exact s.elim
    | some db =>
      simp only [ha, hb] at s
      cases da <;> cases db <;> cases v <;> first
        | exact s.elim
        | exact ⟨_, fun ρ w hf => by simp [execOp, ho, hf x _ hx, convert, run_underlying ha, run_underlying hb, Conv.intToInt], s⟩

theorem sem_nil {x : Operand} (ho : o.op = .nilCheck x) {v : Value} (hx : (e x).get = some v)
    (s : (match v with | .pointer a => pSome a fun a => k (.pointer (some a)) | _ => F) h) : SemP P o e k h := by
  cases v <;> try exact s.elim
  obtain ⟨a, rfl, s⟩ := s
  exact ⟨_, fun ρ w hf => by simp [execOp, ho, hf x _ hx], s⟩

theorem sem_fieldAddr {t : TypeId} {x : Operand} {f : Nat} (ho : o.op = .fieldAddr t x f) {v : Value} (hx : (e x).get = some v) (s : vcFieldAddr P t v f k h) : SemP P o e k h := by
  unfold vcFieldAddr at s
  cases v <;> try exact s.elim
  rename_i a
  cases a with
  | none => exact s.elim
  | some a =>
    simp only at s
    cases hu : P.underlying t with
    | none => simp only [hu] at s; exact s.elim
    | some d =>
      simp only [hu] at s
      cases d <;> try exact s.elim
      rename_i fs
      simp only at s
      cases hfd : fs[f]? with
      | none => simp only [hfd] at s; exact s.elim
      | some fd =>
        simp only [hfd] at s
        cases hs : sizeP P fd.type with
        | zero => simp only [hs] at s; exact s.elim
        | succ n =>
          simp only [hs] at s
          have h0 : sizeP P fd.type ≠ 0 := by omega
          exact ⟨_, fun ρ w hf => by simp [execOp, ho, hf x _ hx, Instr.fieldAt, run_underlying hu, hfd, Instr.sureAddr, fieldPlace, run_size_ne h0, h0], s⟩

theorem part_sem {t : TypeId} {cs : List Value} {off : Nat} (s : vcPart P t cs off k h) : ∃ v, (∀ w, (part t cs.toArray off).run P w = .ok v w) ∧ k v h := by
  unfold vcPart at s
  cases hu : P.underlying t with
  | none => simp only [hu] at s; exact s.elim
  | some d =>
    simp only [hu] at s
    by_cases hs : shapeD d = .agg
    · simp only [hs] at s
      exact ⟨_, fun w => by simp [part, run_isAgg hu, shape_agg hs, run_size_un hu], s⟩
    · have hn := shape_notAgg hs
      cases hd : shapeD d <;> simp only [hd] at s hs <;> first
        | exact absurd trivial hs
        | (obtain ⟨y, hy, s⟩ := s
           exact ⟨_, fun w => by simp [part, run_isAgg hu, hn, hy], s⟩)

theorem sem_field {t : TypeId} {x : Operand} {f : Nat} (ho : o.op = .field t x f) {v : Value} (hx : (e x).get = some v) (s : vcField P t v f k h) : SemP P o e k h := by
  unfold vcField at s
  cases v <;> try exact s.elim
  rename_i cs
  simp only at s
  cases hu : P.underlying t with
  | none => simp only [hu] at s; exact s.elim
  | some d =>
    simp only [hu] at s
    cases d <;> try exact s.elim
    rename_i fs
    simp only at s
    cases hfd : fs[f]? with
    | none => simp only [hfd] at s; exact s.elim
    | some fd =>
      simp only [hfd] at s
      obtain ⟨v, hv, s⟩ := part_sem s
      exact ⟨v, fun ρ w hf => by simp only [Array.toArray_toList] at hv; simp [execOp, ho, hf x _ hx, Instr.field, run_underlying hu, hfd, asAgg, hv], s⟩

theorem sem_indexAddr {t : TypeId} {x i : Operand} (ho : o.op = .indexAddr t x i) {vx vi : Value} (hx : (e x).get = some vx) (hi : (e i).get = some vi) (s : vcIndexAddr P t vx vi k h) : SemP P o e k h := by
  unfold vcIndexAddr at s
  cases hu : P.underlying t with
  | none => simp only [hu] at s; exact s.elim
  | some d =>
    simp only [hu] at s
    cases d <;> try exact s.elim
    case array n el =>
      cases vx <;> try exact s.elim
      rename_i a
      cases a with
      | none => exact s.elim
      | some a =>
        cases vi <;> try exact s.elim
        simp only at s
        cases hz : sizeP P el with
        | zero => simp only [hz] at s; exact s.elim
        | succ z =>
          simp only [hz] at s
          obtain ⟨h1, h2, s⟩ := s
          exact ⟨_, fun ρ w hf => by simp [execOp, ho, hf x _ hx, hf i _ hi, Instr.indexAt, run_underlying hu, asIntOf, Instr.sureAddr, run_size_ne (P := P) (t := el) (by omega), h1, h2, hz], s⟩
    case slice el =>
      cases vx <;> try exact s.elim
      cases vi <;> try exact s.elim
      simp only at s
      cases hz : sizeP P el with
      | zero => simp only [hz] at s; exact s.elim
      | succ z =>
        simp only [hz] at s
        obtain ⟨h1, h2, a, rfl, s⟩ := s
        exact ⟨_, fun ρ w hf => by simp [execOp, ho, hf x _ hx, hf i _ hi, Instr.indexAt, run_underlying hu, asIntOf, run_size_ne (P := P) (t := el) (by omega), h1, h2, hz], s⟩

theorem sem_index {t : TypeId} {x i : Operand} (ho : o.op = .index t x i) {vx vi : Value} (hx : (e x).get = some vx) (hi : (e i).get = some vi) (s : vcIndex P t vx vi k h) : SemP P o e k h := by
  unfold vcIndex at s
  cases hu : P.underlying t with
  | none => simp only [hu] at s; exact s.elim
  | some d =>
    simp only [hu] at s
    cases d <;> cases vx <;> cases vi <;> try exact s.elim
    case string.string.int st kk j =>
      obtain ⟨h1, h2, s⟩ := s
      have hj : j.toNat < st.size := by omega
      exact ⟨_, fun ρ w hf => by simp [execOp, ho, hf x _ hx, hf i _ hi, Instr.index, run_underlying hu, asIntOf, h1, hj, byteAt], s⟩
    case array.agg.int n el cs kk j =>
      obtain ⟨h1, h2, s⟩ := s
      have hue : ∃ de, P.underlying el = some de := by
        cases hue : P.underlying el with
        | none => simp only [vcPart, hue] at s; exact s.elim
        | some de => exact ⟨de, rfl⟩
      obtain ⟨de, hue⟩ := hue
      obtain ⟨v, hv, s⟩ := part_sem s
      exact ⟨v, fun ρ w hf => by simp only [Array.toArray_toList] at hv; simp [execOp, ho, hf x _ hx, hf i _ hi, Instr.index, run_underlying hu, asIntOf, h1, h2, run_size_un hue, hv], s⟩

theorem sem_extract {x : Operand} {i : Nat} (ho : o.op = .extract x i) {v : Value} (hx : (e x).get = some v) (s : vcExtract v i k h) : SemP P o e k h := by
  unfold vcExtract at s
  cases v <;> try exact s.elim
  rename_i vs
  simp only at s
  cases hv : vs.toList[i]? with
  | none => simp only [hv] at s; exact s.elim
  | some v =>
    simp only [hv] at s
    exact ⟨v, fun ρ w hf => by simp only [Array.getElem?_toList] at hv; simp [execOp, ho, hf x _ hx, Instr.extract, hv], s⟩

theorem sem_makeFunc {fn : Fn} {fs cs : Array Operand} (ho : o.op = .makeFunc fn fs cs) (s : (gvs (fs.toList.map e) fun fs => gvs (cs.toList.map e) fun cs => k (.func fn fs.toArray cs.toArray)) h) : SemP P o e k h := by
  obtain ⟨vf, hvf, s⟩ := gvs_some s
  obtain ⟨vc, hvc, s⟩ := gvs_some s
  exact ⟨_, fun ρ w hf => by simp [execOp, ho, Instr.makeFunc, fits_arr hf fs vf hvf, fits_arr hf cs vc hvc], s⟩

theorem oInt_some {x : Option EV} {d : Int} {ki : Int → Pr} (s : oInt x d ki h) : (x = none ∧ ki d h) ∨ ∃ ev i n, x = some ev ∧ ev.get = some (.int i n) ∧ ki n h := by
  unfold oInt at s
  cases x with
  | none => exact .inl ⟨rfl, s⟩
  | some ev =>
    simp only at s
    obtain ⟨v, hv, s⟩ := gv_some s
    cases v <;> try exact s.elim
    exact .inr ⟨ev, _, _, rfl, hv, s⟩

/-- A bound, as the model reads it. -/
def bnd (ρ : Operand → Value) (x : Option Operand) (d n : Int) : Prop := (x = none ∧ n = d) ∨ ∃ y i, x = some y ∧ ρ y = .int i n

theorem oInt_bnd {x : Option Operand} {d : Int} {ki : Int → Pr} (s : oInt (x.map e) d ki h) : ∃ n, ki n h ∧ ∀ ρ, Fits e ρ → bnd ρ x d n := by
  rcases oInt_some s with ⟨hx, s2⟩ | ⟨ev, i, n, hx, hev, s2⟩
  · cases x with
    | none => exact ⟨d, s2, fun ρ _ => .inl ⟨rfl, rfl⟩⟩
    | some y => cases hx
  · cases x with
    | none => cases hx
    | some y =>
      simp only [Option.map_some, Option.some.injEq] at hx
      subst hx
      exact ⟨n, s2, fun ρ hf => .inr ⟨y, i, rfl, hf y _ hev⟩⟩

theorem bounds_run {isS : Bool} {n c : Nat} {ρ : Operand → Value} {lo hi : Option Operand} {l m : Int} (hl : bnd ρ lo 0 l) (hh : bnd ρ hi n m) (h1 : 0 ≤ l) (h2 : l ≤ m) (h3 : m ≤ c) (w : World) :
    (Instr.sliceBounds isS n c (lo.map ρ) (hi.map ρ) none).run P w = .ok (l.toNat, m.toNat, c) w := by
  have sb : ∀ (i : IntKind) (j : Int) (y : Nat) (code : BoundsCode), 0 ≤ j → j ≤ y → (Instr.sliceBound (.int i j) y code).run P w = .ok j.toNat w := fun i j y code a b => by
    simp [Instr.sliceBound, asIntOf, a, b]
  unfold Instr.sliceBounds
  rcases hl with ⟨rfl, rfl⟩ | ⟨y, i, rfl, hy⟩ <;> rcases hh with ⟨rfl, rfl⟩ | ⟨z, j, rfl, hz⟩
  · simp
  · simp [hz, sb j m c _ (by omega) h3]
  · have h2' : l ≤ (n : Int) := h2
    simp [hy, sb i l n _ h1 h2']
  · have e : ((m.toNat : Nat) : Int) = m := by omega
    simp [hz, sb j m c _ (by omega) h3, hy, sb i l m.toNat _ h1 (by omega)]

theorem sem_slice {t : TypeId} {x : Operand} {lo hi mx : Option Operand} (ho : o.op = .slice t x lo hi mx) {v : Value} (hx : (e x).get = some v) (s : vcSlice P t v (lo.map e) (hi.map e) mx.isSome k h) : SemP P o e k h := by
  unfold vcSlice at s
  cases mx with
  | some _ => exact s.elim
  | none =>
    simp only [Option.isSome_none] at s
    cases hu : P.underlying t with
    | none => simp only [hu] at s; exact s.elim
    | some d =>
      simp only [hu] at s
      cases d <;> try exact s.elim
      case string =>
        cases v <;> try exact s.elim
        obtain ⟨l, s, hl⟩ := oInt_bnd s
        obtain ⟨m, s, hm⟩ := oInt_bnd s
        obtain ⟨⟨h1, h2, h3⟩, s⟩ := s
        refine ⟨_, fun ρ w hf => ?_, s⟩
        have hb := bounds_run (P := P) (isS := false) (hl ρ hf) (hm ρ hf) h1 h2 h3 w
        simp [execOp, ho, hf x _ hx, Instr.sliceAt, run_underlying hu, Instr.slice, hb]
      case slice el =>
        cases v <;> try exact s.elim
        simp only at s
        cases hz : sizeP P el with
        | zero => simp only [hz] at s; exact s.elim
        | succ z =>
          simp only [hz] at s
          obtain ⟨l, s, hl⟩ := oInt_bnd s
          obtain ⟨m, s, hm⟩ := oInt_bnd s
          obtain ⟨⟨h1, h2, h3⟩, s⟩ := s
          refine ⟨_, fun ρ w hf => ?_, s⟩
          have hb := bounds_run (P := P) (isS := true) (hl ρ hf) (hm ρ hf) h1 h2 h3 w
          simp [execOp, ho, hf x _ hx, Instr.sliceAt, run_underlying hu, Instr.slice, hb, run_size_ne (P := P) (t := el) (by omega), hz]
      case array n el =>
        cases v <;> try exact s.elim
        rename_i a
        cases a with
        | none => exact s.elim
        | some a =>
          simp only at s
          cases hz : sizeP P el with
          | zero => simp only [hz] at s; exact s.elim
          | succ z =>
            simp only [hz] at s
            obtain ⟨l, s, hl⟩ := oInt_bnd s
            obtain ⟨m, s, hm⟩ := oInt_bnd s
            obtain ⟨⟨h1, h2, h3⟩, s⟩ := s
            refine ⟨_, fun ρ w hf => ?_, s⟩
            have hb := bounds_run (P := P) (isS := false) (hl ρ hf) (hm ρ hf) h1 h2 h3 w
            simp [execOp, ho, hf x _ hx, Instr.sliceAt, run_underlying hu, Instr.sureAddr, hb, run_size_ne (P := P) (t := el) (by omega), hz]

end
end Go.Hl
