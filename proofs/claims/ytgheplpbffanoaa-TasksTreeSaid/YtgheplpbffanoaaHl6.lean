/- The heap logic: the operations on values; addresses; slices; stores; calls; append. -/
import Derived.Test.YtgheplpbffanoaaHl5
import Derived.ChangeKeysEq
namespace Go.Hl
section
variable {P : Program} {o : Oper} {e : Operand → EV} {KP k : Value → Pr} {h : Heap}

theorem info_some_of_size {t : TypeId} (h : sizeP P t ≠ 0) : ∃ i, P.info? t = some i := by
  unfold sizeP at h
  cases hi : P.info? t with
  | none => simp [hi] at h
  | some i => exact ⟨i, rfl⟩

theorem eqGuard_skip {op : BinOp} {t : TypeId} {x y : Operand} {a b : Value} (ha : ∀ c, a ≠ .agg c) (hn : a ≠ .nilIface) (w : World) : (eqGuard op t x y a b).run P w = .ok () w := by
  unfold eqGuard
  cases op <;> simp <;> cases a <;> simp_all

theorem eqGuard_agg {op : BinOp} {t : TypeId} {x y : Operand} {a b : Array Value} (hm : P.eqGuardType P.depth t = false) (w : World) : (eqGuard op t x y (.agg a) (.agg b)).run P w = .ok () w :=
  run_eqGuard_agg w op t x y a b hm

/-- 'v' for an operation on two values. -/
theorem bin_run {op : BinOp} {t u : TypeId} {x y : Operand} (ho : o.op = .binOp op t x y u) {a b v : Value} (hx : (e x).get = some a) (hy : (e y).get = some b)
    (hg : ∀ w, (eqGuard op t x y a b).run P w = .ok () w) (hr : ∀ w, (binOp op t a b).run P w = .ok v w) : Yld P o e v := fun ρ w hf => by
  simp [execOp, ho, hf x a hx, hf y b hy, hg, hr]

theorem sem_int {op : BinOp} {t u : TypeId} {x y : Operand} (ho : o.op = .binOp op t x y u) {i : IntKind} {a b : Int} (hx : (e x).get = some (.int i a)) (hy : (e y).get = some (.int i b))
    (hop : op ≠ .shl ∧ op ≠ .shr) (s : vcInt op i a b k h) : SemP P o e k h := by
  have hg : ∀ w, (eqGuard op t x y (.int i a) (.int i b)).run P w = .ok () w := fun w => eqGuard_skip (by simp) (by simp) w
  have mk : ∀ v, (∀ w, (binOp op t (.int i a) (.int i b)).run P w = .ok v w) → k v h → SemP P o e k h := fun v hr hk => ⟨v, bin_run ho hx hy hg hr, hk⟩
  cases op <;> simp only [vcInt] at s <;> first
    | exact absurd rfl hop.1
    | exact absurd rfl hop.2
    | (exact mk _ (fun w => by simp [binOp, Op.intArith, Op.intBits, Op.intCmp, bitsV]) s)
    | (exact mk _ (fun w => by simp [binOp, Op.intDiv, s.1]) s.2)
    | exact s.elim

theorem sem_shift {op : BinOp} {t u : TypeId} {x y : Operand} (ho : o.op = .binOp op t x y u) {i j : IntKind} {a b : Int} (hx : (e x).get = some (.int i a)) (hy : (e y).get = some (.int j b))
    (hop : op = .shl ∨ op = .shr) (hb : 0 ≤ b) (s : k (.int i (if op = .shl then i.wrap (a * 2 ^ (min b.toNat i.bits)) else a.fdiv (2 ^ (min b.toNat i.bits)))) h) : SemP P o e k h := by
  have hg : ∀ w, (eqGuard op t x y (.int i a) (.int j b)).run P w = .ok () w := fun w => eqGuard_skip (by simp) (by simp) w
  refine ⟨_, bin_run ho hx hy hg (fun w => ?_), s⟩
  have hn : ¬ b < 0 := by omega
  rcases hop with rfl | rfl <;> simp [binOp, Op.shift, hn]

theorem equal_run {t : TypeId} {a b : Value} {r : Bool} (h : ∀ w, (Op.equal t a b).run P w = .ok r w) (ha : ∀ k n, a ≠ .int k n) (hs : ∀ s, a ≠ .string s) (hf : ∀ k n, a ≠ .float k n) (hc : ∀ k n m, a ≠ .complex k n m) (w : World) :
    (binOp .eql t a b).run P w = .ok (.bool r) w ∧ (binOp .neq t a b).run P w = .ok (.bool (!r)) w := by
  have h' := h w
  constructor <;> (cases a <;> simp_all [binOp])

end

theorem okCells_length : ∀ {l : List CT} {xs : List Value}, okCells l xs = true → xs.length = l.length
  | [], [], _ => rfl
  | [], _ :: _, h => by simp [okCells] at h
  | _ :: _, [], h => by simp [okCells] at h
  | c :: l, v :: xs, h => by
    simp only [okCells, Bool.and_eq_true] at h
    simp [okCells_length h.2]

theorem okCells_append : ∀ {l m : List CT} {xs : List Value}, okCells (l ++ m) xs = true → okCells l (xs.take l.length) = true ∧ okCells m (xs.drop l.length) = true
  | [], m, xs, h => by simpa [okCells] using h
  | c :: l, m, [], h => by simp [okCells] at h
  | c :: l, m, v :: xs, h => by
    simp only [List.cons_append, okCells, Bool.and_eq_true] at h
    obtain ⟨h1, h2⟩ := okCells_append h.2
    simp [okCells, h.1, h1, h2]

theorem eqCells_append : ∀ {l : List CT} {xs ys : List Value} {n : Nat}, okCells l (xs.take n) = true → okCells l (ys.take n) = true → n ≤ xs.length → n ≤ ys.length →
    eqCells xs ys = (eqCells (xs.take n) (ys.take n) && eqCells (xs.drop n) (ys.drop n))
  | l, xs, ys, 0, _, _, _, _ => by simp [eqCells]
  | l, [], _, n + 1, _, _, h, _ => by simp at h
  | l, _, [], n + 1, _, _, _, h => by simp at h
  | [], x :: xs, y :: ys, n + 1, h, _, _, _ => by simp [okCells] at h
  | c :: l, x :: xs, y :: ys, n + 1, hx, hy, h1, h2 => by
    simp only [List.take_succ_cons, okCells, Bool.and_eq_true] at hx hy
    simp only [List.take_succ_cons, List.drop_succ_cons, eqCells]
    rw [eqCells_append hx.2 hy.2 (by simpa using h1) (by simpa using h2), Bool.and_assoc]

section
variable {P : Program}

/-- One value of a type that is made of plain cells, packed. -/
def packV (d : TypeDesc) (xs : List Value) : Value := match d with
  | .struct _ | .array .. => .agg xs.toArray
  | _ => xs.headD undef

theorem part_run {t : TypeId} {d : TypeDesc} (hu : P.underlying t = some d) {cs : List Value} {off : Nat} {l : List CT} (hl : l.length = sizeP P t) (hok : okCells l ((cs.drop off).take l.length) = true) (hone : isAggD d = false → l.length = 1) (w : World) :
    (part t cs.toArray off).run P w = .ok (packV d ((cs.drop off).take l.length)) w := by
  by_cases hd : isAggD d = true
  · have e : packV d ((cs.drop off).take l.length) = .agg ((cs.drop off).take l.length).toArray := by
      unfold packV; unfold isAggD at hd; cases d <;> simp_all
    rw [e]
    simp only [part, Sem.run_bind, run_isAgg hu, hd, Result.andThen_ok, if_true, run_size_un hu, ← hl]
    simp
  · have hd' : isAggD d = false := by simpa using hd
    have h1 := hone hd'
    rw [h1] at hok ⊢
    have hlen := okCells_length hok
    rw [h1] at hlen
    have e : packV d ((cs.drop off).take 1) = ((cs.drop off).take 1).headD undef := by
      unfold packV; unfold isAggD at hd'; cases d <;> simp_all
    rw [e]
    have hlt : off < cs.length := by simp at hlen; omega
    simp only [part, Sem.run_bind, run_isAgg hu, hd', Result.andThen_ok, Bool.false_eq_true, if_false]
    have hg : cs.toArray[off]? = some cs[off] := by simp [hlt]
    have hh : (cs.drop off).take 1 = [cs[off]] := by
      rw [List.drop_eq_getElem_cons hlt]; rfl
    rw [hh]
    simp [hlt]

theorem okCells_one {c : CT} {xs : List Value} (h : okCells [c] xs = true) : ∃ v, xs = [v] ∧ okCell c v = true := by
  cases xs with
  | nil => simp [okCells] at h
  | cons v r => cases r with
    | nil => exact ⟨v, rfl, by simpa [okCells] using h⟩
    | cons _ _ => simp [okCells] at h

theorem cells_size (t : TypeId) : P.cellsOf t = sizeP P t := rfl

theorem items_eq {D : Nat} {el : TypeId} {de : TypeDesc} {m : List CT} (hue : P.underlying el = some de) (hm : m.length = sizeP P el)
    (key : ∀ xs ys, okCells m xs = true → okCells m ys = true → (isAggD de = false → m.length = 1) ∧ ∀ w, (Op.equalIn D el (packV de xs) (packV de ys)).run P w = .ok (eqCells xs ys) w) (xs ys : List Value) :
    ∀ (n j : Nat), okCells (List.replicate n m).flatten (xs.drop (j * sizeP P el)) = true → okCells (List.replicate n m).flatten (ys.drop (j * sizeP P el)) = true → ∀ w,
      (Op.eqItems D el (P.cellsOf el) xs.toArray ys.toArray (List.range' j n)).run P w = .ok (eqCells (xs.drop (j * sizeP P el)) (ys.drop (j * sizeP P el))) w
  | 0, j, hx, hy, w => by
    have h1 := okCells_length hx
    have h2 := okCells_length hy
    simp only [List.replicate_zero, List.flatten_nil, List.length_nil, List.length_eq_zero_iff] at h1 h2
    rw [h1, h2]
    simp [Op.eqItems, eqCells]
  | n + 1, j, hx, hy, w => by
    rw [List.replicate_succ, List.flatten_cons] at hx hy
    obtain ⟨hx1, hx2⟩ := okCells_append hx
    obtain ⟨hy1, hy2⟩ := okCells_append hy
    rw [List.drop_drop, hm, show j * sizeP P el + sizeP P el = (j + 1) * sizeP P el by rw [Nat.succ_mul]] at hx2 hy2
    have kk := key _ _ hx1 hy1
    have ih := items_eq hue hm key xs ys n (j + 1) hx2 hy2 w
    rw [List.range'_succ]
    simp only [Op.eqItems, Sem.run_bind]
    rw [cells_size, part_run hue hm hx1 kk.1, Result.andThen_ok, part_run hue hm hy1 kk.1, Result.andThen_ok, kk.2 w, Result.andThen_ok]
    have e := eqCells_append (l := m) (xs := xs.drop (j * sizeP P el)) (ys := ys.drop (j * sizeP P el)) (n := m.length) hx1 hy1
      (by have := okCells_length hx; rw [List.length_append] at this; omega) (by have := okCells_length hy; rw [List.length_append] at this; omega)
    rw [e, List.drop_drop, List.drop_drop, hm, show j * sizeP P el + sizeP P el = (j + 1) * sizeP P el by rw [Nat.succ_mul]]
    cases heq : eqCells ((xs.drop (j * sizeP P el)).take (sizeP P el)) ((ys.drop (j * sizeP P el)).take (sizeP P el)) with
    | false => simp
    | true =>
      simp only [Bool.not_true, Bool.false_eq_true, if_false, Bool.true_and]
      rw [cells_size] at ih
      exact ih

theorem flat_un {d : Nat} {t : TypeId} {l : List CT} (h : flatTy P d t = some l) : ∃ de, P.underlying t = some de := by
  cases d with
  | zero => simp [flatTy] at h
  | succ d =>
    cases hue : P.underlying t with
    | none => simp [flatTy, hue] at h
    | some de => exact ⟨de, rfl⟩

theorem flat_eq : ∀ (D d : Nat), d ≤ D →
    (∀ (t : TypeId) (l : List CT) (dd : TypeDesc) (xs ys : List Value), flatTy P d t = some l → P.underlying t = some dd → okCells l xs = true → okCells l ys = true →
      (isAggD dd = false → l.length = 1) ∧ ∀ w, (Op.equalIn D t (packV dd xs) (packV dd ys)).run P w = .ok (eqCells xs ys) w) ∧
    (∀ (off : Nat) (fs : List Field) (l : List CT) (xs ys : List Value), flatFs P d off fs = some l → okCells l (xs.drop off) = true → okCells l (ys.drop off) = true → ∀ w,
      (Op.eqFields (D - 1) xs.toArray ys.toArray fs).run P w = .ok (eqCells (xs.drop off) (ys.drop off)) w)
  | _, 0, _ => ⟨fun t l dd xs ys h => by simp [flatTy] at h, fun off fs l xs ys h => by simp [flatFs] at h⟩
  | 0, d + 1, h => by omega
  | D + 1, d + 1, hle => by
    have ih := flat_eq D d (by omega)
    have ihf := (flat_eq (D + 1) d (by omega)).2
    refine ⟨fun t l dd xs ys hf hu hx hy => ?_, fun off fs l xs ys hf hx hy w => ?_⟩
    · simp only [flatTy, hu] at hf
      cases dd <;> simp only at hf <;> try (cases hf; done)
      case bool =>
        cases hf
        obtain ⟨a, rfl, ha⟩ := okCells_one hx
        obtain ⟨b, rfl, hb⟩ := okCells_one hy
        cases a <;> simp [okCell] at ha
        cases b <;> simp [okCell] at hb
        exact ⟨fun _ => rfl, fun w => by simp [packV, run_equalIn_bool w D t _ _ hu, eqCells, eqv]⟩
      case int kk =>
        cases hf
        obtain ⟨a, rfl, ha⟩ := okCells_one hx
        obtain ⟨b, rfl, hb⟩ := okCells_one hy
        cases a <;> simp [okCell] at ha
        cases b <;> simp [okCell] at hb
        subst ha; subst hb
        exact ⟨fun _ => rfl, fun w => by simp [packV, run_equalIn_int w D t _ _ _ _ hu, eqCells, eqv]⟩
      case string =>
        cases hf
        obtain ⟨a, rfl, ha⟩ := okCells_one hx
        obtain ⟨b, rfl, hb⟩ := okCells_one hy
        cases a <;> simp [okCell] at ha
        cases b <;> simp [okCell] at hb
        exact ⟨fun _ => rfl, fun w => by simp [packV, run_equalIn_string w D t _ _ hu, eqCells, eqv, strEq]⟩
      case struct fs =>
        refine ⟨fun h => by simp [isAggD] at h, fun w => ?_⟩
        by_cases hs : P.stoodInHeld t = true
        · simp [hs] at hf
        · simp only [hs, if_false, Bool.false_eq_true] at hf
          have hfo : P.fieldsOf t = fs := by simp [Program.fieldsOf, hu]
          rw [show packV (.struct fs) xs = .agg xs.toArray from rfl, show packV (.struct fs) ys = .agg ys.toArray from rfl,
            run_equalIn_struct w D t _ _ (by rw [hfo]; exact hu) (by simpa using hs), hfo]
          have := ihf 0 fs.toList l xs ys hf (by simpa using hx) (by simpa using hy) w
          simpa using this
      case array n el =>
        refine ⟨fun h => by simp [isAggD] at h, fun w => ?_⟩
        cases hfe : flatTy P d el with
        | none => simp [hfe] at hf
        | some m =>
          simp only [hfe, Option.bind_some] at hf
          by_cases hm : m.length = sizeP P el
          · simp only [hm, if_true, Option.some.injEq] at hf
            subst hf
            obtain ⟨de, hue⟩ := flat_un hfe
            obtain ⟨i, hi⟩ := info_of_underlying hue
            rw [show packV (.array n el) xs = .agg xs.toArray from rfl, show packV (.array n el) ys = .agg ys.toArray from rfl, run_equalIn_array w D _ _ hu hi]
            have := items_eq hue hm (fun xs ys h1 h2 => ih.1 el m de xs ys hfe hue h1 h2) xs ys n 0 (by simpa using hx) (by simpa using hy) w
            simpa [List.range_eq_range'] using this
          · simp [hm] at hf
    · cases fs with
      | nil =>
        simp only [flatFs, Option.some.injEq] at hf
        subst hf
        have h1 := okCells_length hx
        have h2 := okCells_length hy
        simp only [List.length_nil, List.length_eq_zero_iff] at h1 h2
        rw [h1, h2]
        simp [Op.eqFields, eqCells]
      | cons f fs =>
        simp only [flatFs] at hf
        by_cases hn : (f.name == "_" || f.offset != off) = true
        · simp [hn] at hf
        · simp only [hn, if_false, Bool.false_eq_true] at hf
          simp only [Bool.or_eq_true, beq_iff_eq, bne_iff_ne, ne_eq, not_or, Decidable.not_not] at hn
          obtain ⟨hn1, hn2⟩ := hn
          cases hfe : flatTy P d f.type with
          | none => simp [hfe] at hf
          | some m =>
            simp only [hfe, Option.bind_some] at hf
            by_cases hm : m.length = sizeP P f.type
            · simp only [hm, if_true] at hf
              cases hr : flatFs P d (off + sizeP P f.type) fs with
              | none => simp [hr] at hf
              | some r =>
                simp only [hr, Option.map_some, Option.some.injEq] at hf
                subst hf
                obtain ⟨de, hue⟩ := flat_un hfe
                obtain ⟨hx1, hx2⟩ := okCells_append hx
                obtain ⟨hy1, hy2⟩ := okCells_append hy
                have key := ih.1 f.type m de _ _ hfe hue hx1 hy1
                rw [List.drop_drop, hm] at hx2 hy2
                have e := eqCells_append (l := m) (xs := xs.drop off) (ys := ys.drop off) (n := m.length) hx1 hy1
                  (by have := okCells_length hx; rw [List.length_append] at this; omega) (by have := okCells_length hy; rw [List.length_append] at this; omega)
                have rest := ihf (off + sizeP P f.type) fs r xs ys hr hx2 hy2 w
                simp only [Nat.add_sub_cancel] at rest ⊢
                simp only [Op.eqFields, hn1, ne_eq, not_false_eq_true, if_true, Sem.run_bind]
                rw [hn2, part_run hue hm hx1 key.1, Result.andThen_ok, part_run hue hm hy1 key.1, Result.andThen_ok, key.2 w, Result.andThen_ok]
                rw [e, List.drop_drop, List.drop_drop, hm]
                cases heq : eqCells ((xs.drop off).take (sizeP P f.type)) ((ys.drop off).take (sizeP P f.type)) with
                | false => simp
                | true =>
                  simp only [Bool.not_true, Bool.false_eq_true, if_false, Bool.true_and]
                  exact rest
            · simp [hm] at hf
termination_by _ d => d

/-- '==' on structs and arrays of plain cells. -/
theorem agg_run {t : TypeId} {l : List CT} {xs ys : Array Value} (hf : flatTy P 50 t = some l) (hx : okCells l xs.toList = true) (hy : okCells l ys.toList = true) (ha : ∃ d, P.underlying t = some d ∧ isAggD d = true) (w : World) :
    (Op.equalIn 10000 t (.agg xs) (.agg ys)).run P w = .ok (eqCells xs.toList ys.toList) w := by
  obtain ⟨d, hu, hd⟩ := ha
  have := ((flat_eq (P := P) 10000 50 (by omega)).1 t l d xs.toList ys.toList hf hu hx hy).2 w
  cases d <;> simp [isAggD] at hd <;> simpa [packV] using this

end
end Go.Hl
