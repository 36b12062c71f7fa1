/- The heap logic: literals, stores, built-ins, calls; and what 'vcOp' says, by class. -/
import Derived.Test.YtgheplpbffanoaaHl7
namespace Go.Hl
section
variable {P : Program} {o : Oper} {e : Operand → EV} {KP k : Value → Pr} {h : Heap}

theorem parts_arr {ρ : Operand → Value} {ps : Array (Nat × Operand)} {vs : List (Nat × Value)} (hv : ∀ ρ, Fits e ρ → ps.toList.map (fun (i, x) => (i, ρ x)) = vs) (hf : Fits e ρ) : ps.map (fun (i, x) => (i, ρ x)) = vs.toArray := by
  apply Array.ext'
  have := hv ρ hf
  simp only [Array.toList_map]
  exact this

theorem sem_build {t : TypeId} {ps : Array (Nat × Operand)} (ho : o.op = .build t ps) (s : partsOf e ps.toList (fun ps => vcBuild P t ps k) h) : SemP P o e k h := by
  obtain ⟨vs, hv, s⟩ := parts_some s
  unfold vcBuild at s
  cases hz : zeroOk P t with
  | false => simp only [hz] at s; exact s.elim
  | true =>
    simp only [hz] at s
    cases hu : P.underlying t with
    | none => simp only [hu] at s; exact s.elim
    | some d =>
      simp only [hu] at s
      cases d <;> try exact s.elim
      case struct fs =>
        simp only at s
        cases hfs : fs.toList.all (fun f => (P.info? f.type).isSome) with
        | false => simp only [hfs] at s; exact s.elim
        | true =>
          simp only [hfs] at s
          cases hp : placesOf P fs vs with
          | none => simp only [hp] at s; exact s.elim
          | some ps' =>
            simp only [hp] at s
            cases hr : inRange (sizeP P t) ps' with
            | false => simp only [hr] at s; exact s.elim
            | true =>
              simp only [hr] at s
              obtain ⟨h1, s⟩ := pFits_all s
              refine ⟨_, fun ρ w hf => ?_, s⟩
              have hb := run_build_struct (P := P) hz hu hfs hp hr (fun x hx => h1 (x.2.1, x.2.2) (List.mem_map.2 ⟨x, hx, rfl⟩)) w
              have ha := parts_arr hv hf
              simp only [execOp, ho, ha, Sem.run_bind, hb, Result.andThen_ok, Sem.run_pure]
      case array n el =>
        simp only at s
        cases hi : (P.info? el).isSome with
        | false => simp only [hi] at s; exact s.elim
        | true =>
          simp only [hi] at s
          cases hr : inRange (sizeP P t) (vs.map fun p => (p.1 * sizeP P el, sizeP P el, p.2)) with
          | false => simp only [hr] at s; exact s.elim
          | true =>
            simp only [hr] at s
            obtain ⟨h1, s⟩ := pFits_all s
            refine ⟨_, fun ρ w hf => ?_, s⟩
            have hb := run_build_array (P := P) hz hu hi rfl hr (fun x hx => h1 (x.2.1, x.2.2) (List.mem_map.2 ⟨x, hx, rfl⟩)) w
            have ha := parts_arr hv hf
            simp only [execOp, ho, ha, Sem.run_bind, hb, Result.andThen_ok, Sem.run_pure]

theorem sem_buildSlice {t : TypeId} {n : Nat} {ps : Array (Nat × Operand)} (ho : o.op = .buildSlice t n ps) (s : partsOf e ps.toList (fun ps => vcBuildSlice P t n ps k) h) : SemA P o e k h := by
  obtain ⟨vs, hv, s⟩ := parts_some s
  unfold vcBuildSlice at s
  cases hu : P.underlying t with
  | none => simp only [hu] at s; exact s.elim
  | some d =>
    simp only [hu] at s
    cases d <;> try exact s.elim
    rename_i el
    simp only at s
    cases hz : (zeroOk P el && decide (n * sizeP P el ≤ 16777216) && decide (sizeP P el ≠ 0)) with
    | false => simp only [hz] at s; exact s.elim
    | true =>
      simp only [hz] at s
      simp only [Bool.and_eq_true, decide_eq_true_eq] at hz
      cases hr : inRange (n * sizeP P el) (vs.map fun p => (p.1 * sizeP P el, sizeP P el, p.2)) with
      | false => simp only [hr] at s; exact s.elim
      | true =>
        simp only [hr] at s
        obtain ⟨h1, s⟩ := pFits_all s
        refine ⟨_, fun b => .slice (some ⟨b, 0, none⟩) n n, fun ρ w hf => ?_, fun b hb => s b hb⟩
        have hb := run_buildSlice' (P := P) hz.1.1 hu hz.2 hz.1.2 rfl hr (fun x hx => h1 (x.2.1, x.2.2) (List.mem_map.2 ⟨x, hx, rfl⟩)) w
        have ha := parts_arr hv hf
        exact ⟨w.alloc (.cells _ el), el, by simp only [execOp, ho, ha, Sem.run_bind, hb, Result.andThen_ok, Sem.run_pure], rfl, rfl, rfl, rfl⟩

theorem sem_store {t : TypeId} {x y : Operand} (ho : o.op = .store t x y) {va v : Value} (hx : (e x).get = some va) (hy : (e y).get = some v) (s : vcStore P t va v (k undef) h) : SemE P o e KP k h := fun ρ w hf r => by
  unfold vcStore at s
  cases va <;> try exact s.elim
  rename_i a
  cases a with
  | none => exact s.elim
  | some a =>
    simp only at s
    have key : ∀ (vs : List Value), v.cells.toList = vs → sizeP P t = vs.length → sizeP P t ≠ 0 ∨ (∃ i, P.info? t = some i) →
        (∃ cs tot, a.spot = none ∧ h a.block = some (.row cs tot) ∧ a.off + vs.length ≤ cs.length ∧ oneCells vs ∧ k undef (h.set a.block (.row (splice cs a.off vs) tot))) →
        OpTo P o ρ w (fun v w' => Ends h w (k v) w') (fun v w' => Ends h w (KP v) w') := by
      intro vs hvs hsz hin ⟨cs, tot, h1, h2, h3, h4, h5⟩
      have hi : ∃ i, P.info? t = some i := by
        rcases hin with hin | hin
        · exact info_some_of_size hin
        · exact hin
      obtain ⟨i, hi⟩ := hi
      have hrs : (sizeOf t).run P w = .ok (sizeP P t) w := by simp [run_sizeOf' hi, sizeP, hi]
      obtain ⟨sp, ty, fr, hh1, hh2, _⟩ := r _ _ h2
      have htot : a.off + vs.length ≤ tot := by rw [← hh2]; simp; omega
      obtain ⟨w', e1, e2, e3⟩ := store_cells (P := P) r h1 h2 h4 (off := a.off) (by omega) htot rfl
      have hne : ¬ v.cells.size ≠ sizeP P t := by rw [hsz, ← hvs]; simp
      have hrun : (execOp ρ o).run P w = .ok .skip w' := by
        simp only [execOp, ho, hf x _ hx, hf y _ hy, Instr.storeAt, Instr.sureAddr, storeVar, Sem.run_bind, Sem.run_pure, Result.andThen_ok, hrs]
        rw [if_neg hne]
        simp [hvs, e1]
      simp only [OpTo, hrun]
      exact ⟨_, h5, e2, e3⟩
    have one : v.cells.toList = [v] → (match sizeP P t with | 1 => pSt a v (k undef) | _ => F) h → OpTo P o ρ w (fun v w' => Ends h w (k v) w') (fun v w' => Ends h w (KP v) w') := fun hc s' => by
      by_cases h1 : sizeP P t = 1
      · simp only [h1] at s'
        obtain ⟨cs, tot, g1, g2, g3, g4, g5⟩ := s'
        refine key [v] hc (by simp [h1]) (.inl (by omega)) ⟨cs, tot, g1, g2, by simp; omega, fun u hu => by simp at hu; subst hu; exact g4, ?_⟩
        rw [splice_one _ _ _ g3]; exact g5
      · exfalso
        rcases hn : sizeP P t with _ | _ | n
        · rw [hn] at s'; exact s'
        · exact h1 hn
        · rw [hn] at s'; exact s'
    by_cases hs : shapeOf P t = .any
    · simp only [hs] at s
      refine one ?_ s
      by_cases h1 : sizeP P t = 1
      · simp only [h1] at s
        obtain ⟨cs, tot, g1, g2, g3, g4, g5⟩ := s
        exact one_cells g4
      · exfalso
        rcases hn : sizeP P t with _ | _ | n
        · rw [hn] at s; exact s
        · exact h1 hn
        · rw [hn] at s; exact s
    · have s2 : (match v with
        | .agg cs => (match sizeP P t with
          | 0 => F
          | n + 1 => pStA (n + 1) a cs.toList (k undef))
        | v => match sizeP P t with
          | 1 => pSt a v (k undef)
          | _ => F) h := by
        cases hsh : shapeOf P t <;> simp only [hsh] at s hs <;> first | exact absurd trivial hs | exact s
      by_cases hv : ∃ cs, v = .agg cs
      · obtain ⟨cs', rfl⟩ := hv
        simp only at s2
        cases h0 : sizeP P t with
        | zero => simp only [h0] at s2; exact s2.elim
        | succ n =>
          simp only [h0] at s2
          obtain ⟨cs, tot, h1, h2, h3, h4, h5, h6⟩ := s2
          exact key cs'.toList (by simp [Value.cells]) (by omega) (.inl (by omega)) ⟨cs, tot, h1, h2, by rw [h4]; exact h3, h5, h6⟩
      · exact one (by cases v <;> first | rfl | exact absurd ⟨_, rfl⟩ hv) (by cases v <;> first | exact s2 | exact absurd ⟨_, rfl⟩ hv)

theorem args_arr {ρ : Operand → Value} {as : Array Operand} {vs : List Value} (hf : Fits e ρ) (hv : (as.toList.map e).map EV.get = vs.map some) : as.map ρ = vs.toArray := fits_arr hf as vs hv

theorem sem_len {c : Call} {t : TypeId} {ts : List TypeId} {v : Value} {vs : List Value} (ho : o.op = .call c) (hc : c.callee = .builtin .len) (ht : c.argTypes.toList = t :: ts) (hv : (c.args.toList.map e).map EV.get = (v :: vs).map some)
    (s : vcLen P t v k h) : SemP P o e k h := by
  have hat : c.argTypes[0]? = some t := by rw [← Array.getElem?_toList, ht]; rfl
  have mk : ∀ n : Int, (∀ w, (Builtin.len_ c.argTypes o.type (v :: vs).toArray).run P w = .ok (.int .i64 n) w) → k (.int .i64 n) h → SemP P o e k h := fun n hr hk =>
    ⟨_, fun ρ w hf => by simp only [execOp, ho, resolve, hc, fits_arr hf _ _ hv, invoke, builtin, Sem.run_bind, Sem.run_pure, Result.andThen_ok, hr], hk⟩
  unfold vcLen at s
  cases hu : P.underlying t with
  | none => simp only [hu] at s; exact s.elim
  | some d =>
    simp only [hu] at s
    cases d <;> try exact s.elim
    case string =>
      cases v <;> try exact s.elim
      exact mk _ (fun w => by simp [Builtin.len_, hat, run_underlying hu, goInt]) s
    case slice el =>
      cases v <;> try exact s.elim
      exact mk _ (fun w => by simp [Builtin.len_, hat, run_underlying hu, goInt]) s
    case array n el =>
      exact mk _ (fun w => by simp [Builtin.len_, hat, run_underlying hu, goInt]) s

theorem sem_minmax {c : Call} {vs : List Value} {mx : Bool} (ho : o.op = .call c) (hc : c.callee = .builtin (if mx then .max else .min)) (hv : (c.args.toList.map e).map EV.get = vs.map some)
    (s : vcMinMax mx vs k h) : SemP P o e k h := by
  unfold vcMinMax at s
  match vs, s, hv with
  | [.int i a, .int j b], s, hv =>
    refine ⟨_, fun ρ w hf => ?_, s⟩
    cases mx <;> simp only [Bool.false_eq_true, if_false, if_true] at hc
    · simp [execOp, ho, resolve, hc, fits_arr hf _ _ hv, invoke, builtin, Builtin.min_, Builtin.min2]
    · simp [execOp, ho, resolve, hc, fits_arr hf _ _ hv, invoke, builtin, Builtin.max_, Builtin.max2]

theorem sem_pCall {f : FuncId} {args : List Value} {r : RShape} {kk : r.T → Pr} (hrun : ∀ ρ w, Fits e ρ → (execOp ρ o).run P w = (callFunc f args.toArray).run P w)
    (s : pCall P f args KP r kk h) (hk : ∀ x g, kk x g → k (r.inj x) g) : SemE P o e KP k h := fun ρ w hf hr => by
  obtain ⟨h1, h2⟩ := s
  simp only [OpTo, hrun ρ w hf, h1]
  refine (h2 w hr).mono fun en w' he => ?_
  cases en with
  | returned v => exact he.mono fun g hg => by obtain ⟨x, rfl, hx⟩ := hg; exact hk x g hx
  | panicked ch => cases ch with
    | nil => exact he
    | cons p t => cases t <;> exact he
  | outgrown => exact he

theorem sem_call {c : Call} (ho : o.op = .call c) {f : FuncId} (hc : c.callee = .value (.func f)) (hef : e (.func f) = .val (.func (.func f) #[] #[])) {vs : List Value} (hv : (c.args.toList.map e).map EV.get = vs.map some) {t : TypeId}
    (s : pCall P f vs KP (rshapeOf P t) (fun x => k ((rshapeOf P t).inj x)) h) : SemE P o e KP k h :=
  sem_pCall (fun ρ w hf => by
    have hff := hf (.func f) _ (by rw [hef]; rfl)
    simp [execOp, ho, resolve, hc, fits_arr hf _ _ hv, hff, Deferred.ofValue, invoke]) s (fun _ _ hx => hx)

theorem sem_callv {c : Call} (ho : o.op = .call c) {x : Operand} (hc : c.callee = .value x) {g : FuncId} {first caps : Array Value} (hx : (e x).get = some (.func (.func g) first caps)) {vs : List Value} (hv : (c.args.toList.map e).map EV.get = vs.map some) {t : TypeId}
    (s : pCall P g ((first.toList ++ vs) ++ caps.toList) KP (rshapeOf P t) (fun x => k ((rshapeOf P t).inj x)) h) : SemE P o e KP k h :=
  sem_pCall (fun ρ w hf => by
    have hff := hf x _ hx
    have ha : (first.toList ++ vs ++ caps.toList).toArray = first ++ vs.toArray ++ caps := by apply Array.ext'; simp
    rw [ha]
    simp [execOp, ho, resolve, hc, fits_arr hf _ _ hv, hff, Deferred.ofValue, invoke]) s (fun _ _ hx => hx)

theorem sem_callV {c : Call} (ho : o.op = .call c) {x : Operand} (hc : c.callee = .value x) {v : Value} (hx : (e x).get = some v) {vs : List Value} (hv : (c.args.toList.map e).map EV.get = vs.map some) {t : TypeId}
    (s : pCallV P v vs KP (rshapeOf P t) (fun x => k ((rshapeOf P t).inj x)) h) : SemE P o e KP k h := by
  unfold pCallV WpVal at s
  cases v <;> try exact s.elim
  rename_i fn first caps
  cases fn <;> try exact s.elim
  rename_i g
  refine sem_callv ho hc hx hv (t := t) ?_
  simp only at s
  unfold pCall
  have ha : (first.toList ++ vs ++ caps.toList).toArray = first ++ vs.toArray ++ caps := by apply Array.ext'; simp
  rw [ha]; exact s

theorem sl_load {h : Heap} {w : World} (r : R h w) {s : Sl} {size : Nat} {xs : List Value} (hv : s.vals size h xs) :
    (Builtin.firstCells size s.len (.slice s.base s.len s.cap)).run P w = .ok xs.toArray w := by
  unfold Sl.vals at hv
  cases hb : s.base with
  | none => simp only [hb] at hv; simp [Builtin.firstCells, hv.2]
  | some a => simp only [hb] at hv; simp [Builtin.firstCells, vals_load r hv]

theorem sl_length {h : Heap} {s : Sl} {size : Nat} {xs : List Value} (hv : s.vals size h xs) : xs.length = s.len * size := by
  unfold Sl.vals at hv
  cases hb : s.base with
  | none => simp only [hb] at hv; simp [hv.1, hv.2]
  | some a => simp only [hb] at hv; exact (vals_cell hv).2.1

theorem zeroCells_size (z : Array Value) (n : Nat) : (Builtin.zeroCells z n).size = n * z.size := by simp [Builtin.zeroCells]

theorem sem_append {c : Call} {t u : TypeId} {el el' : TypeId} {s x : Sl} (ho : o.op = .call c) (hc : c.callee = .builtin .append) (ht : c.argTypes.toList = [t, u]) (hv : (c.args.toList.map e).map EV.get = [some (.slice s.base s.len s.cap), some (.slice x.base x.len x.cap)])
    (hu : P.underlying t = some (.slice el)) (hu' : P.underlying u = some (.slice el')) (hz : zeroOk P el = true) (h0 : sizeP P el ≠ 0) (hb0 : bytesP P el ≠ 0)
    (sp : pAppend (sizeP P el) (bytesP P el) s x (fun s => k (.slice s.base s.len s.cap)) h) : SemE P o e KP k h := fun ρ w hf r => by
  obtain ⟨old, new, ho1, hn1, hroom, hone, hin, hout⟩ := sp
  have hat0 : c.argTypes[0]? = some t := by rw [← Array.getElem?_toList, ht]; rfl
  have hat1 : c.argTypes[1]? = some u := by rw [← Array.getElem?_toList, ht]; rfl
  have hargs : c.args.map ρ = #[.slice s.base s.len s.cap, .slice x.base x.len x.cap] := fits_arr hf _ [_, _] hv
  obtain ⟨i, hi⟩ := info_some_of_size h0
  have hti : (typeInfo el).run P w = .ok i w := by simp [typeInfo, hi]
  have hbytes : i.bytes = bytesP P el := by simp [bytesP, hi]
  obtain ⟨z, hz1, hz2, hz3, hz4⟩ := run_zero hz w
  have hexec : (execOp ρ o).run P w = ((Builtin.append_ c.argTypes o.type #[.slice s.base s.len s.cap, .slice x.base x.len x.cap]).run P w).andThen fun v w' => .ok (.value v) w' := by
    simp only [execOp, ho, resolve, hc, hargs, invoke, builtin, Sem.run_bind, Sem.run_pure, Result.andThen_ok]
  have hzeros : ((underlying u).run P w) = .ok (.slice el') w := run_underlying hu' w
  by_cases hfit : s.len + x.len ≤ s.cap
  · have hi2 := hin hfit
    cases hb : s.base with
    | none =>
      rw [hb] at hi2
      have hrun : (Builtin.append_ c.argTypes o.type #[.slice s.base s.len s.cap, .slice x.base x.len x.cap]).run P w = .ok (.slice none (s.len + x.len) s.cap) w := by
        have hl := sl_load (P := P) r hn1
        simp [Builtin.append_, hat0, hat1, run_underlying hu, run_underlying hu', run_size_ne h0, Builtin.lenOf, hfit, hb, hl]
      simp only [OpTo, hexec, hrun, Result.andThen_ok]
      exact .here r hi2
    | some a =>
      rw [hb] at hi2
      obtain ⟨cs, tot, g1, g2, g3, g4, g5⟩ := hi2
      have hnl := sl_length hn1
      have hcap : a.off + s.len * sizeP P el + new.length ≤ tot := by
        have : (s.len + x.len) * sizeP P el ≤ s.cap * sizeP P el := Nat.mul_le_mul_right _ hfit
        rw [Nat.add_mul] at this
        omega
      obtain ⟨w', e1, e2, e3⟩ := store_cells (P := P) (a := a.add (s.len * sizeP P el)) r (add_spot g1 _) (by rw [add_block]; exact g2) hone (off := a.off + s.len * sizeP P el) g3 hcap (add_off _ _).symm
      rw [add_block] at e2 e3
      have hrun : (Builtin.append_ c.argTypes o.type #[.slice s.base s.len s.cap, .slice x.base x.len x.cap]).run P w = .ok (.slice (some a) (s.len + x.len) s.cap) w' := by
        have hl := sl_load (P := P) r hn1
        simp [Builtin.append_, hat0, hat1, run_underlying hu, run_underlying hu', run_size_ne h0, Builtin.lenOf, hfit, hb, hl, e1]
      simp only [OpTo, hexec, hrun, Result.andThen_ok]
      exact ⟨_, g5, e2, e3⟩
  · have hlt : s.cap < s.len + x.len := by omega
    have hgrow : ¬ Builtin.nextslicecap (s.len + x.len) s.cap * i.bytes > 2 ^ 48 := by
      have := growslice_fits (need := s.len + x.len) (old := s.cap) (bytes := i.bytes) hlt (by rw [hbytes]; exact hroom)
      have e : (2 : Nat) ^ 48 = 281474976710656 := by decide
      omega
    have hgrow' : ¬ 281474976710656 < Builtin.nextslicecap (s.len + x.len) s.cap * i.bytes := by
      have e : (2 : Nat) ^ 48 = 281474976710656 := by decide
      omega
    generalize hq : Question.cut (.appendCap (s.len + x.len) s.cap el) (w.tape w.drawn (.appendCap (s.len + x.len) s.cap el)) = cap'
    have hle : s.len + x.len ≤ cap' := by rw [← hq]; simp only [Question.cut]; omega
    have hl1 := fun w' (hw : R h w') => sl_load (P := P) hw ho1
    have hl2 := fun w' (hw : R h w') => sl_load (P := P) hw hn1
    have hrd : R h w.drew := r.of_heap rfl
    have hol := sl_length ho1
    have hnl := sl_length hn1
    have hsz : ¬ i.bytes = 0 := by rw [hbytes]; exact hb0
    have hrun : (Builtin.append_ c.argTypes o.type #[.slice s.base s.len s.cap, .slice x.base x.len x.cap]).run P w =
        .ok (.slice (some ⟨w.heap.size, 0, none⟩) (s.len + x.len) cap') (w.drew.alloc (.cells (old.toArray ++ new.toArray ++ Builtin.zeroCells z.cells (cap' - (s.len + x.len))) el)) := by
      have a1 := hl1 _ hrd
      have a2 := hl2 _ hrd
      have hz1' : (zeroValue el).run P w.drew = .ok z w.drew := by
        have := hz1
        simp only [zeroValue, typeInfo, Sem.run_bind, run_program, Result.andThen_ok, hi, Sem.run_pure] at this ⊢
        cases hiz : i.zero with
        | none => simp [hiz] at this
        | some zz => simp [hiz] at this ⊢; exact this
      have hti' : (typeInfo el).run P w.drew = .ok i w.drew := by simp [typeInfo, hi]
      simp [Builtin.append_, hat0, hat1, run_underlying hu, run_underlying hu', run_size_ne h0, Builtin.lenOf, hti, hfit, hsz, hgrow', Question.forced, hq, a1, a2, hz1', hti', newRow]
      rw [← Array.append_assoc]; simp
    simp only [OpTo, hexec, hrun, Result.andThen_ok]
    have hk := hout hlt w.heap.size cap' r.fresh hle
    have nb := new_block (w := w) (w' := w.drew.alloc (.cells (old.toArray ++ new.toArray ++ Builtin.zeroCells z.cells (cap' - (s.len + x.len))) el)) r (cs := old ++ new) (sp := (Builtin.zeroCells z.cells (cap' - (s.len + x.len))).toList) (ty := el) (fr := (0, 0))
      (by show w.heap.push _ = w.heap.push _; congr 2; apply Array.ext'; simp) rfl rfl rfl (calm0 _)
    have htot : (old ++ new ++ (Builtin.zeroCells z.cells (cap' - (s.len + x.len))).toList).length = cap' * sizeP P el := by
      simp only [List.length_append, Array.length_toList, zeroCells_size, hol, hnl, hz3]
      rw [← Nat.add_mul, ← Nat.add_mul]
      congr 1; omega
    rw [htot] at nb
    exact ⟨_, hk, nb.1, nb.2⟩

end
end Go.Hl
