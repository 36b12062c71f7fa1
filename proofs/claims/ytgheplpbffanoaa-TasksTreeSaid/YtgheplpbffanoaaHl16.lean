/- The heap logic: rules for walks: cells are looked up by their block. -/
import Derived.Test.YtgheplpbffanoaaHl15
set_option linter.unusedSectionVars false
namespace Go.Hl

theorem Heap.set_none {h : Heap} {b i : Nat} {x : Blk} : (h.set b x) i = none ↔ i ≠ b ∧ h i = none := by
  unfold Heap.set
  by_cases e : i = b
  · simp [e]
  · simp [e]
theorem Heap.look_ne {h : Heap} {b i : Nat} {x : Blk} {y : Option Blk} (e : i ≠ b) (k : h i = y) : (h.set b x) i = y := by rw [Heap.set_ne _ _ e]; exact k

theorem pSome_some (a : Addr) (k : Addr → Pr) : pSome (some a) k = k a := by
  funext h; simp [pSome]
theorem pJoin_eq {σ : Type} (body : (σ → Pr) → Pr) (k : σ → Pr) : pJoin body k = body k := rfl
theorem pKeep_eq (f p : Pr) (h : Heap) : pKeep f p h = (f h ∧ p h) := rfl

section
variable {h : Heap} {p : Pr}
/-- A load, by its block. -/
theorem ld_b {s : Shape} {b o : Nat} {k : s.T → Pr} {cs : List Value} {tot : Nat} {x : s.T} (hb : h b = some (.row cs tot)) (hx : cs[o]? = some (s.inj x)) (hk : k x h) : pLd s ⟨b, o, none⟩ k h :=
  ⟨x, by rw [cell_row hb]; exact hx, hk⟩
theorem ldA_b {n b o : Nat} {k : List Value → Pr} {cs xs : List Value} {tot : Nat} (hb : h b = some (.row cs tot)) (hx : cut cs o n = some xs) (hk : k xs h) : pLdA n ⟨b, o, none⟩ k h :=
  ⟨xs, by rw [vals_row hb]; exact hx, hk⟩
theorem ldA_all {n b : Nat} {k : List Value → Pr} {cs : List Value} {tot : Nat} (hb : h b = some (.row cs tot)) (hn : cs.length = n) (hk : k cs h) : pLdA n ⟨b, 0, none⟩ k h :=
  ldA_b hb (cut_all' hn) hk
theorem st_b {b o : Nat} {v : Value} {cs : List Value} {tot : Nat} (hb : h b = some (.row cs tot)) (ho : o < cs.length) (h1 : v.oneCell' = true) (hp : p (h.set b (.row (cs.set o v) tot))) : pSt ⟨b, o, none⟩ v p h :=
  pSt_i hb ho h1 hp
theorem stA_b {n b o : Nat} {vs cs : List Value} {tot : Nat} (hb : h b = some (.row cs tot)) (ho : o + n ≤ cs.length) (hl : vs.length = n) (h1 : oneCells vs) (hp : p (h.set b (.row (splice cs o vs) tot))) : pStA n ⟨b, o, none⟩ vs p h :=
  pStA_i hb ho hl h1 hp
theorem stA_all {n b : Nat} {vs cs : List Value} {tot : Nat} (hb : h b = some (.row cs tot)) (hc : cs.length = n) (hl : vs.length = n) (h1 : oneCells vs) (hp : p (h.set b (.row vs tot))) : pStA n ⟨b, 0, none⟩ vs p h :=
  pStA_whole hb hc hl h1 hp
theorem keep_cell {P : Program} {t : TypeId} {b o : Nat} {v : Value} {cs : List Value} {tot : Nat} (s : Shape) (hs : (P.underlying t).map shapeD = some s) (hn : s ≠ .agg) (hb : h b = some (.row cs tot)) (hx : cs[o]? = some v) (hp : p h) :
    pKeep (loadF P t (.pointer (some ⟨b, o, none⟩)) v) p h := ⟨loadF_cell s hs hn (by rw [cell_row hb]; exact hx), hp⟩
theorem keep_agg {P : Program} {t : TypeId} {b o n : Nat} {xs cs : List Value} {tot : Nat} (hs : (P.underlying t).map shapeD = some .agg) (hn : sizeP P t = n) (hb : h b = some (.row cs tot)) (hx : cut cs o n = some xs) (hp : p h) :
    pKeep (loadF P t (.pointer (some ⟨b, o, none⟩)) (.agg xs.toArray)) p h := ⟨loadF_vals hs hn (by rw [vals_row hb]; exact hx), hp⟩
/-- A new variable that is written whole. -/
theorem new_st {n : Nat} {cs vs : List Value} {k : Nat → Pr} (hc : cs.length = n) (hl : vs.length = n) (h1 : oneCells vs) (hk : ∀ b, h b = none → k b (h.set b (.row vs n))) : pNew cs (fun b => pStA n ⟨b, 0, none⟩ vs (k b)) h := by
  intro b hb
  have := hk b hb
  refine stA_all (Heap.set_same _ _ _) hc hl h1 ?_
  rw [Heap.set_set, hc]; exact this
end

theorem le_refl' {g h : Heap} (e : g = h) : Heap.le g h := by subst e; exact Heap.le_refl _
theorem le_new {g h : Heap} {b : Nat} {x : Blk} (e : h b = none) (l : Heap.le g h) : Heap.le g (h.set b x) := Heap.le_set_new l e x
theorem len_set {l : List Value} {n : Nat} (h : l.length = n) (o : Nat) (v : Value) : (l.set o v).length = n := by rw [List.length_set]; exact h

/-- A loop that goes up to a bound. -/
theorem pLoop_up {σ : Type} {body : σ → (σ → Pr) → Pr} (I : σ → Heap → Prop) (μ : σ → Nat) {s : σ} {h : Heap} (hi : I s h)
    (step : ∀ s h (k : σ → Pr), I s h → (∀ s' h', I s' h' → μ s' < μ s → k s' h') → body s k h) : pLoop body s h := pLoop_rule I μ step hi

end Go.Hl
