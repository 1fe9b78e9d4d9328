/- What the shallow reading says holds of the code itself, for a goroutine in company: each operation. -/
import Derived.Test.YtmkgnbcpcfojfaaCvOps
set_option linter.unusedVariables false
set_option linter.unusedSimpArgs false
namespace Go.Cv
open Go.Conc

section
variable {ty : Nat} {ro : Nat → Prop} {W W' W'' w w' w'' : World}
theorem Mov.trans (h : Mov ty ro W W' w w' #[]) (h' : Mov ty ro W' W'' w' w'' #[]) : Mov ty ro W W'' w w'' #[] := by
  refine ⟨Nat.le_trans h.size h'.size, Nat.le_trans h.vsize h'.vsize, fun b hb hl => (h'.low b hb (Nat.lt_of_lt_of_le hl h.size)).trans (h.low b hb hl), fun b hb hl => (h'.vlow b hb (Nat.lt_of_lt_of_le hl h.vsize)).trans (h.vlow b hb hl), fun b hb => ?_, fun e he => by simp at he, ⟨h'.rest.1.trans h.rest.1, h'.rest.2.1.trans h.rest.2.1, h'.rest.2.2.trans h.rest.2.2⟩, fun b c fr hb hc => let ⟨c', fr', hc'⟩ := h'.tyb b c fr (Nat.lt_of_lt_of_le hb h.vsize) hc; h.tyb b c' fr' hb hc'⟩
  have h1 := h.hid b hb
  have h2 := h'.hid b (h1.2 ▸ hb)
  exact ⟨h2.1.trans h1.1, h2.2.trans h1.2⟩
theorem Mov.withEv (h : Mov ty ro W W' w w' #[]) {es : Array Event} (he : ∀ e ∈ es, EvC ty ro W' w' e) : Mov ty ro W W' w w' es := ⟨h.size, h.vsize, h.low, h.vlow, h.hid, he, h.rest, h.tyb⟩
theorem modify_get (A : Array Obj) (i : Nat) (f : Obj → Obj) (b : Nat) : (A.modify i f)[b]? = if i = b then (A[b]?).map f else A[b]? := by
  simp only [Array.getElem?_modify]
theorem setCell_get (w : World) (a : Addr) (v : Value) (b : Nat) (hb : b ≠ a.block) : (w.setCell a v).heap[b]? = w.heap[b]? := by
  simp only [World.setCell, modify_get]
  rw [if_neg (Ne.symm hb)]
theorem setCell_at (w : World) (a : Addr) (v : Value) {c : Array Value} {e : Nat} {fr : Nat × Nat} (h : w.heap[a.block]? = some (.cells c e fr)) :
    (w.setCell a v).heap[a.block]? = some (.cells (if a.spot.isSome then c else c.setIfInBounds a.off v) e fr) := by
  simp only [World.setCell, modify_get]
  rw [if_pos trivial, h]; rfl
theorem setCell_size (w : World) (a : Addr) (v : Value) : (w.setCell a v).heap.size = w.heap.size := by simp [World.setCell]
theorem Sim.setCell {ext : Bool} (s : Sim ty ext W w) {a : Addr} {u v : Value} (h : W.cell? a = some u) : Sim ty ext (W.setCell a v) (w.setCell a v) := by
  obtain ⟨_, _, c, e, fr, hb, he⟩ := s.cell h
  have hl := s.like _ _ hb
  simp only [Like, if_neg he] at hl
  refine ⟨by rw [setCell_size, setCell_size]; exact s.size, fun b o ho => ?_, s.tape, s.os, s.output⟩
  by_cases e1 : b = a.block
  · subst e1
    rw [setCell_at W a v hb] at ho
    cases ho
    rw [setCell_at w a v hl]
    simp only [Like, if_neg he]
  · rw [setCell_get _ _ _ _ e1] at ho ⊢
    exact s.like b o ho
theorem Mov.setCell {ext : Bool} (s : Sim ty ext W w) {a : Addr} {v : Value} (h : wr ro W a) : Mov ty ro W (W.setCell a v) w (w.setCell a v) #[] := by
  obtain ⟨⟨u, hu⟩, _, hro⟩ := h
  obtain ⟨_, _, c, e, fr, hb, he⟩ := s.cell hu
  refine ⟨by rw [setCell_size]; exact Nat.le_refl _, by rw [setCell_size]; exact Nat.le_refl _, fun b hb' _ => setCell_get _ _ _ _ (fun e => hro (e ▸ hb')), fun b hb' _ => setCell_get _ _ _ _ (fun e => hro (e ▸ hb')), fun b hh => ?_, fun e he => by simp at he, ⟨rfl, rfl, rfl⟩, fun b c' fr' hb' hc => ?_⟩
  rotate_left
  · by_cases e1 : b = a.block
    · subst e1
      rw [setCell_at W a v hb] at hc
      simp only [Option.some.injEq, Obj.cells.injEq] at hc
      exact absurd hc.2.1 he
    · rw [setCell_get _ _ _ _ e1] at hc; exact ⟨_, _, hc⟩
  have hne : b ≠ a.block := by
    rintro rfl
    rw [hb] at hh
    exact he hh
  exact ⟨setCell_get _ _ _ _ hne, setCell_get _ _ _ _ hne⟩
theorem wr_set {a b : Addr} {v : Value} (h : wr ro W b) : wr ro (W.setCell a v) b := by
  obtain ⟨⟨u, hu⟩, hf, hro⟩ := h
  refine ⟨?_, ?_, hro⟩
  · unfold World.cell? World.setCell at *
    simp only [Array.getElem?_modify] at *
    by_cases e : a.block = b.block
    · rw [if_pos e]
      cases hb : W.heap[b.block]? with
      | none => rw [hb] at hu; cases hu
      | some o =>
        rw [hb] at hu
        cases o <;> simp only [Option.map_some] at hu ⊢ <;> try (cases hu; done)
        split at hu
        · cases hu
        · rename_i hs
          rw [if_neg hs]
          split
          · exact ⟨u, hu⟩
          · rename_i c _ _ _
            rw [Array.getElem?_setIfInBounds]
            split
            · rename_i e2
              have hlt : b.off < c.size := by
                rcases Nat.lt_or_ge b.off c.size with h | h
                · exact h
                · rw [Array.getElem?_eq_none h] at hu; cases hu
              rw [if_pos (e2 ▸ hlt)]; exact ⟨v, rfl⟩
            · exact ⟨u, hu⟩
    · rw [if_neg e]; exact ⟨u, hu⟩
  · unfold World.frozen? World.setCell at *
    simp only [Array.getElem?_modify] at *
    by_cases e : a.block = b.block
    · rw [if_pos e]
      cases hb : W.heap[b.block]? with
      | none => rfl
      | some o =>
        rw [hb] at hf
        cases o <;> simp only [Option.map_some] at hf ⊢ <;> first | exact hf | rfl
    · rw [if_neg e]; exact hf
/-- A block's type and kind stand under a store. -/
theorem setCell_block (w : World) (a : Addr) (v : Value) (b : Nat) {c : Array Value} {e : Nat} {fr : Nat × Nat} (h : w.heap[b]? = some (.cells c e fr)) :
    ∃ c', (w.setCell a v).heap[b]? = some (.cells c' e fr) := by
  by_cases e1 : b = a.block
  · subst e1; exact ⟨_, setCell_at w a v h⟩
  · exact ⟨c, (setCell_get w a v b e1).trans h⟩
theorem setN_block (a : Addr) : ∀ (vs : List Value) (i : Nat) (w : World) (b : Nat) {c : Array Value} {e : Nat} {fr : Nat × Nat}, w.heap[b]? = some (.cells c e fr) →
    ∃ c', (setN a i vs w).heap[b]? = some (.cells c' e fr)
  | [], i, w, b, c, e, fr, h => ⟨c, h⟩
  | v :: vs, i, w, b, c, e, fr, h => by
    obtain ⟨c1, h1⟩ := setCell_block w (a.add i) v b h
    exact setN_block a vs (i + 1) _ b h1
theorem setN_size (a : Addr) : ∀ (vs : List Value) (i : Nat) (w : World), (setN a i vs w).heap.size = w.heap.size
  | [], i, w => rfl
  | v :: vs, i, w => by rw [setN, setN_size, setCell_size]
theorem alloc_get (w : World) (o : Obj) (b : Nat) (hb : b < w.heap.size) : (w.alloc o).heap[b]? = w.heap[b]? := by
  rw [heap_push, Array.getElem?_push_lt hb, Array.getElem?_eq_getElem hb]
theorem Mov.alloc (hs : w.heap.size = W.heap.size) (o o' : Obj) : Mov ty ro W (W.alloc o) w (w.alloc o') #[] := by
  refine ⟨by simp [heap_push], by simp [heap_push], fun b hb hl => alloc_get _ _ _ hl, fun b hb hl => alloc_get _ _ _ hl, fun b hh => ?_, fun e he => by simp at he, ⟨rfl, rfl, rfl⟩, fun b c fr hb hc => ⟨c, fr, by rw [← alloc_get _ _ _ hb]; exact hc⟩⟩
  have := hid_lt hh
  exact ⟨alloc_get _ _ _ (by omega), alloc_get _ _ _ this⟩
end

/-! ### What an operation comes to -/
section
variable (X : Cx)
def EvX (W' w' : World) : Event → Prop := EvC X.ty X.co.ro W' w'
def EffV (s : Sem Next) (K : Value → World → Prop) (W : World) : Prop := ∀ w, Sim X.ty X.ext W w →
  (∃ v w' W', Rn X.P s w (.value v) w' (EvX X W' w') ∧ Mov X.ty X.co.ro W W' w w' #[] ∧ Sim X.ty X.ext W' w' ∧ (X.ext = true → w'.heap = w.heap ∧ W' = W) ∧ K v W') ∨
  (∃ w' W', Rn X.P s w .skip w' (EvX X W' w') ∧ Mov X.ty X.co.ro W W' w w' #[] ∧ Sim X.ty X.ext W' w' ∧ (X.ext = true → w'.heap = w.heap ∧ W' = W) ∧ K undef W') ∨
  (∃ f args, Rn X.P s w (.enter f args) w (fun _ => False) ∧ CallsJ X.P X.co f args W K)
def EQV (s : Sem Next) (K : Value → World → Prop) (W : World) : Prop := ∃ v, K v W ∧ ∀ w, Sim X.ty X.ext W w → Rn X.P s w (.value v) w (EvX X W w)
def EPV (s : Sem Next) (K : Value → World → Prop) (W : World) : Prop := ∃ v, K v W ∧ Sil X.P s (.value v)
/-- What an operation comes to: with an effect; reading alone; hanging on no memory. -/
def Com (s : Sem Next) (E R : Bool) (K : Value → World → Prop) (W : World) : Prop :=
  EffV X s K W ∧ (E = false → EQV X s K W) ∧ (E = false → R = false → EPV X s K W)
end
section
variable {X : Cx} {K : Value → World → Prop} {W : World} {E R : Bool}
theorem EPV.q {s : Sem Next} (h : EPV X s K W) : EQV X s K W := let ⟨v, hK, hs⟩ := h; ⟨v, hK, fun w _ => hs.rn⟩
theorem EQV.eff {s : Sem Next} (h : EQV X s K W) : EffV X s K W := fun w hw => let ⟨v, hK, hs⟩ := h; .inl ⟨v, w, W, hs w hw, Mov.refl _ _ _ _, hw, fun _ => ⟨rfl, rfl⟩, hK⟩
def PurV (X : Cx) (s : Sem Value) (K : Value → World → Prop) (W : World) : Prop := ∃ v, K v W ∧ Sil X.P s v
theorem com_pur {s : Sem Value} (h : PurV X s K W) : Com X (do pure (.value (← s))) E R K W := by
  obtain ⟨v, hK, hs⟩ := h
  have hp : EPV X (do pure (.value (← s))) K W := ⟨v, hK, hs.bind (sil_pure _)⟩
  exact ⟨hp.q.eff, fun _ => hp.q, fun _ _ => hp⟩
theorem com_value {v : Value} (h : K v W) : Com X (pure (.value v)) E R K W := by
  have hp : EPV X (pure (.value v)) K W := ⟨v, h, sil_pure _⟩
  exact ⟨hp.q.eff, fun _ => hp.q, fun _ _ => hp⟩
theorem com_qui {s : Sem Value} (h : ∃ v, K v W ∧ ∀ w, Sim X.ty X.ext W w → Rn X.P s w v w (EvX X W w)) (hR : R = true) : Com X (do pure (.value (← s))) E R K W := by
  obtain ⟨v, hK, hs⟩ := h
  have hq : EQV X (do pure (.value (← s))) K W := ⟨v, hK, fun w hw => (hs w hw).bind (rn_pure _)⟩
  exact ⟨hq.eff, fun _ => hq, fun _ h => absurd (hR.symm.trans h) (by decide)⟩
theorem com_val {s : Sem Value} (h : ∀ w, Sim X.ty X.ext W w → ∃ v w' W', Rn X.P s w v w' (EvX X W' w') ∧ Mov X.ty X.co.ro W W' w w' #[] ∧ Sim X.ty X.ext W' w' ∧ K v W') (hx : X.ext = false) (hE : E = true) :
    Com X (do pure (.value (← s))) E R K W :=
  ⟨fun w hw => let ⟨v, w', W', h1, h2, h3, h4⟩ := h w hw; .inl ⟨v, w', W', h1.bind (rn_pure _), h2, h3, fun e => absurd (hx.symm.trans e) (by decide), h4⟩, fun h => absurd (hE.symm.trans h) (by decide), fun h => absurd (hE.symm.trans h) (by decide)⟩
theorem com_eff {s : Sem Next} (h : EffV X s K W) (hE : E = true) : Com X s E R K W :=
  ⟨h, fun e => absurd (hE.symm.trans e) (by decide), fun e => absurd (hE.symm.trans e) (by decide)⟩
theorem pur_pure {s : Sem Value} (h : optP (pureOf X.P s) fun v => K v W) : PurV X s K W := by
  obtain ⟨v, hv, hK⟩ := optP_some h
  exact ⟨v, hK, sil_pureOf hv⟩

/-- The operands have these values. -/
def Ag (σ : Env) (ρ : Operand → Value) (xs : List Operand) : Prop := ∀ x ∈ xs, ∀ v, σ.ev x = some v → ρ x = v
section
variable {σ : Env} {ρ : Operand → Value}
theorem evL_some : ∀ {xs : List Operand} {k : List Value → Prop}, evL σ xs k → Ag σ ρ xs → k (xs.map ρ)
  | [], k, h, _ => h
  | x :: xs, k, h, ha => by
    obtain ⟨v, hv, h⟩ := optP_some h
    have e := ha x (by simp) v hv
    subst e
    exact evL_some (xs := xs) (k := fun vs => k (ρ x :: vs)) h fun y hy => ha y (by simp [hy])
theorem evO_some {o : Option Operand} {k : Option Value → Prop} (h : evO σ o k) (ha : Ag σ ρ o.toList) : k (o.map ρ) := by
  cases o with
  | none => exact h
  | some x =>
    obtain ⟨v, hv, h⟩ := optP_some h
    have e := ha x (by simp) v hv
    subst e
    exact h
theorem evParts_some : ∀ {ps : List (Nat × Operand)} {k : List (Nat × Value) → Prop}, evParts σ ps k → Ag σ ρ (ps.map (·.2)) → k (ps.map fun p => (p.1, ρ p.2))
  | [], k, h, _ => h
  | (i, x) :: ps, k, h, ha => by
    obtain ⟨v, hv, h⟩ := optP_some h
    have e := ha x (by simp) v hv
    subst e
    exact evParts_some (ps := ps) (k := fun vs => k ((i, ρ x) :: vs)) h fun y hy => ha y (by simp at hy ⊢; exact .inr hy)
end
theorem asPtr_some {v : Value} {a : Addr} (h : asPtr v = some a) : v = .pointer (some a) := by
  cases v <;> simp [asPtr] at h
  subst h; rfl
theorem asI_some {v : Value} {r : IntKind × Int} (h : asI v = some r) : v = .int r.1 r.2 := by
  cases v <;> simp [asI] at h
  subst h; rfl
theorem gv_some {v : Value} {b : Bool} (h : gv v = some b) : v = .bool b := by
  cases v <;> simp [gv] at h
  subst h; rfl
theorem asFn_some {v : Value} {r : FuncId × Array Value × Array Value} (h : asFn v = some r) : v = .func (.func r.1) r.2.1 r.2.2 := by
  cases v <;> simp [asFn] at h
  rename_i f a b
  cases f <;> simp at h
  subst h; rfl

/-! ### Loads -/
theorem ev_read {w : World} (s : Sim X.ty X.ext W w) {a : Addr} {v : Value} (h : W.cell? a = some v) : EvX X W w ⟨.cell a, false, false⟩ := by
  obtain ⟨_, _, c, e, fr, hb, he⟩ := s.cell h
  exact .inr ⟨a, false, rfl, Nat.lt_of_lt_of_le (lt_of_known hb) s.le, fun h => by simp at h, c, e, fr, hb, he⟩
theorem cells_of : ∀ {vs : List Value} {a : Addr} {i : Nat} {R : Prop}, cellsAre W a i vs R → R ∧ ∀ j v, vs[j]? = some v → W.cell? (a.add (i + j)) = some v
  | [], a, i, R, h => ⟨h, fun j v hv => by simp at hv⟩
  | u :: vs, a, i, R, h => by
    obtain ⟨hu, h⟩ := h
    obtain ⟨hR, hc⟩ := cells_of h
    refine ⟨hR, fun j v hv => ?_⟩
    cases j with
    | zero => simp at hv; subst hv; exact hu
    | succ j =>
      have := hc j v (by simpa using hv)
      rw [show i + (j + 1) = i + 1 + j by omega]; exact this
theorem q_load {t : Nat} {a : Addr} (h : tyS X t fun s => ldWp s W a fun u => K u W) :
    ∃ v, K v W ∧ ∀ w, Sim X.ty X.ext W w → Rn X.P (loadVar t a) w v w (EvX X W w) := by
  obtain ⟨d, hd, h⟩ := optP_some h
  obtain ⟨i, hi, h⟩ := optP_some h
  obtain ⟨s, hs, h⟩ := optP_some h
  cases s with
  | lf l =>
    cases hb : isAggD d with
    | true => simp only [hb, cond_true] at h
    | false =>
      simp only [hb, cond_false] at h
      obtain ⟨v, hc, hK⟩ := exL_some h
      refine ⟨v, hK, fun w hw => ?_⟩
      refine (sil_isAgg hd).rn.bind ?_
      simp only [hb, Bool.false_eq_true, if_false]
      exact rn_load (hw.cell hc).1 (ev_read hw hc)
  | agg ls =>
    obtain ⟨hb, h⟩ := bif_true h
    simp only [Bool.and_eq_true, Nat.beq_eq] at hb
    obtain ⟨vs, hl, h⟩ := exLs_some h
    obtain ⟨hK, hc⟩ := cells_of h
    refine ⟨_, hK, fun w hw => ?_⟩
    refine (sil_isAgg hd).rn.bind ?_
    simp only [hb.1, if_true]
    refine (Rn.bind (sil_sizeOf hi).rn ?_ : Rn X.P (do let n ← sizeOf t; let cs ← loadCells a n; pure (Value.agg cs)) w _ w _)
    rw [hb.2, ← hl]
    refine (rn_loadCells a vs fun j v hv => ?_).bind (rn_pure _)
    have := hc j v hv
    rw [Nat.zero_add] at this
    exact ⟨(hw.cell this).1, ev_read hw this⟩

/-! ### Stores -/
theorem ev_write {w w' : World} {W' : World} (s : Sim X.ty X.ext W w) {a : Addr} (h : wr X.co.ro W a) (hsz : w.heap.size ≤ w'.heap.size)
    (hW : ∀ c e fr, W.heap[a.block]? = some (.cells c e fr) → ∃ c', W'.heap[a.block]? = some (.cells c' e fr)) : EvX X W' w' ⟨.cell a, true, false⟩ := by
  obtain ⟨⟨u, hu⟩, _, hro⟩ := h
  obtain ⟨_, _, c, e, fr, hb, he⟩ := s.cell hu
  obtain ⟨c', hc'⟩ := hW c e fr hb
  exact .inr ⟨a, true, rfl, Nat.lt_of_lt_of_le (lt_of_known hb) (Nat.le_trans s.le hsz), fun _ => hro, c', e, fr, hc', he⟩
theorem one1s_cons {v : Value} {vs : List Value} (h : one1s (v :: vs) = true) : one1 v = true ∧ one1s vs = true := by
  unfold one1s at h
  cases hv : one1 v <;> simp [hv] at h ⊢; exact h
theorem setN_setCell_block (a : Addr) (v : Value) (vs : List Value) (i : Nat) (W : World) (b : Nat) (c : Array Value) (e : Nat) (fr : Nat × Nat) (h : W.heap[b]? = some (.cells c e fr)) :
    ∃ c', (setN a (i + 1) vs (W.setCell (a.add i) v)).heap[b]? = some (.cells c' e fr) := by
  obtain ⟨c1, h1⟩ := setCell_block W (a.add i) v b h
  exact setN_block a vs (i + 1) _ b h1
theorem st_cells (a : Addr) : ∀ {vs : List Value} {i : Nat} {W w : World}, Sim X.ty X.ext W w → one1s vs = true → (∀ j, i ≤ j → j < i + vs.length → wr X.co.ro W (a.add j)) →
    Rn X.P (storeCells a vs i) w () (setN a i vs w) (EvX X (setN a i vs W) (setN a i vs w)) ∧ Mov X.ty X.co.ro W (setN a i vs W) w (setN a i vs w) #[] ∧ Sim X.ty X.ext (setN a i vs W) (setN a i vs w)
  | [], i, W, w, s, _, _ => ⟨by simpa [storeCells, setN] using (rn_pure (P := X.P) (w := w) ()), Mov.refl _ _ _ _, s⟩
  | v :: vs, i, W, w, s, h1, h => by
    obtain ⟨h1, h2⟩ := one1s_cons h1
    have hwr := h i (Nat.le_refl _) (by simp)
    obtain ⟨⟨u, hu⟩, hf, hro⟩ := hwr
    have hwr : wr X.co.ro W (a.add i) := ⟨⟨u, hu⟩, hf, hro⟩
    have s1 := s.setCell (v := v) hu
    obtain ⟨r, m, s2⟩ := st_cells a (vs := vs) (i := i + 1) (W := W.setCell (a.add i) v) (w := w.setCell (a.add i) v) s1 h2 fun j hj hl => wr_set (h j (by omega) (by simp at hl ⊢; omega))
    refine ⟨?_, (Mov.setCell s hwr).trans m, s2⟩
    have hc := s.cell hu
    have r0 := rn_store (P := X.P) (E := EvX X (setN a (i + 1) vs (W.setCell (a.add i) v)) (setN a (i + 1) vs (w.setCell (a.add i) v))) h1 hc.1 (hc.2.1.trans hf)
      (ev_write s hwr (by rw [setN_size, setCell_size]; exact Nat.le_refl _) fun c e fr hb => setN_setCell_block a v vs i W _ c e fr hb)
    exact r0.bind (f := fun _ => storeCells a vs (i + 1)) r
theorem st_run {v : Value} {a : Addr} {K : World → Prop} {w : World} (s : Sim X.ty X.ext W w) (h : stWp X.co.ro v W a K) :
    ∃ w' W', Rn X.P (storeCells a v.cells.toList) w () w' (EvX X W' w') ∧ Mov X.ty X.co.ro W W' w w' #[] ∧ Sim X.ty X.ext W' w' ∧ K W' := by
  cases v with
  | agg vs =>
    simp only [stWp] at h
    obtain ⟨h1, h2, h⟩ := bif_true h
    obtain ⟨r, m, s'⟩ := st_cells (X := X) (i := 0) a s h1 fun j _ hj => h2 j (by simpa using hj)
    exact ⟨_, _, r, m, s', h⟩
  | _ =>
    simp only [stWp] at h
    obtain ⟨h1, h2, h⟩ := bif_true h
    have := st_cells (X := X) a (vs := [_]) (i := 0) s (by unfold one1s; rw [h1]; rfl) fun j hj hl => (by
      have : j = 0 := by simp at hl; omega
      subst this; rw [Addr.add_zero']; exact h2)
    obtain ⟨r, m, s'⟩ := this
    simp only [setN, Addr.add_zero'] at r m s'
    exact ⟨_, _, by simpa [Value.cells] using r, m, s', h⟩
end
end Go.Cv
