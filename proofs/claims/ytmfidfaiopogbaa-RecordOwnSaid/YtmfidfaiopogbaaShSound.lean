/- What the shallow reading says holds of the code itself: operations. -/
import Derived.Test.YtmfidfaiopogbaaShDef
set_option linter.unusedVariables false
set_option linter.unusedSimpArgs false
namespace Go.Sh

theorem optP_some {α : Type} {o : Option α} {k : α → Prop} (h : optP o k) : ∃ a, o = some a ∧ k a := by
  cases o with
  | none => exact h.elim
  | some a => exact ⟨a, rfl, h⟩
theorem exL_some {l : Lf} {K : Value → Prop} (h : exL l K) : ∃ v, K v := by
  cases l <;> simp only [exL] at h
  case slc => obtain ⟨a, n, c, h⟩ := h; exact ⟨_, h⟩
  all_goals (obtain ⟨a, h⟩ := h; exact ⟨_, h⟩)
theorem exLs_some : ∀ {ls : List Lf} {K : List Value → Prop}, exLs ls K → ∃ vs, vs.length = ls.length ∧ K vs
  | [], K, h => ⟨[], rfl, h⟩
  | l :: ls, K, h => by
    obtain ⟨v, h⟩ := exL_some h
    obtain ⟨vs, hl, h⟩ := exLs_some h
    exact ⟨v :: vs, by simp [hl], h⟩
theorem exS1_some {s : S1} {K : Value → Prop} (h : exS1 s K) : ∃ v, K v := by
  cases s with
  | lf l => exact exL_some h
  | agg ls => obtain ⟨vs, _, h⟩ := exLs_some h; exact ⟨_, h⟩
theorem exS1s_some : ∀ {ls : List S1} {K : List Value → Prop}, exS1s ls K → ∃ vs, K vs
  | [], K, h => ⟨[], h⟩
  | l :: ls, K, h => by
    obtain ⟨v, h⟩ := exS1_some h
    obtain ⟨vs, h⟩ := exS1s_some h
    exact ⟨v :: vs, h⟩
theorem exS2_some {s : S2} {K : Value → Prop} (h : exS2 s K) : ∃ v, K v := by
  cases s with
  | one s => exact exS1_some h
  | tup ls => obtain ⟨vs, h⟩ := exS1s_some h; exact ⟨_, h⟩
theorem bif_true {c : Bool} {p : Prop} (h : bif c then p else False) : c = true ∧ p := by cases c <;> simp_all

theorem pureOf_run {P : Program} {s : Sem Value} {v : Value} (h : pureOf P s = some v) (w : World) : s.run P w = .ok v w := by
  induction s with
  | pure a => simp only [pureOf, Option.some.injEq] at h; subst h; rfl
  | program k ih => exact ih P h
  | _ => simp [pureOf] at h

section
variable {P : Program} {w : World}
theorem run_typeInfo {t : TypeId} {i : TypeInfo} (h : P.info? t = some i) : (typeInfo t).run P w = .ok i w := by
  simp [typeInfo, program, Sem.run, h]
theorem run_sizeOf {t : TypeId} {i : TypeInfo} (h : P.info? t = some i) : (sizeOf t).run P w = .ok i.size w := by
  simp [sizeOf, run_typeInfo h]
theorem run_zeroValue {t : TypeId} {i : TypeInfo} {z : Value} (h : P.info? t = some i) (hz : i.zero = some z) : (zeroValue t).run P w = .ok z w := by
  simp [zeroValue, run_typeInfo h, hz]
theorem run_isAgg {t : TypeId} {d : TypeDesc} (h : P.underlying t = some d) : (isAgg t).run P w = .ok (isAggD d) w := by
  simp only [isAgg, Sem.run_bind, run_underlying h, Result.andThen_ok]
  cases d <;> rfl
theorem run_newRow (e : TypeId) (cs : Array Value) : (newRow e cs).run P w = .ok ⟨w.heap.size, 0, none⟩ (w.alloc (.cells cs e)) := by
  rfl
theorem run_newVar (e : TypeId) (v : Value) : (newVar e v).run P w = .ok ⟨w.heap.size, 0, none⟩ (w.alloc (.cells v.cells e)) := run_newRow e _
theorem run_load1 {a : Addr} {v : Value} (h : w.cell? a = some v) : (load a).run P w = .ok v w := by simp [load, Sem.run, h]
theorem run_store1 {a : Addr} {v : Value} (h1 : one1 v = true) (h : wr w a) : (store a v).run P w = .ok () (w.setCell a v) := by
  obtain ⟨⟨u, hu⟩, hf⟩ := h
  cases v <;> simp [one1] at h1 <;> simp [store, Sem.run, hu, hf]
theorem cells_of : ∀ {vs : List Value} {a : Addr} {i : Nat} {R : Prop}, cellsAre w a i vs R → R ∧ ∀ j v, vs[j]? = some v → w.cell? (a.add (i + j)) = some v
  | [], a, i, R, h => ⟨h, fun j v hv => by simp at hv⟩
  | u :: vs, a, i, R, h => by
    obtain ⟨hu, h⟩ := h
    obtain ⟨hR, hc⟩ := cells_of h
    refine ⟨hR, fun j v hv => ?_⟩
    cases j with
    | zero => simp at hv; subst hv; exact hu
    | succ j =>
      have := hc j v (by simpa using hv)
      rw [show i + (j + 1) = i + 1 + j by omega]; exact this
theorem run_loadCellsFrom (a : Addr) : ∀ (vs : List Value) (i : Nat) (acc : Array Value), (∀ j v, vs[j]? = some v → w.cell? (a.add (i + j)) = some v) →
    (loadCellsFrom a i vs.length acc).run P w = .ok (acc ++ vs.toArray) w
  | [], i, acc, _ => by simp [loadCellsFrom]
  | v :: vs, i, acc, h => by
    have h0 := h 0 v rfl
    have ih := run_loadCellsFrom a vs (i + 1) (acc.push v) fun j u hu => by
      have := h (j + 1) u (by simpa using hu)
      rw [show i + 1 + j = i + (j + 1) by omega]; exact this
    simp only [Nat.add_zero] at h0
    simp only [List.length_cons, loadCellsFrom, Sem.run_bind, run_load1 h0, Result.andThen_ok, ih]
    simp
theorem run_loadCells (a : Addr) (vs : List Value) (h : ∀ j v, vs[j]? = some v → w.cell? (a.add (0 + j)) = some v) : (loadCells a vs.length).run P w = .ok vs.toArray w := by
  rw [loadCells, run_loadCellsFrom a vs 0 #[] h]; simp

theorem ld_run {X : Cx} {t : Nat} {a : Addr} {K : Value → Prop} (h : tyS X t fun s => ldWp s w a K) : ∃ v, (loadVar t a).run X.P w = .ok v w ∧ K v := by
  obtain ⟨d, hd, h⟩ := optP_some h
  obtain ⟨i, hi, h⟩ := optP_some h
  obtain ⟨s, hs, h⟩ := optP_some h
  cases s with
  | lf l =>
    cases hb : isAggD d with
    | true => simp only [hb, cond_true] at h
    | false =>
      simp only [hb, cond_false] at h
      obtain ⟨v, hc, hK⟩ := exL_some h
      exact ⟨v, by simp only [loadVar, Sem.run_bind, run_isAgg hd, Result.andThen_ok, hb, Bool.false_eq_true, if_false, run_load1 hc], hK⟩
  | agg ls =>
    obtain ⟨hb, h⟩ := bif_true h
    simp only [Bool.and_eq_true, Nat.beq_eq] at hb
    obtain ⟨vs, hl, h⟩ := exLs_some h
    obtain ⟨hK, hc⟩ := cells_of h
    refine ⟨_, ?_, hK⟩
    simp only [loadVar, Sem.run_bind, run_isAgg hd, Result.andThen_ok, hb.1, if_true, run_sizeOf hi, hb.2, ← hl, run_loadCells a vs hc, Sem.run_pure]

theorem wr_set {w : World} {a b : Addr} {v : Value} (h : wr w b) : wr (w.setCell a v) b := by
  obtain ⟨⟨u, hu⟩, hf⟩ := h
  refine ⟨?_, ?_⟩
  · unfold World.cell? World.setCell at *
    simp only [Array.getElem?_modify] at *
    by_cases e : a.block = b.block
    · rw [if_pos e]
      cases hb : w.heap[b.block]? with
      | none => rw [hb] at hu; cases hu
      | some o =>
        rw [hb] at hu
        cases o <;> simp only [Option.map_some] at hu ⊢ <;> try (cases hu; done)
        split at hu
        · cases hu
        · rename_i hs
          rw [if_neg hs]
          split
          · exact ⟨u, hu⟩
          · rename_i c _ _ _
            rw [Array.getElem?_setIfInBounds]
            split
            · rename_i e2
              have hlt : b.off < c.size := by
                rcases Nat.lt_or_ge b.off c.size with h | h
                · exact h
                · rw [Array.getElem?_eq_none h] at hu; cases hu
              rw [if_pos (e2 ▸ hlt)]; exact ⟨v, rfl⟩
            · exact ⟨u, hu⟩
    · rw [if_neg e]; exact ⟨u, hu⟩
  · unfold World.frozen? World.setCell at *
    simp only [Array.getElem?_modify] at *
    by_cases e : a.block = b.block
    · rw [if_pos e]
      cases hb : w.heap[b.block]? with
      | none => rfl
      | some o =>
        rw [hb] at hf
        cases o <;> simp only [Option.map_some] at hf ⊢ <;> first | exact hf | rfl
    · rw [if_neg e]; exact hf
theorem st_cells (a : Addr) : ∀ {vs : List Value} {i : Nat} {w : World}, one1s vs = true → (∀ j, i ≤ j → j < i + vs.length → wr w (a.add j)) → (storeCells a vs i).run P w = .ok () (setN a i vs w)
  | [], i, w, _, _ => by simp [storeCells, setN]
  | v :: vs, i, w, h1, h => by
    unfold one1s at h1
    obtain ⟨h1, h2⟩ : one1 v = true ∧ one1s vs = true := by
      cases hv : one1 v <;> simp [hv] at h1 ⊢; exact h1
    have ih := st_cells a (vs := vs) (i := i + 1) (w := w.setCell (a.add i) v) h2 fun j hj hl => wr_set (h j (by omega) (by simp at hl ⊢; omega))
    simp only [storeCells, Sem.run_bind, run_store1 h1 (h i (Nat.le_refl _) (by simp)), Result.andThen_ok, ih, setN]
theorem st_run {v : Value} {a : Addr} {K : World → Prop} (h : stWp v w a K) : ∃ w', (storeCells a v.cells.toList).run P w = .ok () w' ∧ K w' := by
  cases v with
  | agg vs =>
    simp only [stWp] at h
    obtain ⟨h1, h2, h⟩ := bif_true h
    exact ⟨_, st_cells a h1 fun j _ hj => h2 j (by simpa [Value.cells] using hj), h⟩
  | _ =>
    simp only [stWp] at h
    obtain ⟨h1, h2, h⟩ := bif_true h
    exact ⟨_, by simp [Value.cells, storeCells, Addr.add_zero', run_store1 h1 h2], h⟩
end

theorem runWp_some {P : Program} {s : Sem Value} {K : Value → World → Prop} {w : World} (h : RunWp P s K w) : ∃ v w', s.run P w = .ok v w' ∧ K v w' := by
  unfold RunWp at h
  cases hr : s.run P w with
  | ok v w' => rw [hr] at h; exact ⟨v, w', rfl, h⟩
  | halt x w' => rw [hr] at h; exact h.elim
theorem runT_some {P : Program} {s : Sem Value} {sh : S2} {K : Value → World → Prop} {w : World} (h : RunT P s sh K w) : ∃ v w', s.run P w = .ok v w' ∧ K v w' := by
  obtain ⟨v, w', hr, h⟩ := runWp_some h
  obtain ⟨u, rfl, h⟩ := exS2_some h
  exact ⟨v, w', hr, h⟩
theorem runR_some {P : Program} {s : Sem Value} {sh : S2} {K : Value → World → Prop} {w : World} (h : RunR P s sh K w) : ∃ v, s.run P w = .ok v w ∧ K v w := by
  obtain ⟨v, w', hr, rfl, h⟩ := runWp_some h
  obtain ⟨u, rfl, h⟩ := exS2_some h
  exact ⟨v, hr, h⟩

/-! ### What an operation comes to -/
def Qui (P : Program) (s : Sem Value) (K : Value → World → Prop) (w : World) : Prop := ∃ v, s.run P w = .ok v w ∧ K v w
def Val (P : Program) (s : Sem Value) (K : Value → World → Prop) (w : World) : Prop := ∃ v w', s.run P w = .ok v w' ∧ K v w'
theorem Qui.val {P : Program} {s : Sem Value} {K : Value → World → Prop} {w : World} (h : Qui P s K w) : Val P s K w := let ⟨v, a, b⟩ := h; ⟨v, w, a, b⟩

def Eff (P : Program) (s : Sem Next) (K : Value → World → Prop) (w : World) : Prop :=
  (∃ v w', s.run P w = .ok (.value v) w' ∧ K v w') ∨ (∃ w', s.run P w = .ok .skip w' ∧ K undef w') ∨
  (∃ f args w', s.run P w = .ok (.enter f args) w' ∧ Calls P f args w' fun e w'' => ∃ v, e = .returned v ∧ K v w'')
def EQ (P : Program) (s : Sem Next) (K : Value → World → Prop) (w : World) : Prop := ∃ v, s.run P w = .ok (.value v) w ∧ K v w
theorem EQ.eff {P : Program} {s : Sem Next} {K : Value → World → Prop} {w : World} (h : EQ P s K w) : Eff P s K w := let ⟨v, a, b⟩ := h; .inl ⟨v, w, a, b⟩
theorem eq_of_qui {P : Program} {s : Sem Value} {K : Value → World → Prop} {w : World} (h : Qui P s K w) : EQ P (do pure (.value (← s))) K w := by
  obtain ⟨v, hr, hK⟩ := h
  exact ⟨v, by simp [hr], hK⟩
theorem eff_of_val {P : Program} {s : Sem Value} {K : Value → World → Prop} {w : World} (h : Val P s K w) : Eff P (do pure (.value (← s))) K w := by
  obtain ⟨v, w', hr, hK⟩ := h
  exact .inl ⟨v, w', by simp [hr], hK⟩
theorem qui_pure {P : Program} {s : Sem Value} {K : Value → World → Prop} {w : World} (h : optP (pureOf P s) fun v => K v w) : Qui P s K w := by
  obtain ⟨v, hv, hK⟩ := optP_some h
  exact ⟨v, pureOf_run hv w, hK⟩
theorem qui_runR {P : Program} {s : Sem Value} {sh : S2} {K : Value → World → Prop} {w : World} (h : RunR P s sh K w) : Qui P s K w := runR_some h

/-- The operands have these values. -/
def Ag (σ : Env) (ρ : Operand → Value) (xs : List Operand) : Prop := ∀ x ∈ xs, ∀ v, σ.ev x = some v → ρ x = v

section
variable {σ : Env} {ρ : Operand → Value}
theorem evL_some : ∀ {xs : List Operand} {k : List Value → Prop}, evL σ xs k → Ag σ ρ xs → k (xs.map ρ)
  | [], k, h, _ => h
  | x :: xs, k, h, ha => by
    obtain ⟨v, hv, h⟩ := optP_some h
    have e := ha x (by simp) v hv
    subst e
    exact evL_some (xs := xs) (k := fun vs => k (ρ x :: vs)) h fun y hy => ha y (by simp [hy])
theorem evO_some {o : Option Operand} {k : Option Value → Prop} (h : evO σ o k) (ha : Ag σ ρ o.toList) : k (o.map ρ) := by
  cases o with
  | none => exact h
  | some x =>
    obtain ⟨v, hv, h⟩ := optP_some h
    have e := ha x (by simp) v hv
    subst e
    exact h
theorem evParts_some : ∀ {ps : List (Nat × Operand)} {k : List (Nat × Value) → Prop}, evParts σ ps k → Ag σ ρ (ps.map (·.2)) → k (ps.map fun p => (p.1, ρ p.2))
  | [], k, h, _ => h
  | (i, x) :: ps, k, h, ha => by
    obtain ⟨v, hv, h⟩ := optP_some h
    have e := ha x (by simp) v hv
    subst e
    exact evParts_some (ps := ps) (k := fun vs => k ((i, ρ x) :: vs)) h fun y hy => ha y (by simp at hy ⊢; exact .inr hy)
end
end Go.Sh
