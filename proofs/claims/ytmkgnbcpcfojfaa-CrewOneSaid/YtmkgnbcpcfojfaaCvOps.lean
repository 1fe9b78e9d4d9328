/- What the shallow reading says holds of the code itself, for a goroutine in company: operations. -/
import Derived.Test.YtmkgnbcpcfojfaaCvDef
import Derived.Conc.Events
import Derived.Conc.Listed
set_option linter.unusedVariables false
set_option linter.unusedSimpArgs false
namespace Go.Cv
open Go.Conc

theorem optP_some {α : Type} {o : Option α} {k : α → Prop} (h : optP o k) : ∃ a, o = some a ∧ k a := by
  cases o with
  | none => exact h.elim
  | some a => exact ⟨a, rfl, h⟩
theorem exL_some {l : Lf} {K : Value → Prop} (h : exL l K) : ∃ v, K v := by
  cases l <;> simp only [exL] at h
  case slc => obtain ⟨a, n, c, h⟩ := h; exact ⟨_, h⟩
  all_goals (obtain ⟨a, h⟩ := h; exact ⟨_, h⟩)
theorem exLs_some : ∀ {ls : List Lf} {K : List Value → Prop}, exLs ls K → ∃ vs, vs.length = ls.length ∧ K vs
  | [], K, h => ⟨[], rfl, h⟩
  | l :: ls, K, h => by
    obtain ⟨v, h⟩ := exL_some h
    obtain ⟨vs, hl, h⟩ := exLs_some h
    exact ⟨v :: vs, by simp [hl], h⟩
theorem exS1_some {s : S1} {K : Value → Prop} (h : exS1 s K) : ∃ v, K v := by
  cases s with
  | lf l => exact exL_some h
  | agg ls => obtain ⟨vs, _, h⟩ := exLs_some h; exact ⟨_, h⟩
theorem exS1s_some : ∀ {ls : List S1} {K : List Value → Prop}, exS1s ls K → ∃ vs, K vs
  | [], K, h => ⟨[], h⟩
  | l :: ls, K, h => by
    obtain ⟨v, h⟩ := exS1_some h
    obtain ⟨vs, h⟩ := exS1s_some h
    exact ⟨v :: vs, h⟩
theorem exS2_some {s : S2} {K : Value → Prop} (h : exS2 s K) : ∃ v, K v := by
  cases s with
  | one s => exact exS1_some h
  | tup ls => obtain ⟨vs, h⟩ := exS1s_some h; exact ⟨_, h⟩
theorem bif_true {c : Bool} {p : Prop} (h : bif c then p else False) : c = true ∧ p := by cases c <;> simp_all
theorem bif_false {c : Bool} {p : Prop} (h : bif c then False else p) : c = false ∧ p := by cases c <;> simp_all

/-! ### What a piece of the model's own code comes to, and what it lists -/
structure Rn {α : Type} (P : Program) (s : Sem α) (w : World) (v : α) (w' : World) (E : Event → Prop) : Prop where
  run : s.run P w = .ok v w'
  ev : ∀ es, ∀ e ∈ s.events P w es, e ∈ es ∨ E e
def Sil {α : Type} (P : Program) (s : Sem α) (v : α) : Prop := ∀ w, Rn P s w v w (fun _ => False)

section
variable {α β : Type} {P : Program} {w w' w'' : World} {E E' : Event → Prop}
theorem Rn.mono {s : Sem α} {v : α} (h : Rn P s w v w' E) (hE : ∀ e, E e → E' e) : Rn P s w v w' E' := ⟨h.run, fun es e he => (h.ev es e he).imp id (hE e)⟩
theorem Rn.bind {s : Sem α} {f : α → Sem β} {a : α} {b : β} (h : Rn P s w a w' E) (h' : Rn P (f a) w' b w'' E) : Rn P (s >>= f) w b w'' E := by
  refine ⟨by simp [h.run, h'.run], fun es e he => ?_⟩
  simp only [Sem.events_bind, h.run, Result.evThen_ok] at he
  rcases h'.ev _ e he with h1 | h1
  · exact h.ev _ e h1
  · exact .inr h1
theorem rn_pure (a : α) : Rn P (pure a) w a w E := ⟨rfl, fun es e he => .inl he⟩
theorem rn_pure' (a : α) : Rn P (Sem.pure a) w a w E := ⟨rfl, fun es e he => .inl he⟩
theorem Sil.rn {s : Sem α} {v : α} (h : Sil P s v) : Rn P s w v w E := (h w).mono fun e he => he.elim
theorem Sil.bind {s : Sem α} {f : α → Sem β} {a : α} {b : β} (h : Sil P s a) (h' : Sil P (f a) b) : Sil P (s >>= f) b := fun w => (h w).bind (h' w)
theorem sil_pure (a : α) : Sil P (pure a) a := fun w => rn_pure a
theorem sil_of {s : Sem α} {v : α} (h : ∀ w, s.run P w = .ok v w) (he : ∀ w es, s.events P w es = es) : Sil P s v := fun w => ⟨h w, fun es e h => .inl (he w es ▸ h)⟩
theorem sil_pureOf {s : Sem Value} {v : Value} (h : pureOf P s = some v) : Sil P s v := by
  induction s with
  | pure a => simp only [pureOf, Option.some.injEq] at h; subst h; exact fun w => rn_pure' _
  | program k ih =>
    intro w
    have := ih P h w
    exact ⟨this.run, this.ev⟩
  | _ => simp [pureOf] at h
theorem sil_typeInfo {t : TypeId} {i : TypeInfo} (h : P.info? t = some i) : Sil P (typeInfo t) i := sil_of (fun w => by simp [typeInfo, program, Sem.run, h]) fun w es => events_typeInfo P w es t
theorem sil_underlying {t : TypeId} {d : TypeDesc} (h : P.underlying t = some d) : Sil P (underlying t) d := sil_of (fun w => run_underlying h w) fun w es => events_underlying P w es t
theorem sil_sizeOf {t : TypeId} {i : TypeInfo} (h : P.info? t = some i) : Sil P (sizeOf t) i.size := (sil_typeInfo h).bind (sil_pure _)
theorem sil_zeroValue {t : TypeId} {i : TypeInfo} {z : Value} (h : P.info? t = some i) (hz : i.zero = some z) : Sil P (zeroValue t) z := by
  refine (sil_typeInfo h).bind ?_
  rw [hz]; exact sil_pure _
theorem sil_isAgg {t : TypeId} {d : TypeDesc} (h : P.underlying t = some d) : Sil P (isAgg t) (isAggD d) := by
  refine (sil_underlying h).bind ?_
  cases d <;> exact sil_pure _
theorem rn_new (o : Obj) : Rn P (newObj o) w w.heap.size (w.alloc o) E := ⟨rfl, fun es e he => .inl he⟩
theorem rn_newRow (e : TypeId) (cs : Array Value) : Rn P (newRow e cs) w ⟨w.heap.size, 0, none⟩ (w.alloc (.cells cs e)) E := (rn_new _).bind (rn_pure _)
theorem rn_newVar (e : TypeId) (v : Value) : Rn P (newVar e v) w ⟨w.heap.size, 0, none⟩ (w.alloc (.cells v.cells e)) E := rn_newRow e _
theorem rn_load {a : Addr} {v : Value} (h : w.cell? a = some v) (hE : E ⟨.cell a, false, false⟩) : Rn P (load a) w v w E := by
  refine ⟨by simp [load, Sem.run, h], fun es e he => ?_⟩
  rw [events_load, h] at he
  rcases Array.mem_push.1 he with h1 | h1
  · exact .inl h1
  · exact .inr (h1 ▸ hE)
theorem rn_store {a : Addr} {v u : Value} (h1 : one1 v = true) (hu : w.cell? a = some u) (hf : w.frozen? a = false) (hE : E ⟨.cell a, true, false⟩) : Rn P (store a v) w () (w.setCell a v) E := by
  have hv : v.oneCell' = true := by cases v <;> simp_all [one1, Value.oneCell']
  refine ⟨?_, fun es e he => ?_⟩
  · cases v <;> simp [one1] at h1 <;> simp [store, Sem.run, hu, hf]
  · rw [events_store _ _ _ _ _ _ hv, hu] at he
    simp only [hf, Bool.false_eq_true, if_false] at he
    rcases Array.mem_push.1 he with h1 | h1
    · exact .inl h1
    · exact .inr (h1 ▸ hE)
theorem rn_askRoom (n : Nat) (hE : E noRoomEvent) : Rn P (askRoom n) w () w E := by
  unfold askRoom
  split
  · refine ⟨rfl, fun es e he => ?_⟩
    rw [events_mark] at he
    rcases Array.mem_push.1 he with h1 | h1
    · exact .inl h1
    · exact .inr (h1 ▸ hE)
  · exact rn_pure ()
theorem rn_loadCellsFrom (a : Addr) : ∀ (vs : List Value) (i : Nat) (acc : Array Value), (∀ j v, vs[j]? = some v → w.cell? (a.add (i + j)) = some v ∧ E ⟨.cell (a.add (i + j)), false, false⟩) →
    Rn P (loadCellsFrom a i vs.length acc) w (acc ++ vs.toArray) w E
  | [], i, acc, _ => by simpa [loadCellsFrom] using (rn_pure (P := P) (w := w) (E := E) acc)
  | v :: vs, i, acc, h => by
    obtain ⟨h0, hE⟩ := h 0 v rfl
    simp only [Nat.add_zero] at h0 hE
    have ih := rn_loadCellsFrom a vs (i + 1) (acc.push v) fun j u hu => by
      have := h (j + 1) u (by simpa using hu)
      rw [show i + 1 + j = i + (j + 1) by omega]; exact this
    have := (rn_load h0 hE).bind (f := fun v => loadCellsFrom a (i + 1) vs.length (acc.push v)) ih
    simpa [loadCellsFrom] using this
theorem rn_loadCells (a : Addr) (vs : List Value) (h : ∀ j v, vs[j]? = some v → w.cell? (a.add j) = some v ∧ E ⟨.cell (a.add j), false, false⟩) : Rn P (loadCells a vs.length) w vs.toArray w E := by
  have := rn_loadCellsFrom (P := P) (w := w) (E := E) a vs 0 #[] (by simpa using h)
  simpa [loadCells] using this
end

/-! ### Cells of a world that is like another -/
theorem add_block (a : Addr) (n : Nat) : (a.add n).block = a.block := by unfold Addr.add; split <;> rfl
section
variable {ty : Nat} {ext : Bool} {W w : World}
theorem cell_known {a : Addr} {v : Value} (h : W.cell? a = some v) : ∃ c e fr, W.heap[a.block]? = some (.cells c e fr) := by
  unfold World.cell? at h
  split at h
  · exact ⟨_, _, _, ‹_›⟩
  · cases h
theorem Sim.cell (s : Sim ty ext W w) {a : Addr} {v : Value} (h : W.cell? a = some v) : w.cell? a = some v ∧ w.frozen? a = W.frozen? a ∧ ∃ c e fr, W.heap[a.block]? = some (.cells c e fr) ∧ e ≠ ty := by
  obtain ⟨c, e, fr, hb⟩ := cell_known h
  have hl := s.like _ _ hb
  unfold Like at hl
  simp only at hl
  by_cases he : e = ty
  · rw [if_pos he] at hl
    obtain ⟨rfl, _⟩ := hl
    unfold World.cell? at h
    rw [hb] at h
    simp at h
  · rw [if_neg he] at hl
    refine ⟨?_, ?_, c, e, fr, hb, he⟩
    · unfold World.cell? at h ⊢; rw [hl]; rw [hb] at h; exact h
    · unfold World.frozen?; rw [hl, hb]
theorem lt_of_known {b : Nat} {o : Obj} (h : W.heap[b]? = some o) : b < W.heap.size := (Array.getElem?_eq_some_iff.1 h).1
theorem Sim.le (s : Sim ty ext W w) : W.heap.size ≤ w.heap.size := by
  have := s.size
  cases ext <;> simp at this <;> omega
theorem Sim.refl_at (s : Sim ty ext W w) (d : Nat) : Sim ty ext W (w.at d) := ⟨s.size, s.like, s.tape, s.os, s.output⟩
theorem heap_push (w : World) (o : Obj) : (w.alloc o).heap = w.heap.push o := rfl
theorem Sim.alloc (s : Sim ty false W w) {o o' : Obj} (h : Like ty o (some o')) : Sim ty false (W.alloc o) (w.alloc o') := by
  have hs := s.size
  simp only [Bool.false_eq_true, if_false] at hs
  refine ⟨by simp [heap_push, hs], fun b x hx => ?_, s.tape, s.os, s.output⟩
  simp only [heap_push, Array.getElem?_push, hs] at hx ⊢
  split at hx
  · cases hx; rw [if_pos ‹_›]; exact h
  · rw [if_neg ‹_›]; exact s.like b x hx
theorem Mov.refl (ty : Nat) (ro : Nat → Prop) (W w : World) : Mov ty ro W W w w #[] := ⟨Nat.le_refl _, Nat.le_refl _, fun _ _ _ => rfl, fun _ _ _ => rfl, fun _ _ => ⟨rfl, rfl⟩, fun e he => by simp at he, ⟨rfl, rfl, rfl⟩, fun _ _ _ _ h => ⟨_, _, h⟩⟩
theorem Mov.at (ty : Nat) (ro : Nat → Prop) (W w : World) (d : Nat) : Mov ty ro W W w (w.at d) #[] := ⟨Nat.le_refl _, Nat.le_refl _, fun _ _ _ => rfl, fun _ _ _ => rfl, fun _ _ => ⟨rfl, rfl⟩, fun e he => by simp at he, ⟨rfl, rfl, rfl⟩, fun _ _ _ _ h => ⟨_, _, h⟩⟩
theorem hid_lt {b : Nat} (h : Hid ty W.heap[b]?) : b < W.heap.size := by
  rcases Nat.lt_or_ge b W.heap.size with h' | h'
  · exact h'
  · rw [Array.getElem?_eq_none h'] at h; exact h.elim
end
end Go.Cv
