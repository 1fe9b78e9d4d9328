/- The run's start and its end. -/
import Derived.Test.YtmkgnbcpcfojfaaCwK
import Derived.Conc.Holds
import Derived.Below
set_option linter.unusedVariables false
set_option linter.unusedSimpArgs false
namespace Go.Cv
open Go.Conc Go.ConcN
open Go.RowKit (Below)

/-! ### What was there is known exactly -/
def encO (ty : Nat) : Obj → Obj
  | .coro none => .coro (some 1)
  | .coro (some k) => .coro (some (k + 2))
  | .pending c e => .pending c (2 * e)
  | .cells c e fr => if e = ty then .pending #[.agg c, .int .i64 fr.1, .int .i64 fr.2] (2 * e + 1) else .cells c e fr
  | o => o
theorem enc_cells (ty : Nat) (c : Array Value) (e : Nat) (fr : Nat × Nat) : encO ty (.cells c e fr) = if e = ty then .pending #[.agg c, .int .i64 fr.1, .int .i64 fr.2] (2 * e + 1) else .cells c e fr := rfl
theorem decP_even (c : Array Value) (e : Nat) : decP c (2 * e) = .pending c e := by
  unfold decP
  rw [if_pos (Nat.mul_mod_right 2 e), Nat.mul_div_cancel_left e (by decide)]
theorem decP_odd (c : Array Value) (e : Nat) (fr : Nat × Nat) : decP #[.agg c, .int .i64 fr.1, .int .i64 fr.2] (2 * e + 1) = .cells c e fr := by
  have e1 : (2 * e + 1) / 2 = e := by omega
  have e2 : ¬ (2 * e + 1) % 2 = 0 := by omega
  unfold decP
  rw [if_neg e2, e1]
  rfl
theorem enc_iff (ty : Nat) (o : Obj) (r : Option Obj) : Like ty (encO ty o) r ↔ r = some o := by
  cases o with
  | coro x => cases x <;> exact Iff.rfl
  | pending c e =>
    show r = some (decP c (2 * e)) ↔ _
    rw [decP_even]
  | cells c e fr =>
    rw [enc_cells]
    by_cases h : e = ty
    · rw [if_pos h]
      show r = some (decP _ _) ↔ _
      rw [decP_odd]
    · rw [if_neg h]
      unfold Like
      simp only [if_neg h]
  | _ => exact Iff.rfl
theorem enc_unk (ty : Nat) (o : Obj) : encO ty o ≠ unkC := by
  cases o with
  | coro x => cases x <;> simp [encO, unkC]
  | cells c e fr => rw [enc_cells]; split <;> simp [unkC]
  | _ => simp [encO, unkC]
/-- The virtual world at the start. -/
def virt (ty : Nat) (W : World) : World := { W with heap := W.heap.map (encO ty) }
theorem virt_size (ty : Nat) (W : World) : (virt ty W).heap.size = W.heap.size := by simp [virt]
theorem virt_get (ty : Nat) (W : World) (b : Nat) : (virt ty W).heap[b]? = (W.heap[b]?).map (encO ty) := by simp [virt]
theorem virt_sim (ty : Nat) (W : World) : Sim ty false (virt ty W) W := by
  refine ⟨by simp [virt_size], fun b o ho => ?_, rfl, rfl, rfl⟩
  rw [virt_get] at ho
  obtain ⟨o', h1, rfl⟩ := Option.map_eq_some_iff.1 ho
  exact (enc_iff ty o' _).2 h1
theorem virt_cell {ty : Nat} {W : World} {a : Addr} {v : Value} {c : Array Value} {e : TypeId} {fr : Nat × Nat} (hb : W.heap[a.block]? = some (.cells c e fr)) (he : e ≠ ty) (h : W.cell? a = some v) : (virt ty W).cell? a = some v := by
  unfold World.cell? at h ⊢
  rw [virt_get, hb]
  rw [hb] at h
  simp only [Option.map_some, enc_cells, if_neg he]
  exact h

/-- What is left of a call's world behind it. -/
def Kept (W W' : World) : Prop := (∀ (b : Nat) (o : Obj), W.heap[b]? = some o → o ≠ unkC → W'.heap[b]? = some o) ∧ W.heap.size ≤ W'.heap.size ∧ W'.tape = W.tape ∧ W'.os = W.os ∧ W'.output = W.output
theorem Kept.refl (W : World) : Kept W W := ⟨fun _ _ h _ => h, Nat.le_refl _, rfl, rfl, rfl⟩
theorem Kept.trans {a b c : World} (h : Kept a b) (k : Kept b c) : Kept a c := ⟨fun x o ho hn => k.1 x o (h.1 x o ho hn) hn, Nat.le_trans h.2.1 k.2.1, k.2.2.1.trans h.2.2.1, k.2.2.2.1.trans h.2.2.2.1, k.2.2.2.2.trans h.2.2.2.2⟩
theorem Kept.below {ty : Nat} {W W' w' : World} (h : Kept (virt ty W) W') (s : Sim ty false W' w') : Below W.heap.size W w' := by
  have h2 := h.2.1
  rw [virt_size] at h2
  have := s.sizeEq
  refine ⟨s.os.trans h.2.2.2.1, s.tape.trans h.2.2.1, s.output.trans h.2.2.2.2, by omega, fun b hb => ?_⟩
  obtain ⟨o, ho⟩ : ∃ o, W.heap[b]? = some o := ⟨_, Array.getElem?_eq_getElem hb⟩
  have hv : (virt ty W).heap[b]? = some (encO ty o) := by rw [virt_get, ho]; rfl
  have := (enc_iff ty o _).1 (s.like b _ (h.1 b _ hv (enc_unk ty o)))
  rw [this, ho]

/-! ### The return of the whole -/
theorem fin_ret {P : Program} {ty : Nat} {Post : Value → World → Prop} {g : Goroutine} {MV : World} {v : Value} (hrun : g.status = .running) (hst : ∀ w, stepG P true g w = .ended (.done v) w #[]) (hP : ∀ w, Sim ty false MV w → Post v w) : Fin P ty Post g MV := by
  intro m g1 gs w sl t rk S hg h0 ms hB
  have H := ok0 P ty Post m 0
  subst hg
  induction rk using (Dec.wf ((C0 P ty Post m).m + 0)).induction generalizing gs w sl t S with
  | _ rk ih =>
    obtain ⟨i, gi, e, sl', hi, hgi, hst'⟩ := crowd_pick (P := P) (w := w) (sl := sl) (ms.awake H h0 (awake_of (.inl hrun))) ⟨0, g1, h0, hrun⟩
    have ms' := ms.at e
    rcases Nat.eq_zero_or_pos i with rfl | hpos
    · obtain rfl : gi = g1 := by rw [h0] at hi; exact (Option.some.inj hi).symm
      have hrunT := runT_many_ended (P := P) (sl := sl') (i := 0) h0 (show stepG P (0 == 0) gi (w.at e) = _ from hst (w.at e))
      have e0 : MemOp.ofEvents 0 gi.frame.fn gi.frame.place #[] = #[] := by simp [ofEvents_eq]
      rw [e0] at hrunT
      refine Ev.ended (hst'.trans hrunT) ⟨v, rfl, hP _ ms'.sim, ?_, ?_, ⟨fun x hx => ?_, rfl⟩, fun j x hx hj => ?_⟩
      · rw [Array.append_empty]; exact ms.tr.ct.nr
      · rw [Array.append_empty]
        intro i k hik hk hc
        refine ms.tr.over i k hik hk ?_ hc
        obtain ⟨op, ho, hop⟩ := g?_mem hik
        have := ms.tr.ct.gs i op ho
        have := ms.m1
        have h3 : (C0 P ty Post m).m = m := rfl
        omega
      · obtain ⟨j, hj⟩ := List.mem_iff_getElem?.1 hx
        rw [List.getElem?_drop] at hj
        have hj' : gs[1 + j]? = some x := by simpa [crowd] using hj
        rcases ms.who (by omega) hj' with ⟨_, q, hq, _⟩ | ⟨k, hk, _⟩
        · exact ⟨_, hq.leaves⟩
        · omega
      · have hx' : gs[j]? = some x := hx
        rcases ms.who (Nat.pos_of_ne_zero hj) hx' with ⟨_, q, hq, _⟩ | ⟨k, hk, _⟩
        · refine ⟨q, ?_⟩
          rw [Array.append_empty]
          exact hq.hears _
        · omega
    · rcases ms'.others H (sl := sl') hpos hi hgi h0 (fun _ _ _ _ => woken_run hrun) with ⟨gs', ops, rk', S', w', h1, h2, h3, h4, h5, h6, _⟩ | ⟨k, hk, _⟩ | ⟨k, j, hk, _⟩
      · exact .next (hst'.trans h1) (ih rk' (by rw [ms.size] at h3; exact h3) gs' w' sl' _ S' h4 h2)
      · omega
      · omega

/-- The start. -/
theorem fin_start {P : Program} {ty : Nat} {Post : Value → World → Prop} {g : Goroutine} {W : World} (h : Fin P ty Post g (virt ty W)) : Ev P Post (solo g W) #[] := by
  have hcr : solo g W = crowd #[g] W none := rfl
  rw [hcr]
  refine h 1 g #[g] W none #[] (fun _ => (0, .nil)) (fun _ => ⟨none, false⟩) rfl rfl ?_ trivial
  have none_ : ∀ (i : Nat) (op : MemOp), (#[] : Trace)[i]? = some op → False := fun i op h => by simp at h
  have nt : ∀ (i : Nat) (a : Touch), touchAt (#[] : Trace) i = some a → False := fun i a h => by
    obtain ⟨x, hx, _⟩ := touch_of h
    exact none_ i x hx
  refine ⟨rfl, Nat.le_refl _, fun i x h0 h1 => ?_, fun k hk => absurd hk (by omega), virt_sim ty W, trivial, .inr fun _ => trivial, fun h => absurd h (by omega), fun h => by simp [C0] at h, ?_, fun k hk => absurd hk (by omega), rfl⟩
  · have : (C0 P ty Post 1).m = 1 := rfl
    omega
  · refine ⟨⟨fun i op x h => (none_ i op h).elim, fun k _ _ l _ i a ha => (nt i a ha).elim, fun k _ _ l _ i a ha => (nt i a ha).elim, fun l _ _ i a ha => (nt i a ha).elim, fun l _ _ i a ha => (nt i a ha).elim, ?_, fun i op h => (none_ i op h).elim⟩, fun op hop => by simp at hop, fun i g hg => ?_, fun i a ha => (nt i a ha).elim, fun a i h => ?_⟩
    · rintro said ⟨i, j, _, ⟨a, b, ha, _⟩, _⟩
      simp [Trace.act?] at ha
    · obtain ⟨op, ho, _⟩ := g?_mem hg
      exact (none_ i op ho).elim
    · simp [Trace.act?] at h
end Go.Cv
