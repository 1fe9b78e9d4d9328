/- At a meeting over a channel without a buffer each of the two learns what the other knew. -/
import Derived.Test.YtmkgnbcpcfojfaaCwB
set_option linter.unusedVariables false
set_option linter.unusedSimpArgs false
namespace Go.Cv
open Go.Conc Go.ConcN

section
variable {t : Trace} {x0 x1 x2 x3 : MemOp} {c s g1 g2 i : Nat}
theorem four_get (t : Trace) (x0 x1 x2 x3 : MemOp) : (t ++ #[x0, x1, x2, x3])[t.size]? = some x0 ∧ (t ++ #[x0, x1, x2, x3])[t.size + 1]? = some x1 ∧ (t ++ #[x0, x1, x2, x3])[t.size + 2]? = some x2 ∧ (t ++ #[x0, x1, x2, x3])[t.size + 3]? = some x3 := by
  refine ⟨?_, ?_, ?_, ?_⟩ <;> (rw [Array.getElem?_append_right (by omega)]; simp)
theorem four_heard (h0 : x0.act = .send c s) (h1 : x1.act = .recv c s 0) (h2 : x2.act = .sendDone c s) (h3 : x3.act = .recvDone c s) {k g : Nat} {x : MemOp} (hk : k < 4) (hx : (#[x0, x1, x2, x3])[k]? = some x) (hg : x.g = g) (hd : Deaf t g = 0) :
    (t ++ #[x0, x1, x2, x3]).heard (t.size + k) := by
  have hget : (t ++ #[x0, x1, x2, x3])[t.size + k]? = some x := by
    rw [Array.getElem?_append_right (by omega)]; simpa using hx
  refine ⟨g, by simp [Trace.g?, hget, hg], ?_⟩
  have step : ∀ j, j < 4 → (t ++ #[x0, x1, x2, x3]).deaf g (t.size + j + 1) = (t ++ #[x0, x1, x2, x3]).deaf g (t.size + j) := by
    intro j hj
    obtain ⟨e0, e1, e2, e3⟩ := four_get t x0 x1 x2 x3
    have : j = 0 ∨ j = 1 ∨ j = 2 ∨ j = 3 := by omega
    obtain ⟨g0, f0, p0, a0⟩ := x0
    obtain ⟨g1, f1, p1, a1⟩ := x1
    obtain ⟨g2, f2, p2, a2⟩ := x2
    obtain ⟨g3, f3, p3, a3⟩ := x3
    simp only at h0 h1 h2 h3
    subst h0; subst h1; subst h2; subst h3
    rcases this with rfl | rfl | rfl | rfl <;> (conv => lhs; unfold Trace.deaf) <;> simp [e0, e1, e2, e3]
  have base : (t ++ #[x0, x1, x2, x3]).deaf g t.size = 0 := by rw [deaf_old (Nat.le_refl _)]; exact hd
  have key : ∀ j, j ≤ 4 → (t ++ #[x0, x1, x2, x3]).deaf g (t.size + j) = 0 := by
    intro j
    induction j with
    | zero => intro _; exact base
    | succ j ih => intro hj; rw [← Nat.add_assoc, step j (by omega)]; exact ih (by omega)
  exact key k (by omega)
/-- Who receives learns what who sends knew; and back. -/
theorem swap (h0 : x0.g = g1 ∧ x0.act = .send c s) (h1 : x1.g = g2 ∧ x1.act = .recv c s 0) (h2 : x2.g = g1 ∧ x2.act = .sendDone c s) (h3 : x3.g = g2 ∧ x3.act = .recvDone c s) (d1 : Deaf t g1 = 0) (d2 : Deaf t g2 = 0) :
    (Knows t g1 i → Knows (t ++ #[x0, x1, x2, x3]) g2 i) ∧ (Knows t g2 i → Knows (t ++ #[x0, x1, x2, x3]) g1 i) := by
  obtain ⟨e0, e1, e2, e3⟩ := four_get t x0 x1 x2 x3
  have q0 := four_heard (t := t) h0.2 h1.2 h2.2 h3.2 (k := 0) (by omega) rfl h0.1 d1
  have q1 := four_heard (t := t) h0.2 h1.2 h2.2 h3.2 (k := 1) (by omega) rfl h1.1 d2
  have q2 := four_heard (t := t) h0.2 h1.2 h2.2 h3.2 (k := 2) (by omega) rfl h2.1 d1
  have q3 := four_heard (t := t) h0.2 h1.2 h2.2 h3.2 (k := 3) (by omega) rfl h3.1 d2
  constructor
  · intro hk
    have hb := hk.hb_new (Nat.le_refl _) e0 h0.1
    have edge : HappensBefore (t ++ #[x0, x1, x2, x3]) t.size (t.size + 3) := .single (.inr ⟨.handOver (c := c) (k := s) (by rw [act?_of e0, h0.2]) (by rw [act?_of e3, h3.2]), q0, q3⟩)
    exact ⟨t.size + 3, x3, e3, h3.1, .inr (hb.trans edge)⟩
  · intro hk
    have hb := hk.hb_new (j := t.size + 1) (by omega) e1 h1.1
    have edge : HappensBefore (t ++ #[x0, x1, x2, x3]) (t.size + 1) (t.size + 2) := .single (.inr ⟨.room (c := c) (k := s) (cap := 0) (by rw [act?_of e1, h1.2]) (by rw [act?_of e2, h2.2]; rfl), q1, q2⟩)
    exact ⟨t.size + 2, x2, e2, h2.1, .inr (hb.trans edge)⟩
end
end Go.Cv
