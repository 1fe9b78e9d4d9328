/- The trace while the one worker is active: it knows all, but for what both only read. -/
import Derived.Test.YtmkgnbcpcfojfaaCwB2
set_option linter.unusedVariables false
set_option linter.unusedSimpArgs false
namespace Go.Cv
open Go.Conc Go.ConcN

structure TRB (Sh Ro : Loc → Prop) (m B : Nat) (t : Trace) : Prop where
  quiet : Quiet Sh t
  free : ∀ l, ¬ Sh l → ¬ Ro l → Perm t m l
  roM : ∀ l, ¬ Sh l → Ro l → PermW t m l ∧ PermW t 0 l
  nr : ∀ said, ¬ Race said t
  gs : ∀ (i : Nat) (op : MemOp), t[i]? = some op → op.g ≤ m
  seen : ∀ op ∈ t, op.act.low B
  over : ∀ i g, t.g? i = some g → g ≠ 0 → g < m → t.counts i → ∃ q, t.g? q = some 0 ∧ HappensBefore t i q
  known : ∀ i a, touchAt t i = some a → ¬ Sh a.loc → Knows t 0 i ∨ ∃ k, m ≤ k ∧ t.g? i = some k ∧ a.kind ≠ .atomic ∧ a.loc.isMemory = true
  norel : ∀ a, NoRelease a t

section
variable {t u : Trace} {c s a b g g' : Nat} {l : Loc}
theorem met_touch (h : Met c s s a b u) : ∀ op ∈ u, op.act.touch? = none := by
  obtain ⟨x0, x1, x2, x3, rfl, h0, h1, h2, h3⟩ := h
  intro op hop
  simp only [List.mem_toArray, List.mem_cons, List.not_mem_nil, or_false] at hop
  rcases hop with rfl | rfl | rfl | rfl
  · rw [h0.2]; rfl
  · rw [h1.2]; rfl
  · rw [h2.2]; rfl
  · rw [h3.2]; rfl
theorem met_swap (h : Met c s s a b u) (da : Deaf t a = 0) (db : Deaf t b = 0) {i : Nat} : (Knows t a i → Knows (t ++ u) b i) ∧ (Knows t b i → Knows (t ++ u) a i) := by
  obtain ⟨x0, x1, x2, x3, rfl, h0, h1, h2, h3⟩ := h
  exact swap h0 h1 h2 h3 da db
theorem touch_still (h : ∀ op ∈ u, op.act.touch? = none) {i : Nat} {x : Touch} (hx : touchAt (t ++ u) i = some x) : touchAt t i = some x := by
  obtain ⟨op, ho, hox⟩ := touch_of hx
  rcases getElem?_append_cases ho with ⟨hi, ho'⟩ | ⟨_, hou⟩
  · rw [touchAt_of ho']; exact hox
  · rw [h op hou] at hox; cases hox
theorem Perm.turn (h : Perm t g l) (hn : ∀ op ∈ u, op.act.touch? = none) (hk : ∀ i, Knows t g i → Knows (t ++ u) g' i) : Perm (t ++ u) g' l := fun i x hx hl => hk i (h i x (touch_still hn hx) hl)
theorem PermW.turn (h : PermW t g l) (hn : ∀ op ∈ u, op.act.touch? = none) (hk : ∀ i, Knows t g i → Knows (t ++ u) g' i) : PermW (t ++ u) g' l := fun i x hx hl hw => hk i (h i x (touch_still hn hx) hl hw)

/-- A job is handed over: the worker is active from here on. -/
theorem TR.hand {Sh : Loc → Prop} {Rd : Nat → Loc → Prop} {m B : Nat} (A : Apart Sh Non Rd) (h : TR Sh Non Rd m m B t) (m1 : 1 ≤ m) (hRd : ∀ k l, 1 ≤ k → k ≤ m → Rd k l → Rd m l) (hc : c < B) (hu : Met c s s a b u) (hab : (a = 0 ∧ b = m) ∨ (a = m ∧ b = 0)) (d0 : Deaf t 0 = 0) (dm : Deaf t m = 0)
    (hall : ∀ op ∈ u, op.g ≤ m ∧ MeetAct c op.act) : TRB Sh (Rd m) m B (t ++ u) := by
  have hm := h.meet A hc hall
  have hn := met_touch hu
  have k0 : ∀ i, Knows t 0 i → Knows (t ++ u) m i := fun i hk => by
    rcases hab with ⟨rfl, rfl⟩ | ⟨rfl, rfl⟩
    · exact (met_swap hu d0 dm).1 hk
    · exact (met_swap hu dm d0).2 hk
  refine ⟨hm.ct.quiet, fun l hs hr => ?_, fun l hs hr => ⟨hm.ct.rd m m1 (Nat.le_refl _) l hr, hm.ct.mine l hs fun _ _ _ => id⟩, hm.ct.nr, hm.ct.gs, hm.seen, hm.over, hm.known, hm.norel⟩
  exact Perm.turn (h.ct.free l hs fun k k1 kj => ⟨id, fun hh => hr (hRd k l k1 kj hh)⟩) hn k0
/-- .. and back. -/
theorem TRB.back {Sh : Loc → Prop} {Rd : Nat → Loc → Prop} {m B : Nat} (h : TRB Sh (Rd m) m B t) (m1 : 1 ≤ m) (hRd : ∀ k l, 1 ≤ k → k ≤ m → Rd k l → k = m) (hSh : ∀ l, Rd m l → ¬ Sh l) (hc : c < B) (hu : Met c s s a b u) (hab : (a = 0 ∧ b = m) ∨ (a = m ∧ b = 0)) (d0 : Deaf t 0 = 0) (dm : Deaf t m = 0)
    (hall : ∀ op ∈ u, op.g ≤ m ∧ MeetAct c op.act) : TR Sh Non Rd m m B (t ++ u) := by
  have hn := met_touch hu
  have kb : ∀ i, Knows t m i → Knows (t ++ u) 0 i := fun i hk => by
    rcases hab with ⟨rfl, rfl⟩ | ⟨rfl, rfl⟩
    · exact (met_swap hu d0 dm).2 hk
    · exact (met_swap hu dm d0).1 hk
  have old : ∀ g i, Knows t g i → Knows (t ++ u) g i := fun g i hk => hk.app u
  refine ⟨⟨h.quiet.app fun op hop x hx => (by rw [hn op hop] at hx; cases hx), fun k _ _ l hl => hl.elim, fun k k1 kj l hl => ?_, fun l hs hl => ?_, fun l hs _ => ?_, ?_, fun i op ho => ?_⟩, seen_app h.seen fun op hop => meet_low (hall op hop).2 hc, over_app h.over fun op hop => .inr (.inr (hn op hop)), known_app h.known fun op hop x hx => (by rw [hn op hop] at hx; cases hx), fun a => norel_app (h.norel a) fun op hop x => meet_mark (hall op hop).2 _⟩
  · obtain rfl := hRd k l k1 kj hl
    exact PermW.turn (h.roM l (hSh l hl) hl).1 hn (old _)
  · exact Perm.turn (h.free l hs (hl m m1 (Nat.le_refl _)).2) hn kb
  · by_cases hr : Rd m l
    · exact PermW.turn (h.roM l hs hr).2 hn (old _)
    · exact PermW.turn (PermW.of (h.free l hs hr)) hn kb
  · rintro said ⟨i, j, hij, ⟨x, y, hx, hy, hc⟩, n1, n2⟩
    exact h.nr said ⟨i, j, hij, ⟨x, y, touch_still hn hx, touch_still hn hy, hc⟩, fun e => n1 (hb_app u e), fun e => n2 (hb_app u e)⟩
  · rcases getElem?_append_cases ho with ⟨_, ho'⟩ | ⟨_, hou⟩
    · exact h.gs i op ho'
    · exact (hall op hou).1

section
variable {Sh Ro : Loc → Prop} {m B : Nat}
/-- The worker, active. -/
theorem TRB.appM (h : TRB Sh Ro m B t) (hu : ∀ op ∈ u, op.g = m ∧ ∀ x, op.act.touch? = some x → ¬ Sh x.loc ∧ (x.write = true → ¬ Ro x.loc) ∧ x.kind ≠ .atomic ∧ x.loc.isMemory = true) (hl : ∀ op ∈ u, op.act.low B) (hr : ∀ op ∈ u, ∀ a, op.act ≠ .mark (.release a)) : TRB Sh Ro m B (t ++ u) := by
  refine ⟨h.quiet.app fun op hop x hx hs => absurd hs ((hu op hop).2 x hx).1, fun l hs hn => (h.free l hs hn).app fun op hop _ _ _ => (hu op hop).1,
    fun l hs hn => ⟨(h.roM l hs hn).1.app fun op hop _ _ _ _ => (hu op hop).1, (h.roM l hs hn).2.app fun op hop x hx e hw => absurd (e ▸ hn) (((hu op hop).2 x hx).2.1 hw)⟩, fun said => ?_, fun i op ho => ?_,
    seen_app h.seen hl, over_app h.over fun op hop => .inr (.inl ?_), known_app h.known fun op hop x hx hs => .inr ⟨by rw [(hu op hop).1]; exact Nat.le_refl _, ((hu op hop).2 x hx).2.2⟩, fun a => norel_app (h.norel a) hr⟩
  · refine noRace_append (h.nr said) (fun op hop => (hu op hop).1) (fun i a ha op hop b hb hc => ?_)
    obtain ⟨hs, hw, _⟩ := (hu op hop).2 b hb
    by_cases hn : Ro b.loc
    · exact (h.roM b.loc hs hn).1 i a ha hc.1 (hc.2.2.1.resolve_right fun e => hw e hn)
    · exact h.free b.loc hs hn i a ha hc.1
  · rcases getElem?_append_cases ho with ⟨_, ho'⟩ | ⟨_, hou⟩
    · exact h.gs i op ho'
    · rw [(hu op hou).1]; exact Nat.le_refl _
  · have := (hu op hop).1
    omega
/-- Goroutine 0, passive: it only reads. -/
theorem TRB.app0 (h : TRB Sh Ro m B t) (hu : ∀ op ∈ u, op.g = 0 ∧ ∀ x, op.act.touch? = some x → ¬ Sh x.loc ∧ Ro x.loc ∧ x.write = false) (hl : ∀ op ∈ u, op.act.low B) (hr : ∀ op ∈ u, ∀ a, op.act ≠ .mark (.release a)) : TRB Sh Ro m B (t ++ u) := by
  refine ⟨h.quiet.app fun op hop x hx hs => absurd hs ((hu op hop).2 x hx).1, fun l hs hn => (h.free l hs hn).app fun op hop x hx e => absurd (e ▸ ((hu op hop).2 x hx).2.1) hn,
    fun l hs hn => ⟨(h.roM l hs hn).1.app fun op hop x hx e hw => (by rw [((hu op hop).2 x hx).2.2] at hw; cases hw), (h.roM l hs hn).2.app fun op hop _ _ _ _ => (hu op hop).1⟩, fun said => ?_, fun i op ho => ?_,
    seen_app h.seen hl, over_app h.over fun op hop => .inl (hu op hop).1, known_app h.known fun op hop x hx hs => .inl (hu op hop).1, fun a => norel_app (h.norel a) hr⟩
  · refine noRace_append (h.nr said) (fun op hop => (hu op hop).1) (fun i a ha op hop b hb hc => ?_)
    obtain ⟨hs, hn, hw⟩ := (hu op hop).2 b hb
    exact (h.roM b.loc hs hn).2 i a ha hc.1 (hc.2.2.1.resolve_right (by simp [hw]))
  · rcases getElem?_append_cases ho with ⟨_, ho'⟩ | ⟨_, hou⟩
    · exact h.gs i op ho'
    · rw [(hu op hou).1]; exact Nat.zero_le _
end

section
variable {Sh Ro : Loc → Prop} {m B : Nat}
/-- Words that touch nothing. -/
theorem TRB.mute (h : TRB Sh Ro m B t) (hn : ∀ op ∈ u, op.act.touch? = none) (hg : ∀ op ∈ u, op.g ≤ m) (hl : ∀ op ∈ u, op.act.low B) (hr : ∀ op ∈ u, ∀ a, op.act ≠ .mark (.release a)) : TRB Sh Ro m B (t ++ u) := by
  refine ⟨h.quiet.app fun op hop x hx => (by rw [hn op hop] at hx; cases hx), fun l hs hx => Perm.turn (h.free l hs hx) hn fun i hk => hk.app u,
    fun l hs hx => ⟨PermW.turn (h.roM l hs hx).1 hn fun i hk => hk.app u, PermW.turn (h.roM l hs hx).2 hn fun i hk => hk.app u⟩, ?_, fun i op ho => ?_,
    seen_app h.seen hl, over_app h.over fun op hop => .inr (.inr (hn op hop)), known_app h.known fun op hop x hx => (by rw [hn op hop] at hx; cases hx), fun a => norel_app (h.norel a) hr⟩
  · rintro said ⟨i, j, hij, ⟨x, y, hx, hy, hc⟩, n1, n2⟩
    exact h.nr said ⟨i, j, hij, ⟨x, y, touch_still hn hx, touch_still hn hy, hc⟩, fun e => n1 (hb_app u e), fun e => n2 (hb_app u e)⟩
  · rcases getElem?_append_cases ho with ⟨_, ho'⟩ | ⟨_, hou⟩
    · exact h.gs i op ho'
    · exact hg op hou
/-- More places are shared, none of which anybody has touched. -/
theorem TRB.grow {Sh' : Loc → Prop} {B' : Nat} (h : TRB Sh Ro m B t) (hB : B ≤ B') (h1 : ∀ l, Sh l → Sh' l) (h2 : ∀ l, Sh' l → Sh l ∨ ∃ a, l = .cell a ∧ B ≤ a.block) : TRB Sh' Ro m B' t := by
  refine ⟨fun i op x hi hx hs => ?_, fun l hs hx => h.free l (fun y => hs (h1 l y)) hx, fun l hs hx => h.roM l (fun y => hs (h1 l y)) hx, h.nr, h.gs, fun op hop => MemAct.low_mono hB (h.seen op hop), h.over, fun i a ha hs => h.known i a ha fun y => hs (h1 _ y), h.norel⟩
  rcases h2 x.loc hs with hs' | ⟨a, ha, hba⟩
  · exact h.quiet i op x hi hx hs'
  · exfalso
    have := touch_low (h.seen op (mem_of_getElem? hi)) hx
    rw [ha] at this
    exact absurd this (by simp only [Loc.low]; omega)
end
end
end Go.Cv
