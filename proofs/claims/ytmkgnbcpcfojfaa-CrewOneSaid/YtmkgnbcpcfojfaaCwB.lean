/- The trace: earlier goroutines that only leave, a row of workers, goroutine 0. -/
import Derived.Test.YtmkgnbcpcfojfaaCwA
set_option linter.unusedVariables false
set_option linter.unusedSimpArgs false
namespace Go.Cv
open Go.Conc Go.ConcN

/-- m: the first worker's number; j: the last number given; B: a bound of all blocks named. -/
structure TR (Sh : Loc → Prop) (Own Rd : Nat → Loc → Prop) (m j B : Nat) (t : Trace) : Prop where
  ct : CT Sh Own Rd t j
  seen : ∀ op ∈ t, op.act.low B
  over : ∀ i g, t.g? i = some g → g ≠ 0 → g < m → t.counts i → ∃ q, t.g? q = some 0 ∧ HappensBefore t i q
  known : ∀ i a, touchAt t i = some a → ¬ Sh a.loc → Knows t 0 i ∨ ∃ k, m ≤ k ∧ t.g? i = some k ∧ a.kind ≠ .atomic ∧ a.loc.isMemory = true
  norel : ∀ a, NoRelease a t
def Non : Nat → Loc → Prop := fun _ _ => False

theorem norel_app {a : Addr} {t u : Trace} (h : NoRelease a t) (hu : ∀ op ∈ u, ∀ a, op.act ≠ .mark (.release a)) : NoRelease a (t ++ u) := h.app fun op hop => hu op hop a
theorem g?_mem {t : Trace} {i g : Nat} (h : t.g? i = some g) : ∃ op, t[i]? = some op ∧ op.g = g := by
  obtain ⟨op, h1, h2⟩ := Option.map_eq_some_iff.1 h
  exact ⟨op, h1, h2⟩
theorem g?_of {t : Trace} {i : Nat} {op : MemOp} (h : t[i]? = some op) : t.g? i = some op.g := by simp [Trace.g?, h]
theorem counts_touch {t : Trace} {i : Nat} (h : t.counts i) : ∃ x, touchAt t i = some x := by
  obtain ⟨x, hx, _⟩ := h; exact ⟨x, hx⟩

section
variable {Sh : Loc → Prop} {Own Rd : Nat → Loc → Prop} {m j B : Nat} {t u : Trace}

theorem over_app {m : Nat} (h : ∀ i g, t.g? i = some g → g ≠ 0 → g < m → t.counts i → ∃ q, t.g? q = some 0 ∧ HappensBefore t i q)
    (hu : ∀ op ∈ u, op.g = 0 ∨ m ≤ op.g ∨ op.act.touch? = none) : ∀ i g, (t ++ u).g? i = some g → g ≠ 0 → g < m → (t ++ u).counts i → ∃ q, (t ++ u).g? q = some 0 ∧ HappensBefore (t ++ u) i q := by
  intro i g hg h0 hm hc
  obtain ⟨op, hop, rfl⟩ := g?_mem hg
  rcases getElem?_append_cases hop with ⟨hi, hop'⟩ | ⟨_, hou⟩
  · obtain ⟨q, hq, hb⟩ := h i op.g (g?_of hop') h0 hm ((counts_old hi).1 hc)
    obtain ⟨z, hz, _⟩ := g?_mem hq
    exact ⟨q, by rw [g?_old (lt_size_of_getElem? hz)]; exact hq, hb_app u hb⟩
  · rcases hu op hou with e | e | e
    · exact absurd e h0
    · omega
    · obtain ⟨x, hx⟩ := counts_touch hc
      rw [touchAt_of hop, e] at hx; cases hx
theorem known_app (h : ∀ i a, touchAt t i = some a → ¬ Sh a.loc → Knows t 0 i ∨ ∃ k, m ≤ k ∧ t.g? i = some k ∧ a.kind ≠ .atomic ∧ a.loc.isMemory = true)
    (hu : ∀ op ∈ u, ∀ x, op.act.touch? = some x → ¬ Sh x.loc → op.g = 0 ∨ (m ≤ op.g ∧ x.kind ≠ .atomic ∧ x.loc.isMemory = true)) :
    ∀ i a, touchAt (t ++ u) i = some a → ¬ Sh a.loc → Knows (t ++ u) 0 i ∨ ∃ k, m ≤ k ∧ (t ++ u).g? i = some k ∧ a.kind ≠ .atomic ∧ a.loc.isMemory = true := by
  intro i a ha hs
  obtain ⟨x, hx, hxa⟩ := touch_of ha
  rcases getElem?_append_cases hx with ⟨hi, hx'⟩ | ⟨_, hxu⟩
  · rcases h i a (by rw [touchAt_of hx']; exact hxa) hs with h1 | ⟨k, h1, h2, h3⟩
    · exact .inl (h1.app u)
    · exact .inr ⟨k, h1, by rw [g?_old hi]; exact h2, h3⟩
  · rcases hu x hxu a hxa hs with h1 | ⟨h1, h2⟩
    · have := knows_own hx
      rw [h1] at this
      exact .inl this
    · exact .inr ⟨x.g, h1, g?_of hx, h2⟩

theorem TR.app0 (A : Apart Sh Own Rd) (h : TR Sh Own Rd m j B t) (hu : ∀ op ∈ u, Ok0 Sh Own Rd j op) (hl : ∀ op ∈ u, op.act.low B) (hr : ∀ op ∈ u, ∀ a, op.act ≠ .mark (.release a)) : TR Sh Own Rd m j B (t ++ u) :=
  ⟨h.ct.app0 A hu, seen_app h.seen hl, over_app h.over fun op hop => .inl (hu op hop).1, known_app h.known fun op hop x _ _ => .inl (hu op hop).1, fun a => norel_app (h.norel a) hr⟩

theorem TR.appK (A : Apart Sh Own Rd) (h : TR Sh Own Rd m j B t) {k : Nat} (k1 : 1 ≤ k) (kj : k ≤ j) (hu : ∀ op ∈ u, OkW Sh Own Rd k op) (hl : ∀ op ∈ u, op.act.low B) (hr : ∀ op ∈ u, ∀ a, op.act ≠ .mark (.release a))
    (hm : ∀ op ∈ u, ∀ x, op.act.touch? = some x → m ≤ k ∧ (¬ Sh x.loc → x.kind ≠ .atomic ∧ x.loc.isMemory = true)) : TR Sh Own Rd m j B (t ++ u) := by
  refine ⟨h.ct.appW A k1 kj hu, seen_app h.seen hl, over_app h.over fun op hop => ?_, known_app h.known fun op hop x hx hs => ?_, fun a => norel_app (h.norel a) hr⟩
  · cases hx : op.act.touch? with
    | none => exact .inr (.inr rfl)
    | some x => exact .inr (.inl (by rw [(hu op hop).1]; exact (hm op hop x hx).1))
  · exact .inr ⟨by rw [(hu op hop).1]; exact (hm op hop x hx).1, (hm op hop x hx).2 hs⟩

theorem meet_touch {c : Nat} {a : MemAct} (h : MeetAct c a) : a.touch? = none := by
  rcases h with ⟨s, rfl⟩ | ⟨s, rfl⟩ | ⟨s, k, rfl⟩ | ⟨s, rfl⟩ <;> rfl
theorem meet_low {c B : Nat} {a : MemAct} (h : MeetAct c a) (hc : c < B) : a.low B := by
  rcases h with ⟨s, rfl⟩ | ⟨s, rfl⟩ | ⟨s, k, rfl⟩ | ⟨s, rfl⟩ <;> exact hc
theorem meet_mark {c : Nat} {a : MemAct} (h : MeetAct c a) (m : Mark) : a ≠ .mark m := by
  rcases h with ⟨s, rfl⟩ | ⟨s, rfl⟩ | ⟨s, k, rfl⟩ | ⟨s, rfl⟩ <;> simp

/-- Operations that touch nothing, whoever's. -/
theorem TR.mute1 (A : Apart Sh Own Rd) (h : TR Sh Own Rd m j B t) {y : MemOp} (hg : y.g ≤ j) (ht : y.act.touch? = none) (hl : y.act.low B) (hr : ∀ a, y.act ≠ .mark (.release a)) : TR Sh Own Rd m j B (t ++ #[y]) := by
  have hm : ∀ op ∈ #[y], op = y := by intro op hop; simpa using hop
  rcases Nat.eq_zero_or_pos y.g with h0 | hp
  · exact h.app0 A (fun op hop => by rw [hm op hop]; exact ⟨h0, fun x hx => by rw [ht] at hx; cases hx⟩) (fun op hop => by rw [hm op hop]; exact hl) (fun op hop => by rw [hm op hop]; exact hr)
  · exact h.appK A hp hg (fun op hop => by rw [hm op hop]; exact ⟨rfl, fun x hx => by rw [ht] at hx; cases hx⟩) (fun op hop => by rw [hm op hop]; exact hl) (fun op hop => by rw [hm op hop]; exact hr) fun op hop x hx => by rw [hm op hop, ht] at hx; cases hx
theorem TR.mute (A : Apart Sh Own Rd) : ∀ (l : List MemOp) {t : Trace}, TR Sh Own Rd m j B t → (∀ op ∈ l, op.g ≤ j ∧ op.act.touch? = none ∧ op.act.low B ∧ ∀ a, op.act ≠ .mark (.release a)) → TR Sh Own Rd m j B (t ++ l.toArray)
  | [], t, h, _ => by simpa using h
  | y :: l, t, h, hl => by
    have e : t ++ (y :: l).toArray = (t ++ #[y]) ++ l.toArray := by simp
    rw [e]
    obtain ⟨h1, h2, h3, h4⟩ := hl y (by simp)
    exact TR.mute A l (h.mute1 A h1 h2 h3 h4) fun op hop => hl op (by simp [hop])
theorem TR.meet (A : Apart Sh Own Rd) (h : TR Sh Own Rd m j B t) {c : Nat} (hc : c < B) (hu : ∀ op ∈ u, op.g ≤ j ∧ MeetAct c op.act) : TR Sh Own Rd m j B (t ++ u) := by
  have := TR.mute A u.toList h fun op hop => by
    obtain ⟨h1, h2⟩ := hu op (by simpa using hop)
    exact ⟨h1, meet_touch h2, meet_low h2 hc, fun a => meet_mark h2 _⟩
  simpa using this

theorem TR.fork (A : Apart Sh Own Rd) (h : TR Sh Own Rd m j B t) (hm : m ≤ j + 1) {x y : MemOp} (hx : x.g = 0 ∧ x.act = .go (j + 1)) (hy : y.g = j + 1 ∧ y.act = .start) (h0 : Deaf t 0 = 0) : TR Sh Own Rd m (j + 1) B (t ++ #[x, y]) := by
  have hm : ∀ op ∈ #[x, y], op = x ∨ op = y := by intro op hop; simpa using hop
  have hn : ∀ op ∈ #[x, y], op.act.touch? = none := by
    intro op hop
    rcases hm op hop with rfl | rfl
    · rw [hx.2]; rfl
    · rw [hy.2]; rfl
  refine ⟨h.ct.fork A hx hy h0, seen_app h.seen fun op hop => ?_, over_app h.over fun op hop => .inr (.inr (hn op hop)), known_app h.known fun op hop z hz => ?_, fun a => norel_app (h.norel a) fun op hop => ?_⟩
  · rcases hm op hop with rfl | rfl
    · rw [hx.2]; trivial
    · rw [hy.2]; trivial
  · rw [hn op hop] at hz; cases hz
  · rcases hm op hop with rfl | rfl
    · rw [hx.2]; simp
    · rw [hy.2]; simp

theorem touch_low {op : MemOp} (h : op.act.low B) {x : Touch} (hx : op.act.touch? = some x) : x.loc.low B := by
  cases hop : op.act with
  | access e => rw [hop] at h hx; simp only [MemAct.touch?, Option.some.injEq] at hx; subst hx; exact h
  | mark mm =>
    rw [hop] at h hx
    cases mm <;> simp only [MemAct.touch?, Option.some.injEq] at hx <;> first | cases hx; done | (subst hx; exact h)
  | _ => rw [hop] at hx; cases hx

/-- More places are shared, none of which anybody has touched; the families of those who are there stand. -/
theorem TR.grow {Sh' : Loc → Prop} {Own' Rd' : Nat → Loc → Prop} {B' : Nat} (h : TR Sh Own Rd m j B t) (hB : B ≤ B') (h1 : ∀ l, Sh l → Sh' l) (h2 : ∀ l, Sh' l → Sh l ∨ ∃ a, l = .cell a ∧ B ≤ a.block)
    (hO : ∀ k, 1 ≤ k → k ≤ j → ∀ l, Own' k l ↔ Own k l) (hR : ∀ k, 1 ≤ k → k ≤ j → ∀ l, Rd' k l ↔ Rd k l) : TR Sh' Own' Rd' m j B' t := by
  have un : ∀ l, Sh' l → Sh l ∨ ∀ i a, touchAt t i = some a → a.loc ≠ l := by
    intro l hl
    rcases h2 l hl with h | ⟨a, rfl, ha⟩
    · exact .inl h
    · refine .inr fun i x hx e => ?_
      obtain ⟨op, ho, hox⟩ := touch_of hx
      have := touch_low (h.seen op (mem_of_getElem? ho)) hox
      rw [e] at this
      exact absurd this (by simp only [Loc.low]; omega)
  refine ⟨⟨fun i op x hi hx hs => ?_, fun k k1 kj l hl => h.ct.own k k1 kj l ((hO k k1 kj l).1 hl), fun k k1 kj l hl => h.ct.rd k k1 kj l ((hR k k1 kj l).1 hl),
    fun l hs hl => h.ct.free l (fun x => hs (h1 l x)) fun k k1 kj => ⟨fun x => (hl k k1 kj).1 ((hO k k1 kj l).2 x), fun x => (hl k k1 kj).2 ((hR k k1 kj l).2 x)⟩,
    fun l hs hl => h.ct.mine l (fun x => hs (h1 l x)) fun k k1 kj x => hl k k1 kj ((hO k k1 kj l).2 x), h.ct.nr, h.ct.gs⟩, fun op hop => MemAct.low_mono hB (h.seen op hop), h.over, fun i a ha hs => h.known i a ha (fun x => hs (h1 _ x)), h.norel⟩
  rcases un x.loc hs with hs | hs
  · exact h.ct.quiet i op x hi hx hs
  · exact absurd rfl (hs i x (by rw [touchAt_of hi]; exact hx))

/-- THE JOIN: all workers have said their release; goroutine 0 acquires. -/
theorem TR.join (h : TR Sh Own Rd m j B t) {a : Addr} (hrel : ∀ k, m ≤ k → k ≤ j → ∃ r, RelBy a t k r) (m1 : 1 ≤ m) {y : MemOp} (hg : y.g = 0) (hy : y.act = .mark (.acquire a)) (h0 : Deaf t 0 = 0) (ha : a.block < B) :
    TR Sh Non Non (j + 1) j B (t ++ #[y]) := by
  have hlast : (t ++ #[y])[t.size]? = some y := by simp
  have hh : (t ++ #[y]).heard t.size := ⟨0, by simp [Trace.g?, hg], by rw [deaf_old (Nat.le_refl _)]; exact h0⟩
  have hN : ∀ b, NoRelease b (t ++ #[y]) := fun b => norel_app (h.norel b) fun op hop c => by
    have : op = y := by simpa using hop
    rw [this, hy]; simp
  have edge : ∀ k r, RelBy a t k r → HappensBefore (t ++ #[y]) r t.size := by
    intro k r hr
    have hlt : r < t.size := lt_of_act? hr.act
    exact .single (.inr ⟨.marked hlt (.inr (by rw [act?_old hlt]; exact hr.act)) (by rw [act?_of hlast, hy]) (fun q _ _ => hN a q), (heard_old hlt).2 hr.heard, hh⟩)
  have upto : ∀ i k r, RelBy a t k r → t.g? i = some k → i ≤ r → HappensBefore (t ++ #[y]) i t.size := by
    intro i k r hr hgi hle
    have hlt : r < t.size := lt_of_act? hr.act
    rcases Nat.lt_or_ge i r with hlt' | hge
    · exact .trans (.single (.inl ⟨hlt', k, by rw [g?_old (by omega)]; exact hgi, by rw [g?_old hlt]; exact hr.g⟩)) (edge k r hr)
    · obtain rfl : i = r := by omega
      exact edge k i hr
  have hnt : ∀ op ∈ #[y], op.act.touch? = none := by
    intro op hop
    have : op = y := by simpa using hop
    rw [this, hy]; rfl
  have old : ∀ {i : Nat} {x : Touch}, touchAt (t ++ #[y]) i = some x → touchAt t i = some x := by
    intro i x hx
    obtain ⟨z, hz, hzx⟩ := touch_of hx
    rcases getElem?_append_cases hz with ⟨_, hz'⟩ | ⟨_, hzu⟩
    · rw [touchAt_of hz']; exact hzx
    · rw [hnt z hzu] at hzx; cases hzx
  have hk : ∀ i x, touchAt t i = some x → ¬ Sh x.loc → Knows (t ++ #[y]) 0 i := by
    intro i x hx hs
    rcases h.known i x hx hs with h1 | ⟨k, hmk, hgk, hka, hkm⟩
    · exact h1.app _
    · obtain ⟨op, hop, hopk⟩ := g?_mem hgk
      obtain ⟨r, hr⟩ := hrel k hmk (hopk ▸ h.ct.gs i op hop)
      have hc : t.counts i := ⟨x, hx, hkm, .inl hka⟩
      have hle : i ≤ r := Nat.le_of_not_lt fun hlt => hr.after i hlt hgk hc
      exact ⟨t.size, y, hlast, hg, .inr (upto i k r hr hgk hle)⟩
  refine ⟨⟨h.ct.quiet.app fun op hop x hx _ => (by rw [hnt op hop] at hx; cases hx), fun _ _ _ _ hl => hl.elim, fun _ _ _ _ hl => hl.elim, fun l hs _ i x hx e => hk i x (old hx) (e ▸ hs), fun l hs _ i x hx e _ => hk i x (old hx) (e ▸ hs), fun said => ?_, fun i op hi => ?_⟩, seen_app h.seen fun op hop => ?_, ?_, fun i x hx hs => .inl (hk i x (old hx) hs), hN⟩
  · exact noRace_append (g := 0) (h.ct.nr said) (fun op hop => by have : op = y := by simpa using hop
                                                                  rw [this]; exact hg) (fun i x _ op hop b hb _ => (by rw [hnt op hop] at hb; cases hb))
  · rcases getElem?_append_cases hi with ⟨_, hi'⟩ | ⟨_, hiu⟩
    · exact h.ct.gs i op hi'
    · have : op = y := by simpa using hiu
      rw [this, hg]; exact Nat.zero_le _
  · have : op = y := by simpa using hop
    rw [this, hy]; exact ha
  · intro i g hgi h0' hm hc
    rcases Nat.lt_or_ge g m with hlt | hge
    · exact over_app h.over (fun op hop => .inr (.inr (hnt op hop))) i g hgi h0' hlt hc
    · obtain ⟨x, hx⟩ := counts_touch hc
      obtain ⟨z, hz, _⟩ := touch_of (old hx)
      have hlt := lt_size_of_getElem? hz
      have hgi' : t.g? i = some g := by rw [← g?_old (u := #[y]) hlt]; exact hgi
      obtain ⟨op, hop, hopk⟩ := g?_mem hgi'
      obtain ⟨r, hr⟩ := hrel g hge (hopk ▸ h.ct.gs i op hop)
      have hle : i ≤ r := Nat.le_of_not_lt fun hl => hr.after i hl hgi' ((counts_old hlt).1 hc)
      exact ⟨t.size, by simp [Trace.g?, hg], upto i g r hr hgi' hle⟩
end

/-! ### What a silent step lists -/
def ShW (ty : Nat) (W : World) : Loc → Prop := fun l => ∃ a, l = .cell a ∧ ∃ c fr, W.heap[a.block]? = some (.cells c ty fr)
theorem evc_cases {ty : Nat} {ro : Nat → Prop} {W' w' : World} {e : Event} (h : EvC ty ro W' w' e) :
    (MemAct.ofEvent e).low w'.heap.size ∧ e.loc ≠ .mark .disable ∧ e.loc ≠ .mark .enable ∧ (∀ a, MemAct.ofEvent e ≠ .mark (.release a)) ∧
    ∀ x, (MemAct.ofEvent e).touch? = some x → x.kind = .plain ∧ ∃ a, x.loc = .cell a ∧ (x.write = true → ¬ ro a.block) ∧ ∃ c e' fr, W'.heap[a.block]? = some (.cells c e' fr) ∧ e' ≠ ty := by
  rcases h with rfl | ⟨a, wr, rfl, hlt, hro, hk⟩
  · exact ⟨trivial, by simp [noRoomEvent], by simp [noRoomEvent], by simp [noRoomEvent, MemAct.ofEvent], fun x hx => by simp [noRoomEvent, MemAct.ofEvent, MemAct.touch?] at hx⟩
  · refine ⟨?_, by simp, by simp, by cases wr <;> simp [MemAct.ofEvent], fun x hx => ?_⟩
    · cases wr <;> exact hlt
    · have : x = ⟨.cell a, wr, .plain⟩ := by cases wr <;> simpa [MemAct.ofEvent, MemAct.touch?] using hx.symm
      subst this
      exact ⟨rfl, a, rfl, hro, hk⟩
end Go.Cv
