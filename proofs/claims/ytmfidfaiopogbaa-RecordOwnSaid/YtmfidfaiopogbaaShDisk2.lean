/- Contracts of the disk's methods. -/
import Derived.Test.YtmfidfaiopogbaaShDisk
set_option linter.unusedVariables false
set_option linter.unusedSectionVars false
set_option linter.unusedSimpArgs false
set_option maxRecDepth 4000
namespace Go.Proofs.Ytmfidfaiopogbaa
open Go Go.Sh
variable [Av]

/-! ### A disk, by its states -/
structure A where
  first : Fs
  rest : List Fs
  raws : Int
  armed : Bool
  left : Int
def A.now (x : A) : Fs := x.rest.getLastD x.first
def A.dead (x : A) : Bool := x.armed && decide (x.left ≤ 0)
def A.stepped (x : A) : A := { x with left := if x.armed then x.left - 1 else x.left }
def A.push (x : A) (s : Fs) : A := { x.stepped with rest := x.rest ++ [s], raws := IntKind.i64.wrap (x.raws + 1) }
def Fs.small (s : Fs) : Prop := s.a.length ≤ 65536 ∧ s.b.length ≤ 65536 ∧ s.c.length ≤ 65536
omit [Av] in
theorem Fs.small.get {s : Fs} (h : s.small) (f : Nat) : (s.get f).length ≤ 65536 := by
  unfold Fs.get; split
  · exact h.1
  · exact h.2.1
  · exact h.2.2
omit [Av] in
theorem Fs.small.set {s : Fs} (h : s.small) (f : Nat) {l : Bs} (hl : l.length ≤ 65536) : (s.set f l).small := by
  unfold Fs.set; split
  · exact ⟨hl, h.2.1, h.2.2⟩
  · exact ⟨h.1, hl, h.2.2⟩
  · exact ⟨h.1, h.2.1, hl⟩
structure A.ok (x : A) : Prop where
  small : ∀ s, s ∈ x.first :: x.rest → s.small
  left : x.armed = true → 0 ≤ x.left ∧ x.left ≤ 9223372036854775807
omit [Av] in
theorem A.now_mem (x : A) : x.now ∈ x.first :: x.rest := by
  unfold A.now
  rw [List.getLastD_eq_getLast?]
  cases h : x.rest.getLast? with
  | none => simp
  | some s => exact List.mem_cons_of_mem _ (List.mem_of_getLast? h)
omit [Av] in
theorem A.ok.now {x : A} (h : x.ok) : x.now.small := h.small _ x.now_mem

/-- The pending raw writes' cells. -/
def PendC (w : World) : Fs → List Fs → List Value → Prop
  | _, [], cs => cs = []
  | s0, s1 :: ss, cs => ∃ (f at_ : Nat) (b : Sv) (l : Bs) (cut : Bool) (cs' : List Value), cs = .int .i64 f :: .int .i64 at_ :: b.v :: .bool cut :: cs' ∧ Rs w b l ∧ f < 3 ∧ at_ ≤ (s0.get f).length ∧
      l.length ≤ 65536 ∧ s1 = s0.set f (wrt (s0.get f) at_ l cut) ∧ PendC w s1 ss cs'
theorem PendC.keep {w w' : World} {S : Nat → Prop} (k : Keep S w w') (hS : ∀ b, S b → ¬ TyB w b 5) : ∀ {s0 : Fs} {ss : List Fs} {cs : List Value}, PendC w s0 ss cs → PendC w' s0 ss cs
  | _, [], _, h => h
  | s0, s1 :: ss, cs, h => by
    obtain ⟨f, at_, b, l, cut, cs', h1, h2, h3, h4, h5, h6, h7⟩ := h
    exact ⟨f, at_, b, l, cut, cs', h1, h2.keep k hS, h3, h4, h5, h6, PendC.keep k hS h7⟩
theorem PendC.length {w : World} : ∀ {s0 : Fs} {ss : List Fs} {cs : List Value}, PendC w s0 ss cs → cs.length = ss.length * 4
  | _, [], _, h => by subst h; rfl
  | s0, s1 :: ss, cs, h => by
    obtain ⟨f, at_, b, l, cut, cs', rfl, h2, h3, h4, h5, h6, h7⟩ := h
    simp [PendC.length h7]; omega
theorem PendC.push {w : World} {f at_ : Nat} {b : Sv} {l : Bs} {cut : Bool} (hb : Rs w b l) (hf : f < 3) (hl : l.length ≤ 65536) : ∀ {s0 : Fs} {ss : List Fs} {cs : List Value}, PendC w s0 ss cs →
    at_ ≤ ((ss.getLastD s0).get f).length → PendC w s0 (ss ++ [(ss.getLastD s0).set f (wrt ((ss.getLastD s0).get f) at_ l cut)]) (cs ++ [.int .i64 f, .int .i64 at_, b.v, .bool cut])
  | s0, [], cs, h, ha => by
    subst h
    exact ⟨f, at_, b, l, cut, [], rfl, hb, hf, ha, hl, rfl, rfl⟩
  | s0, s1 :: ss, cs, h, ha => by
    obtain ⟨f', at', b', l', cut', cs', rfl, h2, h3, h4, h5, h6, h7⟩ := h
    have e : (s1 :: ss).getLastD s0 = ss.getLastD s1 := by simp [List.getLastD_eq_getLast?, List.getLast?_cons]
    rw [e] at ha ⊢
    exact ⟨f', at', b', l', cut', _, rfl, h2, h3, h4, h5, h6, PendC.push hb hf hl h7 ha⟩
theorem PendC.one {w : World} : ∀ {s0 : Fs} {ss : List Fs} {cs : List Value}, PendC w s0 ss cs → ∀ u, u ∈ cs → one1 u = true
  | _, [], _, h, u, hu => by subst h; simp at hu
  | s0, s1 :: ss, cs, h, u, hu => by
    obtain ⟨f, at_, b, l, cut, cs', rfl, h2, h3, h4, h5, h6, h7⟩ := h
    simp only [List.mem_cons] at hu
    rcases hu with rfl | rfl | rfl | rfl | hu
    · rfl
    · rfl
    · rfl
    · rfl
    · exact PendC.one h7 u hu

def dkC (d0 d1 d2 n0 n1 n2 q : Sv) (r : Int) (am : Bool) (l : Int) : Array Value := #[d0.v, d1.v, d2.v, n0.v, n1.v, n2.v, q.v, .int .i64 r, .bool am, .int .i64 l]
/-- The blocks that a disk writes: its own and its list's. -/
def dk (p : Nat) (q : Sv) : Nat → Prop := fun b => b = p ∨ OB q.a b

/-- The block p is a disk whose pending raw writes lie in q. -/
structure DkR (w : World) (lo p : Nat) (q : Sv) (x : A) : Prop where
  ex : ∃ (d0 d1 d2 n0 n1 n2 : Sv) (dl : Int), Bk w p (dkC d0 d1 d2 n0 n1 n2 q x.raws x.armed dl) 112 ∧ (x.armed = true → dl = x.left) ∧
    Rs w d0 x.first.a ∧ Rs w d1 x.first.b ∧ Rs w d2 x.first.c ∧ Rs w n0 x.now.a ∧ Rs w n1 x.now.b ∧ Rs w n2 x.now.c
  own : ∃ cs, w.ownsRow lo 114 4 q.v q.n cs ∧ q.n = x.rest.length ∧ PendC w x.first x.rest cs
  lo_ : lo ≤ p
  av : Old w
  ok : x.ok

omit [Av] in
theorem own_ty {w : World} {lo e sz n : Nat} {q : Sv} {cs : List Value} (h : w.ownsRow lo e sz q.v n cs) {b : Nat} (hb : OB q.a b) : TyB w b e ∧ lo ≤ b := by
  obtain ⟨z, hz, rfl⟩ := hb
  rcases h.2 with ⟨h, _⟩ | ⟨g, cap, cur, h, hg0, hg, _⟩
  · simp only [Value.slice.injEq] at h; rw [h.1] at hz; cases hz
  · simp only [Value.slice.injEq] at h; rw [h.1] at hz; cases hz; exact ⟨⟨cur, _, hg⟩, hg0⟩
omit [Av] in
theorem own_keep {w w' : World} {lo e sz n : Nat} {v : Value} {cs : List Value} {S : Nat → Prop} (h : w.ownsRow lo e sz v n cs) (k : Keep S w w') (hS : ∀ b, some b = v.ownBlock → ¬ S b) : w'.ownsRow lo e sz v n cs := by
  refine ⟨h.1, ?_⟩
  rcases h.2 with h2 | ⟨g, cap, cur, rfl, hg0, hg, h3⟩
  · exact .inl h2
  · have hlt : g < w.heap.size := by
      rcases Nat.lt_or_ge g w.heap.size with h' | h'
      · exact h'
      · rw [Array.getElem?_eq_none h'] at hg; cases hg
    exact .inr ⟨g, cap, cur, rfl, hg0, by rw [k.same g hlt (hS g rfl)]; exact hg, h3⟩

section
variable {w w' : World} {lo p : Nat} {q : Sv} {x : A}
theorem DkR.ty (h : DkR w lo p q x) {b : Nat} (hb : dk p q b) : ¬ TyB w b 5 := by
  obtain ⟨d0, d1, d2, n0, n1, n2, dl, hB, _⟩ := h.ex
  obtain ⟨cs, ho, _⟩ := h.own
  intro ht
  rcases hb with rfl | hb
  · exact absurd (ht.uniq hB.ty) (by decide)
  · exact absurd (ht.uniq (own_ty ho hb).1) (by decide)
theorem DkR.new (h : DkR w lo p q x) {b : Nat} (hb : dk p q b) : lo ≤ b := by
  obtain ⟨cs, ho, _⟩ := h.own
  rcases hb with rfl | hb
  · exact h.lo_
  · exact (own_ty ho hb).2
theorem DkR.keep {S : Nat → Prop} (h : DkR w lo p q x) (k : Keep S w w') (hS : ∀ b, S b → ¬ dk p q b ∧ ¬ TyB w b 5) : DkR w' lo p q x := by
  obtain ⟨d0, d1, d2, n0, n1, n2, dl, hB, ha, h0, h1, h2, h3, h4, h5⟩ := h.ex
  obtain ⟨cs, ho, hn, hp⟩ := h.own
  have hS5 : ∀ b, S b → ¬ TyB w b 5 := fun b hb => (hS b hb).2
  refine ⟨⟨d0, d1, d2, n0, n1, n2, dl, hB.keep k fun hb => (hS _ hb).1 (.inl rfl), ha, h0.keep k hS5, h1.keep k hS5, h2.keep k hS5, h3.keep k hS5, h4.keep k hS5, h5.keep k hS5⟩,
    ⟨cs, own_keep ho k fun b hb hs => (hS b hs).1 (.inr ?_), hn, hp.keep k hS5⟩, h.lo_, h.av.up k, h.ok⟩
  cases hq : q.a with
  | none => rw [Sv.v, hq] at hb; cases hb
  | some z => rw [Sv.v, hq] at hb; simp only [Value.ownBlock, Option.some.injEq] at hb; exact ⟨z, rfl, hb⟩
theorem DkR.no_ (h : DkR w lo p q x) (k : Keep no w w') : DkR w' lo p q x := h.keep k fun _ hb => hb.elim
theorem DkR.pmono (h : DkR w lo p q x) : p < w.heap.size := by obtain ⟨d0, d1, d2, n0, n1, n2, dl, hB, _⟩ := h.ex; exact hB.lt

abbrev dp (p : Nat) : Value := .pointer (some ⟨p, 0, none⟩)

theorem dead_spec (h : DkR w lo p q x) : Calls Try.prog 26 #[dp p] w fun e w' => e = .returned (.bool x.dead) ∧ w' = w := by
  obtain ⟨d0, d1, d2, n0, n1, n2, dl, hB, ha, _⟩ := h.ex
  refine c26 ?_
  unfold sh26
  refine ⟨x.armed, by rw [addP]; exact hB.cell 8, ?_⟩
  unfold A.dead
  cases hx : x.armed with
  | false => exact ⟨rfl, rfl⟩
  | true =>
    refine ⟨dl, by rw [addP]; exact hB.cell 9, ?_⟩
    rw [ha hx]
    exact ⟨rfl, rfl⟩
theorem pending_spec (h : DkR w lo p q x) : Calls Try.prog 27 #[dp p] w fun e w' => e = .returned (.int .i64 x.rest.length) ∧ w' = w := by
  obtain ⟨d0, d1, d2, n0, n1, n2, dl, hB, _⟩ := h.ex
  obtain ⟨cs, ho, hn, _⟩ := h.own
  refine c27 ?_
  unfold sh27
  exact ⟨q.a, q.n, q.c, by rw [addP]; exact hB.cell 6, by rw [hn], rfl⟩
theorem raw_spec (h : DkR w lo p q x) : Calls Try.prog 50 #[dp p] w fun e w' => e = .returned (.int .i64 x.raws) ∧ w' = w := by
  obtain ⟨d0, d1, d2, n0, n1, n2, dl, hB, _⟩ := h.ex
  refine c50 ?_
  unfold sh50
  exact ⟨x.raws, by rw [addP]; exact hB.cell 7, rfl, rfl⟩

/-- The slice of a file as it is now. -/
theorem DkR.file (h : DkR w lo p q x) {f : Nat} (hf : f < 3) : ∃ s : Sv, w.cell? ((⟨p, 3, none⟩ : Addr).add ((f : Int).toNat * 1)) = some s.v ∧ Rs w s (x.now.get f) := by
  obtain ⟨d0, d1, d2, n0, n1, n2, dl, hB, _, _, _, _, h3, h4, h5⟩ := h.ex
  rw [addP, Int.toNat_natCast, Nat.mul_one, hB.cell]
  match f, hf with
  | 0, _ => exact ⟨n0, rfl, h3⟩
  | 1, _ => exact ⟨n1, rfl, h4⟩
  | 2, _ => exact ⟨n2, rfl, h5⟩
def IsF (x : A) (f at_ : Int) : Prop := 0 ≤ f ∧ f < 3 ∧ 0 ≤ at_ ∧ at_ ≤ ((x.now.get f.toNat).length : Int)
theorem is_spec (h : DkR w lo p q x) (f at_ : Int) : Calls Try.prog 70 #[dp p, .int .i64 f, .int .i64 at_] w fun e w' => ∃ b, e = .returned (.bool b) ∧ w' = w ∧ (b = true ↔ IsF x f at_) := by
  refine c70 ?_
  unfold sh70 IsF
  refine cond_d (fun h1 => ?_) (fun h1 => ⟨false, rfl, rfl, by simp; omega⟩)
  refine cond_d (fun h2 => ?_) (fun h2 => ⟨false, rfl, rfl, by simp; omega⟩)
  refine cond_d (fun h3 => ?_) (fun h3 => ⟨false, rfl, rfl, by simp; omega⟩)
  obtain ⟨g, rfl⟩ := Int.eq_ofNat_of_zero_le h1
  obtain ⟨s, hs, hr⟩ := h.file (f := g) (by omega)
  refine ⟨by omega, by omega, s.a, s.n, s.c, by rw [addP]; exact hs, _, rfl, rfl, ?_⟩
  have := Rb.len hr
  simp only [Int.toNat_natCast, decide_eq_true_eq]
  rw [← this]
  omega
/-- What Read answers. -/
def A.read (x : A) (f : Int) : Bs := if 0 ≤ f ∧ f < 3 then x.now.get f.toNat else []
theorem read_spec (h : DkR w lo p q x) (f : Int) : Calls Try.prog 29 #[dp p, .int .i64 f] w fun e w' => ∃ s : Sv, e = .returned s.v ∧ Rs w' s (x.read f) ∧ w'.ownsRow w.heap.size 5 1 s.v s.n (bvs (x.read f)) ∧ Keep no w w' := by
  refine c29 ?_
  unfold sh29
  refine (is_spec h f 0).mono ?_
  rintro e w' ⟨b, rfl, rfl, hb⟩
  refine ⟨b, rfl, ?_⟩
  unfold A.read
  cases b with
  | false =>
    have : ¬ (0 ≤ f ∧ f < 3) := fun h => by
      have := hb.2 ⟨h.1, h.2, by omega, by omega⟩; cases this
    rw [if_neg this]
    exact ⟨⟨none, 0, 0⟩, rfl, Rd.nil _ _ _, World.ownsRow_nil _ _ _ _, Keep.refl _ _⟩
  | true =>
    obtain ⟨h1, h2, _⟩ := hb.1 rfl
    obtain ⟨g, rfl⟩ := Int.eq_ofNat_of_zero_le h1
    obtain ⟨s, hs, hr⟩ := h.file (f := g) (by omega)
    refine ⟨h1, h2, s.a, s.n, s.c, by rw [addP]; exact hs, ?_⟩
    have hl := Rb.len hr
    have hsm := h.ok.now.get g
    refine (clone_spec hr (by omega) h.av).mono ?_
    rintro e w2 ⟨s2, rfl, hr2, ho2, k2, _⟩
    rw [if_pos ⟨h1, h2⟩]
    exact ⟨s2.a, s2.n, s2.c, rfl, s2, rfl, hr2, ho2, k2⟩
theorem size_spec (h : DkR w lo p q x) (f : Int) : Calls Try.prog 34 #[dp p, .int .i64 f] w fun e w' => e = .returned (.int .i64 (x.read f).length) ∧ Keep no w w' := by
  refine c34 ?_
  unfold sh34
  refine (read_spec h f).mono ?_
  rintro e w' ⟨s, rfl, hr, _, k⟩
  exact ⟨s.a, s.n, s.c, rfl, by rw [Rb.len hr], k⟩
end

theorem new_spec (w : World) (hO : Old w) : Calls Try.prog 53 #[] w fun e w' => ∃ p, e = .returned (dp p) ∧ DkR w' w.heap.size p ⟨none, 0, 0⟩ ⟨⟨[], [], []⟩, [], 0, false, 0⟩ ∧ Keep no w w' ∧ p = w.heap.size ∧
    Bk w' p (dkC ⟨none, 0, 0⟩ ⟨none, 0, 0⟩ ⟨none, 0, 0⟩ ⟨none, 0, 0⟩ ⟨none, 0, 0⟩ ⟨none, 0, 0⟩ ⟨none, 0, 0⟩ 0 false 0) 112 := by
  refine c53 ?_
  unfold sh53
  intro p w2
  have hB : Bk w2 p (dkC ⟨none, 0, 0⟩ ⟨none, 0, 0⟩ ⟨none, 0, 0⟩ ⟨none, 0, 0⟩ ⟨none, 0, 0⟩ ⟨none, 0, 0⟩ ⟨none, 0, 0⟩ 0 false 0) 112 := Bk.new w _ _
  refine ⟨p, rfl, ⟨⟨_, _, _, _, _, _, 0, hB, (fun h => by cases h), Rd.nil _ _ _, Rd.nil _ _ _, Rd.nil _ _ _, Rd.nil _ _ _, Rd.nil _ _ _, Rd.nil _ _ _⟩, ⟨[], World.ownsRow_nil _ _ _ _, rfl, rfl⟩, Nat.le_refl _, hO.up (Keep.alloc no w _), ?_⟩, Keep.alloc _ _ _, rfl, hB⟩
  refine ⟨fun s hs => ?_, fun h => by cases h⟩
  simp at hs; subst hs
  exact ⟨by simp, by simp, by simp⟩
end Go.Proofs.Ytmfidfaiopogbaa
