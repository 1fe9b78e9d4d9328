/- Own rows that are written over, and disks that do not read them. -/
import Derived.Test.YtmfidfaiopogbaaShBuilt
set_option linter.unusedVariables false
set_option linter.unusedSectionVars false
set_option linter.unusedSimpArgs false
set_option maxRecDepth 4000
namespace Go.Proofs.Ytmfidfaiopogbaa
open Go Go.Sh

/-- A cell of an own row is written. -/
theorem own_set {w : World} {base e n c : Nat} {a : Option Addr} {xs : List Value} (h : w.ownsRow base e 1 (.slice a n c) n xs) {i : Nat} (hi : i < n) (v : Value) :
    ∃ q, a = some q ∧ wr w (q.add (i * 1)) ∧ (w.setCell (q.add (i * 1)) v).ownsRow base e 1 (.slice a n c) n (xs.set i v) ∧ Keep (OB a) w (w.setCell (q.add (i * 1)) v) := by
  rcases h.2 with ⟨h1, h2⟩ | ⟨g, cap, cur, h1, hg0, hg, hn, hm, hs, ht⟩
  · omega
  · simp only [Value.slice.injEq] at h1
    obtain ⟨rfl, _, rfl⟩ := h1
    have hB : Bk w g cur e := hg
    refine ⟨⟨g, 0, none⟩, rfl, ?_, ?_, ?_⟩
    · rw [addP]; exact hB.wr (by omega)
    · rw [addP, Nat.zero_add, Nat.mul_one]
      refine ⟨by rw [List.length_set]; exact h.1, .inr ⟨g, c, cur.setIfInBounds i v, rfl, hg0, hB.set i v, hn, hm, by simpa using hs, ?_⟩⟩
      rw [Array.toList_setIfInBounds, ← ht, List.take_set]
    · rw [addP]
      exact Keep.set w v ⟨⟨g, 0, none⟩, rfl, rfl⟩
theorem own_block {w : World} {base e n c : Nat} {a : Option Addr} {xs : List Value} (h : w.ownsRow base e 1 (.slice a n c) n xs) {b : Nat} (hb : OB a b) : base ≤ b ∧ TyB w b e := by
  have := own_ty (q := ⟨a, n, c⟩) h hb
  exact ⟨this.2, this.1⟩
theorem Rd.takeB [Av] {w : World} {e : Nat} {a : Option Addr} {n c : Nat} {l : Bs} (h : Rd w e 1 a n c (bvs l)) {r : Nat} (hr : r ≤ n) : Rd w e 1 (subS a c 0 1) (r - 0) (c - 0) (bvs (l.take r)) := by
  have := Rd.sub h (Nat.zero_le r) hr
  simpa [bvs, List.map_take] using this
theorem Rd.own0 [Av] {w : World} {base e sz n c : Nat} {a : Option Addr} {cs : List Value} (h : w.ownsRow base e sz (.slice a n c) n cs) : Rd w 0 sz a n c cs := by
  rcases h.2 with ⟨h1, h2⟩ | ⟨g, cap, cur, h1, _, hg, hn, hm, hs, ht⟩
  · simp only [Value.slice.injEq] at h1
    obtain ⟨rfl, _, rfl⟩ := h1
    subst h2
    exact ⟨h.1, Nat.le_refl _, by simp [maxLen], fun h => absurd h (by omega)⟩
  · simp only [Value.slice.injEq] at h1
    obtain ⟨rfl, _, rfl⟩ := h1
    refine ⟨h.1, hn, hm, fun _ => ⟨g, 0, cur, _, rfl, ⟨e, .inl rfl, hg⟩, fun j u hu => ?_⟩⟩
    rw [← ht, List.getElem?_take] at hu
    split at hu
    · simpa using hu
    · cases hu
theorem Rd.blk0 [Av] {w : World} {e sz b n : Nat} {cs : Array Value} (h : Bk w b cs e) (hs : cs.size = n * sz) (hm : n ≤ maxLen) : Rd w 0 sz (some ⟨b, 0, none⟩) n n cs.toList :=
  ⟨by simpa using hs, Nat.le_refl _, hm, fun _ => ⟨b, 0, cs, _, rfl, ⟨e, .inl rfl, h⟩, fun j u hu => by simpa using hu⟩⟩
section
variable {A1 A2 : Av} {w w' : World} {lo p : Nat} {q s : Sv} {x : A}
theorem Rs.av {r : Sv} {l : Bs} (h : @Rs A1 w r l) (hz : ∀ b, A2.Z b → w.heap.size ≤ b) : @Rs A2 w r l := Rd.av (A1 := A1) (A2 := A2) h hz
theorem PendC.av (hz : ∀ b, A2.Z b → w.heap.size ≤ b) : ∀ {s0 : Fs} {ss : List Fs} {cs : List Value}, @PendC A1 w s0 ss cs → @PendC A2 w s0 ss cs
  | _, [], _, h => h
  | s0, s1 :: ss, cs, h => by
    obtain ⟨f, at_, b, l, cut, cs', h1, h2, h3, h4, h5, h6, h7⟩ := h
    exact ⟨f, at_, b, l, cut, cs', h1, h2.av hz, h3, h4, h5, h6, PendC.av hz h7⟩
theorem DkR.ava (h : @DkR A1 w lo p q x) (hz : ∀ b, A2.Z b → w.heap.size ≤ b) (k : Keep no w w') (hO : @Old A2 w') : @DkR A2 w' lo p q x := by
  obtain ⟨⟨d0, d1, d2, n0, n1, n2, dl, hB, ha, h0, h1, h2, h3, h4, h5⟩, ⟨cs, ho, hn, hp⟩, hlo, hav, hok⟩ := h
  refine ⟨⟨d0, d1, d2, n0, n1, n2, dl, hB.no k, ha, Rs.no (h0.av hz) k, Rs.no (h1.av hz) k, Rs.no (h2.av hz) k, Rs.no (h3.av hz) k, Rs.no (h4.av hz) k, Rs.no (h5.av hz) k⟩,
    ⟨cs, own_keep ho k fun _ _ h => h, hn, (PendC.av hz hp).keep k fun _ h => h.elim⟩, hlo, hO, hok⟩
theorem RefR.ava (h : @RefR A1 w s x) (hz : ∀ b, A2.Z b → w.heap.size ≤ b) : @RefR A2 w s x := ⟨Rd.av (A1 := A1) (A2 := A2) h.1 hz, h.2⟩
end
section
variable [Av] {w w' : World} {lo p : Nat} {q s : Sv} {x : A}
theorem Rs.keepZ {r : Sv} {l : Bs} {S : Nat → Prop} (h : Rs w r l) (k : Keep S w w') (hS : ∀ b, S b → TyB w b 5 → Av.Z b) : Rs w' r l := Rd.keepZ h k fun b hb ht => ⟨rfl, hS b hb ht⟩
theorem PendC.keepZ {S : Nat → Prop} (k : Keep S w w') (hS : ∀ b, S b → TyB w b 5 → Av.Z b) : ∀ {s0 : Fs} {ss : List Fs} {cs : List Value}, PendC w s0 ss cs → PendC w' s0 ss cs
  | _, [], _, h => h
  | s0, s1 :: ss, cs, h => by
    obtain ⟨f, at_, b, l, cut, cs', h1, h2, h3, h4, h5, h6, h7⟩ := h
    exact ⟨f, at_, b, l, cut, cs', h1, h2.keepZ k hS, h3, h4, h5, h6, PendC.keepZ k hS h7⟩
/-- What no disk reads may be written over. -/
theorem DkR.keepZ {S : Nat → Prop} (h : DkR w lo p q x) (k : Keep S w w') (hd : ∀ b, S b → ¬ dk p q b) (hS : ∀ b, S b → TyB w b 5 → Av.Z b) : DkR w' lo p q x := by
  obtain ⟨d0, d1, d2, n0, n1, n2, dl, hB, ha, h0, h1, h2, h3, h4, h5⟩ := h.ex
  obtain ⟨cs, ho, hn, hp⟩ := h.own
  refine ⟨⟨d0, d1, d2, n0, n1, n2, dl, hB.keep k fun hb => hd _ hb (.inl rfl), ha, h0.keepZ k hS, h1.keepZ k hS, h2.keepZ k hS, h3.keepZ k hS, h4.keepZ k hS, h5.keepZ k hS⟩,
    ⟨cs, own_keep ho k fun b hb hs => hd b hs (.inr ?_), hn, PendC.keepZ k hS hp⟩, h.lo_, h.av.up k, h.ok⟩
  cases hq : q.a with
  | none => rw [Sv.v, hq] at hb; cases hb
  | some z => rw [Sv.v, hq] at hb; simp only [Value.ownBlock, Option.some.injEq] at hb; exact ⟨z, rfl, hb⟩
end
/-- Where nothing needs to stay unread. -/
abbrev noAv : Av := ⟨fun _ => False⟩
theorem noOld (w : World) : @Old noAv w := fun _ h => h.elim
end Go.Proofs.Ytmfidfaiopogbaa
