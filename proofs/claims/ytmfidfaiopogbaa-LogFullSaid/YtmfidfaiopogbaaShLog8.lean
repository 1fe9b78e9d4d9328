/- Rewrite: plain law. -/
import Derived.Test.YtmfidfaiopogbaaShLog5
set_option linter.unusedVariables false
set_option linter.unusedSimpArgs false
set_option linter.unusedSectionVars false
set_option maxRecDepth 4000
namespace Go.Proofs.Ytmfidfaiopogbaa
open Go Go.Sh
theorem wrt_one {old : Bs} (h : old.length ≤ 1) (b : UInt8) : wrt old 0 [b] false = [b] := by
  unfold wrt
  have : decide ((old.take 0 ++ [b]).length < old.length) = false := decide_eq_false (by simp; omega)
  rw [this]; rfl
theorem A.Write_word {x : A} (h : x.now.a.length ≤ 1) (b : UInt8) : x.Write 0 0 [b] = (if x.dead = true then (x, 180) else (x.push (x.now.set 0 [b]), 0)) := by
  unfold A.Write
  have h1 : IsF x 0 0 := ⟨by omega, by omega, by omega, by omega⟩
  rw [if_pos h1, if_neg (by simp), if_neg (by simp)]
  unfold A.raw1
  have e : wrt (x.now.get 0) 0 [b] false = [b] := wrt_one h b
  cases x.dead <;> simp [e]
/-- What a Rewrite makes of the files. -/
def rwS (s : Fs) (f : Nat) (all : Bs) : Fs := (s.set (3 - f) all).set 0 [UInt8.ofNat (3 - f)]
theorem rew_seq {x : A} {f : Nat} {all : Bs} (hf : f = 1 ∨ f = 2) (ho : x.now.get (3 - f) = []) (ha : x.now.a.length ≤ 1) (hl : all.length ≤ 65536) :
    ((A.seq (rewG f all) x).2 = 0 ∨ (A.seq (rewG f all) x).2 = 180) ∧ (A.seq (rewG f all) x).1.armed = x.armed ∧ (x.armed = false → (A.seq (rewG f all) x).2 = 0) ∧
    ((A.seq (rewG f all) x).2 = 0 → (A.seq (rewG f all) x).1.first = rwS x.now f all ∧ (A.seq (rewG f all) x).1.rest = [(rwS x.now f all).set f []]) ∧
    (∀ s ∈ (A.seq (rewG f all) x).1.sts, s ∈ x.sts ∨ (∃ k, k ≤ all.length ∧ s = x.now.set (3 - f) (all.take k)) ∨ s = rwS x.now f all ∨ s = (rwS x.now f all).set f []) := by
  have h3 : 3 - f < 3 := by omega
  have h0' : 3 - f ≠ 0 := by omega
  have hp := A.pieces_end all.length x (3 - f) all (Nat.le_refl _) h3 (by rw [ho]; simpa using hl)
  rw [ho] at hp
  simp only [List.length_nil, List.nil_append] at hp
  obtain ⟨p1, p2, p3, p4, p5, p6, p7⟩ := hp
  simp only [rewG, A.seq]
  generalize hx1 : x.pieces (3 - f) 0 all = r1 at *
  have un : ∀ {y : A}, y.dead = true → y.armed = x.armed → x.armed = false → False := fun {y} hd hy hx => by
    rw [A.dead_un (hy.trans hx)] at hd; cases hd
  have c1 : ∀ s ∈ r1.1.sts, s ∈ x.sts ∨ (∃ k, k ≤ all.length ∧ s = x.now.set (3 - f) (all.take k)) ∨ s = rwS x.now f all ∨ s = (rwS x.now f all).set f [] := fun s hs => (p5 s hs).imp_right .inl
  by_cases z1 : r1.2 = 0
  · rw [if_pos z1]
    have n1 := p3 z1
    rw [A.Sync_ok r1.1]
    by_cases d1 : r1.1.dead = true
    · rw [if_pos d1, if_neg (by simp)]
      exact ⟨.inr rfl, p2, fun h => (un d1 p2 h).elim, fun h => by simp at h, c1⟩
    rw [if_neg d1, if_pos rfl]
    simp only
    generalize hx2 : ({ r1.1.stepped with first := r1.1.now, rest := [] } : A) = x2
    have n2 : x2.now = x.now.set (3 - f) all := by rw [← hx2, ← n1]; rfl
    have f2 : x2.sts = [x.now.set (3 - f) all] := by rw [← hx2]; show [r1.1.now] = _; rw [n1]
    have a2 : x2.armed = x.armed := by rw [← hx2]; exact p2
    have c2 : ∀ s ∈ x2.sts, s ∈ x.sts ∨ (∃ k, k ≤ all.length ∧ s = x.now.set (3 - f) (all.take k)) ∨ s = rwS x.now f all ∨ s = (rwS x.now f all).set f [] := fun s hs => by
      rw [f2] at hs
      exact .inr (.inl ⟨all.length, Nat.le_refl _, by rw [List.mem_singleton.1 hs, List.take_length]⟩)
    have w2 : x2.now.a.length ≤ 1 := by
      rw [n2]
      have : (x.now.set (3 - f) all).a = x.now.a := set_a _ (by omega) _
      rw [this]; exact ha
    rw [A.Write_word w2]
    by_cases d2 : x2.dead = true
    · rw [if_pos d2, if_neg (by simp)]
      exact ⟨.inr rfl, a2, fun h => (un d2 a2 h).elim, fun h => by simp at h, c2⟩
    rw [if_neg d2, if_pos rfl]
    simp only
    have es : x2.now.set 0 [UInt8.ofNat (3 - f)] = rwS x.now f all := by rw [n2]; rfl
    rw [es]
    generalize hx3 : x2.push (rwS x.now f all) = x3
    have n3 : x3.now = rwS x.now f all := by rw [← hx3]; exact A.now_push _ _
    have a3 : x3.armed = x.armed := by rw [← hx3]; exact a2
    have c3 : ∀ s ∈ x3.sts, s ∈ x.sts ∨ (∃ k, k ≤ all.length ∧ s = x.now.set (3 - f) (all.take k)) ∨ s = rwS x.now f all ∨ s = (rwS x.now f all).set f [] := fun s hs => by
      rw [← hx3, A.push_sts] at hs
      rcases List.mem_append.1 hs with hs | hs
      · exact c2 s hs
      · exact .inr (.inr (.inl (List.mem_singleton.1 hs)))
    rw [A.Sync_ok x3]
    by_cases d3 : x3.dead = true
    · rw [if_pos d3, if_neg (by simp)]
      exact ⟨.inr rfl, a3, fun h => (un d3 a3 h).elim, fun h => by simp at h, c3⟩
    rw [if_neg d3, if_pos rfl]
    simp only
    generalize hx4 : ({ x3.stepped with first := x3.now, rest := [] } : A) = x4
    have n4 : x4.now = rwS x.now f all := by rw [← hx4, ← n3]; rfl
    have f4 : x4.first = rwS x.now f all := by rw [← hx4]; exact n3
    have r4 : x4.rest = [] := by rw [← hx4]
    have a4 : x4.armed = x.armed := by rw [← hx4]; exact a3
    have c4 : ∀ s ∈ x4.sts, s ∈ x.sts ∨ (∃ k, k ≤ all.length ∧ s = x.now.set (3 - f) (all.take k)) ∨ s = rwS x.now f all ∨ s = (rwS x.now f all).set f [] := fun s hs => by
      rw [A.sts, f4, r4] at hs
      exact .inr (.inr (.inl (List.mem_singleton.1 hs)))
    have hC := A.Cut_ok (x := x4) (f := f) (n := 0) (by omega) (by omega)
    have hC' : x4.Cut (f : Nat) 0 = (if x4.dead = true then (x4, 180) else (x4.push (x4.now.set f ((x4.now.get f).take 0)), 0)) := hC
    rw [hC']
    by_cases d4 : x4.dead = true
    · rw [if_pos d4, if_neg (by simp)]
      exact ⟨.inr rfl, a4, fun h => (un d4 a4 h).elim, fun h => by simp at h, c4⟩
    rw [if_neg d4, if_pos rfl]
    rw [List.take_zero, n4]
    refine ⟨.inl rfl, a4, fun _ => rfl, fun _ => ⟨f4, ?_⟩, fun s hs => ?_⟩
    · show x4.rest ++ [_] = _
      rw [r4]; rfl
    · rw [A.push_sts] at hs
      rcases List.mem_append.1 hs with hs | hs
      · exact c4 s hs
      · exact .inr (.inr (.inr (List.mem_singleton.1 hs)))
  · rw [if_neg z1]
    exact ⟨p1, p2, fun h => p4 h, fun h => absurd h z1, c1⟩
theorem encs_pl {ys : List Op} (h : Pl ys) : encs ys = some (recs ys) := by
  induction ys with
  | nil => rfl
  | cons y r ih =>
    have hy := h y (List.mem_cons_self ..)
    simp only [encs, enc_is hy.2, ih fun z hz => h z (List.mem_cons_of_mem _ hz)]
    rfl
theorem rwS_a (s : Fs) {f : Nat} (hf : f = 1 ∨ f = 2) (all : Bs) : (rwS s f all).a = [UInt8.ofNat (3 - f)] ∧ ((rwS s f all).set f []).a = [UInt8.ofNat (3 - f)] ∧ (rwS s f all).get (3 - f) = all ∧ ((rwS s f all).set f []).get (3 - f) = all ∧ ((rwS s f all).set f []).get f = [] := by
  rcases hf with rfl | rfl
  · exact ⟨rfl, rfl, rfl, rfl, rfl⟩
  · exact ⟨rfl, rfl, rfl, rfl, rfl⟩
theorem nmF_word {f : Nat} (hf : f = 1 ∨ f = 2) : nmF [UInt8.ofNat f] = f := by
  rcases hf with rfl | rfl
  · rfl
  · rfl
end Go.Proofs.Ytmfidfaiopogbaa
