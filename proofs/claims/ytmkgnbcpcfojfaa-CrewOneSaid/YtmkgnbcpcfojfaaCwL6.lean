/- CrewHands. -/
import Derived.Test.YtmkgnbcpcfojfaaCwZ2
set_option linter.unusedVariables false
set_option linter.unusedSimpArgs false
set_option maxRecDepth 10000
namespace Go.Proofs.Ytmkgnbcpcfojfaa
open Go Go.Cv Go.Conc Go.ConcN
open Go.RowKit (Below)

/-- A slice's values, if it is one of a's or nothing. -/
theorem rd_nil (w : World) (A : Nat → Value) : Rd w none 0 A := fun i hi => absurd hi (by omega)
/-- What Try answers, as slices and numbers. -/
theorem ans_cases {W W' : World} {N : Nat} {r er : Nat → Int} {v : Value} (h : Ans12 W N r er v W') :
    ∃ (o : Option Addr) (n c : Nat) (at_ : Nat) (code : Int), v = .tuple #[.slice o n c, .int .i64 at_, .int .i64 code] ∧ Rd W' o n (fun i => .int .i64 (r i)) ∧
      (((∀ i, i < N → er i = 0) ∧ n = N ∧ c = N ∧ at_ = 0 ∧ code = 0) ∨ (n = 0 ∧ at_ < N ∧ er at_ ≠ 0 ∧ (∀ j, j < at_ → er j = 0) ∧ code = er at_)) := by
  rcases h with ⟨h0, O, hO, rfl, cells, o1, o2, o3⟩ | ⟨i, hi, h0, h1, rfl⟩
  · exact ⟨_, _, _, 0, 0, rfl, rd_block o1 o3, .inl ⟨h0, rfl, rfl, rfl, rfl⟩⟩
  · exact ⟨_, _, _, i, er i, rfl, rd_nil _ _, .inr ⟨rfl, hi, h0, h1, rfl⟩⟩

/-- 'do' of the laws that fail at odd jobs; the number lies in a cell. -/
theorem doOdd {W : World} {n : Nat} {A : Nat → Int} {odd : Int} {p : Addr} {O : Nat} (hp : ∀ W' : World, (∀ (b : Nat) (o : Obj), W.heap[b]? = some o → o ≠ unkC → W'.heap[b]? = some o) → W'.cell? (p.add 2) = some (.int .i64 odd)) :
    ∃ f, asFn (.func (.func 18) #[] #[.pointer (some p)]) = some f ∧ cl f.1 = true ∧ ∀ W' : World, (∀ (b : Nat) (o : Obj), W.heap[b]? = some o → o ≠ unkC → W'.heap[b]? = some o) → ∀ co : Co, Closed Try.prog 58 true co → ∀ i, i < n →
      CallsJ Try.prog co f.1 (f.2.1.toList ++ ([.int .i64 (A i)] : List Value) ++ f.2.2.toList).toArray W' (fun v w => v = .tuple #[.int .i64 (doR odd (A i)), .int .i64 (doE odd (A i))] ∧ w = W') :=
  ⟨(18, #[], #[.pointer (some p)]), rfl, rfl, fun W' hk co hco i hi => c18 (x1 := A i) (p2 := p) hco ⟨odd, hp W' hk, CallsJ.mono (do14 hco) fun v w hv => ⟨_, _, hv.1, rfl, hv.2⟩⟩⟩

theorem run6 {W : World} {jq : Option Addr} {l cj : Nat} {h2 h3 h4 : Int} {A : Nat → Int} (hl : l ≤ cj) (ha : Rd (virt 58 W) jq l fun i => .int .i64 (A i)) :
    Ev Try.prog (fun v w' => v = .bool true ∧ Below W.heap.size W w') (solo (G (Frame.enter Try.prog 6 #[.slice jq l cj, .agg #[.int .i64 h2, .int .i64 h3, .int .i64 h4]] .normal) []) W) #[] := by
  refine root (f := 6) (by decide) Try.func6 (args := [.slice jq l cj, .agg #[.int .i64 h2, .int .i64 h3, .int .i64 h4]]) (Q := fun v => v = .bool true) (Eq.mpr (sh6_eq ..) ?_)
  unfold sh6
  have hC := coF_closed (fun v w' => v = .bool true ∧ Below W.heap.size W w')
  have k0 := kept_alloc (virt 58 W) (.cells #[.int .i64 h2, .int .i64 h3, .int .i64 h4] 40)
  have hp := alloc_at (virt 58 W) (.cells #[.int .i64 h2, .int .i64 h3, .int .i64 h4] 40)
  generalize (virt 58 W).heap.size = P at *
  generalize hw0 : (virt 58 W).alloc (.cells #[.int .i64 h2, .int .i64 h3, .int .i64 h4] 40) = w0 at *
  -- the struct's cells in every later world
  have cell : ∀ {w' : World} (k : Nat) (v : Value), (∀ (b : Nat) (o : Obj), w0.heap[b]? = some o → o ≠ unkC → w'.heap[b]? = some o) → (#[Value.int .i64 h2, .int .i64 h3, .int .i64 h4])[k]? = some v → w'.cell? ⟨P, k, none⟩ = some v := fun {w'} k v hk hv => by
    rw [cell_of (hk _ _ hp (by simp [unkC]))]; exact hv
  refine CallsJ.mono awake8 fun v w1 hv1 => ?_
  obtain ⟨rfl, k1⟩ := hv1
  refine ⟨true, rfl, ?_⟩
  refine ⟨h2, cell 0 _ k1.1 rfl, ?_⟩
  refine cut9 (A := A) hC hl (ha.kept (k0.trans k1)) fun w2 O cap k2 hO hcap hr => ⟨_, _, _, rfl, ?_⟩
  have k02 := k1.trans k2
  generalize hm : min l 300 = m at *
  have hm3 : m ≤ 300 := by omega
  refine ⟨⟨h2, cell 0 _ k02.1 rfl, rfl⟩, ?_⟩
  have podd : ∀ {w' : World}, Kept w0 w' → ∀ W' : World, (∀ (b : Nat) (o : Obj), w'.heap[b]? = some o → o ≠ unkC → W'.heap[b]? = some o) → W'.cell? ((⟨P, 0, none⟩ : Addr).add 2) = some (.int .i64 h4) := fun {w'} hk W' hk' => by
    rw [show (⟨P, 0, none⟩ : Addr).add 2 = ⟨P, 2, none⟩ from rfl]
    exact cell 2 _ (fun b o ho hn => hk' b o (hk.1 b o ho hn) hn) rfl
  refine CallsJ.mono (try12 (W := w2) (jq := some (adr O)) (l := m) (cj := cap) (hands := h2) (job := A) (r := fun i => doR h4 (A i)) (er := fun i => doE h4 (A i)) (fdo := .func (.func 18) #[] #[.pointer (some ⟨P, 0, none⟩)])
    (R := fun v W' => Kept w2 W' ∧ Ans12 w2 m (fun i => doR h4 (A i)) (fun i => doE h4 (A i)) v W') (by omega) hr rfl (doOdd (O := 0) (podd k02)) fun v W' h1 h2 => ⟨h1, h2⟩) fun v w3 hv => ?_
  obtain ⟨k3, hA⟩ := hv
  obtain ⟨o1, n1, c1, at1, code1, rfl, rd1, ans1⟩ := ans_cases hA
  refine ⟨_, _, _, _, _, rfl, ?_⟩
  have k03 := k02.trans k3
  refine ⟨h3, cell 1 _ k03.1 rfl, ?_⟩
  refine cut9 (A := A) hC hl (ha.kept (k0.trans k03)) fun w4 O4 cap4 k4 hO4 hcap4 hr4 => ⟨_, _, _, rfl, ?_⟩
  have k04 := k03.trans k4
  rw [hm] at hr4 hcap4 ⊢
  refine ⟨⟨h3, cell 1 _ k04.1 rfl, rfl⟩, ?_⟩
  refine CallsJ.mono (try12 (W := w4) (jq := some (adr O4)) (l := m) (cj := cap4) (hands := h3) (job := A) (r := fun i => doR h4 (A i)) (er := fun i => doE h4 (A i)) (fdo := .func (.func 18) #[] #[.pointer (some ⟨P, 0, none⟩)])
    (R := fun v W' => Kept w4 W' ∧ Ans12 w4 m (fun i => doR h4 (A i)) (fun i => doE h4 (A i)) v W') (by omega) hr4 rfl (doOdd (O := 0) (podd k04)) fun v W' h1 h2 => ⟨h1, h2⟩) fun v w5 hv => ?_
  obtain ⟨k5, hB⟩ := hv
  obtain ⟨o2, n2, c2, at2, code2, rfl, rd2, ans2⟩ := ans_cases hB
  refine ⟨_, _, _, _, _, rfl, ?_⟩
  have kk : Kept (virt 58 W) w5 := (k0.trans k04).trans k5
  -- both answers are one
  obtain ⟨en, ea, ec⟩ : n1 = n2 ∧ at1 = at2 ∧ code1 = code2 := by
    rcases ans1 with ⟨z1, rfl, rfl, rfl, rfl⟩ | ⟨rfl, b1, b2, b3, rfl⟩ <;> rcases ans2 with ⟨z2, rfl, rfl, rfl, rfl⟩ | ⟨rfl, d1, d2, d3, rfl⟩
    · exact ⟨rfl, rfl, rfl⟩
    · exact absurd (z1 _ d1) d2
    · exact absurd (z2 _ b1) b2
    · have : at1 = at2 := by
        rcases Nat.lt_trichotomy at1 at2 with h | h | h
        · exact absurd (d3 _ h) b2
        · exact h
        · exact absurd (b3 _ h) d2
      subst this
      exact ⟨rfl, rfl, rfl⟩
  subst en; subst ea; subst ec
  have hn1 : n1 < 2 ^ 40 := by rcases ans1 with ⟨_, h, _⟩ | ⟨h, _⟩ <;> omega
  refine CallsJ.mono (same16 hC (A := fun i => doR h4 (A i)) hn1 (rd1.kept (k4.trans k5)) rd2) fun v w6 hv => ?_
  obtain ⟨rfl, rfl⟩ := hv
  refine ⟨true, rfl, ?_⟩
  have e1 : ((at1 : Int) == (at1 : Int)) = true := by simp
  have e2 : (code1 == code1) = true := by simp
  rw [e1, e2]
  rcases ans1 with ⟨_, hn, _, _, hcode⟩ | ⟨_, b1, b2, _, hcode⟩
  · have e3 : (code1 != 0) = false := by simp [hcode]
    rw [e3]
    refine ⟨?_, kk⟩
    have : mnI ((l : Nat) : Int) 300 = ((n1 : Nat) : Int) := by unfold mnI; split <;> omega
    rw [this]; simp
  · have e3 : (code1 != 0) = true := by simp [hcode, b2]
    rw [e3]
    exact ⟨rfl, kk⟩
end Go.Proofs.Ytmkgnbcpcfojfaa
