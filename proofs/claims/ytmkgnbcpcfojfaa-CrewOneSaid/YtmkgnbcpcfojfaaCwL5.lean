/- CrewOne. -/
import Derived.Test.YtmkgnbcpcfojfaaCwT1
set_option linter.unusedVariables false
set_option linter.unusedSimpArgs false
set_option maxRecDepth 10000
namespace Go.Proofs.Ytmkgnbcpcfojfaa
open Go Go.Cv Go.Conc Go.ConcN
open Go.RowKit (Below)

/-- One more, beside others' memory. -/
theorem app2 {ro : Nat → Prop} {B0 : Nat} (hro : ∀ b, B0 ≤ b → ¬ ro b) {w : World} {out : Option Addr} {n c : Nat} {r : Nat → Int} {x : Int} (hB : B0 ≤ w.heap.size) (h : Out B0 w out n c r) (hn : n < 2 ^ 19) (hx : x = r n) {K : Option Addr → Nat → Nat → World → Prop}
    (hK : ∀ out' c' w', (∀ b, b < B0 → w'.heap[b]? = w.heap[b]?) → w.heap.size ≤ w'.heap.size → Out B0 w' out' (n + 1) c' r → K out' (n + 1) c' w') :
    AppV Try.prog 58 ro [22, 22] [.slice out n c, .slice (some ⟨w.heap.size, 0, none⟩) 1 1] K (w.alloc (.cells #[.int .i64 x] 3)) := by
  obtain ⟨ti, h1, h2, h3, h4⟩ := ti3
  have ka := kept_alloc w (.cells #[.int .i64 x] 3)
  have hat := alloc_at w (.cells #[.int .i64 x] 3)
  have hsz : (w.alloc (.cells #[.int .i64 x] 3)).heap.size = w.heap.size + 1 := by rw [heap_push]; simp
  have hlow : ∀ b, b < w.heap.size → (w.alloc (.cells #[.int .i64 x] 3)).heap[b]? = w.heap[b]? := fun b hb => by rw [heap_push, Array.getElem?_push_lt hb]; simp [hb]
  generalize w.alloc (.cells #[.int .i64 x] 3) = w1 at *
  have h' := h.kept ka
  refine ⟨22, 22, 3, out, some ⟨w.heap.size, 0, none⟩, n, c, 1, 1, ti, .int .i64 0, (List.range n).map fun i => .int .i64 (r i), [.int .i64 x], rfl, rfl, und22, ⟨_, und22, fun k => by simp⟩, h1, h2, by rw [h3]; rfl, by omega, by decide, by simp [h3], by simp [h3], ?_, ?_, ?_⟩
  · rcases h' with ⟨rfl, rfl, rfl⟩ | ⟨O, cells, rfl, g1, g2, g3, g4, g5⟩
    · rfl
    · intro j v hj
      obtain ⟨hjm, rfl⟩ : j < n ∧ Value.int .i64 (r j) = v := by
        rw [List.getElem?_map] at hj
        obtain ⟨k, hk, hv⟩ := Option.map_eq_some_iff.1 hj
        obtain ⟨hlt, he⟩ := List.getElem?_eq_some_iff.1 hk
        simp at hlt he
        subst he
        exact ⟨hlt, hv⟩
      rw [show (adr O).add j = ⟨O, j, none⟩ by simp [Addr.add]; omega, cell_of g2]
      exact g5 j hjm
  · intro j v hj
    cases j with
    | zero =>
      simp at hj; subst hj
      rw [show (⟨w.heap.size, 0, none⟩ : Addr).add 0 = ⟨w.heap.size, 0, none⟩ from rfl, cell_of hat]; rfl
    | succ j => simp at hj
  · by_cases hc : n + 1 ≤ c
    · rw [if_pos hc]
      rcases h' with ⟨rfl, rfl, rfl⟩ | ⟨O, cells, rfl, g1, g2, g3, g4, g5⟩
      · omega
      have ea : (adr O).add (n * ti.size) = ⟨O, n, none⟩ := by rw [h3]; simp [Addr.add]; omega
      simp only [ea]
      refine ⟨rfl, fun j hj => ?_, ?_⟩
      · obtain rfl : j = 0 := by simp at hj; exact hj
        refine ⟨⟨cells[n]'(by omega), ?_⟩, ?_, hro _ g1⟩
        · rw [show (⟨O, n, none⟩ : Addr).add 0 = ⟨O, n, none⟩ from rfl, cell_of g2, Array.getElem?_eq_getElem]
        · simp [World.frozen?, Addr.add, g2]
      · have es : setN ⟨O, n, none⟩ 0 [Value.int .i64 x] w1 = w1.setCell ⟨O, n, none⟩ (.int .i64 x) := rfl
        rw [es]
        refine hK _ _ _ (fun b hb => ?_) (by rw [setCell_sz]; omega) (.inr ⟨O, _, rfl, g1, setCell_atE g2 _, by simpa using g3, hc, fun i hi => ?_⟩)
        · rw [setCell_ne (by omega)]; exact hlow b (by omega)
        · by_cases hin : n = i
          · subst hin
            rw [Array.getElem?_setIfInBounds_self_of_lt (by omega), hx]
          · rw [Array.getElem?_setIfInBounds_ne hin]; exact g5 i (by omega)
    · rw [if_neg hc]
      have hcn : c ≤ n := by omega
      refine ⟨by rw [h4]; exact slicecap_le (by omega) (by omega), fun nc hnc => ?_⟩
      refine hK (some (adr w1.heap.size)) nc _ (fun b hb => ?_) (by rw [heap_push]; simp; omega) (.inr ⟨w1.heap.size, _, rfl, by omega, alloc_at _ _, ?_, hnc, fun i hi => ?_⟩)
      · rw [heap_push, Array.getElem?_push_lt (by omega)]
        rw [← hlow b (by omega), Array.getElem?_eq_getElem (by omega)]
      · have hz := zeroCells_size (.int .i64 0) (nc - (n + 1))
        have hz' : (Builtin.zeroCells (Value.int .i64 0).cells (nc - (n + 1))).size = nc - (n + 1) := hz
        simp only [Array.size_append, hz']
        simp; omega
      · rw [Array.getElem?_append_left (by simp; omega)]
        by_cases hin : i < n
        · rw [Array.getElem?_append_left (by simpa using hin)]
          simp [hin]
        · obtain rfl : i = n := by omega
          rw [Array.getElem?_append_right (by simp)]
          simp [hx]

/-- The doing of a job: it comes to the list of those that came. -/
theorem do17 {co : Co} (hC : Closed Try.prog 58 false co) {cb B0 P a : Nat} {job : Nat → Int} {odd : Int} {w : World} (ha : a < 2 ^ 19) (hCm : Came cb B0 job a w) (hcb : cb < B0) (hB : B0 ≤ w.heap.size) (hro : ∀ b, B0 ≤ b ∨ b = cb → ¬ co.ro b)
    (hP : w.heap[P]? = some (.cells #[.int .i64 odd] 3 (0, 0))) (hPb : P < B0) (hPc : P ≠ cb) :
    CallsJ Try.prog co 17 #[.int .i64 (job a), ptr ⟨cb, 0, none⟩, ptr ⟨P, 0, none⟩] w
      (fun v w' => v = .tuple #[.int .i64 (doR odd (job a)), .int .i64 (doE odd (job a))] ∧ Came cb B0 job (a + 1) w' ∧ B0 ≤ w'.heap.size ∧ ∀ b, b < B0 → b ≠ cb → w'.heap[b]? = w.heap[b]?) := by
  obtain ⟨out, c, h1, h2⟩ := hCm
  refine c17 hC ?_
  unfold sh17
  refine ⟨out, a, c, by rw [cell_of h1]; rfl, ?_⟩
  refine app2 (B0 := B0) (fun b hb => hro b (.inl hb)) hB h2 ha rfl fun out' c' w1 k1 k2 k3 => ?_
  have g1 : w1.heap[cb]? = some (.cells #[.slice out a c] 22 (0, 0)) := by rw [k1 cb hcb]; exact h1
  refine ⟨⟨⟨_, by rw [cell_of g1]; rfl⟩, by simp [World.frozen?, g1], hro _ (.inr rfl)⟩, ?_⟩
  have g2 : (w1.setCell ⟨cb, 0, none⟩ (.slice out' (a + 1) c')).heap[P]? = some (.cells #[.int .i64 odd] 3 (0, 0)) := by rw [setCell_ne hPc, k1 P hPb]; exact hP
  refine ⟨odd, by rw [cell_of g2]; rfl, ?_⟩
  refine CallsJ.mono (do14 hC) fun v w2 hv => ?_
  obtain ⟨rfl, rfl⟩ := hv
  refine ⟨_, _, rfl, rfl, ⟨out', c', ?_, ?_⟩, by rw [setCell_sz]; omega, fun b hb hbc => by rw [setCell_ne hbc]; exact k1 b hb⟩
  · have := setCell_atE g1 (o := 0) (.slice out' (a + 1) c')
    simpa using this
  · rcases k3 with h | ⟨O, cells, q1, q2, q3, q4⟩
    · exact .inl h
    · exact .inr ⟨O, cells, q1, q2, by rw [setCell_ne (by omega)]; exact q3, q4⟩

theorem run5 {W : World} {jq : Option Addr} {l cj : Nat} {hands odd : Int} {A : Nat → Int} (hl : l ≤ cj) (ha : Rd (virt 58 W) jq l fun i => .int .i64 (A i)) :
    Ev Try.prog (fun v w' => v = .bool true ∧ Below W.heap.size W w') (solo (G (Frame.enter Try.prog 5 #[.slice jq l cj, .int .i64 hands, .int .i64 odd] .normal) []) W) #[] := by
  refine root (f := 5) (by decide) Try.func5 (args := [.slice jq l cj, .int .i64 hands, .int .i64 odd]) (Q := fun v => v = .bool true) (Eq.mpr (sh5_eq ..) ?_)
  unfold sh5
  have hC := coF_closed (fun v w' => v = .bool true ∧ Below W.heap.size W w')
  have k0 := kept_alloc (virt 58 W) (.cells #[.int .i64 odd] 3)
  have hp := alloc_at (virt 58 W) (.cells #[.int .i64 odd] 3)
  generalize hPe : (virt 58 W).heap.size = P at *
  generalize hw0 : (virt 58 W).alloc (.cells #[.int .i64 odd] 3) = w0 at *
  refine CallsJ.mono awake8 fun v w1 hv1 => ?_
  obtain ⟨rfl, k1⟩ := hv1
  refine ⟨true, rfl, ?_⟩
  refine cut9 (A := A) hC hl (ha.kept (k0.trans k1)) fun w2 O cap k2 hO hcap hr => ⟨_, _, _, rfl, ?_⟩
  have k02 := k1.trans k2
  generalize hm : min l 300 = m at *
  have hm3 : m ≤ 300 := by omega
  intro K14
  have key : ∀ h : Int, h ≤ 1 → K14 h w2 := by
    intro h hh
    show CallsJ _ _ _ _ _ _
    have hcb := alloc_at w2 (.cells #[.slice none 0 0] 22)
    have k3 := kept_alloc w2 (.cells #[.slice none 0 0] 22)
    have hOc : 0 < m → O ≠ w2.heap.size := fun h0 => by
      obtain ⟨q, hq, hc⟩ := hr 0 h0
      cases hq
      intro e
      unfold World.cell? at hc
      rw [show ((adr O).add 0).block = O from rfl, e] at hc
      simp at hc
    have hPl : P < w2.heap.size := by
      have := k02.2.1
      have h9 := lt_of_known hp
      omega
    have hPk : w2.heap[P]? = some (.cells #[.int .i64 odd] 3 (0, 0)) := k02.1 _ _ hp (by simp [unkC])
    have hPs : (virt 58 W).heap.size ≤ w2.heap.size := (k0.trans k02).2.1
    have kv : Kept (virt 58 W) w2 := k0.trans k02
    generalize hce : w2.heap.size = cb at *
    generalize hw3 : w2.alloc (.cells #[.slice none 0 0] 22) = w3 at *
    refine CallsJ.mono (try1 (W := w3) (jq := some (adr O)) (l := m) (cj := cap) (hands := h) (job := A) (r := fun i => doR odd (A i)) (er := fun i => doE odd (A i)) (cb := cb) (fdo := .func (.func 17) #[] #[.pointer (some ⟨cb, 0, none⟩), .pointer (some ⟨P, 0, none⟩)])
      (R := fun v W' => ∃ (n B0 : Nat), KeptBut cb w3 W' ∧ Came cb B0 A n W' ∧ Ans1 m n (fun i => doE odd (A i)) v)
      (by omega) hh (fun h0 q hq => by cases hq; exact hOc h0) (hr.kept k3) rfl hcb ⟨(17, #[], #[.pointer (some ⟨cb, 0, none⟩), .pointer (some ⟨P, 0, none⟩)]), rfl, rfl, fun B0 MV a ha hCm hk hcB hB co hco hro => ?_⟩ fun v W' n B0 q1 q2 q3 => ⟨n, B0, q1, q2, q3⟩) fun v w18 hv => ?_
    · exact do17 hco (by omega) hCm hcB hB hro (hk _ _ (k3.1 _ _ hPk (by simp [unkC])) (by simp [unkC]) (by omega)) (by omega) (by omega)
    obtain ⟨n, B0, q1, q2, q3⟩ := hv
    have kw : Kept (virt 58 W) w18 := ⟨fun b o ho hne => q1.1 b o (k3.1 b o (kv.1 b o ho hne) hne) hne (by have := lt_of_known ho; omega), Nat.le_trans kv.2.1 (Nat.le_trans k3.2.1 q1.2.1), q1.2.2.1.trans (k3.2.2.1.trans kv.2.2.1), q1.2.2.2.1.trans (k3.2.2.2.1.trans kv.2.2.2.1), q1.2.2.2.2.trans (k3.2.2.2.2.trans kv.2.2.2.2)⟩
    obtain ⟨out, c, g1, g2⟩ := q2
    have hcm : w18.cell? (⟨cb, 0, none⟩ : Addr) = some (.slice out n c) := by rw [cell_of g1]; rfl
    have hin : ∀ i, i < m → w18.cell? ((adr O).add i) = some (.int .i64 (A i)) := fun i hi => by
      obtain ⟨q, hq, hc⟩ := (hr.kept k3) i hi
      cases hq
      exact cell_keep hc fun o ho hne => q1.1 _ o ho hne (by rw [add_block]; exact hOc (by omega))
    have hrd : ∀ k, k ≤ m → Rd w18 (some (adr O)) k fun i => .int .i64 (A i) := fun k hk i hi => ⟨adr O, rfl, hin i (by omega)⟩
    rcases q3 with ⟨rfl, o, a, ca, rfl⟩ | ⟨i, hi, hin', hnm, her, o, a, ca, rfl⟩
    · refine ⟨_, _, _, _, _, rfl, ?_⟩
      rw [show ((0 : Int) != 0) = false from rfl, show ((0 : Int) == 0) = true from rfl]
      refine ⟨out, n, c, hcm, ?_⟩
      refine CallsJ.mono (same16 hC (A := A) (by omega) g2.rd (hrd n (Nat.le_refl _))) fun v w6 hv => ?_
      obtain ⟨rfl, rfl⟩ := hv
      exact ⟨true, rfl, rfl, kw⟩
    · refine ⟨_, _, _, _, _, rfl, ?_⟩
      have e1 : (doE odd (A i) != 0) = true := by simpa using her
      have e2 : decide ((i : Int) ≥ 0) = true := by simp
      have e3 : decide ((i : Int) < ((m : Nat) : Int)) = true := by simpa using hi
      show cond (doE odd (A i) != 0) _ _
      rw [e1]
      show cond (decide ((i : Int) ≥ 0)) _ _
      rw [e2]
      show cond (decide ((i : Int) < ((m : Nat) : Int))) _ _
      rw [e3]
      refine ⟨out, n, c, hcm, ?_⟩
      have hw := wrap_small (i := i + 1) (by omega)
      simp only [Int.natCast_add, Int.natCast_one] at hw
      have e4 : decide (((n : Nat) : Int) ≥ IntKind.i64.wrap ((i : Int) + 1)) = true := by rw [hw]; simp; omega
      rw [e4]
      refine ⟨out, n, c, hcm, ?_⟩
      have e5 : decide (((n : Nat) : Int) ≤ ((m : Nat) : Int)) = true := by simp; omega
      rw [e5]
      refine ⟨out, n, c, hcm, out, n, c, hcm, by omega, by omega, ?_⟩
      have e6 : subS (some (adr O)) cap 0 1 = some (adr O) := by unfold subS; split <;> simp [Addr.add]
      have e7 : ((n : Int).toNat) - 0 = n := by omega
      rw [e6, e7]
      refine CallsJ.mono (same16 hC (A := A) (by omega) g2.rd (hrd n (by omega))) fun v w6 hv => ?_
      obtain ⟨rfl, rfl⟩ := hv
      exact ⟨true, rfl, rfl, kw⟩
  by_cases h1 : hands > 1
  · have e : decide (hands > 1) = true := by simpa using h1
    rw [e]; exact key 1 (Int.le_refl _)
  · have e : decide (hands > 1) = false := by simpa using h1
    rw [e]; exact key hands (by omega)
end Go.Proofs.Ytmkgnbcpcfojfaa
