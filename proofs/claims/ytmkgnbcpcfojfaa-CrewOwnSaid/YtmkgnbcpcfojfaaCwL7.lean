/- CrewOwn. -/
import Derived.Test.YtmkgnbcpcfojfaaCwL4
set_option linter.unusedVariables false
set_option linter.unusedSimpArgs false
set_option maxRecDepth 10000
namespace Go.Proofs.Ytmkgnbcpcfojfaa
open Go Go.Cv Go.Conc Go.ConcN
open Go.RowKit (Below)

theorem cellsAt_rd {w : World} {a : Option Addr} {n : Nat} {A : Nat → Int} (h : Rd w a n fun i => .int .i64 (A i)) : cellsAt w a ((List.range n).map fun i => .int .i64 (A i)) := by
  unfold cellsAt
  by_cases h0 : n = 0
  · subst h0
    cases a with
    | none => rfl
    | some q => intro j v hj; simp at hj
  · obtain ⟨q, hq, _⟩ := h 0 (by omega)
    subst hq
    intro j v hj
    obtain ⟨hjm, rfl⟩ : j < n ∧ Value.int .i64 (A j) = v := by
      rw [List.getElem?_map] at hj
      obtain ⟨k, hk, hv⟩ := Option.map_eq_some_iff.1 hj
      obtain ⟨hlt, he⟩ := List.getElem?_eq_some_iff.1 hk
      simp at hlt he
      subst he
      exact ⟨hlt, hv⟩
    obtain ⟨q', hq', hc⟩ := h j hjm
    cases hq'
    exact hc
/-- A copy: behind an empty literal. -/
theorem appN {ro : Nat → Prop} {w : World} {a : Option Addr} {m ca : Nat} {A : Nat → Int} (hm : m ≤ 2 ^ 20) (ha : Rd w a m fun i => .int .i64 (A i)) {K : Option Addr → Nat → Nat → World → Prop}
    (hK : ∀ out' c' w', Kept w w' → Out w.heap.size w' out' m c' A → K out' m c' w') :
    AppV Try.prog 58 ro [22, 22] [.slice (some ⟨w.heap.size, 0, none⟩) 0 0, .slice a m ca] K (w.alloc (.cells #[] 3)) := by
  obtain ⟨ti, h1, h2, h3, h4⟩ := ti3
  have ka := kept_alloc w (.cells #[] 3)
  have hat := alloc_at w (.cells #[] 3)
  generalize w.alloc (.cells #[] 3) = w1 at *
  refine ⟨22, 22, 3, some ⟨w.heap.size, 0, none⟩, a, 0, 0, m, ca, ti, .int .i64 0, [], (List.range m).map fun i => .int .i64 (A i), rfl, rfl, und22, ⟨_, und22, fun k => by simp⟩, h1, h2, by rw [h3]; rfl, by omega, by decide, by simp, by simp [h3], fun j v hj => by simp at hj, cellsAt_rd (ha.kept ka), ?_⟩
  by_cases h0 : m = 0
  · subst h0
    rw [if_pos (by omega)]
    exact ⟨rfl, fun j hj => by simp at hj, hK (some (adr w.heap.size)) 0 w1 ka (.inr ⟨w.heap.size, #[], rfl, Nat.le_refl _, hat, rfl, Nat.le_refl _, fun i hi => absurd hi (by omega)⟩)⟩
  · rw [if_neg (by omega)]
    refine ⟨?_, fun nc hnc => ?_⟩
    · rw [h4]; exact slicecap_le (by omega) (by omega)
    · have k2 := kept_alloc w1 (.cells (([] : List Value).toArray ++ ((List.range m).map fun i => Value.int .i64 (A i)).toArray ++ Builtin.zeroCells (Value.int .i64 0).cells (nc - (0 + m))) 3)
      have e0 : 0 + m = m := by omega
      have hz' : (Builtin.zeroCells (Value.int .i64 0).cells (nc - (0 + m))).size = nc - (0 + m) := zeroCells_size (.int .i64 0) _
      have := hK (some (adr w1.heap.size)) nc _ (ka.trans k2) (.inr ⟨w1.heap.size, _, rfl, ka.2.1, alloc_at _ _, ?_, by omega, fun i hi => ?_⟩)
      · rw [e0]; rw [e0] at this; exact this
      · simp only [Array.size_append, hz']
        simp; omega
      · have e5 : ([] : List Value).toArray ++ ((List.range m).map fun i => Value.int .i64 (A i)).toArray = ((List.range m).map fun i => Value.int .i64 (A i)).toArray := by simp
        rw [e5, Array.getElem?_append_left (by simpa using hi)]
        simp [hi]
/-- One more, behind a full slice. -/
theorem appFull {ro : Nat → Prop} {w : World} {out : Option Addr} {n : Nat} {r : Nat → Int} {x : Int} (h : Rd w out n fun i => .int .i64 (r i)) (hn : n < 2 ^ 19) (hx : x = r n) {K : Option Addr → Nat → Nat → World → Prop}
    (hK : ∀ out' c' w', Kept w w' → Out w.heap.size w' out' (n + 1) c' r → K out' (n + 1) c' w') :
    AppV Try.prog 58 ro [22, 22] [.slice out n n, .slice (some ⟨w.heap.size, 0, none⟩) 1 1] K (w.alloc (.cells #[.int .i64 x] 3)) := by
  obtain ⟨ti, h1, h2, h3, h4⟩ := ti3
  have ka := kept_alloc w (.cells #[.int .i64 x] 3)
  have hat := alloc_at w (.cells #[.int .i64 x] 3)
  generalize w.alloc (.cells #[.int .i64 x] 3) = w1 at *
  refine ⟨22, 22, 3, out, some ⟨w.heap.size, 0, none⟩, n, n, 1, 1, ti, .int .i64 0, (List.range n).map fun i => .int .i64 (r i), [.int .i64 x], rfl, rfl, und22, ⟨_, und22, fun k => by simp⟩, h1, h2, by rw [h3]; rfl, by omega, by decide, by simp [h3], by simp [h3], cellsAt_rd (h.kept ka), ?_, ?_⟩
  · intro j v hj
    cases j with
    | zero =>
      simp at hj; subst hj
      rw [show (⟨w.heap.size, 0, none⟩ : Addr).add 0 = ⟨w.heap.size, 0, none⟩ from rfl, cell_of hat]; rfl
    | succ j => simp at hj
  · rw [if_neg (by omega)]
    refine ⟨by rw [h4]; exact slicecap_le (by omega) (by omega), fun nc hnc => ?_⟩
    have k2 := kept_alloc w1 (.cells (((List.range n).map fun i => Value.int .i64 (r i)).toArray ++ ([Value.int .i64 x] : List Value).toArray ++ Builtin.zeroCells (Value.int .i64 0).cells (nc - (n + 1))) 3)
    have hz' : (Builtin.zeroCells (Value.int .i64 0).cells (nc - (n + 1))).size = nc - (n + 1) := zeroCells_size (.int .i64 0) _
    refine hK (some (adr w1.heap.size)) nc _ (ka.trans k2) (.inr ⟨w1.heap.size, _, rfl, ka.2.1, alloc_at _ _, ?_, hnc, fun i hi => ?_⟩)
    · simp only [Array.size_append, hz']
      simp; omega
    · rw [Array.getElem?_append_left (by simp; omega)]
      by_cases hin : i < n
      · rw [Array.getElem?_append_left (by simpa using hin)]
        simp [hin]
      · obtain rfl : i = n := by omega
        rw [Array.getElem?_append_right (by simp)]
        simp [hx]

/-- The memory of the law's end. -/
structure M7 (V : World) (O O15 O20 O23 m : Nat) (A : Nat → Int) (w : World) : Prop where
  k : Kept V w
  b20 : ∃ (cs : Array Value) (r : Nat → Int), w.heap[O20]? = some (.cells cs 3 (0, 0)) ∧ cs.size = m ∧ ∀ i, i < m → cs[i]? = some (.int .i64 (r i))
  b15 : ∃ cs : Array Value, w.heap[O15]? = some (.cells cs 3 (0, 0)) ∧ m + 1 ≤ cs.size
  r8 : Rd w (some (adr O)) m fun i => .int .i64 (A i)
  r23 : Rd w (some (adr O23)) m fun i => .int .i64 (A i)
theorem rd_set {w : World} {Oa b o n : Nat} {A : Nat → Value} (h : Rd w (some (adr Oa)) n A) (hne : Oa ≠ b) (v : Value) : Rd (w.setCell ⟨b, o, none⟩ v) (some (adr Oa)) n A := fun i hi => by
  obtain ⟨q, hq, hc⟩ := h i hi
  cases hq
  refine ⟨_, rfl, ?_⟩
  rw [show (adr Oa).add i = ⟨Oa, i, none⟩ by simp [Addr.add]; omega] at hc ⊢
  unfold World.cell? at hc ⊢
  rw [setCell_ne hne]; exact hc
theorem kept_set {V w : World} {b o : Nat} (k : Kept V w) (hb : V.heap.size ≤ b) (v : Value) : Kept V (w.setCell ⟨b, o, none⟩ v) :=
  ⟨fun x y hy hn => by rw [setCell_ne (by have := lt_of_known hy; omega)]; exact k.1 x y hy hn, by rw [setCell_sz]; exact k.2.1, k.2.2.1, k.2.2.2.1, k.2.2.2.2⟩
theorem M7.set20 {V : World} {O O15 O20 O23 m : Nat} {A : Nat → Int} {w : World} (h : M7 V O O15 O20 O23 m A w) (h1 : O ≠ O20) (h2 : O23 ≠ O20) (h3 : O15 ≠ O20) (h4 : V.heap.size ≤ O20) {i : Nat} (hi : i < m) (n : Int) : M7 V O O15 O20 O23 m A (w.setCell ⟨O20, i, none⟩ (.int .i64 n)) := by
  obtain ⟨k, ⟨cs, r, g1, g2, g3⟩, ⟨ds, g4, g5⟩, r8, r23⟩ := h
  refine ⟨kept_set k h4 _, ⟨_, fun j => if j = i then n else r j, setCell_atE g1 _, by simpa using g2, fun j hj => ?_⟩, ⟨ds, by rw [setCell_ne h3]; exact g4, g5⟩, rd_set r8 h1 _, rd_set r23 h2 _⟩
  by_cases hji : i = j
  · subst hji
    rw [Array.getElem?_setIfInBounds_self_of_lt (by omega)]; simp
  · rw [Array.getElem?_setIfInBounds_ne hji, g3 j hj]; simp [Ne.symm hji]
theorem M7.set15 {V : World} {O O15 O20 O23 m : Nat} {A : Nat → Int} {w : World} (h : M7 V O O15 O20 O23 m A w) (h1 : O ≠ O15) (h2 : O23 ≠ O15) (h3 : O20 ≠ O15) (h4 : V.heap.size ≤ O15) {i : Nat} (n : Int) : M7 V O O15 O20 O23 m A (w.setCell ⟨O15, i, none⟩ (.int .i64 n)) := by
  obtain ⟨k, ⟨cs, r, g1, g2, g3⟩, ⟨ds, g4, g5⟩, r8, r23⟩ := h
  exact ⟨kept_set k h4 _, ⟨cs, r, by rw [setCell_ne h3]; exact g1, g2, g3⟩, ⟨_, setCell_atE g4 _, by simpa using g5⟩, rd_set r8 h1 _, rd_set r23 h2 _⟩
theorem out_some {B0 : Nat} {w : World} {out : Option Addr} {n c : Nat} {r : Nat → Int} (h : Out B0 w out n c r) (hn : 0 < n) : ∃ (O : Nat) (cells : Array Value), out = some (adr O) ∧ B0 ≤ O ∧ w.heap[O]? = some (.cells cells 3 (0, 0)) ∧ cells.size = c ∧ n ≤ c ∧ ∀ i, i < n → cells[i]? = some (.int .i64 (r i)) := by
  rcases h with ⟨_, h0, _⟩ | h
  · omega
  · exact h
theorem Out.congr {B0 : Nat} {w : World} {out : Option Addr} {n c : Nat} {r r' : Nat → Int} (h : Out B0 w out n c r) (he : ∀ i, i < n → r i = r' i) : Out B0 w out n c r' := by
  rcases h with h | ⟨O, cells, h1, h2, h3, h4, h5, h6⟩
  · exact .inl h
  · exact .inr ⟨O, cells, h1, h2, h3, h4, h5, fun i hi => by rw [← he i hi]; exact h6 i hi⟩

set_option maxHeartbeats 1000000 in
theorem run7 {W : World} {jq : Option Addr} {l cj : Nat} {hands : Int} {A : Nat → Int} (hl : l ≤ cj) (ha : Rd (virt 58 W) jq l fun i => .int .i64 (A i)) :
    Ev Try.prog (fun v w' => v = .bool true ∧ Below W.heap.size W w') (solo (G (Frame.enter Try.prog 7 #[.slice jq l cj, .int .i64 hands] .normal) []) W) #[] := by
  refine root (f := 7) (by decide) Try.func7 (args := [.slice jq l cj, .int .i64 hands]) (Q := fun v => v = .bool true) (Eq.mpr (sh7_eq ..) ?_)
  unfold sh7
  have hC := coF_closed (fun v w' => v = .bool true ∧ Below W.heap.size W w')
  refine CallsJ.mono awake8 fun v w1 hv1 => ?_
  obtain ⟨rfl, k1⟩ := hv1
  refine ⟨true, rfl, ?_⟩
  refine cut9 (A := A) hC hl (ha.kept k1) fun w2 O cap k2 hO hcap hr => ⟨_, _, _, rfl, ?_⟩
  have k02 := k1.trans k2
  generalize hm : min l 300 = m at *
  have hm3 : m ≤ 300 := by omega
  generalize virt 58 W = V at *
  have hO2 : O < w2.heap.size ∨ m = 0 := by
    rcases Nat.eq_zero_or_pos m with h | h
    · exact .inr h
    · obtain ⟨q, hq, hc⟩ := hr 0 h
      cases hq
      obtain ⟨c, e, fr, hb⟩ := cell_known hc
      rw [add_block] at hb
      exact .inl (lt_of_known hb)
  refine appN (ro := fun _ => False) (by omega) hr fun a11 c11 w12 k3 ho11 => ?_
  refine app1 (ro := fun _ => False) (ws := w2) (r := fun i => if i < m then A i else 77) (fun _ h => h) k3 (ho11.congr fun i hi => by rw [if_pos hi]) (by omega) (by rw [if_neg (by omega)]) fun a15 c15 w16 k4 ho15 => ?_
  obtain ⟨O15, cells15, rfl, g15, hb15, hs15, hle15, hc15⟩ := out_some ho15 (by omega)
  have em : ((((m : Nat) : Int)).toNat - 0) = m := by omega
  have r15 : Rd w16 (some (adr O15)) m fun i => .int .i64 (A i) := rd_block hb15 fun i hi => by rw [hc15 i (by omega), if_pos hi]
  rw [subS_zero, em]
  refine ⟨by omega, by omega, by omega, by omega, ?_⟩
  have dIt : ∃ f, asFn (.func (.func 19) #[] #[]) = some f ∧ cl f.1 = true ∧ ∀ (W' : World) (co : Co), Closed Try.prog 58 true co → ∀ i, i < m → CallsJ Try.prog co f.1 (f.2.1.toList ++ ([.int .i64 (A i)] : List Value) ++ f.2.2.toList).toArray W' (fun v w => v = .int .i64 (A i) ∧ w = W') :=
    ⟨(19, #[], #[]), rfl, rfl, fun W' co hco i hi => c19 (x1 := A i) hco ⟨rfl, rfl⟩⟩
  refine all20 (l := m) (A := A) (r := A) (by omega) r15 rfl dIt fun w19 O20 k5 hO20 hr20 hb20 => ⟨_, _, _, rfl, ?_⟩
  refine all20 (l := m) (A := A) (r := A) (by omega) (r15.kept k5) rfl dIt fun w22 O23 k6 hO23 hr23 _ => ⟨_, _, _, rfl, ?_⟩
  refine ⟨by omega, by omega, ?_⟩
  have k26 := k4.trans (k5.trans k6)
  refine CallsJ.mono (same16 hC (n := m) (A := A) (by omega) (r15.kept (k5.trans k6)) (hr.kept k26)) fun v w25 hv => ?_
  obtain ⟨rfl, rfl⟩ := hv
  refine ⟨true, rfl, ?_⟩
  have hlt15 : O15 < w16.heap.size := lt_of_known hb15
  have hb15' : w25.heap[O15]? = some (.cells cells15 3 (0, 0)) := (k5.trans k6).1 _ _ hb15 (by simp [unkC])
  obtain ⟨cells20, hb20a, hb20b⟩ := hb20
  have hlt20 : O20 < w19.heap.size := lt_of_known hb20a
  have ad : ∀ (b i : Nat), (adr b).add ((i : Int).toNat * 1) = ⟨b, i, none⟩ := fun b i => by simp [Addr.add]; omega
  refine ⟨adr O15, rfl, by omega, by omega, 77, ?_, ?_⟩
  · rw [ad, cell_of hb15', hc15 m (by omega), if_neg (by omega)]
  have e77 : ((77 : Int) != 77) = false := by decide
  rw [e77]
  -- the memory now
  have hVs : V.heap.size ≤ w2.heap.size := k02.2.1
  have h2s : w2.heap.size ≤ w16.heap.size := k4.2.1
  have hM : M7 V (if m = 0 then O23 + 1 else O) O15 O20 O23 m A w25 := by
    refine ⟨(k02.trans k4).trans (k5.trans k6), ⟨cells20, A, k6.1 _ _ hb20a (by simp [unkC]), hb20b, fun i hi => ?_⟩, ⟨cells15, hb15', by omega⟩, ?_, hr23⟩
    · obtain ⟨q, hq, hc⟩ := hr20 i hi
      cases hq
      rw [show (adr O20).add i = ⟨O20, i, none⟩ by simp [Addr.add]; omega, cell_of hb20a] at hc
      exact hc
    · by_cases h0 : m = 0
      · intro i hi; omega
      · rw [if_neg h0]; exact hr.kept k26
  have n1 : (if m = 0 then O23 + 1 else O) ≠ O20 := by split <;> omega
  have n2 : (if m = 0 then O23 + 1 else O) ≠ O15 := by split <;> omega
  obtain ⟨O8, hO8⟩ : ∃ b, b = (if m = 0 then O23 + 1 else O) := ⟨_, rfl⟩
  rw [← hO8] at hM n1 n2
  have rd8 : ∀ {w : World}, M7 V O8 O15 O20 O23 m A w → Rd w (some (adr O)) m fun i => .int .i64 (A i) := fun {w} h => by
    by_cases h0 : m = 0
    · intro i hi; omega
    · have := h.r8
      rw [hO8, if_neg h0] at this; exact this
  have n3 : O23 ≠ O20 := by omega
  have n4 : O15 ≠ O20 := by omega
  have n5 : O23 ≠ O15 := by omega
  have wrap1 : ∀ i : Nat, i < 2 ^ 30 → IntKind.i64.wrap ((i : Int) + 1) = ((i + 1 : Nat) : Int) := fun i hi => by
    have := wrap_small (i := i + 1) (by omega)
    simpa using this
  have hclear : w2.heap.size ≤ O15 ∧ w16.heap.size ≤ O20 := ⟨g15, hO20⟩
  clear hr20 hr23 r15 hb15 hb15' hc15 hb20a hr k1 ha
  -- the first loop
  refine ⟨fun vs w' => M7 V O8 O15 O20 O23 m A w' ∧ ∃ i : Nat, i ≤ m ∧ vs = [.int .i64 i], fun vs _ => m - (match vs with | [.int _ k] => k.toNat | _ => 0), ⟨hM, 0, by omega, rfl⟩, ?_⟩
  rintro w33 n32 ⟨hM1, i, hi, hvs⟩
  simp only [List.cons.injEq, Value.int.injEq, and_true, true_and] at hvs
  subst hvs
  by_cases hlt : i < m
  · have h1 : decide ((i : Int) < ((m : Nat) : Int)) = true := by simpa using hlt
    rw [h1]
    obtain ⟨cs, r, g1, g2, g3⟩ := hM1.b20
    refine ⟨adr O20, rfl, by omega, by omega, ?_, ⟨?_, i + 1, by omega, ?_⟩, ?_⟩
    · rw [ad]
      exact ⟨⟨_, by rw [cell_of g1]; exact g3 i hlt⟩, by simp [World.frozen?, g1], id⟩
    · rw [ad]; exact hM1.set20 n1 n3 n4 (by omega) hlt _
    · rw [wrap1 i (by omega)]
    · rw [wrap1 i (by omega)]
      show m - ((i + 1 : Nat) : Int).toNat < m - (i : Int).toNat
      omega
  have h1 : decide ((i : Int) < ((m : Nat) : Int)) = false := by simpa using hlt
  rw [h1]
  clear hlt hi h1
  -- the second loop
  refine ⟨fun vs w' => M7 V O8 O15 O20 O23 m A w' ∧ ∃ i : Nat, i ≤ m + 1 ∧ vs = [.int .i64 i], fun vs _ => m + 1 - (match vs with | [.int _ k] => k.toNat | _ => 0), ⟨hM1, 0, by omega, rfl⟩, ?_⟩
  rintro w39 n38 ⟨hM2, j, hj, hvs⟩
  simp only [List.cons.injEq, Value.int.injEq, and_true, true_and] at hvs
  subst hvs
  by_cases hlt : j < m + 1
  · have h1 : decide ((j : Int) < ((m + 1 : Nat) : Int)) = true := by simp; omega
    rw [h1]
    obtain ⟨ds, g4, g5⟩ := hM2.b15
    refine ⟨adr O15, rfl, by omega, by omega, ?_, ⟨?_, j + 1, by omega, ?_⟩, ?_⟩
    · rw [ad]
      refine ⟨⟨ds[j]'(by omega), by rw [cell_of g4, Array.getElem?_eq_getElem]⟩, by simp [World.frozen?, g4], id⟩
    · rw [ad]; exact hM2.set15 n2 n5 (Ne.symm n4) (by omega) _
    · rw [wrap1 j (by omega)]
    · rw [wrap1 j (by omega)]
      show m + 1 - ((j + 1 : Nat) : Int).toNat < m + 1 - (j : Int).toNat
      omega
  have h1 : decide ((j : Int) < ((m + 1 : Nat) : Int)) = false := by simp; omega
  rw [h1]
  clear hlt hj h1
  -- the third loop
  obtain ⟨cs, r20, g1, g2, g3⟩ := hM2.b20
  let r3 : Nat → Int := fun j => if j < m then r20 j else -7
  have rd3 : Rd w39 (some (adr O20)) m fun j => .int .i64 (r3 j) := rd_block g1 fun j hj => by
    rw [g3 j hj]; simp only [r3, if_pos hj]
  refine ⟨fun vs w' => ∃ (i : Nat) (out : Option Addr) (c : Nat), i ≤ 20 ∧ vs = [.slice out (m + i) c, .int .i64 i] ∧ Kept w39 w' ∧ ((i = 0 ∧ out = some (adr O20) ∧ c = m ∧ w' = w39) ∨ (0 < i ∧ Out w39.heap.size w' out (m + i) c r3)),
    fun vs _ => 20 - (match vs with | [_, .int _ k] => k.toNat | _ => 0), ⟨0, _, _, by omega, rfl, Kept.refl _, .inl ⟨rfl, rfl, rfl, rfl⟩⟩, ?_⟩
  rintro w46 l44 ll cl44 i45 ⟨t, out, c, ht, hvs, k7, hcase⟩
  simp only [List.cons.injEq, Value.slice.injEq, Value.int.injEq, and_true, true_and] at hvs
  obtain ⟨⟨rfl, rfl, rfl⟩, rfl⟩ := hvs
  by_cases hlt : t < 20
  · have h1 : decide ((t : Int) < (20 : Int)) = true := by simp; omega
    rw [h1, cond_true]
    have x3 : (-7 : Int) = r3 (m + t) := by simp only [r3]; rw [if_neg (by omega)]
    have done : ∀ out' c' w', Kept w39 w' → Out w39.heap.size w' out' (m + t + 1) c' r3 → ((∃ (i : Nat) (out : Option Addr) (c : Nat), i ≤ 20 ∧ [Value.slice out' (m + t + 1) c', .int .i64 (IntKind.i64.wrap ((t : Int) + 1))] = [.slice out (m + i) c, .int .i64 i] ∧ Kept w39 w' ∧ ((i = 0 ∧ out = some (adr O20) ∧ c = m ∧ w' = w39) ∨ (0 < i ∧ Out w39.heap.size w' out (m + i) c r3))) ∧
        20 - (IntKind.i64.wrap ((t : Int) + 1)).toNat < 20 - ((t : Int)).toNat) := fun out' c' w' k8 h8 => by
      rw [wrap1 t (by omega)]
      exact ⟨⟨t + 1, out', c', by omega, rfl, k8, .inr ⟨by omega, h8⟩⟩, by omega⟩
    rcases hcase with ⟨rfl, rfl, rfl, rfl⟩ | ⟨h0, hout⟩
    · exact appFull (ro := fun _ => False) (r := r3) rd3 (by omega) x3 fun out' c' w' k8 h8 => done out' c' w' k8 (by
        rcases h8 with h | ⟨O', cells, e1, e2, e3⟩
        · exact .inl h
        · exact .inr ⟨O', cells, e1, e2, e3⟩)
    · exact app1 (ro := fun _ => False) (ws := w39) (r := r3) (fun _ h => h) k7 hout (by omega) x3 fun out' c' w' k8 h8 => done out' c' w' k8 h8
  · have h1 : decide ((t : Int) < (20 : Int)) = false := by simp; omega
    rw [h1, cond_false]
    obtain ⟨_, hout⟩ : 0 < t ∧ Out w39.heap.size w46 l44 (m + t) cl44 r3 := by
      rcases hcase with ⟨rfl, _⟩ | h
      · omega
      · exact h
    refine CallsJ.mono (same16 hC (n := m) (A := A) (by omega) (hM2.r23.kept k7) ((rd8 hM2).kept k7)) fun v w54 hv => ?_
    obtain ⟨rfl, rfl⟩ := hv
    refine ⟨true, rfl, ?_⟩
    obtain ⟨Oz, cz, rfl, _, hz1, _, _, hz2⟩ := out_some hout (by omega)
    refine ⟨adr Oz, rfl, by omega, by omega, -7, ?_, ?_, hM2.k.trans k7⟩
    · rw [ad, cell_of hz1, hz2 m (by omega)]
      simp only [r3]; rw [if_neg (by omega)]
    · simp
end Go.Proofs.Ytmkgnbcpcfojfaa
