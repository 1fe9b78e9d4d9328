/- The reference's Try; CrewTries. -/
import Derived.Test.YtmkgnbcpcfojfaaCwL6
set_option linter.unusedVariables false
set_option linter.unusedSimpArgs false
set_option maxRecDepth 10000
namespace Go.Proofs.Ytmkgnbcpcfojfaa
open Go Go.Cv Go.Conc Go.ConcN
open Go.RowKit (Below)

/-- A slice of the call's own, that grows. -/
def Out (B0 : Nat) (w : World) (out : Option Addr) (n c : Nat) (r : Nat → Int) : Prop :=
  (out = none ∧ n = 0 ∧ c = 0) ∨ ∃ (O : Nat) (cells : Array Value), out = some (adr O) ∧ B0 ≤ O ∧ w.heap[O]? = some (.cells cells 3 (0, 0)) ∧ cells.size = c ∧ n ≤ c ∧ ∀ i, i < n → cells[i]? = some (.int .i64 (r i))
theorem Out.rd {B0 : Nat} {w : World} {out : Option Addr} {n c : Nat} {r : Nat → Int} (h : Out B0 w out n c r) : Rd w out n fun i => .int .i64 (r i) := by
  rcases h with ⟨rfl, rfl, rfl⟩ | ⟨O, cells, rfl, _, h1, _, _, h2⟩
  · exact rd_nil _ _
  · exact rd_block h1 h2
theorem Out.kept {B0 : Nat} {w w' : World} {out : Option Addr} {n c : Nat} {r : Nat → Int} (h : Out B0 w out n c r) (k : Kept w w') : Out B0 w' out n c r := by
  rcases h with h | ⟨O, cells, h1, h2, h3, h4⟩
  · exact .inl h
  · exact .inr ⟨O, cells, h1, h2, k.1 _ _ h3 (by simp [unkC]), h4⟩
theorem growBy_le (n : Nat) : ∀ (k c : Nat), c ≤ 2 ^ 20 → k ≤ 4 → Builtin.growBy n k c ≤ 2 ^ 20 * 3 ^ k
  | 0, c, h, _ => by unfold Builtin.growBy; omega
  | 1, c, h, _ => by unfold Builtin.growBy; split; omega; unfold Builtin.growBy; omega
  | 2, c, h, _ => by unfold Builtin.growBy; split; omega; unfold Builtin.growBy; split; omega; unfold Builtin.growBy; omega
  | 3, c, h, _ => by unfold Builtin.growBy; split; omega; unfold Builtin.growBy; split; omega; unfold Builtin.growBy; split; omega; unfold Builtin.growBy; omega
  | 4, c, h, _ => by unfold Builtin.growBy; split; omega; unfold Builtin.growBy; split; omega; unfold Builtin.growBy; split; omega; unfold Builtin.growBy; split; omega; unfold Builtin.growBy; omega
  | k + 5, c, h, hk => by omega
theorem slicecap_le {n c : Nat} (hn : n ≤ 2 ^ 20) (hc : c ≤ 2 ^ 20) : Builtin.nextslicecap n c * 8 ≤ 2 ^ 48 := by
  unfold Builtin.nextslicecap
  split
  · omega
  · split
    · omega
    · have := growBy_le n 4 c hc (Nat.le_refl _)
      omega
theorem zeroCells_size (z : Value) (k : Nat) : (Builtin.zeroCells #[z] k).size = k := by simp [Builtin.zeroCells]
/-- One more. -/
theorem app1 {ro : Nat → Prop} (hro : ∀ b, ¬ ro b) {ws w : World} {out : Option Addr} {n c : Nat} {r : Nat → Int} {x : Int} (k : Kept ws w) (h : Out ws.heap.size w out n c r) (hn : n < 2 ^ 19) (hx : x = r n) {K : Option Addr → Nat → Nat → World → Prop}
    (hK : ∀ out' c' w', Kept ws w' → Out ws.heap.size w' out' (n + 1) c' r → K out' (n + 1) c' w') :
    AppV Try.prog 58 ro [22, 22] [.slice out n c, .slice (some ⟨w.heap.size, 0, none⟩) 1 1] K (w.alloc (.cells #[.int .i64 x] 3)) := by
  obtain ⟨ti, h1, h2, h3, h4⟩ := ti3
  have ka := kept_alloc w (.cells #[.int .i64 x] 3)
  have hat := alloc_at w (.cells #[.int .i64 x] 3)
  have hsz : (w.alloc (.cells #[.int .i64 x] 3)).heap.size = w.heap.size + 1 := by rw [heap_push]; simp
  generalize w.alloc (.cells #[.int .i64 x] 3) = w1 at *
  have h' := h.kept ka
  have k1 := k.trans ka
  refine ⟨22, 22, 3, out, some ⟨w.heap.size, 0, none⟩, n, c, 1, 1, ti, .int .i64 0, (List.range n).map fun i => .int .i64 (r i), [.int .i64 x], rfl, rfl, und22, ⟨_, und22, fun k => by simp⟩, h1, h2, by rw [h3]; rfl, by omega, by decide, by simp [h3], by simp [h3], ?_, ?_, ?_⟩
  · rcases h' with ⟨rfl, rfl, rfl⟩ | ⟨O, cells, rfl, g1, g2, g3, g4, g5⟩
    · rfl
    · intro j v hj
      obtain ⟨hjm, rfl⟩ : j < n ∧ Value.int .i64 (r j) = v := by
        rw [List.getElem?_map] at hj
        obtain ⟨k, hk, hv⟩ := Option.map_eq_some_iff.1 hj
        obtain ⟨hlt, he⟩ := List.getElem?_eq_some_iff.1 hk
        simp at hlt he
        subst he
        exact ⟨hlt, hv⟩
      rw [show (adr O).add j = ⟨O, j, none⟩ by simp [Addr.add]; omega, cell_of g2]
      exact g5 j hjm
  · intro j v hj
    cases j with
    | zero =>
      simp at hj; subst hj
      rw [show (⟨w.heap.size, 0, none⟩ : Addr).add 0 = ⟨w.heap.size, 0, none⟩ from rfl, cell_of hat]; rfl
    | succ j => simp at hj
  · by_cases hc : n + 1 ≤ c
    · rw [if_pos hc]
      rcases h' with ⟨rfl, rfl, rfl⟩ | ⟨O, cells, rfl, g1, g2, g3, g4, g5⟩
      · omega
      have ea : (adr O).add (n * ti.size) = ⟨O, n, none⟩ := by rw [h3]; simp [Addr.add]; omega
      simp only [ea]
      refine ⟨rfl, fun j hj => ?_, ?_⟩
      · obtain rfl : j = 0 := by simp at hj; exact hj
        refine ⟨⟨cells[n]'(by omega), ?_⟩, ?_, hro _⟩
        · rw [show (⟨O, n, none⟩ : Addr).add 0 = ⟨O, n, none⟩ from rfl, cell_of g2, Array.getElem?_eq_getElem]
        · simp [World.frozen?, Addr.add, g2]
      · have es : setN ⟨O, n, none⟩ 0 [Value.int .i64 x] w1 = w1.setCell ⟨O, n, none⟩ (.int .i64 x) := rfl
        rw [es]
        refine hK _ _ _ ⟨fun b o ho hne => ?_, ?_, k1.2.2.1, k1.2.2.2.1, k1.2.2.2.2⟩ (.inr ⟨O, _, rfl, g1, setCell_atE g2 _, by simpa using g3, hc, fun i hi => ?_⟩)
        · have hb := lt_of_known ho
          rw [setCell_ne (by omega)]; exact k1.1 b o ho hne
        · rw [setCell_sz]; exact k1.2.1
        · by_cases hin : n = i
          · subst hin
            rw [Array.getElem?_setIfInBounds_self_of_lt (by omega), hx]
          · rw [Array.getElem?_setIfInBounds_ne hin]; exact g5 i (by omega)
    · rw [if_neg hc]
      have hcn : c ≤ n := by omega
      refine ⟨by rw [h4]; exact slicecap_le (by omega) (by omega), fun nc hnc => ?_⟩
      have k2 := kept_alloc w1 (.cells (((List.range n).map fun i => Value.int .i64 (r i)).toArray ++ ([Value.int .i64 x] : List Value).toArray ++ Builtin.zeroCells (Value.int .i64 0).cells (nc - (n + 1))) 3)
      refine hK (some (adr w1.heap.size)) nc _ (k1.trans k2) (.inr ⟨w1.heap.size, _, rfl, by have := k1.2.1; omega, alloc_at _ _, ?_, hnc, fun i hi => ?_⟩)
      · have hz := zeroCells_size (.int .i64 0) (nc - (n + 1))
        have hz' : (Builtin.zeroCells (Value.int .i64 0).cells (nc - (n + 1))).size = nc - (n + 1) := hz
        simp only [Array.size_append, hz']
        simp; omega
      · rw [Array.getElem?_append_left (by simp; omega)]
        by_cases hin : i < n
        · rw [Array.getElem?_append_left (by simpa using hin)]
          simp [hin]
        · obtain rfl : i = n := by omega
          rw [Array.getElem?_append_right (by simp)]
          simp [hx]

/-- The reference's Try: what it answers. -/
def AnsR (W' : World) (N : Nat) (r er : Nat → Int) (v : Value) : Prop :=
  ∃ (o : Option Addr) (n c : Nat) (at_ : Nat) (code : Int), v = .tuple #[.slice o n c, .int .i64 at_, .int .i64 code] ∧ Rd W' o n (fun i => .int .i64 (r i)) ∧
    (((∀ i, i < N → er i = 0) ∧ n = N ∧ at_ = 0 ∧ code = 0) ∨ (n = 0 ∧ at_ < N ∧ er at_ ≠ 0 ∧ (∀ j, j < at_ → er j = 0) ∧ code = er at_))
theorem ref15 {co : Co} (hC : Closed Try.prog 58 false co) (hro : co.ro = fun _ => False) {w : World} {a : Option Addr} {l ca : Nat} {odd : Int} {A : Nat → Int} (hl : l ≤ 300) (ha : Rd w a l fun i => .int .i64 (A i)) :
    CallsJ Try.prog co 15 #[.slice a l ca, .int .i64 odd] w (fun v w' => Kept w w' ∧ AnsR w' l (fun i => doR odd (A i)) (fun i => doE odd (A i)) v) := by
  refine c15 hC ?_
  unfold sh15
  refine ⟨fun vs w' => ∃ (i : Nat) (out : Option Addr) (c : Nat), i ≤ l ∧ vs = [.slice none 0 0, .int .i64 0, .int .i64 0, .slice out i c, .int .i64 i] ∧ Kept w w' ∧ Out w.heap.size w' out i c (fun i => doR odd (A i)) ∧ ∀ j, j < i → doE odd (A j) = 0,
    fun vs _ => l - (match vs with | [_, _, _, _, .int _ k] => k.toNat | _ => 0), ⟨0, none, 0, by omega, rfl, Kept.refl w, .inl ⟨rfl, rfl, rfl⟩, fun j hj => absurd hj (by omega)⟩, ?_⟩
  rintro w8 a3 l3 c3 n4 n5 out6 l6 c6 i7 ⟨i, out, c, hi, hvs, kk, hout, hz⟩
  simp only [List.cons.injEq, Value.slice.injEq, Value.int.injEq, and_true, true_and] at hvs
  obtain ⟨⟨rfl, rfl, rfl⟩, rfl, rfl, ⟨rfl, rfl, rfl⟩, rfl⟩ := hvs
  by_cases hlt : l6 < l
  · have h1 : decide ((l6 : Int) < ((l : Nat) : Int)) = true := by simpa using hlt
    rw [h1]
    obtain ⟨q1, hq1, hc1⟩ := (ha.kept kk) l6 hlt
    refine ⟨q1, hq1, by omega, by omega, A l6, by simpa using hc1, ?_⟩
    refine CallsJ.mono (do14 hC) fun v w' hv => ?_
    obtain ⟨rfl, rfl⟩ := hv
    refine ⟨_, _, rfl, ?_⟩
    by_cases h0 : doE odd (A l6) = 0
    · have h2 : (doE odd (A l6) != 0) = false := by simp [h0]
      rw [h2]
      have hw := wrap_small (i := l6 + 1) (by omega)
      simp only [Int.natCast_add, Int.natCast_one] at hw
      rw [cond_false]
      refine app1 (ro := co.ro) (by rw [hro]; exact fun _ => id) kk hout (by omega) rfl fun out' c' w2 k2 ho2 => ?_
      refine ⟨⟨l6 + 1, out', c', by omega, by rw [hw]; simp, k2, ho2, fun j hj => ?_⟩, ?_⟩
      · by_cases hj' : j < l6
        · exact hz j hj'
        · obtain rfl : j = l6 := by omega
          exact h0
      · rw [hw]
        show l - ((l6 : Int) + 1).toNat < l - (l6 : Int).toNat
        omega
    · have h2 : (doE odd (A l6) != 0) = true := by simp [h0]
      rw [h2]
      exact ⟨kk, none, 0, 0, l6, _, rfl, rd_nil _ _, .inr ⟨rfl, hlt, h0, hz, rfl⟩⟩
  · have h1 : decide ((l6 : Int) < ((l : Nat) : Int)) = false := by simpa using hlt
    rw [h1]
    obtain rfl : l6 = l := by omega
    exact ⟨kk, out6, l6, c6, 0, 0, rfl, hout.rd, .inl ⟨hz, rfl, rfl, rfl⟩⟩

theorem run4 {W : World} {jq : Option Addr} {l cj : Nat} {hands odd : Int} {A : Nat → Int} (hl : l ≤ cj) (ha : Rd (virt 58 W) jq l fun i => .int .i64 (A i)) :
    Ev Try.prog (fun v w' => v = .bool true ∧ Below W.heap.size W w') (solo (G (Frame.enter Try.prog 4 #[.slice jq l cj, .int .i64 hands, .int .i64 odd] .normal) []) W) #[] := by
  refine root (f := 4) (by decide) Try.func4 (args := [.slice jq l cj, .int .i64 hands, .int .i64 odd]) (Q := fun v => v = .bool true) (Eq.mpr (sh4_eq ..) ?_)
  unfold sh4
  have hC := coF_closed (fun v w' => v = .bool true ∧ Below W.heap.size W w')
  have k0 := kept_alloc (virt 58 W) (.cells #[.int .i64 odd] 3)
  have hp := alloc_at (virt 58 W) (.cells #[.int .i64 odd] 3)
  generalize (virt 58 W).heap.size = P at *
  generalize hw0 : (virt 58 W).alloc (.cells #[.int .i64 odd] 3) = w0 at *
  have cell : ∀ {w' : World}, (∀ (b : Nat) (o : Obj), w0.heap[b]? = some o → o ≠ unkC → w'.heap[b]? = some o) → w'.cell? ⟨P, 0, none⟩ = some (.int .i64 odd) := fun {w'} hk => by
    rw [cell_of (hk _ _ hp (by simp [unkC]))]; rfl
  refine CallsJ.mono awake8 fun v w1 hv1 => ?_
  obtain ⟨rfl, k1⟩ := hv1
  refine ⟨true, rfl, ?_⟩
  refine cut9 (A := A) hC hl (ha.kept (k0.trans k1)) fun w2 O cap k2 hO hcap hr => ⟨_, _, _, rfl, ?_⟩
  have k02 := k1.trans k2
  generalize hm : min l 300 = m at *
  have hm3 : m ≤ 300 := by omega
  refine CallsJ.mono (try12 (W := w2) (jq := some (adr O)) (l := m) (cj := cap) (hands := hands) (job := A) (r := fun i => doR odd (A i)) (er := fun i => doE odd (A i)) (fdo := .func (.func 13) #[] #[.pointer (some ⟨P, 0, none⟩)])
    (R := fun v W' => Kept w2 W' ∧ Ans12 w2 m (fun i => doR odd (A i)) (fun i => doE odd (A i)) v W') (by omega) hr rfl
    ⟨(13, #[], #[.pointer (some ⟨P, 0, none⟩)]), rfl, rfl, fun W' hk co hco i hi => c13 (x1 := A i) (p2 := ⟨P, 0, none⟩) hco ⟨odd, cell (fun b o ho hn => hk b o (k02.1 b o ho hn) hn), CallsJ.mono (do14 hco) fun v w hv => ⟨_, _, hv.1, rfl, hv.2⟩⟩⟩ fun v W' h1 h2 => ⟨h1, h2⟩) fun v w3 hv => ?_
  obtain ⟨k3, hA⟩ := hv
  obtain ⟨o1, n1, c1, at1, code1, rfl, rd1, ans1⟩ := ans_cases hA
  refine ⟨_, _, _, _, _, rfl, ?_⟩
  have k03 := k02.trans k3
  refine ⟨odd, cell k03.1, ?_⟩
  refine CallsJ.mono (ref15 hC rfl hm3 (hr.kept k3)) fun v w4 hv => ?_
  obtain ⟨k4, o2, n2, c2, at2, code2, rfl, rd2, ans2⟩ := hv
  refine ⟨_, _, _, _, _, rfl, ?_⟩
  have kk : Kept (virt 58 W) w4 := (k0.trans k03).trans k4
  obtain ⟨en, ea, ec⟩ : n1 = n2 ∧ at1 = at2 ∧ code1 = code2 := by
    rcases ans1 with ⟨z1, rfl, rfl, rfl, rfl⟩ | ⟨rfl, b1, b2, b3, rfl⟩ <;> rcases ans2 with ⟨z2, rfl, rfl, rfl⟩ | ⟨rfl, d1, d2, d3, rfl⟩
    · exact ⟨rfl, rfl, rfl⟩
    · exact absurd (z1 _ d1) d2
    · exact absurd (z2 _ b1) b2
    · have : at1 = at2 := by
        rcases Nat.lt_trichotomy at1 at2 with h | h | h
        · exact absurd (d3 _ h) b2
        · exact h
        · exact absurd (b3 _ h) d2
      subst this
      exact ⟨rfl, rfl, rfl⟩
  subst en; subst ea; subst ec
  have hn1 : n1 < 2 ^ 40 := by rcases ans1 with ⟨_, h, _⟩ | ⟨h, _⟩ <;> omega
  refine CallsJ.mono (same16 hC (A := fun i => doR odd (A i)) hn1 (rd1.kept k4) rd2) fun v w6 hv => ?_
  obtain ⟨rfl, rfl⟩ := hv
  refine ⟨true, rfl, ?_⟩
  have e1 : ((at1 : Int) == (at1 : Int)) = true := by simp
  have e2 : (code1 == code1) = true := by simp
  show cond ((at1 : Int) == (at1 : Int)) _ _
  rw [e1]
  refine ⟨?_, kk⟩
  rw [e2]
end Go.Proofs.Ytmkgnbcpcfojfaa
