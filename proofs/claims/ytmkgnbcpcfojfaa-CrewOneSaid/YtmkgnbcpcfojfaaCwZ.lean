/- What the laws call beside Try. -/
import Derived.Test.YtmkgnbcpcfojfaaCwU22
import Derived.Test.YtmkgnbcpcfojfaaCvT
import Derived.Test.YtmkgnbcpcfojfaaCwY
set_option linter.unusedVariables false
set_option linter.unusedSimpArgs false
set_option maxRecDepth 10000
namespace Go.Proofs.Ytmkgnbcpcfojfaa
open Go Go.Cv Go.Conc Go.ConcN
open Go.RowKit (Below)

theorem CallsJ.mono {P : Program} {co : Co} {f : FuncId} {args : Array Value} {W : World} {R R' : Value → World → Prop} (h : CallsJ P co f args W R) (hr : ∀ v w, R v w → R' v w) : CallsJ P co f args W R' :=
  fun c cs hc => h c cs fun v w hv => hc v w (hr v w hv)
theorem coF_closed (Post : Value → World → Prop) : Closed Try.prog 58 false (coF Try.prog 58 Post) := fin_closed _ _ _

/-- The cells of a slice. -/
def Rd (w : World) (a : Option Addr) (n : Nat) (A : Nat → Value) : Prop := ∀ i, i < n → ∃ q, a = some q ∧ w.cell? (q.add i) = some (A i)
theorem Rd.kept {w w' : World} {a : Option Addr} {n : Nat} {A : Nat → Value} (h : Rd w a n A) (k : Kept w w') : Rd w' a n A := fun i hi => by
  obtain ⟨q, hq, hc⟩ := h i hi
  exact ⟨q, hq, cell_keep hc fun o ho hn => k.1 _ o ho hn⟩
theorem rd_block {w : World} {O n : Nat} {cells : Array Value} {e : TypeId} {fr : Nat × Nat} {A : Nat → Value} (h : w.heap[O]? = some (.cells cells e fr)) (hc : ∀ i, i < n → cells[i]? = some (A i)) : Rd w (some (adr O)) n A := fun i hi =>
  ⟨adr O, rfl, by rw [show (adr O).add i = ⟨O, i, none⟩ by simp [Addr.add]; omega, cell_of h]; exact hc i hi⟩
theorem kept_alloc (w : World) (o : Obj) : Kept w (w.alloc o) := ⟨fun b x hx _ => by rw [heap_push, Array.getElem?_push_lt (lt_of_known hx)]; rw [← hx, Array.getElem?_eq_getElem (lt_of_known hx)], by rw [heap_push]; simp, rfl, rfl, rfl⟩

/-- Two slices that are the same. -/
theorem same16 {e : Bool} {co : Co} (hC : Closed Try.prog 58 e co) {w : World} {a b : Option Addr} {n ca cb : Nat} {A : Nat → Int} (hn : n < 2 ^ 40) (ha : Rd w a n fun i => .int .i64 (A i)) (hb : Rd w b n fun i => .int .i64 (A i)) :
    CallsJ Try.prog co 16 #[.slice a n ca, .slice b n cb] w (fun v w' => v = .bool true ∧ w' = w) := by
  refine c16 hC ?_
  unfold sh16
  have e1 : (((n : Nat) : Int) != ((n : Nat) : Int)) = false := by simp
  rw [e1]
  refine ⟨fun vs w' => w' = w ∧ ∃ i : Nat, i ≤ n ∧ vs = [.bool false, .int .i64 i], fun vs _ => n - (match vs with | [_, .int _ k] => k.toNat | _ => 0), ⟨rfl, 0, by omega, rfl⟩, ?_⟩
  rintro w5 b3 n4 ⟨rfl, i, hi, hvs⟩
  simp only [List.cons.injEq, Value.bool.injEq, Value.int.injEq, and_true, true_and] at hvs
  obtain ⟨rfl, rfl⟩ := hvs
  by_cases hlt : i < n
  · have h1 : decide ((i : Int) < ((n : Nat) : Int)) = true := by simpa using hlt
    rw [h1]
    obtain ⟨q1, hq1, hc1⟩ := ha i hlt
    obtain ⟨q2, hq2, hc2⟩ := hb i hlt
    refine ⟨q1, hq1, by omega, by omega, A i, by simpa using hc1, q2, hq2, by omega, by omega, A i, by simpa using hc2, ?_⟩
    have h2 : (A i != A i) = false := by simp
    rw [h2]
    have hw := wrap_small (i := i + 1) (by omega)
    simp only [Int.natCast_add, Int.natCast_one] at hw
    refine ⟨⟨rfl, i + 1, by omega, by rw [hw]; simp⟩, ?_⟩
    rw [hw]
    show n - ((i : Int) + 1).toNat < n - (i : Int).toNat
    omega
  · have h1 : decide ((i : Int) < ((n : Nat) : Int)) = false := by simpa using hlt
    rw [h1]
    exact ⟨rfl, rfl⟩

/-- The reference's 'Do'. -/
def odd14 (x odd : Int) : Bool := decide (odd > 0) && (Int.tmod x odd == IntKind.i64.wrap (odd - 1))
def doR (odd x : Int) : Int := if odd14 x odd then 7 else IntKind.i64.wrap (IntKind.i64.wrap (3 * Int.tmod x 1000003) + 1)
def doE (odd x : Int) : Int := if odd14 x odd then IntKind.i64.wrap (100 + Int.tmod x 13) else 0
theorem do14 {e : Bool} {co : Co} (hC : Closed Try.prog 58 e co) {w : World} {x odd : Int} : CallsJ Try.prog co 14 #[.int .i64 x, .int .i64 odd] w (fun v w' => v = .tuple #[.int .i64 (doR odd x), .int .i64 (doE odd x)] ∧ w' = w) := by
  refine c14 hC ?_
  unfold sh14
  by_cases h0 : odd > 0
  · have h1 : decide (odd > 0) = true := by simpa using h0
    rw [h1]
    refine ⟨by omega, ?_⟩
    cases hb : (Int.tmod x odd == IntKind.i64.wrap (odd - 1)) with
    | true =>
      have : odd14 x odd = true := by simp [odd14, h0, hb]
      refine ⟨by decide, ?_, rfl⟩
      simp [doR, doE, this]
    | false =>
      have : odd14 x odd = false := by simp [odd14, hb]
      refine ⟨by decide, ?_, rfl⟩
      simp [doR, doE, this]
  · have h1 : decide (odd > 0) = false := by simpa using h0
    have : odd14 x odd = false := by simp [odd14, h0]
    rw [h1]
    refine ⟨by decide, ?_, rfl⟩
    simp [doR, doE, this]

theorem subS_zero (a : Option Addr) (c : Nat) : subS a c 0 1 = a := by
  unfold subS
  split
  · rfl
  · cases a <;> simp [Addr.add]
theorem ti3 : ∃ i, Try.prog.info? 3 = some i ∧ i.zero = some (.int .i64 0) ∧ i.size = 1 ∧ i.bytes = 8 := by
  have h := info3
  cases hi : Try.prog.info? 3 with
  | none => rw [hi] at h; cases h
  | some i => rw [hi] at h; simp only [Option.map_some, Option.some.injEq, Prod.mk.injEq] at h; exact ⟨i, rfl, h⟩
theorem und22 : Try.prog.underlying 22 = some (.slice 3) := by
  have h := sl22
  split at h
  · rename_i e he; cases h; exact he
  · cases h
/-- The first 300 jobs, anew. -/
theorem cut9 {co : Co} (hC : Closed Try.prog 58 false co) {w : World} {a : Option Addr} {l ca : Nat} {A : Nat → Int} (hl : l ≤ ca) (ha : Rd w a l fun i => .int .i64 (A i))
    {R : Value → World → Prop} (hR : ∀ w' O cap, Kept w w' → w.heap.size ≤ O → min l 300 ≤ cap → Rd w' (some (adr O)) (min l 300) (fun i => .int .i64 (A i)) → R (.slice (some (adr O)) (min l 300) cap) w') :
    CallsJ Try.prog co 9 #[.slice a l ca] w R := by
  refine c9 hC ?_
  unfold sh9
  have em : mnI ((l : Nat) : Int) 300 = ((min l 300 : Nat) : Int) := by unfold mnI; split <;> omega
  rw [em, subS_zero]
  obtain ⟨ti, h1, h2, h3, h4⟩ := ti3
  have emt : (((min l 300 : Nat) : Int).toNat) - 0 = min l 300 := by omega
  rw [emt]
  generalize hm : min l 300 = m at *
  have hm3 : m ≤ 300 := by omega
  have hml : m ≤ l := by omega
  refine ⟨by omega, by omega, 22, 22, 3, some ⟨w.heap.size, 0, none⟩, a, 0, 0, m, ca - 0, ti, .int .i64 0, [], (List.range m).map fun i => .int .i64 (A i), rfl, rfl, und22, ⟨_, und22, fun k => by simp⟩, h1, h2, by rw [h3]; rfl, by omega, by decide, by simp, by simp [h3], fun j v hj => by simp at hj, ?_, ?_⟩
  · -- what is appended
    unfold cellsAt
    by_cases h0 : m = 0
    · subst h0
      cases a with
      | none => rfl
      | some q => intro j v hj; simp at hj
    · obtain ⟨q, hq, _⟩ := ha 0 (by omega)
      subst hq
      intro j v hj
      obtain ⟨hjm, rfl⟩ : j < m ∧ Value.int .i64 (A j) = v := by
        rw [List.getElem?_map] at hj
        obtain ⟨k, hk, hv⟩ := Option.map_eq_some_iff.1 hj
        obtain ⟨hlt, he⟩ := List.getElem?_eq_some_iff.1 hk
        simp at hlt he
        subst he
        exact ⟨hlt, hv⟩
      obtain ⟨q', hq', hc⟩ := ha j (by omega)
      cases hq'
      exact cell_keep hc fun o ho hn => (kept_alloc w _).1 _ o ho hn
  · by_cases h0 : m = 0
    · subst h0
      rw [if_pos (by omega)]
      refine ⟨rfl, fun j hj => by simp at hj, ?_⟩
      exact hR _ _ _ (kept_alloc w _) (Nat.le_refl _) (by omega) (fun i hi => absurd hi (by omega))
    · rw [if_neg (by omega)]
      refine ⟨?_, fun nc hnc => ?_⟩
      · have : Builtin.nextslicecap (0 + m) 0 = m := by unfold Builtin.nextslicecap; rw [if_pos (by omega)]; omega
        rw [this, h4]; omega
      · have k1 := kept_alloc w (.cells #[] 3)
        have k2 := kept_alloc (w.alloc (.cells #[] 3)) (.cells (([] : List Value).toArray ++ ((List.range m).map fun i => Value.int .i64 (A i)).toArray ++ Builtin.zeroCells (Value.int .i64 0).cells (nc - (0 + m))) 3)
        have e0 : 0 + m = m := by omega
        have := hR _ (w.alloc (.cells #[] 3)).heap.size nc (k1.trans k2) k1.2.1 (by omega) (rd_block (e := 3) (fr := (0, 0)) (cells := ([] : List Value).toArray ++ ((List.range m).map fun i => Value.int .i64 (A i)).toArray ++ Builtin.zeroCells (Value.int .i64 0).cells (nc - (0 + m))) (by rw [heap_push, Array.getElem?_push_size]) fun i hi => by
          have e5 : ([] : List Value).toArray ++ ((List.range m).map fun i => Value.int .i64 (A i)).toArray = ((List.range m).map fun i => Value.int .i64 (A i)).toArray := by simp
          rw [e5, Array.getElem?_append_left (by simpa using hi)]
          simp [hi])
        rw [e0]
        rw [e0] at this
        exact this
end Go.Proofs.Ytmkgnbcpcfojfaa
