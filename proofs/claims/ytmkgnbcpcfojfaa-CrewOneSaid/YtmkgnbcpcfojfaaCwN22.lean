/- Function 22: its loop around select. -/
import Derived.Test.YtmkgnbcpcfojfaaCwM22
import Derived.Test.YtmkgnbcpcfojfaaCwN12
set_option linter.unusedVariables false
set_option linter.unusedSimpArgs false
set_option maxRecDepth 10000
namespace Go.Proofs.Ytmkgnbcpcfojfaa
open Go Go.Cv Go.Conc Go.ConcN
open Go.ConcR (KK)

def z22R : Value := .agg #[.int .i64 0, .string ({ data := #[] } : ByteArray), .int .i64 0]
theorem op22_sel : opIs o22_bbbbbabklbkbbba 0 = some (.select #[{ chan := .tmp 47, send := some (.tmp 48), elem := 3 }, { chan := .tmp 49, send := none, elem := 66 }] true, some 50, none) := by kernel_rfl
theorem z66 : zeroE Try.prog 66 = some z22R := by kernel_rfl

noncomputable def kL22 : List Item := .inBlock 3 :: .inLoop n22_bbbbbabkl :: .inBlock 2 :: [.code n22_bbbbbb]
/-- The loop's variables. -/
def mt22 (x : Sh22) (O e : Nat) (c : Int) (a b : Nat) : List (Nat × Value) :=
  [(9, ptr x.tv), (10, ptr x.rv), (11, ptr x.wg), (12, .slice (some (adr O)) x.N x.N), (13, .int .i64 e), (14, .int .i64 c), (15, .int .i64 a), (16, .int .i64 b)]
def Sel22 (x : Sh22) (O : Nat) (cs : List Frame) (a b e : Nat) (c : Int) (g : Goroutine) : Prop :=
  ∃ act, g = G ((base 22).at act (.inRegion o22_bbbbbabklbkbbba [0, 1, 2, 3] :: .code n22_bbbbbabklbkbbbb :: kL22)) cs ∧
    Slots 87 [] act (mt22 x O e c a b ++ [(47, .chan (if a < e then some x.T else none)), (48, .int .i64 a), (49, .chan (some x.R))])
def Exit22 (x : Sh22) (O : Nat) (cs : List Frame) (e : Nat) (c : Int) (g : Goroutine) : Prop :=
  ∃ act, g = G ((base 22).at act [.code n22_bbbbbb]) cs ∧ Slots 87 [] act [(9, ptr x.tv), (10, ptr x.rv), (11, ptr x.wg), (12, .slice (some (adr O)) x.N x.N), (13, .int .i64 e), (14, .int .i64 c)]
/-- What is known of the memory: D: the jobs that are done. -/
structure Inv22 (x : Sh22) (O : Nat) (D : Nat → Prop) (e : Nat) (c : Int) (MV : World) : Prop where
  tv : MV.cell? x.tv = some (.chan (some x.T))
  rv : MV.cell? x.rv = some (.chan (some x.R))
  out : ∃ cells : Array Value, MV.heap[O]? = some (.cells cells 9 (0, 0)) ∧ cells.size = x.N ∧ ∀ i, i < x.N → D i → cells[i]? = some (.string (x.r i))
  code : (c = 0 ∧ e = x.N) ∨ (c ≠ 0 ∧ e < x.N ∧ x.er e = c)
  fine : ∀ i, D i → i < e → x.er i = 0

section
variable {x : Sh22} {O : Nat} {cs : List Frame} {MV : World} {co : Co} {a b e : Nat} {c : Int}
theorem step22 {g : Goroutine} (h : Sel22 x O cs a b e c g) {P' : Value → World → Prop} {m : Nat} : g.status = .running ∧ ∀ w, stepG Try.prog true g w = .comm g (selCases (wk22 x P' m true) a e (.int .i64 0) z22R) true .select w #[] := by
  obtain ⟨act, rfl, hs⟩ := h
  exact ⟨rfl, fun w => stepG_select2 op22_sel kind22 z3 z66 (hs.ev (t := 47) (by simp [mt22, wk22])) (hs.ev (t := 48) (by simp [mt22])) (hs.ev (t := 49) (by simp [mt22, wk22]))⟩

/-- At the loop's head. -/
theorem head22 {ee : Bool} (hC : Closed Try.prog 58 ee co) (htv : MV.cell? x.tv = some (.chan (some x.T))) (hrv : MV.cell? x.rv = some (.chan (some x.R))) {act : Act} (hs : Slots 87 [] act (mt22 x O e c a b))
    (h1 : (a < e ∨ 0 < b) → ∀ g, Sel22 x O cs a b e c g → co.J g MV) (h2 : ¬ (a < e ∨ 0 < b) → ∀ g, Exit22 x O cs e c g → co.J g MV) : co.J (G ((base 22).at act (.code n22_bbbbbabkl :: .inLoop n22_bbbbbabkl :: .inBlock 2 :: [.code n22_bbbbbb])) cs) MV := by
  refine J_seq hC e22_bbbbbabkl ?_
  by_cases hx : a < e ∨ 0 < b
  · refine pH22_J (tv := x.tv) (rv := x.rv) (wg := x.wg) (out := some (adr O)) (l_out := x.N) (c_out := x.N) (en := e) (code := c) (next := a) (waiting := b) hC kind22 hs (fun ex vs w => ex = .normal ∧ MV = w ∧ vs = [ptr x.tv, ptr x.rv, ptr x.wg, .slice (some (adr O)) x.N x.N, .int .i64 e, .int .i64 c, .int .i64 a, .int .i64 b]) (by
      unfold pH22
      by_cases hae : a < e
      · have : decide ((a : Int) < (e : Int)) = true := by simpa using hae
        rw [this]
        exact ⟨rfl, rfl, rfl⟩
      · have h3 : decide ((a : Int) < (e : Int)) = false := by simpa using hae
        have h4 : decide ((b : Int) > 0) = true := by simp; omega
        rw [h3, h4]
        exact ⟨rfl, rfl, rfl⟩) fun ex a1 W1 vs1 k1 hs1 => ?_
    obtain ⟨rfl, rfl, rfl⟩ := k1
    refine J_blk hC e22_bbbbbabklb ?_
    refine J_seq hC e22_bbbbbabklbk ?_
    refine pI22_J (tv := x.tv) (rv := x.rv) (wg := x.wg) (out := some (adr O)) (l_out := x.N) (c_out := x.N) (en := e) (code := c) (next := a) (waiting := b) hC kind22 hs1 (fun ex vs w => ex = .normal ∧ MV = w ∧ vs = [ptr x.tv, ptr x.rv, ptr x.wg, .slice (some (adr O)) x.N x.N, .int .i64 e, .int .i64 c, .int .i64 a, .int .i64 b, .chan (some x.T)]) ⟨_, htv, rfl, rfl, rfl⟩ fun ex a2 W2 vs2 k2 hs2 => ?_
    obtain ⟨rfl, rfl, rfl⟩ := k2
    refine J_seq hC e22_bbbbbabklbkb ?_
    refine pJ22_J (tv := x.tv) (rv := x.rv) (wg := x.wg) (out := some (adr O)) (l_out := x.N) (c_out := x.N) (en := e) (code := c) (next := a) (waiting := b) (give := .chan (some x.T)) hC kind22 hs2 (fun ex vs w => ex = .normal ∧ MV = w ∧ vs = [ptr x.tv, ptr x.rv, ptr x.wg, .slice (some (adr O)) x.N x.N, .int .i64 e, .int .i64 c, .int .i64 a, .int .i64 b, .chan (if a < e then some x.T else none)]) (by
      unfold pJ22
      by_cases hae : a < e
      · have : decide ((a : Int) ≥ (e : Int)) = false := by simp; omega
        rw [this, if_pos hae]
        exact ⟨rfl, rfl, rfl⟩
      · have : decide ((a : Int) ≥ (e : Int)) = true := by simp; omega
        rw [this, if_neg hae]
        exact ⟨rfl, rfl, rfl⟩) fun ex a3 W3 vs3 k3 hs3 => ?_
    obtain ⟨rfl, rfl, rfl⟩ := k3
    refine J_seq hC e22_bbbbbabklbkbb ?_
    refine pK22_J (tv := x.tv) (rv := x.rv) (wg := x.wg) (out := some (adr O)) (l_out := x.N) (c_out := x.N) (en := e) (code := c) (next := a) (waiting := b) (give := .chan (if a < e then some x.T else none)) hC kind22 hs3 (fun ex vs w => ex = .normal ∧ MV = w ∧ vs = [ptr x.tv, ptr x.rv, ptr x.wg, .slice (some (adr O)) x.N x.N, .int .i64 e, .int .i64 c, .int .i64 a, .int .i64 b, .chan (if a < e then some x.T else none), .int .i64 a, .chan (some x.R)]) ⟨_, hrv, rfl, rfl, rfl⟩ fun ex a4 W4 vs4 k4 hs4 => ?_
    obtain ⟨rfl, rfl, rfl⟩ := k4
    refine J_seq hC e22_bbbbbabklbkbbb ?_
    refine J_reg hC e22_bbbbbabklbkbbba z22_bbbbbabklbkbbba ?_
    exact h1 hx _ ⟨a4, rfl, hs4.sub (by simp [mt22])⟩
  · refine pH22_J (tv := x.tv) (rv := x.rv) (wg := x.wg) (out := some (adr O)) (l_out := x.N) (c_out := x.N) (en := e) (code := c) (next := a) (waiting := b) hC kind22 hs (fun ex vs w => ex = .exit 2 ∧ MV = w ∧ vs = [ptr x.tv, ptr x.rv, ptr x.wg, .slice (some (adr O)) x.N x.N, .int .i64 e, .int .i64 c, .int .i64 a, .int .i64 b]) (by
      unfold pH22
      have h3 : decide ((a : Int) < (e : Int)) = false := by simp; omega
      have h4 : decide ((b : Int) > 0) = false := by simp; omega
      rw [h3, h4]
      exact ⟨rfl, rfl, rfl⟩) fun ex a1 W1 vs1 k1 hs1 => ?_
    obtain ⟨rfl, rfl, rfl⟩ := k1
    exact ⟨[.code n22_bbbbbb], rfl, h2 hx _ ⟨a1, rfl, hs1.sub (by simp)⟩⟩

theorem dst22_sel : (o22_bbbbbabklbkbbba[0]?).bind (·.dst) = some 50 := dst_of op22_sel
/-- A job is given. -/
theorem gave22 (hN : x.N < 2 ^ 40) {D : Nat → Prop} {g : Goroutine} (hs : Sel22 x O cs a b e c g) (hI : Inv22 x O D e c MV) (hae : a < e) (heN : e ≤ x.N) (hb : b ≤ 64) (hC : Closed Try.prog 58 false co)
    (h : ∀ g', Sel22 x O cs (a + 1) (b + 1) e c g' → co.J g' MV) : co.J (Go.Conc.served g (.tuple #[goInt 0, .bool false, z22R])) MV := by
  obtain ⟨act, rfl, hs⟩ := hs
  rw [served_at, dst22_sel]
  have hs1 := hs.put (d := 50) (by omega) (.tuple #[goInt 0, .bool false, z22R]) (by simp [mt22])
  refine pS22_J (tv := x.tv) (rv := x.rv) (wg := x.wg) (out := some (adr O)) (l_out := x.N) (c_out := x.N) (en := e) (code := c) (next := a) (waiting := b) (ix := 0) (ok := false) (da := 0) (dr := ({ data := #[] } : ByteArray)) (dc := 0) hC kind22 (hs1.sub (by simp [mt22, goInt, z22R])) (fun ex vs w => MV = w ∧ vs = [ptr x.tv, ptr x.rv, ptr x.wg, .slice (some (adr O)) x.N x.N, .int .i64 e, .int .i64 c, .int .i64 a, .int .i64 b, .tuple #[.int .i64 0, .bool false, .agg #[.int .i64 0, .string ({ data := #[] } : ByteArray), .int .i64 0]], .bool true, .bool false]) ⟨rfl, rfl⟩ fun a1 W1 vs1 k1 hs2 => ?_
  obtain ⟨rfl, rfl⟩ := k1
  refine pL22_J (tv := x.tv) (rv := x.rv) (wg := x.wg) (out := some (adr O)) (l_out := x.N) (c_out := x.N) (en := e) (code := c) (next := a) (waiting := b) (ix := 0) (ok := false) (da := 0) (dr := ({ data := #[] } : ByteArray)) (dc := 0) (b0 := true) (b1 := false) hC kind22 hs2 (fun ex vs w => ex = .normal ∧ MV = w ∧ vs = [ptr x.tv, ptr x.rv, ptr x.wg, .slice (some (adr O)) x.N x.N, .int .i64 e, .int .i64 c, .int .i64 ((a + 1 : Nat) : Int), .int .i64 ((b + 1 : Nat) : Int)]) (by
    have e1 := wrap_small (i := a + 1) (by omega)
    have e2 := wrap_small (i := b + 1) (by omega)
    simp only [Int.natCast_add, Int.natCast_one] at e1 e2 ⊢
    unfold pL22
    rw [e1, e2]
    exact ⟨rfl, rfl, rfl⟩) fun ex a2 W2 vs2 k2 hs3 => ?_
  obtain ⟨rfl, rfl, rfl⟩ := k2
  show co.J (G ((base 22).at a2 kL22) cs) MV
  refine J_inB hC ?_
  refine J_inL hC ?_
  exact head22 hC hI.tv hI.rv (hs3.sub (by simp [mt22])) (fun _ => h) (fun hx => absurd (Or.inr (Nat.succ_pos b)) hx)

/-- A result has come. -/
theorem got22 (hN : x.N < 2 ^ 40) {D : Nat → Prop} {i m n : Nat} {P' : Value → World → Prop} {g : Goroutine} (hs : Sel22 x O cs a b e c g) (hO : x.W0.heap.size ≤ O) (hb0 : 0 < b) (hb : b ≤ 64) (hI : Inv22 x O D e c MV) (v0 : View0 (wk22 x P' m true) MV) (htB : x.tv.block < x.W0.heap.size) (hrB : x.rv.block < x.W0.heap.size) (hia : i < a) (haN : a ≤ x.N) (heN : e ≤ x.N)
    (hC : Closed Try.prog 58 false co) (hro : co.ro = roC (wk22 x P' m true) n)
    (h : ∀ g' MV' e' c', Inv22 x O (fun j => D j ∨ j = i) e' c' MV' → (∀ bb, bb < MV.heap.size → bb ≠ O → MV'.heap[bb]? = MV.heap[bb]?) → MV.heap.size ≤ MV'.heap.size → ((e' = e ∧ c' = c) ∨ e' = i) → e' ≤ e → (a < e' ∨ 0 < b - 1 → Sel22 x O cs a (b - 1) e' c' g') → (¬ (a < e' ∨ 0 < b - 1) → Exit22 x O cs e' c' g') → co.J g' MV') : co.J (Go.Conc.served g (.tuple #[goInt 1, .bool true, res22 x i])) MV := by
  obtain ⟨act, rfl, hs⟩ := hs
  rw [served_at, dst22_sel]
  have hs1 := hs.put (d := 50) (by omega) (.tuple #[goInt 1, .bool true, res22 x i]) (by simp [mt22])
  refine pS22_J (tv := x.tv) (rv := x.rv) (wg := x.wg) (out := some (adr O)) (l_out := x.N) (c_out := x.N) (en := e) (code := c) (next := a) (waiting := b) (ix := 1) (ok := true) (da := i) (dr := x.r i) (dc := x.er i) hC kind22 (hs1.sub (by simp [mt22, goInt, res22])) (fun ex vs w => MV = w ∧ vs = [ptr x.tv, ptr x.rv, ptr x.wg, .slice (some (adr O)) x.N x.N, .int .i64 e, .int .i64 c, .int .i64 a, .int .i64 b, .tuple #[.int .i64 1, .bool true, .agg #[.int .i64 i, .string (x.r i), .int .i64 (x.er i)]], .bool false, .bool true]) ⟨rfl, rfl⟩ fun a1 W1 vs1 k1 hs2 => ?_
  obtain ⟨rfl, rfl⟩ := k1
  obtain ⟨cells, ho1, ho2, ho3⟩ := hI.out
  have hOs : O < MV.heap.size := (Array.getElem?_eq_some_iff.1 ho1).1
  have hiN : i < x.N := by omega
  -- the memory behind it
  let M1 := MV.setCell ⟨O, i, none⟩ (.string (x.r i))
  let fs : List Obj := [.cells #[.int .i64 i, .string (x.r i), .int .i64 (x.er i)] 66]
  have hM1O : M1.heap[O]? = some (.cells (cells.setIfInBounds i (.string (x.r i))) 9 (0, 0)) := setCell_atE ho1 _
  have hsz : M1.heap.size = MV.heap.size := setCell_sz _ _ _
  let e' : Nat := if x.er i ≠ 0 ∧ i < e then i else e
  let c' : Int := if x.er i ≠ 0 ∧ i < e then x.er i else c
  have old : ∀ j, j < MV.heap.size → j ≠ O → (extW M1 fs).heap[j]? = MV.heap[j]? := fun j hj hne => by
    rw [ext_old (by rw [hsz]; exact hj)]; exact setCell_ne hne _
  have keep : ∀ {ad : Addr} {v : Value}, ad.block < x.W0.heap.size → MV.cell? ad = some v → (extW M1 fs).cell? ad = some v := fun {ad v} hlt hc => by
    refine cell_keep hc fun o ho _ => ?_
    rw [old _ (lt_of_known ho) (by omega)]; exact ho
  have hI' : Inv22 x O (fun j => D j ∨ j = i) e' c' (extW M1 fs) := by
    refine ⟨keep htB hI.tv, keep hrB hI.rv, ⟨_, by rw [ext_old (by rw [hsz]; exact hOs)]; exact hM1O, by simpa using ho2, fun j hj hD => ?_⟩, ?_, fun j hD hj => ?_⟩
    · by_cases hji : i = j
      · subst hji
        rw [Array.getElem?_setIfInBounds_self_of_lt (by omega)]
      · rw [Array.getElem?_setIfInBounds_ne hji]
        exact ho3 j hj (hD.resolve_right fun hh => hji hh.symm)
    · by_cases hx : x.er i ≠ 0 ∧ i < e
      · simp only [e', c', if_pos hx]; exact .inr ⟨hx.1, hiN, trivial⟩
      · simp only [e', c', if_neg hx]; exact hI.code
    · by_cases hx : x.er i ≠ 0 ∧ i < e
      · simp only [e', if_pos hx] at hj
        rcases hD with hD | rfl
        · exact hI.fine j hD (by omega)
        · omega
      · simp only [e', if_neg hx] at hj
        rcases hD with hD | rfl
        · exact hI.fine j hD hj
        · by_cases h0 : x.er j = 0
          · exact h0
          · exact absurd ⟨h0, hj⟩ hx
  refine pL22_J (tv := x.tv) (rv := x.rv) (wg := x.wg) (out := some (adr O)) (l_out := x.N) (c_out := x.N) (en := e) (code := c) (next := a) (waiting := b) (ix := 1) (ok := true) (da := i) (dr := x.r i) (dc := x.er i) (b0 := false) (b1 := true) hC kind22 hs2 (fun ex vs w => ex = .normal ∧ extW M1 fs = w ∧ vs = [ptr x.tv, ptr x.rv, ptr x.wg, .slice (some (adr O)) x.N x.N, .int .i64 e', .int .i64 c', .int .i64 a, .int .i64 ((b - 1 : Nat) : Int)]) (by
    have e2 : IntKind.i64.wrap ((b : Int) - 1) = ((b - 1 : Nat) : Int) := by
      have := wrap_small (i := b - 1) (by omega)
      rw [show ((b : Int) - 1) = ((b - 1 : Nat) : Int) by omega]; exact this
    have a2 : MV.alloc (.cells #[.int .i64 0, .string ({ data := #[] } : ByteArray), .int .i64 0] 66) = extW MV [.cells #[.int .i64 0, .string ({ data := #[] } : ByteArray), .int .i64 0] 66] := by
      have := ext_alloc (W := MV) (fs := []) (.cells #[.int .i64 0, .string ({ data := #[] } : ByteArray), .int .i64 0] 66)
      rw [ext_nil] at this; exact this
    have ad : ∀ k, (⟨MV.heap.size, 0, none⟩ : Addr).add k = ⟨MV.heap.size + 0, k, none⟩ := fun k => by simp [Addr.add]; omega
    have a3 : setN ⟨MV.heap.size, 0, none⟩ 0 [.int .i64 i, .string (x.r i), .int .i64 (x.er i)] (extW MV [.cells #[.int .i64 0, .string ({ data := #[] } : ByteArray), .int .i64 0] 66]) = extW MV fs := by
      simp only [setN, ad, ext_set]; rfl
    have aO : (adr O).add ((i : Int).toNat * 1) = ⟨O, i, none⟩ := by simp [Addr.add]; omega
    have a7 : (extW MV fs).setCell ⟨O, i, none⟩ (.string (x.r i)) = extW M1 fs := ext_setOld hOs _
    have c3 : ∀ (k : Nat) (v : Value), (#[Value.int .i64 i, .string (x.r i), .int .i64 (x.er i)])[k]? = some v → (extW MV fs).cell? ⟨MV.heap.size, k, none⟩ = some v := fun k v hk => by
      have := ext_cell (W := MV) (fs := fs) (j := 0) (o := k) rfl
      rw [Nat.add_zero] at this; rw [this]; exact hk
    have c7 : ∀ (k : Nat) (v : Value), (#[Value.int .i64 i, .string (x.r i), .int .i64 (x.er i)])[k]? = some v → (extW M1 fs).cell? ⟨MV.heap.size, k, none⟩ = some v := fun k v hk => by
      have := ext_cell (W := M1) (fs := fs) (j := 0) (o := k) rfl
      rw [Nat.add_zero, hsz] at this; rw [this]; exact hk
    have hvl : x.W0.heap.size ≤ MV.heap.size := v0.le
    have hlow : ∀ bb, x.W0.heap.size ≤ bb → ¬ co.ro bb := fun bb hbb => by
      rw [hro]; rintro ⟨o, ho, _⟩
      have h9 : bb < x.W0.heap.size := lt_of_known ho
      omega
    unfold pL22
    rw [e2]
    refine ⟨?_, i, ?_, x.r i, ?_, adr O, rfl, by omega, by omega, ?_, x.er i, ?_, ?_⟩
    · intro j hj
      rw [a2, ad]
      refine ⟨?_, ?_, hlow _ (by show x.W0.heap.size ≤ MV.heap.size + 0; omega)⟩
      · rw [ext_cell (fs := [.cells #[.int .i64 0, .string ({ data := #[] } : ByteArray), .int .i64 0] 66]) (j := 0) rfl]
        have : j = 0 ∨ j = 1 ∨ j = 2 := by omega
        rcases this with rfl | rfl | rfl <;> exact ⟨_, rfl⟩
      · have hat := ext_at (W := MV) (fs := [.cells #[.int .i64 0, .string ({ data := #[] } : ByteArray), .int .i64 0] 66]) 0
        unfold World.frozen?
        rw [hat]
        simp
    · rw [a2, a3]; exact c3 0 _ rfl
    · rw [a2, a3]; exact c3 1 _ rfl
    · rw [a2, a3, aO]
      refine ⟨⟨cells[i]'(by omega), ?_⟩, ?_, hlow _ hO⟩
      · have : (extW MV fs).heap[O]? = some (.cells cells 9 (0, 0)) := by rw [ext_old hOs]; exact ho1
        rw [cell_of this, Array.getElem?_eq_getElem]
      · simp [World.frozen?, ext_old hOs, ho1]
    · rw [a2, a3, aO, a7]; exact c7 2 _ rfl
    · rw [a2, a3, aO, a7]
      by_cases h0 : x.er i = 0
      · have hq : (x.er i != 0) = false := by simp [h0]
        have he' : e' = e := by simp only [e']; rw [if_neg (fun hh => hh.1 h0)]
        have hc' : c' = c := by simp only [c']; rw [if_neg (fun hh => hh.1 h0)]
        rw [hq, he', hc']
        exact ⟨rfl, rfl, rfl⟩
      · have hq : (x.er i != 0) = true := by simp [h0]
        rw [hq]
        refine ⟨i, c7 0 _ rfl, ?_⟩
        by_cases hie : i < e
        · have hd : decide ((i : Int) < (e : Int)) = true := by simpa using hie
          have he' : e' = i := by simp only [e']; rw [if_pos ⟨h0, hie⟩]
          have hc' : c' = x.er i := by simp only [c']; rw [if_pos ⟨h0, hie⟩]
          rw [hd, he', hc']
          exact ⟨i, c7 0 _ rfl, x.er i, c7 2 _ rfl, rfl, rfl, rfl⟩
        · have hd : decide ((i : Int) < (e : Int)) = false := by simpa using hie
          have he' : e' = e := by simp only [e']; rw [if_neg (fun hh => hie hh.2)]
          have hc' : c' = c := by simp only [c']; rw [if_neg (fun hh => hie hh.2)]
          rw [hd, he', hc']
          exact ⟨rfl, rfl, rfl⟩) fun ex a2 W2 vs2 k2 hs3 => ?_
  obtain ⟨rfl, rfl, rfl⟩ := k2
  show co.J (G ((base 22).at a2 kL22) cs) _
  refine J_inB hC ?_
  refine J_inL hC ?_
  have hle : e' ≤ e := by simp only [e']; split <;> omega
  have hei : (e' = e ∧ c' = c) ∨ e' = i := by
    by_cases hx : x.er i ≠ 0 ∧ i < e
    · exact .inr (by simp only [e', if_pos hx])
    · exact .inl ⟨by simp only [e', if_neg hx], by simp only [c', if_neg hx]⟩
  have hszle : MV.heap.size ≤ (extW M1 fs).heap.size := by rw [ext_size, hsz]; omega
  exact head22 hC hI'.tv hI'.rv (hs3.sub (by simp [mt22])) (fun hx g' hg' => h g' _ e' c' hI' old hszle hei hle (fun _ => hg') (fun hn => absurd hx hn)) (fun hx g' hg' => h g' _ e' c' hI' old hszle hei hle (fun hn => absurd hn hx) (fun _ => hg'))
end
end Go.Proofs.Ytmkgnbcpcfojfaa
