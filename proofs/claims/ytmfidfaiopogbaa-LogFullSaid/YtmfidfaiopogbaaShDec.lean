/- Taking a number, and an operation, from the front of bytes. -/
import Derived.Test.YtmfidfaiopogbaaShRec
set_option linter.unusedVariables false
set_option linter.unusedSimpArgs false
set_option linter.unusedSectionVars false
set_option maxRecDepth 4000
namespace Go.Proofs.Ytmfidfaiopogbaa
open Go Go.Sh

/-- A number from the i-th of its bytes on; p is what the bytes ahead said. -/
def tk : Nat → Nat → Bs → Option (Nat × Bs)
  | _, _, [] => none
  | i, p, x :: r => if i < 5 then if x.toNat < 128 then if i = 0 ∨ 0 < x.toNat then some (p + x.toNat * 128 ^ i, r) else none else tk (i + 1) (p + (x.toNat % 128) * 128 ^ i) r else none

theorem tk_some : ∀ {l : Bs} {i p m : Nat} {r : Bs}, tk i p l = some (m, r) → ∃ q, m = p + q * 128 ^ i ∧ l = num q ++ r ∧ (i = 0 ∨ 0 < q) ∧ q < 128 ^ (5 - i)
  | [], i, p, m, r, h => by simp [tk] at h
  | x :: l, i, p, m, r, h => by
    unfold tk at h
    split at h
    · rename_i h5
      split at h
      · rename_i hx
        split at h
        · rename_i h0
          cases h
          refine ⟨x.toNat, rfl, ?_, h0, ?_⟩
          · rw [num_lt hx]; simp
          · have h1 : 128 ^ 1 ≤ 128 ^ (5 - i) := Nat.pow_le_pow_right (by omega) (by omega)
            omega
        · cases h
      · rename_i hx
        obtain ⟨q, hm, hl, hq, hq5⟩ := tk_some h
        have hq0 : 0 < q := hq.resolve_left (by omega)
        have hx2 := x.toNat_lt
        refine ⟨x.toNat % 128 + 128 * q, ?_, ?_, .inr (by omega), ?_⟩
        · rw [hm, Nat.pow_succ, Nat.add_mul, Nat.add_assoc]
          congr 2
          rw [Nat.mul_comm (128 ^ i) 128, ← Nat.mul_assoc, Nat.mul_comm q 128]
        · rw [num_ge (by omega), hl]
          have e1 : (x.toNat % 128 + 128 * q) / 128 = q := by omega
          have e2 : (x.toNat % 128 + 128 * q) % 128 + 128 = x.toNat := by omega
          rw [e1, e2]
          simp
        · have e : 5 - i = (5 - (i + 1)) + 1 := by omega
          rw [e, Nat.pow_succ]
          generalize 128 ^ (5 - (i + 1)) = z at *
          omega
    · cases h
theorem tk_num : ∀ (q : Nat) {i p : Nat} {r : Bs}, i < 5 → (i = 0 ∨ 0 < q) → q < 128 ^ (5 - i) → tk i p (num q ++ r) = some (p + q * 128 ^ i, r) := by
  intro q
  induction q using Nat.strongRecOn with
  | _ q ih =>
    intro i p r hi h0 hq
    have hu : ∀ m : Nat, m < 256 → (UInt8.ofNat m).toNat = m := fun m hm => by rw [UInt8.toNat_ofNat']; omega
    by_cases h : q < 128
    · rw [num_lt h]
      show tk i p (UInt8.ofNat q :: r) = _
      unfold tk
      rw [if_pos hi, hu q (by omega), if_pos h, if_pos h0]
    · rw [num_ge h]
      show tk i p (UInt8.ofNat (q % 128 + 128) :: (num (q / 128) ++ r)) = _
      unfold tk
      have hi4 : i + 1 < 5 := by
        rcases Nat.lt_or_ge (i + 1) 5 with h' | h'
        · exact h'
        · have : i = 4 := by omega
          subst this
          simp at hq; omega
      have e : 5 - i = (5 - (i + 1)) + 1 := by omega
      rw [if_pos hi, hu _ (by omega), if_neg (by omega), ih (q / 128) (by omega) hi4 (.inr (by omega)) (by
        rw [e, Nat.pow_succ] at hq
        generalize 128 ^ (5 - (i + 1)) = z at *
        omega)]
      congr 2
      rw [Nat.pow_succ, Nat.add_assoc]
      congr 1
      have e2 : (q % 128 + 128) % 128 = q % 128 := by omega
      rw [e2, Nat.mul_comm (128 ^ i) 128, ← Nat.mul_assoc, ← Nat.add_mul]
      congr 1
      omega

/-! ### An operation -/
def Op.put (x : Op) : Nat → Int → Op
  | 1, n => { x with e := n }
  | 2, n => { x with u := n }
  | _, n => { x with v := n }
/-- The numbers of a kind, from the front. -/
def decF : List (Nat × Int × Int) → Bs → Op → Option (Op × Bs)
  | [], r, y => some (y, r)
  | f :: fs, r, y =>
    match tk 0 0 r with
    | none => none
    | some (m, r') => if f.2.1 ≤ (m : Int) ∧ (m : Int) ≤ f.2.2 then decF fs r' (y.put f.1 m) else none
def unbits (r : Bs) : Int := ((r.getD 0 0).toNat + 256 * (r.getD 1 0).toNat + 65536 * (r.getD 2 0).toNat + 16777216 * (r.getD 3 0).toNat : Nat)
def decB (bt : Bool) (r : Bs) (y : Op) : Option Op :=
  bif bt then if r.length = 4 then some { y with b := unbits r } else none else if r = [] then some y else none
/-- The operation that the bytes begin with, and how many bytes it has. -/
def dec (b : Bs) : Option (Op × Nat) :=
  if b.length < 3 ∨ b.length < (b.getD 0 0).toNat + 2 ∨ (b.getD 0 0).toNat + 2 < 3 then none
  else if chk (b.take ((b.getD 0 0).toNat + 1)) ≠ b.getD ((b.getD 0 0).toNat + 1) 0 then none
  else
    match shp (b.getD 1 0).toNat with
    | none => none
    | some s =>
      match decF s.1 ((b.take ((b.getD 0 0).toNat + 1)).drop 2) ⟨(b.getD 1 0).toNat, 0, 0, 0, 0⟩ with
      | none => none
      | some (y, r) => (decB s.2 r y).map fun z => (z, (b.getD 0 0).toNat + 2)
theorem bits4_un {r : Bs} (h : r.length = 4) : bits4 (unbits r).toNat = r ∧ 0 ≤ unbits r ∧ unbits r < 4294967296 := by
  obtain ⟨a, b, c, d, rfl⟩ : ∃ a b c d, r = [a, b, c, d] := by
    match r, h with
    | [a, b, c, d], _ => exact ⟨a, b, c, d, rfl⟩
  have ha := a.toNat_lt; have hb := b.toNat_lt; have hc := c.toNat_lt; have hd := d.toNat_lt
  have e : unbits [a, b, c, d] = ((a.toNat + 256 * b.toNat + 65536 * c.toNat + 16777216 * d.toNat : Nat) : Int) := rfl
  rw [e]
  refine ⟨?_, by omega, by omega⟩
  have e0 : (a.toNat + 256 * b.toNat + 65536 * c.toNat + 16777216 * d.toNat) % 256 = a.toNat := by omega
  have e1 : (a.toNat + 256 * b.toNat + 65536 * c.toNat + 16777216 * d.toNat) / 256 % 256 = b.toNat := by omega
  have e2 : (a.toNat + 256 * b.toNat + 65536 * c.toNat + 16777216 * d.toNat) / 65536 % 256 = c.toNat := by omega
  have e3 : (a.toNat + 256 * b.toNat + 65536 * c.toNat + 16777216 * d.toNat) / 16777216 % 256 = d.toNat := by omega
  unfold bits4
  rw [Int.toNat_natCast, e0, e1, e2, e3]
  simp
theorem un_bits4 {b : Int} (h0 : 0 ≤ b) (h1 : b < 4294967296) : unbits (bits4 b.toNat) = b := by
  obtain ⟨n, rfl⟩ := Int.eq_ofNat_of_zero_le h0
  have hu : ∀ m : Nat, m < 256 → (UInt8.ofNat m).toNat = m := fun m hm => by rw [UInt8.toNat_ofNat']; omega
  show (((UInt8.ofNat (n % 256)).toNat + 256 * (UInt8.ofNat (n / 256 % 256)).toNat + 65536 * (UInt8.ofNat (n / 65536 % 256)).toNat + 16777216 * (UInt8.ofNat (n / 16777216 % 256)).toNat : Nat) : Int) = _
  rw [hu _ (by omega), hu _ (by omega), hu _ (by omega), hu _ (by omega)]
  omega
end Go.Proofs.Ytmfidfaiopogbaa
/- The front of bytes is a record just where it is the record of what it says. -/
set_option linter.unusedVariables false
set_option linter.unusedSimpArgs false
set_option linter.unusedSectionVars false
set_option maxRecDepth 4000
namespace Go.Proofs.Ytmfidfaiopogbaa
open Go Go.Sh

theorem decF_cons {f : Nat × Int × Int} {fs : List (Nat × Int × Int)} {r : Bs} {y z : Op} {t : Bs} (h : decF (f :: fs) r y = some (z, t)) :
    ∃ m r', r = num m ++ r' ∧ f.2.1 ≤ (m : Int) ∧ (m : Int) ≤ f.2.2 ∧ decF fs r' (y.put f.1 m) = some (z, t) := by
  unfold decF at h
  cases ht : tk 0 0 r with
  | none => rw [ht] at h; cases h
  | some v =>
    obtain ⟨m, r'⟩ := v
    rw [ht] at h
    simp only at h
    split at h
    · rename_i hr
      obtain ⟨q, hm, hl, _, _⟩ := tk_some ht
      have : m = q := by rw [hm]; simp
      subst this
      exact ⟨m, r', hl, hr.1, hr.2, h⟩
    · cases h
theorem decF_put {f : Nat × Int × Int} {fs : List (Nat × Int × Int)} {m : Nat} {r : Bs} {y : Op} (h1 : f.2.1 ≤ (m : Int)) (h2 : (m : Int) ≤ f.2.2) (h3 : f.2.2 ≤ 2147483647) : decF (f :: fs) (num m ++ r) y = decF fs r (y.put f.1 m) := by
  conv => lhs; unfold decF
  have := tk_num m (i := 0) (p := 0) (r := r) (by omega) (.inl rfl) (by simp; omega)
  rw [this]
  simp only [Nat.pow_zero, Nat.mul_one, Nat.zero_add]
  rw [if_pos ⟨h1, h2⟩]

theorem plain_a {y : Op} (h : y.k = 1 ∨ y.k = 2 ∨ y.k = 6 ∨ y.k = 7) : plain y = if isV y.v then some ⟨y.k, 0, 0, y.v, 0⟩ else none := by unfold plain; rw [if_pos h]
theorem plain_3 {y : Op} (h : y.k = 3) : plain y = if isE y.e ∧ isV y.u ∧ isV y.v then some y else none := by unfold plain; rw [if_neg (by omega), if_pos h]
theorem plain_4 {y : Op} (h : y.k = 4) : plain y = if isE y.e then some ⟨y.k, y.e, 0, 0, 0⟩ else none := by unfold plain; rw [if_neg (by omega), if_neg (by omega), if_pos h]
theorem plain_5 {y : Op} (h : y.k = 5) : plain y = if isE y.e then some ⟨y.k, y.e, 0, 0, y.b⟩ else none := by unfold plain; rw [if_neg (by omega), if_neg (by omega), if_neg (by omega), if_pos h]
/-- The four shapes. -/
theorem shp_cases {k : Int} {s : List (Nat × Int × Int) × Bool} (h : shp k = some s) : ((k = 1 ∨ k = 2 ∨ k = 6 ∨ k = 7) ∧ s = ([(3, 0, 2147483647)], false)) ∨ (k = 3 ∧ s = ([(1, 1, 1024), (2, 0, 2147483647), (3, 0, 2147483647)], true)) ∨
    (k = 4 ∧ s = ([(1, 1, 1024)], false)) ∨ (k = 5 ∧ s = ([(1, 1, 1024)], true)) := by
  unfold shp at h
  split at h
  · rename_i hk; cases h; exact .inl ⟨hk, rfl⟩
  · split at h
    · rename_i hk; cases h; exact .inr (.inl ⟨hk, rfl⟩)
    · split at h
      · rename_i hk; cases h; exact .inr (.inr (.inl ⟨hk, rfl⟩))
      · split at h
        · rename_i hk; cases h; exact .inr (.inr (.inr ⟨hk, rfl⟩))
        · cases h

theorem decF_some {k : Int} {s : List (Nat × Int × Int) × Bool} (hs : shp k = some s) {r : Bs} {y : Op} {t : Bs} (h : decF s.1 r ⟨k, 0, 0, 0, 0⟩ = some (y, t)) :
    r = numsOf y s.1 ++ t ∧ (∀ f ∈ s.1, okf y f) ∧ y.k = k ∧ y.b = 0 ∧ (0 ≤ y.e ∧ y.e ≤ 2147483647 ∧ 0 ≤ y.u ∧ y.u ≤ 2147483647 ∧ 0 ≤ y.v ∧ y.v ≤ 2147483647) ∧ ∀ v, (s.2 = true ∨ v = 0) → plain { y with b := v } = some { y with b := v } := by
  rcases shp_cases hs with ⟨hk, rfl⟩ | ⟨rfl, rfl⟩ | ⟨rfl, rfl⟩ | ⟨rfl, rfl⟩
  · obtain ⟨m, r', rfl, h1, h2, h3⟩ := decF_cons h
    simp only [decF, Option.some.injEq, Prod.mk.injEq] at h3
    obtain ⟨rfl, rfl⟩ := h3
    refine ⟨by simp [numsOf, Op.put, Op.sel], by simp [okf, Op.put, Op.sel]; simpa using h2, rfl, rfl, by simp [Op.put]; omega, fun v hv => ?_⟩
    have hv0 : v = 0 := hv.resolve_left (by simp)
    subst hv0
    show plain (⟨k, 0, 0, (m : Int), 0⟩ : Op) = some ⟨k, 0, 0, (m : Int), 0⟩
    rw [plain_a (y := ⟨k, 0, 0, (m : Int), 0⟩) hk, if_pos (show isV (m : Int) from ⟨by omega, h2⟩)]
  · obtain ⟨m1, r1, rfl, h1, h2, h3⟩ := decF_cons h
    obtain ⟨m2, r2, rfl, h4, h5, h6⟩ := decF_cons h3
    obtain ⟨m3, r3, rfl, h7, h8, h9⟩ := decF_cons h6
    simp only [decF, Option.some.injEq, Prod.mk.injEq] at h9
    obtain ⟨rfl, rfl⟩ := h9
    simp only at h1 h2 h4 h5 h7 h8
    refine ⟨by simp [numsOf, Op.put, Op.sel], by simp [okf, Op.put, Op.sel]; omega, rfl, rfl, by simp [Op.put]; omega, fun v hv => ?_⟩
    show plain (⟨3, (m1 : Int), (m2 : Int), (m3 : Int), v⟩ : Op) = some ⟨3, (m1 : Int), (m2 : Int), (m3 : Int), v⟩
    rw [plain_3 rfl, if_pos (show isE (m1 : Int) ∧ isV (m2 : Int) ∧ isV (m3 : Int) from ⟨⟨h1, h2⟩, ⟨by omega, h5⟩, ⟨by omega, h8⟩⟩)]
  · obtain ⟨m, r', rfl, h1, h2, h3⟩ := decF_cons h
    simp only [decF, Option.some.injEq, Prod.mk.injEq] at h3
    obtain ⟨rfl, rfl⟩ := h3
    simp only at h1 h2
    refine ⟨by simp [numsOf, Op.put, Op.sel], by simp [okf, Op.put, Op.sel]; omega, rfl, rfl, by simp [Op.put]; omega, fun v hv => ?_⟩
    have hv0 : v = 0 := hv.resolve_left (by simp)
    subst hv0
    show plain (⟨4, (m : Int), 0, 0, 0⟩ : Op) = some ⟨4, (m : Int), 0, 0, 0⟩
    rw [plain_4 rfl, if_pos (show isE (m : Int) from ⟨h1, h2⟩)]
  · obtain ⟨m, r', rfl, h1, h2, h3⟩ := decF_cons h
    simp only [decF, Option.some.injEq, Prod.mk.injEq] at h3
    obtain ⟨rfl, rfl⟩ := h3
    simp only at h1 h2
    refine ⟨by simp [numsOf, Op.put, Op.sel], by simp [okf, Op.put, Op.sel]; omega, rfl, rfl, by simp [Op.put]; omega, fun v hv => ?_⟩
    show plain (⟨5, (m : Int), 0, 0, v⟩ : Op) = some ⟨5, (m : Int), 0, 0, v⟩
    rw [plain_5 rfl, if_pos (show isE (m : Int) from ⟨h1, h2⟩)]
theorem decF_ok {z : Op} {s : List (Nat × Int × Int) × Bool} (hs : shp z.k = some s) (hp : plain z = some z) (t : Bs) : decF s.1 (numsOf z s.1 ++ t) ⟨z.k, 0, 0, 0, 0⟩ = some ({ z with b := 0 }, t) ∧ (s.2 = false → z.b = 0) := by
  obtain ⟨k, e, u, v, b⟩ := z
  simp only at hs
  rcases shp_cases hs with ⟨hk, rfl⟩ | ⟨rfl, rfl⟩ | ⟨rfl, rfl⟩ | ⟨rfl, rfl⟩
  · rw [plain_a (by exact hk)] at hp
    split at hp
    · rename_i hv
      simp only [Option.some.injEq, Op.mk.injEq] at hp
      obtain ⟨_, rfl, rfl, _, rfl⟩ := hp
      obtain ⟨g, rfl⟩ := Int.eq_ofNat_of_zero_le (show 0 ≤ v from hv.1)
      refine ⟨?_, fun _ => rfl⟩
      show decF [(3, 0, 2147483647)] ((num g ++ []) ++ t) _ = _
      rw [List.append_nil, decF_put (by simp) (by exact hv.2) (by simp)]
      rfl
    · cases hp
  · rw [plain_3 rfl] at hp
    split at hp
    · rename_i hv
      obtain ⟨h1, h2, h3⟩ := hv
      obtain ⟨g1, rfl⟩ := Int.eq_ofNat_of_zero_le (show 0 ≤ e by have := h1.1; simp only at this; omega)
      obtain ⟨g2, rfl⟩ := Int.eq_ofNat_of_zero_le (show 0 ≤ u from h2.1)
      obtain ⟨g3, rfl⟩ := Int.eq_ofNat_of_zero_le (show 0 ≤ v from h3.1)
      refine ⟨?_, fun h => by cases h⟩
      show decF [(1, 1, 1024), (2, 0, 2147483647), (3, 0, 2147483647)] ((num g1 ++ (num g2 ++ (num g3 ++ []))) ++ t) _ = _
      rw [List.append_nil, List.append_assoc, List.append_assoc, decF_put (by exact h1.1) (by exact h1.2) (by simp), decF_put (by simp) (by exact h2.2) (by simp), decF_put (by simp) (by exact h3.2) (by simp)]
      rfl
    · cases hp
  · rw [plain_4 rfl] at hp
    split at hp
    · rename_i h1
      simp only [Option.some.injEq, Op.mk.injEq] at hp
      obtain ⟨_, _, rfl, rfl, rfl⟩ := hp
      obtain ⟨g1, rfl⟩ := Int.eq_ofNat_of_zero_le (show 0 ≤ e by have := h1.1; simp only at this; omega)
      refine ⟨?_, fun _ => rfl⟩
      show decF [(1, 1, 1024)] ((num g1 ++ []) ++ t) _ = _
      rw [List.append_nil, decF_put (by exact h1.1) (by exact h1.2) (by simp)]
      rfl
    · cases hp
  · rw [plain_5 rfl] at hp
    split at hp
    · rename_i h1
      simp only [Option.some.injEq, Op.mk.injEq] at hp
      obtain ⟨_, _, rfl, rfl, _⟩ := hp
      obtain ⟨g1, rfl⟩ := Int.eq_ofNat_of_zero_le (show 0 ≤ e by have := h1.1; simp only at this; omega)
      refine ⟨?_, fun h => by cases h⟩
      show decF [(1, 1, 1024)] ((num g1 ++ []) ++ t) _ = _
      rw [List.append_nil, decF_put (by exact h1.1) (by exact h1.2) (by simp)]
      rfl
    · cases hp

/-- y is a plain operation whose record l the bytes b begin with. -/
def Front (b : Bs) (y : Op) (l : Bs) : Prop := y.fit ∧ plain y = some y ∧ enc y = some l ∧ ∃ r, b = l ++ r
theorem body_len {y : Op} {s : List (Nat × Int × Int) × Bool} (hs : shp y.k = some s) (hok : ∀ f ∈ s.1, okf y f) : 2 ≤ (body y s).length ∧ (body y s).length ≤ 20 := by
  obtain ⟨h3, hf, _⟩ := shp_f hs
  letI : Av := noAv
  have h1 := numsOf_len (x := y) (fs := s.1) fun f hf' => ⟨hok f hf', (hf f hf').2.2⟩
  have h2 : 1 ≤ (numsOf y s.1).length := by
    have hn : ∀ m, 1 ≤ (num m).length := fun m => by
      by_cases h : m < 128
      · rw [num_lt h]; simp
      · rw [num_ge h]; simp
    rcases shp_cases hs with ⟨_, rfl⟩ | ⟨_, rfl⟩ | ⟨_, rfl⟩ | ⟨_, rfl⟩
    · simp only [numsOf, List.flatMap_cons, List.flatMap_nil, List.append_nil]; exact hn _
    · simp only [numsOf, List.flatMap_cons, List.length_append]; have := hn (y.sel 1).toNat; omega
    · simp only [numsOf, List.flatMap_cons, List.flatMap_nil, List.append_nil]; exact hn _
    · simp only [numsOf, List.flatMap_cons, List.flatMap_nil, List.append_nil]; exact hn _
  unfold body
  simp only [List.length_cons, List.length_append]
  cases s.2 <;> simp [bits4] <;> omega
theorem enc_some {y : Op} {l : Bs} (h : enc y = some l) : ∃ s, shp y.k = some s ∧ (∀ f ∈ s.1, okf y f) ∧ l = sealed (body y s) := by
  unfold enc at h
  cases hs : shp y.k with
  | none => rw [hs] at h; cases h
  | some s =>
    rw [hs] at h
    simp only at h
    split at h
    · rename_i hok; cases h; exact ⟨s, rfl, hok, rfl⟩
    · cases h
theorem dec_front {b : Bs} {y : Op} {l : Bs} (h : Front b y l) : dec b = some (y, l.length) := by
  obtain ⟨hfit, hp, he, r, rfl⟩ := h
  obtain ⟨s, hs, hok, rfl⟩ := enc_some he
  obtain ⟨hb1, hb2⟩ := body_len hs hok
  have hk := (shp_f hs).2.2
  have hL : (sealed (body y s)).length = (body y s).length + 2 := by simp [sealed]
  have h0 : ((sealed (body y s) ++ r).getD 0 0).toNat = (body y s).length := by
    show (UInt8.ofNat (body y s).length).toNat = _
    rw [UInt8.toNat_ofNat']; omega
  have ht : (sealed (body y s) ++ r).take ((body y s).length + 1) = UInt8.ofNat (body y s).length :: body y s := by
    unfold sealed
    rw [List.append_assoc, List.take_append_of_le_length (by simp)]
    exact List.take_of_length_le (by simp)
  have hc : (sealed (body y s) ++ r).getD ((body y s).length + 1) 0 = chk (UInt8.ofNat (body y s).length :: body y s) := by
    unfold sealed
    rw [List.append_assoc, List.getD_eq_getElem?_getD, List.getElem?_append_right (by simp)]
    simp
  have h1 : (((sealed (body y s) ++ r).getD 1 0).toNat : Int) = y.k := by
    show ((kb y.k).toNat : Int) = _
    unfold kb
    rw [UInt8.toNat_ofNat']; omega
  unfold dec
  rw [h0, ht, hc, if_neg (by simp [hL]; omega), if_neg (by simp), h1, hs]
  simp only
  have hd : (UInt8.ofNat (body y s).length :: body y s).drop 2 = numsOf y s.1 ++ (bif s.2 then bits4 y.b.toNat else []) := rfl
  rw [hd, (decF_ok hs hp _).1]
  simp only
  cases hs2 : s.2 with
  | true =>
    have : decB true (bits4 y.b.toNat) { y with b := 0 } = some y := by
      unfold decB
      rw [cond_true, if_pos (show (bits4 y.b.toNat).length = 4 from rfl), un_bits4 hfit.b.1 hfit.b.2]
    rw [cond_true, this, hL]; rfl
  | false =>
    have hb0 := (decF_ok hs hp []).2 hs2
    have : decB false [] { y with b := 0 } = some y := by
      unfold decB
      rw [cond_false, if_pos rfl, ← hb0]
    rw [cond_false, this, hL]; rfl
theorem dec_some {b : Bs} {y : Op} {n : Nat} (h : dec b = some (y, n)) : ∃ l, Front b y l ∧ l.length = n := by
  unfold dec at h
  split at h
  · cases h
  · rename_i hlen
    split at h
    · cases h
    · rename_i hchk
      cases hs : shp (b.getD 1 0).toNat with
      | none => rw [hs] at h; cases h
      | some s =>
        rw [hs] at h
        simp only at h
        cases hd : decF s.1 ((b.take ((b.getD 0 0).toNat + 1)).drop 2) ⟨(b.getD 1 0).toNat, 0, 0, 0, 0⟩ with
        | none => rw [hd] at h; cases h
        | some v =>
          obtain ⟨z, t⟩ := v
          rw [hd] at h
          simp only [Option.map_eq_some_iff, Prod.mk.injEq] at h
          obtain ⟨y', hB, rfl, rfl⟩ := h
          obtain ⟨hr, hok, hk, hb, hrng, hpl⟩ := decF_some hs hd
          generalize hL : (b.getD 0 0).toNat = L at *
          have hl1 : L + 2 ≤ b.length := by omega
          have hL0 : 1 ≤ L := by omega
          -- the weight
          have hw : ∃ v, y' = { z with b := v } ∧ (s.2 = true ∨ v = 0) ∧ t = (bif s.2 then bits4 v.toNat else []) ∧ 0 ≤ v ∧ v < 4294967296 := by
            unfold decB at hB
            cases hs2 : s.2 with
            | true =>
              rw [hs2, cond_true] at hB
              split at hB
              · rename_i h4
                cases hB
                obtain ⟨e1, e2, e3⟩ := bits4_un h4
                exact ⟨_, rfl, .inl rfl, e1.symm, e2, e3⟩
              · cases hB
            | false =>
              rw [hs2, cond_false] at hB
              split at hB
              · rename_i h4
                cases hB
                exact ⟨0, by rw [← hb], .inr rfl, h4, by omega, by omega⟩
              · cases hB
          obtain ⟨v, rfl, hv2, ht, hv0, hv1⟩ := hw
          have hbody : body { z with b := v } s = (b.take (L + 1)).drop 1 := by
            have e1 : (b.take (L + 1)).drop 1 = b.getD 1 0 :: (b.take (L + 1)).drop 2 := by
              have hlt : 1 < (b.take (L + 1)).length := by rw [List.length_take]; omega
              rw [List.drop_eq_getElem_cons hlt]
              congr 1
              rw [List.getElem_take, List.getD_eq_getElem?_getD, List.getElem?_eq_getElem (by omega)]
              rfl
            rw [e1, hr, ht]
            unfold body
            have e2 : kb ({ z with b := v } : Op).k = b.getD 1 0 := by
              show kb z.k = _
              rw [hk]
              unfold kb
              rw [Int.toNat_natCast]
              simp
            rw [e2]
            rfl
          have hBl : ((b.take (L + 1)).drop 1).length = L := by rw [List.length_drop, List.length_take]; omega
          have henc : enc { z with b := v } = some (sealed (body { z with b := v } s)) := by
            unfold enc
            rw [show ({ z with b := v } : Op).k = z.k from rfl, hk, hs]
            exact if_pos hok
          have hsl : sealed (body { z with b := v } s) = b.take (L + 2) := by
            rw [hbody]
            unfold sealed
            rw [hBl]
            have e3 : UInt8.ofNat L :: (b.take (L + 1)).drop 1 = b.take (L + 1) := by
              have hlt : 0 < (b.take (L + 1)).length := by rw [List.length_take]; omega
              have := List.drop_eq_getElem_cons hlt
              rw [List.drop_zero] at this
              rw [this]
              congr 1
              · have e5 : UInt8.ofNat L = b.getD 0 0 := by rw [← hL]; simp
                rw [e5, List.getElem_take, List.getD_eq_getElem?_getD, List.getElem?_eq_getElem (by omega)]
                rfl
            rw [e3]
            have hck : chk (b.take (L + 1)) = b.getD (L + 1) 0 := Classical.not_not.1 hchk
            have e6 : b.take (L + 2) = b.take (L + 1) ++ [b[L + 1]] := List.take_succ_eq_append_getElem (by omega)
            rw [hck, e6, List.getD_eq_getElem?_getD, List.getElem?_eq_getElem (by omega)]
            rfl
          have hkk := (shp_f hs).2.2
          refine ⟨b.take (L + 2), ⟨⟨?_, ?_, ?_, ?_, hv0, hv1⟩, hpl v hv2, by rw [henc, hsl], b.drop (L + 2), (List.take_append_drop _ _).symm⟩, by rw [List.length_take]; omega⟩
          · show _ ∧ _
            simp only [hk]; omega
          · show _ ∧ _
            simp only; omega
          · show _ ∧ _
            simp only; omega
          · show _ ∧ _
            simp only; omega
end Go.Proofs.Ytmfidfaiopogbaa
/- Taking a number from the front of bytes, the program's. -/
set_option linter.unusedVariables false
set_option linter.unusedSimpArgs false
set_option linter.unusedSectionVars false
set_option maxRecDepth 4000
namespace Go.Proofs.Ytmfidfaiopogbaa
open Go Go.Sh

theorem tk_cons (i p : Nat) (x : UInt8) (r : Bs) : tk i p (x :: r) = if i < 5 then if x.toNat < 128 then if i = 0 ∨ 0 < x.toNat then some (p + x.toNat * 128 ^ i, r) else none else tk (i + 1) (p + (x.toNat % 128) * 128 ^ i) r else none := by
  rw [tk]
theorem and127 (x : UInt8) : (BitVec.ofInt 8 (x.toNat : Int) &&& BitVec.ofInt 8 127).toNat = x.toNat % 128 := by
  have key : ∀ y : Fin 256, (BitVec.ofInt 8 ((y.val : Nat) : Int) &&& BitVec.ofInt 8 127).toNat = y.val % 128 := by decide
  exact key ⟨x.toNat, x.toNat_lt⟩
theorem or_add {p k : Nat} (q : Nat) (h : p < 2 ^ k) : p ||| (q * 2 ^ k) = p + q * 2 ^ k := by
  rw [Nat.or_comm, ← Nat.shiftLeft_eq, ← Nat.shiftLeft_add_eq_or_of_lt h, Nat.shiftLeft_eq]; omega
theorem pow128 (i : Nat) : 128 ^ i = 2 ^ (7 * i) := by rw [Nat.pow_mul]
theorem or_step {p i : Nat} (x : UInt8) (hi : i < 5) (hp : p < 128 ^ i) :
    IntKind.i64.wrap ((((BitVec.ofInt 64 (p : Int)) ||| (BitVec.ofInt 64 (IntKind.i64.wrap ((IntKind.i64.wrap (IntKind.u8.wrap ((((BitVec.ofInt 8 (x.toNat : Int)) &&& (BitVec.ofInt 8 (127 : Int))).toNat : Int)))) * 2 ^ (min (IntKind.i64.wrap ((7 : Int) * (i : Int))).toNat 64))))).toNat : Int)) =
      ((p + (x.toNat % 128) * 128 ^ i : Nat) : Int) := by
  have h1 : IntKind.i64.wrap ((7 : Int) * (i : Int)) = ((7 * i : Nat) : Int) := by rw [IntWalk.i64_in _ ⟨by omega, by omega⟩]; simp
  have h2 : min (7 * i) 64 = 7 * i := by omega
  have hpow : (128 : Nat) ^ i ≤ 268435456 := by
    have := Nat.pow_le_pow_right (show 0 < 128 by omega) (show i ≤ 4 by omega)
    omega
  have hq : (x.toNat % 128) * 128 ^ i ≤ 127 * 268435456 := Nat.mul_le_mul (by omega) hpow
  have h5 : IntKind.i64.wrap ((x.toNat % 128 : Nat) : Int) = ((x.toNat % 128 : Nat) : Int) := IntWalk.i64_in _ ⟨by omega, by omega⟩
  rw [h1, Int.toNat_natCast, h2, and127, u8_nat _ (by omega), h5]
  have h3 : ((x.toNat % 128 : Nat) : Int) * 2 ^ (7 * i) = (((x.toNat % 128) * 128 ^ i : Nat) : Int) := by
    rw [pow128]; simp
  have h6 : IntKind.i64.wrap (((x.toNat % 128) * 128 ^ i : Nat) : Int) = (((x.toNat % 128) * 128 ^ i : Nat) : Int) := IntWalk.i64_in _ ⟨by omega, by omega⟩
  rw [h3, h6, BitVec.ofInt_natCast, BitVec.ofInt_natCast, BitVec.toNat_or, BitVec.toNat_ofNat, BitVec.toNat_ofNat,
    Nat.mod_eq_of_lt (show p < 2 ^ 64 by omega), Nat.mod_eq_of_lt (show (x.toNat % 128) * 128 ^ i < 2 ^ 64 by omega)]
  have h4 : p ||| (x.toNat % 128) * 128 ^ i = p + (x.toNat % 128) * 128 ^ i := by
    rw [pow128] at hp ⊢
    exact or_add _ hp
  rw [h4, IntWalk.i64_in _ ⟨by omega, by omega⟩]

section
variable [Av]
theorem rd_at {w : World} {e n c : Nat} {a : Option Addr} {l : Bs} (h : Rd w e 1 a n c (bvs l)) {i : Nat} (hi : i < l.length) : ∃ q, a = some q ∧ w.cell? (q.add (i * 1)) = some (.int .u8 (l[i].toNat : Int)) := by
  have hn : n = l.length := by have := h.1; simp at this; exact this.symm
  obtain ⟨q, hq, hc⟩ := h.at_ (i := i) (by omega)
  obtain ⟨u, hu, hcu⟩ := hc 0 (by omega)
  rw [Nat.mul_one, Nat.add_zero] at hu
  simp only [bvs, List.getElem?_map, List.getElem?_eq_getElem hi, Option.map_some, Option.some.injEq] at hu
  subst hu
  rw [addZ] at hcu
  exact ⟨q, hq, hcu⟩
theorem Rd.dropB {w : World} {e : Nat} {a : Option Addr} {n c : Nat} {l : Bs} (h : Rd w e 1 a n c (bvs l)) {r : Nat} (hr : r ≤ n) : Rd w e 1 (subS a c r 1) (n - r) (c - r) (bvs (l.drop r)) := by
  have := Rd.sub h hr (Nat.le_refl n)
  have hn : n = l.length := by have := h.1; simp at this; exact this.symm
  have e2 : List.take ((n - r) * 1) (List.drop (r * 1) (bvs l)) = bvs (l.drop r) := by
    rw [Nat.mul_one, Nat.mul_one, List.take_of_length_le (by simp [hn])]
    simp [bvs, List.map_drop]
  rw [e2] at this
  exact this

theorem subS_ob {a : Option Addr} {c r sz y : Nat} (h : OB (subS a c r sz) y) : OB a y := by
  obtain ⟨q, hq, rfl⟩ := h
  unfold subS at hq
  split at hq
  · exact ⟨q, hq, rfl⟩
  · cases a with
    | none => cases hq
    | some z => cases hq; exact ⟨z, rfl, by unfold Addr.add; split <;> rfl⟩
theorem Take_spec {w : World} {e2 : Nat} {a : Option Addr} {n c : Nat} {l : Bs} (h : Rd w e2 1 a n c (bvs l)) :
    Calls Try.prog 100 #[.slice a n c] w fun e w' => ∃ (m : Int) (s : Sv) (b : Bool), e = .returned (.tuple #[.int .i64 m, s.v, .bool b]) ∧ Keep no w w' ∧
      ((tk 0 0 l = none ∧ b = false) ∨ ∃ q r, tk 0 0 l = some (q, r) ∧ b = true ∧ m = (q : Nat) ∧ Rd w' e2 1 s.a s.n s.c (bvs r) ∧ ∀ y, OB s.a y → OB a y) := by
  have hn : n = l.length := by have := h.1; simp at this; exact this.symm
  refine c100 ?_
  unfold sh100
  refine ⟨fun vs v => ∃ (i p : Nat), vs = [.int .i64 p, .int .i64 0, .slice none 0 0, .bool false, .int .i64 i] ∧ i ≤ 5 ∧ i ≤ n ∧ p < 128 ^ i ∧ tk 0 0 l = tk i p (l.drop i) ∧ v = w,
    fun vs v => match vs with | [_, _, _, _, .int _ i] => 5 - i.toNat | _ => 0, ⟨0, 0, rfl, by omega, by omega, by simp, rfl, rfl⟩, ?_⟩
  rintro w7 n2 n3 a4 l4 c4 b5 i6 ⟨i, p, hv, hi5, hin, hp, htk, rfl⟩
  cases hv
  intro K15
  have stop : ∀ x b11 b12, (i = n ∨ i = 5) → K15 x b11 b12 false w7 := by
    intro x b11 b12 hc
    refine cond_f rfl ?_
    refine ⟨0, ⟨none, 0, 0⟩, false, rfl, Keep.refl _ _, .inl ⟨?_, rfl⟩⟩
    rw [htk]
    rcases hc with hc | hc
    · rw [List.drop_of_length_le (by omega)]; rfl
    · subst hc
      cases hd : l.drop 5 with
      | nil => rfl
      | cons x r => unfold tk; rw [if_neg (by omega)]
  have go : ∀ x b11 b12, i < n → i < 5 → K15 x b11 b12 true w7 := by
    intro x0 b11 b12 hil hi5'
    have hi' : i < l.length := by omega
    refine cond_t rfl ?_
    obtain ⟨q, hq, hc⟩ := rd_at h hi'
    have hdr : l.drop i = l[i] :: l.drop (i + 1) := List.drop_eq_getElem_cons hi'
    generalize l[i] = x at hc hdr
    have hx := x.toNat_lt
    have hm := h.2.2.1
    have hcn := h.2.1
    simp only [maxLen] at hm
    have ei : IntKind.i64.wrap ((i : Int) + 1) = ((i + 1 : Nat) : Int) := by rw [IntWalk.i64_in _ ⟨by omega, by omega⟩]; rfl
    refine ⟨q, hq, by omega, by omega, _, by rw [Int.toNat_natCast]; exact hc, by rw [IntWalk.i64_in _ ⟨by omega, by omega⟩]; omega, q, hq, by omega, by omega, _, by rw [Int.toNat_natCast]; exact hc, ?_⟩
    rw [or_step x hi5' hp, ei]
    rw [hdr] at htk
    rw [tk_cons, if_pos hi5'] at htk
    refine cond_d (fun hlt => ?_) (fun hge => ?_)
    · rw [if_pos (by omega)] at htk
      have hmod : x.toNat % 128 = x.toNat := by omega
      rw [hmod]
      intro w20
      have k20 : Keep no w7 w20 := Keep.drew _ _
      have hr20 : Rd w20 e2 1 (subS a c (i + 1) 1) (n - (i + 1)) (c - (i + 1)) (bvs (l.drop (i + 1))) := Rd.dropB (h.no k20) (by omega)
      clear_value w20
      rw [Int.toNat_natCast]
      refine ⟨by omega, by omega, ?_⟩
      refine cond_i (fun h0 => ?_) (fun h0 => ?_)
      · have h0' : i = 0 := by simpa using h0
        rw [if_pos (.inl h0')] at htk
        exact ⟨_, ⟨subS a c (i + 1) 1, n - (i + 1), c - (i + 1)⟩, _, rfl, k20, .inr ⟨_, _, htk, rfl, rfl, hr20, fun y hy => subS_ob hy⟩⟩
      · have h0' : ¬ i = 0 := by simpa using h0
        refine ⟨q, hq, by omega, by omega, _, by rw [Int.toNat_natCast]; exact cell_no k20 hc, ?_⟩
        by_cases hx0 : 0 < x.toNat
        · rw [if_pos (.inr hx0)] at htk
          refine ⟨_, ⟨subS a c (i + 1) 1, n - (i + 1), c - (i + 1)⟩, _, rfl, k20, .inr ⟨_, _, htk, ?_, rfl, hr20, fun y hy => subS_ob hy⟩⟩
          simp; omega
        · rw [if_neg (by omega)] at htk
          refine ⟨_, ⟨subS a c (i + 1) 1, n - (i + 1), c - (i + 1)⟩, _, rfl, k20, .inl ⟨htk, ?_⟩⟩
          simp; omega
    · rw [if_neg (by omega)] at htk
      refine ⟨⟨i + 1, _, rfl, by omega, by omega, ?_, htk, rfl⟩, ?_⟩
      · rw [Nat.pow_succ]
        have : (x.toNat % 128) * 128 ^ i ≤ 127 * 128 ^ i := Nat.mul_le_mul_right _ (by omega)
        generalize (x.toNat % 128) * 128 ^ i = z at *
        generalize 128 ^ i = y at *
        omega
      · show 5 - ((i + 1 : Nat) : Int).toNat < 5 - (i : Int).toNat
        omega
  clear_value K15
  refine cond_d (fun hlt => ?_) (fun hge => stop _ _ _ (.inl (by omega)))
  by_cases h5 : i = 5
  · rw [decide_eq_false (show ¬ ((i : Int) < 5) by omega)]; exact stop _ _ _ (.inr h5)
  · rw [decide_eq_true (show (i : Int) < 5 by omega)]; exact go _ _ _ (by omega) (by omega)
end
end Go.Proofs.Ytmfidfaiopogbaa
/- One record from the front of bytes, the program's. -/
set_option linter.unusedVariables false
set_option linter.unusedSimpArgs false
set_option linter.unusedSectionVars false
set_option maxRecDepth 4000
namespace Go.Proofs.Ytmfidfaiopogbaa
open Go Go.Sh

def pb (r : Bs) : Nat → Nat
  | 0 => 0
  | i + 1 => pb r i + (r.getD i 0).toNat * 256 ^ i
theorem pb_lt (r : Bs) : ∀ i, pb r i < 256 ^ i
  | 0 => by simp [pb]
  | i + 1 => by
    have := pb_lt r i
    have h := (r.getD i 0).toNat_lt
    have h2 : (r.getD i 0).toNat * 256 ^ i ≤ 255 * 256 ^ i := Nat.mul_le_mul_right _ (by omega)
    rw [pb, Nat.pow_succ]
    generalize (r.getD i 0).toNat * 256 ^ i = z at *
    generalize 256 ^ i = y at *
    omega
theorem pb_four (r : Bs) : ((pb r 4 : Nat) : Int) = unbits r := by
  unfold unbits pb pb pb pb pb
  simp only [Nat.pow_zero, Nat.pow_one]
  omega
theorem pow256 (i : Nat) : 256 ^ i = 2 ^ (8 * i) := by rw [Nat.pow_mul]
theorem u32_in (n : Int) (h : 0 ≤ n ∧ n < 4294967296) : IntKind.u32.wrap n = n := IntWalk.u32_in n ⟨h.1, by omega⟩
theorem bit_step {r : Bs} {i : Nat} (hi : i < 4) {x : UInt8} (hx : r.getD i 0 = x) :
    IntKind.u32.wrap ((((BitVec.ofInt 32 ((pb r i : Nat) : Int)) ||| (BitVec.ofInt 32 (IntKind.u32.wrap ((IntKind.u32.wrap (x.toNat : Int)) * 2 ^ (min (IntKind.i64.wrap ((8 : Int) * (i : Int))).toNat 32))))).toNat : Int)) = ((pb r (i + 1) : Nat) : Int) := by
  have h1 : IntKind.i64.wrap ((8 : Int) * (i : Int)) = ((8 * i : Nat) : Int) := by rw [IntWalk.i64_in _ ⟨by omega, by omega⟩]; simp
  have h2 : min (8 * i) 32 = 8 * i := by omega
  have hpl := pb_lt r i
  have hx2 := x.toNat_lt
  have hpow : (256 : Nat) ^ i ≤ 16777216 := by
    have := Nat.pow_le_pow_right (show 0 < 256 by omega) (show i ≤ 3 by omega)
    omega
  have hq : x.toNat * 256 ^ i ≤ 255 * 16777216 := Nat.mul_le_mul (by omega) hpow
  have h5 : IntKind.u32.wrap (x.toNat : Int) = (x.toNat : Int) := u32_in _ ⟨by omega, by omega⟩
  have h3 : ((x.toNat : Nat) : Int) * 2 ^ (8 * i) = ((x.toNat * 256 ^ i : Nat) : Int) := by
    rw [pow256]; simp
  have h6 : IntKind.u32.wrap ((x.toNat * 256 ^ i : Nat) : Int) = ((x.toNat * 256 ^ i : Nat) : Int) := u32_in _ ⟨by omega, by omega⟩
  rw [h1, Int.toNat_natCast, h2, h5, h3, h6, BitVec.ofInt_natCast, BitVec.ofInt_natCast, BitVec.toNat_or, BitVec.toNat_ofNat, BitVec.toNat_ofNat,
    Nat.mod_eq_of_lt (show pb r i < 2 ^ 32 by omega), Nat.mod_eq_of_lt (show x.toNat * 256 ^ i < 2 ^ 32 by omega)]
  have h4 : pb r i ||| x.toNat * 256 ^ i = pb r i + x.toNat * 256 ^ i := by
    rw [pow256] at hpl ⊢
    exact or_add _ hpl
  rw [h4]
  have h7 : pb r (i + 1) = pb r i + x.toNat * 256 ^ i := by rw [pb, hx]
  rw [h7]
  exact u32_in _ ⟨by omega, by omega⟩
theorem put_cell {w : World} {p : Nat} {x : Op} (h : Bk w p (opC x) 57) {j : Nat} (hj : j = 1 ∨ j = 2 ∨ j = 3) (m : Int) : Bk (w.setCell ⟨p, j, none⟩ (.int .i64 m)) p (opC (x.put j m)) 57 := by
  have := h.set j (.int .i64 m)
  rcases hj with rfl | rfl | rfl <;> exact this

section
variable [Av]
/-- What one answers. -/
def OneD (w w' : World) (l : Bs) (e : Ending) : Prop :=
  ∃ (y : Op) (m : Int) (b : Bool), e = .returned (.tuple #[opV y, .int .i64 m, .bool b]) ∧ Keep no w w' ∧ ((dec l = none ∧ b = false) ∨ ∃ k, dec l = some (y, k) ∧ b = true ∧ m = (k : Nat))

theorem one_spec {w : World} {e2 : Nat} {a : Option Addr} {n c : Nat} {l : Bs} (h : Rd w e2 1 a n c (bvs l)) : Calls Try.prog 83 #[.slice a n c] w fun e w' => OneD w w' l e := by
  have hn : n = l.length := by have := h.1; simp at this; exact this.symm
  have hcn := h.2.1
  have hcm := h.2.2.1
  simp only [maxLen] at hcm
  refine c83 ?_
  unfold sh83
  intro p2 w3
  have b2 : Bk w3 p2 (opC ⟨0, 0, 0, 0, 0⟩) 57 := Bk.new w _ _
  have k3 : Keep no w w3 := Keep.alloc _ _ _
  have h2 : w.heap.size ≤ p2 := Nat.le_refl _
  clear_value p2 w3
  intro K8
  have hp2 : ∀ b, is p2 b → w.heap.size ≤ b := by rintro b rfl; exact h2
  -- the ways out that tell of no record
  have out : ∀ (v : World) (y : Op), Bk v p2 (opC y) 57 → Keep no w v → dec l = none → ∀ m : Int, ∀ z : Op,
      wrN v ⟨p2, 0, none⟩ 5 ∧ ∃ (n1 n2 n3 n4 n5 : Int), (setN ⟨p2, 0, none⟩ 0 [.int .i64 z.k, .int .i64 z.e, .int .i64 z.u, .int .i64 z.v, .int .u32 z.b] v).cell? ⟨p2, 0, none⟩ = some (.int .i64 n1) ∧
        (setN ⟨p2, 0, none⟩ 0 [.int .i64 z.k, .int .i64 z.e, .int .i64 z.u, .int .i64 z.v, .int .u32 z.b] v).cell? ⟨p2, 1, none⟩ = some (.int .i64 n2) ∧
        (setN ⟨p2, 0, none⟩ 0 [.int .i64 z.k, .int .i64 z.e, .int .i64 z.u, .int .i64 z.v, .int .u32 z.b] v).cell? ⟨p2, 2, none⟩ = some (.int .i64 n3) ∧
        (setN ⟨p2, 0, none⟩ 0 [.int .i64 z.k, .int .i64 z.e, .int .i64 z.u, .int .i64 z.v, .int .u32 z.b] v).cell? ⟨p2, 3, none⟩ = some (.int .i64 n4) ∧
        (setN ⟨p2, 0, none⟩ 0 [.int .i64 z.k, .int .i64 z.e, .int .i64 z.u, .int .i64 z.v, .int .u32 z.b] v).cell? ⟨p2, 4, none⟩ = some (.int .u32 n5) ∧
        OneD w (setN ⟨p2, 0, none⟩ 0 [.int .i64 z.k, .int .i64 z.e, .int .i64 z.u, .int .i64 z.v, .int .u32 z.b] v) l (.returned (.tuple #[.agg #[.int .i64 n1, .int .i64 n2, .int .i64 n3, .int .i64 n4, .int .u32 n5], .int .i64 m, .bool false])) := by
    intro v y hB kv hd m z
    obtain ⟨e1, e2, e3⟩ := fin5 (a := .int .i64 z.k) (b := .int .i64 z.e) (c := .int .i64 z.u) (d := .int .i64 z.v) (e := .int .u32 z.b) hB rfl
    exact ⟨e1, _, _, _, _, _, e2.cell 0, e2.cell 1, e2.cell 2, e2.cell 3, e2.cell 4, z, m, false, rfl, kv.new e3 hp2, .inl ⟨hd, rfl⟩⟩
  have exit8 : ∀ v, Bk v p2 (opC ⟨0, 0, 0, 0, 0⟩) 57 → Keep no w v → dec l = none → K8 true v := by
    intro v hB kv hd
    refine cond_t rfl ?_
    exact ⟨_, _, _, _, _, hB.cell 0, hB.cell 1, hB.cell 2, hB.cell 3, hB.cell 4, out v _ hB kv hd 0 ⟨0, 0, 0, 0, 0⟩⟩
  by_cases hl3 : l.length < 3
  · refine cond_t (decide_eq_true (by omega)) (exit8 w3 b2 k3 ?_)
    unfold dec; rw [if_pos (.inl hl3)]
  refine cond_f (decide_eq_false (by omega)) ?_
  obtain ⟨q, hq, hc0⟩ := rd_at h (i := 0) (by omega)
  have hc0' : ∀ v, Keep no w v → v.cell? q = some (.int .u8 (l[0].toNat : Int)) := fun v kv => by have := cell_no kv hc0; rwa [Nat.zero_mul, addZ] at this
  have hx0 := l[0].toNat_lt
  have hg0 : l.getD 0 0 = l[0] := by rw [List.getD_eq_getElem?_getD, List.getElem?_eq_getElem (by omega)]; rfl
  generalize hL : l[0].toNat = L at hc0' hx0
  have hgL : (l.getD 0 0).toNat = L := by rw [hg0, hL]
  have hw1 : IntKind.i64.wrap (L : Int) = (L : Int) := IntWalk.i64_in _ ⟨by omega, by omega⟩
  have hw2 : IntKind.i64.wrap ((L : Int) + 2) = ((L + 2 : Nat) : Int) := by rw [IntWalk.i64_in _ ⟨by omega, by omega⟩]; rfl
  have hw3 : IntKind.i64.wrap (((L + 2 : Nat) : Int) - 1) = ((L + 1 : Nat) : Int) := by rw [IntWalk.i64_in _ ⟨by omega, by omega⟩]; omega
  refine ⟨q, hq, by omega, by omega, _, hc0' w3 k3, ?_⟩
  rw [hw1, hw2]
  by_cases hl2 : l.length < L + 2
  · rw [decide_eq_true (show ((n : Nat) : Int) < ((L + 2 : Nat) : Int) by omega)]
    refine exit8 w3 b2 k3 ?_
    unfold dec; rw [if_pos (.inr (.inl (by omega)))]
  rw [decide_eq_false (show ¬ ((n : Nat) : Int) < ((L + 2 : Nat) : Int) by omega)]
  clear exit8
  refine cond_f rfl ?_
  refine ⟨q, hq, by omega, by omega, _, hc0' w3 k3, ?_⟩
  rw [hw1, hw2, hw3, Int.toNat_natCast]
  intro K26 w17
  have c2 : Bk w17 p2 (opC ⟨0, 0, 0, 0, 0⟩) 57 := b2.drew
  have k17 : Keep no w w17 := k3.no (Keep.drew _ _)
  clear_value w17
  have exit26 : ∀ v, Bk v p2 (opC ⟨0, 0, 0, 0, 0⟩) 57 → Keep no w v → dec l = none → K26 true v := by
    intro v hB kv hd
    refine cond_t rfl ?_
    exact ⟨_, _, _, _, _, hB.cell 0, hB.cell 1, hB.cell 2, hB.cell 3, hB.cell 4, out v _ hB kv hd 0 ⟨0, 0, 0, 0, 0⟩⟩
  have main : 1 ≤ L → chk (l.take (L + 1)) = l.getD (L + 1) 0 → K26 false w17 := by
    intro hL1 hck
    have hdec : dec l = match shp ((l.getD 1 0).toNat : Int) with
        | none => none
        | some s => match decF s.1 ((l.take (L + 1)).drop 2) ⟨(l.getD 1 0).toNat, 0, 0, 0, 0⟩ with
          | none => none
          | some (y, r) => (decB s.2 r y).map fun z => (z, L + 2) := by
      unfold dec
      rw [hgL, if_neg (by omega), if_neg (fun hne => hne hck)]
      all_goals rfl
    obtain ⟨q1, hq1, hcK⟩ := rd_at h (i := 1) (by omega)
    have hg1 : l.getD 1 0 = l[1] := by rw [List.getD_eq_getElem?_getD, List.getElem?_eq_getElem (by omega)]; rfl
    rw [hg1] at hdec
    generalize l[1] = x1 at hcK hdec
    have hx1 := x1.toNat_lt
    have hkw : IntKind.i64.wrap (x1.toNat : Int) = (x1.toNat : Int) := IntWalk.i64_in _ ⟨by omega, by omega⟩
    refine cond_f rfl ?_
    refine ⟨q1, hq1, by omega, by omega, _, by have := cell_no k17 hcK; rwa [Nat.mul_one] at this, c2.wr (by simp), ?_⟩
    rw [hkw]
    intro w35
    have c35 : Bk w35 p2 (opC ⟨x1.toNat, 0, 0, 0, 0⟩) 57 := c2.set 0 _
    have k35 : Keep no w w35 := k17.new (Keep.set (S := is p2) w17 (a := ⟨p2, 0, none⟩) _ rfl) hp2
    clear_value w35
    refine ⟨_, c35.cell 0, ?_⟩
    refine (shapes_spec w35 x1.toNat).mono ?_
    rintro e w38 ⟨s, rfl, hs, hsn, k38⟩
    refine ⟨_, _, _, _, _, rfl, ?_⟩
    intro p42 w43
    have b42 : Bk w43 p42 #[.slice none 0 0, .bool false] 128 := Bk.new w38 _ _
    have k43 : Keep no w38 w43 := Keep.alloc _ _ _
    have h42 : w38.heap.size ≤ p42 := Nat.le_refl _
    clear_value p42 w43
    refine ⟨b42.wrN (by simp), ?_⟩
    generalize hsh : shp (x1.toNat : Int) = sh at hs hsn hdec ⊢
    intro w44
    have c42 : Bk w44 p42 #[s.v, .bool (sh.getD ([], false)).2] 128 := b42.setAll rfl
    have k44 : Keep (is p42) w43 w44 := setN_keep (S := is p42) (a := ⟨p42, 0, none⟩) rfl _ _ _
    clear_value w44
    have k3844 : Keep no w38 w44 := k43.new k44 (by rintro z rfl; exact h42)
    have K44 := k35.then (k38.then k3844)
    have c44 := (c35.no k38).no k3844
    have hs44 := hs.no k3844
    generalize hfs : sh.getD ([], false) = sp at hs44 hsn c42 ⊢
    obtain ⟨fs, bt⟩ := sp
    simp only at hs44 hsn c42
    have hlow : ∀ y, OB a y → y < w.heap.size := by
      intro y hy
      obtain ⟨b, o, arr, fr, ha, ⟨e', _, hb⟩, _⟩ := h.2.2.2 (by omega)
      obtain ⟨z, hz, rfl⟩ := hy
      rw [ha] at hz; cases hz
      exact TyB.lt ⟨arr, fr, hb⟩
    refine ⟨by omega, by omega, by omega, by simp; omega, s.a, s.n, s.c, c42.cell 0, ?_⟩
    have hrest : Rd w44 e2 1 (subS a c 2 1) (L + 1 - 2) (c - 2) (bvs ((l.take (L + 1)).drop 2)) := by
      have := Rd.sub (h.no K44) (l := 2) (r := L + 1) (by omega) (by omega)
      have e : List.take ((L + 1 - 2) * 1) (List.drop (2 * 1) (bvs l)) = bvs ((l.take (L + 1)).drop 2) := by
        rw [Nat.mul_one, Nat.mul_one]
        simp only [bvs]
        rw [← List.map_drop, ← List.map_take, List.drop_take]
      rw [e] at this
      exact this
    generalize hR : (l.take (L + 1)).drop 2 = R at hrest hdec
    refine ⟨fun vs v => ∃ (i : Nat) (ra : Option Addr) (rn rc : Nat) (t : Bs) (y : Op), vs = [.slice ra rn rc, .int .i64 (L + 2 : Nat), .bool sh.isSome, .int .i64 i] ∧ i ≤ fs.length ∧ Rd v e2 1 ra rn rc (bvs t) ∧ (∀ z, OB ra z → OB a z) ∧ Bk v p2 (opC y) 57 ∧
        Bk v p42 #[s.v, .bool bt] 128 ∧ Rd v 133 3 s.a s.n s.c (fcs fs) ∧ Keep no w v ∧ decF fs R ⟨x1.toNat, 0, 0, 0, 0⟩ = decF (fs.drop i) t y ∧ y.b = 0,
      fun vs v => match vs with | [_, _, _, .int _ i] => fs.length - i.toNat | _ => 0,
      ⟨0, subS a c 2 1, L + 1 - 2, c - 2, R, ⟨x1.toNat, 0, 0, 0, 0⟩, rfl, by omega, hrest, fun z hz => subS_ob hz, c44, c42, hs44, K44, rfl, rfl⟩, ?_⟩
    rintro w50 r1 r2 r3 n47 ok48 n49 ⟨i, s1, s2, s3, t, y, hv, hi, hrt, hob, B50, d42, hr50, K50, hdecF, hyb⟩
    cases hv
    refine cond_d (fun hlt => ?_) (fun hge => ?_)
    · -- a number
      have hi' : i < fs.length := by omega
      obtain ⟨ss, rfl⟩ : ∃ ss, sh = some ss := by
        cases sh with
        | none =>
          have : fs = [] := by cases hfs; rfl
          rw [this] at hi'; simp at hi'
        | some ss => exact ⟨ss, rfl⟩
      simp only [Option.getD_some] at hfs
      subst hfs
      obtain ⟨_, hfr, _⟩ := shp_f hsh
      have hnone : decF fs R ⟨x1.toNat, 0, 0, 0, 0⟩ = none → dec l = none := fun hd => by rw [hdec]; simp only; rw [hd]
      obtain ⟨q5, hq5, hc5⟩ := hr50.at_ (i := i) (by omega)
      have hfi : fs[i]? = some fs[i] := List.getElem?_eq_getElem hi'
      obtain ⟨g0, g1, g2⟩ := fcs_at fs i _ hfi
      obtain ⟨hj, hlo, hhi⟩ := hfr _ (List.getElem_mem hi')
      have hdrop : fs.drop i = fs[i] :: fs.drop (i + 1) := List.drop_eq_getElem_cons hi'
      rw [hdrop] at hdecF
      generalize fs[i] = f at g0 g1 g2 hj hlo hhi hdecF
      have hcell : ∀ j u, j < 3 → (fcs fs)[i * 3 + j]? = some u → w50.cell? ((q5.add (i * 3)).add j) = some u := by
        intro j u hj hu
        obtain ⟨u', hu', hc'⟩ := hc5 j hj
        rw [hu] at hu'; cases hu'; exact hc'
      refine ⟨q5, hq5, by omega, by omega, ?_⟩
      rw [Int.toNat_natCast]
      refine ⟨_, _, _, by have := hcell 0 _ (by omega) g0; rwa [addZ] at this, hcell 1 _ (by omega) g1, hcell 2 _ (by omega) g2, ?_⟩
      intro p57 w58
      have b57 : Bk w58 p57 #[.nilFunc, .int .i64 0, .int .i64 0] 133 := Bk.new w50 _ _
      have k58 : Keep no w50 w58 := Keep.alloc _ _ _
      have h57 : w50.heap.size ≤ p57 := Nat.le_refl _
      clear_value p57 w58
      refine cond_t rfl ⟨b57.wrN (by simp), ?_⟩
      intro w59
      have c57 : Bk w59 p57 #[.func (.func (96 + f.1)) #[] #[], .int .i64 f.2.1, .int .i64 f.2.2] 133 := b57.setAll rfl
      have k59 : Keep (is p57) w58 w59 := setN_keep (S := is p57) (a := ⟨p57, 0, none⟩) rfl _ _ _
      clear_value w59
      have k5059 : Keep no w50 w59 := k58.new k59 (by rintro z rfl; exact h57)
      refine (Take_spec (hrt.no k5059)).mono ?_
      rintro e w61 ⟨m, r', b64, rfl, k61, hcase⟩
      refine ⟨_, _, _, _, _, rfl, ?_⟩
      have k5061 := k5059.then k61
      have K61 := K50.then k5061
      have B61 := B50.no k5061
      have d57 := c57.no k61
      intro K72
      have bad : ∀ u1 u2 u3, dec l = none → K72 u1 u2 u3 true w61 := by
        intro u1 u2 u3 hd
        refine cond_t rfl ?_
        exact out w61 _ B61 K61 hd 0 ⟨0, 0, 0, 0, 0⟩
      rcases hcase with ⟨ht, rfl⟩ | ⟨qq, rr, ht, rfl, rfl, hrd, hob2⟩
      · refine cond_t rfl (bad true true true (hnone ?_))
        rw [hdecF]; unfold decF; rw [ht]
      · refine cond_f rfl ?_
        have hstep : decF (f :: fs.drop (i + 1)) t y = if f.2.1 ≤ (qq : Int) ∧ (qq : Int) ≤ f.2.2 then decF (fs.drop (i + 1)) rr (y.put f.1 qq) else none := by
          conv => lhs; unfold decF
          rw [ht]
        have ok : ∀ u1 u2 u3, (f.2.1 ≤ (qq : Int) ∧ (qq : Int) ≤ f.2.2) → K72 u1 u2 u3 false w61 := by
          intro u1 u2 u3 hgood
          refine cond_f rfl ?_
          refine ⟨_, d57.cell 0, ?_⟩
          show cond (cl (96 + f.1)) _ _
          refine cond_t (by rcases hj with h | h | h <;> rw [h] <;> rfl) ?_
          show Calls Try.prog (96 + f.1) #[.pointer (some ⟨p2, 0, none⟩)] _ _
          refine (sel_spec hj).mono ?_
          rintro e w78 ⟨rfl, rfl⟩
          refine ⟨_, rfl, B61.wr (by rcases hj with h | h | h <;> rw [h] <;> simp), ?_⟩
          intro w81
          have B81 : Bk w81 p2 (opC (y.put f.1 qq)) 57 := put_cell B61 hj qq
          have k81 : Keep (is p2) w78 w81 := Keep.set (S := is p2) w78 (a := ⟨p2, f.1, none⟩) _ rfl
          clear_value w81
          have ei : IntKind.i64.wrap ((i : Int) + 1) = ((i + 1 : Nat) : Int) := by
            have := (shp_f hsh).1
            simp only at this
            rw [IntWalk.i64_in _ ⟨by omega, by omega⟩]; rfl
          rw [ei]
          refine ⟨⟨i + 1, r'.a, r'.n, r'.c, rr, y.put f.1 qq, rfl, by omega, Rd.keep' hrd k81 fun h0 z hz ho => ?_, fun z hz => hob z (hob2 z hz), B81, (d42.no k5061).keep k81 fun hz => (d42.no k5061).ty.ne B61.ty (by decide) hz, (hr50.no k5061).keep k81 fun z hz ht => ?_, K61.new k81 hp2, ?_, ?_⟩, ?_⟩
          · have h1 := hlow z (hob z (hob2 z ho))
            have : z = p2 := hz
            omega
          · have : z = p2 := hz
            subst this
            exact ht.ne B61.ty (by decide) rfl
          · rw [hdecF, hstep, if_pos hgood]
          · rcases hj with h | h | h <;> rw [h] <;> exact hyb
          · show fs.length - ((i + 1 : Nat) : Int).toNat < fs.length - (i : Int).toNat
            omega
        clear_value K72
        refine ⟨_, d57.cell 1, ?_⟩
        refine cond_d (fun h1 => bad _ _ _ (hnone ?_)) (fun h1 => ?_)
        · rw [hdecF, hstep, if_neg (by omega)]
        · refine ⟨_, d57.cell 2, ?_⟩
          by_cases h2 : (qq : Int) > f.2.2
          · rw [decide_eq_true h2]
            refine bad _ _ _ (hnone ?_)
            rw [hdecF, hstep, if_neg (by omega)]
          · rw [decide_eq_false h2]; exact ok _ _ _ ⟨by omega, by omega⟩
    · -- the weight, and the end
      have hil : i = fs.length := by omega
      subst hil
      rw [List.drop_length] at hdecF
      have hdF : decF fs R ⟨x1.toNat, 0, 0, 0, 0⟩ = some (y, t) := hdecF
      have htn : r2 = t.length := by have := hrt.1; simp at this; exact this.symm
      have hdec2 : dec l = bif sh.isSome then (decB bt t y).map fun z => (z, L + 2) else none := by
        rw [hdec]
        cases sh with
        | none => rfl
        | some ss =>
          simp only [Option.getD_some] at hfs
          subst hfs
          simp only [hdF]
          rfl
      intro K95
      have fin : ∀ (a' : Option Addr) (n' c' : Nat) (v : World) (z : Op), Bk v p2 (opC z) 57 → Keep no w v → (dec l = if sh.isSome = true ∧ n' = 0 then some (z, L + 2) else none) → K95 a' n' c' v := by
        intro a' n' c' v z hB kv hd
        refine ⟨_, _, _, _, _, hB.cell 0, hB.cell 1, hB.cell 2, hB.cell 3, hB.cell 4, ?_⟩
        refine cond_i (fun hk => ?_) (fun hk => ?_)
        · obtain ⟨e1, e2, e3⟩ := fin5 (a := .int .i64 z.k) (b := .int .i64 z.e) (c := .int .i64 z.u) (d := .int .i64 z.v) (e := .int .u32 z.b) hB rfl
          refine ⟨e1, _, _, _, _, _, e2.cell 0, e2.cell 1, e2.cell 2, e2.cell 3, e2.cell 4, z, _, _, rfl, kv.new e3 hp2, ?_⟩
          by_cases h0 : n' = 0
          · rw [if_pos ⟨hk, h0⟩] at hd
            exact .inr ⟨_, hd, by rw [h0]; rfl, rfl⟩
          · rw [if_neg (fun h => h0 h.2)] at hd
            exact .inl ⟨hd, by simp; omega⟩
        · rw [if_neg (fun h => by rw [h.1] at hk; cases hk)] at hd
          exact out v z hB kv hd _ z
      clear_value K95
      refine ⟨_, d42.cell 1, ?_⟩
      cases bt with
      | false =>
        refine fin r1 r2 r3 w50 y B50 K50 ?_
        rw [hdec2]
        cases hso : sh.isSome with
        | false => simp
        | true =>
          simp only [cond_true, decB, cond_false, true_and]
          by_cases h0 : r2 = 0
          · have : t = [] := List.eq_nil_of_length_eq_zero (by omega)
            rw [if_pos h0, if_pos this]; rfl
          · have : t ≠ [] := fun h => by rw [h] at htn; simp at htn; omega
            rw [if_neg h0, if_neg this]; rfl
      | true =>
        by_cases h4 : r2 = 4
        · refine cond_t rfl (cond_f (by rw [h4]; rfl) ?_)
          have ht4 : t.length = 4 := by omega
          refine ⟨fun vs v => ∃ j : Nat, vs = [.int .i64 j] ∧ j ≤ 4 ∧ Bk v p2 (opC { y with b := (pb t j : Nat) }) 57 ∧ Rd v e2 1 r1 r2 r3 (bvs t) ∧ Keep no w v, fun vs v => match vs with | [.int _ i] => 4 - i.toNat | _ => 0,
            ⟨0, rfl, by omega, ?_, hrt, K50⟩, ?_⟩
          · have e : ({ y with b := ((pb t 0 : Nat) : Int) } : Op) = y := by
              obtain ⟨k1, k2, k3, k4, k5⟩ := y
              simp only at hyb
              subst hyb; rfl
            rw [e]; exact B50
          rintro w85 n84 ⟨j, hv, hj, B85, hr85, K85⟩
          cases hv
          refine cond_d (fun hlt4 => ?_) (fun hge4 => ?_)
          · obtain ⟨q8, hq8, hc8⟩ := rd_at hr85 (i := j) (by omega)
            have hgj : t.getD j 0 = t[j] := by rw [List.getD_eq_getElem?_getD, List.getElem?_eq_getElem (by omega)]; rfl
            refine ⟨q8, hq8, by omega, by omega, _, by rw [Int.toNat_natCast]; exact hc8, ?_⟩
            intro w90
            have B90 : Bk w90 p2 _ _ := B85.drew
            have hr90 : Rd w90 e2 1 r1 r2 r3 (bvs t) := hr85.no (Keep.drew _ _)
            have K90 : Keep no w w90 := K85.no (Keep.drew _ _)
            clear_value w90
            refine ⟨_, B90.cell 4, by rw [IntWalk.i64_in _ ⟨by omega, by omega⟩]; omega, B90.wr (by simp), ?_⟩
            rw [bit_step (by omega) hgj]
            intro w92
            have B92 : Bk w92 p2 (opC { y with b := (pb t (j + 1) : Nat) }) 57 := B90.set 4 _
            have k92 : Keep (is p2) w90 w92 := Keep.set (S := is p2) w90 (a := ⟨p2, 4, none⟩) _ rfl
            clear_value w92
            have ei : IntKind.i64.wrap ((j : Int) + 1) = ((j + 1 : Nat) : Int) := by rw [IntWalk.i64_in _ ⟨by omega, by omega⟩]; rfl
            rw [ei]
            refine ⟨⟨j + 1, rfl, by omega, B92, Rd.keep' hr90 k92 fun h0 z hz ho => ?_, K90.new k92 hp2⟩, ?_⟩
            · have h1 := hlow z (hob z ho)
              have : z = p2 := hz
              omega
            · show 4 - ((j + 1 : Nat) : Int).toNat < 4 - (j : Int).toNat
              omega
          · have hj4 : j = 4 := by omega
            subst hj4
            rw [pb_four] at B85
            refine fin none 0 0 w85 _ B85 K85 ?_
            rw [hdec2]
            cases hso : sh.isSome with
            | false => simp
            | true =>
              simp only [cond_true, decB]
              rw [if_pos ht4, if_pos ⟨trivial, trivial⟩]; rfl
        · refine cond_t rfl (cond_t (by simp; omega) ?_)
          refine out w50 y B50 K50 ?_ 0 ⟨0, 0, 0, 0, 0⟩
          rw [hdec2]
          cases sh.isSome with
          | false => rfl
          | true =>
            simp only [cond_true, decB]
            rw [if_neg (by omega)]; rfl
  clear_value K26
  refine cond_d (fun h3 => exit26 w17 c2 k17 ?_) (fun h3 => ?_)
  · unfold dec; rw [if_pos (.inr (.inr (by omega)))]
  · obtain ⟨q', hq', hc1⟩ := rd_at h (i := L + 1) (by omega)
    have hgc : l.getD (L + 1) 0 = l[L + 1] := by rw [List.getD_eq_getElem?_getD, List.getElem?_eq_getElem (by omega)]; rfl
    refine ⟨by omega, by omega, q', hq', by omega, by omega, _, cell_no k17 hc1, ?_⟩
    have hsub : Rd w17 e2 1 (subS a c 0 1) (L + 1 - 0) (c - 0) (bvs (l.take (L + 1))) := Rd.takeB (h.no k17) (by omega)
    refine (check_spec hsub).mono ?_
    rintro e w21 ⟨rfl, rfl⟩
    refine ⟨_, rfl, ⟨_, cell_no k17 hc1, rfl⟩, ?_⟩
    by_cases hck : chk (l.take (L + 1)) = l.getD (L + 1) 0
    · rw [hck, hgc, show (((l[L + 1].toNat : Nat) : Int) != (l[L + 1].toNat : Int)) = false by simp]
      exact main (by omega) hck
    · have hne : (((chk (l.take (L + 1))).toNat : Int) != (l[L + 1].toNat : Int)) = true := by
        rw [bne_iff_ne]
        intro he
        refine hck ?_
        rw [hgc]
        exact UInt8.toNat_inj.1 (by omega)
      rw [hne]
      refine exit26 w21 c2 k17 ?_
      unfold dec
      rw [hgL, if_neg (by omega), if_pos hck]
end
end Go.Proofs.Ytmfidfaiopogbaa
/- Scan, the program's. -/
set_option linter.unusedVariables false
set_option linter.unusedSimpArgs false
set_option linter.unusedSectionVars false
set_option maxRecDepth 4000
namespace Go.Proofs.Ytmfidfaiopogbaa
open Go Go.Sh

theorem E64 : El Try.prog 64 57 5 40 := ⟨Try.underlying64, ⟨Try.t57, .agg #[.int .i64 0, .int .i64 0, .int .i64 0, .int .i64 0, .int .u32 0], by kernel_rfl, rfl, rfl, rfl, rfl⟩, by decide⟩
def opl : List Op → List Value
  | [] => []
  | x :: r => .int .i64 x.k :: .int .i64 x.e :: .int .i64 x.u :: .int .i64 x.v :: .int .u32 x.b :: opl r
theorem opl_append : ∀ l m : List Op, opl (l ++ m) = opl l ++ opl m
  | [], m => rfl
  | x :: r, m => by simp [opl, opl_append r m]
theorem opl_length : ∀ l : List Op, (opl l).length = l.length * 5
  | [] => rfl
  | x :: r => by simp [opl, opl_length r]; omega
theorem opl_one : ∀ l : List Op, ∀ u, u ∈ opl l → one1 u = true
  | [], u, h => by simp [opl] at h
  | x :: r, u, h => by
    simp only [opl, List.mem_cons] at h
    rcases h with rfl | rfl | rfl | rfl | rfl | h
    · rfl
    · rfl
    · rfl
    · rfl
    · rfl
    · exact opl_one r u h

/-- The operations that the bytes begin with, and how many bytes they have. -/
def scan (b : Bs) : List Op × Nat :=
  match dec b with
  | none => ([], 0)
  | some (y, n) => if h : 0 < n ∧ n ≤ b.length then (y :: (scan (b.drop n)).1, n + (scan (b.drop n)).2) else ([], 0)
termination_by b.length
decreasing_by all_goals (simp only [List.length_drop]; omega)
theorem dec_len {b : Bs} {y : Op} {n : Nat} (h : dec b = some (y, n)) : 4 ≤ n ∧ n ≤ b.length := by
  obtain ⟨l, ⟨_, _, he, r, rfl⟩, rfl⟩ := dec_some h
  obtain ⟨s, hs, hok, rfl⟩ := enc_some he
  have := body_len hs hok
  simp [sealed]; omega
theorem scan_none {b : Bs} (h : dec b = none) : scan b = ([], 0) := by rw [scan, h]
theorem scan_some {b : Bs} {y : Op} {n : Nat} (h : dec b = some (y, n)) : scan b = (y :: (scan (b.drop n)).1, n + (scan (b.drop n)).2) := by
  have hl := dec_len h
  rw [scan, h]
  simp only
  rw [dif_pos ⟨by omega, hl.2⟩]

section
variable [Av]
theorem Scan_spec {w : World} {e2 : Nat} {a : Option Addr} {n c : Nat} {l : Bs} (h : Rd w e2 1 a n c (bvs l)) (hsz : (scan l).1.length * 40 ≤ 140737488355328) :
    Calls Try.prog 40 #[.slice a n c] w fun e w' => ∃ s : Sv, e = .returned (.tuple #[s.v, .int .i64 (scan l).2]) ∧ Keep no w w' ∧ w'.ownsRow w.heap.size 57 5 s.v s.n (opl (scan l).1) ∧ s.n = (scan l).1.length := by
  have hn : n = l.length := by have := h.1; simp at this; exact this.symm
  have hcn := h.2.1
  have hcm := h.2.2.1
  simp only [maxLen] at hcm
  refine c40 ?_
  unfold sh40
  refine ⟨fun vs v => ∃ (at_ : Nat) (o1 : Option Addr) (o2 o3 : Nat) (ys : List Op), vs = [.slice none 0 0, .int .i64 0, .slice o1 o2 o3, .int .i64 at_] ∧ at_ ≤ n ∧ o2 = ys.length ∧ v.ownsRow w.heap.size 57 5 (.slice o1 o2 o3) o2 (opl ys) ∧ Keep no w v ∧
      scan l = (ys ++ (scan (l.drop at_)).1, at_ + (scan (l.drop at_)).2),
    fun vs v => match vs with | [_, _, _, .int _ i] => n - i.toNat | _ => 0, ⟨0, none, 0, 0, [], rfl, by omega, rfl, World.ownsRow_nil _ _ _ _, Keep.refl _ _, by simp⟩, ?_⟩
  rintro w6 a2 l2 c2 n3 o1 o2 o3 at5 ⟨at_, p1, p2, p3, ys, hv, hat, ho2, ho, k6, hsc⟩
  cases hv
  refine ⟨by omega, by omega, ?_⟩
  rw [Int.toNat_natCast]
  refine (one_spec (Rd.dropB (h.no k6) hat)).mono ?_
  rintro e w10 ⟨y, m, b, rfl, k10, hcase⟩
  refine ⟨_, _, _, _, _, _, _, rfl, ?_⟩
  intro p18 w19
  have b18 : Bk w19 p18 #[.int .i64 0, .int .i64 0, .int .i64 0, .int .i64 0, .int .u32 0] 57 := Bk.new w10 _ _
  have k19 : Keep no w10 w19 := Keep.alloc _ _ _
  have h18 : w10.heap.size ≤ p18 := Nat.le_refl _
  clear_value p18 w19
  obtain ⟨e1, e2', e3⟩ := fin5 (a := .int .i64 y.k) (b := .int .i64 y.e) (c := .int .i64 y.u) (d := .int .i64 y.v) (e := .int .u32 y.b) b18 rfl
  refine ⟨e1, ?_⟩
  intro w20
  have c18 : Bk w20 p18 (opC y) 57 := e2'
  have k20 : Keep no w10 w20 := k19.new e3 (by rintro z rfl; exact h18)
  clear_value w20
  have K20 := (k6.then k10).then k20
  have ho20 := own_keep ho (k10.then k20) fun _ _ h => h
  rcases hcase with ⟨hd, rfl⟩ | ⟨k, hd, rfl, rfl⟩
  · refine cond_t rfl ?_
    have hs0 := scan_none hd
    rw [hs0] at hsc
    rw [hsc]
    exact ⟨⟨o1, o2, o3⟩, by simp, K20, by simpa using ho20, by simp; omega⟩
  · refine cond_f rfl ?_
    have hs1 := scan_some hd
    have hdl := dec_len hd
    rw [List.length_drop] at hdl
    rw [hs1, List.drop_drop] at hsc
    have hlen : ys.length + 1 ≤ (scan l).1.length := by rw [hsc]; simp
    refine ⟨_, _, _, _, _, c18.cell 0, c18.cell 1, c18.cell 2, c18.cell 3, c18.cell 4, ?_⟩
    intro p26 w27
    have b26 : Bk w27 p26 (opC y) 57 := Bk.new w20 _ _
    have k27 : Keep no w20 w27 := Keep.alloc _ _ _
    clear_value p26 w27
    refine rw_append E64 (own_keep ho20 k27 fun _ _ h => h) (Rd.blk0 (sz := 5) (n := 1) b26 rfl (by simp [maxLen])) (by simp [one1]) (by omega) (by simp only [maxLen]; omega) (K20.then k27).size fun a30 c30 w29 o29 k29 _ => ?_
    have ei : IntKind.i64.wrap ((at_ : Int) + (k : Int)) = ((at_ + k : Nat) : Int) := by rw [IntWalk.i64_in _ ⟨by omega, by omega⟩]; simp
    rw [ei]
    refine ⟨⟨at_ + k, a30, o2 + 1, c30, ys ++ [y], rfl, by omega, by simp; omega, ?_, (K20.then k27).new k29 fun z hz => (own_ty (q := ⟨o1, o2, o3⟩) ho20 hz).2, ?_⟩, ?_⟩
    · rw [opl_append]; exact o29
    · rw [hsc]; simp [Nat.add_assoc]
    · show n - ((at_ + k : Nat) : Int).toNat < n - (at_ : Int).toNat
      omega
end
end Go.Proofs.Ytmfidfaiopogbaa
/- Two operations are told apart. -/
set_option linter.unusedVariables false
set_option linter.unusedSimpArgs false
set_option linter.unusedSectionVars false
set_option maxRecDepth 8000
namespace Go.Proofs.Ytmfidfaiopogbaa
open Go Go.Sh

def opeq (x y : Op) : Bool := x.k == y.k && (x.e == y.e && (x.u == y.u && (x.v == y.v && x.b == y.b)))
theorem opeq_self (x : Op) : opeq x x = true := by simp [opeq]
theorem opeq_iff (x y : Op) : opeq x y = true ↔ x = y := by
  obtain ⟨a, b, c, d, e⟩ := x
  obtain ⟨a', b', c', d', e'⟩ := y
  simp [opeq]
theorem eqf {w : World} {d : Nat} {xs ys : Array Value} {f : Field} {fs : List Field} {k kk : IntKind} {a b : Int} (hn : f.name ≠ "_") (hu : Try.prog.underlying f.type = some (.int k)) (hx : xs[f.offset]? = some (.int kk a)) (hy : ys[f.offset]? = some (.int kk b)) :
    (Op.eqFields (d + 1) xs ys (f :: fs)).run Try.prog w = bif a == b then (Op.eqFields (d + 1) xs ys fs).run Try.prog w else .ok false w := by
  rw [Op.eqFields]
  rw [if_pos hn]
  have p1 : ∀ (zs : Array Value) (n : Int), zs[f.offset]? = some (.int kk n) → (part f.type zs f.offset).run Try.prog w = .ok (.int kk n) w := by
    intro zs n hz
    simp [part, isAgg, run_underlying hu, hz]
  simp only [Sem.run_bind, p1 _ _ hx, p1 _ _ hy, Result.andThen_ok, run_equalIn_int w d f.type kk k a b hu]
  cases a == b <;> simp
theorem run_opeq (w : World) (x y : Op) : (Op.equalIn 10000 57 (opV x) (opV y)).run Try.prog w = .ok (opeq x y) w := by
  have hp : Try.prog.stoodInHeld 57 = false := by kernel_rfl
  have hF : Try.prog.fieldsOf 57 = #[⟨"Kind", 54, 0, false, "", "", 0⟩, ⟨"E", 3, 1, false, "", "", 8⟩, ⟨"U", 3, 2, false, "", "", 16⟩, ⟨"V", 3, 3, false, "", "", 24⟩, ⟨"Bits", 55, 4, false, "", "", 32⟩] := by
    unfold Program.fieldsOf
    rw [Try.underlying57]
  have ht : Try.prog.underlying 57 = some (.struct (Try.prog.fieldsOf 57)) := by rw [hF]; exact Try.underlying57
  rw [run_equalIn_struct w 9999 57 _ _ ht hp, hF]
  rw [eqf (k := .i64) (kk := .i64) (a := x.k) (b := y.k) (by decide) Try.underlying54 rfl rfl, eqf (k := .i64) (kk := .i64) (a := x.e) (b := y.e) (by decide) Try.underlying3 rfl rfl, eqf (k := .i64) (kk := .i64) (a := x.u) (b := y.u) (by decide) Try.underlying3 rfl rfl,
    eqf (k := .i64) (kk := .i64) (a := x.v) (b := y.v) (by decide) Try.underlying3 rfl rfl, eqf (k := .u32) (kk := .u32) (a := x.b) (b := y.b) (by decide) Try.underlying55 rfl rfl]
  unfold opeq
  cases x.k == y.k <;> cases x.e == y.e <;> cases x.u == y.u <;> cases x.v == y.v <;> cases x.b == y.b <;> rfl
theorem rw_eql {w : World} {x y : Op} {a b : Operand} {K : Bool → Prop} (hK : K (opeq x y)) :
    RunWp Try.prog (do eqGuard .eql 57 a b (opV x) (opV y); binOp .eql 57 (opV x) (opV y)) (fun v w' => w' = w ∧ ∃ t : Bool, v = .bool t ∧ K t) w := by
  have hg : Try.prog.eqGuardType Try.prog.depth 57 = false := by kernel_rfl
  refine RunWp.of (v := .bool (opeq x y)) (w' := w) ?_ ⟨rfl, _, rfl, hK⟩
  rw [Sem.run_bind, run_eqGuard_agg w .eql 57 a b _ _ hg, Result.andThen_ok, run_eql_struct, run_opeq]
  rfl
theorem rw_neq {w : World} {x y : Op} {a b : Operand} {K : Bool → Prop} (hK : K (!opeq x y)) :
    RunWp Try.prog (do eqGuard .neq 57 a b (opV x) (opV y); binOp .neq 57 (opV x) (opV y)) (fun v w' => w' = w ∧ ∃ t : Bool, v = .bool t ∧ K t) w := by
  have hg : Try.prog.eqGuardType Try.prog.depth 57 = false := by kernel_rfl
  refine RunWp.of (v := .bool (!opeq x y)) (w' := w) ?_ ⟨rfl, _, rfl, hK⟩
  rw [Sem.run_bind, run_eqGuard_agg w .neq 57 a b _ _ hg, Result.andThen_ok, run_neq_struct, run_opeq]
  rfl
end Go.Proofs.Ytmfidfaiopogbaa
/- The document's example of records. -/
set_option linter.unusedVariables false
set_option linter.unusedSimpArgs false
set_option linter.unusedSectionVars false
set_option maxRecDepth 8000
namespace Go.Proofs.Ytmfidfaiopogbaa
open Go Go.Sh

theorem enc_ex : enc ⟨1, 0, 0, 300, 0⟩ = some [3, 1, 172, 2, 246] := by
  have h : num 300 = [172, 2] := by rw [num_ge (by omega), num_lt (by omega)]; rfl
  have hb : body ⟨1, 0, 0, 300, 0⟩ ([(3, 0, 2147483647)], false) = [1, 172, 2] := by
    unfold body numsOf
    simp only [List.flatMap_cons, List.flatMap_nil, List.append_nil, cond_false]
    show kb 1 :: num 300 = _
    rw [h]; rfl
  unfold enc
  rw [shp_a (.inl rfl)]
  simp only
  rw [if_pos (by intro f hf; simp at hf; subst hf; exact ⟨by decide, by decide⟩), hb]
  rfl
theorem scan_ex : scan [3, 1, 172, 2, 246, 2, 4, 7, 91, 9] = ([⟨1, 0, 0, 300, 0⟩, ⟨4, 7, 0, 0, 0⟩], 9) := by
  have d1 : dec [3, 1, 172, 2, 246, 2, 4, 7, 91, 9] = some (⟨1, 0, 0, 300, 0⟩, 5) := by rfl
  have d2 : dec [2, 4, 7, 91, 9] = some (⟨4, 7, 0, 0, 0⟩, 4) := by rfl
  have d3 : dec [9] = none := by rfl
  rw [scan_some d1]
  show ((⟨1, 0, 0, 300, 0⟩ : Op) :: (scan [2, 4, 7, 91, 9]).1, 5 + (scan [2, 4, 7, 91, 9]).2) = _
  rw [scan_some d2]
  show ((⟨1, 0, 0, 300, 0⟩ : Op) :: (⟨4, 7, 0, 0, 0⟩ : Op) :: (scan [9]).1, 5 + (4 + (scan [9]).2)) = _
  rw [scan_none d3]
  rfl

section
variable [Av]
theorem awakeR_spec (w : World) : Calls Try.prog 36 #[] w fun e w' => e = .returned (.bool true) ∧ Keep no w w' := by
  refine c36 ?_
  unfold sh36
  refine (Encode_spec w (x := ⟨1, 0, 0, 300, 0⟩) ⟨by decide, by decide, by decide, by decide, by decide⟩).mono ?_
  rintro e w2 ⟨s, c, rfl, k2, hcase⟩
  rw [enc_ex] at hcase
  obtain ⟨rfl, hs⟩ : c = 0 ∧ w2.ownsRow w.heap.size 5 1 s.v s.n (bvs [3, 1, 172, 2, 246]) := by
    rcases hcase with ⟨h, _⟩ | ⟨l, h, h2, h3⟩
    · cases h
    · cases h; exact ⟨h2, h3⟩
  refine ⟨_, _, _, _, rfl, ?_⟩
  have hsn : s.n = 5 := by have := hs.1; simp at this; exact this.symm
  intro p5 w6
  have o6 : w6.ownsRow w2.heap.size 5 1 (.slice (some ⟨p5, 0, none⟩) 0 0) 0 (bvs []) := lit_own w2 5 1 (Nat.le_refl _)
  have k6 : Keep no w2 w6 := Keep.alloc _ _ _
  clear_value p5 w6
  have hs6 : Rd w6 0 1 s.a s.n s.c (bvs [3, 1, 172, 2, 246]) := Rd.own0 (own_no hs k6)
  refine app5 (w := w2) (l := []) (l' := [3, 1, 172, 2, 246]) o6 hs6 (by omega) k6.size (Nat.le_refl _) k6 fun a9 c9 w8 o8 k8 kk8 => ?_
  intro p10 w11
  have b11 : Bk w11 p10 #[.int .u8 2, .int .u8 4, .int .u8 7, .int .u8 91, .int .u8 9] 5 := Bk.new w8 _ _
  have k11 : Keep no w8 w11 := Keep.alloc _ _ _
  clear_value p10 w11
  refine app5 (w := w2) (l := [] ++ [3, 1, 172, 2, 246]) (l' := [2, 4, 7, 91, 9]) (own_no o8 k11) (Rd.blk0 (sz := 1) (n := 5) b11 rfl (by simp [maxLen])) (by omega) (k8.then k11).size (Nat.le_refl _) (k8.then k11) fun a14 c14 w13 o13 k13 kk13 => ?_
  have hR : Rd w13 0 1 a14 (0 + s.n + 5) c14 (bvs [3, 1, 172, 2, 246, 2, 4, 7, 91, 9]) := Rd.own0 o13
  refine (Scan_spec hR (by rw [scan_ex]; simp)).mono ?_
  rintro e w16 ⟨so, rfl, k16, hso, hson⟩
  rw [scan_ex] at hso hson ⊢
  have hs16 : Rd w16 0 1 s.a s.n s.c (bvs [3, 1, 172, 2, 246]) := Rd.own0 (own_no hs (k13.then k16))
  refine ⟨_, _, _, _, rfl, cond_t rfl ?_⟩
  refine rw_str Try.underlying36 Try.underlying5 Try.underlying9 hs16 ?_
  refine cond_t (by simp) (cond_t rfl (cond_t (by rw [hson]; rfl) ?_))
  have hRo : Rd w16 0 5 so.a so.n so.c (opl [⟨1, 0, 0, 300, 0⟩, ⟨4, 7, 0, 0, 0⟩]) := Rd.own0 hso
  have hson2 : so.n = 2 := hson
  obtain ⟨ad, had, hcell⟩ := hRo.cells (by omega)
  refine ⟨ad, had, by omega, by omega, _, _, _, _, _, hcell 5 _ rfl, hcell 6 _ rfl, hcell 7 _ rfl, hcell 8 _ rfl, hcell 9 _ rfl, ?_⟩
  refine rw_eql (x := ⟨4, 7, 0, 0, 0⟩) (y := ⟨4, 7, 0, 0, 0⟩) ?_
  exact ⟨by rw [opeq_self], (k2.then k13).then k16⟩
end
end Go.Proofs.Ytmfidfaiopogbaa
