/- Taking a number, and an operation, from the front of bytes. -/
import Derived.Test.YtmfidfaiopogbaaShRec5
set_option linter.unusedVariables false
set_option linter.unusedSimpArgs false
set_option linter.unusedSectionVars false
set_option maxRecDepth 4000
namespace Go.Proofs.Ytmfidfaiopogbaa
open Go Go.Sh

/-- A number from the i-th of its bytes on; p is what the bytes ahead said. -/
def tk : Nat → Nat → Bs → Option (Nat × Bs)
  | _, _, [] => none
  | i, p, x :: r => if i < 5 then if x.toNat < 128 then if i = 0 ∨ 0 < x.toNat then some (p + x.toNat * 128 ^ i, r) else none else tk (i + 1) (p + (x.toNat % 128) * 128 ^ i) r else none

theorem tk_some : ∀ {l : Bs} {i p m : Nat} {r : Bs}, tk i p l = some (m, r) → ∃ q, m = p + q * 128 ^ i ∧ l = num q ++ r ∧ (i = 0 ∨ 0 < q) ∧ q < 128 ^ (5 - i)
  | [], i, p, m, r, h => by simp [tk] at h
  | x :: l, i, p, m, r, h => by
    unfold tk at h
    split at h
    · rename_i h5
      split at h
      · rename_i hx
        split at h
        · rename_i h0
          cases h
          refine ⟨x.toNat, rfl, ?_, h0, ?_⟩
          · rw [num_lt hx]; simp
          · have h1 : 128 ^ 1 ≤ 128 ^ (5 - i) := Nat.pow_le_pow_right (by omega) (by omega)
            omega
        · cases h
      · rename_i hx
        obtain ⟨q, hm, hl, hq, hq5⟩ := tk_some h
        have hq0 : 0 < q := hq.resolve_left (by omega)
        have hx2 := x.toNat_lt
        refine ⟨x.toNat % 128 + 128 * q, ?_, ?_, .inr (by omega), ?_⟩
        · rw [hm, Nat.pow_succ, Nat.add_mul, Nat.add_assoc]
          congr 2
          rw [Nat.mul_comm (128 ^ i) 128, ← Nat.mul_assoc, Nat.mul_comm q 128]
        · rw [num_ge (by omega), hl]
          have e1 : (x.toNat % 128 + 128 * q) / 128 = q := by omega
          have e2 : (x.toNat % 128 + 128 * q) % 128 + 128 = x.toNat := by omega
          rw [e1, e2]
          simp
        · have e : 5 - i = (5 - (i + 1)) + 1 := by omega
          rw [e, Nat.pow_succ]
          generalize 128 ^ (5 - (i + 1)) = z at *
          omega
    · cases h
theorem tk_num : ∀ (q : Nat) {i p : Nat} {r : Bs}, i < 5 → (i = 0 ∨ 0 < q) → q < 128 ^ (5 - i) → tk i p (num q ++ r) = some (p + q * 128 ^ i, r) := by
  intro q
  induction q using Nat.strongRecOn with
  | _ q ih =>
    intro i p r hi h0 hq
    have hu : ∀ m : Nat, m < 256 → (UInt8.ofNat m).toNat = m := fun m hm => by rw [UInt8.toNat_ofNat']; omega
    by_cases h : q < 128
    · rw [num_lt h]
      show tk i p (UInt8.ofNat q :: r) = _
      unfold tk
      rw [if_pos hi, hu q (by omega), if_pos h, if_pos h0]
    · rw [num_ge h]
      show tk i p (UInt8.ofNat (q % 128 + 128) :: (num (q / 128) ++ r)) = _
      unfold tk
      have hi4 : i + 1 < 5 := by
        rcases Nat.lt_or_ge (i + 1) 5 with h' | h'
        · exact h'
        · have : i = 4 := by omega
          subst this
          simp at hq; omega
      have e : 5 - i = (5 - (i + 1)) + 1 := by omega
      rw [if_pos hi, hu _ (by omega), if_neg (by omega), ih (q / 128) (by omega) hi4 (.inr (by omega)) (by
        rw [e, Nat.pow_succ] at hq
        generalize 128 ^ (5 - (i + 1)) = z at *
        omega)]
      congr 2
      rw [Nat.pow_succ, Nat.add_assoc]
      congr 1
      have e2 : (q % 128 + 128) % 128 = q % 128 := by omega
      rw [e2, Nat.mul_comm (128 ^ i) 128, ← Nat.mul_assoc, ← Nat.add_mul]
      congr 1
      omega

/-! ### An operation -/
def Op.put (x : Op) : Nat → Int → Op
  | 1, n => { x with e := n }
  | 2, n => { x with u := n }
  | _, n => { x with v := n }
/-- The numbers of a kind, from the front. -/
def decF : List (Nat × Int × Int) → Bs → Op → Option (Op × Bs)
  | [], r, y => some (y, r)
  | f :: fs, r, y =>
    match tk 0 0 r with
    | none => none
    | some (m, r') => if f.2.1 ≤ (m : Int) ∧ (m : Int) ≤ f.2.2 then decF fs r' (y.put f.1 m) else none
def unbits (r : Bs) : Int := ((r.getD 0 0).toNat + 256 * (r.getD 1 0).toNat + 65536 * (r.getD 2 0).toNat + 16777216 * (r.getD 3 0).toNat : Nat)
def decB (bt : Bool) (r : Bs) (y : Op) : Option Op :=
  bif bt then if r.length = 4 then some { y with b := unbits r } else none else if r = [] then some y else none
/-- The operation that the bytes begin with, and how many bytes it has. -/
def dec (b : Bs) : Option (Op × Nat) :=
  if b.length < 3 ∨ b.length < (b.getD 0 0).toNat + 2 ∨ (b.getD 0 0).toNat + 2 < 3 then none
  else if chk (b.take ((b.getD 0 0).toNat + 1)) ≠ b.getD ((b.getD 0 0).toNat + 1) 0 then none
  else
    match shp (b.getD 1 0).toNat with
    | none => none
    | some s =>
      match decF s.1 ((b.take ((b.getD 0 0).toNat + 1)).drop 2) ⟨(b.getD 1 0).toNat, 0, 0, 0, 0⟩ with
      | none => none
      | some (y, r) => (decB s.2 r y).map fun z => (z, (b.getD 0 0).toNat + 2)
theorem bits4_un {r : Bs} (h : r.length = 4) : bits4 (unbits r).toNat = r ∧ 0 ≤ unbits r ∧ unbits r < 4294967296 := by
  obtain ⟨a, b, c, d, rfl⟩ : ∃ a b c d, r = [a, b, c, d] := by
    match r, h with
    | [a, b, c, d], _ => exact ⟨a, b, c, d, rfl⟩
  have ha := a.toNat_lt; have hb := b.toNat_lt; have hc := c.toNat_lt; have hd := d.toNat_lt
  have e : unbits [a, b, c, d] = ((a.toNat + 256 * b.toNat + 65536 * c.toNat + 16777216 * d.toNat : Nat) : Int) := rfl
  rw [e]
  refine ⟨?_, by omega, by omega⟩
  have e0 : (a.toNat + 256 * b.toNat + 65536 * c.toNat + 16777216 * d.toNat) % 256 = a.toNat := by omega
  have e1 : (a.toNat + 256 * b.toNat + 65536 * c.toNat + 16777216 * d.toNat) / 256 % 256 = b.toNat := by omega
  have e2 : (a.toNat + 256 * b.toNat + 65536 * c.toNat + 16777216 * d.toNat) / 65536 % 256 = c.toNat := by omega
  have e3 : (a.toNat + 256 * b.toNat + 65536 * c.toNat + 16777216 * d.toNat) / 16777216 % 256 = d.toNat := by omega
  unfold bits4
  rw [Int.toNat_natCast, e0, e1, e2, e3]
  simp
theorem un_bits4 {b : Int} (h0 : 0 ≤ b) (h1 : b < 4294967296) : unbits (bits4 b.toNat) = b := by
  obtain ⟨n, rfl⟩ := Int.eq_ofNat_of_zero_le h0
  have hu : ∀ m : Nat, m < 256 → (UInt8.ofNat m).toNat = m := fun m hm => by rw [UInt8.toNat_ofNat']; omega
  show (((UInt8.ofNat (n % 256)).toNat + 256 * (UInt8.ofNat (n / 256 % 256)).toNat + 65536 * (UInt8.ofNat (n / 65536 % 256)).toNat + 16777216 * (UInt8.ofNat (n / 16777216 % 256)).toNat : Nat) : Int) = _
  rw [hu _ (by omega), hu _ (by omega), hu _ (by omega), hu _ (by omega)]
  omega
end Go.Proofs.Ytmfidfaiopogbaa
