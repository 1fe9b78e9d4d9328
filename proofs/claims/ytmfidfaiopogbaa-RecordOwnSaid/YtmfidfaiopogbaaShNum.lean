/- What the reference takes bytes to say. -/
import Derived.Test.YtmfidfaiopogbaaShSame
set_option linter.unusedVariables false
set_option linter.unusedSimpArgs false
set_option linter.unusedSectionVars false
set_option maxRecDepth 4000
namespace Go.Proofs.Ytmfidfaiopogbaa
open Go Go.Sh

def nb : Nat → Nat → Bs → Option (Nat × Nat)
  | _, _, [] => none
  | i, p, x :: r => if i < 5 then if x.toNat < 128 then some (p + x.toNat * 128 ^ i, i + 1) else nb (i + 1) (p + (x.toNat % 128) * 128 ^ i) r else none
theorem nb_cons (i p : Nat) (x : UInt8) (r : Bs) : nb i p (x :: r) = if i < 5 then if x.toNat < 128 then some (p + x.toNat * 128 ^ i, i + 1) else nb (i + 1) (p + (x.toNat % 128) * 128 ^ i) r else none := by rw [nb]
theorem nb_num : ∀ (q : Nat) {i p : Nat} {r : Bs}, i < 5 → q < 128 ^ (5 - i) → nb i p (num q ++ r) = some (p + q * 128 ^ i, i + (num q).length) := by
  intro q
  induction q using Nat.strongRecOn with
  | _ q ih =>
    intro i p r hi hq
    have hu : ∀ m : Nat, m < 256 → (UInt8.ofNat m).toNat = m := fun m hm => by rw [UInt8.toNat_ofNat']; omega
    by_cases h : q < 128
    · rw [num_lt h]
      show nb i p (UInt8.ofNat q :: r) = _
      rw [nb_cons, if_pos hi, hu q (by omega), if_pos h]; rfl
    · rw [num_ge h]
      show nb i p (UInt8.ofNat (q % 128 + 128) :: (num (q / 128) ++ r)) = _
      have hi4 : i + 1 < 5 := by
        rcases Nat.lt_or_ge (i + 1) 5 with h' | h'
        · exact h'
        · have : i = 4 := by omega
          subst this
          simp at hq; omega
      have e : 5 - i = (5 - (i + 1)) + 1 := by omega
      rw [nb_cons, if_pos hi, hu _ (by omega), if_neg (by omega), ih (q / 128) (by omega) hi4 (by
        rw [e, Nat.pow_succ] at hq
        generalize 128 ^ (5 - (i + 1)) = z at *
        omega)]
      simp only [Option.some.injEq, Prod.mk.injEq, List.length_cons]
      refine ⟨?_, by omega⟩
      rw [Nat.pow_succ, Nat.add_assoc]
      congr 1
      have e2 : (q % 128 + 128) % 128 = q % 128 := by omega
      rw [e2, Nat.mul_comm (128 ^ i) 128, ← Nat.mul_assoc, ← Nat.add_mul]
      congr 1
      omega
section
variable [Av]
theorem number_spec {w : World} {e2 : Nat} {a : Option Addr} {n c : Nat} {l : Bs} (h : Rd w e2 1 a n c (bvs l)) {at_ : Nat} (hat : at_ ≤ n) (hn5 : n ≤ 9223372036854775800) :
    Calls Try.prog 101 #[.slice a n c, .int .i64 at_] w fun e w' => ∃ m j : Nat, e = .returned (.tuple #[.int .i64 m, .int .i64 j]) ∧ w' = w ∧ j ≤ n ∧ m < 34359738368 ∧
      (∀ q r, l.drop at_ = num q ++ r → q < 34359738368 → m = q ∧ j = at_ + (num q).length) := by
  have hn : n = l.length := by have := h.1; simp at this; exact this.symm
  have hcn := h.2.1
  have hcm := h.2.2.1
  simp only [maxLen] at hcm
  refine c101 ?_
  unfold sh101
  refine ⟨fun vs v => ∃ (i p : Nat), vs = [.int .i64 p, .int .i64 (128 ^ i : Nat), .int .i64 0, .int .i64 0, .int .i64 (at_ + i : Nat)] ∧ i ≤ 5 ∧ at_ + i ≤ n ∧ p < 128 ^ i ∧ nb 0 0 (l.drop at_) = nb i p (l.drop (at_ + i)) ∧ v = w,
    fun vs v => match vs with | [_, _, _, _, .int _ i] => n - i.toNat | _ => 0, ⟨0, 0, rfl, by omega, by omega, by simp, rfl, rfl⟩, ?_⟩
  rintro w8 n3 sc4 n5 n6 i7 ⟨i, p, hv, hi5, hin, hp, hnb, rfl⟩
  cases hv
  intro K16
  have hno : nb 0 0 (l.drop at_) = none → ∀ q r, l.drop at_ = num q ++ r → q < 34359738368 → False := by
    intro hno q r hq hq5
    rw [hq, nb_num q (by omega) (by simpa using hq5)] at hno; cases hno
  have stop : ∀ x b12 b13, (at_ + i = n ∨ i = 5) → K16 x b12 b13 false w8 := by
    intro x b12 b13 hc
    refine cond_f rfl ?_
    have h0 : nb 0 0 (l.drop at_) = none := by
      rw [hnb]
      rcases hc with hc | hc
      · rw [List.drop_of_length_le (by omega)]; rfl
      · subst hc
        cases hd : l.drop (at_ + 5) with
        | nil => rfl
        | cons x r => rw [nb_cons, if_neg (by omega)]
    exact ⟨0, n, rfl, rfl, by omega, by omega, fun q r hq hq5 => (hno h0 q r hq hq5).elim⟩
  have go : ∀ x b12 b13, at_ + i < n → i < 5 → K16 x b12 b13 true w8 := by
    intro x0 b12 b13 hil hi5'
    have hi' : at_ + i < l.length := by omega
    refine cond_t rfl ?_
    obtain ⟨q, hq, hc⟩ := rd_at h hi'
    have hdr : l.drop (at_ + i) = l[at_ + i] :: l.drop (at_ + i + 1) := List.drop_eq_getElem_cons hi'
    generalize l[at_ + i] = x at hc hdr
    have hx := x.toNat_lt
    have hpow : (128 : Nat) ^ i ≤ 268435456 := by
      have := Nat.pow_le_pow_right (show 0 < 128 by omega) (show i ≤ 4 by omega)
      omega
    have hqm : (x.toNat % 128) * 128 ^ i ≤ 127 * 268435456 := Nat.mul_le_mul (by omega) hpow
    have hqm2 : (x.toNat % 128) * 128 ^ i ≤ 127 * 128 ^ i := Nat.mul_le_mul_right _ (by omega)
    have ei : IntKind.i64.wrap (((at_ + i : Nat) : Int) + 1) = ((at_ + (i + 1) : Nat) : Int) := by rw [IntWalk.i64_in _ ⟨by omega, by omega⟩]; omega
    have en : IntKind.i64.wrap ((p : Int) + IntKind.i64.wrap ((Int.tmod (IntKind.i64.wrap (x.toNat : Int)) (128 : Int)) * ((128 ^ i : Nat) : Int))) = ((p + (x.toNat % 128) * 128 ^ i : Nat) : Int) := by
      have h1 : IntKind.i64.wrap (x.toNat : Int) = (x.toNat : Int) := IntWalk.i64_in _ ⟨by omega, by omega⟩
      rw [h1, Int.tmod_eq_emod_of_nonneg (by omega), show (x.toNat : Int) % 128 = ((x.toNat % 128 : Nat) : Int) from rfl, ← Int.natCast_mul]
      have h2 : IntKind.i64.wrap (((x.toNat % 128) * 128 ^ i : Nat) : Int) = (((x.toNat % 128) * 128 ^ i : Nat) : Int) := IntWalk.i64_in _ ⟨by omega, by omega⟩
      rw [h2, ← Int.natCast_add]
      exact IntWalk.i64_in _ ⟨by omega, by omega⟩
    refine ⟨q, hq, by omega, by omega, _, by rw [Int.toNat_natCast]; exact hc, by omega, q, hq, by omega, by omega, _, by rw [Int.toNat_natCast]; exact hc, ?_⟩
    rw [en, ei]
    rw [hdr, nb_cons, if_pos hi5'] at hnb
    have hpm : p + (x.toNat % 128) * 128 ^ i < 128 ^ (i + 1) := by
      rw [Nat.pow_succ]
      generalize (x.toNat % 128) * 128 ^ i = z at *
      generalize 128 ^ i = y at *
      omega
    refine cond_d (fun hlt => ?_) (fun hge => ?_)
    · rw [if_pos (by omega)] at hnb
      have hmod : x.toNat % 128 = x.toNat := by omega
      rw [hmod] at hpm ⊢
      have h5 : (128 : Nat) ^ (i + 1) ≤ 34359738368 := by
        have := Nat.pow_le_pow_right (show 0 < 128 by omega) (show i + 1 ≤ 5 by omega)
        omega
      refine ⟨_, _, rfl, rfl, by omega, by omega, fun q' r hq' hq5 => ?_⟩
      rw [hq', nb_num q' (by omega) (by simpa using hq5)] at hnb
      simp only [Option.some.injEq, Prod.mk.injEq, Nat.pow_zero, Nat.mul_one, Nat.zero_add] at hnb
      exact ⟨hnb.1.symm, by omega⟩
    · rw [if_neg (by omega)] at hnb
      have es : IntKind.i64.wrap ((128 : Int) * ((128 ^ i : Nat) : Int)) = ((128 ^ (i + 1) : Nat) : Int) := by
        have : (128 : Int) * ((128 ^ i : Nat) : Int) = ((128 ^ (i + 1) : Nat) : Int) := by rw [Nat.pow_succ, Nat.mul_comm]; simp
        rw [this]
        have := Nat.pow_le_pow_right (show 0 < 128 by omega) (show i + 1 ≤ 5 by omega)
        exact IntWalk.i64_in _ ⟨by omega, by omega⟩
      rw [es]
      refine ⟨⟨i + 1, _, rfl, by omega, by omega, hpm, by rw [hnb, Nat.add_assoc], rfl⟩, ?_⟩
      show n - ((at_ + (i + 1) : Nat) : Int).toNat < n - ((at_ + i : Nat) : Int).toNat
      omega
  clear_value K16
  refine cond_d (fun hlt => ?_) (fun hge => stop _ _ _ (.inl (by omega)))
  rw [IntWalk.i64_in _ ⟨by omega, by omega⟩]
  by_cases h5 : i = 5
  · rw [decide_eq_false (show ¬ (((at_ + i : Nat) : Int) < (at_ : Int) + 5) by omega)]; exact stop _ _ _ (.inr h5)
  · rw [decide_eq_true (show ((at_ + i : Nat) : Int) < (at_ : Int) + 5 by omega)]; exact go _ _ _ (by omega) (by omega)
end
end Go.Proofs.Ytmfidfaiopogbaa
