/- Taking a number from the front of bytes, the program's. -/
import Derived.Test.YtmfidfaiopogbaaShDec2
set_option linter.unusedVariables false
set_option linter.unusedSimpArgs false
set_option linter.unusedSectionVars false
set_option maxRecDepth 4000
namespace Go.Proofs.Ytmfidfaiopogbaa
open Go Go.Sh

theorem tk_cons (i p : Nat) (x : UInt8) (r : Bs) : tk i p (x :: r) = if i < 5 then if x.toNat < 128 then if i = 0 ∨ 0 < x.toNat then some (p + x.toNat * 128 ^ i, r) else none else tk (i + 1) (p + (x.toNat % 128) * 128 ^ i) r else none := by
  rw [tk]
theorem and127 (x : UInt8) : (BitVec.ofInt 8 (x.toNat : Int) &&& BitVec.ofInt 8 127).toNat = x.toNat % 128 := by
  have key : ∀ y : Fin 256, (BitVec.ofInt 8 ((y.val : Nat) : Int) &&& BitVec.ofInt 8 127).toNat = y.val % 128 := by decide
  exact key ⟨x.toNat, x.toNat_lt⟩
theorem or_add {p k : Nat} (q : Nat) (h : p < 2 ^ k) : p ||| (q * 2 ^ k) = p + q * 2 ^ k := by
  rw [Nat.or_comm, ← Nat.shiftLeft_eq, ← Nat.shiftLeft_add_eq_or_of_lt h, Nat.shiftLeft_eq]; omega
theorem pow128 (i : Nat) : 128 ^ i = 2 ^ (7 * i) := by rw [Nat.pow_mul]
theorem or_step {p i : Nat} (x : UInt8) (hi : i < 5) (hp : p < 128 ^ i) :
    IntKind.i64.wrap ((((BitVec.ofInt 64 (p : Int)) ||| (BitVec.ofInt 64 (IntKind.i64.wrap ((IntKind.i64.wrap (IntKind.u8.wrap ((((BitVec.ofInt 8 (x.toNat : Int)) &&& (BitVec.ofInt 8 (127 : Int))).toNat : Int)))) * 2 ^ (min (IntKind.i64.wrap ((7 : Int) * (i : Int))).toNat 64))))).toNat : Int)) =
      ((p + (x.toNat % 128) * 128 ^ i : Nat) : Int) := by
  have h1 : IntKind.i64.wrap ((7 : Int) * (i : Int)) = ((7 * i : Nat) : Int) := by rw [IntWalk.i64_in _ ⟨by omega, by omega⟩]; simp
  have h2 : min (7 * i) 64 = 7 * i := by omega
  have hpow : (128 : Nat) ^ i ≤ 268435456 := by
    have := Nat.pow_le_pow_right (show 0 < 128 by omega) (show i ≤ 4 by omega)
    omega
  have hq : (x.toNat % 128) * 128 ^ i ≤ 127 * 268435456 := Nat.mul_le_mul (by omega) hpow
  have h5 : IntKind.i64.wrap ((x.toNat % 128 : Nat) : Int) = ((x.toNat % 128 : Nat) : Int) := IntWalk.i64_in _ ⟨by omega, by omega⟩
  rw [h1, Int.toNat_natCast, h2, and127, u8_nat _ (by omega), h5]
  have h3 : ((x.toNat % 128 : Nat) : Int) * 2 ^ (7 * i) = (((x.toNat % 128) * 128 ^ i : Nat) : Int) := by
    rw [pow128]; simp
  have h6 : IntKind.i64.wrap (((x.toNat % 128) * 128 ^ i : Nat) : Int) = (((x.toNat % 128) * 128 ^ i : Nat) : Int) := IntWalk.i64_in _ ⟨by omega, by omega⟩
  rw [h3, h6, BitVec.ofInt_natCast, BitVec.ofInt_natCast, BitVec.toNat_or, BitVec.toNat_ofNat, BitVec.toNat_ofNat,
    Nat.mod_eq_of_lt (show p < 2 ^ 64 by omega), Nat.mod_eq_of_lt (show (x.toNat % 128) * 128 ^ i < 2 ^ 64 by omega)]
  have h4 : p ||| (x.toNat % 128) * 128 ^ i = p + (x.toNat % 128) * 128 ^ i := by
    rw [pow128] at hp ⊢
    exact or_add _ hp
  rw [h4, IntWalk.i64_in _ ⟨by omega, by omega⟩]

section
variable [Av]
theorem rd_at {w : World} {e n c : Nat} {a : Option Addr} {l : Bs} (h : Rd w e 1 a n c (bvs l)) {i : Nat} (hi : i < l.length) : ∃ q, a = some q ∧ w.cell? (q.add (i * 1)) = some (.int .u8 (l[i].toNat : Int)) := by
  have hn : n = l.length := by have := h.1; simp at this; exact this.symm
  obtain ⟨q, hq, hc⟩ := h.at_ (i := i) (by omega)
  obtain ⟨u, hu, hcu⟩ := hc 0 (by omega)
  rw [Nat.mul_one, Nat.add_zero] at hu
  simp only [bvs, List.getElem?_map, List.getElem?_eq_getElem hi, Option.map_some, Option.some.injEq] at hu
  subst hu
  rw [addZ] at hcu
  exact ⟨q, hq, hcu⟩
theorem Rd.dropB {w : World} {e : Nat} {a : Option Addr} {n c : Nat} {l : Bs} (h : Rd w e 1 a n c (bvs l)) {r : Nat} (hr : r ≤ n) : Rd w e 1 (subS a c r 1) (n - r) (c - r) (bvs (l.drop r)) := by
  have := Rd.sub h hr (Nat.le_refl n)
  have hn : n = l.length := by have := h.1; simp at this; exact this.symm
  have e2 : List.take ((n - r) * 1) (List.drop (r * 1) (bvs l)) = bvs (l.drop r) := by
    rw [Nat.mul_one, Nat.mul_one, List.take_of_length_le (by simp [hn])]
    simp [bvs, List.map_drop]
  rw [e2] at this
  exact this

theorem subS_ob {a : Option Addr} {c r sz y : Nat} (h : OB (subS a c r sz) y) : OB a y := by
  obtain ⟨q, hq, rfl⟩ := h
  unfold subS at hq
  split at hq
  · exact ⟨q, hq, rfl⟩
  · cases a with
    | none => cases hq
    | some z => cases hq; exact ⟨z, rfl, by unfold Addr.add; split <;> rfl⟩
theorem Take_spec {w : World} {e2 : Nat} {a : Option Addr} {n c : Nat} {l : Bs} (h : Rd w e2 1 a n c (bvs l)) :
    Calls Try.prog 100 #[.slice a n c] w fun e w' => ∃ (m : Int) (s : Sv) (b : Bool), e = .returned (.tuple #[.int .i64 m, s.v, .bool b]) ∧ Keep no w w' ∧
      ((tk 0 0 l = none ∧ b = false) ∨ ∃ q r, tk 0 0 l = some (q, r) ∧ b = true ∧ m = (q : Nat) ∧ Rd w' e2 1 s.a s.n s.c (bvs r) ∧ ∀ y, OB s.a y → OB a y) := by
  have hn : n = l.length := by have := h.1; simp at this; exact this.symm
  refine c100 ?_
  unfold sh100
  refine ⟨fun vs v => ∃ (i p : Nat), vs = [.int .i64 p, .int .i64 0, .slice none 0 0, .bool false, .int .i64 i] ∧ i ≤ 5 ∧ i ≤ n ∧ p < 128 ^ i ∧ tk 0 0 l = tk i p (l.drop i) ∧ v = w,
    fun vs v => match vs with | [_, _, _, _, .int _ i] => 5 - i.toNat | _ => 0, ⟨0, 0, rfl, by omega, by omega, by simp, rfl, rfl⟩, ?_⟩
  rintro w7 n2 n3 a4 l4 c4 b5 i6 ⟨i, p, hv, hi5, hin, hp, htk, rfl⟩
  cases hv
  intro K15
  have stop : ∀ x b11 b12, (i = n ∨ i = 5) → K15 x b11 b12 false w7 := by
    intro x b11 b12 hc
    refine cond_f rfl ?_
    refine ⟨0, ⟨none, 0, 0⟩, false, rfl, Keep.refl _ _, .inl ⟨?_, rfl⟩⟩
    rw [htk]
    rcases hc with hc | hc
    · rw [List.drop_of_length_le (by omega)]; rfl
    · subst hc
      cases hd : l.drop 5 with
      | nil => rfl
      | cons x r => unfold tk; rw [if_neg (by omega)]
  have go : ∀ x b11 b12, i < n → i < 5 → K15 x b11 b12 true w7 := by
    intro x0 b11 b12 hil hi5'
    have hi' : i < l.length := by omega
    refine cond_t rfl ?_
    obtain ⟨q, hq, hc⟩ := rd_at h hi'
    have hdr : l.drop i = l[i] :: l.drop (i + 1) := List.drop_eq_getElem_cons hi'
    generalize l[i] = x at hc hdr
    have hx := x.toNat_lt
    have hm := h.2.2.1
    have hcn := h.2.1
    simp only [maxLen] at hm
    have ei : IntKind.i64.wrap ((i : Int) + 1) = ((i + 1 : Nat) : Int) := by rw [IntWalk.i64_in _ ⟨by omega, by omega⟩]; rfl
    refine ⟨q, hq, by omega, by omega, _, by rw [Int.toNat_natCast]; exact hc, by rw [IntWalk.i64_in _ ⟨by omega, by omega⟩]; omega, q, hq, by omega, by omega, _, by rw [Int.toNat_natCast]; exact hc, ?_⟩
    rw [or_step x hi5' hp, ei]
    rw [hdr] at htk
    rw [tk_cons, if_pos hi5'] at htk
    refine cond_d (fun hlt => ?_) (fun hge => ?_)
    · rw [if_pos (by omega)] at htk
      have hmod : x.toNat % 128 = x.toNat := by omega
      rw [hmod]
      intro w20
      have k20 : Keep no w7 w20 := Keep.drew _ _
      have hr20 : Rd w20 e2 1 (subS a c (i + 1) 1) (n - (i + 1)) (c - (i + 1)) (bvs (l.drop (i + 1))) := Rd.dropB (h.no k20) (by omega)
      clear_value w20
      rw [Int.toNat_natCast]
      refine ⟨by omega, by omega, ?_⟩
      refine cond_i (fun h0 => ?_) (fun h0 => ?_)
      · have h0' : i = 0 := by simpa using h0
        rw [if_pos (.inl h0')] at htk
        exact ⟨_, ⟨subS a c (i + 1) 1, n - (i + 1), c - (i + 1)⟩, _, rfl, k20, .inr ⟨_, _, htk, rfl, rfl, hr20, fun y hy => subS_ob hy⟩⟩
      · have h0' : ¬ i = 0 := by simpa using h0
        refine ⟨q, hq, by omega, by omega, _, by rw [Int.toNat_natCast]; exact cell_no k20 hc, ?_⟩
        by_cases hx0 : 0 < x.toNat
        · rw [if_pos (.inr hx0)] at htk
          refine ⟨_, ⟨subS a c (i + 1) 1, n - (i + 1), c - (i + 1)⟩, _, rfl, k20, .inr ⟨_, _, htk, ?_, rfl, hr20, fun y hy => subS_ob hy⟩⟩
          simp; omega
        · rw [if_neg (by omega)] at htk
          refine ⟨_, ⟨subS a c (i + 1) 1, n - (i + 1), c - (i + 1)⟩, _, rfl, k20, .inl ⟨htk, ?_⟩⟩
          simp; omega
    · rw [if_neg (by omega)] at htk
      refine ⟨⟨i + 1, _, rfl, by omega, by omega, ?_, htk, rfl⟩, ?_⟩
      · rw [Nat.pow_succ]
        have : (x.toNat % 128) * 128 ^ i ≤ 127 * 128 ^ i := Nat.mul_le_mul_right _ (by omega)
        generalize (x.toNat % 128) * 128 ^ i = z at *
        generalize 128 ^ i = y at *
        omega
      · show 5 - ((i + 1 : Nat) : Int).toNat < 5 - (i : Int).toNat
        omega
  clear_value K15
  refine cond_d (fun hlt => ?_) (fun hge => stop _ _ _ (.inl (by omega)))
  by_cases h5 : i = 5
  · rw [decide_eq_false (show ¬ ((i : Int) < 5) by omega)]; exact stop _ _ _ (.inr h5)
  · rw [decide_eq_true (show (i : Int) < 5 by omega)]; exact go _ _ _ (by omega) (by omega)
end
end Go.Proofs.Ytmfidfaiopogbaa
