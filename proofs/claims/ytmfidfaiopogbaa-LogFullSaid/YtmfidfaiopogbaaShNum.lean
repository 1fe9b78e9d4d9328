/- What the reference takes bytes to say. -/
import Derived.Test.YtmfidfaiopogbaaShDec
set_option linter.unusedVariables false
set_option linter.unusedSimpArgs false
set_option linter.unusedSectionVars false
set_option maxRecDepth 4000
namespace Go.Proofs.Ytmfidfaiopogbaa
open Go Go.Sh

def nb : Nat → Nat → Bs → Option (Nat × Nat)
  | _, _, [] => none
  | i, p, x :: r => if i < 5 then if x.toNat < 128 then some (p + x.toNat * 128 ^ i, i + 1) else nb (i + 1) (p + (x.toNat % 128) * 128 ^ i) r else none
theorem nb_cons (i p : Nat) (x : UInt8) (r : Bs) : nb i p (x :: r) = if i < 5 then if x.toNat < 128 then some (p + x.toNat * 128 ^ i, i + 1) else nb (i + 1) (p + (x.toNat % 128) * 128 ^ i) r else none := by rw [nb]
theorem nb_num : ∀ (q : Nat) {i p : Nat} {r : Bs}, i < 5 → q < 128 ^ (5 - i) → nb i p (num q ++ r) = some (p + q * 128 ^ i, i + (num q).length) := by
  intro q
  induction q using Nat.strongRecOn with
  | _ q ih =>
    intro i p r hi hq
    have hu : ∀ m : Nat, m < 256 → (UInt8.ofNat m).toNat = m := fun m hm => by rw [UInt8.toNat_ofNat']; omega
    by_cases h : q < 128
    · rw [num_lt h]
      show nb i p (UInt8.ofNat q :: r) = _
      rw [nb_cons, if_pos hi, hu q (by omega), if_pos h]; rfl
    · rw [num_ge h]
      show nb i p (UInt8.ofNat (q % 128 + 128) :: (num (q / 128) ++ r)) = _
      have hi4 : i + 1 < 5 := by
        rcases Nat.lt_or_ge (i + 1) 5 with h' | h'
        · exact h'
        · have : i = 4 := by omega
          subst this
          simp at hq; omega
      have e : 5 - i = (5 - (i + 1)) + 1 := by omega
      rw [nb_cons, if_pos hi, hu _ (by omega), if_neg (by omega), ih (q / 128) (by omega) hi4 (by
        rw [e, Nat.pow_succ] at hq
        generalize 128 ^ (5 - (i + 1)) = z at *
        omega)]
      simp only [Option.some.injEq, Prod.mk.injEq, List.length_cons]
      refine ⟨?_, by omega⟩
      rw [Nat.pow_succ, Nat.add_assoc]
      congr 1
      have e2 : (q % 128 + 128) % 128 = q % 128 := by omega
      rw [e2, Nat.mul_comm (128 ^ i) 128, ← Nat.mul_assoc, ← Nat.add_mul]
      congr 1
      omega
section
variable [Av]
theorem number_spec {w : World} {e2 : Nat} {a : Option Addr} {n c : Nat} {l : Bs} (h : Rd w e2 1 a n c (bvs l)) {at_ : Nat} (hat : at_ ≤ n) (hn5 : n ≤ 9223372036854775800) :
    Calls Try.prog 101 #[.slice a n c, .int .i64 at_] w fun e w' => ∃ m j : Nat, e = .returned (.tuple #[.int .i64 m, .int .i64 j]) ∧ w' = w ∧ j ≤ n ∧ m < 34359738368 ∧
      (∀ q r, l.drop at_ = num q ++ r → q < 34359738368 → m = q ∧ j = at_ + (num q).length) := by
  have hn : n = l.length := by have := h.1; simp at this; exact this.symm
  have hcn := h.2.1
  have hcm := h.2.2.1
  simp only [maxLen] at hcm
  refine c101 ?_
  unfold sh101
  refine ⟨fun vs v => ∃ (i p : Nat), vs = [.int .i64 p, .int .i64 (128 ^ i : Nat), .int .i64 0, .int .i64 0, .int .i64 (at_ + i : Nat)] ∧ i ≤ 5 ∧ at_ + i ≤ n ∧ p < 128 ^ i ∧ nb 0 0 (l.drop at_) = nb i p (l.drop (at_ + i)) ∧ v = w,
    fun vs v => match vs with | [_, _, _, _, .int _ i] => n - i.toNat | _ => 0, ⟨0, 0, rfl, by omega, by omega, by simp, rfl, rfl⟩, ?_⟩
  rintro w8 n3 sc4 n5 n6 i7 ⟨i, p, hv, hi5, hin, hp, hnb, rfl⟩
  cases hv
  intro K16
  have hno : nb 0 0 (l.drop at_) = none → ∀ q r, l.drop at_ = num q ++ r → q < 34359738368 → False := by
    intro hno q r hq hq5
    rw [hq, nb_num q (by omega) (by simpa using hq5)] at hno; cases hno
  have stop : ∀ x b12 b13, (at_ + i = n ∨ i = 5) → K16 x b12 b13 false w8 := by
    intro x b12 b13 hc
    refine cond_f rfl ?_
    have h0 : nb 0 0 (l.drop at_) = none := by
      rw [hnb]
      rcases hc with hc | hc
      · rw [List.drop_of_length_le (by omega)]; rfl
      · subst hc
        cases hd : l.drop (at_ + 5) with
        | nil => rfl
        | cons x r => rw [nb_cons, if_neg (by omega)]
    exact ⟨0, n, rfl, rfl, by omega, by omega, fun q r hq hq5 => (hno h0 q r hq hq5).elim⟩
  have go : ∀ x b12 b13, at_ + i < n → i < 5 → K16 x b12 b13 true w8 := by
    intro x0 b12 b13 hil hi5'
    have hi' : at_ + i < l.length := by omega
    refine cond_t rfl ?_
    obtain ⟨q, hq, hc⟩ := rd_at h hi'
    have hdr : l.drop (at_ + i) = l[at_ + i] :: l.drop (at_ + i + 1) := List.drop_eq_getElem_cons hi'
    generalize l[at_ + i] = x at hc hdr
    have hx := x.toNat_lt
    have hpow : (128 : Nat) ^ i ≤ 268435456 := by
      have := Nat.pow_le_pow_right (show 0 < 128 by omega) (show i ≤ 4 by omega)
      omega
    have hqm : (x.toNat % 128) * 128 ^ i ≤ 127 * 268435456 := Nat.mul_le_mul (by omega) hpow
    have hqm2 : (x.toNat % 128) * 128 ^ i ≤ 127 * 128 ^ i := Nat.mul_le_mul_right _ (by omega)
    have ei : IntKind.i64.wrap (((at_ + i : Nat) : Int) + 1) = ((at_ + (i + 1) : Nat) : Int) := by rw [IntWalk.i64_in _ ⟨by omega, by omega⟩]; omega
    have en : IntKind.i64.wrap ((p : Int) + IntKind.i64.wrap ((Int.tmod (IntKind.i64.wrap (x.toNat : Int)) (128 : Int)) * ((128 ^ i : Nat) : Int))) = ((p + (x.toNat % 128) * 128 ^ i : Nat) : Int) := by
      have h1 : IntKind.i64.wrap (x.toNat : Int) = (x.toNat : Int) := IntWalk.i64_in _ ⟨by omega, by omega⟩
      rw [h1, Int.tmod_eq_emod_of_nonneg (by omega), show (x.toNat : Int) % 128 = ((x.toNat % 128 : Nat) : Int) from rfl, ← Int.natCast_mul]
      have h2 : IntKind.i64.wrap (((x.toNat % 128) * 128 ^ i : Nat) : Int) = (((x.toNat % 128) * 128 ^ i : Nat) : Int) := IntWalk.i64_in _ ⟨by omega, by omega⟩
      rw [h2, ← Int.natCast_add]
      exact IntWalk.i64_in _ ⟨by omega, by omega⟩
    refine ⟨q, hq, by omega, by omega, _, by rw [Int.toNat_natCast]; exact hc, by omega, q, hq, by omega, by omega, _, by rw [Int.toNat_natCast]; exact hc, ?_⟩
    rw [en, ei]
    rw [hdr, nb_cons, if_pos hi5'] at hnb
    have hpm : p + (x.toNat % 128) * 128 ^ i < 128 ^ (i + 1) := by
      rw [Nat.pow_succ]
      generalize (x.toNat % 128) * 128 ^ i = z at *
      generalize 128 ^ i = y at *
      omega
    refine cond_d (fun hlt => ?_) (fun hge => ?_)
    · rw [if_pos (by omega)] at hnb
      have hmod : x.toNat % 128 = x.toNat := by omega
      rw [hmod] at hpm ⊢
      have h5 : (128 : Nat) ^ (i + 1) ≤ 34359738368 := by
        have := Nat.pow_le_pow_right (show 0 < 128 by omega) (show i + 1 ≤ 5 by omega)
        omega
      refine ⟨_, _, rfl, rfl, by omega, by omega, fun q' r hq' hq5 => ?_⟩
      rw [hq', nb_num q' (by omega) (by simpa using hq5)] at hnb
      simp only [Option.some.injEq, Prod.mk.injEq, Nat.pow_zero, Nat.mul_one, Nat.zero_add] at hnb
      exact ⟨hnb.1.symm, by omega⟩
    · rw [if_neg (by omega)] at hnb
      have es : IntKind.i64.wrap ((128 : Int) * ((128 ^ i : Nat) : Int)) = ((128 ^ (i + 1) : Nat) : Int) := by
        have : (128 : Int) * ((128 ^ i : Nat) : Int) = ((128 ^ (i + 1) : Nat) : Int) := by rw [Nat.pow_succ, Nat.mul_comm]; simp
        rw [this]
        have := Nat.pow_le_pow_right (show 0 < 128 by omega) (show i + 1 ≤ 5 by omega)
        exact IntWalk.i64_in _ ⟨by omega, by omega⟩
      rw [es]
      refine ⟨⟨i + 1, _, rfl, by omega, by omega, hpm, by rw [hnb, Nat.add_assoc], rfl⟩, ?_⟩
      show n - ((at_ + (i + 1) : Nat) : Int).toNat < n - ((at_ + i : Nat) : Int).toNat
      omega
  clear_value K16
  refine cond_d (fun hlt => ?_) (fun hge => stop _ _ _ (.inl (by omega)))
  rw [IntWalk.i64_in _ ⟨by omega, by omega⟩]
  by_cases h5 : i = 5
  · rw [decide_eq_false (show ¬ (((at_ + i : Nat) : Int) < (at_ : Int) + 5) by omega)]; exact stop _ _ _ (.inr h5)
  · rw [decide_eq_true (show ((at_ + i : Nat) : Int) < (at_ : Int) + 5 by omega)]; exact go _ _ _ (by omega) (by omega)
end
end Go.Proofs.Ytmfidfaiopogbaa
/- The operation that bytes seem to say. -/
set_option linter.unusedVariables false
set_option linter.unusedSimpArgs false
set_option linter.unusedSectionVars false
set_option maxRecDepth 4000
namespace Go.Proofs.Ytmfidfaiopogbaa
open Go Go.Sh

/-- The weight from four bytes, the last first. -/
def hb (g : Nat → Nat) : Nat → Nat
  | 0 => 0
  | k + 1 => 256 * hb g k + g (3 - k)
theorem hb_lt {g : Nat → Nat} (hg : ∀ i, g i < 256) : ∀ k, hb g k < 256 ^ k
  | 0 => by simp [hb]
  | k + 1 => by
    have := hb_lt hg k
    have := hg (3 - k)
    simp only [hb, Nat.pow_succ]
    omega
theorem hb_four (r : Bs) : ((hb (fun t => (r.getD t 0).toNat) 4 : Nat) : Int) = unbits r := by
  have h : hb (fun t => (r.getD t 0).toNat) 4 = 256 * (256 * (256 * (256 * 0 + (r.getD 3 0).toNat) + (r.getD 2 0).toNat) + (r.getD 1 0).toNat) + (r.getD 0 0).toNat := rfl
  rw [h]
  unfold unbits
  omega
theorem front_shape {y : Op} {l : Bs} (h : Front l y l) : ∃ (s : List (Nat × Int × Int) × Bool) (t c : UInt8), shp y.k = some s ∧ l = t :: kb y.k :: (numsOf y s.1 ++ ((bif s.2 then bits4 y.b.toNat else []) ++ [c])) ∧ (∀ f ∈ s.1, okf y f) ∧ 1 ≤ y.k ∧ y.k ≤ 7 := by
  obtain ⟨_, hp, he, _⟩ := h
  obtain ⟨s, hs, hok, hl⟩ := enc_some he
  refine ⟨s, UInt8.ofNat (body y s).length, chk (UInt8.ofNat (body y s).length :: body y s), hs, ?_, hok, (shp_f hs).2.2⟩
  rw [hl]
  unfold sealed body
  simp only [List.cons_append, List.append_assoc]
theorem kb_k {k : Int} (h : 1 ≤ k ∧ k ≤ 7) : ((kb k).toNat : Int) = k := by
  unfold kb
  rw [UInt8.toNat_ofNat']; omega
theorem drop_num {l : Bs} {at_ q : Nat} {r : Bs} (h : l.drop at_ = num q ++ r) : l.drop (at_ + (num q).length) = r := by
  rw [← List.drop_drop, h, List.drop_left]
section
variable [Av]
theorem seems_spec {w : World} {e2 : Nat} {a : Option Addr} {n c : Nat} {l : Bs} (h : Rd w e2 1 a n c (bvs l)) (h2 : 2 ≤ n) (hn5 : n ≤ 1000) :
    Calls Try.prog 84 #[.slice a n c] w fun e w' => ∃ z : Op, e = .returned (opV z) ∧ Keep no w w' ∧ z.fit ∧ ∀ y, Front l y l → z = y := by
  have hn : n = l.length := by have := h.1; simp at this; exact this.symm
  refine c84 ?_
  unfold sh84
  intro p2 w3
  have b2 : Bk w3 p2 #[.int .i64 0, .int .i64 0, .int .i64 0, .int .i64 0, .int .u32 0] 57 := Bk.new w _ _
  have k3 : Keep no w w3 := Keep.alloc _ _ _
  have hp2 : w.heap.size ≤ p2 := Nat.le_refl _
  clear_value p2 w3
  obtain ⟨q4, hq4, hc4⟩ := rd_at (h.no k3) (i := 1) (by omega)
  have hK : (l.getD 1 0) = l[1] := by rw [List.getD_eq_getElem?_getD, List.getElem?_eq_getElem (by omega)]; rfl
  rw [← hK] at hc4
  generalize hkk : l.getD 1 0 = kk at hc4 hK
  have hk256 := kk.toNat_lt
  refine ⟨q4, hq4, by omega, by omega, _, hc4, ?_⟩
  intro p6 w7
  have b6 : Bk w7 p6 #[.int .i64 0, .int .i64 0, .int .i64 0, .int .i64 0, .int .u32 0] 57 := Bk.new w3 _ _
  have c2 : Bk w7 p2 _ _ := b2.alloc _
  have k7 : Keep no w w7 := k3.then (Keep.alloc _ _ _)
  have hp6 : w.heap.size ≤ p6 := k3.size
  have h26 : p2 ≠ p6 := Nat.ne_of_lt b2.lt
  clear_value p6 w7
  refine ⟨b6.wrN (by simp), ?_⟩
  intro w8
  have ek : IntKind.i64.wrap ((kk.toNat : Nat) : Int) = (kk.toNat : Int) := IntWalk.i64_in _ ⟨by omega, by omega⟩
  have d6 : Bk w8 p6 (opC ⟨kk.toNat, 0, 0, 0, 0⟩) 57 := by
    show Bk w8 p6 #[.int .i64 (kk.toNat : Int), .int .i64 0, .int .i64 0, .int .i64 0, .int .u32 0] 57
    rw [← ek]
    exact b6.setAll rfl
  have k8 : Keep (is p6) w7 w8 := setN_keep (S := is p6) (a := ⟨p6, 0, none⟩) rfl _ _ _
  have d2 : Bk w8 p2 _ _ := c2.keep k8 h26
  have K8 : Keep no w w8 := k7.new k8 (by rintro z rfl; exact hp6)
  clear_value w8
  clear b2 c2 b6 k8 k7 k3
  -- the front's parts
  have shape : ∀ y, Front l y l → ∃ (s : List (Nat × Int × Int) × Bool) (c : UInt8), shp y.k = some s ∧ l.drop 2 = numsOf y s.1 ++ ((bif s.2 then bits4 y.b.toNat else []) ++ [c]) ∧ (∀ f ∈ s.1, okf y f) ∧ y.k = kk.toNat := by
    intro y hy
    obtain ⟨s, t, c, hs, hl, hok, hk17⟩ := front_shape hy
    refine ⟨s, c, hs, by rw [hl]; rfl, hok, ?_⟩
    rw [← hkk, hl]
    exact (kb_k hk17).symm
  have hrange : ∀ m : Nat, m < 34359738368 → (-9223372036854775808 : Int) ≤ (m : Int) ∧ (m : Int) ≤ 9223372036854775807 := fun m hm => by omega
  intro K43
  have fin : ∀ (j e u v : Nat) (w' : World), j ≤ n → e < 34359738368 → u < 34359738368 → v < 34359738368 → Bk w' p6 (opC ⟨kk.toNat, e, u, v, 0⟩) 57 → Bk w' p2 #[.int .i64 0, .int .i64 0, .int .i64 0, .int .i64 0, .int .u32 0] 57 → Keep no w w' →
      (∀ y, Front l y l → (⟨kk.toNat, e, u, v, if kk.toNat = 3 ∨ kk.toNat = 5 then unbits (l.drop j) else 0⟩ : Op) = y) → K43 (j : Nat) w' := by
    intro j e u v w' hj he hu hv hB6 hB2 kw hfront
    have hr := h.no kw
    -- four bytes
    let g : Nat → Nat := fun t => ((l.drop j).getD t 0).toNat
    have hg : ∀ t, g t < 256 := fun t => UInt8.toNat_lt _
    have hgo : ∀ t, (hlt : j + t < n) → g t = (l[j + t]'(by omega)).toNat := fun t hlt => by
      show ((l.drop j).getD t 0).toNat = _
      rw [List.getD_eq_getElem?_getD, List.getElem?_drop, List.getElem?_eq_getElem (by omega)]; rfl
    have hgn : ∀ t, n ≤ j + t → g t = 0 := fun t hlt => by
      show ((l.drop j).getD t 0).toNat = _
      rw [List.getD_eq_getElem?_getD, List.getElem?_drop, List.getElem?_eq_none (by omega)]; rfl
    have hg4 : ((hb g 4 : Nat) : Int) = unbits (l.drop j) := hb_four _
    clear_value g
    have hlt4 := hb_lt hg 4
    refine ⟨fun vs z => ∃ k : Nat, vs = [.int .i64 (hb g k : Nat), .int .i64 (3 - (k : Int))] ∧ k ≤ 4 ∧ z = w', fun vs z => match vs with | [_, .int _ i] => (i + 1).toNat | _ => 0, ⟨0, rfl, by omega, rfl⟩, ?_⟩
    rintro w46 n44 i45 ⟨k, hvv, hk4, rfl⟩
    cases hvv
    have hlt := hb_lt hg k
    refine cond_d (fun hge => ?_) (fun hge => ?_)
    · have hk3 : k ≤ 3 := by omega
      have h16 : (256 : Nat) ^ k ≤ 16777216 := by
        have := Nat.pow_le_pow_right (show 0 < 256 by omega) hk3
        omega
      have ej : IntKind.i64.wrap ((j : Int) + (3 - (k : Int))) = ((j + (3 - k) : Nat) : Int) := by rw [IntWalk.i64_in _ ⟨by omega, by omega⟩]; omega
      have e256 : IntKind.i64.wrap ((256 : Int) * ((hb g k : Nat) : Int)) = ((256 * hb g k : Nat) : Int) := by rw [IntWalk.i64_in _ ⟨by omega, by omega⟩]; omega
      have e3 : IntKind.i64.wrap (3 - (k : Int) - 1) = 3 - ((k + 1 : Nat) : Int) := by rw [IntWalk.i64_in _ ⟨by omega, by omega⟩]; omega
      rw [ej, e256, e3]
      refine cond_d (fun hlt2 => ?_) (fun hlt2 => ?_)
      · obtain ⟨q, hq, hc⟩ := rd_at hr (i := j + (3 - k)) (by omega)
        have hgb := hg (3 - k)
        rw [← hgo (3 - k) (by omega)] at hc
        refine ⟨q, hq, by omega, by omega, _, by rw [Int.toNat_natCast]; exact hc, ?_⟩
        have es : IntKind.i64.wrap (((256 * hb g k : Nat) : Int) + IntKind.i64.wrap ((g (3 - k) : Nat) : Int)) = ((hb g (k + 1) : Nat) : Int) := by
          have : IntKind.i64.wrap ((g (3 - k) : Nat) : Int) = ((g (3 - k) : Nat) : Int) := IntWalk.i64_in _ ⟨by omega, by omega⟩
          rw [this, ← Int.natCast_add]
          show IntKind.i64.wrap ((hb g (k + 1) : Nat) : Int) = _
          have h1 : hb g (k + 1) = 256 * hb g k + g (3 - k) := rfl
          rw [h1]
          exact IntWalk.i64_in _ ⟨by omega, by omega⟩
        rw [es]
        refine ⟨⟨k + 1, rfl, by omega, rfl⟩, ?_⟩
        show (3 - ((k + 1 : Nat) : Int) + 1).toNat < (3 - (k : Int) + 1).toNat
        omega
      · have es : 256 * hb g k = hb g (k + 1) := by
          show _ = 256 * hb g k + g (3 - k)
          rw [hgn (3 - k) (by omega)]; rfl
        rw [es]
        refine ⟨⟨k + 1, rfl, by omega, rfl⟩, ?_⟩
        show (3 - ((k + 1 : Nat) : Int) + 1).toNat < (3 - (k : Int) + 1).toNat
        omega
    · have hk : k = 4 := by omega
      subst hk
      rw [hg4]
      have hub : 0 ≤ unbits (l.drop j) ∧ unbits (l.drop j) < 4294967296 := by rw [← hg4]; omega
      intro K63
      have last : ∀ (z : Op) (v : World), z.fit → Bk v p6 (opC z) 57 → Bk v p2 #[.int .i64 0, .int .i64 0, .int .i64 0, .int .i64 0, .int .u32 0] 57 → Keep no w v → (∀ y, Front l y l → z = y) → K63 v := by
        intro z v hz hB6 hB2 kv hf
        obtain ⟨e1, e2, e3⟩ := fin5 (a := .int .i64 z.k) (b := .int .i64 z.e) (c := .int .i64 z.u) (d := .int .i64 z.v) (e := .int .u32 z.b) hB2 rfl
        exact ⟨_, _, _, _, _, hB6.cell 0, hB6.cell 1, hB6.cell 2, hB6.cell 3, hB6.cell 4, e1, _, _, _, _, _, e2.cell 0, e2.cell 1, e2.cell 2, e2.cell 3, e2.cell 4, z, rfl, kv.new e3 (by rintro z rfl; exact hp2), hz, hf⟩
      clear_value K63
      intro K60
      have last2 : ∀ b : Bool, (b = true ↔ kk.toNat = 3 ∨ kk.toNat = 5) → K60 b w46 := by
        intro b hb
        refine cond_i (fun hbt => ?_) (fun hbf => ?_)
        · have hk35 := hb.1 hbt
          rw [u32_in _ hub]
          refine ⟨hB6.wr (by simp), ?_⟩
          have hB6' : Bk (w46.setCell ⟨p6, 4, none⟩ (.int .u32 (unbits (l.drop j)))) p6 (opC ⟨kk.toNat, e, u, v, unbits (l.drop j)⟩) 57 := hB6.set 4 _
          refine last ⟨kk.toNat, e, u, v, unbits (l.drop j)⟩ _ ⟨hrange _ (by omega), hrange _ he, hrange _ hu, hrange _ hv, hub⟩ hB6' (hB2.set_ne h26 _) (kw.new (Keep.set (S := is p6) _ _ rfl) (by rintro z rfl; exact hp6)) ?_
          rw [if_pos hk35] at hfront
          exact hfront
        · have hk35 : ¬ (kk.toNat = 3 ∨ kk.toNat = 5) := fun hh => by rw [hb.2 hh] at hbf; cases hbf
          rw [if_neg hk35] at hfront
          exact last ⟨kk.toNat, e, u, v, 0⟩ _ ⟨hrange _ (by omega), hrange _ he, hrange _ hu, hrange _ hv, show (0 : Int) ≤ 0 ∧ (0 : Int) < 4294967296 by decide⟩ hB6 hB2 kw hfront
      clear_value K60
      refine ⟨_, hB6.cell 0, ?_⟩
      refine cond_i (fun h3 => ?_) (fun h3 => ?_)
      · have : kk.toNat = 3 := by simp at h3; omega
        exact last2 true (by simp [this])
      · have : ¬ kk.toNat = 3 := by simp at h3; omega
        refine ⟨_, hB6.cell 0, last2 _ ?_⟩
        simp only [beq_iff_eq]
        omega
  clear_value K43
  refine ⟨_, d6.cell 0, ?_⟩
  -- a number is read
  have rd : ∀ (v : World) (at_ : Nat), Keep no w v → at_ ≤ n → Calls Try.prog 101 #[.slice a n c, .int .i64 at_] v fun e w' => ∃ m j : Nat, e = .returned (.tuple #[.int .i64 m, .int .i64 j]) ∧ w' = v ∧ j ≤ n ∧ m < 34359738368 ∧
      (∀ q r, l.drop at_ = num q ++ r → q < 34359738368 → m = q ∧ j = at_ + (num q).length) := fun v at_ kv hat => number_spec (h.no kv) hat (by omega)
  have sel0 : ∀ {y : Op} {f : Nat × Int × Int}, okf y f → 0 ≤ f.2.1 → f.2.2 ≤ 2147483647 → (((y.sel f.1).toNat : Nat) : Int) = y.sel f.1 ∧ (y.sel f.1).toNat < 34359738368 := by
    rintro y f ⟨h1, h2⟩ h3 h4; omega
  intro K12
  have fin12 : ∀ b : Bool, (b = true ↔ (kk.toNat = 1 ∨ kk.toNat = 2 ∨ kk.toNat = 6 ∨ kk.toNat = 7)) → K12 b w8 := by
    intro b hb
    refine cond_i (fun hbt => ?_) (fun hbf => ?_)
    · have hk := hb.1 hbt
      refine (rd w8 2 K8 (by omega)).mono ?_
      rintro e w14 ⟨m, j, rfl, rfl, hj, hm, hq⟩
      refine ⟨_, _, rfl, d6.wr (by simp), ?_⟩
      refine fin j 0 0 m _ hj (by omega) (by omega) hm (d6.set 3 _) (d2.set_ne h26 _) (K8.new (Keep.set (S := is p6) _ _ rfl) (by rintro z rfl; exact hp6)) ?_
      intro y hy
      obtain ⟨s, c, hs, hl, hok, hyk⟩ := shape y hy
      rw [shp_a (by omega)] at hs; cases hs
      have hp := hy.2.1
      rw [plain_a (by omega)] at hp
      split at hp
      · rename_i hv
        replace hp := Option.some.inj hp
        obtain ⟨e1, e2⟩ := sel0 (hok _ (List.mem_cons_self ..)) (by decide) (by decide)
        simp only [numsOf, List.flatMap_cons, List.flatMap_nil, List.append_nil] at hl
        obtain ⟨rfl, _⟩ := hq _ _ hl e2
        rw [if_neg (by omega)]
        refine Eq.trans ?_ hp
        rw [e1, ← hyk]; rfl
      · cases hp
    · have hk : ¬ (kk.toNat = 1 ∨ kk.toNat = 2 ∨ kk.toNat = 6 ∨ kk.toNat = 7) := fun hh => by rw [hb.2 hh] at hbf; cases hbf
      refine cond_i (fun h3 => ?_) (fun h3 => ?_)
      · have h3' : kk.toNat = 3 := by simp at h3; omega
        refine (rd w8 2 K8 (by omega)).mono ?_
        rintro e w14 ⟨m1, j1, rfl, rfl, hj1, hm1, hq1⟩
        refine ⟨_, _, rfl, d6.wr (by simp), ?_⟩
        intro w22
        have e6 : Bk w22 p6 (opC ⟨kk.toNat, m1, 0, 0, 0⟩) 57 := d6.set 1 _
        have e2 : Bk w22 p2 _ _ := d2.set_ne h26 _
        have K22 : Keep no w w22 := K8.new (Keep.set (S := is p6) _ _ rfl) (by rintro z rfl; exact hp6)
        clear_value w22
        refine (rd w22 j1 K22 hj1).mono ?_
        rintro e w24 ⟨m2, j2, rfl, rfl, hj2, hm2, hq2⟩
        refine ⟨_, _, rfl, e6.wr (by simp), ?_⟩
        intro w27
        have f6 : Bk w27 p6 (opC ⟨kk.toNat, m1, m2, 0, 0⟩) 57 := e6.set 2 _
        have f2 : Bk w27 p2 _ _ := e2.set_ne h26 _
        have K27 : Keep no w w27 := K22.new (Keep.set (S := is p6) _ _ rfl) (by rintro z rfl; exact hp6)
        clear_value w27
        refine (rd w27 j2 K27 hj2).mono ?_
        rintro e w29 ⟨m3, j3, rfl, rfl, hj3, hm3, hq3⟩
        refine ⟨_, _, rfl, f6.wr (by simp), ?_⟩
        refine fin j3 m1 m2 m3 _ hj3 hm1 hm2 hm3 (f6.set 3 _) (f2.set_ne h26 _) (K27.new (Keep.set (S := is p6) _ _ rfl) (by rintro z rfl; exact hp6)) ?_
        intro y hy
        obtain ⟨s, c, hs, hl, hok, hyk⟩ := shape y hy
        have hy3 : y.k = 3 := by omega
        rw [hy3, shp_3] at hs; cases hs
        obtain ⟨e1, e2⟩ := sel0 (hok (1, 1, 1024) (by simp)) (by decide) (by decide)
        obtain ⟨u1, u2⟩ := sel0 (hok (2, 0, 2147483647) (by simp)) (by decide) (by decide)
        obtain ⟨v1, v2⟩ := sel0 (hok (3, 0, 2147483647) (by simp)) (by decide) (by decide)
        simp only [numsOf, List.flatMap_cons, List.flatMap_nil, List.append_nil, List.append_assoc] at hl
        obtain ⟨rfl, hj1'⟩ := hq1 _ _ hl e2
        have hl1 := drop_num hl
        rw [← hj1'] at hl1
        obtain ⟨rfl, hj2'⟩ := hq2 _ _ hl1 u2
        have hl2 := drop_num hl1
        rw [← hj2'] at hl2
        obtain ⟨rfl, hj3'⟩ := hq3 _ _ hl2 v2
        have hl3 := drop_num hl2
        rw [← hj3'] at hl3
        rw [if_pos (by omega), hl3]
        have hub : unbits (bits4 y.b.toNat ++ [c]) = y.b := un_bits4 hy.1.b.1 hy.1.b.2
        obtain ⟨yk, ye, yu, yv, yb⟩ := y
        simp only [Op.sel] at e1 u1 v1 hub hyk ⊢
        simp only [cond_true, hub, e1, u1, v1, hyk]
      · have h3' : ¬ kk.toNat = 3 := by simp at h3; omega
        intro K35
        have fin35 : ∀ b : Bool, (b = true ↔ kk.toNat = 4 ∨ kk.toNat = 5) → K35 b w8 := by
          intro b hb
          refine cond_i (fun hbt => ?_) (fun hbf => ?_)
          · have hk45 := hb.1 hbt
            refine (rd w8 2 K8 (by omega)).mono ?_
            rintro e w14 ⟨m, j, rfl, rfl, hj, hm, hq⟩
            refine ⟨_, _, rfl, d6.wr (by simp), ?_⟩
            refine fin j m 0 0 _ hj hm (by omega) (by omega) (d6.set 1 _) (d2.set_ne h26 _) (K8.new (Keep.set (S := is p6) _ _ rfl) (by rintro z rfl; exact hp6)) ?_
            intro y hy
            obtain ⟨s, c, hs, hl, hok, hyk⟩ := shape y hy
            have hp := hy.2.1
            rcases hk45 with hk4 | hk5
            · have hy4 : y.k = 4 := by omega
              rw [hy4, shp_4] at hs; cases hs
              rw [plain_4 hy4] at hp
              split at hp
              · replace hp := Option.some.inj hp
                obtain ⟨e1, e2⟩ := sel0 (hok _ (List.mem_cons_self ..)) (by decide) (by decide)
                simp only [numsOf, List.flatMap_cons, List.flatMap_nil, List.append_nil] at hl
                obtain ⟨rfl, _⟩ := hq _ _ hl e2
                rw [if_neg (by omega)]
                refine Eq.trans ?_ hp
                rw [e1, ← hyk]; rfl
              · cases hp
            · have hy5 : y.k = 5 := by omega
              rw [hy5, shp_5] at hs; cases hs
              rw [plain_5 hy5] at hp
              split at hp
              · have hfb := hy.1.b
                replace hp := Option.some.inj hp
                obtain ⟨e1, e2⟩ := sel0 (hok _ (List.mem_cons_self ..)) (by decide) (by decide)
                simp only [numsOf, List.flatMap_cons, List.flatMap_nil, List.append_nil] at hl
                obtain ⟨rfl, hj'⟩ := hq _ _ hl e2
                have hl3 := drop_num hl
                rw [← hj'] at hl3
                rw [if_pos (by omega), hl3]
                refine Eq.trans ?_ hp
                rw [e1, ← hyk, show unbits ((bif (([(1, 1, 1024)], true) : List (Nat × Int × Int) × Bool).2 then bits4 y.b.toNat else []) ++ [c]) = y.b from un_bits4 hfb.1 hfb.2]; rfl
              · cases hp
          · have hk45 : ¬ (kk.toNat = 4 ∨ kk.toNat = 5) := fun hh => by rw [hb.2 hh] at hbf; cases hbf
            refine fin 2 0 0 0 _ h2 (by omega) (by omega) (by omega) d6 d2 K8 ?_
            intro y hy
            obtain ⟨s, c, hs, hl, hok, hyk⟩ := shape y hy
            rw [shp_n (by omega) (by omega) (by omega) (by omega)] at hs; cases hs
        clear_value K35
        refine cond_i (fun h4 => fin35 _ ?_) (fun h4 => fin35 _ ?_)
        · simp only [beq_iff_eq] at h4 ⊢; omega
        · simp only [beq_eq_false_iff_ne, ne_eq, beq_iff_eq] at h4 ⊢; omega
  clear_value K12
  refine cond_i (fun h1 => fin12 _ ?_) (fun h1 => ?_)
  · simp only [beq_iff_eq] at h1 ⊢; omega
  · refine cond_i (fun h2 => fin12 _ ?_) (fun h2 => ?_)
    · simp only [beq_iff_eq] at h2 ⊢; omega
    · refine cond_i (fun h6 => fin12 _ ?_) (fun h6 => fin12 _ ?_)
      · simp only [beq_iff_eq] at h6 ⊢; omega
      · simp only [beq_eq_false_iff_ne, ne_eq, beq_iff_eq] at h1 h2 h6 ⊢; omega
end
end Go.Proofs.Ytmfidfaiopogbaa
