/- Records: numbers in few bytes, the check, the shapes of the kinds. -/
import Derived.Test.YtmfidfaiopogbaaShTR
import Derived.Test.YtmfidfaiopogbaaShAv
set_option linter.unusedVariables false
set_option linter.unusedSimpArgs false
set_option linter.unusedSectionVars false
set_option maxRecDepth 4000
namespace Go.Proofs.Ytmfidfaiopogbaa
open Go Go.Sh

/-! ### An operation -/
structure Op where
  k : Int
  e : Int
  u : Int
  v : Int
  b : Int
abbrev opV (x : Op) : Value := .agg #[.int .i64 x.k, .int .i64 x.e, .int .i64 x.u, .int .i64 x.v, .int .u32 x.b]
abbrev opC (x : Op) : Array Value := #[.int .i64 x.k, .int .i64 x.e, .int .i64 x.u, .int .i64 x.v, .int .u32 x.b]
structure Op.fit (x : Op) : Prop where
  k : -9223372036854775808 ≤ x.k ∧ x.k ≤ 9223372036854775807
  e : -9223372036854775808 ≤ x.e ∧ x.e ≤ 9223372036854775807
  u : -9223372036854775808 ≤ x.u ∧ x.u ≤ 9223372036854775807
  v : -9223372036854775808 ≤ x.v ∧ x.v ≤ 9223372036854775807
  b : 0 ≤ x.b ∧ x.b < 4294967296
def Op.sel (x : Op) : Nat → Int
  | 1 => x.e
  | 2 => x.u
  | _ => x.v

/-! ### Numbers -/
def num (n : Nat) : Bs := if h : n < 128 then [UInt8.ofNat n] else UInt8.ofNat (n % 128 + 128) :: num (n / 128)
termination_by n
decreasing_by omega
theorem num_lt {n : Nat} (h : n < 128) : num n = [UInt8.ofNat n] := by rw [num, dif_pos h]
theorem num_ge {n : Nat} (h : ¬ n < 128) : num n = UInt8.ofNat (n % 128 + 128) :: num (n / 128) := by rw [num, dif_neg h]
theorem num_len (n : Nat) : (num n).length ≤ n / 128 + 1 := by
  induction n using Nat.strongRecOn with
  | _ n ih =>
    by_cases h : n < 128
    · rw [num_lt h]; simp
    · rw [num_ge h]
      have := ih (n / 128) (by omega)
      simp only [List.length_cons]
      omega
theorem num_len5 {n : Nat} (h : n < 34359738368) : (num n).length ≤ 5 := by
  by_cases h1 : n < 128
  · rw [num_lt h1]; simp
  rw [num_ge h1]
  by_cases h2 : n / 128 < 128
  · rw [num_lt h2]; simp
  rw [num_ge h2]
  by_cases h3 : n / 128 / 128 < 128
  · rw [num_lt h3]; simp
  rw [num_ge h3]
  by_cases h4 : n / 128 / 128 / 128 < 128
  · rw [num_lt h4]; simp
  rw [num_ge h4, num_lt (by omega)]; simp
theorem bv_of (n : Nat) (h : n < 256) : bv (UInt8.ofNat n) = .int .u8 n := by
  unfold bv
  rw [UInt8.toNat_ofNat']
  congr 1
  omega
theorem or128 (n : Nat) : (BitVec.ofInt 8 (IntKind.u8.wrap (n : Int)) ||| BitVec.ofInt 8 128).toNat = n % 128 + 128 := by
  have h : IntKind.u8.wrap (n : Int) = ((n % 256 : Nat) : Int) := by
    simp [IntKind.wrap, IntKind.signed, IntKind.bits]
  rw [h]
  have key : ∀ x : Fin 256, (BitVec.ofInt 8 ((x.val : Nat) : Int) ||| BitVec.ofInt 8 128).toNat = x.val % 128 + 128 := by decide
  have := key ⟨n % 256, by omega⟩
  simp only at this
  rw [this]; omega
theorem u8_nat (n : Nat) (h : n < 256) : IntKind.u8.wrap (n : Int) = n := IntWalk.u8_in _ ⟨by omega, by omega⟩

section
variable [Av]
theorem put_spec {w : World} {base n c : Nat} {a : Option Addr} {xs : List Value} (ho : w.ownsRow base 5 1 (.slice a n c) n xs) (hb : base ≤ w.heap.size) (hn : n ≤ 1000000000000) (m : Nat) (hm : m < 34359738368) :
    Calls Try.prog 77 #[.slice a n c, .int .i64 m] w fun e w' => ∃ (a2 : Option Addr) (c2 : Nat), e = .returned (.slice a2 (n + (num m).length) c2) ∧ w'.ownsRow base 5 1 (.slice a2 (n + (num m).length) c2) (n + (num m).length) (xs ++ bvs (num m)) ∧ Keep (OB a) w w' ∧ (∀ b, OB a2 b → OB a b ∨ w.heap.size ≤ b) := by
  refine c77 ?_
  unfold sh77
  refine ⟨fun vs v => ∃ (a' : Option Addr) (n' c' m' : Nat) (pre : Bs), vs = [.slice a' n' c', .int .i64 m'] ∧ m' ≤ m ∧ pre ++ num m' = num m ∧ n' = n + pre.length ∧ v.ownsRow base 5 1 (.slice a' n' c') n' (xs ++ bvs pre) ∧ Keep (OB a) w v ∧ (∀ b, OB a' b → OB a b ∨ w.heap.size ≤ b),
    fun vs v => match vs with | [_, .int _ i] => i.toNat | _ => 0, ⟨a, n, c, m, [], rfl, Nat.le_refl _, rfl, rfl, by rw [show bvs [] = [] from rfl, List.append_nil]; exact ho, Keep.refl _ _, fun b hb => .inl hb⟩, ?_⟩
  rintro w5 a' n' c' n4 ⟨a1, n1, c1, m', pre, hv, hm', hpre, hn', ho5, k5, hw5⟩
  simp only [List.cons.injEq, Value.slice.injEq, Value.int.injEq, true_and, and_true] at hv
  obtain ⟨⟨rfl, rfl, rfl⟩, rfl⟩ := hv
  have hlen : pre.length + (num m').length = (num m).length := by rw [← hpre]; simp
  have hl5 := num_len5 hm
  -- one byte more
  have app : ∀ (v : Int) (x : Nat), v = (x : Nat) → x < 256 → ∀ (K : Option Addr → Nat → Nat → World → Prop),
      (∀ a2 c2 w', w'.ownsRow base 5 1 (.slice a2 (n' + 1) c2) (n' + 1) (xs ++ bvs (pre ++ [UInt8.ofNat x])) → Keep (OB a) w w' → (∀ b, OB a2 b → OB a b ∨ w.heap.size ≤ b) → K a2 (n' + 1) c2 w') →
      RunWp Try.prog (Builtin.append_ #[36, 36] 36 #[.slice a' n' c', .slice (some ⟨w5.heap.size, 0, none⟩) 1 1]) (fun v w' => ∃ (a2 : Option Addr) (n2 c2 : Nat), v = .slice a2 n2 c2 ∧ K a2 n2 c2 w') (w5.alloc (.cells #[.int .u8 v] 5)) := by
    rintro v x rfl hx K hK
    have b9 : Bk (w5.alloc (.cells #[.int .u8 (x : Nat)] 5)) w5.heap.size #[.int .u8 (x : Nat)] 5 := Bk.new _ _ _
    have k9 : Keep no w5 (w5.alloc (.cells #[.int .u8 (x : Nat)] 5)) := Keep.alloc _ _ _
    refine rw_append E36 (own_keep ho5 k9 fun _ _ h => h) (Rd.blk0 (sz := 1) (n := 1) b9 rfl (by simp [maxLen])) (by simp [one1]) (by omega) (by simp only [maxLen]; omega) (Nat.le_trans hb (Nat.le_trans k5.size k9.size)) fun a2 c2 w' ho' k' hw' => ?_
    refine hK a2 c2 w' ?_ ?_ ?_
    · have e : bvs (pre ++ [UInt8.ofNat x]) = bvs pre ++ [.int .u8 (x : Nat)] := by rw [bvs_append]; simp only [bvs, List.map_cons, List.map_nil, bv_of x hx]
      rw [e, ← List.append_assoc]; exact ho'
    · refine (k5.no k9).trans k' (fun _ _ h => h) fun y hy hz => ?_
      rcases hw5 y hz with h | h
      · exact h
      · omega
    · intro b hb2
      rcases hw' with rfl | rfl
      · exact hw5 b hb2
      · obtain ⟨z, hz, rfl⟩ := hb2
        cases hz
        exact .inr (Nat.le_trans k5.size k9.size)
  refine cond_d (fun hge => ?_) (fun hlt => ?_)
  · have hge' : ¬ m' < 128 := by omega
    rw [num_ge hge'] at hpre hlen
    intro p8 w9
    refine app _ (m' % 128 + 128) ?_ (by omega) _ fun a2 c2 w' ho' k' hw' => ?_
    · rw [or128]; exact u8_nat _ (by omega)
    have hdiv : Int.fdiv (m' : Int) (2 ^ (min (7 : Int).toNat 64)) = ((m' / 128 : Nat) : Int) := by
      show Int.fdiv (m' : Int) 128 = _
      rw [Int.fdiv_eq_ediv_of_nonneg _ (by omega)]; rfl
    rw [hdiv]
    refine ⟨by omega, ⟨a2, n' + 1, c2, m' / 128, pre ++ [UInt8.ofNat (m' % 128 + 128)], rfl, by omega, by rw [← hpre]; simp, by simp; omega, ho', k', hw'⟩, ?_⟩
    show ((m' / 128 : Nat) : Int).toNat < (m' : Int).toNat
    omega
  · have hlt' : m' < 128 := by omega
    rw [num_lt hlt'] at hpre hlen
    intro p13 w14
    refine app _ m' (u8_nat _ (by omega)) (by omega) _ fun a2 c2 w' ho' k' hw' => ?_
    have e : n' + 1 = n + (num m).length := by simp at hlen; omega
    rw [hpre, e] at ho'
    rw [e]
    exact ⟨a2, c2, rfl, ho', k', hw'⟩
end
end Go.Proofs.Ytmfidfaiopogbaa
