/- Records: numbers in few bytes, the check, the shapes of the kinds. -/
import Derived.Test.YtmfidfaiopogbaaShTR
import Derived.Test.YtmfidfaiopogbaaShAv
set_option linter.unusedVariables false
set_option linter.unusedSimpArgs false
set_option linter.unusedSectionVars false
set_option maxRecDepth 4000
namespace Go.Proofs.Ytmfidfaiopogbaa
open Go Go.Sh

/-! ### An operation -/
structure Op where
  k : Int
  e : Int
  u : Int
  v : Int
  b : Int
abbrev opV (x : Op) : Value := .agg #[.int .i64 x.k, .int .i64 x.e, .int .i64 x.u, .int .i64 x.v, .int .u32 x.b]
abbrev opC (x : Op) : Array Value := #[.int .i64 x.k, .int .i64 x.e, .int .i64 x.u, .int .i64 x.v, .int .u32 x.b]
structure Op.fit (x : Op) : Prop where
  k : -9223372036854775808 ≤ x.k ∧ x.k ≤ 9223372036854775807
  e : -9223372036854775808 ≤ x.e ∧ x.e ≤ 9223372036854775807
  u : -9223372036854775808 ≤ x.u ∧ x.u ≤ 9223372036854775807
  v : -9223372036854775808 ≤ x.v ∧ x.v ≤ 9223372036854775807
  b : 0 ≤ x.b ∧ x.b < 4294967296
def Op.sel (x : Op) : Nat → Int
  | 1 => x.e
  | 2 => x.u
  | _ => x.v

/-! ### Numbers -/
def num (n : Nat) : Bs := if h : n < 128 then [UInt8.ofNat n] else UInt8.ofNat (n % 128 + 128) :: num (n / 128)
termination_by n
decreasing_by omega
theorem num_lt {n : Nat} (h : n < 128) : num n = [UInt8.ofNat n] := by rw [num, dif_pos h]
theorem num_ge {n : Nat} (h : ¬ n < 128) : num n = UInt8.ofNat (n % 128 + 128) :: num (n / 128) := by rw [num, dif_neg h]
theorem num_len (n : Nat) : (num n).length ≤ n / 128 + 1 := by
  induction n using Nat.strongRecOn with
  | _ n ih =>
    by_cases h : n < 128
    · rw [num_lt h]; simp
    · rw [num_ge h]
      have := ih (n / 128) (by omega)
      simp only [List.length_cons]
      omega
theorem num_len5 {n : Nat} (h : n < 34359738368) : (num n).length ≤ 5 := by
  by_cases h1 : n < 128
  · rw [num_lt h1]; simp
  rw [num_ge h1]
  by_cases h2 : n / 128 < 128
  · rw [num_lt h2]; simp
  rw [num_ge h2]
  by_cases h3 : n / 128 / 128 < 128
  · rw [num_lt h3]; simp
  rw [num_ge h3]
  by_cases h4 : n / 128 / 128 / 128 < 128
  · rw [num_lt h4]; simp
  rw [num_ge h4, num_lt (by omega)]; simp
theorem bv_of (n : Nat) (h : n < 256) : bv (UInt8.ofNat n) = .int .u8 n := by
  unfold bv
  rw [UInt8.toNat_ofNat']
  congr 1
  omega
theorem or128 (n : Nat) : (BitVec.ofInt 8 (IntKind.u8.wrap (n : Int)) ||| BitVec.ofInt 8 128).toNat = n % 128 + 128 := by
  have h : IntKind.u8.wrap (n : Int) = ((n % 256 : Nat) : Int) := by
    simp [IntKind.wrap, IntKind.signed, IntKind.bits]
  rw [h]
  have key : ∀ x : Fin 256, (BitVec.ofInt 8 ((x.val : Nat) : Int) ||| BitVec.ofInt 8 128).toNat = x.val % 128 + 128 := by decide
  have := key ⟨n % 256, by omega⟩
  simp only at this
  rw [this]; omega
theorem u8_nat (n : Nat) (h : n < 256) : IntKind.u8.wrap (n : Int) = n := IntWalk.u8_in _ ⟨by omega, by omega⟩

section
variable [Av]
theorem put_spec {w : World} {base n c : Nat} {a : Option Addr} {xs : List Value} (ho : w.ownsRow base 5 1 (.slice a n c) n xs) (hb : base ≤ w.heap.size) (hn : n ≤ 1000000000000) (m : Nat) (hm : m < 34359738368) :
    Calls Try.prog 77 #[.slice a n c, .int .i64 m] w fun e w' => ∃ (a2 : Option Addr) (c2 : Nat), e = .returned (.slice a2 (n + (num m).length) c2) ∧ w'.ownsRow base 5 1 (.slice a2 (n + (num m).length) c2) (n + (num m).length) (xs ++ bvs (num m)) ∧ Keep (OB a) w w' ∧ (∀ b, OB a2 b → OB a b ∨ w.heap.size ≤ b) := by
  refine c77 ?_
  unfold sh77
  refine ⟨fun vs v => ∃ (a' : Option Addr) (n' c' m' : Nat) (pre : Bs), vs = [.slice a' n' c', .int .i64 m'] ∧ m' ≤ m ∧ pre ++ num m' = num m ∧ n' = n + pre.length ∧ v.ownsRow base 5 1 (.slice a' n' c') n' (xs ++ bvs pre) ∧ Keep (OB a) w v ∧ (∀ b, OB a' b → OB a b ∨ w.heap.size ≤ b),
    fun vs v => match vs with | [_, .int _ i] => i.toNat | _ => 0, ⟨a, n, c, m, [], rfl, Nat.le_refl _, rfl, rfl, by rw [show bvs [] = [] from rfl, List.append_nil]; exact ho, Keep.refl _ _, fun b hb => .inl hb⟩, ?_⟩
  rintro w5 a' n' c' n4 ⟨a1, n1, c1, m', pre, hv, hm', hpre, hn', ho5, k5, hw5⟩
  simp only [List.cons.injEq, Value.slice.injEq, Value.int.injEq, true_and, and_true] at hv
  obtain ⟨⟨rfl, rfl, rfl⟩, rfl⟩ := hv
  have hlen : pre.length + (num m').length = (num m).length := by rw [← hpre]; simp
  have hl5 := num_len5 hm
  -- one byte more
  have app : ∀ (v : Int) (x : Nat), v = (x : Nat) → x < 256 → ∀ (K : Option Addr → Nat → Nat → World → Prop),
      (∀ a2 c2 w', w'.ownsRow base 5 1 (.slice a2 (n' + 1) c2) (n' + 1) (xs ++ bvs (pre ++ [UInt8.ofNat x])) → Keep (OB a) w w' → (∀ b, OB a2 b → OB a b ∨ w.heap.size ≤ b) → K a2 (n' + 1) c2 w') →
      RunWp Try.prog (Builtin.append_ #[36, 36] 36 #[.slice a' n' c', .slice (some ⟨w5.heap.size, 0, none⟩) 1 1]) (fun v w' => ∃ (a2 : Option Addr) (n2 c2 : Nat), v = .slice a2 n2 c2 ∧ K a2 n2 c2 w') (w5.alloc (.cells #[.int .u8 v] 5)) := by
    rintro v x rfl hx K hK
    have b9 : Bk (w5.alloc (.cells #[.int .u8 (x : Nat)] 5)) w5.heap.size #[.int .u8 (x : Nat)] 5 := Bk.new _ _ _
    have k9 : Keep no w5 (w5.alloc (.cells #[.int .u8 (x : Nat)] 5)) := Keep.alloc _ _ _
    refine rw_append E36 (own_keep ho5 k9 fun _ _ h => h) (Rd.blk0 (sz := 1) (n := 1) b9 rfl (by simp [maxLen])) (by simp [one1]) (by omega) (by simp only [maxLen]; omega) (Nat.le_trans hb (Nat.le_trans k5.size k9.size)) fun a2 c2 w' ho' k' hw' => ?_
    refine hK a2 c2 w' ?_ ?_ ?_
    · have e : bvs (pre ++ [UInt8.ofNat x]) = bvs pre ++ [.int .u8 (x : Nat)] := by rw [bvs_append]; simp only [bvs, List.map_cons, List.map_nil, bv_of x hx]
      rw [e, ← List.append_assoc]; exact ho'
    · refine (k5.no k9).trans k' (fun _ _ h => h) fun y hy hz => ?_
      rcases hw5 y hz with h | h
      · exact h
      · omega
    · intro b hb2
      rcases hw' with rfl | rfl
      · exact hw5 b hb2
      · obtain ⟨z, hz, rfl⟩ := hb2
        cases hz
        exact .inr (Nat.le_trans k5.size k9.size)
  refine cond_d (fun hge => ?_) (fun hlt => ?_)
  · have hge' : ¬ m' < 128 := by omega
    rw [num_ge hge'] at hpre hlen
    intro p8 w9
    refine app _ (m' % 128 + 128) ?_ (by omega) _ fun a2 c2 w' ho' k' hw' => ?_
    · rw [or128]; exact u8_nat _ (by omega)
    have hdiv : Int.fdiv (m' : Int) (2 ^ (min (7 : Int).toNat 64)) = ((m' / 128 : Nat) : Int) := by
      show Int.fdiv (m' : Int) 128 = _
      rw [Int.fdiv_eq_ediv_of_nonneg _ (by omega)]; rfl
    rw [hdiv]
    refine ⟨by omega, ⟨a2, n' + 1, c2, m' / 128, pre ++ [UInt8.ofNat (m' % 128 + 128)], rfl, by omega, by rw [← hpre]; simp, by simp; omega, ho', k', hw'⟩, ?_⟩
    show ((m' / 128 : Nat) : Int).toNat < (m' : Int).toNat
    omega
  · have hlt' : m' < 128 := by omega
    rw [num_lt hlt'] at hpre hlen
    intro p13 w14
    refine app _ m' (u8_nat _ (by omega)) (by omega) _ fun a2 c2 w' ho' k' hw' => ?_
    have e : n' + 1 = n + (num m).length := by simp at hlen; omega
    rw [hpre, e] at ho'
    rw [e]
    exact ⟨a2, c2, rfl, ho', k', hw'⟩
end
end Go.Proofs.Ytmfidfaiopogbaa
/- The check of the bytes, and the shapes of the kinds. -/
set_option linter.unusedVariables false
set_option linter.unusedSimpArgs false
set_option linter.unusedSectionVars false
set_option maxRecDepth 4000
namespace Go.Proofs.Ytmfidfaiopogbaa
open Go Go.Sh

def chk (l : Bs) : UInt8 := l.foldl (· ^^^ ·) 90
theorem xor8 (x y : UInt8) : IntKind.u8.wrap (((BitVec.ofInt 8 (x.toNat : Int) ^^^ BitVec.ofInt 8 (y.toNat : Int)).toNat : Nat) : Int) = ((x ^^^ y).toNat : Int) := by
  rw [BitVec.ofInt_natCast, BitVec.ofInt_natCast, BitVec.toNat_xor, BitVec.toNat_ofNat, BitVec.toNat_ofNat, Nat.mod_eq_of_lt x.toNat_lt, Nat.mod_eq_of_lt y.toNat_lt, ← UInt8.toNat_xor]
  exact u8_nat _ (UInt8.toNat_lt _)
theorem chk_snoc (l : Bs) (x : UInt8) : chk (l ++ [x]) = chk l ^^^ x := by simp [chk]

/-- The numbers that a kind uses (which, from, to), and whether it uses the weight. -/
def shp (k : Int) : Option (List (Nat × Int × Int) × Bool) :=
  if k = 1 ∨ k = 2 ∨ k = 6 ∨ k = 7 then some ([(3, 0, 2147483647)], false)
  else if k = 3 then some ([(1, 1, 1024), (2, 0, 2147483647), (3, 0, 2147483647)], true)
  else if k = 4 then some ([(1, 1, 1024)], false)
  else if k = 5 then some ([(1, 1, 1024)], true) else none
def fcs : List (Nat × Int × Int) → List Value
  | [] => []
  | f :: r => .func (.func (96 + f.1)) #[] #[] :: .int .i64 f.2.1 :: .int .i64 f.2.2 :: fcs r
theorem fcs_at : ∀ (l : List (Nat × Int × Int)) (i : Nat) (f : Nat × Int × Int), l[i]? = some f → (fcs l)[i * 3]? = some (.func (.func (96 + f.1)) #[] #[]) ∧ (fcs l)[i * 3 + 1]? = some (.int .i64 f.2.1) ∧ (fcs l)[i * 3 + 2]? = some (.int .i64 f.2.2)
  | [], i, f, h => by simp at h
  | g :: r, 0, f, h => by simp at h; subst h; exact ⟨rfl, rfl, rfl⟩
  | g :: r, i + 1, f, h => by
    have := fcs_at r i f (by simpa using h)
    rw [Nat.add_mul, show i * 3 + 1 * 3 + 1 = (i * 3 + 1) + 3 by omega, show i * 3 + 1 * 3 + 2 = (i * 3 + 2) + 3 by omega]
    simpa [fcs] using this

section
variable [Av]
/-- A loop that makes the check. -/
theorem check_spec {w : World} {e2 : Nat} {a : Option Addr} {n c : Nat} {l : Bs} (h : Rd w e2 1 a n c (bvs l)) :
    Calls Try.prog 78 #[.slice a n c] w fun e w' => e = .returned (.int .u8 (chk l).toNat) ∧ w' = w := by
  have hn : n = l.length := by have := h.1; simp at this; exact this.symm
  refine c78 ?_
  unfold sh78
  refine ⟨fun vs v => ∃ i : Nat, vs = [.int .u8 (chk (l.take i)).toNat, .int .i64 i] ∧ i ≤ n ∧ v = w, fun vs v => match vs with | [_, .int _ i] => n - i.toNat | _ => 0, ⟨0, rfl, by omega, rfl⟩, ?_⟩
  rintro w4 c2 n3 ⟨i, hv, hi, rfl⟩
  simp only [List.cons.injEq, Value.int.injEq, true_and, and_true] at hv
  obtain ⟨rfl, rfl⟩ := hv
  refine cond_d (fun hlt => ?_) (fun hge => ?_)
  · have hi' : i < l.length := by omega
    obtain ⟨q, hq, hc⟩ := h.at_ (i := i) (by omega)
    obtain ⟨u, hu, hcu⟩ := hc 0 (by omega)
    rw [Nat.mul_one, Nat.add_zero] at hu
    simp only [bvs, List.getElem?_map, List.getElem?_eq_getElem hi', Option.map_some, Option.some.injEq] at hu
    subst hu
    rw [addZ] at hcu
    refine ⟨q, hq, by omega, by omega, _, by rw [Int.toNat_natCast]; exact hcu, ?_⟩
    have hm := h.2.2.1
    have hc2 := h.2.1
    simp only [maxLen] at hm
    have ei : IntKind.i64.wrap ((i : Int) + 1) = ((i + 1 : Nat) : Int) := by rw [IntWalk.i64_in _ ⟨by omega, by omega⟩]; rfl
    rw [ei, xor8, ← chk_snoc, ← List.take_succ_eq_append_getElem hi']
    refine ⟨⟨i + 1, rfl, by omega, rfl⟩, ?_⟩
    show n - ((i + 1 : Nat) : Int).toNat < n - (i : Int).toNat
    omega
  · have : l.take i = l := List.take_of_length_le (by omega)
    rw [this]
    exact ⟨rfl, rfl⟩

theorem fin2 {w : World} {p : Nat} {a b : Value} {C : Array Value} {e : TypeId} (h : Bk w p C e) (hC : C.size = 2) :
    wrN w ⟨p, 0, none⟩ 2 ∧ (setN ⟨p, 0, none⟩ 0 [a, b] w).cell? ⟨p, 0, none⟩ = some a ∧ (setN ⟨p, 0, none⟩ 0 [a, b] w).cell? ⟨p, 1, none⟩ = some b ∧ Keep (is p) w (setN ⟨p, 0, none⟩ 0 [a, b] w) := by
  have h' := h.setAll (vs := [a, b]) (by rw [hC]; rfl)
  exact ⟨h.wrN (by rw [hC]; decide), h'.cell 0, h'.cell 1, setN_keep (S := is p) (a := ⟨p, 0, none⟩) rfl _ _ _⟩

theorem shapes_spec (w : World) (k : Int) : Calls Try.prog 76 #[.int .i64 k] w fun e w' => ∃ s : Sv, e = .returned (.tuple #[.agg #[s.v, .bool ((shp k).getD ([], false)).2], .bool (shp k).isSome]) ∧
    Rd w' 133 3 s.a s.n s.c (fcs ((shp k).getD ([], false)).1) ∧ s.n = ((shp k).getD ([], false)).1.length ∧ Keep no w w' := by
  refine c76 ?_
  unfold sh76
  intro p2 w3 p4 w5
  have b2 : Bk w5 p2 #[.slice none 0 0, .bool false] 128 := (Bk.new w _ _).alloc _
  have b4 : Bk w5 p4 #[.nilFunc, .int .i64 0, .int .i64 0] 133 := Bk.new w3 _ _
  have k5 : Keep no w w5 := (Keep.alloc no w _).then (Keep.alloc no w3 _)
  have h2 : w.heap.size ≤ p2 := Nat.le_refl _
  have h4 : w.heap.size ≤ p4 := by show w.heap.size ≤ w3.heap.size; simp [w3]
  clear_value p2 p4 w3 w5
  refine ⟨b4.wrN (by simp), ?_⟩
  intro w6 p7 w8
  have c4 : Bk w6 p4 #[.func (.func 97) #[] #[], .int .i64 1, .int .i64 1024] 133 := b4.setAll rfl
  have k6 : Keep (is p4) w5 w6 := setN_keep (S := is p4) (a := ⟨p4, 0, none⟩) rfl _ _ _
  have c2 : Bk w6 p2 _ _ := b2.keep k6 fun h => (b2.ty.ne b4.ty (by decide)) h
  have d4 : Bk w8 p4 _ _ := c4.alloc _
  have d2 : Bk w8 p2 _ _ := c2.alloc _
  have d7 : Bk w8 p7 #[.nilFunc, .int .i64 0, .int .i64 0] 133 := Bk.new w6 _ _
  have h47 : p4 < p7 := c4.lt
  have k8 : Keep no w w8 := (k5.new k6 (by rintro z rfl; exact h4)).then (Keep.alloc no w6 _)
  have h7 : w.heap.size ≤ p7 := by omega
  clear_value w6 p7 w8
  refine ⟨d7.wrN (by simp), ?_⟩
  intro w9 p10 w11
  have e7 : Bk w9 p7 #[.func (.func 98) #[] #[], .int .i64 0, .int .i64 2147483647] 133 := d7.setAll rfl
  have k9 : Keep (is p7) w8 w9 := setN_keep (S := is p7) (a := ⟨p7, 0, none⟩) rfl _ _ _
  have e2 : Bk w9 p2 _ _ := d2.keep k9 fun h => (d2.ty.ne d7.ty (by decide)) h
  have e4 : Bk w9 p4 _ _ := d4.keep k9 (by unfold is; omega)
  have f2 : Bk w11 p2 _ _ := e2.alloc _
  have f4 : Bk w11 p4 _ _ := e4.alloc _
  have f7 : Bk w11 p7 _ _ := e7.alloc _
  have f10 : Bk w11 p10 #[.nilFunc, .int .i64 0, .int .i64 0] 133 := Bk.new w9 _ _
  have h710 : p7 < p10 := e7.lt
  have k11 : Keep no w w11 := (k8.new k9 (by rintro z rfl; exact h7)).then (Keep.alloc no w9 _)
  have h10 : w.heap.size ≤ p10 := by omega
  clear_value w9 p10 w11
  refine ⟨f10.wrN (by simp), ?_⟩
  intro w12
  have g10 : Bk w12 p10 #[.func (.func 99) #[] #[], .int .i64 0, .int .i64 2147483647] 133 := f10.setAll rfl
  have k12 : Keep (is p10) w11 w12 := setN_keep (S := is p10) (a := ⟨p10, 0, none⟩) rfl _ _ _
  have g2 : Bk w12 p2 _ _ := f2.keep k12 fun h => (f2.ty.ne f10.ty (by decide)) h
  have g4 : Bk w12 p4 _ _ := f4.keep k12 (by unfold is; omega)
  have g7 : Bk w12 p7 _ _ := f7.keep k12 (by unfold is; omega)
  have K12 : Keep no w w12 := k11.new k12 (by rintro z rfl; exact h10)
  clear_value w12
  clear k12 f10 f7 f4 f2 k11 e4 e2 k9 e7 d7 d2 d4 k8 c2 k6 c4 b4 b2 k5
  -- the end: a row of fields
  have done : ∀ (v : World) (C : Array Value) (n : Nat) (fs : List (Nat × Int × Int)) (bt : Bool), Bk v p2 #[.slice none 0 0, .bool false] 128 → Keep no w v → C.toList = fcs fs → fs.length = n → C.size = n * 3 → n ≤ maxLen → shp k = some (fs, bt) →
      wrN (v.alloc (.cells C 133)) ⟨p2, 0, none⟩ 2 ∧ ∃ (a47 : Option Addr) (l_a47 c_a47 : Nat) (b48 : Bool), (setN ⟨p2, 0, none⟩ 0 [.slice (some ⟨v.heap.size, 0, none⟩) n n, .bool bt] (v.alloc (.cells C 133))).cell? ⟨p2, 0, none⟩ = some (.slice a47 l_a47 c_a47) ∧
        (setN ⟨p2, 0, none⟩ 0 [.slice (some ⟨v.heap.size, 0, none⟩) n n, .bool bt] (v.alloc (.cells C 133))).cell? ⟨p2, 1, none⟩ = some (.bool b48) ∧
        ∃ s : Sv, Ending.returned (.tuple #[.agg #[.slice a47 l_a47 c_a47, .bool b48], .bool true]) = .returned (.tuple #[.agg #[s.v, .bool ((shp k).getD ([], false)).2], .bool (shp k).isSome]) ∧
          Rd (setN ⟨p2, 0, none⟩ 0 [.slice (some ⟨v.heap.size, 0, none⟩) n n, .bool bt] (v.alloc (.cells C 133))) 133 3 s.a s.n s.c (fcs ((shp k).getD ([], false)).1) ∧ s.n = ((shp k).getD ([], false)).1.length ∧
          Keep no w (setN ⟨p2, 0, none⟩ 0 [.slice (some ⟨v.heap.size, 0, none⟩) n n, .bool bt] (v.alloc (.cells C 133))) := by
    intro v C n fs bt hB kv hC hfn hCs hm hk
    have bN : Bk (v.alloc (.cells C 133)) v.heap.size C 133 := Bk.new _ _ _
    have h2' := hB.alloc (.cells C 133)
    obtain ⟨e1, e2, e3, e4⟩ := fin2 (a := .slice (some ⟨v.heap.size, 0, none⟩) n n) (b := .bool bt) h2' rfl
    refine ⟨e1, _, _, _, _, e2, e3, ⟨some ⟨v.heap.size, 0, none⟩, n, n⟩, by rw [hk]; rfl, ?_, by rw [hk]; exact hfn.symm, ?_⟩
    · have := Rd.blk bN hCs hm
      rw [hC] at this
      rw [hk]
      exact this.keep e4 (by rintro z rfl ht; exact absurd (ht.uniq h2'.ty) (by decide))
    · exact (kv.then (Keep.alloc no v _)).new e4 (by rintro z rfl; exact h2)
  intro K15
  have fin : ∀ b : Bool, (b = true ↔ (k = 1 ∨ k = 2 ∨ k = 6 ∨ k = 7)) → K15 b w12 := by
    intro b hb
    refine cond_i (fun h => ?_) (fun h => ?_)
    · refine ⟨_, _, _, g10.cell 0, g10.cell 1, g10.cell 2, ?_⟩
      exact done w12 _ 1 [(3, 0, 2147483647)] false g2 K12 rfl rfl rfl (by simp [maxLen]) (by unfold shp; rw [if_pos (hb.1 h)])
    · have hk : ¬ (k = 1 ∨ k = 2 ∨ k = 6 ∨ k = 7) := fun hk => by rw [hb.2 hk] at h; cases h
      refine cond_i (fun h3 => ?_) (fun h3 => ?_)
      · have h3' : k = 3 := by simpa using h3
        refine ⟨_, _, _, g4.cell 0, g4.cell 1, g4.cell 2, _, _, _, g7.cell 0, g7.cell 1, g7.cell 2, _, _, _, g10.cell 0, g10.cell 1, g10.cell 2, ?_⟩
        exact done w12 _ 3 [(1, 1, 1024), (2, 0, 2147483647), (3, 0, 2147483647)] true g2 K12 rfl rfl rfl (by simp [maxLen]) (by unfold shp; rw [if_neg hk, if_pos h3'])
      · have h3' : ¬ k = 3 := by simpa using h3
        refine cond_i (fun h4 => ?_) (fun h4 => ?_)
        · have h4' : k = 4 := by simpa using h4
          refine ⟨_, _, _, g4.cell 0, g4.cell 1, g4.cell 2, ?_⟩
          exact done w12 _ 1 [(1, 1, 1024)] false g2 K12 rfl rfl rfl (by simp [maxLen]) (by unfold shp; rw [if_neg hk, if_neg h3', if_pos h4'])
        · have h4' : ¬ k = 4 := by simpa using h4
          refine cond_i (fun h5 => ?_) (fun h5 => ?_)
          · have h5' : k = 5 := by simpa using h5
            refine ⟨_, _, _, g4.cell 0, g4.cell 1, g4.cell 2, ?_⟩
            exact done w12 _ 1 [(1, 1, 1024)] true g2 K12 rfl rfl rfl (by simp [maxLen]) (by unfold shp; rw [if_neg hk, if_neg h3', if_neg h4', if_pos h5'])
          · have h5' : ¬ k = 5 := by simpa using h5
            have hnone : shp k = none := by unfold shp; rw [if_neg hk, if_neg h3', if_neg h4', if_neg h5']
            obtain ⟨e1, e2, e3, e4⟩ := fin2 (a := .slice none 0 0) (b := .bool false) g2 rfl
            refine ⟨e1, _, _, _, _, e2, e3, ⟨none, 0, 0⟩, by rw [hnone]; rfl, by rw [hnone]; exact Rd.nil _ _ _, by rw [hnone]; rfl, K12.new e4 (by rintro z rfl; exact h2)⟩
  clear_value K15
  refine cond_i (fun h1 => fin _ ?_) (fun h1 => ?_)
  · have : k = 1 := by simpa using h1
    simp [h1, this]
  · have n1 : ¬ k = 1 := by simpa using h1
    refine cond_i (fun h2' => fin _ ?_) (fun h2' => ?_)
    · have : k = 2 := by simpa using h2'
      simp [this]
    · have n2 : ¬ k = 2 := by simpa using h2'
      refine cond_i (fun h6 => fin _ ?_) (fun h6 => fin _ ?_)
      · have : k = 6 := by simpa using h6
        simp [this]
      · have n6 : ¬ k = 6 := by simpa using h6
        simp [n1, n2, n6]
end
end Go.Proofs.Ytmfidfaiopogbaa
/- Encode, the program's. -/
set_option linter.unusedVariables false
set_option linter.unusedSimpArgs false
set_option linter.unusedSectionVars false
set_option maxRecDepth 4000
namespace Go.Proofs.Ytmfidfaiopogbaa
open Go Go.Sh

def kb (k : Int) : UInt8 := UInt8.ofNat k.toNat
def bits4 (b : Nat) : Bs := [UInt8.ofNat (b % 256), UInt8.ofNat (b / 256 % 256), UInt8.ofNat (b / 65536 % 256), UInt8.ofNat (b / 16777216 % 256)]
def numsOf (x : Op) (fs : List (Nat × Int × Int)) : Bs := fs.flatMap fun f => num (x.sel f.1).toNat
def okf (x : Op) (f : Nat × Int × Int) : Prop := f.2.1 ≤ x.sel f.1 ∧ x.sel f.1 ≤ f.2.2
instance (x : Op) (f : Nat × Int × Int) : Decidable (okf x f) := by unfold okf; infer_instance
def body (x : Op) (s : List (Nat × Int × Int) × Bool) : Bs := kb x.k :: (numsOf x s.1 ++ bif s.2 then bits4 x.b.toNat else [])
def sealed (b : Bs) : Bs := (UInt8.ofNat b.length :: b) ++ [chk (UInt8.ofNat b.length :: b)]
/-- The record of an operation, if it has one. -/
def enc (x : Op) : Option Bs :=
  match shp x.k with
  | none => none
  | some s => if ∀ f ∈ s.1, okf x f then some (sealed (body x s)) else none

theorem shp_f {k : Int} {s : List (Nat × Int × Int) × Bool} (h : shp k = some s) : s.1.length ≤ 3 ∧ (∀ f ∈ s.1, (f.1 = 1 ∨ f.1 = 2 ∨ f.1 = 3) ∧ 0 ≤ f.2.1 ∧ f.2.2 ≤ 2147483647) ∧ 1 ≤ k ∧ k ≤ 7 := by
  unfold shp at h
  split at h
  · cases h; simp; omega
  · split at h
    · cases h; simp; omega
    · split at h
      · cases h; simp; omega
      · split at h
        · cases h; simp; omega
        · cases h

section
variable [Av]
theorem sel_spec {w : World} {p j : Nat} (hj : j = 1 ∨ j = 2 ∨ j = 3) : Calls Try.prog (96 + j) #[.pointer (some ⟨p, 0, none⟩)] w fun e w' => e = .returned (.pointer (some ⟨p, j, none⟩)) ∧ w' = w := by
  rcases hj with rfl | rfl | rfl
  · exact c97 (by unfold sh97; rw [addP]; exact ⟨rfl, rfl⟩)
  · exact c98 (by unfold sh98; rw [addP]; exact ⟨rfl, rfl⟩)
  · exact c99 (by unfold sh99; rw [addP]; exact ⟨rfl, rfl⟩)
theorem op_cell {w : World} {p : Nat} {x : Op} (h : Bk w p (opC x) 57) {j : Nat} (hj : j = 1 ∨ j = 2 ∨ j = 3) : w.cell? ⟨p, j, none⟩ = some (.int .i64 (x.sel j)) := by
  rw [h.cell]
  rcases hj with rfl | rfl | rfl <;> rfl
theorem own_no {w w' : World} {base n c e : Nat} {a : Option Addr} {xs : List Value} (h : w.ownsRow base e 1 (.slice a n c) n xs) (k : Keep no w w') : w'.ownsRow base e 1 (.slice a n c) n xs := own_keep h k fun _ _ h => h

/-- The byte of the weight. -/
theorem bit_byte {b : Int} (h0 : 0 ≤ b) (h1 : b < 4294967296) {i : Nat} (hi : i < 4) :
    IntKind.u8.wrap (Int.fdiv b (2 ^ (min (IntKind.i64.wrap ((8 : Int) * (i : Int))).toNat 32))) = (((bits4 b.toNat)[i]?.getD 0).toNat : Int) := by
  obtain ⟨n, rfl⟩ := Int.eq_ofNat_of_zero_le h0
  have hw : ∀ m : Nat, IntKind.u8.wrap (m : Int) = ((m % 256 : Nat) : Int) := fun m => by simp [IntKind.wrap, IntKind.signed, IntKind.bits]
  have hu : ∀ m : Nat, m < 256 → (UInt8.ofNat m).toNat = m := fun m hm => by rw [UInt8.toNat_ofNat']; omega
  rw [IntWalk.i64_in _ ⟨by omega, by omega⟩]
  match i, hi with
  | 0, _ =>
    show IntKind.u8.wrap (Int.fdiv (n : Int) 1) = _
    rw [Int.fdiv_eq_ediv_of_nonneg _ (by omega), Int.ediv_one, hw]
    simp only [bits4, Int.toNat_natCast]
    rw [show ([UInt8.ofNat (n % 256), UInt8.ofNat (n / 256 % 256), UInt8.ofNat (n / 65536 % 256), UInt8.ofNat (n / 16777216 % 256)] : Bs)[0]?.getD 0 = UInt8.ofNat (n % 256) from rfl, hu _ (by omega)]
  | 1, _ =>
    show IntKind.u8.wrap (Int.fdiv (n : Int) 256) = _
    rw [Int.fdiv_eq_ediv_of_nonneg _ (by omega), show (n : Int) / 256 = ((n / 256 : Nat) : Int) from rfl, hw]
    simp only [bits4, Int.toNat_natCast]
    rw [show ([UInt8.ofNat (n % 256), UInt8.ofNat (n / 256 % 256), UInt8.ofNat (n / 65536 % 256), UInt8.ofNat (n / 16777216 % 256)] : Bs)[1]?.getD 0 = UInt8.ofNat (n / 256 % 256) from rfl, hu _ (by omega)]
  | 2, _ =>
    show IntKind.u8.wrap (Int.fdiv (n : Int) 65536) = _
    rw [Int.fdiv_eq_ediv_of_nonneg _ (by omega), show (n : Int) / 65536 = ((n / 65536 : Nat) : Int) from rfl, hw]
    simp only [bits4, Int.toNat_natCast]
    rw [show ([UInt8.ofNat (n % 256), UInt8.ofNat (n / 256 % 256), UInt8.ofNat (n / 65536 % 256), UInt8.ofNat (n / 16777216 % 256)] : Bs)[2]?.getD 0 = UInt8.ofNat (n / 65536 % 256) from rfl, hu _ (by omega)]
  | 3, _ =>
    show IntKind.u8.wrap (Int.fdiv (n : Int) 16777216) = _
    rw [Int.fdiv_eq_ediv_of_nonneg _ (by omega), show (n : Int) / 16777216 = ((n / 16777216 : Nat) : Int) from rfl, hw]
    simp only [bits4, Int.toNat_natCast]
    rw [show ([UInt8.ofNat (n % 256), UInt8.ofNat (n / 256 % 256), UInt8.ofNat (n / 65536 % 256), UInt8.ofNat (n / 16777216 % 256)] : Bs)[3]?.getD 0 = UInt8.ofNat (n / 16777216 % 256) from rfl, hu _ (by omega)]
theorem bits4_take (b : Nat) {i : Nat} (hi : i < 4) : (bits4 b).take (i + 1) = (bits4 b).take i ++ [(bits4 b)[i]?.getD 0] := by
  match i, hi with
  | 0, _ => rfl
  | 1, _ => rfl
  | 2, _ => rfl
  | 3, _ => rfl
theorem numsOf_len {x : Op} {fs : List (Nat × Int × Int)} (h : ∀ f ∈ fs, okf x f ∧ f.2.2 ≤ 2147483647) : (numsOf x fs).length ≤ 5 * fs.length := by
  induction fs with
  | nil => simp [numsOf]
  | cons f r ih =>
    have h1 := ih fun g hg => h g (List.mem_cons_of_mem _ hg)
    have h2 := h f (List.mem_cons_self ..)
    have h3 := num_len5 (n := (x.sel f.1).toNat) (by have := h2.1.2; omega)
    simp only [numsOf, List.flatMap_cons, List.length_append, List.length_cons] at h1 ⊢
    omega

/-- What Encode answers. -/
def EncD (w w' : World) (x : Op) (e : Ending) : Prop :=
  ∃ (s : Sv) (c : Int), e = .returned (.tuple #[s.v, .int .i64 c]) ∧ Keep no w w' ∧
    ((enc x = none ∧ c = 190 ∧ s = ⟨none, 0, 0⟩) ∨ ∃ l, enc x = some l ∧ c = 0 ∧ w'.ownsRow w.heap.size 5 1 s.v s.n (bvs l))

theorem Encode_spec (w : World) {x : Op} (hx : x.fit) : Calls Try.prog 37 #[opV x] w fun e w' => EncD w w' x e := by
  refine c37 ?_
  unfold sh37
  intro p6 w7
  have b6 : Bk w7 p6 (opC x) 57 := Bk.new w _ _
  have k7 : Keep no w w7 := Keep.alloc _ _ _
  have h6 : w.heap.size ≤ p6 := Nat.le_refl _
  clear_value p6 w7
  refine ⟨_, b6.cell 0, ?_⟩
  refine (shapes_spec w7 x.k).mono ?_
  rintro e w10 ⟨s, rfl, hs, hsn, k10⟩
  refine ⟨_, _, _, _, _, rfl, ?_⟩
  intro p14 w15
  have b14 : Bk w15 p14 #[.slice none 0 0, .bool false] 128 := Bk.new w10 _ _
  have k15 : Keep no w10 w15 := Keep.alloc _ _ _
  have h14 : w10.heap.size ≤ p14 := Nat.le_refl _
  clear_value p14 w15
  refine ⟨b14.wrN (by simp), ?_⟩
  generalize hsh : shp x.k = sh at hs hsn ⊢
  intro w16
  have c14 : Bk w16 p14 #[s.v, .bool (sh.getD ([], false)).2] 128 := b14.setAll rfl
  have k16 : Keep (is p14) w15 w16 := setN_keep (S := is p14) (a := ⟨p14, 0, none⟩) rfl _ _ _
  clear_value w16
  have k1016 : Keep no w10 w16 := k15.new k16 (by rintro z rfl; exact h14)
  have K16 : Keep no w w16 := (k7.then k10).then k1016
  have c6 : Bk w16 p6 _ _ := (b6.no k10).no k1016
  cases sh with
  | none =>
    refine cond_t rfl ?_
    exact ⟨⟨none, 0, 0⟩, _, rfl, K16, .inl ⟨by unfold enc; rw [hsh], rfl, rfl⟩⟩
  | some sp =>
    obtain ⟨fs, bt⟩ := sp
    obtain ⟨hf3, hfr, hk1, hk7⟩ := shp_f hsh
    simp only [Option.getD_some] at hs hsn c14 hf3 hfr
    refine cond_f rfl ?_
    refine ⟨_, c6.cell 0, ?_⟩
    have hkb : IntKind.u8.wrap x.k = (kb x.k).toNat := by
      rw [IntWalk.u8_in _ ⟨by omega, by omega⟩]
      unfold kb
      rw [UInt8.toNat_ofNat']
      omega
    rw [hkb]
    intro p18 w19
    have o19 : w19.ownsRow w.heap.size 5 1 (.slice (some ⟨p18, 0, none⟩) 2 2) 2 (bvs [0, kb x.k]) := World.ownsRow_lit w16 #[.int .u8 0, .int .u8 (kb x.k).toNat] 2 K16.size (by simp [maxLen]) rfl
    have k19 : Keep no w16 w19 := Keep.alloc _ _ _
    have h18 : w16.heap.size ≤ p18 := Nat.le_refl _
    clear_value p18 w19
    have d14 := c14.no k19
    have d6 := c6.no k19
    have hs19 := (hs.no k1016).no k19
    have K19 := K16.then k19
    refine ⟨s.a, s.n, s.c, d14.cell 0, ?_⟩
    refine ⟨fun vs v => ∃ (i : Nat) (a : Option Addr) (n c : Nat), vs = [.slice none 0 0, .int .i64 0, .slice a n c, .int .i64 i] ∧ i ≤ fs.length ∧ (∀ f ∈ fs.take i, okf x f) ∧ n = 2 + (numsOf x (fs.take i)).length ∧
        v.ownsRow w.heap.size 5 1 (.slice a n c) n (bvs ([0, kb x.k] ++ numsOf x (fs.take i))) ∧ Bk v p6 (opC x) 57 ∧ Bk v p14 #[s.v, .bool bt] 128 ∧ Rd v 133 3 s.a s.n s.c (fcs fs) ∧ Keep no w v,
      fun vs v => match vs with | [_, _, _, .int _ i] => fs.length - i.toNat | _ => 0,
      ⟨0, some ⟨p18, 0, none⟩, 2, 2, rfl, by omega, by simp, rfl, o19, d6, d14, hs19, K19⟩, ?_⟩
    rintro w25 a21 l21 cc21 n22 b23 l23 c23 n24 ⟨i, a, n, c, hv, hi, hok, hn, ho, e6, e14, hr, K25⟩
    simp only [List.cons.injEq, Value.slice.injEq, Value.int.injEq, true_and, and_true] at hv
    obtain ⟨⟨rfl, rfl, rfl⟩, rfl, ⟨rfl, rfl, rfl⟩, rfl⟩ := hv
    have hlen5 : (numsOf x (fs.take i)).length ≤ 5 * (fs.take i).length := numsOf_len fun f hf => ⟨hok f hf, (hfr f (List.mem_of_mem_take hf)).2.2⟩
    have htk : (fs.take i).length ≤ 3 := by rw [List.length_take]; omega
    refine cond_d (fun hlt => ?_) (fun hge => ?_)
    · -- a number
      have hi' : i < fs.length := by omega
      obtain ⟨q, hq, hc⟩ := hr.at_ (i := i) (by omega)
      have hfi : fs[i]? = some fs[i] := List.getElem?_eq_getElem hi'
      obtain ⟨g0, g1, g2⟩ := fcs_at fs i _ hfi
      obtain ⟨hj, hlo, hhi⟩ := hfr _ (List.getElem_mem hi')
      generalize hff : fs[i] = f at g0 g1 g2 hj hlo hhi
      have hcell : ∀ j u, j < 3 → (fcs fs)[i * 3 + j]? = some u → w25.cell? ((q.add (i * 3)).add j) = some u := by
        intro j u hj hu
        obtain ⟨u', hu', hc'⟩ := hc j hj
        rw [hu] at hu'; cases hu'; exact hc'
      refine ⟨q, hq, by omega, by omega, ?_⟩
      rw [Int.toNat_natCast]
      refine ⟨_, _, _, by have := hcell 0 _ (by omega) g0; rwa [addZ] at this, hcell 1 _ (by omega) g1, hcell 2 _ (by omega) g2, ?_⟩
      intro p32 w33
      have b32 : Bk w33 p32 #[.nilFunc, .int .i64 0, .int .i64 0] 133 := Bk.new w25 _ _
      have k33 : Keep no w25 w33 := Keep.alloc _ _ _
      have h32 : w25.heap.size ≤ p32 := Nat.le_refl _
      clear_value p32 w33
      refine cond_t rfl ⟨b32.wrN (by simp), ?_⟩
      intro w34
      have c32 : Bk w34 p32 #[.func (.func (96 + f.1)) #[] #[], .int .i64 f.2.1, .int .i64 f.2.2] 133 := b32.setAll rfl
      have k34 : Keep (is p32) w33 w34 := setN_keep (S := is p32) (a := ⟨p32, 0, none⟩) rfl _ _ _
      clear_value w34
      have k2534 : Keep no w25 w34 := k33.new k34 (by rintro z rfl; exact h32)
      have f6 := e6.no k2534
      refine ⟨_, c32.cell 0, ?_⟩
      show cond (cl (96 + f.1)) _ _
      refine cond_t (by rcases hj with h | h | h <;> rw [h] <;> rfl) ?_
      show Calls Try.prog (96 + f.1) #[.pointer (some ⟨p6, 0, none⟩)] _ _
      refine (sel_spec hj).mono ?_
      rintro e w39 ⟨rfl, rfl⟩
      refine ⟨_, rfl, _, op_cell f6 hj, ?_⟩
      intro K50
      have bad : ∀ n45 b46 b47, ¬ okf x f → K50 n45 b46 b47 true w39 := by
        intro n45 b46 b47 hbad
        refine cond_t rfl ?_
        refine ⟨⟨none, 0, 0⟩, _, rfl, K25.then k2534, .inl ⟨?_, rfl, rfl⟩⟩
        unfold enc; rw [hsh]
        exact if_neg fun h => hbad (h f (hff ▸ List.getElem_mem hi'))
      have ok : ∀ n45 b46 b47, okf x f → K50 n45 b46 b47 false w39 := by
        intro n45 b46 b47 hgood
        refine cond_f rfl ?_
        have h0 : 0 ≤ x.sel f.1 := Int.le_trans hlo hgood.1
        have hm : x.sel f.1 = ((x.sel f.1).toNat : Int) := by omega
        rw [hm]
        have ho39 := own_no ho k2534
        refine (put_spec ho39 (K25.then k2534).size (by omega) (x.sel f.1).toNat (by have := hgood.2; omega)).mono ?_
        rintro e w52 ⟨a2, c2, rfl, ho52, k52, hw52⟩
        refine ⟨_, _, _, rfl, ?_⟩
        have t5 : ∀ y, OB b23 y → TyB w39 y 5 ∧ w.heap.size ≤ y := fun y hy => ⟨(own_block ho39 hy).2, (own_block ho39 hy).1⟩
        have ei : IntKind.i64.wrap ((i : Int) + 1) = ((i + 1 : Nat) : Int) := by rw [IntWalk.i64_in _ ⟨by omega, by omega⟩]; rfl
        rw [ei]
        have htake : fs.take (i + 1) = fs.take i ++ [f] := by rw [← hff]; exact List.take_succ_eq_append_getElem hi'
        have hnums : numsOf x (fs.take (i + 1)) = numsOf x (fs.take i) ++ num (x.sel f.1).toNat := by rw [htake]; simp [numsOf]
        refine ⟨⟨i + 1, a2, _, c2, rfl, by omega, ?_, ?_, ?_, f6.keep k52 fun h => (t5 _ h).1.ne f6.ty (by decide) rfl, (e14.no k2534).keep k52 fun h => (t5 _ h).1.ne (e14.no k2534).ty (by decide) rfl,
          (hr.no k2534).keep k52 fun y h ht => (t5 y h).1.ne ht (by decide) rfl, (K25.then k2534).new k52 fun y h => (t5 y h).2⟩, ?_⟩
        · intro g hg
          rw [htake, List.mem_append] at hg
          rcases hg with hg | hg
          · exact hok g hg
          · simp at hg; rw [hg]; exact hgood
        · rw [hnums, List.length_append]; omega
        · rw [hnums, ← List.append_assoc, bvs_append]; exact ho52
        · show fs.length - ((i + 1 : Nat) : Int).toNat < fs.length - (i : Int).toNat
          omega
      clear_value K50
      refine ⟨_, c32.cell 1, ?_⟩
      refine cond_d (fun h1 => bad _ _ _ (fun h => by have := h.1; omega)) (fun h1 => ?_)
      refine ⟨_, c32.cell 2, ?_⟩
      by_cases h2 : x.sel f.1 > f.2.2
      · rw [decide_eq_true h2]; exact bad _ _ _ fun h => by have := h.2; omega
      · rw [decide_eq_false h2]; exact ok _ _ _ ⟨by omega, by omega⟩
    · -- the weight
      have hil : i = fs.length := by omega
      subst hil
      rw [List.take_length] at hok hn ho hlen5
      have henc : enc x = some (sealed (body x (fs, bt))) := by unfold enc; rw [hsh]; exact if_pos hok
      refine ⟨fun vs v => ∃ (i : Nat) (a : Option Addr) (n c : Nat), vs = [.slice a n c, .int .i64 i] ∧ i ≤ 4 ∧ (bt = false → i = 0) ∧ n = 2 + (numsOf x fs).length + i ∧
          v.ownsRow w.heap.size 5 1 (.slice a n c) n (bvs ([0, kb x.k] ++ numsOf x fs ++ (bits4 x.b.toNat).take i)) ∧ Bk v p6 (opC x) 57 ∧ Bk v p14 #[s.v, .bool bt] 128 ∧ Keep no w v,
        fun vs v => match vs with | [_, .int _ i] => 4 - i.toNat | _ => 0, ⟨0, b23, l23, c23, rfl, by omega, fun _ => rfl, by omega, by rw [List.take_zero, List.append_nil]; exact ho, e6, e14, K25⟩, ?_⟩
      rintro w56 b54 l54 c54 i55 ⟨i, a, n, c, hv, hi4, hb0, hn4, ho4, g6, g14, K56⟩
      simp only [List.cons.injEq, Value.slice.injEq, Value.int.injEq, true_and, and_true] at hv
      obtain ⟨⟨rfl, rfl, rfl⟩, rfl⟩ := hv
      intro K63
      have stop : ∀ b60, ((bt = false ∧ i = 0) ∨ (bt = true ∧ i = 4)) → K63 b60 false w56 := by
        intro b60 hcase
        have hcont : ([0, kb x.k] ++ numsOf x fs ++ (bits4 x.b.toNat).take i : Bs) = 0 :: body x (fs, bt) := by
          rcases hcase with ⟨rfl, rfl⟩ | ⟨rfl, rfl⟩
          · simp [body]
          · have : (bits4 x.b.toNat).take 4 = bits4 x.b.toNat := rfl
            rw [this]; simp [body]
        rw [hcont] at ho4
        have hbl : l54 = (body x (fs, bt)).length + 1 := by have := ho4.1; simp at this; omega
        refine cond_f rfl ?_
        obtain ⟨q, hq, hwr, ho5, k71⟩ := own_set ho4 (i := 0) (by omega) (.int .u8 (IntKind.u8.wrap (IntKind.i64.wrap (((l54 : Nat) : Int) - (1 : Int)))))
        rw [Nat.zero_mul, addZ] at hwr ho5 k71
        refine ⟨q, hq, by omega, by omega, hwr, ?_⟩
        intro w71
        have hb0' : IntKind.u8.wrap (IntKind.i64.wrap (((l54 : Nat) : Int) - (1 : Int))) = (UInt8.ofNat (body x (fs, bt)).length).toNat := by
          rw [IntWalk.i64_in _ ⟨by omega, by omega⟩, UInt8.toNat_ofNat']
          have : ((l54 : Nat) : Int) - 1 = ((body x (fs, bt)).length : Nat) := by omega
          rw [this]
          have hw : ∀ m : Nat, IntKind.u8.wrap (m : Int) = ((m % 256 : Nat) : Int) := fun m => by simp [IntKind.wrap, IntKind.signed, IntKind.bits]
          rw [hw]
        have hset : (bvs (0 :: body x (fs, bt))).set 0 (.int .u8 (IntKind.u8.wrap (IntKind.i64.wrap (((l54 : Nat) : Int) - (1 : Int))))) = bvs (UInt8.ofNat (body x (fs, bt)).length :: body x (fs, bt)) := by
          rw [hb0']; rfl
        rw [hset] at ho5
        have o71 : w71.ownsRow w.heap.size 5 1 (.slice b54 l54 c54) l54 (bvs (UInt8.ofNat (body x (fs, bt)).length :: body x (fs, bt))) := ho5
        have K71 : Keep no w w71 := K56.new k71 fun y hy => (own_block ho4 hy).1
        clear_value w71
        refine (check_spec (Rd.own0 o71)).mono ?_
        rintro e w73 ⟨rfl, rfl⟩
        refine ⟨_, rfl, ?_⟩
        intro p75 w76
        have b76 : Bk w76 p75 #[.int .u8 (chk (UInt8.ofNat (body x (fs, bt)).length :: body x (fs, bt))).toNat] 5 := Bk.new w73 _ _
        have k76 : Keep no w73 w76 := Keep.alloc _ _ _
        clear_value p75 w76
        refine rw_append E36 (own_no o71 k76) (Rd.blk0 (sz := 1) (n := 1) b76 rfl (by simp [maxLen])) (by simp [one1]) (by omega) (by simp only [maxLen]; omega) (K71.then k76).size fun a79 c79 w78 o78 k78 _ => ?_
        have e1 : bvs (UInt8.ofNat (body x (fs, bt)).length :: body x (fs, bt)) ++ (#[.int .u8 (chk (UInt8.ofNat (body x (fs, bt)).length :: body x (fs, bt))).toNat] : Array Value).toList = bvs (sealed (body x (fs, bt))) := by
          unfold sealed; rw [bvs_append]; rfl
        rw [e1] at o78
        exact ⟨⟨a79, l54 + 1, c79⟩, _, rfl, (K71.then k76).new k78 fun y hy => (own_block o71 hy).1, .inr ⟨_, henc, rfl, o78⟩⟩
      have go : i < 4 → bt = true → ∀ b60, K63 b60 true w56 := by
        intro hi hbt b60
        refine cond_t rfl ?_
        refine ⟨_, g6.cell 4, ?_⟩
        rw [IntWalk.i64_in _ ⟨by omega, by omega⟩]
        refine ⟨by omega, ?_⟩
        have hbb := bit_byte hx.b.1 hx.b.2 hi
        rw [IntWalk.i64_in _ ⟨by omega, by omega⟩] at hbb
        rw [hbb]
        intro p65 w66
        have b65 : Bk w66 p65 #[.int .u8 (((bits4 x.b.toNat)[i]?.getD 0).toNat : Int)] 5 := Bk.new w56 _ _
        have k66 : Keep no w56 w66 := Keep.alloc _ _ _
        clear_value p65 w66
        have o66 := own_no ho4 k66
        refine rw_append E36 o66 (Rd.blk0 (sz := 1) (n := 1) b65 rfl (by simp [maxLen])) (by simp [one1]) (by omega) (by simp only [maxLen]; omega) (K56.then k66).size fun a69 c69 w68 o68 k68 _ => ?_
        have t5 : ∀ y, OB b54 y → TyB w66 y 5 ∧ w.heap.size ≤ y := fun y hy => ⟨(own_block o66 hy).2, (own_block o66 hy).1⟩
        have ei : IntKind.i64.wrap ((i : Int) + 1) = ((i + 1 : Nat) : Int) := by rw [IntWalk.i64_in _ ⟨by omega, by omega⟩]; rfl
        rw [ei]
        refine ⟨⟨i + 1, a69, _, c69, rfl, by omega, (fun h => by rw [hbt] at h; cases h), by omega, ?_, (g6.no k66).keep k68 fun h => (t5 _ h).1.ne (g6.no k66).ty (by decide) rfl, (g14.no k66).keep k68 fun h => (t5 _ h).1.ne (g14.no k66).ty (by decide) rfl,
          (K56.then k66).new k68 fun y h => (t5 y h).2⟩, ?_⟩
        · rw [bits4_take _ hi, ← List.append_assoc, bvs_append]; exact o68
        · show 4 - ((i + 1 : Nat) : Int).toNat < 4 - (i : Int).toNat
          omega
      clear_value K63
      refine cond_d (fun h4 => ?_) (fun h4 => ?_)
      · refine ⟨_, g14.cell 1, ?_⟩
        cases hbt : bt with
        | true => exact go (by omega) hbt _
        | false => exact stop _ (.inl ⟨hbt, hb0 hbt⟩)
      · have : i = 4 := by omega
        refine stop _ (.inr ⟨?_, this⟩)
        cases hbt : bt with
        | true => rfl
        | false => have := hb0 hbt; omega
end
end Go.Proofs.Ytmfidfaiopogbaa
/- The reference's numbers, Plain and Encode. -/
set_option linter.unusedVariables false
set_option linter.unusedSimpArgs false
set_option linter.unusedSectionVars false
set_option maxRecDepth 4000
namespace Go.Proofs.Ytmfidfaiopogbaa
open Go Go.Sh

theorem u8_mod (m : Nat) : IntKind.u8.wrap (m : Int) = ((m % 256 : Nat) : Int) := by simp [IntKind.wrap, IntKind.signed, IntKind.bits]
theorem u8_of (m : Nat) : ((UInt8.ofNat m).toNat : Int) = ((m % 256 : Nat) : Int) := by rw [UInt8.toNat_ofNat']

section
variable [Av]
/-- Bytes behind an own row. -/
theorem app5 {w v : World} {base n c : Nat} {a : Option Addr} {l l' : Bs} (ho : v.ownsRow base 5 1 (.slice a n c) n (bvs l)) {e2 m c' : Nat} {a' : Option Addr} (hr : Rd v e2 1 a' m c' (bvs l')) (hn : n + m ≤ 140737488355328)
    (hb : base ≤ v.heap.size) (hw : w.heap.size ≤ base) (k : Keep no w v) {K : Option Addr → Nat → Nat → World → Prop}
    (h : ∀ a2 c2 w', w'.ownsRow base 5 1 (.slice a2 (n + m) c2) (n + m) (bvs (l ++ l')) → Keep no w w' → Keep (OB a) v w' → K a2 (n + m) c2 w') :
    RunWp Try.prog (Builtin.append_ #[36, 36] 36 #[.slice a n c, .slice a' m c']) (fun v w' => ∃ (a2 : Option Addr) (n2 c2 : Nat), v = .slice a2 n2 c2 ∧ K a2 n2 c2 w') v := by
  refine rw_append E36 ho hr (bvs_one _) (by omega) (by simp only [maxLen]; omega) hb fun a2 c2 w' ho' k' _ => ?_
  rw [← bvs_append] at ho'
  exact h a2 c2 w' ho' (k.new k' fun y hy => Nat.le_trans hw (own_block ho hy).1) k'
theorem bk5 {v w' : World} {base n c : Nat} {a : Option Addr} {xs : List Value} (ho : v.ownsRow base 5 1 (.slice a n c) n xs) (k : Keep (OB a) v w') {b : Nat} {C : Array Value} {e : TypeId} (h : Bk v b C e) (he : e ≠ 5) : Bk w' b C e :=
  h.keep k fun hb => (own_block ho hb).2.ne h.ty (fun h => he h.symm) rfl
/-- A byte of its own. -/
theorem one_rd {w : World} (n : Nat) : Rd (w.alloc (.cells #[.int .u8 ((UInt8.ofNat n).toNat : Int)] 5)) 0 1 (some ⟨w.heap.size, 0, none⟩) 1 1 (bvs [UInt8.ofNat n]) :=
  Rd.blk0 (sz := 1) (n := 1) (Bk.new w #[.int .u8 ((UInt8.ofNat n).toNat : Int)] 5) rfl (by simp [maxLen])

theorem numR_spec (w : World) {n : Nat} (hn : n < 34359738368) : Calls Try.prog 81 #[.int .i64 n] w fun e w' => ∃ s : Sv, e = .returned s.v ∧ w'.ownsRow w.heap.size 5 1 s.v s.n (bvs (num n)) ∧ Keep no w w' := by
  refine c81 ?_
  unfold sh81
  refine ⟨fun vs v => ∃ (a : Option Addr) (c m : Nat) (pre : Bs), vs = [.slice a pre.length c, .int .i64 m] ∧ m ≤ n ∧ pre ++ num m = num n ∧ v.ownsRow w.heap.size 5 1 (.slice a pre.length c) pre.length (bvs pre) ∧ Keep no w v,
    fun vs v => match vs with | [_, .int _ i] => i.toNat | _ => 0, ⟨none, 0, n, [], rfl, Nat.le_refl _, rfl, World.ownsRow_nil _ _ _ _, Keep.refl _ _⟩, ?_⟩
  rintro w4 a0 l0 c0 n3 ⟨a, c, m, pre, hv, hm, hpre, ho, k4⟩
  simp only [List.cons.injEq, Value.slice.injEq, Value.int.injEq, true_and, and_true] at hv
  obtain ⟨⟨rfl, rfl, rfl⟩, rfl⟩ := hv
  have hlen : pre.length + (num m).length = (num n).length := by rw [← hpre]; simp
  have hl5 := num_len5 hn
  refine cond_d (fun hge => ?_) (fun hlt => ?_)
  · have hge' : ¬ m < 128 := by omega
    rw [num_ge hge'] at hpre hlen
    refine ⟨by omega, ?_⟩
    have hb : IntKind.u8.wrap (IntKind.i64.wrap ((Int.tmod (m : Int) (128 : Int)) + (128 : Int))) = ((UInt8.ofNat (m % 128 + 128)).toNat : Int) := by
      rw [Int.tmod_eq_emod_of_nonneg (by omega), show (m : Int) % 128 = ((m % 128 : Nat) : Int) from rfl, IntWalk.i64_in _ ⟨by omega, by omega⟩, u8_of]
      rw [show ((m % 128 : Nat) : Int) + 128 = ((m % 128 + 128 : Nat) : Int) from rfl, u8_mod]
    rw [hb]
    intro p7 w8
    have k8 : Keep no w4 w8 := Keep.alloc _ _ _
    have hr : Rd w8 0 1 (some ⟨p7, 0, none⟩) 1 1 (bvs [UInt8.ofNat (m % 128 + 128)]) := one_rd _
    clear_value p7 w8
    refine app5 (own_no ho k8) hr (by omega) (k4.then k8).size (Nat.le_refl _) (k4.then k8) fun a2 c2 w10 ho' k' _ => ?_
    have hd : IntKind.i64.wrap (Int.tdiv (m : Int) (128 : Int)) = ((m / 128 : Nat) : Int) := by
      rw [Int.tdiv_eq_ediv_of_nonneg (by omega), show (m : Int) / 128 = ((m / 128 : Nat) : Int) from rfl, IntWalk.i64_in _ ⟨by omega, by omega⟩]
    rw [hd]
    refine ⟨by omega, ⟨a2, c2, m / 128, pre ++ [UInt8.ofNat (m % 128 + 128)], by simp, by omega, by rw [← hpre]; simp, by simpa using ho', k'⟩, ?_⟩
    show ((m / 128 : Nat) : Int).toNat < (m : Int).toNat
    omega
  · have hlt' : m < 128 := by omega
    rw [num_lt hlt'] at hpre hlen
    have hb : IntKind.u8.wrap (m : Int) = ((UInt8.ofNat m).toNat : Int) := by rw [u8_of, u8_mod]
    rw [hb]
    intro p12 w13
    have k8 : Keep no w4 w13 := Keep.alloc _ _ _
    have hr : Rd w13 0 1 (some ⟨p12, 0, none⟩) 1 1 (bvs [UInt8.ofNat m]) := one_rd _
    clear_value p12 w13
    refine app5 (own_no ho k8) hr (by omega) (k4.then k8).size (Nat.le_refl _) (k4.then k8) fun a2 c2 w10 ho' k' _ => ?_
    rw [hpre] at ho'
    exact ⟨⟨a2, pre.length + 1, c2⟩, rfl, ho', k'⟩

theorem bitsR_spec (w : World) {b : Int} (h0 : 0 ≤ b) (h1 : b < 4294967296) : Calls Try.prog 82 #[.int .i64 b] w fun e w' => ∃ s : Sv, e = .returned s.v ∧ Rd w' 0 1 s.a s.n s.c (bvs (bits4 b.toNat)) ∧ s.n = 4 ∧ Keep no w w' := by
  obtain ⟨n, rfl⟩ := Int.eq_ofNat_of_zero_le h0
  refine c82 ?_
  unfold sh82
  refine ⟨by omega, by omega, by omega, by omega, by omega, by omega, ?_⟩
  have e0 : IntKind.u8.wrap (Int.tmod (n : Int) (256 : Int)) = ((UInt8.ofNat (n % 256)).toNat : Int) := by
    rw [Int.tmod_eq_emod_of_nonneg (by omega), show (n : Int) % 256 = ((n % 256 : Nat) : Int) from rfl, u8_of, u8_mod]
  have e1 : IntKind.u8.wrap (Int.tmod (IntKind.i64.wrap (Int.tdiv (n : Int) (256 : Int))) (256 : Int)) = ((UInt8.ofNat (n / 256 % 256)).toNat : Int) := by
    rw [Int.tdiv_eq_ediv_of_nonneg (by omega), show (n : Int) / 256 = ((n / 256 : Nat) : Int) from rfl, IntWalk.i64_in _ ⟨by omega, by omega⟩, Int.tmod_eq_emod_of_nonneg (by omega),
      show ((n / 256 : Nat) : Int) % 256 = ((n / 256 % 256 : Nat) : Int) from rfl, u8_of, u8_mod]
  have e2 : IntKind.u8.wrap (Int.tmod (IntKind.i64.wrap (Int.tdiv (n : Int) (65536 : Int))) (256 : Int)) = ((UInt8.ofNat (n / 65536 % 256)).toNat : Int) := by
    rw [Int.tdiv_eq_ediv_of_nonneg (by omega), show (n : Int) / 65536 = ((n / 65536 : Nat) : Int) from rfl, IntWalk.i64_in _ ⟨by omega, by omega⟩, Int.tmod_eq_emod_of_nonneg (by omega),
      show ((n / 65536 : Nat) : Int) % 256 = ((n / 65536 % 256 : Nat) : Int) from rfl, u8_of, u8_mod]
  have e3 : IntKind.u8.wrap (IntKind.i64.wrap (Int.tdiv (n : Int) (16777216 : Int))) = ((UInt8.ofNat (n / 16777216 % 256)).toNat : Int) := by
    rw [Int.tdiv_eq_ediv_of_nonneg (by omega), show (n : Int) / 16777216 = ((n / 16777216 : Nat) : Int) from rfl, IntWalk.i64_in _ ⟨by omega, by omega⟩, u8_of, u8_mod]
    congr 1; omega
  rw [e0, e1, e2, e3]
  intro p2 w3
  refine ⟨⟨some ⟨p2, 0, none⟩, 4, 4⟩, rfl, ?_, rfl, Keep.alloc _ _ _⟩
  exact Rd.blk0 (sz := 1) (n := 4) (Bk.new w _ 5) rfl (by simp [maxLen])

def isV (v : Int) : Prop := 0 ≤ v ∧ v ≤ 2147483647
def isE (e : Int) : Prop := 1 ≤ e ∧ e ≤ 1024
instance (v : Int) : Decidable (isV v) := by unfold isV; infer_instance
instance (v : Int) : Decidable (isE v) := by unfold isE; infer_instance
theorem vertex_spec (w : World) (v : Int) : Calls Try.prog 79 #[.int .i64 v] w fun e w' => e = .returned (.bool (decide (isV v))) ∧ w' = w := by
  refine c79 ?_
  unfold sh79
  refine cond_d (fun h => ?_) (fun h => ?_)
  · refine ⟨?_, rfl⟩
    congr 2
    exact decide_eq_decide.2 ⟨fun h' => ⟨h, h'⟩, fun h' => h'.2⟩
  · refine ⟨?_, rfl⟩
    rw [decide_eq_false (by unfold isV; omega)]
theorem edge_spec (w : World) (v : Int) : Calls Try.prog 80 #[.int .i64 v] w fun e w' => e = .returned (.bool (decide (isE v))) ∧ w' = w := by
  refine c80 ?_
  unfold sh80
  refine cond_d (fun h => ?_) (fun h => ?_)
  · refine ⟨?_, rfl⟩
    congr 2
    exact decide_eq_decide.2 ⟨fun h' => ⟨h, h'⟩, fun h' => h'.2⟩
  · refine ⟨?_, rfl⟩
    rw [decide_eq_false (by unfold isE; omega)]

/-- The operation without what its kind doesn't use. -/
def plain (x : Op) : Option Op :=
  if x.k = 1 ∨ x.k = 2 ∨ x.k = 6 ∨ x.k = 7 then if isV x.v then some ⟨x.k, 0, 0, x.v, 0⟩ else none
  else if x.k = 3 then if isE x.e ∧ isV x.u ∧ isV x.v then some x else none
  else if x.k = 4 then if isE x.e then some ⟨x.k, x.e, 0, 0, 0⟩ else none
  else if x.k = 5 then if isE x.e then some ⟨x.k, x.e, 0, 0, x.b⟩ else none
  else none
theorem fin5 {w : World} {p : Nat} {a b c d e : Value} {C : Array Value} {t : TypeId} (h : Bk w p C t) (hC : C.size = 5) :
    wrN w ⟨p, 0, none⟩ 5 ∧ Bk (setN ⟨p, 0, none⟩ 0 [a, b, c, d, e] w) p #[a, b, c, d, e] t ∧ Keep (is p) w (setN ⟨p, 0, none⟩ 0 [a, b, c, d, e] w) :=
  ⟨h.wrN (by rw [hC]; decide), h.setAll (vs := [a, b, c, d, e]) (by rw [hC]; rfl), setN_keep (S := is p) (a := ⟨p, 0, none⟩) rfl _ _ _⟩

theorem Plain_spec (w : World) (x : Op) : Calls Try.prog 38 #[opV x] w fun e w' => Keep no w w' ∧ ((plain x = none ∧ ∃ z, e = .returned (.tuple #[opV z, .int .i64 190])) ∨ ∃ y, plain x = some y ∧ e = .returned (.tuple #[opV y, .int .i64 0])) := by
  refine c38 ?_
  unfold sh38
  intro p6 w7 p8 w9
  have b6 : Bk w9 p6 (opC x) 57 := (Bk.new w _ _).alloc _
  have b8 : Bk w9 p8 #[.int .i64 0, .int .i64 0, .int .i64 0, .int .i64 0, .int .u32 0] 57 := Bk.new w7 _ _
  have k9 : Keep no w w9 := (Keep.alloc no w _).then (Keep.alloc no w7 _)
  have h6 : w.heap.size ≤ p6 := Nat.le_refl _
  have h8 : w.heap.size ≤ p8 := by show w.heap.size ≤ w7.heap.size; simp [w7]
  have h68 : p6 ≠ p8 := by show w.heap.size ≠ w7.heap.size; simp [w7]
  clear_value p6 p8 w7 w9
  intro K50
  have bad : ∀ v, Bk v p8 #[.int .i64 0, .int .i64 0, .int .i64 0, .int .i64 0, .int .u32 0] 57 → Keep no w v → plain x = none → K50 false v := by
    intro v hB k hp
    refine cond_t rfl ?_
    obtain ⟨e1, e2, e3⟩ := fin5 (a := .int .i64 0) (b := .int .i64 0) (c := .int .i64 0) (d := .int .i64 0) (e := .int .u32 0) hB rfl
    exact ⟨e1, _, _, _, _, _, e2.cell 0, e2.cell 1, e2.cell 2, e2.cell 3, e2.cell 4, k.new e3 (by rintro z rfl; exact h8), .inl ⟨hp, ⟨0, 0, 0, 0, 0⟩, rfl⟩⟩
  have good : ∀ v (y : Op), Bk v p6 (opC y) 57 → Bk v p8 #[.int .i64 0, .int .i64 0, .int .i64 0, .int .i64 0, .int .u32 0] 57 → Keep no w v → plain x = some y → K50 true v := by
    intro v y hB6 hB k hp
    refine cond_f rfl ?_
    obtain ⟨e1, e2, e3⟩ := fin5 (a := .int .i64 y.k) (b := .int .i64 y.e) (c := .int .i64 y.u) (d := .int .i64 y.v) (e := .int .u32 y.b) hB rfl
    exact ⟨_, _, _, _, _, hB6.cell 0, hB6.cell 1, hB6.cell 2, hB6.cell 3, hB6.cell 4, e1, _, _, _, _, _, e2.cell 0, e2.cell 1, e2.cell 2, e2.cell 3, e2.cell 4, k.new e3 (by rintro z rfl; exact h8), .inr ⟨y, hp, rfl⟩⟩
  clear_value K50
  -- the operation is written anew in its place
  have anew : ∀ y : Op, wrN w9 ⟨p6, 0, none⟩ 5 ∧ Bk (setN ⟨p6, 0, none⟩ 0 [.int .i64 y.k, .int .i64 y.e, .int .i64 y.u, .int .i64 y.v, .int .u32 y.b] w9) p6 (opC y) 57 ∧
      Bk (setN ⟨p6, 0, none⟩ 0 [.int .i64 y.k, .int .i64 y.e, .int .i64 y.u, .int .i64 y.v, .int .u32 y.b] w9) p8 #[.int .i64 0, .int .i64 0, .int .i64 0, .int .i64 0, .int .u32 0] 57 ∧
      Keep no w (setN ⟨p6, 0, none⟩ 0 [.int .i64 y.k, .int .i64 y.e, .int .i64 y.u, .int .i64 y.v, .int .u32 y.b] w9) := by
    intro y
    obtain ⟨e1, e2, e3⟩ := fin5 (a := .int .i64 y.k) (b := .int .i64 y.e) (c := .int .i64 y.u) (d := .int .i64 y.v) (e := .int .u32 y.b) b6 rfl
    exact ⟨e1, e2, b8.keep e3 fun h => h68 h.symm, k9.new e3 (by rintro z rfl; exact h6)⟩
  refine ⟨_, b6.cell 0, ?_⟩
  intro K13
  have fin : ∀ b : Bool, (b = true ↔ (x.k = 1 ∨ x.k = 2 ∨ x.k = 6 ∨ x.k = 7)) → K13 b w9 := by
    intro b hb
    refine cond_i (fun h => ?_) (fun h => ?_)
    · obtain ⟨e1, e2, e3, e4⟩ := anew ⟨x.k, 0, 0, x.v, 0⟩
      refine ⟨_, b6.cell 0, _, b6.cell 3, e1, _, e2.cell 3, ?_⟩
      refine (vertex_spec _ x.v).mono ?_
      rintro e w19 ⟨rfl, rfl⟩
      refine ⟨_, rfl, ?_⟩
      by_cases hv : isV x.v
      · rw [decide_eq_true hv]; exact good _ _ e2 e3 e4 (by unfold plain; rw [if_pos (hb.1 h), if_pos hv])
      · rw [decide_eq_false hv]; exact bad _ e3 e4 (by unfold plain; rw [if_pos (hb.1 h), if_neg hv])
    · have hk : ¬ (x.k = 1 ∨ x.k = 2 ∨ x.k = 6 ∨ x.k = 7) := fun hk => by rw [hb.2 hk] at h; cases h
      refine cond_i (fun h3 => ?_) (fun h3 => ?_)
      · have h3' : x.k = 3 := by simpa using h3
        have hpl : plain x = if isE x.e ∧ isV x.u ∧ isV x.v then some x else none := by unfold plain; rw [if_neg hk, if_pos h3']
        refine ⟨_, b6.cell 1, ?_⟩
        refine (edge_spec _ x.e).mono ?_
        rintro e w19 ⟨rfl, rfl⟩
        refine ⟨_, rfl, ?_⟩
        refine cond_d (fun he => ?_) (fun he => bad _ b8 k9 (by rw [hpl, if_neg fun h => he h.1]))
        refine ⟨_, b6.cell 2, ?_⟩
        refine (vertex_spec _ x.u).mono ?_
        rintro e w19 ⟨rfl, rfl⟩
        refine ⟨_, rfl, ?_⟩
        refine cond_d (fun hu => ?_) (fun hu => bad _ b8 k9 (by rw [hpl, if_neg fun h => hu h.2.1]))
        refine ⟨_, b6.cell 3, ?_⟩
        refine (vertex_spec _ x.v).mono ?_
        rintro e w19 ⟨rfl, rfl⟩
        refine ⟨_, rfl, ?_⟩
        by_cases hv : isV x.v
        · rw [decide_eq_true hv]; exact good _ _ b6 b8 k9 (by rw [hpl, if_pos ⟨he, hu, hv⟩])
        · rw [decide_eq_false hv]; exact bad _ b8 k9 (by rw [hpl, if_neg fun h => hv h.2.2])
      · have h3' : ¬ x.k = 3 := by simpa using h3
        refine cond_i (fun h4 => ?_) (fun h4 => ?_)
        · have h4' : x.k = 4 := by simpa using h4
          have hpl : plain x = if isE x.e then some ⟨x.k, x.e, 0, 0, 0⟩ else none := by unfold plain; rw [if_neg hk, if_neg h3', if_pos h4']
          obtain ⟨e1, e2, e3, e4⟩ := anew ⟨x.k, x.e, 0, 0, 0⟩
          refine ⟨_, b6.cell 0, _, b6.cell 1, e1, _, e2.cell 1, ?_⟩
          refine (edge_spec _ x.e).mono ?_
          rintro e w19 ⟨rfl, rfl⟩
          refine ⟨_, rfl, ?_⟩
          by_cases hv : isE x.e
          · rw [decide_eq_true hv]; exact good _ _ e2 e3 e4 (by rw [hpl, if_pos hv])
          · rw [decide_eq_false hv]; exact bad _ e3 e4 (by rw [hpl, if_neg hv])
        · have h4' : ¬ x.k = 4 := by simpa using h4
          refine cond_i (fun h5 => ?_) (fun h5 => ?_)
          · have h5' : x.k = 5 := by simpa using h5
            have hpl : plain x = if isE x.e then some ⟨x.k, x.e, 0, 0, x.b⟩ else none := by unfold plain; rw [if_neg hk, if_neg h3', if_neg h4', if_pos h5']
            obtain ⟨e1, e2, e3, e4⟩ := anew ⟨x.k, x.e, 0, 0, x.b⟩
            refine ⟨_, b6.cell 0, _, b6.cell 1, _, b6.cell 4, e1, _, e2.cell 1, ?_⟩
            refine (edge_spec _ x.e).mono ?_
            rintro e w19 ⟨rfl, rfl⟩
            refine ⟨_, rfl, ?_⟩
            by_cases hv : isE x.e
            · rw [decide_eq_true hv]; exact good _ _ e2 e3 e4 (by rw [hpl, if_pos hv])
            · rw [decide_eq_false hv]; exact bad _ e3 e4 (by rw [hpl, if_neg hv])
          · have h5' : ¬ x.k = 5 := by simpa using h5
            exact bad _ b8 k9 (by unfold plain; rw [if_neg hk, if_neg h3', if_neg h4', if_neg h5'])
  clear_value K13
  refine cond_i (fun h1 => fin _ ?_) (fun h1 => ?_)
  · have : x.k = 1 := by simpa using h1
    simp [h1, this]
  · have n1 : ¬ x.k = 1 := by simpa using h1
    refine cond_i (fun h2' => fin _ ?_) (fun h2' => ?_)
    · have : x.k = 2 := by simpa using h2'
      simp [this]
    · have n2 : ¬ x.k = 2 := by simpa using h2'
      refine cond_i (fun h6 => fin _ ?_) (fun h6 => fin _ ?_)
      · have : x.k = 6 := by simpa using h6
        simp [this]
      · have n6 : ¬ x.k = 6 := by simpa using h6
        simp [n1, n2, n6]
end
end Go.Proofs.Ytmfidfaiopogbaa
/- The reference's Encode; and that Plain and Encode agree. -/
set_option linter.unusedVariables false
set_option linter.unusedSimpArgs false
set_option linter.unusedSectionVars false
set_option maxRecDepth 4000
namespace Go.Proofs.Ytmfidfaiopogbaa
open Go Go.Sh

/-! ### Plain and enc -/
theorem shp_a {k : Int} (h : k = 1 ∨ k = 2 ∨ k = 6 ∨ k = 7) : shp k = some ([(3, 0, 2147483647)], false) := by unfold shp; rw [if_pos h]
theorem shp_3 : shp 3 = some ([(1, 1, 1024), (2, 0, 2147483647), (3, 0, 2147483647)], true) := rfl
theorem shp_4 : shp 4 = some ([(1, 1, 1024)], false) := rfl
theorem shp_5 : shp 5 = some ([(1, 1, 1024)], true) := rfl
theorem shp_n {k : Int} (h : ¬ (k = 1 ∨ k = 2 ∨ k = 6 ∨ k = 7)) (h3 : ¬ k = 3) (h4 : ¬ k = 4) (h5 : ¬ k = 5) : shp k = none := by unfold shp; rw [if_neg h, if_neg h3, if_neg h4, if_neg h5]
/-- What has a plain form has a record, the plain form's own; what has none has none. -/
theorem enc_plain (x : Op) : (∀ y, plain x = some y → enc x = some (sealed (body x ((shp x.k).getD ([], false)))) ∧ enc y = enc x ∧ y.k = x.k ∧ plain y = some y) ∧ (plain x = none → enc x = none) := by
  by_cases hk : x.k = 1 ∨ x.k = 2 ∨ x.k = 6 ∨ x.k = 7
  · have hp : plain x = if isV x.v then some ⟨x.k, 0, 0, x.v, 0⟩ else none := by unfold plain; rw [if_pos hk]
    have he : ∀ z : Op, z.k = x.k → enc z = if ∀ f ∈ [((3 : Nat), (0 : Int), (2147483647 : Int))], okf z f then some (sealed (body z ([(3, 0, 2147483647)], false))) else none := by
      intro z hz; unfold enc; rw [hz, shp_a hk]
    have hok : ∀ z : Op, (∀ f ∈ [((3 : Nat), (0 : Int), (2147483647 : Int))], okf z f) ↔ isV z.v := by intro z; simp [okf, isV, Op.sel]
    by_cases hv : isV x.v
    · refine ⟨fun y hy => ?_, fun h => by rw [hp, if_pos hv] at h; cases h⟩
      rw [hp, if_pos hv] at hy; cases hy
      refine ⟨by rw [he x rfl, if_pos ((hok x).2 hv), shp_a hk]; rfl, ?_, rfl, ?_⟩
      · rw [he x rfl, he ⟨x.k, 0, 0, x.v, 0⟩ rfl, if_pos ((hok x).2 hv), if_pos ((hok ⟨x.k, 0, 0, x.v, 0⟩).2 hv)]
        simp [body, numsOf, Op.sel]
      · unfold plain; rw [if_pos (show (⟨x.k, 0, 0, x.v, 0⟩ : Op).k = 1 ∨ _ from hk), if_pos (show isV (⟨x.k, 0, 0, x.v, 0⟩ : Op).v from hv)]
    · refine ⟨(fun y hy => by rw [hp, if_neg hv] at hy; cases hy), fun _ => by rw [he x rfl, if_neg fun h => hv ((hok x).1 h)]⟩
  by_cases h3 : x.k = 3
  · have hp : plain x = if isE x.e ∧ isV x.u ∧ isV x.v then some x else none := by unfold plain; rw [if_neg hk, if_pos h3]
    have he : enc x = if ∀ f ∈ [((1 : Nat), (1 : Int), (1024 : Int)), (2, 0, 2147483647), (3, 0, 2147483647)], okf x f then some (sealed (body x ([(1, 1, 1024), (2, 0, 2147483647), (3, 0, 2147483647)], true))) else none := by
      unfold enc; rw [h3, shp_3]
    have hok : (∀ f ∈ [((1 : Nat), (1 : Int), (1024 : Int)), (2, 0, 2147483647), (3, 0, 2147483647)], okf x f) ↔ isE x.e ∧ isV x.u ∧ isV x.v := by simp [okf, isV, isE, Op.sel]
    by_cases hv : isE x.e ∧ isV x.u ∧ isV x.v
    · refine ⟨fun y hy => ?_, fun h => by rw [hp, if_pos hv] at h; cases h⟩
      rw [hp, if_pos hv] at hy; cases hy
      exact ⟨by rw [he, if_pos (hok.2 hv), h3, shp_3]; rfl, rfl, rfl, by rw [hp, if_pos hv]⟩
    · exact ⟨(fun y hy => by rw [hp, if_neg hv] at hy; cases hy), fun _ => by rw [he, if_neg fun h => hv (hok.1 h)]⟩
  by_cases h4 : x.k = 4
  · have hp : plain x = if isE x.e then some ⟨x.k, x.e, 0, 0, 0⟩ else none := by unfold plain; rw [if_neg hk, if_neg h3, if_pos h4]
    have he : ∀ z : Op, z.k = x.k → enc z = if ∀ f ∈ [((1 : Nat), (1 : Int), (1024 : Int))], okf z f then some (sealed (body z ([(1, 1, 1024)], false))) else none := by
      intro z hz; unfold enc; rw [hz, h4, shp_4]
    have hok : ∀ z : Op, (∀ f ∈ [((1 : Nat), (1 : Int), (1024 : Int))], okf z f) ↔ isE z.e := by intro z; simp [okf, isE, Op.sel]
    by_cases hv : isE x.e
    · refine ⟨fun y hy => ?_, fun h => by rw [hp, if_pos hv] at h; cases h⟩
      rw [hp, if_pos hv] at hy; cases hy
      refine ⟨by rw [he x rfl, if_pos ((hok x).2 hv), h4, shp_4]; rfl, ?_, rfl, ?_⟩
      · rw [he x rfl, he ⟨x.k, x.e, 0, 0, 0⟩ rfl, if_pos ((hok x).2 hv), if_pos ((hok ⟨x.k, x.e, 0, 0, 0⟩).2 hv)]
        simp [body, numsOf, Op.sel]
      · unfold plain
        rw [if_neg (show ¬ ((⟨x.k, x.e, 0, 0, 0⟩ : Op).k = 1 ∨ _) from hk), if_neg (show ¬ (⟨x.k, x.e, 0, 0, 0⟩ : Op).k = 3 from h3), if_pos (show (⟨x.k, x.e, 0, 0, 0⟩ : Op).k = 4 from h4), if_pos (show isE (⟨x.k, x.e, 0, 0, 0⟩ : Op).e from hv)]
    · exact ⟨(fun y hy => by rw [hp, if_neg hv] at hy; cases hy), fun _ => by rw [he x rfl, if_neg fun h => hv ((hok x).1 h)]⟩
  by_cases h5 : x.k = 5
  · have hp : plain x = if isE x.e then some ⟨x.k, x.e, 0, 0, x.b⟩ else none := by unfold plain; rw [if_neg hk, if_neg h3, if_neg h4, if_pos h5]
    have he : ∀ z : Op, z.k = x.k → enc z = if ∀ f ∈ [((1 : Nat), (1 : Int), (1024 : Int))], okf z f then some (sealed (body z ([(1, 1, 1024)], true))) else none := by
      intro z hz; unfold enc; rw [hz, h5, shp_5]
    have hok : ∀ z : Op, (∀ f ∈ [((1 : Nat), (1 : Int), (1024 : Int))], okf z f) ↔ isE z.e := by intro z; simp [okf, isE, Op.sel]
    by_cases hv : isE x.e
    · refine ⟨fun y hy => ?_, fun h => by rw [hp, if_pos hv] at h; cases h⟩
      rw [hp, if_pos hv] at hy; cases hy
      refine ⟨by rw [he x rfl, if_pos ((hok x).2 hv), h5, shp_5]; rfl, ?_, rfl, ?_⟩
      · rw [he x rfl, he ⟨x.k, x.e, 0, 0, x.b⟩ rfl, if_pos ((hok x).2 hv), if_pos ((hok ⟨x.k, x.e, 0, 0, x.b⟩).2 hv)]
        simp [body, numsOf, Op.sel]
      · unfold plain
        rw [if_neg (show ¬ ((⟨x.k, x.e, 0, 0, x.b⟩ : Op).k = 1 ∨ _) from hk), if_neg (show ¬ (⟨x.k, x.e, 0, 0, x.b⟩ : Op).k = 3 from h3), if_neg (show ¬ (⟨x.k, x.e, 0, 0, x.b⟩ : Op).k = 4 from h4), if_pos (show (⟨x.k, x.e, 0, 0, x.b⟩ : Op).k = 5 from h5), if_pos (show isE (⟨x.k, x.e, 0, 0, x.b⟩ : Op).e from hv)]
    · exact ⟨(fun y hy => by rw [hp, if_neg hv] at hy; cases hy), fun _ => by rw [he x rfl, if_neg fun h => hv ((hok x).1 h)]⟩
  · exact ⟨(fun y hy => by unfold plain at hy; rw [if_neg hk, if_neg h3, if_neg h4, if_neg h5] at hy; cases hy), fun _ => by unfold enc; rw [shp_n hk h3 h4 h5]⟩

section
variable [Av]
theorem EncodeR_spec (w : World) {x : Op} (hx : x.fit) (hp : plain x = some x) : Calls Try.prog 39 #[opV x] w fun e w' =>
    ∃ (s : Sv), e = .returned s.v ∧ Keep no w w' ∧ w'.ownsRow w.heap.size 5 1 s.v s.n (bvs (sealed (body x ((shp x.k).getD ([], false))))) := by
  refine c39 ?_
  unfold sh39
  intro p6 w7
  have b6 : Bk w7 p6 (opC x) 57 := Bk.new w _ _
  have k7 : Keep no w w7 := Keep.alloc _ _ _
  have h6 : w.heap.size ≤ p6 := Nat.le_refl _
  clear_value p6 w7
  refine ⟨_, b6.cell 0, ?_⟩
  have hk17 : 1 ≤ x.k ∧ x.k ≤ 7 := by
    cases hs : shp x.k with
    | none =>
      have := (enc_plain x).1 x hp
      have h2 : enc x = none := by unfold enc; rw [hs]
      rw [h2] at this; cases this.1
    | some s => exact (shp_f hs).2.2
  have hkb : IntKind.u8.wrap x.k = (kb x.k).toNat := by
    rw [IntWalk.u8_in _ ⟨by omega, by omega⟩]
    unfold kb
    rw [UInt8.toNat_ofNat']
    omega
  rw [hkb]
  intro p9 w10
  have o10 : w10.ownsRow w.heap.size 5 1 (.slice (some ⟨p9, 0, none⟩) 1 1) 1 (bvs [kb x.k]) := World.ownsRow_lit w7 #[.int .u8 (kb x.k).toNat] 1 k7.size (by simp [maxLen]) rfl
  have k10 : Keep no w w10 := k7.then (Keep.alloc _ _ _)
  have c6 : Bk w10 p6 (opC x) 57 := b6.alloc _
  clear_value p9 w10
  intro K73
  have fin : ∀ (a : Option Addr) (n c : Nat) (v : World), n ≤ 1000 → v.ownsRow w.heap.size 5 1 (.slice a n c) n (bvs (body x ((shp x.k).getD ([], false)))) → Keep no w v → K73 a n c v := by
    intro a n c v hn ho kv
    generalize hBB : body x ((shp x.k).getD ([], false)) = B at ho
    have hnB : n = B.length := by have := ho.1; simp at this; exact this.symm
    have hb : IntKind.u8.wrap ((n : Nat) : Int) = ((UInt8.ofNat B.length).toNat : Int) := by rw [u8_of, u8_mod, hnB]
    unfold K73
    intro p74 w75
    have hw75 : w75 = v.alloc (.cells #[.int .u8 ((UInt8.ofNat B.length).toNat : Int)] 5) := by rw [← hb]
    have o75 : w75.ownsRow w.heap.size 5 1 (.slice (some ⟨p74, 0, none⟩) 1 1) 1 (bvs [UInt8.ofNat B.length]) := by rw [hw75]; exact World.ownsRow_lit v #[.int .u8 ((UInt8.ofNat B.length).toNat : Int)] 1 kv.size (by simp [maxLen]) rfl
    have k75 : Keep no v w75 := Keep.alloc _ _ _
    clear hw75
    clear_value p74 w75
    have hrB : Rd w75 0 1 a n c (bvs B) := Rd.own0 (own_no ho k75)
    refine app5 (l := [UInt8.ofNat B.length]) (l' := B) o75 hrB (by omega) (kv.then k75).size (Nat.le_refl _) (kv.then k75) fun a78 c78 w77 o77 k77 _ => ?_
    have hlen : 1 + n = (UInt8.ofNat B.length :: B).length := by simp; omega
    have o77' : w77.ownsRow w.heap.size 5 1 (.slice a78 (1 + n) c78) (1 + n) (bvs (UInt8.ofNat B.length :: B)) := o77
    generalize hL : UInt8.ofNat B.length :: B = L at o77' hlen
    have hr : Rd w77 0 1 a78 (1 + n) c78 (bvs L) := Rd.own0 o77'
    refine ⟨fun vs z => ∃ i : Nat, vs = [.int .u8 (chk (L.take i)).toNat, .int .i64 i] ∧ i ≤ 1 + n ∧ z = w77, fun vs v => match vs with | [_, .int _ i] => 1 + n - i.toNat | _ => 0, ⟨0, rfl, by omega, rfl⟩, ?_⟩
    rintro w81 c79 i80 ⟨i, hv, hi, rfl⟩
    simp only [List.cons.injEq, Value.int.injEq, true_and, and_true] at hv
    obtain ⟨rfl, rfl⟩ := hv
    refine cond_d (fun hlt => ?_) (fun hge => ?_)
    · have hi' : i < L.length := by omega
      obtain ⟨q, hq, hc⟩ := hr.at_ (i := i) (by omega)
      obtain ⟨u, hu, hcu⟩ := hc 0 (by omega)
      rw [Nat.mul_one, Nat.add_zero] at hu
      simp only [bvs, List.getElem?_map, List.getElem?_eq_getElem hi', Option.map_some, Option.some.injEq] at hu
      subst hu
      rw [addZ] at hcu
      refine ⟨q, hq, by omega, by omega, _, by rw [Int.toNat_natCast]; exact hcu, ?_⟩
      have ei : IntKind.i64.wrap ((i : Int) + 1) = ((i + 1 : Nat) : Int) := by rw [IntWalk.i64_in _ ⟨by omega, by omega⟩]; rfl
      rw [ei, xor8, ← chk_snoc, ← List.take_succ_eq_append_getElem hi']
      refine ⟨⟨i + 1, rfl, by omega, rfl⟩, ?_⟩
      show 1 + n - ((i + 1 : Nat) : Int).toNat < 1 + n - (i : Int).toNat
      omega
    · have ht : L.take i = L := List.take_of_length_le (by omega)
      rw [ht]
      intro p86 w87
      have b87 : Bk w87 p86 #[.int .u8 (chk L).toNat] 5 := Bk.new w81 _ _
      have k87 : Keep no w81 w87 := Keep.alloc _ _ _
      clear_value p86 w87
      refine app5 (l' := [chk L]) (own_no o77' k87) (Rd.blk0 (sz := 1) (n := 1) b87 rfl (by simp [maxLen])) (by omega) (k77.then k87).size (Nat.le_refl _) (k77.then k87) fun a90 c90 w89 o89 k89 _ => ?_
      refine ⟨⟨a90, 1 + n + 1, c90⟩, rfl, k89, ?_⟩
      unfold sealed
      rw [hBB, hL]
      exact o89
  clear_value K73
  -- a number behind what there is
  have addn : ∀ (v : World) (a : Option Addr) (n c : Nat) (L : Bs) (m : Int) (Q : Option Addr → Nat → Nat → World → Prop), n ≤ 100 → v.ownsRow w.heap.size 5 1 (.slice a n c) n (bvs L) → Keep no w v → Bk v p6 (opC x) 57 → 0 ≤ m → m ≤ 2147483647 →
      (∀ a' n' c' v', n' ≤ n + 5 → v'.ownsRow w.heap.size 5 1 (.slice a' n' c') n' (bvs (L ++ num m.toNat)) → Keep no w v' → Bk v' p6 (opC x) 57 → Q a' n' c' v') →
      Calls Try.prog 81 #[.int .i64 m] v (fun e16 w17 => ∃ (a18 : Option Addr), ∃ (l_a18 : Nat), ∃ (c_a18 : Nat), e16 = .returned (.slice a18 l_a18 c_a18) ∧ 
        RunWp Try.prog (Builtin.append_ #[36, 36] 36 #[.slice a n c, .slice a18 l_a18 c_a18]) (fun v19 w20 => ∃ (a21 : Option Addr), ∃ (l_a21 : Nat), ∃ (c_a21 : Nat), v19 = .slice a21 l_a21 c_a21 ∧ Q a21 l_a21 c_a21 w20) w17) := by
    intro v a n c L m Q hn ho kv hB h0 hm hQ
    obtain ⟨g, rfl⟩ := Int.eq_ofNat_of_zero_le h0
    refine (numR_spec v (n := g) (by omega)).mono ?_
    rintro e w17 ⟨s, rfl, hs, k17⟩
    refine ⟨s.a, s.n, s.c, rfl, ?_⟩
    have hsn : s.n = (num g).length := by have := hs.1; simp at this; exact this.symm
    have h5 := num_len5 (n := g) (by omega)
    refine app5 (own_no ho k17) (Rd.own0 hs) (by omega) (kv.then k17).size (Nat.le_refl _) (kv.then k17) fun a2 c2 w20 o20 k20 kk => ?_
    exact hQ a2 _ c2 w20 (by omega) o20 k20 (bk5 (own_no ho k17) kk (hB.no k17) (by decide))
  -- the weight behind it
  have addb : ∀ (v : World) (a : Option Addr) (n c : Nat) (L : Bs) (Q : Option Addr → Nat → Nat → World → Prop), n ≤ 100 → v.ownsRow w.heap.size 5 1 (.slice a n c) n (bvs L) → Keep no w v → Bk v p6 (opC x) 57 →
      (∀ a' n' c' v', n' ≤ n + 4 → v'.ownsRow w.heap.size 5 1 (.slice a' n' c') n' (bvs (L ++ bits4 x.b.toNat)) → Keep no w v' → Bk v' p6 (opC x) 57 → Q a' n' c' v') →
      ∃ (Bits43 : Int), v.cell? (⟨p6, 4, none⟩ : Addr) = some (.int .u32 Bits43) ∧ 
        Calls Try.prog 82 #[.int .i64 (IntKind.i64.wrap (Bits43))] v (fun e44 w45 => ∃ (a46 : Option Addr), ∃ (l_a46 : Nat), ∃ (c_a46 : Nat), e44 = .returned (.slice a46 l_a46 c_a46) ∧ 
        RunWp Try.prog (Builtin.append_ #[36, 36] 36 #[.slice a n c, .slice a46 l_a46 c_a46]) (fun v47 w48 => ∃ (a49 : Option Addr), ∃ (l_a49 : Nat), ∃ (c_a49 : Nat), v47 = .slice a49 l_a49 c_a49 ∧ Q a49 l_a49 c_a49 w48) w45) := by
    intro v a n c L Q hn ho kv hB hQ
    have hbx := hx.b
    refine ⟨x.b, hB.cell 4, ?_⟩
    rw [IntWalk.i64_in _ ⟨by omega, by omega⟩]
    refine (bitsR_spec v hbx.1 hbx.2).mono ?_
    rintro e w45 ⟨s, rfl, hs, hsn, k45⟩
    refine ⟨s.a, s.n, s.c, rfl, ?_⟩
    refine app5 (own_no ho k45) hs (by omega) (kv.then k45).size (Nat.le_refl _) (kv.then k45) fun a2 c2 w20 o20 k20 kk => ?_
    exact hQ a2 _ c2 w20 (by omega) o20 k20 (bk5 (own_no ho k45) kk (hB.no k45) (by decide))
  refine ⟨_, c6.cell 0, ?_⟩
  intro K14
  have fin14 : ∀ b : Bool, (b = true ↔ (x.k = 1 ∨ x.k = 2 ∨ x.k = 6 ∨ x.k = 7)) → K14 b w10 := by
    intro b hb
    refine cond_i (fun h => ?_) (fun h => ?_)
    · have hk := hb.1 h
      have hv : isV x.v := by
        unfold plain at hp; rw [if_pos hk] at hp
        split at hp
        · assumption
        · cases hp
      refine ⟨_, c6.cell 3, ?_⟩
      refine addn w10 _ 1 1 [kb x.k] x.v _ (by omega) o10 k10 c6 hv.1 hv.2 fun a' n' c' v' hn' ho' kv' hB' => ?_
      refine fin a' n' c' v' (by omega) ?_ kv'
      rw [shp_a hk]
      simpa [body, numsOf, Op.sel] using ho'
    · have hk : ¬ (x.k = 1 ∨ x.k = 2 ∨ x.k = 6 ∨ x.k = 7) := fun hk => by rw [hb.2 hk] at h; cases h
      refine cond_i (fun h3 => ?_) (fun h3 => ?_)
      · have h3' : x.k = 3 := by simpa using h3
        have hv : isE x.e ∧ isV x.u ∧ isV x.v := by
          unfold plain at hp; rw [if_neg hk, if_pos h3'] at hp
          split at hp
          · assumption
          · cases hp
        refine ⟨_, c6.cell 1, ?_⟩
        refine addn w10 _ 1 1 [kb x.k] x.e _ (by omega) o10 k10 c6 (by have := hv.1.1; omega) (by have := hv.1.2; omega) fun a1 n1 c1 v1 hn1 ho1 kv1 hB1 => ?_
        refine ⟨_, hB1.cell 2, ?_⟩
        refine addn v1 a1 n1 c1 _ x.u _ (by omega) ho1 kv1 hB1 hv.2.1.1 hv.2.1.2 fun a2 n2 c2 v2 hn2 ho2 kv2 hB2 => ?_
        refine ⟨_, hB2.cell 3, ?_⟩
        refine addn v2 a2 n2 c2 _ x.v _ (by omega) ho2 kv2 hB2 hv.2.2.1 hv.2.2.2 fun a3 n3 c3 v3 hn3 ho3 kv3 hB3 => ?_
        refine addb v3 a3 n3 c3 _ _ (by omega) ho3 kv3 hB3 fun a4 n4 c4 v4 hn4 ho4 kv4 hB4 => ?_
        refine fin a4 n4 c4 v4 (by omega) ?_ kv4
        rw [h3', shp_3]
        rw [h3'] at ho4
        simpa [body, numsOf, Op.sel, h3'] using ho4
      · have h3' : ¬ x.k = 3 := by simpa using h3
        refine cond_i (fun h4 => ?_) (fun h4 => ?_)
        · have h4' : x.k = 4 := by simpa using h4
          have hv : isE x.e := by
            unfold plain at hp; rw [if_neg hk, if_neg h3', if_pos h4'] at hp
            split at hp
            · assumption
            · cases hp
          refine ⟨_, c6.cell 1, ?_⟩
          refine addn w10 _ 1 1 [kb x.k] x.e _ (by omega) o10 k10 c6 (by have := hv.1; omega) (by have := hv.2; omega) fun a' n' c' v' hn' ho' kv' hB' => ?_
          refine fin a' n' c' v' (by omega) ?_ kv'
          rw [h4', shp_4]
          simpa [body, numsOf, Op.sel, h4'] using ho'
        · have h4' : ¬ x.k = 4 := by simpa using h4
          refine cond_i (fun h5 => ?_) (fun h5 => ?_)
          · have h5' : x.k = 5 := by simpa using h5
            have hv : isE x.e := by
              unfold plain at hp; rw [if_neg hk, if_neg h3', if_neg h4', if_pos h5'] at hp
              split at hp
              · assumption
              · cases hp
            refine ⟨_, c6.cell 1, ?_⟩
            refine addn w10 _ 1 1 [kb x.k] x.e _ (by omega) o10 k10 c6 (by have := hv.1; omega) (by have := hv.2; omega) fun a1 n1 c1 v1 hn1 ho1 kv1 hB1 => ?_
            refine addb v1 a1 n1 c1 _ _ (by omega) ho1 kv1 hB1 fun a4 n4 c4 v4 hn4 ho4 kv4 hB4 => ?_
            refine fin a4 n4 c4 v4 (by omega) ?_ kv4
            rw [h5', shp_5]
            simpa [body, numsOf, Op.sel, h5'] using ho4
          · have h5' : ¬ x.k = 5 := by simpa using h5
            exfalso
            unfold plain at hp; rw [if_neg hk, if_neg h3', if_neg h4', if_neg h5'] at hp; cases hp
  clear_value K14
  refine cond_i (fun h1 => fin14 _ ?_) (fun h1 => ?_)
  · have : x.k = 1 := by simpa using h1
    simp [h1, this]
  · have n1 : ¬ x.k = 1 := by simpa using h1
    refine cond_i (fun h2' => fin14 _ ?_) (fun h2' => ?_)
    · have : x.k = 2 := by simpa using h2'
      simp [this]
    · have n2 : ¬ x.k = 2 := by simpa using h2'
      refine cond_i (fun h6 => fin14 _ ?_) (fun h6 => fin14 _ ?_)
      · have : x.k = 6 := by simpa using h6
        simp [this]
      · have n6 : ¬ x.k = 6 := by simpa using h6
        simp [n1, n2, n6]
end
end Go.Proofs.Ytmfidfaiopogbaa
