/- The reference's numbers, Plain and Encode. -/
import Derived.Test.YtmfidfaiopogbaaShRec3
set_option linter.unusedVariables false
set_option linter.unusedSimpArgs false
set_option linter.unusedSectionVars false
set_option maxRecDepth 4000
namespace Go.Proofs.Ytmfidfaiopogbaa
open Go Go.Sh

theorem u8_mod (m : Nat) : IntKind.u8.wrap (m : Int) = ((m % 256 : Nat) : Int) := by simp [IntKind.wrap, IntKind.signed, IntKind.bits]
theorem u8_of (m : Nat) : ((UInt8.ofNat m).toNat : Int) = ((m % 256 : Nat) : Int) := by rw [UInt8.toNat_ofNat']

section
variable [Av]
/-- Bytes behind an own row. -/
theorem app5 {w v : World} {base n c : Nat} {a : Option Addr} {l l' : Bs} (ho : v.ownsRow base 5 1 (.slice a n c) n (bvs l)) {e2 m c' : Nat} {a' : Option Addr} (hr : Rd v e2 1 a' m c' (bvs l')) (hn : n + m ≤ 140737488355328)
    (hb : base ≤ v.heap.size) (hw : w.heap.size ≤ base) (k : Keep no w v) {K : Option Addr → Nat → Nat → World → Prop}
    (h : ∀ a2 c2 w', w'.ownsRow base 5 1 (.slice a2 (n + m) c2) (n + m) (bvs (l ++ l')) → Keep no w w' → Keep (OB a) v w' → K a2 (n + m) c2 w') :
    RunWp Try.prog (Builtin.append_ #[36, 36] 36 #[.slice a n c, .slice a' m c']) (fun v w' => ∃ (a2 : Option Addr) (n2 c2 : Nat), v = .slice a2 n2 c2 ∧ K a2 n2 c2 w') v := by
  refine rw_append E36 ho hr (bvs_one _) (by omega) (by simp only [maxLen]; omega) hb fun a2 c2 w' ho' k' _ => ?_
  rw [← bvs_append] at ho'
  exact h a2 c2 w' ho' (k.new k' fun y hy => Nat.le_trans hw (own_block ho hy).1) k'
theorem bk5 {v w' : World} {base n c : Nat} {a : Option Addr} {xs : List Value} (ho : v.ownsRow base 5 1 (.slice a n c) n xs) (k : Keep (OB a) v w') {b : Nat} {C : Array Value} {e : TypeId} (h : Bk v b C e) (he : e ≠ 5) : Bk w' b C e :=
  h.keep k fun hb => (own_block ho hb).2.ne h.ty (fun h => he h.symm) rfl
/-- A byte of its own. -/
theorem one_rd {w : World} (n : Nat) : Rd (w.alloc (.cells #[.int .u8 ((UInt8.ofNat n).toNat : Int)] 5)) 0 1 (some ⟨w.heap.size, 0, none⟩) 1 1 (bvs [UInt8.ofNat n]) :=
  Rd.blk0 (sz := 1) (n := 1) (Bk.new w #[.int .u8 ((UInt8.ofNat n).toNat : Int)] 5) rfl (by simp [maxLen])

theorem numR_spec (w : World) {n : Nat} (hn : n < 34359738368) : Calls Try.prog 81 #[.int .i64 n] w fun e w' => ∃ s : Sv, e = .returned s.v ∧ w'.ownsRow w.heap.size 5 1 s.v s.n (bvs (num n)) ∧ Keep no w w' := by
  refine c81 ?_
  unfold sh81
  refine ⟨fun vs v => ∃ (a : Option Addr) (c m : Nat) (pre : Bs), vs = [.slice a pre.length c, .int .i64 m] ∧ m ≤ n ∧ pre ++ num m = num n ∧ v.ownsRow w.heap.size 5 1 (.slice a pre.length c) pre.length (bvs pre) ∧ Keep no w v,
    fun vs v => match vs with | [_, .int _ i] => i.toNat | _ => 0, ⟨none, 0, n, [], rfl, Nat.le_refl _, rfl, World.ownsRow_nil _ _ _ _, Keep.refl _ _⟩, ?_⟩
  rintro w4 a0 l0 c0 n3 ⟨a, c, m, pre, hv, hm, hpre, ho, k4⟩
  simp only [List.cons.injEq, Value.slice.injEq, Value.int.injEq, true_and, and_true] at hv
  obtain ⟨⟨rfl, rfl, rfl⟩, rfl⟩ := hv
  have hlen : pre.length + (num m).length = (num n).length := by rw [← hpre]; simp
  have hl5 := num_len5 hn
  refine cond_d (fun hge => ?_) (fun hlt => ?_)
  · have hge' : ¬ m < 128 := by omega
    rw [num_ge hge'] at hpre hlen
    refine ⟨by omega, ?_⟩
    have hb : IntKind.u8.wrap (IntKind.i64.wrap ((Int.tmod (m : Int) (128 : Int)) + (128 : Int))) = ((UInt8.ofNat (m % 128 + 128)).toNat : Int) := by
      rw [Int.tmod_eq_emod_of_nonneg (by omega), show (m : Int) % 128 = ((m % 128 : Nat) : Int) from rfl, IntWalk.i64_in _ ⟨by omega, by omega⟩, u8_of]
      rw [show ((m % 128 : Nat) : Int) + 128 = ((m % 128 + 128 : Nat) : Int) from rfl, u8_mod]
    rw [hb]
    intro p7 w8
    have k8 : Keep no w4 w8 := Keep.alloc _ _ _
    have hr : Rd w8 0 1 (some ⟨p7, 0, none⟩) 1 1 (bvs [UInt8.ofNat (m % 128 + 128)]) := one_rd _
    clear_value p7 w8
    refine app5 (own_no ho k8) hr (by omega) (k4.then k8).size (Nat.le_refl _) (k4.then k8) fun a2 c2 w10 ho' k' _ => ?_
    have hd : IntKind.i64.wrap (Int.tdiv (m : Int) (128 : Int)) = ((m / 128 : Nat) : Int) := by
      rw [Int.tdiv_eq_ediv_of_nonneg (by omega), show (m : Int) / 128 = ((m / 128 : Nat) : Int) from rfl, IntWalk.i64_in _ ⟨by omega, by omega⟩]
    rw [hd]
    refine ⟨by omega, ⟨a2, c2, m / 128, pre ++ [UInt8.ofNat (m % 128 + 128)], by simp, by omega, by rw [← hpre]; simp, by simpa using ho', k'⟩, ?_⟩
    show ((m / 128 : Nat) : Int).toNat < (m : Int).toNat
    omega
  · have hlt' : m < 128 := by omega
    rw [num_lt hlt'] at hpre hlen
    have hb : IntKind.u8.wrap (m : Int) = ((UInt8.ofNat m).toNat : Int) := by rw [u8_of, u8_mod]
    rw [hb]
    intro p12 w13
    have k8 : Keep no w4 w13 := Keep.alloc _ _ _
    have hr : Rd w13 0 1 (some ⟨p12, 0, none⟩) 1 1 (bvs [UInt8.ofNat m]) := one_rd _
    clear_value p12 w13
    refine app5 (own_no ho k8) hr (by omega) (k4.then k8).size (Nat.le_refl _) (k4.then k8) fun a2 c2 w10 ho' k' _ => ?_
    rw [hpre] at ho'
    exact ⟨⟨a2, pre.length + 1, c2⟩, rfl, ho', k'⟩

theorem bitsR_spec (w : World) {b : Int} (h0 : 0 ≤ b) (h1 : b < 4294967296) : Calls Try.prog 82 #[.int .i64 b] w fun e w' => ∃ s : Sv, e = .returned s.v ∧ Rd w' 0 1 s.a s.n s.c (bvs (bits4 b.toNat)) ∧ s.n = 4 ∧ Keep no w w' := by
  obtain ⟨n, rfl⟩ := Int.eq_ofNat_of_zero_le h0
  refine c82 ?_
  unfold sh82
  refine ⟨by omega, by omega, by omega, by omega, by omega, by omega, ?_⟩
  have e0 : IntKind.u8.wrap (Int.tmod (n : Int) (256 : Int)) = ((UInt8.ofNat (n % 256)).toNat : Int) := by
    rw [Int.tmod_eq_emod_of_nonneg (by omega), show (n : Int) % 256 = ((n % 256 : Nat) : Int) from rfl, u8_of, u8_mod]
  have e1 : IntKind.u8.wrap (Int.tmod (IntKind.i64.wrap (Int.tdiv (n : Int) (256 : Int))) (256 : Int)) = ((UInt8.ofNat (n / 256 % 256)).toNat : Int) := by
    rw [Int.tdiv_eq_ediv_of_nonneg (by omega), show (n : Int) / 256 = ((n / 256 : Nat) : Int) from rfl, IntWalk.i64_in _ ⟨by omega, by omega⟩, Int.tmod_eq_emod_of_nonneg (by omega),
      show ((n / 256 : Nat) : Int) % 256 = ((n / 256 % 256 : Nat) : Int) from rfl, u8_of, u8_mod]
  have e2 : IntKind.u8.wrap (Int.tmod (IntKind.i64.wrap (Int.tdiv (n : Int) (65536 : Int))) (256 : Int)) = ((UInt8.ofNat (n / 65536 % 256)).toNat : Int) := by
    rw [Int.tdiv_eq_ediv_of_nonneg (by omega), show (n : Int) / 65536 = ((n / 65536 : Nat) : Int) from rfl, IntWalk.i64_in _ ⟨by omega, by omega⟩, Int.tmod_eq_emod_of_nonneg (by omega),
      show ((n / 65536 : Nat) : Int) % 256 = ((n / 65536 % 256 : Nat) : Int) from rfl, u8_of, u8_mod]
  have e3 : IntKind.u8.wrap (IntKind.i64.wrap (Int.tdiv (n : Int) (16777216 : Int))) = ((UInt8.ofNat (n / 16777216 % 256)).toNat : Int) := by
    rw [Int.tdiv_eq_ediv_of_nonneg (by omega), show (n : Int) / 16777216 = ((n / 16777216 : Nat) : Int) from rfl, IntWalk.i64_in _ ⟨by omega, by omega⟩, u8_of, u8_mod]
    congr 1; omega
  rw [e0, e1, e2, e3]
  intro p2 w3
  refine ⟨⟨some ⟨p2, 0, none⟩, 4, 4⟩, rfl, ?_, rfl, Keep.alloc _ _ _⟩
  exact Rd.blk0 (sz := 1) (n := 4) (Bk.new w _ 5) rfl (by simp [maxLen])

def isV (v : Int) : Prop := 0 ≤ v ∧ v ≤ 2147483647
def isE (e : Int) : Prop := 1 ≤ e ∧ e ≤ 1024
instance (v : Int) : Decidable (isV v) := by unfold isV; infer_instance
instance (v : Int) : Decidable (isE v) := by unfold isE; infer_instance
theorem vertex_spec (w : World) (v : Int) : Calls Try.prog 79 #[.int .i64 v] w fun e w' => e = .returned (.bool (decide (isV v))) ∧ w' = w := by
  refine c79 ?_
  unfold sh79
  refine cond_d (fun h => ?_) (fun h => ?_)
  · refine ⟨?_, rfl⟩
    congr 2
    exact decide_eq_decide.2 ⟨fun h' => ⟨h, h'⟩, fun h' => h'.2⟩
  · refine ⟨?_, rfl⟩
    rw [decide_eq_false (by unfold isV; omega)]
theorem edge_spec (w : World) (v : Int) : Calls Try.prog 80 #[.int .i64 v] w fun e w' => e = .returned (.bool (decide (isE v))) ∧ w' = w := by
  refine c80 ?_
  unfold sh80
  refine cond_d (fun h => ?_) (fun h => ?_)
  · refine ⟨?_, rfl⟩
    congr 2
    exact decide_eq_decide.2 ⟨fun h' => ⟨h, h'⟩, fun h' => h'.2⟩
  · refine ⟨?_, rfl⟩
    rw [decide_eq_false (by unfold isE; omega)]

/-- The operation without what its kind doesn't use. -/
def plain (x : Op) : Option Op :=
  if x.k = 1 ∨ x.k = 2 ∨ x.k = 6 ∨ x.k = 7 then if isV x.v then some ⟨x.k, 0, 0, x.v, 0⟩ else none
  else if x.k = 3 then if isE x.e ∧ isV x.u ∧ isV x.v then some x else none
  else if x.k = 4 then if isE x.e then some ⟨x.k, x.e, 0, 0, 0⟩ else none
  else if x.k = 5 then if isE x.e then some ⟨x.k, x.e, 0, 0, x.b⟩ else none
  else none
theorem fin5 {w : World} {p : Nat} {a b c d e : Value} {C : Array Value} {t : TypeId} (h : Bk w p C t) (hC : C.size = 5) :
    wrN w ⟨p, 0, none⟩ 5 ∧ Bk (setN ⟨p, 0, none⟩ 0 [a, b, c, d, e] w) p #[a, b, c, d, e] t ∧ Keep (is p) w (setN ⟨p, 0, none⟩ 0 [a, b, c, d, e] w) :=
  ⟨h.wrN (by rw [hC]; decide), h.setAll (vs := [a, b, c, d, e]) (by rw [hC]; rfl), setN_keep (S := is p) (a := ⟨p, 0, none⟩) rfl _ _ _⟩

theorem Plain_spec (w : World) (x : Op) : Calls Try.prog 38 #[opV x] w fun e w' => Keep no w w' ∧ ((plain x = none ∧ ∃ z, e = .returned (.tuple #[opV z, .int .i64 190])) ∨ ∃ y, plain x = some y ∧ e = .returned (.tuple #[opV y, .int .i64 0])) := by
  refine c38 ?_
  unfold sh38
  intro p6 w7 p8 w9
  have b6 : Bk w9 p6 (opC x) 57 := (Bk.new w _ _).alloc _
  have b8 : Bk w9 p8 #[.int .i64 0, .int .i64 0, .int .i64 0, .int .i64 0, .int .u32 0] 57 := Bk.new w7 _ _
  have k9 : Keep no w w9 := (Keep.alloc no w _).then (Keep.alloc no w7 _)
  have h6 : w.heap.size ≤ p6 := Nat.le_refl _
  have h8 : w.heap.size ≤ p8 := by show w.heap.size ≤ w7.heap.size; simp [w7]
  have h68 : p6 ≠ p8 := by show w.heap.size ≠ w7.heap.size; simp [w7]
  clear_value p6 p8 w7 w9
  intro K50
  have bad : ∀ v, Bk v p8 #[.int .i64 0, .int .i64 0, .int .i64 0, .int .i64 0, .int .u32 0] 57 → Keep no w v → plain x = none → K50 false v := by
    intro v hB k hp
    refine cond_t rfl ?_
    obtain ⟨e1, e2, e3⟩ := fin5 (a := .int .i64 0) (b := .int .i64 0) (c := .int .i64 0) (d := .int .i64 0) (e := .int .u32 0) hB rfl
    exact ⟨e1, _, _, _, _, _, e2.cell 0, e2.cell 1, e2.cell 2, e2.cell 3, e2.cell 4, k.new e3 (by rintro z rfl; exact h8), .inl ⟨hp, ⟨0, 0, 0, 0, 0⟩, rfl⟩⟩
  have good : ∀ v (y : Op), Bk v p6 (opC y) 57 → Bk v p8 #[.int .i64 0, .int .i64 0, .int .i64 0, .int .i64 0, .int .u32 0] 57 → Keep no w v → plain x = some y → K50 true v := by
    intro v y hB6 hB k hp
    refine cond_f rfl ?_
    obtain ⟨e1, e2, e3⟩ := fin5 (a := .int .i64 y.k) (b := .int .i64 y.e) (c := .int .i64 y.u) (d := .int .i64 y.v) (e := .int .u32 y.b) hB rfl
    exact ⟨_, _, _, _, _, hB6.cell 0, hB6.cell 1, hB6.cell 2, hB6.cell 3, hB6.cell 4, e1, _, _, _, _, _, e2.cell 0, e2.cell 1, e2.cell 2, e2.cell 3, e2.cell 4, k.new e3 (by rintro z rfl; exact h8), .inr ⟨y, hp, rfl⟩⟩
  clear_value K50
  -- the operation is written anew in its place
  have anew : ∀ y : Op, wrN w9 ⟨p6, 0, none⟩ 5 ∧ Bk (setN ⟨p6, 0, none⟩ 0 [.int .i64 y.k, .int .i64 y.e, .int .i64 y.u, .int .i64 y.v, .int .u32 y.b] w9) p6 (opC y) 57 ∧
      Bk (setN ⟨p6, 0, none⟩ 0 [.int .i64 y.k, .int .i64 y.e, .int .i64 y.u, .int .i64 y.v, .int .u32 y.b] w9) p8 #[.int .i64 0, .int .i64 0, .int .i64 0, .int .i64 0, .int .u32 0] 57 ∧
      Keep no w (setN ⟨p6, 0, none⟩ 0 [.int .i64 y.k, .int .i64 y.e, .int .i64 y.u, .int .i64 y.v, .int .u32 y.b] w9) := by
    intro y
    obtain ⟨e1, e2, e3⟩ := fin5 (a := .int .i64 y.k) (b := .int .i64 y.e) (c := .int .i64 y.u) (d := .int .i64 y.v) (e := .int .u32 y.b) b6 rfl
    exact ⟨e1, e2, b8.keep e3 fun h => h68 h.symm, k9.new e3 (by rintro z rfl; exact h6)⟩
  refine ⟨_, b6.cell 0, ?_⟩
  intro K13
  have fin : ∀ b : Bool, (b = true ↔ (x.k = 1 ∨ x.k = 2 ∨ x.k = 6 ∨ x.k = 7)) → K13 b w9 := by
    intro b hb
    refine cond_i (fun h => ?_) (fun h => ?_)
    · obtain ⟨e1, e2, e3, e4⟩ := anew ⟨x.k, 0, 0, x.v, 0⟩
      refine ⟨_, b6.cell 0, _, b6.cell 3, e1, _, e2.cell 3, ?_⟩
      refine (vertex_spec _ x.v).mono ?_
      rintro e w19 ⟨rfl, rfl⟩
      refine ⟨_, rfl, ?_⟩
      by_cases hv : isV x.v
      · rw [decide_eq_true hv]; exact good _ _ e2 e3 e4 (by unfold plain; rw [if_pos (hb.1 h), if_pos hv])
      · rw [decide_eq_false hv]; exact bad _ e3 e4 (by unfold plain; rw [if_pos (hb.1 h), if_neg hv])
    · have hk : ¬ (x.k = 1 ∨ x.k = 2 ∨ x.k = 6 ∨ x.k = 7) := fun hk => by rw [hb.2 hk] at h; cases h
      refine cond_i (fun h3 => ?_) (fun h3 => ?_)
      · have h3' : x.k = 3 := by simpa using h3
        have hpl : plain x = if isE x.e ∧ isV x.u ∧ isV x.v then some x else none := by unfold plain; rw [if_neg hk, if_pos h3']
        refine ⟨_, b6.cell 1, ?_⟩
        refine (edge_spec _ x.e).mono ?_
        rintro e w19 ⟨rfl, rfl⟩
        refine ⟨_, rfl, ?_⟩
        refine cond_d (fun he => ?_) (fun he => bad _ b8 k9 (by rw [hpl, if_neg fun h => he h.1]))
        refine ⟨_, b6.cell 2, ?_⟩
        refine (vertex_spec _ x.u).mono ?_
        rintro e w19 ⟨rfl, rfl⟩
        refine ⟨_, rfl, ?_⟩
        refine cond_d (fun hu => ?_) (fun hu => bad _ b8 k9 (by rw [hpl, if_neg fun h => hu h.2.1]))
        refine ⟨_, b6.cell 3, ?_⟩
        refine (vertex_spec _ x.v).mono ?_
        rintro e w19 ⟨rfl, rfl⟩
        refine ⟨_, rfl, ?_⟩
        by_cases hv : isV x.v
        · rw [decide_eq_true hv]; exact good _ _ b6 b8 k9 (by rw [hpl, if_pos ⟨he, hu, hv⟩])
        · rw [decide_eq_false hv]; exact bad _ b8 k9 (by rw [hpl, if_neg fun h => hv h.2.2])
      · have h3' : ¬ x.k = 3 := by simpa using h3
        refine cond_i (fun h4 => ?_) (fun h4 => ?_)
        · have h4' : x.k = 4 := by simpa using h4
          have hpl : plain x = if isE x.e then some ⟨x.k, x.e, 0, 0, 0⟩ else none := by unfold plain; rw [if_neg hk, if_neg h3', if_pos h4']
          obtain ⟨e1, e2, e3, e4⟩ := anew ⟨x.k, x.e, 0, 0, 0⟩
          refine ⟨_, b6.cell 0, _, b6.cell 1, e1, _, e2.cell 1, ?_⟩
          refine (edge_spec _ x.e).mono ?_
          rintro e w19 ⟨rfl, rfl⟩
          refine ⟨_, rfl, ?_⟩
          by_cases hv : isE x.e
          · rw [decide_eq_true hv]; exact good _ _ e2 e3 e4 (by rw [hpl, if_pos hv])
          · rw [decide_eq_false hv]; exact bad _ e3 e4 (by rw [hpl, if_neg hv])
        · have h4' : ¬ x.k = 4 := by simpa using h4
          refine cond_i (fun h5 => ?_) (fun h5 => ?_)
          · have h5' : x.k = 5 := by simpa using h5
            have hpl : plain x = if isE x.e then some ⟨x.k, x.e, 0, 0, x.b⟩ else none := by unfold plain; rw [if_neg hk, if_neg h3', if_neg h4', if_pos h5']
            obtain ⟨e1, e2, e3, e4⟩ := anew ⟨x.k, x.e, 0, 0, x.b⟩
            refine ⟨_, b6.cell 0, _, b6.cell 1, _, b6.cell 4, e1, _, e2.cell 1, ?_⟩
            refine (edge_spec _ x.e).mono ?_
            rintro e w19 ⟨rfl, rfl⟩
            refine ⟨_, rfl, ?_⟩
            by_cases hv : isE x.e
            · rw [decide_eq_true hv]; exact good _ _ e2 e3 e4 (by rw [hpl, if_pos hv])
            · rw [decide_eq_false hv]; exact bad _ e3 e4 (by rw [hpl, if_neg hv])
          · have h5' : ¬ x.k = 5 := by simpa using h5
            exact bad _ b8 k9 (by unfold plain; rw [if_neg hk, if_neg h3', if_neg h4', if_neg h5'])
  clear_value K13
  refine cond_i (fun h1 => fin _ ?_) (fun h1 => ?_)
  · have : x.k = 1 := by simpa using h1
    simp [h1, this]
  · have n1 : ¬ x.k = 1 := by simpa using h1
    refine cond_i (fun h2' => fin _ ?_) (fun h2' => ?_)
    · have : x.k = 2 := by simpa using h2'
      simp [this]
    · have n2 : ¬ x.k = 2 := by simpa using h2'
      refine cond_i (fun h6 => fin _ ?_) (fun h6 => fin _ ?_)
      · have : x.k = 6 := by simpa using h6
        simp [this]
      · have n6 : ¬ x.k = 6 := by simpa using h6
        simp [n1, n2, n6]
end
end Go.Proofs.Ytmfidfaiopogbaa
