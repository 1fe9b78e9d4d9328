/- The check of the bytes, and the shapes of the kinds. -/
import Derived.Test.YtmfidfaiopogbaaShRec
set_option linter.unusedVariables false
set_option linter.unusedSimpArgs false
set_option linter.unusedSectionVars false
set_option maxRecDepth 4000
namespace Go.Proofs.Ytmfidfaiopogbaa
open Go Go.Sh

def chk (l : Bs) : UInt8 := l.foldl (· ^^^ ·) 90
theorem xor8 (x y : UInt8) : IntKind.u8.wrap (((BitVec.ofInt 8 (x.toNat : Int) ^^^ BitVec.ofInt 8 (y.toNat : Int)).toNat : Nat) : Int) = ((x ^^^ y).toNat : Int) := by
  rw [BitVec.ofInt_natCast, BitVec.ofInt_natCast, BitVec.toNat_xor, BitVec.toNat_ofNat, BitVec.toNat_ofNat, Nat.mod_eq_of_lt x.toNat_lt, Nat.mod_eq_of_lt y.toNat_lt, ← UInt8.toNat_xor]
  exact u8_nat _ (UInt8.toNat_lt _)
theorem chk_snoc (l : Bs) (x : UInt8) : chk (l ++ [x]) = chk l ^^^ x := by simp [chk]

/-- The numbers that a kind uses (which, from, to), and whether it uses the weight. -/
def shp (k : Int) : Option (List (Nat × Int × Int) × Bool) :=
  if k = 1 ∨ k = 2 ∨ k = 6 ∨ k = 7 then some ([(3, 0, 2147483647)], false)
  else if k = 3 then some ([(1, 1, 1024), (2, 0, 2147483647), (3, 0, 2147483647)], true)
  else if k = 4 then some ([(1, 1, 1024)], false)
  else if k = 5 then some ([(1, 1, 1024)], true) else none
def fcs : List (Nat × Int × Int) → List Value
  | [] => []
  | f :: r => .func (.func (96 + f.1)) #[] #[] :: .int .i64 f.2.1 :: .int .i64 f.2.2 :: fcs r
theorem fcs_at : ∀ (l : List (Nat × Int × Int)) (i : Nat) (f : Nat × Int × Int), l[i]? = some f → (fcs l)[i * 3]? = some (.func (.func (96 + f.1)) #[] #[]) ∧ (fcs l)[i * 3 + 1]? = some (.int .i64 f.2.1) ∧ (fcs l)[i * 3 + 2]? = some (.int .i64 f.2.2)
  | [], i, f, h => by simp at h
  | g :: r, 0, f, h => by simp at h; subst h; exact ⟨rfl, rfl, rfl⟩
  | g :: r, i + 1, f, h => by
    have := fcs_at r i f (by simpa using h)
    rw [Nat.add_mul, show i * 3 + 1 * 3 + 1 = (i * 3 + 1) + 3 by omega, show i * 3 + 1 * 3 + 2 = (i * 3 + 2) + 3 by omega]
    simpa [fcs] using this

section
variable [Av]
/-- A loop that makes the check. -/
theorem check_spec {w : World} {e2 : Nat} {a : Option Addr} {n c : Nat} {l : Bs} (h : Rd w e2 1 a n c (bvs l)) :
    Calls Try.prog 78 #[.slice a n c] w fun e w' => e = .returned (.int .u8 (chk l).toNat) ∧ w' = w := by
  have hn : n = l.length := by have := h.1; simp at this; exact this.symm
  refine c78 ?_
  unfold sh78
  refine ⟨fun vs v => ∃ i : Nat, vs = [.int .u8 (chk (l.take i)).toNat, .int .i64 i] ∧ i ≤ n ∧ v = w, fun vs v => match vs with | [_, .int _ i] => n - i.toNat | _ => 0, ⟨0, rfl, by omega, rfl⟩, ?_⟩
  rintro w4 c2 n3 ⟨i, hv, hi, rfl⟩
  simp only [List.cons.injEq, Value.int.injEq, true_and, and_true] at hv
  obtain ⟨rfl, rfl⟩ := hv
  refine cond_d (fun hlt => ?_) (fun hge => ?_)
  · have hi' : i < l.length := by omega
    obtain ⟨q, hq, hc⟩ := h.at_ (i := i) (by omega)
    obtain ⟨u, hu, hcu⟩ := hc 0 (by omega)
    rw [Nat.mul_one, Nat.add_zero] at hu
    simp only [bvs, List.getElem?_map, List.getElem?_eq_getElem hi', Option.map_some, Option.some.injEq] at hu
    subst hu
    rw [addZ] at hcu
    refine ⟨q, hq, by omega, by omega, _, by rw [Int.toNat_natCast]; exact hcu, ?_⟩
    have hm := h.2.2.1
    have hc2 := h.2.1
    simp only [maxLen] at hm
    have ei : IntKind.i64.wrap ((i : Int) + 1) = ((i + 1 : Nat) : Int) := by rw [IntWalk.i64_in _ ⟨by omega, by omega⟩]; rfl
    rw [ei, xor8, ← chk_snoc, ← List.take_succ_eq_append_getElem hi']
    refine ⟨⟨i + 1, rfl, by omega, rfl⟩, ?_⟩
    show n - ((i + 1 : Nat) : Int).toNat < n - (i : Int).toNat
    omega
  · have : l.take i = l := List.take_of_length_le (by omega)
    rw [this]
    exact ⟨rfl, rfl⟩

theorem fin2 {w : World} {p : Nat} {a b : Value} {C : Array Value} {e : TypeId} (h : Bk w p C e) (hC : C.size = 2) :
    wrN w ⟨p, 0, none⟩ 2 ∧ (setN ⟨p, 0, none⟩ 0 [a, b] w).cell? ⟨p, 0, none⟩ = some a ∧ (setN ⟨p, 0, none⟩ 0 [a, b] w).cell? ⟨p, 1, none⟩ = some b ∧ Keep (is p) w (setN ⟨p, 0, none⟩ 0 [a, b] w) := by
  have h' := h.setAll (vs := [a, b]) (by rw [hC]; rfl)
  exact ⟨h.wrN (by rw [hC]; decide), h'.cell 0, h'.cell 1, setN_keep (S := is p) (a := ⟨p, 0, none⟩) rfl _ _ _⟩

theorem shapes_spec (w : World) (k : Int) : Calls Try.prog 76 #[.int .i64 k] w fun e w' => ∃ s : Sv, e = .returned (.tuple #[.agg #[s.v, .bool ((shp k).getD ([], false)).2], .bool (shp k).isSome]) ∧
    Rd w' 133 3 s.a s.n s.c (fcs ((shp k).getD ([], false)).1) ∧ s.n = ((shp k).getD ([], false)).1.length ∧ Keep no w w' := by
  refine c76 ?_
  unfold sh76
  intro p2 w3 p4 w5
  have b2 : Bk w5 p2 #[.slice none 0 0, .bool false] 128 := (Bk.new w _ _).alloc _
  have b4 : Bk w5 p4 #[.nilFunc, .int .i64 0, .int .i64 0] 133 := Bk.new w3 _ _
  have k5 : Keep no w w5 := (Keep.alloc no w _).then (Keep.alloc no w3 _)
  have h2 : w.heap.size ≤ p2 := Nat.le_refl _
  have h4 : w.heap.size ≤ p4 := by show w.heap.size ≤ w3.heap.size; simp [w3]
  clear_value p2 p4 w3 w5
  refine ⟨b4.wrN (by simp), ?_⟩
  intro w6 p7 w8
  have c4 : Bk w6 p4 #[.func (.func 97) #[] #[], .int .i64 1, .int .i64 1024] 133 := b4.setAll rfl
  have k6 : Keep (is p4) w5 w6 := setN_keep (S := is p4) (a := ⟨p4, 0, none⟩) rfl _ _ _
  have c2 : Bk w6 p2 _ _ := b2.keep k6 fun h => (b2.ty.ne b4.ty (by decide)) h
  have d4 : Bk w8 p4 _ _ := c4.alloc _
  have d2 : Bk w8 p2 _ _ := c2.alloc _
  have d7 : Bk w8 p7 #[.nilFunc, .int .i64 0, .int .i64 0] 133 := Bk.new w6 _ _
  have h47 : p4 < p7 := c4.lt
  have k8 : Keep no w w8 := (k5.new k6 (by rintro z rfl; exact h4)).then (Keep.alloc no w6 _)
  have h7 : w.heap.size ≤ p7 := by omega
  clear_value w6 p7 w8
  refine ⟨d7.wrN (by simp), ?_⟩
  intro w9 p10 w11
  have e7 : Bk w9 p7 #[.func (.func 98) #[] #[], .int .i64 0, .int .i64 2147483647] 133 := d7.setAll rfl
  have k9 : Keep (is p7) w8 w9 := setN_keep (S := is p7) (a := ⟨p7, 0, none⟩) rfl _ _ _
  have e2 : Bk w9 p2 _ _ := d2.keep k9 fun h => (d2.ty.ne d7.ty (by decide)) h
  have e4 : Bk w9 p4 _ _ := d4.keep k9 (by unfold is; omega)
  have f2 : Bk w11 p2 _ _ := e2.alloc _
  have f4 : Bk w11 p4 _ _ := e4.alloc _
  have f7 : Bk w11 p7 _ _ := e7.alloc _
  have f10 : Bk w11 p10 #[.nilFunc, .int .i64 0, .int .i64 0] 133 := Bk.new w9 _ _
  have h710 : p7 < p10 := e7.lt
  have k11 : Keep no w w11 := (k8.new k9 (by rintro z rfl; exact h7)).then (Keep.alloc no w9 _)
  have h10 : w.heap.size ≤ p10 := by omega
  clear_value w9 p10 w11
  refine ⟨f10.wrN (by simp), ?_⟩
  intro w12
  have g10 : Bk w12 p10 #[.func (.func 99) #[] #[], .int .i64 0, .int .i64 2147483647] 133 := f10.setAll rfl
  have k12 : Keep (is p10) w11 w12 := setN_keep (S := is p10) (a := ⟨p10, 0, none⟩) rfl _ _ _
  have g2 : Bk w12 p2 _ _ := f2.keep k12 fun h => (f2.ty.ne f10.ty (by decide)) h
  have g4 : Bk w12 p4 _ _ := f4.keep k12 (by unfold is; omega)
  have g7 : Bk w12 p7 _ _ := f7.keep k12 (by unfold is; omega)
  have K12 : Keep no w w12 := k11.new k12 (by rintro z rfl; exact h10)
  clear_value w12
  clear k12 f10 f7 f4 f2 k11 e4 e2 k9 e7 d7 d2 d4 k8 c2 k6 c4 b4 b2 k5
  -- the end: a row of fields
  have done : ∀ (v : World) (C : Array Value) (n : Nat) (fs : List (Nat × Int × Int)) (bt : Bool), Bk v p2 #[.slice none 0 0, .bool false] 128 → Keep no w v → C.toList = fcs fs → fs.length = n → C.size = n * 3 → n ≤ maxLen → shp k = some (fs, bt) →
      wrN (v.alloc (.cells C 133)) ⟨p2, 0, none⟩ 2 ∧ ∃ (a47 : Option Addr) (l_a47 c_a47 : Nat) (b48 : Bool), (setN ⟨p2, 0, none⟩ 0 [.slice (some ⟨v.heap.size, 0, none⟩) n n, .bool bt] (v.alloc (.cells C 133))).cell? ⟨p2, 0, none⟩ = some (.slice a47 l_a47 c_a47) ∧
        (setN ⟨p2, 0, none⟩ 0 [.slice (some ⟨v.heap.size, 0, none⟩) n n, .bool bt] (v.alloc (.cells C 133))).cell? ⟨p2, 1, none⟩ = some (.bool b48) ∧
        ∃ s : Sv, Ending.returned (.tuple #[.agg #[.slice a47 l_a47 c_a47, .bool b48], .bool true]) = .returned (.tuple #[.agg #[s.v, .bool ((shp k).getD ([], false)).2], .bool (shp k).isSome]) ∧
          Rd (setN ⟨p2, 0, none⟩ 0 [.slice (some ⟨v.heap.size, 0, none⟩) n n, .bool bt] (v.alloc (.cells C 133))) 133 3 s.a s.n s.c (fcs ((shp k).getD ([], false)).1) ∧ s.n = ((shp k).getD ([], false)).1.length ∧
          Keep no w (setN ⟨p2, 0, none⟩ 0 [.slice (some ⟨v.heap.size, 0, none⟩) n n, .bool bt] (v.alloc (.cells C 133))) := by
    intro v C n fs bt hB kv hC hfn hCs hm hk
    have bN : Bk (v.alloc (.cells C 133)) v.heap.size C 133 := Bk.new _ _ _
    have h2' := hB.alloc (.cells C 133)
    obtain ⟨e1, e2, e3, e4⟩ := fin2 (a := .slice (some ⟨v.heap.size, 0, none⟩) n n) (b := .bool bt) h2' rfl
    refine ⟨e1, _, _, _, _, e2, e3, ⟨some ⟨v.heap.size, 0, none⟩, n, n⟩, by rw [hk]; rfl, ?_, by rw [hk]; exact hfn.symm, ?_⟩
    · have := Rd.blk bN hCs hm
      rw [hC] at this
      rw [hk]
      exact this.keep e4 (by rintro z rfl ht; exact absurd (ht.uniq h2'.ty) (by decide))
    · exact (kv.then (Keep.alloc no v _)).new e4 (by rintro z rfl; exact h2)
  intro K15
  have fin : ∀ b : Bool, (b = true ↔ (k = 1 ∨ k = 2 ∨ k = 6 ∨ k = 7)) → K15 b w12 := by
    intro b hb
    refine cond_i (fun h => ?_) (fun h => ?_)
    · refine ⟨_, _, _, g10.cell 0, g10.cell 1, g10.cell 2, ?_⟩
      exact done w12 _ 1 [(3, 0, 2147483647)] false g2 K12 rfl rfl rfl (by simp [maxLen]) (by unfold shp; rw [if_pos (hb.1 h)])
    · have hk : ¬ (k = 1 ∨ k = 2 ∨ k = 6 ∨ k = 7) := fun hk => by rw [hb.2 hk] at h; cases h
      refine cond_i (fun h3 => ?_) (fun h3 => ?_)
      · have h3' : k = 3 := by simpa using h3
        refine ⟨_, _, _, g4.cell 0, g4.cell 1, g4.cell 2, _, _, _, g7.cell 0, g7.cell 1, g7.cell 2, _, _, _, g10.cell 0, g10.cell 1, g10.cell 2, ?_⟩
        exact done w12 _ 3 [(1, 1, 1024), (2, 0, 2147483647), (3, 0, 2147483647)] true g2 K12 rfl rfl rfl (by simp [maxLen]) (by unfold shp; rw [if_neg hk, if_pos h3'])
      · have h3' : ¬ k = 3 := by simpa using h3
        refine cond_i (fun h4 => ?_) (fun h4 => ?_)
        · have h4' : k = 4 := by simpa using h4
          refine ⟨_, _, _, g4.cell 0, g4.cell 1, g4.cell 2, ?_⟩
          exact done w12 _ 1 [(1, 1, 1024)] false g2 K12 rfl rfl rfl (by simp [maxLen]) (by unfold shp; rw [if_neg hk, if_neg h3', if_pos h4'])
        · have h4' : ¬ k = 4 := by simpa using h4
          refine cond_i (fun h5 => ?_) (fun h5 => ?_)
          · have h5' : k = 5 := by simpa using h5
            refine ⟨_, _, _, g4.cell 0, g4.cell 1, g4.cell 2, ?_⟩
            exact done w12 _ 1 [(1, 1, 1024)] true g2 K12 rfl rfl rfl (by simp [maxLen]) (by unfold shp; rw [if_neg hk, if_neg h3', if_neg h4', if_pos h5'])
          · have h5' : ¬ k = 5 := by simpa using h5
            have hnone : shp k = none := by unfold shp; rw [if_neg hk, if_neg h3', if_neg h4', if_neg h5']
            obtain ⟨e1, e2, e3, e4⟩ := fin2 (a := .slice none 0 0) (b := .bool false) g2 rfl
            refine ⟨e1, _, _, _, _, e2, e3, ⟨none, 0, 0⟩, by rw [hnone]; rfl, by rw [hnone]; exact Rd.nil _ _ _, by rw [hnone]; rfl, K12.new e4 (by rintro z rfl; exact h2)⟩
  clear_value K15
  refine cond_i (fun h1 => fin _ ?_) (fun h1 => ?_)
  · have : k = 1 := by simpa using h1
    simp [h1, this]
  · have n1 : ¬ k = 1 := by simpa using h1
    refine cond_i (fun h2' => fin _ ?_) (fun h2' => ?_)
    · have : k = 2 := by simpa using h2'
      simp [this]
    · have n2 : ¬ k = 2 := by simpa using h2'
      refine cond_i (fun h6 => fin _ ?_) (fun h6 => fin _ ?_)
      · have : k = 6 := by simpa using h6
        simp [this]
      · have n6 : ¬ k = 6 := by simpa using h6
        simp [n1, n2, n6]
end
end Go.Proofs.Ytmfidfaiopogbaa
