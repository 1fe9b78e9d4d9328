/- Encode, the program's. -/
import Derived.Test.YtmfidfaiopogbaaShRec2
set_option linter.unusedVariables false
set_option linter.unusedSimpArgs false
set_option linter.unusedSectionVars false
set_option maxRecDepth 4000
namespace Go.Proofs.Ytmfidfaiopogbaa
open Go Go.Sh

def kb (k : Int) : UInt8 := UInt8.ofNat k.toNat
def bits4 (b : Nat) : Bs := [UInt8.ofNat (b % 256), UInt8.ofNat (b / 256 % 256), UInt8.ofNat (b / 65536 % 256), UInt8.ofNat (b / 16777216 % 256)]
def numsOf (x : Op) (fs : List (Nat × Int × Int)) : Bs := fs.flatMap fun f => num (x.sel f.1).toNat
def okf (x : Op) (f : Nat × Int × Int) : Prop := f.2.1 ≤ x.sel f.1 ∧ x.sel f.1 ≤ f.2.2
instance (x : Op) (f : Nat × Int × Int) : Decidable (okf x f) := by unfold okf; infer_instance
def body (x : Op) (s : List (Nat × Int × Int) × Bool) : Bs := kb x.k :: (numsOf x s.1 ++ bif s.2 then bits4 x.b.toNat else [])
def sealed (b : Bs) : Bs := (UInt8.ofNat b.length :: b) ++ [chk (UInt8.ofNat b.length :: b)]
/-- The record of an operation, if it has one. -/
def enc (x : Op) : Option Bs :=
  match shp x.k with
  | none => none
  | some s => if ∀ f ∈ s.1, okf x f then some (sealed (body x s)) else none

theorem shp_f {k : Int} {s : List (Nat × Int × Int) × Bool} (h : shp k = some s) : s.1.length ≤ 3 ∧ (∀ f ∈ s.1, (f.1 = 1 ∨ f.1 = 2 ∨ f.1 = 3) ∧ 0 ≤ f.2.1 ∧ f.2.2 ≤ 2147483647) ∧ 1 ≤ k ∧ k ≤ 7 := by
  unfold shp at h
  split at h
  · cases h; simp; omega
  · split at h
    · cases h; simp; omega
    · split at h
      · cases h; simp; omega
      · split at h
        · cases h; simp; omega
        · cases h

section
variable [Av]
theorem sel_spec {w : World} {p j : Nat} (hj : j = 1 ∨ j = 2 ∨ j = 3) : Calls Try.prog (96 + j) #[.pointer (some ⟨p, 0, none⟩)] w fun e w' => e = .returned (.pointer (some ⟨p, j, none⟩)) ∧ w' = w := by
  rcases hj with rfl | rfl | rfl
  · exact c97 (by unfold sh97; rw [addP]; exact ⟨rfl, rfl⟩)
  · exact c98 (by unfold sh98; rw [addP]; exact ⟨rfl, rfl⟩)
  · exact c99 (by unfold sh99; rw [addP]; exact ⟨rfl, rfl⟩)
theorem op_cell {w : World} {p : Nat} {x : Op} (h : Bk w p (opC x) 57) {j : Nat} (hj : j = 1 ∨ j = 2 ∨ j = 3) : w.cell? ⟨p, j, none⟩ = some (.int .i64 (x.sel j)) := by
  rw [h.cell]
  rcases hj with rfl | rfl | rfl <;> rfl
theorem own_no {w w' : World} {base n c e : Nat} {a : Option Addr} {xs : List Value} (h : w.ownsRow base e 1 (.slice a n c) n xs) (k : Keep no w w') : w'.ownsRow base e 1 (.slice a n c) n xs := own_keep h k fun _ _ h => h

/-- The byte of the weight. -/
theorem bit_byte {b : Int} (h0 : 0 ≤ b) (h1 : b < 4294967296) {i : Nat} (hi : i < 4) :
    IntKind.u8.wrap (Int.fdiv b (2 ^ (min (IntKind.i64.wrap ((8 : Int) * (i : Int))).toNat 32))) = (((bits4 b.toNat)[i]?.getD 0).toNat : Int) := by
  obtain ⟨n, rfl⟩ := Int.eq_ofNat_of_zero_le h0
  have hw : ∀ m : Nat, IntKind.u8.wrap (m : Int) = ((m % 256 : Nat) : Int) := fun m => by simp [IntKind.wrap, IntKind.signed, IntKind.bits]
  have hu : ∀ m : Nat, m < 256 → (UInt8.ofNat m).toNat = m := fun m hm => by rw [UInt8.toNat_ofNat']; omega
  rw [IntWalk.i64_in _ ⟨by omega, by omega⟩]
  match i, hi with
  | 0, _ =>
    show IntKind.u8.wrap (Int.fdiv (n : Int) 1) = _
    rw [Int.fdiv_eq_ediv_of_nonneg _ (by omega), Int.ediv_one, hw]
    simp only [bits4, Int.toNat_natCast]
    rw [show ([UInt8.ofNat (n % 256), UInt8.ofNat (n / 256 % 256), UInt8.ofNat (n / 65536 % 256), UInt8.ofNat (n / 16777216 % 256)] : Bs)[0]?.getD 0 = UInt8.ofNat (n % 256) from rfl, hu _ (by omega)]
  | 1, _ =>
    show IntKind.u8.wrap (Int.fdiv (n : Int) 256) = _
    rw [Int.fdiv_eq_ediv_of_nonneg _ (by omega), show (n : Int) / 256 = ((n / 256 : Nat) : Int) from rfl, hw]
    simp only [bits4, Int.toNat_natCast]
    rw [show ([UInt8.ofNat (n % 256), UInt8.ofNat (n / 256 % 256), UInt8.ofNat (n / 65536 % 256), UInt8.ofNat (n / 16777216 % 256)] : Bs)[1]?.getD 0 = UInt8.ofNat (n / 256 % 256) from rfl, hu _ (by omega)]
  | 2, _ =>
    show IntKind.u8.wrap (Int.fdiv (n : Int) 65536) = _
    rw [Int.fdiv_eq_ediv_of_nonneg _ (by omega), show (n : Int) / 65536 = ((n / 65536 : Nat) : Int) from rfl, hw]
    simp only [bits4, Int.toNat_natCast]
    rw [show ([UInt8.ofNat (n % 256), UInt8.ofNat (n / 256 % 256), UInt8.ofNat (n / 65536 % 256), UInt8.ofNat (n / 16777216 % 256)] : Bs)[2]?.getD 0 = UInt8.ofNat (n / 65536 % 256) from rfl, hu _ (by omega)]
  | 3, _ =>
    show IntKind.u8.wrap (Int.fdiv (n : Int) 16777216) = _
    rw [Int.fdiv_eq_ediv_of_nonneg _ (by omega), show (n : Int) / 16777216 = ((n / 16777216 : Nat) : Int) from rfl, hw]
    simp only [bits4, Int.toNat_natCast]
    rw [show ([UInt8.ofNat (n % 256), UInt8.ofNat (n / 256 % 256), UInt8.ofNat (n / 65536 % 256), UInt8.ofNat (n / 16777216 % 256)] : Bs)[3]?.getD 0 = UInt8.ofNat (n / 16777216 % 256) from rfl, hu _ (by omega)]
theorem bits4_take (b : Nat) {i : Nat} (hi : i < 4) : (bits4 b).take (i + 1) = (bits4 b).take i ++ [(bits4 b)[i]?.getD 0] := by
  match i, hi with
  | 0, _ => rfl
  | 1, _ => rfl
  | 2, _ => rfl
  | 3, _ => rfl
theorem numsOf_len {x : Op} {fs : List (Nat × Int × Int)} (h : ∀ f ∈ fs, okf x f ∧ f.2.2 ≤ 2147483647) : (numsOf x fs).length ≤ 5 * fs.length := by
  induction fs with
  | nil => simp [numsOf]
  | cons f r ih =>
    have h1 := ih fun g hg => h g (List.mem_cons_of_mem _ hg)
    have h2 := h f (List.mem_cons_self ..)
    have h3 := num_len5 (n := (x.sel f.1).toNat) (by have := h2.1.2; omega)
    simp only [numsOf, List.flatMap_cons, List.length_append, List.length_cons] at h1 ⊢
    omega

/-- What Encode answers. -/
def EncD (w w' : World) (x : Op) (e : Ending) : Prop :=
  ∃ (s : Sv) (c : Int), e = .returned (.tuple #[s.v, .int .i64 c]) ∧ Keep no w w' ∧
    ((enc x = none ∧ c = 190 ∧ s = ⟨none, 0, 0⟩) ∨ ∃ l, enc x = some l ∧ c = 0 ∧ w'.ownsRow w.heap.size 5 1 s.v s.n (bvs l))

theorem Encode_spec (w : World) {x : Op} (hx : x.fit) : Calls Try.prog 37 #[opV x] w fun e w' => EncD w w' x e := by
  refine c37 ?_
  unfold sh37
  intro p6 w7
  have b6 : Bk w7 p6 (opC x) 57 := Bk.new w _ _
  have k7 : Keep no w w7 := Keep.alloc _ _ _
  have h6 : w.heap.size ≤ p6 := Nat.le_refl _
  clear_value p6 w7
  refine ⟨_, b6.cell 0, ?_⟩
  refine (shapes_spec w7 x.k).mono ?_
  rintro e w10 ⟨s, rfl, hs, hsn, k10⟩
  refine ⟨_, _, _, _, _, rfl, ?_⟩
  intro p14 w15
  have b14 : Bk w15 p14 #[.slice none 0 0, .bool false] 128 := Bk.new w10 _ _
  have k15 : Keep no w10 w15 := Keep.alloc _ _ _
  have h14 : w10.heap.size ≤ p14 := Nat.le_refl _
  clear_value p14 w15
  refine ⟨b14.wrN (by simp), ?_⟩
  generalize hsh : shp x.k = sh at hs hsn ⊢
  intro w16
  have c14 : Bk w16 p14 #[s.v, .bool (sh.getD ([], false)).2] 128 := b14.setAll rfl
  have k16 : Keep (is p14) w15 w16 := setN_keep (S := is p14) (a := ⟨p14, 0, none⟩) rfl _ _ _
  clear_value w16
  have k1016 : Keep no w10 w16 := k15.new k16 (by rintro z rfl; exact h14)
  have K16 : Keep no w w16 := (k7.then k10).then k1016
  have c6 : Bk w16 p6 _ _ := (b6.no k10).no k1016
  cases sh with
  | none =>
    refine cond_t rfl ?_
    exact ⟨⟨none, 0, 0⟩, _, rfl, K16, .inl ⟨by unfold enc; rw [hsh], rfl, rfl⟩⟩
  | some sp =>
    obtain ⟨fs, bt⟩ := sp
    obtain ⟨hf3, hfr, hk1, hk7⟩ := shp_f hsh
    simp only [Option.getD_some] at hs hsn c14 hf3 hfr
    refine cond_f rfl ?_
    refine ⟨_, c6.cell 0, ?_⟩
    have hkb : IntKind.u8.wrap x.k = (kb x.k).toNat := by
      rw [IntWalk.u8_in _ ⟨by omega, by omega⟩]
      unfold kb
      rw [UInt8.toNat_ofNat']
      omega
    rw [hkb]
    intro p18 w19
    have o19 : w19.ownsRow w.heap.size 5 1 (.slice (some ⟨p18, 0, none⟩) 2 2) 2 (bvs [0, kb x.k]) := World.ownsRow_lit w16 #[.int .u8 0, .int .u8 (kb x.k).toNat] 2 K16.size (by simp [maxLen]) rfl
    have k19 : Keep no w16 w19 := Keep.alloc _ _ _
    have h18 : w16.heap.size ≤ p18 := Nat.le_refl _
    clear_value p18 w19
    have d14 := c14.no k19
    have d6 := c6.no k19
    have hs19 := (hs.no k1016).no k19
    have K19 := K16.then k19
    refine ⟨s.a, s.n, s.c, d14.cell 0, ?_⟩
    refine ⟨fun vs v => ∃ (i : Nat) (a : Option Addr) (n c : Nat), vs = [.slice none 0 0, .int .i64 0, .slice a n c, .int .i64 i] ∧ i ≤ fs.length ∧ (∀ f ∈ fs.take i, okf x f) ∧ n = 2 + (numsOf x (fs.take i)).length ∧
        v.ownsRow w.heap.size 5 1 (.slice a n c) n (bvs ([0, kb x.k] ++ numsOf x (fs.take i))) ∧ Bk v p6 (opC x) 57 ∧ Bk v p14 #[s.v, .bool bt] 128 ∧ Rd v 133 3 s.a s.n s.c (fcs fs) ∧ Keep no w v,
      fun vs v => match vs with | [_, _, _, .int _ i] => fs.length - i.toNat | _ => 0,
      ⟨0, some ⟨p18, 0, none⟩, 2, 2, rfl, by omega, by simp, rfl, o19, d6, d14, hs19, K19⟩, ?_⟩
    rintro w25 a21 l21 cc21 n22 b23 l23 c23 n24 ⟨i, a, n, c, hv, hi, hok, hn, ho, e6, e14, hr, K25⟩
    simp only [List.cons.injEq, Value.slice.injEq, Value.int.injEq, true_and, and_true] at hv
    obtain ⟨⟨rfl, rfl, rfl⟩, rfl, ⟨rfl, rfl, rfl⟩, rfl⟩ := hv
    have hlen5 : (numsOf x (fs.take i)).length ≤ 5 * (fs.take i).length := numsOf_len fun f hf => ⟨hok f hf, (hfr f (List.mem_of_mem_take hf)).2.2⟩
    have htk : (fs.take i).length ≤ 3 := by rw [List.length_take]; omega
    refine cond_d (fun hlt => ?_) (fun hge => ?_)
    · -- a number
      have hi' : i < fs.length := by omega
      obtain ⟨q, hq, hc⟩ := hr.at_ (i := i) (by omega)
      have hfi : fs[i]? = some fs[i] := List.getElem?_eq_getElem hi'
      obtain ⟨g0, g1, g2⟩ := fcs_at fs i _ hfi
      obtain ⟨hj, hlo, hhi⟩ := hfr _ (List.getElem_mem hi')
      generalize hff : fs[i] = f at g0 g1 g2 hj hlo hhi
      have hcell : ∀ j u, j < 3 → (fcs fs)[i * 3 + j]? = some u → w25.cell? ((q.add (i * 3)).add j) = some u := by
        intro j u hj hu
        obtain ⟨u', hu', hc'⟩ := hc j hj
        rw [hu] at hu'; cases hu'; exact hc'
      refine ⟨q, hq, by omega, by omega, ?_⟩
      rw [Int.toNat_natCast]
      refine ⟨_, _, _, by have := hcell 0 _ (by omega) g0; rwa [addZ] at this, hcell 1 _ (by omega) g1, hcell 2 _ (by omega) g2, ?_⟩
      intro p32 w33
      have b32 : Bk w33 p32 #[.nilFunc, .int .i64 0, .int .i64 0] 133 := Bk.new w25 _ _
      have k33 : Keep no w25 w33 := Keep.alloc _ _ _
      have h32 : w25.heap.size ≤ p32 := Nat.le_refl _
      clear_value p32 w33
      refine cond_t rfl ⟨b32.wrN (by simp), ?_⟩
      intro w34
      have c32 : Bk w34 p32 #[.func (.func (96 + f.1)) #[] #[], .int .i64 f.2.1, .int .i64 f.2.2] 133 := b32.setAll rfl
      have k34 : Keep (is p32) w33 w34 := setN_keep (S := is p32) (a := ⟨p32, 0, none⟩) rfl _ _ _
      clear_value w34
      have k2534 : Keep no w25 w34 := k33.new k34 (by rintro z rfl; exact h32)
      have f6 := e6.no k2534
      refine ⟨_, c32.cell 0, ?_⟩
      show cond (cl (96 + f.1)) _ _
      refine cond_t (by rcases hj with h | h | h <;> rw [h] <;> rfl) ?_
      show Calls Try.prog (96 + f.1) #[.pointer (some ⟨p6, 0, none⟩)] _ _
      refine (sel_spec hj).mono ?_
      rintro e w39 ⟨rfl, rfl⟩
      refine ⟨_, rfl, _, op_cell f6 hj, ?_⟩
      intro K50
      have bad : ∀ n45 b46 b47, ¬ okf x f → K50 n45 b46 b47 true w39 := by
        intro n45 b46 b47 hbad
        refine cond_t rfl ?_
        refine ⟨⟨none, 0, 0⟩, _, rfl, K25.then k2534, .inl ⟨?_, rfl, rfl⟩⟩
        unfold enc; rw [hsh]
        exact if_neg fun h => hbad (h f (hff ▸ List.getElem_mem hi'))
      have ok : ∀ n45 b46 b47, okf x f → K50 n45 b46 b47 false w39 := by
        intro n45 b46 b47 hgood
        refine cond_f rfl ?_
        have h0 : 0 ≤ x.sel f.1 := Int.le_trans hlo hgood.1
        have hm : x.sel f.1 = ((x.sel f.1).toNat : Int) := by omega
        rw [hm]
        have ho39 := own_no ho k2534
        refine (put_spec ho39 (K25.then k2534).size (by omega) (x.sel f.1).toNat (by have := hgood.2; omega)).mono ?_
        rintro e w52 ⟨a2, c2, rfl, ho52, k52, hw52⟩
        refine ⟨_, _, _, rfl, ?_⟩
        have t5 : ∀ y, OB b23 y → TyB w39 y 5 ∧ w.heap.size ≤ y := fun y hy => ⟨(own_block ho39 hy).2, (own_block ho39 hy).1⟩
        have ei : IntKind.i64.wrap ((i : Int) + 1) = ((i + 1 : Nat) : Int) := by rw [IntWalk.i64_in _ ⟨by omega, by omega⟩]; rfl
        rw [ei]
        have htake : fs.take (i + 1) = fs.take i ++ [f] := by rw [← hff]; exact List.take_succ_eq_append_getElem hi'
        have hnums : numsOf x (fs.take (i + 1)) = numsOf x (fs.take i) ++ num (x.sel f.1).toNat := by rw [htake]; simp [numsOf]
        refine ⟨⟨i + 1, a2, _, c2, rfl, by omega, ?_, ?_, ?_, f6.keep k52 fun h => (t5 _ h).1.ne f6.ty (by decide) rfl, (e14.no k2534).keep k52 fun h => (t5 _ h).1.ne (e14.no k2534).ty (by decide) rfl,
          (hr.no k2534).keep k52 fun y h ht => (t5 y h).1.ne ht (by decide) rfl, (K25.then k2534).new k52 fun y h => (t5 y h).2⟩, ?_⟩
        · intro g hg
          rw [htake, List.mem_append] at hg
          rcases hg with hg | hg
          · exact hok g hg
          · simp at hg; rw [hg]; exact hgood
        · rw [hnums, List.length_append]; omega
        · rw [hnums, ← List.append_assoc, bvs_append]; exact ho52
        · show fs.length - ((i + 1 : Nat) : Int).toNat < fs.length - (i : Int).toNat
          omega
      clear_value K50
      refine ⟨_, c32.cell 1, ?_⟩
      refine cond_d (fun h1 => bad _ _ _ (fun h => by have := h.1; omega)) (fun h1 => ?_)
      refine ⟨_, c32.cell 2, ?_⟩
      by_cases h2 : x.sel f.1 > f.2.2
      · rw [decide_eq_true h2]; exact bad _ _ _ fun h => by have := h.2; omega
      · rw [decide_eq_false h2]; exact ok _ _ _ ⟨by omega, by omega⟩
    · -- the weight
      have hil : i = fs.length := by omega
      subst hil
      rw [List.take_length] at hok hn ho hlen5
      have henc : enc x = some (sealed (body x (fs, bt))) := by unfold enc; rw [hsh]; exact if_pos hok
      refine ⟨fun vs v => ∃ (i : Nat) (a : Option Addr) (n c : Nat), vs = [.slice a n c, .int .i64 i] ∧ i ≤ 4 ∧ (bt = false → i = 0) ∧ n = 2 + (numsOf x fs).length + i ∧
          v.ownsRow w.heap.size 5 1 (.slice a n c) n (bvs ([0, kb x.k] ++ numsOf x fs ++ (bits4 x.b.toNat).take i)) ∧ Bk v p6 (opC x) 57 ∧ Bk v p14 #[s.v, .bool bt] 128 ∧ Keep no w v,
        fun vs v => match vs with | [_, .int _ i] => 4 - i.toNat | _ => 0, ⟨0, b23, l23, c23, rfl, by omega, fun _ => rfl, by omega, by rw [List.take_zero, List.append_nil]; exact ho, e6, e14, K25⟩, ?_⟩
      rintro w56 b54 l54 c54 i55 ⟨i, a, n, c, hv, hi4, hb0, hn4, ho4, g6, g14, K56⟩
      simp only [List.cons.injEq, Value.slice.injEq, Value.int.injEq, true_and, and_true] at hv
      obtain ⟨⟨rfl, rfl, rfl⟩, rfl⟩ := hv
      intro K63
      have stop : ∀ b60, ((bt = false ∧ i = 0) ∨ (bt = true ∧ i = 4)) → K63 b60 false w56 := by
        intro b60 hcase
        have hcont : ([0, kb x.k] ++ numsOf x fs ++ (bits4 x.b.toNat).take i : Bs) = 0 :: body x (fs, bt) := by
          rcases hcase with ⟨rfl, rfl⟩ | ⟨rfl, rfl⟩
          · simp [body]
          · have : (bits4 x.b.toNat).take 4 = bits4 x.b.toNat := rfl
            rw [this]; simp [body]
        rw [hcont] at ho4
        have hbl : l54 = (body x (fs, bt)).length + 1 := by have := ho4.1; simp at this; omega
        refine cond_f rfl ?_
        obtain ⟨q, hq, hwr, ho5, k71⟩ := own_set ho4 (i := 0) (by omega) (.int .u8 (IntKind.u8.wrap (IntKind.i64.wrap (((l54 : Nat) : Int) - (1 : Int)))))
        rw [Nat.zero_mul, addZ] at hwr ho5 k71
        refine ⟨q, hq, by omega, by omega, hwr, ?_⟩
        intro w71
        have hb0' : IntKind.u8.wrap (IntKind.i64.wrap (((l54 : Nat) : Int) - (1 : Int))) = (UInt8.ofNat (body x (fs, bt)).length).toNat := by
          rw [IntWalk.i64_in _ ⟨by omega, by omega⟩, UInt8.toNat_ofNat']
          have : ((l54 : Nat) : Int) - 1 = ((body x (fs, bt)).length : Nat) := by omega
          rw [this]
          have hw : ∀ m : Nat, IntKind.u8.wrap (m : Int) = ((m % 256 : Nat) : Int) := fun m => by simp [IntKind.wrap, IntKind.signed, IntKind.bits]
          rw [hw]
        have hset : (bvs (0 :: body x (fs, bt))).set 0 (.int .u8 (IntKind.u8.wrap (IntKind.i64.wrap (((l54 : Nat) : Int) - (1 : Int))))) = bvs (UInt8.ofNat (body x (fs, bt)).length :: body x (fs, bt)) := by
          rw [hb0']; rfl
        rw [hset] at ho5
        have o71 : w71.ownsRow w.heap.size 5 1 (.slice b54 l54 c54) l54 (bvs (UInt8.ofNat (body x (fs, bt)).length :: body x (fs, bt))) := ho5
        have K71 : Keep no w w71 := K56.new k71 fun y hy => (own_block ho4 hy).1
        clear_value w71
        refine (check_spec (Rd.own0 o71)).mono ?_
        rintro e w73 ⟨rfl, rfl⟩
        refine ⟨_, rfl, ?_⟩
        intro p75 w76
        have b76 : Bk w76 p75 #[.int .u8 (chk (UInt8.ofNat (body x (fs, bt)).length :: body x (fs, bt))).toNat] 5 := Bk.new w73 _ _
        have k76 : Keep no w73 w76 := Keep.alloc _ _ _
        clear_value p75 w76
        refine rw_append E36 (own_no o71 k76) (Rd.blk0 (sz := 1) (n := 1) b76 rfl (by simp [maxLen])) (by simp [one1]) (by omega) (by simp only [maxLen]; omega) (K71.then k76).size fun a79 c79 w78 o78 k78 _ => ?_
        have e1 : bvs (UInt8.ofNat (body x (fs, bt)).length :: body x (fs, bt)) ++ (#[.int .u8 (chk (UInt8.ofNat (body x (fs, bt)).length :: body x (fs, bt))).toNat] : Array Value).toList = bvs (sealed (body x (fs, bt))) := by
          unfold sealed; rw [bvs_append]; rfl
        rw [e1] at o78
        exact ⟨⟨a79, l54 + 1, c79⟩, _, rfl, (K71.then k76).new k78 fun y hy => (own_block o71 hy).1, .inr ⟨_, henc, rfl, o78⟩⟩
      have go : i < 4 → bt = true → ∀ b60, K63 b60 true w56 := by
        intro hi hbt b60
        refine cond_t rfl ?_
        refine ⟨_, g6.cell 4, ?_⟩
        rw [IntWalk.i64_in _ ⟨by omega, by omega⟩]
        refine ⟨by omega, ?_⟩
        have hbb := bit_byte hx.b.1 hx.b.2 hi
        rw [IntWalk.i64_in _ ⟨by omega, by omega⟩] at hbb
        rw [hbb]
        intro p65 w66
        have b65 : Bk w66 p65 #[.int .u8 (((bits4 x.b.toNat)[i]?.getD 0).toNat : Int)] 5 := Bk.new w56 _ _
        have k66 : Keep no w56 w66 := Keep.alloc _ _ _
        clear_value p65 w66
        have o66 := own_no ho4 k66
        refine rw_append E36 o66 (Rd.blk0 (sz := 1) (n := 1) b65 rfl (by simp [maxLen])) (by simp [one1]) (by omega) (by simp only [maxLen]; omega) (K56.then k66).size fun a69 c69 w68 o68 k68 _ => ?_
        have t5 : ∀ y, OB b54 y → TyB w66 y 5 ∧ w.heap.size ≤ y := fun y hy => ⟨(own_block o66 hy).2, (own_block o66 hy).1⟩
        have ei : IntKind.i64.wrap ((i : Int) + 1) = ((i + 1 : Nat) : Int) := by rw [IntWalk.i64_in _ ⟨by omega, by omega⟩]; rfl
        rw [ei]
        refine ⟨⟨i + 1, a69, _, c69, rfl, by omega, (fun h => by rw [hbt] at h; cases h), by omega, ?_, (g6.no k66).keep k68 fun h => (t5 _ h).1.ne (g6.no k66).ty (by decide) rfl, (g14.no k66).keep k68 fun h => (t5 _ h).1.ne (g14.no k66).ty (by decide) rfl,
          (K56.then k66).new k68 fun y h => (t5 y h).2⟩, ?_⟩
        · rw [bits4_take _ hi, ← List.append_assoc, bvs_append]; exact o68
        · show 4 - ((i + 1 : Nat) : Int).toNat < 4 - (i : Int).toNat
          omega
      clear_value K63
      refine cond_d (fun h4 => ?_) (fun h4 => ?_)
      · refine ⟨_, g14.cell 1, ?_⟩
        cases hbt : bt with
        | true => exact go (by omega) hbt _
        | false => exact stop _ (.inl ⟨hbt, hb0 hbt⟩)
      · have : i = 4 := by omega
        refine stop _ (.inr ⟨?_, this⟩)
        cases hbt : bt with
        | true => rfl
        | false => have := hb0 hbt; omega
end
end Go.Proofs.Ytmfidfaiopogbaa
