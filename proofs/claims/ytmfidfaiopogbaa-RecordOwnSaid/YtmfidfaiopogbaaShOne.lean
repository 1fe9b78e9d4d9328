/- One record from the front of bytes, the program's. -/
import Derived.Test.YtmfidfaiopogbaaShScan
set_option linter.unusedVariables false
set_option linter.unusedSimpArgs false
set_option linter.unusedSectionVars false
set_option maxRecDepth 4000
namespace Go.Proofs.Ytmfidfaiopogbaa
open Go Go.Sh

def pb (r : Bs) : Nat → Nat
  | 0 => 0
  | i + 1 => pb r i + (r.getD i 0).toNat * 256 ^ i
theorem pb_lt (r : Bs) : ∀ i, pb r i < 256 ^ i
  | 0 => by simp [pb]
  | i + 1 => by
    have := pb_lt r i
    have h := (r.getD i 0).toNat_lt
    have h2 : (r.getD i 0).toNat * 256 ^ i ≤ 255 * 256 ^ i := Nat.mul_le_mul_right _ (by omega)
    rw [pb, Nat.pow_succ]
    generalize (r.getD i 0).toNat * 256 ^ i = z at *
    generalize 256 ^ i = y at *
    omega
theorem pb_four (r : Bs) : ((pb r 4 : Nat) : Int) = unbits r := by
  unfold unbits pb pb pb pb pb
  simp only [Nat.pow_zero, Nat.pow_one]
  omega
theorem pow256 (i : Nat) : 256 ^ i = 2 ^ (8 * i) := by rw [Nat.pow_mul]
theorem u32_in (n : Int) (h : 0 ≤ n ∧ n < 4294967296) : IntKind.u32.wrap n = n := IntWalk.u32_in n ⟨h.1, by omega⟩
theorem bit_step {r : Bs} {i : Nat} (hi : i < 4) {x : UInt8} (hx : r.getD i 0 = x) :
    IntKind.u32.wrap ((((BitVec.ofInt 32 ((pb r i : Nat) : Int)) ||| (BitVec.ofInt 32 (IntKind.u32.wrap ((IntKind.u32.wrap (x.toNat : Int)) * 2 ^ (min (IntKind.i64.wrap ((8 : Int) * (i : Int))).toNat 32))))).toNat : Int)) = ((pb r (i + 1) : Nat) : Int) := by
  have h1 : IntKind.i64.wrap ((8 : Int) * (i : Int)) = ((8 * i : Nat) : Int) := by rw [IntWalk.i64_in _ ⟨by omega, by omega⟩]; simp
  have h2 : min (8 * i) 32 = 8 * i := by omega
  have hpl := pb_lt r i
  have hx2 := x.toNat_lt
  have hpow : (256 : Nat) ^ i ≤ 16777216 := by
    have := Nat.pow_le_pow_right (show 0 < 256 by omega) (show i ≤ 3 by omega)
    omega
  have hq : x.toNat * 256 ^ i ≤ 255 * 16777216 := Nat.mul_le_mul (by omega) hpow
  have h5 : IntKind.u32.wrap (x.toNat : Int) = (x.toNat : Int) := u32_in _ ⟨by omega, by omega⟩
  have h3 : ((x.toNat : Nat) : Int) * 2 ^ (8 * i) = ((x.toNat * 256 ^ i : Nat) : Int) := by
    rw [pow256]; simp
  have h6 : IntKind.u32.wrap ((x.toNat * 256 ^ i : Nat) : Int) = ((x.toNat * 256 ^ i : Nat) : Int) := u32_in _ ⟨by omega, by omega⟩
  rw [h1, Int.toNat_natCast, h2, h5, h3, h6, BitVec.ofInt_natCast, BitVec.ofInt_natCast, BitVec.toNat_or, BitVec.toNat_ofNat, BitVec.toNat_ofNat,
    Nat.mod_eq_of_lt (show pb r i < 2 ^ 32 by omega), Nat.mod_eq_of_lt (show x.toNat * 256 ^ i < 2 ^ 32 by omega)]
  have h4 : pb r i ||| x.toNat * 256 ^ i = pb r i + x.toNat * 256 ^ i := by
    rw [pow256] at hpl ⊢
    exact or_add _ hpl
  rw [h4]
  have h7 : pb r (i + 1) = pb r i + x.toNat * 256 ^ i := by rw [pb, hx]
  rw [h7]
  exact u32_in _ ⟨by omega, by omega⟩
theorem put_cell {w : World} {p : Nat} {x : Op} (h : Bk w p (opC x) 57) {j : Nat} (hj : j = 1 ∨ j = 2 ∨ j = 3) (m : Int) : Bk (w.setCell ⟨p, j, none⟩ (.int .i64 m)) p (opC (x.put j m)) 57 := by
  have := h.set j (.int .i64 m)
  rcases hj with rfl | rfl | rfl <;> exact this

section
variable [Av]
/-- What one answers. -/
def OneD (w w' : World) (l : Bs) (e : Ending) : Prop :=
  ∃ (y : Op) (m : Int) (b : Bool), e = .returned (.tuple #[opV y, .int .i64 m, .bool b]) ∧ Keep no w w' ∧ ((dec l = none ∧ b = false) ∨ ∃ k, dec l = some (y, k) ∧ b = true ∧ m = (k : Nat))

theorem one_spec {w : World} {e2 : Nat} {a : Option Addr} {n c : Nat} {l : Bs} (h : Rd w e2 1 a n c (bvs l)) : Calls Try.prog 83 #[.slice a n c] w fun e w' => OneD w w' l e := by
  have hn : n = l.length := by have := h.1; simp at this; exact this.symm
  have hcn := h.2.1
  have hcm := h.2.2.1
  simp only [maxLen] at hcm
  refine c83 ?_
  unfold sh83
  intro p2 w3
  have b2 : Bk w3 p2 (opC ⟨0, 0, 0, 0, 0⟩) 57 := Bk.new w _ _
  have k3 : Keep no w w3 := Keep.alloc _ _ _
  have h2 : w.heap.size ≤ p2 := Nat.le_refl _
  clear_value p2 w3
  intro K8
  have hp2 : ∀ b, is p2 b → w.heap.size ≤ b := by rintro b rfl; exact h2
  -- the ways out that tell of no record
  have out : ∀ (v : World) (y : Op), Bk v p2 (opC y) 57 → Keep no w v → dec l = none → ∀ m : Int, ∀ z : Op,
      wrN v ⟨p2, 0, none⟩ 5 ∧ ∃ (n1 n2 n3 n4 n5 : Int), (setN ⟨p2, 0, none⟩ 0 [.int .i64 z.k, .int .i64 z.e, .int .i64 z.u, .int .i64 z.v, .int .u32 z.b] v).cell? ⟨p2, 0, none⟩ = some (.int .i64 n1) ∧
        (setN ⟨p2, 0, none⟩ 0 [.int .i64 z.k, .int .i64 z.e, .int .i64 z.u, .int .i64 z.v, .int .u32 z.b] v).cell? ⟨p2, 1, none⟩ = some (.int .i64 n2) ∧
        (setN ⟨p2, 0, none⟩ 0 [.int .i64 z.k, .int .i64 z.e, .int .i64 z.u, .int .i64 z.v, .int .u32 z.b] v).cell? ⟨p2, 2, none⟩ = some (.int .i64 n3) ∧
        (setN ⟨p2, 0, none⟩ 0 [.int .i64 z.k, .int .i64 z.e, .int .i64 z.u, .int .i64 z.v, .int .u32 z.b] v).cell? ⟨p2, 3, none⟩ = some (.int .i64 n4) ∧
        (setN ⟨p2, 0, none⟩ 0 [.int .i64 z.k, .int .i64 z.e, .int .i64 z.u, .int .i64 z.v, .int .u32 z.b] v).cell? ⟨p2, 4, none⟩ = some (.int .u32 n5) ∧
        OneD w (setN ⟨p2, 0, none⟩ 0 [.int .i64 z.k, .int .i64 z.e, .int .i64 z.u, .int .i64 z.v, .int .u32 z.b] v) l (.returned (.tuple #[.agg #[.int .i64 n1, .int .i64 n2, .int .i64 n3, .int .i64 n4, .int .u32 n5], .int .i64 m, .bool false])) := by
    intro v y hB kv hd m z
    obtain ⟨e1, e2, e3⟩ := fin5 (a := .int .i64 z.k) (b := .int .i64 z.e) (c := .int .i64 z.u) (d := .int .i64 z.v) (e := .int .u32 z.b) hB rfl
    exact ⟨e1, _, _, _, _, _, e2.cell 0, e2.cell 1, e2.cell 2, e2.cell 3, e2.cell 4, z, m, false, rfl, kv.new e3 hp2, .inl ⟨hd, rfl⟩⟩
  have exit8 : ∀ v, Bk v p2 (opC ⟨0, 0, 0, 0, 0⟩) 57 → Keep no w v → dec l = none → K8 true v := by
    intro v hB kv hd
    refine cond_t rfl ?_
    exact ⟨_, _, _, _, _, hB.cell 0, hB.cell 1, hB.cell 2, hB.cell 3, hB.cell 4, out v _ hB kv hd 0 ⟨0, 0, 0, 0, 0⟩⟩
  by_cases hl3 : l.length < 3
  · refine cond_t (decide_eq_true (by omega)) (exit8 w3 b2 k3 ?_)
    unfold dec; rw [if_pos (.inl hl3)]
  refine cond_f (decide_eq_false (by omega)) ?_
  obtain ⟨q, hq, hc0⟩ := rd_at h (i := 0) (by omega)
  have hc0' : ∀ v, Keep no w v → v.cell? q = some (.int .u8 (l[0].toNat : Int)) := fun v kv => by have := cell_no kv hc0; rwa [Nat.zero_mul, addZ] at this
  have hx0 := l[0].toNat_lt
  have hg0 : l.getD 0 0 = l[0] := by rw [List.getD_eq_getElem?_getD, List.getElem?_eq_getElem (by omega)]; rfl
  generalize hL : l[0].toNat = L at hc0' hx0
  have hgL : (l.getD 0 0).toNat = L := by rw [hg0, hL]
  have hw1 : IntKind.i64.wrap (L : Int) = (L : Int) := IntWalk.i64_in _ ⟨by omega, by omega⟩
  have hw2 : IntKind.i64.wrap ((L : Int) + 2) = ((L + 2 : Nat) : Int) := by rw [IntWalk.i64_in _ ⟨by omega, by omega⟩]; rfl
  have hw3 : IntKind.i64.wrap (((L + 2 : Nat) : Int) - 1) = ((L + 1 : Nat) : Int) := by rw [IntWalk.i64_in _ ⟨by omega, by omega⟩]; omega
  refine ⟨q, hq, by omega, by omega, _, hc0' w3 k3, ?_⟩
  rw [hw1, hw2]
  by_cases hl2 : l.length < L + 2
  · rw [decide_eq_true (show ((n : Nat) : Int) < ((L + 2 : Nat) : Int) by omega)]
    refine exit8 w3 b2 k3 ?_
    unfold dec; rw [if_pos (.inr (.inl (by omega)))]
  rw [decide_eq_false (show ¬ ((n : Nat) : Int) < ((L + 2 : Nat) : Int) by omega)]
  clear exit8
  refine cond_f rfl ?_
  refine ⟨q, hq, by omega, by omega, _, hc0' w3 k3, ?_⟩
  rw [hw1, hw2, hw3, Int.toNat_natCast]
  intro K26 w17
  have c2 : Bk w17 p2 (opC ⟨0, 0, 0, 0, 0⟩) 57 := b2.drew
  have k17 : Keep no w w17 := k3.no (Keep.drew _ _)
  clear_value w17
  have exit26 : ∀ v, Bk v p2 (opC ⟨0, 0, 0, 0, 0⟩) 57 → Keep no w v → dec l = none → K26 true v := by
    intro v hB kv hd
    refine cond_t rfl ?_
    exact ⟨_, _, _, _, _, hB.cell 0, hB.cell 1, hB.cell 2, hB.cell 3, hB.cell 4, out v _ hB kv hd 0 ⟨0, 0, 0, 0, 0⟩⟩
  have main : 1 ≤ L → chk (l.take (L + 1)) = l.getD (L + 1) 0 → K26 false w17 := by
    intro hL1 hck
    have hdec : dec l = match shp ((l.getD 1 0).toNat : Int) with
        | none => none
        | some s => match decF s.1 ((l.take (L + 1)).drop 2) ⟨(l.getD 1 0).toNat, 0, 0, 0, 0⟩ with
          | none => none
          | some (y, r) => (decB s.2 r y).map fun z => (z, L + 2) := by
      unfold dec
      rw [hgL, if_neg (by omega), if_neg (fun hne => hne hck)]
      rfl
    obtain ⟨q1, hq1, hcK⟩ := rd_at h (i := 1) (by omega)
    have hg1 : l.getD 1 0 = l[1] := by rw [List.getD_eq_getElem?_getD, List.getElem?_eq_getElem (by omega)]; rfl
    rw [hg1] at hdec
    generalize l[1] = x1 at hcK hdec
    have hx1 := x1.toNat_lt
    have hkw : IntKind.i64.wrap (x1.toNat : Int) = (x1.toNat : Int) := IntWalk.i64_in _ ⟨by omega, by omega⟩
    refine cond_f rfl ?_
    refine ⟨q1, hq1, by omega, by omega, _, by have := cell_no k17 hcK; rwa [Nat.mul_one] at this, c2.wr (by simp), ?_⟩
    rw [hkw]
    intro w35
    have c35 : Bk w35 p2 (opC ⟨x1.toNat, 0, 0, 0, 0⟩) 57 := c2.set 0 _
    have k35 : Keep no w w35 := k17.new (Keep.set (S := is p2) w17 (a := ⟨p2, 0, none⟩) _ rfl) hp2
    clear_value w35
    refine ⟨_, c35.cell 0, ?_⟩
    refine (shapes_spec w35 x1.toNat).mono ?_
    rintro e w38 ⟨s, rfl, hs, hsn, k38⟩
    refine ⟨_, _, _, _, _, rfl, ?_⟩
    intro p42 w43
    have b42 : Bk w43 p42 #[.slice none 0 0, .bool false] 128 := Bk.new w38 _ _
    have k43 : Keep no w38 w43 := Keep.alloc _ _ _
    have h42 : w38.heap.size ≤ p42 := Nat.le_refl _
    clear_value p42 w43
    refine ⟨b42.wrN (by simp), ?_⟩
    generalize hsh : shp (x1.toNat : Int) = sh at hs hsn hdec ⊢
    intro w44
    have c42 : Bk w44 p42 #[s.v, .bool (sh.getD ([], false)).2] 128 := b42.setAll rfl
    have k44 : Keep (is p42) w43 w44 := setN_keep (S := is p42) (a := ⟨p42, 0, none⟩) rfl _ _ _
    clear_value w44
    have k3844 : Keep no w38 w44 := k43.new k44 (by rintro z rfl; exact h42)
    have K44 := k35.then (k38.then k3844)
    have c44 := (c35.no k38).no k3844
    have hs44 := hs.no k3844
    generalize hfs : sh.getD ([], false) = sp at hs44 hsn c42 ⊢
    obtain ⟨fs, bt⟩ := sp
    simp only at hs44 hsn c42
    have hlow : ∀ y, OB a y → y < w.heap.size := by
      intro y hy
      obtain ⟨b, o, arr, fr, ha, ⟨e', _, hb⟩, _⟩ := h.2.2.2 (by omega)
      obtain ⟨z, hz, rfl⟩ := hy
      rw [ha] at hz; cases hz
      exact TyB.lt ⟨arr, fr, hb⟩
    refine ⟨by omega, by omega, by omega, by simp; omega, s.a, s.n, s.c, c42.cell 0, ?_⟩
    have hrest : Rd w44 e2 1 (subS a c 2 1) (L + 1 - 2) (c - 2) (bvs ((l.take (L + 1)).drop 2)) := by
      have := Rd.sub (h.no K44) (l := 2) (r := L + 1) (by omega) (by omega)
      have e : List.take ((L + 1 - 2) * 1) (List.drop (2 * 1) (bvs l)) = bvs ((l.take (L + 1)).drop 2) := by
        rw [Nat.mul_one, Nat.mul_one]
        simp only [bvs]
        rw [← List.map_drop, ← List.map_take, List.drop_take]
      rw [e] at this
      exact this
    generalize hR : (l.take (L + 1)).drop 2 = R at hrest hdec
    refine ⟨fun vs v => ∃ (i : Nat) (ra : Option Addr) (rn rc : Nat) (t : Bs) (y : Op), vs = [.slice ra rn rc, .int .i64 (L + 2 : Nat), .bool sh.isSome, .int .i64 i] ∧ i ≤ fs.length ∧ Rd v e2 1 ra rn rc (bvs t) ∧ (∀ z, OB ra z → OB a z) ∧ Bk v p2 (opC y) 57 ∧
        Bk v p42 #[s.v, .bool bt] 128 ∧ Rd v 133 3 s.a s.n s.c (fcs fs) ∧ Keep no w v ∧ decF fs R ⟨x1.toNat, 0, 0, 0, 0⟩ = decF (fs.drop i) t y ∧ y.b = 0,
      fun vs v => match vs with | [_, _, _, .int _ i] => fs.length - i.toNat | _ => 0,
      ⟨0, subS a c 2 1, L + 1 - 2, c - 2, R, ⟨x1.toNat, 0, 0, 0, 0⟩, rfl, by omega, hrest, fun z hz => subS_ob hz, c44, c42, hs44, K44, rfl, rfl⟩, ?_⟩
    rintro w50 r1 r2 r3 n47 ok48 n49 ⟨i, s1, s2, s3, t, y, hv, hi, hrt, hob, B50, d42, hr50, K50, hdecF, hyb⟩
    cases hv
    refine cond_d (fun hlt => ?_) (fun hge => ?_)
    · -- a number
      have hi' : i < fs.length := by omega
      obtain ⟨ss, rfl⟩ : ∃ ss, sh = some ss := by
        cases sh with
        | none =>
          have : fs = [] := by cases hfs; rfl
          rw [this] at hi'; simp at hi'
        | some ss => exact ⟨ss, rfl⟩
      simp only [Option.getD_some] at hfs
      subst hfs
      obtain ⟨_, hfr, _⟩ := shp_f hsh
      have hnone : decF fs R ⟨x1.toNat, 0, 0, 0, 0⟩ = none → dec l = none := fun hd => by rw [hdec]; simp only; rw [hd]
      obtain ⟨q5, hq5, hc5⟩ := hr50.at_ (i := i) (by omega)
      have hfi : fs[i]? = some fs[i] := List.getElem?_eq_getElem hi'
      obtain ⟨g0, g1, g2⟩ := fcs_at fs i _ hfi
      obtain ⟨hj, hlo, hhi⟩ := hfr _ (List.getElem_mem hi')
      have hdrop : fs.drop i = fs[i] :: fs.drop (i + 1) := List.drop_eq_getElem_cons hi'
      rw [hdrop] at hdecF
      generalize fs[i] = f at g0 g1 g2 hj hlo hhi hdecF
      have hcell : ∀ j u, j < 3 → (fcs fs)[i * 3 + j]? = some u → w50.cell? ((q5.add (i * 3)).add j) = some u := by
        intro j u hj hu
        obtain ⟨u', hu', hc'⟩ := hc5 j hj
        rw [hu] at hu'; cases hu'; exact hc'
      refine ⟨q5, hq5, by omega, by omega, ?_⟩
      rw [Int.toNat_natCast]
      refine ⟨_, _, _, by have := hcell 0 _ (by omega) g0; rwa [addZ] at this, hcell 1 _ (by omega) g1, hcell 2 _ (by omega) g2, ?_⟩
      intro p57 w58
      have b57 : Bk w58 p57 #[.nilFunc, .int .i64 0, .int .i64 0] 133 := Bk.new w50 _ _
      have k58 : Keep no w50 w58 := Keep.alloc _ _ _
      have h57 : w50.heap.size ≤ p57 := Nat.le_refl _
      clear_value p57 w58
      refine cond_t rfl ⟨b57.wrN (by simp), ?_⟩
      intro w59
      have c57 : Bk w59 p57 #[.func (.func (96 + f.1)) #[] #[], .int .i64 f.2.1, .int .i64 f.2.2] 133 := b57.setAll rfl
      have k59 : Keep (is p57) w58 w59 := setN_keep (S := is p57) (a := ⟨p57, 0, none⟩) rfl _ _ _
      clear_value w59
      have k5059 : Keep no w50 w59 := k58.new k59 (by rintro z rfl; exact h57)
      refine (Take_spec (hrt.no k5059)).mono ?_
      rintro e w61 ⟨m, r', b64, rfl, k61, hcase⟩
      refine ⟨_, _, _, _, _, rfl, ?_⟩
      have k5061 := k5059.then k61
      have K61 := K50.then k5061
      have B61 := B50.no k5061
      have d57 := c57.no k61
      intro K72
      have bad : ∀ u1 u2 u3, dec l = none → K72 u1 u2 u3 true w61 := by
        intro u1 u2 u3 hd
        refine cond_t rfl ?_
        exact out w61 _ B61 K61 hd 0 ⟨0, 0, 0, 0, 0⟩
      rcases hcase with ⟨ht, rfl⟩ | ⟨qq, rr, ht, rfl, rfl, hrd, hob2⟩
      · refine cond_t rfl (bad true true true (hnone ?_))
        rw [hdecF]; unfold decF; rw [ht]
      · refine cond_f rfl ?_
        have hstep : decF (f :: fs.drop (i + 1)) t y = if f.2.1 ≤ (qq : Int) ∧ (qq : Int) ≤ f.2.2 then decF (fs.drop (i + 1)) rr (y.put f.1 qq) else none := by
          conv => lhs; unfold decF
          rw [ht]
        have ok : ∀ u1 u2 u3, (f.2.1 ≤ (qq : Int) ∧ (qq : Int) ≤ f.2.2) → K72 u1 u2 u3 false w61 := by
          intro u1 u2 u3 hgood
          refine cond_f rfl ?_
          refine ⟨_, d57.cell 0, ?_⟩
          show cond (cl (96 + f.1)) _ _
          refine cond_t (by rcases hj with h | h | h <;> rw [h] <;> rfl) ?_
          show Calls Try.prog (96 + f.1) #[.pointer (some ⟨p2, 0, none⟩)] _ _
          refine (sel_spec hj).mono ?_
          rintro e w78 ⟨rfl, rfl⟩
          refine ⟨_, rfl, B61.wr (by rcases hj with h | h | h <;> rw [h] <;> simp), ?_⟩
          intro w81
          have B81 : Bk w81 p2 (opC (y.put f.1 qq)) 57 := put_cell B61 hj qq
          have k81 : Keep (is p2) w78 w81 := Keep.set (S := is p2) w78 (a := ⟨p2, f.1, none⟩) _ rfl
          clear_value w81
          have ei : IntKind.i64.wrap ((i : Int) + 1) = ((i + 1 : Nat) : Int) := by
            have := (shp_f hsh).1
            simp only at this
            rw [IntWalk.i64_in _ ⟨by omega, by omega⟩]; rfl
          rw [ei]
          refine ⟨⟨i + 1, r'.a, r'.n, r'.c, rr, y.put f.1 qq, rfl, by omega, Rd.keep' hrd k81 fun h0 z hz ho => ?_, fun z hz => hob z (hob2 z hz), B81, (d42.no k5061).keep k81 fun hz => (d42.no k5061).ty.ne B61.ty (by decide) hz, (hr50.no k5061).keep k81 fun z hz ht => ?_, K61.new k81 hp2, ?_, ?_⟩, ?_⟩
          · have h1 := hlow z (hob z (hob2 z ho))
            have : z = p2 := hz
            omega
          · have : z = p2 := hz
            subst this
            exact ht.ne B61.ty (by decide) rfl
          · rw [hdecF, hstep, if_pos hgood]
          · rcases hj with h | h | h <;> rw [h] <;> exact hyb
          · show fs.length - ((i + 1 : Nat) : Int).toNat < fs.length - (i : Int).toNat
            omega
        clear_value K72
        refine ⟨_, d57.cell 1, ?_⟩
        refine cond_d (fun h1 => bad _ _ _ (hnone ?_)) (fun h1 => ?_)
        · rw [hdecF, hstep, if_neg (by omega)]
        · refine ⟨_, d57.cell 2, ?_⟩
          by_cases h2 : (qq : Int) > f.2.2
          · rw [decide_eq_true h2]
            refine bad _ _ _ (hnone ?_)
            rw [hdecF, hstep, if_neg (by omega)]
          · rw [decide_eq_false h2]; exact ok _ _ _ ⟨by omega, by omega⟩
    · -- the weight, and the end
      have hil : i = fs.length := by omega
      subst hil
      rw [List.drop_length] at hdecF
      have hdF : decF fs R ⟨x1.toNat, 0, 0, 0, 0⟩ = some (y, t) := hdecF
      have htn : r2 = t.length := by have := hrt.1; simp at this; exact this.symm
      have hdec2 : dec l = bif sh.isSome then (decB bt t y).map fun z => (z, L + 2) else none := by
        rw [hdec]
        cases sh with
        | none => rfl
        | some ss =>
          simp only [Option.getD_some] at hfs
          subst hfs
          simp only [hdF]
          rfl
      intro K95
      have fin : ∀ (a' : Option Addr) (n' c' : Nat) (v : World) (z : Op), Bk v p2 (opC z) 57 → Keep no w v → (dec l = if sh.isSome = true ∧ n' = 0 then some (z, L + 2) else none) → K95 a' n' c' v := by
        intro a' n' c' v z hB kv hd
        refine ⟨_, _, _, _, _, hB.cell 0, hB.cell 1, hB.cell 2, hB.cell 3, hB.cell 4, ?_⟩
        refine cond_i (fun hk => ?_) (fun hk => ?_)
        · obtain ⟨e1, e2, e3⟩ := fin5 (a := .int .i64 z.k) (b := .int .i64 z.e) (c := .int .i64 z.u) (d := .int .i64 z.v) (e := .int .u32 z.b) hB rfl
          refine ⟨e1, _, _, _, _, _, e2.cell 0, e2.cell 1, e2.cell 2, e2.cell 3, e2.cell 4, z, _, _, rfl, kv.new e3 hp2, ?_⟩
          by_cases h0 : n' = 0
          · rw [if_pos ⟨hk, h0⟩] at hd
            exact .inr ⟨_, hd, by rw [h0]; rfl, rfl⟩
          · rw [if_neg (fun h => h0 h.2)] at hd
            exact .inl ⟨hd, by simp; omega⟩
        · rw [if_neg (fun h => by rw [h.1] at hk; cases hk)] at hd
          exact out v z hB kv hd _ z
      clear_value K95
      refine ⟨_, d42.cell 1, ?_⟩
      cases bt with
      | false =>
        refine fin r1 r2 r3 w50 y B50 K50 ?_
        rw [hdec2]
        cases hso : sh.isSome with
        | false => simp
        | true =>
          simp only [cond_true, decB, cond_false, true_and]
          by_cases h0 : r2 = 0
          · have : t = [] := List.eq_nil_of_length_eq_zero (by omega)
            rw [if_pos h0, if_pos this]; rfl
          · have : t ≠ [] := fun h => by rw [h] at htn; simp at htn; omega
            rw [if_neg h0, if_neg this]; rfl
      | true =>
        by_cases h4 : r2 = 4
        · refine cond_t rfl (cond_f (by rw [h4]; rfl) ?_)
          have ht4 : t.length = 4 := by omega
          refine ⟨fun vs v => ∃ j : Nat, vs = [.int .i64 j] ∧ j ≤ 4 ∧ Bk v p2 (opC { y with b := (pb t j : Nat) }) 57 ∧ Rd v e2 1 r1 r2 r3 (bvs t) ∧ Keep no w v, fun vs v => match vs with | [.int _ i] => 4 - i.toNat | _ => 0,
            ⟨0, rfl, by omega, ?_, hrt, K50⟩, ?_⟩
          · have e : ({ y with b := ((pb t 0 : Nat) : Int) } : Op) = y := by
              obtain ⟨k1, k2, k3, k4, k5⟩ := y
              simp only at hyb
              subst hyb; rfl
            rw [e]; exact B50
          rintro w85 n84 ⟨j, hv, hj, B85, hr85, K85⟩
          cases hv
          refine cond_d (fun hlt4 => ?_) (fun hge4 => ?_)
          · obtain ⟨q8, hq8, hc8⟩ := rd_at hr85 (i := j) (by omega)
            have hgj : t.getD j 0 = t[j] := by rw [List.getD_eq_getElem?_getD, List.getElem?_eq_getElem (by omega)]; rfl
            refine ⟨q8, hq8, by omega, by omega, _, by rw [Int.toNat_natCast]; exact hc8, ?_⟩
            intro w90
            have B90 : Bk w90 p2 _ _ := B85.drew
            have hr90 : Rd w90 e2 1 r1 r2 r3 (bvs t) := hr85.no (Keep.drew _ _)
            have K90 : Keep no w w90 := K85.no (Keep.drew _ _)
            clear_value w90
            refine ⟨_, B90.cell 4, by rw [IntWalk.i64_in _ ⟨by omega, by omega⟩]; omega, B90.wr (by simp), ?_⟩
            rw [bit_step (by omega) hgj]
            intro w92
            have B92 : Bk w92 p2 (opC { y with b := (pb t (j + 1) : Nat) }) 57 := B90.set 4 _
            have k92 : Keep (is p2) w90 w92 := Keep.set (S := is p2) w90 (a := ⟨p2, 4, none⟩) _ rfl
            clear_value w92
            have ei : IntKind.i64.wrap ((j : Int) + 1) = ((j + 1 : Nat) : Int) := by rw [IntWalk.i64_in _ ⟨by omega, by omega⟩]; rfl
            rw [ei]
            refine ⟨⟨j + 1, rfl, by omega, B92, Rd.keep' hr90 k92 fun h0 z hz ho => ?_, K90.new k92 hp2⟩, ?_⟩
            · have h1 := hlow z (hob z ho)
              have : z = p2 := hz
              omega
            · show 4 - ((j + 1 : Nat) : Int).toNat < 4 - (j : Int).toNat
              omega
          · have hj4 : j = 4 := by omega
            subst hj4
            rw [pb_four] at B85
            refine fin none 0 0 w85 _ B85 K85 ?_
            rw [hdec2]
            cases hso : sh.isSome with
            | false => simp
            | true =>
              simp only [cond_true, decB]
              rw [if_pos ht4, if_pos ⟨trivial, trivial⟩]; rfl
        · refine cond_t rfl (cond_t (by simp; omega) ?_)
          refine out w50 y B50 K50 ?_ 0 ⟨0, 0, 0, 0, 0⟩
          rw [hdec2]
          cases sh.isSome with
          | false => rfl
          | true =>
            simp only [cond_true, decB]
            rw [if_neg (by omega)]; rfl
  clear_value K26
  refine cond_d (fun h3 => exit26 w17 c2 k17 ?_) (fun h3 => ?_)
  · unfold dec; rw [if_pos (.inr (.inr (by omega)))]
  · obtain ⟨q', hq', hc1⟩ := rd_at h (i := L + 1) (by omega)
    have hgc : l.getD (L + 1) 0 = l[L + 1] := by rw [List.getD_eq_getElem?_getD, List.getElem?_eq_getElem (by omega)]; rfl
    refine ⟨by omega, by omega, q', hq', by omega, by omega, _, cell_no k17 hc1, ?_⟩
    have hsub : Rd w17 e2 1 (subS a c 0 1) (L + 1 - 0) (c - 0) (bvs (l.take (L + 1))) := Rd.takeB (h.no k17) (by omega)
    refine (check_spec hsub).mono ?_
    rintro e w21 ⟨rfl, rfl⟩
    refine ⟨_, rfl, ⟨_, cell_no k17 hc1, rfl⟩, ?_⟩
    by_cases hck : chk (l.take (L + 1)) = l.getD (L + 1) 0
    · rw [hck, hgc, show (((l[L + 1].toNat : Nat) : Int) != (l[L + 1].toNat : Int)) = false by simp]
      exact main (by omega) hck
    · have hne : (((chk (l.take (L + 1))).toNat : Int) != (l[L + 1].toNat : Int)) = true := by
        rw [bne_iff_ne]
        intro he
        refine hck ?_
        rw [hgc]
        exact UInt8.toNat_inj.1 (by omega)
      rw [hne]
      refine exit26 w21 c2 k17 ?_
      unfold dec
      rw [hgL, if_neg (by omega), if_pos hck]
end
end Go.Proofs.Ytmfidfaiopogbaa
