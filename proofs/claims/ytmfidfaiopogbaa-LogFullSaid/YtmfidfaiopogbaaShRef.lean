/- Contracts of the reference's functions. -/
import Derived.Test.YtmfidfaiopogbaaShDisk
set_option linter.unusedVariables false
set_option linter.unusedSectionVars false
set_option linter.unusedSimpArgs false
set_option maxRecDepth 4000
namespace Go.Proofs.Ytmfidfaiopogbaa
open Go Go.Sh
variable [Av]

omit [Av] in
theorem E24 : El Try.prog 24 77 3 48 := ⟨Try.underlying24, ⟨Try.t77, .agg #[.string ⟨#[]⟩, .string ⟨#[]⟩, .string ⟨#[]⟩], by kernel_rfl, rfl, rfl, rfl, rfl⟩, by decide⟩

omit [Av] in
theorem run_ix (w : World) (x : Fs) (f : Nat) (hf : f < 3) :
    (Instr.index 77 (.agg #[.string (str x.a), .string (str x.b), .string (str x.c)]) (.int .i64 (f : Nat))).run Try.prog w = .ok (.string (str (x.get f))) w := by
  have h9 : Try.prog.info? 9 = some Try.t9 := by kernel_rfl
  have hs : Try.t9.size = 1 := rfl
  have hk : isAgg 9 = isAgg 9 := rfl
  match f, hf with
  | 0, _ => simp [Instr.index, asIntOf, run_underlying Try.underlying77, part, isAgg, run_underlying Try.underlying9, sizeOf, typeInfo, Fs.get, h9, hs]
  | 1, _ => simp [Instr.index, asIntOf, run_underlying Try.underlying77, part, isAgg, run_underlying Try.underlying9, sizeOf, typeInfo, Fs.get, h9, hs]
  | 2, _ => simp [Instr.index, asIntOf, run_underlying Try.underlying77, part, isAgg, run_underlying Try.underlying9, sizeOf, typeInfo, Fs.get, h9, hs]
omit [Av] in
theorem rw_ix {w : World} {x : Fs} {f : Int} (h0 : 0 ≤ f) (h3 : f < 3) {K : ByteArray → Prop} (hK : K (str (x.get f.toNat))) :
    RunWp Try.prog (Instr.index 77 (.agg #[.string (str x.a), .string (str x.b), .string (str x.c)]) (.int .i64 f)) (fun v w' => w' = w ∧ ∃ s : ByteArray, v = .string s ∧ K s) w := by
  obtain ⟨g, rfl⟩ := Int.eq_ofNat_of_zero_le h0
  exact RunWp.of (run_ix w x g (by omega)) ⟨rfl, _, rfl, hK⟩

/-! ### The states -/
def stv : List Fs → List Value
  | [] => []
  | s :: r => .string (str s.a) :: .string (str s.b) :: .string (str s.c) :: stv r
omit [Av] in
theorem stv_length : ∀ l : List Fs, (stv l).length = l.length * 3
  | [] => rfl
  | s :: r => by simp [stv, stv_length r]; omega
omit [Av] in
theorem stv_append : ∀ l m : List Fs, stv (l ++ m) = stv l ++ stv m
  | [], m => rfl
  | s :: r, m => by simp [stv, stv_append r m]
omit [Av] in
theorem stv_one : ∀ l : List Fs, ∀ u, u ∈ stv l → one1 u = true
  | [], u, h => by simp [stv] at h
  | s :: r, u, h => by
    simp only [stv, List.mem_cons] at h
    rcases h with rfl | rfl | rfl | h
    · rfl
    · rfl
    · rfl
    · exact stv_one r u h
omit [Av] in
theorem stv_at : ∀ (l : List Fs) (i : Nat) (d : Fs), i < l.length → (stv l)[i * 3]? = some (.string (str (l.getD i d).a)) ∧ (stv l)[i * 3 + 1]? = some (.string (str (l.getD i d).b)) ∧ (stv l)[i * 3 + 2]? = some (.string (str (l.getD i d).c))
  | [], i, d, h => by simp at h
  | s :: r, 0, d, h => ⟨rfl, rfl, rfl⟩
  | s :: r, i + 1, d, h => by
    have := stv_at r i d (by simpa using h)
    rw [Nat.add_mul, show i * 3 + 1 * 3 + 1 = (i * 3 + 1) + 3 by omega, show i * 3 + 1 * 3 + 2 = (i * 3 + 2) + 3 by omega]
    simpa [stv] using this

/-- The reference's disk. -/
abbrev rV (s : Sv) (x : A) : Value := .agg #[s.v, .int .i64 x.raws, .bool x.armed, .int .i64 x.left]
def RefR (w : World) (s : Sv) (x : A) : Prop := Rd w 77 3 s.a s.n s.c (stv (x.first :: x.rest)) ∧ x.ok
section
variable {w w' : World} {s : Sv} {x : A}
theorem RefR.len (h : RefR w s x) : s.n = x.rest.length + 1 := by have := h.1.1; rw [stv_length] at this; simp at this; omega
theorem RefR.keep {S : Nat → Prop} (h : RefR w s x) (k : Keep S w w') (hS : ∀ b, S b → ¬ TyB w b 77) : RefR w' s x := ⟨h.1.keep k hS, h.2⟩
theorem RefR.no (h : RefR w s x) (k : Keep no w w') : RefR w' s x := ⟨h.1.no k, h.2⟩
theorem RefR.state (h : RefR w s x) {i : Nat} (hi : i ≤ x.rest.length) : ∃ q, s.a = some q ∧ w.cell? (q.add (i * 3)) = some (.string (str (x.st i).a)) ∧
    w.cell? ((q.add (i * 3)).add 1) = some (.string (str (x.st i).b)) ∧ w.cell? ((q.add (i * 3)).add 2) = some (.string (str (x.st i).c)) := by
  have hn := h.len
  obtain ⟨q, hq, hc⟩ := h.1.at_ (i := i) (by omega)
  obtain ⟨e0, e1, e2⟩ := stv_at (x.first :: x.rest) i x.first (by simp; omega)
  refine ⟨q, hq, ?_, ?_, ?_⟩
  · obtain ⟨u, h1, h2⟩ := hc 0 (by omega)
    rw [Nat.add_zero, e0] at h1; cases h1; rw [addZ] at h2; exact h2
  · obtain ⟨u, h1, h2⟩ := hc 1 (by omega)
    rw [e1] at h1; cases h1; exact h2
  · obtain ⟨u, h1, h2⟩ := hc 2 (by omega)
    rw [e2] at h1; cases h1; exact h2
omit [Av] in
theorem A.st_last (x : A) : x.st x.rest.length = x.now := by
  unfold A.st A.now
  rw [List.getD_eq_getElem?_getD, List.getLastD_eq_getLast?]
  cases hx : x.rest with
  | nil => rfl
  | cons a r => simp [List.getLast?_eq_getElem?]
theorem RefR.now (h : RefR w s x) : ∃ q, s.a = some q ∧ w.cell? (q.add (x.rest.length * 3)) = some (.string (str x.now.a)) ∧
    w.cell? ((q.add (x.rest.length * 3)).add 1) = some (.string (str x.now.b)) ∧ w.cell? ((q.add (x.rest.length * 3)).add 2) = some (.string (str x.now.c)) := by
  have := h.state (Nat.le_refl _)
  rwa [A.st_last] at this
theorem RefR.wrap1 (h : RefR w s x) : IntKind.i64.wrap ((s.n : Int) - 1) = (x.rest.length : Int) := by
  have h1 := h.len
  have h2 := h.1.2.1
  have h3 := h.1.2.2.1
  simp only [maxLen] at h3
  rw [IntWalk.i64_in _ ⟨by omega, by omega⟩]; omega

omit [Av] in
/-- The end of a function that answers a disk from its own block. -/
theorem fin4 {p8 p10 : Nat} {a b c d : Value} {C : Array Value} {e : TypeId} (h8 : Bk w p8 #[a, b, c, d] e) (h10 : Bk w p10 C e) (hC : C.size = 4) :
    w.cell? ⟨p8, 0, none⟩ = some a ∧ w.cell? ⟨p8, 1, none⟩ = some b ∧ w.cell? ⟨p8, 2, none⟩ = some c ∧ w.cell? ⟨p8, 3, none⟩ = some d ∧ wrN w ⟨p10, 0, none⟩ 4 ∧
      (setN ⟨p10, 0, none⟩ 0 [a, b, c, d] w).cell? ⟨p10, 0, none⟩ = some a ∧ (setN ⟨p10, 0, none⟩ 0 [a, b, c, d] w).cell? ⟨p10, 1, none⟩ = some b ∧
      (setN ⟨p10, 0, none⟩ 0 [a, b, c, d] w).cell? ⟨p10, 2, none⟩ = some c ∧ (setN ⟨p10, 0, none⟩ 0 [a, b, c, d] w).cell? ⟨p10, 3, none⟩ = some d ∧
      Keep (is p10) w (setN ⟨p10, 0, none⟩ 0 [a, b, c, d] w) := by
  have h := h10.setAll (vs := [a, b, c, d]) (by rw [hC]; rfl)
  exact ⟨h8.cell 0, h8.cell 1, h8.cell 2, h8.cell 3, h10.wrN (by rw [hC]; decide), h.cell 0, h.cell 1, h.cell 2, h.cell 3, setN_keep (S := is p10) (a := ⟨p10, 0, none⟩) rfl _ _ _⟩

omit [Av] in
theorem isR_spec (w : World) (f : Int) : Calls Try.prog 74 #[.int .i64 f] w fun e w' => e = .returned (.bool (decide (0 ≤ f ∧ f < 3))) ∧ w' = w := by
  refine c74 ?_
  unfold sh74
  refine cond_d (fun h => ?_) (fun h => ?_)
  · refine ⟨?_, rfl⟩
    congr 2
    simp; omega
  · refine ⟨?_, rfl⟩
    rw [decide_eq_false (by omega)]

theorem nowR_spec (h : RefR w s x) : Calls Try.prog 65 #[rV s x] w fun e w' => e = .returned (.agg #[.string (str x.now.a), .string (str x.now.b), .string (str x.now.c)]) ∧ Keep no w w' := by
  refine c65 ?_
  unfold sh65
  intro p5 w6 p7 w8
  have b5 : Bk w8 p5 #[s.v, .int .i64 x.raws, .bool x.armed, .int .i64 x.left] 26 := (Bk.new w _ _).alloc _
  have b7 : Bk w8 p7 #[.string ⟨#[]⟩, .string ⟨#[]⟩, .string ⟨#[]⟩] 77 := Bk.new w6 _ _
  have k8 : Keep no w w8 := (Keep.alloc no w _).then (Keep.alloc no w6 _)
  have h7 : w.heap.size ≤ p7 := by show w.heap.size ≤ w6.heap.size; simp [w6]
  clear_value p5 p7 w6 w8
  obtain ⟨q, hq, e0, e1, e2⟩ := (h.no k8).now
  refine ⟨s.a, s.n, s.c, b5.cell 0, s.a, s.n, s.c, b5.cell 0, q, hq, ?_⟩
  rw [h.wrap1, Int.toNat_natCast]
  have hn := h.len
  refine ⟨by omega, by omega, _, _, _, e0, e1, e2, b7.wrN (by simp), ?_⟩
  intro w15
  have b7' : Bk w15 p7 #[.string (str x.now.a), .string (str x.now.b), .string (str x.now.c)] 77 := b7.setAll rfl
  have k15 : Keep (is p7) w8 w15 := setN_keep (S := is p7) (a := ⟨p7, 0, none⟩) rfl _ _ _
  clear_value w15
  exact ⟨_, _, _, b7'.cell 0, b7'.cell 1, b7'.cell 2, rfl, k8.new k15 (by rintro y rfl; exact h7)⟩

theorem deadR_spec (h : RefR w s x) : Calls Try.prog 66 #[rV s x] w fun e w' => e = .returned (.bool x.dead) ∧ Keep no w w' := by
  refine c66 ?_
  unfold sh66
  intro p5 w6
  have b5 : Bk w6 p5 #[s.v, .int .i64 x.raws, .bool x.armed, .int .i64 x.left] 26 := Bk.new w _ _
  have k6 : Keep no w w6 := Keep.alloc no w _
  clear_value p5 w6
  refine ⟨_, b5.cell 2, ?_⟩
  unfold A.dead
  cases hx : x.armed with
  | false => exact ⟨rfl, k6⟩
  | true =>
    refine ⟨_, b5.cell 3, ?_, k6⟩
    have := h.2.left hx
    congr 2
    rw [Bool.true_and, Bool.eq_iff_iff]; simp; omega

theorem stepR_spec (h : RefR w s x) : Calls Try.prog 96 #[rV s x] w fun e w' => e = .returned (rV s x.stepped) ∧ Keep no w w' := by
  refine c96 ?_
  unfold sh96
  intro p5 w6 p7 w8
  have b5 : Bk w8 p5 #[s.v, .int .i64 x.raws, .bool x.armed, .int .i64 x.left] 26 := (Bk.new w _ _).alloc _
  have b7 : Bk w8 p7 #[.slice none 0 0, .int .i64 0, .bool false, .int .i64 0] 26 := Bk.new w6 _ _
  have k8 : Keep no w w8 := (Keep.alloc no w _).then (Keep.alloc no w6 _)
  have h5 : w.heap.size ≤ p5 := Nat.le_refl _
  have h7 : w.heap.size ≤ p7 := by show w.heap.size ≤ w6.heap.size; simp [w6]
  have h57 : p5 ≠ p7 := by show w.heap.size ≠ w6.heap.size; simp [w6]
  clear_value p5 p7 w6 w8
  intro K13
  have fin : ∀ w', Bk w' p5 #[s.v, .int .i64 x.raws, .bool x.armed, .int .i64 x.stepped.left] 26 → Bk w' p7 #[.slice none 0 0, .int .i64 0, .bool false, .int .i64 0] 26 → Keep no w w' → K13 w' := by
    intro w' c5 c7 k
    obtain ⟨e0, e1, e2, e3, ew, f0, f1, f2, f3, kf⟩ := fin4 c5 c7 rfl
    exact ⟨_, _, _, _, _, _, e0, e1, e2, e3, ew, _, _, _, _, _, _, f0, f1, f2, f3, rfl, k.new kf (by rintro y rfl; exact h7)⟩
  clear_value K13
  refine ⟨_, b5.cell 2, ?_⟩
  cases hx : x.armed with
  | false =>
    refine fin w8 ?_ b7 k8
    rw [hx] at b5
    have : x.stepped.left = x.left := by unfold A.stepped; simp [hx]
    rw [this, hx]; exact b5
  | true =>
    refine ⟨_, b5.cell 3, b5.wr (by simp), ?_⟩
    intro w11
    have hl := h.2.left hx
    have : x.stepped.left = x.left - 1 := by unfold A.stepped; simp [hx]
    refine fin w11 ?_ (b7.set_ne (a := ⟨p5, 3, none⟩) (fun h => h57 h.symm) _) (k8.new (Keep.set (S := is p5) w8 _ rfl) (by rintro y rfl; exact h5))
    rw [this]
    have := b5.set 3 (.int .i64 (IntKind.i64.wrap (x.left - 1)))
    rw [IntWalk.i64_in _ ⟨by omega, by omega⟩] at this
    have e : w11 = w8.setCell ⟨p5, 3, none⟩ (.int .i64 (x.left - 1)) := by
      show w8.setCell _ _ = _
      rw [IntWalk.i64_in _ ⟨by omega, by omega⟩]
    rw [e]; exact this
end
theorem newR_spec (w : World) : Calls Try.prog 63 #[] w fun e w' => ∃ s, e = .returned (rV s ⟨⟨[], [], []⟩, [], 0, false, 0⟩) ∧ RefR w' s ⟨⟨[], [], []⟩, [], 0, false, 0⟩ ∧ Keep no w w' ∧
    ∃ b, s = ⟨some ⟨b, 0, none⟩, 1, 1⟩ ∧ w.heap.size ≤ b ∧ Bk w' b #[.string ⟨#[]⟩, .string ⟨#[]⟩, .string ⟨#[]⟩] 77 := by
  refine c63 ?_
  unfold sh63
  intro p1 w2
  have b1 : Bk w2 p1 #[.slice none 0 0, .int .i64 0, .bool false, .int .i64 0] 26 := Bk.new w _ _
  have k2 : Keep no w w2 := Keep.alloc _ _ _
  have h1 : w.heap.size ≤ p1 := Nat.le_refl _
  clear_value p1 w2
  obtain ⟨i, z, hi, hz, h2, h3, h4⟩ := E24.el
  have hz' : z = .agg #[.string ⟨#[]⟩, .string ⟨#[]⟩, .string ⟨#[]⟩] := by
    have e1 : Try.prog.info? 77 = some Try.t77 := by kernel_rfl
    rw [e1] at hi; cases hi
    have e2 : Try.t77.zero = some (.agg #[.string ⟨#[]⟩, .string ⟨#[]⟩, .string ⟨#[]⟩]) := rfl
    rw [e2] at hz; cases hz; rfl
  refine RunWp.of (run_make w2 24 77 i z E24.sl hi hz .i64 .i64 1 1 (by omega) (by omega) (by omega) (by omega)) ?_
  have hm : madeCells z.cells ((1 : Int).toNat * i.size) = #[.string ⟨#[]⟩, .string ⟨#[]⟩, .string ⟨#[]⟩] := by rw [hz', h2]; kernel_rfl
  rw [hm]
  have bn : Bk (w2.alloc (.cells #[.string ⟨#[]⟩, .string ⟨#[]⟩, .string ⟨#[]⟩] 77)) w2.heap.size #[.string ⟨#[]⟩, .string ⟨#[]⟩, .string ⟨#[]⟩] 77 := Bk.new _ _ _
  have b1' := b1.alloc (.cells #[.string ⟨#[]⟩, .string ⟨#[]⟩, .string ⟨#[]⟩] 77)
  have k3 : Keep no w2 (w2.alloc (.cells #[.string ⟨#[]⟩, .string ⟨#[]⟩, .string ⟨#[]⟩] 77)) := Keep.alloc _ _ _
  refine ⟨_, _, _, rfl, b1'.wrN (by simp), ?_⟩
  generalize w2.alloc (.cells #[.string ⟨#[]⟩, .string ⟨#[]⟩, .string ⟨#[]⟩] 77) = w4 at *
  have hg : w.heap.size ≤ w2.heap.size := k2.size
  have hne : w2.heap.size ≠ p1 := by have := b1.lt; omega
  generalize w2.heap.size = g at *
  intro w6
  have b6 : Bk w6 p1 #[.slice (some ⟨g, 0, none⟩) 1 1, .int .i64 0, .bool false, .int .i64 0] 26 := b1'.setAll rfl
  have k6 : Keep (is p1) w4 w6 := setN_keep (S := is p1) (a := ⟨p1, 0, none⟩) rfl _ _ _
  clear_value w6
  have bn' : Bk w6 g _ _ := bn.keep k6 hne
  refine ⟨_, _, _, _, _, _, b6.cell 0, b6.cell 1, b6.cell 2, b6.cell 3, ⟨some ⟨g, 0, none⟩, 1, 1⟩, rfl, ⟨?_, ?_⟩, (k2.then k3).new k6 (by rintro y rfl; exact h1), g, rfl, hg, bn'⟩
  · exact Rd.blk bn' rfl (by simp [maxLen])
  · refine ⟨fun s hs => ?_, fun h => by cases h⟩
    simp at hs; subst hs
    exact ⟨by simp, by simp, by simp⟩
end Go.Proofs.Ytmfidfaiopogbaa
/- Contracts of the reference's functions that change a disk. -/
set_option linter.unusedVariables false
set_option linter.unusedSectionVars false
set_option linter.unusedSimpArgs false
set_option maxRecDepth 4000
namespace Go.Proofs.Ytmfidfaiopogbaa
open Go Go.Sh
variable [Av]

omit [Av] in
theorem str_size (l : Bs) : (str l).size = l.length := by simp [str, ByteArray.size]
omit [Av] in
theorem str_take (l : Bs) (n : Nat) : (str l).extract 0 n = str (l.take n) := by
  apply ByteArray.ext
  simp [str, ByteArray.data_extract]
omit [Av] in
theorem str_drop (l : Bs) (n : Nat) : (str l).extract n (str l).size = str (l.drop n) := by
  apply ByteArray.ext
  rw [str_size]
  simp [str, ByteArray.data_extract, List.take_of_length_le]
omit [Av] in
theorem str_app (l m : Bs) : str l ++ str m = str (l ++ m) := by
  apply ByteArray.ext
  simp [str, ByteArray.data_append]

section
variable {w w' : World} {s : Sv} {x : A}
omit [Av] in
theorem lit_own (w : World) (e sz : Nat) {base : Nat} (hb : base ≤ w.heap.size) : (w.alloc (.cells #[] e)).ownsRow base e sz (.slice (some ⟨w.heap.size, 0, none⟩) 0 0) 0 [] :=
  World.ownsRow_lit w #[] 0 hb (by simp [maxLen]) (by simp)

theorem rawR_spec (h : RefR w s x) (hd : x.dead = false) (f : Int) (l : Bs) (h0 : 0 ≤ f) (h3 : f < 3) (hl : l.length ≤ 65536) (hn : x.rest.length ≤ 1000000) :
    Calls Try.prog 75 #[rV s x, .int .i64 f, .string (str l)] w fun e w' => ∃ s', e = .returned (rV s' (x.push (x.now.set f.toNat l))) ∧ RefR w' s' (x.push (x.now.set f.toNat l)) ∧ Keep no w w' := by
  have hok := A.push_ok h.2 hd (h.2.now.set f.toNat hl)
  refine c75 ?_
  unfold sh75
  intro p7 w8 p9 w10
  have b7 : Bk w10 p7 #[s.v, .int .i64 x.raws, .bool x.armed, .int .i64 x.left] 26 := (Bk.new w _ _).alloc _
  have b9 : Bk w10 p9 #[.slice none 0 0, .int .i64 0, .bool false, .int .i64 0] 26 := Bk.new w8 _ _
  have k10 : Keep no w w10 := (Keep.alloc no w _).then (Keep.alloc no w8 _)
  have h7 : w.heap.size ≤ p7 := Nat.le_refl _
  have h9 : w.heap.size ≤ p9 := by show w.heap.size ≤ w8.heap.size; simp [w8]
  have h79 : p7 ≠ p9 := by show w.heap.size ≠ w8.heap.size; simp [w8]
  clear_value p7 p9 w8 w10
  refine ⟨_, _, _, _, _, _, b7.cell 0, b7.cell 1, b7.cell 2, b7.cell 3, ?_⟩
  refine (stepR_spec (h.no k10)).mono ?_
  rintro e w16 ⟨rfl, k16⟩
  refine ⟨_, _, _, _, _, _, rfl, (b7.no k16).wrN (by simp), ?_⟩
  intro w21
  have c7 : Bk w21 p7 #[s.v, .int .i64 x.raws, .bool x.armed, .int .i64 x.stepped.left] 26 := (b7.no k16).setAll rfl
  have k21 : Keep (is p7) w16 w21 := setN_keep (S := is p7) (a := ⟨p7, 0, none⟩) rfl _ _ _
  have c9 : Bk w21 p9 _ _ := (b9.no k16).keep k21 fun h => h79 h.symm
  have K21 : Keep no w w21 := (k10.then k16).new k21 (by rintro y rfl; exact h7)
  clear_value w21
  refine ⟨_, _, _, _, _, _, c7.cell 0, c7.cell 1, c7.cell 2, c7.cell 3, ?_⟩
  have hst : RefR w21 s x.stepped := ⟨(h.no K21).1, A.stepped_ok h.2 hd⟩
  refine (nowR_spec hst).mono ?_
  rintro e w27 ⟨rfl, k27⟩
  have c7' := c7.no k27
  have c9' := c9.no k27
  refine ⟨_, _, _, rfl, ?_⟩
  intro p31 w32
  have c31 : Bk w32 p31 #[.string ⟨#[]⟩, .string ⟨#[]⟩, .string ⟨#[]⟩] 77 := Bk.new w27 _ _
  have k32 : Keep no w27 w32 := Keep.alloc _ _ _
  have h31 : w27.heap.size ≤ p31 := Nat.le_refl _
  clear_value p31 w32
  refine ⟨c31.wrN (by simp), ?_⟩
  intro w33
  have d31 : Bk w33 p31 #[.string (str x.now.a), .string (str x.now.b), .string (str x.now.c)] 77 := c31.setAll rfl
  have k33 : Keep (is p31) w32 w33 := setN_keep (S := is p31) (a := ⟨p31, 0, none⟩) rfl _ _ _
  clear_value w33
  obtain ⟨g, rfl⟩ := Int.eq_ofNat_of_zero_le h0
  rw [addP, Int.toNat_natCast, Nat.mul_one, Nat.zero_add]
  refine ⟨h0, h3, d31.wr (by simp; omega), ?_⟩
  intro w34
  have e31 : Bk w34 p31 #[.string (str (x.now.set g l).a), .string (str (x.now.set g l).b), .string (str (x.now.set g l).c)] 77 := by
    have := d31.set g (.string (str l))
    have e : (#[.string (str x.now.a), .string (str x.now.b), .string (str x.now.c)] : Array Value).setIfInBounds g (.string (str l)) = #[.string (str (x.now.set g l).a), .string (str (x.now.set g l).b), .string (str (x.now.set g l).c)] := by
      match g, (show g < 3 by omega) with
      | 0, _ => rfl
      | 1, _ => rfl
      | 2, _ => rfl
    rw [e] at this
    exact this
  have k34 : Keep (is p31) w32 w34 := k33.then (Keep.set (S := is p31) w33 (a := ⟨p31, g, none⟩) _ rfl)
  clear_value w34
  have K34 : Keep no w27 w34 := k32.new k34 (by rintro y rfl; exact h31)
  have c7a := c7'.no K34
  have c9a := c9'.no K34
  have KK : Keep no w w34 := (K21.then k27).then K34
  intro K82 w35
  have e31' : Bk w35 p31 _ _ := e31.drew
  have c7b : Bk w35 p7 _ _ := c7a.drew
  have c9b : Bk w35 p9 _ _ := c9a.drew
  have KK' : Keep no w w35 := KK.no (Keep.drew _ _)
  clear_value w35
  have fin : ∀ (a : Option Addr) (n c : Nat) w', Keep no w35 w' → Rd w' 77 3 a n c (stv (x.first :: (x.rest ++ [x.now.set g l]))) → wr w' ⟨p7, 0, none⟩ ∧ K82 (w'.setCell ⟨p7, 0, none⟩ (.slice a n c)) := by
    intro a n c w' k hr
    have z7 := c7b.no k
    have z9 := c9b.no k
    refine ⟨z7.wr (by simp), ?_⟩
    have y7 : Bk (w'.setCell ⟨p7, 0, none⟩ (.slice a n c)) p7 #[.slice a n c, .int .i64 x.raws, .bool x.armed, .int .i64 x.stepped.left] 26 := z7.set 0 _
    have y9 : Bk (w'.setCell ⟨p7, 0, none⟩ (.slice a n c)) p9 _ _ := z9.set_ne (a := ⟨p7, 0, none⟩) (fun h => h79 h.symm) _
    have ky : Keep (is p7) w' (w'.setCell ⟨p7, 0, none⟩ (.slice a n c)) := Keep.set (S := is p7) w' (a := ⟨p7, 0, none⟩) _ rfl
    refine ⟨_, y7.cell 1, y7.wr (by simp), ?_⟩
    intro w84
    have x7 : Bk w84 p7 #[.slice a n c, .int .i64 (IntKind.i64.wrap (x.raws + 1)), .bool x.armed, .int .i64 x.stepped.left] 26 := y7.set 1 _
    have x9 : Bk w84 p9 _ _ := y9.set_ne (a := ⟨p7, 1, none⟩) (fun h => h79 h.symm) _
    have kx : Keep (is p7) w' w84 := ky.then (Keep.set (S := is p7) _ (a := ⟨p7, 1, none⟩) _ rfl)
    clear_value w84
    obtain ⟨e0, e1, e2, e3, ew, f0, f1, f2, f3, kf⟩ := fin4 x7 x9 rfl
    refine ⟨_, _, _, _, _, _, e0, e1, e2, e3, ew, _, _, _, _, _, _, f0, f1, f2, f3, ⟨a, n, c⟩, rfl, ⟨?_, hok⟩, ?_⟩
    · exact (hr.keep kx (by rintro y rfl ht; exact absurd (ht.uniq z7.ty) (by decide))).keep kf (by rintro y rfl ht; exact absurd (ht.uniq x9.ty) (by decide))
    · exact ((KK'.then k).new kx (by rintro y rfl; exact h7)).new kf (by rintro y rfl; exact h9)
  clear_value K82
  refine ⟨_, _, _, c7b.cell 0, _, _, _, e31'.cell 0, e31'.cell 1, e31'.cell 2, ?_⟩
  have h35 := h.no KK'
  have hsn := h.len
  -- the first of the two appends
  have one : ∀ (v : World) (p : Nat) (K : Option Addr → Nat → Nat → World → Prop), Keep no w35 v → v.ownsRow w35.heap.size 77 3 (.slice (some ⟨p, 0, none⟩) 0 0) 0 [] →
      (∀ a c v', v'.ownsRow w35.heap.size 77 3 (.slice a s.n c) s.n (stv (x.first :: x.rest)) → Keep no w35 v' → Keep (is p) v v' → K a s.n c v') →
      RunWp Try.prog (Builtin.append_ #[24, 24] 24 #[.slice (some ⟨p, 0, none⟩) 0 0, s.v]) (fun v w' => ∃ (a2 : Option Addr) (n2 c2 : Nat), v = .slice a2 n2 c2 ∧ K a2 n2 c2 w') v := by
    intro v p K k ho hK
    refine rw_append E24 ho (h35.no k).1 (stv_one _) (by omega) (by simp only [maxLen]; omega) k.size fun a2 c2 w2 ho2 k2 _ => ?_
    rw [Nat.zero_add] at ho2 ⊢
    refine hK a2 c2 w2 ho2 (k.new k2 fun b hb => (own_ty (q := ⟨some ⟨p, 0, none⟩, 0, 0⟩) ho hb).2) (k2.mono ?_)
    rintro b _ ⟨z, hz, rfl⟩
    cases hz; rfl
  have two : ∀ (v : World) (a : Option Addr) (c r : Nat) (K : Option Addr → Nat → Nat → World → Prop), Keep no w35 v → v.ownsRow w35.heap.size 77 3 (.slice a s.n c) s.n (stv (x.first :: x.rest)) →
      Bk v r #[.string (str (x.now.set g l).a), .string (str (x.now.set g l).b), .string (str (x.now.set g l).c)] 77 →
      (∀ a n c v', Keep no w35 v' → Rd v' 77 3 a n c (stv (x.first :: (x.rest ++ [x.now.set g l]))) → K a n c v') →
      RunWp Try.prog (Builtin.append_ #[24, 24] 24 #[.slice a s.n c, .slice (some ⟨r, 0, none⟩) 1 1]) (fun v w' => ∃ (a2 : Option Addr) (n2 c2 : Nat), v = .slice a2 n2 c2 ∧ K a2 n2 c2 w') v := by
    intro v a c r K k ho hr hK
    refine rw_append E24 ho (Rd.blk hr (n := 1) rfl (by simp [maxLen])) (by simp [one1]) (by omega) (by simp only [maxLen]; omega) k.size fun a2 c2 w2 ho2 k2 _ => ?_
    refine hK a2 _ c2 w2 (k.new k2 fun b hb => (own_ty (q := ⟨a, s.n, c⟩) ho hb).2) ?_
    have := Rd.own ho2
    have e : stv (x.first :: x.rest) ++ (#[.string (str (x.now.set g l).a), .string (str (x.now.set g l).b), .string (str (x.now.set g l).c)] : Array Value).toList = stv (x.first :: (x.rest ++ [x.now.set g l])) := by
      rw [← List.cons_append, stv_append]; rfl
    rw [e] at this
    exact this
  refine ⟨?_, ?_⟩
  · intro p40 w41
    have k41 : Keep no w35 w41 := Keep.alloc _ _ _
    have o41 : w41.ownsRow w35.heap.size 77 3 (.slice (some ⟨p40, 0, none⟩) 0 0) 0 [] := lit_own w35 77 3 (Nat.le_refl _)
    have h40 : w35.heap.size ≤ p40 := Nat.le_refl _
    clear_value p40 w41
    have f31 := e31'.no k41
    refine ⟨⟨_, _, _, (c7b.no k41).cell 0, rfl⟩, ⟨_, _, _, f31.cell 0, f31.cell 1, f31.cell 2, rfl⟩, ?_, ?_⟩
    · refine one w41 p40 _ k41 o41 fun a c v ho kv kv' => ?_
      have g31 := e31'.no kv
      refine ⟨⟨_, _, _, g31.cell 0, g31.cell 1, g31.cell 2, rfl⟩, ?_⟩
      intro p52 w53
      refine two w53 a c p52 _ (kv.then (Keep.alloc _ _ _)) (own_keep ho (Keep.alloc no _ _) fun _ _ h => h) (Bk.new _ _ _) fun a n c v' k' hr => ?_
      exact fin a n c v' k' hr
    · intro p58 w59
      have b58 : Bk w59 p58 _ 77 := Bk.new w41 _ _
      have k59 : Keep no w41 w59 := Keep.alloc _ _ _
      have h58 : w41.heap.size ≤ p58 := Nat.le_refl _
      clear_value p58 w59
      have k59' := k41.then k59
      have hlt : p40 < w41.heap.size := (own_ty (q := ⟨some ⟨p40, 0, none⟩, 0, 0⟩) o41 ⟨_, rfl, rfl⟩).1.lt
      refine ⟨⟨_, _, _, (c7b.no k59').cell 0, rfl⟩, ?_⟩
      refine one w59 p40 _ k59' (own_keep o41 k59 fun _ _ h => h) fun a c v ho kv kv' => ?_
      refine two v a c p58 _ kv ho (b58.keep kv' (by unfold is; omega)) fun a n c v' k' hr => ?_
      exact fin a n c v' k' hr
  · intro p68 w69
    have b68 : Bk w69 p68 _ 77 := Bk.new w35 _ _
    have k69 : Keep no w35 w69 := Keep.alloc _ _ _
    clear_value p68 w69
    refine ⟨⟨_, _, _, (c7b.no k69).cell 0, rfl⟩, ?_⟩
    intro p71 w72
    have k72 : Keep no w69 w72 := Keep.alloc _ _ _
    have o72 : w72.ownsRow w35.heap.size 77 3 (.slice (some ⟨p71, 0, none⟩) 0 0) 0 [] := lit_own w69 77 3 k69.size
    have h71 : w69.heap.size ≤ p71 := Nat.le_refl _
    have b68' := b68.no k72
    clear_value p71 w72
    have k72' := k69.then k72
    refine ⟨⟨_, _, _, (c7b.no k72').cell 0, rfl⟩, ?_⟩
    refine one w72 p71 _ k72' o72 fun a c v ho kv kv' => ?_
    refine two v a c p68 _ kv ho (b68'.keep kv' (by have := b68.lt; unfold is; omega)) fun a n c v' k' hr => ?_
    exact fin a n c v' k' hr
end
end Go.Proofs.Ytmfidfaiopogbaa
/- Contracts of the reference's Write, Cut, Sync, Arm and Crash. -/
set_option linter.unusedVariables false
set_option linter.unusedSectionVars false
set_option linter.unusedSimpArgs false
set_option maxRecDepth 4000
namespace Go.Proofs.Ytmfidfaiopogbaa
open Go Go.Sh
variable [Av]

section
variable {w w' : World} {s : Sv} {x : A}
/-- What a call of the reference answers. -/
def RefD (w w' : World) (e : Ending) (y : A × Int) : Prop := ∃ s', e = .returned (.tuple #[rV s' y.1, .int .i64 y.2]) ∧ RefR w' s' y.1 ∧ Keep no w w'

theorem WriteR_spec (h : RefR w s x) (f off : Int) {b : Sv} {l : Bs} (hb : Ru w b l) (hn : x.rest.length ≤ 1000000) :
    Calls Try.prog 32 #[rV s x, .int .i64 f, .int .i64 off, b.v] w fun e w' => RefD w w' e (x.Write f off l) := by
  have hbn : b.n = l.length := hb.len
  refine c32 ?_
  unfold sh32
  intro p8 w9 p10 w11
  have b8 : Bk w11 p8 #[s.v, .int .i64 x.raws, .bool x.armed, .int .i64 x.left] 26 := (Bk.new w _ _).alloc _
  have b10 : Bk w11 p10 #[.slice none 0 0, .int .i64 0, .bool false, .int .i64 0] 26 := Bk.new w9 _ _
  have k11 : Keep no w w11 := (Keep.alloc no w _).then (Keep.alloc no w9 _)
  have h8 : w.heap.size ≤ p8 := Nat.le_refl _
  have h10 : w.heap.size ≤ p10 := by show w.heap.size ≤ w9.heap.size; simp [w9]
  clear_value p8 p10 w9 w11
  intro K29
  have out : ∀ (w' : World) (s' : Sv) (y : A) (n : Int), Bk w' p8 #[s'.v, .int .i64 y.raws, .bool y.armed, .int .i64 y.left] 26 → Bk w' p10 #[.slice none 0 0, .int .i64 0, .bool false, .int .i64 0] 26 → Keep no w w' → RefR w' s' y → True := fun _ _ _ _ _ _ _ _ => trivial
  have fin : ∀ (c : Bool) (w' : World), Bk w' p8 #[s.v, .int .i64 x.raws, .bool x.armed, .int .i64 x.left] 26 → Bk w' p10 #[.slice none 0 0, .int .i64 0, .bool false, .int .i64 0] 26 → Keep no w w' → (c = true ↔ ¬ IsF x f off) → K29 c w' := by
    intro c w' c8 c10 k hc
    have hx := h.no k
    refine cond_i (fun h1 => ?_) (fun h1 => ?_)
    · obtain ⟨e0, e1, e2, e3, ew, f0, f1, f2, f3, kf⟩ := fin4 c8 c10 rfl
      refine ⟨_, _, _, _, _, _, e0, e1, e2, e3, ew, _, _, _, _, _, _, f0, f1, f2, f3, ?_⟩
      have kk := k.new kf (by rintro y rfl; exact h10)
      unfold A.Write
      rw [if_neg (hc.1 h1)]
      exact ⟨s, rfl, h.no kk, kk⟩
    · have hF : IsF x f off := Classical.not_not.1 fun hF => by rw [hc.2 hF] at h1; cases h1
      obtain ⟨g1, g2, g3, g4⟩ := id hF
      have hsm := h.2.now.get f.toNat
      refine cond_d (fun hl => ?_) (fun hl => ?_)
      · obtain ⟨e0, e1, e2, e3, ew, f0, f1, f2, f3, kf⟩ := fin4 c8 c10 rfl
        refine ⟨_, _, _, _, _, _, e0, e1, e2, e3, ew, _, _, _, _, _, _, f0, f1, f2, f3, ?_⟩
        have kk := k.new kf (by rintro y rfl; exact h10)
        unfold A.Write
        rw [if_pos hF, if_pos (by omega)]
        exact ⟨s, rfl, h.no kk, kk⟩
      · rw [IntWalk.i64_in _ ⟨by omega, by omega⟩]
        refine cond_d (fun hl2 => ?_) (fun hl2 => ?_)
        · obtain ⟨e0, e1, e2, e3, ew, f0, f1, f2, f3, kf⟩ := fin4 c8 c10 rfl
          refine ⟨_, _, _, _, _, _, e0, e1, e2, e3, ew, _, _, _, _, _, _, f0, f1, f2, f3, ?_⟩
          have kk := k.new kf (by rintro y rfl; exact h10)
          unfold A.Write
          rw [if_pos hF, if_neg (by omega), if_pos (by omega)]
          exact ⟨s, rfl, h.no kk, kk⟩
        · have eW : x.Write f off l = (x.raw1 f.toNat off.toNat l false, bif x.dead then 180 else 0) := by
            unfold A.Write
            rw [if_pos hF, if_neg (by omega), if_neg (by omega)]
          rw [eW]
          refine ⟨_, _, _, _, _, _, c8.cell 0, c8.cell 1, c8.cell 2, c8.cell 3, ?_⟩
          refine (deadR_spec hx).mono ?_
          rintro e w50 ⟨rfl, k50⟩
          refine ⟨_, rfl, ?_⟩
          have d8 := c8.no k50
          have d10 := c10.no k50
          have kk := k.then k50
          unfold A.raw1
          refine cond_i (fun hd => ?_) (fun hd => ?_)
          · obtain ⟨e0, e1, e2, e3, ew, f0, f1, f2, f3, kf⟩ := fin4 d8 d10 rfl
            refine ⟨_, _, _, _, _, _, e0, e1, e2, e3, ew, _, _, _, _, _, _, f0, f1, f2, f3, ?_⟩
            have kk := kk.new kf (by rintro y rfl; exact h10)
            rw [hd]
            exact ⟨s, rfl, h.no kk, kk⟩
          · rw [hd]
            refine ⟨_, _, _, _, _, _, d8.cell 0, d8.cell 1, d8.cell 2, d8.cell 3, ?_⟩
            refine (nowR_spec (h.no kk)).mono ?_
            rintro e w62 ⟨rfl, k62⟩
            refine ⟨_, _, _, rfl, ?_⟩
            refine rw_ix g1 g2 ?_
            intro w69
            have a8 : Bk w69 p8 _ _ := (d8.no k62).drew
            have a10 : Bk w69 p10 _ _ := (d10.no k62).drew
            have k69 : Keep no w w69 := (kk.then k62).no (Keep.drew _ _)
            clear_value w69
            refine ⟨g3, by rw [str_size]; omega, ?_⟩
            refine rw_str Try.underlying36 Try.underlying5 Try.underlying9 (hb.no k69) ?_
            rw [str_take, str_app]
            have hlen : (List.take off.toNat (x.now.get f.toNat) ++ l).length = off.toNat + l.length := by simp; omega
            refine ⟨by simp only [str_size, List.length_take]; omega, ?_⟩
            intro K75
            have fin2 : ∀ t : Bs, t = wrt (x.now.get f.toNat) off.toNat l false → K75 (str t) w69 := by
              rintro t rfl
              have hw := wrt_len (x.now.get f.toNat) off.toNat l false (by omega)
              refine ⟨_, _, _, _, _, _, a8.cell 0, a8.cell 1, a8.cell 2, a8.cell 3, ?_⟩
              refine (rawR_spec (h.no k69) hd f _ g1 g2 (by omega) hn).mono ?_
              rintro e w81 ⟨s', rfl, hs', k81⟩
              refine ⟨_, _, _, _, _, _, rfl, (a10.no k81).wrN (by simp), ?_⟩
              intro w86
              have z10 : Bk w86 p10 #[s'.v, _, _, _] 26 := (a10.no k81).setAll rfl
              have k86 : Keep (is p10) w81 w86 := setN_keep (S := is p10) (a := ⟨p10, 0, none⟩) rfl _ _ _
              have n10 := (a10.no k81).ty
              clear_value w86
              refine ⟨_, _, _, _, _, _, z10.cell 0, z10.cell 1, z10.cell 2, z10.cell 3, s', rfl, ?_, ?_⟩
              · exact hs'.keep k86 (by rintro y rfl ht; exact absurd (ht.uniq n10) (by decide))
              · exact (k69.then k81).new k86 (by rintro y rfl; exact h10)
            clear_value K75
            refine cond_d (fun hlt => ?_) (fun hge => ?_)
            · rw [str_size, hlen, str_size] at hlt
              have e1 : (((str (List.take off.toNat (x.now.get f.toNat) ++ l)).size : Nat) : Int).toNat = (List.take off.toNat (x.now.get f.toNat) ++ l).length := by rw [Int.toNat_natCast, str_size]
              rw [e1, str_drop, str_app]
              refine ⟨by omega, by simp only [str_size]; omega, by simp only [str_size, List.length_drop]; omega, ?_⟩
              refine fin2 _ ?_
              unfold wrt
              rw [hlen, show (!false && decide (off.toNat + l.length < (x.now.get f.toNat).length)) = true by rw [Bool.not_false, Bool.true_and]; exact decide_eq_true (by omega)]
              rfl
            · rw [str_size, hlen, str_size] at hge
              refine fin2 _ ?_
              unfold wrt
              rw [hlen, show (!false && decide (off.toNat + l.length < (x.now.get f.toNat).length)) = false by rw [Bool.not_false, Bool.true_and]; exact decide_eq_false (by omega)]
              rfl
  clear_value K29
  clear out
  refine (isR_spec w11 f).mono ?_
  rintro e w13 ⟨rfl, rfl⟩
  refine ⟨_, rfl, ?_⟩
  refine cond_i (fun h1 => ?_) (fun h1 => ?_)
  · refine fin true w13 b8 b10 k11 ?_
    simp at h1
    unfold IsF
    simp only [true_iff]; omega
  · simp at h1
    refine cond_d (fun h2 => ?_) (fun h2 => ?_)
    · refine fin true w13 b8 b10 k11 ?_
      unfold IsF
      simp only [true_iff]; omega
    · refine ⟨_, _, _, _, _, _, b8.cell 0, b8.cell 1, b8.cell 2, b8.cell 3, ?_⟩
      refine (nowR_spec (h.no k11)).mono ?_
      rintro e w20 ⟨rfl, k20⟩
      refine ⟨_, _, _, rfl, ?_⟩
      refine rw_ix h1.1 h1.2 ?_
      refine fin _ w20 (b8.no k20) (b10.no k20) (k11.then k20) ?_
      unfold IsF
      rw [str_size]
      simp only [decide_eq_true_eq]; omega

theorem CutR_spec (h : RefR w s x) (f n : Int) (hn : x.rest.length ≤ 1000000) :
    Calls Try.prog 67 #[rV s x, .int .i64 f, .int .i64 n] w fun e w' => RefD w w' e (x.Cut f n) := by
  refine c67 ?_
  unfold sh67
  intro p8 w9 p10 w11
  have b8 : Bk w11 p8 #[s.v, .int .i64 x.raws, .bool x.armed, .int .i64 x.left] 26 := (Bk.new w _ _).alloc _
  have b10 : Bk w11 p10 #[.slice none 0 0, .int .i64 0, .bool false, .int .i64 0] 26 := Bk.new w9 _ _
  have k11 : Keep no w w11 := (Keep.alloc no w _).then (Keep.alloc no w9 _)
  have h10 : w.heap.size ≤ p10 := by show w.heap.size ≤ w9.heap.size; simp [w9]
  clear_value p8 p10 w9 w11
  intro K29
  have fin : ∀ (c : Bool) (w' : World), Bk w' p8 #[s.v, .int .i64 x.raws, .bool x.armed, .int .i64 x.left] 26 → Bk w' p10 #[.slice none 0 0, .int .i64 0, .bool false, .int .i64 0] 26 → Keep no w w' → (c = true ↔ ¬ IsF x f n) → K29 c w' := by
    intro c w' c8 c10 k hc
    have hx := h.no k
    refine cond_i (fun h1 => ?_) (fun h1 => ?_)
    · obtain ⟨e0, e1, e2, e3, ew, f0, f1, f2, f3, kf⟩ := fin4 c8 c10 rfl
      refine ⟨_, _, _, _, _, _, e0, e1, e2, e3, ew, _, _, _, _, _, _, f0, f1, f2, f3, ?_⟩
      have kk := k.new kf (by rintro y rfl; exact h10)
      unfold A.Cut
      rw [if_neg (hc.1 h1)]
      exact ⟨s, rfl, h.no kk, kk⟩
    · have hF : IsF x f n := Classical.not_not.1 fun hF => by rw [hc.2 hF] at h1; cases h1
      obtain ⟨g1, g2, g3, g4⟩ := id hF
      have hsm := h.2.now.get f.toNat
      unfold A.Cut
      rw [if_pos hF]
      refine ⟨_, _, _, _, _, _, c8.cell 0, c8.cell 1, c8.cell 2, c8.cell 3, ?_⟩
      refine (deadR_spec hx).mono ?_
      rintro e w50 ⟨rfl, k50⟩
      refine ⟨_, rfl, ?_⟩
      have d8 := c8.no k50
      have d10 := c10.no k50
      have kk := k.then k50
      unfold A.raw1
      refine cond_i (fun hd => ?_) (fun hd => ?_)
      · obtain ⟨e0, e1, e2, e3, ew, f0, f1, f2, f3, kf⟩ := fin4 d8 d10 rfl
        refine ⟨_, _, _, _, _, _, e0, e1, e2, e3, ew, _, _, _, _, _, _, f0, f1, f2, f3, ?_⟩
        have kk := kk.new kf (by rintro y rfl; exact h10)
        rw [hd]
        exact ⟨s, rfl, h.no kk, kk⟩
      · rw [hd]
        intro w46
        have a8 : Bk w46 p8 _ _ := d8.drew
        have a10 : Bk w46 p10 _ _ := d10.drew
        have k46 : Keep no w w46 := kk.no (Keep.drew _ _)
        clear_value w46
        refine ⟨_, _, _, _, _, _, a8.cell 0, a8.cell 1, a8.cell 2, a8.cell 3, _, _, _, _, _, _, a8.cell 0, a8.cell 1, a8.cell 2, a8.cell 3, ?_⟩
        refine (nowR_spec (h.no k46)).mono ?_
        rintro e w62 ⟨rfl, k62⟩
        have k62' := k46.then k62
        have q8 := a8.no k62
        have q10 := a10.no k62
        refine ⟨_, _, _, rfl, ⟨_, _, _, _, _, _, q8.cell 0, q8.cell 1, q8.cell 2, q8.cell 3, rfl⟩, ?_⟩
        refine rw_ix g1 g2 ?_
        refine ⟨g3, by rw [str_size]; omega, ?_⟩
        rw [str_take]
        have ew : wrt (x.now.get f.toNat) n.toNat [] true = List.take n.toNat (x.now.get f.toNat) := by simp [wrt]
        refine (rawR_spec (h.no k62') hd f _ g1 g2 (by rw [List.length_take]; omega) hn).mono ?_
        rintro e w81 ⟨s', rfl, hs', k81⟩
        refine ⟨_, _, _, _, _, _, rfl, (q10.no k81).wrN (by simp), ?_⟩
        intro w86
        have z10 : Bk w86 p10 #[s'.v, _, _, _] 26 := (q10.no k81).setAll rfl
        have k86 : Keep (is p10) w81 w86 := setN_keep (S := is p10) (a := ⟨p10, 0, none⟩) rfl _ _ _
        have n10 := (q10.no k81).ty
        clear_value w86
        rw [ew]
        refine ⟨_, _, _, _, _, _, z10.cell 0, z10.cell 1, z10.cell 2, z10.cell 3, s', rfl, ?_, ?_⟩
        · exact hs'.keep k86 (by rintro y rfl ht; exact absurd (ht.uniq n10) (by decide))
        · exact (k62'.then k81).new k86 (by rintro y rfl; exact h10)
  clear_value K29
  refine (isR_spec w11 f).mono ?_
  rintro e w13 ⟨rfl, rfl⟩
  refine ⟨_, rfl, ?_⟩
  refine cond_i (fun h1 => ?_) (fun h1 => ?_)
  · refine fin true w13 b8 b10 k11 ?_
    simp at h1
    unfold IsF
    simp only [true_iff]; omega
  · simp at h1
    refine cond_d (fun h2 => ?_) (fun h2 => ?_)
    · refine fin true w13 b8 b10 k11 ?_
      unfold IsF
      simp only [true_iff]; omega
    · refine ⟨_, _, _, _, _, _, b8.cell 0, b8.cell 1, b8.cell 2, b8.cell 3, ?_⟩
      refine (nowR_spec (h.no k11)).mono ?_
      rintro e w20 ⟨rfl, k20⟩
      refine ⟨_, _, _, rfl, ?_⟩
      refine rw_ix h1.1 h1.2 ?_
      refine fin _ w20 (b8.no k20) (b10.no k20) (k11.then k20) ?_
      unfold IsF
      rw [str_size]
      simp only [decide_eq_true_eq]; omega

theorem SyncR_spec (h : RefR w s x) : Calls Try.prog 68 #[rV s x] w fun e w' => RefD w w' e x.Sync := by
  refine c68 ?_
  unfold sh68
  intro p8 w9 p10 w11
  have b8 : Bk w11 p8 #[s.v, .int .i64 x.raws, .bool x.armed, .int .i64 x.left] 26 := (Bk.new w _ _).alloc _
  have b10 : Bk w11 p10 #[.slice none 0 0, .int .i64 0, .bool false, .int .i64 0] 26 := Bk.new w9 _ _
  have k11 : Keep no w w11 := (Keep.alloc no w _).then (Keep.alloc no w9 _)
  have h8 : w.heap.size ≤ p8 := Nat.le_refl _
  have h10 : w.heap.size ≤ p10 := by show w.heap.size ≤ w9.heap.size; simp [w9]
  have h810 : p8 ≠ p10 := by show w.heap.size ≠ w9.heap.size; simp [w9]
  clear_value p8 p10 w9 w11
  refine ⟨_, _, _, _, _, _, b8.cell 0, b8.cell 1, b8.cell 2, b8.cell 3, ?_⟩
  refine (deadR_spec (h.no k11)).mono ?_
  rintro e w50 ⟨rfl, k50⟩
  refine ⟨_, rfl, ?_⟩
  have d8 := b8.no k50
  have d10 := b10.no k50
  have kk := k11.then k50
  unfold A.Sync
  refine cond_i (fun hd => ?_) (fun hd => ?_)
  · obtain ⟨e0, e1, e2, e3, ew, f0, f1, f2, f3, kf⟩ := fin4 d8 d10 rfl
    refine ⟨_, _, _, _, _, _, e0, e1, e2, e3, ew, _, _, _, _, _, _, f0, f1, f2, f3, ?_⟩
    have kk := kk.new kf (by rintro y rfl; exact h10)
    rw [hd]
    exact ⟨s, rfl, h.no kk, kk⟩
  · rw [hd]
    refine ⟨_, _, _, _, _, _, d8.cell 0, d8.cell 1, d8.cell 2, d8.cell 3, ?_⟩
    refine (stepR_spec (h.no kk)).mono ?_
    rintro e w26 ⟨rfl, k26⟩
    refine ⟨_, _, _, _, _, _, rfl, (d8.no k26).wrN (by simp), ?_⟩
    intro w31
    have c8 : Bk w31 p8 #[s.v, .int .i64 x.raws, .bool x.armed, .int .i64 x.stepped.left] 26 := (d8.no k26).setAll rfl
    have k31 : Keep (is p8) w26 w31 := setN_keep (S := is p8) (a := ⟨p8, 0, none⟩) rfl _ _ _
    have c10 : Bk w31 p10 _ _ := (d10.no k26).keep k31 fun h => h810 h.symm
    clear_value w31
    have k31' : Keep no w w31 := (kk.then k26).new k31 (by rintro y rfl; exact h8)
    refine ⟨_, _, _, _, _, _, c8.cell 0, c8.cell 1, c8.cell 2, c8.cell 3, ?_⟩
    have hst : RefR w31 s x.stepped := ⟨(h.no k31').1, A.stepped_ok h.2 hd⟩
    refine (nowR_spec hst).mono ?_
    rintro e w37 ⟨rfl, k37⟩
    refine ⟨_, _, _, rfl, ?_⟩
    intro p41 w42
    have e41 : Bk w42 p41 #[.string (str x.now.a), .string (str x.now.b), .string (str x.now.c)] 77 := Bk.new w37 _ _
    have k42 : Keep no w37 w42 := Keep.alloc _ _ _
    have h41 : w37.heap.size ≤ p41 := Nat.le_refl _
    clear_value p41 w42
    have k42' : Keep no w31 w42 := k37.then k42
    have a8 := c8.no k42'
    have a10 := c10.no k42'
    refine ⟨a8.wr (by simp), ?_⟩
    intro w43
    have q8 : Bk w43 p8 #[.slice (some ⟨p41, 0, none⟩) 1 1, .int .i64 x.raws, .bool x.armed, .int .i64 x.stepped.left] 26 := a8.set 0 _
    have k43 : Keep (is p8) w42 w43 := Keep.set (S := is p8) w42 (a := ⟨p8, 0, none⟩) _ rfl
    have q10 : Bk w43 p10 _ _ := a10.keep k43 fun h => h810 h.symm
    have q41 : Bk w43 p41 _ _ := e41.keep k43 fun h => (e41.ty.ne a8.ty (by decide)) h
    clear_value w43
    obtain ⟨e0, e1, e2, e3, ew, f0, f1, f2, f3, kf⟩ := fin4 q8 q10 rfl
    refine ⟨_, _, _, _, _, _, e0, e1, e2, e3, ew, _, _, _, _, _, _, f0, f1, f2, f3, ⟨some ⟨p41, 0, none⟩, 1, 1⟩, rfl, ⟨?_, ?_⟩, ?_⟩
    · exact Rd.keep (Rd.blk q41 (n := 1) rfl (by simp [maxLen])) kf (by rintro y rfl ht; exact absurd (ht.uniq q10.ty) (by decide))
    · refine ⟨fun t ht => ?_, (A.stepped_ok h.2 hd).left⟩
      have ht' : t ∈ [x.now] := ht
      simp at ht'; rw [ht']; exact h.2.now
    · exact ((k31'.then k42').new k43 (by rintro y rfl; exact h8)).new kf (by rintro y rfl; exact h10)

theorem ArmR_spec (h : RefR w s x) (n : Int) (hn : n ≤ 9223372036854775807) : Calls Try.prog 69 #[rV s x, .int .i64 n] w fun e w' => RefD w w' e (x.Arm n) := by
  refine c69 ?_
  unfold sh69
  intro p8 w9 p10 w11
  have b8 : Bk w11 p8 #[s.v, .int .i64 x.raws, .bool x.armed, .int .i64 x.left] 26 := (Bk.new w _ _).alloc _
  have b10 : Bk w11 p10 #[.slice none 0 0, .int .i64 0, .bool false, .int .i64 0] 26 := Bk.new w9 _ _
  have k11 : Keep no w w11 := (Keep.alloc no w _).then (Keep.alloc no w9 _)
  have h8 : w.heap.size ≤ p8 := Nat.le_refl _
  have h10 : w.heap.size ≤ p10 := by show w.heap.size ≤ w9.heap.size; simp [w9]
  have h810 : p8 ≠ p10 := by show w.heap.size ≠ w9.heap.size; simp [w9]
  clear_value p8 p10 w9 w11
  unfold A.Arm
  refine cond_d (fun h1 => ?_) (fun h1 => ?_)
  · rw [if_pos h1]
    obtain ⟨e0, e1, e2, e3, ew, f0, f1, f2, f3, kf⟩ := fin4 b8 b10 rfl
    refine ⟨_, _, _, _, _, _, e0, e1, e2, e3, ew, _, _, _, _, _, _, f0, f1, f2, f3, ?_⟩
    have kk := k11.new kf (by rintro y rfl; exact h10)
    exact ⟨s, rfl, h.no kk, kk⟩
  · rw [if_neg h1]
    refine ⟨_, _, _, _, _, _, b8.cell 0, b8.cell 1, b8.cell 2, b8.cell 3, ?_⟩
    refine (deadR_spec (h.no k11)).mono ?_
    rintro e w50 ⟨rfl, k50⟩
    refine ⟨_, rfl, ?_⟩
    have d8 := b8.no k50
    have d10 := b10.no k50
    have kk := k11.then k50
    refine cond_i (fun hd => ?_) (fun hd => ?_)
    · rw [hd]
      obtain ⟨e0, e1, e2, e3, ew, f0, f1, f2, f3, kf⟩ := fin4 d8 d10 rfl
      refine ⟨_, _, _, _, _, _, e0, e1, e2, e3, ew, _, _, _, _, _, _, f0, f1, f2, f3, ?_⟩
      have kk := kk.new kf (by rintro y rfl; exact h10)
      exact ⟨s, rfl, h.no kk, kk⟩
    · rw [hd]
      refine ⟨d8.wr (by simp), ?_⟩
      intro w27
      have c8 : Bk w27 p8 #[s.v, .int .i64 x.raws, .bool true, .int .i64 x.left] 26 := d8.set 2 _
      have k27 : Keep (is p8) w50 w27 := Keep.set (S := is p8) w50 (a := ⟨p8, 2, none⟩) _ rfl
      have c10 : Bk w27 p10 _ _ := d10.keep k27 fun h => h810 h.symm
      clear_value w27
      refine ⟨c8.wr (by simp), ?_⟩
      intro w28
      have a8 : Bk w28 p8 #[s.v, .int .i64 x.raws, .bool true, .int .i64 n] 26 := c8.set 3 _
      have k28 : Keep (is p8) w27 w28 := Keep.set (S := is p8) w27 (a := ⟨p8, 3, none⟩) _ rfl
      have a10 : Bk w28 p10 _ _ := c10.keep k28 fun h => h810 h.symm
      clear_value w28
      obtain ⟨e0, e1, e2, e3, ew, f0, f1, f2, f3, kf⟩ := fin4 a8 a10 rfl
      refine ⟨_, _, _, _, _, _, e0, e1, e2, e3, ew, _, _, _, _, _, _, f0, f1, f2, f3, ?_⟩
      have kk := (kk.new (k27.then k28) (by rintro y rfl; exact h8)).new kf (by rintro y rfl; exact h10)
      exact ⟨s, rfl, ⟨(h.no kk).1, h.2.small, fun _ => ⟨by show 0 ≤ n; omega, hn⟩⟩, kk⟩

theorem CrashR_spec (h : RefR w s x) (k : Int) : Calls Try.prog 24 #[rV s x, .int .i64 k] w fun e w' => ∃ s', e = .returned (rV s' (x.Crash k)) ∧ RefR w' s' (x.Crash k) ∧ Keep no w w' := by
  refine c24 ?_
  unfold sh24
  intro p8 w9 p10 w11
  have b8 : Bk w11 p8 #[s.v, .int .i64 x.raws, .bool x.armed, .int .i64 x.left] 26 := (Bk.new w _ _).alloc _
  have b10 : Bk w11 p10 #[.slice none 0 0, .int .i64 0, .bool false, .int .i64 0] 26 := Bk.new w9 _ _
  have k11 : Keep no w w11 := (Keep.alloc no w _).then (Keep.alloc no w9 _)
  have h10 : w.heap.size ≤ p10 := by show w.heap.size ≤ w9.heap.size; simp [w9]
  clear_value p8 p10 w9 w11
  refine ⟨_, _, _, b8.cell 0, _, _, _, b8.cell 0, ?_⟩
  rw [h.wrap1]
  have hkl := x.keep_le k
  have ek : mxI 0 (mnI k (x.rest.length : Int)) = (x.keep k : Nat) := by unfold A.keep mnI mxI; (repeat' split) <;> omega
  rw [ek, Int.toNat_natCast]
  have hn := h.len
  obtain ⟨q, hq, e0, e1, e2⟩ := (h.no k11).state hkl
  refine ⟨q, hq, by omega, by omega, _, _, _, e0, e1, e2, ?_⟩
  intro p16 w17
  have b16 : Bk w17 p16 #[.string (str (x.st (x.keep k)).a), .string (str (x.st (x.keep k)).b), .string (str (x.st (x.keep k)).c)] 77 := Bk.new w11 _ _
  have k17 : Keep no w11 w17 := Keep.alloc _ _ _
  clear_value p16 w17
  have c10 := b10.no k17
  refine ⟨c10.wrN (by simp), ?_⟩
  intro w18
  have d10 : Bk w18 p10 #[.slice (some ⟨p16, 0, none⟩) 1 1, .int .i64 0, .bool false, .int .i64 0] 26 := c10.setAll rfl
  have k18 : Keep (is p10) w17 w18 := setN_keep (S := is p10) (a := ⟨p10, 0, none⟩) rfl _ _ _
  have d16 : Bk w18 p16 _ _ := b16.keep k18 fun h => (b16.ty.ne c10.ty (by decide)) h
  clear_value w18
  refine ⟨_, _, _, _, _, _, d10.cell 0, d10.cell 1, d10.cell 2, d10.cell 3, ⟨some ⟨p16, 0, none⟩, 1, 1⟩, rfl, ⟨?_, ?_⟩, (k11.then k17).new k18 (by rintro y rfl; exact h10)⟩
  · exact Rd.blk d16 (n := 1) rfl (by simp [maxLen])
  · refine ⟨fun t ht => ?_, fun h => by cases h⟩
    have ht' : t ∈ [x.st (x.keep k)] := ht
    simp at ht'; rw [ht']; exact h.2.small _ (x.st_mem _)
end
end Go.Proofs.Ytmfidfaiopogbaa
/- What the law asks of a disk and its reference: Tells. -/
set_option linter.unusedVariables false
set_option linter.unusedSectionVars false
set_option linter.unusedSimpArgs false
set_option maxRecDepth 4000
namespace Go.Proofs.Ytmfidfaiopogbaa
open Go Go.Sh
variable [Av]

section
variable {w w' : World} {lo p : Nat} {q s : Sv} {x : A}
theorem DkR.kt (h : DkR w lo p q x) {b : Nat} (hb : dk p q b) : lo ≤ b ∧ (TyB w b 112 ∨ TyB w b 114) := by
  obtain ⟨d0, d1, d2, n0, n1, n2, dl, hB, _⟩ := h.ex
  obtain ⟨cs, ho, _⟩ := h.own
  rcases hb with rfl | hb
  · exact ⟨h.lo_, .inl hB.ty⟩
  · exact ⟨(own_ty ho hb).2, .inr (own_ty ho hb).1⟩
theorem DkR.lt (h : DkR w lo p q x) {b : Nat} (hb : dk p q b) : b < w.heap.size := (h.kt hb).2.elim TyB.lt TyB.lt
theorem DkR.nt (h : DkR w lo p q x) {b : Nat} (hb : dk p q b) {e : TypeId} (h1 : e ≠ 112) (h2 : e ≠ 114) : ¬ TyB w b e := fun ht =>
  (h.kt hb).2.elim (fun h => h1 (ht.uniq h)) (fun h => h2 (ht.uniq h))
theorem DkR.bk (h : DkR w lo p q x) (k : Keep (dk p q) w w') {b : Nat} {C : Array Value} {e : TypeId} (hb : Bk w b C e) (h1 : e ≠ 112) (h2 : e ≠ 114) : Bk w' b C e :=
  hb.keep k fun hd => h.nt hd h1 h2 hb.ty
theorem DkR.rs (h : DkR w lo p q x) (k : Keep (dk p q) w w') {r : Sv} {l : Bs} (hr : Rs w r l) : Rs w' r l := hr.keep k fun b hb => h.ty hb
theorem DkR.rf (h : DkR w lo p q x) (k : Keep (dk p q) w w') {y : A} (hr : RefR w s y) : RefR w' s y := hr.keep k fun b hb => h.nt hb (by decide) (by decide)
theorem DkR.low {lo' : Nat} (h : DkR w lo' p q x) (hl : lo ≤ lo') : DkR w lo p q x := by
  obtain ⟨cs, ho, hq, hP⟩ := h.own
  refine ⟨h.ex, ⟨cs, ?_, hq, hP⟩, Nat.le_trans hl h.lo_, h.av, h.ok⟩
  refine ⟨ho.1, ?_⟩
  rcases ho.2 with h2 | ⟨g, cap, cur, h1, hg0, hg, h3⟩
  · exact .inl h2
  · exact .inr ⟨g, cap, cur, h1, Nat.le_trans hl hg0, hg, h3⟩

omit [Av] in
theorem A.read_in (x : A) {f : Nat} (hf : f < 3) : x.read f = x.now.get f := by
  unfold A.read
  rw [if_pos (by omega), Int.toNat_natCast]
omit [Av] in
theorem A.read_out (x : A) {f : Int} (hf : f < 0 ∨ 3 ≤ f) : x.read f = [] := by
  unfold A.read
  rw [if_neg (by omega)]

theorem Tells_spec (h : DkR w lo p q x) (hr : RefR w s x) : Calls Try.prog 25 #[dp p, rV s x] w fun e w' => e = .returned (.bool true) ∧ Keep no w w' := by
  refine c25 ?_
  unfold sh25
  intro p6 w7
  have b6 : Bk w7 p6 #[s.v, .int .i64 x.raws, .bool x.armed, .int .i64 x.left] 26 := Bk.new w _ _
  have k7 : Keep no w w7 := Keep.alloc _ _ _
  clear_value p6 w7
  refine ⟨_, _, _, _, _, _, b6.cell 0, b6.cell 1, b6.cell 2, b6.cell 3, ?_⟩
  refine (nowR_spec (hr.no k7)).mono ?_
  rintro e w13 ⟨rfl, k13⟩
  refine ⟨_, _, _, rfl, ?_⟩
  intro p17 w18
  have b17 : Bk w18 p17 #[.string ⟨#[]⟩, .string ⟨#[]⟩, .string ⟨#[]⟩] 77 := Bk.new w13 _ _
  have k18 : Keep no w13 w18 := Keep.alloc _ _ _
  have h17 : w13.heap.size ≤ p17 := Nat.le_refl _
  clear_value p17 w18
  refine ⟨b17.wrN (by simp), ?_⟩
  intro w19
  have c17 : Bk w19 p17 #[.string (str x.now.a), .string (str x.now.b), .string (str x.now.c)] 77 := b17.setAll rfl
  have k19 : Keep (is p17) w18 w19 := setN_keep (S := is p17) (a := ⟨p17, 0, none⟩) rfl _ _ _
  clear_value w19
  have k19' : Keep no w13 w19 := k18.new k19 (by rintro y rfl; exact h17)
  have K19 : Keep no w w19 := (k7.then k13).then k19'
  have c6 := (b6.no k13).no k19'
  refine ⟨fun vs v => ∃ i : Nat, vs = [.bool false, .int .i64 i] ∧ i ≤ 3 ∧ Keep no w v ∧ Bk v p17 #[.string (str x.now.a), .string (str x.now.b), .string (str x.now.c)] 77 ∧ Bk v p6 #[s.v, .int .i64 x.raws, .bool x.armed, .int .i64 x.left] 26,
    fun vs v => match vs with | [_, .int _ i] => 3 - i.toNat | _ => 0, ⟨0, rfl, by omega, K19, c17, c6⟩, ?_⟩
  rintro w22 b20 f21 ⟨i, hv, hi, K22, d17, d6⟩
  cases hv
  refine cond_d (fun hlt => ?_) (fun hge => ?_)
  · have hi3 : i < 3 := by omega
    intro K47 w25
    have e17 : Bk w25 p17 _ _ := d17.drew
    have e6 : Bk w25 p6 _ _ := d6.drew
    have K25 : Keep no w w25 := K22.no (Keep.drew _ _)
    clear_value w25
    have hc : ∀ v, Bk v p17 #[.string (str x.now.a), .string (str x.now.b), .string (str x.now.c)] 77 → v.cell? ((⟨p17, 0, none⟩ : Addr).add ((i : Int).toNat * 1)) = some (.string (str (x.now.get i))) := by
      intro v hb
      rw [addP, Int.toNat_natCast, Nat.mul_one, Nat.zero_add, hb.cell]
      match i, hi3 with
      | 0, _ => rfl
      | 1, _ => rfl
      | 2, _ => rfl
    refine ⟨by omega, by omega, _, hc _ e17, ?_⟩
    refine (read_spec (h.no_ K25) i).mono ?_
    rintro e w28 ⟨r, rfl, hrr, _, k28⟩
    rw [x.read_in hi3] at hrr
    refine ⟨_, _, _, rfl, ⟨_, hc _ (e17.no k28), rfl⟩, ?_⟩
    refine rw_str Try.underlying36 Try.underlying5 Try.underlying9 hrr ?_
    rw [show ((str (x.now.get i)).toList == (str (x.now.get i)).toList) = true by simp]
    refine ⟨by omega, by omega, _, hc _ (e17.no k28), ?_⟩
    refine (size_spec (h.no_ (K25.then k28)) i).mono ?_
    rintro e w36 ⟨rfl, k36⟩
    rw [x.read_in hi3]
    refine ⟨_, rfl, ⟨_, hc _ ((e17.no k28).no k36), rfl⟩, ?_⟩
    have hne : (((x.now.get i).length : Int) != ((str (x.now.get i)).size : Nat)) = false := by rw [str_size]; simp
    rw [hne]
    have ei : IntKind.i64.wrap ((i : Int) + 1) = ((i + 1 : Nat) : Int) := by rw [IntWalk.i64_in _ ⟨by omega, by omega⟩]; rfl
    show _ ∧ _
    rw [ei]
    refine ⟨⟨i + 1, rfl, by omega, (K25.then k28).then k36, (e17.no k28).no k36, (e6.no k28).no k36⟩, ?_⟩
    show 3 - ((i + 1 : Nat) : Int).toNat < 3 - (i : Int).toNat
    omega
  · intro w48
    have e6 : Bk w48 p6 _ _ := d6.drew
    have K48 : Keep no w w48 := K22.no (Keep.drew _ _)
    clear_value w48
    refine (read_spec (h.no_ K48) (-1)).mono ?_
    rintro e w50 ⟨r1, rfl, hr1, _, k50⟩
    rw [x.read_out (by omega)] at hr1
    refine ⟨_, _, _, rfl, ?_⟩
    rw [Rb.len hr1]
    have K50 := K48.then k50
    refine (read_spec (h.no_ K50) 3).mono ?_
    rintro e w53 ⟨r2, rfl, hr2, _, k53⟩
    rw [x.read_out (by omega)] at hr2
    refine ⟨_, _, _, rfl, ?_⟩
    rw [Rb.len hr2]
    have K53 := K50.then k53
    refine (size_spec (h.no_ K53) 3).mono ?_
    rintro e w56 ⟨rfl, k56⟩
    rw [x.read_out (by omega)]
    refine ⟨_, rfl, ?_⟩
    have K56 := K53.then k56
    refine (size_spec (h.no_ K56) (-4611686018427387904)).mono ?_
    rintro e w59 ⟨rfl, k59⟩
    rw [x.read_out (by omega)]
    refine ⟨_, rfl, ?_⟩
    have K59 := K56.then k59
    have f6 := (((e6.no k50).no k53).no k56).no k59
    refine ⟨_, f6.cell 1, ?_⟩
    refine (raw_spec (h.no_ K59)).mono ?_
    rintro e w63 ⟨rfl, rfl⟩
    refine ⟨_, rfl, ⟨_, f6.cell 1, rfl⟩, ?_⟩
    rw [show (x.raws == x.raws) = true by simp]
    refine ⟨_, _, _, f6.cell 0, ?_⟩
    refine (pending_spec (h.no_ K59)).mono ?_
    rintro e w68 ⟨rfl, rfl⟩
    refine ⟨_, rfl, ⟨_, _, _, f6.cell 0, rfl⟩, ?_⟩
    rw [hr.wrap1, show ((x.rest.length : Int) == (x.rest.length : Int)) = true by simp]
    refine ⟨_, _, _, _, _, _, f6.cell 0, f6.cell 1, f6.cell 2, f6.cell 3, ?_⟩
    refine (dead_spec (h.no_ K59)).mono ?_
    rintro e w76 ⟨rfl, rfl⟩
    refine ⟨_, rfl, ⟨_, _, _, _, _, _, f6.cell 0, f6.cell 1, f6.cell 2, f6.cell 3, rfl⟩, ?_⟩
    refine (deadR_spec (hr.no K59)).mono ?_
    rintro e w83 ⟨rfl, k83⟩
    exact ⟨_, rfl, by simp, K59.then k83⟩
end
end Go.Proofs.Ytmfidfaiopogbaa
/- One call of a script: play. -/
set_option linter.unusedVariables false
set_option linter.unusedSectionVars false
set_option linter.unusedSimpArgs false
set_option maxRecDepth 4000
namespace Go.Proofs.Ytmfidfaiopogbaa
open Go Go.Sh
variable [Av]

/-- What a call leaves: a disk and its reference. -/
def Played (w w' : World) (lo p : Nat) (q : Sv) (n : Nat) (e : Ending) : Prop :=
  ∃ p' q' s' y, e = .returned (.tuple #[dp p', rV s' y, .bool true]) ∧ DkR w' lo p' q' y ∧ RefR w' s' y ∧ Keep (dk p q) w w' ∧ y.rest.length ≤ n + 1

omit [Av] in
theorem A.raw1_len (x : A) (f a : Nat) (l : Bs) (c : Bool) : (x.raw1 f a l c).rest.length ≤ x.rest.length + 1 := by
  unfold A.raw1; cases x.dead <;> simp [A.push]
omit [Av] in
theorem A.Write_len (x : A) (f off : Int) (l : Bs) : (x.Write f off l).1.rest.length ≤ x.rest.length + 1 := by
  unfold A.Write; split
  · split
    · simp
    · split
      · simp
      · exact x.raw1_len _ _ _ _
  · simp
omit [Av] in
theorem A.Cut_len (x : A) (f n : Int) : (x.Cut f n).1.rest.length ≤ x.rest.length + 1 := by
  unfold A.Cut; split
  · exact x.raw1_len _ _ _ _
  · simp
omit [Av] in
theorem A.Sync_len (x : A) : x.Sync.1.rest.length ≤ x.rest.length + 1 := by
  unfold A.Sync; cases x.dead <;> simp
omit [Av] in
theorem A.Arm_len (x : A) (n : Int) : (x.Arm n).1.rest.length ≤ x.rest.length + 1 := by
  unfold A.Arm; split
  · simp
  · cases x.dead <;> simp

section
variable {w w' : World} {lo p : Nat} {q s : Sv} {x : A}
theorem play_spec (h : DkR w lo p q x) (hr : RefR w s x) {k f a : Int} {b : Sv} {l : Bs} (hb : Ru w b l) (hlow : 0 < b.n → ∀ y, OB b.a y → y < lo) (hn : x.rest.length ≤ 999999) (ha : a ≤ 9223372036854775807) (hbn : b.n ≤ 140737488355328) (hlo : lo ≤ w.heap.size) :
    Calls Try.prog 28 #[dp p, rV s x, .agg #[.int .i64 k, .int .i64 f, .int .i64 a, b.v]] w fun e w' => Played w w' lo p q x.rest.length e := by
  refine c28 ?_
  unfold sh28
  intro p10 w11 p12 w13 p14 w15
  have b10 : Bk w15 p10 #[s.v, .int .i64 x.raws, .bool x.armed, .int .i64 x.left] 26 := ((Bk.new w _ _).alloc _).alloc _
  have b12 : Bk w15 p12 #[.int .i64 k, .int .i64 f, .int .i64 a, b.v] 38 := (Bk.new w11 _ _).alloc _
  have b14 : Bk w15 p14 #[.slice none 0 0, .int .i64 0, .bool false, .int .i64 0] 26 := Bk.new w13 _ _
  have k15 : Keep no w w15 := ((Keep.alloc no w _).then (Keep.alloc no w11 _)).then (Keep.alloc no w13 _)
  have h10 : w.heap.size ≤ p10 := Nat.le_refl _
  have h14 : w.heap.size ≤ p14 := by show w.heap.size ≤ w13.heap.size; simp [w13, w11]; omega
  have hne : p10 ≠ p14 := by show w.heap.size ≠ w13.heap.size; simp [w13, w11]; omega
  clear_value p10 p12 p14 w11 w13 w15
  have hp : p < w.heap.size := h.pmono
  intro K170
  -- the end of all calls but Crash
  have fin : ∀ (v : World) (q' s' : Sv) (y : A) (n : Int), DkR v lo p q' y → RefR v s' y → Keep (dk p q) w v → y.rest.length ≤ x.rest.length + 1 →
      Bk v p10 #[s'.v, .int .i64 y.raws, .bool y.armed, .int .i64 y.left] 26 → Bk v p14 #[.slice none 0 0, .int .i64 0, .bool false, .int .i64 0] 26 → K170 n n v := by
    intro v q' s' y n hd hr' hk hl c10 c14
    replace c10 : Bk v.drew p10 _ _ := c10.drew
    replace c14 : Bk v.drew p14 _ _ := c14.drew
    replace hd := hd.no_ (Keep.drew no v)
    replace hr' := hr'.no (Keep.drew no v)
    replace hk : Keep (dk p q) w v.drew := hk.no (Keep.drew no v)
    refine ⟨_, _, _, _, _, _, c10.cell 0, c10.cell 1, c10.cell 2, c10.cell 3, ?_⟩
    rw [show (n == n) = true by simp]
    refine ⟨_, _, _, _, _, _, c10.cell 0, c10.cell 1, c10.cell 2, c10.cell 3, ?_⟩
    refine (Tells_spec hd hr').mono ?_
    rintro e w181 ⟨rfl, k181⟩
    have d10 := c10.no k181
    have d14 := c14.no k181
    obtain ⟨e0, e1, e2, e3, ew, f0, f1, f2, f3, kf⟩ := fin4 d10 d14 rfl
    refine ⟨_, rfl, ⟨_, _, _, _, _, _, e0, e1, e2, e3, rfl⟩, ew, _, _, _, _, _, _, f0, f1, f2, f3, p, q', s', y, rfl, ?_, ?_, ?_, hl⟩
    · refine (hd.no_ k181).keep kf ?_
      rintro z rfl
      exact ⟨fun hz => (hd.no_ k181).nt hz (by decide) (by decide) d14.ty, fun ht => absurd (ht.uniq d14.ty) (by decide)⟩
    · exact (hr'.no k181).keep kf (by rintro z rfl ht; exact absurd (ht.uniq d14.ty) (by decide))
    · exact (hk.no k181).new kf (by rintro z rfl; exact h14)
  clear_value K170
  have h15 := h.no_ k15
  have r15 := hr.no k15
  -- what all calls but Crash do: on the disk, then on the reference
  have dn : ∀ {z : World}, Keep no w z → Keep (dk p q) w z := fun k => k.mono fun _ _ h => h.elim
  refine ⟨_, b12.cell 0, ?_⟩
  refine cond_i (fun hk1 => ?_) (fun hk1 => ?_)
  · -- Write
    intro w17
    have c10 : Bk w17 p10 _ _ := b10.drew
    have c12 : Bk w17 p12 _ _ := b12.drew
    have c14 : Bk w17 p14 _ _ := b14.drew
    have k17 : Keep no w w17 := k15.no (Keep.drew _ _)
    clear_value w17
    refine ⟨_, c12.cell 1, _, c12.cell 2, _, _, _, c12.cell 3, ?_⟩
    intro p21 w22
    have o22 : w22.ownsRow w17.heap.size 5 1 (.slice (some ⟨p21, 0, none⟩) 0 0) 0 [] := lit_own w17 5 1 (Nat.le_refl _)
    have k22 : Keep no w17 w22 := Keep.alloc _ _ _
    clear_value p21 w22
    have d12 := c12.no k22
    have k22' := k17.then k22
    refine ⟨⟨_, d12.cell 1, rfl⟩, ⟨_, d12.cell 2, rfl⟩, ⟨_, _, _, d12.cell 3, rfl⟩, ?_⟩
    refine rw_append E36 o22 (hb.no k22') (bvs_one l) (by omega) (by simp only [maxLen]; omega) k22.size fun a28 c28 w27 o27 k27 _ => ?_
    rw [Nat.zero_add] at o27 ⊢
    have K27 : Keep no w17 w27 := k22.new k27 fun y hy => (own_ty (q := ⟨some ⟨p21, 0, none⟩, 0, 0⟩) o22 hy).2
    have d12' := c12.no K27
    refine ⟨⟨_, d12'.cell 1, rfl⟩, ⟨_, d12'.cell 2, rfl⟩, ?_⟩
    have KK := k17.then K27
    have hrow : Rs w27 ⟨a28, b.n, c28⟩ l := Rd.own o27 fun _ => h.av.up k17
    refine (Write_spec (h.no_ KK) f a hrow.u (by omega)).mono ?_
    rintro e w32 ⟨rfl, q', hd', kd, hq'⟩
    refine ⟨_, rfl, ?_⟩
    have h27 := h.no_ KK
    have e10 := h27.bk kd (c10.no K27) (by decide) (by decide)
    have e12 := h27.bk kd d12' (by decide) (by decide)
    have e14 := h27.bk kd (c14.no K27) (by decide) (by decide)
    have er := h27.rf kd (hr.no KK)
    have eb : Ru w32 b l := Rd.keep' (hb.no KK) kd fun h0 y hy ho => by have := (h27.kt hy).1; have := hlow h0 y ho; omega
    refine ⟨_, _, _, _, _, _, e10.cell 0, e10.cell 1, e10.cell 2, e10.cell 3, _, e12.cell 1, _, e12.cell 2, _, _, _, e12.cell 3, ?_⟩
    refine (WriteR_spec er f a eb (by omega)).mono ?_
    rintro e w42 ⟨s', rfl, hs', k42⟩
    refine ⟨_, _, _, _, _, _, _, rfl, (e10.no k42).wrN (by simp), ?_⟩
    intro w48
    have g10 : Bk w48 p10 #[s'.v, _, _, _] 26 := (e10.no k42).setAll rfl
    have k48 : Keep (is p10) w42 w48 := setN_keep (S := is p10) (a := ⟨p10, 0, none⟩) rfl _ _ _
    have t10 := (e10.no k42).ty
    have g14 : Bk w48 p14 _ _ := (e14.no k42).keep k48 fun h => hne h.symm
    clear_value w48
    refine fin w48 q' s' _ _ ((hd'.no_ k42).keep k48 ?_) (hs'.keep k48 ?_) ?_ (x.Write_len _ _ _) g10 g14
    · rintro z rfl
      exact ⟨fun hz => (hd'.no_ k42).nt hz (by decide) (by decide) t10, fun ht => absurd (ht.uniq t10) (by decide)⟩
    · rintro z rfl ht
      exact absurd (ht.uniq t10) (by decide)
    · exact (((dn KK).then kd).no k42).new k48 (by rintro z rfl; exact h10)
  refine cond_i (fun hk2 => ?_) (fun hk2 => ?_)
  · -- Cut
    refine ⟨_, b12.cell 1, _, b12.cell 2, ?_⟩
    refine (Cut_spec h15 f a (by omega)).mono ?_
    rintro e w32 ⟨rfl, q', hd', kd, hq'⟩
    refine ⟨_, rfl, ?_⟩
    have e10 := h15.bk kd b10 (by decide) (by decide)
    have e12 := h15.bk kd b12 (by decide) (by decide)
    have e14 := h15.bk kd b14 (by decide) (by decide)
    have er := h15.rf kd r15
    refine ⟨_, _, _, _, _, _, e10.cell 0, e10.cell 1, e10.cell 2, e10.cell 3, _, e12.cell 1, _, e12.cell 2, ?_⟩
    refine (CutR_spec er f a (by omega)).mono ?_
    rintro e w42 ⟨s', rfl, hs', k42⟩
    refine ⟨_, _, _, _, _, _, _, rfl, (e10.no k42).wrN (by simp), ?_⟩
    intro w48
    have g10 : Bk w48 p10 #[s'.v, _, _, _] 26 := (e10.no k42).setAll rfl
    have k48 : Keep (is p10) w42 w48 := setN_keep (S := is p10) (a := ⟨p10, 0, none⟩) rfl _ _ _
    have t10 := (e10.no k42).ty
    have g14 : Bk w48 p14 _ _ := (e14.no k42).keep k48 fun h => hne h.symm
    clear_value w48
    refine fin w48 q' s' _ _ ((hd'.no_ k42).keep k48 ?_) (hs'.keep k48 ?_) ?_ (x.Cut_len _ _) g10 g14
    · rintro z rfl
      exact ⟨fun hz => (hd'.no_ k42).nt hz (by decide) (by decide) t10, fun ht => absurd (ht.uniq t10) (by decide)⟩
    · rintro z rfl ht
      exact absurd (ht.uniq t10) (by decide)
    · exact (((dn k15).then kd).no k42).new k48 (by rintro z rfl; exact h10)
  refine cond_i (fun hk3 => ?_) (fun hk3 => ?_)
  · -- Sync
    refine (Sync_spec h15).mono ?_
    rintro e w32 ⟨rfl, q', hd', kd, hq'⟩
    refine ⟨_, rfl, ?_⟩
    have e10 := h15.bk kd b10 (by decide) (by decide)
    have e14 := h15.bk kd b14 (by decide) (by decide)
    have er := h15.rf kd r15
    refine ⟨_, _, _, _, _, _, e10.cell 0, e10.cell 1, e10.cell 2, e10.cell 3, ?_⟩
    refine (SyncR_spec er).mono ?_
    rintro e w42 ⟨s', rfl, hs', k42⟩
    refine ⟨_, _, _, _, _, _, _, rfl, (e10.no k42).wrN (by simp), ?_⟩
    intro w48
    have g10 : Bk w48 p10 #[s'.v, _, _, _] 26 := (e10.no k42).setAll rfl
    have k48 : Keep (is p10) w42 w48 := setN_keep (S := is p10) (a := ⟨p10, 0, none⟩) rfl _ _ _
    have t10 := (e10.no k42).ty
    have g14 : Bk w48 p14 _ _ := (e14.no k42).keep k48 fun h => hne h.symm
    clear_value w48
    refine fin w48 q' s' _ _ ((hd'.no_ k42).keep k48 ?_) (hs'.keep k48 ?_) ?_ x.Sync_len g10 g14
    · rintro z rfl
      exact ⟨fun hz => (hd'.no_ k42).nt hz (by decide) (by decide) t10, fun ht => absurd (ht.uniq t10) (by decide)⟩
    · rintro z rfl ht
      exact absurd (ht.uniq t10) (by decide)
    · exact (((dn k15).then kd).no k42).new k48 (by rintro z rfl; exact h10)
  refine cond_i (fun hk4 => ?_) (fun hk4 => ?_)
  · -- Arm
    refine ⟨_, b12.cell 2, ?_⟩
    refine (Arm_spec h15 a ha).mono ?_
    rintro e w32 ⟨rfl, q', hd', kd, hq'⟩
    refine ⟨_, rfl, ?_⟩
    have e10 := h15.bk kd b10 (by decide) (by decide)
    have e12 := h15.bk kd b12 (by decide) (by decide)
    have e14 := h15.bk kd b14 (by decide) (by decide)
    have er := h15.rf kd r15
    refine ⟨_, _, _, _, _, _, e10.cell 0, e10.cell 1, e10.cell 2, e10.cell 3, _, e12.cell 2, ?_⟩
    refine (ArmR_spec er a ha).mono ?_
    rintro e w42 ⟨s', rfl, hs', k42⟩
    refine ⟨_, _, _, _, _, _, _, rfl, (e10.no k42).wrN (by simp), ?_⟩
    intro w48
    have g10 : Bk w48 p10 #[s'.v, _, _, _] 26 := (e10.no k42).setAll rfl
    have k48 : Keep (is p10) w42 w48 := setN_keep (S := is p10) (a := ⟨p10, 0, none⟩) rfl _ _ _
    have t10 := (e10.no k42).ty
    have g14 : Bk w48 p14 _ _ := (e14.no k42).keep k48 fun h => hne h.symm
    clear_value w48
    refine fin w48 q' s' _ _ ((hd'.no_ k42).keep k48 ?_) (hs'.keep k48 ?_) ?_ (x.Arm_len _) g10 g14
    · rintro z rfl
      exact ⟨fun hz => (hd'.no_ k42).nt hz (by decide) (by decide) t10, fun ht => absurd (ht.uniq t10) (by decide)⟩
    · rintro z rfl ht
      exact absurd (ht.uniq t10) (by decide)
    · exact (((dn k15).then kd).no k42).new k48 (by rintro z rfl; exact h10)
  refine cond_i (fun hk5 => ?_) (fun hk5 => ?_)
  · -- Crash
    intro w100
    have c10 : Bk w100 p10 _ _ := b10.drew
    have c12 : Bk w100 p12 _ _ := b12.drew
    have c14 : Bk w100 p14 _ _ := b14.drew
    have k100 : Keep no w w100 := k15.no (Keep.drew _ _)
    clear_value w100
    refine ⟨_, _, _, _, _, _, c10.cell 0, c10.cell 1, c10.cell 2, c10.cell 3, ?_⟩
    intro p105 w106
    have b105 : Bk w106 p105 #[.slice none 0 0, .int .i64 0, .bool false, .int .i64 0] 26 := Bk.new w100 _ _
    have k106 : Keep no w100 w106 := Keep.alloc _ _ _
    have h105 : w100.heap.size ≤ p105 := Nat.le_refl _
    clear_value p105 w106
    have d10 := c10.no k106
    refine ⟨⟨_, _, _, _, _, _, d10.cell 0, d10.cell 1, d10.cell 2, d10.cell 3, rfl⟩, b105.wrN (by simp), ?_⟩
    intro w111
    have c105 : Bk w111 p105 #[s.v, .int .i64 x.raws, .bool x.armed, .int .i64 x.left] 26 := b105.setAll rfl
    have k111 : Keep (is p105) w106 w111 := setN_keep (S := is p105) (a := ⟨p105, 0, none⟩) rfl _ _ _
    clear_value w111
    intro w112
    have d105 : Bk w112 p105 _ _ := c105.drew
    have k112 : Keep no w100 w112 := (k106.new k111 (by rintro y rfl; exact h105)).no (Keep.drew _ _)
    clear_value w112
    have e10 := c10.no k112
    have e12 := c12.no k112
    have e14 := c14.no k112
    have K112 := k100.then k112
    have hp105 : w.heap.size ≤ p105 := Nat.le_trans k100.size h105
    refine ⟨_, e12.cell 2, _, _, _, _, _, _, e10.cell 0, e10.cell 1, e10.cell 2, e10.cell 3, _, e12.cell 2, ?_⟩
    refine (Crash_spec (h.no_ K112) a).mono ?_
    rintro e w120 ⟨p', rfl, hd', k120⟩
    have f10 := e10.no k120
    have f12 := e12.no k120
    refine ⟨_, rfl, ⟨_, _, _, _, _, _, f10.cell 0, f10.cell 1, f10.cell 2, f10.cell 3, rfl⟩, ⟨_, f12.cell 2, rfl⟩, ?_⟩
    have K120 := K112.then k120
    refine (CrashR_spec (hr.no K120) a).mono ?_
    rintro e w128 ⟨s', rfl, hs', k128⟩
    have g10 := f10.no k128
    refine ⟨_, _, _, _, _, _, rfl, g10.wrN (by simp), ?_⟩
    have g14 := (e14.no k120).no k128
    have g105 := (d105.no k120).no k128
    have hne2 : p105 ≠ p10 := by have := c10.lt; omega
    intro w133
    have i10 : Bk w133 p10 #[s'.v, _, _, _] 26 := g10.setAll rfl
    have k133 : Keep (is p10) w128 w133 := setN_keep (S := is p10) (a := ⟨p10, 0, none⟩) rfl _ _ _
    have i14 : Bk w133 p14 _ _ := g14.keep k133 fun h => hne h.symm
    have i105 : Bk w133 p105 _ _ := g105.keep k133 hne2
    clear_value w133
    intro w134
    replace k133 : Keep (is p10) w128 w134 := k133.no (Keep.drew _ _)
    have j10 : Bk w134 p10 _ _ := i10.drew
    have j14 : Bk w134 p14 _ _ := i14.drew
    have j105 : Bk w134 p105 _ _ := i105.drew
    clear_value w134
    have K134 : Keep no w w134 := (K120.then k128).new k133 (by rintro z rfl; exact h10)
    have hd134 : DkR w134 w112.heap.size p' ⟨none, 0, 0⟩ (x.Crash a) := (hd'.no_ k128).keep k133 (by
      rintro z rfl
      exact ⟨fun hz => (hd'.no_ k128).nt hz (by decide) (by decide) g10.ty, fun ht => absurd (ht.uniq g10.ty) (by decide)⟩)
    have hs134 : RefR w134 s' (x.Crash a) := hs'.keep k133 (by rintro z rfl ht; exact absurd (ht.uniq g10.ty) (by decide))
    refine ⟨_, _, _, _, _, _, j10.cell 0, j10.cell 1, j10.cell 2, j10.cell 3, ?_⟩
    refine ⟨_, _, _, _, _, _, j10.cell 0, j10.cell 1, j10.cell 2, j10.cell 3, ?_⟩
    refine (Tells_spec hd134 hs134).mono ?_
    rintro e w144 ⟨rfl, k144⟩
    have l10 := j10.no k144
    have l105 := j105.no k144
    have K144 := K134.then k144
    refine ⟨_, rfl, ⟨_, _, _, _, _, _, l10.cell 0, l10.cell 1, l10.cell 2, l10.cell 3, rfl⟩, ?_⟩
    refine ⟨_, _, _, _, _, _, l105.cell 0, l105.cell 1, l105.cell 2, l105.cell 3, ?_⟩
    refine (Tells_spec (h.no_ K144) (hr.no K144)).mono ?_
    rintro e w155 ⟨rfl, k155⟩
    have m10 := l10.no k155
    have m14 := (j14.no k144).no k155
    obtain ⟨e0, e1, e2, e3, ew, f0, f1, f2, f3, kf⟩ := fin4 m10 m14 rfl
    have hd155 := (hd134.no_ k144).no_ k155
    refine ⟨_, rfl, ⟨_, _, _, _, _, _, e0, e1, e2, e3, rfl⟩, ew, _, _, _, _, _, _, f0, f1, f2, f3, p', ⟨none, 0, 0⟩, s', x.Crash a, rfl, ?_, ?_, ?_, ?_⟩
    · refine (hd155.keep kf ?_).low (Nat.le_trans hlo K112.size)
      rintro z rfl
      exact ⟨fun hz => hd155.nt hz (by decide) (by decide) m14.ty, fun ht => absurd (ht.uniq m14.ty) (by decide)⟩
    · exact ((hs134.no k144).no k155).keep kf (by rintro z rfl ht; exact absurd (ht.uniq m14.ty) (by decide))
    · exact dn ((K144.then k155).new kf (by rintro z rfl; exact h14))
    · simp [A.Crash]
  · exact fin w15 q s x 0 h15 r15 (dn k15) (by omega) b10 b14
end
end Go.Proofs.Ytmfidfaiopogbaa
