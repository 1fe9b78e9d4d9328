/- Contracts of the reference's functions. -/
import Derived.Test.YtmfidfaiopogbaaShDisk4
set_option linter.unusedVariables false
set_option linter.unusedSectionVars false
set_option linter.unusedSimpArgs false
set_option maxRecDepth 4000
namespace Go.Proofs.Ytmfidfaiopogbaa
open Go Go.Sh
variable [Av]

omit [Av] in
theorem E24 : El Try.prog 24 77 3 48 := ⟨Try.underlying24, ⟨Try.t77, .agg #[.string ⟨#[]⟩, .string ⟨#[]⟩, .string ⟨#[]⟩], by kernel_rfl, rfl, rfl, rfl, rfl⟩, by decide⟩

omit [Av] in
theorem run_ix (w : World) (x : Fs) (f : Nat) (hf : f < 3) :
    (Instr.index 77 (.agg #[.string (str x.a), .string (str x.b), .string (str x.c)]) (.int .i64 (f : Nat))).run Try.prog w = .ok (.string (str (x.get f))) w := by
  have h9 : Try.prog.info? 9 = some Try.t9 := by kernel_rfl
  have hs : Try.t9.size = 1 := rfl
  have hk : isAgg 9 = isAgg 9 := rfl
  match f, hf with
  | 0, _ => simp [Instr.index, asIntOf, run_underlying Try.underlying77, part, isAgg, run_underlying Try.underlying9, sizeOf, typeInfo, Fs.get, h9, hs]
  | 1, _ => simp [Instr.index, asIntOf, run_underlying Try.underlying77, part, isAgg, run_underlying Try.underlying9, sizeOf, typeInfo, Fs.get, h9, hs]
  | 2, _ => simp [Instr.index, asIntOf, run_underlying Try.underlying77, part, isAgg, run_underlying Try.underlying9, sizeOf, typeInfo, Fs.get, h9, hs]
omit [Av] in
theorem rw_ix {w : World} {x : Fs} {f : Int} (h0 : 0 ≤ f) (h3 : f < 3) {K : ByteArray → Prop} (hK : K (str (x.get f.toNat))) :
    RunWp Try.prog (Instr.index 77 (.agg #[.string (str x.a), .string (str x.b), .string (str x.c)]) (.int .i64 f)) (fun v w' => w' = w ∧ ∃ s : ByteArray, v = .string s ∧ K s) w := by
  obtain ⟨g, rfl⟩ := Int.eq_ofNat_of_zero_le h0
  exact RunWp.of (run_ix w x g (by omega)) ⟨rfl, _, rfl, hK⟩

/-! ### The states -/
def stv : List Fs → List Value
  | [] => []
  | s :: r => .string (str s.a) :: .string (str s.b) :: .string (str s.c) :: stv r
omit [Av] in
theorem stv_length : ∀ l : List Fs, (stv l).length = l.length * 3
  | [] => rfl
  | s :: r => by simp [stv, stv_length r]; omega
omit [Av] in
theorem stv_append : ∀ l m : List Fs, stv (l ++ m) = stv l ++ stv m
  | [], m => rfl
  | s :: r, m => by simp [stv, stv_append r m]
omit [Av] in
theorem stv_one : ∀ l : List Fs, ∀ u, u ∈ stv l → one1 u = true
  | [], u, h => by simp [stv] at h
  | s :: r, u, h => by
    simp only [stv, List.mem_cons] at h
    rcases h with rfl | rfl | rfl | h
    · rfl
    · rfl
    · rfl
    · exact stv_one r u h
omit [Av] in
theorem stv_at : ∀ (l : List Fs) (i : Nat) (d : Fs), i < l.length → (stv l)[i * 3]? = some (.string (str (l.getD i d).a)) ∧ (stv l)[i * 3 + 1]? = some (.string (str (l.getD i d).b)) ∧ (stv l)[i * 3 + 2]? = some (.string (str (l.getD i d).c))
  | [], i, d, h => by simp at h
  | s :: r, 0, d, h => ⟨rfl, rfl, rfl⟩
  | s :: r, i + 1, d, h => by
    have := stv_at r i d (by simpa using h)
    rw [Nat.add_mul, show i * 3 + 1 * 3 + 1 = (i * 3 + 1) + 3 by omega, show i * 3 + 1 * 3 + 2 = (i * 3 + 2) + 3 by omega]
    simpa [stv] using this

/-- The reference's disk. -/
abbrev rV (s : Sv) (x : A) : Value := .agg #[s.v, .int .i64 x.raws, .bool x.armed, .int .i64 x.left]
def RefR (w : World) (s : Sv) (x : A) : Prop := Rd w 77 3 s.a s.n s.c (stv (x.first :: x.rest)) ∧ x.ok
section
variable {w w' : World} {s : Sv} {x : A}
theorem RefR.len (h : RefR w s x) : s.n = x.rest.length + 1 := by have := h.1.1; rw [stv_length] at this; simp at this; omega
theorem RefR.keep {S : Nat → Prop} (h : RefR w s x) (k : Keep S w w') (hS : ∀ b, S b → ¬ TyB w b 77) : RefR w' s x := ⟨h.1.keep k hS, h.2⟩
theorem RefR.no (h : RefR w s x) (k : Keep no w w') : RefR w' s x := ⟨h.1.no k, h.2⟩
theorem RefR.state (h : RefR w s x) {i : Nat} (hi : i ≤ x.rest.length) : ∃ q, s.a = some q ∧ w.cell? (q.add (i * 3)) = some (.string (str (x.st i).a)) ∧
    w.cell? ((q.add (i * 3)).add 1) = some (.string (str (x.st i).b)) ∧ w.cell? ((q.add (i * 3)).add 2) = some (.string (str (x.st i).c)) := by
  have hn := h.len
  obtain ⟨q, hq, hc⟩ := h.1.at_ (i := i) (by omega)
  obtain ⟨e0, e1, e2⟩ := stv_at (x.first :: x.rest) i x.first (by simp; omega)
  refine ⟨q, hq, ?_, ?_, ?_⟩
  · obtain ⟨u, h1, h2⟩ := hc 0 (by omega)
    rw [Nat.add_zero, e0] at h1; cases h1; rw [addZ] at h2; exact h2
  · obtain ⟨u, h1, h2⟩ := hc 1 (by omega)
    rw [e1] at h1; cases h1; exact h2
  · obtain ⟨u, h1, h2⟩ := hc 2 (by omega)
    rw [e2] at h1; cases h1; exact h2
omit [Av] in
theorem A.st_last (x : A) : x.st x.rest.length = x.now := by
  unfold A.st A.now
  rw [List.getD_eq_getElem?_getD, List.getLastD_eq_getLast?]
  cases hx : x.rest with
  | nil => rfl
  | cons a r => simp [List.getLast?_eq_getElem?]
theorem RefR.now (h : RefR w s x) : ∃ q, s.a = some q ∧ w.cell? (q.add (x.rest.length * 3)) = some (.string (str x.now.a)) ∧
    w.cell? ((q.add (x.rest.length * 3)).add 1) = some (.string (str x.now.b)) ∧ w.cell? ((q.add (x.rest.length * 3)).add 2) = some (.string (str x.now.c)) := by
  have := h.state (Nat.le_refl _)
  rwa [A.st_last] at this
theorem RefR.wrap1 (h : RefR w s x) : IntKind.i64.wrap ((s.n : Int) - 1) = (x.rest.length : Int) := by
  have h1 := h.len
  have h2 := h.1.2.1
  have h3 := h.1.2.2.1
  simp only [maxLen] at h3
  rw [IntWalk.i64_in _ ⟨by omega, by omega⟩]; omega

omit [Av] in
/-- The end of a function that answers a disk from its own block. -/
theorem fin4 {p8 p10 : Nat} {a b c d : Value} {C : Array Value} {e : TypeId} (h8 : Bk w p8 #[a, b, c, d] e) (h10 : Bk w p10 C e) (hC : C.size = 4) :
    w.cell? ⟨p8, 0, none⟩ = some a ∧ w.cell? ⟨p8, 1, none⟩ = some b ∧ w.cell? ⟨p8, 2, none⟩ = some c ∧ w.cell? ⟨p8, 3, none⟩ = some d ∧ wrN w ⟨p10, 0, none⟩ 4 ∧
      (setN ⟨p10, 0, none⟩ 0 [a, b, c, d] w).cell? ⟨p10, 0, none⟩ = some a ∧ (setN ⟨p10, 0, none⟩ 0 [a, b, c, d] w).cell? ⟨p10, 1, none⟩ = some b ∧
      (setN ⟨p10, 0, none⟩ 0 [a, b, c, d] w).cell? ⟨p10, 2, none⟩ = some c ∧ (setN ⟨p10, 0, none⟩ 0 [a, b, c, d] w).cell? ⟨p10, 3, none⟩ = some d ∧
      Keep (is p10) w (setN ⟨p10, 0, none⟩ 0 [a, b, c, d] w) := by
  have h := h10.setAll (vs := [a, b, c, d]) (by rw [hC]; rfl)
  exact ⟨h8.cell 0, h8.cell 1, h8.cell 2, h8.cell 3, h10.wrN (by rw [hC]; decide), h.cell 0, h.cell 1, h.cell 2, h.cell 3, setN_keep (S := is p10) (a := ⟨p10, 0, none⟩) rfl _ _ _⟩

omit [Av] in
theorem isR_spec (w : World) (f : Int) : Calls Try.prog 74 #[.int .i64 f] w fun e w' => e = .returned (.bool (decide (0 ≤ f ∧ f < 3))) ∧ w' = w := by
  refine c74 ?_
  unfold sh74
  refine cond_d (fun h => ?_) (fun h => ?_)
  · refine ⟨?_, rfl⟩
    congr 2
    simp; omega
  · refine ⟨?_, rfl⟩
    rw [decide_eq_false (by omega)]

theorem nowR_spec (h : RefR w s x) : Calls Try.prog 65 #[rV s x] w fun e w' => e = .returned (.agg #[.string (str x.now.a), .string (str x.now.b), .string (str x.now.c)]) ∧ Keep no w w' := by
  refine c65 ?_
  unfold sh65
  intro p5 w6 p7 w8
  have b5 : Bk w8 p5 #[s.v, .int .i64 x.raws, .bool x.armed, .int .i64 x.left] 26 := (Bk.new w _ _).alloc _
  have b7 : Bk w8 p7 #[.string ⟨#[]⟩, .string ⟨#[]⟩, .string ⟨#[]⟩] 77 := Bk.new w6 _ _
  have k8 : Keep no w w8 := (Keep.alloc no w _).then (Keep.alloc no w6 _)
  have h7 : w.heap.size ≤ p7 := by show w.heap.size ≤ w6.heap.size; simp [w6]
  clear_value p5 p7 w6 w8
  obtain ⟨q, hq, e0, e1, e2⟩ := (h.no k8).now
  refine ⟨s.a, s.n, s.c, b5.cell 0, s.a, s.n, s.c, b5.cell 0, q, hq, ?_⟩
  rw [h.wrap1, Int.toNat_natCast]
  have hn := h.len
  refine ⟨by omega, by omega, _, _, _, e0, e1, e2, b7.wrN (by simp), ?_⟩
  intro w15
  have b7' : Bk w15 p7 #[.string (str x.now.a), .string (str x.now.b), .string (str x.now.c)] 77 := b7.setAll rfl
  have k15 : Keep (is p7) w8 w15 := setN_keep (S := is p7) (a := ⟨p7, 0, none⟩) rfl _ _ _
  clear_value w15
  exact ⟨_, _, _, b7'.cell 0, b7'.cell 1, b7'.cell 2, rfl, k8.new k15 (by rintro y rfl; exact h7)⟩

theorem deadR_spec (h : RefR w s x) : Calls Try.prog 66 #[rV s x] w fun e w' => e = .returned (.bool x.dead) ∧ Keep no w w' := by
  refine c66 ?_
  unfold sh66
  intro p5 w6
  have b5 : Bk w6 p5 #[s.v, .int .i64 x.raws, .bool x.armed, .int .i64 x.left] 26 := Bk.new w _ _
  have k6 : Keep no w w6 := Keep.alloc no w _
  clear_value p5 w6
  refine ⟨_, b5.cell 2, ?_⟩
  unfold A.dead
  cases hx : x.armed with
  | false => exact ⟨rfl, k6⟩
  | true =>
    refine ⟨_, b5.cell 3, ?_, k6⟩
    have := h.2.left hx
    congr 2
    rw [Bool.true_and, Bool.eq_iff_iff]; simp; omega

theorem stepR_spec (h : RefR w s x) : Calls Try.prog 96 #[rV s x] w fun e w' => e = .returned (rV s x.stepped) ∧ Keep no w w' := by
  refine c96 ?_
  unfold sh96
  intro p5 w6 p7 w8
  have b5 : Bk w8 p5 #[s.v, .int .i64 x.raws, .bool x.armed, .int .i64 x.left] 26 := (Bk.new w _ _).alloc _
  have b7 : Bk w8 p7 #[.slice none 0 0, .int .i64 0, .bool false, .int .i64 0] 26 := Bk.new w6 _ _
  have k8 : Keep no w w8 := (Keep.alloc no w _).then (Keep.alloc no w6 _)
  have h5 : w.heap.size ≤ p5 := Nat.le_refl _
  have h7 : w.heap.size ≤ p7 := by show w.heap.size ≤ w6.heap.size; simp [w6]
  have h57 : p5 ≠ p7 := by show w.heap.size ≠ w6.heap.size; simp [w6]
  clear_value p5 p7 w6 w8
  intro K13
  have fin : ∀ w', Bk w' p5 #[s.v, .int .i64 x.raws, .bool x.armed, .int .i64 x.stepped.left] 26 → Bk w' p7 #[.slice none 0 0, .int .i64 0, .bool false, .int .i64 0] 26 → Keep no w w' → K13 w' := by
    intro w' c5 c7 k
    obtain ⟨e0, e1, e2, e3, ew, f0, f1, f2, f3, kf⟩ := fin4 c5 c7 rfl
    exact ⟨_, _, _, _, _, _, e0, e1, e2, e3, ew, _, _, _, _, _, _, f0, f1, f2, f3, rfl, k.new kf (by rintro y rfl; exact h7)⟩
  clear_value K13
  refine ⟨_, b5.cell 2, ?_⟩
  cases hx : x.armed with
  | false =>
    refine fin w8 ?_ b7 k8
    rw [hx] at b5
    have : x.stepped.left = x.left := by unfold A.stepped; simp [hx]
    rw [this, hx]; exact b5
  | true =>
    refine ⟨_, b5.cell 3, b5.wr (by simp), ?_⟩
    intro w11
    have hl := h.2.left hx
    have : x.stepped.left = x.left - 1 := by unfold A.stepped; simp [hx]
    refine fin w11 ?_ (b7.set_ne (a := ⟨p5, 3, none⟩) (fun h => h57 h.symm) _) (k8.new (Keep.set (S := is p5) w8 _ rfl) (by rintro y rfl; exact h5))
    rw [this]
    have := b5.set 3 (.int .i64 (IntKind.i64.wrap (x.left - 1)))
    rw [IntWalk.i64_in _ ⟨by omega, by omega⟩] at this
    have e : w11 = w8.setCell ⟨p5, 3, none⟩ (.int .i64 (x.left - 1)) := by
      show w8.setCell _ _ = _
      rw [IntWalk.i64_in _ ⟨by omega, by omega⟩]
    rw [e]; exact this
end
theorem newR_spec (w : World) : Calls Try.prog 63 #[] w fun e w' => ∃ s, e = .returned (rV s ⟨⟨[], [], []⟩, [], 0, false, 0⟩) ∧ RefR w' s ⟨⟨[], [], []⟩, [], 0, false, 0⟩ ∧ Keep no w w' ∧
    ∃ b, s = ⟨some ⟨b, 0, none⟩, 1, 1⟩ ∧ w.heap.size ≤ b ∧ Bk w' b #[.string ⟨#[]⟩, .string ⟨#[]⟩, .string ⟨#[]⟩] 77 := by
  refine c63 ?_
  unfold sh63
  intro p1 w2
  have b1 : Bk w2 p1 #[.slice none 0 0, .int .i64 0, .bool false, .int .i64 0] 26 := Bk.new w _ _
  have k2 : Keep no w w2 := Keep.alloc _ _ _
  have h1 : w.heap.size ≤ p1 := Nat.le_refl _
  clear_value p1 w2
  obtain ⟨i, z, hi, hz, h2, h3, h4⟩ := E24.el
  have hz' : z = .agg #[.string ⟨#[]⟩, .string ⟨#[]⟩, .string ⟨#[]⟩] := by
    have e1 : Try.prog.info? 77 = some Try.t77 := by kernel_rfl
    rw [e1] at hi; cases hi
    have e2 : Try.t77.zero = some (.agg #[.string ⟨#[]⟩, .string ⟨#[]⟩, .string ⟨#[]⟩]) := rfl
    rw [e2] at hz; cases hz; rfl
  refine RunWp.of (run_make w2 24 77 i z E24.sl hi hz .i64 .i64 1 1 (by omega) (by omega) (by omega) (by omega)) ?_
  have hm : madeCells z.cells ((1 : Int).toNat * i.size) = #[.string ⟨#[]⟩, .string ⟨#[]⟩, .string ⟨#[]⟩] := by rw [hz', h2]; kernel_rfl
  rw [hm]
  have bn : Bk (w2.alloc (.cells #[.string ⟨#[]⟩, .string ⟨#[]⟩, .string ⟨#[]⟩] 77)) w2.heap.size #[.string ⟨#[]⟩, .string ⟨#[]⟩, .string ⟨#[]⟩] 77 := Bk.new _ _ _
  have b1' := b1.alloc (.cells #[.string ⟨#[]⟩, .string ⟨#[]⟩, .string ⟨#[]⟩] 77)
  have k3 : Keep no w2 (w2.alloc (.cells #[.string ⟨#[]⟩, .string ⟨#[]⟩, .string ⟨#[]⟩] 77)) := Keep.alloc _ _ _
  refine ⟨_, _, _, rfl, b1'.wrN (by simp), ?_⟩
  generalize w2.alloc (.cells #[.string ⟨#[]⟩, .string ⟨#[]⟩, .string ⟨#[]⟩] 77) = w4 at *
  have hg : w.heap.size ≤ w2.heap.size := k2.size
  have hne : w2.heap.size ≠ p1 := by have := b1.lt; omega
  generalize w2.heap.size = g at *
  intro w6
  have b6 : Bk w6 p1 #[.slice (some ⟨g, 0, none⟩) 1 1, .int .i64 0, .bool false, .int .i64 0] 26 := b1'.setAll rfl
  have k6 : Keep (is p1) w4 w6 := setN_keep (S := is p1) (a := ⟨p1, 0, none⟩) rfl _ _ _
  clear_value w6
  have bn' : Bk w6 g _ _ := bn.keep k6 hne
  refine ⟨_, _, _, _, _, _, b6.cell 0, b6.cell 1, b6.cell 2, b6.cell 3, ⟨some ⟨g, 0, none⟩, 1, 1⟩, rfl, ⟨?_, ?_⟩, (k2.then k3).new k6 (by rintro y rfl; exact h1), g, rfl, hg, bn'⟩
  · exact Rd.blk bn' rfl (by simp [maxLen])
  · refine ⟨fun s hs => ?_, fun h => by cases h⟩
    simp at hs; subst hs
    exact ⟨by simp, by simp, by simp⟩
end Go.Proofs.Ytmfidfaiopogbaa
