/- Contracts of the disk's functions. -/
import Derived.Test.YtmfidfaiopogbaaShTD
import Derived.Test.YtmfidfaiopogbaaShLib
import Derived.IntWalk
set_option linter.unusedVariables false
set_option linter.unusedSectionVars false
set_option linter.unusedSimpArgs false
set_option maxRecDepth 4000
namespace Go.Proofs.Ytmfidfaiopogbaa
open Go Go.Sh
variable [Av]

omit [Av] in
theorem E36 : El Try.prog 36 5 1 1 := ⟨Try.underlying36, ⟨Try.t5, .int .u8 0, by kernel_rfl, rfl, rfl, rfl, rfl⟩, by decide⟩
omit [Av] in
theorem E110 : El Try.prog 110 114 4 48 := ⟨Try.underlying110, ⟨Try.t114, .agg #[.int .i64 0, .int .i64 0, .slice none 0 0, .bool false], by kernel_rfl, rfl, rfl, rfl, rfl⟩, by decide⟩

/-! ### Files -/
structure Fs where
  a : Bs
  b : Bs
  c : Bs
def Fs.get (x : Fs) : Nat → Bs
  | 0 => x.a
  | 1 => x.b
  | _ => x.c
def Fs.set (x : Fs) (f : Nat) (l : Bs) : Fs :=
  match f with
  | 0 => { x with a := l }
  | 1 => { x with b := l }
  | _ => { x with c := l }
/-- The bytes behind a raw write. -/
def wrt (old : Bs) (at_ : Nat) (b : Bs) (cut : Bool) : Bs :=
  bif !cut && decide ((old.take at_ ++ b).length < old.length) then (old.take at_ ++ b) ++ old.drop (old.take at_ ++ b).length else old.take at_ ++ b
structure Sv where
  a : Option Addr
  n : Nat
  c : Nat
abbrev Sv.v (s : Sv) : Value := .slice s.a s.n s.c
def Rs (w : World) (s : Sv) (l : Bs) : Prop := Rb w s.a s.n s.c l
theorem Rs.keep {w w' : World} {S : Nat → Prop} {s : Sv} {l : Bs} (h : Rs w s l) (k : Keep S w w') (hS : ∀ b, S b → ¬ TyB w b 5) : Rs w' s l := Rd.keep h k hS
def Ru (w : World) (s : Sv) (l : Bs) : Prop := Rd w 0 1 s.a s.n s.c (bvs l)
theorem Ru.len {w : World} {s : Sv} {l : Bs} (h : Ru w s l) : s.n = l.length := by have := h.1; simp at this; exact this.symm
theorem Ru.no {w w' : World} {s : Sv} {l : Bs} (h : Ru w s l) (k : Keep no w w') : Ru w' s l := Rd.no h k
theorem Rs.u {w : World} {s : Sv} {l : Bs} (h : Rs w s l) : Ru w s l := Rd.weak h
theorem Rs.no {w w' : World} {s : Sv} {l : Bs} (h : Rs w s l) (k : Keep no w w') : Rs w' s l := Rd.no h k
def getS (d0 d1 d2 : Sv) : Nat → Sv
  | 0 => d0
  | 1 => d1
  | _ => d2

/-! ### Clone, done -/
theorem clone_spec {w : World} {e2 : Nat} {a : Option Addr} {n c : Nat} {l : Bs} (h : Rd w e2 1 a n c (bvs l)) (hb : n ≤ 140737488355328) (hO : Old w) :
    Calls Try.prog 71 #[.slice a n c] w fun e w' => ∃ s : Sv, e = .returned s.v ∧ Rs w' s l ∧ w'.ownsRow w.heap.size 5 1 s.v s.n (bvs l) ∧ Keep no w w' ∧ s.n = n := by
  refine c71 ?_
  unfold sh71
  refine cond_i (fun hn => ?_) (fun hn => ?_)
  · have ha : a = none := by simpa using hn
    subst ha
    have h0 : n = 0 := by
      rcases Nat.eq_zero_or_pos n with h0 | h0
      · exact h0
      · obtain ⟨_, _, _, _, h, _⟩ := h.2.2.2 h0; cases h
    subst h0
    have hl : l = [] := List.eq_nil_of_length_eq_zero (by have := h.1; simpa using this)
    subst hl
    exact ⟨⟨none, 0, 0⟩, rfl, Rd.nil _ _ _, World.ownsRow_nil _ _ _ _, Keep.refl _ _, rfl⟩
  · intro p w1
    have ho : w1.ownsRow w.heap.size 5 1 (.slice (some ⟨p, 0, none⟩) 0 0) 0 [] := World.ownsRow_lit w #[] 0 (Nat.le_refl _) (by simp [maxLen]) rfl
    have k1 : Keep no w w1 := Keep.alloc no w _
    refine rw_append E36 ho (h.no k1) (bvs_one l) (by omega) (by simp only [maxLen]; omega) k1.size fun a2 c2 w' ho' hk hw => ?_
    rw [Nat.zero_add] at ho' ⊢
    refine ⟨⟨a2, n, c2⟩, rfl, Rd.own ho' fun _ => hO, ho', k1.new hk ?_, rfl⟩
    rintro x ⟨y, hy, rfl⟩
    cases hy; exact Nat.le_refl _

theorem Rb.take {w : World} {a : Option Addr} {n c : Nat} {l : Bs} (h : Rb w a n c l) {r : Nat} (hr : r ≤ n) : Rb w (subS a c 0 1) (r - 0) (c - 0) (l.take r) := by
  have := Rd.sub h (Nat.zero_le r) hr
  simpa [Rb, bvs, List.map_take] using this
theorem Rb.drop {w : World} {a : Option Addr} {n c : Nat} {l : Bs} (h : Rb w a n c l) {r : Nat} (hr : r ≤ n) : Rb w (subS a c r 1) (n - r) (c - r) (l.drop r) := by
  have := Rd.sub h hr (Nat.le_refl n)
  have e : n - r = (l.drop r).length := by rw [List.length_drop, h.len]
  have e2 : List.take ((n - r) * 1) (List.drop (r * 1) (bvs l)) = bvs (l.drop r) := by
    rw [Nat.mul_one, Nat.mul_one, List.take_of_length_le (by simp [h.len])]
    simp [bvs, List.map_drop]
  rw [e2] at this
  exact this

theorem done_spec {w : World} {x0 x1 x2 b : Sv} {X0 : Fs} {f : Nat} {at_ : Nat} {l : Bs} {cut : Bool} (h0 : Rs w x0 X0.a) (h1 : Rs w x1 X0.b) (h2 : Rs w x2 X0.c) (hb : Rs w b l)
    (hf : f < 3) (ha : at_ ≤ (X0.get f).length) (hs : (X0.get f).length ≤ 65536) (hl : l.length ≤ 65536) (hO : Old w) :
    Calls Try.prog 64 #[.agg #[x0.v, x1.v, x2.v], .agg #[.int .i64 f, .int .i64 at_, b.v, .bool cut]] w fun e w' =>
      ∃ y0 y1 y2 : Sv, e = .returned (.agg #[y0.v, y1.v, y2.v]) ∧ Rs w' y0 (X0.set f (wrt (X0.get f) at_ l cut)).a ∧ Rs w' y1 (X0.set f (wrt (X0.get f) at_ l cut)).b ∧
        Rs w' y2 (X0.set f (wrt (X0.get f) at_ l cut)).c ∧ Keep no w w' := by
  refine c64 ?_
  unfold sh64
  intro p8 w9 p10 w11 p12 w13
  have b8 : Bk w13 p8 #[x0.v, x1.v, x2.v] 109 := ((Bk.new w _ _).alloc _).alloc _
  have b10 : Bk w13 p10 #[.int .i64 f, .int .i64 at_, b.v, .bool cut] 114 := (Bk.new w9 _ _).alloc _
  have b12 : Bk w13 p12 #[.slice none 0 0, .slice none 0 0, .slice none 0 0] 109 := Bk.new w11 _ _
  have k13 : Keep no w w13 := ((Keep.alloc no w _).then (Keep.alloc no w9 _)).then (Keep.alloc no w11 _)
  have n8 : w.heap.size ≤ p8 := Nat.le_refl _
  have n10 : w.heap.size ≤ p10 := by show w.heap.size ≤ w9.heap.size; simp [w9]
  have n12 : w.heap.size ≤ p12 := by show w.heap.size ≤ w11.heap.size; simp [w11, w9]; omega
  have d8 : p8 ≠ p12 := by have := b8.lt; show w.heap.size ≠ w11.heap.size; simp [w11, w9]; omega
  clear_value p12 w13 p10 w11 p8 w9
  -- the file's slice
  have hsel : ∃ o : Sv, (#[x0.v, x1.v, x2.v] : Array Value)[f]? = some o.v ∧ Rs w o (X0.get f) := by
    match f, hf with
    | 0, _ => exact ⟨x0, rfl, h0⟩
    | 1, _ => exact ⟨x1, rfl, h1⟩
    | 2, _ => exact ⟨x2, rfl, h2⟩
  obtain ⟨o, ho, hro⟩ := hsel
  have hon : o.n = (X0.get f).length := Rb.len hro
  have ef : (⟨p8, 0, none⟩ : Addr).add ((f : Int).toNat * 1) = ⟨p8, f, none⟩ := by rw [addP]; simp
  refine ⟨f, b10.cell 0, by omega, by omega, o.a, o.n, o.c, by rw [ef, b8.cell]; exact ho, ?_⟩
  intro w16
  have hoc := hro.2.1
  replace b8 : Bk w16 p8 _ _ := b8.drew
  replace b10 : Bk w16 p10 _ _ := b10.drew
  replace b12 : Bk w16 p12 _ _ := b12.drew
  refine ⟨at_, b10.cell 1, by omega, by omega, b.a, b.n, b.c, b10.cell 2, ?_⟩
  have k16 : Keep no w w16 := k13.then (Keep.drew no w13)
  have rt : Rb w16 (subS o.a o.c 0 1) ((at_ : Int).toNat - 0) (o.c - 0) ((X0.get f).take at_) := Rb.take (hro.no k16) (by omega)
  refine (clone_spec rt (by omega) (hO.up k16)).mono ?_
  rintro e w20 ⟨s, rfl, hs20, hos, k20, hsn⟩
  refine ⟨s.a, s.n, s.c, rfl, ⟨b.a, b.n, b.c, (b10.no k20).cell 2, rfl⟩, ?_⟩
  have kw20 : Keep no w w20 := k16.then k20
  have hbn : b.n = l.length := Rb.len hb
  refine rw_append E36 hos (hb.no kw20) (bvs_one l) (by simp at hsn; omega) (by simp only [maxLen]; simp at hsn; omega) k20.size fun a25 c25 w24 ho24 k24 hw24 => ?_
  have hlo : w.heap.size ≤ w16.heap.size := k16.size
  have kw24 : Keep no w w24 := kw20.new k24 (by
    rintro y ⟨z, hz, rfl⟩
    rcases hos.2 with ⟨h, _⟩ | ⟨g, cap, cur, h, hg, _⟩
    · simp only [Value.slice.injEq] at h; rw [h.1] at hz; cases hz
    · simp only [Value.slice.injEq] at h; rw [h.1] at hz; cases hz; exact Nat.le_trans hlo hg)
  -- what the new row is told apart from
  have t5 : ∀ y, OB s.a y → TyB w20 y 5 := by
    rintro y ⟨z, hz, rfl⟩
    rcases hos.2 with ⟨h, _⟩ | ⟨g, cap, cur, h, _, hg, _⟩
    · simp only [Value.slice.injEq] at h; rw [h.1] at hz; cases hz
    · simp only [Value.slice.injEq] at h; rw [h.1] at hz; cases hz; exact ⟨cur, _, hg⟩
  have b8' : Bk w24 p8 #[x0.v, x1.v, x2.v] 109 := (b8.no k20).keep k24 fun h => (t5 _ h).ne (b8.no k20).ty (by decide) rfl
  have b10' : Bk w24 p10 #[.int .i64 f, .int .i64 at_, b.v, .bool cut] 114 := (b10.no k20).keep k24 fun h => (t5 _ h).ne (b10.no k20).ty (by decide) rfl
  have b12' : Bk w24 p12 #[.slice none 0 0, .slice none 0 0, .slice none 0 0] 109 := (b12.no k20).keep k24 fun h => (t5 _ h).ne (b12.no k20).ty (by decide) rfl
  have e24 : bvs ((X0.get f).take at_) ++ bvs l = bvs ((X0.get f).take at_ ++ l) := (bvs_append _ _).symm
  rw [e24] at ho24
  have hsn' : s.n = at_ := by rw [hsn]; simp
  rw [hsn', hbn] at ho24 ⊢
  intro K35
  -- the end: the file is laid in its place, the files are handed back
  have fin : ∀ (s' : Sv) (w' : World), Rs w' s' (wrt (X0.get f) at_ l cut) → Keep no w w' → Bk w' p8 #[x0.v, x1.v, x2.v] 109 → Bk w' p10 #[.int .i64 f, .int .i64 at_, b.v, .bool cut] 114 →
      Bk w' p12 #[.slice none 0 0, .slice none 0 0, .slice none 0 0] 109 → K35 s'.a s'.n s'.c w' := by
    intro s' w' hs' kw' c8 c10 c12
    refine ⟨f, c10.cell 0, by omega, by omega, ?_⟩
    rw [ef]
    refine ⟨c8.wr (by simp; omega), ?_⟩
    intro w37
    have c8' : Bk w37 p8 (#[x0.v, x1.v, x2.v].setIfInBounds f s'.v) 109 := c8.set f _
    have k37 : Keep no w w37 := kw'.new (Keep.set w' s'.v (S := is p8) (a := ⟨p8, f, none⟩) rfl) (by rintro y rfl; exact n8)
    have c12' : Bk w37 p12 #[.slice none 0 0, .slice none 0 0, .slice none 0 0] 109 := c12.set_ne (a := ⟨p8, f, none⟩) (fun h => d8 h.symm) _
    have hs37 : Rs w37 s' (wrt (X0.get f) at_ l cut) := hs'.keep (Keep.set w' s'.v (S := is p8) (a := ⟨p8, f, none⟩) rfl) (by rintro y rfl h; exact absurd (h.uniq c8.ty) (by decide))
    clear_value w37
    obtain ⟨y0, y1, y2, hy, r0, r1, r2⟩ : ∃ y0 y1 y2 : Sv, (#[x0.v, x1.v, x2.v].setIfInBounds f s'.v) = #[y0.v, y1.v, y2.v] ∧ Rs w37 y0 (X0.set f (wrt (X0.get f) at_ l cut)).a ∧
        Rs w37 y1 (X0.set f (wrt (X0.get f) at_ l cut)).b ∧ Rs w37 y2 (X0.set f (wrt (X0.get f) at_ l cut)).c := by
      match f, hf with
      | 0, _ => exact ⟨s', x1, x2, rfl, hs37, h1.no k37, h2.no k37⟩
      | 1, _ => exact ⟨x0, s', x2, rfl, h0.no k37, hs37, h2.no k37⟩
      | 2, _ => exact ⟨x0, x1, s', rfl, h0.no k37, h1.no k37, hs37⟩
    rw [hy] at c8'
    refine ⟨_, _, _, _, _, _, _, _, _, c8'.cell 0, c8'.cell 1, c8'.cell 2, c12'.wrN (by simp), ?_⟩
    intro w41
    have c12'' : Bk w41 p12 #[y0.v, y1.v, y2.v] 109 := c12'.setAll rfl
    have k41 : Keep (is p12) w37 w41 := setN_keep (S := is p12) (a := ⟨p12, 0, none⟩) rfl _ _ _
    have kk : Keep no w w41 := k37.new k41 (by rintro y rfl; exact n12)
    have nt : ∀ y, is p12 y → ¬ TyB w37 y 5 := by rintro y rfl h; exact absurd (h.uniq c12'.ty) (by decide)
    clear_value w41
    exact ⟨_, _, _, _, _, _, _, _, _, c12''.cell 0, c12''.cell 1, c12''.cell 2, y0, y1, y2, rfl, r0.keep k41 nt, r1.keep k41 nt, r2.keep k41 nt, kk⟩
  clear_value K35
  intro K29
  have htl : ((X0.get f).take at_ ++ l).length = at_ + l.length := by simp; omega
  refine ⟨cut, b10'.cell 3, ?_⟩
  cases cut with
  | true =>
    show K35 _ _ _ _
    exact fin ⟨a25, at_ + l.length, c25⟩ w24 (by
      have : wrt (X0.get f) at_ l true = (X0.get f).take at_ ++ l := rfl
      rw [this]; exact Rd.own ho24 fun _ => hO.up k16) kw24 b8' b10' b12'
  | false =>
    show K29 _ _
    refine cond_d (fun hlt => ?_) (fun hge => ?_)
    · have hlt' : at_ + l.length < (X0.get f).length := by omega
      refine ⟨by omega, by omega, ?_⟩
      have en : (((at_ + l.length : Nat) : Int).toNat) = at_ + l.length := Int.toNat_natCast _
      rw [en]
      have rd : Rb w24 (subS o.a o.c (at_ + l.length) 1) (o.n - (at_ + l.length)) (o.c - (at_ + l.length)) ((X0.get f).drop (at_ + l.length)) := Rb.drop (hro.no kw24) (by omega)
      refine rw_append E36 ho24 rd (bvs_one _) (by omega) (by simp only [maxLen]; omega) (Nat.le_trans k20.size k24.size) fun a32 c32 w31 ho31 k31 _ => ?_
      have t5' : ∀ y, OB a25 y → TyB w24 y 5 ∧ w.heap.size ≤ y := by
        rintro y ⟨z, hz, rfl⟩
        rcases ho24.2 with ⟨h, _⟩ | ⟨g, cap, cur, h, hg0, hg, _⟩
        · simp only [Value.slice.injEq] at h; rw [h.1] at hz; cases hz
        · simp only [Value.slice.injEq] at h; rw [h.1] at hz; cases hz; exact ⟨⟨cur, _, hg⟩, Nat.le_trans hlo hg0⟩
      have e31 : at_ + l.length + (o.n - (at_ + l.length)) = o.n := by omega
      rw [← bvs_append] at ho31
      refine fin ⟨a32, _, c32⟩ w31 ?_ (kw24.new k31 fun y h => (t5' y h).2) (b8'.keep k31 fun h => (t5' _ h).1.ne b8'.ty (by decide) rfl) (b10'.keep k31 fun h => (t5' _ h).1.ne b10'.ty (by decide) rfl) (b12'.keep k31 fun h => (t5' _ h).1.ne b12'.ty (by decide) rfl)
      have : wrt (X0.get f) at_ l false = ((X0.get f).take at_ ++ l) ++ (X0.get f).drop (at_ + l.length) := by
        unfold wrt
        rw [htl, show (!false && decide (at_ + l.length < (X0.get f).length)) = true by rw [Bool.not_false, Bool.true_and]; exact decide_eq_true hlt']
        rfl
      rw [this]
      exact Rd.own ho31 fun _ => hO.up k16
    · have : wrt (X0.get f) at_ l false = (X0.get f).take at_ ++ l := by
        unfold wrt
        rw [htl, show (!false && decide (at_ + l.length < (X0.get f).length)) = false by rw [Bool.not_false, Bool.true_and]; exact decide_eq_false (by omega)]
        rfl
      exact fin ⟨a25, at_ + l.length, c25⟩ w24 (by rw [this]; exact Rd.own ho24 fun _ => hO.up k16) kw24 b8' b10' b12'
end Go.Proofs.Ytmfidfaiopogbaa
