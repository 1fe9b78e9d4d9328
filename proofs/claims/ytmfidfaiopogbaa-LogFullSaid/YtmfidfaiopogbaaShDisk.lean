/- Contracts of the disk's functions. -/
import Derived.Test.YtmfidfaiopogbaaShTD
import Derived.Test.YtmfidfaiopogbaaShLib
import Derived.IntWalk
set_option linter.unusedVariables false
set_option linter.unusedSectionVars false
set_option linter.unusedSimpArgs false
set_option maxRecDepth 4000
namespace Go.Proofs.Ytmfidfaiopogbaa
open Go Go.Sh
variable [Av]

omit [Av] in
theorem E36 : El Try.prog 36 5 1 1 := ⟨Try.underlying36, ⟨Try.t5, .int .u8 0, by kernel_rfl, rfl, rfl, rfl, rfl⟩, by decide⟩
omit [Av] in
theorem E110 : El Try.prog 110 114 4 48 := ⟨Try.underlying110, ⟨Try.t114, .agg #[.int .i64 0, .int .i64 0, .slice none 0 0, .bool false], by kernel_rfl, rfl, rfl, rfl, rfl⟩, by decide⟩

/-! ### Files -/
structure Fs where
  a : Bs
  b : Bs
  c : Bs
def Fs.get (x : Fs) : Nat → Bs
  | 0 => x.a
  | 1 => x.b
  | _ => x.c
def Fs.set (x : Fs) (f : Nat) (l : Bs) : Fs :=
  match f with
  | 0 => { x with a := l }
  | 1 => { x with b := l }
  | _ => { x with c := l }
/-- The bytes behind a raw write. -/
def wrt (old : Bs) (at_ : Nat) (b : Bs) (cut : Bool) : Bs :=
  bif !cut && decide ((old.take at_ ++ b).length < old.length) then (old.take at_ ++ b) ++ old.drop (old.take at_ ++ b).length else old.take at_ ++ b
structure Sv where
  a : Option Addr
  n : Nat
  c : Nat
abbrev Sv.v (s : Sv) : Value := .slice s.a s.n s.c
def Rs (w : World) (s : Sv) (l : Bs) : Prop := Rb w s.a s.n s.c l
theorem Rs.keep {w w' : World} {S : Nat → Prop} {s : Sv} {l : Bs} (h : Rs w s l) (k : Keep S w w') (hS : ∀ b, S b → ¬ TyB w b 5) : Rs w' s l := Rd.keep h k hS
def Ru (w : World) (s : Sv) (l : Bs) : Prop := Rd w 0 1 s.a s.n s.c (bvs l)
theorem Ru.len {w : World} {s : Sv} {l : Bs} (h : Ru w s l) : s.n = l.length := by have := h.1; simp at this; exact this.symm
theorem Ru.no {w w' : World} {s : Sv} {l : Bs} (h : Ru w s l) (k : Keep no w w') : Ru w' s l := Rd.no h k
theorem Rs.u {w : World} {s : Sv} {l : Bs} (h : Rs w s l) : Ru w s l := Rd.weak h
theorem Rs.no {w w' : World} {s : Sv} {l : Bs} (h : Rs w s l) (k : Keep no w w') : Rs w' s l := Rd.no h k
def getS (d0 d1 d2 : Sv) : Nat → Sv
  | 0 => d0
  | 1 => d1
  | _ => d2

/-! ### Clone, done -/
theorem clone_spec {w : World} {e2 : Nat} {a : Option Addr} {n c : Nat} {l : Bs} (h : Rd w e2 1 a n c (bvs l)) (hb : n ≤ 140737488355328) (hO : Old w) :
    Calls Try.prog 71 #[.slice a n c] w fun e w' => ∃ s : Sv, e = .returned s.v ∧ Rs w' s l ∧ w'.ownsRow w.heap.size 5 1 s.v s.n (bvs l) ∧ Keep no w w' ∧ s.n = n := by
  refine c71 ?_
  unfold sh71
  refine cond_i (fun hn => ?_) (fun hn => ?_)
  · have ha : a = none := by simpa using hn
    subst ha
    have h0 : n = 0 := by
      rcases Nat.eq_zero_or_pos n with h0 | h0
      · exact h0
      · obtain ⟨_, _, _, _, h, _⟩ := h.2.2.2 h0; cases h
    subst h0
    have hl : l = [] := List.eq_nil_of_length_eq_zero (by have := h.1; simpa using this)
    subst hl
    exact ⟨⟨none, 0, 0⟩, rfl, Rd.nil _ _ _, World.ownsRow_nil _ _ _ _, Keep.refl _ _, rfl⟩
  · intro p w1
    have ho : w1.ownsRow w.heap.size 5 1 (.slice (some ⟨p, 0, none⟩) 0 0) 0 [] := World.ownsRow_lit w #[] 0 (Nat.le_refl _) (by simp [maxLen]) rfl
    have k1 : Keep no w w1 := Keep.alloc no w _
    refine rw_append E36 ho (h.no k1) (bvs_one l) (by omega) (by simp only [maxLen]; omega) k1.size fun a2 c2 w' ho' hk hw => ?_
    rw [Nat.zero_add] at ho' ⊢
    refine ⟨⟨a2, n, c2⟩, rfl, Rd.own ho' fun _ => hO, ho', k1.new hk ?_, rfl⟩
    rintro x ⟨y, hy, rfl⟩
    cases hy; exact Nat.le_refl _

theorem Rb.take {w : World} {a : Option Addr} {n c : Nat} {l : Bs} (h : Rb w a n c l) {r : Nat} (hr : r ≤ n) : Rb w (subS a c 0 1) (r - 0) (c - 0) (l.take r) := by
  have := Rd.sub h (Nat.zero_le r) hr
  simpa [Rb, bvs, List.map_take] using this
theorem Rb.drop {w : World} {a : Option Addr} {n c : Nat} {l : Bs} (h : Rb w a n c l) {r : Nat} (hr : r ≤ n) : Rb w (subS a c r 1) (n - r) (c - r) (l.drop r) := by
  have := Rd.sub h hr (Nat.le_refl n)
  have e : n - r = (l.drop r).length := by rw [List.length_drop, h.len]
  have e2 : List.take ((n - r) * 1) (List.drop (r * 1) (bvs l)) = bvs (l.drop r) := by
    rw [Nat.mul_one, Nat.mul_one, List.take_of_length_le (by simp [h.len])]
    simp [bvs, List.map_drop]
  rw [e2] at this
  exact this

theorem done_spec {w : World} {x0 x1 x2 b : Sv} {X0 : Fs} {f : Nat} {at_ : Nat} {l : Bs} {cut : Bool} (h0 : Rs w x0 X0.a) (h1 : Rs w x1 X0.b) (h2 : Rs w x2 X0.c) (hb : Rs w b l)
    (hf : f < 3) (ha : at_ ≤ (X0.get f).length) (hs : (X0.get f).length ≤ 65536) (hl : l.length ≤ 65536) (hO : Old w) :
    Calls Try.prog 64 #[.agg #[x0.v, x1.v, x2.v], .agg #[.int .i64 f, .int .i64 at_, b.v, .bool cut]] w fun e w' =>
      ∃ y0 y1 y2 : Sv, e = .returned (.agg #[y0.v, y1.v, y2.v]) ∧ Rs w' y0 (X0.set f (wrt (X0.get f) at_ l cut)).a ∧ Rs w' y1 (X0.set f (wrt (X0.get f) at_ l cut)).b ∧
        Rs w' y2 (X0.set f (wrt (X0.get f) at_ l cut)).c ∧ Keep no w w' := by
  refine c64 ?_
  unfold sh64
  intro p8 w9 p10 w11 p12 w13
  have b8 : Bk w13 p8 #[x0.v, x1.v, x2.v] 109 := ((Bk.new w _ _).alloc _).alloc _
  have b10 : Bk w13 p10 #[.int .i64 f, .int .i64 at_, b.v, .bool cut] 114 := (Bk.new w9 _ _).alloc _
  have b12 : Bk w13 p12 #[.slice none 0 0, .slice none 0 0, .slice none 0 0] 109 := Bk.new w11 _ _
  have k13 : Keep no w w13 := ((Keep.alloc no w _).then (Keep.alloc no w9 _)).then (Keep.alloc no w11 _)
  have n8 : w.heap.size ≤ p8 := Nat.le_refl _
  have n10 : w.heap.size ≤ p10 := by show w.heap.size ≤ w9.heap.size; simp [w9]
  have n12 : w.heap.size ≤ p12 := by show w.heap.size ≤ w11.heap.size; simp [w11, w9]; omega
  have d8 : p8 ≠ p12 := by have := b8.lt; show w.heap.size ≠ w11.heap.size; simp [w11, w9]; omega
  clear_value p12 w13 p10 w11 p8 w9
  -- the file's slice
  have hsel : ∃ o : Sv, (#[x0.v, x1.v, x2.v] : Array Value)[f]? = some o.v ∧ Rs w o (X0.get f) := by
    match f, hf with
    | 0, _ => exact ⟨x0, rfl, h0⟩
    | 1, _ => exact ⟨x1, rfl, h1⟩
    | 2, _ => exact ⟨x2, rfl, h2⟩
  obtain ⟨o, ho, hro⟩ := hsel
  have hon : o.n = (X0.get f).length := Rb.len hro
  have ef : (⟨p8, 0, none⟩ : Addr).add ((f : Int).toNat * 1) = ⟨p8, f, none⟩ := by rw [addP]; simp
  refine ⟨f, b10.cell 0, by omega, by omega, o.a, o.n, o.c, by rw [ef, b8.cell]; exact ho, ?_⟩
  intro w16
  have hoc := hro.2.1
  replace b8 : Bk w16 p8 _ _ := b8.drew
  replace b10 : Bk w16 p10 _ _ := b10.drew
  replace b12 : Bk w16 p12 _ _ := b12.drew
  refine ⟨at_, b10.cell 1, by omega, by omega, b.a, b.n, b.c, b10.cell 2, ?_⟩
  have k16 : Keep no w w16 := k13.then (Keep.drew no w13)
  have rt : Rb w16 (subS o.a o.c 0 1) ((at_ : Int).toNat - 0) (o.c - 0) ((X0.get f).take at_) := Rb.take (hro.no k16) (by omega)
  refine (clone_spec rt (by omega) (hO.up k16)).mono ?_
  rintro e w20 ⟨s, rfl, hs20, hos, k20, hsn⟩
  refine ⟨s.a, s.n, s.c, rfl, ⟨b.a, b.n, b.c, (b10.no k20).cell 2, rfl⟩, ?_⟩
  have kw20 : Keep no w w20 := k16.then k20
  have hbn : b.n = l.length := Rb.len hb
  refine rw_append E36 hos (hb.no kw20) (bvs_one l) (by simp at hsn; omega) (by simp only [maxLen]; simp at hsn; omega) k20.size fun a25 c25 w24 ho24 k24 hw24 => ?_
  have hlo : w.heap.size ≤ w16.heap.size := k16.size
  have kw24 : Keep no w w24 := kw20.new k24 (by
    rintro y ⟨z, hz, rfl⟩
    rcases hos.2 with ⟨h, _⟩ | ⟨g, cap, cur, h, hg, _⟩
    · simp only [Value.slice.injEq] at h; rw [h.1] at hz; cases hz
    · simp only [Value.slice.injEq] at h; rw [h.1] at hz; cases hz; exact Nat.le_trans hlo hg)
  -- what the new row is told apart from
  have t5 : ∀ y, OB s.a y → TyB w20 y 5 := by
    rintro y ⟨z, hz, rfl⟩
    rcases hos.2 with ⟨h, _⟩ | ⟨g, cap, cur, h, _, hg, _⟩
    · simp only [Value.slice.injEq] at h; rw [h.1] at hz; cases hz
    · simp only [Value.slice.injEq] at h; rw [h.1] at hz; cases hz; exact ⟨cur, _, hg⟩
  have b8' : Bk w24 p8 #[x0.v, x1.v, x2.v] 109 := (b8.no k20).keep k24 fun h => (t5 _ h).ne (b8.no k20).ty (by decide) rfl
  have b10' : Bk w24 p10 #[.int .i64 f, .int .i64 at_, b.v, .bool cut] 114 := (b10.no k20).keep k24 fun h => (t5 _ h).ne (b10.no k20).ty (by decide) rfl
  have b12' : Bk w24 p12 #[.slice none 0 0, .slice none 0 0, .slice none 0 0] 109 := (b12.no k20).keep k24 fun h => (t5 _ h).ne (b12.no k20).ty (by decide) rfl
  have e24 : bvs ((X0.get f).take at_) ++ bvs l = bvs ((X0.get f).take at_ ++ l) := (bvs_append _ _).symm
  rw [e24] at ho24
  have hsn' : s.n = at_ := by rw [hsn]; simp
  rw [hsn', hbn] at ho24 ⊢
  intro K35
  -- the end: the file is laid in its place, the files are handed back
  have fin : ∀ (s' : Sv) (w' : World), Rs w' s' (wrt (X0.get f) at_ l cut) → Keep no w w' → Bk w' p8 #[x0.v, x1.v, x2.v] 109 → Bk w' p10 #[.int .i64 f, .int .i64 at_, b.v, .bool cut] 114 →
      Bk w' p12 #[.slice none 0 0, .slice none 0 0, .slice none 0 0] 109 → K35 s'.a s'.n s'.c w' := by
    intro s' w' hs' kw' c8 c10 c12
    refine ⟨f, c10.cell 0, by omega, by omega, ?_⟩
    rw [ef]
    refine ⟨c8.wr (by simp; omega), ?_⟩
    intro w37
    have c8' : Bk w37 p8 (#[x0.v, x1.v, x2.v].setIfInBounds f s'.v) 109 := c8.set f _
    have k37 : Keep no w w37 := kw'.new (Keep.set w' s'.v (S := is p8) (a := ⟨p8, f, none⟩) rfl) (by rintro y rfl; exact n8)
    have c12' : Bk w37 p12 #[.slice none 0 0, .slice none 0 0, .slice none 0 0] 109 := c12.set_ne (a := ⟨p8, f, none⟩) (fun h => d8 h.symm) _
    have hs37 : Rs w37 s' (wrt (X0.get f) at_ l cut) := hs'.keep (Keep.set w' s'.v (S := is p8) (a := ⟨p8, f, none⟩) rfl) (by rintro y rfl h; exact absurd (h.uniq c8.ty) (by decide))
    clear_value w37
    obtain ⟨y0, y1, y2, hy, r0, r1, r2⟩ : ∃ y0 y1 y2 : Sv, (#[x0.v, x1.v, x2.v].setIfInBounds f s'.v) = #[y0.v, y1.v, y2.v] ∧ Rs w37 y0 (X0.set f (wrt (X0.get f) at_ l cut)).a ∧
        Rs w37 y1 (X0.set f (wrt (X0.get f) at_ l cut)).b ∧ Rs w37 y2 (X0.set f (wrt (X0.get f) at_ l cut)).c := by
      match f, hf with
      | 0, _ => exact ⟨s', x1, x2, rfl, hs37, h1.no k37, h2.no k37⟩
      | 1, _ => exact ⟨x0, s', x2, rfl, h0.no k37, hs37, h2.no k37⟩
      | 2, _ => exact ⟨x0, x1, s', rfl, h0.no k37, h1.no k37, hs37⟩
    rw [hy] at c8'
    refine ⟨_, _, _, _, _, _, _, _, _, c8'.cell 0, c8'.cell 1, c8'.cell 2, c12'.wrN (by simp), ?_⟩
    intro w41
    have c12'' : Bk w41 p12 #[y0.v, y1.v, y2.v] 109 := c12'.setAll rfl
    have k41 : Keep (is p12) w37 w41 := setN_keep (S := is p12) (a := ⟨p12, 0, none⟩) rfl _ _ _
    have kk : Keep no w w41 := k37.new k41 (by rintro y rfl; exact n12)
    have nt : ∀ y, is p12 y → ¬ TyB w37 y 5 := by rintro y rfl h; exact absurd (h.uniq c12'.ty) (by decide)
    clear_value w41
    exact ⟨_, _, _, _, _, _, _, _, _, c12''.cell 0, c12''.cell 1, c12''.cell 2, y0, y1, y2, rfl, r0.keep k41 nt, r1.keep k41 nt, r2.keep k41 nt, kk⟩
  clear_value K35
  intro K29
  have htl : ((X0.get f).take at_ ++ l).length = at_ + l.length := by simp; omega
  refine ⟨cut, b10'.cell 3, ?_⟩
  cases cut with
  | true =>
    show K35 _ _ _ _
    exact fin ⟨a25, at_ + l.length, c25⟩ w24 (by
      have : wrt (X0.get f) at_ l true = (X0.get f).take at_ ++ l := rfl
      rw [this]; exact Rd.own ho24 fun _ => hO.up k16) kw24 b8' b10' b12'
  | false =>
    show K29 _ _
    refine cond_d (fun hlt => ?_) (fun hge => ?_)
    · have hlt' : at_ + l.length < (X0.get f).length := by omega
      refine ⟨by omega, by omega, ?_⟩
      have en : (((at_ + l.length : Nat) : Int).toNat) = at_ + l.length := Int.toNat_natCast _
      rw [en]
      have rd : Rb w24 (subS o.a o.c (at_ + l.length) 1) (o.n - (at_ + l.length)) (o.c - (at_ + l.length)) ((X0.get f).drop (at_ + l.length)) := Rb.drop (hro.no kw24) (by omega)
      refine rw_append E36 ho24 rd (bvs_one _) (by omega) (by simp only [maxLen]; omega) (Nat.le_trans k20.size k24.size) fun a32 c32 w31 ho31 k31 _ => ?_
      have t5' : ∀ y, OB a25 y → TyB w24 y 5 ∧ w.heap.size ≤ y := by
        rintro y ⟨z, hz, rfl⟩
        rcases ho24.2 with ⟨h, _⟩ | ⟨g, cap, cur, h, hg0, hg, _⟩
        · simp only [Value.slice.injEq] at h; rw [h.1] at hz; cases hz
        · simp only [Value.slice.injEq] at h; rw [h.1] at hz; cases hz; exact ⟨⟨cur, _, hg⟩, Nat.le_trans hlo hg0⟩
      have e31 : at_ + l.length + (o.n - (at_ + l.length)) = o.n := by omega
      rw [← bvs_append] at ho31
      refine fin ⟨a32, _, c32⟩ w31 ?_ (kw24.new k31 fun y h => (t5' y h).2) (b8'.keep k31 fun h => (t5' _ h).1.ne b8'.ty (by decide) rfl) (b10'.keep k31 fun h => (t5' _ h).1.ne b10'.ty (by decide) rfl) (b12'.keep k31 fun h => (t5' _ h).1.ne b12'.ty (by decide) rfl)
      have : wrt (X0.get f) at_ l false = ((X0.get f).take at_ ++ l) ++ (X0.get f).drop (at_ + l.length) := by
        unfold wrt
        rw [htl, show (!false && decide (at_ + l.length < (X0.get f).length)) = true by rw [Bool.not_false, Bool.true_and]; exact decide_eq_true hlt']
        rfl
      rw [this]
      exact Rd.own ho31 fun _ => hO.up k16
    · have : wrt (X0.get f) at_ l false = (X0.get f).take at_ ++ l := by
        unfold wrt
        rw [htl, show (!false && decide (at_ + l.length < (X0.get f).length)) = false by rw [Bool.not_false, Bool.true_and]; exact decide_eq_false (by omega)]
        rfl
      exact fin ⟨a25, at_ + l.length, c25⟩ w24 (by rw [this]; exact Rd.own ho24 fun _ => hO.up k16) kw24 b8' b10' b12'
end Go.Proofs.Ytmfidfaiopogbaa
/- Contracts of the disk's methods. -/
set_option linter.unusedVariables false
set_option linter.unusedSectionVars false
set_option linter.unusedSimpArgs false
set_option maxRecDepth 4000
namespace Go.Proofs.Ytmfidfaiopogbaa
open Go Go.Sh
variable [Av]

/-! ### A disk, by its states -/
structure A where
  first : Fs
  rest : List Fs
  raws : Int
  armed : Bool
  left : Int
def A.now (x : A) : Fs := x.rest.getLastD x.first
def A.dead (x : A) : Bool := x.armed && decide (x.left ≤ 0)
def A.stepped (x : A) : A := { x with left := if x.armed then x.left - 1 else x.left }
def A.push (x : A) (s : Fs) : A := { x.stepped with rest := x.rest ++ [s], raws := IntKind.i64.wrap (x.raws + 1) }
def Fs.small (s : Fs) : Prop := s.a.length ≤ 65536 ∧ s.b.length ≤ 65536 ∧ s.c.length ≤ 65536
omit [Av] in
theorem Fs.small.get {s : Fs} (h : s.small) (f : Nat) : (s.get f).length ≤ 65536 := by
  unfold Fs.get; split
  · exact h.1
  · exact h.2.1
  · exact h.2.2
omit [Av] in
theorem Fs.small.set {s : Fs} (h : s.small) (f : Nat) {l : Bs} (hl : l.length ≤ 65536) : (s.set f l).small := by
  unfold Fs.set; split
  · exact ⟨hl, h.2.1, h.2.2⟩
  · exact ⟨h.1, hl, h.2.2⟩
  · exact ⟨h.1, h.2.1, hl⟩
structure A.ok (x : A) : Prop where
  small : ∀ s, s ∈ x.first :: x.rest → s.small
  left : x.armed = true → 0 ≤ x.left ∧ x.left ≤ 9223372036854775807
omit [Av] in
theorem A.now_mem (x : A) : x.now ∈ x.first :: x.rest := by
  unfold A.now
  rw [List.getLastD_eq_getLast?]
  cases h : x.rest.getLast? with
  | none => simp
  | some s => exact List.mem_cons_of_mem _ (List.mem_of_getLast? h)
omit [Av] in
theorem A.ok.now {x : A} (h : x.ok) : x.now.small := h.small _ x.now_mem

/-- The pending raw writes' cells. -/
def PendC (w : World) : Fs → List Fs → List Value → Prop
  | _, [], cs => cs = []
  | s0, s1 :: ss, cs => ∃ (f at_ : Nat) (b : Sv) (l : Bs) (cut : Bool) (cs' : List Value), cs = .int .i64 f :: .int .i64 at_ :: b.v :: .bool cut :: cs' ∧ Rs w b l ∧ f < 3 ∧ at_ ≤ (s0.get f).length ∧
      l.length ≤ 65536 ∧ s1 = s0.set f (wrt (s0.get f) at_ l cut) ∧ PendC w s1 ss cs'
theorem PendC.keep {w w' : World} {S : Nat → Prop} (k : Keep S w w') (hS : ∀ b, S b → ¬ TyB w b 5) : ∀ {s0 : Fs} {ss : List Fs} {cs : List Value}, PendC w s0 ss cs → PendC w' s0 ss cs
  | _, [], _, h => h
  | s0, s1 :: ss, cs, h => by
    obtain ⟨f, at_, b, l, cut, cs', h1, h2, h3, h4, h5, h6, h7⟩ := h
    exact ⟨f, at_, b, l, cut, cs', h1, h2.keep k hS, h3, h4, h5, h6, PendC.keep k hS h7⟩
theorem PendC.length {w : World} : ∀ {s0 : Fs} {ss : List Fs} {cs : List Value}, PendC w s0 ss cs → cs.length = ss.length * 4
  | _, [], _, h => by subst h; rfl
  | s0, s1 :: ss, cs, h => by
    obtain ⟨f, at_, b, l, cut, cs', rfl, h2, h3, h4, h5, h6, h7⟩ := h
    simp [PendC.length h7]; omega
theorem PendC.push {w : World} {f at_ : Nat} {b : Sv} {l : Bs} {cut : Bool} (hb : Rs w b l) (hf : f < 3) (hl : l.length ≤ 65536) : ∀ {s0 : Fs} {ss : List Fs} {cs : List Value}, PendC w s0 ss cs →
    at_ ≤ ((ss.getLastD s0).get f).length → PendC w s0 (ss ++ [(ss.getLastD s0).set f (wrt ((ss.getLastD s0).get f) at_ l cut)]) (cs ++ [.int .i64 f, .int .i64 at_, b.v, .bool cut])
  | s0, [], cs, h, ha => by
    subst h
    exact ⟨f, at_, b, l, cut, [], rfl, hb, hf, ha, hl, rfl, rfl⟩
  | s0, s1 :: ss, cs, h, ha => by
    obtain ⟨f', at', b', l', cut', cs', rfl, h2, h3, h4, h5, h6, h7⟩ := h
    have e : (s1 :: ss).getLastD s0 = ss.getLastD s1 := by simp [List.getLastD_eq_getLast?, List.getLast?_cons]
    rw [e] at ha ⊢
    exact ⟨f', at', b', l', cut', _, rfl, h2, h3, h4, h5, h6, PendC.push hb hf hl h7 ha⟩
theorem PendC.one {w : World} : ∀ {s0 : Fs} {ss : List Fs} {cs : List Value}, PendC w s0 ss cs → ∀ u, u ∈ cs → one1 u = true
  | _, [], _, h, u, hu => by subst h; simp at hu
  | s0, s1 :: ss, cs, h, u, hu => by
    obtain ⟨f, at_, b, l, cut, cs', rfl, h2, h3, h4, h5, h6, h7⟩ := h
    simp only [List.mem_cons] at hu
    rcases hu with rfl | rfl | rfl | rfl | hu
    · rfl
    · rfl
    · rfl
    · rfl
    · exact PendC.one h7 u hu

def dkC (d0 d1 d2 n0 n1 n2 q : Sv) (r : Int) (am : Bool) (l : Int) : Array Value := #[d0.v, d1.v, d2.v, n0.v, n1.v, n2.v, q.v, .int .i64 r, .bool am, .int .i64 l]
/-- The blocks that a disk writes: its own and its list's. -/
def dk (p : Nat) (q : Sv) : Nat → Prop := fun b => b = p ∨ OB q.a b

/-- The block p is a disk whose pending raw writes lie in q. -/
structure DkR (w : World) (lo p : Nat) (q : Sv) (x : A) : Prop where
  ex : ∃ (d0 d1 d2 n0 n1 n2 : Sv) (dl : Int), Bk w p (dkC d0 d1 d2 n0 n1 n2 q x.raws x.armed dl) 112 ∧ (x.armed = true → dl = x.left) ∧
    Rs w d0 x.first.a ∧ Rs w d1 x.first.b ∧ Rs w d2 x.first.c ∧ Rs w n0 x.now.a ∧ Rs w n1 x.now.b ∧ Rs w n2 x.now.c
  own : ∃ cs, w.ownsRow lo 114 4 q.v q.n cs ∧ q.n = x.rest.length ∧ PendC w x.first x.rest cs
  lo_ : lo ≤ p
  av : Old w
  ok : x.ok

omit [Av] in
theorem own_ty {w : World} {lo e sz n : Nat} {q : Sv} {cs : List Value} (h : w.ownsRow lo e sz q.v n cs) {b : Nat} (hb : OB q.a b) : TyB w b e ∧ lo ≤ b := by
  obtain ⟨z, hz, rfl⟩ := hb
  rcases h.2 with ⟨h, _⟩ | ⟨g, cap, cur, h, hg0, hg, _⟩
  · simp only [Value.slice.injEq] at h; rw [h.1] at hz; cases hz
  · simp only [Value.slice.injEq] at h; rw [h.1] at hz; cases hz; exact ⟨⟨cur, _, hg⟩, hg0⟩
omit [Av] in
theorem own_keep {w w' : World} {lo e sz n : Nat} {v : Value} {cs : List Value} {S : Nat → Prop} (h : w.ownsRow lo e sz v n cs) (k : Keep S w w') (hS : ∀ b, some b = v.ownBlock → ¬ S b) : w'.ownsRow lo e sz v n cs := by
  refine ⟨h.1, ?_⟩
  rcases h.2 with h2 | ⟨g, cap, cur, rfl, hg0, hg, h3⟩
  · exact .inl h2
  · have hlt : g < w.heap.size := by
      rcases Nat.lt_or_ge g w.heap.size with h' | h'
      · exact h'
      · rw [Array.getElem?_eq_none h'] at hg; cases hg
    exact .inr ⟨g, cap, cur, rfl, hg0, by rw [k.same g hlt (hS g rfl)]; exact hg, h3⟩

section
variable {w w' : World} {lo p : Nat} {q : Sv} {x : A}
theorem DkR.ty (h : DkR w lo p q x) {b : Nat} (hb : dk p q b) : ¬ TyB w b 5 := by
  obtain ⟨d0, d1, d2, n0, n1, n2, dl, hB, _⟩ := h.ex
  obtain ⟨cs, ho, _⟩ := h.own
  intro ht
  rcases hb with rfl | hb
  · exact absurd (ht.uniq hB.ty) (by decide)
  · exact absurd (ht.uniq (own_ty ho hb).1) (by decide)
theorem DkR.new (h : DkR w lo p q x) {b : Nat} (hb : dk p q b) : lo ≤ b := by
  obtain ⟨cs, ho, _⟩ := h.own
  rcases hb with rfl | hb
  · exact h.lo_
  · exact (own_ty ho hb).2
theorem DkR.keep {S : Nat → Prop} (h : DkR w lo p q x) (k : Keep S w w') (hS : ∀ b, S b → ¬ dk p q b ∧ ¬ TyB w b 5) : DkR w' lo p q x := by
  obtain ⟨d0, d1, d2, n0, n1, n2, dl, hB, ha, h0, h1, h2, h3, h4, h5⟩ := h.ex
  obtain ⟨cs, ho, hn, hp⟩ := h.own
  have hS5 : ∀ b, S b → ¬ TyB w b 5 := fun b hb => (hS b hb).2
  refine ⟨⟨d0, d1, d2, n0, n1, n2, dl, hB.keep k fun hb => (hS _ hb).1 (.inl rfl), ha, h0.keep k hS5, h1.keep k hS5, h2.keep k hS5, h3.keep k hS5, h4.keep k hS5, h5.keep k hS5⟩,
    ⟨cs, own_keep ho k fun b hb hs => (hS b hs).1 (.inr ?_), hn, hp.keep k hS5⟩, h.lo_, h.av.up k, h.ok⟩
  cases hq : q.a with
  | none => rw [Sv.v, hq] at hb; cases hb
  | some z => rw [Sv.v, hq] at hb; simp only [Value.ownBlock, Option.some.injEq] at hb; exact ⟨z, rfl, hb⟩
theorem DkR.no_ (h : DkR w lo p q x) (k : Keep no w w') : DkR w' lo p q x := h.keep k fun _ hb => hb.elim
theorem DkR.pmono (h : DkR w lo p q x) : p < w.heap.size := by obtain ⟨d0, d1, d2, n0, n1, n2, dl, hB, _⟩ := h.ex; exact hB.lt

abbrev dp (p : Nat) : Value := .pointer (some ⟨p, 0, none⟩)

theorem dead_spec (h : DkR w lo p q x) : Calls Try.prog 26 #[dp p] w fun e w' => e = .returned (.bool x.dead) ∧ w' = w := by
  obtain ⟨d0, d1, d2, n0, n1, n2, dl, hB, ha, _⟩ := h.ex
  refine c26 ?_
  unfold sh26
  refine ⟨x.armed, by rw [addP]; exact hB.cell 8, ?_⟩
  unfold A.dead
  cases hx : x.armed with
  | false => exact ⟨rfl, rfl⟩
  | true =>
    refine ⟨dl, by rw [addP]; exact hB.cell 9, ?_⟩
    rw [ha hx]
    exact ⟨rfl, rfl⟩
theorem pending_spec (h : DkR w lo p q x) : Calls Try.prog 27 #[dp p] w fun e w' => e = .returned (.int .i64 x.rest.length) ∧ w' = w := by
  obtain ⟨d0, d1, d2, n0, n1, n2, dl, hB, _⟩ := h.ex
  obtain ⟨cs, ho, hn, _⟩ := h.own
  refine c27 ?_
  unfold sh27
  exact ⟨q.a, q.n, q.c, by rw [addP]; exact hB.cell 6, by rw [hn], rfl⟩
theorem raw_spec (h : DkR w lo p q x) : Calls Try.prog 50 #[dp p] w fun e w' => e = .returned (.int .i64 x.raws) ∧ w' = w := by
  obtain ⟨d0, d1, d2, n0, n1, n2, dl, hB, _⟩ := h.ex
  refine c50 ?_
  unfold sh50
  exact ⟨x.raws, by rw [addP]; exact hB.cell 7, rfl, rfl⟩

/-- The slice of a file as it is now. -/
theorem DkR.file (h : DkR w lo p q x) {f : Nat} (hf : f < 3) : ∃ s : Sv, w.cell? ((⟨p, 3, none⟩ : Addr).add ((f : Int).toNat * 1)) = some s.v ∧ Rs w s (x.now.get f) := by
  obtain ⟨d0, d1, d2, n0, n1, n2, dl, hB, _, _, _, _, h3, h4, h5⟩ := h.ex
  rw [addP, Int.toNat_natCast, Nat.mul_one, hB.cell]
  match f, hf with
  | 0, _ => exact ⟨n0, rfl, h3⟩
  | 1, _ => exact ⟨n1, rfl, h4⟩
  | 2, _ => exact ⟨n2, rfl, h5⟩
def IsF (x : A) (f at_ : Int) : Prop := 0 ≤ f ∧ f < 3 ∧ 0 ≤ at_ ∧ at_ ≤ ((x.now.get f.toNat).length : Int)
theorem is_spec (h : DkR w lo p q x) (f at_ : Int) : Calls Try.prog 70 #[dp p, .int .i64 f, .int .i64 at_] w fun e w' => ∃ b, e = .returned (.bool b) ∧ w' = w ∧ (b = true ↔ IsF x f at_) := by
  refine c70 ?_
  unfold sh70 IsF
  refine cond_d (fun h1 => ?_) (fun h1 => ⟨false, rfl, rfl, by simp; omega⟩)
  refine cond_d (fun h2 => ?_) (fun h2 => ⟨false, rfl, rfl, by simp; omega⟩)
  refine cond_d (fun h3 => ?_) (fun h3 => ⟨false, rfl, rfl, by simp; omega⟩)
  obtain ⟨g, rfl⟩ := Int.eq_ofNat_of_zero_le h1
  obtain ⟨s, hs, hr⟩ := h.file (f := g) (by omega)
  refine ⟨by omega, by omega, s.a, s.n, s.c, by rw [addP]; exact hs, _, rfl, rfl, ?_⟩
  have := Rb.len hr
  simp only [Int.toNat_natCast, decide_eq_true_eq]
  rw [← this]
  omega
/-- What Read answers. -/
def A.read (x : A) (f : Int) : Bs := if 0 ≤ f ∧ f < 3 then x.now.get f.toNat else []
theorem read_spec (h : DkR w lo p q x) (f : Int) : Calls Try.prog 29 #[dp p, .int .i64 f] w fun e w' => ∃ s : Sv, e = .returned s.v ∧ Rs w' s (x.read f) ∧ w'.ownsRow w.heap.size 5 1 s.v s.n (bvs (x.read f)) ∧ Keep no w w' := by
  refine c29 ?_
  unfold sh29
  refine (is_spec h f 0).mono ?_
  rintro e w' ⟨b, rfl, rfl, hb⟩
  refine ⟨b, rfl, ?_⟩
  unfold A.read
  cases b with
  | false =>
    have : ¬ (0 ≤ f ∧ f < 3) := fun h => by
      have := hb.2 ⟨h.1, h.2, by omega, by omega⟩; cases this
    rw [if_neg this]
    exact ⟨⟨none, 0, 0⟩, rfl, Rd.nil _ _ _, World.ownsRow_nil _ _ _ _, Keep.refl _ _⟩
  | true =>
    obtain ⟨h1, h2, _⟩ := hb.1 rfl
    obtain ⟨g, rfl⟩ := Int.eq_ofNat_of_zero_le h1
    obtain ⟨s, hs, hr⟩ := h.file (f := g) (by omega)
    refine ⟨h1, h2, s.a, s.n, s.c, by rw [addP]; exact hs, ?_⟩
    have hl := Rb.len hr
    have hsm := h.ok.now.get g
    refine (clone_spec hr (by omega) h.av).mono ?_
    rintro e w2 ⟨s2, rfl, hr2, ho2, k2, _⟩
    rw [if_pos ⟨h1, h2⟩]
    exact ⟨s2.a, s2.n, s2.c, rfl, s2, rfl, hr2, ho2, k2⟩
theorem size_spec (h : DkR w lo p q x) (f : Int) : Calls Try.prog 34 #[dp p, .int .i64 f] w fun e w' => e = .returned (.int .i64 (x.read f).length) ∧ Keep no w w' := by
  refine c34 ?_
  unfold sh34
  refine (read_spec h f).mono ?_
  rintro e w' ⟨s, rfl, hr, _, k⟩
  exact ⟨s.a, s.n, s.c, rfl, by rw [Rb.len hr], k⟩
end

theorem new_spec (w : World) (hO : Old w) : Calls Try.prog 53 #[] w fun e w' => ∃ p, e = .returned (dp p) ∧ DkR w' w.heap.size p ⟨none, 0, 0⟩ ⟨⟨[], [], []⟩, [], 0, false, 0⟩ ∧ Keep no w w' ∧ p = w.heap.size ∧
    Bk w' p (dkC ⟨none, 0, 0⟩ ⟨none, 0, 0⟩ ⟨none, 0, 0⟩ ⟨none, 0, 0⟩ ⟨none, 0, 0⟩ ⟨none, 0, 0⟩ ⟨none, 0, 0⟩ 0 false 0) 112 := by
  refine c53 ?_
  unfold sh53
  intro p w2
  have hB : Bk w2 p (dkC ⟨none, 0, 0⟩ ⟨none, 0, 0⟩ ⟨none, 0, 0⟩ ⟨none, 0, 0⟩ ⟨none, 0, 0⟩ ⟨none, 0, 0⟩ ⟨none, 0, 0⟩ 0 false 0) 112 := Bk.new w _ _
  refine ⟨p, rfl, ⟨⟨_, _, _, _, _, _, 0, hB, (fun h => by cases h), Rd.nil _ _ _, Rd.nil _ _ _, Rd.nil _ _ _, Rd.nil _ _ _, Rd.nil _ _ _, Rd.nil _ _ _⟩, ⟨[], World.ownsRow_nil _ _ _ _, rfl, rfl⟩, Nat.le_refl _, hO.up (Keep.alloc no w _), ?_⟩, Keep.alloc _ _ _, rfl, hB⟩
  refine ⟨fun s hs => ?_, fun h => by cases h⟩
  simp at hs; subst hs
  exact ⟨by simp, by simp, by simp⟩
end Go.Proofs.Ytmfidfaiopogbaa
/- Contracts of the disk's methods that write. -/
set_option linter.unusedVariables false
set_option linter.unusedSectionVars false
set_option linter.unusedSimpArgs false
set_option maxRecDepth 4000
namespace Go.Proofs.Ytmfidfaiopogbaa
open Go Go.Sh
variable [Av]

theorem Rd.blk {w : World} {e sz b n : Nat} {cs : Array Value} (h : Bk w b cs e) (hs : cs.size = n * sz) (hm : n ≤ maxLen) (hz : e = 5 → ¬ Av.Z b := by (intro h; exact absurd h (by decide))) : Rd w e sz (some ⟨b, 0, none⟩) n n cs.toList := by
  refine ⟨by simpa using hs, Nat.le_refl _, hm, fun _ => ⟨b, 0, cs, _, rfl, ⟨_, .inr ⟨rfl, hz⟩, h⟩, fun j u hu => by simpa using hu⟩⟩

/-- What a call that writes to the disk leaves. -/
def Did (w w' : World) (lo p : Nat) (q : Sv) (y : A) : Prop :=
  ∃ q' : Sv, DkR w' lo p q' y ∧ Keep (dk p q) w w' ∧ ∀ b, dk p q' b → dk p q b ∨ w.heap.size ≤ b
theorem Did.same {w w' : World} {lo p : Nat} {q : Sv} {y : A} (h : DkR w lo p q y) (k : Keep no w w') : Did w w' lo p q y :=
  ⟨q, h.no_ k, k.mono fun _ _ h => h.elim, fun _ h => .inl h⟩
theorem Did.trans {w w' w'' : World} {lo p : Nat} {q : Sv} {z : A} (k : Keep (dk p q) w w') {q' : Sv} (hq : ∀ b, dk p q' b → dk p q b ∨ w.heap.size ≤ b) (h : Did w' w'' lo p q' z) : Did w w'' lo p q z := by
  obtain ⟨q2, d2, k2, h2⟩ := h
  refine ⟨q2, d2, k.trans k2 (fun _ _ h => h) (fun b hb h => (hq b h).resolve_right (by omega)), fun b hb => ?_⟩
  rcases h2 b hb with h | h
  · exact hq b h
  · exact .inr (Nat.le_trans k.size h)

section
variable {w : World} {lo p : Nat} {q : Sv} {x : A}

omit [Av] in
theorem A.stepped_ok {x : A} (h : x.ok) (hd : x.dead = false) : x.stepped.ok := by
  refine ⟨h.small, fun ha => ?_⟩
  unfold A.stepped at ha ⊢
  unfold A.dead at hd
  dsimp only at ha ⊢
  have := h.left ha
  rw [ha] at hd ⊢
  simp at hd ⊢
  omega
omit [Av] in
theorem A.push_now (x : A) (s : Fs) : (x.push s).now = s := by simp [A.push, A.now, A.stepped, List.getLastD_eq_getLast?]
omit [Av] in
theorem A.push_ok {x : A} (h : x.ok) (hd : x.dead = false) {s : Fs} (hs : s.small) : (x.push s).ok := by
  have h2 := A.stepped_ok h hd
  refine ⟨fun t ht => ?_, h2.left⟩
  have ht' : t ∈ x.first :: (x.rest ++ [s]) := ht
  rw [← List.cons_append, List.mem_append] at ht'
  rcases ht' with ht' | ht'
  · exact h.small _ ht'
  · simp at ht'; rw [ht']; exact hs
theorem step_spec (h : DkR w lo p q x) : Calls Try.prog 72 #[dp p] w fun e w' => e = .returned (.bool (!x.dead)) ∧ (x.dead = true → w' = w) ∧ (x.dead = false → DkR w' lo p q x.stepped) ∧ Keep (is p) w w' := by
  refine c72 ?_
  unfold sh72
  refine (dead_spec h).mono ?_
  rintro e w' ⟨rfl, rfl⟩
  refine ⟨_, rfl, ?_⟩
  refine cond_i (fun hd => ?_) (fun hd => ?_)
  · exact ⟨by rw [hd]; rfl, fun _ => rfl, fun h => (by rw [hd] at h; cases h), Keep.refl _ _⟩
  · obtain ⟨d0, d1, d2, n0, n1, n2, dl, hB, ha, h0, h1, h2, h3, h4, h5⟩ := h.ex
    refine ⟨dl, by rw [addP]; exact hB.cell 9, by rw [addP]; exact hB.wr (by simp [dkC]), ?_⟩
    intro w6
    have hB6 : Bk w6 p (dkC d0 d1 d2 n0 n1 n2 q x.raws x.armed (IntKind.i64.wrap (dl - 1))) 112 := by
      have := hB.set 9 (.int .i64 (IntKind.i64.wrap (dl - 1)))
      rw [← Nat.zero_add 9, ← addP] at this
      exact this
    have k6 : Keep (is p) w' w6 := Keep.set w' _ (by rw [addP]; rfl)
    clear_value w6
    refine ⟨by rw [hd]; rfl, fun h => (by rw [hd] at h; cases h), fun _ => ?_, k6⟩
    have hk : ∀ b, is p b → ¬ TyB w' b 5 := by rintro b rfl ht; exact absurd (ht.uniq hB.ty) (by decide)
    obtain ⟨cs, ho, hn, hp⟩ := h.own
    refine ⟨⟨d0, d1, d2, n0, n1, n2, _, hB6, fun hx => ?_, h0.keep k6 hk, h1.keep k6 hk, h2.keep k6 hk, h3.keep k6 hk, h4.keep k6 hk, h5.keep k6 hk⟩, ⟨cs, own_keep ho k6 ?_, hn, hp.keep k6 hk⟩, h.lo_, h.av.up k6, A.stepped_ok h.ok hd⟩
    · have hx' : x.armed = true := hx
      have hl := h.ok.left hx'
      have hd' := hd
      unfold A.dead at hd'
      rw [hx'] at hd'
      simp at hd'
      show _ = (if x.armed then x.left - 1 else x.left)
      rw [hx', if_pos rfl, ha hx']
      exact IntWalk.i64_in _ ⟨by omega, by omega⟩
    · rintro b hb rfl
      cases hq : q.a with
      | none => rw [Sv.v, hq] at hb; cases hb
      | some z =>
        rw [Sv.v, hq] at hb
        simp only [Value.ownBlock, Option.some.injEq] at hb
        exact absurd ((own_ty ho ⟨z, hq, hb⟩).1.uniq hB.ty) (by decide)

/-- What a raw write leaves. -/
def A.raw1 (x : A) (f at_ : Nat) (l : Bs) (cut : Bool) : A := bif x.dead then x else x.push (x.now.set f (wrt (x.now.get f) at_ l cut))

theorem write_spec (h : DkR w lo p q x) {f at_ : Nat} {b : Sv} {l : Bs} {cut : Bool} (hb : Rs w b l) (hf : f < 3) (ha : at_ ≤ (x.now.get f).length) (hl : l.length ≤ 65536) (hw : (wrt (x.now.get f) at_ l cut).length ≤ 65536)
    (hn : x.rest.length ≤ 1000000) :
    Calls Try.prog 73 #[dp p, .agg #[.int .i64 f, .int .i64 at_, b.v, .bool cut]] w fun e w' => e = .returned (.int .i64 (bif x.dead then 180 else 0)) ∧ Did w w' lo p q (x.raw1 f at_ l cut) := by
  refine c73 ?_
  unfold sh73
  intro p6 w7
  have b6 : Bk w7 p6 #[.int .i64 f, .int .i64 at_, b.v, .bool cut] 114 := Bk.new w _ _
  have k7 : Keep no w w7 := Keep.alloc _ _ _
  have h6 : w.heap.size ≤ p6 := Nat.le_refl _
  clear_value p6 w7
  have h7 := h.no_ k7
  refine (step_spec h7).mono ?_
  rintro e w9 ⟨rfl, hd1, hd2, k9⟩
  refine ⟨_, rfl, ?_⟩
  unfold A.raw1
  refine cond_i (fun hd => ?_) (fun hd => ?_)
  · have hd' : x.dead = true := by simpa using hd
    rw [hd']
    have := hd1 hd'; subst this
    exact ⟨rfl, Did.same h k7⟩
  · have hd' : x.dead = false := by simpa using hd
    rw [hd']
    have h9 := hd2 hd'
    intro w11
    replace h9 : DkR w11 lo p q x.stepped := h9.no_ (Keep.drew _ _)
    replace k9 : Keep (is p) w7 w11 := k9.no (Keep.drew _ _)
    have hp : p < w.heap.size := h.pmono
    have b6' : Bk w11 p6 _ _ := b6.keep k9 (by unfold is; omega)
    clear_value w11
    obtain ⟨d0, d1, d2, n0, n1, n2, dl, hB, hal, h0, h1, h2, h3, h4, h5⟩ := h9.ex
    obtain ⟨cs, ho, hqn, hP⟩ := h9.own
    have hqn' : q.n = x.rest.length := hqn
    refine ⟨q.a, q.n, q.c, by rw [addP]; exact hB.cell 6, _, _, _, _, _, _, b6'.cell 0, b6'.cell 1, b6'.cell 2, b6'.cell 3, ?_⟩
    intro p17 w18
    have k18 : Keep no w11 w18 := Keep.alloc _ _ _
    have b17 : Bk w18 p17 #[.int .i64 f, .int .i64 at_, b.v, .bool cut] 114 := Bk.new w11 _ _
    have h17 : w11.heap.size ≤ p17 := Nat.le_refl _
    clear_value p17 w18
    refine ⟨⟨q.a, q.n, q.c, by rw [addP]; exact (hB.no k18).cell 6, rfl⟩, ?_⟩
    have hk18 : Keep (is p) w w18 := (k7.trans k9 (T := is p) (fun _ _ h => h.elim) (fun _ _ h => h)).no k18
    refine rw_append E110 (base := lo) (own_keep ho k18 fun _ _ h => h) (Rd.blk b17 (n := 1) rfl (by simp [maxLen])) (by simp [one1]) (by omega) (by simp only [maxLen]; omega) (by have := h.lo_; have := hk18.size; omega) fun a22 c22 w21 ho21 k21 hw21 => ?_
    have hB21 : Bk w21 p (dkC d0 d1 d2 n0 n1 n2 q x.raws x.armed dl) 112 := (hB.no k18).keep k21 fun hb => absurd ((own_ty ho hb).1.uniq hB.ty) (by decide)
    obtain ⟨cs0, ho0, _⟩ := h.own
    have hqlt : ∀ b, OB q.a b → b < w.heap.size ∧ lo ≤ b := fun b hb => ⟨(own_ty ho0 hb).1.lt, (own_ty ho0 hb).2⟩
    have b6'' : Bk w21 p6 _ _ := (b6'.no k18).keep k21 fun hb => by have := hqlt _ hb; omega
    refine ⟨by rw [addP]; exact hB21.wr (by simp [dkC]), ?_⟩
    have K21 : Keep (dk p q) w w21 := hk18.trans k21 (fun _ _ h => .inl h) (fun _ _ h => .inr h)
    -- what the list's new address is
    have hnew : ∀ b, OB a22 b → OB q.a b ∨ w.heap.size ≤ b := by
      rintro b ⟨z, hz, rfl⟩
      rcases hw21 with rfl | rfl
      · exact .inl ⟨z, hz, rfl⟩
      · cases hz; exact .inr hk18.size
    have hS5 : ∀ b, dk p q b → ¬ TyB w b 5 := fun b hb => h.ty hb
    have r21 : Rs w21 b l := hb.keep K21 hS5
    have hnoq : ∀ b, OB q.a b → ¬ TyB w18 b 5 := fun b hb ht => absurd (ht.uniq (own_ty (own_keep ho k18 fun _ _ h => h) hb).1) (by decide)
    have g0 := (h0.no k18).keep k21 hnoq
    have g1 := (h1.no k18).keep k21 hnoq
    have g2 := (h2.no k18).keep k21 hnoq
    have g3 := (h3.no k18).keep k21 hnoq
    have g4 := (h4.no k18).keep k21 hnoq
    have g5 := (h5.no k18).keep k21 hnoq
    have P21 := (hP.keep k18 fun _ h => h.elim).keep k21 hnoq
    intro w23 w24
    have hB24 : Bk w24 p (dkC d0 d1 d2 n0 n1 n2 ⟨a22, q.n + 1, c22⟩ x.raws x.armed dl) 112 := by
      have := hB21.set 6 (.slice a22 (q.n + 1) c22)
      rw [← Nat.zero_add 6, ← addP] at this
      exact this.drew
    have k24 : Keep (is p) w21 w24 := (Keep.set w21 _ (by rw [addP]; rfl)).no (Keep.drew _ _)
    have hp5 : ∀ b, is p b → ¬ TyB w21 b 5 := by rintro b rfl ht; exact absurd (ht.uniq hB21.ty) (by decide)
    have b6a : Bk w24 p6 _ _ := b6''.keep k24 (by unfold is; omega)
    clear_value w24 w23
    refine ⟨_, _, _, _, _, _, _, _, _, by rw [addP]; exact hB24.cell 3, by rw [addP]; exact hB24.cell 4, by rw [addP]; exact hB24.cell 5, _, _, _, _, _, _, b6a.cell 0, b6a.cell 1, b6a.cell 2, b6a.cell 3, ?_⟩
    have K24 : Keep (dk p q) w w24 := K21.trans k24 (fun _ _ h => h) (fun _ _ h => .inl h)
    have hsm := h.ok.now.get f
    refine (done_spec (X0 := x.now) (g3.keep k24 hp5) (g4.keep k24 hp5) (g5.keep k24 hp5) (r21.keep k24 hp5) hf ha hsm hl (h.av.up K24)).mono ?_
    rintro e w33 ⟨y0, y1, y2, rfl, s0, s1, s2, k33⟩
    refine ⟨_, _, _, _, _, _, _, _, _, rfl, ?_⟩
    have hB33 := hB24.no k33
    refine ⟨by rw [addP]; exact hB33.wrN (by simp [dkC]), ?_⟩
    intro w37
    have hB37 : Bk w37 p (dkC d0 d1 d2 y0 y1 y2 ⟨a22, q.n + 1, c22⟩ x.raws x.armed dl) 112 := by
      have := hB33.setN (o := 3) (vs := [y0.v, y1.v, y2.v]) (i := 0)
      rw [← Nat.zero_add 3, ← addP] at this
      exact this
    have k37 : Keep (is p) w33 w37 := setN_keep (S := is p) (by rw [addP]; rfl) _ _ _
    clear_value w37
    refine ⟨_, by rw [addP]; exact hB37.cell 7, by rw [addP]; exact hB37.wr (by simp [dkC]), ?_⟩
    intro w39
    have hB39 : Bk w39 p (dkC d0 d1 d2 y0 y1 y2 ⟨a22, q.n + 1, c22⟩ (IntKind.i64.wrap (x.raws + 1)) x.armed dl) 112 := by
      have := hB37.set 7 (.int .i64 (IntKind.i64.wrap (x.raws + 1)))
      rw [← Nat.zero_add 7, ← addP] at this
      exact this
    have k39 : Keep (is p) w37 w39 := Keep.set w37 _ (by rw [addP]; rfl)
    clear_value w39
    have kA : Keep (is p) w33 w39 := k37.then k39
    have kB : Keep (is p) w24 w39 := (k33.mono fun _ _ h => h.elim).then kA
    have kC : Keep (is p) w21 w39 := k24.then kB
    have hA5 : ∀ b, is p b → ¬ TyB w33 b 5 := by rintro b rfl ht; exact absurd (ht.uniq hB33.ty) (by decide)
    refine ⟨rfl, ⟨a22, q.n + 1, c22⟩, ⟨⟨d0, d1, d2, y0, y1, y2, dl, hB39, hal, g0.keep kC hp5, g1.keep kC hp5, g2.keep kC hp5, ?_, ?_, ?_⟩, ⟨_, own_keep ho21 kC ?_, ?_, ?_⟩, h.lo_, h.av.up (K21.trans kC (T := fun _ => True) (fun _ _ _ => trivial) (fun _ _ _ => trivial)), ?_⟩, K21.trans kC (fun _ _ h => h) (fun _ _ h => .inl h), ?_⟩
    · show Rs w39 y0 (x.push _).now.a
      rw [A.push_now]; exact s0.keep kA hA5
    · show Rs w39 y1 (x.push _).now.b
      rw [A.push_now]; exact s1.keep kA hA5
    · show Rs w39 y2 (x.push _).now.c
      rw [A.push_now]; exact s2.keep kA hA5
    · rintro b hb rfl
      cases a22 with
      | none => cases hb
      | some z =>
        simp only [Value.ownBlock, Option.some.injEq] at hb
        exact absurd ((own_ty (q := ⟨some z, q.n + 1, c22⟩) ho21 ⟨z, rfl, hb⟩).1.uniq hB21.ty) (by decide)
    · show q.n + 1 = (x.rest ++ [_]).length
      simp [hqn']
    · show PendC w39 x.first (x.rest ++ [_]) _
      refine (PendC.push (b := b) r21 hf hl P21 ?_).keep kC hp5
      exact ha
    · exact A.push_ok h.ok hd' (h.ok.now.set f hw)
    · rintro b (rfl | hb)
      · exact .inl (.inl rfl)
      · exact (hnew b hb).imp .inr id
end
end Go.Proofs.Ytmfidfaiopogbaa
/- Contracts of Write, Cut, Sync, Arm, Crash and Load. -/
set_option linter.unusedVariables false
set_option linter.unusedSectionVars false
set_option linter.unusedSimpArgs false
set_option maxRecDepth 4000
namespace Go.Proofs.Ytmfidfaiopogbaa
open Go Go.Sh
variable [Av]

instance (x : A) (f a : Int) : Decidable (IsF x f a) := by unfold IsF; infer_instance
def A.Write (x : A) (f off : Int) (l : Bs) : A × Int :=
  if IsF x f off then
    if 8 < l.length then (x, 3) else if 65536 < off.toNat + l.length then (x, 181) else (x.raw1 f.toNat off.toNat l false, bif x.dead then 180 else 0)
  else (x, 1)
def A.Cut (x : A) (f n : Int) : A × Int :=
  if IsF x f n then (x.raw1 f.toNat n.toNat [] true, bif x.dead then 180 else 0) else (x, 1)
def A.Sync (x : A) : A × Int := bif x.dead then (x, 180) else ({ x.stepped with first := x.now, rest := [] }, 0)
def A.Arm (x : A) (n : Int) : A × Int := if n < 0 then (x, 1) else bif x.dead then (x, 180) else ({ x with armed := true, left := n }, 0)
def A.st (x : A) (i : Nat) : Fs := (x.first :: x.rest).getD i x.first
def A.keep (x : A) (k : Int) : Nat := (mnI (mxI k 0) x.rest.length).toNat
def A.Crash (x : A) (k : Int) : A := ⟨x.st (x.keep k), [], 0, false, 0⟩

omit [Av] in
theorem wrt_len (old : Bs) (at_ : Nat) (l : Bs) (cut : Bool) (ha : at_ ≤ old.length) : (wrt old at_ l cut).length ≤ max (at_ + l.length) old.length := by
  unfold wrt
  have : (old.take at_ ++ l).length = at_ + l.length := by simp; omega
  cases h : (!cut && decide ((old.take at_ ++ l).length < old.length)) <;> simp <;> omega

section
variable {w : World} {lo p : Nat} {q : Sv} {x : A}

theorem Write_spec (h : DkR w lo p q x) (f off : Int) {b : Sv} {l : Bs} (hb : Ru w b l) (hn : x.rest.length ≤ 1000000) :
    Calls Try.prog 31 #[dp p, .int .i64 f, .int .i64 off, b.v] w fun e w' => e = .returned (.int .i64 (x.Write f off l).2) ∧ Did w w' lo p q (x.Write f off l).1 := by
  refine c31 ?_
  unfold sh31
  refine (is_spec h f off).mono ?_
  rintro e w' ⟨r, rfl, rfl, hr⟩
  refine ⟨r, rfl, ?_⟩
  have hbn : b.n = l.length := hb.len
  unfold A.Write
  cases r with
  | false =>
    rw [if_neg (fun hf => by have := hr.2 hf; cases this)]
    exact ⟨rfl, Did.same h (Keep.refl _ _)⟩
  | true =>
    have hF := hr.1 rfl
    rw [if_pos hF]
    obtain ⟨h1, h2, h3, h4⟩ := hF
    refine cond_d (fun hl => ?_) (fun hl => ?_)
    · rw [if_pos (by omega)]
      exact ⟨rfl, Did.same h (Keep.refl _ _)⟩
    · rw [if_neg (by omega)]
      have hsm := h.ok.now.get f.toNat
      rw [IntWalk.i64_in _ ⟨by omega, by omega⟩]
      refine cond_d (fun hl2 => ?_) (fun hl2 => ?_)
      · rw [if_pos (by omega)]
        exact ⟨rfl, Did.same h (Keep.refl _ _)⟩
      · rw [if_neg (by omega)]
        refine (clone_spec hb (by omega) h.av).mono ?_
        rintro e w2 ⟨s, rfl, hs, _, k2, _⟩
        refine ⟨s.a, s.n, s.c, rfl, ?_⟩
        obtain ⟨g, rfl⟩ := Int.eq_ofNat_of_zero_le h1
        obtain ⟨o, rfl⟩ := Int.eq_ofNat_of_zero_le h3
        simp only [Int.toNat_natCast] at *
        have hw := wrt_len (x.now.get g) o l false (by omega)
        refine (write_spec (h.no_ k2) (b := s) (cut := false) hs (by omega) (by omega) (by omega) (by omega) hn).mono ?_
        rintro e w3 ⟨rfl, hD⟩
        exact ⟨_, rfl, rfl, Did.trans (k2.mono fun _ _ h => h.elim) (fun _ h => .inl h) hD⟩

theorem Cut_spec (h : DkR w lo p q x) (f n : Int) (hn : x.rest.length ≤ 1000000) :
    Calls Try.prog 35 #[dp p, .int .i64 f, .int .i64 n] w fun e w' => e = .returned (.int .i64 (x.Cut f n).2) ∧ Did w w' lo p q (x.Cut f n).1 := by
  refine c35 ?_
  unfold sh35
  refine (is_spec h f n).mono ?_
  rintro e w' ⟨r, rfl, rfl, hr⟩
  refine ⟨r, rfl, ?_⟩
  unfold A.Cut
  cases r with
  | false =>
    rw [if_neg (fun hf => by have := hr.2 hf; cases this)]
    exact ⟨rfl, Did.same h (Keep.refl _ _)⟩
  | true =>
    have hF := hr.1 rfl
    rw [if_pos hF]
    obtain ⟨h1, h2, h3, h4⟩ := hF
    have hsm := h.ok.now.get f.toNat
    obtain ⟨g, rfl⟩ := Int.eq_ofNat_of_zero_le h1
    obtain ⟨o, rfl⟩ := Int.eq_ofNat_of_zero_le h3
    simp only [Int.toNat_natCast] at *
    have hw := wrt_len (x.now.get g) o [] true (by omega)
    refine (write_spec h (b := ⟨none, 0, 0⟩) (l := []) (cut := true) (Rd.nil _ _ _) (by omega) (by omega) (by simp) (by simp at hw; omega) hn).mono ?_
    rintro e w3 ⟨rfl, hD⟩
    exact ⟨_, rfl, rfl, hD⟩

theorem Sync_spec (h : DkR w lo p q x) : Calls Try.prog 30 #[dp p] w fun e w' => e = .returned (.int .i64 x.Sync.2) ∧ Did w w' lo p q x.Sync.1 := by
  refine c30 ?_
  unfold sh30
  refine (step_spec h).mono ?_
  rintro e w3 ⟨rfl, hd1, hd2, k3⟩
  refine ⟨_, rfl, ?_⟩
  unfold A.Sync
  refine cond_i (fun hd => ?_) (fun hd => ?_)
  · have hd' : x.dead = true := by simpa using hd
    rw [hd']
    have := hd1 hd'; subst this
    exact ⟨rfl, Did.same h (Keep.refl _ _)⟩
  · have hd' : x.dead = false := by simpa using hd
    rw [hd']
    have h3 := hd2 hd'
    obtain ⟨d0, d1, d2, n0, n1, n2, dl, hB, hal, h0, h1, h2, g3, g4, g5⟩ := h3.ex
    refine ⟨_, _, _, _, _, _, _, _, _, by rw [addP]; exact hB.cell 3, by rw [addP]; exact hB.cell 4, by rw [addP]; exact hB.cell 5, hB.wrN (by simp [dkC]), ?_⟩
    intro w8
    have hB8 : Bk w8 p (dkC n0 n1 n2 n0 n1 n2 q x.raws x.armed dl) 112 := hB.setN (o := 0) (vs := [n0.v, n1.v, n2.v]) (i := 0)
    have k8 : Keep (is p) w3 w8 := setN_keep (S := is p) (a := ⟨p, 0, none⟩) rfl _ _ _
    clear_value w8
    refine ⟨by rw [addP]; exact hB8.wr (by simp [dkC]), ?_⟩
    intro w9
    have hB9 : Bk w9 p (dkC n0 n1 n2 n0 n1 n2 ⟨none, 0, 0⟩ x.raws x.armed dl) 112 := by
      have := hB8.set 6 (.slice none 0 0)
      rw [← Nat.zero_add 6, ← addP] at this
      exact this
    have k9 : Keep (is p) w8 w9 := Keep.set w8 _ (by rw [addP]; rfl)
    clear_value w9
    have kA := k8.then k9
    have h5 : ∀ b, is p b → ¬ TyB w3 b 5 := by rintro b rfl ht; exact absurd (ht.uniq hB.ty) (by decide)
    refine ⟨rfl, ⟨none, 0, 0⟩, ⟨⟨n0, n1, n2, n0, n1, n2, dl, hB9, hal, g3.keep kA h5, g4.keep kA h5, g5.keep kA h5, g3.keep kA h5, g4.keep kA h5, g5.keep kA h5⟩, ⟨[], World.ownsRow_nil _ _ _ _, rfl, rfl⟩, h.lo_, h3.av.up kA, ?_⟩, ((k3.then kA).mono fun _ _ h => .inl h), ?_⟩
    · refine ⟨fun s hs => ?_, h3.ok.left⟩
      have hs' : s ∈ [x.now] := hs
      simp at hs'; rw [hs']; exact h.ok.now
    · rintro b (rfl | ⟨z, hz, _⟩)
      · exact .inl (.inl rfl)
      · cases hz

theorem Arm_spec (h : DkR w lo p q x) (n : Int) (hn : n ≤ 9223372036854775807) : Calls Try.prog 54 #[dp p, .int .i64 n] w fun e w' => e = .returned (.int .i64 (x.Arm n).2) ∧ Did w w' lo p q (x.Arm n).1 := by
  refine c54 ?_
  unfold sh54
  unfold A.Arm
  refine cond_d (fun h1 => ?_) (fun h1 => ?_)
  · rw [if_pos h1]
    exact ⟨rfl, Did.same h (Keep.refl _ _)⟩
  · rw [if_neg h1]
    refine (dead_spec h).mono ?_
    rintro e w' ⟨rfl, rfl⟩
    refine ⟨_, rfl, ?_⟩
    refine cond_i (fun hd => ?_) (fun hd => ?_)
    · rw [hd]; exact ⟨rfl, Did.same h (Keep.refl _ _)⟩
    · rw [hd]
      obtain ⟨d0, d1, d2, n0, n1, n2, dl, hB, hal, h0, h1', h2, g3, g4, g5⟩ := h.ex
      refine ⟨by rw [addP]; exact hB.wr (by simp [dkC]), ?_⟩
      intro w6
      have hB6 : Bk w6 p (dkC d0 d1 d2 n0 n1 n2 q x.raws true dl) 112 := by
        have := hB.set 8 (.bool true)
        rw [← Nat.zero_add 8, ← addP] at this
        exact this
      have k6 : Keep (is p) w' w6 := Keep.set w' _ (by rw [addP]; rfl)
      clear_value w6
      refine ⟨by rw [addP]; exact hB6.wr (by simp [dkC]), ?_⟩
      intro w7
      have hB7 : Bk w7 p (dkC d0 d1 d2 n0 n1 n2 q x.raws true n) 112 := by
        have := hB6.set 9 (.int .i64 n)
        rw [← Nat.zero_add 9, ← addP] at this
        exact this
      have k7 : Keep (is p) w6 w7 := Keep.set w6 _ (by rw [addP]; rfl)
      clear_value w7
      have kA := k6.then k7
      have h5 : ∀ b, is p b → ¬ TyB w' b 5 := by rintro b rfl ht; exact absurd (ht.uniq hB.ty) (by decide)
      obtain ⟨cs, ho, hq, hP⟩ := h.own
      refine ⟨rfl, q, ⟨⟨d0, d1, d2, n0, n1, n2, n, hB7, fun _ => rfl, h0.keep kA h5, h1'.keep kA h5, h2.keep kA h5, g3.keep kA h5, g4.keep kA h5, g5.keep kA h5⟩, ⟨cs, own_keep ho kA ?_, hq, hP.keep kA h5⟩, h.lo_, h.av.up kA, ?_⟩, (kA.mono fun _ _ h => .inl h), fun b hb => .inl hb⟩
      · rintro b hb rfl
        cases hq : q.a with
        | none => rw [Sv.v, hq] at hb; cases hb
        | some z =>
          rw [Sv.v, hq] at hb
          simp only [Value.ownBlock, Option.some.injEq] at hb
          exact absurd ((own_ty ho ⟨z, hq, hb⟩).1.uniq hB.ty) (by decide)
      · exact ⟨h.ok.small, fun _ => ⟨by show 0 ≤ n; omega, hn⟩⟩

/-- The i-th pending raw write. -/
theorem PendC.at_ {w : World} : ∀ {s0 : Fs} {ss : List Fs} {cs : List Value}, PendC w s0 ss cs → ∀ {i : Nat}, i < ss.length →
    ∃ (f at_ : Nat) (b : Sv) (l : Bs) (cut : Bool), cs[i * 4]? = some (.int .i64 f) ∧ cs[i * 4 + 1]? = some (.int .i64 at_) ∧ cs[i * 4 + 2]? = some b.v ∧ cs[i * 4 + 3]? = some (.bool cut) ∧
      Rs w b l ∧ f < 3 ∧ at_ ≤ (((s0 :: ss).getD i s0).get f).length ∧ l.length ≤ 65536 ∧ (s0 :: ss).getD (i + 1) s0 = ((s0 :: ss).getD i s0).set f (wrt (((s0 :: ss).getD i s0).get f) at_ l cut)
  | s0, [], _, h, i, hi => by simp at hi
  | s0, s1 :: ss, cs, h, i, hi => by
    obtain ⟨f, at_, b, l, cut, cs', rfl, h2, h3, h4, h5, h6, h7⟩ := h
    cases i with
    | zero => exact ⟨f, at_, b, l, cut, rfl, rfl, rfl, rfl, h2, h3, h4, h5, h6⟩
    | succ i =>
      obtain ⟨f, at_, b, l, cut, g0, g1, g2, g3, g4, g5, g6, g7, g8⟩ := PendC.at_ h7 (i := i) (by simpa using hi)
      have hi' : i < ss.length := by simpa using hi
      have e1 : (s0 :: s1 :: ss).getD (i + 1) s0 = (s1 :: ss).getD i s1 := by
        simp only [List.getD_cons_succ]
        simp only [List.getD_eq_getElem?_getD]
        rw [List.getElem?_eq_getElem (by simp; omega)]; rfl
      have e2 : (s0 :: s1 :: ss).getD (i + 1 + 1) s0 = (s1 :: ss).getD (i + 1) s1 := by
        simp only [List.getD_cons_succ]
        simp only [List.getD_eq_getElem?_getD]
        rw [List.getElem?_eq_getElem (by omega)]; rfl
      rw [e1, e2]
      refine ⟨f, at_, b, l, cut, ?_, ?_, ?_, ?_, g4, g5, g6, g7, g8⟩
      · rw [Nat.add_mul]; simpa using g0
      · rw [Nat.add_mul, show i * 4 + 1 * 4 + 1 = (i * 4 + 1) + 4 by omega]; simpa using g1
      · rw [Nat.add_mul, show i * 4 + 1 * 4 + 2 = (i * 4 + 2) + 4 by omega]; simpa using g2
      · rw [Nat.add_mul, show i * 4 + 1 * 4 + 3 = (i * 4 + 3) + 4 by omega]; simpa using g3

omit [Av] in
theorem A.keep_le (x : A) (k : Int) : x.keep k ≤ x.rest.length := by unfold A.keep mnI mxI; split <;> split <;> omega
omit [Av] in
theorem A.st_mem (x : A) (i : Nat) : x.st i ∈ x.first :: x.rest := by
  unfold A.st
  rw [List.getD_eq_getElem?_getD]
  cases h : (x.first :: x.rest)[i]? with
  | none => simp
  | some s => exact List.mem_of_getElem? h

theorem Crash_spec (h : DkR w lo p q x) (k : Int) : Calls Try.prog 23 #[dp p, .int .i64 k] w fun e w' => ∃ p', e = .returned (dp p') ∧ DkR w' w.heap.size p' ⟨none, 0, 0⟩ (x.Crash k) ∧ Keep no w w' := by
  refine c23 ?_
  unfold sh23
  refine (new_spec w h.av).mono ?_
  rintro e w4 ⟨p5, rfl, h4, k4, hp5, hB4⟩
  have g4 := h.no_ k4
  obtain ⟨d0, d1, d2, n0, n1, n2, dl, hB, hal, h0, h1, h2, h3⟩ := g4.ex
  refine ⟨_, rfl, _, _, _, _, _, _, _, _, _, hB.cell 0, by rw [addP]; exact hB.cell 1, by rw [addP]; exact hB.cell 2, by rw [addP]; exact hB4.wrN (by simp [dkC]), ?_⟩
  clear h3
  intro w10
  have hB10 : Bk w10 p5 (dkC ⟨none, 0, 0⟩ ⟨none, 0, 0⟩ ⟨none, 0, 0⟩ d0 d1 d2 ⟨none, 0, 0⟩ 0 false 0) 112 := by
    have := hB4.setN (o := 3) (vs := [d0.v, d1.v, d2.v]) (i := 0)
    rw [← Nat.zero_add 3, ← addP] at this
    exact this
  have k10 : Keep (is p5) w4 w10 := setN_keep (S := is p5) (by rw [addP]; rfl) _ _ _
  clear_value w10
  intro w11
  replace hB10 : Bk w11 p5 _ _ := hB10.drew
  replace k10 : Keep (is p5) w4 w11 := k10.no (Keep.drew _ _)
  clear_value w11
  have hpn : ∀ b, is p5 b → w.heap.size ≤ b := by rintro b rfl; omega
  have K11 : Keep no w w11 := k4.new k10 hpn
  have g11 := h.no_ K11
  have h55 : ∀ b, is p5 b → ¬ TyB w4 b 5 := by rintro b rfl ht; exact absurd (ht.uniq hB4.ty) (by decide)
  have r0 := h0.keep k10 h55
  have r1 := h1.keep k10 h55
  have r2 := h2.keep k10 h55
  have hp : p < w.heap.size := h.pmono
  obtain ⟨cs, ho, hqn, hP⟩ := g11.own
  have hBp : ∃ C : Array Value, Bk w11 p C 112 ∧ C[6]? = some q.v := ⟨_, hB.keep k10 (by unfold is; omega), rfl⟩
  obtain ⟨C, hC, hC6⟩ := hBp
  have hkl := x.keep_le k
  have hk0 : 0 ≤ mnI (mxI k 0) (q.n : Int) := by unfold mnI mxI; split <;> split <;> omega
  have hkq : (mnI (mxI k 0) (q.n : Int)).toNat = x.keep k := by unfold A.keep; rw [hqn]
  have hr := Rd.own ho
  have hqc := hr.2.1
  refine ⟨q.a, q.n, q.c, by rw [addP, hC.cell]; exact hC6, q.a, q.n, q.c, by rw [addP, hC.cell]; exact hC6, hk0, by omega, ?_⟩
  rw [hkq]
  refine ⟨fun vs v => ∃ (i : Nat) (m0 m1 m2 : Sv), vs = [.int .i64 i] ∧ i ≤ x.keep k ∧ Bk v p5 (dkC ⟨none, 0, 0⟩ ⟨none, 0, 0⟩ ⟨none, 0, 0⟩ m0 m1 m2 ⟨none, 0, 0⟩ 0 false 0) 112 ∧
      Rs v m0 (x.st i).a ∧ Rs v m1 (x.st i).b ∧ Rs v m2 (x.st i).c ∧ Keep no w v, fun vs v => match vs with | [.int _ i] => x.keep k - i.toNat | _ => 0, ⟨0, d0, d1, d2, rfl, by omega, hB10, r0, r1, r2, K11⟩, ?_⟩
  rintro w15 n14 ⟨i, m0, m1, m2, hv, hi, hB15, s0, s1, s2, K15⟩
  cases hv
  refine cond_d (fun hlt => ?_) (fun hge => ?_)
  · have hlt' : i < x.keep k := by omega
    obtain ⟨cs, ho, hqn, hP⟩ := (h.no_ K15).own
    have hr15 := (Rd.own ho).sub (Nat.zero_le (x.keep k)) (by rw [hqn]; exact hkl)
    obtain ⟨q18, hq18, hc18⟩ := hr15.at_ (i := i) (by omega)
    obtain ⟨f, at_, b, l, cut, c0, c1, c2, c3, hb, hf, ha, hl, hst⟩ := hP.at_ (i := i) (by omega)
    have hcell : ∀ j u, j < 4 → cs[i * 4 + j]? = some u → w15.cell? ((q18.add (i * 4)).add j) = some u := by
      intro j u hj hu
      obtain ⟨u', hu', hc⟩ := hc18 j hj
      rw [Nat.zero_mul, List.drop_zero, List.getElem?_take, if_pos (by omega)] at hu'
      rw [hu] at hu'; cases hu'; exact hc
    refine ⟨q18, hq18, by omega, by omega, ?_⟩
    rw [Int.toNat_natCast]
    refine ⟨_, _, _, _, _, _, by rw [← addZ (q18.add (i * 4))]; exact hcell 0 _ (by omega) c0, hcell 1 _ (by omega) c1, hcell 2 _ (by omega) c2, hcell 3 _ (by omega) c3, ?_⟩
    intro p23 w24
    have b24 : Bk w24 p23 #[.int .i64 0, .int .i64 0, .slice none 0 0, .bool false] 114 := Bk.new w15 _ _
    have k24 : Keep no w15 w24 := Keep.alloc _ _ _
    have hp23 : w15.heap.size ≤ p23 := Nat.le_refl _
    clear_value p23 w24
    refine ⟨b24.wrN (by simp), ?_⟩
    intro w25
    have b25 : Bk w25 p23 #[.int .i64 f, .int .i64 at_, b.v, .bool cut] 114 := b24.setAll rfl
    have k25 : Keep (is p23) w24 w25 := setN_keep (S := is p23) (a := ⟨p23, 0, none⟩) rfl _ _ _
    clear_value w25
    intro w26
    replace b25 : Bk w26 p23 _ _ := b25.drew
    replace k25 : Keep (is p23) w24 w26 := k25.no (Keep.drew _ _)
    clear_value w26
    have k26 : Keep no w15 w26 := k24.new k25 (by rintro y rfl; exact hp23)
    have hB26 := hB15.no k26
    refine ⟨_, _, _, _, _, _, _, _, _, by rw [addP]; exact hB26.cell 3, by rw [addP]; exact hB26.cell 4, by rw [addP]; exact hB26.cell 5, _, _, _, _, _, _, b25.cell 0, b25.cell 1, b25.cell 2, b25.cell 3, ?_⟩
    have hsm := (h.ok.small _ (x.st_mem i)).get f
    refine (done_spec (X0 := x.st i) (s0.no k26) (s1.no k26) (s2.no k26) (hb.no k26) hf ha hsm hl ((h.av.up K15).up k26)).mono ?_
    rintro e w36 ⟨y0, y1, y2, rfl, t0, t1, t2, k36⟩
    have hB36 := hB26.no k36
    refine ⟨_, _, _, _, _, _, _, _, _, rfl, by rw [addP]; exact hB36.wrN (by simp [dkC]), ?_⟩
    intro w41
    have hB41 : Bk w41 p5 (dkC ⟨none, 0, 0⟩ ⟨none, 0, 0⟩ ⟨none, 0, 0⟩ y0 y1 y2 ⟨none, 0, 0⟩ 0 false 0) 112 := by
      have := hB36.setN (o := 3) (vs := [y0.v, y1.v, y2.v]) (i := 0)
      rw [← Nat.zero_add 3, ← addP] at this
      exact this
    have k41 : Keep (is p5) w36 w41 := setN_keep (S := is p5) (by rw [addP]; rfl) _ _ _
    clear_value w41
    have h5 : ∀ b, is p5 b → ¬ TyB w36 b 5 := by rintro b rfl ht; exact absurd (ht.uniq hB36.ty) (by decide)
    have est : x.st (i + 1) = (x.st i).set f (wrt ((x.st i).get f) at_ l cut) := hst
    have ei : IntKind.i64.wrap ((i : Int) + 1) = ((i + 1 : Nat) : Int) := by
      have := h.ok
      have : (i : Int) < 9223372036854775807 := by have := hr.2.2.1; simp only [maxLen] at this; omega
      rw [IntWalk.i64_in _ ⟨by omega, by omega⟩]; rfl
    rw [ei]
    refine ⟨⟨i + 1, y0, y1, y2, rfl, by omega, hB41, ?_, ?_, ?_, (K15.no (k26.then k36)).new k41 hpn⟩, ?_⟩
    · rw [est]; exact t0.keep k41 h5
    · rw [est]; exact t1.keep k41 h5
    · rw [est]; exact t2.keep k41 h5
    · show x.keep k - ((i + 1 : Nat) : Int).toNat < x.keep k - (i : Int).toNat
      omega
  · have hik : i = x.keep k := by omega
    refine ⟨_, _, _, _, _, _, _, _, _, by rw [addP]; exact hB15.cell 3, by rw [addP]; exact hB15.cell 4, by rw [addP]; exact hB15.cell 5, hB15.wrN (by simp [dkC]), ?_⟩
    intro w47
    have hB47 : Bk w47 p5 (dkC m0 m1 m2 m0 m1 m2 ⟨none, 0, 0⟩ 0 false 0) 112 := hB15.setN (o := 0) (vs := [m0.v, m1.v, m2.v]) (i := 0)
    have k47 : Keep (is p5) w15 w47 := setN_keep (S := is p5) (a := ⟨p5, 0, none⟩) rfl _ _ _
    clear_value w47
    have h5 : ∀ b, is p5 b → ¬ TyB w15 b 5 := by rintro b rfl ht; exact absurd (ht.uniq hB15.ty) (by decide)
    subst hik
    refine ⟨p5, rfl, ⟨⟨m0, m1, m2, m0, m1, m2, 0, hB47, (fun h => by cases h), s0.keep k47 h5, s1.keep k47 h5, s2.keep k47 h5, s0.keep k47 h5, s1.keep k47 h5, s2.keep k47 h5⟩, ⟨[], World.ownsRow_nil _ _ _ _, rfl, rfl⟩, by omega, (h.av.up K15).up k47, ?_⟩, K15.new k47 hpn⟩
    refine ⟨fun s hs => ?_, fun h => by cases h⟩
    have hs' : s ∈ [x.st (x.keep k)] := hs
    simp at hs'; rw [hs']; exact h.ok.small _ (x.st_mem _)
end
end Go.Proofs.Ytmfidfaiopogbaa
