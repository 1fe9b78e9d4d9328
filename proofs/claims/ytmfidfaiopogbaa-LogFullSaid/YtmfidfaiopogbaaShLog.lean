/- The log: pieces, steps, Sync, Room, Append. -/
import Derived.Test.YtmfidfaiopogbaaShRecs2
import Derived.Test.YtmfidfaiopogbaaShTL
import Derived.Test.YtmfidfaiopogbaaShRef
set_option linter.unusedVariables false
set_option linter.unusedSimpArgs false
set_option linter.unusedSectionVars false
set_option maxRecDepth 4000
namespace Go.Proofs.Ytmfidfaiopogbaa
open Go Go.Sh

/-- Bytes are written, eight at a time. -/
def A.pieces (x : A) (f off : Nat) (l : Bs) : A × Int :=
  if h : l = [] then (x, 0)
  else if (x.Write f off (l.take 8)).2 = 0 then (x.Write f off (l.take 8)).1.pieces f (off + 8) (l.drop 8) else x.Write f off (l.take 8)
termination_by l.length
decreasing_by
  have : 0 < l.length := List.length_pos_iff.2 h
  simp only [List.length_drop]; omega
theorem A.pieces_nil (x : A) (f off : Nat) : x.pieces f off [] = (x, 0) := by rw [A.pieces, dif_pos rfl]
theorem A.pieces_ok {x : A} {f off : Nat} {l : Bs} (h : l ≠ []) (h0 : (x.Write f off (l.take 8)).2 = 0) : x.pieces f off l = (x.Write f off (l.take 8)).1.pieces f (off + 8) (l.drop 8) := by rw [A.pieces, dif_neg h, if_pos h0]
theorem A.pieces_bad {x : A} {f off : Nat} {l : Bs} (h : l ≠ []) (h0 : (x.Write f off (l.take 8)).2 ≠ 0) : x.pieces f off l = x.Write f off (l.take 8) := by rw [A.pieces, dif_neg h, if_neg h0]
theorem A.pieces_len : ∀ (m : Nat) (x : A) (f off : Nat) (l : Bs), l.length ≤ m → (x.pieces f off l).1.rest.length ≤ x.rest.length + l.length := by
  intro m
  induction m with
  | zero =>
    intro x f off l hl
    have : l = [] := List.eq_nil_of_length_eq_zero (by omega)
    subst this
    rw [A.pieces_nil]; simp
  | succ m ih =>
    intro x f off l hl
    by_cases h : l = []
    · subst h; rw [A.pieces_nil]; simp
    · have hp : 0 < l.length := List.length_pos_iff.2 h
      have hw := x.Write_len f off (l.take 8)
      by_cases h0 : (x.Write f off (l.take 8)).2 = 0
      · rw [A.pieces_ok h h0]
        have := ih (x.Write f off (l.take 8)).1 f (off + 8) (l.drop 8) (by rw [List.length_drop]; omega)
        rw [List.length_drop] at this
        omega
      · rw [A.pieces_bad h h0]; omega

section
variable [Av]
/-- The block l is the log of the disk p. -/
structure LgR (w : World) (lo l p : Nat) (q : Sv) (x : A) (f n : Nat) (d : Bool) : Prop where
  dk : DkR w lo p q x
  bk : Bk w l #[dp p, .int .i64 f, .int .i64 n, .bool d] 147
  lo_ : lo ≤ l
def lg (l p : Nat) (q : Sv) : Nat → Prop := fun b => b = l ∨ dk p q b
def LDid (w w' : World) (lo l p : Nat) (q : Sv) (y : A) (f n : Nat) (d : Bool) : Prop :=
  ∃ q' : Sv, LgR w' lo l p q' y f n d ∧ Keep (lg l p q) w w' ∧ ∀ b, lg l p q' b → lg l p q b ∨ w.heap.size ≤ b
section
variable {w w' w'' : World} {lo l p f n : Nat} {q : Sv} {x y : A} {d : Bool}
theorem dk_ty (h : DkR w lo p q x) {b : Nat} (hb : dk p q b) : TyB w b 112 ∨ TyB w b 114 := by
  obtain ⟨d0, d1, d2, n0, n1, n2, dl, hB, _⟩ := h.ex
  obtain ⟨cs, ho, _⟩ := h.own
  rcases hb with rfl | hb
  · exact .inl hB.ty
  · exact .inr (own_ty ho hb).1
/-- Blocks of other types than a disk's and a log's stand. -/
theorem dk_off (h : DkR w lo p q x) {b e : Nat} (ht : TyB w b e) (h1 : e ≠ 112 := by decide) (h2 : e ≠ 114 := by decide) : ¬ dk p q b := fun hb => by
  rcases dk_ty h hb with h3 | h3
  · exact h1 (ht.uniq h3)
  · exact h2 (ht.uniq h3)
theorem LgR.off (h : LgR w lo l p q x f n d) {b e : Nat} (ht : TyB w b e) (h1 : e ≠ 112 := by decide) (h2 : e ≠ 114 := by decide) (h3 : e ≠ 147 := by decide) : ¬ lg l p q b := fun hb => by
  rcases hb with rfl | hb
  · exact h3 (ht.uniq h.bk.ty)
  · exact dk_off h.dk ht h1 h2 hb
theorem LgR.new (h : LgR w lo l p q x f n d) {b : Nat} (hb : lg l p q b) : lo ≤ b := by
  rcases hb with rfl | hb
  · exact h.lo_
  · exact h.dk.new hb
theorem LgR.no_ (h : LgR w lo l p q x f n d) (k : Keep no w w') : LgR w' lo l p q x f n d := ⟨h.dk.no_ k, h.bk.no k, h.lo_⟩
theorem LDid.same (h : LgR w lo l p q x f n d) (k : Keep no w w') : LDid w w' lo l p q x f n d := ⟨q, h.no_ k, k.mono fun _ _ h => h.elim, fun _ h => .inl h⟩
theorem LDid.trans {n' f' : Nat} {d' : Bool} (k : Keep (lg l p q) w w') {q' : Sv} (hq : ∀ b, lg l p q' b → lg l p q b ∨ w.heap.size ≤ b) (h : LDid w' w'' lo l p q' y f' n' d') : LDid w w'' lo l p q y f' n' d' := by
  obtain ⟨q2, d2, k2, h2⟩ := h
  refine ⟨q2, d2, k.trans k2 (fun _ _ h => h) (fun b hb h => (hq b h).resolve_right (by omega)), fun b hb => ?_⟩
  rcases h2 b hb with h | h
  · exact hq b h
  · exact .inr (Nat.le_trans k.size h)
/-- The disk did a thing: so did the log. -/
theorem LgR.did (h : LgR w lo l p q x f n d) (hd : Did w w' lo p q y) : LDid w w' lo l p q y f n d := by
  obtain ⟨q', h1, h2, h3⟩ := hd
  refine ⟨q', ⟨h1, h.bk.keep h2 (dk_off h.dk h.bk.ty), h.lo_⟩, h2.mono fun _ _ hb => .inr hb, fun b hb => ?_⟩
  rcases hb with rfl | hb
  · exact .inl (.inl rfl)
  · rcases h3 b hb with h4 | h4
    · exact .inl (.inr h4)
    · exact .inr h4
/-- The log's own cells are written. -/
theorem LgR.cell {v : Value} {o f' n' : Nat} {d' : Bool} (h : LgR w lo l p q x f n d) (hc : (#[dp p, .int .i64 f, .int .i64 n, .bool d] : Array Value).setIfInBounds o v = #[dp p, .int .i64 f', .int .i64 n', .bool d']) :
    LgR (w.setCell ⟨l, o, none⟩ v) lo l p q x f' n' d' ∧ Keep (is l) w (w.setCell ⟨l, o, none⟩ v) := by
  have k : Keep (is l) w (w.setCell ⟨l, o, none⟩ v) := Keep.set (S := is l) _ _ rfl
  refine ⟨⟨h.dk.keep k fun b hb => ?_, ?_, h.lo_⟩, k⟩
  · obtain rfl : b = l := hb
    exact ⟨fun hb => (dk_off h.dk h.bk.ty) hb, fun ht => absurd (ht.uniq h.bk.ty) (by decide)⟩
  · have := h.bk.set o v
    rw [hc] at this
    exact this

/-- The bytes are written behind off. -/
theorem lwrite_spec (h : LgR w lo l p q x f n d) (g off : Nat) {b : Option Addr} {m c : Nat} {bs : Bs} (hb : Rd w 5 1 b m c (bvs bs)) (ho : off ≤ 1000000) (hn : x.rest.length + bs.length ≤ 1000000) :
    Calls Try.prog 91 #[dp l, .int .i64 g, .int .i64 off, .slice b m c] w fun e w' => e = .returned (.int .i64 (x.pieces g off bs).2) ∧ LDid w w' lo l p q (x.pieces g off bs).1 f n d := by
  refine c91 ?_
  unfold sh91
  refine ⟨fun vs v => ∃ (b1 : Option Addr) (m1 c1 : Nat) (off1 : Nat) (bs1 : Bs) (x1 : A) (q1 : Sv), vs = [.int .i64 0, .slice b1 m1 c1, .int .i64 off1] ∧ Rd v 5 1 b1 m1 c1 (bvs bs1) ∧ off1 + bs1.length = off + bs.length ∧ x1.rest.length + bs1.length ≤ 1000000 ∧
      x.pieces g off bs = x1.pieces g off1 bs1 ∧ LgR v lo l p q1 x1 f n d ∧ Keep (lg l p q) w v ∧ (∀ y, lg l p q1 y → lg l p q y ∨ w.heap.size ≤ y),
    fun vs v => match vs with | [_, .slice _ m _, _] => m | _ => 0,
    ⟨b, m, c, off, bs, x, q, rfl, hb, rfl, hn, rfl, h, Keep.refl _ _, fun _ h => .inl h⟩, ?_⟩
  rintro w8 n5 b6 m6 c6 off7 ⟨b1, m1, c1, off1, bs1, x1, q1, hv, hr, hoff, hrest, hpc, hl, k8, hq1⟩
  cases hv
  have hm : m6 = bs1.length := by have := hr.1; simp at this; exact this.symm
  have hmc := hr.2.1
  refine cond_d (fun hpos => ?_) (fun hz => ?_)
  · intro w11
    have kd : Keep no w8 w11 := Keep.drew _ _
    clear_value w11
    have hl11 := hl.no_ kd
    have hne : bs1 ≠ [] := fun h => by subst h; simp at hm; omega
    have emn : mnI ((m6 : Nat) : Int) 8 = ((min m6 8 : Nat) : Int) := by unfold mnI; split <;> omega
    rw [emn]
    refine ⟨dp p |> fun _ => _, hl11.bk.cell 0, by omega, by omega, ?_⟩
    have hr11 := hr.no kd
    have htake : Rd w11 0 1 (subS b6 c6 0 1) (min m6 8 - 0) (c6 - 0) (bvs (bs1.take 8)) := by
      have := Rd.takeB hr11 (r := min m6 8) (by omega)
      have e : bs1.take (min m6 8) = bs1.take 8 := by
        rw [hm, Nat.min_comm]
        exact (List.take_eq_take_min ..).symm
      rw [e] at this
      exact this.weak
    rw [Int.toNat_natCast (min m6 8)]
    refine (Write_spec hl11.dk g off1 (b := ⟨_, _, _⟩) (l := bs1.take 8) htake (by omega)).mono ?_
    rintro e w14 ⟨rfl, hdid⟩
    refine ⟨_, rfl, ?_⟩
    have hdd := hl11.did hdid
    have k11 : Keep (lg l p q) w w11 := k8.no kd
    have hL : LDid w w14 lo l p q (x1.Write g off1 (bs1.take 8)).1 f n d := LDid.trans (w' := w11) k11 hq1 hdd
    have hwl := x1.Write_len g off1 (bs1.take 8)
    by_cases h0 : (x1.Write g off1 (bs1.take 8)).2 = 0
    · rw [A.pieces_ok hne h0] at hpc
      refine cond_f (by simp [h0]) ⟨by omega, by omega, ?_⟩
      obtain ⟨q2, hl2, k2, hq2⟩ := hL
      obtain ⟨_, _, k12, _⟩ := hdd
      have hr14 : Rd w14 5 1 b6 m6 c6 (bvs bs1) := hr11.keep k12 fun b hb ht => (hl11.off ht) hb
      have hlen : (bs1.drop (min m6 8)).length = bs1.length - min m6 8 := List.length_drop
      have e : bs1.drop (min m6 8) = bs1.drop 8 := by
        rcases Nat.le_total m6 8 with h8 | h8
        · rw [Nat.min_eq_left h8, List.drop_of_length_le (by omega), List.drop_of_length_le (by omega)]
        · rw [Nat.min_eq_right h8]
      have hdr := Rd.dropB hr14 (r := min m6 8) (by omega)
      rw [e] at hdr hlen
      have eo : IntKind.i64.wrap ((off1 : Int) + ((min m6 8 : Nat) : Int)) = ((off1 + min m6 8 : Nat) : Int) := by rw [IntWalk.i64_in _ ⟨by omega, by omega⟩]; omega
      rw [eo]
      refine ⟨⟨_, _, _, off1 + min m6 8, bs1.drop 8, _, q2, rfl, hdr, by omega, by omega, ?_, hl2, k2, hq2⟩, by show m6 - min m6 8 < m6; omega⟩
      rw [hpc]
      rcases Nat.le_total m6 8 with h8 | h8
      · have : bs1.drop 8 = [] := List.drop_of_length_le (by omega)
        rw [this, A.pieces_nil, A.pieces_nil]
      · rw [Nat.min_eq_right h8]
    · rw [A.pieces_bad hne h0] at hpc
      refine cond_t (by simp [h0]) ?_
      rw [hpc]
      exact ⟨rfl, hL⟩
  · have : bs1 = [] := List.eq_nil_of_length_eq_zero (by omega)
    subst this
    rw [A.pieces_nil] at hpc
    rw [hpc]
    exact ⟨rfl, q1, hl, k8, hq1⟩
end

/-- Steps, one behind the other. -/
theorem steps_spec {w : World} {a : Option Addr} {n c : Nat} (Inv : Nat → World → Prop) (Q : Int → World → Prop) (hn : n ≤ 1000000) (h0 : Inv 0 w)
    (hs : ∀ i v, i < n → Inv i v → ∃ (q : Addr) (f : Nat) (x y : Array Value), a = some q ∧ v.cell? (q.add (i * 1)) = some (.func (.func f) x y) ∧ cl f = true ∧
      Calls Try.prog f (x.toList ++ ([] : List Value) ++ y.toList).toArray v fun e v' => ∃ m : Int, e = .returned (.int .i64 m) ∧ (m ≠ 0 → Q m v') ∧ (m = 0 → Inv (i + 1) v'))
    (he : ∀ v, Inv n v → Q 0 v) : Calls Try.prog 88 #[.slice a n c] w fun e v => ∃ m : Int, e = .returned (.int .i64 m) ∧ Q m v := by
  refine c88 ?_
  unfold sh88
  refine ⟨fun vs v => ∃ i : Nat, vs = [.int .i64 0, .int .i64 i] ∧ i ≤ n ∧ Inv i v, fun vs v => match vs with | [_, .int _ i] => n - i.toNat | _ => 0, ⟨0, rfl, by omega, h0⟩, ?_⟩
  rintro w4 n2 n3 ⟨i, hv, hi, hI⟩
  cases hv
  refine cond_d (fun hlt => ?_) (fun hge => ?_)
  · obtain ⟨q, f, x, y, hq, hc, hcl, hcall⟩ := hs i w4 (by omega) hI
    refine ⟨q, hq, by omega, by omega, _, by rw [Int.toNat_natCast]; exact hc, ?_⟩
    show cond (cl f) _ False
    refine cond_t hcl ?_
    refine hcall.mono ?_
    rintro e v' ⟨m, rfl, h1, h2⟩
    refine ⟨m, rfl, ?_⟩
    have ei : IntKind.i64.wrap ((i : Int) + 1) = ((i + 1 : Nat) : Int) := by rw [IntWalk.i64_in _ ⟨by omega, by omega⟩]; rfl
    refine cond_i (fun hm => ⟨m, rfl, h1 (by simpa using hm)⟩) (fun hm => ?_)
    rw [ei]
    refine ⟨⟨i + 1, rfl, by omega, h2 (by simpa using hm)⟩, ?_⟩
    show n - ((i + 1 : Nat) : Int).toNat < n - (i : Int).toNat
    omega
  · have : i = n := by omega
    subst this
    exact ⟨0, rfl, he _ hI⟩
/-- Steps, unless the log is dead. -/
theorem run_spec {w : World} {lo l p f n : Nat} {q : Sv} {x : A} {d : Bool} {a : Option Addr} {m c : Nat} (h : LgR w lo l p q x f n d) (R : Int → World → Prop)
    (hd : d = true → ∀ w', w' = w.setCell ⟨l, 3, none⟩ (.bool true) → R 180 w')
    (hr : d = false → Calls Try.prog 88 #[.slice a m c] w fun e v => ∃ k : Int, e = .returned (.int .i64 k) ∧ (k ≠ 0 → (∃ b, v.cell? ⟨l, 3, none⟩ = some (.bool b)) ∧ v.frozen? ⟨l, 3, none⟩ = false ∧ R 180 (v.setCell ⟨l, 3, none⟩ (.bool true))) ∧ (k = 0 → R 0 v)) :
    Calls Try.prog 89 #[dp l, .slice a m c] w fun e v => ∃ k : Int, e = .returned (.int .i64 k) ∧ R k v := by
  refine c89 ?_
  unfold sh89
  intro K9
  refine ⟨d, by rw [addP]; exact h.bk.cell 3, ?_⟩
  refine cond_i (fun hd' => ?_) (fun hd' => ?_)
  · refine cond_t rfl ?_
    rw [addP]
    exact ⟨h.bk.wr (by simp), _, rfl, hd hd' _ rfl⟩
  · refine (hr hd').mono ?_
    rintro e v ⟨k, rfl, h1, h2⟩
    refine ⟨k, rfl, ?_⟩
    refine cond_i (fun hk => ?_) (fun hk => ?_)
    · obtain ⟨⟨b, hb⟩, hf, hR⟩ := h1 (by simpa using hk)
      rw [addP]
      exact ⟨⟨⟨_, hb⟩, hf⟩, _, rfl, hR⟩
    · exact ⟨0, rfl, h2 (by simpa using hk)⟩
end
end Go.Proofs.Ytmfidfaiopogbaa
/- The log: Sync, Room, Append. -/
set_option linter.unusedVariables false
set_option linter.unusedSimpArgs false
set_option linter.unusedSectionVars false
set_option maxRecDepth 4000
namespace Go.Proofs.Ytmfidfaiopogbaa
open Go Go.Sh
def lgRun (d : Bool) (x : A) (r : A × Int) : A × Bool × Int := if d = true then (x, true, 180) else if r.2 = 0 then (r.1, false, 0) else (r.1, true, 180)
def appM (x : A) (f n : Nat) (d : Bool) (o : Op) : A × Nat × Bool × Int :=
  match enc o with
  | none => (x, n, d, 190)
  | some L => if 32768 < n + L.length then (x, n, d, 181) else
    if (lgRun d x (x.pieces f n L)).2.2 = 0 then ((lgRun d x (x.pieces f n L)).1, n + L.length, (lgRun d x (x.pieces f n L)).2.1, 0) else ((lgRun d x (x.pieces f n L)).1, n, (lgRun d x (x.pieces f n L)).2.1, (lgRun d x (x.pieces f n L)).2.2)
def roomM (n : Nat) (o : Op) : Bool := match enc o with | none => false | some L => decide (n + L.length ≤ 32768)
section
variable [Av]
section
variable {w w' w'' : World} {lo l p f n : Nat} {q : Sv} {x y : A} {d : Bool}
theorem LDid.pre {n' f' : Nat} {d' : Bool} (k : Keep no w w') (h : LDid w' w'' lo l p q y f' n' d') : LDid w w'' lo l p q y f' n' d' := LDid.trans (k.mono fun _ _ h => h.elim) (fun _ h => .inl h) h
theorem LDid.post {n' f' : Nat} {d' : Bool} (h : LDid w w' lo l p q y f' n' d') (k : Keep no w' w'') : LDid w w'' lo l p q y f' n' d' := by
  obtain ⟨q', h1, h2, h3⟩ := h
  exact ⟨q', h1.no_ k, h2.no k, h3⟩
theorem LDid.cell {v : Value} {o f' n' f2 n2 : Nat} {d' d2 : Bool} (h : LDid w w' lo l p q y f' n' d') (hc : (#[dp p, .int .i64 f', .int .i64 n', .bool d'] : Array Value).setIfInBounds o v = #[dp p, .int .i64 f2, .int .i64 n2, .bool d2]) :
    LDid w (w'.setCell ⟨l, o, none⟩ v) lo l p q y f2 n2 d2 := by
  obtain ⟨q', h1, h2, h3⟩ := h
  obtain ⟨g1, g2⟩ := h1.cell hc
  exact ⟨q', g1, h2.trans (g2.mono fun b _ hb => Or.inl hb) (fun _ _ h => h) fun b _ hb => hb, h3⟩

theorem run_one {b k : Nat} {X Y : Array Value} (h : LgR w lo l p q x f n d) (hB : Bk w b #[.func (.func k) X Y] 42) (hcl : cl k = true) {r : A × Int}
    (hstep : Calls Try.prog k (X.toList ++ ([] : List Value) ++ Y.toList).toArray w fun e v => e = .returned (.int .i64 r.2) ∧ LDid w v lo l p q r.1 f n d) :
    Calls Try.prog 89 #[dp l, .slice (some ⟨b, 0, none⟩) 1 1] w fun e v => e = .returned (.int .i64 (lgRun d x r).2.2) ∧ LDid w v lo l p q (lgRun d x r).1 f n (lgRun d x r).2.1 := by
  refine (run_spec h (fun k v => k = (lgRun d x r).2.2 ∧ LDid w v lo l p q (lgRun d x r).1 f n (lgRun d x r).2.1) ?_ ?_).mono ?_
  · rintro rfl w' rfl
    refine ⟨rfl, ?_⟩
    exact LDid.cell (LDid.same h (Keep.refl _ _)) rfl
  · rintro rfl
    refine (steps_spec (fun i v => (i = 0 ∧ v = w) ∨ (i = 1 ∧ r.2 = 0 ∧ LDid w v lo l p q r.1 f n false)) (fun m v => (m ≠ 0 → (∃ b, v.cell? ⟨l, 3, none⟩ = some (.bool b)) ∧ v.frozen? ⟨l, 3, none⟩ = false ∧ (180 : Int) = (lgRun false x r).2.2 ∧ LDid w (v.setCell ⟨l, 3, none⟩ (.bool true)) lo l p q (lgRun false x r).1 f n (lgRun false x r).2.1) ∧
        (m = 0 → (0 : Int) = (lgRun false x r).2.2 ∧ LDid w v lo l p q (lgRun false x r).1 f n (lgRun false x r).2.1)) (by omega) (.inl ⟨rfl, rfl⟩) ?_ ?_).mono ?_
    · rintro i v hi (⟨rfl, rfl⟩ | ⟨rfl, _⟩)
      · refine ⟨⟨b, 0, none⟩, k, X, Y, rfl, by rw [addP]; exact hB.cell 0, hcl, ?_⟩
        refine hstep.mono ?_
        rintro e v' ⟨rfl, hl⟩
        refine ⟨_, rfl, fun hm => ⟨fun _ => ?_, fun h0 => absurd h0 hm⟩, fun hm => .inr ⟨rfl, hm, hl⟩⟩
        have e1 : lgRun false x r = (r.1, true, 180) := by unfold lgRun; rw [if_neg (by decide), if_neg hm]
        rw [e1]
        have hl2 := hl
        obtain ⟨q', h1, _, _⟩ := hl2
        exact ⟨⟨_, h1.bk.cell 3⟩, (h1.bk.wr (by simp)).2, rfl, LDid.cell hl rfl⟩
      · omega
    · rintro v (⟨h0, _⟩ | ⟨_, h0, hl⟩)
      · omega
      · have e1 : lgRun false x r = (r.1, false, 0) := by unfold lgRun; rw [if_neg (by decide), if_pos h0]
        rw [e1]
        exact ⟨fun h => absurd rfl h, fun _ => ⟨rfl, hl⟩⟩
    · rintro e v ⟨m, rfl, hQ⟩
      exact ⟨m, rfl, hQ⟩
  · rintro e v ⟨k, rfl, rfl, hl⟩
    exact ⟨rfl, hl⟩

theorem lsync_spec (h : LgR w lo l p q x f n d) : Calls Try.prog 57 #[dp l] w fun e v => e = .returned (.int .i64 (lgRun d x x.Sync).2.2) ∧ LDid w v lo l p q (lgRun d x x.Sync).1 f n (lgRun d x x.Sync).2.1 := by
  refine c57 ?_
  unfold sh57
  refine ⟨_, h.bk.cell 0, ?_⟩
  intro p3 w4
  have b3 : Bk w4 p3 #[.func (.func 30) #[dp p] #[]] 42 := Bk.new _ _ _
  have k4 : Keep no w w4 := Keep.alloc _ _ _
  clear_value p3 w4
  have h4 := h.no_ k4
  refine (run_one h4 b3 rfl (r := x.Sync) ?_).mono ?_
  · refine (Sync_spec h4.dk).mono ?_
    rintro e v ⟨rfl, hd⟩
    exact ⟨rfl, h4.did hd⟩
  · rintro e v ⟨rfl, hl⟩
    exact ⟨_, rfl, rfl, LDid.pre k4 hl⟩

theorem len_spec (h : LgR w lo l p q x f n d) : Calls Try.prog 51 #[dp l] w fun e v => e = .returned (.int .i64 n) ∧ v = w := by
  refine c51 ?_
  unfold sh51
  exact ⟨_, by rw [addP]; exact h.bk.cell 2, rfl, rfl⟩

theorem enc_small {o : Op} {L : Bs} (h : enc o = some L) : L.length ≤ 22 := by
  obtain ⟨s, hs, hok, rfl⟩ := enc_some h
  have := body_len hs hok
  simp [sealed]; omega

theorem room_spec (h : LgR w lo l p q x f n d) (hn : n ≤ 1000000) {o : Op} (ho : o.fit) : Calls Try.prog 61 #[dp l, opV o] w fun e v => e = .returned (.bool (roomM n o)) ∧ Keep no w v := by
  refine c61 ?_
  unfold sh61
  intro p7 w8
  have b7 : Bk w8 p7 (opC o) 57 := Bk.new _ _ _
  have k8 : Keep no w w8 := Keep.alloc _ _ _
  clear_value p7 w8
  refine ⟨_, _, _, _, _, b7.cell 0, b7.cell 1, b7.cell 2, b7.cell 3, b7.cell 4, ?_⟩
  refine (Encode_spec w8 ho).mono ?_
  rintro e w15 ⟨s, cd, rfl, k15, hcase⟩
  refine ⟨_, _, _, _, rfl, ?_⟩
  have h15 := h.no_ (k8.then k15)
  rcases hcase with ⟨he, rfl, rfl⟩ | ⟨L, he, rfl, hos⟩
  · refine cond_f rfl ⟨?_, k8.then k15⟩
    simp [roomM, he]
  · have hsn : s.n = L.length := by have := hos.1; simp at this; exact this.symm
    have hL := enc_small he
    refine cond_t rfl ⟨_, by rw [addP]; exact h15.bk.cell 2, ?_, k8.then k15⟩
    have e1 : IntKind.i64.wrap ((n : Int) + ((s.n : Nat) : Int)) = ((n + L.length : Nat) : Int) := by rw [hsn, IntWalk.i64_in _ ⟨by omega, by omega⟩]; omega
    rw [e1]
    simp only [roomM, he]
    congr 2
    exact decide_eq_decide.2 (by omega)

theorem append_spec (h : LgR w lo l p q x f n d) (hO : Old w) (hn : n ≤ 900000) (hr : x.rest.length ≤ 900000) {o : Op} (ho : o.fit) : Calls Try.prog 56 #[dp l, opV o] w fun e v =>
    e = .returned (.int .i64 (appM x f n d o).2.2.2) ∧ LDid w v lo l p q (appM x f n d o).1 f (appM x f n d o).2.1 (appM x f n d o).2.2.1 := by
  refine c56 ?_
  unfold sh56
  intro p7 w8 p9 w10
  have b7 : Bk w10 p7 #[dp l] 79 := (Bk.new w _ _).alloc _
  have b9 : Bk w10 p9 (opC o) 57 := Bk.new w8 _ _
  have k10 : Keep no w w10 := (Keep.alloc _ _ _).then (Keep.alloc _ _ _)
  clear_value p7 w8 p9 w10
  refine ⟨_, _, _, _, _, b9.cell 0, b9.cell 1, b9.cell 2, b9.cell 3, b9.cell 4, ?_⟩
  refine (Encode_spec w10 ho).mono ?_
  rintro e w17 ⟨s, cd, rfl, k17, hcase⟩
  refine ⟨_, _, _, _, rfl, ?_⟩
  intro p20 w21
  have b20 : Bk w21 p20 #[.slice none 0 0] 36 := Bk.new w17 _ _
  have k21 : Keep no w17 w21 := Keep.alloc _ _ _
  have h20 : w17.heap.size ≤ p20 := Nat.le_refl _
  clear_value p20 w21
  refine ⟨b20.wr (by simp), ?_⟩
  intro w22
  have c20 : Bk w22 p20 #[s.v] 36 := b20.set 0 _
  have k22 : Keep no w17 w22 := k21.new (Keep.set (S := is p20) _ _ rfl) (by rintro z rfl; exact h20)
  clear_value w22
  have K22 : Keep no w w22 := (k10.then k17).then k22
  have k10' := k17.then k22
  rcases hcase with ⟨he, rfl, rfl⟩ | ⟨L, he, rfl, hos⟩
  · refine cond_t rfl ?_
    have e1 : appM x f n d o = (x, n, d, 190) := by simp [appM, he]
    rw [e1]
    exact ⟨rfl, LDid.same h K22⟩
  have hsn : s.n = L.length := by have := hos.1; simp at this; exact this.symm
  have hL := enc_small he
  refine cond_f rfl ?_
  have d7 := b7.no k10'
  have d9 := b9.no k10'
  refine ⟨_, d7.cell 0, _, _, _, _, _, d9.cell 0, d9.cell 1, d9.cell 2, d9.cell 3, d9.cell 4, ?_⟩
  have h22 := h.no_ K22
  refine (room_spec h22 (by omega) ho).mono ?_
  rintro e w30 ⟨rfl, k30⟩
  refine ⟨_, rfl, ?_⟩
  have hroom : roomM n o = decide (n + L.length ≤ 32768) := by simp [roomM, he]
  rw [hroom]
  have hos30 := own_no' hos (k22.then k30)
  by_cases hfull : 32768 < n + L.length
  · rw [decide_eq_false (by omega)]
    refine cond_t rfl ?_
    have e1 : appM x f n d o = (x, n, d, 181) := by simp only [appM, he]; rw [if_pos hfull]
    rw [e1]
    exact ⟨rfl, LDid.same h (K22.then k30)⟩
  rw [decide_eq_true (by omega)]
  refine cond_f rfl ?_
  have e7 := d7.no k30
  refine ⟨_, e7.cell 0, ?_⟩
  intro p33 w34
  have b33 : Bk w34 p33 #[.func (.func 90) #[] #[.pointer (some ⟨p7, 0, none⟩), .pointer (some ⟨p20, 0, none⟩)]] 42 := Bk.new w30 _ _
  have k34 : Keep no w30 w34 := Keep.alloc _ _ _
  clear_value p33 w34
  have K34 : Keep no w w34 := (K22.then k30).then k34
  have h34 := h.no_ K34
  have f7 := e7.no k34
  have f20 := c20.no (k30.then k34)
  have hs34 : Rd w34 5 1 s.a s.n s.c (bvs L) := Rd.own (own_no' hos30 k34) fun _ b hb => hO.up k10 b hb
  have hstep : Calls Try.prog 90 #[.pointer (some ⟨p7, 0, none⟩), .pointer (some ⟨p20, 0, none⟩)] w34 fun e v => e = .returned (.int .i64 (x.pieces f n L).2) ∧ LDid w34 v lo l p q (x.pieces f n L).1 f n d := by
    refine c90 ?_
    unfold sh90
    intro w3
    have k3 : Keep no w34 w3 := Keep.drew _ _
    clear_value w3
    have h3 := h34.no_ k3
    refine ⟨_, (f7.no k3).cell 0, _, (f7.no k3).cell 0, ?_⟩
    refine ⟨f, by rw [addP]; exact h3.bk.cell 1, _, (f7.no k3).cell 0, ?_⟩
    refine ⟨n, by rw [addP]; exact h3.bk.cell 2, s.a, s.n, s.c, (f20.no k3).cell 0, ?_⟩
    refine (lwrite_spec h3 f n (hs34.no k3) (by omega) (by omega)).mono ?_
    rintro e w13 ⟨rfl, hl⟩
    exact ⟨_, rfl, rfl, LDid.pre k3 hl⟩
  refine (run_one h34 b33 rfl hstep).mono ?_
  rintro e w36 ⟨rfl, hl⟩
  refine ⟨_, rfl, ?_⟩
  generalize hg : lgRun d x (x.pieces f n L) = r at hl
  have e1 : appM x f n d o = if r.2.2 = 0 then (r.1, n + L.length, r.2.1, 0) else (r.1, n, r.2.1, r.2.2) := by
    simp only [appM, he]; rw [if_neg hfull, hg]
  rw [e1]
  by_cases h0 : r.2.2 = 0
  · rw [if_pos h0, h0]
    refine cond_t rfl ?_
    intro w38
    have k38 : Keep no w36 w38 := Keep.drew _ _
    clear_value w38
    obtain ⟨q', hl1, hl2, hl3⟩ := LDid.post hl k38
    have g7 : Bk w38 p7 #[dp l] 79 := f7.keep hl2 (h34.off f7.ty)
    have g20 : Bk w38 p20 #[s.v] 36 := f20.keep hl2 (h34.off f20.ty)
    refine ⟨_, g7.cell 0, ?_⟩
    refine ⟨n, by rw [addP]; exact hl1.bk.cell 2, s.a, s.n, s.c, g20.cell 0, ?_⟩
    show wr w38 ((⟨l, 0, none⟩ : Addr).add 2) ∧ _
    have ew : IntKind.i64.wrap ((n : Int) + ((s.n : Nat) : Int)) = ((n + L.length : Nat) : Int) := by rw [hsn, IntWalk.i64_in _ ⟨by omega, by omega⟩]; omega
    rw [addP, ew]
    refine ⟨hl1.bk.wr (by simp), rfl, ?_⟩
    exact LDid.pre K34 (LDid.cell (LDid.post hl k38) (by simp))
  · rw [if_neg h0]
    refine cond_f (by simpa using h0) ⟨rfl, LDid.pre K34 hl⟩
end
end
end Go.Proofs.Ytmfidfaiopogbaa
/- The log: Rewrite. -/
set_option linter.unusedVariables false
set_option linter.unusedSimpArgs false
set_option linter.unusedSectionVars false
set_option maxRecDepth 4000
namespace Go.Proofs.Ytmfidfaiopogbaa
open Go Go.Sh
/-- One thing behind the other, up to the first that is refused. -/
def A.seq : List (A → A × Int) → A → A × Int
  | [], x => (x, 0)
  | g :: r, x => if (g x).2 = 0 then A.seq r (g x).1 else g x
theorem A.seq_append : ∀ (a b : List (A → A × Int)) (x : A), A.seq (a ++ b) x = if (A.seq a x).2 = 0 then A.seq b (A.seq a x).1 else A.seq a x
  | [], b, x => by simp [A.seq]
  | g :: r, b, x => by
    show (if (g x).2 = 0 then A.seq (r ++ b) (g x).1 else g x) = _
    by_cases h : (g x).2 = 0
    · rw [if_pos h, A.seq_append r b]
      simp only [A.seq, if_pos h]
    · rw [if_neg h]
      simp only [A.seq, if_neg h]
theorem A.seq_ok {gs : List (A → A × Int)} {i : Nat} {g : A → A × Int} {x y : A} (hg : gs[i]? = some g) (h : A.seq (gs.take i) x = (y, 0)) (h0 : (g y).2 = 0) : A.seq (gs.take (i + 1)) x = ((g y).1, 0) := by
  obtain ⟨hi, rfl⟩ := List.getElem?_eq_some_iff.1 hg
  rw [List.take_succ_eq_append_getElem hi, A.seq_append, h, if_pos rfl]
  simp only [A.seq, if_pos h0]
theorem A.seq_bad {gs : List (A → A × Int)} {i : Nat} {g : A → A × Int} {x y : A} (hg : gs[i]? = some g) (h : A.seq (gs.take i) x = (y, 0)) (h0 : (g y).2 ≠ 0) : A.seq gs x = g y := by
  obtain ⟨hi, rfl⟩ := List.getElem?_eq_some_iff.1 hg
  have e : gs.take i ++ gs[i] :: gs.drop (i + 1) = gs := by rw [← List.drop_eq_getElem_cons hi, List.take_append_drop]
  have h3 : A.seq (gs.take i ++ gs[i] :: gs.drop (i + 1)) x = gs[i] y := by
    rw [A.seq_append, h, if_pos rfl]
    simp only [A.seq, if_neg h0]
  rw [e] at h3
  exact h3
theorem A.seq_len {B : Nat} : ∀ {gs : List (A → A × Int)} {x : A}, (∀ g ∈ gs, ∀ y, (g y).1.rest.length ≤ y.rest.length + B) → (A.seq gs x).1.rest.length ≤ x.rest.length + gs.length * B
  | [], x, _ => by simp [A.seq]
  | g :: r, x, h => by
    have h1 := h g (List.mem_cons_self ..) x
    simp only [A.seq, List.length_cons, Nat.succ_mul]
    split
    · have := A.seq_len (gs := r) (x := (g x).1) fun g' hg' => h g' (List.mem_cons_of_mem _ hg')
      omega
    · omega
def encs : List Op → Option Bs
  | [] => some []
  | o :: r => match enc o with
    | none => none
    | some l => (encs r).map (l ++ ·)
theorem encs_append : ∀ (a b : List Op), encs (a ++ b) = match encs a with
    | none => none
    | some p => (encs b).map (p ++ ·)
  | [], b => by simp [encs]
  | o :: r, b => by
    simp only [List.cons_append, encs]
    cases enc o with
    | none => rfl
    | some l =>
      simp only [encs_append r b]
      cases encs r with
      | none => rfl
      | some p => simp only [Option.map_some, Option.map_map]; congr 1; funext z; simp
theorem encs_snoc (os : List Op) (i : Nat) (h : i < os.length) : encs (os.take (i + 1)) = match encs (os.take i) with
    | none => none
    | some p => (enc os[i]).map (p ++ ·) := by
  rw [List.take_succ_eq_append_getElem h, encs_append]
  cases encs (os.take i) with
  | none => rfl
  | some p =>
    simp only [encs]
    cases enc os[i] with
    | none => rfl
    | some l => simp [encs]
theorem encs_bad {os : List Op} {i : Nat} (h : i < os.length) (hn : enc os[i] = none) : encs os = none := by
  have e : os = os.take i ++ os[i] :: os.drop (i + 1) := by rw [← List.drop_eq_getElem_cons h, List.take_append_drop]
  rw [e, encs_append]
  cases encs (os.take i) with
  | none => rfl
  | some p => simp [encs, hn]
theorem encs_len : ∀ {os : List Op} {l : Bs}, encs os = some l → l.length ≤ 22 * os.length
  | [], l, h => by simp [encs] at h; subst h; simp
  | o :: r, l, h => by
    simp only [encs] at h
    cases he : enc o with
    | none => rw [he] at h; cases h
    | some b =>
      rw [he] at h
      simp only [Option.map_eq_some_iff] at h
      obtain ⟨z, hz, rfl⟩ := h
      have h1 := encs_len hz
      have h2 := @enc_small noAv _ _ he
      simp; omega
def rewG (f : Nat) (all : Bs) : List (A → A × Int) := [fun x => x.pieces (3 - f) 0 all, A.Sync, fun x => x.Write 0 0 [UInt8.ofNat (3 - f)], A.Sync, fun x => x.Cut f 0]
def rewM (x : A) (f n : Nat) (d : Bool) (os : List Op) : A × Nat × Nat × Bool × Int :=
  match encs os with
  | none => (x, f, n, d, 190)
  | some all => if 32768 < all.length then (x, f, n, d, 181) else
    if (lgRun d x (A.seq (rewG f all) x)).2.2 = 0 then ((lgRun d x (A.seq (rewG f all) x)).1, 3 - f, all.length, (lgRun d x (A.seq (rewG f all) x)).2.1, 0)
    else ((lgRun d x (A.seq (rewG f all) x)).1, f, n, (lgRun d x (A.seq (rewG f all) x)).2.1, (lgRun d x (A.seq (rewG f all) x)).2.2)
section
variable [Av]
/-- Steps that do things to a disk, one behind the other. -/
theorem steps_seq {w : World} {a : Option Addr} {m c : Nat} {us : List Value} {gs : List (A → A × Int)} {x : A} (St : A → World → Prop) (h0 : St x w) (hu : us.length = m) (hg : gs.length = m) (hm : m ≤ 1000000)
    (hcell : ∀ y v, St y v → ∀ i u, us[i]? = some u → ∃ q, a = some q ∧ v.cell? (q.add (i * 1)) = some u)
    (hstep : ∀ i g y v, gs[i]? = some g → A.seq (gs.take i) x = (y, 0) → St y v → ∃ (k : Nat) (X Y : Array Value), us[i]? = some (.func (.func k) X Y) ∧ cl k = true ∧
      Calls Try.prog k (X.toList ++ ([] : List Value) ++ Y.toList).toArray v fun e v' => e = .returned (.int .i64 (g y).2) ∧ St (g y).1 v') :
    Calls Try.prog 88 #[.slice a m c] w fun e v => e = .returned (.int .i64 (A.seq gs x).2) ∧ St (A.seq gs x).1 v := by
  refine (steps_spec (fun i v => ∃ y, A.seq (gs.take i) x = (y, 0) ∧ St y v) (fun k v => k = (A.seq gs x).2 ∧ St (A.seq gs x).1 v) hm ⟨x, by simp [A.seq], h0⟩ ?_ ?_).mono ?_
  · rintro i v hi ⟨y, hy, hs⟩
    have hgi := List.getElem?_eq_getElem (l := gs) (i := i) (by omega)
    obtain ⟨k, X, Y, hk, hcl, hcall⟩ := hstep i _ y v hgi hy hs
    obtain ⟨q, hq, hc⟩ := hcell y v hs i _ hk
    refine ⟨q, k, X, Y, hq, hc, hcl, ?_⟩
    refine hcall.mono ?_
    rintro e v' ⟨rfl, hs'⟩
    refine ⟨_, rfl, fun h1 => ?_, fun h1 => ⟨_, A.seq_ok hgi hy h1, hs'⟩⟩
    rw [A.seq_bad hgi hy h1]
    exact ⟨rfl, hs'⟩
  · rintro v ⟨y, hy, hs⟩
    rw [List.take_of_length_le (by omega)] at hy
    rw [hy]
    exact ⟨rfl, hs⟩
  · rintro e v ⟨k, rfl, rfl, hs⟩
    exact ⟨rfl, hs⟩
section
variable {w w' w'' : World} {lo l p f n : Nat} {q : Sv} {x y : A} {d : Bool}
/-- The log's steps, where it goes on. -/
theorem run_seq {a : Option Addr} {m c : Nat} {us : List Value} {gs : List (A → A × Int)} (h : LgR w lo l p q x f n d) (hu : us.length = m) (hg : gs.length = m) (hm : m ≤ 1000000)
    (hcell : ∀ v, Keep (lg l p q) w v → ∀ i u, us[i]? = some u → ∃ q, a = some q ∧ v.cell? (q.add (i * 1)) = some u)
    (hstep : ∀ i g y v, d = false → gs[i]? = some g → A.seq (gs.take i) x = (y, 0) → LDid w v lo l p q y f n false → ∃ (k : Nat) (X Y : Array Value), us[i]? = some (.func (.func k) X Y) ∧ cl k = true ∧
      Calls Try.prog k (X.toList ++ ([] : List Value) ++ Y.toList).toArray v fun e v' => e = .returned (.int .i64 (g y).2) ∧ LDid w v' lo l p q (g y).1 f n false) :
    Calls Try.prog 89 #[dp l, .slice a m c] w fun e v => e = .returned (.int .i64 (lgRun d x (A.seq gs x)).2.2) ∧ LDid w v lo l p q (lgRun d x (A.seq gs x)).1 f n (lgRun d x (A.seq gs x)).2.1 := by
  refine (run_spec h (fun k v => k = (lgRun d x (A.seq gs x)).2.2 ∧ LDid w v lo l p q (lgRun d x (A.seq gs x)).1 f n (lgRun d x (A.seq gs x)).2.1) ?_ ?_).mono ?_
  · rintro rfl w' rfl
    refine ⟨rfl, ?_⟩
    exact LDid.cell (LDid.same h (Keep.refl _ _)) rfl
  · rintro rfl
    refine (steps_seq (x := x) (fun y v => LDid w v lo l p q y f n false) (LDid.same h (Keep.refl _ _)) hu hg hm ?_ (fun i g y v => hstep i g y v rfl)).mono ?_
    · rintro y v ⟨_, _, hk, _⟩ i u hui
      exact hcell v hk i u hui
    · rintro e v ⟨rfl, hl⟩
      refine ⟨_, rfl, fun hm => ?_, fun hm => ?_⟩
      · have e1 : lgRun false x (A.seq gs x) = ((A.seq gs x).1, true, 180) := by unfold lgRun; rw [if_neg (by decide), if_neg hm]
        rw [e1]
        have hl2 := hl
        obtain ⟨q', h1, _, _⟩ := hl2
        exact ⟨⟨_, h1.bk.cell 3⟩, (h1.bk.wr (by simp)).2, rfl, LDid.cell hl rfl⟩
      · have e1 : lgRun false x (A.seq gs x) = ((A.seq gs x).1, false, 0) := by unfold lgRun; rw [if_neg (by decide), if_pos hm]
        rw [e1]
        exact ⟨rfl, hl⟩
  · rintro e v ⟨k, rfl, rfl, hl⟩
    exact ⟨rfl, hl⟩

set_option maxHeartbeats 1000000 in
theorem rewrite_spec (h : LgR w lo l p q x f n d) (hO : Old w) (hf : f = 1 ∨ f = 2) (hr : x.rest.length ≤ 700000) {a : Option Addr} {m c e2 : Nat} {os : List Op} (hro : Rd w e2 5 a m c (opl os)) (hfit : ∀ o ∈ os, o.fit) (hm : m ≤ 1000000) :
    Calls Try.prog 59 #[dp l, .slice a m c] w fun e v => e = .returned (.int .i64 (rewM x f n d os).2.2.2.2) ∧ LDid w v lo l p q (rewM x f n d os).1 (rewM x f n d os).2.1 (rewM x f n d os).2.2.1 (rewM x f n d os).2.2.2.1 := by
  have hmo := op_n hro
  refine c59 ?_
  unfold sh59
  intro p3 w4 p5 w6
  have b3 : Bk w6 p3 #[dp l] 79 := (Bk.new w _ _).alloc _
  have b5 : Bk w6 p5 #[.slice none 0 0] 36 := Bk.new w4 _ _
  have k6 : Keep no w w6 := (Keep.alloc _ _ _).then (Keep.alloc _ _ _)
  have h5 : w.heap.size ≤ p5 := by show w.heap.size ≤ w4.heap.size; simp [w4]
  clear_value p3 w4 p5 w6
  refine ⟨fun vs v => ∃ (i : Nat) (b1 : Option Addr) (b2 b3 : Nat) (pre : Bs), vs = [.int .i64 0, .int .i64 i] ∧ i ≤ m ∧ encs (os.take i) = some pre ∧ Bk v p5 #[.slice b1 b2 b3] 36 ∧ Bk v p3 #[dp l] 79 ∧ v.ownsRow w.heap.size 5 1 (.slice b1 b2 b3) b2 (bvs pre) ∧ Keep no w v,
    fun vs v => match vs with | [_, .int _ i] => m - i.toNat | _ => 0, ⟨0, none, 0, 0, [], rfl, by omega, by simp [encs], b5, b3, World.ownsRow_nil _ _ _ _, k6⟩, ?_⟩
  rintro w9 n7 n8 ⟨i, a1, a2, a3, pre, hv, hi, hen, c5, c3, hob, k9⟩
  cases hv
  have ha2 : a2 = pre.length := by have := hob.1; simp at this; exact this.symm
  have hpl := encs_len hen
  rw [List.length_take] at hpl
  refine cond_d (fun hlt => ?_) (fun hge => ?_)
  · have hi' : i < os.length := by omega
    obtain ⟨_, q12, hq, o0, o1, o2, o3, o4⟩ := rd_op (hro.no k9) hi'
    have hsn := encs_snoc os i hi'
    have hbad := encs_bad (os := os) hi'
    have hxf := hfit os[i] (List.getElem_mem hi')
    generalize os[i] = z at o0 o1 o2 o3 o4 hsn hbad hxf
    refine ⟨q12, hq, by omega, by omega, z.k, z.e, z.u, z.v, z.b, by rw [Int.toNat_natCast]; exact o0, by rw [Int.toNat_natCast]; exact o1, by rw [Int.toNat_natCast]; exact o2, by rw [Int.toNat_natCast]; exact o3, by rw [Int.toNat_natCast]; exact o4, ?_⟩
    intro p18 w19
    have b18 : Bk w19 p18 #[.int .i64 0, .int .i64 0, .int .i64 0, .int .i64 0, .int .u32 0] 57 := Bk.new w9 _ _
    have k19 : Keep no w9 w19 := Keep.alloc _ _ _
    have h18 : w9.heap.size ≤ p18 := Nat.le_refl _
    clear_value p18 w19
    obtain ⟨f1, f2, f3⟩ := fin5 (a := .int .i64 z.k) (b := .int .i64 z.e) (c := .int .i64 z.u) (d := .int .i64 z.v) (e := .int .u32 z.b) b18 rfl
    refine ⟨f1, ?_⟩
    intro w20
    have b20 : Bk w20 p18 (opC z) 57 := f2
    have k20 : Keep no w9 w20 := k19.new f3 (by rintro z rfl; exact h18)
    clear_value w20
    refine ⟨_, _, _, _, _, b20.cell 0, b20.cell 1, b20.cell 2, b20.cell 3, b20.cell 4, ?_⟩
    refine (Encode_spec w20 hxf).mono ?_
    rintro e w27 ⟨s, cd, rfl, k27, hcase⟩
    refine ⟨_, _, _, _, rfl, ?_⟩
    have k27' := k20.then k27
    have ei : IntKind.i64.wrap ((i : Int) + 1) = ((i + 1 : Nat) : Int) := by rw [IntWalk.i64_in _ ⟨by omega, by omega⟩]; rfl
    rcases hcase with ⟨he, rfl, rfl⟩ | ⟨L, he, rfl, hos⟩
    · refine cond_t rfl ?_
      have e1 : rewM x f n d os = (x, f, n, d, 190) := by simp only [rewM, hbad he]
      rw [e1]
      exact ⟨rfl, LDid.same h (k9.then k27')⟩
    · refine cond_f rfl ?_
      have hL := enc_small he
      have hsL : s.n = L.length := by have := hos.1; simp at this; exact this.symm
      refine ⟨_, _, _, (c5.no k27').cell 0, ?_⟩
      have hob27 := own_no' hob k27'
      refine app5 hob27 (Rd.own0 hos) (by omega) (k9.then k27').size (Nat.le_refl _) (k9.then k27') fun a33 c33 w32 o32 k32 kk32 => ?_
      have d5 : Bk w32 p5 _ 36 := bk5 hob27 kk32 (c5.no k27') (by decide)
      have d3 : Bk w32 p3 _ 79 := bk5 hob27 kk32 (c3.no k27') (by decide)
      refine ⟨d5.wr (by simp), ?_⟩
      rw [ei]
      have kc : Keep (is p5) w32 (w32.setCell ⟨p5, 0, none⟩ (.slice a33 (a2 + s.n) c33)) := Keep.set (S := is p5) _ _ rfl
      refine ⟨⟨i + 1, a33, _, c33, pre ++ L, rfl, by omega, ?_, d5.set 0 _, d3.keep kc fun hb => (d3.ty.ne d5.ty (by decide)) hb, ?_, k32.new kc (by rintro z rfl; exact h5)⟩, ?_⟩
      · rw [hsn, hen, he]; rfl
      · exact own_S o32 kc fun b hb hb2 => by
          obtain rfl : b = p5 := hb2
          exact absurd ((ty_lt o32 hb).2.2.uniq d5.ty) (by decide)
      · show m - ((i + 1 : Nat) : Int).toNat < m - (i : Int).toNat
        omega
  · rw [List.take_of_length_le (by omega)] at hen
    refine ⟨_, _, _, c5.cell 0, ?_⟩
    refine cond_d (fun hbig => ?_) (fun hsm => ?_)
    · have e1 : rewM x f n d os = (x, f, n, d, 181) := by simp only [rewM, hen]; rw [if_pos (by omega)]
      rw [e1]
      exact ⟨rfl, LDid.same h k9⟩
    have hsm' : ¬ 32768 < pre.length := by omega
    generalize hg : lgRun d x (A.seq (rewG f pre) x) = r
    have e1 : rewM x f n d os = if r.2.2 = 0 then (r.1, 3 - f, pre.length, r.2.1, 0) else (r.1, f, n, r.2.1, r.2.2) := by
      simp only [rewM, hen]; rw [if_neg hsm', hg]
    rw [e1]
    intro K78
    have fin : ∀ (po pt : Nat) (w77 : World), Bk w77 po #[.int .i64 f] 3 → Bk w77 pt #[.int .i64 (3 - f : Nat)] 3 → Keep no w9 w77 → K78 ⟨po, 0, none⟩ ⟨pt, 0, none⟩ w77 := by
      intro po pt w77 bo bt k77
      unfold K78
      intro w79
      have k79 : Keep no w9 w79 := k77.then (Keep.drew _ _)
      have bo79 : Bk w79 po #[.int .i64 f] 3 := bo.no (Keep.drew _ _)
      have bt79 : Bk w79 pt #[.int .i64 (3 - f : Nat)] 3 := bt.no (Keep.drew _ _)
      clear_value w79
      have h79 := h.no_ (k9.then k79)
      have d3 := c3.no k79
      refine ⟨_, d3.cell 0, _, d3.cell 0, ?_⟩
      show ∃ disk83 : Option Addr, _
      refine ⟨_, h79.bk.cell 0, _, d3.cell 0, ?_⟩
      show ∃ disk86 : Option Addr, _
      refine ⟨_, h79.bk.cell 0, ?_⟩
      intro p87 w88
      have b88 : Bk w88 p87 #[.func (.func 92) #[] #[.pointer (some ⟨p3, 0, none⟩), .pointer (some ⟨pt, 0, none⟩), .pointer (some ⟨p5, 0, none⟩)], .func (.func 30) #[dp p] #[], .func (.func 93) #[] #[.pointer (some ⟨p3, 0, none⟩), .pointer (some ⟨pt, 0, none⟩)], .func (.func 30) #[dp p] #[], .func (.func 94) #[] #[.pointer (some ⟨p3, 0, none⟩), .pointer (some ⟨po, 0, none⟩)]] 42 := Bk.new w79 _ _
      have k88 : Keep no w9 w88 := k79.then (Keep.alloc _ _ _)
      have bo88 : Bk w88 po #[.int .i64 f] 3 := bo79.alloc _
      have bt88 : Bk w88 pt #[.int .i64 (3 - f : Nat)] 3 := bt79.alloc _
      clear_value p87 w88
      have d3 := c3.no k88
      have d5 := c5.no k88
      have h88 := h.no_ (k9.then k88)
      have hro88 : Rd w88 5 1 a1 a2 a3 (bvs pre) := Rd.own (own_no' hob k88) fun _ b hb => hO b hb
      refine ⟨⟨_, d3.cell 0, rfl⟩, ?_⟩
      have hrun : Calls Try.prog 89 #[dp l, .slice (some ⟨p87, 0, none⟩) 5 5] w88 fun e v => e = .returned (.int .i64 r.2.2) ∧ LDid w88 v lo l p q r.1 f n r.2.1 := by
        rw [← hg]
        refine run_seq h88 (us := [.func (.func 92) #[] #[.pointer (some ⟨p3, 0, none⟩), .pointer (some ⟨pt, 0, none⟩), .pointer (some ⟨p5, 0, none⟩)], .func (.func 30) #[dp p] #[], .func (.func 93) #[] #[.pointer (some ⟨p3, 0, none⟩), .pointer (some ⟨pt, 0, none⟩)], .func (.func 30) #[dp p] #[], .func (.func 94) #[] #[.pointer (some ⟨p3, 0, none⟩), .pointer (some ⟨po, 0, none⟩)]]) rfl rfl (by omega) ?_ ?_
        · intro v kv i u hu
          refine ⟨_, rfl, ?_⟩
          rw [addP, (b88.keep kv (h88.off b88.ty)).cell, Nat.zero_add, Nat.mul_one, ← Array.getElem?_toList]
          exact hu
        · intro i g y v hd hgi hsy hly
          subst hd
          have key5 : ∀ a b c : Nat, a ≤ b + c * 40000 → c ≤ 5 → a ≤ b + 200000 := fun a b c h1 h2 => by omega
          have hyl : y.rest.length ≤ x.rest.length + 200000 := by
            have := A.seq_len (B := 40000) (gs := (rewG f pre).take i) (x := x) ?_
            · rw [hsy] at this
              simp only at this
              have h5 : ((rewG f pre).take i).length ≤ 5 := by rw [List.length_take]; exact Nat.min_le_right _ _
              exact key5 _ _ _ this h5
            · intro g' hg' y'
              have hg'' := List.mem_of_mem_take hg'
              simp only [rewG, List.mem_cons, List.not_mem_nil, or_false] at hg''
              rcases hg'' with rfl | rfl | rfl | rfl | rfl
              · have := A.pieces_len pre.length y' (3 - f) 0 pre (Nat.le_refl _)
                simp only; omega
              · have := A.Sync_len y'; omega
              · have := A.Write_len y' 0 0 [UInt8.ofNat (3 - f)]; simp only; omega
              · have := A.Sync_len y'; omega
              · have := A.Cut_len y' f 0; simp only; omega
          have hly2 := hly
          obtain ⟨q', hl', kv, hq'⟩ := hly2
          have v3 := d3.keep kv (h88.off d3.ty)
          have v5 := d5.keep kv (h88.off d5.ty)
          have vt := bt88.keep kv (h88.off bt88.ty)
          have vo := bo88.keep kv (h88.off bo88.ty)
          have go : ∀ {e : Ending} {v' : World} {r : A × Int}, (e = .returned (.int .i64 r.2) ∧ LDid v v' lo l p q' r.1 f n false) → e = .returned (.int .i64 r.2) ∧ LDid w88 v' lo l p q r.1 f n false := fun {e v' r} hh => ⟨hh.1, LDid.trans kv hq' hh.2⟩
          have god : ∀ {e : Ending} {v' : World} {r : A × Int}, (e = .returned (.int .i64 r.2) ∧ Did v v' lo p q' r.1) → e = .returned (.int .i64 r.2) ∧ LDid w88 v' lo l p q r.1 f n false := fun {e v' r} hh => ⟨hh.1, LDid.trans kv hq' (hl'.did hh.2)⟩
          match i, hgi with
          | 0, hgi =>
            cases hgi
            refine ⟨92, _, _, rfl, rfl, ?_⟩
            refine c92 ?_
            unfold sh92
            refine ⟨_, v3.cell 0, _, vt.cell 0, _, _, _, v5.cell 0, ?_⟩
            refine (lwrite_spec hl' (3 - f) 0 (hro88.keep kv fun b hb ht => (h88.off ht) hb) (by omega) (by omega)).mono ?_
            rintro e v' ⟨rfl, hh⟩
            exact ⟨_, rfl, go ⟨rfl, hh⟩⟩
          | 1, hgi =>
            cases hgi
            exact ⟨30, _, _, rfl, rfl, (Sync_spec hl'.dk).mono fun e v' hh => god hh⟩
          | 2, hgi =>
            cases hgi
            refine ⟨93, _, _, rfl, rfl, ?_⟩
            refine c93 ?_
            unfold sh93
            intro w3
            have k3 : Keep no v w3 := Keep.drew _ _
            clear_value w3
            refine ⟨_, (v3.no k3).cell 0, ?_⟩
            show ∃ disk6 : Option Addr, _
            refine ⟨_, (hl'.bk.no k3).cell 0, _, (vt.no k3).cell 0, ?_⟩
            have eu : IntKind.u8.wrap ((3 - f : Nat) : Int) = ((UInt8.ofNat (3 - f)).toNat : Int) := by rw [u8_of, u8_mod]
            rw [eu]
            intro p8 w9'
            have r9 : Rd w9' 0 1 (some ⟨p8, 0, none⟩) 1 1 (bvs [UInt8.ofNat (3 - f)]) := one_rd (w := w3) (3 - f)
            have k9' : Keep no v w9' := k3.then (Keep.alloc _ _ _)
            clear_value p8 w9'
            refine ⟨⟨_, (v3.no k9').cell 0, rfl⟩, ⟨_, (hl'.bk.no k9').cell 0, rfl⟩, ?_⟩
            refine (Write_spec (hl'.dk.no_ k9') 0 0 (b := ⟨_, _, _⟩) (l := [UInt8.ofNat (3 - f)]) r9 (by omega)).mono ?_
            rintro e v' ⟨rfl, hh⟩
            exact ⟨_, rfl, go ⟨rfl, LDid.pre k9' ((hl'.no_ k9').did hh)⟩⟩
          | 3, hgi =>
            cases hgi
            exact ⟨30, _, _, rfl, rfl, (Sync_spec hl'.dk).mono fun e v' hh => god hh⟩
          | 4, hgi =>
            cases hgi
            refine ⟨94, _, _, rfl, rfl, ?_⟩
            refine c94 ?_
            unfold sh94
            intro w3
            have k3 : Keep no v w3 := Keep.drew _ _
            clear_value w3
            refine ⟨_, (v3.no k3).cell 0, ?_⟩
            show ∃ disk6 : Option Addr, _
            refine ⟨_, (hl'.bk.no k3).cell 0, _, (vo.no k3).cell 0, ?_⟩
            refine (Cut_spec (hl'.dk.no_ k3) f 0 (by omega)).mono ?_
            rintro e v' ⟨rfl, hh⟩
            exact ⟨_, rfl, go ⟨rfl, LDid.pre k3 ((hl'.no_ k3).did hh)⟩⟩
          | i + 5, hgi => cases hgi
      refine hrun.mono ?_
      rintro e w91 ⟨rfl, hl91⟩
      refine ⟨_, rfl, ?_⟩
      have K88 := k9.then k88
      by_cases h0 : r.2.2 = 0
      · rw [if_pos h0, h0]
        refine cond_t rfl ?_
        intro w93
        have k93 : Keep no w91 w93 := Keep.drew _ _
        clear_value w93
        have hl93 := LDid.post hl91 k93
        have hl93' := hl93
        obtain ⟨q', hg1, hg2, hg3⟩ := hl93'
        have g3 := d3.keep hg2 (h88.off d3.ty)
        have g5 := d5.keep hg2 (h88.off d5.ty)
        have gt := bt88.keep hg2 (h88.off bt88.ty)
        refine ⟨_, g3.cell 0, _, g3.cell 0, _, gt.cell 0, _, _, _, g5.cell 0, ?_⟩
        show wr w93 ((⟨l, 0, none⟩ : Addr).add 1) ∧ _
        rw [addP]
        refine ⟨hg1.bk.wr (by simp), ?_⟩
        intro w99
        have hl99 : LDid w88 w99 lo l p q r.1 (3 - f) n r.2.1 := LDid.cell hl93 (by simp)
        have k99 : Keep (is l) w93 w99 := Keep.set (S := is l) _ _ rfl
        have e3 : Bk w99 p3 _ 79 := g3.keep k99 fun hb => (g3.ty.ne hg1.bk.ty (by decide)) hb
        have e5 : Bk w99 p5 _ 36 := g5.keep k99 fun hb => (g5.ty.ne hg1.bk.ty (by decide)) hb
        clear_value w99
        refine ⟨⟨_, e3.cell 0, rfl⟩, ⟨_, _, _, e5.cell 0, rfl⟩, ?_⟩
        show wr w99 ((⟨l, 0, none⟩ : Addr).add 2) ∧ _
        rw [addP]
        have hl99' := hl99
        obtain ⟨q2, hg1', _, _⟩ := hl99'
        refine ⟨hg1'.bk.wr (by simp), rfl, ?_⟩
        exact LDid.pre K88 (LDid.cell hl99 (by simp [ha2]))
      · rw [if_neg h0]
        exact cond_f (by simpa using h0) ⟨rfl, LDid.pre K88 hl91⟩
    clear_value K78
    intro w36
    have k36 : Keep no w9 w36 := Keep.drew _ _
    clear_value w36
    have h36 := h.no_ (k9.then k36)
    have d3 := c3.no k36
    have ef : IntKind.i64.wrap ((3 : Int) - ((f : Nat) : Int)) = ((3 - f : Nat) : Int) := by rw [IntWalk.i64_in _ ⟨by omega, by omega⟩]; omega
    have hfile : ∀ v, Keep no w36 v → v.cell? ((⟨l, 0, none⟩ : Addr).add 1) = some (.int .i64 f) := fun v kv => by rw [addP]; exact (h36.bk.no kv).cell 1
    have hptr : ∀ v, Keep no w36 v → v.cell? ⟨p3, 0, none⟩ = some (dp l) := fun v kv => (d3.no kv).cell 0
    refine ⟨_, hptr _ (Keep.refl _ _), ?_⟩
    show ∃ file39 : Int, _
    refine ⟨f, hfile _ (Keep.refl _ _), _, hptr _ (Keep.refl _ _), ?_⟩
    show ∃ file42 : Int, _
    refine ⟨f, hfile _ (Keep.refl _ _), ?_⟩
    rw [ef]
    -- two new cells, in either order
    have two : ∀ (b1 b2 : Nat) (v1 v2 : World), b1 = w36.heap.size → v1 = w36.alloc (.cells #[.int .i64 0] 3) → b2 = v1.heap.size → v2 = v1.alloc (.cells #[.int .i64 0] 3) →
        Keep no w36 v1 ∧ Keep no w36 v2 ∧ Bk v2 b1 #[.int .i64 0] 3 ∧ Bk v2 b2 #[.int .i64 0] 3 ∧ b1 ≠ b2 ∧ w36.heap.size ≤ b1 ∧ w36.heap.size ≤ b2 := by
      rintro b1 b2 v1 v2 rfl rfl rfl rfl
      have hB := Bk.new w36 #[.int .i64 0] 3
      refine ⟨Keep.alloc _ _ _, (Keep.alloc _ _ _).then (Keep.alloc _ _ _), hB.alloc _, Bk.new _ _ _, Nat.ne_of_lt hB.lt, Nat.le_refl _, by simp⟩
    refine ⟨?_, ?_⟩
    · intro p43 w44
      refine ⟨⟨_, hptr _ (Keep.alloc _ _ _), rfl⟩, ⟨_, hfile _ (Keep.alloc _ _ _), rfl⟩, ⟨_, hptr _ (Keep.alloc _ _ _), rfl⟩, ⟨_, hfile _ (Keep.alloc _ _ _), rfl⟩, ?_⟩
      intro p49 w50
      obtain ⟨k44, k50, g43, g49, hne, hp43, hp49⟩ := two p43 p49 w44 w50 rfl rfl rfl rfl
      clear_value p43 w44 p49 w50
      refine ⟨⟨_, hptr _ k50, rfl⟩, ⟨_, hfile _ k50, rfl⟩, ⟨_, hptr _ k50, rfl⟩, ⟨_, hfile _ k50, rfl⟩, g43.wr (by simp), ?_⟩
      intro w55
      have kc : Keep no w36 w55 := k50.new (Keep.set (S := is p43) _ _ rfl) (by rintro z rfl; exact hp43)
      have g43' : Bk w55 p43 #[.int .i64 f] 3 := g43.set 0 _
      have g49' : Bk w55 p49 _ 3 := g49.set_ne (Ne.symm hne) _
      clear_value w55
      refine ⟨⟨_, hptr _ kc, rfl⟩, ⟨_, hfile _ kc, rfl⟩, g49'.wr (by simp), ?_⟩
      exact fin _ _ _ (g43'.set_ne hne _) (g49'.set 0 _) (k36.then (kc.new (Keep.set (S := is p49) _ _ rfl) (by rintro z rfl; exact hp49)))
    · intro p59 w60
      refine ⟨⟨_, hptr _ (Keep.alloc _ _ _), rfl⟩, ⟨_, hfile _ (Keep.alloc _ _ _), rfl⟩, ⟨_, hptr _ (Keep.alloc _ _ _), rfl⟩, ⟨_, hfile _ (Keep.alloc _ _ _), rfl⟩, ?_⟩
      intro p65 w66
      obtain ⟨k60, k66, g59, g65, hne, hp59, hp65⟩ := two p59 p65 w60 w66 rfl rfl rfl rfl
      clear_value p59 w60 p65 w66
      refine ⟨⟨_, hptr _ k66, rfl⟩, ⟨_, hfile _ k66, rfl⟩, ⟨_, hptr _ k66, rfl⟩, ⟨_, hfile _ k66, rfl⟩, g65.wr (by simp), ?_⟩
      intro w71
      have kc : Keep no w36 w71 := k66.new (Keep.set (S := is p65) _ _ rfl) (by rintro z rfl; exact hp65)
      have g65' : Bk w71 p65 #[.int .i64 f] 3 := g65.set 0 _
      have g59' : Bk w71 p59 _ 3 := g59.set_ne hne _
      clear_value w71
      refine ⟨⟨_, hptr _ kc, rfl⟩, ⟨_, hfile _ kc, rfl⟩, g59'.wr (by simp), ?_⟩
      exact fin _ _ _ (g65'.set_ne (Ne.symm hne) _) (g59'.set 0 _) (k36.then (kc.new (Keep.set (S := is p59) _ _ rfl) (by rintro z rfl; exact hp59)))
end
end
end Go.Proofs.Ytmfidfaiopogbaa
/- The log: Open. -/
set_option linter.unusedVariables false
set_option linter.unusedSimpArgs false
set_option linter.unusedSectionVars false
set_option maxRecDepth 4000
namespace Go.Proofs.Ytmfidfaiopogbaa
open Go Go.Sh
theorem E143 : El Try.prog 143 42 1 8 := ⟨Try.underlying143, ⟨Try.t42, .nilFunc, by kernel_rfl, rfl, rfl, rfl, rfl⟩, by decide⟩
/-- The file that the word names; is the word tidy? -/
def nmF (l : Bs) : Nat := if l = [2] then 2 else 1
def tidyW (l : Bs) : Bool := decide (l = [2]) || (decide (l = []) || decide (l = [1]))
theorem nmF_two (l : Bs) : nmF l = 1 ∨ nmF l = 2 := by unfold nmF; split <;> simp
def openT (s : Fs) : List (A → A × Int) :=
  (if (scan (s.get (nmF s.a))).2 < (s.get (nmF s.a)).length then [fun x => x.Cut (nmF s.a) (scan (s.get (nmF s.a))).2] else []) ++
  ((if 0 < (s.get (3 - nmF s.a)).length then [fun x => x.Cut ((3 - nmF s.a : Nat) : Int) 0] else []) ++ (if tidyW s.a then [] else [fun x => x.Cut 0 0]))
def openG (s : Fs) : List (A → A × Int) := if 0 < (openT s).length then openT s ++ [A.Sync] else []
section
variable [Av]
theorem named_spec {w : World} {e2 n c : Nat} {a : Option Addr} {l : Bs} (h : Rd w e2 1 a n c (bvs l)) : Calls Try.prog 85 #[.slice a n c] w fun e v => e = .returned (.tuple #[.int .i64 (nmF l), .bool (tidyW l)]) ∧ v = w := by
  refine c85 ?_
  unfold sh85
  refine rw_str Try.underlying36 Try.underlying5 Try.underlying9 h ?_
  rw [show ({ data := #[2] } : ByteArray) = str [2] from rfl, show ({ data := #[] } : ByteArray) = str [] from rfl, show ({ data := #[1] } : ByteArray) = str [1] from rfl, beq_strD, beq_strD, beq_strD]
  refine cond_d (fun h2 => ?_) (fun h2 => ?_)
  · subst h2; exact ⟨rfl, rfl⟩
  · intro K7
    have fin : ∀ b, (b = true ↔ l = [] ∨ l = [1]) → K7 b w := by
      intro b hb
      have e1 : nmF l = 1 := by unfold nmF; rw [if_neg h2]
      have e2 : tidyW l = b := by
        unfold tidyW
        rw [decide_eq_false h2, Bool.false_or]
        apply Bool.eq_iff_iff.2
        rw [hb]
        simp
      unfold K7
      rw [e1, e2]
      refine cond_i (fun hb => ?_) (fun hb => ?_)
      · subst hb; exact ⟨rfl, rfl⟩
      · subst hb; exact ⟨rfl, rfl⟩
    clear_value K7
    refine cond_d (fun h0 => fin _ ?_) (fun h0 => fin _ ?_)
    · simp [h0]
    · simp [h0]
/-- A closure, and what it does to the disk p, whose pointer lies in p2. -/
def Act (v : World) (p p2 : Nat) (u : Value) (g : A → A × Int) : Prop :=
  (∃ (b1 b2 : Nat) (f n : Int), u = .func (.func 87) #[] #[.pointer (some ⟨p2, 0, none⟩), .pointer (some ⟨b1, 0, none⟩), .pointer (some ⟨b2, 0, none⟩)] ∧ Bk v b1 #[.int .i64 f] 3 ∧ Bk v b2 #[.int .i64 n] 3 ∧ g = fun x => x.Cut f n) ∨ (u = .func (.func 30) #[dp p] #[] ∧ g = A.Sync)
theorem Act.keep {v v' : World} {p p2 : Nat} {u : Value} {g : A → A × Int} {S : Nat → Prop} (h : Act v p p2 u g) (k : Keep S v v') (hS : ∀ b, TyB v b 3 → ¬ S b) : Act v' p p2 u g := by
  rcases h with ⟨b1, b2, f, n, h1, h2, h3, h4⟩ | h
  · exact .inl ⟨b1, b2, f, n, h1, h2.keep k (hS _ h2.ty), h3.keep k (hS _ h3.ty), h4⟩
  · exact .inr h
/-- The list of what is to be done. -/
structure Todo (w0 v : World) (p p2 p20 : Nat) (gs : List (A → A × Int)) : Prop where
  ex : ∃ (a : Option Addr) (n c : Nat) (us : List Value), Bk v p20 #[.slice a n c] 143 ∧ v.ownsRow w0.heap.size 42 1 (.slice a n c) n us ∧ us.length = gs.length ∧ (∀ u ∈ us, one1 u = true) ∧ (∀ (i : Nat) (u : Value) (g : A → A × Int), us[i]? = some u → gs[i]? = some g → Act v p p2 u g)
  p2_ : Bk v p2 #[dp p] 23
  k : Keep no w0 v
  lo : w0.heap.size ≤ p20
theorem Todo.no {w0 v v' : World} {p p2 p20 : Nat} {gs : List (A → A × Int)} (h : Todo w0 v p p2 p20 gs) (k : Keep no v v') : Todo w0 v' p p2 p20 gs := by
  obtain ⟨a, n, c, us, h1, h2, h3, h4, h5⟩ := h.ex
  exact ⟨⟨a, n, c, us, h1.no k, own_no' h2 k, h3, h4, fun i u g hu hg => (h5 i u g hu hg).keep k fun _ _ h => h⟩, h.p2_.no k, h.k.then k, h.lo⟩
/-- One thing more is put behind the others. -/
theorem Todo.push {w0 v : World} {p p2 p20 : Nat} {gs : List (A → A × Int)} (h : Todo w0 v p p2 p20 gs) (hlen : gs.length ≤ 1000) {b : Nat} {u : Value} {g : A → A × Int} (hb : Bk v b #[u] 42) (h1 : one1 u = true) (ha : Act v p p2 u g) {K : World → Prop}
    (hK : ∀ v', Todo w0 v' p p2 p20 (gs ++ [g]) → K v') :
    ∃ (a9 : Option Addr), ∃ (l_a9 : Nat), ∃ (c_a9 : Nat), v.cell? ⟨p20, 0, none⟩ = some (.slice a9 l_a9 c_a9) ∧ 
      RunWp Try.prog (Builtin.append_ #[143, 143] 143 #[.slice a9 l_a9 c_a9, .slice (some ⟨b, 0, none⟩) 1 1]) (fun v12 w13 => ∃ (a14 : Option Addr), ∃ (l_a14 : Nat), ∃ (c_a14 : Nat), v12 = .slice a14 l_a14 c_a14 ∧ 
        wr w13 ⟨p20, 0, none⟩ ∧ K (w13.setCell ⟨p20, 0, none⟩ (.slice a14 l_a14 c_a14))) v := by
  obtain ⟨a, n, c, us, hB, ho, hu, hone, hact⟩ := h.ex
  have hn : n = us.length := by have := ho.1; omega
  refine ⟨a, n, c, hB.cell 0, ?_⟩
  refine rw_append E143 ho (Rd.blk0 (sz := 1) (n := 1) hb rfl (by simp [maxLen])) (by simpa using h1) (by omega) (by simp only [maxLen]; omega) h.k.size fun a2 c2 w' ho' k' _ => ?_
  have hB' : Bk w' p20 _ 143 := hB.keep k' fun hx => (by
    have := (ty_lt ho hx).2.2
    exact absurd (this.uniq hB.ty) (by decide))
  have kc : Keep (is p20) w' (w'.setCell ⟨p20, 0, none⟩ (.slice a2 (n + 1) c2)) := Keep.set (S := is p20) _ _ rfl
  have hoff : ∀ b', TyB v b' 3 → ¬ OB a b' := fun b' ht hx => absurd ((ty_lt ho hx).2.2.uniq ht) (by decide)
  have hoff2 : ∀ b', TyB w' b' 3 → ¬ is p20 b' := fun b' ht hx => by
    obtain rfl : b' = p20 := hx
    exact absurd (hB'.ty.uniq ht) (by decide)
  refine ⟨hB'.wr (by simp), hK _ ⟨⟨a2, n + 1, c2, us ++ [u], hB'.set 0 _, ?_, by simp [hu], ?_, ?_⟩, ?_, ?_, h.lo⟩⟩
  · exact own_S ho' kc fun b' hx hx2 => by
      obtain rfl : b' = p20 := hx2
      exact absurd ((ty_lt ho' hx).2.2.uniq hB'.ty) (by decide)
  · intro u' hu'
    rcases List.mem_append.1 hu' with hh | hh
    · exact hone u' hh
    · rw [List.mem_singleton.1 hh]; exact h1
  · intro i u' g' hu' hg'
    have key : Act v p p2 u' g' := by
      rcases Nat.lt_or_ge i us.length with hlt | hge
      · rw [List.getElem?_append_left hlt] at hu'
        rw [List.getElem?_append_left (by omega)] at hg'
        exact hact i u' g' hu' hg'
      · have hi : i = us.length := by
          have := (List.getElem?_eq_some_iff.1 hu').1
          simp at this; omega
        rw [List.getElem?_append_right hge, hi, Nat.sub_self] at hu'
        rw [List.getElem?_append_right (by omega), hi, hu, Nat.sub_self] at hg'
        cases hu'; cases hg'
        exact ha
    exact (key.keep k' hoff).keep kc hoff2
  · have h2 : Bk w' p2 _ 23 := h.p2_.keep k' fun hx => absurd ((ty_lt ho hx).2.2.uniq h.p2_.ty) (by decide)
    exact h2.keep kc fun hx => (h2.ty.ne hB'.ty (by decide)) hx
  · exact (h.k.new k' fun b' hx => (ty_lt ho hx).2.1).new kc (by rintro z rfl; exact h.lo)
theorem cut_spec {w0 v : World} {p p2 p20 : Nat} {gs : List (A → A × Int)} (h : Todo w0 v p p2 p20 gs) (hlen : gs.length ≤ 1000) (f n : Int) :
    Calls Try.prog 86 #[.int .i64 f, .int .i64 n, .pointer (some ⟨p20, 0, none⟩), .pointer (some ⟨p2, 0, none⟩)] v fun e v' => e = .returned (.tuple #[]) ∧ Todo w0 v' p p2 p20 (gs ++ [fun x => x.Cut f n]) := by
  refine c86 ?_
  unfold sh86
  intro p5 w6 p7 w8
  have b5 : Bk w8 p5 #[.int .i64 f] 3 := (Bk.new v _ _).alloc _
  have b7 : Bk w8 p7 #[.int .i64 n] 3 := Bk.new w6 _ _
  have k8 : Keep no v w8 := (Keep.alloc _ _ _).then (Keep.alloc _ _ _)
  clear_value p5 w6 p7 w8
  have h8 := h.no k8
  obtain ⟨a, m, c, us, hB, ho, hu, hone, hact⟩ := h8.ex
  refine ⟨a, m, c, hB.cell 0, ?_⟩
  intro p10 w11
  have b10 : Bk w11 p10 #[.func (.func 87) #[] #[.pointer (some ⟨p2, 0, none⟩), .pointer (some ⟨p5, 0, none⟩), .pointer (some ⟨p7, 0, none⟩)]] 42 := Bk.new _ _ _
  have k11 : Keep no w8 w11 := Keep.alloc _ _ _
  clear_value p10 w11
  obtain ⟨a', m', c', hc', hr⟩ := (h8.no k11).push (K := fun v' => Ending.returned (.tuple #[]) = .returned (.tuple #[]) ∧ Todo w0 v' p p2 p20 (gs ++ [fun x => x.Cut f n])) hlen b10 rfl (.inl ⟨p5, p7, f, n, rfl, b5.no k11, b7.no k11, rfl⟩) fun v' h' => ⟨rfl, h'⟩
  have := (hB.no k11).cell 0
  rw [hc'] at this
  simp at this
  obtain ⟨rfl, rfl, rfl⟩ := this
  exact hr
section
variable {w w' w'' : World} {lo p : Nat} {q : Sv} {x y : A}
theorem Did.pre (k : Keep no w w') (h : Did w' w'' lo p q y) : Did w w'' lo p q y := Did.trans (k.mono fun _ _ h => h.elim) (fun _ h => .inl h) h
theorem Did.post (h : Did w w' lo p q y) (k : Keep no w' w'') : Did w w'' lo p q y := by
  obtain ⟨q', h1, h2, h3⟩ := h
  exact ⟨q', h1.no_ k, h2.no k, h3⟩
/-- What Open answers. -/
def OpenD (w v : World) (lo p : Nat) (q : Sv) (x : A) (e : Ending) : Prop :=
  Did w v lo p q (A.seq (openG x.now) x).1 ∧ (((A.seq (openG x.now) x).2 ≠ 0 ∧ e = .returned (.tuple #[.pointer none, .slice none 0 0, .int .i64 180])) ∨
    ((A.seq (openG x.now) x).2 = 0 ∧ ∃ (l : Nat) (s1 : Option Addr) (s2 s3 : Nat), e = .returned (.tuple #[dp l, .slice s1 s2 s3, .int .i64 0]) ∧ w.heap.size ≤ l ∧
      Bk v l #[dp p, .int .i64 (nmF x.now.a), .int .i64 (scan (x.now.get (nmF x.now.a))).2, .bool false] 147 ∧ v.ownsRow w.heap.size 57 5 (.slice s1 s2 s3) s2 (opl (scan (x.now.get (nmF x.now.a))).1)))
theorem open_spec (h : DkR w lo p q x) (hr : x.rest.length ≤ 900000) : Calls Try.prog 47 #[dp p] w fun e v => OpenD w v lo p q x e := by
  refine c47 ?_
  unfold sh47
  intro p2 w3
  have b2 : Bk w3 p2 #[dp p] 23 := Bk.new _ _ _
  have k3 : Keep no w w3 := Keep.alloc _ _ _
  clear_value p2 w3
  have hf12 := nmF_two x.now.a
  have hrd : ∀ f : Nat, f = 1 ∨ f = 2 → x.read (f : Int) = x.now.get f := by
    intro f hf
    unfold A.read
    rw [if_pos (by omega), Int.toNat_natCast]
  refine ⟨_, b2.cell 0, ?_⟩
  refine (read_spec (h.no_ k3) 0).mono ?_
  rintro e w6 ⟨s, rfl, hs, _, k6⟩
  refine ⟨_, _, _, rfl, ?_⟩
  have hword : x.read 0 = x.now.a := by unfold A.read; rw [if_pos (by decide)]; rfl
  rw [hword] at hs
  refine (named_spec hs).mono ?_
  rintro e w9 ⟨rfl, rfl⟩
  refine ⟨_, _, rfl, _, (b2.no k6).cell 0, ?_⟩
  have k9 := k3.then k6
  generalize hfe : nmF x.now.a = f at hf12
  refine (read_spec (h.no_ k9) f).mono ?_
  rintro e w14 ⟨s2, rfl, hs2, _, k14⟩
  rw [hrd f hf12] at hs2
  refine ⟨_, _, _, rfl, ?_⟩
  have hsmall := h.ok.now.get f
  have hcnt := scan_count (x.now.get f)
  refine (Scan_spec hs2 (by omega)).mono ?_
  rintro e w17 ⟨⟨o1, o2, o3⟩, rfl, k17, hos, hosn⟩
  refine ⟨o1, o2, o3, _, rfl, ?_⟩
  obtain ⟨_, _, hscle, _⟩ := scan_is _ (x.now.get f) (Nat.le_refl _)
  have k17' := (k9.then k14).then k17
  have hos17 : w17.ownsRow w14.heap.size 57 5 (.slice o1 o2 o3) o2 (opl (scan (x.now.get f)).1) := hos
  have b2' : Bk w17 p2 _ 23 := b2.no ((k6.then k14).then k17)
  intro p20 w21
  have b20 : Bk w21 p20 #[.slice none 0 0] 143 := Bk.new w17 _ _
  have k21 : Keep no w17 w21 := Keep.alloc _ _ _
  have h20 : w17.heap.size ≤ p20 := Nat.le_refl _
  clear_value p20 w21
  have T21 : Todo w17 w21 p p2 p20 [] := ⟨⟨none, 0, 0, [], b20, World.ownsRow_nil _ _ _ _, rfl, fun u hu => by simp at hu, fun i u g hu => by simp at hu⟩, b2'.no k21, k21, h20⟩
  intro K29
  -- behind all: the steps are done
  have last : ∀ (v : World) (gs : List (A → A × Int)), Todo w17 v p p2 p20 gs → gs.length ≤ 10 → gs = openG x.now →
      ∃ (todo53 : Option Addr), ∃ (l_todo53 : Nat), ∃ (c_todo53 : Nat), v.cell? (⟨p20, 0, none⟩ : Addr) = some (.slice todo53 l_todo53 c_todo53) ∧ 
        Calls Try.prog 88 #[.slice todo53 l_todo53 c_todo53] v (fun e54 w55 => ∃ (n56 : Int), e54 = .returned (.int .i64 n56) ∧ 
          cond (n56 != (0 : Int))
            (OpenD w w55 lo p q x (.returned (.tuple #[.pointer none, .slice none 0 0, .int .i64 180])))
            (∃ (d57 : Option Addr), w55.cell? (⟨p2, 0, none⟩ : Addr) = some (.pointer d57) ∧ 
              let p58 : Nat := w55.heap.size; let w59 : World := w55.alloc (.cells #[.pointer d57, .int .i64 f, .int .i64 (scan (x.now.get f)).2, .bool false] 147); 
              OpenD w w59 lo p q x (.returned (.tuple #[.pointer (some ⟨p58, 0, none⟩), .slice o1 o2 o3, .int .i64 0])))) := by
    intro v gs T hgl hgs
    obtain ⟨a, m, c, us, hB, ho, hu, hone, hact⟩ := T.ex
    have hv : DkR v lo p q x := h.no_ (k17'.then T.k)
    have hm : m = us.length := by have := ho.1; omega
    refine ⟨a, m, c, hB.cell 0, ?_⟩
    refine (steps_seq (x := x) (gs := gs) (us := us) (fun y u => Did v u lo p q y) (Did.same hv (Keep.refl _ _)) hm.symm (by omega) (by omega) ?_ ?_).mono ?_
    · rintro y u ⟨_, _, ku, _⟩ i z hz
      have hr : Rd u 42 1 a m c us := Rd.own (own_S ho ku fun b hb => dk_off hv (ty_lt ho hb).2.2)
      have hi := (List.getElem?_eq_some_iff.1 hz).1
      obtain ⟨q1, hq1, hc1⟩ := hr.at_ (i := i) (by omega)
      obtain ⟨z', hz', hcz⟩ := hc1 0 (by omega)
      rw [Nat.mul_one, Nat.add_zero, hz] at hz'
      cases hz'
      rw [addZ] at hcz
      exact ⟨q1, hq1, hcz⟩
    · intro i g y u hg hsy hd
      have hi := (List.getElem?_eq_some_iff.1 hg).1
      have hyl : y.rest.length ≤ x.rest.length + 10 := by
        have h1 := A.seq_len (B := 1) (gs := gs.take i) (x := x) (by
          intro g' hg' y'
          have hg2 := List.mem_of_mem_take hg'
          obtain ⟨j, hj⟩ := List.getElem?_of_mem hg2
          obtain ⟨z, hz⟩ : ∃ z, us[j]? = some z := by
            have hjl := (List.getElem?_eq_some_iff.1 hj).1
            exact ⟨us[j]'(by omega), List.getElem?_eq_getElem (by omega)⟩
          rcases hact j z g' hz hj with ⟨_, _, f', n', _, _, _, rfl⟩ | ⟨_, rfl⟩
          · exact A.Cut_len y' f' n'
          · exact A.Sync_len y')
        rw [hsy] at h1
        have : (gs.take i).length ≤ 10 := by rw [List.length_take]; omega
        simp only at h1
        omega
      have hz := List.getElem?_eq_getElem (l := us) (i := i) (by omega)
      obtain ⟨q', hq', ku, hqb⟩ := hd
      rcases hact i _ g hz hg with ⟨b1, b2, f', n', hz2, hb1, hb2, rfl⟩ | ⟨hz2, rfl⟩
      · rw [hz2] at hz
        refine ⟨87, _, _, hz, rfl, ?_⟩
        refine c87 ?_
        unfold sh87
        refine ⟨_, (T.p2_.keep ku (dk_off hv T.p2_.ty)).cell 0, _, (hb1.keep ku (dk_off hv hb1.ty)).cell 0, _, (hb2.keep ku (dk_off hv hb2.ty)).cell 0, ?_⟩
        refine (Cut_spec hq' f' n' (by omega)).mono ?_
        rintro e v' ⟨rfl, hd'⟩
        exact ⟨_, rfl, rfl, Did.trans ku hqb hd'⟩
      · rw [hz2] at hz
        refine ⟨30, _, _, hz, rfl, ?_⟩
        refine (Sync_spec hq').mono ?_
        rintro e v' ⟨rfl, hd'⟩
        exact ⟨rfl, Did.trans ku hqb hd'⟩
    · rintro e w55 ⟨rfl, hd⟩
      refine ⟨_, rfl, ?_⟩
      subst hgs
      have kv := k17'.then T.k
      have hD := Did.pre kv hd
      refine cond_i (fun hne => ?_) (fun heq => ?_)
      · exact ⟨hD, .inl ⟨by simpa using hne, rfl⟩⟩
      · have heq' : (A.seq (openG x.now) x).2 = 0 := by simpa using heq
        obtain ⟨q', hq', ku, hqb⟩ := hd
        refine ⟨_, (T.p2_.keep ku (dk_off hv T.p2_.ty)).cell 0, ?_⟩
        intro p58 w59
        have b58 : Bk w59 p58 #[dp p, .int .i64 f, .int .i64 (scan (x.now.get f)).2, .bool false] 147 := Bk.new w55 _ _
        have k59 : Keep no w55 w59 := Keep.alloc _ _ _
        have h58 : w55.heap.size ≤ p58 := Nat.le_refl _
        clear_value p58 w59
        have osv := own_no' hos17 T.k
        have os59 := own_no' (own_S osv ku fun b hb => dk_off hv (ty_lt osv hb).2.2) k59
        have hbase : ∀ {u : World} {cs : List Value}, u.ownsRow w14.heap.size 57 5 (.slice o1 o2 o3) o2 cs → u.ownsRow w.heap.size 57 5 (.slice o1 o2 o3) o2 cs := by
          rintro u cs ⟨h1, h2⟩
          refine ⟨h1, ?_⟩
          rcases h2 with h2 | ⟨g, cap, cur, e1, e2, e3⟩
          · exact .inl h2
          · exact .inr ⟨g, cap, cur, e1, Nat.le_trans (k9.then k14).size e2, e3⟩
        refine ⟨Did.post hD k59, .inr ⟨heq', p58, o1, o2, o3, rfl, Nat.le_trans kv.size (Nat.le_trans ku.size h58), ?_, ?_⟩⟩
        · rw [hfe]; exact b58
        · rw [hfe]; exact hbase os59
  -- a Sync behind what there is
  have sync : ∀ (v : World) (gs : List (A → A × Int)), Todo w17 v p p2 p20 gs → gs.length ≤ 9 → gs = openT x.now → ∀ K52 : World → Prop, (∀ v' gs', Todo w17 v' p p2 p20 gs' → gs'.length ≤ 10 → gs' = openG x.now → K52 v') →
      ∃ (todo42 : Option Addr), ∃ (l_todo42 : Nat), ∃ (c_todo42 : Nat), v.cell? (⟨p20, 0, none⟩ : Addr) = some (.slice todo42 l_todo42 c_todo42) ∧ 
        cond (decide (((l_todo42 : Nat) : Int) > (0 : Int)))
          (∃ (todo43 : Option Addr), ∃ (l_todo43 : Nat), ∃ (c_todo43 : Nat), v.cell? (⟨p20, 0, none⟩ : Addr) = some (.slice todo43 l_todo43 c_todo43) ∧ 
            ∃ (d44 : Option Addr), v.cell? (⟨p2, 0, none⟩ : Addr) = some (.pointer d44) ∧ 
            let p45 : Nat := v.heap.size; let w46 : World := v.alloc (.cells #[.func (.func 30) #[.pointer d44] #[]] 42); 
            RunWp Try.prog (Builtin.append_ #[143, 143] 143 #[.slice todo43 l_todo43 c_todo43, .slice (some ⟨p45, 0, none⟩) 1 1]) (fun v47 w48 => ∃ (a49 : Option Addr), ∃ (l_a49 : Nat), ∃ (c_a49 : Nat), v47 = .slice a49 l_a49 c_a49 ∧ 
              wr w48 (⟨p20, 0, none⟩ : Addr) ∧ let w50 : World := w48.setCell (⟨p20, 0, none⟩ : Addr) (.slice a49 l_a49 c_a49); 
              K52 w50) w46)
          (K52 v) := by
    intro v gs T hgl hgs K52 hK
    obtain ⟨a, m, c, us, hB, ho, hu, hone, hact⟩ := T.ex
    have hm : m = us.length := by have := ho.1; omega
    refine ⟨a, m, c, hB.cell 0, ?_⟩
    refine cond_d (fun hpos => ?_) (fun hz => ?_)
    · refine ⟨a, m, c, hB.cell 0, _, T.p2_.cell 0, ?_⟩
      intro p45 w46
      have b45 : Bk w46 p45 #[.func (.func 30) #[dp p] #[]] 42 := Bk.new _ _ _
      have k46 : Keep no v w46 := Keep.alloc _ _ _
      clear_value p45 w46
      obtain ⟨a', m', c', hc', hr⟩ := (T.no k46).push (K := K52) (by omega) b45 rfl (.inr ⟨rfl, rfl⟩) fun v' T' => hK v' _ T' (by simp; omega) (by rw [hgs]; unfold openG; rw [if_pos (by rw [← hgs]; omega)])
      have := (hB.no k46).cell 0
      rw [hc'] at this
      simp at this
      obtain ⟨rfl, rfl, rfl⟩ := this
      exact hr
    · have h0 : gs = [] := List.eq_nil_of_length_eq_zero (by omega)
      refine hK v gs T (by omega) ?_
      unfold openG
      rw [← hgs, h0, if_neg (by simp)]
  have n3 : IntKind.i64.wrap ((3 : Int) - ((f : Nat) : Int)) = ((3 - f : Nat) : Int) := by rw [IntWalk.i64_in _ ⟨by omega, by omega⟩]; omega
  have fin : ∀ v, Todo w17 v p p2 p20 (if (scan (x.now.get f)).2 < (x.now.get f).length then [fun x => x.Cut f (scan (x.now.get f)).2] else []) → True := fun _ _ => trivial
  have go29 : ∀ v gs, gs = (if (scan (x.now.get f)).2 < (x.now.get f).length then [fun y : A => y.Cut f (scan (x.now.get f)).2] else []) → Todo w17 v p p2 p20 gs → K29 v := by
    intro v gs hgs T
    have hg1 : gs.length ≤ 1 := by rw [hgs]; split <;> simp
    unfold K29
    intro K37
    have go37 : ∀ v gs', gs' = gs ++ (if 0 < (x.now.get (3 - f)).length then [fun y : A => y.Cut ((3 - f : Nat) : Int) 0] else []) → Todo w17 v p p2 p20 gs' → K37 v := by
      intro v gs' hgs' T
      have hg2 : gs'.length ≤ 2 := by rw [hgs', List.length_append]; split <;> simp <;> omega
      unfold K37
      intro K41
      have go41 : ∀ v gs'', gs'' = gs' ++ (if tidyW x.now.a then [] else [fun y : A => y.Cut 0 0]) → Todo w17 v p p2 p20 gs'' → K41 v := by
        intro v gs'' hgs'' T
        have hg3 : gs''.length ≤ 3 := by rw [hgs'', List.length_append]; split <;> simp <;> omega
        refine sync v gs'' T (by omega) ?_ _ fun v' g' T' h1 h2 => last v' g' T' h1 h2
        rw [hgs'', hgs', hgs]
        unfold openT
        rw [hfe, List.append_assoc]
      clear_value K41
      refine cond_i (fun ht => ?_) (fun ht => ?_)
      · refine (cut_spec T (by omega) 0 0).mono ?_
        rintro e w39 ⟨rfl, T39⟩
        refine ⟨rfl, go41 w39 _ ?_ T39⟩
        rw [if_neg (by simpa using ht)]
      · refine go41 v gs' ?_ T
        rw [if_pos (by simpa using ht), List.append_nil]
    clear_value K37
    refine ⟨_, T.p2_.cell 0, ?_⟩
    rw [n3]
    refine (size_spec (h.no_ (k17'.then T.k)) ((3 - f : Nat) : Int)).mono ?_
    rintro e w32 ⟨rfl, k32⟩
    rw [hrd (3 - f) (by omega)]
    refine ⟨_, rfl, ?_⟩
    have T32 := T.no k32
    refine cond_d (fun hp => ?_) (fun hp => ?_)
    · refine (cut_spec T32 (by omega) ((3 - f : Nat) : Int) 0).mono ?_
      rintro e w35 ⟨rfl, T35⟩
      exact ⟨rfl, go37 w35 _ (by rw [if_pos (by omega)]) T35⟩
    · exact go37 w32 gs (by rw [if_neg (by omega), List.append_nil]) T32
  clear_value K29
  refine ⟨_, T21.p2_.cell 0, ?_⟩
  refine (size_spec (h.no_ (k17'.then k21)) f).mono ?_
  rintro e w24 ⟨rfl, k24⟩
  rw [hrd f hf12]
  refine ⟨_, rfl, ?_⟩
  have T24 := T21.no k24
  refine cond_d (fun hp => ?_) (fun hp => ?_)
  · refine (cut_spec T24 (by simp) f (scan (x.now.get f)).2).mono ?_
    rintro e w27 ⟨rfl, T27⟩
    exact ⟨rfl, go29 w27 _ (by rw [if_pos (by omega)]; rfl) T27⟩
  · exact go29 w24 [] (by rw [if_neg (by omega)]) T24
end
end
end Go.Proofs.Ytmfidfaiopogbaa
