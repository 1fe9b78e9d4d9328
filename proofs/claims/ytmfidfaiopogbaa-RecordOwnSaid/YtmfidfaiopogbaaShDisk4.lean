/- Contracts of Write, Cut, Sync, Arm, Crash and Load. -/
import Derived.Test.YtmfidfaiopogbaaShDisk3
set_option linter.unusedVariables false
set_option linter.unusedSectionVars false
set_option linter.unusedSimpArgs false
set_option maxRecDepth 4000
namespace Go.Proofs.Ytmfidfaiopogbaa
open Go Go.Sh
variable [Av]

instance (x : A) (f a : Int) : Decidable (IsF x f a) := by unfold IsF; infer_instance
def A.Write (x : A) (f off : Int) (l : Bs) : A × Int :=
  if IsF x f off then
    if 8 < l.length then (x, 3) else if 65536 < off.toNat + l.length then (x, 181) else (x.raw1 f.toNat off.toNat l false, bif x.dead then 180 else 0)
  else (x, 1)
def A.Cut (x : A) (f n : Int) : A × Int :=
  if IsF x f n then (x.raw1 f.toNat n.toNat [] true, bif x.dead then 180 else 0) else (x, 1)
def A.Sync (x : A) : A × Int := bif x.dead then (x, 180) else ({ x.stepped with first := x.now, rest := [] }, 0)
def A.Arm (x : A) (n : Int) : A × Int := if n < 0 then (x, 1) else bif x.dead then (x, 180) else ({ x with armed := true, left := n }, 0)
def A.st (x : A) (i : Nat) : Fs := (x.first :: x.rest).getD i x.first
def A.keep (x : A) (k : Int) : Nat := (mnI (mxI k 0) x.rest.length).toNat
def A.Crash (x : A) (k : Int) : A := ⟨x.st (x.keep k), [], 0, false, 0⟩

omit [Av] in
theorem wrt_len (old : Bs) (at_ : Nat) (l : Bs) (cut : Bool) (ha : at_ ≤ old.length) : (wrt old at_ l cut).length ≤ max (at_ + l.length) old.length := by
  unfold wrt
  have : (old.take at_ ++ l).length = at_ + l.length := by simp; omega
  cases h : (!cut && decide ((old.take at_ ++ l).length < old.length)) <;> simp <;> omega

section
variable {w : World} {lo p : Nat} {q : Sv} {x : A}

theorem Write_spec (h : DkR w lo p q x) (f off : Int) {b : Sv} {l : Bs} (hb : Ru w b l) (hn : x.rest.length ≤ 1000000) :
    Calls Try.prog 31 #[dp p, .int .i64 f, .int .i64 off, b.v] w fun e w' => e = .returned (.int .i64 (x.Write f off l).2) ∧ Did w w' lo p q (x.Write f off l).1 := by
  refine c31 ?_
  unfold sh31
  refine (is_spec h f off).mono ?_
  rintro e w' ⟨r, rfl, rfl, hr⟩
  refine ⟨r, rfl, ?_⟩
  have hbn : b.n = l.length := hb.len
  unfold A.Write
  cases r with
  | false =>
    rw [if_neg (fun hf => by have := hr.2 hf; cases this)]
    exact ⟨rfl, Did.same h (Keep.refl _ _)⟩
  | true =>
    have hF := hr.1 rfl
    rw [if_pos hF]
    obtain ⟨h1, h2, h3, h4⟩ := hF
    refine cond_d (fun hl => ?_) (fun hl => ?_)
    · rw [if_pos (by omega)]
      exact ⟨rfl, Did.same h (Keep.refl _ _)⟩
    · rw [if_neg (by omega)]
      have hsm := h.ok.now.get f.toNat
      rw [IntWalk.i64_in _ ⟨by omega, by omega⟩]
      refine cond_d (fun hl2 => ?_) (fun hl2 => ?_)
      · rw [if_pos (by omega)]
        exact ⟨rfl, Did.same h (Keep.refl _ _)⟩
      · rw [if_neg (by omega)]
        refine (clone_spec hb (by omega) h.av).mono ?_
        rintro e w2 ⟨s, rfl, hs, _, k2, _⟩
        refine ⟨s.a, s.n, s.c, rfl, ?_⟩
        obtain ⟨g, rfl⟩ := Int.eq_ofNat_of_zero_le h1
        obtain ⟨o, rfl⟩ := Int.eq_ofNat_of_zero_le h3
        simp only [Int.toNat_natCast] at *
        have hw := wrt_len (x.now.get g) o l false (by omega)
        refine (write_spec (h.no_ k2) (b := s) (cut := false) hs (by omega) (by omega) (by omega) (by omega) hn).mono ?_
        rintro e w3 ⟨rfl, hD⟩
        exact ⟨_, rfl, rfl, Did.trans (k2.mono fun _ _ h => h.elim) (fun _ h => .inl h) hD⟩

theorem Cut_spec (h : DkR w lo p q x) (f n : Int) (hn : x.rest.length ≤ 1000000) :
    Calls Try.prog 35 #[dp p, .int .i64 f, .int .i64 n] w fun e w' => e = .returned (.int .i64 (x.Cut f n).2) ∧ Did w w' lo p q (x.Cut f n).1 := by
  refine c35 ?_
  unfold sh35
  refine (is_spec h f n).mono ?_
  rintro e w' ⟨r, rfl, rfl, hr⟩
  refine ⟨r, rfl, ?_⟩
  unfold A.Cut
  cases r with
  | false =>
    rw [if_neg (fun hf => by have := hr.2 hf; cases this)]
    exact ⟨rfl, Did.same h (Keep.refl _ _)⟩
  | true =>
    have hF := hr.1 rfl
    rw [if_pos hF]
    obtain ⟨h1, h2, h3, h4⟩ := hF
    have hsm := h.ok.now.get f.toNat
    obtain ⟨g, rfl⟩ := Int.eq_ofNat_of_zero_le h1
    obtain ⟨o, rfl⟩ := Int.eq_ofNat_of_zero_le h3
    simp only [Int.toNat_natCast] at *
    have hw := wrt_len (x.now.get g) o [] true (by omega)
    refine (write_spec h (b := ⟨none, 0, 0⟩) (l := []) (cut := true) (Rd.nil _ _ _) (by omega) (by omega) (by simp) (by simp at hw; omega) hn).mono ?_
    rintro e w3 ⟨rfl, hD⟩
    exact ⟨_, rfl, rfl, hD⟩

theorem Sync_spec (h : DkR w lo p q x) : Calls Try.prog 30 #[dp p] w fun e w' => e = .returned (.int .i64 x.Sync.2) ∧ Did w w' lo p q x.Sync.1 := by
  refine c30 ?_
  unfold sh30
  refine (step_spec h).mono ?_
  rintro e w3 ⟨rfl, hd1, hd2, k3⟩
  refine ⟨_, rfl, ?_⟩
  unfold A.Sync
  refine cond_i (fun hd => ?_) (fun hd => ?_)
  · have hd' : x.dead = true := by simpa using hd
    rw [hd']
    have := hd1 hd'; subst this
    exact ⟨rfl, Did.same h (Keep.refl _ _)⟩
  · have hd' : x.dead = false := by simpa using hd
    rw [hd']
    have h3 := hd2 hd'
    obtain ⟨d0, d1, d2, n0, n1, n2, dl, hB, hal, h0, h1, h2, g3, g4, g5⟩ := h3.ex
    refine ⟨_, _, _, _, _, _, _, _, _, by rw [addP]; exact hB.cell 3, by rw [addP]; exact hB.cell 4, by rw [addP]; exact hB.cell 5, hB.wrN (by simp [dkC]), ?_⟩
    intro w8
    have hB8 : Bk w8 p (dkC n0 n1 n2 n0 n1 n2 q x.raws x.armed dl) 112 := hB.setN (o := 0) (vs := [n0.v, n1.v, n2.v]) (i := 0)
    have k8 : Keep (is p) w3 w8 := setN_keep (S := is p) (a := ⟨p, 0, none⟩) rfl _ _ _
    clear_value w8
    refine ⟨by rw [addP]; exact hB8.wr (by simp [dkC]), ?_⟩
    intro w9
    have hB9 : Bk w9 p (dkC n0 n1 n2 n0 n1 n2 ⟨none, 0, 0⟩ x.raws x.armed dl) 112 := by
      have := hB8.set 6 (.slice none 0 0)
      rw [← Nat.zero_add 6, ← addP] at this
      exact this
    have k9 : Keep (is p) w8 w9 := Keep.set w8 _ (by rw [addP]; rfl)
    clear_value w9
    have kA := k8.then k9
    have h5 : ∀ b, is p b → ¬ TyB w3 b 5 := by rintro b rfl ht; exact absurd (ht.uniq hB.ty) (by decide)
    refine ⟨rfl, ⟨none, 0, 0⟩, ⟨⟨n0, n1, n2, n0, n1, n2, dl, hB9, hal, g3.keep kA h5, g4.keep kA h5, g5.keep kA h5, g3.keep kA h5, g4.keep kA h5, g5.keep kA h5⟩, ⟨[], World.ownsRow_nil _ _ _ _, rfl, rfl⟩, h.lo_, h3.av.up kA, ?_⟩, ((k3.then kA).mono fun _ _ h => .inl h), ?_⟩
    · refine ⟨fun s hs => ?_, h3.ok.left⟩
      have hs' : s ∈ [x.now] := hs
      simp at hs'; rw [hs']; exact h.ok.now
    · rintro b (rfl | ⟨z, hz, _⟩)
      · exact .inl (.inl rfl)
      · cases hz

theorem Arm_spec (h : DkR w lo p q x) (n : Int) (hn : n ≤ 9223372036854775807) : Calls Try.prog 54 #[dp p, .int .i64 n] w fun e w' => e = .returned (.int .i64 (x.Arm n).2) ∧ Did w w' lo p q (x.Arm n).1 := by
  refine c54 ?_
  unfold sh54
  unfold A.Arm
  refine cond_d (fun h1 => ?_) (fun h1 => ?_)
  · rw [if_pos h1]
    exact ⟨rfl, Did.same h (Keep.refl _ _)⟩
  · rw [if_neg h1]
    refine (dead_spec h).mono ?_
    rintro e w' ⟨rfl, rfl⟩
    refine ⟨_, rfl, ?_⟩
    refine cond_i (fun hd => ?_) (fun hd => ?_)
    · rw [hd]; exact ⟨rfl, Did.same h (Keep.refl _ _)⟩
    · rw [hd]
      obtain ⟨d0, d1, d2, n0, n1, n2, dl, hB, hal, h0, h1', h2, g3, g4, g5⟩ := h.ex
      refine ⟨by rw [addP]; exact hB.wr (by simp [dkC]), ?_⟩
      intro w6
      have hB6 : Bk w6 p (dkC d0 d1 d2 n0 n1 n2 q x.raws true dl) 112 := by
        have := hB.set 8 (.bool true)
        rw [← Nat.zero_add 8, ← addP] at this
        exact this
      have k6 : Keep (is p) w' w6 := Keep.set w' _ (by rw [addP]; rfl)
      clear_value w6
      refine ⟨by rw [addP]; exact hB6.wr (by simp [dkC]), ?_⟩
      intro w7
      have hB7 : Bk w7 p (dkC d0 d1 d2 n0 n1 n2 q x.raws true n) 112 := by
        have := hB6.set 9 (.int .i64 n)
        rw [← Nat.zero_add 9, ← addP] at this
        exact this
      have k7 : Keep (is p) w6 w7 := Keep.set w6 _ (by rw [addP]; rfl)
      clear_value w7
      have kA := k6.then k7
      have h5 : ∀ b, is p b → ¬ TyB w' b 5 := by rintro b rfl ht; exact absurd (ht.uniq hB.ty) (by decide)
      obtain ⟨cs, ho, hq, hP⟩ := h.own
      refine ⟨rfl, q, ⟨⟨d0, d1, d2, n0, n1, n2, n, hB7, fun _ => rfl, h0.keep kA h5, h1'.keep kA h5, h2.keep kA h5, g3.keep kA h5, g4.keep kA h5, g5.keep kA h5⟩, ⟨cs, own_keep ho kA ?_, hq, hP.keep kA h5⟩, h.lo_, h.av.up kA, ?_⟩, (kA.mono fun _ _ h => .inl h), fun b hb => .inl hb⟩
      · rintro b hb rfl
        cases hq : q.a with
        | none => rw [Sv.v, hq] at hb; cases hb
        | some z =>
          rw [Sv.v, hq] at hb
          simp only [Value.ownBlock, Option.some.injEq] at hb
          exact absurd ((own_ty ho ⟨z, hq, hb⟩).1.uniq hB.ty) (by decide)
      · exact ⟨h.ok.small, fun _ => ⟨by show 0 ≤ n; omega, hn⟩⟩

/-- The i-th pending raw write. -/
theorem PendC.at_ {w : World} : ∀ {s0 : Fs} {ss : List Fs} {cs : List Value}, PendC w s0 ss cs → ∀ {i : Nat}, i < ss.length →
    ∃ (f at_ : Nat) (b : Sv) (l : Bs) (cut : Bool), cs[i * 4]? = some (.int .i64 f) ∧ cs[i * 4 + 1]? = some (.int .i64 at_) ∧ cs[i * 4 + 2]? = some b.v ∧ cs[i * 4 + 3]? = some (.bool cut) ∧
      Rs w b l ∧ f < 3 ∧ at_ ≤ (((s0 :: ss).getD i s0).get f).length ∧ l.length ≤ 65536 ∧ (s0 :: ss).getD (i + 1) s0 = ((s0 :: ss).getD i s0).set f (wrt (((s0 :: ss).getD i s0).get f) at_ l cut)
  | s0, [], _, h, i, hi => by simp at hi
  | s0, s1 :: ss, cs, h, i, hi => by
    obtain ⟨f, at_, b, l, cut, cs', rfl, h2, h3, h4, h5, h6, h7⟩ := h
    cases i with
    | zero => exact ⟨f, at_, b, l, cut, rfl, rfl, rfl, rfl, h2, h3, h4, h5, h6⟩
    | succ i =>
      obtain ⟨f, at_, b, l, cut, g0, g1, g2, g3, g4, g5, g6, g7, g8⟩ := PendC.at_ h7 (i := i) (by simpa using hi)
      have hi' : i < ss.length := by simpa using hi
      have e1 : (s0 :: s1 :: ss).getD (i + 1) s0 = (s1 :: ss).getD i s1 := by
        simp only [List.getD_cons_succ]
        simp only [List.getD_eq_getElem?_getD]
        rw [List.getElem?_eq_getElem (by simp; omega)]; rfl
      have e2 : (s0 :: s1 :: ss).getD (i + 1 + 1) s0 = (s1 :: ss).getD (i + 1) s1 := by
        simp only [List.getD_cons_succ]
        simp only [List.getD_eq_getElem?_getD]
        rw [List.getElem?_eq_getElem (by omega)]; rfl
      rw [e1, e2]
      refine ⟨f, at_, b, l, cut, ?_, ?_, ?_, ?_, g4, g5, g6, g7, g8⟩
      · rw [Nat.add_mul]; simpa using g0
      · rw [Nat.add_mul, show i * 4 + 1 * 4 + 1 = (i * 4 + 1) + 4 by omega]; simpa using g1
      · rw [Nat.add_mul, show i * 4 + 1 * 4 + 2 = (i * 4 + 2) + 4 by omega]; simpa using g2
      · rw [Nat.add_mul, show i * 4 + 1 * 4 + 3 = (i * 4 + 3) + 4 by omega]; simpa using g3

omit [Av] in
theorem A.keep_le (x : A) (k : Int) : x.keep k ≤ x.rest.length := by unfold A.keep mnI mxI; split <;> split <;> omega
omit [Av] in
theorem A.st_mem (x : A) (i : Nat) : x.st i ∈ x.first :: x.rest := by
  unfold A.st
  rw [List.getD_eq_getElem?_getD]
  cases h : (x.first :: x.rest)[i]? with
  | none => simp
  | some s => exact List.mem_of_getElem? h

theorem Crash_spec (h : DkR w lo p q x) (k : Int) : Calls Try.prog 23 #[dp p, .int .i64 k] w fun e w' => ∃ p', e = .returned (dp p') ∧ DkR w' w.heap.size p' ⟨none, 0, 0⟩ (x.Crash k) ∧ Keep no w w' := by
  refine c23 ?_
  unfold sh23
  refine (new_spec w h.av).mono ?_
  rintro e w4 ⟨p5, rfl, h4, k4, hp5, hB4⟩
  have g4 := h.no_ k4
  obtain ⟨d0, d1, d2, n0, n1, n2, dl, hB, hal, h0, h1, h2, h3⟩ := g4.ex
  refine ⟨_, rfl, _, _, _, _, _, _, _, _, _, hB.cell 0, by rw [addP]; exact hB.cell 1, by rw [addP]; exact hB.cell 2, by rw [addP]; exact hB4.wrN (by simp [dkC]), ?_⟩
  clear h3
  intro w10
  have hB10 : Bk w10 p5 (dkC ⟨none, 0, 0⟩ ⟨none, 0, 0⟩ ⟨none, 0, 0⟩ d0 d1 d2 ⟨none, 0, 0⟩ 0 false 0) 112 := by
    have := hB4.setN (o := 3) (vs := [d0.v, d1.v, d2.v]) (i := 0)
    rw [← Nat.zero_add 3, ← addP] at this
    exact this
  have k10 : Keep (is p5) w4 w10 := setN_keep (S := is p5) (by rw [addP]; rfl) _ _ _
  clear_value w10
  intro w11
  replace hB10 : Bk w11 p5 _ _ := hB10.drew
  replace k10 : Keep (is p5) w4 w11 := k10.no (Keep.drew _ _)
  clear_value w11
  have hpn : ∀ b, is p5 b → w.heap.size ≤ b := by rintro b rfl; omega
  have K11 : Keep no w w11 := k4.new k10 hpn
  have g11 := h.no_ K11
  have h55 : ∀ b, is p5 b → ¬ TyB w4 b 5 := by rintro b rfl ht; exact absurd (ht.uniq hB4.ty) (by decide)
  have r0 := h0.keep k10 h55
  have r1 := h1.keep k10 h55
  have r2 := h2.keep k10 h55
  have hp : p < w.heap.size := h.pmono
  obtain ⟨cs, ho, hqn, hP⟩ := g11.own
  have hBp : ∃ C : Array Value, Bk w11 p C 112 ∧ C[6]? = some q.v := ⟨_, hB.keep k10 (by unfold is; omega), rfl⟩
  obtain ⟨C, hC, hC6⟩ := hBp
  have hkl := x.keep_le k
  have hk0 : 0 ≤ mnI (mxI k 0) (q.n : Int) := by unfold mnI mxI; split <;> split <;> omega
  have hkq : (mnI (mxI k 0) (q.n : Int)).toNat = x.keep k := by unfold A.keep; rw [hqn]
  have hr := Rd.own ho
  have hqc := hr.2.1
  refine ⟨q.a, q.n, q.c, by rw [addP, hC.cell]; exact hC6, q.a, q.n, q.c, by rw [addP, hC.cell]; exact hC6, hk0, by omega, ?_⟩
  rw [hkq]
  refine ⟨fun vs v => ∃ (i : Nat) (m0 m1 m2 : Sv), vs = [.int .i64 i] ∧ i ≤ x.keep k ∧ Bk v p5 (dkC ⟨none, 0, 0⟩ ⟨none, 0, 0⟩ ⟨none, 0, 0⟩ m0 m1 m2 ⟨none, 0, 0⟩ 0 false 0) 112 ∧
      Rs v m0 (x.st i).a ∧ Rs v m1 (x.st i).b ∧ Rs v m2 (x.st i).c ∧ Keep no w v, fun vs v => match vs with | [.int _ i] => x.keep k - i.toNat | _ => 0, ⟨0, d0, d1, d2, rfl, by omega, hB10, r0, r1, r2, K11⟩, ?_⟩
  rintro w15 n14 ⟨i, m0, m1, m2, hv, hi, hB15, s0, s1, s2, K15⟩
  cases hv
  refine cond_d (fun hlt => ?_) (fun hge => ?_)
  · have hlt' : i < x.keep k := by omega
    obtain ⟨cs, ho, hqn, hP⟩ := (h.no_ K15).own
    have hr15 := (Rd.own ho).sub (Nat.zero_le (x.keep k)) (by rw [hqn]; exact hkl)
    obtain ⟨q18, hq18, hc18⟩ := hr15.at_ (i := i) (by omega)
    obtain ⟨f, at_, b, l, cut, c0, c1, c2, c3, hb, hf, ha, hl, hst⟩ := hP.at_ (i := i) (by omega)
    have hcell : ∀ j u, j < 4 → cs[i * 4 + j]? = some u → w15.cell? ((q18.add (i * 4)).add j) = some u := by
      intro j u hj hu
      obtain ⟨u', hu', hc⟩ := hc18 j hj
      rw [Nat.zero_mul, List.drop_zero, List.getElem?_take, if_pos (by omega)] at hu'
      rw [hu] at hu'; cases hu'; exact hc
    refine ⟨q18, hq18, by omega, by omega, ?_⟩
    rw [Int.toNat_natCast]
    refine ⟨_, _, _, _, _, _, by rw [← addZ (q18.add (i * 4))]; exact hcell 0 _ (by omega) c0, hcell 1 _ (by omega) c1, hcell 2 _ (by omega) c2, hcell 3 _ (by omega) c3, ?_⟩
    intro p23 w24
    have b24 : Bk w24 p23 #[.int .i64 0, .int .i64 0, .slice none 0 0, .bool false] 114 := Bk.new w15 _ _
    have k24 : Keep no w15 w24 := Keep.alloc _ _ _
    have hp23 : w15.heap.size ≤ p23 := Nat.le_refl _
    clear_value p23 w24
    refine ⟨b24.wrN (by simp), ?_⟩
    intro w25
    have b25 : Bk w25 p23 #[.int .i64 f, .int .i64 at_, b.v, .bool cut] 114 := b24.setAll rfl
    have k25 : Keep (is p23) w24 w25 := setN_keep (S := is p23) (a := ⟨p23, 0, none⟩) rfl _ _ _
    clear_value w25
    intro w26
    replace b25 : Bk w26 p23 _ _ := b25.drew
    replace k25 : Keep (is p23) w24 w26 := k25.no (Keep.drew _ _)
    clear_value w26
    have k26 : Keep no w15 w26 := k24.new k25 (by rintro y rfl; exact hp23)
    have hB26 := hB15.no k26
    refine ⟨_, _, _, _, _, _, _, _, _, by rw [addP]; exact hB26.cell 3, by rw [addP]; exact hB26.cell 4, by rw [addP]; exact hB26.cell 5, _, _, _, _, _, _, b25.cell 0, b25.cell 1, b25.cell 2, b25.cell 3, ?_⟩
    have hsm := (h.ok.small _ (x.st_mem i)).get f
    refine (done_spec (X0 := x.st i) (s0.no k26) (s1.no k26) (s2.no k26) (hb.no k26) hf ha hsm hl ((h.av.up K15).up k26)).mono ?_
    rintro e w36 ⟨y0, y1, y2, rfl, t0, t1, t2, k36⟩
    have hB36 := hB26.no k36
    refine ⟨_, _, _, _, _, _, _, _, _, rfl, by rw [addP]; exact hB36.wrN (by simp [dkC]), ?_⟩
    intro w41
    have hB41 : Bk w41 p5 (dkC ⟨none, 0, 0⟩ ⟨none, 0, 0⟩ ⟨none, 0, 0⟩ y0 y1 y2 ⟨none, 0, 0⟩ 0 false 0) 112 := by
      have := hB36.setN (o := 3) (vs := [y0.v, y1.v, y2.v]) (i := 0)
      rw [← Nat.zero_add 3, ← addP] at this
      exact this
    have k41 : Keep (is p5) w36 w41 := setN_keep (S := is p5) (by rw [addP]; rfl) _ _ _
    clear_value w41
    have h5 : ∀ b, is p5 b → ¬ TyB w36 b 5 := by rintro b rfl ht; exact absurd (ht.uniq hB36.ty) (by decide)
    have est : x.st (i + 1) = (x.st i).set f (wrt ((x.st i).get f) at_ l cut) := hst
    have ei : IntKind.i64.wrap ((i : Int) + 1) = ((i + 1 : Nat) : Int) := by
      have := h.ok
      have : (i : Int) < 9223372036854775807 := by have := hr.2.2.1; simp only [maxLen] at this; omega
      rw [IntWalk.i64_in _ ⟨by omega, by omega⟩]; rfl
    rw [ei]
    refine ⟨⟨i + 1, y0, y1, y2, rfl, by omega, hB41, ?_, ?_, ?_, (K15.no (k26.then k36)).new k41 hpn⟩, ?_⟩
    · rw [est]; exact t0.keep k41 h5
    · rw [est]; exact t1.keep k41 h5
    · rw [est]; exact t2.keep k41 h5
    · show x.keep k - ((i + 1 : Nat) : Int).toNat < x.keep k - (i : Int).toNat
      omega
  · have hik : i = x.keep k := by omega
    refine ⟨_, _, _, _, _, _, _, _, _, by rw [addP]; exact hB15.cell 3, by rw [addP]; exact hB15.cell 4, by rw [addP]; exact hB15.cell 5, hB15.wrN (by simp [dkC]), ?_⟩
    intro w47
    have hB47 : Bk w47 p5 (dkC m0 m1 m2 m0 m1 m2 ⟨none, 0, 0⟩ 0 false 0) 112 := hB15.setN (o := 0) (vs := [m0.v, m1.v, m2.v]) (i := 0)
    have k47 : Keep (is p5) w15 w47 := setN_keep (S := is p5) (a := ⟨p5, 0, none⟩) rfl _ _ _
    clear_value w47
    have h5 : ∀ b, is p5 b → ¬ TyB w15 b 5 := by rintro b rfl ht; exact absurd (ht.uniq hB15.ty) (by decide)
    subst hik
    refine ⟨p5, rfl, ⟨⟨m0, m1, m2, m0, m1, m2, 0, hB47, (fun h => by cases h), s0.keep k47 h5, s1.keep k47 h5, s2.keep k47 h5, s0.keep k47 h5, s1.keep k47 h5, s2.keep k47 h5⟩, ⟨[], World.ownsRow_nil _ _ _ _, rfl, rfl⟩, by omega, (h.av.up K15).up k47, ?_⟩, K15.new k47 hpn⟩
    refine ⟨fun s hs => ?_, fun h => by cases h⟩
    have hs' : s ∈ [x.st (x.keep k)] := hs
    simp at hs'; rw [hs']; exact h.ok.small _ (x.st_mem _)
end
end Go.Proofs.Ytmfidfaiopogbaa
