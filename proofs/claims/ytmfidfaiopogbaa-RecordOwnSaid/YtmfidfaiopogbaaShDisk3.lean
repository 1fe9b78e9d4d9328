/- Contracts of the disk's methods that write. -/
import Derived.Test.YtmfidfaiopogbaaShDisk2
set_option linter.unusedVariables false
set_option linter.unusedSectionVars false
set_option linter.unusedSimpArgs false
set_option maxRecDepth 4000
namespace Go.Proofs.Ytmfidfaiopogbaa
open Go Go.Sh
variable [Av]

theorem Rd.blk {w : World} {e sz b n : Nat} {cs : Array Value} (h : Bk w b cs e) (hs : cs.size = n * sz) (hm : n ≤ maxLen) (hz : e = 5 → ¬ Av.Z b := by (intro h; exact absurd h (by decide))) : Rd w e sz (some ⟨b, 0, none⟩) n n cs.toList := by
  refine ⟨by simpa using hs, Nat.le_refl _, hm, fun _ => ⟨b, 0, cs, _, rfl, ⟨_, .inr ⟨rfl, hz⟩, h⟩, fun j u hu => by simpa using hu⟩⟩

/-- What a call that writes to the disk leaves. -/
def Did (w w' : World) (lo p : Nat) (q : Sv) (y : A) : Prop :=
  ∃ q' : Sv, DkR w' lo p q' y ∧ Keep (dk p q) w w' ∧ ∀ b, dk p q' b → dk p q b ∨ w.heap.size ≤ b
theorem Did.same {w w' : World} {lo p : Nat} {q : Sv} {y : A} (h : DkR w lo p q y) (k : Keep no w w') : Did w w' lo p q y :=
  ⟨q, h.no_ k, k.mono fun _ _ h => h.elim, fun _ h => .inl h⟩
theorem Did.trans {w w' w'' : World} {lo p : Nat} {q : Sv} {z : A} (k : Keep (dk p q) w w') {q' : Sv} (hq : ∀ b, dk p q' b → dk p q b ∨ w.heap.size ≤ b) (h : Did w' w'' lo p q' z) : Did w w'' lo p q z := by
  obtain ⟨q2, d2, k2, h2⟩ := h
  refine ⟨q2, d2, k.trans k2 (fun _ _ h => h) (fun b hb h => (hq b h).resolve_right (by omega)), fun b hb => ?_⟩
  rcases h2 b hb with h | h
  · exact hq b h
  · exact .inr (Nat.le_trans k.size h)

section
variable {w : World} {lo p : Nat} {q : Sv} {x : A}

omit [Av] in
theorem A.stepped_ok {x : A} (h : x.ok) (hd : x.dead = false) : x.stepped.ok := by
  refine ⟨h.small, fun ha => ?_⟩
  unfold A.stepped at ha ⊢
  unfold A.dead at hd
  dsimp only at ha ⊢
  have := h.left ha
  rw [ha] at hd ⊢
  simp at hd ⊢
  omega
omit [Av] in
theorem A.push_now (x : A) (s : Fs) : (x.push s).now = s := by simp [A.push, A.now, A.stepped, List.getLastD_eq_getLast?]
omit [Av] in
theorem A.push_ok {x : A} (h : x.ok) (hd : x.dead = false) {s : Fs} (hs : s.small) : (x.push s).ok := by
  have h2 := A.stepped_ok h hd
  refine ⟨fun t ht => ?_, h2.left⟩
  have ht' : t ∈ x.first :: (x.rest ++ [s]) := ht
  rw [← List.cons_append, List.mem_append] at ht'
  rcases ht' with ht' | ht'
  · exact h.small _ ht'
  · simp at ht'; rw [ht']; exact hs
theorem step_spec (h : DkR w lo p q x) : Calls Try.prog 72 #[dp p] w fun e w' => e = .returned (.bool (!x.dead)) ∧ (x.dead = true → w' = w) ∧ (x.dead = false → DkR w' lo p q x.stepped) ∧ Keep (is p) w w' := by
  refine c72 ?_
  unfold sh72
  refine (dead_spec h).mono ?_
  rintro e w' ⟨rfl, rfl⟩
  refine ⟨_, rfl, ?_⟩
  refine cond_i (fun hd => ?_) (fun hd => ?_)
  · exact ⟨by rw [hd]; rfl, fun _ => rfl, fun h => (by rw [hd] at h; cases h), Keep.refl _ _⟩
  · obtain ⟨d0, d1, d2, n0, n1, n2, dl, hB, ha, h0, h1, h2, h3, h4, h5⟩ := h.ex
    refine ⟨dl, by rw [addP]; exact hB.cell 9, by rw [addP]; exact hB.wr (by simp [dkC]), ?_⟩
    intro w6
    have hB6 : Bk w6 p (dkC d0 d1 d2 n0 n1 n2 q x.raws x.armed (IntKind.i64.wrap (dl - 1))) 112 := by
      have := hB.set 9 (.int .i64 (IntKind.i64.wrap (dl - 1)))
      rw [← Nat.zero_add 9, ← addP] at this
      exact this
    have k6 : Keep (is p) w' w6 := Keep.set w' _ (by rw [addP]; rfl)
    clear_value w6
    refine ⟨by rw [hd]; rfl, fun h => (by rw [hd] at h; cases h), fun _ => ?_, k6⟩
    have hk : ∀ b, is p b → ¬ TyB w' b 5 := by rintro b rfl ht; exact absurd (ht.uniq hB.ty) (by decide)
    obtain ⟨cs, ho, hn, hp⟩ := h.own
    refine ⟨⟨d0, d1, d2, n0, n1, n2, _, hB6, fun hx => ?_, h0.keep k6 hk, h1.keep k6 hk, h2.keep k6 hk, h3.keep k6 hk, h4.keep k6 hk, h5.keep k6 hk⟩, ⟨cs, own_keep ho k6 ?_, hn, hp.keep k6 hk⟩, h.lo_, h.av.up k6, A.stepped_ok h.ok hd⟩
    · have hx' : x.armed = true := hx
      have hl := h.ok.left hx'
      have hd' := hd
      unfold A.dead at hd'
      rw [hx'] at hd'
      simp at hd'
      show _ = (if x.armed then x.left - 1 else x.left)
      rw [hx', if_pos rfl, ha hx']
      exact IntWalk.i64_in _ ⟨by omega, by omega⟩
    · rintro b hb rfl
      cases hq : q.a with
      | none => rw [Sv.v, hq] at hb; cases hb
      | some z =>
        rw [Sv.v, hq] at hb
        simp only [Value.ownBlock, Option.some.injEq] at hb
        exact absurd ((own_ty ho ⟨z, hq, hb⟩).1.uniq hB.ty) (by decide)

/-- What a raw write leaves. -/
def A.raw1 (x : A) (f at_ : Nat) (l : Bs) (cut : Bool) : A := bif x.dead then x else x.push (x.now.set f (wrt (x.now.get f) at_ l cut))

theorem write_spec (h : DkR w lo p q x) {f at_ : Nat} {b : Sv} {l : Bs} {cut : Bool} (hb : Rs w b l) (hf : f < 3) (ha : at_ ≤ (x.now.get f).length) (hl : l.length ≤ 65536) (hw : (wrt (x.now.get f) at_ l cut).length ≤ 65536)
    (hn : x.rest.length ≤ 1000000) :
    Calls Try.prog 73 #[dp p, .agg #[.int .i64 f, .int .i64 at_, b.v, .bool cut]] w fun e w' => e = .returned (.int .i64 (bif x.dead then 180 else 0)) ∧ Did w w' lo p q (x.raw1 f at_ l cut) := by
  refine c73 ?_
  unfold sh73
  intro p6 w7
  have b6 : Bk w7 p6 #[.int .i64 f, .int .i64 at_, b.v, .bool cut] 114 := Bk.new w _ _
  have k7 : Keep no w w7 := Keep.alloc _ _ _
  have h6 : w.heap.size ≤ p6 := Nat.le_refl _
  clear_value p6 w7
  have h7 := h.no_ k7
  refine (step_spec h7).mono ?_
  rintro e w9 ⟨rfl, hd1, hd2, k9⟩
  refine ⟨_, rfl, ?_⟩
  unfold A.raw1
  refine cond_i (fun hd => ?_) (fun hd => ?_)
  · have hd' : x.dead = true := by simpa using hd
    rw [hd']
    have := hd1 hd'; subst this
    exact ⟨rfl, Did.same h k7⟩
  · have hd' : x.dead = false := by simpa using hd
    rw [hd']
    have h9 := hd2 hd'
    intro w11
    replace h9 : DkR w11 lo p q x.stepped := h9.no_ (Keep.drew _ _)
    replace k9 : Keep (is p) w7 w11 := k9.no (Keep.drew _ _)
    have hp : p < w.heap.size := h.pmono
    have b6' : Bk w11 p6 _ _ := b6.keep k9 (by unfold is; omega)
    clear_value w11
    obtain ⟨d0, d1, d2, n0, n1, n2, dl, hB, hal, h0, h1, h2, h3, h4, h5⟩ := h9.ex
    obtain ⟨cs, ho, hqn, hP⟩ := h9.own
    have hqn' : q.n = x.rest.length := hqn
    refine ⟨q.a, q.n, q.c, by rw [addP]; exact hB.cell 6, _, _, _, _, _, _, b6'.cell 0, b6'.cell 1, b6'.cell 2, b6'.cell 3, ?_⟩
    intro p17 w18
    have k18 : Keep no w11 w18 := Keep.alloc _ _ _
    have b17 : Bk w18 p17 #[.int .i64 f, .int .i64 at_, b.v, .bool cut] 114 := Bk.new w11 _ _
    have h17 : w11.heap.size ≤ p17 := Nat.le_refl _
    clear_value p17 w18
    refine ⟨⟨q.a, q.n, q.c, by rw [addP]; exact (hB.no k18).cell 6, rfl⟩, ?_⟩
    have hk18 : Keep (is p) w w18 := (k7.trans k9 (T := is p) (fun _ _ h => h.elim) (fun _ _ h => h)).no k18
    refine rw_append E110 (base := lo) (own_keep ho k18 fun _ _ h => h) (Rd.blk b17 (n := 1) rfl (by simp [maxLen])) (by simp [one1]) (by omega) (by simp only [maxLen]; omega) (by have := h.lo_; have := hk18.size; omega) fun a22 c22 w21 ho21 k21 hw21 => ?_
    have hB21 : Bk w21 p (dkC d0 d1 d2 n0 n1 n2 q x.raws x.armed dl) 112 := (hB.no k18).keep k21 fun hb => absurd ((own_ty ho hb).1.uniq hB.ty) (by decide)
    obtain ⟨cs0, ho0, _⟩ := h.own
    have hqlt : ∀ b, OB q.a b → b < w.heap.size ∧ lo ≤ b := fun b hb => ⟨(own_ty ho0 hb).1.lt, (own_ty ho0 hb).2⟩
    have b6'' : Bk w21 p6 _ _ := (b6'.no k18).keep k21 fun hb => by have := hqlt _ hb; omega
    refine ⟨by rw [addP]; exact hB21.wr (by simp [dkC]), ?_⟩
    have K21 : Keep (dk p q) w w21 := hk18.trans k21 (fun _ _ h => .inl h) (fun _ _ h => .inr h)
    -- what the list's new address is
    have hnew : ∀ b, OB a22 b → OB q.a b ∨ w.heap.size ≤ b := by
      rintro b ⟨z, hz, rfl⟩
      rcases hw21 with rfl | rfl
      · exact .inl ⟨z, hz, rfl⟩
      · cases hz; exact .inr hk18.size
    have hS5 : ∀ b, dk p q b → ¬ TyB w b 5 := fun b hb => h.ty hb
    have r21 : Rs w21 b l := hb.keep K21 hS5
    have hnoq : ∀ b, OB q.a b → ¬ TyB w18 b 5 := fun b hb ht => absurd (ht.uniq (own_ty (own_keep ho k18 fun _ _ h => h) hb).1) (by decide)
    have g0 := (h0.no k18).keep k21 hnoq
    have g1 := (h1.no k18).keep k21 hnoq
    have g2 := (h2.no k18).keep k21 hnoq
    have g3 := (h3.no k18).keep k21 hnoq
    have g4 := (h4.no k18).keep k21 hnoq
    have g5 := (h5.no k18).keep k21 hnoq
    have P21 := (hP.keep k18 fun _ h => h.elim).keep k21 hnoq
    intro w23 w24
    have hB24 : Bk w24 p (dkC d0 d1 d2 n0 n1 n2 ⟨a22, q.n + 1, c22⟩ x.raws x.armed dl) 112 := by
      have := hB21.set 6 (.slice a22 (q.n + 1) c22)
      rw [← Nat.zero_add 6, ← addP] at this
      exact this.drew
    have k24 : Keep (is p) w21 w24 := (Keep.set w21 _ (by rw [addP]; rfl)).no (Keep.drew _ _)
    have hp5 : ∀ b, is p b → ¬ TyB w21 b 5 := by rintro b rfl ht; exact absurd (ht.uniq hB21.ty) (by decide)
    have b6a : Bk w24 p6 _ _ := b6''.keep k24 (by unfold is; omega)
    clear_value w24 w23
    refine ⟨_, _, _, _, _, _, _, _, _, by rw [addP]; exact hB24.cell 3, by rw [addP]; exact hB24.cell 4, by rw [addP]; exact hB24.cell 5, _, _, _, _, _, _, b6a.cell 0, b6a.cell 1, b6a.cell 2, b6a.cell 3, ?_⟩
    have K24 : Keep (dk p q) w w24 := K21.trans k24 (fun _ _ h => h) (fun _ _ h => .inl h)
    have hsm := h.ok.now.get f
    refine (done_spec (X0 := x.now) (g3.keep k24 hp5) (g4.keep k24 hp5) (g5.keep k24 hp5) (r21.keep k24 hp5) hf ha hsm hl (h.av.up K24)).mono ?_
    rintro e w33 ⟨y0, y1, y2, rfl, s0, s1, s2, k33⟩
    refine ⟨_, _, _, _, _, _, _, _, _, rfl, ?_⟩
    have hB33 := hB24.no k33
    refine ⟨by rw [addP]; exact hB33.wrN (by simp [dkC]), ?_⟩
    intro w37
    have hB37 : Bk w37 p (dkC d0 d1 d2 y0 y1 y2 ⟨a22, q.n + 1, c22⟩ x.raws x.armed dl) 112 := by
      have := hB33.setN (o := 3) (vs := [y0.v, y1.v, y2.v]) (i := 0)
      rw [← Nat.zero_add 3, ← addP] at this
      exact this
    have k37 : Keep (is p) w33 w37 := setN_keep (S := is p) (by rw [addP]; rfl) _ _ _
    clear_value w37
    refine ⟨_, by rw [addP]; exact hB37.cell 7, by rw [addP]; exact hB37.wr (by simp [dkC]), ?_⟩
    intro w39
    have hB39 : Bk w39 p (dkC d0 d1 d2 y0 y1 y2 ⟨a22, q.n + 1, c22⟩ (IntKind.i64.wrap (x.raws + 1)) x.armed dl) 112 := by
      have := hB37.set 7 (.int .i64 (IntKind.i64.wrap (x.raws + 1)))
      rw [← Nat.zero_add 7, ← addP] at this
      exact this
    have k39 : Keep (is p) w37 w39 := Keep.set w37 _ (by rw [addP]; rfl)
    clear_value w39
    have kA : Keep (is p) w33 w39 := k37.then k39
    have kB : Keep (is p) w24 w39 := (k33.mono fun _ _ h => h.elim).then kA
    have kC : Keep (is p) w21 w39 := k24.then kB
    have hA5 : ∀ b, is p b → ¬ TyB w33 b 5 := by rintro b rfl ht; exact absurd (ht.uniq hB33.ty) (by decide)
    refine ⟨rfl, ⟨a22, q.n + 1, c22⟩, ⟨⟨d0, d1, d2, y0, y1, y2, dl, hB39, hal, g0.keep kC hp5, g1.keep kC hp5, g2.keep kC hp5, ?_, ?_, ?_⟩, ⟨_, own_keep ho21 kC ?_, ?_, ?_⟩, h.lo_, h.av.up (K21.trans kC (T := fun _ => True) (fun _ _ _ => trivial) (fun _ _ _ => trivial)), ?_⟩, K21.trans kC (fun _ _ h => h) (fun _ _ h => .inl h), ?_⟩
    · show Rs w39 y0 (x.push _).now.a
      rw [A.push_now]; exact s0.keep kA hA5
    · show Rs w39 y1 (x.push _).now.b
      rw [A.push_now]; exact s1.keep kA hA5
    · show Rs w39 y2 (x.push _).now.c
      rw [A.push_now]; exact s2.keep kA hA5
    · rintro b hb rfl
      cases a22 with
      | none => cases hb
      | some z =>
        simp only [Value.ownBlock, Option.some.injEq] at hb
        exact absurd ((own_ty (q := ⟨some z, q.n + 1, c22⟩) ho21 ⟨z, rfl, hb⟩).1.uniq hB21.ty) (by decide)
    · show q.n + 1 = (x.rest ++ [_]).length
      simp [hqn']
    · show PendC w39 x.first (x.rest ++ [_]) _
      refine (PendC.push (b := b) r21 hf hl P21 ?_).keep kC hp5
      exact ha
    · exact A.push_ok h.ok hd' (h.ok.now.set f hw)
    · rintro b (rfl | hb)
      · exact .inl (.inl rfl)
      · exact (hnew b hb).imp .inr id
end
end Go.Proofs.Ytmfidfaiopogbaa
