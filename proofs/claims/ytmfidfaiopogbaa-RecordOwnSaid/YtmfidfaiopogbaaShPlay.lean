/- One call of a script: play. -/
import Derived.Test.YtmfidfaiopogbaaShTells
set_option linter.unusedVariables false
set_option linter.unusedSectionVars false
set_option linter.unusedSimpArgs false
set_option maxRecDepth 4000
namespace Go.Proofs.Ytmfidfaiopogbaa
open Go Go.Sh
variable [Av]

/-- What a call leaves: a disk and its reference. -/
def Played (w w' : World) (lo p : Nat) (q : Sv) (n : Nat) (e : Ending) : Prop :=
  ∃ p' q' s' y, e = .returned (.tuple #[dp p', rV s' y, .bool true]) ∧ DkR w' lo p' q' y ∧ RefR w' s' y ∧ Keep (dk p q) w w' ∧ y.rest.length ≤ n + 1

omit [Av] in
theorem A.raw1_len (x : A) (f a : Nat) (l : Bs) (c : Bool) : (x.raw1 f a l c).rest.length ≤ x.rest.length + 1 := by
  unfold A.raw1; cases x.dead <;> simp [A.push]
omit [Av] in
theorem A.Write_len (x : A) (f off : Int) (l : Bs) : (x.Write f off l).1.rest.length ≤ x.rest.length + 1 := by
  unfold A.Write; split
  · split
    · simp
    · split
      · simp
      · exact x.raw1_len _ _ _ _
  · simp
omit [Av] in
theorem A.Cut_len (x : A) (f n : Int) : (x.Cut f n).1.rest.length ≤ x.rest.length + 1 := by
  unfold A.Cut; split
  · exact x.raw1_len _ _ _ _
  · simp
omit [Av] in
theorem A.Sync_len (x : A) : x.Sync.1.rest.length ≤ x.rest.length + 1 := by
  unfold A.Sync; cases x.dead <;> simp
omit [Av] in
theorem A.Arm_len (x : A) (n : Int) : (x.Arm n).1.rest.length ≤ x.rest.length + 1 := by
  unfold A.Arm; split
  · simp
  · cases x.dead <;> simp

section
variable {w w' : World} {lo p : Nat} {q s : Sv} {x : A}
theorem play_spec (h : DkR w lo p q x) (hr : RefR w s x) {k f a : Int} {b : Sv} {l : Bs} (hb : Ru w b l) (hlow : 0 < b.n → ∀ y, OB b.a y → y < lo) (hn : x.rest.length ≤ 999999) (ha : a ≤ 9223372036854775807) (hbn : b.n ≤ 140737488355328) (hlo : lo ≤ w.heap.size) :
    Calls Try.prog 28 #[dp p, rV s x, .agg #[.int .i64 k, .int .i64 f, .int .i64 a, b.v]] w fun e w' => Played w w' lo p q x.rest.length e := by
  refine c28 ?_
  unfold sh28
  intro p10 w11 p12 w13 p14 w15
  have b10 : Bk w15 p10 #[s.v, .int .i64 x.raws, .bool x.armed, .int .i64 x.left] 26 := ((Bk.new w _ _).alloc _).alloc _
  have b12 : Bk w15 p12 #[.int .i64 k, .int .i64 f, .int .i64 a, b.v] 38 := (Bk.new w11 _ _).alloc _
  have b14 : Bk w15 p14 #[.slice none 0 0, .int .i64 0, .bool false, .int .i64 0] 26 := Bk.new w13 _ _
  have k15 : Keep no w w15 := ((Keep.alloc no w _).then (Keep.alloc no w11 _)).then (Keep.alloc no w13 _)
  have h10 : w.heap.size ≤ p10 := Nat.le_refl _
  have h14 : w.heap.size ≤ p14 := by show w.heap.size ≤ w13.heap.size; simp [w13, w11]; omega
  have hne : p10 ≠ p14 := by show w.heap.size ≠ w13.heap.size; simp [w13, w11]; omega
  clear_value p10 p12 p14 w11 w13 w15
  have hp : p < w.heap.size := h.pmono
  intro K170
  -- the end of all calls but Crash
  have fin : ∀ (v : World) (q' s' : Sv) (y : A) (n : Int), DkR v lo p q' y → RefR v s' y → Keep (dk p q) w v → y.rest.length ≤ x.rest.length + 1 →
      Bk v p10 #[s'.v, .int .i64 y.raws, .bool y.armed, .int .i64 y.left] 26 → Bk v p14 #[.slice none 0 0, .int .i64 0, .bool false, .int .i64 0] 26 → K170 n n v := by
    intro v q' s' y n hd hr' hk hl c10 c14
    replace c10 : Bk v.drew p10 _ _ := c10.drew
    replace c14 : Bk v.drew p14 _ _ := c14.drew
    replace hd := hd.no_ (Keep.drew no v)
    replace hr' := hr'.no (Keep.drew no v)
    replace hk : Keep (dk p q) w v.drew := hk.no (Keep.drew no v)
    refine ⟨_, _, _, _, _, _, c10.cell 0, c10.cell 1, c10.cell 2, c10.cell 3, ?_⟩
    rw [show (n == n) = true by simp]
    refine ⟨_, _, _, _, _, _, c10.cell 0, c10.cell 1, c10.cell 2, c10.cell 3, ?_⟩
    refine (Tells_spec hd hr').mono ?_
    rintro e w181 ⟨rfl, k181⟩
    have d10 := c10.no k181
    have d14 := c14.no k181
    obtain ⟨e0, e1, e2, e3, ew, f0, f1, f2, f3, kf⟩ := fin4 d10 d14 rfl
    refine ⟨_, rfl, ⟨_, _, _, _, _, _, e0, e1, e2, e3, rfl⟩, ew, _, _, _, _, _, _, f0, f1, f2, f3, p, q', s', y, rfl, ?_, ?_, ?_, hl⟩
    · refine (hd.no_ k181).keep kf ?_
      rintro z rfl
      exact ⟨fun hz => (hd.no_ k181).nt hz (by decide) (by decide) d14.ty, fun ht => absurd (ht.uniq d14.ty) (by decide)⟩
    · exact (hr'.no k181).keep kf (by rintro z rfl ht; exact absurd (ht.uniq d14.ty) (by decide))
    · exact (hk.no k181).new kf (by rintro z rfl; exact h14)
  clear_value K170
  have h15 := h.no_ k15
  have r15 := hr.no k15
  -- what all calls but Crash do: on the disk, then on the reference
  have dn : ∀ {z : World}, Keep no w z → Keep (dk p q) w z := fun k => k.mono fun _ _ h => h.elim
  refine ⟨_, b12.cell 0, ?_⟩
  refine cond_i (fun hk1 => ?_) (fun hk1 => ?_)
  · -- Write
    intro w17
    have c10 : Bk w17 p10 _ _ := b10.drew
    have c12 : Bk w17 p12 _ _ := b12.drew
    have c14 : Bk w17 p14 _ _ := b14.drew
    have k17 : Keep no w w17 := k15.no (Keep.drew _ _)
    clear_value w17
    refine ⟨_, c12.cell 1, _, c12.cell 2, _, _, _, c12.cell 3, ?_⟩
    intro p21 w22
    have o22 : w22.ownsRow w17.heap.size 5 1 (.slice (some ⟨p21, 0, none⟩) 0 0) 0 [] := lit_own w17 5 1 (Nat.le_refl _)
    have k22 : Keep no w17 w22 := Keep.alloc _ _ _
    clear_value p21 w22
    have d12 := c12.no k22
    have k22' := k17.then k22
    refine ⟨⟨_, d12.cell 1, rfl⟩, ⟨_, d12.cell 2, rfl⟩, ⟨_, _, _, d12.cell 3, rfl⟩, ?_⟩
    refine rw_append E36 o22 (hb.no k22') (bvs_one l) (by omega) (by simp only [maxLen]; omega) k22.size fun a28 c28 w27 o27 k27 _ => ?_
    rw [Nat.zero_add] at o27 ⊢
    have K27 : Keep no w17 w27 := k22.new k27 fun y hy => (own_ty (q := ⟨some ⟨p21, 0, none⟩, 0, 0⟩) o22 hy).2
    have d12' := c12.no K27
    refine ⟨⟨_, d12'.cell 1, rfl⟩, ⟨_, d12'.cell 2, rfl⟩, ?_⟩
    have KK := k17.then K27
    have hrow : Rs w27 ⟨a28, b.n, c28⟩ l := Rd.own o27 fun _ => h.av.up k17
    refine (Write_spec (h.no_ KK) f a hrow.u (by omega)).mono ?_
    rintro e w32 ⟨rfl, q', hd', kd, hq'⟩
    refine ⟨_, rfl, ?_⟩
    have h27 := h.no_ KK
    have e10 := h27.bk kd (c10.no K27) (by decide) (by decide)
    have e12 := h27.bk kd d12' (by decide) (by decide)
    have e14 := h27.bk kd (c14.no K27) (by decide) (by decide)
    have er := h27.rf kd (hr.no KK)
    have eb : Ru w32 b l := Rd.keep' (hb.no KK) kd fun h0 y hy ho => by have := (h27.kt hy).1; have := hlow h0 y ho; omega
    refine ⟨_, _, _, _, _, _, e10.cell 0, e10.cell 1, e10.cell 2, e10.cell 3, _, e12.cell 1, _, e12.cell 2, _, _, _, e12.cell 3, ?_⟩
    refine (WriteR_spec er f a eb (by omega)).mono ?_
    rintro e w42 ⟨s', rfl, hs', k42⟩
    refine ⟨_, _, _, _, _, _, _, rfl, (e10.no k42).wrN (by simp), ?_⟩
    intro w48
    have g10 : Bk w48 p10 #[s'.v, _, _, _] 26 := (e10.no k42).setAll rfl
    have k48 : Keep (is p10) w42 w48 := setN_keep (S := is p10) (a := ⟨p10, 0, none⟩) rfl _ _ _
    have t10 := (e10.no k42).ty
    have g14 : Bk w48 p14 _ _ := (e14.no k42).keep k48 fun h => hne h.symm
    clear_value w48
    refine fin w48 q' s' _ _ ((hd'.no_ k42).keep k48 ?_) (hs'.keep k48 ?_) ?_ (x.Write_len _ _ _) g10 g14
    · rintro z rfl
      exact ⟨fun hz => (hd'.no_ k42).nt hz (by decide) (by decide) t10, fun ht => absurd (ht.uniq t10) (by decide)⟩
    · rintro z rfl ht
      exact absurd (ht.uniq t10) (by decide)
    · exact (((dn KK).then kd).no k42).new k48 (by rintro z rfl; exact h10)
  refine cond_i (fun hk2 => ?_) (fun hk2 => ?_)
  · -- Cut
    refine ⟨_, b12.cell 1, _, b12.cell 2, ?_⟩
    refine (Cut_spec h15 f a (by omega)).mono ?_
    rintro e w32 ⟨rfl, q', hd', kd, hq'⟩
    refine ⟨_, rfl, ?_⟩
    have e10 := h15.bk kd b10 (by decide) (by decide)
    have e12 := h15.bk kd b12 (by decide) (by decide)
    have e14 := h15.bk kd b14 (by decide) (by decide)
    have er := h15.rf kd r15
    refine ⟨_, _, _, _, _, _, e10.cell 0, e10.cell 1, e10.cell 2, e10.cell 3, _, e12.cell 1, _, e12.cell 2, ?_⟩
    refine (CutR_spec er f a (by omega)).mono ?_
    rintro e w42 ⟨s', rfl, hs', k42⟩
    refine ⟨_, _, _, _, _, _, _, rfl, (e10.no k42).wrN (by simp), ?_⟩
    intro w48
    have g10 : Bk w48 p10 #[s'.v, _, _, _] 26 := (e10.no k42).setAll rfl
    have k48 : Keep (is p10) w42 w48 := setN_keep (S := is p10) (a := ⟨p10, 0, none⟩) rfl _ _ _
    have t10 := (e10.no k42).ty
    have g14 : Bk w48 p14 _ _ := (e14.no k42).keep k48 fun h => hne h.symm
    clear_value w48
    refine fin w48 q' s' _ _ ((hd'.no_ k42).keep k48 ?_) (hs'.keep k48 ?_) ?_ (x.Cut_len _ _) g10 g14
    · rintro z rfl
      exact ⟨fun hz => (hd'.no_ k42).nt hz (by decide) (by decide) t10, fun ht => absurd (ht.uniq t10) (by decide)⟩
    · rintro z rfl ht
      exact absurd (ht.uniq t10) (by decide)
    · exact (((dn k15).then kd).no k42).new k48 (by rintro z rfl; exact h10)
  refine cond_i (fun hk3 => ?_) (fun hk3 => ?_)
  · -- Sync
    refine (Sync_spec h15).mono ?_
    rintro e w32 ⟨rfl, q', hd', kd, hq'⟩
    refine ⟨_, rfl, ?_⟩
    have e10 := h15.bk kd b10 (by decide) (by decide)
    have e14 := h15.bk kd b14 (by decide) (by decide)
    have er := h15.rf kd r15
    refine ⟨_, _, _, _, _, _, e10.cell 0, e10.cell 1, e10.cell 2, e10.cell 3, ?_⟩
    refine (SyncR_spec er).mono ?_
    rintro e w42 ⟨s', rfl, hs', k42⟩
    refine ⟨_, _, _, _, _, _, _, rfl, (e10.no k42).wrN (by simp), ?_⟩
    intro w48
    have g10 : Bk w48 p10 #[s'.v, _, _, _] 26 := (e10.no k42).setAll rfl
    have k48 : Keep (is p10) w42 w48 := setN_keep (S := is p10) (a := ⟨p10, 0, none⟩) rfl _ _ _
    have t10 := (e10.no k42).ty
    have g14 : Bk w48 p14 _ _ := (e14.no k42).keep k48 fun h => hne h.symm
    clear_value w48
    refine fin w48 q' s' _ _ ((hd'.no_ k42).keep k48 ?_) (hs'.keep k48 ?_) ?_ x.Sync_len g10 g14
    · rintro z rfl
      exact ⟨fun hz => (hd'.no_ k42).nt hz (by decide) (by decide) t10, fun ht => absurd (ht.uniq t10) (by decide)⟩
    · rintro z rfl ht
      exact absurd (ht.uniq t10) (by decide)
    · exact (((dn k15).then kd).no k42).new k48 (by rintro z rfl; exact h10)
  refine cond_i (fun hk4 => ?_) (fun hk4 => ?_)
  · -- Arm
    refine ⟨_, b12.cell 2, ?_⟩
    refine (Arm_spec h15 a ha).mono ?_
    rintro e w32 ⟨rfl, q', hd', kd, hq'⟩
    refine ⟨_, rfl, ?_⟩
    have e10 := h15.bk kd b10 (by decide) (by decide)
    have e12 := h15.bk kd b12 (by decide) (by decide)
    have e14 := h15.bk kd b14 (by decide) (by decide)
    have er := h15.rf kd r15
    refine ⟨_, _, _, _, _, _, e10.cell 0, e10.cell 1, e10.cell 2, e10.cell 3, _, e12.cell 2, ?_⟩
    refine (ArmR_spec er a ha).mono ?_
    rintro e w42 ⟨s', rfl, hs', k42⟩
    refine ⟨_, _, _, _, _, _, _, rfl, (e10.no k42).wrN (by simp), ?_⟩
    intro w48
    have g10 : Bk w48 p10 #[s'.v, _, _, _] 26 := (e10.no k42).setAll rfl
    have k48 : Keep (is p10) w42 w48 := setN_keep (S := is p10) (a := ⟨p10, 0, none⟩) rfl _ _ _
    have t10 := (e10.no k42).ty
    have g14 : Bk w48 p14 _ _ := (e14.no k42).keep k48 fun h => hne h.symm
    clear_value w48
    refine fin w48 q' s' _ _ ((hd'.no_ k42).keep k48 ?_) (hs'.keep k48 ?_) ?_ (x.Arm_len _) g10 g14
    · rintro z rfl
      exact ⟨fun hz => (hd'.no_ k42).nt hz (by decide) (by decide) t10, fun ht => absurd (ht.uniq t10) (by decide)⟩
    · rintro z rfl ht
      exact absurd (ht.uniq t10) (by decide)
    · exact (((dn k15).then kd).no k42).new k48 (by rintro z rfl; exact h10)
  refine cond_i (fun hk5 => ?_) (fun hk5 => ?_)
  · -- Crash
    intro w100
    have c10 : Bk w100 p10 _ _ := b10.drew
    have c12 : Bk w100 p12 _ _ := b12.drew
    have c14 : Bk w100 p14 _ _ := b14.drew
    have k100 : Keep no w w100 := k15.no (Keep.drew _ _)
    clear_value w100
    refine ⟨_, _, _, _, _, _, c10.cell 0, c10.cell 1, c10.cell 2, c10.cell 3, ?_⟩
    intro p105 w106
    have b105 : Bk w106 p105 #[.slice none 0 0, .int .i64 0, .bool false, .int .i64 0] 26 := Bk.new w100 _ _
    have k106 : Keep no w100 w106 := Keep.alloc _ _ _
    have h105 : w100.heap.size ≤ p105 := Nat.le_refl _
    clear_value p105 w106
    have d10 := c10.no k106
    refine ⟨⟨_, _, _, _, _, _, d10.cell 0, d10.cell 1, d10.cell 2, d10.cell 3, rfl⟩, b105.wrN (by simp), ?_⟩
    intro w111
    have c105 : Bk w111 p105 #[s.v, .int .i64 x.raws, .bool x.armed, .int .i64 x.left] 26 := b105.setAll rfl
    have k111 : Keep (is p105) w106 w111 := setN_keep (S := is p105) (a := ⟨p105, 0, none⟩) rfl _ _ _
    clear_value w111
    intro w112
    have d105 : Bk w112 p105 _ _ := c105.drew
    have k112 : Keep no w100 w112 := (k106.new k111 (by rintro y rfl; exact h105)).no (Keep.drew _ _)
    clear_value w112
    have e10 := c10.no k112
    have e12 := c12.no k112
    have e14 := c14.no k112
    have K112 := k100.then k112
    have hp105 : w.heap.size ≤ p105 := Nat.le_trans k100.size h105
    refine ⟨_, e12.cell 2, _, _, _, _, _, _, e10.cell 0, e10.cell 1, e10.cell 2, e10.cell 3, _, e12.cell 2, ?_⟩
    refine (Crash_spec (h.no_ K112) a).mono ?_
    rintro e w120 ⟨p', rfl, hd', k120⟩
    have f10 := e10.no k120
    have f12 := e12.no k120
    refine ⟨_, rfl, ⟨_, _, _, _, _, _, f10.cell 0, f10.cell 1, f10.cell 2, f10.cell 3, rfl⟩, ⟨_, f12.cell 2, rfl⟩, ?_⟩
    have K120 := K112.then k120
    refine (CrashR_spec (hr.no K120) a).mono ?_
    rintro e w128 ⟨s', rfl, hs', k128⟩
    have g10 := f10.no k128
    refine ⟨_, _, _, _, _, _, rfl, g10.wrN (by simp), ?_⟩
    have g14 := (e14.no k120).no k128
    have g105 := (d105.no k120).no k128
    have hne2 : p105 ≠ p10 := by have := c10.lt; omega
    intro w133
    have i10 : Bk w133 p10 #[s'.v, _, _, _] 26 := g10.setAll rfl
    have k133 : Keep (is p10) w128 w133 := setN_keep (S := is p10) (a := ⟨p10, 0, none⟩) rfl _ _ _
    have i14 : Bk w133 p14 _ _ := g14.keep k133 fun h => hne h.symm
    have i105 : Bk w133 p105 _ _ := g105.keep k133 hne2
    clear_value w133
    intro w134
    replace k133 : Keep (is p10) w128 w134 := k133.no (Keep.drew _ _)
    have j10 : Bk w134 p10 _ _ := i10.drew
    have j14 : Bk w134 p14 _ _ := i14.drew
    have j105 : Bk w134 p105 _ _ := i105.drew
    clear_value w134
    have K134 : Keep no w w134 := (K120.then k128).new k133 (by rintro z rfl; exact h10)
    have hd134 : DkR w134 w112.heap.size p' ⟨none, 0, 0⟩ (x.Crash a) := (hd'.no_ k128).keep k133 (by
      rintro z rfl
      exact ⟨fun hz => (hd'.no_ k128).nt hz (by decide) (by decide) g10.ty, fun ht => absurd (ht.uniq g10.ty) (by decide)⟩)
    have hs134 : RefR w134 s' (x.Crash a) := hs'.keep k133 (by rintro z rfl ht; exact absurd (ht.uniq g10.ty) (by decide))
    refine ⟨_, _, _, _, _, _, j10.cell 0, j10.cell 1, j10.cell 2, j10.cell 3, ?_⟩
    refine ⟨_, _, _, _, _, _, j10.cell 0, j10.cell 1, j10.cell 2, j10.cell 3, ?_⟩
    refine (Tells_spec hd134 hs134).mono ?_
    rintro e w144 ⟨rfl, k144⟩
    have l10 := j10.no k144
    have l105 := j105.no k144
    have K144 := K134.then k144
    refine ⟨_, rfl, ⟨_, _, _, _, _, _, l10.cell 0, l10.cell 1, l10.cell 2, l10.cell 3, rfl⟩, ?_⟩
    refine ⟨_, _, _, _, _, _, l105.cell 0, l105.cell 1, l105.cell 2, l105.cell 3, ?_⟩
    refine (Tells_spec (h.no_ K144) (hr.no K144)).mono ?_
    rintro e w155 ⟨rfl, k155⟩
    have m10 := l10.no k155
    have m14 := (j14.no k144).no k155
    obtain ⟨e0, e1, e2, e3, ew, f0, f1, f2, f3, kf⟩ := fin4 m10 m14 rfl
    have hd155 := (hd134.no_ k144).no_ k155
    refine ⟨_, rfl, ⟨_, _, _, _, _, _, e0, e1, e2, e3, rfl⟩, ew, _, _, _, _, _, _, f0, f1, f2, f3, p', ⟨none, 0, 0⟩, s', x.Crash a, rfl, ?_, ?_, ?_, ?_⟩
    · refine (hd155.keep kf ?_).low (Nat.le_trans hlo K112.size)
      rintro z rfl
      exact ⟨fun hz => hd155.nt hz (by decide) (by decide) m14.ty, fun ht => absurd (ht.uniq m14.ty) (by decide)⟩
    · exact ((hs134.no k144).no k155).keep kf (by rintro z rfl ht; exact absurd (ht.uniq m14.ty) (by decide))
    · exact dn ((K144.then k155).new kf (by rintro z rfl; exact h14))
    · simp [A.Crash]
  · exact fin w15 q s x 0 h15 r15 (dn k15) (by omega) b10 b14
end
end Go.Proofs.Ytmfidfaiopogbaa
