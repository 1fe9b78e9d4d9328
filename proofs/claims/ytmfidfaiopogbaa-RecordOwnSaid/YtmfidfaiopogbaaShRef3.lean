/- Contracts of the reference's Write, Cut, Sync, Arm and Crash. -/
import Derived.Test.YtmfidfaiopogbaaShRef2
set_option linter.unusedVariables false
set_option linter.unusedSectionVars false
set_option linter.unusedSimpArgs false
set_option maxRecDepth 4000
namespace Go.Proofs.Ytmfidfaiopogbaa
open Go Go.Sh
variable [Av]

section
variable {w w' : World} {s : Sv} {x : A}
/-- What a call of the reference answers. -/
def RefD (w w' : World) (e : Ending) (y : A × Int) : Prop := ∃ s', e = .returned (.tuple #[rV s' y.1, .int .i64 y.2]) ∧ RefR w' s' y.1 ∧ Keep no w w'

theorem WriteR_spec (h : RefR w s x) (f off : Int) {b : Sv} {l : Bs} (hb : Ru w b l) (hn : x.rest.length ≤ 1000000) :
    Calls Try.prog 32 #[rV s x, .int .i64 f, .int .i64 off, b.v] w fun e w' => RefD w w' e (x.Write f off l) := by
  have hbn : b.n = l.length := hb.len
  refine c32 ?_
  unfold sh32
  intro p8 w9 p10 w11
  have b8 : Bk w11 p8 #[s.v, .int .i64 x.raws, .bool x.armed, .int .i64 x.left] 26 := (Bk.new w _ _).alloc _
  have b10 : Bk w11 p10 #[.slice none 0 0, .int .i64 0, .bool false, .int .i64 0] 26 := Bk.new w9 _ _
  have k11 : Keep no w w11 := (Keep.alloc no w _).then (Keep.alloc no w9 _)
  have h8 : w.heap.size ≤ p8 := Nat.le_refl _
  have h10 : w.heap.size ≤ p10 := by show w.heap.size ≤ w9.heap.size; simp [w9]
  clear_value p8 p10 w9 w11
  intro K29
  have out : ∀ (w' : World) (s' : Sv) (y : A) (n : Int), Bk w' p8 #[s'.v, .int .i64 y.raws, .bool y.armed, .int .i64 y.left] 26 → Bk w' p10 #[.slice none 0 0, .int .i64 0, .bool false, .int .i64 0] 26 → Keep no w w' → RefR w' s' y → True := fun _ _ _ _ _ _ _ _ => trivial
  have fin : ∀ (c : Bool) (w' : World), Bk w' p8 #[s.v, .int .i64 x.raws, .bool x.armed, .int .i64 x.left] 26 → Bk w' p10 #[.slice none 0 0, .int .i64 0, .bool false, .int .i64 0] 26 → Keep no w w' → (c = true ↔ ¬ IsF x f off) → K29 c w' := by
    intro c w' c8 c10 k hc
    have hx := h.no k
    refine cond_i (fun h1 => ?_) (fun h1 => ?_)
    · obtain ⟨e0, e1, e2, e3, ew, f0, f1, f2, f3, kf⟩ := fin4 c8 c10 rfl
      refine ⟨_, _, _, _, _, _, e0, e1, e2, e3, ew, _, _, _, _, _, _, f0, f1, f2, f3, ?_⟩
      have kk := k.new kf (by rintro y rfl; exact h10)
      unfold A.Write
      rw [if_neg (hc.1 h1)]
      exact ⟨s, rfl, h.no kk, kk⟩
    · have hF : IsF x f off := Classical.not_not.1 fun hF => by rw [hc.2 hF] at h1; cases h1
      obtain ⟨g1, g2, g3, g4⟩ := id hF
      have hsm := h.2.now.get f.toNat
      refine cond_d (fun hl => ?_) (fun hl => ?_)
      · obtain ⟨e0, e1, e2, e3, ew, f0, f1, f2, f3, kf⟩ := fin4 c8 c10 rfl
        refine ⟨_, _, _, _, _, _, e0, e1, e2, e3, ew, _, _, _, _, _, _, f0, f1, f2, f3, ?_⟩
        have kk := k.new kf (by rintro y rfl; exact h10)
        unfold A.Write
        rw [if_pos hF, if_pos (by omega)]
        exact ⟨s, rfl, h.no kk, kk⟩
      · rw [IntWalk.i64_in _ ⟨by omega, by omega⟩]
        refine cond_d (fun hl2 => ?_) (fun hl2 => ?_)
        · obtain ⟨e0, e1, e2, e3, ew, f0, f1, f2, f3, kf⟩ := fin4 c8 c10 rfl
          refine ⟨_, _, _, _, _, _, e0, e1, e2, e3, ew, _, _, _, _, _, _, f0, f1, f2, f3, ?_⟩
          have kk := k.new kf (by rintro y rfl; exact h10)
          unfold A.Write
          rw [if_pos hF, if_neg (by omega), if_pos (by omega)]
          exact ⟨s, rfl, h.no kk, kk⟩
        · have eW : x.Write f off l = (x.raw1 f.toNat off.toNat l false, bif x.dead then 180 else 0) := by
            unfold A.Write
            rw [if_pos hF, if_neg (by omega), if_neg (by omega)]
          rw [eW]
          refine ⟨_, _, _, _, _, _, c8.cell 0, c8.cell 1, c8.cell 2, c8.cell 3, ?_⟩
          refine (deadR_spec hx).mono ?_
          rintro e w50 ⟨rfl, k50⟩
          refine ⟨_, rfl, ?_⟩
          have d8 := c8.no k50
          have d10 := c10.no k50
          have kk := k.then k50
          unfold A.raw1
          refine cond_i (fun hd => ?_) (fun hd => ?_)
          · obtain ⟨e0, e1, e2, e3, ew, f0, f1, f2, f3, kf⟩ := fin4 d8 d10 rfl
            refine ⟨_, _, _, _, _, _, e0, e1, e2, e3, ew, _, _, _, _, _, _, f0, f1, f2, f3, ?_⟩
            have kk := kk.new kf (by rintro y rfl; exact h10)
            rw [hd]
            exact ⟨s, rfl, h.no kk, kk⟩
          · rw [hd]
            refine ⟨_, _, _, _, _, _, d8.cell 0, d8.cell 1, d8.cell 2, d8.cell 3, ?_⟩
            refine (nowR_spec (h.no kk)).mono ?_
            rintro e w62 ⟨rfl, k62⟩
            refine ⟨_, _, _, rfl, ?_⟩
            refine rw_ix g1 g2 ?_
            intro w69
            have a8 : Bk w69 p8 _ _ := (d8.no k62).drew
            have a10 : Bk w69 p10 _ _ := (d10.no k62).drew
            have k69 : Keep no w w69 := (kk.then k62).no (Keep.drew _ _)
            clear_value w69
            refine ⟨g3, by rw [str_size]; omega, ?_⟩
            refine rw_str Try.underlying36 Try.underlying5 Try.underlying9 (hb.no k69) ?_
            rw [str_take, str_app]
            have hlen : (List.take off.toNat (x.now.get f.toNat) ++ l).length = off.toNat + l.length := by simp; omega
            refine ⟨by simp only [str_size, List.length_take]; omega, ?_⟩
            intro K75
            have fin2 : ∀ t : Bs, t = wrt (x.now.get f.toNat) off.toNat l false → K75 (str t) w69 := by
              rintro t rfl
              have hw := wrt_len (x.now.get f.toNat) off.toNat l false (by omega)
              refine ⟨_, _, _, _, _, _, a8.cell 0, a8.cell 1, a8.cell 2, a8.cell 3, ?_⟩
              refine (rawR_spec (h.no k69) hd f _ g1 g2 (by omega) hn).mono ?_
              rintro e w81 ⟨s', rfl, hs', k81⟩
              refine ⟨_, _, _, _, _, _, rfl, (a10.no k81).wrN (by simp), ?_⟩
              intro w86
              have z10 : Bk w86 p10 #[s'.v, _, _, _] 26 := (a10.no k81).setAll rfl
              have k86 : Keep (is p10) w81 w86 := setN_keep (S := is p10) (a := ⟨p10, 0, none⟩) rfl _ _ _
              have n10 := (a10.no k81).ty
              clear_value w86
              refine ⟨_, _, _, _, _, _, z10.cell 0, z10.cell 1, z10.cell 2, z10.cell 3, s', rfl, ?_, ?_⟩
              · exact hs'.keep k86 (by rintro y rfl ht; exact absurd (ht.uniq n10) (by decide))
              · exact (k69.then k81).new k86 (by rintro y rfl; exact h10)
            clear_value K75
            refine cond_d (fun hlt => ?_) (fun hge => ?_)
            · rw [str_size, hlen, str_size] at hlt
              have e1 : (((str (List.take off.toNat (x.now.get f.toNat) ++ l)).size : Nat) : Int).toNat = (List.take off.toNat (x.now.get f.toNat) ++ l).length := by rw [Int.toNat_natCast, str_size]
              rw [e1, str_drop, str_app]
              refine ⟨by omega, by simp only [str_size]; omega, by simp only [str_size, List.length_drop]; omega, ?_⟩
              refine fin2 _ ?_
              unfold wrt
              rw [hlen, show (!false && decide (off.toNat + l.length < (x.now.get f.toNat).length)) = true by rw [Bool.not_false, Bool.true_and]; exact decide_eq_true (by omega)]
              rfl
            · rw [str_size, hlen, str_size] at hge
              refine fin2 _ ?_
              unfold wrt
              rw [hlen, show (!false && decide (off.toNat + l.length < (x.now.get f.toNat).length)) = false by rw [Bool.not_false, Bool.true_and]; exact decide_eq_false (by omega)]
              rfl
  clear_value K29
  clear out
  refine (isR_spec w11 f).mono ?_
  rintro e w13 ⟨rfl, rfl⟩
  refine ⟨_, rfl, ?_⟩
  refine cond_i (fun h1 => ?_) (fun h1 => ?_)
  · refine fin true w13 b8 b10 k11 ?_
    simp at h1
    unfold IsF
    simp only [true_iff]; omega
  · simp at h1
    refine cond_d (fun h2 => ?_) (fun h2 => ?_)
    · refine fin true w13 b8 b10 k11 ?_
      unfold IsF
      simp only [true_iff]; omega
    · refine ⟨_, _, _, _, _, _, b8.cell 0, b8.cell 1, b8.cell 2, b8.cell 3, ?_⟩
      refine (nowR_spec (h.no k11)).mono ?_
      rintro e w20 ⟨rfl, k20⟩
      refine ⟨_, _, _, rfl, ?_⟩
      refine rw_ix h1.1 h1.2 ?_
      refine fin _ w20 (b8.no k20) (b10.no k20) (k11.then k20) ?_
      unfold IsF
      rw [str_size]
      simp only [decide_eq_true_eq]; omega

theorem CutR_spec (h : RefR w s x) (f n : Int) (hn : x.rest.length ≤ 1000000) :
    Calls Try.prog 67 #[rV s x, .int .i64 f, .int .i64 n] w fun e w' => RefD w w' e (x.Cut f n) := by
  refine c67 ?_
  unfold sh67
  intro p8 w9 p10 w11
  have b8 : Bk w11 p8 #[s.v, .int .i64 x.raws, .bool x.armed, .int .i64 x.left] 26 := (Bk.new w _ _).alloc _
  have b10 : Bk w11 p10 #[.slice none 0 0, .int .i64 0, .bool false, .int .i64 0] 26 := Bk.new w9 _ _
  have k11 : Keep no w w11 := (Keep.alloc no w _).then (Keep.alloc no w9 _)
  have h10 : w.heap.size ≤ p10 := by show w.heap.size ≤ w9.heap.size; simp [w9]
  clear_value p8 p10 w9 w11
  intro K29
  have fin : ∀ (c : Bool) (w' : World), Bk w' p8 #[s.v, .int .i64 x.raws, .bool x.armed, .int .i64 x.left] 26 → Bk w' p10 #[.slice none 0 0, .int .i64 0, .bool false, .int .i64 0] 26 → Keep no w w' → (c = true ↔ ¬ IsF x f n) → K29 c w' := by
    intro c w' c8 c10 k hc
    have hx := h.no k
    refine cond_i (fun h1 => ?_) (fun h1 => ?_)
    · obtain ⟨e0, e1, e2, e3, ew, f0, f1, f2, f3, kf⟩ := fin4 c8 c10 rfl
      refine ⟨_, _, _, _, _, _, e0, e1, e2, e3, ew, _, _, _, _, _, _, f0, f1, f2, f3, ?_⟩
      have kk := k.new kf (by rintro y rfl; exact h10)
      unfold A.Cut
      rw [if_neg (hc.1 h1)]
      exact ⟨s, rfl, h.no kk, kk⟩
    · have hF : IsF x f n := Classical.not_not.1 fun hF => by rw [hc.2 hF] at h1; cases h1
      obtain ⟨g1, g2, g3, g4⟩ := id hF
      have hsm := h.2.now.get f.toNat
      unfold A.Cut
      rw [if_pos hF]
      refine ⟨_, _, _, _, _, _, c8.cell 0, c8.cell 1, c8.cell 2, c8.cell 3, ?_⟩
      refine (deadR_spec hx).mono ?_
      rintro e w50 ⟨rfl, k50⟩
      refine ⟨_, rfl, ?_⟩
      have d8 := c8.no k50
      have d10 := c10.no k50
      have kk := k.then k50
      unfold A.raw1
      refine cond_i (fun hd => ?_) (fun hd => ?_)
      · obtain ⟨e0, e1, e2, e3, ew, f0, f1, f2, f3, kf⟩ := fin4 d8 d10 rfl
        refine ⟨_, _, _, _, _, _, e0, e1, e2, e3, ew, _, _, _, _, _, _, f0, f1, f2, f3, ?_⟩
        have kk := kk.new kf (by rintro y rfl; exact h10)
        rw [hd]
        exact ⟨s, rfl, h.no kk, kk⟩
      · rw [hd]
        intro w46
        have a8 : Bk w46 p8 _ _ := d8.drew
        have a10 : Bk w46 p10 _ _ := d10.drew
        have k46 : Keep no w w46 := kk.no (Keep.drew _ _)
        clear_value w46
        refine ⟨_, _, _, _, _, _, a8.cell 0, a8.cell 1, a8.cell 2, a8.cell 3, _, _, _, _, _, _, a8.cell 0, a8.cell 1, a8.cell 2, a8.cell 3, ?_⟩
        refine (nowR_spec (h.no k46)).mono ?_
        rintro e w62 ⟨rfl, k62⟩
        have k62' := k46.then k62
        have q8 := a8.no k62
        have q10 := a10.no k62
        refine ⟨_, _, _, rfl, ⟨_, _, _, _, _, _, q8.cell 0, q8.cell 1, q8.cell 2, q8.cell 3, rfl⟩, ?_⟩
        refine rw_ix g1 g2 ?_
        refine ⟨g3, by rw [str_size]; omega, ?_⟩
        rw [str_take]
        have ew : wrt (x.now.get f.toNat) n.toNat [] true = List.take n.toNat (x.now.get f.toNat) := by simp [wrt]
        refine (rawR_spec (h.no k62') hd f _ g1 g2 (by rw [List.length_take]; omega) hn).mono ?_
        rintro e w81 ⟨s', rfl, hs', k81⟩
        refine ⟨_, _, _, _, _, _, rfl, (q10.no k81).wrN (by simp), ?_⟩
        intro w86
        have z10 : Bk w86 p10 #[s'.v, _, _, _] 26 := (q10.no k81).setAll rfl
        have k86 : Keep (is p10) w81 w86 := setN_keep (S := is p10) (a := ⟨p10, 0, none⟩) rfl _ _ _
        have n10 := (q10.no k81).ty
        clear_value w86
        rw [ew]
        refine ⟨_, _, _, _, _, _, z10.cell 0, z10.cell 1, z10.cell 2, z10.cell 3, s', rfl, ?_, ?_⟩
        · exact hs'.keep k86 (by rintro y rfl ht; exact absurd (ht.uniq n10) (by decide))
        · exact (k62'.then k81).new k86 (by rintro y rfl; exact h10)
  clear_value K29
  refine (isR_spec w11 f).mono ?_
  rintro e w13 ⟨rfl, rfl⟩
  refine ⟨_, rfl, ?_⟩
  refine cond_i (fun h1 => ?_) (fun h1 => ?_)
  · refine fin true w13 b8 b10 k11 ?_
    simp at h1
    unfold IsF
    simp only [true_iff]; omega
  · simp at h1
    refine cond_d (fun h2 => ?_) (fun h2 => ?_)
    · refine fin true w13 b8 b10 k11 ?_
      unfold IsF
      simp only [true_iff]; omega
    · refine ⟨_, _, _, _, _, _, b8.cell 0, b8.cell 1, b8.cell 2, b8.cell 3, ?_⟩
      refine (nowR_spec (h.no k11)).mono ?_
      rintro e w20 ⟨rfl, k20⟩
      refine ⟨_, _, _, rfl, ?_⟩
      refine rw_ix h1.1 h1.2 ?_
      refine fin _ w20 (b8.no k20) (b10.no k20) (k11.then k20) ?_
      unfold IsF
      rw [str_size]
      simp only [decide_eq_true_eq]; omega

theorem SyncR_spec (h : RefR w s x) : Calls Try.prog 68 #[rV s x] w fun e w' => RefD w w' e x.Sync := by
  refine c68 ?_
  unfold sh68
  intro p8 w9 p10 w11
  have b8 : Bk w11 p8 #[s.v, .int .i64 x.raws, .bool x.armed, .int .i64 x.left] 26 := (Bk.new w _ _).alloc _
  have b10 : Bk w11 p10 #[.slice none 0 0, .int .i64 0, .bool false, .int .i64 0] 26 := Bk.new w9 _ _
  have k11 : Keep no w w11 := (Keep.alloc no w _).then (Keep.alloc no w9 _)
  have h8 : w.heap.size ≤ p8 := Nat.le_refl _
  have h10 : w.heap.size ≤ p10 := by show w.heap.size ≤ w9.heap.size; simp [w9]
  have h810 : p8 ≠ p10 := by show w.heap.size ≠ w9.heap.size; simp [w9]
  clear_value p8 p10 w9 w11
  refine ⟨_, _, _, _, _, _, b8.cell 0, b8.cell 1, b8.cell 2, b8.cell 3, ?_⟩
  refine (deadR_spec (h.no k11)).mono ?_
  rintro e w50 ⟨rfl, k50⟩
  refine ⟨_, rfl, ?_⟩
  have d8 := b8.no k50
  have d10 := b10.no k50
  have kk := k11.then k50
  unfold A.Sync
  refine cond_i (fun hd => ?_) (fun hd => ?_)
  · obtain ⟨e0, e1, e2, e3, ew, f0, f1, f2, f3, kf⟩ := fin4 d8 d10 rfl
    refine ⟨_, _, _, _, _, _, e0, e1, e2, e3, ew, _, _, _, _, _, _, f0, f1, f2, f3, ?_⟩
    have kk := kk.new kf (by rintro y rfl; exact h10)
    rw [hd]
    exact ⟨s, rfl, h.no kk, kk⟩
  · rw [hd]
    refine ⟨_, _, _, _, _, _, d8.cell 0, d8.cell 1, d8.cell 2, d8.cell 3, ?_⟩
    refine (stepR_spec (h.no kk)).mono ?_
    rintro e w26 ⟨rfl, k26⟩
    refine ⟨_, _, _, _, _, _, rfl, (d8.no k26).wrN (by simp), ?_⟩
    intro w31
    have c8 : Bk w31 p8 #[s.v, .int .i64 x.raws, .bool x.armed, .int .i64 x.stepped.left] 26 := (d8.no k26).setAll rfl
    have k31 : Keep (is p8) w26 w31 := setN_keep (S := is p8) (a := ⟨p8, 0, none⟩) rfl _ _ _
    have c10 : Bk w31 p10 _ _ := (d10.no k26).keep k31 fun h => h810 h.symm
    clear_value w31
    have k31' : Keep no w w31 := (kk.then k26).new k31 (by rintro y rfl; exact h8)
    refine ⟨_, _, _, _, _, _, c8.cell 0, c8.cell 1, c8.cell 2, c8.cell 3, ?_⟩
    have hst : RefR w31 s x.stepped := ⟨(h.no k31').1, A.stepped_ok h.2 hd⟩
    refine (nowR_spec hst).mono ?_
    rintro e w37 ⟨rfl, k37⟩
    refine ⟨_, _, _, rfl, ?_⟩
    intro p41 w42
    have e41 : Bk w42 p41 #[.string (str x.now.a), .string (str x.now.b), .string (str x.now.c)] 77 := Bk.new w37 _ _
    have k42 : Keep no w37 w42 := Keep.alloc _ _ _
    have h41 : w37.heap.size ≤ p41 := Nat.le_refl _
    clear_value p41 w42
    have k42' : Keep no w31 w42 := k37.then k42
    have a8 := c8.no k42'
    have a10 := c10.no k42'
    refine ⟨a8.wr (by simp), ?_⟩
    intro w43
    have q8 : Bk w43 p8 #[.slice (some ⟨p41, 0, none⟩) 1 1, .int .i64 x.raws, .bool x.armed, .int .i64 x.stepped.left] 26 := a8.set 0 _
    have k43 : Keep (is p8) w42 w43 := Keep.set (S := is p8) w42 (a := ⟨p8, 0, none⟩) _ rfl
    have q10 : Bk w43 p10 _ _ := a10.keep k43 fun h => h810 h.symm
    have q41 : Bk w43 p41 _ _ := e41.keep k43 fun h => (e41.ty.ne a8.ty (by decide)) h
    clear_value w43
    obtain ⟨e0, e1, e2, e3, ew, f0, f1, f2, f3, kf⟩ := fin4 q8 q10 rfl
    refine ⟨_, _, _, _, _, _, e0, e1, e2, e3, ew, _, _, _, _, _, _, f0, f1, f2, f3, ⟨some ⟨p41, 0, none⟩, 1, 1⟩, rfl, ⟨?_, ?_⟩, ?_⟩
    · exact Rd.keep (Rd.blk q41 (n := 1) rfl (by simp [maxLen])) kf (by rintro y rfl ht; exact absurd (ht.uniq q10.ty) (by decide))
    · refine ⟨fun t ht => ?_, (A.stepped_ok h.2 hd).left⟩
      have ht' : t ∈ [x.now] := ht
      simp at ht'; rw [ht']; exact h.2.now
    · exact ((k31'.then k42').new k43 (by rintro y rfl; exact h8)).new kf (by rintro y rfl; exact h10)

theorem ArmR_spec (h : RefR w s x) (n : Int) (hn : n ≤ 9223372036854775807) : Calls Try.prog 69 #[rV s x, .int .i64 n] w fun e w' => RefD w w' e (x.Arm n) := by
  refine c69 ?_
  unfold sh69
  intro p8 w9 p10 w11
  have b8 : Bk w11 p8 #[s.v, .int .i64 x.raws, .bool x.armed, .int .i64 x.left] 26 := (Bk.new w _ _).alloc _
  have b10 : Bk w11 p10 #[.slice none 0 0, .int .i64 0, .bool false, .int .i64 0] 26 := Bk.new w9 _ _
  have k11 : Keep no w w11 := (Keep.alloc no w _).then (Keep.alloc no w9 _)
  have h8 : w.heap.size ≤ p8 := Nat.le_refl _
  have h10 : w.heap.size ≤ p10 := by show w.heap.size ≤ w9.heap.size; simp [w9]
  have h810 : p8 ≠ p10 := by show w.heap.size ≠ w9.heap.size; simp [w9]
  clear_value p8 p10 w9 w11
  unfold A.Arm
  refine cond_d (fun h1 => ?_) (fun h1 => ?_)
  · rw [if_pos h1]
    obtain ⟨e0, e1, e2, e3, ew, f0, f1, f2, f3, kf⟩ := fin4 b8 b10 rfl
    refine ⟨_, _, _, _, _, _, e0, e1, e2, e3, ew, _, _, _, _, _, _, f0, f1, f2, f3, ?_⟩
    have kk := k11.new kf (by rintro y rfl; exact h10)
    exact ⟨s, rfl, h.no kk, kk⟩
  · rw [if_neg h1]
    refine ⟨_, _, _, _, _, _, b8.cell 0, b8.cell 1, b8.cell 2, b8.cell 3, ?_⟩
    refine (deadR_spec (h.no k11)).mono ?_
    rintro e w50 ⟨rfl, k50⟩
    refine ⟨_, rfl, ?_⟩
    have d8 := b8.no k50
    have d10 := b10.no k50
    have kk := k11.then k50
    refine cond_i (fun hd => ?_) (fun hd => ?_)
    · rw [hd]
      obtain ⟨e0, e1, e2, e3, ew, f0, f1, f2, f3, kf⟩ := fin4 d8 d10 rfl
      refine ⟨_, _, _, _, _, _, e0, e1, e2, e3, ew, _, _, _, _, _, _, f0, f1, f2, f3, ?_⟩
      have kk := kk.new kf (by rintro y rfl; exact h10)
      exact ⟨s, rfl, h.no kk, kk⟩
    · rw [hd]
      refine ⟨d8.wr (by simp), ?_⟩
      intro w27
      have c8 : Bk w27 p8 #[s.v, .int .i64 x.raws, .bool true, .int .i64 x.left] 26 := d8.set 2 _
      have k27 : Keep (is p8) w50 w27 := Keep.set (S := is p8) w50 (a := ⟨p8, 2, none⟩) _ rfl
      have c10 : Bk w27 p10 _ _ := d10.keep k27 fun h => h810 h.symm
      clear_value w27
      refine ⟨c8.wr (by simp), ?_⟩
      intro w28
      have a8 : Bk w28 p8 #[s.v, .int .i64 x.raws, .bool true, .int .i64 n] 26 := c8.set 3 _
      have k28 : Keep (is p8) w27 w28 := Keep.set (S := is p8) w27 (a := ⟨p8, 3, none⟩) _ rfl
      have a10 : Bk w28 p10 _ _ := c10.keep k28 fun h => h810 h.symm
      clear_value w28
      obtain ⟨e0, e1, e2, e3, ew, f0, f1, f2, f3, kf⟩ := fin4 a8 a10 rfl
      refine ⟨_, _, _, _, _, _, e0, e1, e2, e3, ew, _, _, _, _, _, _, f0, f1, f2, f3, ?_⟩
      have kk := (kk.new (k27.then k28) (by rintro y rfl; exact h8)).new kf (by rintro y rfl; exact h10)
      exact ⟨s, rfl, ⟨(h.no kk).1, h.2.small, fun _ => ⟨by show 0 ≤ n; omega, hn⟩⟩, kk⟩

theorem CrashR_spec (h : RefR w s x) (k : Int) : Calls Try.prog 24 #[rV s x, .int .i64 k] w fun e w' => ∃ s', e = .returned (rV s' (x.Crash k)) ∧ RefR w' s' (x.Crash k) ∧ Keep no w w' := by
  refine c24 ?_
  unfold sh24
  intro p8 w9 p10 w11
  have b8 : Bk w11 p8 #[s.v, .int .i64 x.raws, .bool x.armed, .int .i64 x.left] 26 := (Bk.new w _ _).alloc _
  have b10 : Bk w11 p10 #[.slice none 0 0, .int .i64 0, .bool false, .int .i64 0] 26 := Bk.new w9 _ _
  have k11 : Keep no w w11 := (Keep.alloc no w _).then (Keep.alloc no w9 _)
  have h10 : w.heap.size ≤ p10 := by show w.heap.size ≤ w9.heap.size; simp [w9]
  clear_value p8 p10 w9 w11
  refine ⟨_, _, _, b8.cell 0, _, _, _, b8.cell 0, ?_⟩
  rw [h.wrap1]
  have hkl := x.keep_le k
  have ek : mxI 0 (mnI k (x.rest.length : Int)) = (x.keep k : Nat) := by unfold A.keep mnI mxI; (repeat' split) <;> omega
  rw [ek, Int.toNat_natCast]
  have hn := h.len
  obtain ⟨q, hq, e0, e1, e2⟩ := (h.no k11).state hkl
  refine ⟨q, hq, by omega, by omega, _, _, _, e0, e1, e2, ?_⟩
  intro p16 w17
  have b16 : Bk w17 p16 #[.string (str (x.st (x.keep k)).a), .string (str (x.st (x.keep k)).b), .string (str (x.st (x.keep k)).c)] 77 := Bk.new w11 _ _
  have k17 : Keep no w11 w17 := Keep.alloc _ _ _
  clear_value p16 w17
  have c10 := b10.no k17
  refine ⟨c10.wrN (by simp), ?_⟩
  intro w18
  have d10 : Bk w18 p10 #[.slice (some ⟨p16, 0, none⟩) 1 1, .int .i64 0, .bool false, .int .i64 0] 26 := c10.setAll rfl
  have k18 : Keep (is p10) w17 w18 := setN_keep (S := is p10) (a := ⟨p10, 0, none⟩) rfl _ _ _
  have d16 : Bk w18 p16 _ _ := b16.keep k18 fun h => (b16.ty.ne c10.ty (by decide)) h
  clear_value w18
  refine ⟨_, _, _, _, _, _, d10.cell 0, d10.cell 1, d10.cell 2, d10.cell 3, ⟨some ⟨p16, 0, none⟩, 1, 1⟩, rfl, ⟨?_, ?_⟩, (k11.then k17).new k18 (by rintro y rfl; exact h10)⟩
  · exact Rd.blk d16 (n := 1) rfl (by simp [maxLen])
  · refine ⟨fun t ht => ?_, fun h => by cases h⟩
    have ht' : t ∈ [x.st (x.keep k)] := ht
    simp at ht'; rw [ht']; exact h.2.small _ (x.st_mem _)
end
end Go.Proofs.Ytmfidfaiopogbaa
