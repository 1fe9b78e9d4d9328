/- What DiskCrashes answers. -/
import Derived.Test.YtmfidfaiopogbaaShP5
import Derived.Test.YtmfidfaiopogbaaShL4
set_option linter.unusedVariables false
set_option linter.unusedSectionVars false
set_option linter.unusedSimpArgs false
set_option maxRecDepth 4000
namespace Go.Proofs.Ytmfidfaiopogbaa
open Go Go.Sh Go.ChangeShapes Go.WideShapes Go.ChangeAt Go.RowKit

variable [Av]
/-- What is kept of the first disk while another, newer one is played. -/
theorem DkR.apart {w w' : World} {lo N p pc : Nat} {q qc : Sv} {x y : A} (h : DkR w lo p q x) (hc : DkR w N pc qc y) (hl : ∀ b, dk p q b → b < N) (k : Keep (dk pc qc) w w') : DkR w' lo p q x :=
  h.keep k fun b hb => ⟨fun hd => by have := hl b hd; have := (hc.kt hb).1; omega, hc.ty hb⟩

theorem crashes_core {w : World} {sc mo : Sv} (hs : OpsR w w.heap.size sc) (hm : OpsR w w.heap.size mo) (hO : Old w) : Calls Try.prog 4 #[sc.v, mo.v] w fun e w' => e = .returned (.bool true) ∧ Below w.heap.size w w' := by
  refine c4 ?_
  unfold sh4
  refine (Built_spec hs hO).mono ?_
  rintro e w3 ⟨p, q, s, y, rfl, hd, hr, k3, hy⟩
  refine ⟨_, _, _, _, _, _, _, _, rfl, ?_⟩
  intro p11 w12
  have b11 : Bk w12 p11 #[.slice none 0 0, .int .i64 0, .bool false, .int .i64 0] 26 := Bk.new w3 _ _
  have k12 : Keep no w3 w12 := Keep.alloc _ _ _
  have h11 : w3.heap.size ≤ p11 := Nat.le_refl _
  clear_value p11 w12
  refine ⟨b11.wrN (by simp), ?_⟩
  intro w13
  have c11 : Bk w13 p11 #[s.v, .int .i64 y.raws, .bool y.armed, .int .i64 y.left] 26 := b11.setAll rfl
  have k13 : Keep (is p11) w12 w13 := setN_keep (S := is p11) (a := ⟨p11, 0, none⟩) rfl _ _ _
  clear_value w13
  have k13' : Keep no w3 w13 := k12.new k13 (by rintro z rfl; exact h11)
  intro K19
  refine (awake_spec w13 (hO.up (k3.then k13'))).mono ?_
  rintro e w15 ⟨rfl, k15⟩
  refine ⟨_, rfl, cond_f rfl (cond_f rfl ?_)⟩
  clear K19
  have KA : Keep no w w15 := (k3.then k13').then k15
  have hsn := hr.len
  refine ⟨fun vs v => ∃ j : Nat, vs = [.bool true, .bool false, .int .i64 ((j : Int) - 1)] ∧ j ≤ s.n + 2 ∧ Keep no w v ∧ DkR v w.heap.size p q y ∧ RefR v s y ∧ Bk v p11 #[s.v, .int .i64 y.raws, .bool y.armed, .int .i64 y.left] 26,
    fun vs v => match vs with | [_, _, .int _ i] => (s.n + 1 - i).toNat | _ => 0, ⟨0, rfl, by omega, KA, (hd.no_ k13').no_ k15, (hr.no k13').no k15, c11.no k15⟩, ?_⟩
  rintro w23 ok20 b21 keep22 ⟨j, hv, hj, K23, hd23, hr23, d11⟩
  cases hv
  refine ⟨_, _, _, d11.cell 0, ?_⟩
  refine cond_d (fun hle => ?_) (fun hgt => ?_)
  · -- one round
    intro K93 w27
    have e11 := d11.drew
    have hd27 := hd23.no_ (Keep.drew no w23)
    have hr27 := hr23.no (Keep.drew no w23)
    have K27 : Keep no w w27 := K23.no (Keep.drew _ _)
    replace e11 : Bk w27 p11 _ _ := e11
    replace hd27 : DkR w27 _ _ _ _ := hd27
    replace hr27 : RefR w27 _ _ := hr27
    have fin : ∀ (v : World) (pc pa : Nat) (s' : Sv) (m1 : Option Addr) (m2 m3 : Nat) (m4 : Int) (m5 : Bool) (m6 : Int), DkR v w27.heap.size pc ⟨none, 0, 0⟩ (y.Crash ((j : Int) - 1)) → RefR v s' (y.Crash ((j : Int) - 1)) →
        Bk v pa #[s'.v, .int .i64 0, .bool false, .int .i64 0] 26 → w27.heap.size ≤ pa → Keep no w27 v → K93 (some ⟨pc, 0, none⟩) ⟨pa, 0, none⟩ (some ⟨pc, 0, none⟩) m1 m2 m3 m4 m5 m6 s'.a s'.n s'.c 0 false 0 v := by
      intro v pc pa s' m1 m2 m3 m4 m5 m6 hc hs' ba hpa kv
      have hp11 : p11 < w27.heap.size := e11.lt
      refine cond_f (by rfl) ?_
      refine ⟨_, _, _, _, _, _, ba.cell 0, by rw [addP]; exact ba.cell 1, by rw [addP]; exact ba.cell 2, by rw [addP]; exact ba.cell 3, ?_⟩
      refine (Tells_spec (x := y.Crash ((j : Int) - 1)) hc hs').mono ?_
      rintro e w99 ⟨rfl, k99⟩
      refine ⟨_, rfl, cond_f rfl ?_⟩
      refine (dead_spec (hc.no_ k99)).mono ?_
      rintro e w102 ⟨rfl, rfl⟩
      refine ⟨_, rfl, cond_f (by rfl) ?_⟩
      refine (pending_spec (hc.no_ k99)).mono ?_
      rintro e w105 ⟨rfl, rfl⟩
      refine ⟨_, rfl, ?_⟩
      refine cond_f rfl ?_
      have hc105 := hc.no_ k99
      have hs105 := hs'.no k99
      have ba105 := ba.no k99
      have kv105 := kv.then k99
      have hdlow : ∀ b, dk p q b → b < w27.heap.size := fun b hb => hd27.lt hb
      refine ⟨fun vs u => ∃ (i pc : Nat) (qc sc : Sv) (z : A), vs = [.pointer (some ⟨pc, 0, none⟩), .bool true, .int .i64 i] ∧ i ≤ 6 ∧ z.rest.length ≤ i ∧ DkR u w27.heap.size pc qc z ∧ RefR u sc z ∧
          Bk u pa #[sc.v, .int .i64 z.raws, .bool z.armed, .int .i64 z.left] 26 ∧ Keep no w27 u,
        fun vs u => match vs with | [_, _, .int _ i] => 6 - i.toNat | _ => 0, ⟨0, pc, ⟨none, 0, 0⟩, s', _, rfl, by omega, by simp [A.Crash], hc105, hs105, ba105, kv105⟩, ?_⟩
      rintro w119 c116 ok117 i118 ⟨i, pc', qc, s2, z, hv, hi, hz, hc2, hs2, ba2, ku⟩
      cases hv
      intro K127
      have stop : ∀ b c d, K127 b c d false w119 := by
        intro b c d
        refine cond_f rfl ?_
        refine cond_f rfl ?_
        have hdu := hd27.no_ ku
        have hru := hr27.no ku
        have f11 := e11.no ku
        refine ⟨_, _, _, _, _, _, f11.cell 0, f11.cell 1, f11.cell 2, f11.cell 3, ?_⟩
        refine (Tells_spec hdu hru).mono ?_
        rintro e w152 ⟨rfl, k152⟩
        refine ⟨_, rfl, ?_⟩
        refine cond_f rfl ?_
        have hsz := hr.1.2.1
        have hsm := hr.1.2.2.1
        simp only [maxLen] at hsm
        have ej : IntKind.i64.wrap ((j : Int) - 1 + 1) = ((j + 1 : Nat) : Int) - 1 := by rw [IntWalk.i64_in _ ⟨by omega, by omega⟩]; omega
        rw [ej]
        refine ⟨⟨j + 1, rfl, by omega, (K27.then ku).then k152, hdu.no_ k152, hru.no k152, f11.no k152⟩, ?_⟩
        show ((s.n : Int) + 1 - (((j + 1 : Nat) : Int) - 1)).toNat < ((s.n : Int) + 1 - ((j : Int) - 1)).toNat
        omega
      refine cond_d (fun hlt => ?_) (fun hge => stop false false false)
      refine cond_d (fun hlt6 => ?_) (fun hge => stop true (decide ((i : Int) < 6)) false)
      refine cond_t rfl ?_
      have ba3 := ba2.drew
      have hc3 := hc2.no_ (Keep.drew no w119)
      have hs3 := hs2.no (Keep.drew no w119)
      have ku3 : Keep no w27 w119.drew := ku.no (Keep.drew _ _)
      have ku3' : Keep no w w119.drew := K27.then ku3
      show ∃ _, _
      refine ⟨_, _, _, _, _, _, ba3.cell 0, by rw [addP]; exact ba3.cell 1, by rw [addP]; exact ba3.cell 2, by rw [addP]; exact ba3.cell 3, ?_⟩
      obtain ⟨qq, hqq, kk, f, a, b, l, g0, g1, g2, g3, hb, hlow, ha, hbn⟩ := (hm.no ku3').2 i (by omega)
      refine ⟨qq, hqq, by omega, by omega, ?_⟩
      rw [Int.toNat_natCast]
      refine ⟨_, _, _, _, _, _, g0, g1, g2, g3, ?_⟩
      refine (play_spec hc3 hs3 hb (fun h0 y hy => Nat.lt_of_lt_of_le (hlow h0 y hy) K27.size) (by omega) ha hbn ku3.size).mono ?_
      rintro e w139 ⟨p', q', s4, y4, rfl, hc4, hs4, k4, hl4⟩
      have ba4 := hc3.bk k4 ba3 (by decide) (by decide)
      refine ⟨_, _, _, _, _, _, _, _, rfl, ba4.wrN (by simp), ?_⟩
      intro w146
      have ba5 : Bk w146 pa #[s4.v, _, _, _] 26 := ba4.setAll rfl
      have k5 : Keep (is pa) w139 w146 := setN_keep (S := is pa) (a := ⟨pa, 0, none⟩) rfl _ _ _
      clear_value w146
      have ei : IntKind.i64.wrap ((i : Int) + 1) = ((i + 1 : Nat) : Int) := by rw [IntWalk.i64_in _ ⟨by omega, by omega⟩]; rfl
      rw [ei]
      refine ⟨⟨i + 1, p', q', s4, y4, rfl, by omega, by omega, hc4.keep k5 ?_, hs4.keep k5 ?_, ba5, (Played.no hc3 k4 ku3 (Nat.le_refl _)).new k5 (by rintro b rfl; exact hpa)⟩, ?_⟩
      · rintro b rfl
        exact ⟨fun hz => hc4.nt hz (by decide) (by decide) ba4.ty, fun ht => absurd (ht.uniq ba4.ty) (by decide)⟩
      · rintro b rfl ht
        exact absurd (ht.uniq ba4.ty) (by decide)
      · show 6 - ((i + 1 : Nat) : Int).toNat < 6 - (i : Int).toNat
        omega
    clear_value K93 w27
    refine ⟨_, _, _, _, _, _, e11.cell 0, e11.cell 1, e11.cell 2, e11.cell 3, ?_, ?_⟩
    · refine (Crash_spec hd27 ((j : Int) - 1)).mono ?_
      rintro e w33 ⟨pc, rfl, hc, k33⟩
      have g11 := e11.no k33
      refine ⟨_, rfl, ⟨_, _, _, _, _, _, g11.cell 0, g11.cell 1, g11.cell 2, g11.cell 3, rfl⟩, ?_, ?_⟩
      · refine (CrashR_spec (hr27.no k33) ((j : Int) - 1)).mono ?_
        rintro e w40 ⟨s', rfl, hs', k40⟩
        refine ⟨_, _, _, _, _, _, rfl, ?_⟩
        intro p45 w46
        have b45 : Bk w46 p45 #[.slice none 0 0, .int .i64 0, .bool false, .int .i64 0] 26 := Bk.new w40 _ _
        have k46 : Keep no w40 w46 := Keep.alloc _ _ _
        have h45 : w40.heap.size ≤ p45 := Nat.le_refl _
        clear_value p45 w46
        refine ⟨b45.wrN (by simp), ?_⟩
        intro w47
        have c45 : Bk w47 p45 #[s'.v, .int .i64 0, .bool false, .int .i64 0] 26 := b45.setAll rfl
        have k47 : Keep (is p45) w46 w47 := setN_keep (S := is p45) (a := ⟨p45, 0, none⟩) rfl _ _ _
        clear_value w47
        have kk : Keep no w40 w47 := k46.new k47 (by rintro z rfl; exact h45)
        exact fin w47 pc p45 s' _ _ _ _ _ _ ((hc.no_ k40).no_ kk) (hs'.no kk) c45 (Nat.le_trans (k33.then k40).size h45) ((k33.then k40).then kk)
      · intro p48 w49
        have b48 : Bk w49 p48 #[.slice none 0 0, .int .i64 0, .bool false, .int .i64 0] 26 := Bk.new w33 _ _
        have k49 : Keep no w33 w49 := Keep.alloc _ _ _
        have h48 : w33.heap.size ≤ p48 := Nat.le_refl _
        clear_value p48 w49
        have g11' := g11.no k49
        refine ⟨⟨_, _, _, _, _, _, g11'.cell 0, g11'.cell 1, g11'.cell 2, g11'.cell 3, rfl⟩, ?_⟩
        refine (CrashR_spec (hr27.no (k33.then k49)) ((j : Int) - 1)).mono ?_
        rintro e w55 ⟨s', rfl, hs', k55⟩
        refine ⟨_, _, _, _, _, _, rfl, (b48.no k55).wrN (by simp), ?_⟩
        intro w60
        have c48 : Bk w60 p48 #[s'.v, .int .i64 0, .bool false, .int .i64 0] 26 := (b48.no k55).setAll rfl
        have k60 : Keep (is p48) w55 w60 := setN_keep (S := is p48) (a := ⟨p48, 0, none⟩) rfl _ _ _
        have t48 := (b48.no k55).ty
        clear_value w60
        have hh : w27.heap.size ≤ p48 := Nat.le_trans k33.size h48
        refine fin w60 pc p48 s' _ _ _ _ _ _ (((hc.no_ k49).no_ k55).keep k60 ?_) (hs'.keep k60 ?_) c48 hh (((k33.then k49).then k55).new k60 (by rintro z rfl; exact hh))
        · rintro z rfl
          exact ⟨fun hz => ((hc.no_ k49).no_ k55).nt hz (by decide) (by decide) t48, fun ht => absurd (ht.uniq t48) (by decide)⟩
        · rintro z rfl ht
          exact absurd (ht.uniq t48) (by decide)
    · intro p61 w62
      have b61 : Bk w62 p61 #[.slice none 0 0, .int .i64 0, .bool false, .int .i64 0] 26 := Bk.new w27 _ _
      have k62 : Keep no w27 w62 := Keep.alloc _ _ _
      have h61 : w27.heap.size ≤ p61 := Nat.le_refl _
      clear_value p61 w62
      have g11 := e11.no k62
      refine ⟨⟨_, _, _, _, _, _, g11.cell 0, g11.cell 1, g11.cell 2, g11.cell 3, rfl⟩, ?_⟩
      refine (Crash_spec (hd27.no_ k62) ((j : Int) - 1)).mono ?_
      rintro e w68 ⟨pc, rfl, hc, k68⟩
      have g11' := g11.no k68
      refine ⟨_, rfl, ⟨_, _, _, _, _, _, g11'.cell 0, g11'.cell 1, g11'.cell 2, g11'.cell 3, rfl⟩, ?_⟩
      refine (CrashR_spec (hr27.no (k62.then k68)) ((j : Int) - 1)).mono ?_
      rintro e w75 ⟨s', rfl, hs', k75⟩
      have b61' := (b61.no k68).no k75
      refine ⟨_, _, _, _, _, _, rfl, b61'.wrN (by simp), ?_⟩
      intro w80
      have c61 : Bk w80 p61 #[s'.v, .int .i64 0, .bool false, .int .i64 0] 26 := b61'.setAll rfl
      have k80 : Keep (is p61) w75 w80 := setN_keep (S := is p61) (a := ⟨p61, 0, none⟩) rfl _ _ _
      have t61 := b61'.ty
      clear_value w80
      have hc75 := (hc.no_ k75).low (lo := w27.heap.size) k62.size
      refine fin w80 pc p61 s' _ _ _ _ _ _ (hc75.keep k80 ?_) (hs'.keep k80 ?_) c61 h61 (((k62.then k68).then k75).new k80 (by rintro z rfl; exact h61))
      · rintro z rfl
        exact ⟨fun hz => hc75.nt hz (by decide) (by decide) t61, fun ht => absurd (ht.uniq t61) (by decide)⟩
      · rintro z rfl ht
        exact absurd (ht.uniq t61) (by decide)
  · -- the end
    intro w158
    have e11 := d11.drew
    have hd27 := hd23.no_ (Keep.drew no w23)
    have hr27 := hr23.no (Keep.drew no w23)
    have K27 : Keep no w w158 := K23.no (Keep.drew _ _)
    replace e11 : Bk w158 p11 _ _ := e11
    replace hd27 : DkR w158 _ _ _ _ := hd27
    replace hr27 : RefR w158 _ _ := hr27
    clear_value w158
    refine ⟨_, _, _, _, _, _, e11.cell 0, e11.cell 1, e11.cell 2, e11.cell 3, ?_⟩
    refine (Crash_spec hd27 4611686018427387904).mono ?_
    rintro e w164 ⟨pc, rfl, hc, k164⟩
    have g11 := e11.no k164
    refine ⟨_, rfl, ⟨_, _, _, _, _, _, g11.cell 0, g11.cell 1, g11.cell 2, g11.cell 3, rfl⟩, ?_⟩
    refine (CrashR_spec (hr27.no k164) 4611686018427387904).mono ?_
    rintro e w171 ⟨s', rfl, hs', k171⟩
    refine ⟨_, _, _, _, _, _, rfl, ?_⟩
    refine (Tells_spec (hc.no_ k171) hs').mono ?_
    rintro e w177 ⟨rfl, k177⟩
    have kk := (k164.then k171).then k177
    have h11' := e11.no kk
    refine ⟨_, rfl, cond_t rfl ?_⟩
    refine ⟨_, _, _, _, _, _, h11'.cell 0, h11'.cell 1, h11'.cell 2, h11'.cell 3, ?_⟩
    refine (Crash_spec (hd27.no_ kk) (-4611686018427387904)).mono ?_
    rintro e w184 ⟨pc2, rfl, hc2, k184⟩
    have i11 := h11'.no k184
    refine ⟨_, rfl, ⟨_, _, _, _, _, _, i11.cell 0, i11.cell 1, i11.cell 2, i11.cell 3, rfl⟩, ?_⟩
    refine (CrashR_spec (hr27.no (kk.then k184)) (-4611686018427387904)).mono ?_
    rintro e w191 ⟨s2, rfl, hs2, k191⟩
    refine ⟨_, _, _, _, _, _, rfl, ?_⟩
    refine (Tells_spec (hc2.no_ k191) hs2).mono ?_
    rintro e w197 ⟨rfl, k197⟩
    exact ⟨_, rfl, rfl, (K27.then (((kk.then k184).then k191).then k197)).below⟩
end Go.Proofs.Ytmfidfaiopogbaa
