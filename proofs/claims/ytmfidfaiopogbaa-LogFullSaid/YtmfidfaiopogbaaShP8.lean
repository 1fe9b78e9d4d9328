/- What RecordEncodes answers. -/
import Derived.Test.YtmfidfaiopogbaaShDec
import Derived.Test.YtmfidfaiopogbaaShL8
set_option linter.unusedVariables false
set_option linter.unusedSimpArgs false
set_option linter.unusedSectionVars false
set_option maxRecDepth 4000
namespace Go.Proofs.Ytmfidfaiopogbaa
open Go Go.Sh
open Go.RowKit (Below)
variable [Av]

theorem plain_fit {x y : Op} (hx : x.fit) (h : plain x = some y) : y.fit := by
  have z : (-9223372036854775808 : Int) ≤ 0 ∧ (0 : Int) ≤ 9223372036854775807 := by decide
  have zb : (0 : Int) ≤ 0 ∧ (0 : Int) < 4294967296 := by decide
  unfold plain at h
  split at h
  · split at h
    · cases h; exact ⟨hx.k, z, z, hx.v, zb⟩
    · cases h
  · split at h
    · split at h
      · cases h; exact hx
      · cases h
    · split at h
      · split at h
        · cases h; exact ⟨hx.k, hx.e, z, z, zb⟩
        · cases h
      · split at h
        · split at h
          · cases h; exact ⟨hx.k, hx.e, z, z, hx.b⟩
          · cases h
        · cases h

theorem encodes_core {w : World} {x : Op} (hx : x.fit) : Calls Try.prog 8 #[opV x] w fun e w' => e = .returned (.bool true) ∧ Below w.heap.size w w' := by
  refine c8 ?_
  unfold sh8
  intro p6 w7
  have b6 : Bk w7 p6 (opC x) 57 := Bk.new w _ _
  have k7 : Keep no w w7 := Keep.alloc _ _ _
  clear_value p6 w7
  refine (awakeR_spec w7).mono ?_
  rintro e w9 ⟨rfl, k9⟩
  refine ⟨_, rfl, cond_f rfl ?_⟩
  have c6 := b6.no k9
  refine ⟨_, _, _, _, _, c6.cell 0, c6.cell 1, c6.cell 2, c6.cell 3, c6.cell 4, ?_⟩
  refine (Encode_spec w9 hx).mono ?_
  rintro e w17 ⟨s, c, rfl, k17, hcase⟩
  refine ⟨_, _, _, _, rfl, ?_⟩
  have d6 := c6.no k17
  refine ⟨_, _, _, _, _, d6.cell 0, d6.cell 1, d6.cell 2, d6.cell 3, d6.cell 4, ?_⟩
  refine (Plain_spec w17 x).mono ?_
  rintro e w26 ⟨k26, hpl⟩
  have K26 := ((k7.then k9).then k17).then k26
  rcases hpl with ⟨hp, z, rfl⟩ | ⟨y, hp, rfl⟩
  · refine ⟨_, _, _, _, _, _, rfl, ?_⟩
    intro p33 w34
    have b33 : Bk w34 p33 #[.int .i64 0, .int .i64 0, .int .i64 0, .int .i64 0, .int .u32 0] 57 := Bk.new w26 _ _
    have k34 : Keep no w26 w34 := Keep.alloc _ _ _
    have h33 : w26.heap.size ≤ p33 := Nat.le_refl _
    clear_value p33 w34
    obtain ⟨e1, _, e3⟩ := fin5 (a := .int .i64 z.k) (b := .int .i64 z.e) (c := .int .i64 z.u) (d := .int .i64 z.v) (e := .int .u32 z.b) b33 rfl
    refine ⟨e1, ?_⟩
    have hn := (enc_plain x).2 hp
    obtain ⟨rfl, rfl⟩ : c = 190 ∧ s = ⟨none, 0, 0⟩ := by
      rcases hcase with ⟨_, h1, h2⟩ | ⟨l, h, _⟩
      · exact ⟨h1, h2⟩
      · rw [hn] at h; cases h
    exact cond_f rfl (cond_t rfl ⟨rfl, ((K26.then k34).new e3 (by rintro q rfl; exact Nat.le_trans K26.size h33)).below⟩)
  · refine ⟨_, _, _, _, _, _, rfl, ?_⟩
    intro p33 w34
    have b33 : Bk w34 p33 #[.int .i64 0, .int .i64 0, .int .i64 0, .int .i64 0, .int .u32 0] 57 := Bk.new w26 _ _
    have k34 : Keep no w26 w34 := Keep.alloc _ _ _
    have h33 : w26.heap.size ≤ p33 := Nat.le_refl _
    clear_value p33 w34
    obtain ⟨e1, e2, e3⟩ := fin5 (a := .int .i64 y.k) (b := .int .i64 y.e) (c := .int .i64 y.u) (d := .int .i64 y.v) (e := .int .u32 y.b) b33 rfl
    refine ⟨e1, ?_⟩
    obtain ⟨he, hey, hyk, hyy⟩ := (enc_plain x).1 y hp
    obtain ⟨l, hl, rfl, hs⟩ : ∃ l, enc x = some l ∧ c = 0 ∧ w17.ownsRow w9.heap.size 5 1 s.v s.n (bvs l) := by
      rcases hcase with ⟨h, _⟩ | h
      · rw [he] at h; cases h
      · exact h
    refine cond_f rfl (cond_f rfl ?_)
    intro w36
    have B36 : Bk w36 p33 (opC y) 57 := e2.drew
    have k36 : Keep no w26 w36 := (k34.new e3 (by rintro q rfl; exact h33)).no (Keep.drew _ _)
    clear_value w36
    have hs36 := own_no hs (k26.then k36)
    have r0 : Rd w36 0 1 s.a s.n s.c (bvs l) := Rd.own0 hs36
    refine rw_str Try.underlying36 Try.underlying5 Try.underlying9 r0 ?_
    refine ⟨_, _, _, _, _, B36.cell 0, B36.cell 1, B36.cell 2, B36.cell 3, B36.cell 4, ?_⟩
    refine (EncodeR_spec w36 (plain_fit hx hp) hyy).mono ?_
    rintro e w46 ⟨s2, rfl, k46, hs2⟩
    have r1 : Rd w46 0 1 s.a s.n s.c (bvs l) := Rd.own0 (own_no hs36 k46)
    refine ⟨_, _, _, rfl, ?_, ?_⟩
    · exact rw_str Try.underlying36 Try.underlying5 Try.underlying9 r1 rfl
    have r2 := Rd.own0 hs2
    refine rw_str Try.underlying36 Try.underlying5 Try.underlying9 r2 ?_
    have hll : sealed (body y ((shp y.k).getD ([], false))) = l := by
      have h1 := ((enc_plain y).1 y hyy).1
      rw [hey, hl] at h1
      exact (Option.some.inj h1).symm
    rw [hll]
    exact ⟨by simp, ((K26.then k36).then k46).below⟩
end Go.Proofs.Ytmfidfaiopogbaa
