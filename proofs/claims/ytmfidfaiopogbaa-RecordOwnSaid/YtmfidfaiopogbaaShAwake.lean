/- The document's example of records. -/
import Derived.Test.YtmfidfaiopogbaaShSame
set_option linter.unusedVariables false
set_option linter.unusedSimpArgs false
set_option linter.unusedSectionVars false
set_option maxRecDepth 8000
namespace Go.Proofs.Ytmfidfaiopogbaa
open Go Go.Sh

theorem enc_ex : enc ⟨1, 0, 0, 300, 0⟩ = some [3, 1, 172, 2, 246] := by
  have h : num 300 = [172, 2] := by rw [num_ge (by omega), num_lt (by omega)]; rfl
  have hb : body ⟨1, 0, 0, 300, 0⟩ ([(3, 0, 2147483647)], false) = [1, 172, 2] := by
    unfold body numsOf
    simp only [List.flatMap_cons, List.flatMap_nil, List.append_nil, cond_false]
    show kb 1 :: num 300 = _
    rw [h]; rfl
  unfold enc
  rw [shp_a (.inl rfl)]
  simp only
  rw [if_pos (by intro f hf; simp at hf; subst hf; exact ⟨by decide, by decide⟩), hb]
  rfl
theorem scan_ex : scan [3, 1, 172, 2, 246, 2, 4, 7, 91, 9] = ([⟨1, 0, 0, 300, 0⟩, ⟨4, 7, 0, 0, 0⟩], 9) := by
  have d1 : dec [3, 1, 172, 2, 246, 2, 4, 7, 91, 9] = some (⟨1, 0, 0, 300, 0⟩, 5) := by rfl
  have d2 : dec [2, 4, 7, 91, 9] = some (⟨4, 7, 0, 0, 0⟩, 4) := by rfl
  have d3 : dec [9] = none := by rfl
  rw [scan_some d1]
  show ((⟨1, 0, 0, 300, 0⟩ : Op) :: (scan [2, 4, 7, 91, 9]).1, 5 + (scan [2, 4, 7, 91, 9]).2) = _
  rw [scan_some d2]
  show ((⟨1, 0, 0, 300, 0⟩ : Op) :: (⟨4, 7, 0, 0, 0⟩ : Op) :: (scan [9]).1, 5 + (4 + (scan [9]).2)) = _
  rw [scan_none d3]
  rfl

section
variable [Av]
theorem awakeR_spec (w : World) : Calls Try.prog 36 #[] w fun e w' => e = .returned (.bool true) ∧ Keep no w w' := by
  refine c36 ?_
  unfold sh36
  refine (Encode_spec w (x := ⟨1, 0, 0, 300, 0⟩) ⟨by decide, by decide, by decide, by decide, by decide⟩).mono ?_
  rintro e w2 ⟨s, c, rfl, k2, hcase⟩
  rw [enc_ex] at hcase
  obtain ⟨rfl, hs⟩ : c = 0 ∧ w2.ownsRow w.heap.size 5 1 s.v s.n (bvs [3, 1, 172, 2, 246]) := by
    rcases hcase with ⟨h, _⟩ | ⟨l, h, h2, h3⟩
    · cases h
    · cases h; exact ⟨h2, h3⟩
  refine ⟨_, _, _, _, rfl, ?_⟩
  have hsn : s.n = 5 := by have := hs.1; simp at this; exact this.symm
  intro p5 w6
  have o6 : w6.ownsRow w2.heap.size 5 1 (.slice (some ⟨p5, 0, none⟩) 0 0) 0 (bvs []) := lit_own w2 5 1 (Nat.le_refl _)
  have k6 : Keep no w2 w6 := Keep.alloc _ _ _
  clear_value p5 w6
  have hs6 : Rd w6 0 1 s.a s.n s.c (bvs [3, 1, 172, 2, 246]) := Rd.own0 (own_no hs k6)
  refine app5 (w := w2) (l := []) (l' := [3, 1, 172, 2, 246]) o6 hs6 (by omega) k6.size (Nat.le_refl _) k6 fun a9 c9 w8 o8 k8 kk8 => ?_
  intro p10 w11
  have b11 : Bk w11 p10 #[.int .u8 2, .int .u8 4, .int .u8 7, .int .u8 91, .int .u8 9] 5 := Bk.new w8 _ _
  have k11 : Keep no w8 w11 := Keep.alloc _ _ _
  clear_value p10 w11
  refine app5 (w := w2) (l := [] ++ [3, 1, 172, 2, 246]) (l' := [2, 4, 7, 91, 9]) (own_no o8 k11) (Rd.blk0 (sz := 1) (n := 5) b11 rfl (by simp [maxLen])) (by omega) (k8.then k11).size (Nat.le_refl _) (k8.then k11) fun a14 c14 w13 o13 k13 kk13 => ?_
  have hR : Rd w13 0 1 a14 (0 + s.n + 5) c14 (bvs [3, 1, 172, 2, 246, 2, 4, 7, 91, 9]) := Rd.own0 o13
  refine (Scan_spec hR (by rw [scan_ex]; simp)).mono ?_
  rintro e w16 ⟨so, rfl, k16, hso, hson⟩
  rw [scan_ex] at hso hson ⊢
  have hs16 : Rd w16 0 1 s.a s.n s.c (bvs [3, 1, 172, 2, 246]) := Rd.own0 (own_no hs (k13.then k16))
  refine ⟨_, _, _, _, rfl, cond_t rfl ?_⟩
  refine rw_str Try.underlying36 Try.underlying5 Try.underlying9 hs16 ?_
  refine cond_t (by simp) (cond_t rfl (cond_t (by rw [hson]; rfl) ?_))
  have hRo : Rd w16 0 5 so.a so.n so.c (opl [⟨1, 0, 0, 300, 0⟩, ⟨4, 7, 0, 0, 0⟩]) := Rd.own0 hso
  have hson2 : so.n = 2 := hson
  obtain ⟨ad, had, hcell⟩ := hRo.cells (by omega)
  refine ⟨ad, had, by omega, by omega, _, _, _, _, _, hcell 5 _ rfl, hcell 6 _ rfl, hcell 7 _ rfl, hcell 8 _ rfl, hcell 9 _ rfl, ?_⟩
  refine rw_eql (x := ⟨4, 7, 0, 0, 0⟩) (y := ⟨4, 7, 0, 0, 0⟩) ?_
  exact ⟨by rw [opeq_self], (k2.then k13).then k16⟩
end
end Go.Proofs.Ytmfidfaiopogbaa
