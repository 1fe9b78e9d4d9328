/- Opening a list of files. -/
import Derived.Test.YtmfidfaiopogbaaShOps
import Derived.Test.YtmfidfaiopogbaaShLoad
set_option linter.unusedVariables false
set_option linter.unusedSimpArgs false
set_option linter.unusedSectionVars false
set_option maxRecDepth 4000
namespace Go.Proofs.Ytmfidfaiopogbaa
open Go Go.Sh Go.ChangeShapes Go.WideShapes
variable [Av]
section
variable {H : Type} {enc : TypeId × Value → H} {W : World} {spare : Nat → Bool} {held : Bool}
theorem open_files {fuel : Nat} {cs : List Value} {x : DataW H × List MemPlace} (h : DataW.trod enc Try.prog W 0 spare held fuel 48 cs = some x) (hf : Fit Try.prog 48 x.1) :
    ∃ s : Sv, cs = [s.v] ∧ ∃ Ls, FL W s Ls ∧ s.n * 24 ≤ 140737488351232 := by
  have hc1 : Try.prog.cellsOf 36 = 1 := by kernel_rfl
  have hb24 : Try.prog.bytesOf 36 = 24 := by kernel_rfl
  rcases Deep.open_slice Try.underlying48 h with ⟨rfl, rfl⟩ | ⟨a, len, cap, m, n, D, Pl, rfl, _, hl, hm, hmm, rfl, hel⟩
  · exact ⟨⟨none, 0, 0⟩, rfl, [], ⟨rfl, by simp [maxLen], fun i hi => absurd hi (by simp)⟩, by simp⟩
  · have hfit := Fit.slice Try.underlying48 hf
    have key : ∀ i, i < len → ∃ l : Bs, ∃ q, (some a) = some q ∧ ∃ b : Sv, W.cell? (q.add (i * 1)) = some b.v ∧ Ru W b l ∧ b.n ≤ 140737488355328 := by
      intro i hi'
      have him : i < m := by rw [hmm]; split <;> omega
      obtain ⟨cs', hcs, htr⟩ := hel i him
      rw [hc1] at hcs
      have hfi : Fit Try.prog 36 (D i) := hfit.2 _ (List.mem_map.2 ⟨i, List.mem_range.2 hi', rfl⟩)
      obtain ⟨ba, bn, bc, l, hb, hRd, hlow, hbn⟩ := open_bytes Try.underlying36 Try.underlying5 (by kernel_rfl) (by kernel_rfl) htr hfi
      subst hb
      refine ⟨l, a, rfl, ⟨ba, bn, bc⟩, ?_, hRd, hbn⟩
      unfold World.cells? at hcs
      split at hcs
      · have := mapM_some_get hcs 0 0 (by simp)
        rw [addZ] at this
        simpa using this
      · cases hcs
    obtain ⟨f, hfk⟩ := Deep.choose_lt key
    refine ⟨⟨some a, len, cap⟩, rfl, (List.range len).map f, ⟨by simp, by simp only; omega, fun i hi => ?_⟩, ?_⟩
    · have hi' : i < len := hi
      obtain ⟨q, hq, b, h1, h2, h3⟩ := hfk i hi'
      refine ⟨q, hq, b, h1, ?_, h3⟩
      have : ((List.range len).map f).getD i [] = f i := by simp [List.getD_eq_getElem?_getD, hi']
      rw [this]; exact h2
    · have h1 := hfit.1
      rw [hb24] at h1
      simp only [List.length_map, List.length_range] at h1
      have hrb : reachBytes = 140737488351232 := by rfl
      rw [hrb] at h1
      show len * 24 ≤ _
      have h2 : len * 24 ≤ (len + (m - len)) * 24 := Nat.mul_le_mul_right _ (by omega)
      omega
end
end Go.Proofs.Ytmfidfaiopogbaa
