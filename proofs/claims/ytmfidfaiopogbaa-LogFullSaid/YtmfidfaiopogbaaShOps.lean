/- Opening a script of disk calls. -/
import Derived.Test.YtmfidfaiopogbaaShOpen
import Derived.Test.YtmfidfaiopogbaaShBuilt
set_option linter.unusedVariables false
set_option linter.unusedSectionVars false
set_option linter.unusedSimpArgs false
set_option maxRecDepth 4000
namespace Go.Proofs.Ytmfidfaiopogbaa
open Go Go.Sh Go.ChangeShapes Go.WideShapes
variable [Av]

omit [Av] in
theorem len4 {α : Type} : ∀ {l : List α}, l.length = 4 → ∃ a b c d, l = [a, b, c, d]
  | [a, b, c, d], _ => ⟨a, b, c, d, rfl⟩
section
variable {H : Type} {enc : TypeId × Value → H} {W : World} {spare : Nat → Bool} {held : Bool}
omit [Av] in
theorem i64_bounds {n : Int} (h : (Lit.int .i64 n).wf = true) : -9223372036854775808 ≤ n ∧ n ≤ 9223372036854775807 := by
  simp only [Lit.wf, Bool.and_eq_true, decide_eq_true_eq] at h
  simpa [IntKind.min, IntKind.max, IntKind.signed, IntKind.bits] using h
theorem open_ops {fuel : Nat} {cs : List Value} {x : DataW H × List MemPlace} (h : DataW.trod enc Try.prog W 0 spare held fuel 22 cs = some x) (hf : Fit Try.prog 22 x.1) :
    ∃ s : Sv, cs = [s.v] ∧ OpsR W W.heap.size s := by
  have hc4 : Try.prog.cellsOf 38 = 4 := by kernel_rfl
  rcases Deep.open_slice Try.underlying22 h with ⟨rfl, rfl⟩ | ⟨a, len, cap, m, n, D, Pl, rfl, _, hl, hm, hmm, rfl, hel⟩
  · exact ⟨⟨none, 0, 0⟩, rfl, by simp [maxLen], fun i hi => absurd hi (by simp)⟩
  · have hfit := (Fit.slice Try.underlying22 hf).2
    refine ⟨⟨some a, len, cap⟩, rfl, by simp only; omega, fun i hi => ⟨a, rfl, ?_⟩⟩
    have hi' : i < len := hi
    have him : i < m := by rw [hmm]; split <;> omega
    obtain ⟨cs', hcs, htr⟩ := hel i him
    rw [hc4] at hcs
    have hfi : Fit Try.prog 38 (D i) := hfit _ (List.mem_map.2 ⟨i, List.mem_range.2 hi', rfl⟩)
    obtain ⟨xs, n', _, hx, hlen, hxl, hff⟩ := DataW.trod_struct Try.underlying38 htr
    rw [hc4] at hlen
    have hcell : ∀ j u, j < 4 → cs'[j]? = some u → W.cell? ((a.add (i * 4)).add j) = some u := by
      intro j u hj hu
      unfold World.cells? at hcs
      split at hcs
      · have := mapM_some_get hcs j j (by simp [hj])
        rw [this]; exact hu
      · cases hcs
    have hD : D i = .agg (xs.map (·.1)) := (Prod.mk.inj hx).1
    rw [hD] at hfi
    obtain ⟨v0, v1, v2, v3, rfl⟩ := len4 hlen
    have c3 : Try.prog.cellsOf 3 = 1 := by kernel_rfl
    have c36 : Try.prog.cellsOf 36 = 1 := by kernel_rfl
    have t0 : DataW.trod enc Try.prog W 0 spare held n' 3 [v0] = xs[0]? := by
      have := hff 0 ⟨"Kind", 3, 0, false, "", "", 0⟩ rfl
      dsimp only at this
      rw [c3] at this
      exact this
    have t1 : DataW.trod enc Try.prog W 0 spare held n' 3 [v1] = xs[1]? := by
      have := hff 1 ⟨"F", 3, 1, false, "", "", 8⟩ rfl
      dsimp only at this
      rw [c3] at this
      exact this
    have t2 : DataW.trod enc Try.prog W 0 spare held n' 3 [v2] = xs[2]? := by
      have := hff 2 ⟨"At", 3, 2, false, "", "", 16⟩ rfl
      dsimp only at this
      rw [c3] at this
      exact this
    have t3 : DataW.trod enc Try.prog W 0 spare held n' 36 [v3] = xs[3]? := by
      have := hff 3 ⟨"B", 36, 3, false, "", "", 24⟩ rfl
      dsimp only at this
      rw [c36] at this
      exact this
    have e0 : ∃ y0, xs[0]? = some y0 := ⟨_, List.getElem?_eq_getElem (by simp at hxl; omega)⟩
    have e1 : ∃ y1, xs[1]? = some y1 := ⟨_, List.getElem?_eq_getElem (by simp at hxl; omega)⟩
    have e2 : ∃ y2, xs[2]? = some y2 := ⟨_, List.getElem?_eq_getElem (by simp at hxl; omega)⟩
    have e3 : ∃ y3, xs[3]? = some y3 := ⟨_, List.getElem?_eq_getElem (by simp at hxl; omega)⟩
    obtain ⟨y0, e0⟩ := e0
    obtain ⟨y1, e1⟩ := e1
    obtain ⟨y2, e2⟩ := e2
    obtain ⟨y3, e3⟩ := e3
    rw [e0] at t0; rw [e1] at t1; rw [e2] at t2; rw [e3] at t3
    obtain ⟨k, hk, _, _⟩ := DataW.trod_int Try.underlying3 t0
    obtain ⟨f, hf', _, _⟩ := DataW.trod_int Try.underlying3 t1
    obtain ⟨at_, ha, _, hwa⟩ := DataW.trod_int Try.underlying3 t2
    have hf3 : Fit Try.prog 36 y3.1 := Fit.struct Try.underlying38 hfi (i := 3) rfl (by simp [e3])
    obtain ⟨ba, bn, bc, l, hb, hRd, hlow, hbn⟩ := open_bytes Try.underlying36 Try.underlying5 (by kernel_rfl) (by kernel_rfl) t3 hf3
    cases hk; cases hf'; cases ha; cases hb
    exact ⟨k, f, at_, ⟨ba, bn, bc⟩, l, by have := hcell 0 _ (by omega) rfl; rwa [addZ] at this, hcell 1 _ (by omega) rfl, hcell 2 _ (by omega) rfl, hcell 3 _ (by omega) rfl, hRd, hlow, (i64_bounds hwa).2, hbn⟩
end
end Go.Proofs.Ytmfidfaiopogbaa
