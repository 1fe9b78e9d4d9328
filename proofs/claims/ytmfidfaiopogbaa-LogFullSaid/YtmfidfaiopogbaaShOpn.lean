/- Opening an operation. -/
import Derived.Test.YtmfidfaiopogbaaShOps
import Derived.Test.YtmfidfaiopogbaaShRec
set_option linter.unusedVariables false
set_option linter.unusedSimpArgs false
set_option linter.unusedSectionVars false
set_option maxRecDepth 4000
namespace Go.Proofs.Ytmfidfaiopogbaa
open Go Go.Sh Go.ChangeShapes Go.WideShapes
section
variable {H : Type} {enc : TypeId × Value → H} {W : World} {spare : Nat → Bool} {held : Bool}
theorem len5 {α : Type} : ∀ {l : List α}, l.length = 5 → ∃ a b c d e, l = [a, b, c, d, e]
  | [a, b, c, d, e], _ => ⟨a, b, c, d, e, rfl⟩
theorem open_opc {fuel : Nat} {cs : List Value} {x : DataW H × List MemPlace} (h : DataW.trod enc Try.prog W 0 spare held fuel 57 cs = some x) : ∃ y : Op, cs = (opC y).toList ∧ y.fit := by
  have c57 : Try.prog.cellsOf 57 = 5 := by kernel_rfl
  have c54 : Try.prog.cellsOf 54 = 1 := by kernel_rfl
  have c3 : Try.prog.cellsOf 3 = 1 := by kernel_rfl
  have c55 : Try.prog.cellsOf 55 = 1 := by kernel_rfl
  obtain ⟨xs, n', _, hx, hlen, hxl, hff⟩ := DataW.trod_struct Try.underlying57 h
  rw [c57] at hlen
  obtain ⟨v0, v1, v2, v3, v4, rfl⟩ := len5 hlen
  have t0 : DataW.trod enc Try.prog W 0 spare held n' 54 [v0] = xs[0]? := by
    have := hff 0 ⟨"Kind", 54, 0, false, "", "", 0⟩ rfl
    dsimp only at this
    rw [c54] at this
    exact this
  have t1 : DataW.trod enc Try.prog W 0 spare held n' 3 [v1] = xs[1]? := by
    have := hff 1 ⟨"E", 3, 1, false, "", "", 8⟩ rfl
    dsimp only at this
    rw [c3] at this
    exact this
  have t2 : DataW.trod enc Try.prog W 0 spare held n' 3 [v2] = xs[2]? := by
    have := hff 2 ⟨"U", 3, 2, false, "", "", 16⟩ rfl
    dsimp only at this
    rw [c3] at this
    exact this
  have t3 : DataW.trod enc Try.prog W 0 spare held n' 3 [v3] = xs[3]? := by
    have := hff 3 ⟨"V", 3, 3, false, "", "", 24⟩ rfl
    dsimp only at this
    rw [c3] at this
    exact this
  have t4 : DataW.trod enc Try.prog W 0 spare held n' 55 [v4] = xs[4]? := by
    have := hff 4 ⟨"Bits", 55, 4, false, "", "", 32⟩ rfl
    dsimp only at this
    rw [c55] at this
    exact this
  have hl : xs.length = 5 := hxl
  rw [List.getElem?_eq_getElem (by omega)] at t0 t1 t2 t3 t4
  obtain ⟨k, hk, _, w0⟩ := DataW.trod_int Try.underlying54 t0
  obtain ⟨e, he, _, w1⟩ := DataW.trod_int Try.underlying3 t1
  obtain ⟨u, hu, _, w2⟩ := DataW.trod_int Try.underlying3 t2
  obtain ⟨v, hv, _, w3⟩ := DataW.trod_int Try.underlying3 t3
  obtain ⟨b, hb, _, w4⟩ := DataW.trod_int Try.underlying55 t4
  cases hk; cases he; cases hu; cases hv; cases hb
  refine ⟨⟨k, e, u, v, b⟩, rfl, i64_bounds w0, i64_bounds w1, i64_bounds w2, i64_bounds w3, ?_⟩
  simp only [Lit.wf, Bool.and_eq_true, decide_eq_true_eq] at w4
  simp [IntKind.min, IntKind.max, IntKind.signed, IntKind.bits] at w4
  show 0 ≤ b ∧ b < 4294967296
  omega
theorem open_op {r : Reach} {b0 : Nat} {v : Value} {d : DataW H} {ps : List MemPlace} (hval : Value.okWide Try.prog W r b0 57 v) (hd : DataW.Trod enc Try.prog W 0 spare held 57 v d ps) (_hf : True) : ∃ y : Op, v = opV y ∧ y.fit := by
  simp only [Value.okWide, Try.underlying57] at hval
  obtain ⟨cs, rfl, _, _⟩ := hval
  obtain ⟨fuel, hf⟩ := hd
  obtain ⟨y, hy, hfit⟩ := open_opc hf
  refine ⟨y, ?_, hfit⟩
  have : cs.toList = (opC y).toList := hy
  rw [show cs = opC y from Array.toList_inj.1 this]
end
end Go.Proofs.Ytmfidfaiopogbaa
