/- The arguments, opened. -/
import Derived.Test.YtmkgnbcpcfojfaaCwZ2
import Derived.Test.YtmkgnbcpcfojfaaRows
import Derived.WalkKit
import Derived.ProofKit
import Derived.OpenShut
import Derived.ShutString
import Derived.ChangeOld
import Derived.Below
import Derived.Carry
import Derived.SizedLaws
import Derived.ChangeSlices
import Derived.Conc.LeavingOf
import Derived.Conc.Holds
set_option linter.unusedVariables false
set_option linter.unusedSimpArgs false
set_option maxRecDepth 10000
namespace Go.Proofs.Ytmkgnbcpcfojfaa
open Go Go.Cv Go.Conc Go.ConcN Go.ChangeShapes Go.WideShapes Go.ChangeAt Go.RowKit

/-- Can anything in a row of this type be read as such? -/
def mayFit (p : Program) (fits : TypeId → Bool) : Nat → TypeId → Bool
  | 0, _ => false
  | d + 1, e => fits e || (match p.underlying e with
      | some (.struct fs) => fs.any fun f => mayFit p fits d f.type
      | some (.array _ e') => mayFit p fits d e'
      | _ => false)
theorem rowAt_may {p : Program} {fits : TypeId → Bool} : ∀ (d : Nat) (e : TypeId) (count off n : Nat), rowAt p fits d e count off n = true → mayFit p fits d e = true
  | 0, _, _, _, _, h => by simp [rowAt] at h
  | d + 1, e, count, off, n, h => by
    unfold rowAt at h
    unfold mayFit
    simp only at h
    split at h
    · cases h
    simp only [Bool.or_eq_true, Bool.and_eq_true] at h ⊢
    rcases h with h | ⟨_, h⟩
    · exact .inl h.2
    right
    split at h
    · rename_i hu
      rw [hu]
      simp only [Bool.and_eq_true, Array.any_eq_true] at h ⊢
      obtain ⟨_, i, hi, hx⟩ := h
      exact ⟨i, hi, rowAt_may d _ _ _ _ hx.2⟩
    · rename_i hu
      rw [hu]
      exact rowAt_may d _ _ _ _ h
    · cases h
theorem may58 : mayFit Try.prog (sameLayout Try.prog Try.prog.depth · 3) Try.prog.depth 58 = false := by kernel_rfl
theorem dep1 : ∃ d, Try.prog.depth = d + 1 := by
  have h : (match Try.prog.depth with | 0 => false | _ + 1 => true) = true := by kernel_rfl
  cases hd : Try.prog.depth with
  | zero => rw [hd] at h; cases h
  | succ d => exact ⟨d, rfl⟩
theorem lies3 {row : TypeId} {count off n : Nat} (h : liesAt Try.prog Try.prog.depth row count off 3 n = true) : row ≠ 58 := by
  rintro rfl
  obtain ⟨d, hd⟩ := dep1
  have h' : liesAt Try.prog (d + 1) 58 count off 3 n = true := by rw [← hd]; exact h
  unfold liesAt at h'
  rw [Try.underlying3] at h'
  simp only [Bool.or_false] at h'
  have := rowAt_may _ _ _ _ _ h'
  rw [may58] at this; cases this
theorem cells3 : Try.prog.cellsOf 3 = 1 := by kernel_rfl
theorem laidOut6 : laidOutB Try.prog = true := by kernel_rfl
theorem own6 : ownKnob Try.prog.godebug = none := by kernel_rfl
theorem depthOf (P : Program) : True := trivial

theorem open_jobs {H : Type} {enc : TypeId × Value → H} {W : World} {base fuel : Nat} {a0 : Option Addr} {len cap : Nat} {x : DataW H × List MemPlace} (hv : Value.okWide Try.prog W .any base 22 (.slice a0 len cap))
    (h : DataW.trod enc Try.prog W 0 (fun _ => true) true fuel 22 (Value.slice a0 len cap).cells.toList = some x) : len ≤ cap ∧ ∃ A : Nat → Int, Rd (virt 58 W) a0 len fun i => .int .i64 (A i) := by
  rcases open_ints Try.underlying22 Try.underlying3 cells3 h with ⟨hcs, _⟩ | ⟨a, len', cap', zs, hcs, _, hl, hm, hz, hx, hcell, hwz⟩
  · simp [Value.cells] at hcs
    obtain ⟨rfl, rfl, rfl⟩ := hcs
    exact ⟨Nat.le_refl _, fun _ => 0, fun i hi => absurd hi (by omega)⟩
  · simp [Value.cells] at hcs
    obtain ⟨rfl, rfl, rfl⟩ := hcs
    refine ⟨hl, fun i => zs.getD i 0, fun i hi => ⟨a, rfl, ?_⟩⟩
    have hc := hcell i (by simp only [if_true] at hz; omega)
    have hok : W.has Try.prog .any base a 3 cap := by
      simp only [Value.okWide, und22, Cell.okWide, Cell.ok] at hv
      exact hv.2.2
    obtain ⟨_, _, row, cells, hs, hlies⟩ := hok
    have hne := lies3 hlies
    unfold World.shape? at hs
    split at hs
    · rename_i c el fr hb
      simp only [Option.some.injEq, Prod.mk.injEq] at hs
      obtain ⟨rfl, _⟩ := hs
      exact virt_cell (by rw [add_block]; exact hb) hne hc
    · cases hs

theorem st40 : (match Try.prog.underlying 40 with | some (.struct _) => true | _ => false) = true := by kernel_rfl
theorem ct40 : Try.prog.cellTypes Try.prog.depth 40 = some [3, 3, 3] := by kernel_rfl
theorem co40 : Try.prog.cellsOf 40 = 3 := by kernel_rfl
theorem open_hs {W : World} {base : Nat} {v : Value} (hv : Value.okWide Try.prog W .any base 40 v) : ∃ a b c : Int, v = .agg #[.int .i64 a, .int .i64 b, .int .i64 c] := by
  obtain ⟨cs, rfl, hsz, ts, hts, _, hrow⟩ : ∃ cs, v = .agg cs ∧ cs.size = Try.prog.cellsOf 40 ∧ Row.okWide Try.prog W .any base 40 cs := by
    unfold Value.okWide at hv
    have h := st40
    split at h
    · rename_i fs hu
      rw [hu] at hv; exact hv
    · cases h
  rw [ct40] at hts
  obtain rfl := Option.some.inj hts
  rw [co40] at hsz
  have one : ∀ i, i < 3 → ∃ n : Int, cs[i]? = some (.int .i64 n) := fun i hi => by
    have hlt : i < cs.size := by omega
    obtain ⟨u, hu, hc⟩ := hrow i _ (Array.getElem?_eq_getElem hlt)
    have hu3 : u = 3 := by
      have : i = 0 ∨ i = 1 ∨ i = 2 := by omega
      rcases this with rfl | rfl | rfl <;> simpa using hu.symm
    subst hu3
    rw [Array.getElem?_eq_getElem hlt]
    simp only [Cell.okWide, Try.underlying3, Cell.ok] at hc
    generalize cs[i] = z at hc ⊢
    cases z <;> simp_all
  obtain ⟨a, ha⟩ := one 0 (by omega)
  obtain ⟨b, hb⟩ := one 1 (by omega)
  obtain ⟨c, hc⟩ := one 2 (by omega)
  refine ⟨a, b, c, ?_⟩
  congr 1
  apply Array.ext_getElem?
  intro i
  rcases Nat.lt_or_ge i 3 with hi | hi
  · have : i = 0 ∨ i = 1 ∨ i = 2 := by omega
    rcases this with rfl | rfl | rfl
    · rw [ha]; rfl
    · rw [hb]; rfl
    · rw [hc]; rfl
  · rw [Array.getElem?_eq_none (by omega), Array.getElem?_eq_none (by simp; omega)]
end Go.Proofs.Ytmkgnbcpcfojfaa
