/- Opening a row of bytes where the whole is of small bulk. -/
import Derived.Test.YtmfidfaiopogbaaShOpn2
import Derived.Test.YtmfidfaiopogbaaRows
set_option linter.unusedVariables false
set_option linter.unusedSimpArgs false
set_option linter.unusedSectionVars false
set_option maxRecDepth 4000
namespace Go.Proofs.Ytmfidfaiopogbaa
open Go Go.Sh Go.ChangeShapes Go.WideShapes
section
variable {H : Type} {enc : TypeId × Value → H} {W : World} {spare : Nat → Bool} {held : Bool}
theorem bulk_one (d : DataW H) : 1 ≤ Rows.uptoBulk d := by
  cases d with
  | lit l => cases l <;> simp [Rows.uptoBulk]
  | nil => simp [Rows.uptoBulk]
  | ptr d => simp [Rows.uptoBulk]
  | slice elems spare => simp [Rows.uptoBulk]
  | agg parts => simp [Rows.uptoBulk]
  | iface t d => simp [Rows.uptoBulk]
  | map entries => simp [Rows.uptoBulk]
  | held h => simp [Rows.uptoBulk]
theorem bulk_len : ∀ l : List (DataW H), l.length ≤ Rows.uptoBulkAll l
  | [] => by simp [Rows.uptoBulkAll]
  | x :: r => by
    have := bulk_one x
    have := bulk_len r
    simp only [Rows.uptoBulkAll, List.length_cons]; omega
theorem open_bytes_upto [Av] {fuel : Nat} {cs : List Value} {x : DataW H × List MemPlace} (h : DataW.trod enc Try.prog W 0 spare held fuel 36 cs = some x) (hk : Rows.uptoSmall H ([x.1] ++ []) = true) :
    ∃ (a : Option Addr) (n c : Nat) (l : Bs), cs = [.slice a n c] ∧ Rd W 0 1 a n c (bvs l) ∧ n ≤ 1048576 := by
  have hb : Rows.uptoBulkAll ([x.1] ++ []) ≤ 1048576 := of_decide_eq_true hk
  simp only [List.append_nil, Rows.uptoBulkAll, Nat.add_zero] at hb
  rcases open_ints Try.underlying36 Try.underlying5 (by kernel_rfl) h with ⟨rfl, rfl⟩ | ⟨a, len, cap, zs, rfl, _, hl, hm, hz, rfl, hcell, hwf⟩
  · exact ⟨none, 0, 0, [], rfl, Rd.nil _ _ _, by omega⟩
  · have hlz : len ≤ zs.length := by rw [hz]; split <;> omega
    have hlen : (zs.take len).length = len := by rw [List.length_take]; omega
    have hll : (lits (H := H) .u8 (zs.take len)).length = len := by simp [lits]; omega
    have hbl := bulk_len (lits (H := H) .u8 (zs.take len))
    have hn : len ≤ 1048576 := by
      simp only [Rows.uptoBulk] at hb
      omega
    refine ⟨some a, len, cap, (zs.take len).map fun z => UInt8.ofNat z.toNat, rfl, ?_, hn⟩
    · refine Rd.of_cells (by simp; omega) hl hm fun i u hu => ?_
      simp only [bvs, List.getElem?_map, Option.map_eq_some_iff] at hu
      obtain ⟨z, ⟨z', hz', rfl⟩, rfl⟩ := hu
      have hi : i < len := by
        rw [List.getElem?_take] at hz'
        split at hz'
        · assumption
        · cases hz'
      have hzi : zs[i]? = some z' := by rw [List.getElem?_take, if_pos hi] at hz'; exact hz'
      have hcc := hcell i (by omega)
      rw [List.getD_eq_getElem?_getD, hzi] at hcc
      have hw := hwf z' (List.mem_of_getElem? hzi)
      simp only [Lit.wf, Bool.and_eq_true, decide_eq_true_eq, IntKind.min, IntKind.max] at hw
      have hw' : 0 ≤ z' ∧ z' ≤ 255 := by
        have := hw
        simp [IntKind.signed, IntKind.bits] at this
        omega
      rw [hcc]
      simp only [Option.getD_some, bv, Option.some.injEq, Value.int.injEq, true_and]
      rw [UInt8.toNat_ofNat']
      omega
end
end Go.Proofs.Ytmfidfaiopogbaa
