/- Opening an argument: bytes, a script of calls. Over any program. -/
import Derived.Test.YtmfidfaiopogbaaShLib
import Derived.Deep.Slices
import Derived.SizedLaws
import Derived.ChangeArms
import Derived.DataReads
set_option linter.unusedVariables false
set_option linter.unusedSectionVars false
set_option linter.unusedSimpArgs false
namespace Go.Sh
variable [Av]
open Go.ChangeShapes Go.WideShapes

section
variable {H : Type} {enc : TypeId × Value → H} {P : Program} {W : World} {spare : Nat → Bool} {held : Bool}

/-- No list in it is greater than what is reached. -/
def Fit (P : Program) (t : TypeId) (d : DataW H) : Prop := ∀ n, n ∈ DataW.weights P t d → n ≤ reachBytes
omit [Av] in
theorem Fit.arg {ts : List TypeId} {ds : List (DataW H)} (h : (DataW.weightsEach P ts ds).all (· ≤ reachBytes) = true) {j : Nat} {t : TypeId} {d : DataW H} (ht : ts[j]? = some t) (hd : ds[j]? = some d) : Fit P t d := fun n hn => by
  have := List.all_eq_true.1 h _ (DataW.weights_mem_each ht hd n hn)
  simpa using this
omit [Av] in
theorem weights_mem_all {e : TypeId} : ∀ {l : List (DataW H)} {d : DataW H}, d ∈ l → ∀ n, n ∈ DataW.weights P e d → n ∈ DataW.weightsAll P e l
  | d0 :: r, d, hd, n, hn => by
    simp only [DataW.weightsAll, List.mem_append]
    rcases List.mem_cons.1 hd with rfl | h
    · exact .inl hn
    · exact .inr (weights_mem_all h n hn)
omit [Av] in
theorem Fit.slice {t e : TypeId} (ht : P.underlying t = some (.slice e)) {el sp : List (DataW H)} (h : Fit P t (.slice el sp)) : (el.length + sp.length) * P.bytesOf e ≤ reachBytes ∧ ∀ d, d ∈ el → Fit P e d := by
  refine ⟨h _ (by simp [DataW.weights, ht]), fun d hd n hn => h n ?_⟩
  simp only [DataW.weights, ht, List.mem_cons, List.mem_append]
  exact .inr (.inl (weights_mem_all hd n hn))
omit [Av] in
theorem Fit.struct {t : TypeId} {fs : Array Field} (ht : P.underlying t = some (.struct fs)) {parts : List (DataW H)} (h : Fit P t (.agg parts)) {i : Nat} {f : Field} {d : DataW H} (hf : fs[i]? = some f) (hd : parts[i]? = some d) : Fit P f.type d := fun n hn => by
  refine h n ?_
  simp only [DataW.weights, ht]
  exact DataW.weights_mem_each (by simp [hf]) hd n hn

omit [Av] in
theorem cell_lt {w : World} {a : Addr} {v : Value} (h : w.cell? a = some v) : a.block < w.heap.size := by
  rcases Nat.lt_or_ge a.block w.heap.size with h' | h'
  · exact h'
  · simp [World.cell?, Array.getElem?_eq_none h'] at h
omit [Av] in
theorem add_block (a : Addr) (i : Nat) : (a.add i).block = a.block := by unfold Addr.add; split <;> rfl
/-- Cells that stand in a row: what they are read from. -/
theorem Rd.of_cells {a : Addr} {n c : Nat} {cs : List Value} (hl : cs.length = n) (hc : n ≤ c) (hm : c ≤ maxLen) (h : ∀ i u, cs[i]? = some u → W.cell? (a.add i) = some u) : Rd W 0 1 (some a) n c cs := by
  refine ⟨by omega, hc, hm, fun hn => ?_⟩
  have h0 := h 0 _ (List.getElem?_eq_getElem (by omega))
  rw [addZ] at h0
  obtain ⟨b, o, s⟩ := a
  cases hb : W.heap[b]? with
  | none => simp [World.cell?, hb] at h0
  | some ob =>
    cases ob with
    | cells arr e fr =>
      have hs : s = none := by
        cases s with
        | none => rfl
        | some z => simp [World.cell?, hb] at h0
      subst hs
      refine ⟨b, o, arr, fr, rfl, ⟨e, .inl rfl, hb⟩, fun j u hu => ?_⟩
      have := h j u hu
      rw [addP] at this
      simpa [World.cell?, hb] using this
    | _ => simp [World.cell?, hb] at h0

/-- A slice of bytes. -/
theorem open_bytes {t e : TypeId} {fuel : Nat} {cs : List Value} {x : DataW H × List MemPlace} (ht : P.underlying t = some (.slice e)) (he : P.underlying e = some (.int .u8)) (hc : P.cellsOf e = 1) (hby : P.bytesOf e = 1)
    (h : DataW.trod enc P W 0 spare held fuel t cs = some x) (hf : Fit P t x.1) :
    ∃ (a : Option Addr) (n c : Nat) (l : Bs), cs = [.slice a n c] ∧ Rd W 0 1 a n c (bvs l) ∧ (0 < n → ∀ y, OB a y → y < W.heap.size) ∧ n ≤ 140737488355328 := by
  rcases open_ints ht he hc h with ⟨rfl, rfl⟩ | ⟨a, len, cap, zs, rfl, _, hl, hm, hz, rfl, hcell, hwf⟩
  · exact ⟨none, 0, 0, [], rfl, Rd.nil _ _ _, fun h => absurd h (by omega), by omega⟩
  · have hsz := (Fit.slice ht hf).1
    have hrb : reachBytes < 2 ^ 47 := reachBytes_lt
    have hlz : len ≤ zs.length := by rw [hz]; split <;> omega
    have hlen : (zs.take len).length = len := by rw [List.length_take]; omega
    have hll : (lits (H := H) .u8 (zs.take len)).length = len := by simp [lits]; omega
    rw [hby, Nat.mul_one] at hsz
    refine ⟨some a, len, cap, (zs.take len).map fun z => UInt8.ofNat z.toNat, rfl, ?_, ?_, by omega⟩
    · refine Rd.of_cells (by simp; omega) hl hm fun i u hu => ?_
      simp only [bvs, List.getElem?_map, Option.map_eq_some_iff] at hu
      obtain ⟨z, ⟨z', hz', rfl⟩, rfl⟩ := hu
      have hi : i < len := by
        rw [List.getElem?_take] at hz'
        split at hz'
        · assumption
        · cases hz'
      have hzi : zs[i]? = some z' := by rw [List.getElem?_take, if_pos hi] at hz'; exact hz'
      have hcc := hcell i (by omega)
      rw [List.getD_eq_getElem?_getD, hzi] at hcc
      have hw := hwf z' (List.mem_of_getElem? hzi)
      simp only [Lit.wf, Bool.and_eq_true, decide_eq_true_eq, IntKind.min, IntKind.max] at hw
      have hw' : 0 ≤ z' ∧ z' ≤ 255 := by
        have := hw
        simp [IntKind.signed, IntKind.bits] at this
        omega
      rw [hcc]
      simp only [Option.getD_some, bv, Option.some.injEq, Value.int.injEq, true_and]
      rw [UInt8.toNat_ofNat']
      omega
    · intro hn y hy
      obtain ⟨z, hz', rfl⟩ := hy
      cases hz'
      exact cell_lt (by have := hcell 0 (by omega); rwa [addZ] at this)
end
end Go.Sh
