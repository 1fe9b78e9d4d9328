/- Opening a list of operations. -/
import Derived.Test.YtmfidfaiopogbaaShOpn
import Derived.Test.YtmfidfaiopogbaaShRScan
set_option linter.unusedVariables false
set_option linter.unusedSimpArgs false
set_option linter.unusedSectionVars false
set_option maxRecDepth 4000
namespace Go.Proofs.Ytmfidfaiopogbaa
open Go Go.Sh Go.ChangeShapes Go.WideShapes
theorem exists_list {α : Type} {P : Nat → α → Prop} : ∀ {n : Nat}, (∀ i, i < n → ∃ y, P i y) → ∃ l : List α, l.length = n ∧ ∀ i y, l[i]? = some y → P i y
  | 0, _ => ⟨[], rfl, fun i y h => by simp at h⟩
  | n + 1, h => by
    obtain ⟨l, hl, hp⟩ := exists_list (n := n) fun i hi => h i (by omega)
    obtain ⟨y, hy⟩ := h n (by omega)
    refine ⟨l ++ [y], by simp [hl], fun i z hz => ?_⟩
    rcases Nat.lt_or_ge i l.length with hlt | hge
    · rw [List.getElem?_append_left hlt] at hz; exact hp i z hz
    · have hi : i = n := by
        rcases Nat.lt_or_ge i (l.length + 1) with h' | h'
        · omega
        · rw [List.getElem?_eq_none (by simp; omega)] at hz; cases hz
      subst hi
      rw [List.getElem?_append_right hge, hl, Nat.sub_self] at hz
      cases hz
      exact hy
section
variable [Av]
theorem Rd.of_cellsN {W : World} {a : Addr} {n c sz : Nat} {cs : List Value} (hs : 0 < sz) (hl : cs.length = n * sz) (hc : n ≤ c) (hm : c ≤ maxLen) (h : ∀ i j u, j < sz → cs[i * sz + j]? = some u → W.cell? ((a.add (i * sz)).add j) = some u) : Rd W 0 sz (some a) n c cs := by
  refine ⟨hl, hc, hm, fun hn => ?_⟩
  have hpos : 0 < cs.length := by rw [hl]; exact Nat.mul_pos hn hs
  have h0 := h 0 0 _ hs (by rw [Nat.zero_mul]; exact List.getElem?_eq_getElem (show 0 + 0 < cs.length by omega))
  rw [Nat.zero_mul, addZ, addZ] at h0
  obtain ⟨b, o, s⟩ := a
  cases hb : W.heap[b]? with
  | none => simp [World.cell?, hb] at h0
  | some ob =>
    cases ob with
    | cells arr e fr =>
      have hs' : s = none := by
        cases s with
        | none => rfl
        | some z => simp [World.cell?, hb] at h0
      subst hs'
      refine ⟨b, o, arr, fr, rfl, ⟨e, .inl rfl, hb⟩, fun j u hu => ?_⟩
      have := h (j / sz) (j % sz) u (Nat.mod_lt _ hs) (by rw [Nat.div_add_mod']; exact hu)
      rw [addP, addP, Nat.add_assoc, Nat.div_add_mod'] at this
      simpa [World.cell?, hb] using this
    | _ => simp [World.cell?, hb] at h0
end
def OpsRd (W : World) (s : Sv) : Prop := ∃ xs : List Op, @Rd noAv W 0 5 s.a s.n s.c (opl xs) ∧ (∀ x ∈ xs, x.fit) ∧ s.n * 40 ≤ 140737488351232
section
variable {H : Type} {enc : TypeId × Value → H} {W : World} {spare : Nat → Bool} {held : Bool}
theorem open_opl {fuel : Nat} {cs : List Value} {x : DataW H × List MemPlace} (h : DataW.trod enc Try.prog W 0 spare held fuel 64 cs = some x) (hf : Fit Try.prog 64 x.1) :
    ∃ s : Sv, cs = [s.v] ∧ OpsRd W s := by
  letI : Av := noAv
  have hc4 : Try.prog.cellsOf 57 = 5 := by kernel_rfl
  have hb4 : Try.prog.bytesOf 57 = 40 := by kernel_rfl
  rcases Deep.open_slice Try.underlying64 h with ⟨rfl, rfl⟩ | ⟨a, len, cap, m, n, D, Pl, rfl, _, hl, hm, hmm, rfl, hel⟩
  · exact ⟨⟨none, 0, 0⟩, rfl, [], Rd.nil _ _ _, fun x hx => by simp at hx, by simp⟩
  · have hsz := (Fit.slice Try.underlying64 hf).1
    rw [hb4] at hsz
    have hlm : len ≤ m := by rw [hmm]; split <;> omega
    have each : ∀ i, i < len → ∃ y : Op, y.fit ∧ ∀ j u, (opC y).toList[j]? = some u → W.cell? ((a.add (i * 5)).add j) = some u := by
      intro i hi
      obtain ⟨cs', hcs, htr⟩ := hel i (by omega)
      rw [hc4] at hcs
      obtain ⟨y, hy, hfit⟩ := open_opc htr
      refine ⟨y, hfit, fun j u hu => ?_⟩
      have hj : j < 5 := by
        have := List.getElem?_eq_some_iff.1 hu
        obtain ⟨hj, _⟩ := this
        simpa using hj
      rw [← hy] at hu
      unfold World.cells? at hcs
      split at hcs
      · have := mapM_some_get hcs j j (by simp [hj])
        rw [this]; exact hu
      · cases hcs
    obtain ⟨xs, hxl, hxs⟩ := exists_list each
    refine ⟨⟨some a, len, cap⟩, rfl, xs, ?_, ?_, ?_⟩
    · refine Rd.of_cellsN (by omega) (by rw [opl_length, hxl]) hl hm fun i j u hj hu => ?_
      have hi : i < xs.length := by
        have := (List.getElem?_eq_some_iff.1 hu).1
        rw [opl_length] at this
        omega
      have hx := List.getElem?_eq_getElem hi
      refine (hxs i _ hx).2 j u ?_
      obtain ⟨e0, e1, e2, e3, e4⟩ := opl_at hx
      rw [← hu]
      match j, hj with
      | 0, _ => exact e0.symm
      | 1, _ => exact e1.symm
      | 2, _ => exact e2.symm
      | 3, _ => exact e3.symm
      | 4, _ => exact e4.symm
    · intro x hx
      obtain ⟨i, hi⟩ := List.getElem?_of_mem hx
      exact (hxs i x hi).1
    · have e : (List.map (fun i => (D i)) (List.range len)).length = len := by simp
      have hrb : reachBytes = 140737488351232 := by decide
      rw [hrb] at hsz
      simp only [List.length_map, List.length_range] at hsz
      show len * 40 ≤ _
      omega
end
end Go.Proofs.Ytmfidfaiopogbaa
