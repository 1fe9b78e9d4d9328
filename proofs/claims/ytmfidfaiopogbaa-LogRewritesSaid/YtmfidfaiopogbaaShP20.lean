/- What LogRewrites answers: its loops, and what is lost amid a Rewrite. -/
import Derived.Test.YtmfidfaiopogbaaShP17
import Derived.Test.YtmfidfaiopogbaaShL20
set_option linter.unusedVariables false
set_option linter.unusedSimpArgs false
set_option linter.unusedSectionVars false
set_option maxRecDepth 4000
namespace Go.Proofs.Ytmfidfaiopogbaa
open Go Go.Sh Go.ChangeShapes Go.WideShapes
open Go.RowKit (Below)
def OpsR0 (W : World) (s : Sv) : Prop := ∃ xs : List Op, @Rd noAv W 0 5 s.a s.n s.c (opl xs) ∧ ∀ x ∈ xs, x.fit
def TurnR (W : World) (s t u : Sv) (z : Int) : Prop := OpsR0 W s ∧ OpsR0 W t ∧ OpsR0 W u ∧ z ≤ 9223372036854775807
section
variable {H : Type} {enc : TypeId × Value → H} {W : World} {spare : Nat → Bool} {held : Bool}
theorem open_opl0 {fuel : Nat} {cs : List Value} {x : DataW H × List MemPlace} (h : DataW.trod enc Try.prog W 0 spare held fuel 64 cs = some x) : ∃ s : Sv, cs = [s.v] ∧ OpsR0 W s := by
  letI : Av := noAv
  have hc4 : Try.prog.cellsOf 57 = 5 := by kernel_rfl
  rcases Deep.open_slice Try.underlying64 h with ⟨rfl, rfl⟩ | ⟨a, len, cap, m, n, D, Pl, rfl, _, hl, hm, hmm, rfl, hel⟩
  · exact ⟨⟨none, 0, 0⟩, rfl, [], Rd.nil _ _ _, fun x hx => by simp at hx⟩
  · have hlm : len ≤ m := by rw [hmm]; split <;> omega
    have each : ∀ i, i < len → ∃ y : Op, y.fit ∧ ∀ j u, (opC y).toList[j]? = some u → W.cell? ((a.add (i * 5)).add j) = some u := by
      intro i hi
      obtain ⟨cs', hcs, htr⟩ := hel i (by omega)
      rw [hc4] at hcs
      obtain ⟨y, hy, hfit⟩ := open_opc htr
      refine ⟨y, hfit, fun j u hu => ?_⟩
      have hj : j < 5 := by
        obtain ⟨hj, _⟩ := List.getElem?_eq_some_iff.1 hu
        simpa using hj
      rw [← hy] at hu
      unfold World.cells? at hcs
      split at hcs
      · have := mapM_some_get hcs j j (by simp [hj])
        rw [this]; exact hu
      · cases hcs
    obtain ⟨xs, hxl, hxs⟩ := exists_list each
    refine ⟨⟨some a, len, cap⟩, rfl, xs, ?_, ?_⟩
    · refine Rd.of_cellsN (by omega) (by rw [opl_length, hxl]) hl hm fun i j u hj hu => ?_
      have hi : i < xs.length := by
        have := (List.getElem?_eq_some_iff.1 hu).1
        rw [opl_length] at this
        omega
      have hx := List.getElem?_eq_getElem hi
      refine (hxs i _ hx).2 j u ?_
      obtain ⟨e0, e1, e2, e3, e4⟩ := opl_at hx
      rw [← hu]
      match j, hj with
      | 0, _ => exact e0.symm
      | 1, _ => exact e1.symm
      | 2, _ => exact e2.symm
      | 3, _ => exact e3.symm
      | 4, _ => exact e4.symm
    · intro x hx
      obtain ⟨i, hi⟩ := List.getElem?_of_mem hx
      exact (hxs i x hi).1
theorem open_turn {r : Reach} {b0 : Nat} {v : Value} {d : DataW H} {ps : List MemPlace} (hval : Value.okWide Try.prog W r b0 105 v) (hd : DataW.Trod enc Try.prog W 0 spare held 105 v d ps) (_hf : True) :
    ∃ (s t u : Sv) (z : Int), v = .agg #[s.v, t.v, u.v, .int .i64 z] ∧ TurnR W s t u z := by
  simp only [Value.okWide, Try.underlying105] at hval
  obtain ⟨cs, rfl, _, _⟩ := hval
  obtain ⟨fuel, hf⟩ := hd
  have c105 : Try.prog.cellsOf 105 = 4 := by kernel_rfl
  have c64 : Try.prog.cellsOf 64 = 1 := by kernel_rfl
  have c3 : Try.prog.cellsOf 3 = 1 := by kernel_rfl
  obtain ⟨xs, n', _, hx, hlen, hxl, hff⟩ := DataW.trod_struct Try.underlying105 hf
  rw [c105] at hlen
  have hlen' : cs.toList.length = 4 := hlen
  obtain ⟨v0, v1, v2, v3, hcs⟩ := len4 hlen'
  have hcells : (Value.agg cs).cells.toList = [v0, v1, v2, v3] := hcs
  have t0 : DataW.trod enc Try.prog W 0 spare held n' 64 [v0] = xs[0]? := by
    have := hff 0 ⟨"First", 64, 0, false, "", "", 0⟩ rfl
    dsimp only at this
    rw [c64, hcells] at this
    exact this
  have t1 : DataW.trod enc Try.prog W 0 spare held n' 64 [v1] = xs[1]? := by
    have := hff 1 ⟨"More", 64, 1, false, "", "", 24⟩ rfl
    dsimp only at this
    rw [c64, hcells] at this
    exact this
  have t2 : DataW.trod enc Try.prog W 0 spare held n' 64 [v2] = xs[2]? := by
    have := hff 2 ⟨"New", 64, 2, false, "", "", 48⟩ rfl
    dsimp only at this
    rw [c64, hcells] at this
    exact this
  have t3 : DataW.trod enc Try.prog W 0 spare held n' 3 [v3] = xs[3]? := by
    have := hff 3 ⟨"Left", 3, 3, false, "", "", 72⟩ rfl
    dsimp only at this
    rw [c3, hcells] at this
    exact this
  have hl : xs.length = 4 := hxl
  rw [List.getElem?_eq_getElem (by omega)] at t0 t1 t2 t3
  obtain ⟨s, hs, hs2⟩ := open_opl0 t0
  obtain ⟨t, ht, ht2⟩ := open_opl0 t1
  obtain ⟨u, hu, hu2⟩ := open_opl0 t2
  obtain ⟨z, hz, _, wz⟩ := DataW.trod_int Try.underlying3 t3
  simp only [List.cons.injEq, and_true] at hs ht hu hz
  refine ⟨s, t, u, z, ?_, hs2, ht2, hu2, (i64_bounds wz).2⟩
  rw [← hs, ← ht, ← hu]
  have : cs = #[v0, v1, v2, v3] := Array.toList_inj.1 hcs
  rw [this]
  cases hz
  rfl
end
/-- What is opened of any state that is left amid a Rewrite: the old, or the new. -/
theorem rew_lost {x : A} {n : Nat} {F M N : List Op} (h : LI x n false [] (F ++ M) F.length false) (hN : Pl N) (hNl : (recs N).length ≤ 32768) :
    ((rewM x 1 n false N).2.2.2.2 = 0 ∨ ((rewM x 1 n false N).2.2.2.2 = 180 ∧ x.armed = true ∧ (rewM x 1 n false N).2.2.2.1 = true ∧ (rewM x 1 n false N).2.1 = 1 ∧ (rewM x 1 n false N).2.2.1 = n)) ∧
    (∀ s ∈ (rewM x 1 n false N).1.sts, (scan (s.get (nmF s.a))).1 = N ∨ ((rewM x 1 n false N).2.2.2.2 = 180 ∧ ∃ k, k ≤ M.length ∧ (scan (s.get (nmF s.a))).1 = F ++ M.take k)) ∧ (rewM x 1 n false N).1.rest.length ≤ x.rest.length + 165000 := by
  obtain ⟨hnowa, hnowc, _⟩ := h.sts _ (A.now_sts x)
  obtain ⟨_, _, hnowb⟩ := h.alive rfl
  rw [List.nil_append] at hnowb
  obtain ⟨r1, r2, r3, r4, r5⟩ := rew_seq (x := x) (f := 1) (all := recs N) (.inl rfl) hnowc (by rw [hnowa]; simp) (by omega)
  have hpl := h.pl
  rw [List.nil_append] at hpl
  -- old states
  have hold : ∀ s ∈ x.sts, ∃ k, k ≤ M.length ∧ (scan (s.get (nmF s.a))).1 = F ++ M.take k := by
    intro s hs
    obtain ⟨k, k1, k2, k3⟩ := h.lost s hs
    rw [List.length_append] at k2
    obtain ⟨j, rfl⟩ : ∃ j, k = F.length + j := ⟨k - F.length, by omega⟩
    rw [List.nil_append, List.take_length_add_append] at k3
    exact ⟨j, by omega, k3⟩
  have hcut : ∀ b : Bs, (scan ((x.now.set 2 b).get (nmF (x.now.set 2 b).a))).1 = F ++ M.take M.length := by
    intro b
    have e1 : (x.now.set 2 b).a = [] := hnowa
    rw [e1]
    show (scan x.now.b).1 = _
    rw [hnowb, List.take_length]
    have := scan_recs hpl []
    rw [List.append_nil, scan_nil, List.append_nil] at this
    rw [this]
  obtain ⟨a1, a2, a3, a4, a5⟩ := rwS_a x.now (f := 1) (.inl rfl) (recs N)
  have hw : nmF [UInt8.ofNat (3 - 1)] = 3 - 1 := nmF_word (.inr rfl)
  have hscN : (scan (recs N)).1 = N := by
    have := scan_recs hN []
    rw [List.append_nil, scan_nil, List.append_nil] at this
    rw [this]
  have hnew : ∀ s, s = rwS x.now 1 (recs N) ∨ s = (rwS x.now 1 (recs N)).set 1 [] → (scan (s.get (nmF s.a))).1 = N := by
    rintro s (rfl | rfl)
    · rw [a1, hw, a3]; exact hscN
    · rw [a2, hw, a4]; exact hscN
  have hlen : (A.seq (rewG 1 (recs N)) x).1.rest.length ≤ x.rest.length + 165000 := by
    rcases r1 with z | z
    · rw [(r4 z).2]; simp
    · have := A.seq_len (B := 33000) (gs := rewG 1 (recs N)) (x := x) (by
        intro g' hg' y'
        simp only [rewG, List.mem_cons, List.not_mem_nil, or_false] at hg'
        rcases hg' with rfl | rfl | rfl | rfl | rfl
        · have := A.pieces_len (recs N).length y' (3 - 1) 0 (recs N) (Nat.le_refl _)
          simp only; omega
        · have := A.Sync_len y'; omega
        · have := A.Write_len y' 0 0 [UInt8.ofNat (3 - 1)]; simp only; omega
        · have := A.Sync_len y'; omega
        · have := A.Cut_len y' ((1 : Nat) : Int) 0; simp only; omega)
      have e5 : (rewG 1 (recs N)).length = 5 := rfl
      rw [e5] at this
      omega
  by_cases z : (A.seq (rewG 1 (recs N)) x).2 = 0
  · have e : rewM x 1 n false N = ((A.seq (rewG 1 (recs N)) x).1, 3 - 1, (recs N).length, false, 0) := by
      simp only [rewM, encs_pl hN]
      rw [if_neg (by omega), lgRun_f, if_pos z]
      rfl
    rw [e]
    refine ⟨.inl rfl, fun s hs => .inl ?_, hlen⟩
    obtain ⟨s1, s2⟩ := r4 z
    have hs' : s = rwS x.now 1 (recs N) ∨ s = (rwS x.now 1 (recs N)).set 1 [] := by
      have : s ∈ (A.seq (rewG 1 (recs N)) x).1.sts := hs
      rw [A.sts, s1, s2] at this
      simpa using this
    exact hnew s hs'
  · have z180 : (A.seq (rewG 1 (recs N)) x).2 = 180 := r1.resolve_left z
    have e : rewM x 1 n false N = ((A.seq (rewG 1 (recs N)) x).1, 1, n, true, 180) := by
      simp only [rewM, encs_pl hN]
      rw [if_neg (by omega), lgRun_f, if_neg z, if_neg (by simp)]
    rw [e]
    have hA : x.armed = true := by
      cases ha : x.armed with
      | true => rfl
      | false => exact absurd (r3 ha) z
    refine ⟨.inr ⟨rfl, hA, rfl, rfl, rfl⟩, fun s hs => ?_, hlen⟩
    rcases r5 s hs with hs | ⟨k, _, rfl⟩ | hs
    · exact .inr ⟨rfl, hold s hs⟩
    · exact .inr ⟨rfl, M.length, Nat.le_refl _, hcut _⟩
    · exact .inl (hnew s hs)
end Go.Proofs.Ytmfidfaiopogbaa
