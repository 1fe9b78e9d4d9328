/- What LogPlays answers. -/
import Derived.Test.YtmfidfaiopogbaaShP14
import Derived.Test.YtmfidfaiopogbaaShP17
import Derived.Test.YtmfidfaiopogbaaShL18
set_option linter.unusedVariables false
set_option linter.unusedSimpArgs false
set_option linter.unusedSectionVars false
set_option maxRecDepth 4000
namespace Go.Proofs.Ytmfidfaiopogbaa
open Go Go.Sh Go.ChangeShapes Go.WideShapes
open Go.RowKit (Below)
/-! ### The scripts -/
def ActsR (W : World) (s : Sv) : Prop := ∀ i, i < s.n → ∃ q, s.a = some q ∧ ∃ (k : Int) (o : Op) (t : Sv), W.cell? (q.add (i * 7)) = some (.int .i64 k) ∧ W.cell? ((q.add (i * 7)).add 1) = some (.int .i64 o.k) ∧ W.cell? ((q.add (i * 7)).add 2) = some (.int .i64 o.e) ∧ W.cell? ((q.add (i * 7)).add 3) = some (.int .i64 o.u) ∧
  W.cell? ((q.add (i * 7)).add 4) = some (.int .i64 o.v) ∧ W.cell? ((q.add (i * 7)).add 5) = some (.int .u32 o.b) ∧ W.cell? ((q.add (i * 7)).add 6) = some t.v ∧ o.fit ∧ OpsRd W t
theorem len7 {α : Type} : ∀ {l : List α}, l.length = 7 → ∃ a b c d e f g, l = [a, b, c, d, e, f, g]
  | [a, b, c, d, e, f, g], _ => ⟨a, b, c, d, e, f, g, rfl⟩
section
variable {H : Type} {enc : TypeId × Value → H} {W : World} {spare : Nat → Bool} {held : Bool}
theorem open_acts {fuel : Nat} {cs : List Value} {x : DataW H × List MemPlace} (h : DataW.trod enc Try.prog W 0 spare held fuel 96 cs = some x) (hf : Fit Try.prog 96 x.1) : ∃ s : Sv, cs = [s.v] ∧ ActsR W s := by
  have hc7 : Try.prog.cellsOf 98 = 7 := by kernel_rfl
  have c3 : Try.prog.cellsOf 3 = 1 := by kernel_rfl
  have c57 : Try.prog.cellsOf 57 = 5 := by kernel_rfl
  have c64 : Try.prog.cellsOf 64 = 1 := by kernel_rfl
  rcases Deep.open_slice Try.underlying96 h with ⟨rfl, rfl⟩ | ⟨a, len, cap, m, n, D, Pl, rfl, _, hl, hm, hmm, rfl, hel⟩
  · exact ⟨⟨none, 0, 0⟩, rfl, fun i hi => absurd hi (by simp)⟩
  · have hfit := Fit.slice Try.underlying96 hf
    refine ⟨⟨some a, len, cap⟩, rfl, fun i hi' => ⟨a, rfl, ?_⟩⟩
    have hi : i < len := hi'
    have him : i < m := by rw [hmm]; split <;> omega
    obtain ⟨cs', hcs, htr⟩ := hel i him
    rw [hc7] at hcs
    have hfi : Fit Try.prog 98 (D i) := hfit.2 _ (List.mem_map.2 ⟨i, List.mem_range.2 hi, rfl⟩)
    obtain ⟨xs, n', _, hx, hlen, hxl, hff⟩ := DataW.trod_struct Try.underlying98 htr
    rw [hc7] at hlen
    have hcell : ∀ j u, j < 7 → cs'[j]? = some u → W.cell? ((a.add (i * 7)).add j) = some u := by
      intro j u hj hu
      unfold World.cells? at hcs
      split at hcs
      · have := mapM_some_get hcs j j (by simp [hj])
        rw [this]; exact hu
      · cases hcs
    have hD : D i = .agg (xs.map (·.1)) := (Prod.mk.inj hx).1
    rw [hD] at hfi
    obtain ⟨v0, v1, v2, v3, v4, v5, v6, rfl⟩ := len7 hlen
    have t0 : DataW.trod enc Try.prog W 0 spare held n' 3 [v0] = xs[0]? := by
      have := hff 0 ⟨"Kind", 3, 0, false, "", "", 0⟩ rfl
      dsimp only at this
      rw [c3] at this
      exact this
    have t1 : DataW.trod enc Try.prog W 0 spare held n' 57 [v1, v2, v3, v4, v5] = xs[1]? := by
      have := hff 1 ⟨"Op", 57, 1, false, "", "", 8⟩ rfl
      dsimp only at this
      rw [c57] at this
      exact this
    have t2 : DataW.trod enc Try.prog W 0 spare held n' 64 [v6] = xs[2]? := by
      have := hff 2 ⟨"Ops", 64, 6, false, "", "", 48⟩ rfl
      dsimp only at this
      rw [c64] at this
      exact this
    have hl3 : xs.length = 3 := hxl
    have e2 : ∃ y2, xs[2]? = some y2 := ⟨_, List.getElem?_eq_getElem (by omega)⟩
    obtain ⟨y2, e2⟩ := e2
    rw [List.getElem?_eq_getElem (by omega)] at t0 t1
    rw [e2] at t2
    obtain ⟨k, hk, _, _⟩ := DataW.trod_int Try.underlying3 t0
    obtain ⟨o, ho, hof⟩ := open_opc t1
    have hf2 : Fit Try.prog 64 y2.1 := Fit.struct Try.underlying98 hfi (i := 2) rfl (by simp [e2])
    obtain ⟨t, ht, hops⟩ := open_opl t2 hf2
    cases hk
    simp only [List.cons.injEq, and_true] at ho ht
    obtain ⟨rfl, rfl, rfl, rfl, rfl⟩ := ho
    subst ht
    refine ⟨k, o, t, ?_, hcell 1 _ (by omega) rfl, hcell 2 _ (by omega) rfl, hcell 3 _ (by omega) rfl, hcell 4 _ (by omega) rfl, hcell 5 _ (by omega) rfl, hcell 6 _ (by omega) rfl, hof, hops⟩
    have := hcell 0 _ (by omega) rfl
    rwa [addZ] at this
end
theorem now_one {x : A} {s : Fs} (h : x.rest = [s]) : x.now = s := by unfold A.now; rw [h]; rfl
/-! ### A tidy log -/
theorem openC_tidy {s : Fs} (h : openC s = []) : (scan (s.get (nmF s.a))).2 = (s.get (nmF s.a)).length ∧ s.get (3 - nmF s.a) = [] ∧ tidyW s.a = true := by
  unfold openC at h
  have hsc := (scan_is _ (s.get (nmF s.a)) (Nat.le_refl _)).2.2.1
  obtain ⟨h1, h2⟩ := List.append_eq_nil_iff.1 h
  obtain ⟨h2, h3⟩ := List.append_eq_nil_iff.1 h2
  refine ⟨?_, ?_, ?_⟩
  · split at h1
    · cases h1
    · omega
  · split at h2
    · cases h2
    · exact List.eq_nil_of_length_eq_zero (by omega)
  · split at h3
    · assumption
    · cases h3
theorem tidyW_len {l : Bs} (h : tidyW l = true) : l.length ≤ 1 := by
  unfold tidyW at h
  simp only [Bool.or_eq_true, decide_eq_true_eq] at h
  rcases h with rfl | rfl | rfl <;> simp
structure LPi (x : A) (n : Nat) (dd : Bool) : Prop where
  un : x.armed = false
  dd_ : dd = false
  tid : openC x.now = []
  len : n = (x.now.get (nmF x.now.a)).length
  small : n ≤ 32768
theorem LPi.held {x : A} {n : Nat} {dd : Bool} (h : LPi x n dd) : ∃ G, Pl G ∧ x.now.get (nmF x.now.a) = recs G ∧ (scan (x.now.get (nmF x.now.a))).1 = G := by
  obtain ⟨h1, h2, h3⟩ := openC_tidy h.tid
  obtain ⟨q1, q2, _, _⟩ := scan_is _ (x.now.get (nmF x.now.a)) (Nat.le_refl _)
  rw [h1, List.take_length] at q2
  exact ⟨_, q1, q2, rfl⟩
theorem scan_full {G : List Op} (h : Pl G) : (scan (recs G)).2 = (recs G).length := by
  have := scan_recs h []
  rw [List.append_nil, scan_nil, List.append_nil, Nat.add_zero] at this
  rw [this]
theorem LPi.sync {x : A} {n : Nat} {dd : Bool} (h : LPi x n dd) : (lgRun dd x x.Sync).2.2 = 0 ∧ LPi (lgRun dd x x.Sync).1 n (lgRun dd x x.Sync).2.1 ∧ (lgRun dd x x.Sync).1.now = x.now ∧ (lgRun dd x x.Sync).1.rest = [] := by
  obtain ⟨h1, rfl, h3, h4, h5⟩ := h
  have hS : x.Sync = ({ x.stepped with first := x.now, rest := [] }, 0) := by rw [A.Sync_ok, if_neg (by rw [A.dead_un h1]; simp)]
  rw [lgRun_f, hS, if_pos rfl]
  have hn : ({ x.stepped with first := x.now, rest := [] } : A).now = x.now := rfl
  exact ⟨rfl, ⟨h1, rfl, by rw [hn]; exact h3, by rw [hn]; exact h4, h5⟩, rfl, rfl⟩
theorem LPi.app {x : A} {n : Nat} {dd : Bool} (h : LPi x n dd) {o : Op} (ho : o.fit) : (appM x (nmF x.now.a) n dd o).2.2.2 = (x.now.app o).2 ∧ (appM x (nmF x.now.a) n dd o).1.now = (x.now.app o).1 ∧ LPi (appM x (nmF x.now.a) n dd o).1 (appM x (nmF x.now.a) n dd o).2.1 (appM x (nmF x.now.a) n dd o).2.2.1 ∧
    (appM x (nmF x.now.a) n dd o).1.rest.length ≤ x.rest.length + 22 ∧ nmF (appM x (nmF x.now.a) n dd o).1.now.a = nmF x.now.a ∧ roomM n o = ((x.now.app o).2 == 0) := by
  obtain ⟨G, hG, hget, _⟩ := h.held
  obtain ⟨t1, t2, t3⟩ := openC_tidy h.tid
  have hf := nmF_two x.now.a
  have h0 := h
  obtain ⟨h1, rfl, h3, h4, h5⟩ := h
  cases hp : plain o with
  | none =>
    have e1 : appM x (nmF x.now.a) n false o = (x, n, false, 190) := by simp only [appM, (enc_plain o).2 hp]
    have e2 : x.now.app o = (x.now, 190) := by simp only [Fs.app, hp]
    rw [e1, e2]
    refine ⟨rfl, rfl, h0, by simp, rfl, ?_⟩
    simp [roomM, (enc_plain o).2 hp]
  | some y =>
    have he := enc_of hp
    have hyp := (enc_plain o).1 y hp
    have her := er_len hyp.2.2.2
    have hyf : y.fit := @plain_fit noAv _ _ ho hp
    have e2 : x.now.app o = if 32768 < (x.now.get (nmF x.now.a) ++ er y).length then (x.now, 181) else (x.now.set (nmF x.now.a) (x.now.get (nmF x.now.a) ++ er y), 0) := by simp only [Fs.app, hp]
    rw [List.length_append] at e2
    by_cases hbig : 32768 < n + (er y).length
    · have e1 : appM x (nmF x.now.a) n false o = (x, n, false, 181) := by simp only [appM, he]; rw [if_pos hbig]
      rw [if_pos (by omega)] at e2
      rw [e1, e2]
      refine ⟨rfl, rfl, h0, by simp, rfl, ?_⟩
      simp only [roomM, he]
      rw [decide_eq_false (by omega)]; rfl
    · rw [if_neg (by omega)] at e2
      have hpe := A.pieces_end (er y).length x (nmF x.now.a) (er y) (Nat.le_refl _) (by omega) (by omega)
      rw [← h4] at hpe
      obtain ⟨p1, p2, p3, p4, p5, p6, p7⟩ := hpe
      have z := p4 h1
      have e1 : appM x (nmF x.now.a) n false o = ((x.pieces (nmF x.now.a) n (er y)).1, n + (er y).length, false, 0) := by
        simp only [appM, he]; rw [if_neg hbig, lgRun_f, if_pos z]; rfl
      have hlen := A.pieces_len (er y).length x (nmF x.now.a) n (er y) (Nat.le_refl _)
      rw [e1, e2]
      have hnow := p3 z
      have ha : (x.now.set (nmF x.now.a) (x.now.get (nmF x.now.a) ++ er y)).a = x.now.a := set_a _ hf _
      refine ⟨rfl, hnow, ⟨by rw [p2]; exact h1, rfl, ?_, ?_, by simp only; omega⟩, by simp only; omega, ?_, ?_⟩
      · show openC (x.pieces (nmF x.now.a) n (er y)).1.now = []
        rw [hnow]
        have hpl : Pl (G ++ [y]) := fun q hq => by
          rcases List.mem_append.1 hq with hq | hq
          · exact hG q hq
          · rw [List.mem_singleton.1 hq]; exact ⟨hyf, hyp.2.2.2⟩
        have hr : x.now.get (nmF x.now.a) ++ er y = recs (G ++ [y]) := by rw [hget, recs_append]; simp [recs]
        refine openC_nil ?_ ?_ (by rw [ha]; exact t3)
        · rw [ha, Fs.get_set _ (by omega), hr]
          exact scan_full hpl
        · rw [ha, Fs.get_set_ne _ (by omega) (by omega) (by omega)]; exact t2
      · show _ = ((x.pieces (nmF x.now.a) n (er y)).1.now.get _).length
        rw [hnow, ha, Fs.get_set _ (by omega), List.length_append, ← h4]
      · show nmF (x.pieces (nmF x.now.a) n (er y)).1.now.a = _
        rw [hnow, ha]
      · simp only [roomM, he]
        rw [decide_eq_true (by omega)]; rfl
theorem rwS_eq (s : Fs) {f : Nat} (hf : f = 1 ∨ f = 2) (all : Bs) : (rwS s f all).set f [] = ((s.set f []).set (3 - f) all).set 0 [UInt8.ofNat (3 - f)] := by
  rcases hf with rfl | rfl <;> rfl
theorem LPi.rew {x : A} {n : Nat} {dd : Bool} (h : LPi x n dd) {os : List Op} (hfit : ∀ o ∈ os, o.fit) : (rewM x (nmF x.now.a) n dd os).2.2.2.2 = (x.now.rew os).2 ∧ (rewM x (nmF x.now.a) n dd os).1.now = (x.now.rew os).1 ∧ LPi (rewM x (nmF x.now.a) n dd os).1 (rewM x (nmF x.now.a) n dd os).2.2.1 (rewM x (nmF x.now.a) n dd os).2.2.2.1 ∧
    (rewM x (nmF x.now.a) n dd os).2.1 = nmF (rewM x (nmF x.now.a) n dd os).1.now.a ∧ (rewM x (nmF x.now.a) n dd os).1.rest.length ≤ x.rest.length + 1 ∧ ((x.now.rew os).2 = 0 → (rewM x (nmF x.now.a) n dd os).1.rest.length = 1) := by
  obtain ⟨t1, t2, t3⟩ := openC_tidy h.tid
  have hf := nmF_two x.now.a
  have h0 := h
  obtain ⟨h1, rfl, h3, h4, h5⟩ := h
  have hen := encs_plains os
  cases hp : plains os with
  | none =>
    rw [hp] at hen
    have e1 : rewM x (nmF x.now.a) n false os = (x, nmF x.now.a, n, false, 190) := by simp only [rewM, hen, Option.map_none]
    have e2 : x.now.rew os = (x.now, 190) := by simp only [Fs.rew, hp]
    rw [e1, e2]
    exact ⟨rfl, rfl, h0, rfl, by simp, fun h => by simp at h⟩
  | some ys =>
    rw [hp] at hen
    obtain ⟨hpl, _⟩ := plains_pl hfit hp
    have e2 : x.now.rew os = if 32768 < (recs ys).length then (x.now, 181) else (((x.now.set (nmF x.now.a) []).set (3 - nmF x.now.a) (recs ys)).set 0 [UInt8.ofNat (3 - nmF x.now.a)], 0) := by simp only [Fs.rew, hp]
    by_cases hbig : 32768 < (recs ys).length
    · have e1 : rewM x (nmF x.now.a) n false os = (x, nmF x.now.a, n, false, 181) := by
        simp only [rewM, hen, Option.map_some]; rw [if_pos hbig]
      rw [if_pos hbig] at e2
      rw [e1, e2]
      exact ⟨rfl, rfl, h0, rfl, by simp, fun h => by simp at h⟩
    · rw [if_neg hbig, ← rwS_eq _ hf] at e2
      obtain ⟨r1, r2, r3, r4, r5⟩ := rew_seq (all := recs ys) hf t2 (tidyW_len t3) (by omega)
      have z := r3 h1
      obtain ⟨r6, r7⟩ := r4 z
      have e1 : rewM x (nmF x.now.a) n false os = ((A.seq (rewG (nmF x.now.a) (recs ys)) x).1, 3 - nmF x.now.a, (recs ys).length, false, 0) := by
        simp only [rewM, hen, Option.map_some]
        rw [if_neg hbig, lgRun_f, if_pos z]
        rfl
      rw [e1, e2]
      have hnow : (A.seq (rewG (nmF x.now.a) (recs ys)) x).1.now = (rwS x.now (nmF x.now.a) (recs ys)).set (nmF x.now.a) [] := by
        exact now_one r7
      obtain ⟨a1, a2, a3, a4, a5⟩ := rwS_a x.now hf (recs ys)
      have hw : nmF [UInt8.ofNat (3 - nmF x.now.a)] = 3 - nmF x.now.a := nmF_word (by omega)
      refine ⟨rfl, hnow, ⟨by rw [r2]; exact h1, rfl, ?_, ?_, by simp only; omega⟩, ?_, by simp only; rw [r7]; simp, fun _ => by simp only; rw [r7]; rfl⟩
      · show openC (A.seq (rewG (nmF x.now.a) (recs ys)) x).1.now = []
        rw [hnow]
        refine openC_nil ?_ ?_ ?_
        · rw [a2, hw, a4]; exact scan_full hpl
        · rw [a2, hw, show 3 - (3 - nmF x.now.a) = nmF x.now.a by omega]; exact a5
        · rw [a2]
          rcases hf with h | h <;> (rw [h]; rfl)
      · show _ = ((A.seq (rewG (nmF x.now.a) (recs ys)) x).1.now.get (nmF (A.seq (rewG (nmF x.now.a) (recs ys)) x).1.now.a)).length
        rw [hnow, a2, hw, a4]
      · show _ = nmF (A.seq (rewG (nmF x.now.a) (recs ys)) x).1.now.a
        rw [hnow, a2, hw]
end Go.Proofs.Ytmfidfaiopogbaa
