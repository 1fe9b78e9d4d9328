/- What the log's calls make of a disk: plain law. -/
import Derived.Test.YtmfidfaiopogbaaShLog
set_option linter.unusedVariables false
set_option linter.unusedSimpArgs false
set_option linter.unusedSectionVars false
set_option maxRecDepth 4000
namespace Go.Proofs.Ytmfidfaiopogbaa
open Go Go.Sh
def A.sts (x : A) : List Fs := x.first :: x.rest
theorem A.now_sts (x : A) : x.now ∈ x.sts := @A.now_mem x
theorem A.push_sts (x : A) (s : Fs) : (x.push s).sts = x.sts ++ [s] := by simp [A.push, A.sts, A.stepped]
theorem A.now_push (x : A) (s : Fs) : (x.push s).now = s := by simp [A.push, A.now, A.stepped]
theorem A.push_armed (x : A) (s : Fs) : (x.push s).armed = x.armed := rfl
theorem A.dead_un {x : A} (h : x.armed = false) : x.dead = false := by simp [A.dead, h]
theorem wrt_end (old l : Bs) : wrt old old.length l false = old ++ l := by
  unfold wrt
  rw [List.take_length]
  have : decide ((old ++ l).length < old.length) = false := decide_eq_false (by simp)
  rw [this]; rfl
theorem wrt_cut (old : Bs) (n : Nat) : wrt old n [] true = old.take n := by
  unfold wrt
  simp
/-- A cut of a file that is as long. -/
theorem A.Cut_ok {x : A} {f n : Nat} (hf : f < 3) (hn : n ≤ (x.now.get f).length) : x.Cut f n = (if x.dead = true then (x, 180) else (x.push (x.now.set f ((x.now.get f).take n)), 0)) := by
  unfold A.Cut
  have h1 : IsF x f n := ⟨by omega, by omega, by omega, by rw [Int.toNat_natCast]; omega⟩
  rw [if_pos h1, Int.toNat_natCast, Int.toNat_natCast]
  unfold A.raw1
  cases x.dead <;> simp [wrt_cut]
/-- Bytes behind a file's end. -/
theorem A.Write_end {x : A} {f : Nat} {l : Bs} (hf : f < 3) (hl : l.length ≤ 8) (hs : (x.now.get f).length + l.length ≤ 65536) : x.Write f ((x.now.get f).length : Nat) l = (if x.dead = true then (x, 180) else (x.push (x.now.set f (x.now.get f ++ l)), 0)) := by
  unfold A.Write
  have h1 : IsF x f ((x.now.get f).length : Nat) := ⟨by omega, by omega, by omega, by rw [Int.toNat_natCast]; omega⟩
  rw [if_pos h1, if_neg (by omega), if_neg (by rw [Int.toNat_natCast]; omega), Int.toNat_natCast, Int.toNat_natCast]
  unfold A.raw1
  cases x.dead <;> simp [wrt_end]
theorem A.Sync_ok (x : A) : x.Sync = if x.dead = true then (x, 180) else ({ x.stepped with first := x.now, rest := [] }, 0) := by
  unfold A.Sync; cases x.dead <;> rfl
theorem Fs.get_set (s : Fs) {f : Nat} (hf : f < 3) (l : Bs) : (s.set f l).get f = l := by
  match f, hf with
  | 0, _ => rfl
  | 1, _ => rfl
  | 2, _ => rfl
theorem Fs.get_set_ne (s : Fs) {f g : Nat} (hf : f < 3) (hg : g < 3) (h : f ≠ g) (l : Bs) : (s.set f l).get g = s.get g := by
  match f, g, hf, hg with
  | 0, 0, _, _ => exact absurd rfl h
  | 0, 1, _, _ => rfl
  | 0, 2, _, _ => rfl
  | 1, 0, _, _ => rfl
  | 1, 1, _, _ => exact absurd rfl h
  | 1, 2, _, _ => rfl
  | 2, 0, _, _ => rfl
  | 2, 1, _, _ => rfl
  | 2, 2, _, _ => exact absurd rfl h
theorem Fs.set_set (s : Fs) {f : Nat} (hf : f < 3) (l m : Bs) : (s.set f l).set f m = s.set f m := by
  match f, hf with
  | 0, _ => rfl
  | 1, _ => rfl
  | 2, _ => rfl
theorem Fs.set_get (s : Fs) {f : Nat} (hf : f < 3) : s.set f (s.get f) = s := by
  match f, hf with
  | 0, _ => rfl
  | 1, _ => rfl
  | 2, _ => rfl
/-- Pieces behind a file's end: each state has a beginning of them more. -/
theorem A.pieces_end : ∀ (m : Nat) (x : A) (f : Nat) (l : Bs), l.length ≤ m → f < 3 → (x.now.get f).length + l.length ≤ 65536 →
    ((x.pieces f (x.now.get f).length l).2 = 0 ∨ (x.pieces f (x.now.get f).length l).2 = 180) ∧ (x.pieces f (x.now.get f).length l).1.armed = x.armed ∧
    ((x.pieces f (x.now.get f).length l).2 = 0 → (x.pieces f (x.now.get f).length l).1.now = x.now.set f (x.now.get f ++ l)) ∧ (x.armed = false → (x.pieces f (x.now.get f).length l).2 = 0) ∧
    (∀ s ∈ (x.pieces f (x.now.get f).length l).1.sts, s ∈ x.sts ∨ ∃ k, k ≤ l.length ∧ s = x.now.set f (x.now.get f ++ l.take k)) ∧ (∀ s ∈ x.sts, s ∈ (x.pieces f (x.now.get f).length l).1.sts) ∧ (x.pieces f (x.now.get f).length l).1.first = x.first := by
  intro m
  induction m with
  | zero =>
    intro x f l hl hf hs
    have : l = [] := List.eq_nil_of_length_eq_zero (by omega)
    subst this
    rw [A.pieces_nil]
    exact ⟨.inl rfl, rfl, fun _ => by simp [Fs.set_get _ hf], fun _ => rfl, fun s h => .inl h, fun s h => h, rfl⟩
  | succ m ih =>
    intro x f l hl hf hs
    by_cases hne : l = []
    · subst hne
      rw [A.pieces_nil]
      exact ⟨.inl rfl, rfl, fun _ => by simp [Fs.set_get _ hf], fun _ => rfl, fun s h => .inl h, fun s h => h, rfl⟩
    have hpos : 0 < l.length := List.length_pos_iff.2 hne
    have h8 : (l.take 8).length ≤ 8 := by rw [List.length_take]; omega
    have hW := A.Write_end (x := x) hf h8 (by rw [List.length_take]; omega)
    by_cases hd : x.dead = true
    · rw [if_pos hd] at hW
      rw [A.pieces_bad hne (by rw [hW]; simp), hW]
      refine ⟨.inr rfl, rfl, fun h => by simp at h, fun h => ?_, fun s h => .inl h, fun s h => h, rfl⟩
      rw [A.dead_un h] at hd; cases hd
    · rw [if_neg hd] at hW
      rw [A.pieces_ok hne (by rw [hW]), hW]
      simp only
      by_cases hlen : l.length ≤ 8
      · have e1 : l.drop 8 = [] := List.drop_of_length_le hlen
        have e2 : l.take 8 = l := List.take_of_length_le hlen
        rw [e1, e2, A.pieces_nil]
        refine ⟨.inl rfl, rfl, fun _ => A.now_push _ _, fun _ => rfl, fun s h => ?_, fun s h => ?_, rfl⟩
        · rw [A.push_sts] at h
          rcases List.mem_append.1 h with h | h
          · exact .inl h
          · exact .inr ⟨l.length, Nat.le_refl _, by rw [List.mem_singleton.1 h, List.take_length]⟩
        · rw [A.push_sts]; exact List.mem_append_left _ h
      · have hnow : (x.push (x.now.set f (x.now.get f ++ l.take 8))).now = x.now.set f (x.now.get f ++ l.take 8) := A.now_push _ _
        have hget : (x.push (x.now.set f (x.now.get f ++ l.take 8))).now.get f = x.now.get f ++ l.take 8 := by rw [hnow, Fs.get_set _ hf]
        have hlen8 : ((x.push (x.now.set f (x.now.get f ++ l.take 8))).now.get f).length = (x.now.get f).length + 8 := by rw [hget, List.length_append, List.length_take, Nat.min_eq_left (by omega)]
        have := ih (x.push (x.now.set f (x.now.get f ++ l.take 8))) f (l.drop 8) (by rw [List.length_drop]; omega) hf (by rw [hlen8, List.length_drop]; omega)
        rw [hlen8] at this
        obtain ⟨i1, i2, i3, i4, i5, i6, i7⟩ := this
        refine ⟨i1, i2, fun h => ?_, fun h => i4 h, fun s h => ?_, fun s h => i6 s ?_, i7⟩
        · rw [i3 h, hget, hnow, Fs.set_set _ hf, List.append_assoc, List.take_append_drop]
        · rcases i5 s h with h | ⟨k, hk, h⟩
          · rw [A.push_sts] at h
            rcases List.mem_append.1 h with h | h
            · exact .inl h
            · exact .inr ⟨8, by omega, List.mem_singleton.1 h⟩
          · refine .inr ⟨8 + k, by rw [List.length_drop] at hk; omega, ?_⟩
            rw [h, hget, hnow, Fs.set_set _ hf, List.append_assoc, List.take_add]
        · rw [A.push_sts]; exact List.mem_append_left _ h

/-! ### Open -/
def cutsG (cs : List (Nat × Nat)) : List (A → A × Int) := cs.map fun c y => y.Cut c.1 c.2
def Fs.cut1 (s : Fs) (c : Nat × Nat) : Fs := s.set c.1 ((s.get c.1).take c.2)
def Fs.cuts (s : Fs) (cs : List (Nat × Nat)) : Fs := cs.foldl Fs.cut1 s
def CutOk : Fs → List (Nat × Nat) → Prop
  | _, [] => True
  | s, c :: r => c.1 < 3 ∧ c.2 ≤ (s.get c.1).length ∧ CutOk (s.cut1 c) r
/-- Cuts: each state is what some first of them leave. -/
theorem seq_cuts : ∀ (cs : List (Nat × Nat)) (x : A), CutOk x.now cs →
    ((A.seq (cutsG cs) x).2 = 0 ∨ (A.seq (cutsG cs) x).2 = 180) ∧ (A.seq (cutsG cs) x).1.armed = x.armed ∧ ((A.seq (cutsG cs) x).2 = 0 → (A.seq (cutsG cs) x).1.now = x.now.cuts cs) ∧ (x.armed = false → (A.seq (cutsG cs) x).2 = 0) ∧
    (∀ s ∈ (A.seq (cutsG cs) x).1.sts, s ∈ x.sts ∨ ∃ k, k ≤ cs.length ∧ s = x.now.cuts (cs.take k))
  | [], x, _ => ⟨.inl rfl, rfl, fun _ => rfl, fun _ => rfl, fun s h => .inl h⟩
  | c :: r, x, h => by
    obtain ⟨h1, h2, h3⟩ := h
    have hC := A.Cut_ok h1 h2
    have hu : A.seq (cutsG (c :: r)) x = if (x.Cut c.1 c.2).2 = 0 then A.seq (cutsG r) (x.Cut c.1 c.2).1 else x.Cut c.1 c.2 := rfl
    by_cases hd : x.dead = true
    · rw [if_pos hd] at hC
      rw [hu, hC, if_neg (by simp)]
      refine ⟨.inr rfl, rfl, fun h => by simp at h, fun h => ?_, fun s h => .inl h⟩
      rw [A.dead_un h] at hd; cases hd
    · rw [if_neg hd] at hC
      rw [hu, hC, if_pos rfl]
      simp only
      have hnow : (x.push (x.now.set c.1 ((x.now.get c.1).take c.2))).now = x.now.cut1 c := A.now_push _ _
      obtain ⟨i1, i2, i3, i4, i5⟩ := seq_cuts r (x.push (x.now.set c.1 ((x.now.get c.1).take c.2))) (by rw [hnow]; exact h3)
      refine ⟨i1, i2, fun h => by rw [i3 h, hnow]; rfl, fun h => i4 h, fun s h => ?_⟩
      rcases i5 s h with h | ⟨k, hk, h⟩
      · rw [A.push_sts] at h
        rcases List.mem_append.1 h with h | h
        · exact .inl h
        · exact .inr ⟨1, by simp, by rw [List.mem_singleton.1 h]; rfl⟩
      · exact .inr ⟨k + 1, by simp; omega, by rw [h, hnow]; rfl⟩
def openC (s : Fs) : List (Nat × Nat) :=
  (if (scan (s.get (nmF s.a))).2 < (s.get (nmF s.a)).length then [(nmF s.a, (scan (s.get (nmF s.a))).2)] else []) ++ ((if 0 < (s.get (3 - nmF s.a)).length then [(3 - nmF s.a, 0)] else []) ++ (if tidyW s.a then [] else [(0, 0)]))
theorem openT_eq (s : Fs) : openT s = cutsG (openC s) := by
  unfold openT openC cutsG
  rw [List.map_append, List.map_append]
  congr 1
  · split <;> rfl
  · congr 1
    · split <;> rfl
    · split <;> rfl
theorem openT_len (s : Fs) : (openT s).length = (openC s).length := by rw [openT_eq]; simp [cutsG]
/-- The files as Open makes them. -/
def Fs.opened (s : Fs) : Fs := let t := (s.set (nmF s.a) ((s.get (nmF s.a)).take (scan (s.get (nmF s.a))).2)).set (3 - nmF s.a) []; if s.a = [1] ∨ s.a = [2] then t else t.set 0 []
/-- What is opened of it is the same. -/
def Eqv (s t : Fs) : Prop := nmF t.a = nmF s.a ∧ scan (t.get (nmF s.a)) = scan (s.get (nmF s.a))
theorem Eqv.refl (s : Fs) : Eqv s s := ⟨rfl, rfl⟩
theorem set_a (s : Fs) {f : Nat} (hf : f = 1 ∨ f = 2) (l : Bs) : (s.set f l).a = s.a := by rcases hf with rfl | rfl <;> rfl
theorem scan_take (l : Bs) : scan (l.take (scan l).2) = scan l := by
  obtain ⟨h1, h2, h3, h4⟩ := scan_is _ l (Nat.le_refl _)
  have := scan_recs h1 []
  rw [List.append_nil, scan_none (b := []) rfl, List.append_nil, Nat.add_zero, ← h2, List.length_take, Nat.min_eq_left h3] at this
  rw [this]
theorem Eqv.cutF {s t : Fs} (h : Eqv s t) : Eqv s (t.cut1 (nmF s.a, (scan (s.get (nmF s.a))).2)) := by
  have hf := nmF_two s.a
  refine ⟨by show nmF (Fs.set _ _ _).a = _; rw [set_a _ hf]; exact h.1, ?_⟩
  show scan ((t.set (nmF s.a) _).get (nmF s.a)) = _
  rw [Fs.get_set _ (by omega), ← h.2, scan_take]
theorem Eqv.cutO {s t : Fs} (h : Eqv s t) (n : Nat) : Eqv s (t.cut1 (3 - nmF s.a, n)) := by
  have hf := nmF_two s.a
  refine ⟨by show nmF (Fs.set _ _ _).a = _; rw [set_a _ (by omega)]; exact h.1, ?_⟩
  show scan ((t.set (3 - nmF s.a) _).get (nmF s.a)) = _
  rw [Fs.get_set_ne _ (by omega) (by omega) (by omega)]
  exact h.2
theorem Eqv.cutW {s t : Fs} (h : Eqv s t) (hw : nmF s.a = 1) : Eqv s (t.cut1 (0, 0)) := by
  refine ⟨?_, ?_⟩
  · show nmF ((t.get 0).take 0) = _
    rw [List.take_zero, hw]; rfl
  · show scan ((t.set 0 _).get (nmF s.a)) = _
    have hf := nmF_two s.a
    rw [Fs.get_set_ne _ (by omega) (by omega) (by omega)]
    exact h.2
theorem untidy_one {l : Bs} (h : tidyW l = false) : nmF l = 1 := by
  unfold tidyW at h
  unfold nmF
  simp at h
  rw [if_neg h.1]
theorem open_cuts_ok (s : Fs) : CutOk s (openC s) ∧ (∀ k, Eqv s (s.cuts ((openC s).take k))) ∧ s.cuts (openC s) = s.opened := by
  have hf := nmF_two s.a
  have hsc := (scan_is _ (s.get (nmF s.a)) (Nat.le_refl _)).2.2.1
  have hwt : (s.a = [1] ∨ s.a = [2]) ∨ (tidyW s.a = true ∧ s.a = []) ∨ tidyW s.a = false := by
    unfold tidyW
    by_cases h1 : s.a = [1]
    · exact .inl (.inl h1)
    · by_cases h2 : s.a = [2]
      · exact .inl (.inr h2)
      · by_cases h0 : s.a = []
        · exact .inr (.inl ⟨by simp [h0], h0⟩)
        · exact .inr (.inr (by simp [h0, h1, h2]))
  have htid : s.a = [1] ∨ s.a = [2] → tidyW s.a = true := by
    rintro (h | h) <;> (unfold tidyW; simp [h])
  unfold openC
  -- a list of three at most
  have take3 : ∀ (a b c : List (Nat × Nat)), (a = [] ∨ a = [(nmF s.a, (scan (s.get (nmF s.a))).2)]) → (b = [] ∨ b = [(3 - nmF s.a, 0)]) → (c = [] ∨ (c = [(0, 0)] ∧ nmF s.a = 1)) → ∀ k, Eqv s (s.cuts ((a ++ (b ++ c)).take k)) := by
    intro a b c ha hb hc k
    have gen : ∀ (cs : List (Nat × Nat)) (t : Fs), Eqv s t → (∀ z ∈ cs, z = (nmF s.a, (scan (s.get (nmF s.a))).2) ∨ z = (3 - nmF s.a, 0) ∨ (z = (0, 0) ∧ nmF s.a = 1)) → Eqv s (t.cuts cs) := by
      intro cs
      induction cs with
      | nil => intro t h _; exact h
      | cons z r ih =>
        intro t h hz
        refine ih (t.cut1 z) ?_ fun z' hz' => hz z' (List.mem_cons_of_mem _ hz')
        rcases hz z (List.mem_cons_self ..) with rfl | rfl | ⟨rfl, h1⟩
        · exact h.cutF
        · exact h.cutO 0
        · exact h.cutW h1
    refine gen _ s (Eqv.refl s) fun z hz => ?_
    have hz := List.mem_of_mem_take hz
    rcases List.mem_append.1 hz with hz | hz
    · rcases ha with rfl | rfl
      · simp at hz
      · exact .inl (List.mem_singleton.1 hz)
    · rcases List.mem_append.1 hz with hz | hz
      · rcases hb with rfl | rfl
        · simp at hz
        · exact .inr (.inl (List.mem_singleton.1 hz))
      · rcases hc with rfl | ⟨rfl, h1⟩
        · simp at hz
        · exact .inr (.inr ⟨List.mem_singleton.1 hz, h1⟩)
  refine ⟨?_, take3 _ _ _ (by split <;> simp) (by split <;> simp) (by
    split
    · exact .inl rfl
    · rename_i h; exact .inr ⟨rfl, untidy_one (by simpa using h)⟩), ?_⟩
  · have h0 : ∀ t : Fs, CutOk t (if tidyW s.a then [] else [(0, 0)]) := by intro t; split <;> simp [CutOk]
    have h1 : ∀ t : Fs, CutOk t ((if 0 < (s.get (3 - nmF s.a)).length then [(3 - nmF s.a, 0)] else []) ++ (if tidyW s.a then [] else [(0, 0)])) := by
      intro t
      split
      · exact ⟨by simp only; omega, by simp, h0 _⟩
      · exact h0 _
    split
    · exact ⟨by simp only; omega, hsc, h1 _⟩
    · exact h1 _
  · have e1 : s.cuts (if (scan (s.get (nmF s.a))).2 < (s.get (nmF s.a)).length then [(nmF s.a, (scan (s.get (nmF s.a))).2)] else []) = s.set (nmF s.a) ((s.get (nmF s.a)).take (scan (s.get (nmF s.a))).2) := by
      split
      · rfl
      · rw [List.take_of_length_le (by omega), Fs.set_get _ (by omega)]; rfl
    have e2 : ∀ t : Fs, t.get (3 - nmF s.a) = s.get (3 - nmF s.a) → t.cuts (if 0 < (s.get (3 - nmF s.a)).length then [(3 - nmF s.a, 0)] else []) = t.set (3 - nmF s.a) [] := by
      intro t ht
      split
      · show t.set _ _ = _
        simp
      · have : s.get (3 - nmF s.a) = [] := List.eq_nil_of_length_eq_zero (by omega)
        rw [← this, ← ht, Fs.set_get _ (by omega)]; rfl
    have e3 : ∀ t : Fs, t.a = s.a → t.cuts (if tidyW s.a then [] else [(0, 0)]) = if s.a = [1] ∨ s.a = [2] then t else t.set 0 [] := by
      intro t ht
      rcases hwt with h | ⟨h, h'⟩ | h
      · rw [if_pos h, if_pos (htid h)]; rfl
      · rw [if_pos h, if_neg (by rw [h']; simp)]
        show t = t.set 0 []
        rw [← h', ← ht]; exact (Fs.set_get t (f := 0) (by omega)).symm
      · rw [if_neg (by rw [h]; simp), if_neg fun h' => by rw [htid h'] at h; cases h]
        show t.set 0 _ = _
        simp
    unfold Fs.cuts at *
    rw [List.foldl_append, List.foldl_append, e1, e2 _ (Fs.get_set_ne _ (by omega) (by omega) (by omega) _), e3 _ (by rw [set_a _ (by omega), set_a _ hf])]
    rfl
/-- Open, over any disk: it takes the steps, or dies; each state is opened alike. -/
theorem open_seq (x : A) : ((A.seq (openG x.now) x).2 = 0 ∨ (A.seq (openG x.now) x).2 = 180) ∧ (x.armed = false → (A.seq (openG x.now) x).2 = 0) ∧ (A.seq (openG x.now) x).1.armed = x.armed ∧
    ((A.seq (openG x.now) x).2 = 0 → (A.seq (openG x.now) x).1.now = x.now.opened ∧ (openC x.now = [] → (A.seq (openG x.now) x).1 = x) ∧ (openC x.now ≠ [] → (A.seq (openG x.now) x).1.rest = [])) ∧
    (∀ s ∈ (A.seq (openG x.now) x).1.sts, s ∈ x.sts ∨ Eqv x.now s) := by
  obtain ⟨hok, heq, hop⟩ := open_cuts_ok x.now
  by_cases h0 : openC x.now = []
  · have e : openG x.now = [] := by unfold openG; rw [openT_len, h0, if_neg (by simp)]
    rw [e]
    refine ⟨.inl rfl, fun _ => rfl, rfl, fun _ => ⟨?_, fun _ => rfl, fun h => absurd h0 h⟩, fun s h => .inl h⟩
    rw [← hop, h0]; rfl
  · have hpos : 0 < (openC x.now).length := List.length_pos_iff.2 h0
    have e : openG x.now = cutsG (openC x.now) ++ [A.Sync] := by unfold openG; rw [openT_len, if_pos hpos, openT_eq]
    obtain ⟨c1, c2, c3, c4, c5⟩ := seq_cuts _ x hok
    rw [e, A.seq_append]
    have hst : ∀ s ∈ (A.seq (cutsG (openC x.now)) x).1.sts, s ∈ x.sts ∨ Eqv x.now s := fun s hs => by
      rcases c5 s hs with h | ⟨k, _, rfl⟩
      · exact .inl h
      · exact .inr (heq k)
    by_cases hz : (A.seq (cutsG (openC x.now)) x).2 = 0
    · rw [if_pos hz]
      have hs1 : A.seq [A.Sync] (A.seq (cutsG (openC x.now)) x).1 = (A.seq (cutsG (openC x.now)) x).1.Sync := by
        show (if _ then _ else _) = _
        by_cases h : ((A.seq (cutsG (openC x.now)) x).1.Sync).2 = 0
        · rw [if_pos h]
          show (_, _) = _
          rw [← h]
        · rw [if_neg h]
      rw [hs1, A.Sync_ok]
      by_cases hd : (A.seq (cutsG (openC x.now)) x).1.dead = true
      · rw [if_pos hd]
        refine ⟨.inr rfl, fun h => ?_, c2, fun h => by simp at h, hst⟩
        rw [A.dead_un (by rw [c2]; exact h)] at hd; cases hd
      · rw [if_neg hd]
        refine ⟨.inl rfl, fun _ => rfl, c2, fun _ => ⟨?_, fun h => absurd h h0, fun _ => rfl⟩, fun s hs => ?_⟩
        · show (A.seq (cutsG (openC x.now)) x).1.now = _
          rw [c3 hz, hop]
        · have : s = (A.seq (cutsG (openC x.now)) x).1.now := by simpa [A.sts] using hs
          rw [this]
          exact hst _ (A.now_sts _)
    · rw [if_neg hz]
      refine ⟨c1, fun h => c4 h, c2, fun h => absurd h hz, hst⟩
end Go.Proofs.Ytmfidfaiopogbaa
/- Every loss of power, opened; the first operations of a list. -/
set_option linter.unusedVariables false
set_option linter.unusedSimpArgs false
set_option linter.unusedSectionVars false
set_option maxRecDepth 4000
namespace Go.Proofs.Ytmfidfaiopogbaa
open Go Go.Sh
theorem opl_drop : ∀ (ys : List Op) (k : Nat), opl (ys.drop k) = (opl ys).drop (k * 5)
  | [], k => by simp [opl]
  | y :: r, 0 => by simp [opl]
  | y :: r, k + 1 => by
    rw [List.drop_succ_cons, show (k + 1) * 5 = k * 5 + 1 + 1 + 1 + 1 + 1 by omega]
    simp only [opl, List.drop_succ_cons, opl_drop r k]
theorem crash_now (x : A) (k : Int) : (x.Crash k).now ∈ x.sts ∧ (x.Crash k).armed = false ∧ (x.Crash k).rest = [] := by
  refine ⟨?_, rfl, rfl⟩
  show x.st (x.keep k) ∈ _
  unfold A.st A.sts
  rw [List.getD_eq_getElem?_getD]
  cases h : (x.first :: x.rest)[x.keep k]? with
  | none => simp
  | some s => exact List.mem_of_getElem? h
section
variable [Av]
theorem Rd.subO {w : World} {e n c : Nat} {a : Option Addr} {xs : List Op} (h : Rd w e 5 a n c (opl xs)) {l r : Nat} (hl : l ≤ r) (hr : r ≤ n) : Rd w e 5 (subS a c l 5) (r - l) (c - l) (opl ((xs.drop l).take (r - l))) := by
  have := Rd.sub h hl hr
  rw [opl_take, opl_drop]
  exact this
/-- What a fresh disk's Open answers. -/
theorem open_un {w : World} {lo p : Nat} {q : Sv} {x : A} (h : DkR w lo p q x) (hr : x.rest.length ≤ 900000) (hu : x.armed = false) : Calls Try.prog 47 #[dp p] w fun e v => ∃ (l : Nat) (s1 : Option Addr) (s2 s3 : Nat), e = .returned (.tuple #[dp l, .slice s1 s2 s3, .int .i64 0]) ∧
    LDid w v lo l p q (A.seq (openG x.now) x).1 (nmF x.now.a) (scan (x.now.get (nmF x.now.a))).2 false ∧ (A.seq (openG x.now) x).1.armed = false ∧ w.heap.size ≤ l ∧ Did w v lo p q (A.seq (openG x.now) x).1 ∧ v.ownsRow w.heap.size 57 5 (.slice s1 s2 s3) s2 (opl (scan (x.now.get (nmF x.now.a))).1) := by
  refine (open_spec h hr).mono ?_
  rintro e v ⟨hd, hcase⟩
  obtain ⟨_, o2, o3, _⟩ := open_seq x
  have h0 := o2 hu
  rcases hcase with ⟨hne, _⟩ | ⟨_, l, s1, s2, s3, rfl, hl, hB, ho⟩
  · exact absurd h0 hne
  · refine ⟨l, s1, s2, s3, rfl, ?_, by rw [o3]; exact hu, hl, hd, ho⟩
    obtain ⟨q', h1, h2, h3⟩ := hd
    have hlo : lo ≤ w.heap.size := by
      obtain ⟨_, _, _, _, _, _, _, hB', _⟩ := h.ex
      exact Nat.le_trans h.lo_ (Nat.le_of_lt hB'.lt)
    refine ⟨q', ⟨h1, hB, Nat.le_trans hlo hl⟩, h2.mono fun _ _ hb => .inr hb, fun b hb => ?_⟩
    rcases hb with rfl | hb
    · exact .inr hl
    · rcases h3 b hb with h4 | h4
      · exact .inl (.inr h4)
      · exact .inr h4
theorem opl_nx {w : World} {lo n n' c : Nat} {a : Option Addr} {xs : List Op} (h : w.ownsRow lo 57 5 (.slice a n' c) n (opl xs)) : n = xs.length := by have := h.1; rw [opl_length] at this; omega

theorem lost_spec {w : World} {lo p : Nat} {q : Sv} {x : A} (h : DkR w lo p q x) (hp : x.rest.length ≤ 800000) {f1 d1 : Option Addr} {f2 f3 d2 d3 ef ed : Nat} {first done : List Op} (hfi : Rd w ef 5 f1 f2 f3 (opl first)) (hdo : Rd w ed 5 d1 d2 d3 (opl done)) {safe : Nat}
    (hsf : f2 ≤ 1000000) (hsd : d2 ≤ 1000000) (hst : ∀ s ∈ x.sts, ∃ k, safe ≤ k ∧ k ≤ done.length ∧ (scan (s.get (nmF s.a))).1 = first ++ done.take k) :
    Calls Try.prog 58 #[dp p, .slice f1 f2 f3, .slice d1 d2 d3, .int .i64 safe] w fun e v => e = .returned (.bool true) ∧ Keep no w v := by
  have hf2 := op_n hfi
  have hd2 := op_n hdo
  refine c58 ?_
  unfold sh58
  refine ⟨fun vs v => ∃ k : Nat, vs = [.bool false, .int .i64 k] ∧ k ≤ x.rest.length + 1 ∧ Keep no w v, fun vs v => match vs with | [_, .int _ k] => x.rest.length + 1 - k.toNat | _ => 0, ⟨0, rfl, by omega, Keep.refl _ _⟩, ?_⟩
  rintro w7 b5 keep6 ⟨kp, hv, hk, k7⟩
  cases hv
  have h7 := h.no_ k7
  refine (pending_spec h7).mono ?_
  rintro e w11 ⟨rfl, rfl⟩
  refine ⟨_, rfl, ?_⟩
  refine cond_d (fun hle => ?_) (fun hgt => ⟨rfl, k7⟩)
  refine (Crash_spec h7 kp).mono ?_
  rintro e w14 ⟨p', rfl, hc, k14⟩
  refine ⟨_, rfl, cond_f rfl ?_⟩
  obtain ⟨cn1, cn2, cn3⟩ := crash_now x kp
  refine (open_un hc (by rw [cn3]; simp) cn2).mono ?_
  rintro e w17 ⟨l, s1, s2, s3, rfl, _, _, _, ⟨q', hd1, hd2', hd3⟩, ho⟩
  refine ⟨_, _, _, _, _, rfl, ?_⟩
  obtain ⟨k, hk1, hk2, hops⟩ := hst _ cn1
  rw [hops] at ho
  have hs2 := opl_nx ho
  have k17 : Keep no w11 w17 := k14.new hd2' fun b hb => Nat.le_trans (Nat.le_refl _) (hc.new hb)
  have K17 := k7.then k17
  rw [List.length_append, List.length_take, Nat.min_eq_left hk2] at hs2
  intro K37 w21
  have k21 : Keep no w17 w21 := Keep.drew _ _
  clear_value w21
  have K21 := K17.then k21
  have good : ∀ v b1 b2 b3 b4 b5' b6 b7, Keep no w v → K37 b1 b2 b3 b4 b5' b6 b7 false v := by
    intro v b1 b2 b3 b4 b5' b6 b7 kv
    refine cond_f rfl ?_
    have ei : IntKind.i64.wrap ((kp : Int) + 1) = ((kp + 1 : Nat) : Int) := by rw [IntWalk.i64_in _ ⟨by omega, by omega⟩]; rfl
    rw [ei]
    refine ⟨⟨kp + 1, rfl, by omega, kv⟩, ?_⟩
    show x.rest.length + 1 - ((kp + 1 : Nat) : Int).toNat < x.rest.length + 1 - (kp : Int).toNat
    omega
  clear_value K37
  have en : IntKind.i64.wrap (((s2 : Nat) : Int) - ((f2 : Nat) : Int)) = ((k : Nat) : Int) := by rw [hs2, hf2, IntWalk.i64_in _ ⟨by omega, by omega⟩]; omega
  rw [en]
  refine cond_f rfl ?_
  refine cond_d (fun hlt => by omega) (fun _ => ?_)
  refine cond_d (fun hlt => by omega) (fun _ => ?_)
  have ro : Rd w21 57 5 s1 s2 s3 (opl (first ++ done.take k)) := Rd.own (own_no' ho k21)
  have hcap := ro.2.1
  refine ⟨by omega, by omega, ?_⟩
  rw [Int.toNat_natCast f2]
  have r1 := Rd.subO ro (l := 0) (r := f2) (by omega) (by omega)
  rw [List.drop_zero, Nat.sub_zero, hf2, List.take_left] at r1
  have r1' : Rd w21 57 5 (subS s1 s3 0 5) (f2 - 0) (s3 - 0) (opl first) := by rw [hf2]; exact r1
  refine (Same_spec r1' (hfi.no K21)).mono ?_
  rintro e w23 ⟨k23, r, rfl, hr⟩
  refine ⟨_, rfl, ?_⟩
  rw [hr.2 rfl]
  refine cond_f rfl ?_
  have hdcap := hdo.2.1
  refine ⟨by omega, by omega, by omega, by omega, ?_⟩
  have r2 := Rd.subO (ro.no k23) (l := f2) (r := s2) (by omega) (Nat.le_refl _)
  have e2 : ((first ++ done.take k).drop f2).take (s2 - f2) = done.take k := by
    rw [hf2, List.drop_left, List.take_of_length_le (by rw [List.length_take]; omega)]
  rw [e2] at r2
  have r3 := Rd.subO (hdo.no (K21.then k23)) (l := 0) (r := k) (by omega) (by omega)
  rw [List.drop_zero] at r3
  have r3' : Rd w23 ed 5 (subS d1 d3 0 5) (k - 0) (d3 - 0) (opl (done.take k)) := r3
  refine (Same_spec r2 r3').mono ?_
  rintro e w26 ⟨k26, r', rfl, hr'⟩
  refine ⟨_, rfl, ?_⟩
  rw [hr'.2 rfl]
  exact good _ _ _ _ _ _ _ _ ((K21.then k23).then k26)

theorem cut55_spec {w : World} {e n c : Nat} {a : Option Addr} {xs : List Op} (h : Rd w e 5 a n c (opl xs)) :
    Calls Try.prog 55 #[.slice a n c] w fun e v => ∃ (s1 : Option Addr) (s2 s3 : Nat), e = .returned (.slice s1 s2 s3) ∧ Keep no w v ∧ v.ownsRow w.heap.size 57 5 (.slice s1 s2 s3) s2 (opl (xs.take 60)) ∧ s2 ≤ 60 := by
  have hn := op_n h
  have hcn := h.2.1
  have hcm := h.2.2.1
  simp only [maxLen] at hcm
  refine c55 ?_
  unfold sh55
  intro p2 w3
  have o3 : w3.ownsRow w.heap.size 57 5 (.slice (some ⟨p2, 0, none⟩) 0 0) 0 (opl []) := lit_own w 57 5 (Nat.le_refl _)
  have k3 : Keep no w w3 := Keep.alloc _ _ _
  clear_value p2 w3
  have emn : mnI ((n : Nat) : Int) 60 = ((min n 60 : Nat) : Int) := by unfold mnI; split <;> omega
  rw [emn, Int.toNat_natCast]
  refine ⟨by omega, by omega, ?_⟩
  have r1 := Rd.subO (h.no k3) (l := 0) (r := min n 60) (by omega) (by omega)
  rw [List.drop_zero, Nat.sub_zero] at r1
  have e1 : xs.take (min n 60) = xs.take 60 := by rw [hn, Nat.min_comm]; exact (List.take_eq_take_min ..).symm
  rw [e1] at r1
  have r1' : Rd w3 e 5 (subS a c 0 5) (min n 60 - 0) (c - 0) (opl (xs.take 60)) := r1
  refine rw_append E64 o3 r1' (opl_one _) (by omega) (by simp only [maxLen]; omega) k3.size fun a2 c2 w' ho' k' _ => ?_
  refine ⟨_, _, _, rfl, k3.new k' fun b hb => (ty_lt o3 hb).2.1, ?_, by omega⟩
  exact ho'
end
end Go.Proofs.Ytmfidfaiopogbaa
/- A log that is appended to and synced: what every loss of power leaves; the document's example. -/
set_option linter.unusedVariables false
set_option linter.unusedSimpArgs false
set_option linter.unusedSectionVars false
set_option maxRecDepth 4000
namespace Go.Proofs.Ytmfidfaiopogbaa
open Go Go.Sh
theorem scan_nil : scan [] = ([], 0) := scan_none (b := []) rfl
/-- Records that are cut: how many are whole. -/
theorem scan_cut_ex {ys : List Op} (h : Pl ys) (cut : Nat) : ∃ j, j ≤ ys.length ∧ scan ((recs ys).take cut) = (ys.take j, (recs (ys.take j)).length) ∧ (∀ i, i ≤ ys.length → (recs (ys.take i)).length ≤ cut → i ≤ j) := by
  have hmono : ∀ i j, i ≤ j → (recs (ys.take i)).length ≤ (recs (ys.take j)).length := by
    intro i j hij
    have e : ys.take j = ys.take i ++ (ys.drop i).take (j - i) := by
      have h2 := List.take_add (l := ys) (i := i) (j := j - i)
      rw [← h2]; congr 1; omega
    rw [e, recs_append, List.length_append]; omega
  -- the most records that the bytes hold
  have key : ∀ m, m ≤ ys.length → ∃ j, j ≤ m ∧ (recs (ys.take j)).length ≤ cut ∧ (∀ i, i ≤ m → (recs (ys.take i)).length ≤ cut → i ≤ j) := by
    intro m
    induction m with
    | zero => intro _; exact ⟨0, Nat.le_refl _, by simp [recs], fun i hi _ => hi⟩
    | succ m ih =>
      intro hm
      obtain ⟨j, h1, h2, h3⟩ := ih (by omega)
      by_cases hc : (recs (ys.take (m + 1))).length ≤ cut
      · exact ⟨m + 1, Nat.le_refl _, hc, fun i hi _ => hi⟩
      · refine ⟨j, by omega, h2, fun i hi hic => ?_⟩
        rcases Nat.lt_or_ge i (m + 1) with hlt | hge
        · exact h3 i (by omega) hic
        · have : i = m + 1 := by omega
          subst this
          exact absurd hic hc
  obtain ⟨j, h1, h2, h3⟩ := key ys.length (Nat.le_refl _)
  refine ⟨j, h1, scan_cut h h1 h2 fun hlt => ?_, h3⟩
  rcases Nat.lt_or_ge cut (recs (ys.take (j + 1))).length with h4 | h4
  · exact h4
  · have := h3 (j + 1) (by omega) h4; omega

/-- The log of P and behind it ys, of which the first `safe` are safe; dead: a step was refused to it. -/
structure LI (x : A) (n : Nat) (dd : Bool) (P ys : List Op) (safe : Nat) (dead : Bool) : Prop where
  pl : Pl (P ++ ys)
  sts : ∀ s ∈ x.sts, s.a = [] ∧ s.c = [] ∧ ∃ k, (recs (P ++ ys.take safe)).length ≤ k ∧ s.b = (recs (P ++ ys)).take k
  saf : safe ≤ ys.length
  alive : dead = false → dd = false ∧ n = (recs (P ++ ys)).length ∧ x.now.b = recs (P ++ ys)
  ded : dead = true → dd = true
theorem nmF_nil : nmF [] = 1 := rfl
theorem LI.lost {x : A} {n : Nat} {dd : Bool} {P ys : List Op} {safe : Nat} {dead : Bool} (h : LI x n dd P ys safe dead) : ∀ s ∈ x.sts, ∃ k, safe ≤ k ∧ k ≤ ys.length ∧ (scan (s.get (nmF s.a))).1 = P ++ ys.take k := by
  intro s hs
  obtain ⟨h1, h2, k, h3, h4⟩ := h.sts s hs
  have e1 : s.get (nmF s.a) = s.b := by rw [h1]; rfl
  rw [e1, h4]
  obtain ⟨j, j1, j2, j3⟩ := scan_cut_ex h.pl k
  rw [j2]
  have e2 : P ++ ys.take safe = (P ++ ys).take (P.length + safe) := by rw [List.take_length_add_append]
  rw [e2] at h3
  rw [List.length_append] at j1 j3
  have hsaf := h.saf
  have h5 := j3 (P.length + safe) (by omega) h3
  refine ⟨j - P.length, by omega, by omega, ?_⟩
  simp only
  obtain ⟨i, rfl⟩ : ∃ i, j = P.length + i := ⟨j - P.length, by omega⟩
  rw [List.take_length_add_append, Nat.add_sub_cancel_left]
theorem lgRun_f (x : A) (r : A × Int) : lgRun false x r = if r.2 = 0 then (r.1, false, 0) else (r.1, true, 180) := by
  unfold lgRun; rw [if_neg (by decide)]
theorem lgRun_t (x : A) (r : A × Int) : lgRun true x r = (x, true, 180) := by
  unfold lgRun; rw [if_pos rfl]
theorem enc_of {o y : Op} (h : plain o = some y) : enc o = some (er y) := by
  have := (enc_plain o).1 y h
  rw [← this.2.1]; exact enc_is this.2.2.2
theorem LI.append {x : A} {n : Nat} {dd : Bool} {P ys : List Op} {safe : Nat} {dead : Bool} (h : LI x n dd P ys safe dead) {o y : Op} (ho : o.fit) (hp : plain o = some y) (hsm : (recs (P ++ ys)).length ≤ 32000) (hn : n ≤ 32000) :
    (dead = true → (appM x 1 n dd o).2.2.2 = 180 ∧ LI (appM x 1 n dd o).1 (appM x 1 n dd o).2.1 (appM x 1 n dd o).2.2.1 P ys safe true ∧ (appM x 1 n dd o).2.1 ≤ n) ∧
    (dead = false → ((appM x 1 n dd o).2.2.2 = 0 ∧ LI (appM x 1 n dd o).1 (appM x 1 n dd o).2.1 (appM x 1 n dd o).2.2.1 P (ys ++ [y]) safe false) ∨
      ((appM x 1 n dd o).2.2.2 = 180 ∧ x.armed = true ∧ LI (appM x 1 n dd o).1 (appM x 1 n dd o).2.1 (appM x 1 n dd o).2.2.1 P (ys ++ [y]) safe true)) ∧
    (appM x 1 n dd o).1.armed = x.armed ∧ (appM x 1 n dd o).1.rest.length ≤ x.rest.length + 22 ∧ (appM x 1 n dd o).2.1 ≤ n + 22 := by
  have he := enc_of hp
  have hyp := (enc_plain o).1 y hp
  have her := er_len hyp.2.2.2
  have hyf : y.fit := @plain_fit noAv _ _ ho hp
  have e0 : appM x 1 n dd o = if (lgRun dd x (x.pieces 1 n (er y))).2.2 = 0 then ((lgRun dd x (x.pieces 1 n (er y))).1, n + (er y).length, (lgRun dd x (x.pieces 1 n (er y))).2.1, 0)
      else ((lgRun dd x (x.pieces 1 n (er y))).1, n, (lgRun dd x (x.pieces 1 n (er y))).2.1, (lgRun dd x (x.pieces 1 n (er y))).2.2) := by
    simp only [appM, he]; rw [if_neg (by omega)]
  cases hdead : dead with
  | true =>
    have hdd := h.ded hdead
    subst hdd
    rw [lgRun_t] at e0
    rw [if_neg (by simp)] at e0
    rw [e0]
    refine ⟨fun _ => ⟨rfl, (hdead ▸ h : LI x n true P ys safe true), Nat.le_refl _⟩, (fun hx => by cases hx), rfl, by simp, by simp⟩
  | false =>
    obtain ⟨hdd, hnn, hnow⟩ := h.alive hdead
    subst hdd
    have hget : x.now.get 1 = recs (P ++ ys) := hnow
    have hpe := A.pieces_end (er y).length x 1 (er y) (Nat.le_refl _) (by omega) (by rw [hget]; omega)
    rw [hget, ← hnn] at hpe
    obtain ⟨p1, p2, p3, p4, p5, p6, p7⟩ := hpe
    have hlen := A.pieces_len (er y).length x 1 n (er y) (Nat.le_refl _)
    have hrec : recs (P ++ (ys ++ [y])) = recs (P ++ ys) ++ er y := by rw [← List.append_assoc, recs_append]; simp [recs]
    have hpl2 : Pl (P ++ (ys ++ [y])) := by
      intro z hz
      rw [← List.append_assoc] at hz
      rcases List.mem_append.1 hz with hz | hz
      · exact h.pl z hz
      · rw [List.mem_singleton.1 hz]; exact ⟨hyf, hyp.2.2.2⟩
    have htk : (ys ++ [y]).take safe = ys.take safe := List.take_append_of_le_length h.saf
    have hst : ∀ s ∈ (x.pieces 1 n (er y)).1.sts, s.a = [] ∧ s.c = [] ∧ ∃ k, (recs (P ++ (ys ++ [y]).take safe)).length ≤ k ∧ s.b = (recs (P ++ (ys ++ [y]))).take k := by
      intro s hs
      rw [htk, hrec]
      have hle : (recs (P ++ ys.take safe)).length ≤ (recs (P ++ ys)).length := by
        have e : P ++ ys = (P ++ ys.take safe) ++ ys.drop safe := by rw [List.append_assoc, List.take_append_drop]
        rw [e, recs_append (P ++ ys.take safe), List.length_append]; omega
      rcases p5 s hs with hs | ⟨k, hk, rfl⟩
      · obtain ⟨h1, h2, k, h3, h4⟩ := h.sts s hs
        refine ⟨h1, h2, min k (recs (P ++ ys)).length, by omega, ?_⟩
        rw [h4, List.take_append_of_le_length (Nat.min_le_right _ _)]
        exact List.take_eq_take_min ..
      · obtain ⟨h1, h2, _⟩ := h.sts _ (A.now_sts x)
        refine ⟨h1, h2, (recs (P ++ ys)).length + k, by omega, ?_⟩
        show recs (P ++ ys) ++ (er y).take k = _
        rw [List.take_length_add_append]
    rw [lgRun_f] at e0
    refine ⟨(fun hx => by cases hx), fun _ => ?_, ?_⟩
    · by_cases h0 : (x.pieces 1 n (er y)).2 = 0
      · rw [if_pos h0, if_pos rfl] at e0
        rw [e0]
        refine .inl ⟨rfl, hpl2, hst, by rw [List.length_append]; have := h.saf; omega, fun _ => ⟨rfl, ?_, ?_⟩, (fun hx => by cases hx)⟩
        · show n + (er y).length = _
          rw [hrec, List.length_append, hnn]
        · show (x.pieces 1 n (er y)).1.now.b = _
          rw [p3 h0, hrec]; rfl
      · rw [if_neg h0, if_neg (by simp)] at e0
        rw [e0]
        refine .inr ⟨rfl, ?_, hpl2, hst, by rw [List.length_append]; have := h.saf; omega, (fun hx => by cases hx), fun _ => rfl⟩
        cases ha : x.armed with
        | true => rfl
        | false => exact absurd (p4 ha) h0
    · by_cases h0 : (x.pieces 1 n (er y)).2 = 0
      · rw [if_pos h0, if_pos rfl] at e0
        rw [e0]
        exact ⟨p2, by simp only; omega, by simp only; omega⟩
      · rw [if_neg h0, if_neg (by simp)] at e0
        rw [e0]
        exact ⟨p2, by simp only; omega, by simp only; omega⟩
theorem LI.sync {x : A} {n : Nat} {dd : Bool} {P ys : List Op} {safe : Nat} {dead : Bool} (h : LI x n dd P ys safe dead) :
    (dead = true → (lgRun dd x x.Sync).2.2 = 180 ∧ LI (lgRun dd x x.Sync).1 n (lgRun dd x x.Sync).2.1 P ys safe true) ∧
    (dead = false → ((lgRun dd x x.Sync).2.2 = 0 ∧ LI (lgRun dd x x.Sync).1 n (lgRun dd x x.Sync).2.1 P ys ys.length false) ∨
      ((lgRun dd x x.Sync).2.2 = 180 ∧ x.armed = true ∧ LI (lgRun dd x x.Sync).1 n (lgRun dd x x.Sync).2.1 P ys safe true)) ∧
    (lgRun dd x x.Sync).1.armed = x.armed ∧ (lgRun dd x x.Sync).1.rest.length ≤ x.rest.length + 1 := by
  cases hdead : dead with
  | true =>
    have hdd := h.ded hdead
    subst hdd
    rw [lgRun_t]
    exact ⟨fun _ => ⟨rfl, (hdead ▸ h : LI x n true P ys safe true)⟩, (fun hx => by cases hx), rfl, by simp⟩
  | false =>
    obtain ⟨hdd, hnn, hnow⟩ := h.alive hdead
    subst hdd
    rw [lgRun_f, A.Sync_ok]
    by_cases hd : x.dead = true
    · rw [if_pos hd, if_neg (by simp)]
      refine ⟨(fun hx => by cases hx), fun _ => .inr ⟨rfl, ?_, h.pl, h.sts, h.saf, (fun hx => by cases hx), fun _ => rfl⟩, rfl, by simp⟩
      cases ha : x.armed with
      | true => rfl
      | false => rw [A.dead_un ha] at hd; cases hd
    · rw [if_neg hd, if_pos rfl]
      have hn2 : ({ x.stepped with first := x.now, rest := [] } : A).now = x.now := rfl
      refine ⟨(fun hx => by cases hx), fun _ => .inl ⟨rfl, h.pl, fun s hs => ?_, Nat.le_refl _, fun _ => ⟨rfl, hnn, hnow⟩, (fun hx => by cases hx)⟩, rfl, by simp⟩
      have hs' : s = x.now := by simpa [A.sts] using hs
      obtain ⟨h1, h2, _⟩ := h.sts _ (A.now_sts x)
      rw [hs', List.take_length]
      exact ⟨h1, h2, (recs (P ++ ys)).length, Nat.le_refl _, by rw [hnow, List.take_length]⟩
/-- A fresh log of P. -/
theorem LI.start {x : A} {P : List Op} (hp : Pl P) (hr : x.rest = []) (ha : x.first.a = []) (hc : x.first.c = []) (hb : x.first.b = recs P) : LI x (recs P).length false P [] 0 false := by
  refine ⟨by simpa using hp, fun s hs => ?_, Nat.le_refl _, fun _ => ⟨rfl, by simp, ?_⟩, (fun hx => by cases hx)⟩
  · have : s = x.first := by rw [A.sts, hr] at hs; simpa using hs
    rw [this]
    exact ⟨ha, hc, (recs P).length, by simp, by rw [hb]; simp⟩
  · have : x.now = x.first := by unfold A.now; rw [hr]; rfl
    rw [this, hb]; simp
theorem seq_new : A.seq (openG a0.now) a0 = (a0, 0) ∧ nmF a0.now.a = 1 ∧ scan (a0.now.get (nmF a0.now.a)) = ([], 0) := by
  have h1 : nmF a0.now.a = 1 := rfl
  have h2 : a0.now.get (nmF a0.now.a) = [] := rfl
  have h3 : openC a0.now = [] := by
    unfold openC
    rw [h2, scan_nil]
    rfl
  refine ⟨?_, h1, by rw [h2, scan_nil]⟩
  unfold openG
  rw [openT_len, h3, if_neg (by simp)]
  rfl
section
variable [Av]
/-- A new disk, opened. -/
theorem new_open (w : World) {lo p : Nat} {q : Sv} (h : DkR w lo p q a0) : Calls Try.prog 47 #[dp p] w fun e v => ∃ (l : Nat) (s1 : Option Addr) (s2 s3 : Nat), e = .returned (.tuple #[dp l, .slice s1 s2 s3, .int .i64 0]) ∧ LDid w v lo l p q a0 1 0 false ∧ w.heap.size ≤ l ∧ s2 = 0 := by
  obtain ⟨e1, e2, e3⟩ := seq_new
  refine (open_un h (by simp [a0]) rfl).mono ?_
  rintro e v ⟨l, s1, s2, s3, rfl, hl, _, hlw, _, ho⟩
  rw [e1, e2] at hl
  rw [e2] at e3
  rw [e3] at hl
  rw [e2, e3] at ho
  refine ⟨l, s1, s2, s3, rfl, hl, hlw, ?_⟩
  have := opl_nx ho
  simpa using this
theorem awakeL_spec (w : World) (hO : Old w) : Calls Try.prog 45 #[] w fun e v => e = .returned (.bool true) ∧ Keep no w v := by
  refine c45 ?_
  unfold sh45
  refine (new_spec w hO).mono ?_
  rintro e w2 ⟨p, rfl, hd, k2, _, _⟩
  refine ⟨_, rfl, cond_f rfl ?_⟩
  refine (new_open w2 hd).mono ?_
  rintro e w5 ⟨l, s1, s2, s3, rfl, hL, hl5, rfl⟩
  refine ⟨_, _, _, _, _, rfl, ?_⟩
  obtain ⟨q5, hL5, k5, hq5⟩ := hL
  have K5 : Keep no w w5 := k2.new k5 fun b hb => by
    rcases hb with rfl | hb
    · exact Nat.le_trans k2.size hl5
    · exact hd.new hb
  intro K17
  have fin : ∀ (w16 : World), LDid w5 w16 w.heap.size l p q5 (a0.push ⟨[], [3, 1, 172, 2, 246], []⟩) 1 5 false → K17 false w16 := by
    intro w16 hL16
    refine cond_f rfl ?_
    obtain ⟨q16, h16, k16, _⟩ := hL16
    have K16 : Keep no w w16 := K5.new k16 fun b hb => hL5.new hb
    refine (read_spec h16.dk 1).mono ?_
    rintro e w19 ⟨s, rfl, hs, _, k19⟩
    refine ⟨_, _, _, rfl, ?_⟩
    have e1 : (a0.push ⟨[], [3, 1, 172, 2, 246], []⟩).read 1 = [3, 1, 172, 2, 246] := rfl
    rw [e1] at hs
    refine rw_str Try.underlying36 Try.underlying5 Try.underlying9 hs ?_
    refine cond_t (by simp [str]) ?_
    refine (len_spec (h16.no_ k19)).mono ?_
    rintro e w25 ⟨rfl, rfl⟩
    refine ⟨_, rfl, cond_t rfl ?_⟩
    refine (pending_spec (h16.dk.no_ k19)).mono ?_
    rintro e w28 ⟨rfl, rfl⟩
    exact ⟨_, rfl, rfl, K16.then k19⟩
  clear_value K17
  refine cond_f rfl (cond_f rfl (cond_f rfl ?_))
  refine (raw_spec hL5.dk).mono ?_
  rintro e w10 ⟨rfl, rfl⟩
  refine ⟨_, rfl, cond_f rfl ?_⟩
  refine (append_spec (o := ⟨1, 0, 0, 300, 0⟩) hL5 (hO.up K5) (by omega) (by simp [a0]) ⟨by decide, by decide, by decide, by decide, by decide⟩).mono ?_
  rintro e w13 ⟨rfl, hL13⟩
  have e2 : appM a0 1 0 false ⟨1, 0, 0, 300, 0⟩ = (a0.push ⟨[], [3, 1, 172, 2, 246], []⟩, 5, false, 0) := by
    have hW : a0.pieces 1 0 [3, 1, 172, 2, 246] = (a0.push ⟨[], [3, 1, 172, 2, 246], []⟩, 0) := by
      have h1 := A.Write_end (x := a0) (f := 1) (l := [3, 1, 172, 2, 246]) (by omega) (by simp) (by decide)
      have h2 : a0.Write 1 0 ([3, 1, 172, 2, 246] : Bs) = (a0.push ⟨[], [3, 1, 172, 2, 246], []⟩, 0) := h1
      rw [A.pieces_ok (by simp) (by show (a0.Write 1 0 ([3, 1, 172, 2, 246] : Bs)).2 = 0; rw [h2])]
      show (a0.Write 1 0 ([3, 1, 172, 2, 246] : Bs)).1.pieces 1 8 [] = _
      rw [h2, A.pieces_nil]
    simp only [appM, enc_ex]
    rw [if_neg (by simp), hW, lgRun_f]
    rfl
  rw [e2] at hL13 ⊢
  exact ⟨_, rfl, fin _ hL13⟩
end
end Go.Proofs.Ytmfidfaiopogbaa
