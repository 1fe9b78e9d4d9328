/- What the shallow reading says holds of the code itself, for a goroutine in company: what makes new memory; any operation. -/
import Derived.Test.YtmkgnbcpcfojfaaCvOps2
set_option linter.unusedVariables false
set_option linter.unusedSimpArgs false
namespace Go.Cv
open Go.Conc
section
variable {X : Cx} {K : Value → World → Prop} {W : World} {E R : Bool}

theorem sim_size {w : World} (hx : X.ext = false) (s : Sim X.ty X.ext W w) : w.heap.size = W.heap.size := by
  have := s.size; rw [hx] at this; simpa using this
theorem sim_false {w : World} (hx : X.ext = false) (s : Sim X.ty X.ext W w) : Sim X.ty false W w := by rw [← hx]; exact s
theorem like_cells {ty : Nat} {c : Array Value} {e : Nat} (he : e ≠ ty) : Like ty (.cells c e) (some (.cells c e)) := by simp [Like, he]
/-- A new row of cells. -/
theorem v_new {s : Sem Value} {w : World} (hx : X.ext = false) (hs : Sim X.ty X.ext W w) {o o' : Obj} {v : Value} (hl : Like X.ty o (some o'))
    (hr : Rn X.P s w v (w.alloc o') (EvX X (W.alloc o) (w.alloc o'))) (h : K v (W.alloc o)) :
    ∃ v w' W', Rn X.P s w v w' (EvX X W' w') ∧ Mov X.ty X.co.ro W W' w w' #[] ∧ Sim X.ty X.ext W' w' ∧ K v W' :=
  ⟨v, w.alloc o', W.alloc o, hr, Mov.alloc (sim_size hx hs) o o', by rw [hx]; exact (sim_false hx hs).alloc hl, h⟩
theorem v_buildSlice {t len : Nat} {ps : Array (Nat × Value)} {r : Array Value × Nat} {w : World} (hr : sliceCells X.P t len ps.toList = some r) :
    Rn X.P (Instr.buildSlice t len ps) w (.slice (some ⟨w.heap.size, 0, none⟩) len len) (w.alloc (.cells r.1 r.2)) (fun _ => False) := by
  unfold sliceCells at hr
  cases hd : X.P.underlying t with
  | none => simp [hd] at hr
  | some d =>
    cases d <;> simp only [hd, reduceCtorEq] at hr
    rename_i e
    cases hi : X.P.info? e with
    | none => simp [hi] at hr
    | some i =>
      simp only [hi] at hr
      split at hr
      · cases hr
      · rename_i hlt
        have hlt' : ¬ (len * i.size > 2 ^ 24) := hlt
        have key : ∀ z : Array Value, (if len * i.size = 0 then some #[] else i.zero.map Value.cells) = some z → ∀ cs, Instr.fill (fun j => some (j * i.size, i.size)) ((Array.range (len * i.size)).map (z[· % z.size]!)) ps.toList = some cs → r = (cs, e) →
            Rn X.P (Instr.buildSlice t len ps) w (.slice (some ⟨w.heap.size, 0, none⟩) len len) (w.alloc (.cells r.1 r.2)) (fun _ => False) := by
          intro z hz cs hf hre
          subst hre
          unfold Instr.buildSlice
          refine (sil_underlying hd).rn.bind ?_
          simp only
          refine (sil_sizeOf hi).rn.bind ?_
          simp only [hlt', if_false]
          by_cases h0 : len * i.size = 0
          · simp only [h0, if_true, Option.some.injEq] at hz
            subst hz
            simp only [h0, if_true]
            rw [h0] at hf
            simp only [pure_bind, hf]
            exact (rn_newRow _ _).bind (rn_pure _)
          · simp only [h0, if_false] at hz
            simp only [h0, if_false, bind_assoc]
            cases hz2 : i.zero with
            | none => simp [hz2] at hz
            | some z2 =>
              simp only [hz2, Option.map_some, Option.some.injEq] at hz
              subst hz
              refine (sil_zeroValue hi hz2).rn.bind ?_
              simp only [pure_bind, hf]
              exact (rn_newRow _ _).bind (rn_pure _)
        cases hz : (if len * i.size = 0 then some #[] else i.zero.map Value.cells) with
        | none => rw [hz] at hr; cases hr
        | some z =>
          rw [hz] at hr
          simp only at hr
          cases hf : Instr.fill (fun j => some (j * i.size, i.size)) ((Array.range (len * i.size)).map (z[· % z.size]!)) ps.toList with
          | none => rw [hf] at hr; cases hr
          | some cs =>
            rw [hf] at hr
            simp only [Option.map_some, Option.some.injEq] at hr
            exact key z hz cs hf hr.symm
theorem v_makeSlice {t : Nat} {l c : Value} {w : World} (hx : X.ext = false) (hs : Sim X.ty X.ext W w)
    (h : MkV X.P X.ty t l c (fun a n c w' => K (.slice a n c) w') W) :
    ∃ v w' W', Rn X.P (Instr.makeSlice t l c) w v w' (EvX X W' w') ∧ Mov X.ty X.co.ro W W' w w' #[] ∧ Sim X.ty X.ext W' w' ∧ K v W' := by
  obtain ⟨k, n, e, i, z, rfl, rfl, hd, hi, hz, hb, hn, h0, _, hty, hK⟩ := h
  rw [← sim_size hx hs] at hK
  refine v_new hx hs (like_cells hty) ?_ hK
  unfold Instr.makeSlice
  refine (sil_underlying hd).rn.bind ?_
  simp only [asInt, asIntOf, pure_bind]
  refine (sil_typeInfo hi).rn.bind ?_
  have e1 : IntKind.i64.wrap (n : Int) = (n : Int) := by
    rw [IntKind.wrap_i64]
    have : (n : Int) < 9223372036854775808 := by have := hn; omega
    omega
  have e2 : (decide ((n : Int) < 0) || decide ((i.bytes : Int) * (n : Int) > 2 ^ 48)) = false := by
    have h1 : ¬ ((n : Int) < 0) := by omega
    have h2 : ¬ ((i.bytes : Int) * (n : Int) > 2 ^ 48) := by
      have : ((i.bytes * n : Nat) : Int) ≤ 2 ^ 47 := by exact_mod_cast hb
      have e3 : ((i.bytes * n : Nat) : Int) = (i.bytes : Int) * (n : Int) := by push_cast; rfl
      rw [e3] at this
      have h4 : (2 : Int) ^ 47 ≤ 2 ^ 48 := by decide
      omega
    simp only [h1, h2, decide_false, Bool.or_false]
  have e4 : ((decide ((n : Int) < 0) || decide ((i.bytes : Int) * (n : Int) > 2 ^ 48)) || decide ((n : Int) < 0) || decide ((n : Int) > (n : Int))) = false := by
    rw [e2]
    have h1 : ¬ ((n : Int) < 0) := by omega
    simp [h1]
  simp only [e1]
  rw [if_neg (by rw [e4]; simp)]
  refine Rn.bind (rn_askRoom _ (.inl rfl)) ?_
  refine (sil_sizeOf hi).rn.bind ?_
  simp only [Int.toNat_natCast]
  by_cases hn0 : n * i.size = 0
  · simp only [hn0, if_true, pure_bind]
    have hn1 : n = 0 := by
      rcases Nat.mul_eq_zero.1 hn0 with h | h
      · exact h
      · exact absurd h h0
    subst hn1
    have e5 : ∀ f : Nat → Value, (Array.range 0).map f = #[] := fun f => by simp
    rw [e5, e5]
    exact (rn_newRow _ _).bind (rn_pure _)
  · simp only [hn0, if_false, bind_assoc]
    refine (sil_zeroValue hi hz).rn.bind ?_
    exact (rn_newRow _ _).bind (rn_pure _)

theorem rn_choose {P : Program} {w : World} {E : Event → Prop} {q : Question} (hq : q.forced = false) : Rn P (choose q) w (q.cut (w.tape w.drawn q)) (w.at (w.drawn + 1)) E :=
  ⟨by simp [choose, Sem.run, hq, World.at], fun es e he => .inl (by rwa [events_choose] at he)⟩
/-! ### append -/
theorem rn_firstCells {E : Event → Prop} {w : World} {a : Option Addr} {size n c : Nat} {vs : List Value} (hl : vs.length = n * size)
    (h : ∀ b, a = some b → ∀ j v, vs[j]? = some v → w.cell? (b.add j) = some v ∧ E ⟨.cell (b.add j), false, false⟩) (hn : a = none → vs = []) :
    Rn X.P (Builtin.firstCells size n (.slice a n c)) w vs.toArray w E := by
  cases a with
  | none =>
    rw [hn rfl]
    exact rn_pure _
  | some b =>
    have := rn_loadCells (P := X.P) (w := w) (E := E) b vs (h b rfl)
    rw [hl] at this
    exact this
theorem cellsAt_nil {W : World} {vs : List Value} (h : cellsAt W none vs) : vs = [] := h
theorem v_append {ats : List Nat} {args : List Value} {ty' : Nat} {w : World} (hx : X.ext = false) (hs : Sim X.ty X.ext W w)
    (h : AppV X.P X.ty X.co.ro ats args (fun a n c w' => K (.slice a n c) w') W) :
    ∃ v w' W', Rn X.P (Builtin.append_ ats.toArray ty' args.toArray) w v w' (EvX X W' w') ∧ Mov X.ty X.co.ro W W' w w' #[] ∧ Sim X.ty X.ext W' w' ∧ K v W' := by
  obtain ⟨ts, tx, e, base, xb, n, c, m, cx, i, z, old, new, rfl, rfl, hd, ⟨d2, hd2, hni⟩, hi, hz, hzs, hb0, hty, hol, hnl, hco, hcn, h⟩ := h
  have hzz : (match d2 with | .int _ => true | _ => false) = false := by cases d2 <;> first | rfl | exact absurd rfl (hni _)
  -- reads of known cells
  have rd : ∀ {W' w' : World} {a : Option Addr} {vs : List Value}, (∀ b, b < W.heap.size → ∀ cc ee fr, W.heap[b]? = some (.cells cc ee fr) → ∃ cc', W'.heap[b]? = some (.cells cc' ee fr)) → w.heap.size ≤ w'.heap.size → cellsAt W a vs →
      ∀ b, a = some b → ∀ j v, vs[j]? = some v → w.cell? (b.add j) = some v ∧ EvX X W' w' ⟨.cell (b.add j), false, false⟩ := by
    intro W' w' a vs hW hsz hc b hb j v hv
    subst hb
    have h1 := hc j v hv
    obtain ⟨h2, _, cc, ee, fr, h3, h4⟩ := hs.cell h1
    obtain ⟨cc', h5⟩ := hW _ (lt_of_known h3) _ _ _ h3
    exact ⟨h2, .inr ⟨_, false, rfl, Nat.lt_of_lt_of_le (lt_of_known h3) (Nat.le_trans hs.le hsz), fun h => by simp at h, cc', ee, fr, h5, h4⟩⟩
  have nl : ∀ {a : Option Addr} {vs : List Value}, cellsAt W a vs → a = none → vs = [] := fun h ha => by subst ha; exact h
  by_cases hc : n + m ≤ c
  · rw [if_pos hc] at h
    have hd0 : ∀ {v : Value} {w' W' : World}, Rn X.P (do let new ← Builtin.firstCells i.size m (.slice xb m cx); match base with | some a => (do storeCells (a.add (n * i.size)) new.toList; pure (Value.slice base (n + m) c) : Sem Value) | x => pure (Value.slice base (n + m) c)) w v w' (EvX X W' w') →
        Rn X.P (Builtin.append_ [ts, tx].toArray ty' [.slice base n c, .slice xb m cx].toArray) w v w' (EvX X W' w') := by
      intro v w' W' hr
      unfold Builtin.append_
      simp only [List.getElem?_toArray, List.getElem?_cons_zero, List.getElem?_cons_succ]
      refine (sil_underlying hd).rn.bind ?_
      simp only
      refine (sil_sizeOf hi).rn.bind ?_
      simp only [bind_assoc, pure_bind]
      refine (sil_underlying hd2).rn.bind ?_
      rw [if_neg (by cases d2 <;> first | exact absurd rfl (hni _) | simp)]
      simp only [Builtin.lenOf, pure_bind]
      rw [if_pos hc, if_pos (by cases d2 <;> first | exact absurd rfl (hni _) | simp)]
      exact hr
    cases base with
    | none =>
      obtain ⟨rfl, hK⟩ := h
      refine ⟨_, w, W, hd0 ?_, Mov.refl _ _ _ _, hs, hK⟩
      refine (rn_firstCells (vs := []) hnl (fun b hb j v hv => by simp at hv) (fun _ => rfl)).bind ?_
      exact rn_pure _
    | some a =>
      obtain ⟨h1, h2, hK⟩ := h
      obtain ⟨r, mv, s'⟩ := st_cells (X := X) (a.add (n * i.size)) (i := 0) hs h1 fun j _ hj => h2 j (by simpa using hj)
      refine ⟨_, _, _, hd0 ?_, mv, s', hK⟩
      refine (rn_firstCells (vs := new) hnl (fun b hb j v hv => rd (fun b' hb' cc ee fr hbb => setN_block _ _ _ _ _ hbb) (by rw [setN_size]; exact Nat.le_refl _) hcn b hb j v hv) (nl hcn)).bind ?_
      simp only [List.toList_toArray]
      exact r.bind (rn_pure _)
  · rw [if_neg hc] at h
    obtain ⟨hcap, hK⟩ := h
    have hsz := sim_size hx hs
    obtain ⟨nc, hnc⟩ : ∃ nc, nc = (Question.appendCap (n + m) c e).cut (w.tape w.drawn (Question.appendCap (n + m) c e)) := ⟨_, rfl⟩
    have hge : n + m ≤ nc := by rw [hnc]; simp [Question.cut]
    have hs1 := hs.refl_at (w.drawn + 1)
    have hlk := like_cells (ty := X.ty) (c := old.toArray ++ new.toArray ++ Builtin.zeroCells z.cells (nc - (n + m))) hty
    have hbl : ∀ b, b < W.heap.size → ∀ cc ee fr, W.heap[b]? = some (.cells cc ee fr) → ∃ cc', (W.alloc (.cells (old.toArray ++ new.toArray ++ Builtin.zeroCells z.cells (nc - (n + m))) e)).heap[b]? = some (.cells cc' ee fr) := fun b hb cc ee fr h => ⟨cc, (alloc_get _ _ _ hb).trans h⟩
    have hrr := fun {a : Option Addr} {vs : List Value} (hca : cellsAt W a vs) => rd (W' := W.alloc (.cells (old.toArray ++ new.toArray ++ Builtin.zeroCells z.cells (nc - (n + m))) e)) (w' := (w.at (w.drawn + 1)).alloc (.cells (old.toArray ++ new.toArray ++ Builtin.zeroCells z.cells (nc - (n + m))) e)) (a := a) (vs := vs) hbl (by simp [heap_push, World.at]) hca
    have hK := hK nc hge
    refine ⟨_, (w.at (w.drawn + 1)).alloc (.cells (old.toArray ++ new.toArray ++ Builtin.zeroCells z.cells (nc - (n + m))) e), _, ?_, (Mov.at X.ty X.co.ro W w (w.drawn + 1)).trans (Mov.alloc (w := w.at (w.drawn + 1)) hsz _ _), by rw [hx]; exact (sim_false hx hs1).alloc hlk, hK⟩
    · unfold Builtin.append_
      simp only [List.getElem?_toArray, List.getElem?_cons_zero, List.getElem?_cons_succ]
      refine (sil_underlying hd).rn.bind ?_
      simp only
      refine (sil_sizeOf hi).rn.bind ?_
      simp only [bind_assoc, pure_bind]
      refine (sil_underlying hd2).rn.bind ?_
      rw [if_neg (by cases d2 <;> first | exact absurd rfl (hni _) | simp)]
      simp only [Builtin.lenOf, pure_bind]
      rw [if_neg hc]
      refine (sil_typeInfo hi).rn.bind ?_
      rw [if_neg (by cases d2 <;> first | exact absurd rfl (hni _) | simp [hb0])]
      refine (sil_typeInfo hi).rn.bind ?_
      rw [if_neg (by omega)]
      refine (rn_choose rfl).bind ?_
      rw [← hnc]
      refine (sil_typeInfo hi).rn.bind ?_
      refine (rn_askRoom _ (.inl rfl)).bind ?_
      refine (rn_firstCells (X := X) (w := w.at (w.drawn + 1)) (vs := old) hol (fun b hb j v hv => hrr hco b hb j v hv) (nl hco)).bind ?_
      rw [if_pos (show (!false) = true from rfl)]
      refine (rn_firstCells (X := X) (w := w.at (w.drawn + 1)) (vs := new) hnl (fun b hb j v hv => hrr hcn b hb j v hv) (nl hcn)).bind ?_
      refine (sil_zeroValue hi hz).rn.bind ?_
      have := (rn_newRow (P := X.P) (w := w.at (w.drawn + 1)) (E := EvX X (W.alloc (.cells (old.toArray ++ new.toArray ++ Builtin.zeroCells z.cells (nc - (n + m))) e)) ((w.at (w.drawn + 1)).alloc (.cells (old.toArray ++ new.toArray ++ Builtin.zeroCells z.cells (nc - (n + m))) e))) e (old.toArray ++ new.toArray ++ Builtin.zeroCells z.cells (nc - (n + m)))).bind (f := fun a => (pure (Value.slice (some a) (n + m) nc) : Sem Value)) (rn_pure _)
      rw [show (w.at (w.drawn + 1)).heap.size = W.heap.size from hsz] at this
      exact this
end
end Go.Cv
