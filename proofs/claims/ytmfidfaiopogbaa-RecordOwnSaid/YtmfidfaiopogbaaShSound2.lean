/- What the shallow reading says holds of the code itself: each operation. -/
import Derived.Test.YtmfidfaiopogbaaShSound
set_option linter.unusedVariables false
set_option linter.unusedSimpArgs false
namespace Go.Sh
section
variable {X : Cx} {K : Value → World → Prop} {w : World}

theorem asPtr_some {v : Value} {a : Addr} (h : asPtr v = some a) : v = .pointer (some a) := by
  cases v <;> simp [asPtr] at h
  subst h; rfl
theorem asI_some {v : Value} {r : IntKind × Int} (h : asI v = some r) : v = .int r.1 r.2 := by
  cases v <;> simp [asI] at h
  subst h; rfl
theorem gv_some {v : Value} {b : Bool} (h : gv v = some b) : v = .bool b := by
  cases v <;> simp [gv] at h
  subst h; rfl
theorem asFn_some {v : Value} {r : FuncId × Array Value × Array Value} (h : asFn v = some r) : v = .func (.func r.1) r.2.1 r.2.2 := by
  cases v <;> simp [asFn] at h
  rename_i f a b
  cases f <;> simp at h
  subst h; rfl

/-- What hangs on no memory. -/
def Pur (P : Program) (s : Sem Value) (K : Value → World → Prop) (w : World) : Prop := ∃ v, K v w ∧ ∀ w', s.run P w' = .ok v w'
theorem Pur.qui {P : Program} {s : Sem Value} {K : Value → World → Prop} {w : World} (h : Pur P s K w) : Qui P s K w := let ⟨v, a, b⟩ := h; ⟨v, b w, a⟩
theorem pur_pure {P : Program} {s : Sem Value} {K : Value → World → Prop} {w : World} (h : optP (pureOf P s) fun v => K v w) : Pur P s K w := by
  obtain ⟨v, hv, hK⟩ := optP_some h
  exact ⟨v, hK, pureOf_run hv⟩

theorem q_load {t : Nat} {v : Value} {a : Addr} (hv : asPtr v = some a) (h : tyS X t fun s => ldWp s w a fun u => K u w) : Qui X.P (Instr.loadAt t v) K w := by
  obtain rfl := asPtr_some hv
  obtain ⟨u, hr, hK⟩ := ld_run h
  exact ⟨u, by simp [Instr.loadAt, Instr.sureAddr, hr], hK⟩
theorem v_store {t : Nat} {v u : Value} {a : Addr} {i : TypeInfo} (hv : asPtr v = some a) (hi : X.P.info? t = some i)
    (h : bif Nat.beq u.cells.size i.size then stWp u w a fun w' => K undef w' else False) : ∃ w', (Instr.storeAt t v u).run X.P w = .ok () w' ∧ K undef w' := by
  obtain rfl := asPtr_some hv
  obtain ⟨hs, h⟩ := bif_true h
  obtain ⟨w', hr, hK⟩ := st_run (P := X.P) h
  refine ⟨w', ?_, hK⟩
  simp only [Nat.beq_eq] at hs
  simp [Instr.storeAt, Instr.sureAddr, storeVar, run_sizeOf hi, hs, hr]
theorem v_alloc {e : Nat} {i : TypeInfo} {z : Value} (hi : X.P.info? e = some i) (hz : i.zero = some z)
    (h : K (.pointer (some ⟨w.heap.size, 0, none⟩)) (w.alloc (.cells z.cells e))) : Val X.P (Instr.alloc e true (.tuple #[])) K w :=
  ⟨_, _, by simp only [Instr.alloc, Sem.run_bind, run_zeroValue hi hz, Result.andThen_ok, run_newVar, Sem.run_pure], h⟩
theorem v_box {e : Nat} {v : Value} (h : K (.pointer (some ⟨w.heap.size, 0, none⟩)) (w.alloc (.cells v.cells e))) : Val X.P (Instr.box e v) K w :=
  ⟨_, _, by simp only [Instr.box, Sem.run_bind, Result.andThen_ok, run_newVar, Sem.run_pure], h⟩
theorem v_buildSlice {t len : Nat} {ps : Array (Nat × Value)} {r : Array Value × Nat} (hr : sliceCells X.P t len ps.toList = some r)
    (h : K (.slice (some ⟨w.heap.size, 0, none⟩) len len) (w.alloc (.cells r.1 r.2))) : Val X.P (Instr.buildSlice t len ps) K w := by
  unfold sliceCells at hr
  cases hd : X.P.underlying t with
  | none => simp [hd] at hr
  | some d =>
    cases d <;> simp only [hd, reduceCtorEq] at hr
    rename_i e
    cases hi : X.P.info? e with
    | none => simp [hi] at hr
    | some i =>
      simp only [hi] at hr
      split at hr
      · cases hr
      · rename_i hlt
        by_cases h0 : len * i.size = 0
        · simp only [h0, if_true] at hr
          cases hf : Instr.fill (fun j => some (j * i.size, i.size)) ((Array.range 0).map ((#[] : Array Value)[· % (#[] : Array Value).size]!)) ps.toList with
          | none => simp only [hf] at hr; cases hr
          | some cs =>
            simp only [hf, Option.map_some, Option.some.injEq] at hr
            subst hr
            refine ⟨_, _, ?_, h⟩
            have hlt' : ¬ (len * i.size > 2 ^ 24) := hlt
            simp only [Instr.buildSlice, Sem.run_bind, run_underlying hd, Result.andThen_ok, run_sizeOf hi, hlt', if_false]
            simp only [h0, if_true, Sem.run_bind, Sem.run_pure, Result.andThen_ok, hf, run_newRow]
        · simp only [h0, if_false] at hr
          cases hz : i.zero with
          | none => simp [hz] at hr
          | some z =>
            simp only [hz, Option.map_some] at hr
            cases hf : Instr.fill (fun j => some (j * i.size, i.size)) ((Array.range (len * i.size)).map (z.cells[· % z.cells.size]!)) ps.toList with
            | none => simp only [hf] at hr; cases hr
            | some cs =>
              simp only [hf, Option.map_some, Option.some.injEq] at hr
              subst hr
              refine ⟨_, _, ?_, h⟩
              have hlt' : ¬ (len * i.size > 2 ^ 24) := hlt
              simp only [Instr.buildSlice, Sem.run_bind, run_underlying hd, Result.andThen_ok, run_sizeOf hi, hlt', h0, if_false, Sem.run_pure, run_zeroValue hi hz, hf, run_newRow]
theorem q_fieldAddr {s f : Nat} {v : Value} {a : Addr} {fs : Array Field} {fl : Field} {i : TypeInfo} (hv : asPtr v = some a) (hd : X.P.underlying s = some (.struct fs))
    (hf : fs[f]? = some fl) (hi : X.P.info? fl.type = some i) (h : bif Nat.beq i.size 0 then False else K (.pointer (some (a.add fl.offset))) w) : Pur X.P (Instr.fieldAt s v f) K w := by
  obtain rfl := asPtr_some hv
  cases hs : Nat.beq i.size 0 with
  | true => simp only [hs, cond_true] at h
  | false =>
    simp only [hs, cond_false] at h
    have hs' : i.size ≠ 0 := by intro e; rw [e] at hs; simp at hs
    exact ⟨_, h, fun w' => by simp only [Instr.fieldAt, Sem.run_bind, run_underlying hd, Result.andThen_ok, hf, Instr.sureAddr, fieldPlace, run_sizeOf hi, hs', if_false, Sem.run_pure]⟩

theorem q_indexAddr {t : Nat} {vx vi : Value} (h : dopIndexAddr X t vx vi fun v => K v w) : Pur X.P (Instr.indexAt t vx vi) K w := by
  obtain ⟨r, hr, h1⟩ := optP_some h
  clear h
  obtain rfl := asI_some hr
  clear hr
  obtain ⟨d, hd, h2⟩ := optP_some h1
  clear h1
  split at h2
  · rename_i len e p
    obtain ⟨a, rfl, h3⟩ := optP_some h2
    obtain ⟨i, hi, h0, h1, h4⟩ := optP_some h3
    exact ⟨_, h4, fun w' => by simp [Instr.indexAt, asIntOf, run_underlying hd, Instr.sureAddr, h0, h1, run_sizeOf hi]⟩
  · rename_i e p len c
    obtain ⟨i, hi, h3⟩ := optP_some h2
    obtain ⟨a, rfl, h0, h1, h4⟩ := h3
    exact ⟨_, h4, fun w' => by simp [Instr.indexAt, asIntOf, run_underlying hd, h0, h1, run_sizeOf hi]⟩
  · exact h2.elim

theorem bnd_some {o : Option Value} {d hi : Nat} {k : Nat → Prop} (h : bnd o d hi k) :
    (o = none ∧ k d) ∨ ∃ kd i, o = some (.int kd i) ∧ 0 ≤ i ∧ i ≤ (hi : Int) ∧ k i.toNat := by
  cases o with
  | none => exact .inl ⟨rfl, h⟩
  | some v =>
    obtain ⟨r, hr, h0, h1, h'⟩ := optP_some h
    clear h
    obtain rfl := asI_some hr
    exact .inr ⟨_, _, rfl, h0, h1, h'⟩
theorem run_sliceBound {kd : IntKind} {i : Int} {y : Nat} {code : BoundsCode} (h0 : 0 ≤ i) (h1 : i ≤ (y : Int)) : (Instr.sliceBound (.int kd i) y code).run X.P w = .ok i.toNat w := by
  simp [Instr.sliceBound, asIntOf, h0, h1]
theorem run_sliceBounds {b : Bool} {len c : Nat} {lo hi : Option Value} {k : Nat → Nat → Prop} (h : bnd hi len c fun h => bnd lo 0 h fun l => k l h) :
    ∃ l h, (∀ w, (Instr.sliceBounds b len c lo hi none).run X.P w = .ok (l, h, c) w) ∧ k l h := by
  rcases bnd_some h with ⟨rfl, h2⟩ | ⟨kd, i, rfl, h0, h1, h2⟩ <;> rcases bnd_some h2 with ⟨rfl, h3⟩ | ⟨kd', i', rfl, h0', h1', h3⟩
  · exact ⟨_, _, fun w => by simp [Instr.sliceBounds], h3⟩
  · exact ⟨_, _, fun w => by simp [Instr.sliceBounds, run_sliceBound h0' h1'], h3⟩
  · exact ⟨_, _, fun w => by simp [Instr.sliceBounds, run_sliceBound h0 h1], h3⟩
  · exact ⟨_, _, fun w => by simp [Instr.sliceBounds, run_sliceBound h0 h1, run_sliceBound h0' h1'], h3⟩
theorem q_slice {t : Nat} {vx : Value} {lo hi : Option Value} (h : dopSlice X t vx lo hi fun v => K v w) : Pur X.P (Instr.sliceAt t vx lo hi none) K w := by
  obtain ⟨d, hd, h2⟩ := optP_some h
  clear h
  split at h2
  · rename_i e p len c
    obtain ⟨i, hi, h3⟩ := optP_some h2
    obtain ⟨l, hh, hr, h4⟩ := run_sliceBounds (X := X) (b := true) (k := fun l hh => K (.slice (subS p c l i.size) (hh - l) (c - l)) w) h3
    exact ⟨_, h4, fun w' => by simp [Instr.sliceAt, run_underlying hd, Instr.slice, hr, run_sizeOf hi, subS]⟩
  · rename_i s
    obtain ⟨l, hh, hr, h4⟩ := run_sliceBounds (X := X) (b := false) (k := fun l hh => K (.string (s.extract l hh)) w) h2
    exact ⟨_, h4, fun w' => by simp [Instr.sliceAt, run_underlying hd, Instr.slice, hr]⟩
  · rename_i n e p
    obtain ⟨a, rfl, h3⟩ := optP_some h2
    obtain ⟨i, hi, h4⟩ := optP_some h3
    obtain ⟨l, hh, hr, h5⟩ := run_sliceBounds (X := X) (b := false) (k := fun l hh => K (.slice (subS (some a) n l i.size) (hh - l) (n - l)) w) h4
    refine ⟨_, h5, fun w' => ?_⟩
    simp only [Instr.sliceAt, Sem.run_bind, run_underlying hd, Result.andThen_ok, Instr.sureAddr, Sem.run_pure, hr, run_sizeOf hi, subS]
    split <;> rfl
  · exact h2.elim
theorem q_index {t ty : Nat} {vx vi : Value} (h : dopIndex X t ty vx vi K w) : Qui X.P (Instr.index t vx vi) K w ∧ (∀ d, X.P.underlying t = some d → plainD d = true → Pur X.P (Instr.index t vx vi) K w) := by
  unfold dopIndex at h
  split at h
  · rename_i s
    obtain ⟨r, hr, h1⟩ := optP_some h
    clear h
    obtain rfl := asI_some hr
    clear hr
    obtain ⟨d, hd, h2⟩ := optP_some h1
    clear h1
    split at h2
    · obtain ⟨b, h0, hb, h3⟩ := h2
      have hp : Pur X.P (Instr.index t (.string s) (.int r.1 r.2)) K w := ⟨_, h3, fun w' => by simp [Instr.index, asIntOf, run_underlying hd, h0, hb]⟩
      exact ⟨hp.qui, fun _ _ _ => hp⟩
    · exact h2.elim
  · obtain ⟨d, hd, h2⟩ := optP_some h
    clear h
    cases hp : plainD d with
    | true => simp only [hp, cond_true] at h2
    | false =>
      simp only [hp, cond_false] at h2
      refine ⟨qui_runR h2, fun d' hd' hp' => ?_⟩
      rw [hd] at hd'; cases hd'; rw [hp] at hp'; cases hp'

theorem pure_some {P : Program} {s : Sem Value} {k : Value → Prop} (h : optP (pureOf P s) k) : ∃ v, pureOf P s = some v ∧ k v := optP_some h
theorem run_eqGuard_int (op : BinOp) (t : TypeId) (x y : Operand) (k : IntKind) (n : Int) (v : Value) : eqGuard op t x y (.int k n) v = pure () := by cases op <;> rfl
theorem run_eqGuard_str (op : BinOp) (t : TypeId) (x y : Operand) (s : ByteArray) (v : Value) : eqGuard op t x y (.string s) v = pure () := by cases op <;> rfl
theorem p_then {P : Program} {s : Sem Value} {u : Sem Unit} (hu : u = pure ()) (h : Pur P s K w) : Pur P (do u; s) K w := by
  subst hu; obtain ⟨v, hK, hr⟩ := h; exact ⟨v, hK, fun w' => by simpa using hr w'⟩
theorem q_then {P : Program} {s : Sem Value} {u : Sem Unit} (hu : u = pure ()) (h : Qui P s K w) : Qui P (do u; s) K w := by
  subst hu; obtain ⟨v, hr, hK⟩ := h; exact ⟨v, by simpa using hr, hK⟩
theorem decide_kind {k k' : IntKind} {p : Prop} (h : bif decide (k = k') then p else False) : k = k' ∧ p := by
  obtain ⟨h1, h2⟩ := bif_true h; exact ⟨of_decide_eq_true h1, h2⟩
theorem run_nil_ptr {t e : Nat} {p : Option Addr} (hd : X.P.underlying t = some (.pointer e)) (w' : World) : (Op.equal t (.pointer p) (.pointer none)).run X.P w' = .ok p.isNone w' := by
  unfold Op.equal
  obtain ⟨d, hm⟩ : ∃ d, Op.maxDepth = d + 1 := ⟨_, rfl⟩
  rw [hm]
  clear hm
  cases p <;> simp [Op.equalIn, run_underlying hd]
theorem run_nil_slc {t e : Nat} {p : Option Addr} {n c n' c' : Nat} (hd : X.P.underlying t = some (.slice e)) (w' : World) : (Op.equal t (.slice p n c) (.slice none n' c')).run X.P w' = .ok p.isNone w' := by
  unfold Op.equal
  obtain ⟨d, hm⟩ : ∃ d, Op.maxDepth = d + 1 := ⟨_, rfl⟩
  rw [hm]
  clear hm
  cases p <;> simp [Op.equalIn, run_underlying hd]
theorem run_nil_map {t e e' : Nat} {p : Option Nat} (hd : X.P.underlying t = some (.map e e')) (w' : World) : (Op.equal t (.map p) (.map none)).run X.P w' = .ok p.isNone w' := by
  unfold Op.equal
  obtain ⟨d, hm⟩ : ∃ d, Op.maxDepth = d + 1 := ⟨_, rfl⟩
  rw [hm]
  clear hm
  cases p <;> simp [Op.equalIn, run_underlying hd]
theorem nil_any {op : BinOp} (hop : isEq op = true) {t : Nat} {x y : Operand} {u v : Value} {b : Bool} (hg : ∀ op, eqGuard op t x y u v = pure ())
    (he : ∀ w', (Op.equal t u v).run X.P w' = .ok b w') (hq : binOp .eql t u v = (do pure (.bool (← Op.equal t u v)))) (hn : binOp .neq t u v = (do pure (.bool (!(← Op.equal t u v)))))
    (h : K (.bool (eqR op b)) w) : Pur X.P (do eqGuard op t x y u v; binOp op t u v) K w := by
  refine p_then (hg op) ⟨_, h, fun w' => ?_⟩
  cases op <;> simp [isEq] at hop
  · rw [hq]; simp [he, eqR]
  · rw [hn]; simp [he, eqR]
theorem nil_ptr {op : BinOp} (hop : isEq op = true) {t e : Nat} {x y : Operand} {p : Option Addr} (hd : X.P.underlying t = some (.pointer e))
    (h : K (.bool (eqR op p.isNone)) w) : Pur X.P (do eqGuard op t x y (.pointer p) (.pointer none); binOp op t (.pointer p) (.pointer none)) K w :=
  nil_any hop (fun op => by cases op <;> rfl) (run_nil_ptr hd) rfl rfl h
theorem nil_slc {op : BinOp} (hop : isEq op = true) {t e : Nat} {x y : Operand} {p : Option Addr} {n c n' c' : Nat} (hd : X.P.underlying t = some (.slice e))
    (h : K (.bool (eqR op p.isNone)) w) : Pur X.P (do eqGuard op t x y (.slice p n c) (.slice none n' c'); binOp op t (.slice p n c) (.slice none n' c')) K w :=
  nil_any hop (fun op => by cases op <;> rfl) (run_nil_slc hd) rfl rfl h
theorem nil_map {op : BinOp} (hop : isEq op = true) {t e e' : Nat} {x y : Operand} {p : Option Nat} (hd : X.P.underlying t = some (.map e e'))
    (h : K (.bool (eqR op p.isNone)) w) : Pur X.P (do eqGuard op t x y (.map p) (.map none); binOp op t (.map p) (.map none)) K w :=
  nil_any hop (fun op => by cases op <;> rfl) (run_nil_map hd) rfl rfl h
theorem q_bin {op : BinOp} {t : Nat} {x y : Operand} {vx vy : Value} (h : dopBin X op t x y vx vy K w) :
    Qui X.P (do eqGuard op t x y vx vy; binOp op t vx vy) K w ∧
      ((isNilC y = true ∨ ∃ d, X.P.underlying t = some d ∧ plainD d = true) → Pur X.P (do eqGuard op t x y vx vy; binOp op t vx vy) K w) := by
  have both : ∀ {s : Sem Value} {c : Prop}, Pur X.P s K w → Qui X.P s K w ∧ (c → Pur X.P s K w) := fun h => ⟨h.qui, fun _ => h⟩
  unfold dopBin at h
  split at h
  · rename_i k a k' b
    refine both (p_then (run_eqGuard_int ..) ?_)
    cases hq : isQuo op with
    | true =>
      simp only [hq, cond_true] at h
      obtain ⟨hb, h2⟩ := h
      obtain ⟨hk, h3⟩ := decide_kind h2
      clear h2
      subst hk
      cases op <;> simp [isQuo] at hq
      · exact ⟨_, h3, fun w' => by simp [binOp, Op.intDiv, hb]⟩
      · exact ⟨_, h3, fun w' => by simp [binOp, Op.intDiv, hb]⟩
    | false =>
      simp only [hq, cond_false] at h
      split at h
      · obtain ⟨h0, h⟩ := h
        exact ⟨_, h, fun w' => by simp [binOp, Op.shift, Int.not_lt.2 h0]⟩
      · obtain ⟨h0, h⟩ := h
        exact ⟨_, h, fun w' => by simp [binOp, Op.shift, Int.not_lt.2 h0]⟩
      · exact pur_pure h
  · rename_i a b
    refine both (p_then (run_eqGuard_str ..) ?_)
    split at h
    · obtain ⟨h0, h⟩ := h
      refine ⟨_, h, fun w' => ?_⟩
      have : ¬ (((a.size + b.size : Nat) : Int) > IntKind.i64.max) := by rw [IntKind.max_i64]; omega
      simp only [binOp, Op.stringOp, this, if_false, Sem.run_pure]
    · obtain ⟨v, hv, h⟩ := pure_some h
      exact ⟨v, h, pureOf_run (s := binOp op t (.string a) (.string b)) (by rw [← hv]; cases op <;> rfl)⟩
  · exact both (pur_pure h)
  · obtain ⟨d, hd, h4⟩ := optP_some h
    clear h
    cases hpd : plainD d with
    | true => simp only [hpd, cond_true] at h4
    | false =>
      simp only [hpd, cond_false] at h4
      cases hc : (isEq op && isNilC y) with
      | false =>
        simp only [hc, cond_false] at h4
        cases hn : isNilC y with
        | true => simp only [hn, cond_true] at h4
        | false =>
          simp only [hn, cond_false] at h4
          refine ⟨qui_runR h4, fun h => ?_⟩
          rcases h with h | ⟨d', hd', hp'⟩
          · cases h
          · rw [hd] at hd'; cases hd'; rw [hpd] at hp'; cases hp'
      | true =>
        simp only [hc, cond_true] at h4
        simp only [Bool.and_eq_true] at hc
        refine both ?_
        split at h4
        · exact nil_ptr hc.1 hd h4
        · exact nil_slc hc.1 hd h4
        · exact nil_map hc.1 hd h4
        · exact h4.elim
end
end Go.Sh
