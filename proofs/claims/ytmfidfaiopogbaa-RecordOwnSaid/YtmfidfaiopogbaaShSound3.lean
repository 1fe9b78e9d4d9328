/- What the shallow reading says holds of the code itself: any operation. -/
import Derived.Test.YtmfidfaiopogbaaShSound2
set_option linter.unusedVariables false
set_option linter.unusedSimpArgs false
namespace Go.Sh

def EP (P : Program) (s : Sem Next) (K : Value → World → Prop) (w : World) : Prop := ∃ v, K v w ∧ ∀ w', s.run P w' = .ok (.value v) w'
/-- What an operation comes to: with an effect; reading alone; hanging on no memory. -/
def Com (P : Program) (s : Sem Next) (E R : Bool) (K : Value → World → Prop) (w : World) : Prop :=
  Eff P s K w ∧ (E = false → EQ P s K w) ∧ (E = false → R = false → EP P s K w)

section
variable {P : Program} {K : Value → World → Prop} {w : World} {E R : Bool}
theorem com_pur {s : Sem Value} (h : Pur P s K w) : Com P (do pure (.value (← s))) E R K w := by
  refine ⟨(eq_of_qui h.qui).eff, fun _ => eq_of_qui h.qui, fun _ _ => ?_⟩
  obtain ⟨v, hK, hr⟩ := h
  exact ⟨v, hK, fun w' => by simp [hr w']⟩
theorem com_value {v : Value} (h : K v w) : Com P (pure (.value v)) E R K w :=
  ⟨.inl ⟨v, w, rfl, h⟩, fun _ => ⟨v, rfl, h⟩, fun _ _ => ⟨v, h, fun _ => rfl⟩⟩
theorem com_qui {s : Sem Value} (h : Qui P s K w) (hp : R = false → Pur P s K w) : Com P (do pure (.value (← s))) E R K w :=
  ⟨(eq_of_qui h).eff, fun _ => eq_of_qui h, fun _ hR => (com_pur (E := E) (R := R) (hp hR)).2.2 ‹_› hR⟩
theorem com_val {s : Sem Value} (h : Val P s K w) (hE : E = true) : Com P (do pure (.value (← s))) E R K w :=
  ⟨eff_of_val h, fun e => absurd (hE.symm.trans e) (by decide), fun e => absurd (hE.symm.trans e) (by decide)⟩
theorem com_eff {s : Sem Next} (h : Eff P s K w) (hE : E = true) : Com P s E R K w :=
  ⟨h, fun e => absurd (hE.symm.trans e) (by decide), fun e => absurd (hE.symm.trans e) (by decide)⟩
end

section
variable {X : Cx} {K : Value → World → Prop} {w : World} {ρ : Operand → Value} {σ : Env}

theorem c_convert {s d : Nat} {v : Value} (h : dopConvert X s d v K w) (o : Oper) (x : Operand) (ho : o.op = .convert s d x) :
    Com X.P (do pure (.value (← convert s d v))) (opE X.P o) (opR X.P o) K w := by
  unfold dopConvert at h
  split at h
  · rename_i k k' hs hd
    split at h
    · exact com_pur (pur_pure h)
    · exact h.elim
  · rename_i e hs hd
    exact com_qui (qui_runR h) fun hR => by simp [opR, ho, hs] at hR
  · rename_i a b c n1 n2 hs hd
    refine com_val (runT_some h) ?_
    unfold opE
    rw [ho]
    simp only
    rw [hs, hd]
    split
    · rename_i x y e1 e2
      cases e1; cases e2
      exact absurd rfl (n1 _ _ rfl)
    · rename_i x e1 e2
      cases e1; cases e2
      exact absurd rfl (n2 _ rfl)
    · rfl
  · exact h.elim

/-- Called plainly. -/
def ClOk (X : Cx) : Prop := ∀ f, X.cl f = true → ∃ fn, X.P.funcs[f]? = some fn ∧ (fn.name == "runtime.NumGoroutine") = false ∧ fn.body.isNone = false
theorem c_len {t ty : Nat} {ats : List Nat} {v : Value} (h : dopLen X t v (t :: ats) ty K w) :
    Qui X.P (Builtin.len_ (t :: ats).toArray ty #[v]) K w ∧ ((∀ k e, X.P.underlying t ≠ some (.map k e)) → Pur X.P (Builtin.len_ (t :: ats).toArray ty #[v]) K w) := by
  obtain ⟨d, hd, h2⟩ := optP_some h
  clear h
  have both : ∀ {s : Sem Value} {c : Prop}, Pur X.P s K w → Qui X.P s K w ∧ (c → Pur X.P s K w) := fun h => ⟨h.qui, fun _ => h⟩
  split at h2
  · exact both ⟨_, h2, fun w' => by simp [Builtin.len_, run_underlying hd, goInt]⟩
  · exact both ⟨_, h2, fun w' => by simp [Builtin.len_, run_underlying hd, goInt]⟩
  · exact both ⟨_, h2, fun w' => by simp [Builtin.len_, run_underlying hd, goInt]⟩
  · exact ⟨qui_runR h2, fun hn => absurd hd (hn _ _)⟩
  · exact h2.elim
theorem c_builtin {b : Builtin} {ats : List Nat} {ty : Nat} {args : List Value} (h : dopBuiltin X b ats ty args K w) (o : Oper) (cs : Array Bool) {as : Array Operand} (ho : o.op = .call { callee := .builtin b, args := as, argTypes := ats.toArray }) :
    Com X.P (builtin b ats.toArray ty cs args.toArray) (opE X.P o) (opR X.P o) K w := by
  unfold dopBuiltin at h
  split at h
  · rename_i v
    split at h
    · rename_i t ats
      obtain ⟨hq, hp⟩ := c_len h
      refine com_qui hq fun hR => hp fun k e hk => ?_
      simp [opR, ho, hk] at hR
    · exact h.elim
  · exact com_val (runT_some h) (by simp [opE, ho])
  · exact com_val (runT_some h) (by simp [opE, ho])
  · exact com_val (runT_some h) (by simp [opE, ho])
  · exact com_val (runT_some h) (by simp [opE, ho])
  · exact com_pur (pur_pure h)
  · exact com_pur (pur_pure h)
  · exact h.elim

theorem com_call (hcl : ClOk X) {f : FuncId} {a b : Array Value} {args : List Value} {sh : S2} {E R : Bool} (hE : E = true)
    (h : bif X.cl f then callWp X.P f (a.toList ++ args ++ b.toList) sh K w else False) :
    Com X.P (do let d ← Deferred.ofValue (.func (.func f) a b) args.toArray; invoke d.target d.args) E R K w := by
  obtain ⟨hc, h2⟩ := bif_true h
  obtain ⟨fn, hf, hn, hb⟩ := hcl f hc
  refine com_eff (.inr (.inr ⟨f, (a.toList ++ args ++ b.toList).toArray, w, ?_, ?_⟩)) hE
  · have e : (a.toList ++ args ++ b.toList).toArray = a ++ args.toArray ++ b := by simp
    rw [e]
    simp only [Deferred.ofValue, Sem.run_bind, Sem.run_pure, Result.andThen_ok, invoke, callFunc]
    show (Sem.run X.P (match (X.P).funcs[f]? with | none => _ | some fn => _) w) = _
    rw [hf]
    simp [hn, hb]
  · exact h2.mono fun e w' he => by
      obtain ⟨v, he, hK⟩ := exS2_some he
      exact ⟨v, he, hK⟩

theorem dop_sound (hcl : ClOk X) {o : Oper} (h : dop X o σ K w) (ha : Ag σ ρ o.op.operands.toList) : Com X.P (execOp ρ o) (opE X.P o) (opR X.P o) K w := by
  obtain ⟨dst, op, ty, pos, after, guard⟩ := o
  have ev : ∀ {x : Operand} {k : Value → Prop}, optP (σ.ev x) k → x ∈ op.operands.toList → k (ρ x) := fun h hx => by
    obtain ⟨v, hv, h⟩ := optP_some h
    rw [ha _ hx v hv]; exact h
  cases op <;> simp only [dop] at h
  case move x => exact com_value (ev h (by simp [Op.operands]))
  case assign x => exact com_value (ev h (by simp [Op.operands]))
  case pick c a b =>
    have h1 := ev h (by simp [Op.operands])
    obtain ⟨t, ht, h2⟩ := optP_some h1
    have hc := gv_some ht
    have e : execOp ρ ⟨dst, .pick c a b, ty, pos, after, guard⟩ = (do pure (.value (if ← asBool (ρ c) then ρ a else ρ b))) := rfl
    rw [e]
    simp only [hc, asBool, pure_bind]
    cases t with
    | true => exact com_value (ev (x := a) h2 (by simp [Op.operands]))
    | false => exact com_value (ev (x := b) h2 (by simp [Op.operands]))
  case alloc e =>
    obtain ⟨i, hi, h1⟩ := optP_some h
    obtain ⟨z, hz, h2⟩ := optP_some h1
    exact com_val (v_alloc hi hz h2) rfl
  case box e x => exact com_val (v_box (ev h (by simp [Op.operands]))) rfl
  case build t ps =>
    have h1 := evParts_some (ρ := ρ) h fun x hx v hv => ha x (by simpa [Op.operands] using hx) v hv
    have e : (ps.toList.map fun p => (p.1, ρ p.2)).toArray = ps.map fun (i, x) => (i, ρ x) := by rw [← Array.toList_map]
    rw [e] at h1
    exact com_pur (pur_pure h1)
  case buildSlice t len ps =>
    have h1 := evParts_some (ρ := ρ) h fun x hx v hv => ha x (by simpa [Op.operands] using hx) v hv
    obtain ⟨r, hr, h2⟩ := optP_some h1
    have e : (ps.toList.map fun p => (p.1, ρ p.2)) = (ps.map fun (i, x) => (i, ρ x)).toList := by rw [Array.toList_map]
    rw [e] at hr
    exact com_val (v_buildSlice hr h2) rfl
  case load t x =>
    obtain ⟨a, hp, h2⟩ := optP_some (ev h (by simp [Op.operands]))
    exact com_qui (q_load hp h2) fun hR => by simp [opR] at hR
  case store t x y =>
    obtain ⟨a, hp, h2⟩ := optP_some (ev h (by simp [Op.operands]))
    have h3 := ev h2 (by simp [Op.operands])
    obtain ⟨i, hi, h4⟩ := optP_some h3
    obtain ⟨w', hr, hK⟩ := v_store hp hi h4
    refine com_eff (.inr (.inl ⟨w', ?_, hK⟩)) rfl
    show Sem.run X.P (do Instr.storeAt t (ρ x) (ρ y); pure Next.skip) w = _
    simp [hr]
  case nilCheck x =>
    obtain ⟨a, hp, h2⟩ := optP_some (ev h (by simp [Op.operands]))
    have e := asPtr_some hp
    have e2 : execOp ρ ⟨dst, .nilCheck x, ty, pos, after, guard⟩ = pure (.value (.pointer (some a))) := by
      simp only [execOp, e]
    rw [e2]; exact com_value h2
  case binOp op t x y yt =>
    have h1 := ev (x := x) h (by simp [Op.operands])
    have h2 := ev (x := y) h1 (by simp [Op.operands])
    obtain ⟨hq, hp⟩ := q_bin h2
    refine com_qui hq fun hR => hp ?_
    unfold opR at hR
    simp only at hR
    cases hd : X.P.underlying t with
    | none => simp [hd] at hR
    | some d =>
      simp only [hd, Bool.and_eq_false_iff, Bool.not_eq_false'] at hR
      rcases hR with hR | hR
      · exact .inr ⟨d, rfl, hR⟩
      · exact .inl hR
  case unOp op t x =>
    have h1 := ev (x := x) h (by simp [Op.operands])
    have e : execOp ρ ⟨dst, .unOp op t x, ty, pos, after, guard⟩ = (do pure (.value (← Op.unary op (ρ x)))) := rfl
    rw [e]
    generalize ρ x = v at h1 ⊢
    split at h1
    · exact com_pur ⟨_, h1, fun w' => by simp [Op.unary]⟩
    · exact com_pur (pur_pure h1)
  case convert s d x =>
    have h1 := ev (x := x) h (by simp [Op.operands])
    exact c_convert h1 _ x rfl
  case makeFunc fn f c =>
    have h1 := evL_some (ρ := ρ) h fun x hx v hv => ha x (by simp [Op.operands] at hx ⊢; exact .inl hx) v hv
    have h2 := evL_some (ρ := ρ) h1 fun x hx v hv => ha x (by simp [Op.operands] at hx ⊢; exact .inr hx) v hv
    have e1 : (f.toList.map ρ).toArray = f.map ρ := by rw [← Array.toList_map]
    have e2 : (c.toList.map ρ).toArray = c.map ρ := by rw [← Array.toList_map]
    rw [e1, e2] at h2
    exact com_pur (s := Instr.makeFunc fn (f.map ρ) (c.map ρ)) ⟨_, h2, fun w' => rfl⟩
  case makeSlice t l c =>
    have h1 := ev (x := l) h (by simp [Op.operands])
    have h2 := ev (x := c) h1 (by simp [Op.operands])
    exact com_val (runT_some h2) rfl
  case makeMap t r =>
    have h1 := evO_some (ρ := ρ) h fun x hx v hv => ha x (by cases r <;> simp [Op.operands] at hx ⊢; exact hx) v hv
    exact com_val (runT_some h1) rfl
  case slice t x lo hi mx =>
    cases mx with
    | some m => exact h.elim
    | none =>
      have h1 := ev (x := x) h (by simp [Op.operands])
      have h2 := evO_some (ρ := ρ) h1 fun y hy v hv => ha y (by cases lo <;> simp [Op.operands] at hy ⊢; exact .inr (.inl hy)) v hv
      have h3 := evO_some (ρ := ρ) h2 fun y hy v hv => ha y (by cases hi <;> simp [Op.operands] at hy ⊢; exact .inr (.inr hy)) v hv
      exact com_pur (q_slice h3)
  case fieldAddr s x f =>
    obtain ⟨a, hp, h2⟩ := optP_some (ev h (by simp [Op.operands]))
    obtain ⟨d, hd, h3⟩ := optP_some h2
    split at h3
    · obtain ⟨fl, hf, h4⟩ := optP_some h3
      obtain ⟨i, hi, h5⟩ := optP_some h4
      exact com_pur (q_fieldAddr hp hd hf hi h5)
    · exact h3.elim
  case field t x f => exact com_pur (pur_pure (ev (x := x) h (by simp [Op.operands])))
  case indexAddr t x i =>
    have h1 := ev (x := x) h (by simp [Op.operands])
    have h2 := ev (x := i) h1 (by simp [Op.operands])
    exact com_pur (q_indexAddr h2)
  case index t x i =>
    have h1 := ev (x := x) h (by simp [Op.operands])
    have h2 := ev (x := i) h1 (by simp [Op.operands])
    obtain ⟨hq, hp⟩ := q_index h2
    refine com_qui hq fun hR => ?_
    cases hd : X.P.underlying t with
    | none => simp [opR, hd] at hR
    | some d => exact hp d hd (by simpa [opR, hd] using hR)
  case lookup t x i ok =>
    have h1 := ev (x := x) h (by simp [Op.operands])
    have h2 := ev (x := i) h1 (by simp [Op.operands])
    exact com_qui (qui_runR h2) fun hR => by simp [opR] at hR
  case extract x i => exact com_pur (pur_pure (ev (x := x) h (by simp [Op.operands])))
  case call c =>
    obtain ⟨ce, as, ats⟩ := c
    have h1 := evL_some (ρ := ρ) h fun x hx v hv => ha x (by cases ce <;> simp [Op.operands, Call.operands] at hx ⊢ <;> first | exact .inr hx | exact hx) v hv
    cases ce with
    | builtin b =>
      have := c_builtin (o := ⟨dst, .call ⟨.builtin b, as, ats⟩, ty, pos, after, guard⟩) (as := as) h1 (as.map fun | .const _ => true | _ => false) rfl
      have e1 : (as.toList.map ρ).toArray = as.map ρ := by rw [← Array.toList_map]
      rw [e1] at this
      exact this
    | value f =>
      have h2 := ev (x := f) h1 (by simp [Op.operands, Call.operands])
      obtain ⟨r, hr, h3⟩ := optP_some h2
      have hv := asFn_some hr
      have := com_call hcl (E := opE X.P ⟨dst, .call ⟨.value f, as, ats⟩, ty, pos, after, guard⟩) (R := opR X.P ⟨dst, .call ⟨.value f, as, ats⟩, ty, pos, after, guard⟩) rfl h3
      rw [← hv] at this
      have e1 : (as.toList.map ρ).toArray = as.map ρ := by rw [← Array.toList_map]
      rw [e1] at this
      exact this
    | invoke r m => exact h1.elim
  all_goals exact h.elim
end
end Go.Sh
