/- What the shallow reading says holds of the code itself: every order of a region that draws. -/
import Derived.Test.YtmfidfaiopogbaaShSound5
set_option linter.unusedVariables false
set_option linter.unusedSimpArgs false
namespace Go.Sh

def Ext (vs vs' : Vals) : Prop := ∀ i v, vs i = some v → vs' i = some v
theorem Ext.refl (vs : Vals) : Ext vs vs := fun _ _ h => h
theorem Ext.trans {a b c : Vals} (h : Ext a b) (h' : Ext b c) : Ext a c := fun i v x => h' i v (h i v x)
theorem ext_put {vs : Vals} {i : Nat} {v : Value} (h : vs i = none) : Ext vs (vs.put i v) := by
  intro j u hu
  unfold Vals.put
  cases hb : Nat.beq j i with
  | true => rw [Nat.eq_of_beq_eq_true hb, h] at hu; cases hu
  | false => exact hu
theorem put_same (vs : Vals) (i : Nat) (v : Value) : (vs.put i v) i = some v := by simp [Vals.put]
theorem put_ne (vs : Vals) {i j : Nat} (v : Value) (h : j ≠ i) : (vs.put i v) j = vs j := by
  unfold Vals.put
  cases hb : Nat.beq j i with
  | true => exact absurd (Nat.eq_of_beq_eq_true hb) h
  | false => rfl

def Wt (vs : Vals) (o : Oper) (b : Bool) : Prop :=
  match o.guard with
  | none => b = true
  | some (j, want) => ∃ y, vs j = some y ∧ b = eqOB (gv y) want
theorem Wt.mono {vs vs' : Vals} {o : Oper} {b : Bool} (h : Wt vs o b) (e : Ext vs vs') : Wt vs' o b := by
  unfold Wt at *
  split at h
  · exact h
  · obtain ⟨y, hy, hb⟩ := h
    exact ⟨y, e _ _ hy, hb⟩
theorem Wt.uniq {vs : Vals} {o : Oper} {b b' : Bool} (h : Wt vs o b) (h' : Wt vs o b') : b = b' := by
  unfold Wt at *
  cases hg : o.guard with
  | none => rw [hg] at h h'; rw [h, h']
  | some g =>
    obtain ⟨j, want⟩ := g
    rw [hg] at h h'
    obtain ⟨y, hy, hb⟩ := h
    obtain ⟨z, hz, hb'⟩ := h'
    rw [hy] at hz; cases hz
    rw [hb, hb']
theorem wantK_some {vs : Vals} {o : Oper} {k : Bool → Prop} (h : wantK vs o k) : ∃ b, Wt vs o b ∧ k b := by
  unfold wantK at h
  unfold Wt
  cases hg : o.guard with
  | none => rw [hg] at h; exact ⟨true, rfl, h⟩
  | some g =>
    obtain ⟨j, want⟩ := g
    rw [hg] at h
    obtain ⟨y, hy, h⟩ := optP_some h
    cases hc : eqOB (gv y) want with
    | true => rw [hc] at h; exact ⟨true, ⟨y, hy, hc.symm⟩, h⟩
    | false => rw [hc] at h; exact ⟨false, ⟨y, hy, hc.symm⟩, h⟩

section
variable {X : Cx} {all : List Oper} {anc : List Nat} {σ : Env}

theorem envAt_ext {vs vs' : Vals} (e : Ext vs vs') {am t : Nat} {v : Value} (h : envAt all am σ vs t = some v) : envAt all am σ vs' t = some v := by
  unfold envAt at *
  split at h
  · exact h
  · cases hb : has am _ with
    | true => rw [hb] at h; exact e _ _ h
    | false => rw [hb] at h; exact h
theorem ev_ext {σ1 σ2 : Env} (e : ∀ t v, σ1 t = some v → σ2 t = some v) {x : Operand} {v : Value} (h : σ1.ev x = some v) : σ2.ev x = some v := by
  cases x with
  | tmp t => exact e _ _ h
  | _ => exact h
theorem ag_ext {vs vs' : Vals} (e : Ext vs vs') {am : Nat} {ρ : Operand → Value} {xs : List Operand} (h : Ag (envAt all am σ vs') ρ xs) : Ag (envAt all am σ vs) ρ xs :=
  fun x hx v hv => h x hx v (ev_ext (fun t u hu => envAt_ext e hu) hv)

/-- Carried out later, the operation comes to just this. -/
def Gd (X : Cx) (all : List Oper) (anc : List Nat) (σ : Env) (vs : Vals) (w : World) (i : Nat) : Prop :=
  ∃ o v, all[i]? = some o ∧ vs i = some v ∧ ∃ b, Wt vs o b ∧ (b = false → v = undef) ∧
    (b = true → opE X.P o = false ∧ ∀ ρ, Ag (envAt all (anc.getD i 0) σ vs) ρ o.op.operands.toList →
      (execOp ρ o).run X.P w = .ok (.value v) w ∧ (opR X.P o = false → ∀ w', (execOp ρ o).run X.P w' = .ok (.value v) w'))
theorem Gd.mono {vs vs' : Vals} {w : World} {i : Nat} (h : Gd X all anc σ vs w i) (e : Ext vs vs') : Gd X all anc σ vs' w i := by
  obtain ⟨o, v, ho, hv, b, hb, h0, h1⟩ := h
  exact ⟨o, v, ho, e _ _ hv, b, hb.mono e, h0, fun hb => ⟨(h1 hb).1, fun ρ hρ => (h1 hb).2 ρ (ag_ext e hρ)⟩⟩

theorem evL_known {σ : Env} : ∀ {xs : List Operand} {k : List Value → Prop}, evL σ xs k → (∀ x, x ∈ xs → ∃ v, σ.ev x = some v) ∧ ∃ vs, k vs
  | [], k, h => ⟨fun x hx => by simp at hx, [], h⟩
  | x :: xs, k, h => by
    obtain ⟨v, hv, h⟩ := optP_some h
    obtain ⟨h1, vs, h2⟩ := evL_known (xs := xs) (k := fun us => k (v :: us)) h
    refine ⟨fun y hy => ?_, _, h2⟩
    rcases List.mem_cons.1 hy with rfl | hy
    · exact ⟨v, hv⟩
    · exact h1 y hy

/-- What is known of which operations. -/
structure Kn (n : Nat) (dn : Nat) (vs : Vals) : Prop where
  only : ∀ i v, vs i = some v → has dn i = true
  val : ∀ i, has dn i = true → ∃ v, vs i = some v
  lt : ∀ i, has dn i = true → i < n
theorem Kn.none {n dn : Nat} {vs : Vals} (h : Kn n dn vs) {i : Nat} (hi : has dn i = false) : vs i = none := by
  cases hv : vs i with
  | none => rfl
  | some v => rw [h.only i v hv] at hi; cases hi
theorem Kn.put {n dn : Nat} {vs : Vals} (h : Kn n dn vs) {i : Nat} (hi : i < n) (v : Value) : Kn n (Nat.lor dn (bit i)) (vs.put i v) := by
  refine ⟨fun j u hu => ?_, fun j hj => ?_, fun j hj => ?_⟩
  · rw [has_put]
    by_cases e : j = i
    · exact .inr e.symm
    · rw [put_ne vs v e] at hu; exact .inl (h.only j u hu)
  · by_cases e : j = i
    · subst e; exact ⟨v, put_same vs j v⟩
    · rcases (has_put dn i j).1 hj with hj | hj
      · rw [put_ne vs v e]; exact h.val j hj
      · exact absurd hj.symm e
  · rcases (has_put dn i j).1 hj with hj | hj
    · exact h.lt j hj
    · subst hj; exact hi

theorem evalNE_some (R : Reg X.n all anc) (hcl : ClOk X) {w : World} : ∀ (is : List Nat) (dn : Nat) (vs : Vals) (k : Nat → Vals → Prop),
    evalNE X all anc σ w is dn vs k → Kn all.length dn vs → is.Pairwise (· < ·) → (∀ i, i ∈ is → i < all.length) →
    ∃ dn' vs', k dn' vs' ∧ Kn all.length dn' vs' ∧ Ext vs vs' ∧ (∀ i, has dn i = true → has dn' i = true) ∧
      (∀ i, has dn' i = true → has dn i = true ∨ (i ∈ is ∧ Gd X all anc σ vs' w i)) ∧
      (∀ i, i ∈ is → sub (anc.getD i 0) dn' = true → has dn' i = true ∨ ∃ o, all[i]? = some o ∧ Wt vs' o true ∧ opE X.P o = true)
  | [], dn, vs, k, h, hk, _, _ => ⟨dn, vs, h, hk, Ext.refl _, fun _ h => h, fun _ h => .inl h, fun i hi => by simp at hi⟩
  | i :: is, dn, vs, k, h, hk, hp, hl => by
    have hi : i < all.length := hl i (by simp)
    obtain ⟨hp1, hp2⟩ := List.pairwise_cons.1 hp
    have hl2 : ∀ j, j ∈ is → j < all.length := fun j hj => hl j (by simp [hj])
    -- what comes behind i adds nothing ahead of i
    have sub_old : ∀ {dn' : Nat}, (∀ j, has dn' j = true → has dn j = true ∨ j ∈ i :: is) → sub (anc.getD i 0) dn' = true → sub (anc.getD i 0) dn = true := by
      intro dn' hd hs
      rw [sub_iff] at *
      intro j hj
      rcases hd j (hs j hj) with h | h
      · exact h
      · have hlt := anc_lt R i (List.getElem?_eq_getElem hi) hj
        rcases List.mem_cons.1 h with rfl | h
        · omega
        · have := hp1 j h; omega
    unfold evalNE at h
    cases hc : (has dn i || !(sub (anc.getD i 0) dn)) with
    | true =>
      rw [hc] at h
      obtain ⟨dn', vs', h1, h2, h3, h4, h5, h6⟩ := evalNE_some R hcl is dn vs k h hk hp2 hl2
      refine ⟨dn', vs', h1, h2, h3, h4, fun j hj => ?_, fun j hj hs => ?_⟩
      · rcases h5 j hj with h | ⟨h, h'⟩
        · exact .inl h
        · exact .inr ⟨by simp [h], h'⟩
      · rcases List.mem_cons.1 hj with rfl | hj
        · have hs2 := sub_old (fun k hk => (h5 k hk).imp id fun h => by simp [h.1]) hs
          simp only [hs2, Bool.not_true, Bool.or_false] at hc
          exact .inl (h4 _ hc)
        · exact h6 j hj hs
    | false =>
      rw [hc] at h
      simp only [Bool.or_eq_false_iff, Bool.not_eq_false'] at hc
      obtain ⟨o, ho, h⟩ := optP_some h
      obtain ⟨b, hb, h⟩ := wantK_some h
      have hv0 := hk.none hc.1
      cases b with
      | false =>
        simp only [cond_false] at h
        have e1 := ext_put (v := undef) hv0
        obtain ⟨dn', vs', h1, h2, h3, h4, h5, h6⟩ := evalNE_some R hcl is _ _ k h (hk.put hi undef) hp2 hl2
        have hin : has (Nat.lor dn (bit i)) i = true := (has_put dn i i).2 (.inr rfl)
        refine ⟨dn', vs', h1, h2, e1.trans h3, fun j hj => h4 j ((has_put dn i j).2 (.inl hj)), fun j hj => ?_, fun j hj hs => ?_⟩
        · rcases h5 j hj with h | ⟨h, h'⟩
          · rcases (has_put dn i j).1 h with h | rfl
            · exact .inl h
            · exact .inr ⟨by simp, ⟨o, undef, ho, h3 _ _ (put_same vs i undef), false, (hb.mono e1).mono h3, (fun _ => rfl), (fun h => absurd h (by decide))⟩⟩
          · exact .inr ⟨by simp [h], h'⟩
        · rcases List.mem_cons.1 hj with rfl | hj
          · exact .inl (h4 _ hin)
          · exact h6 j hj hs
      | true =>
        simp only [cond_true] at h
        cases hE : opE X.P o with
        | true =>
          simp only [hE, cond_true] at h
          obtain ⟨dn', vs', h1, h2, h3, h4, h5, h6⟩ := evalNE_some R hcl is dn vs k h hk hp2 hl2
          refine ⟨dn', vs', h1, h2, h3, h4, fun j hj => ?_, fun j hj hs => ?_⟩
          · rcases h5 j hj with h | ⟨h, h'⟩
            · exact .inl h
            · exact .inr ⟨by simp [h], h'⟩
          · rcases List.mem_cons.1 hj with rfl | hj
            · exact .inr ⟨o, ho, hb.mono h3, hE⟩
            · exact h6 j hj hs
        | false =>
          simp only [hE, cond_false] at h
          obtain ⟨hkn, us, h⟩ := evL_known h
          let ρ0 : Operand → Value := fun x => ((envAt all (anc.getD i 0) σ vs).ev x).getD undef
          have hρ0 : Ag (envAt all (anc.getD i 0) σ vs) ρ0 o.op.operands.toList := fun x _ v hv => by
            show ((envAt all (anc.getD i 0) σ vs).ev x).getD undef = v
            rw [hv]; rfl
          have hcom := dop_sound hcl h hρ0
          rw [hE] at hcom
          obtain ⟨_, hq, hpp⟩ := hcom
          -- one value, whichever way
          have hval : ∃ v, (spl (isGd all i) v fun v' => evalNE X all anc σ w is (Nat.lor dn (bit i)) (vs.put i v') k) ∧ (execOp ρ0 o).run X.P w = .ok (.value v) w ∧
              (opR X.P o = false → ∀ w', (execOp ρ0 o).run X.P w' = .ok (.value v) w') := by
            cases hR : opR X.P o with
            | true =>
              obtain ⟨v, hr, hK⟩ := hq rfl
              exact ⟨v, hK, hr, fun e => by cases e⟩
            | false =>
              obtain ⟨v, hK, hr⟩ := hpp rfl hR
              exact ⟨v, hK, hr w, fun _ => hr⟩
          obtain ⟨v, hK, hr, hr'⟩ := hval
          have hK := spl_some hK
          have e1 := ext_put (v := v) hv0
          obtain ⟨dn', vs', h1, h2, h3, h4, h5, h6⟩ := evalNE_some R hcl is _ _ k hK (hk.put hi v) hp2 hl2
          have hin : has (Nat.lor dn (bit i)) i = true := (has_put dn i i).2 (.inr rfl)
          have hgd : Gd X all anc σ vs' w i := by
            refine ⟨o, v, ho, h3 _ _ (put_same vs i v), true, (hb.mono e1).mono h3, (fun h => absurd h (by decide)), fun _ => ⟨hE, fun ρ hρ => ?_⟩⟩
            have hρ' := ag_ext (e1.trans h3) hρ
            have ee : execOp ρ o = execOp ρ0 o := execOp_congr o (fun cs b => R.sel i o cs b ho) fun x hx => by
              obtain ⟨u, hu⟩ := hkn x (by simpa using hx)
              rw [hρ' x (by simpa using hx) u hu, hρ0 x (by simpa using hx) u hu]
            rw [ee]; exact ⟨hr, hr'⟩
          refine ⟨dn', vs', h1, h2, e1.trans h3, fun j hj => h4 j ((has_put dn i j).2 (.inl hj)), fun j hj => ?_, fun j hj hs => ?_⟩
          · rcases h5 j hj with h | ⟨h, h'⟩
            · rcases (has_put dn i j).1 h with h | rfl
              · exact .inl h
              · exact .inr ⟨by simp, hgd⟩
            · exact .inr ⟨by simp [h], h'⟩
          · rcases List.mem_cons.1 hj with rfl | hj
            · exact .inl (h4 _ hin)
            · exact h6 j hj hs

theorem rechk_some {w : World} {ea dn : Nat} {vs : Vals} : ∀ (is : List Nat) {Rr : Prop}, rechk X all anc σ w ea dn vs is Rr →
    Rr ∧ ∀ i, i ∈ is → has dn i = true → has ea i = false → ∀ o, all[i]? = some o → opR X.P o = true → opE X.P o = false → Wt vs o true →
      dop X o (envAt all (anc.getD i 0) σ vs) (fun v _ => vs i = some v) w
  | [], Rr, h => ⟨h, fun i hi => by simp at hi⟩
  | i :: is, Rr, h => by
    unfold rechk at h
    have go : ∀ {p : Prop}, (p → rechk X all anc σ w ea dn vs is Rr) → p →
        (has dn i = true → has ea i = false → ∀ o, all[i]? = some o → opR X.P o = true → opE X.P o = false → Wt vs o true → dop X o (envAt all (anc.getD i 0) σ vs) (fun v _ => vs i = some v) w) →
        Rr ∧ ∀ j, j ∈ i :: is → has dn j = true → has ea j = false → ∀ o, all[j]? = some o → opR X.P o = true → opE X.P o = false → Wt vs o true →
          dop X o (envAt all (anc.getD j 0) σ vs) (fun v _ => vs j = some v) w := by
      intro p hp h0 hh
      obtain ⟨h1, h2⟩ := rechk_some is (hp h0)
      refine ⟨h1, fun j hj => ?_⟩
      rcases List.mem_cons.1 hj with rfl | hj
      · exact hh
      · exact h2 j hj
    cases hc : (has dn i && !(has ea i)) with
    | false =>
      rw [hc] at h
      refine go id h fun a b => ?_
      simp [a, b] at hc
    | true =>
      rw [hc] at h
      obtain ⟨o, ho, h⟩ := optP_some h
      cases hc2 : (opR X.P o && !(opE X.P o)) with
      | false =>
        rw [hc2] at h
        refine go id h fun _ _ o' ho' a b => ?_
        rw [ho] at ho'; cases ho'
        simp [a, b] at hc2
      | true =>
        rw [hc2] at h
        obtain ⟨b, hb, h⟩ := wantK_some (k := fun y => bif y then _ else _) h
        cases b with
        | true =>
          refine go id h.2 fun _ _ o' ho' _ _ _ => ?_
          rw [ho] at ho'; cases ho'
          exact h.1
        | false =>
          refine go id h fun _ _ o' ho' _ _ hw => ?_
          rw [ho] at ho'; cases ho'
          exact absurd (hw.uniq hb) (by decide)

end

/-! ### The orders -/
def Li (L : Array Bool) (i : Nat) : Prop := L.getD i false = true
theorem li_set {L : Array Bool} {i j : Nat} (hi : i < L.size) : Li (L.setIfInBounds i true) j ↔ Li L j ∨ i = j := by
  unfold Li
  by_cases e : i = j
  · subst e; simp [Array.getD_eq_getD_getElem?, hi]
  · simp [Array.getD_eq_getD_getElem?, Array.getElem?_setIfInBounds_ne e, e]
def unl (n : Nat) (L : Array Bool) : Nat := (List.range n).countP fun i => !L.getD i false
theorem countP_lt {p q : Nat → Bool} : ∀ {l : List Nat} {x : Nat}, (∀ y, y ∈ l → q y = true → p y = true) → x ∈ l → p x = true → q x = false → l.countP q < l.countP p
  | [], x, _, hx, _, _ => by simp at hx
  | y :: l, x, h, hx, hp, hq => by
    have hle : l.countP q ≤ l.countP p := List.countP_mono_left fun z hz => h z (by simp [hz])
    rcases List.mem_cons.1 hx with rfl | hx
    · rw [List.countP_cons_of_neg (by simp [hq]), List.countP_cons_of_pos hp]; omega
    · have ih := countP_lt (fun z hz => h z (by simp [hz])) hx hp hq
      by_cases hy : q y = true
      · rw [List.countP_cons_of_pos hy, List.countP_cons_of_pos (h y (by simp) hy)]; omega
      · rw [List.countP_cons_of_neg hy]
        have : l.countP p ≤ (y :: l).countP p := by rw [List.countP_cons]; omega
        omega
theorem unl_set {n : Nat} {L : Array Bool} {i : Nat} (hn : L.size = n) (hi : i < n) (h : ¬ Li L i) : unl n (L.setIfInBounds i true) < unl n L := by
  refine countP_lt (x := i) (fun y hy hq => ?_) (List.mem_range.2 hi) ?_ ?_
  · cases hc : L.getD y false with
    | false => rfl
    | true =>
      have : Li (L.setIfInBounds i true) y := (li_set (by omega)).2 (.inl hc)
      unfold Li at this
      simp [this] at hq
  · cases hc : L.getD i false with
    | false => rfl
    | true => exact absurd hc h
  · have : Li (L.setIfInBounds i true) i := (li_set (by omega)).2 (.inr rfl)
    unfold Li at this
    simp [this]

section
variable {X : Cx} {ops : Array Oper} {anc : List Nat} {σ : Env}

structure Inv (X : Cx) (ops : Array Oper) (anc : List Nat) (σ : Env) (a0 : Act) (ea dn : Nat) (vs : Vals) (w : World) (L : Array Bool) (a : Act) : Prop where
  sizeL : L.size = ops.size
  defers : a.defers = []
  sz : X.n ≤ a.tmps.size
  frm : Fr (opsDst ops.toList) a0 a
  kn : Kn ops.toList.length dn vs
  sub : ∀ i, Li L i → has dn i = true
  down : ∀ i j, Li L i → has (anc.getD i 0) j = true → Li L j
  ea : ∀ i, has ea i = true → Li L i
  good : ∀ i, has dn i = true → ¬ Li L i → Gd X ops.toList anc σ vs w i
  fr1 : ∀ t v, writer ops.toList t 0 = none → σ t = some v → a.tmps[t]? = some v
  fr2 : ∀ t j v, writer ops.toList t 0 = some j → Li L j → vs j = some v → a.tmps[t]? = some v
  fr3 : ∀ t j v, writer ops.toList t 0 = some j → ¬ Li L j → σ t = some v → a.tmps[t]? = some v

theorem li_lt {L : Array Bool} {i : Nat} (h : Li L i) : i < L.size := by
  unfold Li at h
  rcases Nat.lt_or_ge i L.size with hi | hi
  · exact hi
  · simp [Array.getD_eq_getD_getElem?, Array.getElem?_eq_none hi] at h

/-- What operation i finds, when all that stands ahead of it is done. -/
theorem inv_ag (R : Reg X.n ops.toList anc) {a0 : Act} {ea dn : Nat} {vs : Vals} {w : World} {L : Array Bool} {a : Act} (h : Inv X ops anc σ a0 ea dn vs w L a)
    {i : Nat} {o : Oper} (ho : ops.toList[i]? = some o) (hi : ¬ Li L i) (hr : ∀ j, has (anc.getD i 0) j = true → Li L j) :
    Ag (envAt ops.toList (anc.getD i 0) σ vs) a.eval o.op.operands.toList := by
  intro x hx v hv
  cases x with
  | const c => simpa [Env.ev, Act.eval] using hv
  | global g => simpa [Env.ev, Act.eval] using hv
  | func f => simpa [Env.ev, Act.eval] using hv
  | tmp t =>
    have hl : t ∈ looksL ops.toList o := List.mem_append_left _ (List.mem_filterMap.2 ⟨.tmp t, hx, rfl⟩)
    have : a.tmps[t]? = some v := by
      have hv' : envAt ops.toList (anc.getD i 0) σ vs t = some v := hv
      unfold envAt at hv'
      cases hw : writer ops.toList t 0 with
      | none => rw [hw] at hv'; exact h.fr1 t v hw hv'
      | some j =>
        rw [hw] at hv'
        simp only at hv'
        obtain ⟨p, _, hp, hpd⟩ := writer_some hw
        have hp' : ops.toList[j]? = some p := by simpa using hp
        cases hb : has (anc.getD i 0) j with
        | true => rw [hb] at hv'; exact h.fr2 t j v hw (hr j hb) hv'
        | false =>
          rw [hb] at hv'
          refine h.fr3 t j v hw (fun hj => ?_) hv'
          by_cases e : j = i
          · subst e; exact hi hj
          · rcases R.looks j i p o t hp' ho hpd hl e with h1 | h1
            · rw [h1] at hb; cases hb
            · exact hi (h.down j i hj h1)
    simp [Act.eval, Array.getD_eq_getD_getElem?, this]

theorem inv_wanted (R : Reg X.n ops.toList anc) {a0 : Act} {ea dn : Nat} {vs : Vals} {w : World} {L : Array Bool} {a : Act} (h : Inv X ops anc σ a0 ea dn vs w L a)
    {i : Nat} {o : Oper} (ho : ops.toList[i]? = some o) (hr : ∀ j, has (anc.getD i 0) j = true → Li L j) {b : Bool} (hw : Wt vs o b) :
    Region.wanted o (yielded ops a.tmps) = b := by
  unfold Wt at hw
  unfold Region.wanted
  cases hg : o.guard with
  | none => rw [hg] at hw; rw [hw]
  | some g =>
    obtain ⟨j, want⟩ := g
    rw [hg] at hw
    obtain ⟨y, hy, rfl⟩ := hw
    obtain ⟨h1, p, d, hp, hd⟩ := R.guard i o j want ho hg
    have ht := h.fr2 d j y (writer_at R hp hd) (hr j h1) hy
    have hp' : ops[j]? = some p := by simpa using hp
    have : yielded ops a.tmps j = gv y := by
      simp only [yielded, hp', Option.bind_some, hd, ht]
      cases y <;> rfl
    simp only [this]
    cases hc : eqOB (gv y) want with
    | true => rw [eqOB_iff.1 hc]; simp
    | false =>
      rw [beq_eq_false_iff_ne]
      intro e
      rw [eqOB_iff.2 e] at hc; cases hc

/-- One operation more is done; the world may have turned. -/
theorem inv_put (R : Reg X.n ops.toList anc) {a0 : Act} {ea dn ea' dn' : Nat} {vs vs' : Vals} {w w' : World} {L : Array Bool} {a : Act} (h : Inv X ops anc σ a0 ea dn vs w L a)
    {i : Nat} {o : Oper} {v : Value} (ho : ops.toList[i]? = some o) (hi : ¬ Li L i) (hr : ∀ j, has (anc.getD i 0) j = true → Li L j)
    (hkn : Kn ops.toList.length dn' vs') (he : Ext vs vs') (hv : vs' i = some v) (hd : ∀ j, has dn j = true → has dn' j = true) (hdi : has dn' i = true)
    (hea : ∀ j, has ea' j = true → has ea j = true ∨ j = i ∨ has (anc.getD i 0) j = true)
    (hg : ∀ j, has dn' j = true → ¬ Li L j → j ≠ i → Gd X ops.toList anc σ vs' w' j) :
    Inv X ops anc σ a0 ea' dn' vs' w' (L.setIfInBounds i true) (a.put o.dst v) := by
  have hil : i < ops.size := by
    have : i < ops.toList.length := by
      rcases Nat.lt_or_ge i ops.toList.length with h | h
      · exact h
      · simp [List.getElem?_eq_none h] at ho
    simpa using this
  have hiL : i < L.size := by rw [h.sizeL]; exact hil
  have hmem : ∀ e, o.dst = some e → e ∈ opsDst ops.toList := by
    intro e hde
    have hm := List.mem_of_getElem? ho
    clear ho hil
    generalize ops.toList = l at hm
    induction l with
    | nil => simp at hm
    | cons q l ih =>
      rcases List.mem_cons.1 hm with rfl | hm
      · simp [opsDst, hde]
      · cases hq : q.dst <;> simp [opsDst, hq, ih hm]
  have fr_other : ∀ t, o.dst ≠ some t → (a.put o.dst v).tmps[t]? = a.tmps[t]? := by
    intro t ht
    cases hde : o.dst with
    | none => rfl
    | some d =>
      have : d ≠ t := fun e => ht (by rw [hde, e])
      simp [Act.put, Array.getElem?_setIfInBounds_ne this]
  have wr_ne : ∀ t j, writer ops.toList t 0 = some j → j ≠ i → o.dst ≠ some t := by
    intro t j hw hne hdt
    rw [writer_at R ho hdt] at hw
    cases hw; exact hne rfl
  refine ⟨by simp [h.sizeL], ?_, ?_, h.frm.trans (fr_put hmem) (fun _ x => x) (fun _ x => x), hkn, fun j hj => ?_, fun j k hj hk => ?_, fun j hj => ?_, fun j hj hn => ?_, fun t u hw hu => ?_, fun t j u hw hj hu => ?_, fun t j u hw hj hu => ?_⟩
  · cases o.dst <;> exact h.defers
  · cases o.dst with
    | none => exact h.sz
    | some d => simpa [Act.put] using h.sz
  · rcases (li_set hiL).1 hj with hj | rfl
    · exact hd j (h.sub j hj)
    · exact hdi
  · refine (li_set hiL).2 (.inl ?_)
    rcases (li_set hiL).1 hj with hj | rfl
    · exact h.down j k hj hk
    · exact hr k hk
  · refine (li_set hiL).2 ?_
    rcases hea j hj with h1 | rfl | h1
    · exact .inl (h.ea j h1)
    · exact .inr rfl
    · exact .inl (hr j h1)
  · have h1 : ¬ Li L j := fun e => hn ((li_set hiL).2 (.inl e))
    have h2 : j ≠ i := fun e => hn ((li_set hiL).2 (.inr e.symm))
    exact hg j hj h1 h2
  · rw [fr_other t (fun e => by rw [writer_at R ho e] at hw; cases hw)]
    exact h.fr1 t u hw hu
  · by_cases e : j = i
    · subst e
      rw [hv] at hu; cases hu
      obtain ⟨p, _, hp, hpd⟩ := writer_some hw
      have hp' : ops.toList[j]? = some p := by simpa using hp
      rw [ho] at hp'; cases hp'
      have hlt := R.dst j o t ho hpd
      have hsz := h.sz
      rw [hpd]
      simp only [Act.put, Array.getElem?_setIfInBounds_self]
      rw [if_pos (by omega)]
    · rw [fr_other t (wr_ne t j hw e)]
      have hjL : Li L j := by
        rcases (li_set hiL).1 hj with hj | hj
        · exact hj
        · exact absurd hj.symm e
      obtain ⟨u', hu'⟩ := h.kn.val j (h.sub j hjL)
      have := he j u' hu'
      rw [hu] at this; cases this
      exact h.fr2 t j u hw hjL hu'
  · have h1 : ¬ Li L j := fun e => hj ((li_set hiL).2 (.inl e))
    have h2 : j ≠ i := fun e => hj ((li_set hiL).2 (.inr e.symm))
    rw [fr_other t (wr_ne t j hw h2)]
    exact h.fr3 t j u hw h1 hu
end
end Go.Sh
