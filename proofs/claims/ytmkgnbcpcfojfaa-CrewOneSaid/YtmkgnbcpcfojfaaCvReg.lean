/- What the shallow reading says holds of the code itself, for a goroutine in company: regions in the text's order. -/
import Derived.Test.YtmkgnbcpcfojfaaCvOps4
import Derived.Conc.CompanyDraw
set_option linter.unusedVariables false
set_option linter.unusedSimpArgs false
namespace Go.Cv
open Go.Conc
structure Agr (n : Nat) (a : Act) (σ : Env) : Prop where
  size : n ≤ a.tmps.size
  at_ : ∀ t v, σ t = some v → a.tmps[t]? = some v
def Fr (D : List Nat) (a a' : Act) : Prop := a'.tmps.size = a.tmps.size ∧ (∀ t, t ∉ D → a'.tmps[t]? = a.tmps[t]?) ∧ a'.defers = a.defers
theorem Fr.refl (D : List Nat) (a : Act) : Fr D a a := ⟨rfl, fun _ _ => rfl, rfl⟩
theorem Fr.trans {D D' E : List Nat} {a b c : Act} (h : Fr D a b) (h' : Fr D' b c) (hD : ∀ t, t ∈ D → t ∈ E) (hD' : ∀ t, t ∈ D' → t ∈ E) : Fr E a c :=
  ⟨h'.1.trans h.1, fun t ht => (h'.2.1 t fun x => ht (hD' t x)).trans (h.2.1 t fun x => ht (hD t x)), h'.2.2.trans h.2.2⟩
theorem Fr.mono {D E : List Nat} {a b : Act} (h : Fr D a b) (hD : ∀ t, t ∈ D → t ∈ E) : Fr E a b := ⟨h.1, fun t ht => h.2.1 t fun x => ht (hD t x), h.2.2⟩

theorem Agr.ev {n : Nat} {a : Act} {σ : Env} (h : Agr n a σ) {x : Operand} {v : Value} (hv : σ.ev x = some v) : a.eval x = v := by
  cases x with
  | tmp t =>
    have := h.at_ t v hv
    simp [Act.eval, Array.getD_eq_getD_getElem?, this]
  | const c => simpa [Env.ev, Act.eval] using hv
  | global g => simpa [Env.ev, Act.eval] using hv
  | func f => simpa [Env.ev, Act.eval] using hv
theorem Agr.ag {n : Nat} {a : Act} {σ : Env} (h : Agr n a σ) (xs : List Operand) : Ag σ a.eval xs := fun _ _ _ hv => h.ev hv

theorem nat_beq {a b : Nat} : Nat.beq a b = true ↔ a = b := by simp
theorem put_get {σ : Env} {d t : Nat} {v : Value} : (σ.put d v) t = if t = d then some v else σ t := by
  unfold Env.put
  by_cases h : t = d
  · subst h; simp
  · have : Nat.beq t d = false := by
      cases hb : Nat.beq t d with
      | true => exact absurd (Nat.eq_of_beq_eq_true hb) h
      | false => rfl
    simp [this, h]
theorem Agr.put {n : Nat} {a : Act} {σ : Env} (h : Agr n a σ) {d : Nat} (hd : d < n) (v : Value) : Agr n (a.put (some d) v) (σ.put d v) := by
  refine ⟨by simpa [Act.put] using h.size, fun t u hu => ?_⟩
  have hs := h.size
  rw [put_get] at hu
  by_cases ht : t = d
  · subst ht
    simp at hu; subst hu
    simp only [Act.put, Array.getElem?_setIfInBounds_self]
    rw [if_pos (by omega)]
  · rw [if_neg ht] at hu
    simp only [Act.put, Array.getElem?_setIfInBounds_ne (Ne.symm ht)]
    exact h.at_ t u hu
theorem dstK_some {n : Nat} {σ : Env} {d : Option Nat} {v : Value} {K : Env → Prop} {a : Act} (h : dstK n σ d v K) (ha : Agr n a σ) :
    ∃ σ', Agr n (a.put d v) σ' ∧ K σ' := by
  cases d with
  | none => exact ⟨σ, ha, h⟩
  | some d =>
    obtain ⟨hd, h⟩ := bif_true h
    exact ⟨_, ha.put (by simpa using hd) v, h⟩
theorem fr_put {a : Act} {d : Option Nat} {v : Value} {D : List Nat} (h : ∀ e, d = some e → e ∈ D) : Fr D a (a.put d v) := by
  cases d with
  | none => exact Fr.refl _ _
  | some d =>
    refine ⟨by simp [Act.put], fun t ht => ?_, rfl⟩
    have : d ≠ t := fun e => ht (e ▸ h d rfl)
    simp [Act.put, Array.getElem?_setIfInBounds_ne this]
theorem spl_some {g : Bool} {v : Value} {K : Value → Prop} (h : spl g v K) : K v := by
  unfold spl at h
  cases g with
  | false => exact h
  | true =>
    simp only [cond_true] at h
    cases hv : gv v with
    | none => rw [hv] at h; exact h
    | some t =>
      rw [hv] at h
      obtain rfl := gv_some hv
      cases t <;> exact h


/-! ### Steps -/
def AfterJ (co : Co) (b : Frame) (k : List Item) (cs : List Frame) : Exit → Act → World → Prop
  | .normal, a, W => co.J (G (b.at a k) cs) W
  | .exit id, a, W => ∃ k', exitTo id k = some k' ∧ co.J (G (b.at a k') cs) W
  | .ret, a, W => ∀ todo, co.J (G { b.at a todo with mode := .returning } cs) W
  | _, _, _ => False
def wpJ (co : Co) (c : Code) (Q : Exit → Act → World → Prop) (a : Act) (W : World) : Prop :=
  ∀ (b : Frame) (k : List Item) (cs : List Frame), b.kind ≠ .early → (∀ e a' W', Q e a' W' → AfterJ co b k cs e a' W') → co.J (G (b.at a (.code c :: k)) cs) W
section
variable {X : Cx} {b : Frame} {k : List Item} {cs : List Frame} {a : Act} {W : World} {ops : Array Oper}
theorem J_move (hC : Closed X.P X.ty X.ext X.co) {g g' : Goroutine} (hr : g.status = .running) (h : ∀ w, stepG X.P X.co.main g w = .go g' w #[]) (hJ : X.co.J g' W) : X.co.J g W :=
  hC g W hr fun w hw => ⟨g', w, #[], W, h w, Mov.refl _ _ _ _, hw, fun _ => ⟨rfl, rfl⟩, hJ⟩
theorem J_op (hC : Closed X.P X.ty X.ext X.co) (hk : b.kind ≠ .early) {i : Nat} {rest : List Nat} {o : Oper} {K : Value → World → Prop} (ho : ops[i]? = some o) (hw : Region.wanted o (yielded ops a.tmps) = true)
    (h : EffV X (execOp a.eval o) K W) (hN : ∀ v W', K v W' → X.co.J (G (b.at (a.put o.dst v) (.inRegion ops rest :: k)) cs) W') :
    X.co.J (G (b.at a (.inRegion ops (i :: rest) :: k)) cs) W := by
  refine hC _ W rfl fun w hs => ?_
  rcases h w hs with ⟨v, w', W', hr, hm, hs', hf, hK⟩ | ⟨w', W', hr, hm, hs', hf, hK⟩ | ⟨f, args, hr, hc⟩
  · exact ⟨_, w', _, W', stepG_value ho hw hk hr.run, hm.withEv fun e he => (hr.ev #[] e (mem_listed he)).elim (fun h => by simp at h) id, hs', hf, hN v W' hK⟩
  · exact ⟨_, w', _, W', stepG_none ho hw hk hr.run, hm.withEv fun e he => (hr.ev #[] e (mem_listed he)).elim (fun h => by simp at h) id, hs', hf, hN undef W' hK⟩
  · refine ⟨_, w, _, W, stepG_enter ho hw hk hr.run, (Mov.refl _ _ _ _).withEv fun e he => (hr.ev #[] e (mem_listed he)).elim (fun h => by simp at h) False.elim, hs, fun _ => ⟨rfl, rfl⟩, ?_⟩
    refine hc _ _ fun v W' hv => ?_
    rw [Frame.finish_at, ho]
    exact hN v W' hv
theorem J_unwanted (hC : Closed X.P X.ty X.ext X.co) {i : Nat} {rest : List Nat} {o : Oper} (ho : ops[i]? = some o) (hw : Region.wanted o (yielded ops a.tmps) = false)
    (h : X.co.J (G (b.at (a.put o.dst undef) (.inRegion ops rest :: k)) cs) W) : X.co.J (G (b.at a (.inRegion ops (i :: rest) :: k)) cs) W :=
  J_move hC rfl (fun w => stepG_unwanted ho hw) h
end
theorem yielded_of {n : Nat} {a : Act} {σ : Env} (h : Agr n a σ) {ops : Array Oper} {j : Nat} {k : Option Bool → Prop} (hy : yieldOf ops.toList σ j k) : k (yielded ops a.tmps j) := by
  obtain ⟨o, ho, hy⟩ := optP_some hy
  obtain ⟨d, hd, hy⟩ := optP_some hy
  obtain ⟨v, hv, hy⟩ := optP_some hy
  have ho' : ops[j]? = some o := by simpa using ho
  have : yielded ops a.tmps j = gv v := by
    simp only [yielded, ho', Option.bind_some, hd, h.at_ d v hv]
    cases v <;> rfl
  rw [this]; exact hy
theorem eqOB_iff {a : Option Bool} {b : Bool} : eqOB a b = true ↔ a = some b := by
  cases a with
  | none => simp [eqOB]
  | some t => cases t <;> cases b <;> simp [eqOB]

theorem denOps_sound {X : Cx} (ok : Okx X) (hC : Closed X.P X.ty X.ext X.co) (ops : Array Oper) {b : Frame} {k : List Item} {cs : List Frame} (hk : b.kind ≠ .early) :
    ∀ (r : List Oper) (i : Nat) (σ : Env) (K : Env → World → Prop) (a : Act) (w : World), r = ops.toList.drop i →
    denOps X ops.toList i r σ K w → Agr X.n a σ →
      (∀ a' σ' w', Agr X.n a' σ' → Fr (opsDst r) a a' → K σ' w' → X.co.J (G (b.at a' k) cs) w') →
      X.co.J (G (b.at a (.inRegion ops (List.range' i r.length) :: k)) cs) w
  | [], i, σ, K, a, w, hr, h, ha, hQ => J_move hC rfl (fun w => stepG_region_end) (hQ _ _ _ ha (Fr.refl _ _) h)
  | o :: r, i, σ, K, a, w, hr, h, ha, hQ => by
    have hmem : ∀ e, o.dst = some e → e ∈ opsDst (o :: r) := fun e he => by simp [opsDst, he]
    have hsub : ∀ t, t ∈ opsDst r → t ∈ opsDst (o :: r) := fun t ht => by
      cases hd : o.dst <;> simp [opsDst, hd, ht]
    have hi : i < ops.toList.length := by
      rcases Nat.lt_or_ge i ops.toList.length with h | h
      · exact h
      · rw [List.drop_eq_nil_of_le h] at hr; cases hr
    have hoi : ops.toList[i]? = some o := by
      have := congrArg List.head? hr
      rw [List.head?_drop] at this
      exact this.symm
    have ho : ops[i]? = some o := by simpa using hoi
    have hr' : r = ops.toList.drop (i + 1) := by
      have := congrArg List.tail hr
      rw [List.tail_drop] at this
      exact this
    have hrange : List.range' i (o :: r).length = i :: List.range' (i + 1) r.length := by simp [List.range'_succ]
    rw [hrange]
    have step : dop X o σ (fun v w' => spl (isGd ops.toList i) v fun v' => dstK X.n σ o.dst v' fun σ' => denOps X ops.toList (i + 1) r σ' K w') w → Region.wanted o (yielded ops a.tmps) = true →
        X.co.J (G (b.at a (.inRegion ops (i :: List.range' (i + 1) r.length) :: k)) cs) w := fun h hw => by
      refine J_op hC hk ho hw (dop_sound ok h (ha.ag _)).1 fun v w' hv => ?_
      obtain ⟨σ', ha', h'⟩ := dstK_some (spl_some hv) ha
      exact denOps_sound ok hC ops hk r (i + 1) σ' K _ w' hr' h' ha' fun a' σ'' w'' h1 h2 h3 => hQ a' σ'' w'' h1 ((fr_put hmem).trans h2 (fun _ h => h) hsub) h3
    have skip : (dstK X.n σ o.dst undef fun σ' => denOps X ops.toList (i + 1) r σ' K w) → Region.wanted o (yielded ops a.tmps) = false →
        X.co.J (G (b.at a (.inRegion ops (i :: List.range' (i + 1) r.length) :: k)) cs) w := fun h hw => by
      obtain ⟨σ', ha', h'⟩ := dstK_some h ha
      exact J_unwanted hC ho hw (denOps_sound ok hC ops hk r (i + 1) σ' K _ w hr' h' ha' fun a' σ'' w'' h1 h2 h3 => hQ a' σ'' w'' h1 ((fr_put hmem).trans h2 (fun _ h => h) hsub) h3)
    unfold denOps at h
    cases hg : o.guard with
    | none =>
      rw [hg] at h
      exact step h (by simp [Region.wanted, hg])
    | some g =>
      obtain ⟨j, want⟩ := g
      rw [hg] at h
      have h2 := yielded_of ha h
      cases hc : eqOB (yielded ops a.tmps j) want with
      | true =>
        rw [hc] at h2
        exact step h2 (by simp [Region.wanted, hg, eqOB_iff.1 hc])
      | false =>
        rw [hc] at h2
        refine skip h2 ?_
        simp only [Region.wanted, hg, beq_eq_false_iff_ne]
        intro e
        rw [eqOB_iff.2 e] at hc; cases hc
end Go.Cv
