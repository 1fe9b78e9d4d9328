/- What the shallow reading says holds of the code itself: regions in the text's order. -/
import Derived.Test.YtmfidfaiopogbaaShSound3
set_option linter.unusedVariables false
set_option linter.unusedSimpArgs false
namespace Go.Sh

structure Agr (n : Nat) (a : Act) (σ : Env) : Prop where
  defers : a.defers = []
  size : n ≤ a.tmps.size
  at_ : ∀ t v, σ t = some v → a.tmps[t]? = some v
def Fr (D : List Nat) (a a' : Act) : Prop := a'.tmps.size = a.tmps.size ∧ ∀ t, t ∉ D → a'.tmps[t]? = a.tmps[t]?
theorem Fr.refl (D : List Nat) (a : Act) : Fr D a a := ⟨rfl, fun _ _ => rfl⟩
theorem Fr.trans {D D' E : List Nat} {a b c : Act} (h : Fr D a b) (h' : Fr D' b c) (hD : ∀ t, t ∈ D → t ∈ E) (hD' : ∀ t, t ∈ D' → t ∈ E) : Fr E a c :=
  ⟨h'.1.trans h.1, fun t ht => (h'.2 t fun x => ht (hD' t x)).trans (h.2 t fun x => ht (hD t x))⟩
theorem Fr.mono {D E : List Nat} {a b : Act} (h : Fr D a b) (hD : ∀ t, t ∈ D → t ∈ E) : Fr E a b := ⟨h.1, fun t ht => h.2 t fun x => ht (hD t x)⟩

theorem Agr.ev {n : Nat} {a : Act} {σ : Env} (h : Agr n a σ) {x : Operand} {v : Value} (hv : σ.ev x = some v) : a.eval x = v := by
  cases x with
  | tmp t =>
    have := h.at_ t v hv
    simp [Act.eval, Array.getD_eq_getD_getElem?, this]
  | const c => simpa [Env.ev, Act.eval] using hv
  | global g => simpa [Env.ev, Act.eval] using hv
  | func f => simpa [Env.ev, Act.eval] using hv
theorem Agr.ag {n : Nat} {a : Act} {σ : Env} (h : Agr n a σ) (xs : List Operand) : Ag σ a.eval xs := fun _ _ _ hv => h.ev hv

theorem nat_beq {a b : Nat} : Nat.beq a b = true ↔ a = b := by simp
theorem put_get {σ : Env} {d t : Nat} {v : Value} : (σ.put d v) t = if t = d then some v else σ t := by
  unfold Env.put
  by_cases h : t = d
  · subst h; simp
  · have : Nat.beq t d = false := by
      cases hb : Nat.beq t d with
      | true => exact absurd (Nat.eq_of_beq_eq_true hb) h
      | false => rfl
    simp [this, h]
theorem Agr.put {n : Nat} {a : Act} {σ : Env} (h : Agr n a σ) {d : Nat} (hd : d < n) (v : Value) : Agr n (a.put (some d) v) (σ.put d v) := by
  refine ⟨h.defers, by simpa [Act.put] using h.size, fun t u hu => ?_⟩
  have hs := h.size
  rw [put_get] at hu
  by_cases ht : t = d
  · subst ht
    simp at hu; subst hu
    simp only [Act.put, Array.getElem?_setIfInBounds_self]
    rw [if_pos (by omega)]
  · rw [if_neg ht] at hu
    simp only [Act.put, Array.getElem?_setIfInBounds_ne (Ne.symm ht)]
    exact h.at_ t u hu
theorem dstK_some {n : Nat} {σ : Env} {d : Option Nat} {v : Value} {K : Env → Prop} {a : Act} (h : dstK n σ d v K) (ha : Agr n a σ) :
    ∃ σ', Agr n (a.put d v) σ' ∧ K σ' := by
  cases d with
  | none => exact ⟨σ, ha, h⟩
  | some d =>
    obtain ⟨hd, h⟩ := bif_true h
    exact ⟨_, ha.put (by simpa using hd) v, h⟩
theorem fr_put {a : Act} {d : Option Nat} {v : Value} {D : List Nat} (h : ∀ e, d = some e → e ∈ D) : Fr D a (a.put d v) := by
  cases d with
  | none => exact Fr.refl _ _
  | some d =>
    refine ⟨by simp [Act.put], fun t ht => ?_⟩
    have : d ≠ t := fun e => ht (e ▸ h d rfl)
    simp [Act.put, Array.getElem?_setIfInBounds_ne this]
theorem spl_some {g : Bool} {v : Value} {K : Value → Prop} (h : spl g v K) : K v := by
  unfold spl at h
  cases g with
  | false => exact h
  | true =>
    simp only [cond_true] at h
    cases hv : gv v with
    | none => rw [hv] at h; exact h
    | some t =>
      rw [hv] at h
      obtain rfl := gv_some hv
      cases t <;> exact h

theorem eff_wp {P : Program} {o : Oper} {a : Act} {K : Value → World → Prop} {w : World} (h : Eff P (execOp a.eval o) K w)
    {N : Act → World → Prop} {Q : Exit → Act → World → Prop} (hN : ∀ v w', K v w' → N (a.put o.dst v) w') : o.wp P a w N Q := by
  unfold Oper.wp
  rcases h with ⟨v, w', hr, hK⟩ | ⟨w', hr, hK⟩ | ⟨f, args, w', hr, hc⟩
  · rw [hr]; exact hN _ _ hK
  · rw [hr]; exact hN _ _ hK
  · rw [hr, Oper.upon_enter]
    refine hc.mono fun e w'' he => ?_
    obtain ⟨v, rfl, hK⟩ := he
    exact hN _ _ hK

theorem yielded_of {n : Nat} {a : Act} {σ : Env} (h : Agr n a σ) {ops : Array Oper} {j : Nat} {k : Option Bool → Prop} (hy : yieldOf ops.toList σ j k) : k (yielded ops a.tmps j) := by
  obtain ⟨o, ho, hy⟩ := optP_some hy
  obtain ⟨d, hd, hy⟩ := optP_some hy
  obtain ⟨v, hv, hy⟩ := optP_some hy
  have ho' : ops[j]? = some o := by simpa using ho
  have : yielded ops a.tmps j = gv v := by
    simp only [yielded, ho', Option.bind_some, hd, h.at_ d v hv]
    cases v <;> rfl
  rw [this]; exact hy
theorem eqOB_iff {a : Option Bool} {b : Bool} : eqOB a b = true ↔ a = some b := by
  cases a with
  | none => simp [eqOB]
  | some t => cases t <;> cases b <;> simp [eqOB]

theorem denOps_sound {X : Cx} (hcl : ClOk X) (ops : Array Oper) : ∀ (r : List Oper) (i : Nat) (σ : Env) (K : Env → World → Prop) (a : Act) (w : World),
    denOps X ops.toList i r σ K w → Agr X.n a σ → ∀ Q : Exit → Act → World → Prop,
      (∀ a' σ' w', Agr X.n a' σ' → Fr (opsDst r) a a' → K σ' w' → Q .normal a' w') → wpList X.P ops Q r a w
  | [], i, σ, K, a, w, h, ha, Q, hQ => hQ _ _ _ ha (Fr.refl _ _) h
  | o :: r, i, σ, K, a, w, h, ha, Q, hQ => by
    have hmem : ∀ e, o.dst = some e → e ∈ opsDst (o :: r) := fun e he => by simp [opsDst, he]
    have hsub : ∀ t, t ∈ opsDst r → t ∈ opsDst (o :: r) := fun t ht => by
      cases hd : o.dst <;> simp [opsDst, hd, ht]
    have step : dop X o σ (fun v w' => spl (isGd ops.toList i) v fun v' => dstK X.n σ o.dst v' fun σ' => denOps X ops.toList (i + 1) r σ' K w') w →
        o.wp X.P a w (wpList X.P ops Q r) Q := fun h => by
      refine eff_wp (dop_sound hcl h (ha.ag _)).1 fun v w' hv => ?_
      obtain ⟨σ', ha', h'⟩ := dstK_some (spl_some hv) ha
      exact denOps_sound hcl ops r (i + 1) σ' K _ w' h' ha' Q fun a' σ'' w'' h1 h2 h3 => hQ a' σ'' w'' h1 ((fr_put hmem).trans h2 (fun _ h => h) hsub) h3
    have skip : (dstK X.n σ o.dst undef fun σ' => denOps X ops.toList (i + 1) r σ' K w) → wpList X.P ops Q r (a.put o.dst undef) w := fun h => by
      obtain ⟨σ', ha', h'⟩ := dstK_some h ha
      exact denOps_sound hcl ops r (i + 1) σ' K _ w h' ha' Q fun a' σ'' w'' h1 h2 h3 => hQ a' σ'' w'' h1 ((fr_put hmem).trans h2 (fun _ h => h) hsub) h3
    unfold denOps at h
    unfold wpList
    cases hg : o.guard with
    | none =>
      rw [hg] at h
      rw [if_pos (by simp [Region.wanted, hg])]
      exact .inl (step h)
    | some g =>
      obtain ⟨j, want⟩ := g
      rw [hg] at h
      have h2 := yielded_of ha h
      cases hc : eqOB (yielded ops a.tmps j) want with
      | true =>
        rw [hc] at h2
        rw [if_pos (by simp [Region.wanted, hg, eqOB_iff.1 hc])]
        exact .inl (step h2)
      | false =>
        rw [hc] at h2
        rw [if_neg (by
          simp only [Region.wanted, hg, beq_iff_eq]
          intro e
          rw [eqOB_iff.2 e] at hc; cases hc)]
        exact skip h2
end Go.Sh
