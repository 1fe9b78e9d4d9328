/- What the shallow reading says holds of the code itself: code and functions. -/
import Derived.Test.YtmfidfaiopogbaaShSound7
set_option linter.unusedVariables false
set_option linter.unusedSimpArgs false
namespace Go.Sh

theorem allCs_mem : ∀ {vs us : List Value} {k : List Value → Prop}, allCs vs k → sameC vs us = true → k us
  | [], [], k, h, _ => h
  | [], u :: us, k, h, hs => by simp [sameC] at hs
  | v :: vs, [], k, h, hs => by simp [sameC] at hs
  | v :: vs, u :: us, k, h, hs => by
    unfold allCs at h
    unfold sameC at hs
    cases v with
    | int kd n =>
      cases u <;> simp only [Bool.and_eq_true, decide_eq_true_eq, Bool.false_eq_true] at hs
      obtain ⟨rfl, hs⟩ := hs
      exact allCs_mem (k := fun us => k (_ :: us)) (h _) hs
    | bool b => cases u <;> simp only [Bool.false_eq_true] at hs; exact allCs_mem (k := fun us => k (_ :: us)) (h _) hs
    | string b => cases u <;> simp only [Bool.false_eq_true] at hs; exact allCs_mem (k := fun us => k (_ :: us)) (h _) hs
    | pointer b => cases u <;> simp only [Bool.false_eq_true] at hs; exact allCs_mem (k := fun us => k (_ :: us)) (h _) hs
    | slice b n c => cases u <;> simp only [Bool.false_eq_true] at hs; exact allCs_mem (k := fun us => k (_ :: us)) (h _ _ _) hs
    | map b => cases u <;> simp only [Bool.false_eq_true] at hs; exact allCs_mem (k := fun us => k (_ :: us)) (h _) hs
    | _ => exact allCs_mem (k := fun us => k (_ :: us)) (h u) hs
theorem sameC_one {v u : Value} {us : List Value} (h : sameC [v] [u] = true) : True := trivial
theorem allVs_mem : ∀ {vs us : List Value} {k : List Value → Prop}, allVs vs k → sameV vs us = true → k us
  | [], [], k, h, _ => h
  | [], u :: us, k, h, hs => by simp [sameV] at hs
  | v :: vs, [], k, h, hs => by cases v <;> simp [sameV] at hs
  | v :: vs, u :: us, k, h, hs => by
    cases v with
    | agg cs =>
      unfold allVs at h
      unfold sameV at hs
      cases u <;> simp only [Bool.and_eq_true, Bool.false_eq_true] at hs
      rename_i ds
      have h1 := allCs_mem (k := fun ds => allVs vs fun us => k (.agg ds.toArray :: us)) h hs.1
      have h2 := allVs_mem (k := fun us => k (.agg ds.toList.toArray :: us)) h1 hs.2
      simpa using h2
    | _ =>
      unfold allVs at h
      unfold sameV at hs
      simp only [Bool.and_eq_true] at hs
      exact allVs_mem (k := fun us => k ([u] ++ us)) (allCs_mem (k := fun ds => allVs vs fun us => k (ds ++ us)) h hs.1) hs.2
theorem sameC_refl : ∀ (vs : List Value), sameC vs vs = true
  | [] => rfl
  | v :: vs => by cases v <;> simp [sameC, sameC_refl vs]
theorem sameV_refl : ∀ (vs : List Value), sameV vs vs = true
  | [] => rfl
  | v :: vs => by cases v <;> simp [sameV, sameC, sameC_refl, sameV_refl vs]

theorem getL_some {n : Nat} {a : Act} {σ : Env} (ha : Agr n a σ) : ∀ {L : List Nat} {k : List Value → Prop}, getL σ L k → k (L.map fun t => a.tmps.getD t undef)
  | [], k, h => h
  | t :: L, k, h => by
    obtain ⟨v, hv, h⟩ := optP_some h
    have e : a.tmps.getD t undef = v := by simp [Array.getD_eq_getD_getElem?, ha.at_ t v hv]
    rw [List.map_cons, e]
    exact getL_some ha (k := fun vs => k (v :: vs)) h
theorem putL_get {n : Nat} {a : Act} {σ : Env} : ∀ {L : List Nat} {vs : List Value}, vs = (L.map fun t => a.tmps.getD t undef) → ∀ t v, (∀ t', t' ∈ L → t' < a.tmps.size) →
    (σ.putL L vs) t = some v → (t ∈ L ∧ a.tmps[t]? = some v) ∨ σ t = some v
  | [], vs, hv, t, v, _, h => by subst hv; exact .inr h
  | s :: L, vs, hv, t, v, hb, h => by
    subst hv
    simp only [List.map_cons, Env.putL, put_get] at h
    by_cases e : t = s
    · subst e
      simp at h
      refine .inl ⟨by simp, ?_⟩
      have := hb t (by simp)
      rw [Array.getElem?_eq_getElem this, ← h, Array.getElem?_eq_getElem this]; rfl
    · rw [if_neg e] at h
      rcases putL_get (n := n) rfl t v (fun t' ht' => hb t' (by simp [ht'])) h with ⟨h1, h2⟩ | h
      · exact .inl ⟨by simp [h1], h2⟩
      · exact .inr h
theorem getL_bound {n : Nat} {a : Act} {σ : Env} (ha : Agr n a σ) : ∀ {L : List Nat} {k : List Value → Prop}, getL σ L k → ∀ t, t ∈ L → t < a.tmps.size
  | [], k, h, t, ht => by simp at ht
  | s :: L, k, h, t, ht => by
    obtain ⟨v, hv, h⟩ := optP_some h
    rcases List.mem_cons.1 ht with rfl | ht
    · have := ha.at_ t v hv
      exact (Array.getElem?_eq_some_iff.1 this).1
    · exact getL_bound ha (k := fun vs => k (v :: vs)) h t ht
theorem known_sub {σ : Env} : ∀ {L : List Nat} {t : Nat}, t ∈ known σ L → t ∈ L
  | [], t, h => by simp [known] at h
  | s :: L, t, h => by
    unfold known at h
    split at h
    · cases hm : memN s L with
      | true => rw [hm] at h; exact List.mem_cons_of_mem _ (known_sub h)
      | false =>
        rw [hm] at h
        rcases List.mem_cons.1 h with rfl | h
        · simp
        · exact List.mem_cons_of_mem _ (known_sub h)
    · exact List.mem_cons_of_mem _ (known_sub h)

/-- What holds behind a piece of code. -/
def Post (n : Nat) (D : List Nat) (a : Act) (Q : Exit → Env → World → Prop) : Exit → Act → World → Prop := fun e a' w' => ∃ σ', Agr n a' σ' ∧ Fr D a a' ∧ Q e σ' w'

theorem den_sound {X : Cx} (hcl : ClOk X) (hf : X.P.follows .mixedOrders = true) : ∀ (c : Code) (σ : Env) (Q : Exit → Env → World → Prop) (a : Act) (w : World),
    den X c σ Q w → Agr X.n a σ → c.wp X.P (Post X.n (dsts c) a Q) a w := by
  intro c
  induction c with
  | skip => intro σ Q a w h ha; exact wp_skip ⟨σ, ha, Fr.refl _ _, h⟩
  | ret => intro σ Q a w h ha; exact wp_ret ⟨σ, ha, Fr.refl _ _, h⟩
  | exit id => intro σ Q a w h ha; exact wp_exit ⟨σ, ha, Fr.refl _ _, h⟩
  | region id ops draw =>
    intro σ Q a w h ha
    cases draw with
    | false =>
      refine wp_region_list (denOps_sound hcl ops _ 0 σ (Q .normal) a w h ha _ fun a' σ' w' h1 h2 h3 => ⟨σ', h1, h2, h3⟩)
    | true => exact denDraw_sound hcl hf h ha fun a' σ' w' h1 h2 h3 => ⟨σ', h1, h2, h3⟩
  | seq x y ihx ihy =>
    intro σ Q a w h ha
    have h1 := ihx σ _ a w h ha
    refine wp_seq (Code.wp_mono (fun e a' w' hq => ?_) h1)
    obtain ⟨σ', g1, g2, g3⟩ := hq
    have hx : ∀ t, t ∈ dsts x → t ∈ dsts (x.seq y) := fun t ht => List.mem_append_left _ ht
    have hy : ∀ t, t ∈ dsts y → t ∈ dsts (x.seq y) := fun t ht => List.mem_append_right _ ht
    cases e with
    | normal =>
      refine Code.wp_mono (fun e a'' w'' hq => ?_) (ihy σ' Q a' w' g3 g1)
      obtain ⟨σ'', k1, k2, k3⟩ := hq
      exact ⟨σ'', k1, g2.trans k2 hx hy, k3⟩
    | _ => exact ⟨σ', g1, g2.mono hx, g3⟩
  | cond b x y ihx ihy =>
    intro σ Q a w h ha
    obtain ⟨v, hv, h⟩ := optP_some h
    obtain ⟨t, ht, h⟩ := optP_some h
    obtain rfl := gv_some ht
    have hx : ∀ t, t ∈ dsts x → t ∈ dsts (Code.cond b x y) := fun t ht => List.mem_append_left _ ht
    have hy : ∀ t, t ∈ dsts y → t ∈ dsts (Code.cond b x y) := fun t ht => List.mem_append_right _ ht
    refine wp_cond (ha.ev hv) ?_
    cases t with
    | true => exact Code.wp_mono (fun e a'' w'' ⟨σ'', k1, k2, k3⟩ => ⟨σ'', k1, k2.mono hx, k3⟩) (ihx σ Q a w h ha)
    | false => exact Code.wp_mono (fun e a'' w'' ⟨σ'', k1, k2, k3⟩ => ⟨σ'', k1, k2.mono hy, k3⟩) (ihy σ Q a w h ha)
  | block id x ih =>
    intro σ Q a w h ha
    refine wp_block (Code.wp_mono (fun e a' w' hq => ?_) (ih σ _ a w h ha))
    obtain ⟨σ', g1, g2, g3⟩ := hq
    cases e with
    | exit id' =>
      simp only [Exit.inBlock]
      by_cases hid : id' = id
      · rw [if_pos hid]
        subst hid
        simp at g3
        exact ⟨σ', g1, g2, g3⟩
      · rw [if_neg hid]
        have hb : Nat.beq id' id = false := by
          cases hb : Nat.beq id' id with
          | true => exact absurd (Nat.eq_of_beq_eq_true hb) hid
          | false => rfl
        simp only [hb, cond_false] at g3
        exact ⟨σ', g1, g2, g3⟩
    | _ => exact ⟨σ', g1, g2, g3⟩
  | loop x ih =>
    intro σ Q a w h ha
    -- the loop's variables
    have hL : ∀ t, t ∈ known σ (dsts x) → t < a.tmps.size := getL_bound ha h
    have h := getL_some ha h
    obtain ⟨I, μ, h0, hstep⟩ := h
    let L := known σ (dsts x)
    let vo : Act → List Value := fun a => L.map fun t => a.tmps.getD t undef
    have agr : ∀ a' : Act, Fr (dsts x) a a' → a'.defers = [] → Agr X.n a' ((σ.forget (dsts x)).putL L (vo a')) := fun a' hfr hd => by
      refine ⟨hd, by rw [hfr.1]; exact ha.size, fun t v hv => ?_⟩
      rcases putL_get (n := X.n) rfl t v (fun t' ht' => by rw [hfr.1]; exact hL t' ht') hv with ⟨_, h⟩ | h
      · exact h
      · unfold Env.forget at h
        cases hm : memN t (dsts x) with
        | true => rw [hm] at h; cases h
        | false =>
          rw [hm] at h
          rw [hfr.2 t (fun e => by rw [memN_iff.2 e] at hm; cases hm)]
          exact ha.at_ t v h
    refine wp_loop (fun a' w' => Fr (dsts x) a a' ∧ a'.defers = [] ∧ sameV (vo a) (vo a') = true ∧ I (vo a') w') (fun a' w' => μ (vo a') w') ⟨Fr.refl _ _, ha.defers, sameV_refl _, h0⟩ ?_
    rintro a1 w1 ⟨hfr, hdf, hsv, hI⟩
    have hb := allVs_mem (hstep w1) hsv hI
    refine Code.wp_mono (fun e a' w' hq => ?_) (ih _ _ a1 w1 hb (agr a1 hfr hdf))
    obtain ⟨σ', g1, g2, g3⟩ := hq
    have hfr' : Fr (dsts x) a a' := hfr.trans g2 (fun _ h => h) (fun _ h => h)
    cases e with
    | normal =>
      have g4 := getL_some g1 g3
      obtain ⟨s1, s2, s3⟩ := bif_true g4
      exact ⟨⟨hfr', g1.defers, s1, s2⟩, s3⟩
    | _ => exact ⟨σ', g1, hfr', g3⟩
  | _ => intro σ Q a w h ha; exact h.elim

theorem resOne_run {X : Cx} {n : Nat} {σ : Env} {a : Act} {w : World} (ha : Agr n a σ) {r : ResultVar} {k : Value → Prop} (h : resOne X σ w r k) :
    ∃ v, (match r with | .tmp t => pure (a.tmps.getD t undef) | .cell b t => (do loadVar t (← asAddr (a.tmps.getD b undef))) : Sem Value).run X.P w = .ok v w ∧ k v := by
  cases r with
  | tmp t =>
    obtain ⟨v, hv, hk⟩ := optP_some h
    exact ⟨v, by simp [Array.getD_eq_getD_getElem?, ha.at_ t v hv], hk⟩
  | cell b t =>
    obtain ⟨v, hv, h⟩ := optP_some h
    obtain ⟨p, hp, h⟩ := optP_some h
    obtain rfl := asPtr_some hp
    obtain ⟨u, hr, hk⟩ := ld_run h
    exact ⟨u, by simp [Array.getD_eq_getD_getElem?, ha.at_ b _ hv, asAddr, hr], hk⟩
theorem resAll_run {X : Cx} {n : Nat} {σ : Env} {a : Act} {w : World} (ha : Agr n a σ) : ∀ {rs : List ResultVar} {k : List Value → Prop}, resAll X σ w rs k →
    ∃ vs, (rs.mapM fun r => (match r with | .tmp t => pure (a.tmps.getD t undef) | .cell b t => (do loadVar t (← asAddr (a.tmps.getD b undef))) : Sem Value)).run X.P w = .ok vs w ∧ k vs ∧ vs.length = rs.length
  | [], k, h => ⟨[], by simp, h, rfl⟩
  | r :: rs, k, h => by
    obtain ⟨v, hr, h⟩ := resOne_run ha h
    obtain ⟨vs, hrs, hk, hl⟩ := resAll_run ha (k := fun vs => k (v :: vs)) h
    refine ⟨v :: vs, ?_, hk, by simp [hl]⟩
    rw [List.mapM_cons]
    simp only [Sem.run_bind]
    erw [hr]
    simp only [Result.andThen_ok]
    erw [hrs]
    rfl
theorem results_run {X : Cx} {n : Nat} {σ : Env} {a : Act} {w : World} (ha : Agr n a σ) {fn : Func} {K : Value → World → Prop}
    (h : resAll X σ w fn.results.toList fun vs => K (tupled vs) w) : ∃ v, (results fn a.tmps).run X.P w = .ok v w ∧ K v w := by
  obtain ⟨vs, hr, hk, hl⟩ := resAll_run ha h
  refine ⟨tupled vs, ?_, hk⟩
  have e : (fn.results.mapM fun r => (match r with | .tmp t => pure (a.tmps.getD t undef) | .cell b t => (do loadVar t (← asAddr (a.tmps.getD b undef))) : Sem Value)).run X.P w = .ok vs.toArray w := by
    rw [Array.mapM_eq_mapM_toList]
    simp only [Sem.run_map]
    rw [hr]
    rfl
  unfold results
  rw [Sem.run_bind]
  erw [e]
  simp only [Result.andThen_ok]
  match vs with
  | [] => rfl
  | [v] => rfl
  | u :: v :: vs => simp [tupled]

theorem denF_sound {X : Cx} (hcl : ClOk X) (hf : X.P.follows .mixedOrders = true) {f : FuncId} {fn : Func} (hfn : X.P.funcs[f]? = some fn) {args : List Value} {w : World} {R : Ending → World → Prop}
    (h : denF X fn args (fun v w' => R (.returned v) w') w) : Calls X.P f args.toArray w R := by
  obtain ⟨c, hc, h⟩ := optP_some h
  have hcl' : ClOk { X with n := fn.ntmps } := hcl
  refine calls_of_wp hfn hc ?_
  have ha : Agr fn.ntmps { tmps := args.toArray ++ Array.replicate (fn.ntmps - args.toArray.size) undef, defers := [] } (fun t => args[t]?) := by
    refine ⟨rfl, ?_, fun t v hv => ?_⟩
    · simp; omega
    · have hlt : t < args.length := by
        rcases Nat.lt_or_ge t args.length with h | h
        · exact h
        · rw [List.getElem?_eq_none h] at hv; cases hv
      simp only [Array.getElem?_append, List.size_toArray, hlt, if_true, List.getElem?_toArray]
      exact hv
  refine Code.wp_mono (fun e a' w' hq => ?_) (den_sound hcl' hf c _ _ _ w h ha)
  obtain ⟨σ', g1, g2, g3⟩ := hq
  cases e with
  | normal =>
    obtain ⟨v, hr, hK⟩ := results_run (X := X) (n := fn.ntmps) (K := fun v w' => R (.returned v) w') g1 g3
    exact ⟨g1.defers, v, hr, hK⟩
  | ret =>
    obtain ⟨v, hr, hK⟩ := results_run (X := X) (n := fn.ntmps) (K := fun v w' => R (.returned v) w') g1 g3
    exact ⟨g1.defers, v, hr, hK⟩
  | _ => exact g3.elim
end Go.Sh
