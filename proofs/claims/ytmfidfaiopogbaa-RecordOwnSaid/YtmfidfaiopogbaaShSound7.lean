/- What the shallow reading says holds of the code itself: code and functions. -/
import Derived.Test.YtmfidfaiopogbaaShSound6
set_option linter.unusedVariables false
set_option linter.unusedSimpArgs false
namespace Go.Sh
section
variable {X : Cx} {ops : Array Oper} {anc : List Nat} {σ : Env}

def PhB (X : Cx) (all : List Oper) (anc : List Nat) (σ : Env) (Q : Env → World → Prop) (f ea dn : Nat) (vs : Vals) (w : World) : Prop :=
  match enabled anc dn (List.range all.length) with
  | [] => (bif allB (fun i => has dn i) (List.range all.length) then Q (envEnd all σ vs) w else False)
  | es => conjL (fun i => optP all[i]? fun o =>
      dop X o (envAt all (anc.getD i 0) σ vs) (fun v w' => spl (isGd all i) v fun v' =>
        rechk X all anc σ w' (Nat.lor ea (anc.getD i 0)) dn vs (List.range all.length)
          (phase X all anc σ Q f (Nat.lor ea (Nat.lor (bit i) (anc.getD i 0))) (Nat.lor dn (bit i)) (vs.put i v') w')) w) es
def Clo (X : Cx) (all : List Oper) (anc : List Nat) (dn : Nat) (vs : Vals) : Prop :=
  ∀ i, i < all.length → sub (anc.getD i 0) dn = true → has dn i = true ∨ ∃ o, all[i]? = some o ∧ Wt vs o true ∧ opE X.P o = true

theorem enabled_mem {anc : List Nat} {dn i : Nat} : ∀ {l : List Nat}, i ∈ enabled anc dn l ↔ i ∈ l ∧ has dn i = false ∧ sub (anc.getD i 0) dn = true
  | [] => by simp [enabled]
  | j :: l => by
    unfold enabled
    cases hc : (!(has dn j) && sub (anc.getD j 0) dn) with
    | true =>
      simp only [cond_true, List.mem_cons, enabled_mem (l := l)]
      simp only [Bool.and_eq_true, Bool.not_eq_true'] at hc
      constructor
      · rintro (rfl | h)
        · exact ⟨.inl rfl, hc⟩
        · exact ⟨.inr h.1, h.2⟩
      · rintro ⟨rfl | h, h2⟩
        · exact .inl rfl
        · exact .inr ⟨h, h2⟩
    | false =>
      simp only [cond_false, List.mem_cons, enabled_mem (l := l)]
      constructor
      · rintro ⟨h, h2⟩; exact ⟨.inr h, h2⟩
      · rintro ⟨rfl | h, h2⟩
        · rw [h2.1, h2.2] at hc; cases hc
        · exact ⟨h, h2⟩

theorem edgesL_mem {o : Oper} {e : Edge} (h : e ∈ o.after.toList) (hb : Region.binds .any e = true) : e.on ∈ edgesL o :=
  List.mem_filterMap.2 ⟨e, h, by simp [hb]⟩
theorem ready_iff {L : Array Bool} (hs : L.size = ops.size) {i : Nat} : i ∈ Region.ready .any ops L ↔ ∃ o, ops[i]? = some o ∧ ¬ Li L i ∧ ∀ e, e ∈ edgesL o → Li L e := by
  unfold Region.ready
  rw [List.mem_filter, List.mem_range]
  constructor
  · rintro ⟨hi, h⟩
    have ho : ops[i]? = some ops[i] := Array.getElem?_eq_getElem hi
    rw [ho] at h
    simp only [Bool.and_eq_true, Bool.not_eq_true', Option.map_some, Option.getD_some] at h
    refine ⟨_, ho, fun hl => ?_, fun e he => ?_⟩
    · unfold Li at hl
      rw [Array.getD_eq_getD_getElem?, Array.getElem?_eq_getElem (by omega)] at hl
      have h1 := h.1
      rw [Array.getD_eq_getD_getElem?, Array.getElem?_eq_getElem (by omega)] at h1
      simp at hl h1
      rw [hl] at h1; cases h1
    · obtain ⟨ed, hm, hed⟩ := List.mem_filterMap.1 he
      cases hb : Region.binds .any ed with
      | false => rw [hb] at hed; cases hed
      | true =>
        rw [hb] at hed
        simp only [cond_true, Option.some.injEq] at hed
        subst hed
        have := (Array.all_eq_true.1 h.2)
        have h3 := Array.all_eq_true'.1 h.2 ed (Array.mem_toList_iff.1 hm)
        simpa [hb, Li] using h3
  · rintro ⟨o, ho, hl, he⟩
    have hi : i < ops.size := by
      rcases Nat.lt_or_ge i ops.size with h | h
      · exact h
      · simp [Array.getElem?_eq_none h] at ho
    refine ⟨hi, ?_⟩
    rw [ho]
    simp only [Bool.and_eq_true, Bool.not_eq_true', Option.map_some, Option.getD_some]
    constructor
    · cases hc : L.getD i true with
      | false => rfl
      | true =>
        refine absurd ?_ hl
        unfold Li
        rw [Array.getD_eq_getD_getElem?, Array.getElem?_eq_getElem (by omega)] at hc ⊢
        exact hc
    · refine Array.all_eq_true'.2 fun e hm => ?_
      cases hb : Region.binds .any e with
      | false => rfl
      | true =>
        have := he e.on (edgesL_mem (Array.mem_toList_iff.2 hm) hb)
        simpa [Li] using this

theorem good_later (hcl : ClOk X) {w w' : World} {ea dn : Nat} {vs : Vals} {j : Nat} (hj : j < ops.toList.length) (hg : Gd X ops.toList anc σ vs w j)
    (hdn : has dn j = true) (hea : has ea j = false)
    (hre : ∀ i, i ∈ List.range ops.toList.length → has dn i = true → has ea i = false → ∀ o, ops.toList[i]? = some o → opR X.P o = true → opE X.P o = false → Wt vs o true →
      dop X o (envAt ops.toList (anc.getD i 0) σ vs) (fun v _ => vs i = some v) w') : Gd X ops.toList anc σ vs w' j := by
  obtain ⟨o, v, ho, hv, b, hb, h0, h1⟩ := hg
  refine ⟨o, v, ho, hv, b, hb, h0, fun hbt => ?_⟩
  obtain ⟨hE, h2⟩ := h1 hbt
  refine ⟨hE, fun ρ hρ => ⟨?_, (h2 ρ hρ).2⟩⟩
  cases hR : opR X.P o with
  | false => exact (h2 ρ hρ).2 hR w'
  | true =>
    subst hbt
    have hd := hre j (List.mem_range.2 hj) hdn hea o ho hR hE hb
    obtain ⟨u, hr, hu⟩ := (dop_sound hcl hd hρ).2.1 hE
    rw [hv] at hu; cases hu
    exact hr

theorem draw_go (R : Reg X.n ops.toList anc) (hcl : ClOk X) {Q : Exit → Act → World → Prop} {Q0 : Env → World → Prop} {a0 : Act}
    (hQ : ∀ a w vs, Agr X.n a (envEnd ops.toList σ vs) → Fr (opsDst ops.toList) a0 a → Q0 (envEnd ops.toList σ vs) w → Q .normal a w) :
    ∀ (fuel : Nat) (L : Array Bool) (a : Act) (w : World) (f ea dn : Nat) (vs : Vals), Inv X ops anc σ a0 ea dn vs w L a →
      PhB X ops.toList anc σ Q0 f ea dn vs w → Clo X ops.toList anc dn vs → unl ops.size L ≤ fuel → wpAny X.P .any ops Q fuel L a w := by
  have fin : ∀ (L : Array Bool) (a : Act) (w : World) (f ea dn : Nat) (vs : Vals), Inv X ops anc σ a0 ea dn vs w L a →
      PhB X ops.toList anc σ Q0 f ea dn vs w → Region.ready .any ops L = [] → Q .normal a w := by
    intro L a w f ea dn vs hI hP hr
    -- all is done
    have hall : ∀ i, i < ops.size → Li L i := by
      intro i
      induction i using Nat.strongRecOn with
      | _ i ih =>
        intro hi
        apply Classical.byContradiction
        intro hn
        have ho : ops[i]? = some ops[i] := Array.getElem?_eq_getElem hi
        have ho' : ops.toList[i]? = some ops[i] := by simp [hi]
        have : i ∈ Region.ready .any ops L := (ready_iff hI.sizeL).2 ⟨_, ho, hn, fun e he => by
          have := R.edge i _ ho' e he
          exact ih e this (by omega)⟩
        rw [hr] at this; simp at this
    have hdn : ∀ i, i < ops.toList.length → has dn i = true := fun i hi => hI.sub i (hall i (by simpa using hi))
    unfold PhB at hP
    have hen : enabled anc dn (List.range ops.toList.length) = [] := by
      cases he : enabled anc dn (List.range ops.toList.length) with
      | nil => rfl
      | cons i l =>
        have : i ∈ enabled anc dn (List.range ops.toList.length) := by rw [he]; simp
        obtain ⟨h1, h2, _⟩ := enabled_mem.1 this
        rw [hdn i (List.mem_range.1 h1)] at h2; cases h2
    rw [hen] at hP
    have hP := (bif_true hP).2
    refine hQ a w vs ⟨hI.defers, hI.sz, fun t v hv => ?_⟩ hI.frm hP
    unfold envEnd at hv
    cases hw : writer ops.toList t 0 with
    | none => rw [hw] at hv; exact hI.fr1 t v hw hv
    | some j =>
      rw [hw] at hv
      have hj : j < ops.toList.length := hI.kn.lt j (hI.kn.only j v hv)
      exact hI.fr2 t j v hw (hall j (by simpa using hj)) hv
  intro fuel
  induction fuel with
  | zero =>
    intro L a w f ea dn vs hI hP hC hu
    have hr : Region.ready .any ops L = [] := by
      cases he : Region.ready .any ops L with
      | nil => rfl
      | cons i l =>
        obtain ⟨o, ho, hn, _⟩ := (ready_iff hI.sizeL).1 (by rw [he]; simp : i ∈ Region.ready .any ops L)
        have hi : i < ops.size := by
          rcases Nat.lt_or_ge i ops.size with h | h
          · exact h
          · simp [Array.getElem?_eq_none h] at ho
        have := unl_set hI.sizeL hi hn
        omega
    exact ⟨hr, fin L a w f ea dn vs hI hP hr⟩
  | succ fuel ih =>
    intro L a w f ea dn vs hI hP hC hu
    refine ⟨fun hr => fin L a w f ea dn vs hI hP hr, fun i hi => ?_⟩
    obtain ⟨o, ho, hn, hed⟩ := (ready_iff hI.sizeL).1 hi
    have hil : i < ops.size := by
      rcases Nat.lt_or_ge i ops.size with h | h
      · exact h
      · simp [Array.getElem?_eq_none h] at ho
    have hil' : i < ops.toList.length := by simpa using hil
    have ho' : ops.toList[i]? = some o := by simpa using ho
    have hul : unl ops.size (L.setIfInBounds i true) ≤ fuel := by
      have := unl_set hI.sizeL hil hn
      omega
    have hr : ∀ j, has (anc.getD i 0) j = true → Li L j := by
      intro j hj
      obtain ⟨e, he, h⟩ := anc_up R ho' hj
      rcases h with rfl | h
      · exact hed _ he
      · exact hI.down e j (hed e he) h
    have hag := inv_ag R hI ho' hn hr
    unfold wpOp
    rw [ho]
    cases hd : has dn i with
    | true =>
      obtain ⟨o', v, ho2, hv, b, hb, h0, h1⟩ := hI.good i hd hn
      rw [ho'] at ho2; cases ho2
      have hwant := inv_wanted R hI ho' hr hb
      have hnext : wpAny X.P .any ops Q fuel (L.setIfInBounds i true) (a.put o.dst v) w :=
        ih _ _ w f ea dn vs (inv_put R hI ho' hn hr hI.kn (Ext.refl _) hv (fun _ h => h) hd (fun j h => .inl h) fun j hj hn _ => hI.good j hj hn) hP hC hul
      simp only [hwant]
      cases b with
      | false =>
        simp only [Bool.false_eq_true, if_false]
        rw [h0 rfl] at hnext; exact hnext
      | true =>
        simp only [if_true]
        refine .inl ?_
        unfold Oper.wp
        rw [((h1 rfl).2 a.eval hag).1]
        exact hnext
    | false =>
      have hsub : sub (anc.getD i 0) dn = true := sub_iff.2 fun j hj => hI.sub j (hr j hj)
      rcases hC i hil' hsub with h | ⟨o', ho2, hb, hE⟩
      · rw [hd] at h; cases h
      rw [ho'] at ho2; cases ho2
      have hwant := inv_wanted R hI ho' hr hb
      simp only [hwant, if_true]
      refine .inl ?_
      unfold PhB at hP
      have hin : i ∈ enabled anc dn (List.range ops.toList.length) := enabled_mem.2 ⟨List.mem_range.2 hil', hd, hsub⟩
      have hP2 : conjL (fun i => optP ops.toList[i]? fun o =>
          dop X o (envAt ops.toList (anc.getD i 0) σ vs) (fun v w' => spl (isGd ops.toList i) v fun v' =>
            rechk X ops.toList anc σ w' (Nat.lor ea (anc.getD i 0)) dn vs (List.range ops.toList.length)
              (phase X ops.toList anc σ Q0 f (Nat.lor ea (Nat.lor (bit i) (anc.getD i 0))) (Nat.lor dn (bit i)) (vs.put i v') w')) w) (enabled anc dn (List.range ops.toList.length)) := by
        revert hP
        cases he : enabled anc dn (List.range ops.toList.length) with
        | nil => rw [he] at hin; simp at hin
        | cons x y => exact fun h => h
      have hP3 := conjL_mem hP2 i hin
      obtain ⟨o', ho2, hP4⟩ := optP_some hP3
      rw [ho'] at ho2; cases ho2
      refine eff_wp (dop_sound hcl hP4 hag).1 fun v w' hv => ?_
      obtain ⟨hph, hre⟩ := rechk_some _ (spl_some hv)
      have hkn2 := hI.kn.put hil' v
      have he1 := ext_put (v := v) (hI.kn.none hd)
      cases f with
      | zero => exact hph.elim
      | succ f =>
        obtain ⟨dn3, vs3, k1, k2, k3, k4, k5, k6⟩ := evalNE_some R hcl _ _ _ _ hph hkn2 List.pairwise_lt_range (fun j hj => List.mem_range.1 hj)
        have hiin : has (Nat.lor dn (bit i)) i = true := (has_put dn i i).2 (.inr rfl)
        refine ih _ _ w' f (Nat.lor ea (Nat.lor (bit i) (anc.getD i 0))) dn3 vs3 (inv_put R hI ho' hn hr k2 (he1.trans k3) (k3 _ _ (put_same vs i v)) (fun j hj => k4 j ((has_put dn i j).2 (.inl hj))) (k4 i hiin) (fun j hj => ?_) fun j hj hnj hne => ?_) k1 (fun j hj hs => k6 j (List.mem_range.2 hj) hs) hul
        · rw [has_lor, has_lor, has_bit] at hj
          simp only [Bool.or_eq_true, decide_eq_true_eq] at hj
          rcases hj with h | h | h
          · exact .inl h
          · exact .inr (.inl h.symm)
          · exact .inr (.inr h)
        · rcases k5 j hj with h | ⟨_, h⟩
          · rcases (has_put dn i j).1 h with h | h
            · have hjlt := hI.kn.lt j h
              refine (good_later hcl hjlt (hI.good j h hnj) h ?_ hre).mono (he1.trans k3)
              cases hc : has (Nat.lor ea (anc.getD i 0)) j with
              | false => rfl
              | true =>
                rw [has_lor, Bool.or_eq_true] at hc
                rcases hc with hc | hc
                · exact absurd (hI.ea j hc) hnj
                · exact absurd (hr j hc) hnj
            · exact absurd h.symm hne
          · exact h
end

theorem denDraw_sound {X : Cx} (hcl : ClOk X) (hf : X.P.follows .mixedOrders = true) {id : Nat} {ops : Array Oper} {σ : Env} {Q0 : Env → World → Prop} {w : World} {a : Act}
    (h : denDraw X ops.toList σ Q0 w) (ha : Agr X.n a σ) {Q : Exit → Act → World → Prop}
    (hQ : ∀ a' σ' w', Agr X.n a' σ' → Fr (opsDst ops.toList) a a' → Q0 σ' w' → Q .normal a' w') : (Code.region id ops true).wp X.P Q a w := by
  obtain ⟨hok, h⟩ := bif_true h
  have R := reg_of hok
  refine wp_region_any hf ?_
  have hk0 : Kn ops.toList.length 0 (fun _ => none) := ⟨fun i v h => (by cases h), fun i h => (by rw [has_zero] at h; cases h), fun i h => (by rw [has_zero] at h; cases h)⟩
  obtain ⟨dn, vs, k1, k2, k3, k4, k5, k6⟩ := evalNE_some R hcl _ _ _ _ h hk0 List.pairwise_lt_range (fun j hj => List.mem_range.1 hj)
  have hli : ∀ i, ¬ Li (Array.replicate ops.size false) i := fun i hi => by
    unfold Li at hi
    rw [Array.getD_eq_getD_getElem?, Array.getElem?_replicate] at hi
    split at hi <;> simp at hi
  have hI : Inv X ops (ancAll ops.toList []) σ a 0 dn vs w.drew (Array.replicate ops.size false) a :=
    { sizeL := by simp, defers := ha.defers, sz := ha.size, frm := Fr.refl _ _, kn := k2
      sub := fun i hi => absurd hi (hli i), down := fun i j hi => absurd hi (hli i)
      ea := fun i hi => by rw [has_zero] at hi; cases hi
      good := fun i hi _ => by
        rcases k5 i hi with h | h
        · rw [has_zero] at h; cases h
        · exact h.2
      fr1 := fun t v _ hv => ha.at_ t v hv, fr2 := fun t j v _ hl => absurd hl (hli j), fr3 := fun t j v _ _ hv => ha.at_ t v hv }
  refine draw_go R hcl (fun a' w' vs' h1 h2 h3 => hQ a' _ w' h1 h2 h3) ops.size _ a w.drew _ 0 dn vs hI k1 (fun i hi hs => k6 i (List.mem_range.2 hi) hs) ?_
  unfold unl
  exact Nat.le_trans List.countP_le_length (by simp)
end Go.Sh
