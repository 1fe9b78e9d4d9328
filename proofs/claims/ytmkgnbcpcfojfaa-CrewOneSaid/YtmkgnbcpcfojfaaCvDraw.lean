/- What the shallow reading says holds of the code itself, for a goroutine in company: every order of a region that draws. -/
import Derived.Test.YtmkgnbcpcfojfaaCvDrawA
set_option linter.unusedVariables false
set_option linter.unusedSimpArgs false
namespace Go.Cv
open Go.Conc
/-! ### The orders -/
def Li (L : Array Bool) (i : Nat) : Prop := L.getD i false = true
theorem li_set {L : Array Bool} {i j : Nat} (hi : i < L.size) : Li (L.setIfInBounds i true) j ↔ Li L j ∨ i = j := by
  unfold Li
  by_cases e : i = j
  · subst e; simp [Array.getD_eq_getD_getElem?, hi]
  · simp [Array.getD_eq_getD_getElem?, Array.getElem?_setIfInBounds_ne e, e]
def unl (n : Nat) (L : Array Bool) : Nat := (List.range n).countP fun i => !L.getD i false
theorem countP_lt {p q : Nat → Bool} : ∀ {l : List Nat} {x : Nat}, (∀ y, y ∈ l → q y = true → p y = true) → x ∈ l → p x = true → q x = false → l.countP q < l.countP p
  | [], x, _, hx, _, _ => by simp at hx
  | y :: l, x, h, hx, hp, hq => by
    have hle : l.countP q ≤ l.countP p := List.countP_mono_left fun z hz => h z (by simp [hz])
    rcases List.mem_cons.1 hx with rfl | hx
    · rw [List.countP_cons_of_neg (by simp [hq]), List.countP_cons_of_pos hp]; omega
    · have ih := countP_lt (fun z hz => h z (by simp [hz])) hx hp hq
      by_cases hy : q y = true
      · rw [List.countP_cons_of_pos hy, List.countP_cons_of_pos (h y (by simp) hy)]; omega
      · rw [List.countP_cons_of_neg hy]
        have : l.countP p ≤ (y :: l).countP p := by rw [List.countP_cons]; omega
        omega
theorem unl_set {n : Nat} {L : Array Bool} {i : Nat} (hn : L.size = n) (hi : i < n) (h : ¬ Li L i) : unl n (L.setIfInBounds i true) < unl n L := by
  refine countP_lt (x := i) (fun y hy hq => ?_) (List.mem_range.2 hi) ?_ ?_
  · cases hc : L.getD y false with
    | false => rfl
    | true =>
      have : Li (L.setIfInBounds i true) y := (li_set (by omega)).2 (.inl hc)
      unfold Li at this
      simp [this] at hq
  · cases hc : L.getD i false with
    | false => rfl
    | true => exact absurd hc h
  · have : Li (L.setIfInBounds i true) i := (li_set (by omega)).2 (.inr rfl)
    unfold Li at this
    simp [this]

section
variable {X : Cx} {ops : Array Oper} {anc : List Nat} {σ : Env}

structure Inv (X : Cx) (ops : Array Oper) (anc : List Nat) (σ : Env) (a0 : Act) (ea dn : Nat) (vs : Vals) (w : World) (L : Array Bool) (a : Act) : Prop where
  sizeL : L.size = ops.size
  sz : X.n ≤ a.tmps.size
  frm : Fr (opsDst ops.toList) a0 a
  kn : Kn ops.toList.length dn vs
  sub : ∀ i, Li L i → has dn i = true
  down : ∀ i j, Li L i → has (anc.getD i 0) j = true → Li L j
  ea : ∀ i, has ea i = true → Li L i
  good : ∀ i, has dn i = true → ¬ Li L i → Gd X ops.toList anc σ vs w i
  fr1 : ∀ t v, writer ops.toList t 0 = none → σ t = some v → a.tmps[t]? = some v
  fr2 : ∀ t j v, writer ops.toList t 0 = some j → Li L j → vs j = some v → a.tmps[t]? = some v
  fr3 : ∀ t j v, writer ops.toList t 0 = some j → ¬ Li L j → σ t = some v → a.tmps[t]? = some v

theorem li_lt {L : Array Bool} {i : Nat} (h : Li L i) : i < L.size := by
  unfold Li at h
  rcases Nat.lt_or_ge i L.size with hi | hi
  · exact hi
  · simp [Array.getD_eq_getD_getElem?, Array.getElem?_eq_none hi] at h

/-- What operation i finds, when all that stands ahead of it is done. -/
theorem inv_ag (R : Reg X.n ops.toList anc) {a0 : Act} {ea dn : Nat} {vs : Vals} {w : World} {L : Array Bool} {a : Act} (h : Inv X ops anc σ a0 ea dn vs w L a)
    {i : Nat} {o : Oper} (ho : ops.toList[i]? = some o) (hi : ¬ Li L i) (hr : ∀ j, has (anc.getD i 0) j = true → Li L j) :
    Ag (envAt ops.toList (anc.getD i 0) σ vs) a.eval o.op.operands.toList := by
  intro x hx v hv
  cases x with
  | const c => simpa [Env.ev, Act.eval] using hv
  | global g => simpa [Env.ev, Act.eval] using hv
  | func f => simpa [Env.ev, Act.eval] using hv
  | tmp t =>
    have hl : t ∈ looksL ops.toList o := List.mem_append_left _ (List.mem_filterMap.2 ⟨.tmp t, hx, rfl⟩)
    have : a.tmps[t]? = some v := by
      have hv' : envAt ops.toList (anc.getD i 0) σ vs t = some v := hv
      unfold envAt at hv'
      cases hw : writer ops.toList t 0 with
      | none => rw [hw] at hv'; exact h.fr1 t v hw hv'
      | some j =>
        rw [hw] at hv'
        simp only at hv'
        obtain ⟨p, _, hp, hpd⟩ := writer_some hw
        have hp' : ops.toList[j]? = some p := by simpa using hp
        cases hb : has (anc.getD i 0) j with
        | true => rw [hb] at hv'; exact h.fr2 t j v hw (hr j hb) hv'
        | false =>
          rw [hb] at hv'
          refine h.fr3 t j v hw (fun hj => ?_) hv'
          by_cases e : j = i
          · subst e; exact hi hj
          · rcases R.looks j i p o t hp' ho hpd hl e with h1 | h1
            · rw [h1] at hb; cases hb
            · exact hi (h.down j i hj h1)
    simp [Act.eval, Array.getD_eq_getD_getElem?, this]

theorem inv_wanted (R : Reg X.n ops.toList anc) {a0 : Act} {ea dn : Nat} {vs : Vals} {w : World} {L : Array Bool} {a : Act} (h : Inv X ops anc σ a0 ea dn vs w L a)
    {i : Nat} {o : Oper} (ho : ops.toList[i]? = some o) (hr : ∀ j, has (anc.getD i 0) j = true → Li L j) {b : Bool} (hw : Wt vs o b) :
    Region.wanted o (yielded ops a.tmps) = b := by
  unfold Wt at hw
  unfold Region.wanted
  cases hg : o.guard with
  | none => rw [hg] at hw; rw [hw]
  | some g =>
    obtain ⟨j, want⟩ := g
    rw [hg] at hw
    obtain ⟨y, hy, rfl⟩ := hw
    obtain ⟨h1, p, d, hp, hd⟩ := R.guard i o j want ho hg
    have ht := h.fr2 d j y (writer_at R hp hd) (hr j h1) hy
    have hp' : ops[j]? = some p := by simpa using hp
    have : yielded ops a.tmps j = gv y := by
      simp only [yielded, hp', Option.bind_some, hd, ht]
      cases y <;> rfl
    simp only [this]
    cases hc : eqOB (gv y) want with
    | true => rw [eqOB_iff.1 hc]; simp
    | false =>
      rw [beq_eq_false_iff_ne]
      intro e
      rw [eqOB_iff.2 e] at hc; cases hc

/-- One operation more is done; the world may have turned. -/
theorem inv_put (R : Reg X.n ops.toList anc) {a0 : Act} {ea dn ea' dn' : Nat} {vs vs' : Vals} {w w' : World} {L : Array Bool} {a : Act} (h : Inv X ops anc σ a0 ea dn vs w L a)
    {i : Nat} {o : Oper} {v : Value} (ho : ops.toList[i]? = some o) (hi : ¬ Li L i) (hr : ∀ j, has (anc.getD i 0) j = true → Li L j)
    (hkn : Kn ops.toList.length dn' vs') (he : Ext vs vs') (hv : vs' i = some v) (hd : ∀ j, has dn j = true → has dn' j = true) (hdi : has dn' i = true)
    (hea : ∀ j, has ea' j = true → has ea j = true ∨ j = i ∨ has (anc.getD i 0) j = true)
    (hg : ∀ j, has dn' j = true → ¬ Li L j → j ≠ i → Gd X ops.toList anc σ vs' w' j) :
    Inv X ops anc σ a0 ea' dn' vs' w' (L.setIfInBounds i true) (a.put o.dst v) := by
  have hil : i < ops.size := by
    have : i < ops.toList.length := by
      rcases Nat.lt_or_ge i ops.toList.length with h | h
      · exact h
      · simp [List.getElem?_eq_none h] at ho
    simpa using this
  have hiL : i < L.size := by rw [h.sizeL]; exact hil
  have hmem : ∀ e, o.dst = some e → e ∈ opsDst ops.toList := by
    intro e hde
    have hm := List.mem_of_getElem? ho
    clear ho hil
    generalize ops.toList = l at hm
    induction l with
    | nil => simp at hm
    | cons q l ih =>
      rcases List.mem_cons.1 hm with rfl | hm
      · simp [opsDst, hde]
      · cases hq : q.dst <;> simp [opsDst, hq, ih hm]
  have fr_other : ∀ t, o.dst ≠ some t → (a.put o.dst v).tmps[t]? = a.tmps[t]? := by
    intro t ht
    cases hde : o.dst with
    | none => rfl
    | some d =>
      have : d ≠ t := fun e => ht (by rw [hde, e])
      simp [Act.put, Array.getElem?_setIfInBounds_ne this]
  have wr_ne : ∀ t j, writer ops.toList t 0 = some j → j ≠ i → o.dst ≠ some t := by
    intro t j hw hne hdt
    rw [writer_at R ho hdt] at hw
    cases hw; exact hne rfl
  refine ⟨by simp [h.sizeL], ?_, h.frm.trans (fr_put hmem) (fun _ x => x) (fun _ x => x), hkn, fun j hj => ?_, fun j k hj hk => ?_, fun j hj => ?_, fun j hj hn => ?_, fun t u hw hu => ?_, fun t j u hw hj hu => ?_, fun t j u hw hj hu => ?_⟩
  · cases o.dst with
    | none => exact h.sz
    | some d => simpa [Act.put] using h.sz
  · rcases (li_set hiL).1 hj with hj | rfl
    · exact hd j (h.sub j hj)
    · exact hdi
  · refine (li_set hiL).2 (.inl ?_)
    rcases (li_set hiL).1 hj with hj | rfl
    · exact h.down j k hj hk
    · exact hr k hk
  · refine (li_set hiL).2 ?_
    rcases hea j hj with h1 | rfl | h1
    · exact .inl (h.ea j h1)
    · exact .inr rfl
    · exact .inl (hr j h1)
  · have h1 : ¬ Li L j := fun e => hn ((li_set hiL).2 (.inl e))
    have h2 : j ≠ i := fun e => hn ((li_set hiL).2 (.inr e.symm))
    exact hg j hj h1 h2
  · rw [fr_other t (fun e => by rw [writer_at R ho e] at hw; cases hw)]
    exact h.fr1 t u hw hu
  · by_cases e : j = i
    · subst e
      rw [hv] at hu; cases hu
      obtain ⟨p, _, hp, hpd⟩ := writer_some hw
      have hp' : ops.toList[j]? = some p := by simpa using hp
      rw [ho] at hp'; cases hp'
      have hlt := R.dst j o t ho hpd
      have hsz := h.sz
      rw [hpd]
      simp only [Act.put, Array.getElem?_setIfInBounds_self]
      rw [if_pos (by omega)]
    · rw [fr_other t (wr_ne t j hw e)]
      have hjL : Li L j := by
        rcases (li_set hiL).1 hj with hj | hj
        · exact hj
        · exact absurd hj.symm e
      obtain ⟨u', hu'⟩ := h.kn.val j (h.sub j hjL)
      have := he j u' hu'
      rw [hu] at this; cases this
      exact h.fr2 t j u hw hjL hu'
  · have h1 : ¬ Li L j := fun e => hj ((li_set hiL).2 (.inl e))
    have h2 : j ≠ i := fun e => hj ((li_set hiL).2 (.inr e.symm))
    rw [fr_other t (wr_ne t j hw h2)]
    exact h.fr3 t j u hw h1 hu
end
section
variable {X : Cx} {ops : Array Oper} {anc : List Nat} {σ : Env}

def PhB (X : Cx) (all : List Oper) (anc : List Nat) (σ : Env) (Q : Env → World → Prop) (f ea dn : Nat) (vs : Vals) (w : World) : Prop :=
  match enabled anc dn (List.range all.length) with
  | [] => (bif allB (fun i => has dn i) (List.range all.length) then Q (envEnd all σ vs) w else False)
  | es => conjL (fun i => optP all[i]? fun o =>
      dop X o (envAt all (anc.getD i 0) σ vs) (fun v w' => spl (isGd all i) v fun v' =>
        rechk X all anc σ w' (Nat.lor ea (anc.getD i 0)) dn vs (List.range all.length)
          (phase X all anc σ Q f (Nat.lor ea (Nat.lor (bit i) (anc.getD i 0))) (Nat.lor dn (bit i)) (vs.put i v') w')) w) es
def Clo (X : Cx) (all : List Oper) (anc : List Nat) (dn : Nat) (vs : Vals) : Prop :=
  ∀ i, i < all.length → sub (anc.getD i 0) dn = true → has dn i = true ∨ ∃ o, all[i]? = some o ∧ Wt vs o true ∧ opE X.P o = true

theorem enabled_mem {anc : List Nat} {dn i : Nat} : ∀ {l : List Nat}, i ∈ enabled anc dn l ↔ i ∈ l ∧ has dn i = false ∧ sub (anc.getD i 0) dn = true
  | [] => by simp [enabled]
  | j :: l => by
    unfold enabled
    cases hc : (!(has dn j) && sub (anc.getD j 0) dn) with
    | true =>
      simp only [cond_true, List.mem_cons, enabled_mem (l := l)]
      simp only [Bool.and_eq_true, Bool.not_eq_true'] at hc
      constructor
      · rintro (rfl | h)
        · exact ⟨.inl rfl, hc⟩
        · exact ⟨.inr h.1, h.2⟩
      · rintro ⟨rfl | h, h2⟩
        · exact .inl rfl
        · exact .inr ⟨h, h2⟩
    | false =>
      simp only [cond_false, List.mem_cons, enabled_mem (l := l)]
      constructor
      · rintro ⟨h, h2⟩; exact ⟨.inr h, h2⟩
      · rintro ⟨rfl | h, h2⟩
        · rw [h2.1, h2.2] at hc; cases hc
        · exact ⟨h, h2⟩

theorem edgesL_mem {o : Oper} {e : Edge} (h : e ∈ o.after.toList) (hb : Region.binds .any e = true) : e.on ∈ edgesL o :=
  List.mem_filterMap.2 ⟨e, h, by simp [hb]⟩
theorem ready_iff {L : Array Bool} (hs : L.size = ops.size) {i : Nat} : i ∈ Region.ready .any ops L ↔ ∃ o, ops[i]? = some o ∧ ¬ Li L i ∧ ∀ e, e ∈ edgesL o → Li L e := by
  unfold Region.ready
  rw [List.mem_filter, List.mem_range]
  constructor
  · rintro ⟨hi, h⟩
    have ho : ops[i]? = some ops[i] := Array.getElem?_eq_getElem hi
    rw [ho] at h
    simp only [Bool.and_eq_true, Bool.not_eq_true', Option.map_some, Option.getD_some] at h
    refine ⟨_, ho, fun hl => ?_, fun e he => ?_⟩
    · unfold Li at hl
      rw [Array.getD_eq_getD_getElem?, Array.getElem?_eq_getElem (by omega)] at hl
      have h1 := h.1
      rw [Array.getD_eq_getD_getElem?, Array.getElem?_eq_getElem (by omega)] at h1
      simp at hl h1
      rw [hl] at h1; cases h1
    · obtain ⟨ed, hm, hed⟩ := List.mem_filterMap.1 he
      cases hb : Region.binds .any ed with
      | false => rw [hb] at hed; cases hed
      | true =>
        rw [hb] at hed
        simp only [cond_true, Option.some.injEq] at hed
        subst hed
        have := (Array.all_eq_true.1 h.2)
        have h3 := Array.all_eq_true'.1 h.2 ed (Array.mem_toList_iff.1 hm)
        simpa [hb, Li] using h3
  · rintro ⟨o, ho, hl, he⟩
    have hi : i < ops.size := by
      rcases Nat.lt_or_ge i ops.size with h | h
      · exact h
      · simp [Array.getElem?_eq_none h] at ho
    refine ⟨hi, ?_⟩
    rw [ho]
    simp only [Bool.and_eq_true, Bool.not_eq_true', Option.map_some, Option.getD_some]
    constructor
    · cases hc : L.getD i true with
      | false => rfl
      | true =>
        refine absurd ?_ hl
        unfold Li
        rw [Array.getD_eq_getD_getElem?, Array.getElem?_eq_getElem (by omega)] at hc ⊢
        exact hc
    · refine Array.all_eq_true'.2 fun e hm => ?_
      cases hb : Region.binds .any e with
      | false => rfl
      | true =>
        have := he e.on (edgesL_mem (Array.mem_toList_iff.2 hm) hb)
        simpa [Li] using this

theorem good_later (ok : Okx X) {w w' : World} {ea dn : Nat} {vs : Vals} {j : Nat} (hj : j < ops.toList.length) (hg : Gd X ops.toList anc σ vs w j)
    (hdn : has dn j = true) (hea : has ea j = false)
    (hre : ∀ i, i ∈ List.range ops.toList.length → has dn i = true → has ea i = false → ∀ o, ops.toList[i]? = some o → opR X.P o = true → opE X.P o = false → Wt vs o true →
      dop X o (envAt ops.toList (anc.getD i 0) σ vs) (fun v _ => vs i = some v) w') : Gd X ops.toList anc σ vs w' j := by
  obtain ⟨o, v, ho, hv, b, hb, h0, h1⟩ := hg
  refine ⟨o, v, ho, hv, b, hb, h0, fun hbt => ?_⟩
  obtain ⟨hE, h2⟩ := h1 hbt
  refine ⟨hE, fun ρ hρ => ⟨?_, (h2 ρ hρ).2⟩⟩
  cases hR : opR X.P o with
  | false => exact fun u hu => ((h2 ρ hρ).2 hR).rn
  | true =>
    subst hbt
    have hd := hre j (List.mem_range.2 hj) hdn hea o ho hR hE hb
    obtain ⟨u, hr, hu⟩ := (dop_sound ok hd hρ).2.1 hE
    rw [hv] at hr; cases hr
    exact hu

theorem J_any {b : Frame} {k : List Item} {cs : List Frame} {fuel : Nat} {L : Array Bool} {a : Act} {W : World} (hC : Closed X.P X.ty X.ext X.co)
    (h0 : Region.ready .any ops L = [] → X.co.J (G (b.at a k) cs) W)
    (h1 : ∀ i ∈ Region.ready .any ops L, ∀ t, X.co.J (G (b.at a (.inRegion ops (i :: Region.linearise.go .any ops fuel t (L.setIfInBounds i true) []) :: k)) cs) W) (t : Nat) :
    X.co.J (G (b.at a (.inRegion ops (Region.linearise.go .any ops (fuel + 1) t L []) :: k)) cs) W := by
  simp only [Region.linearise.go]
  change X.co.J (G (b.at a (.inRegion ops (match (Region.ready .any ops L)[t % (Region.ready .any ops L).length]? with
      | some i => Region.linearise.go .any ops fuel (t / (Region.ready .any ops L).length) (L.setIfInBounds i true) [i]
      | none => [].reverse) :: k)) cs) W
  cases hi : (Region.ready .any ops L)[t % (Region.ready .any ops L).length]? with
  | none =>
    have hnil : Region.ready .any ops L = [] := by
      cases hr : Region.ready .any ops L with
      | nil => rfl
      | cons x xs =>
        rw [hr] at hi
        have hlt : t % (x :: xs).length < (x :: xs).length := Nat.mod_lt _ (by simp)
        simp at hi
        simp at hlt
        omega
    simp only [List.reverse_nil]
    exact J_move hC rfl (fun w => stepG_region_end) (h0 hnil)
  | some i =>
    simp only []
    rw [linearise_go_acc, List.reverse_singleton, List.singleton_append]
    exact h1 i (List.mem_of_getElem? hi) _
theorem draw_go (R : Reg X.n ops.toList anc) (ok : Okx X) (hCl : Closed X.P X.ty X.ext X.co) {b : Frame} {k : List Item} {cs : List Frame} (hk : b.kind ≠ .early) {Q0 : Env → World → Prop} {a0 : Act}
    (hQ : ∀ a w vs, Agr X.n a (envEnd ops.toList σ vs) → Fr (opsDst ops.toList) a0 a → Q0 (envEnd ops.toList σ vs) w → X.co.J (G (b.at a k) cs) w) :
    ∀ (fuel : Nat) (L : Array Bool) (a : Act) (w : World) (f ea dn : Nat) (vs : Vals), Inv X ops anc σ a0 ea dn vs w L a →
      PhB X ops.toList anc σ Q0 f ea dn vs w → Clo X ops.toList anc dn vs → unl ops.size L ≤ fuel →
      ∀ t, X.co.J (G (b.at a (.inRegion ops (Region.linearise.go .any ops fuel t L []) :: k)) cs) w := by
  have fin : ∀ (L : Array Bool) (a : Act) (w : World) (f ea dn : Nat) (vs : Vals), Inv X ops anc σ a0 ea dn vs w L a →
      PhB X ops.toList anc σ Q0 f ea dn vs w → Region.ready .any ops L = [] → X.co.J (G (b.at a k) cs) w := by
    intro L a w f ea dn vs hI hP hr
    -- all is done
    have hall : ∀ i, i < ops.size → Li L i := by
      intro i
      induction i using Nat.strongRecOn with
      | _ i ih =>
        intro hi
        apply Classical.byContradiction
        intro hn
        have ho : ops[i]? = some ops[i] := Array.getElem?_eq_getElem hi
        have ho' : ops.toList[i]? = some ops[i] := by simp [hi]
        have : i ∈ Region.ready .any ops L := (ready_iff hI.sizeL).2 ⟨_, ho, hn, fun e he => by
          have := R.edge i _ ho' e he
          exact ih e this (by omega)⟩
        rw [hr] at this; simp at this
    have hdn : ∀ i, i < ops.toList.length → has dn i = true := fun i hi => hI.sub i (hall i (by simpa using hi))
    unfold PhB at hP
    have hen : enabled anc dn (List.range ops.toList.length) = [] := by
      cases he : enabled anc dn (List.range ops.toList.length) with
      | nil => rfl
      | cons i l =>
        have : i ∈ enabled anc dn (List.range ops.toList.length) := by rw [he]; simp
        obtain ⟨h1, h2, _⟩ := enabled_mem.1 this
        rw [hdn i (List.mem_range.1 h1)] at h2; cases h2
    rw [hen] at hP
    have hP := (bif_true hP).2
    refine hQ a w vs ⟨hI.sz, fun t v hv => ?_⟩ hI.frm hP
    unfold envEnd at hv
    cases hw : writer ops.toList t 0 with
    | none => rw [hw] at hv; exact hI.fr1 t v hw hv
    | some j =>
      rw [hw] at hv
      have hj : j < ops.toList.length := hI.kn.lt j (hI.kn.only j v hv)
      exact hI.fr2 t j v hw (hall j (by simpa using hj)) hv
  intro fuel
  induction fuel with
  | zero =>
    intro L a w f ea dn vs hI hP hC hu
    have hr : Region.ready .any ops L = [] := by
      cases he : Region.ready .any ops L with
      | nil => rfl
      | cons i l =>
        obtain ⟨o, ho, hn, _⟩ := (ready_iff hI.sizeL).1 (by rw [he]; simp : i ∈ Region.ready .any ops L)
        have hi : i < ops.size := by
          rcases Nat.lt_or_ge i ops.size with h | h
          · exact h
          · simp [Array.getElem?_eq_none h] at ho
        have := unl_set hI.sizeL hi hn
        omega
    intro t
    simp only [Region.linearise.go, List.reverse_nil]
    exact J_move hCl rfl (fun w => stepG_region_end) (fin L a w f ea dn vs hI hP hr)
  | succ fuel ih =>
    intro L a w f ea dn vs hI hP hC hu
    refine J_any hCl (fun hr => fin L a w f ea dn vs hI hP hr) fun i hi t => ?_
    obtain ⟨o, ho, hn, hed⟩ := (ready_iff hI.sizeL).1 hi
    have hil : i < ops.size := by
      rcases Nat.lt_or_ge i ops.size with h | h
      · exact h
      · simp [Array.getElem?_eq_none h] at ho
    have hil' : i < ops.toList.length := by simpa using hil
    have ho' : ops.toList[i]? = some o := by simpa using ho
    have hul : unl ops.size (L.setIfInBounds i true) ≤ fuel := by
      have := unl_set hI.sizeL hil hn
      omega
    have hr : ∀ j, has (anc.getD i 0) j = true → Li L j := by
      intro j hj
      obtain ⟨e, he, h⟩ := anc_up R ho' hj
      rcases h with rfl | h
      · exact hed _ he
      · exact hI.down e j (hed e he) h
    have hag := inv_ag R hI ho' hn hr
    cases hd : has dn i with
    | true =>
      obtain ⟨o', v, ho2, hv, bb, hb, h0, h1⟩ := hI.good i hd hn
      rw [ho'] at ho2; cases ho2
      have hwant := inv_wanted R hI ho' hr hb
      have hnext : ∀ t, X.co.J (G (b.at (a.put o.dst v) (.inRegion ops (Region.linearise.go .any ops fuel t (L.setIfInBounds i true) []) :: k)) cs) w :=
        ih _ _ w f ea dn vs (inv_put R hI ho' hn hr hI.kn (Ext.refl _) hv (fun _ h => h) hd (fun j h => .inl h) fun j hj hn _ => hI.good j hj hn) hP hC hul
      cases bb with
      | false =>
        rw [h0 rfl] at hnext
        exact J_unwanted hCl ho hwant (hnext t)
      | true =>
        have hq := ((h1 rfl).2 a.eval hag).1
        refine J_op hCl hk ho hwant (K := fun u W' => u = v ∧ W' = w) (fun u hu => .inl ⟨v, u, w, hq u hu, Mov.refl _ _ _ _, hu, fun _ => ⟨rfl, rfl⟩, rfl, rfl⟩) ?_
        rintro u W' ⟨rfl, rfl⟩
        exact hnext t
    | false =>
      have hsub : sub (anc.getD i 0) dn = true := sub_iff.2 fun j hj => hI.sub j (hr j hj)
      rcases hC i hil' hsub with h | ⟨o', ho2, hb, hE⟩
      · rw [hd] at h; cases h
      rw [ho'] at ho2; cases ho2
      have hwant := inv_wanted R hI ho' hr hb
      unfold PhB at hP
      have hin : i ∈ enabled anc dn (List.range ops.toList.length) := enabled_mem.2 ⟨List.mem_range.2 hil', hd, hsub⟩
      have hP2 : conjL (fun i => optP ops.toList[i]? fun o =>
          dop X o (envAt ops.toList (anc.getD i 0) σ vs) (fun v w' => spl (isGd ops.toList i) v fun v' =>
            rechk X ops.toList anc σ w' (Nat.lor ea (anc.getD i 0)) dn vs (List.range ops.toList.length)
              (phase X ops.toList anc σ Q0 f (Nat.lor ea (Nat.lor (bit i) (anc.getD i 0))) (Nat.lor dn (bit i)) (vs.put i v') w')) w) (enabled anc dn (List.range ops.toList.length)) := by
        revert hP
        cases he : enabled anc dn (List.range ops.toList.length) with
        | nil => rw [he] at hin; simp at hin
        | cons x y => exact fun h => h
      have hP3 := conjL_mem hP2 i hin
      obtain ⟨o', ho2, hP4⟩ := optP_some hP3
      rw [ho'] at ho2; cases ho2
      refine J_op hCl hk ho hwant (dop_sound ok hP4 hag).1 fun v w' hv => ?_
      obtain ⟨hph, hre⟩ := rechk_some _ (spl_some hv)
      have hkn2 := hI.kn.put hil' v
      have he1 := ext_put (v := v) (hI.kn.none hd)
      cases f with
      | zero => exact hph.elim
      | succ f =>
        obtain ⟨dn3, vs3, k1, k2, k3, k4, k5, k6⟩ := evalNE_some R ok _ _ _ _ hph hkn2 List.pairwise_lt_range (fun j hj => List.mem_range.1 hj)
        have hiin : has (Nat.lor dn (bit i)) i = true := (has_put dn i i).2 (.inr rfl)
        refine ih _ _ w' f (Nat.lor ea (Nat.lor (bit i) (anc.getD i 0))) dn3 vs3 (inv_put R hI ho' hn hr k2 (he1.trans k3) (k3 _ _ (put_same vs i v)) (fun j hj => k4 j ((has_put dn i j).2 (.inl hj))) (k4 i hiin) (fun j hj => ?_) fun j hj hnj hne => ?_) k1 (fun j hj hs => k6 j (List.mem_range.2 hj) hs) hul t
        · rw [has_lor, has_lor, has_bit] at hj
          simp only [Bool.or_eq_true, decide_eq_true_eq] at hj
          rcases hj with h | h | h
          · exact .inl h
          · exact .inr (.inl h.symm)
          · exact .inr (.inr h)
        · rcases k5 j hj with h | ⟨_, h⟩
          · rcases (has_put dn i j).1 h with h | h
            · have hjlt := hI.kn.lt j h
              refine (good_later ok hjlt (hI.good j h hnj) h ?_ hre).mono (he1.trans k3)
              cases hc : has (Nat.lor ea (anc.getD i 0)) j with
              | false => rfl
              | true =>
                rw [has_lor, Bool.or_eq_true] at hc
                rcases hc with hc | hc
                · exact absurd (hI.ea j hc) hnj
                · exact absurd (hr j hc) hnj
            · exact absurd h.symm hne
          · exact h
end

theorem denDraw_sound {X : Cx} (ok : Okx X) (hC : Closed X.P X.ty X.ext X.co) {b : Frame} {k : List Item} {cs : List Frame} (hk : b.kind ≠ .early) {id : Nat} {ops : Array Oper} {σ : Env} {Q0 : Env → World → Prop} {w : World} {a : Act}
    (h : denDraw X ops.toList σ Q0 w) (ha : Agr X.n a σ)
    (hQ : ∀ a' σ' w', Agr X.n a' σ' → Fr (opsDst ops.toList) a a' → Q0 σ' w' → X.co.J (G (b.at a' k) cs) w') : X.co.J (G (b.at a (.code (.region id ops true) :: k)) cs) w := by
  obtain ⟨hok, h⟩ := bif_true h
  have R := reg_of hok
  have hk0 : Kn ops.toList.length 0 (fun _ => none) := ⟨fun i v h => (by cases h), fun i h => (by rw [has_zero] at h; cases h), fun i h => (by rw [has_zero] at h; cases h)⟩
  obtain ⟨dn, vs, k1, k2, k3, k4, k5, k6⟩ := evalNE_some R ok _ _ _ _ h hk0 List.pairwise_lt_range (fun j hj => List.mem_range.1 hj)
  have hli : ∀ i, ¬ Li (Array.replicate ops.size false) i := fun i hi => by
    unfold Li at hi
    rw [Array.getD_eq_getD_getElem?, Array.getElem?_replicate] at hi
    split at hi <;> simp at hi
  have hI : Inv X ops (ancAll ops.toList []) σ a 0 dn vs w (Array.replicate ops.size false) a :=
    { sizeL := by simp, sz := ha.size, frm := Fr.refl _ _, kn := k2
      sub := fun i hi => absurd hi (hli i), down := fun i j hi => absurd hi (hli i)
      ea := fun i hi => by rw [has_zero] at hi; cases hi
      good := fun i hi _ => by
        rcases k5 i hi with h | h
        · rw [has_zero] at h; cases h
        · exact h.2
      fr1 := fun t v _ hv => ha.at_ t v hv, fr2 := fun t j v _ hl => absurd hl (hli j), fr3 := fun t j v _ _ hv => ha.at_ t v hv }
  refine hC _ w rfl fun u hu => ?_
  refine ⟨_, u.at (u.drawn + 1), #[], w, stepG_region_draw, Mov.at _ _ _ _ _, hu.refl_at _, fun _ => ⟨rfl, rfl⟩, ?_⟩
  simp only [Region.schedule, ok.mixed, Bool.true_or, if_true]
  refine draw_go R ok hC hk (fun a' w' vs' h1 h2 h3 => hQ a' _ w' h1 h2 h3) ops.size _ a w _ 0 dn vs hI k1 (fun i hi hs => k6 i (List.mem_range.2 hi) hs) ?_ _
  unfold unl
  exact Nat.le_trans List.countP_le_length (by simp)
end Go.Cv
