/- Pieces of code, for a goroutine in company. -/
import Derived.Test.YtmkgnbcpcfojfaaCvCode
set_option linter.unusedVariables false
set_option linter.unusedSimpArgs false
namespace Go.Cv
open Go.Conc

def bodyOf (f : Func) : Code := match f.body with | some c => c | none => .skip
def sA : Code → Code | .seq a _ => a | c => c
def sB : Code → Code | .seq _ b => b | c => c
def kB : Code → Code | .block _ b => b | c => c
def lB : Code → Code | .loop b => b | c => c
def cT : Code → Code | .cond _ a _ => a | c => c
def cE : Code → Code | .cond _ _ b => b | c => c
def rO : Code → Array Oper | .region _ ops _ => ops | _ => #[]
def envL : List (Nat × Value) → Env
  | [], _ => none
  | (t, v) :: r, s => bif Nat.beq s t then some v else envL r s
theorem envL_mem : ∀ {l : List (Nat × Value)} {s : Nat} {v : Value}, envL l s = some v → (s, v) ∈ l
  | [], _, _, h => by cases h
  | (t, u) :: r, s, v, h => by
    unfold envL at h
    cases hb : Nat.beq s t with
    | true =>
      rw [hb] at h
      obtain rfl : s = t := Nat.eq_of_beq_eq_true hb
      simp only [cond_true, Option.some.injEq] at h
      subst h; simp
    | false => rw [hb] at h; exact List.mem_cons_of_mem _ (envL_mem h)
theorem agr_envL {n : Nat} {a : Act} {l : List (Nat × Value)} (hs : n ≤ a.tmps.size) (h : ∀ p ∈ l, a.tmps[p.1]? = some p.2) : Agr n a (envL l) := ⟨hs, fun t v hv => h (t, v) (envL_mem hv)⟩
theorem getL_agr {n : Nat} {a : Act} {σ : Env} (ha : Agr n a σ) : ∀ {L : List Nat} {k : List Value → Prop}, getL σ L k → ∃ vs, k vs ∧ vs.length = L.length ∧ ∀ p ∈ L.zip vs, a.tmps[p.1]? = some p.2
  | [], k, h => ⟨[], h, rfl, by simp⟩
  | t :: L, k, h => by
    obtain ⟨v, hv, h⟩ := optP_some h
    obtain ⟨vs, h1, h2, h3⟩ := getL_agr ha (k := fun vs => k (v :: vs)) h
    refine ⟨v :: vs, h1, by simp [h2], fun p hp => ?_⟩
    simp only [List.zip_cons_cons, List.mem_cons] at hp
    rcases hp with rfl | hp
    · exact ha.at_ t v hv
    · exact h3 p hp
/-- Slots of an Act that are known. -/
def Slots (n : Nat) (ds : List Deferred) (a : Act) (l : List (Nat × Value)) : Prop := n ≤ a.tmps.size ∧ a.defers = ds ∧ ∀ p ∈ l, a.tmps[p.1]? = some p.2
theorem Slots.agr {n : Nat} {ds : List Deferred} {a : Act} {l : List (Nat × Value)} (h : Slots n ds a l) : Agr n a (envL l) := agr_envL h.1 h.2.2
theorem Slots.sub {n : Nat} {ds : List Deferred} {a : Act} {l l' : List (Nat × Value)} (h : Slots n ds a l) (hs : ∀ p ∈ l', p ∈ l) : Slots n ds a l' := ⟨h.1, h.2.1, fun p hp => h.2.2 p (hs p hp)⟩
theorem Slots.put {n : Nat} {ds : List Deferred} {a : Act} {l : List (Nat × Value)} (h : Slots n ds a l) {d : Nat} (hd : d < n) (v : Value) (hn : ∀ p ∈ l, p.1 ≠ d) : Slots n ds (a.put (some d) v) ((d, v) :: l) := by
  have h1 := h.1
  refine ⟨by simpa [Act.put] using h.1, h.2.1, fun p hp => ?_⟩
  rcases List.mem_cons.1 hp with rfl | hp
  · simp only [Act.put, Array.getElem?_setIfInBounds_self]; rw [if_pos (by omega)]
  · simp only [Act.put, Array.getElem?_setIfInBounds_ne (Ne.symm (hn p hp))]
    exact h.2.2 p hp
theorem Slots.none {n : Nat} {ds : List Deferred} {a : Act} {l : List (Nat × Value)} (h : Slots n ds a l) (v : Value) : Slots n ds (a.put none v) l := h
theorem Slots.ev {n : Nat} {ds : List Deferred} {a : Act} {l : List (Nat × Value)} (h : Slots n ds a l) {t : Nat} {v : Value} (hm : (t, v) ∈ l) : a.eval (.tmp t) = v := by
  have := h.2.2 _ hm
  simp only at this
  simp [Act.eval, Array.getD_eq_getD_getElem?, this]

section
variable {X : Cx} {b : Frame} {k : List Item} {cs : List Frame} {a : Act} {W : World} {ops : Array Oper}
/-- A piece. -/
theorem J_piece (ok : Okx X) (hC : Closed X.P X.ty X.ext X.co) (hk : b.kind ≠ .early) {c : Code} {l : List (Nat × Value)} {ds : List Deferred} {L : List Nat} {KK : Exit → List Value → World → Prop} (ha : Slots X.n ds a l)
    (hd : den X c (envL l) (fun e σ w => getL σ L fun vs => KK e vs w) W) (hK : ∀ e a' W' vs, KK e vs W' → vs.length = L.length → Slots X.n ds a' (L.zip vs) → AfterJ X.co b k cs e a' W') : X.co.J (G (b.at a (.code c :: k)) cs) W := by
  refine den_sound ok hC c _ _ a W hd ha.agr b k cs hk fun e a' W' hq => ?_
  obtain ⟨σ', g1, g2, g3⟩ := hq
  obtain ⟨vs, h1, h2, h3⟩ := getL_agr g1 g3
  exact hK e a' W' vs h1 h2 ⟨g1.size, g2.2.2.trans ha.2.1, h3⟩
/-- The first operations of a region. -/
theorem denOps_pre (ok : Okx X) (hC : Closed X.P X.ty X.ext X.co) (hk : b.kind ≠ .early) :
    ∀ (r s : List Oper) (i : Nat) (σ : Env) (K : Env → World → Prop) (a : Act) (w : World), r ++ s = ops.toList.drop i →
    denOps X ops.toList i r σ K w → Agr X.n a σ →
      (∀ a' σ' w', Agr X.n a' σ' → a'.defers = a.defers → K σ' w' → X.co.J (G (b.at a' (.inRegion ops (List.range' (i + r.length) s.length) :: k)) cs) w') →
      X.co.J (G (b.at a (.inRegion ops (List.range' i (r.length + s.length)) :: k)) cs) w
  | [], s, i, σ, K, a, w, hr, h, ha, hQ => by simpa using hQ a σ w ha rfl h
  | o :: r, s, i, σ, K, a, w, hr, h, ha, hQ => by
    have hoi : ops.toList[i]? = some o := by
      have := congrArg List.head? hr
      rw [List.head?_drop] at this
      exact this.symm
    have ho : ops[i]? = some o := by simpa using hoi
    have hr' : r ++ s = ops.toList.drop (i + 1) := by
      have := congrArg List.tail hr
      rw [List.tail_drop] at this
      exact this
    have hrange : List.range' i ((o :: r).length + s.length) = i :: List.range' (i + 1) (r.length + s.length) := by
      rw [show (o :: r).length + s.length = (r.length + s.length) + 1 by simp; omega, List.range'_succ]
    have hidx : ∀ (a' : Act), (.inRegion ops (List.range' (i + (o :: r).length) s.length) :: k) = (.inRegion ops (List.range' (i + 1 + r.length) s.length) :: k : List Item) := fun _ => by
      rw [show i + (o :: r).length = i + 1 + r.length by simp; omega]
    rw [hrange]
    have step : dop X o σ (fun v w' => spl (isGd ops.toList i) v fun v' => dstK X.n σ o.dst v' fun σ' => denOps X ops.toList (i + 1) r σ' K w') w → Region.wanted o (yielded ops a.tmps) = true →
        X.co.J (G (b.at a (.inRegion ops (i :: List.range' (i + 1) (r.length + s.length)) :: k)) cs) w := fun h hw => by
      refine J_op hC hk ho hw (dop_sound ok h (ha.ag _)).1 fun v w' hv => ?_
      obtain ⟨σ', ha', h'⟩ := dstK_some (spl_some hv) ha
      exact denOps_pre ok hC hk r s (i + 1) σ' K _ w' hr' h' ha' fun a' σ'' w'' h1 h2 h3 => by rw [← hidx a']; exact hQ a' σ'' w'' h1 (h2.trans (by cases o.dst <;> rfl)) h3
    have skip : (dstK X.n σ o.dst undef fun σ' => denOps X ops.toList (i + 1) r σ' K w) → Region.wanted o (yielded ops a.tmps) = false →
        X.co.J (G (b.at a (.inRegion ops (i :: List.range' (i + 1) (r.length + s.length)) :: k)) cs) w := fun h hw => by
      obtain ⟨σ', ha', h'⟩ := dstK_some h ha
      exact J_unwanted hC ho hw (denOps_pre ok hC hk r s (i + 1) σ' K _ w hr' h' ha' fun a' σ'' w'' h1 h2 h3 => by rw [← hidx a']; exact hQ a' σ'' w'' h1 (h2.trans (by cases o.dst <;> rfl)) h3)
    unfold denOps at h
    cases hg : o.guard with
    | none =>
      rw [hg] at h
      exact step h (by simp [Region.wanted, hg])
    | some g =>
      obtain ⟨j, want⟩ := g
      rw [hg] at h
      have h2 := yielded_of ha h
      cases hc : eqOB (yielded ops a.tmps j) want with
      | true =>
        rw [hc] at h2
        exact step h2 (by simp [Region.wanted, hg, eqOB_iff.1 hc])
      | false =>
        rw [hc] at h2
        refine skip h2 ?_
        simp only [Region.wanted, hg, beq_eq_false_iff_ne]
        intro e
        rw [eqOB_iff.2 e] at hc; cases hc
/-- The first m operations of a region, from its start. -/
theorem J_pre (ok : Okx X) (hC : Closed X.P X.ty X.ext X.co) (hk : b.kind ≠ .early) (m : Nat) {l : List (Nat × Value)} {ds : List Deferred} {L : List Nat} {KK : Exit → List Value → World → Prop} (hm : m ≤ ops.size) (ha : Slots X.n ds a l)
    (hd : denOps X ops.toList 0 (ops.toList.take m) (envL l) (fun σ w => getL σ L fun vs => KK .normal vs w) W)
    (hK : ∀ a' W' vs, KK .normal vs W' → vs.length = L.length → Slots X.n ds a' (L.zip vs) → X.co.J (G (b.at a' (.inRegion ops (List.range' m (ops.size - m)) :: k)) cs) W') :
    X.co.J (G (b.at a (.inRegion ops (List.range ops.size) :: k)) cs) W := by
  have h1 : (ops.toList.take m).length = m := by simp [List.length_take]; omega
  have h2 : (ops.toList.drop m).length = ops.size - m := by simp
  have := denOps_pre (b := b) (k := k) (cs := cs) ok hC hk (ops.toList.take m) (ops.toList.drop m) 0 (envL l) _ a W (by simp) hd ha.agr fun a' σ' w' g1 g2 g3 => by
    obtain ⟨vs, k1, k2, k3⟩ := getL_agr g1 g3
    rw [h1, h2, Nat.zero_add]
    exact hK a' w' vs k1 k2 ⟨g1.size, g2.trans ha.2.1, k3⟩
  rw [h1, h2, show m + (ops.size - m) = ops.size by omega] at this
  rw [List.range_eq_range']
  exact this
end
section
variable {X : Cx} {b : Frame} {k : List Item} {cs : List Frame} {a : Act} {W : World} {ops : Array Oper}
/-- The rest of a region, from operation i on. -/
theorem J_suf (ok : Okx X) (hC : Closed X.P X.ty X.ext X.co) (hk : b.kind ≠ .early) (m : Nat) {l : List (Nat × Value)} {ds : List Deferred} {L : List Nat} {KK : Exit → List Value → World → Prop} {rest : List Nat} (hrest : rest = List.range' m (ops.toList.drop m).length) (ha : Slots X.n ds a l)
    (hd : denOps X ops.toList m (ops.toList.drop m) (envL l) (fun σ w => getL σ L fun vs => KK .normal vs w) W)
    (hK : ∀ a' W' vs, KK .normal vs W' → vs.length = L.length → Slots X.n ds a' (L.zip vs) → X.co.J (G (b.at a' k) cs) W') :
    X.co.J (G (b.at a (.inRegion ops rest :: k)) cs) W := by
  subst hrest
  refine denOps_sound ok hC ops hk (ops.toList.drop m) m (envL l) _ a W rfl hd ha.agr fun a' σ' w' g1 g2 g3 => ?_
  obtain ⟨vs, k1, k2, k3⟩ := getL_agr g1 g3
  exact hK a' w' vs k1 k2 ⟨g1.size, g2.2.2.trans ha.2.1, k3⟩
theorem J_code_region (hC : Closed X.P X.ty X.ext X.co) {id : Nat} (h : X.co.J (G (b.at a (.inRegion ops (List.range ops.size) :: k)) cs) W) : X.co.J (G (b.at a (.code (.region id ops false) :: k)) cs) W :=
  J_move hC rfl (fun w => stepG_region) h
end

/-! ### Steps through code -/
section
variable {P : Program} {ty : Nat} {ext : Bool} {co : Co} {b : Frame} {k : List Item} {cs : List Frame} {a : Act} {W : World}
theorem Jmv (hC : Closed P ty ext co) {g g' : Goroutine} (hr : g.status = .running) (h : ∀ w, stepG P co.main g w = .go g' w #[]) (hJ : co.J g' W) : co.J g W :=
  hC g W hr fun w hw => ⟨g', w, #[], W, h w, Mov.refl _ _ _ _, hw, fun _ => ⟨rfl, rfl⟩, hJ⟩
theorem J_seq (hC : Closed P ty ext co) {c x y : Code} (e : c = .seq x y) (h : co.J (G (b.at a (.code x :: .code y :: k)) cs) W) : co.J (G (b.at a (.code c :: k)) cs) W := by
  subst e; exact Jmv hC rfl (fun w => stepG_seq) h
theorem J_blk (hC : Closed P ty ext co) {c x : Code} {id : Nat} (e : c = .block id x) (h : co.J (G (b.at a (.code x :: .inBlock id :: k)) cs) W) : co.J (G (b.at a (.code c :: k)) cs) W := by
  subst e; exact Jmv hC rfl (fun w => stepG_block) h
theorem J_lp (hC : Closed P ty ext co) {c x : Code} (e : c = .loop x) (h : co.J (G (b.at a (.code x :: .inLoop x :: k)) cs) W) : co.J (G (b.at a (.code c :: k)) cs) W := by
  subst e; exact Jmv hC rfl (fun w => stepG_loop) h
theorem J_cnd (hC : Closed P ty ext co) {c x y : Code} {z : Operand} (t : Bool) (e : c = .cond z x y) (ht : a.eval z = .bool t) (h : co.J (G (b.at a (.code (bif t then x else y) :: k)) cs) W) : co.J (G (b.at a (.code c :: k)) cs) W := by
  subst e
  refine Jmv hC rfl (fun w => stepG_cond ht) ?_
  cases t <;> exact h
theorem J_skp (hC : Closed P ty ext co) {c : Code} (e : c = .skip) (h : co.J (G (b.at a k) cs) W) : co.J (G (b.at a (.code c :: k)) cs) W := by
  subst e; exact Jmv hC rfl (fun w => stepG_skip) h
theorem J_ext (hC : Closed P ty ext co) {c : Code} {id : Nat} {k' : List Item} (e : c = .exit id) (hk : exitTo id k = some k') (h : co.J (G (b.at a k') cs) W) : co.J (G (b.at a (.code c :: k)) cs) W := by
  subst e; exact Jmv hC rfl (fun w => stepG_exit hk) h
theorem J_reg (hC : Closed P ty ext co) {c : Code} {id : Nat} {ops : Array Oper} {L : List Nat} (e : c = .region id ops false) (hL : List.range ops.size = L) (h : co.J (G (b.at a (.inRegion ops L :: k)) cs) W) : co.J (G (b.at a (.code c :: k)) cs) W := by
  subst e; subst hL; exact Jmv hC rfl (fun w => stepG_region) h
theorem J_rend (hC : Closed P ty ext co) {ops : Array Oper} (h : co.J (G (b.at a k) cs) W) : co.J (G (b.at a (.inRegion ops [] :: k)) cs) W := Jmv hC rfl (fun w => stepG_region_end) h
theorem J_inB (hC : Closed P ty ext co) {id : Nat} (h : co.J (G (b.at a k) cs) W) : co.J (G (b.at a (.inBlock id :: k)) cs) W := Jmv hC rfl (fun w => stepG_inBlock) h
theorem J_inL (hC : Closed P ty ext co) {c : Code} (h : co.J (G (b.at a (.code c :: .inLoop c :: k)) cs) W) : co.J (G (b.at a (.inLoop c :: k)) cs) W := Jmv hC rfl (fun w => stepG_inLoop) h
end
end Go.Cv
