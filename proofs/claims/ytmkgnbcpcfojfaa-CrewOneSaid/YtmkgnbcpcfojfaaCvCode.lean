/- What the shallow reading says holds of the code itself, for a goroutine in company: code and functions. -/
import Derived.Test.YtmkgnbcpcfojfaaCvDraw
set_option linter.unusedVariables false
set_option linter.unusedSimpArgs false
namespace Go.Cv
open Go.Conc

section
variable {X : Cx} {a : Act} {w : World} {Q : Exit → Act → World → Prop}
theorem AfterJ.push {co : Co} {b : Frame} {x : Item} {k : List Item} {cs : List Frame} {e : Exit} {a : Act} {w : World} (hx : x.plain = true) (he : e ≠ .normal)
    (h : AfterJ co b k cs e a w) : AfterJ co b (x :: k) cs e a w := by
  cases e with
  | normal => exact absurd rfl he
  | exit id => obtain ⟨k', hk, hg⟩ := h; exact ⟨k', by cases x <;> simp_all [exitTo, Item.plain], hg⟩
  | ret => exact h
  | goto l => exact h
  | panic ch => exact h
  | outgrown => exact h
theorem wpJ_mono {c : Code} {Q' : Exit → Act → World → Prop} (hq : ∀ e a w, Q e a w → Q' e a w) (h : wpJ X.co c Q a w) : wpJ X.co c Q' a w :=
  fun b k cs hk hc => h b k cs hk fun e a' w' q => hc e a' w' (hq e a' w' q)
variable (hC : Closed X.P X.ty X.ext X.co)
include hC
theorem wpJ_skip (h : Q .normal a w) : wpJ X.co .skip Q a w := fun b k cs _ hc => J_move hC rfl (fun w => stepG_skip) (hc _ _ _ h)
theorem wpJ_ret (h : Q .ret a w) : wpJ X.co .ret Q a w := fun b k cs _ hc => J_move hC rfl (fun w => stepG_ret') (hc _ _ _ h _)
theorem wpJ_exit {id : Nat} (h : Q (.exit id) a w) : wpJ X.co (.exit id) Q a w := fun b k cs _ hc => by
  obtain ⟨k', hk', hg⟩ := hc _ _ _ h
  exact J_move hC rfl (fun w => stepG_exit hk') hg
theorem wpJ_seq {x y : Code} (h : wpJ X.co x (Exit.then (fun a' w' => wpJ X.co y Q a' w') Q) a w) : wpJ X.co (.seq x y) Q a w := by
  intro b k cs hk hc
  refine J_move hC rfl (fun w => stepG_seq) (h b (.code y :: k) cs hk fun e a' w' q => ?_)
  cases e with
  | normal => exact q b k cs hk hc
  | exit id => exact (hc _ _ _ q).push rfl (by simp)
  | ret => exact (hc _ _ _ q).push (x := .code y) rfl (by simp)
  | goto l => exact hc _ _ _ q
  | panic ch => exact hc _ _ _ q
  | outgrown => exact hc _ _ _ q
theorem wpJ_cond {c : Operand} {x y : Code} {t : Bool} (hc : a.eval c = .bool t) (h : wpJ X.co (if t then x else y) Q a w) : wpJ X.co (.cond c x y) Q a w :=
  fun b k cs hk hq => J_move hC rfl (fun w => stepG_cond hc) (h b k cs hk hq)
theorem wpJ_block {id : Nat} {c : Code} (h : wpJ X.co c (Exit.inBlock id Q) a w) : wpJ X.co (.block id c) Q a w := by
  intro b k cs hk hc
  refine J_move hC rfl (fun w => stepG_block) (h b (.inBlock id :: k) cs hk fun e a' w' q => ?_)
  cases e with
  | normal => exact J_move hC rfl (fun w => stepG_inBlock) (hc _ _ _ q)
  | exit id' =>
    by_cases hid : id' = id
    · simp only [Exit.inBlock, hid, if_true] at q
      exact ⟨k, by simp [exitTo, hid], hc _ _ _ q⟩
    · simp only [Exit.inBlock, hid, if_false] at q
      obtain ⟨k', hk', hg⟩ := hc _ _ _ q
      have : (id == id') = false := by simp; exact fun h => hid h.symm
      exact ⟨k', by simp [exitTo, this, hk'], hg⟩
  | ret => exact fun todo => hc _ _ _ q todo
  | goto l => exact hc _ _ _ q
  | panic ch => exact hc _ _ _ q
  | outgrown => exact hc _ _ _ q
theorem wpJ_loop {c : Code} (I : Act → World → Prop) (μ : Act → World → Nat) (h₀ : I a w)
    (round : ∀ a w, I a w → wpJ X.co c (Exit.then (fun a' w' => I a' w' ∧ μ a' w' < μ a w) Q) a w) : wpJ X.co (.loop c) Q a w := by
  intro b k cs hk hc
  have key : ∀ N a w, μ a w ≤ N → I a w → X.co.J (G (b.at a (.code c :: .inLoop c :: k)) cs) w := by
    intro N
    induction N with
    | zero =>
      intro a w hμ hI
      refine round a w hI b (.inLoop c :: k) cs hk fun e a' w' q => ?_
      cases e with
      | normal => exact absurd q.2 (by omega)
      | exit id => exact (hc _ _ _ q).push rfl (by simp)
      | ret => exact (hc _ _ _ q).push (x := .inLoop c) rfl (by simp)
      | goto l => exact hc _ _ _ q
      | panic ch => exact hc _ _ _ q
      | outgrown => exact hc _ _ _ q
    | succ N ih =>
      intro a w hμ hI
      refine round a w hI b (.inLoop c :: k) cs hk fun e a' w' q => ?_
      cases e with
      | normal => exact J_move hC rfl (fun w => stepG_inLoop) (ih a' w' (by have := q.2; omega) q.1)
      | exit id => exact (hc _ _ _ q).push rfl (by simp)
      | ret => exact (hc _ _ _ q).push (x := .inLoop c) rfl (by simp)
      | goto l => exact hc _ _ _ q
      | panic ch => exact hc _ _ _ q
      | outgrown => exact hc _ _ _ q
  exact J_move hC rfl (fun w => stepG_loop) (key (μ a w) a w (Nat.le_refl _) h₀)
theorem wpJ_region_list (ok : Okx X) {id : Nat} {ops : Array Oper} {σ : Env} {K : Env → World → Prop} (h : denOps X ops.toList 0 ops.toList σ K w) (ha : Agr X.n a σ)
    (hQ : ∀ a' σ' w', Agr X.n a' σ' → Fr (opsDst ops.toList) a a' → K σ' w' → Q .normal a' w') : wpJ X.co (.region id ops false) Q a w := by
  intro b k cs hk hc
  refine J_move hC rfl (fun w => stepG_region) ?_
  have := denOps_sound ok hC ops hk (k := k) (cs := cs) (b := b) ops.toList 0 σ K a w (by simp) h ha fun a' σ' w' h1 h2 h3 => hc _ _ _ (hQ a' σ' w' h1 h2 h3)
  have e : List.range ops.size = List.range' 0 ops.toList.length := by simp [List.range_eq_range']
  rw [e]; exact this
end
theorem allCs_mem : ∀ {vs us : List Value} {k : List Value → Prop}, allCs vs k → sameC vs us = true → k us
  | [], [], k, h, _ => h
  | [], u :: us, k, h, hs => by simp [sameC] at hs
  | v :: vs, [], k, h, hs => by simp [sameC] at hs
  | v :: vs, u :: us, k, h, hs => by
    unfold allCs at h
    unfold sameC at hs
    cases v with
    | int kd n =>
      cases u <;> simp only [Bool.and_eq_true, decide_eq_true_eq, Bool.false_eq_true] at hs
      obtain ⟨rfl, hs⟩ := hs
      exact allCs_mem (k := fun us => k (_ :: us)) (h _) hs
    | bool b => cases u <;> simp only [Bool.false_eq_true] at hs; exact allCs_mem (k := fun us => k (_ :: us)) (h _) hs
    | string b => cases u <;> simp only [Bool.false_eq_true] at hs; exact allCs_mem (k := fun us => k (_ :: us)) (h _) hs
    | pointer b => cases u <;> simp only [Bool.false_eq_true] at hs; exact allCs_mem (k := fun us => k (_ :: us)) (h _) hs
    | slice b n c => cases u <;> simp only [Bool.false_eq_true] at hs; exact allCs_mem (k := fun us => k (_ :: us)) (h _ _ _) hs
    | map b => cases u <;> simp only [Bool.false_eq_true] at hs; exact allCs_mem (k := fun us => k (_ :: us)) (h _) hs
    | _ => exact allCs_mem (k := fun us => k (_ :: us)) (h u) hs
theorem sameC_one {v u : Value} {us : List Value} (h : sameC [v] [u] = true) : True := trivial
theorem allVs_mem : ∀ {vs us : List Value} {k : List Value → Prop}, allVs vs k → sameV vs us = true → k us
  | [], [], k, h, _ => h
  | [], u :: us, k, h, hs => by simp [sameV] at hs
  | v :: vs, [], k, h, hs => by cases v <;> simp [sameV] at hs
  | v :: vs, u :: us, k, h, hs => by
    cases v with
    | agg cs =>
      unfold allVs at h
      unfold sameV at hs
      cases u <;> simp only [Bool.and_eq_true, Bool.false_eq_true] at hs
      rename_i ds
      have h1 := allCs_mem (k := fun ds => allVs vs fun us => k (.agg ds.toArray :: us)) h hs.1
      have h2 := allVs_mem (k := fun us => k (.agg ds.toList.toArray :: us)) h1 hs.2
      simpa using h2
    | _ =>
      unfold allVs at h
      unfold sameV at hs
      simp only [Bool.and_eq_true] at hs
      exact allVs_mem (k := fun us => k ([u] ++ us)) (allCs_mem (k := fun ds => allVs vs fun us => k (ds ++ us)) h hs.1) hs.2
theorem sameC_refl : ∀ (vs : List Value), sameC vs vs = true
  | [] => rfl
  | v :: vs => by cases v <;> simp [sameC, sameC_refl vs]
theorem sameV_refl : ∀ (vs : List Value), sameV vs vs = true
  | [] => rfl
  | v :: vs => by cases v <;> simp [sameV, sameC, sameC_refl, sameV_refl vs]

theorem getL_some {n : Nat} {a : Act} {σ : Env} (ha : Agr n a σ) : ∀ {L : List Nat} {k : List Value → Prop}, getL σ L k → k (L.map fun t => a.tmps.getD t undef)
  | [], k, h => h
  | t :: L, k, h => by
    obtain ⟨v, hv, h⟩ := optP_some h
    have e : a.tmps.getD t undef = v := by simp [Array.getD_eq_getD_getElem?, ha.at_ t v hv]
    rw [List.map_cons, e]
    exact getL_some ha (k := fun vs => k (v :: vs)) h
theorem putL_get {n : Nat} {a : Act} {σ : Env} : ∀ {L : List Nat} {vs : List Value}, vs = (L.map fun t => a.tmps.getD t undef) → ∀ t v, (∀ t', t' ∈ L → t' < a.tmps.size) →
    (σ.putL L vs) t = some v → (t ∈ L ∧ a.tmps[t]? = some v) ∨ σ t = some v
  | [], vs, hv, t, v, _, h => by subst hv; exact .inr h
  | s :: L, vs, hv, t, v, hb, h => by
    subst hv
    simp only [List.map_cons, Env.putL, put_get] at h
    by_cases e : t = s
    · subst e
      simp at h
      refine .inl ⟨by simp, ?_⟩
      have := hb t (by simp)
      rw [Array.getElem?_eq_getElem this, ← h, Array.getElem?_eq_getElem this]; rfl
    · rw [if_neg e] at h
      rcases putL_get (n := n) rfl t v (fun t' ht' => hb t' (by simp [ht'])) h with ⟨h1, h2⟩ | h
      · exact .inl ⟨by simp [h1], h2⟩
      · exact .inr h
theorem getL_bound {n : Nat} {a : Act} {σ : Env} (ha : Agr n a σ) : ∀ {L : List Nat} {k : List Value → Prop}, getL σ L k → ∀ t, t ∈ L → t < a.tmps.size
  | [], k, h, t, ht => by simp at ht
  | s :: L, k, h, t, ht => by
    obtain ⟨v, hv, h⟩ := optP_some h
    rcases List.mem_cons.1 ht with rfl | ht
    · have := ha.at_ t v hv
      exact (Array.getElem?_eq_some_iff.1 this).1
    · exact getL_bound ha (k := fun vs => k (v :: vs)) h t ht
theorem known_sub {σ : Env} : ∀ {L : List Nat} {t : Nat}, t ∈ known σ L → t ∈ L
  | [], t, h => by simp [known] at h
  | s :: L, t, h => by
    unfold known at h
    split at h
    · cases hm : memN s L with
      | true => rw [hm] at h; exact List.mem_cons_of_mem _ (known_sub h)
      | false =>
        rw [hm] at h
        rcases List.mem_cons.1 h with rfl | h
        · simp
        · exact List.mem_cons_of_mem _ (known_sub h)
    · exact List.mem_cons_of_mem _ (known_sub h)

/-- What holds behind a piece of code. -/
def Post (n : Nat) (D : List Nat) (a : Act) (Q : Exit → Env → World → Prop) : Exit → Act → World → Prop := fun e a' w' => ∃ σ', Agr n a' σ' ∧ Fr D a a' ∧ Q e σ' w'

theorem den_sound {X : Cx} (ok : Okx X) (hC : Closed X.P X.ty X.ext X.co) : ∀ (c : Code) (σ : Env) (Q : Exit → Env → World → Prop) (a : Act) (w : World),
    den X c σ Q w → Agr X.n a σ → wpJ X.co c (Post X.n (dsts c) a Q) a w := by
  intro c
  induction c with
  | skip => intro σ Q a w h ha; exact wpJ_skip hC ⟨σ, ha, Fr.refl _ _, h⟩
  | ret => intro σ Q a w h ha; exact wpJ_ret hC ⟨σ, ha, Fr.refl _ _, h⟩
  | exit id => intro σ Q a w h ha; exact wpJ_exit hC ⟨σ, ha, Fr.refl _ _, h⟩
  | region id ops draw =>
    intro σ Q a w h ha
    cases draw with
    | false =>
      exact wpJ_region_list hC ok h ha fun a' σ' w' h1 h2 h3 => ⟨σ', h1, h2, h3⟩
    | true => exact fun b k cs hk hc => denDraw_sound ok hC hk h ha fun a' σ' w' h1 h2 h3 => hc _ _ _ ⟨σ', h1, h2, h3⟩
  | seq x y ihx ihy =>
    intro σ Q a w h ha
    have h1 := ihx σ _ a w h ha
    refine wpJ_seq hC (wpJ_mono (fun e a' w' hq => ?_) h1)
    obtain ⟨σ', g1, g2, g3⟩ := hq
    have hx : ∀ t, t ∈ dsts x → t ∈ dsts (x.seq y) := fun t ht => List.mem_append_left _ ht
    have hy : ∀ t, t ∈ dsts y → t ∈ dsts (x.seq y) := fun t ht => List.mem_append_right _ ht
    cases e with
    | normal =>
      refine wpJ_mono (fun e a'' w'' hq => ?_) (ihy σ' Q a' w' g3 g1)
      obtain ⟨σ'', k1, k2, k3⟩ := hq
      exact ⟨σ'', k1, g2.trans k2 hx hy, k3⟩
    | _ => exact ⟨σ', g1, g2.mono hx, g3⟩
  | cond b x y ihx ihy =>
    intro σ Q a w h ha
    obtain ⟨v, hv, h⟩ := optP_some h
    obtain ⟨t, ht, h⟩ := optP_some h
    obtain rfl := gv_some ht
    have hx : ∀ t, t ∈ dsts x → t ∈ dsts (Code.cond b x y) := fun t ht => List.mem_append_left _ ht
    have hy : ∀ t, t ∈ dsts y → t ∈ dsts (Code.cond b x y) := fun t ht => List.mem_append_right _ ht
    refine wpJ_cond hC (ha.ev hv) ?_
    cases t with
    | true => exact wpJ_mono (fun e a'' w'' ⟨σ'', k1, k2, k3⟩ => ⟨σ'', k1, k2.mono hx, k3⟩) (ihx σ Q a w h ha)
    | false => exact wpJ_mono (fun e a'' w'' ⟨σ'', k1, k2, k3⟩ => ⟨σ'', k1, k2.mono hy, k3⟩) (ihy σ Q a w h ha)
  | block id x ih =>
    intro σ Q a w h ha
    refine wpJ_block hC (wpJ_mono (fun e a' w' hq => ?_) (ih σ _ a w h ha))
    obtain ⟨σ', g1, g2, g3⟩ := hq
    cases e with
    | exit id' =>
      simp only [Exit.inBlock]
      by_cases hid : id' = id
      · rw [if_pos hid]
        subst hid
        simp at g3
        exact ⟨σ', g1, g2, g3⟩
      · rw [if_neg hid]
        have hb : Nat.beq id' id = false := by
          cases hb : Nat.beq id' id with
          | true => exact absurd (Nat.eq_of_beq_eq_true hb) hid
          | false => rfl
        simp only [hb, cond_false] at g3
        exact ⟨σ', g1, g2, g3⟩
    | _ => exact ⟨σ', g1, g2, g3⟩
  | loop x ih =>
    intro σ Q a w h ha
    -- the loop's variables
    have hL : ∀ t, t ∈ known σ (dsts x) → t < a.tmps.size := getL_bound ha h
    have h := getL_some ha h
    obtain ⟨I, μ, h0, hstep⟩ := h
    let L := known σ (dsts x)
    let vo : Act → List Value := fun a => L.map fun t => a.tmps.getD t undef
    have agr : ∀ a' : Act, Fr (dsts x) a a' → Agr X.n a' ((σ.forget (dsts x)).putL L (vo a')) := fun a' hfr => by
      refine ⟨by rw [hfr.1]; exact ha.size, fun t v hv => ?_⟩
      rcases putL_get (n := X.n) rfl t v (fun t' ht' => by rw [hfr.1]; exact hL t' ht') hv with ⟨_, h⟩ | h
      · exact h
      · unfold Env.forget at h
        cases hm : memN t (dsts x) with
        | true => rw [hm] at h; cases h
        | false =>
          rw [hm] at h
          rw [hfr.2.1 t (fun e => by rw [memN_iff.2 e] at hm; cases hm)]
          exact ha.at_ t v h
    refine wpJ_loop hC (fun a' w' => Fr (dsts x) a a' ∧ sameV (vo a) (vo a') = true ∧ I (vo a') w') (fun a' w' => μ (vo a') w') ⟨Fr.refl _ _, sameV_refl _, h0⟩ ?_
    rintro a1 w1 ⟨hfr, hsv, hI⟩
    have hb := allVs_mem (hstep w1) hsv hI
    refine wpJ_mono (fun e a' w' hq => ?_) (ih _ _ a1 w1 hb (agr a1 hfr))
    obtain ⟨σ', g1, g2, g3⟩ := hq
    have hfr' : Fr (dsts x) a a' := hfr.trans g2 (fun _ h => h) (fun _ h => h)
    cases e with
    | normal =>
      have g4 := getL_some g1 g3
      obtain ⟨s1, s2, s3⟩ := bif_true g4
      exact ⟨⟨hfr', s1, s2⟩, s3⟩
    | _ => exact ⟨σ', g1, hfr', g3⟩
  | _ => intro σ Q a w h ha; exact h.elim

theorem resOne_run {X : Cx} {n : Nat} {σ : Env} {a : Act} {W : World} (ha : Agr n a σ) {r : ResultVar} {k : Value → Prop} (h : resOne X σ W r k) :
    ∃ v, Sil X.P (match r with | .tmp t => pure (a.tmps.getD t undef) | .cell b t => (do loadVar t (← asAddr (a.tmps.getD b undef))) : Sem Value) v ∧ k v := by
  cases r with
  | tmp t =>
    obtain ⟨v, hv, hk⟩ := optP_some h
    refine ⟨v, ?_, hk⟩
    simp only [Array.getD_eq_getD_getElem?, ha.at_ t v hv, Option.getD_some]
    exact sil_pure _
  | cell b t => exact h.elim
theorem resAll_run {X : Cx} {n : Nat} {σ : Env} {a : Act} {W : World} (ha : Agr n a σ) : ∀ {rs : List ResultVar} {k : List Value → Prop}, resAll X σ W rs k →
    ∃ vs, Sil X.P (rs.mapM fun r => (match r with | .tmp t => pure (a.tmps.getD t undef) | .cell b t => (do loadVar t (← asAddr (a.tmps.getD b undef))) : Sem Value)) vs ∧ k vs
  | [], k, h => ⟨[], by simpa using sil_pure (P := X.P) ([] : List Value), h⟩
  | r :: rs, k, h => by
    obtain ⟨v, hr, h⟩ := resOne_run ha h
    obtain ⟨vs, hrs, hk⟩ := resAll_run ha (k := fun vs => k (v :: vs)) h
    refine ⟨v :: vs, ?_, hk⟩
    rw [List.mapM_cons]
    exact hr.bind (hrs.bind (sil_pure _))
theorem results_run {X : Cx} {n : Nat} {σ : Env} {a : Act} {W : World} (ha : Agr n a σ) {fn : Func} {K : Value → World → Prop}
    (h : resAll X σ W fn.results.toList fun vs => K (tupled vs) W) : ∃ v, Sil X.P (results fn a.tmps) v ∧ K v W := by
  obtain ⟨vs, hr, hk⟩ := resAll_run ha h
  refine ⟨tupled vs, ?_, hk⟩
  have e : Sil X.P (fn.results.mapM fun r => (match r with | .tmp t => pure (a.tmps.getD t undef) | .cell b t => (do loadVar t (← asAddr (a.tmps.getD b undef))) : Sem Value)) vs.toArray := by
    rw [Array.mapM_eq_mapM_toList]
    have := hr.bind (f := fun l : List Value => (pure l.toArray : Sem (Array Value))) (sil_pure _)
    rwa [bind_pure_comp] at this
  unfold results
  refine Sil.bind e ?_
  match vs with
  | [] => exact sil_pure _
  | [v] => exact sil_pure _
  | u :: v :: vs =>
    have : (if h : (u :: v :: vs).toArray.size = 1 then (u :: v :: vs).toArray[0] else Value.tuple (u :: v :: vs).toArray) = tupled (u :: v :: vs) := by simp [tupled]
    rw [← this]; exact sil_pure _
theorem sil_events {α : Type} {P : Program} {s : Sem α} {v : α} (h : Sil P s v) (w : World) : s.events P w #[] = #[] := by
  apply Array.eq_empty_iff_forall_not_mem.2
  intro e he
  rcases (h w).ev #[] e he with h | h
  · simp at h
  · exact h
theorem denF_sound {X : Cx} (ok : Okx X) (hC : Closed X.P X.ty X.ext X.co) {f : FuncId} {fn : Func} (hfn : X.P.funcs[f]? = some fn) {args : List Value} {w : World} {R : Value → World → Prop}
    (h : denF X fn args R w) : CallsJ X.P X.co f args.toArray w R := by
  obtain ⟨c, hc, h⟩ := optP_some h
  have ok' : Okx { X with n := fn.ntmps } := ⟨ok.calls, ok.mixed⟩
  have ha : Agr fn.ntmps { tmps := args.toArray ++ Array.replicate (fn.ntmps - args.toArray.size) undef, defers := [] } (fun t => args[t]?) := by
    refine ⟨?_, fun t v hv => ?_⟩
    · simp; omega
    · have hlt : t < args.length := by
        rcases Nat.lt_or_ge t args.length with h | h
        · exact h
        · rw [List.getElem?_eq_none h] at hv; cases hv
      simp only [Array.getElem?_append, List.size_toArray, hlt, if_true, List.getElem?_toArray]
      exact hv
  intro c' cs hK
  rw [enter_at _ hfn hc]
  have leave : ∀ (a' : Act) (σ' : Env) (W' : World) (todo : List Item), Agr fn.ntmps a' σ' → a'.defers = [] → (resAll X σ' W' fn.results.toList fun vs => R (tupled vs) W') →
      X.co.J (G { (base f).at a' todo with mode := .returning } (c' :: cs)) W' := by
    intro a' σ' W' todo g1 gd g3
    obtain ⟨v, hr, hv⟩ := results_run (X := X) (n := fn.ntmps) (K := R) g1 g3
    exact J_move hC rfl (fun w => stepG_leave rfl gd hfn (hr w).run (sil_events hr w)) (hK v W' hv)
  refine den_sound (X := { X with n := fn.ntmps }) ok' hC c _ _ _ w h ha (base f) [] (c' :: cs) (by simp [base]) fun e a' W' hq => ?_
  obtain ⟨σ', g1, g2, g3⟩ := hq
  cases e with
  | normal => exact J_move hC rfl (fun w => stepG_end) (leave a' σ' W' [] g1 g2.2.2 g3)
  | ret => exact fun todo => leave a' σ' W' todo g1 g2.2.2 g3
  | _ => exact g3.elim
end Go.Cv
