/- One worker, active: its judgement; it brings its result; the machine goes from one state to the other. -/
import Derived.Test.YtmkgnbcpcfojfaaCwC2
import Derived.Test.YtmkgnbcpcfojfaaCwE
set_option linter.unusedVariables false
set_option linter.unusedSimpArgs false
namespace Go.Cv
open Go.Conc Go.ConcN

/-- Goroutine 0 while the worker has a job: on its way to its select, or waiting there. -/
def PmS (C : Wk) (SelP : Goroutine → Prop) (cs : Array CommCase) (g : Goroutine) (mk : Mk) : Prop :=
  (mk.1 = 1 ∧ Tree C.P C.ty true true (fun _ => True) (fun g _ => SelP g) mk.2 g C.W0) ∨ (mk.1 = 0 ∧ ∃ g0, SelP g0 ∧ g = Go.Conc.parked g0 cs .select)
structure Side (C : Wk) (SelP : Goroutine → Prop) (cs : Array CommCase) : Prop where
  run : ∀ g, SelP g → g.status = .running
  step : ∀ g, SelP g → ∀ w, stepG C.P true g w = .comm g cs true .select w #[]

theorem tree_status {P : Program} {ty : Nat} {ext main : Bool} {ro : Nat → Prop} {S : Goroutine → Prop} (hr : ∀ g, S g → g.status = .running) {r : Rk} {g : Goroutine} {W : World} (h : Tree P ty ext main ro (fun g _ => S g) r g W) : g.status = .running := by
  rcases tree_cases h with h | ⟨h, _⟩
  · exact hr _ h
  · exact h
theorem mem_offersAt_mk {x : Goroutine} {cs : Array CommCase} {sh : CommShape} {c k : Nat} {cc : CommCase} {send : Bool} (hb : x.status = .blocked) (ho : x.offers = some (cs, sh)) (hk : cs[k]? = some cc) (hs : cc.send.isSome = send) (hc : cc.chan = .chan (some c)) : k ∈ offersAt x c send := by
  unfold offersAt
  rw [hb, ho]
  simp only [List.mem_map, List.mem_filter, Bool.and_eq_true, beq_iff_eq, Prod.exists]
  exact ⟨cc, k, ⟨Array.mem_toList_iff.2 (Array.mem_zipIdx_iff_getElem?.2 (by simpa using hk)), hs, by rw [hc]; simp⟩, rfl⟩

section
variable {C : Wk} {SelP : Goroutine → Prop} {a e : Nat} {zE zR : Value} {Pm : Goroutine → Mk → Prop} {X : Option Obj → Prop} {MV : World} {gs : Array Goroutine} {w : World} {t : Trace} {rk : Nat → Mk}

theorem pms_fixed (D : Side C SelP (selCases C a e zE zR)) : Fixed C (PmS C SelP (selCases C a e zE zR)) := by
  rintro g mk x x' w' MV' (⟨_, ht⟩ | ⟨_, g0, _, rfl⟩) hs v
  · exact woken_fin (.inl (tree_status D.run ht))
  · obtain ⟨s1, r1, hT⟩ := open_of hs v.chT
    obtain ⟨s2, r2, hR⟩ := open_of hs v.chR
    unfold woken
    split
    · by_cases hae : a < e
      · simp [Goroutine.again, parked, selCases, hae, hT, rcase, hR]
      · simp [Goroutine.again, parked, selCases, hae, rcase, hR]
    · rfl
theorem MSB.at (ms : MSB C Pm X MV gs w t rk) (d : Nat) : MSB C Pm X MV gs (w.at d) t rk :=
  ⟨ms.size, ms.m1, ms.on, ms.old, ms.main, ms.sim.refl_at d, ms.x, ms.v0, ms.tr, ms.dw, ms.d0⟩
theorem MSB.awake (ms : MSB C (PmS C SelP (selCases C a e zE zR)) X MV gs w t rk) (D : Side C SelP (selCases C a e zE zR)) {x : Goroutine} (hx : gs[C.m]? = some x) (hax : Go.Conc.awake x) : ∀ g ∈ gs, Go.Conc.awake g := by
  intro g hg
  obtain ⟨i, hi, rfl⟩ := Array.mem_iff_getElem.1 hg
  have hgi : gs[i]? = some gs[i] := Array.getElem?_eq_getElem hi
  rcases Nat.eq_zero_or_pos i with rfl | hpos
  · obtain ⟨g0, h0, hP⟩ := ms.main
    rw [hgi] at h0; cases h0
    rcases hP with ⟨_, ht⟩ | ⟨_, g0, _, e⟩
    · exact awake_of (.inl (tree_status D.run ht))
    · rw [e]; exact sel_awake
  · by_cases e : i = C.m
    · subst e; rw [hgi] at hx; cases hx; exact hax
    · obtain ⟨q, hq, _⟩ := ms.old i _ hpos (by have := ms.size; omega) hgi
      exact awake_of (hq.status.elim .inl fun x => .inr (.inr x))

/-- Goroutine 0 changes for one that stands as Pm says. -/
theorem MSB.put0 (ms : MSB C Pm X MV gs w t rk) {g' : Goroutine} {mk' : Mk} (hP : Pm g' mk') : MSB C Pm X MV (gs.setIfInBounds 0 g') w t (updR rk 0 mk') := by
  have hm1 := ms.m1
  have hlt : 0 < gs.size := by have := ms.size; omega
  refine ⟨by simp [ms.size], ms.m1, ms.on, fun i x hi him hx => ?_, ⟨g', by simp [hlt], by rw [updR_same]; exact hP⟩, ms.sim, ms.x, ms.v0, ms.tr, ms.dw, ms.d0⟩
  rw [Array.getElem?_setIfInBounds_ne (by omega)] at hx
  obtain ⟨q, hq, hr⟩ := ms.old i x hi him hx
  exact ⟨q, hq, by rw [updR_ne rk _ (by omega)]; exact hr⟩
theorem MSB.putM (ms : MSB C Pm X MV gs w t rk) (x : Goroutine) : MSB C Pm X MV (gs.setIfInBounds C.m x) w t rk := by
  have hm1 := ms.m1
  refine ⟨by simp [ms.size], ms.m1, ms.on, fun i x hi him hx => ?_, ?_, ms.sim, ms.x, ms.v0, ms.tr, ms.dw, ms.d0⟩
  · rw [Array.getElem?_setIfInBounds_ne (by omega)] at hx
    exact ms.old i x hi him hx
  · obtain ⟨g0, h0, hP⟩ := ms.main
    exact ⟨g0, by rw [Array.getElem?_setIfInBounds_ne (by omega)]; exact h0, hP⟩

theorem sel_ok (hs : Sim C.ty false MV w) (v : View0 C MV) : ∀ cc ∈ selCases C a e zE zR, cc.chan = .chan none ∨ ∃ c s r, cc.chan = .chan (some c) ∧ w.heap[c]? = some (.chan 0 #[] false s r false) := by
  obtain ⟨s1, r1, hT⟩ := open_of hs v.chT
  obtain ⟨s2, r2, hR⟩ := open_of hs v.chR
  intro cc hcc
  simp only [selCases, List.mem_toArray, List.mem_cons, List.not_mem_nil, or_false] at hcc
  rcases hcc with rfl | rfl
  · by_cases hae : a < e
    · simp only [hae, if_true]; exact .inr ⟨_, s1, r1, rfl, hT⟩
    · simp only [hae, if_false]; exact .inl trivial
  · exact .inr ⟨C.R, s2, r2, rfl, hR⟩

/-- A step of goroutine 0's beside the active worker: it goes on or waits; or it is at its select and the worker is there. -/
theorem MSB.zero_go (ms : MSB C (PmS C SelP (selCases C a e zE zR)) X MV gs w t rk) (D : Side C SelP (selCases C a e zE zR)) {sl : Option (Nat × Nat)} {x g0 : Goroutine} (hx : gs[C.m]? = some x)
    (hwk : ∀ a' a'' w' MV', Sim C.ty false MV' w' → View0 C MV' → woken C.P a' a'' w' x = x) (hxT : offersAt x C.T false = []) (h0 : gs[0]? = some g0) (hrun : g0.status = .running) :
    (∃ g' ops rk' w', runT C.P (crowd gs w sl) 0 = (.next (crowd (gs.setIfInBounds 0 g') w' sl), ops) ∧ MSB C (PmS C SelP (selCases C a e zE zR)) X MV (gs.setIfInBounds 0 g') w' (t ++ ops) rk' ∧ Dec gs.size rk' rk ∧ (g'.status = .running ∨ offersAt x C.R true = [])) ∨
    (SelP g0 ∧ offersAt x C.R true ≠ []) := by
  have hm1 := ms.m1
  have hlt : 0 < gs.size := (Array.getElem?_eq_some_iff.1 h0).1
  obtain ⟨g1, h1, hP⟩ := ms.main
  rw [h0] at h1; cases h1
  rcases hP with ⟨hmk, ht⟩ | ⟨_, g1, _, rfl⟩
  · rcases tree_cases ht with hstop | ⟨_, hstep⟩
    · by_cases hxR : offersAt x C.R true = []
      · left
        rcases comm_open (sl := sl) h0 (show stepG C.P (0 == 0) g0 w = _ from D.step g0 hstop w) (sel_ok ms.sim ms.v0) with ⟨hno, hrunT⟩ | ⟨kk, cc, c', s3, r3, j, y, csj, shj, kj, ccj, d2, ops, q1, q2, q3, q4, q5, q6, q7, q8, q9, q10, _, q12⟩
        · refine ⟨_, _, updR rk 0 (0, .nil), w, hrunT, ?_, dec_upd hlt (.inl (by rw [hmk]; exact Nat.lt_succ_self 0)), .inr hxR⟩
          have e1 : t ++ MemOp.ofEvents 0 g0.frame.fn g0.frame.place #[] = t := by simp [ofEvents_eq]
          rw [e1]
          exact ms.put0 (.inr ⟨rfl, g0, hstop, rfl⟩)
        · exfalso
          have hjs : j = C.m := by
            rcases Nat.lt_or_ge j C.m with h | h
            · obtain ⟨q, hq, _⟩ := ms.old j y (Nat.pos_of_ne_zero q4) h q5
              rcases hq.status with h' | h' <;> rw [h'] at q6 <;> cases q6
            · have := (Array.getElem?_eq_some_iff.1 q5).1
              have := ms.size
              omega
          subst hjs
          rw [hx] at q5; cases q5
          have hmem := mem_offersAt_mk q6 q7 q8 (q10.trans rfl) q9
          have hcc : (cc.chan = .chan (some C.T) ∧ cc.send.isNone = false) ∨ (cc.chan = .chan (some C.R) ∧ cc.send.isNone = true) ∨ cc.chan = .chan none := by
            match kk, q1 with
            | 0, q1 =>
              simp [selCases] at q1
              subst q1
              by_cases hae : a < e
              · simp [hae]
              · simp [hae]
            | 1, q1 =>
              simp [selCases] at q1
              subst q1
              simp [rcase]
            | kk + 2, q1 => simp [selCases] at q1
          rcases hcc with ⟨hc, hsd⟩ | ⟨hc, hsd⟩ | hc
          · rw [q2] at hc
            simp only [Value.chan.injEq, Option.some.injEq] at hc
            rw [hc, hsd, hxT] at hmem; cases hmem
          · rw [q2] at hc
            simp only [Value.chan.injEq, Option.some.injEq] at hc
            rw [hc, hsd, hxR] at hmem; cases hmem
          · rw [q2] at hc; cases hc
      · exact .inr ⟨hstop, hxR⟩
    · left
      obtain ⟨g', w', es, W', r', hlt', hst, hm, hs', hh, ht'⟩ := hstep w (ms.v0.sim ms.sim)
      obtain ⟨hh1, hh2⟩ := hh rfl
      subst hh2
      obtain ⟨ops, h1, h2⟩ := ms.pass_go (pms_fixed D) (fun x' a' a'' w' MV' hx' => by rw [hx] at hx'; cases hx'; exact hwk a' a'' w' MV') (sl := sl) (mk' := (1, r')) h0 hst hm hh1 (.inl ⟨rfl, ht'⟩)
      exact ⟨g', ops, _, w', h1, h2, dec_upd hlt (.inr ⟨hmk.symm, hlt'⟩), .inl (tree_status D.run ht')⟩
  · cases hrun

/-- From every state in which the worker, active, stands as K says, the run ends well. -/
def JWK (C : Wk) (Pm : Goroutine → Mk → Prop) (X : Option Obj → Prop) (MV : World) (K : Goroutine → Prop) : Prop :=
  ∀ g gs w sl t rk, K g → gs[C.m]? = some g → MSB C Pm X MV gs w t rk → Ev C.P C.Post (crowd gs w sl) t
def JW (C : Wk) (Pm : Goroutine → Mk → Prop) (X : Option Obj → Prop) (g : Goroutine) (MV : World) : Prop := JWK C Pm X MV fun g' => g' = g

theorem jwk_step (D : Side C SelP (selCases C a e zE zR)) {K : Goroutine → Prop} (hrun : ∀ g, K g → g.status = .running)
    (h : ∀ g gs w sl t rk, K g → gs[C.m]? = some g → MSB C (PmS C SelP (selCases C a e zE zR)) X MV gs w t rk → ∃ m' ops, runT C.P (crowd gs w sl) C.m = (.next m', ops) ∧ Ev C.P C.Post m' (t ++ ops)) : JWK C (PmS C SelP (selCases C a e zE zR)) X MV K := by
  intro g gs w sl t rk hg hw ms
  induction rk using (Dec.wf (C.m + 1)).induction generalizing gs w sl t with
  | _ rk ih =>
    have hr := hrun g hg
    have hm1 := ms.m1
    obtain ⟨i, gi, ee, sl', hi, hgi, hst⟩ := crowd_pick (P := C.P) (w := w) (sl := sl) (ms.awake D hw (awake_of (.inl hr))) ⟨C.m, g, hw, hr⟩
    have ms' := ms.at ee
    by_cases him : i = C.m
    · subst him
      rw [hw] at hi; cases hi
      obtain ⟨m', ops, h1, h2⟩ := h g gs (w.at ee) sl' t rk hg hw ms'
      exact .next (hst.trans h1) h2
    have off : ∀ c s, offersAt g c s = [] := fun c s => offersAt_of_not_blocked (by rw [hr]; simp) _ _
    rcases Nat.eq_zero_or_pos i with rfl | hpos
    · rcases ms'.zero_go D (sl := sl') hw (fun _ _ _ _ _ _ => woken_fin (.inl hr)) (off _ _) hi hgi with ⟨g', ops, rk', w', h1, h2, h3, _⟩ | ⟨_, hne⟩
      · exact .next (hst.trans h1) (ih rk' (by rw [ms.size] at h3; exact h3) _ w' sl' _ (by rw [Array.getElem?_setIfInBounds_ne (by omega)]; exact hw) h2)
      · exact absurd (off _ _) hne
    · have hlt : i < C.m := by
        have := (Array.getElem?_eq_some_iff.1 hi).1
        have := ms.size
        omega
      obtain ⟨gs', ops, rk', h1, h2, h3, h4⟩ := ms'.old_go (pms_fixed D) (fun x _ _ _ _ hx _ _ => by rw [hw] at hx; cases hx; exact woken_fin (.inl hr)) (sl := sl') hpos hlt hi hgi
      exact .next (hst.trans h1) (ih rk' (by rw [ms.size] at h3; exact h3) gs' _ sl' _ (by rw [h4.1]; exact hw) h2)
theorem jw_closed (D : Side C SelP (selCases C a e zE zR)) : Closed C.P C.ty false ⟨false, roC C 1, JW C (PmS C SelP (selCases C a e zE zR)) X⟩ := by
  intro g MV hr h
  refine jwk_step D (fun g' e => e ▸ hr) fun g' gs w sl t rk e hw ms => ?_
  subst e
  obtain ⟨g', w', es, MV', hst, hm, hs', _, hJ⟩ := h w ms.sim
  obtain ⟨ops, h1, h2⟩ := ms.worker_go (pms_fixed D) (sl := sl) hw hst hm hs'
  have hlt : C.m < gs.size := (Array.getElem?_eq_some_iff.1 hw).1
  exact ⟨_, ops, h1, hJ g' _ _ _ _ _ rfl (by simp [hlt]) h2⟩

/-- The worker at its send: it brings its result. -/
theorem jw_stop (D : Side C SelP (selCases C a e zE zR)) {res : Value} {SendP : Goroutine → Prop} (hne : C.T ≠ C.R) (hsend : ∀ g, SendP g → g.status = .running ∧ ∀ w, stepG C.P false g w = .comm g #[scase C.R res C.zS] true .send w #[])
    (got : ∀ gs w sl t u rk s r dd y g, MSB C (PmS C SelP (selCases C a e zE zR)) X MV gs w t rk → SendP y → SelP g → w.heap[C.R]? = some (.chan 0 #[] false s r false) → (∀ op ∈ u, (op.g = 0 ∨ op.g = C.m) ∧ MeetAct C.R op.act) → Met C.R s r C.m 0 u →
      Ev C.P C.Post (crowd ((gs.setIfInBounds C.m (Go.Conc.served y undef)).setIfInBounds 0 (Go.Conc.served g (.tuple #[goInt 1, .bool true, res]))) ((w.at dd).setChan C.R 0 #[] false (s + 1) (r + 1) false) sl) (t ++ u)) :
    JWK C (PmS C SelP (selCases C a e zE zR)) X MV SendP := by
  -- the worker waits, goroutine 0 is on its way
  have waits : ∀ (rk : Nat → Mk) (gs : Array Goroutine) (w : World) (sl : Option (Nat × Nat)) (t : Trace) (y g0 : Goroutine), SendP y → gs[C.m]? = some (parked y #[scase C.R res C.zS] .send) → gs[0]? = some g0 → g0.status = .running → MSB C (PmS C SelP (selCases C a e zE zR)) X MV gs w t rk → Ev C.P C.Post (crowd gs w sl) t := by
    intro rk
    induction rk using (Dec.wf (C.m + 1)).induction with
    | _ rk ih =>
    intro gs w sl t y g0 hy hw h0 hr0 ms
    have hm1 := ms.m1
    obtain ⟨i, gi, ee, sl', hi, hgi, hst⟩ := crowd_pick (P := C.P) (w := w) (sl := sl) (ms.awake D hw (awake_of (.inr (.inl rfl)))) ⟨0, g0, h0, hr0⟩
    have ms' := ms.at ee
    have hwk : ∀ a' a'' w' MV', Sim C.ty false MV' w' → View0 C MV' → woken C.P a' a'' w' (parked y #[scase C.R res C.zS] .send) = parked y #[scase C.R res C.zS] .send := fun _ _ _ _ hs hv => by
      obtain ⟨a, b, hc⟩ := open_of hs hv.chR
      exact woken_send_open _ _ hc
    have him : i ≠ C.m := by
      rintro rfl
      rw [hw] at hi; cases hi; cases hgi
    rcases Nat.eq_zero_or_pos i with rfl | hpos
    · rw [h0] at hi; cases hi
      have offR : offersAt (parked y #[scase C.R res C.zS] .send) C.R true = [0] := by rw [offersAt_parked_send]; simp
      rcases ms'.zero_go D (sl := sl') hw hwk (offersAt_parked_send' _ _ _ _ _ _) h0 hr0 with ⟨g', ops, rk', w', h1, h2, h3, h4⟩ | ⟨hsel, _⟩
      · have hg' : g'.status = .running := h4.resolve_right (by rw [offR]; simp)
        have hlt : 0 < gs.size := (Array.getElem?_eq_some_iff.1 h0).1
        exact .next (hst.trans h1) (ih rk' (by rw [ms.size] at h3; exact h3) _ w' sl' _ y g' hy (by rw [Array.getElem?_setIfInBounds_ne (by omega)]; exact hw) (by simp [hlt]) hg' h2)
      · -- the meeting
        obtain ⟨s2, r2, hR⟩ := open_of ms'.sim ms.v0.chR
        rcases comm_open (sl := sl') h0 (show stepG C.P (0 == 0) g0 (w.at ee) = _ from D.step g0 hsel _) (sel_ok ms'.sim ms.v0) with ⟨hno, _⟩ | ⟨kk, cc, c', s3, r3, j, x, csj, shj, kj, ccj, d2, ops, q1, q2, q3, q4, q5, q6, q7, q8, q9, q10, ⟨q11, q13⟩, q12⟩
        · exfalso
          obtain ⟨_, hw'⟩ := hno (rcase C.R zR) (by simp [selCases])
          have : (C.m, 0) ∈ partners (gs.setIfInBounds 0 ph) C.R true := mem_partners.2 ⟨_, by rw [Array.getElem?_setIfInBounds_ne (by omega)]; exact hw, by rw [offR]; simp⟩
          simp only [ways, rcase, hR] at hw'
          rw [if_neg (by simp)] at hw'
          cases hps : partners (gs.setIfInBounds 0 ph) C.R true with
          | nil => rw [hps] at this; cases this
          | cons p ps => rw [hps] at hw'; simp at hw'
        · have hjs : j = C.m := by
            rcases Nat.lt_or_ge j C.m with h | h
            · obtain ⟨q, hq, _⟩ := ms.old j x (Nat.pos_of_ne_zero q4) h q5
              rcases hq.status with h' | h' <;> rw [h'] at q6 <;> cases q6
            · have := (Array.getElem?_eq_some_iff.1 q5).1
              have := ms.size
              omega
          subst hjs
          rw [hw] at q5; cases q5
          simp only [parked, Option.some.injEq, Prod.mk.injEq] at q7
          obtain ⟨rfl, rfl⟩ := q7
          have hk0 : kj = 0 ∧ ccj = scase C.R res C.zS := by
            cases kj with
            | zero => exact ⟨rfl, by simpa using q8.symm⟩
            | succ kj => simp at q8
          obtain ⟨rfl, rfl⟩ := hk0
          obtain rfl : c' = C.R := by simpa [scase] using q9.symm
          have hkk : kk = 1 := by
            match kk, q1 with
            | 0, q1 =>
              simp [selCases] at q1
              subst q1
              simp [scase] at q10
            | 1, q1 => rfl
            | kk + 2, q1 => simp [selCases] at q1
          subst hkk
          simp [selCases] at q1
          subst q1
          refine .next (hst.trans q12) ?_
          have h9 := got gs (w.at ee) sl' t (MemOp.ofEvents 0 g0.frame.fn g0.frame.place #[] ++ ops) rk s3 r3 d2 y g0 ms' hy hsel q3 (fun op hop => by
            rcases Array.mem_append.1 hop with h | h
            · simp [ofEvents_eq] at h
            · exact q11 op h) (by
            have e1 : MemOp.ofEvents 0 g0.frame.fn g0.frame.place #[] ++ ops = ops := by simp [ofEvents_eq]
            rw [e1]; exact q13)
          rw [← fin_sel1 C.P C g0 a e zE zR] at h9
          exact h9
    · have hlt : i < C.m := by
        have := (Array.getElem?_eq_some_iff.1 hi).1
        have := ms.size
        omega
      obtain ⟨gs', ops, rk', h1, h2, h3, h4⟩ := ms'.old_go (pms_fixed D) (fun x _ _ _ _ hx hs hv => by rw [hw] at hx; cases hx; exact hwk _ _ _ _ hs hv) (sl := sl') hpos hlt hi hgi
      exact .next (hst.trans h1) (ih rk' (by rw [ms.size] at h3; exact h3) gs' _ sl' _ y g0 hy (by rw [h4.1]; exact hw) (by rw [h4.2]; exact h0) hr0 h2)
  refine jwk_step D (fun g hg => (hsend g hg).1) fun g gs w sl t rk hg hw ms => ?_
  have hm1 := ms.m1
  have hm0 : (C.m == 0) = false := by simp; omega
  obtain ⟨s2, r2, hR⟩ := open_of ms.sim ms.v0.chR
  rcases comm_open (sl := sl) hw (by rw [hm0]; exact (hsend g hg).2 w) (fun cc hcc => by
      have : cc = scase C.R res C.zS := by simpa using hcc
      subst this; exact .inr ⟨C.R, s2, r2, rfl, hR⟩) with ⟨hno, hrunT⟩ | ⟨kk, cc, c', s3, r3, j, x, csj, shj, kj, ccj, d2, ops, q1, q2, q3, q4, q5, q6, q7, q8, q9, q10, ⟨q11, q13⟩, q12⟩
  · refine ⟨_, _, hrunT, ?_⟩
    have e1 : t ++ MemOp.ofEvents C.m g.frame.fn g.frame.place #[] = t := by simp [ofEvents_eq]
    rw [e1]
    obtain ⟨g0, h0, hP⟩ := ms.main
    have hlt : C.m < gs.size := (Array.getElem?_eq_some_iff.1 hw).1
    refine waits rk _ w sl t g g0 hg (by simp [hlt]) (by rw [Array.getElem?_setIfInBounds_ne (by omega)]; exact h0) ?_ (ms.putM _)
    rcases hP with ⟨_, ht⟩ | ⟨_, g1, hg1, rfl⟩
    · exact tree_status D.run ht
    · exfalso
      obtain ⟨_, hw'⟩ := hno (scase C.R res C.zS) (by simp)
      have : (0, 1) ∈ partners (gs.setIfInBounds C.m ph) C.R false := mem_partners.2 ⟨_, by rw [Array.getElem?_setIfInBounds_ne (by omega)]; exact h0, mem_offersAt_mk (cc := rcase C.R zR) rfl rfl (by simp [selCases]) rfl rfl⟩
      simp only [ways, scase, hR] at hw'
      simp only [Bool.false_eq_true, if_false] at hw'
      cases hps : partners (gs.setIfInBounds C.m ph) C.R false with
      | nil => rw [hps] at this; cases this
      | cons p ps => rw [hps] at hw'; simp at hw'
  · obtain ⟨rfl, rfl⟩ : kk = 0 ∧ cc = scase C.R res C.zS := by
      cases kk with
      | zero => exact ⟨rfl, by simpa using q1.symm⟩
      | succ kk => simp at q1
    obtain rfl : c' = C.R := by simpa [scase] using q2.symm
    have hjs : j = 0 := by
      rcases Nat.eq_zero_or_pos j with h | h
      · exact h
      · exfalso
        obtain ⟨q, hq, _⟩ := ms.old j x h (by have := (Array.getElem?_eq_some_iff.1 q5).1; have := ms.size; omega) q5
        rcases hq.status with h' | h' <;> rw [h'] at q6 <;> cases q6
    subst hjs
    obtain ⟨g0, h0, hP⟩ := ms.main
    rw [h0] at q5; cases q5
    rcases hP with ⟨_, ht⟩ | ⟨_, g1, hg1, rfl⟩
    · rw [tree_status D.run ht] at q6; cases q6
    simp only [parked, Option.some.injEq, Prod.mk.injEq] at q7
    obtain ⟨rfl, rfl⟩ := q7
    have hk0j : kj = 1 := by
      match kj, q8 with
      | 0, q8 =>
        simp [selCases] at q8
        subst q8
        simp [scase] at q10
      | 1, _ => rfl
      | kj + 2, q8 => simp [selCases] at q8
    subst hk0j
    simp [selCases] at q8
    subst q8
    rw [set_comm _ (by omega : 0 ≠ C.m)] at q12
    refine ⟨_, _, q12, ?_⟩
    have h9 := got gs w sl t (MemOp.ofEvents C.m g.frame.fn g.frame.place #[] ++ ops) rk s3 r3 d2 g g1 ms hg hg1 q3 (fun op hop => by
      rcases Array.mem_append.1 hop with h | h
      · simp [ofEvents_eq] at h
      · exact ⟨(q11 op h).1.symm, (q11 op h).2⟩) (by
      have e1 : MemOp.ofEvents C.m g.frame.fn g.frame.place #[] ++ ops = ops := by simp [ofEvents_eq]
      rw [e1]; exact q13)
    have e1 : Goroutine.finishComm C.P (parked g1 (selCases C a e zE zR) .select) (selCases C a e zE zR) .select ((1 : Nat) : Int) ((scase C.R res C.zS).send.getD undef) (scase C.R res C.zS).send.isSome = Go.Conc.served g1 (.tuple #[goInt 1, .bool true, res]) := fin_sel1 C.P C g1 a e zE zR _
    have e2 : Goroutine.finishComm C.P g #[scase C.R res C.zS] .send ((0 : Nat) : Int) undef false = Go.Conc.served g undef := rfl
    rw [← e1, ← e2] at h9
    exact h9
end
end Go.Cv
