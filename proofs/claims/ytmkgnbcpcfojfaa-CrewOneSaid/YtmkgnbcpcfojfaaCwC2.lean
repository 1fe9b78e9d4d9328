/- One worker, active: it has a job and turns the memory; goroutine 0 only goes to its select. -/
import Derived.Test.YtmkgnbcpcfojfaaCwB3
import Derived.Test.YtmkgnbcpcfojfaaCwD
set_option linter.unusedVariables false
set_option linter.unusedSimpArgs false
namespace Go.Cv
open Go.Conc Go.ConcN

/-- Pm: how goroutine 0 stands (with its mark). -/
structure MSB (C : Wk) (Pm : Goroutine → Mk → Prop) (X : Option Obj → Prop) (MV : World) (gs : Array Goroutine) (w : World) (t : Trace) (rk : Nat → Mk) : Prop where
  size : gs.size = C.m + 1
  m1 : 1 ≤ C.m
  on : C.on = true
  old : ∀ i g, 0 < i → i < C.m → gs[i]? = some g → ∃ q, QuitsD C.P q (Deaf t i) g ∧ rk i = (0, Rk.ofNat q)
  main : ∃ g, gs[0]? = some g ∧ Pm g (rk 0)
  sim : Sim C.ty false MV w
  x : X w.heap[C.Wg]?
  v0 : View0 C MV
  tr : TRB (ShW C.ty MV) (RdF C 1 C.m) C.m w.heap.size t
  dw : Deaf t C.m = 0
  d0 : Deaf t 0 = 0
theorem View0.step {C : Wk} {n : Nat} {MV MV' w w' : World} {es : Array Event} (v : View0 C MV) (ms : Sim C.ty false MV w) (hm : Mov C.ty (roC C n) MV MV' w w' es) (hs : Sim C.ty false MV' w') : View0 C MV' := by
  have hb : ∀ (b : Nat) (o : Obj), C.W0.heap[b]? = some o → o ≠ unkC → MV'.heap[b]? = some o := fun b o ho hu => by
    have := v.blk b o ho hu
    rw [hm.vlow b ⟨o, ho, hu⟩ (lt_of_known this)]; exact this
  have e1 := hs.tape; have e2 := hs.os; have e3 := hs.output
  have f1 := ms.tape; have f2 := ms.os; have f3 := ms.output
  refine ⟨hb, Nat.le_trans v.le hm.vsize, ?_, ?_, ?_, ?_, ?_, ?_, v.w0T⟩
  · rw [← e1, hm.rest.1, f1, v.tape]
  · rw [← e2, hm.rest.2.1, f2, v.os]
  · rw [← e3, hm.rest.2.2, f3, v.output]
  · rw [(hm.hid C.T (by rw [v.chT]; trivial)).2]; exact v.chT
  · rw [(hm.hid C.R (by rw [v.chR]; trivial)).2]; exact v.chR
  · obtain ⟨fr, hf⟩ := v.wgb
    exact ⟨fr, by rw [(hm.hid C.Wg (by rw [hf]; rfl)).2]; exact hf⟩

section
variable {C : Wk} {Pm : Goroutine → Mk → Prop} {X : Option Obj → Prop} {MV : World} {gs : Array Goroutine} {w : World} {t : Trace} {rk : Nat → Mk}
/-- Whoever is not the worker stands at a step that opens nothing. -/
def Fixed (C : Wk) (Pm : Goroutine → Mk → Prop) : Prop := ∀ g mk a a' w' MV', Pm g mk → Sim C.ty false MV' w' → View0 C MV' → woken C.P a a' w' g = g
theorem MSB.fix (ms : MSB C Pm X MV gs w t rk) (hF : Fixed C Pm) {a a' : Goroutine} {w' MV' : World} (hs : Sim C.ty false MV' w') (hv : View0 C MV') {j : Nat} {x : Goroutine} (hj : j ≠ C.m) (hx : gs[j]? = some x) : woken C.P a a' w' x = x := by
  have hlt := (Array.getElem?_eq_some_iff.1 hx).1
  rw [ms.size] at hlt
  rcases Nat.eq_zero_or_pos j with rfl | hp
  · obtain ⟨g, hg, hPm⟩ := ms.main
    rw [hx] at hg; cases hg
    exact hF _ _ _ _ _ _ hPm hs hv
  · obtain ⟨q, hq, _⟩ := ms.old j x hp (by omega) hx
    exact woken_quitsD hq
/-- A silent step of the worker's. -/
theorem MSB.worker_go (ms : MSB C Pm X MV gs w t rk) (hF : Fixed C Pm) {sl : Option (Nat × Nat)} {g g' : Goroutine} {w' MV' : World} {es : Array Event} (hg : gs[C.m]? = some g) (hst : stepG C.P false g w = .go g' w' es)
    (hm : Mov C.ty (roC C 1) MV MV' w w' es) (hs : Sim C.ty false MV' w') :
    ∃ ops, runT C.P (crowd gs w sl) C.m = (.next (crowd (gs.setIfInBounds C.m g') w' sl), ops) ∧ MSB C Pm X MV' (gs.setIfInBounds C.m g') w' (t ++ ops) rk := by
  have hm1 := ms.m1
  have hv := ms.v0.step ms.sim hm hs
  have hi0 : (C.m == 0) = false := by simp; omega
  have hfix : (gs.map (woken C.P g g' w')).setIfInBounds C.m g' = gs.setIfInBounds C.m g' := map_set_fix fun j x hj hx => ms.fix hF hs hv hj hx
  have hrun := runT_crowd_go (P := C.P) (sl := sl) (i := C.m) hg (by rw [hi0]; exact hst)
  rw [hfix] at hrun
  refine ⟨_, hrun, ?_⟩
  have hD : ∀ k, k ≠ C.m → Deaf (t ++ MemOp.ofEvents C.m g.frame.fn g.frame.place es) k = Deaf t k := fun k hk => Deaf_other t (Ne.symm hk) _ g_ofEvents
  have hWg : Hid C.ty MV.heap[C.Wg]? := by obtain ⟨fr, hf⟩ := ms.v0.wgb; rw [hf]; rfl
  refine ⟨by simp [ms.size], ms.m1, ms.on, fun i x hi him hx => ?_, ?_, hs, ?_, hv, ?_, ?_, ?_⟩
  · rw [Array.getElem?_setIfInBounds_ne (by omega)] at hx
    obtain ⟨q, hq, hr⟩ := ms.old i x hi him hx
    exact ⟨q, by rw [hD i (by omega)]; exact hq, hr⟩
  · obtain ⟨g0, h0, hP⟩ := ms.main
    exact ⟨g0, by rw [Array.getElem?_setIfInBounds_ne (by omega)]; exact h0, hP⟩
  · rw [(hm.hid C.Wg hWg).1]; exact ms.x
  · have ht : TRB (ShW C.ty MV') (RdF C 1 C.m) C.m w'.heap.size t := by
      refine ms.tr.grow hm.size (fun l hl => ?_) (fun l hl => ?_)
      · obtain ⟨a, rfl, c, fr, hb⟩ := hl
        exact ⟨a, rfl, c, fr, by rw [(hm.hid a.block (hid_shw hb)).2]; exact hb⟩
      · obtain ⟨a, rfl, c, fr, hb⟩ := hl
        rcases Nat.lt_or_ge a.block MV.heap.size with hlt | hge
        · obtain ⟨c', fr', hb'⟩ := hm.tyb a.block c fr hlt hb
          exact .inl ⟨a, rfl, c', fr', hb'⟩
        · exact .inr ⟨a, rfl, by rw [ms.sim.sizeEq]; exact hge⟩
    refine ht.appM (ofEvents_ops fun e he => ⟨rfl, fun x hx => ?_⟩) (ofEvents_ops fun e he => (evc_cases (hm.ev e he)).1) (ofEvents_ops fun e he => (evc_cases (hm.ev e he)).2.2.2.1)
    obtain ⟨hk, a, ha, hwr, c, e', fr, hb, hne⟩ := (evc_cases (hm.ev e he)).2.2.2.2 x hx
    refine ⟨?_, fun hw hrd => ?_, by rw [hk]; simp, by rw [ha]; rfl⟩
    · rintro ⟨a', ha', c', fr', hb'⟩
      rw [ha] at ha'; cases ha'
      rw [hb] at hb'
      simp only [Option.some.injEq, Obj.cells.injEq] at hb'
      exact hne hb'.2.1
    · obtain ⟨hn, _, a', ha', c', e2, fr', hb', _⟩ := hrd
      rw [ha] at ha'; cases ha'
      exact hwr hw ⟨_, hb', by simp [unkC]⟩
  · rw [Deaf_own, ms.dw]
    exact deafBehind_still (fun e he => ⟨(evc_cases (hm.ev e he)).2.1, (evc_cases (hm.ev e he)).2.2.1⟩) 0
  · rw [hD 0 (by omega)]; exact ms.d0

/-- A silent step of goroutine 0's, which only reads. -/
theorem MSB.pass_go (ms : MSB C Pm X MV gs w t rk) (hF : Fixed C Pm) (hwk : ∀ x a a' w' MV', gs[C.m]? = some x → Sim C.ty false MV' w' → View0 C MV' → woken C.P a a' w' x = x) {sl : Option (Nat × Nat)} {g g' : Goroutine} {w' : World} {es : Array Event} {mk' : Mk} (h0 : gs[0]? = some g) (hst : stepG C.P true g w = .go g' w' es)
    (hm : Mov C.ty (fun _ => True) C.W0 C.W0 w w' es) (hh : w'.heap = w.heap) (hP : Pm g' mk') :
    ∃ ops, runT C.P (crowd gs w sl) 0 = (.next (crowd (gs.setIfInBounds 0 g') w' sl), ops) ∧ MSB C Pm X MV (gs.setIfInBounds 0 g') w' (t ++ ops) (updR rk 0 mk') := by
  have hm1 := ms.m1
  have hs' : Sim C.ty false MV w' := ms.sim.ofHeap hh hm.rest
  have hlt : 0 < gs.size := (Array.getElem?_eq_some_iff.1 h0).1
  have hfix : (gs.map (woken C.P g g' w')).setIfInBounds 0 g' = gs.setIfInBounds 0 g' := map_set_fix fun j x hj hx => by
    by_cases e : j = C.m
    · subst e; exact hwk x _ _ _ _ hx hs' ms.v0
    · exact ms.fix hF hs' ms.v0 e hx
  have hrun := runT_crowd_go (P := C.P) (sl := sl) (i := 0) h0 (show stepG C.P (0 == 0) g w = _ from hst)
  rw [hfix] at hrun
  refine ⟨_, hrun, ?_⟩
  have hD : ∀ k, k ≠ 0 → Deaf (t ++ MemOp.ofEvents 0 g.frame.fn g.frame.place es) k = Deaf t k := fun k hk => Deaf_other t (Ne.symm hk) _ g_ofEvents
  refine ⟨by simp [ms.size], ms.m1, ms.on, fun i x hi him hx => ?_, ⟨g', by simp [hlt], by rw [updR_same]; exact hP⟩, hs', by rw [hh]; exact ms.x, ms.v0, ?_, by rw [hD _ (by omega)]; exact ms.dw, ?_⟩
  · rw [Array.getElem?_setIfInBounds_ne (by omega)] at hx
    obtain ⟨q, hq, hr⟩ := ms.old i x hi him hx
    exact ⟨q, by rw [hD i (by omega)]; exact hq, by rw [updR_ne rk _ (by omega)]; exact hr⟩
  · rw [hh]
    refine ms.tr.app0 (ofEvents_ops fun e he => ⟨rfl, fun x hx => ?_⟩) (ofEvents_ops fun e he => ?_) (ofEvents_ops fun e he => (evc_cases (hm.ev e he)).2.2.2.1)
    · obtain ⟨hk, a, ha, hwr, c, e', fr, hb, hne⟩ := (evc_cases (hm.ev e he)).2.2.2.2 x hx
      refine ⟨?_, ⟨ms.on, Nat.le_refl _, a, ha, c, e', fr, hb, hne⟩, ?_⟩
      · rintro ⟨a', ha', c', fr', hb'⟩
        rw [ha] at ha'; cases ha'
        rw [ms.v0.blk _ _ hb (by simp [unkC])] at hb'
        simp only [Option.some.injEq, Obj.cells.injEq] at hb'
        exact hne hb'.2.1
      · cases hxw : x.write with
        | false => rfl
        | true => exact absurd trivial (hwr hxw)
    · have := (evc_cases (hm.ev e he)).1
      rw [hh] at this; exact this
  · rw [Deaf_own, ms.d0]
    exact deafBehind_still (fun e he => ⟨(evc_cases (hm.ev e he)).2.1, (evc_cases (hm.ev e he)).2.2.1⟩) 0

/-- An earlier goroutine slips. -/
theorem MSB.old_go (ms : MSB C Pm X MV gs w t rk) (hF : Fixed C Pm) (hwk : ∀ x a a' w' MV', gs[C.m]? = some x → Sim C.ty false MV' w' → View0 C MV' → woken C.P a a' w' x = x) {sl : Option (Nat × Nat)} {i : Nat} {gi : Goroutine} (hi : 0 < i) (him : i < C.m) (hgi : gs[i]? = some gi) (hrun : gi.status = .running) :
    ∃ gs' ops rk', runT C.P (crowd gs w sl) i = (.next (crowd gs' w sl), ops) ∧ MSB C Pm X MV gs' w (t ++ ops) rk' ∧ Dec gs.size rk' rk ∧ gs'[C.m]? = gs[C.m]? ∧ gs'[0]? = gs[0]? := by
  have hm1 := ms.m1
  have hi0 : (i == 0) = false := by simp; omega
  have hlt : i < gs.size := (Array.getElem?_eq_some_iff.1 hgi).1
  obtain ⟨q, hq, hrk⟩ := ms.old i gi hi him hgi
  cases q with
  | zero => rw [hq.1] at hrun; cases hrun
  | succ q =>
    rcases hq with ⟨hf, _⟩ | ⟨_, g', es, hmute, hstp, hq'⟩
    · rw [hf] at hrun; cases hrun
    have hfix : (gs.map (woken C.P gi g' w)).setIfInBounds i g' = gs.setIfInBounds i g' := map_set_fix fun j x hj hx => by
      by_cases e : j = C.m
      · subst e; exact hwk x _ _ _ _ hx ms.sim ms.v0
      · exact ms.fix hF ms.sim ms.v0 e hx
    have hrunT := runT_crowd_go (P := C.P) (sl := sl) (i := i) hgi (show stepG C.P (i == 0) gi w = _ by rw [hi0]; exact hstp w)
    rw [hfix] at hrunT
    have hD : ∀ k, k ≠ i → Deaf (t ++ MemOp.ofEvents i gi.frame.fn gi.frame.place es) k = Deaf t k := fun k hk => Deaf_other t (Ne.symm hk) _ g_ofEvents
    refine ⟨_, _, updR rk i (0, Rk.ofNat q), hrunT, ?_, dec_upd hlt (by rw [hrk]; exact .inr ⟨rfl, ofNat_lt q⟩), by rw [Array.getElem?_setIfInBounds_ne (by omega)], by rw [Array.getElem?_setIfInBounds_ne (by omega)]⟩
    refine ⟨by simp [ms.size], ms.m1, ms.on, fun j x hj hjm hx => ?_, ?_, ms.sim, ms.x, ms.v0, ?_, by rw [hD _ (by omega)]; exact ms.dw, by rw [hD _ (by omega)]; exact ms.d0⟩
    · by_cases e : i = j
      · subst e
        rw [Array.getElem?_setIfInBounds_self_of_lt hlt] at hx
        cases hx
        exact ⟨q, by rw [Deaf_own]; exact hq', updR_same _ _ _⟩
      · rw [Array.getElem?_setIfInBounds_ne e] at hx
        obtain ⟨q2, h1, h2⟩ := ms.old j x hj hjm hx
        exact ⟨q2, by rw [hD j (Ne.symm e)]; exact h1, by rw [updR_ne rk _ (Ne.symm e)]; exact h2⟩
    · obtain ⟨g0, h0, hP⟩ := ms.main
      exact ⟨g0, by rw [Array.getElem?_setIfInBounds_ne (by omega)]; exact h0, by rw [updR_ne rk _ (by omega)]; exact hP⟩
    · refine ms.tr.mute (ofEvents_ops fun e he => touch_mute (hmute e he)) (ofEvents_ops fun e he => Nat.le_of_lt him) (ofEvents_ops fun e he => low_mute (hmute e he) _) (ofEvents_ops fun e he => fun a ha => ?_)
      have := hmute e he
      obtain ⟨loc, wr, sy⟩ := e
      cases loc with
      | mark m => cases m <;> simp [Event.mute] at this <;> simp [MemAct.ofEvent] at ha
      | _ => simp [Event.mute] at this
end
end Go.Cv
