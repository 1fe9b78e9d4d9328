/- Once the tasks' channel is closed: what a step of another goroutine's does. -/
import Derived.Test.YtmkgnbcpcfojfaaCwG
set_option linter.unusedVariables false
set_option linter.unusedSimpArgs false
namespace Go.Cv
open Go.Conc Go.ConcN
open Go.ConcR (KK wgBlock WgAt stA smA rd mk Bk DC0)

def updT (S : Nat → St) (k : Nat) (s : St) : Nat → St := fun a => if a = k then s else S a
theorem updT_same (S : Nat → St) (k : Nat) (s : St) : updT S k s k = s := by simp [updT]
theorem updT_ne (S : Nat → St) {k a : Nat} (s : St) (h : a ≠ k) : updT S k s a = S a := by simp [updT, h]
theorem stages_upd (S : Nat → St) (k : Nat) (s : St) : (fun a => (updT S k s a).stage) = upd (fun a => (S a).stage) k s.stage := by
  funext a
  by_cases e : a = k
  · subst e; rw [updT_same, upd_same]
  · rw [updT_ne S s e, upd_ne _ _ e]
theorem map_set_fix0 {gs : Array Goroutine} {i : Nat} {g0 g' : Goroutine} {f : Goroutine → Goroutine} (hi : 0 < i) (h0 : gs[0]? = some g0) (h : ∀ j x, 0 < j → j ≠ i → gs[j]? = some x → f x = x) :
    (gs.map f).setIfInBounds i g' = (gs.setIfInBounds 0 (f g0)).setIfInBounds i g' := by
  apply Array.ext_getElem?
  intro j
  by_cases e : i = j
  · subst e
    by_cases hlt : i < gs.size
    · rw [Array.getElem?_setIfInBounds_self_of_lt (by simpa using hlt), Array.getElem?_setIfInBounds_self_of_lt (by simpa using hlt)]
    · rw [Array.getElem?_eq_none (by simpa using hlt), Array.getElem?_eq_none (by simpa using hlt)]
  · rw [Array.getElem?_setIfInBounds_ne e, Array.getElem?_setIfInBounds_ne e, Array.getElem?_map]
    by_cases e0 : j = 0
    · subst e0
      rw [h0, Array.getElem?_setIfInBounds_self_of_lt (Array.getElem?_eq_some_iff.1 h0).1]; rfl
    · rw [Array.getElem?_setIfInBounds_ne (Ne.symm e0)]
      cases hx : gs[j]? with
      | none => rfl
      | some x => simp [h j x (by omega) (Ne.symm e) hx]
theorem cnt_upd {n : Nat} (st : Nat → Nat) {k : Nat} (s : Nat) (hk : k < n) : cnt4 n (upd st k s) + isC (st k) = cnt4 n st + isC s := sumTo_upd st s isC hk
theorem cnt_zero {n : Nat} {st : Nat → Nat} (h : cnt4 n st = 0) {k : Nat} (hk : k < n) : st k < 5 := by
  have h1 : isC (st k) ≤ cnt4 n st := le_sumTo (f := fun k => isC (st k)) hk
  rcases Nat.lt_or_ge (st k) 5 with h2 | h2
  · exact h2
  · simp only [isC, h2, if_true] at h1; omega
theorem cnt_le {n : Nat} {st : Nat → Nat} : cnt4 n st ≤ n := by
  have := sumTo_le (f := fun k => isC (st k)) (c := 1) (j := n) fun i _ => by simp only [isC]; split <;> omega
  unfold cnt4; omega
theorem isC_one {s : Nat} (h : 5 ≤ s) : isC s = 1 := by simp [isC, h]
theorem isC_zero {s : Nat} (h : s < 5) : isC s = 0 := by simp [isC]; omega
theorem cnt_one_others {n : Nat} {st : Nat → Nat} {k j : Nat} (hk : k < n) (hj : j < n) (hjk : j ≠ k) (h5 : 5 ≤ st k) (h1 : cnt4 n st = 1) : st j < 5 := by
  have e : cnt4 n (upd st k 1) = 0 := by have := cnt_upd st 1 hk; rw [isC_one h5, isC_zero (by omega : (1 : Nat) < 5)] at this; omega
  have := cnt_zero e hj
  rwa [upd_ne _ _ hjk] at this

section
variable {C : Wk} {N n d : Nat} {reg : Bool} {S : Nat → St} {MV : World} {gs : Array Goroutine} {w : World} {t : Trace} {rk : Nat → Mk}

/-- What a worker's step keeps: the machine with the worker's record laid anew, goroutine 0's perhaps let try again. -/
theorem MS4.other (ms : MS4 C n d reg S MV gs w t rk) {k : Nat} (hk : k < n) {g' g0' : Goroutine} {w' : World} {u : Trace} {st' : St} {mk' : Mk} (ha : Aside C.Wg w w') (hg : ∀ op ∈ u, op.g = C.m + k)
    (hs' : Sit4 C st'.stage st'.deaf g' w' mk'.2) (hm' : mk'.1 = st'.stage) (hwg : WgM C n reg (upd (fun a => (S a).stage) k st'.stage) w') (hd : Deaf (t ++ u) (C.m + k) = st'.deaf)
    (hrel : st'.stage ≤ 6 → ∃ r, RelBy (stA C.Wg) (t ++ u) (C.m + k) r) (htr : TR (ShW C.ty MV) Non (RdF C n) C.m (C.m + n - 1) w.heap.size (t ++ u)) :
    MS4 C n d reg (updT S k st') MV ((gs.setIfInBounds 0 g0').setIfInBounds (C.m + k) g') w' (t ++ u) (updR rk (C.m + k) mk') := by
  have hm1 := ms.m1
  have hD : ∀ j, j ≠ C.m + k → Deaf (t ++ u) j = Deaf t j := fun j hj => Deaf_other t (Ne.symm hj) _ hg
  refine ⟨by simp [ms.size], ms.on, hm1, fun j x hj hjm hx => ?_, fun k' hk' => ?_, ms.vw.wgb.sim ms.sim ha hwg.live, ms.vw.turn ha, by rw [stages_upd]; exact hwg, by rw [ha.size]; exact htr, fun k' hk' => ?_, by rw [hD 0 (by omega)]; exact ms.d0, fun k' hk' hst => ?_⟩
  · rw [Array.getElem?_setIfInBounds_ne (by omega), Array.getElem?_setIfInBounds_ne (by omega)] at hx
    obtain ⟨q, hq, hr⟩ := ms.old j x hj hjm hx
    exact ⟨q, by rw [hD j (by omega)]; exact hq, by rw [updR_ne rk _ (by omega)]; exact hr⟩
  · obtain ⟨x, hx, hsit, h3⟩ := ms.wk k' hk'
    by_cases e : k' = k
    · subst e
      refine ⟨g', ?_, by rw [updT_same, updR_same]; exact hs', by rw [updT_same, updR_same]; exact hm'⟩
      rw [Array.getElem?_setIfInBounds_self_of_lt (by simp; exact (Array.getElem?_eq_some_iff.1 hx).1)]
    · refine ⟨x, ?_, by rw [updT_ne S _ e, updR_ne rk _ (by omega)]; exact sit4_rely hsit (fun _ => hwg.live), by rw [updT_ne S _ e, updR_ne rk _ (by omega)]; exact h3⟩
      rw [Array.getElem?_setIfInBounds_ne (by omega), Array.getElem?_setIfInBounds_ne (by omega)]; exact hx
  · by_cases e : k' = k
    · subst e; rw [updT_same]; exact hd
    · rw [updT_ne S _ e, hD _ (by omega)]; exact ms.dw k' hk'
  · by_cases e : k' = k
    · subst e; rw [updT_same] at hst; exact hrel hst
    · rw [updT_ne S _ e] at hst
      obtain ⟨r, hr⟩ := ms.rel k' hk' hst
      exact ⟨r, hr.appOther hg (by omega)⟩

/-- What a worker lists in the library. -/
theorem tr_lib (ms : MS4 C n d reg S MV gs w t rk) {k : Nat} (hk : k < n) {fn : FuncId} {pos : String} {es : Array Event} (hes : ∀ e ∈ es, Bk C.Wg e ∨ e = mk (.releaseMerge (stA C.Wg))) :
    TR (ShW C.ty MV) Non (RdF C n) C.m (C.m + n - 1) w.heap.size (t ++ MemOp.ofEvents (C.m + k) fn pos es) := by
  have hm1 := ms.m1
  have hlt : C.Wg < w.heap.size := by
    obtain ⟨x, y, e⟩ := ms.vw.wgb.live ms.sim
    exact (Array.getElem?_eq_some_iff.1 e).1
  have key : ∀ e ∈ es, (MemAct.ofEvent e).low w.heap.size ∧ (∀ a, MemAct.ofEvent e ≠ .mark (.release a)) ∧ ∀ x, (MemAct.ofEvent e).touch? = some x → ShW C.ty MV x.loc ∧ x.kind = .atomic := by
    intro e he
    rcases hes e he with hb | rfl
    · obtain ⟨h1, h2, h3⟩ := lib_cases (.inl hb) hlt
      refine ⟨h1, h2, fun x hx => ?_⟩
      obtain ⟨_, a, hxa, hab⟩ := h3 x hx
      obtain ⟨fr, hf⟩ := ms.vw.wgb
      refine ⟨⟨a, hxa, #[], fr, by rw [hab]; exact hf⟩, ?_⟩
      rcases hb with h | h | ⟨a, wr, rfl, _⟩
      · obtain ⟨loc, p, q⟩ := e; simp only at h; subst h; cases p <;> cases q <;> simp [MemAct.ofEvent, MemAct.touch?] at hx
      · obtain ⟨loc, p, q⟩ := e; simp only at h; subst h; cases p <;> cases q <;> simp [MemAct.ofEvent, MemAct.touch?] at hx
      · cases wr <;> simp [MemAct.ofEvent, MemAct.touch?] at hx <;> subst hx <;> rfl
    · exact ⟨hlt, by simp [mk, MemAct.ofEvent], fun x hx => by simp [mk, MemAct.ofEvent, MemAct.touch?] at hx⟩
  refine ms.tr.appK (k := C.m + k) (MS4.apart ms.vw) (by omega) (by omega) (ofEvents_ops fun e he => ⟨rfl, fun x hx => .inl ⟨((key e he).2.2 x hx).1, by rw [((key e he).2.2 x hx).2]; simp, by rw [((key e he).2.2 x hx).2]; simp⟩⟩)
    (ofEvents_ops fun e he => (key e he).1) (ofEvents_ops fun e he => (key e he).2.1) (ofEvents_ops fun e he => fun x hx => ⟨by omega, fun hs => absurd ((key e he).2.2 x hx).1 hs⟩)

/-- Goroutine 0 behind another's step. -/
def Woke (g0 g0' : Goroutine) : Prop := g0' = g0 ∨ (g0.status = .blocked ∧ g0' = { g0 with status := .running })
theorem woke_of {P : Program} {a a' g0 : Goroutine} {w' : World} (hg0 : g0.status = .running ∨ (g0.status = .blocked ∧ g0.offers = none)) : Woke g0 (woken P a a' w' g0) ∧ (mayWake P a = true → a'.status = .running → (woken P a a' w' g0).status = .running) := by
  rcases hg0 with h | ⟨h, ho⟩
  · rw [woken_run h]; exact ⟨.inl rfl, fun _ _ => h⟩
  · unfold woken
    split
    · have e : g0.again w' = { g0 with status := .running } := by unfold Goroutine.again; rw [h, ho]
      rw [e]; exact ⟨.inr ⟨h, rfl⟩, fun _ _ => rfl⟩
    · rename_i hc
      exact ⟨.inl rfl, fun h1 h2 => absurd (by simp [h1, h2]) hc⟩

set_option maxHeartbeats 1000000 in
theorem MS4.others (H : WkOk C N) (H4 : WkOk4 C) (hnn : n < 2147483648) (ms : MS4 C n d reg S MV gs w t rk) {sl : Option (Nat × Nat)} {i : Nat} {gi g0 : Goroutine} (hi : 0 < i) (hgi : gs[i]? = some gi) (hrun : gi.status = .running) (h0 : gs[0]? = some g0)
    (hg0 : g0.status = .running ∨ (g0.status = .blocked ∧ g0.offers = none)) (hblk : g0.status = .blocked → ¬ WgAt C.ty C.Wg w 0 1) :
    ∃ gs' ops rk' S' w' g0', runT C.P (crowd gs w sl) i = (.next (crowd gs' w' sl), ops) ∧ MS4 C n d reg S' MV gs' w' (t ++ ops) rk' ∧ Dec gs.size rk' rk ∧ gs'[0]? = some g0' ∧ RL C.ty C.Wg w w' ∧ Woke g0 g0' ∧
      (g0'.status = .blocked → ¬ WgAt C.ty C.Wg w' 0 1) ∧ ∀ k, k < n → (S' k).stage ≤ (S k).stage := by
  have hlt : i < gs.size := (Array.getElem?_eq_some_iff.1 hgi).1
  have hi0 : (i == 0) = false := by simp; omega
  have hm1 := ms.m1
  have g00 : ∀ (x y : Goroutine), ((gs.setIfInBounds 0 x).setIfInBounds i y)[0]? = some x := fun x y => by
    rw [Array.getElem?_setIfInBounds_ne (by omega), Array.getElem?_setIfInBounds_self_of_lt (Array.getElem?_eq_some_iff.1 h0).1]
  have go : ∀ {g' : Goroutine} {w' : World} {es : Array Event}, stepG C.P false gi w = .go g' w' es →
      runT C.P (crowd gs w sl) i = (.next (crowd ((gs.setIfInBounds 0 (woken C.P gi g' w' g0)).setIfInBounds i g') w' sl), MemOp.ofEvents i gi.frame.fn gi.frame.place es) := by
    intro g' w' es hst
    rw [runT_crowd_go hgi (by rw [hi0]; exact hst), map_set_fix0 hi h0 fun j x hj hji hx => ms.fix H hj hx]
  have nowake : ∀ {g' : Goroutine} {w' : World}, ¬ WgAt C.ty C.Wg w' 0 1 → ((woken C.P gi g' w' g0).status = .blocked → ¬ WgAt C.ty C.Wg w' 0 1) := fun h _ => h
  have blkd : ∀ {g' : Goroutine} {w' : World}, w'.heap[C.Wg]? = w.heap[C.Wg]? → (woken C.P gi g' w' g0).status = .blocked → ¬ WgAt C.ty C.Wg w' 0 1 := by
    intro g' w' e hb
    rcases (woke_of (P := C.P) (a := gi) (a' := g') (w' := w') hg0).1 with h | ⟨_, h⟩
    · rw [h] at hb; unfold WgAt; rw [e]; exact hblk hb
    · rw [h] at hb; cases hb
  rcases ms.who hi hgi with ⟨him, q, hq, hrk⟩ | ⟨k, hk, rfl, hsit, hst1⟩
  · -- an earlier goroutine slips
    cases q with
    | zero => rw [hq.1] at hrun; cases hrun
    | succ q =>
      rcases hq with ⟨hf, _⟩ | ⟨_, g', es, hmute, hstp, hq'⟩
      · rw [hf] at hrun; cases hrun
      have hu : ∀ op ∈ MemOp.ofEvents i gi.frame.fn gi.frame.place es, op.g = i ∧ op.act.touch? = none ∧ op.act.low w.heap.size ∧ ∀ a, op.act ≠ .mark (.release a) :=
        ofEvents_ops fun e he => ⟨rfl, touch_mute (hmute e he), low_mute (hmute e he) _, fun a ha => by
          have := hmute e he
          obtain ⟨loc, wr, sy⟩ := e
          cases loc with
          | mark m => cases m <;> simp [Event.mute] at this <;> simp [MemAct.ofEvent] at ha
          | _ => simp [Event.mute] at this⟩
      have hD : ∀ j, j ≠ i → Deaf (t ++ MemOp.ofEvents i gi.frame.fn gi.frame.place es) j = Deaf t j := fun j hj => Deaf_other t (Ne.symm hj) _ g_ofEvents
      refine ⟨_, _, updR rk i (0, Rk.ofNat q), S, w, _, go (hstp w), ?_, dec_upd hlt (by rw [hrk]; exact .inr ⟨rfl, ofNat_lt q⟩), g00 _ _, id, (woke_of hg0).1, blkd rfl, fun _ _ => Nat.le_refl _⟩
      refine ⟨by simp [ms.size], ms.on, hm1, fun j x hj hjm hx => ?_, fun k hk => ?_, ms.sim, ms.vw, ms.wg, ?_, fun k hk => by rw [hD _ (by omega)]; exact ms.dw k hk, by rw [hD _ (by omega)]; exact ms.d0, fun k hk hs => ?_⟩
      · by_cases e : i = j
        · subst e
          rw [Array.getElem?_setIfInBounds_self_of_lt (by simpa using hlt)] at hx
          cases hx
          exact ⟨q, by rw [Deaf_own]; exact hq', updR_same _ _ _⟩
        · rw [Array.getElem?_setIfInBounds_ne e, Array.getElem?_setIfInBounds_ne (by omega)] at hx
          obtain ⟨q, hq, hr⟩ := ms.old j x hj hjm hx
          exact ⟨q, by rw [hD j (Ne.symm e)]; exact hq, by rw [updR_ne rk _ (Ne.symm e)]; exact hr⟩
      · obtain ⟨x, hx, h2, h3⟩ := ms.wk k hk
        exact ⟨x, by rw [Array.getElem?_setIfInBounds_ne (by omega), Array.getElem?_setIfInBounds_ne (by omega)]; exact hx, by rw [updR_ne rk _ (by omega)]; exact h2, by rw [updR_ne rk _ (by omega)]; exact h3⟩
      · exact ms.tr.appK (MS4.apart ms.vw) hi (by omega) (fun op hop => ⟨(hu op hop).1, fun x hx => by rw [(hu op hop).2.1] at hx; cases hx⟩) (fun op hop => (hu op hop).2.2.1) (fun op hop => (hu op hop).2.2.2) fun op hop x hx => by rw [(hu op hop).2.1] at hx; cases hx
      · obtain ⟨r, hr⟩ := ms.rel k hk hs
        exact ⟨r, hr.appOther (fun op hop => (hu op hop).1) (by omega)⟩
  · -- a worker
    have stg : ∀ (st' : St), st'.stage ≤ (S k).stage → ∀ k', k' < n → (updT S k st' k').stage ≤ (S k').stage := fun st' h k' _ => by
      by_cases e : k' = k
      · subst e; rw [updT_same]; exact h
      · rw [updT_ne S _ e]; exact Nat.le_refl _
    -- a step '.go'
    have step : ∀ {g' : Goroutine} {w' : World} {es : Array Event} {st' : St} {mk' : Mk}, stepG C.P false gi w = .go g' w' es → Aside C.Wg w w' → Sit4 C st'.stage st'.deaf g' w' mk'.2 → mk'.1 = st'.stage →
        WgM C n reg (upd (fun a => (S a).stage) k st'.stage) w' → deafBehind (S k).deaf es = st'.deaf → (st'.stage ≤ 6 → ∃ r, RelBy (stA C.Wg) (t ++ MemOp.ofEvents (C.m + k) gi.frame.fn gi.frame.place es) (C.m + k) r) →
        TR (ShW C.ty MV) Non (RdF C n) C.m (C.m + n - 1) w.heap.size (t ++ MemOp.ofEvents (C.m + k) gi.frame.fn gi.frame.place es) → Mk.lt mk' (rk (C.m + k)) → st'.stage ≤ (S k).stage →
        ((woken C.P gi g' w' g0).status = .blocked → ¬ WgAt C.ty C.Wg w' 0 1) →
        ∃ gs' ops rk' S' w' g0', runT C.P (crowd gs w sl) (C.m + k) = (.next (crowd gs' w' sl), ops) ∧ MS4 C n d reg S' MV gs' w' (t ++ ops) rk' ∧ Dec gs.size rk' rk ∧ gs'[0]? = some g0' ∧ RL C.ty C.Wg w w' ∧ Woke g0 g0' ∧
          (g0'.status = .blocked → ¬ WgAt C.ty C.Wg w' 0 1) ∧ ∀ k, k < n → (S' k).stage ≤ (S k).stage := by
      intro g' w' es st' mk' h1 ha h2 h3 h4 h5 h6 h7 h8 h9 h10
      exact ⟨_, _, updR rk (C.m + k) mk', updT S k st', w', _, go h1, ms.other hk ha g_ofEvents h2 h3 h4 (by rw [Deaf_own, ms.dw k hk]; exact h5) h6 h7, dec_upd hlt h8, g00 _ _, fun _ => h4.live, (woke_of hg0).1, h10, stg st' h9⟩
    -- a silent step of its tree
    have silent : ∀ {g' : Goroutine} {w' W' : World} {es : Array Event} {r' : Rk}, 7 ≤ (S k).stage → (S k).deaf = 0 → stepG C.P false gi w = .go g' w' es → Mov C.ty (fun _ => True) C.W0 W' w w' es → w'.heap = w.heap ∧ W' = C.W0 → Sit4 C (S k).stage (S k).deaf g' w' r' → Rk.lt r' (rk (C.m + k)).2 →
        ∃ gs' ops rk' S' w' g0', runT C.P (crowd gs w sl) (C.m + k) = (.next (crowd gs' w' sl), ops) ∧ MS4 C n d reg S' MV gs' w' (t ++ ops) rk' ∧ Dec gs.size rk' rk ∧ gs'[0]? = some g0' ∧ RL C.ty C.Wg w w' ∧ Woke g0 g0' ∧
          (g0'.status = .blocked → ¬ WgAt C.ty C.Wg w' 0 1) ∧ ∀ k, k < n → (S' k).stage ≤ (S k).stage := by
      intro g' w' W' es r' h7 hd0 hst hm ⟨hh, hW⟩ hs' hlt'
      subst hW
      have ha : Aside C.Wg w w' := ⟨hm.rest.1, hm.rest.2.1, hm.rest.2.2, by rw [hh], fun b _ => by rw [hh]⟩
      refine step (st' := S k) (mk' := ((S k).stage, r')) hst ha hs' rfl ?_ ?_ (fun h => by omega) ?_ (.inr ⟨hst1.symm, hlt'⟩) (Nat.le_refl _) (blkd (by rw [hh]))
      · have e : upd (fun a => (S a).stage) k (S k).stage = fun a => (S a).stage := by
          funext a
          by_cases e : a = k
          · subst e; rw [upd_same]
          · rw [upd_ne _ _ e]
        rw [e]; exact ms.wg.of (by rw [hh])
      · rw [hd0]; exact deafBehind_still (fun e he => ⟨(evc_cases (hm.ev e he)).2.1, (evc_cases (hm.ev e he)).2.2.1⟩) 0
      · have key : ∀ e ∈ es, ∀ x, (MemAct.ofEvent e).touch? = some x → x.kind = .plain ∧ x.write = false ∧ RdF C n (C.m + k) x.loc ∧ x.loc.isMemory = true := by
          intro e he x hx
          obtain ⟨hkd, a, ha, hwr, c, e', fr, hb, hne⟩ := (evc_cases (hm.ev e he)).2.2.2.2 x hx
          refine ⟨hkd, ?_, ⟨ms.on, by omega, a, ha, c, e', fr, hb, hne⟩, by rw [ha]; rfl⟩
          cases hxw : x.write with
          | false => rfl
          | true => exact absurd trivial (hwr hxw)
        refine ms.tr.appK (MS4.apart ms.vw) hi (by omega) (ofEvents_ops fun e he => ⟨rfl, fun x hx => .inr (.inr ⟨(key e he x hx).2.2.1, (key e he x hx).2.1⟩)⟩) (ofEvents_ops fun e he => ?_) (ofEvents_ops fun e he => (evc_cases (hm.ev e he)).2.2.2.1)
          (ofEvents_ops fun e he => fun x hx => ⟨by omega, fun _ => ⟨by rw [(key e he x hx).1]; simp, (key e he x hx).2.2.2⟩⟩)
        have := (evc_cases (hm.ev e he)).1
        rw [hh] at this; exact this
    have s0 : Sim C.ty true C.W0 w := ms.vw.sim ms.sim
    have hdw := ms.dw k hk
    -- a step of the library's bookkeeping
    have lib : ∀ {g' : Goroutine} {w' : World} {es : Array Event} {st' : St} {mk' : Mk}, stepG C.P false gi w = .go g' w' es → Aside C.Wg w w' → Sit4 C st'.stage st'.deaf g' w' mk'.2 → mk'.1 = st'.stage →
        WgM C n reg (upd (fun a => (S a).stage) k st'.stage) w' → deafBehind (S k).deaf es = st'.deaf → (S k).stage ≤ 6 → (∀ e ∈ es, Bk C.Wg e) → (∀ jx e, es[jx]? = some e → (MemAct.ofEvent e).touch? = none ∨ 0 < deafBehind (S k).deaf (es.extract 0 jx)) →
        Mk.lt mk' (rk (C.m + k)) → st'.stage ≤ (S k).stage → ((woken C.P gi g' w' g0).status = .blocked → ¬ WgAt C.ty C.Wg w' 0 1) →
        ∃ gs' ops rk' S' w' g0', runT C.P (crowd gs w sl) (C.m + k) = (.next (crowd gs' w' sl), ops) ∧ MS4 C n d reg S' MV gs' w' (t ++ ops) rk' ∧ Dec gs.size rk' rk ∧ gs'[0]? = some g0' ∧ RL C.ty C.Wg w w' ∧ Woke g0 g0' ∧
          (g0'.status = .blocked → ¬ WgAt C.ty C.Wg w' 0 1) ∧ ∀ k, k < n → (S' k).stage ≤ (S k).stage := by
      intro g' w' es st' mk' h1 ha h2 h3 h4 h5 h6 hbk hdf h8 h9 h10
      exact step h1 ha h2 h3 h4 h5 (fun _ => let ⟨r, hr⟩ := ms.rel k hk h6; ⟨r, hr.book hdw _ _ hbk hdf⟩) (tr_lib ms hk fun e he => .inl (hbk e he)) h8 h9 h10
    have same : ∀ {w' : World}, w'.heap[C.Wg]? = w.heap[C.Wg]? → ∀ s, s = (S k).stage → WgM C n reg (upd (fun a => (S a).stage) k s) w' := by
      intro w' e s hs
      have e2 : upd (fun a => (S a).stage) k s = fun a => (S a).stage := by
        funext a
        by_cases e : a = k
        · subst e; rw [upd_same, hs]
        · rw [upd_ne _ _ e]
      rw [e2]; exact ms.wg.of e
    have moved : ∀ {w' : World} (s : Nat), w'.heap[C.Wg]? = w.heap[C.Wg]? → 5 ≤ s → 5 ≤ (S k).stage → WgM C n reg (upd (fun a => (S a).stage) k s) w' := by
      intro w' s e h5 h5'
      have hc : cnt4 n (upd (fun a => (S a).stage) k s) = cnt4 n (fun a => (S a).stage) := by
        have := cnt_upd (fun a => (S a).stage) s hk
        rw [isC_one h5, isC_one h5'] at this; omega
      have hw := ms.wg
      unfold WgM at hw ⊢
      unfold WgAt at hw ⊢
      rw [e, hc]
      have hall : (∀ k', k' < n → (S k').stage = 1 ∨ 5 ≤ (S k').stage) → ∀ k', k' < n → upd (fun a => (S a).stage) k s k' = 1 ∨ 5 ≤ upd (fun a => (S a).stage) k s k' := fun h k' hk' => by
        by_cases e : k' = k
        · subst e; rw [upd_same]; exact .inr h5
        · rw [upd_ne _ _ e]; exact h k' hk'
      cases reg with
      | false => exact ⟨hall hw.1, hw.2⟩
      | true =>
        simp only [if_true] at hw ⊢
        rcases hw with ⟨h1, h2, h3⟩ | ⟨l, hl, h1, h2, h3⟩ | ⟨h1, h2⟩
        · exact .inl ⟨h1, hall h2, h3⟩
        · by_cases e : k = l
          · subst e; omega
          · have := h2 k hk e; omega
        · have := h1 k hk; omega
    -- the way to the release, and it
    have seven : ∀ {f : Nat}, Gos C.P false C.ty C.Wg (Ch7 C) f gi w → 7 ≤ (S k).stage → (S k).deaf = 0 → (∀ mk' : Mk, mk'.1 < 7 → Mk.lt mk' (rk (C.m + k))) → (∀ f', f = f' + 1 → Mk.lt (7, Rk.ofNat f') (rk (C.m + k))) →
        ∃ gs' ops rk' S' w' g0', runT C.P (crowd gs w sl) (C.m + k) = (.next (crowd gs' w' sl), ops) ∧ MS4 C n d reg S' MV gs' w' (t ++ ops) rk' ∧ Dec gs.size rk' rk ∧ gs'[0]? = some g0' ∧ RL C.ty C.Wg w w' ∧ Woke g0 g0' ∧
          (g0'.status = .blocked → ¬ WgAt C.ty C.Wg w' 0 1) ∧ ∀ k, k < n → (S' k).stage ≤ (S k).stage := by
      intro f h h7 hd0 hlt1 hlt2
      rcases Goes.cases h with hstop | ⟨f', rfl, hstep⟩
      · obtain ⟨_, g', hst, f', hg'⟩ := hstop w id
        refine step (st' := ⟨6, 0⟩) (mk' := (6, Rk.ofNat f')) hst (.refl _ _) (.d6 hg') rfl (moved 6 rfl (by omega) (by omega)) (by rw [hd0]; rfl) (fun _ => ⟨t.size, RelBy.new (by rw [hdw, hd0]) _ _⟩) (tr_lib ms hk fun e he => .inr (by simpa using he)) (hlt1 _ (by simp)) (by simp only; omega) (blkd rfl)
      · obtain ⟨g', w', es, hst, ⟨rfl, rfl⟩, hg'⟩ := hstep w id
        refine step (st' := ⟨7, 0⟩) (mk' := (7, Rk.ofNat f')) hst (.refl _ _) (.d7 hg') rfl (moved 7 rfl (by omega) (by omega)) (by rw [hd0]; rfl) (fun h => by simp only at h; omega) (tr_lib ms hk (by simp)) (hlt2 f' rfl) (by simp only; omega) (blkd rfl)
    -- it finds the channel closed
    have shut : ∀ {g1 : Goroutine} {r : Rk}, C.RecvG g1 → (∀ w, stepG C.P false gi w = .comm g1 #[rcase C.T C.zT] true (.recv true) w #[]) → (S k).stage = 9 → (S k).deaf = 0 →
        ∃ gs' ops rk' S' w' g0', runT C.P (crowd gs w sl) (C.m + k) = (.next (crowd gs' w' sl), ops) ∧ MS4 C n d reg S' MV gs' w' (t ++ ops) rk' ∧ Dec gs.size rk' rk ∧ gs'[0]? = some g0' ∧ RL C.ty C.Wg w w' ∧ Woke g0 g0' ∧
          (g0'.status = .blocked → ¬ WgAt C.ty C.Wg w' 0 1) ∧ ∀ k, k < n → (S' k).stage ≤ (S k).stage := by
      intro g1 r hg1 hcm h9 hd0
      obtain ⟨s, rc, hT⟩ := ms.vw.clT
      have hp : partners (gs.setIfInBounds (C.m + k) ph) C.T true = [] := by
        refine partners_nil fun j x hx => ?_
        rcases getElem?_stand gs _ j x hx with ⟨_, rfl⟩ | ⟨hne, hxj⟩
        · exact offersAt_ph _ _
        · rcases Nat.eq_zero_or_pos j with rfl | hjp
          · rw [h0] at hxj; cases hxj
            rcases hg0 with h | ⟨h, ho⟩
            · exact offersAt_of_not_blocked (by rw [h]; simp) _ _
            · unfold offersAt; rw [h, ho]
          · rcases ms.who hjp hxj with ⟨_, q, hq, _⟩ | ⟨k', _, _, hs', _⟩
            · exact offersAt_of_not_blocked (by rcases hq.status with h | h <;> rw [h] <;> simp) _ _
            · exact offersAt_of_not_blocked (by rcases sit4_run H hs' with h | h <;> rw [h] <;> simp) _ _
      have hrunT := crowd_recv_closed (sl := sl) hgi (by rw [hi0]; exact hcm w) hT hp
      have e0 : MemOp.ofEvents (C.m + k) gi.frame.fn gi.frame.place #[] = #[] := by simp [ofEvents_eq]
      rw [e0] at hrunT
      have hfc : g1.finishComm C.P #[rcase C.T C.zT] (.recv true) 0 C.zT false = Go.Conc.served g1 (.tuple #[C.zT, .bool false]) := finishComm_recv _ _ _ _ _ _ _
      rw [hfc] at hrunT
      obtain ⟨r', ht⟩ := H4.recv_none g1 hg1
      have hops : ∀ op ∈ (#[] ++ #[({ g := C.m + k, fn := g1.frame.fn, pos := g1.frame.place, act := .recvClosed C.T } : MemOp)] : Array MemOp), op = { g := C.m + k, fn := g1.frame.fn, pos := g1.frame.place, act := .recvClosed C.T } := by
        intro op hop; simpa using hop
      have hTB : C.T < w.heap.size := (Array.getElem?_eq_some_iff.1 hT).1
      have hgs0 : gs.setIfInBounds 0 g0 = gs := by
        apply Array.ext_getElem?
        intro j
        by_cases e : j = 0
        · subst e; rw [Array.getElem?_setIfInBounds_self_of_lt (Array.getElem?_eq_some_iff.1 h0).1, h0]
        · rw [Array.getElem?_setIfInBounds_ne (Ne.symm e)]
      have hms := ms.other (u := #[] ++ #[({ g := C.m + k, fn := g1.frame.fn, pos := g1.frame.place, act := .recvClosed C.T } : MemOp)]) (g' := Go.Conc.served g1 (.tuple #[C.zT, .bool false])) (g0' := g0) (w' := w) (st' := ⟨8, 0⟩) (mk' := (8, r')) hk (.refl _ _) (fun op hop => by rw [hops op hop]) (.cl ht) rfl (moved 8 rfl (by omega) (by omega))
        (by rw [Deaf_still _ _ _ (fun op hop => by rw [hops op hop]; exact ⟨by simp, by simp⟩), hdw, hd0]) (fun h => by simp only at h; omega) (by
          have := TR.mute (MS4.apart ms.vw) [({ g := C.m + k, fn := g1.frame.fn, pos := g1.frame.place, act := .recvClosed C.T } : MemOp)] ms.tr fun op hop => by
            have e : op = { g := C.m + k, fn := g1.frame.fn, pos := g1.frame.place, act := .recvClosed C.T } := by simpa using hop
            subst e
            exact ⟨by simp only; omega, rfl, hTB, by simp⟩
          simpa using this)
      rw [hgs0] at hms
      exact ⟨_, _, updR rk (C.m + k) (8, r'), updT S k ⟨8, 0⟩, w, g0, hrunT, hms, dec_upd hlt (.inl (by rw [hst1, h9]; simp)), by rw [Array.getElem?_setIfInBounds_ne (by omega)]; exact h0, id, .inl rfl, hblk, stg _ (by rw [h9]; simp)⟩
    generalize hsk : (S k).stage = sk at hsit hst1
    generalize hdk : (S k).deaf = dk at hsit
    generalize hrr : (rk (C.m + k)).2 = rr at hsit
    have ltA : ∀ mk' : Mk, mk'.1 < sk → Mk.lt mk' (rk (C.m + k)) := fun mk' h => .inl (by rw [hst1]; exact h)
    have ltB : ∀ {s f f' : Nat}, s = sk → rr = Rk.ofNat f → f = f' + 1 → Mk.lt (s, Rk.ofNat f') (rk (C.m + k)) := fun {s f f'} hs hr hf => .inr ⟨by rw [hst1]; exact hs, by rw [hrr, hr, hf]; exact ofNat_lt f'⟩
    cases hsit with
    | tr ht =>
      rcases tree_cases ht with hstop | ⟨_, hstep⟩
      · exact shut (r := .nil) hstop (H.recv_step gi hstop).2 hsk hdk
      · obtain ⟨g', w', es, W', r', hlt', hst, hm, hs', hh, ht'⟩ := hstep w s0
        have hh2 := (hh rfl).1
        have hW := (hh rfl).2
        exact silent (r' := r') (by omega) hdk hst hm ⟨hh2, hW⟩ (by rw [hsk, hdk]; rw [hW] at ht'; exact .tr ht') (by rw [hrr]; exact hlt')
    | re hg1 => exact shut (r := .nil) hg1 (fun w => (stepG_tries _ _ _).trans (by
        have h1 := (H.recv_step _ hg1)
        rename_i g1
        have e : ({ g1 with status := .running } : Goroutine) = g1 := by rw [← h1.1]
        rw [e]; exact h1.2 w)) hsk hdk
    | cl ht =>
      rcases tree_cases ht with hstop | ⟨_, hstep⟩
      · obtain ⟨f, hf⟩ := hstop.2 w ms.wg.live
        exact seven hf (by omega) hdk (fun mk' h => ltA mk' (by omega)) (fun f' _ => ltA _ (by simp))
      · obtain ⟨g', w', es, W', r', hlt', hst, hm, hs', hh, ht'⟩ := hstep w s0
        have hh2 := (hh rfl).1
        have hW := (hh rfl).2
        exact silent (r' := r') (by omega) hdk hst hm ⟨hh2, hW⟩ (by rw [hsk, hdk]; rw [hW] at ht'; exact .cl ht') (by rw [hrr]; exact hlt')
    | @d7 _ _ f h => exact seven h (by omega) hdk (fun mk' h => ltA mk' h) (fun f' hf => ltB rfl rfl hf)
    | @d6 _ _ f h =>
      rcases Goes.cases h with hstop | ⟨f', rfl, hstep⟩
      · obtain ⟨_, g', hst, f', hg'⟩ := hstop w id
        exact lib (st' := ⟨5, 1⟩) (mk' := (5, Rk.ofNat f')) hst (.refl _ _) (.d5 hg') rfl (moved 5 rfl (by omega) (by omega)) (by rw [hdk]; rfl) (by omega) (by intro e he; simp at he; subst he; exact .inl rfl)
          (by intro jx e he; exact .inl (by have := Array.mem_of_getElem? he; simp at this; subst this; rfl)) (ltA _ (by simp)) (by simp only; omega) (blkd rfl)
      · obtain ⟨g', w', es, hst, ⟨rfl, rfl⟩, hg'⟩ := hstep w id
        exact lib (st' := ⟨6, 0⟩) (mk' := (6, Rk.ofNat f')) hst (.refl _ _) (.d6 hg') rfl (moved 6 rfl (by omega) (by omega)) (by rw [hdk]; rfl) (by omega) (by simp) (by simp) (ltB rfl rfl rfl) (by simp only; omega) (blkd rfl)
    | @d5 _ _ f h =>
      rcases Goes.cases h with hstop | ⟨f', rfl, hstep⟩
      · obtain ⟨_, hall⟩ := hstop w id
        have bk2 : ∀ e ∈ #[rd (stA C.Wg), Go.ConcR.wr (stA C.Wg)], Bk C.Wg e := by intro e he; simp at he; rcases he with rfl | rfl <;> exact bk_cell _ _ rfl
        have df2 : ∀ jx e, (#[rd (stA C.Wg), Go.ConcR.wr (stA C.Wg)] : Array Event)[jx]? = some e → (MemAct.ofEvent e).touch? = none ∨ 0 < deafBehind (S k).deaf ((#[rd (stA C.Wg), Go.ConcR.wr (stA C.Wg)] : Array Event).extract 0 jx) := by
          rw [hdk]
          intro jx e he
          match jx, he with
          | 0, _ => exact .inr (by simp [deafBehind])
          | 1, _ => exact .inr (by simp [deafBehind, rd])
          | jx + 2, he => simp at he
        have hcu := cnt_upd (fun a => (S a).stage) 1 hk
        have hcu4 := cnt_upd (fun a => (S a).stage) 4 hk
        simp only [hsk] at hcu hcu4
        rw [isC_one (by omega : 5 ≤ 5), isC_zero (by omega : (1 : Nat) < 5)] at hcu
        rw [isC_one (by omega : 5 ≤ 5), isC_zero (by omega : (4 : Nat) < 5)] at hcu4
        have hcl := cnt_le (n := n) (st := fun a => (S a).stage)
        have hall1 : (∀ k', k' < n → (S k').stage = 1 ∨ 5 ≤ (S k').stage) → ∀ k', k' < n → upd (fun a => (S a).stage) k 1 k' = 1 ∨ 5 ≤ upd (fun a => (S a).stage) k 1 k' := fun h k' hk' => by
          by_cases e : k' = k
          · subst e; rw [upd_same]; exact .inl rfl
          · rw [upd_ne _ _ e]; exact h k' hk'
        have hw := ms.wg
        unfold WgM at hw
        cases reg with
        | false =>
          simp only [Bool.false_eq_true, if_false] at hw
          obtain ⟨v, hv⟩ : ∃ v, cnt4 n (fun a => (S a).stage) = v + 1 := ⟨cnt4 n (fun a => (S a).stage) - 1, by omega⟩
          have hw1 : WgAt C.ty C.Wg w (((v : Nat) + 1) * KK + ((0 : Nat) : Int)) 0 := by have := hw.2; rw [hv] at this; simpa using this
          obtain ⟨g', hst, _, hq⟩ := hall v 0 (by omega) (by omega) hw1
          obtain ⟨q, hq⟩ := hq (by omega)
          have hcv : cnt4 n (upd (fun a => (S a).stage) k 1) = v := by omega
          have hnew : WgAt C.ty C.Wg (w.setCell (stA C.Wg) (.int .u64 ((v : Int) * KK + ((0 : Nat) : Int)))) ((v : Int) * KK + ((0 : Nat) : Int)) 0 := hw1.setSt _
          refine lib (st' := ⟨1, 1⟩) (mk' := (1, Rk.ofNat q)) hst (aside_st _ _ _) (.q hq) rfl ?_ (by rw [hdk]; rfl) (by omega) bk2 df2 (ltA _ (by simp)) (by simp only; omega) (fun _ h01 => ?_)
          · unfold WgM
            simp only [Bool.false_eq_true, if_false]
            rw [hcv]
            exact ⟨hall1 hw.1, by simpa using hnew⟩
          · exact absurd (hnew.unique h01).2 (by decide)
        | true =>
          simp only [if_true] at hw
          rcases hw with ⟨h1, h2, h3⟩ | ⟨l, hl, h1, h2, h3⟩ | ⟨h1, h2⟩
          · obtain ⟨v, hv⟩ : ∃ v, cnt4 n (fun a => (S a).stage) = v + 1 := ⟨cnt4 n (fun a => (S a).stage) - 1, by omega⟩
            have hw1 : WgAt C.ty C.Wg w (((v : Nat) + 1) * KK + ((1 : Nat) : Int)) 0 := by rw [hv] at h3; simpa using h3
            obtain ⟨g', hst, hl, hq⟩ := hall v 1 (by omega) (by omega) hw1
            have hnew : WgAt C.ty C.Wg (w.setCell (stA C.Wg) (.int .u64 ((v : Int) * KK + ((1 : Nat) : Int)))) ((v : Int) * KK + ((1 : Nat) : Int)) 0 := hw1.setSt _
            by_cases hv0 : v = 0
            · subst hv0
              obtain ⟨f', hg'⟩ := hl ⟨rfl, rfl⟩
              refine lib (st' := ⟨4, 1⟩) (mk' := (4, Rk.ofNat f')) hst (aside_st _ _ _) (.d4 hg') rfl ?_ (by rw [hdk]; rfl) (by omega) bk2 df2 (ltA _ (by simp)) (by simp only; omega) (fun _ h01 => ?_)
              · unfold WgM
                simp only [if_true]
                refine .inr (.inl ⟨k, hk, .inr (.inr (upd_same _ _ _)), fun k' hk' hne => ?_, by rw [upd_same]; simpa using hnew⟩)
                rw [upd_ne _ _ hne]
                have := cnt_one_others (st := fun a => (S a).stage) hk hk' hne (by show 5 ≤ (S k).stage; omega) (by omega)
                have this' : (S k').stage < 5 := this
                rcases h2 k' hk' with h | h
                · exact h
                · omega
              · exact absurd (hnew.unique h01).2 (by decide)
            · obtain ⟨q, hq⟩ := hq (by omega)
              have hcv : cnt4 n (upd (fun a => (S a).stage) k 1) = v := by omega
              refine lib (st' := ⟨1, 1⟩) (mk' := (1, Rk.ofNat q)) hst (aside_st _ _ _) (.q hq) rfl ?_ (by rw [hdk]; rfl) (by omega) bk2 df2 (ltA _ (by simp)) (by simp only; omega) (fun _ h01 => ?_)
              · unfold WgM
                simp only [if_true]
                refine .inl ⟨by rw [hcv]; omega, hall1 h2, ?_⟩
                rw [hcv]; simpa using hnew
              · exact absurd (hnew.unique h01).2 (by decide)
          · exfalso
            by_cases e : k = l
            · subst e; omega
            · have : (S k).stage = 1 := h2 k hk e; omega
          · have : (S k).stage = 1 := h1 k hk; omega
      · obtain ⟨g', w', es, hst, ⟨rfl, rfl⟩, hg'⟩ := hstep w id
        exact lib (st' := ⟨5, 1⟩) (mk' := (5, Rk.ofNat f')) hst (.refl _ _) (.d5 hg') rfl (moved 5 rfl (by omega) (by omega)) (by rw [hdk]; rfl) (by omega) (by simp) (by simp) (ltB rfl rfl rfl) (by simp only; omega) (blkd rfl)
    | @d4 _ _ f h =>
      rcases Goes.cases h with hstop | ⟨f', rfl, hstep⟩
      · obtain ⟨_, hx⟩ := hstop w id
        obtain ⟨rfl, hoth, hat⟩ : reg = true ∧ (∀ k', k' < n → k' ≠ k → (S k').stage = 1) ∧ WgAt C.ty C.Wg w 1 0 := by
          have hw := ms.wg
          unfold WgM at hw
          cases reg with
          | false => simp only [Bool.false_eq_true, if_false] at hw; have := hw.1 k hk; omega
          | true =>
            simp only [if_true] at hw
            rcases hw with ⟨h1, h2, h3⟩ | ⟨l, hl, h1, h2, h3⟩ | ⟨h1, h2⟩
            · have := h2 k hk; omega
            · by_cases e : k = l
              · subst e; rw [if_neg (by omega)] at h3; exact ⟨rfl, h2, h3⟩
              · have := h2 k hk e; omega
            · have := h1 k hk; omega
        obtain ⟨g', hst, f', hg'⟩ := hx hat
        refine lib (st' := ⟨3, 1⟩) (mk' := (3, Rk.ofNat f')) hst (.refl _ _) (.d3 hg') rfl ?_ (by rw [hdk]; rfl) (by omega) (by intro e he; simp at he; subst he; exact bk_cell _ _ rfl) (by rw [hdk]; intro jx e he; match jx, he with | 0, _ => exact .inr (by simp [deafBehind]) | jx + 1, he => simp at he) (ltA _ (by simp)) (by simp only; omega) (blkd rfl)
        unfold WgM
        simp only [if_true]
        exact .inr (.inl ⟨k, hk, .inr (.inl (upd_same _ _ _)), fun k' hk' hne => by rw [upd_ne _ _ hne]; exact hoth k' hk' hne, by rw [upd_same, if_neg (by decide)]; exact hat⟩)
      · obtain ⟨g', w', es, hst, ⟨rfl, rfl⟩, hg'⟩ := hstep w id
        exact lib (st' := ⟨4, 1⟩) (mk' := (4, Rk.ofNat f')) hst (.refl _ _) (.d4 hg') rfl (same rfl 4 hsk.symm) (by rw [hdk]; rfl) (by omega) (by simp) (by simp) (ltB rfl rfl rfl) (by simp only; omega) (blkd rfl)
    | @d3 _ _ f h =>
      rcases Goes.cases h with hstop | ⟨f', rfl, hstep⟩
      · obtain ⟨_, hx⟩ := hstop w id
        obtain ⟨rfl, hoth, hat⟩ : reg = true ∧ (∀ k', k' < n → k' ≠ k → (S k').stage = 1) ∧ WgAt C.ty C.Wg w 1 0 := by
          have hw := ms.wg
          unfold WgM at hw
          cases reg with
          | false => simp only [Bool.false_eq_true, if_false] at hw; have := hw.1 k hk; omega
          | true =>
            simp only [if_true] at hw
            rcases hw with ⟨h1, h2, h3⟩ | ⟨l, hl, h1, h2, h3⟩ | ⟨h1, h2⟩
            · have := h2 k hk; omega
            · by_cases e : k = l
              · subst e; rw [if_neg (by omega)] at h3; exact ⟨rfl, h2, h3⟩
              · have := h2 k hk e; omega
            · have := h1 k hk; omega
        obtain ⟨g', hst, f', hg'⟩ := hx hat
        have hnew : WgAt C.ty C.Wg (w.setCell (stA C.Wg) (.int .u64 0)) 0 0 := hat.setSt 0
        refine lib (st' := ⟨2, 1⟩) (mk' := (2, Rk.ofNat f')) hst (aside_st _ _ _) (.d2 hg') rfl ?_ (by rw [hdk]; rfl) (by omega) (by intro e he; simp at he; subst he; exact bk_cell _ _ rfl) (by rw [hdk]; intro jx e he; match jx, he with | 0, _ => exact .inr (by simp [deafBehind]) | jx + 1, he => simp at he) (ltA _ (by simp)) (by simp only; omega) (fun _ h01 => absurd (hnew.unique h01).2 (by decide))
        unfold WgM
        simp only [if_true]
        exact .inr (.inl ⟨k, hk, .inl (upd_same _ _ _), fun k' hk' hne => by rw [upd_ne _ _ hne]; exact hoth k' hk' hne, by rw [upd_same, if_pos rfl]; exact hnew⟩)
      · obtain ⟨g', w', es, hst, ⟨rfl, rfl⟩, hg'⟩ := hstep w id
        exact lib (st' := ⟨3, 1⟩) (mk' := (3, Rk.ofNat f')) hst (.refl _ _) (.d3 hg') rfl (same rfl 3 hsk.symm) (by rw [hdk]; rfl) (by omega) (by simp) (by simp) (ltB rfl rfl rfl) (by simp only; omega) (blkd rfl)
    | @d2 _ _ f h =>
      rcases Goes.cases h with hstop | ⟨f', rfl, hstep⟩
      · obtain ⟨_, hmw, hx⟩ := hstop w id
        obtain ⟨rfl, hoth, hat⟩ : reg = true ∧ (∀ k', k' < n → k' ≠ k → (S k').stage = 1) ∧ WgAt C.ty C.Wg w 0 0 := by
          have hw := ms.wg
          unfold WgM at hw
          cases reg with
          | false => simp only [Bool.false_eq_true, if_false] at hw; have := hw.1 k hk; omega
          | true =>
            simp only [if_true] at hw
            rcases hw with ⟨h1, h2, h3⟩ | ⟨l, hl, h1, h2, h3⟩ | ⟨h1, h2⟩
            · have := h2 k hk; omega
            · by_cases e : k = l
              · subst e; rw [if_pos hsk] at h3; exact ⟨rfl, h2, h3⟩
              · have := h2 k hk e; omega
            · have := h1 k hk; omega
        obtain ⟨g', hst, q, hq⟩ := hx hat
        have hrun' : g'.status = .running := by
          cases q with
          | zero => exact absurd hq.2 (by decide)
          | succ q => exact hq.elim (fun x => absurd x.2 (by decide)) (fun x => x.1)
        have hnew : WgAt C.ty C.Wg (w.setCell (smA C.Wg) (.int .u32 1)) 0 1 := hat.setSm 1
        refine lib (st' := ⟨1, 1⟩) (mk' := (1, Rk.ofNat q)) hst (aside_sm _ _ _) (.q hq) rfl ?_ (by rw [hdk]; simp [deafBehind, semEvents]) (by omega) ?_ ?_ (ltA _ (by simp)) (by simp only; omega) (fun hb _ => ?_)
        · unfold WgM
          simp only [if_true]
          refine .inr (.inr ⟨fun k' hk' => ?_, hnew⟩)
          by_cases e : k' = k
          · subst e; rw [upd_same]
          · rw [upd_ne _ _ e]; exact hoth k' hk' e
        · intro e he
          simp [semEvents] at he
          rcases he with rfl | rfl | rfl | rfl
          · exact .inl rfl
          · exact bk_cell _ _ rfl
          · exact bk_cell _ _ rfl
          · exact .inr (.inl rfl)
        · rw [hdk]
          intro jx e he
          match jx, he with
          | 0, he => simp [semEvents] at he; subst he; exact .inl rfl
          | 1, _ => exact .inr (by simp [deafBehind, semEvents])
          | 2, _ => exact .inr (by simp [deafBehind, semEvents])
          | 3, he => simp [semEvents] at he; subst he; exact .inl rfl
          | jx + 4, he => simp [semEvents] at he
        · rw [(woke_of hg0).2 hmw hrun'] at hb; cases hb
      · obtain ⟨g', w', es, hst, ⟨rfl, rfl⟩, hg'⟩ := hstep w id
        exact lib (st' := ⟨2, 1⟩) (mk' := (2, Rk.ofNat f')) hst (.refl _ _) (.d2 hg') rfl (same rfl 2 hsk.symm) (by rw [hdk]; rfl) (by omega) (by simp) (by simp) (ltB rfl rfl rfl) (by simp only; omega) (blkd rfl)
    | @q _ _ f _ h =>
      cases f with
      | zero => rw [h.1] at hrun; cases hrun
      | succ q =>
        rcases h with ⟨hf, _⟩ | ⟨_, g', es, hmute, hstep, hq⟩
        · rw [hf] at hrun; cases hrun
        · have hbk : ∀ e ∈ es, Bk C.Wg e := fun e he => Go.ConcR.bk_of_mute (hmute e he)
          refine lib (st' := ⟨1, deafBehind dk es⟩) (mk' := (1, Rk.ofNat q)) (hstep w) (.refl _ _) (.q hq) rfl (same rfl 1 hsk.symm) (by rw [hdk]) (by omega) hbk (fun jx e he => .inl (touch_mute (hmute e (Array.mem_of_getElem? he)))) (ltB rfl rfl rfl) (by simp only; omega) (blkd rfl)
end
end Go.Cv
