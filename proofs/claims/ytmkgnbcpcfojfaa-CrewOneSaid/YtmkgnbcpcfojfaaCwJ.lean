/- The whole of a call that starts workers and joins them, but for the code around it. -/
import Derived.Test.YtmkgnbcpcfojfaaCwI
set_option linter.unusedVariables false
set_option linter.unusedSimpArgs false
namespace Go.Cv
open Go.Conc Go.ConcN
open Go.ConcR (KK wgBlock WgAt stA smA rd mk Bk DC0)

section
variable {C : Wk} {N n d : Nat} {MV : World}

def shutV (C : Wk) (MV : World) : World := { MV with heap := MV.heap.setIfInBounds C.T unkC }
theorem shut_get {C : Wk} {MV : World} {b : Nat} (h : b ≠ C.T) : (shutV C MV).heap[b]? = MV.heap[b]? := by
  simp only [shutV]; rw [Array.getElem?_setIfInBounds_ne (Ne.symm h)]
theorem sumTo_const (n : Nat) : sumTo n (fun _ => 1) = n := by
  induction n with
  | zero => rfl
  | succ n ih => simp only [sumTo, ih]

/-- 'close(tasks)'. -/
theorem jm_close (H : WkOk C N) (hon : C.on = true) (hv : View0 C MV) {g g' : Goroutine} (hrun : g.status = .running) (hmw : mayWake C.P g = true) (hrun' : g'.status = .running)
    (hst : ∀ w s r, w.heap[C.T]? = some (.chan 0 #[] false s r false) → stepG C.P true g w = .go g' (w.setChan C.T 0 #[] true s r false) #[⟨.obj C.T, false, true⟩, ⟨.obj C.T, true, true⟩])
    (h : JK4 C n 0 false QT (shutV C MV) fun g1 _ => g1 = g') : JM C n 0 (XW C n) (fun job => ∀ k, k < n → job k = none) g MV := by
  refine jk_step H (fun _ _ _ _ h => h) (fun g' _ e => e ▸ hrun) fun g1 gs w sl t rk S e h0 ms hB => ?_
  subst e
  have hlt : 0 < gs.size := (Array.getElem?_eq_some_iff.1 h0).1
  have hm1 := ms.m1
  obtain ⟨s, r, hT⟩ := open_of ms.sim hv.chT
  have hTB : C.T < w.heap.size := (Array.getElem?_eq_some_iff.1 hT).1
  have hrunT := runT_crowd_go (P := C.P) (sl := sl) (i := 0) h0 (show stepG C.P (0 == 0) g1 w = _ from hst w s r hT)
  generalize hw' : w.setChan C.T 0 #[] true s r false = w' at hrunT
  have hget : ∀ b, b ≠ C.T → w'.heap[b]? = w.heap[b]? := fun b hb => by rw [← hw']; exact setChan_get _ _ _ _ _ _ _ _ _ hb
  have hgT : w'.heap[C.T]? = some (.chan 0 #[] true s r false) := by rw [← hw']; simp only [World.setChan]; rw [Array.getElem?_setIfInBounds_self_of_lt hTB]
  have hsz : w'.heap.size = w.heap.size := by rw [← hw']; simp [World.setChan]
  have hrest : w'.tape = w.tape ∧ w'.os = w.os ∧ w'.output = w.output := by rw [← hw']; exact ⟨rfl, rfl, rfl⟩
  have hWT : C.Wg ≠ C.T := by
    obtain ⟨fr, hf⟩ := hv.wgb
    intro e; rw [e, hv.chT] at hf; cases hf
  have hTMV : C.T < MV.heap.size := lt_of_known hv.chT
  refine ⟨_, _, hrunT, ?_⟩
  have hD : ∀ k, Deaf (t ++ MemOp.ofEvents 0 g1.frame.fn g1.frame.place #[⟨.obj C.T, false, true⟩, ⟨.obj C.T, true, true⟩]) k = Deaf t k := fun k => by
    refine Deaf_still t k _ (ofEvents_ops fun e he => ?_)
    simp at he
    rcases he with rfl | rfl <;> exact ⟨by simp [MemAct.ofEvent], by simp [MemAct.ofEvent]⟩
  -- the workers
  have wkr : ∀ k, k < n → ∃ g2 rr, ((gs.map (woken C.P g1 g' w')).setIfInBounds 0 g')[C.m + k]? = some g2 ∧ Sit4 C 9 0 g2 w' rr := by
    intro k hk
    obtain ⟨x, hx, hs⟩ := ms.wk k hk
    have hj : (S k).job = none := hB k hk
    refine ⟨woken C.P g1 g' w' x, ?_⟩
    rw [Array.getElem?_setIfInBounds_ne (by omega), Array.getElem?_map, hx]
    by_cases hp : (S k).parked = false
    · refine ⟨(rk (C.m + k)).2, rfl, ?_⟩
      rw [woken_fin (.inl (tree_run H hs hp))]
      unfold SitOk at hs
      rw [hj, hp] at hs
      exact .tr hs.2
    · have hp' : (S k).parked = true := by simpa using hp
      unfold SitOk at hs
      rw [hj, hp'] at hs
      obtain ⟨_, y, hy, rfl⟩ := hs
      refine ⟨.nil, rfl, ?_⟩
      have : woken C.P g1 g' w' (parked y #[rcase C.T C.zT] (.recv true)) = { parked y #[rcase C.T C.zT] (.recv true) with status := .running } := by
        unfold woken
        rw [if_pos (by simp [hmw, hrun'])]
        exact again_recv_closed hgT
      rw [this]
      exact .re hy
  have rkS : ∃ rk' : Nat → Mk, (∀ i, i < C.m → rk' i = rk i) ∧ ∀ k, k < n → ∃ g2, ((gs.map (woken C.P g1 g' w')).setIfInBounds 0 g')[C.m + k]? = some g2 ∧ Sit4 C 9 0 g2 w' (rk' (C.m + k)).2 ∧ (rk' (C.m + k)).1 = 9 := by
    have : ∀ k, ∃ rr, k < n → ∃ g2, ((gs.map (woken C.P g1 g' w')).setIfInBounds 0 g')[C.m + k]? = some g2 ∧ Sit4 C 9 0 g2 w' rr := fun k => by
      by_cases hk : k < n
      · obtain ⟨g2, rr, h⟩ := wkr k hk
        exact ⟨rr, fun _ => ⟨g2, h⟩⟩
      · exact ⟨.nil, fun h => absurd h hk⟩
    refine ⟨fun i => if C.m ≤ i ∧ i < C.m + n then (9, (this (i - C.m)).choose) else rk i, fun i hi => by simp only; rw [if_neg (by omega)], fun k hk => ?_⟩
    simp only
    rw [if_pos ⟨by omega, by omega⟩, show C.m + k - C.m = k by omega]
    obtain ⟨g2, h1, h2⟩ := (this k).choose_spec hk
    exact ⟨g2, h1, h2, rfl⟩
  obtain ⟨rk', hrk1, hrk2⟩ := rkS
  have hA : Apart (ShW C.ty MV) Non (RdF C n) := MS.apart fun _ => hv
  refine h g' _ w' sl _ rk' (fun _ => ⟨9, 0⟩) rfl (by simp [hlt]) ?_ trivial
  have hsim : Sim C.ty false (shutV C MV) w' := by
    refine ⟨?_, fun b o ho => ?_, by rw [hrest.1]; exact ms.sim.tape, by rw [hrest.2.1]; exact ms.sim.os, by rw [hrest.2.2]; exact ms.sim.output⟩
    · have := ms.sim.size
      rw [hsz]; simpa [shutV] using this
    · by_cases e : b = C.T
      · subst e
        simp only [shutV] at ho
        rw [Array.getElem?_setIfInBounds_self_of_lt hTMV] at ho
        cases ho; trivial
      · rw [shut_get e] at ho
        rw [hget b e]; exact ms.sim.like b o ho
  have hwg : WgV C (shutV C MV) := by
    obtain ⟨fr, hf⟩ := hv.wgb
    exact ⟨fr, by rw [shut_get hWT]; exact hf⟩
  refine ⟨by simp [ms.size], hon, hm1, fun i x hi him hx => ?_, fun k hk => hrk2 k hk, hsim, ⟨fun b o ho hu => ?_, by simpa [shutV] using hv.le, hv.tape, hv.os, hv.output, ?_, ⟨s, r, hgT⟩, hwg⟩, ?_, ?_, fun k hk => by rw [hD]; exact ms.dw k hk, by rw [hD]; exact ms.d0, fun k hk hs => absurd hs (by simp)⟩
  · rw [Array.getElem?_setIfInBounds_ne (by omega), Array.getElem?_map] at hx
    obtain ⟨y, hy, rfl⟩ := Option.map_eq_some_iff.1 hx
    obtain ⟨q, hq, hr⟩ := ms.old i y hi him hy
    exact ⟨q, by rw [woken_quitsD hq, hD]; exact hq, by rw [hrk1 i him]; exact hr⟩
  · have h1 := hv.blk b o ho hu
    by_cases e : b = C.T
    · subst e
      exact absurd (Option.some.inj (ho.symm.trans hv.w0T)) hu
    · rw [shut_get e]; exact h1
  · simp only [shutV]; rw [Array.getElem?_setIfInBounds_self_of_lt hTMV]
  · unfold WgM
    simp only [Bool.false_eq_true, if_false]
    have hc : cnt4 n (fun _ => 9) = n := sumTo_const n
    rw [hc]
    refine ⟨fun _ _ => .inr (by omega), ?_⟩
    have := ms.x
    unfold XW at this
    unfold WgAt
    rw [hget _ hWT]; exact this
  · rw [hsz]
    have hsh : ∀ l, ShW C.ty (shutV C MV) l ↔ ShW C.ty MV l := by
      intro l
      constructor
      · rintro ⟨a, rfl, c, fr, hb⟩
        by_cases e : a.block = C.T
        · exfalso
          rw [e] at hb
          simp only [shutV] at hb
          rw [Array.getElem?_setIfInBounds_self_of_lt hTMV] at hb
          cases hb
        · rw [shut_get e] at hb; exact ⟨a, rfl, c, fr, hb⟩
      · rintro ⟨a, rfl, c, fr, hb⟩
        by_cases e : a.block = C.T
        · exfalso; rw [e, hv.chT] at hb; cases hb
        · exact ⟨a, rfl, c, fr, by rw [shut_get e]; exact hb⟩
    have h2 : TR (ShW C.ty MV) Non (RdF C n) C.m (C.m + n - 1) w.heap.size (t ++ MemOp.ofEvents 0 g1.frame.fn g1.frame.place #[⟨.obj C.T, false, true⟩, ⟨.obj C.T, true, true⟩]) := by
      refine ms.tr.app0 hA (ofEvents_ops fun e he => ⟨rfl, fun x hx => ?_⟩) (ofEvents_ops fun e he => ?_) (ofEvents_ops fun e he => ?_)
      · simp at he
        rcases he with rfl | rfl
        · simp only [MemAct.ofEvent, MemAct.touch?, Option.some.injEq] at hx
          subst hx
          refine .inr ⟨?_, fun _ _ _ h => h.elim, fun hw => by simp at hw⟩
          rintro ⟨a, ha, _⟩; cases ha
        · simp [MemAct.ofEvent, MemAct.touch?] at hx
      · simp at he
        rcases he with rfl | rfl <;> exact hTB
      · simp at he
        rcases he with rfl | rfl <;> intro a <;> simp [MemAct.ofEvent]
    exact h2.grow (Nat.le_refl _) (fun l h => (hsh l).2 h) (fun l h => .inl ((hsh l).1 h)) (fun _ _ _ _ => Iff.rfl) (fun _ _ _ _ => Iff.rfl)
end
end Go.Cv
