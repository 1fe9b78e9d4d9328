/- Goroutine 0 closes the tasks' channel and waits for the workers. -/
import Derived.Test.YtmkgnbcpcfojfaaCwH
set_option linter.unusedVariables false
set_option linter.unusedSimpArgs false
namespace Go.Cv
open Go.Conc Go.ConcN
open Go.ConcR (KK wgBlock WgAt stA smA rd mk Bk DC0)

/-- From every state of the machine, the tasks' channel closed, in which goroutine 0 stands as K says, the run ends well. -/
def JK4 (C : Wk) (n d : Nat) (reg : Bool) (Q : (Nat → Nat) → Prop) (MV : World) (K : Goroutine → World → Prop) : Prop :=
  ∀ g gs w sl t rk S, K g w → gs[0]? = some g → MS4 C n d reg S MV gs w t rk → Q (fun k => (S k).stage) → Ev C.P C.Post (crowd gs w sl) t
/-- What holds of stages and of lower ones. -/
def Down (n : Nat) (Q : (Nat → Nat) → Prop) : Prop := ∀ s s', (∀ k, k < n → s' k ≤ s k) → Q s → Q s'
def QT : (Nat → Nat) → Prop := fun _ => True
def QA (n : Nat) : (Nat → Nat) → Prop := fun s => ∀ k, k < n → s k ≤ 1
def QC (n N : Nat) : (Nat → Nat) → Prop := fun s => cnt4 n s ≤ N
theorem down_T (n : Nat) : Down n QT := fun _ _ _ _ => trivial
theorem down_A (n : Nat) : Down n (QA n) := fun s s' h hq k hk => Nat.le_trans (h k hk) (hq k hk)
theorem sumTo_mono {f g : Nat → Nat} : ∀ {n : Nat}, (∀ k, k < n → f k ≤ g k) → sumTo n f ≤ sumTo n g
  | 0, _ => Nat.le_refl _
  | n + 1, h => by
    have := sumTo_mono (n := n) fun k hk => h k (by omega)
    have := h n (by omega)
    simp only [sumTo]; omega
theorem down_C (n N : Nat) : Down n (QC n N) := fun s s' h hq => by
  refine Nat.le_trans (sumTo_mono fun k hk => ?_) hq
  have := h k hk
  simp only [isC]
  split <;> split <;> omega

section
variable {C : Wk} {N n d : Nat} {reg : Bool} {S : Nat → St} {MV : World} {gs : Array Goroutine} {w : World} {t : Trace} {rk : Nat → Mk} {Q : (Nat → Nat) → Prop}

theorem jk4_step (H : WkOk C N) (H4 : WkOk4 C) (hnn : n < 2147483648) (hQ : Down n Q) {K : Goroutine → World → Prop} (hK : ∀ g w w', RL C.ty C.Wg w w' → K g w → K g w') (hrun : ∀ g w, K g w → g.status = .running)
    (h : ∀ g gs w sl t rk S, K g w → gs[0]? = some g → MS4 C n d reg S MV gs w t rk → Q (fun k => (S k).stage) → ∃ m' ops, runT C.P (crowd gs w sl) 0 = (.next m', ops) ∧ Ev C.P C.Post m' (t ++ ops)) : JK4 C n d reg Q MV K := by
  intro g gs w sl t rk S hg h0 ms hB
  induction rk using (Dec.wf (C.m + n)).induction generalizing gs w sl t S with
  | _ rk ih =>
    have hr := hrun g w hg
    obtain ⟨i, gi, e, sl', hi, hgi, hst⟩ := crowd_pick (P := C.P) (w := w) (sl := sl) (ms.awake H h0 (awake_of (.inl hr))) ⟨0, g, h0, hr⟩
    have ms' := ms.at e
    have hg' : K g (w.at e) := hK g w _ (rl_alike ⟨rfl, rfl, rfl, rfl⟩) hg
    rcases Nat.eq_zero_or_pos i with rfl | hpos
    · obtain ⟨m', ops, h1, h2⟩ := h g gs (w.at e) sl' t rk S hg' h0 ms' hB
      exact .next (hst.trans h1) h2
    · obtain ⟨gs', ops, rk', S', w', g0', h1, h2, h3, h4, h5, h6, _, h8⟩ := ms'.others H H4 hnn (sl := sl') hpos hi hgi h0 (.inl hr) (fun hb => by rw [hr] at hb; cases hb)
      have e0 : g0' = g := h6.elim id fun x => by rw [hr] at x; cases x.1
      subst e0
      exact .next (hst.trans h1) (ih rk' (by rw [ms.size] at h3; exact h3) gs' w' sl' _ S' (hK _ _ _ h5 hg') h4 h2 (hQ _ _ h8 hB))

theorem jk4_mono {K K' : Goroutine → World → Prop} (h : ∀ g w, K g w → K' g w) (hj : JK4 C n d reg Q MV K') : JK4 C n d reg Q MV K := fun g gs w sl t rk S hg => hj g gs w sl t rk S (h g w hg)
theorem jk4_weak {Q' : (Nat → Nat) → Prop} {K : Goroutine → World → Prop} (h : ∀ s, Q' s → Q s) (hj : JK4 C n d reg Q MV K) : JK4 C n d reg Q' MV K := fun g gs w sl t rk S hg h0 ms hq => hj g gs w sl t rk S hg h0 ms (h _ hq)
theorem sta_rl {ty Wg : Nat} {Stop : Goroutine → World → Prop} (g : Goroutine) (w w' : World) (h : RL ty Wg w w') (hs : Sta ty Wg Stop g w) : Sta ty Wg Stop g w' := fun w₁ h₁ => hs w₁ (rl_trans _ _ _ h h₁)

theorem jk4_gos (H : WkOk C N) (H4 : WkOk4 C) (hnn : n < 2147483648) (hQ : Down n Q) {Stop : Goroutine → World → Prop} (hS : JK4 C n d reg Q MV (Sta C.ty C.Wg Stop)) : ∀ f, JK4 C n d reg Q MV (fun g w => Gos C.P true C.ty C.Wg Stop f g w)
  | 0 => fun g gs w sl t rk S hg => hS g gs w sl t rk S hg
  | f + 1 => by
    intro g gs w sl t rk S hg h0 ms hB
    rcases hg with hg | hg
    · exact hS g gs w sl t rk S hg h0 ms hB
    · refine jk4_step (K := fun g w => g.status = .running ∧ ∀ w₁, RL C.ty C.Wg w w₁ → (stepG C.P true g w₁).goes fun g' w' es => DC0 w₁ w' es ∧ Gos C.P true C.ty C.Wg Stop f g' w') H H4 hnn hQ
        (fun g w w' ha h => ⟨h.1, fun w₁ h₁ => h.2 w₁ (rl_trans _ _ _ ha h₁)⟩) (fun g w h => h.1) (fun g gs w sl t rk S hg h0 ms hB => ?_) g gs w sl t rk S hg h0 ms hB
      obtain ⟨g', w', es, hst, ⟨rfl, rfl⟩, hg'⟩ := goes_elim (hg.2 w id)
      obtain ⟨ops, h1, h2, _⟩ := ms.main_lib H (sl := sl) h0 hst (.refl _ _) ms.wg (by simp)
      have hlt : 0 < gs.size := (Array.getElem?_eq_some_iff.1 h0).1
      exact ⟨_, ops, h1, jk4_gos H H4 hnn hQ hS f g' _ _ _ _ _ _ hg' (by simp [hlt]) h2 hB⟩

theorem jk4_mk (H : WkOk C N) (H4 : WkOk4 C) (hnn : n < 2147483648) (hQ : Down n Q) {m : Mark} {Next : Goroutine → World → Prop} (hm : LibEv C.Wg (mk m)) (hS : JK4 C n (deafBehind d #[mk m]) reg Q MV (Sta C.ty C.Wg Next)) : JK4 C n d reg Q MV (Sta C.ty C.Wg (AtMk C.P true C.ty C.Wg m Next)) := by
  refine jk4_step H H4 hnn hQ sta_rl (fun g w h => (h w id).1) fun g gs w sl t rk S hg h0 ms hB => ?_
  obtain ⟨hr, g', hst, f, hg⟩ := hg w id
  obtain ⟨ops, h1, h2, _⟩ := ms.main_lib H (sl := sl) h0 hst (.refl _ _) ms.wg (fun e he => by simp at he; exact he ▸ hm)
  have hlt : 0 < gs.size := (Array.getElem?_eq_some_iff.1 h0).1
  exact ⟨_, ops, h1, jk4_gos H H4 hnn hQ hS f g' _ _ _ _ _ _ hg (by simp [hlt]) h2 hB⟩

/-- A silent step of goroutine 0's is no matter. -/
theorem jm4_closed (H : WkOk C N) (H4 : WkOk4 C) (hnn : n < 2147483648) (hQ : Down n Q) : Closed C.P C.ty false ⟨true, roC C n, fun g MV => JK4 C n d reg Q MV fun g' _ => g' = g⟩ := by
  intro g MV hr h
  refine jk4_step H H4 hnn hQ (fun _ _ _ _ h => h) (fun g' _ e => e ▸ hr) fun g' gs w sl t rk S e h0 ms hB => ?_
  subst e
  obtain ⟨g', w', es, MV', hst, hm, hs', _, hJ⟩ := h w ms.sim
  obtain ⟨ops, h1, h2⟩ := ms.main_go H (sl := sl) h0 hst hm hs'
  have hlt : 0 < gs.size := (Array.getElem?_eq_some_iff.1 h0).1
  exact ⟨_, ops, h1, hJ g' _ _ _ _ _ _ rfl (by simp [hlt]) h2 hB⟩

/-! ### The join -/
/-- The context once all workers are earlier goroutines. -/
def after (C : Wk) (n : Nat) : Wk := { C with m := C.m + n, on := false }
/-- AT THE acquire: all workers only leave. -/
theorem jk4_acq (H : WkOk C N) (H4 : WkOk4 C) (hnn : n < 2147483648) {Next : Goroutine → World → Prop} (hS : JK (after C n) 0 0 (fun _ => True) (fun _ => True) MV (Sta C.ty C.Wg Next)) (hv : WgV C MV) :
    JK4 C n 0 reg (QA n) MV (Sta C.ty C.Wg (AtMk C.P true C.ty C.Wg (.acquire (stA C.Wg)) Next)) := by
  refine jk4_step H H4 hnn (down_A n) sta_rl (fun g w h => (h w id).1) fun g gs w sl t rk S hg h0 ms hB => ?_
  obtain ⟨hr, g', hst, f, hg⟩ := hg w id
  obtain ⟨ops, h1, h2, rfl⟩ := ms.main_lib H (sl := sl) h0 hst (.refl _ _) ms.wg (fun e he => by simp at he; exact he ▸ .inr (.inr (.inr rfl)))
  have hlt : 0 < gs.size := (Array.getElem?_eq_some_iff.1 h0).1
  refine ⟨_, _, h1, ?_⟩
  have hm1 := ms.m1
  have hA : ∀ N', WkOk { after C n with RecvG := fun _ => False, SendG := fun _ _ => False } N' := fun N' => ⟨fun g h => h.elim, fun i g h => h.elim, fun i g h => h.elim, fun i g h => h.elim, H.ne⟩
  -- the machine as one without workers
  have e1 : MemOp.ofEvents 0 g.frame.fn g.frame.place #[mk (.acquire (stA C.Wg))] = #[{ g := 0, fn := g.frame.fn, pos := g.frame.place, act := .mark (.acquire (stA C.Wg)) }] := by rw [ofEvents_eq]; simp [mk, MemAct.ofEvent]
  have hWgB : C.Wg < w.heap.size := by
    obtain ⟨x, y, e⟩ := ms.vw.wgb.live ms.sim
    exact (Array.getElem?_eq_some_iff.1 e).1
  have all1 : ∀ k, k < n → (S k).stage = 1 := fun k hk => by
    obtain ⟨x, _, hs, _⟩ := ms.wk k hk
    have := sit4_stage hs
    have : (S k).stage ≤ 1 := hB k hk
    omega
  have htr := ms.tr.join (a := stA C.Wg) (fun k hmk hkj => by
      obtain ⟨r, hr⟩ := ms.rel (k - C.m) (by omega) (by rw [all1 _ (by omega)]; omega)
      rw [show C.m + (k - C.m) = k by omega] at hr
      exact ⟨r, hr⟩) hm1 (y := { g := 0, fn := g.frame.fn, pos := g.frame.place, act := .mark (.acquire (stA C.Wg)) }) rfl rfl ms.d0 hWgB
  have hd : ∀ k, Deaf (t ++ MemOp.ofEvents 0 g.frame.fn g.frame.place #[mk (.acquire (stA C.Wg))]) k = Deaf t k := fun k => Deaf_still _ _ _ fun op hop => by
    rw [e1] at hop
    have : op = { g := 0, fn := g.frame.fn, pos := g.frame.place, act := .mark (.acquire (stA C.Wg)) } := by simpa using hop
    subst this; simp
  let rk' : Nat → Mk := fun i => if h : C.m ≤ i ∧ i < C.m + n then (0, (rk i).2) else rk i
  have hms : MS (after C n) 0 0 (fun _ => True) (fun _ => ⟨none, false⟩) MV (gs.setIfInBounds 0 g') w (t ++ MemOp.ofEvents 0 g.frame.fn g.frame.place #[mk (.acquire (stA C.Wg))]) rk' := by
    refine ⟨by simp [after, ms.size], by simp only [after]; omega, fun i x hi him hx => ?_, fun k hk => absurd hk (by omega), ms.sim, trivial, .inr fun _ => trivial, fun h => absurd h (by omega), fun h => by simp [after] at h, ?_, fun k hk => absurd hk (by omega), by rw [hd]; exact ms.d0⟩
    · rw [Array.getElem?_setIfInBounds_ne (by omega)] at hx
      rw [hd]
      rcases Nat.lt_or_ge i C.m with hlt' | hge
      · obtain ⟨q, hq, hr⟩ := ms.old i x hi hlt' hx
        refine ⟨q, hq, ?_⟩
        simp only [rk']
        rw [dif_neg (by omega)]; exact hr
      · simp only [after] at him
        obtain ⟨x', hx', hs, hst⟩ := ms.wk (i - C.m) (by omega)
        have ei : C.m + (i - C.m) = i := by omega
        rw [ei] at hx' hs hst
        rw [hx] at hx'
        cases hx'
        have h1 := all1 (i - C.m) (by omega)
        have hdw := ms.dw (i - C.m) (by omega)
        rw [ei] at hdw
        rw [h1] at hs
        rw [hdw]
        generalize hdd : (S (i - C.m)).deaf = dd at hs
        generalize hrr : (rk i).2 = rr at hs
        cases hs with
        | @q _ _ f _ hq =>
          refine ⟨f, hq, ?_⟩
          simp only [rk']
          rw [dif_pos ⟨hge, him⟩, hrr]
    · rw [e1]
      have : TR (ShW C.ty MV) Non (RdF (after C n) 0) (C.m + n - 1 + 1) (C.m + n - 1) w.heap.size (t ++ #[{ g := 0, fn := g.frame.fn, pos := g.frame.place, act := .mark (.acquire (stA C.Wg)) }]) :=
        htr.grow (Nat.le_refl _) (fun _ h => h) (fun _ h => .inl h) (fun _ _ _ _ => Iff.rfl) (fun k _ _ l => ⟨fun h => by simp [RdF, after] at h, fun h => h.elim⟩)
      rw [show C.m + n - 1 + 1 = C.m + n by omega] at this
      exact this
  have hv' : WgV (after C n) MV := hv
  -- its idle way on
  have key := @jk_gos { after C n with RecvG := fun _ => False, SendG := fun _ _ => False } 0 0 0 (fun _ => True) MV (fun _ => True) (hA 0) hv' Next (by
    intro g1 gs1 w1 sl1 t1 rk1 S1 hg1 h01 ms1 hB1
    exact hS g1 gs1 w1 sl1 t1 rk1 S1 hg1 h01 ⟨ms1.size, ms1.m1, ms1.old, fun k hk => absurd hk (by omega), ms1.sim, trivial, .inr fun _ => trivial, fun h => absurd h (by omega), fun h => by simp [after] at h, ms1.tr, fun k hk => absurd hk (by omega), ms1.d0⟩ trivial) f
  exact key g' _ _ sl _ rk' (fun _ => ⟨none, false⟩) hg (by simp [hlt]) ⟨hms.size, hms.m1, hms.old, fun k hk => absurd hk (by omega), hms.sim, trivial, .inr fun _ => trivial, fun h => absurd h (by omega), fun h => by simp [after] at h, hms.tr, fun k hk => absurd hk (by omega), hms.d0⟩ trivial

/-! ### Wait -/
section
variable (H : WkOk C N) (H4 : WkOk4 C) (hnn : n < 2147483648) {Anch Ret : Goroutine → World → Prop}
include H H4 hnn

theorem jk4_w4 (hKe : JK4 C n 1 false (QA n) MV (Sta C.ty C.Wg (AtKe C.P C.ty C.Wg Ret))) : JK4 C n 1 false (QA n) MV (Sta C.ty C.Wg (AtW4 C.P C.ty C.Wg Ret)) := by
  refine jk4_step H H4 hnn (down_A n) sta_rl (fun g w h => (h w id).1) fun g gs w sl t rk S hg h0 ms hB => ?_
  have hat : WgAt C.ty C.Wg w 0 0 := by
    have hw := ms.wg
    unfold WgM at hw
    simp only [Bool.false_eq_true, if_false] at hw
    have hc : cnt4 n (fun k => (S k).stage) = 0 := by
      refine Nat.le_zero.1 (Nat.le_trans (sumTo_mono (g := fun _ => 0) fun k hk => ?_) (by have := sumTo_le (f := fun _ => 0) (c := 0) (j := n) fun _ _ => Nat.le_refl _; omega))
      have : (S k).stage ≤ 1 := hB k hk
      simp only [isC]; split <;> omega
    rw [hc] at hw; simpa using hw.2
  obtain ⟨g', hst, f, hg'⟩ := (hg w id).2 hat
  obtain ⟨ops, h1, h2, _⟩ := ms.main_lib H (sl := sl) h0 hst (.refl _ _) ms.wg (fun e he => by simp at he; exact he ▸ lib_cell _ _ rfl)
  have hlt : 0 < gs.size := (Array.getElem?_eq_some_iff.1 h0).1
  exact ⟨_, ops, h1, jk4_gos H H4 hnn (down_A n) hKe f g' _ _ _ _ _ _ hg' (by simp [hlt]) h2 hB⟩

theorem jk4_w3 (hW4 : JK4 C n 1 false (QA n) MV (Sta C.ty C.Wg (AtW4 C.P C.ty C.Wg Ret))) : JK4 C n 1 true QT MV (Sta C.ty C.Wg (AtW3 C.P C.ty C.Wg Ret)) := by
  -- running, or blocked
  have key : ∀ (rk : Nat → Mk) (gr : Goroutine) (gs : Array Goroutine) (w : World) (sl : Option (Nat × Nat)) (t : Trace) (S : Nat → St), Sta C.ty C.Wg (AtW3 C.P C.ty C.Wg Ret) gr w → MS4 C n 1 true S MV gs w t rk →
      ((gs[0]? = some { gr with status := .blocked } ∧ ¬ WgAt C.ty C.Wg w 0 1) ∨ gs[0]? = some gr) → Ev C.P C.Post (crowd gs w sl) t := by
    intro rk
    induction rk using (Dec.wf (C.m + n)).induction with
    | _ rk ih =>
    -- blocked
    have blocked : ∀ (gr : Goroutine) (gs : Array Goroutine) (w : World) (sl : Option (Nat × Nat)) (t : Trace) (S : Nat → St), Sta C.ty C.Wg (AtW3 C.P C.ty C.Wg Ret) gr w → MS4 C n 1 true S MV gs w t rk →
        gs[0]? = some { gr with status := .blocked } → ¬ WgAt C.ty C.Wg w 0 1 → Ev C.P C.Post (crowd gs w sl) t := by
      intro gr gs w sl t S hW ms h0 hno
      obtain ⟨hrun, hoff, _⟩ := hW w id
      have hsome : ∃ k, k < n ∧ (S k).stage ≠ 1 := by
        have hw := ms.wg
        unfold WgM at hw
        simp only [if_true] at hw
        rcases hw with ⟨h1, h2, h3⟩ | ⟨l, hl, h1, h2, h3⟩ | ⟨h1, h2⟩
        · obtain ⟨k, hk, hf⟩ := sumTo_pos h1
          refine ⟨k, hk, fun e => ?_⟩
          have hf' : 0 < isC (S k).stage := hf
          rw [e] at hf'; simp [isC] at hf'
        · exact ⟨l, hl, by omega⟩
        · exact absurd h2 hno
      obtain ⟨k, hk, hne⟩ := hsome
      obtain ⟨gk, hgk, hsk, _⟩ := ms.wk k hk
      obtain ⟨i, gi, e, sl', hi, hgi, hst⟩ := crowd_pick (P := C.P) (w := w) (sl := sl) (ms.awake H h0 (awake_of (.inr (.inl rfl)))) ⟨C.m + k, gk, hgk, sit4_runs H hsk hne⟩
      have ms' := ms.at e
      rcases Nat.eq_zero_or_pos i with rfl | hpos
      · rw [h0] at hi; cases hi; cases hgi
      obtain ⟨gs', ops, rk', S', w', g0', h1, h2, h3, h4, h5, h6, h7, h8⟩ := ms'.others H H4 hnn (sl := sl') hpos hi hgi h0 (.inr ⟨rfl, hoff⟩) (fun _ => hno)
      refine .next (hst.trans h1) (ih rk' (by rw [ms.size] at h3; exact h3) gr gs' w' sl' _ S' (sta_rl _ _ _ h5 (sta_rl _ _ _ (rl_alike ⟨rfl, rfl, rfl, rfl⟩) hW)) h2 ?_)
      rcases h6 with rfl | ⟨_, rfl⟩
      · exact .inl ⟨h4, h7 rfl⟩
      · refine .inr ?_
        rw [h4]
        have e2 : ({ ({ gr with status := .blocked } : Goroutine) with status := .running } : Goroutine) = gr := by rw [← hrun]
        rw [e2]
    intro gr gs w sl t S hW ms hcase
    rcases hcase with ⟨h0, hno⟩ | h0
    · exact blocked gr gs w sl t S hW ms h0 hno
    · obtain ⟨hrun, _⟩ := hW w id
      obtain ⟨i, gi, e, sl', hi, hgi, hst⟩ := crowd_pick (P := C.P) (w := w) (sl := sl) (ms.awake H h0 (awake_of (.inl hrun))) ⟨0, gr, h0, hrun⟩
      have ms' := ms.at e
      have hW' : Sta C.ty C.Wg (AtW3 C.P C.ty C.Wg Ret) gr (w.at e) := sta_rl _ _ _ (rl_alike ⟨rfl, rfl, rfl, rfl⟩) hW
      have hlt : 0 < gs.size := (Array.getElem?_eq_some_iff.1 h0).1
      rcases Nat.eq_zero_or_pos i with rfl | hpos
      · rw [h0] at hi; cases hi
        obtain ⟨_, hoff, hwait, htake⟩ := hW' (w.at e) id
        have blk : (∃ st, WgAt C.ty C.Wg (w.at e) st 0) → Ev C.P C.Post (crowd gs w sl) t := by
          intro hst0
          obtain ⟨ops, h1, h2, h3⟩ := ms'.main_lib H (sl := sl') h0 (hwait hst0) (.refl _ _) ms'.wg (by simp)
          have e0 : ops = #[] := by rw [h3]; simp [ofEvents_eq]
          subst e0
          refine .next (hst.trans h1) ?_
          have := blocked gr _ (w.at e) sl' (t ++ #[]) S hW' h2 (by simp [hlt]) (fun h01 => by
            obtain ⟨st, hs0⟩ := hst0
            exact absurd (hs0.unique h01).2 (by decide))
          exact this
        have hw := ms'.wg
        unfold WgM at hw
        simp only [if_true] at hw
        rcases hw with ⟨h1, h2, h3⟩ | ⟨l, hl, h1, h2, h3⟩ | ⟨h1, h2⟩
        · exact blk ⟨_, h3⟩
        · exact blk ⟨_, h3⟩
        · obtain ⟨g', hst2, f, hg'⟩ := htake h2
          have hnew : WgAt C.ty C.Wg ((w.at e).setCell (smA C.Wg) (.int .u32 0)) 0 0 := h2.setSm 0
          have hc : cnt4 n (fun k => (S k).stage) = 0 := by
            refine Nat.le_zero.1 (Nat.le_trans (sumTo_mono (g := fun _ => 0) fun k hk => ?_) (by have := sumTo_le (f := fun _ => 0) (c := 0) (j := n) fun _ _ => Nat.le_refl _; omega))
            have : (S k).stage = 1 := h1 k hk
            simp only [isC]; split <;> omega
          obtain ⟨ops, k1, k2, _⟩ := ms'.main_lib (reg' := false) H (sl := sl') h0 hst2 (aside_sm _ _ _) (by
            unfold WgM
            simp only [Bool.false_eq_true, if_false]
            rw [hc]
            exact ⟨fun k hk => .inl (h1 k hk), by simpa using hnew⟩) (fun e he => by
            simp [semEvents] at he
            rcases he with rfl | rfl | rfl | rfl
            · exact .inl (.inl rfl)
            · exact lib_cell _ _ rfl
            · exact lib_cell _ _ rfl
            · exact .inl (.inr (.inl rfl)))
          have hd : deafBehind 1 (semEvents (smA C.Wg)) = 1 := by simp [deafBehind, semEvents]
          rw [hd] at k2
          refine .next (hst.trans k1) (jk4_gos H H4 hnn (down_A n) hW4 f g' _ _ _ _ _ _ hg' (by simp [hlt]) k2 fun k hk => ?_)
          have : (S k).stage = 1 := h1 k hk
          show (S k).stage ≤ 1
          omega
      · obtain ⟨gs', ops, rk', S', w', g0', h1, h2, h3, h4, h5, h6, _, h8⟩ := ms'.others H H4 hnn (sl := sl') hpos hi hgi h0 (.inl hrun) (fun hb => by rw [hrun] at hb; cases hb)
        have e0 : g0' = gr := h6.elim id fun x => by rw [hrun] at x; cases x.1
        subst e0
        exact .next (hst.trans h1) (ih rk' (by rw [ms.size] at h3; exact h3) _ gs' w' sl' _ S' (sta_rl _ _ _ h5 hW') h2 (.inr h4))
  exact fun g gs w sl t rk S hg h0 ms _ => key rk g gs w sl t S hg ms (.inr h0)

theorem jk4_anch (hA1 : ∀ g w, Sta C.ty C.Wg Anch g w → ∃ f, Gos C.P true C.ty C.Wg (AtW1 C.P C.ty C.Wg Anch Ret) f g w)
    (hKe : JK4 C n 1 false (QA n) MV (Sta C.ty C.Wg (AtKe C.P C.ty C.Wg Ret))) : ∀ M, JK4 C n 1 false (QC n M) MV (Sta C.ty C.Wg Anch) := by
  have hW4 := jk4_w4 H H4 hnn hKe
  have hW3 := jk4_w3 H H4 hnn hW4
  have hWr := jk4_mk (m := .write (smA C.Wg)) (d := 1) H H4 hnn (down_T n) (.inr (.inr (.inl rfl))) hW3
  intro M
  induction M using Nat.strongRecOn with
  | ind M ih =>
  have hW2 : ∀ vs, 0 < vs → vs ≤ M → JK4 C n 1 false (QC n vs) MV (Sta C.ty C.Wg (AtW2 C.P C.ty C.Wg Anch Ret vs)) := by
    intro vs hvs0 hvs
    refine jk4_step H H4 hnn (down_C n vs) sta_rl (fun g w h => (h w id).1) fun g gs w sl t rk S hg h0 ms hB => ?_
    have hlt : 0 < gs.size := (Array.getElem?_eq_some_iff.1 h0).1
    have hw := ms.wg
    unfold WgM at hw
    simp only [Bool.false_eq_true, if_false] at hw
    have hcl := cnt_le (n := n) (st := fun k => (S k).stage)
    have hcv : cnt4 n (fun k => (S k).stage) ≤ vs := hB
    obtain ⟨hhit, hmiss⟩ := (hg w id).2 (cnt4 n fun k => (S k).stage) (by omega) hw.2
    by_cases e : cnt4 n (fun k => (S k).stage) = vs
    · obtain ⟨g', hst, f, hg'⟩ := hhit e
      have hnew : WgAt C.ty C.Wg (w.setCell (stA C.Wg) (.int .u64 ((cnt4 n (fun k => (S k).stage) : Nat) * KK + 1))) ((cnt4 n (fun k => (S k).stage) : Nat) * KK + 1) 0 := hw.2.setSt _
      obtain ⟨ops, k1, k2, _⟩ := ms.main_lib (reg' := true) H (sl := sl) h0 hst (aside_st _ _ _) (by
        unfold WgM
        simp only [if_true]
        exact .inl ⟨by omega, hw.1, hnew⟩) (fun e he => by
        simp at he
        rcases he with rfl | rfl <;> exact lib_cell _ _ rfl)
      have hd : deafBehind 1 #[rd (stA C.Wg), Go.ConcR.wr (stA C.Wg)] = 1 := rfl
      rw [hd] at k2
      exact ⟨_, ops, k1, jk4_gos H H4 hnn (down_T n) hWr f g' _ _ _ _ _ _ hg' (by simp [hlt]) k2 trivial⟩
    · obtain ⟨g', hst, f, hg'⟩ := hmiss e
      obtain ⟨ops, k1, k2, _⟩ := ms.main_lib H (sl := sl) h0 hst (.refl _ _) ms.wg (fun e he => by simp at he; exact he ▸ lib_cell _ _ rfl)
      exact ⟨_, ops, k1, jk4_gos H H4 hnn (down_C n _) (ih (cnt4 n fun k => (S k).stage) (by omega)) f g' _ _ _ _ _ _ hg' (by simp [hlt]) k2 (Nat.le_refl _)⟩
  have hW1 : JK4 C n 1 false (QC n M) MV (Sta C.ty C.Wg (AtW1 C.P C.ty C.Wg Anch Ret)) := by
    refine jk4_step H H4 hnn (down_C n M) sta_rl (fun g w h => (h w id).1) fun g gs w sl t rk S hg h0 ms hB => ?_
    have hlt : 0 < gs.size := (Array.getElem?_eq_some_iff.1 h0).1
    have hw := ms.wg
    unfold WgM at hw
    simp only [Bool.false_eq_true, if_false] at hw
    have hcl := cnt_le (n := n) (st := fun k => (S k).stage)
    have hcv : cnt4 n (fun k => (S k).stage) ≤ M := hB
    obtain ⟨g', hst, hz, hnz⟩ := (hg w id).2 (cnt4 n fun k => (S k).stage) (by omega) hw.2
    obtain ⟨ops, k1, k2, _⟩ := ms.main_lib H (sl := sl) h0 hst (.refl _ _) ms.wg (fun e he => by simp at he; exact he ▸ lib_cell _ _ rfl)
    refine ⟨_, ops, k1, ?_⟩
    by_cases e : cnt4 n (fun k => (S k).stage) = 0
    · obtain ⟨f, hg'⟩ := hz e
      refine jk4_gos H H4 hnn (down_A n) hKe f g' _ _ _ _ _ _ hg' (by simp [hlt]) k2 fun k hk => ?_
      have h5 := cnt_zero (st := fun k => (S k).stage) e hk
      have h5' : (S k).stage < 5 := h5
      show (S k).stage ≤ 1
      rcases hw.1 k hk with h | h <;> omega
    · obtain ⟨f, hg'⟩ := hnz e
      exact jk4_gos H H4 hnn (down_C n _) (hW2 _ (by omega) hcv) f g' _ _ _ _ _ _ hg' (by simp [hlt]) k2 (Nat.le_refl _)
  intro g gs w sl t rk S hg h0 ms hB
  obtain ⟨f, hf⟩ := hA1 g w hg
  exact jk4_gos H H4 hnn (down_C n M) hW1 f g gs w sl t rk S hf h0 ms hB
end
end
end Go.Cv
