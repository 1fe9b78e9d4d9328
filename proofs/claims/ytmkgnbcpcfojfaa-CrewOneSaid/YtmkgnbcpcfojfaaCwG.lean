/- The machine once the tasks' channel is closed: workers end, goroutine 0 waits for them. -/
import Derived.Test.YtmkgnbcpcfojfaaCwF
import Derived.Test.YtmkgnbcpcfojfaaCwWd
import Derived.Test.YtmkgnbcpcfojfaaCwWw
import Derived.Conc.CrowdStepW
set_option linter.unusedVariables false
set_option linter.unusedSimpArgs false
namespace Go.Cv
open Go.Conc Go.ConcN
open Go.ConcR (KK wgBlock WgAt stA smA rd mk Bk DC0)

section
variable (C : Wk)
abbrev Ch4 := AtL1 C.P C.ty C.Wg (AtL2 C.P C.ty C.Wg (AtL3 C.P C.ty C.Wg))
abbrev Ch5 := AtDec C.P C.ty C.Wg (Ch4 C)
abbrev Ch6 := AtMk C.P false C.ty C.Wg .disable (Ch5 C)
abbrev Ch7 := AtMk C.P false C.ty C.Wg (.releaseMerge (stA C.Wg)) (Ch6 C)
/-- It enters its deferred Done. -/
def DoneG (g : Goroutine) : Prop := g.status = .running ∧ ∀ w, WgLive C.ty C.Wg w → ∃ n, Gos C.P false C.ty C.Wg (Ch7 C) n g w
structure WkOk4 : Prop where
  recv_none : ∀ g, C.RecvG g → ∃ r, C.tree (DoneG C) r (Go.Conc.served g (.tuple #[C.zT, .bool false])) C.W0
/-- A worker: stage, deafness. -/
inductive Sit4 : Nat → Nat → Goroutine → World → Rk → Prop
  | tr {g w r} : C.tree C.RecvG r g C.W0 → Sit4 9 0 g w r
  | re {g0 w r} : C.RecvG g0 → Sit4 9 0 { parked g0 #[rcase C.T C.zT] (.recv true) with status := .running } w r
  | cl {g w r} : C.tree (DoneG C) r g C.W0 → Sit4 8 0 g w r
  | d7 {g w f} : Gos C.P false C.ty C.Wg (Ch7 C) f g w → Sit4 7 0 g w (Rk.ofNat f)
  | d6 {g w f} : Gos C.P false C.ty C.Wg (Ch6 C) f g w → Sit4 6 0 g w (Rk.ofNat f)
  | d5 {g w f} : Gos C.P false C.ty C.Wg (Ch5 C) f g w → Sit4 5 1 g w (Rk.ofNat f)
  | d4 {g w f} : Gos C.P false C.ty C.Wg (Ch4 C) f g w → Sit4 4 1 g w (Rk.ofNat f)
  | d3 {g w f} : Gos C.P false C.ty C.Wg (AtL2 C.P C.ty C.Wg (AtL3 C.P C.ty C.Wg)) f g w → Sit4 3 1 g w (Rk.ofNat f)
  | d2 {g w f} : Gos C.P false C.ty C.Wg (AtL3 C.P C.ty C.Wg) f g w → Sit4 2 1 g w (Rk.ofNat f)
  | q {g w f d} : QuitsD C.P f d g → Sit4 1 d g w (Rk.ofNat f)
end

structure St where
  stage : Nat
  deaf : Nat
def isC (s : Nat) : Nat := if 5 ≤ s then 1 else 0
def cnt4 (n : Nat) (st : Nat → Nat) : Nat := sumTo n fun k => isC (st k)
/-- The group's state: reg: goroutine 0 waits at it. -/
def WgM (C : Wk) (n : Nat) (reg : Bool) (st : Nat → Nat) (w : World) : Prop :=
  if reg then ((1 ≤ cnt4 n st ∧ (∀ k, k < n → st k = 1 ∨ 5 ≤ st k) ∧ WgAt C.ty C.Wg w ((cnt4 n st : Nat) * KK + 1) 0) ∨
    (∃ l, l < n ∧ (st l = 2 ∨ st l = 3 ∨ st l = 4) ∧ (∀ k, k < n → k ≠ l → st k = 1) ∧ WgAt C.ty C.Wg w (if st l = 2 then 0 else 1) 0) ∨
    ((∀ k, k < n → st k = 1) ∧ WgAt C.ty C.Wg w 0 1))
  else (∀ k, k < n → st k = 1 ∨ 5 ≤ st k) ∧ WgAt C.ty C.Wg w ((cnt4 n st : Nat) * KK) 0

structure View4 (C : Wk) (MV w : World) : Prop where
  blk : ∀ (b : Nat) (o : Obj), C.W0.heap[b]? = some o → o ≠ unkC → MV.heap[b]? = some o
  le : C.W0.heap.size ≤ MV.heap.size
  tape : MV.tape = C.W0.tape
  os : MV.os = C.W0.os
  output : MV.output = C.W0.output
  chT : MV.heap[C.T]? = some unkC
  clT : ∃ s r, w.heap[C.T]? = some (.chan 0 #[] true s r false)
  wgb : WgV C MV
theorem View4.sim {C : Wk} {MV w w' : World} (v : View4 C MV w') (s : Sim C.ty false MV w) : Sim C.ty true C.W0 w := by
  refine ⟨?_, fun b o ho => ?_, s.tape.trans v.tape, s.os.trans v.os, s.output.trans v.output⟩
  · simp only [if_true]
    have := s.sizeEq; have := v.le
    omega
  · by_cases e : o = unkC
    · subst e; trivial
    · exact s.like b o (v.blk b o ho e)

structure MS4 (C : Wk) (n d : Nat) (reg : Bool) (S : Nat → St) (MV : World) (gs : Array Goroutine) (w : World) (t : Trace) (rk : Nat → Mk) : Prop where
  size : gs.size = C.m + n
  on : C.on = true
  m1 : 1 ≤ C.m
  old : ∀ i g, 0 < i → i < C.m → gs[i]? = some g → ∃ q, QuitsD C.P q (Deaf t i) g ∧ rk i = (0, Rk.ofNat q)
  wk : ∀ k, k < n → ∃ g, gs[C.m + k]? = some g ∧ Sit4 C (S k).stage (S k).deaf g w (rk (C.m + k)).2 ∧ (rk (C.m + k)).1 = (S k).stage
  sim : Sim C.ty false MV w
  vw : View4 C MV w
  wg : WgM C n reg (fun k => (S k).stage) w
  tr : TR (ShW C.ty MV) Non (RdF C n) C.m (C.m + n - 1) w.heap.size t
  dw : ∀ k, k < n → Deaf t (C.m + k) = (S k).deaf
  d0 : Deaf t 0 = d
  rel : ∀ k, k < n → (S k).stage ≤ 6 → ∃ r, RelBy (stA C.Wg) t (C.m + k) r

section
variable {C : Wk} {N n d : Nat} {reg : Bool} {S : Nat → St} {MV : World} {gs : Array Goroutine} {w : World} {t : Trace} {rk : Nat → Mk}

theorem atmk_run {P : Program} {main : Bool} {ty Wg : Nat} {m : Mark} {Next : Goroutine → World → Prop} (g : Goroutine) (w : World) (h : AtMk P main ty Wg m Next g w) : g.status = .running := h.1
theorem sit4_run (H : WkOk C N) {s dd : Nat} {g : Goroutine} {w : World} {r : Rk} (h : Sit4 C s dd g w r) : g.status = .running ∨ g.status = .finished := by
  cases h with
  | tr h => exact .inl ((tree_cases h).elim (fun h => (H.recv_step g h).1) (fun h => h.1))
  | re _ => exact .inl rfl
  | cl h => exact .inl ((tree_cases h).elim (fun h => h.1) (fun h => h.1))
  | d7 h => exact .inl (Goes.running (fun _ _ x => x.1) w id h)
  | d6 h => exact .inl (Goes.running (fun _ _ x => x.1) w id h)
  | d5 h => exact .inl (Goes.running (fun _ _ x => x.1) w id h)
  | d4 h => exact .inl (Goes.running (fun _ _ x => x.1) w id h)
  | d3 h => exact .inl (Goes.running (fun _ _ x => x.1) w id h)
  | d2 h => exact .inl (Goes.running (fun _ _ x => x.1) w id h)
  | q h => exact h.status
theorem sit4_runs (H : WkOk C N) {s dd : Nat} {g : Goroutine} {w : World} {r : Rk} (h : Sit4 C s dd g w r) (hs : s ≠ 1) : g.status = .running := by
  cases h with
  | tr h => exact ((tree_cases h).elim (fun h => (H.recv_step g h).1) (fun h => h.1))
  | re _ => rfl
  | cl h => exact ((tree_cases h).elim (fun h => h.1) (fun h => h.1))
  | d7 h => exact (Goes.running (fun _ _ x => x.1) w id h)
  | d6 h => exact (Goes.running (fun _ _ x => x.1) w id h)
  | d5 h => exact (Goes.running (fun _ _ x => x.1) w id h)
  | d4 h => exact (Goes.running (fun _ _ x => x.1) w id h)
  | d3 h => exact (Goes.running (fun _ _ x => x.1) w id h)
  | d2 h => exact (Goes.running (fun _ _ x => x.1) w id h)
  | q h => exact absurd rfl hs
theorem sit4_rely {s dd : Nat} {g : Goroutine} {w w' : World} {r : Rk} (h : Sit4 C s dd g w r) (hr : RL C.ty C.Wg w w') : Sit4 C s dd g w' r := by
  cases h with
  | tr h => exact .tr h
  | re h => exact .re h
  | cl h => exact .cl h
  | d7 h => exact .d7 (Goes.rely rl_trans h hr)
  | d6 h => exact .d6 (Goes.rely rl_trans h hr)
  | d5 h => exact .d5 (Goes.rely rl_trans h hr)
  | d4 h => exact .d4 (Goes.rely rl_trans h hr)
  | d3 h => exact .d3 (Goes.rely rl_trans h hr)
  | d2 h => exact .d2 (Goes.rely rl_trans h hr)
  | q h => exact .q h
theorem sit4_stage {s dd : Nat} {g : Goroutine} {w : World} {r : Rk} (h : Sit4 C s dd g w r) : 1 ≤ s := by cases h <;> omega

theorem MS4.who (ms : MS4 C n d reg S MV gs w t rk) {j : Nat} {x : Goroutine} (hj : 0 < j) (hx : gs[j]? = some x) :
    (j < C.m ∧ ∃ q, QuitsD C.P q (Deaf t j) x ∧ rk j = (0, Rk.ofNat q)) ∨ ∃ k, k < n ∧ j = C.m + k ∧ Sit4 C (S k).stage (S k).deaf x w (rk j).2 ∧ (rk j).1 = (S k).stage := by
  rcases Nat.lt_or_ge j C.m with h | h
  · exact .inl ⟨h, ms.old j x hj h hx⟩
  · have hlt : j < gs.size := (Array.getElem?_eq_some_iff.1 hx).1
    rw [ms.size] at hlt
    obtain ⟨g, hg, hsit⟩ := ms.wk (j - C.m) (by omega)
    have e : C.m + (j - C.m) = j := by omega
    rw [e] at hg hsit
    rw [hx] at hg
    obtain rfl : x = g := Option.some.inj hg
    exact .inr ⟨j - C.m, by omega, e.symm, hsit⟩
theorem MS4.fix (H : WkOk C N) (ms : MS4 C n d reg S MV gs w t rk) {a a' : Goroutine} {w' : World} {j : Nat} {x : Goroutine} (hj : 0 < j) (hx : gs[j]? = some x) : woken C.P a a' w' x = x := by
  rcases ms.who hj hx with ⟨_, q, hq, _⟩ | ⟨k, hk, _, hsit, _⟩
  · exact woken_quitsD hq
  · exact woken_fin (sit4_run H hsit)
theorem MS4.awake (H : WkOk C N) (ms : MS4 C n d reg S MV gs w t rk) {g0 : Goroutine} (h0 : gs[0]? = some g0) (ha : Go.Conc.awake g0) : ∀ g ∈ gs, Go.Conc.awake g := by
  intro g hg
  obtain ⟨i, hi, rfl⟩ := Array.mem_iff_getElem.1 hg
  rcases Nat.eq_zero_or_pos i with rfl | hpos
  · have : gs[0] = g0 := by simpa [Array.getElem?_eq_getElem hi] using h0
    rw [this]; exact ha
  · rcases ms.who hpos (Array.getElem?_eq_getElem hi) with ⟨_, q, hq, _⟩ | ⟨k, _, _, hs, _⟩
    · exact awake_of (hq.status.elim .inl fun x => .inr (.inr x))
    · exact awake_of ((sit4_run H hs).elim .inl fun x => .inr (.inr x))
theorem WgM.live {st : Nat → Nat} (h : WgM C n reg st w) : WgLive C.ty C.Wg w := by
  unfold WgM at h
  cases reg with
  | true =>
    simp only [if_true] at h
    rcases h with ⟨_, _, h⟩ | ⟨_, _, _, _, h⟩ | ⟨_, h⟩ <;> exact ⟨_, _, h⟩
  | false => exact ⟨_, _, h.2⟩
theorem WgM.of {st : Nat → Nat} {w' : World} (h : WgM C n reg st w) (e : w'.heap[C.Wg]? = w.heap[C.Wg]?) : WgM C n reg st w' := by
  unfold WgM at h ⊢
  unfold WgAt at h ⊢
  rw [e]; exact h
theorem MS4.apart (v : View4 C MV w) : Apart (ShW C.ty MV) Non (RdF C n) := by
  refine ⟨fun _ _ _ h => h.elim, fun _ _ _ h => h.elim, fun _ _ h => h.elim, fun k l hl hs => ?_⟩
  obtain ⟨hn, _, a, rfl, c, e, fr, hb, he⟩ := hl
  obtain ⟨a', ha', c', fr', hb'⟩ := hs
  cases ha'
  have := v.blk _ _ hb (by simp [unkC])
  rw [this] at hb'
  simp only [Option.some.injEq, Obj.cells.injEq] at hb'
  exact he hb'.2.1
theorem MS4.at (ms : MS4 C n d reg S MV gs w t rk) (e : Nat) : MS4 C n d reg S MV gs (w.at e) t rk :=
  ⟨ms.size, ms.on, ms.m1, ms.old, fun k hk => let ⟨g, h1, h2, h3⟩ := ms.wk k hk; ⟨g, h1, sit4_rely h2 (rl_alike ⟨rfl, rfl, rfl, rfl⟩), h3⟩, ms.sim.refl_at e, ⟨ms.vw.blk, ms.vw.le, ms.vw.tape, ms.vw.os, ms.vw.output, ms.vw.chT, ms.vw.clT, ms.vw.wgb⟩, ms.wg, ms.tr, ms.dw, ms.d0, ms.rel⟩
theorem View4.turn {w' : World} (v : View4 C MV w) (ha : Aside C.Wg w w') : View4 C MV w' := by
  refine ⟨v.blk, v.le, v.tape, v.os, v.output, v.chT, ?_, v.wgb⟩
  have hne : C.T ≠ C.Wg := by
    intro e
    obtain ⟨fr, hf⟩ := v.wgb
    rw [← e, v.chT] at hf; cases hf
  rw [ha.block C.T hne]; exact v.clT

/-- A step of goroutine 0's in the library. -/
theorem MS4.main_lib (H : WkOk C N) (ms : MS4 C n d reg S MV gs w t rk) {reg' : Bool} {sl : Option (Nat × Nat)} {g g' : Goroutine} {w' : World} {es : Array Event} (h0 : gs[0]? = some g) (hst : stepG C.P true g w = .go g' w' es)
    (ha : Aside C.Wg w w') (hwg : WgM C n reg' (fun k => (S k).stage) w') (hes : ∀ e ∈ es, LibEv C.Wg e) :
    ∃ ops, runT C.P (crowd gs w sl) 0 = (.next (crowd (gs.setIfInBounds 0 g') w' sl), ops) ∧ MS4 C n (deafBehind d es) reg' S MV (gs.setIfInBounds 0 g') w' (t ++ ops) rk ∧ ops = MemOp.ofEvents 0 g.frame.fn g.frame.place es := by
  have hs' := ms.vw.wgb.sim ms.sim ha hwg.live
  have hfix : (gs.map (woken C.P g g' w')).setIfInBounds 0 g' = gs.setIfInBounds 0 g' := map_set_fix fun j x hj hx => ms.fix H (Nat.pos_of_ne_zero hj) hx
  have hrun := runT_crowd_go (P := C.P) (sl := sl) (i := 0) h0 (show stepG C.P (0 == 0) g w = _ from hst)
  rw [hfix] at hrun
  refine ⟨_, hrun, ?_, rfl⟩
  have hm1 := ms.m1
  have hD : ∀ g', g' ≠ 0 → Deaf (t ++ MemOp.ofEvents 0 g.frame.fn g.frame.place es) g' = Deaf t g' := fun g' hg' => Deaf_other t (Ne.symm hg') _ g_ofEvents
  have hlt : C.Wg < w.heap.size := by
    obtain ⟨x, y, e⟩ := ms.vw.wgb.live ms.sim
    exact (Array.getElem?_eq_some_iff.1 e).1
  have hrl : RL C.ty C.Wg w w' := fun _ => hwg.live
  refine ⟨by simp [ms.size], ms.on, ms.m1, fun i x hi him hx => ?_, fun k hk => ?_, hs', ms.vw.turn ha, hwg, ?_, fun k hk => ?_, ?_, fun k hk hst => ?_⟩
  · rw [Array.getElem?_setIfInBounds_ne (by omega)] at hx
    obtain ⟨q, hq, hr⟩ := ms.old i x hi him hx
    exact ⟨q, by rw [hD i (by omega)]; exact hq, hr⟩
  · obtain ⟨x, hx, hsit, h3⟩ := ms.wk k hk
    exact ⟨x, by rw [Array.getElem?_setIfInBounds_ne (by omega)]; exact hx, sit4_rely hsit hrl, h3⟩
  · rw [ha.size]
    refine ms.tr.app0 (MS4.apart ms.vw) (ofEvents_ops fun e he => ⟨rfl, fun x hx => ?_⟩) (ofEvents_ops fun e he => (lib_cases (hes e he) hlt).1) (ofEvents_ops fun e he => (lib_cases (hes e he) hlt).2.1)
    obtain ⟨hk, a, hxa, hab⟩ := (lib_cases (hes e he) hlt).2.2 x hx
    obtain ⟨fr, hf⟩ := ms.vw.wgb
    exact .inl ⟨⟨a, hxa, #[], fr, by rw [hab]; exact hf⟩, hk⟩
  · rw [hD _ (by omega)]; exact ms.dw k hk
  · rw [Deaf_own, ms.d0]
  · obtain ⟨r, hr⟩ := ms.rel k hk hst
    exact ⟨r, hr.appOther g_ofEvents (by omega)⟩

/-- A silent step of goroutine 0's. -/
theorem MS4.main_go (H : WkOk C N) (ms : MS4 C n d reg S MV gs w t rk) {sl : Option (Nat × Nat)} {g g' : Goroutine} {w' MV' : World} {es : Array Event} (h0 : gs[0]? = some g) (hst : stepG C.P true g w = .go g' w' es)
    (hm : Mov C.ty (roC C n) MV MV' w w' es) (hs : Sim C.ty false MV' w') :
    ∃ ops, runT C.P (crowd gs w sl) 0 = (.next (crowd (gs.setIfInBounds 0 g') w' sl), ops) ∧ MS4 C n d reg S MV' (gs.setIfInBounds 0 g') w' (t ++ ops) rk := by
  have hm1 := ms.m1
  have v := ms.vw
  have hWgH : Hid C.ty MV.heap[C.Wg]? := by obtain ⟨fr, hf⟩ := v.wgb; rw [hf]; rfl
  have hTH : Hid C.ty MV.heap[C.T]? := by rw [v.chT]; trivial
  have hv : View4 C MV' w' := by
    have hb : ∀ (b : Nat) (o : Obj), C.W0.heap[b]? = some o → o ≠ unkC → MV'.heap[b]? = some o := fun b o ho hu => by
      have := v.blk b o ho hu
      rw [hm.vlow b ⟨o, ho, hu⟩ (lt_of_known this)]; exact this
    have e1 := hs.tape; have e2 := hs.os; have e3 := hs.output
    have f1 := ms.sim.tape; have f2 := ms.sim.os; have f3 := ms.sim.output
    refine ⟨hb, Nat.le_trans v.le hm.vsize, ?_, ?_, ?_, ?_, ?_, ?_⟩
    · rw [← e1, hm.rest.1, f1, v.tape]
    · rw [← e2, hm.rest.2.1, f2, v.os]
    · rw [← e3, hm.rest.2.2, f3, v.output]
    · rw [(hm.hid C.T hTH).2]; exact v.chT
    · rw [(hm.hid C.T hTH).1]; exact v.clT
    · obtain ⟨fr, hf⟩ := v.wgb
      exact ⟨fr, by rw [(hm.hid C.Wg hWgH).2]; exact hf⟩
  have hfix : (gs.map (woken C.P g g' w')).setIfInBounds 0 g' = gs.setIfInBounds 0 g' := map_set_fix fun j x hj hx => ms.fix H (Nat.pos_of_ne_zero hj) hx
  have hrun := runT_crowd_go (P := C.P) (sl := sl) (i := 0) h0 (show stepG C.P (0 == 0) g w = _ from hst)
  rw [hfix] at hrun
  refine ⟨_, hrun, ?_⟩
  have hD : ∀ g', g' ≠ 0 → Deaf (t ++ MemOp.ofEvents 0 g.frame.fn g.frame.place es) g' = Deaf t g' := fun g' hg' => Deaf_other t (Ne.symm hg') _ g_ofEvents
  have hwg : WgM C n reg (fun k => (S k).stage) w' := ms.wg.of (hm.hid C.Wg hWgH).1
  refine ⟨by simp [ms.size], ms.on, ms.m1, fun i x hi him hx => ?_, fun k hk => ?_, hs, hv, hwg, ?_, fun k hk => ?_, ?_, fun k hk hst => ?_⟩
  · rw [Array.getElem?_setIfInBounds_ne (by omega)] at hx
    obtain ⟨q, hq, hr⟩ := ms.old i x hi him hx
    exact ⟨q, by rw [hD i (by omega)]; exact hq, hr⟩
  · obtain ⟨x, hx, hsit, h3⟩ := ms.wk k hk
    exact ⟨x, by rw [Array.getElem?_setIfInBounds_ne (by omega)]; exact hx, sit4_rely hsit (fun _ => hwg.live), h3⟩
  · have ht := ms.tr.turn hm ms.sim
    refine ht.app0 (MS4.apart hv) (ofEvents_ops fun e he => ⟨rfl, fun x hx => ?_⟩) (ofEvents_ops fun e he => (evc_cases (hm.ev e he)).1) (ofEvents_ops fun e he => (evc_cases (hm.ev e he)).2.2.2.1)
    obtain ⟨hk, a, ha, hwr, c, e', fr, hb, hne⟩ := (evc_cases (hm.ev e he)).2.2.2.2 x hx
    refine .inr ⟨?_, fun _ _ _ h => h.elim, fun hw k k1 kj hrd => ?_⟩
    · rintro ⟨a', ha', c', fr', hb'⟩
      rw [ha] at ha'; cases ha'
      rw [hb] at hb'
      simp only [Option.some.injEq, Obj.cells.injEq] at hb'
      exact hne hb'.2.1
    · obtain ⟨hn, _, a', ha', c', e2, fr', hb', _⟩ := hrd
      rw [ha] at ha'; cases ha'
      exact hwr hw ⟨_, hb', by simp [unkC]⟩
  · rw [hD _ (by omega)]; exact ms.dw k hk
  · rw [Deaf_own, ms.d0]
    exact deafBehind_still (fun e he => ⟨(evc_cases (hm.ev e he)).2.1, (evc_cases (hm.ev e he)).2.2.1⟩) d
  · obtain ⟨r, hr⟩ := ms.rel k hk hst
    exact ⟨r, hr.appOther g_ofEvents (by omega)⟩
end
end Go.Cv
