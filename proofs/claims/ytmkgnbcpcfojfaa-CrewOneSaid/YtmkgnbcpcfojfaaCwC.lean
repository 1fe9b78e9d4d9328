/- The machine while workers take jobs over a channel and send results over another: what holds at every moment. -/
import Derived.Test.YtmkgnbcpcfojfaaCwB
set_option linter.unusedVariables false
set_option linter.unusedSimpArgs false
namespace Go.Cv
open Go.Conc Go.ConcN

/-- A call's context: m: the first worker's number; T, R: the channels of tasks and of results; Wg: the group; W0: what all may read. -/
structure Wk where
  P : Program
  ty : Nat
  Post : Value → World → Prop
  m : Nat
  T : Nat
  R : Nat
  Wg : Nat
  W0 : World
  RecvG : Goroutine → Prop
  SendG : Nat → Goroutine → Prop
  zT : Value
  zS : Value
  res : Nat → Value
  /-- Is W0 kept already? -/
  on : Bool
abbrev Wk.tree (C : Wk) (Stop : Goroutine → Prop) := Tree C.P C.ty true false (fun _ => True) (fun g _ => Stop g)
structure WkOk (C : Wk) (N : Nat) : Prop where
  recv_step : ∀ g, C.RecvG g → g.status = .running ∧ ∀ w, stepG C.P false g w = .comm g #[rcase C.T C.zT] true (.recv true) w #[]
  send_step : ∀ i g, C.SendG i g → g.status = .running ∧ ∀ w, stepG C.P false g w = .comm g #[scase C.R (C.res i) C.zS] true .send w #[]
  send_next : ∀ i g, C.SendG i g → ∃ r, C.tree C.RecvG r (Go.Conc.served g undef) C.W0
  recv_next : ∀ (i : Nat) g, C.RecvG g → i < N → ∃ r, C.tree (C.SendG i) r (Go.Conc.served g (.tuple #[.int .i64 i, .bool true])) C.W0
  ne : C.T ≠ C.R

/-- A worker: has it a job? is it parked? -/
structure Sit where
  job : Option Nat
  parked : Bool
def SitOk (C : Wk) (s : Sit) (g : Goroutine) (mk : Mk) : Prop :=
  match s.job, s.parked with
  | none, false => mk.1 = 1 ∧ C.tree C.RecvG mk.2 g C.W0
  | none, true => mk.1 = 0 ∧ ∃ g0, C.RecvG g0 ∧ g = Go.Conc.parked g0 #[rcase C.T C.zT] (.recv true)
  | some i, false => mk.1 = 1 ∧ C.tree (C.SendG i) mk.2 g C.W0
  | some i, true => mk.1 = 0 ∧ ∃ g0, C.SendG i g0 ∧ g = Go.Conc.parked g0 #[scase C.R (C.res i) C.zS] .send

def RdF (C : Wk) (n : Nat) : Nat → Loc → Prop := fun k l => C.on = true ∧ C.m ≤ k ∧ ∃ a, l = .cell a ∧ ∃ c e fr, C.W0.heap[a.block]? = some (.cells c e fr) ∧ e ≠ C.ty
structure View0 (C : Wk) (MV : World) : Prop where
  blk : ∀ (b : Nat) (o : Obj), C.W0.heap[b]? = some o → o ≠ unkC → MV.heap[b]? = some o
  le : C.W0.heap.size ≤ MV.heap.size
  tape : MV.tape = C.W0.tape
  os : MV.os = C.W0.os
  output : MV.output = C.W0.output
  chT : MV.heap[C.T]? = some hidC
  chR : MV.heap[C.R]? = some hidC
  wgb : ∃ fr, MV.heap[C.Wg]? = some (.cells #[] C.ty fr)
  w0T : C.W0.heap[C.T]? = some unkC

structure MS (C : Wk) (n d : Nat) (X : Option Obj → Prop) (S : Nat → Sit) (MV : World) (gs : Array Goroutine) (w : World) (t : Trace) (rk : Nat → Mk) : Prop where
  size : gs.size = C.m + n
  m1 : 1 ≤ C.m
  old : ∀ i g, 0 < i → i < C.m → gs[i]? = some g → ∃ q, QuitsD C.P q (Deaf t i) g ∧ rk i = (0, Rk.ofNat q)
  wk : ∀ k, k < n → ∃ g, gs[C.m + k]? = some g ∧ SitOk C (S k) g (rk (C.m + k))
  sim : Sim C.ty false MV w
  x : X w.heap[C.Wg]?
  xh : Hid C.ty MV.heap[C.Wg]? ∨ ∀ o, X o
  on : 0 < n → C.on = true
  v0 : C.on = true → View0 C MV
  tr : TR (ShW C.ty MV) Non (RdF C n) C.m (C.m + n - 1) w.heap.size t
  dw : ∀ k, k < n → Deaf t (C.m + k) = 0
  d0 : Deaf t 0 = d
/-- What goroutine 0 may not write: what the workers know. -/
def roC (C : Wk) (n : Nat) : Nat → Prop := fun b => ∃ o, C.W0.heap[b]? = some o ∧ o ≠ unkC

/-! ### Small laws -/
theorem map_set_fix {gs : Array Goroutine} {i : Nat} {g' : Goroutine} {f : Goroutine → Goroutine} (h : ∀ j x, j ≠ i → gs[j]? = some x → f x = x) : (gs.map f).setIfInBounds i g' = gs.setIfInBounds i g' := by
  apply Array.ext_getElem?
  intro j
  by_cases e : i = j
  · subst e
    by_cases hlt : i < gs.size
    · rw [Array.getElem?_setIfInBounds_self_of_lt (by simpa using hlt), Array.getElem?_setIfInBounds_self_of_lt hlt]
    · rw [Array.getElem?_eq_none (by simpa using hlt), Array.getElem?_eq_none (by simpa using hlt)]
  · rw [Array.getElem?_setIfInBounds_ne e, Array.getElem?_setIfInBounds_ne e, Array.getElem?_map]
    cases hx : gs[j]? with
    | none => rfl
    | some x => simp [h j x (Ne.symm e) hx]
theorem woken_fin {P : Program} {a a' x : Goroutine} {w : World} (h : x.status = .running ∨ x.status = .finished) : woken P a a' w x = x := by
  unfold woken
  split
  · exact again_running _ h
  · rfl
theorem Sim.ofHeap {ty : Nat} {ext : Bool} {W w w' : World} (s : Sim ty ext W w) (h : w'.heap = w.heap) (hr : w'.tape = w.tape ∧ w'.os = w.os ∧ w'.output = w.output) : Sim ty ext W w' :=
  ⟨by rw [h]; exact s.size, fun b o ho => by rw [h]; exact s.like b o ho, hr.1.trans s.tape, hr.2.1.trans s.os, hr.2.2.trans s.output⟩
theorem Sim.sizeEq {ty : Nat} {W w : World} (s : Sim ty false W w) : w.heap.size = W.heap.size := by simpa using s.size
theorem View0.sim {C : Wk} {MV w : World} (v : View0 C MV) (s : Sim C.ty false MV w) : Sim C.ty true C.W0 w := by
  refine ⟨?_, fun b o ho => ?_, s.tape.trans v.tape, s.os.trans v.os, s.output.trans v.output⟩
  · simp only [if_true]
    have := s.sizeEq; have := v.le
    omega
  · by_cases e : o = unkC
    · subst e; trivial
    · exact s.like b o (v.blk b o ho e)
theorem open_of {ty : Nat} {ext : Bool} {W w : World} {c : Nat} (s : Sim ty ext W w) (h : W.heap[c]? = some hidC) : ∃ a b, w.heap[c]? = some (.chan 0 #[] false a b false) := let ⟨a, h⟩ := s.like c _ h; ⟨a, a, h⟩

section
variable {C : Wk} {N n d : Nat} {X : Option Obj → Prop} {S : Nat → Sit} {MV : World} {gs : Array Goroutine} {w : World} {t : Trace} {rk : Nat → Mk}

theorem MS.apart (v0 : C.on = true → View0 C MV) : Apart (ShW C.ty MV) Non (RdF C n) := by
  refine ⟨fun _ _ _ h => h.elim, fun _ _ _ h => h.elim, fun _ _ h => h.elim, fun k l hl hs => ?_⟩
  obtain ⟨hn, _, a, rfl, c, e, fr, hb, he⟩ := hl
  obtain ⟨a', ha', c', fr', hb'⟩ := hs
  cases ha'
  have := (v0 hn).blk _ _ hb (by simp [unkC])
  rw [this] at hb'
  simp only [Option.some.injEq, Obj.cells.injEq] at hb'
  exact he hb'.2.1

theorem tree_run (H : WkOk C N) {s : Sit} {g : Goroutine} {mk : Mk} (h : SitOk C s g mk) (hp : s.parked = false) : g.status = .running := by
  unfold SitOk at h
  rw [hp] at h
  match hj : s.job, h with
  | none, ⟨_, ht⟩ => rcases tree_cases ht with h | h
                     · exact (H.recv_step g h).1
                     · exact h.1
  | some i, ⟨_, ht⟩ => rcases tree_cases ht with h | h
                       · exact (H.send_step i g h).1
                       · exact h.1
theorem sit_woken (H : WkOk C N) {s : Sit} {g a a' : Goroutine} {mk : Mk} (h : SitOk C s g mk) {w' : World} {MV' : World} (hs : Sim C.ty false MV' w') (hv : View0 C MV') : woken C.P a a' w' g = g := by
  by_cases hp : s.parked = false
  · exact woken_fin (.inl (tree_run H h hp))
  · unfold SitOk at h
    have hp' : s.parked = true := by simpa using hp
    rw [hp'] at h
    match hj : s.job, h with
    | none, ⟨_, g0, _, e⟩ =>
      obtain ⟨a, b, hc⟩ := open_of hs hv.chT
      rw [e]; exact woken_recv_open _ _ hc
    | some i, ⟨_, g0, _, e⟩ =>
      obtain ⟨a, b, hc⟩ := open_of hs hv.chR
      rw [e]; exact woken_send_open _ _ hc
theorem sit_awake (H : WkOk C N) {s : Sit} {g : Goroutine} {mk : Mk} (h : SitOk C s g mk) : awake g := by
  by_cases hp : s.parked = false
  · exact awake_of (.inl (tree_run H h hp))
  · unfold SitOk at h
    have hp' : s.parked = true := by simpa using hp
    rw [hp'] at h
    match hj : s.job, h with
    | none, ⟨_, g0, _, e⟩ => rw [e]; exact awake_of (.inr (.inl rfl))
    | some i, ⟨_, g0, _, e⟩ => rw [e]; exact awake_of (.inr (.inl rfl))

/-- Every goroutine but number 0 is an earlier one or a worker. -/
theorem MS.who (ms : MS C n d X S MV gs w t rk) {j : Nat} {x : Goroutine} (hj : 0 < j) (hx : gs[j]? = some x) :
    (j < C.m ∧ ∃ q, QuitsD C.P q (Deaf t j) x ∧ rk j = (0, Rk.ofNat q)) ∨ ∃ k, k < n ∧ j = C.m + k ∧ SitOk C (S k) x (rk j) := by
  rcases Nat.lt_or_ge j C.m with h | h
  · exact .inl ⟨h, ms.old j x hj h hx⟩
  · have hlt : j < gs.size := (Array.getElem?_eq_some_iff.1 hx).1
    rw [ms.size] at hlt
    obtain ⟨g, hg, hsit⟩ := ms.wk (j - C.m) (by omega)
    have e : C.m + (j - C.m) = j := by omega
    rw [e] at hg hsit
    rw [hx] at hg
    obtain rfl : x = g := Option.some.inj hg
    exact .inr ⟨j - C.m, by omega, e.symm, hsit⟩
theorem MS.wkFix (H : WkOk C N) (ms : MS C n d X S MV gs w t rk) {w' : World} {a a' : Goroutine} (hs : C.on = true → ∃ MV', Sim C.ty false MV' w' ∧ View0 C MV') {j : Nat} {x : Goroutine} (hj : 0 < j) (hx : gs[j]? = some x) : woken C.P a a' w' x = x := by
  rcases ms.who hj hx with ⟨_, q, hq, _⟩ | ⟨k, hk, _, hsit⟩
  · exact woken_quitsD hq
  · obtain ⟨MV', hs', hv'⟩ := hs (ms.on (by omega))
    exact sit_woken H hsit hs' hv'

theorem hid_shw {ty : Nat} {W : World} {a : Addr} {c : Array Value} {fr : Nat × Nat} (h : W.heap[a.block]? = some (.cells c ty fr)) : Hid ty W.heap[a.block]? := by rw [h]; rfl

/-- The shared places after a step. -/
theorem TR.turn {m j : Nat} {roX : Nat → Prop} {MV' w' : World} {es : Array Event} {OwnR : Nat → Loc → Prop} (h : TR (ShW C.ty MV) Non OwnR m j w.heap.size t) (hm : Mov C.ty roX MV MV' w w' es) (hs : Sim C.ty false MV w) :
    TR (ShW C.ty MV') Non OwnR m j w'.heap.size t := by
  refine h.grow hm.size (fun l hl => ?_) (fun l hl => ?_) (fun _ _ _ _ => Iff.rfl) (fun _ _ _ _ => Iff.rfl)
  · obtain ⟨a, rfl, c, fr, hb⟩ := hl
    exact ⟨a, rfl, c, fr, by rw [(hm.hid a.block (hid_shw hb)).2]; exact hb⟩
  · obtain ⟨a, rfl, c, fr, hb⟩ := hl
    rcases Nat.lt_or_ge a.block MV.heap.size with hlt | hge
    · obtain ⟨c', fr', hb'⟩ := hm.tyb a.block c fr hlt hb
      exact .inl ⟨a, rfl, c', fr', hb'⟩
    · exact .inr ⟨a, rfl, by rw [hs.sizeEq]; exact hge⟩

theorem ofEvents_ops {g : Nat} {fn : FuncId} {pos : String} {es : Array Event} {p : MemOp → Prop} (h : ∀ e ∈ es, p { g, fn, pos, act := .ofEvent e }) : ∀ op ∈ MemOp.ofEvents g fn pos es, p op := by
  intro op hop
  obtain ⟨e, he, rfl⟩ := Go.Conc.mem_ofEvents hop
  exact h e he
theorem g_ofEvents {g : Nat} {fn : FuncId} {pos : String} {es : Array Event} : ∀ op ∈ MemOp.ofEvents g fn pos es, op.g = g := ofEvents_ops fun _ _ => rfl

/-- A silent step of goroutine 0's. -/
theorem MS.main_go (H : WkOk C N) (ms : MS C n d X S MV gs w t rk) {sl : Option (Nat × Nat)} {g g' : Goroutine} {w' MV' : World} {es : Array Event} (h0 : gs[0]? = some g) (hst : stepG C.P true g w = .go g' w' es)
    (hm : Mov C.ty (roC C n) MV MV' w w' es) (hs : Sim C.ty false MV' w') :
    ∃ ops, runT C.P (crowd gs w sl) 0 = (.next (crowd (gs.setIfInBounds 0 g') w' sl), ops) ∧ MS C n d X S MV' (gs.setIfInBounds 0 g') w' (t ++ ops) rk := by
  have hlt : 0 < gs.size := (Array.getElem?_eq_some_iff.1 h0).1
  have hv : C.on = true → View0 C MV' := fun hn => by
    have v := ms.v0 hn
    have hb : ∀ (b : Nat) (o : Obj), C.W0.heap[b]? = some o → o ≠ unkC → MV'.heap[b]? = some o := fun b o ho hu => by
      have := v.blk b o ho hu
      rw [hm.vlow b ⟨o, ho, hu⟩ (lt_of_known this)]; exact this
    have e1 := hs.tape; have e2 := hs.os; have e3 := hs.output
    have f1 := ms.sim.tape; have f2 := ms.sim.os; have f3 := ms.sim.output
    refine ⟨hb, Nat.le_trans v.le hm.vsize, ?_, ?_, ?_, ?_, ?_, ?_, v.w0T⟩
    · rw [← e1, hm.rest.1, f1, v.tape]
    · rw [← e2, hm.rest.2.1, f2, v.os]
    · rw [← e3, hm.rest.2.2, f3, v.output]
    · rw [(hm.hid C.T (by rw [v.chT]; trivial)).2]; exact v.chT
    · rw [(hm.hid C.R (by rw [v.chR]; trivial)).2]; exact v.chR
    · obtain ⟨fr, hf⟩ := v.wgb
      exact ⟨fr, by rw [(hm.hid C.Wg (by rw [hf]; rfl)).2]; exact hf⟩
  have hfix : (gs.map (woken C.P g g' w')).setIfInBounds 0 g' = gs.setIfInBounds 0 g' := map_set_fix fun j x hj hx => ms.wkFix H (fun hn => ⟨MV', hs, hv hn⟩) (Nat.pos_of_ne_zero hj) hx
  have hrun := runT_crowd_go (P := C.P) (sl := sl) (i := 0) h0 (show stepG C.P (0 == 0) g w = _ from hst)
  rw [hfix] at hrun
  refine ⟨_, hrun, ?_⟩
  have hD : ∀ g', g' ≠ 0 → Deaf (t ++ MemOp.ofEvents 0 g.frame.fn g.frame.place es) g' = Deaf t g' := fun g' hg' => Deaf_other t (Ne.symm hg') _ g_ofEvents
  refine ⟨by simp [ms.size], ms.m1, fun i x hi him hx => ?_, fun k hk => ?_, hs, ?_, ?_, ms.on, hv, ?_, fun k hk => ?_, ?_⟩
  · rw [Array.getElem?_setIfInBounds_ne (by omega)] at hx
    obtain ⟨q, hq, hr⟩ := ms.old i x hi him hx
    exact ⟨q, by rw [hD i (by omega)]; exact hq, hr⟩
  · obtain ⟨x, hx, hsit⟩ := ms.wk k hk
    exact ⟨x, by rw [Array.getElem?_setIfInBounds_ne (by have := ms.m1; omega)]; exact hx, hsit⟩
  · rcases ms.xh with h | h
    · rw [(hm.hid C.Wg h).1]; exact ms.x
    · exact h _
  · rcases ms.xh with h | h
    · exact .inl (by rw [(hm.hid C.Wg h).2]; exact h)
    · exact .inr h
  · have ht := ms.tr.turn hm ms.sim
    refine ht.app0 (MS.apart hv) (ofEvents_ops fun e he => ⟨rfl, fun x hx => ?_⟩) (ofEvents_ops fun e he => (evc_cases (hm.ev e he)).1) (ofEvents_ops fun e he => (evc_cases (hm.ev e he)).2.2.2.1)
    obtain ⟨hk, a, ha, hwr, c, e', fr, hb, hne⟩ := (evc_cases (hm.ev e he)).2.2.2.2 x hx
    refine .inr ⟨?_, fun _ _ _ h => h.elim, fun hw k k1 kj hrd => ?_⟩
    · rintro ⟨a', ha', c', fr', hb'⟩
      rw [ha] at ha'; cases ha'
      rw [hb] at hb'
      simp only [Option.some.injEq, Obj.cells.injEq] at hb'
      exact hne hb'.2.1
    · obtain ⟨hn, _, a', ha', c', e2, fr', hb', _⟩ := hrd
      rw [ha] at ha'; cases ha'
      exact hwr hw ⟨_, hb', by simp [unkC]⟩
  · rw [hD _ (by have := ms.m1; omega)]; exact ms.dw k hk
  · rw [Deaf_own, ms.d0]
    exact deafBehind_still (fun e he => ⟨(evc_cases (hm.ev e he)).2.1, (evc_cases (hm.ev e he)).2.2.1⟩) d

theorem setGet {gs : Array Goroutine} {i j : Nat} {x y : Goroutine} (hj : gs[j]? = some y) : (gs.setIfInBounds i x)[j]? = some (if i = j then x else y) := by
  have hlt := (Array.getElem?_eq_some_iff.1 hj).1
  by_cases e : i = j
  · subst e; rw [Array.getElem?_setIfInBounds_self_of_lt hlt, if_pos rfl]
  · rw [Array.getElem?_setIfInBounds_ne e, if_neg e]; exact hj

/-- A step of another goroutine's that leaves the heap: what is kept. -/
theorem MS.other (ms : MS C n d X S MV gs w t rk) {i : Nat} (hi : 0 < i) {g' : Goroutine} {w' : World} {u : Trace} {S' : Nat → Sit} {rk' : Nat → Mk} (hlt : i < gs.size)
    (hh : w'.heap = w.heap) (hr : w'.tape = w.tape ∧ w'.os = w.os ∧ w'.output = w.output) (hg : ∀ op ∈ u, op.g = i)
    (hold : i < C.m → ∃ q, QuitsD C.P q (Deaf (t ++ u) i) g' ∧ rk' i = (0, Rk.ofNat q)) (hwk : ∀ k, i = C.m + k → k < n → SitOk C (S' k) g' (rk' i)) (hS : ∀ k, i ≠ C.m + k → S' k = S k) (hrk : ∀ j, j ≠ i → rk' j = rk j)
    (hd : C.m ≤ i → Deaf (t ++ u) i = 0) (htr : TR (ShW C.ty MV) Non (RdF C n) C.m (C.m + n - 1) w.heap.size (t ++ u)) : MS C n d X S' MV (gs.setIfInBounds i g') w' (t ++ u) rk' := by
  have hD : ∀ j, j ≠ i → Deaf (t ++ u) j = Deaf t j := fun j hj => Deaf_other t (Ne.symm hj) _ hg
  refine ⟨by simp [ms.size], ms.m1, fun j x hj hjm hx => ?_, fun k hk => ?_, ms.sim.ofHeap hh hr, by rw [hh]; exact ms.x, ms.xh, ms.on, ms.v0, by rw [hh]; exact htr, fun k hk => ?_, by rw [hD 0 (by omega)]; exact ms.d0⟩
  · by_cases e : i = j
    · subst e
      rw [Array.getElem?_setIfInBounds_self_of_lt hlt] at hx
      cases hx
      exact hold hjm
    · rw [Array.getElem?_setIfInBounds_ne e] at hx
      obtain ⟨q, hq, hr⟩ := ms.old j x hj hjm hx
      exact ⟨q, by rw [hD j (Ne.symm e)]; exact hq, by rw [hrk j (Ne.symm e)]; exact hr⟩
  · by_cases e : i = C.m + k
    · exact ⟨g', by rw [← e, Array.getElem?_setIfInBounds_self_of_lt hlt], by rw [← e]; exact hwk k e hk⟩
    · obtain ⟨x, hx, hsit⟩ := ms.wk k hk
      exact ⟨x, by rw [Array.getElem?_setIfInBounds_ne e]; exact hx, by rw [hS k e, hrk _ (Ne.symm e)]; exact hsit⟩
  · by_cases e : i = C.m + k
    · rw [← e]; exact hd (by omega)
    · rw [hD _ (Ne.symm e)]; exact ms.dw k hk

def updS (S : Nat → Sit) (k : Nat) (s : Sit) : Nat → Sit := fun a => if a = k then s else S a
def updR (rk : Nat → Mk) (i : Nat) (m : Mk) : Nat → Mk := fun a => if a = i then m else rk a
theorem updS_same (S : Nat → Sit) (k : Nat) (s : Sit) : updS S k s k = s := by simp [updS]
theorem updS_ne (S : Nat → Sit) {k a : Nat} (s : Sit) (h : a ≠ k) : updS S k s a = S a := by simp [updS, h]
theorem updR_same (rk : Nat → Mk) (i : Nat) (m : Mk) : updR rk i m i = m := by simp [updR]
theorem updR_ne (rk : Nat → Mk) {i a : Nat} (m : Mk) (h : a ≠ i) : updR rk i m a = rk a := by simp [updR, h]
theorem dec_upd {rk : Nat → Mk} {i M : Nat} {m : Mk} (hi : i < M) (h : Mk.lt m (rk i)) : Dec M (updR rk i m) rk := ⟨i, hi, by rw [updR_same]; exact h, fun j _ hj => updR_ne rk m hj⟩
theorem ofNat_lt (q : Nat) : Rk.lt (Rk.ofNat q) (Rk.ofNat (q + 1)) := ⟨default, rfl⟩
theorem updS_job (S : Nat → Sit) (k : Nat) (s : Sit) (h : s.job = (S k).job) : (fun a => (updS S k s a).job) = fun a => (S a).job := by
  funext a
  by_cases e : a = k
  · subst e; rw [updS_same]; exact h
  · rw [updS_ne S s e]

def NewParks (C : Wk) (g0 : Goroutine) (S S' : Nat → Sit) : Prop := ∀ k, (S' k).parked = true → (S k).parked = true ∨ ((S k).job = none ∧ offersAt g0 C.T true = []) ∨ ((S k).job ≠ none ∧ offersAt g0 C.R false = [])
/-- WHAT ANOTHER GOROUTINE'S STEP DOES; or it comes to a channel at which goroutine 0 waits. -/
theorem MS.others (H : WkOk C N) (ms : MS C n d X S MV gs w t rk) {sl : Option (Nat × Nat)} {i : Nat} {gi g0 : Goroutine} (hi : 0 < i) (hgi : gs[i]? = some gi) (hrun : gi.status = .running) (h0 : gs[0]? = some g0)
    (hfix : ∀ a a' w', Sim C.ty false MV w' → woken C.P a a' w' g0 = g0) :
    (∃ gs' ops rk' S' w', runT C.P (crowd gs w sl) i = (.next (crowd gs' w' sl), ops) ∧ MS C n d X S' MV gs' w' (t ++ ops) rk' ∧ Dec gs.size rk' rk ∧ gs'[0]? = some g0 ∧ (w'.heap = w.heap ∧ w'.tape = w.tape ∧ w'.os = w.os ∧ w'.output = w.output) ∧ ((fun k => (S' k).job) = fun k => (S k).job) ∧ NewParks C g0 S S') ∨
    (∃ k, k < n ∧ i = C.m + k ∧ (S k).job = none ∧ C.RecvG gi ∧ offersAt g0 C.T true ≠ []) ∨
    (∃ k j, k < n ∧ i = C.m + k ∧ (S k).job = some j ∧ C.SendG j gi ∧ offersAt g0 C.R false ≠ []) := by
  have hlt : i < gs.size := (Array.getElem?_eq_some_iff.1 hgi).1
  have hi0 : (i == 0) = false := by simp; omega
  have h00 : ∀ (x : Goroutine), (gs.setIfInBounds i x)[0]? = some g0 := fun x => by rw [Array.getElem?_setIfInBounds_ne (by omega)]; exact h0
  -- a step '.go' that leaves the heap
  have go : ∀ {g' : Goroutine} {w' : World} {es : Array Event}, stepG C.P false gi w = .go g' w' es → w'.heap = w.heap → (w'.tape = w.tape ∧ w'.os = w.os ∧ w'.output = w.output) →
      runT C.P (crowd gs w sl) i = (.next (crowd (gs.setIfInBounds i g') w' sl), MemOp.ofEvents i gi.frame.fn gi.frame.place es) := by
    intro g' w' es hst hh hr
    have hs' : Sim C.ty false MV w' := ms.sim.ofHeap hh hr
    rw [runT_crowd_go hgi (by rw [hi0]; exact hst), map_set_fix fun j x hj hx => ?_]
    rcases Nat.eq_zero_or_pos j with rfl | hjp
    · rw [h0] at hx; cases hx; exact hfix _ _ _ hs'
    · exact ms.wkFix H (fun hn => ⟨MV, hs', ms.v0 hn⟩) hjp hx
  rcases ms.who hi hgi with ⟨him, q, hq, hrk⟩ | ⟨k, hk, rfl, hsit⟩
  · -- an earlier goroutine slips
    left
    cases q with
    | zero => rw [hq.1] at hrun; cases hrun
    | succ q =>
      rcases hq with ⟨hf, _⟩ | ⟨_, g', es, hmute, hstp, hq'⟩
      · rw [hf] at hrun; cases hrun
      have hu : ∀ op ∈ MemOp.ofEvents i gi.frame.fn gi.frame.place es, op.g = i ∧ op.act.touch? = none ∧ op.act.low w.heap.size ∧ ∀ a, op.act ≠ .mark (.release a) :=
        ofEvents_ops fun e he => ⟨rfl, touch_mute (hmute e he), low_mute (hmute e he) _, fun a ha => by
          have := hmute e he
          obtain ⟨loc, wr, sy⟩ := e
          cases loc with
          | mark m => cases m <;> simp [Event.mute] at this <;> simp [MemAct.ofEvent] at ha
          | _ => simp [Event.mute] at this⟩
      refine ⟨_, _, updR rk i (0, Rk.ofNat q), S, w, go (hstp w) rfl ⟨rfl, rfl, rfl⟩, ?_, dec_upd hlt (by rw [hrk]; exact .inr ⟨rfl, ofNat_lt q⟩), h00 _, ⟨rfl, rfl, rfl, rfl⟩, rfl, fun _ h => .inl h⟩
      refine ms.other hi hlt rfl ⟨rfl, rfl, rfl⟩ (fun op hop => (hu op hop).1) (fun _ => ⟨q, by rw [Deaf_own]; exact hq', updR_same _ _ _⟩) (fun k hk => by omega) (fun _ _ => rfl) (fun j hj => updR_ne rk _ hj) (fun h => by omega) ?_
      exact ms.tr.appK (MS.apart ms.v0) hi (by have := ms.m1; omega) (fun op hop => ⟨(hu op hop).1, fun x hx => by rw [(hu op hop).2.1] at hx; cases hx⟩) (fun op hop => (hu op hop).2.2.1) (fun op hop => (hu op hop).2.2.2) fun op hop x hx => by rw [(hu op hop).2.1] at hx; cases hx
  · -- a worker
    have v := ms.v0 (ms.on (by omega))
    have s0 : Sim C.ty true C.W0 w := v.sim ms.sim
    -- one of its silent steps
    have silent : ∀ {Stop : Goroutine → Prop} {r r' : Rk} {g' : Goroutine} {w' W' : World} {es : Array Event}, rk (C.m + k) = (1, r) → Rk.lt r' r → stepG C.P false gi w = .go g' w' es → Mov C.ty (fun _ => True) C.W0 W' w w' es → w'.heap = w.heap ∧ W' = C.W0 →
        SitOk C (S k) g' (1, r') → ∃ gs' ops rk' S' w', runT C.P (crowd gs w sl) (C.m + k) = (.next (crowd gs' w' sl), ops) ∧ MS C n d X S' MV gs' w' (t ++ ops) rk' ∧ Dec gs.size rk' rk ∧ gs'[0]? = some g0 ∧ (w'.heap = w.heap ∧ w'.tape = w.tape ∧ w'.os = w.os ∧ w'.output = w.output) ∧ ((fun k => (S' k).job) = fun k => (S k).job) ∧ NewParks C g0 S S' := by
      intro Stop r r' g' w' W' es hr hlt' hst hm hh hsit'
      obtain ⟨hh, rfl⟩ := hh
      refine ⟨_, _, updR rk (C.m + k) (1, r'), S, w', go hst hh hm.rest, ?_, dec_upd hlt (by rw [hr]; exact .inr ⟨rfl, hlt'⟩), h00 _, ⟨hh, hm.rest⟩, rfl, fun _ h => .inl h⟩
      refine ms.other hi hlt hh hm.rest g_ofEvents (fun h => by omega) (fun k' hk' _ => ?_) (fun _ _ => rfl) (fun j hj => updR_ne rk _ hj) (fun _ => ?_) ?_
      · obtain rfl : k' = k := by omega
        rw [updR_same]; exact hsit'
      · rw [Deaf_own, ms.dw k hk]
        exact deafBehind_still (fun e he => ⟨(evc_cases (hm.ev e he)).2.1, (evc_cases (hm.ev e he)).2.2.1⟩) 0
      · have key : ∀ e ∈ es, ∀ x, (MemAct.ofEvent e).touch? = some x → x.kind = .plain ∧ x.write = false ∧ RdF C n (C.m + k) x.loc ∧ x.loc.isMemory = true := by
          intro e he x hx
          obtain ⟨hkd, a, ha, hwr, c, e', fr, hb, hne⟩ := (evc_cases (hm.ev e he)).2.2.2.2 x hx
          refine ⟨hkd, ?_, ⟨ms.on (by omega), by omega, a, ha, c, e', fr, hb, hne⟩, by rw [ha]; rfl⟩
          cases hxw : x.write with
          | false => rfl
          | true => exact absurd trivial (hwr hxw)
        refine ms.tr.appK (MS.apart ms.v0) hi (by omega) (ofEvents_ops fun e he => ⟨rfl, fun x hx => .inr (.inr ⟨(key e he x hx).2.2.1, (key e he x hx).2.1⟩)⟩) (ofEvents_ops fun e he => ?_) (ofEvents_ops fun e he => (evc_cases (hm.ev e he)).2.2.2.1)
          (ofEvents_ops fun e he => fun x hx => ⟨by omega, fun _ => ⟨by rw [(key e he x hx).1]; simp, (key e he x hx).2.2.2⟩⟩)
        have := (evc_cases (hm.ev e he)).1
        rw [hh] at this; exact this
    -- it parks
    have parks : ∀ {g' : Goroutine} {s' : Sit} {cs : Array CommCase} {sh : CommShape} {r : Rk}, rk (C.m + k) = (1, r) → stepG C.P false gi w = .comm gi cs true sh w #[] → (∀ cc ∈ cs, NoWays w (gs.setIfInBounds (C.m + k) ph) cc) →
        s'.job = (S k).job → SitOk C s' (parked gi cs sh) (0, .nil) → (((S k).job = none ∧ offersAt g0 C.T true = []) ∨ ((S k).job ≠ none ∧ offersAt g0 C.R false = [])) → ∃ gs' ops rk' S' w', runT C.P (crowd gs w sl) (C.m + k) = (.next (crowd gs' w' sl), ops) ∧ MS C n d X S' MV gs' w' (t ++ ops) rk' ∧ Dec gs.size rk' rk ∧ gs'[0]? = some g0 ∧ (w'.heap = w.heap ∧ w'.tape = w.tape ∧ w'.os = w.os ∧ w'.output = w.output) ∧ ((fun k => (S' k).job) = fun k => (S k).job) ∧ NewParks C g0 S S' := by
      intro g' s' cs sh r hr hst hno hjob hsit' hnp
      refine ⟨_, _, updR rk (C.m + k) (0, .nil), updS S k s', w, crowd_waits hgi (by rw [hi0]; exact hst) hno, ?_, dec_upd hlt (by rw [hr]; exact .inl (Nat.lt_succ_self 0)), h00 _, ⟨rfl, rfl, rfl, rfl⟩, updS_job S k s' hjob, fun k' hk' => ?_⟩
      rotate_left
      · by_cases e : k' = k
        · subst e; exact .inr hnp
        · rw [updS_ne S s' e] at hk'; exact .inl hk'
      have e : t ++ MemOp.ofEvents (C.m + k) gi.frame.fn gi.frame.place #[] = t := by simp [ofEvents_eq]
      have := ms.other (u := MemOp.ofEvents (C.m + k) gi.frame.fn gi.frame.place #[]) (g' := parked gi cs sh) (w' := w) (S' := updS S k s') (rk' := updR rk (C.m + k) (0, .nil)) hi hlt rfl ⟨rfl, rfl, rfl⟩ g_ofEvents (fun h => by omega) (fun k' hk' _ => by
        obtain rfl : k' = k := by omega
        rw [updR_same, updS_same]; exact hsit') (fun k' hk' => updS_ne S s' (by omega)) (fun j hj => updR_ne rk _ hj) (fun _ => by rw [e]; exact ms.dw k hk) (by rw [e]; exact ms.tr)
      exact this
    -- whoever is parked at a channel that is not goroutine 0
    have part : ∀ {c : Nat} {send : Bool} {j kj : Nat}, (c = C.T ∧ send = true) ∨ (c = C.R ∧ send = false) → (j, kj) ∈ partners (gs.setIfInBounds (C.m + k) ph) c send → kj ∈ offersAt g0 c send := by
      intro c send j kj hcs hm
      obtain ⟨x, hx, hkx⟩ := mem_partners.1 hm
      obtain ⟨hbl, cs, sh, cc, hof, hcc, hsd, hch⟩ := mem_offersAt hkx
      rcases getElem?_stand gs _ j x hx with ⟨_, rfl⟩ | ⟨hne, hxj⟩
      · simp [ph] at hbl
      · rcases Nat.eq_zero_or_pos j with rfl | hjp
        · rw [h0] at hxj; cases hxj; exact hkx
        · exfalso
          rcases ms.who hjp hxj with ⟨_, q, hq, _⟩ | ⟨k', hk', rfl, hs'⟩
          · rcases hq.status with h | h <;> rw [h] at hbl <;> cases hbl
          · by_cases hp : (S k').parked = false
            · rw [tree_run H hs' hp] at hbl; cases hbl
            · have hp' : (S k').parked = true := by simpa using hp
              unfold SitOk at hs'
              rw [hp'] at hs'
              match hj : (S k').job, hs' with
              | none, ⟨_, y, _, e⟩ =>
                rw [e] at hof
                simp only [parked, Option.some.injEq, Prod.mk.injEq] at hof
                obtain ⟨rfl, rfl⟩ := hof
                have : cc = rcase C.T C.zT := by
                  cases kj with
                  | zero => simpa using hcc.symm
                  | succ kj => simp at hcc
                subst this
                simp only [rcase, Option.isSome_none, Value.chan.injEq, Option.some.injEq] at hsd hch
                rcases hcs with ⟨_, h2⟩ | ⟨h1, _⟩
                · rw [← hsd] at h2; cases h2
                · exact H.ne (hch.trans h1)
              | some i', ⟨_, y, _, e⟩ =>
                rw [e] at hof
                simp only [parked, Option.some.injEq, Prod.mk.injEq] at hof
                obtain ⟨rfl, rfl⟩ := hof
                have : cc = scase C.R (C.res i') C.zS := by
                  cases kj with
                  | zero => simpa using hcc.symm
                  | succ kj => simp at hcc
                subst this
                simp only [scase, Option.isSome_some, Value.chan.injEq, Option.some.injEq] at hsd hch
                rcases hcs with ⟨h1, _⟩ | ⟨_, h2⟩
                · exact H.ne (hch.trans h1).symm
                · rw [← hsd] at h2; cases h2
    have nilOf : ∀ {c : Nat} {send : Bool}, partners (gs.setIfInBounds (C.m + k) ph) c send = [] → offersAt g0 c send = [] := by
      intro c send h
      apply List.eq_nil_iff_forall_not_mem.2
      intro kj hkj
      have : (0, kj) ∈ partners (gs.setIfInBounds (C.m + k) ph) c send := mem_partners.2 ⟨g0, by rw [Array.getElem?_setIfInBounds_ne (by omega)]; exact h0, hkj⟩
      rw [h] at this; cases this
    by_cases hp : (S k).parked = true
    · exfalso
      unfold SitOk at hsit
      rw [hp] at hsit
      match hj : (S k).job, hsit with
      | none, ⟨_, y, _, e⟩ => rw [e] at hrun; cases hrun
      | some i', ⟨_, y, _, e⟩ => rw [e] at hrun; cases hrun
    · have hp' : (S k).parked = false := by simpa using hp
      have hsit0 := hsit
      unfold SitOk at hsit
      rw [hp'] at hsit
      have emk : ∀ {r : Mk}, r.1 = 1 → r = (1, r.2) := fun {r} h => by rw [← h]
      match hj : (S k).job, hsit with
      | none, ⟨hm1, ht⟩ =>
        rcases tree_cases ht with hstop | ⟨_, hstep⟩
        · obtain ⟨_, hcm⟩ := H.recv_step gi hstop
          obtain ⟨a, b, hc⟩ := open_of ms.sim v.chT
          by_cases hpn : partners (gs.setIfInBounds (C.m + k) ph) C.T true = []
          · left
            refine parks (g' := gi) (s' := ⟨none, true⟩) (emk hm1) (hcm w) (fun cc hcc => ?_) hj.symm ⟨rfl, gi, hstop, rfl⟩ (.inl ⟨hj, nilOf hpn⟩)
            have : cc = rcase C.T C.zT := by simpa using hcc
            subst this
            exact ways_recv_none hc hpn
          · right; left
            obtain ⟨⟨j, kj⟩, hm⟩ := List.exists_mem_of_ne_nil _ hpn
            exact ⟨k, hk, rfl, hj, hstop, List.ne_nil_of_mem (part (.inl ⟨rfl, rfl⟩) hm)⟩
        · left
          obtain ⟨g', w', es, W', r', hlt', hst, hm, hs', hh, ht'⟩ := hstep w s0
          refine silent (Stop := C.RecvG) (emk hm1) hlt' hst hm (hh rfl) ?_
          unfold SitOk
          rw [hp', hj]
          have := (hh rfl).2
          subst this
          exact ⟨rfl, ht'⟩
      | some i', ⟨hm1, ht⟩ =>
        rcases tree_cases ht with hstop | ⟨_, hstep⟩
        · obtain ⟨_, hcm⟩ := H.send_step i' gi hstop
          obtain ⟨a, b, hc⟩ := open_of ms.sim v.chR
          by_cases hpn : partners (gs.setIfInBounds (C.m + k) ph) C.R false = []
          · left
            refine parks (g' := gi) (s' := ⟨some i', true⟩) (emk hm1) (hcm w) (fun cc hcc => ?_) hj.symm ⟨rfl, gi, hstop, rfl⟩ (.inr ⟨by rw [hj]; simp, nilOf hpn⟩)
            have : cc = scase C.R (C.res i') C.zS := by simpa using hcc
            subst this
            exact ways_send_none hc (by simp) hpn
          · right; right
            obtain ⟨⟨j, kj⟩, hm⟩ := List.exists_mem_of_ne_nil _ hpn
            exact ⟨k, i', hk, rfl, hj, hstop, List.ne_nil_of_mem (part (.inr ⟨rfl, rfl⟩) hm)⟩
        · left
          obtain ⟨g', w', es, W', r', hlt', hst, hm, hs', hh, ht'⟩ := hstep w s0
          refine silent (Stop := C.SendG i') (emk hm1) hlt' hst hm (hh rfl) ?_
          unfold SitOk
          rw [hp', hj]
          have := (hh rfl).2
          subst this
          exact ⟨rfl, ht'⟩
end
end Go.Cv
