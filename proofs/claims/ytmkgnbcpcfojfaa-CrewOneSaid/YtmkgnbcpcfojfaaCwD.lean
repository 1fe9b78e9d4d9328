/- Goroutine 0 beside workers: what follows from one of its steps; meetings; the loop that deals the jobs out. -/
import Derived.Test.YtmkgnbcpcfojfaaCwC
set_option linter.unusedVariables false
set_option linter.unusedSimpArgs false
namespace Go.Cv
open Go.Conc Go.ConcN

/-- From every state of the machine in which goroutine 0 stands as K says, the run ends well. -/
def JK (C : Wk) (n d : Nat) (X : Option Obj → Prop) (B : (Nat → Option Nat) → Prop) (MV : World) (K : Goroutine → World → Prop) : Prop :=
  ∀ g gs w sl t rk S, K g w → gs[0]? = some g → MS C n d X S MV gs w t rk → B (fun k => (S k).job) → Ev C.P C.Post (crowd gs w sl) t
def JM (C : Wk) (n d : Nat) (X : Option Obj → Prop) (B : (Nat → Option Nat) → Prop) (g : Goroutine) (MV : World) : Prop := JK C n d X B MV fun g' _ => g' = g

def Alike (w w' : World) : Prop := w'.heap = w.heap ∧ w'.tape = w.tape ∧ w'.os = w.os ∧ w'.output = w.output

section
variable {C : Wk} {N n d : Nat} {X : Option Obj → Prop} {S : Nat → Sit} {MV : World} {gs : Array Goroutine} {w : World} {t : Trace} {rk : Nat → Mk} {B : (Nat → Option Nat) → Prop}

theorem MS.at (ms : MS C n d X S MV gs w t rk) (e : Nat) : MS C n d X S MV gs (w.at e) t rk :=
  ⟨ms.size, ms.m1, ms.old, ms.wk, ms.sim.refl_at e, ms.x, ms.xh, ms.on, ms.v0, ms.tr, ms.dw, ms.d0⟩
theorem MS.awake (H : WkOk C N) (ms : MS C n d X S MV gs w t rk) {g0 : Goroutine} (h0 : gs[0]? = some g0) (ha : Go.Conc.awake g0) : ∀ g ∈ gs, Go.Conc.awake g := by
  intro g hg
  obtain ⟨i, hi, rfl⟩ := Array.mem_iff_getElem.1 hg
  rcases Nat.eq_zero_or_pos i with rfl | hpos
  · have : gs[0] = g0 := by simpa [Array.getElem?_eq_getElem hi] using h0
    rw [this]; exact ha
  · rcases ms.who hpos (Array.getElem?_eq_getElem hi) with ⟨_, q, hq, _⟩ | ⟨k, _, _, hs⟩
    · exact awake_of (hq.status.elim .inl fun x => .inr (.inr x))
    · exact sit_awake H hs

theorem jk_step (H : WkOk C N) {K : Goroutine → World → Prop} (hK : ∀ g w w', Alike w w' → K g w → K g w') (hrun : ∀ g w, K g w → g.status = .running)
    (h : ∀ g gs w sl t rk S, K g w → gs[0]? = some g → MS C n d X S MV gs w t rk → B (fun k => (S k).job) → ∃ m' ops, runT C.P (crowd gs w sl) 0 = (.next m', ops) ∧ Ev C.P C.Post m' (t ++ ops)) : JK C n d X B MV K := by
  intro g gs w sl t rk S hg h0 ms hB
  induction rk using (Dec.wf (C.m + n)).induction generalizing gs w sl t S with
  | _ rk ih =>
    have hr := hrun g w hg
    obtain ⟨i, gi, e, sl', hi, hgi, hst⟩ := crowd_pick (P := C.P) (w := w) (sl := sl) (ms.awake H h0 (awake_of (.inl hr))) ⟨0, g, h0, hr⟩
    have ms' := ms.at e
    rcases Nat.eq_zero_or_pos i with rfl | hpos
    · obtain ⟨m', ops, h1, h2⟩ := h g gs (w.at e) sl' t rk S (hK g w _ ⟨rfl, rfl, rfl, rfl⟩ hg) h0 ms' hB
      exact .next (hst.trans h1) h2
    · rcases ms'.others H (sl := sl') hpos hi hgi h0 (fun _ _ _ _ => woken_run hr) with ⟨gs', ops, rk', S', w', h1, h2, h3, h4, h5, h6, _⟩ | ⟨k, _, _, _, _, hne⟩ | ⟨k, j, _, _, _, _, hne⟩
      · exact .next (hst.trans h1) (ih rk' (by rw [ms.size] at h3; exact h3) gs' w' sl' _ S' (hK g _ _ h5 (hK g w _ ⟨rfl, rfl, rfl, rfl⟩ hg)) h4 h2 (by rw [h6]; exact hB))
      · exact absurd (offersAt_of_not_blocked (by rw [hr]; simp) _ _) hne
      · exact absurd (offersAt_of_not_blocked (by rw [hr]; simp) _ _) hne

/-- A silent step of goroutine 0's is no matter. -/
theorem jm_closed (H : WkOk C N) : Closed C.P C.ty false ⟨true, roC C n, JM C n d X B⟩ := by
  intro g MV hr h
  refine jk_step H (fun _ _ _ _ h => h) (fun g' _ e => e ▸ hr) fun g' gs w sl t rk S e h0 ms hB => ?_
  subst e
  obtain ⟨g', w', es, MV', hst, hm, hs', _, hJ⟩ := h w ms.sim
  obtain ⟨ops, h1, h2⟩ := ms.main_go H (sl := sl) h0 hst hm hs'
  have hlt : 0 < gs.size := (Array.getElem?_eq_some_iff.1 h0).1
  exact ⟨_, ops, h1, hJ g' _ _ _ _ _ _ rfl (by simp [hlt]) h2 hB⟩

/-! ### Meetings -/
theorem set_comm {α : Type} (a : Array α) {i j : Nat} (h : i ≠ j) (x y : α) : (a.setIfInBounds i x).setIfInBounds j y = (a.setIfInBounds j y).setIfInBounds i x := by
  apply Array.ext_getElem?
  intro k
  simp only [Array.getElem?_setIfInBounds, Array.size_setIfInBounds]
  by_cases h1 : i = k
  · have h2 : j ≠ k := by omega
    simp [h1, h2]
  · simp [h1]

theorem setChan_get (w : World) (c b : Nat) (o : Nat) (buf : Array Value) (cl : Bool) (s r : Nat) (tm : Bool) (h : b ≠ c) : (w.setChan c o buf cl s r tm).heap[b]? = w.heap[b]? := by
  simp only [World.setChan]; rw [Array.getElem?_setIfInBounds_ne (Ne.symm h)]

theorem MS.meet (H : WkOk C N) (ms : MS C n d X S MV gs w t rk) {k0 c s r dd : Nat} (hk : k0 < n) (hc : c = C.T ∨ c = C.R) (hh : w.heap[c]? = some (.chan 0 #[] false s r false)) {x y : Goroutine} {s' : Sit} {mk' : Mk}
    (hs' : SitOk C s' y mk') {u : Trace} (hu : ∀ op ∈ u, (op.g = 0 ∨ op.g = C.m + k0) ∧ MeetAct c op.act) :
    MS C n d X (updS S k0 s') MV ((gs.setIfInBounds (C.m + k0) y).setIfInBounds 0 x) ((w.at dd).setChan c 0 #[] false (s + 1) (r + 1) false) (t ++ u) (updR rk (C.m + k0) mk') := by
  have hm1 := ms.m1
  have v := ms.v0 (ms.on (by omega))
  have hMVc : MV.heap[c]? = some hidC := by rcases hc with rfl | rfl; exact v.chT; exact v.chR
  have hlc : c < w.heap.size := (Array.getElem?_eq_some_iff.1 hh).1
  have hsz : ((w.at dd).setChan c 0 #[] false (s + 1) (r + 1) false).heap.size = w.heap.size := by simp [World.setChan, World.at]
  have hget : ∀ b, b ≠ c → ((w.at dd).setChan c 0 #[] false (s + 1) (r + 1) false).heap[b]? = w.heap[b]? := fun b hb => setChan_get _ _ _ _ _ _ _ _ _ hb
  have hgc : ((w.at dd).setChan c 0 #[] false (s + 1) (r + 1) false).heap[c]? = some (.chan 0 #[] false (s + 1) (r + 1) false) := by
    simp only [World.setChan, World.at]; rw [Array.getElem?_setIfInBounds_self_of_lt hlc]
  have hWg : C.Wg ≠ c := by
    obtain ⟨fr, hf⟩ := v.wgb
    rintro rfl
    rw [hMVc] at hf; cases hf
  have hD : ∀ g, Deaf (t ++ u) g = Deaf t g := fun g => Deaf_still t g u fun op hop => ⟨meet_mark (hu op hop).2 _, meet_mark (hu op hop).2 _⟩
  refine ⟨by simp [ms.size], hm1, fun i z hi him hz => ?_, fun k hkn => ?_, ?_, by rw [hget _ hWg]; exact ms.x, ms.xh, ms.on, ms.v0, ?_, fun k hkn => by rw [hD]; exact ms.dw k hkn, by rw [hD]; exact ms.d0⟩
  · rw [Array.getElem?_setIfInBounds_ne (by omega), Array.getElem?_setIfInBounds_ne (by omega)] at hz
    obtain ⟨q, hq, hr⟩ := ms.old i z hi him hz
    exact ⟨q, by rw [hD]; exact hq, by rw [updR_ne rk _ (by omega)]; exact hr⟩
  · obtain ⟨z, hz, hsit⟩ := ms.wk k hkn
    by_cases e : k = k0
    · subst e
      refine ⟨y, ?_, by rw [updS_same, updR_same]; exact hs'⟩
      rw [Array.getElem?_setIfInBounds_ne (by omega), Array.getElem?_setIfInBounds_self_of_lt (Array.getElem?_eq_some_iff.1 hz).1]
    · refine ⟨z, ?_, by rw [updS_ne S s' e, updR_ne rk _ (by omega)]; exact hsit⟩
      rw [Array.getElem?_setIfInBounds_ne (by omega), Array.getElem?_setIfInBounds_ne (by omega)]; exact hz
  · refine ⟨by have := ms.sim.size; rw [hsz]; exact this, fun b o ho => ?_, ms.sim.tape, ms.sim.os, ms.sim.output⟩
    by_cases e : b = c
    · subst e
      rw [hMVc] at ho; cases ho
      obtain ⟨s', hs'⟩ := ms.sim.like b _ hMVc
      rw [hh] at hs'
      simp only [Option.some.injEq, Obj.chan.injEq, true_and, and_true] at hs'
      obtain ⟨rfl, rfl⟩ := hs'
      rw [hgc]; exact ⟨_, rfl⟩
    · rw [hget b e]; exact ms.sim.like b o ho
  · rw [hsz]
    exact ms.tr.meet (MS.apart ms.v0) hlc fun op hop => ⟨by rcases (hu op hop).1 with h | h <;> omega, (hu op hop).2⟩

/-- What a parked worker offers. -/
theorem sit_offers (H : WkOk C N) {s : Sit} {x : Goroutine} {mk : Mk} (h : SitOk C s x mk) (hb : x.status = .blocked) {cs : Array CommCase} {sh : CommShape} (ho : x.offers = some (cs, sh)) {kj : Nat} {cc : CommCase} (hcc : cs[kj]? = some cc) :
    (s.job = none ∧ ∃ y, C.RecvG y ∧ x = parked y #[rcase C.T C.zT] (.recv true) ∧ cs = #[rcase C.T C.zT] ∧ sh = .recv true ∧ kj = 0 ∧ cc = rcase C.T C.zT) ∨
    (∃ i, s.job = some i ∧ ∃ y, C.SendG i y ∧ x = parked y #[scase C.R (C.res i) C.zS] .send ∧ cs = #[scase C.R (C.res i) C.zS] ∧ sh = .send ∧ kj = 0 ∧ cc = scase C.R (C.res i) C.zS) := by
  by_cases hp : s.parked = false
  · rw [tree_run H h hp] at hb; cases hb
  · have hp' : s.parked = true := by simpa using hp
    unfold SitOk at h
    rw [hp'] at h
    have key : ∀ {c : CommCase}, (#[c] : Array CommCase)[kj]? = some cc → kj = 0 ∧ cc = c := by
      intro c hc
      cases kj with
      | zero => exact ⟨rfl, by simpa using hc.symm⟩
      | succ kj => simp at hc
    match hj : s.job, h with
    | none, ⟨_, y, hy, e⟩ =>
      rw [e] at ho
      simp only [parked, Option.some.injEq, Prod.mk.injEq] at ho
      obtain ⟨rfl, rfl⟩ := ho
      obtain ⟨rfl, rfl⟩ := key hcc
      exact .inl ⟨rfl, y, hy, e, rfl, rfl, rfl, rfl⟩
    | some i, ⟨_, y, hy, e⟩ =>
      rw [e] at ho
      simp only [parked, Option.some.injEq, Prod.mk.injEq] at ho
      obtain ⟨rfl, rfl⟩ := ho
      obtain ⟨rfl, rfl⟩ := key hcc
      exact .inr ⟨i, rfl, y, hy, e, rfl, rfl, rfl, rfl⟩
theorem served_recv (P : Program) (y : Goroutine) (cs : Array CommCase) (f : Bool) (v : Value) (ok : Bool) (k : Int) : y.finishComm P cs (.recv f) k v ok = Go.Conc.served y (recvd f v ok) := finishComm_recv P y cs f k v ok
end
end Go.Cv
