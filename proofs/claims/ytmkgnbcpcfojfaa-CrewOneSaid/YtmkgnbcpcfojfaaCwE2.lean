/- The loop that deals the jobs out to one worker that turns the memory. -/
import Derived.Test.YtmkgnbcpcfojfaaCwC3
set_option linter.unusedVariables false
set_option linter.unusedSimpArgs false
namespace Go.Cv
open Go.Conc Go.ConcN

section
variable {C : Wk} {N : Nat} {SelP : Goroutine → Prop} {Pm : Goroutine → Mk → Prop} {X : Option Obj → Prop} {MV : World} {gs : Array Goroutine} {w : World} {t u : Trace} {rk : Nat → Mk} {S : Nat → Sit}

/-- The memory behind a meeting. -/
theorem sim_met {c s dd : Nat} (ms : Sim C.ty false MV w) (hMVc : MV.heap[c]? = some hidC) (hh : w.heap[c]? = some (.chan 0 #[] false s s false)) :
    Sim C.ty false MV ((w.at dd).setChan c 0 #[] false (s + 1) (s + 1) false) := by
  have hlc : c < w.heap.size := (Array.getElem?_eq_some_iff.1 hh).1
  have hsz : ((w.at dd).setChan c 0 #[] false (s + 1) (s + 1) false).heap.size = w.heap.size := by simp [World.setChan, World.at]
  have hget : ∀ b, b ≠ c → ((w.at dd).setChan c 0 #[] false (s + 1) (s + 1) false).heap[b]? = w.heap[b]? := fun b hb => setChan_get _ _ _ _ _ _ _ _ _ hb
  have hgc : ((w.at dd).setChan c 0 #[] false (s + 1) (s + 1) false).heap[c]? = some (.chan 0 #[] false (s + 1) (s + 1) false) := by
    simp only [World.setChan, World.at]; rw [Array.getElem?_setIfInBounds_self_of_lt hlc]
  refine ⟨by have := ms.size; rw [hsz]; exact this, fun b o ho => ?_, ms.tape, ms.os, ms.output⟩
  by_cases e : b = c
  · subst e
    rw [hMVc] at ho; cases ho
    rw [hgc]; exact ⟨_, rfl⟩
  · rw [hget b e]; exact ms.like b o ho
theorem like_eq {c s r : Nat} (ms : Sim C.ty false MV w) (hMVc : MV.heap[c]? = some hidC) (hh : w.heap[c]? = some (.chan 0 #[] false s r false)) : s = r := by
  obtain ⟨s', hs'⟩ := ms.like c _ hMVc
  rw [hh] at hs'
  simp only [Option.some.injEq, Obj.chan.injEq, true_and, and_true] at hs'
  obtain ⟨rfl, rfl⟩ := hs'
  rfl
theorem deaf_met {c : Nat} (hu : ∀ op ∈ u, (op.g = 0 ∨ op.g = C.m) ∧ MeetAct c op.act) (g : Nat) : Deaf (t ++ u) g = Deaf t g := Deaf_still t g u fun op hop => ⟨meet_mark (hu op hop).2 _, meet_mark (hu op hop).2 _⟩

/-- A job is handed over: the worker is active. -/
theorem MS.hand (ms : MS C 1 0 X S MV gs w t rk) {s r dd : Nat} (hh : w.heap[C.T]? = some (.chan 0 #[] false s r false)) {x y : Goroutine} {mk' : Mk} (hP : Pm x mk')
    (hu : ∀ op ∈ u, (op.g = 0 ∨ op.g = C.m) ∧ MeetAct C.T op.act) (hmet : Met C.T s r 0 C.m u) :
    MSB C Pm X MV ((gs.setIfInBounds C.m y).setIfInBounds 0 x) ((w.at dd).setChan C.T 0 #[] false (s + 1) (r + 1) false) (t ++ u) (updR rk 0 mk') := by
  have hm1 := ms.m1
  have v := ms.v0 (ms.on (by omega))
  obtain rfl := like_eq ms.sim v.chT hh
  have hlc : C.T < w.heap.size := (Array.getElem?_eq_some_iff.1 hh).1
  have hsz : ((w.at dd).setChan C.T 0 #[] false (s + 1) (s + 1) false).heap.size = w.heap.size := by simp [World.setChan, World.at]
  have hWg : C.Wg ≠ C.T := by
    obtain ⟨fr, hf⟩ := v.wgb
    intro e
    rw [e, v.chT] at hf; cases hf
  have hD := deaf_met (t := t) hu
  have hlt0 : 0 < gs.size := by have := ms.size; omega
  refine ⟨by simp [ms.size], hm1, ms.on (by omega), fun i z hi him hz => ?_, ⟨x, by simp [hlt0], by rw [updR_same]; exact hP⟩, sim_met ms.sim v.chT hh, ?_, v, ?_, by rw [hD]; exact ms.dw 0 (by omega), by rw [hD]; exact ms.d0⟩
  · rw [Array.getElem?_setIfInBounds_ne (by omega), Array.getElem?_setIfInBounds_ne (by omega)] at hz
    obtain ⟨q, hq, hr⟩ := ms.old i z hi him hz
    exact ⟨q, by rw [hD]; exact hq, by rw [updR_ne rk _ (by omega)]; exact hr⟩
  · rw [setChan_get _ _ _ _ _ _ _ _ _ hWg]; exact ms.x
  · rw [hsz]
    refine TR.hand (Rd := RdF C 1) (MS.apart ms.v0) ms.tr hm1 (fun k l _ _ hl => ⟨hl.1, Nat.le_refl _, hl.2.2⟩) hlc hmet (.inl ⟨rfl, rfl⟩) ms.d0 (ms.dw 0 (by omega)) fun op hop => ⟨by rcases (hu op hop).1 with h | h <;> omega, (hu op hop).2⟩
/-- A result is handed over: goroutine 0 is active. -/
theorem MSB.back (ms : MSB C Pm X MV gs w t rk) {s r dd : Nat} (hh : w.heap[C.R]? = some (.chan 0 #[] false s r false)) {x y : Goroutine} {r' : Rk} (hy : C.tree C.RecvG r' y C.W0)
    (hu : ∀ op ∈ u, (op.g = 0 ∨ op.g = C.m) ∧ MeetAct C.R op.act) (hmet : Met C.R s r C.m 0 u) :
    MS C 1 0 X (fun _ => ⟨none, false⟩) MV ((gs.setIfInBounds C.m y).setIfInBounds 0 x) ((w.at dd).setChan C.R 0 #[] false (s + 1) (r + 1) false) (t ++ u) (updR rk C.m (1, r')) := by
  have hm1 := ms.m1
  have v := ms.v0
  obtain rfl := like_eq ms.sim v.chR hh
  have hlc : C.R < w.heap.size := (Array.getElem?_eq_some_iff.1 hh).1
  have hsz : ((w.at dd).setChan C.R 0 #[] false (s + 1) (s + 1) false).heap.size = w.heap.size := by simp [World.setChan, World.at]
  have hWg : C.Wg ≠ C.R := by
    obtain ⟨fr, hf⟩ := v.wgb
    intro e
    rw [e, v.chR] at hf; cases hf
  have hD := deaf_met (t := t) hu
  have hlt0 : C.m < gs.size := by have := ms.size; omega
  have hap : Apart (ShW C.ty MV) Non (RdF C 1) := MS.apart fun _ => v
  refine ⟨by simp [ms.size], hm1, fun i z hi him hz => ?_, fun k hk => ?_, sim_met ms.sim v.chR hh, ?_, .inl (by obtain ⟨fr, hf⟩ := v.wgb; rw [hf]; rfl), fun _ => ms.on, fun _ => v, ?_, fun k hk => ?_, by rw [hD]; exact ms.d0⟩
  · rw [Array.getElem?_setIfInBounds_ne (by omega), Array.getElem?_setIfInBounds_ne (by omega)] at hz
    obtain ⟨q, hq, hr⟩ := ms.old i z hi him hz
    exact ⟨q, by rw [hD]; exact hq, by rw [updR_ne rk _ (by omega)]; exact hr⟩
  · obtain rfl : k = 0 := by omega
    refine ⟨y, ?_, ?_⟩
    · rw [Nat.add_zero, Array.getElem?_setIfInBounds_ne (by omega), Array.getElem?_setIfInBounds_self_of_lt hlt0]
    · rw [Nat.add_zero, updR_same]
      exact ⟨rfl, hy⟩
  · rw [setChan_get _ _ _ _ _ _ _ _ _ hWg]; exact ms.x
  · rw [hsz]
    exact TRB.back (Rd := RdF C 1) ms.tr hm1 (fun k l _ hkm hl => Nat.le_antisymm hkm hl.2.1) (fun l hl => hap.rdSh C.m l hl) hlc hmet (.inr ⟨rfl, rfl⟩) ms.d0 ms.dw fun op hop => ⟨by rcases (hu op hop).1 with h | h <;> omega, (hu op hop).2⟩
  · obtain rfl : k = 0 := by omega
    rw [hD]; exact ms.dw

/-- What goroutine 0 and the one worker do. -/
structure OneOk (C : Wk) (N : Nat) where
  SelG : Nat → Nat → Nat → Int → Goroutine → Prop
  ExitG : Nat → Int → Goroutine → Prop
  Inv : Nat → Nat → Int → World → Prop
  Inw : Nat → Nat → Int → World → Prop
  zE : Value
  zR : Value
  step : ∀ {a b e c g}, SelG a b e c g → g.status = .running ∧ ∀ w, stepG C.P true g w = .comm g (selCases C a e zE zR) true .select w #[]
  gave : ∀ {a e c g}, SelG a 0 e c g → a < e → e ≤ N → TreeJ C.P C.ty true true (fun _ => True) (fun g' _ => SelG (a + 1) 1 e c g') (Go.Conc.served g (.tuple #[goInt 0, .bool false, zR])) C.W0
  work : ∀ {a e c y MV}, C.RecvG y → Inv a e c MV → View0 C MV → a < N → ∀ co : Co, Closed C.P C.ty false co → co.main = false → co.ro = roC C 1 → (∀ y' MV', C.SendG a y' → Inw a e c MV' → co.J y' MV') →
    co.J (Go.Conc.served y (.tuple #[.int .i64 a, .bool true])) MV
  got : ∀ {a e c g MV}, SelG (a + 1) 1 e c g → Inw a e c MV → View0 C MV → a < e → e ≤ N → ∀ co : Co, Closed C.P C.ty false co → co.main = true → co.ro = roC C 1 →
    (∀ g' MV' e' c', Inv (a + 1) e' c' MV' → e' ≤ e → (a + 1 < e' → SelG (a + 1) 0 e' c' g') → (¬ a + 1 < e' → ExitG e' c' g') → co.J g' MV') → co.J (Go.Conc.served g (.tuple #[goInt 1, .bool true, C.res a])) MV

theorem one_loop (H : WkOk C 0) (M : OneOk C N)
    (exit : ∀ {a e c g MV}, M.ExitG e c g → M.Inv a e c MV → e ≤ a → a ≤ N → JM C 1 0 X (fun job => ∀ k, k < 1 → job k = none) g MV) :
    ∀ (μ : Nat) {a e : Nat} {c : Int} {g : Goroutine} {MV : World}, N - a ≤ μ → a < e → e ≤ N → M.SelG a 0 e c g → M.Inv a e c MV → JM C 1 0 X (fun job => ∀ k, k < 1 → job k = none) g MV := by
  intro μ
  induction μ with
  | zero => intro a e c g MV h1 h2 h3; omega
  | succ μ ih =>
  intro a e c g MV hμ hae heN hS hI
  obtain ⟨hrun, hcm⟩ := M.step hS
  have hB : ∀ job : Nat → Option Nat, (∀ k, k < 1 → job k = none) ↔ Bz 1 a 0 (fun i => i < a) job := fun job => by
    constructor
    · intro h
      refine ⟨?_, ⟨fun k hk i hi => (by rw [h k hk] at hi; cases hi), fun i hi => .inl hi⟩⟩
      simp [sumTo, h 0 (by omega), one?]
    · rintro ⟨h1, _, _⟩ k hk
      obtain rfl : k = 0 := by omega
      cases hj : job 0 with
      | none => rfl
      | some i => simp [sumTo, hj, one?] at h1
  have key : JM C 1 0 X (Bz 1 a 0 fun i => i < a) g MV := by
    refine sel_at H (.inl hae) (fun _ => Nat.one_pos) hrun hcm (fun gs w sl t u rk S k0 s r dd y ms hBz h0s hk hj hy hae hh hu hmet => ?_) fun gs w sl t u rk S k0 i0 s r dd y ms hBz h0s hk hj => ?_
    · -- a job is given
      obtain rfl : k0 = 0 := by omega
      obtain ⟨r', ht⟩ := M.gave hS hae heN
      have D : Side C (fun g' => M.SelG (a + 1) 1 e c g') (selCases C (a + 1) e M.zE M.zR) := ⟨fun g' h => (M.step h).1, fun g' h => (M.step h).2⟩
      have v := ms.v0 (ms.on (by omega))
      have msB := ms.hand (Pm := PmS C (fun g' => M.SelG (a + 1) 1 e c g') (selCases C (a + 1) e M.zE M.zR)) (dd := dd) (x := Go.Conc.served g (.tuple #[goInt 0, .bool false, M.zR])) (y := Go.Conc.served y (.tuple #[.int .i64 a, .bool true])) (mk' := (1, r')) hh (.inl ⟨rfl, ht⟩) hu hmet
      have hJ := M.work hy hI v (by omega) ⟨false, roC C 1, JW C (PmS C (fun g' => M.SelG (a + 1) 1 e c g') (selCases C (a + 1) e M.zE M.zR)) X⟩ (jw_closed D) rfl rfl fun y' MV' hs hIw => by
        intro g1 gs1 w1 sl1 t1 rk1 e1 hg1 ms1
        subst e1
        refine jw_stop D (res := C.res a) (SendP := C.SendG a) H.ne (fun g hg => H.send_step a g hg) (fun gs2 w2 sl2 t2 u2 rk2 s2 r2 dd2 y2 g2 ms2 hy2 hg2 hh2 hu2 hmet2 => ?_) _ gs1 w1 sl1 t1 rk1 hs hg1 ms1
        obtain ⟨r3, ht3⟩ := H.send_next a y2 hy2
        have msA := ms2.back (dd := dd2) (x := Go.Conc.served g2 (.tuple #[goInt 1, .bool true, C.res a])) hh2 ht3 hu2 hmet2
        have hJ2 := M.got hg2 hIw ms2.v0 hae heN ⟨true, roC C 1, JM C 1 0 X (fun job => ∀ k, k < 1 → job k = none)⟩ (jm_closed H) rfl rfl fun g' MV2 e' c' hI' he' h1 h2 => by
          by_cases hx : a + 1 < e'
          · exact ih (by omega) hx (by omega) (h1 hx) hI'
          · exact exit (h2 hx) hI' (by omega) (by omega)
        have hlt0 : 0 < gs2.size := by have := ms2.size; have := ms2.m1; omega
        exact hJ2 _ _ _ sl2 _ _ _ rfl (by simp [hlt0]) msA fun k hk => rfl
      have hm1 := ms.m1
      have hltm : C.m < gs.size := by have := ms.size; omega
      exact hJ _ _ _ sl _ _ rfl (by rw [Nat.add_zero, Array.getElem?_setIfInBounds_ne (by omega), Array.getElem?_setIfInBounds_self_of_lt hltm]) msB
    · -- no result can come
      exfalso
      obtain rfl : k0 = 0 := by omega
      have h1 := (hB _).2 hBz 0 (by omega)
      rw [h1] at hj; cases hj
  intro g' gs w sl t rk S hg h0 ms hb
  exact key g' gs w sl t rk S hg h0 ms ((hB _).1 hb)
end
end Go.Cv
