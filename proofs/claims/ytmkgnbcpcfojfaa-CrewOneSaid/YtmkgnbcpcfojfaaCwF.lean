/- Goroutine 0 in the library's Add while workers are started; the go statement. -/
import Derived.Test.YtmkgnbcpcfojfaaCwE
import Derived.Test.YtmkgnbcpcfojfaaCwW
set_option linter.unusedVariables false
set_option linter.unusedSimpArgs false
namespace Go.Cv
open Go.Conc Go.ConcN
open Go.ConcR (KK wgBlock WgAt stA smA rd mk Bk DC0)

/-! ### What the library lists -/
def LibEv (Wg : Nat) (e : Event) : Prop := Bk Wg e ∨ e = mk (.read (smA Wg)) ∨ e = mk (.write (smA Wg)) ∨ e = mk (.acquire (stA Wg))
theorem lib_cell {Wg : Nat} (a : Addr) (x : Bool) (h : a.block = Wg) : LibEv Wg ⟨.cell a, x, true⟩ := .inl (.inr (.inr ⟨a, x, rfl, h⟩))
theorem lib_cases {Wg : Nat} {e : Event} (h : LibEv Wg e) {B : Nat} (hB : Wg < B) :
    (MemAct.ofEvent e).low B ∧ (∀ a, MemAct.ofEvent e ≠ .mark (.release a)) ∧ ∀ x, (MemAct.ofEvent e).touch? = some x → x.kind ≠ .plain ∧ ∃ a, x.loc = .cell a ∧ a.block = Wg := by
  rcases h with (h | h | ⟨a, wr, rfl, ha⟩) | rfl | rfl | rfl
  · obtain ⟨loc, x, y⟩ := e
    simp only at h; subst h
    have : MemAct.ofEvent ⟨.mark .disable, x, y⟩ = .mark .disable := by cases x <;> cases y <;> rfl
    rw [this]; exact ⟨trivial, by simp, fun x hx => by simp [MemAct.touch?] at hx⟩
  · obtain ⟨loc, x, y⟩ := e
    simp only at h; subst h
    have : MemAct.ofEvent ⟨.mark .enable, x, y⟩ = .mark .enable := by cases x <;> cases y <;> rfl
    rw [this]; exact ⟨trivial, by simp, fun x hx => by simp [MemAct.touch?] at hx⟩
  · have : MemAct.ofEvent ⟨.cell a, wr, true⟩ = .access ⟨.cell a, wr, true⟩ := by cases wr <;> rfl
    rw [this]
    refine ⟨by show a.block < B; omega, by simp, fun x hx => ?_⟩
    simp only [MemAct.touch?, Option.some.injEq] at hx; subst hx
    exact ⟨by simp, a, rfl, ha⟩
  · refine ⟨hB, by simp [mk, MemAct.ofEvent], fun x hx => ?_⟩
    simp only [mk, MemAct.ofEvent, MemAct.touch?, Option.some.injEq] at hx; subst hx
    exact ⟨by simp, _, rfl, rfl⟩
  · refine ⟨hB, by simp [mk, MemAct.ofEvent], fun x hx => ?_⟩
    simp only [mk, MemAct.ofEvent, MemAct.touch?, Option.some.injEq] at hx; subst hx
    exact ⟨by simp, _, rfl, rfl⟩
  · exact ⟨hB, by simp [mk, MemAct.ofEvent], fun x hx => by simp [mk, MemAct.ofEvent, MemAct.touch?] at hx⟩

/-- The virtual world knows the group's block as such. -/
def WgV (C : Wk) (MV : World) : Prop := ∃ fr, MV.heap[C.Wg]? = some (.cells #[] C.ty fr)
theorem WgV.live {C : Wk} {MV w : World} {ext : Bool} (h : WgV C MV) (s : Sim C.ty ext MV w) : ∃ x y : Int, w.heap[C.Wg]? = some (.cells #[.int .u64 x, .int .u32 y] C.ty (0, 0)) := by
  obtain ⟨fr, hf⟩ := h
  have := s.like _ _ hf
  simp only [Like, if_true] at this
  exact this.2
theorem WgV.wlive {C : Wk} {MV w : World} {ext : Bool} (h : WgV C MV) (s : Sim C.ty ext MV w) : WgLive C.ty C.Wg w := by
  obtain ⟨x, y, e⟩ := h.live s
  exact ⟨x, y, e⟩
/-- The group's block alone has turned. -/
theorem WgV.sim {C : Wk} {MV w w' : World} {ext : Bool} (h : WgV C MV) (s : Sim C.ty ext MV w) (ha : Aside C.Wg w w') (hl : WgLive C.ty C.Wg w') : Sim C.ty ext MV w' := by
  obtain ⟨fr, hf⟩ := h
  refine ⟨by rw [ha.size]; exact s.size, fun b o ho => ?_, ha.tape.trans s.tape, ha.os.trans s.os, ha.output.trans s.output⟩
  by_cases e : b = C.Wg
  · subst e
    rw [hf] at ho; cases ho
    obtain ⟨st, sm, hw⟩ := hl
    simp only [Like, if_true]
    exact ⟨trivial, st, sm, hw⟩
  · rw [ha.block b e]; exact s.like b o ho

section
variable {C : Wk} {N n d : Nat} {X X' : Option Obj → Prop} {S : Nat → Sit} {MV : World} {gs : Array Goroutine} {w : World} {t : Trace} {rk : Nat → Mk} {B : (Nat → Option Nat) → Prop}

/-- A step of goroutine 0's in the library: at most the group's block turns. -/
theorem MS.main_lib (H : WkOk C N) (ms : MS C n d X S MV gs w t rk) (hv : WgV C MV) {sl : Option (Nat × Nat)} {g g' : Goroutine} {w' : World} {es : Array Event} (h0 : gs[0]? = some g) (hst : stepG C.P true g w = .go g' w' es)
    (ha : Aside C.Wg w w') (hl : WgLive C.ty C.Wg w') (hes : ∀ e ∈ es, LibEv C.Wg e) (hx : X' w'.heap[C.Wg]?) :
    ∃ ops, runT C.P (crowd gs w sl) 0 = (.next (crowd (gs.setIfInBounds 0 g') w' sl), ops) ∧ MS C n (deafBehind d es) X' S MV (gs.setIfInBounds 0 g') w' (t ++ ops) rk := by
  have hs' := hv.sim ms.sim ha hl
  have hfix : (gs.map (woken C.P g g' w')).setIfInBounds 0 g' = gs.setIfInBounds 0 g' := map_set_fix fun j x hj hx => ms.wkFix H (fun hn => ⟨MV, hs', ms.v0 hn⟩) (Nat.pos_of_ne_zero hj) hx
  have hrun := runT_crowd_go (P := C.P) (sl := sl) (i := 0) h0 (show stepG C.P (0 == 0) g w = _ from hst)
  rw [hfix] at hrun
  refine ⟨_, hrun, ?_⟩
  have hm1 := ms.m1
  have hD : ∀ g', g' ≠ 0 → Deaf (t ++ MemOp.ofEvents 0 g.frame.fn g.frame.place es) g' = Deaf t g' := fun g' hg' => Deaf_other t (Ne.symm hg') _ g_ofEvents
  have hlt : C.Wg < w.heap.size := by
    obtain ⟨x, y, e⟩ := hv.live ms.sim
    exact (Array.getElem?_eq_some_iff.1 e).1
  refine ⟨by simp [ms.size], ms.m1, fun i x hi him hx => ?_, fun k hk => ?_, hs', hx, .inl ?_, ms.on, ms.v0, ?_, fun k hk => ?_, ?_⟩
  · rw [Array.getElem?_setIfInBounds_ne (by omega)] at hx
    obtain ⟨q, hq, hr⟩ := ms.old i x hi him hx
    exact ⟨q, by rw [hD i (by omega)]; exact hq, hr⟩
  · obtain ⟨x, hx, hsit⟩ := ms.wk k hk
    exact ⟨x, by rw [Array.getElem?_setIfInBounds_ne (by omega)]; exact hx, hsit⟩
  · obtain ⟨fr, hf⟩ := hv; rw [hf]; rfl
  · rw [ha.size]
    refine ms.tr.app0 (MS.apart ms.v0) (ofEvents_ops fun e he => ⟨rfl, fun x hx => ?_⟩) (ofEvents_ops fun e he => (lib_cases (hes e he) hlt).1) (ofEvents_ops fun e he => (lib_cases (hes e he) hlt).2.1)
    obtain ⟨hk, a, hxa, hab⟩ := (lib_cases (hes e he) hlt).2.2 x hx
    obtain ⟨fr, hf⟩ := hv
    exact .inl ⟨⟨a, hxa, #[], fr, by rw [hab]; exact hf⟩, hk⟩
  · rw [hD _ (by omega)]; exact ms.dw k hk
  · rw [Deaf_own, ms.d0]

theorem aside_st (Wg : Nat) (w : World) (v : Value) : Aside Wg w (w.setCell (stA Wg) v) := aside_setCell w (stA Wg) v
theorem aside_sm (Wg : Nat) (w : World) (v : Value) : Aside Wg w (w.setCell (smA Wg) v) := aside_setCell w (smA Wg) v
theorem rl_alike {ty Wg : Nat} {w w' : World} (h : Alike w w') : RL ty Wg w w' := fun ⟨st, sm, hw⟩ => ⟨st, sm, by unfold WgAt; rw [h.1]; exact hw⟩
theorem rl_trans {ty Wg : Nat} (a b c : World) (h : RL ty Wg a b) (h' : RL ty Wg b c) : RL ty Wg a c := h' ∘ h
theorem jk_mono {K K' : Goroutine → World → Prop} (h : ∀ g w, K g w → K' g w) (hj : JK C n d X B MV K') : JK C n d X B MV K := fun g gs w sl t rk S hg => hj g gs w sl t rk S (h g w hg)

def Sta (ty Wg : Nat) (Stop : Goroutine → World → Prop) (g : Goroutine) (w : World) : Prop := ∀ w₁, RL ty Wg w w₁ → Stop g w₁
theorem sta_alike {ty Wg : Nat} {Stop : Goroutine → World → Prop} (g : Goroutine) (w w' : World) (h : Alike w w') (hs : Sta ty Wg Stop g w) : Sta ty Wg Stop g w' := fun w₁ h₁ => hs w₁ (rl_trans _ _ _ (rl_alike h) h₁)

/-- Its idle way to a stop. -/
theorem jk_gos (H : WkOk C N) (hv : WgV C MV) {Stop : Goroutine → World → Prop} (hS : JK C n d X B MV (Sta C.ty C.Wg Stop)) : ∀ f, JK C n d X B MV (fun g w => Gos C.P true C.ty C.Wg Stop f g w)
  | 0 => fun g gs w sl t rk S hg => hS g gs w sl t rk S hg
  | f + 1 => by
    intro g gs w sl t rk S hg h0 ms hB
    rcases hg with hg | hg
    · exact hS g gs w sl t rk S hg h0 ms hB
    · refine jk_step (K := fun g w => g.status = .running ∧ ∀ w₁, RL C.ty C.Wg w w₁ → (stepG C.P true g w₁).goes fun g' w' es => DC0 w₁ w' es ∧ Gos C.P true C.ty C.Wg Stop f g' w') H
        (fun g w w' ha h => ⟨h.1, fun w₁ h₁ => h.2 w₁ (rl_trans _ _ _ (rl_alike ha) h₁)⟩) (fun g w h => h.1) (fun g gs w sl t rk S hg h0 ms hB => ?_) g gs w sl t rk S hg h0 ms hB
      obtain ⟨g', w', es, hst, ⟨rfl, rfl⟩, hg'⟩ := goes_elim (hg.2 w id)
      obtain ⟨ops, h1, h2⟩ := ms.main_lib H hv (sl := sl) (X' := X) h0 hst (.refl _ _) (hv.wlive ms.sim) (by simp) ms.x
      have hlt : 0 < gs.size := (Array.getElem?_eq_some_iff.1 h0).1
      exact ⟨_, ops, h1, jk_gos H hv hS f g' _ _ _ _ _ _ hg' (by simp [hlt]) h2 hB⟩

/-- It stands at a word. -/
theorem jk_mk (H : WkOk C N) (hv : WgV C MV) {m : Mark} {Next : Goroutine → World → Prop} (hm : LibEv C.Wg (mk m)) (hS : JK C n (deafBehind d #[mk m]) X B MV (Sta C.ty C.Wg Next)) : JK C n d X B MV (Sta C.ty C.Wg (AtMk C.P true C.ty C.Wg m Next)) := by
  refine jk_step H sta_alike (fun g w h => (h w id).1) fun g gs w sl t rk S hg h0 ms hB => ?_
  obtain ⟨hr, g', hst, f, hg⟩ := hg w id
  obtain ⟨ops, h1, h2⟩ := ms.main_lib H hv (sl := sl) (X' := X) h0 hst (.refl _ _) (hv.wlive ms.sim) (fun e he => by simp at he; exact he ▸ hm) ms.x
  have hlt : 0 < gs.size := (Array.getElem?_eq_some_iff.1 h0).1
  exact ⟨_, ops, h1, jk_gos H hv hS f g' _ _ _ _ _ _ hg (by simp [hlt]) h2 hB⟩

def XW (C : Wk) (v : Nat) : Option Obj → Prop := fun o => o = some (wgBlock C.ty ((v : Int) * KK) 0)
/-- The atomic add of +1. -/
theorem jk_add (H : WkOk C N) (hv : WgV C MV) {v : Nat} (hvn : v < 2147483647) {Next Next1 : Goroutine → World → Prop} (h1 : v = 0 → JK C n d (XW C (v + 1)) B MV (Sta C.ty C.Wg Next1)) (h2 : v ≠ 0 → JK C n d (XW C (v + 1)) B MV (Sta C.ty C.Wg Next)) :
    JK C n d (XW C v) B MV (Sta C.ty C.Wg (AtAdd C.P C.ty C.Wg Next Next1)) := by
  refine jk_step H sta_alike (fun g w h => (h w id).1) fun g gs w sl t rk S hg h0 ms hB => ?_
  have hat : WgAt C.ty C.Wg w ((v : Int) * KK) 0 := ms.x
  obtain ⟨g', hst, hg1, hg2⟩ := (hg w id).2 v hvn hat
  have hat' := hat.setSt ((v + 1) * KK)
  have hd : deafBehind d #[rd (stA C.Wg), Go.ConcR.wr (stA C.Wg)] = d := rfl
  obtain ⟨ops, e1, e2⟩ := ms.main_lib H hv (sl := sl) (X' := XW C (v + 1)) h0 hst (aside_st _ _ _) ⟨_, _, hat'⟩ (fun e he => by
    simp at he
    rcases he with rfl | rfl <;> exact lib_cell _ _ rfl) (by
    have : ((v : Int) + 1) = ((v + 1 : Nat) : Int) := by omega
    rw [this] at hat' ⊢; exact hat')
  rw [hd] at e2
  have hlt : 0 < gs.size := (Array.getElem?_eq_some_iff.1 h0).1
  refine ⟨_, ops, e1, ?_⟩
  by_cases hz : v = 0
  · obtain ⟨f, hg⟩ := hg1 hz
    exact jk_gos H hv (h1 hz) f g' _ _ _ _ _ _ hg (by simp [hlt]) e2 hB
  · obtain ⟨f, hg⟩ := hg2 hz
    exact jk_gos H hv (h2 hz) f g' _ _ _ _ _ _ hg (by simp [hlt]) e2 hB

/-- 'crew.Add(1)'. -/
theorem jm_add1 (H : WkOk C N) {L : Go.Conc.Lib.WgLink} (HL : Go.Conc.Lib.WgLib C.P L) (hty : C.ty = L.tWg) (hv : WgV C MV) {v : Nat} (hvn : v < 2147483647) {b₀ : Frame} {a₀ : Act} {ops₀ : Array Oper} {i₀ : Nat} {rest₀ : List Nat} {k₀ : List Item} {cs : List Frame}
    (h : JM C n 0 (XW C (v + 1)) B (G (b₀.at (a₀.put ((ops₀[i₀]?).bind (·.dst)) (.tuple #[])) (.inRegion ops₀ rest₀ :: k₀)) cs) MV) :
    JM C n 0 (XW C v) B (G (Frame.enter C.P L.add #[.pointer (some ⟨C.Wg, 0, none⟩), .int .i64 1] .normal) (b₀.at a₀ (.inRegion ops₀ (i₀ :: rest₀) :: k₀) :: cs)) MV := by
  have hret : JK C n 0 (XW C (v + 1)) B MV (Sta C.ty C.Wg fun g _ => g = G (b₀.at (a₀.put ((ops₀[i₀]?).bind (·.dst)) (.tuple #[])) (.inRegion ops₀ rest₀ :: k₀)) cs) := jk_mono (fun g w hg => hg w id) h
  have hen : JK C n 1 (XW C (v + 1)) B MV (Sta C.ty C.Wg (AtMk C.P true C.ty C.Wg .enable fun g _ => g = G (b₀.at (a₀.put ((ops₀[i₀]?).bind (·.dst)) (.tuple #[])) (.inRegion ops₀ rest₀ :: k₀)) cs)) := jk_mk H hv (.inl (.inr (.inl rfl))) hret
  have hrd : JK C n 1 (XW C (v + 1)) B MV (Sta C.ty C.Wg (AtMk C.P true C.ty C.Wg (.read (smA C.Wg)) (AtMk C.P true C.ty C.Wg .enable fun g _ => g = G (b₀.at (a₀.put ((ops₀[i₀]?).bind (·.dst)) (.tuple #[])) (.inRegion ops₀ rest₀ :: k₀)) cs))) := jk_mk H hv (.inr (.inl rfl)) hen
  have hadd := jk_add (d := 1) H hv hvn (fun _ => hrd) (fun _ => hen)
  have hdis := jk_mk (d := 0) (m := .disable) H hv (.inl (.inl rfl)) hadd
  have hgos := jk_gos H hv hdis 40
  intro g gs w sl t rk S hg h0 ms hB
  refine hgos g gs w sl t rk S ?_ h0 ms hB
  subst hg
  have hl := hv.wlive ms.sim
  rw [hty] at hl ⊢
  exact add1 HL w hl

/-- THE go STATEMENT. -/
theorem jm_go (H : WkOk C N) (hon : C.on = true) (hv : View0 C MV) {g g' child : Goroutine} {r : Rk} (hrun : g.status = .running) (hst : ∀ w, stepG C.P true g w = .spawn g' child w #[]) (hc : C.tree C.RecvG r child C.W0)
    (h : JM C (n + 1) 0 X (fun job => ∀ k, k < n + 1 → job k = none) g' MV) : JM C n 0 X (fun job => ∀ k, k < n → job k = none) g MV := by
  refine jk_step H (fun _ _ _ _ h => h) (fun g' _ e => e ▸ hrun) fun g1 gs w sl t rk S e h0 ms hB => ?_
  subst e
  have hlt : 0 < gs.size := (Array.getElem?_eq_some_iff.1 h0).1
  have hm1 := ms.m1
  have hrunT := runT_crowd_spawn (P := C.P) (sl := sl) (i := 0) h0 (show stepG C.P (0 == 0) g1 w = _ from hst w)
  have e0 : MemOp.ofEvents 0 g1.frame.fn g1.frame.place #[] = #[] := by simp [ofEvents_eq]
  rw [e0] at hrunT
  refine ⟨_, _, hrunT, ?_⟩
  have hsz := ms.size
  refine h g' _ _ _ _ (updR rk (C.m + n) (1, r)) (updS S n ⟨none, false⟩) rfl (by rw [Array.getElem?_push_lt (by simp; omega)]; simp [hlt]) ?_ ?_
  · have hops : ((#[] : Array MemOp).push { g := 0, fn := g1.frame.fn, pos := g1.frame.place, act := .go gs.size }).push { g := gs.size, fn := child.frame.fn, pos := g1.frame.place, act := .start } = #[{ g := 0, fn := g1.frame.fn, pos := g1.frame.place, act := .go gs.size }, { g := gs.size, fn := child.frame.fn, pos := g1.frame.place, act := .start }] := rfl
    rw [hops, hsz]
    have hD : ∀ k, Deaf (t ++ #[({ g := 0, fn := g1.frame.fn, pos := g1.frame.place, act := .go (C.m + n) } : MemOp), { g := C.m + n, fn := child.frame.fn, pos := g1.frame.place, act := .start }]) k = Deaf t k := fun k => Deaf_still t k _ fun op hop => by
      have : op = { g := 0, fn := g1.frame.fn, pos := g1.frame.place, act := .go (C.m + n) } ∨ op = { g := C.m + n, fn := child.frame.fn, pos := g1.frame.place, act := .start } := by simpa using hop
      rcases this with rfl | rfl <;> simp
    refine ⟨by simp [hsz]; omega, hm1, fun i x hi him hx => ?_, fun k hk => ?_, ms.sim, ms.x, ms.xh, fun _ => hon, fun _ => hv, ?_, fun k hk => ?_, by rw [hD]; exact ms.d0⟩
    · have hx' : gs[i]? = some x := by
        rw [Array.getElem?_push_lt (by simp; omega), ← Array.getElem?_eq_getElem, Array.getElem?_setIfInBounds_ne (by omega)] at hx
        exact hx
      obtain ⟨q, hq, hr⟩ := ms.old i x hi him hx'
      exact ⟨q, by rw [hD]; exact hq, by rw [updR_ne rk _ (by omega)]; exact hr⟩
    · rcases Nat.lt_or_ge k n with hkn | hkn
      · obtain ⟨x, hx, hsit⟩ := ms.wk k hkn
        refine ⟨x, ?_, by rw [updS_ne S _ (by omega), updR_ne rk _ (by omega)]; exact hsit⟩
        rw [Array.getElem?_push_lt (by simp [hsz]; omega), ← Array.getElem?_eq_getElem, Array.getElem?_setIfInBounds_ne (by omega)]
        exact hx
      · obtain rfl : k = n := by omega
        refine ⟨child, ?_, by rw [updS_same, updR_same]; exact ⟨rfl, hc⟩⟩
        rw [show C.m + k = (gs.setIfInBounds 0 g').size by simp [hsz], Array.getElem?_push_size]
    · have hA : Apart (ShW C.ty MV) Non (RdF C (n + 1)) := MS.apart fun _ => hv
      have h1 : TR (ShW C.ty MV) Non (RdF C (n + 1)) C.m (C.m + n - 1) w.heap.size t := ms.tr.grow (Nat.le_refl _) (fun _ h => h) (fun _ h => .inl h) (fun _ _ _ _ => Iff.rfl) (fun k k1 kj l => by
        constructor
        · exact id
        · exact id)
      have h2 := h1.fork hA (by omega) (x := { g := 0, fn := g1.frame.fn, pos := g1.frame.place, act := .go (C.m + n) }) (y := { g := C.m + n, fn := child.frame.fn, pos := g1.frame.place, act := .start }) ⟨rfl, by simp; omega⟩ ⟨by simp; omega, rfl⟩ ms.d0
      rw [show C.m + n - 1 + 1 = C.m + (n + 1) - 1 by omega] at h2
      exact h2
    · rw [hD]
      rcases Nat.lt_or_ge k n with hkn | hkn
      · exact ms.dw k hkn
      · obtain rfl : k = n := by omega
        exact Deaf_absent fun i op hi e => by have := ms.tr.ct.gs i op hi; omega
  · intro k hk
    show (updS S n ⟨none, false⟩ k).job = none
    rcases Nat.lt_or_ge k n with hkn | hkn
    · rw [updS_ne S _ (by omega)]; exact hB k hkn
    · obtain rfl : k = n := by omega
      rw [updS_same]
end
end Go.Cv
