/- Goroutine 0 beside goroutines that only leave; into a call that starts workers, and out of it. -/
import Derived.Test.YtmkgnbcpcfojfaaCwJ
set_option linter.unusedVariables false
set_option linter.unusedSimpArgs false
namespace Go.Cv
open Go.Conc Go.ConcN
open Go.ConcR (KK wgBlock WgAt stA smA rd mk Bk DC0)

/-- 'crew.Wait()'. -/
theorem jk4_wait {C : Wk} {N n : Nat} {MV : World} (H : WkOk C N) (H4 : WkOk4 C) (hnn : n < 2147483648) {L : Go.Conc.Lib.WgLink} (HL : Go.Conc.Lib.WgLib C.P L) (hty : C.ty = L.tWg) (hv : WgV C MV)
    {b₀ : Frame} {a₀ : Act} {ops₀ : Array Oper} {i₀ : Nat} {rest₀ : List Nat} {k₀ : List Item} {cs : List Frame}
    (h : JM (after C n) 0 0 (fun _ => True) (fun _ => True) (G (b₀.at (a₀.put ((ops₀[i₀]?).bind (·.dst)) (.tuple #[])) (.inRegion ops₀ rest₀ :: k₀)) cs) MV) :
    JK4 C n 0 false QT MV fun g _ => g = G (Frame.enter C.P L.wait #[.pointer (some ⟨C.Wg, 0, none⟩)] .normal) (b₀.at a₀ (.inRegion ops₀ (i₀ :: rest₀) :: k₀) :: cs) := by
  have hret : JK (after C n) 0 0 (fun _ => True) (fun _ => True) MV (Sta C.ty C.Wg fun g _ => g = G (b₀.at (a₀.put ((ops₀[i₀]?).bind (·.dst)) (.tuple #[])) (.inRegion ops₀ rest₀ :: k₀)) cs) := jk_mono (fun g w hg => hg w id) h
  have hKe := jk4_mk (m := .enable) (d := 1) (reg := false) (Q := QA n) H H4 hnn (down_A n) (.inl (.inr (.inl rfl))) (jk4_acq H H4 hnn hret hv)
  have hA := jk4_anch (Anch := Anc L C.Wg (b₀.at a₀ (.inRegion ops₀ (i₀ :: rest₀) :: k₀)) cs) H H4 hnn (fun g w hg => by
    have := wait1 HL g w (hg w id)
    rw [← hty] at this; exact this) hKe n
  have hA' : JK4 C n 1 false QT MV (Sta C.ty C.Wg (Anc L C.Wg (b₀.at a₀ (.inRegion ops₀ (i₀ :: rest₀) :: k₀)) cs)) := jk4_weak (fun s _ => cnt_le) hA
  have hdis := jk4_mk (m := .disable) (d := 0) H H4 hnn (down_T n) (.inl (.inl rfl)) hA'
  have hgos := jk4_gos H H4 hnn (down_T n) hdis 10
  intro g gs w sl t rk S hg h0 ms hB
  refine hgos g gs w sl t rk S ?_ h0 ms hB
  subst hg
  have hl := hv.wlive ms.sim
  have := wait0 (b₀ := b₀) (a₀ := a₀) (ops₀ := ops₀) (i₀ := i₀) (rest₀ := rest₀) (k₀ := k₀) (cs := cs) HL w (hty ▸ hl)
  rw [← hty] at this; exact this

/-! ### Beside goroutines that only leave -/
def nilW : World := { (default : World) with heap := #[] }
def C0 (P : Program) (ty : Nat) (Post : Value → World → Prop) (m : Nat) : Wk :=
  { P := P, ty := ty, Post := Post, m := m, T := 0, R := 1, Wg := 0, W0 := nilW, RecvG := fun _ => False, SendG := fun _ _ => False, zT := undef, zS := undef, res := fun _ => undef, on := false }
theorem ok0 (P : Program) (ty : Nat) (Post : Value → World → Prop) (m N : Nat) : WkOk (C0 P ty Post m) N := ⟨fun g h => h.elim, fun i g h => h.elim, fun i g h => h.elim, fun i g h => h.elim, by simp [C0]⟩
/-- From every state in which goroutine 0 stands here, all others only leaving, the run ends well. -/
def Fin (P : Program) (ty : Nat) (Post : Value → World → Prop) (g : Goroutine) (W : World) : Prop := ∀ m, JM (C0 P ty Post m) 0 0 (fun _ => True) (fun _ => True) g W
def coF (P : Program) (ty : Nat) (Post : Value → World → Prop) : Co := ⟨true, fun _ => False, Fin P ty Post⟩
theorem fin_closed (P : Program) (ty : Nat) (Post : Value → World → Prop) : Closed P ty false (coF P ty Post) := by
  intro g W hr h m
  have e : roC (C0 P ty Post m) 0 = fun _ => False := by funext b; simp [roC, C0, nilW]
  have := jm_closed (C := C0 P ty Post m) (n := 0) (d := 0) (X := fun _ => True) (B := fun _ => True) (ok0 P ty Post m 0) g W hr
  rw [e] at this
  exact this fun w hw => let ⟨g', w', es, W', h1, h2, h3, h4, h5⟩ := h w hw; ⟨g', w', es, W', h1, h2, h3, h4, h5 m⟩

/-- Without workers the context is no matter. -/
theorem MS.ctx {C C' : Wk} {d : Nat} {X X' : Option Obj → Prop} {S S' : Nat → Sit} {MV : World} {gs : Array Goroutine} {w : World} {t : Trace} {rk : Nat → Mk} (ms : MS C 0 d X S MV gs w t rk) (hP : C'.P = C.P) (hty : C'.ty = C.ty) (hm : C'.m = C.m)
    (hx : X' w.heap[C'.Wg]?) (hxh : Hid C'.ty MV.heap[C'.Wg]? ∨ ∀ o, X' o) (hv : C'.on = true → View0 C' MV) : MS C' 0 d X' S' MV gs w t rk := by
  have hm1 := ms.m1
  refine ⟨by rw [hm]; exact ms.size, by rw [hm]; exact hm1, fun i g h1 h2 h3 => ?_, fun k hk => absurd hk (by omega), by rw [hty]; exact ms.sim, hx, hxh, fun h => absurd h (by omega), hv, ?_, fun k hk => absurd hk (by omega), ms.d0⟩
  · rw [hP]; exact ms.old i g h1 (hm ▸ h2) h3
  · rw [hty, hm]
    exact ms.tr.grow (Nat.le_refl _) (fun _ h => h) (fun _ h => .inl h) (fun _ _ _ _ => Iff.rfl) (fun k k1 kj l => ⟨fun h => by have := h.2.1; rw [hm] at this; omega, fun h => by have := h.2.1; omega⟩)

/-- Out of a call: what is behind it goes on beside goroutines that only leave. -/
theorem fin_after {C : Wk} {n : Nat} {MV : World} {g : Goroutine} (h : Fin C.P C.ty C.Post g MV) : JM (after C n) 0 0 (fun _ => True) (fun _ => True) g MV := by
  intro g1 gs w sl t rk S hg h0 ms hB
  exact h (C.m + n) g1 gs w sl t rk S hg h0 (ms.ctx rfl rfl rfl trivial (.inr fun _ => trivial) (fun h => by simp [C0] at h)) trivial

/-- The group is made. -/
theorem fin_alloc {P : Program} {ty : Nat} {Post : Value → World → Prop} {g g' : Goroutine} {MV : World} (hrun : g.status = .running)
    (hst : ∀ w, w.heap.size = MV.heap.size → stepG P true g w = .go g' (w.alloc (.cells #[.int .u64 0, .int .u32 0] ty)) #[]) (Cr : Nat → Wk) (hC : ∀ m, (Cr m).P = P ∧ (Cr m).ty = ty ∧ (Cr m).Post = Post ∧ (Cr m).m = m ∧ (Cr m).Wg = MV.heap.size ∧ View0 (Cr m) (MV.alloc (.cells #[] ty)))
    (h : ∀ m, JM (Cr m) 0 0 (XW (Cr m) 0) (fun _ => True) g' (MV.alloc (.cells #[] ty))) : Fin P ty Post g MV := by
  intro m
  refine jk_step (ok0 P ty Post m 0) (fun _ _ _ _ h => h) (fun g' _ e => e ▸ hrun) fun g1 gs w sl t rk S e h0 ms hB => ?_
  subst e
  have hlt : 0 < gs.size := (Array.getElem?_eq_some_iff.1 h0).1
  have hsz := ms.sim.sizeEq
  have hlk : Like ty (.cells #[] ty) (some (.cells #[.int .u64 0, .int .u32 0] ty)) := by simp only [Like, if_true]; exact ⟨trivial, 0, 0, rfl⟩
  obtain ⟨ops, h1, h2⟩ := ms.main_go (ok0 P ty Post m 0) (sl := sl) h0 (hst w hsz) (Mov.alloc hsz _ _) (ms.sim.alloc hlk)
  obtain ⟨c1, c2, c3, c4, c5, c6⟩ := hC m
  refine ⟨_, ops, h1, ?_⟩
  have hat : (w.alloc (.cells #[.int .u64 0, .int .u32 0] ty)).heap[(Cr m).Wg]? = some (wgBlock ty (((0 : Nat) : Int) * KK) 0) := by
    rw [c5, ← hsz, heap_push]; simp [wgBlock]
  have := h m g' _ _ sl _ rk (fun _ => ⟨none, false⟩) rfl (by simp [hlt]) (h2.ctx (C' := Cr m) (X' := XW (Cr m) 0) c1 c2 c4 (by unfold XW; rw [c2]; exact hat) (.inl (by rw [c5, c2, heap_push]; simp [Hid])) fun _ => c6) trivial
  rw [c1, c3] at this
  exact this
end Go.Cv
