/- The walks through the wait group's Add(1), Done and Wait, over a caller of whatever kind: what each step between two words of the library's is. -/
import Derived.Conc.WgGenN3
set_option linter.unusedVariables false
set_option linter.unusedSimpArgs false
set_option linter.unusedSectionVars false
namespace Go.Cv
open Go.Conc Go.ConcR Go.ConcN Go.RowKit Go.Conc.Lib Go.ConcR.Gen Go.ConcN.Gen
instance : Payload := ⟨0⟩
variable {L : WgLink}

def RL (ty : TypeId) (Wg : Nat) (w w₁ : World) : Prop := WgLive ty Wg w → WgLive ty Wg w₁
theorem rl {ty : TypeId} {Wg : Nat} {w w₁ : World} (h : WgLive ty Wg w) (r : RL ty Wg w w₁) : WgLive ty Wg w₁ := r h
section
variable (P : Program) (main : Bool) (ty : TypeId) (Wg : Nat)
abbrev Gos := Goes P main (RL ty Wg) DC0
/-- IT STANDS AT A WORD OF THE LIBRARY's. -/
def AtMk (m : Mark) (Next : Goroutine → World → Prop) (g : Goroutine) (w : World) : Prop :=
  g.status = .running ∧ ∃ g', stepG P main g w = .go g' w #[mk m] ∧ ∃ n, Gos P main ty Wg Next n g' w
end

/-- The count, as the library's masks see it. -/
structure Cnt (V S : Int) : Prop where
  a1 : S / 4294967296 = V
  b1 : bits .and .u64 S 2147483648 = 0
  b2 : bits .and .u64 S 2147483647 = 0
  c1 : IntKind.i32.wrap V = V
theorem cnt_of (v : Nat) (hv : v < 2147483648) : Cnt (v : Int) ((v : Int) * KK) := by
  refine ⟨by simp only [KK]; omega, ?_, ?_, by rw [IntKind.wrap_i32]; omega⟩
  · have := st_flag v 0 (by omega) (by omega); simpa [KK] using this
  · have := st_waiters v 0 (by omega) (by omega); simpa [KK] using this

section
variable {Wg : Nat} {b₀ : Frame} {a₀ : Act} {ops₀ : Array Oper} {i₀ : Nat} {rest₀ : List Nat} {k₀ : List Item} {cs : List Frame}
/-- THE ATOMIC ADD OF +1. -/
def AtAdd (P : Program) (ty : TypeId) (Wg : Nat) (Next Next1 : Goroutine → World → Prop) (g : Goroutine) (w : World) : Prop :=
  g.status = .running ∧ ∀ v : Nat, v < 2147483647 → WgAt ty Wg w (v * KK) 0 →
    ∃ g', stepG P true g w = .go g' (w.setCell (stA Wg) (.int .u64 ((v + 1) * KK))) #[rd (stA Wg), wr (stA Wg)] ∧
      (v = 0 → ∃ n, Gos P true ty Wg Next1 n g' (w.setCell (stA Wg) (.int .u64 ((v + 1) * KK)))) ∧ (v ≠ 0 → ∃ n, Gos P true ty Wg Next n g' (w.setCell (stA Wg) (.int .u64 ((v + 1) * KK))))

set_option maxRecDepth 100000 in
set_option maxHeartbeats 8000000 in
theorem add1 {P : Program} (H : WgLib P L) (w : World) (hF : WgLive L.tWg Wg w) :
    Gos P true L.tWg Wg (AtMk P true L.tWg Wg .disable (AtAdd P L.tWg Wg
        (AtMk P true L.tWg Wg .enable fun g _ => g = G (b₀.at (a₀.put ((ops₀[i₀]?).bind (·.dst)) (.tuple #[])) (.inRegion ops₀ rest₀ :: k₀)) cs)
        (AtMk P true L.tWg Wg (.read (smA Wg)) (AtMk P true L.tWg Wg .enable fun g _ => g = G (b₀.at (a₀.put ((ops₀[i₀]?).bind (·.dst)) (.tuple #[])) (.inRegion ops₀ rest₀ :: k₀)) cs)))) 40
      (G (Frame.enter P L.add #[.pointer (some ⟨Wg, 0, none⟩), .int .i64 1] .normal) (b₀.at a₀ (.inRegion ops₀ (i₀ :: rest₀) :: k₀) :: cs)) w := by
  lib_facts
  rw [enter_at _ H.f_add rfl]
  walk_nrmf addFn
  u_c stepG_seq rl hF
  u_cond true rl hF
  u_c stepG_seq rl hF
  u_c stepG_seq rl hF
  u_reg rl hF
  u_op rl hF
  u_op rl hF
  u_c stepG_region_end rl hF
  u_cond false rl hF
  u_c stepG_skip rl hF
  u_c stepG_seq rl hF
  u_reg rl hF
  refine Goes.stop (fun w₁ h₁ => ?_)
  replace hF := rl hF h₁
  clear h₁
  refine ⟨rfl, _, stepG_mark0 .disable (by simp) rfl rfl (by k_ne) rfl H.f_disable (x_disable_n L) (x_disable_b L) (x_disable_x L) (x_disable_f L), 200, ?_⟩
  walk_nrm
  u_c stepG_region_end rl hF
  u_reg rl hF
  u_defer rl hF
  u_c stepG_region_end rl hF
  u_c stepG_seq rl hF
  u_reg rl hF
  u_op rl hF
  u_c stepG_region_end rl hF
  u_c stepG_seq rl hF
  u_c stepG_seq rl hF
  u_reg rl hF
  u_bub rl hF
  u_c stepG_region_end rl hF
  u_cond false rl hF
  u_c stepG_skip rl hF
  u_c stepG_seq rl hF
  u_reg rl hF
  u_op rl hF
  u_op rl hF
  u_op rl hF
  u_op rl hF
  u_op rl hF
  u_op rl hF
  u_call H.f_uAdd (nm_uAdd L) uAddFn rl hF
  u_c stepG_seq rl hF
  u_reg rl hF
  u_op rl hF
  u_c stepG_region_end rl hF
  u_c stepG_seq rl hF
  u_reg rl hF
  u_op rl hF
  u_op rl hF
  u_op rl hF
  u_op rl hF
  refine Goes.stop (fun w₂ h₂ => ?_)
  replace hF := rl hF h₂
  clear h₂
  refine ⟨rfl, fun v hv hw => ?_⟩
  obtain ⟨V, hV⟩ : ∃ V : Int, V = (v : Int) + 1 := ⟨_, rfl⟩
  obtain ⟨S, hS⟩ : ∃ S : Int, S = V * KK := ⟨_, rfl⟩
  have ev : IntKind.u64.wrap ((v : Int) * KK + 4294967296) = S := by rw [IntKind.wrap_u64, hS, hV]; simp only [KK]; omega
  have ⟨a1, b1, b2, c1⟩ : Cnt V S := by
    have := cnt_of (v + 1) (by omega)
    rw [hS, hV]; simpa using this
  rw [← hV, ← hS]
  refine ⟨_, (stepG_add_atomic rfl rfl (by k_ne) rfl H.f_addU64 (x_addU64_n L) (x_addU64_b L) (x_addU64_x L) .u64 (x_addU64_f L) rfl rfl hw.cellSt (hw.thaw 0)).trans (by rw [ev]; rfl), fun hv0 => ⟨200, ?_⟩, fun hv0 => ⟨200, ?_⟩⟩
  · replace hF : WgLive L.tWg Wg (w₂.setCell (stA Wg) (.int .u64 S)) := ⟨_, _, hw.setSt _⟩
    have e1 : V = 1 := by omega
    subst e1
    clear hw hS hV ev
    walk_nrm
    u_op rl hF
    u_c stepG_region_end rl hF
    u_c stepG_ret' rl hF
    u_leave1 H.f_uAdd rl hF
    u_op rl hF
    u_c stepG_region_end rl hF
    u_c stepG_seq rl hF
    u_c stepG_seq rl hF
    u_reg rl hF
    u_op rl hF
    u_op rl hF
    u_op rl hF
    u_op rl hF
    u_skip rl hF
    u_skip rl hF
    u_op rl hF
    u_c stepG_region_end rl hF
    u_cond false rl hF
    u_c stepG_skip rl hF
    u_c stepG_seq rl hF
    u_reg rl hF
    u_op rl hF
    u_op rl hF
    u_op rl hF
    u_op rl hF
    u_c stepG_region_end rl hF
    u_c stepG_seq rl hF
    u_reg rl hF
    u_op rl hF
    u_op rl hF
    u_op rl hF
    u_op rl hF
    u_c stepG_region_end rl hF
    u_c stepG_seq rl hF
    u_c stepG_seq rl hF
    u_reg rl hF
    u_op rl hF
    u_op rl hF
    u_op rl hF
    u_op rl hF
    u_op rl hF
    u_op rl hF
    u_op rl hF
    u_op rl hF
    u_op rl hF
    u_op rl hF
    u_c stepG_region_end rl hF
    u_cond true rl hF
    u_reg rl hF
    u_op rl hF
    u_op rl hF
    u_op rl hF
    u_conv H.underlying_tPU32 H.room_tU32 (WgLive.cell1 hF).choose_spec rl hF
    refine Goes.stop (fun w₃ h₃ => ?_)
    replace hF := rl hF h₃
    clear h₃
    refine ⟨rfl, _, stepG_markAt .read (by simp) rfl rfl (by k_ne) rfl H.f_raceRead (x_raceRead_n L) (x_raceRead_b L) (x_raceRead_x L) (x_raceRead_f L) (ad := smA Wg) (by simp [Act.eval, smA]), 200, ?_⟩
    walk_nrm
    u_c stepG_region_end rl hF
    u_c stepG_seq rl hF
    u_c stepG_seq rl hF
    u_reg rl hF
    u_op rl hF
    u_op rl hF
    u_c stepG_region_end rl hF
    u_cond false rl hF
    u_c stepG_skip rl hF
    u_c stepG_seq rl hF
    u_c stepG_seq rl hF
    u_reg rl hF
    u_op rl hF
    u_op rl hF
    u_op rl hF
    u_skip rl hF
    u_skip rl hF
    u_op rl hF
    u_op rl hF
    u_skip rl hF
    u_skip rl hF
    u_skip rl hF
    u_skip rl hF
    u_op rl hF
    u_c stepG_region_end rl hF
    u_cond false rl hF
    u_c stepG_skip rl hF
    u_c stepG_seq rl hF
    u_c stepG_seq rl hF
    u_reg rl hF
    u_op rl hF
    u_op rl hF
    u_op rl hF
    u_skip rl hF
    u_skip rl hF
    u_op rl hF
    u_c stepG_region_end rl hF
    u_cond true rl hF
    u_c stepG_ret' rl hF
    refine Goes.stop (fun w₃ h₃ => ?_)
    replace hF := rl hF h₃
    clear h₃
    refine ⟨rfl, _, stepG_unwind_entry (v := .tuple #[]) (evs := #[mk .enable]) rfl H.f_enable (x_enable_n L) (x_enable_b L) (x_enable_x L) (x_enable_f L) (by simp [Extern.Race.none_]) (by simp [mk]) (by simp [mk]), 5, ?_⟩
    u_leave0 H.f_add rl hF
    exact Goes.stop (fun w₄ h₄ => rfl)
  · replace hF : WgLive L.tWg Wg (w₂.setCell (stA Wg) (.int .u64 S)) := ⟨_, _, hw.setSt _⟩
    have hV1 : 1 < V := by omega
    have hV2 : V < 2147483648 := by omega
    have q1 : (V == 1) = false := by simp; omega
    have q2 : decide (V = 1) = false := decide_eq_false (by omega)
    have q3 : decide (V < 0) = false := decide_eq_false (by omega)
    have q4 : decide (0 < V) = true := decide_eq_true (by omega)
    have q5 : (V == 0) = false := by simp; omega
    have q6 : decide (V = 0) = false := decide_eq_false (by omega)
    clear hw hS hV ev
    walk_nrm
    u_op rl hF
    u_c stepG_region_end rl hF
    u_c stepG_ret' rl hF
    u_leave1 H.f_uAdd rl hF
    u_op rl hF
    u_c stepG_region_end rl hF
    u_c stepG_seq rl hF
    u_c stepG_seq rl hF
    u_reg rl hF
    u_op rl hF
    u_op rl hF
    u_op rl hF
    u_op rl hF
    u_skip rl hF
    u_skip rl hF
    u_op rl hF
    u_c stepG_region_end rl hF
    u_cnd false rl hF
    u_c stepG_skip rl hF
    u_c stepG_seq rl hF
    u_reg rl hF
    u_op rl hF
    u_op rl hF
    u_op rl hF
    u_op rl hF
    u_c stepG_region_end rl hF
    u_c stepG_seq rl hF
    u_reg rl hF
    u_op rl hF
    u_op rl hF
    u_op rl hF
    u_op rl hF
    u_c stepG_region_end rl hF
    u_c stepG_seq rl hF
    u_c stepG_seq rl hF
    u_reg rl hF
    u_op rl hF
    u_op rl hF
    u_op rl hF
    u_op rl hF
    u_op rl hF
    u_op rl hF
    u_op rl hF
    u_op rl hF
    u_op rl hF
    u_op rl hF
    u_c stepG_region_end rl hF
    u_cnd false rl hF
    u_c stepG_skip rl hF
    u_c stepG_seq rl hF
    u_c stepG_seq rl hF
    u_reg rl hF
    u_op rl hF
    u_op rl hF
    u_c stepG_region_end rl hF
    u_cnd false rl hF
    u_c stepG_skip rl hF
    u_c stepG_seq rl hF
    u_c stepG_seq rl hF
    u_reg rl hF
    u_op rl hF
    u_op rl hF
    u_op rl hF
    u_skip rl hF
    u_skip rl hF
    u_op rl hF
    u_op rl hF
    u_skip rl hF
    u_skip rl hF
    u_skip rl hF
    u_skip rl hF
    u_op rl hF
    u_c stepG_region_end rl hF
    u_cnd false rl hF
    u_c stepG_skip rl hF
    u_c stepG_seq rl hF
    u_c stepG_seq rl hF
    u_reg rl hF
    u_op rl hF
    u_op rl hF
    u_op rl hF
    u_skip rl hF
    u_skip rl hF
    u_op rl hF
    u_c stepG_region_end rl hF
    u_cnd true rl hF
    u_c stepG_ret' rl hF
    refine Goes.stop (fun w₃ h₃ => ?_)
    replace hF := rl hF h₃
    clear h₃
    refine ⟨rfl, _, stepG_unwind_entry (v := .tuple #[]) (evs := #[mk .enable]) rfl H.f_enable (x_enable_n L) (x_enable_b L) (x_enable_x L) (x_enable_f L) (by simp [Extern.Race.none_]) (by simp [mk]) (by simp [mk]), 5, ?_⟩
    u_leave0 H.f_add rl hF
    exact Goes.stop (fun w₄ h₄ => rfl)
end
end Go.Cv
