/- The walk through the wait group's Done, as a worker's deferred call. -/
import Derived.Test.YtmkgnbcpcfojfaaCwW
set_option linter.unusedVariables false
set_option linter.unusedSimpArgs false
set_option linter.unusedSectionVars false
namespace Go.Cv
open Go.Conc Go.ConcR Go.ConcN Go.RowKit Go.Conc.Lib Go.ConcR.Gen Go.ConcN.Gen
variable {L : WgLink}

/-! ### Done, as a deferred call -/
section
variable {Wg : Nat} {c : Frame} {cs : List Frame}
/-- THE ATOMIC ADD OF -1: whatever the count and whether or not goroutine 0 waits. -/
def AtDec (P : Program) (ty : TypeId) (Wg : Nat) (Last : Goroutine → World → Prop) (g : Goroutine) (w : World) : Prop :=
  g.status = .running ∧ ∀ v wt : Nat, wt ≤ 1 → v < 2147483647 → WgAt ty Wg w ((v + 1) * KK + wt) 0 →
    ∃ g', stepG P false g w = .go g' (w.setCell (stA Wg) (.int .u64 (v * KK + wt))) #[rd (stA Wg), wr (stA Wg)] ∧
      ((v = 0 ∧ wt = 1) → ∃ n, Gos P false ty Wg Last n g' (w.setCell (stA Wg) (.int .u64 (v * KK + wt)))) ∧ (¬ (v = 0 ∧ wt = 1) → ∃ q, QuitsD P q 1 g')
def AtL1 (P : Program) (ty : TypeId) (Wg : Nat) (Next : Goroutine → World → Prop) (g : Goroutine) (w : World) : Prop :=
  g.status = .running ∧ (WgAt ty Wg w 1 0 → ∃ g', stepG P false g w = .go g' w #[rd (stA Wg)] ∧ ∃ n, Gos P false ty Wg Next n g' w)
def AtL2 (P : Program) (ty : TypeId) (Wg : Nat) (Next : Goroutine → World → Prop) (g : Goroutine) (w : World) : Prop :=
  g.status = .running ∧ (WgAt ty Wg w 1 0 → ∃ g', stepG P false g w = .go g' (w.setCell (stA Wg) (.int .u64 0)) #[wr (stA Wg)] ∧ ∃ n, Gos P false ty Wg Next n g' (w.setCell (stA Wg) (.int .u64 0)))
def AtL3 (P : Program) (ty : TypeId) (Wg : Nat) (g : Goroutine) (w : World) : Prop :=
  g.status = .running ∧ mayWake P g = true ∧ (WgAt ty Wg w 0 0 → ∃ g', stepG P false g w = .go g' (w.setCell (smA Wg) (.int .u32 1)) (semEvents (smA Wg)) ∧ ∃ q, QuitsD P q 1 g')

set_option maxRecDepth 100000 in
set_option maxHeartbeats 8000000 in
theorem done1 {P : Program} (H : WgLib P L) {qt : Nat} (hcm : c.mode = .returning) (hT' : QuitsD P qt 0 (G c cs)) (w : World) (hF : WgLive L.tWg Wg w) :
    Gos P false L.tWg Wg (AtMk P false L.tWg Wg (.releaseMerge (stA Wg)) (AtMk P false L.tWg Wg .disable (AtDec P L.tWg Wg (AtL1 P L.tWg Wg (AtL2 P L.tWg Wg (AtL3 P L.tWg Wg)))))) 60
      (G (Frame.enter P L.done #[.pointer (some ⟨Wg, 0, none⟩)] .deferred) (c :: cs)) w := by
  lib_facts
  rw [enter_atD _ H.f_done rfl]
  walk_nrmf doneFn
  u_reg rl hF
  u_op rl hF
  u_in rl hF
  refine goes_call rfl rfl (by k_ne) rfl H.f_add (nm_add L) rfl ⟨by u_nil, ?_⟩
  walk_nrmf addFn
  u_c stepG_seq rl hF
  u_cond true rl hF
  u_c stepG_seq rl hF
  u_c stepG_seq rl hF
  u_reg rl hF
  u_op rl hF
  u_op rl hF
  u_c stepG_region_end rl hF
  u_cond true rl hF
  u_reg rl hF
  u_op rl hF
  u_conv H.underlying_tWgP H.room_tWg (WgLive.cell0 hF).choose_spec rl hF
  refine Goes.stop (fun w₁ h₁ => ?_)
  replace hF := rl hF h₁
  clear h₁
  refine ⟨rfl, _, stepG_markAt (.releaseMerge) (by simp) rfl rfl (by k_ne) rfl H.f_relMerge (x_relMerge_n L) (x_relMerge_b L) (x_relMerge_x L) (x_relMerge_f L) (ad := stA Wg) (by simp [Act.eval, stA]), 10, ?_⟩
  walk_nrm
  u_c stepG_region_end rl hF
  u_c stepG_seq rl hF
  u_reg rl hF
  refine Goes.stop (fun w₁ h₁ => ?_)
  replace hF := rl hF h₁
  clear h₁
  refine ⟨rfl, _, stepG_mark0 .disable (by simp) rfl rfl (by k_ne) rfl H.f_disable (x_disable_n L) (x_disable_b L) (x_disable_x L) (x_disable_f L), 60, ?_⟩
  walk_nrm
  u_c stepG_region_end rl hF
  u_reg rl hF
  u_defer rl hF
  u_c stepG_region_end rl hF
  u_c stepG_seq rl hF
  u_reg rl hF
  u_op rl hF
  u_c stepG_region_end rl hF
  u_c stepG_seq rl hF
  u_c stepG_seq rl hF
  u_reg rl hF
  u_bub rl hF
  u_c stepG_region_end rl hF
  u_cond false rl hF
  u_c stepG_skip rl hF
  u_c stepG_seq rl hF
  u_reg rl hF
  u_op rl hF
  u_op rl hF
  u_op rl hF
  u_op rl hF
  u_op rl hF
  u_op rl hF
  u_call H.f_uAdd (nm_uAdd L) uAddFn rl hF
  u_c stepG_seq rl hF
  u_reg rl hF
  u_op rl hF
  u_c stepG_region_end rl hF
  u_c stepG_seq rl hF
  u_reg rl hF
  u_op rl hF
  u_op rl hF
  u_op rl hF
  u_op rl hF
  refine Goes.stop (fun w₁ h₁ => ?_)
  clear h₁ hF
  refine ⟨rfl, fun v wt hwt hv hw => ?_⟩
  have e0 : IntKind.u64.wrap (KK + 18446744069414584320) = 0 := by decide
  have e1 : IntKind.u64.wrap (KK + 1 + 18446744069414584320) = 1 := by decide
  rcases Nat.eq_zero_or_pos v with rfl | hvp <;> (obtain rfl | rfl : wt = 0 ∨ wt = 1 := by omega)
  · replace hw : WgAt L.tWg Wg w₁ KK 0 := by simpa using hw
    have z : ((0 : Nat) : Int) * KK + ((0 : Nat) : Int) = 0 := by simp
    rw [z]
    refine ⟨_, (stepG_add_atomic rfl rfl (by k_ne) rfl H.f_addU64 (x_addU64_n L) (x_addU64_b L) (x_addU64_x L) .u64 (x_addU64_f L) rfl rfl hw.cellSt (hw.thaw 0)).trans (by rw [e0]; rfl), fun hl => absurd hl.2 (by decide), fun _ => ⟨qt + 92, ?_⟩⟩
    clear hw
    walk_nrm
    q_val (.int .u64 (0))
    q_c stepG_region_end
    q_c stepG_ret'
    q_leave1 H.f_uAdd
    q_val (.int .u64 (0))
    q_c stepG_region_end
    q_c stepG_seq
    q_c stepG_seq
    q_reg
    q_val (.int .u64 (0))
    q_val (.int .u64 (0))
    q_val (.bool false)
    q_val (.bool false)
    q_skip
    q_skip
    q_val (.bool false)
    q_c stepG_region_end
    q_cond false
    q_c stepG_skip
    q_c stepG_seq
    q_reg
    q_val (.int .u64 (0))
    q_val (.int .u64 (0))
    q_val (.int .i32 (0))
    q_val (.int .i32 (0))
    q_c stepG_region_end
    q_c stepG_seq
    q_reg
    q_val (.int .u64 (0))
    q_val (.int .u64 (0))
    q_val (.int .u32 (0))
    q_val (.int .u32 (0))
    q_c stepG_region_end
    q_c stepG_seq
    q_c stepG_seq
    q_reg
    q_val (.bool true)
    q_val (.int .i64 (-1))
    q_val (.bool false)
    q_val (.bool false)
    q_val (.bool false)
    q_skip
    q_skip
    q_skip
    q_skip
    q_val (.bool false)
    q_c stepG_region_end
    q_cond false
    q_c stepG_skip
    q_c stepG_seq
    q_c stepG_seq
    q_reg
    q_val (.int .i32 (0))
    q_val (.bool false)
    q_c stepG_region_end
    q_cond false
    q_c stepG_skip
    q_c stepG_seq
    q_c stepG_seq
    q_reg
    q_val (.int .u32 (0))
    q_val (.bool false)
    q_val (.bool false)
    q_skip
    q_skip
    q_val (.bool false)
    q_val (.bool false)
    q_skip
    q_skip
    q_skip
    q_skip
    q_val (.bool false)
    q_c stepG_region_end
    q_cond false
    q_c stepG_skip
    q_c stepG_seq
    q_c stepG_seq
    q_reg
    q_val (.int .i32 (0))
    q_val (.bool false)
    q_val (.bool false)
    q_val (.int .u32 (0))
    q_val (.bool true)
    q_val (.bool true)
    q_c stepG_region_end
    q_cond true
    q_c stepG_ret'
    q_enable
    q_leave0 H.f_add
    q_c stepG_region_end
    q_c stepG_end
    exact QuitsD.leaveD rfl rfl H.f_done rfl hcm hT'
  · replace hw : WgAt L.tWg Wg w₁ (KK + 1) 0 := by simpa using hw
    have z : ((0 : Nat) : Int) * KK + ((1 : Nat) : Int) = 1 := by simp
    rw [z]
    refine ⟨_, (stepG_add_atomic rfl rfl (by k_ne) rfl H.f_addU64 (x_addU64_n L) (x_addU64_b L) (x_addU64_x L) .u64 (x_addU64_f L) rfl rfl hw.cellSt (hw.thaw 0)).trans (by rw [e1]; rfl), fun _ => ⟨150, ?_⟩, fun hl => absurd ⟨rfl, rfl⟩ hl⟩
    have hF : WgLive L.tWg Wg (w₁.setCell (stA Wg) (.int .u64 1)) := ⟨_, _, hw.setSt 1⟩
    clear hw
    walk_nrm
    u_op rl hF
    u_c stepG_region_end rl hF
    u_c stepG_ret' rl hF
    u_leave1 H.f_uAdd rl hF
    u_op rl hF
    u_c stepG_region_end rl hF
    u_c stepG_seq rl hF
    u_c stepG_seq rl hF
    u_reg rl hF
    u_op rl hF
    u_op rl hF
    u_op rl hF
    u_op rl hF
    u_skip rl hF
    u_skip rl hF
    u_op rl hF
    u_c stepG_region_end rl hF
    u_cond false rl hF
    u_c stepG_skip rl hF
    u_c stepG_seq rl hF
    u_reg rl hF
    u_op rl hF
    u_op rl hF
    u_op rl hF
    u_op rl hF
    u_c stepG_region_end rl hF
    u_c stepG_seq rl hF
    u_reg rl hF
    u_op rl hF
    u_op rl hF
    u_op rl hF
    u_op rl hF
    u_c stepG_region_end rl hF
    u_c stepG_seq rl hF
    u_c stepG_seq rl hF
    u_reg rl hF
    u_op rl hF
    u_op rl hF
    u_op rl hF
    u_op rl hF
    u_op rl hF
    u_skip rl hF
    u_skip rl hF
    u_skip rl hF
    u_skip rl hF
    u_op rl hF
    u_c stepG_region_end rl hF
    u_cond false rl hF
    u_c stepG_skip rl hF
    u_c stepG_seq rl hF
    u_c stepG_seq rl hF
    u_reg rl hF
    u_op rl hF
    u_op rl hF
    u_c stepG_region_end rl hF
    u_cond false rl hF
    u_c stepG_skip rl hF
    u_c stepG_seq rl hF
    u_c stepG_seq rl hF
    u_reg rl hF
    u_op rl hF
    u_op rl hF
    u_op rl hF
    u_op rl hF
    u_op rl hF
    u_op rl hF
    u_op rl hF
    u_skip rl hF
    u_skip rl hF
    u_skip rl hF
    u_skip rl hF
    u_op rl hF
    u_c stepG_region_end rl hF
    u_cond false rl hF
    u_c stepG_skip rl hF
    u_c stepG_seq rl hF
    u_c stepG_seq rl hF
    u_reg rl hF
    u_op rl hF
    u_op rl hF
    u_op rl hF
    u_op rl hF
    u_op rl hF
    u_op rl hF
    u_c stepG_region_end rl hF
    u_cond false rl hF
    u_c stepG_skip rl hF
    u_c stepG_seq rl hF
    u_c stepG_seq rl hF
    u_reg rl hF
    u_op rl hF
    u_op rl hF
    u_op rl hF
    u_call H.f_uLoad (nm_uLoad L) uLoadFn rl hF
    u_c stepG_seq rl hF
    u_reg rl hF
    u_op rl hF
    u_c stepG_region_end rl hF
    u_c stepG_seq rl hF
    u_reg rl hF
    u_op rl hF
    u_op rl hF
    u_op rl hF
    refine Goes.stop (fun w₂ h₂ => ?_)
    clear h₂ hF
    refine ⟨rfl, fun hw => ⟨_, stepG_load_atomic rfl rfl (by k_ne) rfl H.f_loadU64 (x_loadU64_n L) (x_loadU64_b L) (x_loadU64_x L) .u64 (x_loadU64_f L) rfl hw.cellSt, 60, ?_⟩⟩
    have hF : WgLive L.tWg Wg w₂ := ⟨_, _, hw⟩
    clear hw
    walk_nrm
    u_op rl hF
    u_c stepG_region_end rl hF
    u_c stepG_ret' rl hF
    u_leave1 H.f_uLoad rl hF
    u_op rl hF
    u_op rl hF
    u_c stepG_region_end rl hF
    u_cond false rl hF
    u_c stepG_skip rl hF
    u_c stepG_seq rl hF
    u_reg rl hF
    u_op rl hF
    u_op rl hF
    u_op rl hF
    u_call H.f_uStore (nm_uStore L) uStoreFn rl hF
    u_reg rl hF
    u_op rl hF
    u_op rl hF
    u_op rl hF
    u_op rl hF
    refine Goes.stop (fun w₃ h₃ => ?_)
    clear h₃ hF
    refine ⟨rfl, fun hw => ⟨_, stepG_store_atomic rfl rfl (by k_ne) rfl H.f_storeU64 (x_storeU64_n L) (x_storeU64_b L) (x_storeU64_x L) (x_storeU64_f L) rfl rfl hw.cellSt (hw.thaw 0), 60, ?_⟩⟩
    have hF : WgLive L.tWg Wg (w₃.setCell (stA Wg) (.int .u64 0)) := ⟨_, _, hw.setSt 0⟩
    clear hw
    walk_nrm
    u_c stepG_region_end rl hF
    u_c stepG_end rl hF
    u_leave0 H.f_uStore rl hF
    u_c stepG_region_end rl hF
    u_c stepG_seq rl hF
    u_c stepG_seq rl hF
    u_reg rl hF
    u_op rl hF
    u_c stepG_region_end rl hF
    u_cond false rl hF
    u_c stepG_skip rl hF
    u_c stepG_block rl hF
    u_c stepG_loop rl hF
    u_c stepG_seq rl hF
    u_c stepG_seq rl hF
    u_reg rl hF
    u_op rl hF
    u_op rl hF
    u_c stepG_region_end rl hF
    u_cond true rl hF
    u_c stepG_skip rl hF
    u_c stepG_seq rl hF
    u_c stepG_block rl hF
    u_reg rl hF
    u_op rl hF
    u_op rl hF
    u_op rl hF
    refine Goes.stop (fun w₄ h₄ => ?_)
    clear h₄ hF
    refine ⟨rfl, mayWake_entry rfl rfl H.f_semrelease (x_semrelease_b L), fun hw => ⟨_, (stepG_semrelease rfl rfl (by k_ne) rfl H.f_semrelease (x_semrelease_n L) (x_semrelease_b L) (x_semrelease_x L) (x_semrelease_f L) (by simp [Act.eval, smA]) hw.cellSm (hw.thaw 1)).trans (by rfl), qt + 22, ?_⟩⟩
    clear hw
    walk_nrm
    q_c stepG_region_end
    q_c stepG_inBlock
    q_reg
    q_val (.int .u32 (1))
    q_val (.int .u32 (0))
    q_val (.int .u32 (0))
    q_c stepG_region_end
    q_c stepG_inLoop
    q_c stepG_seq
    q_c stepG_seq
    q_reg
    q_val (.int .u32 (0))
    q_val (.bool false)
    q_c stepG_region_end
    q_cond false
    q_exit
    q_c stepG_end
    q_enable
    q_leave0 H.f_add
    q_c stepG_region_end
    q_c stepG_end
    exact QuitsD.leaveD rfl rfl H.f_done rfl hcm hT'
  · replace hw : WgAt L.tWg Wg w₁ (((v : Nat) + 1) * KK + 0) 0 := by simpa using hw
    have z : ((v : Nat) : Int) * KK + ((0 : Nat) : Int) = (v : Int) * KK + 0 := by simp
    rw [z]
    have hv0 : 0 < v := by omega
    have eS : IntKind.u64.wrap (((v : Nat) + 1) * KK + 0 + 18446744069414584320) = (v : Int) * KK + 0 := by rw [IntKind.wrap_u64]; simp only [KK]; omega
    obtain ⟨S, hS⟩ : ∃ S : Int, S = (v : Int) * KK + 0 := ⟨_, rfl⟩
    rw [← hS] at eS ⊢
    have a1 : S / 4294967296 = (v : Int) := by rw [hS]; simp only [KK]; omega
    have a2 : 0 ≤ S ∧ S < 9223372036854775808 := by rw [hS]; simp only [KK]; omega
    have b1 : bits .and .u64 S 2147483648 = 0 := by rw [hS]; have := st_flag v 0 (by omega) (by omega); simpa [KK] using this
    have b2 : bits .and .u64 S 2147483647 = 0 := by rw [hS]; have := st_waiters v 0 (by omega) (by omega); simpa [KK] using this
    clear hS z
    refine ⟨_, (stepG_add_atomic rfl rfl (by k_ne) rfl H.f_addU64 (x_addU64_n L) (x_addU64_b L) (x_addU64_x L) .u64 (x_addU64_f L) rfl rfl hw.cellSt (hw.thaw 0)).trans (by rw [eS]; rfl), fun hl => absurd hl.1 (by omega), fun _ => ⟨qt + 92, ?_⟩⟩
    clear hw
    walk_nrm
    q_vn (.int .u64 (S))
    q_c stepG_region_end
    q_c stepG_ret'
    q_leave1 H.f_uAdd
    q_vn (.int .u64 (S))
    q_c stepG_region_end
    q_c stepG_seq
    q_c stepG_seq
    q_reg
    q_vn (.int .u64 (S))
    q_vn (.int .u64 (0))
    q_vn (.bool false)
    q_vn (.bool false)
    q_skip
    q_skip
    q_vn (.bool false)
    q_c stepG_region_end
    q_cond false
    q_c stepG_skip
    q_c stepG_seq
    q_reg
    q_vn (.int .u64 (S))
    q_vn (.int .u64 (v))
    q_vn (.int .i32 (v))
    q_vn (.int .i32 (v))
    q_c stepG_region_end
    q_c stepG_seq
    q_reg
    q_vn (.int .u64 (S))
    q_vn (.int .u64 (0))
    q_vn (.int .u32 (0))
    q_vn (.int .u32 (0))
    q_c stepG_region_end
    q_c stepG_seq
    q_c stepG_seq
    q_reg
    q_vn (.bool true)
    q_vn (.int .i64 (-1))
    q_vn (.bool false)
    q_vn (.bool false)
    q_vn (.bool false)
    q_skip
    q_skip
    q_skip
    q_skip
    q_vn (.bool false)
    q_c stepG_region_end
    q_cond false
    q_c stepG_skip
    q_c stepG_seq
    q_c stepG_seq
    q_reg
    q_vn (.int .i32 (v))
    q_vn (.bool false)
    q_c stepG_region_end
    q_cond false
    q_c stepG_skip
    q_c stepG_seq
    q_c stepG_seq
    q_reg
    q_vn (.int .u32 (0))
    q_vn (.bool false)
    q_vn (.bool false)
    q_skip
    q_skip
    q_vn (.bool false)
    q_vn (.bool false)
    q_skip
    q_skip
    q_skip
    q_skip
    q_vn (.bool false)
    q_c stepG_region_end
    q_cond false
    q_c stepG_skip
    q_c stepG_seq
    q_c stepG_seq
    q_reg
    q_vn (.int .i32 (v))
    q_vn (.bool true)
    q_vn (.bool true)
    q_skip
    q_skip
    q_vn (.bool true)
    q_c stepG_region_end
    q_cond true
    q_c stepG_ret'
    q_enable
    q_leave0 H.f_add
    q_c stepG_region_end
    q_c stepG_end
    exact QuitsD.leaveD rfl rfl H.f_done rfl hcm hT'
  · replace hw : WgAt L.tWg Wg w₁ (((v : Nat) + 1) * KK + 1) 0 := by simpa using hw
    have z : ((v : Nat) : Int) * KK + ((1 : Nat) : Int) = (v : Int) * KK + 1 := by simp
    rw [z]
    have hv0 : 0 < v := by omega
    have eS : IntKind.u64.wrap (((v : Nat) + 1) * KK + 1 + 18446744069414584320) = (v : Int) * KK + 1 := by rw [IntKind.wrap_u64]; simp only [KK]; omega
    obtain ⟨S, hS⟩ : ∃ S : Int, S = (v : Int) * KK + 1 := ⟨_, rfl⟩
    rw [← hS] at eS ⊢
    have a1 : S / 4294967296 = (v : Int) := by rw [hS]; simp only [KK]; omega
    have a2 : 0 ≤ S ∧ S < 9223372036854775808 := by rw [hS]; simp only [KK]; omega
    have b1 : bits .and .u64 S 2147483648 = 0 := by rw [hS]; have := st_flag v 1 (by omega) (by omega); simpa [KK] using this
    have b2 : bits .and .u64 S 2147483647 = 1 := by rw [hS]; have := st_waiters v 1 (by omega) (by omega); simpa [KK] using this
    clear hS z
    refine ⟨_, (stepG_add_atomic rfl rfl (by k_ne) rfl H.f_addU64 (x_addU64_n L) (x_addU64_b L) (x_addU64_x L) .u64 (x_addU64_f L) rfl rfl hw.cellSt (hw.thaw 0)).trans (by rw [eS]; rfl), fun hl => absurd hl.1 (by omega), fun _ => ⟨qt + 92, ?_⟩⟩
    clear hw
    walk_nrm
    q_vn (.int .u64 (S))
    q_c stepG_region_end
    q_c stepG_ret'
    q_leave1 H.f_uAdd
    q_vn (.int .u64 (S))
    q_c stepG_region_end
    q_c stepG_seq
    q_c stepG_seq
    q_reg
    q_vn (.int .u64 (S))
    q_vn (.int .u64 (0))
    q_vn (.bool false)
    q_vn (.bool false)
    q_skip
    q_skip
    q_vn (.bool false)
    q_c stepG_region_end
    q_cond false
    q_c stepG_skip
    q_c stepG_seq
    q_reg
    q_vn (.int .u64 (S))
    q_vn (.int .u64 (v))
    q_vn (.int .i32 (v))
    q_vn (.int .i32 (v))
    q_c stepG_region_end
    q_c stepG_seq
    q_reg
    q_vn (.int .u64 (S))
    q_vn (.int .u64 (1))
    q_vn (.int .u32 (1))
    q_vn (.int .u32 (1))
    q_c stepG_region_end
    q_c stepG_seq
    q_c stepG_seq
    q_reg
    q_vn (.bool true)
    q_vn (.int .i64 (-1))
    q_vn (.bool false)
    q_vn (.bool false)
    q_vn (.bool false)
    q_skip
    q_skip
    q_skip
    q_skip
    q_vn (.bool false)
    q_c stepG_region_end
    q_cond false
    q_c stepG_skip
    q_c stepG_seq
    q_c stepG_seq
    q_reg
    q_vn (.int .i32 (v))
    q_vn (.bool false)
    q_c stepG_region_end
    q_cond false
    q_c stepG_skip
    q_c stepG_seq
    q_c stepG_seq
    q_reg
    q_vn (.int .u32 (1))
    q_vn (.bool true)
    q_vn (.bool true)
    q_vn (.int .i64 (-1))
    q_vn (.bool false)
    q_vn (.bool false)
    q_vn (.bool false)
    q_skip
    q_skip
    q_skip
    q_skip
    q_vn (.bool false)
    q_c stepG_region_end
    q_cond false
    q_c stepG_skip
    q_c stepG_seq
    q_c stepG_seq
    q_reg
    q_vn (.int .i32 (v))
    q_vn (.bool true)
    q_vn (.bool true)
    q_skip
    q_skip
    q_vn (.bool true)
    q_c stepG_region_end
    q_cond true
    q_c stepG_ret'
    q_enable
    q_leave0 H.f_add
    q_c stepG_region_end
    q_c stepG_end
    exact QuitsD.leaveD rfl rfl H.f_done rfl hcm hT'
end
end Go.Cv
