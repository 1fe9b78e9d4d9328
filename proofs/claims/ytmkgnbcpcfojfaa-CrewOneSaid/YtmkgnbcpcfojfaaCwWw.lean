/- The walk through the wait group's Wait. -/
import Derived.Test.YtmkgnbcpcfojfaaCwW
set_option linter.unusedVariables false
set_option linter.unusedSimpArgs false
set_option linter.unusedSectionVars false
namespace Go.Cv
open Go.Conc Go.ConcR Go.ConcN Go.RowKit Go.Conc.Lib Go.ConcR.Gen Go.ConcN.Gen
variable {L : WgLink}
section
variable (P : Program) (ty : TypeId) (Wg : Nat) (Anch Ret : Goroutine → World → Prop)
abbrev AtKe := AtMk P true ty Wg .enable (AtMk P true ty Wg (.acquire (stA Wg)) Ret)
def AtW4 (g : Goroutine) (w : World) : Prop := g.status = .running ∧ (WgAt ty Wg w 0 0 → ∃ g', stepG P true g w = .go g' w #[rd (stA Wg)] ∧ ∃ n, Gos P true ty Wg (AtKe P ty Wg Ret) n g' w)
/-- THE SEMAPHORE. -/
def AtW3 (g : Goroutine) (w : World) : Prop :=
  g.status = .running ∧ g.offers = none ∧ ((∃ st, WgAt ty Wg w st 0) → stepG P true g w = .go { g with status := .blocked } w #[]) ∧
    (WgAt ty Wg w 0 1 → ∃ g', stepG P true g w = .go g' (w.setCell (smA Wg) (.int .u32 0)) (semEvents (smA Wg)) ∧ ∃ n, Gos P true ty Wg (AtW4 P ty Wg Ret) n g' (w.setCell (smA Wg) (.int .u32 0)))
/-- THE CompareAndSwap: vs has been seen. -/
def AtW2 (vs : Nat) (g : Goroutine) (w : World) : Prop :=
  g.status = .running ∧ ∀ v : Nat, v < 2147483648 → WgAt ty Wg w (v * KK) 0 →
    (v = vs → ∃ g', stepG P true g w = .go g' (w.setCell (stA Wg) (.int .u64 (v * KK + 1))) #[rd (stA Wg), wr (stA Wg)] ∧ ∃ n, Gos P true ty Wg (AtMk P true ty Wg (.write (smA Wg)) (AtW3 P ty Wg Ret)) n g' (w.setCell (stA Wg) (.int .u64 (v * KK + 1)))) ∧
    (v ≠ vs → ∃ g', stepG P true g w = .go g' w #[rd (stA Wg)] ∧ ∃ n, Gos P true ty Wg Anch n g' w)
def AtW1 (g : Goroutine) (w : World) : Prop :=
  g.status = .running ∧ ∀ v : Nat, v < 2147483648 → WgAt ty Wg w (v * KK) 0 → ∃ g', stepG P true g w = .go g' w #[rd (stA Wg)] ∧
    (v = 0 → ∃ n, Gos P true ty Wg (AtKe P ty Wg Ret) n g' w) ∧ (v ≠ 0 → ∃ n, Gos P true ty Wg (AtW2 P ty Wg Anch Ret v) n g' w)
end
section
variable {Wg : Nat} {b₀ : Frame} {a₀ : Act} {ops₀ : Array Oper} {i₀ : Nat} {rest₀ : List Nat} {k₀ : List Item} {cs : List Frame}
/-- THE LOOP's HEAD. -/
abbrev Anc (L : WgLink) (Wg : Nat) (c : Frame) (cs : List Frame) := AnchWN L (fun _ => True) Wg c cs

set_option maxRecDepth 100000 in
set_option maxHeartbeats 8000000 in
theorem wait0 {P : Program} (H : WgLib P L) (w : World) (hF : WgLive L.tWg Wg w) :
    Gos P true L.tWg Wg (AtMk P true L.tWg Wg .disable (Anc L Wg (b₀.at a₀ (.inRegion ops₀ (i₀ :: rest₀) :: k₀)) cs)) 10
      (G (Frame.enter P L.wait #[.pointer (some ⟨Wg, 0, none⟩)] .normal) (b₀.at a₀ (.inRegion ops₀ (i₀ :: rest₀) :: k₀) :: cs)) w := by
  lib_facts
  rw [enter_at _ H.f_wait rfl]
  walk_nrmf waitFn
  u_c stepG_seq rl hF
  u_cond true rl hF
  u_reg rl hF
  refine Goes.stop (fun w₁ h₁ => ?_)
  replace hF := rl hF h₁
  clear h₁
  refine ⟨rfl, _, stepG_mark0 .disable (by simp) rfl rfl (by k_ne) rfl H.f_disable (x_disable_n L) (x_disable_b L) (x_disable_x L) (x_disable_f L), 10, ?_⟩
  walk_nrm
  u_c stepG_region_end rl hF
  u_c stepG_block rl hF
  u_c stepG_loop rl hF
  exact Goes.stop (fun w₂ h₂ => ⟨_, rfl, by simp, by simp, trivial, rl hF h₂⟩)

set_option maxRecDepth 100000 in
set_option maxHeartbeats 8000000 in
theorem wait1 {P : Program} (H : WgLib P L) (g : Goroutine) (w : World) (h : Anc L Wg (b₀.at a₀ (.inRegion ops₀ (i₀ :: rest₀) :: k₀)) cs g w) :
    ∃ n, Gos P true L.tWg Wg (AtW1 P L.tWg Wg (Anc L Wg (b₀.at a₀ (.inRegion ops₀ (i₀ :: rest₀) :: k₀)) cs) fun g _ => g = G (b₀.at (a₀.put ((ops₀[i₀]?).bind (·.dst)) (.tuple #[])) (.inRegion ops₀ rest₀ :: k₀)) cs) n g w := by
  lib_facts
  obtain ⟨T, rfl, hT84, t0, _, hF⟩ := h
  obtain ⟨v0, v1, v2, v3, v4, v5, v6, v7, v8, v9, v10, v11, v12, v13, v14, v15, v16, v17, v18, v19, v20, v21, v22, v23, v24, v25, v26, v27, v28, v29, v30, v31, v32, v33, v34, v35, v36, v37, v38, v39, v40, v41, v42, v43, v44, v45, v46, v47, v48, v49, v50, v51, v52, v53, v54, v55, v56, v57, v58, v59, v60, v61, v62, v63, v64, v65, v66, v67, v68, v69, v70, v71, v72, v73, v74, v75, v76, v77, v78, v79, v80, v81, v82, v83, rfl⟩ := array84 T hT84
  simp only [List.getElem?_toArray, List.getElem?_cons_zero, Option.some.injEq] at t0
  subst t0
  refine ⟨40, ?_⟩
  simp only [L7, body_wait, waitFn, Option.getD_some]
  u_c stepG_block rl hF
  u_c stepG_seq rl hF
  u_reg rl hF
  u_op rl hF
  u_op rl hF
  u_op rl hF
  u_call H.f_uLoad (nm_uLoad L) uLoadFn rl hF
  u_c stepG_seq rl hF
  u_reg rl hF
  u_op rl hF
  u_c stepG_region_end rl hF
  u_c stepG_seq rl hF
  u_reg rl hF
  u_op rl hF
  u_op rl hF
  u_op rl hF
  refine Goes.stop (fun w₁ h₁ => ?_)
  replace hF := rl hF h₁
  clear h₁
  refine ⟨rfl, fun v hv hw => ?_⟩
  rcases Nat.eq_zero_or_pos v with rfl | hvp
  · replace hw : WgAt L.tWg Wg w₁ 0 0 := by simpa using hw
    refine ⟨_, stepG_load_atomic (v := 0) rfl rfl (by k_ne) rfl H.f_loadU64 (x_loadU64_n L) (x_loadU64_b L) (x_loadU64_x L) .u64 (x_loadU64_f L) rfl hw.cellSt, fun _ => ⟨60, ?_⟩, fun h => absurd rfl h⟩
    clear hw
    walk_nrm
    u_op rl hF
    u_c stepG_region_end rl hF
    u_c stepG_ret' rl hF
    u_leave1 H.f_uLoad rl hF
    u_op rl hF
    u_c stepG_region_end rl hF
    u_c stepG_seq rl hF
    u_reg rl hF
    u_op rl hF
    u_op rl hF
    u_op rl hF
    u_op rl hF
    u_c stepG_region_end rl hF
    u_c stepG_seq rl hF
    u_reg rl hF
    u_op rl hF
    u_op rl hF
    u_op rl hF
    u_op rl hF
    u_c stepG_region_end rl hF
    u_c stepG_seq rl hF
    u_c stepG_seq rl hF
    u_reg rl hF
    u_op rl hF
    u_op rl hF
    u_c stepG_region_end rl hF
    u_cond true rl hF
    u_c stepG_seq rl hF
    u_cond true rl hF
    u_c stepG_seq rl hF
    u_reg rl hF
    refine Goes.stop (fun w₅ h₅ => ?_)
    replace hF := rl hF h₅
    clear h₅
    refine ⟨rfl, _, stepG_mark0 .enable (by simp) rfl rfl (by k_ne) rfl H.f_enable (x_enable_n L) (x_enable_b L) (x_enable_x L) (x_enable_f L), 12, ?_⟩
    walk_nrm
    u_c stepG_region_end rl hF
    u_reg rl hF
    u_op rl hF
    u_conv H.underlying_tWgP H.room_tWg (WgLive.cell0 hF).choose_spec rl hF
    refine Goes.stop (fun w₆ h₆ => ?_)
    replace hF := rl hF h₆
    clear h₆
    refine ⟨rfl, _, stepG_markAt .acquire (by simp) rfl rfl (by k_ne) rfl H.f_acquire (x_acquire_n L) (x_acquire_b L) (x_acquire_x L) (x_acquire_f L) (ad := stA Wg) (by simp [Act.eval, stA]), 40, ?_⟩
    walk_nrm
    u_c stepG_region_end rl hF
    u_c stepG_seq rl hF
    u_c stepG_seq rl hF
    u_reg rl hF
    u_op rl hF
    u_op rl hF
    u_op rl hF
    u_op rl hF
    u_op rl hF
    u_op rl hF
    u_op rl hF
    u_op rl hF
    u_skip rl hF
    u_skip rl hF
    u_op rl hF
    u_c stepG_region_end rl hF
    u_cond false rl hF
    u_c stepG_skip rl hF
    u_c stepG_ret' rl hF
    u_leave0 H.f_wait rl hF
    exact Goes.stop (fun w₇ h₇ => rfl)
  · obtain ⟨S, hS⟩ : ∃ S : Int, (v : Int) * KK = S := ⟨_, rfl⟩
    have a1 : S / 4294967296 = (v : Int) := by rw [← hS]; simp only [KK]; omega
    have b1 : bits .and .u64 S 2147483648 = 0 := by rw [← hS]; have := st_flag v 0 (by omega) (by omega); simpa [KK] using this
    have b2 : bits .and .u64 S 2147483647 = 0 := by rw [← hS]; have := st_waiters v 0 (by omega) (by omega); simpa [KK] using this
    have c1 : IntKind.i32.wrap (v : Int) = (v : Int) := by rw [IntKind.wrap_i32]; omega
    have w1 : IntKind.u64.wrap (S + 1) = S + 1 := by rw [IntKind.wrap_u64, ← hS]; simp only [KK]; omega
    have q3 : decide ((v : Int) < 0) = false := decide_eq_false (by omega)
    have q4 : decide (0 < (v : Int)) = true := decide_eq_true (by omega)
    have q5 : ((v : Int) == 0) = false := by simp; omega
    have q6 : decide ((v : Int) = 0) = false := decide_eq_false (by omega)
    rw [hS] at hw
    refine ⟨_, stepG_load_atomic (v := S) rfl rfl (by k_ne) rfl H.f_loadU64 (x_loadU64_n L) (x_loadU64_b L) (x_loadU64_x L) .u64 (x_loadU64_f L) rfl hw.cellSt, fun h0 => absurd h0 (by omega), fun _ => ⟨80, ?_⟩⟩
    clear hw
    walk_nrm
    u_op rl hF
    u_c stepG_region_end rl hF
    u_c stepG_ret' rl hF
    u_leave1 H.f_uLoad rl hF
    u_op rl hF
    u_c stepG_region_end rl hF
    u_c stepG_seq rl hF
    u_reg rl hF
    u_op rl hF
    u_op rl hF
    u_op rl hF
    u_op rl hF
    u_c stepG_region_end rl hF
    u_c stepG_seq rl hF
    u_reg rl hF
    u_op rl hF
    u_op rl hF
    u_op rl hF
    u_op rl hF
    u_c stepG_region_end rl hF
    u_c stepG_seq rl hF
    u_c stepG_seq rl hF
    u_reg rl hF
    u_op rl hF
    u_op rl hF
    u_c stepG_region_end rl hF
    u_cnd false rl hF
    u_c stepG_skip rl hF
    u_c stepG_seq rl hF
    u_reg rl hF
    u_op rl hF
    u_op rl hF
    u_op rl hF
    u_op rl hF
    u_op rl hF
    u_op rl hF
    u_call H.f_uCas (nm_uCas L) uCasFn rl hF
    u_c stepG_seq rl hF
    u_reg rl hF
    u_op rl hF
    u_c stepG_region_end rl hF
    u_c stepG_seq rl hF
    u_reg rl hF
    u_op rl hF
    u_op rl hF
    u_op rl hF
    u_op rl hF
    u_op rl hF
    refine Goes.stop (fun w₂ h₂ => ?_)
    replace hF := rl hF h₂
    clear h₂
    refine ⟨rfl, fun v' hv' hw => ⟨fun e => ?_, fun e => ?_⟩⟩
    · subst e
      rw [hS] at hw ⊢
      refine ⟨_, (stepG_cas_hit (v := S) (n := S + 1) rfl rfl (by k_ne) rfl H.f_casU64 (x_casU64_n L) (x_casU64_b L) (x_casU64_x L) .u64 (x_casU64_f L) rfl rfl rfl hw.cellSt (hw.thaw 0)).trans (by rfl), 80, ?_⟩
      replace hF : WgLive L.tWg Wg (w₂.setCell (stA Wg) (.int .u64 (S + 1))) := ⟨_, _, hw.setSt _⟩
      clear hw
      walk_nrm
      u_op rl hF
      u_c stepG_region_end rl hF
      u_c stepG_ret' rl hF
      u_leave1 H.f_uCas rl hF
      u_c stepG_region_end rl hF
      u_cond true rl hF
      u_c stepG_seq rl hF
      u_c stepG_seq rl hF
      u_reg rl hF
      u_op rl hF
      u_op rl hF
      u_op rl hF
      u_op rl hF
      u_c stepG_region_end rl hF
      u_cond true rl hF
      u_reg rl hF
      u_op rl hF
      u_op rl hF
      u_op rl hF
      u_conv H.underlying_tPU32 H.room_tU32 (WgLive.cell1 hF).choose_spec rl hF
      refine Goes.stop (fun w₈ h₈ => ?_)
      replace hF := rl hF h₈
      clear h₈
      refine ⟨rfl, _, stepG_markAt .write (by simp) rfl rfl (by k_ne) rfl H.f_raceWrite (x_raceWrite_n L) (x_raceWrite_b L) (x_raceWrite_x L) (x_raceWrite_f L) (ad := smA Wg) (by simp [Act.eval, smA]), 60, ?_⟩
      walk_nrm
      u_c stepG_region_end rl hF
      u_c stepG_seq rl hF
      u_reg rl hF
      u_op rl hF
      u_c stepG_region_end rl hF
      u_c stepG_seq rl hF
      u_c stepG_seq rl hF
      u_reg rl hF
      u_op rl hF
      u_op rl hF
      u_op rl hF
      u_op rl hF
      u_skip rl hF
      u_op rl hF
      u_c stepG_region_end rl hF
      u_cond false rl hF
      u_c stepG_skip rl hF
      u_c stepG_seq rl hF
      u_reg rl hF
      u_op rl hF
      u_op rl hF
      u_op rl hF
      u_op rl hF
      refine Goes.stop (fun w₃ h₃ => ?_)
      replace hF := rl hF h₃
      clear h₃
      refine ⟨rfl, rfl, fun ⟨st, hw⟩ => stepG_semacquire_wait rfl rfl rfl H.f_semacquire (x_semacquire_n L) (x_semacquire_b L) (x_semacquire_x L) (x_semacquire_f L) (by simp [Act.eval, smA]) hw.cellSm, fun hf => ?_⟩
      refine ⟨_, (stepG_semacquire (n := 1) rfl rfl (by k_ne) rfl H.f_semacquire (x_semacquire_n L) (x_semacquire_b L) (x_semacquire_x L) (x_semacquire_f L) (by simp [Act.eval, smA]) hf.cellSm (by k_ne) (hf.thaw 1)).trans (by rfl), 40, ?_⟩
      replace hF : WgLive L.tWg Wg (w₃.setCell (smA Wg) (.int .u32 0)) := ⟨_, _, hf.setSm 0⟩
      clear hf
      walk_nrm
      u_c stepG_region_end rl hF
      u_c stepG_seq rl hF
      u_reg rl hF
      u_op rl hF
      u_op rl hF
      u_op rl hF
      u_call H.f_uLoad (nm_uLoad L) uLoadFn rl hF
      u_c stepG_seq rl hF
      u_reg rl hF
      u_op rl hF
      u_c stepG_region_end rl hF
      u_c stepG_seq rl hF
      u_reg rl hF
      u_op rl hF
      u_op rl hF
      u_op rl hF
      refine Goes.stop (fun w₄ h₄ => ?_)
      replace hF := rl hF h₄
      clear h₄
      refine ⟨rfl, fun hw => ⟨_, stepG_load_atomic (v := 0) rfl rfl (by k_ne) rfl H.f_loadU64 (x_loadU64_n L) (x_loadU64_b L) (x_loadU64_x L) .u64 (x_loadU64_f L) rfl hw.cellSt, 40, ?_⟩⟩
      clear hw
      walk_nrm
      u_op rl hF
      u_c stepG_region_end rl hF
      u_c stepG_ret' rl hF
      u_leave1 H.f_uLoad rl hF
      u_op rl hF
      u_op rl hF
      u_c stepG_region_end rl hF
      u_c stepG_seq rl hF
      u_cond true rl hF
      u_c stepG_seq rl hF
      u_reg rl hF
      refine Goes.stop (fun w₅ h₅ => ?_)
      replace hF := rl hF h₅
      clear h₅
      refine ⟨rfl, _, stepG_mark0 .enable (by simp) rfl rfl (by k_ne) rfl H.f_enable (x_enable_n L) (x_enable_b L) (x_enable_x L) (x_enable_f L), 12, ?_⟩
      walk_nrm
      u_c stepG_region_end rl hF
      u_reg rl hF
      u_op rl hF
      u_conv H.underlying_tWgP H.room_tWg (WgLive.cell0 hF).choose_spec rl hF
      refine Goes.stop (fun w₆ h₆ => ?_)
      replace hF := rl hF h₆
      clear h₆
      refine ⟨rfl, _, stepG_markAt .acquire (by simp) rfl rfl (by k_ne) rfl H.f_acquire (x_acquire_n L) (x_acquire_b L) (x_acquire_x L) (x_acquire_f L) (ad := stA Wg) (by simp [Act.eval, stA]), 40, ?_⟩
      walk_nrm
      u_c stepG_region_end rl hF
      u_c stepG_seq rl hF
      u_c stepG_seq rl hF
      u_reg rl hF
      u_op rl hF
      u_c stepG_region_end rl hF
      u_cond false rl hF
      u_c stepG_skip rl hF
      u_c stepG_ret' rl hF
      u_leave0 H.f_wait rl hF
      exact Goes.stop (fun w₇ h₇ => rfl)
    · refine ⟨_, stepG_cas_miss (v := (v' : Int) * KK) (old := S) (n := S + 1) rfl rfl (by k_ne) rfl H.f_casU64 (x_casU64_n L) (x_casU64_b L) (x_casU64_x L) .u64 (x_casU64_f L) rfl rfl rfl hw.cellSt (hw.thaw 0) (by rw [← hS]; simp only [KK]; omega), 30, ?_⟩
      clear hw
      walk_nrm
      u_op rl hF
      u_c stepG_region_end rl hF
      u_c stepG_ret' rl hF
      u_leave1 H.f_uCas rl hF
      u_c stepG_region_end rl hF
      u_cond false rl hF
      u_c stepG_skip rl hF
      u_c stepG_inBlock rl hF
      u_c stepG_inLoop rl hF
      exact Goes.stop (fun w₃ h₃ => ⟨_, rfl, by simp, by simp, trivial, rl hF h₃⟩)
end
end Go.Cv
