/- What DiskSyncs answers. -/
import Derived.Test.YtmfidfaiopogbaaShOps
import Derived.Test.YtmfidfaiopogbaaShL5
import Derived.Test.YtmfidfaiopogbaaRows
import Derived.WalkKit
import Derived.ProofKit
import Derived.OpenShut
import Derived.ShutString
import Derived.ChangeOld
import Derived.Below
import Derived.Carry
import Derived.SizedLaws
set_option linter.unusedVariables false
set_option linter.unusedSectionVars false
set_option linter.unusedSimpArgs false
set_option maxRecDepth 4000
namespace Go.Proofs.Ytmfidfaiopogbaa
open Go Go.Sh Go.ChangeShapes Go.WideShapes Go.ChangeAt Go.RowKit

variable [Av]
theorem rwS {w : World} {a : Option Addr} {n c : Nat} {l : Bs} (h : Rb w a n c l) {K : ByteArray → Prop} (hK : K (str l)) :
    RunWp Try.prog (convert 36 9 (.slice a n c)) (fun v w' => w' = w ∧ ∃ s : ByteArray, v = .string s ∧ K s) w := rw_str Try.underlying36 Try.underlying5 Try.underlying9 h hK
omit [Av] in
theorem A.read_len {x : A} (h : x.ok) (f : Int) : (x.read f).length ≤ 65536 := by
  unfold A.read; split
  · exact h.now.get _
  · simp
omit [Av] in
theorem A.Crash_now (x : A) (k : Int) : (x.Crash k).now = x.st (x.keep k) := rfl
omit [Av] in
theorem A.Crash_all (x : A) {k : Int} (h : (x.rest.length : Int) ≤ k) : (x.Crash k).now = x.now := by
  rw [A.Crash_now]
  have : x.keep k = x.rest.length := by unfold A.keep mnI mxI; (repeat' split) <;> omega
  rw [this, A.st_last]
omit [Av] in
theorem A.Crash_synced (x : A) (h : x.rest = []) (k : Int) : (x.Crash k).now = x.now := by
  rw [A.Crash_now]
  have : x.keep k = x.rest.length := by have := x.keep_le k; rw [h] at this ⊢; simpa using this
  rw [this, A.st_last]
omit [Av] in
theorem A.read_now {x y : A} (h : x.now = y.now) (f : Int) : x.read f = y.read f := by unfold A.read; rw [h]
omit [Av] in
theorem beq_str {a b : Bs} (h : a = b) : ((str a).toList == (str b).toList) = true := by subst h; simp

theorem syncs_core {w : World} {sc : Sv} (hs : OpsR w w.heap.size sc) {k : Int} (hk : (Lit.int .i64 k).wf = true) (hO : Old w) : Calls Try.prog 5 #[sc.v, .int .i64 k] w fun e w' => e = .returned (.bool true) ∧ Below w.heap.size w w' := by
  refine c5 ?_
  unfold sh5
  refine (Built_spec hs hO).mono ?_
  rintro e w3 ⟨p, q, s, y, rfl, hd, hr, k3, hy⟩
  refine ⟨_, _, _, _, _, _, _, _, rfl, ?_⟩
  intro p10 w11
  have b10 : Bk w11 p10 _ 26 := Bk.new w3 _ _
  have k11 : Keep no w3 w11 := Keep.alloc _ _ _
  have h10 : w3.heap.size ≤ p10 := Nat.le_refl _
  clear_value p10 w11
  refine ⟨b10.wrN (by simp), ?_⟩
  intro w12
  have k12 : Keep (is p10) w11 w12 := setN_keep (S := is p10) (a := ⟨p10, 0, none⟩) rfl _ _ _
  clear_value w12
  have k12' : Keep no w3 w12 := k11.new k12 (by rintro z rfl; exact h10)
  intro K19
  refine (awake_spec w12 (hO.up (k3.then k12'))).mono ?_
  rintro e w15 ⟨rfl, k15⟩
  refine ⟨_, rfl, cond_f rfl (cond_f rfl ?_)⟩
  have kA : Keep no w w15 := (k3.then k12').then k15
  have hd15 := (hd.no_ k12').no_ k15
  clear K19
  refine (Crash_spec hd15 1099511627776).mono ?_
  rintro e w21 ⟨pc, rfl, hc, k21⟩
  refine ⟨_, rfl, ?_⟩
  intro K107 w23
  have hc23 : DkR w23 _ _ _ _ := hc.no_ (Keep.drew no w21)
  have hd23 : DkR w23 _ _ _ _ := (hd15.no_ k21).no_ (Keep.drew no w21)
  have kB : Keep no w w23 := (kA.then k21).no (Keep.drew _ _)
  clear_value w23
  have hall : ∀ f, (y.Crash 1099511627776).read f = y.read f := fun f => A.read_now (A.Crash_all y (by omega)) f
  -- behind the first test
  have fin : ∀ v, DkR v w.heap.size p q y → Keep no w v → K107 false v := by
    intro v hd kv
    refine cond_f rfl ?_
    refine (Sync_spec hd).mono ?_
    rintro e w109 ⟨rfl, q', hd', kd, hq'⟩
    have k109 : Keep no w w109 := Played.no hd kd kv (Nat.le_refl _)
    refine ⟨_, rfl, ?_⟩
    refine (Crash_spec hd' k).mono ?_
    rintro e w112 ⟨pe, rfl, he, k112⟩
    refine ⟨_, rfl, ?_⟩
    intro K116
    have hd112 := hd'.no_ k112
    have k112' := k109.then k112
    have fin2 : K116 false w112 := by
      refine cond_f rfl ?_
      have he' := he.no_ (Keep.drew no w112)
      have hd'' := hd112.no_ (Keep.drew no w112)
      have kC : Keep no w w112.drew := k112'.no (Keep.drew _ _)
      cases hdead : y.dead with
      | true =>
        have : y.Sync.2 = 180 := by unfold A.Sync; rw [hdead]; rfl
        rw [this]
        exact cond_t rfl ⟨rfl, kC.below⟩
      | false =>
        have hs2 : y.Sync.2 = 0 := by unfold A.Sync; rw [hdead]; rfl
        have hs1 : y.Sync.1.rest = [] := by unfold A.Sync; rw [hdead]; rfl
        have hsame : ∀ f, (y.Sync.1.Crash k).read f = y.Sync.1.read f := fun f => A.read_now (A.Crash_synced _ hs1 k) f
        rw [hs2]
        refine cond_f rfl ?_
        show Calls _ _ _ _ _
        refine (pending_spec hd'').mono ?_
        rintro e w119 ⟨rfl, rfl⟩
        rw [hs1]
        refine ⟨_, rfl, cond_t rfl ?_⟩
        refine (read_spec he' 1).mono ?_
        rintro e w122 ⟨r1, rfl, hr1, _, k122⟩
        refine ⟨_, _, _, rfl, rwS hr1 ?_⟩
        refine (read_spec (hd''.no_ k122) 1).mono ?_
        rintro e w128 ⟨r2, rfl, hr2, _, k128⟩
        refine ⟨_, _, _, rfl, rwS (hr1.no k128) rfl, rwS hr2 ?_⟩
        refine cond_t (beq_str (hsame 1)) ?_
        have k1 := k122.then k128
        refine (read_spec (he'.no_ k1) 2).mono ?_
        rintro e w137 ⟨r3, rfl, hr3, _, k137⟩
        refine ⟨_, _, _, rfl, rwS hr3 ?_⟩
        have k2 := k1.then k137
        refine (read_spec (hd''.no_ k2) 2).mono ?_
        rintro e w143 ⟨r4, rfl, hr4, _, k143⟩
        refine ⟨_, _, _, rfl, rwS (hr3.no k143) rfl, rwS hr4 ?_⟩
        refine cond_t (beq_str (hsame 2)) ?_
        have k3 := k2.then k143
        refine (read_spec (he'.no_ k3) 0).mono ?_
        rintro e w152 ⟨r5, rfl, hr5, _, k152⟩
        refine ⟨_, _, _, rfl, rwS hr5 ?_⟩
        have k4 := k3.then k152
        refine (read_spec (hd''.no_ k4) 0).mono ?_
        rintro e w158 ⟨r6, rfl, hr6, _, k158⟩
        refine ⟨_, _, _, rfl, rwS (hr5.no k158) rfl, rwS hr6 ?_⟩
        exact ⟨by rw [beq_str (hsame 0)], (kC.then (k4.then k158)).below⟩
    clear_value K116
    refine cond_f rfl ?_
    have hcase : y.Sync.2 = 0 ∨ y.Sync.2 = 180 := by unfold A.Sync; cases y.dead <;> simp
    rcases hcase with h0 | h0
    · rw [h0]; exact cond_f rfl fin2
    · rw [h0]; exact cond_t rfl fin2
  clear_value K107
  refine cond_f rfl ?_
  have hl : ∀ f, (y.read f).length ≤ 65536 := fun f => A.read_len hd15.ok f
  have hlc : ∀ f, ((y.Crash 1099511627776).read f).length ≤ 65536 := fun f => by rw [hall]; exact hl f
  have h124 : (⟨#[124]⟩ : ByteArray) = str [124] := rfl
  refine (read_spec hc23 0).mono ?_
  rintro e w25 ⟨r1, rfl, hr1, _, k25⟩
  refine ⟨_, _, _, rfl, rwS hr1 ?_⟩
  have e1 := hlc 0; have e2 := hlc 1; have e3 := hlc 2; have f1 := hl 0; have f2 := hl 1; have f3 := hl 2
  simp only [h124, str_append, str_size, List.length_append, List.length_cons, List.length_nil]
  refine ⟨by omega, ?_⟩
  refine (read_spec (hc23.no_ k25) 1).mono ?_
  rintro e w31 ⟨r2, rfl, hr2, _, k31⟩
  refine ⟨_, _, _, rfl, rwS (hr1.no k31) rfl, rwS hr2 ?_⟩
  simp only [h124, str_append, str_size, List.length_append, List.length_cons, List.length_nil]
  refine ⟨by omega, by omega, ?_⟩
  have kk31 := k25.then k31
  refine (read_spec (hc23.no_ kk31) 2).mono ?_
  rintro e w40 ⟨r3, rfl, hr3, _, k40⟩
  have kk40 := kk31.then k40
  refine ⟨_, _, _, rfl, rwS ((hr1.no k31).no k40) rfl, rwS (hr2.no k40) rfl, rwS hr3 ?_⟩
  simp only [h124, str_append, str_size, List.length_append, List.length_cons, List.length_nil]
  refine ⟨by omega, ?_⟩
  refine (read_spec (hd23.no_ kk40) 0).mono ?_
  rintro e w52 ⟨r4, rfl, hr4, _, k52⟩
  have kk52 := kk40.then k52
  refine ⟨_, _, _, rfl, rwS (((hr1.no k31).no k40).no k52) rfl, rwS ((hr2.no k40).no k52) rfl, rwS (hr3.no k52) rfl, rwS hr4 ?_⟩
  simp only [h124, str_append, str_size, List.length_append, List.length_cons, List.length_nil]
  refine ⟨by omega, ?_⟩
  refine (read_spec (hd23.no_ kk52) 1).mono ?_
  rintro e w67 ⟨r5, rfl, hr5, _, k67⟩
  have kk67 := kk52.then k67
  refine ⟨_, _, _, rfl, rwS ((((hr1.no k31).no k40).no k52).no k67) rfl, rwS (((hr2.no k40).no k52).no k67) rfl, rwS ((hr3.no k52).no k67) rfl, rwS (hr4.no k67) rfl, rwS hr5 ?_⟩
  simp only [h124, str_append, str_size, List.length_append, List.length_cons, List.length_nil]
  refine ⟨by omega, by omega, ?_⟩
  refine (read_spec (hd23.no_ kk67) 2).mono ?_
  rintro e w85 ⟨r6, rfl, hr6, _, k85⟩
  have kk85 := kk67.then k85
  refine ⟨_, _, _, rfl, rwS (((((hr1.no k31).no k40).no k52).no k67).no k85) rfl, rwS ((((hr2.no k40).no k52).no k67).no k85) rfl, rwS (((hr3.no k52).no k67).no k85) rfl, rwS ((hr4.no k67).no k85) rfl, rwS (hr5.no k85) rfl, rwS hr6 ?_⟩
  simp only [h124, str_append, str_size, List.length_append, List.length_cons, List.length_nil]
  refine ⟨by omega, ?_⟩
  rw [beq_str (by rw [hall, hall, hall])]
  exact fin w85 (hd23.no_ kk85) (kB.then kk85)
end Go.Proofs.Ytmfidfaiopogbaa
