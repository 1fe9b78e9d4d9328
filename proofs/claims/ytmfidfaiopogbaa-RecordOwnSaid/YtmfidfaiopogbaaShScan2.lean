/- Scan, the program's. -/
import Derived.Test.YtmfidfaiopogbaaShOne
set_option linter.unusedVariables false
set_option linter.unusedSimpArgs false
set_option linter.unusedSectionVars false
set_option maxRecDepth 4000
namespace Go.Proofs.Ytmfidfaiopogbaa
open Go Go.Sh

theorem E64 : El Try.prog 64 57 5 40 := ⟨Try.underlying64, ⟨Try.t57, .agg #[.int .i64 0, .int .i64 0, .int .i64 0, .int .i64 0, .int .u32 0], by kernel_rfl, rfl, rfl, rfl, rfl⟩, by decide⟩
def opl : List Op → List Value
  | [] => []
  | x :: r => .int .i64 x.k :: .int .i64 x.e :: .int .i64 x.u :: .int .i64 x.v :: .int .u32 x.b :: opl r
theorem opl_append : ∀ l m : List Op, opl (l ++ m) = opl l ++ opl m
  | [], m => rfl
  | x :: r, m => by simp [opl, opl_append r m]
theorem opl_length : ∀ l : List Op, (opl l).length = l.length * 5
  | [] => rfl
  | x :: r => by simp [opl, opl_length r]; omega
theorem opl_one : ∀ l : List Op, ∀ u, u ∈ opl l → one1 u = true
  | [], u, h => by simp [opl] at h
  | x :: r, u, h => by
    simp only [opl, List.mem_cons] at h
    rcases h with rfl | rfl | rfl | rfl | rfl | h
    · rfl
    · rfl
    · rfl
    · rfl
    · rfl
    · exact opl_one r u h

/-- The operations that the bytes begin with, and how many bytes they have. -/
def scan (b : Bs) : List Op × Nat :=
  match dec b with
  | none => ([], 0)
  | some (y, n) => if h : 0 < n ∧ n ≤ b.length then (y :: (scan (b.drop n)).1, n + (scan (b.drop n)).2) else ([], 0)
termination_by b.length
decreasing_by all_goals (simp only [List.length_drop]; omega)
theorem dec_len {b : Bs} {y : Op} {n : Nat} (h : dec b = some (y, n)) : 4 ≤ n ∧ n ≤ b.length := by
  obtain ⟨l, ⟨_, _, he, r, rfl⟩, rfl⟩ := dec_some h
  obtain ⟨s, hs, hok, rfl⟩ := enc_some he
  have := body_len hs hok
  simp [sealed]; omega
theorem scan_none {b : Bs} (h : dec b = none) : scan b = ([], 0) := by rw [scan, h]
theorem scan_some {b : Bs} {y : Op} {n : Nat} (h : dec b = some (y, n)) : scan b = (y :: (scan (b.drop n)).1, n + (scan (b.drop n)).2) := by
  have hl := dec_len h
  rw [scan, h]
  simp only
  rw [dif_pos ⟨by omega, hl.2⟩]

section
variable [Av]
theorem Scan_spec {w : World} {e2 : Nat} {a : Option Addr} {n c : Nat} {l : Bs} (h : Rd w e2 1 a n c (bvs l)) (hsz : (scan l).1.length * 40 ≤ 140737488355328) :
    Calls Try.prog 40 #[.slice a n c] w fun e w' => ∃ s : Sv, e = .returned (.tuple #[s.v, .int .i64 (scan l).2]) ∧ Keep no w w' ∧ w'.ownsRow w.heap.size 57 5 s.v s.n (opl (scan l).1) ∧ s.n = (scan l).1.length := by
  have hn : n = l.length := by have := h.1; simp at this; exact this.symm
  have hcn := h.2.1
  have hcm := h.2.2.1
  simp only [maxLen] at hcm
  refine c40 ?_
  unfold sh40
  refine ⟨fun vs v => ∃ (at_ : Nat) (o1 : Option Addr) (o2 o3 : Nat) (ys : List Op), vs = [.slice none 0 0, .int .i64 0, .slice o1 o2 o3, .int .i64 at_] ∧ at_ ≤ n ∧ o2 = ys.length ∧ v.ownsRow w.heap.size 57 5 (.slice o1 o2 o3) o2 (opl ys) ∧ Keep no w v ∧
      scan l = (ys ++ (scan (l.drop at_)).1, at_ + (scan (l.drop at_)).2),
    fun vs v => match vs with | [_, _, _, .int _ i] => n - i.toNat | _ => 0, ⟨0, none, 0, 0, [], rfl, by omega, rfl, World.ownsRow_nil _ _ _ _, Keep.refl _ _, by simp⟩, ?_⟩
  rintro w6 a2 l2 c2 n3 o1 o2 o3 at5 ⟨at_, p1, p2, p3, ys, hv, hat, ho2, ho, k6, hsc⟩
  cases hv
  refine ⟨by omega, by omega, ?_⟩
  rw [Int.toNat_natCast]
  refine (one_spec (Rd.dropB (h.no k6) hat)).mono ?_
  rintro e w10 ⟨y, m, b, rfl, k10, hcase⟩
  refine ⟨_, _, _, _, _, _, _, rfl, ?_⟩
  intro p18 w19
  have b18 : Bk w19 p18 #[.int .i64 0, .int .i64 0, .int .i64 0, .int .i64 0, .int .u32 0] 57 := Bk.new w10 _ _
  have k19 : Keep no w10 w19 := Keep.alloc _ _ _
  have h18 : w10.heap.size ≤ p18 := Nat.le_refl _
  clear_value p18 w19
  obtain ⟨e1, e2', e3⟩ := fin5 (a := .int .i64 y.k) (b := .int .i64 y.e) (c := .int .i64 y.u) (d := .int .i64 y.v) (e := .int .u32 y.b) b18 rfl
  refine ⟨e1, ?_⟩
  intro w20
  have c18 : Bk w20 p18 (opC y) 57 := e2'
  have k20 : Keep no w10 w20 := k19.new e3 (by rintro z rfl; exact h18)
  clear_value w20
  have K20 := (k6.then k10).then k20
  have ho20 := own_keep ho (k10.then k20) fun _ _ h => h
  rcases hcase with ⟨hd, rfl⟩ | ⟨k, hd, rfl, rfl⟩
  · refine cond_t rfl ?_
    have hs0 := scan_none hd
    rw [hs0] at hsc
    rw [hsc]
    exact ⟨⟨o1, o2, o3⟩, by simp, K20, by simpa using ho20, by simp; omega⟩
  · refine cond_f rfl ?_
    have hs1 := scan_some hd
    have hdl := dec_len hd
    rw [List.length_drop] at hdl
    rw [hs1, List.drop_drop] at hsc
    have hlen : ys.length + 1 ≤ (scan l).1.length := by rw [hsc]; simp
    refine ⟨_, _, _, _, _, c18.cell 0, c18.cell 1, c18.cell 2, c18.cell 3, c18.cell 4, ?_⟩
    intro p26 w27
    have b26 : Bk w27 p26 (opC y) 57 := Bk.new w20 _ _
    have k27 : Keep no w20 w27 := Keep.alloc _ _ _
    clear_value p26 w27
    refine rw_append E64 (own_keep ho20 k27 fun _ _ h => h) (Rd.blk0 (sz := 5) (n := 1) b26 rfl (by simp [maxLen])) (by simp [one1]) (by omega) (by simp only [maxLen]; omega) (K20.then k27).size fun a30 c30 w29 o29 k29 _ => ?_
    have ei : IntKind.i64.wrap ((at_ : Int) + (k : Int)) = ((at_ + k : Nat) : Int) := by rw [IntWalk.i64_in _ ⟨by omega, by omega⟩]; simp
    rw [ei]
    refine ⟨⟨at_ + k, a30, o2 + 1, c30, ys ++ [y], rfl, by omega, by simp; omega, ?_, (K20.then k27).new k29 fun z hz => (own_ty (q := ⟨o1, o2, o3⟩) ho20 hz).2, ?_⟩, ?_⟩
    · rw [opl_append]; exact o29
    · rw [hsc]; simp [Nat.add_assoc]
    · show n - ((at_ + k : Nat) : Int).toNat < n - (at_ : Int).toNat
      omega
end
end Go.Proofs.Ytmfidfaiopogbaa
