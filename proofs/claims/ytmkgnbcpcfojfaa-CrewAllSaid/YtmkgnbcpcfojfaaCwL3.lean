/- CrewAll. -/
import Derived.Test.YtmkgnbcpcfojfaaCwZ2
set_option linter.unusedVariables false
set_option linter.unusedSimpArgs false
set_option maxRecDepth 10000
namespace Go.Proofs.Ytmkgnbcpcfojfaa
open Go Go.Cv Go.Conc Go.ConcN
open Go.RowKit (Below)

def word (n : Int) : ByteArray := if n < 0 then { data := #[98, 101, 108, 111, 119] } else ({ data := #[97, 98, 99, 100, 101, 102] } : ByteArray).extract 0 (Int.tmod n 6).toNat
theorem tmod6 {n : Int} (h : 0 ≤ n) : 0 ≤ Int.tmod n 6 ∧ Int.tmod n 6 ≤ 6 := by
  have h1 := Int.tmod_nonneg 6 h
  have h2 := Int.tmod_lt_of_pos n (show (0 : Int) < 6 by decide)
  omega
theorem run3 {W : World} {jq : Option Addr} {l cj : Nat} {hands : Int} {A : Nat → Int} (hl : l ≤ cj) (ha : Rd (virt 58 W) jq l fun i => .int .i64 (A i)) :
    Ev Try.prog (fun v w' => v = .bool true ∧ Below W.heap.size W w') (solo (G (Frame.enter Try.prog 3 #[.slice jq l cj, .int .i64 hands] .normal) []) W) #[] := by
  refine root (f := 3) (by decide) Try.func3 (args := [.slice jq l cj, .int .i64 hands]) (Q := fun v => v = .bool true) (Eq.mpr (sh3_eq ..) ?_)
  unfold sh3
  have hC := coF_closed (fun v w' => v = .bool true ∧ Below W.heap.size W w')
  refine CallsJ.mono awake8 fun v w1 hv1 => ?_
  obtain ⟨rfl, k1⟩ := hv1
  refine ⟨true, rfl, ?_⟩
  refine cut9 (A := A) hC hl (ha.kept k1) fun w2 O cap k2 hO hcap hr => ⟨_, _, _, rfl, ?_⟩
  generalize hm : min l 300 = m at *
  refine all10 (A := A) (r := fun i => word (A i)) (by omega) hr rfl ⟨(11, #[], #[]), rfl, rfl, fun W' co hco i hi => ?_⟩ fun w3 O3 k3 hO3 hr3 => ⟨_, _, _, rfl, ?_⟩
  · refine c11 (x1 := A i) hco ?_
    unfold sh11
    by_cases h0 : A i < 0
    · have h1 : decide (A i < 0) = true := by simpa using h0
      rw [h1]
      exact ⟨by simp [word, h0], rfl⟩
    · have h1 : decide (A i < 0) = false := by simpa using h0
      rw [h1]
      obtain ⟨t1, t2⟩ := tmod6 (n := A i) (by omega)
      exact ⟨by decide, t1, t2, by simp [word, h0], rfl⟩
  · have e1 : (((m : Nat) : Int) != ((m : Nat) : Int)) = false := by simp
    rw [e1]
    have kk : Kept (virt 58 W) w3 := (k1.trans k2).trans k3
    refine ⟨fun vs w' => w' = w3 ∧ ∃ i : Nat, i ≤ m ∧ vs = [.bool false, .int .i64 i], fun vs _ => m - (match vs with | [_, .int _ k] => k.toNat | _ => 0), ⟨rfl, 0, by omega, rfl⟩, ?_⟩
    rintro w5 b3 n4 ⟨rfl, i, hi, hvs⟩
    simp only [List.cons.injEq, Value.bool.injEq, Value.int.injEq, and_true, true_and] at hvs
    obtain ⟨rfl, rfl⟩ := hvs
    by_cases hlt : i < m
    · have h1 : decide ((i : Int) < ((m : Nat) : Int)) = true := by simpa using hlt
      rw [h1]
      obtain ⟨q1, hq1, hc1⟩ := (hr.kept k3) i hlt
      obtain ⟨q2, hq2, hc2⟩ := hr3 i hlt
      have hw := wrap_small (i := i + 1) (by omega)
      simp only [Int.natCast_add, Int.natCast_one] at hw
      have next : ∀ s : ByteArray, s = word (A i) → (∃ q22 : Addr, some (adr O3) = some q22 ∧ 0 ≤ (i : Int) ∧ (i : Int) < ((m : Nat) : Int) ∧ ∃ s23 : ByteArray, w5.cell? (q22.add ((i : Int).toNat * 1)) = some (.string s23) ∧
          cond (!(s23.toList == s.toList)) (Value.bool false = .bool true ∧ Kept (virt 58 W) w5)
            ((w5 = w5 ∧ ∃ i' : Nat, i' ≤ m ∧ [Value.bool false, .int .i64 (IntKind.i64.wrap ((i : Int) + 1))] = [.bool false, .int .i64 i']) ∧ m - ((IntKind.i64.wrap ((i : Int) + 1))).toNat < m - (i : Int).toNat)) := by
        rintro s rfl
        refine ⟨q2, hq2, by omega, by omega, _, by simpa using hc2, ?_⟩
        have h2 : (!((word (A i)).toList == (word (A i)).toList)) = false := by simp
        rw [h2]
        refine ⟨⟨rfl, i + 1, by omega, by rw [hw]; simp⟩, ?_⟩
        rw [hw]
        omega
      refine ⟨q1, hq1, by omega, by omega, A i, by simpa using hc1, ?_⟩
      by_cases h0 : A i ≥ 0
      · have h3 : decide (A i ≥ 0) = true := by simpa using h0
        rw [h3]
        obtain ⟨t1, t2⟩ := tmod6 (n := A i) (by omega)
        refine ⟨by decide, t1, t2, ?_⟩
        exact next _ (by unfold word; rw [if_neg (by omega)])
      · have h3 : decide (A i ≥ 0) = false := by simpa using h0
        rw [h3]
        exact next _ (by unfold word; rw [if_pos (by omega)])
    · have h1 : decide ((i : Int) < ((m : Nat) : Int)) = false := by simpa using hlt
      rw [h1]
      exact ⟨rfl, kk⟩
end Go.Proofs.Ytmkgnbcpcfojfaa
