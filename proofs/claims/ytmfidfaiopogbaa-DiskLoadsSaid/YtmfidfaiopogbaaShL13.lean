/- The shallow texts of these functions, and that they are the code's own; printed by a program of this session (gosh.py). -/
import Derived.Test.YtmfidfaiopogbaaShX
set_option linter.unusedVariables false
set_option maxRecDepth 100000
namespace Go.Proofs.Ytmfidfaiopogbaa
open Go Go.Sh
/-- bramble/bramblelaw18.DiskLoads -/
def sh13 (files1 : Option Addr) (l_files1 : Nat) (c_files1 : Nat) (script2 : Option Addr) (l_script2 : Nat) (c_script2 : Nat) (K : Value → World → Prop) (w : World) : Prop :=
  Calls Try.prog 22 #[] w (fun e3 w4 => ∃ (b5 : Bool), e3 = .returned (.bool b5) ∧ 
  cond (!b5)
    (K (.bool false) w4)
    (∃ (I9 : List Value → World → Prop) (μ10 : List Value → World → Nat), I9 [.slice none 0 0, .int .i64 0] w4 ∧ ∀ (w8 : World) (in6 : Option Addr) (l_in6 : Nat) (c_in6 : Nat) (n7 : Int), I9 [.slice in6 l_in6 c_in6, .int .i64 n7] w8 → 
    cond (decide (n7 < ((l_files1 : Nat) : Int)))
      (∃ q11 : Addr, files1 = some q11 ∧ 0 ≤ n7 ∧ n7 < (l_files1 : Nat) ∧ 
      ∃ (a12 : Option Addr), ∃ (l_a12 : Nat), ∃ (c_a12 : Nat), w8.cell? (q11.add (n7.toNat * 1)) = some (.slice a12 l_a12 c_a12) ∧ 
      let p13 : Nat := w8.heap.size; let w14 : World := w8.alloc (.cells #[] 5); 
      RunWp Try.prog (Builtin.append_ #[36, 36] 36 #[.slice (some ⟨p13, 0, none⟩) 0 0, .slice a12 l_a12 c_a12]) (fun v15 w16 => ∃ (a17 : Option Addr), ∃ (l_a17 : Nat), ∃ (c_a17 : Nat), v15 = .slice a17 l_a17 c_a17 ∧ 
      let p18 : Nat := w16.heap.size; let w19 : World := w16.alloc (.cells #[.slice a17 l_a17 c_a17] 36); 
      RunWp Try.prog (Builtin.append_ #[48, 48] 48 #[.slice in6 l_in6 c_in6, .slice (some ⟨p18, 0, none⟩) 1 1]) (fun v20 w21 => ∃ (a22 : Option Addr), ∃ (l_a22 : Nat), ∃ (c_a22 : Nat), v20 = .slice a22 l_a22 c_a22 ∧ 
      I9 [.slice a22 l_a22 c_a22, .int .i64 (IntKind.i64.wrap (n7 + (1 : Int)))] w21 ∧ μ10 [.slice a22 l_a22 c_a22, .int .i64 (IntKind.i64.wrap (n7 + (1 : Int)))] w21 < μ10 [.slice in6 l_in6 c_in6, .int .i64 n7] w8) w19) w14)
      (Calls Try.prog 33 #[.slice in6 l_in6 c_in6] w8 (fun e23 w24 => ∃ (p25 : Option Addr), ∃ (n26 : Int), e23 = .returned (.tuple #[.pointer p25, .int .i64 n26]) ∧ 
      Calls Try.prog 44 #[.slice files1 l_files1 c_files1] w24 (fun e27 w28 => ∃ (a29 : Option Addr), ∃ (l_a29 : Nat), ∃ (c_a29 : Nat), ∃ (n30 : Int), ∃ (b31 : Bool), ∃ (n32 : Int), ∃ (n33 : Int), e27 = .returned (.tuple #[.agg #[.slice a29 l_a29 c_a29, .int .i64 n30, .bool b31, .int .i64 n32], .int .i64 n33]) ∧ 
      let p34 : Nat := w28.heap.size; let w35 : World := w28.alloc (.cells #[.slice none 0 0, .int .i64 0, .bool false, .int .i64 0] 26); 
      wrN w35 (⟨p34, 0, none⟩ : Addr) 4 ∧ let w36 : World := setN (⟨p34, 0, none⟩ : Addr) 0 [.slice a29 l_a29 c_a29, .int .i64 n30, .bool b31, .int .i64 n32] w35; 
      cond (n26 != n33)
        (K (.bool false) w36)
        (cond (n33 != (0 : Int))
          (K (.bool p25.isNone) w36)
          (∃ (I39 : List Value → World → Prop) (μ40 : List Value → World → Nat), I39 [.int .i64 0] w36 ∧ ∀ (w38 : World) (n37 : Int), I39 [.int .i64 n37] w38 → 
          cond (decide (n37 < ((l_in6 : Nat) : Int)))
            (∃ q41 : Addr, in6 = some q41 ∧ 0 ≤ n37 ∧ n37 < (l_in6 : Nat) ∧ 
            ∃ (a42 : Option Addr), ∃ (l_a42 : Nat), ∃ (c_a42 : Nat), w38.cell? (q41.add (n37.toNat * 1)) = some (.slice a42 l_a42 c_a42) ∧ 
            ∃ (I45 : List Value → World → Prop) (μ46 : List Value → World → Nat), I45 [.int .i64 0] w38 ∧ ∀ (w44 : World) (n43 : Int), I45 [.int .i64 n43] w44 → 
            cond (decide (n43 < ((l_a42 : Nat) : Int)))
              (∃ q47 : Addr, a42 = some q47 ∧ 0 ≤ n43 ∧ n43 < (l_a42 : Nat) ∧ 
              wr w44 (q47.add (n43.toNat * 1)) ∧ let w48 : World := w44.setCell (q47.add (n43.toNat * 1)) (.int .u8 0); 
              I45 [.int .i64 (IntKind.i64.wrap (n43 + (1 : Int)))] w48 ∧ μ46 [.int .i64 (IntKind.i64.wrap (n43 + (1 : Int)))] w48 < μ46 [.int .i64 n43] w44)
              (I39 [.int .i64 (IntKind.i64.wrap (n37 + (1 : Int)))] w44 ∧ μ40 [.int .i64 (IntKind.i64.wrap (n37 + (1 : Int)))] w44 < μ40 [.int .i64 n37] w38))
            (let K58 : Bool → World → Prop := fun b56 w57 =>
                ∃ (I63 : List Value → World → Prop) (μ64 : List Value → World → Nat), I63 [.pointer p25, .bool b56, .int .i64 0] w57 ∧ ∀ (w62 : World) (d59 : Option Addr) (ok60 : Bool) (i61 : Int), I63 [.pointer d59, .bool ok60, .int .i64 i61] w62 → 
                let K70 : Bool → Bool → Bool → Bool → World → Prop := fun b65 b66 b67 b68 w69 =>
                    cond b68
                      (let w71 : World := w69.drew; 
                      ∃ (m72 : Option Addr), ∃ (l_m72 : Nat), ∃ (c_m72 : Nat), ∃ (m73 : Int), ∃ (m74 : Bool), ∃ (m75 : Int), w71.cell? (⟨p34, 0, none⟩ : Addr) = some (.slice m72 l_m72 c_m72) ∧ w71.cell? (⟨p34, 1, none⟩ : Addr) = some (.int .i64 m73) ∧ w71.cell? (⟨p34, 2, none⟩ : Addr) = some (.bool m74) ∧ w71.cell? (⟨p34, 3, none⟩ : Addr) = some (.int .i64 m75) ∧ 
                      ∃ q76 : Addr, script2 = some q76 ∧ 0 ≤ i61 ∧ i61 < (l_script2 : Nat) ∧ 
                      ∃ (n77 : Int), ∃ (n78 : Int), ∃ (n79 : Int), ∃ (a80 : Option Addr), ∃ (l_a80 : Nat), ∃ (c_a80 : Nat), w71.cell? (q76.add (i61.toNat * 4)) = some (.int .i64 n77) ∧ w71.cell? ((q76.add (i61.toNat * 4)).add 1) = some (.int .i64 n78) ∧ w71.cell? ((q76.add (i61.toNat * 4)).add 2) = some (.int .i64 n79) ∧ w71.cell? ((q76.add (i61.toNat * 4)).add 3) = some (.slice a80 l_a80 c_a80) ∧ 
                      Calls Try.prog 28 #[.pointer d59, .agg #[.slice m72 l_m72 c_m72, .int .i64 m73, .bool m74, .int .i64 m75], .agg #[.int .i64 n77, .int .i64 n78, .int .i64 n79, .slice a80 l_a80 c_a80]] w71 (fun e81 w82 => ∃ (p83 : Option Addr), ∃ (a84 : Option Addr), ∃ (l_a84 : Nat), ∃ (c_a84 : Nat), ∃ (n85 : Int), ∃ (b86 : Bool), ∃ (n87 : Int), ∃ (b88 : Bool), e81 = .returned (.tuple #[.pointer p83, .agg #[.slice a84 l_a84 c_a84, .int .i64 n85, .bool b86, .int .i64 n87], .bool b88]) ∧ 
                      wrN w82 (⟨p34, 0, none⟩ : Addr) 4 ∧ let w89 : World := setN (⟨p34, 0, none⟩ : Addr) 0 [.slice a84 l_a84 c_a84, .int .i64 n85, .bool b86, .int .i64 n87] w82; 
                      I63 [.pointer p83, .bool b88, .int .i64 (IntKind.i64.wrap (i61 + (1 : Int)))] w89 ∧ μ64 [.pointer p83, .bool b88, .int .i64 (IntKind.i64.wrap (i61 + (1 : Int)))] w89 < μ64 [.pointer d59, .bool ok60, .int .i64 i61] w62))
                      (K (.bool ok60) w69)
                cond (decide (i61 < ((l_script2 : Nat) : Int)))
                  (cond (decide (i61 < (120 : Int)))
                    (K70 true (decide (i61 < (120 : Int))) true ok60 w62)
                    (K70 true (decide (i61 < (120 : Int))) false false w62))
                  (K70 false false false false w62)
            cond (!p25.isNone)
              (∃ (m49 : Option Addr), ∃ (l_m49 : Nat), ∃ (c_m49 : Nat), ∃ (m50 : Int), ∃ (m51 : Bool), ∃ (m52 : Int), w38.cell? (⟨p34, 0, none⟩ : Addr) = some (.slice m49 l_m49 c_m49) ∧ w38.cell? (⟨p34, 1, none⟩ : Addr) = some (.int .i64 m50) ∧ w38.cell? (⟨p34, 2, none⟩ : Addr) = some (.bool m51) ∧ w38.cell? (⟨p34, 3, none⟩ : Addr) = some (.int .i64 m52) ∧ 
              Calls Try.prog 25 #[.pointer p25, .agg #[.slice m49 l_m49 c_m49, .int .i64 m50, .bool m51, .int .i64 m52]] w38 (fun e53 w54 => ∃ (b55 : Bool), e53 = .returned (.bool b55) ∧ 
              K58 b55 w54))
              (K58 false w38)))))))))
theorem sh13_eq (files1 : Option Addr) (l_files1 : Nat) (c_files1 : Nat) (script2 : Option Addr) (l_script2 : Nat) (c_script2 : Nat) (K : Value → World → Prop) (w : World) : denF X Try.f13 [.slice files1 l_files1 c_files1, .slice script2 l_script2 c_script2] K w = sh13 files1 l_files1 c_files1 script2 l_script2 c_script2 K w := by kernel_rfl
theorem c13 {files1 : Option Addr} {l_files1 : Nat} {c_files1 : Nat} {script2 : Option Addr} {l_script2 : Nat} {c_script2 : Nat} {w : World} {R : Ending → World → Prop} (h : sh13 files1 l_files1 c_files1 script2 l_script2 c_script2 (fun v w' => R (.returned v) w') w) : Calls Try.prog 13 #[.slice files1 l_files1 c_files1, .slice script2 l_script2 c_script2] w R :=
  callOf Try.func13 (args := [.slice files1 l_files1 c_files1, .slice script2 l_script2 c_script2]) (Eq.mpr (sh13_eq files1 l_files1 c_files1 script2 l_script2 c_script2 _ w) h)

end Go.Proofs.Ytmfidfaiopogbaa
