/- The shallow texts of these functions, and that they are the code's own; printed by a program of this session (gosh.py). -/
import Derived.Test.YtmfidfaiopogbaaShX
set_option linter.unusedVariables false
set_option maxRecDepth 100000
namespace Go.Proofs.Ytmfidfaiopogbaa
open Go Go.Sh
/-- bramble/bramblelaw20.LogDead -/
def sh15 (ops1 : Option Addr) (l_ops1 : Nat) (c_ops1 : Nat) (left2 : Int) (every3 : Int) (K : Value → World → Prop) (w : World) : Prop :=
  Calls Try.prog 53 #[] w (fun e4 w5 => ∃ (p6 : Option Addr), e4 = .returned (.pointer p6) ∧ 
  let K12 : Bool → World → Prop := fun b10 w11 =>
      cond b10
        (Calls Try.prog 45 #[] w11 (fun e13 w14 => ∃ (b15 : Bool), e13 = .returned (.bool b15) ∧ 
        cond b15
          (K (.bool (!p6.isNone)) w14)
          (K (.bool false) w14)))
        (Calls Try.prog 47 #[.pointer p6] w11 (fun e19 w20 => ∃ (p21 : Option Addr), ∃ (a22 : Option Addr), ∃ (l_a22 : Nat), ∃ (c_a22 : Nat), ∃ (n23 : Int), e19 = .returned (.tuple #[.pointer p21, .slice a22 l_a22 c_a22, .int .i64 n23]) ∧ 
        let K29 : Bool → World → Prop := fun b27 w28 =>
            cond b27
              (K (.bool false) w28)
              (Calls Try.prog 55 #[.slice ops1 l_ops1 c_ops1] w28 (fun e30 w31 => ∃ (a32 : Option Addr), ∃ (l_a32 : Nat), ∃ (c_a32 : Nat), e30 = .returned (.slice a32 l_a32 c_a32) ∧ 
              ∃ (I39 : List Value → World → Prop) (μ40 : List Value → World → Nat), I39 [.slice none 0 0, .bool false, .bool false, .int .i64 0, .int .i64 0] w31 ∧ ∀ (w38 : World) (done33 : Option Addr) (l_done33 : Nat) (c_done33 : Nat) (b34 : Bool) (dead35 : Bool) (safe36 : Int) (n37 : Int), I39 [.slice done33 l_done33 c_done33, .bool b34, .bool dead35, .int .i64 safe36, .int .i64 n37] w38 → 
              cond (decide (n37 < ((l_a32 : Nat) : Int)))
                (∃ q41 : Addr, a32 = some q41 ∧ 0 ≤ n37 ∧ n37 < (l_a32 : Nat) ∧ 
                ∃ (n42 : Int), ∃ (n43 : Int), ∃ (n44 : Int), ∃ (n45 : Int), ∃ (n46 : Int), w38.cell? (q41.add (n37.toNat * 5)) = some (.int .i64 n42) ∧ w38.cell? ((q41.add (n37.toNat * 5)).add 1) = some (.int .i64 n43) ∧ w38.cell? ((q41.add (n37.toNat * 5)).add 2) = some (.int .i64 n44) ∧ w38.cell? ((q41.add (n37.toNat * 5)).add 3) = some (.int .i64 n45) ∧ w38.cell? ((q41.add (n37.toNat * 5)).add 4) = some (.int .u32 n46) ∧ 
                let p47 : Nat := w38.heap.size; let w48 : World := w38.alloc (.cells #[.int .i64 0, .int .i64 0, .int .i64 0, .int .i64 0, .int .u32 0] 57); 
                wrN w48 (⟨p47, 0, none⟩ : Addr) 5 ∧ let w49 : World := setN (⟨p47, 0, none⟩ : Addr) 0 [.int .i64 n42, .int .i64 n43, .int .i64 n44, .int .i64 n45, .int .u32 n46] w48; 
                ∃ (op50 : Int), ∃ (op51 : Int), ∃ (op52 : Int), ∃ (op53 : Int), ∃ (op54 : Int), w49.cell? (⟨p47, 0, none⟩ : Addr) = some (.int .i64 op50) ∧ w49.cell? (⟨p47, 1, none⟩ : Addr) = some (.int .i64 op51) ∧ w49.cell? (⟨p47, 2, none⟩ : Addr) = some (.int .i64 op52) ∧ w49.cell? (⟨p47, 3, none⟩ : Addr) = some (.int .i64 op53) ∧ w49.cell? (⟨p47, 4, none⟩ : Addr) = some (.int .u32 op54) ∧ 
                Calls Try.prog 38 #[.agg #[.int .i64 op50, .int .i64 op51, .int .i64 op52, .int .i64 op53, .int .u32 op54]] w49 (fun e55 w56 => ∃ (n57 : Int), ∃ (n58 : Int), ∃ (n59 : Int), ∃ (n60 : Int), ∃ (n61 : Int), ∃ (n62 : Int), e55 = .returned (.tuple #[.agg #[.int .i64 n57, .int .i64 n58, .int .i64 n59, .int .i64 n60, .int .u32 n61], .int .i64 n62]) ∧ 
                let p63 : Nat := w56.heap.size; let w64 : World := w56.alloc (.cells #[.int .i64 0, .int .i64 0, .int .i64 0, .int .i64 0, .int .u32 0] 57); 
                wrN w64 (⟨p63, 0, none⟩ : Addr) 5 ∧ let w65 : World := setN (⟨p63, 0, none⟩ : Addr) 0 [.int .i64 n57, .int .i64 n58, .int .i64 n59, .int .i64 n60, .int .u32 n61] w64; 
                ∃ (op66 : Int), ∃ (op67 : Int), ∃ (op68 : Int), ∃ (op69 : Int), ∃ (op70 : Int), w65.cell? (⟨p47, 0, none⟩ : Addr) = some (.int .i64 op66) ∧ w65.cell? (⟨p47, 1, none⟩ : Addr) = some (.int .i64 op67) ∧ w65.cell? (⟨p47, 2, none⟩ : Addr) = some (.int .i64 op68) ∧ w65.cell? (⟨p47, 3, none⟩ : Addr) = some (.int .i64 op69) ∧ w65.cell? (⟨p47, 4, none⟩ : Addr) = some (.int .u32 op70) ∧ 
                Calls Try.prog 56 #[.pointer p21, .agg #[.int .i64 op66, .int .i64 op67, .int .i64 op68, .int .i64 op69, .int .u32 op70]] w65 (fun e71 w72 => ∃ (n73 : Int), e71 = .returned (.int .i64 n73) ∧ 
                cond (n62 != (0 : Int))
                  (cond (n73 != n62)
                    (K (.bool false) w72)
                    (I39 [.slice done33 l_done33 c_done33, .bool b34, .bool dead35, .int .i64 safe36, .int .i64 (IntKind.i64.wrap (n37 + (1 : Int)))] w72 ∧ μ40 [.slice done33 l_done33 c_done33, .bool b34, .bool dead35, .int .i64 safe36, .int .i64 (IntKind.i64.wrap (n37 + (1 : Int)))] w72 < μ40 [.slice done33 l_done33 c_done33, .bool b34, .bool dead35, .int .i64 safe36, .int .i64 n37] w38))
                  (let K79 : Bool → Bool → Bool → Bool → World → Prop := fun b74 b75 b76 b77 w78 =>
                      cond b77
                        (K (.bool false) w78)
                        (let K92 : Option Addr → Nat → Nat → World → Prop := fun a90 l_a90 c_a90 w91 =>
                            let K97 : Bool → Bool → Bool → World → Prop := fun b93 b94 b95 w96 =>
                                let K101 : Bool → Bool → World → Prop := fun b98 b99 w100 =>
                                    cond b99
                                      (Calls Try.prog 57 #[.pointer p21] w100 (fun e102 w103 => ∃ (n104 : Int), e102 = .returned (.int .i64 n104) ∧ 
                                      let K110 : Bool → Bool → Bool → Bool → World → Prop := fun b105 b106 b107 b108 w109 =>
                                          cond b108
                                            (K (.bool false) w109)
                                            (let K115 : Bool → Bool → Bool → World → Prop := fun b111 b112 b113 w114 =>
                                                cond (!b111)
                                                  (I39 [.slice a90 l_a90 c_a90, .bool b34, .bool b111, .int .i64 ((l_a90 : Nat) : Int), .int .i64 (IntKind.i64.wrap (n37 + (1 : Int)))] w114 ∧ μ40 [.slice a90 l_a90 c_a90, .bool b34, .bool b111, .int .i64 ((l_a90 : Nat) : Int), .int .i64 (IntKind.i64.wrap (n37 + (1 : Int)))] w114 < μ40 [.slice done33 l_done33 c_done33, .bool b34, .bool dead35, .int .i64 safe36, .int .i64 n37] w38)
                                                  (I39 [.slice a90 l_a90 c_a90, .bool b34, .bool b111, .int .i64 safe36, .int .i64 (IntKind.i64.wrap (n37 + (1 : Int)))] w114 ∧ μ40 [.slice a90 l_a90 c_a90, .bool b34, .bool b111, .int .i64 safe36, .int .i64 (IntKind.i64.wrap (n37 + (1 : Int)))] w114 < μ40 [.slice done33 l_done33 c_done33, .bool b34, .bool dead35, .int .i64 safe36, .int .i64 n37] w38)
                                            cond b93
                                              (K115 true true true w109)
                                              (K115 (n104 == (180 : Int)) false (n104 == (180 : Int)) w109))
                                      cond (n104 != (0 : Int))
                                        (cond (n104 != (180 : Int))
                                          (K110 true (n104 != (180 : Int)) true true w103)
                                          (cond b93
                                            (K110 true (n104 != (180 : Int)) false (n104 != (180 : Int)) w103)
                                            (K110 true (n104 != (180 : Int)) false false w103)))
                                        (cond b93
                                          (K110 false false false (n104 != (180 : Int)) w103)
                                          (K110 false false false false w103))))
                                      (I39 [.slice a90 l_a90 c_a90, .bool b34, .bool b93, .int .i64 safe36, .int .i64 (IntKind.i64.wrap (n37 + (1 : Int)))] w100 ∧ μ40 [.slice a90 l_a90 c_a90, .bool b34, .bool b93, .int .i64 safe36, .int .i64 (IntKind.i64.wrap (n37 + (1 : Int)))] w100 < μ40 [.slice done33 l_done33 c_done33, .bool b34, .bool dead35, .int .i64 safe36, .int .i64 n37] w38)
                                cond (decide (every3 > (0 : Int)))
                                  (every3 ≠ 0 ∧ 
                                  K101 true ((Int.tmod n37 every3) == (0 : Int)) w96)
                                  (K101 false false w96)
                            cond dead35
                              (K97 true true true w91)
                              (K97 (n73 == (180 : Int)) false (n73 == (180 : Int)) w91)
                        cond (!dead35)
                          (∃ (plain80 : Int), ∃ (plain81 : Int), ∃ (plain82 : Int), ∃ (plain83 : Int), ∃ (plain84 : Int), w78.cell? (⟨p63, 0, none⟩ : Addr) = some (.int .i64 plain80) ∧ w78.cell? (⟨p63, 1, none⟩ : Addr) = some (.int .i64 plain81) ∧ w78.cell? (⟨p63, 2, none⟩ : Addr) = some (.int .i64 plain82) ∧ w78.cell? (⟨p63, 3, none⟩ : Addr) = some (.int .i64 plain83) ∧ w78.cell? (⟨p63, 4, none⟩ : Addr) = some (.int .u32 plain84) ∧ 
                          let p85 : Nat := w78.heap.size; let w86 : World := w78.alloc (.cells #[.int .i64 plain80, .int .i64 plain81, .int .i64 plain82, .int .i64 plain83, .int .u32 plain84] 57); 
                          RunWp Try.prog (Builtin.append_ #[64, 64] 64 #[.slice done33 l_done33 c_done33, .slice (some ⟨p85, 0, none⟩) 1 1]) (fun v87 w88 => ∃ (a89 : Option Addr), ∃ (l_a89 : Nat), ∃ (c_a89 : Nat), v87 = .slice a89 l_a89 c_a89 ∧ 
                          K92 a89 l_a89 c_a89 w88) w86)
                          (K92 done33 l_done33 c_done33 w78))
                  cond dead35
                    (cond (n73 != (180 : Int))
                      (K79 true (n73 != (180 : Int)) true true w72)
                      (cond (n73 != (0 : Int))
                        (K79 true (n73 != (180 : Int)) false (n73 != (180 : Int)) w72)
                        (K79 true (n73 != (180 : Int)) false false w72)))
                    (cond (n73 != (0 : Int))
                      (K79 false false false (n73 != (180 : Int)) w72)
                      (K79 false false false false w72))))))
                (Calls Try.prog 58 #[.pointer p6, .slice none 0 0, .slice done33 l_done33 c_done33, .int .i64 safe36] w38 (fun e162 w163 => ∃ (b164 : Bool), e162 = .returned (.bool b164) ∧ 
                K (.bool b164) w163))))
        cond p21.isNone
          (K29 true w20)
          (cond (n23 != (0 : Int))
            (K29 true w20)
            (Calls Try.prog 54 #[.pointer p6, .int .i64 left2] w20 (fun e24 w25 => ∃ (n26 : Int), e24 = .returned (.int .i64 n26) ∧ 
            K29 (n26 != (0 : Int)) w25)))))
  Calls Try.prog 45 #[] w5 (fun e7 w8 => ∃ (b9 : Bool), e7 = .returned (.bool b9) ∧ 
  cond (!b9)
    (K12 true w8)
    (cond p6.isNone
      (K12 true w8)
      (K12 (decide (left2 < (0 : Int))) w8))))
theorem sh15_eq (ops1 : Option Addr) (l_ops1 : Nat) (c_ops1 : Nat) (left2 : Int) (every3 : Int) (K : Value → World → Prop) (w : World) : denF X Try.f15 [.slice ops1 l_ops1 c_ops1, .int .i64 left2, .int .i64 every3] K w = sh15 ops1 l_ops1 c_ops1 left2 every3 K w := by kernel_rfl
theorem c15 {ops1 : Option Addr} {l_ops1 : Nat} {c_ops1 : Nat} {left2 : Int} {every3 : Int} {w : World} {R : Ending → World → Prop} (h : sh15 ops1 l_ops1 c_ops1 left2 every3 (fun v w' => R (.returned v) w') w) : Calls Try.prog 15 #[.slice ops1 l_ops1 c_ops1, .int .i64 left2, .int .i64 every3] w R :=
  callOf Try.func15 (args := [.slice ops1 l_ops1 c_ops1, .int .i64 left2, .int .i64 every3]) (Eq.mpr (sh15_eq ops1 l_ops1 c_ops1 left2 every3 _ w) h)

end Go.Proofs.Ytmfidfaiopogbaa
