/- The shallow texts of these functions, and that they are the code's own; printed by a program of this session (gosh.py). -/
import Derived.Test.YtmfidfaiopogbaaShX
set_option linter.unusedVariables false
set_option maxRecDepth 100000
namespace Go.Proofs.Ytmfidfaiopogbaa
open Go Go.Sh
/-- bramble/bramblelaw20.LogOwn -/
def sh17 (ops1 : Option Addr) (l_ops1 : Nat) (c_ops1 : Nat) (K : Value → World → Prop) (w : World) : Prop :=
  Calls Try.prog 53 #[] w (fun e2 w3 => ∃ (p4 : Option Addr), e2 = .returned (.pointer p4) ∧ 
  let K10 : Bool → World → Prop := fun b8 w9 =>
      cond b8
        (K (.bool false) w9)
        (Calls Try.prog 55 #[.slice ops1 l_ops1 c_ops1] w9 (fun e11 w12 => ∃ (a13 : Option Addr), ∃ (l_a13 : Nat), ∃ (c_a13 : Nat), e11 = .returned (.slice a13 l_a13 c_a13) ∧ 
        ∃ (I17 : List Value → World → Prop) (μ18 : List Value → World → Nat), I17 [.slice none 0 0, .int .i64 0] w12 ∧ ∀ (w16 : World) (good14 : Option Addr) (l_good14 : Nat) (c_good14 : Nat) (n15 : Int), I17 [.slice good14 l_good14 c_good14, .int .i64 n15] w16 → 
        cond (decide (n15 < ((l_a13 : Nat) : Int)))
          (∃ q19 : Addr, a13 = some q19 ∧ 0 ≤ n15 ∧ n15 < (l_a13 : Nat) ∧ 
          ∃ (n20 : Int), ∃ (n21 : Int), ∃ (n22 : Int), ∃ (n23 : Int), ∃ (n24 : Int), w16.cell? (q19.add (n15.toNat * 5)) = some (.int .i64 n20) ∧ w16.cell? ((q19.add (n15.toNat * 5)).add 1) = some (.int .i64 n21) ∧ w16.cell? ((q19.add (n15.toNat * 5)).add 2) = some (.int .i64 n22) ∧ w16.cell? ((q19.add (n15.toNat * 5)).add 3) = some (.int .i64 n23) ∧ w16.cell? ((q19.add (n15.toNat * 5)).add 4) = some (.int .u32 n24) ∧ 
          let p25 : Nat := w16.heap.size; let w26 : World := w16.alloc (.cells #[.int .i64 0, .int .i64 0, .int .i64 0, .int .i64 0, .int .u32 0] 57); 
          wrN w26 (⟨p25, 0, none⟩ : Addr) 5 ∧ let w27 : World := setN (⟨p25, 0, none⟩ : Addr) 0 [.int .i64 n20, .int .i64 n21, .int .i64 n22, .int .i64 n23, .int .u32 n24] w26; 
          ∃ (op28 : Int), ∃ (op29 : Int), ∃ (op30 : Int), ∃ (op31 : Int), ∃ (op32 : Int), w27.cell? (⟨p25, 0, none⟩ : Addr) = some (.int .i64 op28) ∧ w27.cell? (⟨p25, 1, none⟩ : Addr) = some (.int .i64 op29) ∧ w27.cell? (⟨p25, 2, none⟩ : Addr) = some (.int .i64 op30) ∧ w27.cell? (⟨p25, 3, none⟩ : Addr) = some (.int .i64 op31) ∧ w27.cell? (⟨p25, 4, none⟩ : Addr) = some (.int .u32 op32) ∧ 
          Calls Try.prog 38 #[.agg #[.int .i64 op28, .int .i64 op29, .int .i64 op30, .int .i64 op31, .int .u32 op32]] w27 (fun e33 w34 => ∃ (n35 : Int), ∃ (n36 : Int), ∃ (n37 : Int), ∃ (n38 : Int), ∃ (n39 : Int), ∃ (n40 : Int), e33 = .returned (.tuple #[.agg #[.int .i64 n35, .int .i64 n36, .int .i64 n37, .int .i64 n38, .int .u32 n39], .int .i64 n40]) ∧ 
          let p41 : Nat := w34.heap.size; let w42 : World := w34.alloc (.cells #[.int .i64 0, .int .i64 0, .int .i64 0, .int .i64 0, .int .u32 0] 57); 
          wrN w42 (⟨p41, 0, none⟩ : Addr) 5 ∧ let w43 : World := setN (⟨p41, 0, none⟩ : Addr) 0 [.int .i64 n35, .int .i64 n36, .int .i64 n37, .int .i64 n38, .int .u32 n39] w42; 
          cond (n40 == (0 : Int))
            (∃ (plain44 : Int), ∃ (plain45 : Int), ∃ (plain46 : Int), ∃ (plain47 : Int), ∃ (plain48 : Int), w43.cell? (⟨p41, 0, none⟩ : Addr) = some (.int .i64 plain44) ∧ w43.cell? (⟨p41, 1, none⟩ : Addr) = some (.int .i64 plain45) ∧ w43.cell? (⟨p41, 2, none⟩ : Addr) = some (.int .i64 plain46) ∧ w43.cell? (⟨p41, 3, none⟩ : Addr) = some (.int .i64 plain47) ∧ w43.cell? (⟨p41, 4, none⟩ : Addr) = some (.int .u32 plain48) ∧ 
            let p49 : Nat := w43.heap.size; let w50 : World := w43.alloc (.cells #[.int .i64 plain44, .int .i64 plain45, .int .i64 plain46, .int .i64 plain47, .int .u32 plain48] 57); 
            RunWp Try.prog (Builtin.append_ #[64, 64] 64 #[.slice good14 l_good14 c_good14, .slice (some ⟨p49, 0, none⟩) 1 1]) (fun v51 w52 => ∃ (a53 : Option Addr), ∃ (l_a53 : Nat), ∃ (c_a53 : Nat), v51 = .slice a53 l_a53 c_a53 ∧ 
            I17 [.slice a53 l_a53 c_a53, .int .i64 (IntKind.i64.wrap (n15 + (1 : Int)))] w52 ∧ μ18 [.slice a53 l_a53 c_a53, .int .i64 (IntKind.i64.wrap (n15 + (1 : Int)))] w52 < μ18 [.slice good14 l_good14 c_good14, .int .i64 n15] w16) w50)
            (I17 [.slice good14 l_good14 c_good14, .int .i64 (IntKind.i64.wrap (n15 + (1 : Int)))] w43 ∧ μ18 [.slice good14 l_good14 c_good14, .int .i64 (IntKind.i64.wrap (n15 + (1 : Int)))] w43 < μ18 [.slice good14 l_good14 c_good14, .int .i64 n15] w16)))
          (Calls Try.prog 47 #[.pointer p4] w16 (fun e91 w92 => ∃ (p93 : Option Addr), ∃ (a94 : Option Addr), ∃ (l_a94 : Nat), ∃ (c_a94 : Nat), ∃ (n95 : Int), e91 = .returned (.tuple #[.pointer p93, .slice a94 l_a94 c_a94, .int .i64 n95]) ∧ 
          let K98 : Bool → World → Prop := fun b96 w97 =>
              cond b96
                (K (.bool false) w97)
                (let p99 : Nat := w97.heap.size; let w100 : World := w97.alloc (.cells #[] 57); 
                RunWp Try.prog (Builtin.append_ #[64, 64] 64 #[.slice (some ⟨p99, 0, none⟩) 0 0, .slice good14 l_good14 c_good14]) (fun v101 w102 => ∃ (a103 : Option Addr), ∃ (l_a103 : Nat), ∃ (c_a103 : Nat), v101 = .slice a103 l_a103 c_a103 ∧ 
                let p104 : Nat := w102.heap.size; let w105 : World := w102.alloc (.cells #[.int .i64 55, .int .i64 0, .int .i64 0, .int .i64 0, .int .u32 0] 57); 
                RunWp Try.prog (Builtin.append_ #[64, 64] 64 #[.slice a103 l_a103 c_a103, .slice (some ⟨p104, 0, none⟩) 1 1]) (fun v106 w107 => ∃ (a108 : Option Addr), ∃ (l_a108 : Nat), ∃ (c_a108 : Nat), v106 = .slice a108 l_a108 c_a108 ∧ 
                let K119 : Bool → World → Prop := fun b117 w118 =>
                    cond b117
                      (K (.bool false) w118)
                      (∃ (I122 : List Value → World → Prop) (μ123 : List Value → World → Nat), I122 [.int .i64 0] w118 ∧ ∀ (w121 : World) (n120 : Int), I122 [.int .i64 n120] w121 → 
                      cond (decide (n120 < ((l_a108 : Nat) : Int)))
                        (∃ q124 : Addr, a108 = some q124 ∧ 0 ≤ n120 ∧ n120 < (l_a108 : Nat) ∧ 
                        wrN w121 (q124.add (n120.toNat * 5)) 5 ∧ let w125 : World := setN (q124.add (n120.toNat * 5)) 0 [.int .i64 0, .int .i64 0, .int .i64 0, .int .i64 0, .int .u32 0] w121; 
                        I122 [.int .i64 (IntKind.i64.wrap (n120 + (1 : Int)))] w125 ∧ μ123 [.int .i64 (IntKind.i64.wrap (n120 + (1 : Int)))] w125 < μ123 [.int .i64 n120] w121)
                        (Calls Try.prog 47 #[.pointer p4] w121 (fun e126 w127 => ∃ (p128 : Option Addr), ∃ (a129 : Option Addr), ∃ (l_a129 : Nat), ∃ (c_a129 : Nat), ∃ (n130 : Int), e126 = .returned (.tuple #[.pointer p128, .slice a129 l_a129 c_a129, .int .i64 n130]) ∧ 
                        Calls Try.prog 47 #[.pointer p4] w127 (fun e131 w132 => ∃ (p133 : Option Addr), ∃ (a134 : Option Addr), ∃ (l_a134 : Nat), ∃ (c_a134 : Nat), ∃ (n135 : Int), e131 = .returned (.tuple #[.pointer p133, .slice a134 l_a134 c_a134, .int .i64 n135]) ∧ 
                        ∃ (I138 : List Value → World → Prop) (μ139 : List Value → World → Nat), I138 [.int .i64 0] w132 ∧ ∀ (w137 : World) (n136 : Int), I138 [.int .i64 n136] w137 → 
                        cond (decide (n136 < ((l_a129 : Nat) : Int)))
                          (∃ q140 : Addr, a129 = some q140 ∧ 0 ≤ n136 ∧ n136 < (l_a129 : Nat) ∧ 
                          wrN w137 (q140.add (n136.toNat * 5)) 5 ∧ let w141 : World := setN (q140.add (n136.toNat * 5)) 0 [.int .i64 66, .int .i64 0, .int .i64 0, .int .i64 0, .int .u32 0] w137; 
                          I138 [.int .i64 (IntKind.i64.wrap (n136 + (1 : Int)))] w141 ∧ μ139 [.int .i64 (IntKind.i64.wrap (n136 + (1 : Int)))] w141 < μ139 [.int .i64 n136] w137)
                          (∃ (I145 : List Value → World → Prop) (μ146 : List Value → World → Nat), I145 [.slice a129 l_a129 c_a129, .int .i64 0] w137 ∧ ∀ (w144 : World) (one142 : Option Addr) (l_one142 : Nat) (c_one142 : Nat) (i143 : Int), I145 [.slice one142 l_one142 c_one142, .int .i64 i143] w144 → 
                          cond (decide (i143 < (20 : Int)))
                            (let p147 : Nat := w144.heap.size; let w148 : World := w144.alloc (.cells #[.int .i64 67, .int .i64 0, .int .i64 0, .int .i64 0, .int .u32 0] 57); 
                            RunWp Try.prog (Builtin.append_ #[64, 64] 64 #[.slice one142 l_one142 c_one142, .slice (some ⟨p147, 0, none⟩) 1 1]) (fun v149 w150 => ∃ (a151 : Option Addr), ∃ (l_a151 : Nat), ∃ (c_a151 : Nat), v149 = .slice a151 l_a151 c_a151 ∧ 
                            I145 [.slice a151 l_a151 c_a151, .int .i64 (IntKind.i64.wrap (i143 + (1 : Int)))] w150 ∧ μ146 [.slice a151 l_a151 c_a151, .int .i64 (IntKind.i64.wrap (i143 + (1 : Int)))] w150 < μ146 [.slice one142 l_one142 c_one142, .int .i64 i143] w144) w148)
                            (Calls Try.prog 42 #[.slice a134 l_a134 c_a134, .slice good14 l_good14 c_good14] w144 (fun e152 w153 => ∃ (b154 : Bool), e152 = .returned (.bool b154) ∧ 
                            cond b154
                              (K (.bool (((l_one142 : Nat) : Int) == (IntKind.i64.wrap (((l_good14 : Nat) : Int) + (20 : Int))))) w153)
                              (K (.bool false) w153))))))))
                0 ≤ ((l_good14 : Nat) : Int) ∧ ((l_good14 : Nat) : Int) ≤ (c_a108 : Nat) ∧ 
                Calls Try.prog 59 #[.pointer p93, .slice (subS a108 c_a108 0 5) ((((l_good14 : Nat) : Int).toNat) - 0) (c_a108 - 0)] w107 (fun e109 w110 => ∃ (n111 : Int), e109 = .returned (.int .i64 n111) ∧ 
                cond (n111 != (0 : Int))
                  (K119 true w110)
                  (0 ≤ ((l_good14 : Nat) : Int) ∧ ((l_good14 : Nat) : Int) ≤ (c_a108 : Nat) ∧ 
                  Calls Try.prog 42 #[.slice (subS a108 c_a108 0 5) ((((l_good14 : Nat) : Int).toNat) - 0) (c_a108 - 0), .slice good14 l_good14 c_good14] w110 (fun e112 w113 => ∃ (b114 : Bool), e112 = .returned (.bool b114) ∧ 
                  cond (!b114)
                    (K119 true w113)
                    (∃ q115 : Addr, a108 = some q115 ∧ 0 ≤ ((l_good14 : Nat) : Int) ∧ ((l_good14 : Nat) : Int) < (l_a108 : Nat) ∧ 
                    ∃ (Kind116 : Int), w113.cell? (q115.add (((l_good14 : Nat) : Int).toNat * 5)) = some (.int .i64 Kind116) ∧ 
                    K119 (Kind116 != (55 : Int)) w113))))) w105) w100)
          cond p93.isNone
            (K98 true w92)
            (K98 (n95 != (0 : Int)) w92)))))
  Calls Try.prog 45 #[] w3 (fun e5 w6 => ∃ (b7 : Bool), e5 = .returned (.bool b7) ∧ 
  cond (!b7)
    (K10 true w6)
    (K10 p4.isNone w6)))
theorem sh17_eq (ops1 : Option Addr) (l_ops1 : Nat) (c_ops1 : Nat) (K : Value → World → Prop) (w : World) : denF X Try.f17 [.slice ops1 l_ops1 c_ops1] K w = sh17 ops1 l_ops1 c_ops1 K w := by kernel_rfl
theorem c17 {ops1 : Option Addr} {l_ops1 : Nat} {c_ops1 : Nat} {w : World} {R : Ending → World → Prop} (h : sh17 ops1 l_ops1 c_ops1 (fun v w' => R (.returned v) w') w) : Calls Try.prog 17 #[.slice ops1 l_ops1 c_ops1] w R :=
  callOf Try.func17 (args := [.slice ops1 l_ops1 c_ops1]) (Eq.mpr (sh17_eq ops1 l_ops1 c_ops1 _ w) h)

end Go.Proofs.Ytmfidfaiopogbaa
