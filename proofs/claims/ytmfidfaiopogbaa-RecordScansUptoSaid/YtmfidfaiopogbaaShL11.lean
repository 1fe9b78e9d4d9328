/- The shallow texts of these functions, and that they are the code's own; printed by a program of this session (gosh.py). -/
import Derived.Test.YtmfidfaiopogbaaShX
set_option linter.unusedVariables false
set_option maxRecDepth 100000
namespace Go.Proofs.Ytmfidfaiopogbaa
open Go Go.Sh
/-- bramble/bramblelaw19.RecordLongest -/
def sh11 (b1 : Option Addr) (l_b1 : Nat) (c_b1 : Nat) (K : Value → World → Prop) (w : World) : Prop :=
  Calls Try.prog 36 #[] w (fun e2 w3 => ∃ (b4 : Bool), e2 = .returned (.bool b4) ∧ 
  cond (!b4)
    (K (.bool false) w3)
    (let p5 : Nat := w3.heap.size; let w6 : World := w3.alloc (.cells #[] 5); 
    RunWp Try.prog (Builtin.append_ #[36, 36] 36 #[.slice (some ⟨p5, 0, none⟩) 0 0, .slice b1 l_b1 c_b1]) (fun v7 w8 => ∃ (a9 : Option Addr), ∃ (l_a9 : Nat), ∃ (c_a9 : Nat), v7 = .slice a9 l_a9 c_a9 ∧ 
    Calls Try.prog 40 #[.slice a9 l_a9 c_a9] w8 (fun e10 w11 => ∃ (a12 : Option Addr), ∃ (l_a12 : Nat), ∃ (c_a12 : Nat), ∃ (n13 : Int), e10 = .returned (.tuple #[.slice a12 l_a12 c_a12, .int .i64 n13]) ∧ 
    let K16 : Bool → World → Prop := fun b14 w15 =>
        cond b14
          (K (.bool false) w15)
          (∃ (I21 : List Value → World → Prop) (μ22 : List Value → World → Nat), I21 [.bool false, .slice none 0 0, .int .i64 0] w15 ∧ ∀ (w20 : World) (b17 : Bool) (again18 : Option Addr) (l_again18 : Nat) (c_again18 : Nat) (n19 : Int), I21 [.bool b17, .slice again18 l_again18 c_again18, .int .i64 n19] w20 → 
          cond (decide (n19 < ((l_a12 : Nat) : Int)))
            (∃ q23 : Addr, a12 = some q23 ∧ 0 ≤ n19 ∧ n19 < (l_a12 : Nat) ∧ 
            ∃ (n24 : Int), ∃ (n25 : Int), ∃ (n26 : Int), ∃ (n27 : Int), ∃ (n28 : Int), w20.cell? (q23.add (n19.toNat * 5)) = some (.int .i64 n24) ∧ w20.cell? ((q23.add (n19.toNat * 5)).add 1) = some (.int .i64 n25) ∧ w20.cell? ((q23.add (n19.toNat * 5)).add 2) = some (.int .i64 n26) ∧ w20.cell? ((q23.add (n19.toNat * 5)).add 3) = some (.int .i64 n27) ∧ w20.cell? ((q23.add (n19.toNat * 5)).add 4) = some (.int .u32 n28) ∧ 
            let p29 : Nat := w20.heap.size; let w30 : World := w20.alloc (.cells #[.int .i64 0, .int .i64 0, .int .i64 0, .int .i64 0, .int .u32 0] 57); 
            wrN w30 (⟨p29, 0, none⟩ : Addr) 5 ∧ let w31 : World := setN (⟨p29, 0, none⟩ : Addr) 0 [.int .i64 n24, .int .i64 n25, .int .i64 n26, .int .i64 n27, .int .u32 n28] w30; 
            ∃ (op32 : Int), ∃ (op33 : Int), ∃ (op34 : Int), ∃ (op35 : Int), ∃ (op36 : Int), w31.cell? (⟨p29, 0, none⟩ : Addr) = some (.int .i64 op32) ∧ w31.cell? (⟨p29, 1, none⟩ : Addr) = some (.int .i64 op33) ∧ w31.cell? (⟨p29, 2, none⟩ : Addr) = some (.int .i64 op34) ∧ w31.cell? (⟨p29, 3, none⟩ : Addr) = some (.int .i64 op35) ∧ w31.cell? (⟨p29, 4, none⟩ : Addr) = some (.int .u32 op36) ∧ 
            Calls Try.prog 37 #[.agg #[.int .i64 op32, .int .i64 op33, .int .i64 op34, .int .i64 op35, .int .u32 op36]] w31 (fun e37 w38 => ∃ (a39 : Option Addr), ∃ (l_a39 : Nat), ∃ (c_a39 : Nat), ∃ (n40 : Int), e37 = .returned (.tuple #[.slice a39 l_a39 c_a39, .int .i64 n40]) ∧ 
            cond (n40 != (0 : Int))
              (K (.bool false) w38)
              (RunWp Try.prog (Builtin.append_ #[36, 36] 36 #[.slice again18 l_again18 c_again18, .slice a39 l_a39 c_a39]) (fun v41 w42 => ∃ (a43 : Option Addr), ∃ (l_a43 : Nat), ∃ (c_a43 : Nat), v41 = .slice a43 l_a43 c_a43 ∧ 
              I21 [.bool b17, .slice a43 l_a43 c_a43, .int .i64 (IntKind.i64.wrap (n19 + (1 : Int)))] w42 ∧ μ22 [.bool b17, .slice a43 l_a43 c_a43, .int .i64 (IntKind.i64.wrap (n19 + (1 : Int)))] w42 < μ22 [.bool b17, .slice again18 l_again18 c_again18, .int .i64 n19] w20) w38)))
            (let p44 : Nat := w20.heap.size; let w45 : World := w20.alloc (.cells #[] 5); 
            0 ≤ n13 ∧ n13 ≤ (c_b1 : Nat) ∧ 
            RunWp Try.prog (Builtin.append_ #[36, 36] 36 #[.slice (some ⟨p44, 0, none⟩) 0 0, .slice (subS b1 c_b1 0 1) (n13.toNat - 0) (c_b1 - 0)]) (fun v46 w47 => ∃ (a48 : Option Addr), ∃ (l_a48 : Nat), ∃ (c_a48 : Nat), v46 = .slice a48 l_a48 c_a48 ∧ 
            Calls Try.prog 40 #[.slice a48 l_a48 c_a48] w47 (fun e49 w50 => ∃ (a51 : Option Addr), ∃ (l_a51 : Nat), ∃ (c_a51 : Nat), ∃ (n52 : Int), e49 = .returned (.tuple #[.slice a51 l_a51 c_a51, .int .i64 n52]) ∧ 
            let p53 : Nat := w50.heap.size; let w54 : World := w50.alloc (.cells #[] 5); 
            0 ≤ n13 ∧ n13 ≤ (l_b1 : Nat) ∧ 
            RunWp Try.prog (Builtin.append_ #[36, 36] 36 #[.slice (some ⟨p53, 0, none⟩) 0 0, .slice (subS b1 c_b1 n13.toNat 1) (l_b1 - n13.toNat) (c_b1 - n13.toNat)]) (fun v55 w56 => ∃ (a57 : Option Addr), ∃ (l_a57 : Nat), ∃ (c_a57 : Nat), v55 = .slice a57 l_a57 c_a57 ∧ 
            Calls Try.prog 40 #[.slice a57 l_a57 c_a57] w56 (fun e58 w59 => ∃ (a60 : Option Addr), ∃ (l_a60 : Nat), ∃ (c_a60 : Nat), ∃ (n61 : Int), e58 = .returned (.tuple #[.slice a60 l_a60 c_a60, .int .i64 n61]) ∧ 
            let w62 : World := w59.drew; 
            RunWp Try.prog (convert 36 9 (.slice again18 l_again18 c_again18)) (fun v63 w64 => w64 = w62 ∧ ∃ (s65 : ByteArray), v63 = .string s65 ∧ 
            0 ≤ n13 ∧ n13 ≤ (c_b1 : Nat) ∧ 
            RunWp Try.prog (convert 36 9 (.slice (subS b1 c_b1 0 1) (n13.toNat - 0) (c_b1 - 0))) (fun v66 w67 => w67 = w62 ∧ ∃ (s68 : ByteArray), v66 = .string s68 ∧ 
            cond (s65.toList == s68.toList)
              (cond (n52 == n13)
                (Calls Try.prog 42 #[.slice a51 l_a51 c_a51, .slice a12 l_a12 c_a12] w62 (fun e69 w70 => ∃ (b71 : Bool), e69 = .returned (.bool b71) ∧ 
                cond b71
                  (cond (((l_a60 : Nat) : Int) == (0 : Int))
                    (K (.bool (n61 == (0 : Int))) w70)
                    (K (.bool false) w70))
                  (K (.bool false) w70)))
                (K (.bool false) w62))
              (K (.bool false) w62)) w62) w62)) w54)) w45))
    cond (decide (n13 < (0 : Int)))
      (K16 true w11)
      (K16 (decide (n13 > ((l_b1 : Nat) : Int))) w11))) w6))
theorem sh11_eq (b1 : Option Addr) (l_b1 : Nat) (c_b1 : Nat) (K : Value → World → Prop) (w : World) : denF X Try.f11 [.slice b1 l_b1 c_b1] K w = sh11 b1 l_b1 c_b1 K w := by kernel_rfl
theorem c11 {b1 : Option Addr} {l_b1 : Nat} {c_b1 : Nat} {w : World} {R : Ending → World → Prop} (h : sh11 b1 l_b1 c_b1 (fun v w' => R (.returned v) w') w) : Calls Try.prog 11 #[.slice b1 l_b1 c_b1] w R :=
  callOf Try.func11 (args := [.slice b1 l_b1 c_b1]) (Eq.mpr (sh11_eq b1 l_b1 c_b1 _ w) h)

end Go.Proofs.Ytmfidfaiopogbaa
