/- The shallow texts of these functions, and that they are the code's own; printed by a program of this session (gosh.py). -/
import Derived.Test.YtmfidfaiopogbaaShX
set_option linter.unusedVariables false
set_option maxRecDepth 100000
namespace Go.Proofs.Ytmfidfaiopogbaa
open Go Go.Sh
/-- bramble/bramblelaw19.RecordEncodes -/
def sh8 (op1 : Int) (op2 : Int) (op3 : Int) (op4 : Int) (op5 : Int) (K : Value → World → Prop) (w : World) : Prop :=
  let p6 : Nat := w.heap.size; let w7 : World := w.alloc (.cells #[.int .i64 op1, .int .i64 op2, .int .i64 op3, .int .i64 op4, .int .u32 op5] 57); 
  Calls Try.prog 36 #[] w7 (fun e8 w9 => ∃ (b10 : Bool), e8 = .returned (.bool b10) ∧ 
  cond (!b10)
    (K (.bool false) w9)
    (∃ (op11 : Int), ∃ (op12 : Int), ∃ (op13 : Int), ∃ (op14 : Int), ∃ (op15 : Int), w9.cell? (⟨p6, 0, none⟩ : Addr) = some (.int .i64 op11) ∧ w9.cell? (⟨p6, 1, none⟩ : Addr) = some (.int .i64 op12) ∧ w9.cell? (⟨p6, 2, none⟩ : Addr) = some (.int .i64 op13) ∧ w9.cell? (⟨p6, 3, none⟩ : Addr) = some (.int .i64 op14) ∧ w9.cell? (⟨p6, 4, none⟩ : Addr) = some (.int .u32 op15) ∧ 
    Calls Try.prog 37 #[.agg #[.int .i64 op11, .int .i64 op12, .int .i64 op13, .int .i64 op14, .int .u32 op15]] w9 (fun e16 w17 => ∃ (a18 : Option Addr), ∃ (l_a18 : Nat), ∃ (c_a18 : Nat), ∃ (n19 : Int), e16 = .returned (.tuple #[.slice a18 l_a18 c_a18, .int .i64 n19]) ∧ 
    ∃ (op20 : Int), ∃ (op21 : Int), ∃ (op22 : Int), ∃ (op23 : Int), ∃ (op24 : Int), w17.cell? (⟨p6, 0, none⟩ : Addr) = some (.int .i64 op20) ∧ w17.cell? (⟨p6, 1, none⟩ : Addr) = some (.int .i64 op21) ∧ w17.cell? (⟨p6, 2, none⟩ : Addr) = some (.int .i64 op22) ∧ w17.cell? (⟨p6, 3, none⟩ : Addr) = some (.int .i64 op23) ∧ w17.cell? (⟨p6, 4, none⟩ : Addr) = some (.int .u32 op24) ∧ 
    Calls Try.prog 38 #[.agg #[.int .i64 op20, .int .i64 op21, .int .i64 op22, .int .i64 op23, .int .u32 op24]] w17 (fun e25 w26 => ∃ (n27 : Int), ∃ (n28 : Int), ∃ (n29 : Int), ∃ (n30 : Int), ∃ (n31 : Int), ∃ (n32 : Int), e25 = .returned (.tuple #[.agg #[.int .i64 n27, .int .i64 n28, .int .i64 n29, .int .i64 n30, .int .u32 n31], .int .i64 n32]) ∧ 
    let p33 : Nat := w26.heap.size; let w34 : World := w26.alloc (.cells #[.int .i64 0, .int .i64 0, .int .i64 0, .int .i64 0, .int .u32 0] 57); 
    wrN w34 (⟨p33, 0, none⟩ : Addr) 5 ∧ let w35 : World := setN (⟨p33, 0, none⟩ : Addr) 0 [.int .i64 n27, .int .i64 n28, .int .i64 n29, .int .i64 n30, .int .u32 n31] w34; 
    cond (n19 != n32)
      (K (.bool false) w35)
      (cond (n32 != (0 : Int))
        (K (.bool (((l_a18 : Nat) : Int) == (0 : Int))) w35)
        (let w36 : World := w35.drew; 
        RunWp Try.prog (convert 36 9 (.slice a18 l_a18 c_a18)) (fun v37 w38 => w38 = w36 ∧ ∃ (s39 : ByteArray), v37 = .string s39 ∧ 
        ∃ (want40 : Int), ∃ (want41 : Int), ∃ (want42 : Int), ∃ (want43 : Int), ∃ (want44 : Int), w36.cell? (⟨p33, 0, none⟩ : Addr) = some (.int .i64 want40) ∧ w36.cell? (⟨p33, 1, none⟩ : Addr) = some (.int .i64 want41) ∧ w36.cell? (⟨p33, 2, none⟩ : Addr) = some (.int .i64 want42) ∧ w36.cell? (⟨p33, 3, none⟩ : Addr) = some (.int .i64 want43) ∧ w36.cell? (⟨p33, 4, none⟩ : Addr) = some (.int .u32 want44) ∧ 
        Calls Try.prog 39 #[.agg #[.int .i64 want40, .int .i64 want41, .int .i64 want42, .int .i64 want43, .int .u32 want44]] w36 (fun e45 w46 => ∃ (a47 : Option Addr), ∃ (l_a47 : Nat), ∃ (c_a47 : Nat), e45 = .returned (.slice a47 l_a47 c_a47) ∧ 
        (RunWp Try.prog (convert 36 9 (.slice a18 l_a18 c_a18)) (fun v48 w49 => w49 = w46 ∧ ∃ (s50 : ByteArray), v48 = .string s50 ∧ 
          (some (.string s39) : Option Value) = some (.string s50)) w46)
        ∧ (RunWp Try.prog (convert 36 9 (.slice a47 l_a47 c_a47)) (fun v51 w52 => w52 = w46 ∧ ∃ (s53 : ByteArray), v51 = .string s53 ∧ 
          K (.bool (s39.toList == s53.toList)) w46) w46))) w36))))))
theorem sh8_eq (op1 : Int) (op2 : Int) (op3 : Int) (op4 : Int) (op5 : Int) (K : Value → World → Prop) (w : World) : denF X Try.f8 [.agg #[.int .i64 op1, .int .i64 op2, .int .i64 op3, .int .i64 op4, .int .u32 op5]] K w = sh8 op1 op2 op3 op4 op5 K w := by kernel_rfl
theorem c8 {op1 : Int} {op2 : Int} {op3 : Int} {op4 : Int} {op5 : Int} {w : World} {R : Ending → World → Prop} (h : sh8 op1 op2 op3 op4 op5 (fun v w' => R (.returned v) w') w) : Calls Try.prog 8 #[.agg #[.int .i64 op1, .int .i64 op2, .int .i64 op3, .int .i64 op4, .int .u32 op5]] w R :=
  callOf Try.func8 (args := [.agg #[.int .i64 op1, .int .i64 op2, .int .i64 op3, .int .i64 op4, .int .u32 op5]]) (Eq.mpr (sh8_eq op1 op2 op3 op4 op5 _ w) h)

end Go.Proofs.Ytmfidfaiopogbaa
