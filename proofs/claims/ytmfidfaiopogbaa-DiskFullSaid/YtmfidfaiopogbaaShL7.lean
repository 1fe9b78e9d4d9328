/- The shallow texts of these functions, and that they are the code's own; printed by a program of this session (gosh.py). -/
import Derived.Test.YtmfidfaiopogbaaShX
set_option linter.unusedVariables false
set_option maxRecDepth 100000
namespace Go.Proofs.Ytmfidfaiopogbaa
open Go Go.Sh
/-- bramble/bramblelaw18.DiskFull -/
def sh7 (f1 : Int) (last2 : Option Addr) (l_last2 : Nat) (c_last2 : Nat) (K : Value → World → Prop) (w : World) : Prop :=
  let K8 : Bool → World → Prop := fun b6 w7 =>
      cond b6
        (Calls Try.prog 22 #[] w7 (fun e9 w10 => ∃ (b11 : Bool), e9 = .returned (.bool b11) ∧ 
        K (.bool b11) w10))
        (RunWp Try.prog (Instr.makeSlice 48 (.int .i64 (IntKind.i64.wrap (f1 + (1 : Int)))) (.int .i64 (IntKind.i64.wrap (f1 + (1 : Int))))) (fun v12 w13 => ∃ (a14 : Option Addr), ∃ (l_a14 : Nat), ∃ (c_a14 : Nat), v12 = .slice a14 l_a14 c_a14 ∧ 
        RunWp Try.prog (Instr.makeSlice 36 (.int .i64 65533) (.int .i64 65533)) (fun v15 w16 => ∃ (a17 : Option Addr), ∃ (l_a17 : Nat), ∃ (c_a17 : Nat), v15 = .slice a17 l_a17 c_a17 ∧ 
        ∃ q18 : Addr, a14 = some q18 ∧ 0 ≤ f1 ∧ f1 < (l_a14 : Nat) ∧ 
        wr w16 (q18.add (f1.toNat * 1)) ∧ let w19 : World := w16.setCell (q18.add (f1.toNat * 1)) (.slice a17 l_a17 c_a17); 
        Calls Try.prog 33 #[.slice a14 l_a14 c_a14] w19 (fun e20 w21 => ∃ (p22 : Option Addr), ∃ (n23 : Int), e20 = .returned (.tuple #[.pointer p22, .int .i64 n23]) ∧ 
        let K26 : Bool → World → Prop := fun b24 w25 =>
            cond b24
              (K (.bool false) w25)
              (let K29 : Int → World → Prop := fun n27 w28 =>
                  let K48 : Bool → World → Prop := fun b46 w47 =>
                      cond b46
                        (K (.bool false) w47)
                        (Calls Try.prog 34 #[.pointer p22, .int .i64 f1] w47 (fun e49 w50 => ∃ (n51 : Int), e49 = .returned (.int .i64 n51) ∧ 
                        cond (n51 == (65536 : Int))
                          (let p52 : Nat := w50.heap.size; let w53 : World := w50.alloc (.cells #[.int .u8 120] 5); 
                          RunWp Try.prog (convert 36 36 (.slice (some ⟨p52, 0, none⟩) 1 1)) (fun v54 w55 => ∃ (a56 : Option Addr), ∃ (l_a56 : Nat), ∃ (c_a56 : Nat), v54 = .slice a56 l_a56 c_a56 ∧ 
                          Calls Try.prog 31 #[.pointer p22, .int .i64 f1, .int .i64 65536, .slice a56 l_a56 c_a56] w55 (fun e57 w58 => ∃ (n59 : Int), e57 = .returned (.int .i64 n59) ∧ 
                          cond (n59 == (181 : Int))
                            (Calls Try.prog 31 #[.pointer p22, .int .i64 f1, .int .i64 65536, .slice none 0 0] w58 (fun e60 w61 => ∃ (n62 : Int), e60 = .returned (.int .i64 n62) ∧ 
                            cond (n62 == (0 : Int))
                              (let p63 : Nat := w61.heap.size; let w64 : World := w61.alloc (.cells #[.int .u8 113] 5); 
                              RunWp Try.prog (convert 36 36 (.slice (some ⟨p63, 0, none⟩) 1 1)) (fun v65 w66 => ∃ (a67 : Option Addr), ∃ (l_a67 : Nat), ∃ (c_a67 : Nat), v65 = .slice a67 l_a67 c_a67 ∧ 
                              Calls Try.prog 31 #[.pointer p22, .int .i64 f1, .int .i64 65535, .slice a67 l_a67 c_a67] w66 (fun e68 w69 => ∃ (n70 : Int), e68 = .returned (.int .i64 n70) ∧ 
                              cond (n70 == (0 : Int))
                                (Calls Try.prog 35 #[.pointer p22, .int .i64 f1, .int .i64 65536] w69 (fun e71 w72 => ∃ (n73 : Int), e71 = .returned (.int .i64 n73) ∧ 
                                cond (n73 == (0 : Int))
                                  (Calls Try.prog 34 #[.pointer p22, .int .i64 f1] w72 (fun e74 w75 => ∃ (n76 : Int), e74 = .returned (.int .i64 n76) ∧ 
                                  cond (n76 == (65536 : Int))
                                    (Calls Try.prog 31 #[.pointer p22, .int .i64 f1, .int .i64 65537, .slice none 0 0] w75 (fun e77 w78 => ∃ (n79 : Int), e77 = .returned (.int .i64 n79) ∧ 
                                    K (.bool (n79 == (1 : Int))) w78))
                                    (K (.bool false) w75)))
                                  (K (.bool false) w72)))
                                (K (.bool false) w69))) w64)
                              (K (.bool false) w61)))
                            (K (.bool false) w58))) w53)
                          (K (.bool false) w50)))
                  let p30 : Nat := w28.heap.size; let w31 : World := w28.alloc (.cells #[] 5); 
                  RunWp Try.prog (Builtin.append_ #[36, 36] 36 #[.slice (some ⟨p30, 0, none⟩) 0 0, .slice last2 l_last2 c_last2]) (fun v32 w33 => ∃ (a34 : Option Addr), ∃ (l_a34 : Nat), ∃ (c_a34 : Nat), v32 = .slice a34 l_a34 c_a34 ∧ 
                  Calls Try.prog 31 #[.pointer p22, .int .i64 f1, .int .i64 65533, .slice a34 l_a34 c_a34] w33 (fun e35 w36 => ∃ (n37 : Int), e35 = .returned (.int .i64 n37) ∧ 
                  cond (n37 != n27)
                    (K48 true w36)
                    (let p38 : Nat := w36.heap.size; let w39 : World := w36.alloc (.cells #[.int .u8 120, .int .u8 121, .int .u8 122] 5); 
                    RunWp Try.prog (convert 36 36 (.slice (some ⟨p38, 0, none⟩) 3 3)) (fun v40 w41 => ∃ (a42 : Option Addr), ∃ (l_a42 : Nat), ∃ (c_a42 : Nat), v40 = .slice a42 l_a42 c_a42 ∧ 
                    Calls Try.prog 31 #[.pointer p22, .int .i64 f1, .int .i64 65533, .slice a42 l_a42 c_a42] w41 (fun e43 w44 => ∃ (n45 : Int), e43 = .returned (.int .i64 n45) ∧ 
                    K48 (n45 != (0 : Int)) w44)) w39))) w31
              cond (decide (((l_last2 : Nat) : Int) > (8 : Int)))
                (K29 3 w25)
                (cond (decide (((l_last2 : Nat) : Int) > (3 : Int)))
                  (K29 181 w25)
                  (K29 0 w25)))
        cond (n23 != (0 : Int))
          (K26 true w21)
          (K26 p22.isNone w21))) w13) w7)
  Calls Try.prog 22 #[] w (fun e3 w4 => ∃ (b5 : Bool), e3 = .returned (.bool b5) ∧ 
  cond (!b5)
    (K8 true w4)
    (cond (decide (f1 < (0 : Int)))
      (K8 true w4)
      (K8 (decide (f1 > (2 : Int))) w4)))
theorem sh7_eq (f1 : Int) (last2 : Option Addr) (l_last2 : Nat) (c_last2 : Nat) (K : Value → World → Prop) (w : World) : denF X Try.f7 [.int .i64 f1, .slice last2 l_last2 c_last2] K w = sh7 f1 last2 l_last2 c_last2 K w := by kernel_rfl
theorem c7 {f1 : Int} {last2 : Option Addr} {l_last2 : Nat} {c_last2 : Nat} {w : World} {R : Ending → World → Prop} (h : sh7 f1 last2 l_last2 c_last2 (fun v w' => R (.returned v) w') w) : Calls Try.prog 7 #[.int .i64 f1, .slice last2 l_last2 c_last2] w R :=
  callOf Try.func7 (args := [.int .i64 f1, .slice last2 l_last2 c_last2]) (Eq.mpr (sh7_eq f1 last2 l_last2 c_last2 _ w) h)

end Go.Proofs.Ytmfidfaiopogbaa
