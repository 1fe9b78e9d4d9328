/- The shallow texts of these functions, and that they are the code's own; printed by a program of this session (gosh.py). -/
import Derived.Test.YtmfidfaiopogbaaShX
set_option linter.unusedVariables false
set_option maxRecDepth 100000
namespace Go.Proofs.Ytmfidfaiopogbaa
open Go Go.Sh
/-- bramble/bramblelaw18.DiskPlays -/
def sh3 (script1 : Option Addr) (l_script1 : Nat) (c_script1 : Nat) (K : Value → World → Prop) (w : World) : Prop :=
  Calls Try.prog 21 #[.slice script1 l_script1 c_script1] w (fun e2 w3 => ∃ (p4 : Option Addr), ∃ (a5 : Option Addr), ∃ (l_a5 : Nat), ∃ (c_a5 : Nat), ∃ (n6 : Int), ∃ (b7 : Bool), ∃ (n8 : Int), ∃ (b9 : Bool), e2 = .returned (.tuple #[.pointer p4, .agg #[.slice a5 l_a5 c_a5, .int .i64 n6, .bool b7, .int .i64 n8], .bool b9]) ∧ 
  let p10 : Nat := w3.heap.size; let w11 : World := w3.alloc (.cells #[.slice none 0 0, .int .i64 0, .bool false, .int .i64 0] 26); 
  wrN w11 (⟨p10, 0, none⟩ : Addr) 4 ∧ let w12 : World := setN (⟨p10, 0, none⟩ : Addr) 0 [.slice a5 l_a5 c_a5, .int .i64 n6, .bool b7, .int .i64 n8] w11; 
  Calls Try.prog 22 #[] w12 (fun e13 w14 => ∃ (b15 : Bool), e13 = .returned (.bool b15) ∧ 
  cond b15
    (K (.bool b9) w14)
    (K (.bool false) w14)))
theorem sh3_eq (script1 : Option Addr) (l_script1 : Nat) (c_script1 : Nat) (K : Value → World → Prop) (w : World) : denF X Try.f3 [.slice script1 l_script1 c_script1] K w = sh3 script1 l_script1 c_script1 K w := by kernel_rfl
theorem c3 {script1 : Option Addr} {l_script1 : Nat} {c_script1 : Nat} {w : World} {R : Ending → World → Prop} (h : sh3 script1 l_script1 c_script1 (fun v w' => R (.returned v) w') w) : Calls Try.prog 3 #[.slice script1 l_script1 c_script1] w R :=
  callOf Try.func3 (args := [.slice script1 l_script1 c_script1]) (Eq.mpr (sh3_eq script1 l_script1 c_script1 _ w) h)

end Go.Proofs.Ytmfidfaiopogbaa
