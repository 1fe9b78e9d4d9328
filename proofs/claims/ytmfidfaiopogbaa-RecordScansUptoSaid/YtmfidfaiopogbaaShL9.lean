/- The shallow texts of these functions, and that they are the code's own; printed by a program of this session (gosh.py). -/
import Derived.Test.YtmfidfaiopogbaaShX
set_option linter.unusedVariables false
set_option maxRecDepth 100000
namespace Go.Proofs.Ytmfidfaiopogbaa
open Go Go.Sh
/-- bramble/bramblelaw19.RecordScans -/
def sh9 (b1 : Option Addr) (l_b1 : Nat) (c_b1 : Nat) (K : Value → World → Prop) (w : World) : Prop :=
  Calls Try.prog 36 #[] w (fun e2 w3 => ∃ (b4 : Bool), e2 = .returned (.bool b4) ∧ 
  cond (!b4)
    (K (.bool false) w3)
    (let p5 : Nat := w3.heap.size; let w6 : World := w3.alloc (.cells #[] 5); 
    RunWp Try.prog (Builtin.append_ #[36, 36] 36 #[.slice (some ⟨p5, 0, none⟩) 0 0, .slice b1 l_b1 c_b1]) (fun v7 w8 => ∃ (a9 : Option Addr), ∃ (l_a9 : Nat), ∃ (c_a9 : Nat), v7 = .slice a9 l_a9 c_a9 ∧ 
    Calls Try.prog 40 #[.slice a9 l_a9 c_a9] w8 (fun e10 w11 => ∃ (a12 : Option Addr), ∃ (l_a12 : Nat), ∃ (c_a12 : Nat), ∃ (n13 : Int), e10 = .returned (.tuple #[.slice a12 l_a12 c_a12, .int .i64 n13]) ∧ 
    Calls Try.prog 41 #[.slice b1 l_b1 c_b1] w11 (fun e14 w15 => ∃ (a16 : Option Addr), ∃ (l_a16 : Nat), ∃ (c_a16 : Nat), ∃ (n17 : Int), e14 = .returned (.tuple #[.slice a16 l_a16 c_a16, .int .i64 n17]) ∧ 
    cond (n13 == n17)
      (Calls Try.prog 42 #[.slice a12 l_a12 c_a12, .slice a16 l_a16 c_a16] w15 (fun e18 w19 => ∃ (b20 : Bool), e18 = .returned (.bool b20) ∧ 
      K (.bool b20) w19))
      (K (.bool false) w15)))) w6))
theorem sh9_eq (b1 : Option Addr) (l_b1 : Nat) (c_b1 : Nat) (K : Value → World → Prop) (w : World) : denF X Try.f9 [.slice b1 l_b1 c_b1] K w = sh9 b1 l_b1 c_b1 K w := by kernel_rfl
theorem c9 {b1 : Option Addr} {l_b1 : Nat} {c_b1 : Nat} {w : World} {R : Ending → World → Prop} (h : sh9 b1 l_b1 c_b1 (fun v w' => R (.returned v) w') w) : Calls Try.prog 9 #[.slice b1 l_b1 c_b1] w R :=
  callOf Try.func9 (args := [.slice b1 l_b1 c_b1]) (Eq.mpr (sh9_eq b1 l_b1 c_b1 _ w) h)

end Go.Proofs.Ytmfidfaiopogbaa
