/- The shallow texts of these functions, and that they are the code's own; printed by a program of this session (gosh.py). -/
import Derived.Test.YtmfidfaiopogbaaShX
set_option linter.unusedVariables false
set_option maxRecDepth 100000
namespace Go.Proofs.Ytmfidfaiopogbaa
open Go Go.Sh
/-- bramble/bramblelaw19.awake -/
def sh36 (K : Value → World → Prop) (w : World) : Prop :=
  Calls Try.prog 37 #[.agg #[.int .i64 1, .int .i64 0, .int .i64 0, .int .i64 300, .int .u32 0]] w (fun e1 w2 => ∃ (a3 : Option Addr), ∃ (l_a3 : Nat), ∃ (c_a3 : Nat), ∃ (n4 : Int), e1 = .returned (.tuple #[.slice a3 l_a3 c_a3, .int .i64 n4]) ∧ 
  let p5 : Nat := w2.heap.size; let w6 : World := w2.alloc (.cells #[] 5); 
  RunWp Try.prog (Builtin.append_ #[36, 36] 36 #[.slice (some ⟨p5, 0, none⟩) 0 0, .slice a3 l_a3 c_a3]) (fun v7 w8 => ∃ (a9 : Option Addr), ∃ (l_a9 : Nat), ∃ (c_a9 : Nat), v7 = .slice a9 l_a9 c_a9 ∧ 
  let p10 : Nat := w8.heap.size; let w11 : World := w8.alloc (.cells #[.int .u8 2, .int .u8 4, .int .u8 7, .int .u8 91, .int .u8 9] 5); 
  RunWp Try.prog (Builtin.append_ #[36, 36] 36 #[.slice a9 l_a9 c_a9, .slice (some ⟨p10, 0, none⟩) 5 5]) (fun v12 w13 => ∃ (a14 : Option Addr), ∃ (l_a14 : Nat), ∃ (c_a14 : Nat), v12 = .slice a14 l_a14 c_a14 ∧ 
  Calls Try.prog 40 #[.slice a14 l_a14 c_a14] w13 (fun e15 w16 => ∃ (a17 : Option Addr), ∃ (l_a17 : Nat), ∃ (c_a17 : Nat), ∃ (n18 : Int), e15 = .returned (.tuple #[.slice a17 l_a17 c_a17, .int .i64 n18]) ∧ 
  cond (n4 == (0 : Int))
    (RunWp Try.prog (convert 36 9 (.slice a3 l_a3 c_a3)) (fun v19 w20 => w20 = w16 ∧ ∃ (s21 : ByteArray), v19 = .string s21 ∧ 
    cond (s21.toList == ({ data := #[3, 1, 172, 2, 246] } : ByteArray).toList)
      (cond (n18 == (9 : Int))
        (cond (((l_a17 : Nat) : Int) == (2 : Int))
          (∃ q22 : Addr, a17 = some q22 ∧ 0 ≤ (1 : Int) ∧ (1 : Int) < (l_a17 : Nat) ∧ 
          ∃ (n23 : Int), ∃ (n24 : Int), ∃ (n25 : Int), ∃ (n26 : Int), ∃ (n27 : Int), w16.cell? (q22.add 5) = some (.int .i64 n23) ∧ w16.cell? (q22.add 6) = some (.int .i64 n24) ∧ w16.cell? (q22.add 7) = some (.int .i64 n25) ∧ w16.cell? (q22.add 8) = some (.int .i64 n26) ∧ w16.cell? (q22.add 9) = some (.int .u32 n27) ∧ 
          RunWp Try.prog (do eqGuard .eql 57 (.tmp 38) (.tmp 39) (.agg #[.int .i64 n23, .int .i64 n24, .int .i64 n25, .int .i64 n26, .int .u32 n27]) (.agg #[.int .i64 4, .int .i64 7, .int .i64 0, .int .i64 0, .int .u32 0]); binOp .eql 57 (.agg #[.int .i64 n23, .int .i64 n24, .int .i64 n25, .int .i64 n26, .int .u32 n27]) (.agg #[.int .i64 4, .int .i64 7, .int .i64 0, .int .i64 0, .int .u32 0])) (fun v28 w29 => w29 = w16 ∧ ∃ (b30 : Bool), v28 = .bool b30 ∧ 
          K (.bool b30) w16) w16)
          (K (.bool false) w16))
        (K (.bool false) w16))
      (K (.bool false) w16)) w16)
    (K (.bool false) w16))) w11) w6)
theorem sh36_eq (K : Value → World → Prop) (w : World) : denF X Try.f36 [] K w = sh36 K w := by kernel_rfl
theorem c36 {w : World} {R : Ending → World → Prop} (h : sh36  (fun v w' => R (.returned v) w') w) : Calls Try.prog 36 #[] w R :=
  callOf Try.func36 (args := []) (Eq.mpr (sh36_eq  _ w) h)

/-- bramble/record.Encode -/
def sh37 (op1 : Int) (op2 : Int) (op3 : Int) (op4 : Int) (op5 : Int) (K : Value → World → Prop) (w : World) : Prop :=
  let p6 : Nat := w.heap.size; let w7 : World := w.alloc (.cells #[.int .i64 op1, .int .i64 op2, .int .i64 op3, .int .i64 op4, .int .u32 op5] 57); 
  ∃ (Kind8 : Int), w7.cell? (⟨p6, 0, none⟩ : Addr) = some (.int .i64 Kind8) ∧ 
  Calls Try.prog 76 #[.int .i64 Kind8] w7 (fun e9 w10 => ∃ (a11 : Option Addr), ∃ (l_a11 : Nat), ∃ (c_a11 : Nat), ∃ (b12 : Bool), ∃ (b13 : Bool), e9 = .returned (.tuple #[.agg #[.slice a11 l_a11 c_a11, .bool b12], .bool b13]) ∧ 
  let p14 : Nat := w10.heap.size; let w15 : World := w10.alloc (.cells #[.slice none 0 0, .bool false] 128); 
  wrN w15 (⟨p14, 0, none⟩ : Addr) 2 ∧ let w16 : World := setN (⟨p14, 0, none⟩ : Addr) 0 [.slice a11 l_a11 c_a11, .bool b12] w15; 
  cond (!b13)
    (K (.tuple #[.slice none 0 0, .int .i64 190]) w16)
    (∃ (Kind17 : Int), w16.cell? (⟨p6, 0, none⟩ : Addr) = some (.int .i64 Kind17) ∧ 
    let p18 : Nat := w16.heap.size; let w19 : World := w16.alloc (.cells #[.int .u8 0, .int .u8 (IntKind.u8.wrap (Kind17))] 5); 
    ∃ (numbers20 : Option Addr), ∃ (l_numbers20 : Nat), ∃ (c_numbers20 : Nat), w19.cell? (⟨p14, 0, none⟩ : Addr) = some (.slice numbers20 l_numbers20 c_numbers20) ∧ 
    ∃ (I26 : List Value → World → Prop) (μ27 : List Value → World → Nat), I26 [.slice none 0 0, .int .i64 0, .slice (some ⟨p18, 0, none⟩) 2 2, .int .i64 0] w19 ∧ ∀ (w25 : World) (a21 : Option Addr) (l_a21 : Nat) (c_a21 : Nat) (n22 : Int) (b23 : Option Addr) (l_b23 : Nat) (c_b23 : Nat) (n24 : Int), I26 [.slice a21 l_a21 c_a21, .int .i64 n22, .slice b23 l_b23 c_b23, .int .i64 n24] w25 → 
    cond (decide (n24 < ((l_numbers20 : Nat) : Int)))
      (∃ q28 : Addr, numbers20 = some q28 ∧ 0 ≤ n24 ∧ n24 < (l_numbers20 : Nat) ∧ 
      ∃ (v29 : Value), ∃ (n30 : Int), ∃ (n31 : Int), w25.cell? (q28.add (n24.toNat * 3)) = some (v29) ∧ w25.cell? ((q28.add (n24.toNat * 3)).add 1) = some (.int .i64 n30) ∧ w25.cell? ((q28.add (n24.toNat * 3)).add 2) = some (.int .i64 n31) ∧ 
      let p32 : Nat := w25.heap.size; let w33 : World := w25.alloc (.cells #[.nilFunc, .int .i64 0, .int .i64 0] 133); 
      cond (one1s [v29, .int .i64 n30, .int .i64 n31]) (
      wrN w33 (⟨p32, 0, none⟩ : Addr) 3 ∧ let w34 : World := setN (⟨p32, 0, none⟩ : Addr) 0 [v29, .int .i64 n30, .int .i64 n31] w33; 
      ∃ (at35 : Value), w34.cell? (⟨p32, 0, none⟩ : Addr) = some (at35) ∧ 
      optP (asFn at35) fun r36 => cond (cl r36.1) (
      Calls Try.prog r36.1 (r36.2.1.toList ++ ([.pointer (some ⟨p6, 0, none⟩)] : List Value) ++ r36.2.2.toList).toArray w34 (fun e38 w39 => ∃ (p40 : Option Addr), e38 = .returned (.pointer p40) ∧ 
      optP p40 fun q41 => 
      ∃ (n42 : Int), w39.cell? q41 = some (.int .i64 n42) ∧ 
      let K50 : Int → Bool → Bool → Bool → World → Prop := fun n45 b46 b47 b48 w49 =>
          cond b48
            (K (.tuple #[.slice none 0 0, .int .i64 190]) w49)
            (Calls Try.prog 77 #[.slice b23 l_b23 c_b23, .int .i64 n42] w49 (fun e51 w52 => ∃ (a53 : Option Addr), ∃ (l_a53 : Nat), ∃ (c_a53 : Nat), e51 = .returned (.slice a53 l_a53 c_a53) ∧ 
            I26 [.slice a21 l_a21 c_a21, .int .i64 n22, .slice a53 l_a53 c_a53, .int .i64 (IntKind.i64.wrap (n24 + (1 : Int)))] w52 ∧ μ27 [.slice a21 l_a21 c_a21, .int .i64 n22, .slice a53 l_a53 c_a53, .int .i64 (IntKind.i64.wrap (n24 + (1 : Int)))] w52 < μ27 [.slice a21 l_a21 c_a21, .int .i64 n22, .slice b23 l_b23 c_b23, .int .i64 n24] w25))
      ∃ (lo43 : Int), w39.cell? (⟨p32, 1, none⟩ : Addr) = some (.int .i64 lo43) ∧ 
      cond (decide (n42 < lo43))
        (K50 lo43 (decide (n42 < lo43)) true true w39)
        (∃ (hi44 : Int), w39.cell? (⟨p32, 2, none⟩ : Addr) = some (.int .i64 hi44) ∧ 
        K50 lo43 (decide (n42 < lo43)) false (decide (n42 > hi44)) w39))) False) False)
      (∃ (I57 : List Value → World → Prop) (μ58 : List Value → World → Nat), I57 [.slice b23 l_b23 c_b23, .int .i64 0] w25 ∧ ∀ (w56 : World) (b54 : Option Addr) (l_b54 : Nat) (c_b54 : Nat) (i55 : Int), I57 [.slice b54 l_b54 c_b54, .int .i64 i55] w56 → 
      let K63 : Bool → Bool → World → Prop := fun b60 b61 w62 =>
          cond b61
            (∃ (Bits64 : Int), w62.cell? (⟨p6, 4, none⟩ : Addr) = some (.int .u32 Bits64) ∧ 
            0 ≤ (IntKind.i64.wrap ((8 : Int) * i55)) ∧ 
            let p65 : Nat := w62.heap.size; let w66 : World := w62.alloc (.cells #[.int .u8 (IntKind.u8.wrap (Int.fdiv Bits64 (2 ^ (min (IntKind.i64.wrap ((8 : Int) * i55)).toNat 32))))] 5); 
            RunWp Try.prog (Builtin.append_ #[36, 36] 36 #[.slice b54 l_b54 c_b54, .slice (some ⟨p65, 0, none⟩) 1 1]) (fun v67 w68 => ∃ (a69 : Option Addr), ∃ (l_a69 : Nat), ∃ (c_a69 : Nat), v67 = .slice a69 l_a69 c_a69 ∧ 
            I57 [.slice a69 l_a69 c_a69, .int .i64 (IntKind.i64.wrap (i55 + (1 : Int)))] w68 ∧ μ58 [.slice a69 l_a69 c_a69, .int .i64 (IntKind.i64.wrap (i55 + (1 : Int)))] w68 < μ58 [.slice b54 l_b54 c_b54, .int .i64 i55] w56) w66)
            (∃ q70 : Addr, b54 = some q70 ∧ 0 ≤ (0 : Int) ∧ (0 : Int) < (l_b54 : Nat) ∧ 
            wr w62 q70 ∧ let w71 : World := w62.setCell q70 (.int .u8 (IntKind.u8.wrap (IntKind.i64.wrap (((l_b54 : Nat) : Int) - (1 : Int))))); 
            Calls Try.prog 78 #[.slice b54 l_b54 c_b54] w71 (fun e72 w73 => ∃ (n74 : Int), e72 = .returned (.int .u8 n74) ∧ 
            let p75 : Nat := w73.heap.size; let w76 : World := w73.alloc (.cells #[.int .u8 n74] 5); 
            RunWp Try.prog (Builtin.append_ #[36, 36] 36 #[.slice b54 l_b54 c_b54, .slice (some ⟨p75, 0, none⟩) 1 1]) (fun v77 w78 => ∃ (a79 : Option Addr), ∃ (l_a79 : Nat), ∃ (c_a79 : Nat), v77 = .slice a79 l_a79 c_a79 ∧ 
            K (.tuple #[.slice a79 l_a79 c_a79, .int .i64 0]) w78) w76))
      cond (decide (i55 < (4 : Int)))
        (∃ (bits59 : Bool), w56.cell? (⟨p14, 1, none⟩ : Addr) = some (.bool bits59) ∧ 
        K63 true bits59 w56)
        (K63 false false w56))))
theorem sh37_eq (op1 : Int) (op2 : Int) (op3 : Int) (op4 : Int) (op5 : Int) (K : Value → World → Prop) (w : World) : denF X Try.f37 [.agg #[.int .i64 op1, .int .i64 op2, .int .i64 op3, .int .i64 op4, .int .u32 op5]] K w = sh37 op1 op2 op3 op4 op5 K w := by kernel_rfl
theorem c37 {op1 : Int} {op2 : Int} {op3 : Int} {op4 : Int} {op5 : Int} {w : World} {R : Ending → World → Prop} (h : sh37 op1 op2 op3 op4 op5 (fun v w' => R (.returned v) w') w) : Calls Try.prog 37 #[.agg #[.int .i64 op1, .int .i64 op2, .int .i64 op3, .int .i64 op4, .int .u32 op5]] w R :=
  callOf Try.func37 (args := [.agg #[.int .i64 op1, .int .i64 op2, .int .i64 op3, .int .i64 op4, .int .u32 op5]]) (Eq.mpr (sh37_eq op1 op2 op3 op4 op5 _ w) h)

/-- bramble/brambleref19.Plain -/
def sh38 (op1 : Int) (op2 : Int) (op3 : Int) (op4 : Int) (op5 : Int) (K : Value → World → Prop) (w : World) : Prop :=
  let p6 : Nat := w.heap.size; let w7 : World := w.alloc (.cells #[.int .i64 op1, .int .i64 op2, .int .i64 op3, .int .i64 op4, .int .u32 op5] 57); 
  let p8 : Nat := w7.heap.size; let w9 : World := w7.alloc (.cells #[.int .i64 0, .int .i64 0, .int .i64 0, .int .i64 0, .int .u32 0] 57); 
  let K50 : Bool → World → Prop := fun b48 w49 =>
      cond (!b48)
        (wrN w49 (⟨p8, 0, none⟩ : Addr) 5 ∧ let w51 : World := setN (⟨p8, 0, none⟩ : Addr) 0 [.int .i64 0, .int .i64 0, .int .i64 0, .int .i64 0, .int .u32 0] w49; 
        ∃ (n58 : Int), ∃ (n59 : Int), ∃ (n60 : Int), ∃ (n61 : Int), ∃ (n62 : Int), w51.cell? (⟨p8, 0, none⟩ : Addr) = some (.int .i64 n58) ∧ w51.cell? (⟨p8, 1, none⟩ : Addr) = some (.int .i64 n59) ∧ w51.cell? (⟨p8, 2, none⟩ : Addr) = some (.int .i64 n60) ∧ w51.cell? (⟨p8, 3, none⟩ : Addr) = some (.int .i64 n61) ∧ w51.cell? (⟨p8, 4, none⟩ : Addr) = some (.int .u32 n62) ∧ 
        K (.tuple #[.agg #[.int .i64 n58, .int .i64 n59, .int .i64 n60, .int .i64 n61, .int .u32 n62], .int .i64 190]) w51)
        (∃ (op52 : Int), ∃ (op53 : Int), ∃ (op54 : Int), ∃ (op55 : Int), ∃ (op56 : Int), w49.cell? (⟨p6, 0, none⟩ : Addr) = some (.int .i64 op52) ∧ w49.cell? (⟨p6, 1, none⟩ : Addr) = some (.int .i64 op53) ∧ w49.cell? (⟨p6, 2, none⟩ : Addr) = some (.int .i64 op54) ∧ w49.cell? (⟨p6, 3, none⟩ : Addr) = some (.int .i64 op55) ∧ w49.cell? (⟨p6, 4, none⟩ : Addr) = some (.int .u32 op56) ∧ 
        wrN w49 (⟨p8, 0, none⟩ : Addr) 5 ∧ let w57 : World := setN (⟨p8, 0, none⟩ : Addr) 0 [.int .i64 op52, .int .i64 op53, .int .i64 op54, .int .i64 op55, .int .u32 op56] w49; 
        ∃ (n63 : Int), ∃ (n64 : Int), ∃ (n65 : Int), ∃ (n66 : Int), ∃ (n67 : Int), w57.cell? (⟨p8, 0, none⟩ : Addr) = some (.int .i64 n63) ∧ w57.cell? (⟨p8, 1, none⟩ : Addr) = some (.int .i64 n64) ∧ w57.cell? (⟨p8, 2, none⟩ : Addr) = some (.int .i64 n65) ∧ w57.cell? (⟨p8, 3, none⟩ : Addr) = some (.int .i64 n66) ∧ w57.cell? (⟨p8, 4, none⟩ : Addr) = some (.int .u32 n67) ∧ 
        K (.tuple #[.agg #[.int .i64 n63, .int .i64 n64, .int .i64 n65, .int .i64 n66, .int .u32 n67], .int .i64 0]) w57)
  ∃ (Kind10 : Int), w9.cell? (⟨p6, 0, none⟩ : Addr) = some (.int .i64 Kind10) ∧ 
  let K13 : Bool → World → Prop := fun b11 w12 =>
      cond b11
        (∃ (Kind14 : Int), w12.cell? (⟨p6, 0, none⟩ : Addr) = some (.int .i64 Kind14) ∧ 
        ∃ (V15 : Int), w12.cell? (⟨p6, 3, none⟩ : Addr) = some (.int .i64 V15) ∧ 
        wrN w12 (⟨p6, 0, none⟩ : Addr) 5 ∧ let w16 : World := setN (⟨p6, 0, none⟩ : Addr) 0 [.int .i64 Kind14, .int .i64 0, .int .i64 0, .int .i64 V15, .int .u32 0] w12; 
        ∃ (V17 : Int), w16.cell? (⟨p6, 3, none⟩ : Addr) = some (.int .i64 V17) ∧ 
        Calls Try.prog 79 #[.int .i64 V17] w16 (fun e18 w19 => ∃ (b20 : Bool), e18 = .returned (.bool b20) ∧ 
        K50 b20 w19))
        (cond (Kind10 == (3 : Int))
          (∃ (E21 : Int), w12.cell? (⟨p6, 1, none⟩ : Addr) = some (.int .i64 E21) ∧ 
          Calls Try.prog 80 #[.int .i64 E21] w12 (fun e22 w23 => ∃ (b24 : Bool), e22 = .returned (.bool b24) ∧ 
          cond b24
            (∃ (U25 : Int), w23.cell? (⟨p6, 2, none⟩ : Addr) = some (.int .i64 U25) ∧ 
            Calls Try.prog 79 #[.int .i64 U25] w23 (fun e26 w27 => ∃ (b28 : Bool), e26 = .returned (.bool b28) ∧ 
            cond b28
              (∃ (V29 : Int), w27.cell? (⟨p6, 3, none⟩ : Addr) = some (.int .i64 V29) ∧ 
              Calls Try.prog 79 #[.int .i64 V29] w27 (fun e30 w31 => ∃ (b32 : Bool), e30 = .returned (.bool b32) ∧ 
              K50 b32 w31))
              (K50 false w27)))
            (K50 false w23)))
          (cond (Kind10 == (4 : Int))
            (∃ (Kind33 : Int), w12.cell? (⟨p6, 0, none⟩ : Addr) = some (.int .i64 Kind33) ∧ 
            ∃ (E34 : Int), w12.cell? (⟨p6, 1, none⟩ : Addr) = some (.int .i64 E34) ∧ 
            wrN w12 (⟨p6, 0, none⟩ : Addr) 5 ∧ let w35 : World := setN (⟨p6, 0, none⟩ : Addr) 0 [.int .i64 Kind33, .int .i64 E34, .int .i64 0, .int .i64 0, .int .u32 0] w12; 
            ∃ (E36 : Int), w35.cell? (⟨p6, 1, none⟩ : Addr) = some (.int .i64 E36) ∧ 
            Calls Try.prog 80 #[.int .i64 E36] w35 (fun e37 w38 => ∃ (b39 : Bool), e37 = .returned (.bool b39) ∧ 
            K50 b39 w38))
            (cond (Kind10 == (5 : Int))
              (∃ (Kind40 : Int), w12.cell? (⟨p6, 0, none⟩ : Addr) = some (.int .i64 Kind40) ∧ 
              ∃ (E41 : Int), w12.cell? (⟨p6, 1, none⟩ : Addr) = some (.int .i64 E41) ∧ 
              ∃ (Bits42 : Int), w12.cell? (⟨p6, 4, none⟩ : Addr) = some (.int .u32 Bits42) ∧ 
              wrN w12 (⟨p6, 0, none⟩ : Addr) 5 ∧ let w43 : World := setN (⟨p6, 0, none⟩ : Addr) 0 [.int .i64 Kind40, .int .i64 E41, .int .i64 0, .int .i64 0, .int .u32 Bits42] w12; 
              ∃ (E44 : Int), w43.cell? (⟨p6, 1, none⟩ : Addr) = some (.int .i64 E44) ∧ 
              Calls Try.prog 80 #[.int .i64 E44] w43 (fun e45 w46 => ∃ (b47 : Bool), e45 = .returned (.bool b47) ∧ 
              K50 b47 w46))
              (K50 false w12))))
  cond (Kind10 == (1 : Int))
    (K13 (Kind10 == (1 : Int)) w9)
    (cond (Kind10 == (2 : Int))
      (K13 (Kind10 == (2 : Int)) w9)
      (cond (Kind10 == (6 : Int))
        (K13 (Kind10 == (6 : Int)) w9)
        (K13 (Kind10 == (7 : Int)) w9)))
theorem sh38_eq (op1 : Int) (op2 : Int) (op3 : Int) (op4 : Int) (op5 : Int) (K : Value → World → Prop) (w : World) : denF X Try.f38 [.agg #[.int .i64 op1, .int .i64 op2, .int .i64 op3, .int .i64 op4, .int .u32 op5]] K w = sh38 op1 op2 op3 op4 op5 K w := by kernel_rfl
theorem c38 {op1 : Int} {op2 : Int} {op3 : Int} {op4 : Int} {op5 : Int} {w : World} {R : Ending → World → Prop} (h : sh38 op1 op2 op3 op4 op5 (fun v w' => R (.returned v) w') w) : Calls Try.prog 38 #[.agg #[.int .i64 op1, .int .i64 op2, .int .i64 op3, .int .i64 op4, .int .u32 op5]] w R :=
  callOf Try.func38 (args := [.agg #[.int .i64 op1, .int .i64 op2, .int .i64 op3, .int .i64 op4, .int .u32 op5]]) (Eq.mpr (sh38_eq op1 op2 op3 op4 op5 _ w) h)

/-- bramble/brambleref19.Encode -/
def sh39 (op1 : Int) (op2 : Int) (op3 : Int) (op4 : Int) (op5 : Int) (K : Value → World → Prop) (w : World) : Prop :=
  let p6 : Nat := w.heap.size; let w7 : World := w.alloc (.cells #[.int .i64 op1, .int .i64 op2, .int .i64 op3, .int .i64 op4, .int .u32 op5] 57); 
  ∃ (Kind8 : Int), w7.cell? (⟨p6, 0, none⟩ : Addr) = some (.int .i64 Kind8) ∧ 
  let p9 : Nat := w7.heap.size; let w10 : World := w7.alloc (.cells #[.int .u8 (IntKind.u8.wrap (Kind8))] 5); 
  let K73 : Option Addr → Nat → Nat → World → Prop := fun a71 l_a71 c_a71 w72 =>
      let p74 : Nat := w72.heap.size; let w75 : World := w72.alloc (.cells #[.int .u8 (IntKind.u8.wrap (((l_a71 : Nat) : Int)))] 5); 
      RunWp Try.prog (Builtin.append_ #[36, 36] 36 #[.slice (some ⟨p74, 0, none⟩) 1 1, .slice a71 l_a71 c_a71]) (fun v76 w77 => ∃ (a78 : Option Addr), ∃ (l_a78 : Nat), ∃ (c_a78 : Nat), v76 = .slice a78 l_a78 c_a78 ∧ 
      ∃ (I82 : List Value → World → Prop) (μ83 : List Value → World → Nat), I82 [.int .u8 90, .int .i64 0] w77 ∧ ∀ (w81 : World) (c79 : Int) (i80 : Int), I82 [.int .u8 c79, .int .i64 i80] w81 → 
      cond (decide (i80 < ((l_a78 : Nat) : Int)))
        (∃ q84 : Addr, a78 = some q84 ∧ 0 ≤ i80 ∧ i80 < (l_a78 : Nat) ∧ 
        ∃ (n85 : Int), w81.cell? (q84.add (i80.toNat * 1)) = some (.int .u8 n85) ∧ 
        I82 [.int .u8 (IntKind.u8.wrap ((((BitVec.ofInt 8 c79) ^^^ (BitVec.ofInt 8 n85)).toNat : Int))), .int .i64 (IntKind.i64.wrap (i80 + (1 : Int)))] w81 ∧ μ83 [.int .u8 (IntKind.u8.wrap ((((BitVec.ofInt 8 c79) ^^^ (BitVec.ofInt 8 n85)).toNat : Int))), .int .i64 (IntKind.i64.wrap (i80 + (1 : Int)))] w81 < μ83 [.int .u8 c79, .int .i64 i80] w81)
        (let p86 : Nat := w81.heap.size; let w87 : World := w81.alloc (.cells #[.int .u8 c79] 5); 
        RunWp Try.prog (Builtin.append_ #[36, 36] 36 #[.slice a78 l_a78 c_a78, .slice (some ⟨p86, 0, none⟩) 1 1]) (fun v88 w89 => ∃ (a90 : Option Addr), ∃ (l_a90 : Nat), ∃ (c_a90 : Nat), v88 = .slice a90 l_a90 c_a90 ∧ 
        K (.slice a90 l_a90 c_a90) w89) w87)) w75
  ∃ (Kind11 : Int), w10.cell? (⟨p6, 0, none⟩ : Addr) = some (.int .i64 Kind11) ∧ 
  let K14 : Bool → World → Prop := fun b12 w13 =>
      cond b12
        (∃ (V15 : Int), w13.cell? (⟨p6, 3, none⟩ : Addr) = some (.int .i64 V15) ∧ 
        Calls Try.prog 81 #[.int .i64 V15] w13 (fun e16 w17 => ∃ (a18 : Option Addr), ∃ (l_a18 : Nat), ∃ (c_a18 : Nat), e16 = .returned (.slice a18 l_a18 c_a18) ∧ 
        RunWp Try.prog (Builtin.append_ #[36, 36] 36 #[.slice (some ⟨p9, 0, none⟩) 1 1, .slice a18 l_a18 c_a18]) (fun v19 w20 => ∃ (a21 : Option Addr), ∃ (l_a21 : Nat), ∃ (c_a21 : Nat), v19 = .slice a21 l_a21 c_a21 ∧ 
        K73 a21 l_a21 c_a21 w20) w17))
        (cond (Kind11 == (3 : Int))
          (∃ (E22 : Int), w13.cell? (⟨p6, 1, none⟩ : Addr) = some (.int .i64 E22) ∧ 
          Calls Try.prog 81 #[.int .i64 E22] w13 (fun e23 w24 => ∃ (a25 : Option Addr), ∃ (l_a25 : Nat), ∃ (c_a25 : Nat), e23 = .returned (.slice a25 l_a25 c_a25) ∧ 
          RunWp Try.prog (Builtin.append_ #[36, 36] 36 #[.slice (some ⟨p9, 0, none⟩) 1 1, .slice a25 l_a25 c_a25]) (fun v26 w27 => ∃ (a28 : Option Addr), ∃ (l_a28 : Nat), ∃ (c_a28 : Nat), v26 = .slice a28 l_a28 c_a28 ∧ 
          ∃ (U29 : Int), w27.cell? (⟨p6, 2, none⟩ : Addr) = some (.int .i64 U29) ∧ 
          Calls Try.prog 81 #[.int .i64 U29] w27 (fun e30 w31 => ∃ (a32 : Option Addr), ∃ (l_a32 : Nat), ∃ (c_a32 : Nat), e30 = .returned (.slice a32 l_a32 c_a32) ∧ 
          RunWp Try.prog (Builtin.append_ #[36, 36] 36 #[.slice a28 l_a28 c_a28, .slice a32 l_a32 c_a32]) (fun v33 w34 => ∃ (a35 : Option Addr), ∃ (l_a35 : Nat), ∃ (c_a35 : Nat), v33 = .slice a35 l_a35 c_a35 ∧ 
          ∃ (V36 : Int), w34.cell? (⟨p6, 3, none⟩ : Addr) = some (.int .i64 V36) ∧ 
          Calls Try.prog 81 #[.int .i64 V36] w34 (fun e37 w38 => ∃ (a39 : Option Addr), ∃ (l_a39 : Nat), ∃ (c_a39 : Nat), e37 = .returned (.slice a39 l_a39 c_a39) ∧ 
          RunWp Try.prog (Builtin.append_ #[36, 36] 36 #[.slice a35 l_a35 c_a35, .slice a39 l_a39 c_a39]) (fun v40 w41 => ∃ (a42 : Option Addr), ∃ (l_a42 : Nat), ∃ (c_a42 : Nat), v40 = .slice a42 l_a42 c_a42 ∧ 
          ∃ (Bits43 : Int), w41.cell? (⟨p6, 4, none⟩ : Addr) = some (.int .u32 Bits43) ∧ 
          Calls Try.prog 82 #[.int .i64 (IntKind.i64.wrap (Bits43))] w41 (fun e44 w45 => ∃ (a46 : Option Addr), ∃ (l_a46 : Nat), ∃ (c_a46 : Nat), e44 = .returned (.slice a46 l_a46 c_a46) ∧ 
          RunWp Try.prog (Builtin.append_ #[36, 36] 36 #[.slice a42 l_a42 c_a42, .slice a46 l_a46 c_a46]) (fun v47 w48 => ∃ (a49 : Option Addr), ∃ (l_a49 : Nat), ∃ (c_a49 : Nat), v47 = .slice a49 l_a49 c_a49 ∧ 
          K73 a49 l_a49 c_a49 w48) w45)) w38)) w31)) w24))
          (cond (Kind11 == (4 : Int))
            (∃ (E50 : Int), w13.cell? (⟨p6, 1, none⟩ : Addr) = some (.int .i64 E50) ∧ 
            Calls Try.prog 81 #[.int .i64 E50] w13 (fun e51 w52 => ∃ (a53 : Option Addr), ∃ (l_a53 : Nat), ∃ (c_a53 : Nat), e51 = .returned (.slice a53 l_a53 c_a53) ∧ 
            RunWp Try.prog (Builtin.append_ #[36, 36] 36 #[.slice (some ⟨p9, 0, none⟩) 1 1, .slice a53 l_a53 c_a53]) (fun v54 w55 => ∃ (a56 : Option Addr), ∃ (l_a56 : Nat), ∃ (c_a56 : Nat), v54 = .slice a56 l_a56 c_a56 ∧ 
            K73 a56 l_a56 c_a56 w55) w52))
            (cond (Kind11 == (5 : Int))
              (∃ (E57 : Int), w13.cell? (⟨p6, 1, none⟩ : Addr) = some (.int .i64 E57) ∧ 
              Calls Try.prog 81 #[.int .i64 E57] w13 (fun e58 w59 => ∃ (a60 : Option Addr), ∃ (l_a60 : Nat), ∃ (c_a60 : Nat), e58 = .returned (.slice a60 l_a60 c_a60) ∧ 
              RunWp Try.prog (Builtin.append_ #[36, 36] 36 #[.slice (some ⟨p9, 0, none⟩) 1 1, .slice a60 l_a60 c_a60]) (fun v61 w62 => ∃ (a63 : Option Addr), ∃ (l_a63 : Nat), ∃ (c_a63 : Nat), v61 = .slice a63 l_a63 c_a63 ∧ 
              ∃ (Bits64 : Int), w62.cell? (⟨p6, 4, none⟩ : Addr) = some (.int .u32 Bits64) ∧ 
              Calls Try.prog 82 #[.int .i64 (IntKind.i64.wrap (Bits64))] w62 (fun e65 w66 => ∃ (a67 : Option Addr), ∃ (l_a67 : Nat), ∃ (c_a67 : Nat), e65 = .returned (.slice a67 l_a67 c_a67) ∧ 
              RunWp Try.prog (Builtin.append_ #[36, 36] 36 #[.slice a63 l_a63 c_a63, .slice a67 l_a67 c_a67]) (fun v68 w69 => ∃ (a70 : Option Addr), ∃ (l_a70 : Nat), ∃ (c_a70 : Nat), v68 = .slice a70 l_a70 c_a70 ∧ 
              K73 a70 l_a70 c_a70 w69) w66)) w59))
              (K73 (some ⟨p9, 0, none⟩) 1 1 w13))))
  cond (Kind11 == (1 : Int))
    (K14 (Kind11 == (1 : Int)) w10)
    (cond (Kind11 == (2 : Int))
      (K14 (Kind11 == (2 : Int)) w10)
      (cond (Kind11 == (6 : Int))
        (K14 (Kind11 == (6 : Int)) w10)
        (K14 (Kind11 == (7 : Int)) w10)))
theorem sh39_eq (op1 : Int) (op2 : Int) (op3 : Int) (op4 : Int) (op5 : Int) (K : Value → World → Prop) (w : World) : denF X Try.f39 [.agg #[.int .i64 op1, .int .i64 op2, .int .i64 op3, .int .i64 op4, .int .u32 op5]] K w = sh39 op1 op2 op3 op4 op5 K w := by kernel_rfl
theorem c39 {op1 : Int} {op2 : Int} {op3 : Int} {op4 : Int} {op5 : Int} {w : World} {R : Ending → World → Prop} (h : sh39 op1 op2 op3 op4 op5 (fun v w' => R (.returned v) w') w) : Calls Try.prog 39 #[.agg #[.int .i64 op1, .int .i64 op2, .int .i64 op3, .int .i64 op4, .int .u32 op5]] w R :=
  callOf Try.func39 (args := [.agg #[.int .i64 op1, .int .i64 op2, .int .i64 op3, .int .i64 op4, .int .u32 op5]]) (Eq.mpr (sh39_eq op1 op2 op3 op4 op5 _ w) h)

/-- bramble/record.Scan -/
def sh40 (b1 : Option Addr) (l_b1 : Nat) (c_b1 : Nat) (K : Value → World → Prop) (w : World) : Prop :=
  ∃ (I7 : List Value → World → Prop) (μ8 : List Value → World → Nat), I7 [.slice none 0 0, .int .i64 0, .slice none 0 0, .int .i64 0] w ∧ ∀ (w6 : World) (a2 : Option Addr) (l_a2 : Nat) (c_a2 : Nat) (n3 : Int) (out4 : Option Addr) (l_out4 : Nat) (c_out4 : Nat) (at5 : Int), I7 [.slice a2 l_a2 c_a2, .int .i64 n3, .slice out4 l_out4 c_out4, .int .i64 at5] w6 → 
  0 ≤ at5 ∧ at5 ≤ (l_b1 : Nat) ∧ 
  Calls Try.prog 83 #[.slice (subS b1 c_b1 at5.toNat 1) (l_b1 - at5.toNat) (c_b1 - at5.toNat)] w6 (fun e9 w10 => ∃ (n11 : Int), ∃ (n12 : Int), ∃ (n13 : Int), ∃ (n14 : Int), ∃ (n15 : Int), ∃ (n16 : Int), ∃ (b17 : Bool), e9 = .returned (.tuple #[.agg #[.int .i64 n11, .int .i64 n12, .int .i64 n13, .int .i64 n14, .int .u32 n15], .int .i64 n16, .bool b17]) ∧ 
  let p18 : Nat := w10.heap.size; let w19 : World := w10.alloc (.cells #[.int .i64 0, .int .i64 0, .int .i64 0, .int .i64 0, .int .u32 0] 57); 
  wrN w19 (⟨p18, 0, none⟩ : Addr) 5 ∧ let w20 : World := setN (⟨p18, 0, none⟩ : Addr) 0 [.int .i64 n11, .int .i64 n12, .int .i64 n13, .int .i64 n14, .int .u32 n15] w19; 
  cond (!b17)
    (K (.tuple #[.slice out4 l_out4 c_out4, .int .i64 at5]) w20)
    (∃ (op21 : Int), ∃ (op22 : Int), ∃ (op23 : Int), ∃ (op24 : Int), ∃ (op25 : Int), w20.cell? (⟨p18, 0, none⟩ : Addr) = some (.int .i64 op21) ∧ w20.cell? (⟨p18, 1, none⟩ : Addr) = some (.int .i64 op22) ∧ w20.cell? (⟨p18, 2, none⟩ : Addr) = some (.int .i64 op23) ∧ w20.cell? (⟨p18, 3, none⟩ : Addr) = some (.int .i64 op24) ∧ w20.cell? (⟨p18, 4, none⟩ : Addr) = some (.int .u32 op25) ∧ 
    let p26 : Nat := w20.heap.size; let w27 : World := w20.alloc (.cells #[.int .i64 op21, .int .i64 op22, .int .i64 op23, .int .i64 op24, .int .u32 op25] 57); 
    RunWp Try.prog (Builtin.append_ #[64, 64] 64 #[.slice out4 l_out4 c_out4, .slice (some ⟨p26, 0, none⟩) 1 1]) (fun v28 w29 => ∃ (a30 : Option Addr), ∃ (l_a30 : Nat), ∃ (c_a30 : Nat), v28 = .slice a30 l_a30 c_a30 ∧ 
    I7 [.slice a2 l_a2 c_a2, .int .i64 n3, .slice a30 l_a30 c_a30, .int .i64 (IntKind.i64.wrap (at5 + n16))] w29 ∧ μ8 [.slice a2 l_a2 c_a2, .int .i64 n3, .slice a30 l_a30 c_a30, .int .i64 (IntKind.i64.wrap (at5 + n16))] w29 < μ8 [.slice a2 l_a2 c_a2, .int .i64 n3, .slice out4 l_out4 c_out4, .int .i64 at5] w6) w27))
theorem sh40_eq (b1 : Option Addr) (l_b1 : Nat) (c_b1 : Nat) (K : Value → World → Prop) (w : World) : denF X Try.f40 [.slice b1 l_b1 c_b1] K w = sh40 b1 l_b1 c_b1 K w := by kernel_rfl
theorem c40 {b1 : Option Addr} {l_b1 : Nat} {c_b1 : Nat} {w : World} {R : Ending → World → Prop} (h : sh40 b1 l_b1 c_b1 (fun v w' => R (.returned v) w') w) : Calls Try.prog 40 #[.slice b1 l_b1 c_b1] w R :=
  callOf Try.func40 (args := [.slice b1 l_b1 c_b1]) (Eq.mpr (sh40_eq b1 l_b1 c_b1 _ w) h)

/-- bramble/brambleref19.Scan -/
def sh41 (b1 : Option Addr) (l_b1 : Nat) (c_b1 : Nat) (K : Value → World → Prop) (w : World) : Prop :=
  ∃ (I7 : List Value → World → Prop) (μ8 : List Value → World → Nat), I7 [.slice none 0 0, .int .i64 0, .slice none 0 0, .int .i64 0] w ∧ ∀ (w6 : World) (a2 : Option Addr) (l_a2 : Nat) (c_a2 : Nat) (n3 : Int) (out4 : Option Addr) (l_out4 : Nat) (c_out4 : Nat) (at5 : Int), I7 [.slice a2 l_a2 c_a2, .int .i64 n3, .slice out4 l_out4 c_out4, .int .i64 at5] w6 → 
  cond (decide (at5 < ((l_b1 : Nat) : Int)))
    (∃ q9 : Addr, b1 = some q9 ∧ 0 ≤ at5 ∧ at5 < (l_b1 : Nat) ∧ 
    ∃ (n10 : Int), w6.cell? (q9.add (at5.toNat * 1)) = some (.int .u8 n10) ∧ 
    let K14 : Bool → Bool → World → Prop := fun b11 b12 w13 =>
        cond b12
          (K (.tuple #[.slice out4 l_out4 c_out4, .int .i64 at5]) w13)
          (0 ≤ (IntKind.i64.wrap (at5 + (IntKind.i64.wrap ((IntKind.i64.wrap (n10)) + (2 : Int))))) ∧ (IntKind.i64.wrap (at5 + (IntKind.i64.wrap ((IntKind.i64.wrap (n10)) + (2 : Int))))) ≤ (c_b1 : Nat) ∧ 
          0 ≤ at5 ∧ at5 ≤ ((IntKind.i64.wrap (at5 + (IntKind.i64.wrap ((IntKind.i64.wrap (n10)) + (2 : Int))))).toNat : Nat) ∧ 
          Calls Try.prog 84 #[.slice (subS b1 c_b1 at5.toNat 1) (((IntKind.i64.wrap (at5 + (IntKind.i64.wrap ((IntKind.i64.wrap (n10)) + (2 : Int))))).toNat) - at5.toNat) (c_b1 - at5.toNat)] w13 (fun e15 w16 => ∃ (n17 : Int), ∃ (n18 : Int), ∃ (n19 : Int), ∃ (n20 : Int), ∃ (n21 : Int), e15 = .returned (.agg #[.int .i64 n17, .int .i64 n18, .int .i64 n19, .int .i64 n20, .int .u32 n21]) ∧ 
          Calls Try.prog 38 #[.agg #[.int .i64 n17, .int .i64 n18, .int .i64 n19, .int .i64 n20, .int .u32 n21]] w16 (fun e22 w23 => ∃ (n24 : Int), ∃ (n25 : Int), ∃ (n26 : Int), ∃ (n27 : Int), ∃ (n28 : Int), ∃ (n29 : Int), e22 = .returned (.tuple #[.agg #[.int .i64 n24, .int .i64 n25, .int .i64 n26, .int .i64 n27, .int .u32 n28], .int .i64 n29]) ∧ 
          let p30 : Nat := w23.heap.size; let w31 : World := w23.alloc (.cells #[.int .i64 0, .int .i64 0, .int .i64 0, .int .i64 0, .int .u32 0] 57); 
          wrN w31 (⟨p30, 0, none⟩ : Addr) 5 ∧ let w32 : World := setN (⟨p30, 0, none⟩ : Addr) 0 [.int .i64 n24, .int .i64 n25, .int .i64 n26, .int .i64 n27, .int .u32 n28] w31; 
          let K54 : Bool → Bool → World → Prop := fun b51 b52 w53 =>
              cond b52
                (K (.tuple #[.slice out4 l_out4 c_out4, .int .i64 at5]) w53)
                (∃ (op55 : Int), ∃ (op56 : Int), ∃ (op57 : Int), ∃ (op58 : Int), ∃ (op59 : Int), w53.cell? (⟨p30, 0, none⟩ : Addr) = some (.int .i64 op55) ∧ w53.cell? (⟨p30, 1, none⟩ : Addr) = some (.int .i64 op56) ∧ w53.cell? (⟨p30, 2, none⟩ : Addr) = some (.int .i64 op57) ∧ w53.cell? (⟨p30, 3, none⟩ : Addr) = some (.int .i64 op58) ∧ w53.cell? (⟨p30, 4, none⟩ : Addr) = some (.int .u32 op59) ∧ 
                let p60 : Nat := w53.heap.size; let w61 : World := w53.alloc (.cells #[.int .i64 op55, .int .i64 op56, .int .i64 op57, .int .i64 op58, .int .u32 op59] 57); 
                RunWp Try.prog (Builtin.append_ #[64, 64] 64 #[.slice out4 l_out4 c_out4, .slice (some ⟨p60, 0, none⟩) 1 1]) (fun v62 w63 => ∃ (a64 : Option Addr), ∃ (l_a64 : Nat), ∃ (c_a64 : Nat), v62 = .slice a64 l_a64 c_a64 ∧ 
                I7 [.slice a2 l_a2 c_a2, .int .i64 n3, .slice a64 l_a64 c_a64, .int .i64 (IntKind.i64.wrap (at5 + (IntKind.i64.wrap ((IntKind.i64.wrap (n10)) + (2 : Int)))))] w63 ∧ μ8 [.slice a2 l_a2 c_a2, .int .i64 n3, .slice a64 l_a64 c_a64, .int .i64 (IntKind.i64.wrap (at5 + (IntKind.i64.wrap ((IntKind.i64.wrap (n10)) + (2 : Int)))))] w63 < μ8 [.slice a2 l_a2 c_a2, .int .i64 n3, .slice out4 l_out4 c_out4, .int .i64 at5] w6) w61)
          let w33 : World := w32.drew; 
          cond (n29 != (0 : Int))
            (K54 true true w33)
            (∃ (op34 : Int), ∃ (op35 : Int), ∃ (op36 : Int), ∃ (op37 : Int), ∃ (op38 : Int), w33.cell? (⟨p30, 0, none⟩ : Addr) = some (.int .i64 op34) ∧ w33.cell? (⟨p30, 1, none⟩ : Addr) = some (.int .i64 op35) ∧ w33.cell? (⟨p30, 2, none⟩ : Addr) = some (.int .i64 op36) ∧ w33.cell? (⟨p30, 3, none⟩ : Addr) = some (.int .i64 op37) ∧ w33.cell? (⟨p30, 4, none⟩ : Addr) = some (.int .u32 op38) ∧ 
            0 ≤ (IntKind.i64.wrap (at5 + (IntKind.i64.wrap ((IntKind.i64.wrap (n10)) + (2 : Int))))) ∧ (IntKind.i64.wrap (at5 + (IntKind.i64.wrap ((IntKind.i64.wrap (n10)) + (2 : Int))))) ≤ (c_b1 : Nat) ∧ 
            0 ≤ at5 ∧ at5 ≤ ((IntKind.i64.wrap (at5 + (IntKind.i64.wrap ((IntKind.i64.wrap (n10)) + (2 : Int))))).toNat : Nat) ∧ 
            RunWp Try.prog (convert 36 9 (.slice (subS b1 c_b1 at5.toNat 1) (((IntKind.i64.wrap (at5 + (IntKind.i64.wrap ((IntKind.i64.wrap (n10)) + (2 : Int))))).toNat) - at5.toNat) (c_b1 - at5.toNat))) (fun v39 w40 => w40 = w33 ∧ ∃ (s41 : ByteArray), v39 = .string s41 ∧ 
            Calls Try.prog 39 #[.agg #[.int .i64 op34, .int .i64 op35, .int .i64 op36, .int .i64 op37, .int .u32 op38]] w33 (fun e42 w43 => ∃ (a44 : Option Addr), ∃ (l_a44 : Nat), ∃ (c_a44 : Nat), e42 = .returned (.slice a44 l_a44 c_a44) ∧ 
            (RunWp Try.prog (convert 36 9 (.slice (subS b1 c_b1 at5.toNat 1) (((IntKind.i64.wrap (at5 + (IntKind.i64.wrap ((IntKind.i64.wrap (n10)) + (2 : Int))))).toNat) - at5.toNat) (c_b1 - at5.toNat))) (fun v45 w46 => w46 = w43 ∧ ∃ (s47 : ByteArray), v45 = .string s47 ∧ 
              (some (.string s41) : Option Value) = some (.string s47)) w43)
            ∧ (RunWp Try.prog (convert 36 9 (.slice a44 l_a44 c_a44)) (fun v48 w49 => w49 = w43 ∧ ∃ (s50 : ByteArray), v48 = .string s50 ∧ 
              K54 false (!(s50.toList == s41.toList)) w43) w43))) w33))))
    cond (decide ((IntKind.i64.wrap ((IntKind.i64.wrap (n10)) + (2 : Int))) < (3 : Int)))
      (K14 true true w6)
      (K14 false (decide ((IntKind.i64.wrap (at5 + (IntKind.i64.wrap ((IntKind.i64.wrap (n10)) + (2 : Int))))) > ((l_b1 : Nat) : Int))) w6))
    (K (.tuple #[.slice out4 l_out4 c_out4, .int .i64 at5]) w6)
theorem sh41_eq (b1 : Option Addr) (l_b1 : Nat) (c_b1 : Nat) (K : Value → World → Prop) (w : World) : denF X Try.f41 [.slice b1 l_b1 c_b1] K w = sh41 b1 l_b1 c_b1 K w := by kernel_rfl
theorem c41 {b1 : Option Addr} {l_b1 : Nat} {c_b1 : Nat} {w : World} {R : Ending → World → Prop} (h : sh41 b1 l_b1 c_b1 (fun v w' => R (.returned v) w') w) : Calls Try.prog 41 #[.slice b1 l_b1 c_b1] w R :=
  callOf Try.func41 (args := [.slice b1 l_b1 c_b1]) (Eq.mpr (sh41_eq b1 l_b1 c_b1 _ w) h)

/-- bramble/brambleref19.Same -/
def sh42 (a1 : Option Addr) (l_a1 : Nat) (c_a1 : Nat) (b2 : Option Addr) (l_b2 : Nat) (c_b2 : Nat) (K : Value → World → Prop) (w : World) : Prop :=
  cond (((l_a1 : Nat) : Int) != ((l_b2 : Nat) : Int))
    (K (.bool false) w)
    (∃ (I6 : List Value → World → Prop) (μ7 : List Value → World → Nat), I6 [.bool false, .int .i64 0] w ∧ ∀ (w5 : World) (b3 : Bool) (n4 : Int), I6 [.bool b3, .int .i64 n4] w5 → 
    cond (decide (n4 < ((l_a1 : Nat) : Int)))
      (let w8 : World := w5.drew; 
      ∃ q9 : Addr, a1 = some q9 ∧ 0 ≤ n4 ∧ n4 < (l_a1 : Nat) ∧ 
      ∃ (n10 : Int), ∃ (n11 : Int), ∃ (n12 : Int), ∃ (n13 : Int), ∃ (n14 : Int), w8.cell? (q9.add (n4.toNat * 5)) = some (.int .i64 n10) ∧ w8.cell? ((q9.add (n4.toNat * 5)).add 1) = some (.int .i64 n11) ∧ w8.cell? ((q9.add (n4.toNat * 5)).add 2) = some (.int .i64 n12) ∧ w8.cell? ((q9.add (n4.toNat * 5)).add 3) = some (.int .i64 n13) ∧ w8.cell? ((q9.add (n4.toNat * 5)).add 4) = some (.int .u32 n14) ∧ 
      ∃ q15 : Addr, b2 = some q15 ∧ 0 ≤ n4 ∧ n4 < (l_b2 : Nat) ∧ 
      ∃ (n16 : Int), ∃ (n17 : Int), ∃ (n18 : Int), ∃ (n19 : Int), ∃ (n20 : Int), w8.cell? (q15.add (n4.toNat * 5)) = some (.int .i64 n16) ∧ w8.cell? ((q15.add (n4.toNat * 5)).add 1) = some (.int .i64 n17) ∧ w8.cell? ((q15.add (n4.toNat * 5)).add 2) = some (.int .i64 n18) ∧ w8.cell? ((q15.add (n4.toNat * 5)).add 3) = some (.int .i64 n19) ∧ w8.cell? ((q15.add (n4.toNat * 5)).add 4) = some (.int .u32 n20) ∧ 
      RunWp Try.prog (do eqGuard .neq 57 (.tmp 19) (.tmp 23) (.agg #[.int .i64 n10, .int .i64 n11, .int .i64 n12, .int .i64 n13, .int .u32 n14]) (.agg #[.int .i64 n16, .int .i64 n17, .int .i64 n18, .int .i64 n19, .int .u32 n20]); binOp .neq 57 (.agg #[.int .i64 n10, .int .i64 n11, .int .i64 n12, .int .i64 n13, .int .u32 n14]) (.agg #[.int .i64 n16, .int .i64 n17, .int .i64 n18, .int .i64 n19, .int .u32 n20])) (fun v21 w22 => w22 = w8 ∧ ∃ (b23 : Bool), v21 = .bool b23 ∧ 
      cond b23
        (K (.bool false) w8)
        (I6 [.bool b3, .int .i64 (IntKind.i64.wrap (n4 + (1 : Int)))] w8 ∧ μ7 [.bool b3, .int .i64 (IntKind.i64.wrap (n4 + (1 : Int)))] w8 < μ7 [.bool b3, .int .i64 n4] w5)) w8)
      (K (.bool true) w5))
theorem sh42_eq (a1 : Option Addr) (l_a1 : Nat) (c_a1 : Nat) (b2 : Option Addr) (l_b2 : Nat) (c_b2 : Nat) (K : Value → World → Prop) (w : World) : denF X Try.f42 [.slice a1 l_a1 c_a1, .slice b2 l_b2 c_b2] K w = sh42 a1 l_a1 c_a1 b2 l_b2 c_b2 K w := by kernel_rfl
theorem c42 {a1 : Option Addr} {l_a1 : Nat} {c_a1 : Nat} {b2 : Option Addr} {l_b2 : Nat} {c_b2 : Nat} {w : World} {R : Ending → World → Prop} (h : sh42 a1 l_a1 c_a1 b2 l_b2 c_b2 (fun v w' => R (.returned v) w') w) : Calls Try.prog 42 #[.slice a1 l_a1 c_a1, .slice b2 l_b2 c_b2] w R :=
  callOf Try.func42 (args := [.slice a1 l_a1 c_a1, .slice b2 l_b2 c_b2]) (Eq.mpr (sh42_eq a1 l_a1 c_a1 b2 l_b2 c_b2 _ w) h)

/-- bramble/bramblelaw19.Records -/
def sh43 (ops1 : Option Addr) (l_ops1 : Nat) (c_ops1 : Nat) (K : Value → World → Prop) (w : World) : Prop :=
  ∃ (I7 : List Value → World → Prop) (μ8 : List Value → World → Nat), I7 [.slice none 0 0, .slice none 0 0, .slice none 0 0, .int .i64 0] w ∧ ∀ (w6 : World) (b2 : Option Addr) (l_b2 : Nat) (c_b2 : Nat) (l3 : Option Addr) (l_l3 : Nat) (c_l3 : Nat) (ends4 : Option Addr) (l_ends4 : Nat) (c_ends4 : Nat) (n5 : Int), I7 [.slice b2 l_b2 c_b2, .slice l3 l_l3 c_l3, .slice ends4 l_ends4 c_ends4, .int .i64 n5] w6 → 
  cond (decide (n5 < ((l_ops1 : Nat) : Int)))
    (∃ q9 : Addr, ops1 = some q9 ∧ 0 ≤ n5 ∧ n5 < (l_ops1 : Nat) ∧ 
    ∃ (n10 : Int), ∃ (n11 : Int), ∃ (n12 : Int), ∃ (n13 : Int), ∃ (n14 : Int), w6.cell? (q9.add (n5.toNat * 5)) = some (.int .i64 n10) ∧ w6.cell? ((q9.add (n5.toNat * 5)).add 1) = some (.int .i64 n11) ∧ w6.cell? ((q9.add (n5.toNat * 5)).add 2) = some (.int .i64 n12) ∧ w6.cell? ((q9.add (n5.toNat * 5)).add 3) = some (.int .i64 n13) ∧ w6.cell? ((q9.add (n5.toNat * 5)).add 4) = some (.int .u32 n14) ∧ 
    Calls Try.prog 38 #[.agg #[.int .i64 n10, .int .i64 n11, .int .i64 n12, .int .i64 n13, .int .u32 n14]] w6 (fun e15 w16 => ∃ (n17 : Int), ∃ (n18 : Int), ∃ (n19 : Int), ∃ (n20 : Int), ∃ (n21 : Int), ∃ (n22 : Int), e15 = .returned (.tuple #[.agg #[.int .i64 n17, .int .i64 n18, .int .i64 n19, .int .i64 n20, .int .u32 n21], .int .i64 n22]) ∧ 
    let p23 : Nat := w16.heap.size; let w24 : World := w16.alloc (.cells #[.int .i64 0, .int .i64 0, .int .i64 0, .int .i64 0, .int .u32 0] 57); 
    wrN w24 (⟨p23, 0, none⟩ : Addr) 5 ∧ let w25 : World := setN (⟨p23, 0, none⟩ : Addr) 0 [.int .i64 n17, .int .i64 n18, .int .i64 n19, .int .i64 n20, .int .u32 n21] w24; 
    cond (n22 == (0 : Int))
      (∃ (op26 : Int), ∃ (op27 : Int), ∃ (op28 : Int), ∃ (op29 : Int), ∃ (op30 : Int), w25.cell? (⟨p23, 0, none⟩ : Addr) = some (.int .i64 op26) ∧ w25.cell? (⟨p23, 1, none⟩ : Addr) = some (.int .i64 op27) ∧ w25.cell? (⟨p23, 2, none⟩ : Addr) = some (.int .i64 op28) ∧ w25.cell? (⟨p23, 3, none⟩ : Addr) = some (.int .i64 op29) ∧ w25.cell? (⟨p23, 4, none⟩ : Addr) = some (.int .u32 op30) ∧ 
      Calls Try.prog 39 #[.agg #[.int .i64 op26, .int .i64 op27, .int .i64 op28, .int .i64 op29, .int .u32 op30]] w25 (fun e31 w32 => ∃ (a33 : Option Addr), ∃ (l_a33 : Nat), ∃ (c_a33 : Nat), e31 = .returned (.slice a33 l_a33 c_a33) ∧ 
      RunWp Try.prog (Builtin.append_ #[36, 36] 36 #[.slice b2 l_b2 c_b2, .slice a33 l_a33 c_a33]) (fun v34 w35 => ∃ (a36 : Option Addr), ∃ (l_a36 : Nat), ∃ (c_a36 : Nat), v34 = .slice a36 l_a36 c_a36 ∧ 
      ∃ (op37 : Int), ∃ (op38 : Int), ∃ (op39 : Int), ∃ (op40 : Int), ∃ (op41 : Int), w35.cell? (⟨p23, 0, none⟩ : Addr) = some (.int .i64 op37) ∧ w35.cell? (⟨p23, 1, none⟩ : Addr) = some (.int .i64 op38) ∧ w35.cell? (⟨p23, 2, none⟩ : Addr) = some (.int .i64 op39) ∧ w35.cell? (⟨p23, 3, none⟩ : Addr) = some (.int .i64 op40) ∧ w35.cell? (⟨p23, 4, none⟩ : Addr) = some (.int .u32 op41) ∧ 
      let p42 : Nat := w35.heap.size; let w43 : World := w35.alloc (.cells #[.int .i64 op37, .int .i64 op38, .int .i64 op39, .int .i64 op40, .int .u32 op41] 57); 
      RunWp Try.prog (Builtin.append_ #[64, 64] 64 #[.slice l3 l_l3 c_l3, .slice (some ⟨p42, 0, none⟩) 1 1]) (fun v44 w45 => ∃ (a46 : Option Addr), ∃ (l_a46 : Nat), ∃ (c_a46 : Nat), v44 = .slice a46 l_a46 c_a46 ∧ 
      let p47 : Nat := w45.heap.size; let w48 : World := w45.alloc (.cells #[.int .i64 ((l_a36 : Nat) : Int)] 3); 
      RunWp Try.prog (Builtin.append_ #[69, 69] 69 #[.slice ends4 l_ends4 c_ends4, .slice (some ⟨p47, 0, none⟩) 1 1]) (fun v49 w50 => ∃ (a51 : Option Addr), ∃ (l_a51 : Nat), ∃ (c_a51 : Nat), v49 = .slice a51 l_a51 c_a51 ∧ 
      I7 [.slice a36 l_a36 c_a36, .slice a46 l_a46 c_a46, .slice a51 l_a51 c_a51, .int .i64 (IntKind.i64.wrap (n5 + (1 : Int)))] w50 ∧ μ8 [.slice a36 l_a36 c_a36, .slice a46 l_a46 c_a46, .slice a51 l_a51 c_a51, .int .i64 (IntKind.i64.wrap (n5 + (1 : Int)))] w50 < μ8 [.slice b2 l_b2 c_b2, .slice l3 l_l3 c_l3, .slice ends4 l_ends4 c_ends4, .int .i64 n5] w6) w48) w43) w32))
      (I7 [.slice b2 l_b2 c_b2, .slice l3 l_l3 c_l3, .slice ends4 l_ends4 c_ends4, .int .i64 (IntKind.i64.wrap (n5 + (1 : Int)))] w25 ∧ μ8 [.slice b2 l_b2 c_b2, .slice l3 l_l3 c_l3, .slice ends4 l_ends4 c_ends4, .int .i64 (IntKind.i64.wrap (n5 + (1 : Int)))] w25 < μ8 [.slice b2 l_b2 c_b2, .slice l3 l_l3 c_l3, .slice ends4 l_ends4 c_ends4, .int .i64 n5] w6)))
    (K (.tuple #[.slice b2 l_b2 c_b2, .slice l3 l_l3 c_l3, .slice ends4 l_ends4 c_ends4]) w6)
theorem sh43_eq (ops1 : Option Addr) (l_ops1 : Nat) (c_ops1 : Nat) (K : Value → World → Prop) (w : World) : denF X Try.f43 [.slice ops1 l_ops1 c_ops1] K w = sh43 ops1 l_ops1 c_ops1 K w := by kernel_rfl
theorem c43 {ops1 : Option Addr} {l_ops1 : Nat} {c_ops1 : Nat} {w : World} {R : Ending → World → Prop} (h : sh43 ops1 l_ops1 c_ops1 (fun v w' => R (.returned v) w') w) : Calls Try.prog 43 #[.slice ops1 l_ops1 c_ops1] w R :=
  callOf Try.func43 (args := [.slice ops1 l_ops1 c_ops1]) (Eq.mpr (sh43_eq ops1 l_ops1 c_ops1 _ w) h)

/-- bramble/record.shapes -/
def sh76 (k1 : Int) (K : Value → World → Prop) (w : World) : Prop :=
  let p2 : Nat := w.heap.size; let w3 : World := w.alloc (.cells #[.slice none 0 0, .bool false] 128); 
  let p4 : Nat := w3.heap.size; let w5 : World := w3.alloc (.cells #[.nilFunc, .int .i64 0, .int .i64 0] 133); 
  wrN w5 (⟨p4, 0, none⟩ : Addr) 3 ∧ let w6 : World := setN (⟨p4, 0, none⟩ : Addr) 0 [.func (.func 97) #[] #[], .int .i64 1, .int .i64 1024] w5; 
  let p7 : Nat := w6.heap.size; let w8 : World := w6.alloc (.cells #[.nilFunc, .int .i64 0, .int .i64 0] 133); 
  wrN w8 (⟨p7, 0, none⟩ : Addr) 3 ∧ let w9 : World := setN (⟨p7, 0, none⟩ : Addr) 0 [.func (.func 98) #[] #[], .int .i64 0, .int .i64 2147483647] w8; 
  let p10 : Nat := w9.heap.size; let w11 : World := w9.alloc (.cells #[.nilFunc, .int .i64 0, .int .i64 0] 133); 
  wrN w11 (⟨p10, 0, none⟩ : Addr) 3 ∧ let w12 : World := setN (⟨p10, 0, none⟩ : Addr) 0 [.func (.func 99) #[] #[], .int .i64 0, .int .i64 2147483647] w11; 
  let K15 : Bool → World → Prop := fun b13 w14 =>
      cond b13
        (∃ (to16 : Value), ∃ (to17 : Int), ∃ (to18 : Int), w14.cell? (⟨p10, 0, none⟩ : Addr) = some (to16) ∧ w14.cell? (⟨p10, 1, none⟩ : Addr) = some (.int .i64 to17) ∧ w14.cell? (⟨p10, 2, none⟩ : Addr) = some (.int .i64 to18) ∧ 
        let p19 : Nat := w14.heap.size; let w20 : World := w14.alloc (.cells #[to16, .int .i64 to17, .int .i64 to18] 133); 
        wrN w20 (⟨p2, 0, none⟩ : Addr) 2 ∧ let w21 : World := setN (⟨p2, 0, none⟩ : Addr) 0 [.slice (some ⟨p19, 0, none⟩) 1 1, .bool false] w20; 
        ∃ (a47 : Option Addr), ∃ (l_a47 : Nat), ∃ (c_a47 : Nat), ∃ (b48 : Bool), w21.cell? (⟨p2, 0, none⟩ : Addr) = some (.slice a47 l_a47 c_a47) ∧ w21.cell? (⟨p2, 1, none⟩ : Addr) = some (.bool b48) ∧ 
        K (.tuple #[.agg #[.slice a47 l_a47 c_a47, .bool b48], .bool true]) w21)
        (cond (k1 == (3 : Int))
          (∃ (edge22 : Value), ∃ (edge23 : Int), ∃ (edge24 : Int), w14.cell? (⟨p4, 0, none⟩ : Addr) = some (edge22) ∧ w14.cell? (⟨p4, 1, none⟩ : Addr) = some (.int .i64 edge23) ∧ w14.cell? (⟨p4, 2, none⟩ : Addr) = some (.int .i64 edge24) ∧ 
          ∃ (from25 : Value), ∃ (from26 : Int), ∃ (from27 : Int), w14.cell? (⟨p7, 0, none⟩ : Addr) = some (from25) ∧ w14.cell? (⟨p7, 1, none⟩ : Addr) = some (.int .i64 from26) ∧ w14.cell? (⟨p7, 2, none⟩ : Addr) = some (.int .i64 from27) ∧ 
          ∃ (to28 : Value), ∃ (to29 : Int), ∃ (to30 : Int), w14.cell? (⟨p10, 0, none⟩ : Addr) = some (to28) ∧ w14.cell? (⟨p10, 1, none⟩ : Addr) = some (.int .i64 to29) ∧ w14.cell? (⟨p10, 2, none⟩ : Addr) = some (.int .i64 to30) ∧ 
          let p31 : Nat := w14.heap.size; let w32 : World := w14.alloc (.cells #[edge22, .int .i64 edge23, .int .i64 edge24, from25, .int .i64 from26, .int .i64 from27, to28, .int .i64 to29, .int .i64 to30] 133); 
          wrN w32 (⟨p2, 0, none⟩ : Addr) 2 ∧ let w33 : World := setN (⟨p2, 0, none⟩ : Addr) 0 [.slice (some ⟨p31, 0, none⟩) 3 3, .bool true] w32; 
          ∃ (a49 : Option Addr), ∃ (l_a49 : Nat), ∃ (c_a49 : Nat), ∃ (b50 : Bool), w33.cell? (⟨p2, 0, none⟩ : Addr) = some (.slice a49 l_a49 c_a49) ∧ w33.cell? (⟨p2, 1, none⟩ : Addr) = some (.bool b50) ∧ 
          K (.tuple #[.agg #[.slice a49 l_a49 c_a49, .bool b50], .bool true]) w33)
          (cond (k1 == (4 : Int))
            (∃ (edge34 : Value), ∃ (edge35 : Int), ∃ (edge36 : Int), w14.cell? (⟨p4, 0, none⟩ : Addr) = some (edge34) ∧ w14.cell? (⟨p4, 1, none⟩ : Addr) = some (.int .i64 edge35) ∧ w14.cell? (⟨p4, 2, none⟩ : Addr) = some (.int .i64 edge36) ∧ 
            let p37 : Nat := w14.heap.size; let w38 : World := w14.alloc (.cells #[edge34, .int .i64 edge35, .int .i64 edge36] 133); 
            wrN w38 (⟨p2, 0, none⟩ : Addr) 2 ∧ let w39 : World := setN (⟨p2, 0, none⟩ : Addr) 0 [.slice (some ⟨p37, 0, none⟩) 1 1, .bool false] w38; 
            ∃ (a51 : Option Addr), ∃ (l_a51 : Nat), ∃ (c_a51 : Nat), ∃ (b52 : Bool), w39.cell? (⟨p2, 0, none⟩ : Addr) = some (.slice a51 l_a51 c_a51) ∧ w39.cell? (⟨p2, 1, none⟩ : Addr) = some (.bool b52) ∧ 
            K (.tuple #[.agg #[.slice a51 l_a51 c_a51, .bool b52], .bool true]) w39)
            (cond (k1 == (5 : Int))
              (∃ (edge40 : Value), ∃ (edge41 : Int), ∃ (edge42 : Int), w14.cell? (⟨p4, 0, none⟩ : Addr) = some (edge40) ∧ w14.cell? (⟨p4, 1, none⟩ : Addr) = some (.int .i64 edge41) ∧ w14.cell? (⟨p4, 2, none⟩ : Addr) = some (.int .i64 edge42) ∧ 
              let p43 : Nat := w14.heap.size; let w44 : World := w14.alloc (.cells #[edge40, .int .i64 edge41, .int .i64 edge42] 133); 
              wrN w44 (⟨p2, 0, none⟩ : Addr) 2 ∧ let w45 : World := setN (⟨p2, 0, none⟩ : Addr) 0 [.slice (some ⟨p43, 0, none⟩) 1 1, .bool true] w44; 
              ∃ (a53 : Option Addr), ∃ (l_a53 : Nat), ∃ (c_a53 : Nat), ∃ (b54 : Bool), w45.cell? (⟨p2, 0, none⟩ : Addr) = some (.slice a53 l_a53 c_a53) ∧ w45.cell? (⟨p2, 1, none⟩ : Addr) = some (.bool b54) ∧ 
              K (.tuple #[.agg #[.slice a53 l_a53 c_a53, .bool b54], .bool true]) w45)
              (wrN w14 (⟨p2, 0, none⟩ : Addr) 2 ∧ let w46 : World := setN (⟨p2, 0, none⟩ : Addr) 0 [.slice none 0 0, .bool false] w14; 
              ∃ (a55 : Option Addr), ∃ (l_a55 : Nat), ∃ (c_a55 : Nat), ∃ (b56 : Bool), w46.cell? (⟨p2, 0, none⟩ : Addr) = some (.slice a55 l_a55 c_a55) ∧ w46.cell? (⟨p2, 1, none⟩ : Addr) = some (.bool b56) ∧ 
              K (.tuple #[.agg #[.slice a55 l_a55 c_a55, .bool b56], .bool false]) w46))))
  cond (k1 == (1 : Int))
    (K15 (k1 == (1 : Int)) w12)
    (cond (k1 == (2 : Int))
      (K15 (k1 == (2 : Int)) w12)
      (cond (k1 == (6 : Int))
        (K15 (k1 == (6 : Int)) w12)
        (K15 (k1 == (7 : Int)) w12)))
theorem sh76_eq (k1 : Int) (K : Value → World → Prop) (w : World) : denF X Try.f76 [.int .i64 k1] K w = sh76 k1 K w := by kernel_rfl
theorem c76 {k1 : Int} {w : World} {R : Ending → World → Prop} (h : sh76 k1 (fun v w' => R (.returned v) w') w) : Calls Try.prog 76 #[.int .i64 k1] w R :=
  callOf Try.func76 (args := [.int .i64 k1]) (Eq.mpr (sh76_eq k1 _ w) h)

/-- bramble/vary.Put -/
def sh77 (b1 : Option Addr) (l_b1 : Nat) (c_b1 : Nat) (n2 : Int) (K : Value → World → Prop) (w : World) : Prop :=
  ∃ (I6 : List Value → World → Prop) (μ7 : List Value → World → Nat), I6 [.slice b1 l_b1 c_b1, .int .i64 n2] w ∧ ∀ (w5 : World) (b3 : Option Addr) (l_b3 : Nat) (c_b3 : Nat) (n4 : Int), I6 [.slice b3 l_b3 c_b3, .int .i64 n4] w5 → 
  cond (decide (n4 ≥ (128 : Int)))
    (let p8 : Nat := w5.heap.size; let w9 : World := w5.alloc (.cells #[.int .u8 (IntKind.u8.wrap ((((BitVec.ofInt 8 (IntKind.u8.wrap (n4))) ||| (BitVec.ofInt 8 (128 : Int))).toNat : Int)))] 5); 
    RunWp Try.prog (Builtin.append_ #[36, 36] 36 #[.slice b3 l_b3 c_b3, .slice (some ⟨p8, 0, none⟩) 1 1]) (fun v10 w11 => ∃ (a12 : Option Addr), ∃ (l_a12 : Nat), ∃ (c_a12 : Nat), v10 = .slice a12 l_a12 c_a12 ∧ 
    0 ≤ (7 : Int) ∧ 
    I6 [.slice a12 l_a12 c_a12, .int .i64 (Int.fdiv n4 (2 ^ (min (7 : Int).toNat 64)))] w11 ∧ μ7 [.slice a12 l_a12 c_a12, .int .i64 (Int.fdiv n4 (2 ^ (min (7 : Int).toNat 64)))] w11 < μ7 [.slice b3 l_b3 c_b3, .int .i64 n4] w5) w9)
    (let p13 : Nat := w5.heap.size; let w14 : World := w5.alloc (.cells #[.int .u8 (IntKind.u8.wrap (n4))] 5); 
    RunWp Try.prog (Builtin.append_ #[36, 36] 36 #[.slice b3 l_b3 c_b3, .slice (some ⟨p13, 0, none⟩) 1 1]) (fun v15 w16 => ∃ (a17 : Option Addr), ∃ (l_a17 : Nat), ∃ (c_a17 : Nat), v15 = .slice a17 l_a17 c_a17 ∧ 
    K (.slice a17 l_a17 c_a17) w16) w14)
theorem sh77_eq (b1 : Option Addr) (l_b1 : Nat) (c_b1 : Nat) (n2 : Int) (K : Value → World → Prop) (w : World) : denF X Try.f77 [.slice b1 l_b1 c_b1, .int .i64 n2] K w = sh77 b1 l_b1 c_b1 n2 K w := by kernel_rfl
theorem c77 {b1 : Option Addr} {l_b1 : Nat} {c_b1 : Nat} {n2 : Int} {w : World} {R : Ending → World → Prop} (h : sh77 b1 l_b1 c_b1 n2 (fun v w' => R (.returned v) w') w) : Calls Try.prog 77 #[.slice b1 l_b1 c_b1, .int .i64 n2] w R :=
  callOf Try.func77 (args := [.slice b1 l_b1 c_b1, .int .i64 n2]) (Eq.mpr (sh77_eq b1 l_b1 c_b1 n2 _ w) h)

/-- bramble/record.check -/
def sh78 (b1 : Option Addr) (l_b1 : Nat) (c_b1 : Nat) (K : Value → World → Prop) (w : World) : Prop :=
  ∃ (I5 : List Value → World → Prop) (μ6 : List Value → World → Nat), I5 [.int .u8 90, .int .i64 0] w ∧ ∀ (w4 : World) (c2 : Int) (n3 : Int), I5 [.int .u8 c2, .int .i64 n3] w4 → 
  cond (decide (n3 < ((l_b1 : Nat) : Int)))
    (∃ q7 : Addr, b1 = some q7 ∧ 0 ≤ n3 ∧ n3 < (l_b1 : Nat) ∧ 
    ∃ (n8 : Int), w4.cell? (q7.add (n3.toNat * 1)) = some (.int .u8 n8) ∧ 
    I5 [.int .u8 (IntKind.u8.wrap ((((BitVec.ofInt 8 c2) ^^^ (BitVec.ofInt 8 n8)).toNat : Int))), .int .i64 (IntKind.i64.wrap (n3 + (1 : Int)))] w4 ∧ μ6 [.int .u8 (IntKind.u8.wrap ((((BitVec.ofInt 8 c2) ^^^ (BitVec.ofInt 8 n8)).toNat : Int))), .int .i64 (IntKind.i64.wrap (n3 + (1 : Int)))] w4 < μ6 [.int .u8 c2, .int .i64 n3] w4)
    (K (.int .u8 c2) w4)
theorem sh78_eq (b1 : Option Addr) (l_b1 : Nat) (c_b1 : Nat) (K : Value → World → Prop) (w : World) : denF X Try.f78 [.slice b1 l_b1 c_b1] K w = sh78 b1 l_b1 c_b1 K w := by kernel_rfl
theorem c78 {b1 : Option Addr} {l_b1 : Nat} {c_b1 : Nat} {w : World} {R : Ending → World → Prop} (h : sh78 b1 l_b1 c_b1 (fun v w' => R (.returned v) w') w) : Calls Try.prog 78 #[.slice b1 l_b1 c_b1] w R :=
  callOf Try.func78 (args := [.slice b1 l_b1 c_b1]) (Eq.mpr (sh78_eq b1 l_b1 c_b1 _ w) h)

/-- bramble/brambleref19.vertex -/
def sh79 (v1 : Int) (K : Value → World → Prop) (w : World) : Prop :=
  cond (decide (v1 ≥ (0 : Int)))
    (K (.bool (decide (v1 ≤ (2147483647 : Int)))) w)
    (K (.bool false) w)
theorem sh79_eq (v1 : Int) (K : Value → World → Prop) (w : World) : denF X Try.f79 [.int .i64 v1] K w = sh79 v1 K w := by kernel_rfl
theorem c79 {v1 : Int} {w : World} {R : Ending → World → Prop} (h : sh79 v1 (fun v w' => R (.returned v) w') w) : Calls Try.prog 79 #[.int .i64 v1] w R :=
  callOf Try.func79 (args := [.int .i64 v1]) (Eq.mpr (sh79_eq v1 _ w) h)

/-- bramble/brambleref19.edge -/
def sh80 (e1 : Int) (K : Value → World → Prop) (w : World) : Prop :=
  cond (decide (e1 ≥ (1 : Int)))
    (K (.bool (decide (e1 ≤ (1024 : Int)))) w)
    (K (.bool false) w)
theorem sh80_eq (e1 : Int) (K : Value → World → Prop) (w : World) : denF X Try.f80 [.int .i64 e1] K w = sh80 e1 K w := by kernel_rfl
theorem c80 {e1 : Int} {w : World} {R : Ending → World → Prop} (h : sh80 e1 (fun v w' => R (.returned v) w') w) : Calls Try.prog 80 #[.int .i64 e1] w R :=
  callOf Try.func80 (args := [.int .i64 e1]) (Eq.mpr (sh80_eq e1 _ w) h)

/-- bramble/brambleref16.Number -/
def sh81 (n1 : Int) (K : Value → World → Prop) (w : World) : Prop :=
  ∃ (I5 : List Value → World → Prop) (μ6 : List Value → World → Nat), I5 [.slice none 0 0, .int .i64 n1] w ∧ ∀ (w4 : World) (out2 : Option Addr) (l_out2 : Nat) (c_out2 : Nat) (n3 : Int), I5 [.slice out2 l_out2 c_out2, .int .i64 n3] w4 → 
  cond (decide (n3 ≥ (128 : Int)))
    ((128 : Int) ≠ 0 ∧ 
    let p7 : Nat := w4.heap.size; let w8 : World := w4.alloc (.cells #[.int .u8 (IntKind.u8.wrap (IntKind.i64.wrap ((Int.tmod n3 (128 : Int)) + (128 : Int))))] 5); 
    RunWp Try.prog (Builtin.append_ #[36, 36] 36 #[.slice out2 l_out2 c_out2, .slice (some ⟨p7, 0, none⟩) 1 1]) (fun v9 w10 => ∃ (a11 : Option Addr), ∃ (l_a11 : Nat), ∃ (c_a11 : Nat), v9 = .slice a11 l_a11 c_a11 ∧ 
    (128 : Int) ≠ 0 ∧ 
    I5 [.slice a11 l_a11 c_a11, .int .i64 (IntKind.i64.wrap (Int.tdiv n3 (128 : Int)))] w10 ∧ μ6 [.slice a11 l_a11 c_a11, .int .i64 (IntKind.i64.wrap (Int.tdiv n3 (128 : Int)))] w10 < μ6 [.slice out2 l_out2 c_out2, .int .i64 n3] w4) w8)
    (let p12 : Nat := w4.heap.size; let w13 : World := w4.alloc (.cells #[.int .u8 (IntKind.u8.wrap (n3))] 5); 
    RunWp Try.prog (Builtin.append_ #[36, 36] 36 #[.slice out2 l_out2 c_out2, .slice (some ⟨p12, 0, none⟩) 1 1]) (fun v14 w15 => ∃ (a16 : Option Addr), ∃ (l_a16 : Nat), ∃ (c_a16 : Nat), v14 = .slice a16 l_a16 c_a16 ∧ 
    K (.slice a16 l_a16 c_a16) w15) w13)
theorem sh81_eq (n1 : Int) (K : Value → World → Prop) (w : World) : denF X Try.f81 [.int .i64 n1] K w = sh81 n1 K w := by kernel_rfl
theorem c81 {n1 : Int} {w : World} {R : Ending → World → Prop} (h : sh81 n1 (fun v w' => R (.returned v) w') w) : Calls Try.prog 81 #[.int .i64 n1] w R :=
  callOf Try.func81 (args := [.int .i64 n1]) (Eq.mpr (sh81_eq n1 _ w) h)

/-- bramble/brambleref19.bits -/
def sh82 (n1 : Int) (K : Value → World → Prop) (w : World) : Prop :=
  (256 : Int) ≠ 0 ∧ 
  (256 : Int) ≠ 0 ∧ 
  (256 : Int) ≠ 0 ∧ 
  (65536 : Int) ≠ 0 ∧ 
  (256 : Int) ≠ 0 ∧ 
  (16777216 : Int) ≠ 0 ∧ 
  let p2 : Nat := w.heap.size; let w3 : World := w.alloc (.cells #[.int .u8 (IntKind.u8.wrap (Int.tmod n1 (256 : Int))), .int .u8 (IntKind.u8.wrap (Int.tmod (IntKind.i64.wrap (Int.tdiv n1 (256 : Int))) (256 : Int))), .int .u8 (IntKind.u8.wrap (Int.tmod (IntKind.i64.wrap (Int.tdiv n1 (65536 : Int))) (256 : Int))), .int .u8 (IntKind.u8.wrap (IntKind.i64.wrap (Int.tdiv n1 (16777216 : Int))))] 5); 
  K (.slice (some ⟨p2, 0, none⟩) 4 4) w3
theorem sh82_eq (n1 : Int) (K : Value → World → Prop) (w : World) : denF X Try.f82 [.int .i64 n1] K w = sh82 n1 K w := by kernel_rfl
theorem c82 {n1 : Int} {w : World} {R : Ending → World → Prop} (h : sh82 n1 (fun v w' => R (.returned v) w') w) : Calls Try.prog 82 #[.int .i64 n1] w R :=
  callOf Try.func82 (args := [.int .i64 n1]) (Eq.mpr (sh82_eq n1 _ w) h)

/-- bramble/record.one -/
def sh83 (b1 : Option Addr) (l_b1 : Nat) (c_b1 : Nat) (K : Value → World → Prop) (w : World) : Prop :=
  let p2 : Nat := w.heap.size; let w3 : World := w.alloc (.cells #[.int .i64 0, .int .i64 0, .int .i64 0, .int .i64 0, .int .u32 0] 57); 
  let K8 : Bool → World → Prop := fun b6 w7 =>
      cond b6
        (∃ (op9 : Int), ∃ (op10 : Int), ∃ (op11 : Int), ∃ (op12 : Int), ∃ (op13 : Int), w7.cell? (⟨p2, 0, none⟩ : Addr) = some (.int .i64 op9) ∧ w7.cell? (⟨p2, 1, none⟩ : Addr) = some (.int .i64 op10) ∧ w7.cell? (⟨p2, 2, none⟩ : Addr) = some (.int .i64 op11) ∧ w7.cell? (⟨p2, 3, none⟩ : Addr) = some (.int .i64 op12) ∧ w7.cell? (⟨p2, 4, none⟩ : Addr) = some (.int .u32 op13) ∧ 
        wrN w7 (⟨p2, 0, none⟩ : Addr) 5 ∧ let w14 : World := setN (⟨p2, 0, none⟩ : Addr) 0 [.int .i64 op9, .int .i64 op10, .int .i64 op11, .int .i64 op12, .int .u32 op13] w7; 
        ∃ (n106 : Int), ∃ (n107 : Int), ∃ (n108 : Int), ∃ (n109 : Int), ∃ (n110 : Int), w14.cell? (⟨p2, 0, none⟩ : Addr) = some (.int .i64 n106) ∧ w14.cell? (⟨p2, 1, none⟩ : Addr) = some (.int .i64 n107) ∧ w14.cell? (⟨p2, 2, none⟩ : Addr) = some (.int .i64 n108) ∧ w14.cell? (⟨p2, 3, none⟩ : Addr) = some (.int .i64 n109) ∧ w14.cell? (⟨p2, 4, none⟩ : Addr) = some (.int .u32 n110) ∧ 
        K (.tuple #[.agg #[.int .i64 n106, .int .i64 n107, .int .i64 n108, .int .i64 n109, .int .u32 n110], .int .i64 0, .bool false]) w14)
        (∃ q15 : Addr, b1 = some q15 ∧ 0 ≤ (0 : Int) ∧ (0 : Int) < (l_b1 : Nat) ∧ 
        ∃ (n16 : Int), w7.cell? q15 = some (.int .u8 n16) ∧ 
        let K26 : Bool → World → Prop := fun b24 w25 =>
            cond b24
              (∃ (op27 : Int), ∃ (op28 : Int), ∃ (op29 : Int), ∃ (op30 : Int), ∃ (op31 : Int), w25.cell? (⟨p2, 0, none⟩ : Addr) = some (.int .i64 op27) ∧ w25.cell? (⟨p2, 1, none⟩ : Addr) = some (.int .i64 op28) ∧ w25.cell? (⟨p2, 2, none⟩ : Addr) = some (.int .i64 op29) ∧ w25.cell? (⟨p2, 3, none⟩ : Addr) = some (.int .i64 op30) ∧ w25.cell? (⟨p2, 4, none⟩ : Addr) = some (.int .u32 op31) ∧ 
              wrN w25 (⟨p2, 0, none⟩ : Addr) 5 ∧ let w32 : World := setN (⟨p2, 0, none⟩ : Addr) 0 [.int .i64 op27, .int .i64 op28, .int .i64 op29, .int .i64 op30, .int .u32 op31] w25; 
              ∃ (n111 : Int), ∃ (n112 : Int), ∃ (n113 : Int), ∃ (n114 : Int), ∃ (n115 : Int), w32.cell? (⟨p2, 0, none⟩ : Addr) = some (.int .i64 n111) ∧ w32.cell? (⟨p2, 1, none⟩ : Addr) = some (.int .i64 n112) ∧ w32.cell? (⟨p2, 2, none⟩ : Addr) = some (.int .i64 n113) ∧ w32.cell? (⟨p2, 3, none⟩ : Addr) = some (.int .i64 n114) ∧ w32.cell? (⟨p2, 4, none⟩ : Addr) = some (.int .u32 n115) ∧ 
              K (.tuple #[.agg #[.int .i64 n111, .int .i64 n112, .int .i64 n113, .int .i64 n114, .int .u32 n115], .int .i64 0, .bool false]) w32)
              (∃ q33 : Addr, b1 = some q33 ∧ 0 ≤ (1 : Int) ∧ (1 : Int) < (l_b1 : Nat) ∧ 
              ∃ (n34 : Int), w25.cell? (q33.add 1) = some (.int .u8 n34) ∧ 
              wr w25 (⟨p2, 0, none⟩ : Addr) ∧ let w35 : World := w25.setCell (⟨p2, 0, none⟩ : Addr) (.int .i64 (IntKind.i64.wrap (n34))); 
              ∃ (Kind36 : Int), w35.cell? (⟨p2, 0, none⟩ : Addr) = some (.int .i64 Kind36) ∧ 
              Calls Try.prog 76 #[.int .i64 Kind36] w35 (fun e37 w38 => ∃ (a39 : Option Addr), ∃ (l_a39 : Nat), ∃ (c_a39 : Nat), ∃ (b40 : Bool), ∃ (b41 : Bool), e37 = .returned (.tuple #[.agg #[.slice a39 l_a39 c_a39, .bool b40], .bool b41]) ∧ 
              let p42 : Nat := w38.heap.size; let w43 : World := w38.alloc (.cells #[.slice none 0 0, .bool false] 128); 
              wrN w43 (⟨p42, 0, none⟩ : Addr) 2 ∧ let w44 : World := setN (⟨p42, 0, none⟩ : Addr) 0 [.slice a39 l_a39 c_a39, .bool b40] w43; 
              0 ≤ (IntKind.i64.wrap ((IntKind.i64.wrap ((IntKind.i64.wrap (n16)) + (2 : Int))) - (1 : Int))) ∧ (IntKind.i64.wrap ((IntKind.i64.wrap ((IntKind.i64.wrap (n16)) + (2 : Int))) - (1 : Int))) ≤ (c_b1 : Nat) ∧ 
              0 ≤ (2 : Int) ∧ (2 : Int) ≤ ((IntKind.i64.wrap ((IntKind.i64.wrap ((IntKind.i64.wrap (n16)) + (2 : Int))) - (1 : Int))).toNat : Nat) ∧ 
              ∃ (numbers45 : Option Addr), ∃ (l_numbers45 : Nat), ∃ (c_numbers45 : Nat), w44.cell? (⟨p42, 0, none⟩ : Addr) = some (.slice numbers45 l_numbers45 c_numbers45) ∧ 
              ∃ (I51 : List Value → World → Prop) (μ52 : List Value → World → Nat), I51 [.slice (subS b1 c_b1 ((2 : Int).toNat) 1) (((IntKind.i64.wrap ((IntKind.i64.wrap ((IntKind.i64.wrap (n16)) + (2 : Int))) - (1 : Int))).toNat) - ((2 : Int).toNat)) (c_b1 - ((2 : Int).toNat)), .int .i64 (IntKind.i64.wrap ((IntKind.i64.wrap (n16)) + (2 : Int))), .bool b41, .int .i64 0] w44 ∧ ∀ (w50 : World) (rest46 : Option Addr) (l_rest46 : Nat) (c_rest46 : Nat) (n47 : Int) (ok48 : Bool) (n49 : Int), I51 [.slice rest46 l_rest46 c_rest46, .int .i64 n47, .bool ok48, .int .i64 n49] w50 → 
              cond (decide (n49 < ((l_numbers45 : Nat) : Int)))
                (∃ q53 : Addr, numbers45 = some q53 ∧ 0 ≤ n49 ∧ n49 < (l_numbers45 : Nat) ∧ 
                ∃ (v54 : Value), ∃ (n55 : Int), ∃ (n56 : Int), w50.cell? (q53.add (n49.toNat * 3)) = some (v54) ∧ w50.cell? ((q53.add (n49.toNat * 3)).add 1) = some (.int .i64 n55) ∧ w50.cell? ((q53.add (n49.toNat * 3)).add 2) = some (.int .i64 n56) ∧ 
                let p57 : Nat := w50.heap.size; let w58 : World := w50.alloc (.cells #[.nilFunc, .int .i64 0, .int .i64 0] 133); 
                cond (one1s [v54, .int .i64 n55, .int .i64 n56]) (
                wrN w58 (⟨p57, 0, none⟩ : Addr) 3 ∧ let w59 : World := setN (⟨p57, 0, none⟩ : Addr) 0 [v54, .int .i64 n55, .int .i64 n56] w58; 
                Calls Try.prog 100 #[.slice rest46 l_rest46 c_rest46] w59 (fun e60 w61 => ∃ (n62 : Int), ∃ (a63 : Option Addr), ∃ (l_a63 : Nat), ∃ (c_a63 : Nat), ∃ (b64 : Bool), e60 = .returned (.tuple #[.int .i64 n62, .slice a63 l_a63 c_a63, .bool b64]) ∧ 
                let K72 : Bool → Bool → Bool → Bool → World → Prop := fun b67 b68 b69 b70 w71 =>
                    cond b70
                      (wrN w71 (⟨p2, 0, none⟩ : Addr) 5 ∧ let w73 : World := setN (⟨p2, 0, none⟩ : Addr) 0 [.int .i64 0, .int .i64 0, .int .i64 0, .int .i64 0, .int .u32 0] w71; 
                      ∃ (n116 : Int), ∃ (n117 : Int), ∃ (n118 : Int), ∃ (n119 : Int), ∃ (n120 : Int), w73.cell? (⟨p2, 0, none⟩ : Addr) = some (.int .i64 n116) ∧ w73.cell? (⟨p2, 1, none⟩ : Addr) = some (.int .i64 n117) ∧ w73.cell? (⟨p2, 2, none⟩ : Addr) = some (.int .i64 n118) ∧ w73.cell? (⟨p2, 3, none⟩ : Addr) = some (.int .i64 n119) ∧ w73.cell? (⟨p2, 4, none⟩ : Addr) = some (.int .u32 n120) ∧ 
                      K (.tuple #[.agg #[.int .i64 n116, .int .i64 n117, .int .i64 n118, .int .i64 n119, .int .u32 n120], .int .i64 0, .bool false]) w73)
                      (∃ (at74 : Value), w71.cell? (⟨p57, 0, none⟩ : Addr) = some (at74) ∧ 
                      optP (asFn at74) fun r75 => cond (cl r75.1) (
                      Calls Try.prog r75.1 (r75.2.1.toList ++ ([.pointer (some ⟨p2, 0, none⟩)] : List Value) ++ r75.2.2.toList).toArray w71 (fun e77 w78 => ∃ (p79 : Option Addr), e77 = .returned (.pointer p79) ∧ 
                      optP p79 fun q80 => 
                      wr w78 q80 ∧ let w81 : World := w78.setCell q80 (.int .i64 n62); 
                      I51 [.slice a63 l_a63 c_a63, .int .i64 n47, .bool b64, .int .i64 (IntKind.i64.wrap (n49 + (1 : Int)))] w81 ∧ μ52 [.slice a63 l_a63 c_a63, .int .i64 n47, .bool b64, .int .i64 (IntKind.i64.wrap (n49 + (1 : Int)))] w81 < μ52 [.slice rest46 l_rest46 c_rest46, .int .i64 n47, .bool ok48, .int .i64 n49] w50)) False)
                cond (!b64)
                  (K72 true true true true w61)
                  (∃ (lo65 : Int), w61.cell? (⟨p57, 1, none⟩ : Addr) = some (.int .i64 lo65) ∧ 
                  cond (decide (n62 < lo65))
                    (K72 false (decide (n62 < lo65)) true true w61)
                    (∃ (hi66 : Int), w61.cell? (⟨p57, 2, none⟩ : Addr) = some (.int .i64 hi66) ∧ 
                    K72 false (decide (n62 < lo65)) false (decide (n62 > hi66)) w61)))) False)
                (let K95 : Option Addr → Nat → Nat → World → Prop := fun a93 l_a93 c_a93 w94 =>
                    ∃ (op96 : Int), ∃ (op97 : Int), ∃ (op98 : Int), ∃ (op99 : Int), ∃ (op100 : Int), w94.cell? (⟨p2, 0, none⟩ : Addr) = some (.int .i64 op96) ∧ w94.cell? (⟨p2, 1, none⟩ : Addr) = some (.int .i64 op97) ∧ w94.cell? (⟨p2, 2, none⟩ : Addr) = some (.int .i64 op98) ∧ w94.cell? (⟨p2, 3, none⟩ : Addr) = some (.int .i64 op99) ∧ w94.cell? (⟨p2, 4, none⟩ : Addr) = some (.int .u32 op100) ∧ 
                    cond ok48
                      (wrN w94 (⟨p2, 0, none⟩ : Addr) 5 ∧ let w101 : World := setN (⟨p2, 0, none⟩ : Addr) 0 [.int .i64 op96, .int .i64 op97, .int .i64 op98, .int .i64 op99, .int .u32 op100] w94; 
                      ∃ (n121 : Int), ∃ (n122 : Int), ∃ (n123 : Int), ∃ (n124 : Int), ∃ (n125 : Int), w101.cell? (⟨p2, 0, none⟩ : Addr) = some (.int .i64 n121) ∧ w101.cell? (⟨p2, 1, none⟩ : Addr) = some (.int .i64 n122) ∧ w101.cell? (⟨p2, 2, none⟩ : Addr) = some (.int .i64 n123) ∧ w101.cell? (⟨p2, 3, none⟩ : Addr) = some (.int .i64 n124) ∧ w101.cell? (⟨p2, 4, none⟩ : Addr) = some (.int .u32 n125) ∧ 
                      K (.tuple #[.agg #[.int .i64 n121, .int .i64 n122, .int .i64 n123, .int .i64 n124, .int .u32 n125], .int .i64 n47, .bool (((l_a93 : Nat) : Int) == (0 : Int))]) w101)
                      (wrN w94 (⟨p2, 0, none⟩ : Addr) 5 ∧ let w102 : World := setN (⟨p2, 0, none⟩ : Addr) 0 [.int .i64 op96, .int .i64 op97, .int .i64 op98, .int .i64 op99, .int .u32 op100] w94; 
                      ∃ (n126 : Int), ∃ (n127 : Int), ∃ (n128 : Int), ∃ (n129 : Int), ∃ (n130 : Int), w102.cell? (⟨p2, 0, none⟩ : Addr) = some (.int .i64 n126) ∧ w102.cell? (⟨p2, 1, none⟩ : Addr) = some (.int .i64 n127) ∧ w102.cell? (⟨p2, 2, none⟩ : Addr) = some (.int .i64 n128) ∧ w102.cell? (⟨p2, 3, none⟩ : Addr) = some (.int .i64 n129) ∧ w102.cell? (⟨p2, 4, none⟩ : Addr) = some (.int .u32 n130) ∧ 
                      K (.tuple #[.agg #[.int .i64 n126, .int .i64 n127, .int .i64 n128, .int .i64 n129, .int .u32 n130], .int .i64 n47, .bool false]) w102)
                ∃ (bits82 : Bool), w50.cell? (⟨p42, 1, none⟩ : Addr) = some (.bool bits82) ∧ 
                cond bits82
                  (cond (((l_rest46 : Nat) : Int) != (4 : Int))
                    (wrN w50 (⟨p2, 0, none⟩ : Addr) 5 ∧ let w83 : World := setN (⟨p2, 0, none⟩ : Addr) 0 [.int .i64 0, .int .i64 0, .int .i64 0, .int .i64 0, .int .u32 0] w50; 
                    ∃ (n131 : Int), ∃ (n132 : Int), ∃ (n133 : Int), ∃ (n134 : Int), ∃ (n135 : Int), w83.cell? (⟨p2, 0, none⟩ : Addr) = some (.int .i64 n131) ∧ w83.cell? (⟨p2, 1, none⟩ : Addr) = some (.int .i64 n132) ∧ w83.cell? (⟨p2, 2, none⟩ : Addr) = some (.int .i64 n133) ∧ w83.cell? (⟨p2, 3, none⟩ : Addr) = some (.int .i64 n134) ∧ w83.cell? (⟨p2, 4, none⟩ : Addr) = some (.int .u32 n135) ∧ 
                    K (.tuple #[.agg #[.int .i64 n131, .int .i64 n132, .int .i64 n133, .int .i64 n134, .int .u32 n135], .int .i64 0, .bool false]) w83)
                    (∃ (I86 : List Value → World → Prop) (μ87 : List Value → World → Nat), I86 [.int .i64 0] w50 ∧ ∀ (w85 : World) (n84 : Int), I86 [.int .i64 n84] w85 → 
                    cond (decide (n84 < ((l_rest46 : Nat) : Int)))
                      (∃ q88 : Addr, rest46 = some q88 ∧ 0 ≤ n84 ∧ n84 < (l_rest46 : Nat) ∧ 
                      ∃ (n89 : Int), w85.cell? (q88.add (n84.toNat * 1)) = some (.int .u8 n89) ∧ 
                      let w90 : World := w85.drew; 
                      ∃ (Bits91 : Int), w90.cell? (⟨p2, 4, none⟩ : Addr) = some (.int .u32 Bits91) ∧ 
                      0 ≤ (IntKind.i64.wrap ((8 : Int) * n84)) ∧ 
                      wr w90 (⟨p2, 4, none⟩ : Addr) ∧ let w92 : World := w90.setCell (⟨p2, 4, none⟩ : Addr) (.int .u32 (IntKind.u32.wrap ((((BitVec.ofInt 32 Bits91) ||| (BitVec.ofInt 32 (IntKind.u32.wrap ((IntKind.u32.wrap (n89)) * 2 ^ (min (IntKind.i64.wrap ((8 : Int) * n84)).toNat 32))))).toNat : Int)))); 
                      I86 [.int .i64 (IntKind.i64.wrap (n84 + (1 : Int)))] w92 ∧ μ87 [.int .i64 (IntKind.i64.wrap (n84 + (1 : Int)))] w92 < μ87 [.int .i64 n84] w85)
                      (K95 none 0 0 w85)))
                  (K95 rest46 l_rest46 c_rest46 w50))))
        let w17 : World := w7.drew; 
        cond (decide ((IntKind.i64.wrap ((IntKind.i64.wrap (n16)) + (2 : Int))) < (3 : Int)))
          (K26 true w17)
          (0 ≤ (IntKind.i64.wrap ((IntKind.i64.wrap ((IntKind.i64.wrap (n16)) + (2 : Int))) - (1 : Int))) ∧ (IntKind.i64.wrap ((IntKind.i64.wrap ((IntKind.i64.wrap (n16)) + (2 : Int))) - (1 : Int))) ≤ (c_b1 : Nat) ∧ 
          ∃ q18 : Addr, b1 = some q18 ∧ 0 ≤ (IntKind.i64.wrap ((IntKind.i64.wrap ((IntKind.i64.wrap (n16)) + (2 : Int))) - (1 : Int))) ∧ (IntKind.i64.wrap ((IntKind.i64.wrap ((IntKind.i64.wrap (n16)) + (2 : Int))) - (1 : Int))) < (l_b1 : Nat) ∧ 
          ∃ (n19 : Int), w17.cell? (q18.add ((IntKind.i64.wrap ((IntKind.i64.wrap ((IntKind.i64.wrap (n16)) + (2 : Int))) - (1 : Int))).toNat * 1)) = some (.int .u8 n19) ∧ 
          Calls Try.prog 78 #[.slice (subS b1 c_b1 0 1) (((IntKind.i64.wrap ((IntKind.i64.wrap ((IntKind.i64.wrap (n16)) + (2 : Int))) - (1 : Int))).toNat) - 0) (c_b1 - 0)] w17 (fun e20 w21 => ∃ (n22 : Int), e20 = .returned (.int .u8 n22) ∧ 
          (∃ (n23 : Int), w21.cell? (q18.add ((IntKind.i64.wrap ((IntKind.i64.wrap ((IntKind.i64.wrap (n16)) + (2 : Int))) - (1 : Int))).toNat * 1)) = some (.int .u8 n23) ∧ 
            (some (.int .u8 n19) : Option Value) = some (.int .u8 n23))
          ∧ (K26 (n22 != n19) w21))))
  cond (decide (((l_b1 : Nat) : Int) < (3 : Int)))
    (K8 true w3)
    (∃ q4 : Addr, b1 = some q4 ∧ 0 ≤ (0 : Int) ∧ (0 : Int) < (l_b1 : Nat) ∧ 
    ∃ (n5 : Int), w3.cell? q4 = some (.int .u8 n5) ∧ 
    K8 (decide (((l_b1 : Nat) : Int) < (IntKind.i64.wrap ((IntKind.i64.wrap (n5)) + (2 : Int))))) w3)
theorem sh83_eq (b1 : Option Addr) (l_b1 : Nat) (c_b1 : Nat) (K : Value → World → Prop) (w : World) : denF X Try.f83 [.slice b1 l_b1 c_b1] K w = sh83 b1 l_b1 c_b1 K w := by kernel_rfl
theorem c83 {b1 : Option Addr} {l_b1 : Nat} {c_b1 : Nat} {w : World} {R : Ending → World → Prop} (h : sh83 b1 l_b1 c_b1 (fun v w' => R (.returned v) w') w) : Calls Try.prog 83 #[.slice b1 l_b1 c_b1] w R :=
  callOf Try.func83 (args := [.slice b1 l_b1 c_b1]) (Eq.mpr (sh83_eq b1 l_b1 c_b1 _ w) h)

/-- bramble/brambleref19.seems -/
def sh84 (b1 : Option Addr) (l_b1 : Nat) (c_b1 : Nat) (K : Value → World → Prop) (w : World) : Prop :=
  let p2 : Nat := w.heap.size; let w3 : World := w.alloc (.cells #[.int .i64 0, .int .i64 0, .int .i64 0, .int .i64 0, .int .u32 0] 57); 
  ∃ q4 : Addr, b1 = some q4 ∧ 0 ≤ (1 : Int) ∧ (1 : Int) < (l_b1 : Nat) ∧ 
  ∃ (n5 : Int), w3.cell? (q4.add 1) = some (.int .u8 n5) ∧ 
  let p6 : Nat := w3.heap.size; let w7 : World := w3.alloc (.cells #[.int .i64 0, .int .i64 0, .int .i64 0, .int .i64 0, .int .u32 0] 57); 
  wrN w7 (⟨p6, 0, none⟩ : Addr) 5 ∧ let w8 : World := setN (⟨p6, 0, none⟩ : Addr) 0 [.int .i64 (IntKind.i64.wrap (n5)), .int .i64 0, .int .i64 0, .int .i64 0, .int .u32 0] w7; 
  let K43 : Int → World → Prop := fun n41 w42 =>
      ∃ (I47 : List Value → World → Prop) (μ48 : List Value → World → Nat), I47 [.int .i64 0, .int .i64 3] w42 ∧ ∀ (w46 : World) (n44 : Int) (i45 : Int), I47 [.int .i64 n44, .int .i64 i45] w46 → 
      cond (decide (i45 ≥ (0 : Int)))
        (cond (decide ((IntKind.i64.wrap (n41 + i45)) < ((l_b1 : Nat) : Int)))
          (∃ q49 : Addr, b1 = some q49 ∧ 0 ≤ (IntKind.i64.wrap (n41 + i45)) ∧ (IntKind.i64.wrap (n41 + i45)) < (l_b1 : Nat) ∧ 
          ∃ (n50 : Int), w46.cell? (q49.add ((IntKind.i64.wrap (n41 + i45)).toNat * 1)) = some (.int .u8 n50) ∧ 
          I47 [.int .i64 (IntKind.i64.wrap ((IntKind.i64.wrap ((256 : Int) * n44)) + (IntKind.i64.wrap (n50)))), .int .i64 (IntKind.i64.wrap (i45 - (1 : Int)))] w46 ∧ μ48 [.int .i64 (IntKind.i64.wrap ((IntKind.i64.wrap ((256 : Int) * n44)) + (IntKind.i64.wrap (n50)))), .int .i64 (IntKind.i64.wrap (i45 - (1 : Int)))] w46 < μ48 [.int .i64 n44, .int .i64 i45] w46)
          (I47 [.int .i64 (IntKind.i64.wrap ((256 : Int) * n44)), .int .i64 (IntKind.i64.wrap (i45 - (1 : Int)))] w46 ∧ μ48 [.int .i64 (IntKind.i64.wrap ((256 : Int) * n44)), .int .i64 (IntKind.i64.wrap (i45 - (1 : Int)))] w46 < μ48 [.int .i64 n44, .int .i64 i45] w46))
        (let K63 : World → Prop := fun w62 =>
            ∃ (op64 : Int), ∃ (op65 : Int), ∃ (op66 : Int), ∃ (op67 : Int), ∃ (op68 : Int), w62.cell? (⟨p6, 0, none⟩ : Addr) = some (.int .i64 op64) ∧ w62.cell? (⟨p6, 1, none⟩ : Addr) = some (.int .i64 op65) ∧ w62.cell? (⟨p6, 2, none⟩ : Addr) = some (.int .i64 op66) ∧ w62.cell? (⟨p6, 3, none⟩ : Addr) = some (.int .i64 op67) ∧ w62.cell? (⟨p6, 4, none⟩ : Addr) = some (.int .u32 op68) ∧ 
            wrN w62 (⟨p2, 0, none⟩ : Addr) 5 ∧ let w69 : World := setN (⟨p2, 0, none⟩ : Addr) 0 [.int .i64 op64, .int .i64 op65, .int .i64 op66, .int .i64 op67, .int .u32 op68] w62; 
            ∃ (n70 : Int), ∃ (n71 : Int), ∃ (n72 : Int), ∃ (n73 : Int), ∃ (n74 : Int), w69.cell? (⟨p2, 0, none⟩ : Addr) = some (.int .i64 n70) ∧ w69.cell? (⟨p2, 1, none⟩ : Addr) = some (.int .i64 n71) ∧ w69.cell? (⟨p2, 2, none⟩ : Addr) = some (.int .i64 n72) ∧ w69.cell? (⟨p2, 3, none⟩ : Addr) = some (.int .i64 n73) ∧ w69.cell? (⟨p2, 4, none⟩ : Addr) = some (.int .u32 n74) ∧ 
            K (.agg #[.int .i64 n70, .int .i64 n71, .int .i64 n72, .int .i64 n73, .int .u32 n74]) w69
        let K60 : Bool → World → Prop := fun b58 w59 =>
            cond b58
              (wr w59 (⟨p6, 4, none⟩ : Addr) ∧ let w61 : World := w59.setCell (⟨p6, 4, none⟩ : Addr) (.int .u32 (IntKind.u32.wrap (n44))); 
              K63 w61)
              (K63 w59)
        ∃ (Kind56 : Int), w46.cell? (⟨p6, 0, none⟩ : Addr) = some (.int .i64 Kind56) ∧ 
        cond (Kind56 == (3 : Int))
          (K60 true w46)
          (∃ (Kind57 : Int), w46.cell? (⟨p6, 0, none⟩ : Addr) = some (.int .i64 Kind57) ∧ 
          K60 (Kind57 == (5 : Int)) w46))
  ∃ (Kind9 : Int), w8.cell? (⟨p6, 0, none⟩ : Addr) = some (.int .i64 Kind9) ∧ 
  let K12 : Bool → World → Prop := fun b10 w11 =>
      cond b10
        (Calls Try.prog 101 #[.slice b1 l_b1 c_b1, .int .i64 2] w11 (fun e13 w14 => ∃ (n15 : Int), ∃ (n16 : Int), e13 = .returned (.tuple #[.int .i64 n15, .int .i64 n16]) ∧ 
        wr w14 (⟨p6, 3, none⟩ : Addr) ∧ let w17 : World := w14.setCell (⟨p6, 3, none⟩ : Addr) (.int .i64 n15); 
        K43 n16 w17))
        (cond (Kind9 == (3 : Int))
          (Calls Try.prog 101 #[.slice b1 l_b1 c_b1, .int .i64 2] w11 (fun e18 w19 => ∃ (n20 : Int), ∃ (n21 : Int), e18 = .returned (.tuple #[.int .i64 n20, .int .i64 n21]) ∧ 
          wr w19 (⟨p6, 1, none⟩ : Addr) ∧ let w22 : World := w19.setCell (⟨p6, 1, none⟩ : Addr) (.int .i64 n20); 
          Calls Try.prog 101 #[.slice b1 l_b1 c_b1, .int .i64 n21] w22 (fun e23 w24 => ∃ (n25 : Int), ∃ (n26 : Int), e23 = .returned (.tuple #[.int .i64 n25, .int .i64 n26]) ∧ 
          wr w24 (⟨p6, 2, none⟩ : Addr) ∧ let w27 : World := w24.setCell (⟨p6, 2, none⟩ : Addr) (.int .i64 n25); 
          Calls Try.prog 101 #[.slice b1 l_b1 c_b1, .int .i64 n26] w27 (fun e28 w29 => ∃ (n30 : Int), ∃ (n31 : Int), e28 = .returned (.tuple #[.int .i64 n30, .int .i64 n31]) ∧ 
          wr w29 (⟨p6, 3, none⟩ : Addr) ∧ let w32 : World := w29.setCell (⟨p6, 3, none⟩ : Addr) (.int .i64 n30); 
          K43 n31 w32))))
          (let K35 : Bool → World → Prop := fun b33 w34 =>
              cond b33
                (Calls Try.prog 101 #[.slice b1 l_b1 c_b1, .int .i64 2] w34 (fun e36 w37 => ∃ (n38 : Int), ∃ (n39 : Int), e36 = .returned (.tuple #[.int .i64 n38, .int .i64 n39]) ∧ 
                wr w37 (⟨p6, 1, none⟩ : Addr) ∧ let w40 : World := w37.setCell (⟨p6, 1, none⟩ : Addr) (.int .i64 n38); 
                K43 n39 w40))
                (K43 2 w34)
          cond (Kind9 == (4 : Int))
            (K35 (Kind9 == (4 : Int)) w11)
            (K35 (Kind9 == (5 : Int)) w11)))
  cond (Kind9 == (1 : Int))
    (K12 (Kind9 == (1 : Int)) w8)
    (cond (Kind9 == (2 : Int))
      (K12 (Kind9 == (2 : Int)) w8)
      (cond (Kind9 == (6 : Int))
        (K12 (Kind9 == (6 : Int)) w8)
        (K12 (Kind9 == (7 : Int)) w8)))
theorem sh84_eq (b1 : Option Addr) (l_b1 : Nat) (c_b1 : Nat) (K : Value → World → Prop) (w : World) : denF X Try.f84 [.slice b1 l_b1 c_b1] K w = sh84 b1 l_b1 c_b1 K w := by kernel_rfl
theorem c84 {b1 : Option Addr} {l_b1 : Nat} {c_b1 : Nat} {w : World} {R : Ending → World → Prop} (h : sh84 b1 l_b1 c_b1 (fun v w' => R (.returned v) w') w) : Calls Try.prog 84 #[.slice b1 l_b1 c_b1] w R :=
  callOf Try.func84 (args := [.slice b1 l_b1 c_b1]) (Eq.mpr (sh84_eq b1 l_b1 c_b1 _ w) h)

/-- bramble/record.shapes$1 -/
def sh97 (op1 : Addr) (K : Value → World → Prop) (w : World) : Prop :=
  K (.pointer (some (op1.add 1))) w
theorem sh97_eq (op1 : Addr) (K : Value → World → Prop) (w : World) : denF X Try.f97 [.pointer (some op1)] K w = sh97 op1 K w := by kernel_rfl
theorem c97 {op1 : Addr} {w : World} {R : Ending → World → Prop} (h : sh97 op1 (fun v w' => R (.returned v) w') w) : Calls Try.prog 97 #[.pointer (some op1)] w R :=
  callOf Try.func97 (args := [.pointer (some op1)]) (Eq.mpr (sh97_eq op1 _ w) h)

/-- bramble/record.shapes$2 -/
def sh98 (op1 : Addr) (K : Value → World → Prop) (w : World) : Prop :=
  K (.pointer (some (op1.add 2))) w
theorem sh98_eq (op1 : Addr) (K : Value → World → Prop) (w : World) : denF X Try.f98 [.pointer (some op1)] K w = sh98 op1 K w := by kernel_rfl
theorem c98 {op1 : Addr} {w : World} {R : Ending → World → Prop} (h : sh98 op1 (fun v w' => R (.returned v) w') w) : Calls Try.prog 98 #[.pointer (some op1)] w R :=
  callOf Try.func98 (args := [.pointer (some op1)]) (Eq.mpr (sh98_eq op1 _ w) h)

/-- bramble/record.shapes$3 -/
def sh99 (op1 : Addr) (K : Value → World → Prop) (w : World) : Prop :=
  K (.pointer (some (op1.add 3))) w
theorem sh99_eq (op1 : Addr) (K : Value → World → Prop) (w : World) : denF X Try.f99 [.pointer (some op1)] K w = sh99 op1 K w := by kernel_rfl
theorem c99 {op1 : Addr} {w : World} {R : Ending → World → Prop} (h : sh99 op1 (fun v w' => R (.returned v) w') w) : Calls Try.prog 99 #[.pointer (some op1)] w R :=
  callOf Try.func99 (args := [.pointer (some op1)]) (Eq.mpr (sh99_eq op1 _ w) h)

/-- bramble/vary.Take -/
def sh100 (b1 : Option Addr) (l_b1 : Nat) (c_b1 : Nat) (K : Value → World → Prop) (w : World) : Prop :=
  ∃ (I8 : List Value → World → Prop) (μ9 : List Value → World → Nat), I8 [.int .i64 0, .int .i64 0, .slice none 0 0, .bool false, .int .i64 0] w ∧ ∀ (w7 : World) (n2 : Int) (n3 : Int) (a4 : Option Addr) (l_a4 : Nat) (c_a4 : Nat) (b5 : Bool) (i6 : Int), I8 [.int .i64 n2, .int .i64 n3, .slice a4 l_a4 c_a4, .bool b5, .int .i64 i6] w7 → 
  let K15 : Int → Bool → Bool → Bool → World → Prop := fun n10 b11 b12 b13 w14 =>
      cond b13
        (∃ q16 : Addr, b1 = some q16 ∧ 0 ≤ i6 ∧ i6 < (l_b1 : Nat) ∧ 
        ∃ (n17 : Int), w14.cell? (q16.add (i6.toNat * 1)) = some (.int .u8 n17) ∧ 
        0 ≤ (IntKind.i64.wrap ((7 : Int) * i6)) ∧ 
        ∃ q18 : Addr, b1 = some q18 ∧ 0 ≤ i6 ∧ i6 < (l_b1 : Nat) ∧ 
        ∃ (n19 : Int), w14.cell? (q18.add (i6.toNat * 1)) = some (.int .u8 n19) ∧ 
        cond (decide (n19 < (128 : Int)))
          (let w20 : World := w14.drew; 
          0 ≤ (IntKind.i64.wrap (i6 + (1 : Int))) ∧ (IntKind.i64.wrap (i6 + (1 : Int))) ≤ (l_b1 : Nat) ∧ 
          cond (i6 == (0 : Int))
            (K (.tuple #[.int .i64 (IntKind.i64.wrap ((((BitVec.ofInt 64 n2) ||| (BitVec.ofInt 64 (IntKind.i64.wrap ((IntKind.i64.wrap (IntKind.u8.wrap ((((BitVec.ofInt 8 n17) &&& (BitVec.ofInt 8 (127 : Int))).toNat : Int)))) * 2 ^ (min (IntKind.i64.wrap ((7 : Int) * i6)).toNat 64))))).toNat : Int))), .slice (subS b1 c_b1 ((IntKind.i64.wrap (i6 + (1 : Int))).toNat) 1) (l_b1 - ((IntKind.i64.wrap (i6 + (1 : Int))).toNat)) (c_b1 - ((IntKind.i64.wrap (i6 + (1 : Int))).toNat)), .bool true]) w20)
            (∃ q21 : Addr, b1 = some q21 ∧ 0 ≤ i6 ∧ i6 < (l_b1 : Nat) ∧ 
            ∃ (n22 : Int), w20.cell? (q21.add (i6.toNat * 1)) = some (.int .u8 n22) ∧ 
            K (.tuple #[.int .i64 (IntKind.i64.wrap ((((BitVec.ofInt 64 n2) ||| (BitVec.ofInt 64 (IntKind.i64.wrap ((IntKind.i64.wrap (IntKind.u8.wrap ((((BitVec.ofInt 8 n17) &&& (BitVec.ofInt 8 (127 : Int))).toNat : Int)))) * 2 ^ (min (IntKind.i64.wrap ((7 : Int) * i6)).toNat 64))))).toNat : Int))), .slice (subS b1 c_b1 ((IntKind.i64.wrap (i6 + (1 : Int))).toNat) 1) (l_b1 - ((IntKind.i64.wrap (i6 + (1 : Int))).toNat)) (c_b1 - ((IntKind.i64.wrap (i6 + (1 : Int))).toNat)), .bool (decide (n22 > (0 : Int)))]) w20))
          (I8 [.int .i64 (IntKind.i64.wrap ((((BitVec.ofInt 64 n2) ||| (BitVec.ofInt 64 (IntKind.i64.wrap ((IntKind.i64.wrap (IntKind.u8.wrap ((((BitVec.ofInt 8 n17) &&& (BitVec.ofInt 8 (127 : Int))).toNat : Int)))) * 2 ^ (min (IntKind.i64.wrap ((7 : Int) * i6)).toNat 64))))).toNat : Int))), .int .i64 n3, .slice a4 l_a4 c_a4, .bool b5, .int .i64 (IntKind.i64.wrap (i6 + (1 : Int)))] w14 ∧ μ9 [.int .i64 (IntKind.i64.wrap ((((BitVec.ofInt 64 n2) ||| (BitVec.ofInt 64 (IntKind.i64.wrap ((IntKind.i64.wrap (IntKind.u8.wrap ((((BitVec.ofInt 8 n17) &&& (BitVec.ofInt 8 (127 : Int))).toNat : Int)))) * 2 ^ (min (IntKind.i64.wrap ((7 : Int) * i6)).toNat 64))))).toNat : Int))), .int .i64 n3, .slice a4 l_a4 c_a4, .bool b5, .int .i64 (IntKind.i64.wrap (i6 + (1 : Int)))] w14 < μ9 [.int .i64 n2, .int .i64 n3, .slice a4 l_a4 c_a4, .bool b5, .int .i64 i6] w7))
        (K (.tuple #[.int .i64 0, .slice none 0 0, .bool false]) w14)
  cond (decide (i6 < ((l_b1 : Nat) : Int)))
    (K15 ((l_b1 : Nat) : Int) (decide (i6 < ((l_b1 : Nat) : Int))) true (decide (i6 < (5 : Int))) w7)
    (K15 ((l_b1 : Nat) : Int) (decide (i6 < ((l_b1 : Nat) : Int))) false false w7)
theorem sh100_eq (b1 : Option Addr) (l_b1 : Nat) (c_b1 : Nat) (K : Value → World → Prop) (w : World) : denF X Try.f100 [.slice b1 l_b1 c_b1] K w = sh100 b1 l_b1 c_b1 K w := by kernel_rfl
theorem c100 {b1 : Option Addr} {l_b1 : Nat} {c_b1 : Nat} {w : World} {R : Ending → World → Prop} (h : sh100 b1 l_b1 c_b1 (fun v w' => R (.returned v) w') w) : Calls Try.prog 100 #[.slice b1 l_b1 c_b1] w R :=
  callOf Try.func100 (args := [.slice b1 l_b1 c_b1]) (Eq.mpr (sh100_eq b1 l_b1 c_b1 _ w) h)

/-- bramble/brambleref19.number -/
def sh101 (b1 : Option Addr) (l_b1 : Nat) (c_b1 : Nat) (at2 : Int) (K : Value → World → Prop) (w : World) : Prop :=
  ∃ (I9 : List Value → World → Prop) (μ10 : List Value → World → Nat), I9 [.int .i64 0, .int .i64 1, .int .i64 0, .int .i64 0, .int .i64 at2] w ∧ ∀ (w8 : World) (n3 : Int) (scale4 : Int) (n5 : Int) (n6 : Int) (i7 : Int), I9 [.int .i64 n3, .int .i64 scale4, .int .i64 n5, .int .i64 n6, .int .i64 i7] w8 → 
  let K16 : Int → Bool → Bool → Bool → World → Prop := fun n11 b12 b13 b14 w15 =>
      cond b14
        (∃ q17 : Addr, b1 = some q17 ∧ 0 ≤ i7 ∧ i7 < (l_b1 : Nat) ∧ 
        ∃ (n18 : Int), w15.cell? (q17.add (i7.toNat * 1)) = some (.int .u8 n18) ∧ 
        (128 : Int) ≠ 0 ∧ 
        ∃ q19 : Addr, b1 = some q19 ∧ 0 ≤ i7 ∧ i7 < (l_b1 : Nat) ∧ 
        ∃ (n20 : Int), w15.cell? (q19.add (i7.toNat * 1)) = some (.int .u8 n20) ∧ 
        cond (decide (n20 < (128 : Int)))
          (K (.tuple #[.int .i64 (IntKind.i64.wrap (n3 + (IntKind.i64.wrap ((Int.tmod (IntKind.i64.wrap (n18)) (128 : Int)) * scale4)))), .int .i64 (IntKind.i64.wrap (i7 + (1 : Int)))]) w15)
          (I9 [.int .i64 (IntKind.i64.wrap (n3 + (IntKind.i64.wrap ((Int.tmod (IntKind.i64.wrap (n18)) (128 : Int)) * scale4)))), .int .i64 (IntKind.i64.wrap ((128 : Int) * scale4)), .int .i64 n5, .int .i64 n6, .int .i64 (IntKind.i64.wrap (i7 + (1 : Int)))] w15 ∧ μ10 [.int .i64 (IntKind.i64.wrap (n3 + (IntKind.i64.wrap ((Int.tmod (IntKind.i64.wrap (n18)) (128 : Int)) * scale4)))), .int .i64 (IntKind.i64.wrap ((128 : Int) * scale4)), .int .i64 n5, .int .i64 n6, .int .i64 (IntKind.i64.wrap (i7 + (1 : Int)))] w15 < μ10 [.int .i64 n3, .int .i64 scale4, .int .i64 n5, .int .i64 n6, .int .i64 i7] w8))
        (K (.tuple #[.int .i64 0, .int .i64 ((l_b1 : Nat) : Int)]) w15)
  cond (decide (i7 < ((l_b1 : Nat) : Int)))
    (K16 ((l_b1 : Nat) : Int) (decide (i7 < ((l_b1 : Nat) : Int))) true (decide (i7 < (IntKind.i64.wrap (at2 + (5 : Int))))) w8)
    (K16 ((l_b1 : Nat) : Int) (decide (i7 < ((l_b1 : Nat) : Int))) false false w8)
theorem sh101_eq (b1 : Option Addr) (l_b1 : Nat) (c_b1 : Nat) (at2 : Int) (K : Value → World → Prop) (w : World) : denF X Try.f101 [.slice b1 l_b1 c_b1, .int .i64 at2] K w = sh101 b1 l_b1 c_b1 at2 K w := by kernel_rfl
theorem c101 {b1 : Option Addr} {l_b1 : Nat} {c_b1 : Nat} {at2 : Int} {w : World} {R : Ending → World → Prop} (h : sh101 b1 l_b1 c_b1 at2 (fun v w' => R (.returned v) w') w) : Calls Try.prog 101 #[.slice b1 l_b1 c_b1, .int .i64 at2] w R :=
  callOf Try.func101 (args := [.slice b1 l_b1 c_b1, .int .i64 at2]) (Eq.mpr (sh101_eq b1 l_b1 c_b1 at2 _ w) h)

end Go.Proofs.Ytmfidfaiopogbaa
