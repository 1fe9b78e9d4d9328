/- The shallow texts of these functions, and that they are the code's own; printed by a program of this session (gosh.py). -/
import Derived.Test.YtmfidfaiopogbaaShX
set_option linter.unusedVariables false
set_option maxRecDepth 100000
namespace Go.Proofs.Ytmfidfaiopogbaa
open Go Go.Sh
/-- bramble/bramblelaw18.Built -/
def sh21 (script1 : Option Addr) (l_script1 : Nat) (c_script1 : Nat) (K : Value → World → Prop) (w : World) : Prop :=
  let p2 : Nat := w.heap.size; let w3 : World := w.alloc (.cells #[.slice none 0 0, .int .i64 0, .bool false, .int .i64 0] 26); 
  Calls Try.prog 53 #[] w3 (fun e4 w5 => ∃ (p6 : Option Addr), e4 = .returned (.pointer p6) ∧ 
  Calls Try.prog 63 #[] w5 (fun e7 w8 => ∃ (a9 : Option Addr), ∃ (l_a9 : Nat), ∃ (c_a9 : Nat), ∃ (n10 : Int), ∃ (b11 : Bool), ∃ (n12 : Int), e7 = .returned (.agg #[.slice a9 l_a9 c_a9, .int .i64 n10, .bool b11, .int .i64 n12]) ∧ 
  let p13 : Nat := w8.heap.size; let w14 : World := w8.alloc (.cells #[.slice none 0 0, .int .i64 0, .bool false, .int .i64 0] 26); 
  wrN w14 (⟨p13, 0, none⟩ : Addr) 4 ∧ let w15 : World := setN (⟨p13, 0, none⟩ : Addr) 0 [.slice a9 l_a9 c_a9, .int .i64 n10, .bool b11, .int .i64 n12] w14; 
  ∃ (I20 : List Value → World → Prop) (μ21 : List Value → World → Nat), I20 [.pointer p6, .bool (!p6.isNone), .int .i64 0] w15 ∧ ∀ (w19 : World) (d16 : Option Addr) (ok17 : Bool) (i18 : Int), I20 [.pointer d16, .bool ok17, .int .i64 i18] w19 → 
  let K29 : Int → Bool → Bool → Bool → Bool → Bool → World → Prop := fun n22 b23 b24 b25 b26 b27 w28 =>
      cond b27
        (let w30 : World := w28.drew; 
        ∃ (m31 : Option Addr), ∃ (l_m31 : Nat), ∃ (c_m31 : Nat), ∃ (m32 : Int), ∃ (m33 : Bool), ∃ (m34 : Int), w30.cell? (⟨p13, 0, none⟩ : Addr) = some (.slice m31 l_m31 c_m31) ∧ w30.cell? (⟨p13, 1, none⟩ : Addr) = some (.int .i64 m32) ∧ w30.cell? (⟨p13, 2, none⟩ : Addr) = some (.bool m33) ∧ w30.cell? (⟨p13, 3, none⟩ : Addr) = some (.int .i64 m34) ∧ 
        ∃ q35 : Addr, script1 = some q35 ∧ 0 ≤ i18 ∧ i18 < (l_script1 : Nat) ∧ 
        ∃ (n36 : Int), ∃ (n37 : Int), ∃ (n38 : Int), ∃ (a39 : Option Addr), ∃ (l_a39 : Nat), ∃ (c_a39 : Nat), w30.cell? (q35.add (i18.toNat * 4)) = some (.int .i64 n36) ∧ w30.cell? ((q35.add (i18.toNat * 4)).add 1) = some (.int .i64 n37) ∧ w30.cell? ((q35.add (i18.toNat * 4)).add 2) = some (.int .i64 n38) ∧ w30.cell? ((q35.add (i18.toNat * 4)).add 3) = some (.slice a39 l_a39 c_a39) ∧ 
        Calls Try.prog 28 #[.pointer d16, .agg #[.slice m31 l_m31 c_m31, .int .i64 m32, .bool m33, .int .i64 m34], .agg #[.int .i64 n36, .int .i64 n37, .int .i64 n38, .slice a39 l_a39 c_a39]] w30 (fun e40 w41 => ∃ (p42 : Option Addr), ∃ (a43 : Option Addr), ∃ (l_a43 : Nat), ∃ (c_a43 : Nat), ∃ (n44 : Int), ∃ (b45 : Bool), ∃ (n46 : Int), ∃ (b47 : Bool), e40 = .returned (.tuple #[.pointer p42, .agg #[.slice a43 l_a43 c_a43, .int .i64 n44, .bool b45, .int .i64 n46], .bool b47]) ∧ 
        wrN w41 (⟨p13, 0, none⟩ : Addr) 4 ∧ let w48 : World := setN (⟨p13, 0, none⟩ : Addr) 0 [.slice a43 l_a43 c_a43, .int .i64 n44, .bool b45, .int .i64 n46] w41; 
        I20 [.pointer p42, .bool b47, .int .i64 (IntKind.i64.wrap (i18 + (1 : Int)))] w48 ∧ μ21 [.pointer p42, .bool b47, .int .i64 (IntKind.i64.wrap (i18 + (1 : Int)))] w48 < μ21 [.pointer d16, .bool ok17, .int .i64 i18] w19))
        (let w49 : World := w28.drew; 
        ∃ (m50 : Option Addr), ∃ (l_m50 : Nat), ∃ (c_m50 : Nat), ∃ (m51 : Int), ∃ (m52 : Bool), ∃ (m53 : Int), w49.cell? (⟨p13, 0, none⟩ : Addr) = some (.slice m50 l_m50 c_m50) ∧ w49.cell? (⟨p13, 1, none⟩ : Addr) = some (.int .i64 m51) ∧ w49.cell? (⟨p13, 2, none⟩ : Addr) = some (.bool m52) ∧ w49.cell? (⟨p13, 3, none⟩ : Addr) = some (.int .i64 m53) ∧ 
        wrN w49 (⟨p2, 0, none⟩ : Addr) 4 ∧ let w54 : World := setN (⟨p2, 0, none⟩ : Addr) 0 [.slice m50 l_m50 c_m50, .int .i64 m51, .bool m52, .int .i64 m53] w49; 
        ∃ (a55 : Option Addr), ∃ (l_a55 : Nat), ∃ (c_a55 : Nat), ∃ (n56 : Int), ∃ (b57 : Bool), ∃ (n58 : Int), w54.cell? (⟨p2, 0, none⟩ : Addr) = some (.slice a55 l_a55 c_a55) ∧ w54.cell? (⟨p2, 1, none⟩ : Addr) = some (.int .i64 n56) ∧ w54.cell? (⟨p2, 2, none⟩ : Addr) = some (.bool b57) ∧ w54.cell? (⟨p2, 3, none⟩ : Addr) = some (.int .i64 n58) ∧ 
        K (.tuple #[.pointer d16, .agg #[.slice a55 l_a55 c_a55, .int .i64 n56, .bool b57, .int .i64 n58], .bool ok17]) w54)
  cond (decide (i18 < ((l_script1 : Nat) : Int)))
    (cond (decide (i18 < (120 : Int)))
      (K29 ((l_script1 : Nat) : Int) (decide (i18 < ((l_script1 : Nat) : Int))) true (decide (i18 < (120 : Int))) true ok17 w19)
      (K29 ((l_script1 : Nat) : Int) (decide (i18 < ((l_script1 : Nat) : Int))) true (decide (i18 < (120 : Int))) false false w19))
    (K29 ((l_script1 : Nat) : Int) (decide (i18 < ((l_script1 : Nat) : Int))) false false false false w19)))
theorem sh21_eq (script1 : Option Addr) (l_script1 : Nat) (c_script1 : Nat) (K : Value → World → Prop) (w : World) : denF X Try.f21 [.slice script1 l_script1 c_script1] K w = sh21 script1 l_script1 c_script1 K w := by kernel_rfl
theorem c21 {script1 : Option Addr} {l_script1 : Nat} {c_script1 : Nat} {w : World} {R : Ending → World → Prop} (h : sh21 script1 l_script1 c_script1 (fun v w' => R (.returned v) w') w) : Calls Try.prog 21 #[.slice script1 l_script1 c_script1] w R :=
  callOf Try.func21 (args := [.slice script1 l_script1 c_script1]) (Eq.mpr (sh21_eq script1 l_script1 c_script1 _ w) h)

/-- bramble/bramblelaw18.awake -/
def sh22 (K : Value → World → Prop) (w : World) : Prop :=
  Calls Try.prog 53 #[] w (fun e1 w2 => ∃ (p3 : Option Addr), e1 = .returned (.pointer p3) ∧ 
  let K28 : Bool → World → Prop := fun b26 w27 =>
      cond b26
        (K (.bool false) w27)
        (Calls Try.prog 23 #[.pointer p3, .int .i64 1] w27 (fun e29 w30 => ∃ (p31 : Option Addr), e29 = .returned (.pointer p31) ∧ 
        cond (!p31.isNone)
          (Calls Try.prog 29 #[.pointer p31, .int .i64 1] w30 (fun e32 w33 => ∃ (a34 : Option Addr), ∃ (l_a34 : Nat), ∃ (c_a34 : Nat), e32 = .returned (.slice a34 l_a34 c_a34) ∧ 
          RunWp Try.prog (convert 36 9 (.slice a34 l_a34 c_a34)) (fun v35 w36 => w36 = w33 ∧ ∃ (s37 : ByteArray), v35 = .string s37 ∧ 
          cond (s37.toList == ({ data := #[97, 98, 99, 100, 101, 102, 103, 104] } : ByteArray).toList)
            (Calls Try.prog 29 #[.pointer p3, .int .i64 1] w33 (fun e38 w39 => ∃ (a40 : Option Addr), ∃ (l_a40 : Nat), ∃ (c_a40 : Nat), e38 = .returned (.slice a40 l_a40 c_a40) ∧ 
            RunWp Try.prog (convert 36 9 (.slice a40 l_a40 c_a40)) (fun v41 w42 => w42 = w39 ∧ ∃ (s43 : ByteArray), v41 = .string s43 ∧ 
            cond (s43.toList == ({ data := #[97, 98, 99] } : ByteArray).toList)
              (Calls Try.prog 27 #[.pointer p3] w39 (fun e44 w45 => ∃ (n46 : Int), e44 = .returned (.int .i64 n46) ∧ 
              K (.bool (n46 == (2 : Int))) w45))
              (K (.bool false) w39)) w39))
            (K (.bool false) w33)) w33))
          (K (.bool false) w30)))
  cond p3.isNone
    (K28 true w2)
    (let p4 : Nat := w2.heap.size; let w5 : World := w2.alloc (.cells #[.int .u8 97, .int .u8 98, .int .u8 99, .int .u8 100, .int .u8 101, .int .u8 102] 5); 
    RunWp Try.prog (convert 36 36 (.slice (some ⟨p4, 0, none⟩) 6 6)) (fun v6 w7 => ∃ (a8 : Option Addr), ∃ (l_a8 : Nat), ∃ (c_a8 : Nat), v6 = .slice a8 l_a8 c_a8 ∧ 
    Calls Try.prog 31 #[.pointer p3, .int .i64 1, .int .i64 0, .slice a8 l_a8 c_a8] w7 (fun e9 w10 => ∃ (n11 : Int), e9 = .returned (.int .i64 n11) ∧ 
    cond (n11 != (0 : Int))
      (K28 true w10)
      (Calls Try.prog 30 #[.pointer p3] w10 (fun e12 w13 => ∃ (n14 : Int), e12 = .returned (.int .i64 n14) ∧ 
      cond (n14 != (0 : Int))
        (K28 true w13)
        (let p15 : Nat := w13.heap.size; let w16 : World := w13.alloc (.cells #[.int .u8 103, .int .u8 104] 5); 
        RunWp Try.prog (convert 36 36 (.slice (some ⟨p15, 0, none⟩) 2 2)) (fun v17 w18 => ∃ (a19 : Option Addr), ∃ (l_a19 : Nat), ∃ (c_a19 : Nat), v17 = .slice a19 l_a19 c_a19 ∧ 
        Calls Try.prog 31 #[.pointer p3, .int .i64 1, .int .i64 6, .slice a19 l_a19 c_a19] w18 (fun e20 w21 => ∃ (n22 : Int), e20 = .returned (.int .i64 n22) ∧ 
        cond (n22 != (0 : Int))
          (K28 true w21)
          (Calls Try.prog 35 #[.pointer p3, .int .i64 1, .int .i64 3] w21 (fun e23 w24 => ∃ (n25 : Int), e23 = .returned (.int .i64 n25) ∧ 
          K28 (n25 != (0 : Int)) w24)))) w16))))) w5))
theorem sh22_eq (K : Value → World → Prop) (w : World) : denF X Try.f22 [] K w = sh22 K w := by kernel_rfl
theorem c22 {w : World} {R : Ending → World → Prop} (h : sh22  (fun v w' => R (.returned v) w') w) : Calls Try.prog 22 #[] w R :=
  callOf Try.func22 (args := []) (Eq.mpr (sh22_eq  _ w) h)

/-- (*bramble/disk.Disk).Crash -/
def sh23 (d1 : Addr) (keep2 : Int) (K : Value → World → Prop) (w : World) : Prop :=
  Calls Try.prog 53 #[] w (fun e3 w4 => ∃ (p5 : Option Addr), e3 = .returned (.pointer p5) ∧ 
  ∃ (durable6 : Option Addr), ∃ (l_durable6 : Nat), ∃ (c_durable6 : Nat), ∃ (durable7 : Option Addr), ∃ (l_durable7 : Nat), ∃ (c_durable7 : Nat), ∃ (durable8 : Option Addr), ∃ (l_durable8 : Nat), ∃ (c_durable8 : Nat), w4.cell? d1 = some (.slice durable6 l_durable6 c_durable6) ∧ w4.cell? (d1.add 1) = some (.slice durable7 l_durable7 c_durable7) ∧ w4.cell? (d1.add 2) = some (.slice durable8 l_durable8 c_durable8) ∧ 
  optP p5 fun q9 => 
  wrN w4 (q9.add 3) 3 ∧ let w10 : World := setN (q9.add 3) 0 [.slice durable6 l_durable6 c_durable6, .slice durable7 l_durable7 c_durable7, .slice durable8 l_durable8 c_durable8] w4; 
  let w11 : World := w10.drew; 
  ∃ (pending12 : Option Addr), ∃ (l_pending12 : Nat), ∃ (c_pending12 : Nat), w11.cell? (d1.add 6) = some (.slice pending12 l_pending12 c_pending12) ∧ 
  ∃ (pending13 : Option Addr), ∃ (l_pending13 : Nat), ∃ (c_pending13 : Nat), w11.cell? (d1.add 6) = some (.slice pending13 l_pending13 c_pending13) ∧ 
  0 ≤ (mnI (mxI keep2 (0 : Int)) ((l_pending13 : Nat) : Int)) ∧ (mnI (mxI keep2 (0 : Int)) ((l_pending13 : Nat) : Int)) ≤ (c_pending12 : Nat) ∧ 
  ∃ (I16 : List Value → World → Prop) (μ17 : List Value → World → Nat), I16 [.int .i64 0] w11 ∧ ∀ (w15 : World) (n14 : Int), I16 [.int .i64 n14] w15 → 
  cond (decide (n14 < ((((mnI (mxI keep2 (0 : Int)) ((l_pending13 : Nat) : Int)).toNat) - 0 : Nat) : Int)))
    (∃ q18 : Addr, subS pending12 c_pending12 0 4 = some q18 ∧ 0 ≤ n14 ∧ n14 < (((mnI (mxI keep2 (0 : Int)) ((l_pending13 : Nat) : Int)).toNat) - 0 : Nat) ∧ 
    ∃ (n19 : Int), ∃ (n20 : Int), ∃ (a21 : Option Addr), ∃ (l_a21 : Nat), ∃ (c_a21 : Nat), ∃ (b22 : Bool), w15.cell? (q18.add (n14.toNat * 4)) = some (.int .i64 n19) ∧ w15.cell? ((q18.add (n14.toNat * 4)).add 1) = some (.int .i64 n20) ∧ w15.cell? ((q18.add (n14.toNat * 4)).add 2) = some (.slice a21 l_a21 c_a21) ∧ w15.cell? ((q18.add (n14.toNat * 4)).add 3) = some (.bool b22) ∧ 
    let p23 : Nat := w15.heap.size; let w24 : World := w15.alloc (.cells #[.int .i64 0, .int .i64 0, .slice none 0 0, .bool false] 114); 
    wrN w24 (⟨p23, 0, none⟩ : Addr) 4 ∧ let w25 : World := setN (⟨p23, 0, none⟩ : Addr) 0 [.int .i64 n19, .int .i64 n20, .slice a21 l_a21 c_a21, .bool b22] w24; 
    let w26 : World := w25.drew; 
    optP p5 fun q27 => 
    ∃ (now28 : Option Addr), ∃ (l_now28 : Nat), ∃ (c_now28 : Nat), ∃ (now29 : Option Addr), ∃ (l_now29 : Nat), ∃ (c_now29 : Nat), ∃ (now30 : Option Addr), ∃ (l_now30 : Nat), ∃ (c_now30 : Nat), w26.cell? (q27.add 3) = some (.slice now28 l_now28 c_now28) ∧ w26.cell? (q27.add 4) = some (.slice now29 l_now29 c_now29) ∧ w26.cell? (q27.add 5) = some (.slice now30 l_now30 c_now30) ∧ 
    ∃ (w31 : Int), ∃ (w32 : Int), ∃ (w33 : Option Addr), ∃ (l_w33 : Nat), ∃ (c_w33 : Nat), ∃ (w34 : Bool), w26.cell? (⟨p23, 0, none⟩ : Addr) = some (.int .i64 w31) ∧ w26.cell? (⟨p23, 1, none⟩ : Addr) = some (.int .i64 w32) ∧ w26.cell? (⟨p23, 2, none⟩ : Addr) = some (.slice w33 l_w33 c_w33) ∧ w26.cell? (⟨p23, 3, none⟩ : Addr) = some (.bool w34) ∧ 
    Calls Try.prog 64 #[.agg #[.slice now28 l_now28 c_now28, .slice now29 l_now29 c_now29, .slice now30 l_now30 c_now30], .agg #[.int .i64 w31, .int .i64 w32, .slice w33 l_w33 c_w33, .bool w34]] w26 (fun e35 w36 => ∃ (a37 : Option Addr), ∃ (l_a37 : Nat), ∃ (c_a37 : Nat), ∃ (a38 : Option Addr), ∃ (l_a38 : Nat), ∃ (c_a38 : Nat), ∃ (a39 : Option Addr), ∃ (l_a39 : Nat), ∃ (c_a39 : Nat), e35 = .returned (.agg #[.slice a37 l_a37 c_a37, .slice a38 l_a38 c_a38, .slice a39 l_a39 c_a39]) ∧ 
    optP p5 fun q40 => 
    wrN w36 (q40.add 3) 3 ∧ let w41 : World := setN (q40.add 3) 0 [.slice a37 l_a37 c_a37, .slice a38 l_a38 c_a38, .slice a39 l_a39 c_a39] w36; 
    I16 [.int .i64 (IntKind.i64.wrap (n14 + (1 : Int)))] w41 ∧ μ17 [.int .i64 (IntKind.i64.wrap (n14 + (1 : Int)))] w41 < μ17 [.int .i64 n14] w15))
    (optP p5 fun q42 => 
    ∃ (now43 : Option Addr), ∃ (l_now43 : Nat), ∃ (c_now43 : Nat), ∃ (now44 : Option Addr), ∃ (l_now44 : Nat), ∃ (c_now44 : Nat), ∃ (now45 : Option Addr), ∃ (l_now45 : Nat), ∃ (c_now45 : Nat), w15.cell? (q42.add 3) = some (.slice now43 l_now43 c_now43) ∧ w15.cell? (q42.add 4) = some (.slice now44 l_now44 c_now44) ∧ w15.cell? (q42.add 5) = some (.slice now45 l_now45 c_now45) ∧ 
    optP p5 fun q46 => 
    wrN w15 q46 3 ∧ let w47 : World := setN q46 0 [.slice now43 l_now43 c_now43, .slice now44 l_now44 c_now44, .slice now45 l_now45 c_now45] w15; 
    K (.pointer p5) w47))
theorem sh23_eq (d1 : Addr) (keep2 : Int) (K : Value → World → Prop) (w : World) : denF X Try.f23 [.pointer (some d1), .int .i64 keep2] K w = sh23 d1 keep2 K w := by kernel_rfl
theorem c23 {d1 : Addr} {keep2 : Int} {w : World} {R : Ending → World → Prop} (h : sh23 d1 keep2 (fun v w' => R (.returned v) w') w) : Calls Try.prog 23 #[.pointer (some d1), .int .i64 keep2] w R :=
  callOf Try.func23 (args := [.pointer (some d1), .int .i64 keep2]) (Eq.mpr (sh23_eq d1 keep2 _ w) h)

/-- bramble/brambleref18.Crash -/
def sh24 (d1 : Option Addr) (l_d1 : Nat) (c_d1 : Nat) (d2 : Int) (d3 : Bool) (d4 : Int) (keep5 : Int) (K : Value → World → Prop) (w : World) : Prop :=
  let p6 : Nat := w.heap.size; let w7 : World := w.alloc (.cells #[.slice d1 l_d1 c_d1, .int .i64 d2, .bool d3, .int .i64 d4] 26); 
  let p8 : Nat := w7.heap.size; let w9 : World := w7.alloc (.cells #[.slice none 0 0, .int .i64 0, .bool false, .int .i64 0] 26); 
  ∃ (States10 : Option Addr), ∃ (l_States10 : Nat), ∃ (c_States10 : Nat), w9.cell? (⟨p6, 0, none⟩ : Addr) = some (.slice States10 l_States10 c_States10) ∧ 
  ∃ (States11 : Option Addr), ∃ (l_States11 : Nat), ∃ (c_States11 : Nat), w9.cell? (⟨p6, 0, none⟩ : Addr) = some (.slice States11 l_States11 c_States11) ∧ 
  ∃ q12 : Addr, States11 = some q12 ∧ 0 ≤ (mxI (0 : Int) (mnI keep5 (IntKind.i64.wrap (((l_States10 : Nat) : Int) - (1 : Int))))) ∧ (mxI (0 : Int) (mnI keep5 (IntKind.i64.wrap (((l_States10 : Nat) : Int) - (1 : Int))))) < (l_States11 : Nat) ∧ 
  ∃ (s13 : ByteArray), ∃ (s14 : ByteArray), ∃ (s15 : ByteArray), w9.cell? (q12.add ((mxI (0 : Int) (mnI keep5 (IntKind.i64.wrap (((l_States10 : Nat) : Int) - (1 : Int))))).toNat * 3)) = some (.string s13) ∧ w9.cell? ((q12.add ((mxI (0 : Int) (mnI keep5 (IntKind.i64.wrap (((l_States10 : Nat) : Int) - (1 : Int))))).toNat * 3)).add 1) = some (.string s14) ∧ w9.cell? ((q12.add ((mxI (0 : Int) (mnI keep5 (IntKind.i64.wrap (((l_States10 : Nat) : Int) - (1 : Int))))).toNat * 3)).add 2) = some (.string s15) ∧ 
  let p16 : Nat := w9.heap.size; let w17 : World := w9.alloc (.cells #[.string s13, .string s14, .string s15] 77); 
  wrN w17 (⟨p8, 0, none⟩ : Addr) 4 ∧ let w18 : World := setN (⟨p8, 0, none⟩ : Addr) 0 [.slice (some ⟨p16, 0, none⟩) 1 1, .int .i64 0, .bool false, .int .i64 0] w17; 
  ∃ (a19 : Option Addr), ∃ (l_a19 : Nat), ∃ (c_a19 : Nat), ∃ (n20 : Int), ∃ (b21 : Bool), ∃ (n22 : Int), w18.cell? (⟨p8, 0, none⟩ : Addr) = some (.slice a19 l_a19 c_a19) ∧ w18.cell? (⟨p8, 1, none⟩ : Addr) = some (.int .i64 n20) ∧ w18.cell? (⟨p8, 2, none⟩ : Addr) = some (.bool b21) ∧ w18.cell? (⟨p8, 3, none⟩ : Addr) = some (.int .i64 n22) ∧ 
  K (.agg #[.slice a19 l_a19 c_a19, .int .i64 n20, .bool b21, .int .i64 n22]) w18
theorem sh24_eq (d1 : Option Addr) (l_d1 : Nat) (c_d1 : Nat) (d2 : Int) (d3 : Bool) (d4 : Int) (keep5 : Int) (K : Value → World → Prop) (w : World) : denF X Try.f24 [.agg #[.slice d1 l_d1 c_d1, .int .i64 d2, .bool d3, .int .i64 d4], .int .i64 keep5] K w = sh24 d1 l_d1 c_d1 d2 d3 d4 keep5 K w := by kernel_rfl
theorem c24 {d1 : Option Addr} {l_d1 : Nat} {c_d1 : Nat} {d2 : Int} {d3 : Bool} {d4 : Int} {keep5 : Int} {w : World} {R : Ending → World → Prop} (h : sh24 d1 l_d1 c_d1 d2 d3 d4 keep5 (fun v w' => R (.returned v) w') w) : Calls Try.prog 24 #[.agg #[.slice d1 l_d1 c_d1, .int .i64 d2, .bool d3, .int .i64 d4], .int .i64 keep5] w R :=
  callOf Try.func24 (args := [.agg #[.slice d1 l_d1 c_d1, .int .i64 d2, .bool d3, .int .i64 d4], .int .i64 keep5]) (Eq.mpr (sh24_eq d1 l_d1 c_d1 d2 d3 d4 keep5 _ w) h)

/-- bramble/bramblelaw18.Tells -/
def sh25 (d1 : Addr) (m2 : Option Addr) (l_m2 : Nat) (c_m2 : Nat) (m3 : Int) (m4 : Bool) (m5 : Int) (K : Value → World → Prop) (w : World) : Prop :=
  let p6 : Nat := w.heap.size; let w7 : World := w.alloc (.cells #[.slice m2 l_m2 c_m2, .int .i64 m3, .bool m4, .int .i64 m5] 26); 
  ∃ (m8 : Option Addr), ∃ (l_m8 : Nat), ∃ (c_m8 : Nat), ∃ (m9 : Int), ∃ (m10 : Bool), ∃ (m11 : Int), w7.cell? (⟨p6, 0, none⟩ : Addr) = some (.slice m8 l_m8 c_m8) ∧ w7.cell? (⟨p6, 1, none⟩ : Addr) = some (.int .i64 m9) ∧ w7.cell? (⟨p6, 2, none⟩ : Addr) = some (.bool m10) ∧ w7.cell? (⟨p6, 3, none⟩ : Addr) = some (.int .i64 m11) ∧ 
  Calls Try.prog 65 #[.agg #[.slice m8 l_m8 c_m8, .int .i64 m9, .bool m10, .int .i64 m11]] w7 (fun e12 w13 => ∃ (s14 : ByteArray), ∃ (s15 : ByteArray), ∃ (s16 : ByteArray), e12 = .returned (.agg #[.string s14, .string s15, .string s16]) ∧ 
  let p17 : Nat := w13.heap.size; let w18 : World := w13.alloc (.cells #[.string ({ data := #[] } : ByteArray), .string ({ data := #[] } : ByteArray), .string ({ data := #[] } : ByteArray)] 77); 
  wrN w18 (⟨p17, 0, none⟩ : Addr) 3 ∧ let w19 : World := setN (⟨p17, 0, none⟩ : Addr) 0 [.string s14, .string s15, .string s16] w18; 
  ∃ (I23 : List Value → World → Prop) (μ24 : List Value → World → Nat), I23 [.bool false, .int .i64 0] w19 ∧ ∀ (w22 : World) (b20 : Bool) (f21 : Int), I23 [.bool b20, .int .i64 f21] w22 → 
  cond (decide (f21 < (3 : Int)))
    (let K47 : Option Addr → Nat → Nat → ByteArray → Addr → ByteArray → Bool → Bool → Bool → World → Prop := fun a39 l_a39 c_a39 s40 a41 s42 b43 b44 b45 w46 =>
        cond b45
          (K (.bool false) w46)
          (I23 [.bool b20, .int .i64 (IntKind.i64.wrap (f21 + (1 : Int)))] w46 ∧ μ24 [.bool b20, .int .i64 (IntKind.i64.wrap (f21 + (1 : Int)))] w46 < μ24 [.bool b20, .int .i64 f21] w22)
    let w25 : World := w22.drew; 
    0 ≤ f21 ∧ f21 < 3 ∧ 
    ∃ (s26 : ByteArray), w25.cell? ((⟨p17, 0, none⟩ : Addr).add (f21.toNat * 1)) = some (.string s26) ∧ 
    Calls Try.prog 29 #[.pointer (some d1), .int .i64 f21] w25 (fun e27 w28 => ∃ (a29 : Option Addr), ∃ (l_a29 : Nat), ∃ (c_a29 : Nat), e27 = .returned (.slice a29 l_a29 c_a29) ∧ 
    (∃ (s30 : ByteArray), w28.cell? ((⟨p17, 0, none⟩ : Addr).add (f21.toNat * 1)) = some (.string s30) ∧ 
      (some (.string s26) : Option Value) = some (.string s30))
    ∧ (RunWp Try.prog (convert 36 9 (.slice a29 l_a29 c_a29)) (fun v31 w32 => w32 = w28 ∧ ∃ (s33 : ByteArray), v31 = .string s33 ∧ 
      cond (!(s33.toList == s26.toList))
        (K47 a29 l_a29 c_a29 s33 ((⟨p17, 0, none⟩ : Addr).add (f21.toNat * 1)) s26 (!(s33.toList == s26.toList)) true true w28)
        (0 ≤ f21 ∧ f21 < 3 ∧ 
        ∃ (s34 : ByteArray), w28.cell? ((⟨p17, 0, none⟩ : Addr).add (f21.toNat * 1)) = some (.string s34) ∧ 
        Calls Try.prog 34 #[.pointer (some d1), .int .i64 f21] w28 (fun e35 w36 => ∃ (n37 : Int), e35 = .returned (.int .i64 n37) ∧ 
        (∃ (s38 : ByteArray), w36.cell? ((⟨p17, 0, none⟩ : Addr).add (f21.toNat * 1)) = some (.string s38) ∧ 
          (some (.string s34) : Option Value) = some (.string s38))
        ∧ (K47 a29 l_a29 c_a29 s33 ((⟨p17, 0, none⟩ : Addr).add (f21.toNat * 1)) s26 (!(s33.toList == s26.toList)) false (n37 != ((s34.size : Nat) : Int)) w36)))) w28)))
    (let w48 : World := w22.drew; 
    Calls Try.prog 29 #[.pointer (some d1), .int .i64 (-1)] w48 (fun e49 w50 => ∃ (a51 : Option Addr), ∃ (l_a51 : Nat), ∃ (c_a51 : Nat), e49 = .returned (.slice a51 l_a51 c_a51) ∧ 
    cond (((l_a51 : Nat) : Int) == (0 : Int))
      (Calls Try.prog 29 #[.pointer (some d1), .int .i64 3] w50 (fun e52 w53 => ∃ (a54 : Option Addr), ∃ (l_a54 : Nat), ∃ (c_a54 : Nat), e52 = .returned (.slice a54 l_a54 c_a54) ∧ 
      cond (((l_a54 : Nat) : Int) == (0 : Int))
        (Calls Try.prog 34 #[.pointer (some d1), .int .i64 3] w53 (fun e55 w56 => ∃ (n57 : Int), e55 = .returned (.int .i64 n57) ∧ 
        cond (n57 == (0 : Int))
          (Calls Try.prog 34 #[.pointer (some d1), .int .i64 (-4611686018427387904)] w56 (fun e58 w59 => ∃ (n60 : Int), e58 = .returned (.int .i64 n60) ∧ 
          cond (n60 == (0 : Int))
            (∃ (Raws61 : Int), w59.cell? (⟨p6, 1, none⟩ : Addr) = some (.int .i64 Raws61) ∧ 
            Calls Try.prog 50 #[.pointer (some d1)] w59 (fun e62 w63 => ∃ (n64 : Int), e62 = .returned (.int .i64 n64) ∧ 
            (∃ (Raws65 : Int), w63.cell? (⟨p6, 1, none⟩ : Addr) = some (.int .i64 Raws65) ∧ 
              (some (.int .i64 Raws61) : Option Value) = some (.int .i64 Raws65))
            ∧ (cond (n64 == Raws61)
                (∃ (States66 : Option Addr), ∃ (l_States66 : Nat), ∃ (c_States66 : Nat), w63.cell? (⟨p6, 0, none⟩ : Addr) = some (.slice States66 l_States66 c_States66) ∧ 
                Calls Try.prog 27 #[.pointer (some d1)] w63 (fun e67 w68 => ∃ (n69 : Int), e67 = .returned (.int .i64 n69) ∧ 
                (∃ (States70 : Option Addr), ∃ (l_States70 : Nat), ∃ (c_States70 : Nat), w68.cell? (⟨p6, 0, none⟩ : Addr) = some (.slice States70 l_States70 c_States70) ∧ 
                  (some (.slice States66 l_States66 c_States66) : Option Value) = some (.slice States70 l_States70 c_States70))
                ∧ (cond (n69 == (IntKind.i64.wrap (((l_States66 : Nat) : Int) - (1 : Int))))
                    (∃ (m71 : Option Addr), ∃ (l_m71 : Nat), ∃ (c_m71 : Nat), ∃ (m72 : Int), ∃ (m73 : Bool), ∃ (m74 : Int), w68.cell? (⟨p6, 0, none⟩ : Addr) = some (.slice m71 l_m71 c_m71) ∧ w68.cell? (⟨p6, 1, none⟩ : Addr) = some (.int .i64 m72) ∧ w68.cell? (⟨p6, 2, none⟩ : Addr) = some (.bool m73) ∧ w68.cell? (⟨p6, 3, none⟩ : Addr) = some (.int .i64 m74) ∧ 
                    Calls Try.prog 26 #[.pointer (some d1)] w68 (fun e75 w76 => ∃ (b77 : Bool), e75 = .returned (.bool b77) ∧ 
                    (∃ (m78 : Option Addr), ∃ (l_m78 : Nat), ∃ (c_m78 : Nat), ∃ (m79 : Int), ∃ (m80 : Bool), ∃ (m81 : Int), w76.cell? (⟨p6, 0, none⟩ : Addr) = some (.slice m78 l_m78 c_m78) ∧ w76.cell? (⟨p6, 1, none⟩ : Addr) = some (.int .i64 m79) ∧ w76.cell? (⟨p6, 2, none⟩ : Addr) = some (.bool m80) ∧ w76.cell? (⟨p6, 3, none⟩ : Addr) = some (.int .i64 m81) ∧ 
                      (some (.agg #[.slice m71 l_m71 c_m71, .int .i64 m72, .bool m73, .int .i64 m74]) : Option Value) = some (.agg #[.slice m78 l_m78 c_m78, .int .i64 m79, .bool m80, .int .i64 m81]))
                    ∧ (Calls Try.prog 66 #[.agg #[.slice m71 l_m71 c_m71, .int .i64 m72, .bool m73, .int .i64 m74]] w76 (fun e82 w83 => ∃ (b84 : Bool), e82 = .returned (.bool b84) ∧ 
                      K (.bool (b77 == b84)) w83))))
                    (K (.bool false) w68))))
                (K (.bool false) w63))))
            (K (.bool false) w59)))
          (K (.bool false) w56)))
        (K (.bool false) w53)))
      (K (.bool false) w50))))
theorem sh25_eq (d1 : Addr) (m2 : Option Addr) (l_m2 : Nat) (c_m2 : Nat) (m3 : Int) (m4 : Bool) (m5 : Int) (K : Value → World → Prop) (w : World) : denF X Try.f25 [.pointer (some d1), .agg #[.slice m2 l_m2 c_m2, .int .i64 m3, .bool m4, .int .i64 m5]] K w = sh25 d1 m2 l_m2 c_m2 m3 m4 m5 K w := by kernel_rfl
theorem c25 {d1 : Addr} {m2 : Option Addr} {l_m2 : Nat} {c_m2 : Nat} {m3 : Int} {m4 : Bool} {m5 : Int} {w : World} {R : Ending → World → Prop} (h : sh25 d1 m2 l_m2 c_m2 m3 m4 m5 (fun v w' => R (.returned v) w') w) : Calls Try.prog 25 #[.pointer (some d1), .agg #[.slice m2 l_m2 c_m2, .int .i64 m3, .bool m4, .int .i64 m5]] w R :=
  callOf Try.func25 (args := [.pointer (some d1), .agg #[.slice m2 l_m2 c_m2, .int .i64 m3, .bool m4, .int .i64 m5]]) (Eq.mpr (sh25_eq d1 m2 l_m2 c_m2 m3 m4 m5 _ w) h)

/-- (*bramble/disk.Disk).Dead -/
def sh26 (d1 : Addr) (K : Value → World → Prop) (w : World) : Prop :=
  ∃ (armed2 : Bool), w.cell? (d1.add 8) = some (.bool armed2) ∧ 
  cond armed2
    (∃ (left3 : Int), w.cell? (d1.add 9) = some (.int .i64 left3) ∧ 
    K (.bool (decide (left3 ≤ (0 : Int)))) w)
    (K (.bool false) w)
theorem sh26_eq (d1 : Addr) (K : Value → World → Prop) (w : World) : denF X Try.f26 [.pointer (some d1)] K w = sh26 d1 K w := by kernel_rfl
theorem c26 {d1 : Addr} {w : World} {R : Ending → World → Prop} (h : sh26 d1 (fun v w' => R (.returned v) w') w) : Calls Try.prog 26 #[.pointer (some d1)] w R :=
  callOf Try.func26 (args := [.pointer (some d1)]) (Eq.mpr (sh26_eq d1 _ w) h)

/-- (*bramble/disk.Disk).Pending -/
def sh27 (d1 : Addr) (K : Value → World → Prop) (w : World) : Prop :=
  ∃ (pending2 : Option Addr), ∃ (l_pending2 : Nat), ∃ (c_pending2 : Nat), w.cell? (d1.add 6) = some (.slice pending2 l_pending2 c_pending2) ∧ 
  K (.int .i64 ((l_pending2 : Nat) : Int)) w
theorem sh27_eq (d1 : Addr) (K : Value → World → Prop) (w : World) : denF X Try.f27 [.pointer (some d1)] K w = sh27 d1 K w := by kernel_rfl
theorem c27 {d1 : Addr} {w : World} {R : Ending → World → Prop} (h : sh27 d1 (fun v w' => R (.returned v) w') w) : Calls Try.prog 27 #[.pointer (some d1)] w R :=
  callOf Try.func27 (args := [.pointer (some d1)]) (Eq.mpr (sh27_eq d1 _ w) h)

/-- bramble/bramblelaw18.play -/
def sh28 (d1 : Addr) (m2 : Option Addr) (l_m2 : Nat) (c_m2 : Nat) (m3 : Int) (m4 : Bool) (m5 : Int) (o6 : Int) (o7 : Int) (o8 : Int) (o9 : Option Addr) (l_o9 : Nat) (c_o9 : Nat) (K : Value → World → Prop) (w : World) : Prop :=
  let p10 : Nat := w.heap.size; let w11 : World := w.alloc (.cells #[.slice m2 l_m2 c_m2, .int .i64 m3, .bool m4, .int .i64 m5] 26); 
  let p12 : Nat := w11.heap.size; let w13 : World := w11.alloc (.cells #[.int .i64 o6, .int .i64 o7, .int .i64 o8, .slice o9 l_o9 c_o9] 38); 
  let p14 : Nat := w13.heap.size; let w15 : World := w13.alloc (.cells #[.slice none 0 0, .int .i64 0, .bool false, .int .i64 0] 26); 
  let K170 : Int → Int → World → Prop := fun n167 n168 w169 =>
      let w171 : World := w169.drew; 
      ∃ (m172 : Option Addr), ∃ (l_m172 : Nat), ∃ (c_m172 : Nat), ∃ (m173 : Int), ∃ (m174 : Bool), ∃ (m175 : Int), w171.cell? (⟨p10, 0, none⟩ : Addr) = some (.slice m172 l_m172 c_m172) ∧ w171.cell? (⟨p10, 1, none⟩ : Addr) = some (.int .i64 m173) ∧ w171.cell? (⟨p10, 2, none⟩ : Addr) = some (.bool m174) ∧ w171.cell? (⟨p10, 3, none⟩ : Addr) = some (.int .i64 m175) ∧ 
      cond (n167 == n168)
        (∃ (m176 : Option Addr), ∃ (l_m176 : Nat), ∃ (c_m176 : Nat), ∃ (m177 : Int), ∃ (m178 : Bool), ∃ (m179 : Int), w171.cell? (⟨p10, 0, none⟩ : Addr) = some (.slice m176 l_m176 c_m176) ∧ w171.cell? (⟨p10, 1, none⟩ : Addr) = some (.int .i64 m177) ∧ w171.cell? (⟨p10, 2, none⟩ : Addr) = some (.bool m178) ∧ w171.cell? (⟨p10, 3, none⟩ : Addr) = some (.int .i64 m179) ∧ 
        Calls Try.prog 25 #[.pointer (some d1), .agg #[.slice m176 l_m176 c_m176, .int .i64 m177, .bool m178, .int .i64 m179]] w171 (fun e180 w181 => ∃ (b182 : Bool), e180 = .returned (.bool b182) ∧ 
        (∃ (m183 : Option Addr), ∃ (l_m183 : Nat), ∃ (c_m183 : Nat), ∃ (m184 : Int), ∃ (m185 : Bool), ∃ (m186 : Int), w181.cell? (⟨p10, 0, none⟩ : Addr) = some (.slice m183 l_m183 c_m183) ∧ w181.cell? (⟨p10, 1, none⟩ : Addr) = some (.int .i64 m184) ∧ w181.cell? (⟨p10, 2, none⟩ : Addr) = some (.bool m185) ∧ w181.cell? (⟨p10, 3, none⟩ : Addr) = some (.int .i64 m186) ∧ 
          (some (.agg #[.slice m172 l_m172 c_m172, .int .i64 m173, .bool m174, .int .i64 m175]) : Option Value) = some (.agg #[.slice m183 l_m183 c_m183, .int .i64 m184, .bool m185, .int .i64 m186]))
        ∧ (wrN w181 (⟨p14, 0, none⟩ : Addr) 4 ∧ let w187 : World := setN (⟨p14, 0, none⟩ : Addr) 0 [.slice m172 l_m172 c_m172, .int .i64 m173, .bool m174, .int .i64 m175] w181; 
          ∃ (a192 : Option Addr), ∃ (l_a192 : Nat), ∃ (c_a192 : Nat), ∃ (n193 : Int), ∃ (b194 : Bool), ∃ (n195 : Int), w187.cell? (⟨p14, 0, none⟩ : Addr) = some (.slice a192 l_a192 c_a192) ∧ w187.cell? (⟨p14, 1, none⟩ : Addr) = some (.int .i64 n193) ∧ w187.cell? (⟨p14, 2, none⟩ : Addr) = some (.bool b194) ∧ w187.cell? (⟨p14, 3, none⟩ : Addr) = some (.int .i64 n195) ∧ 
          K (.tuple #[.pointer (some d1), .agg #[.slice a192 l_a192 c_a192, .int .i64 n193, .bool b194, .int .i64 n195], .bool b182]) w187)))
        (wrN w171 (⟨p14, 0, none⟩ : Addr) 4 ∧ let w188 : World := setN (⟨p14, 0, none⟩ : Addr) 0 [.slice m172 l_m172 c_m172, .int .i64 m173, .bool m174, .int .i64 m175] w171; 
        ∃ (a196 : Option Addr), ∃ (l_a196 : Nat), ∃ (c_a196 : Nat), ∃ (n197 : Int), ∃ (b198 : Bool), ∃ (n199 : Int), w188.cell? (⟨p14, 0, none⟩ : Addr) = some (.slice a196 l_a196 c_a196) ∧ w188.cell? (⟨p14, 1, none⟩ : Addr) = some (.int .i64 n197) ∧ w188.cell? (⟨p14, 2, none⟩ : Addr) = some (.bool b198) ∧ w188.cell? (⟨p14, 3, none⟩ : Addr) = some (.int .i64 n199) ∧ 
        K (.tuple #[.pointer (some d1), .agg #[.slice a196 l_a196 c_a196, .int .i64 n197, .bool b198, .int .i64 n199], .bool false]) w188)
  ∃ (Kind16 : Int), w15.cell? (⟨p12, 0, none⟩ : Addr) = some (.int .i64 Kind16) ∧ 
  cond (Kind16 == (1 : Int))
    (let w17 : World := w15.drew; 
    ∃ (F18 : Int), w17.cell? (⟨p12, 1, none⟩ : Addr) = some (.int .i64 F18) ∧ 
    ∃ (At19 : Int), w17.cell? (⟨p12, 2, none⟩ : Addr) = some (.int .i64 At19) ∧ 
    ∃ (B20 : Option Addr), ∃ (l_B20 : Nat), ∃ (c_B20 : Nat), w17.cell? (⟨p12, 3, none⟩ : Addr) = some (.slice B20 l_B20 c_B20) ∧ 
    let p21 : Nat := w17.heap.size; let w22 : World := w17.alloc (.cells #[] 5); 
    (∃ (F23 : Int), w22.cell? (⟨p12, 1, none⟩ : Addr) = some (.int .i64 F23) ∧ 
      (some (.int .i64 F18) : Option Value) = some (.int .i64 F23))
    ∧ ((∃ (At24 : Int), w22.cell? (⟨p12, 2, none⟩ : Addr) = some (.int .i64 At24) ∧ 
        (some (.int .i64 At19) : Option Value) = some (.int .i64 At24))
      ∧ ((∃ (B25 : Option Addr), ∃ (l_B25 : Nat), ∃ (c_B25 : Nat), w22.cell? (⟨p12, 3, none⟩ : Addr) = some (.slice B25 l_B25 c_B25) ∧ 
          (some (.slice B20 l_B20 c_B20) : Option Value) = some (.slice B25 l_B25 c_B25))
        ∧ (RunWp Try.prog (Builtin.append_ #[36, 36] 36 #[.slice (some ⟨p21, 0, none⟩) 0 0, .slice B20 l_B20 c_B20]) (fun v26 w27 => ∃ (a28 : Option Addr), ∃ (l_a28 : Nat), ∃ (c_a28 : Nat), v26 = .slice a28 l_a28 c_a28 ∧ 
          (∃ (F29 : Int), w27.cell? (⟨p12, 1, none⟩ : Addr) = some (.int .i64 F29) ∧ 
            (some (.int .i64 F18) : Option Value) = some (.int .i64 F29))
          ∧ ((∃ (At30 : Int), w27.cell? (⟨p12, 2, none⟩ : Addr) = some (.int .i64 At30) ∧ 
              (some (.int .i64 At19) : Option Value) = some (.int .i64 At30))
            ∧ (Calls Try.prog 31 #[.pointer (some d1), .int .i64 F18, .int .i64 At19, .slice a28 l_a28 c_a28] w27 (fun e31 w32 => ∃ (n33 : Int), e31 = .returned (.int .i64 n33) ∧ 
              ∃ (m34 : Option Addr), ∃ (l_m34 : Nat), ∃ (c_m34 : Nat), ∃ (m35 : Int), ∃ (m36 : Bool), ∃ (m37 : Int), w32.cell? (⟨p10, 0, none⟩ : Addr) = some (.slice m34 l_m34 c_m34) ∧ w32.cell? (⟨p10, 1, none⟩ : Addr) = some (.int .i64 m35) ∧ w32.cell? (⟨p10, 2, none⟩ : Addr) = some (.bool m36) ∧ w32.cell? (⟨p10, 3, none⟩ : Addr) = some (.int .i64 m37) ∧ 
              ∃ (F38 : Int), w32.cell? (⟨p12, 1, none⟩ : Addr) = some (.int .i64 F38) ∧ 
              ∃ (At39 : Int), w32.cell? (⟨p12, 2, none⟩ : Addr) = some (.int .i64 At39) ∧ 
              ∃ (B40 : Option Addr), ∃ (l_B40 : Nat), ∃ (c_B40 : Nat), w32.cell? (⟨p12, 3, none⟩ : Addr) = some (.slice B40 l_B40 c_B40) ∧ 
              Calls Try.prog 32 #[.agg #[.slice m34 l_m34 c_m34, .int .i64 m35, .bool m36, .int .i64 m37], .int .i64 F38, .int .i64 At39, .slice B40 l_B40 c_B40] w32 (fun e41 w42 => ∃ (a43 : Option Addr), ∃ (l_a43 : Nat), ∃ (c_a43 : Nat), ∃ (n44 : Int), ∃ (b45 : Bool), ∃ (n46 : Int), ∃ (n47 : Int), e41 = .returned (.tuple #[.agg #[.slice a43 l_a43 c_a43, .int .i64 n44, .bool b45, .int .i64 n46], .int .i64 n47]) ∧ 
              wrN w42 (⟨p10, 0, none⟩ : Addr) 4 ∧ let w48 : World := setN (⟨p10, 0, none⟩ : Addr) 0 [.slice a43 l_a43 c_a43, .int .i64 n44, .bool b45, .int .i64 n46] w42; 
              K170 n33 n47 w48))))) w22))))
    (cond (Kind16 == (2 : Int))
      (∃ (F49 : Int), w15.cell? (⟨p12, 1, none⟩ : Addr) = some (.int .i64 F49) ∧ 
      ∃ (At50 : Int), w15.cell? (⟨p12, 2, none⟩ : Addr) = some (.int .i64 At50) ∧ 
      Calls Try.prog 35 #[.pointer (some d1), .int .i64 F49, .int .i64 At50] w15 (fun e51 w52 => ∃ (n53 : Int), e51 = .returned (.int .i64 n53) ∧ 
      ∃ (m54 : Option Addr), ∃ (l_m54 : Nat), ∃ (c_m54 : Nat), ∃ (m55 : Int), ∃ (m56 : Bool), ∃ (m57 : Int), w52.cell? (⟨p10, 0, none⟩ : Addr) = some (.slice m54 l_m54 c_m54) ∧ w52.cell? (⟨p10, 1, none⟩ : Addr) = some (.int .i64 m55) ∧ w52.cell? (⟨p10, 2, none⟩ : Addr) = some (.bool m56) ∧ w52.cell? (⟨p10, 3, none⟩ : Addr) = some (.int .i64 m57) ∧ 
      ∃ (F58 : Int), w52.cell? (⟨p12, 1, none⟩ : Addr) = some (.int .i64 F58) ∧ 
      ∃ (At59 : Int), w52.cell? (⟨p12, 2, none⟩ : Addr) = some (.int .i64 At59) ∧ 
      Calls Try.prog 67 #[.agg #[.slice m54 l_m54 c_m54, .int .i64 m55, .bool m56, .int .i64 m57], .int .i64 F58, .int .i64 At59] w52 (fun e60 w61 => ∃ (a62 : Option Addr), ∃ (l_a62 : Nat), ∃ (c_a62 : Nat), ∃ (n63 : Int), ∃ (b64 : Bool), ∃ (n65 : Int), ∃ (n66 : Int), e60 = .returned (.tuple #[.agg #[.slice a62 l_a62 c_a62, .int .i64 n63, .bool b64, .int .i64 n65], .int .i64 n66]) ∧ 
      wrN w61 (⟨p10, 0, none⟩ : Addr) 4 ∧ let w67 : World := setN (⟨p10, 0, none⟩ : Addr) 0 [.slice a62 l_a62 c_a62, .int .i64 n63, .bool b64, .int .i64 n65] w61; 
      K170 n53 n66 w67)))
      (cond (Kind16 == (3 : Int))
        (Calls Try.prog 30 #[.pointer (some d1)] w15 (fun e68 w69 => ∃ (n70 : Int), e68 = .returned (.int .i64 n70) ∧ 
        ∃ (m71 : Option Addr), ∃ (l_m71 : Nat), ∃ (c_m71 : Nat), ∃ (m72 : Int), ∃ (m73 : Bool), ∃ (m74 : Int), w69.cell? (⟨p10, 0, none⟩ : Addr) = some (.slice m71 l_m71 c_m71) ∧ w69.cell? (⟨p10, 1, none⟩ : Addr) = some (.int .i64 m72) ∧ w69.cell? (⟨p10, 2, none⟩ : Addr) = some (.bool m73) ∧ w69.cell? (⟨p10, 3, none⟩ : Addr) = some (.int .i64 m74) ∧ 
        Calls Try.prog 68 #[.agg #[.slice m71 l_m71 c_m71, .int .i64 m72, .bool m73, .int .i64 m74]] w69 (fun e75 w76 => ∃ (a77 : Option Addr), ∃ (l_a77 : Nat), ∃ (c_a77 : Nat), ∃ (n78 : Int), ∃ (b79 : Bool), ∃ (n80 : Int), ∃ (n81 : Int), e75 = .returned (.tuple #[.agg #[.slice a77 l_a77 c_a77, .int .i64 n78, .bool b79, .int .i64 n80], .int .i64 n81]) ∧ 
        wrN w76 (⟨p10, 0, none⟩ : Addr) 4 ∧ let w82 : World := setN (⟨p10, 0, none⟩ : Addr) 0 [.slice a77 l_a77 c_a77, .int .i64 n78, .bool b79, .int .i64 n80] w76; 
        K170 n70 n81 w82)))
        (cond (Kind16 == (4 : Int))
          (∃ (At83 : Int), w15.cell? (⟨p12, 2, none⟩ : Addr) = some (.int .i64 At83) ∧ 
          Calls Try.prog 54 #[.pointer (some d1), .int .i64 At83] w15 (fun e84 w85 => ∃ (n86 : Int), e84 = .returned (.int .i64 n86) ∧ 
          ∃ (m87 : Option Addr), ∃ (l_m87 : Nat), ∃ (c_m87 : Nat), ∃ (m88 : Int), ∃ (m89 : Bool), ∃ (m90 : Int), w85.cell? (⟨p10, 0, none⟩ : Addr) = some (.slice m87 l_m87 c_m87) ∧ w85.cell? (⟨p10, 1, none⟩ : Addr) = some (.int .i64 m88) ∧ w85.cell? (⟨p10, 2, none⟩ : Addr) = some (.bool m89) ∧ w85.cell? (⟨p10, 3, none⟩ : Addr) = some (.int .i64 m90) ∧ 
          ∃ (At91 : Int), w85.cell? (⟨p12, 2, none⟩ : Addr) = some (.int .i64 At91) ∧ 
          Calls Try.prog 69 #[.agg #[.slice m87 l_m87 c_m87, .int .i64 m88, .bool m89, .int .i64 m90], .int .i64 At91] w85 (fun e92 w93 => ∃ (a94 : Option Addr), ∃ (l_a94 : Nat), ∃ (c_a94 : Nat), ∃ (n95 : Int), ∃ (b96 : Bool), ∃ (n97 : Int), ∃ (n98 : Int), e92 = .returned (.tuple #[.agg #[.slice a94 l_a94 c_a94, .int .i64 n95, .bool b96, .int .i64 n97], .int .i64 n98]) ∧ 
          wrN w93 (⟨p10, 0, none⟩ : Addr) 4 ∧ let w99 : World := setN (⟨p10, 0, none⟩ : Addr) 0 [.slice a94 l_a94 c_a94, .int .i64 n95, .bool b96, .int .i64 n97] w93; 
          K170 n86 n98 w99)))
          (cond (Kind16 == (5 : Int))
            (let w100 : World := w15.drew; 
            ∃ (m101 : Option Addr), ∃ (l_m101 : Nat), ∃ (c_m101 : Nat), ∃ (m102 : Int), ∃ (m103 : Bool), ∃ (m104 : Int), w100.cell? (⟨p10, 0, none⟩ : Addr) = some (.slice m101 l_m101 c_m101) ∧ w100.cell? (⟨p10, 1, none⟩ : Addr) = some (.int .i64 m102) ∧ w100.cell? (⟨p10, 2, none⟩ : Addr) = some (.bool m103) ∧ w100.cell? (⟨p10, 3, none⟩ : Addr) = some (.int .i64 m104) ∧ 
            let p105 : Nat := w100.heap.size; let w106 : World := w100.alloc (.cells #[.slice none 0 0, .int .i64 0, .bool false, .int .i64 0] 26); 
            (∃ (m107 : Option Addr), ∃ (l_m107 : Nat), ∃ (c_m107 : Nat), ∃ (m108 : Int), ∃ (m109 : Bool), ∃ (m110 : Int), w106.cell? (⟨p10, 0, none⟩ : Addr) = some (.slice m107 l_m107 c_m107) ∧ w106.cell? (⟨p10, 1, none⟩ : Addr) = some (.int .i64 m108) ∧ w106.cell? (⟨p10, 2, none⟩ : Addr) = some (.bool m109) ∧ w106.cell? (⟨p10, 3, none⟩ : Addr) = some (.int .i64 m110) ∧ 
              (some (.agg #[.slice m101 l_m101 c_m101, .int .i64 m102, .bool m103, .int .i64 m104]) : Option Value) = some (.agg #[.slice m107 l_m107 c_m107, .int .i64 m108, .bool m109, .int .i64 m110]))
            ∧ (wrN w106 (⟨p105, 0, none⟩ : Addr) 4 ∧ let w111 : World := setN (⟨p105, 0, none⟩ : Addr) 0 [.slice m101 l_m101 c_m101, .int .i64 m102, .bool m103, .int .i64 m104] w106; 
              let w112 : World := w111.drew; 
              ∃ (At113 : Int), w112.cell? (⟨p12, 2, none⟩ : Addr) = some (.int .i64 At113) ∧ 
              ∃ (m114 : Option Addr), ∃ (l_m114 : Nat), ∃ (c_m114 : Nat), ∃ (m115 : Int), ∃ (m116 : Bool), ∃ (m117 : Int), w112.cell? (⟨p10, 0, none⟩ : Addr) = some (.slice m114 l_m114 c_m114) ∧ w112.cell? (⟨p10, 1, none⟩ : Addr) = some (.int .i64 m115) ∧ w112.cell? (⟨p10, 2, none⟩ : Addr) = some (.bool m116) ∧ w112.cell? (⟨p10, 3, none⟩ : Addr) = some (.int .i64 m117) ∧ 
              ∃ (At118 : Int), w112.cell? (⟨p12, 2, none⟩ : Addr) = some (.int .i64 At118) ∧ 
              Calls Try.prog 23 #[.pointer (some d1), .int .i64 At113] w112 (fun e119 w120 => ∃ (p121 : Option Addr), e119 = .returned (.pointer p121) ∧ 
              (∃ (m122 : Option Addr), ∃ (l_m122 : Nat), ∃ (c_m122 : Nat), ∃ (m123 : Int), ∃ (m124 : Bool), ∃ (m125 : Int), w120.cell? (⟨p10, 0, none⟩ : Addr) = some (.slice m122 l_m122 c_m122) ∧ w120.cell? (⟨p10, 1, none⟩ : Addr) = some (.int .i64 m123) ∧ w120.cell? (⟨p10, 2, none⟩ : Addr) = some (.bool m124) ∧ w120.cell? (⟨p10, 3, none⟩ : Addr) = some (.int .i64 m125) ∧ 
                (some (.agg #[.slice m114 l_m114 c_m114, .int .i64 m115, .bool m116, .int .i64 m117]) : Option Value) = some (.agg #[.slice m122 l_m122 c_m122, .int .i64 m123, .bool m124, .int .i64 m125]))
              ∧ ((∃ (At126 : Int), w120.cell? (⟨p12, 2, none⟩ : Addr) = some (.int .i64 At126) ∧ 
                  (some (.int .i64 At118) : Option Value) = some (.int .i64 At126))
                ∧ (Calls Try.prog 24 #[.agg #[.slice m114 l_m114 c_m114, .int .i64 m115, .bool m116, .int .i64 m117], .int .i64 At118] w120 (fun e127 w128 => ∃ (a129 : Option Addr), ∃ (l_a129 : Nat), ∃ (c_a129 : Nat), ∃ (n130 : Int), ∃ (b131 : Bool), ∃ (n132 : Int), e127 = .returned (.agg #[.slice a129 l_a129 c_a129, .int .i64 n130, .bool b131, .int .i64 n132]) ∧ 
                  wrN w128 (⟨p10, 0, none⟩ : Addr) 4 ∧ let w133 : World := setN (⟨p10, 0, none⟩ : Addr) 0 [.slice a129 l_a129 c_a129, .int .i64 n130, .bool b131, .int .i64 n132] w128; 
                  let w134 : World := w133.drew; 
                  ∃ (m135 : Option Addr), ∃ (l_m135 : Nat), ∃ (c_m135 : Nat), ∃ (m136 : Int), ∃ (m137 : Bool), ∃ (m138 : Int), w134.cell? (⟨p10, 0, none⟩ : Addr) = some (.slice m135 l_m135 c_m135) ∧ w134.cell? (⟨p10, 1, none⟩ : Addr) = some (.int .i64 m136) ∧ w134.cell? (⟨p10, 2, none⟩ : Addr) = some (.bool m137) ∧ w134.cell? (⟨p10, 3, none⟩ : Addr) = some (.int .i64 m138) ∧ 
                  cond (!p121.isNone)
                    (∃ (m139 : Option Addr), ∃ (l_m139 : Nat), ∃ (c_m139 : Nat), ∃ (m140 : Int), ∃ (m141 : Bool), ∃ (m142 : Int), w134.cell? (⟨p10, 0, none⟩ : Addr) = some (.slice m139 l_m139 c_m139) ∧ w134.cell? (⟨p10, 1, none⟩ : Addr) = some (.int .i64 m140) ∧ w134.cell? (⟨p10, 2, none⟩ : Addr) = some (.bool m141) ∧ w134.cell? (⟨p10, 3, none⟩ : Addr) = some (.int .i64 m142) ∧ 
                    Calls Try.prog 25 #[.pointer p121, .agg #[.slice m139 l_m139 c_m139, .int .i64 m140, .bool m141, .int .i64 m142]] w134 (fun e143 w144 => ∃ (b145 : Bool), e143 = .returned (.bool b145) ∧ 
                    (∃ (m146 : Option Addr), ∃ (l_m146 : Nat), ∃ (c_m146 : Nat), ∃ (m147 : Int), ∃ (m148 : Bool), ∃ (m149 : Int), w144.cell? (⟨p10, 0, none⟩ : Addr) = some (.slice m146 l_m146 c_m146) ∧ w144.cell? (⟨p10, 1, none⟩ : Addr) = some (.int .i64 m147) ∧ w144.cell? (⟨p10, 2, none⟩ : Addr) = some (.bool m148) ∧ w144.cell? (⟨p10, 3, none⟩ : Addr) = some (.int .i64 m149) ∧ 
                      (some (.agg #[.slice m135 l_m135 c_m135, .int .i64 m136, .bool m137, .int .i64 m138]) : Option Value) = some (.agg #[.slice m146 l_m146 c_m146, .int .i64 m147, .bool m148, .int .i64 m149]))
                    ∧ (cond b145
                        (∃ (was150 : Option Addr), ∃ (l_was150 : Nat), ∃ (c_was150 : Nat), ∃ (was151 : Int), ∃ (was152 : Bool), ∃ (was153 : Int), w144.cell? (⟨p105, 0, none⟩ : Addr) = some (.slice was150 l_was150 c_was150) ∧ w144.cell? (⟨p105, 1, none⟩ : Addr) = some (.int .i64 was151) ∧ w144.cell? (⟨p105, 2, none⟩ : Addr) = some (.bool was152) ∧ w144.cell? (⟨p105, 3, none⟩ : Addr) = some (.int .i64 was153) ∧ 
                        Calls Try.prog 25 #[.pointer (some d1), .agg #[.slice was150 l_was150 c_was150, .int .i64 was151, .bool was152, .int .i64 was153]] w144 (fun e154 w155 => ∃ (b156 : Bool), e154 = .returned (.bool b156) ∧ 
                        (∃ (m157 : Option Addr), ∃ (l_m157 : Nat), ∃ (c_m157 : Nat), ∃ (m158 : Int), ∃ (m159 : Bool), ∃ (m160 : Int), w155.cell? (⟨p10, 0, none⟩ : Addr) = some (.slice m157 l_m157 c_m157) ∧ w155.cell? (⟨p10, 1, none⟩ : Addr) = some (.int .i64 m158) ∧ w155.cell? (⟨p10, 2, none⟩ : Addr) = some (.bool m159) ∧ w155.cell? (⟨p10, 3, none⟩ : Addr) = some (.int .i64 m160) ∧ 
                          (some (.agg #[.slice m135 l_m135 c_m135, .int .i64 m136, .bool m137, .int .i64 m138]) : Option Value) = some (.agg #[.slice m157 l_m157 c_m157, .int .i64 m158, .bool m159, .int .i64 m160]))
                        ∧ (wrN w155 (⟨p14, 0, none⟩ : Addr) 4 ∧ let w161 : World := setN (⟨p14, 0, none⟩ : Addr) 0 [.slice m135 l_m135 c_m135, .int .i64 m136, .bool m137, .int .i64 m138] w155; 
                          ∃ (a200 : Option Addr), ∃ (l_a200 : Nat), ∃ (c_a200 : Nat), ∃ (n201 : Int), ∃ (b202 : Bool), ∃ (n203 : Int), w161.cell? (⟨p14, 0, none⟩ : Addr) = some (.slice a200 l_a200 c_a200) ∧ w161.cell? (⟨p14, 1, none⟩ : Addr) = some (.int .i64 n201) ∧ w161.cell? (⟨p14, 2, none⟩ : Addr) = some (.bool b202) ∧ w161.cell? (⟨p14, 3, none⟩ : Addr) = some (.int .i64 n203) ∧ 
                          K (.tuple #[.pointer p121, .agg #[.slice a200 l_a200 c_a200, .int .i64 n201, .bool b202, .int .i64 n203], .bool b156]) w161)))
                        (wrN w144 (⟨p14, 0, none⟩ : Addr) 4 ∧ let w162 : World := setN (⟨p14, 0, none⟩ : Addr) 0 [.slice m135 l_m135 c_m135, .int .i64 m136, .bool m137, .int .i64 m138] w144; 
                        ∃ (a204 : Option Addr), ∃ (l_a204 : Nat), ∃ (c_a204 : Nat), ∃ (n205 : Int), ∃ (b206 : Bool), ∃ (n207 : Int), w162.cell? (⟨p14, 0, none⟩ : Addr) = some (.slice a204 l_a204 c_a204) ∧ w162.cell? (⟨p14, 1, none⟩ : Addr) = some (.int .i64 n205) ∧ w162.cell? (⟨p14, 2, none⟩ : Addr) = some (.bool b206) ∧ w162.cell? (⟨p14, 3, none⟩ : Addr) = some (.int .i64 n207) ∧ 
                        K (.tuple #[.pointer p121, .agg #[.slice a204 l_a204 c_a204, .int .i64 n205, .bool b206, .int .i64 n207], .bool false]) w162))))
                    (wrN w134 (⟨p14, 0, none⟩ : Addr) 4 ∧ let w163 : World := setN (⟨p14, 0, none⟩ : Addr) 0 [.slice m135 l_m135 c_m135, .int .i64 m136, .bool m137, .int .i64 m138] w134; 
                    ∃ (a208 : Option Addr), ∃ (l_a208 : Nat), ∃ (c_a208 : Nat), ∃ (n209 : Int), ∃ (b210 : Bool), ∃ (n211 : Int), w163.cell? (⟨p14, 0, none⟩ : Addr) = some (.slice a208 l_a208 c_a208) ∧ w163.cell? (⟨p14, 1, none⟩ : Addr) = some (.int .i64 n209) ∧ w163.cell? (⟨p14, 2, none⟩ : Addr) = some (.bool b210) ∧ w163.cell? (⟨p14, 3, none⟩ : Addr) = some (.int .i64 n211) ∧ 
                    K (.tuple #[.pointer p121, .agg #[.slice a208 l_a208 c_a208, .int .i64 n209, .bool b210, .int .i64 n211], .bool false]) w163)))))))
            (K170 0 0 w15)))))
theorem sh28_eq (d1 : Addr) (m2 : Option Addr) (l_m2 : Nat) (c_m2 : Nat) (m3 : Int) (m4 : Bool) (m5 : Int) (o6 : Int) (o7 : Int) (o8 : Int) (o9 : Option Addr) (l_o9 : Nat) (c_o9 : Nat) (K : Value → World → Prop) (w : World) : denF X Try.f28 [.pointer (some d1), .agg #[.slice m2 l_m2 c_m2, .int .i64 m3, .bool m4, .int .i64 m5], .agg #[.int .i64 o6, .int .i64 o7, .int .i64 o8, .slice o9 l_o9 c_o9]] K w = sh28 d1 m2 l_m2 c_m2 m3 m4 m5 o6 o7 o8 o9 l_o9 c_o9 K w := by kernel_rfl
theorem c28 {d1 : Addr} {m2 : Option Addr} {l_m2 : Nat} {c_m2 : Nat} {m3 : Int} {m4 : Bool} {m5 : Int} {o6 : Int} {o7 : Int} {o8 : Int} {o9 : Option Addr} {l_o9 : Nat} {c_o9 : Nat} {w : World} {R : Ending → World → Prop} (h : sh28 d1 m2 l_m2 c_m2 m3 m4 m5 o6 o7 o8 o9 l_o9 c_o9 (fun v w' => R (.returned v) w') w) : Calls Try.prog 28 #[.pointer (some d1), .agg #[.slice m2 l_m2 c_m2, .int .i64 m3, .bool m4, .int .i64 m5], .agg #[.int .i64 o6, .int .i64 o7, .int .i64 o8, .slice o9 l_o9 c_o9]] w R :=
  callOf Try.func28 (args := [.pointer (some d1), .agg #[.slice m2 l_m2 c_m2, .int .i64 m3, .bool m4, .int .i64 m5], .agg #[.int .i64 o6, .int .i64 o7, .int .i64 o8, .slice o9 l_o9 c_o9]]) (Eq.mpr (sh28_eq d1 m2 l_m2 c_m2 m3 m4 m5 o6 o7 o8 o9 l_o9 c_o9 _ w) h)

/-- (*bramble/disk.Disk).Read -/
def sh29 (d1 : Addr) (f2 : Int) (K : Value → World → Prop) (w : World) : Prop :=
  Calls Try.prog 70 #[.pointer (some d1), .int .i64 f2, .int .i64 0] w (fun e3 w4 => ∃ (b5 : Bool), e3 = .returned (.bool b5) ∧ 
  cond (!b5)
    (K (.slice none 0 0) w4)
    (0 ≤ f2 ∧ f2 < 3 ∧ 
    ∃ (a6 : Option Addr), ∃ (l_a6 : Nat), ∃ (c_a6 : Nat), w4.cell? ((d1.add 3).add (f2.toNat * 1)) = some (.slice a6 l_a6 c_a6) ∧ 
    Calls Try.prog 71 #[.slice a6 l_a6 c_a6] w4 (fun e7 w8 => ∃ (a9 : Option Addr), ∃ (l_a9 : Nat), ∃ (c_a9 : Nat), e7 = .returned (.slice a9 l_a9 c_a9) ∧ 
    K (.slice a9 l_a9 c_a9) w8)))
theorem sh29_eq (d1 : Addr) (f2 : Int) (K : Value → World → Prop) (w : World) : denF X Try.f29 [.pointer (some d1), .int .i64 f2] K w = sh29 d1 f2 K w := by kernel_rfl
theorem c29 {d1 : Addr} {f2 : Int} {w : World} {R : Ending → World → Prop} (h : sh29 d1 f2 (fun v w' => R (.returned v) w') w) : Calls Try.prog 29 #[.pointer (some d1), .int .i64 f2] w R :=
  callOf Try.func29 (args := [.pointer (some d1), .int .i64 f2]) (Eq.mpr (sh29_eq d1 f2 _ w) h)

/-- (*bramble/disk.Disk).Sync -/
def sh30 (d1 : Addr) (K : Value → World → Prop) (w : World) : Prop :=
  Calls Try.prog 72 #[.pointer (some d1)] w (fun e2 w3 => ∃ (b4 : Bool), e2 = .returned (.bool b4) ∧ 
  cond (!b4)
    (K (.int .i64 180) w3)
    (∃ (now5 : Option Addr), ∃ (l_now5 : Nat), ∃ (c_now5 : Nat), ∃ (now6 : Option Addr), ∃ (l_now6 : Nat), ∃ (c_now6 : Nat), ∃ (now7 : Option Addr), ∃ (l_now7 : Nat), ∃ (c_now7 : Nat), w3.cell? (d1.add 3) = some (.slice now5 l_now5 c_now5) ∧ w3.cell? (d1.add 4) = some (.slice now6 l_now6 c_now6) ∧ w3.cell? (d1.add 5) = some (.slice now7 l_now7 c_now7) ∧ 
    wrN w3 d1 3 ∧ let w8 : World := setN d1 0 [.slice now5 l_now5 c_now5, .slice now6 l_now6 c_now6, .slice now7 l_now7 c_now7] w3; 
    wr w8 (d1.add 6) ∧ let w9 : World := w8.setCell (d1.add 6) (.slice none 0 0); 
    K (.int .i64 0) w9))
theorem sh30_eq (d1 : Addr) (K : Value → World → Prop) (w : World) : denF X Try.f30 [.pointer (some d1)] K w = sh30 d1 K w := by kernel_rfl
theorem c30 {d1 : Addr} {w : World} {R : Ending → World → Prop} (h : sh30 d1 (fun v w' => R (.returned v) w') w) : Calls Try.prog 30 #[.pointer (some d1)] w R :=
  callOf Try.func30 (args := [.pointer (some d1)]) (Eq.mpr (sh30_eq d1 _ w) h)

/-- (*bramble/disk.Disk).Write -/
def sh31 (d1 : Addr) (f2 : Int) (off3 : Int) (b4 : Option Addr) (l_b4 : Nat) (c_b4 : Nat) (K : Value → World → Prop) (w : World) : Prop :=
  Calls Try.prog 70 #[.pointer (some d1), .int .i64 f2, .int .i64 off3] w (fun e5 w6 => ∃ (b7 : Bool), e5 = .returned (.bool b7) ∧ 
  cond (!b7)
    (K (.int .i64 1) w6)
    (cond (decide (((l_b4 : Nat) : Int) > (8 : Int)))
      (K (.int .i64 3) w6)
      (cond (decide ((IntKind.i64.wrap (off3 + ((l_b4 : Nat) : Int))) > (65536 : Int)))
        (K (.int .i64 181) w6)
        (Calls Try.prog 71 #[.slice b4 l_b4 c_b4] w6 (fun e8 w9 => ∃ (a10 : Option Addr), ∃ (l_a10 : Nat), ∃ (c_a10 : Nat), e8 = .returned (.slice a10 l_a10 c_a10) ∧ 
        Calls Try.prog 73 #[.pointer (some d1), .agg #[.int .i64 f2, .int .i64 off3, .slice a10 l_a10 c_a10, .bool false]] w9 (fun e11 w12 => ∃ (n13 : Int), e11 = .returned (.int .i64 n13) ∧ 
        K (.int .i64 n13) w12))))))
theorem sh31_eq (d1 : Addr) (f2 : Int) (off3 : Int) (b4 : Option Addr) (l_b4 : Nat) (c_b4 : Nat) (K : Value → World → Prop) (w : World) : denF X Try.f31 [.pointer (some d1), .int .i64 f2, .int .i64 off3, .slice b4 l_b4 c_b4] K w = sh31 d1 f2 off3 b4 l_b4 c_b4 K w := by kernel_rfl
theorem c31 {d1 : Addr} {f2 : Int} {off3 : Int} {b4 : Option Addr} {l_b4 : Nat} {c_b4 : Nat} {w : World} {R : Ending → World → Prop} (h : sh31 d1 f2 off3 b4 l_b4 c_b4 (fun v w' => R (.returned v) w') w) : Calls Try.prog 31 #[.pointer (some d1), .int .i64 f2, .int .i64 off3, .slice b4 l_b4 c_b4] w R :=
  callOf Try.func31 (args := [.pointer (some d1), .int .i64 f2, .int .i64 off3, .slice b4 l_b4 c_b4]) (Eq.mpr (sh31_eq d1 f2 off3 b4 l_b4 c_b4 _ w) h)

/-- bramble/brambleref18.Write -/
def sh32 (d1 : Option Addr) (l_d1 : Nat) (c_d1 : Nat) (d2 : Int) (d3 : Bool) (d4 : Int) (f5 : Int) (off6 : Int) (b7 : Option Addr) (l_b7 : Nat) (c_b7 : Nat) (K : Value → World → Prop) (w : World) : Prop :=
  let p8 : Nat := w.heap.size; let w9 : World := w.alloc (.cells #[.slice d1 l_d1 c_d1, .int .i64 d2, .bool d3, .int .i64 d4] 26); 
  let p10 : Nat := w9.heap.size; let w11 : World := w9.alloc (.cells #[.slice none 0 0, .int .i64 0, .bool false, .int .i64 0] 26); 
  let K29 : Bool → World → Prop := fun b27 w28 =>
      cond b27
        (∃ (d30 : Option Addr), ∃ (l_d30 : Nat), ∃ (c_d30 : Nat), ∃ (d31 : Int), ∃ (d32 : Bool), ∃ (d33 : Int), w28.cell? (⟨p8, 0, none⟩ : Addr) = some (.slice d30 l_d30 c_d30) ∧ w28.cell? (⟨p8, 1, none⟩ : Addr) = some (.int .i64 d31) ∧ w28.cell? (⟨p8, 2, none⟩ : Addr) = some (.bool d32) ∧ w28.cell? (⟨p8, 3, none⟩ : Addr) = some (.int .i64 d33) ∧ 
        wrN w28 (⟨p10, 0, none⟩ : Addr) 4 ∧ let w34 : World := setN (⟨p10, 0, none⟩ : Addr) 0 [.slice d30 l_d30 c_d30, .int .i64 d31, .bool d32, .int .i64 d33] w28; 
        ∃ (a87 : Option Addr), ∃ (l_a87 : Nat), ∃ (c_a87 : Nat), ∃ (n88 : Int), ∃ (b89 : Bool), ∃ (n90 : Int), w34.cell? (⟨p10, 0, none⟩ : Addr) = some (.slice a87 l_a87 c_a87) ∧ w34.cell? (⟨p10, 1, none⟩ : Addr) = some (.int .i64 n88) ∧ w34.cell? (⟨p10, 2, none⟩ : Addr) = some (.bool b89) ∧ w34.cell? (⟨p10, 3, none⟩ : Addr) = some (.int .i64 n90) ∧ 
        K (.tuple #[.agg #[.slice a87 l_a87 c_a87, .int .i64 n88, .bool b89, .int .i64 n90], .int .i64 1]) w34)
        (cond (decide (((l_b7 : Nat) : Int) > (8 : Int)))
          (∃ (d35 : Option Addr), ∃ (l_d35 : Nat), ∃ (c_d35 : Nat), ∃ (d36 : Int), ∃ (d37 : Bool), ∃ (d38 : Int), w28.cell? (⟨p8, 0, none⟩ : Addr) = some (.slice d35 l_d35 c_d35) ∧ w28.cell? (⟨p8, 1, none⟩ : Addr) = some (.int .i64 d36) ∧ w28.cell? (⟨p8, 2, none⟩ : Addr) = some (.bool d37) ∧ w28.cell? (⟨p8, 3, none⟩ : Addr) = some (.int .i64 d38) ∧ 
          wrN w28 (⟨p10, 0, none⟩ : Addr) 4 ∧ let w39 : World := setN (⟨p10, 0, none⟩ : Addr) 0 [.slice d35 l_d35 c_d35, .int .i64 d36, .bool d37, .int .i64 d38] w28; 
          ∃ (a91 : Option Addr), ∃ (l_a91 : Nat), ∃ (c_a91 : Nat), ∃ (n92 : Int), ∃ (b93 : Bool), ∃ (n94 : Int), w39.cell? (⟨p10, 0, none⟩ : Addr) = some (.slice a91 l_a91 c_a91) ∧ w39.cell? (⟨p10, 1, none⟩ : Addr) = some (.int .i64 n92) ∧ w39.cell? (⟨p10, 2, none⟩ : Addr) = some (.bool b93) ∧ w39.cell? (⟨p10, 3, none⟩ : Addr) = some (.int .i64 n94) ∧ 
          K (.tuple #[.agg #[.slice a91 l_a91 c_a91, .int .i64 n92, .bool b93, .int .i64 n94], .int .i64 3]) w39)
          (cond (decide ((IntKind.i64.wrap (off6 + ((l_b7 : Nat) : Int))) > (65536 : Int)))
            (∃ (d40 : Option Addr), ∃ (l_d40 : Nat), ∃ (c_d40 : Nat), ∃ (d41 : Int), ∃ (d42 : Bool), ∃ (d43 : Int), w28.cell? (⟨p8, 0, none⟩ : Addr) = some (.slice d40 l_d40 c_d40) ∧ w28.cell? (⟨p8, 1, none⟩ : Addr) = some (.int .i64 d41) ∧ w28.cell? (⟨p8, 2, none⟩ : Addr) = some (.bool d42) ∧ w28.cell? (⟨p8, 3, none⟩ : Addr) = some (.int .i64 d43) ∧ 
            wrN w28 (⟨p10, 0, none⟩ : Addr) 4 ∧ let w44 : World := setN (⟨p10, 0, none⟩ : Addr) 0 [.slice d40 l_d40 c_d40, .int .i64 d41, .bool d42, .int .i64 d43] w28; 
            ∃ (a95 : Option Addr), ∃ (l_a95 : Nat), ∃ (c_a95 : Nat), ∃ (n96 : Int), ∃ (b97 : Bool), ∃ (n98 : Int), w44.cell? (⟨p10, 0, none⟩ : Addr) = some (.slice a95 l_a95 c_a95) ∧ w44.cell? (⟨p10, 1, none⟩ : Addr) = some (.int .i64 n96) ∧ w44.cell? (⟨p10, 2, none⟩ : Addr) = some (.bool b97) ∧ w44.cell? (⟨p10, 3, none⟩ : Addr) = some (.int .i64 n98) ∧ 
            K (.tuple #[.agg #[.slice a95 l_a95 c_a95, .int .i64 n96, .bool b97, .int .i64 n98], .int .i64 181]) w44)
            (∃ (d45 : Option Addr), ∃ (l_d45 : Nat), ∃ (c_d45 : Nat), ∃ (d46 : Int), ∃ (d47 : Bool), ∃ (d48 : Int), w28.cell? (⟨p8, 0, none⟩ : Addr) = some (.slice d45 l_d45 c_d45) ∧ w28.cell? (⟨p8, 1, none⟩ : Addr) = some (.int .i64 d46) ∧ w28.cell? (⟨p8, 2, none⟩ : Addr) = some (.bool d47) ∧ w28.cell? (⟨p8, 3, none⟩ : Addr) = some (.int .i64 d48) ∧ 
            Calls Try.prog 66 #[.agg #[.slice d45 l_d45 c_d45, .int .i64 d46, .bool d47, .int .i64 d48]] w28 (fun e49 w50 => ∃ (b51 : Bool), e49 = .returned (.bool b51) ∧ 
            cond b51
              (∃ (d52 : Option Addr), ∃ (l_d52 : Nat), ∃ (c_d52 : Nat), ∃ (d53 : Int), ∃ (d54 : Bool), ∃ (d55 : Int), w50.cell? (⟨p8, 0, none⟩ : Addr) = some (.slice d52 l_d52 c_d52) ∧ w50.cell? (⟨p8, 1, none⟩ : Addr) = some (.int .i64 d53) ∧ w50.cell? (⟨p8, 2, none⟩ : Addr) = some (.bool d54) ∧ w50.cell? (⟨p8, 3, none⟩ : Addr) = some (.int .i64 d55) ∧ 
              wrN w50 (⟨p10, 0, none⟩ : Addr) 4 ∧ let w56 : World := setN (⟨p10, 0, none⟩ : Addr) 0 [.slice d52 l_d52 c_d52, .int .i64 d53, .bool d54, .int .i64 d55] w50; 
              ∃ (a99 : Option Addr), ∃ (l_a99 : Nat), ∃ (c_a99 : Nat), ∃ (n100 : Int), ∃ (b101 : Bool), ∃ (n102 : Int), w56.cell? (⟨p10, 0, none⟩ : Addr) = some (.slice a99 l_a99 c_a99) ∧ w56.cell? (⟨p10, 1, none⟩ : Addr) = some (.int .i64 n100) ∧ w56.cell? (⟨p10, 2, none⟩ : Addr) = some (.bool b101) ∧ w56.cell? (⟨p10, 3, none⟩ : Addr) = some (.int .i64 n102) ∧ 
              K (.tuple #[.agg #[.slice a99 l_a99 c_a99, .int .i64 n100, .bool b101, .int .i64 n102], .int .i64 180]) w56)
              (∃ (d57 : Option Addr), ∃ (l_d57 : Nat), ∃ (c_d57 : Nat), ∃ (d58 : Int), ∃ (d59 : Bool), ∃ (d60 : Int), w50.cell? (⟨p8, 0, none⟩ : Addr) = some (.slice d57 l_d57 c_d57) ∧ w50.cell? (⟨p8, 1, none⟩ : Addr) = some (.int .i64 d58) ∧ w50.cell? (⟨p8, 2, none⟩ : Addr) = some (.bool d59) ∧ w50.cell? (⟨p8, 3, none⟩ : Addr) = some (.int .i64 d60) ∧ 
              Calls Try.prog 65 #[.agg #[.slice d57 l_d57 c_d57, .int .i64 d58, .bool d59, .int .i64 d60]] w50 (fun e61 w62 => ∃ (s63 : ByteArray), ∃ (s64 : ByteArray), ∃ (s65 : ByteArray), e61 = .returned (.agg #[.string s63, .string s64, .string s65]) ∧ 
              RunWp Try.prog (Instr.index 77 (.agg #[.string s63, .string s64, .string s65]) (.int .i64 f5)) (fun v66 w67 => w67 = w62 ∧ ∃ (s68 : ByteArray), v66 = .string s68 ∧ 
              let w69 : World := w62.drew; 
              0 ≤ off6 ∧ off6 ≤ (s68.size : Nat) ∧ 
              RunWp Try.prog (convert 36 9 (.slice b7 l_b7 c_b7)) (fun v70 w71 => w71 = w69 ∧ ∃ (s72 : ByteArray), v70 = .string s72 ∧ 
              (((s68.extract 0 off6.toNat).size + s72.size : Nat) : Int) ≤ 9223372036854775807 ∧ 
              let K75 : ByteArray → World → Prop := fun s73 w74 =>
                  ∃ (d76 : Option Addr), ∃ (l_d76 : Nat), ∃ (c_d76 : Nat), ∃ (d77 : Int), ∃ (d78 : Bool), ∃ (d79 : Int), w74.cell? (⟨p8, 0, none⟩ : Addr) = some (.slice d76 l_d76 c_d76) ∧ w74.cell? (⟨p8, 1, none⟩ : Addr) = some (.int .i64 d77) ∧ w74.cell? (⟨p8, 2, none⟩ : Addr) = some (.bool d78) ∧ w74.cell? (⟨p8, 3, none⟩ : Addr) = some (.int .i64 d79) ∧ 
                  Calls Try.prog 75 #[.agg #[.slice d76 l_d76 c_d76, .int .i64 d77, .bool d78, .int .i64 d79], .int .i64 f5, .string s73] w74 (fun e80 w81 => ∃ (a82 : Option Addr), ∃ (l_a82 : Nat), ∃ (c_a82 : Nat), ∃ (n83 : Int), ∃ (b84 : Bool), ∃ (n85 : Int), e80 = .returned (.agg #[.slice a82 l_a82 c_a82, .int .i64 n83, .bool b84, .int .i64 n85]) ∧ 
                  wrN w81 (⟨p10, 0, none⟩ : Addr) 4 ∧ let w86 : World := setN (⟨p10, 0, none⟩ : Addr) 0 [.slice a82 l_a82 c_a82, .int .i64 n83, .bool b84, .int .i64 n85] w81; 
                  ∃ (a103 : Option Addr), ∃ (l_a103 : Nat), ∃ (c_a103 : Nat), ∃ (n104 : Int), ∃ (b105 : Bool), ∃ (n106 : Int), w86.cell? (⟨p10, 0, none⟩ : Addr) = some (.slice a103 l_a103 c_a103) ∧ w86.cell? (⟨p10, 1, none⟩ : Addr) = some (.int .i64 n104) ∧ w86.cell? (⟨p10, 2, none⟩ : Addr) = some (.bool b105) ∧ w86.cell? (⟨p10, 3, none⟩ : Addr) = some (.int .i64 n106) ∧ 
                  K (.tuple #[.agg #[.slice a103 l_a103 c_a103, .int .i64 n104, .bool b105, .int .i64 n106], .int .i64 0]) w86)
              cond (decide (((((s68.extract 0 off6.toNat) ++ s72).size : Nat) : Int) < ((s68.size : Nat) : Int)))
                (0 ≤ ((((s68.extract 0 off6.toNat) ++ s72).size : Nat) : Int) ∧ ((((s68.extract 0 off6.toNat) ++ s72).size : Nat) : Int) ≤ (s68.size : Nat) ∧ 
                ((((s68.extract 0 off6.toNat) ++ s72).size + (s68.extract (((((s68.extract 0 off6.toNat) ++ s72).size : Nat) : Int).toNat) s68.size).size : Nat) : Int) ≤ 9223372036854775807 ∧ 
                K75 (((s68.extract 0 off6.toNat) ++ s72) ++ (s68.extract (((((s68.extract 0 off6.toNat) ++ s72).size : Nat) : Int).toNat) s68.size)) w69)
                (K75 ((s68.extract 0 off6.toNat) ++ s72) w69)) w69) w62))))))
  Calls Try.prog 74 #[.int .i64 f5] w11 (fun e12 w13 => ∃ (b14 : Bool), e12 = .returned (.bool b14) ∧ 
  cond (!b14)
    (K29 true w13)
    (cond (decide (off6 < (0 : Int)))
      (K29 true w13)
      (∃ (d15 : Option Addr), ∃ (l_d15 : Nat), ∃ (c_d15 : Nat), ∃ (d16 : Int), ∃ (d17 : Bool), ∃ (d18 : Int), w13.cell? (⟨p8, 0, none⟩ : Addr) = some (.slice d15 l_d15 c_d15) ∧ w13.cell? (⟨p8, 1, none⟩ : Addr) = some (.int .i64 d16) ∧ w13.cell? (⟨p8, 2, none⟩ : Addr) = some (.bool d17) ∧ w13.cell? (⟨p8, 3, none⟩ : Addr) = some (.int .i64 d18) ∧ 
      Calls Try.prog 65 #[.agg #[.slice d15 l_d15 c_d15, .int .i64 d16, .bool d17, .int .i64 d18]] w13 (fun e19 w20 => ∃ (s21 : ByteArray), ∃ (s22 : ByteArray), ∃ (s23 : ByteArray), e19 = .returned (.agg #[.string s21, .string s22, .string s23]) ∧ 
      RunWp Try.prog (Instr.index 77 (.agg #[.string s21, .string s22, .string s23]) (.int .i64 f5)) (fun v24 w25 => w25 = w20 ∧ ∃ (s26 : ByteArray), v24 = .string s26 ∧ 
      K29 (decide (off6 > ((s26.size : Nat) : Int))) w20) w20))))
theorem sh32_eq (d1 : Option Addr) (l_d1 : Nat) (c_d1 : Nat) (d2 : Int) (d3 : Bool) (d4 : Int) (f5 : Int) (off6 : Int) (b7 : Option Addr) (l_b7 : Nat) (c_b7 : Nat) (K : Value → World → Prop) (w : World) : denF X Try.f32 [.agg #[.slice d1 l_d1 c_d1, .int .i64 d2, .bool d3, .int .i64 d4], .int .i64 f5, .int .i64 off6, .slice b7 l_b7 c_b7] K w = sh32 d1 l_d1 c_d1 d2 d3 d4 f5 off6 b7 l_b7 c_b7 K w := by kernel_rfl
theorem c32 {d1 : Option Addr} {l_d1 : Nat} {c_d1 : Nat} {d2 : Int} {d3 : Bool} {d4 : Int} {f5 : Int} {off6 : Int} {b7 : Option Addr} {l_b7 : Nat} {c_b7 : Nat} {w : World} {R : Ending → World → Prop} (h : sh32 d1 l_d1 c_d1 d2 d3 d4 f5 off6 b7 l_b7 c_b7 (fun v w' => R (.returned v) w') w) : Calls Try.prog 32 #[.agg #[.slice d1 l_d1 c_d1, .int .i64 d2, .bool d3, .int .i64 d4], .int .i64 f5, .int .i64 off6, .slice b7 l_b7 c_b7] w R :=
  callOf Try.func32 (args := [.agg #[.slice d1 l_d1 c_d1, .int .i64 d2, .bool d3, .int .i64 d4], .int .i64 f5, .int .i64 off6, .slice b7 l_b7 c_b7]) (Eq.mpr (sh32_eq d1 l_d1 c_d1 d2 d3 d4 f5 off6 b7 l_b7 c_b7 _ w) h)

/-- bramble/disk.Load -/
def sh33 (list1 : Option Addr) (l_list1 : Nat) (c_list1 : Nat) (K : Value → World → Prop) (w : World) : Prop :=
  cond (decide (((l_list1 : Nat) : Int) > (3 : Int)))
    (K (.tuple #[.pointer none, .int .i64 1]) w)
    (Calls Try.prog 53 #[] w (fun e2 w3 => ∃ (p4 : Option Addr), e2 = .returned (.pointer p4) ∧ 
    ∃ (I9 : List Value → World → Prop) (μ10 : List Value → World → Nat), I9 [.pointer none, .int .i64 0, .int .i64 0] w3 ∧ ∀ (w8 : World) (p5 : Option Addr) (n6 : Int) (n7 : Int), I9 [.pointer p5, .int .i64 n6, .int .i64 n7] w8 → 
    cond (decide (n7 < ((l_list1 : Nat) : Int)))
      (∃ q11 : Addr, list1 = some q11 ∧ 0 ≤ n7 ∧ n7 < (l_list1 : Nat) ∧ 
      ∃ (a12 : Option Addr), ∃ (l_a12 : Nat), ∃ (c_a12 : Nat), w8.cell? (q11.add (n7.toNat * 1)) = some (.slice a12 l_a12 c_a12) ∧ 
      cond (decide (((l_a12 : Nat) : Int) > (65536 : Int)))
        (K (.tuple #[.pointer none, .int .i64 181]) w8)
        (let w13 : World := w8.drew; 
        optP p4 fun q14 => 
        Calls Try.prog 71 #[.slice a12 l_a12 c_a12] w13 (fun e15 w16 => ∃ (a17 : Option Addr), ∃ (l_a17 : Nat), ∃ (c_a17 : Nat), e15 = .returned (.slice a17 l_a17 c_a17) ∧ 
        0 ≤ n7 ∧ n7 < 3 ∧ 
        wr w16 ((q14.add 3).add (n7.toNat * 1)) ∧ let w18 : World := w16.setCell ((q14.add 3).add (n7.toNat * 1)) (.slice a17 l_a17 c_a17); 
        I9 [.pointer p5, .int .i64 n6, .int .i64 (IntKind.i64.wrap (n7 + (1 : Int)))] w18 ∧ μ10 [.pointer p5, .int .i64 n6, .int .i64 (IntKind.i64.wrap (n7 + (1 : Int)))] w18 < μ10 [.pointer p5, .int .i64 n6, .int .i64 n7] w8)))
      (optP p4 fun q19 => 
      ∃ (now20 : Option Addr), ∃ (l_now20 : Nat), ∃ (c_now20 : Nat), ∃ (now21 : Option Addr), ∃ (l_now21 : Nat), ∃ (c_now21 : Nat), ∃ (now22 : Option Addr), ∃ (l_now22 : Nat), ∃ (c_now22 : Nat), w8.cell? (q19.add 3) = some (.slice now20 l_now20 c_now20) ∧ w8.cell? (q19.add 4) = some (.slice now21 l_now21 c_now21) ∧ w8.cell? (q19.add 5) = some (.slice now22 l_now22 c_now22) ∧ 
      optP p4 fun q23 => 
      wrN w8 q23 3 ∧ let w24 : World := setN q23 0 [.slice now20 l_now20 c_now20, .slice now21 l_now21 c_now21, .slice now22 l_now22 c_now22] w8; 
      K (.tuple #[.pointer p4, .int .i64 0]) w24)))
theorem sh33_eq (list1 : Option Addr) (l_list1 : Nat) (c_list1 : Nat) (K : Value → World → Prop) (w : World) : denF X Try.f33 [.slice list1 l_list1 c_list1] K w = sh33 list1 l_list1 c_list1 K w := by kernel_rfl
theorem c33 {list1 : Option Addr} {l_list1 : Nat} {c_list1 : Nat} {w : World} {R : Ending → World → Prop} (h : sh33 list1 l_list1 c_list1 (fun v w' => R (.returned v) w') w) : Calls Try.prog 33 #[.slice list1 l_list1 c_list1] w R :=
  callOf Try.func33 (args := [.slice list1 l_list1 c_list1]) (Eq.mpr (sh33_eq list1 l_list1 c_list1 _ w) h)

/-- (*bramble/disk.Disk).Size -/
def sh34 (d1 : Addr) (f2 : Int) (K : Value → World → Prop) (w : World) : Prop :=
  Calls Try.prog 29 #[.pointer (some d1), .int .i64 f2] w (fun e3 w4 => ∃ (a5 : Option Addr), ∃ (l_a5 : Nat), ∃ (c_a5 : Nat), e3 = .returned (.slice a5 l_a5 c_a5) ∧ 
  K (.int .i64 ((l_a5 : Nat) : Int)) w4)
theorem sh34_eq (d1 : Addr) (f2 : Int) (K : Value → World → Prop) (w : World) : denF X Try.f34 [.pointer (some d1), .int .i64 f2] K w = sh34 d1 f2 K w := by kernel_rfl
theorem c34 {d1 : Addr} {f2 : Int} {w : World} {R : Ending → World → Prop} (h : sh34 d1 f2 (fun v w' => R (.returned v) w') w) : Calls Try.prog 34 #[.pointer (some d1), .int .i64 f2] w R :=
  callOf Try.func34 (args := [.pointer (some d1), .int .i64 f2]) (Eq.mpr (sh34_eq d1 f2 _ w) h)

/-- (*bramble/disk.Disk).Cut -/
def sh35 (d1 : Addr) (f2 : Int) (n3 : Int) (K : Value → World → Prop) (w : World) : Prop :=
  Calls Try.prog 70 #[.pointer (some d1), .int .i64 f2, .int .i64 n3] w (fun e4 w5 => ∃ (b6 : Bool), e4 = .returned (.bool b6) ∧ 
  cond (!b6)
    (K (.int .i64 1) w5)
    (Calls Try.prog 73 #[.pointer (some d1), .agg #[.int .i64 f2, .int .i64 n3, .slice none 0 0, .bool true]] w5 (fun e7 w8 => ∃ (n9 : Int), e7 = .returned (.int .i64 n9) ∧ 
    K (.int .i64 n9) w8)))
theorem sh35_eq (d1 : Addr) (f2 : Int) (n3 : Int) (K : Value → World → Prop) (w : World) : denF X Try.f35 [.pointer (some d1), .int .i64 f2, .int .i64 n3] K w = sh35 d1 f2 n3 K w := by kernel_rfl
theorem c35 {d1 : Addr} {f2 : Int} {n3 : Int} {w : World} {R : Ending → World → Prop} (h : sh35 d1 f2 n3 (fun v w' => R (.returned v) w') w) : Calls Try.prog 35 #[.pointer (some d1), .int .i64 f2, .int .i64 n3] w R :=
  callOf Try.func35 (args := [.pointer (some d1), .int .i64 f2, .int .i64 n3]) (Eq.mpr (sh35_eq d1 f2 n3 _ w) h)

/-- bramble/brambleref18.Load -/
def sh44 (files1 : Option Addr) (l_files1 : Nat) (c_files1 : Nat) (K : Value → World → Prop) (w : World) : Prop :=
  let p2 : Nat := w.heap.size; let w3 : World := w.alloc (.cells #[.slice none 0 0, .int .i64 0, .bool false, .int .i64 0] 26); 
  cond (decide (((l_files1 : Nat) : Int) > (3 : Int)))
    (wrN w3 (⟨p2, 0, none⟩ : Addr) 4 ∧ let w4 : World := setN (⟨p2, 0, none⟩ : Addr) 0 [.slice none 0 0, .int .i64 0, .bool false, .int .i64 0] w3; 
    ∃ (a36 : Option Addr), ∃ (l_a36 : Nat), ∃ (c_a36 : Nat), ∃ (n37 : Int), ∃ (b38 : Bool), ∃ (n39 : Int), w4.cell? (⟨p2, 0, none⟩ : Addr) = some (.slice a36 l_a36 c_a36) ∧ w4.cell? (⟨p2, 1, none⟩ : Addr) = some (.int .i64 n37) ∧ w4.cell? (⟨p2, 2, none⟩ : Addr) = some (.bool b38) ∧ w4.cell? (⟨p2, 3, none⟩ : Addr) = some (.int .i64 n39) ∧ 
    K (.tuple #[.agg #[.slice a36 l_a36 c_a36, .int .i64 n37, .bool b38, .int .i64 n39], .int .i64 1]) w4)
    (Calls Try.prog 63 #[] w3 (fun e5 w6 => ∃ (a7 : Option Addr), ∃ (l_a7 : Nat), ∃ (c_a7 : Nat), ∃ (n8 : Int), ∃ (b9 : Bool), ∃ (n10 : Int), e5 = .returned (.agg #[.slice a7 l_a7 c_a7, .int .i64 n8, .bool b9, .int .i64 n10]) ∧ 
    let p11 : Nat := w6.heap.size; let w12 : World := w6.alloc (.cells #[.slice none 0 0, .int .i64 0, .bool false, .int .i64 0] 26); 
    wrN w12 (⟨p11, 0, none⟩ : Addr) 4 ∧ let w13 : World := setN (⟨p11, 0, none⟩ : Addr) 0 [.slice a7 l_a7 c_a7, .int .i64 n8, .bool b9, .int .i64 n10] w12; 
    ∃ (I17 : List Value → World → Prop) (μ18 : List Value → World → Nat), I17 [.int .i64 0, .int .i64 0] w13 ∧ ∀ (w16 : World) (n14 : Int) (i15 : Int), I17 [.int .i64 n14, .int .i64 i15] w16 → 
    cond (decide (i15 < ((l_files1 : Nat) : Int)))
      (∃ q19 : Addr, files1 = some q19 ∧ 0 ≤ i15 ∧ i15 < (l_files1 : Nat) ∧ 
      ∃ (a20 : Option Addr), ∃ (l_a20 : Nat), ∃ (c_a20 : Nat), w16.cell? (q19.add (i15.toNat * 1)) = some (.slice a20 l_a20 c_a20) ∧ 
      cond (decide (((l_a20 : Nat) : Int) > (65536 : Int)))
        (wrN w16 (⟨p2, 0, none⟩ : Addr) 4 ∧ let w21 : World := setN (⟨p2, 0, none⟩ : Addr) 0 [.slice none 0 0, .int .i64 0, .bool false, .int .i64 0] w16; 
        ∃ (a40 : Option Addr), ∃ (l_a40 : Nat), ∃ (c_a40 : Nat), ∃ (n41 : Int), ∃ (b42 : Bool), ∃ (n43 : Int), w21.cell? (⟨p2, 0, none⟩ : Addr) = some (.slice a40 l_a40 c_a40) ∧ w21.cell? (⟨p2, 1, none⟩ : Addr) = some (.int .i64 n41) ∧ w21.cell? (⟨p2, 2, none⟩ : Addr) = some (.bool b42) ∧ w21.cell? (⟨p2, 3, none⟩ : Addr) = some (.int .i64 n43) ∧ 
        K (.tuple #[.agg #[.slice a40 l_a40 c_a40, .int .i64 n41, .bool b42, .int .i64 n43], .int .i64 181]) w21)
        (let w22 : World := w16.drew; 
        ∃ (States23 : Option Addr), ∃ (l_States23 : Nat), ∃ (c_States23 : Nat), w22.cell? (⟨p11, 0, none⟩ : Addr) = some (.slice States23 l_States23 c_States23) ∧ 
        ∃ q24 : Addr, files1 = some q24 ∧ 0 ≤ i15 ∧ i15 < (l_files1 : Nat) ∧ 
        ∃ (a25 : Option Addr), ∃ (l_a25 : Nat), ∃ (c_a25 : Nat), w22.cell? (q24.add (i15.toNat * 1)) = some (.slice a25 l_a25 c_a25) ∧ 
        RunWp Try.prog (convert 36 9 (.slice a25 l_a25 c_a25)) (fun v26 w27 => w27 = w22 ∧ ∃ (s28 : ByteArray), v26 = .string s28 ∧ 
        ∃ q29 : Addr, States23 = some q29 ∧ 0 ≤ (0 : Int) ∧ (0 : Int) < (l_States23 : Nat) ∧ 
        0 ≤ i15 ∧ i15 < 3 ∧ 
        wr w22 (q29.add (i15.toNat * 1)) ∧ let w30 : World := w22.setCell (q29.add (i15.toNat * 1)) (.string s28); 
        I17 [.int .i64 n14, .int .i64 (IntKind.i64.wrap (i15 + (1 : Int)))] w30 ∧ μ18 [.int .i64 n14, .int .i64 (IntKind.i64.wrap (i15 + (1 : Int)))] w30 < μ18 [.int .i64 n14, .int .i64 i15] w16) w22))
      (∃ (d31 : Option Addr), ∃ (l_d31 : Nat), ∃ (c_d31 : Nat), ∃ (d32 : Int), ∃ (d33 : Bool), ∃ (d34 : Int), w16.cell? (⟨p11, 0, none⟩ : Addr) = some (.slice d31 l_d31 c_d31) ∧ w16.cell? (⟨p11, 1, none⟩ : Addr) = some (.int .i64 d32) ∧ w16.cell? (⟨p11, 2, none⟩ : Addr) = some (.bool d33) ∧ w16.cell? (⟨p11, 3, none⟩ : Addr) = some (.int .i64 d34) ∧ 
      wrN w16 (⟨p2, 0, none⟩ : Addr) 4 ∧ let w35 : World := setN (⟨p2, 0, none⟩ : Addr) 0 [.slice d31 l_d31 c_d31, .int .i64 d32, .bool d33, .int .i64 d34] w16; 
      ∃ (a44 : Option Addr), ∃ (l_a44 : Nat), ∃ (c_a44 : Nat), ∃ (n45 : Int), ∃ (b46 : Bool), ∃ (n47 : Int), w35.cell? (⟨p2, 0, none⟩ : Addr) = some (.slice a44 l_a44 c_a44) ∧ w35.cell? (⟨p2, 1, none⟩ : Addr) = some (.int .i64 n45) ∧ w35.cell? (⟨p2, 2, none⟩ : Addr) = some (.bool b46) ∧ w35.cell? (⟨p2, 3, none⟩ : Addr) = some (.int .i64 n47) ∧ 
      K (.tuple #[.agg #[.slice a44 l_a44 c_a44, .int .i64 n45, .bool b46, .int .i64 n47], .int .i64 0]) w35)))
theorem sh44_eq (files1 : Option Addr) (l_files1 : Nat) (c_files1 : Nat) (K : Value → World → Prop) (w : World) : denF X Try.f44 [.slice files1 l_files1 c_files1] K w = sh44 files1 l_files1 c_files1 K w := by kernel_rfl
theorem c44 {files1 : Option Addr} {l_files1 : Nat} {c_files1 : Nat} {w : World} {R : Ending → World → Prop} (h : sh44 files1 l_files1 c_files1 (fun v w' => R (.returned v) w') w) : Calls Try.prog 44 #[.slice files1 l_files1 c_files1] w R :=
  callOf Try.func44 (args := [.slice files1 l_files1 c_files1]) (Eq.mpr (sh44_eq files1 l_files1 c_files1 _ w) h)

/-- (*bramble/disk.Disk).Raw -/
def sh50 (d1 : Addr) (K : Value → World → Prop) (w : World) : Prop :=
  ∃ (raws2 : Int), w.cell? (d1.add 7) = some (.int .i64 raws2) ∧ 
  K (.int .i64 raws2) w
theorem sh50_eq (d1 : Addr) (K : Value → World → Prop) (w : World) : denF X Try.f50 [.pointer (some d1)] K w = sh50 d1 K w := by kernel_rfl
theorem c50 {d1 : Addr} {w : World} {R : Ending → World → Prop} (h : sh50 d1 (fun v w' => R (.returned v) w') w) : Calls Try.prog 50 #[.pointer (some d1)] w R :=
  callOf Try.func50 (args := [.pointer (some d1)]) (Eq.mpr (sh50_eq d1 _ w) h)

/-- bramble/disk.New -/
def sh53 (K : Value → World → Prop) (w : World) : Prop :=
  let p1 : Nat := w.heap.size; let w2 : World := w.alloc (.cells #[.slice none 0 0, .slice none 0 0, .slice none 0 0, .slice none 0 0, .slice none 0 0, .slice none 0 0, .slice none 0 0, .int .i64 0, .bool false, .int .i64 0] 112); 
  K (.pointer (some ⟨p1, 0, none⟩)) w2
theorem sh53_eq (K : Value → World → Prop) (w : World) : denF X Try.f53 [] K w = sh53 K w := by kernel_rfl
theorem c53 {w : World} {R : Ending → World → Prop} (h : sh53  (fun v w' => R (.returned v) w') w) : Calls Try.prog 53 #[] w R :=
  callOf Try.func53 (args := []) (Eq.mpr (sh53_eq  _ w) h)

/-- (*bramble/disk.Disk).Arm -/
def sh54 (d1 : Addr) (n2 : Int) (K : Value → World → Prop) (w : World) : Prop :=
  cond (decide (n2 < (0 : Int)))
    (K (.int .i64 1) w)
    (Calls Try.prog 26 #[.pointer (some d1)] w (fun e3 w4 => ∃ (b5 : Bool), e3 = .returned (.bool b5) ∧ 
    cond b5
      (K (.int .i64 180) w4)
      (wr w4 (d1.add 8) ∧ let w6 : World := w4.setCell (d1.add 8) (.bool true); 
      wr w6 (d1.add 9) ∧ let w7 : World := w6.setCell (d1.add 9) (.int .i64 n2); 
      K (.int .i64 0) w7)))
theorem sh54_eq (d1 : Addr) (n2 : Int) (K : Value → World → Prop) (w : World) : denF X Try.f54 [.pointer (some d1), .int .i64 n2] K w = sh54 d1 n2 K w := by kernel_rfl
theorem c54 {d1 : Addr} {n2 : Int} {w : World} {R : Ending → World → Prop} (h : sh54 d1 n2 (fun v w' => R (.returned v) w') w) : Calls Try.prog 54 #[.pointer (some d1), .int .i64 n2] w R :=
  callOf Try.func54 (args := [.pointer (some d1), .int .i64 n2]) (Eq.mpr (sh54_eq d1 n2 _ w) h)

/-- bramble/brambleref18.New -/
def sh63 (K : Value → World → Prop) (w : World) : Prop :=
  let p1 : Nat := w.heap.size; let w2 : World := w.alloc (.cells #[.slice none 0 0, .int .i64 0, .bool false, .int .i64 0] 26); 
  RunWp Try.prog (Instr.makeSlice 24 (.int .i64 1) (.int .i64 1)) (fun v3 w4 => ∃ (a5 : Option Addr), ∃ (l_a5 : Nat), ∃ (c_a5 : Nat), v3 = .slice a5 l_a5 c_a5 ∧ 
  wrN w4 (⟨p1, 0, none⟩ : Addr) 4 ∧ let w6 : World := setN (⟨p1, 0, none⟩ : Addr) 0 [.slice a5 l_a5 c_a5, .int .i64 0, .bool false, .int .i64 0] w4; 
  ∃ (a7 : Option Addr), ∃ (l_a7 : Nat), ∃ (c_a7 : Nat), ∃ (n8 : Int), ∃ (b9 : Bool), ∃ (n10 : Int), w6.cell? (⟨p1, 0, none⟩ : Addr) = some (.slice a7 l_a7 c_a7) ∧ w6.cell? (⟨p1, 1, none⟩ : Addr) = some (.int .i64 n8) ∧ w6.cell? (⟨p1, 2, none⟩ : Addr) = some (.bool b9) ∧ w6.cell? (⟨p1, 3, none⟩ : Addr) = some (.int .i64 n10) ∧ 
  K (.agg #[.slice a7 l_a7 c_a7, .int .i64 n8, .bool b9, .int .i64 n10]) w6) w2
theorem sh63_eq (K : Value → World → Prop) (w : World) : denF X Try.f63 [] K w = sh63 K w := by kernel_rfl
theorem c63 {w : World} {R : Ending → World → Prop} (h : sh63  (fun v w' => R (.returned v) w') w) : Calls Try.prog 63 #[] w R :=
  callOf Try.func63 (args := []) (Eq.mpr (sh63_eq  _ w) h)

/-- (bramble/disk.files).done -/
def sh64 (x1 : Option Addr) (l_x1 : Nat) (c_x1 : Nat) (x2 : Option Addr) (l_x2 : Nat) (c_x2 : Nat) (x3 : Option Addr) (l_x3 : Nat) (c_x3 : Nat) (w4 : Int) (w5 : Int) (w6 : Option Addr) (l_w6 : Nat) (c_w6 : Nat) (w7 : Bool) (K : Value → World → Prop) (w : World) : Prop :=
  let p8 : Nat := w.heap.size; let w9 : World := w.alloc (.cells #[.slice x1 l_x1 c_x1, .slice x2 l_x2 c_x2, .slice x3 l_x3 c_x3] 109); 
  let p10 : Nat := w9.heap.size; let w11 : World := w9.alloc (.cells #[.int .i64 w4, .int .i64 w5, .slice w6 l_w6 c_w6, .bool w7] 114); 
  let p12 : Nat := w11.heap.size; let w13 : World := w11.alloc (.cells #[.slice none 0 0, .slice none 0 0, .slice none 0 0] 109); 
  ∃ (file14 : Int), w13.cell? (⟨p10, 0, none⟩ : Addr) = some (.int .i64 file14) ∧ 
  0 ≤ file14 ∧ file14 < 3 ∧ 
  ∃ (a15 : Option Addr), ∃ (l_a15 : Nat), ∃ (c_a15 : Nat), w13.cell? ((⟨p8, 0, none⟩ : Addr).add (file14.toNat * 1)) = some (.slice a15 l_a15 c_a15) ∧ 
  let w16 : World := w13.drew; 
  ∃ (at17 : Int), w16.cell? (⟨p10, 1, none⟩ : Addr) = some (.int .i64 at17) ∧ 
  0 ≤ at17 ∧ at17 ≤ (c_a15 : Nat) ∧ 
  ∃ (b18 : Option Addr), ∃ (l_b18 : Nat), ∃ (c_b18 : Nat), w16.cell? (⟨p10, 2, none⟩ : Addr) = some (.slice b18 l_b18 c_b18) ∧ 
  Calls Try.prog 71 #[.slice (subS a15 c_a15 0 1) (at17.toNat - 0) (c_a15 - 0)] w16 (fun e19 w20 => ∃ (a21 : Option Addr), ∃ (l_a21 : Nat), ∃ (c_a21 : Nat), e19 = .returned (.slice a21 l_a21 c_a21) ∧ 
  (∃ (b22 : Option Addr), ∃ (l_b22 : Nat), ∃ (c_b22 : Nat), w20.cell? (⟨p10, 2, none⟩ : Addr) = some (.slice b22 l_b22 c_b22) ∧ 
    (some (.slice b18 l_b18 c_b18) : Option Value) = some (.slice b22 l_b22 c_b22))
  ∧ (RunWp Try.prog (Builtin.append_ #[36, 36] 36 #[.slice a21 l_a21 c_a21, .slice b18 l_b18 c_b18]) (fun v23 w24 => ∃ (a25 : Option Addr), ∃ (l_a25 : Nat), ∃ (c_a25 : Nat), v23 = .slice a25 l_a25 c_a25 ∧ 
    let K35 : Option Addr → Nat → Nat → World → Prop := fun a33 l_a33 c_a33 w34 =>
        ∃ (file36 : Int), w34.cell? (⟨p10, 0, none⟩ : Addr) = some (.int .i64 file36) ∧ 
        0 ≤ file36 ∧ file36 < 3 ∧ 
        wr w34 ((⟨p8, 0, none⟩ : Addr).add (file36.toNat * 1)) ∧ let w37 : World := w34.setCell ((⟨p8, 0, none⟩ : Addr).add (file36.toNat * 1)) (.slice a33 l_a33 c_a33); 
        ∃ (x38 : Option Addr), ∃ (l_x38 : Nat), ∃ (c_x38 : Nat), ∃ (x39 : Option Addr), ∃ (l_x39 : Nat), ∃ (c_x39 : Nat), ∃ (x40 : Option Addr), ∃ (l_x40 : Nat), ∃ (c_x40 : Nat), w37.cell? (⟨p8, 0, none⟩ : Addr) = some (.slice x38 l_x38 c_x38) ∧ w37.cell? (⟨p8, 1, none⟩ : Addr) = some (.slice x39 l_x39 c_x39) ∧ w37.cell? (⟨p8, 2, none⟩ : Addr) = some (.slice x40 l_x40 c_x40) ∧ 
        wrN w37 (⟨p12, 0, none⟩ : Addr) 3 ∧ let w41 : World := setN (⟨p12, 0, none⟩ : Addr) 0 [.slice x38 l_x38 c_x38, .slice x39 l_x39 c_x39, .slice x40 l_x40 c_x40] w37; 
        ∃ (a42 : Option Addr), ∃ (l_a42 : Nat), ∃ (c_a42 : Nat), ∃ (a43 : Option Addr), ∃ (l_a43 : Nat), ∃ (c_a43 : Nat), ∃ (a44 : Option Addr), ∃ (l_a44 : Nat), ∃ (c_a44 : Nat), w41.cell? (⟨p12, 0, none⟩ : Addr) = some (.slice a42 l_a42 c_a42) ∧ w41.cell? (⟨p12, 1, none⟩ : Addr) = some (.slice a43 l_a43 c_a43) ∧ w41.cell? (⟨p12, 2, none⟩ : Addr) = some (.slice a44 l_a44 c_a44) ∧ 
        K (.agg #[.slice a42 l_a42 c_a42, .slice a43 l_a43 c_a43, .slice a44 l_a44 c_a44]) w41
    let K29 : Bool → World → Prop := fun b27 w28 =>
        cond b27
          (0 ≤ ((l_a25 : Nat) : Int) ∧ ((l_a25 : Nat) : Int) ≤ (l_a15 : Nat) ∧ 
          RunWp Try.prog (Builtin.append_ #[36, 36] 36 #[.slice a25 l_a25 c_a25, .slice (subS a15 c_a15 (((l_a25 : Nat) : Int).toNat) 1) (l_a15 - (((l_a25 : Nat) : Int).toNat)) (c_a15 - (((l_a25 : Nat) : Int).toNat))]) (fun v30 w31 => ∃ (a32 : Option Addr), ∃ (l_a32 : Nat), ∃ (c_a32 : Nat), v30 = .slice a32 l_a32 c_a32 ∧ 
          K35 a32 l_a32 c_a32 w31) w28)
          (K35 a25 l_a25 c_a25 w28)
    ∃ (cut26 : Bool), w24.cell? (⟨p10, 3, none⟩ : Addr) = some (.bool cut26) ∧ 
    cond (!cut26)
      (K29 (decide (((l_a25 : Nat) : Int) < ((l_a15 : Nat) : Int))) w24)
      (K29 false w24)) w20))
theorem sh64_eq (x1 : Option Addr) (l_x1 : Nat) (c_x1 : Nat) (x2 : Option Addr) (l_x2 : Nat) (c_x2 : Nat) (x3 : Option Addr) (l_x3 : Nat) (c_x3 : Nat) (w4 : Int) (w5 : Int) (w6 : Option Addr) (l_w6 : Nat) (c_w6 : Nat) (w7 : Bool) (K : Value → World → Prop) (w : World) : denF X Try.f64 [.agg #[.slice x1 l_x1 c_x1, .slice x2 l_x2 c_x2, .slice x3 l_x3 c_x3], .agg #[.int .i64 w4, .int .i64 w5, .slice w6 l_w6 c_w6, .bool w7]] K w = sh64 x1 l_x1 c_x1 x2 l_x2 c_x2 x3 l_x3 c_x3 w4 w5 w6 l_w6 c_w6 w7 K w := by kernel_rfl
theorem c64 {x1 : Option Addr} {l_x1 : Nat} {c_x1 : Nat} {x2 : Option Addr} {l_x2 : Nat} {c_x2 : Nat} {x3 : Option Addr} {l_x3 : Nat} {c_x3 : Nat} {w4 : Int} {w5 : Int} {w6 : Option Addr} {l_w6 : Nat} {c_w6 : Nat} {w7 : Bool} {w : World} {R : Ending → World → Prop} (h : sh64 x1 l_x1 c_x1 x2 l_x2 c_x2 x3 l_x3 c_x3 w4 w5 w6 l_w6 c_w6 w7 (fun v w' => R (.returned v) w') w) : Calls Try.prog 64 #[.agg #[.slice x1 l_x1 c_x1, .slice x2 l_x2 c_x2, .slice x3 l_x3 c_x3], .agg #[.int .i64 w4, .int .i64 w5, .slice w6 l_w6 c_w6, .bool w7]] w R :=
  callOf Try.func64 (args := [.agg #[.slice x1 l_x1 c_x1, .slice x2 l_x2 c_x2, .slice x3 l_x3 c_x3], .agg #[.int .i64 w4, .int .i64 w5, .slice w6 l_w6 c_w6, .bool w7]]) (Eq.mpr (sh64_eq x1 l_x1 c_x1 x2 l_x2 c_x2 x3 l_x3 c_x3 w4 w5 w6 l_w6 c_w6 w7 _ w) h)

/-- bramble/brambleref18.Now -/
def sh65 (d1 : Option Addr) (l_d1 : Nat) (c_d1 : Nat) (d2 : Int) (d3 : Bool) (d4 : Int) (K : Value → World → Prop) (w : World) : Prop :=
  let p5 : Nat := w.heap.size; let w6 : World := w.alloc (.cells #[.slice d1 l_d1 c_d1, .int .i64 d2, .bool d3, .int .i64 d4] 26); 
  let p7 : Nat := w6.heap.size; let w8 : World := w6.alloc (.cells #[.string ({ data := #[] } : ByteArray), .string ({ data := #[] } : ByteArray), .string ({ data := #[] } : ByteArray)] 77); 
  ∃ (States9 : Option Addr), ∃ (l_States9 : Nat), ∃ (c_States9 : Nat), w8.cell? (⟨p5, 0, none⟩ : Addr) = some (.slice States9 l_States9 c_States9) ∧ 
  ∃ (States10 : Option Addr), ∃ (l_States10 : Nat), ∃ (c_States10 : Nat), w8.cell? (⟨p5, 0, none⟩ : Addr) = some (.slice States10 l_States10 c_States10) ∧ 
  ∃ q11 : Addr, States9 = some q11 ∧ 0 ≤ (IntKind.i64.wrap (((l_States10 : Nat) : Int) - (1 : Int))) ∧ (IntKind.i64.wrap (((l_States10 : Nat) : Int) - (1 : Int))) < (l_States9 : Nat) ∧ 
  ∃ (s12 : ByteArray), ∃ (s13 : ByteArray), ∃ (s14 : ByteArray), w8.cell? (q11.add ((IntKind.i64.wrap (((l_States10 : Nat) : Int) - (1 : Int))).toNat * 3)) = some (.string s12) ∧ w8.cell? ((q11.add ((IntKind.i64.wrap (((l_States10 : Nat) : Int) - (1 : Int))).toNat * 3)).add 1) = some (.string s13) ∧ w8.cell? ((q11.add ((IntKind.i64.wrap (((l_States10 : Nat) : Int) - (1 : Int))).toNat * 3)).add 2) = some (.string s14) ∧ 
  wrN w8 (⟨p7, 0, none⟩ : Addr) 3 ∧ let w15 : World := setN (⟨p7, 0, none⟩ : Addr) 0 [.string s12, .string s13, .string s14] w8; 
  ∃ (s16 : ByteArray), ∃ (s17 : ByteArray), ∃ (s18 : ByteArray), w15.cell? (⟨p7, 0, none⟩ : Addr) = some (.string s16) ∧ w15.cell? (⟨p7, 1, none⟩ : Addr) = some (.string s17) ∧ w15.cell? (⟨p7, 2, none⟩ : Addr) = some (.string s18) ∧ 
  K (.agg #[.string s16, .string s17, .string s18]) w15
theorem sh65_eq (d1 : Option Addr) (l_d1 : Nat) (c_d1 : Nat) (d2 : Int) (d3 : Bool) (d4 : Int) (K : Value → World → Prop) (w : World) : denF X Try.f65 [.agg #[.slice d1 l_d1 c_d1, .int .i64 d2, .bool d3, .int .i64 d4]] K w = sh65 d1 l_d1 c_d1 d2 d3 d4 K w := by kernel_rfl
theorem c65 {d1 : Option Addr} {l_d1 : Nat} {c_d1 : Nat} {d2 : Int} {d3 : Bool} {d4 : Int} {w : World} {R : Ending → World → Prop} (h : sh65 d1 l_d1 c_d1 d2 d3 d4 (fun v w' => R (.returned v) w') w) : Calls Try.prog 65 #[.agg #[.slice d1 l_d1 c_d1, .int .i64 d2, .bool d3, .int .i64 d4]] w R :=
  callOf Try.func65 (args := [.agg #[.slice d1 l_d1 c_d1, .int .i64 d2, .bool d3, .int .i64 d4]]) (Eq.mpr (sh65_eq d1 l_d1 c_d1 d2 d3 d4 _ w) h)

/-- bramble/brambleref18.Dead -/
def sh66 (d1 : Option Addr) (l_d1 : Nat) (c_d1 : Nat) (d2 : Int) (d3 : Bool) (d4 : Int) (K : Value → World → Prop) (w : World) : Prop :=
  let p5 : Nat := w.heap.size; let w6 : World := w.alloc (.cells #[.slice d1 l_d1 c_d1, .int .i64 d2, .bool d3, .int .i64 d4] 26); 
  ∃ (Armed7 : Bool), w6.cell? (⟨p5, 2, none⟩ : Addr) = some (.bool Armed7) ∧ 
  cond Armed7
    (∃ (Left8 : Int), w6.cell? (⟨p5, 3, none⟩ : Addr) = some (.int .i64 Left8) ∧ 
    K (.bool (Left8 == (0 : Int))) w6)
    (K (.bool false) w6)
theorem sh66_eq (d1 : Option Addr) (l_d1 : Nat) (c_d1 : Nat) (d2 : Int) (d3 : Bool) (d4 : Int) (K : Value → World → Prop) (w : World) : denF X Try.f66 [.agg #[.slice d1 l_d1 c_d1, .int .i64 d2, .bool d3, .int .i64 d4]] K w = sh66 d1 l_d1 c_d1 d2 d3 d4 K w := by kernel_rfl
theorem c66 {d1 : Option Addr} {l_d1 : Nat} {c_d1 : Nat} {d2 : Int} {d3 : Bool} {d4 : Int} {w : World} {R : Ending → World → Prop} (h : sh66 d1 l_d1 c_d1 d2 d3 d4 (fun v w' => R (.returned v) w') w) : Calls Try.prog 66 #[.agg #[.slice d1 l_d1 c_d1, .int .i64 d2, .bool d3, .int .i64 d4]] w R :=
  callOf Try.func66 (args := [.agg #[.slice d1 l_d1 c_d1, .int .i64 d2, .bool d3, .int .i64 d4]]) (Eq.mpr (sh66_eq d1 l_d1 c_d1 d2 d3 d4 _ w) h)

/-- bramble/brambleref18.Cut -/
def sh67 (d1 : Option Addr) (l_d1 : Nat) (c_d1 : Nat) (d2 : Int) (d3 : Bool) (d4 : Int) (f5 : Int) (n6 : Int) (K : Value → World → Prop) (w : World) : Prop :=
  let p7 : Nat := w.heap.size; let w8 : World := w.alloc (.cells #[.slice d1 l_d1 c_d1, .int .i64 d2, .bool d3, .int .i64 d4] 26); 
  let p9 : Nat := w8.heap.size; let w10 : World := w8.alloc (.cells #[.slice none 0 0, .int .i64 0, .bool false, .int .i64 0] 26); 
  let K28 : Bool → World → Prop := fun b26 w27 =>
      cond b26
        (∃ (d29 : Option Addr), ∃ (l_d29 : Nat), ∃ (c_d29 : Nat), ∃ (d30 : Int), ∃ (d31 : Bool), ∃ (d32 : Int), w27.cell? (⟨p7, 0, none⟩ : Addr) = some (.slice d29 l_d29 c_d29) ∧ w27.cell? (⟨p7, 1, none⟩ : Addr) = some (.int .i64 d30) ∧ w27.cell? (⟨p7, 2, none⟩ : Addr) = some (.bool d31) ∧ w27.cell? (⟨p7, 3, none⟩ : Addr) = some (.int .i64 d32) ∧ 
        wrN w27 (⟨p9, 0, none⟩ : Addr) 4 ∧ let w33 : World := setN (⟨p9, 0, none⟩ : Addr) 0 [.slice d29 l_d29 c_d29, .int .i64 d30, .bool d31, .int .i64 d32] w27; 
        ∃ (a74 : Option Addr), ∃ (l_a74 : Nat), ∃ (c_a74 : Nat), ∃ (n75 : Int), ∃ (b76 : Bool), ∃ (n77 : Int), w33.cell? (⟨p9, 0, none⟩ : Addr) = some (.slice a74 l_a74 c_a74) ∧ w33.cell? (⟨p9, 1, none⟩ : Addr) = some (.int .i64 n75) ∧ w33.cell? (⟨p9, 2, none⟩ : Addr) = some (.bool b76) ∧ w33.cell? (⟨p9, 3, none⟩ : Addr) = some (.int .i64 n77) ∧ 
        K (.tuple #[.agg #[.slice a74 l_a74 c_a74, .int .i64 n75, .bool b76, .int .i64 n77], .int .i64 1]) w33)
        (∃ (d34 : Option Addr), ∃ (l_d34 : Nat), ∃ (c_d34 : Nat), ∃ (d35 : Int), ∃ (d36 : Bool), ∃ (d37 : Int), w27.cell? (⟨p7, 0, none⟩ : Addr) = some (.slice d34 l_d34 c_d34) ∧ w27.cell? (⟨p7, 1, none⟩ : Addr) = some (.int .i64 d35) ∧ w27.cell? (⟨p7, 2, none⟩ : Addr) = some (.bool d36) ∧ w27.cell? (⟨p7, 3, none⟩ : Addr) = some (.int .i64 d37) ∧ 
        Calls Try.prog 66 #[.agg #[.slice d34 l_d34 c_d34, .int .i64 d35, .bool d36, .int .i64 d37]] w27 (fun e38 w39 => ∃ (b40 : Bool), e38 = .returned (.bool b40) ∧ 
        cond b40
          (∃ (d41 : Option Addr), ∃ (l_d41 : Nat), ∃ (c_d41 : Nat), ∃ (d42 : Int), ∃ (d43 : Bool), ∃ (d44 : Int), w39.cell? (⟨p7, 0, none⟩ : Addr) = some (.slice d41 l_d41 c_d41) ∧ w39.cell? (⟨p7, 1, none⟩ : Addr) = some (.int .i64 d42) ∧ w39.cell? (⟨p7, 2, none⟩ : Addr) = some (.bool d43) ∧ w39.cell? (⟨p7, 3, none⟩ : Addr) = some (.int .i64 d44) ∧ 
          wrN w39 (⟨p9, 0, none⟩ : Addr) 4 ∧ let w45 : World := setN (⟨p9, 0, none⟩ : Addr) 0 [.slice d41 l_d41 c_d41, .int .i64 d42, .bool d43, .int .i64 d44] w39; 
          ∃ (a78 : Option Addr), ∃ (l_a78 : Nat), ∃ (c_a78 : Nat), ∃ (n79 : Int), ∃ (b80 : Bool), ∃ (n81 : Int), w45.cell? (⟨p9, 0, none⟩ : Addr) = some (.slice a78 l_a78 c_a78) ∧ w45.cell? (⟨p9, 1, none⟩ : Addr) = some (.int .i64 n79) ∧ w45.cell? (⟨p9, 2, none⟩ : Addr) = some (.bool b80) ∧ w45.cell? (⟨p9, 3, none⟩ : Addr) = some (.int .i64 n81) ∧ 
          K (.tuple #[.agg #[.slice a78 l_a78 c_a78, .int .i64 n79, .bool b80, .int .i64 n81], .int .i64 180]) w45)
          (let w46 : World := w39.drew; 
          ∃ (d47 : Option Addr), ∃ (l_d47 : Nat), ∃ (c_d47 : Nat), ∃ (d48 : Int), ∃ (d49 : Bool), ∃ (d50 : Int), w46.cell? (⟨p7, 0, none⟩ : Addr) = some (.slice d47 l_d47 c_d47) ∧ w46.cell? (⟨p7, 1, none⟩ : Addr) = some (.int .i64 d48) ∧ w46.cell? (⟨p7, 2, none⟩ : Addr) = some (.bool d49) ∧ w46.cell? (⟨p7, 3, none⟩ : Addr) = some (.int .i64 d50) ∧ 
          ∃ (d51 : Option Addr), ∃ (l_d51 : Nat), ∃ (c_d51 : Nat), ∃ (d52 : Int), ∃ (d53 : Bool), ∃ (d54 : Int), w46.cell? (⟨p7, 0, none⟩ : Addr) = some (.slice d51 l_d51 c_d51) ∧ w46.cell? (⟨p7, 1, none⟩ : Addr) = some (.int .i64 d52) ∧ w46.cell? (⟨p7, 2, none⟩ : Addr) = some (.bool d53) ∧ w46.cell? (⟨p7, 3, none⟩ : Addr) = some (.int .i64 d54) ∧ 
          Calls Try.prog 65 #[.agg #[.slice d51 l_d51 c_d51, .int .i64 d52, .bool d53, .int .i64 d54]] w46 (fun e55 w56 => ∃ (s57 : ByteArray), ∃ (s58 : ByteArray), ∃ (s59 : ByteArray), e55 = .returned (.agg #[.string s57, .string s58, .string s59]) ∧ 
          (∃ (d60 : Option Addr), ∃ (l_d60 : Nat), ∃ (c_d60 : Nat), ∃ (d61 : Int), ∃ (d62 : Bool), ∃ (d63 : Int), w56.cell? (⟨p7, 0, none⟩ : Addr) = some (.slice d60 l_d60 c_d60) ∧ w56.cell? (⟨p7, 1, none⟩ : Addr) = some (.int .i64 d61) ∧ w56.cell? (⟨p7, 2, none⟩ : Addr) = some (.bool d62) ∧ w56.cell? (⟨p7, 3, none⟩ : Addr) = some (.int .i64 d63) ∧ 
            (some (.agg #[.slice d47 l_d47 c_d47, .int .i64 d48, .bool d49, .int .i64 d50]) : Option Value) = some (.agg #[.slice d60 l_d60 c_d60, .int .i64 d61, .bool d62, .int .i64 d63]))
          ∧ (RunWp Try.prog (Instr.index 77 (.agg #[.string s57, .string s58, .string s59]) (.int .i64 f5)) (fun v64 w65 => w65 = w56 ∧ ∃ (s66 : ByteArray), v64 = .string s66 ∧ 
            0 ≤ n6 ∧ n6 ≤ (s66.size : Nat) ∧ 
            Calls Try.prog 75 #[.agg #[.slice d47 l_d47 c_d47, .int .i64 d48, .bool d49, .int .i64 d50], .int .i64 f5, .string (s66.extract 0 n6.toNat)] w56 (fun e67 w68 => ∃ (a69 : Option Addr), ∃ (l_a69 : Nat), ∃ (c_a69 : Nat), ∃ (n70 : Int), ∃ (b71 : Bool), ∃ (n72 : Int), e67 = .returned (.agg #[.slice a69 l_a69 c_a69, .int .i64 n70, .bool b71, .int .i64 n72]) ∧ 
            wrN w68 (⟨p9, 0, none⟩ : Addr) 4 ∧ let w73 : World := setN (⟨p9, 0, none⟩ : Addr) 0 [.slice a69 l_a69 c_a69, .int .i64 n70, .bool b71, .int .i64 n72] w68; 
            ∃ (a82 : Option Addr), ∃ (l_a82 : Nat), ∃ (c_a82 : Nat), ∃ (n83 : Int), ∃ (b84 : Bool), ∃ (n85 : Int), w73.cell? (⟨p9, 0, none⟩ : Addr) = some (.slice a82 l_a82 c_a82) ∧ w73.cell? (⟨p9, 1, none⟩ : Addr) = some (.int .i64 n83) ∧ w73.cell? (⟨p9, 2, none⟩ : Addr) = some (.bool b84) ∧ w73.cell? (⟨p9, 3, none⟩ : Addr) = some (.int .i64 n85) ∧ 
            K (.tuple #[.agg #[.slice a82 l_a82 c_a82, .int .i64 n83, .bool b84, .int .i64 n85], .int .i64 0]) w73)) w56)))))
  Calls Try.prog 74 #[.int .i64 f5] w10 (fun e11 w12 => ∃ (b13 : Bool), e11 = .returned (.bool b13) ∧ 
  cond (!b13)
    (K28 true w12)
    (cond (decide (n6 < (0 : Int)))
      (K28 true w12)
      (∃ (d14 : Option Addr), ∃ (l_d14 : Nat), ∃ (c_d14 : Nat), ∃ (d15 : Int), ∃ (d16 : Bool), ∃ (d17 : Int), w12.cell? (⟨p7, 0, none⟩ : Addr) = some (.slice d14 l_d14 c_d14) ∧ w12.cell? (⟨p7, 1, none⟩ : Addr) = some (.int .i64 d15) ∧ w12.cell? (⟨p7, 2, none⟩ : Addr) = some (.bool d16) ∧ w12.cell? (⟨p7, 3, none⟩ : Addr) = some (.int .i64 d17) ∧ 
      Calls Try.prog 65 #[.agg #[.slice d14 l_d14 c_d14, .int .i64 d15, .bool d16, .int .i64 d17]] w12 (fun e18 w19 => ∃ (s20 : ByteArray), ∃ (s21 : ByteArray), ∃ (s22 : ByteArray), e18 = .returned (.agg #[.string s20, .string s21, .string s22]) ∧ 
      RunWp Try.prog (Instr.index 77 (.agg #[.string s20, .string s21, .string s22]) (.int .i64 f5)) (fun v23 w24 => w24 = w19 ∧ ∃ (s25 : ByteArray), v23 = .string s25 ∧ 
      K28 (decide (n6 > ((s25.size : Nat) : Int))) w19) w19))))
theorem sh67_eq (d1 : Option Addr) (l_d1 : Nat) (c_d1 : Nat) (d2 : Int) (d3 : Bool) (d4 : Int) (f5 : Int) (n6 : Int) (K : Value → World → Prop) (w : World) : denF X Try.f67 [.agg #[.slice d1 l_d1 c_d1, .int .i64 d2, .bool d3, .int .i64 d4], .int .i64 f5, .int .i64 n6] K w = sh67 d1 l_d1 c_d1 d2 d3 d4 f5 n6 K w := by kernel_rfl
theorem c67 {d1 : Option Addr} {l_d1 : Nat} {c_d1 : Nat} {d2 : Int} {d3 : Bool} {d4 : Int} {f5 : Int} {n6 : Int} {w : World} {R : Ending → World → Prop} (h : sh67 d1 l_d1 c_d1 d2 d3 d4 f5 n6 (fun v w' => R (.returned v) w') w) : Calls Try.prog 67 #[.agg #[.slice d1 l_d1 c_d1, .int .i64 d2, .bool d3, .int .i64 d4], .int .i64 f5, .int .i64 n6] w R :=
  callOf Try.func67 (args := [.agg #[.slice d1 l_d1 c_d1, .int .i64 d2, .bool d3, .int .i64 d4], .int .i64 f5, .int .i64 n6]) (Eq.mpr (sh67_eq d1 l_d1 c_d1 d2 d3 d4 f5 n6 _ w) h)

/-- bramble/brambleref18.Sync -/
def sh68 (d1 : Option Addr) (l_d1 : Nat) (c_d1 : Nat) (d2 : Int) (d3 : Bool) (d4 : Int) (K : Value → World → Prop) (w : World) : Prop :=
  let p5 : Nat := w.heap.size; let w6 : World := w.alloc (.cells #[.slice d1 l_d1 c_d1, .int .i64 d2, .bool d3, .int .i64 d4] 26); 
  let p7 : Nat := w6.heap.size; let w8 : World := w6.alloc (.cells #[.slice none 0 0, .int .i64 0, .bool false, .int .i64 0] 26); 
  ∃ (d9 : Option Addr), ∃ (l_d9 : Nat), ∃ (c_d9 : Nat), ∃ (d10 : Int), ∃ (d11 : Bool), ∃ (d12 : Int), w8.cell? (⟨p5, 0, none⟩ : Addr) = some (.slice d9 l_d9 c_d9) ∧ w8.cell? (⟨p5, 1, none⟩ : Addr) = some (.int .i64 d10) ∧ w8.cell? (⟨p5, 2, none⟩ : Addr) = some (.bool d11) ∧ w8.cell? (⟨p5, 3, none⟩ : Addr) = some (.int .i64 d12) ∧ 
  Calls Try.prog 66 #[.agg #[.slice d9 l_d9 c_d9, .int .i64 d10, .bool d11, .int .i64 d12]] w8 (fun e13 w14 => ∃ (b15 : Bool), e13 = .returned (.bool b15) ∧ 
  cond b15
    (∃ (d16 : Option Addr), ∃ (l_d16 : Nat), ∃ (c_d16 : Nat), ∃ (d17 : Int), ∃ (d18 : Bool), ∃ (d19 : Int), w14.cell? (⟨p5, 0, none⟩ : Addr) = some (.slice d16 l_d16 c_d16) ∧ w14.cell? (⟨p5, 1, none⟩ : Addr) = some (.int .i64 d17) ∧ w14.cell? (⟨p5, 2, none⟩ : Addr) = some (.bool d18) ∧ w14.cell? (⟨p5, 3, none⟩ : Addr) = some (.int .i64 d19) ∧ 
    wrN w14 (⟨p7, 0, none⟩ : Addr) 4 ∧ let w20 : World := setN (⟨p7, 0, none⟩ : Addr) 0 [.slice d16 l_d16 c_d16, .int .i64 d17, .bool d18, .int .i64 d19] w14; 
    ∃ (a49 : Option Addr), ∃ (l_a49 : Nat), ∃ (c_a49 : Nat), ∃ (n50 : Int), ∃ (b51 : Bool), ∃ (n52 : Int), w20.cell? (⟨p7, 0, none⟩ : Addr) = some (.slice a49 l_a49 c_a49) ∧ w20.cell? (⟨p7, 1, none⟩ : Addr) = some (.int .i64 n50) ∧ w20.cell? (⟨p7, 2, none⟩ : Addr) = some (.bool b51) ∧ w20.cell? (⟨p7, 3, none⟩ : Addr) = some (.int .i64 n52) ∧ 
    K (.tuple #[.agg #[.slice a49 l_a49 c_a49, .int .i64 n50, .bool b51, .int .i64 n52], .int .i64 180]) w20)
    (∃ (d21 : Option Addr), ∃ (l_d21 : Nat), ∃ (c_d21 : Nat), ∃ (d22 : Int), ∃ (d23 : Bool), ∃ (d24 : Int), w14.cell? (⟨p5, 0, none⟩ : Addr) = some (.slice d21 l_d21 c_d21) ∧ w14.cell? (⟨p5, 1, none⟩ : Addr) = some (.int .i64 d22) ∧ w14.cell? (⟨p5, 2, none⟩ : Addr) = some (.bool d23) ∧ w14.cell? (⟨p5, 3, none⟩ : Addr) = some (.int .i64 d24) ∧ 
    Calls Try.prog 96 #[.agg #[.slice d21 l_d21 c_d21, .int .i64 d22, .bool d23, .int .i64 d24]] w14 (fun e25 w26 => ∃ (a27 : Option Addr), ∃ (l_a27 : Nat), ∃ (c_a27 : Nat), ∃ (n28 : Int), ∃ (b29 : Bool), ∃ (n30 : Int), e25 = .returned (.agg #[.slice a27 l_a27 c_a27, .int .i64 n28, .bool b29, .int .i64 n30]) ∧ 
    wrN w26 (⟨p5, 0, none⟩ : Addr) 4 ∧ let w31 : World := setN (⟨p5, 0, none⟩ : Addr) 0 [.slice a27 l_a27 c_a27, .int .i64 n28, .bool b29, .int .i64 n30] w26; 
    ∃ (d32 : Option Addr), ∃ (l_d32 : Nat), ∃ (c_d32 : Nat), ∃ (d33 : Int), ∃ (d34 : Bool), ∃ (d35 : Int), w31.cell? (⟨p5, 0, none⟩ : Addr) = some (.slice d32 l_d32 c_d32) ∧ w31.cell? (⟨p5, 1, none⟩ : Addr) = some (.int .i64 d33) ∧ w31.cell? (⟨p5, 2, none⟩ : Addr) = some (.bool d34) ∧ w31.cell? (⟨p5, 3, none⟩ : Addr) = some (.int .i64 d35) ∧ 
    Calls Try.prog 65 #[.agg #[.slice d32 l_d32 c_d32, .int .i64 d33, .bool d34, .int .i64 d35]] w31 (fun e36 w37 => ∃ (s38 : ByteArray), ∃ (s39 : ByteArray), ∃ (s40 : ByteArray), e36 = .returned (.agg #[.string s38, .string s39, .string s40]) ∧ 
    let p41 : Nat := w37.heap.size; let w42 : World := w37.alloc (.cells #[.string s38, .string s39, .string s40] 77); 
    wr w42 (⟨p5, 0, none⟩ : Addr) ∧ let w43 : World := w42.setCell (⟨p5, 0, none⟩ : Addr) (.slice (some ⟨p41, 0, none⟩) 1 1); 
    ∃ (d44 : Option Addr), ∃ (l_d44 : Nat), ∃ (c_d44 : Nat), ∃ (d45 : Int), ∃ (d46 : Bool), ∃ (d47 : Int), w43.cell? (⟨p5, 0, none⟩ : Addr) = some (.slice d44 l_d44 c_d44) ∧ w43.cell? (⟨p5, 1, none⟩ : Addr) = some (.int .i64 d45) ∧ w43.cell? (⟨p5, 2, none⟩ : Addr) = some (.bool d46) ∧ w43.cell? (⟨p5, 3, none⟩ : Addr) = some (.int .i64 d47) ∧ 
    wrN w43 (⟨p7, 0, none⟩ : Addr) 4 ∧ let w48 : World := setN (⟨p7, 0, none⟩ : Addr) 0 [.slice d44 l_d44 c_d44, .int .i64 d45, .bool d46, .int .i64 d47] w43; 
    ∃ (a53 : Option Addr), ∃ (l_a53 : Nat), ∃ (c_a53 : Nat), ∃ (n54 : Int), ∃ (b55 : Bool), ∃ (n56 : Int), w48.cell? (⟨p7, 0, none⟩ : Addr) = some (.slice a53 l_a53 c_a53) ∧ w48.cell? (⟨p7, 1, none⟩ : Addr) = some (.int .i64 n54) ∧ w48.cell? (⟨p7, 2, none⟩ : Addr) = some (.bool b55) ∧ w48.cell? (⟨p7, 3, none⟩ : Addr) = some (.int .i64 n56) ∧ 
    K (.tuple #[.agg #[.slice a53 l_a53 c_a53, .int .i64 n54, .bool b55, .int .i64 n56], .int .i64 0]) w48))))
theorem sh68_eq (d1 : Option Addr) (l_d1 : Nat) (c_d1 : Nat) (d2 : Int) (d3 : Bool) (d4 : Int) (K : Value → World → Prop) (w : World) : denF X Try.f68 [.agg #[.slice d1 l_d1 c_d1, .int .i64 d2, .bool d3, .int .i64 d4]] K w = sh68 d1 l_d1 c_d1 d2 d3 d4 K w := by kernel_rfl
theorem c68 {d1 : Option Addr} {l_d1 : Nat} {c_d1 : Nat} {d2 : Int} {d3 : Bool} {d4 : Int} {w : World} {R : Ending → World → Prop} (h : sh68 d1 l_d1 c_d1 d2 d3 d4 (fun v w' => R (.returned v) w') w) : Calls Try.prog 68 #[.agg #[.slice d1 l_d1 c_d1, .int .i64 d2, .bool d3, .int .i64 d4]] w R :=
  callOf Try.func68 (args := [.agg #[.slice d1 l_d1 c_d1, .int .i64 d2, .bool d3, .int .i64 d4]]) (Eq.mpr (sh68_eq d1 l_d1 c_d1 d2 d3 d4 _ w) h)

/-- bramble/brambleref18.Arm -/
def sh69 (d1 : Option Addr) (l_d1 : Nat) (c_d1 : Nat) (d2 : Int) (d3 : Bool) (d4 : Int) (n5 : Int) (K : Value → World → Prop) (w : World) : Prop :=
  let p6 : Nat := w.heap.size; let w7 : World := w.alloc (.cells #[.slice d1 l_d1 c_d1, .int .i64 d2, .bool d3, .int .i64 d4] 26); 
  let p8 : Nat := w7.heap.size; let w9 : World := w7.alloc (.cells #[.slice none 0 0, .int .i64 0, .bool false, .int .i64 0] 26); 
  cond (decide (n5 < (0 : Int)))
    (∃ (d10 : Option Addr), ∃ (l_d10 : Nat), ∃ (c_d10 : Nat), ∃ (d11 : Int), ∃ (d12 : Bool), ∃ (d13 : Int), w9.cell? (⟨p6, 0, none⟩ : Addr) = some (.slice d10 l_d10 c_d10) ∧ w9.cell? (⟨p6, 1, none⟩ : Addr) = some (.int .i64 d11) ∧ w9.cell? (⟨p6, 2, none⟩ : Addr) = some (.bool d12) ∧ w9.cell? (⟨p6, 3, none⟩ : Addr) = some (.int .i64 d13) ∧ 
    wrN w9 (⟨p8, 0, none⟩ : Addr) 4 ∧ let w14 : World := setN (⟨p8, 0, none⟩ : Addr) 0 [.slice d10 l_d10 c_d10, .int .i64 d11, .bool d12, .int .i64 d13] w9; 
    ∃ (a34 : Option Addr), ∃ (l_a34 : Nat), ∃ (c_a34 : Nat), ∃ (n35 : Int), ∃ (b36 : Bool), ∃ (n37 : Int), w14.cell? (⟨p8, 0, none⟩ : Addr) = some (.slice a34 l_a34 c_a34) ∧ w14.cell? (⟨p8, 1, none⟩ : Addr) = some (.int .i64 n35) ∧ w14.cell? (⟨p8, 2, none⟩ : Addr) = some (.bool b36) ∧ w14.cell? (⟨p8, 3, none⟩ : Addr) = some (.int .i64 n37) ∧ 
    K (.tuple #[.agg #[.slice a34 l_a34 c_a34, .int .i64 n35, .bool b36, .int .i64 n37], .int .i64 1]) w14)
    (∃ (d15 : Option Addr), ∃ (l_d15 : Nat), ∃ (c_d15 : Nat), ∃ (d16 : Int), ∃ (d17 : Bool), ∃ (d18 : Int), w9.cell? (⟨p6, 0, none⟩ : Addr) = some (.slice d15 l_d15 c_d15) ∧ w9.cell? (⟨p6, 1, none⟩ : Addr) = some (.int .i64 d16) ∧ w9.cell? (⟨p6, 2, none⟩ : Addr) = some (.bool d17) ∧ w9.cell? (⟨p6, 3, none⟩ : Addr) = some (.int .i64 d18) ∧ 
    Calls Try.prog 66 #[.agg #[.slice d15 l_d15 c_d15, .int .i64 d16, .bool d17, .int .i64 d18]] w9 (fun e19 w20 => ∃ (b21 : Bool), e19 = .returned (.bool b21) ∧ 
    cond b21
      (∃ (d22 : Option Addr), ∃ (l_d22 : Nat), ∃ (c_d22 : Nat), ∃ (d23 : Int), ∃ (d24 : Bool), ∃ (d25 : Int), w20.cell? (⟨p6, 0, none⟩ : Addr) = some (.slice d22 l_d22 c_d22) ∧ w20.cell? (⟨p6, 1, none⟩ : Addr) = some (.int .i64 d23) ∧ w20.cell? (⟨p6, 2, none⟩ : Addr) = some (.bool d24) ∧ w20.cell? (⟨p6, 3, none⟩ : Addr) = some (.int .i64 d25) ∧ 
      wrN w20 (⟨p8, 0, none⟩ : Addr) 4 ∧ let w26 : World := setN (⟨p8, 0, none⟩ : Addr) 0 [.slice d22 l_d22 c_d22, .int .i64 d23, .bool d24, .int .i64 d25] w20; 
      ∃ (a38 : Option Addr), ∃ (l_a38 : Nat), ∃ (c_a38 : Nat), ∃ (n39 : Int), ∃ (b40 : Bool), ∃ (n41 : Int), w26.cell? (⟨p8, 0, none⟩ : Addr) = some (.slice a38 l_a38 c_a38) ∧ w26.cell? (⟨p8, 1, none⟩ : Addr) = some (.int .i64 n39) ∧ w26.cell? (⟨p8, 2, none⟩ : Addr) = some (.bool b40) ∧ w26.cell? (⟨p8, 3, none⟩ : Addr) = some (.int .i64 n41) ∧ 
      K (.tuple #[.agg #[.slice a38 l_a38 c_a38, .int .i64 n39, .bool b40, .int .i64 n41], .int .i64 180]) w26)
      (wr w20 (⟨p6, 2, none⟩ : Addr) ∧ let w27 : World := w20.setCell (⟨p6, 2, none⟩ : Addr) (.bool true); 
      wr w27 (⟨p6, 3, none⟩ : Addr) ∧ let w28 : World := w27.setCell (⟨p6, 3, none⟩ : Addr) (.int .i64 n5); 
      ∃ (d29 : Option Addr), ∃ (l_d29 : Nat), ∃ (c_d29 : Nat), ∃ (d30 : Int), ∃ (d31 : Bool), ∃ (d32 : Int), w28.cell? (⟨p6, 0, none⟩ : Addr) = some (.slice d29 l_d29 c_d29) ∧ w28.cell? (⟨p6, 1, none⟩ : Addr) = some (.int .i64 d30) ∧ w28.cell? (⟨p6, 2, none⟩ : Addr) = some (.bool d31) ∧ w28.cell? (⟨p6, 3, none⟩ : Addr) = some (.int .i64 d32) ∧ 
      wrN w28 (⟨p8, 0, none⟩ : Addr) 4 ∧ let w33 : World := setN (⟨p8, 0, none⟩ : Addr) 0 [.slice d29 l_d29 c_d29, .int .i64 d30, .bool d31, .int .i64 d32] w28; 
      ∃ (a42 : Option Addr), ∃ (l_a42 : Nat), ∃ (c_a42 : Nat), ∃ (n43 : Int), ∃ (b44 : Bool), ∃ (n45 : Int), w33.cell? (⟨p8, 0, none⟩ : Addr) = some (.slice a42 l_a42 c_a42) ∧ w33.cell? (⟨p8, 1, none⟩ : Addr) = some (.int .i64 n43) ∧ w33.cell? (⟨p8, 2, none⟩ : Addr) = some (.bool b44) ∧ w33.cell? (⟨p8, 3, none⟩ : Addr) = some (.int .i64 n45) ∧ 
      K (.tuple #[.agg #[.slice a42 l_a42 c_a42, .int .i64 n43, .bool b44, .int .i64 n45], .int .i64 0]) w33)))
theorem sh69_eq (d1 : Option Addr) (l_d1 : Nat) (c_d1 : Nat) (d2 : Int) (d3 : Bool) (d4 : Int) (n5 : Int) (K : Value → World → Prop) (w : World) : denF X Try.f69 [.agg #[.slice d1 l_d1 c_d1, .int .i64 d2, .bool d3, .int .i64 d4], .int .i64 n5] K w = sh69 d1 l_d1 c_d1 d2 d3 d4 n5 K w := by kernel_rfl
theorem c69 {d1 : Option Addr} {l_d1 : Nat} {c_d1 : Nat} {d2 : Int} {d3 : Bool} {d4 : Int} {n5 : Int} {w : World} {R : Ending → World → Prop} (h : sh69 d1 l_d1 c_d1 d2 d3 d4 n5 (fun v w' => R (.returned v) w') w) : Calls Try.prog 69 #[.agg #[.slice d1 l_d1 c_d1, .int .i64 d2, .bool d3, .int .i64 d4], .int .i64 n5] w R :=
  callOf Try.func69 (args := [.agg #[.slice d1 l_d1 c_d1, .int .i64 d2, .bool d3, .int .i64 d4], .int .i64 n5]) (Eq.mpr (sh69_eq d1 l_d1 c_d1 d2 d3 d4 n5 _ w) h)

/-- (*bramble/disk.Disk).is -/
def sh70 (d1 : Addr) (f2 : Int) (at3 : Int) (K : Value → World → Prop) (w : World) : Prop :=
  cond (decide (f2 ≥ (0 : Int)))
    (cond (decide (f2 < (3 : Int)))
      (cond (decide (at3 ≥ (0 : Int)))
        (0 ≤ f2 ∧ f2 < 3 ∧ 
        ∃ (a4 : Option Addr), ∃ (l_a4 : Nat), ∃ (c_a4 : Nat), w.cell? ((d1.add 3).add (f2.toNat * 1)) = some (.slice a4 l_a4 c_a4) ∧ 
        K (.bool (decide (at3 ≤ ((l_a4 : Nat) : Int)))) w)
        (K (.bool false) w))
      (K (.bool false) w))
    (K (.bool false) w)
theorem sh70_eq (d1 : Addr) (f2 : Int) (at3 : Int) (K : Value → World → Prop) (w : World) : denF X Try.f70 [.pointer (some d1), .int .i64 f2, .int .i64 at3] K w = sh70 d1 f2 at3 K w := by kernel_rfl
theorem c70 {d1 : Addr} {f2 : Int} {at3 : Int} {w : World} {R : Ending → World → Prop} (h : sh70 d1 f2 at3 (fun v w' => R (.returned v) w') w) : Calls Try.prog 70 #[.pointer (some d1), .int .i64 f2, .int .i64 at3] w R :=
  callOf Try.func70 (args := [.pointer (some d1), .int .i64 f2, .int .i64 at3]) (Eq.mpr (sh70_eq d1 f2 at3 _ w) h)

/-- slices.Clone[[]byte,byte] -/
def sh71 (s1 : Option Addr) (l_s1 : Nat) (c_s1 : Nat) (K : Value → World → Prop) (w : World) : Prop :=
  cond s1.isNone
    (K (.slice none 0 0) w)
    (let p2 : Nat := w.heap.size; let w3 : World := w.alloc (.cells #[] 5); 
    RunWp Try.prog (Builtin.append_ #[36, 36] 36 #[.slice (some ⟨p2, 0, none⟩) 0 0, .slice s1 l_s1 c_s1]) (fun v4 w5 => ∃ (a6 : Option Addr), ∃ (l_a6 : Nat), ∃ (c_a6 : Nat), v4 = .slice a6 l_a6 c_a6 ∧ 
    K (.slice a6 l_a6 c_a6) w5) w3)
theorem sh71_eq (s1 : Option Addr) (l_s1 : Nat) (c_s1 : Nat) (K : Value → World → Prop) (w : World) : denF X Try.f71 [.slice s1 l_s1 c_s1] K w = sh71 s1 l_s1 c_s1 K w := by kernel_rfl
theorem c71 {s1 : Option Addr} {l_s1 : Nat} {c_s1 : Nat} {w : World} {R : Ending → World → Prop} (h : sh71 s1 l_s1 c_s1 (fun v w' => R (.returned v) w') w) : Calls Try.prog 71 #[.slice s1 l_s1 c_s1] w R :=
  callOf Try.func71 (args := [.slice s1 l_s1 c_s1]) (Eq.mpr (sh71_eq s1 l_s1 c_s1 _ w) h)

/-- (*bramble/disk.Disk).step -/
def sh72 (d1 : Addr) (K : Value → World → Prop) (w : World) : Prop :=
  Calls Try.prog 26 #[.pointer (some d1)] w (fun e2 w3 => ∃ (b4 : Bool), e2 = .returned (.bool b4) ∧ 
  cond b4
    (K (.bool false) w3)
    (∃ (left5 : Int), w3.cell? (d1.add 9) = some (.int .i64 left5) ∧ 
    wr w3 (d1.add 9) ∧ let w6 : World := w3.setCell (d1.add 9) (.int .i64 (IntKind.i64.wrap (left5 - (1 : Int)))); 
    K (.bool true) w6))
theorem sh72_eq (d1 : Addr) (K : Value → World → Prop) (w : World) : denF X Try.f72 [.pointer (some d1)] K w = sh72 d1 K w := by kernel_rfl
theorem c72 {d1 : Addr} {w : World} {R : Ending → World → Prop} (h : sh72 d1 (fun v w' => R (.returned v) w') w) : Calls Try.prog 72 #[.pointer (some d1)] w R :=
  callOf Try.func72 (args := [.pointer (some d1)]) (Eq.mpr (sh72_eq d1 _ w) h)

/-- (*bramble/disk.Disk).write -/
def sh73 (d1 : Addr) (w2 : Int) (w3 : Int) (w4 : Option Addr) (l_w4 : Nat) (c_w4 : Nat) (w5 : Bool) (K : Value → World → Prop) (w : World) : Prop :=
  let p6 : Nat := w.heap.size; let w7 : World := w.alloc (.cells #[.int .i64 w2, .int .i64 w3, .slice w4 l_w4 c_w4, .bool w5] 114); 
  Calls Try.prog 72 #[.pointer (some d1)] w7 (fun e8 w9 => ∃ (b10 : Bool), e8 = .returned (.bool b10) ∧ 
  cond (!b10)
    (K (.int .i64 180) w9)
    (let w11 : World := w9.drew; 
    ∃ (pending12 : Option Addr), ∃ (l_pending12 : Nat), ∃ (c_pending12 : Nat), w11.cell? (d1.add 6) = some (.slice pending12 l_pending12 c_pending12) ∧ 
    ∃ (w13 : Int), ∃ (w14 : Int), ∃ (w15 : Option Addr), ∃ (l_w15 : Nat), ∃ (c_w15 : Nat), ∃ (w16 : Bool), w11.cell? (⟨p6, 0, none⟩ : Addr) = some (.int .i64 w13) ∧ w11.cell? (⟨p6, 1, none⟩ : Addr) = some (.int .i64 w14) ∧ w11.cell? (⟨p6, 2, none⟩ : Addr) = some (.slice w15 l_w15 c_w15) ∧ w11.cell? (⟨p6, 3, none⟩ : Addr) = some (.bool w16) ∧ 
    let p17 : Nat := w11.heap.size; let w18 : World := w11.alloc (.cells #[.int .i64 w13, .int .i64 w14, .slice w15 l_w15 c_w15, .bool w16] 114); 
    (∃ (pending19 : Option Addr), ∃ (l_pending19 : Nat), ∃ (c_pending19 : Nat), w18.cell? (d1.add 6) = some (.slice pending19 l_pending19 c_pending19) ∧ 
      (some (.slice pending12 l_pending12 c_pending12) : Option Value) = some (.slice pending19 l_pending19 c_pending19))
    ∧ (RunWp Try.prog (Builtin.append_ #[110, 110] 110 #[.slice pending12 l_pending12 c_pending12, .slice (some ⟨p17, 0, none⟩) 1 1]) (fun v20 w21 => ∃ (a22 : Option Addr), ∃ (l_a22 : Nat), ∃ (c_a22 : Nat), v20 = .slice a22 l_a22 c_a22 ∧ 
      wr w21 (d1.add 6) ∧ let w23 : World := w21.setCell (d1.add 6) (.slice a22 l_a22 c_a22); 
      let w24 : World := w23.drew; 
      ∃ (now25 : Option Addr), ∃ (l_now25 : Nat), ∃ (c_now25 : Nat), ∃ (now26 : Option Addr), ∃ (l_now26 : Nat), ∃ (c_now26 : Nat), ∃ (now27 : Option Addr), ∃ (l_now27 : Nat), ∃ (c_now27 : Nat), w24.cell? (d1.add 3) = some (.slice now25 l_now25 c_now25) ∧ w24.cell? (d1.add 4) = some (.slice now26 l_now26 c_now26) ∧ w24.cell? (d1.add 5) = some (.slice now27 l_now27 c_now27) ∧ 
      ∃ (w28 : Int), ∃ (w29 : Int), ∃ (w30 : Option Addr), ∃ (l_w30 : Nat), ∃ (c_w30 : Nat), ∃ (w31 : Bool), w24.cell? (⟨p6, 0, none⟩ : Addr) = some (.int .i64 w28) ∧ w24.cell? (⟨p6, 1, none⟩ : Addr) = some (.int .i64 w29) ∧ w24.cell? (⟨p6, 2, none⟩ : Addr) = some (.slice w30 l_w30 c_w30) ∧ w24.cell? (⟨p6, 3, none⟩ : Addr) = some (.bool w31) ∧ 
      Calls Try.prog 64 #[.agg #[.slice now25 l_now25 c_now25, .slice now26 l_now26 c_now26, .slice now27 l_now27 c_now27], .agg #[.int .i64 w28, .int .i64 w29, .slice w30 l_w30 c_w30, .bool w31]] w24 (fun e32 w33 => ∃ (a34 : Option Addr), ∃ (l_a34 : Nat), ∃ (c_a34 : Nat), ∃ (a35 : Option Addr), ∃ (l_a35 : Nat), ∃ (c_a35 : Nat), ∃ (a36 : Option Addr), ∃ (l_a36 : Nat), ∃ (c_a36 : Nat), e32 = .returned (.agg #[.slice a34 l_a34 c_a34, .slice a35 l_a35 c_a35, .slice a36 l_a36 c_a36]) ∧ 
      wrN w33 (d1.add 3) 3 ∧ let w37 : World := setN (d1.add 3) 0 [.slice a34 l_a34 c_a34, .slice a35 l_a35 c_a35, .slice a36 l_a36 c_a36] w33; 
      ∃ (raws38 : Int), w37.cell? (d1.add 7) = some (.int .i64 raws38) ∧ 
      wr w37 (d1.add 7) ∧ let w39 : World := w37.setCell (d1.add 7) (.int .i64 (IntKind.i64.wrap (raws38 + (1 : Int)))); 
      K (.int .i64 0) w39)) w18)))
theorem sh73_eq (d1 : Addr) (w2 : Int) (w3 : Int) (w4 : Option Addr) (l_w4 : Nat) (c_w4 : Nat) (w5 : Bool) (K : Value → World → Prop) (w : World) : denF X Try.f73 [.pointer (some d1), .agg #[.int .i64 w2, .int .i64 w3, .slice w4 l_w4 c_w4, .bool w5]] K w = sh73 d1 w2 w3 w4 l_w4 c_w4 w5 K w := by kernel_rfl
theorem c73 {d1 : Addr} {w2 : Int} {w3 : Int} {w4 : Option Addr} {l_w4 : Nat} {c_w4 : Nat} {w5 : Bool} {w : World} {R : Ending → World → Prop} (h : sh73 d1 w2 w3 w4 l_w4 c_w4 w5 (fun v w' => R (.returned v) w') w) : Calls Try.prog 73 #[.pointer (some d1), .agg #[.int .i64 w2, .int .i64 w3, .slice w4 l_w4 c_w4, .bool w5]] w R :=
  callOf Try.func73 (args := [.pointer (some d1), .agg #[.int .i64 w2, .int .i64 w3, .slice w4 l_w4 c_w4, .bool w5]]) (Eq.mpr (sh73_eq d1 w2 w3 w4 l_w4 c_w4 w5 _ w) h)

/-- bramble/brambleref18.Is -/
def sh74 (f1 : Int) (K : Value → World → Prop) (w : World) : Prop :=
  cond (decide (f1 ≥ (0 : Int)))
    (K (.bool (decide (f1 < (3 : Int)))) w)
    (K (.bool false) w)
theorem sh74_eq (f1 : Int) (K : Value → World → Prop) (w : World) : denF X Try.f74 [.int .i64 f1] K w = sh74 f1 K w := by kernel_rfl
theorem c74 {f1 : Int} {w : World} {R : Ending → World → Prop} (h : sh74 f1 (fun v w' => R (.returned v) w') w) : Calls Try.prog 74 #[.int .i64 f1] w R :=
  callOf Try.func74 (args := [.int .i64 f1]) (Eq.mpr (sh74_eq f1 _ w) h)

/-- bramble/brambleref18.raw -/
def sh75 (d1 : Option Addr) (l_d1 : Nat) (c_d1 : Nat) (d2 : Int) (d3 : Bool) (d4 : Int) (f5 : Int) (text6 : ByteArray) (K : Value → World → Prop) (w : World) : Prop :=
  let p7 : Nat := w.heap.size; let w8 : World := w.alloc (.cells #[.slice d1 l_d1 c_d1, .int .i64 d2, .bool d3, .int .i64 d4] 26); 
  let p9 : Nat := w8.heap.size; let w10 : World := w8.alloc (.cells #[.slice none 0 0, .int .i64 0, .bool false, .int .i64 0] 26); 
  ∃ (d11 : Option Addr), ∃ (l_d11 : Nat), ∃ (c_d11 : Nat), ∃ (d12 : Int), ∃ (d13 : Bool), ∃ (d14 : Int), w10.cell? (⟨p7, 0, none⟩ : Addr) = some (.slice d11 l_d11 c_d11) ∧ w10.cell? (⟨p7, 1, none⟩ : Addr) = some (.int .i64 d12) ∧ w10.cell? (⟨p7, 2, none⟩ : Addr) = some (.bool d13) ∧ w10.cell? (⟨p7, 3, none⟩ : Addr) = some (.int .i64 d14) ∧ 
  Calls Try.prog 96 #[.agg #[.slice d11 l_d11 c_d11, .int .i64 d12, .bool d13, .int .i64 d14]] w10 (fun e15 w16 => ∃ (a17 : Option Addr), ∃ (l_a17 : Nat), ∃ (c_a17 : Nat), ∃ (n18 : Int), ∃ (b19 : Bool), ∃ (n20 : Int), e15 = .returned (.agg #[.slice a17 l_a17 c_a17, .int .i64 n18, .bool b19, .int .i64 n20]) ∧ 
  wrN w16 (⟨p7, 0, none⟩ : Addr) 4 ∧ let w21 : World := setN (⟨p7, 0, none⟩ : Addr) 0 [.slice a17 l_a17 c_a17, .int .i64 n18, .bool b19, .int .i64 n20] w16; 
  ∃ (d22 : Option Addr), ∃ (l_d22 : Nat), ∃ (c_d22 : Nat), ∃ (d23 : Int), ∃ (d24 : Bool), ∃ (d25 : Int), w21.cell? (⟨p7, 0, none⟩ : Addr) = some (.slice d22 l_d22 c_d22) ∧ w21.cell? (⟨p7, 1, none⟩ : Addr) = some (.int .i64 d23) ∧ w21.cell? (⟨p7, 2, none⟩ : Addr) = some (.bool d24) ∧ w21.cell? (⟨p7, 3, none⟩ : Addr) = some (.int .i64 d25) ∧ 
  Calls Try.prog 65 #[.agg #[.slice d22 l_d22 c_d22, .int .i64 d23, .bool d24, .int .i64 d25]] w21 (fun e26 w27 => ∃ (s28 : ByteArray), ∃ (s29 : ByteArray), ∃ (s30 : ByteArray), e26 = .returned (.agg #[.string s28, .string s29, .string s30]) ∧ 
  let p31 : Nat := w27.heap.size; let w32 : World := w27.alloc (.cells #[.string ({ data := #[] } : ByteArray), .string ({ data := #[] } : ByteArray), .string ({ data := #[] } : ByteArray)] 77); 
  wrN w32 (⟨p31, 0, none⟩ : Addr) 3 ∧ let w33 : World := setN (⟨p31, 0, none⟩ : Addr) 0 [.string s28, .string s29, .string s30] w32; 
  0 ≤ f5 ∧ f5 < 3 ∧ 
  wr w33 ((⟨p31, 0, none⟩ : Addr).add (f5.toNat * 1)) ∧ let w34 : World := w33.setCell ((⟨p31, 0, none⟩ : Addr).add (f5.toNat * 1)) (.string text6); 
  let K82 : World → Prop := fun w81 =>
      ∃ (Raws83 : Int), w81.cell? (⟨p7, 1, none⟩ : Addr) = some (.int .i64 Raws83) ∧ 
      wr w81 (⟨p7, 1, none⟩ : Addr) ∧ let w84 : World := w81.setCell (⟨p7, 1, none⟩ : Addr) (.int .i64 (IntKind.i64.wrap (Raws83 + (1 : Int)))); 
      ∃ (d85 : Option Addr), ∃ (l_d85 : Nat), ∃ (c_d85 : Nat), ∃ (d86 : Int), ∃ (d87 : Bool), ∃ (d88 : Int), w84.cell? (⟨p7, 0, none⟩ : Addr) = some (.slice d85 l_d85 c_d85) ∧ w84.cell? (⟨p7, 1, none⟩ : Addr) = some (.int .i64 d86) ∧ w84.cell? (⟨p7, 2, none⟩ : Addr) = some (.bool d87) ∧ w84.cell? (⟨p7, 3, none⟩ : Addr) = some (.int .i64 d88) ∧ 
      wrN w84 (⟨p9, 0, none⟩ : Addr) 4 ∧ let w89 : World := setN (⟨p9, 0, none⟩ : Addr) 0 [.slice d85 l_d85 c_d85, .int .i64 d86, .bool d87, .int .i64 d88] w84; 
      ∃ (a90 : Option Addr), ∃ (l_a90 : Nat), ∃ (c_a90 : Nat), ∃ (n91 : Int), ∃ (b92 : Bool), ∃ (n93 : Int), w89.cell? (⟨p9, 0, none⟩ : Addr) = some (.slice a90 l_a90 c_a90) ∧ w89.cell? (⟨p9, 1, none⟩ : Addr) = some (.int .i64 n91) ∧ w89.cell? (⟨p9, 2, none⟩ : Addr) = some (.bool b92) ∧ w89.cell? (⟨p9, 3, none⟩ : Addr) = some (.int .i64 n93) ∧ 
      K (.agg #[.slice a90 l_a90 c_a90, .int .i64 n91, .bool b92, .int .i64 n93]) w89
  let w35 : World := w34.drew; 
  ∃ (States36 : Option Addr), ∃ (l_States36 : Nat), ∃ (c_States36 : Nat), w35.cell? (⟨p7, 0, none⟩ : Addr) = some (.slice States36 l_States36 c_States36) ∧ 
  ∃ (s37 : ByteArray), ∃ (s38 : ByteArray), ∃ (s39 : ByteArray), w35.cell? (⟨p31, 0, none⟩ : Addr) = some (.string s37) ∧ w35.cell? (⟨p31, 1, none⟩ : Addr) = some (.string s38) ∧ w35.cell? (⟨p31, 2, none⟩ : Addr) = some (.string s39) ∧ 
  (let p40 : Nat := w35.heap.size; let w41 : World := w35.alloc (.cells #[] 77); 
    (∃ (States42 : Option Addr), ∃ (l_States42 : Nat), ∃ (c_States42 : Nat), w41.cell? (⟨p7, 0, none⟩ : Addr) = some (.slice States42 l_States42 c_States42) ∧ 
      (some (.slice States36 l_States36 c_States36) : Option Value) = some (.slice States42 l_States42 c_States42))
    ∧ ((∃ (s43 : ByteArray), ∃ (s44 : ByteArray), ∃ (s45 : ByteArray), w41.cell? (⟨p31, 0, none⟩ : Addr) = some (.string s43) ∧ w41.cell? (⟨p31, 1, none⟩ : Addr) = some (.string s44) ∧ w41.cell? (⟨p31, 2, none⟩ : Addr) = some (.string s45) ∧ 
        (some (.agg #[.string s37, .string s38, .string s39]) : Option Value) = some (.agg #[.string s43, .string s44, .string s45]))
      ∧ ((RunWp Try.prog (Builtin.append_ #[24, 24] 24 #[.slice (some ⟨p40, 0, none⟩) 0 0, .slice States36 l_States36 c_States36]) (fun v46 w47 => ∃ (a48 : Option Addr), ∃ (l_a48 : Nat), ∃ (c_a48 : Nat), v46 = .slice a48 l_a48 c_a48 ∧ 
          (∃ (s49 : ByteArray), ∃ (s50 : ByteArray), ∃ (s51 : ByteArray), w47.cell? (⟨p31, 0, none⟩ : Addr) = some (.string s49) ∧ w47.cell? (⟨p31, 1, none⟩ : Addr) = some (.string s50) ∧ w47.cell? (⟨p31, 2, none⟩ : Addr) = some (.string s51) ∧ 
            (some (.agg #[.string s37, .string s38, .string s39]) : Option Value) = some (.agg #[.string s49, .string s50, .string s51]))
          ∧ (let p52 : Nat := w47.heap.size; let w53 : World := w47.alloc (.cells #[.string s37, .string s38, .string s39] 77); 
            RunWp Try.prog (Builtin.append_ #[24, 24] 24 #[.slice a48 l_a48 c_a48, .slice (some ⟨p52, 0, none⟩) 1 1]) (fun v54 w55 => ∃ (a56 : Option Addr), ∃ (l_a56 : Nat), ∃ (c_a56 : Nat), v54 = .slice a56 l_a56 c_a56 ∧ 
            wr w55 (⟨p7, 0, none⟩ : Addr) ∧ let w57 : World := w55.setCell (⟨p7, 0, none⟩ : Addr) (.slice a56 l_a56 c_a56); 
            K82 w57) w53)) w41)
        ∧ (let p58 : Nat := w41.heap.size; let w59 : World := w41.alloc (.cells #[.string s37, .string s38, .string s39] 77); 
          (∃ (States60 : Option Addr), ∃ (l_States60 : Nat), ∃ (c_States60 : Nat), w59.cell? (⟨p7, 0, none⟩ : Addr) = some (.slice States60 l_States60 c_States60) ∧ 
            (some (.slice States36 l_States36 c_States36) : Option Value) = some (.slice States60 l_States60 c_States60))
          ∧ (RunWp Try.prog (Builtin.append_ #[24, 24] 24 #[.slice (some ⟨p40, 0, none⟩) 0 0, .slice States36 l_States36 c_States36]) (fun v61 w62 => ∃ (a63 : Option Addr), ∃ (l_a63 : Nat), ∃ (c_a63 : Nat), v61 = .slice a63 l_a63 c_a63 ∧ 
            RunWp Try.prog (Builtin.append_ #[24, 24] 24 #[.slice a63 l_a63 c_a63, .slice (some ⟨p58, 0, none⟩) 1 1]) (fun v64 w65 => ∃ (a66 : Option Addr), ∃ (l_a66 : Nat), ∃ (c_a66 : Nat), v64 = .slice a66 l_a66 c_a66 ∧ 
            wr w65 (⟨p7, 0, none⟩ : Addr) ∧ let w67 : World := w65.setCell (⟨p7, 0, none⟩ : Addr) (.slice a66 l_a66 c_a66); 
            K82 w67) w62) w59)))))
  ∧ (let p68 : Nat := w35.heap.size; let w69 : World := w35.alloc (.cells #[.string s37, .string s38, .string s39] 77); 
    (∃ (States70 : Option Addr), ∃ (l_States70 : Nat), ∃ (c_States70 : Nat), w69.cell? (⟨p7, 0, none⟩ : Addr) = some (.slice States70 l_States70 c_States70) ∧ 
      (some (.slice States36 l_States36 c_States36) : Option Value) = some (.slice States70 l_States70 c_States70))
    ∧ (let p71 : Nat := w69.heap.size; let w72 : World := w69.alloc (.cells #[] 77); 
      (∃ (States73 : Option Addr), ∃ (l_States73 : Nat), ∃ (c_States73 : Nat), w72.cell? (⟨p7, 0, none⟩ : Addr) = some (.slice States73 l_States73 c_States73) ∧ 
        (some (.slice States36 l_States36 c_States36) : Option Value) = some (.slice States73 l_States73 c_States73))
      ∧ (RunWp Try.prog (Builtin.append_ #[24, 24] 24 #[.slice (some ⟨p71, 0, none⟩) 0 0, .slice States36 l_States36 c_States36]) (fun v74 w75 => ∃ (a76 : Option Addr), ∃ (l_a76 : Nat), ∃ (c_a76 : Nat), v74 = .slice a76 l_a76 c_a76 ∧ 
        RunWp Try.prog (Builtin.append_ #[24, 24] 24 #[.slice a76 l_a76 c_a76, .slice (some ⟨p68, 0, none⟩) 1 1]) (fun v77 w78 => ∃ (a79 : Option Addr), ∃ (l_a79 : Nat), ∃ (c_a79 : Nat), v77 = .slice a79 l_a79 c_a79 ∧ 
        wr w78 (⟨p7, 0, none⟩ : Addr) ∧ let w80 : World := w78.setCell (⟨p7, 0, none⟩ : Addr) (.slice a79 l_a79 c_a79); 
        K82 w80) w75) w72)))))
theorem sh75_eq (d1 : Option Addr) (l_d1 : Nat) (c_d1 : Nat) (d2 : Int) (d3 : Bool) (d4 : Int) (f5 : Int) (text6 : ByteArray) (K : Value → World → Prop) (w : World) : denF X Try.f75 [.agg #[.slice d1 l_d1 c_d1, .int .i64 d2, .bool d3, .int .i64 d4], .int .i64 f5, .string text6] K w = sh75 d1 l_d1 c_d1 d2 d3 d4 f5 text6 K w := by kernel_rfl
theorem c75 {d1 : Option Addr} {l_d1 : Nat} {c_d1 : Nat} {d2 : Int} {d3 : Bool} {d4 : Int} {f5 : Int} {text6 : ByteArray} {w : World} {R : Ending → World → Prop} (h : sh75 d1 l_d1 c_d1 d2 d3 d4 f5 text6 (fun v w' => R (.returned v) w') w) : Calls Try.prog 75 #[.agg #[.slice d1 l_d1 c_d1, .int .i64 d2, .bool d3, .int .i64 d4], .int .i64 f5, .string text6] w R :=
  callOf Try.func75 (args := [.agg #[.slice d1 l_d1 c_d1, .int .i64 d2, .bool d3, .int .i64 d4], .int .i64 f5, .string text6]) (Eq.mpr (sh75_eq d1 l_d1 c_d1 d2 d3 d4 f5 text6 _ w) h)

/-- bramble/brambleref18.step -/
def sh96 (d1 : Option Addr) (l_d1 : Nat) (c_d1 : Nat) (d2 : Int) (d3 : Bool) (d4 : Int) (K : Value → World → Prop) (w : World) : Prop :=
  let p5 : Nat := w.heap.size; let w6 : World := w.alloc (.cells #[.slice d1 l_d1 c_d1, .int .i64 d2, .bool d3, .int .i64 d4] 26); 
  let p7 : Nat := w6.heap.size; let w8 : World := w6.alloc (.cells #[.slice none 0 0, .int .i64 0, .bool false, .int .i64 0] 26); 
  let K13 : World → Prop := fun w12 =>
      ∃ (d14 : Option Addr), ∃ (l_d14 : Nat), ∃ (c_d14 : Nat), ∃ (d15 : Int), ∃ (d16 : Bool), ∃ (d17 : Int), w12.cell? (⟨p5, 0, none⟩ : Addr) = some (.slice d14 l_d14 c_d14) ∧ w12.cell? (⟨p5, 1, none⟩ : Addr) = some (.int .i64 d15) ∧ w12.cell? (⟨p5, 2, none⟩ : Addr) = some (.bool d16) ∧ w12.cell? (⟨p5, 3, none⟩ : Addr) = some (.int .i64 d17) ∧ 
      wrN w12 (⟨p7, 0, none⟩ : Addr) 4 ∧ let w18 : World := setN (⟨p7, 0, none⟩ : Addr) 0 [.slice d14 l_d14 c_d14, .int .i64 d15, .bool d16, .int .i64 d17] w12; 
      ∃ (a19 : Option Addr), ∃ (l_a19 : Nat), ∃ (c_a19 : Nat), ∃ (n20 : Int), ∃ (b21 : Bool), ∃ (n22 : Int), w18.cell? (⟨p7, 0, none⟩ : Addr) = some (.slice a19 l_a19 c_a19) ∧ w18.cell? (⟨p7, 1, none⟩ : Addr) = some (.int .i64 n20) ∧ w18.cell? (⟨p7, 2, none⟩ : Addr) = some (.bool b21) ∧ w18.cell? (⟨p7, 3, none⟩ : Addr) = some (.int .i64 n22) ∧ 
      K (.agg #[.slice a19 l_a19 c_a19, .int .i64 n20, .bool b21, .int .i64 n22]) w18
  ∃ (Armed9 : Bool), w8.cell? (⟨p5, 2, none⟩ : Addr) = some (.bool Armed9) ∧ 
  cond Armed9
    (∃ (Left10 : Int), w8.cell? (⟨p5, 3, none⟩ : Addr) = some (.int .i64 Left10) ∧ 
    wr w8 (⟨p5, 3, none⟩ : Addr) ∧ let w11 : World := w8.setCell (⟨p5, 3, none⟩ : Addr) (.int .i64 (IntKind.i64.wrap (Left10 - (1 : Int)))); 
    K13 w11)
    (K13 w8)
theorem sh96_eq (d1 : Option Addr) (l_d1 : Nat) (c_d1 : Nat) (d2 : Int) (d3 : Bool) (d4 : Int) (K : Value → World → Prop) (w : World) : denF X Try.f96 [.agg #[.slice d1 l_d1 c_d1, .int .i64 d2, .bool d3, .int .i64 d4]] K w = sh96 d1 l_d1 c_d1 d2 d3 d4 K w := by kernel_rfl
theorem c96 {d1 : Option Addr} {l_d1 : Nat} {c_d1 : Nat} {d2 : Int} {d3 : Bool} {d4 : Int} {w : World} {R : Ending → World → Prop} (h : sh96 d1 l_d1 c_d1 d2 d3 d4 (fun v w' => R (.returned v) w') w) : Calls Try.prog 96 #[.agg #[.slice d1 l_d1 c_d1, .int .i64 d2, .bool d3, .int .i64 d4]] w R :=
  callOf Try.func96 (args := [.agg #[.slice d1 l_d1 c_d1, .int .i64 d2, .bool d3, .int .i64 d4]]) (Eq.mpr (sh96_eq d1 l_d1 c_d1 d2 d3 d4 _ w) h)

end Go.Proofs.Ytmfidfaiopogbaa
