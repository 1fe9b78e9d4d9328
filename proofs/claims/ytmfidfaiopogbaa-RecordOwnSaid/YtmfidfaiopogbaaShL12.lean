/- The shallow texts of these functions, and that they are the code's own; printed by a program of this session (gosh.py). -/
import Derived.Test.YtmfidfaiopogbaaShX
set_option linter.unusedVariables false
set_option maxRecDepth 100000
namespace Go.Proofs.Ytmfidfaiopogbaa
open Go Go.Sh
/-- bramble/bramblelaw19.RecordOwn -/
def sh12 (ops1 : Option Addr) (l_ops1 : Nat) (c_ops1 : Nat) (K : Value → World → Prop) (w : World) : Prop :=
  Calls Try.prog 36 #[] w (fun e2 w3 => ∃ (b4 : Bool), e2 = .returned (.bool b4) ∧ 
  cond (!b4)
    (K (.bool false) w3)
    (Calls Try.prog 43 #[.slice ops1 l_ops1 c_ops1] w3 (fun e5 w6 => ∃ (a7 : Option Addr), ∃ (l_a7 : Nat), ∃ (c_a7 : Nat), ∃ (a8 : Option Addr), ∃ (l_a8 : Nat), ∃ (c_a8 : Nat), ∃ (a9 : Option Addr), ∃ (l_a9 : Nat), ∃ (c_a9 : Nat), e5 = .returned (.tuple #[.slice a7 l_a7 c_a7, .slice a8 l_a8 c_a8, .slice a9 l_a9 c_a9]) ∧ 
    let p10 : Nat := w6.heap.size; let w11 : World := w6.alloc (.cells #[] 5); 
    RunWp Try.prog (Builtin.append_ #[36, 36] 36 #[.slice (some ⟨p10, 0, none⟩) 0 0, .slice a7 l_a7 c_a7]) (fun v12 w13 => ∃ (a14 : Option Addr), ∃ (l_a14 : Nat), ∃ (c_a14 : Nat), v12 = .slice a14 l_a14 c_a14 ∧ 
    let p15 : Nat := w13.heap.size; let w16 : World := w13.alloc (.cells #[.int .u8 3] 5); 
    RunWp Try.prog (Builtin.append_ #[36, 36] 36 #[.slice a14 l_a14 c_a14, .slice (some ⟨p15, 0, none⟩) 1 1]) (fun v17 w18 => ∃ (a19 : Option Addr), ∃ (l_a19 : Nat), ∃ (c_a19 : Nat), v17 = .slice a19 l_a19 c_a19 ∧ 
    0 ≤ ((l_a7 : Nat) : Int) ∧ ((l_a7 : Nat) : Int) ≤ (c_a19 : Nat) ∧ 
    Calls Try.prog 40 #[.slice (subS a19 c_a19 0 1) ((((l_a7 : Nat) : Int).toNat) - 0) (c_a19 - 0)] w18 (fun e20 w21 => ∃ (a22 : Option Addr), ∃ (l_a22 : Nat), ∃ (c_a22 : Nat), ∃ (n23 : Int), e20 = .returned (.tuple #[.slice a22 l_a22 c_a22, .int .i64 n23]) ∧ 
    0 ≤ ((l_a7 : Nat) : Int) ∧ ((l_a7 : Nat) : Int) ≤ (c_a19 : Nat) ∧ 
    Calls Try.prog 40 #[.slice (subS a19 c_a19 0 1) ((((l_a7 : Nat) : Int).toNat) - 0) (c_a19 - 0)] w21 (fun e24 w25 => ∃ (a26 : Option Addr), ∃ (l_a26 : Nat), ∃ (c_a26 : Nat), ∃ (n27 : Int), e24 = .returned (.tuple #[.slice a26 l_a26 c_a26, .int .i64 n27]) ∧ 
    let K39 : Bool → World → Prop := fun b37 w38 =>
        cond b37
          (K (.bool false) w38)
          (∃ (I42 : List Value → World → Prop) (μ43 : List Value → World → Nat), I42 [.int .i64 0] w38 ∧ ∀ (w41 : World) (n40 : Int), I42 [.int .i64 n40] w41 → 
          cond (decide (n40 < ((l_a19 : Nat) : Int)))
            (∃ q44 : Addr, a19 = some q44 ∧ 0 ≤ n40 ∧ n40 < (l_a19 : Nat) ∧ 
            wr w41 (q44.add (n40.toNat * 1)) ∧ let w45 : World := w41.setCell (q44.add (n40.toNat * 1)) (.int .u8 0); 
            I42 [.int .i64 (IntKind.i64.wrap (n40 + (1 : Int)))] w45 ∧ μ43 [.int .i64 (IntKind.i64.wrap (n40 + (1 : Int)))] w45 < μ43 [.int .i64 n40] w41)
            (∃ (I48 : List Value → World → Prop) (μ49 : List Value → World → Nat), I48 [.int .i64 0] w41 ∧ ∀ (w47 : World) (n46 : Int), I48 [.int .i64 n46] w47 → 
            cond (decide (n46 < ((l_a22 : Nat) : Int)))
              (∃ q50 : Addr, a22 = some q50 ∧ 0 ≤ n46 ∧ n46 < (l_a22 : Nat) ∧ 
              wrN w47 (q50.add (n46.toNat * 5)) 5 ∧ let w51 : World := setN (q50.add (n46.toNat * 5)) 0 [.int .i64 99, .int .i64 0, .int .i64 0, .int .i64 0, .int .u32 0] w47; 
              I48 [.int .i64 (IntKind.i64.wrap (n46 + (1 : Int)))] w51 ∧ μ49 [.int .i64 (IntKind.i64.wrap (n46 + (1 : Int)))] w51 < μ49 [.int .i64 n46] w47)
              (∃ (I55 : List Value → World → Prop) (μ56 : List Value → World → Nat), I55 [.slice a22 l_a22 c_a22, .int .i64 0] w47 ∧ ∀ (w54 : World) (l52 : Option Addr) (l_l52 : Nat) (c_l52 : Nat) (i53 : Int), I55 [.slice l52 l_l52 c_l52, .int .i64 i53] w54 → 
              cond (decide (i53 < (20 : Int)))
                (let p57 : Nat := w54.heap.size; let w58 : World := w54.alloc (.cells #[.int .i64 98, .int .i64 0, .int .i64 0, .int .i64 0, .int .u32 0] 57); 
                RunWp Try.prog (Builtin.append_ #[64, 64] 64 #[.slice l52 l_l52 c_l52, .slice (some ⟨p57, 0, none⟩) 1 1]) (fun v59 w60 => ∃ (a61 : Option Addr), ∃ (l_a61 : Nat), ∃ (c_a61 : Nat), v59 = .slice a61 l_a61 c_a61 ∧ 
                I55 [.slice a61 l_a61 c_a61, .int .i64 (IntKind.i64.wrap (i53 + (1 : Int)))] w60 ∧ μ56 [.slice a61 l_a61 c_a61, .int .i64 (IntKind.i64.wrap (i53 + (1 : Int)))] w60 < μ56 [.slice l52 l_l52 c_l52, .int .i64 i53] w54) w58)
                (Calls Try.prog 42 #[.slice a26 l_a26 c_a26, .slice a8 l_a8 c_a8] w54 (fun e62 w63 => ∃ (b64 : Bool), e62 = .returned (.bool b64) ∧ 
                cond (!b64)
                  (K (.bool false) w63)
                  (∃ (I68 : List Value → World → Prop) (μ69 : List Value → World → Nat), I68 [.bool false, .int .i64 0] w63 ∧ ∀ (w67 : World) (b65 : Bool) (n66 : Int), I68 [.bool b65, .int .i64 n66] w67 → 
                  cond (decide (n66 < ((l_a8 : Nat) : Int)))
                    (∃ q70 : Addr, a8 = some q70 ∧ 0 ≤ n66 ∧ n66 < (l_a8 : Nat) ∧ 
                    ∃ (n71 : Int), ∃ (n72 : Int), ∃ (n73 : Int), ∃ (n74 : Int), ∃ (n75 : Int), w67.cell? (q70.add (n66.toNat * 5)) = some (.int .i64 n71) ∧ w67.cell? ((q70.add (n66.toNat * 5)).add 1) = some (.int .i64 n72) ∧ w67.cell? ((q70.add (n66.toNat * 5)).add 2) = some (.int .i64 n73) ∧ w67.cell? ((q70.add (n66.toNat * 5)).add 3) = some (.int .i64 n74) ∧ w67.cell? ((q70.add (n66.toNat * 5)).add 4) = some (.int .u32 n75) ∧ 
                    let p76 : Nat := w67.heap.size; let w77 : World := w67.alloc (.cells #[.int .i64 0, .int .i64 0, .int .i64 0, .int .i64 0, .int .u32 0] 57); 
                    wrN w77 (⟨p76, 0, none⟩ : Addr) 5 ∧ let w78 : World := setN (⟨p76, 0, none⟩ : Addr) 0 [.int .i64 n71, .int .i64 n72, .int .i64 n73, .int .i64 n74, .int .u32 n75] w77; 
                    ∃ (op79 : Int), ∃ (op80 : Int), ∃ (op81 : Int), ∃ (op82 : Int), ∃ (op83 : Int), w78.cell? (⟨p76, 0, none⟩ : Addr) = some (.int .i64 op79) ∧ w78.cell? (⟨p76, 1, none⟩ : Addr) = some (.int .i64 op80) ∧ w78.cell? (⟨p76, 2, none⟩ : Addr) = some (.int .i64 op81) ∧ w78.cell? (⟨p76, 3, none⟩ : Addr) = some (.int .i64 op82) ∧ w78.cell? (⟨p76, 4, none⟩ : Addr) = some (.int .u32 op83) ∧ 
                    Calls Try.prog 37 #[.agg #[.int .i64 op79, .int .i64 op80, .int .i64 op81, .int .i64 op82, .int .u32 op83]] w78 (fun e84 w85 => ∃ (a86 : Option Addr), ∃ (l_a86 : Nat), ∃ (c_a86 : Nat), ∃ (n87 : Int), e84 = .returned (.tuple #[.slice a86 l_a86 c_a86, .int .i64 n87]) ∧ 
                    ∃ (op88 : Int), ∃ (op89 : Int), ∃ (op90 : Int), ∃ (op91 : Int), ∃ (op92 : Int), w85.cell? (⟨p76, 0, none⟩ : Addr) = some (.int .i64 op88) ∧ w85.cell? (⟨p76, 1, none⟩ : Addr) = some (.int .i64 op89) ∧ w85.cell? (⟨p76, 2, none⟩ : Addr) = some (.int .i64 op90) ∧ w85.cell? (⟨p76, 3, none⟩ : Addr) = some (.int .i64 op91) ∧ w85.cell? (⟨p76, 4, none⟩ : Addr) = some (.int .u32 op92) ∧ 
                    Calls Try.prog 37 #[.agg #[.int .i64 op88, .int .i64 op89, .int .i64 op90, .int .i64 op91, .int .u32 op92]] w85 (fun e93 w94 => ∃ (a95 : Option Addr), ∃ (l_a95 : Nat), ∃ (c_a95 : Nat), ∃ (n96 : Int), e93 = .returned (.tuple #[.slice a95 l_a95 c_a95, .int .i64 n96]) ∧ 
                    ∃ (I99 : List Value → World → Prop) (μ100 : List Value → World → Nat), I99 [.int .i64 0] w94 ∧ ∀ (w98 : World) (n97 : Int), I99 [.int .i64 n97] w98 → 
                    cond (decide (n97 < ((l_a86 : Nat) : Int)))
                      (∃ q101 : Addr, a86 = some q101 ∧ 0 ≤ n97 ∧ n97 < (l_a86 : Nat) ∧ 
                      wr w98 (q101.add (n97.toNat * 1)) ∧ let w102 : World := w98.setCell (q101.add (n97.toNat * 1)) (.int .u8 0); 
                      I99 [.int .i64 (IntKind.i64.wrap (n97 + (1 : Int)))] w102 ∧ μ100 [.int .i64 (IntKind.i64.wrap (n97 + (1 : Int)))] w102 < μ100 [.int .i64 n97] w98)
                      (∃ (I106 : List Value → World → Prop) (μ107 : List Value → World → Nat), I106 [.slice a86 l_a86 c_a86, .int .i64 0] w98 ∧ ∀ (w105 : World) (x103 : Option Addr) (l_x103 : Nat) (c_x103 : Nat) (i104 : Int), I106 [.slice x103 l_x103 c_x103, .int .i64 i104] w105 → 
                      cond (decide (i104 < (20 : Int)))
                        (let p108 : Nat := w105.heap.size; let w109 : World := w105.alloc (.cells #[.int .u8 1] 5); 
                        RunWp Try.prog (Builtin.append_ #[36, 36] 36 #[.slice x103 l_x103 c_x103, .slice (some ⟨p108, 0, none⟩) 1 1]) (fun v110 w111 => ∃ (a112 : Option Addr), ∃ (l_a112 : Nat), ∃ (c_a112 : Nat), v110 = .slice a112 l_a112 c_a112 ∧ 
                        I106 [.slice a112 l_a112 c_a112, .int .i64 (IntKind.i64.wrap (i104 + (1 : Int)))] w111 ∧ μ107 [.slice a112 l_a112 c_a112, .int .i64 (IntKind.i64.wrap (i104 + (1 : Int)))] w111 < μ107 [.slice x103 l_x103 c_x103, .int .i64 i104] w105) w109)
                        (let w113 : World := w105.drew; 
                        RunWp Try.prog (convert 36 9 (.slice a95 l_a95 c_a95)) (fun v114 w115 => w115 = w113 ∧ ∃ (s116 : ByteArray), v114 = .string s116 ∧ 
                        ∃ (op117 : Int), ∃ (op118 : Int), ∃ (op119 : Int), ∃ (op120 : Int), ∃ (op121 : Int), w113.cell? (⟨p76, 0, none⟩ : Addr) = some (.int .i64 op117) ∧ w113.cell? (⟨p76, 1, none⟩ : Addr) = some (.int .i64 op118) ∧ w113.cell? (⟨p76, 2, none⟩ : Addr) = some (.int .i64 op119) ∧ w113.cell? (⟨p76, 3, none⟩ : Addr) = some (.int .i64 op120) ∧ w113.cell? (⟨p76, 4, none⟩ : Addr) = some (.int .u32 op121) ∧ 
                        Calls Try.prog 39 #[.agg #[.int .i64 op117, .int .i64 op118, .int .i64 op119, .int .i64 op120, .int .u32 op121]] w113 (fun e122 w123 => ∃ (a124 : Option Addr), ∃ (l_a124 : Nat), ∃ (c_a124 : Nat), e122 = .returned (.slice a124 l_a124 c_a124) ∧ 
                        (RunWp Try.prog (convert 36 9 (.slice a95 l_a95 c_a95)) (fun v125 w126 => w126 = w123 ∧ ∃ (s127 : ByteArray), v125 = .string s127 ∧ 
                          (some (.string s116) : Option Value) = some (.string s127)) w123)
                        ∧ (RunWp Try.prog (convert 36 9 (.slice a124 l_a124 c_a124)) (fun v128 w129 => w129 = w123 ∧ ∃ (s130 : ByteArray), v128 = .string s130 ∧ 
                          cond (!(s116.toList == s130.toList))
                            (K (.bool false) w123)
                            (I68 [.bool b65, .int .i64 (IntKind.i64.wrap (n66 + (1 : Int)))] w123 ∧ μ69 [.bool b65, .int .i64 (IntKind.i64.wrap (n66 + (1 : Int)))] w123 < μ69 [.bool b65, .int .i64 n66] w67)) w123))) w113)))))
                    (K (.bool true) w67)))))))
    let w28 : World := w25.drew; 
    0 ≤ ((l_a7 : Nat) : Int) ∧ ((l_a7 : Nat) : Int) ≤ (c_a19 : Nat) ∧ 
    RunWp Try.prog (convert 36 9 (.slice (subS a19 c_a19 0 1) ((((l_a7 : Nat) : Int).toNat) - 0) (c_a19 - 0))) (fun v29 w30 => w30 = w28 ∧ ∃ (s31 : ByteArray), v29 = .string s31 ∧ 
    RunWp Try.prog (convert 36 9 (.slice a7 l_a7 c_a7)) (fun v32 w33 => w33 = w28 ∧ ∃ (s34 : ByteArray), v32 = .string s34 ∧ 
    cond (!(s31.toList == s34.toList))
      (K39 true w28)
      (∃ q35 : Addr, a19 = some q35 ∧ 0 ≤ ((l_a7 : Nat) : Int) ∧ ((l_a7 : Nat) : Int) < (l_a19 : Nat) ∧ 
      ∃ (n36 : Int), w28.cell? (q35.add (((l_a7 : Nat) : Int).toNat * 1)) = some (.int .u8 n36) ∧ 
      K39 (n36 != (3 : Int)) w28)) w28) w28))) w16) w11)))
theorem sh12_eq (ops1 : Option Addr) (l_ops1 : Nat) (c_ops1 : Nat) (K : Value → World → Prop) (w : World) : denF X Try.f12 [.slice ops1 l_ops1 c_ops1] K w = sh12 ops1 l_ops1 c_ops1 K w := by kernel_rfl
theorem c12 {ops1 : Option Addr} {l_ops1 : Nat} {c_ops1 : Nat} {w : World} {R : Ending → World → Prop} (h : sh12 ops1 l_ops1 c_ops1 (fun v w' => R (.returned v) w') w) : Calls Try.prog 12 #[.slice ops1 l_ops1 c_ops1] w R :=
  callOf Try.func12 (args := [.slice ops1 l_ops1 c_ops1]) (Eq.mpr (sh12_eq ops1 l_ops1 c_ops1 _ w) h)

end Go.Proofs.Ytmfidfaiopogbaa
