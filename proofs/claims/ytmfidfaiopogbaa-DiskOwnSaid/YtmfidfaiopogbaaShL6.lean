/- The shallow texts of these functions, and that they are the code's own; printed by a program of this session (gosh.py). -/
import Derived.Test.YtmfidfaiopogbaaShX
set_option linter.unusedVariables false
set_option maxRecDepth 100000
namespace Go.Proofs.Ytmfidfaiopogbaa
open Go Go.Sh
/-- bramble/bramblelaw18.DiskOwn -/
def sh6 (script1 : Option Addr) (l_script1 : Nat) (c_script1 : Nat) (b2 : Option Addr) (l_b2 : Nat) (c_b2 : Nat) (K : Value → World → Prop) (w : World) : Prop :=
  Calls Try.prog 21 #[.slice script1 l_script1 c_script1] w (fun e3 w4 => ∃ (p5 : Option Addr), ∃ (a6 : Option Addr), ∃ (l_a6 : Nat), ∃ (c_a6 : Nat), ∃ (n7 : Int), ∃ (b8 : Bool), ∃ (n9 : Int), ∃ (b10 : Bool), e3 = .returned (.tuple #[.pointer p5, .agg #[.slice a6 l_a6 c_a6, .int .i64 n7, .bool b8, .int .i64 n9], .bool b10]) ∧ 
  let p11 : Nat := w4.heap.size; let w12 : World := w4.alloc (.cells #[.slice none 0 0, .int .i64 0, .bool false, .int .i64 0] 26); 
  wrN w12 (⟨p11, 0, none⟩ : Addr) 4 ∧ let w13 : World := setN (⟨p11, 0, none⟩ : Addr) 0 [.slice a6 l_a6 c_a6, .int .i64 n7, .bool b8, .int .i64 n9] w12; 
  let K19 : Bool → World → Prop := fun b17 w18 =>
      cond b17
        (K (.bool false) w18)
        (0 ≤ (mnI ((l_b2 : Nat) : Int) (8 : Int)) ∧ (mnI ((l_b2 : Nat) : Int) (8 : Int)) ≤ (c_b2 : Nat) ∧ 
        let p20 : Nat := w18.heap.size; let w21 : World := w18.alloc (.cells #[] 5); 
        RunWp Try.prog (Builtin.append_ #[36, 36] 36 #[.slice (some ⟨p20, 0, none⟩) 0 0, .slice (subS b2 c_b2 0 1) (((mnI ((l_b2 : Nat) : Int) (8 : Int)).toNat) - 0) (c_b2 - 0)]) (fun v22 w23 => ∃ (a24 : Option Addr), ∃ (l_a24 : Nat), ∃ (c_a24 : Nat), v22 = .slice a24 l_a24 c_a24 ∧ 
        let p25 : Nat := w23.heap.size; let w26 : World := w23.alloc (.cells #[.int .u8 77] 5); 
        RunWp Try.prog (Builtin.append_ #[36, 36] 36 #[.slice a24 l_a24 c_a24, .slice (some ⟨p25, 0, none⟩) 1 1]) (fun v27 w28 => ∃ (a29 : Option Addr), ∃ (l_a29 : Nat), ∃ (c_a29 : Nat), v27 = .slice a29 l_a29 c_a29 ∧ 
        Calls Try.prog 23 #[.pointer p5, .int .i64 1099511627776] w28 (fun e30 w31 => ∃ (p32 : Option Addr), e30 = .returned (.pointer p32) ∧ 
        cond p32.isNone
          (K (.bool false) w31)
          (∃ (m33 : Option Addr), ∃ (l_m33 : Nat), ∃ (c_m33 : Nat), ∃ (m34 : Int), ∃ (m35 : Bool), ∃ (m36 : Int), w31.cell? (⟨p11, 0, none⟩ : Addr) = some (.slice m33 l_m33 c_m33) ∧ w31.cell? (⟨p11, 1, none⟩ : Addr) = some (.int .i64 m34) ∧ w31.cell? (⟨p11, 2, none⟩ : Addr) = some (.bool m35) ∧ w31.cell? (⟨p11, 3, none⟩ : Addr) = some (.int .i64 m36) ∧ 
          Calls Try.prog 24 #[.agg #[.slice m33 l_m33 c_m33, .int .i64 m34, .bool m35, .int .i64 m36], .int .i64 1099511627776] w31 (fun e37 w38 => ∃ (a39 : Option Addr), ∃ (l_a39 : Nat), ∃ (c_a39 : Nat), ∃ (n40 : Int), ∃ (b41 : Bool), ∃ (n42 : Int), e37 = .returned (.agg #[.slice a39 l_a39 c_a39, .int .i64 n40, .bool b41, .int .i64 n42]) ∧ 
          let p43 : Nat := w38.heap.size; let w44 : World := w38.alloc (.cells #[.slice none 0 0, .int .i64 0, .bool false, .int .i64 0] 26); 
          wrN w44 (⟨p43, 0, none⟩ : Addr) 4 ∧ let w45 : World := setN (⟨p43, 0, none⟩ : Addr) 0 [.slice a39 l_a39 c_a39, .int .i64 n40, .bool b41, .int .i64 n42] w44; 
          let K60 : Bool → World → Prop := fun b58 w59 =>
              cond b58
                (K (.bool false) w59)
                (∃ (n61 : Option Addr), ∃ (l_n61 : Nat), ∃ (c_n61 : Nat), ∃ (n62 : Int), ∃ (n63 : Bool), ∃ (n64 : Int), w59.cell? (⟨p43, 0, none⟩ : Addr) = some (.slice n61 l_n61 c_n61) ∧ w59.cell? (⟨p43, 1, none⟩ : Addr) = some (.int .i64 n62) ∧ w59.cell? (⟨p43, 2, none⟩ : Addr) = some (.bool n63) ∧ w59.cell? (⟨p43, 3, none⟩ : Addr) = some (.int .i64 n64) ∧ 
                Calls Try.prog 32 #[.agg #[.slice n61 l_n61 c_n61, .int .i64 n62, .bool n63, .int .i64 n64], .int .i64 1, .int .i64 0, .slice (subS b2 c_b2 0 1) (((mnI ((l_b2 : Nat) : Int) (8 : Int)).toNat) - 0) (c_b2 - 0)] w59 (fun e65 w66 => ∃ (a67 : Option Addr), ∃ (l_a67 : Nat), ∃ (c_a67 : Nat), ∃ (n68 : Int), ∃ (b69 : Bool), ∃ (n70 : Int), ∃ (n71 : Int), e65 = .returned (.tuple #[.agg #[.slice a67 l_a67 c_a67, .int .i64 n68, .bool b69, .int .i64 n70], .int .i64 n71]) ∧ 
                wrN w66 (⟨p43, 0, none⟩ : Addr) 4 ∧ let w72 : World := setN (⟨p43, 0, none⟩ : Addr) 0 [.slice a67 l_a67 c_a67, .int .i64 n68, .bool b69, .int .i64 n70] w66; 
                ∃ (I75 : List Value → World → Prop) (μ76 : List Value → World → Nat), I75 [.int .i64 0] w72 ∧ ∀ (w74 : World) (n73 : Int), I75 [.int .i64 n73] w74 → 
                cond (decide (n73 < ((l_a29 : Nat) : Int)))
                  (∃ q77 : Addr, a29 = some q77 ∧ 0 ≤ n73 ∧ n73 < (l_a29 : Nat) ∧ 
                  wr w74 (q77.add (n73.toNat * 1)) ∧ let w78 : World := w74.setCell (q77.add (n73.toNat * 1)) (.int .u8 0); 
                  I75 [.int .i64 (IntKind.i64.wrap (n73 + (1 : Int)))] w78 ∧ μ76 [.int .i64 (IntKind.i64.wrap (n73 + (1 : Int)))] w78 < μ76 [.int .i64 n73] w74)
                  (Calls Try.prog 29 #[.pointer p32, .int .i64 1] w74 (fun e79 w80 => ∃ (a81 : Option Addr), ∃ (l_a81 : Nat), ∃ (c_a81 : Nat), e79 = .returned (.slice a81 l_a81 c_a81) ∧ 
                  ∃ (I84 : List Value → World → Prop) (μ85 : List Value → World → Nat), I84 [.int .i64 0] w80 ∧ ∀ (w83 : World) (n82 : Int), I84 [.int .i64 n82] w83 → 
                  cond (decide (n82 < ((l_a81 : Nat) : Int)))
                    (∃ q86 : Addr, a81 = some q86 ∧ 0 ≤ n82 ∧ n82 < (l_a81 : Nat) ∧ 
                    wr w83 (q86.add (n82.toNat * 1)) ∧ let w87 : World := w83.setCell (q86.add (n82.toNat * 1)) (.int .u8 122); 
                    I84 [.int .i64 (IntKind.i64.wrap (n82 + (1 : Int)))] w87 ∧ μ85 [.int .i64 (IntKind.i64.wrap (n82 + (1 : Int)))] w87 < μ85 [.int .i64 n82] w83)
                    (∃ (I91 : List Value → World → Prop) (μ92 : List Value → World → Nat), I91 [.slice a81 l_a81 c_a81, .int .i64 0] w83 ∧ ∀ (w90 : World) (one88 : Option Addr) (l_one88 : Nat) (c_one88 : Nat) (i89 : Int), I91 [.slice one88 l_one88 c_one88, .int .i64 i89] w90 → 
                    cond (decide (i89 < (20 : Int)))
                      (let p93 : Nat := w90.heap.size; let w94 : World := w90.alloc (.cells #[.int .u8 121] 5); 
                      RunWp Try.prog (Builtin.append_ #[36, 36] 36 #[.slice one88 l_one88 c_one88, .slice (some ⟨p93, 0, none⟩) 1 1]) (fun v95 w96 => ∃ (a97 : Option Addr), ∃ (l_a97 : Nat), ∃ (c_a97 : Nat), v95 = .slice a97 l_a97 c_a97 ∧ 
                      I91 [.slice a97 l_a97 c_a97, .int .i64 (IntKind.i64.wrap (i89 + (1 : Int)))] w96 ∧ μ92 [.slice a97 l_a97 c_a97, .int .i64 (IntKind.i64.wrap (i89 + (1 : Int)))] w96 < μ92 [.slice one88 l_one88 c_one88, .int .i64 i89] w90) w94)
                      (Calls Try.prog 23 #[.pointer p32, .int .i64 1] w90 (fun e98 w99 => ∃ (p100 : Option Addr), e98 = .returned (.pointer p100) ∧ 
                      cond (!p100.isNone)
                        (∃ (n101 : Option Addr), ∃ (l_n101 : Nat), ∃ (c_n101 : Nat), ∃ (n102 : Int), ∃ (n103 : Bool), ∃ (n104 : Int), w99.cell? (⟨p43, 0, none⟩ : Addr) = some (.slice n101 l_n101 c_n101) ∧ w99.cell? (⟨p43, 1, none⟩ : Addr) = some (.int .i64 n102) ∧ w99.cell? (⟨p43, 2, none⟩ : Addr) = some (.bool n103) ∧ w99.cell? (⟨p43, 3, none⟩ : Addr) = some (.int .i64 n104) ∧ 
                        Calls Try.prog 25 #[.pointer p32, .agg #[.slice n101 l_n101 c_n101, .int .i64 n102, .bool n103, .int .i64 n104]] w99 (fun e105 w106 => ∃ (b107 : Bool), e105 = .returned (.bool b107) ∧ 
                        cond b107
                          (∃ (m108 : Option Addr), ∃ (l_m108 : Nat), ∃ (c_m108 : Nat), ∃ (m109 : Int), ∃ (m110 : Bool), ∃ (m111 : Int), w106.cell? (⟨p11, 0, none⟩ : Addr) = some (.slice m108 l_m108 c_m108) ∧ w106.cell? (⟨p11, 1, none⟩ : Addr) = some (.int .i64 m109) ∧ w106.cell? (⟨p11, 2, none⟩ : Addr) = some (.bool m110) ∧ w106.cell? (⟨p11, 3, none⟩ : Addr) = some (.int .i64 m111) ∧ 
                          Calls Try.prog 25 #[.pointer p5, .agg #[.slice m108 l_m108 c_m108, .int .i64 m109, .bool m110, .int .i64 m111]] w106 (fun e112 w113 => ∃ (b114 : Bool), e112 = .returned (.bool b114) ∧ 
                          cond b114
                            (∃ (n115 : Option Addr), ∃ (l_n115 : Nat), ∃ (c_n115 : Nat), ∃ (n116 : Int), ∃ (n117 : Bool), ∃ (n118 : Int), w113.cell? (⟨p43, 0, none⟩ : Addr) = some (.slice n115 l_n115 c_n115) ∧ w113.cell? (⟨p43, 1, none⟩ : Addr) = some (.int .i64 n116) ∧ w113.cell? (⟨p43, 2, none⟩ : Addr) = some (.bool n117) ∧ w113.cell? (⟨p43, 3, none⟩ : Addr) = some (.int .i64 n118) ∧ 
                            Calls Try.prog 24 #[.agg #[.slice n115 l_n115 c_n115, .int .i64 n116, .bool n117, .int .i64 n118], .int .i64 1] w113 (fun e119 w120 => ∃ (a121 : Option Addr), ∃ (l_a121 : Nat), ∃ (c_a121 : Nat), ∃ (n122 : Int), ∃ (b123 : Bool), ∃ (n124 : Int), e119 = .returned (.agg #[.slice a121 l_a121 c_a121, .int .i64 n122, .bool b123, .int .i64 n124]) ∧ 
                            Calls Try.prog 25 #[.pointer p100, .agg #[.slice a121 l_a121 c_a121, .int .i64 n122, .bool b123, .int .i64 n124]] w120 (fun e125 w126 => ∃ (b127 : Bool), e125 = .returned (.bool b127) ∧ 
                            cond b127
                              (∃ q128 : Addr, one88 = some q128 ∧ 0 ≤ (IntKind.i64.wrap (((l_one88 : Nat) : Int) - (1 : Int))) ∧ (IntKind.i64.wrap (((l_one88 : Nat) : Int) - (1 : Int))) < (l_one88 : Nat) ∧ 
                              ∃ (n129 : Int), w126.cell? (q128.add ((IntKind.i64.wrap (((l_one88 : Nat) : Int) - (1 : Int))).toNat * 1)) = some (.int .u8 n129) ∧ 
                              K (.bool (n129 == (121 : Int))) w126)
                              (K (.bool false) w126))))
                            (K (.bool false) w113)))
                          (K (.bool false) w106)))
                        (K (.bool false) w99))))))))
          let w46 : World := w45.drew; 
          0 ≤ ((((mnI ((l_b2 : Nat) : Int) (8 : Int)).toNat) - 0 : Nat) : Int) ∧ ((((mnI ((l_b2 : Nat) : Int) (8 : Int)).toNat) - 0 : Nat) : Int) ≤ (c_a29 : Nat) ∧ 
          Calls Try.prog 31 #[.pointer p32, .int .i64 1, .int .i64 0, .slice (subS a29 c_a29 0 1) ((((((mnI ((l_b2 : Nat) : Int) (8 : Int)).toNat) - 0 : Nat) : Int).toNat) - 0) (c_a29 - 0)] w46 (fun e47 w48 => ∃ (n49 : Int), e47 = .returned (.int .i64 n49) ∧ 
          cond (n49 != (0 : Int))
            (K60 true w48)
            (0 ≤ ((((mnI ((l_b2 : Nat) : Int) (8 : Int)).toNat) - 0 : Nat) : Int) ∧ ((((mnI ((l_b2 : Nat) : Int) (8 : Int)).toNat) - 0 : Nat) : Int) ≤ (c_a29 : Nat) ∧ 
            RunWp Try.prog (convert 36 9 (.slice (subS a29 c_a29 0 1) ((((((mnI ((l_b2 : Nat) : Int) (8 : Int)).toNat) - 0 : Nat) : Int).toNat) - 0) (c_a29 - 0))) (fun v50 w51 => w51 = w48 ∧ ∃ (s52 : ByteArray), v50 = .string s52 ∧ 
            RunWp Try.prog (convert 36 9 (.slice (subS b2 c_b2 0 1) (((mnI ((l_b2 : Nat) : Int) (8 : Int)).toNat) - 0) (c_b2 - 0))) (fun v53 w54 => w54 = w48 ∧ ∃ (s55 : ByteArray), v53 = .string s55 ∧ 
            cond (!(s52.toList == s55.toList))
              (K60 true w48)
              (∃ q56 : Addr, a29 = some q56 ∧ 0 ≤ ((((mnI ((l_b2 : Nat) : Int) (8 : Int)).toNat) - 0 : Nat) : Int) ∧ ((((mnI ((l_b2 : Nat) : Int) (8 : Int)).toNat) - 0 : Nat) : Int) < (l_a29 : Nat) ∧ 
              ∃ (n57 : Int), w48.cell? (q56.add (((((mnI ((l_b2 : Nat) : Int) (8 : Int)).toNat) - 0 : Nat) : Int).toNat * 1)) = some (.int .u8 n57) ∧ 
              K60 (n57 != (77 : Int)) w48)) w48) w48)))))) w26) w21)
  Calls Try.prog 22 #[] w13 (fun e14 w15 => ∃ (b16 : Bool), e14 = .returned (.bool b16) ∧ 
  cond (!b16)
    (K19 true w15)
    (K19 (!b10) w15)))
theorem sh6_eq (script1 : Option Addr) (l_script1 : Nat) (c_script1 : Nat) (b2 : Option Addr) (l_b2 : Nat) (c_b2 : Nat) (K : Value → World → Prop) (w : World) : denF X Try.f6 [.slice script1 l_script1 c_script1, .slice b2 l_b2 c_b2] K w = sh6 script1 l_script1 c_script1 b2 l_b2 c_b2 K w := by kernel_rfl
theorem c6 {script1 : Option Addr} {l_script1 : Nat} {c_script1 : Nat} {b2 : Option Addr} {l_b2 : Nat} {c_b2 : Nat} {w : World} {R : Ending → World → Prop} (h : sh6 script1 l_script1 c_script1 b2 l_b2 c_b2 (fun v w' => R (.returned v) w') w) : Calls Try.prog 6 #[.slice script1 l_script1 c_script1, .slice b2 l_b2 c_b2] w R :=
  callOf Try.func6 (args := [.slice script1 l_script1 c_script1, .slice b2 l_b2 c_b2]) (Eq.mpr (sh6_eq script1 l_script1 c_script1 b2 l_b2 c_b2 _ w) h)

end Go.Proofs.Ytmfidfaiopogbaa
