/- The shallow texts of these functions, and that they are the code's own; printed by a program of this session (gosh.py). -/
import Derived.Test.YtmfidfaiopogbaaShX
set_option linter.unusedVariables false
set_option maxRecDepth 100000
namespace Go.Proofs.Ytmfidfaiopogbaa
open Go Go.Sh
/-- bramble/bramblelaw18.DiskSyncs -/
def sh5 (script1 : Option Addr) (l_script1 : Nat) (c_script1 : Nat) (keep2 : Int) (K : Value → World → Prop) (w : World) : Prop :=
  Calls Try.prog 21 #[.slice script1 l_script1 c_script1] w (fun e3 w4 => ∃ (p5 : Option Addr), ∃ (a6 : Option Addr), ∃ (l_a6 : Nat), ∃ (c_a6 : Nat), ∃ (n7 : Int), ∃ (b8 : Bool), ∃ (n9 : Int), ∃ (b10 : Bool), e3 = .returned (.tuple #[.pointer p5, .agg #[.slice a6 l_a6 c_a6, .int .i64 n7, .bool b8, .int .i64 n9], .bool b10]) ∧ 
  let p11 : Nat := w4.heap.size; let w12 : World := w4.alloc (.cells #[.slice none 0 0, .int .i64 0, .bool false, .int .i64 0] 26); 
  wrN w12 (⟨p11, 0, none⟩ : Addr) 4 ∧ let w13 : World := setN (⟨p11, 0, none⟩ : Addr) 0 [.slice a6 l_a6 c_a6, .int .i64 n7, .bool b8, .int .i64 n9] w12; 
  let K19 : Bool → World → Prop := fun b17 w18 =>
      cond b17
        (K (.bool false) w18)
        (Calls Try.prog 23 #[.pointer p5, .int .i64 1099511627776] w18 (fun e20 w21 => ∃ (p22 : Option Addr), e20 = .returned (.pointer p22) ∧ 
        let K107 : Bool → World → Prop := fun b105 w106 =>
            cond b105
              (K (.bool false) w106)
              (Calls Try.prog 30 #[.pointer p5] w106 (fun e108 w109 => ∃ (n110 : Int), e108 = .returned (.int .i64 n110) ∧ 
              Calls Try.prog 23 #[.pointer p5, .int .i64 keep2] w109 (fun e111 w112 => ∃ (p113 : Option Addr), e111 = .returned (.pointer p113) ∧ 
              let K116 : Bool → World → Prop := fun b114 w115 =>
                  cond b114
                    (K (.bool false) w115)
                    (let w117 : World := w115.drew; 
                    cond (n110 == (180 : Int))
                      (K (.bool true) w117)
                      (Calls Try.prog 27 #[.pointer p5] w117 (fun e118 w119 => ∃ (n120 : Int), e118 = .returned (.int .i64 n120) ∧ 
                      cond (n120 == (0 : Int))
                        (Calls Try.prog 29 #[.pointer p113, .int .i64 1] w119 (fun e121 w122 => ∃ (a123 : Option Addr), ∃ (l_a123 : Nat), ∃ (c_a123 : Nat), e121 = .returned (.slice a123 l_a123 c_a123) ∧ 
                        RunWp Try.prog (convert 36 9 (.slice a123 l_a123 c_a123)) (fun v124 w125 => w125 = w122 ∧ ∃ (s126 : ByteArray), v124 = .string s126 ∧ 
                        Calls Try.prog 29 #[.pointer p5, .int .i64 1] w122 (fun e127 w128 => ∃ (a129 : Option Addr), ∃ (l_a129 : Nat), ∃ (c_a129 : Nat), e127 = .returned (.slice a129 l_a129 c_a129) ∧ 
                        (RunWp Try.prog (convert 36 9 (.slice a123 l_a123 c_a123)) (fun v130 w131 => w131 = w128 ∧ ∃ (s132 : ByteArray), v130 = .string s132 ∧ 
                          (some (.string s126) : Option Value) = some (.string s132)) w128)
                        ∧ (RunWp Try.prog (convert 36 9 (.slice a129 l_a129 c_a129)) (fun v133 w134 => w134 = w128 ∧ ∃ (s135 : ByteArray), v133 = .string s135 ∧ 
                          cond (s126.toList == s135.toList)
                            (Calls Try.prog 29 #[.pointer p113, .int .i64 2] w128 (fun e136 w137 => ∃ (a138 : Option Addr), ∃ (l_a138 : Nat), ∃ (c_a138 : Nat), e136 = .returned (.slice a138 l_a138 c_a138) ∧ 
                            RunWp Try.prog (convert 36 9 (.slice a138 l_a138 c_a138)) (fun v139 w140 => w140 = w137 ∧ ∃ (s141 : ByteArray), v139 = .string s141 ∧ 
                            Calls Try.prog 29 #[.pointer p5, .int .i64 2] w137 (fun e142 w143 => ∃ (a144 : Option Addr), ∃ (l_a144 : Nat), ∃ (c_a144 : Nat), e142 = .returned (.slice a144 l_a144 c_a144) ∧ 
                            (RunWp Try.prog (convert 36 9 (.slice a138 l_a138 c_a138)) (fun v145 w146 => w146 = w143 ∧ ∃ (s147 : ByteArray), v145 = .string s147 ∧ 
                              (some (.string s141) : Option Value) = some (.string s147)) w143)
                            ∧ (RunWp Try.prog (convert 36 9 (.slice a144 l_a144 c_a144)) (fun v148 w149 => w149 = w143 ∧ ∃ (s150 : ByteArray), v148 = .string s150 ∧ 
                              cond (s141.toList == s150.toList)
                                (Calls Try.prog 29 #[.pointer p113, .int .i64 0] w143 (fun e151 w152 => ∃ (a153 : Option Addr), ∃ (l_a153 : Nat), ∃ (c_a153 : Nat), e151 = .returned (.slice a153 l_a153 c_a153) ∧ 
                                RunWp Try.prog (convert 36 9 (.slice a153 l_a153 c_a153)) (fun v154 w155 => w155 = w152 ∧ ∃ (s156 : ByteArray), v154 = .string s156 ∧ 
                                Calls Try.prog 29 #[.pointer p5, .int .i64 0] w152 (fun e157 w158 => ∃ (a159 : Option Addr), ∃ (l_a159 : Nat), ∃ (c_a159 : Nat), e157 = .returned (.slice a159 l_a159 c_a159) ∧ 
                                (RunWp Try.prog (convert 36 9 (.slice a153 l_a153 c_a153)) (fun v160 w161 => w161 = w158 ∧ ∃ (s162 : ByteArray), v160 = .string s162 ∧ 
                                  (some (.string s156) : Option Value) = some (.string s162)) w158)
                                ∧ (RunWp Try.prog (convert 36 9 (.slice a159 l_a159 c_a159)) (fun v163 w164 => w164 = w158 ∧ ∃ (s165 : ByteArray), v163 = .string s165 ∧ 
                                  K (.bool (s156.toList == s165.toList)) w158) w158))) w152))
                                (K (.bool false) w143)) w143))) w137))
                            (K (.bool false) w128)) w128))) w122))
                        (K (.bool false) w119))))
              cond p113.isNone
                (K116 true w112)
                (cond (n110 != (0 : Int))
                  (K116 (n110 != (180 : Int)) w112)
                  (K116 false w112)))))
        let w23 : World := w21.drew; 
        cond p22.isNone
          (K107 true w23)
          (Calls Try.prog 29 #[.pointer p22, .int .i64 0] w23 (fun e24 w25 => ∃ (a26 : Option Addr), ∃ (l_a26 : Nat), ∃ (c_a26 : Nat), e24 = .returned (.slice a26 l_a26 c_a26) ∧ 
          RunWp Try.prog (convert 36 9 (.slice a26 l_a26 c_a26)) (fun v27 w28 => w28 = w25 ∧ ∃ (s29 : ByteArray), v27 = .string s29 ∧ 
          ((s29.size + ({ data := #[124] } : ByteArray).size : Nat) : Int) ≤ 9223372036854775807 ∧ 
          Calls Try.prog 29 #[.pointer p22, .int .i64 1] w25 (fun e30 w31 => ∃ (a32 : Option Addr), ∃ (l_a32 : Nat), ∃ (c_a32 : Nat), e30 = .returned (.slice a32 l_a32 c_a32) ∧ 
          (RunWp Try.prog (convert 36 9 (.slice a26 l_a26 c_a26)) (fun v33 w34 => w34 = w31 ∧ ∃ (s35 : ByteArray), v33 = .string s35 ∧ 
            (some (.string s29) : Option Value) = some (.string s35)) w31)
          ∧ (RunWp Try.prog (convert 36 9 (.slice a32 l_a32 c_a32)) (fun v36 w37 => w37 = w31 ∧ ∃ (s38 : ByteArray), v36 = .string s38 ∧ 
            (((s29 ++ ({ data := #[124] } : ByteArray)).size + s38.size : Nat) : Int) ≤ 9223372036854775807 ∧ 
            ((((s29 ++ ({ data := #[124] } : ByteArray)) ++ s38).size + ({ data := #[124] } : ByteArray).size : Nat) : Int) ≤ 9223372036854775807 ∧ 
            Calls Try.prog 29 #[.pointer p22, .int .i64 2] w31 (fun e39 w40 => ∃ (a41 : Option Addr), ∃ (l_a41 : Nat), ∃ (c_a41 : Nat), e39 = .returned (.slice a41 l_a41 c_a41) ∧ 
            (RunWp Try.prog (convert 36 9 (.slice a26 l_a26 c_a26)) (fun v42 w43 => w43 = w40 ∧ ∃ (s44 : ByteArray), v42 = .string s44 ∧ 
              (some (.string s29) : Option Value) = some (.string s44)) w40)
            ∧ ((RunWp Try.prog (convert 36 9 (.slice a32 l_a32 c_a32)) (fun v45 w46 => w46 = w40 ∧ ∃ (s47 : ByteArray), v45 = .string s47 ∧ 
                (some (.string s38) : Option Value) = some (.string s47)) w40)
              ∧ (RunWp Try.prog (convert 36 9 (.slice a41 l_a41 c_a41)) (fun v48 w49 => w49 = w40 ∧ ∃ (s50 : ByteArray), v48 = .string s50 ∧ 
                (((((s29 ++ ({ data := #[124] } : ByteArray)) ++ s38) ++ ({ data := #[124] } : ByteArray)).size + s50.size : Nat) : Int) ≤ 9223372036854775807 ∧ 
                Calls Try.prog 29 #[.pointer p5, .int .i64 0] w40 (fun e51 w52 => ∃ (a53 : Option Addr), ∃ (l_a53 : Nat), ∃ (c_a53 : Nat), e51 = .returned (.slice a53 l_a53 c_a53) ∧ 
                (RunWp Try.prog (convert 36 9 (.slice a26 l_a26 c_a26)) (fun v54 w55 => w55 = w52 ∧ ∃ (s56 : ByteArray), v54 = .string s56 ∧ 
                  (some (.string s29) : Option Value) = some (.string s56)) w52)
                ∧ ((RunWp Try.prog (convert 36 9 (.slice a32 l_a32 c_a32)) (fun v57 w58 => w58 = w52 ∧ ∃ (s59 : ByteArray), v57 = .string s59 ∧ 
                    (some (.string s38) : Option Value) = some (.string s59)) w52)
                  ∧ ((RunWp Try.prog (convert 36 9 (.slice a41 l_a41 c_a41)) (fun v60 w61 => w61 = w52 ∧ ∃ (s62 : ByteArray), v60 = .string s62 ∧ 
                      (some (.string s50) : Option Value) = some (.string s62)) w52)
                    ∧ (RunWp Try.prog (convert 36 9 (.slice a53 l_a53 c_a53)) (fun v63 w64 => w64 = w52 ∧ ∃ (s65 : ByteArray), v63 = .string s65 ∧ 
                      ((s65.size + ({ data := #[124] } : ByteArray).size : Nat) : Int) ≤ 9223372036854775807 ∧ 
                      Calls Try.prog 29 #[.pointer p5, .int .i64 1] w52 (fun e66 w67 => ∃ (a68 : Option Addr), ∃ (l_a68 : Nat), ∃ (c_a68 : Nat), e66 = .returned (.slice a68 l_a68 c_a68) ∧ 
                      (RunWp Try.prog (convert 36 9 (.slice a26 l_a26 c_a26)) (fun v69 w70 => w70 = w67 ∧ ∃ (s71 : ByteArray), v69 = .string s71 ∧ 
                        (some (.string s29) : Option Value) = some (.string s71)) w67)
                      ∧ ((RunWp Try.prog (convert 36 9 (.slice a32 l_a32 c_a32)) (fun v72 w73 => w73 = w67 ∧ ∃ (s74 : ByteArray), v72 = .string s74 ∧ 
                          (some (.string s38) : Option Value) = some (.string s74)) w67)
                        ∧ ((RunWp Try.prog (convert 36 9 (.slice a41 l_a41 c_a41)) (fun v75 w76 => w76 = w67 ∧ ∃ (s77 : ByteArray), v75 = .string s77 ∧ 
                            (some (.string s50) : Option Value) = some (.string s77)) w67)
                          ∧ ((RunWp Try.prog (convert 36 9 (.slice a53 l_a53 c_a53)) (fun v78 w79 => w79 = w67 ∧ ∃ (s80 : ByteArray), v78 = .string s80 ∧ 
                              (some (.string s65) : Option Value) = some (.string s80)) w67)
                            ∧ (RunWp Try.prog (convert 36 9 (.slice a68 l_a68 c_a68)) (fun v81 w82 => w82 = w67 ∧ ∃ (s83 : ByteArray), v81 = .string s83 ∧ 
                              (((s65 ++ ({ data := #[124] } : ByteArray)).size + s83.size : Nat) : Int) ≤ 9223372036854775807 ∧ 
                              ((((s65 ++ ({ data := #[124] } : ByteArray)) ++ s83).size + ({ data := #[124] } : ByteArray).size : Nat) : Int) ≤ 9223372036854775807 ∧ 
                              Calls Try.prog 29 #[.pointer p5, .int .i64 2] w67 (fun e84 w85 => ∃ (a86 : Option Addr), ∃ (l_a86 : Nat), ∃ (c_a86 : Nat), e84 = .returned (.slice a86 l_a86 c_a86) ∧ 
                              (RunWp Try.prog (convert 36 9 (.slice a26 l_a26 c_a26)) (fun v87 w88 => w88 = w85 ∧ ∃ (s89 : ByteArray), v87 = .string s89 ∧ 
                                (some (.string s29) : Option Value) = some (.string s89)) w85)
                              ∧ ((RunWp Try.prog (convert 36 9 (.slice a32 l_a32 c_a32)) (fun v90 w91 => w91 = w85 ∧ ∃ (s92 : ByteArray), v90 = .string s92 ∧ 
                                  (some (.string s38) : Option Value) = some (.string s92)) w85)
                                ∧ ((RunWp Try.prog (convert 36 9 (.slice a41 l_a41 c_a41)) (fun v93 w94 => w94 = w85 ∧ ∃ (s95 : ByteArray), v93 = .string s95 ∧ 
                                    (some (.string s50) : Option Value) = some (.string s95)) w85)
                                  ∧ ((RunWp Try.prog (convert 36 9 (.slice a53 l_a53 c_a53)) (fun v96 w97 => w97 = w85 ∧ ∃ (s98 : ByteArray), v96 = .string s98 ∧ 
                                      (some (.string s65) : Option Value) = some (.string s98)) w85)
                                    ∧ ((RunWp Try.prog (convert 36 9 (.slice a68 l_a68 c_a68)) (fun v99 w100 => w100 = w85 ∧ ∃ (s101 : ByteArray), v99 = .string s101 ∧ 
                                        (some (.string s83) : Option Value) = some (.string s101)) w85)
                                      ∧ (RunWp Try.prog (convert 36 9 (.slice a86 l_a86 c_a86)) (fun v102 w103 => w103 = w85 ∧ ∃ (s104 : ByteArray), v102 = .string s104 ∧ 
                                        (((((s65 ++ ({ data := #[124] } : ByteArray)) ++ s83) ++ ({ data := #[124] } : ByteArray)).size + s104.size : Nat) : Int) ≤ 9223372036854775807 ∧ 
                                        K107 (!(((((s29 ++ ({ data := #[124] } : ByteArray)) ++ s38) ++ ({ data := #[124] } : ByteArray)) ++ s50).toList == ((((s65 ++ ({ data := #[124] } : ByteArray)) ++ s83) ++ ({ data := #[124] } : ByteArray)) ++ s104).toList)) w85) w85))))))) w67)))))) w52))))) w40)))) w31))) w25))))
  Calls Try.prog 22 #[] w13 (fun e14 w15 => ∃ (b16 : Bool), e14 = .returned (.bool b16) ∧ 
  cond (!b16)
    (K19 true w15)
    (K19 (!b10) w15)))
theorem sh5_eq (script1 : Option Addr) (l_script1 : Nat) (c_script1 : Nat) (keep2 : Int) (K : Value → World → Prop) (w : World) : denF X Try.f5 [.slice script1 l_script1 c_script1, .int .i64 keep2] K w = sh5 script1 l_script1 c_script1 keep2 K w := by kernel_rfl
theorem c5 {script1 : Option Addr} {l_script1 : Nat} {c_script1 : Nat} {keep2 : Int} {w : World} {R : Ending → World → Prop} (h : sh5 script1 l_script1 c_script1 keep2 (fun v w' => R (.returned v) w') w) : Calls Try.prog 5 #[.slice script1 l_script1 c_script1, .int .i64 keep2] w R :=
  callOf Try.func5 (args := [.slice script1 l_script1 c_script1, .int .i64 keep2]) (Eq.mpr (sh5_eq script1 l_script1 c_script1 keep2 _ w) h)

end Go.Proofs.Ytmfidfaiopogbaa
