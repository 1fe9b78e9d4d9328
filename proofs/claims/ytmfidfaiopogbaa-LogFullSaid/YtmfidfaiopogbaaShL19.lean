/- The shallow texts of these functions, and that they are the code's own; printed by a program of this session (gosh.py). -/
import Derived.Test.YtmfidfaiopogbaaShX
set_option linter.unusedVariables false
set_option maxRecDepth 100000
namespace Go.Proofs.Ytmfidfaiopogbaa
open Go Go.Sh
/-- bramble/bramblelaw20.LogFull -/
def sh19 (op1 : Int) (op2 : Int) (op3 : Int) (op4 : Int) (op5 : Int) (more6 : Int) (more7 : Int) (more8 : Int) (more9 : Int) (more10 : Int) (K : Value → World → Prop) (w : World) : Prop :=
  let p11 : Nat := w.heap.size; let w12 : World := w.alloc (.cells #[.int .i64 op1, .int .i64 op2, .int .i64 op3, .int .i64 op4, .int .u32 op5] 57); 
  let p13 : Nat := w12.heap.size; let w14 : World := w12.alloc (.cells #[.int .i64 more6, .int .i64 more7, .int .i64 more8, .int .i64 more9, .int .u32 more10] 57); 
  ∃ (op15 : Int), ∃ (op16 : Int), ∃ (op17 : Int), ∃ (op18 : Int), ∃ (op19 : Int), w14.cell? (⟨p11, 0, none⟩ : Addr) = some (.int .i64 op15) ∧ w14.cell? (⟨p11, 1, none⟩ : Addr) = some (.int .i64 op16) ∧ w14.cell? (⟨p11, 2, none⟩ : Addr) = some (.int .i64 op17) ∧ w14.cell? (⟨p11, 3, none⟩ : Addr) = some (.int .i64 op18) ∧ w14.cell? (⟨p11, 4, none⟩ : Addr) = some (.int .u32 op19) ∧ 
  Calls Try.prog 38 #[.agg #[.int .i64 op15, .int .i64 op16, .int .i64 op17, .int .i64 op18, .int .u32 op19]] w14 (fun e20 w21 => ∃ (n22 : Int), ∃ (n23 : Int), ∃ (n24 : Int), ∃ (n25 : Int), ∃ (n26 : Int), ∃ (n27 : Int), e20 = .returned (.tuple #[.agg #[.int .i64 n22, .int .i64 n23, .int .i64 n24, .int .i64 n25, .int .u32 n26], .int .i64 n27]) ∧ 
  let p28 : Nat := w21.heap.size; let w29 : World := w21.alloc (.cells #[.int .i64 0, .int .i64 0, .int .i64 0, .int .i64 0, .int .u32 0] 57); 
  wrN w29 (⟨p28, 0, none⟩ : Addr) 5 ∧ let w30 : World := setN (⟨p28, 0, none⟩ : Addr) 0 [.int .i64 n22, .int .i64 n23, .int .i64 n24, .int .i64 n25, .int .u32 n26] w29; 
  ∃ (more31 : Int), ∃ (more32 : Int), ∃ (more33 : Int), ∃ (more34 : Int), ∃ (more35 : Int), w30.cell? (⟨p13, 0, none⟩ : Addr) = some (.int .i64 more31) ∧ w30.cell? (⟨p13, 1, none⟩ : Addr) = some (.int .i64 more32) ∧ w30.cell? (⟨p13, 2, none⟩ : Addr) = some (.int .i64 more33) ∧ w30.cell? (⟨p13, 3, none⟩ : Addr) = some (.int .i64 more34) ∧ w30.cell? (⟨p13, 4, none⟩ : Addr) = some (.int .u32 more35) ∧ 
  Calls Try.prog 38 #[.agg #[.int .i64 more31, .int .i64 more32, .int .i64 more33, .int .i64 more34, .int .u32 more35]] w30 (fun e36 w37 => ∃ (n38 : Int), ∃ (n39 : Int), ∃ (n40 : Int), ∃ (n41 : Int), ∃ (n42 : Int), ∃ (n43 : Int), e36 = .returned (.tuple #[.agg #[.int .i64 n38, .int .i64 n39, .int .i64 n40, .int .i64 n41, .int .u32 n42], .int .i64 n43]) ∧ 
  let p44 : Nat := w37.heap.size; let w45 : World := w37.alloc (.cells #[.int .i64 0, .int .i64 0, .int .i64 0, .int .i64 0, .int .u32 0] 57); 
  wrN w45 (⟨p44, 0, none⟩ : Addr) 5 ∧ let w46 : World := setN (⟨p44, 0, none⟩ : Addr) 0 [.int .i64 n38, .int .i64 n39, .int .i64 n40, .int .i64 n41, .int .u32 n42] w45; 
  let K52 : Bool → World → Prop := fun b50 w51 =>
      cond b50
        (Calls Try.prog 45 #[] w51 (fun e53 w54 => ∃ (b55 : Bool), e53 = .returned (.bool b55) ∧ 
        K (.bool b55) w54))
        (∃ (plain56 : Int), ∃ (plain57 : Int), ∃ (plain58 : Int), ∃ (plain59 : Int), ∃ (plain60 : Int), w51.cell? (⟨p28, 0, none⟩ : Addr) = some (.int .i64 plain56) ∧ w51.cell? (⟨p28, 1, none⟩ : Addr) = some (.int .i64 plain57) ∧ w51.cell? (⟨p28, 2, none⟩ : Addr) = some (.int .i64 plain58) ∧ w51.cell? (⟨p28, 3, none⟩ : Addr) = some (.int .i64 plain59) ∧ w51.cell? (⟨p28, 4, none⟩ : Addr) = some (.int .u32 plain60) ∧ 
        Calls Try.prog 39 #[.agg #[.int .i64 plain56, .int .i64 plain57, .int .i64 plain58, .int .i64 plain59, .int .u32 plain60]] w51 (fun e61 w62 => ∃ (a63 : Option Addr), ∃ (l_a63 : Nat), ∃ (c_a63 : Nat), e61 = .returned (.slice a63 l_a63 c_a63) ∧ 
        ((l_a63 : Nat) : Int) ≠ 0 ∧ 
        ∃ (I67 : List Value → World → Prop) (μ68 : List Value → World → Nat), I67 [.slice none 0 0, .int .i64 0] w62 ∧ ∀ (w66 : World) (file64 : Option Addr) (l_file64 : Nat) (c_file64 : Nat) (i65 : Int), I67 [.slice file64 l_file64 c_file64, .int .i64 i65] w66 → 
        cond (decide (i65 < (IntKind.i64.wrap ((IntKind.i64.wrap (Int.tdiv (32768 : Int) ((l_a63 : Nat) : Int))) - (1 : Int)))))
          (RunWp Try.prog (Builtin.append_ #[36, 36] 36 #[.slice file64 l_file64 c_file64, .slice a63 l_a63 c_a63]) (fun v69 w70 => ∃ (a71 : Option Addr), ∃ (l_a71 : Nat), ∃ (c_a71 : Nat), v69 = .slice a71 l_a71 c_a71 ∧ 
          I67 [.slice a71 l_a71 c_a71, .int .i64 (IntKind.i64.wrap (i65 + (1 : Int)))] w70 ∧ μ68 [.slice a71 l_a71 c_a71, .int .i64 (IntKind.i64.wrap (i65 + (1 : Int)))] w70 < μ68 [.slice file64 l_file64 c_file64, .int .i64 i65] w66) w66)
          (let p72 : Nat := w66.heap.size; let w73 : World := w66.alloc (.cells #[.slice none 0 0, .slice file64 l_file64 c_file64] 36); 
          Calls Try.prog 33 #[.slice (some ⟨p72, 0, none⟩) 2 2] w73 (fun e74 w75 => ∃ (p76 : Option Addr), ∃ (n77 : Int), e74 = .returned (.tuple #[.pointer p76, .int .i64 n77]) ∧ 
          let K80 : Bool → World → Prop := fun b78 w79 =>
              cond b78
                (K (.bool false) w79)
                (Calls Try.prog 47 #[.pointer p76] w79 (fun e81 w82 => ∃ (p83 : Option Addr), ∃ (a84 : Option Addr), ∃ (l_a84 : Nat), ∃ (c_a84 : Nat), ∃ (n85 : Int), e81 = .returned (.tuple #[.pointer p83, .slice a84 l_a84 c_a84, .int .i64 n85]) ∧ 
                let K99 : Bool → World → Prop := fun b97 w98 =>
                    cond b97
                      (K (.bool false) w98)
                      (∃ (I103 : List Value → World → Prop) (μ104 : List Value → World → Nat), I103 [.int .i64 (IntKind.i64.wrap ((IntKind.i64.wrap (Int.tdiv (32768 : Int) ((l_a63 : Nat) : Int))) * ((l_a63 : Nat) : Int))), .bool false] w98 ∧ ∀ (w102 : World) (size100 : Int) (b101 : Bool), I103 [.int .i64 size100, .bool b101] w102 → 
                      ∃ (more105 : Int), ∃ (more106 : Int), ∃ (more107 : Int), ∃ (more108 : Int), ∃ (more109 : Int), w102.cell? (⟨p13, 0, none⟩ : Addr) = some (.int .i64 more105) ∧ w102.cell? (⟨p13, 1, none⟩ : Addr) = some (.int .i64 more106) ∧ w102.cell? (⟨p13, 2, none⟩ : Addr) = some (.int .i64 more107) ∧ w102.cell? (⟨p13, 3, none⟩ : Addr) = some (.int .i64 more108) ∧ w102.cell? (⟨p13, 4, none⟩ : Addr) = some (.int .u32 more109) ∧ 
                      Calls Try.prog 61 #[.pointer p83, .agg #[.int .i64 more105, .int .i64 more106, .int .i64 more107, .int .i64 more108, .int .u32 more109]] w102 (fun e110 w111 => ∃ (b112 : Bool), e110 = .returned (.bool b112) ∧ 
                      cond b112
                        (∃ (more113 : Int), ∃ (more114 : Int), ∃ (more115 : Int), ∃ (more116 : Int), ∃ (more117 : Int), w111.cell? (⟨p13, 0, none⟩ : Addr) = some (.int .i64 more113) ∧ w111.cell? (⟨p13, 1, none⟩ : Addr) = some (.int .i64 more114) ∧ w111.cell? (⟨p13, 2, none⟩ : Addr) = some (.int .i64 more115) ∧ w111.cell? (⟨p13, 3, none⟩ : Addr) = some (.int .i64 more116) ∧ w111.cell? (⟨p13, 4, none⟩ : Addr) = some (.int .u32 more117) ∧ 
                        Calls Try.prog 56 #[.pointer p83, .agg #[.int .i64 more113, .int .i64 more114, .int .i64 more115, .int .i64 more116, .int .u32 more117]] w111 (fun e118 w119 => ∃ (n120 : Int), e118 = .returned (.int .i64 n120) ∧ 
                        cond (n120 != (0 : Int))
                          (K (.bool false) w119)
                          (∃ (next121 : Int), ∃ (next122 : Int), ∃ (next123 : Int), ∃ (next124 : Int), ∃ (next125 : Int), w119.cell? (⟨p44, 0, none⟩ : Addr) = some (.int .i64 next121) ∧ w119.cell? (⟨p44, 1, none⟩ : Addr) = some (.int .i64 next122) ∧ w119.cell? (⟨p44, 2, none⟩ : Addr) = some (.int .i64 next123) ∧ w119.cell? (⟨p44, 3, none⟩ : Addr) = some (.int .i64 next124) ∧ w119.cell? (⟨p44, 4, none⟩ : Addr) = some (.int .u32 next125) ∧ 
                          Calls Try.prog 39 #[.agg #[.int .i64 next121, .int .i64 next122, .int .i64 next123, .int .i64 next124, .int .u32 next125]] w119 (fun e126 w127 => ∃ (a128 : Option Addr), ∃ (l_a128 : Nat), ∃ (c_a128 : Nat), e126 = .returned (.slice a128 l_a128 c_a128) ∧ 
                          cond (decide ((IntKind.i64.wrap (size100 + ((l_a128 : Nat) : Int))) > (32768 : Int)))
                            (K (.bool false) w127)
                            (I103 [.int .i64 (IntKind.i64.wrap (size100 + ((l_a128 : Nat) : Int))), .bool b101] w127 ∧ μ104 [.int .i64 (IntKind.i64.wrap (size100 + ((l_a128 : Nat) : Int))), .bool b101] w127 < μ104 [.int .i64 size100, .bool b101] w102)))))
                        (Calls Try.prog 50 #[.pointer p76] w111 (fun e129 w130 => ∃ (n131 : Int), e129 = .returned (.int .i64 n131) ∧ 
                        let K156 : Bool → World → Prop := fun b154 w155 =>
                            cond b154
                              (K (.bool false) w155)
                              (let w157 : World := w155.drew; 
                              Calls Try.prog 56 #[.pointer p83, .agg #[.int .i64 0, .int .i64 0, .int .i64 0, .int .i64 0, .int .u32 0]] w157 (fun e158 w159 => ∃ (n160 : Int), e158 = .returned (.int .i64 n160) ∧ 
                              cond (n160 == (190 : Int))
                                (∃ (more161 : Int), ∃ (more162 : Int), ∃ (more163 : Int), ∃ (more164 : Int), ∃ (more165 : Int), w159.cell? (⟨p13, 0, none⟩ : Addr) = some (.int .i64 more161) ∧ w159.cell? (⟨p13, 1, none⟩ : Addr) = some (.int .i64 more162) ∧ w159.cell? (⟨p13, 2, none⟩ : Addr) = some (.int .i64 more163) ∧ w159.cell? (⟨p13, 3, none⟩ : Addr) = some (.int .i64 more164) ∧ w159.cell? (⟨p13, 4, none⟩ : Addr) = some (.int .u32 more165) ∧ 
                                let p166 : Nat := w159.heap.size; let w167 : World := w159.alloc (.cells #[.int .i64 more161, .int .i64 more162, .int .i64 more163, .int .i64 more164, .int .u32 more165] 57); 
                                Calls Try.prog 59 #[.pointer p83, .slice (some ⟨p166, 0, none⟩) 1 1] w167 (fun e168 w169 => ∃ (n170 : Int), e168 = .returned (.int .i64 n170) ∧ 
                                cond (n170 == (0 : Int))
                                  (∃ (op171 : Int), ∃ (op172 : Int), ∃ (op173 : Int), ∃ (op174 : Int), ∃ (op175 : Int), w169.cell? (⟨p11, 0, none⟩ : Addr) = some (.int .i64 op171) ∧ w169.cell? (⟨p11, 1, none⟩ : Addr) = some (.int .i64 op172) ∧ w169.cell? (⟨p11, 2, none⟩ : Addr) = some (.int .i64 op173) ∧ w169.cell? (⟨p11, 3, none⟩ : Addr) = some (.int .i64 op174) ∧ w169.cell? (⟨p11, 4, none⟩ : Addr) = some (.int .u32 op175) ∧ 
                                  Calls Try.prog 56 #[.pointer p83, .agg #[.int .i64 op171, .int .i64 op172, .int .i64 op173, .int .i64 op174, .int .u32 op175]] w169 (fun e176 w177 => ∃ (n178 : Int), e176 = .returned (.int .i64 n178) ∧ 
                                  cond (n178 == (0 : Int))
                                    (∃ (next179 : Int), ∃ (next180 : Int), ∃ (next181 : Int), ∃ (next182 : Int), ∃ (next183 : Int), w177.cell? (⟨p44, 0, none⟩ : Addr) = some (.int .i64 next179) ∧ w177.cell? (⟨p44, 1, none⟩ : Addr) = some (.int .i64 next180) ∧ w177.cell? (⟨p44, 2, none⟩ : Addr) = some (.int .i64 next181) ∧ w177.cell? (⟨p44, 3, none⟩ : Addr) = some (.int .i64 next182) ∧ w177.cell? (⟨p44, 4, none⟩ : Addr) = some (.int .u32 next183) ∧ 
                                    Calls Try.prog 51 #[.pointer p83] w177 (fun e184 w185 => ∃ (n186 : Int), e184 = .returned (.int .i64 n186) ∧ 
                                    (∃ (next187 : Int), ∃ (next188 : Int), ∃ (next189 : Int), ∃ (next190 : Int), ∃ (next191 : Int), w185.cell? (⟨p44, 0, none⟩ : Addr) = some (.int .i64 next187) ∧ w185.cell? (⟨p44, 1, none⟩ : Addr) = some (.int .i64 next188) ∧ w185.cell? (⟨p44, 2, none⟩ : Addr) = some (.int .i64 next189) ∧ w185.cell? (⟨p44, 3, none⟩ : Addr) = some (.int .i64 next190) ∧ w185.cell? (⟨p44, 4, none⟩ : Addr) = some (.int .u32 next191) ∧ 
                                      (some (.agg #[.int .i64 next179, .int .i64 next180, .int .i64 next181, .int .i64 next182, .int .u32 next183]) : Option Value) = some (.agg #[.int .i64 next187, .int .i64 next188, .int .i64 next189, .int .i64 next190, .int .u32 next191]))
                                    ∧ (Calls Try.prog 39 #[.agg #[.int .i64 next179, .int .i64 next180, .int .i64 next181, .int .i64 next182, .int .u32 next183]] w185 (fun e192 w193 => ∃ (a194 : Option Addr), ∃ (l_a194 : Nat), ∃ (c_a194 : Nat), e192 = .returned (.slice a194 l_a194 c_a194) ∧ 
                                      K (.bool (n186 == (IntKind.i64.wrap (((l_a194 : Nat) : Int) + ((l_a63 : Nat) : Int))))) w193))))
                                    (K (.bool false) w177)))
                                  (K (.bool false) w169)))
                                (K (.bool false) w159)))
                        ∃ (more132 : Int), ∃ (more133 : Int), ∃ (more134 : Int), ∃ (more135 : Int), ∃ (more136 : Int), w130.cell? (⟨p13, 0, none⟩ : Addr) = some (.int .i64 more132) ∧ w130.cell? (⟨p13, 1, none⟩ : Addr) = some (.int .i64 more133) ∧ w130.cell? (⟨p13, 2, none⟩ : Addr) = some (.int .i64 more134) ∧ w130.cell? (⟨p13, 3, none⟩ : Addr) = some (.int .i64 more135) ∧ w130.cell? (⟨p13, 4, none⟩ : Addr) = some (.int .u32 more136) ∧ 
                        Calls Try.prog 56 #[.pointer p83, .agg #[.int .i64 more132, .int .i64 more133, .int .i64 more134, .int .i64 more135, .int .u32 more136]] w130 (fun e137 w138 => ∃ (n139 : Int), e137 = .returned (.int .i64 n139) ∧ 
                        cond (n139 != (181 : Int))
                          (K156 true w138)
                          (Calls Try.prog 50 #[.pointer p76] w138 (fun e140 w141 => ∃ (n142 : Int), e140 = .returned (.int .i64 n142) ∧ 
                          cond (n142 != n131)
                            (K156 true w141)
                            (Calls Try.prog 51 #[.pointer p83] w141 (fun e143 w144 => ∃ (n145 : Int), e143 = .returned (.int .i64 n145) ∧ 
                            cond (n145 != size100)
                              (K156 true w144)
                              (∃ (next146 : Int), ∃ (next147 : Int), ∃ (next148 : Int), ∃ (next149 : Int), ∃ (next150 : Int), w144.cell? (⟨p44, 0, none⟩ : Addr) = some (.int .i64 next146) ∧ w144.cell? (⟨p44, 1, none⟩ : Addr) = some (.int .i64 next147) ∧ w144.cell? (⟨p44, 2, none⟩ : Addr) = some (.int .i64 next148) ∧ w144.cell? (⟨p44, 3, none⟩ : Addr) = some (.int .i64 next149) ∧ w144.cell? (⟨p44, 4, none⟩ : Addr) = some (.int .u32 next150) ∧ 
                              Calls Try.prog 39 #[.agg #[.int .i64 next146, .int .i64 next147, .int .i64 next148, .int .i64 next149, .int .u32 next150]] w144 (fun e151 w152 => ∃ (a153 : Option Addr), ∃ (l_a153 : Nat), ∃ (c_a153 : Nat), e151 = .returned (.slice a153 l_a153 c_a153) ∧ 
                              K156 (decide ((IntKind.i64.wrap (size100 + ((l_a153 : Nat) : Int))) ≤ (32768 : Int))) w152)))))))))))
                cond (n85 != (0 : Int))
                  (K99 true w82)
                  (cond p83.isNone
                    (K99 true w82)
                    (cond (((l_a84 : Nat) : Int) != (IntKind.i64.wrap ((IntKind.i64.wrap (Int.tdiv (32768 : Int) ((l_a63 : Nat) : Int))) - (1 : Int))))
                      (K99 true w82)
                      (Calls Try.prog 51 #[.pointer p83] w82 (fun e86 w87 => ∃ (n88 : Int), e86 = .returned (.int .i64 n88) ∧ 
                      cond (n88 != ((l_file64 : Nat) : Int))
                        (K99 true w87)
                        (∃ (op89 : Int), ∃ (op90 : Int), ∃ (op91 : Int), ∃ (op92 : Int), ∃ (op93 : Int), w87.cell? (⟨p11, 0, none⟩ : Addr) = some (.int .i64 op89) ∧ w87.cell? (⟨p11, 1, none⟩ : Addr) = some (.int .i64 op90) ∧ w87.cell? (⟨p11, 2, none⟩ : Addr) = some (.int .i64 op91) ∧ w87.cell? (⟨p11, 3, none⟩ : Addr) = some (.int .i64 op92) ∧ w87.cell? (⟨p11, 4, none⟩ : Addr) = some (.int .u32 op93) ∧ 
                        Calls Try.prog 56 #[.pointer p83, .agg #[.int .i64 op89, .int .i64 op90, .int .i64 op91, .int .i64 op92, .int .u32 op93]] w87 (fun e94 w95 => ∃ (n96 : Int), e94 = .returned (.int .i64 n96) ∧ 
                        K99 (n96 != (0 : Int)) w95))))))))
          cond (n77 != (0 : Int))
            (K80 true w75)
            (K80 p76.isNone w75)))))
  Calls Try.prog 45 #[] w46 (fun e47 w48 => ∃ (b49 : Bool), e47 = .returned (.bool b49) ∧ 
  cond (!b49)
    (K52 true w48)
    (cond (n27 != (0 : Int))
      (K52 true w48)
      (K52 (n43 != (0 : Int)) w48)))))
theorem sh19_eq (op1 : Int) (op2 : Int) (op3 : Int) (op4 : Int) (op5 : Int) (more6 : Int) (more7 : Int) (more8 : Int) (more9 : Int) (more10 : Int) (K : Value → World → Prop) (w : World) : denF X Try.f19 [.agg #[.int .i64 op1, .int .i64 op2, .int .i64 op3, .int .i64 op4, .int .u32 op5], .agg #[.int .i64 more6, .int .i64 more7, .int .i64 more8, .int .i64 more9, .int .u32 more10]] K w = sh19 op1 op2 op3 op4 op5 more6 more7 more8 more9 more10 K w := by kernel_rfl
theorem c19 {op1 : Int} {op2 : Int} {op3 : Int} {op4 : Int} {op5 : Int} {more6 : Int} {more7 : Int} {more8 : Int} {more9 : Int} {more10 : Int} {w : World} {R : Ending → World → Prop} (h : sh19 op1 op2 op3 op4 op5 more6 more7 more8 more9 more10 (fun v w' => R (.returned v) w') w) : Calls Try.prog 19 #[.agg #[.int .i64 op1, .int .i64 op2, .int .i64 op3, .int .i64 op4, .int .u32 op5], .agg #[.int .i64 more6, .int .i64 more7, .int .i64 more8, .int .i64 more9, .int .u32 more10]] w R :=
  callOf Try.func19 (args := [.agg #[.int .i64 op1, .int .i64 op2, .int .i64 op3, .int .i64 op4, .int .u32 op5], .agg #[.int .i64 more6, .int .i64 more7, .int .i64 more8, .int .i64 more9, .int .u32 more10]]) (Eq.mpr (sh19_eq op1 op2 op3 op4 op5 more6 more7 more8 more9 more10 _ w) h)

end Go.Proofs.Ytmfidfaiopogbaa
