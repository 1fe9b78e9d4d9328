/- The shallow texts of these functions, and that they are the code's own; printed by a program of this session (gosh.py). -/
import Derived.Test.YtmfidfaiopogbaaShX
set_option linter.unusedVariables false
set_option maxRecDepth 100000
namespace Go.Proofs.Ytmfidfaiopogbaa
open Go Go.Sh
/-- bramble/bramblelaw18.DiskCrashes -/
def sh4 (script1 : Option Addr) (l_script1 : Nat) (c_script1 : Nat) (more2 : Option Addr) (l_more2 : Nat) (c_more2 : Nat) (K : Value → World → Prop) (w : World) : Prop :=
  Calls Try.prog 21 #[.slice script1 l_script1 c_script1] w (fun e3 w4 => ∃ (p5 : Option Addr), ∃ (a6 : Option Addr), ∃ (l_a6 : Nat), ∃ (c_a6 : Nat), ∃ (n7 : Int), ∃ (b8 : Bool), ∃ (n9 : Int), ∃ (b10 : Bool), e3 = .returned (.tuple #[.pointer p5, .agg #[.slice a6 l_a6 c_a6, .int .i64 n7, .bool b8, .int .i64 n9], .bool b10]) ∧ 
  let p11 : Nat := w4.heap.size; let w12 : World := w4.alloc (.cells #[.slice none 0 0, .int .i64 0, .bool false, .int .i64 0] 26); 
  wrN w12 (⟨p11, 0, none⟩ : Addr) 4 ∧ let w13 : World := setN (⟨p11, 0, none⟩ : Addr) 0 [.slice a6 l_a6 c_a6, .int .i64 n7, .bool b8, .int .i64 n9] w12; 
  let K19 : Bool → World → Prop := fun b17 w18 =>
      cond b17
        (K (.bool false) w18)
        (∃ (I24 : List Value → World → Prop) (μ25 : List Value → World → Nat), I24 [.bool b10, .bool false, .int .i64 (-1)] w18 ∧ ∀ (w23 : World) (ok20 : Bool) (b21 : Bool) (keep22 : Int), I24 [.bool ok20, .bool b21, .int .i64 keep22] w23 → 
        ∃ (States26 : Option Addr), ∃ (l_States26 : Nat), ∃ (c_States26 : Nat), w23.cell? (⟨p11, 0, none⟩ : Addr) = some (.slice States26 l_States26 c_States26) ∧ 
        cond (decide (keep22 ≤ ((l_States26 : Nat) : Int)))
          (let K93 : Option Addr → Addr → Option Addr → Option Addr → Nat → Nat → Int → Bool → Int → Option Addr → Nat → Nat → Int → Bool → Int → World → Prop := fun p81 a82 p83 a84 l_a84 c_a84 n85 b86 n87 a88 l_a88 c_a88 n89 b90 n91 w92 =>
              let K115 : Bool → Bool → Bool → Bool → Bool → Bool → Bool → World → Prop := fun b107 b108 b109 b110 b111 b112 b113 w114 =>
                  cond b113
                    (K (.bool false) w114)
                    (∃ (I120 : List Value → World → Prop) (μ121 : List Value → World → Nat), I120 [.pointer p81, .bool ok20, .int .i64 0] w114 ∧ ∀ (w119 : World) (c116 : Option Addr) (ok117 : Bool) (i118 : Int), I120 [.pointer c116, .bool ok117, .int .i64 i118] w119 → 
                    let K127 : Bool → Bool → Bool → Bool → World → Prop := fun b122 b123 b124 b125 w126 =>
                        cond b125
                          (let w128 : World := w126.drew; 
                          ∃ (n129 : Option Addr), ∃ (l_n129 : Nat), ∃ (c_n129 : Nat), ∃ (n130 : Int), ∃ (n131 : Bool), ∃ (n132 : Int), w128.cell? a82 = some (.slice n129 l_n129 c_n129) ∧ w128.cell? (a82.add 1) = some (.int .i64 n130) ∧ w128.cell? (a82.add 2) = some (.bool n131) ∧ w128.cell? (a82.add 3) = some (.int .i64 n132) ∧ 
                          ∃ q133 : Addr, more2 = some q133 ∧ 0 ≤ i118 ∧ i118 < (l_more2 : Nat) ∧ 
                          ∃ (n134 : Int), ∃ (n135 : Int), ∃ (n136 : Int), ∃ (a137 : Option Addr), ∃ (l_a137 : Nat), ∃ (c_a137 : Nat), w128.cell? (q133.add (i118.toNat * 4)) = some (.int .i64 n134) ∧ w128.cell? ((q133.add (i118.toNat * 4)).add 1) = some (.int .i64 n135) ∧ w128.cell? ((q133.add (i118.toNat * 4)).add 2) = some (.int .i64 n136) ∧ w128.cell? ((q133.add (i118.toNat * 4)).add 3) = some (.slice a137 l_a137 c_a137) ∧ 
                          Calls Try.prog 28 #[.pointer c116, .agg #[.slice n129 l_n129 c_n129, .int .i64 n130, .bool n131, .int .i64 n132], .agg #[.int .i64 n134, .int .i64 n135, .int .i64 n136, .slice a137 l_a137 c_a137]] w128 (fun e138 w139 => ∃ (p140 : Option Addr), ∃ (a141 : Option Addr), ∃ (l_a141 : Nat), ∃ (c_a141 : Nat), ∃ (n142 : Int), ∃ (b143 : Bool), ∃ (n144 : Int), ∃ (b145 : Bool), e138 = .returned (.tuple #[.pointer p140, .agg #[.slice a141 l_a141 c_a141, .int .i64 n142, .bool b143, .int .i64 n144], .bool b145]) ∧ 
                          wrN w139 a82 4 ∧ let w146 : World := setN a82 0 [.slice a141 l_a141 c_a141, .int .i64 n142, .bool b143, .int .i64 n144] w139; 
                          I120 [.pointer p140, .bool b145, .int .i64 (IntKind.i64.wrap (i118 + (1 : Int)))] w146 ∧ μ121 [.pointer p140, .bool b145, .int .i64 (IntKind.i64.wrap (i118 + (1 : Int)))] w146 < μ121 [.pointer c116, .bool ok117, .int .i64 i118] w119))
                          (let K157 : Bool → Bool → World → Prop := fun b154 b155 w156 =>
                              cond b155
                                (K (.bool false) w156)
                                (I24 [.bool ok117, .bool b21, .int .i64 (IntKind.i64.wrap (keep22 + (1 : Int)))] w156 ∧ μ25 [.bool ok117, .bool b21, .int .i64 (IntKind.i64.wrap (keep22 + (1 : Int)))] w156 < μ25 [.bool ok20, .bool b21, .int .i64 keep22] w23)
                          cond (!ok117)
                            (K157 true true w126)
                            (∃ (m147 : Option Addr), ∃ (l_m147 : Nat), ∃ (c_m147 : Nat), ∃ (m148 : Int), ∃ (m149 : Bool), ∃ (m150 : Int), w126.cell? (⟨p11, 0, none⟩ : Addr) = some (.slice m147 l_m147 c_m147) ∧ w126.cell? (⟨p11, 1, none⟩ : Addr) = some (.int .i64 m148) ∧ w126.cell? (⟨p11, 2, none⟩ : Addr) = some (.bool m149) ∧ w126.cell? (⟨p11, 3, none⟩ : Addr) = some (.int .i64 m150) ∧ 
                            Calls Try.prog 25 #[.pointer p5, .agg #[.slice m147 l_m147 c_m147, .int .i64 m148, .bool m149, .int .i64 m150]] w126 (fun e151 w152 => ∃ (b153 : Bool), e151 = .returned (.bool b153) ∧ 
                            K157 false (!b153) w152)))
                    cond (decide (i118 < ((l_more2 : Nat) : Int)))
                      (cond (decide (i118 < (6 : Int)))
                        (K127 true (decide (i118 < (6 : Int))) true ok117 w119)
                        (K127 true (decide (i118 < (6 : Int))) false false w119))
                      (K127 false false false false w119))
              cond p81.isNone
                (K115 p81.isNone true true true true true true w92)
                (∃ (n94 : Option Addr), ∃ (l_n94 : Nat), ∃ (c_n94 : Nat), ∃ (n95 : Int), ∃ (n96 : Bool), ∃ (n97 : Int), w92.cell? a82 = some (.slice n94 l_n94 c_n94) ∧ w92.cell? (a82.add 1) = some (.int .i64 n95) ∧ w92.cell? (a82.add 2) = some (.bool n96) ∧ w92.cell? (a82.add 3) = some (.int .i64 n97) ∧ 
                Calls Try.prog 25 #[.pointer p81, .agg #[.slice n94 l_n94 c_n94, .int .i64 n95, .bool n96, .int .i64 n97]] w92 (fun e98 w99 => ∃ (b100 : Bool), e98 = .returned (.bool b100) ∧ 
                cond (!b100)
                  (K115 p81.isNone false (!b100) true true true true w99)
                  (Calls Try.prog 26 #[.pointer p81] w99 (fun e101 w102 => ∃ (b103 : Bool), e101 = .returned (.bool b103) ∧ 
                  cond b103
                    (K115 p81.isNone false (!b100) false b103 true true w102)
                    (Calls Try.prog 27 #[.pointer p81] w102 (fun e104 w105 => ∃ (n106 : Int), e104 = .returned (.int .i64 n106) ∧ 
                    K115 p81.isNone false (!b100) false b103 false (n106 != (0 : Int)) w105))))))
          let w27 : World := w23.drew; 
          ∃ (m28 : Option Addr), ∃ (l_m28 : Nat), ∃ (c_m28 : Nat), ∃ (m29 : Int), ∃ (m30 : Bool), ∃ (m31 : Int), w27.cell? (⟨p11, 0, none⟩ : Addr) = some (.slice m28 l_m28 c_m28) ∧ w27.cell? (⟨p11, 1, none⟩ : Addr) = some (.int .i64 m29) ∧ w27.cell? (⟨p11, 2, none⟩ : Addr) = some (.bool m30) ∧ w27.cell? (⟨p11, 3, none⟩ : Addr) = some (.int .i64 m31) ∧ 
          (Calls Try.prog 23 #[.pointer p5, .int .i64 keep22] w27 (fun e32 w33 => ∃ (p34 : Option Addr), e32 = .returned (.pointer p34) ∧ 
            (∃ (m35 : Option Addr), ∃ (l_m35 : Nat), ∃ (c_m35 : Nat), ∃ (m36 : Int), ∃ (m37 : Bool), ∃ (m38 : Int), w33.cell? (⟨p11, 0, none⟩ : Addr) = some (.slice m35 l_m35 c_m35) ∧ w33.cell? (⟨p11, 1, none⟩ : Addr) = some (.int .i64 m36) ∧ w33.cell? (⟨p11, 2, none⟩ : Addr) = some (.bool m37) ∧ w33.cell? (⟨p11, 3, none⟩ : Addr) = some (.int .i64 m38) ∧ 
              (some (.agg #[.slice m28 l_m28 c_m28, .int .i64 m29, .bool m30, .int .i64 m31]) : Option Value) = some (.agg #[.slice m35 l_m35 c_m35, .int .i64 m36, .bool m37, .int .i64 m38]))
            ∧ ((Calls Try.prog 24 #[.agg #[.slice m28 l_m28 c_m28, .int .i64 m29, .bool m30, .int .i64 m31], .int .i64 keep22] w33 (fun e39 w40 => ∃ (a41 : Option Addr), ∃ (l_a41 : Nat), ∃ (c_a41 : Nat), ∃ (n42 : Int), ∃ (b43 : Bool), ∃ (n44 : Int), e39 = .returned (.agg #[.slice a41 l_a41 c_a41, .int .i64 n42, .bool b43, .int .i64 n44]) ∧ 
                let p45 : Nat := w40.heap.size; let w46 : World := w40.alloc (.cells #[.slice none 0 0, .int .i64 0, .bool false, .int .i64 0] 26); 
                wrN w46 (⟨p45, 0, none⟩ : Addr) 4 ∧ let w47 : World := setN (⟨p45, 0, none⟩ : Addr) 0 [.slice a41 l_a41 c_a41, .int .i64 n42, .bool b43, .int .i64 n44] w46; 
                K93 p34 ⟨p45, 0, none⟩ p34 m28 l_m28 c_m28 m29 m30 m31 a41 l_a41 c_a41 n42 b43 n44 w47))
              ∧ (let p48 : Nat := w33.heap.size; let w49 : World := w33.alloc (.cells #[.slice none 0 0, .int .i64 0, .bool false, .int .i64 0] 26); 
                (∃ (m50 : Option Addr), ∃ (l_m50 : Nat), ∃ (c_m50 : Nat), ∃ (m51 : Int), ∃ (m52 : Bool), ∃ (m53 : Int), w49.cell? (⟨p11, 0, none⟩ : Addr) = some (.slice m50 l_m50 c_m50) ∧ w49.cell? (⟨p11, 1, none⟩ : Addr) = some (.int .i64 m51) ∧ w49.cell? (⟨p11, 2, none⟩ : Addr) = some (.bool m52) ∧ w49.cell? (⟨p11, 3, none⟩ : Addr) = some (.int .i64 m53) ∧ 
                  (some (.agg #[.slice m28 l_m28 c_m28, .int .i64 m29, .bool m30, .int .i64 m31]) : Option Value) = some (.agg #[.slice m50 l_m50 c_m50, .int .i64 m51, .bool m52, .int .i64 m53]))
                ∧ (Calls Try.prog 24 #[.agg #[.slice m28 l_m28 c_m28, .int .i64 m29, .bool m30, .int .i64 m31], .int .i64 keep22] w49 (fun e54 w55 => ∃ (a56 : Option Addr), ∃ (l_a56 : Nat), ∃ (c_a56 : Nat), ∃ (n57 : Int), ∃ (b58 : Bool), ∃ (n59 : Int), e54 = .returned (.agg #[.slice a56 l_a56 c_a56, .int .i64 n57, .bool b58, .int .i64 n59]) ∧ 
                  wrN w55 (⟨p48, 0, none⟩ : Addr) 4 ∧ let w60 : World := setN (⟨p48, 0, none⟩ : Addr) 0 [.slice a56 l_a56 c_a56, .int .i64 n57, .bool b58, .int .i64 n59] w55; 
                  K93 p34 ⟨p48, 0, none⟩ p34 m28 l_m28 c_m28 m29 m30 m31 a56 l_a56 c_a56 n57 b58 n59 w60))))))
          ∧ (let p61 : Nat := w27.heap.size; let w62 : World := w27.alloc (.cells #[.slice none 0 0, .int .i64 0, .bool false, .int .i64 0] 26); 
            (∃ (m63 : Option Addr), ∃ (l_m63 : Nat), ∃ (c_m63 : Nat), ∃ (m64 : Int), ∃ (m65 : Bool), ∃ (m66 : Int), w62.cell? (⟨p11, 0, none⟩ : Addr) = some (.slice m63 l_m63 c_m63) ∧ w62.cell? (⟨p11, 1, none⟩ : Addr) = some (.int .i64 m64) ∧ w62.cell? (⟨p11, 2, none⟩ : Addr) = some (.bool m65) ∧ w62.cell? (⟨p11, 3, none⟩ : Addr) = some (.int .i64 m66) ∧ 
              (some (.agg #[.slice m28 l_m28 c_m28, .int .i64 m29, .bool m30, .int .i64 m31]) : Option Value) = some (.agg #[.slice m63 l_m63 c_m63, .int .i64 m64, .bool m65, .int .i64 m66]))
            ∧ (Calls Try.prog 23 #[.pointer p5, .int .i64 keep22] w62 (fun e67 w68 => ∃ (p69 : Option Addr), e67 = .returned (.pointer p69) ∧ 
              (∃ (m70 : Option Addr), ∃ (l_m70 : Nat), ∃ (c_m70 : Nat), ∃ (m71 : Int), ∃ (m72 : Bool), ∃ (m73 : Int), w68.cell? (⟨p11, 0, none⟩ : Addr) = some (.slice m70 l_m70 c_m70) ∧ w68.cell? (⟨p11, 1, none⟩ : Addr) = some (.int .i64 m71) ∧ w68.cell? (⟨p11, 2, none⟩ : Addr) = some (.bool m72) ∧ w68.cell? (⟨p11, 3, none⟩ : Addr) = some (.int .i64 m73) ∧ 
                (some (.agg #[.slice m28 l_m28 c_m28, .int .i64 m29, .bool m30, .int .i64 m31]) : Option Value) = some (.agg #[.slice m70 l_m70 c_m70, .int .i64 m71, .bool m72, .int .i64 m73]))
              ∧ (Calls Try.prog 24 #[.agg #[.slice m28 l_m28 c_m28, .int .i64 m29, .bool m30, .int .i64 m31], .int .i64 keep22] w68 (fun e74 w75 => ∃ (a76 : Option Addr), ∃ (l_a76 : Nat), ∃ (c_a76 : Nat), ∃ (n77 : Int), ∃ (b78 : Bool), ∃ (n79 : Int), e74 = .returned (.agg #[.slice a76 l_a76 c_a76, .int .i64 n77, .bool b78, .int .i64 n79]) ∧ 
                wrN w75 (⟨p61, 0, none⟩ : Addr) 4 ∧ let w80 : World := setN (⟨p61, 0, none⟩ : Addr) 0 [.slice a76 l_a76 c_a76, .int .i64 n77, .bool b78, .int .i64 n79] w75; 
                K93 p69 ⟨p61, 0, none⟩ p69 m28 l_m28 c_m28 m29 m30 m31 a76 l_a76 c_a76 n77 b78 n79 w80))))))
          (let w158 : World := w23.drew; 
          ∃ (m159 : Option Addr), ∃ (l_m159 : Nat), ∃ (c_m159 : Nat), ∃ (m160 : Int), ∃ (m161 : Bool), ∃ (m162 : Int), w158.cell? (⟨p11, 0, none⟩ : Addr) = some (.slice m159 l_m159 c_m159) ∧ w158.cell? (⟨p11, 1, none⟩ : Addr) = some (.int .i64 m160) ∧ w158.cell? (⟨p11, 2, none⟩ : Addr) = some (.bool m161) ∧ w158.cell? (⟨p11, 3, none⟩ : Addr) = some (.int .i64 m162) ∧ 
          Calls Try.prog 23 #[.pointer p5, .int .i64 4611686018427387904] w158 (fun e163 w164 => ∃ (p165 : Option Addr), e163 = .returned (.pointer p165) ∧ 
          (∃ (m166 : Option Addr), ∃ (l_m166 : Nat), ∃ (c_m166 : Nat), ∃ (m167 : Int), ∃ (m168 : Bool), ∃ (m169 : Int), w164.cell? (⟨p11, 0, none⟩ : Addr) = some (.slice m166 l_m166 c_m166) ∧ w164.cell? (⟨p11, 1, none⟩ : Addr) = some (.int .i64 m167) ∧ w164.cell? (⟨p11, 2, none⟩ : Addr) = some (.bool m168) ∧ w164.cell? (⟨p11, 3, none⟩ : Addr) = some (.int .i64 m169) ∧ 
            (some (.agg #[.slice m159 l_m159 c_m159, .int .i64 m160, .bool m161, .int .i64 m162]) : Option Value) = some (.agg #[.slice m166 l_m166 c_m166, .int .i64 m167, .bool m168, .int .i64 m169]))
          ∧ (Calls Try.prog 24 #[.agg #[.slice m159 l_m159 c_m159, .int .i64 m160, .bool m161, .int .i64 m162], .int .i64 4611686018427387904] w164 (fun e170 w171 => ∃ (a172 : Option Addr), ∃ (l_a172 : Nat), ∃ (c_a172 : Nat), ∃ (n173 : Int), ∃ (b174 : Bool), ∃ (n175 : Int), e170 = .returned (.agg #[.slice a172 l_a172 c_a172, .int .i64 n173, .bool b174, .int .i64 n175]) ∧ 
            Calls Try.prog 25 #[.pointer p165, .agg #[.slice a172 l_a172 c_a172, .int .i64 n173, .bool b174, .int .i64 n175]] w171 (fun e176 w177 => ∃ (b178 : Bool), e176 = .returned (.bool b178) ∧ 
            cond b178
              (∃ (m179 : Option Addr), ∃ (l_m179 : Nat), ∃ (c_m179 : Nat), ∃ (m180 : Int), ∃ (m181 : Bool), ∃ (m182 : Int), w177.cell? (⟨p11, 0, none⟩ : Addr) = some (.slice m179 l_m179 c_m179) ∧ w177.cell? (⟨p11, 1, none⟩ : Addr) = some (.int .i64 m180) ∧ w177.cell? (⟨p11, 2, none⟩ : Addr) = some (.bool m181) ∧ w177.cell? (⟨p11, 3, none⟩ : Addr) = some (.int .i64 m182) ∧ 
              Calls Try.prog 23 #[.pointer p5, .int .i64 (-4611686018427387904)] w177 (fun e183 w184 => ∃ (p185 : Option Addr), e183 = .returned (.pointer p185) ∧ 
              (∃ (m186 : Option Addr), ∃ (l_m186 : Nat), ∃ (c_m186 : Nat), ∃ (m187 : Int), ∃ (m188 : Bool), ∃ (m189 : Int), w184.cell? (⟨p11, 0, none⟩ : Addr) = some (.slice m186 l_m186 c_m186) ∧ w184.cell? (⟨p11, 1, none⟩ : Addr) = some (.int .i64 m187) ∧ w184.cell? (⟨p11, 2, none⟩ : Addr) = some (.bool m188) ∧ w184.cell? (⟨p11, 3, none⟩ : Addr) = some (.int .i64 m189) ∧ 
                (some (.agg #[.slice m179 l_m179 c_m179, .int .i64 m180, .bool m181, .int .i64 m182]) : Option Value) = some (.agg #[.slice m186 l_m186 c_m186, .int .i64 m187, .bool m188, .int .i64 m189]))
              ∧ (Calls Try.prog 24 #[.agg #[.slice m179 l_m179 c_m179, .int .i64 m180, .bool m181, .int .i64 m182], .int .i64 (-4611686018427387904)] w184 (fun e190 w191 => ∃ (a192 : Option Addr), ∃ (l_a192 : Nat), ∃ (c_a192 : Nat), ∃ (n193 : Int), ∃ (b194 : Bool), ∃ (n195 : Int), e190 = .returned (.agg #[.slice a192 l_a192 c_a192, .int .i64 n193, .bool b194, .int .i64 n195]) ∧ 
                Calls Try.prog 25 #[.pointer p185, .agg #[.slice a192 l_a192 c_a192, .int .i64 n193, .bool b194, .int .i64 n195]] w191 (fun e196 w197 => ∃ (b198 : Bool), e196 = .returned (.bool b198) ∧ 
                K (.bool b198) w197)))))
              (K (.bool false) w177)))))))
  Calls Try.prog 22 #[] w13 (fun e14 w15 => ∃ (b16 : Bool), e14 = .returned (.bool b16) ∧ 
  cond (!b16)
    (K19 true w15)
    (K19 (!b10) w15)))
theorem sh4_eq (script1 : Option Addr) (l_script1 : Nat) (c_script1 : Nat) (more2 : Option Addr) (l_more2 : Nat) (c_more2 : Nat) (K : Value → World → Prop) (w : World) : denF X Try.f4 [.slice script1 l_script1 c_script1, .slice more2 l_more2 c_more2] K w = sh4 script1 l_script1 c_script1 more2 l_more2 c_more2 K w := by kernel_rfl
theorem c4 {script1 : Option Addr} {l_script1 : Nat} {c_script1 : Nat} {more2 : Option Addr} {l_more2 : Nat} {c_more2 : Nat} {w : World} {R : Ending → World → Prop} (h : sh4 script1 l_script1 c_script1 more2 l_more2 c_more2 (fun v w' => R (.returned v) w') w) : Calls Try.prog 4 #[.slice script1 l_script1 c_script1, .slice more2 l_more2 c_more2] w R :=
  callOf Try.func4 (args := [.slice script1 l_script1 c_script1, .slice more2 l_more2 c_more2]) (Eq.mpr (sh4_eq script1 l_script1 c_script1 more2 l_more2 c_more2 _ w) h)

end Go.Proofs.Ytmfidfaiopogbaa
