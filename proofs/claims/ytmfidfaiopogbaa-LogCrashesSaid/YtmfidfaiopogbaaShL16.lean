/- The shallow texts of these functions, and that they are the code's own; printed by a program of this session (gosh.py). -/
import Derived.Test.YtmfidfaiopogbaaShX
set_option linter.unusedVariables false
set_option maxRecDepth 100000
namespace Go.Proofs.Ytmfidfaiopogbaa
open Go Go.Sh
/-- bramble/bramblelaw20.LogCrashes -/
def sh16 (rounds1 : Option Addr) (l_rounds1 : Nat) (c_rounds1 : Nat) (syncs2 : Option Addr) (l_syncs2 : Nat) (c_syncs2 : Nat) (keeps3 : Option Addr) (l_keeps3 : Nat) (c_keeps3 : Nat) (K : Value → World → Prop) (w : World) : Prop :=
  Calls Try.prog 53 #[] w (fun e4 w5 => ∃ (p6 : Option Addr), e4 = .returned (.pointer p6) ∧ 
  let K12 : Bool → World → Prop := fun b10 w11 =>
      cond b10
        (K (.bool false) w11)
        (∃ (I18 : List Value → World → Prop) (μ19 : List Value → World → Nat), I18 [.pointer p6, .bool false, .slice none 0 0, .int .i64 0] w11 ∧ ∀ (w17 : World) (d13 : Option Addr) (b14 : Bool) (first15 : Option Addr) (l_first15 : Nat) (c_first15 : Nat) (r16 : Int), I18 [.pointer d13, .bool b14, .slice first15 l_first15 c_first15, .int .i64 r16] w17 → 
        let K25 : Int → Bool → Bool → Bool → World → Prop := fun n20 b21 b22 b23 w24 =>
            cond b23
              (Calls Try.prog 47 #[.pointer d13] w24 (fun e26 w27 => ∃ (p28 : Option Addr), ∃ (a29 : Option Addr), ∃ (l_a29 : Nat), ∃ (c_a29 : Nat), ∃ (n30 : Int), e26 = .returned (.tuple #[.pointer p28, .slice a29 l_a29 c_a29, .int .i64 n30]) ∧ 
              let K40 : Bool → Bool → Bool → Bool → Bool → World → Prop := fun b34 b35 b36 b37 b38 w39 =>
                  cond b38
                    (K (.bool false) w39)
                    (∃ q41 : Addr, rounds1 = some q41 ∧ 0 ≤ r16 ∧ r16 < (l_rounds1 : Nat) ∧ 
                    ∃ (a42 : Option Addr), ∃ (l_a42 : Nat), ∃ (c_a42 : Nat), w39.cell? (q41.add (r16.toNat * 1)) = some (.slice a42 l_a42 c_a42) ∧ 
                    Calls Try.prog 55 #[.slice a42 l_a42 c_a42] w39 (fun e43 w44 => ∃ (a45 : Option Addr), ∃ (l_a45 : Nat), ∃ (c_a45 : Nat), e43 = .returned (.slice a45 l_a45 c_a45) ∧ 
                    ∃ (I51 : List Value → World → Prop) (μ52 : List Value → World → Nat), I51 [.slice none 0 0, .bool b14, .int .i64 0, .int .i64 0] w44 ∧ ∀ (w50 : World) (done46 : Option Addr) (l_done46 : Nat) (c_done46 : Nat) (b47 : Bool) (safe48 : Int) (n49 : Int), I51 [.slice done46 l_done46 c_done46, .bool b47, .int .i64 safe48, .int .i64 n49] w50 → 
                    cond (decide (n49 < ((l_a45 : Nat) : Int)))
                      (∃ q53 : Addr, a45 = some q53 ∧ 0 ≤ n49 ∧ n49 < (l_a45 : Nat) ∧ 
                      ∃ (n54 : Int), ∃ (n55 : Int), ∃ (n56 : Int), ∃ (n57 : Int), ∃ (n58 : Int), w50.cell? (q53.add (n49.toNat * 5)) = some (.int .i64 n54) ∧ w50.cell? ((q53.add (n49.toNat * 5)).add 1) = some (.int .i64 n55) ∧ w50.cell? ((q53.add (n49.toNat * 5)).add 2) = some (.int .i64 n56) ∧ w50.cell? ((q53.add (n49.toNat * 5)).add 3) = some (.int .i64 n57) ∧ w50.cell? ((q53.add (n49.toNat * 5)).add 4) = some (.int .u32 n58) ∧ 
                      let p59 : Nat := w50.heap.size; let w60 : World := w50.alloc (.cells #[.int .i64 0, .int .i64 0, .int .i64 0, .int .i64 0, .int .u32 0] 57); 
                      wrN w60 (⟨p59, 0, none⟩ : Addr) 5 ∧ let w61 : World := setN (⟨p59, 0, none⟩ : Addr) 0 [.int .i64 n54, .int .i64 n55, .int .i64 n56, .int .i64 n57, .int .u32 n58] w60; 
                      ∃ (op62 : Int), ∃ (op63 : Int), ∃ (op64 : Int), ∃ (op65 : Int), ∃ (op66 : Int), w61.cell? (⟨p59, 0, none⟩ : Addr) = some (.int .i64 op62) ∧ w61.cell? (⟨p59, 1, none⟩ : Addr) = some (.int .i64 op63) ∧ w61.cell? (⟨p59, 2, none⟩ : Addr) = some (.int .i64 op64) ∧ w61.cell? (⟨p59, 3, none⟩ : Addr) = some (.int .i64 op65) ∧ w61.cell? (⟨p59, 4, none⟩ : Addr) = some (.int .u32 op66) ∧ 
                      Calls Try.prog 38 #[.agg #[.int .i64 op62, .int .i64 op63, .int .i64 op64, .int .i64 op65, .int .u32 op66]] w61 (fun e67 w68 => ∃ (n69 : Int), ∃ (n70 : Int), ∃ (n71 : Int), ∃ (n72 : Int), ∃ (n73 : Int), ∃ (n74 : Int), e67 = .returned (.tuple #[.agg #[.int .i64 n69, .int .i64 n70, .int .i64 n71, .int .i64 n72, .int .u32 n73], .int .i64 n74]) ∧ 
                      let p75 : Nat := w68.heap.size; let w76 : World := w68.alloc (.cells #[.int .i64 0, .int .i64 0, .int .i64 0, .int .i64 0, .int .u32 0] 57); 
                      wrN w76 (⟨p75, 0, none⟩ : Addr) 5 ∧ let w77 : World := setN (⟨p75, 0, none⟩ : Addr) 0 [.int .i64 n69, .int .i64 n70, .int .i64 n71, .int .i64 n72, .int .u32 n73] w76; 
                      ∃ (op78 : Int), ∃ (op79 : Int), ∃ (op80 : Int), ∃ (op81 : Int), ∃ (op82 : Int), w77.cell? (⟨p59, 0, none⟩ : Addr) = some (.int .i64 op78) ∧ w77.cell? (⟨p59, 1, none⟩ : Addr) = some (.int .i64 op79) ∧ w77.cell? (⟨p59, 2, none⟩ : Addr) = some (.int .i64 op80) ∧ w77.cell? (⟨p59, 3, none⟩ : Addr) = some (.int .i64 op81) ∧ w77.cell? (⟨p59, 4, none⟩ : Addr) = some (.int .u32 op82) ∧ 
                      Calls Try.prog 56 #[.pointer p28, .agg #[.int .i64 op78, .int .i64 op79, .int .i64 op80, .int .i64 op81, .int .u32 op82]] w77 (fun e83 w84 => ∃ (n85 : Int), e83 = .returned (.int .i64 n85) ∧ 
                      cond (n85 != n74)
                        (K (.bool false) w84)
                        (let K98 : Option Addr → Nat → Nat → World → Prop := fun a96 l_a96 c_a96 w97 =>
                            let K104 : Bool → Bool → World → Prop := fun b101 b102 w103 =>
                                cond b102
                                  (Calls Try.prog 57 #[.pointer p28] w103 (fun e105 w106 => ∃ (n107 : Int), e105 = .returned (.int .i64 n107) ∧ 
                                  cond (n107 != (0 : Int))
                                    (K (.bool false) w106)
                                    (I51 [.slice a96 l_a96 c_a96, .bool b47, .int .i64 ((l_a96 : Nat) : Int), .int .i64 (IntKind.i64.wrap (n49 + (1 : Int)))] w106 ∧ μ52 [.slice a96 l_a96 c_a96, .bool b47, .int .i64 ((l_a96 : Nat) : Int), .int .i64 (IntKind.i64.wrap (n49 + (1 : Int)))] w106 < μ52 [.slice done46 l_done46 c_done46, .bool b47, .int .i64 safe48, .int .i64 n49] w50)))
                                  (I51 [.slice a96 l_a96 c_a96, .bool b47, .int .i64 safe48, .int .i64 (IntKind.i64.wrap (n49 + (1 : Int)))] w103 ∧ μ52 [.slice a96 l_a96 c_a96, .bool b47, .int .i64 safe48, .int .i64 (IntKind.i64.wrap (n49 + (1 : Int)))] w103 < μ52 [.slice done46 l_done46 c_done46, .bool b47, .int .i64 safe48, .int .i64 n49] w50)
                            cond (decide (r16 < ((l_syncs2 : Nat) : Int)))
                              (∃ q99 : Addr, syncs2 = some q99 ∧ 0 ≤ r16 ∧ r16 < (l_syncs2 : Nat) ∧ 
                              ∃ (n100 : Int), w97.cell? (q99.add (r16.toNat * 1)) = some (.int .i64 n100) ∧ 
                              K104 true (n49 == n100) w97)
                              (K104 false false w97)
                        cond (n74 == (0 : Int))
                          (∃ (plain86 : Int), ∃ (plain87 : Int), ∃ (plain88 : Int), ∃ (plain89 : Int), ∃ (plain90 : Int), w84.cell? (⟨p75, 0, none⟩ : Addr) = some (.int .i64 plain86) ∧ w84.cell? (⟨p75, 1, none⟩ : Addr) = some (.int .i64 plain87) ∧ w84.cell? (⟨p75, 2, none⟩ : Addr) = some (.int .i64 plain88) ∧ w84.cell? (⟨p75, 3, none⟩ : Addr) = some (.int .i64 plain89) ∧ w84.cell? (⟨p75, 4, none⟩ : Addr) = some (.int .u32 plain90) ∧ 
                          let p91 : Nat := w84.heap.size; let w92 : World := w84.alloc (.cells #[.int .i64 plain86, .int .i64 plain87, .int .i64 plain88, .int .i64 plain89, .int .u32 plain90] 57); 
                          RunWp Try.prog (Builtin.append_ #[64, 64] 64 #[.slice done46 l_done46 c_done46, .slice (some ⟨p91, 0, none⟩) 1 1]) (fun v93 w94 => ∃ (a95 : Option Addr), ∃ (l_a95 : Nat), ∃ (c_a95 : Nat), v93 = .slice a95 l_a95 c_a95 ∧ 
                          K98 a95 l_a95 c_a95 w94) w92)
                          (K98 done46 l_done46 c_done46 w84)))))
                      (Calls Try.prog 58 #[.pointer d13, .slice first15 l_first15 c_first15, .slice done46 l_done46 c_done46, .int .i64 safe48] w50 (fun e158 w159 => ∃ (b160 : Bool), e158 = .returned (.bool b160) ∧ 
                      cond (!b160)
                        (K (.bool false) w159)
                        (let K165 : Int → World → Prop := fun n163 w164 =>
                            Calls Try.prog 23 #[.pointer d13, .int .i64 n163] w164 (fun e166 w167 => ∃ (p168 : Option Addr), e166 = .returned (.pointer p168) ∧ 
                            Calls Try.prog 23 #[.pointer p168, .int .i64 0] w167 (fun e169 w170 => ∃ (p171 : Option Addr), e169 = .returned (.pointer p171) ∧ 
                            Calls Try.prog 54 #[.pointer p171, .int .i64 r16] w170 (fun e172 w173 => ∃ (n174 : Int), e172 = .returned (.int .i64 n174) ∧ 
                            Calls Try.prog 47 #[.pointer p171] w173 (fun e175 w176 => ∃ (p177 : Option Addr), ∃ (a178 : Option Addr), ∃ (l_a178 : Nat), ∃ (c_a178 : Nat), ∃ (n179 : Int), e175 = .returned (.tuple #[.pointer p177, .slice a178 l_a178 c_a178, .int .i64 n179]) ∧ 
                            let K199 : Option Addr → Nat → Nat → Int → Option Addr → World → Prop := fun a195 l_a195 c_a195 n196 p197 w198 =>
                                let K211 : Bool → Bool → Bool → Bool → Bool → Bool → World → Prop := fun b204 b205 b206 b207 b208 b209 w210 =>
                                    cond b209
                                      (K (.bool false) w210)
                                      (I18 [.pointer p168, .bool b47, .slice a195 l_a195 c_a195, .int .i64 (IntKind.i64.wrap (r16 + (1 : Int)))] w210 ∧ μ19 [.pointer p168, .bool b47, .slice a195 l_a195 c_a195, .int .i64 (IntKind.i64.wrap (r16 + (1 : Int)))] w210 < μ19 [.pointer d13, .bool b14, .slice first15 l_first15 c_first15, .int .i64 r16] w17)
                                let w200 : World := w198.drew; 
                                cond (n196 != (0 : Int))
                                  (K211 true true true true true true w200)
                                  (cond (decide ((IntKind.i64.wrap (((l_a195 : Nat) : Int) - ((l_first15 : Nat) : Int))) < safe48))
                                    (K211 false (decide ((IntKind.i64.wrap (((l_a195 : Nat) : Int) - ((l_first15 : Nat) : Int))) < safe48)) true true true true w200)
                                    (cond (decide ((IntKind.i64.wrap (((l_a195 : Nat) : Int) - ((l_first15 : Nat) : Int))) > ((l_done46 : Nat) : Int)))
                                      (K211 false (decide ((IntKind.i64.wrap (((l_a195 : Nat) : Int) - ((l_first15 : Nat) : Int))) < safe48)) false (decide ((IntKind.i64.wrap (((l_a195 : Nat) : Int) - ((l_first15 : Nat) : Int))) > ((l_done46 : Nat) : Int))) true true w200)
                                      (0 ≤ ((l_first15 : Nat) : Int) ∧ ((l_first15 : Nat) : Int) ≤ (l_a195 : Nat) ∧ 
                                      0 ≤ (IntKind.i64.wrap (((l_a195 : Nat) : Int) - ((l_first15 : Nat) : Int))) ∧ (IntKind.i64.wrap (((l_a195 : Nat) : Int) - ((l_first15 : Nat) : Int))) ≤ (c_done46 : Nat) ∧ 
                                      Calls Try.prog 42 #[.slice (subS a195 c_a195 (((l_first15 : Nat) : Int).toNat) 5) (l_a195 - (((l_first15 : Nat) : Int).toNat)) (c_a195 - (((l_first15 : Nat) : Int).toNat)), .slice (subS done46 c_done46 0 5) (((IntKind.i64.wrap (((l_a195 : Nat) : Int) - ((l_first15 : Nat) : Int))).toNat) - 0) (c_done46 - 0)] w200 (fun e201 w202 => ∃ (b203 : Bool), e201 = .returned (.bool b203) ∧ 
                                      K211 false (decide ((IntKind.i64.wrap (((l_a195 : Nat) : Int) - ((l_first15 : Nat) : Int))) < safe48)) false (decide ((IntKind.i64.wrap (((l_a195 : Nat) : Int) - ((l_first15 : Nat) : Int))) > ((l_done46 : Nat) : Int))) false (!b203) w202))))
                            cond (n179 != (0 : Int))
                              (let K186 : Bool → Bool → Bool → Bool → Bool → World → Prop := fun b180 b181 b182 b183 b184 w185 =>
                                  cond b184
                                    (K (.bool false) w185)
                                    (Calls Try.prog 23 #[.pointer p171, .int .i64 n163] w185 (fun e187 w188 => ∃ (p189 : Option Addr), e187 = .returned (.pointer p189) ∧ 
                                    Calls Try.prog 47 #[.pointer p189] w188 (fun e190 w191 => ∃ (p192 : Option Addr), ∃ (a193 : Option Addr), ∃ (l_a193 : Nat), ∃ (c_a193 : Nat), ∃ (n194 : Int), e190 = .returned (.tuple #[.pointer p192, .slice a193 l_a193 c_a193, .int .i64 n194]) ∧ 
                                    K199 a193 l_a193 c_a193 n194 p189 w191)))
                              cond (!p177.isNone)
                                (K186 (!p177.isNone) true true true true w176)
                                (cond (((l_a178 : Nat) : Int) != (0 : Int))
                                  (K186 (!p177.isNone) false (((l_a178 : Nat) : Int) != (0 : Int)) true true w176)
                                  (K186 (!p177.isNone) false (((l_a178 : Nat) : Int) != (0 : Int)) false (n179 != (180 : Int)) w176)))
                              (K199 a178 l_a178 c_a178 n179 p171 w176)))))
                        cond (decide (r16 < ((l_keeps3 : Nat) : Int)))
                          (∃ q161 : Addr, keeps3 = some q161 ∧ 0 ≤ r16 ∧ r16 < (l_keeps3 : Nat) ∧ 
                          ∃ (n162 : Int), w159.cell? (q161.add (r16.toNat * 1)) = some (.int .i64 n162) ∧ 
                          K165 n162 w159)
                          (K165 0 w159))))))
              cond p28.isNone
                (K40 p28.isNone true true true true w27)
                (cond (n30 != (0 : Int))
                  (K40 p28.isNone false (n30 != (0 : Int)) true true w27)
                  (Calls Try.prog 42 #[.slice a29 l_a29 c_a29, .slice first15 l_first15 c_first15] w27 (fun e31 w32 => ∃ (b33 : Bool), e31 = .returned (.bool b33) ∧ 
                  K40 p28.isNone false (n30 != (0 : Int)) false (!b33) w32)))))
              (K (.bool true) w24)
        cond (decide (r16 < ((l_rounds1 : Nat) : Int)))
          (K25 ((l_rounds1 : Nat) : Int) (decide (r16 < ((l_rounds1 : Nat) : Int))) true (decide (r16 < (6 : Int))) w17)
          (K25 ((l_rounds1 : Nat) : Int) (decide (r16 < ((l_rounds1 : Nat) : Int))) false false w17))
  Calls Try.prog 45 #[] w5 (fun e7 w8 => ∃ (b9 : Bool), e7 = .returned (.bool b9) ∧ 
  cond (!b9)
    (K12 true w8)
    (K12 p6.isNone w8)))
theorem sh16_eq (rounds1 : Option Addr) (l_rounds1 : Nat) (c_rounds1 : Nat) (syncs2 : Option Addr) (l_syncs2 : Nat) (c_syncs2 : Nat) (keeps3 : Option Addr) (l_keeps3 : Nat) (c_keeps3 : Nat) (K : Value → World → Prop) (w : World) : denF X Try.f16 [.slice rounds1 l_rounds1 c_rounds1, .slice syncs2 l_syncs2 c_syncs2, .slice keeps3 l_keeps3 c_keeps3] K w = sh16 rounds1 l_rounds1 c_rounds1 syncs2 l_syncs2 c_syncs2 keeps3 l_keeps3 c_keeps3 K w := by kernel_rfl
theorem c16 {rounds1 : Option Addr} {l_rounds1 : Nat} {c_rounds1 : Nat} {syncs2 : Option Addr} {l_syncs2 : Nat} {c_syncs2 : Nat} {keeps3 : Option Addr} {l_keeps3 : Nat} {c_keeps3 : Nat} {w : World} {R : Ending → World → Prop} (h : sh16 rounds1 l_rounds1 c_rounds1 syncs2 l_syncs2 c_syncs2 keeps3 l_keeps3 c_keeps3 (fun v w' => R (.returned v) w') w) : Calls Try.prog 16 #[.slice rounds1 l_rounds1 c_rounds1, .slice syncs2 l_syncs2 c_syncs2, .slice keeps3 l_keeps3 c_keeps3] w R :=
  callOf Try.func16 (args := [.slice rounds1 l_rounds1 c_rounds1, .slice syncs2 l_syncs2 c_syncs2, .slice keeps3 l_keeps3 c_keeps3]) (Eq.mpr (sh16_eq rounds1 l_rounds1 c_rounds1 syncs2 l_syncs2 c_syncs2 keeps3 l_keeps3 c_keeps3 _ w) h)

end Go.Proofs.Ytmfidfaiopogbaa
