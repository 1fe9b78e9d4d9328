/- The shallow texts of these functions, and that they are the code's own; printed by a program of this session (gosh.py). -/
import Derived.Test.YtmfidfaiopogbaaShX
set_option linter.unusedVariables false
set_option maxRecDepth 100000
namespace Go.Proofs.Ytmfidfaiopogbaa
open Go Go.Sh
/-- bramble/bramblelaw20.LogRewrites -/
def sh20 (t1 : Option Addr) (l_t1 : Nat) (c_t1 : Nat) (t2 : Option Addr) (l_t2 : Nat) (c_t2 : Nat) (t3 : Option Addr) (l_t3 : Nat) (c_t3 : Nat) (t4 : Int) (K : Value → World → Prop) (w : World) : Prop :=
  let p5 : Nat := w.heap.size; let w6 : World := w.alloc (.cells #[.slice t1 l_t1 c_t1, .slice t2 l_t2 c_t2, .slice t3 l_t3 c_t3, .int .i64 t4] 105); 
  Calls Try.prog 53 #[] w6 (fun e7 w8 => ∃ (p9 : Option Addr), e7 = .returned (.pointer p9) ∧ 
  let K15 : Bool → World → Prop := fun b13 w14 =>
      cond b13
        (K (.bool false) w14)
        (Calls Try.prog 47 #[.pointer p9] w14 (fun e16 w17 => ∃ (p18 : Option Addr), ∃ (a19 : Option Addr), ∃ (l_a19 : Nat), ∃ (c_a19 : Nat), ∃ (n20 : Int), e16 = .returned (.tuple #[.pointer p18, .slice a19 l_a19 c_a19, .int .i64 n20]) ∧ 
        let K23 : Bool → World → Prop := fun b21 w22 =>
            cond b21
              (K (.bool false) w22)
              (∃ (First24 : Option Addr), ∃ (l_First24 : Nat), ∃ (c_First24 : Nat), w22.cell? (⟨p5, 0, none⟩ : Addr) = some (.slice First24 l_First24 c_First24) ∧ 
              Calls Try.prog 55 #[.slice First24 l_First24 c_First24] w22 (fun e25 w26 => ∃ (a27 : Option Addr), ∃ (l_a27 : Nat), ∃ (c_a27 : Nat), e25 = .returned (.slice a27 l_a27 c_a27) ∧ 
              ∃ (I31 : List Value → World → Prop) (μ32 : List Value → World → Nat), I31 [.slice none 0 0, .int .i64 0] w26 ∧ ∀ (w30 : World) (first28 : Option Addr) (l_first28 : Nat) (c_first28 : Nat) (n29 : Int), I31 [.slice first28 l_first28 c_first28, .int .i64 n29] w30 → 
              cond (decide (n29 < ((l_a27 : Nat) : Int)))
                (∃ q33 : Addr, a27 = some q33 ∧ 0 ≤ n29 ∧ n29 < (l_a27 : Nat) ∧ 
                ∃ (n34 : Int), ∃ (n35 : Int), ∃ (n36 : Int), ∃ (n37 : Int), ∃ (n38 : Int), w30.cell? (q33.add (n29.toNat * 5)) = some (.int .i64 n34) ∧ w30.cell? ((q33.add (n29.toNat * 5)).add 1) = some (.int .i64 n35) ∧ w30.cell? ((q33.add (n29.toNat * 5)).add 2) = some (.int .i64 n36) ∧ w30.cell? ((q33.add (n29.toNat * 5)).add 3) = some (.int .i64 n37) ∧ w30.cell? ((q33.add (n29.toNat * 5)).add 4) = some (.int .u32 n38) ∧ 
                let p39 : Nat := w30.heap.size; let w40 : World := w30.alloc (.cells #[.int .i64 0, .int .i64 0, .int .i64 0, .int .i64 0, .int .u32 0] 57); 
                wrN w40 (⟨p39, 0, none⟩ : Addr) 5 ∧ let w41 : World := setN (⟨p39, 0, none⟩ : Addr) 0 [.int .i64 n34, .int .i64 n35, .int .i64 n36, .int .i64 n37, .int .u32 n38] w40; 
                ∃ (op42 : Int), ∃ (op43 : Int), ∃ (op44 : Int), ∃ (op45 : Int), ∃ (op46 : Int), w41.cell? (⟨p39, 0, none⟩ : Addr) = some (.int .i64 op42) ∧ w41.cell? (⟨p39, 1, none⟩ : Addr) = some (.int .i64 op43) ∧ w41.cell? (⟨p39, 2, none⟩ : Addr) = some (.int .i64 op44) ∧ w41.cell? (⟨p39, 3, none⟩ : Addr) = some (.int .i64 op45) ∧ w41.cell? (⟨p39, 4, none⟩ : Addr) = some (.int .u32 op46) ∧ 
                Calls Try.prog 38 #[.agg #[.int .i64 op42, .int .i64 op43, .int .i64 op44, .int .i64 op45, .int .u32 op46]] w41 (fun e47 w48 => ∃ (n49 : Int), ∃ (n50 : Int), ∃ (n51 : Int), ∃ (n52 : Int), ∃ (n53 : Int), ∃ (n54 : Int), e47 = .returned (.tuple #[.agg #[.int .i64 n49, .int .i64 n50, .int .i64 n51, .int .i64 n52, .int .u32 n53], .int .i64 n54]) ∧ 
                let p55 : Nat := w48.heap.size; let w56 : World := w48.alloc (.cells #[.int .i64 0, .int .i64 0, .int .i64 0, .int .i64 0, .int .u32 0] 57); 
                wrN w56 (⟨p55, 0, none⟩ : Addr) 5 ∧ let w57 : World := setN (⟨p55, 0, none⟩ : Addr) 0 [.int .i64 n49, .int .i64 n50, .int .i64 n51, .int .i64 n52, .int .u32 n53] w56; 
                cond (n54 == (0 : Int))
                  (∃ (op58 : Int), ∃ (op59 : Int), ∃ (op60 : Int), ∃ (op61 : Int), ∃ (op62 : Int), w57.cell? (⟨p39, 0, none⟩ : Addr) = some (.int .i64 op58) ∧ w57.cell? (⟨p39, 1, none⟩ : Addr) = some (.int .i64 op59) ∧ w57.cell? (⟨p39, 2, none⟩ : Addr) = some (.int .i64 op60) ∧ w57.cell? (⟨p39, 3, none⟩ : Addr) = some (.int .i64 op61) ∧ w57.cell? (⟨p39, 4, none⟩ : Addr) = some (.int .u32 op62) ∧ 
                  Calls Try.prog 56 #[.pointer p18, .agg #[.int .i64 op58, .int .i64 op59, .int .i64 op60, .int .i64 op61, .int .u32 op62]] w57 (fun e63 w64 => ∃ (n65 : Int), e63 = .returned (.int .i64 n65) ∧ 
                  ∃ (plain66 : Int), ∃ (plain67 : Int), ∃ (plain68 : Int), ∃ (plain69 : Int), ∃ (plain70 : Int), w64.cell? (⟨p55, 0, none⟩ : Addr) = some (.int .i64 plain66) ∧ w64.cell? (⟨p55, 1, none⟩ : Addr) = some (.int .i64 plain67) ∧ w64.cell? (⟨p55, 2, none⟩ : Addr) = some (.int .i64 plain68) ∧ w64.cell? (⟨p55, 3, none⟩ : Addr) = some (.int .i64 plain69) ∧ w64.cell? (⟨p55, 4, none⟩ : Addr) = some (.int .u32 plain70) ∧ 
                  let p71 : Nat := w64.heap.size; let w72 : World := w64.alloc (.cells #[.int .i64 plain66, .int .i64 plain67, .int .i64 plain68, .int .i64 plain69, .int .u32 plain70] 57); 
                  RunWp Try.prog (Builtin.append_ #[64, 64] 64 #[.slice first28 l_first28 c_first28, .slice (some ⟨p71, 0, none⟩) 1 1]) (fun v73 w74 => ∃ (a75 : Option Addr), ∃ (l_a75 : Nat), ∃ (c_a75 : Nat), v73 = .slice a75 l_a75 c_a75 ∧ 
                  I31 [.slice a75 l_a75 c_a75, .int .i64 (IntKind.i64.wrap (n29 + (1 : Int)))] w74 ∧ μ32 [.slice a75 l_a75 c_a75, .int .i64 (IntKind.i64.wrap (n29 + (1 : Int)))] w74 < μ32 [.slice first28 l_first28 c_first28, .int .i64 n29] w30) w72))
                  (I31 [.slice first28 l_first28 c_first28, .int .i64 (IntKind.i64.wrap (n29 + (1 : Int)))] w57 ∧ μ32 [.slice first28 l_first28 c_first28, .int .i64 (IntKind.i64.wrap (n29 + (1 : Int)))] w57 < μ32 [.slice first28 l_first28 c_first28, .int .i64 n29] w30)))
                (Calls Try.prog 57 #[.pointer p18] w30 (fun e113 w114 => ∃ (n115 : Int), e113 = .returned (.int .i64 n115) ∧ 
                cond (n115 != (0 : Int))
                  (K (.bool false) w114)
                  (∃ (More116 : Option Addr), ∃ (l_More116 : Nat), ∃ (c_More116 : Nat), w114.cell? (⟨p5, 1, none⟩ : Addr) = some (.slice More116 l_More116 c_More116) ∧ 
                  Calls Try.prog 55 #[.slice More116 l_More116 c_More116] w114 (fun e117 w118 => ∃ (a119 : Option Addr), ∃ (l_a119 : Nat), ∃ (c_a119 : Nat), e117 = .returned (.slice a119 l_a119 c_a119) ∧ 
                  ∃ (I123 : List Value → World → Prop) (μ124 : List Value → World → Nat), I123 [.slice none 0 0, .int .i64 0] w118 ∧ ∀ (w122 : World) (more120 : Option Addr) (l_more120 : Nat) (c_more120 : Nat) (n121 : Int), I123 [.slice more120 l_more120 c_more120, .int .i64 n121] w122 → 
                  cond (decide (n121 < ((l_a119 : Nat) : Int)))
                    (∃ q125 : Addr, a119 = some q125 ∧ 0 ≤ n121 ∧ n121 < (l_a119 : Nat) ∧ 
                    ∃ (n126 : Int), ∃ (n127 : Int), ∃ (n128 : Int), ∃ (n129 : Int), ∃ (n130 : Int), w122.cell? (q125.add (n121.toNat * 5)) = some (.int .i64 n126) ∧ w122.cell? ((q125.add (n121.toNat * 5)).add 1) = some (.int .i64 n127) ∧ w122.cell? ((q125.add (n121.toNat * 5)).add 2) = some (.int .i64 n128) ∧ w122.cell? ((q125.add (n121.toNat * 5)).add 3) = some (.int .i64 n129) ∧ w122.cell? ((q125.add (n121.toNat * 5)).add 4) = some (.int .u32 n130) ∧ 
                    let p131 : Nat := w122.heap.size; let w132 : World := w122.alloc (.cells #[.int .i64 0, .int .i64 0, .int .i64 0, .int .i64 0, .int .u32 0] 57); 
                    wrN w132 (⟨p131, 0, none⟩ : Addr) 5 ∧ let w133 : World := setN (⟨p131, 0, none⟩ : Addr) 0 [.int .i64 n126, .int .i64 n127, .int .i64 n128, .int .i64 n129, .int .u32 n130] w132; 
                    ∃ (op134 : Int), ∃ (op135 : Int), ∃ (op136 : Int), ∃ (op137 : Int), ∃ (op138 : Int), w133.cell? (⟨p131, 0, none⟩ : Addr) = some (.int .i64 op134) ∧ w133.cell? (⟨p131, 1, none⟩ : Addr) = some (.int .i64 op135) ∧ w133.cell? (⟨p131, 2, none⟩ : Addr) = some (.int .i64 op136) ∧ w133.cell? (⟨p131, 3, none⟩ : Addr) = some (.int .i64 op137) ∧ w133.cell? (⟨p131, 4, none⟩ : Addr) = some (.int .u32 op138) ∧ 
                    Calls Try.prog 38 #[.agg #[.int .i64 op134, .int .i64 op135, .int .i64 op136, .int .i64 op137, .int .u32 op138]] w133 (fun e139 w140 => ∃ (n141 : Int), ∃ (n142 : Int), ∃ (n143 : Int), ∃ (n144 : Int), ∃ (n145 : Int), ∃ (n146 : Int), e139 = .returned (.tuple #[.agg #[.int .i64 n141, .int .i64 n142, .int .i64 n143, .int .i64 n144, .int .u32 n145], .int .i64 n146]) ∧ 
                    let p147 : Nat := w140.heap.size; let w148 : World := w140.alloc (.cells #[.int .i64 0, .int .i64 0, .int .i64 0, .int .i64 0, .int .u32 0] 57); 
                    wrN w148 (⟨p147, 0, none⟩ : Addr) 5 ∧ let w149 : World := setN (⟨p147, 0, none⟩ : Addr) 0 [.int .i64 n141, .int .i64 n142, .int .i64 n143, .int .i64 n144, .int .u32 n145] w148; 
                    cond (n146 == (0 : Int))
                      (∃ (op150 : Int), ∃ (op151 : Int), ∃ (op152 : Int), ∃ (op153 : Int), ∃ (op154 : Int), w149.cell? (⟨p131, 0, none⟩ : Addr) = some (.int .i64 op150) ∧ w149.cell? (⟨p131, 1, none⟩ : Addr) = some (.int .i64 op151) ∧ w149.cell? (⟨p131, 2, none⟩ : Addr) = some (.int .i64 op152) ∧ w149.cell? (⟨p131, 3, none⟩ : Addr) = some (.int .i64 op153) ∧ w149.cell? (⟨p131, 4, none⟩ : Addr) = some (.int .u32 op154) ∧ 
                      Calls Try.prog 56 #[.pointer p18, .agg #[.int .i64 op150, .int .i64 op151, .int .i64 op152, .int .i64 op153, .int .u32 op154]] w149 (fun e155 w156 => ∃ (n157 : Int), e155 = .returned (.int .i64 n157) ∧ 
                      ∃ (plain158 : Int), ∃ (plain159 : Int), ∃ (plain160 : Int), ∃ (plain161 : Int), ∃ (plain162 : Int), w156.cell? (⟨p147, 0, none⟩ : Addr) = some (.int .i64 plain158) ∧ w156.cell? (⟨p147, 1, none⟩ : Addr) = some (.int .i64 plain159) ∧ w156.cell? (⟨p147, 2, none⟩ : Addr) = some (.int .i64 plain160) ∧ w156.cell? (⟨p147, 3, none⟩ : Addr) = some (.int .i64 plain161) ∧ w156.cell? (⟨p147, 4, none⟩ : Addr) = some (.int .u32 plain162) ∧ 
                      let p163 : Nat := w156.heap.size; let w164 : World := w156.alloc (.cells #[.int .i64 plain158, .int .i64 plain159, .int .i64 plain160, .int .i64 plain161, .int .u32 plain162] 57); 
                      RunWp Try.prog (Builtin.append_ #[64, 64] 64 #[.slice more120 l_more120 c_more120, .slice (some ⟨p163, 0, none⟩) 1 1]) (fun v165 w166 => ∃ (a167 : Option Addr), ∃ (l_a167 : Nat), ∃ (c_a167 : Nat), v165 = .slice a167 l_a167 c_a167 ∧ 
                      I123 [.slice a167 l_a167 c_a167, .int .i64 (IntKind.i64.wrap (n121 + (1 : Int)))] w166 ∧ μ124 [.slice a167 l_a167 c_a167, .int .i64 (IntKind.i64.wrap (n121 + (1 : Int)))] w166 < μ124 [.slice more120 l_more120 c_more120, .int .i64 n121] w122) w164))
                      (I123 [.slice more120 l_more120 c_more120, .int .i64 (IntKind.i64.wrap (n121 + (1 : Int)))] w149 ∧ μ124 [.slice more120 l_more120 c_more120, .int .i64 (IntKind.i64.wrap (n121 + (1 : Int)))] w149 < μ124 [.slice more120 l_more120 c_more120, .int .i64 n121] w122)))
                    (∃ (New205 : Option Addr), ∃ (l_New205 : Nat), ∃ (c_New205 : Nat), w122.cell? (⟨p5, 2, none⟩ : Addr) = some (.slice New205 l_New205 c_New205) ∧ 
                    Calls Try.prog 55 #[.slice New205 l_New205 c_New205] w122 (fun e206 w207 => ∃ (a208 : Option Addr), ∃ (l_a208 : Nat), ∃ (c_a208 : Nat), e206 = .returned (.slice a208 l_a208 c_a208) ∧ 
                    ∃ (I212 : List Value → World → Prop) (μ213 : List Value → World → Nat), I212 [.slice none 0 0, .int .i64 0] w207 ∧ ∀ (w211 : World) (now209 : Option Addr) (l_now209 : Nat) (c_now209 : Nat) (n210 : Int), I212 [.slice now209 l_now209 c_now209, .int .i64 n210] w211 → 
                    cond (decide (n210 < ((l_a208 : Nat) : Int)))
                      (∃ q214 : Addr, a208 = some q214 ∧ 0 ≤ n210 ∧ n210 < (l_a208 : Nat) ∧ 
                      ∃ (n215 : Int), ∃ (n216 : Int), ∃ (n217 : Int), ∃ (n218 : Int), ∃ (n219 : Int), w211.cell? (q214.add (n210.toNat * 5)) = some (.int .i64 n215) ∧ w211.cell? ((q214.add (n210.toNat * 5)).add 1) = some (.int .i64 n216) ∧ w211.cell? ((q214.add (n210.toNat * 5)).add 2) = some (.int .i64 n217) ∧ w211.cell? ((q214.add (n210.toNat * 5)).add 3) = some (.int .i64 n218) ∧ w211.cell? ((q214.add (n210.toNat * 5)).add 4) = some (.int .u32 n219) ∧ 
                      let p220 : Nat := w211.heap.size; let w221 : World := w211.alloc (.cells #[.int .i64 0, .int .i64 0, .int .i64 0, .int .i64 0, .int .u32 0] 57); 
                      wrN w221 (⟨p220, 0, none⟩ : Addr) 5 ∧ let w222 : World := setN (⟨p220, 0, none⟩ : Addr) 0 [.int .i64 n215, .int .i64 n216, .int .i64 n217, .int .i64 n218, .int .u32 n219] w221; 
                      ∃ (op223 : Int), ∃ (op224 : Int), ∃ (op225 : Int), ∃ (op226 : Int), ∃ (op227 : Int), w222.cell? (⟨p220, 0, none⟩ : Addr) = some (.int .i64 op223) ∧ w222.cell? (⟨p220, 1, none⟩ : Addr) = some (.int .i64 op224) ∧ w222.cell? (⟨p220, 2, none⟩ : Addr) = some (.int .i64 op225) ∧ w222.cell? (⟨p220, 3, none⟩ : Addr) = some (.int .i64 op226) ∧ w222.cell? (⟨p220, 4, none⟩ : Addr) = some (.int .u32 op227) ∧ 
                      Calls Try.prog 38 #[.agg #[.int .i64 op223, .int .i64 op224, .int .i64 op225, .int .i64 op226, .int .u32 op227]] w222 (fun e228 w229 => ∃ (n230 : Int), ∃ (n231 : Int), ∃ (n232 : Int), ∃ (n233 : Int), ∃ (n234 : Int), ∃ (n235 : Int), e228 = .returned (.tuple #[.agg #[.int .i64 n230, .int .i64 n231, .int .i64 n232, .int .i64 n233, .int .u32 n234], .int .i64 n235]) ∧ 
                      let p236 : Nat := w229.heap.size; let w237 : World := w229.alloc (.cells #[.int .i64 0, .int .i64 0, .int .i64 0, .int .i64 0, .int .u32 0] 57); 
                      wrN w237 (⟨p236, 0, none⟩ : Addr) 5 ∧ let w238 : World := setN (⟨p236, 0, none⟩ : Addr) 0 [.int .i64 n230, .int .i64 n231, .int .i64 n232, .int .i64 n233, .int .u32 n234] w237; 
                      cond (n235 == (0 : Int))
                        (∃ (plain239 : Int), ∃ (plain240 : Int), ∃ (plain241 : Int), ∃ (plain242 : Int), ∃ (plain243 : Int), w238.cell? (⟨p236, 0, none⟩ : Addr) = some (.int .i64 plain239) ∧ w238.cell? (⟨p236, 1, none⟩ : Addr) = some (.int .i64 plain240) ∧ w238.cell? (⟨p236, 2, none⟩ : Addr) = some (.int .i64 plain241) ∧ w238.cell? (⟨p236, 3, none⟩ : Addr) = some (.int .i64 plain242) ∧ w238.cell? (⟨p236, 4, none⟩ : Addr) = some (.int .u32 plain243) ∧ 
                        let p244 : Nat := w238.heap.size; let w245 : World := w238.alloc (.cells #[.int .i64 plain239, .int .i64 plain240, .int .i64 plain241, .int .i64 plain242, .int .u32 plain243] 57); 
                        RunWp Try.prog (Builtin.append_ #[64, 64] 64 #[.slice now209 l_now209 c_now209, .slice (some ⟨p244, 0, none⟩) 1 1]) (fun v246 w247 => ∃ (a248 : Option Addr), ∃ (l_a248 : Nat), ∃ (c_a248 : Nat), v246 = .slice a248 l_a248 c_a248 ∧ 
                        I212 [.slice a248 l_a248 c_a248, .int .i64 (IntKind.i64.wrap (n210 + (1 : Int)))] w247 ∧ μ213 [.slice a248 l_a248 c_a248, .int .i64 (IntKind.i64.wrap (n210 + (1 : Int)))] w247 < μ213 [.slice now209 l_now209 c_now209, .int .i64 n210] w211) w245)
                        (I212 [.slice now209 l_now209 c_now209, .int .i64 (IntKind.i64.wrap (n210 + (1 : Int)))] w238 ∧ μ213 [.slice now209 l_now209 c_now209, .int .i64 (IntKind.i64.wrap (n210 + (1 : Int)))] w238 < μ213 [.slice now209 l_now209 c_now209, .int .i64 n210] w211)))
                      (let K292 : World → Prop := fun w291 =>
                          Calls Try.prog 59 #[.pointer p18, .slice now209 l_now209 c_now209] w291 (fun e293 w294 => ∃ (n295 : Int), e293 = .returned (.int .i64 n295) ∧ 
                          let K305 : Bool → World → Prop := fun b303 w304 =>
                              cond b303
                                (K (.bool false) w304)
                                (∃ (I309 : List Value → World → Prop) (μ310 : List Value → World → Nat), I309 [.bool false, .int .i64 0] w304 ∧ ∀ (w308 : World) (b306 : Bool) (keep307 : Int), I309 [.bool b306, .int .i64 keep307] w308 → 
                                Calls Try.prog 27 #[.pointer p9] w308 (fun e311 w312 => ∃ (n313 : Int), e311 = .returned (.int .i64 n313) ∧ 
                                cond (decide (keep307 ≤ n313))
                                  (Calls Try.prog 23 #[.pointer p9, .int .i64 keep307] w312 (fun e314 w315 => ∃ (p316 : Option Addr), e314 = .returned (.pointer p316) ∧ 
                                  cond p316.isNone
                                    (K (.bool false) w315)
                                    (Calls Try.prog 47 #[.pointer p316] w315 (fun e317 w318 => ∃ (p319 : Option Addr), ∃ (a320 : Option Addr), ∃ (l_a320 : Nat), ∃ (c_a320 : Nat), ∃ (n321 : Int), e317 = .returned (.tuple #[.pointer p319, .slice a320 l_a320 c_a320, .int .i64 n321]) ∧ 
                                    let K337 : Bool → Bool → Bool → Bool → Bool → Bool → Bool → World → Prop := fun b329 b330 b331 b332 b333 b334 b335 w336 =>
                                        let K352 : Bool → Bool → Bool → Bool → World → Prop := fun b347 b348 b349 b350 w351 =>
                                            cond b350
                                              (K (.bool false) w351)
                                              (I309 [.bool b306, .int .i64 (IntKind.i64.wrap (keep307 + (1 : Int)))] w351 ∧ μ310 [.bool b306, .int .i64 (IntKind.i64.wrap (keep307 + (1 : Int)))] w351 < μ310 [.bool b306, .int .i64 keep307] w308)
                                        cond (n321 != (0 : Int))
                                          (K352 true true true true w336)
                                          (cond (n295 == (0 : Int))
                                            (Calls Try.prog 42 #[.slice a320 l_a320 c_a320, .slice now209 l_now209 c_now209] w336 (fun e338 w339 => ∃ (b340 : Bool), e338 = .returned (.bool b340) ∧ 
                                            cond (!b340)
                                              (K352 false (!b340) true true w339)
                                              (cond (!b329)
                                                (Calls Try.prog 42 #[.slice a320 l_a320 c_a320, .slice now209 l_now209 c_now209] w339 (fun e341 w342 => ∃ (b343 : Bool), e341 = .returned (.bool b343) ∧ 
                                                K352 false (!b340) false (!b343) w342))
                                                (K352 false (!b340) false false w339))))
                                            (cond (!b329)
                                              (Calls Try.prog 42 #[.slice a320 l_a320 c_a320, .slice now209 l_now209 c_now209] w336 (fun e344 w345 => ∃ (b346 : Bool), e344 = .returned (.bool b346) ∧ 
                                              K352 false false false (!b346) w345))
                                              (K352 false false false false w336)))
                                    let w322 : World := w318.drew; 
                                    cond (decide ((IntKind.i64.wrap (((l_a320 : Nat) : Int) - ((l_first28 : Nat) : Int))) ≥ (0 : Int)))
                                      (cond (decide ((IntKind.i64.wrap (((l_a320 : Nat) : Int) - ((l_first28 : Nat) : Int))) ≤ ((l_more120 : Nat) : Int)))
                                        (0 ≤ ((l_first28 : Nat) : Int) ∧ ((l_first28 : Nat) : Int) ≤ (c_a320 : Nat) ∧ 
                                        Calls Try.prog 42 #[.slice (subS a320 c_a320 0 5) ((((l_first28 : Nat) : Int).toNat) - 0) (c_a320 - 0), .slice first28 l_first28 c_first28] w322 (fun e323 w324 => ∃ (b325 : Bool), e323 = .returned (.bool b325) ∧ 
                                        cond b325
                                          (0 ≤ ((l_first28 : Nat) : Int) ∧ ((l_first28 : Nat) : Int) ≤ (l_a320 : Nat) ∧ 
                                          0 ≤ (IntKind.i64.wrap (((l_a320 : Nat) : Int) - ((l_first28 : Nat) : Int))) ∧ (IntKind.i64.wrap (((l_a320 : Nat) : Int) - ((l_first28 : Nat) : Int))) ≤ (c_more120 : Nat) ∧ 
                                          Calls Try.prog 42 #[.slice (subS a320 c_a320 (((l_first28 : Nat) : Int).toNat) 5) (l_a320 - (((l_first28 : Nat) : Int).toNat)) (c_a320 - (((l_first28 : Nat) : Int).toNat)), .slice (subS more120 c_more120 0 5) (((IntKind.i64.wrap (((l_a320 : Nat) : Int) - ((l_first28 : Nat) : Int))).toNat) - 0) (c_more120 - 0)] w324 (fun e326 w327 => ∃ (b328 : Bool), e326 = .returned (.bool b328) ∧ 
                                          K337 b328 true (decide ((IntKind.i64.wrap (((l_a320 : Nat) : Int) - ((l_first28 : Nat) : Int))) ≤ ((l_more120 : Nat) : Int))) true b325 true b328 w327))
                                          (K337 false true (decide ((IntKind.i64.wrap (((l_a320 : Nat) : Int) - ((l_first28 : Nat) : Int))) ≤ ((l_more120 : Nat) : Int))) true b325 false false w324)))
                                        (K337 false true (decide ((IntKind.i64.wrap (((l_a320 : Nat) : Int) - ((l_first28 : Nat) : Int))) ≤ ((l_more120 : Nat) : Int))) false false false false w322))
                                      (K337 false false false false false false false w322)))))
                                  (K (.bool true) w312)))
                          cond (n295 != (0 : Int))
                            (cond (n295 != (180 : Int))
                              (K305 true w294)
                              (∃ (Left296 : Int), w294.cell? (⟨p5, 3, none⟩ : Addr) = some (.int .i64 Left296) ∧ 
                              cond (decide (Left296 < (0 : Int)))
                                (K305 true w294)
                                (Calls Try.prog 56 #[.pointer p18, .agg #[.int .i64 6, .int .i64 0, .int .i64 0, .int .i64 0, .int .u32 0]] w294 (fun e297 w298 => ∃ (n299 : Int), e297 = .returned (.int .i64 n299) ∧ 
                                cond (n299 != (180 : Int))
                                  (K305 true w298)
                                  (Calls Try.prog 59 #[.pointer p18, .slice none 0 0] w298 (fun e300 w301 => ∃ (n302 : Int), e300 = .returned (.int .i64 n302) ∧ 
                                  K305 (n302 != (180 : Int)) w301))))))
                            (K305 false w294))
                      ∃ (Left286 : Int), w211.cell? (⟨p5, 3, none⟩ : Addr) = some (.int .i64 Left286) ∧ 
                      cond (decide (Left286 ≥ (0 : Int)))
                        (∃ (Left287 : Int), w211.cell? (⟨p5, 3, none⟩ : Addr) = some (.int .i64 Left287) ∧ 
                        Calls Try.prog 54 #[.pointer p9, .int .i64 Left287] w211 (fun e288 w289 => ∃ (n290 : Int), e288 = .returned (.int .i64 n290) ∧ 
                        K292 w289))
                        (K292 w211))))))))))
        cond p18.isNone
          (K23 true w17)
          (K23 (n20 != (0 : Int)) w17)))
  Calls Try.prog 45 #[] w8 (fun e10 w11 => ∃ (b12 : Bool), e10 = .returned (.bool b12) ∧ 
  cond (!b12)
    (K15 true w11)
    (K15 p9.isNone w11)))
theorem sh20_eq (t1 : Option Addr) (l_t1 : Nat) (c_t1 : Nat) (t2 : Option Addr) (l_t2 : Nat) (c_t2 : Nat) (t3 : Option Addr) (l_t3 : Nat) (c_t3 : Nat) (t4 : Int) (K : Value → World → Prop) (w : World) : denF X Try.f20 [.agg #[.slice t1 l_t1 c_t1, .slice t2 l_t2 c_t2, .slice t3 l_t3 c_t3, .int .i64 t4]] K w = sh20 t1 l_t1 c_t1 t2 l_t2 c_t2 t3 l_t3 c_t3 t4 K w := by kernel_rfl
theorem c20 {t1 : Option Addr} {l_t1 : Nat} {c_t1 : Nat} {t2 : Option Addr} {l_t2 : Nat} {c_t2 : Nat} {t3 : Option Addr} {l_t3 : Nat} {c_t3 : Nat} {t4 : Int} {w : World} {R : Ending → World → Prop} (h : sh20 t1 l_t1 c_t1 t2 l_t2 c_t2 t3 l_t3 c_t3 t4 (fun v w' => R (.returned v) w') w) : Calls Try.prog 20 #[.agg #[.slice t1 l_t1 c_t1, .slice t2 l_t2 c_t2, .slice t3 l_t3 c_t3, .int .i64 t4]] w R :=
  callOf Try.func20 (args := [.agg #[.slice t1 l_t1 c_t1, .slice t2 l_t2 c_t2, .slice t3 l_t3 c_t3, .int .i64 t4]]) (Eq.mpr (sh20_eq t1 l_t1 c_t1 t2 l_t2 c_t2 t3 l_t3 c_t3 t4 _ w) h)

end Go.Proofs.Ytmfidfaiopogbaa
