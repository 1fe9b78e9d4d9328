/- The shallow texts of these functions, and that they are the code's own; printed by a program of this session (gosh.py). -/
import Derived.Test.YtmfidfaiopogbaaShX
set_option linter.unusedVariables false
set_option maxRecDepth 100000
namespace Go.Proofs.Ytmfidfaiopogbaa
open Go Go.Sh
/-- bramble/bramblelaw20.LogPlays -/
def sh18 (script1 : Option Addr) (l_script1 : Nat) (c_script1 : Nat) (K : Value → World → Prop) (w : World) : Prop :=
  Calls Try.prog 53 #[] w (fun e2 w3 => ∃ (p4 : Option Addr), e2 = .returned (.pointer p4) ∧ 
  let K10 : Bool → World → Prop := fun b8 w9 =>
      cond b8
        (K (.bool false) w9)
        (Calls Try.prog 47 #[.pointer p4] w9 (fun e11 w12 => ∃ (p13 : Option Addr), ∃ (a14 : Option Addr), ∃ (l_a14 : Nat), ∃ (c_a14 : Nat), ∃ (n15 : Int), e11 = .returned (.tuple #[.pointer p13, .slice a14 l_a14 c_a14, .int .i64 n15]) ∧ 
        let p16 : Nat := w12.heap.size; let w17 : World := w12.alloc (.cells #[.string ({ data := #[] } : ByteArray), .string ({ data := #[] } : ByteArray), .string ({ data := #[] } : ByteArray)] 77); 
        wrN w17 (⟨p16, 0, none⟩ : Addr) 3 ∧ let w18 : World := setN (⟨p16, 0, none⟩ : Addr) 0 [.string ({ data := #[] } : ByteArray), .string ({ data := #[] } : ByteArray), .string ({ data := #[] } : ByteArray)] w17; 
        ∃ (I24 : List Value → World → Prop) (μ25 : List Value → World → Nat), I24 [.pointer p13, .int .i64 n15, .bool false, .int .i64 0] w18 ∧ ∀ (w23 : World) (l19 : Option Addr) (e20 : Int) (b21 : Bool) (i22 : Int), I24 [.pointer l19, .int .i64 e20, .bool b21, .int .i64 i22] w23 → 
        let K31 : Int → Bool → Bool → Bool → World → Prop := fun n26 b27 b28 b29 w30 =>
            cond b29
              (let K36 : Bool → Bool → Bool → World → Prop := fun b32 b33 b34 w35 =>
                  cond b34
                    (K (.bool false) w35)
                    (∃ q37 : Addr, script1 = some q37 ∧ 0 ≤ i22 ∧ i22 < (l_script1 : Nat) ∧ 
                    ∃ (n38 : Int), ∃ (n39 : Int), ∃ (n40 : Int), ∃ (n41 : Int), ∃ (n42 : Int), ∃ (n43 : Int), ∃ (a44 : Option Addr), ∃ (l_a44 : Nat), ∃ (c_a44 : Nat), w35.cell? (q37.add (i22.toNat * 7)) = some (.int .i64 n38) ∧ w35.cell? ((q37.add (i22.toNat * 7)).add 1) = some (.int .i64 n39) ∧ w35.cell? ((q37.add (i22.toNat * 7)).add 2) = some (.int .i64 n40) ∧ w35.cell? ((q37.add (i22.toNat * 7)).add 3) = some (.int .i64 n41) ∧ w35.cell? ((q37.add (i22.toNat * 7)).add 4) = some (.int .i64 n42) ∧ w35.cell? ((q37.add (i22.toNat * 7)).add 5) = some (.int .u32 n43) ∧ w35.cell? ((q37.add (i22.toNat * 7)).add 6) = some (.slice a44 l_a44 c_a44) ∧ 
                    let p45 : Nat := w35.heap.size; let w46 : World := w35.alloc (.cells #[.int .i64 0, .int .i64 0, .int .i64 0, .int .i64 0, .int .i64 0, .int .u32 0, .slice none 0 0] 98); 
                    wrN w46 (⟨p45, 0, none⟩ : Addr) 7 ∧ let w47 : World := setN (⟨p45, 0, none⟩ : Addr) 0 [.int .i64 n38, .int .i64 n39, .int .i64 n40, .int .i64 n41, .int .i64 n42, .int .u32 n43, .slice a44 l_a44 c_a44] w46; 
                    let K158 : Option Addr → Int → Int → Int → Bool → Bool → World → Prop := fun p151 n152 n153 n154 b155 b156 w157 =>
                        let K193 : ByteArray → ByteArray → ByteArray → ByteArray → ByteArray → ByteArray → Bool → Bool → Bool → World → Prop := fun s183 s184 s185 s186 s187 s188 b189 b190 b191 w192 =>
                            cond b191
                              (K (.bool false) w192)
                              (I24 [.pointer p151, .int .i64 n152, .bool b21, .int .i64 (IntKind.i64.wrap (i22 + (1 : Int)))] w192 ∧ μ25 [.pointer p151, .int .i64 n152, .bool b21, .int .i64 (IntKind.i64.wrap (i22 + (1 : Int)))] w192 < μ25 [.pointer l19, .int .i64 e20, .bool b21, .int .i64 i22] w23)
                        let w159 : World := w157.drew; 
                        ∃ (m160 : ByteArray), ∃ (m161 : ByteArray), ∃ (m162 : ByteArray), w159.cell? (⟨p16, 0, none⟩ : Addr) = some (.string m160) ∧ w159.cell? (⟨p16, 1, none⟩ : Addr) = some (.string m161) ∧ w159.cell? (⟨p16, 2, none⟩ : Addr) = some (.string m162) ∧ 
                        Calls Try.prog 49 #[.pointer p4] w159 (fun e163 w164 => ∃ (s165 : ByteArray), ∃ (s166 : ByteArray), ∃ (s167 : ByteArray), e163 = .returned (.agg #[.string s165, .string s166, .string s167]) ∧ 
                        (∃ (m168 : ByteArray), ∃ (m169 : ByteArray), ∃ (m170 : ByteArray), w164.cell? (⟨p16, 0, none⟩ : Addr) = some (.string m168) ∧ w164.cell? (⟨p16, 1, none⟩ : Addr) = some (.string m169) ∧ w164.cell? (⟨p16, 2, none⟩ : Addr) = some (.string m170) ∧ 
                          (some (.agg #[.string m160, .string m161, .string m162]) : Option Value) = some (.agg #[.string m168, .string m169, .string m170]))
                        ∧ (RunWp Try.prog (do eqGuard .neq 77 (.tmp 148) (.tmp 149) (.agg #[.string s165, .string s166, .string s167]) (.agg #[.string m160, .string m161, .string m162]); binOp .neq 77 (.agg #[.string s165, .string s166, .string s167]) (.agg #[.string m160, .string m161, .string m162])) (fun v171 w172 => w172 = w164 ∧ ∃ (b173 : Bool), v171 = .bool b173 ∧ 
                          cond b173
                            (K193 s165 s166 s167 m160 m161 m162 b173 true true w164)
                            (0 ≤ (0 : Int) ∧ (0 : Int) < 3 ∧ 
                            ∃ (s174 : ByteArray), w164.cell? (⟨p16, 0, none⟩ : Addr) = some (.string s174) ∧ 
                            Calls Try.prog 51 #[.pointer p151] w164 (fun e175 w176 => ∃ (n177 : Int), e175 = .returned (.int .i64 n177) ∧ 
                            (∃ (s178 : ByteArray), w176.cell? (⟨p16, 0, none⟩ : Addr) = some (.string s178) ∧ 
                              (some (.string s174) : Option Value) = some (.string s178))
                            ∧ (Calls Try.prog 52 #[.string s174] w176 (fun e179 w180 => ∃ (n181 : Int), e179 = .returned (.int .i64 n181) ∧ 
                              0 ≤ n181 ∧ n181 < 3 ∧ 
                              ∃ (s182 : ByteArray), w180.cell? ((⟨p16, 0, none⟩ : Addr).add (n181.toNat * 1)) = some (.string s182) ∧ 
                              K193 s165 s166 s167 m160 m161 m162 b173 false (n177 != ((s182.size : Nat) : Int)) w180))))) w164))
                    ∃ (Kind48 : Int), w47.cell? (⟨p45, 0, none⟩ : Addr) = some (.int .i64 Kind48) ∧ 
                    cond (Kind48 == (1 : Int))
                      (let K60 : Int → Bool → Bool → Bool → World → Prop := fun n55 b56 b57 b58 w59 =>
                          cond b58
                            (K (.bool false) w59)
                            (K158 l19 e20 0 Kind48 (Kind48 == (1 : Int)) (Kind48 == (1 : Int)) w59)
                      Calls Try.prog 57 #[.pointer l19] w47 (fun e49 w50 => ∃ (n51 : Int), e49 = .returned (.int .i64 n51) ∧ 
                      cond (n51 != (0 : Int))
                        (K60 n51 (n51 != (0 : Int)) true true w50)
                        (Calls Try.prog 27 #[.pointer p4] w50 (fun e52 w53 => ∃ (n54 : Int), e52 = .returned (.int .i64 n54) ∧ 
                        K60 n51 (n51 != (0 : Int)) false (n54 != (0 : Int)) w53))))
                      (cond (Kind48 == (2 : Int))
                        (∃ (Ops61 : Option Addr), ∃ (l_Ops61 : Nat), ∃ (c_Ops61 : Nat), w47.cell? (⟨p45, 6, none⟩ : Addr) = some (.slice Ops61 l_Ops61 c_Ops61) ∧ 
                        Calls Try.prog 55 #[.slice Ops61 l_Ops61 c_Ops61] w47 (fun e62 w63 => ∃ (a64 : Option Addr), ∃ (l_a64 : Nat), ∃ (c_a64 : Nat), e62 = .returned (.slice a64 l_a64 c_a64) ∧ 
                        Calls Try.prog 59 #[.pointer l19, .slice a64 l_a64 c_a64] w63 (fun e65 w66 => ∃ (n67 : Int), e65 = .returned (.int .i64 n67) ∧ 
                        ∃ (m68 : ByteArray), ∃ (m69 : ByteArray), ∃ (m70 : ByteArray), w66.cell? (⟨p16, 0, none⟩ : Addr) = some (.string m68) ∧ w66.cell? (⟨p16, 1, none⟩ : Addr) = some (.string m69) ∧ w66.cell? (⟨p16, 2, none⟩ : Addr) = some (.string m70) ∧ 
                        Calls Try.prog 60 #[.agg #[.string m68, .string m69, .string m70], .slice a64 l_a64 c_a64] w66 (fun e71 w72 => ∃ (s73 : ByteArray), ∃ (s74 : ByteArray), ∃ (s75 : ByteArray), ∃ (n76 : Int), e71 = .returned (.tuple #[.agg #[.string s73, .string s74, .string s75], .int .i64 n76]) ∧ 
                        wrN w72 (⟨p16, 0, none⟩ : Addr) 3 ∧ let w77 : World := setN (⟨p16, 0, none⟩ : Addr) 0 [.string s73, .string s74, .string s75] w72; 
                        let K84 : Bool → Bool → World → Prop := fun b81 b82 w83 =>
                            cond b82
                              (K (.bool false) w83)
                              (K158 l19 e20 n76 Kind48 (Kind48 == (1 : Int)) (Kind48 == (1 : Int)) w83)
                        cond (n67 != n76)
                          (K84 true true w77)
                          (cond (n76 == (0 : Int))
                            (Calls Try.prog 27 #[.pointer p4] w77 (fun e78 w79 => ∃ (n80 : Int), e78 = .returned (.int .i64 n80) ∧ 
                            K84 false (decide (n80 > (1 : Int))) w79))
                            (K84 false false w77))))))
                        (cond (Kind48 == (3 : Int))
                          (Calls Try.prog 50 #[.pointer p4] w47 (fun e85 w86 => ∃ (n87 : Int), e85 = .returned (.int .i64 n87) ∧ 
                          Calls Try.prog 47 #[.pointer p4] w86 (fun e88 w89 => ∃ (p90 : Option Addr), ∃ (a91 : Option Addr), ∃ (l_a91 : Nat), ∃ (c_a91 : Nat), ∃ (n92 : Int), e88 = .returned (.tuple #[.pointer p90, .slice a91 l_a91 c_a91, .int .i64 n92]) ∧ 
                          ∃ (m93 : ByteArray), ∃ (m94 : ByteArray), ∃ (m95 : ByteArray), w89.cell? (⟨p16, 0, none⟩ : Addr) = some (.string m93) ∧ w89.cell? (⟨p16, 1, none⟩ : Addr) = some (.string m94) ∧ w89.cell? (⟨p16, 2, none⟩ : Addr) = some (.string m95) ∧ 
                          Calls Try.prog 48 #[.agg #[.string m93, .string m94, .string m95]] w89 (fun e96 w97 => ∃ (s98 : ByteArray), ∃ (s99 : ByteArray), ∃ (s100 : ByteArray), ∃ (a101 : Option Addr), ∃ (l_a101 : Nat), ∃ (c_a101 : Nat), e96 = .returned (.tuple #[.agg #[.string s98, .string s99, .string s100], .slice a101 l_a101 c_a101]) ∧ 
                          let K115 : Bool → Bool → Bool → Bool → Bool → Bool → World → Prop := fun b108 b109 b110 b111 b112 b113 w114 =>
                              cond b113
                                (K (.bool false) w114)
                                (K158 p90 n92 0 Kind48 (Kind48 == (1 : Int)) (Kind48 == (1 : Int)) w114)
                          cond (n92 != (0 : Int))
                            (K115 true true true true true true w97)
                            (cond p90.isNone
                              (K115 false p90.isNone true true true true w97)
                              (Calls Try.prog 42 #[.slice a91 l_a91 c_a91, .slice a101 l_a101 c_a101] w97 (fun e102 w103 => ∃ (b104 : Bool), e102 = .returned (.bool b104) ∧ 
                              cond (!b104)
                                (K115 false p90.isNone false (!b104) true true w103)
                                (Calls Try.prog 50 #[.pointer p4] w103 (fun e105 w106 => ∃ (n107 : Int), e105 = .returned (.int .i64 n107) ∧ 
                                K115 false p90.isNone false (!b104) false (n107 != n87) w106)))))))))
                          (∃ (Op116 : Int), ∃ (Op117 : Int), ∃ (Op118 : Int), ∃ (Op119 : Int), ∃ (Op120 : Int), w47.cell? (⟨p45, 1, none⟩ : Addr) = some (.int .i64 Op116) ∧ w47.cell? (⟨p45, 2, none⟩ : Addr) = some (.int .i64 Op117) ∧ w47.cell? (⟨p45, 3, none⟩ : Addr) = some (.int .i64 Op118) ∧ w47.cell? (⟨p45, 4, none⟩ : Addr) = some (.int .i64 Op119) ∧ w47.cell? (⟨p45, 5, none⟩ : Addr) = some (.int .u32 Op120) ∧ 
                          Calls Try.prog 61 #[.pointer l19, .agg #[.int .i64 Op116, .int .i64 Op117, .int .i64 Op118, .int .i64 Op119, .int .u32 Op120]] w47 (fun e121 w122 => ∃ (b123 : Bool), e121 = .returned (.bool b123) ∧ 
                          ∃ (Op124 : Int), ∃ (Op125 : Int), ∃ (Op126 : Int), ∃ (Op127 : Int), ∃ (Op128 : Int), w122.cell? (⟨p45, 1, none⟩ : Addr) = some (.int .i64 Op124) ∧ w122.cell? (⟨p45, 2, none⟩ : Addr) = some (.int .i64 Op125) ∧ w122.cell? (⟨p45, 3, none⟩ : Addr) = some (.int .i64 Op126) ∧ w122.cell? (⟨p45, 4, none⟩ : Addr) = some (.int .i64 Op127) ∧ w122.cell? (⟨p45, 5, none⟩ : Addr) = some (.int .u32 Op128) ∧ 
                          Calls Try.prog 56 #[.pointer l19, .agg #[.int .i64 Op124, .int .i64 Op125, .int .i64 Op126, .int .i64 Op127, .int .u32 Op128]] w122 (fun e129 w130 => ∃ (n131 : Int), e129 = .returned (.int .i64 n131) ∧ 
                          ∃ (m132 : ByteArray), ∃ (m133 : ByteArray), ∃ (m134 : ByteArray), w130.cell? (⟨p16, 0, none⟩ : Addr) = some (.string m132) ∧ w130.cell? (⟨p16, 1, none⟩ : Addr) = some (.string m133) ∧ w130.cell? (⟨p16, 2, none⟩ : Addr) = some (.string m134) ∧ 
                          ∃ (Op135 : Int), ∃ (Op136 : Int), ∃ (Op137 : Int), ∃ (Op138 : Int), ∃ (Op139 : Int), w130.cell? (⟨p45, 1, none⟩ : Addr) = some (.int .i64 Op135) ∧ w130.cell? (⟨p45, 2, none⟩ : Addr) = some (.int .i64 Op136) ∧ w130.cell? (⟨p45, 3, none⟩ : Addr) = some (.int .i64 Op137) ∧ w130.cell? (⟨p45, 4, none⟩ : Addr) = some (.int .i64 Op138) ∧ w130.cell? (⟨p45, 5, none⟩ : Addr) = some (.int .u32 Op139) ∧ 
                          Calls Try.prog 62 #[.agg #[.string m132, .string m133, .string m134], .agg #[.int .i64 Op135, .int .i64 Op136, .int .i64 Op137, .int .i64 Op138, .int .u32 Op139]] w130 (fun e140 w141 => ∃ (s142 : ByteArray), ∃ (s143 : ByteArray), ∃ (s144 : ByteArray), ∃ (n145 : Int), e140 = .returned (.tuple #[.agg #[.string s142, .string s143, .string s144], .int .i64 n145]) ∧ 
                          wrN w141 (⟨p16, 0, none⟩ : Addr) 3 ∧ let w146 : World := setN (⟨p16, 0, none⟩ : Addr) 0 [.string s142, .string s143, .string s144] w141; 
                          let K150 : Bool → Bool → World → Prop := fun b147 b148 w149 =>
                              cond b148
                                (K (.bool false) w149)
                                (K158 l19 e20 n145 Kind48 (Kind48 == (1 : Int)) (Kind48 == (1 : Int)) w149)
                          cond (n131 != n145)
                            (K150 true true w146)
                            (K150 false (!(b123 == (n145 == (0 : Int)))) w146))))))))
              cond l19.isNone
                (K36 l19.isNone true true w30)
                (K36 l19.isNone false (e20 != (0 : Int)) w30))
              (cond (!l19.isNone)
                (K (.bool (e20 == (0 : Int))) w30)
                (K (.bool false) w30))
        cond (decide (i22 < ((l_script1 : Nat) : Int)))
          (K31 ((l_script1 : Nat) : Int) (decide (i22 < ((l_script1 : Nat) : Int))) true (decide (i22 < (60 : Int))) w23)
          (K31 ((l_script1 : Nat) : Int) (decide (i22 < ((l_script1 : Nat) : Int))) false false w23)))
  Calls Try.prog 45 #[] w3 (fun e5 w6 => ∃ (b7 : Bool), e5 = .returned (.bool b7) ∧ 
  cond (!b7)
    (K10 true w6)
    (K10 p4.isNone w6)))
theorem sh18_eq (script1 : Option Addr) (l_script1 : Nat) (c_script1 : Nat) (K : Value → World → Prop) (w : World) : denF X Try.f18 [.slice script1 l_script1 c_script1] K w = sh18 script1 l_script1 c_script1 K w := by kernel_rfl
theorem c18 {script1 : Option Addr} {l_script1 : Nat} {c_script1 : Nat} {w : World} {R : Ending → World → Prop} (h : sh18 script1 l_script1 c_script1 (fun v w' => R (.returned v) w') w) : Calls Try.prog 18 #[.slice script1 l_script1 c_script1] w R :=
  callOf Try.func18 (args := [.slice script1 l_script1 c_script1]) (Eq.mpr (sh18_eq script1 l_script1 c_script1 _ w) h)

end Go.Proofs.Ytmfidfaiopogbaa
