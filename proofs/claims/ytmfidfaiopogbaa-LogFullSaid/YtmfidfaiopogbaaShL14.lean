/- The shallow texts of these functions, and that they are the code's own; printed by a program of this session (gosh.py). -/
import Derived.Test.YtmfidfaiopogbaaShX
set_option linter.unusedVariables false
set_option maxRecDepth 100000
namespace Go.Proofs.Ytmfidfaiopogbaa
open Go Go.Sh
/-- bramble/bramblelaw20.LogOpens -/
def sh14 (word1 : Option Addr) (l_word1 : Nat) (c_word1 : Nat) (one2 : Option Addr) (l_one2 : Nat) (c_one2 : Nat) (two3 : Option Addr) (l_two3 : Nat) (c_two3 : Nat) (K : Value → World → Prop) (w : World) : Prop :=
  Calls Try.prog 45 #[] w (fun e4 w5 => ∃ (b6 : Bool), e4 = .returned (.bool b6) ∧ 
  cond (!b6)
    (K (.bool false) w5)
    (let p7 : Nat := w5.heap.size; let w8 : World := w5.alloc (.cells #[] 5); 
    RunWp Try.prog (Builtin.append_ #[36, 36] 36 #[.slice (some ⟨p7, 0, none⟩) 0 0, .slice word1 l_word1 c_word1]) (fun v9 w10 => ∃ (a11 : Option Addr), ∃ (l_a11 : Nat), ∃ (c_a11 : Nat), v9 = .slice a11 l_a11 c_a11 ∧ 
    let p12 : Nat := w10.heap.size; let w13 : World := w10.alloc (.cells #[] 5); 
    RunWp Try.prog (Builtin.append_ #[36, 36] 36 #[.slice (some ⟨p12, 0, none⟩) 0 0, .slice one2 l_one2 c_one2]) (fun v14 w15 => ∃ (a16 : Option Addr), ∃ (l_a16 : Nat), ∃ (c_a16 : Nat), v14 = .slice a16 l_a16 c_a16 ∧ 
    let p17 : Nat := w15.heap.size; let w18 : World := w15.alloc (.cells #[] 5); 
    RunWp Try.prog (Builtin.append_ #[36, 36] 36 #[.slice (some ⟨p17, 0, none⟩) 0 0, .slice two3 l_two3 c_two3]) (fun v19 w20 => ∃ (a21 : Option Addr), ∃ (l_a21 : Nat), ∃ (c_a21 : Nat), v19 = .slice a21 l_a21 c_a21 ∧ 
    let p22 : Nat := w20.heap.size; let w23 : World := w20.alloc (.cells #[.slice a11 l_a11 c_a11, .slice a16 l_a16 c_a16, .slice a21 l_a21 c_a21] 36); 
    Calls Try.prog 33 #[.slice (some ⟨p22, 0, none⟩) 3 3] w23 (fun e24 w25 => ∃ (p26 : Option Addr), ∃ (n27 : Int), e24 = .returned (.tuple #[.pointer p26, .int .i64 n27]) ∧ 
    let K30 : Bool → World → Prop := fun b28 w29 =>
        cond b28
          (K (.bool (n27 != (0 : Int))) w29)
          (RunWp Try.prog (convert 36 9 (.slice word1 l_word1 c_word1)) (fun v31 w32 => w32 = w29 ∧ ∃ (s33 : ByteArray), v31 = .string s33 ∧ 
          RunWp Try.prog (convert 36 9 (.slice one2 l_one2 c_one2)) (fun v34 w35 => w35 = w29 ∧ ∃ (s36 : ByteArray), v34 = .string s36 ∧ 
          RunWp Try.prog (convert 36 9 (.slice two3 l_two3 c_two3)) (fun v37 w38 => w38 = w29 ∧ ∃ (s39 : ByteArray), v37 = .string s39 ∧ 
          let p40 : Nat := w29.heap.size; let w41 : World := w29.alloc (.cells #[.string ({ data := #[] } : ByteArray), .string ({ data := #[] } : ByteArray), .string ({ data := #[] } : ByteArray)] 77); 
          wrN w41 (⟨p40, 0, none⟩ : Addr) 3 ∧ let w42 : World := setN (⟨p40, 0, none⟩ : Addr) 0 [.string s33, .string s36, .string s39] w41; 
          ∃ (m43 : ByteArray), ∃ (m44 : ByteArray), ∃ (m45 : ByteArray), w42.cell? (⟨p40, 0, none⟩ : Addr) = some (.string m43) ∧ w42.cell? (⟨p40, 1, none⟩ : Addr) = some (.string m44) ∧ w42.cell? (⟨p40, 2, none⟩ : Addr) = some (.string m45) ∧ 
          Calls Try.prog 46 #[.agg #[.string m43, .string m44, .string m45]] w42 (fun e46 w47 => ∃ (b48 : Bool), e46 = .returned (.bool b48) ∧ 
          Calls Try.prog 47 #[.pointer p26] w47 (fun e49 w50 => ∃ (p51 : Option Addr), ∃ (a52 : Option Addr), ∃ (l_a52 : Nat), ∃ (c_a52 : Nat), ∃ (n53 : Int), e49 = .returned (.tuple #[.pointer p51, .slice a52 l_a52 c_a52, .int .i64 n53]) ∧ 
          ∃ (m54 : ByteArray), ∃ (m55 : ByteArray), ∃ (m56 : ByteArray), w50.cell? (⟨p40, 0, none⟩ : Addr) = some (.string m54) ∧ w50.cell? (⟨p40, 1, none⟩ : Addr) = some (.string m55) ∧ w50.cell? (⟨p40, 2, none⟩ : Addr) = some (.string m56) ∧ 
          Calls Try.prog 48 #[.agg #[.string m54, .string m55, .string m56]] w50 (fun e57 w58 => ∃ (s59 : ByteArray), ∃ (s60 : ByteArray), ∃ (s61 : ByteArray), ∃ (a62 : Option Addr), ∃ (l_a62 : Nat), ∃ (c_a62 : Nat), e57 = .returned (.tuple #[.agg #[.string s59, .string s60, .string s61], .slice a62 l_a62 c_a62]) ∧ 
          wrN w58 (⟨p40, 0, none⟩ : Addr) 3 ∧ let w63 : World := setN (⟨p40, 0, none⟩ : Addr) 0 [.string s59, .string s60, .string s61] w58; 
          let K108 : Bool → World → Prop := fun b106 w107 =>
              cond b106
                (K (.bool false) w107)
                (Calls Try.prog 50 #[.pointer p26] w107 (fun e109 w110 => ∃ (n111 : Int), e109 = .returned (.int .i64 n111) ∧ 
                Calls Try.prog 47 #[.pointer p26] w110 (fun e112 w113 => ∃ (p114 : Option Addr), ∃ (a115 : Option Addr), ∃ (l_a115 : Nat), ∃ (c_a115 : Nat), ∃ (n116 : Int), e112 = .returned (.tuple #[.pointer p114, .slice a115 l_a115 c_a115, .int .i64 n116]) ∧ 
                cond (n116 == (0 : Int))
                  (Calls Try.prog 42 #[.slice a115 l_a115 c_a115, .slice a62 l_a62 c_a62] w113 (fun e117 w118 => ∃ (b119 : Bool), e117 = .returned (.bool b119) ∧ 
                  cond b119
                    (Calls Try.prog 50 #[.pointer p26] w118 (fun e120 w121 => ∃ (n122 : Int), e120 = .returned (.int .i64 n122) ∧ 
                    K (.bool (n122 == n111)) w121))
                    (K (.bool false) w118)))
                  (K (.bool false) w113))))
          let w64 : World := w63.drew; 
          cond (n53 != (0 : Int))
            (K108 true w64)
            (cond p51.isNone
              (K108 true w64)
              (Calls Try.prog 42 #[.slice a52 l_a52 c_a52, .slice a62 l_a62 c_a62] w64 (fun e65 w66 => ∃ (b67 : Bool), e65 = .returned (.bool b67) ∧ 
              cond (!b67)
                (K108 true w66)
                (∃ (m68 : ByteArray), ∃ (m69 : ByteArray), ∃ (m70 : ByteArray), w66.cell? (⟨p40, 0, none⟩ : Addr) = some (.string m68) ∧ w66.cell? (⟨p40, 1, none⟩ : Addr) = some (.string m69) ∧ w66.cell? (⟨p40, 2, none⟩ : Addr) = some (.string m70) ∧ 
                Calls Try.prog 49 #[.pointer p26] w66 (fun e71 w72 => ∃ (s73 : ByteArray), ∃ (s74 : ByteArray), ∃ (s75 : ByteArray), e71 = .returned (.agg #[.string s73, .string s74, .string s75]) ∧ 
                (∃ (m76 : ByteArray), ∃ (m77 : ByteArray), ∃ (m78 : ByteArray), w72.cell? (⟨p40, 0, none⟩ : Addr) = some (.string m76) ∧ w72.cell? (⟨p40, 1, none⟩ : Addr) = some (.string m77) ∧ w72.cell? (⟨p40, 2, none⟩ : Addr) = some (.string m78) ∧ 
                  (some (.agg #[.string m68, .string m69, .string m70]) : Option Value) = some (.agg #[.string m76, .string m77, .string m78]))
                ∧ (RunWp Try.prog (do eqGuard .neq 77 (.tmp 76) (.tmp 77) (.agg #[.string s73, .string s74, .string s75]) (.agg #[.string m68, .string m69, .string m70]); binOp .neq 77 (.agg #[.string s73, .string s74, .string s75]) (.agg #[.string m68, .string m69, .string m70])) (fun v79 w80 => w80 = w72 ∧ ∃ (b81 : Bool), v79 = .bool b81 ∧ 
                  cond b81
                    (K108 true w72)
                    (Calls Try.prog 27 #[.pointer p26] w72 (fun e82 w83 => ∃ (n84 : Int), e82 = .returned (.int .i64 n84) ∧ 
                    cond (n84 != (0 : Int))
                      (K108 true w83)
                      (cond b48
                        (Calls Try.prog 50 #[.pointer p26] w83 (fun e85 w86 => ∃ (n87 : Int), e85 = .returned (.int .i64 n87) ∧ 
                        cond (n87 != (0 : Int))
                          (K108 true w86)
                          (0 ≤ (0 : Int) ∧ (0 : Int) < 3 ∧ 
                          ∃ (s88 : ByteArray), w86.cell? (⟨p40, 0, none⟩ : Addr) = some (.string s88) ∧ 
                          Calls Try.prog 51 #[.pointer p51] w86 (fun e89 w90 => ∃ (n91 : Int), e89 = .returned (.int .i64 n91) ∧ 
                          (∃ (s92 : ByteArray), w90.cell? (⟨p40, 0, none⟩ : Addr) = some (.string s92) ∧ 
                            (some (.string s88) : Option Value) = some (.string s92))
                          ∧ (Calls Try.prog 52 #[.string s88] w90 (fun e93 w94 => ∃ (n95 : Int), e93 = .returned (.int .i64 n95) ∧ 
                            0 ≤ n95 ∧ n95 < 3 ∧ 
                            ∃ (s96 : ByteArray), w94.cell? ((⟨p40, 0, none⟩ : Addr).add (n95.toNat * 1)) = some (.string s96) ∧ 
                            K108 (n91 != ((s96.size : Nat) : Int)) w94))))))
                        (0 ≤ (0 : Int) ∧ (0 : Int) < 3 ∧ 
                        ∃ (s97 : ByteArray), w83.cell? (⟨p40, 0, none⟩ : Addr) = some (.string s97) ∧ 
                        Calls Try.prog 51 #[.pointer p51] w83 (fun e98 w99 => ∃ (n100 : Int), e98 = .returned (.int .i64 n100) ∧ 
                        (∃ (s101 : ByteArray), w99.cell? (⟨p40, 0, none⟩ : Addr) = some (.string s101) ∧ 
                          (some (.string s97) : Option Value) = some (.string s101))
                        ∧ (Calls Try.prog 52 #[.string s97] w99 (fun e102 w103 => ∃ (n104 : Int), e102 = .returned (.int .i64 n104) ∧ 
                          0 ≤ n104 ∧ n104 < 3 ∧ 
                          ∃ (s105 : ByteArray), w103.cell? ((⟨p40, 0, none⟩ : Addr).add (n104.toNat * 1)) = some (.string s105) ∧ 
                          K108 (n100 != ((s105.size : Nat) : Int)) w103)))))))) w72)))))))))) w29) w29) w29)
    cond (n27 != (0 : Int))
      (K30 true w25)
      (K30 p26.isNone w25))) w18) w13) w8))
theorem sh14_eq (word1 : Option Addr) (l_word1 : Nat) (c_word1 : Nat) (one2 : Option Addr) (l_one2 : Nat) (c_one2 : Nat) (two3 : Option Addr) (l_two3 : Nat) (c_two3 : Nat) (K : Value → World → Prop) (w : World) : denF X Try.f14 [.slice word1 l_word1 c_word1, .slice one2 l_one2 c_one2, .slice two3 l_two3 c_two3] K w = sh14 word1 l_word1 c_word1 one2 l_one2 c_one2 two3 l_two3 c_two3 K w := by kernel_rfl
theorem c14 {word1 : Option Addr} {l_word1 : Nat} {c_word1 : Nat} {one2 : Option Addr} {l_one2 : Nat} {c_one2 : Nat} {two3 : Option Addr} {l_two3 : Nat} {c_two3 : Nat} {w : World} {R : Ending → World → Prop} (h : sh14 word1 l_word1 c_word1 one2 l_one2 c_one2 two3 l_two3 c_two3 (fun v w' => R (.returned v) w') w) : Calls Try.prog 14 #[.slice word1 l_word1 c_word1, .slice one2 l_one2 c_one2, .slice two3 l_two3 c_two3] w R :=
  callOf Try.func14 (args := [.slice word1 l_word1 c_word1, .slice one2 l_one2 c_one2, .slice two3 l_two3 c_two3]) (Eq.mpr (sh14_eq word1 l_word1 c_word1 one2 l_one2 c_one2 two3 l_two3 c_two3 _ w) h)

end Go.Proofs.Ytmfidfaiopogbaa
