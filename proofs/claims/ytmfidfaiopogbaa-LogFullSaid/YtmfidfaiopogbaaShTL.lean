/- The shallow texts of these functions, and that they are the code's own; printed by a program of this session (gosh.py). -/
import Derived.Test.YtmfidfaiopogbaaShX
set_option linter.unusedVariables false
set_option maxRecDepth 100000
namespace Go.Proofs.Ytmfidfaiopogbaa
open Go Go.Sh
/-- bramble/bramblelaw20.awake -/
def sh45 (K : Value → World → Prop) (w : World) : Prop :=
  Calls Try.prog 53 #[] w (fun e1 w2 => ∃ (p3 : Option Addr), e1 = .returned (.pointer p3) ∧ 
  cond p3.isNone
    (K (.bool false) w2)
    (Calls Try.prog 47 #[.pointer p3] w2 (fun e4 w5 => ∃ (p6 : Option Addr), ∃ (a7 : Option Addr), ∃ (l_a7 : Nat), ∃ (c_a7 : Nat), ∃ (n8 : Int), e4 = .returned (.tuple #[.pointer p6, .slice a7 l_a7 c_a7, .int .i64 n8]) ∧ 
    let K17 : Bool → World → Prop := fun b15 w16 =>
        cond b15
          (K (.bool false) w16)
          (Calls Try.prog 29 #[.pointer p3, .int .i64 1] w16 (fun e18 w19 => ∃ (a20 : Option Addr), ∃ (l_a20 : Nat), ∃ (c_a20 : Nat), e18 = .returned (.slice a20 l_a20 c_a20) ∧ 
          RunWp Try.prog (convert 36 9 (.slice a20 l_a20 c_a20)) (fun v21 w22 => w22 = w19 ∧ ∃ (s23 : ByteArray), v21 = .string s23 ∧ 
          cond (s23.toList == ({ data := #[3, 1, 172, 2, 246] } : ByteArray).toList)
            (Calls Try.prog 51 #[.pointer p6] w19 (fun e24 w25 => ∃ (n26 : Int), e24 = .returned (.int .i64 n26) ∧ 
            cond (n26 == (5 : Int))
              (Calls Try.prog 27 #[.pointer p3] w25 (fun e27 w28 => ∃ (n29 : Int), e27 = .returned (.int .i64 n29) ∧ 
              K (.bool (decide (n29 > (0 : Int)))) w28))
              (K (.bool false) w25)))
            (K (.bool false) w19)) w19))
    cond p6.isNone
      (K17 true w5)
      (cond (n8 != (0 : Int))
        (K17 true w5)
        (cond (((l_a7 : Nat) : Int) != (0 : Int))
          (K17 true w5)
          (Calls Try.prog 50 #[.pointer p3] w5 (fun e9 w10 => ∃ (n11 : Int), e9 = .returned (.int .i64 n11) ∧ 
          cond (n11 != (0 : Int))
            (K17 true w10)
            (Calls Try.prog 56 #[.pointer p6, .agg #[.int .i64 1, .int .i64 0, .int .i64 0, .int .i64 300, .int .u32 0]] w10 (fun e12 w13 => ∃ (n14 : Int), e12 = .returned (.int .i64 n14) ∧ 
            K17 (n14 != (0 : Int)) w13)))))))))
theorem sh45_eq (K : Value → World → Prop) (w : World) : denF X Try.f45 [] K w = sh45 K w := by kernel_rfl
theorem c45 {w : World} {R : Ending → World → Prop} (h : sh45  (fun v w' => R (.returned v) w') w) : Calls Try.prog 45 #[] w R :=
  callOf Try.func45 (args := []) (Eq.mpr (sh45_eq  _ w) h)

/-- bramble/brambleref20.Tidy -/
def sh46 (files1 : ByteArray) (files2 : ByteArray) (files3 : ByteArray) (K : Value → World → Prop) (w : World) : Prop :=
  let p4 : Nat := w.heap.size; let w5 : World := w.alloc (.cells #[.string files1, .string files2, .string files3] 77); 
  0 ≤ (0 : Int) ∧ (0 : Int) < 3 ∧ 
  ∃ (s6 : ByteArray), w5.cell? (⟨p4, 0, none⟩ : Addr) = some (.string s6) ∧ 
  Calls Try.prog 52 #[.string s6] w5 (fun e7 w8 => ∃ (n9 : Int), e7 = .returned (.int .i64 n9) ∧ 
  0 ≤ n9 ∧ n9 < 3 ∧ 
  ∃ (s10 : ByteArray), w8.cell? ((⟨p4, 0, none⟩ : Addr).add (n9.toNat * 1)) = some (.string s10) ∧ 
  RunWp Try.prog (convert 9 36 (.string s10)) (fun v11 w12 => ∃ (a13 : Option Addr), ∃ (l_a13 : Nat), ∃ (c_a13 : Nat), v11 = .slice a13 l_a13 c_a13 ∧ 
  Calls Try.prog 41 #[.slice a13 l_a13 c_a13] w12 (fun e14 w15 => ∃ (a16 : Option Addr), ∃ (l_a16 : Nat), ∃ (c_a16 : Nat), ∃ (n17 : Int), e14 = .returned (.tuple #[.slice a16 l_a16 c_a16, .int .i64 n17]) ∧ 
  let K23 : Bool → World → Prop := fun b21 w22 =>
      0 ≤ n9 ∧ n9 < 3 ∧ 
      ∃ (s24 : ByteArray), w22.cell? ((⟨p4, 0, none⟩ : Addr).add (n9.toNat * 1)) = some (.string s24) ∧ 
      cond (n17 == ((s24.size : Nat) : Int))
        (0 ≤ (IntKind.i64.wrap ((3 : Int) - n9)) ∧ (IntKind.i64.wrap ((3 : Int) - n9)) < 3 ∧ 
        ∃ (s25 : ByteArray), w22.cell? ((⟨p4, 0, none⟩ : Addr).add ((IntKind.i64.wrap ((3 : Int) - n9)).toNat * 1)) = some (.string s25) ∧ 
        cond (s25.toList == ({ data := #[] } : ByteArray).toList)
          (K (.bool b21) w22)
          (K (.bool false) w22))
        (K (.bool false) w22)
  0 ≤ (0 : Int) ∧ (0 : Int) < 3 ∧ 
  ∃ (s18 : ByteArray), w15.cell? (⟨p4, 0, none⟩ : Addr) = some (.string s18) ∧ 
  cond (s18.toList == ({ data := #[] } : ByteArray).toList)
    (K23 true w15)
    (0 ≤ (0 : Int) ∧ (0 : Int) < 3 ∧ 
    ∃ (s19 : ByteArray), w15.cell? (⟨p4, 0, none⟩ : Addr) = some (.string s19) ∧ 
    cond (s19.toList == ({ data := #[1] } : ByteArray).toList)
      (K23 true w15)
      (0 ≤ (0 : Int) ∧ (0 : Int) < 3 ∧ 
      ∃ (s20 : ByteArray), w15.cell? (⟨p4, 0, none⟩ : Addr) = some (.string s20) ∧ 
      K23 (s20.toList == ({ data := #[2] } : ByteArray).toList) w15)))) w8)
theorem sh46_eq (files1 : ByteArray) (files2 : ByteArray) (files3 : ByteArray) (K : Value → World → Prop) (w : World) : denF X Try.f46 [.agg #[.string files1, .string files2, .string files3]] K w = sh46 files1 files2 files3 K w := by kernel_rfl
theorem c46 {files1 : ByteArray} {files2 : ByteArray} {files3 : ByteArray} {w : World} {R : Ending → World → Prop} (h : sh46 files1 files2 files3 (fun v w' => R (.returned v) w') w) : Calls Try.prog 46 #[.agg #[.string files1, .string files2, .string files3]] w R :=
  callOf Try.func46 (args := [.agg #[.string files1, .string files2, .string files3]]) (Eq.mpr (sh46_eq files1 files2 files3 _ w) h)

/-- bramble/oplog.Open -/
def sh47 (d1 : Addr) (K : Value → World → Prop) (w : World) : Prop :=
  let p2 : Nat := w.heap.size; let w3 : World := w.alloc (.cells #[.pointer (some d1)] 23); 
  ∃ (d4 : Option Addr), w3.cell? (⟨p2, 0, none⟩ : Addr) = some (.pointer d4) ∧ 
  Calls Try.prog 29 #[.pointer d4, .int .i64 0] w3 (fun e5 w6 => ∃ (a7 : Option Addr), ∃ (l_a7 : Nat), ∃ (c_a7 : Nat), e5 = .returned (.slice a7 l_a7 c_a7) ∧ 
  Calls Try.prog 85 #[.slice a7 l_a7 c_a7] w6 (fun e8 w9 => ∃ (n10 : Int), ∃ (b11 : Bool), e8 = .returned (.tuple #[.int .i64 n10, .bool b11]) ∧ 
  ∃ (d12 : Option Addr), w9.cell? (⟨p2, 0, none⟩ : Addr) = some (.pointer d12) ∧ 
  Calls Try.prog 29 #[.pointer d12, .int .i64 n10] w9 (fun e13 w14 => ∃ (a15 : Option Addr), ∃ (l_a15 : Nat), ∃ (c_a15 : Nat), e13 = .returned (.slice a15 l_a15 c_a15) ∧ 
  Calls Try.prog 40 #[.slice a15 l_a15 c_a15] w14 (fun e16 w17 => ∃ (a18 : Option Addr), ∃ (l_a18 : Nat), ∃ (c_a18 : Nat), ∃ (n19 : Int), e16 = .returned (.tuple #[.slice a18 l_a18 c_a18, .int .i64 n19]) ∧ 
  let p20 : Nat := w17.heap.size; let w21 : World := w17.alloc (.cells #[.slice none 0 0] 143); 
  let K29 : World → Prop := fun w28 =>
      let K37 : World → Prop := fun w36 =>
          let K41 : World → Prop := fun w40 =>
              let K52 : World → Prop := fun w51 =>
                  ∃ (todo53 : Option Addr), ∃ (l_todo53 : Nat), ∃ (c_todo53 : Nat), w51.cell? (⟨p20, 0, none⟩ : Addr) = some (.slice todo53 l_todo53 c_todo53) ∧ 
                  Calls Try.prog 88 #[.slice todo53 l_todo53 c_todo53] w51 (fun e54 w55 => ∃ (n56 : Int), e54 = .returned (.int .i64 n56) ∧ 
                  cond (n56 != (0 : Int))
                    (K (.tuple #[.pointer none, .slice none 0 0, .int .i64 180]) w55)
                    (∃ (d57 : Option Addr), w55.cell? (⟨p2, 0, none⟩ : Addr) = some (.pointer d57) ∧ 
                    let p58 : Nat := w55.heap.size; let w59 : World := w55.alloc (.cells #[.pointer d57, .int .i64 n10, .int .i64 n19, .bool false] 147); 
                    K (.tuple #[.pointer (some ⟨p58, 0, none⟩), .slice a18 l_a18 c_a18, .int .i64 0]) w59))
              ∃ (todo42 : Option Addr), ∃ (l_todo42 : Nat), ∃ (c_todo42 : Nat), w40.cell? (⟨p20, 0, none⟩ : Addr) = some (.slice todo42 l_todo42 c_todo42) ∧ 
              cond (decide (((l_todo42 : Nat) : Int) > (0 : Int)))
                (∃ (todo43 : Option Addr), ∃ (l_todo43 : Nat), ∃ (c_todo43 : Nat), w40.cell? (⟨p20, 0, none⟩ : Addr) = some (.slice todo43 l_todo43 c_todo43) ∧ 
                ∃ (d44 : Option Addr), w40.cell? (⟨p2, 0, none⟩ : Addr) = some (.pointer d44) ∧ 
                let p45 : Nat := w40.heap.size; let w46 : World := w40.alloc (.cells #[.func (.func 30) #[.pointer d44] #[]] 42); 
                RunWp Try.prog (Builtin.append_ #[143, 143] 143 #[.slice todo43 l_todo43 c_todo43, .slice (some ⟨p45, 0, none⟩) 1 1]) (fun v47 w48 => ∃ (a49 : Option Addr), ∃ (l_a49 : Nat), ∃ (c_a49 : Nat), v47 = .slice a49 l_a49 c_a49 ∧ 
                wr w48 (⟨p20, 0, none⟩ : Addr) ∧ let w50 : World := w48.setCell (⟨p20, 0, none⟩ : Addr) (.slice a49 l_a49 c_a49); 
                K52 w50) w46)
                (K52 w40)
          cond (!b11)
            (Calls Try.prog 86 #[.int .i64 0, .int .i64 0, .pointer (some ⟨p20, 0, none⟩), .pointer (some ⟨p2, 0, none⟩)] w36 (fun e38 w39 => e38 = .returned (.tuple #[]) ∧ 
            K41 w39))
            (K41 w36)
      ∃ (d30 : Option Addr), w28.cell? (⟨p2, 0, none⟩ : Addr) = some (.pointer d30) ∧ 
      Calls Try.prog 34 #[.pointer d30, .int .i64 (IntKind.i64.wrap ((3 : Int) - n10))] w28 (fun e31 w32 => ∃ (n33 : Int), e31 = .returned (.int .i64 n33) ∧ 
      cond (decide (n33 > (0 : Int)))
        (Calls Try.prog 86 #[.int .i64 (IntKind.i64.wrap ((3 : Int) - n10)), .int .i64 0, .pointer (some ⟨p20, 0, none⟩), .pointer (some ⟨p2, 0, none⟩)] w32 (fun e34 w35 => e34 = .returned (.tuple #[]) ∧ 
        K37 w35))
        (K37 w32))
  ∃ (d22 : Option Addr), w21.cell? (⟨p2, 0, none⟩ : Addr) = some (.pointer d22) ∧ 
  Calls Try.prog 34 #[.pointer d22, .int .i64 n10] w21 (fun e23 w24 => ∃ (n25 : Int), e23 = .returned (.int .i64 n25) ∧ 
  cond (decide (n19 < n25))
    (Calls Try.prog 86 #[.int .i64 n10, .int .i64 n19, .pointer (some ⟨p20, 0, none⟩), .pointer (some ⟨p2, 0, none⟩)] w24 (fun e26 w27 => e26 = .returned (.tuple #[]) ∧ 
    K29 w27))
    (K29 w24))))))
theorem sh47_eq (d1 : Addr) (K : Value → World → Prop) (w : World) : denF X Try.f47 [.pointer (some d1)] K w = sh47 d1 K w := by kernel_rfl
theorem c47 {d1 : Addr} {w : World} {R : Ending → World → Prop} (h : sh47 d1 (fun v w' => R (.returned v) w') w) : Calls Try.prog 47 #[.pointer (some d1)] w R :=
  callOf Try.func47 (args := [.pointer (some d1)]) (Eq.mpr (sh47_eq d1 _ w) h)

/-- bramble/brambleref20.Opened -/
def sh48 (files1 : ByteArray) (files2 : ByteArray) (files3 : ByteArray) (K : Value → World → Prop) (w : World) : Prop :=
  let p4 : Nat := w.heap.size; let w5 : World := w.alloc (.cells #[.string files1, .string files2, .string files3] 77); 
  let p6 : Nat := w5.heap.size; let w7 : World := w5.alloc (.cells #[.string ({ data := #[] } : ByteArray), .string ({ data := #[] } : ByteArray), .string ({ data := #[] } : ByteArray)] 77); 
  0 ≤ (0 : Int) ∧ (0 : Int) < 3 ∧ 
  ∃ (s8 : ByteArray), w7.cell? (⟨p4, 0, none⟩ : Addr) = some (.string s8) ∧ 
  Calls Try.prog 52 #[.string s8] w7 (fun e9 w10 => ∃ (n11 : Int), e9 = .returned (.int .i64 n11) ∧ 
  0 ≤ n11 ∧ n11 < 3 ∧ 
  ∃ (s12 : ByteArray), w10.cell? ((⟨p4, 0, none⟩ : Addr).add (n11.toNat * 1)) = some (.string s12) ∧ 
  RunWp Try.prog (convert 9 36 (.string s12)) (fun v13 w14 => ∃ (a15 : Option Addr), ∃ (l_a15 : Nat), ∃ (c_a15 : Nat), v13 = .slice a15 l_a15 c_a15 ∧ 
  Calls Try.prog 41 #[.slice a15 l_a15 c_a15] w14 (fun e16 w17 => ∃ (a18 : Option Addr), ∃ (l_a18 : Nat), ∃ (c_a18 : Nat), ∃ (n19 : Int), e16 = .returned (.tuple #[.slice a18 l_a18 c_a18, .int .i64 n19]) ∧ 
  0 ≤ n11 ∧ n11 < 3 ∧ 
  ∃ (s20 : ByteArray), w17.cell? ((⟨p4, 0, none⟩ : Addr).add (n11.toNat * 1)) = some (.string s20) ∧ 
  0 ≤ n19 ∧ n19 ≤ (s20.size : Nat) ∧ 
  0 ≤ n11 ∧ n11 < 3 ∧ 
  wr w17 ((⟨p4, 0, none⟩ : Addr).add (n11.toNat * 1)) ∧ let w21 : World := w17.setCell ((⟨p4, 0, none⟩ : Addr).add (n11.toNat * 1)) (.string (s20.extract 0 n19.toNat)); 
  0 ≤ (IntKind.i64.wrap ((3 : Int) - n11)) ∧ (IntKind.i64.wrap ((3 : Int) - n11)) < 3 ∧ 
  wr w21 ((⟨p4, 0, none⟩ : Addr).add ((IntKind.i64.wrap ((3 : Int) - n11)).toNat * 1)) ∧ let w22 : World := w21.setCell ((⟨p4, 0, none⟩ : Addr).add ((IntKind.i64.wrap ((3 : Int) - n11)).toNat * 1)) (.string ({ data := #[] } : ByteArray)); 
  let K30 : World → Prop := fun w29 =>
      ∃ (files31 : ByteArray), ∃ (files32 : ByteArray), ∃ (files33 : ByteArray), w29.cell? (⟨p4, 0, none⟩ : Addr) = some (.string files31) ∧ w29.cell? (⟨p4, 1, none⟩ : Addr) = some (.string files32) ∧ w29.cell? (⟨p4, 2, none⟩ : Addr) = some (.string files33) ∧ 
      wrN w29 (⟨p6, 0, none⟩ : Addr) 3 ∧ let w34 : World := setN (⟨p6, 0, none⟩ : Addr) 0 [.string files31, .string files32, .string files33] w29; 
      ∃ (s35 : ByteArray), ∃ (s36 : ByteArray), ∃ (s37 : ByteArray), w34.cell? (⟨p6, 0, none⟩ : Addr) = some (.string s35) ∧ w34.cell? (⟨p6, 1, none⟩ : Addr) = some (.string s36) ∧ w34.cell? (⟨p6, 2, none⟩ : Addr) = some (.string s37) ∧ 
      K (.tuple #[.agg #[.string s35, .string s36, .string s37], .slice a18 l_a18 c_a18]) w34
  let K27 : Bool → World → Prop := fun b25 w26 =>
      cond b25
        (0 ≤ (0 : Int) ∧ (0 : Int) < 3 ∧ 
        wr w26 (⟨p4, 0, none⟩ : Addr) ∧ let w28 : World := w26.setCell (⟨p4, 0, none⟩ : Addr) (.string ({ data := #[] } : ByteArray)); 
        K30 w28)
        (K30 w26)
  0 ≤ (0 : Int) ∧ (0 : Int) < 3 ∧ 
  ∃ (s23 : ByteArray), w22.cell? (⟨p4, 0, none⟩ : Addr) = some (.string s23) ∧ 
  cond (!(s23.toList == ({ data := #[1] } : ByteArray).toList))
    (0 ≤ (0 : Int) ∧ (0 : Int) < 3 ∧ 
    ∃ (s24 : ByteArray), w22.cell? (⟨p4, 0, none⟩ : Addr) = some (.string s24) ∧ 
    K27 (!(s24.toList == ({ data := #[2] } : ByteArray).toList)) w22)
    (K27 false w22))) w10)
theorem sh48_eq (files1 : ByteArray) (files2 : ByteArray) (files3 : ByteArray) (K : Value → World → Prop) (w : World) : denF X Try.f48 [.agg #[.string files1, .string files2, .string files3]] K w = sh48 files1 files2 files3 K w := by kernel_rfl
theorem c48 {files1 : ByteArray} {files2 : ByteArray} {files3 : ByteArray} {w : World} {R : Ending → World → Prop} (h : sh48 files1 files2 files3 (fun v w' => R (.returned v) w') w) : Calls Try.prog 48 #[.agg #[.string files1, .string files2, .string files3]] w R :=
  callOf Try.func48 (args := [.agg #[.string files1, .string files2, .string files3]]) (Eq.mpr (sh48_eq files1 files2 files3 _ w) h)

/-- bramble/bramblelaw20.files -/
def sh49 (d1 : Addr) (K : Value → World → Prop) (w : World) : Prop :=
  let p2 : Nat := w.heap.size; let w3 : World := w.alloc (.cells #[.string ({ data := #[] } : ByteArray), .string ({ data := #[] } : ByteArray), .string ({ data := #[] } : ByteArray)] 77); 
  let w4 : World := w3.drew; 
  Calls Try.prog 29 #[.pointer (some d1), .int .i64 0] w4 (fun e5 w6 => ∃ (a7 : Option Addr), ∃ (l_a7 : Nat), ∃ (c_a7 : Nat), e5 = .returned (.slice a7 l_a7 c_a7) ∧ 
  RunWp Try.prog (convert 36 9 (.slice a7 l_a7 c_a7)) (fun v8 w9 => w9 = w6 ∧ ∃ (s10 : ByteArray), v8 = .string s10 ∧ 
  Calls Try.prog 29 #[.pointer (some d1), .int .i64 1] w6 (fun e11 w12 => ∃ (a13 : Option Addr), ∃ (l_a13 : Nat), ∃ (c_a13 : Nat), e11 = .returned (.slice a13 l_a13 c_a13) ∧ 
  (RunWp Try.prog (convert 36 9 (.slice a7 l_a7 c_a7)) (fun v14 w15 => w15 = w12 ∧ ∃ (s16 : ByteArray), v14 = .string s16 ∧ 
    (some (.string s10) : Option Value) = some (.string s16)) w12)
  ∧ (RunWp Try.prog (convert 36 9 (.slice a13 l_a13 c_a13)) (fun v17 w18 => w18 = w12 ∧ ∃ (s19 : ByteArray), v17 = .string s19 ∧ 
    Calls Try.prog 29 #[.pointer (some d1), .int .i64 2] w12 (fun e20 w21 => ∃ (a22 : Option Addr), ∃ (l_a22 : Nat), ∃ (c_a22 : Nat), e20 = .returned (.slice a22 l_a22 c_a22) ∧ 
    (RunWp Try.prog (convert 36 9 (.slice a7 l_a7 c_a7)) (fun v23 w24 => w24 = w21 ∧ ∃ (s25 : ByteArray), v23 = .string s25 ∧ 
      (some (.string s10) : Option Value) = some (.string s25)) w21)
    ∧ ((RunWp Try.prog (convert 36 9 (.slice a13 l_a13 c_a13)) (fun v26 w27 => w27 = w21 ∧ ∃ (s28 : ByteArray), v26 = .string s28 ∧ 
        (some (.string s19) : Option Value) = some (.string s28)) w21)
      ∧ (RunWp Try.prog (convert 36 9 (.slice a22 l_a22 c_a22)) (fun v29 w30 => w30 = w21 ∧ ∃ (s31 : ByteArray), v29 = .string s31 ∧ 
        wrN w21 (⟨p2, 0, none⟩ : Addr) 3 ∧ let w32 : World := setN (⟨p2, 0, none⟩ : Addr) 0 [.string s10, .string s19, .string s31] w21; 
        ∃ (s33 : ByteArray), ∃ (s34 : ByteArray), ∃ (s35 : ByteArray), w32.cell? (⟨p2, 0, none⟩ : Addr) = some (.string s33) ∧ w32.cell? (⟨p2, 1, none⟩ : Addr) = some (.string s34) ∧ w32.cell? (⟨p2, 2, none⟩ : Addr) = some (.string s35) ∧ 
        K (.agg #[.string s33, .string s34, .string s35]) w32) w21)))) w12))) w6)
theorem sh49_eq (d1 : Addr) (K : Value → World → Prop) (w : World) : denF X Try.f49 [.pointer (some d1)] K w = sh49 d1 K w := by kernel_rfl
theorem c49 {d1 : Addr} {w : World} {R : Ending → World → Prop} (h : sh49 d1 (fun v w' => R (.returned v) w') w) : Calls Try.prog 49 #[.pointer (some d1)] w R :=
  callOf Try.func49 (args := [.pointer (some d1)]) (Eq.mpr (sh49_eq d1 _ w) h)

/-- (*bramble/oplog.Log).Len -/
def sh51 (l1 : Addr) (K : Value → World → Prop) (w : World) : Prop :=
  ∃ (size2 : Int), w.cell? (l1.add 2) = some (.int .i64 size2) ∧ 
  K (.int .i64 size2) w
theorem sh51_eq (l1 : Addr) (K : Value → World → Prop) (w : World) : denF X Try.f51 [.pointer (some l1)] K w = sh51 l1 K w := by kernel_rfl
theorem c51 {l1 : Addr} {w : World} {R : Ending → World → Prop} (h : sh51 l1 (fun v w' => R (.returned v) w') w) : Calls Try.prog 51 #[.pointer (some l1)] w R :=
  callOf Try.func51 (args := [.pointer (some l1)]) (Eq.mpr (sh51_eq l1 _ w) h)

/-- bramble/brambleref20.File -/
def sh52 (word1 : ByteArray) (K : Value → World → Prop) (w : World) : Prop :=
  cond (word1.toList == ({ data := #[2] } : ByteArray).toList)
    (K (.int .i64 2) w)
    (K (.int .i64 1) w)
theorem sh52_eq (word1 : ByteArray) (K : Value → World → Prop) (w : World) : denF X Try.f52 [.string word1] K w = sh52 word1 K w := by kernel_rfl
theorem c52 {word1 : ByteArray} {w : World} {R : Ending → World → Prop} (h : sh52 word1 (fun v w' => R (.returned v) w') w) : Calls Try.prog 52 #[.string word1] w R :=
  callOf Try.func52 (args := [.string word1]) (Eq.mpr (sh52_eq word1 _ w) h)

/-- bramble/bramblelaw20.cut -/
def sh55 (ops1 : Option Addr) (l_ops1 : Nat) (c_ops1 : Nat) (K : Value → World → Prop) (w : World) : Prop :=
  let p2 : Nat := w.heap.size; let w3 : World := w.alloc (.cells #[] 57); 
  0 ≤ (mnI ((l_ops1 : Nat) : Int) (60 : Int)) ∧ (mnI ((l_ops1 : Nat) : Int) (60 : Int)) ≤ (c_ops1 : Nat) ∧ 
  RunWp Try.prog (Builtin.append_ #[64, 64] 64 #[.slice (some ⟨p2, 0, none⟩) 0 0, .slice (subS ops1 c_ops1 0 5) (((mnI ((l_ops1 : Nat) : Int) (60 : Int)).toNat) - 0) (c_ops1 - 0)]) (fun v4 w5 => ∃ (a6 : Option Addr), ∃ (l_a6 : Nat), ∃ (c_a6 : Nat), v4 = .slice a6 l_a6 c_a6 ∧ 
  K (.slice a6 l_a6 c_a6) w5) w3
theorem sh55_eq (ops1 : Option Addr) (l_ops1 : Nat) (c_ops1 : Nat) (K : Value → World → Prop) (w : World) : denF X Try.f55 [.slice ops1 l_ops1 c_ops1] K w = sh55 ops1 l_ops1 c_ops1 K w := by kernel_rfl
theorem c55 {ops1 : Option Addr} {l_ops1 : Nat} {c_ops1 : Nat} {w : World} {R : Ending → World → Prop} (h : sh55 ops1 l_ops1 c_ops1 (fun v w' => R (.returned v) w') w) : Calls Try.prog 55 #[.slice ops1 l_ops1 c_ops1] w R :=
  callOf Try.func55 (args := [.slice ops1 l_ops1 c_ops1]) (Eq.mpr (sh55_eq ops1 l_ops1 c_ops1 _ w) h)

/-- (*bramble/oplog.Log).Append -/
def sh56 (l1 : Addr) (op2 : Int) (op3 : Int) (op4 : Int) (op5 : Int) (op6 : Int) (K : Value → World → Prop) (w : World) : Prop :=
  let p7 : Nat := w.heap.size; let w8 : World := w.alloc (.cells #[.pointer (some l1)] 79); 
  let p9 : Nat := w8.heap.size; let w10 : World := w8.alloc (.cells #[.int .i64 op2, .int .i64 op3, .int .i64 op4, .int .i64 op5, .int .u32 op6] 57); 
  ∃ (op11 : Int), ∃ (op12 : Int), ∃ (op13 : Int), ∃ (op14 : Int), ∃ (op15 : Int), w10.cell? (⟨p9, 0, none⟩ : Addr) = some (.int .i64 op11) ∧ w10.cell? (⟨p9, 1, none⟩ : Addr) = some (.int .i64 op12) ∧ w10.cell? (⟨p9, 2, none⟩ : Addr) = some (.int .i64 op13) ∧ w10.cell? (⟨p9, 3, none⟩ : Addr) = some (.int .i64 op14) ∧ w10.cell? (⟨p9, 4, none⟩ : Addr) = some (.int .u32 op15) ∧ 
  Calls Try.prog 37 #[.agg #[.int .i64 op11, .int .i64 op12, .int .i64 op13, .int .i64 op14, .int .u32 op15]] w10 (fun e16 w17 => ∃ (a18 : Option Addr), ∃ (l_a18 : Nat), ∃ (c_a18 : Nat), ∃ (n19 : Int), e16 = .returned (.tuple #[.slice a18 l_a18 c_a18, .int .i64 n19]) ∧ 
  let p20 : Nat := w17.heap.size; let w21 : World := w17.alloc (.cells #[.slice none 0 0] 36); 
  wr w21 (⟨p20, 0, none⟩ : Addr) ∧ let w22 : World := w21.setCell (⟨p20, 0, none⟩ : Addr) (.slice a18 l_a18 c_a18); 
  cond (n19 != (0 : Int))
    (K (.int .i64 n19) w22)
    (∃ (l23 : Option Addr), w22.cell? (⟨p7, 0, none⟩ : Addr) = some (.pointer l23) ∧ 
    ∃ (op24 : Int), ∃ (op25 : Int), ∃ (op26 : Int), ∃ (op27 : Int), ∃ (op28 : Int), w22.cell? (⟨p9, 0, none⟩ : Addr) = some (.int .i64 op24) ∧ w22.cell? (⟨p9, 1, none⟩ : Addr) = some (.int .i64 op25) ∧ w22.cell? (⟨p9, 2, none⟩ : Addr) = some (.int .i64 op26) ∧ w22.cell? (⟨p9, 3, none⟩ : Addr) = some (.int .i64 op27) ∧ w22.cell? (⟨p9, 4, none⟩ : Addr) = some (.int .u32 op28) ∧ 
    Calls Try.prog 61 #[.pointer l23, .agg #[.int .i64 op24, .int .i64 op25, .int .i64 op26, .int .i64 op27, .int .u32 op28]] w22 (fun e29 w30 => ∃ (b31 : Bool), e29 = .returned (.bool b31) ∧ 
    cond (!b31)
      (K (.int .i64 181) w30)
      (∃ (l32 : Option Addr), w30.cell? (⟨p7, 0, none⟩ : Addr) = some (.pointer l32) ∧ 
      let p33 : Nat := w30.heap.size; let w34 : World := w30.alloc (.cells #[.func (.func 90) #[] #[.pointer (some ⟨p7, 0, none⟩), .pointer (some ⟨p20, 0, none⟩)]] 42); 
      Calls Try.prog 89 #[.pointer l32, .slice (some ⟨p33, 0, none⟩) 1 1] w34 (fun e35 w36 => ∃ (n37 : Int), e35 = .returned (.int .i64 n37) ∧ 
      cond (n37 == (0 : Int))
        (let w38 : World := w36.drew; 
        ∃ (l39 : Option Addr), w38.cell? (⟨p7, 0, none⟩ : Addr) = some (.pointer l39) ∧ 
        optP l39 fun q40 => 
        ∃ (size41 : Int), w38.cell? (q40.add 2) = some (.int .i64 size41) ∧ 
        ∃ (b42 : Option Addr), ∃ (l_b42 : Nat), ∃ (c_b42 : Nat), w38.cell? (⟨p20, 0, none⟩ : Addr) = some (.slice b42 l_b42 c_b42) ∧ 
        optP l39 fun q43 => 
        wr w38 (q43.add 2) ∧ let w44 : World := w38.setCell (q43.add 2) (.int .i64 (IntKind.i64.wrap (size41 + ((l_b42 : Nat) : Int)))); 
        K (.int .i64 n37) w44)
        (K (.int .i64 n37) w36))))))
theorem sh56_eq (l1 : Addr) (op2 : Int) (op3 : Int) (op4 : Int) (op5 : Int) (op6 : Int) (K : Value → World → Prop) (w : World) : denF X Try.f56 [.pointer (some l1), .agg #[.int .i64 op2, .int .i64 op3, .int .i64 op4, .int .i64 op5, .int .u32 op6]] K w = sh56 l1 op2 op3 op4 op5 op6 K w := by kernel_rfl
theorem c56 {l1 : Addr} {op2 : Int} {op3 : Int} {op4 : Int} {op5 : Int} {op6 : Int} {w : World} {R : Ending → World → Prop} (h : sh56 l1 op2 op3 op4 op5 op6 (fun v w' => R (.returned v) w') w) : Calls Try.prog 56 #[.pointer (some l1), .agg #[.int .i64 op2, .int .i64 op3, .int .i64 op4, .int .i64 op5, .int .u32 op6]] w R :=
  callOf Try.func56 (args := [.pointer (some l1), .agg #[.int .i64 op2, .int .i64 op3, .int .i64 op4, .int .i64 op5, .int .u32 op6]]) (Eq.mpr (sh56_eq l1 op2 op3 op4 op5 op6 _ w) h)

/-- (*bramble/oplog.Log).Sync -/
def sh57 (l1 : Addr) (K : Value → World → Prop) (w : World) : Prop :=
  ∃ (disk2 : Option Addr), w.cell? l1 = some (.pointer disk2) ∧ 
  let p3 : Nat := w.heap.size; let w4 : World := w.alloc (.cells #[.func (.func 30) #[.pointer disk2] #[]] 42); 
  Calls Try.prog 89 #[.pointer (some l1), .slice (some ⟨p3, 0, none⟩) 1 1] w4 (fun e5 w6 => ∃ (n7 : Int), e5 = .returned (.int .i64 n7) ∧ 
  K (.int .i64 n7) w6)
theorem sh57_eq (l1 : Addr) (K : Value → World → Prop) (w : World) : denF X Try.f57 [.pointer (some l1)] K w = sh57 l1 K w := by kernel_rfl
theorem c57 {l1 : Addr} {w : World} {R : Ending → World → Prop} (h : sh57 l1 (fun v w' => R (.returned v) w') w) : Calls Try.prog 57 #[.pointer (some l1)] w R :=
  callOf Try.func57 (args := [.pointer (some l1)]) (Eq.mpr (sh57_eq l1 _ w) h)

/-- bramble/bramblelaw20.lost -/
def sh58 (d1 : Addr) (first2 : Option Addr) (l_first2 : Nat) (c_first2 : Nat) (done3 : Option Addr) (l_done3 : Nat) (c_done3 : Nat) (safe4 : Int) (K : Value → World → Prop) (w : World) : Prop :=
  ∃ (I8 : List Value → World → Prop) (μ9 : List Value → World → Nat), I8 [.bool false, .int .i64 0] w ∧ ∀ (w7 : World) (b5 : Bool) (keep6 : Int), I8 [.bool b5, .int .i64 keep6] w7 → 
  Calls Try.prog 27 #[.pointer (some d1)] w7 (fun e10 w11 => ∃ (n12 : Int), e10 = .returned (.int .i64 n12) ∧ 
  cond (decide (keep6 ≤ n12))
    (Calls Try.prog 23 #[.pointer (some d1), .int .i64 keep6] w11 (fun e13 w14 => ∃ (p15 : Option Addr), e13 = .returned (.pointer p15) ∧ 
    cond p15.isNone
      (K (.bool false) w14)
      (Calls Try.prog 47 #[.pointer p15] w14 (fun e16 w17 => ∃ (p18 : Option Addr), ∃ (a19 : Option Addr), ∃ (l_a19 : Nat), ∃ (c_a19 : Nat), ∃ (n20 : Int), e16 = .returned (.tuple #[.pointer p18, .slice a19 l_a19 c_a19, .int .i64 n20]) ∧ 
      let K37 : Bool → Bool → Bool → Bool → Bool → Bool → Bool → Bool → World → Prop := fun b28 b29 b30 b31 b32 b33 b34 b35 w36 =>
          cond b35
            (K (.bool false) w36)
            (I8 [.bool b5, .int .i64 (IntKind.i64.wrap (keep6 + (1 : Int)))] w36 ∧ μ9 [.bool b5, .int .i64 (IntKind.i64.wrap (keep6 + (1 : Int)))] w36 < μ9 [.bool b5, .int .i64 keep6] w7)
      let w21 : World := w17.drew; 
      cond (n20 != (0 : Int))
        (K37 true true true true true true true true w21)
        (cond (decide ((IntKind.i64.wrap (((l_a19 : Nat) : Int) - ((l_first2 : Nat) : Int))) < safe4))
          (K37 false (decide ((IntKind.i64.wrap (((l_a19 : Nat) : Int) - ((l_first2 : Nat) : Int))) < safe4)) true true true true true true w21)
          (cond (decide ((IntKind.i64.wrap (((l_a19 : Nat) : Int) - ((l_first2 : Nat) : Int))) > ((l_done3 : Nat) : Int)))
            (K37 false (decide ((IntKind.i64.wrap (((l_a19 : Nat) : Int) - ((l_first2 : Nat) : Int))) < safe4)) false (decide ((IntKind.i64.wrap (((l_a19 : Nat) : Int) - ((l_first2 : Nat) : Int))) > ((l_done3 : Nat) : Int))) true true true true w21)
            (0 ≤ ((l_first2 : Nat) : Int) ∧ ((l_first2 : Nat) : Int) ≤ (c_a19 : Nat) ∧ 
            Calls Try.prog 42 #[.slice (subS a19 c_a19 0 5) ((((l_first2 : Nat) : Int).toNat) - 0) (c_a19 - 0), .slice first2 l_first2 c_first2] w21 (fun e22 w23 => ∃ (b24 : Bool), e22 = .returned (.bool b24) ∧ 
            cond (!b24)
              (K37 false (decide ((IntKind.i64.wrap (((l_a19 : Nat) : Int) - ((l_first2 : Nat) : Int))) < safe4)) false (decide ((IntKind.i64.wrap (((l_a19 : Nat) : Int) - ((l_first2 : Nat) : Int))) > ((l_done3 : Nat) : Int))) false (!b24) true true w23)
              (0 ≤ ((l_first2 : Nat) : Int) ∧ ((l_first2 : Nat) : Int) ≤ (l_a19 : Nat) ∧ 
              0 ≤ (IntKind.i64.wrap (((l_a19 : Nat) : Int) - ((l_first2 : Nat) : Int))) ∧ (IntKind.i64.wrap (((l_a19 : Nat) : Int) - ((l_first2 : Nat) : Int))) ≤ (c_done3 : Nat) ∧ 
              Calls Try.prog 42 #[.slice (subS a19 c_a19 (((l_first2 : Nat) : Int).toNat) 5) (l_a19 - (((l_first2 : Nat) : Int).toNat)) (c_a19 - (((l_first2 : Nat) : Int).toNat)), .slice (subS done3 c_done3 0 5) (((IntKind.i64.wrap (((l_a19 : Nat) : Int) - ((l_first2 : Nat) : Int))).toNat) - 0) (c_done3 - 0)] w23 (fun e25 w26 => ∃ (b27 : Bool), e25 = .returned (.bool b27) ∧ 
              K37 false (decide ((IntKind.i64.wrap (((l_a19 : Nat) : Int) - ((l_first2 : Nat) : Int))) < safe4)) false (decide ((IntKind.i64.wrap (((l_a19 : Nat) : Int) - ((l_first2 : Nat) : Int))) > ((l_done3 : Nat) : Int))) false (!b24) false (!b27) w26))))))))))
    (K (.bool true) w11))
theorem sh58_eq (d1 : Addr) (first2 : Option Addr) (l_first2 : Nat) (c_first2 : Nat) (done3 : Option Addr) (l_done3 : Nat) (c_done3 : Nat) (safe4 : Int) (K : Value → World → Prop) (w : World) : denF X Try.f58 [.pointer (some d1), .slice first2 l_first2 c_first2, .slice done3 l_done3 c_done3, .int .i64 safe4] K w = sh58 d1 first2 l_first2 c_first2 done3 l_done3 c_done3 safe4 K w := by kernel_rfl
theorem c58 {d1 : Addr} {first2 : Option Addr} {l_first2 : Nat} {c_first2 : Nat} {done3 : Option Addr} {l_done3 : Nat} {c_done3 : Nat} {safe4 : Int} {w : World} {R : Ending → World → Prop} (h : sh58 d1 first2 l_first2 c_first2 done3 l_done3 c_done3 safe4 (fun v w' => R (.returned v) w') w) : Calls Try.prog 58 #[.pointer (some d1), .slice first2 l_first2 c_first2, .slice done3 l_done3 c_done3, .int .i64 safe4] w R :=
  callOf Try.func58 (args := [.pointer (some d1), .slice first2 l_first2 c_first2, .slice done3 l_done3 c_done3, .int .i64 safe4]) (Eq.mpr (sh58_eq d1 first2 l_first2 c_first2 done3 l_done3 c_done3 safe4 _ w) h)

/-- (*bramble/oplog.Log).Rewrite -/
def sh59 (l1 : Addr) (ops2 : Option Addr) (l_ops2 : Nat) (c_ops2 : Nat) (K : Value → World → Prop) (w : World) : Prop :=
  let p3 : Nat := w.heap.size; let w4 : World := w.alloc (.cells #[.pointer (some l1)] 79); 
  let p5 : Nat := w4.heap.size; let w6 : World := w4.alloc (.cells #[.slice none 0 0] 36); 
  ∃ (I10 : List Value → World → Prop) (μ11 : List Value → World → Nat), I10 [.int .i64 0, .int .i64 0] w6 ∧ ∀ (w9 : World) (n7 : Int) (n8 : Int), I10 [.int .i64 n7, .int .i64 n8] w9 → 
  cond (decide (n8 < ((l_ops2 : Nat) : Int)))
    (∃ q12 : Addr, ops2 = some q12 ∧ 0 ≤ n8 ∧ n8 < (l_ops2 : Nat) ∧ 
    ∃ (n13 : Int), ∃ (n14 : Int), ∃ (n15 : Int), ∃ (n16 : Int), ∃ (n17 : Int), w9.cell? (q12.add (n8.toNat * 5)) = some (.int .i64 n13) ∧ w9.cell? ((q12.add (n8.toNat * 5)).add 1) = some (.int .i64 n14) ∧ w9.cell? ((q12.add (n8.toNat * 5)).add 2) = some (.int .i64 n15) ∧ w9.cell? ((q12.add (n8.toNat * 5)).add 3) = some (.int .i64 n16) ∧ w9.cell? ((q12.add (n8.toNat * 5)).add 4) = some (.int .u32 n17) ∧ 
    let p18 : Nat := w9.heap.size; let w19 : World := w9.alloc (.cells #[.int .i64 0, .int .i64 0, .int .i64 0, .int .i64 0, .int .u32 0] 57); 
    wrN w19 (⟨p18, 0, none⟩ : Addr) 5 ∧ let w20 : World := setN (⟨p18, 0, none⟩ : Addr) 0 [.int .i64 n13, .int .i64 n14, .int .i64 n15, .int .i64 n16, .int .u32 n17] w19; 
    ∃ (op21 : Int), ∃ (op22 : Int), ∃ (op23 : Int), ∃ (op24 : Int), ∃ (op25 : Int), w20.cell? (⟨p18, 0, none⟩ : Addr) = some (.int .i64 op21) ∧ w20.cell? (⟨p18, 1, none⟩ : Addr) = some (.int .i64 op22) ∧ w20.cell? (⟨p18, 2, none⟩ : Addr) = some (.int .i64 op23) ∧ w20.cell? (⟨p18, 3, none⟩ : Addr) = some (.int .i64 op24) ∧ w20.cell? (⟨p18, 4, none⟩ : Addr) = some (.int .u32 op25) ∧ 
    Calls Try.prog 37 #[.agg #[.int .i64 op21, .int .i64 op22, .int .i64 op23, .int .i64 op24, .int .u32 op25]] w20 (fun e26 w27 => ∃ (a28 : Option Addr), ∃ (l_a28 : Nat), ∃ (c_a28 : Nat), ∃ (n29 : Int), e26 = .returned (.tuple #[.slice a28 l_a28 c_a28, .int .i64 n29]) ∧ 
    cond (n29 != (0 : Int))
      (K (.int .i64 n29) w27)
      (∃ (all30 : Option Addr), ∃ (l_all30 : Nat), ∃ (c_all30 : Nat), w27.cell? (⟨p5, 0, none⟩ : Addr) = some (.slice all30 l_all30 c_all30) ∧ 
      RunWp Try.prog (Builtin.append_ #[36, 36] 36 #[.slice all30 l_all30 c_all30, .slice a28 l_a28 c_a28]) (fun v31 w32 => ∃ (a33 : Option Addr), ∃ (l_a33 : Nat), ∃ (c_a33 : Nat), v31 = .slice a33 l_a33 c_a33 ∧ 
      wr w32 (⟨p5, 0, none⟩ : Addr) ∧ let w34 : World := w32.setCell (⟨p5, 0, none⟩ : Addr) (.slice a33 l_a33 c_a33); 
      I10 [.int .i64 n7, .int .i64 (IntKind.i64.wrap (n8 + (1 : Int)))] w34 ∧ μ11 [.int .i64 n7, .int .i64 (IntKind.i64.wrap (n8 + (1 : Int)))] w34 < μ11 [.int .i64 n7, .int .i64 n8] w9) w27)))
    (∃ (all35 : Option Addr), ∃ (l_all35 : Nat), ∃ (c_all35 : Nat), w9.cell? (⟨p5, 0, none⟩ : Addr) = some (.slice all35 l_all35 c_all35) ∧ 
    cond (decide (((l_all35 : Nat) : Int) > (32768 : Int)))
      (K (.int .i64 181) w9)
      (let K78 : Addr → Addr → World → Prop := fun a75 a76 w77 =>
          let w79 : World := w77.drew; 
          ∃ (l80 : Option Addr), w79.cell? (⟨p3, 0, none⟩ : Addr) = some (.pointer l80) ∧ 
          ∃ (l81 : Option Addr), w79.cell? (⟨p3, 0, none⟩ : Addr) = some (.pointer l81) ∧ 
          optP l81 fun q82 => 
          ∃ (disk83 : Option Addr), w79.cell? q82 = some (.pointer disk83) ∧ 
          ∃ (l84 : Option Addr), w79.cell? (⟨p3, 0, none⟩ : Addr) = some (.pointer l84) ∧ 
          optP l84 fun q85 => 
          ∃ (disk86 : Option Addr), w79.cell? q85 = some (.pointer disk86) ∧ 
          let p87 : Nat := w79.heap.size; let w88 : World := w79.alloc (.cells #[.func (.func 92) #[] #[.pointer (some ⟨p3, 0, none⟩), .pointer (some a76), .pointer (some ⟨p5, 0, none⟩)], .func (.func 30) #[.pointer disk83] #[], .func (.func 93) #[] #[.pointer (some ⟨p3, 0, none⟩), .pointer (some a76)], .func (.func 30) #[.pointer disk86] #[], .func (.func 94) #[] #[.pointer (some ⟨p3, 0, none⟩), .pointer (some a75)]] 42); 
          (∃ (l89 : Option Addr), w88.cell? (⟨p3, 0, none⟩ : Addr) = some (.pointer l89) ∧ 
            (some (.pointer l80) : Option Value) = some (.pointer l89))
          ∧ (Calls Try.prog 89 #[.pointer l80, .slice (some ⟨p87, 0, none⟩) 5 5] w88 (fun e90 w91 => ∃ (n92 : Int), e90 = .returned (.int .i64 n92) ∧ 
            cond (n92 == (0 : Int))
              (let w93 : World := w91.drew; 
              ∃ (l94 : Option Addr), w93.cell? (⟨p3, 0, none⟩ : Addr) = some (.pointer l94) ∧ 
              ∃ (l95 : Option Addr), w93.cell? (⟨p3, 0, none⟩ : Addr) = some (.pointer l95) ∧ 
              ∃ (other96 : Int), w93.cell? a76 = some (.int .i64 other96) ∧ 
              ∃ (all97 : Option Addr), ∃ (l_all97 : Nat), ∃ (c_all97 : Nat), w93.cell? (⟨p5, 0, none⟩ : Addr) = some (.slice all97 l_all97 c_all97) ∧ 
              optP l94 fun q98 => 
              wr w93 (q98.add 1) ∧ let w99 : World := w93.setCell (q98.add 1) (.int .i64 other96); 
              (∃ (l100 : Option Addr), w99.cell? (⟨p3, 0, none⟩ : Addr) = some (.pointer l100) ∧ 
                (some (.pointer l95) : Option Value) = some (.pointer l100))
              ∧ ((∃ (all101 : Option Addr), ∃ (l_all101 : Nat), ∃ (c_all101 : Nat), w99.cell? (⟨p5, 0, none⟩ : Addr) = some (.slice all101 l_all101 c_all101) ∧ 
                  (some (.slice all97 l_all97 c_all97) : Option Value) = some (.slice all101 l_all101 c_all101))
                ∧ (optP l95 fun q102 => 
                  wr w99 (q102.add 2) ∧ let w103 : World := w99.setCell (q102.add 2) (.int .i64 ((l_all97 : Nat) : Int)); 
                  K (.int .i64 n92) w103)))
              (K (.int .i64 n92) w91)))
      let w36 : World := w9.drew; 
      ∃ (l37 : Option Addr), w36.cell? (⟨p3, 0, none⟩ : Addr) = some (.pointer l37) ∧ 
      optP l37 fun q38 => 
      ∃ (file39 : Int), w36.cell? (q38.add 1) = some (.int .i64 file39) ∧ 
      ∃ (l40 : Option Addr), w36.cell? (⟨p3, 0, none⟩ : Addr) = some (.pointer l40) ∧ 
      optP l40 fun q41 => 
      ∃ (file42 : Int), w36.cell? (q41.add 1) = some (.int .i64 file42) ∧ 
      (let p43 : Nat := w36.heap.size; let w44 : World := w36.alloc (.cells #[.int .i64 0] 3); 
        (∃ (l45 : Option Addr), w44.cell? (⟨p3, 0, none⟩ : Addr) = some (.pointer l45) ∧ 
          (some (.pointer l37) : Option Value) = some (.pointer l45))
        ∧ ((∃ (file46 : Int), w44.cell? (q38.add 1) = some (.int .i64 file46) ∧ 
            (some (.int .i64 file39) : Option Value) = some (.int .i64 file46))
          ∧ ((∃ (l47 : Option Addr), w44.cell? (⟨p3, 0, none⟩ : Addr) = some (.pointer l47) ∧ 
              (some (.pointer l40) : Option Value) = some (.pointer l47))
            ∧ ((∃ (file48 : Int), w44.cell? (q41.add 1) = some (.int .i64 file48) ∧ 
                (some (.int .i64 file42) : Option Value) = some (.int .i64 file48))
              ∧ (let p49 : Nat := w44.heap.size; let w50 : World := w44.alloc (.cells #[.int .i64 0] 3); 
                (∃ (l51 : Option Addr), w50.cell? (⟨p3, 0, none⟩ : Addr) = some (.pointer l51) ∧ 
                  (some (.pointer l37) : Option Value) = some (.pointer l51))
                ∧ ((∃ (file52 : Int), w50.cell? (q38.add 1) = some (.int .i64 file52) ∧ 
                    (some (.int .i64 file39) : Option Value) = some (.int .i64 file52))
                  ∧ ((∃ (l53 : Option Addr), w50.cell? (⟨p3, 0, none⟩ : Addr) = some (.pointer l53) ∧ 
                      (some (.pointer l40) : Option Value) = some (.pointer l53))
                    ∧ ((∃ (file54 : Int), w50.cell? (q41.add 1) = some (.int .i64 file54) ∧ 
                        (some (.int .i64 file42) : Option Value) = some (.int .i64 file54))
                      ∧ (wr w50 (⟨p43, 0, none⟩ : Addr) ∧ let w55 : World := w50.setCell (⟨p43, 0, none⟩ : Addr) (.int .i64 file39); 
                        (∃ (l56 : Option Addr), w55.cell? (⟨p3, 0, none⟩ : Addr) = some (.pointer l56) ∧ 
                          (some (.pointer l40) : Option Value) = some (.pointer l56))
                        ∧ ((∃ (file57 : Int), w55.cell? (q41.add 1) = some (.int .i64 file57) ∧ 
                            (some (.int .i64 file42) : Option Value) = some (.int .i64 file57))
                          ∧ (wr w55 (⟨p49, 0, none⟩ : Addr) ∧ let w58 : World := w55.setCell (⟨p49, 0, none⟩ : Addr) (.int .i64 (IntKind.i64.wrap ((3 : Int) - file42))); 
                            K78 ⟨p43, 0, none⟩ ⟨p49, 0, none⟩ w58)))))))))))
      ∧ (let p59 : Nat := w36.heap.size; let w60 : World := w36.alloc (.cells #[.int .i64 0] 3); 
        (∃ (l61 : Option Addr), w60.cell? (⟨p3, 0, none⟩ : Addr) = some (.pointer l61) ∧ 
          (some (.pointer l37) : Option Value) = some (.pointer l61))
        ∧ ((∃ (file62 : Int), w60.cell? (q38.add 1) = some (.int .i64 file62) ∧ 
            (some (.int .i64 file39) : Option Value) = some (.int .i64 file62))
          ∧ ((∃ (l63 : Option Addr), w60.cell? (⟨p3, 0, none⟩ : Addr) = some (.pointer l63) ∧ 
              (some (.pointer l40) : Option Value) = some (.pointer l63))
            ∧ ((∃ (file64 : Int), w60.cell? (q41.add 1) = some (.int .i64 file64) ∧ 
                (some (.int .i64 file42) : Option Value) = some (.int .i64 file64))
              ∧ (let p65 : Nat := w60.heap.size; let w66 : World := w60.alloc (.cells #[.int .i64 0] 3); 
                (∃ (l67 : Option Addr), w66.cell? (⟨p3, 0, none⟩ : Addr) = some (.pointer l67) ∧ 
                  (some (.pointer l37) : Option Value) = some (.pointer l67))
                ∧ ((∃ (file68 : Int), w66.cell? (q38.add 1) = some (.int .i64 file68) ∧ 
                    (some (.int .i64 file39) : Option Value) = some (.int .i64 file68))
                  ∧ ((∃ (l69 : Option Addr), w66.cell? (⟨p3, 0, none⟩ : Addr) = some (.pointer l69) ∧ 
                      (some (.pointer l40) : Option Value) = some (.pointer l69))
                    ∧ ((∃ (file70 : Int), w66.cell? (q41.add 1) = some (.int .i64 file70) ∧ 
                        (some (.int .i64 file42) : Option Value) = some (.int .i64 file70))
                      ∧ (wr w66 (⟨p65, 0, none⟩ : Addr) ∧ let w71 : World := w66.setCell (⟨p65, 0, none⟩ : Addr) (.int .i64 file39); 
                        (∃ (l72 : Option Addr), w71.cell? (⟨p3, 0, none⟩ : Addr) = some (.pointer l72) ∧ 
                          (some (.pointer l40) : Option Value) = some (.pointer l72))
                        ∧ ((∃ (file73 : Int), w71.cell? (q41.add 1) = some (.int .i64 file73) ∧ 
                            (some (.int .i64 file42) : Option Value) = some (.int .i64 file73))
                          ∧ (wr w71 (⟨p59, 0, none⟩ : Addr) ∧ let w74 : World := w71.setCell (⟨p59, 0, none⟩ : Addr) (.int .i64 (IntKind.i64.wrap ((3 : Int) - file42))); 
                            K78 ⟨p65, 0, none⟩ ⟨p59, 0, none⟩ w74)))))))))))))
theorem sh59_eq (l1 : Addr) (ops2 : Option Addr) (l_ops2 : Nat) (c_ops2 : Nat) (K : Value → World → Prop) (w : World) : denF X Try.f59 [.pointer (some l1), .slice ops2 l_ops2 c_ops2] K w = sh59 l1 ops2 l_ops2 c_ops2 K w := by kernel_rfl
theorem c59 {l1 : Addr} {ops2 : Option Addr} {l_ops2 : Nat} {c_ops2 : Nat} {w : World} {R : Ending → World → Prop} (h : sh59 l1 ops2 l_ops2 c_ops2 (fun v w' => R (.returned v) w') w) : Calls Try.prog 59 #[.pointer (some l1), .slice ops2 l_ops2 c_ops2] w R :=
  callOf Try.func59 (args := [.pointer (some l1), .slice ops2 l_ops2 c_ops2]) (Eq.mpr (sh59_eq l1 ops2 l_ops2 c_ops2 _ w) h)

/-- bramble/brambleref20.Rewrite -/
def sh60 (files1 : ByteArray) (files2 : ByteArray) (files3 : ByteArray) (ops4 : Option Addr) (l_ops4 : Nat) (c_ops4 : Nat) (K : Value → World → Prop) (w : World) : Prop :=
  let p5 : Nat := w.heap.size; let w6 : World := w.alloc (.cells #[.string files1, .string files2, .string files3] 77); 
  let p7 : Nat := w6.heap.size; let w8 : World := w6.alloc (.cells #[.string ({ data := #[] } : ByteArray), .string ({ data := #[] } : ByteArray), .string ({ data := #[] } : ByteArray)] 77); 
  ∃ (I13 : List Value → World → Prop) (μ14 : List Value → World → Nat), I13 [.int .i64 0, .slice none 0 0, .int .i64 0] w8 ∧ ∀ (w12 : World) (n9 : Int) (plain10 : Option Addr) (l_plain10 : Nat) (c_plain10 : Nat) (i11 : Int), I13 [.int .i64 n9, .slice plain10 l_plain10 c_plain10, .int .i64 i11] w12 → 
  cond (decide (i11 < ((l_ops4 : Nat) : Int)))
    (∃ q15 : Addr, ops4 = some q15 ∧ 0 ≤ i11 ∧ i11 < (l_ops4 : Nat) ∧ 
    ∃ (n16 : Int), ∃ (n17 : Int), ∃ (n18 : Int), ∃ (n19 : Int), ∃ (n20 : Int), w12.cell? (q15.add (i11.toNat * 5)) = some (.int .i64 n16) ∧ w12.cell? ((q15.add (i11.toNat * 5)).add 1) = some (.int .i64 n17) ∧ w12.cell? ((q15.add (i11.toNat * 5)).add 2) = some (.int .i64 n18) ∧ w12.cell? ((q15.add (i11.toNat * 5)).add 3) = some (.int .i64 n19) ∧ w12.cell? ((q15.add (i11.toNat * 5)).add 4) = some (.int .u32 n20) ∧ 
    Calls Try.prog 38 #[.agg #[.int .i64 n16, .int .i64 n17, .int .i64 n18, .int .i64 n19, .int .u32 n20]] w12 (fun e21 w22 => ∃ (n23 : Int), ∃ (n24 : Int), ∃ (n25 : Int), ∃ (n26 : Int), ∃ (n27 : Int), ∃ (n28 : Int), e21 = .returned (.tuple #[.agg #[.int .i64 n23, .int .i64 n24, .int .i64 n25, .int .i64 n26, .int .u32 n27], .int .i64 n28]) ∧ 
    let p29 : Nat := w22.heap.size; let w30 : World := w22.alloc (.cells #[.int .i64 0, .int .i64 0, .int .i64 0, .int .i64 0, .int .u32 0] 57); 
    wrN w30 (⟨p29, 0, none⟩ : Addr) 5 ∧ let w31 : World := setN (⟨p29, 0, none⟩ : Addr) 0 [.int .i64 n23, .int .i64 n24, .int .i64 n25, .int .i64 n26, .int .u32 n27] w30; 
    cond (n28 != (0 : Int))
      (∃ (files32 : ByteArray), ∃ (files33 : ByteArray), ∃ (files34 : ByteArray), w31.cell? (⟨p5, 0, none⟩ : Addr) = some (.string files32) ∧ w31.cell? (⟨p5, 1, none⟩ : Addr) = some (.string files33) ∧ w31.cell? (⟨p5, 2, none⟩ : Addr) = some (.string files34) ∧ 
      wrN w31 (⟨p7, 0, none⟩ : Addr) 3 ∧ let w35 : World := setN (⟨p7, 0, none⟩ : Addr) 0 [.string files32, .string files33, .string files34] w31; 
      ∃ (s69 : ByteArray), ∃ (s70 : ByteArray), ∃ (s71 : ByteArray), w35.cell? (⟨p7, 0, none⟩ : Addr) = some (.string s69) ∧ w35.cell? (⟨p7, 1, none⟩ : Addr) = some (.string s70) ∧ w35.cell? (⟨p7, 2, none⟩ : Addr) = some (.string s71) ∧ 
      K (.tuple #[.agg #[.string s69, .string s70, .string s71], .int .i64 n28]) w35)
      (∃ (op36 : Int), ∃ (op37 : Int), ∃ (op38 : Int), ∃ (op39 : Int), ∃ (op40 : Int), w31.cell? (⟨p29, 0, none⟩ : Addr) = some (.int .i64 op36) ∧ w31.cell? (⟨p29, 1, none⟩ : Addr) = some (.int .i64 op37) ∧ w31.cell? (⟨p29, 2, none⟩ : Addr) = some (.int .i64 op38) ∧ w31.cell? (⟨p29, 3, none⟩ : Addr) = some (.int .i64 op39) ∧ w31.cell? (⟨p29, 4, none⟩ : Addr) = some (.int .u32 op40) ∧ 
      let p41 : Nat := w31.heap.size; let w42 : World := w31.alloc (.cells #[.int .i64 op36, .int .i64 op37, .int .i64 op38, .int .i64 op39, .int .u32 op40] 57); 
      RunWp Try.prog (Builtin.append_ #[64, 64] 64 #[.slice plain10 l_plain10 c_plain10, .slice (some ⟨p41, 0, none⟩) 1 1]) (fun v43 w44 => ∃ (a45 : Option Addr), ∃ (l_a45 : Nat), ∃ (c_a45 : Nat), v43 = .slice a45 l_a45 c_a45 ∧ 
      I13 [.int .i64 n9, .slice a45 l_a45 c_a45, .int .i64 (IntKind.i64.wrap (i11 + (1 : Int)))] w44 ∧ μ14 [.int .i64 n9, .slice a45 l_a45 c_a45, .int .i64 (IntKind.i64.wrap (i11 + (1 : Int)))] w44 < μ14 [.int .i64 n9, .slice plain10 l_plain10 c_plain10, .int .i64 i11] w12) w42)))
    (Calls Try.prog 95 #[.slice plain10 l_plain10 c_plain10] w12 (fun e46 w47 => ∃ (s48 : ByteArray), e46 = .returned (.string s48) ∧ 
    cond (decide (((s48.size : Nat) : Int) > (32768 : Int)))
      (∃ (files49 : ByteArray), ∃ (files50 : ByteArray), ∃ (files51 : ByteArray), w47.cell? (⟨p5, 0, none⟩ : Addr) = some (.string files49) ∧ w47.cell? (⟨p5, 1, none⟩ : Addr) = some (.string files50) ∧ w47.cell? (⟨p5, 2, none⟩ : Addr) = some (.string files51) ∧ 
      wrN w47 (⟨p7, 0, none⟩ : Addr) 3 ∧ let w52 : World := setN (⟨p7, 0, none⟩ : Addr) 0 [.string files49, .string files50, .string files51] w47; 
      ∃ (s72 : ByteArray), ∃ (s73 : ByteArray), ∃ (s74 : ByteArray), w52.cell? (⟨p7, 0, none⟩ : Addr) = some (.string s72) ∧ w52.cell? (⟨p7, 1, none⟩ : Addr) = some (.string s73) ∧ w52.cell? (⟨p7, 2, none⟩ : Addr) = some (.string s74) ∧ 
      K (.tuple #[.agg #[.string s72, .string s73, .string s74], .int .i64 181]) w52)
      (0 ≤ (0 : Int) ∧ (0 : Int) < 3 ∧ 
      ∃ (s53 : ByteArray), w47.cell? (⟨p5, 0, none⟩ : Addr) = some (.string s53) ∧ 
      Calls Try.prog 52 #[.string s53] w47 (fun e54 w55 => ∃ (n56 : Int), e54 = .returned (.int .i64 n56) ∧ 
      0 ≤ n56 ∧ n56 < 3 ∧ 
      wr w55 ((⟨p5, 0, none⟩ : Addr).add (n56.toNat * 1)) ∧ let w57 : World := w55.setCell ((⟨p5, 0, none⟩ : Addr).add (n56.toNat * 1)) (.string ({ data := #[] } : ByteArray)); 
      0 ≤ (IntKind.i64.wrap ((3 : Int) - n56)) ∧ (IntKind.i64.wrap ((3 : Int) - n56)) < 3 ∧ 
      wr w57 ((⟨p5, 0, none⟩ : Addr).add ((IntKind.i64.wrap ((3 : Int) - n56)).toNat * 1)) ∧ let w58 : World := w57.setCell ((⟨p5, 0, none⟩ : Addr).add ((IntKind.i64.wrap ((3 : Int) - n56)).toNat * 1)) (.string s48); 
      let p59 : Nat := w58.heap.size; let w60 : World := w58.alloc (.cells #[.int .u8 (IntKind.u8.wrap (IntKind.i64.wrap ((3 : Int) - n56)))] 5); 
      RunWp Try.prog (convert 36 9 (.slice (some ⟨p59, 0, none⟩) 1 1)) (fun v61 w62 => w62 = w60 ∧ ∃ (s63 : ByteArray), v61 = .string s63 ∧ 
      0 ≤ (0 : Int) ∧ (0 : Int) < 3 ∧ 
      wr w60 (⟨p5, 0, none⟩ : Addr) ∧ let w64 : World := w60.setCell (⟨p5, 0, none⟩ : Addr) (.string s63); 
      ∃ (files65 : ByteArray), ∃ (files66 : ByteArray), ∃ (files67 : ByteArray), w64.cell? (⟨p5, 0, none⟩ : Addr) = some (.string files65) ∧ w64.cell? (⟨p5, 1, none⟩ : Addr) = some (.string files66) ∧ w64.cell? (⟨p5, 2, none⟩ : Addr) = some (.string files67) ∧ 
      wrN w64 (⟨p7, 0, none⟩ : Addr) 3 ∧ let w68 : World := setN (⟨p7, 0, none⟩ : Addr) 0 [.string files65, .string files66, .string files67] w64; 
      ∃ (s75 : ByteArray), ∃ (s76 : ByteArray), ∃ (s77 : ByteArray), w68.cell? (⟨p7, 0, none⟩ : Addr) = some (.string s75) ∧ w68.cell? (⟨p7, 1, none⟩ : Addr) = some (.string s76) ∧ w68.cell? (⟨p7, 2, none⟩ : Addr) = some (.string s77) ∧ 
      K (.tuple #[.agg #[.string s75, .string s76, .string s77], .int .i64 0]) w68) w60))))
theorem sh60_eq (files1 : ByteArray) (files2 : ByteArray) (files3 : ByteArray) (ops4 : Option Addr) (l_ops4 : Nat) (c_ops4 : Nat) (K : Value → World → Prop) (w : World) : denF X Try.f60 [.agg #[.string files1, .string files2, .string files3], .slice ops4 l_ops4 c_ops4] K w = sh60 files1 files2 files3 ops4 l_ops4 c_ops4 K w := by kernel_rfl
theorem c60 {files1 : ByteArray} {files2 : ByteArray} {files3 : ByteArray} {ops4 : Option Addr} {l_ops4 : Nat} {c_ops4 : Nat} {w : World} {R : Ending → World → Prop} (h : sh60 files1 files2 files3 ops4 l_ops4 c_ops4 (fun v w' => R (.returned v) w') w) : Calls Try.prog 60 #[.agg #[.string files1, .string files2, .string files3], .slice ops4 l_ops4 c_ops4] w R :=
  callOf Try.func60 (args := [.agg #[.string files1, .string files2, .string files3], .slice ops4 l_ops4 c_ops4]) (Eq.mpr (sh60_eq files1 files2 files3 ops4 l_ops4 c_ops4 _ w) h)

/-- (*bramble/oplog.Log).Room -/
def sh61 (l1 : Addr) (op2 : Int) (op3 : Int) (op4 : Int) (op5 : Int) (op6 : Int) (K : Value → World → Prop) (w : World) : Prop :=
  let p7 : Nat := w.heap.size; let w8 : World := w.alloc (.cells #[.int .i64 op2, .int .i64 op3, .int .i64 op4, .int .i64 op5, .int .u32 op6] 57); 
  ∃ (op9 : Int), ∃ (op10 : Int), ∃ (op11 : Int), ∃ (op12 : Int), ∃ (op13 : Int), w8.cell? (⟨p7, 0, none⟩ : Addr) = some (.int .i64 op9) ∧ w8.cell? (⟨p7, 1, none⟩ : Addr) = some (.int .i64 op10) ∧ w8.cell? (⟨p7, 2, none⟩ : Addr) = some (.int .i64 op11) ∧ w8.cell? (⟨p7, 3, none⟩ : Addr) = some (.int .i64 op12) ∧ w8.cell? (⟨p7, 4, none⟩ : Addr) = some (.int .u32 op13) ∧ 
  Calls Try.prog 37 #[.agg #[.int .i64 op9, .int .i64 op10, .int .i64 op11, .int .i64 op12, .int .u32 op13]] w8 (fun e14 w15 => ∃ (a16 : Option Addr), ∃ (l_a16 : Nat), ∃ (c_a16 : Nat), ∃ (n17 : Int), e14 = .returned (.tuple #[.slice a16 l_a16 c_a16, .int .i64 n17]) ∧ 
  cond (n17 == (0 : Int))
    (∃ (size18 : Int), w15.cell? (l1.add 2) = some (.int .i64 size18) ∧ 
    K (.bool (decide ((IntKind.i64.wrap (size18 + ((l_a16 : Nat) : Int))) ≤ (32768 : Int)))) w15)
    (K (.bool false) w15))
theorem sh61_eq (l1 : Addr) (op2 : Int) (op3 : Int) (op4 : Int) (op5 : Int) (op6 : Int) (K : Value → World → Prop) (w : World) : denF X Try.f61 [.pointer (some l1), .agg #[.int .i64 op2, .int .i64 op3, .int .i64 op4, .int .i64 op5, .int .u32 op6]] K w = sh61 l1 op2 op3 op4 op5 op6 K w := by kernel_rfl
theorem c61 {l1 : Addr} {op2 : Int} {op3 : Int} {op4 : Int} {op5 : Int} {op6 : Int} {w : World} {R : Ending → World → Prop} (h : sh61 l1 op2 op3 op4 op5 op6 (fun v w' => R (.returned v) w') w) : Calls Try.prog 61 #[.pointer (some l1), .agg #[.int .i64 op2, .int .i64 op3, .int .i64 op4, .int .i64 op5, .int .u32 op6]] w R :=
  callOf Try.func61 (args := [.pointer (some l1), .agg #[.int .i64 op2, .int .i64 op3, .int .i64 op4, .int .i64 op5, .int .u32 op6]]) (Eq.mpr (sh61_eq l1 op2 op3 op4 op5 op6 _ w) h)

/-- bramble/brambleref20.Append -/
def sh62 (files1 : ByteArray) (files2 : ByteArray) (files3 : ByteArray) (op4 : Int) (op5 : Int) (op6 : Int) (op7 : Int) (op8 : Int) (K : Value → World → Prop) (w : World) : Prop :=
  let p9 : Nat := w.heap.size; let w10 : World := w.alloc (.cells #[.string files1, .string files2, .string files3] 77); 
  let p11 : Nat := w10.heap.size; let w12 : World := w10.alloc (.cells #[.int .i64 op4, .int .i64 op5, .int .i64 op6, .int .i64 op7, .int .u32 op8] 57); 
  let p13 : Nat := w12.heap.size; let w14 : World := w12.alloc (.cells #[.string ({ data := #[] } : ByteArray), .string ({ data := #[] } : ByteArray), .string ({ data := #[] } : ByteArray)] 77); 
  ∃ (op15 : Int), ∃ (op16 : Int), ∃ (op17 : Int), ∃ (op18 : Int), ∃ (op19 : Int), w14.cell? (⟨p11, 0, none⟩ : Addr) = some (.int .i64 op15) ∧ w14.cell? (⟨p11, 1, none⟩ : Addr) = some (.int .i64 op16) ∧ w14.cell? (⟨p11, 2, none⟩ : Addr) = some (.int .i64 op17) ∧ w14.cell? (⟨p11, 3, none⟩ : Addr) = some (.int .i64 op18) ∧ w14.cell? (⟨p11, 4, none⟩ : Addr) = some (.int .u32 op19) ∧ 
  Calls Try.prog 38 #[.agg #[.int .i64 op15, .int .i64 op16, .int .i64 op17, .int .i64 op18, .int .u32 op19]] w14 (fun e20 w21 => ∃ (n22 : Int), ∃ (n23 : Int), ∃ (n24 : Int), ∃ (n25 : Int), ∃ (n26 : Int), ∃ (n27 : Int), e20 = .returned (.tuple #[.agg #[.int .i64 n22, .int .i64 n23, .int .i64 n24, .int .i64 n25, .int .u32 n26], .int .i64 n27]) ∧ 
  let p28 : Nat := w21.heap.size; let w29 : World := w21.alloc (.cells #[.int .i64 0, .int .i64 0, .int .i64 0, .int .i64 0, .int .u32 0] 57); 
  wrN w29 (⟨p28, 0, none⟩ : Addr) 5 ∧ let w30 : World := setN (⟨p28, 0, none⟩ : Addr) 0 [.int .i64 n22, .int .i64 n23, .int .i64 n24, .int .i64 n25, .int .u32 n26] w29; 
  cond (n27 != (0 : Int))
    (∃ (files31 : ByteArray), ∃ (files32 : ByteArray), ∃ (files33 : ByteArray), w30.cell? (⟨p9, 0, none⟩ : Addr) = some (.string files31) ∧ w30.cell? (⟨p9, 1, none⟩ : Addr) = some (.string files32) ∧ w30.cell? (⟨p9, 2, none⟩ : Addr) = some (.string files33) ∧ 
    wrN w30 (⟨p13, 0, none⟩ : Addr) 3 ∧ let w34 : World := setN (⟨p13, 0, none⟩ : Addr) 0 [.string files31, .string files32, .string files33] w30; 
    ∃ (s62 : ByteArray), ∃ (s63 : ByteArray), ∃ (s64 : ByteArray), w34.cell? (⟨p13, 0, none⟩ : Addr) = some (.string s62) ∧ w34.cell? (⟨p13, 1, none⟩ : Addr) = some (.string s63) ∧ w34.cell? (⟨p13, 2, none⟩ : Addr) = some (.string s64) ∧ 
    K (.tuple #[.agg #[.string s62, .string s63, .string s64], .int .i64 n27]) w34)
    (0 ≤ (0 : Int) ∧ (0 : Int) < 3 ∧ 
    ∃ (s35 : ByteArray), w30.cell? (⟨p9, 0, none⟩ : Addr) = some (.string s35) ∧ 
    Calls Try.prog 52 #[.string s35] w30 (fun e36 w37 => ∃ (n38 : Int), e36 = .returned (.int .i64 n38) ∧ 
    let w39 : World := w37.drew; 
    0 ≤ n38 ∧ n38 < 3 ∧ 
    ∃ (s40 : ByteArray), w39.cell? ((⟨p9, 0, none⟩ : Addr).add (n38.toNat * 1)) = some (.string s40) ∧ 
    ∃ (plain41 : Int), ∃ (plain42 : Int), ∃ (plain43 : Int), ∃ (plain44 : Int), ∃ (plain45 : Int), w39.cell? (⟨p28, 0, none⟩ : Addr) = some (.int .i64 plain41) ∧ w39.cell? (⟨p28, 1, none⟩ : Addr) = some (.int .i64 plain42) ∧ w39.cell? (⟨p28, 2, none⟩ : Addr) = some (.int .i64 plain43) ∧ w39.cell? (⟨p28, 3, none⟩ : Addr) = some (.int .i64 plain44) ∧ w39.cell? (⟨p28, 4, none⟩ : Addr) = some (.int .u32 plain45) ∧ 
    Calls Try.prog 39 #[.agg #[.int .i64 plain41, .int .i64 plain42, .int .i64 plain43, .int .i64 plain44, .int .u32 plain45]] w39 (fun e46 w47 => ∃ (a48 : Option Addr), ∃ (l_a48 : Nat), ∃ (c_a48 : Nat), e46 = .returned (.slice a48 l_a48 c_a48) ∧ 
    (∃ (s49 : ByteArray), w47.cell? ((⟨p9, 0, none⟩ : Addr).add (n38.toNat * 1)) = some (.string s49) ∧ 
      (some (.string s40) : Option Value) = some (.string s49))
    ∧ (RunWp Try.prog (convert 36 9 (.slice a48 l_a48 c_a48)) (fun v50 w51 => w51 = w47 ∧ ∃ (s52 : ByteArray), v50 = .string s52 ∧ 
      ((s40.size + s52.size : Nat) : Int) ≤ 9223372036854775807 ∧ 
      cond (decide ((((s40 ++ s52).size : Nat) : Int) > (32768 : Int)))
        (∃ (files53 : ByteArray), ∃ (files54 : ByteArray), ∃ (files55 : ByteArray), w47.cell? (⟨p9, 0, none⟩ : Addr) = some (.string files53) ∧ w47.cell? (⟨p9, 1, none⟩ : Addr) = some (.string files54) ∧ w47.cell? (⟨p9, 2, none⟩ : Addr) = some (.string files55) ∧ 
        wrN w47 (⟨p13, 0, none⟩ : Addr) 3 ∧ let w56 : World := setN (⟨p13, 0, none⟩ : Addr) 0 [.string files53, .string files54, .string files55] w47; 
        ∃ (s65 : ByteArray), ∃ (s66 : ByteArray), ∃ (s67 : ByteArray), w56.cell? (⟨p13, 0, none⟩ : Addr) = some (.string s65) ∧ w56.cell? (⟨p13, 1, none⟩ : Addr) = some (.string s66) ∧ w56.cell? (⟨p13, 2, none⟩ : Addr) = some (.string s67) ∧ 
        K (.tuple #[.agg #[.string s65, .string s66, .string s67], .int .i64 181]) w56)
        (0 ≤ n38 ∧ n38 < 3 ∧ 
        wr w47 ((⟨p9, 0, none⟩ : Addr).add (n38.toNat * 1)) ∧ let w57 : World := w47.setCell ((⟨p9, 0, none⟩ : Addr).add (n38.toNat * 1)) (.string (s40 ++ s52)); 
        ∃ (files58 : ByteArray), ∃ (files59 : ByteArray), ∃ (files60 : ByteArray), w57.cell? (⟨p9, 0, none⟩ : Addr) = some (.string files58) ∧ w57.cell? (⟨p9, 1, none⟩ : Addr) = some (.string files59) ∧ w57.cell? (⟨p9, 2, none⟩ : Addr) = some (.string files60) ∧ 
        wrN w57 (⟨p13, 0, none⟩ : Addr) 3 ∧ let w61 : World := setN (⟨p13, 0, none⟩ : Addr) 0 [.string files58, .string files59, .string files60] w57; 
        ∃ (s68 : ByteArray), ∃ (s69 : ByteArray), ∃ (s70 : ByteArray), w61.cell? (⟨p13, 0, none⟩ : Addr) = some (.string s68) ∧ w61.cell? (⟨p13, 1, none⟩ : Addr) = some (.string s69) ∧ w61.cell? (⟨p13, 2, none⟩ : Addr) = some (.string s70) ∧ 
        K (.tuple #[.agg #[.string s68, .string s69, .string s70], .int .i64 0]) w61)) w47)))))
theorem sh62_eq (files1 : ByteArray) (files2 : ByteArray) (files3 : ByteArray) (op4 : Int) (op5 : Int) (op6 : Int) (op7 : Int) (op8 : Int) (K : Value → World → Prop) (w : World) : denF X Try.f62 [.agg #[.string files1, .string files2, .string files3], .agg #[.int .i64 op4, .int .i64 op5, .int .i64 op6, .int .i64 op7, .int .u32 op8]] K w = sh62 files1 files2 files3 op4 op5 op6 op7 op8 K w := by kernel_rfl
theorem c62 {files1 : ByteArray} {files2 : ByteArray} {files3 : ByteArray} {op4 : Int} {op5 : Int} {op6 : Int} {op7 : Int} {op8 : Int} {w : World} {R : Ending → World → Prop} (h : sh62 files1 files2 files3 op4 op5 op6 op7 op8 (fun v w' => R (.returned v) w') w) : Calls Try.prog 62 #[.agg #[.string files1, .string files2, .string files3], .agg #[.int .i64 op4, .int .i64 op5, .int .i64 op6, .int .i64 op7, .int .u32 op8]] w R :=
  callOf Try.func62 (args := [.agg #[.string files1, .string files2, .string files3], .agg #[.int .i64 op4, .int .i64 op5, .int .i64 op6, .int .i64 op7, .int .u32 op8]]) (Eq.mpr (sh62_eq files1 files2 files3 op4 op5 op6 op7 op8 _ w) h)

/-- bramble/oplog.named -/
def sh85 (word1 : Option Addr) (l_word1 : Nat) (c_word1 : Nat) (K : Value → World → Prop) (w : World) : Prop :=
  RunWp Try.prog (convert 36 9 (.slice word1 l_word1 c_word1)) (fun v2 w3 => w3 = w ∧ ∃ (s4 : ByteArray), v2 = .string s4 ∧ 
  cond (s4.toList == ({ data := #[2] } : ByteArray).toList)
    (K (.tuple #[.int .i64 2, .bool true]) w)
    (let K7 : Bool → World → Prop := fun b5 w6 =>
        cond b5
          (K (.tuple #[.int .i64 1, .bool true]) w6)
          (K (.tuple #[.int .i64 1, .bool false]) w6)
    cond (s4.toList == ({ data := #[] } : ByteArray).toList)
      (K7 (s4.toList == ({ data := #[] } : ByteArray).toList) w)
      (K7 (s4.toList == ({ data := #[1] } : ByteArray).toList) w))) w
theorem sh85_eq (word1 : Option Addr) (l_word1 : Nat) (c_word1 : Nat) (K : Value → World → Prop) (w : World) : denF X Try.f85 [.slice word1 l_word1 c_word1] K w = sh85 word1 l_word1 c_word1 K w := by kernel_rfl
theorem c85 {word1 : Option Addr} {l_word1 : Nat} {c_word1 : Nat} {w : World} {R : Ending → World → Prop} (h : sh85 word1 l_word1 c_word1 (fun v w' => R (.returned v) w') w) : Calls Try.prog 85 #[.slice word1 l_word1 c_word1] w R :=
  callOf Try.func85 (args := [.slice word1 l_word1 c_word1]) (Eq.mpr (sh85_eq word1 l_word1 c_word1 _ w) h)

/-- bramble/oplog.Open$1 -/
def sh86 (f1 : Int) (n2 : Int) (p3 : Addr) (p4 : Addr) (K : Value → World → Prop) (w : World) : Prop :=
  let p5 : Nat := w.heap.size; let w6 : World := w.alloc (.cells #[.int .i64 f1] 3); 
  let p7 : Nat := w6.heap.size; let w8 : World := w6.alloc (.cells #[.int .i64 n2] 3); 
  ∃ (a9 : Option Addr), ∃ (l_a9 : Nat), ∃ (c_a9 : Nat), w8.cell? p3 = some (.slice a9 l_a9 c_a9) ∧ 
  let p10 : Nat := w8.heap.size; let w11 : World := w8.alloc (.cells #[.func (.func 87) #[] #[.pointer (some p4), .pointer (some ⟨p5, 0, none⟩), .pointer (some ⟨p7, 0, none⟩)]] 42); 
  RunWp Try.prog (Builtin.append_ #[143, 143] 143 #[.slice a9 l_a9 c_a9, .slice (some ⟨p10, 0, none⟩) 1 1]) (fun v12 w13 => ∃ (a14 : Option Addr), ∃ (l_a14 : Nat), ∃ (c_a14 : Nat), v12 = .slice a14 l_a14 c_a14 ∧ 
  wr w13 p3 ∧ let w15 : World := w13.setCell p3 (.slice a14 l_a14 c_a14); 
  K (.tuple #[]) w15) w11
theorem sh86_eq (f1 : Int) (n2 : Int) (p3 : Addr) (p4 : Addr) (K : Value → World → Prop) (w : World) : denF X Try.f86 [.int .i64 f1, .int .i64 n2, .pointer (some p3), .pointer (some p4)] K w = sh86 f1 n2 p3 p4 K w := by kernel_rfl
theorem c86 {f1 : Int} {n2 : Int} {p3 : Addr} {p4 : Addr} {w : World} {R : Ending → World → Prop} (h : sh86 f1 n2 p3 p4 (fun v w' => R (.returned v) w') w) : Calls Try.prog 86 #[.int .i64 f1, .int .i64 n2, .pointer (some p3), .pointer (some p4)] w R :=
  callOf Try.func86 (args := [.int .i64 f1, .int .i64 n2, .pointer (some p3), .pointer (some p4)]) (Eq.mpr (sh86_eq f1 n2 p3 p4 _ w) h)

/-- bramble/oplog.Open$1$1 -/
def sh87 (p1 : Addr) (p2 : Addr) (p3 : Addr) (K : Value → World → Prop) (w : World) : Prop :=
  ∃ (p4 : Option Addr), w.cell? p1 = some (.pointer p4) ∧ 
  ∃ (n5 : Int), w.cell? p2 = some (.int .i64 n5) ∧ 
  ∃ (n6 : Int), w.cell? p3 = some (.int .i64 n6) ∧ 
  Calls Try.prog 35 #[.pointer p4, .int .i64 n5, .int .i64 n6] w (fun e7 w8 => ∃ (n9 : Int), e7 = .returned (.int .i64 n9) ∧ 
  K (.int .i64 n9) w8)
theorem sh87_eq (p1 : Addr) (p2 : Addr) (p3 : Addr) (K : Value → World → Prop) (w : World) : denF X Try.f87 [.pointer (some p1), .pointer (some p2), .pointer (some p3)] K w = sh87 p1 p2 p3 K w := by kernel_rfl
theorem c87 {p1 : Addr} {p2 : Addr} {p3 : Addr} {w : World} {R : Ending → World → Prop} (h : sh87 p1 p2 p3 (fun v w' => R (.returned v) w') w) : Calls Try.prog 87 #[.pointer (some p1), .pointer (some p2), .pointer (some p3)] w R :=
  callOf Try.func87 (args := [.pointer (some p1), .pointer (some p2), .pointer (some p3)]) (Eq.mpr (sh87_eq p1 p2 p3 _ w) h)

/-- bramble/oplog.steps -/
def sh88 (list1 : Option Addr) (l_list1 : Nat) (c_list1 : Nat) (K : Value → World → Prop) (w : World) : Prop :=
  ∃ (I5 : List Value → World → Prop) (μ6 : List Value → World → Nat), I5 [.int .i64 0, .int .i64 0] w ∧ ∀ (w4 : World) (n2 : Int) (n3 : Int), I5 [.int .i64 n2, .int .i64 n3] w4 → 
  cond (decide (n3 < ((l_list1 : Nat) : Int)))
    (∃ q7 : Addr, list1 = some q7 ∧ 0 ≤ n3 ∧ n3 < (l_list1 : Nat) ∧ 
    ∃ (v8 : Value), w4.cell? (q7.add (n3.toNat * 1)) = some (v8) ∧ 
    optP (asFn v8) fun r9 => cond (cl r9.1) (
    Calls Try.prog r9.1 (r9.2.1.toList ++ ([] : List Value) ++ r9.2.2.toList).toArray w4 (fun e11 w12 => ∃ (n13 : Int), e11 = .returned (.int .i64 n13) ∧ 
    cond (n13 != (0 : Int))
      (K (.int .i64 n13) w12)
      (I5 [.int .i64 n2, .int .i64 (IntKind.i64.wrap (n3 + (1 : Int)))] w12 ∧ μ6 [.int .i64 n2, .int .i64 (IntKind.i64.wrap (n3 + (1 : Int)))] w12 < μ6 [.int .i64 n2, .int .i64 n3] w4))) False)
    (K (.int .i64 0) w4)
theorem sh88_eq (list1 : Option Addr) (l_list1 : Nat) (c_list1 : Nat) (K : Value → World → Prop) (w : World) : denF X Try.f88 [.slice list1 l_list1 c_list1] K w = sh88 list1 l_list1 c_list1 K w := by kernel_rfl
theorem c88 {list1 : Option Addr} {l_list1 : Nat} {c_list1 : Nat} {w : World} {R : Ending → World → Prop} (h : sh88 list1 l_list1 c_list1 (fun v w' => R (.returned v) w') w) : Calls Try.prog 88 #[.slice list1 l_list1 c_list1] w R :=
  callOf Try.func88 (args := [.slice list1 l_list1 c_list1]) (Eq.mpr (sh88_eq list1 l_list1 c_list1 _ w) h)

/-- (*bramble/oplog.Log).run -/
def sh89 (l1 : Addr) (list2 : Option Addr) (l_list2 : Nat) (c_list2 : Nat) (K : Value → World → Prop) (w : World) : Prop :=
  let K9 : Bool → World → Prop := fun b7 w8 =>
      cond b7
        (wr w8 (l1.add 3) ∧ let w10 : World := w8.setCell (l1.add 3) (.bool true); 
        K (.int .i64 180) w10)
        (K (.int .i64 0) w8)
  ∃ (dead3 : Bool), w.cell? (l1.add 3) = some (.bool dead3) ∧ 
  cond dead3
    (K9 true w)
    (Calls Try.prog 88 #[.slice list2 l_list2 c_list2] w (fun e4 w5 => ∃ (n6 : Int), e4 = .returned (.int .i64 n6) ∧ 
    K9 (n6 != (0 : Int)) w5))
theorem sh89_eq (l1 : Addr) (list2 : Option Addr) (l_list2 : Nat) (c_list2 : Nat) (K : Value → World → Prop) (w : World) : denF X Try.f89 [.pointer (some l1), .slice list2 l_list2 c_list2] K w = sh89 l1 list2 l_list2 c_list2 K w := by kernel_rfl
theorem c89 {l1 : Addr} {list2 : Option Addr} {l_list2 : Nat} {c_list2 : Nat} {w : World} {R : Ending → World → Prop} (h : sh89 l1 list2 l_list2 c_list2 (fun v w' => R (.returned v) w') w) : Calls Try.prog 89 #[.pointer (some l1), .slice list2 l_list2 c_list2] w R :=
  callOf Try.func89 (args := [.pointer (some l1), .slice list2 l_list2 c_list2]) (Eq.mpr (sh89_eq l1 list2 l_list2 c_list2 _ w) h)

/-- (*bramble/oplog.Log).Append$1 -/
def sh90 (p1 : Addr) (p2 : Addr) (K : Value → World → Prop) (w : World) : Prop :=
  let w3 : World := w.drew; 
  ∃ (p4 : Option Addr), w3.cell? p1 = some (.pointer p4) ∧ 
  ∃ (p5 : Option Addr), w3.cell? p1 = some (.pointer p5) ∧ 
  optP p5 fun q6 => 
  ∃ (file7 : Int), w3.cell? (q6.add 1) = some (.int .i64 file7) ∧ 
  ∃ (p8 : Option Addr), w3.cell? p1 = some (.pointer p8) ∧ 
  optP p8 fun q9 => 
  ∃ (size10 : Int), w3.cell? (q9.add 2) = some (.int .i64 size10) ∧ 
  ∃ (a11 : Option Addr), ∃ (l_a11 : Nat), ∃ (c_a11 : Nat), w3.cell? p2 = some (.slice a11 l_a11 c_a11) ∧ 
  Calls Try.prog 91 #[.pointer p4, .int .i64 file7, .int .i64 size10, .slice a11 l_a11 c_a11] w3 (fun e12 w13 => ∃ (n14 : Int), e12 = .returned (.int .i64 n14) ∧ 
  K (.int .i64 n14) w13)
theorem sh90_eq (p1 : Addr) (p2 : Addr) (K : Value → World → Prop) (w : World) : denF X Try.f90 [.pointer (some p1), .pointer (some p2)] K w = sh90 p1 p2 K w := by kernel_rfl
theorem c90 {p1 : Addr} {p2 : Addr} {w : World} {R : Ending → World → Prop} (h : sh90 p1 p2 (fun v w' => R (.returned v) w') w) : Calls Try.prog 90 #[.pointer (some p1), .pointer (some p2)] w R :=
  callOf Try.func90 (args := [.pointer (some p1), .pointer (some p2)]) (Eq.mpr (sh90_eq p1 p2 _ w) h)

/-- (*bramble/oplog.Log).write -/
def sh91 (l1 : Addr) (f2 : Int) (off3 : Int) (b4 : Option Addr) (l_b4 : Nat) (c_b4 : Nat) (K : Value → World → Prop) (w : World) : Prop :=
  ∃ (I9 : List Value → World → Prop) (μ10 : List Value → World → Nat), I9 [.int .i64 0, .slice b4 l_b4 c_b4, .int .i64 off3] w ∧ ∀ (w8 : World) (n5 : Int) (b6 : Option Addr) (l_b6 : Nat) (c_b6 : Nat) (off7 : Int), I9 [.int .i64 n5, .slice b6 l_b6 c_b6, .int .i64 off7] w8 → 
  cond (decide (((l_b6 : Nat) : Int) > (0 : Int)))
    (let w11 : World := w8.drew; 
    ∃ (disk12 : Option Addr), w11.cell? l1 = some (.pointer disk12) ∧ 
    0 ≤ (mnI ((l_b6 : Nat) : Int) (8 : Int)) ∧ (mnI ((l_b6 : Nat) : Int) (8 : Int)) ≤ (c_b6 : Nat) ∧ 
    Calls Try.prog 31 #[.pointer disk12, .int .i64 f2, .int .i64 off7, .slice (subS b6 c_b6 0 1) (((mnI ((l_b6 : Nat) : Int) (8 : Int)).toNat) - 0) (c_b6 - 0)] w11 (fun e13 w14 => ∃ (n15 : Int), e13 = .returned (.int .i64 n15) ∧ 
    cond (n15 != (0 : Int))
      (K (.int .i64 n15) w14)
      (0 ≤ (mnI ((l_b6 : Nat) : Int) (8 : Int)) ∧ (mnI ((l_b6 : Nat) : Int) (8 : Int)) ≤ (l_b6 : Nat) ∧ 
      I9 [.int .i64 n5, .slice (subS b6 c_b6 ((mnI ((l_b6 : Nat) : Int) (8 : Int)).toNat) 1) (l_b6 - ((mnI ((l_b6 : Nat) : Int) (8 : Int)).toNat)) (c_b6 - ((mnI ((l_b6 : Nat) : Int) (8 : Int)).toNat)), .int .i64 (IntKind.i64.wrap (off7 + (mnI ((l_b6 : Nat) : Int) (8 : Int))))] w14 ∧ μ10 [.int .i64 n5, .slice (subS b6 c_b6 ((mnI ((l_b6 : Nat) : Int) (8 : Int)).toNat) 1) (l_b6 - ((mnI ((l_b6 : Nat) : Int) (8 : Int)).toNat)) (c_b6 - ((mnI ((l_b6 : Nat) : Int) (8 : Int)).toNat)), .int .i64 (IntKind.i64.wrap (off7 + (mnI ((l_b6 : Nat) : Int) (8 : Int))))] w14 < μ10 [.int .i64 n5, .slice b6 l_b6 c_b6, .int .i64 off7] w8)))
    (K (.int .i64 0) w8)
theorem sh91_eq (l1 : Addr) (f2 : Int) (off3 : Int) (b4 : Option Addr) (l_b4 : Nat) (c_b4 : Nat) (K : Value → World → Prop) (w : World) : denF X Try.f91 [.pointer (some l1), .int .i64 f2, .int .i64 off3, .slice b4 l_b4 c_b4] K w = sh91 l1 f2 off3 b4 l_b4 c_b4 K w := by kernel_rfl
theorem c91 {l1 : Addr} {f2 : Int} {off3 : Int} {b4 : Option Addr} {l_b4 : Nat} {c_b4 : Nat} {w : World} {R : Ending → World → Prop} (h : sh91 l1 f2 off3 b4 l_b4 c_b4 (fun v w' => R (.returned v) w') w) : Calls Try.prog 91 #[.pointer (some l1), .int .i64 f2, .int .i64 off3, .slice b4 l_b4 c_b4] w R :=
  callOf Try.func91 (args := [.pointer (some l1), .int .i64 f2, .int .i64 off3, .slice b4 l_b4 c_b4]) (Eq.mpr (sh91_eq l1 f2 off3 b4 l_b4 c_b4 _ w) h)

/-- (*bramble/oplog.Log).Rewrite$1 -/
def sh92 (p1 : Addr) (p2 : Addr) (p3 : Addr) (K : Value → World → Prop) (w : World) : Prop :=
  ∃ (p4 : Option Addr), w.cell? p1 = some (.pointer p4) ∧ 
  ∃ (n5 : Int), w.cell? p2 = some (.int .i64 n5) ∧ 
  ∃ (a6 : Option Addr), ∃ (l_a6 : Nat), ∃ (c_a6 : Nat), w.cell? p3 = some (.slice a6 l_a6 c_a6) ∧ 
  Calls Try.prog 91 #[.pointer p4, .int .i64 n5, .int .i64 0, .slice a6 l_a6 c_a6] w (fun e7 w8 => ∃ (n9 : Int), e7 = .returned (.int .i64 n9) ∧ 
  K (.int .i64 n9) w8)
theorem sh92_eq (p1 : Addr) (p2 : Addr) (p3 : Addr) (K : Value → World → Prop) (w : World) : denF X Try.f92 [.pointer (some p1), .pointer (some p2), .pointer (some p3)] K w = sh92 p1 p2 p3 K w := by kernel_rfl
theorem c92 {p1 : Addr} {p2 : Addr} {p3 : Addr} {w : World} {R : Ending → World → Prop} (h : sh92 p1 p2 p3 (fun v w' => R (.returned v) w') w) : Calls Try.prog 92 #[.pointer (some p1), .pointer (some p2), .pointer (some p3)] w R :=
  callOf Try.func92 (args := [.pointer (some p1), .pointer (some p2), .pointer (some p3)]) (Eq.mpr (sh92_eq p1 p2 p3 _ w) h)

/-- (*bramble/oplog.Log).Rewrite$2 -/
def sh93 (p1 : Addr) (p2 : Addr) (K : Value → World → Prop) (w : World) : Prop :=
  let w3 : World := w.drew; 
  ∃ (p4 : Option Addr), w3.cell? p1 = some (.pointer p4) ∧ 
  optP p4 fun q5 => 
  ∃ (disk6 : Option Addr), w3.cell? q5 = some (.pointer disk6) ∧ 
  ∃ (n7 : Int), w3.cell? p2 = some (.int .i64 n7) ∧ 
  let p8 : Nat := w3.heap.size; let w9 : World := w3.alloc (.cells #[.int .u8 (IntKind.u8.wrap (n7))] 5); 
  (∃ (p10 : Option Addr), w9.cell? p1 = some (.pointer p10) ∧ 
    (some (.pointer p4) : Option Value) = some (.pointer p10))
  ∧ ((∃ (disk11 : Option Addr), w9.cell? q5 = some (.pointer disk11) ∧ 
      (some (.pointer disk6) : Option Value) = some (.pointer disk11))
    ∧ (Calls Try.prog 31 #[.pointer disk6, .int .i64 0, .int .i64 0, .slice (some ⟨p8, 0, none⟩) 1 1] w9 (fun e12 w13 => ∃ (n14 : Int), e12 = .returned (.int .i64 n14) ∧ 
      K (.int .i64 n14) w13)))
theorem sh93_eq (p1 : Addr) (p2 : Addr) (K : Value → World → Prop) (w : World) : denF X Try.f93 [.pointer (some p1), .pointer (some p2)] K w = sh93 p1 p2 K w := by kernel_rfl
theorem c93 {p1 : Addr} {p2 : Addr} {w : World} {R : Ending → World → Prop} (h : sh93 p1 p2 (fun v w' => R (.returned v) w') w) : Calls Try.prog 93 #[.pointer (some p1), .pointer (some p2)] w R :=
  callOf Try.func93 (args := [.pointer (some p1), .pointer (some p2)]) (Eq.mpr (sh93_eq p1 p2 _ w) h)

/-- (*bramble/oplog.Log).Rewrite$3 -/
def sh94 (p1 : Addr) (p2 : Addr) (K : Value → World → Prop) (w : World) : Prop :=
  let w3 : World := w.drew; 
  ∃ (p4 : Option Addr), w3.cell? p1 = some (.pointer p4) ∧ 
  optP p4 fun q5 => 
  ∃ (disk6 : Option Addr), w3.cell? q5 = some (.pointer disk6) ∧ 
  ∃ (n7 : Int), w3.cell? p2 = some (.int .i64 n7) ∧ 
  Calls Try.prog 35 #[.pointer disk6, .int .i64 n7, .int .i64 0] w3 (fun e8 w9 => ∃ (n10 : Int), e8 = .returned (.int .i64 n10) ∧ 
  K (.int .i64 n10) w9)
theorem sh94_eq (p1 : Addr) (p2 : Addr) (K : Value → World → Prop) (w : World) : denF X Try.f94 [.pointer (some p1), .pointer (some p2)] K w = sh94 p1 p2 K w := by kernel_rfl
theorem c94 {p1 : Addr} {p2 : Addr} {w : World} {R : Ending → World → Prop} (h : sh94 p1 p2 (fun v w' => R (.returned v) w') w) : Calls Try.prog 94 #[.pointer (some p1), .pointer (some p2)] w R :=
  callOf Try.func94 (args := [.pointer (some p1), .pointer (some p2)]) (Eq.mpr (sh94_eq p1 p2 _ w) h)

/-- bramble/brambleref20.Bytes -/
def sh95 (ops1 : Option Addr) (l_ops1 : Nat) (c_ops1 : Nat) (K : Value → World → Prop) (w : World) : Prop :=
  ∃ (I5 : List Value → World → Prop) (μ6 : List Value → World → Nat), I5 [.slice none 0 0, .int .i64 0] w ∧ ∀ (w4 : World) (out2 : Option Addr) (l_out2 : Nat) (c_out2 : Nat) (i3 : Int), I5 [.slice out2 l_out2 c_out2, .int .i64 i3] w4 → 
  cond (decide (i3 < ((l_ops1 : Nat) : Int)))
    (∃ q7 : Addr, ops1 = some q7 ∧ 0 ≤ i3 ∧ i3 < (l_ops1 : Nat) ∧ 
    ∃ (n8 : Int), ∃ (n9 : Int), ∃ (n10 : Int), ∃ (n11 : Int), ∃ (n12 : Int), w4.cell? (q7.add (i3.toNat * 5)) = some (.int .i64 n8) ∧ w4.cell? ((q7.add (i3.toNat * 5)).add 1) = some (.int .i64 n9) ∧ w4.cell? ((q7.add (i3.toNat * 5)).add 2) = some (.int .i64 n10) ∧ w4.cell? ((q7.add (i3.toNat * 5)).add 3) = some (.int .i64 n11) ∧ w4.cell? ((q7.add (i3.toNat * 5)).add 4) = some (.int .u32 n12) ∧ 
    Calls Try.prog 39 #[.agg #[.int .i64 n8, .int .i64 n9, .int .i64 n10, .int .i64 n11, .int .u32 n12]] w4 (fun e13 w14 => ∃ (a15 : Option Addr), ∃ (l_a15 : Nat), ∃ (c_a15 : Nat), e13 = .returned (.slice a15 l_a15 c_a15) ∧ 
    RunWp Try.prog (Builtin.append_ #[36, 36] 36 #[.slice out2 l_out2 c_out2, .slice a15 l_a15 c_a15]) (fun v16 w17 => ∃ (a18 : Option Addr), ∃ (l_a18 : Nat), ∃ (c_a18 : Nat), v16 = .slice a18 l_a18 c_a18 ∧ 
    I5 [.slice a18 l_a18 c_a18, .int .i64 (IntKind.i64.wrap (i3 + (1 : Int)))] w17 ∧ μ6 [.slice a18 l_a18 c_a18, .int .i64 (IntKind.i64.wrap (i3 + (1 : Int)))] w17 < μ6 [.slice out2 l_out2 c_out2, .int .i64 i3] w4) w14))
    (RunWp Try.prog (convert 36 9 (.slice out2 l_out2 c_out2)) (fun v19 w20 => w20 = w4 ∧ ∃ (s21 : ByteArray), v19 = .string s21 ∧ 
    K (.string s21) w4) w4)
theorem sh95_eq (ops1 : Option Addr) (l_ops1 : Nat) (c_ops1 : Nat) (K : Value → World → Prop) (w : World) : denF X Try.f95 [.slice ops1 l_ops1 c_ops1] K w = sh95 ops1 l_ops1 c_ops1 K w := by kernel_rfl
theorem c95 {ops1 : Option Addr} {l_ops1 : Nat} {c_ops1 : Nat} {w : World} {R : Ending → World → Prop} (h : sh95 ops1 l_ops1 c_ops1 (fun v w' => R (.returned v) w') w) : Calls Try.prog 95 #[.slice ops1 l_ops1 c_ops1] w R :=
  callOf Try.func95 (args := [.slice ops1 l_ops1 c_ops1]) (Eq.mpr (sh95_eq ops1 l_ops1 c_ops1 _ w) h)

end Go.Proofs.Ytmfidfaiopogbaa
