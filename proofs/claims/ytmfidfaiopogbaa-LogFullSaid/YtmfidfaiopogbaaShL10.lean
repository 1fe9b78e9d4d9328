/- The shallow texts of these functions, and that they are the code's own; printed by a program of this session (gosh.py). -/
import Derived.Test.YtmfidfaiopogbaaShX
set_option linter.unusedVariables false
set_option maxRecDepth 100000
namespace Go.Proofs.Ytmfidfaiopogbaa
open Go Go.Sh
/-- bramble/bramblelaw19.RecordTorn -/
def sh10 (ops1 : Option Addr) (l_ops1 : Nat) (c_ops1 : Nat) (cut2 : Int) (K : Value → World → Prop) (w : World) : Prop :=
  Calls Try.prog 36 #[] w (fun e3 w4 => ∃ (b5 : Bool), e3 = .returned (.bool b5) ∧ 
  cond (!b5)
    (K (.bool false) w4)
    (∃ (I11 : List Value → World → Prop) (μ12 : List Value → World → Nat), I11 [.slice none 0 0, .slice none 0 0, .slice none 0 0, .int .i64 0] w4 ∧ ∀ (w10 : World) (b6 : Option Addr) (l_b6 : Nat) (c_b6 : Nat) (good7 : Option Addr) (l_good7 : Nat) (c_good7 : Nat) (ends8 : Option Addr) (l_ends8 : Nat) (c_ends8 : Nat) (n9 : Int), I11 [.slice b6 l_b6 c_b6, .slice good7 l_good7 c_good7, .slice ends8 l_ends8 c_ends8, .int .i64 n9] w10 → 
    cond (decide (n9 < ((l_ops1 : Nat) : Int)))
      (∃ q13 : Addr, ops1 = some q13 ∧ 0 ≤ n9 ∧ n9 < (l_ops1 : Nat) ∧ 
      ∃ (n14 : Int), ∃ (n15 : Int), ∃ (n16 : Int), ∃ (n17 : Int), ∃ (n18 : Int), w10.cell? (q13.add (n9.toNat * 5)) = some (.int .i64 n14) ∧ w10.cell? ((q13.add (n9.toNat * 5)).add 1) = some (.int .i64 n15) ∧ w10.cell? ((q13.add (n9.toNat * 5)).add 2) = some (.int .i64 n16) ∧ w10.cell? ((q13.add (n9.toNat * 5)).add 3) = some (.int .i64 n17) ∧ w10.cell? ((q13.add (n9.toNat * 5)).add 4) = some (.int .u32 n18) ∧ 
      let p19 : Nat := w10.heap.size; let w20 : World := w10.alloc (.cells #[.int .i64 0, .int .i64 0, .int .i64 0, .int .i64 0, .int .u32 0] 57); 
      wrN w20 (⟨p19, 0, none⟩ : Addr) 5 ∧ let w21 : World := setN (⟨p19, 0, none⟩ : Addr) 0 [.int .i64 n14, .int .i64 n15, .int .i64 n16, .int .i64 n17, .int .u32 n18] w20; 
      ∃ (op22 : Int), ∃ (op23 : Int), ∃ (op24 : Int), ∃ (op25 : Int), ∃ (op26 : Int), w21.cell? (⟨p19, 0, none⟩ : Addr) = some (.int .i64 op22) ∧ w21.cell? (⟨p19, 1, none⟩ : Addr) = some (.int .i64 op23) ∧ w21.cell? (⟨p19, 2, none⟩ : Addr) = some (.int .i64 op24) ∧ w21.cell? (⟨p19, 3, none⟩ : Addr) = some (.int .i64 op25) ∧ w21.cell? (⟨p19, 4, none⟩ : Addr) = some (.int .u32 op26) ∧ 
      Calls Try.prog 37 #[.agg #[.int .i64 op22, .int .i64 op23, .int .i64 op24, .int .i64 op25, .int .u32 op26]] w21 (fun e27 w28 => ∃ (a29 : Option Addr), ∃ (l_a29 : Nat), ∃ (c_a29 : Nat), ∃ (n30 : Int), e27 = .returned (.tuple #[.slice a29 l_a29 c_a29, .int .i64 n30]) ∧ 
      cond (n30 == (0 : Int))
        (RunWp Try.prog (Builtin.append_ #[36, 36] 36 #[.slice b6 l_b6 c_b6, .slice a29 l_a29 c_a29]) (fun v31 w32 => ∃ (a33 : Option Addr), ∃ (l_a33 : Nat), ∃ (c_a33 : Nat), v31 = .slice a33 l_a33 c_a33 ∧ 
        ∃ (op34 : Int), ∃ (op35 : Int), ∃ (op36 : Int), ∃ (op37 : Int), ∃ (op38 : Int), w32.cell? (⟨p19, 0, none⟩ : Addr) = some (.int .i64 op34) ∧ w32.cell? (⟨p19, 1, none⟩ : Addr) = some (.int .i64 op35) ∧ w32.cell? (⟨p19, 2, none⟩ : Addr) = some (.int .i64 op36) ∧ w32.cell? (⟨p19, 3, none⟩ : Addr) = some (.int .i64 op37) ∧ w32.cell? (⟨p19, 4, none⟩ : Addr) = some (.int .u32 op38) ∧ 
        Calls Try.prog 38 #[.agg #[.int .i64 op34, .int .i64 op35, .int .i64 op36, .int .i64 op37, .int .u32 op38]] w32 (fun e39 w40 => ∃ (n41 : Int), ∃ (n42 : Int), ∃ (n43 : Int), ∃ (n44 : Int), ∃ (n45 : Int), ∃ (n46 : Int), e39 = .returned (.tuple #[.agg #[.int .i64 n41, .int .i64 n42, .int .i64 n43, .int .i64 n44, .int .u32 n45], .int .i64 n46]) ∧ 
        let p47 : Nat := w40.heap.size; let w48 : World := w40.alloc (.cells #[.int .i64 0, .int .i64 0, .int .i64 0, .int .i64 0, .int .u32 0] 57); 
        wrN w48 (⟨p47, 0, none⟩ : Addr) 5 ∧ let w49 : World := setN (⟨p47, 0, none⟩ : Addr) 0 [.int .i64 n41, .int .i64 n42, .int .i64 n43, .int .i64 n44, .int .u32 n45] w48; 
        ∃ (plain50 : Int), ∃ (plain51 : Int), ∃ (plain52 : Int), ∃ (plain53 : Int), ∃ (plain54 : Int), w49.cell? (⟨p47, 0, none⟩ : Addr) = some (.int .i64 plain50) ∧ w49.cell? (⟨p47, 1, none⟩ : Addr) = some (.int .i64 plain51) ∧ w49.cell? (⟨p47, 2, none⟩ : Addr) = some (.int .i64 plain52) ∧ w49.cell? (⟨p47, 3, none⟩ : Addr) = some (.int .i64 plain53) ∧ w49.cell? (⟨p47, 4, none⟩ : Addr) = some (.int .u32 plain54) ∧ 
        let p55 : Nat := w49.heap.size; let w56 : World := w49.alloc (.cells #[.int .i64 plain50, .int .i64 plain51, .int .i64 plain52, .int .i64 plain53, .int .u32 plain54] 57); 
        RunWp Try.prog (Builtin.append_ #[64, 64] 64 #[.slice good7 l_good7 c_good7, .slice (some ⟨p55, 0, none⟩) 1 1]) (fun v57 w58 => ∃ (a59 : Option Addr), ∃ (l_a59 : Nat), ∃ (c_a59 : Nat), v57 = .slice a59 l_a59 c_a59 ∧ 
        let p60 : Nat := w58.heap.size; let w61 : World := w58.alloc (.cells #[.int .i64 ((l_a33 : Nat) : Int)] 3); 
        RunWp Try.prog (Builtin.append_ #[69, 69] 69 #[.slice ends8 l_ends8 c_ends8, .slice (some ⟨p60, 0, none⟩) 1 1]) (fun v62 w63 => ∃ (a64 : Option Addr), ∃ (l_a64 : Nat), ∃ (c_a64 : Nat), v62 = .slice a64 l_a64 c_a64 ∧ 
        I11 [.slice a33 l_a33 c_a33, .slice a59 l_a59 c_a59, .slice a64 l_a64 c_a64, .int .i64 (IntKind.i64.wrap (n9 + (1 : Int)))] w63 ∧ μ12 [.slice a33 l_a33 c_a33, .slice a59 l_a59 c_a59, .slice a64 l_a64 c_a64, .int .i64 (IntKind.i64.wrap (n9 + (1 : Int)))] w63 < μ12 [.slice b6 l_b6 c_b6, .slice good7 l_good7 c_good7, .slice ends8 l_ends8 c_ends8, .int .i64 n9] w10) w61) w56)) w28)
        (I11 [.slice b6 l_b6 c_b6, .slice good7 l_good7 c_good7, .slice ends8 l_ends8 c_ends8, .int .i64 (IntKind.i64.wrap (n9 + (1 : Int)))] w28 ∧ μ12 [.slice b6 l_b6 c_b6, .slice good7 l_good7 c_good7, .slice ends8 l_ends8 c_ends8, .int .i64 (IntKind.i64.wrap (n9 + (1 : Int)))] w28 < μ12 [.slice b6 l_b6 c_b6, .slice good7 l_good7 c_good7, .slice ends8 l_ends8 c_ends8, .int .i64 n9] w10)))
      (Calls Try.prog 40 #[.slice b6 l_b6 c_b6] w10 (fun e92 w93 => ∃ (a94 : Option Addr), ∃ (l_a94 : Nat), ∃ (c_a94 : Nat), ∃ (n95 : Int), e92 = .returned (.tuple #[.slice a94 l_a94 c_a94, .int .i64 n95]) ∧ 
      let K101 : Bool → World → Prop := fun b99 w100 =>
          cond b99
            (K (.bool false) w100)
            ((IntKind.u64.wrap (IntKind.i64.wrap (((l_b6 : Nat) : Int) + (1 : Int)))) ≠ 0 ∧ 
            ∃ (I105 : List Value → World → Prop) (μ106 : List Value → World → Nat), I105 [.int .i64 0, .int .i64 0] w100 ∧ ∀ (w104 : World) (whole102 : Int) (k103 : Int), I105 [.int .i64 whole102, .int .i64 k103] w104 → 
            let K112 : Bool → Bool → World → Prop := fun b109 b110 w111 =>
                cond b110
                  (∃ q113 : Addr, ends8 = some q113 ∧ 0 ≤ k103 ∧ k103 < (l_ends8 : Nat) ∧ 
                  ∃ (n114 : Int), w111.cell? (q113.add (k103.toNat * 1)) = some (.int .i64 n114) ∧ 
                  I105 [.int .i64 n114, .int .i64 (IntKind.i64.wrap (k103 + (1 : Int)))] w111 ∧ μ106 [.int .i64 n114, .int .i64 (IntKind.i64.wrap (k103 + (1 : Int)))] w111 < μ106 [.int .i64 whole102, .int .i64 k103] w104)
                  (0 ≤ (IntKind.i64.wrap (Int.tmod (IntKind.u64.wrap (cut2)) (IntKind.u64.wrap (IntKind.i64.wrap (((l_b6 : Nat) : Int) + (1 : Int)))))) ∧ (IntKind.i64.wrap (Int.tmod (IntKind.u64.wrap (cut2)) (IntKind.u64.wrap (IntKind.i64.wrap (((l_b6 : Nat) : Int) + (1 : Int)))))) ≤ (c_b6 : Nat) ∧ 
                  Calls Try.prog 40 #[.slice (subS b6 c_b6 0 1) (((IntKind.i64.wrap (Int.tmod (IntKind.u64.wrap (cut2)) (IntKind.u64.wrap (IntKind.i64.wrap (((l_b6 : Nat) : Int) + (1 : Int)))))).toNat) - 0) (c_b6 - 0)] w111 (fun e115 w116 => ∃ (a117 : Option Addr), ∃ (l_a117 : Nat), ∃ (c_a117 : Nat), ∃ (n118 : Int), e115 = .returned (.tuple #[.slice a117 l_a117 c_a117, .int .i64 n118]) ∧ 
                  cond (n118 == whole102)
                    (0 ≤ k103 ∧ k103 ≤ (c_good7 : Nat) ∧ 
                    Calls Try.prog 42 #[.slice a117 l_a117 c_a117, .slice (subS good7 c_good7 0 5) (k103.toNat - 0) (c_good7 - 0)] w116 (fun e119 w120 => ∃ (b121 : Bool), e119 = .returned (.bool b121) ∧ 
                    K (.bool b121) w120))
                    (K (.bool false) w116)))
            cond (decide (k103 < ((l_ends8 : Nat) : Int)))
              (∃ q107 : Addr, ends8 = some q107 ∧ 0 ≤ k103 ∧ k103 < (l_ends8 : Nat) ∧ 
              ∃ (n108 : Int), w104.cell? (q107.add (k103.toNat * 1)) = some (.int .i64 n108) ∧ 
              K112 true (decide (n108 ≤ (IntKind.i64.wrap (Int.tmod (IntKind.u64.wrap (cut2)) (IntKind.u64.wrap (IntKind.i64.wrap (((l_b6 : Nat) : Int) + (1 : Int)))))))) w104)
              (K112 false false w104))
      cond (n95 != ((l_b6 : Nat) : Int))
        (K101 true w93)
        (Calls Try.prog 42 #[.slice a94 l_a94 c_a94, .slice good7 l_good7 c_good7] w93 (fun e96 w97 => ∃ (b98 : Bool), e96 = .returned (.bool b98) ∧ 
        K101 (!b98) w97))))))
theorem sh10_eq (ops1 : Option Addr) (l_ops1 : Nat) (c_ops1 : Nat) (cut2 : Int) (K : Value → World → Prop) (w : World) : denF X Try.f10 [.slice ops1 l_ops1 c_ops1, .int .i64 cut2] K w = sh10 ops1 l_ops1 c_ops1 cut2 K w := by kernel_rfl
theorem c10 {ops1 : Option Addr} {l_ops1 : Nat} {c_ops1 : Nat} {cut2 : Int} {w : World} {R : Ending → World → Prop} (h : sh10 ops1 l_ops1 c_ops1 cut2 (fun v w' => R (.returned v) w') w) : Calls Try.prog 10 #[.slice ops1 l_ops1 c_ops1, .int .i64 cut2] w R :=
  callOf Try.func10 (args := [.slice ops1 l_ops1 c_ops1, .int .i64 cut2]) (Eq.mpr (sh10_eq ops1 l_ops1 c_ops1 cut2 _ w) h)

end Go.Proofs.Ytmfidfaiopogbaa
