/- This seat's functions, read in company. -/
import Derived.Test.YtmkgnbcpcfojfaaCvX
set_option linter.unusedVariables false
set_option maxRecDepth 100000
set_option maxHeartbeats 1000000
namespace Go.Proofs.Ytmkgnbcpcfojfaa
open Go Go.Cv
/-- bramble/bramblelaw06.CrewAll -/
def sh3 (co : Co) (jobs1 : Option Addr) (l_jobs1 : Nat) (c_jobs1 : Nat) (hands2 : Int) (K : Value → World → Prop) (w : World) : Prop :=
  CallsJ Try.prog co 8 #[] w (fun e3 w4 => ∃ (b5 : Bool), e3 = (.bool b5) ∧ 
  cond (!b5)
    (K (.bool false) w4)
    (CallsJ Try.prog co 9 #[.slice jobs1 l_jobs1 c_jobs1] w4 (fun e6 w7 => ∃ (a8 : Option Addr), ∃ (l_a8 : Nat), ∃ (c_a8 : Nat), e6 = (.slice a8 l_a8 c_a8) ∧ 
    CallsJ Try.prog co 10 #[.slice a8 l_a8 c_a8, .int .i64 hands2, .func (.func 11) #[] #[]] w7 (fun e9 w10 => ∃ (a11 : Option Addr), ∃ (l_a11 : Nat), ∃ (c_a11 : Nat), e9 = (.slice a11 l_a11 c_a11) ∧ 
    cond (((l_a11 : Nat) : Int) != ((l_a8 : Nat) : Int))
      (K (.bool false) w10)
      (∃ (I15 : List Value → World → Prop) (μ16 : List Value → World → Nat), I15 [.bool false, .int .i64 0] w10 ∧ ∀ (w14 : World) (b12 : Bool) (n13 : Int), I15 [.bool b12, .int .i64 n13] w14 → 
      cond (decide (n13 < ((l_a8 : Nat) : Int)))
        (∃ q17 : Addr, a8 = some q17 ∧ 0 ≤ n13 ∧ n13 < (l_a8 : Nat) ∧ 
        ∃ (n18 : Int), w14.cell? (q17.add (n13.toNat * 1)) = some (.int .i64 n18) ∧ 
        let K21 : ByteArray → World → Prop := fun s19 w20 =>
            ∃ q22 : Addr, a11 = some q22 ∧ 0 ≤ n13 ∧ n13 < (l_a11 : Nat) ∧ 
            ∃ (s23 : ByteArray), w20.cell? (q22.add (n13.toNat * 1)) = some (.string s23) ∧ 
            cond (!(s23.toList == s19.toList))
              (K (.bool false) w20)
              (I15 [.bool b12, .int .i64 (IntKind.i64.wrap (n13 + (1 : Int)))] w20 ∧ μ16 [.bool b12, .int .i64 (IntKind.i64.wrap (n13 + (1 : Int)))] w20 < μ16 [.bool b12, .int .i64 n13] w14)
        cond (decide (n18 ≥ (0 : Int)))
          ((6 : Int) ≠ 0 ∧ 
          0 ≤ (Int.tmod n18 (6 : Int)) ∧ (Int.tmod n18 (6 : Int)) ≤ (({ data := #[97, 98, 99, 100, 101, 102] } : ByteArray).size : Nat) ∧ 
          K21 (({ data := #[97, 98, 99, 100, 101, 102] } : ByteArray).extract 0 ((Int.tmod n18 (6 : Int)).toNat)) w14)
          (K21 ({ data := #[98, 101, 108, 111, 119] } : ByteArray) w14))
        (K (.bool true) w14))))))
theorem sh3_eq (e : Bool) (co : Co) (jobs1 : Option Addr) (l_jobs1 : Nat) (c_jobs1 : Nat) (hands2 : Int) (K : Value → World → Prop) (w : World) : denF (X e co) Try.f3 [.slice jobs1 l_jobs1 c_jobs1, .int .i64 hands2] K w = sh3 co jobs1 l_jobs1 c_jobs1 hands2 K w := by kernel_rfl
theorem c3 {e : Bool} {co : Co} {jobs1 : Option Addr} {l_jobs1 : Nat} {c_jobs1 : Nat} {hands2 : Int} {w : World} {R : Value → World → Prop} (hC : Closed Try.prog 58 e co) (h : sh3 co jobs1 l_jobs1 c_jobs1 hands2 R w) : CallsJ Try.prog co 3 #[.slice jobs1 l_jobs1 c_jobs1, .int .i64 hands2] w R :=
  callOf e co hC Try.func3 (args := [.slice jobs1 l_jobs1 c_jobs1, .int .i64 hands2]) (Eq.mpr (sh3_eq e co jobs1 l_jobs1 c_jobs1 hands2 _ w) h)

/-- bramble/bramblelaw06.CrewTries -/
def sh4 (co : Co) (jobs1 : Option Addr) (l_jobs1 : Nat) (c_jobs1 : Nat) (hands2 : Int) (odd3 : Int) (K : Value → World → Prop) (w : World) : Prop :=
  let p4 : Nat := w.heap.size; let w5 : World := w.alloc (.cells #[.int .i64 odd3] 3); 
  CallsJ Try.prog co 8 #[] w5 (fun e6 w7 => ∃ (b8 : Bool), e6 = (.bool b8) ∧ 
  cond (!b8)
    (K (.bool false) w7)
    (CallsJ Try.prog co 9 #[.slice jobs1 l_jobs1 c_jobs1] w7 (fun e9 w10 => ∃ (a11 : Option Addr), ∃ (l_a11 : Nat), ∃ (c_a11 : Nat), e9 = (.slice a11 l_a11 c_a11) ∧ 
    CallsJ Try.prog co 12 #[.slice a11 l_a11 c_a11, .int .i64 hands2, .func (.func 13) #[] #[.pointer (some ⟨p4, 0, none⟩)]] w10 (fun e12 w13 => ∃ (a14 : Option Addr), ∃ (l_a14 : Nat), ∃ (c_a14 : Nat), ∃ (n15 : Int), ∃ (n16 : Int), e12 = (.tuple #[.slice a14 l_a14 c_a14, .int .i64 n15, .int .i64 n16]) ∧ 
    ∃ (odd17 : Int), w13.cell? (⟨p4, 0, none⟩ : Addr) = some (.int .i64 odd17) ∧ 
    CallsJ Try.prog co 15 #[.slice a11 l_a11 c_a11, .int .i64 odd17] w13 (fun e18 w19 => ∃ (a20 : Option Addr), ∃ (l_a20 : Nat), ∃ (c_a20 : Nat), ∃ (n21 : Int), ∃ (n22 : Int), e18 = (.tuple #[.slice a20 l_a20 c_a20, .int .i64 n21, .int .i64 n22]) ∧ 
    CallsJ Try.prog co 16 #[.slice a14 l_a14 c_a14, .slice a20 l_a20 c_a20] w19 (fun e23 w24 => ∃ (b25 : Bool), e23 = (.bool b25) ∧ 
    cond b25
      (cond (n15 == n21)
        (K (.bool (n16 == n22)) w24)
        (K (.bool false) w24))
      (K (.bool false) w24)))))))
theorem sh4_eq (co : Co) (jobs1 : Option Addr) (l_jobs1 : Nat) (c_jobs1 : Nat) (hands2 : Int) (odd3 : Int) (K : Value → World → Prop) (w : World) : denF (X false co) Try.f4 [.slice jobs1 l_jobs1 c_jobs1, .int .i64 hands2, .int .i64 odd3] K w = sh4 co jobs1 l_jobs1 c_jobs1 hands2 odd3 K w := by kernel_rfl
theorem c4 {co : Co} {jobs1 : Option Addr} {l_jobs1 : Nat} {c_jobs1 : Nat} {hands2 : Int} {odd3 : Int} {w : World} {R : Value → World → Prop} (hC : Closed Try.prog 58 false co) (h : sh4 co jobs1 l_jobs1 c_jobs1 hands2 odd3 R w) : CallsJ Try.prog co 4 #[.slice jobs1 l_jobs1 c_jobs1, .int .i64 hands2, .int .i64 odd3] w R :=
  callOf false co hC Try.func4 (args := [.slice jobs1 l_jobs1 c_jobs1, .int .i64 hands2, .int .i64 odd3]) (Eq.mpr (sh4_eq co jobs1 l_jobs1 c_jobs1 hands2 odd3 _ w) h)

/-- bramble/bramblelaw06.CrewOne -/
def sh5 (co : Co) (jobs1 : Option Addr) (l_jobs1 : Nat) (c_jobs1 : Nat) (hands2 : Int) (odd3 : Int) (K : Value → World → Prop) (w : World) : Prop :=
  let p4 : Nat := w.heap.size; let w5 : World := w.alloc (.cells #[.int .i64 odd3] 3); 
  CallsJ Try.prog co 8 #[] w5 (fun e6 w7 => ∃ (b8 : Bool), e6 = (.bool b8) ∧ 
  cond (!b8)
    (K (.bool false) w7)
    (CallsJ Try.prog co 9 #[.slice jobs1 l_jobs1 c_jobs1] w7 (fun e9 w10 => ∃ (a11 : Option Addr), ∃ (l_a11 : Nat), ∃ (c_a11 : Nat), e9 = (.slice a11 l_a11 c_a11) ∧ 
    let K14 : Int → World → Prop := fun n12 w13 =>
        let p15 : Nat := w13.heap.size; let w16 : World := w13.alloc (.cells #[.slice none 0 0] 22); 
        CallsJ Try.prog co 12 #[.slice a11 l_a11 c_a11, .int .i64 n12, .func (.func 17) #[] #[.pointer (some ⟨p15, 0, none⟩), .pointer (some ⟨p4, 0, none⟩)]] w16 (fun e17 w18 => ∃ (a19 : Option Addr), ∃ (l_a19 : Nat), ∃ (c_a19 : Nat), ∃ (n20 : Int), ∃ (n21 : Int), e17 = (.tuple #[.slice a19 l_a19 c_a19, .int .i64 n20, .int .i64 n21]) ∧ 
        cond (n21 != (0 : Int))
          (cond (decide (n20 ≥ (0 : Int)))
            (cond (decide (n20 < ((l_a11 : Nat) : Int)))
              (∃ (came23 : Option Addr), ∃ (l_came23 : Nat), ∃ (c_came23 : Nat), w18.cell? (⟨p15, 0, none⟩ : Addr) = some (.slice came23 l_came23 c_came23) ∧ 
              cond (decide (((l_came23 : Nat) : Int) ≥ (IntKind.i64.wrap (n20 + (1 : Int)))))
                (∃ (came24 : Option Addr), ∃ (l_came24 : Nat), ∃ (c_came24 : Nat), w18.cell? (⟨p15, 0, none⟩ : Addr) = some (.slice came24 l_came24 c_came24) ∧ 
                cond (decide (((l_came24 : Nat) : Int) ≤ ((l_a11 : Nat) : Int)))
                  (∃ (came25 : Option Addr), ∃ (l_came25 : Nat), ∃ (c_came25 : Nat), w18.cell? (⟨p15, 0, none⟩ : Addr) = some (.slice came25 l_came25 c_came25) ∧ 
                  ∃ (came26 : Option Addr), ∃ (l_came26 : Nat), ∃ (c_came26 : Nat), w18.cell? (⟨p15, 0, none⟩ : Addr) = some (.slice came26 l_came26 c_came26) ∧ 
                  0 ≤ ((l_came26 : Nat) : Int) ∧ ((l_came26 : Nat) : Int) ≤ (c_a11 : Nat) ∧ 
                  CallsJ Try.prog co 16 #[.slice came25 l_came25 c_came25, .slice (subS a11 c_a11 0 1) ((((l_came26 : Nat) : Int).toNat) - 0) (c_a11 - 0)] w18 (fun e27 w28 => ∃ (b29 : Bool), e27 = (.bool b29) ∧ 
                  K (.bool b29) w28))
                  (K (.bool false) w18))
                (K (.bool false) w18))
              (K (.bool false) w18))
            (K (.bool false) w18))
          (cond (n20 == (0 : Int))
            (∃ (came33 : Option Addr), ∃ (l_came33 : Nat), ∃ (c_came33 : Nat), w18.cell? (⟨p15, 0, none⟩ : Addr) = some (.slice came33 l_came33 c_came33) ∧ 
            CallsJ Try.prog co 16 #[.slice came33 l_came33 c_came33, .slice a11 l_a11 c_a11] w18 (fun e34 w35 => ∃ (b36 : Bool), e34 = (.bool b36) ∧ 
            K (.bool b36) w35))
            (K (.bool false) w18)))
    cond (decide (hands2 > (1 : Int)))
      (K14 1 w10)
      (K14 hands2 w10))))
theorem sh5_eq (co : Co) (jobs1 : Option Addr) (l_jobs1 : Nat) (c_jobs1 : Nat) (hands2 : Int) (odd3 : Int) (K : Value → World → Prop) (w : World) : denF (X false co) Try.f5 [.slice jobs1 l_jobs1 c_jobs1, .int .i64 hands2, .int .i64 odd3] K w = sh5 co jobs1 l_jobs1 c_jobs1 hands2 odd3 K w := by kernel_rfl
theorem c5 {co : Co} {jobs1 : Option Addr} {l_jobs1 : Nat} {c_jobs1 : Nat} {hands2 : Int} {odd3 : Int} {w : World} {R : Value → World → Prop} (hC : Closed Try.prog 58 false co) (h : sh5 co jobs1 l_jobs1 c_jobs1 hands2 odd3 R w) : CallsJ Try.prog co 5 #[.slice jobs1 l_jobs1 c_jobs1, .int .i64 hands2, .int .i64 odd3] w R :=
  callOf false co hC Try.func5 (args := [.slice jobs1 l_jobs1 c_jobs1, .int .i64 hands2, .int .i64 odd3]) (Eq.mpr (sh5_eq co jobs1 l_jobs1 c_jobs1 hands2 odd3 _ w) h)

/-- bramble/bramblelaw06.CrewHands -/
def sh6 (co : Co) (jobs1 : Option Addr) (l_jobs1 : Nat) (c_jobs1 : Nat) (h2 : Int) (h3 : Int) (h4 : Int) (K : Value → World → Prop) (w : World) : Prop :=
  let p5 : Nat := w.heap.size; let w6 : World := w.alloc (.cells #[.int .i64 h2, .int .i64 h3, .int .i64 h4] 40); 
  CallsJ Try.prog co 8 #[] w6 (fun e7 w8 => ∃ (b9 : Bool), e7 = (.bool b9) ∧ 
  cond (!b9)
    (K (.bool false) w8)
    (∃ (One11 : Int), w8.cell? (⟨p5, 0, none⟩ : Addr) = some (.int .i64 One11) ∧ 
    CallsJ Try.prog co 9 #[.slice jobs1 l_jobs1 c_jobs1] w8 (fun e12 w13 => ∃ (a14 : Option Addr), ∃ (l_a14 : Nat), ∃ (c_a14 : Nat), e12 = (.slice a14 l_a14 c_a14) ∧ 
    (∃ (One15 : Int), w13.cell? (⟨p5, 0, none⟩ : Addr) = some (.int .i64 One15) ∧ 
      (some (.int .i64 One11) : Option Value) = some (.int .i64 One15))
    ∧ (CallsJ Try.prog co 12 #[.slice a14 l_a14 c_a14, .int .i64 One11, .func (.func 18) #[] #[.pointer (some ⟨p5, 0, none⟩)]] w13 (fun e16 w17 => ∃ (a18 : Option Addr), ∃ (l_a18 : Nat), ∃ (c_a18 : Nat), ∃ (n19 : Int), ∃ (n20 : Int), e16 = (.tuple #[.slice a18 l_a18 c_a18, .int .i64 n19, .int .i64 n20]) ∧ 
      ∃ (More22 : Int), w17.cell? (⟨p5, 1, none⟩ : Addr) = some (.int .i64 More22) ∧ 
      CallsJ Try.prog co 9 #[.slice jobs1 l_jobs1 c_jobs1] w17 (fun e23 w24 => ∃ (a25 : Option Addr), ∃ (l_a25 : Nat), ∃ (c_a25 : Nat), e23 = (.slice a25 l_a25 c_a25) ∧ 
      (∃ (More26 : Int), w24.cell? (⟨p5, 1, none⟩ : Addr) = some (.int .i64 More26) ∧ 
        (some (.int .i64 More22) : Option Value) = some (.int .i64 More26))
      ∧ (CallsJ Try.prog co 12 #[.slice a25 l_a25 c_a25, .int .i64 More22, .func (.func 18) #[] #[.pointer (some ⟨p5, 0, none⟩)]] w24 (fun e27 w28 => ∃ (a29 : Option Addr), ∃ (l_a29 : Nat), ∃ (c_a29 : Nat), ∃ (n30 : Int), ∃ (n31 : Int), e27 = (.tuple #[.slice a29 l_a29 c_a29, .int .i64 n30, .int .i64 n31]) ∧ 
        CallsJ Try.prog co 16 #[.slice a18 l_a18 c_a18, .slice a29 l_a29 c_a29] w28 (fun e32 w33 => ∃ (b34 : Bool), e32 = (.bool b34) ∧ 
        cond b34
          (cond (n19 == n30)
            (cond (n20 == n31)
              (cond (n20 != (0 : Int))
                (K (.bool true) w33)
                (K (.bool (((l_a18 : Nat) : Int) == (mnI ((l_jobs1 : Nat) : Int) (300 : Int)))) w33))
              (K (.bool false) w33))
            (K (.bool false) w33))
          (K (.bool false) w33))))))))))
theorem sh6_eq (co : Co) (jobs1 : Option Addr) (l_jobs1 : Nat) (c_jobs1 : Nat) (h2 : Int) (h3 : Int) (h4 : Int) (K : Value → World → Prop) (w : World) : denF (X false co) Try.f6 [.slice jobs1 l_jobs1 c_jobs1, .agg #[.int .i64 h2, .int .i64 h3, .int .i64 h4]] K w = sh6 co jobs1 l_jobs1 c_jobs1 h2 h3 h4 K w := by kernel_rfl
theorem c6 {co : Co} {jobs1 : Option Addr} {l_jobs1 : Nat} {c_jobs1 : Nat} {h2 : Int} {h3 : Int} {h4 : Int} {w : World} {R : Value → World → Prop} (hC : Closed Try.prog 58 false co) (h : sh6 co jobs1 l_jobs1 c_jobs1 h2 h3 h4 R w) : CallsJ Try.prog co 6 #[.slice jobs1 l_jobs1 c_jobs1, .agg #[.int .i64 h2, .int .i64 h3, .int .i64 h4]] w R :=
  callOf false co hC Try.func6 (args := [.slice jobs1 l_jobs1 c_jobs1, .agg #[.int .i64 h2, .int .i64 h3, .int .i64 h4]]) (Eq.mpr (sh6_eq co jobs1 l_jobs1 c_jobs1 h2 h3 h4 _ w) h)

/-- bramble/bramblelaw06.CrewOwn -/
def sh7 (co : Co) (jobs1 : Option Addr) (l_jobs1 : Nat) (c_jobs1 : Nat) (hands2 : Int) (K : Value → World → Prop) (w : World) : Prop :=
  CallsJ Try.prog co 8 #[] w (fun e3 w4 => ∃ (b5 : Bool), e3 = (.bool b5) ∧ 
  cond (!b5)
    (K (.bool false) w4)
    (CallsJ Try.prog co 9 #[.slice jobs1 l_jobs1 c_jobs1] w4 (fun e6 w7 => ∃ (a8 : Option Addr), ∃ (l_a8 : Nat), ∃ (c_a8 : Nat), e6 = (.slice a8 l_a8 c_a8) ∧ 
    let p9 : Nat := w7.heap.size; let w10 : World := w7.alloc (.cells #[] 3); 
    AppV Try.prog 58 co.ro [22, 22] [.slice (some ⟨p9, 0, none⟩) 0 0, .slice a8 l_a8 c_a8] (fun a11 l_a11 c_a11 w12 => 
    let p13 : Nat := w12.heap.size; let w14 : World := w12.alloc (.cells #[.int .i64 77] 3); 
    AppV Try.prog 58 co.ro [22, 22] [.slice a11 l_a11 c_a11, .slice (some ⟨p13, 0, none⟩) 1 1] (fun a15 l_a15 c_a15 w16 => 
    0 ≤ ((l_a8 : Nat) : Int) ∧ ((l_a8 : Nat) : Int) ≤ (c_a15 : Nat) ∧ 
    0 ≤ ((l_a8 : Nat) : Int) ∧ ((l_a8 : Nat) : Int) ≤ (c_a15 : Nat) ∧ 
    CallsJ Try.prog co 20 #[.slice (subS a15 c_a15 0 1) ((((l_a8 : Nat) : Int).toNat) - 0) (c_a15 - 0), .int .i64 hands2, .func (.func 19) #[] #[]] w16 (fun e18 w19 => ∃ (a20 : Option Addr), ∃ (l_a20 : Nat), ∃ (c_a20 : Nat), e18 = (.slice a20 l_a20 c_a20) ∧ 
    CallsJ Try.prog co 20 #[.slice (subS a15 c_a15 0 1) ((((l_a8 : Nat) : Int).toNat) - 0) (c_a15 - 0), .int .i64 hands2, .func (.func 19) #[] #[]] w19 (fun e21 w22 => ∃ (a23 : Option Addr), ∃ (l_a23 : Nat), ∃ (c_a23 : Nat), e21 = (.slice a23 l_a23 c_a23) ∧ 
    let K31 : Bool → World → Prop := fun b29 w30 =>
        cond b29
          (K (.bool false) w30)
          (∃ (I34 : List Value → World → Prop) (μ35 : List Value → World → Nat), I34 [.int .i64 0] w30 ∧ ∀ (w33 : World) (n32 : Int), I34 [.int .i64 n32] w33 → 
          cond (decide (n32 < ((l_a20 : Nat) : Int)))
            (∃ q36 : Addr, a20 = some q36 ∧ 0 ≤ n32 ∧ n32 < (l_a20 : Nat) ∧ 
            wr co.ro w33 (q36.add (n32.toNat * 1)) ∧ let w37 : World := w33.setCell (q36.add (n32.toNat * 1)) (.int .i64 (-9)); 
            I34 [.int .i64 (IntKind.i64.wrap (n32 + (1 : Int)))] w37 ∧ μ35 [.int .i64 (IntKind.i64.wrap (n32 + (1 : Int)))] w37 < μ35 [.int .i64 n32] w33)
            (∃ (I40 : List Value → World → Prop) (μ41 : List Value → World → Nat), I40 [.int .i64 0] w33 ∧ ∀ (w39 : World) (n38 : Int), I40 [.int .i64 n38] w39 → 
            cond (decide (n38 < ((l_a15 : Nat) : Int)))
              (∃ q42 : Addr, a15 = some q42 ∧ 0 ≤ n38 ∧ n38 < (l_a15 : Nat) ∧ 
              wr co.ro w39 (q42.add (n38.toNat * 1)) ∧ let w43 : World := w39.setCell (q42.add (n38.toNat * 1)) (.int .i64 (-8)); 
              I40 [.int .i64 (IntKind.i64.wrap (n38 + (1 : Int)))] w43 ∧ μ41 [.int .i64 (IntKind.i64.wrap (n38 + (1 : Int)))] w43 < μ41 [.int .i64 n38] w39)
              (∃ (I47 : List Value → World → Prop) (μ48 : List Value → World → Nat), I47 [.slice a20 l_a20 c_a20, .int .i64 0] w39 ∧ ∀ (w46 : World) (l44 : Option Addr) (l_l44 : Nat) (c_l44 : Nat) (i45 : Int), I47 [.slice l44 l_l44 c_l44, .int .i64 i45] w46 → 
              cond (decide (i45 < (20 : Int)))
                (let p49 : Nat := w46.heap.size; let w50 : World := w46.alloc (.cells #[.int .i64 (-7)] 3); 
                AppV Try.prog 58 co.ro [22, 22] [.slice l44 l_l44 c_l44, .slice (some ⟨p49, 0, none⟩) 1 1] (fun a51 l_a51 c_a51 w52 => 
                I47 [.slice a51 l_a51 c_a51, .int .i64 (IntKind.i64.wrap (i45 + (1 : Int)))] w52 ∧ μ48 [.slice a51 l_a51 c_a51, .int .i64 (IntKind.i64.wrap (i45 + (1 : Int)))] w52 < μ48 [.slice l44 l_l44 c_l44, .int .i64 i45] w46) w50)
                (CallsJ Try.prog co 16 #[.slice a23 l_a23 c_a23, .slice a8 l_a8 c_a8] w46 (fun e53 w54 => ∃ (b55 : Bool), e53 = (.bool b55) ∧ 
                cond b55
                  (∃ q56 : Addr, l44 = some q56 ∧ 0 ≤ ((l_a8 : Nat) : Int) ∧ ((l_a8 : Nat) : Int) < (l_l44 : Nat) ∧ 
                  ∃ (n57 : Int), w54.cell? (q56.add (((l_a8 : Nat) : Int).toNat * 1)) = some (.int .i64 n57) ∧ 
                  K (.bool (n57 == ((-7) : Int))) w54)
                  (K (.bool false) w54))))))
    0 ≤ ((l_a8 : Nat) : Int) ∧ ((l_a8 : Nat) : Int) ≤ (c_a15 : Nat) ∧ 
    CallsJ Try.prog co 16 #[.slice (subS a15 c_a15 0 1) ((((l_a8 : Nat) : Int).toNat) - 0) (c_a15 - 0), .slice a8 l_a8 c_a8] w22 (fun e24 w25 => ∃ (b26 : Bool), e24 = (.bool b26) ∧ 
    cond (!b26)
      (K31 true w25)
      (∃ q27 : Addr, a15 = some q27 ∧ 0 ≤ ((l_a8 : Nat) : Int) ∧ ((l_a8 : Nat) : Int) < (l_a15 : Nat) ∧ 
      ∃ (n28 : Int), w25.cell? (q27.add (((l_a8 : Nat) : Int).toNat * 1)) = some (.int .i64 n28) ∧ 
      K31 (n28 != (77 : Int)) w25))))) w14) w10)))
theorem sh7_eq (co : Co) (jobs1 : Option Addr) (l_jobs1 : Nat) (c_jobs1 : Nat) (hands2 : Int) (K : Value → World → Prop) (w : World) : denF (X false co) Try.f7 [.slice jobs1 l_jobs1 c_jobs1, .int .i64 hands2] K w = sh7 co jobs1 l_jobs1 c_jobs1 hands2 K w := by kernel_rfl
theorem c7 {co : Co} {jobs1 : Option Addr} {l_jobs1 : Nat} {c_jobs1 : Nat} {hands2 : Int} {w : World} {R : Value → World → Prop} (hC : Closed Try.prog 58 false co) (h : sh7 co jobs1 l_jobs1 c_jobs1 hands2 R w) : CallsJ Try.prog co 7 #[.slice jobs1 l_jobs1 c_jobs1, .int .i64 hands2] w R :=
  callOf false co hC Try.func7 (args := [.slice jobs1 l_jobs1 c_jobs1, .int .i64 hands2]) (Eq.mpr (sh7_eq co jobs1 l_jobs1 c_jobs1 hands2 _ w) h)

/-- bramble/bramblelaw06.awake -/
def sh8 (co : Co) (K : Value → World → Prop) (w : World) : Prop :=
  let p1 : Nat := w.heap.size; let w2 : World := w.alloc (.cells #[.int .i64 1, .int .i64 2, .int .i64 3, .int .i64 4] 3); 
  CallsJ Try.prog co 20 #[.slice (some ⟨p1, 0, none⟩) 4 4, .int .i64 3, .func (.func 21) #[] #[]] w2 (fun e3 w4 => ∃ (a5 : Option Addr), ∃ (l_a5 : Nat), ∃ (c_a5 : Nat), e3 = (.slice a5 l_a5 c_a5) ∧ 
  let p6 : Nat := w4.heap.size; let w7 : World := w4.alloc (.cells #[.int .i64 2, .int .i64 4, .int .i64 6, .int .i64 8] 3); 
  CallsJ Try.prog co 16 #[.slice a5 l_a5 c_a5, .slice (some ⟨p6, 0, none⟩) 4 4] w7 (fun e8 w9 => ∃ (b10 : Bool), e8 = (.bool b10) ∧ 
  K (.bool b10) w9))
theorem sh8_eq (co : Co) (K : Value → World → Prop) (w : World) : denF (X false co) Try.f8 [] K w = sh8 co  K w := by kernel_rfl
theorem c8 {co : Co} {w : World} {R : Value → World → Prop} (hC : Closed Try.prog 58 false co) (h : sh8 co  R w) : CallsJ Try.prog co 8 #[] w R :=
  callOf false co hC Try.func8 (args := []) (Eq.mpr (sh8_eq co  _ w) h)

/-- bramble/bramblelaw06.cut -/
def sh9 (co : Co) (jobs1 : Option Addr) (l_jobs1 : Nat) (c_jobs1 : Nat) (K : Value → World → Prop) (w : World) : Prop :=
  let p2 : Nat := w.heap.size; let w3 : World := w.alloc (.cells #[] 3); 
  0 ≤ (mnI ((l_jobs1 : Nat) : Int) (300 : Int)) ∧ (mnI ((l_jobs1 : Nat) : Int) (300 : Int)) ≤ (c_jobs1 : Nat) ∧ 
  AppV Try.prog 58 co.ro [22, 22] [.slice (some ⟨p2, 0, none⟩) 0 0, .slice (subS jobs1 c_jobs1 0 1) (((mnI ((l_jobs1 : Nat) : Int) (300 : Int)).toNat) - 0) (c_jobs1 - 0)] (fun a4 l_a4 c_a4 w5 => 
  K (.slice a4 l_a4 c_a4) w5) w3
theorem sh9_eq (co : Co) (jobs1 : Option Addr) (l_jobs1 : Nat) (c_jobs1 : Nat) (K : Value → World → Prop) (w : World) : denF (X false co) Try.f9 [.slice jobs1 l_jobs1 c_jobs1] K w = sh9 co jobs1 l_jobs1 c_jobs1 K w := by kernel_rfl
theorem c9 {co : Co} {jobs1 : Option Addr} {l_jobs1 : Nat} {c_jobs1 : Nat} {w : World} {R : Value → World → Prop} (hC : Closed Try.prog 58 false co) (h : sh9 co jobs1 l_jobs1 c_jobs1 R w) : CallsJ Try.prog co 9 #[.slice jobs1 l_jobs1 c_jobs1] w R :=
  callOf false co hC Try.func9 (args := [.slice jobs1 l_jobs1 c_jobs1]) (Eq.mpr (sh9_eq co jobs1 l_jobs1 c_jobs1 _ w) h)

/-- bramble/crew.All[int,string] -/
def sh10 (co : Co) (jobs1 : Option Addr) (l_jobs1 : Nat) (c_jobs1 : Nat) (hands2 : Int) (do3 : Value) (K : Value → World → Prop) (w : World) : Prop :=
  let p4 : Nat := w.heap.size; let w5 : World := w.alloc (.cells do3.cells 27); 
  CallsJ Try.prog co 22 #[.slice jobs1 l_jobs1 c_jobs1, .int .i64 hands2, .func (.func 23) #[] #[.pointer (some ⟨p4, 0, none⟩)]] w5 (fun e6 w7 => ∃ (a8 : Option Addr), ∃ (l_a8 : Nat), ∃ (c_a8 : Nat), ∃ (n9 : Int), ∃ (n10 : Int), e6 = (.tuple #[.slice a8 l_a8 c_a8, .int .i64 n9, .int .i64 n10]) ∧ 
  K (.slice a8 l_a8 c_a8) w7)
theorem sh10_eq (co : Co) (jobs1 : Option Addr) (l_jobs1 : Nat) (c_jobs1 : Nat) (hands2 : Int) (do3 : Value) (K : Value → World → Prop) (w : World) : denF (X false co) Try.f10 [.slice jobs1 l_jobs1 c_jobs1, .int .i64 hands2, do3] K w = sh10 co jobs1 l_jobs1 c_jobs1 hands2 do3 K w := by kernel_rfl
theorem c10 {co : Co} {jobs1 : Option Addr} {l_jobs1 : Nat} {c_jobs1 : Nat} {hands2 : Int} {do3 : Value} {w : World} {R : Value → World → Prop} (hC : Closed Try.prog 58 false co) (h : sh10 co jobs1 l_jobs1 c_jobs1 hands2 do3 R w) : CallsJ Try.prog co 10 #[.slice jobs1 l_jobs1 c_jobs1, .int .i64 hands2, do3] w R :=
  callOf false co hC Try.func10 (args := [.slice jobs1 l_jobs1 c_jobs1, .int .i64 hands2, do3]) (Eq.mpr (sh10_eq co jobs1 l_jobs1 c_jobs1 hands2 do3 _ w) h)

/-- bramble/bramblelaw06.CrewAll$1 -/
def sh11 (co : Co) (x1 : Int) (K : Value → World → Prop) (w : World) : Prop :=
  cond (decide (x1 < (0 : Int)))
    (K (.string ({ data := #[98, 101, 108, 111, 119] } : ByteArray)) w)
    ((6 : Int) ≠ 0 ∧ 
    0 ≤ (Int.tmod x1 (6 : Int)) ∧ (Int.tmod x1 (6 : Int)) ≤ (({ data := #[97, 98, 99, 100, 101, 102] } : ByteArray).size : Nat) ∧ 
    K (.string (({ data := #[97, 98, 99, 100, 101, 102] } : ByteArray).extract 0 ((Int.tmod x1 (6 : Int)).toNat))) w)
theorem sh11_eq (e : Bool) (co : Co) (x1 : Int) (K : Value → World → Prop) (w : World) : denF (X e co) Try.f11 [.int .i64 x1] K w = sh11 co x1 K w := by kernel_rfl
theorem c11 {e : Bool} {co : Co} {x1 : Int} {w : World} {R : Value → World → Prop} (hC : Closed Try.prog 58 e co) (h : sh11 co x1 R w) : CallsJ Try.prog co 11 #[.int .i64 x1] w R :=
  callOf e co hC Try.func11 (args := [.int .i64 x1]) (Eq.mpr (sh11_eq e co x1 _ w) h)

/-- bramble/bramblelaw06.CrewTries$1 -/
def sh13 (co : Co) (x1 : Int) (p2 : Addr) (K : Value → World → Prop) (w : World) : Prop :=
  ∃ (n3 : Int), w.cell? p2 = some (.int .i64 n3) ∧ 
  CallsJ Try.prog co 14 #[.int .i64 x1, .int .i64 n3] w (fun e4 w5 => ∃ (n6 : Int), ∃ (n7 : Int), e4 = (.tuple #[.int .i64 n6, .int .i64 n7]) ∧ 
  K (.tuple #[.int .i64 n6, .int .i64 n7]) w5)
theorem sh13_eq (e : Bool) (co : Co) (x1 : Int) (p2 : Addr) (K : Value → World → Prop) (w : World) : denF (X e co) Try.f13 [.int .i64 x1, .pointer (some p2)] K w = sh13 co x1 p2 K w := by kernel_rfl
theorem c13 {e : Bool} {co : Co} {x1 : Int} {p2 : Addr} {w : World} {R : Value → World → Prop} (hC : Closed Try.prog 58 e co) (h : sh13 co x1 p2 R w) : CallsJ Try.prog co 13 #[.int .i64 x1, .pointer (some p2)] w R :=
  callOf e co hC Try.func13 (args := [.int .i64 x1, .pointer (some p2)]) (Eq.mpr (sh13_eq e co x1 p2 _ w) h)

/-- bramble/brambleref06.Do -/
def sh14 (co : Co) (job1 : Int) (odd2 : Int) (K : Value → World → Prop) (w : World) : Prop :=
  let K5 : Bool → World → Prop := fun b3 w4 =>
      cond b3
        ((13 : Int) ≠ 0 ∧ 
        K (.tuple #[.int .i64 7, .int .i64 (IntKind.i64.wrap ((100 : Int) + (Int.tmod job1 (13 : Int))))]) w4)
        ((1000003 : Int) ≠ 0 ∧ 
        K (.tuple #[.int .i64 (IntKind.i64.wrap ((IntKind.i64.wrap ((3 : Int) * (Int.tmod job1 (1000003 : Int)))) + (1 : Int))), .int .i64 0]) w4)
  cond (decide (odd2 > (0 : Int)))
    (odd2 ≠ 0 ∧ 
    K5 ((Int.tmod job1 odd2) == (IntKind.i64.wrap (odd2 - (1 : Int)))) w)
    (K5 false w)
theorem sh14_eq (e : Bool) (co : Co) (job1 : Int) (odd2 : Int) (K : Value → World → Prop) (w : World) : denF (X e co) Try.f14 [.int .i64 job1, .int .i64 odd2] K w = sh14 co job1 odd2 K w := by kernel_rfl
theorem c14 {e : Bool} {co : Co} {job1 : Int} {odd2 : Int} {w : World} {R : Value → World → Prop} (hC : Closed Try.prog 58 e co) (h : sh14 co job1 odd2 R w) : CallsJ Try.prog co 14 #[.int .i64 job1, .int .i64 odd2] w R :=
  callOf e co hC Try.func14 (args := [.int .i64 job1, .int .i64 odd2]) (Eq.mpr (sh14_eq e co job1 odd2 _ w) h)

/-- bramble/brambleref06.Try -/
def sh15 (co : Co) (jobs1 : Option Addr) (l_jobs1 : Nat) (c_jobs1 : Nat) (odd2 : Int) (K : Value → World → Prop) (w : World) : Prop :=
  ∃ (I9 : List Value → World → Prop) (μ10 : List Value → World → Nat), I9 [.slice none 0 0, .int .i64 0, .int .i64 0, .slice none 0 0, .int .i64 0] w ∧ ∀ (w8 : World) (a3 : Option Addr) (l_a3 : Nat) (c_a3 : Nat) (n4 : Int) (n5 : Int) (out6 : Option Addr) (l_out6 : Nat) (c_out6 : Nat) (i7 : Int), I9 [.slice a3 l_a3 c_a3, .int .i64 n4, .int .i64 n5, .slice out6 l_out6 c_out6, .int .i64 i7] w8 → 
  cond (decide (i7 < ((l_jobs1 : Nat) : Int)))
    (∃ q11 : Addr, jobs1 = some q11 ∧ 0 ≤ i7 ∧ i7 < (l_jobs1 : Nat) ∧ 
    ∃ (n12 : Int), w8.cell? (q11.add (i7.toNat * 1)) = some (.int .i64 n12) ∧ 
    CallsJ Try.prog co 14 #[.int .i64 n12, .int .i64 odd2] w8 (fun e13 w14 => ∃ (n15 : Int), ∃ (n16 : Int), e13 = (.tuple #[.int .i64 n15, .int .i64 n16]) ∧ 
    cond (n16 != (0 : Int))
      (K (.tuple #[.slice none 0 0, .int .i64 i7, .int .i64 n16]) w14)
      (let p17 : Nat := w14.heap.size; let w18 : World := w14.alloc (.cells #[.int .i64 n15] 3); 
      AppV Try.prog 58 co.ro [22, 22] [.slice out6 l_out6 c_out6, .slice (some ⟨p17, 0, none⟩) 1 1] (fun a19 l_a19 c_a19 w20 => 
      I9 [.slice a3 l_a3 c_a3, .int .i64 n4, .int .i64 n5, .slice a19 l_a19 c_a19, .int .i64 (IntKind.i64.wrap (i7 + (1 : Int)))] w20 ∧ μ10 [.slice a3 l_a3 c_a3, .int .i64 n4, .int .i64 n5, .slice a19 l_a19 c_a19, .int .i64 (IntKind.i64.wrap (i7 + (1 : Int)))] w20 < μ10 [.slice a3 l_a3 c_a3, .int .i64 n4, .int .i64 n5, .slice out6 l_out6 c_out6, .int .i64 i7] w8) w18)))
    (K (.tuple #[.slice out6 l_out6 c_out6, .int .i64 0, .int .i64 0]) w8)
theorem sh15_eq (co : Co) (jobs1 : Option Addr) (l_jobs1 : Nat) (c_jobs1 : Nat) (odd2 : Int) (K : Value → World → Prop) (w : World) : denF (X false co) Try.f15 [.slice jobs1 l_jobs1 c_jobs1, .int .i64 odd2] K w = sh15 co jobs1 l_jobs1 c_jobs1 odd2 K w := by kernel_rfl
theorem c15 {co : Co} {jobs1 : Option Addr} {l_jobs1 : Nat} {c_jobs1 : Nat} {odd2 : Int} {w : World} {R : Value → World → Prop} (hC : Closed Try.prog 58 false co) (h : sh15 co jobs1 l_jobs1 c_jobs1 odd2 R w) : CallsJ Try.prog co 15 #[.slice jobs1 l_jobs1 c_jobs1, .int .i64 odd2] w R :=
  callOf false co hC Try.func15 (args := [.slice jobs1 l_jobs1 c_jobs1, .int .i64 odd2]) (Eq.mpr (sh15_eq co jobs1 l_jobs1 c_jobs1 odd2 _ w) h)

/-- bramble/brambleref06.Same -/
def sh16 (co : Co) (a1 : Option Addr) (l_a1 : Nat) (c_a1 : Nat) (b2 : Option Addr) (l_b2 : Nat) (c_b2 : Nat) (K : Value → World → Prop) (w : World) : Prop :=
  cond (((l_a1 : Nat) : Int) != ((l_b2 : Nat) : Int))
    (K (.bool false) w)
    (∃ (I6 : List Value → World → Prop) (μ7 : List Value → World → Nat), I6 [.bool false, .int .i64 0] w ∧ ∀ (w5 : World) (b3 : Bool) (n4 : Int), I6 [.bool b3, .int .i64 n4] w5 → 
    cond (decide (n4 < ((l_a1 : Nat) : Int)))
      (∃ q9 : Addr, a1 = some q9 ∧ 0 ≤ n4 ∧ n4 < (l_a1 : Nat) ∧ 
      ∃ (n10 : Int), w5.cell? (q9.add (n4.toNat * 1)) = some (.int .i64 n10) ∧ 
      ∃ q11 : Addr, b2 = some q11 ∧ 0 ≤ n4 ∧ n4 < (l_b2 : Nat) ∧ 
      ∃ (n12 : Int), w5.cell? (q11.add (n4.toNat * 1)) = some (.int .i64 n12) ∧ 
      cond (n10 != n12)
        (K (.bool false) w5)
        (I6 [.bool b3, .int .i64 (IntKind.i64.wrap (n4 + (1 : Int)))] w5 ∧ μ7 [.bool b3, .int .i64 (IntKind.i64.wrap (n4 + (1 : Int)))] w5 < μ7 [.bool b3, .int .i64 n4] w5))
      (K (.bool true) w5))
theorem sh16_eq (e : Bool) (co : Co) (a1 : Option Addr) (l_a1 : Nat) (c_a1 : Nat) (b2 : Option Addr) (l_b2 : Nat) (c_b2 : Nat) (K : Value → World → Prop) (w : World) : denF (X e co) Try.f16 [.slice a1 l_a1 c_a1, .slice b2 l_b2 c_b2] K w = sh16 co a1 l_a1 c_a1 b2 l_b2 c_b2 K w := by kernel_rfl
theorem c16 {e : Bool} {co : Co} {a1 : Option Addr} {l_a1 : Nat} {c_a1 : Nat} {b2 : Option Addr} {l_b2 : Nat} {c_b2 : Nat} {w : World} {R : Value → World → Prop} (hC : Closed Try.prog 58 e co) (h : sh16 co a1 l_a1 c_a1 b2 l_b2 c_b2 R w) : CallsJ Try.prog co 16 #[.slice a1 l_a1 c_a1, .slice b2 l_b2 c_b2] w R :=
  callOf e co hC Try.func16 (args := [.slice a1 l_a1 c_a1, .slice b2 l_b2 c_b2]) (Eq.mpr (sh16_eq e co a1 l_a1 c_a1 b2 l_b2 c_b2 _ w) h)

/-- bramble/bramblelaw06.CrewOne$1 -/
def sh17 (co : Co) (x1 : Int) (p2 : Addr) (p3 : Addr) (K : Value → World → Prop) (w : World) : Prop :=
  ∃ (a4 : Option Addr), ∃ (l_a4 : Nat), ∃ (c_a4 : Nat), w.cell? p2 = some (.slice a4 l_a4 c_a4) ∧ 
  let p5 : Nat := w.heap.size; let w6 : World := w.alloc (.cells #[.int .i64 x1] 3); 
  AppV Try.prog 58 co.ro [22, 22] [.slice a4 l_a4 c_a4, .slice (some ⟨p5, 0, none⟩) 1 1] (fun a7 l_a7 c_a7 w8 => 
  wr co.ro w8 p2 ∧ let w9 : World := w8.setCell p2 (.slice a7 l_a7 c_a7); 
  ∃ (n10 : Int), w9.cell? p3 = some (.int .i64 n10) ∧ 
  CallsJ Try.prog co 14 #[.int .i64 x1, .int .i64 n10] w9 (fun e11 w12 => ∃ (n13 : Int), ∃ (n14 : Int), e11 = (.tuple #[.int .i64 n13, .int .i64 n14]) ∧ 
  K (.tuple #[.int .i64 n13, .int .i64 n14]) w12)) w6
theorem sh17_eq (co : Co) (x1 : Int) (p2 : Addr) (p3 : Addr) (K : Value → World → Prop) (w : World) : denF (X false co) Try.f17 [.int .i64 x1, .pointer (some p2), .pointer (some p3)] K w = sh17 co x1 p2 p3 K w := by kernel_rfl
theorem c17 {co : Co} {x1 : Int} {p2 : Addr} {p3 : Addr} {w : World} {R : Value → World → Prop} (hC : Closed Try.prog 58 false co) (h : sh17 co x1 p2 p3 R w) : CallsJ Try.prog co 17 #[.int .i64 x1, .pointer (some p2), .pointer (some p3)] w R :=
  callOf false co hC Try.func17 (args := [.int .i64 x1, .pointer (some p2), .pointer (some p3)]) (Eq.mpr (sh17_eq co x1 p2 p3 _ w) h)

/-- bramble/bramblelaw06.CrewHands$1 -/
def sh18 (co : Co) (x1 : Int) (p2 : Addr) (K : Value → World → Prop) (w : World) : Prop :=
  ∃ (Odd3 : Int), w.cell? (p2.add 2) = some (.int .i64 Odd3) ∧ 
  CallsJ Try.prog co 14 #[.int .i64 x1, .int .i64 Odd3] w (fun e4 w5 => ∃ (n6 : Int), ∃ (n7 : Int), e4 = (.tuple #[.int .i64 n6, .int .i64 n7]) ∧ 
  K (.tuple #[.int .i64 n6, .int .i64 n7]) w5)
theorem sh18_eq (e : Bool) (co : Co) (x1 : Int) (p2 : Addr) (K : Value → World → Prop) (w : World) : denF (X e co) Try.f18 [.int .i64 x1, .pointer (some p2)] K w = sh18 co x1 p2 K w := by kernel_rfl
theorem c18 {e : Bool} {co : Co} {x1 : Int} {p2 : Addr} {w : World} {R : Value → World → Prop} (hC : Closed Try.prog 58 e co) (h : sh18 co x1 p2 R w) : CallsJ Try.prog co 18 #[.int .i64 x1, .pointer (some p2)] w R :=
  callOf e co hC Try.func18 (args := [.int .i64 x1, .pointer (some p2)]) (Eq.mpr (sh18_eq e co x1 p2 _ w) h)

/-- bramble/bramblelaw06.CrewOwn$1 -/
def sh19 (co : Co) (x1 : Int) (K : Value → World → Prop) (w : World) : Prop :=
  K (.int .i64 x1) w
theorem sh19_eq (e : Bool) (co : Co) (x1 : Int) (K : Value → World → Prop) (w : World) : denF (X e co) Try.f19 [.int .i64 x1] K w = sh19 co x1 K w := by kernel_rfl
theorem c19 {e : Bool} {co : Co} {x1 : Int} {w : World} {R : Value → World → Prop} (hC : Closed Try.prog 58 e co) (h : sh19 co x1 R w) : CallsJ Try.prog co 19 #[.int .i64 x1] w R :=
  callOf e co hC Try.func19 (args := [.int .i64 x1]) (Eq.mpr (sh19_eq e co x1 _ w) h)

/-- bramble/crew.All[int,int] -/
def sh20 (co : Co) (jobs1 : Option Addr) (l_jobs1 : Nat) (c_jobs1 : Nat) (hands2 : Int) (do3 : Value) (K : Value → World → Prop) (w : World) : Prop :=
  let p4 : Nat := w.heap.size; let w5 : World := w.alloc (.cells do3.cells 42); 
  CallsJ Try.prog co 12 #[.slice jobs1 l_jobs1 c_jobs1, .int .i64 hands2, .func (.func 28) #[] #[.pointer (some ⟨p4, 0, none⟩)]] w5 (fun e6 w7 => ∃ (a8 : Option Addr), ∃ (l_a8 : Nat), ∃ (c_a8 : Nat), ∃ (n9 : Int), ∃ (n10 : Int), e6 = (.tuple #[.slice a8 l_a8 c_a8, .int .i64 n9, .int .i64 n10]) ∧ 
  K (.slice a8 l_a8 c_a8) w7)
theorem sh20_eq (co : Co) (jobs1 : Option Addr) (l_jobs1 : Nat) (c_jobs1 : Nat) (hands2 : Int) (do3 : Value) (K : Value → World → Prop) (w : World) : denF (X false co) Try.f20 [.slice jobs1 l_jobs1 c_jobs1, .int .i64 hands2, do3] K w = sh20 co jobs1 l_jobs1 c_jobs1 hands2 do3 K w := by kernel_rfl
theorem c20 {co : Co} {jobs1 : Option Addr} {l_jobs1 : Nat} {c_jobs1 : Nat} {hands2 : Int} {do3 : Value} {w : World} {R : Value → World → Prop} (hC : Closed Try.prog 58 false co) (h : sh20 co jobs1 l_jobs1 c_jobs1 hands2 do3 R w) : CallsJ Try.prog co 20 #[.slice jobs1 l_jobs1 c_jobs1, .int .i64 hands2, do3] w R :=
  callOf false co hC Try.func20 (args := [.slice jobs1 l_jobs1 c_jobs1, .int .i64 hands2, do3]) (Eq.mpr (sh20_eq co jobs1 l_jobs1 c_jobs1 hands2 do3 _ w) h)

/-- bramble/bramblelaw06.awake$1 -/
def sh21 (co : Co) (x1 : Int) (K : Value → World → Prop) (w : World) : Prop :=
  K (.int .i64 (IntKind.i64.wrap ((2 : Int) * x1))) w
theorem sh21_eq (e : Bool) (co : Co) (x1 : Int) (K : Value → World → Prop) (w : World) : denF (X e co) Try.f21 [.int .i64 x1] K w = sh21 co x1 K w := by kernel_rfl
theorem c21 {e : Bool} {co : Co} {x1 : Int} {w : World} {R : Value → World → Prop} (hC : Closed Try.prog 58 e co) (h : sh21 co x1 R w) : CallsJ Try.prog co 21 #[.int .i64 x1] w R :=
  callOf e co hC Try.func21 (args := [.int .i64 x1]) (Eq.mpr (sh21_eq e co x1 _ w) h)

/-- bramble/crew.All[int,string]$1 -/
def sh23 (co : Co) (x1 : Int) (p2 : Addr) (K : Value → World → Prop) (w : World) : Prop :=
  ∃ (v3 : Value), w.cell? p2 = some (v3) ∧ 
  optP (asFn v3) fun r4 => cond (cl r4.1) (
  CallsJ Try.prog co r4.1 (r4.2.1.toList ++ ([.int .i64 x1] : List Value) ++ r4.2.2.toList).toArray w (fun e6 w7 => ∃ (s8 : ByteArray), e6 = (.string s8) ∧ 
  K (.tuple #[.string s8, .int .i64 0]) w7)) False
theorem sh23_eq (e : Bool) (co : Co) (x1 : Int) (p2 : Addr) (K : Value → World → Prop) (w : World) : denF (X e co) Try.f23 [.int .i64 x1, .pointer (some p2)] K w = sh23 co x1 p2 K w := by kernel_rfl
theorem c23 {e : Bool} {co : Co} {x1 : Int} {p2 : Addr} {w : World} {R : Value → World → Prop} (hC : Closed Try.prog 58 e co) (h : sh23 co x1 p2 R w) : CallsJ Try.prog co 23 #[.int .i64 x1, .pointer (some p2)] w R :=
  callOf e co hC Try.func23 (args := [.int .i64 x1, .pointer (some p2)]) (Eq.mpr (sh23_eq e co x1 p2 _ w) h)

/-- bramble/crew.All[int,int]$1 -/
def sh28 (co : Co) (x1 : Int) (p2 : Addr) (K : Value → World → Prop) (w : World) : Prop :=
  ∃ (v3 : Value), w.cell? p2 = some (v3) ∧ 
  optP (asFn v3) fun r4 => cond (cl r4.1) (
  CallsJ Try.prog co r4.1 (r4.2.1.toList ++ ([.int .i64 x1] : List Value) ++ r4.2.2.toList).toArray w (fun e6 w7 => ∃ (n8 : Int), e6 = (.int .i64 n8) ∧ 
  K (.tuple #[.int .i64 n8, .int .i64 0]) w7)) False
theorem sh28_eq (e : Bool) (co : Co) (x1 : Int) (p2 : Addr) (K : Value → World → Prop) (w : World) : denF (X e co) Try.f28 [.int .i64 x1, .pointer (some p2)] K w = sh28 co x1 p2 K w := by kernel_rfl
theorem c28 {e : Bool} {co : Co} {x1 : Int} {p2 : Addr} {w : World} {R : Value → World → Prop} (hC : Closed Try.prog 58 e co) (h : sh28 co x1 p2 R w) : CallsJ Try.prog co 28 #[.int .i64 x1, .pointer (some p2)] w R :=
  callOf e co hC Try.func28 (args := [.int .i64 x1, .pointer (some p2)]) (Eq.mpr (sh28_eq e co x1 p2 _ w) h)

end Go.Proofs.Ytmkgnbcpcfojfaa
