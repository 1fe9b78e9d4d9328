/- Pieces of the code of function 12 and of its workers (25); printed by a program of this session (gopiece.py). -/
import Derived.Test.YtmkgnbcpcfojfaaCvX
import Derived.Test.YtmkgnbcpcfojfaaCwP
set_option linter.unusedVariables false
set_option maxRecDepth 100000
namespace Go.Proofs.Ytmkgnbcpcfojfaa
open Go Go.Cv Go.Conc
noncomputable def n12_ : Code := bodyOf Try.f12
noncomputable def n12_a : Code := sA n12_
noncomputable def n12_b : Code := sB n12_
noncomputable def n12_ba : Code := sA n12_b
noncomputable def n12_bb : Code := sB n12_b
noncomputable def n12_bba : Code := sA n12_bb
noncomputable def n12_bbb : Code := sB n12_bb
noncomputable def n12_bbba : Code := sA n12_bbb
noncomputable def n12_bbbb : Code := sB n12_bbb
noncomputable def n12_bbbaa : Code := sA n12_bbba
noncomputable def n12_bbbab : Code := sB n12_bbba
noncomputable def n12_bbbba : Code := sA n12_bbbb
noncomputable def n12_bbbbb : Code := sB n12_bbbb
noncomputable def n12_bbbabk : Code := kB n12_bbbab
noncomputable def n12_bbbbba : Code := sA n12_bbbbb
noncomputable def n12_bbbbbb : Code := sB n12_bbbbb
noncomputable def n12_bbbabkl : Code := lB n12_bbbabk
noncomputable def n12_bbbbbaa : Code := sA n12_bbbbba
noncomputable def n12_bbbbbab : Code := sB n12_bbbbba
noncomputable def n12_bbbbbba : Code := sA n12_bbbbbb
noncomputable def n12_bbbbbbb : Code := sB n12_bbbbbb
noncomputable def n12_bbbabkla : Code := sA n12_bbbabkl
noncomputable def n12_bbbabklb : Code := sB n12_bbbabkl
noncomputable def n12_bbbbbabk : Code := kB n12_bbbbbab
noncomputable def n12_bbbbbbba : Code := sA n12_bbbbbbb
noncomputable def n12_bbbbbbbb : Code := sB n12_bbbbbbb
noncomputable def n12_bbbabklba : Code := sA n12_bbbabklb
noncomputable def n12_bbbabklbb : Code := sB n12_bbbabklb
noncomputable def n12_bbbbbabkl : Code := lB n12_bbbbbabk
noncomputable def n12_bbbbbbbba : Code := sA n12_bbbbbbbb
noncomputable def n12_bbbbbbbbb : Code := sB n12_bbbbbbbb
noncomputable def n12_bbbabklbae : Code := cE n12_bbbabklba
noncomputable def n12_bbbabklbat : Code := cT n12_bbbabklba
noncomputable def n12_bbbabklbba : Code := sA n12_bbbabklbb
noncomputable def n12_bbbabklbbb : Code := sB n12_bbbabklbb
noncomputable def n12_bbbbbabkla : Code := sA n12_bbbbbabkl
noncomputable def n12_bbbbbabklb : Code := sB n12_bbbbbabkl
noncomputable def n12_bbbbbbbbaa : Code := sA n12_bbbbbbbba
noncomputable def n12_bbbbbbbbab : Code := sB n12_bbbbbbbba
noncomputable def n12_bbbbbbbbba : Code := sA n12_bbbbbbbbb
noncomputable def n12_bbbbbbbbbb : Code := sB n12_bbbbbbbbb
noncomputable def n12_bbbabklbbak : Code := kB n12_bbbabklbba
noncomputable def n12_bbbbbabklaa : Code := sA n12_bbbbbabkla
noncomputable def n12_bbbbbabklab : Code := sB n12_bbbbbabkla
noncomputable def n12_bbbbbabklbk : Code := kB n12_bbbbbabklb
noncomputable def n12_bbbbbbbbabe : Code := cE n12_bbbbbbbbab
noncomputable def n12_bbbbbbbbabt : Code := cT n12_bbbbbbbbab
noncomputable def n12_bbbabklbbaka : Code := sA n12_bbbabklbbak
noncomputable def n12_bbbabklbbakb : Code := sB n12_bbbabklbbak
noncomputable def n12_bbbbbabklbka : Code := sA n12_bbbbbabklbk
noncomputable def n12_bbbbbabklbkb : Code := sB n12_bbbbbabklbk
noncomputable def n12_bbbbbbbbabta : Code := sA n12_bbbbbbbbabt
noncomputable def n12_bbbbbbbbabtb : Code := sB n12_bbbbbbbbabt
noncomputable def n12_bbbbbabklbkba : Code := sA n12_bbbbbabklbkb
noncomputable def n12_bbbbbabklbkbb : Code := sB n12_bbbbbabklbkb
noncomputable def n12_bbbbbabklbkbaa : Code := sA n12_bbbbbabklbkba
noncomputable def n12_bbbbbabklbkbab : Code := sB n12_bbbbbabklbkba
noncomputable def n12_bbbbbabklbkbba : Code := sA n12_bbbbbabklbkbb
noncomputable def n12_bbbbbabklbkbbb : Code := sB n12_bbbbbabklbkbb
noncomputable def n12_bbbbbabklbkbbaa : Code := sA n12_bbbbbabklbkbba
noncomputable def n12_bbbbbabklbkbbab : Code := sB n12_bbbbbabklbkbba
noncomputable def n12_bbbbbabklbkbbba : Code := sA n12_bbbbbabklbkbbb
noncomputable def n12_bbbbbabklbkbbbb : Code := sB n12_bbbbbabklbkbbb
noncomputable def n12_bbbbbabklbkbbbbk : Code := kB n12_bbbbbabklbkbbbb
noncomputable def n12_bbbbbabklbkbbbbke : Code := cE n12_bbbbbabklbkbbbbk
noncomputable def n12_bbbbbabklbkbbbbkt : Code := cT n12_bbbbbabklbkbbbbk
noncomputable def n12_bbbbbabklbkbbbbkta : Code := sA n12_bbbbbabklbkbbbbkt
noncomputable def n12_bbbbbabklbkbbbbktb : Code := sB n12_bbbbbabklbkbbbbkt
theorem e12_ : n12_ = .seq n12_a n12_b := by kernel_rfl
noncomputable def o12_a : Array Oper := rO n12_a
theorem e12_a : n12_a = .region 0 o12_a false := by kernel_rfl
theorem z12_a : List.range o12_a.size = [0, 1, 2, 3, 4] := by kernel_rfl
theorem e12_b : n12_b = .seq n12_ba n12_bb := by kernel_rfl
noncomputable def o12_ba : Array Oper := rO n12_ba
theorem e12_ba : n12_ba = .region 1 o12_ba true := by kernel_rfl
theorem z12_ba : List.range o12_ba.size = [0, 1, 2, 3, 4, 5] := by kernel_rfl
theorem e12_bb : n12_bb = .seq n12_bba n12_bbb := by kernel_rfl
noncomputable def o12_bba : Array Oper := rO n12_bba
theorem e12_bba : n12_bba = .region 2 o12_bba false := by kernel_rfl
theorem z12_bba : List.range o12_bba.size = [0] := by kernel_rfl
theorem e12_bbb : n12_bbb = .seq n12_bbba n12_bbbb := by kernel_rfl
theorem e12_bbba : n12_bbba = .seq n12_bbbaa n12_bbbab := by kernel_rfl
theorem e12_bbbb : n12_bbbb = .seq n12_bbbba n12_bbbbb := by kernel_rfl
noncomputable def o12_bbbaa : Array Oper := rO n12_bbbaa
theorem e12_bbbaa : n12_bbbaa = .region 3 o12_bbbaa false := by kernel_rfl
theorem z12_bbbaa : List.range o12_bbbaa.size = [0, 1, 2, 3, 4, 5] := by kernel_rfl
theorem e12_bbbab : n12_bbbab = .block 0 n12_bbbabk := by kernel_rfl
noncomputable def o12_bbbba : Array Oper := rO n12_bbbba
theorem e12_bbbba : n12_bbbba = .region 8 o12_bbbba true := by kernel_rfl
theorem z12_bbbba : List.range o12_bbbba.size = [0, 1, 2, 3, 4, 5, 6, 7] := by kernel_rfl
theorem e12_bbbbb : n12_bbbbb = .seq n12_bbbbba n12_bbbbbb := by kernel_rfl
theorem e12_bbbabk : n12_bbbabk = .loop n12_bbbabkl := by kernel_rfl
theorem e12_bbbbba : n12_bbbbba = .seq n12_bbbbbaa n12_bbbbbab := by kernel_rfl
theorem e12_bbbbbb : n12_bbbbbb = .seq n12_bbbbbba n12_bbbbbbb := by kernel_rfl
theorem e12_bbbabkl : n12_bbbabkl = .seq n12_bbbabkla n12_bbbabklb := by kernel_rfl
noncomputable def o12_bbbbbaa : Array Oper := rO n12_bbbbbaa
theorem e12_bbbbbaa : n12_bbbbbaa = .region 9 o12_bbbbbaa false := by kernel_rfl
theorem z12_bbbbbaa : List.range o12_bbbbbaa.size = [0, 1] := by kernel_rfl
theorem e12_bbbbbab : n12_bbbbbab = .block 2 n12_bbbbbabk := by kernel_rfl
noncomputable def o12_bbbbbba : Array Oper := rO n12_bbbbbba
theorem e12_bbbbbba : n12_bbbbbba = .region 25 o12_bbbbbba false := by kernel_rfl
theorem z12_bbbbbba : List.range o12_bbbbbba.size = [0, 1] := by kernel_rfl
theorem e12_bbbbbbb : n12_bbbbbbb = .seq n12_bbbbbbba n12_bbbbbbbb := by kernel_rfl
noncomputable def o12_bbbabkla : Array Oper := rO n12_bbbabkla
theorem e12_bbbabkla : n12_bbbabkla = .region 4 o12_bbbabkla false := by kernel_rfl
theorem z12_bbbabkla : List.range o12_bbbabkla.size = [0] := by kernel_rfl
theorem e12_bbbabklb : n12_bbbabklb = .seq n12_bbbabklba n12_bbbabklbb := by kernel_rfl
theorem e12_bbbbbabk : n12_bbbbbabk = .loop n12_bbbbbabkl := by kernel_rfl
noncomputable def o12_bbbbbbba : Array Oper := rO n12_bbbbbbba
theorem e12_bbbbbbba : n12_bbbbbbba = .region 26 o12_bbbbbbba false := by kernel_rfl
theorem z12_bbbbbbba : List.range o12_bbbbbbba.size = [0] := by kernel_rfl
theorem e12_bbbbbbbb : n12_bbbbbbbb = .seq n12_bbbbbbbba n12_bbbbbbbbb := by kernel_rfl
theorem e12_bbbabklba : n12_bbbabklba = .cond (.tmp 27) n12_bbbabklbat n12_bbbabklbae := by kernel_rfl
theorem e12_bbbabklbb : n12_bbbabklbb = .seq n12_bbbabklbba n12_bbbabklbbb := by kernel_rfl
theorem e12_bbbbbabkl : n12_bbbbbabkl = .seq n12_bbbbbabkla n12_bbbbbabklb := by kernel_rfl
theorem e12_bbbbbbbba : n12_bbbbbbbba = .seq n12_bbbbbbbbaa n12_bbbbbbbbab := by kernel_rfl
theorem e12_bbbbbbbbb : n12_bbbbbbbbb = .seq n12_bbbbbbbbba n12_bbbbbbbbbb := by kernel_rfl
theorem e12_bbbabklbba : n12_bbbabklbba = .block 1 n12_bbbabklbbak := by kernel_rfl
noncomputable def o12_bbbabklbbb : Array Oper := rO n12_bbbabklbbb
theorem e12_bbbabklbbb : n12_bbbabklbbb = .region 7 o12_bbbabklbbb false := by kernel_rfl
theorem z12_bbbabklbbb : List.range o12_bbbabklbbb.size = [0, 1] := by kernel_rfl
theorem e12_bbbbbabkla : n12_bbbbbabkla = .seq n12_bbbbbabklaa n12_bbbbbabklab := by kernel_rfl
theorem e12_bbbbbabklb : n12_bbbbbabklb = .block 3 n12_bbbbbabklbk := by kernel_rfl
noncomputable def o12_bbbbbbbbaa : Array Oper := rO n12_bbbbbbbbaa
theorem e12_bbbbbbbbaa : n12_bbbbbbbbaa = .region 27 o12_bbbbbbbbaa false := by kernel_rfl
theorem z12_bbbbbbbbaa : List.range o12_bbbbbbbbaa.size = [0, 1] := by kernel_rfl
theorem e12_bbbbbbbbab : n12_bbbbbbbbab = .cond (.tmp 83) n12_bbbbbbbbabt n12_bbbbbbbbabe := by kernel_rfl
theorem e12_bbbabklbbak : n12_bbbabklbbak = .seq n12_bbbabklbbaka n12_bbbabklbbakb := by kernel_rfl
theorem e12_bbbbbabklbk : n12_bbbbbabklbk = .seq n12_bbbbbabklbka n12_bbbbbabklbkb := by kernel_rfl
theorem e12_bbbbbbbbabt : n12_bbbbbbbbabt = .seq n12_bbbbbbbbabta n12_bbbbbbbbabtb := by kernel_rfl
noncomputable def o12_bbbabklbbaka : Array Oper := rO n12_bbbabklbbaka
theorem e12_bbbabklbbaka : n12_bbbabklbbaka = .region 5 o12_bbbabklbbaka false := by kernel_rfl
theorem z12_bbbabklbbaka : List.range o12_bbbabklbbaka.size = [0] := by kernel_rfl
noncomputable def o12_bbbabklbbakb : Array Oper := rO n12_bbbabklbbakb
theorem e12_bbbabklbbakb : n12_bbbabklbbakb = .region 6 o12_bbbabklbbakb false := by kernel_rfl
theorem z12_bbbabklbbakb : List.range o12_bbbabklbbakb.size = [0, 1] := by kernel_rfl
noncomputable def o12_bbbbbabklbka : Array Oper := rO n12_bbbbbabklbka
theorem e12_bbbbbabklbka : n12_bbbbbabklbka = .region 11 o12_bbbbbabklbka false := by kernel_rfl
theorem z12_bbbbbabklbka : List.range o12_bbbbbabklbka.size = [0, 1] := by kernel_rfl
theorem e12_bbbbbabklbkb : n12_bbbbbabklbkb = .seq n12_bbbbbabklbkba n12_bbbbbabklbkbb := by kernel_rfl
theorem e12_bbbbbabklbkba : n12_bbbbbabklbkba = .seq n12_bbbbbabklbkbaa n12_bbbbbabklbkbab := by kernel_rfl
theorem e12_bbbbbabklbkbb : n12_bbbbbabklbkbb = .seq n12_bbbbbabklbkbba n12_bbbbbabklbkbbb := by kernel_rfl
theorem e12_bbbbbabklbkbba : n12_bbbbbabklbkbba = .seq n12_bbbbbabklbkbbaa n12_bbbbbabklbkbbab := by kernel_rfl
theorem e12_bbbbbabklbkbbb : n12_bbbbbabklbkbbb = .seq n12_bbbbbabklbkbbba n12_bbbbbabklbkbbbb := by kernel_rfl
noncomputable def o12_bbbbbabklbkbbba : Array Oper := rO n12_bbbbbabklbkbbba
theorem e12_bbbbbabklbkbbba : n12_bbbbbabklbkbbba = .region 17 o12_bbbbbabklbkbbba false := by kernel_rfl
theorem z12_bbbbbabklbkbbba : List.range o12_bbbbbabklbkbbba.size = [0, 1, 2, 3] := by kernel_rfl
theorem e12_bbbbbabklbkbbbb : n12_bbbbbabklbkbbbb = .block 4 n12_bbbbbabklbkbbbbk := by kernel_rfl
theorem e12_bbbbbabklbkbbbbk : n12_bbbbbabklbkbbbbk = .cond (.tmp 52) n12_bbbbbabklbkbbbbkt n12_bbbbbabklbkbbbbke := by kernel_rfl
theorem e12_bbbbbabklbkbbbbkt : n12_bbbbbabklbkbbbbkt = .seq n12_bbbbbabklbkbbbbkta n12_bbbbbabklbkbbbbktb := by kernel_rfl
noncomputable def n25_ : Code := bodyOf Try.f25
noncomputable def n25_a : Code := sA n25_
noncomputable def n25_b : Code := sB n25_
noncomputable def n25_ba : Code := sA n25_b
noncomputable def n25_bb : Code := sB n25_b
noncomputable def n25_bbk : Code := kB n25_bb
noncomputable def n25_bbkl : Code := lB n25_bbk
noncomputable def n25_bbkla : Code := sA n25_bbkl
noncomputable def n25_bbklb : Code := sB n25_bbkl
noncomputable def n25_bbklba : Code := sA n25_bbklb
noncomputable def n25_bbklbb : Code := sB n25_bbklb
noncomputable def n25_bbklbae : Code := cE n25_bbklba
noncomputable def n25_bbklbat : Code := cT n25_bbklba
noncomputable def n25_bbklbbk : Code := kB n25_bbklbb
noncomputable def n25_bbklbbka : Code := sA n25_bbklbbk
noncomputable def n25_bbklbbkb : Code := sB n25_bbklbbk
noncomputable def n25_bbklbbkba : Code := sA n25_bbklbbkb
noncomputable def n25_bbklbbkbb : Code := sB n25_bbklbbkb
theorem e25_ : n25_ = .seq n25_a n25_b := by kernel_rfl
noncomputable def o25_a : Array Oper := rO n25_a
theorem e25_a : n25_a = .region 0 o25_a false := by kernel_rfl
theorem z25_a : List.range o25_a.size = [0] := by kernel_rfl
theorem e25_b : n25_b = .seq n25_ba n25_bb := by kernel_rfl
noncomputable def o25_ba : Array Oper := rO n25_ba
theorem e25_ba : n25_ba = .region 1 o25_ba false := by kernel_rfl
theorem z25_ba : List.range o25_ba.size = [0] := by kernel_rfl
theorem e25_bb : n25_bb = .block 0 n25_bbk := by kernel_rfl
theorem e25_bbk : n25_bbk = .loop n25_bbkl := by kernel_rfl
theorem e25_bbkl : n25_bbkl = .seq n25_bbkla n25_bbklb := by kernel_rfl
noncomputable def o25_bbkla : Array Oper := rO n25_bbkla
theorem e25_bbkla : n25_bbkla = .region 2 o25_bbkla false := by kernel_rfl
theorem z25_bbkla : List.range o25_bbkla.size = [0, 1] := by kernel_rfl
theorem e25_bbklb : n25_bbklb = .seq n25_bbklba n25_bbklbb := by kernel_rfl
theorem e25_bbklba : n25_bbklba = .cond (.tmp 10) n25_bbklbat n25_bbklbae := by kernel_rfl
theorem e25_bbklbb : n25_bbklbb = .block 1 n25_bbklbbk := by kernel_rfl
theorem e25_bbklbbk : n25_bbklbbk = .seq n25_bbklbbka n25_bbklbbkb := by kernel_rfl
noncomputable def o25_bbklbbka : Array Oper := rO n25_bbklbbka
theorem e25_bbklbbka : n25_bbklbbka = .region 3 o25_bbklbbka false := by kernel_rfl
theorem z25_bbklbbka : List.range o25_bbklbbka.size = [0, 1] := by kernel_rfl
theorem e25_bbklbbkb : n25_bbklbbkb = .seq n25_bbklbbkba n25_bbklbbkbb := by kernel_rfl
noncomputable def o25_bbklbbkba : Array Oper := rO n25_bbklbbkba
theorem e25_bbklbbkba : n25_bbklbbkba = .region 4 o25_bbklbbkba true := by kernel_rfl
theorem z25_bbklbbkba : List.range o25_bbklbbkba.size = [0, 1, 2, 3, 4, 5, 6, 7, 8, 9, 10] := by kernel_rfl
noncomputable def o25_bbklbbkbb : Array Oper := rO n25_bbklbbkbb
theorem e25_bbklbbkbb : n25_bbklbbkbb = .region 5 o25_bbklbbkbb false := by kernel_rfl
theorem z25_bbklbbkbb : List.range o25_bbklbbkbb.size = [0, 1, 2, 3, 4, 5] := by kernel_rfl
/-- f12 a -/
def pA12 (co : Co) (jobs : Option Addr) (l_jobs : Nat) (c_jobs : Nat) (hands : Int) (fdo : Value) (KK : Exit → List Value → World → Prop) (w : World) : Prop :=
  let p1 : Nat := w.heap.size; let w2 : World := w.alloc (.cells #[.slice jobs l_jobs c_jobs] 22); 
  let p3 : Nat := w2.heap.size; let w4 : World := w2.alloc (.cells fdo.cells 34); 
  KK .normal [.int .i64 hands, .pointer (some ⟨p1, 0, none⟩), .pointer (some ⟨p3, 0, none⟩)] w4
theorem pA12_eq (co : Co) (jobs : Option Addr) (l_jobs : Nat) (c_jobs : Nat) (hands : Int) (fdo : Value) (KK : Exit → List Value → World → Prop) (w : World) : den { X false co with n := 87 } n12_a (envL [(0, .slice jobs l_jobs c_jobs), (1, .int .i64 hands), (2, fdo)]) (fun e σ w => getL σ [1, 3, 5] fun vs => KK e vs w) w = pA12 co jobs l_jobs c_jobs hands fdo KK w := by kernel_rfl
theorem pA12_J {co : Co} {b : Frame} {k : List Item} {cs : List Frame} {a : Act} {ds : List Deferred} {W : World} {jobs : Option Addr} {l_jobs : Nat} {c_jobs : Nat} {hands : Int} {fdo : Value} (hC : Closed Try.prog 58 false co) (hk : b.kind ≠ .early) (ha : Slots 87 ds a [(0, .slice jobs l_jobs c_jobs), (1, .int .i64 hands), (2, fdo)]) (KK : Exit → List Value → World → Prop) (hd : pA12 co jobs l_jobs c_jobs hands fdo KK W)
    (hK : ∀ e a' W' vs, KK e vs W' → Slots 87 ds a' ([1, 3, 5].zip vs) → AfterJ co b k cs e a' W') : co.J (G (b.at a (.code n12_a :: k)) cs) W :=
  J_piece (X := { X false co with n := 87 }) (okn _ _ _) hC hk (L := [1, 3, 5]) ha (Eq.mpr (pA12_eq co jobs l_jobs c_jobs hands fdo KK W) hd) fun e a' W' vs h1 _ h3 => hK e a' W' vs h1 h3
/-- f12 ba -/
def pB12 (co : Co) (hands : Int) (jv : Addr) (dv : Addr) (KK : Exit → List Value → World → Prop) (w : World) : Prop :=
  (let p2 : Nat := w.heap.size; let w3 : World := w.alloc hidC; 
    (let p4 : Nat := w3.heap.size; let w5 : World := w3.alloc hidC; 
      (let p6 : Nat := w5.heap.size; let w7 : World := w5.alloc (.cells #[.chan none] 47); 
        let p8 : Nat := w7.heap.size; let w9 : World := w7.alloc (.cells #[.chan none] 48); 
        wr co.ro w9 (⟨p6, 0, none⟩ : Addr) ∧ let w10 : World := w9.setCell (⟨p6, 0, none⟩ : Addr) (.chan (some p2)); 
        wr co.ro w10 (⟨p8, 0, none⟩ : Addr) ∧ let w11 : World := w10.setCell (⟨p8, 0, none⟩ : Addr) (.chan (some p4)); 
        KK .normal [.int .i64 hands, .pointer (some jv), .pointer (some dv), .pointer (some ⟨p6, 0, none⟩), .pointer (some ⟨p8, 0, none⟩)] w11)
      ∧ (let p12 : Nat := w5.heap.size; let w13 : World := w5.alloc (.cells #[.chan none] 48); 
        let p14 : Nat := w13.heap.size; let w15 : World := w13.alloc (.cells #[.chan none] 47); 
        wr co.ro w15 (⟨p14, 0, none⟩ : Addr) ∧ let w16 : World := w15.setCell (⟨p14, 0, none⟩ : Addr) (.chan (some p2)); 
        wr co.ro w16 (⟨p12, 0, none⟩ : Addr) ∧ let w17 : World := w16.setCell (⟨p12, 0, none⟩ : Addr) (.chan (some p4)); 
        KK .normal [.int .i64 hands, .pointer (some jv), .pointer (some dv), .pointer (some ⟨p14, 0, none⟩), .pointer (some ⟨p12, 0, none⟩)] w17))
    ∧ (let p18 : Nat := w3.heap.size; let w19 : World := w3.alloc (.cells #[.chan none] 47); 
      (let p20 : Nat := w19.heap.size; let w21 : World := w19.alloc hidC; 
        let p22 : Nat := w21.heap.size; let w23 : World := w21.alloc (.cells #[.chan none] 48); 
        wr co.ro w23 (⟨p18, 0, none⟩ : Addr) ∧ let w24 : World := w23.setCell (⟨p18, 0, none⟩ : Addr) (.chan (some p2)); 
        wr co.ro w24 (⟨p22, 0, none⟩ : Addr) ∧ let w25 : World := w24.setCell (⟨p22, 0, none⟩ : Addr) (.chan (some p20)); 
        KK .normal [.int .i64 hands, .pointer (some jv), .pointer (some dv), .pointer (some ⟨p18, 0, none⟩), .pointer (some ⟨p22, 0, none⟩)] w25)
      ∧ (let p26 : Nat := w19.heap.size; let w27 : World := w19.alloc (.cells #[.chan none] 48); 
        (let p28 : Nat := w27.heap.size; let w29 : World := w27.alloc hidC; 
          wr co.ro w29 (⟨p18, 0, none⟩ : Addr) ∧ let w30 : World := w29.setCell (⟨p18, 0, none⟩ : Addr) (.chan (some p2)); 
          wr co.ro w30 (⟨p26, 0, none⟩ : Addr) ∧ let w31 : World := w30.setCell (⟨p26, 0, none⟩ : Addr) (.chan (some p28)); 
          KK .normal [.int .i64 hands, .pointer (some jv), .pointer (some dv), .pointer (some ⟨p18, 0, none⟩), .pointer (some ⟨p26, 0, none⟩)] w31)
        ∧ (wr co.ro w27 (⟨p18, 0, none⟩ : Addr) ∧ let w32 : World := w27.setCell (⟨p18, 0, none⟩ : Addr) (.chan (some p2)); 
          let p33 : Nat := w32.heap.size; let w34 : World := w32.alloc hidC; 
          wr co.ro w34 (⟨p26, 0, none⟩ : Addr) ∧ let w35 : World := w34.setCell (⟨p26, 0, none⟩ : Addr) (.chan (some p33)); 
          KK .normal [.int .i64 hands, .pointer (some jv), .pointer (some dv), .pointer (some ⟨p18, 0, none⟩), .pointer (some ⟨p26, 0, none⟩)] w35)))
    ∧ (let p36 : Nat := w3.heap.size; let w37 : World := w3.alloc (.cells #[.chan none] 48); 
      (let p38 : Nat := w37.heap.size; let w39 : World := w37.alloc hidC; 
        let p40 : Nat := w39.heap.size; let w41 : World := w39.alloc (.cells #[.chan none] 47); 
        wr co.ro w41 (⟨p40, 0, none⟩ : Addr) ∧ let w42 : World := w41.setCell (⟨p40, 0, none⟩ : Addr) (.chan (some p2)); 
        wr co.ro w42 (⟨p36, 0, none⟩ : Addr) ∧ let w43 : World := w42.setCell (⟨p36, 0, none⟩ : Addr) (.chan (some p38)); 
        KK .normal [.int .i64 hands, .pointer (some jv), .pointer (some dv), .pointer (some ⟨p40, 0, none⟩), .pointer (some ⟨p36, 0, none⟩)] w43)
      ∧ (let p44 : Nat := w37.heap.size; let w45 : World := w37.alloc (.cells #[.chan none] 47); 
        (let p46 : Nat := w45.heap.size; let w47 : World := w45.alloc hidC; 
          wr co.ro w47 (⟨p44, 0, none⟩ : Addr) ∧ let w48 : World := w47.setCell (⟨p44, 0, none⟩ : Addr) (.chan (some p2)); 
          wr co.ro w48 (⟨p36, 0, none⟩ : Addr) ∧ let w49 : World := w48.setCell (⟨p36, 0, none⟩ : Addr) (.chan (some p46)); 
          KK .normal [.int .i64 hands, .pointer (some jv), .pointer (some dv), .pointer (some ⟨p44, 0, none⟩), .pointer (some ⟨p36, 0, none⟩)] w49)
        ∧ (wr co.ro w45 (⟨p44, 0, none⟩ : Addr) ∧ let w50 : World := w45.setCell (⟨p44, 0, none⟩ : Addr) (.chan (some p2)); 
          let p51 : Nat := w50.heap.size; let w52 : World := w50.alloc hidC; 
          wr co.ro w52 (⟨p36, 0, none⟩ : Addr) ∧ let w53 : World := w52.setCell (⟨p36, 0, none⟩ : Addr) (.chan (some p51)); 
          KK .normal [.int .i64 hands, .pointer (some jv), .pointer (some dv), .pointer (some ⟨p44, 0, none⟩), .pointer (some ⟨p36, 0, none⟩)] w53))))
  ∧ (let p54 : Nat := w.heap.size; let w55 : World := w.alloc hidC; 
    (let p56 : Nat := w55.heap.size; let w57 : World := w55.alloc hidC; 
      (let p58 : Nat := w57.heap.size; let w59 : World := w57.alloc (.cells #[.chan none] 47); 
        let p60 : Nat := w59.heap.size; let w61 : World := w59.alloc (.cells #[.chan none] 48); 
        wr co.ro w61 (⟨p58, 0, none⟩ : Addr) ∧ let w62 : World := w61.setCell (⟨p58, 0, none⟩ : Addr) (.chan (some p56)); 
        wr co.ro w62 (⟨p60, 0, none⟩ : Addr) ∧ let w63 : World := w62.setCell (⟨p60, 0, none⟩ : Addr) (.chan (some p54)); 
        KK .normal [.int .i64 hands, .pointer (some jv), .pointer (some dv), .pointer (some ⟨p58, 0, none⟩), .pointer (some ⟨p60, 0, none⟩)] w63)
      ∧ (let p64 : Nat := w57.heap.size; let w65 : World := w57.alloc (.cells #[.chan none] 48); 
        let p66 : Nat := w65.heap.size; let w67 : World := w65.alloc (.cells #[.chan none] 47); 
        wr co.ro w67 (⟨p66, 0, none⟩ : Addr) ∧ let w68 : World := w67.setCell (⟨p66, 0, none⟩ : Addr) (.chan (some p56)); 
        wr co.ro w68 (⟨p64, 0, none⟩ : Addr) ∧ let w69 : World := w68.setCell (⟨p64, 0, none⟩ : Addr) (.chan (some p54)); 
        KK .normal [.int .i64 hands, .pointer (some jv), .pointer (some dv), .pointer (some ⟨p66, 0, none⟩), .pointer (some ⟨p64, 0, none⟩)] w69))
    ∧ (let p70 : Nat := w55.heap.size; let w71 : World := w55.alloc (.cells #[.chan none] 47); 
      (let p72 : Nat := w71.heap.size; let w73 : World := w71.alloc hidC; 
        let p74 : Nat := w73.heap.size; let w75 : World := w73.alloc (.cells #[.chan none] 48); 
        wr co.ro w75 (⟨p70, 0, none⟩ : Addr) ∧ let w76 : World := w75.setCell (⟨p70, 0, none⟩ : Addr) (.chan (some p72)); 
        wr co.ro w76 (⟨p74, 0, none⟩ : Addr) ∧ let w77 : World := w76.setCell (⟨p74, 0, none⟩ : Addr) (.chan (some p54)); 
        KK .normal [.int .i64 hands, .pointer (some jv), .pointer (some dv), .pointer (some ⟨p70, 0, none⟩), .pointer (some ⟨p74, 0, none⟩)] w77)
      ∧ (let p78 : Nat := w71.heap.size; let w79 : World := w71.alloc (.cells #[.chan none] 48); 
        let p80 : Nat := w79.heap.size; let w81 : World := w79.alloc hidC; 
        wr co.ro w81 (⟨p70, 0, none⟩ : Addr) ∧ let w82 : World := w81.setCell (⟨p70, 0, none⟩ : Addr) (.chan (some p80)); 
        wr co.ro w82 (⟨p78, 0, none⟩ : Addr) ∧ let w83 : World := w82.setCell (⟨p78, 0, none⟩ : Addr) (.chan (some p54)); 
        KK .normal [.int .i64 hands, .pointer (some jv), .pointer (some dv), .pointer (some ⟨p70, 0, none⟩), .pointer (some ⟨p78, 0, none⟩)] w83))
    ∧ (let p84 : Nat := w55.heap.size; let w85 : World := w55.alloc (.cells #[.chan none] 48); 
      (let p86 : Nat := w85.heap.size; let w87 : World := w85.alloc hidC; 
        let p88 : Nat := w87.heap.size; let w89 : World := w87.alloc (.cells #[.chan none] 47); 
        wr co.ro w89 (⟨p88, 0, none⟩ : Addr) ∧ let w90 : World := w89.setCell (⟨p88, 0, none⟩ : Addr) (.chan (some p86)); 
        wr co.ro w90 (⟨p84, 0, none⟩ : Addr) ∧ let w91 : World := w90.setCell (⟨p84, 0, none⟩ : Addr) (.chan (some p54)); 
        KK .normal [.int .i64 hands, .pointer (some jv), .pointer (some dv), .pointer (some ⟨p88, 0, none⟩), .pointer (some ⟨p84, 0, none⟩)] w91)
      ∧ (let p92 : Nat := w85.heap.size; let w93 : World := w85.alloc (.cells #[.chan none] 47); 
        let p94 : Nat := w93.heap.size; let w95 : World := w93.alloc hidC; 
        wr co.ro w95 (⟨p92, 0, none⟩ : Addr) ∧ let w96 : World := w95.setCell (⟨p92, 0, none⟩ : Addr) (.chan (some p94)); 
        wr co.ro w96 (⟨p84, 0, none⟩ : Addr) ∧ let w97 : World := w96.setCell (⟨p84, 0, none⟩ : Addr) (.chan (some p54)); 
        KK .normal [.int .i64 hands, .pointer (some jv), .pointer (some dv), .pointer (some ⟨p92, 0, none⟩), .pointer (some ⟨p84, 0, none⟩)] w97)))
  ∧ (let p98 : Nat := w.heap.size; let w99 : World := w.alloc (.cells #[.chan none] 47); 
    (let p100 : Nat := w99.heap.size; let w101 : World := w99.alloc hidC; 
      (let p102 : Nat := w101.heap.size; let w103 : World := w101.alloc hidC; 
        let p104 : Nat := w103.heap.size; let w105 : World := w103.alloc (.cells #[.chan none] 48); 
        wr co.ro w105 (⟨p98, 0, none⟩ : Addr) ∧ let w106 : World := w105.setCell (⟨p98, 0, none⟩ : Addr) (.chan (some p100)); 
        wr co.ro w106 (⟨p104, 0, none⟩ : Addr) ∧ let w107 : World := w106.setCell (⟨p104, 0, none⟩ : Addr) (.chan (some p102)); 
        KK .normal [.int .i64 hands, .pointer (some jv), .pointer (some dv), .pointer (some ⟨p98, 0, none⟩), .pointer (some ⟨p104, 0, none⟩)] w107)
      ∧ (let p108 : Nat := w101.heap.size; let w109 : World := w101.alloc (.cells #[.chan none] 48); 
        (let p110 : Nat := w109.heap.size; let w111 : World := w109.alloc hidC; 
          wr co.ro w111 (⟨p98, 0, none⟩ : Addr) ∧ let w112 : World := w111.setCell (⟨p98, 0, none⟩ : Addr) (.chan (some p100)); 
          wr co.ro w112 (⟨p108, 0, none⟩ : Addr) ∧ let w113 : World := w112.setCell (⟨p108, 0, none⟩ : Addr) (.chan (some p110)); 
          KK .normal [.int .i64 hands, .pointer (some jv), .pointer (some dv), .pointer (some ⟨p98, 0, none⟩), .pointer (some ⟨p108, 0, none⟩)] w113)
        ∧ (wr co.ro w109 (⟨p98, 0, none⟩ : Addr) ∧ let w114 : World := w109.setCell (⟨p98, 0, none⟩ : Addr) (.chan (some p100)); 
          let p115 : Nat := w114.heap.size; let w116 : World := w114.alloc hidC; 
          wr co.ro w116 (⟨p108, 0, none⟩ : Addr) ∧ let w117 : World := w116.setCell (⟨p108, 0, none⟩ : Addr) (.chan (some p115)); 
          KK .normal [.int .i64 hands, .pointer (some jv), .pointer (some dv), .pointer (some ⟨p98, 0, none⟩), .pointer (some ⟨p108, 0, none⟩)] w117)))
    ∧ (let p118 : Nat := w99.heap.size; let w119 : World := w99.alloc hidC; 
      (let p120 : Nat := w119.heap.size; let w121 : World := w119.alloc hidC; 
        let p122 : Nat := w121.heap.size; let w123 : World := w121.alloc (.cells #[.chan none] 48); 
        wr co.ro w123 (⟨p98, 0, none⟩ : Addr) ∧ let w124 : World := w123.setCell (⟨p98, 0, none⟩ : Addr) (.chan (some p120)); 
        wr co.ro w124 (⟨p122, 0, none⟩ : Addr) ∧ let w125 : World := w124.setCell (⟨p122, 0, none⟩ : Addr) (.chan (some p118)); 
        KK .normal [.int .i64 hands, .pointer (some jv), .pointer (some dv), .pointer (some ⟨p98, 0, none⟩), .pointer (some ⟨p122, 0, none⟩)] w125)
      ∧ (let p126 : Nat := w119.heap.size; let w127 : World := w119.alloc (.cells #[.chan none] 48); 
        let p128 : Nat := w127.heap.size; let w129 : World := w127.alloc hidC; 
        wr co.ro w129 (⟨p98, 0, none⟩ : Addr) ∧ let w130 : World := w129.setCell (⟨p98, 0, none⟩ : Addr) (.chan (some p128)); 
        wr co.ro w130 (⟨p126, 0, none⟩ : Addr) ∧ let w131 : World := w130.setCell (⟨p126, 0, none⟩ : Addr) (.chan (some p118)); 
        KK .normal [.int .i64 hands, .pointer (some jv), .pointer (some dv), .pointer (some ⟨p98, 0, none⟩), .pointer (some ⟨p126, 0, none⟩)] w131))
    ∧ (let p132 : Nat := w99.heap.size; let w133 : World := w99.alloc (.cells #[.chan none] 48); 
      (let p134 : Nat := w133.heap.size; let w135 : World := w133.alloc hidC; 
        (let p136 : Nat := w135.heap.size; let w137 : World := w135.alloc hidC; 
          wr co.ro w137 (⟨p98, 0, none⟩ : Addr) ∧ let w138 : World := w137.setCell (⟨p98, 0, none⟩ : Addr) (.chan (some p134)); 
          wr co.ro w138 (⟨p132, 0, none⟩ : Addr) ∧ let w139 : World := w138.setCell (⟨p132, 0, none⟩ : Addr) (.chan (some p136)); 
          KK .normal [.int .i64 hands, .pointer (some jv), .pointer (some dv), .pointer (some ⟨p98, 0, none⟩), .pointer (some ⟨p132, 0, none⟩)] w139)
        ∧ (wr co.ro w135 (⟨p98, 0, none⟩ : Addr) ∧ let w140 : World := w135.setCell (⟨p98, 0, none⟩ : Addr) (.chan (some p134)); 
          let p141 : Nat := w140.heap.size; let w142 : World := w140.alloc hidC; 
          wr co.ro w142 (⟨p132, 0, none⟩ : Addr) ∧ let w143 : World := w142.setCell (⟨p132, 0, none⟩ : Addr) (.chan (some p141)); 
          KK .normal [.int .i64 hands, .pointer (some jv), .pointer (some dv), .pointer (some ⟨p98, 0, none⟩), .pointer (some ⟨p132, 0, none⟩)] w143))
      ∧ (let p144 : Nat := w133.heap.size; let w145 : World := w133.alloc hidC; 
        let p146 : Nat := w145.heap.size; let w147 : World := w145.alloc hidC; 
        wr co.ro w147 (⟨p98, 0, none⟩ : Addr) ∧ let w148 : World := w147.setCell (⟨p98, 0, none⟩ : Addr) (.chan (some p146)); 
        wr co.ro w148 (⟨p132, 0, none⟩ : Addr) ∧ let w149 : World := w148.setCell (⟨p132, 0, none⟩ : Addr) (.chan (some p144)); 
        KK .normal [.int .i64 hands, .pointer (some jv), .pointer (some dv), .pointer (some ⟨p98, 0, none⟩), .pointer (some ⟨p132, 0, none⟩)] w149)))
  ∧ (let p150 : Nat := w.heap.size; let w151 : World := w.alloc (.cells #[.chan none] 48); 
    (let p152 : Nat := w151.heap.size; let w153 : World := w151.alloc hidC; 
      (let p154 : Nat := w153.heap.size; let w155 : World := w153.alloc hidC; 
        let p156 : Nat := w155.heap.size; let w157 : World := w155.alloc (.cells #[.chan none] 47); 
        wr co.ro w157 (⟨p156, 0, none⟩ : Addr) ∧ let w158 : World := w157.setCell (⟨p156, 0, none⟩ : Addr) (.chan (some p152)); 
        wr co.ro w158 (⟨p150, 0, none⟩ : Addr) ∧ let w159 : World := w158.setCell (⟨p150, 0, none⟩ : Addr) (.chan (some p154)); 
        KK .normal [.int .i64 hands, .pointer (some jv), .pointer (some dv), .pointer (some ⟨p156, 0, none⟩), .pointer (some ⟨p150, 0, none⟩)] w159)
      ∧ (let p160 : Nat := w153.heap.size; let w161 : World := w153.alloc (.cells #[.chan none] 47); 
        (let p162 : Nat := w161.heap.size; let w163 : World := w161.alloc hidC; 
          wr co.ro w163 (⟨p160, 0, none⟩ : Addr) ∧ let w164 : World := w163.setCell (⟨p160, 0, none⟩ : Addr) (.chan (some p152)); 
          wr co.ro w164 (⟨p150, 0, none⟩ : Addr) ∧ let w165 : World := w164.setCell (⟨p150, 0, none⟩ : Addr) (.chan (some p162)); 
          KK .normal [.int .i64 hands, .pointer (some jv), .pointer (some dv), .pointer (some ⟨p160, 0, none⟩), .pointer (some ⟨p150, 0, none⟩)] w165)
        ∧ (wr co.ro w161 (⟨p160, 0, none⟩ : Addr) ∧ let w166 : World := w161.setCell (⟨p160, 0, none⟩ : Addr) (.chan (some p152)); 
          let p167 : Nat := w166.heap.size; let w168 : World := w166.alloc hidC; 
          wr co.ro w168 (⟨p150, 0, none⟩ : Addr) ∧ let w169 : World := w168.setCell (⟨p150, 0, none⟩ : Addr) (.chan (some p167)); 
          KK .normal [.int .i64 hands, .pointer (some jv), .pointer (some dv), .pointer (some ⟨p160, 0, none⟩), .pointer (some ⟨p150, 0, none⟩)] w169)))
    ∧ (let p170 : Nat := w151.heap.size; let w171 : World := w151.alloc hidC; 
      (let p172 : Nat := w171.heap.size; let w173 : World := w171.alloc hidC; 
        let p174 : Nat := w173.heap.size; let w175 : World := w173.alloc (.cells #[.chan none] 47); 
        wr co.ro w175 (⟨p174, 0, none⟩ : Addr) ∧ let w176 : World := w175.setCell (⟨p174, 0, none⟩ : Addr) (.chan (some p172)); 
        wr co.ro w176 (⟨p150, 0, none⟩ : Addr) ∧ let w177 : World := w176.setCell (⟨p150, 0, none⟩ : Addr) (.chan (some p170)); 
        KK .normal [.int .i64 hands, .pointer (some jv), .pointer (some dv), .pointer (some ⟨p174, 0, none⟩), .pointer (some ⟨p150, 0, none⟩)] w177)
      ∧ (let p178 : Nat := w171.heap.size; let w179 : World := w171.alloc (.cells #[.chan none] 47); 
        let p180 : Nat := w179.heap.size; let w181 : World := w179.alloc hidC; 
        wr co.ro w181 (⟨p178, 0, none⟩ : Addr) ∧ let w182 : World := w181.setCell (⟨p178, 0, none⟩ : Addr) (.chan (some p180)); 
        wr co.ro w182 (⟨p150, 0, none⟩ : Addr) ∧ let w183 : World := w182.setCell (⟨p150, 0, none⟩ : Addr) (.chan (some p170)); 
        KK .normal [.int .i64 hands, .pointer (some jv), .pointer (some dv), .pointer (some ⟨p178, 0, none⟩), .pointer (some ⟨p150, 0, none⟩)] w183))
    ∧ (let p184 : Nat := w151.heap.size; let w185 : World := w151.alloc (.cells #[.chan none] 47); 
      (let p186 : Nat := w185.heap.size; let w187 : World := w185.alloc hidC; 
        (let p188 : Nat := w187.heap.size; let w189 : World := w187.alloc hidC; 
          wr co.ro w189 (⟨p184, 0, none⟩ : Addr) ∧ let w190 : World := w189.setCell (⟨p184, 0, none⟩ : Addr) (.chan (some p186)); 
          wr co.ro w190 (⟨p150, 0, none⟩ : Addr) ∧ let w191 : World := w190.setCell (⟨p150, 0, none⟩ : Addr) (.chan (some p188)); 
          KK .normal [.int .i64 hands, .pointer (some jv), .pointer (some dv), .pointer (some ⟨p184, 0, none⟩), .pointer (some ⟨p150, 0, none⟩)] w191)
        ∧ (wr co.ro w187 (⟨p184, 0, none⟩ : Addr) ∧ let w192 : World := w187.setCell (⟨p184, 0, none⟩ : Addr) (.chan (some p186)); 
          let p193 : Nat := w192.heap.size; let w194 : World := w192.alloc hidC; 
          wr co.ro w194 (⟨p150, 0, none⟩ : Addr) ∧ let w195 : World := w194.setCell (⟨p150, 0, none⟩ : Addr) (.chan (some p193)); 
          KK .normal [.int .i64 hands, .pointer (some jv), .pointer (some dv), .pointer (some ⟨p184, 0, none⟩), .pointer (some ⟨p150, 0, none⟩)] w195))
      ∧ (let p196 : Nat := w185.heap.size; let w197 : World := w185.alloc hidC; 
        let p198 : Nat := w197.heap.size; let w199 : World := w197.alloc hidC; 
        wr co.ro w199 (⟨p184, 0, none⟩ : Addr) ∧ let w200 : World := w199.setCell (⟨p184, 0, none⟩ : Addr) (.chan (some p198)); 
        wr co.ro w200 (⟨p150, 0, none⟩ : Addr) ∧ let w201 : World := w200.setCell (⟨p150, 0, none⟩ : Addr) (.chan (some p196)); 
        KK .normal [.int .i64 hands, .pointer (some jv), .pointer (some dv), .pointer (some ⟨p184, 0, none⟩), .pointer (some ⟨p150, 0, none⟩)] w201)))
theorem pB12_eq (co : Co) (hands : Int) (jv : Addr) (dv : Addr) (KK : Exit → List Value → World → Prop) (w : World) : den { X false co with n := 87 } n12_ba (envL [(1, .int .i64 hands), (3, .pointer (some jv)), (5, .pointer (some dv))]) (fun e σ w => getL σ [1, 3, 5, 9, 10] fun vs => KK e vs w) w = pB12 co hands jv dv KK w := by kernel_rfl
theorem pB12_J {co : Co} {b : Frame} {k : List Item} {cs : List Frame} {a : Act} {ds : List Deferred} {W : World} {hands : Int} {jv : Addr} {dv : Addr} (hC : Closed Try.prog 58 false co) (hk : b.kind ≠ .early) (ha : Slots 87 ds a [(1, .int .i64 hands), (3, .pointer (some jv)), (5, .pointer (some dv))]) (KK : Exit → List Value → World → Prop) (hd : pB12 co hands jv dv KK W)
    (hK : ∀ e a' W' vs, KK e vs W' → Slots 87 ds a' ([1, 3, 5, 9, 10].zip vs) → AfterJ co b k cs e a' W') : co.J (G (b.at a (.code n12_ba :: k)) cs) W :=
  J_piece (X := { X false co with n := 87 }) (okn _ _ _) hC hk (L := [1, 3, 5, 9, 10]) ha (Eq.mpr (pB12_eq co hands jv dv KK W) hd) fun e a' W' vs h1 _ h3 => hK e a' W' vs h1 h3
/-- f12 bbbaa -/
def pC12 (co : Co) (hands : Int) (jv : Addr) (dv : Addr) (tv : Addr) (rv : Addr) (wg : Addr) (KK : Exit → List Value → World → Prop) (w : World) : Prop :=
  ∃ (jobs1 : Option Addr), ∃ (l_jobs1 : Nat), ∃ (c_jobs1 : Nat), w.cell? jv = some (.slice jobs1 l_jobs1 c_jobs1) ∧ 
  KK .normal [.pointer (some jv), .pointer (some dv), .pointer (some tv), .pointer (some rv), .pointer (some wg), .int .i64 (mnI (mnI (mxI hands (1 : Int)) (64 : Int)) ((l_jobs1 : Nat) : Int)), .int .i64 0] w
theorem pC12_eq (e : Bool) (co : Co) (hands : Int) (jv : Addr) (dv : Addr) (tv : Addr) (rv : Addr) (wg : Addr) (KK : Exit → List Value → World → Prop) (w : World) : den { X e co with n := 87 } n12_bbbaa (envL [(1, .int .i64 hands), (3, .pointer (some jv)), (5, .pointer (some dv)), (9, .pointer (some tv)), (10, .pointer (some rv)), (11, .pointer (some wg))]) (fun e σ w => getL σ [3, 5, 9, 10, 11, 25, 26] fun vs => KK e vs w) w = pC12 co hands jv dv tv rv wg KK w := by kernel_rfl
theorem pC12_J {e : Bool} {co : Co} {b : Frame} {k : List Item} {cs : List Frame} {a : Act} {ds : List Deferred} {W : World} {hands : Int} {jv : Addr} {dv : Addr} {tv : Addr} {rv : Addr} {wg : Addr} (hC : Closed Try.prog 58 e co) (hk : b.kind ≠ .early) (ha : Slots 87 ds a [(1, .int .i64 hands), (3, .pointer (some jv)), (5, .pointer (some dv)), (9, .pointer (some tv)), (10, .pointer (some rv)), (11, .pointer (some wg))]) (KK : Exit → List Value → World → Prop) (hd : pC12 co hands jv dv tv rv wg KK W)
    (hK : ∀ e a' W' vs, KK e vs W' → Slots 87 ds a' ([3, 5, 9, 10, 11, 25, 26].zip vs) → AfterJ co b k cs e a' W') : co.J (G (b.at a (.code n12_bbbaa :: k)) cs) W :=
  J_piece (X := { X e co with n := 87 }) (okn _ _ _) hC hk (L := [3, 5, 9, 10, 11, 25, 26]) ha (Eq.mpr (pC12_eq e co hands jv dv tv rv wg KK W) hd) fun e a' W' vs h1 _ h3 => hK e a' W' vs h1 h3
/-- f12 bbbabkla -/
def pD12 (co : Co) (jv : Addr) (dv : Addr) (tv : Addr) (rv : Addr) (wg : Addr) (hn : Int) (hj : Int) (KK : Exit → List Value → World → Prop) (w : World) : Prop :=
  KK .normal [.pointer (some jv), .pointer (some dv), .pointer (some tv), .pointer (some rv), .pointer (some wg), .int .i64 hn, .int .i64 hj, .bool (decide (hj < hn))] w
theorem pD12_eq (e : Bool) (co : Co) (jv : Addr) (dv : Addr) (tv : Addr) (rv : Addr) (wg : Addr) (hn : Int) (hj : Int) (KK : Exit → List Value → World → Prop) (w : World) : den { X e co with n := 87 } n12_bbbabkla (envL [(3, .pointer (some jv)), (5, .pointer (some dv)), (9, .pointer (some tv)), (10, .pointer (some rv)), (11, .pointer (some wg)), (25, .int .i64 hn), (26, .int .i64 hj)]) (fun e σ w => getL σ [3, 5, 9, 10, 11, 25, 26, 27] fun vs => KK e vs w) w = pD12 co jv dv tv rv wg hn hj KK w := by kernel_rfl
theorem pD12_J {e : Bool} {co : Co} {b : Frame} {k : List Item} {cs : List Frame} {a : Act} {ds : List Deferred} {W : World} {jv : Addr} {dv : Addr} {tv : Addr} {rv : Addr} {wg : Addr} {hn : Int} {hj : Int} (hC : Closed Try.prog 58 e co) (hk : b.kind ≠ .early) (ha : Slots 87 ds a [(3, .pointer (some jv)), (5, .pointer (some dv)), (9, .pointer (some tv)), (10, .pointer (some rv)), (11, .pointer (some wg)), (25, .int .i64 hn), (26, .int .i64 hj)]) (KK : Exit → List Value → World → Prop) (hd : pD12 co jv dv tv rv wg hn hj KK W)
    (hK : ∀ e a' W' vs, KK e vs W' → Slots 87 ds a' ([3, 5, 9, 10, 11, 25, 26, 27].zip vs) → AfterJ co b k cs e a' W') : co.J (G (b.at a (.code n12_bbbabkla :: k)) cs) W :=
  J_piece (X := { X e co with n := 87 }) (okn _ _ _) hC hk (L := [3, 5, 9, 10, 11, 25, 26, 27]) ha (Eq.mpr (pD12_eq e co jv dv tv rv wg hn hj KK W) hd) fun e a' W' vs h1 _ h3 => hK e a' W' vs h1 h3
/-- f12 bbbabklbbb -/
def pE12 (co : Co) (jv : Addr) (dv : Addr) (tv : Addr) (rv : Addr) (wg : Addr) (hn : Int) (hj : Int) (KK : Exit → List Value → World → Prop) (w : World) : Prop :=
  KK .normal [.pointer (some jv), .pointer (some dv), .pointer (some tv), .pointer (some rv), .pointer (some wg), .int .i64 hn, .int .i64 (IntKind.i64.wrap (hj + (1 : Int)))] w
theorem pE12_eq (e : Bool) (co : Co) (jv : Addr) (dv : Addr) (tv : Addr) (rv : Addr) (wg : Addr) (hn : Int) (hj : Int) (KK : Exit → List Value → World → Prop) (w : World) : den { X e co with n := 87 } n12_bbbabklbbb (envL [(3, .pointer (some jv)), (5, .pointer (some dv)), (9, .pointer (some tv)), (10, .pointer (some rv)), (11, .pointer (some wg)), (25, .int .i64 hn), (26, .int .i64 hj)]) (fun e σ w => getL σ [3, 5, 9, 10, 11, 25, 26] fun vs => KK e vs w) w = pE12 co jv dv tv rv wg hn hj KK w := by kernel_rfl
theorem pE12_J {e : Bool} {co : Co} {b : Frame} {k : List Item} {cs : List Frame} {a : Act} {ds : List Deferred} {W : World} {jv : Addr} {dv : Addr} {tv : Addr} {rv : Addr} {wg : Addr} {hn : Int} {hj : Int} (hC : Closed Try.prog 58 e co) (hk : b.kind ≠ .early) (ha : Slots 87 ds a [(3, .pointer (some jv)), (5, .pointer (some dv)), (9, .pointer (some tv)), (10, .pointer (some rv)), (11, .pointer (some wg)), (25, .int .i64 hn), (26, .int .i64 hj)]) (KK : Exit → List Value → World → Prop) (hd : pE12 co jv dv tv rv wg hn hj KK W)
    (hK : ∀ e a' W' vs, KK e vs W' → Slots 87 ds a' ([3, 5, 9, 10, 11, 25, 26].zip vs) → AfterJ co b k cs e a' W') : co.J (G (b.at a (.code n12_bbbabklbbb :: k)) cs) W :=
  J_piece (X := { X e co with n := 87 }) (okn _ _ _) hC hk (L := [3, 5, 9, 10, 11, 25, 26]) ha (Eq.mpr (pE12_eq e co jv dv tv rv wg hn hj KK W) hd) fun e a' W' vs h1 _ h3 => hK e a' W' vs h1 h3
/-- f12 bbbba -/
def pF12 (co : Co) (jv : Addr) (tv : Addr) (rv : Addr) (wg : Addr) (KK : Exit → List Value → World → Prop) (w : World) : Prop :=
  ∃ (jobs2 : Option Addr), ∃ (l_jobs2 : Nat), ∃ (c_jobs2 : Nat), w.cell? jv = some (.slice jobs2 l_jobs2 c_jobs2) ∧ 
  ∃ (jobs3 : Option Addr), ∃ (l_jobs3 : Nat), ∃ (c_jobs3 : Nat), w.cell? jv = some (.slice jobs3 l_jobs3 c_jobs3) ∧ 
  MkV Try.prog 58 22 (.int .i64 ((l_jobs2 : Nat) : Int)) (.int .i64 ((l_jobs2 : Nat) : Int)) (fun a4 l_a4 c_a4 w5 => 
  (∃ (jobs6 : Option Addr), ∃ (l_jobs6 : Nat), ∃ (c_jobs6 : Nat), w5.cell? jv = some (.slice jobs6 l_jobs6 c_jobs6) ∧ 
    (some (.slice jobs3 l_jobs3 c_jobs3) : Option Value) = some (.slice jobs6 l_jobs6 c_jobs6))
  ∧ (KK .normal [.pointer (some tv), .pointer (some rv), .pointer (some wg), .slice a4 l_a4 c_a4, .int .i64 ((l_jobs3 : Nat) : Int), .int .i64 0] w5)) w
theorem pF12_eq (co : Co) (jv : Addr) (tv : Addr) (rv : Addr) (wg : Addr) (KK : Exit → List Value → World → Prop) (w : World) : den { X false co with n := 87 } n12_bbbba (envL [(3, .pointer (some jv)), (9, .pointer (some tv)), (10, .pointer (some rv)), (11, .pointer (some wg))]) (fun e σ w => getL σ [9, 10, 11, 12, 13, 14] fun vs => KK e vs w) w = pF12 co jv tv rv wg KK w := by kernel_rfl
theorem pF12_J {co : Co} {b : Frame} {k : List Item} {cs : List Frame} {a : Act} {ds : List Deferred} {W : World} {jv : Addr} {tv : Addr} {rv : Addr} {wg : Addr} (hC : Closed Try.prog 58 false co) (hk : b.kind ≠ .early) (ha : Slots 87 ds a [(3, .pointer (some jv)), (9, .pointer (some tv)), (10, .pointer (some rv)), (11, .pointer (some wg))]) (KK : Exit → List Value → World → Prop) (hd : pF12 co jv tv rv wg KK W)
    (hK : ∀ e a' W' vs, KK e vs W' → Slots 87 ds a' ([9, 10, 11, 12, 13, 14].zip vs) → AfterJ co b k cs e a' W') : co.J (G (b.at a (.code n12_bbbba :: k)) cs) W :=
  J_piece (X := { X false co with n := 87 }) (okn _ _ _) hC hk (L := [9, 10, 11, 12, 13, 14]) ha (Eq.mpr (pF12_eq co jv tv rv wg KK W) hd) fun e a' W' vs h1 _ h3 => hK e a' W' vs h1 h3
/-- f12 bbbbbaa -/
def pG12 (co : Co) (tv : Addr) (rv : Addr) (wg : Addr) (out : Option Addr) (l_out : Nat) (c_out : Nat) (en : Int) (code : Int) (KK : Exit → List Value → World → Prop) (w : World) : Prop :=
  KK .normal [.pointer (some tv), .pointer (some rv), .pointer (some wg), .slice out l_out c_out, .int .i64 en, .int .i64 code, .int .i64 0, .int .i64 0] w
theorem pG12_eq (e : Bool) (co : Co) (tv : Addr) (rv : Addr) (wg : Addr) (out : Option Addr) (l_out : Nat) (c_out : Nat) (en : Int) (code : Int) (KK : Exit → List Value → World → Prop) (w : World) : den { X e co with n := 87 } n12_bbbbbaa (envL [(9, .pointer (some tv)), (10, .pointer (some rv)), (11, .pointer (some wg)), (12, .slice out l_out c_out), (13, .int .i64 en), (14, .int .i64 code)]) (fun e σ w => getL σ [9, 10, 11, 12, 13, 14, 15, 16] fun vs => KK e vs w) w = pG12 co tv rv wg out l_out c_out en code KK w := by kernel_rfl
theorem pG12_J {e : Bool} {co : Co} {b : Frame} {k : List Item} {cs : List Frame} {a : Act} {ds : List Deferred} {W : World} {tv : Addr} {rv : Addr} {wg : Addr} {out : Option Addr} {l_out : Nat} {c_out : Nat} {en : Int} {code : Int} (hC : Closed Try.prog 58 e co) (hk : b.kind ≠ .early) (ha : Slots 87 ds a [(9, .pointer (some tv)), (10, .pointer (some rv)), (11, .pointer (some wg)), (12, .slice out l_out c_out), (13, .int .i64 en), (14, .int .i64 code)]) (KK : Exit → List Value → World → Prop) (hd : pG12 co tv rv wg out l_out c_out en code KK W)
    (hK : ∀ e a' W' vs, KK e vs W' → Slots 87 ds a' ([9, 10, 11, 12, 13, 14, 15, 16].zip vs) → AfterJ co b k cs e a' W') : co.J (G (b.at a (.code n12_bbbbbaa :: k)) cs) W :=
  J_piece (X := { X e co with n := 87 }) (okn _ _ _) hC hk (L := [9, 10, 11, 12, 13, 14, 15, 16]) ha (Eq.mpr (pG12_eq e co tv rv wg out l_out c_out en code KK W) hd) fun e a' W' vs h1 _ h3 => hK e a' W' vs h1 h3
/-- f12 bbbbbabkla -/
def pH12 (co : Co) (tv : Addr) (rv : Addr) (wg : Addr) (out : Option Addr) (l_out : Nat) (c_out : Nat) (en : Int) (code : Int) (next : Int) (waiting : Int) (KK : Exit → List Value → World → Prop) (w : World) : Prop :=
  let K5 : Bool → Bool → Bool → World → Prop := fun b1 b2 b3 w4 =>
      cond b3
        (KK .normal [.pointer (some tv), .pointer (some rv), .pointer (some wg), .slice out l_out c_out, .int .i64 en, .int .i64 code, .int .i64 next, .int .i64 waiting] w4)
        (KK (.exit 2) [.pointer (some tv), .pointer (some rv), .pointer (some wg), .slice out l_out c_out, .int .i64 en, .int .i64 code, .int .i64 next, .int .i64 waiting] w4)
  cond (decide (next < en))
    (K5 (decide (next < en)) true true w)
    (K5 (decide (next < en)) false (decide (waiting > (0 : Int))) w)
theorem pH12_eq (e : Bool) (co : Co) (tv : Addr) (rv : Addr) (wg : Addr) (out : Option Addr) (l_out : Nat) (c_out : Nat) (en : Int) (code : Int) (next : Int) (waiting : Int) (KK : Exit → List Value → World → Prop) (w : World) : den { X e co with n := 87 } n12_bbbbbabkla (envL [(9, .pointer (some tv)), (10, .pointer (some rv)), (11, .pointer (some wg)), (12, .slice out l_out c_out), (13, .int .i64 en), (14, .int .i64 code), (15, .int .i64 next), (16, .int .i64 waiting)]) (fun e σ w => getL σ [9, 10, 11, 12, 13, 14, 15, 16] fun vs => KK e vs w) w = pH12 co tv rv wg out l_out c_out en code next waiting KK w := by kernel_rfl
theorem pH12_J {e : Bool} {co : Co} {b : Frame} {k : List Item} {cs : List Frame} {a : Act} {ds : List Deferred} {W : World} {tv : Addr} {rv : Addr} {wg : Addr} {out : Option Addr} {l_out : Nat} {c_out : Nat} {en : Int} {code : Int} {next : Int} {waiting : Int} (hC : Closed Try.prog 58 e co) (hk : b.kind ≠ .early) (ha : Slots 87 ds a [(9, .pointer (some tv)), (10, .pointer (some rv)), (11, .pointer (some wg)), (12, .slice out l_out c_out), (13, .int .i64 en), (14, .int .i64 code), (15, .int .i64 next), (16, .int .i64 waiting)]) (KK : Exit → List Value → World → Prop) (hd : pH12 co tv rv wg out l_out c_out en code next waiting KK W)
    (hK : ∀ e a' W' vs, KK e vs W' → Slots 87 ds a' ([9, 10, 11, 12, 13, 14, 15, 16].zip vs) → AfterJ co b k cs e a' W') : co.J (G (b.at a (.code n12_bbbbbabkla :: k)) cs) W :=
  J_piece (X := { X e co with n := 87 }) (okn _ _ _) hC hk (L := [9, 10, 11, 12, 13, 14, 15, 16]) ha (Eq.mpr (pH12_eq e co tv rv wg out l_out c_out en code next waiting KK W) hd) fun e a' W' vs h1 _ h3 => hK e a' W' vs h1 h3
/-- f12 bbbbbabklbka -/
def pI12 (co : Co) (tv : Addr) (rv : Addr) (wg : Addr) (out : Option Addr) (l_out : Nat) (c_out : Nat) (en : Int) (code : Int) (next : Int) (waiting : Int) (KK : Exit → List Value → World → Prop) (w : World) : Prop :=
  ∃ (tasks1 : Value), w.cell? tv = some (tasks1) ∧ 
  KK .normal [.pointer (some tv), .pointer (some rv), .pointer (some wg), .slice out l_out c_out, .int .i64 en, .int .i64 code, .int .i64 next, .int .i64 waiting, tasks1] w
theorem pI12_eq (e : Bool) (co : Co) (tv : Addr) (rv : Addr) (wg : Addr) (out : Option Addr) (l_out : Nat) (c_out : Nat) (en : Int) (code : Int) (next : Int) (waiting : Int) (KK : Exit → List Value → World → Prop) (w : World) : den { X e co with n := 87 } n12_bbbbbabklbka (envL [(9, .pointer (some tv)), (10, .pointer (some rv)), (11, .pointer (some wg)), (12, .slice out l_out c_out), (13, .int .i64 en), (14, .int .i64 code), (15, .int .i64 next), (16, .int .i64 waiting)]) (fun e σ w => getL σ [9, 10, 11, 12, 13, 14, 15, 16, 17] fun vs => KK e vs w) w = pI12 co tv rv wg out l_out c_out en code next waiting KK w := by kernel_rfl
theorem pI12_J {e : Bool} {co : Co} {b : Frame} {k : List Item} {cs : List Frame} {a : Act} {ds : List Deferred} {W : World} {tv : Addr} {rv : Addr} {wg : Addr} {out : Option Addr} {l_out : Nat} {c_out : Nat} {en : Int} {code : Int} {next : Int} {waiting : Int} (hC : Closed Try.prog 58 e co) (hk : b.kind ≠ .early) (ha : Slots 87 ds a [(9, .pointer (some tv)), (10, .pointer (some rv)), (11, .pointer (some wg)), (12, .slice out l_out c_out), (13, .int .i64 en), (14, .int .i64 code), (15, .int .i64 next), (16, .int .i64 waiting)]) (KK : Exit → List Value → World → Prop) (hd : pI12 co tv rv wg out l_out c_out en code next waiting KK W)
    (hK : ∀ e a' W' vs, KK e vs W' → Slots 87 ds a' ([9, 10, 11, 12, 13, 14, 15, 16, 17].zip vs) → AfterJ co b k cs e a' W') : co.J (G (b.at a (.code n12_bbbbbabklbka :: k)) cs) W :=
  J_piece (X := { X e co with n := 87 }) (okn _ _ _) hC hk (L := [9, 10, 11, 12, 13, 14, 15, 16, 17]) ha (Eq.mpr (pI12_eq e co tv rv wg out l_out c_out en code next waiting KK W) hd) fun e a' W' vs h1 _ h3 => hK e a' W' vs h1 h3
/-- f12 bbbbbabklbkba -/
def pJ12 (co : Co) (tv : Addr) (rv : Addr) (wg : Addr) (out : Option Addr) (l_out : Nat) (c_out : Nat) (en : Int) (code : Int) (next : Int) (waiting : Int) (give : Value) (KK : Exit → List Value → World → Prop) (w : World) : Prop :=
  cond (decide (next ≥ en))
    (KK .normal [.pointer (some tv), .pointer (some rv), .pointer (some wg), .slice out l_out c_out, .int .i64 en, .int .i64 code, .int .i64 next, .int .i64 waiting, .chan none] w)
    (KK .normal [.pointer (some tv), .pointer (some rv), .pointer (some wg), .slice out l_out c_out, .int .i64 en, .int .i64 code, .int .i64 next, .int .i64 waiting, give] w)
theorem pJ12_eq (e : Bool) (co : Co) (tv : Addr) (rv : Addr) (wg : Addr) (out : Option Addr) (l_out : Nat) (c_out : Nat) (en : Int) (code : Int) (next : Int) (waiting : Int) (give : Value) (KK : Exit → List Value → World → Prop) (w : World) : den { X e co with n := 87 } n12_bbbbbabklbkba (envL [(9, .pointer (some tv)), (10, .pointer (some rv)), (11, .pointer (some wg)), (12, .slice out l_out c_out), (13, .int .i64 en), (14, .int .i64 code), (15, .int .i64 next), (16, .int .i64 waiting), (17, give)]) (fun e σ w => getL σ [9, 10, 11, 12, 13, 14, 15, 16, 17] fun vs => KK e vs w) w = pJ12 co tv rv wg out l_out c_out en code next waiting give KK w := by kernel_rfl
theorem pJ12_J {e : Bool} {co : Co} {b : Frame} {k : List Item} {cs : List Frame} {a : Act} {ds : List Deferred} {W : World} {tv : Addr} {rv : Addr} {wg : Addr} {out : Option Addr} {l_out : Nat} {c_out : Nat} {en : Int} {code : Int} {next : Int} {waiting : Int} {give : Value} (hC : Closed Try.prog 58 e co) (hk : b.kind ≠ .early) (ha : Slots 87 ds a [(9, .pointer (some tv)), (10, .pointer (some rv)), (11, .pointer (some wg)), (12, .slice out l_out c_out), (13, .int .i64 en), (14, .int .i64 code), (15, .int .i64 next), (16, .int .i64 waiting), (17, give)]) (KK : Exit → List Value → World → Prop) (hd : pJ12 co tv rv wg out l_out c_out en code next waiting give KK W)
    (hK : ∀ e a' W' vs, KK e vs W' → Slots 87 ds a' ([9, 10, 11, 12, 13, 14, 15, 16, 17].zip vs) → AfterJ co b k cs e a' W') : co.J (G (b.at a (.code n12_bbbbbabklbkba :: k)) cs) W :=
  J_piece (X := { X e co with n := 87 }) (okn _ _ _) hC hk (L := [9, 10, 11, 12, 13, 14, 15, 16, 17]) ha (Eq.mpr (pJ12_eq e co tv rv wg out l_out c_out en code next waiting give KK W) hd) fun e a' W' vs h1 _ h3 => hK e a' W' vs h1 h3
/-- f12 bbbbbabklbkbba -/
def pK12 (co : Co) (tv : Addr) (rv : Addr) (wg : Addr) (out : Option Addr) (l_out : Nat) (c_out : Nat) (en : Int) (code : Int) (next : Int) (waiting : Int) (give : Value) (KK : Exit → List Value → World → Prop) (w : World) : Prop :=
  ∃ (results1 : Value), w.cell? rv = some (results1) ∧ 
  KK .normal [.pointer (some tv), .pointer (some rv), .pointer (some wg), .slice out l_out c_out, .int .i64 en, .int .i64 code, .int .i64 next, .int .i64 waiting, give, .int .i64 next, results1] w
theorem pK12_eq (e : Bool) (co : Co) (tv : Addr) (rv : Addr) (wg : Addr) (out : Option Addr) (l_out : Nat) (c_out : Nat) (en : Int) (code : Int) (next : Int) (waiting : Int) (give : Value) (KK : Exit → List Value → World → Prop) (w : World) : den { X e co with n := 87 } n12_bbbbbabklbkbba (envL [(9, .pointer (some tv)), (10, .pointer (some rv)), (11, .pointer (some wg)), (12, .slice out l_out c_out), (13, .int .i64 en), (14, .int .i64 code), (15, .int .i64 next), (16, .int .i64 waiting), (17, give)]) (fun e σ w => getL σ [9, 10, 11, 12, 13, 14, 15, 16, 47, 48, 49] fun vs => KK e vs w) w = pK12 co tv rv wg out l_out c_out en code next waiting give KK w := by kernel_rfl
theorem pK12_J {e : Bool} {co : Co} {b : Frame} {k : List Item} {cs : List Frame} {a : Act} {ds : List Deferred} {W : World} {tv : Addr} {rv : Addr} {wg : Addr} {out : Option Addr} {l_out : Nat} {c_out : Nat} {en : Int} {code : Int} {next : Int} {waiting : Int} {give : Value} (hC : Closed Try.prog 58 e co) (hk : b.kind ≠ .early) (ha : Slots 87 ds a [(9, .pointer (some tv)), (10, .pointer (some rv)), (11, .pointer (some wg)), (12, .slice out l_out c_out), (13, .int .i64 en), (14, .int .i64 code), (15, .int .i64 next), (16, .int .i64 waiting), (17, give)]) (KK : Exit → List Value → World → Prop) (hd : pK12 co tv rv wg out l_out c_out en code next waiting give KK W)
    (hK : ∀ e a' W' vs, KK e vs W' → Slots 87 ds a' ([9, 10, 11, 12, 13, 14, 15, 16, 47, 48, 49].zip vs) → AfterJ co b k cs e a' W') : co.J (G (b.at a (.code n12_bbbbbabklbkbba :: k)) cs) W :=
  J_piece (X := { X e co with n := 87 }) (okn _ _ _) hC hk (L := [9, 10, 11, 12, 13, 14, 15, 16, 47, 48, 49]) ha (Eq.mpr (pK12_eq e co tv rv wg out l_out c_out en code next waiting give KK W) hd) fun e a' W' vs h1 _ h3 => hK e a' W' vs h1 h3
/-- f12 bbbbbabklbkbbba -/
def pS12 (co : Co) (tv : Addr) (rv : Addr) (wg : Addr) (out : Option Addr) (l_out : Nat) (c_out : Nat) (en : Int) (code : Int) (next : Int) (waiting : Int) (ix : Int) (ok : Bool) (da : Int) (dr : Int) (dc : Int) (KK : Exit → List Value → World → Prop) (w : World) : Prop :=
  KK .normal [.pointer (some tv), .pointer (some rv), .pointer (some wg), .slice out l_out c_out, .int .i64 en, .int .i64 code, .int .i64 next, .int .i64 waiting, .tuple #[.int .i64 ix, .bool ok, .agg #[.int .i64 da, .int .i64 dr, .int .i64 dc]], .bool (ix == (0 : Int)), .bool (ix == (1 : Int))] w
theorem pS12_eq (e : Bool) (co : Co) (tv : Addr) (rv : Addr) (wg : Addr) (out : Option Addr) (l_out : Nat) (c_out : Nat) (en : Int) (code : Int) (next : Int) (waiting : Int) (ix : Int) (ok : Bool) (da : Int) (dr : Int) (dc : Int) (KK : Exit → List Value → World → Prop) (w : World) : denOps { X e co with n := 87 } o12_bbbbbabklbkbbba.toList 1 (o12_bbbbbabklbkbbba.toList.drop 1) (envL [(9, .pointer (some tv)), (10, .pointer (some rv)), (11, .pointer (some wg)), (12, .slice out l_out c_out), (13, .int .i64 en), (14, .int .i64 code), (15, .int .i64 next), (16, .int .i64 waiting), (50, .tuple #[.int .i64 ix, .bool ok, .agg #[.int .i64 da, .int .i64 dr, .int .i64 dc]])]) (fun σ w => getL σ [9, 10, 11, 12, 13, 14, 15, 16, 50, 52, 53] fun vs => KK .normal vs w) w = pS12 co tv rv wg out l_out c_out en code next waiting ix ok da dr dc KK w := by kernel_rfl
theorem pS12_J {e : Bool} {co : Co} {b : Frame} {k : List Item} {cs : List Frame} {a : Act} {ds : List Deferred} {W : World} {tv : Addr} {rv : Addr} {wg : Addr} {out : Option Addr} {l_out : Nat} {c_out : Nat} {en : Int} {code : Int} {next : Int} {waiting : Int} {ix : Int} {ok : Bool} {da : Int} {dr : Int} {dc : Int} (hC : Closed Try.prog 58 e co) (hk : b.kind ≠ .early) (ha : Slots 87 ds a [(9, .pointer (some tv)), (10, .pointer (some rv)), (11, .pointer (some wg)), (12, .slice out l_out c_out), (13, .int .i64 en), (14, .int .i64 code), (15, .int .i64 next), (16, .int .i64 waiting), (50, .tuple #[.int .i64 ix, .bool ok, .agg #[.int .i64 da, .int .i64 dr, .int .i64 dc]])]) (KK : Exit → List Value → World → Prop) (hd : pS12 co tv rv wg out l_out c_out en code next waiting ix ok da dr dc KK W)
    (hK : ∀ a' W' vs, KK .normal vs W' → Slots 87 ds a' ([9, 10, 11, 12, 13, 14, 15, 16, 50, 52, 53].zip vs) → co.J (G (b.at a' k) cs) W') : co.J (G (b.at a (.inRegion o12_bbbbbabklbkbbba [1, 2, 3] :: k)) cs) W :=
  J_suf (X := { X e co with n := 87 }) (okn _ _ _) hC hk 1 (L := [9, 10, 11, 12, 13, 14, 15, 16, 50, 52, 53]) (by kernel_rfl) ha (Eq.mpr (pS12_eq e co tv rv wg out l_out c_out en code next waiting ix ok da dr dc KK W) hd) fun a' W' vs h1 _ h3 => hK a' W' vs h1 h3
/-- f12 bbbbbabklbkbbbb -/
def pL12 (co : Co) (tv : Addr) (rv : Addr) (wg : Addr) (out : Option Addr) (l_out : Nat) (c_out : Nat) (en : Int) (code : Int) (next : Int) (waiting : Int) (ix : Int) (ok : Bool) (da : Int) (dr : Int) (dc : Int) (b0 : Bool) (b1 : Bool) (KK : Exit → List Value → World → Prop) (w : World) : Prop :=
  cond b0
    (KK .normal [.pointer (some tv), .pointer (some rv), .pointer (some wg), .slice out l_out c_out, .int .i64 en, .int .i64 code, .int .i64 (IntKind.i64.wrap (next + (1 : Int))), .int .i64 (IntKind.i64.wrap (waiting + (1 : Int)))] w)
    (cond b1
      (let p1 : Nat := w.heap.size; let w2 : World := w.alloc (.cells #[.int .i64 0, .int .i64 0, .int .i64 0] 62); 
      wrN co.ro w2 (⟨p1, 0, none⟩ : Addr) 3 ∧ let w3 : World := setN (⟨p1, 0, none⟩ : Addr) 0 [.int .i64 da, .int .i64 dr, .int .i64 dc] w2; 
      ∃ (at4 : Int), w3.cell? (⟨p1, 0, none⟩ : Addr) = some (.int .i64 at4) ∧ 
      ∃ (result5 : Int), w3.cell? (⟨p1, 1, none⟩ : Addr) = some (.int .i64 result5) ∧ 
      ∃ q6 : Addr, out = some q6 ∧ 0 ≤ at4 ∧ at4 < (l_out : Nat) ∧ 
      wr co.ro w3 (q6.add (at4.toNat * 1)) ∧ let w7 : World := w3.setCell (q6.add (at4.toNat * 1)) (.int .i64 result5); 
      let K15 : Int → Bool → Bool → Bool → World → Prop := fun n10 b11 b12 b13 w14 =>
          cond b13
            (∃ (at17 : Int), w14.cell? (⟨p1, 0, none⟩ : Addr) = some (.int .i64 at17) ∧ 
            ∃ (code18 : Int), w14.cell? (⟨p1, 2, none⟩ : Addr) = some (.int .i64 code18) ∧ 
            KK .normal [.pointer (some tv), .pointer (some rv), .pointer (some wg), .slice out l_out c_out, .int .i64 at17, .int .i64 code18, .int .i64 next, .int .i64 (IntKind.i64.wrap (waiting - (1 : Int)))] w14)
            (KK .normal [.pointer (some tv), .pointer (some rv), .pointer (some wg), .slice out l_out c_out, .int .i64 en, .int .i64 code, .int .i64 next, .int .i64 (IntKind.i64.wrap (waiting - (1 : Int)))] w14)
      ∃ (code8 : Int), w7.cell? (⟨p1, 2, none⟩ : Addr) = some (.int .i64 code8) ∧ 
      cond (code8 != (0 : Int))
        (∃ (at9 : Int), w7.cell? (⟨p1, 0, none⟩ : Addr) = some (.int .i64 at9) ∧ 
        K15 code8 (code8 != (0 : Int)) true (decide (at9 < en)) w7)
        (K15 code8 (code8 != (0 : Int)) false false w7))
      (KK .normal [.pointer (some tv), .pointer (some rv), .pointer (some wg), .slice out l_out c_out, .int .i64 en, .int .i64 code, .int .i64 next, .int .i64 waiting] w))
theorem pL12_eq (co : Co) (tv : Addr) (rv : Addr) (wg : Addr) (out : Option Addr) (l_out : Nat) (c_out : Nat) (en : Int) (code : Int) (next : Int) (waiting : Int) (ix : Int) (ok : Bool) (da : Int) (dr : Int) (dc : Int) (b0 : Bool) (b1 : Bool) (KK : Exit → List Value → World → Prop) (w : World) : den { X false co with n := 87 } n12_bbbbbabklbkbbbb (envL [(9, .pointer (some tv)), (10, .pointer (some rv)), (11, .pointer (some wg)), (12, .slice out l_out c_out), (13, .int .i64 en), (14, .int .i64 code), (15, .int .i64 next), (16, .int .i64 waiting), (50, .tuple #[.int .i64 ix, .bool ok, .agg #[.int .i64 da, .int .i64 dr, .int .i64 dc]]), (52, .bool b0), (53, .bool b1)]) (fun e σ w => getL σ [9, 10, 11, 12, 13, 14, 15, 16] fun vs => KK e vs w) w = pL12 co tv rv wg out l_out c_out en code next waiting ix ok da dr dc b0 b1 KK w := by kernel_rfl
theorem pL12_J {co : Co} {b : Frame} {k : List Item} {cs : List Frame} {a : Act} {ds : List Deferred} {W : World} {tv : Addr} {rv : Addr} {wg : Addr} {out : Option Addr} {l_out : Nat} {c_out : Nat} {en : Int} {code : Int} {next : Int} {waiting : Int} {ix : Int} {ok : Bool} {da : Int} {dr : Int} {dc : Int} {b0 : Bool} {b1 : Bool} (hC : Closed Try.prog 58 false co) (hk : b.kind ≠ .early) (ha : Slots 87 ds a [(9, .pointer (some tv)), (10, .pointer (some rv)), (11, .pointer (some wg)), (12, .slice out l_out c_out), (13, .int .i64 en), (14, .int .i64 code), (15, .int .i64 next), (16, .int .i64 waiting), (50, .tuple #[.int .i64 ix, .bool ok, .agg #[.int .i64 da, .int .i64 dr, .int .i64 dc]]), (52, .bool b0), (53, .bool b1)]) (KK : Exit → List Value → World → Prop) (hd : pL12 co tv rv wg out l_out c_out en code next waiting ix ok da dr dc b0 b1 KK W)
    (hK : ∀ e a' W' vs, KK e vs W' → Slots 87 ds a' ([9, 10, 11, 12, 13, 14, 15, 16].zip vs) → AfterJ co b k cs e a' W') : co.J (G (b.at a (.code n12_bbbbbabklbkbbbb :: k)) cs) W :=
  J_piece (X := { X false co with n := 87 }) (okn _ _ _) hC hk (L := [9, 10, 11, 12, 13, 14, 15, 16]) ha (Eq.mpr (pL12_eq co tv rv wg out l_out c_out en code next waiting ix ok da dr dc b0 b1 KK W) hd) fun e a' W' vs h1 _ h3 => hK e a' W' vs h1 h3
/-- f12 bbbbbabklbkbbbbkt -/
def pT12 (co : Co) (tv : Addr) (rv : Addr) (wg : Addr) (out : Option Addr) (l_out : Nat) (c_out : Nat) (en : Int) (code : Int) (next : Int) (waiting : Int) (KK : Exit → List Value → World → Prop) (w : World) : Prop :=
  KK .normal [.pointer (some tv), .pointer (some rv), .pointer (some wg), .slice out l_out c_out, .int .i64 en, .int .i64 code, .int .i64 (IntKind.i64.wrap (next + (1 : Int))), .int .i64 (IntKind.i64.wrap (waiting + (1 : Int)))] w
theorem pT12_eq (e : Bool) (co : Co) (tv : Addr) (rv : Addr) (wg : Addr) (out : Option Addr) (l_out : Nat) (c_out : Nat) (en : Int) (code : Int) (next : Int) (waiting : Int) (KK : Exit → List Value → World → Prop) (w : World) : den { X e co with n := 87 } n12_bbbbbabklbkbbbbkt (envL [(9, .pointer (some tv)), (10, .pointer (some rv)), (11, .pointer (some wg)), (12, .slice out l_out c_out), (13, .int .i64 en), (14, .int .i64 code), (15, .int .i64 next), (16, .int .i64 waiting)]) (fun e σ w => getL σ [9, 10, 11, 12, 13, 14, 15, 16] fun vs => KK e vs w) w = pT12 co tv rv wg out l_out c_out en code next waiting KK w := by kernel_rfl
theorem pT12_J {e : Bool} {co : Co} {b : Frame} {k : List Item} {cs : List Frame} {a : Act} {ds : List Deferred} {W : World} {tv : Addr} {rv : Addr} {wg : Addr} {out : Option Addr} {l_out : Nat} {c_out : Nat} {en : Int} {code : Int} {next : Int} {waiting : Int} (hC : Closed Try.prog 58 e co) (hk : b.kind ≠ .early) (ha : Slots 87 ds a [(9, .pointer (some tv)), (10, .pointer (some rv)), (11, .pointer (some wg)), (12, .slice out l_out c_out), (13, .int .i64 en), (14, .int .i64 code), (15, .int .i64 next), (16, .int .i64 waiting)]) (KK : Exit → List Value → World → Prop) (hd : pT12 co tv rv wg out l_out c_out en code next waiting KK W)
    (hK : ∀ e a' W' vs, KK e vs W' → Slots 87 ds a' ([9, 10, 11, 12, 13, 14, 15, 16].zip vs) → AfterJ co b k cs e a' W') : co.J (G (b.at a (.code n12_bbbbbabklbkbbbbkt :: k)) cs) W :=
  J_piece (X := { X e co with n := 87 }) (okn _ _ _) hC hk (L := [9, 10, 11, 12, 13, 14, 15, 16]) ha (Eq.mpr (pT12_eq e co tv rv wg out l_out c_out en code next waiting KK W) hd) fun e a' W' vs h1 _ h3 => hK e a' W' vs h1 h3
/-- f12 bbbbbba -/
def pQ12 (co : Co) (tv : Addr) (wg : Addr) (out : Option Addr) (l_out : Nat) (c_out : Nat) (en : Int) (code : Int) (KK : Exit → List Value → World → Prop) (w : World) : Prop :=
  ∃ (tasks1 : Value), w.cell? tv = some (tasks1) ∧ 
  KK .normal [.pointer (some wg), .slice out l_out c_out, .int .i64 en, .int .i64 code, tasks1] w
theorem pQ12_eq (e : Bool) (co : Co) (tv : Addr) (wg : Addr) (out : Option Addr) (l_out : Nat) (c_out : Nat) (en : Int) (code : Int) (KK : Exit → List Value → World → Prop) (w : World) : denOps { X e co with n := 87 } o12_bbbbbba.toList 0 (o12_bbbbbba.toList.take 1) (envL [(9, .pointer (some tv)), (11, .pointer (some wg)), (12, .slice out l_out c_out), (13, .int .i64 en), (14, .int .i64 code)]) (fun σ w => getL σ [11, 12, 13, 14, 80] fun vs => KK .normal vs w) w = pQ12 co tv wg out l_out c_out en code KK w := by kernel_rfl
theorem pQ12_J {e : Bool} {co : Co} {b : Frame} {k : List Item} {cs : List Frame} {a : Act} {ds : List Deferred} {W : World} {tv : Addr} {wg : Addr} {out : Option Addr} {l_out : Nat} {c_out : Nat} {en : Int} {code : Int} (hC : Closed Try.prog 58 e co) (hk : b.kind ≠ .early) (ha : Slots 87 ds a [(9, .pointer (some tv)), (11, .pointer (some wg)), (12, .slice out l_out c_out), (13, .int .i64 en), (14, .int .i64 code)]) (KK : Exit → List Value → World → Prop) (hd : pQ12 co tv wg out l_out c_out en code KK W)
    (hK : ∀ a' W' vs, KK .normal vs W' → Slots 87 ds a' ([11, 12, 13, 14, 80].zip vs) → co.J (G (b.at a' (.inRegion o12_bbbbbba [1] :: k)) cs) W') : co.J (G (b.at a (.code n12_bbbbbba :: k)) cs) W := by
  rw [e12_bbbbbba]
  refine J_code_region (X := { X e co with n := 87 }) hC ?_
  refine J_pre (X := { X e co with n := 87 }) (okn _ _ _) hC hk 1 (L := [11, 12, 13, 14, 80]) (Nat.le_of_ble_eq_true (by kernel_rfl)) ha (Eq.mpr (pQ12_eq e co tv wg out l_out c_out en code KK W) hd) fun a' W' vs h1 _ h3 => ?_
  have e5 : List.range' 1 (o12_bbbbbba.size - 1) = [1] := by kernel_rfl
  rw [e5]; exact hK a' W' vs h1 h3
/-- f12 bbbbbbbbaa -/
def pM12 (co : Co) (out : Option Addr) (l_out : Nat) (c_out : Nat) (en : Int) (code : Int) (KK : Exit → List Value → World → Prop) (w : World) : Prop :=
  KK .normal [.slice out l_out c_out, .int .i64 en, .int .i64 code, .bool (code != (0 : Int))] w
theorem pM12_eq (e : Bool) (co : Co) (out : Option Addr) (l_out : Nat) (c_out : Nat) (en : Int) (code : Int) (KK : Exit → List Value → World → Prop) (w : World) : den { X e co with n := 87 } n12_bbbbbbbbaa (envL [(12, .slice out l_out c_out), (13, .int .i64 en), (14, .int .i64 code)]) (fun e σ w => getL σ [12, 13, 14, 83] fun vs => KK e vs w) w = pM12 co out l_out c_out en code KK w := by kernel_rfl
theorem pM12_J {e : Bool} {co : Co} {b : Frame} {k : List Item} {cs : List Frame} {a : Act} {ds : List Deferred} {W : World} {out : Option Addr} {l_out : Nat} {c_out : Nat} {en : Int} {code : Int} (hC : Closed Try.prog 58 e co) (hk : b.kind ≠ .early) (ha : Slots 87 ds a [(12, .slice out l_out c_out), (13, .int .i64 en), (14, .int .i64 code)]) (KK : Exit → List Value → World → Prop) (hd : pM12 co out l_out c_out en code KK W)
    (hK : ∀ e a' W' vs, KK e vs W' → Slots 87 ds a' ([12, 13, 14, 83].zip vs) → AfterJ co b k cs e a' W') : co.J (G (b.at a (.code n12_bbbbbbbbaa :: k)) cs) W :=
  J_piece (X := { X e co with n := 87 }) (okn _ _ _) hC hk (L := [12, 13, 14, 83]) ha (Eq.mpr (pM12_eq e co out l_out c_out en code KK W) hd) fun e a' W' vs h1 _ h3 => hK e a' W' vs h1 h3
/-- f12 bbbbbbbbabt -/
def pN12 (co : Co) (out : Option Addr) (l_out : Nat) (c_out : Nat) (en : Int) (code : Int) (KK : Exit → List Value → World → Prop) (w : World) : Prop :=
  KK .ret [.slice none 0 0, .int .i64 en, .int .i64 code] w
theorem pN12_eq (e : Bool) (co : Co) (out : Option Addr) (l_out : Nat) (c_out : Nat) (en : Int) (code : Int) (KK : Exit → List Value → World → Prop) (w : World) : den { X e co with n := 87 } n12_bbbbbbbbabt (envL [(12, .slice out l_out c_out), (13, .int .i64 en), (14, .int .i64 code)]) (fun e σ w => getL σ [6, 7, 8] fun vs => KK e vs w) w = pN12 co out l_out c_out en code KK w := by kernel_rfl
theorem pN12_J {e : Bool} {co : Co} {b : Frame} {k : List Item} {cs : List Frame} {a : Act} {ds : List Deferred} {W : World} {out : Option Addr} {l_out : Nat} {c_out : Nat} {en : Int} {code : Int} (hC : Closed Try.prog 58 e co) (hk : b.kind ≠ .early) (ha : Slots 87 ds a [(12, .slice out l_out c_out), (13, .int .i64 en), (14, .int .i64 code)]) (KK : Exit → List Value → World → Prop) (hd : pN12 co out l_out c_out en code KK W)
    (hK : ∀ e a' W' vs, KK e vs W' → Slots 87 ds a' ([6, 7, 8].zip vs) → AfterJ co b k cs e a' W') : co.J (G (b.at a (.code n12_bbbbbbbbabt :: k)) cs) W :=
  J_piece (X := { X e co with n := 87 }) (okn _ _ _) hC hk (L := [6, 7, 8]) ha (Eq.mpr (pN12_eq e co out l_out c_out en code KK W) hd) fun e a' W' vs h1 _ h3 => hK e a' W' vs h1 h3
/-- f12 bbbbbbbbb -/
def pO12 (co : Co) (out : Option Addr) (l_out : Nat) (c_out : Nat) (KK : Exit → List Value → World → Prop) (w : World) : Prop :=
  KK .ret [.slice out l_out c_out, .int .i64 0, .int .i64 0] w
theorem pO12_eq (e : Bool) (co : Co) (out : Option Addr) (l_out : Nat) (c_out : Nat) (KK : Exit → List Value → World → Prop) (w : World) : den { X e co with n := 87 } n12_bbbbbbbbb (envL [(12, .slice out l_out c_out)]) (fun e σ w => getL σ [6, 7, 8] fun vs => KK e vs w) w = pO12 co out l_out c_out KK w := by kernel_rfl
theorem pO12_J {e : Bool} {co : Co} {b : Frame} {k : List Item} {cs : List Frame} {a : Act} {ds : List Deferred} {W : World} {out : Option Addr} {l_out : Nat} {c_out : Nat} (hC : Closed Try.prog 58 e co) (hk : b.kind ≠ .early) (ha : Slots 87 ds a [(12, .slice out l_out c_out)]) (KK : Exit → List Value → World → Prop) (hd : pO12 co out l_out c_out KK W)
    (hK : ∀ e a' W' vs, KK e vs W' → Slots 87 ds a' ([6, 7, 8].zip vs) → AfterJ co b k cs e a' W') : co.J (G (b.at a (.code n12_bbbbbbbbb :: k)) cs) W :=
  J_piece (X := { X e co with n := 87 }) (okn _ _ _) hC hk (L := [6, 7, 8]) ha (Eq.mpr (pO12_eq e co out l_out c_out KK W) hd) fun e a' W' vs h1 _ h3 => hK e a' W' vs h1 h3
/-- f25 ba -/
def wA12 (co : Co) (wg : Addr) (tv : Addr) (dv : Addr) (jv : Addr) (rv : Addr) (KK : Exit → List Value → World → Prop) (w : World) : Prop :=
  ∃ (v1 : Value), w.cell? tv = some (v1) ∧ 
  KK .normal [.pointer (some wg), .pointer (some tv), .pointer (some dv), .pointer (some jv), .pointer (some rv), v1] w
theorem wA12_eq (e : Bool) (co : Co) (wg : Addr) (tv : Addr) (dv : Addr) (jv : Addr) (rv : Addr) (KK : Exit → List Value → World → Prop) (w : World) : den { X e co with n := 26 } n25_ba (envL [(0, .pointer (some wg)), (1, .pointer (some tv)), (2, .pointer (some dv)), (3, .pointer (some jv)), (4, .pointer (some rv))]) (fun e σ w => getL σ [0, 1, 2, 3, 4, 8] fun vs => KK e vs w) w = wA12 co wg tv dv jv rv KK w := by kernel_rfl
theorem wA12_J {e : Bool} {co : Co} {b : Frame} {k : List Item} {cs : List Frame} {a : Act} {ds : List Deferred} {W : World} {wg : Addr} {tv : Addr} {dv : Addr} {jv : Addr} {rv : Addr} (hC : Closed Try.prog 58 e co) (hk : b.kind ≠ .early) (ha : Slots 26 ds a [(0, .pointer (some wg)), (1, .pointer (some tv)), (2, .pointer (some dv)), (3, .pointer (some jv)), (4, .pointer (some rv))]) (KK : Exit → List Value → World → Prop) (hd : wA12 co wg tv dv jv rv KK W)
    (hK : ∀ e a' W' vs, KK e vs W' → Slots 26 ds a' ([0, 1, 2, 3, 4, 8].zip vs) → AfterJ co b k cs e a' W') : co.J (G (b.at a (.code n25_ba :: k)) cs) W :=
  J_piece (X := { X e co with n := 26 }) (okn _ _ _) hC hk (L := [0, 1, 2, 3, 4, 8]) ha (Eq.mpr (wA12_eq e co wg tv dv jv rv KK W) hd) fun e a' W' vs h1 _ h3 => hK e a' W' vs h1 h3
/-- f25 bbkla -/
def wB12 (co : Co) (wg : Addr) (tv : Addr) (dv : Addr) (jv : Addr) (rv : Addr) (ch : Value) (i : Int) (ok : Bool) (KK : Exit → List Value → World → Prop) (w : World) : Prop :=
  KK .normal [.pointer (some wg), .pointer (some tv), .pointer (some dv), .pointer (some jv), .pointer (some rv), ch, .tuple #[.int .i64 i, .bool ok], .bool ok] w
theorem wB12_eq (e : Bool) (co : Co) (wg : Addr) (tv : Addr) (dv : Addr) (jv : Addr) (rv : Addr) (ch : Value) (i : Int) (ok : Bool) (KK : Exit → List Value → World → Prop) (w : World) : denOps { X e co with n := 26 } o25_bbkla.toList 1 (o25_bbkla.toList.drop 1) (envL [(0, .pointer (some wg)), (1, .pointer (some tv)), (2, .pointer (some dv)), (3, .pointer (some jv)), (4, .pointer (some rv)), (8, ch), (9, .tuple #[.int .i64 i, .bool ok])]) (fun σ w => getL σ [0, 1, 2, 3, 4, 8, 9, 10] fun vs => KK .normal vs w) w = wB12 co wg tv dv jv rv ch i ok KK w := by kernel_rfl
theorem wB12_J {e : Bool} {co : Co} {b : Frame} {k : List Item} {cs : List Frame} {a : Act} {ds : List Deferred} {W : World} {wg : Addr} {tv : Addr} {dv : Addr} {jv : Addr} {rv : Addr} {ch : Value} {i : Int} {ok : Bool} (hC : Closed Try.prog 58 e co) (hk : b.kind ≠ .early) (ha : Slots 26 ds a [(0, .pointer (some wg)), (1, .pointer (some tv)), (2, .pointer (some dv)), (3, .pointer (some jv)), (4, .pointer (some rv)), (8, ch), (9, .tuple #[.int .i64 i, .bool ok])]) (KK : Exit → List Value → World → Prop) (hd : wB12 co wg tv dv jv rv ch i ok KK W)
    (hK : ∀ a' W' vs, KK .normal vs W' → Slots 26 ds a' ([0, 1, 2, 3, 4, 8, 9, 10].zip vs) → co.J (G (b.at a' k) cs) W') : co.J (G (b.at a (.inRegion o25_bbkla [1] :: k)) cs) W :=
  J_suf (X := { X e co with n := 26 }) (okn _ _ _) hC hk 1 (L := [0, 1, 2, 3, 4, 8, 9, 10]) (by kernel_rfl) ha (Eq.mpr (wB12_eq e co wg tv dv jv rv ch i ok KK W) hd) fun a' W' vs h1 _ h3 => hK a' W' vs h1 h3
/-- f25 bbklbbka -/
def wC12 (co : Co) (wg : Addr) (tv : Addr) (dv : Addr) (jv : Addr) (rv : Addr) (ch : Value) (i : Int) (ok : Bool) (KK : Exit → List Value → World → Prop) (w : World) : Prop :=
  KK .normal [.pointer (some wg), .pointer (some tv), .pointer (some dv), .pointer (some jv), .pointer (some rv), ch, .int .i64 i] w
theorem wC12_eq (e : Bool) (co : Co) (wg : Addr) (tv : Addr) (dv : Addr) (jv : Addr) (rv : Addr) (ch : Value) (i : Int) (ok : Bool) (KK : Exit → List Value → World → Prop) (w : World) : den { X e co with n := 26 } n25_bbklbbka (envL [(0, .pointer (some wg)), (1, .pointer (some tv)), (2, .pointer (some dv)), (3, .pointer (some jv)), (4, .pointer (some rv)), (8, ch), (9, .tuple #[.int .i64 i, .bool ok])]) (fun e σ w => getL σ [0, 1, 2, 3, 4, 8, 5] fun vs => KK e vs w) w = wC12 co wg tv dv jv rv ch i ok KK w := by kernel_rfl
theorem wC12_J {e : Bool} {co : Co} {b : Frame} {k : List Item} {cs : List Frame} {a : Act} {ds : List Deferred} {W : World} {wg : Addr} {tv : Addr} {dv : Addr} {jv : Addr} {rv : Addr} {ch : Value} {i : Int} {ok : Bool} (hC : Closed Try.prog 58 e co) (hk : b.kind ≠ .early) (ha : Slots 26 ds a [(0, .pointer (some wg)), (1, .pointer (some tv)), (2, .pointer (some dv)), (3, .pointer (some jv)), (4, .pointer (some rv)), (8, ch), (9, .tuple #[.int .i64 i, .bool ok])]) (KK : Exit → List Value → World → Prop) (hd : wC12 co wg tv dv jv rv ch i ok KK W)
    (hK : ∀ e a' W' vs, KK e vs W' → Slots 26 ds a' ([0, 1, 2, 3, 4, 8, 5].zip vs) → AfterJ co b k cs e a' W') : co.J (G (b.at a (.code n25_bbklbbka :: k)) cs) W :=
  J_piece (X := { X e co with n := 26 }) (okn _ _ _) hC hk (L := [0, 1, 2, 3, 4, 8, 5]) ha (Eq.mpr (wC12_eq e co wg tv dv jv rv ch i ok KK W) hd) fun e a' W' vs h1 _ h3 => hK e a' W' vs h1 h3
/-- f25 bbklbbkba -/
def wD12 (co : Co) (wg : Addr) (tv : Addr) (dv : Addr) (jv : Addr) (rv : Addr) (ch : Value) (i : Int) (KK : Exit → List Value → World → Prop) (w : World) : Prop :=
  ∃ (v2 : Value), w.cell? dv = some (v2) ∧ 
  ∃ (a3 : Option Addr), ∃ (l_a3 : Nat), ∃ (c_a3 : Nat), w.cell? jv = some (.slice a3 l_a3 c_a3) ∧ 
  ∃ q4 : Addr, a3 = some q4 ∧ 0 ≤ i ∧ i < (l_a3 : Nat) ∧ 
  ∃ (n5 : Int), w.cell? (q4.add (i.toNat * 1)) = some (.int .i64 n5) ∧ 
  optP (asFn v2) fun r6 => cond (cl r6.1) (
  CallsJ Try.prog co r6.1 (r6.2.1.toList ++ ([.int .i64 n5] : List Value) ++ r6.2.2.toList).toArray w (fun e8 w9 => ∃ (n10 : Int), ∃ (n11 : Int), e8 = (.tuple #[.int .i64 n10, .int .i64 n11]) ∧ 
  KK .normal [.pointer (some wg), .pointer (some tv), .pointer (some dv), .pointer (some jv), .pointer (some rv), ch, .int .i64 i, .int .i64 n10, .int .i64 n11] w9)) False
theorem wD12_eq (e : Bool) (co : Co) (wg : Addr) (tv : Addr) (dv : Addr) (jv : Addr) (rv : Addr) (ch : Value) (i : Int) (KK : Exit → List Value → World → Prop) (w : World) : den { X e co with n := 26 } n25_bbklbbkba (envL [(0, .pointer (some wg)), (1, .pointer (some tv)), (2, .pointer (some dv)), (3, .pointer (some jv)), (4, .pointer (some rv)), (8, ch), (5, .int .i64 i)]) (fun e σ w => getL σ [0, 1, 2, 3, 4, 8, 5, 6, 7] fun vs => KK e vs w) w = wD12 co wg tv dv jv rv ch i KK w := by kernel_rfl
theorem wD12_J {e : Bool} {co : Co} {b : Frame} {k : List Item} {cs : List Frame} {a : Act} {ds : List Deferred} {W : World} {wg : Addr} {tv : Addr} {dv : Addr} {jv : Addr} {rv : Addr} {ch : Value} {i : Int} (hC : Closed Try.prog 58 e co) (hk : b.kind ≠ .early) (ha : Slots 26 ds a [(0, .pointer (some wg)), (1, .pointer (some tv)), (2, .pointer (some dv)), (3, .pointer (some jv)), (4, .pointer (some rv)), (8, ch), (5, .int .i64 i)]) (KK : Exit → List Value → World → Prop) (hd : wD12 co wg tv dv jv rv ch i KK W)
    (hK : ∀ e a' W' vs, KK e vs W' → Slots 26 ds a' ([0, 1, 2, 3, 4, 8, 5, 6, 7].zip vs) → AfterJ co b k cs e a' W') : co.J (G (b.at a (.code n25_bbklbbkba :: k)) cs) W :=
  J_piece (X := { X e co with n := 26 }) (okn _ _ _) hC hk (L := [0, 1, 2, 3, 4, 8, 5, 6, 7]) ha (Eq.mpr (wD12_eq e co wg tv dv jv rv ch i KK W) hd) fun e a' W' vs h1 _ h3 => hK e a' W' vs h1 h3
/-- f25 bbklbbkbb -/
def wE12 (co : Co) (wg : Addr) (tv : Addr) (dv : Addr) (jv : Addr) (rv : Addr) (ch : Value) (i : Int) (r : Int) (er : Int) (KK : Exit → List Value → World → Prop) (w : World) : Prop :=
  ∃ (v1 : Value), w.cell? rv = some (v1) ∧ 
  KK .normal [.pointer (some wg), .pointer (some tv), .pointer (some dv), .pointer (some jv), .pointer (some rv), ch, v1, .agg #[.int .i64 i, .int .i64 r, .int .i64 er]] w
theorem wE12_eq (e : Bool) (co : Co) (wg : Addr) (tv : Addr) (dv : Addr) (jv : Addr) (rv : Addr) (ch : Value) (i : Int) (r : Int) (er : Int) (KK : Exit → List Value → World → Prop) (w : World) : denOps { X e co with n := 26 } o25_bbklbbkbb.toList 0 (o25_bbklbbkbb.toList.take 5) (envL [(0, .pointer (some wg)), (1, .pointer (some tv)), (2, .pointer (some dv)), (3, .pointer (some jv)), (4, .pointer (some rv)), (8, ch), (5, .int .i64 i), (6, .int .i64 r), (7, .int .i64 er)]) (fun σ w => getL σ [0, 1, 2, 3, 4, 8, 21, 25] fun vs => KK .normal vs w) w = wE12 co wg tv dv jv rv ch i r er KK w := by kernel_rfl
theorem wE12_J {e : Bool} {co : Co} {b : Frame} {k : List Item} {cs : List Frame} {a : Act} {ds : List Deferred} {W : World} {wg : Addr} {tv : Addr} {dv : Addr} {jv : Addr} {rv : Addr} {ch : Value} {i : Int} {r : Int} {er : Int} (hC : Closed Try.prog 58 e co) (hk : b.kind ≠ .early) (ha : Slots 26 ds a [(0, .pointer (some wg)), (1, .pointer (some tv)), (2, .pointer (some dv)), (3, .pointer (some jv)), (4, .pointer (some rv)), (8, ch), (5, .int .i64 i), (6, .int .i64 r), (7, .int .i64 er)]) (KK : Exit → List Value → World → Prop) (hd : wE12 co wg tv dv jv rv ch i r er KK W)
    (hK : ∀ a' W' vs, KK .normal vs W' → Slots 26 ds a' ([0, 1, 2, 3, 4, 8, 21, 25].zip vs) → co.J (G (b.at a' (.inRegion o25_bbklbbkbb [5] :: k)) cs) W') : co.J (G (b.at a (.code n25_bbklbbkbb :: k)) cs) W := by
  rw [e25_bbklbbkbb]
  refine J_code_region (X := { X e co with n := 26 }) hC ?_
  refine J_pre (X := { X e co with n := 26 }) (okn _ _ _) hC hk 5 (L := [0, 1, 2, 3, 4, 8, 21, 25]) (Nat.le_of_ble_eq_true (by kernel_rfl)) ha (Eq.mpr (wE12_eq e co wg tv dv jv rv ch i r er KK W) hd) fun a' W' vs h1 _ h3 => ?_
  have e5 : List.range' 5 (o25_bbklbbkbb.size - 5) = [5] := by kernel_rfl
  rw [e5]; exact hK a' W' vs h1 h3
end Go.Proofs.Ytmkgnbcpcfojfaa
