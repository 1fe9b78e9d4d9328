/- What LogRewrites answers: the walk. -/
import Derived.Test.YtmfidfaiopogbaaShP20
set_option linter.unusedVariables false
set_option linter.unusedSimpArgs false
set_option linter.unusedSectionVars false
set_option maxRecDepth 4000
namespace Go.Proofs.Ytmfidfaiopogbaa
open Go Go.Sh
open Go.RowKit (Below)
local instance avP20b : Av := noAv
theorem ownG {w w' : World} {base n c : Nat} {a : Option Addr} {us : List Op} {S : Nat → Prop} (h : w.ownsRow base 57 5 (.slice a n c) n (opl us)) (k : Keep S w w') (hS : ∀ b, OB a b → TyB w b 57 → b < w.heap.size → base ≤ b → ¬ S b) : w'.ownsRow base 57 5 (.slice a n c) n (opl us) :=
  own_S h k fun b hb => hS b hb (ty_lt h hb).2.2 (ty_lt h hb).1 (ty_lt h hb).2.1
set_option maxHeartbeats 1000000 in
/-- One operation of the first lists: it is appended, and put behind the others. -/
theorem loopA {w30 : World} {lo l p m : Nat} {q : Sv} {x : A} {Y ys zs : List Op} {safe : Nat} {a27 first28 : Option Addr} {l_a27 c_a27 l_first28 c_first28 bc bd : Nat} {i : Nat}
    (hoc : w30.ownsRow bc 57 5 (.slice a27 l_a27 c_a27) l_a27 (opl zs)) (hi : i < zs.length) (hfit : ∀ z ∈ zs, z.fit) (hod : w30.ownsRow bd 57 5 (.slice first28 l_first28 c_first28) l_first28 (opl ys)) (hlen : l_first28 ≤ 1000) (hbd : bd ≤ w30.heap.size)
    (hL : LgR w30 lo l p q x 1 m false) (hI : LI x m false [] Y safe false) (hun : x.armed = false) (hYl : Y.length ≤ 130) (hr : x.rest.length ≤ 10000) {I31 : List Value → World → Prop} {μ32 : List Value → World → Nat}
    (hK : ∀ (y : List Op), y = (plain (zs[i])).toList → ∀ (u1 : Option Addr) (u2 u3 : Nat) (w' : World) (q' : Sv) (x' : A) (m' : Nat), LgR w' lo l p q' x' 1 m' false → LI x' m' false [] (Y ++ y) safe false → x'.armed = false → x'.rest.length ≤ x.rest.length + 22 → w'.ownsRow bd 57 5 (.slice u1 u2 u3) u2 (opl (ys ++ y)) → Keep (fun b => lg l p q b ∨ OB first28 b) w30 w' →
      I31 [.slice u1 u2 u3, .int .i64 (IntKind.i64.wrap ((i : Int) + (1 : Int)))] w' ∧ μ32 [.slice u1 u2 u3, .int .i64 (IntKind.i64.wrap ((i : Int) + (1 : Int)))] w' < μ32 [.slice first28 l_first28 c_first28, .int .i64 (i : Nat)] w30) :
    ∃ q33 : Addr, a27 = some q33 ∧ 0 ≤ (i : Int) ∧ (i : Int) < (l_a27 : Nat) ∧ 
                ∃ (n34 : Int), ∃ (n35 : Int), ∃ (n36 : Int), ∃ (n37 : Int), ∃ (n38 : Int), w30.cell? (q33.add ((i : Int).toNat * 5)) = some (.int .i64 n34) ∧ w30.cell? ((q33.add ((i : Int).toNat * 5)).add 1) = some (.int .i64 n35) ∧ w30.cell? ((q33.add ((i : Int).toNat * 5)).add 2) = some (.int .i64 n36) ∧ w30.cell? ((q33.add ((i : Int).toNat * 5)).add 3) = some (.int .i64 n37) ∧ w30.cell? ((q33.add ((i : Int).toNat * 5)).add 4) = some (.int .u32 n38) ∧ 
                let p39 : Nat := w30.heap.size; let w40 : World := w30.alloc (.cells #[.int .i64 0, .int .i64 0, .int .i64 0, .int .i64 0, .int .u32 0] 57); 
                wrN w40 (⟨p39, 0, none⟩ : Addr) 5 ∧ let w41 : World := setN (⟨p39, 0, none⟩ : Addr) 0 [.int .i64 n34, .int .i64 n35, .int .i64 n36, .int .i64 n37, .int .u32 n38] w40; 
                ∃ (op42 : Int), ∃ (op43 : Int), ∃ (op44 : Int), ∃ (op45 : Int), ∃ (op46 : Int), w41.cell? (⟨p39, 0, none⟩ : Addr) = some (.int .i64 op42) ∧ w41.cell? (⟨p39, 1, none⟩ : Addr) = some (.int .i64 op43) ∧ w41.cell? (⟨p39, 2, none⟩ : Addr) = some (.int .i64 op44) ∧ w41.cell? (⟨p39, 3, none⟩ : Addr) = some (.int .i64 op45) ∧ w41.cell? (⟨p39, 4, none⟩ : Addr) = some (.int .u32 op46) ∧ 
                Calls Try.prog 38 #[.agg #[.int .i64 op42, .int .i64 op43, .int .i64 op44, .int .i64 op45, .int .u32 op46]] w41 (fun e47 w48 => ∃ (n49 : Int), ∃ (n50 : Int), ∃ (n51 : Int), ∃ (n52 : Int), ∃ (n53 : Int), ∃ (n54 : Int), e47 = .returned (.tuple #[.agg #[.int .i64 n49, .int .i64 n50, .int .i64 n51, .int .i64 n52, .int .u32 n53], .int .i64 n54]) ∧ 
                let p55 : Nat := w48.heap.size; let w56 : World := w48.alloc (.cells #[.int .i64 0, .int .i64 0, .int .i64 0, .int .i64 0, .int .u32 0] 57); 
                wrN w56 (⟨p55, 0, none⟩ : Addr) 5 ∧ let w57 : World := setN (⟨p55, 0, none⟩ : Addr) 0 [.int .i64 n49, .int .i64 n50, .int .i64 n51, .int .i64 n52, .int .u32 n53] w56; 
                cond (n54 == (0 : Int))
                  (∃ (op58 : Int), ∃ (op59 : Int), ∃ (op60 : Int), ∃ (op61 : Int), ∃ (op62 : Int), w57.cell? (⟨p39, 0, none⟩ : Addr) = some (.int .i64 op58) ∧ w57.cell? (⟨p39, 1, none⟩ : Addr) = some (.int .i64 op59) ∧ w57.cell? (⟨p39, 2, none⟩ : Addr) = some (.int .i64 op60) ∧ w57.cell? (⟨p39, 3, none⟩ : Addr) = some (.int .i64 op61) ∧ w57.cell? (⟨p39, 4, none⟩ : Addr) = some (.int .u32 op62) ∧ 
                  Calls Try.prog 56 #[dp l, .agg #[.int .i64 op58, .int .i64 op59, .int .i64 op60, .int .i64 op61, .int .u32 op62]] w57 (fun e63 w64 => ∃ (n65 : Int), e63 = .returned (.int .i64 n65) ∧ 
                  ∃ (plain66 : Int), ∃ (plain67 : Int), ∃ (plain68 : Int), ∃ (plain69 : Int), ∃ (plain70 : Int), w64.cell? (⟨p55, 0, none⟩ : Addr) = some (.int .i64 plain66) ∧ w64.cell? (⟨p55, 1, none⟩ : Addr) = some (.int .i64 plain67) ∧ w64.cell? (⟨p55, 2, none⟩ : Addr) = some (.int .i64 plain68) ∧ w64.cell? (⟨p55, 3, none⟩ : Addr) = some (.int .i64 plain69) ∧ w64.cell? (⟨p55, 4, none⟩ : Addr) = some (.int .u32 plain70) ∧ 
                  let p71 : Nat := w64.heap.size; let w72 : World := w64.alloc (.cells #[.int .i64 plain66, .int .i64 plain67, .int .i64 plain68, .int .i64 plain69, .int .u32 plain70] 57); 
                  RunWp Try.prog (Builtin.append_ #[64, 64] 64 #[.slice first28 l_first28 c_first28, .slice (some ⟨p71, 0, none⟩) 1 1]) (fun v73 w74 => ∃ (a75 : Option Addr), ∃ (l_a75 : Nat), ∃ (c_a75 : Nat), v73 = .slice a75 l_a75 c_a75 ∧ 
                  I31 [.slice a75 l_a75 c_a75, .int .i64 (IntKind.i64.wrap ((i : Int) + (1 : Int)))] w74 ∧ μ32 [.slice a75 l_a75 c_a75, .int .i64 (IntKind.i64.wrap ((i : Int) + (1 : Int)))] w74 < μ32 [.slice first28 l_first28 c_first28, .int .i64 (i : Nat)] w30) w72))
                  (I31 [.slice first28 l_first28 c_first28, .int .i64 (IntKind.i64.wrap ((i : Int) + (1 : Int)))] w57 ∧ μ32 [.slice first28 l_first28 c_first28, .int .i64 (IntKind.i64.wrap ((i : Int) + (1 : Int)))] w57 < μ32 [.slice first28 l_first28 c_first28, .int .i64 (i : Nat)] w30)) := by
  have hO : ∀ v : World, Old v := fun v => noOld v
  obtain ⟨qz, hqz, z1, z2, o0, o1, o2, o3, o4⟩ := opCell (Rd.own0 hoc) hi
  have hzf := hfit zs[i] (List.getElem_mem hi)
  generalize zs[i] = z at hzf o0 o1 o2 o3 o4 hK
  refine ⟨qz, hqz, z1, z2, _, _, _, _, _, o0, o1, o2, o3, o4, ?_⟩
  obtain ⟨e1, e2, e3⟩ := opNew w30 z
  intro p39 w40
  refine ⟨e1, ?_⟩
  intro w41
  have b41 : Bk w41 p39 (opC z) 57 := e2
  have k41 : Keep no w30 w41 := e3
  clear e1 e2 e3
  clear_value p39 w40 w41
  refine ⟨_, _, _, _, _, b41.cell 0, b41.cell 1, b41.cell 2, b41.cell 3, b41.cell 4, ?_⟩
  refine (plainE w41 z).mono ?_
  rintro e w48 ⟨k48, yy, cd, rfl, hcd⟩
  refine ⟨_, _, _, _, _, _, rfl, ?_⟩
  obtain ⟨e1, e2, e3⟩ := opNew w48 yy
  intro p55 w56
  refine ⟨e1, ?_⟩
  intro w57
  have b57 : Bk w57 p55 (opC yy) 57 := e2
  have k57 : Keep no w48 w57 := e3
  clear e1 e2 e3
  clear_value p55 w56 w57
  have k57' : Keep no w30 w57 := (k41.then k48).then k57
  have c57 := b41.no (k48.then k57)
  rcases hcd with ⟨rfl, hp⟩ | ⟨rfl, hp⟩
  · refine cond_t rfl ⟨_, _, _, _, _, c57.cell 0, c57.cell 1, c57.cell 2, c57.cell 3, c57.cell 4, ?_⟩
    have hL57 := hL.no_ k57'
    have hrl := recs_len hI.pl
    rw [List.nil_append] at hrl
    obtain ⟨_, hm, _⟩ := hI.alive rfl
    rw [List.nil_append] at hm
    obtain ⟨_, ap2, ap3, ap4, _⟩ := hI.append hzf hp (by rw [List.nil_append]; omega) (by omega)
    refine (append_spec hL57 (hO _) (by omega) (by omega) hzf).mono ?_
    rintro e w64 ⟨rfl, q64, hL64, k64, _⟩
    generalize hR : appM x 1 m false z = R at ap2 ap3 ap4 hL64
    rcases ap2 rfl with ⟨hc0, hLI2⟩ | ⟨_, hA, _⟩
    · have hdd : R.2.2.1 = false := (hLI2.alive rfl).1
      rw [hdd] at hL64 hLI2
      refine ⟨_, rfl, ?_⟩
      have b64 : Bk w64 p55 (opC yy) 57 := b57.keep k64 (hL57.off b57.ty)
      refine ⟨_, _, _, _, _, b64.cell 0, b64.cell 1, b64.cell 2, b64.cell 3, b64.cell 4, ?_⟩
      intro p71 w72
      have hod57 := own_no' hod k57'
      have hod64 := own_S hod57 k64 fun b hb => hL57.off (ty_lt hod57 hb).2.2
      refine opPush hod64 (by omega) (Nat.le_trans hbd (Nat.le_trans k57'.size k64.size)) yy ?_
      intro u1 u2 u3 w74 hou hu2 k74
      have hdb : ∀ b, OB first28 b → TyB w64 b 57 := fun b hb => (ty_lt hod64 hb).2.2
      have hL74 : LgR w74 lo l p q64 R.1 1 R.2.1 false := ⟨hL64.dk.keep k74 fun b hb => ⟨dk_off hL64.dk (hdb b hb), fun ht => absurd (ht.uniq (hdb b hb)) (by decide)⟩, hL64.bk.keep k74 fun hb => absurd ((hdb _ hb).uniq hL64.bk.ty) (by decide), hL64.lo_⟩
      refine hK [yy] (by rw [hp]; rfl) u1 u2 u3 w74 q64 R.1 R.2.1 hL74 hLI2 (by rw [ap3]; exact hun) ap4 hou ?_
      have kk : Keep (lg l p q) w30 w64 := (k57'.mono fun _ _ h => h.elim).trans k64 (fun _ _ h => h) fun _ _ h => h
      exact kk.trans k74 (fun _ _ h => .inl h) fun _ _ h => .inr h
    · rw [hun] at hA; cases hA
  · refine cond_f rfl ?_
    refine hK [] (by rw [hp]; rfl) _ _ _ w57 q x m (hL.no_ k57') (by rw [List.append_nil]; exact hI) hun (by omega) (by rw [List.append_nil]; exact own_no' hod k57') (k57'.mono fun _ _ h => h.elim)
/-- One operation of the last list. -/
theorem loopN {w16 : World} {ys zs : List Op} {a13 good14 : Option Addr} {l_a13 c_a13 l_good14 c_good14 bc bd : Nat} {i : Nat}
    (hoc : w16.ownsRow bc 57 5 (.slice a13 l_a13 c_a13) l_a13 (opl zs)) (hi : i < zs.length) (hod : w16.ownsRow bd 57 5 (.slice good14 l_good14 c_good14) l_good14 (opl ys)) (hlen : l_good14 ≤ 1000) (hbd : bd ≤ w16.heap.size) {I17 : List Value → World → Prop} {μ18 : List Value → World → Nat}
    (hK : ∀ (y : List Op), y = (plain (zs[i])).toList → ∀ (u1 : Option Addr) (u2 u3 : Nat) (w' : World), w'.ownsRow bd 57 5 (.slice u1 u2 u3) u2 (opl (ys ++ y)) → Keep (OB good14) w16 w' →
      I17 [.slice u1 u2 u3, .int .i64 (IntKind.i64.wrap ((i : Int) + (1 : Int)))] w' ∧ μ18 [.slice u1 u2 u3, .int .i64 (IntKind.i64.wrap ((i : Int) + (1 : Int)))] w' < μ18 [.slice good14 l_good14 c_good14, .int .i64 (i : Nat)] w16) :
    ∃ q19 : Addr, a13 = some q19 ∧ 0 ≤ (i : Int) ∧ (i : Int) < (l_a13 : Nat) ∧ 
          ∃ (n20 : Int), ∃ (n21 : Int), ∃ (n22 : Int), ∃ (n23 : Int), ∃ (n24 : Int), w16.cell? (q19.add ((i : Int).toNat * 5)) = some (.int .i64 n20) ∧ w16.cell? ((q19.add ((i : Int).toNat * 5)).add 1) = some (.int .i64 n21) ∧ w16.cell? ((q19.add ((i : Int).toNat * 5)).add 2) = some (.int .i64 n22) ∧ w16.cell? ((q19.add ((i : Int).toNat * 5)).add 3) = some (.int .i64 n23) ∧ w16.cell? ((q19.add ((i : Int).toNat * 5)).add 4) = some (.int .u32 n24) ∧ 
          let p25 : Nat := w16.heap.size; let w26 : World := w16.alloc (.cells #[.int .i64 0, .int .i64 0, .int .i64 0, .int .i64 0, .int .u32 0] 57); 
          wrN w26 (⟨p25, 0, none⟩ : Addr) 5 ∧ let w27 : World := setN (⟨p25, 0, none⟩ : Addr) 0 [.int .i64 n20, .int .i64 n21, .int .i64 n22, .int .i64 n23, .int .u32 n24] w26; 
          ∃ (op28 : Int), ∃ (op29 : Int), ∃ (op30 : Int), ∃ (op31 : Int), ∃ (op32 : Int), w27.cell? (⟨p25, 0, none⟩ : Addr) = some (.int .i64 op28) ∧ w27.cell? (⟨p25, 1, none⟩ : Addr) = some (.int .i64 op29) ∧ w27.cell? (⟨p25, 2, none⟩ : Addr) = some (.int .i64 op30) ∧ w27.cell? (⟨p25, 3, none⟩ : Addr) = some (.int .i64 op31) ∧ w27.cell? (⟨p25, 4, none⟩ : Addr) = some (.int .u32 op32) ∧ 
          Calls Try.prog 38 #[.agg #[.int .i64 op28, .int .i64 op29, .int .i64 op30, .int .i64 op31, .int .u32 op32]] w27 (fun e33 w34 => ∃ (n35 : Int), ∃ (n36 : Int), ∃ (n37 : Int), ∃ (n38 : Int), ∃ (n39 : Int), ∃ (n40 : Int), e33 = .returned (.tuple #[.agg #[.int .i64 n35, .int .i64 n36, .int .i64 n37, .int .i64 n38, .int .u32 n39], .int .i64 n40]) ∧ 
          let p41 : Nat := w34.heap.size; let w42 : World := w34.alloc (.cells #[.int .i64 0, .int .i64 0, .int .i64 0, .int .i64 0, .int .u32 0] 57); 
          wrN w42 (⟨p41, 0, none⟩ : Addr) 5 ∧ let w43 : World := setN (⟨p41, 0, none⟩ : Addr) 0 [.int .i64 n35, .int .i64 n36, .int .i64 n37, .int .i64 n38, .int .u32 n39] w42; 
          cond (n40 == (0 : Int))
            (∃ (plain44 : Int), ∃ (plain45 : Int), ∃ (plain46 : Int), ∃ (plain47 : Int), ∃ (plain48 : Int), w43.cell? (⟨p41, 0, none⟩ : Addr) = some (.int .i64 plain44) ∧ w43.cell? (⟨p41, 1, none⟩ : Addr) = some (.int .i64 plain45) ∧ w43.cell? (⟨p41, 2, none⟩ : Addr) = some (.int .i64 plain46) ∧ w43.cell? (⟨p41, 3, none⟩ : Addr) = some (.int .i64 plain47) ∧ w43.cell? (⟨p41, 4, none⟩ : Addr) = some (.int .u32 plain48) ∧ 
            let p49 : Nat := w43.heap.size; let w50 : World := w43.alloc (.cells #[.int .i64 plain44, .int .i64 plain45, .int .i64 plain46, .int .i64 plain47, .int .u32 plain48] 57); 
            RunWp Try.prog (Builtin.append_ #[64, 64] 64 #[.slice good14 l_good14 c_good14, .slice (some ⟨p49, 0, none⟩) 1 1]) (fun v51 w52 => ∃ (a53 : Option Addr), ∃ (l_a53 : Nat), ∃ (c_a53 : Nat), v51 = .slice a53 l_a53 c_a53 ∧ 
            I17 [.slice a53 l_a53 c_a53, .int .i64 (IntKind.i64.wrap ((i : Int) + (1 : Int)))] w52 ∧ μ18 [.slice a53 l_a53 c_a53, .int .i64 (IntKind.i64.wrap ((i : Int) + (1 : Int)))] w52 < μ18 [.slice good14 l_good14 c_good14, .int .i64 (i : Nat)] w16) w50)
            (I17 [.slice good14 l_good14 c_good14, .int .i64 (IntKind.i64.wrap ((i : Int) + (1 : Int)))] w43 ∧ μ18 [.slice good14 l_good14 c_good14, .int .i64 (IntKind.i64.wrap ((i : Int) + (1 : Int)))] w43 < μ18 [.slice good14 l_good14 c_good14, .int .i64 (i : Nat)] w16)) := by
  obtain ⟨qz, hqz, z1, z2, o0, o1, o2, o3, o4⟩ := opCell (Rd.own0 hoc) hi
  generalize zs[i] = z at o0 o1 o2 o3 o4 hK
  refine ⟨qz, hqz, z1, z2, _, _, _, _, _, o0, o1, o2, o3, o4, ?_⟩
  obtain ⟨e1, e2, e3⟩ := opNew w16 z
  intro p25 w26
  refine ⟨e1, ?_⟩
  intro w27
  have b27 : Bk w27 p25 (opC z) 57 := e2
  have k27 : Keep no w16 w27 := e3
  clear e1 e2 e3
  clear_value p25 w26 w27
  refine ⟨_, _, _, _, _, b27.cell 0, b27.cell 1, b27.cell 2, b27.cell 3, b27.cell 4, ?_⟩
  refine (plainE w27 z).mono ?_
  rintro e w34 ⟨k34, yy, cd, rfl, hcd⟩
  refine ⟨_, _, _, _, _, _, rfl, ?_⟩
  obtain ⟨e1, e2, e3⟩ := opNew w34 yy
  intro p41 w42
  refine ⟨e1, ?_⟩
  intro w43
  have b43 : Bk w43 p41 (opC yy) 57 := e2
  have k43 : Keep no w34 w43 := e3
  clear e1 e2 e3
  clear_value p41 w42 w43
  have k43' : Keep no w16 w43 := (k27.then k34).then k43
  rcases hcd with ⟨rfl, hp⟩ | ⟨rfl, hp⟩
  · refine cond_t rfl ⟨_, _, _, _, _, b43.cell 0, b43.cell 1, b43.cell 2, b43.cell 3, b43.cell 4, ?_⟩
    intro p49 w50
    refine opPush (own_no' hod k43') (by omega) (Nat.le_trans hbd k43'.size) yy ?_
    intro u1 u2 u3 w52 hou hu2 k52
    exact hK [yy] (by rw [hp]; rfl) u1 u2 u3 w52 hou ((k43'.mono fun _ _ h => h.elim).trans k52 (fun _ _ h => h) fun _ _ h => h)
  · refine cond_f rfl ?_
    exact hK [] (by rw [hp]; rfl) _ _ _ w43 (by rw [List.append_nil]; exact own_no' hod k43') (k43'.mono fun _ _ h => h.elim)
end Go.Proofs.Ytmfidfaiopogbaa
