/- What LogCrashes answers. -/
import Derived.Test.YtmfidfaiopogbaaShP15
import Derived.Test.YtmfidfaiopogbaaShL16
set_option linter.unusedVariables false
set_option linter.unusedSimpArgs false
set_option linter.unusedSectionVars false
set_option maxRecDepth 4000
namespace Go.Proofs.Ytmfidfaiopogbaa
open Go Go.Sh Go.ChangeShapes Go.WideShapes
open Go.RowKit (Below)
def OLR (W : World) (s : Sv) : Prop := ∀ i, i < s.n → ∃ q, s.a = some q ∧ ∃ t : Sv, W.cell? (q.add (i * 1)) = some t.v ∧ OpsRd W t
def ILR (W : World) (s : Sv) : Prop := ∀ i, i < s.n → ∃ q, s.a = some q ∧ ∃ z : Int, W.cell? (q.add (i * 1)) = some (.int .i64 z)
section
variable {H : Type} {enc : TypeId × Value → H} {W : World} {spare : Nat → Bool} {held : Bool}
theorem open_oll {fuel : Nat} {cs : List Value} {x : DataW H × List MemPlace} (h : DataW.trod enc Try.prog W 0 spare held fuel 93 cs = some x) (hf : Fit Try.prog 93 x.1) : ∃ s : Sv, cs = [s.v] ∧ OLR W s := by
  have hc1 : Try.prog.cellsOf 64 = 1 := by kernel_rfl
  rcases Deep.open_slice Try.underlying93 h with ⟨rfl, rfl⟩ | ⟨a, len, cap, m, n, D, Pl, rfl, _, hl, hm, hmm, rfl, hel⟩
  · exact ⟨⟨none, 0, 0⟩, rfl, fun i hi => absurd hi (by simp)⟩
  · have hfit := Fit.slice Try.underlying93 hf
    refine ⟨⟨some a, len, cap⟩, rfl, fun i hi' => ?_⟩
    have hi : i < len := hi'
    have him : i < m := by rw [hmm]; split <;> omega
    obtain ⟨cs', hcs, htr⟩ := hel i him
    rw [hc1] at hcs
    have hfi : Fit Try.prog 64 (D i) := hfit.2 _ (List.mem_map.2 ⟨i, List.mem_range.2 hi, rfl⟩)
    obtain ⟨t, rfl, ht⟩ := open_opl htr hfi
    refine ⟨a, rfl, t, ?_, ht⟩
    unfold World.cells? at hcs
    split at hcs
    · have := mapM_some_get hcs 0 0 (by simp)
      rw [addZ] at this
      simpa using this
    · cases hcs
theorem open_il {fuel : Nat} {cs : List Value} {x : DataW H × List MemPlace} (h : DataW.trod enc Try.prog W 0 spare held fuel 69 cs = some x) (hf : Fit Try.prog 69 x.1) : ∃ s : Sv, cs = [s.v] ∧ ILR W s := by
  rcases open_ints Try.underlying69 Try.underlying3 (by kernel_rfl) h with ⟨rfl, rfl⟩ | ⟨a, len, cap, zs, rfl, _, hl, hm, hz, rfl, hcell, hwf⟩
  · exact ⟨⟨none, 0, 0⟩, rfl, fun i hi => absurd hi (by simp)⟩
  · refine ⟨⟨some a, len, cap⟩, rfl, fun i hi => ⟨a, rfl, zs.getD i 0, ?_⟩⟩
    have hi' : i < len := hi
    rw [Nat.mul_one]
    exact hcell i (by rw [hz]; split <;> omega)
end
theorem own_base {w : World} {lo lo' e sz n : Nat} {v : Value} {cs : List Value} (h : w.ownsRow lo e sz v n cs) (hl : lo' ≤ lo) : w.ownsRow lo' e sz v n cs := by
  refine ⟨h.1, ?_⟩
  rcases h.2 with h2 | ⟨g, cap, cur, e1, e2, e3⟩
  · exact .inl h2
  · exact .inr ⟨g, cap, cur, e1, Nat.le_trans hl e2, e3⟩
theorem now_first {x : A} (h : x.rest = []) : x.now = x.first := by unfold A.now; rw [h]; rfl
/-- A disk of one state, opened. -/
theorem opened_one {x : A} (hr : x.rest = []) (hu : x.armed = false) (ha : x.first.a = []) (hc : x.first.c = []) {P : List Op} (hP : (scan x.first.b).1 = P) :
    nmF x.now.a = 1 ∧ (scan (x.now.get (nmF x.now.a))).1 = P ∧ (A.seq (openG x.now) x).1.rest = [] ∧ (A.seq (openG x.now) x).1.armed = false ∧ Pl P ∧ LI (A.seq (openG x.now) x).1 (scan (x.now.get (nmF x.now.a))).2 false P [] 0 false := by
  have hnow : x.now = x.first := by unfold A.now; rw [hr]; rfl
  have hn1 : nmF x.now.a = 1 := by rw [hnow, ha]; rfl
  have hg : x.now.get (nmF x.now.a) = x.first.b := by rw [hn1, hnow]; rfl
  obtain ⟨o1, o2, o3, o4, o5⟩ := open_seq x
  obtain ⟨p1, p2, p3⟩ := o4 (o2 hu)
  have hrest : (A.seq (openG x.now) x).1.rest = [] := by
    by_cases h0 : openC x.now = []
    · rw [p2 h0]; exact hr
    · exact p3 h0
  obtain ⟨q1, q2, q3, q4⟩ := scan_is _ x.first.b (Nat.le_refl _)
  rw [hP] at q1 q2
  have hlen : (scan x.first.b).2 = (recs P).length := by rw [← q2, List.length_take]; omega
  have hfirst : (A.seq (openG x.now) x).1.first = x.now.opened := by
    rw [← p1]
    exact (now_first hrest).symm
  have hop : x.now.opened = ⟨[], recs P, []⟩ := by
    unfold Fs.opened
    rw [hn1, hnow]
    simp only
    rw [if_neg (by rw [ha]; simp)]
    have : x.first.get 1 = x.first.b := rfl
    rw [this, q2]
    rfl
  refine ⟨hn1, by rw [hg]; exact hP, hrest, by rw [o3]; exact hu, q1, ?_⟩
  rw [hg, hlen]
  exact LI.start q1 hrest (by rw [hfirst, hop]) (by rw [hfirst, hop]) (by rw [hfirst, hop])
local instance : Av := noAv
theorem OpsRd.fits {w : World} {s : Sv} (h : OpsRd w s) : ∃ xs : List Op, Rd w 0 5 s.a s.n s.c (opl xs) ∧ ∀ x ∈ xs, x.fit := by
  obtain ⟨xs, h1, h2, _⟩ := h
  exact ⟨xs, h1, h2⟩
set_option maxHeartbeats 1600000 in
theorem crashes_coreL {w : World} {s1 s2 s3 : Sv} (h1 : OLR w s1) (h2 : ILR w s2) (h3 : ILR w s3) : Calls Try.prog 16 #[.slice s1.a s1.n s1.c, .slice s2.a s2.n s2.c, .slice s3.a s3.n s3.c] w fun e w' => e = .returned (.bool true) ∧ Below w.heap.size w w' := by
  have hO : ∀ v : World, Old v := fun v => noOld v
  refine c16 ?_
  unfold sh16
  refine (new_spec w (hO _)).mono ?_
  rintro e w5 ⟨p6, rfl, hd5, k5, _, _⟩
  refine ⟨_, rfl, ?_⟩
  intro K12
  have go : ∀ w11, Keep no w5 w11 → K12 false w11 := by
    intro w11 k11
    refine cond_f rfl ?_
    refine ⟨fun vs v => ∃ (r p lo : Nat) (q : Sv) (x : A) (f1 : Option Addr) (f2 f3 : Nat) (P : List Op), vs = [dp p, .bool false, .slice f1 f2 f3, .int .i64 r] ∧ r ≤ 6 ∧ DkR v lo p q x ∧ w.heap.size ≤ lo ∧ x.rest = [] ∧ x.armed = false ∧ x.first.a = [] ∧ x.first.c = [] ∧ (scan x.first.b).1 = P ∧
        v.ownsRow w.heap.size 57 5 (.slice f1 f2 f3) f2 (opl P) ∧ P.length ≤ 60 * r ∧ Keep no w v,
      fun vs v => match vs with | [_, _, _, .int _ r] => 6 - r.toNat | _ => 0, ⟨0, p6, _, _, _, none, 0, 0, [], rfl, by omega, hd5.no_ k11, Nat.le_refl _, rfl, rfl, rfl, rfl, by rw [scan_nil], World.ownsRow_nil _ _ _ _, by simp, k5.then k11⟩, ?_⟩
    rintro w17 d13 b14 f1 f2 f3 r16 ⟨r, p, lo, q, x, y1, y2, y3, P, hv, hr6, hd, hlo, hrest, hun, hfa, hfc, hP, hof, hPl, k17⟩
    cases hv
    have hf2 := opl_nx hof
    intro K25
    have stop : ∀ n b1 b2, K25 n b1 b2 false w17 := fun n b1 b2 => cond_f rfl ⟨rfl, k17.below⟩
    have round : ∀ n b1 b2, r < s1.n → r < 6 → K25 n b1 b2 true w17 := by
      intro n20 b1 b2 hrn hr
      refine cond_t rfl ?_
      obtain ⟨a1, a2, a3, a4, a5, a6⟩ := opened_one hrest hun hfa hfc hP
      refine (open_un hd (by rw [hrest]; simp) hun).mono ?_
      rintro e w27 ⟨l, g1, g2, g3, rfl, ⟨q27, hL27, k27, hq27⟩, _, hl27, _, hog⟩
      refine ⟨_, _, _, _, _, rfl, ?_⟩
      rw [a2] at hog
      generalize hy : (A.seq (openG x.now) x).1 = y at a3 a4 a6 hL27
      generalize hm : (scan (x.now.get (nmF x.now.a))).2 = m0 at a6 hL27
      rw [a1] at hL27
      have K27 : Keep no w w27 := k17.new k27 fun b hb => by
        rcases hb with rfl | hb
        · exact Nat.le_trans k17.size hl27
        · exact Nat.le_trans hlo (hd.new hb)
      have hlgoff : ∀ {b : Nat}, TyB w17 b 57 → ¬ lg l p q b := by
        intro b ht hb
        rcases hb with rfl | hb
        · exact absurd ht.lt (by omega)
        · exact (dk_off hd ht) hb
      have hof27 := own_S hof k27 fun b hb => hlgoff (ty_lt hof hb).2.2
      intro K40
      have body : ∀ w39 b1 b2 b3 b4, Keep no w27 w39 → K40 b1 b2 b3 b4 false w39 := by
        intro w39 b1 b2 b3 b4 k39
        refine cond_f rfl ?_
        have K39 := K27.then k39
        obtain ⟨qr, hqr, t, ht, hops⟩ := h1 r hrn
        refine ⟨qr, hqr, by omega, by omega, t.a, t.n, t.c, by rw [Int.toNat_natCast]; exact cell_no K39 ht, ?_⟩
        obtain ⟨xs, hxs, hfit⟩ := hops.fits
        refine (cut55_spec (hxs.no K39)).mono ?_
        rintro e w44 ⟨c1, c2, c3, rfl, k44, hoc, hc60⟩
        refine ⟨_, _, _, rfl, ?_⟩
        have hcf : ∀ x ∈ xs.take 60, x.fit := fun x hx => hfit x (List.mem_of_mem_take hx)
        have hcn := opl_nx hoc
        generalize xs.take 60 = zs at hoc hcf hcn
        have hcb : ∀ b, OB c1 b → b < w44.heap.size := fun b hb => (ty_lt hoc hb).1
        have hof44 := own_no' hof27 (k39.then k44)
        have hfb : ∀ b, OB f1 b → b < w44.heap.size := fun b hb => (ty_lt hof44 hb).1
        have K44 := K39.then k44
        have hL44 := hL27.no_ (k39.then k44)
        -- the loop over the operations
        refine ⟨fun vs v => ∃ (i : Nat) (d1 : Option Addr) (d2 d3 : Nat) (ys : List Op) (safe : Nat) (q' : Sv) (x : A) (m : Nat) (dd : Bool), vs = [.slice d1 d2 d3, .bool false, .int .i64 safe, .int .i64 i] ∧ i ≤ c2 ∧
            LgR v lo l p q' x 1 m dd ∧ LI x m dd P ys safe false ∧ x.armed = false ∧ v.ownsRow w44.heap.size 57 5 (.slice d1 d2 d3) d2 (opl ys) ∧ v.ownsRow w39.heap.size 57 5 (.slice c1 c2 c3) c2 (opl zs) ∧ v.ownsRow w.heap.size 57 5 (.slice f1 f2 f3) f2 (opl P) ∧
            ys.length ≤ i ∧ x.rest.length ≤ 30 * i ∧ m ≤ 22 * (360 + i) ∧ Keep no w v ∧ w44.heap.size ≤ v.heap.size,
          fun vs v => match vs with | [_, _, _, .int _ i] => c2 - i.toNat | _ => 0, ?_, ?_⟩
        · refine ⟨0, none, 0, 0, [], 0, q27, y, m0, false, rfl, by omega, hL44, a6, a4, World.ownsRow_nil _ _ _ _, hoc, hof44, by simp, by rw [a3]; simp, ?_, K44, Nat.le_refl _⟩
          obtain ⟨_, hn, _⟩ := a6.alive rfl
          have := recs_len a5
          rw [List.append_nil] at hn
          omega
        rintro w50 d1 d2 d3 b47 safe48 n49 ⟨i, x1, x2, x3, ys, safe, q', z, m, dd, hv, hi, hLg, hLI, hun', hod, hoc50, hof50, hyi, hxr, hmi, k50, hsz⟩
        cases hv
        have hd2 := opl_nx hod
        have hrl : (recs (P ++ ys)).length ≤ 22 * (P ++ ys).length := recs_len hLI.pl
        rw [List.length_append] at hrl
        refine cond_d (fun hlt => ?_) (fun hge => ?_)
        · have hi' : i < zs.length := by omega
          obtain ⟨qz, hqz, z1, z2, o0, o1, o2, o3, o4⟩ := opCell (Rd.own0 hoc50) hi'
          have hzf := hcf zs[i] (List.getElem_mem hi')
          generalize zs[i] = o at hzf o0 o1 o2 o3 o4
          refine ⟨qz, hqz, z1, z2, _, _, _, _, _, o0, o1, o2, o3, o4, ?_⟩
          obtain ⟨e1, e2, e3⟩ := opNew w50 o
          intro p59 w60
          refine ⟨e1, ?_⟩
          intro w61
          have b61 : Bk w61 p59 (opC o) 57 := e2
          have k61 : Keep no w50 w61 := e3
          clear e1 e2 e3
          clear_value p59 w60 w61
          refine ⟨_, _, _, _, _, b61.cell 0, b61.cell 1, b61.cell 2, b61.cell 3, b61.cell 4, ?_⟩
          refine (plainE w61 o).mono ?_
          rintro e w68 ⟨k68, yy, cd, rfl, hcd⟩
          refine ⟨_, _, _, _, _, _, rfl, ?_⟩
          obtain ⟨e1, e2, e3⟩ := opNew w68 yy
          intro p75 w76
          refine ⟨e1, ?_⟩
          intro w77
          have b77 : Bk w77 p75 (opC yy) 57 := e2
          have k77 : Keep no w68 w77 := e3
          clear e1 e2 e3
          clear_value p75 w76 w77
          have c77 := b61.no (k68.then k77)
          refine ⟨_, _, _, _, _, c77.cell 0, c77.cell 1, c77.cell 2, c77.cell 3, c77.cell 4, ?_⟩
          have k77' : Keep no w50 w77 := (k61.then k68).then k77
          have hLg77 := hLg.no_ k77'
          refine (append_spec hLg77 (hO _) (by omega) (by omega) hzf).mono ?_
          rintro e w84 ⟨rfl, hdid⟩
          refine ⟨_, rfl, ?_⟩
          obtain ⟨q84, hLg84, k84, hq84⟩ := hdid
          have ei : IntKind.i64.wrap ((i : Int) + 1) = ((i + 1 : Nat) : Int) := by rw [IntWalk.i64_in _ ⟨by omega, by omega⟩]; rfl
          rw [ei]
          have hmu : c2 - ((i + 1 : Nat) : Int).toNat < c2 - (i : Int).toNat := by omega
          have K77 := k50.then k77'
          have K84 : Keep no w w84 := K77.new k84 fun b hb => Nat.le_trans hlo (hLg77.new hb)
          have keepL : ∀ {base : Nat} {u1 : Option Addr} {u2 u3 : Nat} {us : List Op}, w50.ownsRow base 57 5 (.slice u1 u2 u3) u2 (opl us) → w84.ownsRow base 57 5 (.slice u1 u2 u3) u2 (opl us) := by
            intro base u1 u2 u3 us hu
            have h77 := own_no' hu k77'
            exact own_S h77 k84 fun b hb => hLg77.off (ty_lt h77 hb).2.2
          have hod84 := keepL hod
          have hoc84 := keepL hoc50
          have hof84 := keepL hof50
          have hsz84 : w44.heap.size ≤ w84.heap.size := Nat.le_trans hsz (Nat.le_trans k77'.size k84.size)
          -- what follows the append
          have tail : ∀ (g1 : Option Addr) (g2 g3 : Nat) (ys' : List Op) (qv : Sv) (r' : A) (m' : Nat) (dd' : Bool) (v : World), LI r' m' dd' P ys' safe false → r'.armed = false → LgR v lo l p qv r' 1 m' dd' → v.ownsRow w44.heap.size 57 5 (.slice g1 g2 g3) g2 (opl ys') → v.ownsRow w39.heap.size 57 5 (.slice c1 c2 c3) c2 (opl zs) → v.ownsRow w.heap.size 57 5 (.slice f1 f2 f3) f2 (opl P) →
              ys'.length ≤ i + 1 → r'.rest.length ≤ 30 * i + 22 → m' ≤ 22 * (360 + (i + 1)) → Keep no w v → w44.heap.size ≤ v.heap.size → ∀ (I51 : List Value → World → Prop),
              (∀ (sf : Nat) (q2 : Sv) (r2 : A) (e2 : Bool) (v' : World), LgR v' lo l p q2 r2 1 m' e2 → LI r2 m' e2 P ys' sf false → r2.armed = false → v'.ownsRow w44.heap.size 57 5 (.slice g1 g2 g3) g2 (opl ys') → v'.ownsRow w39.heap.size 57 5 (.slice c1 c2 c3) c2 (opl zs) → v'.ownsRow w.heap.size 57 5 (.slice f1 f2 f3) f2 (opl P) →
                r2.rest.length ≤ 30 * (i + 1) → Keep no w v' → w44.heap.size ≤ v'.heap.size → I51 [.slice g1 g2 g3, .bool false, .int .i64 sf, .int .i64 (i + 1 : Nat)] v') →
              I51 [.slice g1 g2 g3, .bool false, .int .i64 safe, .int .i64 (i + 1 : Nat)] v ∧
              Calls Try.prog 57 #[dp l] v (fun e105 w106 => ∃ n107 : Int, e105 = .returned (.int .i64 n107) ∧ n107 = 0 ∧ I51 [.slice g1 g2 g3, .bool false, .int .i64 (g2 : Nat), .int .i64 (i + 1 : Nat)] w106) := by
            intro g1 g2 g3 ys' qv r' m' dd' v hI hun2 hLv ho1 ho2 ho3 hyl hrl' hm' kv hsv I51 hI51
            refine ⟨hI51 _ _ _ _ _ hLv hI hun2 ho1 ho2 ho3 (by omega) kv hsv, ?_⟩
            refine (lsync_spec hLv).mono ?_
            rintro e w106 ⟨rfl, q3, hL3, k3, hq3⟩
            obtain ⟨_, b2, b3, b4⟩ := hI.sync
            have K3 : Keep no w w106 := kv.new k3 fun b hb => Nat.le_trans hlo (hLv.new hb)
            refine ⟨_, rfl, ?_⟩
            rcases b2 rfl with ⟨c1', c2'⟩ | ⟨_, hA, _⟩
            · refine ⟨c1', ?_⟩
              have hI := hI51 _ q3 _ _ w106 hL3 c2' (by rw [b3]; exact hun2) (own_S ho1 k3 fun b hb => hLv.off (ty_lt ho1 hb).2.2) (own_S ho2 k3 fun b hb => hLv.off (ty_lt ho2 hb).2.2) (own_S ho3 k3 fun b hb => hLv.off (ty_lt ho3 hb).2.2) (by omega) K3 (Nat.le_trans hsv k3.size)
              rw [← opl_nx ho1] at hI
              exact hI
            · rw [hun2] at hA; cases hA
          have cnt : ∀ (g1 : Option Addr) (g2 g3 : Nat) (ys' : List Op) (qv : Sv) (r' : A) (m' : Nat) (dd' : Bool) (v : World), LI r' m' dd' P ys' safe false → r'.armed = false → LgR v lo l p qv r' 1 m' dd' → v.ownsRow w44.heap.size 57 5 (.slice g1 g2 g3) g2 (opl ys') → v.ownsRow w39.heap.size 57 5 (.slice c1 c2 c3) c2 (opl zs) → v.ownsRow w.heap.size 57 5 (.slice f1 f2 f3) f2 (opl P) →
              ys'.length ≤ i + 1 → r'.rest.length ≤ 30 * i + 22 → m' ≤ 22 * (360 + (i + 1)) → Keep no w v → w44.heap.size ≤ v.heap.size → _ := fun g1 g2 g3 ys' qv r' m' dd' v u1 u2 u3 u4 u5 u6 u7 u8 u9 u10 u11 => tail g1 g2 g3 ys' qv r' m' dd' v u1 u2 u3 u4 u5 u6 u7 u8 u9 u10 u11 (fun vs v => ∃ (i : Nat) (d1 : Option Addr) (d2 d3 : Nat) (ys : List Op) (safe : Nat) (q' : Sv) (x : A) (m : Nat) (dd : Bool), vs = [.slice d1 d2 d3, .bool false, .int .i64 safe, .int .i64 i] ∧ i ≤ c2 ∧
            LgR v lo l p q' x 1 m dd ∧ LI x m dd P ys safe false ∧ x.armed = false ∧ v.ownsRow w44.heap.size 57 5 (.slice d1 d2 d3) d2 (opl ys) ∧ v.ownsRow w39.heap.size 57 5 (.slice c1 c2 c3) c2 (opl zs) ∧ v.ownsRow w.heap.size 57 5 (.slice f1 f2 f3) f2 (opl P) ∧
            ys.length ≤ i ∧ x.rest.length ≤ 30 * i ∧ m ≤ 22 * (360 + i) ∧ Keep no w v ∧ w44.heap.size ≤ v.heap.size) fun sf q2 r2 e2 v' t1 t2 t3 t4 t5 t6 t7 t8 t9 => ⟨i + 1, g1, g2, g3, ys', sf, q2, r2, m', e2, rfl, by omega, t1, t2, t3, t4, t5, t6, u7, t7, by omega, t8, t9⟩
          rcases hcd with ⟨rfl, hp⟩ | ⟨rfl, hp⟩
          · obtain ⟨_, ap2, ap3, ap4, ap5⟩ := hLI.append hzf hp (by omega) (by omega)
            generalize hrr : appM z 1 m dd o = ra at ap2 ap3 ap4 ap5 hLg84
            rcases ap2 rfl with ⟨hc0, hLI2⟩ | ⟨_, hA, _⟩
            · rw [hc0]
              refine cond_f rfl ?_
              intro K98
              have g98 : ∀ (g1 : Option Addr) (g2 g3 : Nat) (v : World), LgR v lo l p q84 ra.1 1 ra.2.1 ra.2.2.1 → v.ownsRow w44.heap.size 57 5 (.slice g1 g2 g3) g2 (opl (ys ++ [yy])) → v.ownsRow w39.heap.size 57 5 (.slice c1 c2 c3) c2 (opl zs) → v.ownsRow w.heap.size 57 5 (.slice f1 f2 f3) f2 (opl P) → Keep no w v → w44.heap.size ≤ v.heap.size → K98 g1 g2 g3 v := by
                intro g1 g2 g3 v hLv u4 u5 u6 kv hsv
                obtain ⟨t1, t2⟩ := cnt g1 g2 g3 (ys ++ [yy]) q84 ra.1 ra.2.1 ra.2.2.1 v hLI2 (by rw [ap3]; exact hun') hLv u4 u5 u6 (by simp; omega) (by omega) (by omega) kv hsv
                unfold K98
                intro K104
                have gno : ∀ b, K104 b false v := fun b => cond_f rfl ⟨t1, hmu⟩
                have gyes : ∀ b, K104 b true v := by
                  intro b
                  refine cond_t rfl (t2.mono ?_)
                  rintro e w106 ⟨n107, rfl, rfl, hI⟩
                  exact ⟨_, rfl, cond_f rfl ⟨hI, hmu⟩⟩
                clear_value K104
                refine cond_d (fun hsn => ?_) (fun _ => gno _)
                obtain ⟨qs, hqs, zz, hzz⟩ := h2 r (by omega)
                refine ⟨qs, hqs, by omega, by omega, zz, by rw [Int.toNat_natCast]; exact cell_no kv hzz, ?_⟩
                cases ((i : Int) == zz) with
                | true => exact gyes _
                | false => exact gno _
              clear_value K98
              refine cond_t rfl ?_
              have b84 : Bk w84 p75 (opC yy) 57 := b77.keep k84 (hLg77.off b77.ty)
              refine ⟨_, _, _, _, _, b84.cell 0, b84.cell 1, b84.cell 2, b84.cell 3, b84.cell 4, ?_⟩
              intro p91 w92
              refine opPush hod84 (by omega) hsz84 yy ?_
              intro g1 g2 g3 w94 ho94 hg2 k94
              have hdb : ∀ b, OB d1 b → w44.heap.size ≤ b ∧ TyB w84 b 57 := fun b hb => ⟨(ty_lt hod84 hb).2.1, (ty_lt hod84 hb).2.2⟩
              have hLg94 : LgR w94 lo l p q84 ra.1 1 ra.2.1 ra.2.2.1 := by
                refine ⟨hLg84.dk.keep k94 fun b hb => ⟨dk_off hLg84.dk (hdb b hb).2, fun ht => absurd (ht.uniq (hdb b hb).2) (by decide)⟩, hLg84.bk.keep k94 fun hb => absurd ((hdb _ hb).2.uniq hLg84.bk.ty) (by decide), hLg84.lo_⟩
              have hoc94 := own_S hoc84 k94 fun b hb hb2 => by
                have u1 := hcb b hb
                have u2 := (hdb b hb2).1
                omega
              have hof94 := own_S hof84 k94 fun b hb hb2 => by
                have u1 := hfb b hb
                have u2 := (hdb b hb2).1
                omega
              exact g98 g1 g2 g3 w94 hLg94 ho94 hoc94 hof94 (K84.new k94 fun b hb => Nat.le_trans K44.size (hdb b hb).1) (Nat.le_trans hsz84 k94.size)
            · rw [hun'] at hA; cases hA
          · have e1 : appM z 1 m dd o = (z, m, dd, 190) := by simp only [appM, (enc_plain o).2 hp]
            rw [e1] at hLg84 ⊢
            refine cond_f rfl ?_
            obtain ⟨t1, t2⟩ := cnt d1 d2 d3 ys q84 z m dd w84 hLI hun' hLg84 hod84 hoc84 hof84 (by omega) (by omega) (by omega) K84 hsz84
            intro K98
            have g98 : K98 d1 d2 d3 w84 := by
              unfold K98
              intro K104
              have gno : ∀ b, K104 b false w84 := fun b => cond_f rfl ⟨t1, hmu⟩
              have gyes : ∀ b, K104 b true w84 := by
                intro b
                refine cond_t rfl (t2.mono ?_)
                rintro e w106 ⟨n107, rfl, rfl, hI⟩
                exact ⟨_, rfl, cond_f rfl ⟨hI, hmu⟩⟩
              clear_value K104
              refine cond_d (fun hsn => ?_) (fun _ => gno _)
              obtain ⟨qs, hqs, zz, hzz⟩ := h2 r (by omega)
              refine ⟨qs, hqs, by omega, by omega, zz, by rw [Int.toNat_natCast]; exact cell_no K84 hzz, ?_⟩
              cases ((i : Int) == zz) with
              | true => exact gyes _
              | false => exact gno _
            clear_value K98
            exact cond_f rfl g98
        · -- all is appended: the power goes
          have hlost := hLI.lost
          refine (lost_spec hLg.dk (by omega) (Rd.own0 hof50) (Rd.own0 hod) (safe := safe) (by omega) (by omega) hlost).mono ?_
          rintro e w159 ⟨rfl, k159⟩
          refine ⟨_, rfl, cond_f rfl ?_⟩
          intro K165
          have g165 : ∀ keep, K165 keep w159 := by
            intro keep
            unfold K165
            have hd159 := hLg.dk.no_ k159
            have K159 := k50.then k159
            refine (Crash_spec hd159 keep).mono ?_
            rintro e w167 ⟨p168, rfl, hd167, k167⟩
            refine ⟨_, rfl, ?_⟩
            obtain ⟨cn1, cn2, cn3⟩ := crash_now z keep
            generalize hxk : z.Crash keep = xk at hd167 cn1 cn2 cn3
            have hnow : xk.now = xk.first := by unfold A.now; rw [cn3]; rfl
            obtain ⟨st1, st2, _⟩ := hLI.sts _ cn1
            obtain ⟨k, hk1, hk2, hk3⟩ := hlost _ cn1
            refine (Crash_spec hd167 0).mono ?_
            rintro e w170 ⟨p171, rfl, hd170, k170⟩
            refine ⟨_, rfl, ?_⟩
            have hx0 : (xk.Crash 0) = ⟨xk.first, [], 0, false, 0⟩ := by
              unfold A.Crash A.keep A.st
              rw [cn3]; rfl
            rw [hx0] at hd170
            refine (Arm_spec hd170 r (by omega)).mono ?_
            rintro e w173 ⟨rfl, q173, hd173, k173, hq173⟩
            refine ⟨_, rfl, ?_⟩
            have hArm : ((⟨xk.first, [], 0, false, 0⟩ : A).Arm r).1 = ⟨xk.first, [], 0, true, r⟩ := by
              unfold A.Arm
              rw [if_neg (by omega)]; rfl
            rw [hArm] at hd173
            have K167 := K159.then k167
            have K170 := K167.then k170
            have hfresh : ∀ b, dk p171 ⟨none, 0, 0⟩ b → w167.heap.size ≤ b := fun b hb => hd170.new hb
            have K173 : Keep no w167 w173 := k170.new k173 hfresh
            have hnow2 : (⟨xk.first, [], 0, true, r⟩ : A).now = xk.now := hnow.symm
            refine (open_spec hd173 (by simp)).mono ?_
            rintro e w176 ⟨⟨q176, hd176, k176, hq176⟩, hcase⟩
            have hlo2 : ∀ b, dk p171 q173 b → w167.heap.size ≤ b := fun b hb => hd173.new hb
            have K176 : Keep no w167 w176 := K173.new k176 hlo2
            obtain ⟨o1, o2, o3, o4, o5⟩ := open_seq ⟨xk.first, [], 0, true, r⟩
            rw [hnow2] at o1 o2 o3 o4 o5 hcase hd176
            -- what is opened at the end
            have hod159 := own_no' hod k159
            have hof159 := own_no' hof50 k159
            have hshape : ∃ (p177 : Option Addr) (u1 : Option Addr) (u2 u3 : Nat) (n179 : Int), e = .returned (.tuple #[.pointer p177, .slice u1 u2 u3, .int .i64 n179]) ∧ ((n179 = 180 ∧ p177 = none ∧ u2 = 0) ∨ (n179 = 0 ∧ w176.ownsRow w.heap.size 57 5 (.slice u1 u2 u3) u2 (opl (P ++ ys.take k)))) := by
              rcases hcase with ⟨hne, rfl⟩ | ⟨h0, l2, u1, u2, u3, rfl, hl2, _, hou⟩
              · exact ⟨_, _, _, _, _, rfl, .inl ⟨rfl, rfl, rfl⟩⟩
              · rw [hk3] at hou
                exact ⟨_, _, _, _, _, rfl, .inr ⟨rfl, own_base hou (Nat.le_trans K167.size K173.size)⟩⟩
            obtain ⟨p177, v1, v2, v3, n179, rfl, hsh⟩ := hshape
            refine ⟨_, _, _, _, _, rfl, ?_⟩
            intro K199
            have f199 : ∀ (u1 : Option Addr) (u2 u3 : Nat) (p2 : Option Addr) (v : World), Keep no w167 v → v.ownsRow w.heap.size 57 5 (.slice u1 u2 u3) u2 (opl (P ++ ys.take k)) → K199 u1 u2 u3 0 p2 v := by
              intro u1 u2 u3 p2 v kv hou
              unfold K199
              intro K211 w200
              have k200 : Keep no w167 w200 := kv.then (Keep.drew _ _)
              have hou2 : w200.ownsRow w.heap.size 57 5 (.slice u1 u2 u3) u2 (opl (P ++ ys.take k)) := own_no' hou (Keep.drew _ _)
              clear_value w200
              have hu2 := opl_nx hou2
              rw [List.length_append, List.length_take, Nat.min_eq_left hk2] at hu2
              have good : ∀ b1 b2 b3 b4 b5 w210, Keep no w200 w210 → K211 b1 b2 b3 b4 b5 false w210 := by
                intro b1 b2 b3 b4 b5 w210 k210
                refine cond_f rfl ?_
                have er : IntKind.i64.wrap ((r : Int) + 1) = ((r + 1 : Nat) : Int) := by rw [IntWalk.i64_in _ ⟨by omega, by omega⟩]; rfl
                rw [er]
                refine ⟨⟨r + 1, p168, _, _, xk, u1, u2, u3, P ++ ys.take k, rfl, by omega, hd167.no_ (k200.then k210), K159.size, cn3, cn2, by rw [← hnow]; exact st1, by rw [← hnow]; exact st2, ?_, own_no' hou2 k210, ?_, (K167.then k200).then k210⟩, ?_⟩
                · have : xk.now.get (nmF xk.now.a) = xk.first.b := by rw [st1, hnow]; rfl
                  rw [← this]; exact hk3
                · rw [List.length_append, List.length_take]
                  have := Nat.min_le_left k ys.length
                  omega
                · show 6 - ((r + 1 : Nat) : Int).toNat < 6 - (r : Int).toNat
                  omega
              clear_value K211
              have en : IntKind.i64.wrap (((u2 : Nat) : Int) - ((f2 : Nat) : Int)) = ((k : Nat) : Int) := by rw [hu2, hf2, IntWalk.i64_in _ ⟨by omega, by omega⟩]; omega
              rw [en]
              refine cond_f rfl ?_
              refine cond_d (fun hlt => by omega) (fun _ => ?_)
              refine cond_d (fun hlt => by omega) (fun _ => ?_)
              have hdo : Rd w200 0 5 d1 d2 d3 (opl ys) := Rd.own0 (own_no' hod159 (k167.then k200))
              have hdcap := hdo.2.1
              refine ⟨by omega, by omega, by omega, by omega, ?_⟩
              have ro : Rd w200 57 5 u1 u2 u3 (opl (P ++ ys.take k)) := Rd.own hou2
              have r2 := Rd.subO ro (l := f2) (r := u2) (by omega) (Nat.le_refl _)
              have e2 : ((P ++ ys.take k).drop f2).take (u2 - f2) = ys.take k := by
                rw [hf2, List.drop_left, List.take_of_length_le (by rw [List.length_take]; omega)]
              rw [e2] at r2
              have r3 := Rd.subO hdo (l := 0) (r := k) (by omega) (by omega)
              rw [List.drop_zero] at r3
              have r3' : Rd w200 0 5 (subS d1 d3 0 5) (k - 0) (d3 - 0) (opl (ys.take k)) := r3
              rw [Int.toNat_natCast f2, Int.toNat_natCast k]
              refine (Same_spec r2 r3').mono ?_
              rintro e w202 ⟨k202, r', rfl, hr'⟩
              refine ⟨_, rfl, ?_⟩
              rw [hr'.2 rfl]
              exact good _ _ _ _ _ _ k202
            clear_value K199
            rcases hsh with ⟨rfl, rfl, rfl⟩ | ⟨rfl, hou⟩
            · refine cond_t rfl ?_
              intro K186
              refine cond_f rfl (cond_f rfl ?_)
              refine cond_f rfl ?_
              refine (Crash_spec hd176 keep).mono ?_
              rintro e w188 ⟨p189, rfl, hd188, k188⟩
              refine ⟨_, rfl, ?_⟩
              obtain ⟨dn1, dn2, dn3⟩ := crash_now (A.seq (openG xk.now) ⟨xk.first, [], 0, true, r⟩).1 keep
              generalize (A.seq (openG xk.now) ⟨xk.first, [], 0, true, r⟩).1.Crash keep = xe at hd188 dn1 dn2 dn3
              have heqv : Eqv xk.now xe.now := by
                rcases o5 _ dn1 with hs | hs
                · have : xe.now = xk.first := by simpa [A.sts] using hs
                  rw [this, hnow]; exact Eqv.refl _
                · exact hs
              refine (open_un hd188 (by rw [dn3]; simp) dn2).mono ?_
              rintro e w191 ⟨l3, u1, u2, u3, rfl, _, _, _, ⟨q191, hd191, k191, _⟩, hou⟩
              refine ⟨_, _, _, _, _, rfl, ?_⟩
              have hops : (scan (xe.now.get (nmF xe.now.a))).1 = P ++ ys.take k := by rw [heqv.1, heqv.2]; exact hk3
              rw [hops] at hou
              have K191 : Keep no w167 w191 := (K176.then k188).new k191 fun b hb => Nat.le_trans K176.size (hd188.new hb)
              exact f199 _ _ _ _ _ K191 (own_base hou (Nat.le_trans K167.size (Nat.le_trans K176.size k188.size)))
            · exact cond_f rfl (f199 _ _ _ _ _ K176 hou)
          clear_value K165
          refine cond_d (fun hkn => ?_) (fun _ => g165 0)
          obtain ⟨qs, hqs, zz, hzz⟩ := h3 r (by omega)
          exact ⟨qs, hqs, by omega, by omega, zz, by rw [Int.toNat_natCast]; exact cell_no (k50.then k159) hzz, g165 zz⟩
      clear_value K40
      refine cond_f rfl (cond_f rfl ?_)
      refine (Same_spec (Rd.own0 hog) (Rd.own0 hof27)).mono ?_
      rintro e w32 ⟨k32, rr, rfl, hrr⟩
      refine ⟨_, rfl, ?_⟩
      rw [hrr.2 rfl]
      exact body _ _ _ _ _ k32
    clear_value K25
    refine cond_d (fun hlt => ?_) (fun _ => stop _ _ _)
    by_cases h6 : r < 6
    · rw [decide_eq_true (show (r : Int) < 6 by omega)]; exact round _ _ _ (by omega) h6
    · rw [decide_eq_false (show ¬ (r : Int) < 6 by omega)]; exact stop _ _ _
  clear_value K12
  refine (awakeL_spec w5 (hO _)).mono ?_
  rintro e w8 ⟨rfl, k8⟩
  exact ⟨_, rfl, cond_f rfl (go _ k8)⟩
end Go.Proofs.Ytmfidfaiopogbaa
