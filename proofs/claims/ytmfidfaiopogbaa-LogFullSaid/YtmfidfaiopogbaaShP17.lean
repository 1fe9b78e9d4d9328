/- What LogOwn answers. -/
import Derived.Test.YtmfidfaiopogbaaShP15
import Derived.Test.YtmfidfaiopogbaaShLog8
import Derived.Test.YtmfidfaiopogbaaShL17
set_option linter.unusedVariables false
set_option linter.unusedSimpArgs false
set_option linter.unusedSectionVars false
set_option maxRecDepth 4000
namespace Go.Proofs.Ytmfidfaiopogbaa
open Go Go.Sh
open Go.RowKit (Below)
theorem goods_len60 {xs : List Op} (hf : ∀ x ∈ xs, x.fit) : Pl (goods (xs.take 60)) ∧ (goods (xs.take 60)).length ≤ 60 := by
  refine ⟨goods_pl fun x hx => hf x (List.mem_of_mem_take hx), Nat.le_trans (goods_len _) ?_⟩
  rw [List.length_take]; omega
/-- A log of a tidy disk, not dead, that is rewritten. -/
theorem rewM_un {x : A} {f n : Nat} {G : List Op} (hf : f = 1 ∨ f = 2) (ho : x.now.get (3 - f) = []) (ha : x.now.a.length ≤ 1) (hu : x.armed = false) (hp : Pl G) (hl : (recs G).length ≤ 32768) :
    (rewM x f n false G).2.2.2.2 = 0 ∧ (rewM x f n false G).2.1 = 3 - f ∧ (rewM x f n false G).2.2.1 = (recs G).length ∧ (rewM x f n false G).2.2.2.1 = false ∧ (rewM x f n false G).1.armed = false ∧ (rewM x f n false G).1.now = (rwS x.now f (recs G)).set f [] ∧ (rewM x f n false G).1.rest.length = 1 := by
  obtain ⟨r1, r2, r3, r4, r5⟩ := rew_seq (all := recs G) hf ho ha (by omega)
  have h0 := r3 hu
  obtain ⟨r6, r7⟩ := r4 h0
  have e : rewM x f n false G = ((A.seq (rewG f (recs G)) x).1, 3 - f, (recs G).length, false, 0) := by
    simp only [rewM, encs_pl hp]
    rw [if_neg (by omega), lgRun_f, if_pos h0]
    rfl
  rw [e]
  refine ⟨rfl, rfl, rfl, rfl, by rw [← hu]; exact r2, ?_, by rw [r7]; rfl⟩
  show (A.seq (rewG f (recs G)) x).1.now = _
  unfold A.now
  rw [r7]; rfl
local instance avP17 : Av := noAv
set_option maxHeartbeats 1600000 in
theorem own_coreL {w : World} {n c : Nat} {a : Option Addr} {xs : List Op} (h : Rd w 0 5 a n c (opl xs)) (hf : ∀ x ∈ xs, x.fit) : Calls Try.prog 17 #[.slice a n c] w fun e w' => e = .returned (.bool true) ∧ Below w.heap.size w w' := by
  have hO : ∀ v : World, Old v := fun v => noOld v
  refine c17 ?_
  unfold sh17
  refine (new_spec w (hO _)).mono ?_
  rintro e w3 ⟨p, rfl, hd3, k3, _, _⟩
  refine ⟨_, rfl, ?_⟩
  intro K10
  have go : ∀ w9, Keep no w3 w9 → K10 false w9 := by
    intro w9 k9
    refine cond_f rfl ?_
    have K9 := k3.then k9
    refine (cut55_spec (h.no K9)).mono ?_
    rintro e w12 ⟨c1, c2, c3, rfl, k12, hoc, hc60⟩
    refine ⟨_, _, _, rfl, ?_⟩
    obtain ⟨hG, hG60⟩ := goods_len60 hf
    have hcf : ∀ x ∈ xs.take 60, x.fit := fun x hx => hf x (List.mem_of_mem_take hx)
    have hcn := opl_nx hoc
    generalize xs.take 60 = zs at hoc hcf hcn hG hG60
    have hcb : ∀ b, OB c1 b → b < w12.heap.size := fun b hb => (ty_lt hoc hb).1
    have K12 := K9.then k12
    refine ⟨fun vs v => ∃ (i : Nat) (g1 : Option Addr) (g2 g3 : Nat), vs = [.slice g1 g2 g3, .int .i64 i] ∧ i ≤ c2 ∧ v.ownsRow w12.heap.size 57 5 (.slice g1 g2 g3) g2 (opl (goods (zs.take i))) ∧ v.ownsRow w9.heap.size 57 5 (.slice c1 c2 c3) c2 (opl zs) ∧ Keep no w12 v,
      fun vs v => match vs with | [_, .int _ i] => c2 - i.toNat | _ => 0, ⟨0, none, 0, 0, rfl, by omega, World.ownsRow_nil _ _ _ _, hoc, Keep.refl _ _⟩, ?_⟩
    rintro w16 g1 g2 g3 n15 ⟨i, x1, x2, x3, hv, hi, hog, hoc16, k16⟩
    cases hv
    have hg2 := opl_nx hog
    have hgl : (goods (zs.take i)).length ≤ i := Nat.le_trans (goods_len _) (by rw [List.length_take]; omega)
    refine cond_d (fun hlt => ?_) (fun hge => ?_)
    · have hi' : i < zs.length := by omega
      obtain ⟨qz, hqz, z1, z2, o0, o1, o2, o3, o4⟩ := opCell (Rd.own0 hoc16) hi'
      have hgt := goods_take zs i hi'
      generalize zs[i] = o at o0 o1 o2 o3 o4 hgt
      refine ⟨qz, hqz, z1, z2, _, _, _, _, _, o0, o1, o2, o3, o4, ?_⟩
      obtain ⟨e1, e2, e3⟩ := opNew w16 o
      intro p25 w26
      refine ⟨e1, ?_⟩
      intro w27
      have b27 : Bk w27 p25 (opC o) 57 := e2
      have k27 : Keep no w16 w27 := e3
      clear e1 e2 e3
      clear_value p25 w26 w27
      refine ⟨_, _, _, _, _, b27.cell 0, b27.cell 1, b27.cell 2, b27.cell 3, b27.cell 4, ?_⟩
      refine (plainE w27 o).mono ?_
      rintro e w34 ⟨k34, yy, cd, rfl, hcd⟩
      refine ⟨_, _, _, _, _, _, rfl, ?_⟩
      obtain ⟨e1, e2, e3⟩ := opNew w34 yy
      intro p41 w42
      refine ⟨e1, ?_⟩
      intro w43
      have b43 : Bk w43 p41 (opC yy) 57 := e2
      have k43 : Keep no w34 w43 := e3
      clear e1 e2 e3
      clear_value p41 w42 w43
      have k43' : Keep no w16 w43 := (k27.then k34).then k43
      have ei : IntKind.i64.wrap ((i : Int) + 1) = ((i + 1 : Nat) : Int) := by rw [IntWalk.i64_in _ ⟨by omega, by omega⟩]; rfl
      rw [ei]
      have hmu : c2 - ((i + 1 : Nat) : Int).toNat < c2 - (i : Int).toNat := by omega
      have hog43 := own_no' hog k43'
      have hoc43 := own_no' hoc16 k43'
      rcases hcd with ⟨rfl, hp⟩ | ⟨rfl, hp⟩
      · refine cond_t rfl ?_
        refine ⟨_, _, _, _, _, b43.cell 0, b43.cell 1, b43.cell 2, b43.cell 3, b43.cell 4, ?_⟩
        intro p49 w50
        refine opPush hog43 (by omega) ((k16.then k43').size) yy ?_
        intro u1 u2 u3 w52 hou hu2 k52
        have hgb : ∀ b, OB g1 b → w12.heap.size ≤ b := fun b hb => (ty_lt hog43 hb).2.1
        refine ⟨⟨i + 1, u1, u2, u3, rfl, by omega, ?_, own_S hoc43 k52 fun b hb hb2 => ?_, (k16.then k43').new k52 hgb⟩, hmu⟩
        · rw [hgt, hp]; exact hou
        · have t1 := hcb b hb
          have t2 := hgb b hb2
          omega
      · refine cond_f rfl ⟨⟨i + 1, g1, g2, g3, rfl, by omega, ?_, hoc43, k16.then k43'⟩, hmu⟩
        rw [hgt, hp, Option.toList_none, List.append_nil]; exact hog43
    · rw [List.take_of_length_le (by omega)] at hog hg2
      clear hgl
      generalize goods zs = G at hog hg2 hG hG60
      have hrl := recs_len hG
      have K16 := K12.then k16
      have hd16 := hd3.no_ ((k9.then k12).then k16)
      refine (new_open w16 hd16).mono ?_
      rintro e w92 ⟨l, s1, s2, s3, rfl, ⟨q92, hL92, k92, _⟩, hl92, _⟩
      refine ⟨_, _, _, _, _, rfl, ?_⟩
      have hoff : ∀ {b : Nat}, TyB w16 b 57 → ¬ lg l p ⟨none, 0, 0⟩ b := by
        intro b ht hb
        rcases hb with rfl | hb
        · exact absurd ht.lt (by omega)
        · exact (dk_off hd16 ht) hb
      have hog92 := own_S hog k92 fun b hb => hoff (ty_lt hog hb).2.2
      have K92 : Keep no w w92 := K16.new k92 fun b hb => by
        rcases hb with rfl | hb
        · exact Nat.le_trans K16.size hl92
        · exact hd16.new hb
      intro K98
      have g98 : K98 false w92 := by
        refine cond_f rfl ?_
        intro p99 w100
        have o100 : w100.ownsRow w92.heap.size 57 5 (.slice (some ⟨p99, 0, none⟩) 0 0) 0 (opl []) := lit_own w92 57 5 (Nat.le_refl _)
        have k100 : Keep no w92 w100 := Keep.alloc _ _ _
        clear_value p99 w100
        refine rw_append E64 o100 (Rd.own0 (own_no' hog92 k100)) (opl_one _) (by omega) (by simp only [maxLen]; omega) k100.size fun a103 c103 w102 o102 k102 _ => ?_
        have k102' : Keep no w92 w102 := k100.new k102 fun b hb => (ty_lt o100 hb).2.1
        have o102' : w102.ownsRow w92.heap.size 57 5 (.slice a103 (0 + g2) c103) (0 + g2) (opl G) := o102
        rw [Nat.zero_add] at o102'
        rw [Nat.zero_add]
        intro p104 w105
        refine opPush (ys := G) (w := w102) o102' (by omega) k102'.size ⟨55, 0, 0, 0, 0⟩ ?_
        intro r1 r2 r3 w107 ho107 hr2 k107
        have k107' : Keep no w92 w107 := k102'.new k107 fun b hb => (ty_lt o102' hb).2.1
        subst hr2
        have hroom : Rd w107 57 5 r1 (g2 + 1) r3 (opl (G ++ [⟨55, 0, 0, 0, 0⟩])) := Rd.own ho107
        have hrc := hroom.2.1
        have htake : ∀ v, Keep no w107 v → Rd v 57 5 (subS r1 r3 0 5) (g2 - 0) (r3 - 0) (opl G) := by
          intro v kv
          have := Rd.subO (hroom.no kv) (l := 0) (r := g2) (by omega) (by omega)
          rw [List.drop_zero, Nat.sub_zero, hg2, List.take_left] at this
          rw [hg2]; exact this
        intro K119
        have hL107 := hL92.no_ k107'
        have K107 := K92.then k107'
        have hog107 := own_no' hog92 k107'
        obtain ⟨e0, e1, e2, e3, e4, e5, e6⟩ := rewM_un (x := a0) (f := 1) (n := 0) (.inl rfl) rfl (by simp [a0, A.now]) rfl hG (by omega)
        -- behind the Rewrite
        have g119 : ∀ (v : World) (q' : Sv) (y : A), DkR v w.heap.size p q' y → y.armed = false → y.rest.length ≤ 2 → y.now = (rwS a0.now 1 (recs G)).set 1 [] → v.ownsRow w92.heap.size 57 5 (.slice r1 (g2 + 1) r3) (g2 + 1) (opl (G ++ [⟨55, 0, 0, 0, 0⟩])) → v.ownsRow w12.heap.size 57 5 (.slice g1 g2 g3) g2 (opl G) → Keep no w v → w92.heap.size ≤ v.heap.size → K119 false v := by
          intro v q' y hdv huy hry hny hor hogv kv hsv
          unfold K119
          refine cond_f rfl ?_
          have hrb : ∀ b, OB r1 b → w92.heap.size ≤ b ∧ b < v.heap.size ∧ TyB v b 57 := fun b hb => ⟨(ty_lt hor hb).2.1, (ty_lt hor hb).1, (ty_lt hor hb).2.2⟩
          have ej : ∀ m : Nat, m ≤ 1000000 → IntKind.i64.wrap ((m : Int) + 1) = ((m + 1 : Nat) : Int) := fun m hm => by rw [IntWalk.i64_in _ ⟨by omega, by omega⟩]; rfl
          refine ⟨fun vs u => ∃ (j : Nat) (cs : List Value), vs = [.int .i64 j] ∧ j ≤ g2 + 1 ∧ u.ownsRow w92.heap.size 57 5 (.slice r1 (g2 + 1) r3) (g2 + 1) cs ∧ Keep (OB r1) v u, fun vs u => match vs with | [.int _ j] => g2 + 1 - j.toNat | _ => 0, ⟨0, _, rfl, by omega, hor, Keep.refl _ _⟩, ?_⟩
          rintro w121 n120 ⟨j, cs, hv, hj, hor1, k121⟩
          cases hv
          refine cond_d (fun hlt => ?_) (fun hge => ?_)
          · obtain ⟨q1, hq1, hw1, ⟨ys1, ow1⟩, kw1⟩ := own_cells hor1 (i := j) (by omega) (by omega) [.int .i64 0, .int .i64 0, .int .i64 0, .int .i64 0, .int .u32 0] rfl
            refine ⟨q1, hq1, by omega, by omega, by rw [Int.toNat_natCast]; exact hw1, ?_⟩
            rw [Int.toNat_natCast, ej j (by omega)]
            refine ⟨⟨j + 1, _, rfl, by omega, ow1, k121.then kw1⟩, ?_⟩
            show g2 + 1 - ((j + 1 : Nat) : Int).toNat < g2 + 1 - (j : Int).toNat
            omega
          have hd121 : DkR w121 w.heap.size p q' y := hdv.keep k121 fun b hb => ⟨dk_off hdv (hrb b hb).2.2, fun ht => absurd (ht.uniq (hrb b hb).2.2) (by decide)⟩
          have hgb : ∀ b, OB g1 b → b < w92.heap.size := fun b hb => (ty_lt hog92 hb).1
          have hog121 := own_S hogv k121 fun b hb hb2 => by
            have t1 := hgb b hb
            have t2 := (hrb b hb2).1
            omega
          have K121 : Keep no w w121 := kv.new k121 fun b hb => Nat.le_trans K92.size (hrb b hb).1
          -- it is opened, and opened again
          have hw : nmF y.now.a = 2 := by rw [hny]; rfl
          have hops : (scan (y.now.get (nmF y.now.a))).1 = G := by
            rw [hw, hny]
            have := scan_recs hG []
            rw [List.append_nil, scan_nil, List.append_nil] at this
            show (scan (recs G)).1 = G
            rw [this]
          have hnc : openC y.now = [] := by
            unfold openC
            rw [hw]
            have e1' : y.now.get 2 = recs G := by rw [hny]; rfl
            have e2' : y.now.get (3 - 2) = [] := by rw [hny]; rfl
            have e3' : tidyW y.now.a = true := by rw [hny]; rfl
            have := scan_recs hG []
            rw [List.append_nil, scan_nil, List.append_nil, Nat.add_zero] at this
            rw [e1', e2', e3', this]
            simp
          have hsq : (A.seq (openG y.now) y).1 = y := by
            obtain ⟨_, o2, _, o4, _⟩ := open_seq y
            exact (o4 (o2 huy)).2.1 hnc
          refine (open_un hd121 (by omega) huy).mono ?_
          rintro e w127 ⟨l2, m1, m2, m3, rfl, _, _, hl2, ⟨q127, hd127, k127, _⟩, hom⟩
          rw [hsq] at hd127
          rw [hops] at hom
          refine ⟨_, _, _, _, _, rfl, ?_⟩
          have hog127 := own_S hog121 k127 fun b hb => dk_off hd121 (ty_lt hog121 hb).2.2
          have K127 : Keep no w w127 := K121.new k127 fun b hb => hd121.new hb
          refine (open_un hd127 (by omega) huy).mono ?_
          rintro e w132 ⟨l3, t1, t2, t3, rfl, _, _, hl3, ⟨q132, hd132, k132, _⟩, hot⟩
          rw [hops] at hot
          refine ⟨_, _, _, _, _, rfl, ?_⟩
          have hog132 := own_S hog127 k132 fun b hb => dk_off hd127 (ty_lt hog127 hb).2.2
          have hom132 := own_S hom k132 fun b hb => dk_off hd127 (ty_lt hom hb).2.2
          have K132 : Keep no w w132 := K127.new k132 fun b hb => hd127.new hb
          have hm2 := opl_nx hom
          have ht2 := opl_nx hot
          have hmb : ∀ b, OB m1 b → w121.heap.size ≤ b ∧ b < w127.heap.size := fun b hb => ⟨(ty_lt hom132 hb).2.1, (ty_lt hom hb).1⟩
          have htb : ∀ b, OB t1 b → w127.heap.size ≤ b := fun b hb => (ty_lt hot hb).2.1
          -- the first answer is written over
          have after : ∀ u, Keep (OB m1) w132 u → Keep no w u ∧ u.ownsRow w127.heap.size 57 5 (.slice t1 t2 t3) t2 (opl G) ∧ u.ownsRow w12.heap.size 57 5 (.slice g1 g2 g3) g2 (opl G) := by
            intro u ku
            refine ⟨K132.new ku fun b hb => Nat.le_trans K121.size (hmb b hb).1, own_S hot ku fun b hb hb2 => ?_, own_S hog132 ku fun b hb hb2 => ?_⟩
            · have x1 := htb b hb
              have x2 := (hmb b hb2).2
              omega
            · have x1 := (ty_lt hog121 hb).1
              have x2 := (hmb b hb2).1
              omega
          refine ⟨fun vs u => ∃ (j : Nat) (cs : List Value), vs = [.int .i64 j] ∧ j ≤ m2 ∧ u.ownsRow w121.heap.size 57 5 (.slice m1 m2 m3) m2 cs ∧ Keep (OB m1) w132 u, fun vs u => match vs with | [.int _ j] => m2 - j.toNat | _ => 0, ⟨0, _, rfl, by omega, hom132, Keep.refl _ _⟩, ?_⟩
          rintro w137 n136 ⟨j2, cs2, hv, hj2, hom2, k137⟩
          cases hv
          refine cond_d (fun hlt => ?_) (fun hge2 => ?_)
          · obtain ⟨q1, hq1, hw1, ⟨ys1, ow1⟩, kw1⟩ := own_cells hom2 (i := j2) (by omega) (by omega) [.int .i64 66, .int .i64 0, .int .i64 0, .int .i64 0, .int .u32 0] rfl
            refine ⟨q1, hq1, by omega, by omega, by rw [Int.toNat_natCast]; exact hw1, ?_⟩
            rw [Int.toNat_natCast, ej j2 (by omega)]
            refine ⟨⟨j2 + 1, _, rfl, by omega, ow1, k137.then kw1⟩, ?_⟩
            show m2 - ((j2 + 1 : Nat) : Int).toNat < m2 - (j2 : Int).toNat
            omega
          refine ⟨fun vs u => ∃ (j : Nat) (x1 : Option Addr) (x2 x3 : Nat) (cs : List Value), vs = [.slice x1 x2 x3, .int .i64 j] ∧ j ≤ 20 ∧ x2 = m2 + j ∧ u.ownsRow w121.heap.size 57 5 (.slice x1 x2 x3) x2 cs ∧ Keep (OB m1) w132 u ∧ (∀ b, OB x1 b → OB m1 b ∨ w132.heap.size ≤ b),
            fun vs u => match vs with | [_, .int _ j] => 20 - j.toNat | _ => 0, ⟨0, m1, m2, m3, cs2, rfl, by omega, rfl, hom2, k137, fun b hb => .inl hb⟩, ?_⟩
          rintro w144 x1 x2 x3 i143 ⟨j3, y1, y2, y3, cs3, hv, hj3, hx2, hox, k144, hxb⟩
          cases hv
          refine cond_d (fun hlt => ?_) (fun hge3 => ?_)
          · intro p147 w148
            have b148 : Bk w148 p147 (opC ⟨67, 0, 0, 0, 0⟩) 57 := Bk.new w144 _ _
            have k148 : Keep no w144 w148 := Keep.alloc _ _ _
            clear_value p147 w148
            refine rw_append E64 (own_no' hox k148) (Rd.blk0 (sz := 5) (n := 1) b148 rfl (by simp [maxLen])) (by simp [one1]) (by omega) (by simp only [maxLen]; omega) (Nat.le_trans k127.size (Nat.le_trans k132.size (Nat.le_trans k144.size k148.size))) fun a61 c61 w150 o150 k150 hwh => ?_
            rw [ej j3 (by omega)]
            have K148 := k144.no k148
            refine ⟨⟨j3 + 1, a61, x2 + 1, c61, _, rfl, by omega, by omega, o150, K148.trans k150 (fun _ _ h => h) fun b hb hb2 => ?_, ?_⟩, ?_⟩
            · rcases hxb b hb2 with h | h
              · exact h
              · omega
            · intro b hb
              rcases hwh with rfl | rfl
              · exact hxb b hb
              · obtain ⟨z, hz, rfl⟩ := hb
                cases hz
                exact .inr K148.size
            · show 20 - ((j3 + 1 : Nat) : Int).toNat < 20 - (j3 : Int).toNat
              omega
          obtain ⟨A1, A2, A3⟩ := after w144 k144
          refine (Same_spec (Rd.own0 A2) (Rd.own0 A3)).mono ?_
          rintro e w153 ⟨k153, r, rfl, hr⟩
          refine ⟨_, rfl, ?_⟩
          rw [hr.2 rfl]
          have e20 : IntKind.i64.wrap (((g2 : Nat) : Int) + 20) = ((x2 : Nat) : Int) := by rw [IntWalk.i64_in _ ⟨by omega, by omega⟩]; omega
          rw [e20]
          exact cond_t rfl ⟨by simp, (A1.then k153).below⟩
        clear_value K119
        refine ⟨by omega, by omega, ?_⟩
        rw [Int.toNat_natCast g2]
        refine (rewrite_spec hL107 (hO _) (.inl rfl) (by simp [a0]) (htake w107 (Keep.refl _ _)) (fun o ho => (hG o ho).1) (by omega)).mono ?_
        rintro e w110 ⟨rfl, hdid⟩
        rw [e1, e2, e3] at hdid
        rw [e0]
        generalize hyy : (rewM a0 1 0 false G).1 = y at hdid e4 e5 e6
        refine ⟨_, rfl, cond_f rfl ⟨by omega, by omega, ?_⟩⟩
        obtain ⟨q110, hL110, k110, _⟩ := hdid
        have hor110 := own_S ho107 k110 fun b hb => hL107.off (ty_lt ho107 hb).2.2
        have hog110 := own_S hog107 k110 fun b hb => hL107.off (ty_lt hog107 hb).2.2
        have K110 : Keep no w w110 := K107.new k110 fun b hb => hL107.new hb
        have hroom2 : Rd w110 57 5 r1 (g2 + 1) r3 (opl (G ++ [⟨55, 0, 0, 0, 0⟩])) := Rd.own hor110
        have ht2 : Rd w110 57 5 (subS r1 r3 0 5) (g2 - 0) (r3 - 0) (opl G) := by
          have := Rd.subO hroom2 (l := 0) (r := g2) (by omega) (by omega)
          rw [List.drop_zero, Nat.sub_zero, hg2, List.take_left] at this
          rw [hg2]; exact this
        refine (Same_spec ht2 (Rd.own0 hog110)).mono ?_
        rintro e w113 ⟨k113, r, rfl, hr⟩
        refine ⟨_, rfl, ?_⟩
        rw [hr.2 rfl]
        refine cond_f rfl ?_
        obtain ⟨_, qr, hqr, hc0, _⟩ := rd_op (hroom2.no k113) (i := g2) (by simp; omega)
        have e55 : ((G ++ [(⟨55, 0, 0, 0, 0⟩ : Op)])[g2]'(by simp; omega)).k = 55 := by
          rw [List.getElem_append_right (by omega)]
          simp [hg2]
        rw [e55] at hc0
        refine ⟨qr, hqr, by omega, by omega, 55, hc0, ?_⟩
        exact g119 w113 q110 y (hL110.dk.no_ k113) e4 (by omega) e5 (own_no' hor110 k113) (own_no' hog110 k113) (K110.then k113) (Nat.le_trans k107'.size (Nat.le_trans k110.size k113.size))
      clear_value K98
      exact cond_f rfl g98
  clear_value K10
  refine (awakeL_spec w3 (hO _)).mono ?_
  rintro e w6 ⟨rfl, k6⟩
  exact ⟨_, rfl, cond_f rfl (go _ k6)⟩
theorem ownL_row {w : World} {s : Sv} (h : OpsRd w s) : Calls Try.prog 17 #[.slice s.a s.n s.c] w fun e w' => e = .returned (.bool true) ∧ Below w.heap.size w w' := by
  obtain ⟨xs, h1, h2, h3⟩ := h
  exact own_coreL h1 h2
end Go.Proofs.Ytmfidfaiopogbaa
