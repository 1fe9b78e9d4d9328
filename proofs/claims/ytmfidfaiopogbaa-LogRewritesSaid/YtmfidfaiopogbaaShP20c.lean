/- What LogRewrites answers: all of it. -/
import Derived.Test.YtmfidfaiopogbaaShP20b
set_option linter.unusedVariables false
set_option linter.unusedSimpArgs false
set_option linter.unusedSectionVars false
set_option maxRecDepth 4000
namespace Go.Proofs.Ytmfidfaiopogbaa
open Go Go.Sh
open Go.RowKit (Below)
local instance avP20c : Av := noAv
theorem goods_le (zs : List Op) (i : Nat) : (goods (zs.take i)).length ≤ i := Nat.le_trans (goods_len _) (by rw [List.length_take]; omega)
set_option maxHeartbeats 2000000 in
theorem rew_coreL {w : World} {s t u : Sv} {z : Int} (h : TurnR w s t u z) : Calls Try.prog 20 #[.agg #[.slice s.a s.n s.c, .slice t.a t.n t.c, .slice u.a u.n u.c, .int .i64 z]] w fun e w' => e = .returned (.bool true) ∧ Below w.heap.size w w' := by
  have hO : ∀ v : World, Old v := fun v => noOld v
  obtain ⟨⟨xs1, hx1, hf1⟩, ⟨xs2, hx2, hf2⟩, ⟨xs3, hx3, hf3⟩, hz⟩ := h
  refine c20 ?_
  unfold sh20
  intro p5 w6
  have b6 : Bk w6 p5 #[.slice s.a s.n s.c, .slice t.a t.n t.c, .slice u.a u.n u.c, .int .i64 z] 105 := Bk.new _ _ _
  have k6 : Keep no w w6 := Keep.alloc _ _ _
  clear_value p5 w6
  refine (new_spec w6 (hO _)).mono ?_
  rintro e w8 ⟨p, rfl, hd8, k8, _, _⟩
  refine ⟨_, rfl, ?_⟩
  intro K15
  have go : ∀ w14, Keep no w8 w14 → K15 false w14 := by
    intro w14 k14
    refine cond_f rfl ?_
    have hd14 := hd8.no_ k14
    have K14 := (k6.then k8).then k14
    have b14 := b6.no (k8.then k14)
    refine (new_open w14 hd14).mono ?_
    rintro e w17 ⟨l, t1, t2, t3, rfl, ⟨q17, hL17, k17, _⟩, hl17, _⟩
    refine ⟨_, _, _, _, _, rfl, ?_⟩
    have K17 : Keep no w w17 := K14.new k17 fun b hb => by
      rcases hb with rfl | hb
      · exact Nat.le_trans K14.size hl17
      · exact Nat.le_trans k6.size (hd14.new hb)
    have b17 : Bk w17 p5 _ 105 := b14.keep k17 fun hb => by
      rcases hb with rfl | hb
      · exact absurd b14.lt (by omega)
      · exact (dk_off hd14 b14.ty) hb
    have hlo : ∀ {v : World} {q : Sv} {x : A} {f n : Nat} {d : Bool}, LgR v w6.heap.size l p q x f n d → ∀ b, lg l p q b → w.heap.size ≤ b := fun hL b hb => Nat.le_trans k6.size (hL.new hb)
    intro K23
    have g23 : K23 false w17 := by
      refine cond_f rfl ?_
      refine ⟨_, _, _, b17.cell 0, ?_⟩
      refine (cut55_spec (hx1.no K17)).mono ?_
      rintro e w26 ⟨c1, c2, c3, rfl, k26, hoc, hc60⟩
      refine ⟨_, _, _, rfl, ?_⟩
      have hcf : ∀ x ∈ xs1.take 60, x.fit := fun x hx => hf1 x (List.mem_of_mem_take hx)
      generalize xs1.take 60 = zs at hoc hcf
      have hcn := opl_nx hoc
      have hcb : ∀ b, OB c1 b → b < w26.heap.size := fun b hb => (ty_lt hoc hb).1
      obtain ⟨Ia, hIa⟩ : ∃ I : List Value → World → Prop, I = fun vs v => ∃ (i : Nat) (d1 : Option Addr) (d2 d3 : Nat) (q : Sv) (x : A) (m : Nat), vs = [.slice d1 d2 d3, .int .i64 i] ∧ i ≤ c2 ∧ LgR v w6.heap.size l p q x 1 m false ∧ LI x m false [] (goods (zs.take i)) 0 false ∧ x.armed = false ∧ v.ownsRow w26.heap.size 57 5 (.slice d1 d2 d3) d2 (opl (goods (zs.take i))) ∧
          v.ownsRow w17.heap.size 57 5 (.slice c1 c2 c3) c2 (opl zs) ∧ Bk v p5 #[.slice s.a s.n s.c, .slice t.a t.n t.c, .slice u.a u.n u.c, .int .i64 z] 105 ∧ x.rest.length ≤ 30 * i ∧ Keep no w v ∧ w26.heap.size ≤ v.heap.size := ⟨_, rfl⟩
      obtain ⟨μa, hμa⟩ : ∃ μ : List Value → World → Nat, μ = fun vs v => match vs with | [_, .int _ i] => c2 - i.toNat | _ => 0 := ⟨_, rfl⟩
      refine ⟨Ia, μa, by rw [hIa]; exact ⟨0, none, 0, 0, q17, a0, 0, rfl, by omega, hL17.no_ k26, LI.start (x := a0) (P := []) (fun y hy => by simp at hy) rfl rfl rfl rfl, rfl, World.ownsRow_nil _ _ _ _, hoc, b17.no k26, by simp [a0], K17.then k26, Nat.le_refl _⟩, ?_⟩
      intro w30 d1 d2 d3 n29 hIa'
      rw [hIa] at hIa'
      obtain ⟨i, x1, x2, x3, q, x, m, hv, hi, hL, hI, hun, hod, hoc30, b30, hxr, k30, hsz⟩ := hIa'
      cases hv
      have hd2 := opl_nx hod
      have hgl := goods_le zs i
      refine cond_d (fun hlt => ?_) (fun hge => ?_)
      · have hi' : i < zs.length := by omega
        refine loopA hoc30 hi' hcf hod (by omega) hsz hL hI hun (by omega) (by omega) fun y hy u1 u2 u3 w' q' x' m' hL' hI' hun' hr' hou k' => ?_
        have ei : IntKind.i64.wrap ((i : Int) + 1) = ((i + 1 : Nat) : Int) := by rw [IntWalk.i64_in _ ⟨by omega, by omega⟩]; rfl
        rw [ei]
        have hgt := goods_take zs i hi'
        rw [← hy] at hgt
        have hdb : ∀ b, OB d1 b → w26.heap.size ≤ b ∧ TyB w30 b 57 := fun b hb => ⟨(ty_lt hod hb).2.1, (ty_lt hod hb).2.2⟩
        rw [hIa, hμa]
        refine ⟨⟨i + 1, u1, u2, u3, q', x', m', rfl, by omega, hL', by rw [hgt]; exact hI', hun', by rw [hgt]; exact hou, ownG hoc30 k' fun b hb ht hlt _ hb2 => ?_, b30.keep k' fun hb2 => ?_, by omega, k30.new k' fun b hb => ?_, Nat.le_trans hsz k'.size⟩, by show c2 - ((i + 1 : Nat) : Int).toNat < c2 - (i : Int).toNat; omega⟩
        · rcases hb2 with hb2 | hb2
          · exact (hL.off ht) hb2
          · have y1 := hcb b hb
            have y2 := (hdb b hb2).1
            omega
        · rcases hb2 with hb2 | hb2
          · exact (hL.off b30.ty) hb2
          · exact absurd ((hdb _ hb2).2.uniq b30.ty) (by decide)
        · rcases hb with hb | hb
          · exact hlo hL b hb
          · exact Nat.le_trans (K17.then k26).size (hdb b hb).1
      rw [List.take_of_length_le (by omega)] at hI hod hgl
      have hF : (goods zs).length ≤ 60 := by omega
      generalize goods zs = F at hI hod hF hgl
      clear hgl hoc30
      -- a Sync
      obtain ⟨_, sy2, sy3, sy4⟩ := hI.sync
      refine (lsync_spec hL).mono ?_
      rintro e w114 ⟨rfl, q114, hL114, k114, _⟩
      rcases sy2 rfl with ⟨hc0, hI2⟩ | ⟨_, hA, _⟩
      rotate_left
      · rw [hun] at hA; cases hA
      refine ⟨_, rfl, ?_⟩
      rw [hc0]
      refine cond_f rfl ?_
      have hdd : (lgRun false x x.Sync).2.1 = false := (hI2.alive rfl).1
      rw [hdd] at hL114 hI2
      generalize hxx : (lgRun false x x.Sync).1 = xb at hL114 hI2 sy3 sy4
      have hod114 := own_S hod k114 fun b hb => hL.off (ty_lt hod hb).2.2
      have b114 := b30.keep k114 (hL.off b30.ty)
      have K114 : Keep no w w114 := k30.new k114 (hlo hL)
      refine ⟨_, _, _, b114.cell 1, ?_⟩
      refine (cut55_spec (hx2.no K114)).mono ?_
      rintro e w118 ⟨m1, m2, m3, rfl, k118, hom, hm60⟩
      refine ⟨_, _, _, rfl, ?_⟩
      have hmf : ∀ x ∈ xs2.take 60, x.fit := fun x hx => hf2 x (List.mem_of_mem_take hx)
      generalize xs2.take 60 = ms at hom hmf
      have hmn := opl_nx hom
      have hmb : ∀ b, OB m1 b → b < w118.heap.size := fun b hb => (ty_lt hom hb).1
      have hod118 := own_no' hod114 k118
      have hFb : ∀ b, OB d1 b → b < w118.heap.size := fun b hb => (ty_lt hod118 hb).1
      obtain ⟨Ib, hIb⟩ : ∃ I : List Value → World → Prop, I = fun vs v => ∃ (i : Nat) (g1 : Option Addr) (g2 g3 : Nat) (q : Sv) (x : A) (m : Nat), vs = [.slice g1 g2 g3, .int .i64 i] ∧ i ≤ m2 ∧ LgR v w6.heap.size l p q x 1 m false ∧ LI x m false [] (F ++ goods (ms.take i)) F.length false ∧ x.armed = false ∧ v.ownsRow w118.heap.size 57 5 (.slice g1 g2 g3) g2 (opl (goods (ms.take i))) ∧
          v.ownsRow w114.heap.size 57 5 (.slice m1 m2 m3) m2 (opl ms) ∧ v.ownsRow w26.heap.size 57 5 (.slice d1 d2 d3) d2 (opl F) ∧ Bk v p5 #[.slice s.a s.n s.c, .slice t.a t.n t.c, .slice u.a u.n u.c, .int .i64 z] 105 ∧ x.rest.length ≤ 2000 + 30 * i ∧ Keep no w v ∧ w118.heap.size ≤ v.heap.size := ⟨_, rfl⟩
      obtain ⟨μb, hμb⟩ : ∃ μ : List Value → World → Nat, μ = fun vs v => match vs with | [_, .int _ i] => m2 - i.toNat | _ => 0 := ⟨_, rfl⟩
      refine ⟨Ib, μb, by rw [hIb]; exact ⟨0, none, 0, 0, q114, xb, m, rfl, by omega, hL114.no_ k118, by rw [List.take_zero]; show LI xb m false [] (F ++ []) F.length false; rw [List.append_nil]; exact hI2, by rw [sy3]; exact hun, World.ownsRow_nil _ _ _ _, hom, hod118, b114.no k118, by omega, K114.then k118, Nat.le_refl _⟩, ?_⟩
      intro w122 g1 g2 g3 n121 hIb'
      rw [hIb] at hIb'
      obtain ⟨j, x1, x2, x3, q2, y, mm, hv, hj, hL2, hI3, hun2, hog, hom2, hod2, b122, hyr, k122, hsz2⟩ := hIb'
      cases hv
      have hg2 := opl_nx hog
      have hgl2 := goods_le ms j
      refine cond_d (fun hlt => ?_) (fun hge2 => ?_)
      · have hj' : j < ms.length := by omega
        refine loopA hom2 hj' hmf hog (by omega) hsz2 hL2 hI3 hun2 (by rw [List.length_append]; omega) (by omega) fun yy hy u1 u2 u3 w' q' x' m' hL' hI' hun' hr' hou k' => ?_
        have ei : IntKind.i64.wrap ((j : Int) + 1) = ((j + 1 : Nat) : Int) := by rw [IntWalk.i64_in _ ⟨by omega, by omega⟩]; rfl
        rw [ei]
        have hgt := goods_take ms j hj'
        rw [← hy] at hgt
        have hdb : ∀ b, OB g1 b → w118.heap.size ≤ b ∧ TyB w122 b 57 := fun b hb => ⟨(ty_lt hog hb).2.1, (ty_lt hog hb).2.2⟩
        rw [hIb, hμb]
        refine ⟨⟨j + 1, u1, u2, u3, q', x', m', rfl, by omega, hL', by rw [hgt, ← List.append_assoc]; exact hI', hun', by rw [hgt]; exact hou, ownG hom2 k' fun b hb ht hlt _ hb2 => ?_, ownG hod2 k' fun b hb ht hlt _ hb2 => ?_, b122.keep k' fun hb2 => ?_, by omega, k122.new k' fun b hb => ?_, Nat.le_trans hsz2 k'.size⟩, by show m2 - ((j + 1 : Nat) : Int).toNat < m2 - (j : Int).toNat; omega⟩
        · rcases hb2 with hb2 | hb2
          · exact (hL2.off ht) hb2
          · have y1 := hmb b hb
            have y2 := (hdb b hb2).1
            omega
        · rcases hb2 with hb2 | hb2
          · exact (hL2.off ht) hb2
          · have y1 := hFb b hb
            have y2 := (hdb b hb2).1
            omega
        · rcases hb2 with hb2 | hb2
          · exact (hL2.off b122.ty) hb2
          · exact absurd ((hdb _ hb2).2.uniq b122.ty) (by decide)
        · rcases hb with hb | hb
          · exact hlo hL2 b hb
          · exact Nat.le_trans (K114.then k118).size (hdb b hb).1
      rw [List.take_of_length_le (by omega)] at hI3 hog hgl2
      have hM : (goods ms).length ≤ 60 := by omega
      generalize goods ms = M at hI3 hog hM hgl2
      clear hgl2 hom2
      refine ⟨_, _, _, b122.cell 2, ?_⟩
      refine (cut55_spec (hx3.no k122)).mono ?_
      rintro e w207 ⟨n1, n2, n3, rfl, k207, hon, hn60⟩
      refine ⟨_, _, _, rfl, ?_⟩
      have hnf : ∀ x ∈ xs3.take 60, x.fit := fun x hx => hf3 x (List.mem_of_mem_take hx)
      generalize xs3.take 60 = ns at hon hnf
      have hnn := opl_nx hon
      have hnb : ∀ b, OB n1 b → b < w207.heap.size := fun b hb => (ty_lt hon hb).1
      have hGN : Pl (goods ns) := goods_pl hnf
      obtain ⟨Ic, hIc⟩ : ∃ I : List Value → World → Prop, I = fun vs v => ∃ (i : Nat) (e1 : Option Addr) (e2 e3 : Nat), vs = [.slice e1 e2 e3, .int .i64 i] ∧ i ≤ n2 ∧ v.ownsRow w207.heap.size 57 5 (.slice e1 e2 e3) e2 (opl (goods (ns.take i))) ∧ v.ownsRow w122.heap.size 57 5 (.slice n1 n2 n3) n2 (opl ns) ∧ Keep no w207 v := ⟨_, rfl⟩
      obtain ⟨μc, hμc⟩ : ∃ μ : List Value → World → Nat, μ = fun vs v => match vs with | [_, .int _ i] => n2 - i.toNat | _ => 0 := ⟨_, rfl⟩
      refine ⟨Ic, μc, by rw [hIc]; exact ⟨0, none, 0, 0, rfl, by omega, World.ownsRow_nil _ _ _ _, hon, Keep.refl _ _⟩, ?_⟩
      intro w211 e1 e2 e3 n210 hIc'
      rw [hIc] at hIc'
      obtain ⟨r, x1, x2, x3, hv, hr, hoe, hon2, k211⟩ := hIc'
      cases hv
      have he2 := opl_nx hoe
      have hgl3 := goods_le ns r
      refine cond_d (fun hlt => ?_) (fun hge3 => ?_)
      · have hr' : r < ns.length := by omega
        refine loopN hon2 hr' hoe (by omega) k211.size fun yy hy u1 u2 u3 w' hou k' => ?_
        have ei : IntKind.i64.wrap ((r : Int) + 1) = ((r + 1 : Nat) : Int) := by rw [IntWalk.i64_in _ ⟨by omega, by omega⟩]; rfl
        rw [ei]
        have hgt := goods_take ns r hr'
        rw [← hy] at hgt
        have hdb : ∀ b, OB e1 b → w207.heap.size ≤ b := fun b hb => (ty_lt hoe hb).2.1
        rw [hIc, hμc]
        refine ⟨⟨r + 1, u1, u2, u3, rfl, by omega, by rw [hgt]; exact hou, ownG hon2 k' fun b hb ht hlt _ hb2 => ?_, k211.new k' hdb⟩, by show n2 - ((r + 1 : Nat) : Int).toNat < n2 - (r : Int).toNat; omega⟩
        have y1 := hnb b hb
        have y2 := hdb b hb2
        omega
      rw [List.take_of_length_le (by omega)] at hoe hgl3
      have hN : (goods ns).length ≤ 60 := by omega
      generalize goods ns = N at hoe hN hgl3 hGN
      clear hgl3 hon2
      have k211' := k207.then k211
      have hL211 := hL2.no_ k211'
      have hod211 := own_no' hod2 k211'
      have hog211 := own_no' hog k211'
      have b211 := b122.no k211'
      have K211 := k122.then k211'
      have hNr := recs_len hGN
      have hd2F := opl_nx hod211
      have hg2M := opl_nx hog211
      have he2N := opl_nx hoe
      intro K292
      have g292 : ∀ (v : World) (q : Sv) (x : A), LgR v w6.heap.size l p q x 1 mm false → LI x mm false [] (F ++ M) F.length false → (x.armed = true → 0 ≤ z) → v.ownsRow w26.heap.size 57 5 (.slice d1 d2 d3) d2 (opl F) → v.ownsRow w118.heap.size 57 5 (.slice g1 g2 g3) g2 (opl M) → v.ownsRow w207.heap.size 57 5 (.slice e1 e2 e3) e2 (opl N) →
          Bk v p5 #[.slice s.a s.n s.c, .slice t.a t.n t.c, .slice u.a u.n u.c, .int .i64 z] 105 → x.rest.length ≤ 6000 → Keep no w v → K292 v := by
        intro v q x hLv hIv harm hoF hoM hoN hB hxr kv
        unfold K292
        refine (rewrite_spec hLv (hO _) (.inl rfl) (by omega) (Rd.own0 hoN) (fun o ho => (hGN o ho).1) (by omega)).mono ?_
        rintro e w294 ⟨rfl, q294, hL294, k294, _⟩
        obtain ⟨rl1, rl2, rl3⟩ := rew_lost hIv hGN (by omega)
        obtain ⟨_, hmm, _⟩ := hIv.alive rfl
        have hFM := recs_len hIv.pl
        rw [List.nil_append] at hmm hFM
        rw [List.length_append] at hFM
        generalize hR : rewM x 1 mm false N = R at rl1 rl2 rl3 hL294
        refine ⟨_, rfl, ?_⟩
        have rowK : ∀ {base : Nat} {a : Option Addr} {n c : Nat} {us : List Op}, v.ownsRow base 57 5 (.slice a n c) n (opl us) → w294.ownsRow base 57 5 (.slice a n c) n (opl us) := fun ho => ownG ho k294 fun b hb ht _ _ => hLv.off ht
        have hoF2 := rowK hoF
        have hoM2 := rowK hoM
        have hoN2 := rowK hoN
        have hB2 := hB.keep k294 (hLv.off hB.ty)
        have K294 : Keep no w w294 := kv.new k294 (hlo hLv)
        intro K305
        -- every loss of power
        have g305 : ∀ (v3 : World) (q3 : Sv), DkR v3 w6.heap.size p q3 R.1 → v3.ownsRow w26.heap.size 57 5 (.slice d1 d2 d3) d2 (opl F) → v3.ownsRow w118.heap.size 57 5 (.slice g1 g2 g3) g2 (opl M) → v3.ownsRow w207.heap.size 57 5 (.slice e1 e2 e3) e2 (opl N) → Keep no w v3 → K305 false v3 := by
          intro v3 q3 hD hF3 hM3 hN3 k3
          unfold K305
          refine cond_f rfl ?_
          refine ⟨fun vs v => ∃ k : Nat, vs = [.bool false, .int .i64 k] ∧ k ≤ R.1.rest.length + 1 ∧ Keep no v3 v, fun vs v => match vs with | [_, .int _ k] => R.1.rest.length + 1 - k.toNat | _ => 0, ⟨0, rfl, by omega, Keep.refl _ _⟩, ?_⟩
          rintro w308 b306 keep307 ⟨kp, hv, hk, k308⟩
          cases hv
          have hD3 := hD.no_ k308
          refine (pending_spec hD3).mono ?_
          rintro e w312 ⟨rfl, rfl⟩
          refine ⟨_, rfl, ?_⟩
          refine cond_d (fun hle => ?_) (fun hgt => ⟨rfl, (k3.then k308).below⟩)
          refine (Crash_spec hD3 kp).mono ?_
          rintro e w315 ⟨p', rfl, hc, k315⟩
          refine ⟨_, rfl, cond_f rfl ?_⟩
          obtain ⟨cn1, cn2, cn3⟩ := crash_now R.1 kp
          refine (open_un hc (by rw [cn3]; simp) cn2).mono ?_
          rintro e w318 ⟨l', o1, o2, o3, rfl, _, _, _, ⟨q', hd1, hd2', hd3⟩, hoO⟩
          refine ⟨_, _, _, _, _, rfl, ?_⟩
          have hprop := rl2 _ cn1
          generalize hOO : (scan ((R.1.Crash kp).now.get (nmF (R.1.Crash kp).now.a))).1 = O at hoO hprop
          have ho2 := opl_nx hoO
          have k318 : Keep no w312 w318 := k315.new hd2' fun b hb => hc.new hb
          intro K337 w322
          have k322 : Keep no w318 w322 := Keep.drew _ _
          clear_value w322
          have K322 := (k308.then k318).then k322
          have hoO2 := own_no' hoO k322
          have hF4 := own_no' hF3 K322
          have hM4 := own_no' hM3 K322
          have hN4 := own_no' hN3 K322
          have ei : IntKind.i64.wrap ((kp : Int) + 1) = ((kp + 1 : Nat) : Int) := by rw [IntWalk.i64_in _ ⟨by omega, by omega⟩]; rfl
          have g337 : ∀ (b b2 b3 b4 b5 b6 b7 : Bool) (v4 : World), Keep no w322 v4 → (O = N ∨ (b = true ∧ R.2.2.2.2 = 180)) → K337 b b2 b3 b4 b5 b6 b7 v4 := by
            intro b b2 b3 b4 b5 b6 b7 v4 k4 hor
            unfold K337
            intro K352
            have good : ∀ c1 c2 c3 u, Keep no w322 u → K352 c1 c2 c3 false u := by
              intro c1 c2 c3 u ku
              refine cond_f rfl ?_
              rw [ei]
              refine ⟨⟨kp + 1, rfl, by omega, K322.then ku⟩, ?_⟩
              show R.1.rest.length + 1 - ((kp + 1 : Nat) : Int).toNat < R.1.rest.length + 1 - (kp : Int).toNat
              omega
            clear_value K352
            refine cond_f rfl ?_
            refine cond_i (fun hc0 => ?_) (fun hc1 => ?_)
            · have hcz : R.2.2.2.2 = 0 := by simpa using hc0
              have hON : O = N := by
                rcases hor with h | ⟨_, h⟩
                · exact h
                · rw [hcz] at h; cases h
              refine (Same_spec (Rd.own0 (own_no' hoO2 k4)) (Rd.own0 (own_no' hN4 k4))).mono ?_
              rintro e w339 ⟨k339, r, rfl, hr⟩
              refine ⟨_, rfl, ?_⟩
              rw [hr.2 hON]
              refine cond_f rfl ?_
              cases b with
              | true => exact cond_f rfl (good _ _ _ _ (k4.then k339))
              | false =>
                refine cond_t rfl ?_
                refine (Same_spec (Rd.own0 (own_no' hoO2 (k4.then k339))) (Rd.own0 (own_no' hN4 (k4.then k339)))).mono ?_
                rintro e w342 ⟨k342, r', rfl, hr'⟩
                refine ⟨_, rfl, ?_⟩
                rw [hr'.2 hON]
                exact good _ _ _ _ ((k4.then k339).then k342)
            · cases b with
              | true => exact cond_f rfl (good _ _ _ _ k4)
              | false =>
                have hON : O = N := by
                  rcases hor with h | ⟨h, _⟩
                  · exact h
                  · cases h
                refine cond_t rfl ?_
                refine (Same_spec (Rd.own0 (own_no' hoO2 k4)) (Rd.own0 (own_no' hN4 k4))).mono ?_
                rintro e w345 ⟨k345, r', rfl, hr'⟩
                refine ⟨_, rfl, ?_⟩
                rw [hr'.2 hON]
                exact good _ _ _ _ (k4.then k345)
          clear_value K337
          have rO : Rd w322 57 5 o1 o2 o3 (opl O) := Rd.own hoO2
          have rM : Rd w322 57 5 g1 g2 g3 (opl M) := Rd.own hM4
          have hcO := rO.2.1
          have hcM := rM.2.1
          have hmaxO := rO.2.2.1
          simp only [maxLen] at hmaxO
          have en : IntKind.i64.wrap (((o2 : Nat) : Int) - ((d2 : Nat) : Int)) = ((o2 : Nat) : Int) - ((d2 : Nat) : Int) := by rw [IntWalk.i64_in _ ⟨by omega, by omega⟩]
          rw [en]
          -- where it is not the new one, it is the old with a beginning of more
          have hold : O = N ∨ (R.2.2.2.2 = 180 ∧ ∃ k, k ≤ M.length ∧ O = F ++ M.take k) := hprop
          refine cond_d (fun hge0 => ?_) (fun hlt0 => ?_)
          rotate_left
          · refine g337 _ _ _ _ _ _ _ _ (Keep.refl _ _) ?_
            rcases hold with h | ⟨_, k, _, h⟩
            · exact .inl h
            · exfalso
              have := congrArg List.length h
              rw [List.length_append] at this
              omega
          refine cond_d (fun hle0 => ?_) (fun hgt0 => ?_)
          rotate_left
          · refine g337 _ _ _ _ _ _ _ _ (Keep.refl _ _) ?_
            rcases hold with h | ⟨_, k, _, h⟩
            · exact .inl h
            · exfalso
              have := congrArg List.length h
              rw [List.length_append, List.length_take] at this
              omega
          refine ⟨by omega, by omega, ?_⟩
          rw [Int.toNat_natCast d2]
          have r1 := Rd.subO rO (l := 0) (r := d2) (by omega) (by omega)
          rw [List.drop_zero] at r1
          refine (Same_spec r1 (Rd.own0 hF4)).mono ?_
          rintro e w324 ⟨k324, rr1, rfl, hr1⟩
          refine ⟨_, rfl, ?_⟩
          rw [Nat.sub_zero] at hr1
          refine cond_i (fun ht1 => ?_) (fun ht1 => ?_)
          rotate_left
          · subst ht1
            refine g337 _ _ _ _ _ _ _ _ k324 ?_
            rcases hold with h | ⟨_, k, _, h⟩
            · exact .inl h
            · exfalso
              have : O.take d2 = F := by rw [h, hd2F, List.take_left]
              exact absurd (hr1.2 this) (by decide)
          obtain ⟨nn, hnn⟩ : ∃ nn : Nat, ((o2 : Nat) : Int) - ((d2 : Nat) : Int) = (nn : Nat) := ⟨o2 - d2, by omega⟩
          rw [hnn, Int.toNat_natCast nn]
          refine ⟨by omega, by omega, by omega, by omega, ?_⟩
          have r2 := Rd.subO (rO.no k324) (l := d2) (r := o2) (by omega) (Nat.le_refl _)
          have r3 := Rd.subO (rM.no k324) (l := 0) (r := nn) (by omega) (by omega)
          rw [List.drop_zero] at r3
          refine (Same_spec r2 r3).mono ?_
          rintro e w327 ⟨k327, rr2, rfl, hr2⟩
          refine ⟨_, rfl, ?_⟩
          refine g337 _ _ _ _ _ _ _ _ (k324.then k327) ?_
          rcases hold with h | ⟨h180, k, hk', h⟩
          · exact .inl h
          · refine .inr ⟨hr2.2 ?_, h180⟩
            have hlen := congrArg List.length h
            rw [List.length_append, List.length_take, Nat.min_eq_left hk'] at hlen
            have hkn : k = nn := by omega
            rw [h, hd2F, List.drop_left, Nat.sub_zero, hkn]
            exact List.take_of_length_le (by rw [List.length_take]; omega)
        clear_value K305
        rcases rl1 with h0 | ⟨h180, hA, hdd, hff, hnn⟩
        · rw [h0]
          refine cond_f rfl ?_
          exact g305 w294 q294 hL294.dk hoF2 hoM2 hoN2 K294
        · rw [h180]
          refine cond_t rfl (cond_f rfl ?_)
          have hz0 := harm hA
          refine ⟨z, hB2.cell 3, ?_⟩
          refine cond_d (fun hneg => by omega) (fun _ => ?_)
          rw [hff, hnn, hdd] at hL294
          have hpin : (⟨6, 0, 0, 0, 0⟩ : Op).fit := ⟨by decide, by decide, by decide, by decide, by decide⟩
          have hplain : plain ⟨6, 0, 0, 0, 0⟩ = some ⟨6, 0, 0, 0, 0⟩ := by
            rw [plain_a (.inr (.inr (.inl rfl)))]
            exact if_pos ⟨by decide, by decide⟩
          have hep := enc_is hplain
          have her := er_len hplain
          refine (append_spec (o := ⟨6, 0, 0, 0, 0⟩) hL294 (hO _) (by omega) (by omega) hpin).mono ?_
          rintro e w298 ⟨rfl, q298, hL298, k298, _⟩
          have eA : appM R.1 1 mm true ⟨6, 0, 0, 0, 0⟩ = (R.1, mm, true, 180) := by
            have he : enc ⟨6, 0, 0, 0, 0⟩ = some (er ⟨6, 0, 0, 0, 0⟩) := hep
            simp only [appM, he]
            rw [if_neg (by omega), lgRun_t, if_neg (by simp)]
          rw [eA] at hL298 ⊢
          refine ⟨_, rfl, cond_f rfl ?_⟩
          have hoF3 := ownG hoF2 k298 fun b hb ht _ _ => hL294.off ht
          have hoM3 := ownG hoM2 k298 fun b hb ht _ _ => hL294.off ht
          have hoN3 := ownG hoN2 k298 fun b hb ht _ _ => hL294.off ht
          have K298 : Keep no w w298 := K294.new k298 (hlo hL294)
          refine (rewrite_spec (os := []) hL298 (hO _) (.inl rfl) (by simp only; omega) (Rd.nil w298 57 5) (fun o ho => by simp at ho) (by omega)).mono ?_
          rintro e w301 ⟨rfl, q301, hL301, k301, _⟩
          have eR : rewM R.1 1 mm true [] = (R.1, 1, mm, true, 180) := by
            simp only [rewM, encs]
            rw [if_neg (by simp), lgRun_t, if_neg (by simp)]
          rw [eR] at hL301 ⊢
          refine ⟨_, rfl, ?_⟩
          exact g305 w301 q301 hL301.dk (ownG hoF3 k301 fun b hb ht _ _ => hL298.off ht) (ownG hoM3 k301 fun b hb ht _ _ => hL298.off ht) (ownG hoN3 k301 fun b hb ht _ _ => hL298.off ht) (K298.new k301 (hlo hL298))
      clear_value K292
      refine ⟨z, b211.cell 3, ?_⟩
      refine cond_d (fun hz0 => ?_) (fun hz0 => ?_)
      · refine ⟨z, b211.cell 3, ?_⟩
        refine (Arm_spec hL211.dk z hz).mono ?_
        rintro e w289 ⟨rfl, hdid⟩
        refine ⟨_, rfl, ?_⟩
        have hyd : y.dead = false := A.dead_un hun2
        have eA : (y.Arm z).1 = { y with armed := true, left := z } := by
          unfold A.Arm
          rw [if_neg (by omega), hyd]; rfl
        rw [eA] at hdid
        obtain ⟨q289, hL289, k289, _⟩ := hL211.did hdid
        have hI4 : LI { y with armed := true, left := z } mm false [] (F ++ M) F.length false := ⟨hI3.pl, hI3.sts, hI3.saf, hI3.alive, hI3.ded⟩
        exact g292 w289 q289 _ hL289 hI4 (fun _ => by omega) (ownG hod211 k289 fun b hb ht _ _ => hL211.off ht) (ownG hog211 k289 fun b hb ht _ _ => hL211.off ht) (ownG hoe k289 fun b hb ht _ _ => hL211.off ht) (b211.keep k289 (hL211.off b211.ty)) (by simp only; omega) (K211.new k289 (hlo hL211))
      · exact g292 w211 q2 y hL211 hI3 (fun ha => by rw [hun2] at ha; cases ha) hod211 hog211 hoe b211 (by omega) K211
    clear_value K23
    exact cond_f rfl g23
  clear_value K15
  refine (awakeL_spec w8 (hO _)).mono ?_
  rintro e w11 ⟨rfl, k11⟩
  exact ⟨_, rfl, cond_f rfl (go _ k11)⟩
end Go.Proofs.Ytmfidfaiopogbaa
