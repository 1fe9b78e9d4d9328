/- What LogDead answers. -/
import Derived.Test.YtmfidfaiopogbaaShLog5
import Derived.Test.YtmfidfaiopogbaaShOpn2
import Derived.Test.YtmfidfaiopogbaaShL15
set_option linter.unusedVariables false
set_option linter.unusedSimpArgs false
set_option linter.unusedSectionVars false
set_option maxRecDepth 4000
namespace Go.Proofs.Ytmfidfaiopogbaa
open Go Go.Sh
open Go.RowKit (Below)
/-- An operation of a list, in a cell of its own. -/
theorem opCell [Av] {w : World} {e n c : Nat} {a : Option Addr} {xs : List Op} (h : Rd w e 5 a n c (opl xs)) {i : Nat} (hi : i < xs.length) :
    ∃ q12 : Addr, a = some q12 ∧ (0 : Int) ≤ (i : Int) ∧ (i : Int) < ((n : Nat) : Int) ∧ w.cell? (q12.add ((i : Int).toNat * 5)) = some (.int .i64 xs[i].k) ∧ w.cell? ((q12.add ((i : Int).toNat * 5)).add 1) = some (.int .i64 xs[i].e) ∧ w.cell? ((q12.add ((i : Int).toNat * 5)).add 2) = some (.int .i64 xs[i].u) ∧ w.cell? ((q12.add ((i : Int).toNat * 5)).add 3) = some (.int .i64 xs[i].v) ∧ w.cell? ((q12.add ((i : Int).toNat * 5)).add 4) = some (.int .u32 xs[i].b) := by
  obtain ⟨hn, q, hq, c0, c1, c2, c3, c4⟩ := rd_op h hi
  exact ⟨q, hq, by omega, by omega, by rw [Int.toNat_natCast]; exact c0, by rw [Int.toNat_natCast]; exact c1, by rw [Int.toNat_natCast]; exact c2, by rw [Int.toNat_natCast]; exact c3, by rw [Int.toNat_natCast]; exact c4⟩
/-- An operation, in a new cell. -/
theorem opNew (w : World) (y : Op) : wrN (w.alloc (.cells #[.int .i64 0, .int .i64 0, .int .i64 0, .int .i64 0, .int .u32 0] 57)) ⟨w.heap.size, 0, none⟩ 5 ∧
    Bk (setN ⟨w.heap.size, 0, none⟩ 0 [.int .i64 y.k, .int .i64 y.e, .int .i64 y.u, .int .i64 y.v, .int .u32 y.b] (w.alloc (.cells #[.int .i64 0, .int .i64 0, .int .i64 0, .int .i64 0, .int .u32 0] 57))) w.heap.size (opC y) 57 ∧
    Keep no w (setN ⟨w.heap.size, 0, none⟩ 0 [.int .i64 y.k, .int .i64 y.e, .int .i64 y.u, .int .i64 y.v, .int .u32 y.b] (w.alloc (.cells #[.int .i64 0, .int .i64 0, .int .i64 0, .int .i64 0, .int .u32 0] 57))) := by
  have b18 := Bk.new w #[.int .i64 0, .int .i64 0, .int .i64 0, .int .i64 0, .int .u32 0] 57
  letI : Av := noAv
  obtain ⟨f1, f2, f3⟩ := fin5 (a := .int .i64 y.k) (b := .int .i64 y.e) (c := .int .i64 y.u) (d := .int .i64 y.v) (e := .int .u32 y.b) b18 rfl
  exact ⟨f1, f2, (Keep.alloc _ _ _).new f3 (by rintro z rfl; exact Nat.le_refl _)⟩
/-- The reference's Plain, in one. -/
theorem plainE [Av] (w : World) (x : Op) : Calls Try.prog 38 #[opV x] w fun e w' => Keep no w w' ∧ ∃ (y : Op) (cd : Int), e = .returned (.tuple #[opV y, .int .i64 cd]) ∧ ((cd = 0 ∧ plain x = some y) ∨ (cd = 190 ∧ plain x = none)) := by
  refine (Plain_spec w x).mono ?_
  rintro e w' ⟨k, hp⟩
  refine ⟨k, ?_⟩
  rcases hp with ⟨hp, z', he⟩ | ⟨y', hp, he⟩
  · exact ⟨z', _, he, .inr ⟨rfl, hp⟩⟩
  · exact ⟨y', _, he, .inl ⟨rfl, hp⟩⟩
/-- One operation more on an own list. -/
theorem opPush [Av] {w : World} {base n c : Nat} {a : Option Addr} {ys : List Op} (ho : w.ownsRow base 57 5 (.slice a n c) n (opl ys)) (hn : n ≤ 1000000000) (hb : base ≤ w.heap.size) (y : Op) {K : Option Addr → Nat → Nat → World → Prop}
    (hK : ∀ a2 n2 c2 w', w'.ownsRow base 57 5 (.slice a2 n2 c2) n2 (opl (ys ++ [y])) → n2 = n + 1 → Keep (OB a) w w' → K a2 n2 c2 w') :
    RunWp Try.prog (Builtin.append_ #[64, 64] 64 #[.slice a n c, .slice (some ⟨w.heap.size, 0, none⟩) 1 1]) (fun v43 w44 => ∃ (a45 : Option Addr), ∃ (l_a45 : Nat), ∃ (c_a45 : Nat), v43 = .slice a45 l_a45 c_a45 ∧ K a45 l_a45 c_a45 w44) (w.alloc (.cells #[.int .i64 y.k, .int .i64 y.e, .int .i64 y.u, .int .i64 y.v, .int .u32 y.b] 57)) := by
  have b42 : Bk (w.alloc (.cells #[.int .i64 y.k, .int .i64 y.e, .int .i64 y.u, .int .i64 y.v, .int .u32 y.b] 57)) w.heap.size (opC y) 57 := Bk.new w _ _
  have k42 : Keep no w (w.alloc (.cells #[.int .i64 y.k, .int .i64 y.e, .int .i64 y.u, .int .i64 y.v, .int .u32 y.b] 57)) := Keep.alloc _ _ _
  refine rw_append E64 (own_no' ho k42) (Rd.blk0 (sz := 5) (n := 1) b42 rfl (by simp [maxLen])) (by simp [one1]) (by omega) (by simp only [maxLen]; omega) (Nat.le_trans hb k42.size) fun a2 c2 w' ho' k' _ => ?_
  refine hK _ _ _ _ (by rw [opl_append]; exact ho') rfl ?_
  exact (k42.mono fun _ _ h => h.elim).trans k' (fun _ _ h => h) fun _ _ h => h
section
variable [Av]
set_option maxHeartbeats 1000000 in
theorem dead_core {w : World} (hO : Old w) {n c : Nat} {a : Option Addr} {xs : List Op} (h : Rd w 0 5 a n c (opl xs)) (hf : ∀ x ∈ xs, x.fit) {left every : Int} (hleft : left ≤ 9223372036854775807) :
    Calls Try.prog 15 #[.slice a n c, .int .i64 left, .int .i64 every] w fun e w' => e = .returned (.bool true) ∧ Below w.heap.size w w' := by
  refine c15 ?_
  unfold sh15
  refine (new_spec w hO).mono ?_
  rintro e w5 ⟨p, rfl, hd5, k5, _, _⟩
  refine ⟨_, rfl, ?_⟩
  intro K12
  have bad : ∀ v, Keep no w v → K12 true v := by
    intro v kv
    refine cond_t rfl ?_
    refine (awakeL_spec v (hO.up kv)).mono ?_
    rintro e w14 ⟨rfl, k14⟩
    exact ⟨_, rfl, cond_t rfl ⟨rfl, (kv.then k14).below⟩⟩
  have good : ∀ v, 0 ≤ left → Keep no w5 v → K12 false v := by
    intro w11 hl0 k11
    refine cond_f rfl ?_
    have hd11 := hd5.no_ k11
    refine (new_open w11 hd11).mono ?_
    rintro e w20 ⟨l, s1, s2, s3, rfl, hL, hl20, rfl⟩
    refine ⟨_, _, _, _, _, rfl, ?_⟩
    obtain ⟨q20, hL20, k20, hq20⟩ := hL
    have K11 := k5.then k11
    have K20 : Keep no w w20 := K11.new k20 fun b hb => by
      rcases hb with rfl | hb
      · exact Nat.le_trans K11.size hl20
      · exact hd11.new hb
    intro K29
    have go : ∀ w28 q28, LgR w28 w.heap.size l p q28 { a0 with armed := true, left := left } 1 0 false → Keep no w w28 → K29 false w28 := by
      intro w28 q28 hL28 k28
      refine cond_f rfl ?_
      refine (cut55_spec (h.no k28)).mono ?_
      rintro e w31 ⟨c1, c2, c3, rfl, k31, hoc, hc60⟩
      refine ⟨_, _, _, rfl, ?_⟩
      have hcf : ∀ x ∈ xs.take 60, x.fit := fun x hx => hf x (List.mem_of_mem_take hx)
      have hcn := opl_nx hoc
      generalize xs.take 60 = zs at hoc hcf hcn
      have K31 := k28.then k31
      have hcb : ∀ b, OB c1 b → b < w31.heap.size ∧ w28.heap.size ≤ b := fun b hb => ⟨(ty_lt hoc hb).1, (ty_lt hoc hb).2.1⟩
      refine ⟨fun vs v => ∃ (i : Nat) (d1 : Option Addr) (d2 d3 : Nat) (ys : List Op) (safe : Nat) (dead : Bool) (q' : Sv) (x : A) (m : Nat) (dd : Bool), vs = [.slice d1 d2 d3, .bool false, .bool dead, .int .i64 safe, .int .i64 i] ∧ i ≤ c2 ∧
          LgR v w.heap.size l p q' x 1 m dd ∧ LI x m dd [] ys safe dead ∧ v.ownsRow w31.heap.size 57 5 (.slice d1 d2 d3) d2 (opl ys) ∧ v.ownsRow w28.heap.size 57 5 (.slice c1 c2 c3) c2 (opl zs) ∧ ys.length ≤ i ∧ x.rest.length ≤ 30 * i ∧ m ≤ 22 * i ∧ Keep no w v ∧ w31.heap.size ≤ v.heap.size,
        fun vs v => match vs with | [_, _, _, _, .int _ i] => c2 - i.toNat | _ => 0, ?_, ?_⟩
      · refine ⟨0, none, 0, 0, [], 0, false, q28, _, 0, false, rfl, by omega, hL28.no_ k31, ?_, World.ownsRow_nil _ _ _ _, hoc, by simp, by simp [a0], by simp, K31, Nat.le_refl _⟩
        exact LI.start (x := { a0 with armed := true, left := left }) (P := []) (fun y hy => by simp at hy) rfl rfl rfl rfl
      rintro w38 d1 d2 d3 b34 dead safe36 n37 ⟨i, x1, x2, x3, ys, safe, dead0, q', x, m, dd, hv, hi, hLg, hLI, hod, hoc38, hyi, hxr, hmi, k38, hsz⟩
      cases hv
      have hd2 := opl_nx hod
      have hrl : (recs ([] ++ ys)).length ≤ 22 * ys.length := by rw [List.nil_append]; exact recs_len (by have := hLI.pl; rwa [List.nil_append] at this)
      refine cond_d (fun hlt => ?_) (fun hge => ?_)
      · have hi' : i < zs.length := by omega
        obtain ⟨qz, hqz, z1, z2, o0, o1, o2, o3, o4⟩ := opCell (Rd.own0 hoc38) hi'
        have hzf := hcf zs[i] (List.getElem_mem hi')
        generalize zs[i] = z at hzf o0 o1 o2 o3 o4
        refine ⟨qz, hqz, z1, z2, _, _, _, _, _, o0, o1, o2, o3, o4, ?_⟩
        obtain ⟨f1, f2, f3⟩ := opNew w38 z
        intro p47 w48
        refine ⟨f1, ?_⟩
        intro w49
        have b49 : Bk w49 p47 (opC z) 57 := f2
        have k49 : Keep no w38 w49 := f3
        clear f1 f2 f3
        clear_value p47 w48 w49
        refine ⟨_, _, _, _, _, b49.cell 0, b49.cell 1, b49.cell 2, b49.cell 3, b49.cell 4, ?_⟩
        refine (plainE w49 z).mono ?_
        rintro e w56 ⟨k56, y, cd, rfl, hcd⟩
        refine ⟨_, _, _, _, _, _, rfl, ?_⟩
        obtain ⟨f1, f2, f3⟩ := opNew w56 y
        intro p63 w64
        refine ⟨f1, ?_⟩
        intro w65
        have b65 : Bk w65 p63 (opC y) 57 := f2
        have k65 : Keep no w56 w65 := f3
        clear f1 f2 f3
        clear_value p63 w64 w65
        have b65' := b49.no (k56.then k65)
        refine ⟨_, _, _, _, _, b65'.cell 0, b65'.cell 1, b65'.cell 2, b65'.cell 3, b65'.cell 4, ?_⟩
        have k65' : Keep no w38 w65 := (k49.then k56).then k65
        have hLg65 := hLg.no_ k65'
        refine (append_spec hLg65 (hO.up (k38.then k65')) (by omega) (by omega) hzf).mono ?_
        rintro e w72 ⟨rfl, hdid⟩
        refine ⟨_, rfl, ?_⟩
        obtain ⟨q72, hLg72, k72, hq72⟩ := hdid
        have ei : IntKind.i64.wrap ((i : Int) + 1) = ((i + 1 : Nat) : Int) := by rw [IntWalk.i64_in _ ⟨by omega, by omega⟩]; rfl
        rw [ei]
        have hmu : c2 - ((i + 1 : Nat) : Int).toNat < c2 - (i : Int).toNat := by omega
        have K65 := k38.then k65'
        have K72 : Keep no w w72 := K65.new k72 fun b hb => hLg65.new hb
        have hod65 := own_no' hod k65'
        have hod72 := own_S hod65 k72 fun b hb => hLg65.off (ty_lt hod65 hb).2.2
        have hoc65 := own_no' hoc38 k65'
        have hoc72 := own_S hoc65 k72 fun b hb => hLg65.off (ty_lt hoc65 hb).2.2
        have hsz72 : w31.heap.size ≤ w72.heap.size := Nat.le_trans hsz (Nat.le_trans k65'.size k72.size)
        rcases hcd with ⟨rfl, hp⟩ | ⟨rfl, hp⟩
        · refine cond_f rfl ?_
          obtain ⟨a1, a2, a3, a4, a5⟩ := hLI.append hzf hp (by omega) (by omega)
          generalize hr : appM x 1 m dd z = r at a1 a2 a3 a4 a5 hLg72
          intro K79
          have b72 : Bk w72 p63 (opC y) 57 := b65.keep k72 (hLg65.off b65.ty)
          -- behind the append: the list, and whether it is dead
          have mid : ∀ (ys' : List Op) (dead' : Bool) (g1 : Option Addr) (g2 g3 : Nat) (v : World) (r' : A) (m' : Nat) (dd' : Bool) (qv : Sv), LI r' m' dd' [] ys' safe dead' → LgR v w.heap.size l p qv r' 1 m' dd' → v.ownsRow w31.heap.size 57 5 (.slice g1 g2 g3) g2 (opl ys') → v.ownsRow w28.heap.size 57 5 (.slice c1 c2 c3) c2 (opl zs) →
              ys'.length ≤ i + 1 → r'.rest.length ≤ 30 * i + 22 → m' ≤ 22 * (i + 1) → Keep no w v → w31.heap.size ≤ v.heap.size → ∀ (I39 : List Value → World → Prop) (b : Bool),
              (∀ (sf : Nat) (dd2 : Bool) (v' : World), (∃ (q2 : Sv) (r2 : A) (e2 : Bool), LgR v' w.heap.size l p q2 r2 1 m' e2 ∧ LI r2 m' e2 [] ys' sf dd2 ∧ v'.ownsRow w31.heap.size 57 5 (.slice g1 g2 g3) g2 (opl ys') ∧ v'.ownsRow w28.heap.size 57 5 (.slice c1 c2 c3) c2 (opl zs) ∧ r2.rest.length ≤ 30 * (i + 1) ∧ Keep no w v' ∧ w31.heap.size ≤ v'.heap.size) →
                I39 [.slice g1 g2 g3, .bool false, .bool dd2, .int .i64 sf, .int .i64 (i + 1 : Nat)] v') → 
              (∃ (q2 : Sv) (r2 : A) (e2 : Bool), LgR v w.heap.size l p q2 r2 1 m' e2 ∧ LI r2 m' e2 [] ys' safe dead' ∧ v.ownsRow w31.heap.size 57 5 (.slice g1 g2 g3) g2 (opl ys') ∧ v.ownsRow w28.heap.size 57 5 (.slice c1 c2 c3) c2 (opl zs) ∧ r2.rest.length ≤ 30 * (i + 1) ∧ Keep no w v ∧ w31.heap.size ≤ v.heap.size) ∧
              Calls Try.prog 57 #[dp l] v (fun e102 w103 => ∃ n104 : Int, e102 = .returned (.int .i64 n104) ∧ ((n104 = 180 ∧ I39 [.slice g1 g2 g3, .bool false, .bool true, .int .i64 safe, .int .i64 (i + 1 : Nat)] w103) ∨ (n104 = 0 ∧ dead' = false ∧ I39 [.slice g1 g2 g3, .bool false, .bool false, .int .i64 (g2 : Nat), .int .i64 (i + 1 : Nat)] w103))) := by
            intro ys' dead' g1 g2 g3 v r' m' dd' qv hI hLv ho1 ho2 hyl hrl' hm' kv hsv I39 b hI39
            refine ⟨⟨qv, r', dd', hLv, hI, ho1, ho2, by omega, kv, hsv⟩, ?_⟩
            refine (lsync_spec hLv).mono ?_
            rintro e w103 ⟨rfl, q3, hL3, k3, hq3⟩
            obtain ⟨b1, b2, b3, b4⟩ := hI.sync
            have K3 : Keep no w w103 := kv.new k3 fun b hb => hLv.new hb
            have ho1' := own_S ho1 k3 fun b hb => hLv.off (ty_lt ho1 hb).2.2
            have ho2' := own_S ho2 k3 fun b hb => hLv.off (ty_lt ho2 hb).2.2
            have hs3 := Nat.le_trans hsv k3.size
            refine ⟨_, rfl, ?_⟩
            cases hdd : dead' with
            | true =>
              obtain ⟨c1', c2'⟩ := b1 hdd
              exact .inl ⟨c1', hI39 _ _ _ ⟨q3, _, _, hL3, c2', ho1', ho2', by omega, K3, hs3⟩⟩
            | false =>
              rcases b2 hdd with ⟨c1', c2'⟩ | ⟨c1', _, c2'⟩
              · refine .inr ⟨c1', rfl, ?_⟩
                have hI := hI39 _ _ _ ⟨q3, _, _, hL3, c2', ho1', ho2', by omega, K3, hs3⟩
                rw [← opl_nx ho1] at hI
                exact hI
              · exact .inl ⟨c1', hI39 _ _ _ ⟨q3, _, _, hL3, c2', ho1', ho2', by omega, K3, hs3⟩⟩
          have m79 : ∀ (b74 b75 b76 : Bool) , (dead = true → r.2.2.2 = 180) → (dead = false → r.2.2.2 = 0 ∨ r.2.2.2 = 180) → K79 b74 b75 b76 false w72 := by
            intro b74 b75 b76 hc1 hc2
            refine cond_f rfl ?_
            intro K92
            have g92 : ∀ (ys' : List Op) (dead' : Bool) (g1 : Option Addr) (g2 g3 : Nat) (v : World), (dead' = (dead || (r.2.2.2 == 180))) → LI r.1 r.2.1 r.2.2.1 [] ys' safe dead' → LgR v w.heap.size l p q72 r.1 1 r.2.1 r.2.2.1 → v.ownsRow w31.heap.size 57 5 (.slice g1 g2 g3) g2 (opl ys') → v.ownsRow w28.heap.size 57 5 (.slice c1 c2 c3) c2 (opl zs) →
                ys'.length ≤ i + 1 → Keep no w v → w31.heap.size ≤ v.heap.size → K92 g1 g2 g3 v := by
              intro ys' dead' g1 g2 g3 v hdd hI hLv ho1 ho2 hyl kv hsv
              obtain ⟨hnext, hsync⟩ := mid ys' dead' g1 g2 g3 v r.1 r.2.1 r.2.2.1 q72 hI hLv ho1 ho2 hyl (by omega) (by omega) kv hsv (fun vs v => ∃ (i : Nat) (d1 : Option Addr) (d2 d3 : Nat) (ys : List Op) (safe : Nat) (dead : Bool) (q' : Sv) (x : A) (m : Nat) (dd : Bool), vs = [.slice d1 d2 d3, .bool false, .bool dead, .int .i64 safe, .int .i64 i] ∧ i ≤ c2 ∧
          LgR v w.heap.size l p q' x 1 m dd ∧ LI x m dd [] ys safe dead ∧ v.ownsRow w31.heap.size 57 5 (.slice d1 d2 d3) d2 (opl ys) ∧ v.ownsRow w28.heap.size 57 5 (.slice c1 c2 c3) c2 (opl zs) ∧ ys.length ≤ i ∧ x.rest.length ≤ 30 * i ∧ m ≤ 22 * i ∧ Keep no w v ∧ w31.heap.size ≤ v.heap.size) true (by
                rintro sf dd2 v' ⟨q2, r2, e2, u1, u2, u3, u4, u5, u6, u7⟩
                exact ⟨i + 1, g1, g2, g3, ys', sf, dd2, q2, r2, _, e2, rfl, by omega, u1, u2, u3, u4, hyl, u5, by omega, u6, u7⟩)
              obtain ⟨q2, r2, e2, u1, u2, u3, u4, u5, u6, u7⟩ := hnext
              unfold K92
              intro K97
              have g97 : ∀ b94 b95, K97 dead' b94 b95 v := by
                intro b94 b95
                unfold K97
                intro K101
                have gno : ∀ b98, K101 b98 false v := by
                  intro b98
                  refine cond_f rfl ⟨⟨i + 1, g1, g2, g3, ys', safe, dead', q2, r2, _, e2, rfl, by omega, u1, u2, u3, u4, hyl, u5, by omega, u6, u7⟩, hmu⟩
                have gyes : ∀ b98, K101 b98 true v := by
                  intro b98
                  refine cond_t rfl ?_
                  refine hsync.mono ?_
                  rintro e w103 ⟨n104, rfl, hcase⟩
                  refine ⟨n104, rfl, ?_⟩
                  intro K110
                  have g110 : ∀ b105 b106 b107, K110 b105 b106 b107 false w103 := by
                    intro b105 b106 b107
                    unfold K110
                    refine cond_f rfl ?_
                    intro K115
                    have g115 : ∀ b, (b = true → n104 = 180) → (b = false → n104 = 0) → ∀ b112 b113, K115 b b112 b113 w103 := by
                      intro b h1 h2 b112 b113
                      unfold K115
                      cases b with
                      | true =>
                        refine cond_f rfl ⟨?_, hmu⟩
                        rcases hcase with ⟨_, hI⟩ | ⟨h0, _⟩
                        · exact hI
                        · rw [h1 rfl] at h0; cases h0
                      | false =>
                        refine cond_t rfl ⟨?_, hmu⟩
                        rcases hcase with ⟨h0, _⟩ | ⟨_, _, hI⟩
                        · rw [h2 rfl] at h0; cases h0
                        · exact hI
                    clear_value K115
                    refine cond_i (fun hd => ?_) (fun hd => ?_)
                    · refine g115 true (fun _ => ?_) (fun h => by cases h) _ _
                      rcases hcase with ⟨h0, _⟩ | ⟨_, h1, _⟩
                      · exact h0
                      · rw [hd] at h1; cases h1
                    · refine g115 _ (fun h => by simpa using h) (fun h => ?_) _ _
                      rcases hcase with ⟨h0, _⟩ | ⟨h0, _⟩
                      · rw [h0] at h; cases h
                      · exact h0
                  clear_value K110
                  rcases hcase with ⟨rfl, _⟩ | ⟨rfl, hd0, _⟩
                  · refine cond_t rfl (cond_f rfl ?_)
                    exact cond_i (fun _ => g110 _ _ _) (fun _ => g110 _ _ _)
                  · refine cond_f rfl ?_
                    rw [hd0]
                    exact cond_f rfl (g110 _ _ _)
                clear_value K101
                refine cond_d (fun hev => ⟨by omega, ?_⟩) (fun hev => gno _)
                cases (Int.tmod (i : Int) every == 0) with
                | true => exact gyes _
                | false => exact gno _
              clear_value K97
              cases hde : dead with
              | true =>
                rw [hde, Bool.true_or] at hdd
                rw [hdd] at g97
                exact cond_t rfl (g97 _ _)
              | false =>
                rw [hde, Bool.false_or] at hdd
                rw [hdd] at g97
                exact cond_f rfl (g97 _ _)
            clear_value K92
            cases hde : dead with
            | true =>
              refine cond_f rfl ?_
              obtain ⟨c1', c2', _⟩ := a1 hde
              exact g92 ys true d1 d2 d3 w72 (by rw [hde]; rfl) c2' hLg72 hod72 hoc72 (by omega) K72 hsz72
            | false =>
              refine cond_t rfl ?_
              refine ⟨_, _, _, _, _, b72.cell 0, b72.cell 1, b72.cell 2, b72.cell 3, b72.cell 4, ?_⟩
              intro p85 w86
              refine opPush hod72 (by omega) hsz72 y ?_
              intro g1 g2 g3 w88 ho88 hg2 k88
              have hdb : ∀ b, OB d1 b → w31.heap.size ≤ b ∧ TyB w72 b 57 := fun b hb => ⟨(ty_lt hod72 hb).2.1, (ty_lt hod72 hb).2.2⟩
              have hLg88 : LgR w88 w.heap.size l p q72 r.1 1 r.2.1 r.2.2.1 := by
                refine ⟨hLg72.dk.keep k88 fun b hb => ⟨dk_off hLg72.dk (hdb b hb).2, fun ht => absurd (ht.uniq (hdb b hb).2) (by decide)⟩, hLg72.bk.keep k88 fun hb => absurd ((hdb _ hb).2.uniq hLg72.bk.ty) (by decide), hLg72.lo_⟩
              have hoc88 := own_S hoc72 k88 fun b hb hb2 => by
                have h1 := (hcb b hb).1
                have h2 := (hdb b hb2).1
                omega
              have K88 : Keep no w w88 := K72.new k88 fun b hb => Nat.le_trans K31.size (hdb b hb).1
              have hs88 := Nat.le_trans hsz72 k88.size
              rcases a2 hde with ⟨c1', c2'⟩ | ⟨c1', _, c2'⟩
              · exact g92 (ys ++ [y]) false g1 g2 g3 w88 (by rw [hde, c1']; rfl) c2' hLg88 ho88 hoc88 (by simp; omega) K88 hs88
              · exact g92 (ys ++ [y]) true g1 g2 g3 w88 (by rw [hde, c1']; rfl) c2' hLg88 ho88 hoc88 (by simp; omega) K88 hs88
          clear_value K79
          cases hde : dead with
          | true =>
            obtain ⟨c1', _, _⟩ := a1 hde
            have := fun b1 b2 b3 => m79 b1 b2 b3 (fun _ => c1') (fun h => by rw [hde] at h; cases h)
            rw [c1']
            exact cond_t rfl (cond_f rfl (cond_t rfl (this _ _ _)))
          | false =>
            have hcc : r.2.2.2 = 0 ∨ r.2.2.2 = 180 := by
              rcases a2 hde with ⟨h1, _⟩ | ⟨h1, _⟩
              · exact .inl h1
              · exact .inr h1
            have := fun b1 b2 b3 => m79 b1 b2 b3 (fun h => by rw [hde] at h; cases h) (fun _ => hcc)
            refine cond_f rfl ?_
            rcases hcc with h0 | h0
            · rw [h0]
              exact cond_f rfl (this _ _ _)
            · rw [h0]
              exact cond_t rfl (this _ _ _)
        · refine cond_t rfl ?_
          have e1 : appM x 1 m dd z = (x, m, dd, 190) := by simp only [appM, (enc_plain z).2 hp]
          rw [e1] at hLg72 ⊢
          refine cond_f rfl ⟨⟨i + 1, d1, d2, d3, ys, safe, dead, q72, x, m, dd, rfl, by omega, hLg72, hLI, hod72, hoc72, by omega, by omega, by omega, K72, hsz72⟩, hmu⟩
      · refine (lost_spec hLg.dk (by omega) (first := []) (Rd.nil w38 57 5) (Rd.own0 hod) (safe := safe) (by omega) (by omega) ?_).mono ?_
        · exact hLI.lost
        · rintro e w163 ⟨rfl, k163⟩
          exact ⟨_, rfl, rfl, (k38.then k163).below⟩
    clear_value K29
    refine cond_f rfl (cond_f rfl ?_)
    refine (Arm_spec hL20.dk left hleft).mono ?_
    rintro e w25 ⟨rfl, hdid⟩
    have eA : a0.Arm left = ({ a0 with armed := true, left := left }, 0) := by
      unfold A.Arm
      rw [if_neg (by omega)]
      rfl
    rw [eA] at hdid ⊢
    obtain ⟨q25, hL25, k25, _⟩ := hL20.did hdid
    exact ⟨_, rfl, go w25 q25 hL25 (K20.new k25 fun b hb => hL20.new hb)⟩
  clear_value K12
  refine (awakeL_spec w5 (hO.up k5)).mono ?_
  rintro e w8 ⟨rfl, k8⟩
  refine ⟨_, rfl, cond_f rfl (cond_f rfl ?_)⟩
  by_cases hl : left < 0
  · rw [decide_eq_true hl]; exact bad _ (k5.then k8)
  · rw [decide_eq_false hl]; exact good _ (by omega) k8
end
theorem dead_row {w : World} {s : Sv} (h : OpsRd w s) {left every : Int} (hl : (Lit.int .i64 left).wf = true) (_ : (Lit.int .i64 every).wf = true) : Calls Try.prog 15 #[.slice s.a s.n s.c, .int .i64 left, .int .i64 every] w fun e w' => e = .returned (.bool true) ∧ Below w.heap.size w w' := by
  obtain ⟨xs, h1, h2, h3⟩ := h
  exact @dead_core noAv _ (noOld _) _ _ _ _ h1 h2 _ _ (i64_bounds hl).2
end Go.Proofs.Ytmfidfaiopogbaa
