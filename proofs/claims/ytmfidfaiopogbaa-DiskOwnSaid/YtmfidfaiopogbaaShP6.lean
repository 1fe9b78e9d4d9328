/- What DiskOwn answers. -/
import Derived.Test.YtmfidfaiopogbaaShAv
import Derived.Test.YtmfidfaiopogbaaShP5
import Derived.Test.YtmfidfaiopogbaaShP4
import Derived.Test.YtmfidfaiopogbaaShL6
set_option linter.unusedVariables false
set_option linter.unusedSectionVars false
set_option linter.unusedSimpArgs false
set_option maxRecDepth 4000
namespace Go.Proofs.Ytmfidfaiopogbaa
open Go Go.Sh Go.ChangeShapes Go.WideShapes Go.ChangeAt Go.RowKit

theorem take8 (l : Bs) {n : Nat} (h : n = l.length) : (mnI (n : Int) 8).toNat - 0 = (l.take 8).length ∧ 0 ≤ mnI (n : Int) 8 ∧ (mnI (n : Int) 8).toNat ≤ n ∧ (mnI (n : Int) 8).toNat ≤ 8 ∧ l.take (mnI (n : Int) 8).toNat = l.take 8 := by
  unfold mnI
  split
  · refine ⟨by simp; omega, by omega, by omega, by omega, rfl⟩
  · refine ⟨by simp; omega, by omega, by omega, by omega, ?_⟩
    rw [Int.toNat_natCast, List.take_of_length_le (by omega), List.take_of_length_le (by omega)]

theorem own_core {w : World} {sc : Sv} (hs : @OpsR noAv w w.heap.size sc) {ba : Option Addr} {bn bc : Nat} {l : Bs} (hb0 : @Rd noAv w 0 1 ba bn bc (bvs l)) (hlow0 : 0 < bn → ∀ z, OB ba z → z < w.heap.size) (hbn : bn ≤ 140737488355328) :
    Calls Try.prog 6 #[sc.v, .slice ba bn bc] w fun e w' => e = .returned (.bool true) ∧ Below w.heap.size w w' := by
  have hlen : bn = l.length := @Ru.len noAv _ ⟨ba, bn, bc⟩ _ hb0
  obtain ⟨t1, t2, t3, t4, t5⟩ := take8 l hlen
  refine c6 ?_
  unfold sh6
  refine (@Built_spec noAv _ _ hs (noOld _)).mono ?_
  rintro e w3 ⟨p, q, s, y, rfl, hd, hr, k3, hy⟩
  refine ⟨_, _, _, _, _, _, _, _, rfl, ?_⟩
  intro p11 w12
  have b11 : Bk w12 p11 #[.slice none 0 0, .int .i64 0, .bool false, .int .i64 0] 26 := Bk.new w3 _ _
  have k12 : Keep no w3 w12 := Keep.alloc _ _ _
  have h11 : w3.heap.size ≤ p11 := Nat.le_refl _
  clear_value p11 w12
  refine ⟨b11.wrN (by simp), ?_⟩
  intro w13
  have c11 : Bk w13 p11 #[s.v, .int .i64 y.raws, .bool y.armed, .int .i64 y.left] 26 := b11.setAll rfl
  have k13 : Keep (is p11) w12 w13 := setN_keep (S := is p11) (a := ⟨p11, 0, none⟩) rfl _ _ _
  clear_value w13
  have k13' : Keep no w3 w13 := k12.new k13 (by rintro z rfl; exact h11)
  intro K19
  refine (@awake_spec noAv w13 (noOld _)).mono ?_
  rintro e w18 ⟨rfl, k15⟩
  refine ⟨_, rfl, cond_f rfl (cond_f rfl ?_)⟩
  clear K19
  have k318 : Keep no w3 w18 := k13'.then k15
  have K18 : Keep no w w18 := k3.then k318
  have hs18 : w.heap.size ≤ w18.heap.size := K18.size
  have hd18 : @DkR noAv w18 _ _ _ _ := @DkR.no_ noAv _ _ _ _ _ _ hd k318
  have hr18 : @RefR noAv w18 _ _ := @RefR.no noAv _ _ _ _ hr k318
  have d11 : Bk w18 p11 _ _ := c11.no k15
  have hb18 : @Rd noAv w18 0 1 ba bn bc (bvs l) := @Rd.no noAv _ _ _ _ _ _ _ _ hb0 K18
  have hsub : @Rd noAv w18 0 1 (subS ba bc 0 1) ((mnI (bn : Int) 8).toNat - 0) (bc - 0) (bvs (l.take (mnI (bn : Int) 8).toNat)) := @Rd.takeB noAv _ _ _ _ _ _ hb18 _ t3
  rw [t5, t1] at hsub
  rw [t1]
  have h8 : (l.take 8).length ≤ 8 := by simp; omega
  have hcc : (l.take 8).length ≤ bc := Nat.le_trans (by rw [← t1]; simp; omega) hb0.2.1
  refine ⟨t2, by have := hb0.2.1; omega, ?_⟩
  intro p20 w21
  have o21 : w21.ownsRow w18.heap.size 5 1 (.slice (some ⟨p20, 0, none⟩) 0 0) 0 [] := lit_own w18 5 1 (Nat.le_refl _)
  have k21 : Keep no w18 w21 := Keep.alloc _ _ _
  clear_value p20 w21
  refine @rw_append noAv _ _ _ _ _ _ _ E36 _ _ _ _ _ _ _ _ _ o21 _ (@Rd.no noAv _ _ _ _ _ _ _ _ hsub k21) (bvs_one _) (by omega) (by simp only [maxLen]; omega) k21.size _ fun a24 c24 w23 o23 k23 _ => ?_
  rw [Nat.zero_add, List.nil_append] at o23
  rw [Nat.zero_add]
  have K23 : Keep no w18 w23 := k21.new k23 fun z hz => (own_block o21 hz).1
  intro p25 w26
  have b25 : Bk w26 p25 #[.int .u8 77] 5 := Bk.new w23 _ _
  have k26 : Keep no w23 w26 := Keep.alloc _ _ _
  clear_value p25 w26
  refine @rw_append noAv _ _ _ _ _ _ _ E36 _ _ _ _ _ _ _ _ _ (own_keep o23 k26 fun _ _ h => h) _ (@Rd.blk noAv _ 5 1 _ 1 _ b25 rfl (by simp [maxLen]) (fun _ h => h)) (by simp [one1]) (by omega) (by simp only [maxLen]; omega) (K23.then k26).size _ fun a29 c29 w28 o28 k28 _ => ?_
  have e28 : bvs (l.take 8) ++ (#[.int .u8 77] : Array Value).toList = bvs (l.take 8 ++ [77]) := by simp [bvs, bv]
  rw [e28] at o28
  have K28 : Keep no w18 w28 := (K23.then k26).new k28 fun z hz => (own_block o23 hz).1
  -- from here on nothing reads the room
  letI A2 : Av := ⟨OB a29⟩
  have hO : Old w28 := fun z hz => (own_block o28 hz).2.lt
  have hz18 : ∀ z, A2.Z z → w18.heap.size ≤ z := fun z hz => (own_block o28 hz).1
  have hd28 : DkR w28 w.heap.size p q y := @DkR.ava noAv A2 _ _ _ _ _ _ hd18 hz18 K28 hO
  have hr28 : RefR w28 s y := RefR.no (@RefR.ava noAv A2 _ _ _ hr18 hz18) K28
  have e11 : Bk w28 p11 _ _ := d11.no K28
  have hb28 : Rd w28 0 1 ba bn bc (bvs l) := Rd.no (Rd.av (A1 := noAv) (A2 := A2) hb18 hz18) K28
  have KK28 : Keep no w w28 := K18.then K28
  clear K28 k28 hz18 hd18 hr18 hb18 hsub o23 o21 b25 k26 K23 k23 k21 K18 k318 k15 k13' d11
  refine (Crash_spec hd28 1099511627776).mono ?_
  rintro e w31 ⟨pc, rfl, hc31, k31⟩
  refine ⟨_, rfl, cond_f rfl ?_⟩
  have f11 := e11.no k31
  refine ⟨_, _, _, _, _, _, f11.cell 0, f11.cell 1, f11.cell 2, f11.cell 3, ?_⟩
  refine (CrashR_spec (hr28.no k31) 1099511627776).mono ?_
  rintro e w38 ⟨s', rfl, hs38, k38⟩
  refine ⟨_, _, _, _, _, _, rfl, ?_⟩
  intro p43 w44
  have b43 : Bk w44 p43 #[.slice none 0 0, .int .i64 0, .bool false, .int .i64 0] 26 := Bk.new w38 _ _
  have k44 : Keep no w38 w44 := Keep.alloc _ _ _
  have h43 : w38.heap.size ≤ p43 := Nat.le_refl _
  clear_value p43 w44
  refine ⟨b43.wrN (by simp), ?_⟩
  generalize hx : y.Crash 1099511627776 = x at *
  have hx1 : x.armed = false := by rw [← hx]; rfl
  have hxd : x.dead = false := by unfold A.dead; rw [hx1]; rfl
  have hxr : x.rest = [] := by rw [← hx]; rfl
  have ex4 : (#[s'.v, .int .i64 0, .bool false, .int .i64 0] : Array Value) = #[s'.v, .int .i64 x.raws, .bool x.armed, .int .i64 x.left] := by rw [← hx]; rfl
  intro w45
  have c43 : Bk w45 p43 #[s'.v, .int .i64 x.raws, .bool x.armed, .int .i64 x.left] 26 := b43.setAll rfl
  have k45 : Keep (is p43) w44 w45 := setN_keep (S := is p43) (a := ⟨p43, 0, none⟩) rfl _ _ _
  clear_value w45
  have k3845 : Keep no w38 w45 := k44.new k45 (by rintro z rfl; exact h43)
  intro K60 w46
  have d43 : Bk w46 p43 _ _ := c43.drew
  have k46 : Keep no w28 w46 := ((k31.then k38).then k3845).no (Keep.drew _ _)
  have hc46 : DkR w46 w28.heap.size pc ⟨none, 0, 0⟩ x := ((hc31.no_ k38).no_ k3845).no_ (Keep.drew _ _)
  have hs46 : RefR w46 s' x := (hs38.no k3845).no (Keep.drew _ _)
  clear_value w46
  have h43' : w28.heap.size ≤ p43 := Nat.le_trans (k31.then k38).size h43
  have h11' : p11 < w28.heap.size := e11.lt
  have hp43 : p43 ≠ p11 := by omega
  clear k45 c43 b43 k44 k3845 ex4
  have o46 := own_keep o28 k46 fun _ _ h => h
  -- the room's memory
  obtain ⟨g, cur, hg, hBg, hgc, hgs⟩ : ∃ g cur, a29 = some ⟨g, 0, none⟩ ∧ Bk w46 g cur 5 ∧ (l.take 8).length + 1 ≤ c29 ∧ cur.size = c29 * 1 := by
    rcases o46.2 with ⟨h1, h2⟩ | ⟨g, cap, cur, h1, hg0, hg, hn, hm, hs, ht⟩
    · omega
    · simp only [Value.slice.injEq] at h1
      obtain ⟨rfl, _, rfl⟩ := h1
      exact ⟨g, cur, rfl, hg, hn, hs⟩
  have hgz : ∀ z, A2.Z z ↔ z = g := by
    intro z
    show OB a29 z ↔ _
    rw [hg]
    constructor
    · rintro ⟨q, hq, rfl⟩; cases hq; rfl
    · rintro rfl; exact ⟨_, rfl, rfl⟩
  have hrow46 : Rd w46 0 1 a29 ((l.take 8).length + 1) c29 (bvs (l.take 8 ++ [77])) := Rd.own0 o46
  have hroomsub : Rd w46 0 1 (subS a29 c29 0 1) ((l.take 8).length - 0) (c29 - 0) (bvs ((l.take 8 ++ [77]).take (l.take 8).length)) := Rd.takeB hrow46 (by omega)
  rw [List.take_left] at hroomsub
  rw [Int.toNat_natCast]
  refine ⟨by omega, by omega, ?_⟩
  refine (Write_spec hc46 1 0 (b := ⟨subS a29 c29 0 1, (l.take 8).length - 0, c29 - 0⟩) (l := l.take 8) hroomsub (by rw [hxr]; simp)).mono ?_
  rintro e w48 ⟨rfl, qc, hc48, k48, _⟩
  have hF : IsF x 1 0 := ⟨by omega, by omega, by omega, by omega⟩
  have hW : (x.Write 1 0 (l.take 8)).2 = 0 := by
    unfold A.Write
    rw [if_pos hF, if_neg (by omega), if_neg (by simp; omega), hxd]; rfl
  rw [hW]
  refine ⟨_, rfl, cond_f rfl ?_⟩
  refine ⟨by omega, by omega, ?_⟩
  have hBg48 : Bk w48 g cur 5 := hc46.bk k48 hBg (by decide) (by decide)
  have hng : ∀ z, dk pc ⟨none, 0, 0⟩ z → z ≠ g := fun z hz hzg => hc46.nt hz (e := 5) (by decide) (by decide) (hzg ▸ hBg.ty)
  have hrs48 : Rd w48 0 1 (subS a29 c29 0 1) ((l.take 8).length - 0) (c29 - 0) (bvs (l.take 8)) := Rd.keep' hroomsub k48 fun h0 z hz ho => by
    refine hng z hz ?_
    obtain ⟨qq, hqq, rfl⟩ := ho
    rw [hg] at hqq
    unfold subS at hqq
    split at hqq
    · cases hqq; rfl
    · cases hqq; rfl
  have hrow48 : Rd w48 0 1 a29 ((l.take 8).length + 1) c29 (bvs (l.take 8 ++ [77])) := Rd.keep' hrow46 k48 fun h0 z hz ho => by
    refine hng z hz ?_
    obtain ⟨qq, hqq, rfl⟩ := ho
    rw [hg] at hqq; cases hqq; rfl
  have hb46 : Rd w46 0 1 ba bn bc (bvs l) := Rd.no hb28 k46
  have hb48 : Rd w48 0 1 ba bn bc (bvs l) := Rd.keep' hb46 k48 fun h0 z hz ho => by
    have h1 := (hc46.kt hz).1; have h2 := hlow0 h0 z ho; have h3 := KK28.size; omega
  have hbs48 : Rd w48 0 1 (subS ba bc 0 1) (l.take 8).length (bc - 0) (bvs (l.take 8)) := by
    have := Rd.takeB hb48 t3
    rw [t5, t1] at this; exact this
  refine rw_str Try.underlying36 Try.underlying5 Try.underlying9 hrs48 ?_
  refine rw_str Try.underlying36 Try.underlying5 Try.underlying9 hbs48 ?_
  refine cond_f (by simp) ?_
  have h77 : w48.cell? ((⟨g, 0, none⟩ : Addr).add ((l.take 8).length * 1)) = some (.int .u8 77) := by
    obtain ⟨ad, had, hcell⟩ := hrow48.cells (by omega)
    rw [hg] at had; cases had
    rw [Nat.mul_one]
    refine hcell _ _ ?_
    simp [bvs, bv]
  refine ⟨_, hg, by omega, by omega, _, h77, ?_⟩
  refine cond_f rfl ?_
  clear K60
  have f43 := hc46.bk k48 d43 (by decide) (by decide)
  have hs48 := hc46.rf k48 hs46
  have hd48 : DkR w48 w.heap.size p q y := (hd28.no_ k46).apart hc46 (fun z hz => hd28.lt hz) k48
  have hr48 := hc46.rf k48 (hr28.no k46)
  have g11 := hc46.bk k48 (e11.no k46) (by decide) (by decide)
  have KK48 : Keep no w w48 := (KK28.then k46).new k48 fun z hz => by have := (hc46.kt hz).1; have := KK28.size; omega
  refine ⟨_, _, _, _, _, _, f43.cell 0, f43.cell 1, f43.cell 2, f43.cell 3, ?_⟩
  refine (WriteR_spec hs48 1 0 (b := ⟨subS ba bc 0 1, (l.take 8).length, bc - 0⟩) (l := l.take 8) hbs48 (by rw [hxr]; simp)).mono ?_
  rintro e w66 ⟨s6, rfl, hs66, k66⟩
  refine ⟨_, _, _, _, _, _, _, rfl, (f43.no k66).wrN (by simp), ?_⟩
  generalize hz : (x.Write 1 0 (l.take 8)).1 = z at *
  have hzl : z.rest.length ≤ 1 := by have := x.Write_len 1 0 (l.take 8); rw [hz, hxr] at this; simpa using this
  intro w72
  have i43 : Bk w72 p43 #[s6.v, .int .i64 z.raws, .bool z.armed, .int .i64 z.left] 26 := (f43.no k66).setAll rfl
  have k72 : Keep (is p43) w66 w72 := setN_keep (S := is p43) (a := ⟨p43, 0, none⟩) rfl _ _ _
  have t43 := (f43.no k66).ty
  clear_value w72
  have keep43 : ∀ {lo p : Nat} {q : Sv} {x : A}, DkR w66 lo p q x → DkR w72 lo p q x := fun h => h.keep k72 (by
    rintro z rfl
    exact ⟨fun hz => h.nt hz (by decide) (by decide) t43, fun ht => absurd (ht.uniq t43) (by decide)⟩)
  have hc72 := keep43 (hc48.no_ k66)
  have hd72 := keep43 (hd48.no_ k66)
  have hs72 : RefR w72 s6 z := hs66.keep k72 (by rintro z rfl ht; exact absurd (ht.uniq t43) (by decide))
  have hr72 : RefR w72 s y := (hr48.no k66).keep k72 (by rintro z rfl ht; exact absurd (ht.uniq t43) (by decide))
  have i11 : Bk w72 p11 _ _ := (g11.no k66).keep k72 fun h => hp43 h.symm
  have hBg72 : Bk w72 g cur 5 := (hBg48.no k66).keep k72 fun h => (hBg48.no k66).ty.ne t43 (by decide) h
  have hwp : w.heap.size ≤ p43 := Nat.le_trans KK28.size h43'
  have KK72 : Keep no w w72 := (KK48.then k66).new k72 (by rintro z rfl; exact hwp)
  have hwg : w.heap.size ≤ g := by have := (own_block o28 (b := g) ((hgz g).2 rfl)).1; omega
  clear k72 hs66 k66 hs48 hr48 g11 f43 KK48
  -- the room is written over
  refine ⟨fun vs v => ∃ (i : Nat) (cu : Array Value), vs = [.int .i64 i] ∧ i ≤ (l.take 8).length + 1 ∧ Bk v g cu 5 ∧ cu.size = c29 * 1 ∧ Keep (is g) w72 v, fun vs v => match vs with | [.int _ i] => (l.take 8).length + 1 - i.toNat | _ => 0,
    ⟨0, cur, rfl, by omega, hBg72, hgs, Keep.refl _ _⟩, ?_⟩
  rintro w74 n73 ⟨i, cu, hv, hi, hBv, hcs, k74⟩
  cases hv
  refine cond_d (fun hlt => ?_) (fun hge => ?_)
  · refine ⟨_, hg, by omega, by omega, ?_⟩
    rw [addP, Int.toNat_natCast, Nat.mul_one, Nat.zero_add]
    refine ⟨hBv.wr (by omega), ?_⟩
    intro w78
    have hB78 : Bk w78 g (cu.setIfInBounds i (.int .u8 0)) 5 := hBv.set i _
    have k78 : Keep (is g) w74 w78 := Keep.set (S := is g) w74 (a := ⟨g, i, none⟩) _ rfl
    clear_value w78
    have ei : IntKind.i64.wrap ((i : Int) + 1) = ((i + 1 : Nat) : Int) := by rw [IntWalk.i64_in _ ⟨by omega, by omega⟩]; rfl
    rw [ei]
    refine ⟨⟨i + 1, _, rfl, by omega, hB78, by simpa using hcs, k74.then k78⟩, ?_⟩
    show (l.take 8).length + 1 - ((i + 1 : Nat) : Int).toNat < (l.take 8).length + 1 - (i : Int).toNat
    omega
  have keepg : ∀ {lo p : Nat} {q : Sv} {x : A}, DkR w72 lo p q x → DkR w74 lo p q x := fun h => h.keepZ k74 (by
    rintro z rfl hz
    exact h.nt hz (by decide) (by decide) hBg72.ty) (by rintro z rfl _; exact (hgz _).2 rfl)
  have hc74 := keepg hc72
  have hd74 := keepg hd72
  have hs74 : RefR w74 s6 z := hs72.keep k74 (by rintro z rfl ht; exact absurd (ht.uniq hBg72.ty) (by decide))
  have hr74 : RefR w74 s y := hr72.keep k74 (by rintro z rfl ht; exact absurd (ht.uniq hBg72.ty) (by decide))
  have j11 : Bk w74 p11 _ _ := i11.keep k74 fun h => (i11.ty.ne hBg72.ty (by decide)) h
  have j43 : Bk w74 p43 _ _ := i43.keep k74 fun h => (i43.ty.ne hBg72.ty (by decide)) h
  have KK74 : Keep no w w74 := KK72.new k74 (by rintro z rfl; exact hwg)
  refine (read_spec hc74 1).mono ?_
  rintro e w80 ⟨r, rfl, hrr, hro, k80⟩
  refine ⟨_, _, _, rfl, ?_⟩
  have hrlen : r.n ≤ 65536 := by rw [Rb.len hrr]; exact A.read_len hc74.ok 1
  -- what was read is written over
  refine ⟨fun vs v => ∃ (i : Nat) (xs : List Value), vs = [.int .i64 i] ∧ i ≤ r.n ∧ v.ownsRow w74.heap.size 5 1 r.v r.n xs ∧ Keep no w74 v, fun vs v => match vs with | [.int _ i] => r.n - i.toNat | _ => 0,
    ⟨0, _, rfl, by omega, hro, k80⟩, ?_⟩
  rintro w83 n82 ⟨i2, xs, hv, hi2, hro2, k83⟩
  cases hv
  refine cond_d (fun hlt => ?_) (fun hge2 => ?_)
  · obtain ⟨qq, hqq, hwr, hro3, k87⟩ := own_set hro2 (i := i2) (by omega) (.int .u8 122)
    refine ⟨qq, hqq, by omega, by omega, ?_⟩
    rw [Int.toNat_natCast]
    refine ⟨hwr, ?_⟩
    intro w87
    have ei : IntKind.i64.wrap ((i2 : Int) + 1) = ((i2 + 1 : Nat) : Int) := by rw [IntWalk.i64_in _ ⟨by omega, by omega⟩]; rfl
    rw [ei]
    refine ⟨⟨i2 + 1, _, rfl, by omega, hro3, k83.new k87 fun z hz => (own_block hro2 hz).1⟩, ?_⟩
    show r.n - ((i2 + 1 : Nat) : Int).toNat < r.n - (i2 : Int).toNat
    omega
  -- and grown
  refine ⟨fun vs v => ∃ (i : Nat) (oa : Option Addr) (on oc : Nat) (xs : List Value), vs = [.slice oa on oc, .int .i64 i] ∧ i ≤ 20 ∧ on = r.n + i ∧ v.ownsRow w74.heap.size 5 1 (.slice oa on oc) on xs ∧ Keep no w74 v ∧ (0 < i → xs[on - 1]? = some (.int .u8 121)), fun vs v => match vs with | [_, .int _ i] => 20 - i.toNat | _ => 0,
    ⟨0, r.a, r.n, r.c, xs, rfl, by omega, rfl, hro2, k83, fun h => absurd h (by omega)⟩, ?_⟩
  rintro w90 o1 o2 o3 i89 ⟨i3, oa, on, oc, xs3, hv, hi3, hon, hro4, k90, hlast⟩
  cases hv
  refine cond_d (fun hlt => ?_) (fun hge3 => ?_)
  · intro p93 w94
    have b93 : Bk w94 p93 #[.int .u8 121] 5 := Bk.new w90 _ _
    have k94 : Keep no w90 w94 := Keep.alloc _ _ _
    clear_value p93 w94
    refine rw_append E36 (own_keep hro4 k94 fun _ _ h => h) (Rd.blk0 (sz := 1) (n := 1) b93 rfl (by simp [maxLen])) (by simp [one1]) (by omega) (by simp only [maxLen]; omega) (k90.then k94).size fun a97 c97 w96 o96 k96 _ => ?_
    have ei : IntKind.i64.wrap ((i3 : Int) + 1) = ((i3 + 1 : Nat) : Int) := by rw [IntWalk.i64_in _ ⟨by omega, by omega⟩]; rfl
    rw [ei]
    refine ⟨⟨i3 + 1, a97, o2 + 1, c97, _, rfl, by omega, by omega, o96, (k90.then k94).new k96 fun z hz => (own_block hro4 hz).1, fun _ => ?_⟩, ?_⟩
    · have hl := hro4.1
      show (xs3 ++ [.int .u8 121])[o2 + 1 - 1]? = _
      rw [List.getElem?_append_right (by omega)]
      simp [hl]
    · show 20 - ((i3 + 1 : Nat) : Int).toNat < 20 - (i3 : Int).toNat
      omega
  have hi20 : i3 = 20 := by omega
  subst hi20
  have hl := hlast (by omega)
  refine (Crash_spec (hc74.no_ k90) 1).mono ?_
  rintro e w99 ⟨pe, rfl, he, k99⟩
  refine ⟨_, rfl, cond_t rfl ?_⟩
  have k99' := k90.then k99
  have l43 := j43.no k99'
  refine ⟨_, _, _, _, _, _, l43.cell 0, l43.cell 1, l43.cell 2, l43.cell 3, ?_⟩
  refine (Tells_spec (hc74.no_ k99') (hs74.no k99')).mono ?_
  rintro e w106 ⟨rfl, k106⟩
  have k106' := k99'.then k106
  have l11 := j11.no k106'
  refine ⟨_, rfl, cond_t rfl ?_⟩
  refine ⟨_, _, _, _, _, _, l11.cell 0, l11.cell 1, l11.cell 2, l11.cell 3, ?_⟩
  refine (Tells_spec (hd74.no_ k106') (hr74.no k106')).mono ?_
  rintro e w113 ⟨rfl, k113⟩
  have k113' := k106'.then k113
  have m43 := j43.no k113'
  refine ⟨_, rfl, cond_t rfl ?_⟩
  refine ⟨_, _, _, _, _, _, m43.cell 0, m43.cell 1, m43.cell 2, m43.cell 3, ?_⟩
  refine (CrashR_spec (hs74.no k113') 1).mono ?_
  rintro e w120 ⟨se, rfl, hse, k120⟩
  refine ⟨_, _, _, _, _, _, rfl, ?_⟩
  refine (Tells_spec (((he.no_ k106).no_ k113).no_ k120) hse).mono ?_
  rintro e w126 ⟨rfl, k126⟩
  refine ⟨_, rfl, cond_t rfl ?_⟩
  have kend : Keep no w90 w126 := (((k99.then k106).then k113).then k120).then k126
  have hro5 := own_keep hro4 kend fun _ _ h => h
  have hR5 : Rd w126 0 1 o1 o2 o3 xs3 := Rd.own0 hro5
  obtain ⟨ad, had, hcell⟩ := hR5.cells (by omega)
  have hw1 : IntKind.i64.wrap ((o2 : Int) - 1) = ((o2 - 1 : Nat) : Int) := by rw [IntWalk.i64_in _ ⟨by omega, by omega⟩]; omega
  rw [hw1, Int.toNat_natCast, Nat.mul_one]
  refine ⟨ad, had, by omega, by omega, _, hcell _ _ hl, rfl, ?_⟩
  exact (KK74.then (k90.then kend)).below
end Go.Proofs.Ytmfidfaiopogbaa
