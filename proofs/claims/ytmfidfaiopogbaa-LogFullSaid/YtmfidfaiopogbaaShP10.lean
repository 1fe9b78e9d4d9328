/- What RecordTorn answers. -/
import Derived.Test.YtmfidfaiopogbaaShOpn2
import Derived.Test.YtmfidfaiopogbaaShL10
set_option linter.unusedVariables false
set_option linter.unusedSimpArgs false
set_option linter.unusedSectionVars false
set_option maxRecDepth 4000
namespace Go.Proofs.Ytmfidfaiopogbaa
open Go Go.Sh
open Go.RowKit (Below)

theorem E69 : El Try.prog 69 3 1 8 := ⟨Try.underlying69, ⟨Try.t3, .int .i64 0, by kernel_rfl, rfl, rfl, rfl, rfl⟩, by decide⟩
theorem goods_fit {l : List Op} (h : ∀ x ∈ l, x.fit) (i : Nat) : Pl (goods (l.take i)) := goods_pl fun x hx => h x (List.mem_of_mem_take hx)
theorem own_other {w w' : World} {lo e sz n lo2 e2 sz2 n2 g2 g3 c2 : Nat} {g1 a : Option Addr} {cs cs2 : List Value} (h : w.ownsRow lo e sz (.slice g1 g2 g3) n cs) (ho : w.ownsRow lo2 e2 sz2 (.slice a n2 c2) n2 cs2) (k : Keep (OB a) w w') (he : e ≠ e2) :
    w'.ownsRow lo e sz (.slice g1 g2 g3) n cs := by
  refine own_keep h k fun b hb hOB => ?_
  have h1 : OB g1 b := by
    cases g1 with
    | none => cases hb
    | some x => exact ⟨x, rfl, by simpa [Value.ownBlock] using hb⟩
  have hn : n = g2 := by
    rcases h.2 with ⟨h2, h3⟩ | ⟨g, cap, cur, h2, _⟩
    · cases h2; exact h3
    · cases h2; rfl
  subst hn
  exact he ((own_ty (q := ⟨g1, n, g3⟩) h h1).1.uniq (own_ty (q := ⟨a, n2, c2⟩) ho hOB).1)
theorem own_no' {w w' : World} {base e sz n : Nat} {v : Value} {xs : List Value} (h : w.ownsRow base e sz v n xs) (k : Keep no w w') : w'.ownsRow base e sz v n xs := own_keep h k fun _ _ h => h
theorem opl_take : ∀ (ys : List Op) (k : Nat), opl (ys.take k) = (opl ys).take (k * 5)
  | [], k => by simp [opl]
  | y :: r, 0 => by simp [opl]
  | y :: r, k + 1 => by
    rw [List.take_succ_cons, show (k + 1) * 5 = k * 5 + 1 + 1 + 1 + 1 + 1 by omega]
    simp only [opl, List.take_succ_cons, opl_take r k]
def ints (l : List Nat) : List Value := l.map fun n => .int .i64 (n : Nat)
theorem modcut {cut : Int} (n : Nat) (hn : n < 9223372036854775807) : ∃ k : Nat, k ≤ n ∧ IntKind.i64.wrap (Int.tmod (IntKind.u64.wrap cut) (IntKind.u64.wrap (IntKind.i64.wrap (((n : Nat) : Int) + 1)))) = (k : Nat) ∧ (IntKind.u64.wrap (IntKind.i64.wrap (((n : Nat) : Int) + 1))) ≠ 0 := by
  have e1 : IntKind.i64.wrap (((n : Nat) : Int) + 1) = ((n + 1 : Nat) : Int) := by rw [IntWalk.i64_in _ ⟨by omega, by omega⟩]; rfl
  have e2 : IntKind.u64.wrap ((n + 1 : Nat) : Int) = ((n + 1 : Nat) : Int) := by
    simp only [IntKind.wrap, IntKind.signed, IntKind.bits]
    simp
    omega
  have e3 : 0 ≤ IntKind.u64.wrap cut := by
    simp only [IntKind.wrap, IntKind.signed, IntKind.bits]
    simp
    omega
  rw [e1, e2]
  obtain ⟨g, hg⟩ := Int.eq_ofNat_of_zero_le e3
  rw [hg, Int.tmod_eq_emod_of_nonneg (by omega)]
  have hlt := Nat.mod_lt g (show 0 < n + 1 by omega)
  refine ⟨g % (n + 1), by omega, ?_, by omega⟩
  rw [← Int.natCast_emod, IntWalk.i64_in _ ⟨by omega, by omega⟩]

section
variable [Av]
set_option maxHeartbeats 1000000 in
theorem torn_core {w : World} {n c : Nat} {a : Option Addr} {xs : List Op} (h : Rd w 0 5 a n c (opl xs)) (hf : ∀ x ∈ xs, x.fit) (hsz : n * 40 ≤ 140737488351232) (cut : Int) :
    Calls Try.prog 10 #[.slice a n c, .int .i64 cut] w fun e w' => e = .returned (.bool true) ∧ Below w.heap.size w w' := by
  have hnx := op_n h
  refine c10 ?_
  unfold sh10
  refine (awakeR_spec w).mono ?_
  rintro e w4 ⟨rfl, k4⟩
  refine ⟨_, rfl, cond_f rfl ?_⟩
  refine ⟨fun vs v => ∃ (i : Nat) (b1 : Option Addr) (b2 b3 : Nat) (g1 : Option Addr) (g2 g3 : Nat) (e1 : Option Addr) (e2 e3 : Nat) (es : List Nat), vs = [.slice b1 b2 b3, .slice g1 g2 g3, .slice e1 e2 e3, .int .i64 i] ∧ i ≤ n ∧
      v.ownsRow w.heap.size 5 1 (.slice b1 b2 b3) b2 (bvs (recs (goods (xs.take i)))) ∧ v.ownsRow w.heap.size 57 5 (.slice g1 g2 g3) g2 (opl (goods (xs.take i))) ∧ v.ownsRow w.heap.size 3 1 (.slice e1 e2 e3) e2 (ints es) ∧
      es.length = (goods (xs.take i)).length ∧ (∀ j z, es[j]? = some z → z = (recs ((goods (xs.take i)).take (j + 1))).length) ∧ Keep no w v,
    fun vs v => match vs with | [_, _, _, .int _ i] => n - i.toNat | _ => 0,
    ⟨0, none, 0, 0, none, 0, 0, none, 0, 0, [], rfl, by omega, World.ownsRow_nil _ _ _ _, World.ownsRow_nil _ _ _ _, World.ownsRow_nil _ _ _ _, rfl, fun j z hz => by simp at hz, k4⟩, ?_⟩
  rintro w10 b1 b2 b3 g1 g2 g3 e1 e2 e3 n9 ⟨i, x1, x2, x3, y1, y2, y3, z1, z2, z3, es, hv, hi, hob, hog, hoe, hel, hez, k10⟩
  cases hv
  have hpl := goods_fit hf i
  have hb2 : b2 = (recs (goods (xs.take i))).length := by have := hob.1; simp at this; exact this.symm
  have hg2 : g2 = (goods (xs.take i)).length := by have := hog.1; rw [opl_length] at this; omega
  have he2 : e2 = es.length := by have := hoe.1; simp [ints] at this; exact this.symm
  have hrl := recs_len hpl
  have hgl : (goods (xs.take i)).length ≤ i := Nat.le_trans (goods_len _) (by rw [List.length_take]; omega)
  refine cond_d (fun hlt => ?_) (fun hge => ?_)
  · have hi' : i < xs.length := by omega
    obtain ⟨_, q, hq, c0, c1, c2, c3, c4⟩ := rd_op (h.no k10) hi'
    have hgt := goods_take xs i hi'
    have hxf := hf xs[i] (List.getElem_mem hi')
    generalize xs[i] = x at c0 c1 c2 c3 c4 hgt hxf
    refine ⟨q, hq, by omega, by omega, x.k, x.e, x.u, x.v, x.b, by rw [Int.toNat_natCast]; exact c0, by rw [Int.toNat_natCast]; exact c1, by rw [Int.toNat_natCast]; exact c2, by rw [Int.toNat_natCast]; exact c3, by rw [Int.toNat_natCast]; exact c4, ?_⟩
    intro p19 w20
    have b20 : Bk w20 p19 #[.int .i64 0, .int .i64 0, .int .i64 0, .int .i64 0, .int .u32 0] 57 := Bk.new w10 _ _
    have k20 : Keep no w10 w20 := Keep.alloc _ _ _
    have h19 : w10.heap.size ≤ p19 := Nat.le_refl _
    clear_value p19 w20
    obtain ⟨f1, f2, f3⟩ := fin5 (a := .int .i64 x.k) (b := .int .i64 x.e) (c := .int .i64 x.u) (d := .int .i64 x.v) (e := .int .u32 x.b) b20 rfl
    refine ⟨f1, ?_⟩
    intro w21
    have b21 : Bk w21 p19 (opC x) 57 := f2
    have k21 : Keep no w10 w21 := k20.new f3 (by rintro z rfl; exact h19)
    clear_value w21
    refine ⟨_, _, _, _, _, b21.cell 0, b21.cell 1, b21.cell 2, b21.cell 3, b21.cell 4, ?_⟩
    refine (Encode_spec w21 hxf).mono ?_
    rintro e w28 ⟨s, cd, rfl, k28, hcase⟩
    refine ⟨_, _, _, _, rfl, ?_⟩
    have K28 := k21.then k28
    have ei : IntKind.i64.wrap ((i : Int) + 1) = ((i + 1 : Nat) : Int) := by rw [IntWalk.i64_in _ ⟨by omega, by omega⟩]; rfl
    rw [ei]
    have hmu : n - ((i + 1 : Nat) : Int).toNat < n - (i : Int).toNat := by omega
    rcases hcase with ⟨hen, rfl, rfl⟩ | ⟨l, hel', rfl, hos⟩
    · refine cond_f rfl ⟨⟨i + 1, b1, b2, b3, g1, g2, g3, e1, e2, e3, es, rfl, by omega, ?_⟩, hmu⟩
      have hpn : plain x = none := by
        cases hp : plain x with
        | none => rfl
        | some y => rw [((enc_plain x).1 y hp).1] at hen; cases hen
      rw [hpn] at hgt
      simp only [Option.toList_none, List.append_nil] at hgt
      rw [hgt]
      exact ⟨own_no' hob K28, own_no' hog K28, own_no' hoe K28, hel, hez, k10.then K28⟩
    · refine cond_t rfl ?_
      obtain ⟨y, hp⟩ : ∃ y, plain x = some y := by
        cases hp : plain x with
        | none => rw [(enc_plain x).2 hp] at hel'; cases hel'
        | some y => exact ⟨y, rfl⟩
      have hyp := (enc_plain x).1 y hp
      have hl : l = er y := by
        have := enc_is hyp.2.2.2
        rw [hyp.2.1, hel'] at this
        exact Option.some.inj this
      subst hl
      rw [hp] at hgt
      simp only [Option.toList_some] at hgt
      have her := er_len hyp.2.2.2
      have hsn : s.n = (er y).length := by have := hos.1; simp at this; exact this.symm
      have hob28 := own_no' hob K28
      have hog28 := own_no' hog K28
      have hoe28 := own_no' hoe K28
      refine app5 hob28 (Rd.own0 hos) (by omega) (k10.then K28).size (Nat.le_refl _) (k10.then K28) fun a33 c33 w32 o32 k32 kk32 => ?_
      have og32 := own_other hog28 hob28 kk32 (by decide)
      have oe32 := own_other hoe28 hob28 kk32 (by decide)
      have b32 : Bk w32 p19 (opC x) 57 := bk5 hob28 kk32 (b21.no k28) (by decide)
      refine ⟨_, _, _, _, _, b32.cell 0, b32.cell 1, b32.cell 2, b32.cell 3, b32.cell 4, ?_⟩
      refine (Plain_spec w32 x).mono ?_
      rintro e w40 ⟨k40, hpl40⟩
      obtain rfl : e = .returned (.tuple #[opV y, .int .i64 0]) := by
        rcases hpl40 with ⟨hp', _⟩ | ⟨y', hp', he⟩
        · rw [hp] at hp'; cases hp'
        · rw [hp] at hp'; cases hp'; exact he
      refine ⟨_, _, _, _, _, _, rfl, ?_⟩
      intro p47 w48
      have b48 : Bk w48 p47 #[.int .i64 0, .int .i64 0, .int .i64 0, .int .i64 0, .int .u32 0] 57 := Bk.new w40 _ _
      have k48 : Keep no w40 w48 := Keep.alloc _ _ _
      have h47 : w40.heap.size ≤ p47 := Nat.le_refl _
      clear_value p47 w48
      obtain ⟨f1, f2, f3⟩ := fin5 (a := .int .i64 y.k) (b := .int .i64 y.e) (c := .int .i64 y.u) (d := .int .i64 y.v) (e := .int .u32 y.b) b48 rfl
      refine ⟨f1, ?_⟩
      intro w49
      have b49 : Bk w49 p47 (opC y) 57 := f2
      have k49 : Keep no w32 w49 := k40.then (k48.new f3 (by rintro z rfl; exact h47))
      clear_value w49
      refine ⟨_, _, _, _, _, b49.cell 0, b49.cell 1, b49.cell 2, b49.cell 3, b49.cell 4, ?_⟩
      intro p55 w56
      have b56 : Bk w56 p55 (opC y) 57 := Bk.new w49 _ _
      have k56 : Keep no w32 w56 := k49.then (Keep.alloc _ _ _)
      clear_value p55 w56
      have ob56 := own_no' o32 k56
      have og56 := own_no' og32 k56
      have oe56 := own_no' oe32 k56
      refine rw_append E64 og56 (Rd.blk0 (sz := 5) (n := 1) b56 rfl (by simp [maxLen])) (by simp [one1]) (by omega) (by simp only [maxLen]; omega) (k32.then k56).size fun a59 c59 w58 o58 k58 _ => ?_
      have ob58 := own_other ob56 og56 k58 (by decide)
      have oe58 := own_other oe56 og56 k58 (by decide)
      have K58 : Keep no w w58 := (k32.then k56).new k58 fun z hz => (own_ty (q := ⟨g1, g2, g3⟩) og56 hz).2
      intro p60 w61
      have b61 : Bk w61 p60 #[.int .i64 ((b2 + s.n : Nat) : Int)] 3 := Bk.new w58 _ _
      have k61 : Keep no w58 w61 := Keep.alloc _ _ _
      clear_value p60 w61
      have oe61 := own_no' oe58 k61
      refine rw_append E69 oe61 (Rd.blk0 (sz := 1) (n := 1) b61 rfl (by simp [maxLen])) (by simp [one1]) (by omega) (by simp only [maxLen]; omega) (K58.then k61).size fun a64 c64 w63 o63 k63 _ => ?_
      have hob63 := own_other (own_no' ob58 k61) oe61 k63 (by decide)
      have hog63 := own_other (own_no' o58 k61) oe61 k63 (by decide)
      have hrr : recs (goods (xs.take i) ++ [y]) = recs (goods (xs.take i)) ++ er y := by rw [recs_append]; simp [recs]
      refine ⟨⟨i + 1, a33, _, c33, a59, _, c59, a64, _, c64, es ++ [b2 + s.n], rfl, by omega, ?_⟩, hmu⟩
      rw [hgt]
      refine ⟨by rw [hrr]; exact hob63, by rw [opl_append]; exact hog63, by simpa [ints] using o63, by simp [hel], ?_, (K58.then k61).new k63 fun z hz => (own_ty (q := ⟨e1, e2, e3⟩) oe61 hz).2⟩
      intro j z hz
      rcases Nat.lt_or_ge j es.length with hjl | hjl
      · rw [List.getElem?_append_left hjl] at hz
        rw [List.take_append_of_le_length (by omega)]
        exact hez j z hz
      · have hje : j = es.length := by
          have := (List.getElem?_eq_some_iff.1 hz).1
          simp at this; omega
        subst hje
        rw [List.getElem?_append_right (by omega), Nat.sub_self] at hz
        cases hz
        rw [List.take_of_length_le (by simp; omega), hrr, List.length_append, hb2, hsn]
  · have hall : xs.take i = xs := List.take_of_length_le (by omega)
    rw [hall] at hob hog hel hez hpl hb2 hg2 hrl hgl
    generalize goods xs = ys at *
    have hin : i = n := by omega
    refine (Scan_spec (Rd.own0 hob) (by have := scan_recs hpl []; rw [List.append_nil, scan_none (b := []) rfl] at this; rw [this]; simp; omega)).mono ?_
    have hsc := scan_recs hpl []
    rw [List.append_nil, scan_none (b := []) rfl, List.append_nil] at hsc
    rw [hsc]
    rintro e w93 ⟨s, rfl, k93, ho93, hs93⟩
    refine ⟨_, _, _, _, rfl, ?_⟩
    intro K101
    refine cond_f (by simp [hb2]) ?_
    refine (Same_spec (Rd.own0 ho93) (Rd.own0 (own_no' hog k93))).mono ?_
    rintro e w97 ⟨k97, r, rfl, hr⟩
    refine ⟨_, rfl, ?_⟩
    rw [hr.2 rfl]
    refine cond_f rfl ?_
    have k10' : Keep no w w97 := (k10.then k93).then k97
    have hob97 := own_no' hob (k93.then k97)
    have hog97 := own_no' hog (k93.then k97)
    have hoe97 := own_no' hoe (k93.then k97)
    clear K101
    obtain ⟨ct, hct, ect, hne⟩ := modcut (cut := cut) b2 (by omega)
    refine ⟨hne, ?_⟩
    rw [ect]
    clear ect hne
    refine ⟨fun vs v => ∃ k : Nat, vs = [.int .i64 (recs (ys.take k)).length, .int .i64 k] ∧ k ≤ ys.length ∧ (recs (ys.take k)).length ≤ ct ∧ v = w97, fun vs v => match vs with | [_, .int _ k] => ys.length - k.toNat | _ => 0, ⟨0, rfl, by omega, by simp [recs], rfl⟩, ?_⟩
    rintro w104 wh k0 ⟨k, hv, hk, hkc, rfl⟩
    cases hv
    have hre : Rd w104 3 1 e1 e2 e3 (ints es) := Rd.own hoe97
    have hend : ∀ j, j < ys.length → ∃ q, e1 = some q ∧ w104.cell? (q.add (j * 1)) = some (.int .i64 ((recs (ys.take (j + 1))).length : Nat)) := by
      intro j hj
      obtain ⟨q, hq, hc⟩ := hre.at_ (i := j) (by omega)
      obtain ⟨u, hu, hcu⟩ := hc 0 (by omega)
      rw [Nat.mul_one, Nat.add_zero] at hu
      rw [addZ] at hcu
      refine ⟨q, hq, ?_⟩
      rw [hcu]
      have hj' : j < es.length := by omega
      simp only [ints, List.getElem?_map, List.getElem?_eq_getElem hj', Option.map_some, Option.some.injEq] at hu
      rw [← hu, hez j es[j] (List.getElem?_eq_getElem hj')]
    intro K112
    have stop : ∀ b, (k < ys.length → ct < (recs (ys.take (k + 1))).length) → K112 b false w104 := by
      intro b hstop
      refine cond_f rfl ?_
      have hr0 : Rd w104 0 1 b1 b2 b3 (bvs (recs ys)) := Rd.own0 hob97
      refine ⟨by omega, by have := hr0.2.1; omega, ?_⟩
      rw [Int.toNat_natCast ct]
      have hsct := scan_cut hpl hk hkc hstop
      refine (Scan_spec (Rd.takeB hr0 hct) (by rw [hsct]; simp; omega)).mono ?_
      rw [hsct]
      rintro e w116 ⟨s2, rfl, k116, ho116, hs116⟩
      refine ⟨_, _, _, _, rfl, ?_⟩
      refine cond_t (by simp) ?_
      have hrg : Rd w116 57 5 g1 g2 g3 (opl ys) := Rd.own (own_no' hog97 k116)
      refine ⟨by omega, by have := hrg.2.1; omega, ?_⟩
      rw [Int.toNat_natCast k]
      have hsub := Rd.sub hrg (l := 0) (r := k) (by omega) (by omega)
      have hsub2 : Rd w116 57 5 (subS g1 g3 0 5) (k - 0) (g3 - 0) (opl (ys.take k)) := by
        have e : opl (ys.take k) = ((opl ys).drop (0 * 5)).take ((k - 0) * 5) := by
          rw [opl_take, Nat.zero_mul, List.drop_zero, Nat.sub_zero]
        rw [e]; exact hsub
      refine (Same_spec (Rd.own0 ho116) hsub2).mono ?_
      rintro e w120 ⟨k120, r2, rfl, hr2⟩
      refine ⟨_, rfl, ?_⟩
      rw [hr2.2 rfl]
      exact ⟨rfl, ((k10'.then k116).then k120).below⟩
    have go : ∀ b, k < ys.length → (recs (ys.take (k + 1))).length ≤ ct → K112 b true w104 := by
      intro b hkl hle
      refine cond_t rfl ?_
      obtain ⟨q, hq, hc⟩ := hend k hkl
      have ei : IntKind.i64.wrap ((k : Int) + 1) = ((k + 1 : Nat) : Int) := by rw [IntWalk.i64_in _ ⟨by omega, by omega⟩]; rfl
      refine ⟨q, hq, by omega, by omega, _, by rw [Int.toNat_natCast]; exact hc, ?_⟩
      rw [ei]
      refine ⟨⟨k + 1, rfl, by omega, hle, rfl⟩, ?_⟩
      show ys.length - ((k + 1 : Nat) : Int).toNat < ys.length - (k : Int).toNat
      omega
    clear_value K112
    refine cond_d (fun hlt2 => ?_) (fun hge2 => stop _ fun hkl => by omega)
    have hkl : k < ys.length := by omega
    obtain ⟨q, hq, hc⟩ := hend k hkl
    refine ⟨q, hq, by omega, by omega, _, by rw [Int.toNat_natCast]; exact hc, ?_⟩
    by_cases hle : (recs (ys.take (k + 1))).length ≤ ct
    · rw [decide_eq_true (show (((recs (ys.take (k + 1))).length : Nat) : Int) ≤ (ct : Int) by omega)]; exact go _ hkl hle
    · rw [decide_eq_false (show ¬ (((recs (ys.take (k + 1))).length : Nat) : Int) ≤ (ct : Int) by omega)]; exact stop _ fun _ => by omega
end
theorem torn_row {w : World} {s : Sv} (h : OpsRd w s) {cut : Int} (_ : (Lit.int .i64 cut).wf = true) : Calls Try.prog 10 #[.slice s.a s.n s.c, .int .i64 cut] w fun e w' => e = .returned (.bool true) ∧ Below w.heap.size w w' := by
  obtain ⟨xs, h1, h2, h3⟩ := h
  exact @torn_core noAv _ _ _ _ _ h1 h2 h3 cut
end Go.Proofs.Ytmfidfaiopogbaa
