/- What RecordScans and RecordLongest answer. -/
import Derived.Test.YtmfidfaiopogbaaShP10
import Derived.Test.YtmfidfaiopogbaaShL9
import Derived.Test.YtmfidfaiopogbaaShL11
set_option linter.unusedVariables false
set_option linter.unusedSimpArgs false
set_option linter.unusedSectionVars false
set_option maxRecDepth 4000
namespace Go.Proofs.Ytmfidfaiopogbaa
open Go Go.Sh
open Go.RowKit (Below)

/-- What Scan takes is the records of what it answers; what it leaves begins with none. -/
theorem scan_is : ∀ (m : Nat) (l : Bs), l.length ≤ m → Pl (scan l).1 ∧ l.take (scan l).2 = recs (scan l).1 ∧ (scan l).2 ≤ l.length ∧ scan (l.drop (scan l).2) = ([], 0) := by
  intro m
  induction m with
  | zero =>
    intro l hl
    have : l = [] := List.eq_nil_of_length_eq_zero (by omega)
    subst this
    rw [scan_none (b := []) rfl]
    exact ⟨fun y hy => by simp at hy, rfl, by simp, scan_none (b := []) rfl⟩
  | succ m ih =>
    intro l hl
    cases hd : dec l with
    | none =>
      rw [scan_none hd]
      exact ⟨fun y hy => by simp at hy, rfl, by simp, by rw [List.drop_zero]; exact scan_none hd⟩
    | some v =>
      obtain ⟨y, n⟩ := v
      have hdl := dec_len hd
      obtain ⟨L, hL, hLn⟩ := dec_some hd
      obtain ⟨i1, i2, i3, i4⟩ := ih (l.drop n) (by rw [List.length_drop]; omega)
      rw [scan_some hd]
      rw [List.length_drop] at i3
      refine ⟨?_, ?_, by simp only; omega, ?_⟩
      · intro z hz
        rcases List.mem_cons.1 hz with rfl | hz
        · exact ⟨hL.1, hL.2.1⟩
        · exact i1 z hz
      · have h1 : L = l.take n := by rw [← hLn]; exact (front_self hL).2
        have h2 : er y = L := by
          have := hL.2.2.1
          rw [enc_is hL.2.1] at this
          exact Option.some.inj this
        simp only [recs]
        rw [h2, h1, ← i2, List.take_add]
      · simp only
        rw [← List.drop_drop]
        exact i4
theorem scan_count (l : Bs) : (scan l).1.length * 4 ≤ l.length := by
  obtain ⟨h1, h2, h3, _⟩ := scan_is l.length l (Nat.le_refl _)
  have : ∀ ys : List Op, Pl ys → ys.length * 4 ≤ (recs ys).length := by
    intro ys h
    induction ys with
    | nil => simp
    | cons y r ih =>
      have a := (er_len (h y (List.mem_cons_self ..)).2).1
      have b := ih fun z hz => h z (List.mem_cons_of_mem _ hz)
      simp only [recs, List.length_cons, List.length_append]
      omega
  have := this _ h1
  rw [← h2, List.length_take] at this
  omega
section
variable [Av]
theorem scans_core {w : World} {n c : Nat} {a : Option Addr} {l : Bs} (h : Rd w 0 1 a n c (bvs l)) (hn : n ≤ 1048576) :
    Calls Try.prog 9 #[.slice a n c] w fun e w' => e = .returned (.bool true) ∧ Below w.heap.size w w' := by
  have hnl : n = l.length := by have := h.1; simp at this; exact this.symm
  have hcnt := scan_count l
  refine c9 ?_
  unfold sh9
  refine (awakeR_spec w).mono ?_
  rintro e w3 ⟨rfl, k3⟩
  refine ⟨_, rfl, cond_f rfl ?_⟩
  intro p5 w6
  have o6 : w6.ownsRow w.heap.size 5 1 (.slice (some ⟨p5, 0, none⟩) 0 0) 0 (bvs []) := lit_own w3 5 1 k3.size
  have k6 : Keep no w w6 := k3.then (Keep.alloc _ _ _)
  clear_value p5 w6
  refine app5 o6 (h.no k6) (by omega) k6.size (Nat.le_refl _) k6 fun a9 c9 w8 o8 k8 _ => ?_
  rw [List.nil_append] at o8
  refine (Scan_spec (Rd.own0 o8) (by omega)).mono ?_
  rintro e w11 ⟨s1, rfl, k11, ho11, hs11⟩
  refine ⟨_, _, _, _, rfl, ?_⟩
  have K11 := k8.then k11
  refine (RScan_spec (h.no K11) (by omega) (by omega)).mono ?_
  rintro e w15 ⟨s2, rfl, k15, ho15, hs15⟩
  refine ⟨_, _, _, _, rfl, cond_t (by simp) ?_⟩
  refine (Same_spec (Rd.own0 (own_no' ho11 k15)) (Rd.own0 ho15)).mono ?_
  rintro e w19 ⟨k19, r, rfl, hr⟩
  refine ⟨_, rfl, ?_⟩
  rw [hr.2 rfl]
  exact ⟨rfl, ((K11.then k15).then k19).below⟩

set_option maxHeartbeats 1000000 in
theorem longest_core {w : World} {n c : Nat} {a : Option Addr} {l : Bs} (h : Rd w 0 1 a n c (bvs l)) (hn : n ≤ 1048576) :
    Calls Try.prog 11 #[.slice a n c] w fun e w' => e = .returned (.bool true) ∧ Below w.heap.size w w' := by
  have hnl : n = l.length := by have := h.1; simp at this; exact this.symm
  have hcnt := scan_count l
  obtain ⟨hpl, htk, hle, hdr⟩ := scan_is l.length l (Nat.le_refl _)
  have hcn := h.2.1
  refine c11 ?_
  unfold sh11
  refine (awakeR_spec w).mono ?_
  rintro e w3 ⟨rfl, k3⟩
  refine ⟨_, rfl, cond_f rfl ?_⟩
  intro p5 w6
  have o6 : w6.ownsRow w.heap.size 5 1 (.slice (some ⟨p5, 0, none⟩) 0 0) 0 (bvs []) := lit_own w3 5 1 k3.size
  have k6 : Keep no w w6 := k3.then (Keep.alloc _ _ _)
  clear_value p5 w6
  refine app5 o6 (h.no k6) (by omega) k6.size (Nat.le_refl _) k6 fun a9 c9 w8 o8 k8 _ => ?_
  rw [List.nil_append] at o8
  refine (Scan_spec (Rd.own0 o8) (by omega)).mono ?_
  have hsc : scan l = ((scan l).1, (scan l).2) := rfl
  generalize (scan l).1 = ys at *
  generalize (scan l).2 = t at *
  rintro e w11 ⟨s1, rfl, k11, ho11, hs11⟩
  refine ⟨_, _, _, _, rfl, ?_⟩
  have K11 := k8.then k11
  intro K16
  have go : K16 false w11 := by
    refine cond_f rfl ?_
    refine ⟨fun vs v => ∃ (i : Nat) (b1 : Option Addr) (b2 b3 : Nat), vs = [.bool false, .slice b1 b2 b3, .int .i64 i] ∧ i ≤ ys.length ∧ v.ownsRow w11.heap.size 5 1 (.slice b1 b2 b3) b2 (bvs (recs (ys.take i))) ∧ Keep no w11 v,
      fun vs v => match vs with | [_, _, .int _ i] => ys.length - i.toNat | _ => 0, ⟨0, none, 0, 0, rfl, by omega, World.ownsRow_nil _ _ _ _, Keep.refl _ _⟩, ?_⟩
    rintro w20 b17 b1 b2 b3 n19 ⟨i, x1, x2, x3, hv, hi, hob, k20⟩
    cases hv
    have hpi : Pl (ys.take i) := fun z hz => hpl z (List.mem_of_mem_take hz)
    have hb2 : b2 = (recs (ys.take i)).length := by have := hob.1; simp at this; exact this.symm
    have hrl := recs_len hpi
    rw [List.length_take] at hrl
    refine cond_d (fun hlt => ?_) (fun hge => ?_)
    · have hi' : i < ys.length := by omega
      obtain ⟨_, q, hq, c0, c1, c2, c3, c4⟩ := rd_op (Rd.own0 (own_no' ho11 k20)) hi'
      have hgt : ys.take (i + 1) = ys.take i ++ [ys[i]] := List.take_succ_eq_append_getElem hi'
      have hxf := hpl ys[i] (List.getElem_mem hi')
      generalize ys[i] = x at c0 c1 c2 c3 c4 hgt hxf
      refine ⟨q, hq, by omega, by omega, x.k, x.e, x.u, x.v, x.b, by rw [Int.toNat_natCast]; exact c0, by rw [Int.toNat_natCast]; exact c1, by rw [Int.toNat_natCast]; exact c2, by rw [Int.toNat_natCast]; exact c3, by rw [Int.toNat_natCast]; exact c4, ?_⟩
      intro p29 w30
      have b30 : Bk w30 p29 #[.int .i64 0, .int .i64 0, .int .i64 0, .int .i64 0, .int .u32 0] 57 := Bk.new w20 _ _
      have k30 : Keep no w20 w30 := Keep.alloc _ _ _
      have h29 : w20.heap.size ≤ p29 := Nat.le_refl _
      clear_value p29 w30
      obtain ⟨f1, f2, f3⟩ := fin5 (a := .int .i64 x.k) (b := .int .i64 x.e) (c := .int .i64 x.u) (d := .int .i64 x.v) (e := .int .u32 x.b) b30 rfl
      refine ⟨f1, ?_⟩
      intro w31
      have b31 : Bk w31 p29 (opC x) 57 := f2
      have k31 : Keep no w20 w31 := k30.new f3 (by rintro z rfl; exact h29)
      clear_value w31
      refine ⟨_, _, _, _, _, b31.cell 0, b31.cell 1, b31.cell 2, b31.cell 3, b31.cell 4, ?_⟩
      refine (Encode_spec w31 hxf.1).mono ?_
      rintro e w38 ⟨s, cd, rfl, k38, hcase⟩
      refine ⟨_, _, _, _, rfl, ?_⟩
      have K38 := k31.then k38
      have ei : IntKind.i64.wrap ((i : Int) + 1) = ((i + 1 : Nat) : Int) := by rw [IntWalk.i64_in _ ⟨by omega, by omega⟩]; rfl
      rw [ei]
      obtain ⟨rfl, hos⟩ : cd = 0 ∧ w38.ownsRow w31.heap.size 5 1 s.v s.n (bvs (er x)) := by
        have he := enc_is hxf.2
        rcases hcase with ⟨h1, _⟩ | ⟨l', h1, h2, h3⟩
        · rw [he] at h1; cases h1
        · rw [he] at h1
          have := Option.some.inj h1
          subst this
          exact ⟨h2, h3⟩
      refine cond_f rfl ?_
      have her := er_len hxf.2
      have hsn : s.n = (er x).length := by have := hos.1; simp at this; exact this.symm
      refine app5 (own_no' hob K38) (Rd.own0 hos) (by omega) (k20.then K38).size (Nat.le_refl _) (k20.then K38) fun a33 c33 w32 o32 k32 kk32 => ?_
      refine ⟨⟨i + 1, a33, _, c33, rfl, by omega, ?_, k32⟩, ?_⟩
      · rw [hgt, recs_append]
        simpa [recs] using o32
      · show ys.length - ((i + 1 : Nat) : Int).toNat < ys.length - (i : Int).toNat
        omega
    · rw [List.take_of_length_le (by omega)] at hob hb2
      have hrt : (recs ys).length = t := by rw [← htk, List.length_take]; omega
      have K20 := K11.then k20
      intro p44 w45
      have o45 : w45.ownsRow w20.heap.size 5 1 (.slice (some ⟨p44, 0, none⟩) 0 0) 0 (bvs []) := lit_own w20 5 1 (Nat.le_refl _)
      have k45 : Keep no w20 w45 := Keep.alloc _ _ _
      clear_value p44 w45
      refine ⟨by omega, by omega, ?_⟩
      rw [Int.toNat_natCast t]
      refine app5 o45 (Rd.takeB (h.no (K20.then k45)) (by omega)) (by omega) k45.size (Nat.le_refl _) k45 fun a48 c48 w47 o47 k47 _ => ?_
      rw [List.nil_append, htk] at o47
      have hst : scan (recs ys) = (ys, t) := by
        have := scan_recs hpl []
        rw [List.append_nil, scan_none (b := []) rfl, List.append_nil, Nat.add_zero, hrt] at this
        exact this
      refine (Scan_spec (Rd.own0 o47) (by rw [hst]; simp only; omega)).mono ?_
      rw [hst]
      rintro e w50 ⟨s2, rfl, k50, ho50, hs50⟩
      refine ⟨_, _, _, _, rfl, ?_⟩
      have k50' := k47.then k50
      intro p53 w54
      have o54 : w54.ownsRow w50.heap.size 5 1 (.slice (some ⟨p53, 0, none⟩) 0 0) 0 (bvs []) := lit_own w50 5 1 (Nat.le_refl _)
      have k54 : Keep no w50 w54 := Keep.alloc _ _ _
      clear_value p53 w54
      refine ⟨by omega, by omega, ?_⟩
      refine app5 o54 (Rd.dropB (h.no ((K20.then k50').then k54)) (by omega)) (by omega) k54.size (Nat.le_refl _) k54 fun a57 c57 w56 o56 k56 _ => ?_
      rw [List.nil_append] at o56
      refine (Scan_spec (Rd.own0 o56) (by rw [hdr]; simp)).mono ?_
      rw [hdr]
      rintro e w59 ⟨s3, rfl, k59, ho59, hs59⟩
      refine ⟨_, _, _, _, rfl, ?_⟩
      intro w62
      have k62 : Keep no w50 w62 := (k56.then k59).then (Keep.drew _ _)
      clear_value w62
      have K62 := (K20.then k50').then k62
      refine rw_str Try.underlying36 Try.underlying5 Try.underlying9 (Rd.own0 (own_no' hob (k50'.then k62))) ?_
      refine ⟨by omega, by omega, ?_⟩
      refine rw_str Try.underlying36 Try.underlying5 Try.underlying9 (Rd.takeB (h.no K62) (by omega)) ?_
      rw [htk]
      refine cond_t (by rw [beq_strD]; exact decide_eq_true rfl) (cond_t (by simp) ?_)
      refine (Same_spec (Rd.own0 (own_no' ho50 k62)) (Rd.own0 (own_no' ho11 ((k20.then k50').then k62)))).mono ?_
      rintro e w70 ⟨k70, r, rfl, hr⟩
      refine ⟨_, rfl, ?_⟩
      rw [hr.2 rfl]
      refine cond_t rfl (cond_t (by rw [hs59]; rfl) ⟨rfl, (K62.then k70).below⟩)
  clear_value K16
  refine cond_d (fun hneg => by omega) (fun hge => ?_)
  rw [decide_eq_false (show ¬ (((t : Nat) : Int) > ((n : Nat) : Int)) by omega)]
  exact go
end
end Go.Proofs.Ytmfidfaiopogbaa
