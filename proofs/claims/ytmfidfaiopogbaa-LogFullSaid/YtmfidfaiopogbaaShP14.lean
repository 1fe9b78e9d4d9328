/- What LogOpens answers. -/
import Derived.Test.YtmfidfaiopogbaaShStr3
import Derived.Test.YtmfidfaiopogbaaShLoad
import Derived.Test.YtmfidfaiopogbaaShL14
set_option linter.unusedVariables false
set_option linter.unusedSimpArgs false
set_option linter.unusedSectionVars false
set_option maxRecDepth 4000
namespace Go.Proofs.Ytmfidfaiopogbaa
open Go Go.Sh
open Go.RowKit (Below)
theorem opened_facts (s : Fs) : nmF s.opened.a = nmF s.a ∧ s.opened.get (nmF s.a) = (s.get (nmF s.a)).take (scan (s.get (nmF s.a))).2 ∧ s.opened.get (3 - nmF s.a) = [] ∧ tidyW s.opened.a = true := by
  have hf := nmF_two s.a
  generalize hT : (s.set (nmF s.a) ((s.get (nmF s.a)).take (scan (s.get (nmF s.a))).2)).set (3 - nmF s.a) [] = T
  have hop : s.opened = if s.a = [1] ∨ s.a = [2] then T else T.set 0 [] := by unfold Fs.opened; rw [← hT]
  have hTa : T.a = s.a := by rw [← hT, set_a _ (by omega), set_a _ hf]
  have hTf : T.get (nmF s.a) = (s.get (nmF s.a)).take (scan (s.get (nmF s.a))).2 := by
    rw [← hT, Fs.get_set_ne _ (by omega) (by omega) (by omega), Fs.get_set _ (by omega)]
  have hTo : T.get (3 - nmF s.a) = [] := by rw [← hT, Fs.get_set _ (by omega)]
  by_cases h : s.a = [1] ∨ s.a = [2]
  · rw [hop, if_pos h]
    refine ⟨by rw [hTa], hTf, hTo, ?_⟩
    rw [hTa]
    rcases h with h | h <;> (rw [h]; rfl)
  · rw [hop, if_neg h]
    have h1 : nmF s.a = 1 := by unfold nmF; rw [if_neg fun h' => h (.inr h')]
    refine ⟨?_, ?_, ?_, rfl⟩
    · rw [h1]; rfl
    · rw [Fs.get_set_ne _ (by omega) (by omega) (by omega)]; exact hTf
    · rw [Fs.get_set_ne _ (by omega) (by omega) (by omega)]; exact hTo
/-- Files with just a log, and what belongs to it. -/
theorem openC_nil {s : Fs} (h1 : (scan (s.get (nmF s.a))).2 = (s.get (nmF s.a)).length) (h2 : s.get (3 - nmF s.a) = []) (h3 : tidyW s.a = true) : openC s = [] := by
  unfold openC
  rw [if_neg (by omega), if_neg (by rw [h2]; simp), if_pos h3]
  rfl
theorem tidyB_nil {s : Fs} (h : tidyB s = true) : openC s = [] := by
  unfold tidyB at h
  simp only [Bool.and_eq_true, decide_eq_true_eq] at h
  exact openC_nil h.1.1 h.1.2 h.2
theorem opened_again (s : Fs) : openC s.opened = [] ∧ (scan (s.opened.get (nmF s.opened.a))).1 = (scan (s.get (nmF s.a))).1 := by
  obtain ⟨h1, h2, h3, h4⟩ := opened_facts s
  have hsc := (scan_is _ (s.get (nmF s.a)) (Nat.le_refl _)).2.2.1
  refine ⟨openC_nil ?_ ?_ h4, ?_⟩
  · rw [h1, h2, scan_take, List.length_take]; omega
  · rw [h1]; exact h3
  · rw [h1, h2, scan_take]
local instance avP14 : Av := noAv
set_option maxHeartbeats 1600000 in
theorem opens_core {w : World} {n1 c1 n2 c2 n3 c3 : Nat} {a1 a2 a3 : Option Addr} {l1 l2 l3 : Bs} (h1 : Rd w 0 1 a1 n1 c1 (bvs l1)) (y1 : n1 ≤ 140737488355328) (h2 : Rd w 0 1 a2 n2 c2 (bvs l2)) (y2 : n2 ≤ 140737488355328) (h3 : Rd w 0 1 a3 n3 c3 (bvs l3)) (y3 : n3 ≤ 140737488355328) :
    Calls Try.prog 14 #[.slice a1 n1 c1, .slice a2 n2 c2, .slice a3 n3 c3] w fun e w' => e = .returned (.bool true) ∧ Below w.heap.size w w' := by
  have hO : ∀ v : World, Old v := fun v => noOld v
  refine c14 ?_
  unfold sh14
  refine (awakeL_spec w (hO _)).mono ?_
  rintro e w5 ⟨rfl, k5⟩
  refine ⟨_, rfl, cond_f rfl ?_⟩
  intro p7 w8
  have o8 : w8.ownsRow w5.heap.size 5 1 (.slice (some ⟨p7, 0, none⟩) 0 0) 0 (bvs []) := lit_own w5 5 1 (Nat.le_refl _)
  have k8 : Keep no w5 w8 := Keep.alloc _ _ _
  clear_value p7 w8
  refine app5 o8 (h1.no (k5.then k8)) (by omega) k8.size (Nat.le_refl _) k8 fun b1 d1 w10 o10 k10 _ => ?_
  rw [List.nil_append] at o10
  intro p12 w13
  have o13 : w13.ownsRow w10.heap.size 5 1 (.slice (some ⟨p12, 0, none⟩) 0 0) 0 (bvs []) := lit_own w10 5 1 (Nat.le_refl _)
  have k13 : Keep no w10 w13 := Keep.alloc _ _ _
  clear_value p12 w13
  refine app5 o13 (h2.no ((k5.then k10).then k13)) (by omega) k13.size (Nat.le_refl _) k13 fun b2 d2 w15 o15 k15 _ => ?_
  rw [List.nil_append] at o15
  intro p17 w18
  have o18 : w18.ownsRow w15.heap.size 5 1 (.slice (some ⟨p17, 0, none⟩) 0 0) 0 (bvs []) := lit_own w15 5 1 (Nat.le_refl _)
  have k18 : Keep no w15 w18 := Keep.alloc _ _ _
  clear_value p17 w18
  refine app5 o18 (h3.no (((k5.then k10).then k15).then k18)) (by omega) k18.size (Nat.le_refl _) k18 fun b3 d3 w20 o20 k20 _ => ?_
  rw [List.nil_append] at o20
  intro p22 w23
  have b23 : Bk w23 p22 #[.slice b1 (0 + n1) d1, .slice b2 (0 + n2) d2, .slice b3 (0 + n3) d3] 36 := Bk.new w20 _ _
  have k23 : Keep no w20 w23 := Keep.alloc _ _ _
  clear_value p22 w23
  have K23 : Keep no w w23 := (((k5.then k10).then k15).then k20).then k23
  have hFL : FL w23 ⟨some ⟨p22, 0, none⟩, 3, 3⟩ [l1, l2, l3] := by
    refine ⟨rfl, by simp [maxLen], fun i hi => ⟨⟨p22, 0, none⟩, rfl, ?_⟩⟩
    rw [addP, Nat.zero_add, Nat.mul_one, b23.cell]
    match i, hi with
    | 0, _ => exact ⟨⟨b1, 0 + n1, d1⟩, rfl, Rd.own0 (own_no' o10 ((k15.then k20).then k23)), by simp only; omega⟩
    | 1, _ => exact ⟨⟨b2, 0 + n2, d2⟩, rfl, Rd.own0 (own_no' o15 (k20.then k23)), by simp only; omega⟩
    | 2, _ => exact ⟨⟨b3, 0 + n3, d3⟩, rfl, Rd.own0 (own_no' o20 k23), by simp only; omega⟩
  refine (Load_spec hFL (hO _)).mono ?_
  rintro e w25 ⟨k25, hcase⟩
  have K25 := K23.then k25
  rcases hcase with ⟨hx, _⟩ | ⟨_, _, rfl⟩ | ⟨_, _, p, rfl, hd⟩
  · simp at hx
  · refine ⟨_, _, rfl, ?_⟩
    intro K30
    exact cond_t rfl (cond_t rfl ⟨rfl, K25.below⟩)
  refine ⟨_, _, rfl, ?_⟩
  intro K30
  refine cond_f rfl ?_
  refine cond_f rfl ?_
  refine rw_str Try.underlying36 Try.underlying5 Try.underlying9 (h1.no K25) ?_
  refine rw_str Try.underlying36 Try.underlying5 Try.underlying9 (h2.no K25) ?_
  refine rw_str Try.underlying36 Try.underlying5 Try.underlying9 (h3.no K25) ?_
  clear K30
  generalize hx : loadA [l1, l2, l3] = x at hd
  have hun : x.armed = false := by rw [← hx]; rfl
  have hrest : x.rest = [] := by rw [← hx]; rfl
  have hraw : x.raws = 0 := by rw [← hx]; rfl
  have hnow : x.now = ⟨l1, l2, l3⟩ := by rw [← hx]; rfl
  have hsm := hd.ok.now
  rw [hnow] at hsm
  generalize hs : (⟨l1, l2, l3⟩ : Fs) = s at hnow hsm
  have e1 : l1 = s.a := by rw [← hs]
  have e2 : l2 = s.b := by rw [← hs]
  have e3 : l3 = s.c := by rw [← hs]
  rw [e1, e2, e3]
  intro p40 w41
  have b41 : Bk w41 p40 (fsC ⟨[], [], []⟩) 77 := Bk.new w25 _ _
  have k41 : Keep no w25 w41 := Keep.alloc _ _ _
  have h40 : w25.heap.size ≤ p40 := Nat.le_refl _
  clear_value p40 w41
  obtain ⟨f1, f2, f3⟩ := fin3 (a := .string (str s.a)) (b := .string (str s.b)) (c := .string (str s.c)) b41 rfl
  refine ⟨f1, ?_⟩
  intro w42
  have b42 : Bk w42 p40 (fsC s) 77 := f2
  have k42 : Keep no w25 w42 := k41.new f3 (by rintro z rfl; exact h40)
  clear_value w42
  have K42 := K25.then k42
  refine ⟨_, _, _, b42.cell 0, b42.cell 1, b42.cell 2, ?_⟩
  refine (tidy_spec (hO _) s hsm).mono ?_
  rintro e w47 ⟨rfl, k47⟩
  refine ⟨_, rfl, ?_⟩
  have hd47 := hd.no_ (k42.then k47)
  have K47 := K42.then k47
  have b47 := b42.no k47
  obtain ⟨q1, q2, q3, q4, q5⟩ := open_seq x
  obtain ⟨q6, q7, q8⟩ := q4 (q2 hun)
  rw [hnow] at q6 q7 q8
  have hyr : (A.seq (openG x.now) x).1.rest = [] := by
    rw [hnow]
    by_cases h0 : openC s = []
    · rw [q7 h0]; exact hrest
    · exact q8 h0
  refine (open_un hd47 (by rw [hrest]; simp) hun).mono ?_
  rintro e w50 ⟨l, g1, g2, g3, rfl, ⟨q50, hL50, k50, _⟩, hya, hl, _, hog⟩
  rw [hnow] at hL50 hog hya hyr
  refine ⟨_, _, _, _, _, rfl, ?_⟩
  generalize hyy : (A.seq (openG s) x).1 = y at hL50 hya hyr q6 q7
  have hf := nmF_two s.a
  have hoff : ∀ {b e : Nat}, TyB w47 b e → e ≠ 112 → e ≠ 114 → ¬ lg l p ⟨none, 0, 0⟩ b := by
    intro b e ht x1 x2 hb
    rcases hb with rfl | hb
    · exact absurd ht.lt (by omega)
    · exact (dk_off hd47 ht x1 x2) hb
  have b50 : Bk w50 p40 (fsC s) 77 := b47.keep k50 (hoff b47.ty (by decide) (by decide))
  have K50 : Keep no w w50 := K47.new k50 fun b hb => by
    rcases hb with rfl | hb
    · exact Nat.le_trans K47.size hl
    · exact Nat.le_trans K23.size (hd47.new hb)
  refine ⟨_, _, _, b50.cell 0, b50.cell 1, b50.cell 2, ?_⟩
  refine (opened_spec (hO _) s hsm).mono ?_
  rintro e w58 ⟨u1, u2, u3, rfl, k58, hou⟩
  refine ⟨_, _, _, _, _, _, rfl, ?_⟩
  have b58 := b50.no k58
  obtain ⟨f1, f2, f3⟩ := fin3 (a := .string (str s.opened.a)) (b := .string (str s.opened.b)) (c := .string (str s.opened.c)) b58 rfl
  refine ⟨f1, ?_⟩
  intro w63
  have b63 : Bk w63 p40 (fsC s.opened) 77 := f2
  have k63 : Keep (is p40) w58 w63 := f3
  clear_value w63
  have hL63 : LgR w63 w23.heap.size l p q50 y (nmF s.a) (scan (s.get (nmF s.a))).2 false := by
    have hL58 := hL50.no_ k58
    exact ⟨hL58.dk.keep k63 fun b hb => by
      obtain rfl : b = p40 := hb
      exact ⟨dk_off hL58.dk b58.ty, fun ht => absurd (ht.uniq b58.ty) (by decide)⟩, hL58.bk.keep k63 fun hb => (hL58.bk.ty.ne b58.ty (by decide)) hb, hL58.lo_⟩
  have hog63 := own_S (own_no' hog k58) k63 fun b hb hb2 => by
    obtain rfl : b = p40 := hb2
    exact absurd ((ty_lt (own_no' hog k58) hb).2.2.uniq b58.ty) (by decide)
  have hou63 := own_S hou k63 fun b hb hb2 => by
    obtain rfl : b = p40 := hb2
    exact absurd ((ty_lt hou hb).2.2.uniq b58.ty) (by decide)
  have K63 : Keep no w w63 := (K50.then k58).new k63 (by rintro z rfl; exact Nat.le_trans K25.size h40)
  intro K108 w64
  have k64 : Keep no w63 w64 := Keep.drew _ _
  have hL64 := hL63.no_ k64
  have hog64 := own_no' hog63 k64
  have hou64 := own_no' hou63 k64
  have b64 := b63.no k64
  have K64 := K63.then k64
  clear_value w64
  obtain ⟨g1', g2', g3', g4'⟩ := opened_facts s
  obtain ⟨v1, v2⟩ := opened_again s
  have hsc := (scan_is _ (s.get (nmF s.a)) (Nat.le_refl _)).2.2.1
  -- behind all that is looked at
  have good : ∀ v, Keep no w64 v → K108 false v := by
    intro w107 k107
    refine cond_f rfl ?_
    have hL107 := hL64.no_ k107
    refine (raw_spec hL107.dk).mono ?_
    rintro e w110 ⟨rfl, rfl⟩
    refine ⟨_, rfl, ?_⟩
    have hyC : openC y.now = [] := by rw [q6]; exact v1
    have hsq : (A.seq (openG y.now) y).1 = y := by
      obtain ⟨_, o2, _, o4, _⟩ := open_seq y
      exact (o4 (o2 hya)).2.1 hyC
    refine (open_un hL107.dk (by rw [hyr]; simp) hya).mono ?_
    rintro e w113 ⟨l', m1, m2, m3, rfl, _, _, hl', ⟨q113, hd113, k113, _⟩, hom⟩
    rw [hsq] at hd113
    rw [q6, v2] at hom
    refine ⟨_, _, _, _, _, rfl, cond_t rfl ?_⟩
    have hou113 := own_S (own_no' hou64 k107) k113 fun b hb => dk_off hL107.dk (ty_lt (own_no' hou64 k107) hb).2.2
    refine (Same_spec (Rd.own0 hom) (Rd.own0 hou113)).mono ?_
    rintro e w118 ⟨k118, r, rfl, hr⟩
    refine ⟨_, rfl, ?_⟩
    rw [hr.2 rfl]
    refine cond_t rfl ?_
    refine (raw_spec (hd113.no_ k118)).mono ?_
    rintro e w121 ⟨rfl, rfl⟩
    refine ⟨_, rfl, by simp, ?_⟩
    exact (((K64.then k107).new k113 fun b hb => Nat.le_trans K23.size (hL107.dk.new hb)).then k118).below
  clear_value K108
  refine cond_f rfl (cond_f rfl ?_)
  refine (Same_spec (Rd.own0 hog64) (Rd.own0 hou64)).mono ?_
  rintro e w66 ⟨k66, r, rfl, hr⟩
  refine ⟨_, rfl, ?_⟩
  rw [hr.2 rfl]
  refine cond_f rfl ?_
  have b66 := b64.no k66
  refine ⟨_, _, _, b66.cell 0, b66.cell 1, b66.cell 2, ?_⟩
  have hL66 := hL64.no_ k66
  refine (files_spec hL66.dk).mono ?_
  rintro e w72 ⟨rfl, k72⟩
  rw [q6]
  have b72 := b66.no k72
  refine ⟨_, _, _, rfl, ⟨_, _, _, b72.cell 0, b72.cell 1, b72.cell 2, rfl⟩, ?_⟩
  refine rw_neqF (x := s.opened) (y := s.opened) ?_
  rw [(fsEq_iff _ _).2 rfl]
  refine cond_f rfl ?_
  have hL72 := hL66.no_ k72
  refine (pending_spec hL72.dk).mono ?_
  rintro e w83 ⟨rfl, rfl⟩
  refine ⟨_, rfl, ?_⟩
  rw [hyr]
  refine cond_f rfl ?_
  have k83 := k66.then k72
  -- the length
  have tail : 0 ≤ (0 : Int) ∧ (0 : Int) < 3 ∧ 
      ∃ (s97 : ByteArray), w83.cell? (⟨p40, 0, none⟩ : Addr) = some (.string s97) ∧ 
      Calls Try.prog 51 #[dp l] w83 (fun e98 w99 => ∃ (n100 : Int), e98 = .returned (.int .i64 n100) ∧ 
      (∃ (s101 : ByteArray), w99.cell? (⟨p40, 0, none⟩ : Addr) = some (.string s101) ∧ 
        (some (.string s97) : Option Value) = some (.string s101))
      ∧ (Calls Try.prog 52 #[.string s97] w99 (fun e102 w103 => ∃ (n104 : Int), e102 = .returned (.int .i64 n104) ∧ 
        0 ≤ n104 ∧ n104 < 3 ∧ 
        ∃ (s105 : ByteArray), w103.cell? ((⟨p40, 0, none⟩ : Addr).add (n104.toNat * 1)) = some (.string s105) ∧ 
        K108 (n100 != ((s105.size : Nat) : Int)) w103))) := by
    refine ⟨by omega, by omega, _, b72.cell 0, ?_⟩
    refine (len_spec hL72).mono ?_
    rintro e w99 ⟨rfl, rfl⟩
    refine ⟨_, rfl, ⟨_, b72.cell 0, rfl⟩, ?_⟩
    refine (file_spec w99 s.opened.a).mono ?_
    rintro e w103 ⟨rfl, rfl⟩
    rw [g1']
    refine ⟨_, rfl, by omega, by omega, str (s.opened.get (nmF s.a)), by rw [Int.toNat_natCast]; exact fsCell b72 (by omega), ?_⟩
    rw [str_size, g2', List.length_take, Nat.min_eq_left hsc]
    rw [show ((((scan (s.get (nmF s.a))).2 : Nat) : Int) != (((scan (s.get (nmF s.a))).2 : Nat) : Int)) = false by simp]
    exact good _ k83
  cases ht : tidyB s with
  | true =>
    refine cond_t rfl ?_
    refine (raw_spec hL72.dk).mono ?_
    rintro e w86 ⟨rfl, rfl⟩
    refine ⟨_, rfl, ?_⟩
    rw [q7 (tidyB_nil ht), hraw]
    exact cond_f rfl tail
  | false => exact cond_f rfl tail
theorem opens_row {w : World} {n1 c1 n2 c2 n3 c3 : Nat} {a1 a2 a3 : Option Addr} {l1 l2 l3 : Bs} (h1 : Rd w 0 1 a1 n1 c1 (bvs l1)) (_ : 0 < n1 → ∀ y, OB a1 y → y < w.heap.size) (y1 : n1 ≤ 140737488355328) (h2 : Rd w 0 1 a2 n2 c2 (bvs l2)) (_ : 0 < n2 → ∀ y, OB a2 y → y < w.heap.size) (y2 : n2 ≤ 140737488355328) (h3 : Rd w 0 1 a3 n3 c3 (bvs l3)) (_ : 0 < n3 → ∀ y, OB a3 y → y < w.heap.size) (y3 : n3 ≤ 140737488355328) :
    Calls Try.prog 14 #[.slice a1 n1 c1, .slice a2 n2 c2, .slice a3 n3 c3] w fun e w' => e = .returned (.bool true) ∧ Below w.heap.size w w' := opens_core h1 y1 h2 y2 h3 y3
end Go.Proofs.Ytmfidfaiopogbaa
