/- What DiskFull answers. -/
import Derived.Test.YtmfidfaiopogbaaShLoad
import Derived.Test.YtmfidfaiopogbaaShP5
import Derived.Test.YtmfidfaiopogbaaShL7
set_option linter.unusedVariables false
set_option linter.unusedSimpArgs false
set_option linter.unusedSectionVars false
set_option maxRecDepth 4000
namespace Go.Proofs.Ytmfidfaiopogbaa
open Go Go.Sh Go.ChangeShapes Go.WideShapes Go.ChangeAt Go.RowKit

/-- A made row of cells that are all alike. -/
theorem made_one (z : Value) (n : Nat) : (madeCells #[z] n).toList = List.replicate n z := by
  apply List.ext_getElem?
  intro i
  by_cases hi : i < n
  · simp [madeCells, hi, Nat.mod_one]
  · simp [madeCells, hi]
def zs (n : Nat) : Bs := List.replicate n 0
theorem zs_len (n : Nat) : (zs n).length = n := by simp [zs]
theorem zeros_bvs (n : Nat) : List.replicate n (.int .u8 0) = bvs (zs n) := by simp [zs, bvs, bv]

section
variable [Av]
theorem Get_set (s : Fs) (f : Nat) (hf : f < 3) (l : Bs) : (s.set f l).get f = l := by
  match f, hf with
  | 0, _ => rfl
  | 1, _ => rfl
  | 2, _ => rfl
/-- What a write to a disk that is alive answers, and the file's length behind it. -/
theorem Write_alive {x : A} (hd : x.armed = false) {f : Nat} (hf : f < 3) {off : Nat} {l : Bs} (ho : off ≤ (x.now.get f).length) (hl : l.length ≤ 8) (hs : off + l.length ≤ 65536) :
    (x.Write f off l).2 = 0 ∧ (x.Write f off l).1.armed = false ∧ ((x.Write f off l).1.now.get f).length = max (off + l.length) (x.now.get f).length ∧ (x.Write f off l).1.rest.length = x.rest.length + 1 := by
  have hdead : x.dead = false := by unfold A.dead; rw [hd]; rfl
  have hF : IsF x f off := ⟨by omega, by omega, by omega, by simpa using ho⟩
  unfold A.Write
  rw [if_pos hF, if_neg (by omega), if_neg (by simp; omega), hdead]
  refine ⟨rfl, ?_, ?_, ?_⟩
  · unfold A.raw1; rw [hdead]; exact hd
  · unfold A.raw1; rw [hdead]
    show ((x.push _).now.get f).length = _
    simp only [Int.toNat_natCast]
    rw [A.push_now, Get_set _ _ hf]
    unfold wrt
    have : (List.take off (x.now.get f) ++ l).length = off + l.length := by simp; omega
    cases h : (!false && decide ((List.take off (x.now.get f) ++ l).length < (x.now.get f).length)) with
    | true =>
      rw [this] at h
      simp only [cond_true, List.length_append, List.length_drop, List.length_take]
      simp at h ⊢; omega
    | false =>
      rw [this] at h
      simp only [cond_false, List.length_append, List.length_take]
      simp at h ⊢; omega
  · unfold A.raw1; rw [hdead]; simp [A.push]
theorem Cut_alive {x : A} (hd : x.armed = false) {f : Nat} (hf : f < 3) {n : Nat} (ho : n = (x.now.get f).length) :
    (x.Cut f n).2 = 0 ∧ (x.Cut f n).1.armed = false ∧ ((x.Cut f n).1.now.get f).length = n := by
  have hdead : x.dead = false := by unfold A.dead; rw [hd]; rfl
  have hF : IsF x f n := ⟨by omega, by omega, by omega, by simp; omega⟩
  unfold A.Cut
  rw [if_pos hF, hdead]
  refine ⟨rfl, ?_, ?_⟩
  · unfold A.raw1; rw [hdead]; exact hd
  · unfold A.raw1; rw [hdead]
    show ((x.push _).now.get f).length = _
    simp only [Int.toNat_natCast]
    rw [A.push_now, Get_set _ _ hf]
    simp [wrt]; omega
theorem Write_full {x : A} {f : Nat} (hf : f < 3) {off : Nat} {l : Bs} (ho : off ≤ (x.now.get f).length) (hl : l.length ≤ 8) (hs : 65536 < off + l.length) : (x.Write f off l) = (x, 181) := by
  have hF : IsF x f off := ⟨by omega, by omega, by omega, by simpa using ho⟩
  unfold A.Write
  rw [if_pos hF, if_neg (by omega), if_pos (by simp; omega)]
theorem Write_long {x : A} {f : Nat} (hf : f < 3) {off : Nat} {l : Bs} (ho : off ≤ (x.now.get f).length) (hl : 8 < l.length) : (x.Write f off l) = (x, 3) := by
  have hF : IsF x f off := ⟨by omega, by omega, by omega, by simpa using ho⟩
  unfold A.Write
  rw [if_pos hF, if_pos hl]
theorem Write_range {x : A} {f off : Int} {l : Bs} (h : ¬ IsF x f off) : (x.Write f off l) = (x, 1) := by
  unfold A.Write; rw [if_neg h]

theorem full_core {w : World} {f : Int} (hf : (Lit.int .i64 f).wf = true) {ba : Option Addr} {bn bc : Nat} {l : Bs} (hb : Rd w 0 1 ba bn bc (bvs l)) (hlow : 0 < bn → ∀ z, OB ba z → z < w.heap.size) (hbn : bn ≤ 140737488355328) (hO : Old w) :
    Calls Try.prog 7 #[.int .i64 f, .slice ba bn bc] w fun e w' => e = .returned (.bool true) ∧ Below w.heap.size w w' := by
  have hlen : bn = l.length := @Ru.len _ _ ⟨ba, bn, bc⟩ _ hb
  refine c7 ?_
  unfold sh7
  intro K8
  have early : ∀ v, Keep no w v → K8 true v := by
    intro v k
    refine cond_t rfl ?_
    refine (awake_spec v (hO.up k)).mono ?_
    rintro e w10 ⟨rfl, k10⟩
    exact ⟨_, rfl, rfl, (k.then k10).below⟩
  have late : ∀ v, Keep no w v → 0 ≤ f → f < 3 → K8 false v := by
    intro v k hf0 hf3
    refine cond_f rfl ?_
    obtain ⟨g, rfl⟩ := Int.eq_ofNat_of_zero_le hf0
    have hg3 : g < 3 := by omega
    rw [IntWalk.i64_in _ ⟨by omega, by omega⟩]
    obtain ⟨i48, z48, hi48, hz48, h2, h3, h4⟩ := E48.el
    have hzz : z48 = .slice none 0 0 := by
      have e1 : Try.prog.info? 36 = some Try.t36 := by kernel_rfl
      rw [e1] at hi48; cases hi48
      have e2 : Try.t36.zero = some (.slice none 0 0) := rfl
      rw [e2] at hz48; cases hz48; rfl
    refine RunWp.of (run_make v 48 36 i48 z48 E48.sl hi48 hz48 .i64 .i64 ((g : Int) + 1) ((g : Int) + 1) (by omega) (by omega) (by rw [h3]; omega) (by omega)) ?_
    have hgn : ((g : Int) + 1).toNat = g + 1 := by omega
    rw [hgn, h2, hzz, show (g + 1) * 1 = g + 1 from Nat.mul_one _]
    have b1 : Bk (v.alloc (.cells (madeCells (Value.slice none 0 0).cells (g + 1)) 36)) v.heap.size (madeCells #[.slice none 0 0] (g + 1)) 36 := Bk.new _ _ _
    have k1 : Keep no v (v.alloc (.cells (madeCells (Value.slice none 0 0).cells (g + 1)) 36)) := Keep.alloc _ _ _
    refine ⟨_, _, _, rfl, ?_⟩
    have hv1 : w.heap.size ≤ v.heap.size := k.size
    generalize v.alloc (.cells (madeCells (Value.slice none 0 0).cells (g + 1)) 36) = v1 at b1 k1 ⊢
    generalize v.heap.size = q1 at b1 hv1 ⊢
    obtain ⟨i36, z36, hi36, hz36, h2', h3', h4'⟩ := E36.el
    have hzz' : z36 = .int .u8 0 := by
      have e1 : Try.prog.info? 5 = some Try.t5 := by kernel_rfl
      rw [e1] at hi36; cases hi36
      have e2 : Try.t5.zero = some (.int .u8 0) := rfl
      rw [e2] at hz36; cases hz36; rfl
    refine RunWp.of (run_make v1 36 5 i36 z36 E36.sl hi36 hz36 .i64 .i64 65533 65533 (by omega) (by omega) (by rw [h3']; omega) (by omega)) ?_
    have hn2 : (65533 : Int).toNat = 65533 := rfl
    rw [hn2, h2', hzz', show 65533 * 1 = 65533 from rfl]
    have b2 : Bk (v1.alloc (.cells (madeCells (Value.int .u8 0).cells 65533) 5)) v1.heap.size (madeCells #[.int .u8 0] 65533) 5 := Bk.new _ _ _
    have k2 : Keep no v1 (v1.alloc (.cells (madeCells (Value.int .u8 0).cells 65533) 5)) := Keep.alloc _ _ _
    have hq2 : w.heap.size ≤ v1.heap.size := (k.then k1).size
    refine ⟨_, _, _, rfl, ?_⟩
    generalize v1.alloc (.cells (madeCells (Value.int .u8 0).cells 65533) 5) = v2 at b2 k2 ⊢
    generalize v1.heap.size = q2 at b2 hq2 ⊢
    have b1' := b1.no k2
    refine ⟨_, rfl, by omega, by omega, ?_⟩
    rw [addP, Int.toNat_natCast, Nat.mul_one, Nat.zero_add]
    refine ⟨b1'.wr (by simp [size_madeCells]), ?_⟩
    intro w19
    have b19 : Bk w19 q1 ((madeCells #[.slice none 0 0] (g + 1)).setIfInBounds g (.slice (some ⟨q2, 0, none⟩) 65533 65533)) 36 := b1'.set g _
    have k19 : Keep (is q1) v2 w19 := Keep.set (S := is q1) v2 (a := ⟨q1, g, none⟩) _ rfl
    have b2' : Bk w19 q2 _ 5 := b2.keep k19 fun h => (b2.ty.ne b1'.ty (by decide)) h
    clear_value w19
    have K19 : Keep no w w19 := ((k.then k1).then k2).new k19 (by rintro z rfl; exact hv1)
    -- the files
    have hFL : FL w19 ⟨some ⟨q1, 0, none⟩, g + 1, g + 1⟩ (List.replicate g [] ++ [zs 65533]) := by
      refine ⟨by simp, by simp only [maxLen]; omega, fun i hi => ⟨⟨q1, 0, none⟩, rfl, ?_⟩⟩
      have hi' : i < g + 1 := hi
      rw [addP, Nat.mul_one, Nat.zero_add, b19.cell]
      by_cases hig : i = g
      · subst hig
        refine ⟨⟨some ⟨q2, 0, none⟩, 65533, 65533⟩, by simp [size_madeCells], ?_, by simp⟩
        have := Rd.blk0 (sz := 1) (n := 65533) b2' (by simp [size_madeCells]) (by simp [maxLen])
        rw [made_one, zeros_bvs] at this
        have e : (List.replicate i [] ++ [zs 65533] : List Bs).getD i [] = zs 65533 := by simp [List.getD_eq_getElem?_getD]
        rw [e]
        exact this
      · refine ⟨⟨none, 0, 0⟩, ?_, ?_, by simp⟩
        · rw [Array.getElem?_setIfInBounds_ne (fun h => hig h.symm), ← Array.getElem?_toList, made_one]
          simp [hi']
        · have e : (List.replicate g [] ++ [zs 65533] : List Bs).getD i [] = [] := by
            rw [List.getD_eq_getElem?_getD, List.getElem?_append_left (by simp; omega)]
            simp [show i < g by omega]
          rw [e]
          exact Rd.nil _ _ _
    generalize hLs : (List.replicate g [] ++ [zs 65533] : List Bs) = Ls at hFL
    have hll : Ls.length = g + 1 := by rw [← hLs]; simp
    have hgl : (Ls.getD g []).length = 65533 := by rw [← hLs]; simp [List.getD_eq_getElem?_getD, zs_len]
    have hbig : ¬ Big Ls := by
      rintro ⟨i, hi, hb⟩
      by_cases hig : i = g
      · rw [hig, hgl] at hb; omega
      · rw [← hLs, List.getD_eq_getElem?_getD, List.getElem?_append_left (by simp; omega)] at hb
        simp [show i < g by omega] at hb
    refine (Load_spec hFL (hO.up K19)).mono ?_
    rintro e w21 ⟨k21, hcs⟩
    obtain ⟨p, rfl, hd⟩ : ∃ p, e = .returned (.tuple #[dp p, .int .i64 0]) ∧ DkR w21 w19.heap.size p ⟨none, 0, 0⟩ (loadA Ls) := by
      rcases hcs with ⟨h1, _⟩ | ⟨_, h1, _⟩ | ⟨_, _, h⟩
      · omega
      · exact absurd h1 hbig
      · exact h
    refine ⟨_, _, rfl, ?_⟩
    have K21 := K19.then k21
    intro K26
    have hnow : ((loadA Ls).now.get g).length = 65533 := by
      show ((pf Ls Ls.length).get g).length = _
      rw [hll]
      have : (pf Ls (g + 1)).get g = Ls.getD g [] := by rw [pf_succ _ hg3, Get_set _ _ hg3]
      rw [this, hgl]
    -- the last part
    have main : K26 false w21 := by
      refine cond_f rfl ?_
      intro K29
      have tail : ∀ want : Int, want = ((loadA Ls).Write g 65533 l).2 → K29 want w21 := by
        intro want hwant
        unfold K29
        intro K48 p30 w31
        have o31 : w31.ownsRow w21.heap.size 5 1 (.slice (some ⟨p30, 0, none⟩) 0 0) 0 [] := lit_own w21 5 1 (Nat.le_refl _)
        have k31 : Keep no w21 w31 := Keep.alloc _ _ _
        clear_value p30 w31
        have hb31 : Rd w31 0 1 ba bn bc (bvs l) := Rd.no hb (K21.then k31)
        refine rw_append E36 o31 hb31 (bvs_one l) (by omega) (by simp only [maxLen]; omega) k31.size fun a34 c34 w33 o33 k33 _ => ?_
        rw [Nat.zero_add, List.nil_append] at o33
        rw [Nat.zero_add]
        have k2133 : Keep no w21 w33 := k31.new k33 fun z hz => (own_block o31 hz).1
        have hd33 := hd.no_ k2133
        have K33 := K21.then k2133
        refine (Write_spec hd33 g 65533 (b := ⟨a34, bn, c34⟩) (l := l) (Rd.own0 o33) (by simp [loadA])).mono ?_
        rintro e w36 ⟨rfl, q1', hd36, k36, _⟩
        have K36 := Played.no hd33 k36 K33 (Nat.le_trans K19.size (Nat.le_refl _))
        refine ⟨_, rfl, ?_⟩
        rw [hwant, show ((((loadA Ls).Write g 65533 l).2 != ((loadA Ls).Write g 65533 l).2)) = false by simp]
        refine cond_f rfl ?_
        obtain ⟨y1, y2, y3, y4⟩ : ((loadA Ls).Write g 65533 l).1.armed = false ∧ 65533 ≤ (((loadA Ls).Write g 65533 l).1.now.get g).length ∧ (((loadA Ls).Write g 65533 l).1.now.get g).length ≤ 65536 ∧ ((loadA Ls).Write g 65533 l).1.rest.length ≤ 1 := by
          by_cases h8 : 8 < l.length
          · have : (loadA Ls).Write g 65533 l = (loadA Ls, 3) := Write_long (off := 65533) hg3 (by omega) h8
            rw [this]; exact ⟨rfl, by simp only; omega, by simp only; omega, by simp [loadA]⟩
          · by_cases h3 : 3 < l.length
            · have : (loadA Ls).Write g 65533 l = (loadA Ls, 181) := Write_full (off := 65533) hg3 (by omega) (by omega) (by omega)
              rw [this]; exact ⟨rfl, by simp only; omega, by simp only; omega, by simp [loadA]⟩
            · obtain ⟨_, z2, z3, z4⟩ : ((loadA Ls).Write g 65533 l).2 = 0 ∧ ((loadA Ls).Write g 65533 l).1.armed = false ∧ (((loadA Ls).Write g 65533 l).1.now.get g).length = max (65533 + l.length) ((loadA Ls).now.get g).length ∧ ((loadA Ls).Write g 65533 l).1.rest.length = (loadA Ls).rest.length + 1 :=
                Write_alive (off := 65533) rfl hg3 (by omega) (by omega) (by omega)
              have : (loadA Ls).rest.length = 0 := rfl
              exact ⟨z2, by omega, by omega, by omega⟩
        generalize ((loadA Ls).Write g 65533 l).1 = x1 at *
        refine rw_lit (w := w36) (l := [120, 121, 122]) rfl rfl (by simp [maxLen]) (hO.up K36) fun w41 hl41 k41 _ => ?_
        have hd41 := hd36.no_ k41
        have K41 := K36.then k41
        refine (Write_spec hd41 g 65533 hl41.u (by omega)).mono ?_
        rintro e w44 ⟨rfl, q2', hd44, k44, _⟩
        obtain ⟨u1, u2, u3, u4⟩ : (x1.Write g 65533 [120, 121, 122]).2 = 0 ∧ (x1.Write g 65533 [120, 121, 122]).1.armed = false ∧ ((x1.Write g 65533 [120, 121, 122]).1.now.get g).length = max (65533 + 3) (x1.now.get g).length ∧ (x1.Write g 65533 [120, 121, 122]).1.rest.length = x1.rest.length + 1 :=
          Write_alive (off := 65533) (l := [120, 121, 122]) y1 hg3 (by omega) (by simp) (by simp)
        rw [u1]
        generalize (x1.Write g 65533 [120, 121, 122]).1 = x2 at *
        have u3' : (x2.now.get g).length = 65536 := by omega
        have K44 := Played.no hd41 k44 K41 K19.size
        refine ⟨_, rfl, ?_⟩
        refine cond_f rfl ?_
        refine (size_spec hd44 g).mono ?_
        rintro e w50 ⟨rfl, k50⟩
        rw [x2.read_in hg3, u3']
        refine ⟨_, rfl, cond_t rfl ?_⟩
        have K50 := K44.then k50
        have hd50 := hd44.no_ k50
        refine rw_lit (w := w50) (l := [120]) rfl rfl (by simp [maxLen]) (hO.up K50) fun w55 hl55 k55 _ => ?_
        have hd55 := hd50.no_ k55
        refine (Write_spec hd55 g 65536 hl55.u (by omega)).mono ?_
        rintro e w58 ⟨rfl, q3', hd58, k58, _⟩
        have hw2 : x2.Write g 65536 [120] = (x2, 181) := Write_full (off := 65536) hg3 (by omega) (by simp) (by simp)
        rw [hw2] at hd58 ⊢
        have K58 := Played.no hd55 k58 (K50.then k55) K19.size
        refine ⟨_, rfl, cond_t rfl ?_⟩
        refine (Write_spec hd58 g 65536 (b := ⟨none, 0, 0⟩) (l := []) (Rd.nil _ _ _) (by simp only; omega)).mono ?_
        rintro e w61 ⟨rfl, q4', hd61, k61, _⟩
        simp only at hd58 hd61 k61
        have K61 := Played.no hd58 k61 K58 K19.size
        obtain ⟨v1', v2', v3', v4'⟩ : (x2.Write g 65536 []).2 = 0 ∧ (x2.Write g 65536 []).1.armed = false ∧ ((x2.Write g 65536 []).1.now.get g).length = max (65536 + 0) (x2.now.get g).length ∧ (x2.Write g 65536 []).1.rest.length = x2.rest.length + 1 :=
          Write_alive (off := 65536) (l := []) u2 hg3 (by omega) (by simp) (by simp)
        rw [v1']
        generalize (x2.Write g 65536 []).1 = x3 at *
        refine ⟨_, rfl, cond_t rfl ?_⟩
        refine rw_lit (w := w61) (l := [113]) rfl rfl (by simp [maxLen]) (hO.up K61) fun w66 hl66 k66 _ => ?_
        have hd66 := hd61.no_ k66
        refine (Write_spec hd66 g 65535 hl66.u (by omega)).mono ?_
        rintro e w69 ⟨rfl, q5', hd69, k69, _⟩
        have K69 := Played.no hd66 k69 (K61.then k66) K19.size
        obtain ⟨s1, s2, s3, s4⟩ : (x3.Write g 65535 [113]).2 = 0 ∧ (x3.Write g 65535 [113]).1.armed = false ∧ ((x3.Write g 65535 [113]).1.now.get g).length = max (65535 + 1) (x3.now.get g).length ∧ (x3.Write g 65535 [113]).1.rest.length = x3.rest.length + 1 :=
          Write_alive (off := 65535) (l := [113]) v2' hg3 (by omega) (by simp) (by simp)
        rw [s1]
        generalize (x3.Write g 65535 [113]).1 = x4 at *
        refine ⟨_, rfl, cond_t rfl ?_⟩
        refine (Cut_spec hd69 g 65536 (by omega)).mono ?_
        rintro e w72 ⟨rfl, q6', hd72, k72, _⟩
        have K72 := Played.no hd69 k72 K69 K19.size
        obtain ⟨r1, r2, r3⟩ : (x4.Cut g 65536).2 = 0 ∧ (x4.Cut g 65536).1.armed = false ∧ ((x4.Cut g 65536).1.now.get g).length = 65536 := Cut_alive (n := 65536) s2 hg3 (by omega)
        have r4 := x4.Cut_len g 65536
        rw [r1]
        generalize (x4.Cut g 65536).1 = x5 at *
        refine ⟨_, rfl, cond_t rfl ?_⟩
        refine (size_spec hd72 g).mono ?_
        rintro e w75 ⟨rfl, k75⟩
        rw [x5.read_in hg3, r3]
        refine ⟨_, rfl, cond_t rfl ?_⟩
        have hd75 := hd72.no_ k75
        refine (Write_spec hd75 g 65537 (b := ⟨none, 0, 0⟩) (l := []) (Rd.nil _ _ _) (by omega)).mono ?_
        rintro e w78 ⟨rfl, q7', hd78, k78, _⟩
        have K78 := Played.no hd75 k78 (K72.then k75) K19.size
        have hw5 : x5.Write g 65537 [] = (x5, 1) := Write_range (fun h => by have := h.2.2.2; simp only [Int.toNat_natCast] at this; omega)
        rw [hw5]
        exact ⟨_, rfl, rfl, K78.below⟩
      clear_value K29
      refine cond_d (fun h8 => ?_) (fun h8 => ?_)
      · refine tail 3 ?_
        have : (loadA Ls).Write g 65533 l = (loadA Ls, 3) := Write_long (off := 65533) hg3 (by omega) (by omega)
        rw [this]
      · refine cond_d (fun h3 => ?_) (fun h3 => ?_)
        · refine tail 181 ?_
          have : (loadA Ls).Write g 65533 l = (loadA Ls, 181) := Write_full (off := 65533) hg3 (by omega) (by omega) (by omega)
          rw [this]
        · refine tail 0 ?_
          exact (Write_alive (x := loadA Ls) (off := 65533) rfl hg3 (by omega) (by omega) (by omega)).1.symm
    clear_value K26
    exact cond_f rfl main
  clear_value K8
  refine (awake_spec w hO).mono ?_
  rintro e w4 ⟨rfl, k4⟩
  refine ⟨_, rfl, cond_f rfl ?_⟩
  refine cond_d (fun h1 => early w4 k4) (fun h1 => ?_)
  by_cases h2 : f > 2
  · rw [decide_eq_true h2]; exact early w4 k4
  · rw [decide_eq_false h2]; exact late w4 k4 (by omega) (by omega)
end
end Go.Proofs.Ytmfidfaiopogbaa
