/- What LogFull answers. -/
import Derived.Test.YtmfidfaiopogbaaShP18
import Derived.Test.YtmfidfaiopogbaaShL19
set_option linter.unusedVariables false
set_option linter.unusedSimpArgs false
set_option linter.unusedSectionVars false
set_option maxRecDepth 4000
namespace Go.Proofs.Ytmfidfaiopogbaa
open Go Go.Sh
open Go.RowKit (Below)
theorem rep_recs (y : Op) : ∀ i : Nat, (recs (List.replicate i y)).length = i * (er y).length
  | 0 => by simp [recs]
  | i + 1 => by
    rw [List.replicate_succ]
    simp only [recs, List.length_append, rep_recs y i, Nat.succ_mul]; omega
theorem rep_pl {y : Op} (hf : y.fit) (hp : plain y = some y) (i : Nat) : Pl (List.replicate i y) := fun z hz => by
  rw [(List.mem_replicate.1 hz).2]; exact ⟨hf, hp⟩
/-- An Append to a log that isn't dead. -/
theorem app_cases {x : A} {n : Nat} (hI : LPi x n false) {o y : Op} (ho : o.fit) (hp : plain o = some y) :
    (n + (er y).length ≤ 32768 ∧ (appM x (nmF x.now.a) n false o).2.2.2 = 0 ∧ (appM x (nmF x.now.a) n false o).2.1 = n + (er y).length ∧ (appM x (nmF x.now.a) n false o).2.2.1 = false) ∨ (32768 < n + (er y).length ∧ appM x (nmF x.now.a) n false o = (x, n, false, 181)) := by
  have he := enc_of hp
  by_cases hbig : 32768 < n + (er y).length
  · exact .inr ⟨hbig, by simp only [appM, he]; rw [if_pos hbig]⟩
  · refine .inl ⟨by omega, ?_⟩
    obtain ⟨_, _, hI2, _, _, hroom⟩ := hI.app ho
    have hc : (appM x (nmF x.now.a) n false o).2.2.2 = 0 := by
      rw [(hI.app ho).1]
      have : roomM n o = true := by simp only [roomM, he]; exact decide_eq_true (by omega)
      rw [hroom] at this
      simpa using this
    refine ⟨hc, ?_, hI2.dd_⟩
    have e0 : appM x (nmF x.now.a) n false o = if (lgRun false x (x.pieces (nmF x.now.a) n (er y))).2.2 = 0 then ((lgRun false x (x.pieces (nmF x.now.a) n (er y))).1, n + (er y).length, (lgRun false x (x.pieces (nmF x.now.a) n (er y))).2.1, 0)
        else ((lgRun false x (x.pieces (nmF x.now.a) n (er y))).1, n, (lgRun false x (x.pieces (nmF x.now.a) n (er y))).2.1, (lgRun false x (x.pieces (nmF x.now.a) n (er y))).2.2) := by
      simp only [appM, he]; rw [if_neg hbig]
    by_cases h0 : (lgRun false x (x.pieces (nmF x.now.a) n (er y))).2.2 = 0
    · rw [e0, if_pos h0]
    · rw [e0, if_neg h0] at hc
      exact absurd hc h0
theorem room_is {n : Nat} {o y : Op} (hp : plain o = some y) : roomM n o = decide (n + (er y).length ≤ 32768) := by simp only [roomM, enc_of hp]
local instance avP19 : Av := noAv
set_option maxHeartbeats 2000000 in
theorem full_coreL {w : World} {o m : Op} (ho : o.fit) (hm : m.fit) : Calls Try.prog 19 #[opV o, opV m] w fun e w' => e = .returned (.bool true) ∧ Below w.heap.size w w' := by
  have hO : ∀ v : World, Old v := fun v => noOld v
  refine c19 ?_
  unfold sh19
  intro p11 w12 p13 w14
  have b11 : Bk w14 p11 (opC o) 57 := (Bk.new w _ _).alloc _
  have b13 : Bk w14 p13 (opC m) 57 := Bk.new w12 _ _
  have k14 : Keep no w w14 := (Keep.alloc _ _ _).then (Keep.alloc _ _ _)
  clear_value p11 w12 p13 w14
  refine ⟨_, _, _, _, _, b11.cell 0, b11.cell 1, b11.cell 2, b11.cell 3, b11.cell 4, ?_⟩
  refine (plainE w14 o).mono ?_
  rintro e w21 ⟨k21, y1, cd1, rfl, hcd1⟩
  refine ⟨_, _, _, _, _, _, rfl, ?_⟩
  obtain ⟨e1, e2, e3⟩ := opNew w21 y1
  intro p28 w29
  refine ⟨e1, ?_⟩
  intro w30
  have b28 : Bk w30 p28 (opC y1) 57 := e2
  have k30 : Keep no w21 w30 := e3
  clear e1 e2 e3
  clear_value p28 w29 w30
  have c13 := b13.no (k21.then k30)
  refine ⟨_, _, _, _, _, c13.cell 0, c13.cell 1, c13.cell 2, c13.cell 3, c13.cell 4, ?_⟩
  refine (plainE w30 m).mono ?_
  rintro e w37 ⟨k37, y2, cd2, rfl, hcd2⟩
  refine ⟨_, _, _, _, _, _, rfl, ?_⟩
  obtain ⟨e1, e2, e3⟩ := opNew w37 y2
  intro p44 w45
  refine ⟨e1, ?_⟩
  intro w46
  have b44 : Bk w46 p44 (opC y2) 57 := e2
  have k46 : Keep no w37 w46 := e3
  clear e1 e2 e3
  clear_value p44 w45 w46
  have kk46 : Keep no w14 w46 := ((k21.then k30).then k37).then k46
  have K46 : Keep no w w46 := k14.then kk46
  have d11 := b11.no kk46
  have d13 := b13.no kk46
  have d28 := b28.no (k37.then k46)
  intro K52
  have bad : ∀ v, Keep no w v → K52 true v := by
    intro v kv
    refine cond_t rfl ?_
    refine (awakeL_spec v (hO _)).mono ?_
    rintro e w54 ⟨rfl, k54⟩
    exact ⟨_, rfl, rfl, (kv.then k54).below⟩
  have good : plain o = some y1 → plain m = some y2 → ∀ v, Keep no w46 v → K52 false v := by
    intro hp1 hp2 w51 k51
    refine cond_f rfl ?_
    have h1 := (enc_plain o).1 y1 hp1
    have h2 := (enc_plain m).1 y2 hp2
    have hy1 := plain_fit ho hp1
    have hy2 := plain_fit hm hp2
    have her1 := er_len h1.2.2.2
    have her2 := er_len h2.2.2.2
    have f28 := d28.no k51
    refine ⟨_, _, _, _, _, f28.cell 0, f28.cell 1, f28.cell 2, f28.cell 3, f28.cell 4, ?_⟩
    refine (EncodeR_spec w51 hy1 h1.2.2.2).mono ?_
    rintro e w62 ⟨⟨s1, s2, s3⟩, rfl, k62, hos0⟩
    have hos : w62.ownsRow w51.heap.size 5 1 (.slice s1 s2 s3) s2 (bvs (er y1)) := hos0
    have hs2 : s2 = (er y1).length := by have := hos.1; simp at this; exact this.symm
    refine ⟨s1, s2, s3, rfl, by omega, ?_⟩
    have hdv : Int.tdiv (32768 : Int) ((s2 : Nat) : Int) = ((32768 / s2 : Nat) : Int) := rfl
    have hN1 : 32768 / s2 * s2 ≤ 32768 := Nat.div_mul_le_self _ _
    have hN2 : 32768 / s2 ≤ 8192 := by
      have := Nat.div_le_div_left (a := 32768) (show 4 ≤ s2 by omega) (by omega)
      omega
    have hN3 : 1 ≤ 32768 / s2 := (Nat.le_div_iff_mul_le (by omega)).2 (by omega)
    generalize 32768 / s2 = N at hdv hN1 hN2 hN3
    have hNs : (N - 1) * s2 + s2 = N * s2 := by
      rw [← Nat.succ_mul]; congr 1; omega
    have eN : IntKind.i64.wrap (Int.tdiv (32768 : Int) ((s2 : Nat) : Int)) = (N : Nat) := by rw [hdv, IntWalk.i64_in _ ⟨by omega, by omega⟩]
    have eN1 : IntKind.i64.wrap (((N : Nat) : Int) - 1) = ((N - 1 : Nat) : Int) := by rw [IntWalk.i64_in _ ⟨by omega, by omega⟩]; omega
    have eNs : IntKind.i64.wrap (((N : Nat) : Int) * ((s2 : Nat) : Int)) = ((N * s2 : Nat) : Int) := by rw [← Int.natCast_mul, IntWalk.i64_in _ ⟨by omega, by omega⟩]
    rw [eN, eN1, eNs]
    have K62 := (K46.then k51).then k62
    refine ⟨fun vs v => ∃ (i : Nat) (g1 : Option Addr) (g2 g3 : Nat), vs = [.slice g1 g2 g3, .int .i64 i] ∧ i ≤ N - 1 ∧ v.ownsRow w62.heap.size 5 1 (.slice g1 g2 g3) g2 (bvs (recs (List.replicate i y1))) ∧ Keep no w62 v,
      fun vs v => match vs with | [_, .int _ i] => N - 1 - i.toNat | _ => 0, ⟨0, none, 0, 0, rfl, by omega, World.ownsRow_nil _ _ _ _, Keep.refl _ _⟩, ?_⟩
    rintro w66 g1 g2 g3 i65 ⟨i, x1, x2, x3, hv, hi, hog, k66⟩
    cases hv
    have hg2 : g2 = i * s2 := by have := hog.1; simp [rep_recs] at this; rw [hs2]; exact this.symm
    have hil : i * s2 ≤ (N - 1) * s2 := Nat.mul_le_mul_right _ hi
    refine cond_d (fun hlt => ?_) (fun hge => ?_)
    · refine app5 hog (Rd.own0 (own_no' hos k66)) (by omega) k66.size (Nat.le_refl _) k66 fun a71 c71 w70 o70 k70 _ => ?_
      have ei : IntKind.i64.wrap ((i : Int) + 1) = ((i + 1 : Nat) : Int) := by rw [IntWalk.i64_in _ ⟨by omega, by omega⟩]; rfl
      rw [ei]
      refine ⟨⟨i + 1, a71, _, c71, rfl, by omega, ?_, k70⟩, by show N - 1 - ((i + 1 : Nat) : Int).toNat < N - 1 - (i : Int).toNat; omega⟩
      rw [List.replicate_succ', recs_append]
      simpa [recs] using o70
    have hiN : i = N - 1 := by omega
    subst hiN
    have K66 := K62.then k66
    intro p72 w73
    have b72 : Bk w73 p72 #[.slice none 0 0, .slice g1 g2 g3] 36 := Bk.new w66 _ _
    have k73 : Keep no w66 w73 := Keep.alloc _ _ _
    clear_value p72 w73
    have K73 := K66.then k73
    have hFL : FL w73 ⟨some ⟨p72, 0, none⟩, 2, 2⟩ [[], recs (List.replicate (N - 1) y1)] := by
      refine ⟨rfl, by simp [maxLen], fun i hi => ⟨⟨p72, 0, none⟩, rfl, ?_⟩⟩
      rw [addP, Nat.zero_add, Nat.mul_one, b72.cell]
      match i, hi with
      | 0, _ => exact ⟨⟨none, 0, 0⟩, rfl, Rd.nil _ _ _, by simp⟩
      | 1, _ => exact ⟨⟨g1, g2, g3⟩, rfl, Rd.own0 (own_no' hog k73), by simp only; omega⟩
    refine (Load_spec hFL (hO _)).mono ?_
    rintro e w75 ⟨k75, hcase⟩
    have hrl := rep_recs y1 (N - 1)
    rw [← hs2] at hrl
    rcases hcase with ⟨hx, _⟩ | ⟨_, ⟨j, hj, hj2⟩, _⟩ | ⟨_, _, p, rfl, hd⟩
    · simp at hx
    · exfalso
      match j, hj with
      | 0, _ => simp at hj2
      | 1, _ =>
        have : ([[], recs (List.replicate (N - 1) y1)] : List Bs).getD 1 [] = recs (List.replicate (N - 1) y1) := rfl
        rw [this, hrl] at hj2
        omega
    refine ⟨_, _, rfl, ?_⟩
    have K75 := K73.then k75
    generalize hx : loadA [[], recs (List.replicate (N - 1) y1)] = x at hd
    have hun : x.armed = false := by rw [← hx]; rfl
    have hrest : x.rest = [] := by rw [← hx]; rfl
    have hnow : x.now = ⟨[], recs (List.replicate (N - 1) y1), []⟩ := by rw [← hx]; rfl
    have hpl := rep_pl hy1 h1.2.2.2 (N - 1)
    have hscan : scan (recs (List.replicate (N - 1) y1)) = (List.replicate (N - 1) y1, (recs (List.replicate (N - 1) y1)).length) := by
      have := scan_recs hpl []
      rw [List.append_nil, scan_nil, List.append_nil, Nat.add_zero] at this
      exact this
    have hw1 : nmF x.now.a = 1 := by rw [hnow]; rfl
    have hget : x.now.get (nmF x.now.a) = recs (List.replicate (N - 1) y1) := by rw [hw1, hnow]; rfl
    have htid : openC x.now = [] := openC_nil (by rw [hget, hscan]) (by rw [hw1, hnow]; rfl) (by rw [hnow]; rfl)
    have hI0 : LPi x ((N - 1) * s2) false := ⟨hun, rfl, htid, by rw [hget, hrl], by omega⟩
    have hsq : (A.seq (openG x.now) x).1 = x := by
      obtain ⟨_, o2, _, o4, _⟩ := open_seq x
      exact (o4 (o2 hun)).2.1 htid
    intro K80
    refine cond_f rfl (cond_f rfl ?_)
    refine (open_un hd (by rw [hrest]; simp) hun).mono ?_
    rintro e w82 ⟨l, u1, u2, u3, rfl, ⟨q82, hL82, k82, _⟩, _, hl, _, hou⟩
    rw [hsq, hget, hscan] at hL82
    rw [hget, hscan] at hou
    have hL82' : LgR w82 w73.heap.size l p q82 x (nmF x.now.a) ((N - 1) * s2) false := by rw [← hrl]; exact hL82
    have hu2 := opl_nx hou
    rw [List.length_replicate] at hu2
    refine ⟨_, _, _, _, _, rfl, ?_⟩
    have hlo : ∀ {v : World} {q : Sv} {x : A} {f n : Nat} {d : Bool}, LgR v w73.heap.size l p q x f n d → ∀ b, lg l p q b → w.heap.size ≤ b := fun hL b hb => Nat.le_trans K73.size (hL.new hb)
    have hoff : ∀ {b e : Nat}, TyB w75 b e → e ≠ 112 → e ≠ 114 → ¬ lg l p ⟨none, 0, 0⟩ b := by
      intro b e ht x1 x2 hb
      rcases hb with rfl | hb
      · exact absurd ht.lt (by omega)
      · exact (dk_off hd ht x1 x2) hb
    have kA : Keep no w46 w75 := (((k51.then k62).then k66).then k73).then k75
    have g11 := (d11.no kA).keep k82 (hoff (d11.no kA).ty (by decide) (by decide))
    have g13 := (d13.no kA).keep k82 (hoff (d13.no kA).ty (by decide) (by decide))
    have g44 := (b44.no kA).keep k82 (hoff (b44.no kA).ty (by decide) (by decide))
    have K82 : Keep no w w82 := K75.new k82 fun b hb => by
      rcases hb with rfl | hb
      · exact Nat.le_trans K75.size hl
      · exact Nat.le_trans K73.size (hd.new hb)
    intro K99
    -- behind the first Append
    have g99 : ∀ (v : World) (q : Sv) (x : A), LgR v w73.heap.size l p q x (nmF x.now.a) (N * s2) false → LPi x (N * s2) false → 4 * x.rest.length ≤ 22 * (N * s2) → Bk v p11 (opC o) 57 → Bk v p13 (opC m) 57 → Bk v p44 (opC y2) 57 → Keep no w v → K99 false v := by
      intro v q x hL hI hxr hB11 hB13 hB44 kv
      unfold K99
      refine cond_f rfl ?_
      refine ⟨fun vs u => ∃ (n : Nat) (q : Sv) (x : A), vs = [.int .i64 n, .bool false] ∧ n ≤ 32768 ∧ LgR u w73.heap.size l p q x (nmF x.now.a) n false ∧ LPi x n false ∧ 4 * x.rest.length ≤ 22 * n ∧ Bk u p11 (opC o) 57 ∧ Bk u p13 (opC m) 57 ∧ Bk u p44 (opC y2) 57 ∧ Keep no w u,
        fun vs u => match vs with | [.int _ n, _] => 32768 - n.toNat | _ => 0, ⟨N * s2, q, x, rfl, hN1, hL, hI, hxr, hB11, hB13, hB44, kv⟩, ?_⟩
      rintro w102 size100 b101 ⟨n, q, x, hv, hn, hL, hI, hxr, c11, c13, c44, k102⟩
      cases hv
      refine ⟨_, _, _, _, _, c13.cell 0, c13.cell 1, c13.cell 2, c13.cell 3, c13.cell 4, ?_⟩
      refine (room_spec hL (by omega) hm).mono ?_
      rintro e w111 ⟨rfl, k111⟩
      refine ⟨_, rfl, ?_⟩
      rw [room_is hp2]
      have hL111 := hL.no_ k111
      have e11 := c11.no k111
      have e13 := c13.no k111
      have e44 := c44.no k111
      have K111 := k102.then k111
      have hac := app_cases hI hm hp2
      obtain ⟨ap1, ap2, ap3, ap4, ap5, _⟩ := hI.app hm
      refine cond_d (fun hroom => ?_) (fun hroom => ?_)
      · rcases hac with ⟨_, z1, z2, z3⟩ | ⟨hb, _⟩
        rotate_left
        · omega
        refine ⟨_, _, _, _, _, e13.cell 0, e13.cell 1, e13.cell 2, e13.cell 3, e13.cell 4, ?_⟩
        refine (append_spec hL111 (hO _) (by omega) (by omega) hm).mono ?_
        rintro e w119 ⟨rfl, q119, hL119, k119, _⟩
        rw [z1]
        rw [z2, z3] at hL119 ap3
        generalize hR : (appM x (nmF x.now.a) n false m).1 = R at hL119 ap2 ap3 ap4 ap5
        refine ⟨_, rfl, cond_f rfl ?_⟩
        have f11 := e11.keep k119 (hL111.off e11.ty)
        have f13 := e13.keep k119 (hL111.off e13.ty)
        have f44 := e44.keep k119 (hL111.off e44.ty)
        have K119 : Keep no w w119 := K111.new k119 (hlo hL111)
        refine ⟨_, _, _, _, _, f44.cell 0, f44.cell 1, f44.cell 2, f44.cell 3, f44.cell 4, ?_⟩
        refine (EncodeR_spec w119 hy2 h2.2.2.2).mono ?_
        rintro e w127 ⟨t, rfl, k127, hot⟩
        have hot' : w127.ownsRow w119.heap.size 5 1 t.v t.n (bvs (er y2)) := hot
        have htn : t.n = (er y2).length := by have := hot'.1; simp at this; exact this.symm
        refine ⟨_, _, _, rfl, ?_⟩
        have es : IntKind.i64.wrap (((n : Nat) : Int) + ((t.n : Nat) : Int)) = ((n + (er y2).length : Nat) : Int) := by rw [htn, IntWalk.i64_in _ ⟨by omega, by omega⟩]; omega
        rw [es]
        refine cond_d (fun hb => by omega) (fun _ => ?_)
        rw [← ap5] at hL119
        refine ⟨⟨n + (er y2).length, q119, R, rfl, by omega, hL119.no_ k127, ap3, by omega, f11.no k127, f13.no k127, f44.no k127, K119.then k127⟩, ?_⟩
        show 32768 - ((n + (er y2).length : Nat) : Int).toNat < 32768 - ((n : Nat) : Int).toNat
        omega
      · rcases hac with ⟨hb, _⟩ | ⟨_, eA⟩
        · omega
        refine (raw_spec hL111.dk).mono ?_
        rintro e w130 ⟨rfl, rfl⟩
        refine ⟨_, rfl, ?_⟩
        intro K156
        refine ⟨_, _, _, _, _, e13.cell 0, e13.cell 1, e13.cell 2, e13.cell 3, e13.cell 4, ?_⟩
        refine (append_spec hL111 (hO _) (by omega) (by omega) hm).mono ?_
        rintro e w138 ⟨rfl, q138, hL138, k138, _⟩
        rw [eA] at hL138 ⊢
        replace hL138 : LgR w138 w73.heap.size l p q138 x (nmF x.now.a) n false := hL138
        refine ⟨_, rfl, cond_f rfl ?_⟩
        have f11 := e11.keep k138 (hL111.off e11.ty)
        have f13 := e13.keep k138 (hL111.off e13.ty)
        have f44 := e44.keep k138 (hL111.off e44.ty)
        have K138 : Keep no w w138 := K111.new k138 (hlo hL111)
        refine (raw_spec hL138.dk).mono ?_
        rintro e w141 ⟨rfl, rfl⟩
        refine ⟨_, rfl, ?_⟩
        rw [show (x.raws != x.raws) = false by simp]
        refine cond_f rfl ?_
        refine (len_spec hL138).mono ?_
        rintro e w144 ⟨rfl, rfl⟩
        refine ⟨_, rfl, ?_⟩
        rw [show (((n : Nat) : Int) != ((n : Nat) : Int)) = false by simp]
        refine cond_f rfl ⟨_, _, _, _, _, f44.cell 0, f44.cell 1, f44.cell 2, f44.cell 3, f44.cell 4, ?_⟩
        refine (EncodeR_spec w144 hy2 h2.2.2.2).mono ?_
        rintro e w152 ⟨t, rfl, k152, hot⟩
        have hot' : w152.ownsRow w144.heap.size 5 1 t.v t.n (bvs (er y2)) := hot
        have htn : t.n = (er y2).length := by have := hot'.1; simp at this; exact this.symm
        refine ⟨_, _, _, rfl, ?_⟩
        have es : IntKind.i64.wrap (((n : Nat) : Int) + ((t.n : Nat) : Int)) = ((n + (er y2).length : Nat) : Int) := by rw [htn, IntWalk.i64_in _ ⟨by omega, by omega⟩]; omega
        rw [es, decide_eq_false (show ¬ (((n + (er y2).length : Nat) : Int) ≤ (32768 : Int)) by omega)]
        refine cond_f rfl ?_
        -- what has no record; a Rewrite; an Append behind it
        intro w157
        have k157 : Keep no w144 w157 := k152.then (Keep.drew _ _)
        clear_value w157
        have hL157 := hL138.no_ k157
        have g11 := f11.no k157
        have g13 := f13.no k157
        have g44 := f44.no k157
        have K157 := K138.then k157
        have hzero : (⟨0, 0, 0, 0, 0⟩ : Op).fit := ⟨by decide, by decide, by decide, by decide, by decide⟩
        refine (append_spec (o := ⟨0, 0, 0, 0, 0⟩) hL157 (hO _) (by omega) (by omega) hzero).mono ?_
        rintro e w159 ⟨rfl, q159, hL159, k159, _⟩
        have hez : enc ⟨0, 0, 0, 0, 0⟩ = none := by unfold enc; rw [shp_n (by decide) (by decide) (by decide) (by decide)]
        have eZ : appM x (nmF x.now.a) n false ⟨0, 0, 0, 0, 0⟩ = (x, n, false, 190) := by simp only [appM, hez]
        rw [eZ] at hL159 ⊢
        replace hL159 : LgR w159 w73.heap.size l p q159 x (nmF x.now.a) n false := hL159
        refine ⟨_, rfl, cond_t rfl ?_⟩
        have i11 := g11.keep k159 (hL157.off g11.ty)
        have i13 := g13.keep k159 (hL157.off g13.ty)
        have i44 := g44.keep k159 (hL157.off g44.ty)
        have K159 : Keep no w w159 := K157.new k159 (hlo hL157)
        refine ⟨_, _, _, _, _, i13.cell 0, i13.cell 1, i13.cell 2, i13.cell 3, i13.cell 4, ?_⟩
        intro p166 w167
        have b166 : Bk w167 p166 (opC m) 57 := Bk.new w159 _ _
        have k167 : Keep no w159 w167 := Keep.alloc _ _ _
        clear_value p166 w167
        have r166 : Rd w167 57 5 (some ⟨p166, 0, none⟩) 1 1 (opl [m]) := Rd.blk (sz := 5) (n := 1) b166 rfl (by simp [maxLen])
        have hL167 := hL159.no_ k167
        have hfits : ∀ o' ∈ [m], o'.fit := fun o' ho' => by rw [List.mem_singleton.1 ho']; exact hm
        refine (rewrite_spec hL167 (hO _) (nmF_two _) (by omega) r166 hfits (by omega)).mono ?_
        rintro e w169 ⟨rfl, q169, hL169, k169, _⟩
        obtain ⟨z1, z2, z3, z4, z5, z6⟩ := hI.rew hfits
        have hplains : plains [m] = some [y2] := by simp only [plains, hp2, Option.map_some]
        have hrw : x.now.rew [m] = (((x.now.set (nmF x.now.a) []).set (3 - nmF x.now.a) (recs [y2])).set 0 [UInt8.ofNat (3 - nmF x.now.a)], 0) := by
          simp only [Fs.rew, hplains]
          rw [if_neg (by simp [recs]; omega)]
        have hlenR : (rewM x (nmF x.now.a) n false [m]).2.2.1 = (er y2).length := by
          rw [z3.len, z2, hrw]
          have hff := nmF_two x.now.a
          have hwd : nmF [UInt8.ofNat (3 - nmF x.now.a)] = 3 - nmF x.now.a := nmF_word (by omega)
          show ((Fs.set _ 0 _).get (nmF [UInt8.ofNat (3 - nmF x.now.a)])).length = _
          rw [hwd, Fs.get_set_ne _ (by omega) (by omega) (by omega), Fs.get_set _ (by omega)]
          simp [recs]
        rw [hrw] at z1
        rw [z1]
        refine ⟨_, rfl, cond_t rfl ?_⟩
        generalize hR : rewM x (nmF x.now.a) n false [m] = R at hL169 z1 z2 z3 z4 z5 z6 hlenR
        rw [z4, z3.dd_] at hL169
        have z3' : LPi R.1 R.2.2.1 false := by have := z3; rwa [z3.dd_] at this
        have j11 := (i11.no k167).keep k169 (hL167.off (i11.no k167).ty)
        have j44 := (i44.no k167).keep k169 (hL167.off (i44.no k167).ty)
        have K169 : Keep no w w169 := (K159.then k167).new k169 (hlo hL167)
        refine ⟨_, _, _, _, _, j11.cell 0, j11.cell 1, j11.cell 2, j11.cell 3, j11.cell 4, ?_⟩
        refine (append_spec hL169 (hO _) (by omega) (by omega) ho).mono ?_
        rintro e w177 ⟨rfl, q177, hL177, k177, _⟩
        rcases app_cases z3' ho hp1 with ⟨_, v1, v2, v3⟩ | ⟨hb, _⟩
        rotate_left
        · omega
        rw [v1]
        rw [v2, v3] at hL177
        refine ⟨_, rfl, cond_t rfl ?_⟩
        have l44 := j44.keep k177 (hL169.off j44.ty)
        have K177 : Keep no w w177 := K169.new k177 (hlo hL169)
        refine ⟨_, _, _, _, _, l44.cell 0, l44.cell 1, l44.cell 2, l44.cell 3, l44.cell 4, ?_⟩
        refine (len_spec hL177).mono ?_
        rintro e w185 ⟨rfl, rfl⟩
        refine ⟨_, rfl, ⟨_, _, _, _, _, l44.cell 0, l44.cell 1, l44.cell 2, l44.cell 3, l44.cell 4, rfl⟩, ?_⟩
        refine (EncodeR_spec w185 hy2 h2.2.2.2).mono ?_
        rintro e w193 ⟨t', rfl, k193, hot2⟩
        have hot2' : w193.ownsRow w185.heap.size 5 1 t'.v t'.n (bvs (er y2)) := hot2
        have htn' : t'.n = (er y2).length := by have := hot2'.1; simp at this; exact this.symm
        refine ⟨_, _, _, rfl, ?_, (K177.then k193).below⟩
        have ef : IntKind.i64.wrap (((t'.n : Nat) : Int) + ((s2 : Nat) : Int)) = ((R.2.2.1 + (er y1).length : Nat) : Int) := by rw [htn', hs2, hlenR, IntWalk.i64_in _ ⟨by omega, by omega⟩]; omega
        rw [ef]
        simp
    clear_value K99
    refine cond_f rfl (cond_f rfl ?_)
    rw [show (((u2 : Nat) : Int) != ((N - 1 : Nat) : Int)) = false by rw [hu2]; simp]
    refine cond_f rfl ?_
    refine (len_spec hL82').mono ?_
    rintro e w87 ⟨rfl, rfl⟩
    refine ⟨_, rfl, ?_⟩
    rw [show ((((N - 1) * s2 : Nat) : Int) != ((g2 : Nat) : Int)) = false by rw [hg2]; simp]
    refine cond_f rfl ⟨_, _, _, _, _, g11.cell 0, g11.cell 1, g11.cell 2, g11.cell 3, g11.cell 4, ?_⟩
    refine (append_spec hL82' (hO _) (by omega) (by rw [hrest]; simp) ho).mono ?_
    rintro e w95 ⟨rfl, q95, hL95, k95, _⟩
    obtain ⟨ap1, ap2, ap3, ap4, ap5, _⟩ := hI0.app ho
    rcases app_cases hI0 ho hp1 with ⟨_, v1, v2, v3⟩ | ⟨hb, _⟩
    rotate_left
    · omega
    rw [v1]
    rw [v2, v3] at hL95 ap3
    have hsum : (N - 1) * s2 + (er y1).length = N * s2 := by rw [← hs2]; exact hNs
    rw [hsum] at hL95 ap3
    generalize (appM x (nmF x.now.a) ((N - 1) * s2) false o).1 = R at hL95 ap2 ap3 ap4 ap5
    rw [← ap5] at hL95
    refine ⟨_, rfl, ?_⟩
    refine g99 w95 q95 _ hL95 ap3 ?_ (g11.keep k95 (hL82'.off g11.ty)) (g13.keep k95 (hL82'.off g13.ty)) (g44.keep k95 (hL82'.off g44.ty)) (K82.new k95 (hlo hL82'))
    rw [hrest] at ap4
    have h4 : 4 ≤ N * s2 := by omega
    simp only [List.length_nil] at ap4
    omega
  clear_value K52
  refine (awakeL_spec w46 (hO _)).mono ?_
  rintro e w48 ⟨rfl, k48⟩
  refine ⟨_, rfl, cond_f rfl ?_⟩
  rcases hcd1 with ⟨rfl, hp1⟩ | ⟨rfl, hp1⟩
  · refine cond_f rfl ?_
    rcases hcd2 with ⟨rfl, hp2⟩ | ⟨rfl, hp2⟩
    · exact good hp1 hp2 _ k48
    · exact bad _ (K46.then k48)
  · exact cond_t rfl (bad _ (K46.then k48))
end Go.Proofs.Ytmfidfaiopogbaa
