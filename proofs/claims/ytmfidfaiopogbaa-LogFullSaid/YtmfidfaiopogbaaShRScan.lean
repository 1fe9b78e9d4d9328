/- The reference's Scan. -/
import Derived.Test.YtmfidfaiopogbaaShNum
import Derived.Test.YtmfidfaiopogbaaShP8
set_option linter.unusedVariables false
set_option linter.unusedSimpArgs false
set_option linter.unusedSectionVars false
set_option maxRecDepth 4000
namespace Go.Proofs.Ytmfidfaiopogbaa
open Go Go.Sh

theorem front_len {b L : Bs} {y : Op} (h : Front b y L) : (b.getD 0 0).toNat + 2 = L.length := by
  obtain ⟨_, _, he, r, rfl⟩ := h
  obtain ⟨s, hs, hok, rfl⟩ := enc_some he
  have := body_len hs hok
  show (UInt8.ofNat (body y s).length).toNat + 2 = _
  rw [UInt8.toNat_ofNat']
  simp [sealed]; omega
theorem front_self {b L : Bs} {y : Op} (h : Front b y L) : Front L y L ∧ L = b.take L.length := by
  obtain ⟨h1, h2, h3, r, rfl⟩ := h
  exact ⟨⟨h1, h2, h3, [], by simp⟩, by simp⟩
theorem enc_is {y : Op} (h : plain y = some y) : enc y = some (sealed (body y ((shp y.k).getD ([], false)))) := ((enc_plain y).1 y h).1
theorem beq_strD (a b : Bs) : ((str a).toList == (str b).toList) = decide (a = b) := by
  by_cases h : a = b
  · rw [decide_eq_true h]; subst h; simp
  · rw [decide_eq_false h]
    apply Bool.eq_false_iff.2
    intro hh
    apply h
    have := congrArg List.toArray (eq_of_beq hh)
    simpa [str] using this
section
variable [Av]
theorem Rd.subB {w : World} {e : Nat} {a : Option Addr} {n c : Nat} {l : Bs} (h : Rd w e 1 a n c (bvs l)) {r s : Nat} (hr : r ≤ s) (hs : s ≤ n) : Rd w e 1 (subS a c r 1) (s - r) (c - r) (bvs ((l.drop r).take (s - r))) := by
  have := h.sub hr hs
  rw [Nat.mul_one, Nat.mul_one] at this
  simpa [bvs, List.map_take, List.map_drop] using this
set_option maxHeartbeats 800000 in
theorem RScan_spec {w : World} {e2 : Nat} {a : Option Addr} {n c : Nat} {l : Bs} (h : Rd w e2 1 a n c (bvs l)) (hsz : (scan l).1.length * 40 ≤ 140737488355328) (h62 : n ≤ 4611686018427387904) :
    Calls Try.prog 41 #[.slice a n c] w fun e w' => ∃ s : Sv, e = .returned (.tuple #[s.v, .int .i64 (scan l).2]) ∧ Keep no w w' ∧ w'.ownsRow w.heap.size 57 5 s.v s.n (opl (scan l).1) ∧ s.n = (scan l).1.length := by
  have hn : n = l.length := by have := h.1; simp at this; exact this.symm
  have hcn := h.2.1
  have hcm := h.2.2.1
  simp only [maxLen] at hcm
  refine c41 ?_
  unfold sh41
  refine ⟨fun vs v => ∃ (at_ : Nat) (o1 : Option Addr) (o2 o3 : Nat) (ys : List Op), vs = [.slice none 0 0, .int .i64 0, .slice o1 o2 o3, .int .i64 at_] ∧ at_ ≤ n ∧ o2 = ys.length ∧ v.ownsRow w.heap.size 57 5 (.slice o1 o2 o3) o2 (opl ys) ∧ Keep no w v ∧
      scan l = (ys ++ (scan (l.drop at_)).1, at_ + (scan (l.drop at_)).2),
    fun vs v => match vs with | [_, _, _, .int _ i] => n - i.toNat | _ => 0, ⟨0, none, 0, 0, [], rfl, by omega, rfl, World.ownsRow_nil _ _ _ _, Keep.refl _ _, by simp⟩, ?_⟩
  rintro w6 a2 l2 c2 n3 o1 o2 o3 at5 ⟨at_, p1, p2, p3, ys, hv, hat, ho2, ho, k6, hsc⟩
  cases hv
  have stop0 : dec (l.drop at_) = none → ∀ w', Keep no w6 w' → ∃ s : Sv, Ending.returned (.tuple #[.slice o1 o2 o3, .int .i64 (at_ : Nat)]) = .returned (.tuple #[s.v, .int .i64 (scan l).2]) ∧ Keep no w w' ∧ w'.ownsRow w.heap.size 57 5 s.v s.n (opl (scan l).1) ∧ s.n = (scan l).1.length := by
    intro hd w' k'
    have hs0 := scan_none hd
    rw [hs0] at hsc
    rw [hsc]
    exact ⟨⟨o1, o2, o3⟩, by simp, k6.then k', by simpa using own_keep ho k' fun _ _ h => h, by simp; omega⟩
  refine cond_d (fun hlt => ?_) (fun hge => ?_)
  · have hlt' : at_ < l.length := by omega
    obtain ⟨q9, hq9, hc9⟩ := rd_at (h.no k6) (i := at_) hlt'
    have hx0 : ((l.drop at_).getD 0 0) = l[at_] := by
      rw [List.getD_eq_getElem?_getD, List.getElem?_drop, Nat.add_zero, List.getElem?_eq_getElem hlt']; rfl
    generalize l[at_] = x at hc9 hx0
    have hx := x.toNat_lt
    refine ⟨q9, hq9, by omega, by omega, _, by rw [Int.toNat_natCast]; exact hc9, ?_⟩
    have ex : IntKind.i64.wrap (IntKind.i64.wrap ((x.toNat : Nat) : Int) + 2) = ((x.toNat + 2 : Nat) : Int) := by
      have : IntKind.i64.wrap ((x.toNat : Nat) : Int) = (x.toNat : Int) := IntWalk.i64_in _ ⟨by omega, by omega⟩
      rw [this, IntWalk.i64_in _ ⟨by omega, by omega⟩]; omega
    have ea : IntKind.i64.wrap ((at_ : Int) + ((x.toNat + 2 : Nat) : Int)) = ((at_ + (x.toNat + 2) : Nat) : Int) := by
      rw [IntWalk.i64_in _ ⟨by omega, by omega⟩]; omega
    rw [ex, ea]
    -- what a record here would be
    have hfr : ∀ y m, dec (l.drop at_) = some (y, m) → m = x.toNat + 2 ∧ 4 ≤ m ∧ at_ + m ≤ n ∧ Front ((l.drop at_).take m) y ((l.drop at_).take m) := by
      intro y m hd
      obtain ⟨L, hL, hm⟩ := dec_some hd
      have h1 := front_len hL
      obtain ⟨h2, h3⟩ := front_self hL
      have h4 := dec_len hd
      rw [List.length_drop] at h4
      rw [hx0] at h1
      rw [hm] at h3
      rw [h3] at h2
      exact ⟨by omega, h4.1, by omega, h2⟩
    intro K14
    have stop : ∀ b, dec (l.drop at_) = none → K14 b true w6 := fun b hd => cond_t rfl (stop0 hd w6 (Keep.refl _ _))
    have go : ∀ b, 3 ≤ x.toNat + 2 → at_ + (x.toNat + 2) ≤ n → K14 b false w6 := by
      intro b h3 hle
      refine cond_f rfl ?_
      refine ⟨by omega, by omega, by omega, by omega, ?_⟩
      rw [Int.toNat_natCast at_, Int.toNat_natCast (at_ + (x.toNat + 2))]
      have hsub : ∀ w', Keep no w6 w' → Rd w' e2 1 (subS a c at_ 1) (at_ + (x.toNat + 2) - at_) (c - at_) (bvs ((l.drop at_).take (x.toNat + 2))) := by
        intro w' k'
        have := Rd.subB (h.no (k6.then k')) (r := at_) (s := at_ + (x.toNat + 2)) (by omega) hle
        rw [show at_ + (x.toNat + 2) - at_ = x.toNat + 2 by omega] at this ⊢
        exact this
      have hsub6 := hsub w6 (Keep.refl _ _)
      refine (seems_spec hsub6 (by omega) (by omega)).mono ?_
      rintro e w16 ⟨z, rfl, k16, hz, hzy⟩
      refine ⟨_, _, _, _, _, rfl, ?_⟩
      refine (Plain_spec w16 z).mono ?_
      rintro e w23 ⟨k23, hpl⟩
      have K23 := k16.then k23
      obtain ⟨y', code, rfl, hcode⟩ : ∃ (y' : Op) (code : Int), e = .returned (.tuple #[opV y', .int .i64 code]) ∧ ((code = 0 ∧ plain z = some y') ∨ (code = 190 ∧ plain z = none)) := by
        rcases hpl with ⟨hp, z', he⟩ | ⟨y', hp, he⟩
        · exact ⟨z', _, he, .inr ⟨rfl, hp⟩⟩
        · exact ⟨y', _, he, .inl ⟨rfl, hp⟩⟩
      refine ⟨_, _, _, _, _, _, rfl, ?_⟩
      intro p30 w31
      have b30 : Bk w31 p30 #[.int .i64 0, .int .i64 0, .int .i64 0, .int .i64 0, .int .u32 0] 57 := Bk.new w23 _ _
      have k31 : Keep no w23 w31 := Keep.alloc _ _ _
      have h30 : w23.heap.size ≤ p30 := Nat.le_refl _
      clear_value p30 w31
      obtain ⟨e1, e2', e3⟩ := fin5 (a := .int .i64 y'.k) (b := .int .i64 y'.e) (c := .int .i64 y'.u) (d := .int .i64 y'.v) (e := .int .u32 y'.b) b30 rfl
      refine ⟨e1, ?_⟩
      intro w32
      have c30 : Bk w32 p30 (opC y') 57 := e2'
      have k32 : Keep no w23 w32 := k31.new e3 (by rintro z rfl; exact h30)
      clear_value w32
      have K32 := K23.then k32
      intro K54
      have stop5 : ∀ b w', Keep no w6 w' → dec (l.drop at_) = none → K54 b true w' := fun b w' k' hd => cond_t rfl (stop0 hd w' k')
      have more : ∀ b w', Keep no w6 w' → Bk w' p30 (opC y') 57 → dec (l.drop at_) = some (y', x.toNat + 2) → K54 b false w' := by
        intro b w' k' c18 hd
        refine cond_f rfl ?_
        have hs1 := scan_some hd
        have hdl := dec_len hd
        rw [List.length_drop] at hdl
        rw [hs1, List.drop_drop] at hsc
        have hlen : ys.length + 1 ≤ (scan l).1.length := by rw [hsc]; simp
        refine ⟨_, _, _, _, _, c18.cell 0, c18.cell 1, c18.cell 2, c18.cell 3, c18.cell 4, ?_⟩
        intro p26 w27
        have b26 : Bk w27 p26 (opC y') 57 := Bk.new w' _ _
        have k27 : Keep no w' w27 := Keep.alloc _ _ _
        clear_value p26 w27
        have K27 := k6.then (k'.then k27)
        have ho27 := own_keep ho (k'.then k27) fun _ _ h => h
        refine rw_append E64 ho27 (Rd.blk0 (sz := 5) (n := 1) b26 rfl (by simp [maxLen])) (by simp [one1]) (by omega) (by simp only [maxLen]; omega) K27.size fun a30 c30 w29 o29 k29 _ => ?_
        refine ⟨⟨at_ + (x.toNat + 2), a30, o2 + 1, c30, ys ++ [y'], rfl, by omega, by simp; omega, ?_, K27.new k29 fun z hz => (own_ty (q := ⟨o1, o2, o3⟩) ho27 hz).2, ?_⟩, ?_⟩
        · rw [opl_append]; exact o29
        · rw [hsc]; simp [Nat.add_assoc]
        · show n - ((at_ + (x.toNat + 2) : Nat) : Int).toNat < n - (at_ : Int).toNat
          omega
      clear_value K54
      intro w33
      have c33 : Bk w33 p30 (opC y') 57 := c30.drew
      have K33 : Keep no w6 w33 := K32.then (Keep.drew _ _)
      clear_value w33
      rcases hcode with ⟨rfl, hp⟩ | ⟨rfl, hp⟩
      · refine cond_f rfl ?_
        refine ⟨_, _, _, _, _, c33.cell 0, c33.cell 1, c33.cell 2, c33.cell 3, c33.cell 4, by omega, by omega, by omega, by omega, ?_⟩
        refine rw_str Try.underlying36 Try.underlying5 Try.underlying9 (hsub w33 K33) ?_
        have hy' := ((enc_plain z).1 y' hp).2.2.2
        refine (EncodeR_spec w33 (plain_fit hz hp) hy').mono ?_
        rintro e w43 ⟨s2, rfl, k43, hs2⟩
        refine ⟨_, _, _, rfl, ?_, ?_⟩
        · exact rw_str Try.underlying36 Try.underlying5 Try.underlying9 (hsub w43 (K33.then k43)) rfl
        refine rw_str Try.underlying36 Try.underlying5 Try.underlying9 (Rd.own0 hs2) ?_
        rw [beq_strD]
        have he := enc_is hy'
        generalize sealed (body y' ((shp y'.k).getD ([], false))) = R at he
        by_cases hR : R = (l.drop at_).take (x.toNat + 2)
        · rw [decide_eq_true hR]
          refine more _ _ (K33.then k43) (c33.no k43) ?_
          have hF : Front (l.drop at_) y' R := ⟨plain_fit hz hp, hy', he, (l.drop at_).drop (x.toNat + 2), by rw [hR, List.take_append_drop]⟩
          have hRl : R.length = x.toNat + 2 := by rw [hR, List.length_take, List.length_drop]; omega
          have hdf := dec_front hF
          rw [hRl] at hdf
          exact hdf
        · rw [decide_eq_false hR]
          refine stop5 _ _ (K33.then k43) ?_
          cases hd : dec (l.drop at_) with
          | none => rfl
          | some v =>
            obtain ⟨y, m⟩ := v
            obtain ⟨rfl, _, _, hF⟩ := hfr y m hd
            have := hzy y hF
            subst this
            rw [hF.2.1] at hp; cases hp
            rw [hF.2.2.1] at he
            exact absurd (Option.some.inj he).symm hR
      · refine cond_t rfl (stop5 _ _ K33 ?_)
        cases hd : dec (l.drop at_) with
        | none => rfl
        | some v =>
          obtain ⟨y, m⟩ := v
          obtain ⟨rfl, _, _, hF⟩ := hfr y m hd
          have := hzy y hF
          subst this
          rw [hF.2.1] at hp; cases hp
    clear_value K14
    have hno : (x.toNat + 2 < 3 ∨ n < at_ + (x.toNat + 2)) → dec (l.drop at_) = none := by
      intro hor
      cases hd : dec (l.drop at_) with
      | none => rfl
      | some v =>
        obtain ⟨y, m⟩ := v
        obtain ⟨rfl, h4, h5, _⟩ := hfr y m hd
        omega
    refine cond_d (fun h3 => stop _ (hno (.inl (by omega)))) (fun h3 => ?_)
    by_cases hle : at_ + (x.toNat + 2) ≤ n
    · rw [decide_eq_false (show ¬ (((at_ + (x.toNat + 2) : Nat) : Int) > ((n : Nat) : Int)) by omega)]; exact go _ (by omega) hle
    · rw [decide_eq_true (show ((at_ + (x.toNat + 2) : Nat) : Int) > ((n : Nat) : Int) by omega)]; exact stop _ (hno (.inr (by omega)))
  · have hd : dec (l.drop at_) = none := by
      rw [List.drop_of_length_le (by omega)]; rfl
    exact stop0 hd w6 (Keep.refl _ _)
end
end Go.Proofs.Ytmfidfaiopogbaa
/- Lists of operations, their records, and what is read of them when they are cut. -/
set_option linter.unusedVariables false
set_option linter.unusedSimpArgs false
set_option linter.unusedSectionVars false
set_option maxRecDepth 4000
namespace Go.Proofs.Ytmfidfaiopogbaa
open Go Go.Sh

theorem opl_at : ∀ {l : List Op} {i : Nat} {x : Op}, l[i]? = some x → (opl l)[i * 5]? = some (.int .i64 x.k) ∧ (opl l)[i * 5 + 1]? = some (.int .i64 x.e) ∧ (opl l)[i * 5 + 2]? = some (.int .i64 x.u) ∧ (opl l)[i * 5 + 3]? = some (.int .i64 x.v) ∧ (opl l)[i * 5 + 4]? = some (.int .u32 x.b)
  | [], i, x, h => by simp at h
  | g :: r, 0, x, h => by simp at h; subst h; exact ⟨rfl, rfl, rfl, rfl, rfl⟩
  | g :: r, i + 1, x, h => by
    have := opl_at (l := r) (i := i) (x := x) (by simpa using h)
    rw [Nat.add_mul, show i * 5 + 1 * 5 + 1 = (i * 5 + 1) + 5 by omega, show i * 5 + 1 * 5 + 2 = (i * 5 + 2) + 5 by omega, show i * 5 + 1 * 5 + 3 = (i * 5 + 3) + 5 by omega, show i * 5 + 1 * 5 + 4 = (i * 5 + 4) + 5 by omega]
    simpa [opl] using this

/-! ### Plain lists and their records -/
def er (y : Op) : Bs := sealed (body y ((shp y.k).getD ([], false)))
def recs : List Op → Bs
  | [] => []
  | y :: r => er y ++ recs r
theorem recs_append : ∀ l m : List Op, recs (l ++ m) = recs l ++ recs m
  | [], m => rfl
  | y :: r, m => by simp [recs, recs_append r m]
/-- All are plain. -/
def Pl (ys : List Op) : Prop := ∀ y ∈ ys, y.fit ∧ plain y = some y
def goods : List Op → List Op := List.filterMap plain
theorem goods_pl {l : List Op} (h : ∀ x ∈ l, x.fit) : Pl (goods l) := by
  intro y hy
  obtain ⟨x, hx, hp⟩ := List.mem_filterMap.1 hy
  letI : Av := noAv
  exact ⟨plain_fit (h x hx) hp, ((enc_plain x).1 y hp).2.2.2⟩
theorem goods_id {ys : List Op} (h : Pl ys) : goods ys = ys := by
  induction ys with
  | nil => rfl
  | cons y r ih =>
    have hy := (h y (List.mem_cons_self ..)).2
    unfold goods at ih ⊢
    rw [List.filterMap_cons_some hy, ih fun z hz => h z (List.mem_cons_of_mem _ hz)]
theorem goods_len (l : List Op) : (goods l).length ≤ l.length := List.length_filterMap_le ..
theorem goods_take (l : List Op) (i : Nat) (h : i < l.length) : goods (l.take (i + 1)) = goods (l.take i) ++ (plain l[i]).toList := by
  unfold goods
  rw [List.take_succ_eq_append_getElem h, List.filterMap_append]
  cases hp : plain l[i] <;> simp [hp]
theorem er_len {y : Op} (h : plain y = some y) : 4 ≤ (er y).length ∧ (er y).length ≤ 22 := by
  obtain ⟨s, hs, hok, hl⟩ := enc_some (enc_is h)
  have := body_len hs hok
  unfold er
  rw [hl]
  simp [sealed]; omega
theorem recs_len {ys : List Op} (h : Pl ys) : (recs ys).length ≤ 22 * ys.length := by
  induction ys with
  | nil => simp [recs]
  | cons y r ih =>
    have h1 := er_len (h y (List.mem_cons_self ..)).2
    have h2 := ih fun z hz => h z (List.mem_cons_of_mem _ hz)
    simp [recs]; omega
theorem scan_recs {ys : List Op} (h : Pl ys) (r : Bs) : scan (recs ys ++ r) = (ys ++ (scan r).1, (recs ys).length + (scan r).2) := by
  induction ys with
  | nil => simp [recs]
  | cons y t ih =>
    have hy := h y (List.mem_cons_self ..)
    have hF : Front (recs (y :: t) ++ r) y (er y) := ⟨hy.1, hy.2, enc_is hy.2, recs t ++ r, by simp [recs]⟩
    rw [scan_some (dec_front hF)]
    have : (recs (y :: t) ++ r).drop (er y).length = recs t ++ r := by simp [recs]
    rw [this, ih fun z hz => h z (List.mem_cons_of_mem _ hz)]
    simp [recs, Nat.add_assoc]
/-- A record that is cut is none. -/
theorem dec_cut {y : Op} (hf : y.fit) (h : plain y = some y) {t : Bs} {k : Nat} (hk : k < (er y).length) : dec ((er y ++ t).take k) = none := by
  cases hd : dec ((er y ++ t).take k) with
  | none => rfl
  | some v =>
    obtain ⟨z, m⟩ := v
    obtain ⟨L, hL, hm⟩ := dec_some hd
    have h1 := front_len hL
    have h2 := front_len (⟨hf, h, enc_is h, [], by simp⟩ : Front (er y) y (er y))
    have h3 := dec_len hd
    have e : ((er y ++ t).take k).getD 0 0 = (er y).getD 0 0 := by
      have := (er_len h).1
      have hk0 : 0 < k := by simp at h3; omega
      rw [List.getD_eq_getElem?_getD, List.getElem?_take_of_lt hk0, List.getElem?_append_left (by omega), ← List.getD_eq_getElem?_getD]
    rw [e] at h1
    simp at h3
    omega
theorem scan_cut {ys : List Op} (h : Pl ys) {cut k : Nat} (hk : k ≤ ys.length) (h1 : (recs (ys.take k)).length ≤ cut) (h2 : k < ys.length → cut < (recs (ys.take (k + 1))).length) :
    scan ((recs ys).take cut) = (ys.take k, (recs (ys.take k)).length) := by
  have e : recs ys = recs (ys.take k) ++ recs (ys.drop k) := by rw [← recs_append, List.take_append_drop]
  have hno : scan ((recs (ys.drop k)).take (cut - (recs (ys.take k)).length)) = ([], 0) := by
    rcases Nat.lt_or_ge k ys.length with hlt | hge
    · have hd : ys.drop k = ys[k] :: ys.drop (k + 1) := List.drop_eq_getElem_cons hlt
      have h3 := h2 hlt
      rw [List.take_succ_eq_append_getElem hlt, recs_append, List.length_append] at h3
      have hy := h ys[k] (List.getElem_mem hlt)
      rw [hd]
      simp only [recs, List.append_nil] at h3 ⊢
      exact scan_none (dec_cut hy.1 hy.2 (by omega))
    · rw [List.drop_of_length_le hge]
      simp only [recs, List.take_nil]
      exact scan_none rfl
  rw [e, List.take_append, List.take_of_length_le h1, scan_recs (fun z hz => h z (List.mem_of_mem_take hz)), hno]
  simp

section
variable [Av]
theorem rd_op {w : World} {e n c : Nat} {a : Option Addr} {xs : List Op} (h : Rd w e 5 a n c (opl xs)) {i : Nat} (hi : i < xs.length) : i < n ∧ ∃ q, a = some q ∧ w.cell? (q.add (i * 5)) = some (.int .i64 xs[i].k) ∧ w.cell? ((q.add (i * 5)).add 1) = some (.int .i64 xs[i].e) ∧
    w.cell? ((q.add (i * 5)).add 2) = some (.int .i64 xs[i].u) ∧ w.cell? ((q.add (i * 5)).add 3) = some (.int .i64 xs[i].v) ∧ w.cell? ((q.add (i * 5)).add 4) = some (.int .u32 xs[i].b) := by
  have hn : n = xs.length := by have := h.1; rw [opl_length] at this; omega
  obtain ⟨q, hq, hc⟩ := h.at_ (i := i) (by omega)
  obtain ⟨e0, e1, e2, e3, e4⟩ := opl_at (List.getElem?_eq_getElem hi)
  have go : ∀ k, k < 5 → ∀ u, (opl xs)[i * 5 + k]? = some u → w.cell? ((q.add (i * 5)).add k) = some u := by
    intro k hk u hu
    obtain ⟨u', hu', hcu⟩ := hc k hk
    rw [hu] at hu'; cases hu'
    exact hcu
  have c0 := go 0 (by omega) _ e0
  rw [addZ] at c0
  exact ⟨by omega, q, hq, c0, go 1 (by omega) _ e1, go 2 (by omega) _ e2, go 3 (by omega) _ e3, go 4 (by omega) _ e4⟩
theorem op_n {w : World} {e n c : Nat} {a : Option Addr} {xs : List Op} (h : Rd w e 5 a n c (opl xs)) : n = xs.length := by have := h.1; rw [opl_length] at this; omega

theorem Same_spec {w : World} {e1 e2 n c m d : Nat} {a b : Option Addr} {xs ys : List Op} (ha : Rd w e1 5 a n c (opl xs)) (hb : Rd w e2 5 b m d (opl ys)) :
    Calls Try.prog 42 #[.slice a n c, .slice b m d] w fun e w' => Keep no w w' ∧ ∃ r : Bool, e = .returned (.bool r) ∧ (r = true ↔ xs = ys) := by
  have hn := op_n ha
  have hm := op_n hb
  have hmax := ha.2.2.1
  have hcn := ha.2.1
  simp only [maxLen] at hmax
  refine c42 ?_
  unfold sh42
  refine cond_i (fun hne => ?_) (fun heq => ?_)
  · refine ⟨Keep.refl _ _, _, rfl, ?_⟩
    have : n ≠ m := by simp only [bne_iff_ne, ne_eq] at hne; omega
    refine ⟨(fun h => by cases h), fun h => ?_⟩
    subst h; omega
  have hnm : n = m := by simp only [bne_eq_false_iff_eq] at heq; omega
  refine ⟨fun vs v => ∃ i : Nat, vs = [.bool false, .int .i64 i] ∧ i ≤ n ∧ xs.take i = ys.take i ∧ Keep no w v, fun vs v => match vs with | [_, .int _ i] => n - i.toNat | _ => 0, ⟨0, rfl, by omega, rfl, Keep.refl _ _⟩, ?_⟩
  rintro w5 b3 n4 ⟨i, hv, hi, ht, k5⟩
  cases hv
  refine cond_d (fun hlt => ?_) (fun hge => ?_)
  · intro w8
    have k8 : Keep no w w8 := k5.then (Keep.drew _ _)
    clear_value w8
    obtain ⟨_, q1, hq1, x0, x1, x2, x3, x4⟩ := rd_op (ha.no k8) (i := i) (by omega)
    obtain ⟨_, q2, hq2, y0, y1, y2, y3, y4⟩ := rd_op (hb.no k8) (i := i) (by omega)
    refine ⟨q1, hq1, by omega, by omega, _, _, _, _, _, by rw [Int.toNat_natCast]; exact x0, by rw [Int.toNat_natCast]; exact x1, by rw [Int.toNat_natCast]; exact x2, by rw [Int.toNat_natCast]; exact x3, by rw [Int.toNat_natCast]; exact x4, ?_⟩
    refine ⟨q2, hq2, by omega, by omega, _, _, _, _, _, by rw [Int.toNat_natCast]; exact y0, by rw [Int.toNat_natCast]; exact y1, by rw [Int.toNat_natCast]; exact y2, by rw [Int.toNat_natCast]; exact y3, by rw [Int.toNat_natCast]; exact y4, ?_⟩
    refine rw_neq (x := xs[i]'(by omega)) (y := ys[i]'(by omega)) ?_
    have ei : IntKind.i64.wrap ((i : Int) + 1) = ((i + 1 : Nat) : Int) := by rw [IntWalk.i64_in _ ⟨by omega, by omega⟩]; rfl
    refine cond_i (fun hne => ?_) (fun heq => ?_)
    · refine ⟨k8, _, rfl, (fun h => by cases h), fun h => ?_⟩
      subst h
      rw [opeq_self] at hne; cases hne
    · have he : xs[i]'(by omega) = ys[i]'(by omega) := (opeq_iff _ _).1 (by simpa using heq)
      rw [ei]
      refine ⟨⟨i + 1, rfl, by omega, ?_, k8⟩, ?_⟩
      · rw [List.take_succ_eq_append_getElem (by omega), List.take_succ_eq_append_getElem (by omega), ht, he]
      · show n - ((i + 1 : Nat) : Int).toNat < n - (i : Int).toNat
        omega
  · have hin : i = n := by omega
    refine ⟨k5, _, rfl, fun _ => ?_, fun _ => rfl⟩
    rw [List.take_of_length_le (by omega), List.take_of_length_le (by omega)] at ht
    exact ht
end
end Go.Proofs.Ytmfidfaiopogbaa
