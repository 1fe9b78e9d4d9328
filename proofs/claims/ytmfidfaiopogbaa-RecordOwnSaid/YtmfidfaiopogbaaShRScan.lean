/- The reference's Scan. -/
import Derived.Test.YtmfidfaiopogbaaShSeems
import Derived.Test.YtmfidfaiopogbaaShP8
set_option linter.unusedVariables false
set_option linter.unusedSimpArgs false
set_option linter.unusedSectionVars false
set_option maxRecDepth 4000
namespace Go.Proofs.Ytmfidfaiopogbaa
open Go Go.Sh

theorem front_len {b L : Bs} {y : Op} (h : Front b y L) : (b.getD 0 0).toNat + 2 = L.length := by
  obtain ⟨_, _, he, r, rfl⟩ := h
  obtain ⟨s, hs, hok, rfl⟩ := enc_some he
  have := body_len hs hok
  show (UInt8.ofNat (body y s).length).toNat + 2 = _
  rw [UInt8.toNat_ofNat']
  simp [sealed]; omega
theorem front_self {b L : Bs} {y : Op} (h : Front b y L) : Front L y L ∧ L = b.take L.length := by
  obtain ⟨h1, h2, h3, r, rfl⟩ := h
  exact ⟨⟨h1, h2, h3, [], by simp⟩, by simp⟩
theorem enc_is {y : Op} (h : plain y = some y) : enc y = some (sealed (body y ((shp y.k).getD ([], false)))) := ((enc_plain y).1 y h).1
theorem beq_strD (a b : Bs) : ((str a).toList == (str b).toList) = decide (a = b) := by
  by_cases h : a = b
  · rw [decide_eq_true h]; subst h; simp
  · rw [decide_eq_false h]
    apply Bool.eq_false_iff.2
    intro hh
    apply h
    have := congrArg List.toArray (eq_of_beq hh)
    simpa [str] using this
section
variable [Av]
theorem Rd.subB {w : World} {e : Nat} {a : Option Addr} {n c : Nat} {l : Bs} (h : Rd w e 1 a n c (bvs l)) {r s : Nat} (hr : r ≤ s) (hs : s ≤ n) : Rd w e 1 (subS a c r 1) (s - r) (c - r) (bvs ((l.drop r).take (s - r))) := by
  have := h.sub hr hs
  rw [Nat.mul_one, Nat.mul_one] at this
  simpa [bvs, List.map_take, List.map_drop] using this
set_option maxHeartbeats 800000 in
theorem RScan_spec {w : World} {e2 : Nat} {a : Option Addr} {n c : Nat} {l : Bs} (h : Rd w e2 1 a n c (bvs l)) (hsz : (scan l).1.length * 40 ≤ 140737488355328) (h62 : n ≤ 4611686018427387904) :
    Calls Try.prog 41 #[.slice a n c] w fun e w' => ∃ s : Sv, e = .returned (.tuple #[s.v, .int .i64 (scan l).2]) ∧ Keep no w w' ∧ w'.ownsRow w.heap.size 57 5 s.v s.n (opl (scan l).1) ∧ s.n = (scan l).1.length := by
  have hn : n = l.length := by have := h.1; simp at this; exact this.symm
  have hcn := h.2.1
  have hcm := h.2.2.1
  simp only [maxLen] at hcm
  refine c41 ?_
  unfold sh41
  refine ⟨fun vs v => ∃ (at_ : Nat) (o1 : Option Addr) (o2 o3 : Nat) (ys : List Op), vs = [.slice none 0 0, .int .i64 0, .slice o1 o2 o3, .int .i64 at_] ∧ at_ ≤ n ∧ o2 = ys.length ∧ v.ownsRow w.heap.size 57 5 (.slice o1 o2 o3) o2 (opl ys) ∧ Keep no w v ∧
      scan l = (ys ++ (scan (l.drop at_)).1, at_ + (scan (l.drop at_)).2),
    fun vs v => match vs with | [_, _, _, .int _ i] => n - i.toNat | _ => 0, ⟨0, none, 0, 0, [], rfl, by omega, rfl, World.ownsRow_nil _ _ _ _, Keep.refl _ _, by simp⟩, ?_⟩
  rintro w6 a2 l2 c2 n3 o1 o2 o3 at5 ⟨at_, p1, p2, p3, ys, hv, hat, ho2, ho, k6, hsc⟩
  cases hv
  have stop0 : dec (l.drop at_) = none → ∀ w', Keep no w6 w' → ∃ s : Sv, Ending.returned (.tuple #[.slice o1 o2 o3, .int .i64 (at_ : Nat)]) = .returned (.tuple #[s.v, .int .i64 (scan l).2]) ∧ Keep no w w' ∧ w'.ownsRow w.heap.size 57 5 s.v s.n (opl (scan l).1) ∧ s.n = (scan l).1.length := by
    intro hd w' k'
    have hs0 := scan_none hd
    rw [hs0] at hsc
    rw [hsc]
    exact ⟨⟨o1, o2, o3⟩, by simp, k6.then k', by simpa using own_keep ho k' fun _ _ h => h, by simp; omega⟩
  refine cond_d (fun hlt => ?_) (fun hge => ?_)
  · have hlt' : at_ < l.length := by omega
    obtain ⟨q9, hq9, hc9⟩ := rd_at (h.no k6) (i := at_) hlt'
    have hx0 : ((l.drop at_).getD 0 0) = l[at_] := by
      rw [List.getD_eq_getElem?_getD, List.getElem?_drop, Nat.add_zero, List.getElem?_eq_getElem hlt']; rfl
    generalize l[at_] = x at hc9 hx0
    have hx := x.toNat_lt
    refine ⟨q9, hq9, by omega, by omega, _, by rw [Int.toNat_natCast]; exact hc9, ?_⟩
    have ex : IntKind.i64.wrap (IntKind.i64.wrap ((x.toNat : Nat) : Int) + 2) = ((x.toNat + 2 : Nat) : Int) := by
      have : IntKind.i64.wrap ((x.toNat : Nat) : Int) = (x.toNat : Int) := IntWalk.i64_in _ ⟨by omega, by omega⟩
      rw [this, IntWalk.i64_in _ ⟨by omega, by omega⟩]; omega
    have ea : IntKind.i64.wrap ((at_ : Int) + ((x.toNat + 2 : Nat) : Int)) = ((at_ + (x.toNat + 2) : Nat) : Int) := by
      rw [IntWalk.i64_in _ ⟨by omega, by omega⟩]; omega
    rw [ex, ea]
    -- what a record here would be
    have hfr : ∀ y m, dec (l.drop at_) = some (y, m) → m = x.toNat + 2 ∧ 4 ≤ m ∧ at_ + m ≤ n ∧ Front ((l.drop at_).take m) y ((l.drop at_).take m) := by
      intro y m hd
      obtain ⟨L, hL, hm⟩ := dec_some hd
      have h1 := front_len hL
      obtain ⟨h2, h3⟩ := front_self hL
      have h4 := dec_len hd
      rw [List.length_drop] at h4
      rw [hx0] at h1
      rw [hm] at h3
      rw [h3] at h2
      exact ⟨by omega, h4.1, by omega, h2⟩
    intro K14
    have stop : ∀ b, dec (l.drop at_) = none → K14 b true w6 := fun b hd => cond_t rfl (stop0 hd w6 (Keep.refl _ _))
    have go : ∀ b, 3 ≤ x.toNat + 2 → at_ + (x.toNat + 2) ≤ n → K14 b false w6 := by
      intro b h3 hle
      refine cond_f rfl ?_
      refine ⟨by omega, by omega, by omega, by omega, ?_⟩
      rw [Int.toNat_natCast at_, Int.toNat_natCast (at_ + (x.toNat + 2))]
      have hsub : ∀ w', Keep no w6 w' → Rd w' e2 1 (subS a c at_ 1) (at_ + (x.toNat + 2) - at_) (c - at_) (bvs ((l.drop at_).take (x.toNat + 2))) := by
        intro w' k'
        have := Rd.subB (h.no (k6.then k')) (r := at_) (s := at_ + (x.toNat + 2)) (by omega) hle
        rw [show at_ + (x.toNat + 2) - at_ = x.toNat + 2 by omega] at this ⊢
        exact this
      have hsub6 := hsub w6 (Keep.refl _ _)
      refine (seems_spec hsub6 (by omega) (by omega)).mono ?_
      rintro e w16 ⟨z, rfl, k16, hz, hzy⟩
      refine ⟨_, _, _, _, _, rfl, ?_⟩
      refine (Plain_spec w16 z).mono ?_
      rintro e w23 ⟨k23, hpl⟩
      have K23 := k16.then k23
      obtain ⟨y', code, rfl, hcode⟩ : ∃ (y' : Op) (code : Int), e = .returned (.tuple #[opV y', .int .i64 code]) ∧ ((code = 0 ∧ plain z = some y') ∨ (code = 190 ∧ plain z = none)) := by
        rcases hpl with ⟨hp, z', he⟩ | ⟨y', hp, he⟩
        · exact ⟨z', _, he, .inr ⟨rfl, hp⟩⟩
        · exact ⟨y', _, he, .inl ⟨rfl, hp⟩⟩
      refine ⟨_, _, _, _, _, _, rfl, ?_⟩
      intro p30 w31
      have b30 : Bk w31 p30 #[.int .i64 0, .int .i64 0, .int .i64 0, .int .i64 0, .int .u32 0] 57 := Bk.new w23 _ _
      have k31 : Keep no w23 w31 := Keep.alloc _ _ _
      have h30 : w23.heap.size ≤ p30 := Nat.le_refl _
      clear_value p30 w31
      obtain ⟨e1, e2', e3⟩ := fin5 (a := .int .i64 y'.k) (b := .int .i64 y'.e) (c := .int .i64 y'.u) (d := .int .i64 y'.v) (e := .int .u32 y'.b) b30 rfl
      refine ⟨e1, ?_⟩
      intro w32
      have c30 : Bk w32 p30 (opC y') 57 := e2'
      have k32 : Keep no w23 w32 := k31.new e3 (by rintro z rfl; exact h30)
      clear_value w32
      have K32 := K23.then k32
      intro K54
      have stop5 : ∀ b w', Keep no w6 w' → dec (l.drop at_) = none → K54 b true w' := fun b w' k' hd => cond_t rfl (stop0 hd w' k')
      have more : ∀ b w', Keep no w6 w' → Bk w' p30 (opC y') 57 → dec (l.drop at_) = some (y', x.toNat + 2) → K54 b false w' := by
        intro b w' k' c18 hd
        refine cond_f rfl ?_
        have hs1 := scan_some hd
        have hdl := dec_len hd
        rw [List.length_drop] at hdl
        rw [hs1, List.drop_drop] at hsc
        have hlen : ys.length + 1 ≤ (scan l).1.length := by rw [hsc]; simp
        refine ⟨_, _, _, _, _, c18.cell 0, c18.cell 1, c18.cell 2, c18.cell 3, c18.cell 4, ?_⟩
        intro p26 w27
        have b26 : Bk w27 p26 (opC y') 57 := Bk.new w' _ _
        have k27 : Keep no w' w27 := Keep.alloc _ _ _
        clear_value p26 w27
        have K27 := k6.then (k'.then k27)
        have ho27 := own_keep ho (k'.then k27) fun _ _ h => h
        refine rw_append E64 ho27 (Rd.blk0 (sz := 5) (n := 1) b26 rfl (by simp [maxLen])) (by simp [one1]) (by omega) (by simp only [maxLen]; omega) K27.size fun a30 c30 w29 o29 k29 _ => ?_
        refine ⟨⟨at_ + (x.toNat + 2), a30, o2 + 1, c30, ys ++ [y'], rfl, by omega, by simp; omega, ?_, K27.new k29 fun z hz => (own_ty (q := ⟨o1, o2, o3⟩) ho27 hz).2, ?_⟩, ?_⟩
        · rw [opl_append]; exact o29
        · rw [hsc]; simp [Nat.add_assoc]
        · show n - ((at_ + (x.toNat + 2) : Nat) : Int).toNat < n - (at_ : Int).toNat
          omega
      clear_value K54
      intro w33
      have c33 : Bk w33 p30 (opC y') 57 := c30.drew
      have K33 : Keep no w6 w33 := K32.then (Keep.drew _ _)
      clear_value w33
      rcases hcode with ⟨rfl, hp⟩ | ⟨rfl, hp⟩
      · refine cond_f rfl ?_
        refine ⟨_, _, _, _, _, c33.cell 0, c33.cell 1, c33.cell 2, c33.cell 3, c33.cell 4, by omega, by omega, by omega, by omega, ?_⟩
        refine rw_str Try.underlying36 Try.underlying5 Try.underlying9 (hsub w33 K33) ?_
        have hy' := ((enc_plain z).1 y' hp).2.2.2
        refine (EncodeR_spec w33 (plain_fit hz hp) hy').mono ?_
        rintro e w43 ⟨s2, rfl, k43, hs2⟩
        refine ⟨_, _, _, rfl, ?_, ?_⟩
        · exact rw_str Try.underlying36 Try.underlying5 Try.underlying9 (hsub w43 (K33.then k43)) rfl
        refine rw_str Try.underlying36 Try.underlying5 Try.underlying9 (Rd.own0 hs2) ?_
        rw [beq_strD]
        have he := enc_is hy'
        generalize sealed (body y' ((shp y'.k).getD ([], false))) = R at he
        by_cases hR : R = (l.drop at_).take (x.toNat + 2)
        · rw [decide_eq_true hR]
          refine more _ _ (K33.then k43) (c33.no k43) ?_
          have hF : Front (l.drop at_) y' R := ⟨plain_fit hz hp, hy', he, (l.drop at_).drop (x.toNat + 2), by rw [hR, List.take_append_drop]⟩
          have hRl : R.length = x.toNat + 2 := by rw [hR, List.length_take, List.length_drop]; omega
          have hdf := dec_front hF
          rw [hRl] at hdf
          exact hdf
        · rw [decide_eq_false hR]
          refine stop5 _ _ (K33.then k43) ?_
          cases hd : dec (l.drop at_) with
          | none => rfl
          | some v =>
            obtain ⟨y, m⟩ := v
            obtain ⟨rfl, _, _, hF⟩ := hfr y m hd
            have := hzy y hF
            subst this
            rw [hF.2.1] at hp; cases hp
            rw [hF.2.2.1] at he
            exact absurd (Option.some.inj he).symm hR
      · refine cond_t rfl (stop5 _ _ K33 ?_)
        cases hd : dec (l.drop at_) with
        | none => rfl
        | some v =>
          obtain ⟨y, m⟩ := v
          obtain ⟨rfl, _, _, hF⟩ := hfr y m hd
          have := hzy y hF
          subst this
          rw [hF.2.1] at hp; cases hp
    clear_value K14
    have hno : (x.toNat + 2 < 3 ∨ n < at_ + (x.toNat + 2)) → dec (l.drop at_) = none := by
      intro hor
      cases hd : dec (l.drop at_) with
      | none => rfl
      | some v =>
        obtain ⟨y, m⟩ := v
        obtain ⟨rfl, h4, h5, _⟩ := hfr y m hd
        omega
    refine cond_d (fun h3 => stop _ (hno (.inl (by omega)))) (fun h3 => ?_)
    by_cases hle : at_ + (x.toNat + 2) ≤ n
    · rw [decide_eq_false (show ¬ (((at_ + (x.toNat + 2) : Nat) : Int) > ((n : Nat) : Int)) by omega)]; exact go _ (by omega) hle
    · rw [decide_eq_true (show ((at_ + (x.toNat + 2) : Nat) : Int) > ((n : Nat) : Int) by omega)]; exact stop _ (hno (.inr (by omega)))
  · have hd : dec (l.drop at_) = none := by
      rw [List.drop_of_length_le (by omega)]; rfl
    exact stop0 hd w6 (Keep.refl _ _)
end
end Go.Proofs.Ytmfidfaiopogbaa
