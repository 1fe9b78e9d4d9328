/- The reference's log over three texts: its functions. -/
import Derived.Test.YtmfidfaiopogbaaShStr
set_option linter.unusedVariables false
set_option linter.unusedSimpArgs false
set_option linter.unusedSectionVars false
set_option maxRecDepth 4000
namespace Go.Proofs.Ytmfidfaiopogbaa
open Go Go.Sh
def tidyB (s : Fs) : Bool := (decide ((scan (s.get (nmF s.a))).2 = (s.get (nmF s.a)).length) && decide (s.get (3 - nmF s.a) = [])) && tidyW s.a
theorem three_sub {f : Nat} (hf : f = 1 ∨ f = 2) : IntKind.i64.wrap ((3 : Int) - ((f : Nat) : Int)) = ((3 - f : Nat) : Int) := by rw [IntWalk.i64_in _ ⟨by omega, by omega⟩]; omega
section
variable [Av]
theorem tidy_spec {w : World} (hO : Old w) (s : Fs) (hs : s.small) : Calls Try.prog 46 #[fsV s] w fun e v => e = .returned (.bool (tidyB s)) ∧ Keep no w v := by
  refine c46 ?_
  unfold sh46
  intro p4 w5
  have b5 : Bk w5 p4 (fsC s) 77 := Bk.new _ _ _
  have k5 : Keep no w w5 := Keep.alloc _ _ _
  clear_value p4 w5
  have hf := nmF_two s.a
  have n3 := three_sub hf
  refine ⟨by omega, by omega, str s.a, b5.cell 0, ?_⟩
  refine (file_spec w5 s.a).mono ?_
  rintro e w8 ⟨rfl, rfl⟩
  generalize hff : nmF s.a = f at hf n3
  refine ⟨f, rfl, by omega, by omega, str (s.get f), by rw [Int.toNat_natCast]; exact fsCell b5 (by omega), ?_⟩
  have hsm := hs.get f
  refine rw_bytes (hO.up k5) (by omega) fun a n c w12 hr k12 => ?_
  have hcnt := scan_count (s.get f)
  have hn : n = (s.get f).length := by have := hr.1; simp at this; exact this.symm
  refine (RScan_spec hr (by omega) (by omega)).mono ?_
  rintro e w15 ⟨t, rfl, k15, _, _⟩
  refine ⟨_, _, _, _, rfl, ?_⟩
  have b15 := b5.no (k12.then k15)
  have K15 := (k5.then k12).then k15
  intro K23
  have fin : ∀ b, b = tidyW s.a → K23 b w15 := by
    intro b hb
    refine ⟨by omega, by omega, str (s.get f), by rw [Int.toNat_natCast]; exact fsCell b15 (by omega), ?_⟩
    rw [str_size]
    have ht : tidyB s = ((decide ((scan (s.get f)).2 = (s.get f).length) && decide (s.get (3 - f) = [])) && b) := by unfold tidyB; rw [hff, hb]
    by_cases h1 : (scan (s.get f)).2 = (s.get f).length
    · rw [h1]
      refine cond_t (by simp) ?_
      rw [n3]
      refine ⟨by omega, by omega, str (s.get (3 - f)), by rw [Int.toNat_natCast]; exact fsCell b15 (by omega), ?_⟩
      rw [str_none, beq_strD]
      refine cond_d (fun h2 => ?_) (fun h2 => ?_)
      · refine ⟨?_, K15⟩
        rw [ht, decide_eq_true h1, decide_eq_true h2]; rfl
      · refine ⟨?_, K15⟩
        rw [ht, decide_eq_false h2]; simp
    · refine cond_f (by simp; omega) ⟨?_, K15⟩
      rw [ht, decide_eq_false h1]; simp
  clear_value K23
  refine ⟨by omega, by omega, str s.a, b15.cell 0, ?_⟩
  rw [str_none, str_1, str_two, beq_strD]
  refine cond_d (fun h0 => fin true (by rw [h0]; rfl)) (fun h0 => ?_)
  refine ⟨by omega, by omega, str s.a, b15.cell 0, ?_⟩
  rw [beq_strD]
  refine cond_d (fun h1 => fin true (by rw [h1]; rfl)) (fun h1 => ?_)
  refine ⟨by omega, by omega, str s.a, b15.cell 0, ?_⟩
  rw [beq_strD]
  refine fin _ ?_
  unfold tidyW
  rw [decide_eq_false h0, decide_eq_false h1]; simp

theorem opened_spec {w : World} (hO : Old w) (s : Fs) (hs : s.small) : Calls Try.prog 48 #[fsV s] w fun e v => ∃ (g1 : Option Addr) (g2 g3 : Nat), e = .returned (.tuple #[fsV s.opened, .slice g1 g2 g3]) ∧ Keep no w v ∧ v.ownsRow w.heap.size 57 5 (.slice g1 g2 g3) g2 (opl (scan (s.get (nmF s.a))).1) := by
  refine c48 ?_
  unfold sh48
  intro p4 w5 p6 w7
  have b4 : Bk w7 p4 (fsC s) 77 := (Bk.new w _ _).alloc _
  have b6 : Bk w7 p6 (fsC ⟨[], [], []⟩) 77 := Bk.new w5 _ _
  have k7 : Keep no w w7 := (Keep.alloc _ _ _).then (Keep.alloc _ _ _)
  have h4 : w.heap.size ≤ p4 := Nat.le_refl _
  have h6 : w.heap.size ≤ p6 := by show w.heap.size ≤ w5.heap.size; simp [w5]
  have h46 : p4 ≠ p6 := by show w.heap.size ≠ w5.heap.size; simp [w5]
  clear_value p4 w5 p6 w7
  have hf := nmF_two s.a
  have n3 := three_sub hf
  refine ⟨by omega, by omega, str s.a, b4.cell 0, ?_⟩
  refine (file_spec w7 s.a).mono ?_
  rintro e w10 ⟨rfl, rfl⟩
  generalize hff : nmF s.a = f at hf n3
  refine ⟨f, rfl, by omega, by omega, str (s.get f), by rw [Int.toNat_natCast]; exact fsCell b4 (by omega), ?_⟩
  have hsm := hs.get f
  refine rw_bytes (hO.up k7) (by omega) fun a n c w14 hr k14 => ?_
  have hcnt := scan_count (s.get f)
  have hsc := (scan_is _ (s.get f) (Nat.le_refl _)).2.2.1
  have hn : n = (s.get f).length := by have := hr.1; simp at this; exact this.symm
  refine (RScan_spec hr (by omega) (by omega)).mono ?_
  rintro e w17 ⟨⟨t1, t2, t3⟩, rfl, k17, hot, _⟩
  refine ⟨t1, t2, t3, _, rfl, ?_⟩
  have b17 := b4.no (k14.then k17)
  have c17 := b6.no (k14.then k17)
  have K17 := (k7.then k14).then k17
  refine ⟨by omega, by omega, str (s.get f), by rw [Int.toNat_natCast]; exact fsCell b17 (by omega), by omega, by rw [str_size]; omega, by omega, by omega, ?_⟩
  rw [Int.toNat_natCast f, Int.toNat_natCast (scan (s.get f)).2, str_take]
  obtain ⟨d1, d2, d3⟩ := fsSet b17 (i := f) (by omega) ((s.get f).take (scan (s.get f)).2)
  refine ⟨d1, ?_⟩
  intro w21
  rw [n3]
  refine ⟨by omega, by omega, ?_⟩
  rw [Int.toNat_natCast (3 - f)]
  have b21 : Bk w21 p4 (fsC (s.set f ((s.get f).take (scan (s.get f)).2))) 77 := d2
  have k21 : Keep (is p4) w17 w21 := d3
  clear_value w21
  obtain ⟨e1, e2, e3⟩ := fsSet b21 (i := 3 - f) (by omega) []
  rw [str_none]
  refine ⟨e1, ?_⟩
  intro w22
  have b22 : Bk w22 p4 (fsC ((s.set f ((s.get f).take (scan (s.get f)).2)).set (3 - f) [])) 77 := e2
  have k22 : Keep (is p4) w21 w22 := e3
  clear_value w22
  generalize hT : (s.set f ((s.get f).take (scan (s.get f)).2)).set (3 - f) [] = T at b22
  have hTa : T.a = s.a := by rw [← hT, set_a _ (by omega), set_a _ hf]
  have K22 : Keep (is p4) w17 w22 := k21.then k22
  have hot22 : w22.ownsRow w14.heap.size 57 5 (.slice t1 t2 t3) t2 (opl (scan (s.get f)).1) := own_S (n := t2) hot K22 fun b hb hb2 => by
    obtain rfl : b = p4 := hb2
    exact absurd ((ty_lt (n := t2) hot hb).2.2.uniq b17.ty) (by decide)
  have hop : s.opened = if s.a = [1] ∨ s.a = [2] then T else T.set 0 [] := by unfold Fs.opened; rw [hff, ← hT]
  intro K30
  have fin : ∀ (v : World) (T' : Fs), Bk v p4 (fsC T') 77 → Keep (is p4) w22 v → T' = s.opened → K30 v := by
    intro v T' hB kv hT'
    have K : Keep (is p4) w17 v := K22.then kv
    have hc : Bk v p6 _ 77 := c17.keep K fun hb => h46 hb.symm
    obtain ⟨f1, f2, f3⟩ := fin3 (a := .string (str T'.a)) (b := .string (str T'.b)) (c := .string (str T'.c)) hc rfl
    refine ⟨_, _, _, hB.cell 0, hB.cell 1, hB.cell 2, f1, _, _, _, f2.cell 0, f2.cell 1, f2.cell 2, t1, t2, t3, by rw [hT'], ?_, ?_⟩
    · exact (K17.new K (by rintro z rfl; exact h4)).new f3 (by rintro z rfl; exact h6)
    · have ho2 : v.ownsRow w14.heap.size 57 5 (.slice t1 t2 t3) t2 (opl (scan (s.get f)).1) := own_S hot22 kv fun b hb hb2 => by
        obtain rfl : b = p4 := hb2
        exact absurd ((ty_lt hot22 hb).2.2.uniq b22.ty) (by decide)
      have ho3 := own_S ho2 f3 fun b hb hb2 => by
        obtain rfl : b = p6 := hb2
        exact absurd ((ty_lt ho2 hb).2.2.uniq hc.ty) (by decide)
      refine ⟨ho3.1, ?_⟩
      rcases ho3.2 with g | ⟨g, cap, cur, g1, g2, g3⟩
      · exact .inl g
      · exact .inr ⟨g, cap, cur, g1, Nat.le_trans (k7.then k14).size g2, g3⟩
  clear_value K30
  intro K27
  have f27 : ∀ b, (b = true ↔ ¬ (s.a = [1] ∨ s.a = [2])) → K27 b w22 := by
    intro b hb
    refine cond_i (fun ht => ?_) (fun ht => ?_)
    · refine ⟨by omega, by omega, ?_⟩
      obtain ⟨g1, g2, g3⟩ := fsSet b22 (i := 0) (by omega) []
      rw [addP] at g1 g2 g3
      refine ⟨g1, ?_⟩
      exact fin _ _ g2 g3 (by rw [hop, if_neg (hb.1 ht)])
    · refine fin _ _ b22 (Keep.refl _ _) ?_
      rw [hop, if_pos]
      apply Classical.byContradiction
      intro hh
      rw [hb.2 hh] at ht; cases ht
  clear_value K27
  refine ⟨by omega, by omega, str T.a, b22.cell 0, ?_⟩
  rw [hTa, str_1, beq_strD]
  by_cases h1 : s.a = [1]
  · rw [decide_eq_true h1]
    exact cond_f rfl (f27 false (by simp [h1]))
  · rw [decide_eq_false h1]
    refine cond_t rfl ⟨by omega, by omega, str T.a, b22.cell 0, ?_⟩
    rw [hTa, str_two, beq_strD]
    exact f27 _ (by simp [h1])

theorem app_spec {w : World} (s : Fs) (hs : s.small) {o : Op} (ho : o.fit) : Calls Try.prog 62 #[fsV s, opV o] w fun e v => e = .returned (.tuple #[fsV (s.app o).1, .int .i64 (s.app o).2]) ∧ Keep no w v := by
  refine c62 ?_
  unfold sh62
  intro p9 w10 p11 w12 p13 w14
  have b9 : Bk w14 p9 (fsC s) 77 := ((Bk.new w _ _).alloc _).alloc _
  have b11 : Bk w14 p11 (opC o) 57 := (Bk.new w10 _ _).alloc _
  have b13 : Bk w14 p13 (fsC ⟨[], [], []⟩) 77 := Bk.new w12 _ _
  have k14 : Keep no w w14 := ((Keep.alloc _ _ _).then (Keep.alloc _ _ _)).then (Keep.alloc _ _ _)
  have h9 : w.heap.size ≤ p9 := Nat.le_refl _
  have h13 : w.heap.size ≤ p13 := by
    have e1 : w.heap.size ≤ w10.heap.size := by simp [w10]
    have e2 : w10.heap.size ≤ w12.heap.size := by simp [w12]
    exact Nat.le_trans e1 e2
  have h913 : p9 ≠ p13 := by
    show w.heap.size ≠ w12.heap.size
    simp [w12, w10]
    omega
  clear_value p9 w10 p11 w12 p13 w14
  refine ⟨_, _, _, _, _, b11.cell 0, b11.cell 1, b11.cell 2, b11.cell 3, b11.cell 4, ?_⟩
  refine (plainE w14 o).mono ?_
  rintro e w21 ⟨k21, y, cd, rfl, hcd⟩
  refine ⟨_, _, _, _, _, _, rfl, ?_⟩
  obtain ⟨g1, g2, g3⟩ := opNew w21 y
  intro p28 w29
  refine ⟨g1, ?_⟩
  intro w30
  have b30 : Bk w30 p28 (opC y) 57 := g2
  have k30 : Keep no w21 w30 := g3
  clear g1 g2 g3
  clear_value p28 w29 w30
  have k30' := k21.then k30
  -- the files are copied
  have out : ∀ (v : World) (T : Fs) (code : Int), Bk v p9 (fsC T) 77 → Bk v p13 (fsC ⟨[], [], []⟩) 77 → Keep no w v → (T, code) = s.app o →
      wrN v ⟨p13, 0, none⟩ 3 ∧ ∃ (s65 : ByteArray), ∃ (s66 : ByteArray), ∃ (s67 : ByteArray), (setN ⟨p13, 0, none⟩ 0 [.string (str T.a), .string (str T.b), .string (str T.c)] v).cell? (⟨p13, 0, none⟩ : Addr) = some (.string s65) ∧ (setN ⟨p13, 0, none⟩ 0 [.string (str T.a), .string (str T.b), .string (str T.c)] v).cell? (⟨p13, 1, none⟩ : Addr) = some (.string s66) ∧ (setN ⟨p13, 0, none⟩ 0 [.string (str T.a), .string (str T.b), .string (str T.c)] v).cell? (⟨p13, 2, none⟩ : Addr) = some (.string s67) ∧
        (Ending.returned (.tuple #[.agg #[.string s65, .string s66, .string s67], .int .i64 code]) = .returned (.tuple #[fsV (s.app o).1, .int .i64 (s.app o).2]) ∧ Keep no w (setN ⟨p13, 0, none⟩ 0 [.string (str T.a), .string (str T.b), .string (str T.c)] v)) := by
    intro v T code hB hB13 kv hT
    obtain ⟨f1, f2, f3⟩ := fin3 (a := .string (str T.a)) (b := .string (str T.b)) (c := .string (str T.c)) hB13 rfl
    exact ⟨f1, _, _, _, f2.cell 0, f2.cell 1, f2.cell 2, by rw [← hT], kv.new f3 (by rintro z rfl; exact h13)⟩
  have c9 := b9.no k30'
  have c13 := b13.no k30'
  have K30 := k14.then k30'
  rcases hcd with ⟨rfl, hp⟩ | ⟨rfl, hp⟩
  · refine cond_f rfl ?_
    have hyp := (enc_plain o).1 y hp
    have hyf := plain_fit ho hp
    have hf := nmF_two s.a
    have her := er_len hyp.2.2.2
    refine ⟨by omega, by omega, str s.a, c9.cell 0, ?_⟩
    refine (file_spec w30 s.a).mono ?_
    rintro e w37 ⟨rfl, rfl⟩
    generalize hff : nmF s.a = f at hf
    have hsm := hs.get f
    refine ⟨_, rfl, ?_⟩
    intro w39
    have k39 : Keep no w37 w39 := Keep.drew _ _
    clear_value w39
    have d9 := c9.no k39
    have d28 := b30.no k39
    refine ⟨by omega, by omega, str (s.get f), by rw [Int.toNat_natCast]; exact fsCell d9 (by omega), ?_⟩
    refine ⟨_, _, _, _, _, d28.cell 0, d28.cell 1, d28.cell 2, d28.cell 3, d28.cell 4, ?_⟩
    refine (EncodeR_spec w39 hyf hyp.2.2.2).mono ?_
    rintro e w47 ⟨t, rfl, k47, hot⟩
    have hot' : w47.ownsRow w39.heap.size 5 1 t.v t.n (bvs (er y)) := hot
    have e9 := d9.no k47
    have e13 := (c13.no k39).no k47
    have K47 := (K30.then k39).then k47
    refine ⟨_, _, _, rfl, ⟨str (s.get f), by rw [Int.toNat_natCast]; exact fsCell e9 (by omega), rfl⟩, ?_⟩
    refine rw_str Try.underlying36 Try.underlying5 Try.underlying9 (Rd.own0 hot') ?_
    rw [str_app, str_size, str_size, str_size]
    refine ⟨by omega, ?_⟩
    have hap : s.app o = if 32768 < (s.get f ++ er y).length then (s, 181) else (s.set f (s.get f ++ er y), 0) := by unfold Fs.app; rw [hp]; simp only; rw [hff]
    refine cond_d (fun hbig => ?_) (fun hsm2 => ?_)
    · refine ⟨_, _, _, e9.cell 0, e9.cell 1, e9.cell 2, ?_⟩
      exact out w47 s 181 e9 e13 K47 (by rw [hap, if_pos (by omega)])
    · refine ⟨by omega, by omega, ?_⟩
      rw [Int.toNat_natCast f]
      obtain ⟨d1, d2, d3⟩ := fsSet e9 (i := f) (by omega) (s.get f ++ er y)
      refine ⟨d1, ?_⟩
      refine ⟨_, _, _, d2.cell 0, d2.cell 1, d2.cell 2, ?_⟩
      exact out _ (s.set f (s.get f ++ er y)) 0 d2 (e13.keep d3 fun hb => h913 hb.symm) (K47.new d3 (by rintro z rfl; exact h9)) (by rw [hap, if_neg (by omega)])
  · refine cond_t rfl ⟨_, _, _, c9.cell 0, c9.cell 1, c9.cell 2, ?_⟩
    exact out w30 s 190 c9 c13 K30 (by unfold Fs.app; rw [hp])

/-- The records of plain operations, as a text. -/
theorem bytes_spec {w : World} {base : Nat} {a : Option Addr} {n c : Nat} {ys : List Op} (h : w.ownsRow base 57 5 (.slice a n c) n (opl ys)) (hp : Pl ys) (hn : n ≤ 1000000) : Calls Try.prog 95 #[.slice a n c] w fun e v => e = .returned (.string (str (recs ys))) ∧ Keep no w v := by
  have hny := opl_nx h
  refine c95 ?_
  unfold sh95
  refine ⟨fun vs v => ∃ (i : Nat) (b1 : Option Addr) (b2 b3 : Nat), vs = [.slice b1 b2 b3, .int .i64 i] ∧ i ≤ n ∧ v.ownsRow w.heap.size 5 1 (.slice b1 b2 b3) b2 (bvs (recs (ys.take i))) ∧ Keep no w v,
    fun vs v => match vs with | [_, .int _ i] => n - i.toNat | _ => 0, ⟨0, none, 0, 0, rfl, by omega, World.ownsRow_nil _ _ _ _, Keep.refl _ _⟩, ?_⟩
  rintro w4 b1 b2 b3 i3 ⟨i, x1, x2, x3, hv, hi, hob, k4⟩
  cases hv
  have hpi : Pl (ys.take i) := fun z hz => hp z (List.mem_of_mem_take hz)
  have hb2 : b2 = (recs (ys.take i)).length := by have := hob.1; simp at this; exact this.symm
  have hrl := recs_len hpi
  rw [List.length_take] at hrl
  refine cond_d (fun hlt => ?_) (fun hge => ?_)
  · have hi' : i < ys.length := by omega
    obtain ⟨qz, hqz, z1, z2, o0, o1, o2, o3, o4⟩ := opCell (Rd.own0 (own_no' h k4)) hi'
    have hgt : ys.take (i + 1) = ys.take i ++ [ys[i]] := List.take_succ_eq_append_getElem hi'
    have hxf := hp ys[i] (List.getElem_mem hi')
    generalize ys[i] = x at o0 o1 o2 o3 o4 hgt hxf
    refine ⟨qz, hqz, z1, z2, _, _, _, _, _, o0, o1, o2, o3, o4, ?_⟩
    refine (EncodeR_spec w4 hxf.1 hxf.2).mono ?_
    rintro e w14 ⟨t, rfl, k14, hot⟩
    have hot' : w14.ownsRow w4.heap.size 5 1 t.v t.n (bvs (er x)) := hot
    have htn : t.n = (er x).length := by have := hot'.1; simp at this; exact this.symm
    have her := er_len hxf.2
    refine ⟨_, _, _, rfl, ?_⟩
    refine app5 (own_no' hob k14) (Rd.own0 hot') (by omega) (k4.then k14).size (Nat.le_refl _) (k4.then k14) fun a18 c18 w17 o17 k17 _ => ?_
    have ei : IntKind.i64.wrap ((i : Int) + 1) = ((i + 1 : Nat) : Int) := by rw [IntWalk.i64_in _ ⟨by omega, by omega⟩]; rfl
    rw [ei]
    refine ⟨⟨i + 1, a18, _, c18, rfl, by omega, ?_, k17⟩, ?_⟩
    · rw [hgt, recs_append]; simpa [recs] using o17
    · show n - ((i + 1 : Nat) : Int).toNat < n - (i : Int).toNat
      omega
  · rw [List.take_of_length_le (by omega)] at hob
    refine rw_str Try.underlying36 Try.underlying5 Try.underlying9 (Rd.own0 hob) ?_
    exact ⟨rfl, k4⟩
end
end Go.Proofs.Ytmfidfaiopogbaa
