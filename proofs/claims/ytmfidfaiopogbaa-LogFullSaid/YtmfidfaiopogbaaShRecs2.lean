/- The reference's list of records; an own row's elements are written over. -/
import Derived.Test.YtmfidfaiopogbaaShP10
set_option linter.unusedVariables false
set_option linter.unusedSimpArgs false
set_option linter.unusedSectionVars false
set_option maxRecDepth 4000
namespace Go.Proofs.Ytmfidfaiopogbaa
open Go Go.Sh

/-- Cells of an own row are written, several at once. -/
theorem own_cells {w : World} {base e sz n c : Nat} {a : Option Addr} {xs : List Value} (h : w.ownsRow base e sz (.slice a n c) n xs) {i : Nat} (hi : i < n) (hs : 0 < sz) (vs : List Value) (hv : vs.length = sz) :
    ∃ q, a = some q ∧ wrN w (q.add (i * sz)) sz ∧ (∃ ys, (setN (q.add (i * sz)) 0 vs w).ownsRow base e sz (.slice a n c) n ys) ∧ Keep (OB a) w (setN (q.add (i * sz)) 0 vs w) := by
  rcases h.2 with ⟨h1, h2⟩ | ⟨g, cap, cur, h1, hg0, hg, hn, hm, hsz, ht⟩
  · omega
  · simp only [Value.slice.injEq] at h1
    obtain ⟨rfl, _, rfl⟩ := h1
    have hB : Bk w g cur e := hg
    have hle : i * sz + sz ≤ c * sz := by rw [← Nat.succ_mul]; exact Nat.mul_le_mul_right _ (by omega)
    refine ⟨⟨g, 0, none⟩, rfl, ?_, ?_, setN_keep (S := OB (some ⟨g, 0, none⟩)) (by rw [addP]; exact ⟨_, rfl, rfl⟩) _ _ _⟩
    · rw [addP, Nat.zero_add]; exact hB.wrN (by rw [hsz]; exact hle)
    · rw [addP, Nat.zero_add]
      have key : ∀ (us : List Value) (j : Nat) (v : World) (C : Array Value), Bk v g C e → C.size = c * sz → ∃ C', Bk (setN ⟨g, i * sz, none⟩ j us v) g C' e ∧ C'.size = c * sz := by
        intro us
        induction us with
        | nil => intro j v C hb hc; exact ⟨C, hb, hc⟩
        | cons u us ih =>
          intro j v C hb hc
          have := hb.set (i * sz + j) u
          rw [← addP] at this
          exact ih (j + 1) _ _ this (by simpa using hc)
      obtain ⟨C', hb, hc⟩ := key vs 0 w cur hB hsz
      refine ⟨C'.toList.take (n * sz), ?_, .inr ⟨g, c, C', rfl, hg0, hb, hn, hm, hc, rfl⟩⟩
      rw [List.length_take, Array.length_toList, hc]
      exact Nat.min_eq_left (Nat.mul_le_mul_right _ hn)
/-- What Scan takes is the records of what it answers; what it leaves begins with none. -/
theorem scan_is : ∀ (m : Nat) (l : Bs), l.length ≤ m → Pl (scan l).1 ∧ l.take (scan l).2 = recs (scan l).1 ∧ (scan l).2 ≤ l.length ∧ scan (l.drop (scan l).2) = ([], 0) := by
  intro m
  induction m with
  | zero =>
    intro l hl
    have : l = [] := List.eq_nil_of_length_eq_zero (by omega)
    subst this
    rw [scan_none (b := []) rfl]
    exact ⟨fun y hy => by simp at hy, rfl, by simp, scan_none (b := []) rfl⟩
  | succ m ih =>
    intro l hl
    cases hd : dec l with
    | none =>
      rw [scan_none hd]
      exact ⟨fun y hy => by simp at hy, rfl, by simp, by rw [List.drop_zero]; exact scan_none hd⟩
    | some v =>
      obtain ⟨y, n⟩ := v
      have hdl := dec_len hd
      obtain ⟨L, hL, hLn⟩ := dec_some hd
      obtain ⟨i1, i2, i3, i4⟩ := ih (l.drop n) (by rw [List.length_drop]; omega)
      rw [scan_some hd]
      rw [List.length_drop] at i3
      refine ⟨?_, ?_, by simp only; omega, ?_⟩
      · intro z hz
        rcases List.mem_cons.1 hz with rfl | hz
        · exact ⟨hL.1, hL.2.1⟩
        · exact i1 z hz
      · have h1 : L = l.take n := by rw [← hLn]; exact (front_self hL).2
        have h2 : er y = L := by
          have := hL.2.2.1
          rw [enc_is hL.2.1] at this
          exact Option.some.inj this
        simp only [recs]
        rw [h2, h1, ← i2, List.take_add]
      · simp only
        rw [← List.drop_drop]
        exact i4
theorem scan_count (l : Bs) : (scan l).1.length * 4 ≤ l.length := by
  obtain ⟨h1, h2, h3, _⟩ := scan_is l.length l (Nat.le_refl _)
  have : ∀ ys : List Op, Pl ys → ys.length * 4 ≤ (recs ys).length := by
    intro ys h
    induction ys with
    | nil => simp
    | cons y r ih =>
      have a := (er_len (h y (List.mem_cons_self ..)).2).1
      have b := ih fun z hz => h z (List.mem_cons_of_mem _ hz)
      simp only [recs, List.length_cons, List.length_append]
      omega
  have := this _ h1
  rw [← h2, List.length_take] at this
  omega
theorem ty_lt {w : World} {lo e sz n n' c : Nat} {a : Option Addr} {cs : List Value} (h : w.ownsRow lo e sz (.slice a n' c) n cs) {b : Nat} (hb : OB a b) : b < w.heap.size ∧ lo ≤ b ∧ TyB w b e := by
  have hn : n = n' := by
    rcases h.2 with ⟨h2, h3⟩ | ⟨g, cap, cur, h2, _⟩
    · cases h2; exact h3
    · cases h2; rfl
  subst hn
  have := own_ty (q := ⟨a, n, c⟩) h hb
  exact ⟨this.1.lt, this.2, this.1⟩
theorem own_S {w w' : World} {lo e sz n n' c : Nat} {a : Option Addr} {cs : List Value} {S : Nat → Prop} (h : w.ownsRow lo e sz (.slice a n' c) n cs) (k : Keep S w w') (hS : ∀ b, OB a b → ¬ S b) : w'.ownsRow lo e sz (.slice a n' c) n cs := by
  refine own_keep h k fun b hb => ?_
  cases a with
  | none => cases hb
  | some x => exact hS b ⟨x, rfl, by simpa [Value.ownBlock] using hb⟩
section
variable [Av]
theorem Records_spec {w : World} {n c : Nat} {a : Option Addr} {xs : List Op} (h : Rd w 0 5 a n c (opl xs)) (hf : ∀ x ∈ xs, x.fit) (hsz : n * 40 ≤ 140737488351232) :
    Calls Try.prog 43 #[.slice a n c] w fun e w' => ∃ (s1 : Option Addr) (s2 s3 : Nat) (t1 : Option Addr) (t2 t3 : Nat) (u1 : Option Addr) (u2 u3 : Nat), e = .returned (.tuple #[.slice s1 s2 s3, .slice t1 t2 t3, .slice u1 u2 u3]) ∧ Keep no w w' ∧
      w'.ownsRow w.heap.size 5 1 (.slice s1 s2 s3) s2 (bvs (recs (goods xs))) ∧ w'.ownsRow w.heap.size 57 5 (.slice t1 t2 t3) t2 (opl (goods xs)) := by
  have hnx := op_n h
  refine c43 ?_
  unfold sh43
  refine ⟨fun vs v => ∃ (i : Nat) (b1 : Option Addr) (b2 b3 : Nat) (g1 : Option Addr) (g2 g3 : Nat) (e1 : Option Addr) (e2 e3 : Nat) (es : List Nat), vs = [.slice b1 b2 b3, .slice g1 g2 g3, .slice e1 e2 e3, .int .i64 i] ∧ i ≤ n ∧
      v.ownsRow w.heap.size 5 1 (.slice b1 b2 b3) b2 (bvs (recs (goods (xs.take i)))) ∧ v.ownsRow w.heap.size 57 5 (.slice g1 g2 g3) g2 (opl (goods (xs.take i))) ∧ v.ownsRow w.heap.size 3 1 (.slice e1 e2 e3) e2 (ints es) ∧
      es.length = (goods (xs.take i)).length ∧ Keep no w v,
    fun vs v => match vs with | [_, _, _, .int _ i] => n - i.toNat | _ => 0,
    ⟨0, none, 0, 0, none, 0, 0, none, 0, 0, [], rfl, by omega, World.ownsRow_nil _ _ _ _, World.ownsRow_nil _ _ _ _, World.ownsRow_nil _ _ _ _, rfl, Keep.refl _ _⟩, ?_⟩
  rintro w6 b1 b2 b3 g1 g2 g3 e1 e2 e3 n5 ⟨i, x1, x2, x3, y1, y2, y3, z1, z2, z3, es, hv, hi, hob, hog, hoe, hel, k6⟩
  cases hv
  have hpl := goods_fit hf i
  have hb2 : b2 = (recs (goods (xs.take i))).length := by have := hob.1; simp at this; exact this.symm
  have hg2 : g2 = (goods (xs.take i)).length := by have := hog.1; rw [opl_length] at this; omega
  have he2 : e2 = es.length := by have := hoe.1; simp [ints] at this; exact this.symm
  have hrl := recs_len hpl
  have hgl : (goods (xs.take i)).length ≤ i := Nat.le_trans (goods_len _) (by rw [List.length_take]; omega)
  refine cond_d (fun hlt => ?_) (fun hge => ?_)
  · have hi' : i < xs.length := by omega
    obtain ⟨_, q, hq, c0, c1, c2, c3, c4⟩ := rd_op (h.no k6) hi'
    have hgt := goods_take xs i hi'
    have hxf := hf xs[i] (List.getElem_mem hi')
    generalize xs[i] = x at c0 c1 c2 c3 c4 hgt hxf
    refine ⟨q, hq, by omega, by omega, x.k, x.e, x.u, x.v, x.b, by rw [Int.toNat_natCast]; exact c0, by rw [Int.toNat_natCast]; exact c1, by rw [Int.toNat_natCast]; exact c2, by rw [Int.toNat_natCast]; exact c3, by rw [Int.toNat_natCast]; exact c4, ?_⟩
    refine (Plain_spec w6 x).mono ?_
    rintro e w16 ⟨k16, hpl16⟩
    have ei : IntKind.i64.wrap ((i : Int) + 1) = ((i + 1 : Nat) : Int) := by rw [IntWalk.i64_in _ ⟨by omega, by omega⟩]; rfl
    rw [ei]
    have hmu : n - ((i + 1 : Nat) : Int).toNat < n - (i : Int).toNat := by omega
    obtain ⟨y, code, rfl, hcode⟩ : ∃ (y' : Op) (code : Int), e = .returned (.tuple #[opV y', .int .i64 code]) ∧ ((code = 0 ∧ plain x = some y') ∨ (code = 190 ∧ plain x = none)) := by
      rcases hpl16 with ⟨hp, z', he⟩ | ⟨y', hp, he⟩
      · exact ⟨z', _, he, .inr ⟨rfl, hp⟩⟩
      · exact ⟨y', _, he, .inl ⟨rfl, hp⟩⟩
    refine ⟨_, _, _, _, _, _, rfl, ?_⟩
    intro p23 w24
    have b24 : Bk w24 p23 #[.int .i64 0, .int .i64 0, .int .i64 0, .int .i64 0, .int .u32 0] 57 := Bk.new w16 _ _
    have k24 : Keep no w16 w24 := Keep.alloc _ _ _
    have h23 : w16.heap.size ≤ p23 := Nat.le_refl _
    clear_value p23 w24
    obtain ⟨f1, f2, f3⟩ := fin5 (a := .int .i64 y.k) (b := .int .i64 y.e) (c := .int .i64 y.u) (d := .int .i64 y.v) (e := .int .u32 y.b) b24 rfl
    refine ⟨f1, ?_⟩
    intro w25
    have b25 : Bk w25 p23 (opC y) 57 := f2
    have k25 : Keep no w6 w25 := k16.then (k24.new f3 (by rintro z rfl; exact h23))
    clear_value w25
    rcases hcode with ⟨rfl, hp⟩ | ⟨rfl, hp⟩
    · refine cond_t rfl ?_
      refine ⟨_, _, _, _, _, b25.cell 0, b25.cell 1, b25.cell 2, b25.cell 3, b25.cell 4, ?_⟩
      have hyp := (enc_plain x).1 y hp
      have hyf := plain_fit hxf hp
      refine (EncodeR_spec w25 hyf hyp.2.2.2).mono ?_
      rintro e w32 ⟨s, rfl, k32, hos⟩
      refine ⟨_, _, _, rfl, ?_⟩
      rw [hp] at hgt
      simp only [Option.toList_some] at hgt
      have her := er_len hyp.2.2.2
      have hos' : w32.ownsRow w25.heap.size 5 1 s.v s.n (bvs (er y)) := hos
      have hsn : s.n = (er y).length := by have := hos'.1; simp at this; exact this.symm
      have K32 := k25.then k32
      have hob32 := own_no' hob K32
      have hog32 := own_no' hog K32
      have hoe32 := own_no' hoe K32
      refine app5 hob32 (Rd.own0 hos') (by omega) (k6.then K32).size (Nat.le_refl _) (k6.then K32) fun a36 c36 w35 o35 k35 kk35 => ?_
      have og35 := own_other hog32 hob32 kk35 (by decide)
      have oe35 := own_other hoe32 hob32 kk35 (by decide)
      have b35 : Bk w35 p23 (opC y) 57 := bk5 hob32 kk35 (b25.no k32) (by decide)
      refine ⟨_, _, _, _, _, b35.cell 0, b35.cell 1, b35.cell 2, b35.cell 3, b35.cell 4, ?_⟩
      intro p42 w43
      have b43 : Bk w43 p42 (opC y) 57 := Bk.new w35 _ _
      have k43 : Keep no w35 w43 := Keep.alloc _ _ _
      clear_value p42 w43
      have og43 := own_no' og35 k43
      refine rw_append E64 og43 (Rd.blk0 (sz := 5) (n := 1) b43 rfl (by simp [maxLen])) (by simp [one1]) (by omega) (by simp only [maxLen]; omega) (k35.then k43).size fun a46 c46 w45 o45 k45 _ => ?_
      have ob45 := own_other (own_no' o35 k43) og43 k45 (by decide)
      have oe45 := own_other (own_no' oe35 k43) og43 k45 (by decide)
      have K45 : Keep no w w45 := (k35.then k43).new k45 fun z hz => (own_ty (q := ⟨g1, g2, g3⟩) og43 hz).2
      intro p47 w48
      have b48 : Bk w48 p47 #[.int .i64 ((b2 + s.n : Nat) : Int)] 3 := Bk.new w45 _ _
      have k48 : Keep no w45 w48 := Keep.alloc _ _ _
      clear_value p47 w48
      have oe48 := own_no' oe45 k48
      refine rw_append E69 oe48 (Rd.blk0 (sz := 1) (n := 1) b48 rfl (by simp [maxLen])) (by simp [one1]) (by omega) (by simp only [maxLen]; omega) (K45.then k48).size fun a51 c51 w50 o50 k50 _ => ?_
      have hob50 := own_other (own_no' ob45 k48) oe48 k50 (by decide)
      have hog50 := own_other (own_no' o45 k48) oe48 k50 (by decide)
      have hrr : recs (goods (xs.take i) ++ [y]) = recs (goods (xs.take i)) ++ er y := by rw [recs_append]; simp [recs]
      refine ⟨⟨i + 1, a36, _, c36, a46, _, c46, a51, _, c51, es ++ [b2 + s.n], rfl, by omega, ?_⟩, hmu⟩
      rw [hgt]
      exact ⟨by rw [hrr]; exact hob50, by rw [opl_append]; exact hog50, by simpa [ints] using o50, by simp [hel], (K45.then k48).new k50 fun z hz => (own_ty (q := ⟨e1, e2, e3⟩) oe48 hz).2⟩
    · refine cond_f rfl ⟨⟨i + 1, b1, b2, b3, g1, g2, g3, e1, e2, e3, es, rfl, by omega, ?_⟩, hmu⟩
      rw [hp] at hgt
      simp only [Option.toList_none, List.append_nil] at hgt
      rw [hgt]
      exact ⟨own_no' hob k25, own_no' hog k25, own_no' hoe k25, hel, k6.then k25⟩
  · rw [List.take_of_length_le (by omega)] at hob hog
    exact ⟨_, _, _, _, _, _, _, _, _, rfl, k6, hob, hog⟩
end
end Go.Proofs.Ytmfidfaiopogbaa
