/- What DiskLoads answers. -/
import Derived.Test.YtmfidfaiopogbaaShLoad
import Derived.Test.YtmfidfaiopogbaaShP5
import Derived.Test.YtmfidfaiopogbaaShL13
set_option linter.unusedVariables false
set_option linter.unusedSimpArgs false
set_option linter.unusedSectionVars false
set_option maxRecDepth 4000
namespace Go.Proofs.Ytmfidfaiopogbaa
open Go Go.Sh Go.ChangeShapes Go.WideShapes Go.ChangeAt Go.RowKit

theorem Sv.inj {a b : Sv} (h : a.v = b.v) : a = b := by
  obtain ⟨a1, a2, a3⟩ := a
  obtain ⟨b1, b2, b3⟩ := b
  simp only [Value.slice.injEq] at h
  obtain ⟨rfl, rfl, rfl⟩ := h
  rfl
/-- Copies of files, each in its own memory. -/
def FO (w : World) (base : Nat) (cs : List Value) (Ls : List Bs) : Prop := cs.length = Ls.length ∧ ∀ (i : Nat) (u : Value), cs[i]? = some u → ∃ b : Sv, u = b.v ∧ w.ownsRow base 5 1 b.v b.n (bvs (Ls.getD i [])) ∧ b.n ≤ 140737488355328
theorem FO.keep {w w' : World} {base : Nat} {cs : List Value} {Ls : List Bs} {S : Nat → Prop} (h : FO w base cs Ls) (k : Keep S w w') (hS : ∀ b, S b → ¬ TyB w b 5) : FO w' base cs Ls := by
  refine ⟨h.1, fun i u hu => ?_⟩
  obtain ⟨b, hb, ho, hn⟩ := h.2 i u hu
  refine ⟨b, hb, own_keep ho k fun z hz hs => hS z hs ?_, hn⟩
  cases ha : b.a with
  | none => rw [Sv.v, ha] at hz; cases hz
  | some y => rw [Sv.v, ha] at hz; simp only [Value.ownBlock, Option.some.injEq] at hz; exact (own_block ho ⟨y, ha, hz⟩).2
theorem FO.push {w : World} {base : Nat} {cs : List Value} {Ls : List Bs} (h : FO w base cs Ls) {b : Sv} {l : Bs} (ho : w.ownsRow base 5 1 b.v b.n (bvs l)) (hn : b.n ≤ 140737488355328) : FO w base (cs ++ [b.v]) (Ls ++ [l]) := by
  refine ⟨by simp [h.1], fun i u hu => ?_⟩
  rw [List.getElem?_append] at hu
  split at hu
  · rename_i hi
    obtain ⟨b', hb, ho', hn'⟩ := h.2 i u hu
    refine ⟨b', hb, ?_, hn'⟩
    rw [List.getD_eq_getElem?_getD, List.getElem?_append_left (by rw [← h.1]; exact hi), ← List.getD_eq_getElem?_getD]
    exact ho'
  · rename_i hi
    have h0 : i - cs.length = 0 := by
      rcases Nat.eq_zero_or_pos (i - cs.length) with h0 | h0
      · exact h0
      · rw [List.getElem?_eq_none (by simp; omega)] at hu; cases hu
    rw [h0] at hu
    simp at hu
    refine ⟨b, hu.symm, ?_, hn⟩
    have : i = Ls.length := by rw [← h.1]; omega
    subst this
    simpa using ho
/-- An own row stays one, whatever cell is written. -/
theorem own_any {w : World} {base n c : Nat} {a : Option Addr} {xs : List Value} (h : w.ownsRow base 5 1 (.slice a n c) n xs) (q : Addr) (v : Value) : ∃ xs', (w.setCell q v).ownsRow base 5 1 (.slice a n c) n xs' := by
  rcases h.2 with ⟨h1, h2⟩ | ⟨g, cap, cur, h1, hg0, hg, hn, hm, hs, ht⟩
  · exact ⟨xs, h.1, .inl ⟨h1, h2⟩⟩
  · by_cases hq : q.block = g
    · obtain ⟨qb, qo, qs⟩ := q
      simp only at hq; subst hq
      have : ∃ cur', (w.setCell ⟨qb, qo, qs⟩ v).heap[qb]? = some (.cells cur' 5 (0, 0)) ∧ cur'.size = cur.size := by
        unfold World.setCell
        simp only [Array.getElem?_modify, if_true, hg, Option.map_some]
        exact ⟨_, rfl, by split <;> simp⟩
      obtain ⟨cur', hc', hs'⟩ := this
      exact ⟨cur'.toList.take (n * 1), by rw [List.length_take, Array.length_toList, hs', hs]; have := Nat.mul_le_mul_right 1 hn; omega, .inr ⟨qb, cap, cur', h1, hg0, hc', hn, hm, by rw [hs', hs], rfl⟩⟩
    · exact ⟨xs, h.1, .inr ⟨g, cap, cur, h1, hg0, by rw [Below.heap_setCell _ _ _ _ (fun e => hq e.symm)]; exact hg, hn, hm, hs, ht⟩⟩
/-- Copies, with whatever in them. -/
def FA (w : World) (base : Nat) (cs : List Value) : Prop := ∀ (i : Nat) (u : Value), cs[i]? = some u → ∃ (b : Sv) (xs : List Value), u = b.v ∧ w.ownsRow base 5 1 b.v b.n xs ∧ b.n ≤ 140737488355328
theorem FA.set {w : World} {base : Nat} {cs : List Value} (h : FA w base cs) (q : Addr) (v : Value) : FA (w.setCell q v) base cs := fun i u hu => by
  obtain ⟨b, xs, hb, ho, hn⟩ := h i u hu
  obtain ⟨xs', ho'⟩ := own_any ho q v
  exact ⟨b, xs', hb, ho', hn⟩

theorem loads_core {w : World} {fs sc : Sv} {Ls : List Bs} (hf : @FL noAv w fs Ls) (hfn : fs.n * 24 ≤ 140737488351232) (hs : @OpsR noAv w w.heap.size sc) :
    Calls Try.prog 13 #[fs.v, sc.v] w fun e w' => e = .returned (.bool true) ∧ Below w.heap.size w w' := by
  refine c13 ?_
  unfold sh13
  refine (@awake_spec noAv w (noOld _)).mono ?_
  rintro e w4 ⟨rfl, k4⟩
  refine ⟨_, rfl, cond_f rfl ?_⟩
  have hfl := hf.1
  -- the files are copied
  refine ⟨fun vs v => ∃ (i : Nat) (ia : Option Addr) (ic : Nat) (cs : List Value), vs = [.slice ia i ic, .int .i64 i] ∧ i ≤ fs.n ∧ v.ownsRow w.heap.size 36 1 (.slice ia i ic) i cs ∧ FO v w.heap.size cs (Ls.take i) ∧ Keep no w v,
    fun vs v => match vs with | [_, .int _ i] => fs.n - i.toNat | _ => 0, ⟨0, none, 0, [], rfl, by omega, World.ownsRow_nil _ _ _ _, ⟨by simp, fun i u hu => by simp at hu⟩, k4⟩, ?_⟩
  rintro w8 ia0 l0 ic0 n7 ⟨i, ia, ic, cs, hv, hi, ho, hFO, K8⟩
  cases hv
  refine cond_d (fun hlt => ?_) (fun hge => ?_)
  · obtain ⟨q, hq, b, hc, hb, hbn⟩ := (@FL.no noAv _ _ _ _ hf K8).2.2 l0 (by omega)
    refine ⟨q, hq, by omega, by omega, b.a, b.n, b.c, by rw [Int.toNat_natCast]; exact hc, ?_⟩
    intro p13 w14
    have o14 : w14.ownsRow w8.heap.size 5 1 (.slice (some ⟨p13, 0, none⟩) 0 0) 0 [] := lit_own w8 5 1 (Nat.le_refl _)
    have k14 : Keep no w8 w14 := Keep.alloc _ _ _
    clear_value p13 w14
    refine @rw_append noAv _ _ _ _ _ _ _ E36 _ _ _ _ _ _ _ _ _ o14 _ (@Ru.no noAv _ _ _ _ hb k14) (bvs_one _) (by omega) (by simp only [maxLen]; omega) k14.size _ fun a17 c17 w16 o16 k16 _ => ?_
    rw [Nat.zero_add, List.nil_append] at o16
    rw [Nat.zero_add]
    have k816 : Keep no w8 w16 := k14.new k16 fun z hz => (own_block o14 hz).1
    intro p18 w19
    have b19 : Bk w19 p18 #[.slice a17 b.n c17] 36 := Bk.new w16 _ _
    have k19 : Keep no w16 w19 := Keep.alloc _ _ _
    clear_value p18 w19
    have k819 := k816.then k19
    refine @rw_append noAv _ _ _ _ _ _ _ E48 _ _ _ _ _ _ _ _ _ (own_keep ho k819 fun _ _ h => h) _ (@Rd.blk0 noAv _ _ 1 _ 1 _ b19 rfl (by simp [maxLen])) (by simp [one1]) (by omega) (by simp only [maxLen]; omega) (K8.then k819).size _ fun a22 c22 w21 o21 k21 _ => ?_
    have ei : IntKind.i64.wrap ((l0 : Int) + 1) = ((l0 + 1 : Nat) : Int) := by rw [IntWalk.i64_in _ ⟨by omega, by omega⟩]; rfl
    rw [ei]
    have t36 : ∀ z, OB ia0 z → TyB w19 z 36 := fun z hz => (own_block (own_keep ho k819 fun _ _ h => h) hz).2
    have o16' : w16.ownsRow w.heap.size 5 1 (.slice a17 b.n c17) b.n (bvs (Ls.getD l0 [])) := by
      refine ⟨o16.1, ?_⟩
      rcases o16.2 with h2 | ⟨g, cap, cur, h1, hg0, hg, h3⟩
      · exact .inl h2
      · exact .inr ⟨g, cap, cur, h1, Nat.le_trans K8.size hg0, hg, h3⟩
    have hFO2 := ((hFO.keep k816 fun _ h => h.elim).push (b := ⟨a17, b.n, c17⟩) o16' hbn)
    have hFO3 := (hFO2.keep k19 fun _ h => h.elim).keep k21 fun z hz ht => (t36 z hz).ne ht (by decide) rfl
    refine ⟨⟨l0 + 1, a22, c22, _, rfl, by omega, o21, ?_, (K8.then k819).new k21 fun z hz => (own_block ho hz).1⟩, ?_⟩
    · have hlt' : l0 < Ls.length := by omega
      rw [List.take_succ_eq_append_getElem hlt']
      have hgd : Ls.getD l0 [] = Ls[l0] := by rw [List.getD_eq_getElem?_getD, List.getElem?_eq_getElem hlt']; rfl
      rw [hgd] at hFO3
      exact hFO3
    · show fs.n - ((l0 + 1 : Nat) : Int).toNat < fs.n - (l0 : Int).toNat
      omega
  · have hin : l0 = Ls.length := by omega
    subst hin
    rw [List.take_length] at hFO
    -- from here on nothing reads the copies
    letI A2 : Av := ⟨fun z => ∃ a n c, Value.slice a n c ∈ cs ∧ OB a z⟩
    have hrow : ∀ {a : Option Addr} {n c : Nat}, Value.slice a n c ∈ cs → ∃ xs, w8.ownsRow w.heap.size 5 1 (.slice a n c) n xs := fun hm => by
      obtain ⟨j, hj⟩ := List.mem_iff_getElem?.1 hm
      obtain ⟨b, hb, hob, _⟩ := hFO.2 j _ hj
      cases hb; exact ⟨_, hob⟩
    have hO : Old w8 := by
      rintro z ⟨a, n, c, hm, hz⟩
      obtain ⟨xs, hx⟩ := hrow hm
      exact (own_block hx hz).2.lt
    have hZw : ∀ z, A2.Z z → w.heap.size ≤ z := by
      rintro z ⟨a, n, c, hm, hz⟩
      obtain ⟨xs, hx⟩ := hrow hm
      exact (own_block hx hz).1
    have hf8 : FL w8 fs Ls := (FL.av (A1 := noAv) hf).no K8
    have hs8 : OpsR w8 w.heap.size sc := (OpsR.av (A1 := noAv) hs).no K8
    have hcells : ∀ v, Keep no w8 v → ∀ j, j < Ls.length → ∃ q, ia0 = some q ∧ ∃ (b : Sv), cs[j]? = some b.v ∧ v.cell? (q.add (j * 1)) = some b.v := by
      intro v k j hj
      have hR : Rd v 0 1 ia0 Ls.length ic0 cs := Rd.own0 (own_keep ho k fun _ _ h => h)
      obtain ⟨q, hq, hc⟩ := hR.at_ (i := j) hj
      obtain ⟨u, hu, hcu⟩ := hc 0 (by omega)
      rw [Nat.mul_one, Nat.add_zero] at hu
      rw [addZ] at hcu
      obtain ⟨b, rfl, _⟩ := hFO.2 j u hu
      exact ⟨q, hq, b, hu, hcu⟩
    have hin8 : FL w8 ⟨ia0, Ls.length, ic0⟩ Ls := by
      refine ⟨rfl, by simp only [maxLen]; omega, fun j hj => ?_⟩
      obtain ⟨q, hq, b, hu, hc⟩ := hcells w8 (Keep.refl _ _) j hj
      obtain ⟨b', hb', hob, hn'⟩ := hFO.2 j _ hu
      obtain rfl := Sv.inj hb'
      exact ⟨q, hq, b, hc, Rd.own0 hob, hn'⟩
    refine (Load_spec hin8 hO).mono ?_
    rintro e w24 ⟨k24, hcase⟩
    -- the reference loads the files themselves
    have ref : ∀ (p25 : Option Addr) (n26 : Int), (3 < Ls.length ∧ p25 = none ∧ n26 = 1) ∨ (Ls.length ≤ 3 ∧ Big Ls ∧ p25 = none ∧ n26 = 181) ∨ (Ls.length ≤ 3 ∧ ¬ Big Ls ∧ n26 = 0 ∧ ∃ p, p25 = some ⟨p, 0, none⟩ ∧ DkR w24 w8.heap.size p ⟨none, 0, 0⟩ (loadA Ls)) →
        e = .returned (.tuple #[.pointer p25, .int .i64 n26]) → ∃ (p25 : Option Addr), ∃ (n26 : Int), e = .returned (.tuple #[.pointer p25, .int .i64 n26]) ∧ ((3 < Ls.length ∧ p25 = none ∧ n26 = 1) ∨ (Ls.length ≤ 3 ∧ Big Ls ∧ p25 = none ∧ n26 = 181) ∨ (Ls.length ≤ 3 ∧ ¬ Big Ls ∧ n26 = 0 ∧ ∃ p, p25 = some ⟨p, 0, none⟩ ∧ DkR w24 w8.heap.size p ⟨none, 0, 0⟩ (loadA Ls))) :=
      fun p n h1 h2 => ⟨p, n, h2, h1⟩
    obtain ⟨p25, n26, he26, hcs⟩ : ∃ (p25 : Option Addr), ∃ (n26 : Int), e = .returned (.tuple #[.pointer p25, .int .i64 n26]) ∧ ((3 < Ls.length ∧ p25 = none ∧ n26 = 1) ∨ (Ls.length ≤ 3 ∧ Big Ls ∧ p25 = none ∧ n26 = 181) ∨ (Ls.length ≤ 3 ∧ ¬ Big Ls ∧ n26 = 0 ∧ ∃ p, p25 = some ⟨p, 0, none⟩ ∧ DkR w24 w8.heap.size p ⟨none, 0, 0⟩ (loadA Ls))) := by
      rcases hcase with ⟨h1, h2⟩ | ⟨h1, h2, h3⟩ | ⟨h1, h2, p, h3, h4⟩
      · exact ref _ _ (.inl ⟨h1, rfl, rfl⟩) h2
      · exact ref _ _ (.inr (.inl ⟨h1, h2, rfl, rfl⟩)) h3
      · exact ref _ _ (.inr (.inr ⟨h1, h2, rfl, p, rfl, h4⟩)) h3
    clear ref hcase
    subst he26
    refine ⟨_, _, rfl, ?_⟩
    refine (LoadR_spec (hf8.no k24)).mono ?_
    rintro e w28 ⟨k28, s', r, bb, lf, c, rfl, hcase2⟩
    refine ⟨_, _, _, _, _, _, _, rfl, ?_⟩
    intro p34 w35
    have b35 : Bk w35 p34 #[.slice none 0 0, .int .i64 0, .bool false, .int .i64 0] 26 := Bk.new w28 _ _
    have k35 : Keep no w28 w35 := Keep.alloc _ _ _
    have h34 : w28.heap.size ≤ p34 := Nat.le_refl _
    clear_value p34 w35
    refine ⟨b35.wrN (by simp), ?_⟩
    intro w36
    have b36 : Bk w36 p34 #[s'.v, .int .i64 r, .bool bb, .int .i64 lf] 26 := b35.setAll rfl
    have k36 : Keep (is p34) w35 w36 := setN_keep (S := is p34) (a := ⟨p34, 0, none⟩) rfl _ _ _
    clear_value w36
    have k2836 : Keep no w28 w36 := k35.new k36 (by rintro z rfl; exact h34)
    have k836 := (k24.then k28).then k2836
    have K36 := K8.then k836
    rcases hcs with hA | hB | hC
    · obtain ⟨h1, rfl, rfl⟩ := hA
      have hc1 : c = 1 := by rcases hcase2 with ⟨_, h⟩ | ⟨g, _⟩ | ⟨g, _⟩ <;> first | exact h | omega
      subst hc1
      exact cond_f rfl (cond_t rfl ⟨rfl, K36.below⟩)
    · obtain ⟨h1, h2, rfl, rfl⟩ := hB
      have hc1 : c = 181 := by
        rcases hcase2 with ⟨g, _⟩ | ⟨_, _, h⟩ | ⟨_, g, _⟩
        · omega
        · exact h
        · exact absurd h2 g
      subst hc1
      exact cond_f rfl (cond_t rfl ⟨rfl, K36.below⟩)
    · obtain ⟨h1, h2, h3, p, h4, hd24⟩ := hC
      subst h3 h4
      obtain ⟨rfl, rfl, rfl, rfl, hr28⟩ : c = 0 ∧ r = 0 ∧ bb = false ∧ lf = 0 ∧ RefR w28 s' (loadA Ls) := by
        rcases hcase2 with ⟨g, _⟩ | ⟨_, g, _⟩ | ⟨_, _, h⟩
        · omega
        · exact absurd g h2
        · exact h
      refine cond_f rfl (cond_f rfl ?_)
      have hd36 := (hd24.no_ k28).no_ k2836
      have hr36 := hr28.no k2836
      have hA36 : FA w36 w.heap.size cs := fun j u hu => by
        obtain ⟨b, hb, hob, hbn⟩ := (hFO.keep k836 fun _ h => h.elim).2 j u hu
        exact ⟨b, _, hb, hob, hbn⟩
      -- the copies are written over
      refine ⟨fun vs v => ∃ j : Nat, vs = [.int .i64 j] ∧ j ≤ Ls.length ∧ FA v w.heap.size cs ∧ Keep A2.Z w36 v ∧ (∀ i, i < Ls.length → ∃ q, ia0 = some q ∧ ∃ (b : Sv), cs[i]? = some b.v ∧ v.cell? (q.add (i * 1)) = some b.v),
        fun vs v => match vs with | [.int _ i] => Ls.length - i.toNat | _ => 0, ⟨0, rfl, by omega, hA36, Keep.refl _ _, hcells w36 k836⟩, ?_⟩
      rintro w38 n37 ⟨j, hv, hj, hA38, k38, hcl⟩
      cases hv
      refine cond_d (fun hlt => ?_) (fun hge => ?_)
      · obtain ⟨q, hq, b, hcj, hcell⟩ := hcl j (by omega)
        refine ⟨q, hq, by omega, by omega, b.a, b.n, b.c, by rw [Int.toNat_natCast]; exact hcell, ?_⟩
        obtain ⟨b', xs, hb', hob, hbn⟩ := hA38 j _ hcj
        obtain rfl := Sv.inj hb'
        refine ⟨fun vs v => ∃ (m : Nat) (xs : List Value), vs = [.int .i64 m] ∧ m ≤ b.n ∧ FA v w.heap.size cs ∧ Keep A2.Z w36 v ∧ v.ownsRow w.heap.size 5 1 b.v b.n xs ∧ (∀ i, i < Ls.length → ∃ q, ia0 = some q ∧ ∃ (b : Sv), cs[i]? = some b.v ∧ v.cell? (q.add (i * 1)) = some b.v),
          fun vs v => match vs with | [.int _ i] => b.n - i.toNat | _ => 0, ⟨0, xs, rfl, by omega, hA38, k38, hob, hcl⟩, ?_⟩
        rintro w44 n43 ⟨m, xs, hv, hm, hA44, k44, hob44, hcl44⟩
        cases hv
        refine cond_d (fun hlt2 => ?_) (fun hge2 => ?_)
        · obtain ⟨qq, hqq, hwr, hob2, k48⟩ := own_set hob44 (i := m) (by omega) (.int .u8 0)
          refine ⟨qq, hqq, by omega, by omega, ?_⟩
          rw [Int.toNat_natCast]
          refine ⟨hwr, ?_⟩
          intro w48
          have ei : IntKind.i64.wrap ((m : Int) + 1) = ((m + 1 : Nat) : Int) := by rw [IntWalk.i64_in _ ⟨by omega, by omega⟩]; rfl
          rw [ei]
          have hin : ∀ z, OB b.a z → A2.Z z := fun z hz => ⟨b.a, b.n, b.c, List.mem_of_getElem? hcj, hz⟩
          refine ⟨⟨m + 1, _, rfl, by omega, hA44.set _ _, k44.trans k48 (fun _ _ h => h) (fun z _ h => hin z h), hob2, fun i hi => ?_⟩, ?_⟩
          · obtain ⟨q2, hq2, b2, hc2, hcell2⟩ := hcl44 i hi
            refine ⟨q2, hq2, b2, hc2, ?_⟩
            have hne : (q2.add (i * 1)).block ≠ (qq.add (m * 1)).block := by
              rw [add_block, add_block]
              have t1 := (own_block (own_keep ho k836 fun _ _ h => h) (b := q2.block) ⟨q2, hq2, rfl⟩).2
              have t2 := (own_block hob44 (b := qq.block) ⟨qq, hqq, rfl⟩).2
              have t3 : TyB w44 q2.block 36 := t1.keep k44 (by
                rintro ⟨a, n, c, hmm, hz⟩
                obtain ⟨xs2, hx2⟩ := hrow hmm
                have h5 := (own_block (own_keep hx2 k836 fun _ _ h => h) hz).2
                exact t1.ne h5 (by decide) rfl)
              exact t3.ne t2 (by decide)
            have : w48.cell? (q2.add (i * 1)) = w44.cell? (q2.add (i * 1)) := by
              simp only [World.cell?]
              rw [show w48.heap[(q2.add (i * 1)).block]? = w44.heap[(q2.add (i * 1)).block]? from Below.heap_setCell _ _ _ _ hne]
            rw [this]; exact hcell2
          · show b.n - ((m + 1 : Nat) : Int).toNat < b.n - (m : Int).toNat
            omega
        · have ei : IntKind.i64.wrap ((j : Int) + 1) = ((j + 1 : Nat) : Int) := by rw [IntWalk.i64_in _ ⟨by omega, by omega⟩]; rfl
          rw [ei]
          refine ⟨⟨j + 1, rfl, by omega, hA44, k44, hcl44⟩, ?_⟩
          show Ls.length - ((j + 1 : Nat) : Int).toNat < Ls.length - (j : Int).toNat
          omega
      · have hz5 : ∀ z, A2.Z z → TyB w36 z 5 := by
          rintro z ⟨a, n, c, hm, hz⟩
          obtain ⟨xs2, hx2⟩ := hrow hm
          exact (own_block (own_keep hx2 k836 fun _ _ h => h) hz).2
        have hd38 : DkR w38 w8.heap.size p ⟨none, 0, 0⟩ (loadA Ls) := hd36.keepZ k38 (fun z hz hdk => hd36.nt hdk (by decide) (by decide) (hz5 z hz)) fun z hz _ => hz
        have hr38 : RefR w38 s' (loadA Ls) := hr36.keep k38 fun z hz ht => (hz5 z hz).ne ht (by decide) rfl
        have b38 : Bk w38 p34 #[s'.v, .int .i64 0, .bool false, .int .i64 0] 26 := b36.keep k38 fun hz => (hz5 _ hz).ne b36.ty (by decide) rfl
        have K38 : Keep no w w38 := K36.new k38 hZw
        have hp34 : w.heap.size ≤ p34 := Nat.le_trans (K8.then (k24.then k28)).size h34
        intro K58
        refine cond_t rfl ?_
        refine ⟨_, _, _, _, _, _, b38.cell 0, b38.cell 1, b38.cell 2, b38.cell 3, ?_⟩
        refine (Tells_spec (x := loadA Ls) hd38 hr38).mono ?_
        rintro e w54 ⟨rfl, k54⟩
        refine ⟨_, rfl, ?_⟩
        refine ⟨fun vs v => ∃ (i : Nat) (pc : Nat) (qc sc : Sv) (z : A), vs = [.pointer (some ⟨pc, 0, none⟩), .bool true, .int .i64 i] ∧ i ≤ 120 ∧ z.rest.length ≤ i ∧ DkR v w.heap.size pc qc z ∧ RefR v sc z ∧
            Bk v p34 #[sc.v, .int .i64 z.raws, .bool z.armed, .int .i64 z.left] 26 ∧ Keep no w v,
          fun vs v => match vs with | [_, _, .int _ i] => 120 - i.toNat | _ => 0,
          ⟨0, p, ⟨none, 0, 0⟩, s', loadA Ls, rfl, by omega, by simp [loadA], (hd38.no_ k54).low K8.size, hr38.no k54, b38.no k54, K38.then k54⟩, ?_⟩
        rintro w62 d59 ok60 i61 ⟨i, pc, qc, sc2, z, hv, hi2, hz, hdc, hrc, bc, K62⟩
        cases hv
        intro K70
        have stop : ∀ b c d, K70 b c d false w62 := fun b c d => cond_f rfl ⟨rfl, K62.below⟩
        refine cond_d (fun hlt => ?_) (fun hge => stop false false false)
        refine cond_d (fun hlt6 => ?_) (fun hge => stop true (decide ((i : Int) < 120)) false)
        refine cond_t rfl ?_
        have ba3 := bc.drew
        have hc3 := hdc.no_ (Keep.drew no w62)
        have hs3 := hrc.no (Keep.drew no w62)
        have ku3 : Keep no w w62.drew := K62.no (Keep.drew _ _)
        show ∃ _, _
        refine ⟨_, _, _, _, _, _, ba3.cell 0, ba3.cell 1, ba3.cell 2, ba3.cell 3, ?_⟩
        obtain ⟨qq, hqq, kk, f, a, b, l, g0, g1, g2, g3, hb, hlow, ha, hbn⟩ := ((OpsR.av (A1 := noAv) (A2 := A2) hs).no ku3).2 i (by omega)
        refine ⟨qq, hqq, by omega, by omega, ?_⟩
        rw [Int.toNat_natCast]
        refine ⟨_, _, _, _, _, _, g0, g1, g2, g3, ?_⟩
        refine (play_spec hc3 hs3 hb hlow (by omega) ha hbn ku3.size).mono ?_
        rintro e w82 ⟨p', q', s4, y4, rfl, hc4, hs4, k4, hl4⟩
        have ba4 := hc3.bk k4 ba3 (by decide) (by decide)
        refine ⟨_, _, _, _, _, _, _, _, rfl, ba4.wrN (by simp), ?_⟩
        intro w89
        have ba5 : Bk w89 p34 #[s4.v, _, _, _] 26 := ba4.setAll rfl
        have k5 : Keep (is p34) w82 w89 := setN_keep (S := is p34) (a := ⟨p34, 0, none⟩) rfl _ _ _
        clear_value w89
        have ei : IntKind.i64.wrap ((i : Int) + 1) = ((i + 1 : Nat) : Int) := by rw [IntWalk.i64_in _ ⟨by omega, by omega⟩]; rfl
        rw [ei]
        refine ⟨⟨i + 1, p', q', s4, y4, rfl, by omega, by omega, hc4.keep k5 ?_, hs4.keep k5 ?_, ba5, (Played.no hc3 k4 ku3 (Nat.le_refl _)).new k5 (by rintro b rfl; exact hp34)⟩, ?_⟩
        · rintro b rfl
          exact ⟨fun hz => hc4.nt hz (by decide) (by decide) ba4.ty, fun ht => absurd (ht.uniq ba4.ty) (by decide)⟩
        · rintro b rfl ht
          exact absurd (ht.uniq ba4.ty) (by decide)
        · show 120 - ((i + 1 : Nat) : Int).toNat < 120 - (i : Int).toNat
          omega
theorem loads_core' {w : World} {fs sc : Sv} (hf : ∃ Ls, @FL noAv w fs Ls ∧ fs.n * 24 ≤ 140737488351232) (hs : @OpsR noAv w w.heap.size sc) :
    Calls Try.prog 13 #[fs.v, sc.v] w fun e w' => e = .returned (.bool true) ∧ Below w.heap.size w w' := by
  obtain ⟨Ls, h1, h2⟩ := hf
  exact loads_core h1 h2 hs
end Go.Proofs.Ytmfidfaiopogbaa
