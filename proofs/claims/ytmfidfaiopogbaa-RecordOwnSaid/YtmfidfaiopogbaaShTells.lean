/- What the law asks of a disk and its reference: Tells. -/
import Derived.Test.YtmfidfaiopogbaaShRef3
set_option linter.unusedVariables false
set_option linter.unusedSectionVars false
set_option linter.unusedSimpArgs false
set_option maxRecDepth 4000
namespace Go.Proofs.Ytmfidfaiopogbaa
open Go Go.Sh
variable [Av]

section
variable {w w' : World} {lo p : Nat} {q s : Sv} {x : A}
theorem DkR.kt (h : DkR w lo p q x) {b : Nat} (hb : dk p q b) : lo ≤ b ∧ (TyB w b 112 ∨ TyB w b 114) := by
  obtain ⟨d0, d1, d2, n0, n1, n2, dl, hB, _⟩ := h.ex
  obtain ⟨cs, ho, _⟩ := h.own
  rcases hb with rfl | hb
  · exact ⟨h.lo_, .inl hB.ty⟩
  · exact ⟨(own_ty ho hb).2, .inr (own_ty ho hb).1⟩
theorem DkR.lt (h : DkR w lo p q x) {b : Nat} (hb : dk p q b) : b < w.heap.size := (h.kt hb).2.elim TyB.lt TyB.lt
theorem DkR.nt (h : DkR w lo p q x) {b : Nat} (hb : dk p q b) {e : TypeId} (h1 : e ≠ 112) (h2 : e ≠ 114) : ¬ TyB w b e := fun ht =>
  (h.kt hb).2.elim (fun h => h1 (ht.uniq h)) (fun h => h2 (ht.uniq h))
theorem DkR.bk (h : DkR w lo p q x) (k : Keep (dk p q) w w') {b : Nat} {C : Array Value} {e : TypeId} (hb : Bk w b C e) (h1 : e ≠ 112) (h2 : e ≠ 114) : Bk w' b C e :=
  hb.keep k fun hd => h.nt hd h1 h2 hb.ty
theorem DkR.rs (h : DkR w lo p q x) (k : Keep (dk p q) w w') {r : Sv} {l : Bs} (hr : Rs w r l) : Rs w' r l := hr.keep k fun b hb => h.ty hb
theorem DkR.rf (h : DkR w lo p q x) (k : Keep (dk p q) w w') {y : A} (hr : RefR w s y) : RefR w' s y := hr.keep k fun b hb => h.nt hb (by decide) (by decide)
theorem DkR.low {lo' : Nat} (h : DkR w lo' p q x) (hl : lo ≤ lo') : DkR w lo p q x := by
  obtain ⟨cs, ho, hq, hP⟩ := h.own
  refine ⟨h.ex, ⟨cs, ?_, hq, hP⟩, Nat.le_trans hl h.lo_, h.av, h.ok⟩
  refine ⟨ho.1, ?_⟩
  rcases ho.2 with h2 | ⟨g, cap, cur, h1, hg0, hg, h3⟩
  · exact .inl h2
  · exact .inr ⟨g, cap, cur, h1, Nat.le_trans hl hg0, hg, h3⟩

omit [Av] in
theorem A.read_in (x : A) {f : Nat} (hf : f < 3) : x.read f = x.now.get f := by
  unfold A.read
  rw [if_pos (by omega), Int.toNat_natCast]
omit [Av] in
theorem A.read_out (x : A) {f : Int} (hf : f < 0 ∨ 3 ≤ f) : x.read f = [] := by
  unfold A.read
  rw [if_neg (by omega)]

theorem Tells_spec (h : DkR w lo p q x) (hr : RefR w s x) : Calls Try.prog 25 #[dp p, rV s x] w fun e w' => e = .returned (.bool true) ∧ Keep no w w' := by
  refine c25 ?_
  unfold sh25
  intro p6 w7
  have b6 : Bk w7 p6 #[s.v, .int .i64 x.raws, .bool x.armed, .int .i64 x.left] 26 := Bk.new w _ _
  have k7 : Keep no w w7 := Keep.alloc _ _ _
  clear_value p6 w7
  refine ⟨_, _, _, _, _, _, b6.cell 0, b6.cell 1, b6.cell 2, b6.cell 3, ?_⟩
  refine (nowR_spec (hr.no k7)).mono ?_
  rintro e w13 ⟨rfl, k13⟩
  refine ⟨_, _, _, rfl, ?_⟩
  intro p17 w18
  have b17 : Bk w18 p17 #[.string ⟨#[]⟩, .string ⟨#[]⟩, .string ⟨#[]⟩] 77 := Bk.new w13 _ _
  have k18 : Keep no w13 w18 := Keep.alloc _ _ _
  have h17 : w13.heap.size ≤ p17 := Nat.le_refl _
  clear_value p17 w18
  refine ⟨b17.wrN (by simp), ?_⟩
  intro w19
  have c17 : Bk w19 p17 #[.string (str x.now.a), .string (str x.now.b), .string (str x.now.c)] 77 := b17.setAll rfl
  have k19 : Keep (is p17) w18 w19 := setN_keep (S := is p17) (a := ⟨p17, 0, none⟩) rfl _ _ _
  clear_value w19
  have k19' : Keep no w13 w19 := k18.new k19 (by rintro y rfl; exact h17)
  have K19 : Keep no w w19 := (k7.then k13).then k19'
  have c6 := (b6.no k13).no k19'
  refine ⟨fun vs v => ∃ i : Nat, vs = [.bool false, .int .i64 i] ∧ i ≤ 3 ∧ Keep no w v ∧ Bk v p17 #[.string (str x.now.a), .string (str x.now.b), .string (str x.now.c)] 77 ∧ Bk v p6 #[s.v, .int .i64 x.raws, .bool x.armed, .int .i64 x.left] 26,
    fun vs v => match vs with | [_, .int _ i] => 3 - i.toNat | _ => 0, ⟨0, rfl, by omega, K19, c17, c6⟩, ?_⟩
  rintro w22 b20 f21 ⟨i, hv, hi, K22, d17, d6⟩
  cases hv
  refine cond_d (fun hlt => ?_) (fun hge => ?_)
  · have hi3 : i < 3 := by omega
    intro K47 w25
    have e17 : Bk w25 p17 _ _ := d17.drew
    have e6 : Bk w25 p6 _ _ := d6.drew
    have K25 : Keep no w w25 := K22.no (Keep.drew _ _)
    clear_value w25
    have hc : ∀ v, Bk v p17 #[.string (str x.now.a), .string (str x.now.b), .string (str x.now.c)] 77 → v.cell? ((⟨p17, 0, none⟩ : Addr).add ((i : Int).toNat * 1)) = some (.string (str (x.now.get i))) := by
      intro v hb
      rw [addP, Int.toNat_natCast, Nat.mul_one, Nat.zero_add, hb.cell]
      match i, hi3 with
      | 0, _ => rfl
      | 1, _ => rfl
      | 2, _ => rfl
    refine ⟨by omega, by omega, _, hc _ e17, ?_⟩
    refine (read_spec (h.no_ K25) i).mono ?_
    rintro e w28 ⟨r, rfl, hrr, _, k28⟩
    rw [x.read_in hi3] at hrr
    refine ⟨_, _, _, rfl, ⟨_, hc _ (e17.no k28), rfl⟩, ?_⟩
    refine rw_str Try.underlying36 Try.underlying5 Try.underlying9 hrr ?_
    rw [show ((str (x.now.get i)).toList == (str (x.now.get i)).toList) = true by simp]
    refine ⟨by omega, by omega, _, hc _ (e17.no k28), ?_⟩
    refine (size_spec (h.no_ (K25.then k28)) i).mono ?_
    rintro e w36 ⟨rfl, k36⟩
    rw [x.read_in hi3]
    refine ⟨_, rfl, ⟨_, hc _ ((e17.no k28).no k36), rfl⟩, ?_⟩
    have hne : (((x.now.get i).length : Int) != ((str (x.now.get i)).size : Nat)) = false := by rw [str_size]; simp
    rw [hne]
    have ei : IntKind.i64.wrap ((i : Int) + 1) = ((i + 1 : Nat) : Int) := by rw [IntWalk.i64_in _ ⟨by omega, by omega⟩]; rfl
    show _ ∧ _
    rw [ei]
    refine ⟨⟨i + 1, rfl, by omega, (K25.then k28).then k36, (e17.no k28).no k36, (e6.no k28).no k36⟩, ?_⟩
    show 3 - ((i + 1 : Nat) : Int).toNat < 3 - (i : Int).toNat
    omega
  · intro w48
    have e6 : Bk w48 p6 _ _ := d6.drew
    have K48 : Keep no w w48 := K22.no (Keep.drew _ _)
    clear_value w48
    refine (read_spec (h.no_ K48) (-1)).mono ?_
    rintro e w50 ⟨r1, rfl, hr1, _, k50⟩
    rw [x.read_out (by omega)] at hr1
    refine ⟨_, _, _, rfl, ?_⟩
    rw [Rb.len hr1]
    have K50 := K48.then k50
    refine (read_spec (h.no_ K50) 3).mono ?_
    rintro e w53 ⟨r2, rfl, hr2, _, k53⟩
    rw [x.read_out (by omega)] at hr2
    refine ⟨_, _, _, rfl, ?_⟩
    rw [Rb.len hr2]
    have K53 := K50.then k53
    refine (size_spec (h.no_ K53) 3).mono ?_
    rintro e w56 ⟨rfl, k56⟩
    rw [x.read_out (by omega)]
    refine ⟨_, rfl, ?_⟩
    have K56 := K53.then k56
    refine (size_spec (h.no_ K56) (-4611686018427387904)).mono ?_
    rintro e w59 ⟨rfl, k59⟩
    rw [x.read_out (by omega)]
    refine ⟨_, rfl, ?_⟩
    have K59 := K56.then k59
    have f6 := (((e6.no k50).no k53).no k56).no k59
    refine ⟨_, f6.cell 1, ?_⟩
    refine (raw_spec (h.no_ K59)).mono ?_
    rintro e w63 ⟨rfl, rfl⟩
    refine ⟨_, rfl, ⟨_, f6.cell 1, rfl⟩, ?_⟩
    rw [show (x.raws == x.raws) = true by simp]
    refine ⟨_, _, _, f6.cell 0, ?_⟩
    refine (pending_spec (h.no_ K59)).mono ?_
    rintro e w68 ⟨rfl, rfl⟩
    refine ⟨_, rfl, ⟨_, _, _, f6.cell 0, rfl⟩, ?_⟩
    rw [hr.wrap1, show ((x.rest.length : Int) == (x.rest.length : Int)) = true by simp]
    refine ⟨_, _, _, _, _, _, f6.cell 0, f6.cell 1, f6.cell 2, f6.cell 3, ?_⟩
    refine (dead_spec (h.no_ K59)).mono ?_
    rintro e w76 ⟨rfl, rfl⟩
    refine ⟨_, rfl, ⟨_, _, _, _, _, _, f6.cell 0, f6.cell 1, f6.cell 2, f6.cell 3, rfl⟩, ?_⟩
    refine (deadR_spec (hr.no K59)).mono ?_
    rintro e w83 ⟨rfl, k83⟩
    exact ⟨_, rfl, by simp, K59.then k83⟩
end
end Go.Proofs.Ytmfidfaiopogbaa
