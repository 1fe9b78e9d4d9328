/- Contracts of Load, the disk's and the reference's. -/
import Derived.Test.YtmfidfaiopogbaaShAv
set_option linter.unusedVariables false
set_option linter.unusedSimpArgs false
set_option linter.unusedSectionVars false
set_option maxRecDepth 4000
namespace Go.Proofs.Ytmfidfaiopogbaa
open Go Go.Sh

theorem E48 : El Try.prog 48 36 1 24 := ⟨Try.underlying48, ⟨Try.t36, .slice none 0 0, by kernel_rfl, rfl, rfl, rfl, rfl⟩, by decide⟩

/-- A list of files. -/
def FL [Av] (w : World) (s : Sv) (Ls : List Bs) : Prop := s.n = Ls.length ∧ s.n ≤ maxLen ∧ ∀ i, i < s.n → ∃ q, s.a = some q ∧ ∃ b : Sv, w.cell? (q.add (i * 1)) = some b.v ∧ Ru w b (Ls.getD i []) ∧ b.n ≤ 140737488355328
theorem FL.no [Av] {w w' : World} {s : Sv} {Ls : List Bs} (h : FL w s Ls) (k : Keep no w w') : FL w' s Ls := by
  refine ⟨h.1, h.2.1, fun i hi => ?_⟩
  obtain ⟨q, hq, b, hc, hb, hn⟩ := h.2.2 i hi
  exact ⟨q, hq, b, cell_no k hc, hb.no k, hn⟩
theorem Ru.av {A1 A2 : Av} {w : World} {s : Sv} {l : Bs} (h : @Ru A1 w s l) : @Ru A2 w s l := by
  obtain ⟨h1, h2, h3, h4⟩ := h
  refine ⟨h1, h2, h3, fun hn => ?_⟩
  obtain ⟨b, o, arr, fr, ha, ⟨e', he', hb⟩, hc⟩ := h4 hn
  exact ⟨b, o, arr, fr, ha, ⟨e', .inl rfl, hb⟩, hc⟩
theorem FL.av {A1 A2 : Av} {w : World} {s : Sv} {Ls : List Bs} (h : @FL A1 w s Ls) : @FL A2 w s Ls := by
  refine ⟨h.1, h.2.1, fun i hi => ?_⟩
  obtain ⟨q, hq, b, hc, hb, hn⟩ := h.2.2 i hi
  exact ⟨q, hq, b, hc, hb.av, hn⟩
theorem OpsR.av {A1 A2 : Av} {w : World} {base : Nat} {s : Sv} (h : @OpsR A1 w base s) : @OpsR A2 w base s := by
  refine ⟨h.1, fun i hi => ?_⟩
  obtain ⟨q, hq, kk, f, a, b, l, h0, h1, h2, h3, h4, h5⟩ := h.2 i hi
  exact ⟨q, hq, kk, f, a, b, l, h0, h1, h2, h3, h4.av, h5⟩

/-- The first i files. -/
def pf (Ls : List Bs) (i : Nat) : Fs := ⟨if 0 < i then Ls.getD 0 [] else [], if 1 < i then Ls.getD 1 [] else [], if 2 < i then Ls.getD 2 [] else []⟩
theorem pf_zero (Ls : List Bs) : pf Ls 0 = ⟨[], [], []⟩ := rfl
theorem pf_succ (Ls : List Bs) {i : Nat} (hi : i < 3) : pf Ls (i + 1) = (pf Ls i).set i (Ls.getD i []) := by
  match i, hi with
  | 0, _ => rfl
  | 1, _ => rfl
  | 2, _ => rfl
def loadA (Ls : List Bs) : A := ⟨pf Ls Ls.length, [], 0, false, 0⟩
def Big (Ls : List Bs) : Prop := ∃ i, i < Ls.length ∧ 65536 < (Ls.getD i []).length
theorem pf_small {Ls : List Bs} {i : Nat} (h : ∀ j, j < i → (Ls.getD j []).length ≤ 65536) : (pf Ls i).small := by
  refine ⟨?_, ?_, ?_⟩ <;> simp only [pf] <;> split
  · exact h 0 (by assumption)
  · simp
  · exact h 1 (by assumption)
  · simp
  · exact h 2 (by assumption)
  · simp

section
variable [Av]
theorem Load_spec {w : World} {s : Sv} {Ls : List Bs} (h : FL w s Ls) (hO : Old w) :
    Calls Try.prog 33 #[s.v] w fun e w' => Keep no w w' ∧ ((3 < Ls.length ∧ e = .returned (.tuple #[.pointer none, .int .i64 1])) ∨ (Ls.length ≤ 3 ∧ Big Ls ∧ e = .returned (.tuple #[.pointer none, .int .i64 181])) ∨
      (Ls.length ≤ 3 ∧ ¬ Big Ls ∧ ∃ p, e = .returned (.tuple #[dp p, .int .i64 0]) ∧ DkR w' w.heap.size p ⟨none, 0, 0⟩ (loadA Ls))) := by
  refine c33 ?_
  unfold sh33
  have hn := h.1
  refine cond_d (fun hl => ?_) (fun hl => ?_)
  · exact ⟨Keep.refl _ _, .inl ⟨by omega, rfl⟩⟩
  · have hl3 : Ls.length ≤ 3 := by omega
    refine (new_spec w hO).mono ?_
    rintro e w3 ⟨p, rfl, hd, k3, hp, hB⟩
    refine ⟨_, rfl, ?_⟩
    refine ⟨fun vs v => ∃ (i : Nat) (n0 n1 n2 : Sv), vs = [.pointer none, .int .i64 0, .int .i64 i] ∧ i ≤ s.n ∧ (∀ j, j < i → (Ls.getD j []).length ≤ 65536) ∧
        Bk v p (dkC ⟨none, 0, 0⟩ ⟨none, 0, 0⟩ ⟨none, 0, 0⟩ n0 n1 n2 ⟨none, 0, 0⟩ 0 false 0) 112 ∧ Rs v n0 (pf Ls i).a ∧ Rs v n1 (pf Ls i).b ∧ Rs v n2 (pf Ls i).c ∧ Keep no w v,
      fun vs v => match vs with | [_, _, .int _ i] => s.n - i.toNat | _ => 0, ⟨0, _, _, _, rfl, by omega, fun j hj => absurd hj (by omega), hB, Rd.nil _ _ _, Rd.nil _ _ _, Rd.nil _ _ _, k3⟩, ?_⟩
    rintro w8 p5 n6 n7 ⟨i, n0, n1, n2, hv, hi, hsm, hB8, r0, r1, r2, K8⟩
    cases hv
    refine cond_d (fun hlt => ?_) (fun hge => ?_)
    · obtain ⟨q, hq, b, hc, hb, hbn⟩ := (h.no K8).2.2 i (by omega)
      refine ⟨q, hq, by omega, by omega, b.a, b.n, b.c, by rw [Int.toNat_natCast]; exact hc, ?_⟩
      refine cond_d (fun hbig => ?_) (fun hsml => ?_)
      · exact ⟨K8, .inr (.inl ⟨hl3, ⟨i, by omega, by have := hb.len; omega⟩, rfl⟩)⟩
      · intro w13
        have hB13 : Bk w13 p _ _ := hB8.drew
        have k13 : Keep no w8 w13 := Keep.drew _ _
        clear_value w13
        refine (clone_spec (hb.no k13) hbn (hO.up (K8.then k13))).mono ?_
        rintro e w16 ⟨y, rfl, hy, _, k16, _⟩
        have k816 := k13.then k16
        have hB16 := hB13.no k16
        refine ⟨_, _, _, rfl, by omega, by omega, ?_⟩
        rw [addP, addP, Int.toNat_natCast, Nat.mul_one, Nat.zero_add]
        refine ⟨hB16.wr (by simp [dkC]; omega), ?_⟩
        intro w18
        have hB18 := hB16.set (3 + i) y.v
        have k18 : Keep (is p) w16 w18 := Keep.set (S := is p) w16 (a := ⟨p, 3 + i, none⟩) _ rfl
        replace hB18 : Bk w18 p _ 112 := hB18
        clear_value w18
        have h5 : ∀ b, is p b → ¬ TyB w16 b 5 := by rintro b rfl ht; exact absurd (ht.uniq hB16.ty) (by decide)
        have hpw : ∀ b, is p b → w.heap.size ≤ b := by rintro b rfl; omega
        have ei : IntKind.i64.wrap ((i : Int) + 1) = ((i + 1 : Nat) : Int) := by rw [IntWalk.i64_in _ ⟨by omega, by omega⟩]; rfl
        rw [ei]
        have hsm' : ∀ j, j < i + 1 → (Ls.getD j []).length ≤ 65536 := fun j hj => by
          by_cases hji : j = i
          · subst hji; have := hb.len; omega
          · exact hsm j (by omega)
        have K18 := (K8.then k816).new k18 hpw
        have hi3 : i < 3 := by omega
        refine ⟨?_, ?_⟩
        · obtain ⟨m0, m1, m2, hB', a0, a1, a2⟩ : ∃ m0 m1 m2 : Sv, Bk w18 p (dkC ⟨none, 0, 0⟩ ⟨none, 0, 0⟩ ⟨none, 0, 0⟩ m0 m1 m2 ⟨none, 0, 0⟩ 0 false 0) 112 ∧
              Rs w18 m0 (pf Ls (i + 1)).a ∧ Rs w18 m1 (pf Ls (i + 1)).b ∧ Rs w18 m2 (pf Ls (i + 1)).c := by
            rw [pf_succ _ hi3]
            match i, hi3 with
            | 0, _ => exact ⟨y, n1, n2, hB18, hy.keep k18 h5, (r1.no k816).keep k18 h5, (r2.no k816).keep k18 h5⟩
            | 1, _ => exact ⟨n0, y, n2, hB18, (r0.no k816).keep k18 h5, hy.keep k18 h5, (r2.no k816).keep k18 h5⟩
            | 2, _ => exact ⟨n0, n1, y, hB18, (r0.no k816).keep k18 h5, (r1.no k816).keep k18 h5, hy.keep k18 h5⟩
          exact ⟨i + 1, m0, m1, m2, rfl, by omega, hsm', hB', a0, a1, a2, K18⟩
        · show s.n - ((i + 1 : Nat) : Int).toNat < s.n - (i : Int).toNat
          omega
    · have hin : i = Ls.length := by omega
      subst hin
      refine ⟨_, _, _, _, _, _, _, _, _, by rw [addP]; exact hB8.cell 3, by rw [addP]; exact hB8.cell 4, by rw [addP]; exact hB8.cell 5, hB8.wrN (by simp [dkC]), ?_⟩
      intro w24
      have hB24 : Bk w24 p (dkC n0 n1 n2 n0 n1 n2 ⟨none, 0, 0⟩ 0 false 0) 112 := hB8.setN (o := 0) (vs := [n0.v, n1.v, n2.v]) (i := 0)
      have k24 : Keep (is p) w8 w24 := setN_keep (S := is p) (a := ⟨p, 0, none⟩) rfl _ _ _
      clear_value w24
      have h5 : ∀ b, is p b → ¬ TyB w8 b 5 := by rintro b rfl ht; exact absurd (ht.uniq hB8.ty) (by decide)
      have hpw : ∀ b, is p b → w.heap.size ≤ b := by rintro b rfl; omega
      refine ⟨K8.new k24 hpw, .inr (.inr ⟨hl3, fun ⟨j, hj, hjb⟩ => by have := hsm j hj; omega, p, rfl, ⟨n0, n1, n2, n0, n1, n2, 0, hB24, (fun h => by cases h), r0.keep k24 h5, r1.keep k24 h5, r2.keep k24 h5, r0.keep k24 h5, r1.keep k24 h5, r2.keep k24 h5⟩,
        ⟨[], World.ownsRow_nil _ _ _ _, rfl, rfl⟩, by omega, (hO.up K8).up k24, ?_⟩)⟩
      refine ⟨fun t ht => ?_, fun h => by cases h⟩
      have ht' : t ∈ [pf Ls Ls.length] := ht
      simp at ht'; rw [ht']
      exact pf_small hsm

theorem LoadR_spec {w : World} {s : Sv} {Ls : List Bs} (h : FL w s Ls) :
    Calls Try.prog 44 #[s.v] w fun e w' => Keep no w w' ∧ ∃ (s' : Sv) (r : Int) (b : Bool) (lf c : Int), e = .returned (.tuple #[.agg #[s'.v, .int .i64 r, .bool b, .int .i64 lf], .int .i64 c]) ∧
      ((3 < Ls.length ∧ c = 1) ∨ (Ls.length ≤ 3 ∧ Big Ls ∧ c = 181) ∨ (Ls.length ≤ 3 ∧ ¬ Big Ls ∧ c = 0 ∧ r = 0 ∧ b = false ∧ lf = 0 ∧ RefR w' s' (loadA Ls))) := by
  refine c44 ?_
  unfold sh44
  intro p2 w3
  have b2 : Bk w3 p2 #[.slice none 0 0, .int .i64 0, .bool false, .int .i64 0] 26 := Bk.new w _ _
  have k3 : Keep no w w3 := Keep.alloc _ _ _
  have h2 : w.heap.size ≤ p2 := Nat.le_refl _
  clear_value p2 w3
  have hn := h.1
  refine cond_d (fun hl => ?_) (fun hl => ?_)
  · refine ⟨b2.wrN (by simp), ?_⟩
    intro w4
    have b4 : Bk w4 p2 #[.slice none 0 0, .int .i64 0, .bool false, .int .i64 0] 26 := b2.setAll rfl
    have k4 : Keep (is p2) w3 w4 := setN_keep (S := is p2) (a := ⟨p2, 0, none⟩) rfl _ _ _
    clear_value w4
    exact ⟨_, _, _, _, _, _, b4.cell 0, b4.cell 1, b4.cell 2, b4.cell 3, k3.new k4 (by rintro z rfl; exact h2), ⟨none, 0, 0⟩, _, _, _, _, rfl, .inl ⟨by omega, rfl⟩⟩
  · have hl3 : Ls.length ≤ 3 := by omega
    refine (newR_spec w3).mono ?_
    rintro e w6 ⟨sN, rfl, hr6, k6, g, rfl, hg, hBg⟩
    refine ⟨_, _, _, _, _, _, rfl, ?_⟩
    intro p11 w12
    have b11 : Bk w12 p11 #[.slice none 0 0, .int .i64 0, .bool false, .int .i64 0] 26 := Bk.new w6 _ _
    have k12 : Keep no w6 w12 := Keep.alloc _ _ _
    have h11 : w6.heap.size ≤ p11 := Nat.le_refl _
    clear_value p11 w12
    refine ⟨b11.wrN (by simp), ?_⟩
    intro w13
    have c11 : Bk w13 p11 #[.slice (some ⟨g, 0, none⟩) 1 1, .int .i64 0, .bool false, .int .i64 0] 26 := b11.setAll rfl
    have k13 : Keep (is p11) w12 w13 := setN_keep (S := is p11) (a := ⟨p11, 0, none⟩) rfl _ _ _
    clear_value w13
    have k613 : Keep no w6 w13 := k12.new k13 (by rintro z rfl; exact h11)
    have K13 : Keep no w w13 := (k3.then k6).then k613
    have h211 : p2 ≠ p11 := by have := b2.lt; have := k6.size; omega
    have hgw : w.heap.size ≤ g := Nat.le_trans k3.size hg
    have hpw : w.heap.size ≤ p11 := Nat.le_trans (k3.then k6).size h11
    refine ⟨fun vs v => ∃ i : Nat, vs = [.int .i64 0, .int .i64 i] ∧ i ≤ s.n ∧ (∀ j, j < i → (Ls.getD j []).length ≤ 65536) ∧ Bk v g #[.string (str (pf Ls i).a), .string (str (pf Ls i).b), .string (str (pf Ls i).c)] 77 ∧
        Bk v p11 #[.slice (some ⟨g, 0, none⟩) 1 1, .int .i64 0, .bool false, .int .i64 0] 26 ∧ Bk v p2 #[.slice none 0 0, .int .i64 0, .bool false, .int .i64 0] 26 ∧ Keep no w v,
      fun vs v => match vs with | [_, .int _ i] => s.n - i.toNat | _ => 0, ⟨0, rfl, by omega, fun j hj => absurd hj (by omega), hBg.no k613, c11, (b2.no k6).no k613, K13⟩, ?_⟩
    rintro w16 n14 i15 ⟨i, hv, hi, hsm, hB16, d11, d2, K16⟩
    cases hv
    refine cond_d (fun hlt => ?_) (fun hge => ?_)
    · obtain ⟨q, hq, b, hc, hb, hbn⟩ := (h.no K16).2.2 i (by omega)
      refine ⟨q, hq, by omega, by omega, b.a, b.n, b.c, by rw [Int.toNat_natCast]; exact hc, ?_⟩
      refine cond_d (fun hbig => ?_) (fun hsml => ?_)
      · refine ⟨d2.wrN (by simp), ?_⟩
        intro w21
        have b4 : Bk w21 p2 #[.slice none 0 0, .int .i64 0, .bool false, .int .i64 0] 26 := d2.setAll rfl
        have k4 : Keep (is p2) w16 w21 := setN_keep (S := is p2) (a := ⟨p2, 0, none⟩) rfl _ _ _
        clear_value w21
        exact ⟨_, _, _, _, _, _, b4.cell 0, b4.cell 1, b4.cell 2, b4.cell 3, K16.new k4 (by rintro z rfl; exact h2), ⟨none, 0, 0⟩, _, _, _, _, rfl, .inr (.inl ⟨hl3, ⟨i, by omega, by have := hb.len; omega⟩, rfl⟩)⟩
      · intro w22
        have hB22 : Bk w22 g _ _ := hB16.drew
        have e11 : Bk w22 p11 _ _ := d11.drew
        have e2 : Bk w22 p2 _ _ := d2.drew
        have k22 : Keep no w16 w22 := Keep.drew _ _
        clear_value w22
        refine ⟨_, _, _, e11.cell 0, q, hq, by omega, by omega, b.a, b.n, b.c, by rw [Int.toNat_natCast]; exact cell_no k22 hc, ?_⟩
        refine rw_str Try.underlying36 Try.underlying5 Try.underlying9 (hb.no k22) ?_
        refine ⟨_, rfl, by omega, by omega, by omega, by omega, ?_⟩
        rw [addP, Int.toNat_natCast, Nat.mul_one, Nat.zero_add]
        refine ⟨hB22.wr (by simp; omega), ?_⟩
        intro w30
        have hB30 : Bk w30 g _ 77 := hB22.set i (.string (str (Ls.getD i [])))
        have k30 : Keep (is g) w22 w30 := Keep.set (S := is g) w22 (a := ⟨g, i, none⟩) _ rfl
        have f11 : Bk w30 p11 _ _ := e11.keep k30 fun h => (e11.ty.ne hB22.ty (by decide)) h
        have f2 : Bk w30 p2 _ _ := e2.keep k30 fun h => (e2.ty.ne hB22.ty (by decide)) h
        clear_value w30
        have ei : IntKind.i64.wrap ((i : Int) + 1) = ((i + 1 : Nat) : Int) := by rw [IntWalk.i64_in _ ⟨by omega, by omega⟩]; rfl
        rw [ei]
        have hsm' : ∀ j, j < i + 1 → (Ls.getD j []).length ≤ 65536 := fun j hj => by
          by_cases hji : j = i
          · subst hji; have := hb.len; omega
          · exact hsm j (by omega)
        have hi3 : i < 3 := by omega
        refine ⟨⟨i + 1, rfl, by omega, hsm', ?_, f11, f2, (K16.then k22).new k30 (by rintro z rfl; exact hgw)⟩, ?_⟩
        · rw [pf_succ _ hi3]
          match i, hi3 with
          | 0, _ => exact hB30
          | 1, _ => exact hB30
          | 2, _ => exact hB30
        · show s.n - ((i + 1 : Nat) : Int).toNat < s.n - (i : Int).toNat
          omega
    · have hin : i = Ls.length := by omega
      subst hin
      obtain ⟨e0, e1, e2, e3, ew, f0, f1, f2, f3, kf⟩ := fin4 d11 d2 rfl
      refine ⟨_, _, _, _, _, _, e0, e1, e2, e3, ew, _, _, _, _, _, _, f0, f1, f2, f3, K16.new kf (by rintro z rfl; exact h2), ⟨some ⟨g, 0, none⟩, 1, 1⟩, _, _, _, _, rfl, .inr (.inr ⟨hl3, fun ⟨j, hj, hjb⟩ => by have := hsm j hj; omega, rfl, rfl, rfl, rfl, ?_, ?_⟩)⟩
      · exact Rd.keep (Rd.blk hB16 (n := 1) rfl (by simp [maxLen])) kf (by rintro y rfl ht; exact absurd (ht.uniq d2.ty) (by decide))
      · refine ⟨fun t ht => ?_, fun h => by cases h⟩
        have ht' : t ∈ [pf Ls Ls.length] := ht
        simp at ht'; rw [ht']
        exact pf_small hsm
end
end Go.Proofs.Ytmfidfaiopogbaa
