/- A disk behind a script: Built; and the document's example: awake. -/
import Derived.Test.YtmfidfaiopogbaaShRef
import Derived.Lib.SlBytesConst
set_option linter.unusedVariables false
set_option linter.unusedSectionVars false
set_option linter.unusedSimpArgs false
set_option maxRecDepth 4000
namespace Go.Proofs.Ytmfidfaiopogbaa
open Go Go.Sh
variable [Av]

/-- The i-th call of a script. -/
def OpAt (w : World) (base : Nat) (q : Addr) (i : Nat) : Prop := ∃ (k f a : Int) (b : Sv) (l : Bs), w.cell? (q.add (i * 4)) = some (.int .i64 k) ∧ w.cell? ((q.add (i * 4)).add 1) = some (.int .i64 f) ∧
  w.cell? ((q.add (i * 4)).add 2) = some (.int .i64 a) ∧ w.cell? ((q.add (i * 4)).add 3) = some b.v ∧ Ru w b l ∧ (0 < b.n → ∀ y, OB b.a y → y < base) ∧ a ≤ 9223372036854775807 ∧ b.n ≤ 140737488355328
def OpsR (w : World) (base : Nat) (s : Sv) : Prop := s.n ≤ maxLen ∧ ∀ i, i < s.n → ∃ q, s.a = some q ∧ OpAt w base q i
omit [Av] in
theorem cell_no {w w' : World} (k : Keep no w w') {a : Addr} {v : Value} (h : w.cell? a = some v) : w'.cell? a = some v := by
  have hlt : a.block < w.heap.size := by
    rcases Nat.lt_or_ge a.block w.heap.size with h' | h'
    · exact h'
    · simp [World.cell?, Array.getElem?_eq_none h'] at h
  simp only [World.cell?] at h ⊢
  rw [k.same _ hlt id]; exact h
theorem OpsR.no {w w' : World} {base : Nat} {s : Sv} (h : OpsR w base s) (k : Keep no w w') : OpsR w' base s := by
  refine ⟨h.1, fun i hi => ?_⟩
  obtain ⟨q, hq, kk, f, a, b, l, h0, h1, h2, h3, h4, h5⟩ := h.2 i hi
  exact ⟨q, hq, kk, f, a, b, l, cell_no k h0, cell_no k h1, cell_no k h2, cell_no k h3, h4.no k, h5⟩

theorem Played.no {w w' : World} {lo p : Nat} {q : Sv} {x : A} (h : DkR w lo p q x) (k : Keep (dk p q) w w') {w0 : World} (k0 : Keep no w0 w) (hl : w0.heap.size ≤ lo) : Keep no w0 w' :=
  k0.new k fun b hb => Nat.le_trans hl (h.kt hb).1

theorem Built_spec {w : World} {sc : Sv} (hs : OpsR w w.heap.size sc) (hO : Old w) :
    Calls Try.prog 21 #[sc.v] w fun e w' => ∃ p q s y, e = .returned (.tuple #[dp p, rV s y, .bool true]) ∧ DkR w' w.heap.size p q y ∧ RefR w' s y ∧ Keep no w w' ∧ y.rest.length ≤ 120 := by
  refine c21 ?_
  unfold sh21
  intro p2 w3
  have b2 : Bk w3 p2 #[.slice none 0 0, .int .i64 0, .bool false, .int .i64 0] 26 := Bk.new w _ _
  have k3 : Keep no w w3 := Keep.alloc _ _ _
  have h2 : w.heap.size ≤ p2 := Nat.le_refl _
  clear_value p2 w3
  refine (new_spec w3 (hO.up k3)).mono ?_
  rintro e w5 ⟨p6, rfl, hd5, k5, _, _⟩
  refine ⟨_, rfl, ?_⟩
  refine (newR_spec w5).mono ?_
  rintro e w8 ⟨s8, rfl, hr8, k8, _⟩
  refine ⟨_, _, _, _, _, _, rfl, ?_⟩
  intro p13 w14
  have b13 : Bk w14 p13 #[.slice none 0 0, .int .i64 0, .bool false, .int .i64 0] 26 := Bk.new w8 _ _
  have k14 : Keep no w8 w14 := Keep.alloc _ _ _
  have h13 : w8.heap.size ≤ p13 := Nat.le_refl _
  clear_value p13 w14
  refine ⟨b13.wrN (by simp), ?_⟩
  intro w15
  have c13 : Bk w15 p13 #[s8.v, .int .i64 0, .bool false, .int .i64 0] 26 := b13.setAll rfl
  have k15 : Keep (is p13) w14 w15 := setN_keep (S := is p13) (a := ⟨p13, 0, none⟩) rfl _ _ _
  clear_value w15
  have k15' : Keep no w8 w15 := k14.new k15 (by rintro y rfl; exact h13)
  have K15 : Keep no w3 w15 := (k5.then k8).then k15'
  have KK15 := k3.then K15
  have hp13 : w.heap.size ≤ p13 := Nat.le_trans ((k3.then k5).then k8).size h13
  have hne : p13 ≠ p2 := by have := b2.lt; have := (k5.then k8).size; omega
  refine ⟨fun vs v => ∃ (i : Nat) (p : Nat) (q s : Sv) (y : A), vs = [dp p, .bool true, .int .i64 i] ∧ DkR v w.heap.size p q y ∧ RefR v s y ∧ Bk v p13 #[s.v, .int .i64 y.raws, .bool y.armed, .int .i64 y.left] 26 ∧
      Bk v p2 #[.slice none 0 0, .int .i64 0, .bool false, .int .i64 0] 26 ∧ Keep no w v ∧ y.rest.length ≤ i ∧ i ≤ 120,
    fun vs v => match vs with | [_, _, .int _ i] => 120 - i.toNat | _ => 0, ⟨0, p6, ⟨none, 0, 0⟩, s8, _, rfl, ((hd5.no_ k8).no_ k15').low k3.size, hr8.no k15', c13, b2.no K15, KK15, by simp, by omega⟩, ?_⟩
  rintro w19 d16 ok17 i18 ⟨i, p, q, s, y, hv, hd, hr, d13, d2, K, hi, hi2⟩
  cases hv
  intro K29
  have stop : K29 (sc.n : Int) (decide ((i : Int) < (sc.n : Int))) false false false false w19 := by
    have e13 : Bk w19.drew p13 _ _ := d13.drew
    have e2 : Bk w19.drew p2 _ _ := d2.drew
    obtain ⟨e0, e1, e2', e3, ew, f0, f1, f2, f3, kf⟩ := fin4 e13 e2 rfl
    refine ⟨_, _, _, _, _, _, e0, e1, e2', e3, ew, _, _, _, _, _, _, f0, f1, f2, f3, p, q, s, y, rfl, ?_, ?_, ?_, by omega⟩
    · refine (hd.no_ (Keep.drew no _)).keep kf ?_
      rintro z rfl
      exact ⟨fun hz => (hd.no_ (Keep.drew no _)).nt hz (by decide) (by decide) e2.ty, fun ht => absurd (ht.uniq e2.ty) (by decide)⟩
    · exact (hr.no (Keep.drew no _)).keep kf (by rintro z rfl ht; exact absurd (ht.uniq e2.ty) (by decide))
    · exact (K.no (Keep.drew no _)).new kf (by rintro z rfl; exact h2)
  refine cond_d (fun hlt => ?_) (fun hge => stop)
  refine cond_d (fun hlt2 => ?_) (fun hge => stop)
  · have e13 : Bk w19.drew p13 _ _ := d13.drew
    have e2 : Bk w19.drew p2 _ _ := d2.drew
    have K' : Keep no w w19.drew := K.no (Keep.drew no _)
    obtain ⟨qq, hqq, kk, f, a, b, l, h0, h1, h2', h3, hb, hlow, ha, hbn⟩ := (hs.no K').2 i (by omega)
    have hn := hs.1
    simp only [maxLen] at hn
    refine ⟨_, _, _, _, _, _, e13.cell 0, e13.cell 1, e13.cell 2, e13.cell 3, qq, hqq, by omega, by omega, ?_⟩
    rw [Int.toNat_natCast]
    refine ⟨_, _, _, _, _, _, h0, h1, h2', h3, ?_⟩
    refine (play_spec (hd.no_ (Keep.drew no _)) (hr.no (Keep.drew no _)) hb hlow (by omega) ha hbn K'.size).mono ?_
    rintro e w41 ⟨p', q', s', y', rfl, hd', hr', k41, hl'⟩
    have hdr := hd.no_ (Keep.drew no w19)
    have g13 := hdr.bk k41 e13 (by decide) (by decide)
    have g2 := hdr.bk k41 e2 (by decide) (by decide)
    refine ⟨_, _, _, _, _, _, _, _, rfl, g13.wrN (by simp), ?_⟩
    intro w48
    have i13 : Bk w48 p13 #[s'.v, _, _, _] 26 := g13.setAll rfl
    have k48 : Keep (is p13) w41 w48 := setN_keep (S := is p13) (a := ⟨p13, 0, none⟩) rfl _ _ _
    have i2 : Bk w48 p2 _ _ := g2.keep k48 fun h => hne h.symm
    clear_value w48
    have ei : IntKind.i64.wrap ((i : Int) + 1) = ((i + 1 : Nat) : Int) := by rw [IntWalk.i64_in _ ⟨by omega, by omega⟩]; rfl
    rw [ei]
    refine ⟨⟨i + 1, p', q', s', y', rfl, hd'.keep k48 ?_, hr'.keep k48 ?_, i13, i2, ?_, by omega, by omega⟩, ?_⟩
    · rintro z rfl
      exact ⟨fun hz => hd'.nt hz (by decide) (by decide) g13.ty, fun ht => absurd (ht.uniq g13.ty) (by decide)⟩
    · rintro z rfl ht
      exact absurd (ht.uniq g13.ty) (by decide)
    · exact (Played.no hdr k41 K' (Nat.le_refl _)).new k48 (by rintro z rfl; exact hp13)
    · show 120 - ((i + 1 : Nat) : Int).toNat < 120 - (i : Int).toNat
      omega

/-! ### The document's example -/
omit [Av] in
theorem cond_f {b : Bool} {A B : Prop} (hb : b = false) (h : B) : cond b A B := by subst hb; exact h
omit [Av] in
theorem cond_t {b : Bool} {A B : Prop} (hb : b = true) (h : A) : cond b A B := by subst hb; exact h
/-- Bytes of a constant text. -/
theorem rw_lit {w : World} {C : Array Value} {l : Bs} (hC : C.toList = bvs l) {n : Nat} (hn : l.length = n) (hm : n ≤ maxLen) (hO : Old w) {K : Option Addr → Nat → Nat → World → Prop}
    (h : ∀ w', Rs w' ⟨some ⟨w.heap.size, 0, none⟩, n, n⟩ l → Keep no w w' → w.heap.size < w'.heap.size → K (some ⟨w.heap.size, 0, none⟩) n n w') :
    RunWp Try.prog (convert 36 36 (.slice (some ⟨w.heap.size, 0, none⟩) n n)) (fun v w' => ∃ (a2 : Option Addr) (n2 c2 : Nat), v = .slice a2 n2 c2 ∧ K a2 n2 c2 w') (w.alloc (.cells C 5)) := by
  refine RunWp.of (Lib.run_convert_bytes_const w 36 5 C n n Try.underlying36 Try.underlying5) ⟨_, _, _, rfl, h _ ?_ (Keep.alloc _ _ _) (by show _ < (w.heap.push _).size; simp)⟩
  have hs : C.size = n := by rw [← Array.length_toList, hC]; simp [hn]
  refine ⟨by simp [hn], Nat.le_refl _, hm, fun _ => ⟨w.heap.size, 0, C, (C.size, C.size + 1), rfl, ⟨5, .inr ⟨rfl, fun _ hb => by have := hO _ hb; omega⟩, ?_⟩, fun j u hu => ?_⟩⟩
  · show (w.heap.push _)[w.heap.size]? = _
    simp
  · rw [← hC] at hu
    simpa using hu
def a0 : A := ⟨⟨[], [], []⟩, [], 0, false, 0⟩
def a1 : A := (a0.Write 1 0 [97, 98, 99, 100, 101, 102]).1
def a2 : A := a1.Sync.1
def a3 : A := (a2.Write 1 6 [103, 104]).1
def a4 : A := (a3.Cut 1 3).1
omit [Av] in
theorem awake_facts : (a0.Write 1 0 [97, 98, 99, 100, 101, 102]).2 = 0 ∧ a1.Sync.2 = 0 ∧ (a2.Write 1 6 [103, 104]).2 = 0 ∧ (a3.Cut 1 3).2 = 0 ∧
    (a4.Crash 1).read 1 = [97, 98, 99, 100, 101, 102, 103, 104] ∧ a4.read 1 = [97, 98, 99] ∧ a4.rest.length = 2 ∧ a0.rest.length = 0 ∧ a2.rest.length = 0 ∧ a3.rest.length = 1 := by
  refine ⟨?_, ?_, ?_, ?_, ?_, ?_, ?_, ?_, ?_, ?_⟩ <;> decide

theorem awake_spec (w : World) (hO : Old w) : Calls Try.prog 22 #[] w fun e w' => e = .returned (.bool true) ∧ Keep no w w' := by
  obtain ⟨q1, q2, q3, q4, q5, q6, q7, l0, l2, l3⟩ := awake_facts
  refine c22 ?_
  unfold sh22
  refine (new_spec w hO).mono ?_
  rintro e w2 ⟨p, rfl, hd, k2, _, _⟩
  refine ⟨_, rfl, ?_⟩
  intro K28
  refine cond_f rfl ?_
  refine rw_lit (w := w2) (l := [97, 98, 99, 100, 101, 102]) rfl rfl (by simp [maxLen]) (hO.up k2) fun w5 hl5 k5 _ => ?_
  have hd5 : DkR w5 w.heap.size p ⟨none, 0, 0⟩ a0 := hd.no_ k5
  refine (Write_spec hd5 1 0 (l := [97, 98, 99, 100, 101, 102]) hl5.u (by omega)).mono ?_
  rintro e w10 ⟨rfl, qa, hda, ka, hqa⟩
  rw [q1]
  refine ⟨_, rfl, ?_⟩
  have Ka : Keep no w w10 := Played.no hd5 ka (k2.then k5) (Nat.le_refl _)
  refine cond_f rfl ?_
  refine (Sync_spec (x := a1) hda).mono ?_
  rintro e w13 ⟨rfl, qb, hdb, kb, hqb⟩
  rw [q2]
  refine ⟨_, rfl, ?_⟩
  have Kb : Keep no w w13 := Played.no hda kb Ka (Nat.le_refl _)
  refine cond_f rfl ?_
  refine rw_lit (w := w13) (l := [103, 104]) rfl rfl (by simp [maxLen]) (hO.up Kb) fun w16 hl16 k16 _ => ?_
  have hdb' : DkR w16 w.heap.size p qb a2 := hdb.no_ k16
  refine (Write_spec hdb' 1 6 (l := [103, 104]) hl16.u (by omega)).mono ?_
  rintro e w21 ⟨rfl, qc, hdc, kc, hqc⟩
  rw [q3]
  refine ⟨_, rfl, ?_⟩
  have Kc : Keep no w w21 := Played.no hdb' kc (Kb.then k16) (Nat.le_refl _)
  refine cond_f rfl ?_
  refine (Cut_spec (x := a3) hdc 1 3 (by omega)).mono ?_
  rintro e w24 ⟨rfl, qd, hdd, kd, hqd⟩
  rw [q4]
  refine ⟨_, rfl, ?_⟩
  have Kd : Keep no w w24 := Played.no hdc kd Kc (Nat.le_refl _)
  refine cond_f rfl ?_
  have hdd' : DkR w24 w.heap.size p qd a4 := hdd
  refine (Crash_spec hdd' 1).mono ?_
  rintro e w30 ⟨p', rfl, hde, ke⟩
  refine ⟨_, rfl, ?_⟩
  refine cond_t rfl ?_
  refine (read_spec hde 1).mono ?_
  rintro e w33 ⟨r, rfl, hr, _, k33⟩
  rw [q5] at hr
  refine ⟨_, _, _, rfl, ?_⟩
  refine rw_str Try.underlying36 Try.underlying5 Try.underlying9 hr ?_
  refine cond_t (by simp [str]) ?_
  refine (read_spec (hdd'.no_ (ke.then k33)) 1).mono ?_
  rintro e w39 ⟨r2, rfl, hr2, _, k39⟩
  rw [q6] at hr2
  refine ⟨_, _, _, rfl, ?_⟩
  refine rw_str Try.underlying36 Try.underlying5 Try.underlying9 hr2 ?_
  refine cond_t (by simp [str]) ?_
  refine (pending_spec (hdd'.no_ ((ke.then k33).then k39))).mono ?_
  rintro e w45 ⟨rfl, rfl⟩
  rw [q7]
  refine ⟨_, rfl, rfl, ((Kd.then ke).then k33).then k39⟩
end Go.Proofs.Ytmfidfaiopogbaa
