/- What LogPlays answers: the walk. -/
import Derived.Test.YtmfidfaiopogbaaShP18
set_option linter.unusedVariables false
set_option linter.unusedSimpArgs false
set_option linter.unusedSectionVars false
set_option maxRecDepth 4000
namespace Go.Proofs.Ytmfidfaiopogbaa
open Go Go.Sh
open Go.RowKit (Below)
local instance avP18b : Av := noAv
theorem fin7 {w : World} {p : Nat} {a b c d e f g : Value} {C : Array Value} {t : TypeId} (h : Bk w p C t) (hC : C.size = 7) :
    wrN w ⟨p, 0, none⟩ 7 ∧ Bk (setN ⟨p, 0, none⟩ 0 [a, b, c, d, e, f, g] w) p #[a, b, c, d, e, f, g] t ∧ Keep (is p) w (setN ⟨p, 0, none⟩ 0 [a, b, c, d, e, f, g] w) :=
  ⟨h.wrN (by rw [hC]; decide), h.setAll (vs := [a, b, c, d, e, f, g]) (by rw [hC]; rfl), setN_keep (S := is p) (a := ⟨p, 0, none⟩) rfl _ _ _⟩
set_option maxHeartbeats 1600000 in
theorem plays_coreL {w : World} {s : Sv} (h : ActsR w s) : Calls Try.prog 18 #[.slice s.a s.n s.c] w fun e w' => e = .returned (.bool true) ∧ Below w.heap.size w w' := by
  have hO : ∀ v : World, Old v := fun v => noOld v
  refine c18 ?_
  unfold sh18
  refine (new_spec w (hO _)).mono ?_
  rintro e w3 ⟨p, rfl, hd3, k3, _, _⟩
  refine ⟨_, rfl, ?_⟩
  intro K10
  have go : ∀ w9, Keep no w3 w9 → K10 false w9 := by
    intro w9 k9
    refine cond_f rfl ?_
    have hd9 := hd3.no_ k9
    have K9 := k3.then k9
    refine (new_open w9 hd9).mono ?_
    rintro e w12 ⟨l0, t1, t2, t3, rfl, ⟨q12, hL12, k12, _⟩, hl12, _⟩
    refine ⟨_, _, _, _, _, rfl, ?_⟩
    have K12 : Keep no w w12 := K9.new k12 fun b hb => by
      rcases hb with rfl | hb
      · exact Nat.le_trans K9.size hl12
      · exact hd9.new hb
    intro p16 w17
    have b17 : Bk w17 p16 (fsC ⟨[], [], []⟩) 77 := Bk.new w12 _ _
    have k17 : Keep no w12 w17 := Keep.alloc _ _ _
    have h16 : w12.heap.size ≤ p16 := Nat.le_refl _
    clear_value p16 w17
    obtain ⟨f1, f2, f3⟩ := fin3 (a := .string (str [])) (b := .string (str [])) (c := .string (str [])) b17 rfl
    refine ⟨f1, ?_⟩
    intro w18
    have b18 : Bk w18 p16 (fsC ⟨[], [], []⟩) 77 := f2
    have k18 : Keep no w12 w18 := k17.new f3 (by rintro z rfl; exact h16)
    clear_value w18
    have hp16 : w.heap.size ≤ p16 := Nat.le_trans K12.size h16
    refine ⟨fun vs v => ∃ (i l : Nat) (q : Sv) (x : A) (n : Nat) (dd : Bool), vs = [dp l, .int .i64 0, .bool false, .int .i64 i] ∧ i ≤ 60 ∧ LgR v w.heap.size l p q x (nmF x.now.a) n dd ∧ LPi x n dd ∧ Bk v p16 (fsC x.now) 77 ∧ x.rest.length ≤ 30 * i ∧ Keep no w v,
      fun vs v => match vs with | [_, _, _, .int _ i] => 60 - i.toNat | _ => 0, ⟨0, l0, q12, a0, 0, false, rfl, by omega, hL12.no_ k18, ?_, b18, by simp [a0], K12.then k18⟩, ?_⟩
    · exact ⟨rfl, rfl, openC_nil (by show (scan []).2 = 0; rw [scan_nil]) rfl rfl, rfl, by omega⟩
    rintro w23 l19 e20 b21 i22 ⟨i, l, q, x, n, dd, hv, hi, hL, hI, hB, hxr, k23⟩
    cases hv
    intro K31
    have stop : ∀ n' b1 b2, K31 n' b1 b2 false w23 := fun n' b1 b2 => cond_f rfl (cond_t rfl ⟨rfl, k23.below⟩)
    have round : ∀ n' b1 b2, i < s.n → i < 60 → K31 n' b1 b2 true w23 := by
      intro n' b1 b2 his hi60
      refine cond_t rfl ?_
      intro K36
      refine cond_f rfl ?_
      refine cond_f rfl ?_
      obtain ⟨qa, hqa, k, o, t, a0', a1', a2', a3', a4', a5', a6', hof, hops⟩ := h i his
      have cc : ∀ {z : Addr} {v : Value}, w.cell? z = some v → w23.cell? z = some v := fun hz => cell_no k23 hz
      refine ⟨qa, hqa, by omega, by omega, k, o.k, o.e, o.u, o.v, o.b, t.a, t.n, t.c, by rw [Int.toNat_natCast]; exact cc a0', by rw [Int.toNat_natCast]; exact cc a1', by rw [Int.toNat_natCast]; exact cc a2', by rw [Int.toNat_natCast]; exact cc a3', by rw [Int.toNat_natCast]; exact cc a4', by rw [Int.toNat_natCast]; exact cc a5', by rw [Int.toNat_natCast]; exact cc a6', ?_⟩
      intro p45 w46
      have b46 : Bk w46 p45 #[.int .i64 0, .int .i64 0, .int .i64 0, .int .i64 0, .int .i64 0, .int .u32 0, .slice none 0 0] 98 := Bk.new w23 _ _
      have k46 : Keep no w23 w46 := Keep.alloc _ _ _
      have h45 : w23.heap.size ≤ p45 := Nat.le_refl _
      clear_value p45 w46
      obtain ⟨f1, f2, f3⟩ := fin7 (a := .int .i64 k) (b := .int .i64 o.k) (c := .int .i64 o.e) (d := .int .i64 o.u) (e := .int .i64 o.v) (f := .int .u32 o.b) (g := .slice t.a t.n t.c) b46 rfl
      refine ⟨f1, ?_⟩
      intro w47
      have b47 : Bk w47 p45 #[.int .i64 k, .int .i64 o.k, .int .i64 o.e, .int .i64 o.u, .int .i64 o.v, .int .u32 o.b, .slice t.a t.n t.c] 98 := f2
      have k47 : Keep no w23 w47 := k46.new f3 (by rintro z rfl; exact h45)
      clear f1 f2 f3
      clear_value w47
      have hL47 := hL.no_ k47
      have hB47 := hB.no k47
      have K47 := k23.then k47
      have ei : IntKind.i64.wrap ((i : Int) + 1) = ((i + 1 : Nat) : Int) := by rw [IntWalk.i64_in _ ⟨by omega, by omega⟩]; rfl
      rw [ei]
      have hmu : 60 - ((i + 1 : Nat) : Int).toNat < 60 - (i : Int).toNat := by omega
      have hsm := hL.dk.ok.now
      intro K158
      -- behind the call: the files and the length
      have g158 : ∀ (l' : Nat) (q' : Sv) (x' : A) (m' : Nat) (dd' : Bool) (n153 n154 : Int) (b155 b156 : Bool) (v : World), LgR v w.heap.size l' p q' x' (nmF x'.now.a) m' dd' → LPi x' m' dd' → Bk v p16 (fsC x'.now) 77 → x'.rest.length ≤ 30 * i + 22 → Keep no w v → K158 (some ⟨l', 0, none⟩) 0 n153 n154 b155 b156 v := by
        intro l' q' x' m' dd' n153 n154 b155 b156 v hLv hIv hBv hrv kv
        unfold K158
        intro K193 w159
        have k159 : Keep no v w159 := Keep.drew _ _
        clear_value w159
        have hL1 := hLv.no_ k159
        have hB1 := hBv.no k159
        have good : ∀ c1 c2 c3 c4 c5 c6 c7 c8 u, Keep no w159 u → K193 c1 c2 c3 c4 c5 c6 c7 c8 false u := by
          intro c1 c2 c3 c4 c5 c6 c7 c8 u ku
          exact cond_f rfl ⟨⟨i + 1, l', q', x', m', dd', rfl, by omega, hL1.no_ ku, hIv, hB1.no ku, by omega, (kv.then k159).then ku⟩, hmu⟩
        clear_value K193
        refine ⟨_, _, _, hB1.cell 0, hB1.cell 1, hB1.cell 2, ?_⟩
        refine (files_spec hL1.dk).mono ?_
        rintro e w164 ⟨rfl, k164⟩
        have hB2 := hB1.no k164
        have hL2 := hL1.no_ k164
        refine ⟨_, _, _, rfl, ⟨_, _, _, hB2.cell 0, hB2.cell 1, hB2.cell 2, rfl⟩, ?_⟩
        refine rw_neqF (x := x'.now) (y := x'.now) ?_
        rw [(fsEq_iff _ _).2 rfl]
        refine cond_f rfl ⟨by omega, by omega, str x'.now.a, hB2.cell 0, ?_⟩
        refine (len_spec hL2).mono ?_
        rintro e w176 ⟨rfl, rfl⟩
        refine ⟨_, rfl, ⟨_, hB2.cell 0, rfl⟩, ?_⟩
        refine (file_spec w176 x'.now.a).mono ?_
        rintro e w180 ⟨rfl, rfl⟩
        have hf := nmF_two x'.now.a
        refine ⟨_, rfl, by omega, by omega, str (x'.now.get (nmF x'.now.a)), by rw [Int.toNat_natCast]; exact fsCell hB2 (by omega), ?_⟩
        rw [str_size, ← hIv.len]
        rw [show (((m' : Nat) : Int) != ((m' : Nat) : Int)) = false by simp]
        exact good _ _ _ _ _ _ _ _ _ k164
      clear_value K158
      clear K36
      refine ⟨k, b47.cell 0, ?_⟩
      refine cond_i (fun hk1 => ?_) (fun hk1 => ?_)
      · -- Sync
        intro K60
        refine (lsync_spec hL47).mono ?_
        rintro e w50 ⟨rfl, q50, hL50, k50, _⟩
        obtain ⟨z1, z2, z3, z4⟩ := hI.sync
        refine ⟨_, rfl, ?_⟩
        rw [z1]
        refine cond_f rfl ?_
        refine (pending_spec hL50.dk).mono ?_
        rintro e w53 ⟨rfl, rfl⟩
        refine ⟨_, rfl, ?_⟩
        rw [z4]
        refine cond_f rfl ?_
        refine g158 l q50 _ n _ _ _ _ _ w53 (by rw [z3]; exact hL50) z2 (by rw [z3]; exact hB47.keep k50 (hL47.off hB47.ty)) (by rw [z4]; simp) (K47.new k50 fun b hb => hL47.new hb)
      refine cond_i (fun hk2 => ?_) (fun hk2 => ?_)
      · -- Rewrite
        refine ⟨_, _, _, b47.cell 6, ?_⟩
        obtain ⟨xs, hxs, hfit⟩ : ∃ xs : List Op, Rd w 0 5 t.a t.n t.c (opl xs) ∧ ∀ x ∈ xs, x.fit := by
          obtain ⟨xs, u1, u2, _⟩ := hops
          exact ⟨xs, u1, u2⟩
        refine (cut55_spec (hxs.no K47)).mono ?_
        rintro e w63 ⟨c1, c2, c3, rfl, k63, hoc, hc60⟩
        refine ⟨_, _, _, rfl, ?_⟩
        have hcf : ∀ x ∈ xs.take 60, x.fit := fun x hx => hfit x (List.mem_of_mem_take hx)
        generalize xs.take 60 = zs at hoc hcf
        have hL63 := hL47.no_ k63
        have hB63 := hB47.no k63
        refine (rewrite_spec hL63 (hO _) (nmF_two _) (by omega) (Rd.own0 hoc) hcf (by omega)).mono ?_
        rintro e w66 ⟨rfl, q66, hL66, k66, _⟩
        obtain ⟨z1, z2, z3, z4, z5, z6⟩ := hI.rew hcf
        refine ⟨_, rfl, ?_⟩
        have hB66 := hB63.keep k66 (hL63.off hB63.ty)
        have hoc66 := own_S hoc k66 fun b hb => hL63.off (ty_lt hoc hb).2.2
        have K66 : Keep no w w66 := (K47.then k63).new k66 fun b hb => hL63.new hb
        refine ⟨_, _, _, hB66.cell 0, hB66.cell 1, hB66.cell 2, ?_⟩
        refine (rew60_spec (hO _) x.now hsm (Rd.own0 hoc66) hcf (by omega)).mono ?_
        rintro e w72 ⟨rfl, k72⟩
        refine ⟨_, _, _, _, rfl, ?_⟩
        have hB72 := hB66.no k72
        obtain ⟨f1, f2, f3⟩ := fin3 (a := .string (str (x.now.rew zs).1.a)) (b := .string (str (x.now.rew zs).1.b)) (c := .string (str (x.now.rew zs).1.c)) hB72 rfl
        refine ⟨f1, ?_⟩
        intro w77
        have b77 : Bk w77 p16 (fsC (x.now.rew zs).1) 77 := f2
        have k77 : Keep (is p16) w72 w77 := f3
        clear f1 f2 f3
        clear_value w77
        have hL72 := hL66.no_ k72
        generalize hR : rewM x (nmF x.now.a) n dd zs = R at hL66 hL72 z1 z2 z3 z4 z5 z6
        rw [z4] at hL72
        have hL77 : LgR w77 w.heap.size l p q66 R.1 (nmF R.1.now.a) R.2.2.1 R.2.2.2.1 := ⟨hL72.dk.keep k77 fun b hb => by
            obtain rfl : b = p16 := hb
            exact ⟨dk_off hL72.dk hB72.ty, fun ht => absurd (ht.uniq hB72.ty) (by decide)⟩, hL72.bk.keep k77 fun hb => (hL72.bk.ty.ne hB72.ty (by decide)) hb, hL72.lo_⟩
        have K77 : Keep no w w77 := (K66.then k72).new k77 (by rintro z rfl; exact hp16)
        intro K84
        have g84 : ∀ b u, Keep no w77 u → K84 b false u := by
          intro b u ku
          refine cond_f rfl ?_
          exact g158 l q66 R.1 R.2.2.1 R.2.2.2.1 _ _ _ _ u (hL77.no_ ku) z3 (by rw [z2]; exact b77.no ku) (by omega) (K77.then ku)
        clear_value K84
        rw [z1]
        refine cond_f (by simp) ?_
        refine cond_i (fun hz => ?_) (fun hz => g84 _ _ (Keep.refl _ _))
        refine (pending_spec hL77.dk).mono ?_
        rintro e w79 ⟨rfl, rfl⟩
        refine ⟨_, rfl, ?_⟩
        have h1 := z6 (by simpa using hz)
        rw [h1, decide_eq_false (by omega)]
        exact g84 _ _ (Keep.refl _ _)
      refine cond_i (fun hk3 => ?_) (fun hk3 => ?_)
      · -- Reopen
        refine (raw_spec hL47.dk).mono ?_
        rintro e w86 ⟨rfl, rfl⟩
        refine ⟨_, rfl, ?_⟩
        have hsq : (A.seq (openG x.now) x).1 = x := by
          obtain ⟨_, o2, _, o4, _⟩ := open_seq x
          exact (o4 (o2 hI.un)).2.1 hI.tid
        refine (open_un hL47.dk (by omega) hI.un).mono ?_
        rintro e w89 ⟨l', m1, m2, m3, rfl, ⟨q89, hL89, k89, _⟩, _, hl', _, hom⟩
        rw [hsq] at hL89
        refine ⟨_, _, _, _, _, rfl, ?_⟩
        have hoff : ∀ {b e : Nat}, TyB w86 b e → e ≠ 112 → e ≠ 114 → ¬ lg l' p q b := by
          intro b e ht x1 x2 hb
          rcases hb with rfl | hb
          · exact absurd ht.lt (by omega)
          · exact (dk_off hL47.dk ht x1 x2) hb
        have hB89 := hB47.keep k89 (hoff hB47.ty (by decide) (by decide))
        have K89 : Keep no w w89 := K47.new k89 fun b hb => by
          rcases hb with rfl | hb
          · exact Nat.le_trans K47.size hl'
          · exact hL47.dk.new hb
        refine ⟨_, _, _, hB89.cell 0, hB89.cell 1, hB89.cell 2, ?_⟩
        refine (opened_spec (hO _) x.now hsm).mono ?_
        rintro e w97 ⟨u1, u2, u3, rfl, k97, hou⟩
        refine ⟨_, _, _, _, _, _, rfl, ?_⟩
        intro K115
        refine cond_f rfl (cond_f rfl ?_)
        refine (Same_spec (Rd.own0 (own_no' hom k97)) (Rd.own0 hou)).mono ?_
        rintro e w103 ⟨k103, r, rfl, hr⟩
        refine ⟨_, rfl, ?_⟩
        rw [hr.2 rfl]
        refine cond_f rfl ?_
        have hL103 := hL89.no_ (k97.then k103)
        refine (raw_spec hL103.dk).mono ?_
        rintro e w106 ⟨rfl, rfl⟩
        refine ⟨_, rfl, ?_⟩
        rw [show (x.raws != x.raws) = false by simp]
        refine cond_f rfl ?_
        have hlen : (scan (x.now.get (nmF x.now.a))).2 = n := by rw [hI.len]; exact (openC_tidy hI.tid).1
        rw [hlen] at hL103
        obtain ⟨y1, y2, y3, y4, y5⟩ := hI
        exact g158 l' q89 x n false _ _ _ _ w106 hL103 ⟨y1, rfl, y3, y4, y5⟩ (hB89.no (k97.then k103)) (by omega) (K89.then (k97.then k103))
      · -- Append
        refine ⟨_, _, _, _, _, b47.cell 1, b47.cell 2, b47.cell 3, b47.cell 4, b47.cell 5, ?_⟩
        have hns := hI.small
        refine (room_spec hL47 (by omega) hof).mono ?_
        rintro e w122 ⟨rfl, k122⟩
        refine ⟨_, rfl, ?_⟩
        have b122 := b47.no k122
        refine ⟨_, _, _, _, _, b122.cell 1, b122.cell 2, b122.cell 3, b122.cell 4, b122.cell 5, ?_⟩
        have hL122 := hL47.no_ k122
        refine (append_spec hL122 (hO _) (by omega) (by omega) hof).mono ?_
        rintro e w130 ⟨rfl, q130, hL130, k130, _⟩
        obtain ⟨z1, z2, z3, z4, z5, z6⟩ := hI.app hof
        refine ⟨_, rfl, ?_⟩
        have hB122 := hB47.no k122
        have hB130 := hB122.keep k130 (hL122.off hB122.ty)
        have b130 := b122.keep k130 (hL122.off b122.ty)
        have K130 : Keep no w w130 := (K47.then k122).new k130 fun b hb => hL122.new hb
        refine ⟨_, _, _, hB130.cell 0, hB130.cell 1, hB130.cell 2, ?_⟩
        refine ⟨_, _, _, _, _, b130.cell 1, b130.cell 2, b130.cell 3, b130.cell 4, b130.cell 5, ?_⟩
        refine (app_spec (w := w130) x.now hsm hof).mono ?_
        rintro e w141 ⟨rfl, k141⟩
        refine ⟨_, _, _, _, rfl, ?_⟩
        have hB141 := hB130.no k141
        obtain ⟨f1, f2, f3⟩ := fin3 (a := .string (str (x.now.app o).1.a)) (b := .string (str (x.now.app o).1.b)) (c := .string (str (x.now.app o).1.c)) hB141 rfl
        refine ⟨f1, ?_⟩
        intro w146
        have b146 : Bk w146 p16 (fsC (x.now.app o).1) 77 := f2
        have k146 : Keep (is p16) w141 w146 := f3
        clear f1 f2 f3
        clear_value w146
        have hL141 := hL130.no_ k141
        generalize hR : appM x (nmF x.now.a) n dd o = R at hL141 z1 z2 z3 z4 z5
        rw [← z5] at hL141
        have hL146 : LgR w146 w.heap.size l p q130 R.1 (nmF R.1.now.a) R.2.1 R.2.2.1 := ⟨hL141.dk.keep k146 fun b hb => by
            obtain rfl : b = p16 := hb
            exact ⟨dk_off hL141.dk hB141.ty, fun ht => absurd (ht.uniq hB141.ty) (by decide)⟩, hL141.bk.keep k146 fun hb => (hL141.bk.ty.ne hB141.ty (by decide)) hb, hL141.lo_⟩
        have K146 : Keep no w w146 := (K130.then k141).new k146 (by rintro z rfl; exact hp16)
        intro K150
        have g150 : ∀ b, K150 b false w146 := by
          intro b
          refine cond_f rfl ?_
          exact g158 l q130 R.1 R.2.1 R.2.2.1 _ _ _ _ w146 hL146 z3 (by rw [z2]; exact b146) (by omega) K146
        clear_value K150
        rw [z1, z6]
        refine cond_f (by simp) ?_
        rw [show (!(((x.now.app o).2 == 0) == ((x.now.app o).2 == 0))) = false by simp]
        exact g150 _
    clear_value K31
    refine cond_d (fun hlt => ?_) (fun _ => stop _ _ _)
    by_cases h6 : i < 60
    · rw [decide_eq_true (show (i : Int) < 60 by omega)]; exact round _ _ _ (by omega) h6
    · rw [decide_eq_false (show ¬ (i : Int) < 60 by omega)]; exact stop _ _ _
  clear_value K10
  refine (awakeL_spec w3 (hO _)).mono ?_
  rintro e w6 ⟨rfl, k6⟩
  exact ⟨_, rfl, cond_f rfl (go _ k6)⟩
end Go.Proofs.Ytmfidfaiopogbaa
