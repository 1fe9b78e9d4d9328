/- What RecordOwn answers. -/
import Derived.Test.YtmfidfaiopogbaaShRecs2
import Derived.Test.YtmfidfaiopogbaaShL12
set_option linter.unusedVariables false
set_option linter.unusedSimpArgs false
set_option linter.unusedSectionVars false
set_option maxRecDepth 4000
namespace Go.Proofs.Ytmfidfaiopogbaa
open Go Go.Sh
open Go.RowKit (Below)
theorem ty_lt {w : World} {lo e sz n n' c : Nat} {a : Option Addr} {cs : List Value} (h : w.ownsRow lo e sz (.slice a n' c) n cs) {b : Nat} (hb : OB a b) : b < w.heap.size ∧ lo ≤ b ∧ TyB w b e := by
  have hn : n = n' := by
    rcases h.2 with ⟨h2, h3⟩ | ⟨g, cap, cur, h2, _⟩
    · cases h2; exact h3
    · cases h2; rfl
  subst hn
  have := own_ty (q := ⟨a, n, c⟩) h hb
  exact ⟨this.1.lt, this.2, this.1⟩
theorem own_S {w w' : World} {lo e sz n n' c : Nat} {a : Option Addr} {cs : List Value} {S : Nat → Prop} (h : w.ownsRow lo e sz (.slice a n' c) n cs) (k : Keep S w w') (hS : ∀ b, OB a b → ¬ S b) : w'.ownsRow lo e sz (.slice a n' c) n cs := by
  refine own_keep h k fun b hb => ?_
  cases a with
  | none => cases hb
  | some x => exact hS b ⟨x, rfl, by simpa [Value.ownBlock] using hb⟩
section
variable [Av]
set_option maxHeartbeats 1000000 in
/-- Two records of an operation are two rows of bytes. -/
theorem pair_core {w : World} {good : List Op} {a8 : Option Addr} {l8 c8 base : Nat} (hp : Pl good) (hg : w.ownsRow base 57 5 (.slice a8 l8 c8) l8 (opl good)) (hl : l8 ≤ 4000000000000) {i : Nat} (hi : i < good.length) {K : World → Prop} {F : World → Prop}
    (hK : ∀ w', Keep no w w' → K w') :
    ∃ q70 : Addr, a8 = some q70 ∧ 0 ≤ (i : Int) ∧ (i : Int) < (l8 : Nat) ∧ 
                    ∃ (n71 : Int), ∃ (n72 : Int), ∃ (n73 : Int), ∃ (n74 : Int), ∃ (n75 : Int), w.cell? (q70.add ((i : Int).toNat * 5)) = some (.int .i64 n71) ∧ w.cell? ((q70.add ((i : Int).toNat * 5)).add 1) = some (.int .i64 n72) ∧ w.cell? ((q70.add ((i : Int).toNat * 5)).add 2) = some (.int .i64 n73) ∧ w.cell? ((q70.add ((i : Int).toNat * 5)).add 3) = some (.int .i64 n74) ∧ w.cell? ((q70.add ((i : Int).toNat * 5)).add 4) = some (.int .u32 n75) ∧ 
                    let p76 : Nat := w.heap.size; let w77 : World := w.alloc (.cells #[.int .i64 0, .int .i64 0, .int .i64 0, .int .i64 0, .int .u32 0] 57); 
                    wrN w77 (⟨p76, 0, none⟩ : Addr) 5 ∧ let w78 : World := setN (⟨p76, 0, none⟩ : Addr) 0 [.int .i64 n71, .int .i64 n72, .int .i64 n73, .int .i64 n74, .int .u32 n75] w77; 
                    ∃ (op79 : Int), ∃ (op80 : Int), ∃ (op81 : Int), ∃ (op82 : Int), ∃ (op83 : Int), w78.cell? (⟨p76, 0, none⟩ : Addr) = some (.int .i64 op79) ∧ w78.cell? (⟨p76, 1, none⟩ : Addr) = some (.int .i64 op80) ∧ w78.cell? (⟨p76, 2, none⟩ : Addr) = some (.int .i64 op81) ∧ w78.cell? (⟨p76, 3, none⟩ : Addr) = some (.int .i64 op82) ∧ w78.cell? (⟨p76, 4, none⟩ : Addr) = some (.int .u32 op83) ∧ 
                    Calls Try.prog 37 #[.agg #[.int .i64 op79, .int .i64 op80, .int .i64 op81, .int .i64 op82, .int .u32 op83]] w78 (fun e84 w85 => ∃ (a86 : Option Addr), ∃ (l_a86 : Nat), ∃ (c_a86 : Nat), ∃ (n87 : Int), e84 = .returned (.tuple #[.slice a86 l_a86 c_a86, .int .i64 n87]) ∧ 
                    ∃ (op88 : Int), ∃ (op89 : Int), ∃ (op90 : Int), ∃ (op91 : Int), ∃ (op92 : Int), w85.cell? (⟨p76, 0, none⟩ : Addr) = some (.int .i64 op88) ∧ w85.cell? (⟨p76, 1, none⟩ : Addr) = some (.int .i64 op89) ∧ w85.cell? (⟨p76, 2, none⟩ : Addr) = some (.int .i64 op90) ∧ w85.cell? (⟨p76, 3, none⟩ : Addr) = some (.int .i64 op91) ∧ w85.cell? (⟨p76, 4, none⟩ : Addr) = some (.int .u32 op92) ∧ 
                    Calls Try.prog 37 #[.agg #[.int .i64 op88, .int .i64 op89, .int .i64 op90, .int .i64 op91, .int .u32 op92]] w85 (fun e93 w94 => ∃ (a95 : Option Addr), ∃ (l_a95 : Nat), ∃ (c_a95 : Nat), ∃ (n96 : Int), e93 = .returned (.tuple #[.slice a95 l_a95 c_a95, .int .i64 n96]) ∧ 
                    ∃ (I99 : List Value → World → Prop) (μ100 : List Value → World → Nat), I99 [.int .i64 0] w94 ∧ ∀ (w98 : World) (n97 : Int), I99 [.int .i64 n97] w98 → 
                    cond (decide (n97 < ((l_a86 : Nat) : Int)))
                      (∃ q101 : Addr, a86 = some q101 ∧ 0 ≤ n97 ∧ n97 < (l_a86 : Nat) ∧ 
                      wr w98 (q101.add (n97.toNat * 1)) ∧ let w102 : World := w98.setCell (q101.add (n97.toNat * 1)) (.int .u8 0); 
                      I99 [.int .i64 (IntKind.i64.wrap (n97 + (1 : Int)))] w102 ∧ μ100 [.int .i64 (IntKind.i64.wrap (n97 + (1 : Int)))] w102 < μ100 [.int .i64 n97] w98)
                      (∃ (I106 : List Value → World → Prop) (μ107 : List Value → World → Nat), I106 [.slice a86 l_a86 c_a86, .int .i64 0] w98 ∧ ∀ (w105 : World) (x103 : Option Addr) (l_x103 : Nat) (c_x103 : Nat) (i104 : Int), I106 [.slice x103 l_x103 c_x103, .int .i64 i104] w105 → 
                      cond (decide (i104 < (20 : Int)))
                        (let p108 : Nat := w105.heap.size; let w109 : World := w105.alloc (.cells #[.int .u8 1] 5); 
                        RunWp Try.prog (Builtin.append_ #[36, 36] 36 #[.slice x103 l_x103 c_x103, .slice (some ⟨p108, 0, none⟩) 1 1]) (fun v110 w111 => ∃ (a112 : Option Addr), ∃ (l_a112 : Nat), ∃ (c_a112 : Nat), v110 = .slice a112 l_a112 c_a112 ∧ 
                        I106 [.slice a112 l_a112 c_a112, .int .i64 (IntKind.i64.wrap (i104 + (1 : Int)))] w111 ∧ μ107 [.slice a112 l_a112 c_a112, .int .i64 (IntKind.i64.wrap (i104 + (1 : Int)))] w111 < μ107 [.slice x103 l_x103 c_x103, .int .i64 i104] w105) w109)
                        (let w113 : World := w105.drew; 
                        RunWp Try.prog (convert 36 9 (.slice a95 l_a95 c_a95)) (fun v114 w115 => w115 = w113 ∧ ∃ (s116 : ByteArray), v114 = .string s116 ∧ 
                        ∃ (op117 : Int), ∃ (op118 : Int), ∃ (op119 : Int), ∃ (op120 : Int), ∃ (op121 : Int), w113.cell? (⟨p76, 0, none⟩ : Addr) = some (.int .i64 op117) ∧ w113.cell? (⟨p76, 1, none⟩ : Addr) = some (.int .i64 op118) ∧ w113.cell? (⟨p76, 2, none⟩ : Addr) = some (.int .i64 op119) ∧ w113.cell? (⟨p76, 3, none⟩ : Addr) = some (.int .i64 op120) ∧ w113.cell? (⟨p76, 4, none⟩ : Addr) = some (.int .u32 op121) ∧ 
                        Calls Try.prog 39 #[.agg #[.int .i64 op117, .int .i64 op118, .int .i64 op119, .int .i64 op120, .int .u32 op121]] w113 (fun e122 w123 => ∃ (a124 : Option Addr), ∃ (l_a124 : Nat), ∃ (c_a124 : Nat), e122 = .returned (.slice a124 l_a124 c_a124) ∧ 
                        (RunWp Try.prog (convert 36 9 (.slice a95 l_a95 c_a95)) (fun v125 w126 => w126 = w123 ∧ ∃ (s127 : ByteArray), v125 = .string s127 ∧ 
                          (some (.string s116) : Option Value) = some (.string s127)) w123)
                        ∧ (RunWp Try.prog (convert 36 9 (.slice a124 l_a124 c_a124)) (fun v128 w129 => w129 = w123 ∧ ∃ (s130 : ByteArray), v128 = .string s130 ∧ 
                          cond (!(s116.toList == s130.toList))
                            (F w123)
                            (K w123)) w123))) w113)))) := by
  have hl8 : l8 = good.length := by have := hg.1; rw [opl_length] at this; omega
  obtain ⟨_, q, hq, c0, c1, c2, c3, c4⟩ := rd_op (Rd.own0 hg) hi
  have hxf := hp good[i] (List.getElem_mem hi)
  generalize good[i] = x at c0 c1 c2 c3 c4 hxf
  refine ⟨q, hq, by omega, by omega, x.k, x.e, x.u, x.v, x.b, by rw [Int.toNat_natCast]; exact c0, by rw [Int.toNat_natCast]; exact c1, by rw [Int.toNat_natCast]; exact c2, by rw [Int.toNat_natCast]; exact c3, by rw [Int.toNat_natCast]; exact c4, ?_⟩
  intro p76 w77
  have b77 : Bk w77 p76 #[.int .i64 0, .int .i64 0, .int .i64 0, .int .i64 0, .int .u32 0] 57 := Bk.new w _ _
  have k77 : Keep no w w77 := Keep.alloc _ _ _
  have h76 : w.heap.size ≤ p76 := Nat.le_refl _
  clear_value p76 w77
  obtain ⟨f1, f2, f3⟩ := fin5 (a := .int .i64 x.k) (b := .int .i64 x.e) (c := .int .i64 x.u) (d := .int .i64 x.v) (e := .int .u32 x.b) b77 rfl
  refine ⟨f1, ?_⟩
  intro w78
  have b78 : Bk w78 p76 (opC x) 57 := f2
  have k78 : Keep no w w78 := k77.new f3 (by rintro z rfl; exact h76)
  clear_value w78
  refine ⟨_, _, _, _, _, b78.cell 0, b78.cell 1, b78.cell 2, b78.cell 3, b78.cell 4, ?_⟩
  have henc : ∀ (u u' : World) (e : Ending), EncD u u' x e → ∃ (s1 : Option Addr) (s2 s3 : Nat), e = .returned (.tuple #[.slice s1 s2 s3, .int .i64 0]) ∧ Keep no u u' ∧ u'.ownsRow u.heap.size 5 1 (.slice s1 s2 s3) s2 (bvs (er x)) := by
    rintro u u' e ⟨s, cd, rfl, ku, hcase⟩
    have he := enc_is hxf.2
    rcases hcase with ⟨h1, _⟩ | ⟨l', h1, h2, h3⟩
    · rw [he] at h1; cases h1
    · rw [he] at h1
      have := Option.some.inj h1
      subst this
      exact ⟨s.a, s.n, s.c, by rw [h2], ku, h3⟩
  refine (Encode_spec w78 hxf.1).mono ?_
  intro e w85 hE
  obtain ⟨s1, s2, s3, rfl, k85, o85⟩ := henc _ _ _ hE
  refine ⟨_, _, _, _, rfl, ?_⟩
  have b85 := b78.no k85
  refine ⟨_, _, _, _, _, b85.cell 0, b85.cell 1, b85.cell 2, b85.cell 3, b85.cell 4, ?_⟩
  refine (Encode_spec w85 hxf.1).mono ?_
  intro e w94 hE2
  obtain ⟨t1, t2, t3, rfl, k94, o94⟩ := henc _ _ _ hE2
  refine ⟨_, _, _, _, rfl, ?_⟩
  have her := er_len hxf.2
  have hs2 : s2 = (er x).length := by have := o85.1; simp at this; exact this.symm
  have b94 := b85.no k94
  -- what is written: the first record's row
  have hS : ∀ b, OB s1 b → w.heap.size ≤ b ∧ b < w85.heap.size ∧ TyB w94 b 5 := fun b hb => by
    have h1 := ty_lt o85 hb
    exact ⟨Nat.le_trans k78.size h1.2.1, h1.1, (h1.2.2).keep k94 id⟩
  have K94 : Keep no w w94 := (k78.then k85).then k94
  -- what holds behind any such writing
  have after : ∀ v, Keep (OB s1) w94 v → Keep no w v ∧ Bk v p76 (opC x) 57 ∧ v.ownsRow w85.heap.size 5 1 (.slice t1 t2 t3) t2 (bvs (er x)) := by
    intro v kv
    refine ⟨K94.new kv fun b hb => (hS b hb).1, b94.keep kv fun hb => absurd ((hS p76 hb).2.2.uniq b94.ty) (by decide), own_S o94 kv fun b hb hb2 => ?_⟩
    have h1 := ty_lt o94 hb
    have h2 := hS b hb2
    omega
  have o94' := own_no' o85 k94
  refine ⟨fun vs v => ∃ (j : Nat) (zs : List Value), vs = [.int .i64 j] ∧ j ≤ s2 ∧ v.ownsRow w78.heap.size 5 1 (.slice s1 s2 s3) s2 zs ∧ Keep (OB s1) w94 v, fun vs v => match vs with | [.int _ j] => s2 - j.toNat | _ => 0, ⟨0, _, rfl, by omega, o94', Keep.refl _ _⟩, ?_⟩
  rintro w98 n97 ⟨j, zs, hv, hj, oz, k98⟩
  cases hv
  have ej : ∀ m : Nat, m ≤ 1000 → IntKind.i64.wrap ((m : Int) + 1) = ((m + 1 : Nat) : Int) := fun m hm => by rw [IntWalk.i64_in _ ⟨by omega, by omega⟩]; rfl
  refine cond_d (fun hlt => ?_) (fun hge => ?_)
  · obtain ⟨q1, hq1, hw1, ow1, kw1⟩ := own_set oz (i := j) (by omega) (.int .u8 0)
    refine ⟨q1, hq1, by omega, by omega, by rw [Int.toNat_natCast]; exact hw1, ?_⟩
    rw [Int.toNat_natCast, ej j (by omega)]
    refine ⟨⟨j + 1, _, rfl, by omega, ow1, k98.then kw1⟩, ?_⟩
    show s2 - ((j + 1 : Nat) : Int).toNat < s2 - (j : Int).toNat
    omega
  · refine ⟨fun vs v => ∃ (j : Nat) (x1 : Option Addr) (x2 x3 : Nat) (zs : List Value), vs = [.slice x1 x2 x3, .int .i64 j] ∧ j ≤ 20 ∧ x2 = s2 + j ∧ v.ownsRow w78.heap.size 5 1 (.slice x1 x2 x3) x2 zs ∧ Keep (OB s1) w94 v ∧ (∀ b, OB x1 b → OB s1 b ∨ w94.heap.size ≤ b),
      fun vs v => match vs with | [_, .int _ j] => 20 - j.toNat | _ => 0, ?_, ?_⟩
    · exact ⟨0, s1, s2, s3, zs, rfl, by omega, rfl, oz, k98, fun b hb => .inl hb⟩
    rintro w105 x1 x2 x3 i104 ⟨j', y1, y2, y3, zs', hv, hj', hx2, ox, k105, hx1⟩
    cases hv
    refine cond_d (fun hlt => ?_) (fun hge => ?_)
    · intro p108 w109
      have r109 : Rd w109 0 1 (some ⟨p108, 0, none⟩) 1 1 (bvs [1]) := one_rd (w := w105) 1
      have k109 : Keep no w105 w109 := Keep.alloc _ _ _
      clear_value p108 w109
      refine rw_append E36 (own_no' ox k109) r109 (bvs_one _) (by omega) (by simp only [maxLen]; omega) (Nat.le_trans (k85.then k94).size (Nat.le_trans k105.size k109.size)) fun a112 c112 w111 o111 k111 hwh => ?_
      rw [ej j' (by omega)]
      have K109 : Keep (OB s1) w94 w109 := k105.no k109
      refine ⟨⟨j' + 1, a112, x2 + 1, c112, zs' ++ bvs [1], rfl, by omega, by omega, o111, K109.trans k111 (fun _ _ h => h) fun b hb hb2 => ?_, ?_⟩, ?_⟩
      · rcases hx1 b hb2 with h | h
        · exact h
        · omega
      · intro b hb
        rcases hwh with rfl | rfl
        · exact hx1 b hb
        · obtain ⟨z, hz, rfl⟩ := hb
          cases hz
          exact .inr K109.size
      · show 20 - ((j' + 1 : Nat) : Int).toNat < 20 - (j' : Int).toNat
        omega
    · intro w113
      have k113 : Keep (OB s1) w94 w113 := k105.no (Keep.drew _ _)
      clear_value w113
      obtain ⟨A1, A2, A3⟩ := after w113 k113
      refine rw_str Try.underlying36 Try.underlying5 Try.underlying9 (Rd.own0 A3) ?_
      refine ⟨_, _, _, _, _, A2.cell 0, A2.cell 1, A2.cell 2, A2.cell 3, A2.cell 4, ?_⟩
      refine (EncodeR_spec w113 hxf.1 hxf.2).mono ?_
      rintro e w123 ⟨s9, rfl, k123, hs9⟩
      refine ⟨_, _, _, rfl, ?_, ?_⟩
      · exact rw_str Try.underlying36 Try.underlying5 Try.underlying9 (Rd.own0 (own_no' A3 k123)) rfl
      have hs9' : w123.ownsRow w113.heap.size 5 1 s9.v s9.n (bvs (er x)) := hs9
      refine rw_str Try.underlying36 Try.underlying5 Try.underlying9 (Rd.own0 hs9') ?_
      rw [beq_strD]
      exact cond_f (by simp) (hK _ (A1.then k123))

set_option maxHeartbeats 1000000 in
theorem ownR_core {w : World} {n c : Nat} {a : Option Addr} {xs : List Op} (h : Rd w 0 5 a n c (opl xs)) (hf : ∀ x ∈ xs, x.fit) (hsz : n * 40 ≤ 140737488351232) :
    Calls Try.prog 12 #[.slice a n c] w fun e w' => e = .returned (.bool true) ∧ Below w.heap.size w w' := by
  have hnx := op_n h
  refine c12 ?_
  unfold sh12
  refine (awakeR_spec w).mono ?_
  rintro e w3 ⟨rfl, k3⟩
  refine ⟨_, rfl, cond_f rfl ?_⟩
  refine (Records_spec (h.no k3) hf hsz).mono ?_
  rintro e w6 ⟨s1, s2, s3, t1, t2, t3, u1, u2, u3, rfl, k6, hob, hog⟩
  refine ⟨_, _, _, _, _, _, _, _, _, rfl, ?_⟩
  have hpl : Pl (goods xs) := goods_pl hf
  have hgl := goods_len xs
  generalize goods xs = ys at *
  have hs2 : s2 = (recs ys).length := by have := hob.1; simp at this; exact this.symm
  have ht2 : t2 = ys.length := by have := hog.1; rw [opl_length] at this; omega
  have hrl := recs_len hpl
  have hsc : scan (recs ys) = (ys, (recs ys).length) := by
    have := scan_recs hpl []
    rw [List.append_nil, scan_none (b := []) rfl, List.append_nil] at this
    exact this
  have K6 := k3.then k6
  intro p10 w11
  have o11 : w11.ownsRow w6.heap.size 5 1 (.slice (some ⟨p10, 0, none⟩) 0 0) 0 (bvs []) := lit_own w6 5 1 (Nat.le_refl _)
  have k11 : Keep no w6 w11 := Keep.alloc _ _ _
  clear_value p10 w11
  refine app5 o11 (Rd.own0 (own_no' hob k11)) (by omega) k11.size (Nat.le_refl _) k11 fun a14 c14 w13 o13 k13 _ => ?_
  rw [List.nil_append] at o13
  intro p15 w16
  have r16 : Rd w16 0 1 (some ⟨p15, 0, none⟩) 1 1 (bvs [3]) := one_rd (w := w13) 3
  have k16 : Keep no w13 w16 := Keep.alloc _ _ _
  clear_value p15 w16
  refine app5 (own_no' o13 k16) r16 (by omega) (k13.then k16).size (Nat.le_refl _) (k13.then k16) fun a19 c19 w18 o18 k18 _ => ?_
  have hlen : 0 + s2 = s2 := Nat.zero_add _
  rw [hlen] at o18
  rw [hlen]
  have r18 : Rd w18 0 1 a19 (s2 + 1) c19 (bvs (recs ys ++ [3])) := Rd.own0 o18
  have hc19 := r18.2.1
  refine ⟨by omega, by omega, ?_⟩
  rw [Int.toNat_natCast s2]
  have htake : ∀ v, Keep no w18 v → Rd v 0 1 (subS a19 c19 0 1) (s2 - 0) (c19 - 0) (bvs (recs ys)) := by
    intro v kv
    have := Rd.takeB (r18.no kv) (r := s2) (by omega)
    rw [hs2, List.take_left] at this
    rw [hs2]; exact this
  refine (Scan_spec (htake w18 (Keep.refl _ _)) (by rw [hsc]; simp only; omega)).mono ?_
  rw [hsc]
  rintro e w21 ⟨⟨l1, l2, l3⟩, rfl, k21, ho21, hl2⟩
  refine ⟨l1, l2, l3, _, rfl, by omega, by omega, ?_⟩
  refine (Scan_spec (htake w21 k21) (by rw [hsc]; simp only; omega)).mono ?_
  rw [hsc]
  rintro e w25 ⟨⟨m1, m2, m3⟩, rfl, k25, ho25, hm2⟩
  refine ⟨m1, m2, m3, _, rfl, ?_⟩
  simp only at hl2 hm2
  intro K39 w28
  have k28 : Keep no w25 w28 := Keep.drew _ _
  clear_value w28
  have K18 : Keep no w6 w18 := k18
  have k18' : Keep no w18 w28 := (k21.then k25).then k28
  have K28 : Keep no w w28 := (K6.then K18).then k18'
  refine ⟨by omega, by omega, ?_⟩
  have og28 := own_no' hog (K18.then k18')
  have om28 : w28.ownsRow w21.heap.size 57 5 (.slice m1 m2 m3) m2 (opl ys) := own_no' ho25 k28
  have ol28 : w28.ownsRow w18.heap.size 57 5 (.slice l1 l2 l3) l2 (opl ys) := own_no' (v := .slice l1 l2 l3) ho21 (k25.then k28)
  have or28 := own_no' o18 k18'
  -- where these rows lie
  have hgb : ∀ b, OB t1 b → b < w18.heap.size ∧ TyB w28 b 57 := fun b hb => ⟨Nat.lt_of_lt_of_le (ty_lt hog hb).1 K18.size, (ty_lt og28 hb).2.2⟩
  have hmb : ∀ b, OB m1 b → w21.heap.size ≤ b ∧ TyB w28 b 57 := fun b hb => ⟨(ty_lt om28 hb).2.1, (ty_lt om28 hb).2.2⟩
  have hlb : ∀ b, OB l1 b → w18.heap.size ≤ b ∧ b < w21.heap.size ∧ TyB w28 b 57 := fun b hb => ⟨(ty_lt ol28 hb).2.1, (ty_lt (c := l3) (n' := l2) (a := l1) ho21 hb).1, (ty_lt ol28 hb).2.2⟩
  have hrb : ∀ b, OB a19 b → w6.heap.size ≤ b ∧ TyB w28 b 5 := fun b hb => ⟨(ty_lt or28 hb).2.1, (ty_lt or28 hb).2.2⟩
  have go : K39 false w28 := by
    refine cond_f rfl ?_
    -- what is written: the room, and the first answer
    have after : ∀ v, Keep (fun b => OB a19 b ∨ OB l1 b) w28 v → Keep no w v ∧ v.ownsRow w21.heap.size 57 5 (.slice m1 m2 m3) m2 (opl ys) ∧ v.ownsRow w3.heap.size 57 5 (.slice t1 t2 t3) t2 (opl ys) := by
      intro v kv
      refine ⟨K28.new kv fun b hb => ?_, own_S om28 kv fun b hb hb2 => ?_, own_S og28 kv fun b hb hb2 => ?_⟩
      · rcases hb with hb | hb
        · exact Nat.le_trans K6.size (hrb b hb).1
        · exact Nat.le_trans (K6.then K18).size (hlb b hb).1
      · rcases hb2 with hb2 | hb2
        · exact absurd ((hmb b hb).2.uniq (hrb b hb2).2) (by decide)
        · have h1 := hmb b hb
          have h2 := hlb b hb2
          omega
      · rcases hb2 with hb2 | hb2
        · exact absurd ((hgb b hb).2.uniq (hrb b hb2).2) (by decide)
        · have h1 := hgb b hb
          have h2 := hlb b hb2
          omega
    have ej : ∀ m : Nat, m ≤ 1000000000000000000 → IntKind.i64.wrap ((m : Int) + 1) = ((m + 1 : Nat) : Int) := fun m hm => by rw [IntWalk.i64_in _ ⟨by omega, by omega⟩]; rfl
    refine ⟨fun vs v => ∃ (j : Nat) (zs : List Value), vs = [.int .i64 j] ∧ j ≤ s2 + 1 ∧ v.ownsRow w6.heap.size 5 1 (.slice a19 (s2 + 1) c19) (s2 + 1) zs ∧ Keep (OB a19) w28 v, fun vs v => match vs with | [.int _ j] => s2 + 1 - j.toNat | _ => 0, ⟨0, _, rfl, by omega, or28, Keep.refl _ _⟩, ?_⟩
    rintro w41 n40 ⟨j, zs, hv, hj, oz, k41⟩
    cases hv
    refine cond_d (fun hlt => ?_) (fun hge => ?_)
    · obtain ⟨q1, hq1, hw1, ow1, kw1⟩ := own_set oz (i := j) (by omega) (.int .u8 0)
      refine ⟨q1, hq1, by omega, by omega, by rw [Int.toNat_natCast]; exact hw1, ?_⟩
      rw [Int.toNat_natCast, ej j (by omega)]
      refine ⟨⟨j + 1, _, rfl, by omega, ow1, k41.then kw1⟩, ?_⟩
      show s2 + 1 - ((j + 1 : Nat) : Int).toNat < s2 + 1 - (j : Int).toNat
      omega
    have ol41 : w41.ownsRow w18.heap.size 57 5 (.slice l1 l2 l3) l2 (opl ys) := own_S ol28 k41 fun b hb hb2 => absurd ((hlb b hb).2.2.uniq (hrb b hb2).2) (by decide)
    have k41' : Keep (fun b => OB a19 b ∨ OB l1 b) w28 w41 := k41.mono fun b _ hb => .inl hb
    refine ⟨fun vs v => ∃ (j : Nat) (zs : List Value), vs = [.int .i64 j] ∧ j ≤ l2 ∧ v.ownsRow w18.heap.size 57 5 (.slice l1 l2 l3) l2 zs ∧ Keep (fun b => OB a19 b ∨ OB l1 b) w28 v, fun vs v => match vs with | [.int _ j] => l2 - j.toNat | _ => 0, ⟨0, _, rfl, by omega, ol41, k41'⟩, ?_⟩
    rintro w47 n46 ⟨j1, zs1, hv, hj1, ol47, k47⟩
    cases hv
    refine cond_d (fun hlt => ?_) (fun hge => ?_)
    · obtain ⟨q1, hq1, hw1, ⟨ys1, ow1⟩, kw1⟩ := own_cells ol47 (i := j1) (by omega) (by omega) [.int .i64 99, .int .i64 0, .int .i64 0, .int .i64 0, .int .u32 0] rfl
      refine ⟨q1, hq1, by omega, by omega, by rw [Int.toNat_natCast]; exact hw1, ?_⟩
      rw [Int.toNat_natCast, ej j1 (by omega)]
      refine ⟨⟨j1 + 1, _, rfl, by omega, ow1, k47.trans kw1 (fun _ _ h => h) fun b _ hb => .inr hb⟩, ?_⟩
      show l2 - ((j1 + 1 : Nat) : Int).toNat < l2 - (j1 : Int).toNat
      omega
    refine ⟨fun vs v => ∃ (j : Nat) (x1 : Option Addr) (x2 x3 : Nat) (zs : List Value), vs = [.slice x1 x2 x3, .int .i64 j] ∧ j ≤ 20 ∧ x2 = l2 + j ∧ v.ownsRow w18.heap.size 57 5 (.slice x1 x2 x3) x2 zs ∧ Keep (fun b => OB a19 b ∨ OB l1 b) w28 v ∧ (∀ b, OB x1 b → OB l1 b ∨ w28.heap.size ≤ b),
      fun vs v => match vs with | [_, .int _ j] => 20 - j.toNat | _ => 0, ⟨0, l1, l2, l3, zs1, rfl, by omega, rfl, ol47, k47, fun b hb => .inl hb⟩, ?_⟩
    rintro w54 x1 x2 x3 i53 ⟨j2, y1, y2, y3, zs2, hv, hj2, hx2, ox, k54, hx1⟩
    cases hv
    refine cond_d (fun hlt => ?_) (fun hge => ?_)
    · intro p57 w58
      have b58 : Bk w58 p57 #[.int .i64 98, .int .i64 0, .int .i64 0, .int .i64 0, .int .u32 0] 57 := Bk.new w54 _ _
      have k58 : Keep no w54 w58 := Keep.alloc _ _ _
      clear_value p57 w58
      refine rw_append E64 (own_no' ox k58) (Rd.blk0 (sz := 5) (n := 1) b58 rfl (by simp [maxLen])) (by simp [one1]) (by omega) (by simp only [maxLen]; omega) (Nat.le_trans k18'.size (Nat.le_trans k54.size k58.size)) fun a61 c61 w60 o60 k60 hwh => ?_
      rw [ej j2 (by omega)]
      have K58 := k54.no k58
      refine ⟨⟨j2 + 1, a61, x2 + 1, c61, _, rfl, by omega, by omega, o60, K58.trans k60 (fun _ _ h => h) fun b hb hb2 => ?_, ?_⟩, ?_⟩
      · rcases hx1 b hb2 with h | h
        · exact .inr h
        · omega
      · intro b hb
        rcases hwh with rfl | rfl
        · exact hx1 b hb
        · obtain ⟨z, hz, rfl⟩ := hb
          cases hz
          exact .inr K58.size
      · show 20 - ((j2 + 1 : Nat) : Int).toNat < 20 - (j2 : Int).toNat
        omega
    obtain ⟨A1, A2, A3⟩ := after w54 k54
    refine (Same_spec (Rd.own0 A2) (Rd.own0 A3)).mono ?_
    rintro e w63 ⟨k63, r, rfl, hr⟩
    refine ⟨_, rfl, ?_⟩
    rw [hr.2 rfl]
    refine cond_f rfl ?_
    have A1' := A1.then k63
    refine ⟨fun vs v => ∃ i : Nat, vs = [.bool false, .int .i64 i] ∧ i ≤ ys.length ∧ Keep no w63 v, fun vs v => match vs with | [_, .int _ i] => ys.length - i.toNat | _ => 0, ⟨0, rfl, by omega, Keep.refl _ _⟩, ?_⟩
    rintro w67 b65 n66 ⟨i, hv, hi, k67⟩
    cases hv
    refine cond_d (fun hlt => ?_) (fun hge => ?_)
    · refine pair_core hpl (own_no' A3 (k63.then k67)) (by omega) (i := i) (by omega) (K := fun w123 => _) (F := fun w123 => _) fun w' k' => ?_
      rw [ej i (by omega)]
      refine ⟨⟨i + 1, rfl, by omega, k67.then k'⟩, ?_⟩
      show ys.length - ((i + 1 : Nat) : Int).toNat < ys.length - (i : Int).toNat
      omega
    · exact ⟨rfl, (A1'.then k67).below⟩
  clear_value K39
  refine rw_str Try.underlying36 Try.underlying5 Try.underlying9 (htake w28 k18') ?_
  refine rw_str Try.underlying36 Try.underlying5 Try.underlying9 (Rd.own0 (own_no' hob (K18.then k18'))) ?_
  rw [beq_strD]
  refine cond_f (by simp) ?_
  obtain ⟨q, hq, hc⟩ := rd_at (r18.no k18') (i := s2) (by simp; omega)
  refine ⟨q, hq, by omega, by omega, 3, ?_, go⟩
  rw [hc]
  congr 2
  have : (recs ys ++ [(3 : UInt8)])[s2]'(by simp; omega) = 3 := by
    rw [List.getElem_append_right (by omega)]
    simp [hs2]
  rw [this]; rfl
end
theorem ownR_row {w : World} {s : Sv} (h : OpsRd w s) : Calls Try.prog 12 #[.slice s.a s.n s.c] w fun e w' => e = .returned (.bool true) ∧ Below w.heap.size w w' := by
  obtain ⟨xs, h1, h2, h3⟩ := h
  exact @ownR_core noAv _ _ _ _ _ h1 h2 h3
end Go.Proofs.Ytmfidfaiopogbaa
