/- The reference's Rewrite over three texts; the log and the texts agree. -/
import Derived.Test.YtmfidfaiopogbaaShStr2
set_option linter.unusedVariables false
set_option linter.unusedSimpArgs false
set_option linter.unusedSectionVars false
set_option maxRecDepth 4000
namespace Go.Proofs.Ytmfidfaiopogbaa
open Go Go.Sh
theorem plains_append : ∀ (a b : List Op), plains (a ++ b) = match plains a with
    | none => none
    | some p => (plains b).map (p ++ ·)
  | [], b => by simp [plains]
  | o :: r, b => by
    simp only [List.cons_append, plains]
    cases plain o with
    | none => rfl
    | some l =>
      simp only [plains_append r b]
      cases plains r with
      | none => rfl
      | some p => simp only [Option.map_some, Option.map_map]; congr 1
theorem plains_snoc (os : List Op) (i : Nat) (h : i < os.length) : plains (os.take (i + 1)) = match plains (os.take i) with
    | none => none
    | some p => (plain os[i]).map fun y => p ++ [y] := by
  rw [List.take_succ_eq_append_getElem h, plains_append]
  cases plains (os.take i) with
  | none => rfl
  | some p =>
    simp only [plains]
    cases plain os[i] with
    | none => rfl
    | some l => simp [plains]
theorem plains_bad {os : List Op} {i : Nat} (h : i < os.length) (hn : plain os[i] = none) : plains os = none := by
  have e : plains (os.take i ++ os[i] :: os.drop (i + 1)) = none := by
    rw [plains_append]
    cases plains (os.take i) with
    | none => rfl
    | some p => simp [plains, hn]
  rw [← List.drop_eq_getElem_cons h, List.take_append_drop] at e
  exact e
theorem encs_plains : ∀ os : List Op, encs os = (plains os).map recs
  | [] => rfl
  | o :: r => by
    simp only [encs, plains]
    cases hp : plain o with
    | none => rw [(enc_plain o).2 hp]; rfl
    | some y =>
      rw [enc_of hp, encs_plains r]
      cases plains r with
      | none => rfl
      | some ps => rfl
theorem plains_pl : ∀ {os ys : List Op}, (∀ o ∈ os, o.fit) → plains os = some ys → Pl ys ∧ ys.length = os.length
  | [], ys, _, h => by simp [plains] at h; subst h; exact ⟨fun y hy => by simp at hy, rfl⟩
  | o :: r, ys, hf, h => by
    simp only [plains] at h
    cases hp : plain o with
    | none => rw [hp] at h; cases h
    | some y =>
      rw [hp] at h
      simp only [Option.map_eq_some_iff] at h
      obtain ⟨z, hz, rfl⟩ := h
      obtain ⟨h1, h2⟩ := plains_pl (fun o' ho' => hf o' (List.mem_cons_of_mem _ ho')) hz
      have hyf : y.fit := @plain_fit noAv _ _ (hf o (List.mem_cons_self ..)) hp
      refine ⟨fun q hq => ?_, by simp [h2]⟩
      rcases List.mem_cons.1 hq with rfl | hq
      · exact ⟨hyf, ((enc_plain o).1 _ hp).2.2.2⟩
      · exact h1 q hq
section
variable [Av]
theorem rew60_spec {w : World} (hO : Old w) (s : Fs) (hs : s.small) {a : Option Addr} {m c e2 : Nat} {os : List Op} (hro : Rd w e2 5 a m c (opl os)) (hfit : ∀ o ∈ os, o.fit) (hm : m ≤ 100000) :
    Calls Try.prog 60 #[fsV s, .slice a m c] w fun e v => e = .returned (.tuple #[fsV (s.rew os).1, .int .i64 (s.rew os).2]) ∧ Keep no w v := by
  have hmo := op_n hro
  refine c60 ?_
  unfold sh60
  intro p5 w6 p7 w8
  have b5 : Bk w8 p5 (fsC s) 77 := (Bk.new w _ _).alloc _
  have b7 : Bk w8 p7 (fsC ⟨[], [], []⟩) 77 := Bk.new w6 _ _
  have k8 : Keep no w w8 := (Keep.alloc _ _ _).then (Keep.alloc _ _ _)
  have h5 : w.heap.size ≤ p5 := Nat.le_refl _
  have h7 : w.heap.size ≤ p7 := by show w.heap.size ≤ w6.heap.size; simp [w6]
  have h57 : p5 ≠ p7 := by show w.heap.size ≠ w6.heap.size; simp [w6]
  clear_value p5 w6 p7 w8
  have out : ∀ (v : World) (T : Fs) (code : Int), Bk v p5 (fsC T) 77 → Bk v p7 (fsC ⟨[], [], []⟩) 77 → Keep no w v → (T, code) = s.rew os →
      wrN v ⟨p7, 0, none⟩ 3 ∧ ∃ (s65 : ByteArray), ∃ (s66 : ByteArray), ∃ (s67 : ByteArray), (setN ⟨p7, 0, none⟩ 0 [.string (str T.a), .string (str T.b), .string (str T.c)] v).cell? (⟨p7, 0, none⟩ : Addr) = some (.string s65) ∧ (setN ⟨p7, 0, none⟩ 0 [.string (str T.a), .string (str T.b), .string (str T.c)] v).cell? (⟨p7, 1, none⟩ : Addr) = some (.string s66) ∧ (setN ⟨p7, 0, none⟩ 0 [.string (str T.a), .string (str T.b), .string (str T.c)] v).cell? (⟨p7, 2, none⟩ : Addr) = some (.string s67) ∧
        (Ending.returned (.tuple #[.agg #[.string s65, .string s66, .string s67], .int .i64 code]) = .returned (.tuple #[fsV (s.rew os).1, .int .i64 (s.rew os).2]) ∧ Keep no w (setN ⟨p7, 0, none⟩ 0 [.string (str T.a), .string (str T.b), .string (str T.c)] v)) := by
    intro v T code hB hB13 kv hT
    obtain ⟨f1, f2, f3⟩ := fin3 (a := .string (str T.a)) (b := .string (str T.b)) (c := .string (str T.c)) hB13 rfl
    exact ⟨f1, _, _, _, f2.cell 0, f2.cell 1, f2.cell 2, by rw [← hT], kv.new f3 (by rintro z rfl; exact h7)⟩
  refine ⟨fun vs v => ∃ (i : Nat) (g1 : Option Addr) (g2 g3 : Nat) (ps : List Op), vs = [.int .i64 0, .slice g1 g2 g3, .int .i64 i] ∧ i ≤ m ∧ plains (os.take i) = some ps ∧ Bk v p5 (fsC s) 77 ∧ Bk v p7 (fsC ⟨[], [], []⟩) 77 ∧ v.ownsRow w.heap.size 57 5 (.slice g1 g2 g3) g2 (opl ps) ∧ Keep no w v,
    fun vs v => match vs with | [_, _, .int _ i] => m - i.toNat | _ => 0, ⟨0, none, 0, 0, [], rfl, by omega, by simp [plains], b5, b7, World.ownsRow_nil _ _ _ _, k8⟩, ?_⟩
  rintro w12 n9 g1 g2 g3 i11 ⟨i, x1, x2, x3, ps, hv, hi, hps, c5, c7, hog, k12⟩
  cases hv
  have hg2 := opl_nx hog
  obtain ⟨hpp, hpl⟩ := plains_pl (fun o ho => hfit o (List.mem_of_mem_take ho)) hps
  rw [List.length_take] at hpl
  refine cond_d (fun hlt => ?_) (fun hge => ?_)
  · have hi' : i < os.length := by omega
    obtain ⟨qz, hqz, z1, z2, o0, o1, o2, o3, o4⟩ := opCell (hro.no k12) hi'
    have hsn := plains_snoc os i hi'
    have hbad := plains_bad (os := os) hi'
    have hxf := hfit os[i] (List.getElem_mem hi')
    generalize os[i] = x at o0 o1 o2 o3 o4 hsn hbad hxf
    refine ⟨qz, hqz, z1, z2, _, _, _, _, _, o0, o1, o2, o3, o4, ?_⟩
    refine (plainE w12 x).mono ?_
    rintro e w22 ⟨k22, y, cd, rfl, hcd⟩
    refine ⟨_, _, _, _, _, _, rfl, ?_⟩
    obtain ⟨f1, f2, f3⟩ := opNew w22 y
    intro p29 w30
    refine ⟨f1, ?_⟩
    intro w31
    have b31 : Bk w31 p29 (opC y) 57 := f2
    have k31 : Keep no w22 w31 := f3
    clear f1 f2 f3
    clear_value p29 w30 w31
    have k31' := k22.then k31
    have d5 := c5.no k31'
    have d7 := c7.no k31'
    have K31 := k12.then k31'
    rcases hcd with ⟨rfl, hp⟩ | ⟨rfl, hp⟩
    · refine cond_f rfl ⟨_, _, _, _, _, b31.cell 0, b31.cell 1, b31.cell 2, b31.cell 3, b31.cell 4, ?_⟩
      intro p41 w42
      have hog31 := own_no' hog k31'
      refine opPush hog31 (by omega) K31.size y ?_
      intro u1 u2 u3 w44 hou hu2 k44
      have hgb : ∀ b, OB g1 b → w.heap.size ≤ b ∧ TyB w31 b 57 := fun b hb => ⟨(ty_lt hog31 hb).2.1, (ty_lt hog31 hb).2.2⟩
      have ei : IntKind.i64.wrap ((i : Int) + 1) = ((i + 1 : Nat) : Int) := by rw [IntWalk.i64_in _ ⟨by omega, by omega⟩]; rfl
      rw [ei]
      refine ⟨⟨i + 1, u1, u2, u3, ps ++ [y], rfl, by omega, ?_, d5.keep k44 fun hb => absurd ((hgb _ hb).2.uniq d5.ty) (by decide), d7.keep k44 fun hb => absurd ((hgb _ hb).2.uniq d7.ty) (by decide), hou, K31.new k44 fun b hb => (hgb b hb).1⟩, ?_⟩
      · rw [hsn, hps, hp]; rfl
      · show m - ((i + 1 : Nat) : Int).toNat < m - (i : Int).toNat
        omega
    · refine cond_t rfl ⟨_, _, _, d5.cell 0, d5.cell 1, d5.cell 2, ?_⟩
      exact out w31 s 190 d5 d7 K31 (by unfold Fs.rew; rw [hbad hp])
  · rw [List.take_of_length_le (by omega)] at hps
    have hrl := recs_len hpp
    refine (bytes_spec hog hpp (by omega)).mono ?_
    rintro e w47 ⟨rfl, k47⟩
    refine ⟨_, rfl, ?_⟩
    have d5 := c5.no k47
    have d7 := c7.no k47
    have K47 := k12.then k47
    have hf := nmF_two s.a
    have hrw : s.rew os = if 32768 < (recs ps).length then (s, 181) else (((s.set (nmF s.a) []).set (3 - nmF s.a) (recs ps)).set 0 [UInt8.ofNat (3 - nmF s.a)], 0) := by unfold Fs.rew; rw [hps]
    rw [str_size]
    refine cond_d (fun hbig => ?_) (fun hsm => ?_)
    · refine ⟨_, _, _, d5.cell 0, d5.cell 1, d5.cell 2, ?_⟩
      exact out w47 s 181 d5 d7 K47 (by rw [hrw, if_pos (by omega)])
    refine ⟨by omega, by omega, str s.a, d5.cell 0, ?_⟩
    refine (file_spec w47 s.a).mono ?_
    rintro e w55 ⟨rfl, rfl⟩
    generalize hff : nmF s.a = f at hf hrw
    have n3 := three_sub hf
    refine ⟨_, rfl, by omega, by omega, ?_⟩
    rw [Int.toNat_natCast f]
    obtain ⟨e1, e2, e3⟩ := fsSet d5 (i := f) (by omega) []
    rw [str_none]
    refine ⟨e1, ?_⟩
    intro w57
    have b57 : Bk w57 p5 (fsC (s.set f [])) 77 := e2
    have k57 : Keep (is p5) w55 w57 := e3
    clear_value w57
    rw [n3]
    refine ⟨by omega, by omega, ?_⟩
    rw [Int.toNat_natCast (3 - f)]
    obtain ⟨f1, f2, f3⟩ := fsSet b57 (i := 3 - f) (by omega) (recs ps)
    refine ⟨f1, ?_⟩
    intro w58
    have b58 : Bk w58 p5 (fsC ((s.set f []).set (3 - f) (recs ps))) 77 := f2
    have k58 : Keep (is p5) w55 w58 := k57.then f3
    clear_value w58
    have eu : IntKind.u8.wrap ((3 - f : Nat) : Int) = ((UInt8.ofNat (3 - f)).toNat : Int) := by rw [u8_of, u8_mod]
    rw [eu]
    intro p59 w60
    have r60 : Rd w60 0 1 (some ⟨p59, 0, none⟩) 1 1 (bvs [UInt8.ofNat (3 - f)]) := one_rd (w := w58) (3 - f)
    have k60 : Keep no w58 w60 := Keep.alloc _ _ _
    clear_value p59 w60
    refine rw_str Try.underlying36 Try.underlying5 Try.underlying9 r60 ?_
    have b60 := b58.no k60
    obtain ⟨u1, u2, u3⟩ := fsSet b60 (i := 0) (by omega) [UInt8.ofNat (3 - f)]
    rw [addP] at u1 u2 u3
    refine ⟨by omega, by omega, u1, ?_⟩
    refine ⟨_, _, _, u2.cell 0, u2.cell 1, u2.cell 2, ?_⟩
    have kk : Keep (is p5) w55 (w60.setCell ⟨p5, 0 + 0 * 1, none⟩ (.string (str [UInt8.ofNat (3 - f)]))) := (k58.no k60).then u3
    exact out _ _ 0 u2 (d7.keep kk fun hb => h57 hb.symm) (K47.new kk (by rintro z rfl; exact h5)) (by rw [hrw, if_neg (by omega)])
end
end Go.Proofs.Ytmfidfaiopogbaa
