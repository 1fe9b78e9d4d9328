/- The reference's log over three texts. -/
import Derived.Test.YtmfidfaiopogbaaShP15
import Derived.Test.YtmfidfaiopogbaaShLog8
import Derived.ChangeKeysEq
import Derived.Lib.ConvBytes
set_option linter.unusedVariables false
set_option linter.unusedSimpArgs false
set_option linter.unusedSectionVars false
set_option maxRecDepth 4000
namespace Go.Proofs.Ytmfidfaiopogbaa
open Go Go.Sh
abbrev fsV (s : Fs) : Value := .agg #[.string (str s.a), .string (str s.b), .string (str s.c)]
abbrev fsC (s : Fs) : Array Value := #[.string (str s.a), .string (str s.b), .string (str s.c)]
def fsEq (s t : Fs) : Bool := decide (s.a = t.a) && (decide (s.b = t.b) && decide (s.c = t.c))
theorem fsEq_iff (s t : Fs) : fsEq s t = true ↔ s = t := by
  obtain ⟨a, b, c⟩ := s
  obtain ⟨a', b', c'⟩ := t
  simp [fsEq]
theorem run_fseq (w : World) (s t : Fs) : (Op.equalIn 10000 77 (fsV s) (fsV t)).run Try.prog w = .ok (fsEq s t) w := by
  have hc9 : Try.prog.cellsOf 9 = 1 := by kernel_rfl
  rw [run_equalIn_array w 9999 (e := 9) (n := 3) (i := Try.t9) _ _ Try.underlying77 (by kernel_rfl), hc9]
  have hp : ∀ (xs : Array Value) (i : Nat) (b : ByteArray), xs[i * 1]? = some (.string b) → (part 9 xs (i * 1)).run Try.prog w = .ok (.string b) w := by
    intro xs i b hb
    simp [part, isAgg, run_underlying Try.underlying9] at hb ⊢
    simp [hb]
  have step : ∀ (xs ys : Array Value) (i : Nat) (is : List Nat) (a b : Bs), xs[i * 1]? = some (.string (str a)) → ys[i * 1]? = some (.string (str b)) →
      (Op.eqItems 9999 9 1 xs ys (i :: is)).run Try.prog w = if a = b then (Op.eqItems 9999 9 1 xs ys is).run Try.prog w else .ok false w := by
    intro xs ys i is a b ha hb
    simp only [Op.eqItems, Sem.run_bind, hp _ _ _ ha, hp _ _ _ hb, Result.andThen_ok, run_equalIn_string w 9998 9 _ _ Try.underlying9]
    rw [beq_strD]
    by_cases h : a = b
    · rw [decide_eq_true h, if_pos h]; simp
    · rw [decide_eq_false h, if_neg h]; simp
  show (Op.eqItems 9999 9 1 _ _ [0, 1, 2]).run Try.prog w = _
  rw [step _ _ 0 _ s.a t.a rfl rfl, step _ _ 1 _ s.b t.b rfl rfl, step _ _ 2 _ s.c t.c rfl rfl]
  unfold fsEq
  by_cases h1 : s.a = t.a
  · by_cases h2 : s.b = t.b
    · by_cases h3 : s.c = t.c
      · simp [h1, h2, h3, Op.eqItems]
      · simp [h1, h2, h3]
    · simp [h1, h2]
  · simp [h1]
theorem rw_neqF {w : World} {x y : Fs} {a b : Operand} {K : Bool → Prop} (hK : K (!fsEq x y)) :
    RunWp Try.prog (do eqGuard .neq 77 a b (fsV x) (fsV y); binOp .neq 77 (fsV x) (fsV y)) (fun v w' => w' = w ∧ ∃ t : Bool, v = .bool t ∧ K t) w := by
  have hg : Try.prog.eqGuardType Try.prog.depth 77 = false := by kernel_rfl
  refine RunWp.of (v := .bool (!fsEq x y)) (w' := w) ?_ ⟨rfl, _, rfl, hK⟩
  rw [Sem.run_bind, run_eqGuard_agg w .neq 77 a b _ _ hg, Result.andThen_ok, run_neq_struct, run_fseq]
  rfl
theorem fin3 {w : World} {p : Nat} {a b c : Value} {C : Array Value} {t : TypeId} [Av] (h : Bk w p C t) (hC : C.size = 3) :
    wrN w ⟨p, 0, none⟩ 3 ∧ Bk (setN ⟨p, 0, none⟩ 0 [a, b, c] w) p #[a, b, c] t ∧ Keep (is p) w (setN ⟨p, 0, none⟩ 0 [a, b, c] w) :=
  ⟨h.wrN (by rw [hC]; decide), h.setAll (vs := [a, b, c]) (by rw [hC]; rfl), setN_keep (S := is p) (a := ⟨p, 0, none⟩) rfl _ _ _⟩
theorem str_two : ({ data := #[2] } : ByteArray) = str [2] := rfl
theorem str_none : ({ data := #[] } : ByteArray) = str [] := rfl
theorem str_1 : ({ data := #[1] } : ByteArray) = str [1] := rfl
/-- The files behind an Append, a Rewrite, and the errors. -/
def Fs.app (s : Fs) (o : Op) : Fs × Int :=
  match plain o with
  | none => (s, 190)
  | some y => if 32768 < (s.get (nmF s.a) ++ er y).length then (s, 181) else (s.set (nmF s.a) (s.get (nmF s.a) ++ er y), 0)
def plains : List Op → Option (List Op)
  | [] => some []
  | o :: r => match plain o with
    | none => none
    | some y => (plains r).map (y :: ·)
def Fs.rew (s : Fs) (os : List Op) : Fs × Int :=
  match plains os with
  | none => (s, 190)
  | some ys => if 32768 < (recs ys).length then (s, 181) else (((s.set (nmF s.a) []).set (3 - nmF s.a) (recs ys)).set 0 [UInt8.ofNat (3 - nmF s.a)], 0)
section
variable [Av]
theorem file_spec (w : World) (l : Bs) : Calls Try.prog 52 #[.string (str l)] w fun e v => e = .returned (.int .i64 (nmF l)) ∧ v = w := by
  refine c52 ?_
  unfold sh52
  rw [str_two, beq_strD]
  refine cond_d (fun h => ?_) (fun h => ?_)
  · unfold nmF; rw [if_pos h]; exact ⟨rfl, rfl⟩
  · unfold nmF; rw [if_neg h]; exact ⟨rfl, rfl⟩
theorem fsCell {w : World} {p : Nat} {s : Fs} {e : TypeId} (h : Bk w p (fsC s) e) {i : Nat} (hi : i < 3) : w.cell? ((⟨p, 0, none⟩ : Addr).add (i * 1)) = some (.string (str (s.get i))) := by
  rw [addP, h.cell]
  match i, hi with
  | 0, _ => rfl
  | 1, _ => rfl
  | 2, _ => rfl
theorem fsSet {w : World} {p : Nat} {s : Fs} {e : TypeId} (h : Bk w p (fsC s) e) {i : Nat} (hi : i < 3) (l : Bs) : wr w ((⟨p, 0, none⟩ : Addr).add (i * 1)) ∧ Bk (w.setCell ((⟨p, 0, none⟩ : Addr).add (i * 1)) (.string (str l))) p (fsC (s.set i l)) e ∧ Keep (is p) w (w.setCell ((⟨p, 0, none⟩ : Addr).add (i * 1)) (.string (str l))) := by
  rw [addP]
  refine ⟨h.wr (by simp; omega), ?_, Keep.set (S := is p) _ _ rfl⟩
  have := h.set (0 + i * 1) (.string (str l))
  match i, hi with
  | 0, _ => exact this
  | 1, _ => exact this
  | 2, _ => exact this
theorem files_spec {w : World} {lo p : Nat} {q : Sv} {x : A} (h : DkR w lo p q x) : Calls Try.prog 49 #[dp p] w fun e v => e = .returned (fsV x.now) ∧ Keep no w v := by
  refine c49 ?_
  unfold sh49
  intro p2 w3 w4
  have b2 : Bk w4 p2 (fsC ⟨[], [], []⟩) 77 := (Bk.new w _ _).drew
  have k4 : Keep no w w4 := (Keep.alloc _ _ _).then (Keep.drew _ _)
  have hp2 : w.heap.size ≤ p2 := Nat.le_refl _
  clear_value p2 w3 w4
  have hrd : ∀ f : Nat, f < 3 → x.read (f : Int) = x.now.get f := by
    intro f hf
    unfold A.read
    rw [if_pos (by omega), Int.toNat_natCast]
  refine (read_spec (h.no_ k4) (0 : Nat)).mono ?_
  rintro e w6 ⟨s, rfl, hs, _, k6⟩
  rw [hrd 0 (by omega)] at hs
  refine ⟨_, _, _, rfl, ?_⟩
  refine rw_str Try.underlying36 Try.underlying5 Try.underlying9 hs ?_
  refine (read_spec (h.no_ (k4.then k6)) (1 : Nat)).mono ?_
  rintro e w12 ⟨s2, rfl, hs2, _, k12⟩
  rw [hrd 1 (by omega)] at hs2
  refine ⟨_, _, _, rfl, rw_str Try.underlying36 Try.underlying5 Try.underlying9 (hs.no k12) rfl, ?_⟩
  refine rw_str Try.underlying36 Try.underlying5 Try.underlying9 hs2 ?_
  refine (read_spec (h.no_ ((k4.then k6).then k12)) (2 : Nat)).mono ?_
  rintro e w21 ⟨s3, rfl, hs3, _, k21⟩
  rw [hrd 2 (by omega)] at hs3
  refine ⟨_, _, _, rfl, rw_str Try.underlying36 Try.underlying5 Try.underlying9 (hs.no (k12.then k21)) rfl, rw_str Try.underlying36 Try.underlying5 Try.underlying9 (hs2.no k21) rfl, ?_⟩
  refine rw_str Try.underlying36 Try.underlying5 Try.underlying9 hs3 ?_
  have K21 := ((k4.then k6).then k12).then k21
  obtain ⟨e1, e2, e3⟩ := fin3 (a := .string (str (x.now.get 0))) (b := .string (str (x.now.get 1))) (c := .string (str (x.now.get 2))) (b2.no ((k6.then k12).then k21)) rfl
  refine ⟨e1, ?_⟩
  exact ⟨_, _, _, e2.cell 0, e2.cell 1, e2.cell 2, rfl, K21.new e3 (by rintro z rfl; exact hp2)⟩
/-- A text's bytes, new. -/
theorem rw_bytes {w : World} (hO : Old w) {l : Bs} (hl : l.length ≤ 1000000000000) {K : Option Addr → Nat → Nat → World → Prop} (h : ∀ a n c w', Rd w' 5 1 a n c (bvs l) → Keep no w w' → K a n c w') :
    RunWp Try.prog (convert 9 36 (.string (str l))) (fun v w' => ∃ (a2 : Option Addr) (n2 c2 : Nat), v = .slice a2 n2 c2 ∧ K a2 n2 c2 w') w := by
  have hsz : (str l).size = l.length := str_size l
  have hge := grownCap_ge w (str l).size 0 5
  have hmx := grownCap_le_maxLen w (str l).size 0 5 (by simp only [maxLen]; omega)
  refine RunWp.of (Lib.run_convert_string_bytes w 9 36 5 (str l) Try.underlying9 Try.underlying36 Try.underlying5) ⟨_, _, _, rfl, h _ _ _ _ ?_ ?_⟩
  · have hB := Lib.bytesWorld_at_new w 5 (str l)
    refine ⟨by simp [bvs, hsz], hge, hmx, fun _ => ⟨w.heap.size, 0, _, _, rfl, ⟨5, .inr ⟨rfl, fun _ hb => Nat.ne_of_lt (hO _ hb) rfl⟩, hB⟩, fun j u hu => ?_⟩⟩
    simp only [bvs, List.getElem?_map, Option.map_eq_some_iff] at hu
    obtain ⟨y, hy, rfl⟩ := hu
    obtain ⟨hj, rfl⟩ := List.getElem?_eq_some_iff.1 hy
    rw [Nat.zero_add]
    unfold Lib.bytesCells
    rw [Array.getElem?_append_left (by simp [str]; exact hj)]
    simp [str, bv, hj]
  · refine ⟨rfl, rfl, rfl, by rw [Lib.bytesWorld_size]; omega, fun b hb _ => Lib.bytesWorld_at_old w 5 (str l) b hb⟩
end
end Go.Proofs.Ytmfidfaiopogbaa
