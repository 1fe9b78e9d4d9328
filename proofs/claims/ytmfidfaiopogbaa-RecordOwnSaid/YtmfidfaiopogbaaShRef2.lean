/- Contracts of the reference's functions that change a disk. -/
import Derived.Test.YtmfidfaiopogbaaShRef
set_option linter.unusedVariables false
set_option linter.unusedSectionVars false
set_option linter.unusedSimpArgs false
set_option maxRecDepth 4000
namespace Go.Proofs.Ytmfidfaiopogbaa
open Go Go.Sh
variable [Av]

omit [Av] in
theorem str_size (l : Bs) : (str l).size = l.length := by simp [str, ByteArray.size]
omit [Av] in
theorem str_take (l : Bs) (n : Nat) : (str l).extract 0 n = str (l.take n) := by
  apply ByteArray.ext
  simp [str, ByteArray.data_extract]
omit [Av] in
theorem str_drop (l : Bs) (n : Nat) : (str l).extract n (str l).size = str (l.drop n) := by
  apply ByteArray.ext
  rw [str_size]
  simp [str, ByteArray.data_extract, List.take_of_length_le]
omit [Av] in
theorem str_app (l m : Bs) : str l ++ str m = str (l ++ m) := by
  apply ByteArray.ext
  simp [str, ByteArray.data_append]

section
variable {w w' : World} {s : Sv} {x : A}
omit [Av] in
theorem lit_own (w : World) (e sz : Nat) {base : Nat} (hb : base ≤ w.heap.size) : (w.alloc (.cells #[] e)).ownsRow base e sz (.slice (some ⟨w.heap.size, 0, none⟩) 0 0) 0 [] :=
  World.ownsRow_lit w #[] 0 hb (by simp [maxLen]) (by simp)

theorem rawR_spec (h : RefR w s x) (hd : x.dead = false) (f : Int) (l : Bs) (h0 : 0 ≤ f) (h3 : f < 3) (hl : l.length ≤ 65536) (hn : x.rest.length ≤ 1000000) :
    Calls Try.prog 75 #[rV s x, .int .i64 f, .string (str l)] w fun e w' => ∃ s', e = .returned (rV s' (x.push (x.now.set f.toNat l))) ∧ RefR w' s' (x.push (x.now.set f.toNat l)) ∧ Keep no w w' := by
  have hok := A.push_ok h.2 hd (h.2.now.set f.toNat hl)
  refine c75 ?_
  unfold sh75
  intro p7 w8 p9 w10
  have b7 : Bk w10 p7 #[s.v, .int .i64 x.raws, .bool x.armed, .int .i64 x.left] 26 := (Bk.new w _ _).alloc _
  have b9 : Bk w10 p9 #[.slice none 0 0, .int .i64 0, .bool false, .int .i64 0] 26 := Bk.new w8 _ _
  have k10 : Keep no w w10 := (Keep.alloc no w _).then (Keep.alloc no w8 _)
  have h7 : w.heap.size ≤ p7 := Nat.le_refl _
  have h9 : w.heap.size ≤ p9 := by show w.heap.size ≤ w8.heap.size; simp [w8]
  have h79 : p7 ≠ p9 := by show w.heap.size ≠ w8.heap.size; simp [w8]
  clear_value p7 p9 w8 w10
  refine ⟨_, _, _, _, _, _, b7.cell 0, b7.cell 1, b7.cell 2, b7.cell 3, ?_⟩
  refine (stepR_spec (h.no k10)).mono ?_
  rintro e w16 ⟨rfl, k16⟩
  refine ⟨_, _, _, _, _, _, rfl, (b7.no k16).wrN (by simp), ?_⟩
  intro w21
  have c7 : Bk w21 p7 #[s.v, .int .i64 x.raws, .bool x.armed, .int .i64 x.stepped.left] 26 := (b7.no k16).setAll rfl
  have k21 : Keep (is p7) w16 w21 := setN_keep (S := is p7) (a := ⟨p7, 0, none⟩) rfl _ _ _
  have c9 : Bk w21 p9 _ _ := (b9.no k16).keep k21 fun h => h79 h.symm
  have K21 : Keep no w w21 := (k10.then k16).new k21 (by rintro y rfl; exact h7)
  clear_value w21
  refine ⟨_, _, _, _, _, _, c7.cell 0, c7.cell 1, c7.cell 2, c7.cell 3, ?_⟩
  have hst : RefR w21 s x.stepped := ⟨(h.no K21).1, A.stepped_ok h.2 hd⟩
  refine (nowR_spec hst).mono ?_
  rintro e w27 ⟨rfl, k27⟩
  have c7' := c7.no k27
  have c9' := c9.no k27
  refine ⟨_, _, _, rfl, ?_⟩
  intro p31 w32
  have c31 : Bk w32 p31 #[.string ⟨#[]⟩, .string ⟨#[]⟩, .string ⟨#[]⟩] 77 := Bk.new w27 _ _
  have k32 : Keep no w27 w32 := Keep.alloc _ _ _
  have h31 : w27.heap.size ≤ p31 := Nat.le_refl _
  clear_value p31 w32
  refine ⟨c31.wrN (by simp), ?_⟩
  intro w33
  have d31 : Bk w33 p31 #[.string (str x.now.a), .string (str x.now.b), .string (str x.now.c)] 77 := c31.setAll rfl
  have k33 : Keep (is p31) w32 w33 := setN_keep (S := is p31) (a := ⟨p31, 0, none⟩) rfl _ _ _
  clear_value w33
  obtain ⟨g, rfl⟩ := Int.eq_ofNat_of_zero_le h0
  rw [addP, Int.toNat_natCast, Nat.mul_one, Nat.zero_add]
  refine ⟨h0, h3, d31.wr (by simp; omega), ?_⟩
  intro w34
  have e31 : Bk w34 p31 #[.string (str (x.now.set g l).a), .string (str (x.now.set g l).b), .string (str (x.now.set g l).c)] 77 := by
    have := d31.set g (.string (str l))
    have e : (#[.string (str x.now.a), .string (str x.now.b), .string (str x.now.c)] : Array Value).setIfInBounds g (.string (str l)) = #[.string (str (x.now.set g l).a), .string (str (x.now.set g l).b), .string (str (x.now.set g l).c)] := by
      match g, (show g < 3 by omega) with
      | 0, _ => rfl
      | 1, _ => rfl
      | 2, _ => rfl
    rw [e] at this
    exact this
  have k34 : Keep (is p31) w32 w34 := k33.then (Keep.set (S := is p31) w33 (a := ⟨p31, g, none⟩) _ rfl)
  clear_value w34
  have K34 : Keep no w27 w34 := k32.new k34 (by rintro y rfl; exact h31)
  have c7a := c7'.no K34
  have c9a := c9'.no K34
  have KK : Keep no w w34 := (K21.then k27).then K34
  intro K82 w35
  have e31' : Bk w35 p31 _ _ := e31.drew
  have c7b : Bk w35 p7 _ _ := c7a.drew
  have c9b : Bk w35 p9 _ _ := c9a.drew
  have KK' : Keep no w w35 := KK.no (Keep.drew _ _)
  clear_value w35
  have fin : ∀ (a : Option Addr) (n c : Nat) w', Keep no w35 w' → Rd w' 77 3 a n c (stv (x.first :: (x.rest ++ [x.now.set g l]))) → wr w' ⟨p7, 0, none⟩ ∧ K82 (w'.setCell ⟨p7, 0, none⟩ (.slice a n c)) := by
    intro a n c w' k hr
    have z7 := c7b.no k
    have z9 := c9b.no k
    refine ⟨z7.wr (by simp), ?_⟩
    have y7 : Bk (w'.setCell ⟨p7, 0, none⟩ (.slice a n c)) p7 #[.slice a n c, .int .i64 x.raws, .bool x.armed, .int .i64 x.stepped.left] 26 := z7.set 0 _
    have y9 : Bk (w'.setCell ⟨p7, 0, none⟩ (.slice a n c)) p9 _ _ := z9.set_ne (a := ⟨p7, 0, none⟩) (fun h => h79 h.symm) _
    have ky : Keep (is p7) w' (w'.setCell ⟨p7, 0, none⟩ (.slice a n c)) := Keep.set (S := is p7) w' (a := ⟨p7, 0, none⟩) _ rfl
    refine ⟨_, y7.cell 1, y7.wr (by simp), ?_⟩
    intro w84
    have x7 : Bk w84 p7 #[.slice a n c, .int .i64 (IntKind.i64.wrap (x.raws + 1)), .bool x.armed, .int .i64 x.stepped.left] 26 := y7.set 1 _
    have x9 : Bk w84 p9 _ _ := y9.set_ne (a := ⟨p7, 1, none⟩) (fun h => h79 h.symm) _
    have kx : Keep (is p7) w' w84 := ky.then (Keep.set (S := is p7) _ (a := ⟨p7, 1, none⟩) _ rfl)
    clear_value w84
    obtain ⟨e0, e1, e2, e3, ew, f0, f1, f2, f3, kf⟩ := fin4 x7 x9 rfl
    refine ⟨_, _, _, _, _, _, e0, e1, e2, e3, ew, _, _, _, _, _, _, f0, f1, f2, f3, ⟨a, n, c⟩, rfl, ⟨?_, hok⟩, ?_⟩
    · exact (hr.keep kx (by rintro y rfl ht; exact absurd (ht.uniq z7.ty) (by decide))).keep kf (by rintro y rfl ht; exact absurd (ht.uniq x9.ty) (by decide))
    · exact ((KK'.then k).new kx (by rintro y rfl; exact h7)).new kf (by rintro y rfl; exact h9)
  clear_value K82
  refine ⟨_, _, _, c7b.cell 0, _, _, _, e31'.cell 0, e31'.cell 1, e31'.cell 2, ?_⟩
  have h35 := h.no KK'
  have hsn := h.len
  -- the first of the two appends
  have one : ∀ (v : World) (p : Nat) (K : Option Addr → Nat → Nat → World → Prop), Keep no w35 v → v.ownsRow w35.heap.size 77 3 (.slice (some ⟨p, 0, none⟩) 0 0) 0 [] →
      (∀ a c v', v'.ownsRow w35.heap.size 77 3 (.slice a s.n c) s.n (stv (x.first :: x.rest)) → Keep no w35 v' → Keep (is p) v v' → K a s.n c v') →
      RunWp Try.prog (Builtin.append_ #[24, 24] 24 #[.slice (some ⟨p, 0, none⟩) 0 0, s.v]) (fun v w' => ∃ (a2 : Option Addr) (n2 c2 : Nat), v = .slice a2 n2 c2 ∧ K a2 n2 c2 w') v := by
    intro v p K k ho hK
    refine rw_append E24 ho (h35.no k).1 (stv_one _) (by omega) (by simp only [maxLen]; omega) k.size fun a2 c2 w2 ho2 k2 _ => ?_
    rw [Nat.zero_add] at ho2 ⊢
    refine hK a2 c2 w2 ho2 (k.new k2 fun b hb => (own_ty (q := ⟨some ⟨p, 0, none⟩, 0, 0⟩) ho hb).2) (k2.mono ?_)
    rintro b _ ⟨z, hz, rfl⟩
    cases hz; rfl
  have two : ∀ (v : World) (a : Option Addr) (c r : Nat) (K : Option Addr → Nat → Nat → World → Prop), Keep no w35 v → v.ownsRow w35.heap.size 77 3 (.slice a s.n c) s.n (stv (x.first :: x.rest)) →
      Bk v r #[.string (str (x.now.set g l).a), .string (str (x.now.set g l).b), .string (str (x.now.set g l).c)] 77 →
      (∀ a n c v', Keep no w35 v' → Rd v' 77 3 a n c (stv (x.first :: (x.rest ++ [x.now.set g l]))) → K a n c v') →
      RunWp Try.prog (Builtin.append_ #[24, 24] 24 #[.slice a s.n c, .slice (some ⟨r, 0, none⟩) 1 1]) (fun v w' => ∃ (a2 : Option Addr) (n2 c2 : Nat), v = .slice a2 n2 c2 ∧ K a2 n2 c2 w') v := by
    intro v a c r K k ho hr hK
    refine rw_append E24 ho (Rd.blk hr (n := 1) rfl (by simp [maxLen])) (by simp [one1]) (by omega) (by simp only [maxLen]; omega) k.size fun a2 c2 w2 ho2 k2 _ => ?_
    refine hK a2 _ c2 w2 (k.new k2 fun b hb => (own_ty (q := ⟨a, s.n, c⟩) ho hb).2) ?_
    have := Rd.own ho2
    have e : stv (x.first :: x.rest) ++ (#[.string (str (x.now.set g l).a), .string (str (x.now.set g l).b), .string (str (x.now.set g l).c)] : Array Value).toList = stv (x.first :: (x.rest ++ [x.now.set g l])) := by
      rw [← List.cons_append, stv_append]; rfl
    rw [e] at this
    exact this
  refine ⟨?_, ?_⟩
  · intro p40 w41
    have k41 : Keep no w35 w41 := Keep.alloc _ _ _
    have o41 : w41.ownsRow w35.heap.size 77 3 (.slice (some ⟨p40, 0, none⟩) 0 0) 0 [] := lit_own w35 77 3 (Nat.le_refl _)
    have h40 : w35.heap.size ≤ p40 := Nat.le_refl _
    clear_value p40 w41
    have f31 := e31'.no k41
    refine ⟨⟨_, _, _, (c7b.no k41).cell 0, rfl⟩, ⟨_, _, _, f31.cell 0, f31.cell 1, f31.cell 2, rfl⟩, ?_, ?_⟩
    · refine one w41 p40 _ k41 o41 fun a c v ho kv kv' => ?_
      have g31 := e31'.no kv
      refine ⟨⟨_, _, _, g31.cell 0, g31.cell 1, g31.cell 2, rfl⟩, ?_⟩
      intro p52 w53
      refine two w53 a c p52 _ (kv.then (Keep.alloc _ _ _)) (own_keep ho (Keep.alloc no _ _) fun _ _ h => h) (Bk.new _ _ _) fun a n c v' k' hr => ?_
      exact fin a n c v' k' hr
    · intro p58 w59
      have b58 : Bk w59 p58 _ 77 := Bk.new w41 _ _
      have k59 : Keep no w41 w59 := Keep.alloc _ _ _
      have h58 : w41.heap.size ≤ p58 := Nat.le_refl _
      clear_value p58 w59
      have k59' := k41.then k59
      have hlt : p40 < w41.heap.size := (own_ty (q := ⟨some ⟨p40, 0, none⟩, 0, 0⟩) o41 ⟨_, rfl, rfl⟩).1.lt
      refine ⟨⟨_, _, _, (c7b.no k59').cell 0, rfl⟩, ?_⟩
      refine one w59 p40 _ k59' (own_keep o41 k59 fun _ _ h => h) fun a c v ho kv kv' => ?_
      refine two v a c p58 _ kv ho (b58.keep kv' (by unfold is; omega)) fun a n c v' k' hr => ?_
      exact fin a n c v' k' hr
  · intro p68 w69
    have b68 : Bk w69 p68 _ 77 := Bk.new w35 _ _
    have k69 : Keep no w35 w69 := Keep.alloc _ _ _
    clear_value p68 w69
    refine ⟨⟨_, _, _, (c7b.no k69).cell 0, rfl⟩, ?_⟩
    intro p71 w72
    have k72 : Keep no w69 w72 := Keep.alloc _ _ _
    have o72 : w72.ownsRow w35.heap.size 77 3 (.slice (some ⟨p71, 0, none⟩) 0 0) 0 [] := lit_own w69 77 3 k69.size
    have h71 : w69.heap.size ≤ p71 := Nat.le_refl _
    have b68' := b68.no k72
    clear_value p71 w72
    have k72' := k69.then k72
    refine ⟨⟨_, _, _, (c7b.no k72').cell 0, rfl⟩, ?_⟩
    refine one w72 p71 _ k72' o72 fun a c v ho kv kv' => ?_
    refine two v a c p68 _ kv ho (b68'.keep kv' (by have := b68.lt; unfold is; omega)) fun a n c v' k' hr => ?_
    exact fin a n c v' k' hr
end
end Go.Proofs.Ytmfidfaiopogbaa
