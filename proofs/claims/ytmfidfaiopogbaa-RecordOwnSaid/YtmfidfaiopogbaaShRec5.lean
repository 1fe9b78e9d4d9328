/- The reference's Encode; and that Plain and Encode agree. -/
import Derived.Test.YtmfidfaiopogbaaShRec4
set_option linter.unusedVariables false
set_option linter.unusedSimpArgs false
set_option linter.unusedSectionVars false
set_option maxRecDepth 4000
namespace Go.Proofs.Ytmfidfaiopogbaa
open Go Go.Sh

/-! ### Plain and enc -/
theorem shp_a {k : Int} (h : k = 1 ∨ k = 2 ∨ k = 6 ∨ k = 7) : shp k = some ([(3, 0, 2147483647)], false) := by unfold shp; rw [if_pos h]
theorem shp_3 : shp 3 = some ([(1, 1, 1024), (2, 0, 2147483647), (3, 0, 2147483647)], true) := rfl
theorem shp_4 : shp 4 = some ([(1, 1, 1024)], false) := rfl
theorem shp_5 : shp 5 = some ([(1, 1, 1024)], true) := rfl
theorem shp_n {k : Int} (h : ¬ (k = 1 ∨ k = 2 ∨ k = 6 ∨ k = 7)) (h3 : ¬ k = 3) (h4 : ¬ k = 4) (h5 : ¬ k = 5) : shp k = none := by unfold shp; rw [if_neg h, if_neg h3, if_neg h4, if_neg h5]
/-- What has a plain form has a record, the plain form's own; what has none has none. -/
theorem enc_plain (x : Op) : (∀ y, plain x = some y → enc x = some (sealed (body x ((shp x.k).getD ([], false)))) ∧ enc y = enc x ∧ y.k = x.k ∧ plain y = some y) ∧ (plain x = none → enc x = none) := by
  by_cases hk : x.k = 1 ∨ x.k = 2 ∨ x.k = 6 ∨ x.k = 7
  · have hp : plain x = if isV x.v then some ⟨x.k, 0, 0, x.v, 0⟩ else none := by unfold plain; rw [if_pos hk]
    have he : ∀ z : Op, z.k = x.k → enc z = if ∀ f ∈ [((3 : Nat), (0 : Int), (2147483647 : Int))], okf z f then some (sealed (body z ([(3, 0, 2147483647)], false))) else none := by
      intro z hz; unfold enc; rw [hz, shp_a hk]
    have hok : ∀ z : Op, (∀ f ∈ [((3 : Nat), (0 : Int), (2147483647 : Int))], okf z f) ↔ isV z.v := by intro z; simp [okf, isV, Op.sel]
    by_cases hv : isV x.v
    · refine ⟨fun y hy => ?_, fun h => by rw [hp, if_pos hv] at h; cases h⟩
      rw [hp, if_pos hv] at hy; cases hy
      refine ⟨by rw [he x rfl, if_pos ((hok x).2 hv), shp_a hk]; rfl, ?_, rfl, ?_⟩
      · rw [he x rfl, he ⟨x.k, 0, 0, x.v, 0⟩ rfl, if_pos ((hok x).2 hv), if_pos ((hok ⟨x.k, 0, 0, x.v, 0⟩).2 hv)]
        simp [body, numsOf, Op.sel]
      · unfold plain; rw [if_pos (show (⟨x.k, 0, 0, x.v, 0⟩ : Op).k = 1 ∨ _ from hk), if_pos (show isV (⟨x.k, 0, 0, x.v, 0⟩ : Op).v from hv)]
    · refine ⟨(fun y hy => by rw [hp, if_neg hv] at hy; cases hy), fun _ => by rw [he x rfl, if_neg fun h => hv ((hok x).1 h)]⟩
  by_cases h3 : x.k = 3
  · have hp : plain x = if isE x.e ∧ isV x.u ∧ isV x.v then some x else none := by unfold plain; rw [if_neg hk, if_pos h3]
    have he : enc x = if ∀ f ∈ [((1 : Nat), (1 : Int), (1024 : Int)), (2, 0, 2147483647), (3, 0, 2147483647)], okf x f then some (sealed (body x ([(1, 1, 1024), (2, 0, 2147483647), (3, 0, 2147483647)], true))) else none := by
      unfold enc; rw [h3, shp_3]
    have hok : (∀ f ∈ [((1 : Nat), (1 : Int), (1024 : Int)), (2, 0, 2147483647), (3, 0, 2147483647)], okf x f) ↔ isE x.e ∧ isV x.u ∧ isV x.v := by simp [okf, isV, isE, Op.sel]
    by_cases hv : isE x.e ∧ isV x.u ∧ isV x.v
    · refine ⟨fun y hy => ?_, fun h => by rw [hp, if_pos hv] at h; cases h⟩
      rw [hp, if_pos hv] at hy; cases hy
      exact ⟨by rw [he, if_pos (hok.2 hv), h3, shp_3]; rfl, rfl, rfl, by rw [hp, if_pos hv]⟩
    · exact ⟨(fun y hy => by rw [hp, if_neg hv] at hy; cases hy), fun _ => by rw [he, if_neg fun h => hv (hok.1 h)]⟩
  by_cases h4 : x.k = 4
  · have hp : plain x = if isE x.e then some ⟨x.k, x.e, 0, 0, 0⟩ else none := by unfold plain; rw [if_neg hk, if_neg h3, if_pos h4]
    have he : ∀ z : Op, z.k = x.k → enc z = if ∀ f ∈ [((1 : Nat), (1 : Int), (1024 : Int))], okf z f then some (sealed (body z ([(1, 1, 1024)], false))) else none := by
      intro z hz; unfold enc; rw [hz, h4, shp_4]
    have hok : ∀ z : Op, (∀ f ∈ [((1 : Nat), (1 : Int), (1024 : Int))], okf z f) ↔ isE z.e := by intro z; simp [okf, isE, Op.sel]
    by_cases hv : isE x.e
    · refine ⟨fun y hy => ?_, fun h => by rw [hp, if_pos hv] at h; cases h⟩
      rw [hp, if_pos hv] at hy; cases hy
      refine ⟨by rw [he x rfl, if_pos ((hok x).2 hv), h4, shp_4]; rfl, ?_, rfl, ?_⟩
      · rw [he x rfl, he ⟨x.k, x.e, 0, 0, 0⟩ rfl, if_pos ((hok x).2 hv), if_pos ((hok ⟨x.k, x.e, 0, 0, 0⟩).2 hv)]
        simp [body, numsOf, Op.sel]
      · unfold plain
        rw [if_neg (show ¬ ((⟨x.k, x.e, 0, 0, 0⟩ : Op).k = 1 ∨ _) from hk), if_neg (show ¬ (⟨x.k, x.e, 0, 0, 0⟩ : Op).k = 3 from h3), if_pos (show (⟨x.k, x.e, 0, 0, 0⟩ : Op).k = 4 from h4), if_pos (show isE (⟨x.k, x.e, 0, 0, 0⟩ : Op).e from hv)]
    · exact ⟨(fun y hy => by rw [hp, if_neg hv] at hy; cases hy), fun _ => by rw [he x rfl, if_neg fun h => hv ((hok x).1 h)]⟩
  by_cases h5 : x.k = 5
  · have hp : plain x = if isE x.e then some ⟨x.k, x.e, 0, 0, x.b⟩ else none := by unfold plain; rw [if_neg hk, if_neg h3, if_neg h4, if_pos h5]
    have he : ∀ z : Op, z.k = x.k → enc z = if ∀ f ∈ [((1 : Nat), (1 : Int), (1024 : Int))], okf z f then some (sealed (body z ([(1, 1, 1024)], true))) else none := by
      intro z hz; unfold enc; rw [hz, h5, shp_5]
    have hok : ∀ z : Op, (∀ f ∈ [((1 : Nat), (1 : Int), (1024 : Int))], okf z f) ↔ isE z.e := by intro z; simp [okf, isE, Op.sel]
    by_cases hv : isE x.e
    · refine ⟨fun y hy => ?_, fun h => by rw [hp, if_pos hv] at h; cases h⟩
      rw [hp, if_pos hv] at hy; cases hy
      refine ⟨by rw [he x rfl, if_pos ((hok x).2 hv), h5, shp_5]; rfl, ?_, rfl, ?_⟩
      · rw [he x rfl, he ⟨x.k, x.e, 0, 0, x.b⟩ rfl, if_pos ((hok x).2 hv), if_pos ((hok ⟨x.k, x.e, 0, 0, x.b⟩).2 hv)]
        simp [body, numsOf, Op.sel]
      · unfold plain
        rw [if_neg (show ¬ ((⟨x.k, x.e, 0, 0, x.b⟩ : Op).k = 1 ∨ _) from hk), if_neg (show ¬ (⟨x.k, x.e, 0, 0, x.b⟩ : Op).k = 3 from h3), if_neg (show ¬ (⟨x.k, x.e, 0, 0, x.b⟩ : Op).k = 4 from h4), if_pos (show (⟨x.k, x.e, 0, 0, x.b⟩ : Op).k = 5 from h5), if_pos (show isE (⟨x.k, x.e, 0, 0, x.b⟩ : Op).e from hv)]
    · exact ⟨(fun y hy => by rw [hp, if_neg hv] at hy; cases hy), fun _ => by rw [he x rfl, if_neg fun h => hv ((hok x).1 h)]⟩
  · exact ⟨(fun y hy => by unfold plain at hy; rw [if_neg hk, if_neg h3, if_neg h4, if_neg h5] at hy; cases hy), fun _ => by unfold enc; rw [shp_n hk h3 h4 h5]⟩

section
variable [Av]
theorem EncodeR_spec (w : World) {x : Op} (hx : x.fit) (hp : plain x = some x) : Calls Try.prog 39 #[opV x] w fun e w' =>
    ∃ (s : Sv), e = .returned s.v ∧ Keep no w w' ∧ w'.ownsRow w.heap.size 5 1 s.v s.n (bvs (sealed (body x ((shp x.k).getD ([], false))))) := by
  refine c39 ?_
  unfold sh39
  intro p6 w7
  have b6 : Bk w7 p6 (opC x) 57 := Bk.new w _ _
  have k7 : Keep no w w7 := Keep.alloc _ _ _
  have h6 : w.heap.size ≤ p6 := Nat.le_refl _
  clear_value p6 w7
  refine ⟨_, b6.cell 0, ?_⟩
  have hk17 : 1 ≤ x.k ∧ x.k ≤ 7 := by
    cases hs : shp x.k with
    | none =>
      have := (enc_plain x).1 x hp
      have h2 : enc x = none := by unfold enc; rw [hs]
      rw [h2] at this; cases this.1
    | some s => exact (shp_f hs).2.2
  have hkb : IntKind.u8.wrap x.k = (kb x.k).toNat := by
    rw [IntWalk.u8_in _ ⟨by omega, by omega⟩]
    unfold kb
    rw [UInt8.toNat_ofNat']
    omega
  rw [hkb]
  intro p9 w10
  have o10 : w10.ownsRow w.heap.size 5 1 (.slice (some ⟨p9, 0, none⟩) 1 1) 1 (bvs [kb x.k]) := World.ownsRow_lit w7 #[.int .u8 (kb x.k).toNat] 1 k7.size (by simp [maxLen]) rfl
  have k10 : Keep no w w10 := k7.then (Keep.alloc _ _ _)
  have c6 : Bk w10 p6 (opC x) 57 := b6.alloc _
  clear_value p9 w10
  intro K73
  have fin : ∀ (a : Option Addr) (n c : Nat) (v : World), n ≤ 1000 → v.ownsRow w.heap.size 5 1 (.slice a n c) n (bvs (body x ((shp x.k).getD ([], false)))) → Keep no w v → K73 a n c v := by
    intro a n c v hn ho kv
    generalize hBB : body x ((shp x.k).getD ([], false)) = B at ho
    have hnB : n = B.length := by have := ho.1; simp at this; exact this.symm
    have hb : IntKind.u8.wrap ((n : Nat) : Int) = ((UInt8.ofNat B.length).toNat : Int) := by rw [u8_of, u8_mod, hnB]
    unfold K73
    intro p74 w75
    have hw75 : w75 = v.alloc (.cells #[.int .u8 ((UInt8.ofNat B.length).toNat : Int)] 5) := by rw [← hb]
    have o75 : w75.ownsRow w.heap.size 5 1 (.slice (some ⟨p74, 0, none⟩) 1 1) 1 (bvs [UInt8.ofNat B.length]) := by rw [hw75]; exact World.ownsRow_lit v #[.int .u8 ((UInt8.ofNat B.length).toNat : Int)] 1 kv.size (by simp [maxLen]) rfl
    have k75 : Keep no v w75 := Keep.alloc _ _ _
    clear hw75
    clear_value p74 w75
    have hrB : Rd w75 0 1 a n c (bvs B) := Rd.own0 (own_no ho k75)
    refine app5 (l := [UInt8.ofNat B.length]) (l' := B) o75 hrB (by omega) (kv.then k75).size (Nat.le_refl _) (kv.then k75) fun a78 c78 w77 o77 k77 _ => ?_
    have hlen : 1 + n = (UInt8.ofNat B.length :: B).length := by simp; omega
    have o77' : w77.ownsRow w.heap.size 5 1 (.slice a78 (1 + n) c78) (1 + n) (bvs (UInt8.ofNat B.length :: B)) := o77
    generalize hL : UInt8.ofNat B.length :: B = L at o77' hlen
    have hr : Rd w77 0 1 a78 (1 + n) c78 (bvs L) := Rd.own0 o77'
    refine ⟨fun vs z => ∃ i : Nat, vs = [.int .u8 (chk (L.take i)).toNat, .int .i64 i] ∧ i ≤ 1 + n ∧ z = w77, fun vs v => match vs with | [_, .int _ i] => 1 + n - i.toNat | _ => 0, ⟨0, rfl, by omega, rfl⟩, ?_⟩
    rintro w81 c79 i80 ⟨i, hv, hi, rfl⟩
    simp only [List.cons.injEq, Value.int.injEq, true_and, and_true] at hv
    obtain ⟨rfl, rfl⟩ := hv
    refine cond_d (fun hlt => ?_) (fun hge => ?_)
    · have hi' : i < L.length := by omega
      obtain ⟨q, hq, hc⟩ := hr.at_ (i := i) (by omega)
      obtain ⟨u, hu, hcu⟩ := hc 0 (by omega)
      rw [Nat.mul_one, Nat.add_zero] at hu
      simp only [bvs, List.getElem?_map, List.getElem?_eq_getElem hi', Option.map_some, Option.some.injEq] at hu
      subst hu
      rw [addZ] at hcu
      refine ⟨q, hq, by omega, by omega, _, by rw [Int.toNat_natCast]; exact hcu, ?_⟩
      have ei : IntKind.i64.wrap ((i : Int) + 1) = ((i + 1 : Nat) : Int) := by rw [IntWalk.i64_in _ ⟨by omega, by omega⟩]; rfl
      rw [ei, xor8, ← chk_snoc, ← List.take_succ_eq_append_getElem hi']
      refine ⟨⟨i + 1, rfl, by omega, rfl⟩, ?_⟩
      show 1 + n - ((i + 1 : Nat) : Int).toNat < 1 + n - (i : Int).toNat
      omega
    · have ht : L.take i = L := List.take_of_length_le (by omega)
      rw [ht]
      intro p86 w87
      have b87 : Bk w87 p86 #[.int .u8 (chk L).toNat] 5 := Bk.new w81 _ _
      have k87 : Keep no w81 w87 := Keep.alloc _ _ _
      clear_value p86 w87
      refine app5 (l' := [chk L]) (own_no o77' k87) (Rd.blk0 (sz := 1) (n := 1) b87 rfl (by simp [maxLen])) (by omega) (k77.then k87).size (Nat.le_refl _) (k77.then k87) fun a90 c90 w89 o89 k89 _ => ?_
      refine ⟨⟨a90, 1 + n + 1, c90⟩, rfl, k89, ?_⟩
      unfold sealed
      rw [hBB, hL]
      exact o89
  clear_value K73
  -- a number behind what there is
  have addn : ∀ (v : World) (a : Option Addr) (n c : Nat) (L : Bs) (m : Int) (Q : Option Addr → Nat → Nat → World → Prop), n ≤ 100 → v.ownsRow w.heap.size 5 1 (.slice a n c) n (bvs L) → Keep no w v → Bk v p6 (opC x) 57 → 0 ≤ m → m ≤ 2147483647 →
      (∀ a' n' c' v', n' ≤ n + 5 → v'.ownsRow w.heap.size 5 1 (.slice a' n' c') n' (bvs (L ++ num m.toNat)) → Keep no w v' → Bk v' p6 (opC x) 57 → Q a' n' c' v') →
      Calls Try.prog 81 #[.int .i64 m] v (fun e16 w17 => ∃ (a18 : Option Addr), ∃ (l_a18 : Nat), ∃ (c_a18 : Nat), e16 = .returned (.slice a18 l_a18 c_a18) ∧ 
        RunWp Try.prog (Builtin.append_ #[36, 36] 36 #[.slice a n c, .slice a18 l_a18 c_a18]) (fun v19 w20 => ∃ (a21 : Option Addr), ∃ (l_a21 : Nat), ∃ (c_a21 : Nat), v19 = .slice a21 l_a21 c_a21 ∧ Q a21 l_a21 c_a21 w20) w17) := by
    intro v a n c L m Q hn ho kv hB h0 hm hQ
    obtain ⟨g, rfl⟩ := Int.eq_ofNat_of_zero_le h0
    refine (numR_spec v (n := g) (by omega)).mono ?_
    rintro e w17 ⟨s, rfl, hs, k17⟩
    refine ⟨s.a, s.n, s.c, rfl, ?_⟩
    have hsn : s.n = (num g).length := by have := hs.1; simp at this; exact this.symm
    have h5 := num_len5 (n := g) (by omega)
    refine app5 (own_no ho k17) (Rd.own0 hs) (by omega) (kv.then k17).size (Nat.le_refl _) (kv.then k17) fun a2 c2 w20 o20 k20 kk => ?_
    exact hQ a2 _ c2 w20 (by omega) o20 k20 (bk5 (own_no ho k17) kk (hB.no k17) (by decide))
  -- the weight behind it
  have addb : ∀ (v : World) (a : Option Addr) (n c : Nat) (L : Bs) (Q : Option Addr → Nat → Nat → World → Prop), n ≤ 100 → v.ownsRow w.heap.size 5 1 (.slice a n c) n (bvs L) → Keep no w v → Bk v p6 (opC x) 57 →
      (∀ a' n' c' v', n' ≤ n + 4 → v'.ownsRow w.heap.size 5 1 (.slice a' n' c') n' (bvs (L ++ bits4 x.b.toNat)) → Keep no w v' → Bk v' p6 (opC x) 57 → Q a' n' c' v') →
      ∃ (Bits43 : Int), v.cell? (⟨p6, 4, none⟩ : Addr) = some (.int .u32 Bits43) ∧ 
        Calls Try.prog 82 #[.int .i64 (IntKind.i64.wrap (Bits43))] v (fun e44 w45 => ∃ (a46 : Option Addr), ∃ (l_a46 : Nat), ∃ (c_a46 : Nat), e44 = .returned (.slice a46 l_a46 c_a46) ∧ 
        RunWp Try.prog (Builtin.append_ #[36, 36] 36 #[.slice a n c, .slice a46 l_a46 c_a46]) (fun v47 w48 => ∃ (a49 : Option Addr), ∃ (l_a49 : Nat), ∃ (c_a49 : Nat), v47 = .slice a49 l_a49 c_a49 ∧ Q a49 l_a49 c_a49 w48) w45) := by
    intro v a n c L Q hn ho kv hB hQ
    have hbx := hx.b
    refine ⟨x.b, hB.cell 4, ?_⟩
    rw [IntWalk.i64_in _ ⟨by omega, by omega⟩]
    refine (bitsR_spec v hbx.1 hbx.2).mono ?_
    rintro e w45 ⟨s, rfl, hs, hsn, k45⟩
    refine ⟨s.a, s.n, s.c, rfl, ?_⟩
    refine app5 (own_no ho k45) hs (by omega) (kv.then k45).size (Nat.le_refl _) (kv.then k45) fun a2 c2 w20 o20 k20 kk => ?_
    exact hQ a2 _ c2 w20 (by omega) o20 k20 (bk5 (own_no ho k45) kk (hB.no k45) (by decide))
  refine ⟨_, c6.cell 0, ?_⟩
  intro K14
  have fin14 : ∀ b : Bool, (b = true ↔ (x.k = 1 ∨ x.k = 2 ∨ x.k = 6 ∨ x.k = 7)) → K14 b w10 := by
    intro b hb
    refine cond_i (fun h => ?_) (fun h => ?_)
    · have hk := hb.1 h
      have hv : isV x.v := by
        unfold plain at hp; rw [if_pos hk] at hp
        split at hp
        · assumption
        · cases hp
      refine ⟨_, c6.cell 3, ?_⟩
      refine addn w10 _ 1 1 [kb x.k] x.v _ (by omega) o10 k10 c6 hv.1 hv.2 fun a' n' c' v' hn' ho' kv' hB' => ?_
      refine fin a' n' c' v' (by omega) ?_ kv'
      rw [shp_a hk]
      simpa [body, numsOf, Op.sel] using ho'
    · have hk : ¬ (x.k = 1 ∨ x.k = 2 ∨ x.k = 6 ∨ x.k = 7) := fun hk => by rw [hb.2 hk] at h; cases h
      refine cond_i (fun h3 => ?_) (fun h3 => ?_)
      · have h3' : x.k = 3 := by simpa using h3
        have hv : isE x.e ∧ isV x.u ∧ isV x.v := by
          unfold plain at hp; rw [if_neg hk, if_pos h3'] at hp
          split at hp
          · assumption
          · cases hp
        refine ⟨_, c6.cell 1, ?_⟩
        refine addn w10 _ 1 1 [kb x.k] x.e _ (by omega) o10 k10 c6 (by have := hv.1.1; omega) (by have := hv.1.2; omega) fun a1 n1 c1 v1 hn1 ho1 kv1 hB1 => ?_
        refine ⟨_, hB1.cell 2, ?_⟩
        refine addn v1 a1 n1 c1 _ x.u _ (by omega) ho1 kv1 hB1 hv.2.1.1 hv.2.1.2 fun a2 n2 c2 v2 hn2 ho2 kv2 hB2 => ?_
        refine ⟨_, hB2.cell 3, ?_⟩
        refine addn v2 a2 n2 c2 _ x.v _ (by omega) ho2 kv2 hB2 hv.2.2.1 hv.2.2.2 fun a3 n3 c3 v3 hn3 ho3 kv3 hB3 => ?_
        refine addb v3 a3 n3 c3 _ _ (by omega) ho3 kv3 hB3 fun a4 n4 c4 v4 hn4 ho4 kv4 hB4 => ?_
        refine fin a4 n4 c4 v4 (by omega) ?_ kv4
        rw [h3', shp_3]
        rw [h3'] at ho4
        simpa [body, numsOf, Op.sel, h3'] using ho4
      · have h3' : ¬ x.k = 3 := by simpa using h3
        refine cond_i (fun h4 => ?_) (fun h4 => ?_)
        · have h4' : x.k = 4 := by simpa using h4
          have hv : isE x.e := by
            unfold plain at hp; rw [if_neg hk, if_neg h3', if_pos h4'] at hp
            split at hp
            · assumption
            · cases hp
          refine ⟨_, c6.cell 1, ?_⟩
          refine addn w10 _ 1 1 [kb x.k] x.e _ (by omega) o10 k10 c6 (by have := hv.1; omega) (by have := hv.2; omega) fun a' n' c' v' hn' ho' kv' hB' => ?_
          refine fin a' n' c' v' (by omega) ?_ kv'
          rw [h4', shp_4]
          simpa [body, numsOf, Op.sel, h4'] using ho'
        · have h4' : ¬ x.k = 4 := by simpa using h4
          refine cond_i (fun h5 => ?_) (fun h5 => ?_)
          · have h5' : x.k = 5 := by simpa using h5
            have hv : isE x.e := by
              unfold plain at hp; rw [if_neg hk, if_neg h3', if_neg h4', if_pos h5'] at hp
              split at hp
              · assumption
              · cases hp
            refine ⟨_, c6.cell 1, ?_⟩
            refine addn w10 _ 1 1 [kb x.k] x.e _ (by omega) o10 k10 c6 (by have := hv.1; omega) (by have := hv.2; omega) fun a1 n1 c1 v1 hn1 ho1 kv1 hB1 => ?_
            refine addb v1 a1 n1 c1 _ _ (by omega) ho1 kv1 hB1 fun a4 n4 c4 v4 hn4 ho4 kv4 hB4 => ?_
            refine fin a4 n4 c4 v4 (by omega) ?_ kv4
            rw [h5', shp_5]
            simpa [body, numsOf, Op.sel, h5'] using ho4
          · have h5' : ¬ x.k = 5 := by simpa using h5
            exfalso
            unfold plain at hp; rw [if_neg hk, if_neg h3', if_neg h4', if_neg h5'] at hp; cases hp
  clear_value K14
  refine cond_i (fun h1 => fin14 _ ?_) (fun h1 => ?_)
  · have : x.k = 1 := by simpa using h1
    simp [h1, this]
  · have n1 : ¬ x.k = 1 := by simpa using h1
    refine cond_i (fun h2' => fin14 _ ?_) (fun h2' => ?_)
    · have : x.k = 2 := by simpa using h2'
      simp [this]
    · have n2 : ¬ x.k = 2 := by simpa using h2'
      refine cond_i (fun h6 => fin14 _ ?_) (fun h6 => fin14 _ ?_)
      · have : x.k = 6 := by simpa using h6
        simp [this]
      · have n6 : ¬ x.k = 6 := by simpa using h6
        simp [n1, n2, n6]
end
end Go.Proofs.Ytmfidfaiopogbaa
