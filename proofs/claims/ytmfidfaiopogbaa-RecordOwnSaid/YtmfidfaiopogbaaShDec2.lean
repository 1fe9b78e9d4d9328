/- The front of bytes is a record just where it is the record of what it says. -/
import Derived.Test.YtmfidfaiopogbaaShDec
set_option linter.unusedVariables false
set_option linter.unusedSimpArgs false
set_option linter.unusedSectionVars false
set_option maxRecDepth 4000
namespace Go.Proofs.Ytmfidfaiopogbaa
open Go Go.Sh

theorem decF_cons {f : Nat × Int × Int} {fs : List (Nat × Int × Int)} {r : Bs} {y z : Op} {t : Bs} (h : decF (f :: fs) r y = some (z, t)) :
    ∃ m r', r = num m ++ r' ∧ f.2.1 ≤ (m : Int) ∧ (m : Int) ≤ f.2.2 ∧ decF fs r' (y.put f.1 m) = some (z, t) := by
  unfold decF at h
  cases ht : tk 0 0 r with
  | none => rw [ht] at h; cases h
  | some v =>
    obtain ⟨m, r'⟩ := v
    rw [ht] at h
    simp only at h
    split at h
    · rename_i hr
      obtain ⟨q, hm, hl, _, _⟩ := tk_some ht
      have : m = q := by rw [hm]; simp
      subst this
      exact ⟨m, r', hl, hr.1, hr.2, h⟩
    · cases h
theorem decF_put {f : Nat × Int × Int} {fs : List (Nat × Int × Int)} {m : Nat} {r : Bs} {y : Op} (h1 : f.2.1 ≤ (m : Int)) (h2 : (m : Int) ≤ f.2.2) (h3 : f.2.2 ≤ 2147483647) : decF (f :: fs) (num m ++ r) y = decF fs r (y.put f.1 m) := by
  conv => lhs; unfold decF
  have := tk_num m (i := 0) (p := 0) (r := r) (by omega) (.inl rfl) (by simp; omega)
  rw [this]
  simp only [Nat.pow_zero, Nat.mul_one, Nat.zero_add]
  rw [if_pos ⟨h1, h2⟩]

theorem plain_a {y : Op} (h : y.k = 1 ∨ y.k = 2 ∨ y.k = 6 ∨ y.k = 7) : plain y = if isV y.v then some ⟨y.k, 0, 0, y.v, 0⟩ else none := by unfold plain; rw [if_pos h]
theorem plain_3 {y : Op} (h : y.k = 3) : plain y = if isE y.e ∧ isV y.u ∧ isV y.v then some y else none := by unfold plain; rw [if_neg (by omega), if_pos h]
theorem plain_4 {y : Op} (h : y.k = 4) : plain y = if isE y.e then some ⟨y.k, y.e, 0, 0, 0⟩ else none := by unfold plain; rw [if_neg (by omega), if_neg (by omega), if_pos h]
theorem plain_5 {y : Op} (h : y.k = 5) : plain y = if isE y.e then some ⟨y.k, y.e, 0, 0, y.b⟩ else none := by unfold plain; rw [if_neg (by omega), if_neg (by omega), if_neg (by omega), if_pos h]
/-- The four shapes. -/
theorem shp_cases {k : Int} {s : List (Nat × Int × Int) × Bool} (h : shp k = some s) : ((k = 1 ∨ k = 2 ∨ k = 6 ∨ k = 7) ∧ s = ([(3, 0, 2147483647)], false)) ∨ (k = 3 ∧ s = ([(1, 1, 1024), (2, 0, 2147483647), (3, 0, 2147483647)], true)) ∨
    (k = 4 ∧ s = ([(1, 1, 1024)], false)) ∨ (k = 5 ∧ s = ([(1, 1, 1024)], true)) := by
  unfold shp at h
  split at h
  · rename_i hk; cases h; exact .inl ⟨hk, rfl⟩
  · split at h
    · rename_i hk; cases h; exact .inr (.inl ⟨hk, rfl⟩)
    · split at h
      · rename_i hk; cases h; exact .inr (.inr (.inl ⟨hk, rfl⟩))
      · split at h
        · rename_i hk; cases h; exact .inr (.inr (.inr ⟨hk, rfl⟩))
        · cases h

theorem decF_some {k : Int} {s : List (Nat × Int × Int) × Bool} (hs : shp k = some s) {r : Bs} {y : Op} {t : Bs} (h : decF s.1 r ⟨k, 0, 0, 0, 0⟩ = some (y, t)) :
    r = numsOf y s.1 ++ t ∧ (∀ f ∈ s.1, okf y f) ∧ y.k = k ∧ y.b = 0 ∧ (0 ≤ y.e ∧ y.e ≤ 2147483647 ∧ 0 ≤ y.u ∧ y.u ≤ 2147483647 ∧ 0 ≤ y.v ∧ y.v ≤ 2147483647) ∧ ∀ v, (s.2 = true ∨ v = 0) → plain { y with b := v } = some { y with b := v } := by
  rcases shp_cases hs with ⟨hk, rfl⟩ | ⟨rfl, rfl⟩ | ⟨rfl, rfl⟩ | ⟨rfl, rfl⟩
  · obtain ⟨m, r', rfl, h1, h2, h3⟩ := decF_cons h
    simp only [decF, Option.some.injEq, Prod.mk.injEq] at h3
    obtain ⟨rfl, rfl⟩ := h3
    refine ⟨by simp [numsOf, Op.put, Op.sel], by simp [okf, Op.put, Op.sel]; simpa using h2, rfl, rfl, by simp [Op.put]; omega, fun v hv => ?_⟩
    have hv0 : v = 0 := hv.resolve_left (by simp)
    subst hv0
    show plain (⟨k, 0, 0, (m : Int), 0⟩ : Op) = some ⟨k, 0, 0, (m : Int), 0⟩
    rw [plain_a (y := ⟨k, 0, 0, (m : Int), 0⟩) hk, if_pos (show isV (m : Int) from ⟨by omega, h2⟩)]
  · obtain ⟨m1, r1, rfl, h1, h2, h3⟩ := decF_cons h
    obtain ⟨m2, r2, rfl, h4, h5, h6⟩ := decF_cons h3
    obtain ⟨m3, r3, rfl, h7, h8, h9⟩ := decF_cons h6
    simp only [decF, Option.some.injEq, Prod.mk.injEq] at h9
    obtain ⟨rfl, rfl⟩ := h9
    simp only at h1 h2 h4 h5 h7 h8
    refine ⟨by simp [numsOf, Op.put, Op.sel], by simp [okf, Op.put, Op.sel]; omega, rfl, rfl, by simp [Op.put]; omega, fun v hv => ?_⟩
    show plain (⟨3, (m1 : Int), (m2 : Int), (m3 : Int), v⟩ : Op) = some ⟨3, (m1 : Int), (m2 : Int), (m3 : Int), v⟩
    rw [plain_3 rfl, if_pos (show isE (m1 : Int) ∧ isV (m2 : Int) ∧ isV (m3 : Int) from ⟨⟨h1, h2⟩, ⟨by omega, h5⟩, ⟨by omega, h8⟩⟩)]
  · obtain ⟨m, r', rfl, h1, h2, h3⟩ := decF_cons h
    simp only [decF, Option.some.injEq, Prod.mk.injEq] at h3
    obtain ⟨rfl, rfl⟩ := h3
    simp only at h1 h2
    refine ⟨by simp [numsOf, Op.put, Op.sel], by simp [okf, Op.put, Op.sel]; omega, rfl, rfl, by simp [Op.put]; omega, fun v hv => ?_⟩
    have hv0 : v = 0 := hv.resolve_left (by simp)
    subst hv0
    show plain (⟨4, (m : Int), 0, 0, 0⟩ : Op) = some ⟨4, (m : Int), 0, 0, 0⟩
    rw [plain_4 rfl, if_pos (show isE (m : Int) from ⟨h1, h2⟩)]
  · obtain ⟨m, r', rfl, h1, h2, h3⟩ := decF_cons h
    simp only [decF, Option.some.injEq, Prod.mk.injEq] at h3
    obtain ⟨rfl, rfl⟩ := h3
    simp only at h1 h2
    refine ⟨by simp [numsOf, Op.put, Op.sel], by simp [okf, Op.put, Op.sel]; omega, rfl, rfl, by simp [Op.put]; omega, fun v hv => ?_⟩
    show plain (⟨5, (m : Int), 0, 0, v⟩ : Op) = some ⟨5, (m : Int), 0, 0, v⟩
    rw [plain_5 rfl, if_pos (show isE (m : Int) from ⟨h1, h2⟩)]
theorem decF_ok {z : Op} {s : List (Nat × Int × Int) × Bool} (hs : shp z.k = some s) (hp : plain z = some z) (t : Bs) : decF s.1 (numsOf z s.1 ++ t) ⟨z.k, 0, 0, 0, 0⟩ = some ({ z with b := 0 }, t) ∧ (s.2 = false → z.b = 0) := by
  obtain ⟨k, e, u, v, b⟩ := z
  simp only at hs
  rcases shp_cases hs with ⟨hk, rfl⟩ | ⟨rfl, rfl⟩ | ⟨rfl, rfl⟩ | ⟨rfl, rfl⟩
  · rw [plain_a (by exact hk)] at hp
    split at hp
    · rename_i hv
      simp only [Option.some.injEq, Op.mk.injEq] at hp
      obtain ⟨_, rfl, rfl, _, rfl⟩ := hp
      obtain ⟨g, rfl⟩ := Int.eq_ofNat_of_zero_le (show 0 ≤ v from hv.1)
      refine ⟨?_, fun _ => rfl⟩
      show decF [(3, 0, 2147483647)] ((num g ++ []) ++ t) _ = _
      rw [List.append_nil, decF_put (by simp) (by exact hv.2) (by simp)]
      rfl
    · cases hp
  · rw [plain_3 rfl] at hp
    split at hp
    · rename_i hv
      obtain ⟨h1, h2, h3⟩ := hv
      obtain ⟨g1, rfl⟩ := Int.eq_ofNat_of_zero_le (show 0 ≤ e by have := h1.1; simp only at this; omega)
      obtain ⟨g2, rfl⟩ := Int.eq_ofNat_of_zero_le (show 0 ≤ u from h2.1)
      obtain ⟨g3, rfl⟩ := Int.eq_ofNat_of_zero_le (show 0 ≤ v from h3.1)
      refine ⟨?_, fun h => by cases h⟩
      show decF [(1, 1, 1024), (2, 0, 2147483647), (3, 0, 2147483647)] ((num g1 ++ (num g2 ++ (num g3 ++ []))) ++ t) _ = _
      rw [List.append_nil, List.append_assoc, List.append_assoc, decF_put (by exact h1.1) (by exact h1.2) (by simp), decF_put (by simp) (by exact h2.2) (by simp), decF_put (by simp) (by exact h3.2) (by simp)]
      rfl
    · cases hp
  · rw [plain_4 rfl] at hp
    split at hp
    · rename_i h1
      simp only [Option.some.injEq, Op.mk.injEq] at hp
      obtain ⟨_, _, rfl, rfl, rfl⟩ := hp
      obtain ⟨g1, rfl⟩ := Int.eq_ofNat_of_zero_le (show 0 ≤ e by have := h1.1; simp only at this; omega)
      refine ⟨?_, fun _ => rfl⟩
      show decF [(1, 1, 1024)] ((num g1 ++ []) ++ t) _ = _
      rw [List.append_nil, decF_put (by exact h1.1) (by exact h1.2) (by simp)]
      rfl
    · cases hp
  · rw [plain_5 rfl] at hp
    split at hp
    · rename_i h1
      simp only [Option.some.injEq, Op.mk.injEq] at hp
      obtain ⟨_, _, rfl, rfl, _⟩ := hp
      obtain ⟨g1, rfl⟩ := Int.eq_ofNat_of_zero_le (show 0 ≤ e by have := h1.1; simp only at this; omega)
      refine ⟨?_, fun h => by cases h⟩
      show decF [(1, 1, 1024)] ((num g1 ++ []) ++ t) _ = _
      rw [List.append_nil, decF_put (by exact h1.1) (by exact h1.2) (by simp)]
      rfl
    · cases hp

/-- y is a plain operation whose record l the bytes b begin with. -/
def Front (b : Bs) (y : Op) (l : Bs) : Prop := y.fit ∧ plain y = some y ∧ enc y = some l ∧ ∃ r, b = l ++ r
theorem body_len {y : Op} {s : List (Nat × Int × Int) × Bool} (hs : shp y.k = some s) (hok : ∀ f ∈ s.1, okf y f) : 2 ≤ (body y s).length ∧ (body y s).length ≤ 20 := by
  obtain ⟨h3, hf, _⟩ := shp_f hs
  letI : Av := noAv
  have h1 := numsOf_len (x := y) (fs := s.1) fun f hf' => ⟨hok f hf', (hf f hf').2.2⟩
  have h2 : 1 ≤ (numsOf y s.1).length := by
    have hn : ∀ m, 1 ≤ (num m).length := fun m => by
      by_cases h : m < 128
      · rw [num_lt h]; simp
      · rw [num_ge h]; simp
    rcases shp_cases hs with ⟨_, rfl⟩ | ⟨_, rfl⟩ | ⟨_, rfl⟩ | ⟨_, rfl⟩
    · simp only [numsOf, List.flatMap_cons, List.flatMap_nil, List.append_nil]; exact hn _
    · simp only [numsOf, List.flatMap_cons, List.length_append]; have := hn (y.sel 1).toNat; omega
    · simp only [numsOf, List.flatMap_cons, List.flatMap_nil, List.append_nil]; exact hn _
    · simp only [numsOf, List.flatMap_cons, List.flatMap_nil, List.append_nil]; exact hn _
  unfold body
  simp only [List.length_cons, List.length_append]
  cases s.2 <;> simp [bits4] <;> omega
theorem enc_some {y : Op} {l : Bs} (h : enc y = some l) : ∃ s, shp y.k = some s ∧ (∀ f ∈ s.1, okf y f) ∧ l = sealed (body y s) := by
  unfold enc at h
  cases hs : shp y.k with
  | none => rw [hs] at h; cases h
  | some s =>
    rw [hs] at h
    simp only at h
    split at h
    · rename_i hok; cases h; exact ⟨s, rfl, hok, rfl⟩
    · cases h
theorem dec_front {b : Bs} {y : Op} {l : Bs} (h : Front b y l) : dec b = some (y, l.length) := by
  obtain ⟨hfit, hp, he, r, rfl⟩ := h
  obtain ⟨s, hs, hok, rfl⟩ := enc_some he
  obtain ⟨hb1, hb2⟩ := body_len hs hok
  have hk := (shp_f hs).2.2
  have hL : (sealed (body y s)).length = (body y s).length + 2 := by simp [sealed]
  have h0 : ((sealed (body y s) ++ r).getD 0 0).toNat = (body y s).length := by
    show (UInt8.ofNat (body y s).length).toNat = _
    rw [UInt8.toNat_ofNat']; omega
  have ht : (sealed (body y s) ++ r).take ((body y s).length + 1) = UInt8.ofNat (body y s).length :: body y s := by
    unfold sealed
    rw [List.append_assoc, List.take_append_of_le_length (by simp)]
    exact List.take_of_length_le (by simp)
  have hc : (sealed (body y s) ++ r).getD ((body y s).length + 1) 0 = chk (UInt8.ofNat (body y s).length :: body y s) := by
    unfold sealed
    rw [List.append_assoc, List.getD_eq_getElem?_getD, List.getElem?_append_right (by simp)]
    simp
  have h1 : (((sealed (body y s) ++ r).getD 1 0).toNat : Int) = y.k := by
    show ((kb y.k).toNat : Int) = _
    unfold kb
    rw [UInt8.toNat_ofNat']; omega
  unfold dec
  rw [h0, ht, hc, if_neg (by simp [hL]; omega), if_neg (by simp), h1, hs]
  simp only
  have hd : (UInt8.ofNat (body y s).length :: body y s).drop 2 = numsOf y s.1 ++ (bif s.2 then bits4 y.b.toNat else []) := rfl
  rw [hd, (decF_ok hs hp _).1]
  simp only
  cases hs2 : s.2 with
  | true =>
    have : decB true (bits4 y.b.toNat) { y with b := 0 } = some y := by
      unfold decB
      rw [cond_true, if_pos (show (bits4 y.b.toNat).length = 4 from rfl), un_bits4 hfit.b.1 hfit.b.2]
    rw [cond_true, this, hL]; rfl
  | false =>
    have hb0 := (decF_ok hs hp []).2 hs2
    have : decB false [] { y with b := 0 } = some y := by
      unfold decB
      rw [cond_false, if_pos rfl, ← hb0]
    rw [cond_false, this, hL]; rfl
theorem dec_some {b : Bs} {y : Op} {n : Nat} (h : dec b = some (y, n)) : ∃ l, Front b y l ∧ l.length = n := by
  unfold dec at h
  split at h
  · cases h
  · rename_i hlen
    split at h
    · cases h
    · rename_i hchk
      cases hs : shp (b.getD 1 0).toNat with
      | none => rw [hs] at h; cases h
      | some s =>
        rw [hs] at h
        simp only at h
        cases hd : decF s.1 ((b.take ((b.getD 0 0).toNat + 1)).drop 2) ⟨(b.getD 1 0).toNat, 0, 0, 0, 0⟩ with
        | none => rw [hd] at h; cases h
        | some v =>
          obtain ⟨z, t⟩ := v
          rw [hd] at h
          simp only [Option.map_eq_some_iff, Prod.mk.injEq] at h
          obtain ⟨y', hB, rfl, rfl⟩ := h
          obtain ⟨hr, hok, hk, hb, hrng, hpl⟩ := decF_some hs hd
          generalize hL : (b.getD 0 0).toNat = L at *
          have hl1 : L + 2 ≤ b.length := by omega
          have hL0 : 1 ≤ L := by omega
          -- the weight
          have hw : ∃ v, y' = { z with b := v } ∧ (s.2 = true ∨ v = 0) ∧ t = (bif s.2 then bits4 v.toNat else []) ∧ 0 ≤ v ∧ v < 4294967296 := by
            unfold decB at hB
            cases hs2 : s.2 with
            | true =>
              rw [hs2, cond_true] at hB
              split at hB
              · rename_i h4
                cases hB
                obtain ⟨e1, e2, e3⟩ := bits4_un h4
                exact ⟨_, rfl, .inl rfl, e1.symm, e2, e3⟩
              · cases hB
            | false =>
              rw [hs2, cond_false] at hB
              split at hB
              · rename_i h4
                cases hB
                exact ⟨0, by rw [← hb], .inr rfl, h4, by omega, by omega⟩
              · cases hB
          obtain ⟨v, rfl, hv2, ht, hv0, hv1⟩ := hw
          have hbody : body { z with b := v } s = (b.take (L + 1)).drop 1 := by
            have e1 : (b.take (L + 1)).drop 1 = b.getD 1 0 :: (b.take (L + 1)).drop 2 := by
              have hlt : 1 < (b.take (L + 1)).length := by rw [List.length_take]; omega
              rw [List.drop_eq_getElem_cons hlt]
              congr 1
              rw [List.getElem_take, List.getD_eq_getElem?_getD, List.getElem?_eq_getElem (by omega)]
              rfl
            rw [e1, hr, ht]
            unfold body
            have e2 : kb ({ z with b := v } : Op).k = b.getD 1 0 := by
              show kb z.k = _
              rw [hk]
              unfold kb
              rw [Int.toNat_natCast]
              simp
            rw [e2]
            rfl
          have hBl : ((b.take (L + 1)).drop 1).length = L := by rw [List.length_drop, List.length_take]; omega
          have henc : enc { z with b := v } = some (sealed (body { z with b := v } s)) := by
            unfold enc
            rw [show ({ z with b := v } : Op).k = z.k from rfl, hk, hs]
            exact if_pos hok
          have hsl : sealed (body { z with b := v } s) = b.take (L + 2) := by
            rw [hbody]
            unfold sealed
            rw [hBl]
            have e3 : UInt8.ofNat L :: (b.take (L + 1)).drop 1 = b.take (L + 1) := by
              have hlt : 0 < (b.take (L + 1)).length := by rw [List.length_take]; omega
              have := List.drop_eq_getElem_cons hlt
              rw [List.drop_zero] at this
              rw [this]
              congr 1
              · have e5 : UInt8.ofNat L = b.getD 0 0 := by rw [← hL]; simp
                rw [e5, List.getElem_take, List.getD_eq_getElem?_getD, List.getElem?_eq_getElem (by omega)]
                rfl
            rw [e3]
            have hck : chk (b.take (L + 1)) = b.getD (L + 1) 0 := Classical.not_not.1 hchk
            have e6 : b.take (L + 2) = b.take (L + 1) ++ [b[L + 1]] := List.take_succ_eq_append_getElem (by omega)
            rw [hck, e6, List.getD_eq_getElem?_getD, List.getElem?_eq_getElem (by omega)]
            rfl
          have hkk := (shp_f hs).2.2
          refine ⟨b.take (L + 2), ⟨⟨?_, ?_, ?_, ?_, hv0, hv1⟩, hpl v hv2, by rw [henc, hsl], b.drop (L + 2), (List.take_append_drop _ _).symm⟩, by rw [List.length_take]; omega⟩
          · show _ ∧ _
            simp only [hk]; omega
          · show _ ∧ _
            simp only; omega
          · show _ ∧ _
            simp only; omega
          · show _ ∧ _
            simp only; omega
end Go.Proofs.Ytmfidfaiopogbaa
