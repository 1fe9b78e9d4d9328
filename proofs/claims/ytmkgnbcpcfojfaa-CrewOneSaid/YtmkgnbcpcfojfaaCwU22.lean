/- Function 22: the whole call. -/
import Derived.Test.YtmkgnbcpcfojfaaCwO22
import Derived.Test.YtmkgnbcpcfojfaaCwU12
set_option linter.unusedVariables false
set_option linter.unusedSimpArgs false
set_option maxRecDepth 10000
namespace Go.Proofs.Ytmkgnbcpcfojfaa
open Go Go.Cv Go.Conc Go.ConcN
open Go.ConcR (KK)

section
variable {x : Sh22} {O : Nat} {cs : List Frame} {MV : World} {Post : Value → World → Prop} {m n : Nat}
noncomputable def main22 (ok : x.Ok) (hN : x.N < 2 ^ 40) (hn : n ≤ 64) (hO : x.W0.heap.size ≤ O) (htB : x.tv.block < x.W0.heap.size) (hrB : x.rv.block < x.W0.heap.size) (cs : List Frame) : MainOk (wk22 x Post m true) n x.N where
  SelG := Sel22 x O cs
  ExitG := Exit22 x O cs
  Inv := Inv22 x O
  zE := .int .i64 0
  zR := z22R
  step := fun h => step22 h
  gave := fun hs hI hae heN hb co hC _ h => gave22 hN hs hI hae heN (by omega) hC h
  got := fun hs hb0 hb hI v0 hia haN heN co hC _ hro h => got22 hN hs hO hb0 (by omega) hI v0 htB hrB hia haN heN hC hro fun g' MV' e' c' h1 _ _ _ => h g' MV' e' c' h1

theorem loop22 (ok : x.Ok) (hM : x.M = x.N) (hN : x.N < 2 ^ 40) (hn : n ≤ 64) (hn0 : 0 < x.N → 0 < n) (hO : x.W0.heap.size ≤ O) (htB : x.tv.block < x.W0.heap.size) (hrB : x.rv.block < x.W0.heap.size) (hI : Inv22 x O (fun _ => False) x.N 0 MV)
    {R : Value → World → Prop} {c0 : Frame} (hK : ∀ v W', R v W' → (coF Try.prog 58 Post).J (G (c0.finish v) cs) W')
    (hR : ∀ MV' e c D, Inv22 x O D e c MV' → (∀ i, i < e → D i) → View0 (wk22 x Post m true) MV' →
      (c = 0 → R (.tuple #[.slice (some (adr O)) x.N x.N, .int .i64 0, .int .i64 0]) (shutV (wk22 x Post m true) MV')) ∧ (c ≠ 0 → R (.tuple #[.slice none 0 0, .int .i64 (e : Nat), .int .i64 c]) (shutV (wk22 x Post m true) MV')))
    {act : Act} (hs : Slots 87 [] act (mt22 x O x.N 0 0 0)) : (cm22 x Post m n n (noJob n)).J (G ((base 22).at act (.code n22_bbbbbabkl :: .inLoop n22_bbbbbabkl :: .inBlock 2 :: [.code n22_bbbbbb])) (c0 :: cs)) MV := by
  have ex : ∀ {e c D g MV'}, Exit22 x O (c0 :: cs) e c g → Inv22 x O D e c MV' → e ≤ x.N → (∀ i, i < e → D i) → JM (wk22 x Post m true) n 0 (XW (wk22 x Post m true) n) (noJob n) g MV' := fun {e c D g MV'} hE hI' he hD =>
    jm_view rfl fun hv => exit22 ok hn hK hE hI'.tv hv (hR MV' e c D hI' hD hv).1 (hR MV' e c D hI' hD hv).2
  refine head22 (cm22_closed ok n n (noJob n)) hI.tv hI.rv hs (fun hx g hg => ?_) (fun hx g hg => ?_)
  · refine jm_B (B := Bz n 0 0 fun _ => False) (fun job hj => ?_) (sel_loop (hM ▸ wok22 ok Post m true) (main22 ok hN hn hO htB hrB (c0 :: cs)) ex (2 * (x.N - 0) + 0) (Nat.le_refl _) (Nat.zero_le _) (Nat.le_refl _) hg hI hx (fun h => hn0 h))
    refine ⟨?_, ⟨fun k hk i hi => (by rw [hj k hk] at hi; cases hi), fun i hi => absurd hi (by omega)⟩⟩
    have : ∀ k, k ≤ n → sumTo k (fun k => one? (job k)) = 0 := by
      intro k
      induction k with
      | zero => intro _; rfl
      | succ k ih => intro hk; simp only [sumTo]; rw [ih (by omega), hj k (by omega)]; rfl
    exact this n (Nat.le_refl _)
  · exact ex hg hI (Nat.le_refl _) (fun i hi => by omega)
end

theorem info9 : (Try.prog.info? 9).map (fun i => (i.zero, i.size, i.bytes)) = some (some (.string ({ data := #[] } : ByteArray)), 1, 16) := by kernel_rfl
theorem sl25 : (match Try.prog.underlying 25 with | some (.slice e) => some e | _ => none) = some 9 := by kernel_rfl
theorem op22_alloc : opIs o22_bba 0 = some (.alloc 58, some 11, none) := by kernel_rfl
theorem bd22 : Try.f22.body = some n22_ := by kernel_rfl
theorem nt22 : Try.f22.ntmps = 87 := by kernel_rfl

/-- The number of hands. -/
def hands22 (hands : Int) (l : Nat) : Nat := (mnI (mnI (mxI hands 1) 64) (l : Int)).toNat
theorem hands22_eq (hands : Int) (l : Nat) : mnI (mnI (mxI hands 1) 64) (l : Int) = (hands22 hands l : Int) := by
  unfold hands22 mnI mxI
  split <;> split <;> split <;> omega
theorem hands22_le (hands : Int) (l : Nat) : hands22 hands l ≤ 64 := by
  unfold hands22 mnI mxI
  split <;> split <;> split <;> omega
theorem hands22_pos (hands : Int) {l : Nat} (h : 0 < l) : 0 < hands22 hands l := by
  unfold hands22 mnI mxI
  split <;> split <;> split <;> omega

set_option maxHeartbeats 1000000 in
theorem try22 {Post : Value → World → Prop} {W : World} {jq : Option Addr} {l cj : Nat} {hands : Int} {fdo : Value} {job er : Nat → Int} {r : Nat → ByteArray} (hl : 8 * l ≤ 2 ^ 42)
    (hjobs : ∀ i, i < l → ∃ q, jq = some q ∧ W.cell? (q.add i) = some (.int .i64 (job i))) (hcells : fdo.cells = #[fdo])
    (hdo : ∃ f, asFn fdo = some f ∧ cl f.1 = true ∧ ∀ W' : World, (∀ (b : Nat) (o : Obj), W.heap[b]? = some o → o ≠ unkC → W'.heap[b]? = some o) → ∀ co : Co, Closed Try.prog 58 true co → ∀ i, i < l →
      CallsJ Try.prog co f.1 (f.2.1.toList ++ ([.int .i64 (job i)] : List Value) ++ f.2.2.toList).toArray W' (fun v w => v = .tuple #[.string (r i), .int .i64 (er i)] ∧ w = W'))
    {R : Value → World → Prop} (hR : ∀ v W', Kept W W' → Ans22 W l r er v W' → R v W') : CallsJ Try.prog (coF Try.prog 58 Post) 22 #[.slice jq l cj, .int .i64 hands, fdo] W R := by
  intro c0 cs hK
  have hCF := fin_closed Try.prog 58 Post
  rw [enter_at _ Try.func22 bd22]
  have hs0 : Slots 87 [] ⟨#[.slice jq l cj, .int .i64 hands, fdo] ++ Array.replicate (Try.f22.ntmps - (#[Value.slice jq l cj, .int .i64 hands, fdo] : Array Value).size) undef, []⟩ [(0, .slice jq l cj), (1, .int .i64 hands), (2, fdo)] := by
    rw [nt22]
    exact ⟨by simp, rfl, fun p hp => by
      simp only [List.mem_cons, List.not_mem_nil, or_false] at hp
      rcases hp with rfl | rfl | rfl <;> simp⟩
  generalize (⟨#[.slice jq l cj, .int .i64 hands, fdo] ++ Array.replicate (Try.f22.ntmps - (#[Value.slice jq l cj, .int .i64 hands, fdo] : Array Value).size) undef, []⟩ : Act) = a0 at hs0 ⊢
  refine J_seq hCF e22_ ?_
  -- the two variables that are boxed
  obtain ⟨V, hV⟩ : ∃ V, V = (W.alloc (.cells #[.slice jq l cj] 22)).alloc (.cells fdo.cells 46) := ⟨_, rfl⟩
  obtain ⟨dvb, hdvb⟩ : ∃ b, b = (W.alloc (.cells #[.slice jq l cj] 22)).heap.size := ⟨_, rfl⟩
  refine pA22_J (jobs := jq) (l_jobs := l) (c_jobs := cj) (hands := hands) (fdo := fdo) hCF kind22 hs0 (fun ex vs w => ex = .normal ∧ V = w ∧ vs = [.int .i64 hands, ptr (adr W.heap.size), ptr (adr dvb)]) (by
    unfold pA22
    exact ⟨rfl, hV, by rw [hdvb]⟩) fun ex a1 W1 vs1 k1 hs1 => ?_
  obtain ⟨rfl, rfl, rfl⟩ := k1
  refine J_seq hCF e22_b ?_
  refine pB22_J (hands := hands) (jv := adr W.heap.size) (dv := adr dvb) hCF kind22 hs1 (Made22 V hands (adr W.heap.size) (adr dvb)) (made22 V hands _ _ _ rfl) fun ex a2 W2 vs2 k2 hs2 => ?_
  obtain ⟨rfl, ia, ib, ic, id, fs, rfl, hW2, f1, f2, f3, f4, f5, f6⟩ := k2
  -- where all lies
  have eV : V = extW W [.cells #[.slice jq l cj] 22, .cells #[fdo] 46] := by
    rw [hV, hcells]
    have h1 := ext_alloc (W := W) (fs := []) (.cells #[.slice jq l cj] 22)
    rw [ext_nil] at h1
    rw [h1, ext_alloc]; rfl
  have sV : V.heap.size = W.heap.size + 2 := by rw [eV, ext_size]; rfl
  have edv : dvb = W.heap.size + 1 := by
    have h1 := ext_alloc (W := W) (fs := []) (.cells #[.slice jq l cj] 22)
    rw [ext_nil] at h1
    rw [hdvb, h1, ext_size]; rfl
  obtain ⟨W3, hW3⟩ : ∃ w, w = W2.alloc (.cells #[] 58) := ⟨_, rfl⟩
  have e3 : W3 = extW V (fs ++ [.cells #[] 58]) := by rw [hW3, hW2, ext_alloc]
  have s2 : W2.heap.size = V.heap.size + 4 := by rw [hW2, ext_size, f1]
  have s3 : W3.heap.size = V.heap.size + 5 := by rw [e3, ext_size]; simp [f1]
  obtain ⟨T, hT⟩ : ∃ T, T = V.heap.size + ic := ⟨_, rfl⟩
  obtain ⟨Rc, hRc⟩ : ∃ T, T = V.heap.size + id := ⟨_, rfl⟩
  obtain ⟨W0, hW0⟩ : ∃ w : World, w = { W3 with heap := W3.heap.setIfInBounds T unkC } := ⟨_, rfl⟩
  have ltc : ic < 4 := by have := (List.getElem?_eq_some_iff.1 f4).1; omega
  have lta : ia < 4 := by have := (List.getElem?_eq_some_iff.1 f2).1; omega
  have ltb : ib < 4 := by have := (List.getElem?_eq_some_iff.1 f3).1; omega
  have ltd : id < 4 := by have := (List.getElem?_eq_some_iff.1 f5).1; omega
  have nac : ia ≠ ic := by rintro rfl; rw [f2] at f4; simp [hidC] at f4
  have nbc : ib ≠ ic := by rintro rfl; rw [f3] at f4; simp [hidC] at f4
  have s0 : W0.heap.size = W3.heap.size := by rw [hW0]; simp
  have get : ∀ b, b ≠ T → W0.heap[b]? = W3.heap[b]? := fun b hb => by rw [hW0]; exact Array.getElem?_setIfInBounds_ne (Ne.symm hb)
  have getT : W0.heap[T]? = some unkC := by rw [hW0]; exact Array.getElem?_setIfInBounds_self_of_lt (by omega)
  have g3 : ∀ j, j < 4 → W3.heap[V.heap.size + j]? = fs[j]? := fun j hj => by
    rw [e3, ext_at, List.getElem?_append_left (by omega)]
  have g3V : ∀ b, b < V.heap.size → W3.heap[b]? = V.heap[b]? := fun b hb => by rw [e3]; exact ext_old hb
  have gV : ∀ b, b < W.heap.size → V.heap[b]? = W.heap[b]? := fun b hb => by rw [eV]; exact ext_old hb
  have gV0 : V.heap[W.heap.size]? = some (.cells #[.slice jq l cj] 22) := by
    have := ext_at (W := W) (fs := [.cells #[.slice jq l cj] 22, .cells #[fdo] 46]) 0
    rw [← eV] at this; exact this
  have gV1 : V.heap[dvb]? = some (.cells #[fdo] 46) := by
    have := ext_at (W := W) (fs := [.cells #[.slice jq l cj] 22, .cells #[fdo] 46]) 1
    rw [← eV] at this; rw [edv]; exact this
  have g3w : W3.heap[W2.heap.size]? = some (.cells #[] 58) := by rw [hW3, heap_push]; simp
  have kept0 : ∀ (b : Nat) (o : Obj), W.heap[b]? = some o → o ≠ unkC → W0.heap[b]? = some o := fun b o ho _ => by
    have hlt := lt_of_known ho
    rw [get b (by omega), g3V b (by omega), gV b hlt]; exact ho
  let x : Sh22 := ⟨T, Rc, adr W2.heap.size, adr (V.heap.size + ia), adr dvb, adr W.heap.size, adr (V.heap.size + ib), W0, l, jq, cj, job, r, er, fdo, l⟩
  have c3 : ∀ (b : Nat) (v : Value) (ty : Nat), b ≠ T → W3.heap[b]? = some (.cells #[v] ty) → W0.cell? (adr b) = some v := fun b v ty hb h => by
    rw [show (adr b) = ⟨b, 0, none⟩ from rfl, cell_of (by rw [get b hb]; exact h)]; rfl
  have ok : x.Ok := by
    refine ⟨⟨_, rfl⟩, ?_, ?_, ?_, ?_, fun i hi => ?_, ?_, ?_, Nat.le_refl _⟩
    · exact c3 _ _ 47 (by omega) (by rw [g3 _ lta, f2, ← hT])
    · exact c3 _ _ 46 (by omega) (by rw [g3V _ (by omega)]; exact gV1)
    · exact c3 _ _ 22 (by omega) (by rw [g3V _ (by omega)]; exact gV0)
    · exact c3 _ _ 63 (by omega) (by rw [g3 _ ltb, f3, ← hRc])
    · obtain ⟨q, hq, hc⟩ := hjobs i hi
      exact ⟨q, hq, cell_keep hc fun o ho hne => kept0 _ o ho hne⟩
    · obtain ⟨f, hf1, hf2, hf3⟩ := hdo
      exact ⟨f, hf1, hf2, fun co hco i hi => hf3 W0 kept0 co hco i hi⟩
    · show T ≠ Rc
      omega
  have v0 : ∀ m, View0 (wk22 x Post m true) W3 := fun m => by
    refine ⟨fun b o ho hne => ?_, ?_, ?_, ?_, ?_, ?_, ?_, ⟨(0, 0), g3w⟩, getT⟩
    · have hb : b ≠ T := by rintro rfl; rw [show (wk22 x Post m true).W0.heap[b]? = W0.heap[b]? from rfl, getT] at ho; cases ho; exact hne rfl
      rw [← get b hb]; exact ho
    · show W0.heap.size ≤ _; omega
    · show W3.tape = W0.tape; rw [hW0]
    · show W3.os = W0.os; rw [hW0]
    · show W3.output = W0.output; rw [hW0]
    · show W3.heap[T]? = _; rw [hT, g3 _ ltc]; exact f4
    · show W3.heap[Rc]? = _; rw [hRc, g3 _ ltd]; exact f5
  -- the group is made
  refine J_seq hCF e22_bb ?_
  refine J_reg hCF e22_bba z22_bba ?_
  obtain ⟨z, hz, hzc⟩ := zero58
  refine fin_alloc (g' := G ((base 22).at (a2.put (some 11) (ptr (adr W2.heap.size))) (.inRegion o22_bba [] :: [.code n22_bbb])) (c0 :: cs)) rfl (fun w hw => ?_) (fun m => wk22 x Post m true) (fun m => ⟨rfl, rfl, rfl, rfl, rfl, by rw [← hW3]; exact v0 m⟩) fun m => ?_
  · rw [stepG_alloc' op22_alloc kind22 hz, hzc, hw]
  rw [← hW3]
  have hs3 := hs2.put (d := 11) (by omega) (ptr (adr W2.heap.size)) (by simp)
  refine jm_B (B := noJob 0) (fun j _ k hk => absurd hk (by omega)) ?_
  have hC0 := cm22_closed (Post := Post) (m := m) ok 0 0 (noJob 0)
  show (cm22 x Post m 0 0 (noJob 0)).J _ _
  refine J_rend hC0 ?_
  refine J_seq hC0 e22_bbb ?_
  refine J_seq hC0 e22_bbba ?_
  have c3' : ∀ (b : Nat) (v : Value) (ty : Nat), W3.heap[b]? = some (.cells #[v] ty) → W3.cell? (adr b) = some v := fun b v ty h => by
    rw [show (adr b) = ⟨b, 0, none⟩ from rfl, cell_of h]; rfl
  have cjv : W3.cell? (adr W.heap.size) = some (.slice jq l cj) := c3' _ _ 22 (by rw [g3V _ (by omega)]; exact gV0)
  refine pC22_J (hands := hands) (jv := x.jv) (dv := x.dv) (tv := x.tv) (rv := x.rv) (wg := x.wg) hC0 kind22 (hs3.sub (by simp [x])) (fun ex vs w => ex = .normal ∧ W3 = w ∧ vs = [ptr x.jv, ptr x.dv, ptr x.tv, ptr x.rv, ptr x.wg, .int .i64 (hands22 hands l), .int .i64 0]) ⟨jq, l, cj, cjv, by rw [hands22_eq]; exact ⟨rfl, rfl, rfl⟩⟩ fun ex a3 W3' vs3 k3 hs4 => ?_
  obtain ⟨rfl, rfl, rfl⟩ := k3
  refine J_blk hC0 e22_bbbab ?_
  refine J_lp hC0 e22_bbbabk ?_
  refine spawn22 ok (v0 m) (n := hands22 hands l) (hands22_le hands l) (fun a4 hs5 => ?_) (hands22 hands l) 0 a3 (by omega) (hs4.sub (by simp [sp22]))
  -- the slice of results
  have hCn := cm22_closed (Post := Post) (m := m) ok (hands22 hands l) (hands22 hands l) (noJob (hands22 hands l))
  refine J_seq hCn e22_bbbb ?_
  obtain ⟨ti, hti⟩ : ∃ i, Try.prog.info? 9 = some i ∧ i.zero = some (.string ({ data := #[] } : ByteArray)) ∧ i.size = 1 ∧ i.bytes = 16 := by
    have h := info9
    cases hi : Try.prog.info? 9 with
    | none => rw [hi] at h; cases h
    | some i => rw [hi] at h; simp only [Option.map_some, Option.some.injEq, Prod.mk.injEq] at h; exact ⟨i, rfl, h⟩
  have hsl : Try.prog.underlying 25 = some (.slice 9) := by
    have h := sl25
    split at h
    · rename_i e he; cases h; exact he
    · cases h
  obtain ⟨zs, hzs⟩ : ∃ zs : Array Value, zs = (Array.range (l * ti.size)).map ((Value.string ({ data := #[] } : ByteArray)).cells[· % (Value.string ({ data := #[] } : ByteArray)).cells.size]!) := ⟨_, rfl⟩
  have szs : zs.size = l := by rw [hzs]; simp [hti.2.2.1]
  obtain ⟨W4, hW4⟩ : ∃ w, w = W3.alloc (.cells zs 9) := ⟨_, rfl⟩
  have g4 : ∀ b, b < W3.heap.size → W4.heap[b]? = W3.heap[b]? := fun b hb => by
    rw [hW4, heap_push, Array.getElem?_push_lt hb]; simp [hb]
  have k4 : ∀ {ad : Addr} {v : Value}, W3.cell? ad = some v → W4.cell? ad = some v := fun {ad v} hc => cell_keep hc fun o ho _ => by rw [g4 _ (lt_of_known ho)]; exact ho
  refine pF22_J (jv := x.jv) (tv := x.tv) (rv := x.rv) (wg := x.wg) hCn kind22 (hs5.sub (by simp [sp22])) (fun ex vs w => ex = .normal ∧ W4 = w ∧ vs = [ptr x.tv, ptr x.rv, ptr x.wg, .slice (some (adr W3.heap.size)) l l, .int .i64 l, .int .i64 0]) ⟨jq, l, cj, cjv, jq, l, cj, cjv, .i64, l, 9, ti, .string ({ data := #[] } : ByteArray), rfl, rfl, hsl, hti.1, hti.2.1, by rw [hti.2.2.2]; omega, by omega, by rw [hti.2.2.1]; simp, rfl, by decide, by
      rw [← hzs, ← hW4]
      exact ⟨⟨jq, l, cj, k4 cjv, rfl⟩, rfl, rfl, rfl⟩⟩ fun ex a5 W5 vs5 k5 hs6 => ?_
  obtain ⟨rfl, rfl, rfl⟩ := k5
  refine J_seq hCn e22_bbbbb ?_
  refine J_seq hCn e22_bbbbba ?_
  refine pG22_J (tv := x.tv) (rv := x.rv) (wg := x.wg) (out := some (adr W3.heap.size)) (l_out := l) (c_out := l) (en := l) (code := 0) hCn kind22 hs6 (fun ex vs w => ex = .normal ∧ W4 = w ∧ vs = [ptr x.tv, ptr x.rv, ptr x.wg, .slice (some (adr W3.heap.size)) l l, .int .i64 l, .int .i64 0, .int .i64 0, .int .i64 0]) ⟨rfl, rfl, rfl⟩ fun ex a6 W6 vs6 k6 hs7 => ?_
  obtain ⟨rfl, rfl, rfl⟩ := k6
  refine J_blk hCn e22_bbbbbab ?_
  refine J_lp hCn e22_bbbbbabk ?_
  have hI : Inv22 x W3.heap.size (fun _ => False) x.N 0 W4 := by
    refine ⟨k4 (c3' _ _ 47 (by rw [g3 _ lta, f2, ← hT])), k4 (c3' _ _ 63 (by rw [g3 _ ltb, f3, ← hRc])), ⟨zs, by rw [hW4, heap_push]; simp, szs, fun i _ h => h.elim⟩, .inl ⟨rfl, rfl⟩, fun i h => h.elim⟩
  refine loop22 (x := x) (O := W3.heap.size) (n := hands22 hands l) ok rfl (by show l < 2 ^ 40; omega) (hands22_le hands l) (hands22_pos hands) (by show W0.heap.size ≤ _; omega) (by show V.heap.size + ia < W0.heap.size; omega) (by show V.heap.size + ib < W0.heap.size; omega) hI hK (fun MV' e c D hI' hD hv => ?_) (hs7.sub (by simp [mt22, x]))
  have hKept : Kept W (shutV (wk22 x Post m true) MV') := by
    refine ⟨fun b o ho hne => ?_, ?_, ?_, ?_, ?_⟩
    · have hlt := lt_of_known ho
      rw [shut_get (show b ≠ T by omega)]
      exact hv.blk b o (kept0 b o ho hne) hne
    · have h1 : (shutV (wk22 x Post m true) MV').heap.size = MV'.heap.size := by simp [shutV]
      have h2 : W0.heap.size ≤ MV'.heap.size := hv.le
      omega
    · show MV'.tape = W.tape; rw [hv.tape]; show W0.tape = _; rw [hW0]; show W3.tape = _; rw [e3]; show V.tape = _; rw [hV]; rfl
    · show MV'.os = W.os; rw [hv.os]; show W0.os = _; rw [hW0]; show W3.os = _; rw [e3]; show V.os = _; rw [hV]; rfl
    · show MV'.output = W.output; rw [hv.output]; show W0.output = _; rw [hW0]; show W3.output = _; rw [e3]; show V.output = _; rw [hV]; rfl
  refine ⟨fun hc => hR _ _ hKept (.inl ?_), fun hc => hR _ _ hKept (.inr ?_)⟩
  · rcases hI'.code with ⟨_, he⟩ | ⟨hn, _⟩
    · have he' : e = l := he
      obtain ⟨cells, o1, o2, o3⟩ := hI'.out
      refine ⟨fun i hi => hI'.fine i (hD i (by omega)) (by omega), W3.heap.size, by omega, rfl, cells, ?_, o2, fun i hi => o3 i hi (hD i (by omega))⟩
      rw [shut_get (show W3.heap.size ≠ T by omega)]; exact o1
    · exact absurd hc hn
  · rcases hI'.code with ⟨h0, _⟩ | ⟨_, he, hec⟩
    · exact absurd h0 hc
    · have hec' : er e = c := hec
      exact ⟨e, he, by rw [hec']; exact hc, fun j hj => hI'.fine j (hD j hj) hj, by rw [hec']⟩
end Go.Proofs.Ytmkgnbcpcfojfaa
