/- One hand: the whole call when the doing of a job turns the memory (it appends to a slice in a variable). -/
import Derived.Test.YtmkgnbcpcfojfaaCwU12
import Derived.Test.YtmkgnbcpcfojfaaCwE2
import Derived.Test.YtmkgnbcpcfojfaaCwL4
set_option linter.unusedVariables false
set_option linter.unusedSimpArgs false
set_option maxRecDepth 10000
namespace Go.Proofs.Ytmkgnbcpcfojfaa
open Go Go.Cv Go.Conc Go.ConcN
open Go.ConcR (KK)

/-- The variable in block cb holds the first a jobs; its array lies at B0 or behind. -/
def Came (cb B0 : Nat) (job : Nat → Int) (a : Nat) (w : World) : Prop := ∃ out c, w.heap[cb]? = some (.cells #[.slice out a c] 22 (0, 0)) ∧ Out B0 w out a c job
theorem Came.keep {cb B0 a : Nat} {job : Nat → Int} {w w' : World} (h : Came cb B0 job a w) (hk : ∀ b, b = cb ∨ (B0 ≤ b ∧ b < w.heap.size) → w'.heap[b]? = w.heap[b]?) : Came cb B0 job a w' := by
  obtain ⟨out, c, h1, h2⟩ := h
  refine ⟨out, c, by rw [hk cb (.inl rfl)]; exact h1, ?_⟩
  rcases h2 with h2 | ⟨O, cells, g1, g2, g3, g4⟩
  · exact .inl h2
  · exact .inr ⟨O, cells, g1, g2, by rw [hk O (.inr ⟨g2, lt_of_known g3⟩)]; exact g3, g4⟩
def KeptBut (cb : Nat) (W W' : World) : Prop := (∀ (b : Nat) (o : Obj), W.heap[b]? = some o → o ≠ unkC → b ≠ cb → W'.heap[b]? = some o) ∧ W.heap.size ≤ W'.heap.size ∧ W'.tape = W.tape ∧ W'.os = W.os ∧ W'.output = W.output
/-- What it answers: n: how many jobs came. -/
def Ans1 (N n : Nat) (er : Nat → Int) (v : Value) : Prop :=
  (n = N ∧ ∃ o a c, v = .tuple #[.slice o a c, .int .i64 0, .int .i64 0]) ∨ ∃ i, i < N ∧ i < n ∧ n ≤ N ∧ er i ≠ 0 ∧ ∃ o a c, v = .tuple #[.slice o a c, .int .i64 i, .int .i64 (er i)]

section
variable {x : Sh12} {O : Nat} {cs : List Frame} {MV : World} {co : Co} {a b e : Nat} {c : Int} {i : Nat}
/-- A job in hand, its doing turning the memory. -/
theorem next_one (ok : x.Ok) {co : Co} (hC : Closed Try.prog 58 false co) {MV : World} {Q : World → Prop} {g : Goroutine} (h : Recv12 x g) (hi : i < x.N) (hd : MV.cell? x.dv = some x.fdo) (hj : MV.cell? x.jv = some (.slice x.jq x.N x.cj))
    (hjobs : ∃ q, x.jq = some q ∧ MV.cell? (q.add i) = some (.int .i64 (x.job i)))
    (hdo : ∃ f, asFn x.fdo = some f ∧ cl f.1 = true ∧ CallsJ Try.prog co f.1 (f.2.1.toList ++ ([.int .i64 (x.job i)] : List Value) ++ f.2.2.toList).toArray MV (fun v w => v = .tuple #[.int .i64 (x.r i), .int .i64 (x.er i)] ∧ Q w))
    (hrv : ∀ w, Q w → w.cell? x.rv = some (.chan (some x.R))) (hJ : ∀ g' w, Send12 x i g' → Q w → co.J g' w) : co.J (Go.Conc.served g (.tuple #[.int .i64 i, .bool true])) MV := by
  obtain ⟨a, rfl, hs⟩ := h
  rw [served_at, dst_of op25_recv]
  have hs1 := hs.put (d := 9) (by omega) (.tuple #[.int .i64 i, .bool true]) (by simp [cap12])
  refine wB12_J (tv := x.tv) hC kind25 (hs1.sub (by simp [cap12])) (fun _ vs w => w = MV ∧ vs = [ptr x.wg, ptr x.tv, ptr x.dv, ptr x.jv, ptr x.rv, .chan (some x.T), .tuple #[.int .i64 i, .bool true], .bool true]) ⟨rfl, rfl⟩ fun a1 W1 vs1 k1 hs2 => ?_
  obtain ⟨rfl, rfl⟩ := k1
  rw [kR25]
  refine J_seq hC e25_bbklb ?_
  refine J_cnd hC true e25_bbklba (hs2.ev (t := 10) (by simp)) ?_
  refine J_skp hC e25_bat ?_
  refine J_blk hC e25_bbklbb ?_
  refine J_seq hC e25_bbklbbk ?_
  refine wC12_J (ok := true) (co := co) (wg := x.wg) (tv := x.tv) (dv := x.dv) (jv := x.jv) (rv := x.rv) (ch := .chan (some x.T)) (i := (i : Int)) hC kind25 (hs2.sub (by simp)) (fun e vs w => e = .normal ∧ w = W1 ∧ vs = [ptr x.wg, ptr x.tv, ptr x.dv, ptr x.jv, ptr x.rv, .chan (some x.T), .int .i64 i]) ⟨rfl, rfl, rfl⟩ fun e a2 W2 vs2 k2 hs3 => ?_
  obtain ⟨rfl, rfl, rfl⟩ := k2
  show co.J _ _
  refine J_seq hC e25_bbklbbkb ?_
  refine wD12_J (co := co) (wg := x.wg) (tv := x.tv) (dv := x.dv) (jv := x.jv) (rv := x.rv) (ch := .chan (some x.T)) (i := (i : Int)) hC kind25 (hs3.sub (by simp)) (fun e vs w => e = .normal ∧ Q w ∧ vs = [ptr x.wg, ptr x.tv, ptr x.dv, ptr x.jv, ptr x.rv, .chan (some x.T), .int .i64 i, .int .i64 (x.r i), .int .i64 (x.er i)]) ?_ fun e a3 W3 vs3 k3 hs4 => ?_
  · obtain ⟨q, hq, hcell⟩ := hjobs
    obtain ⟨f, hf, hcl, hcall⟩ := hdo
    refine ⟨x.fdo, hd, x.jq, x.N, x.cj, hj, q, hq, by omega, by omega, x.job i, by simpa using hcell, ?_⟩
    rw [hf]
    show cond (cl f.1) _ _
    rw [hcl]
    show CallsJ _ _ _ _ _ _
    intro c cs hc
    refine hcall c cs fun v w hv => hc v w ?_
    obtain ⟨rfl, hQ⟩ := hv
    exact ⟨_, _, rfl, rfl, hQ, rfl⟩
  obtain ⟨rfl, hQ, rfl⟩ := k3
  show co.J _ _
  refine wE12_J (co := co) (wg := x.wg) (tv := x.tv) (dv := x.dv) (jv := x.jv) (rv := x.rv) (ch := .chan (some x.T)) (i := (i : Int)) (r := x.r i) (er := x.er i) hC kind25 (hs4.sub (by simp)) (fun e vs w => w = W3 ∧ vs = [ptr x.wg, ptr x.tv, ptr x.dv, ptr x.jv, ptr x.rv, .chan (some x.T), .chan (some x.R), res12 x i]) ⟨_, hrv _ hQ, rfl, rfl⟩ fun a4 W4 vs4 k4 hs5 => ?_
  obtain ⟨rfl, rfl⟩ := k4
  exact hJ _ _ ⟨hi, a4, rfl, hs5.sub (by simp [cap12])⟩ hQ
/-- A job is given: what goroutine 0 does until its next select, whoever turns the memory. -/
theorem gaveT12 (hN : x.N < 2 ^ 40) {ee : Bool} {g : Goroutine} (hs : Sel12 x O cs a b e c g) (htv : MV.cell? x.tv = some (.chan (some x.T))) (hrv : MV.cell? x.rv = some (.chan (some x.R))) (hae : a < e) (heN : e ≤ x.N) (hb : b ≤ 64) (hC : Closed Try.prog 58 ee co)
    (h : ∀ g', Sel12 x O cs (a + 1) (b + 1) e c g' → co.J g' MV) : co.J (Go.Conc.served g (.tuple #[goInt 0, .bool false, z12R])) MV := by
  obtain ⟨act, rfl, hs⟩ := hs
  rw [served_at, dst12_sel]
  have hs1 := hs.put (d := 50) (by omega) (.tuple #[goInt 0, .bool false, z12R]) (by simp [mt12])
  refine pS12_J (tv := x.tv) (rv := x.rv) (wg := x.wg) (out := some (adr O)) (l_out := x.N) (c_out := x.N) (en := e) (code := c) (next := a) (waiting := b) (ix := 0) (ok := false) (da := 0) (dr := 0) (dc := 0) hC kind12 (hs1.sub (by simp [mt12, goInt, z12R])) (fun ex vs w => MV = w ∧ vs = [ptr x.tv, ptr x.rv, ptr x.wg, .slice (some (adr O)) x.N x.N, .int .i64 e, .int .i64 c, .int .i64 a, .int .i64 b, .tuple #[.int .i64 0, .bool false, .agg #[.int .i64 0, .int .i64 0, .int .i64 0]], .bool true, .bool false]) ⟨rfl, rfl⟩ fun a1 W1 vs1 k1 hs2 => ?_
  obtain ⟨rfl, rfl⟩ := k1
  refine J_blk hC e12_bbbbbabklbkbbbb ?_
  refine J_cnd hC true e12_bbbbbabklbkbbbbk (hs2.ev (t := 52) (by simp)) ?_
  refine pT12_J (tv := x.tv) (rv := x.rv) (wg := x.wg) (out := some (adr O)) (l_out := x.N) (c_out := x.N) (en := e) (code := c) (next := a) (waiting := b) hC kind12 (hs2.sub (by simp)) (fun ex vs w => ex = .normal ∧ MV = w ∧ vs = [ptr x.tv, ptr x.rv, ptr x.wg, .slice (some (adr O)) x.N x.N, .int .i64 e, .int .i64 c, .int .i64 ((a + 1 : Nat) : Int), .int .i64 ((b + 1 : Nat) : Int)]) (by
    have e1 := wrap_small (i := a + 1) (by omega)
    have e2 := wrap_small (i := b + 1) (by omega)
    simp only [Int.natCast_add, Int.natCast_one] at e1 e2 ⊢
    unfold pT12
    rw [e1, e2]
    exact ⟨rfl, rfl, rfl⟩) fun ex a2 W2 vs2 k2 hs3 => ?_
  obtain ⟨rfl, rfl, rfl⟩ := k2
  refine J_inB hC ?_
  show co.J (G ((base 12).at a2 kL12) cs) MV
  refine J_inB hC ?_
  refine J_inL hC ?_
  exact head12 hC htv hrv (hs3.sub (by simp [mt12])) (fun _ => h) (fun hx => absurd (Or.inr (Nat.succ_pos b)) hx)

end

section
variable {x : Sh12} {O cb : Nat} {cs : List Frame} {MV : World} {Post : Value → World → Prop} {m n : Nat}
/-- What the doing of a job does. -/
def Does1 (x : Sh12) (Post : Value → World → Prop) (m cb B0 : Nat) : Prop := ∀ (MV : World) (a : Nat), a < x.N → Came cb B0 x.job a MV → View0 (wk12 x Post m true) MV → B0 ≤ MV.heap.size → ∀ co : Co, Closed Try.prog 58 false co → (∀ b, B0 ≤ b ∨ b = cb → ¬ co.ro b) →
  ∃ f, asFn x.fdo = some f ∧ cl f.1 = true ∧ CallsJ Try.prog co f.1 (f.2.1.toList ++ ([.int .i64 (x.job a)] : List Value) ++ f.2.2.toList).toArray MV
    (fun v w => v = .tuple #[.int .i64 (x.r a), .int .i64 (x.er a)] ∧ Came cb B0 x.job (a + 1) w ∧ B0 ≤ w.heap.size ∧ ∀ b, b < B0 → b ≠ cb → w.heap[b]? = MV.heap[b]?)
noncomputable def main1 (ok : x.Ok) (hN : x.N < 2 ^ 40) (hO : x.W0.heap.size ≤ O) (htB : x.tv.block < x.W0.heap.size) (hrB : x.rv.block < x.W0.heap.size) (htc : x.tv.block ≠ cb) (hrc : x.rv.block ≠ cb) (hcO : cb < O) (hcu : x.W0.heap[cb]? = some unkC) (hdo : Does1 x Post m cb (O + 1)) (cs : List Frame) : OneOk (wk12 x Post m true) x.N where
  SelG := Sel12 x O cs
  ExitG := Exit12 x O cs
  Inv := fun a e c MV => Inv12 x O (fun i => i < a) e c MV ∧ Came cb (O + 1) x.job a MV ∧ O + 1 ≤ MV.heap.size ∧ (c ≠ 0 → e < a)
  Inw := fun a e c MV => Inv12 x O (fun i => i < a) e c MV ∧ Came cb (O + 1) x.job (a + 1) MV ∧ O + 1 ≤ MV.heap.size ∧ (c ≠ 0 → e < a)
  zE := .int .i64 0
  zR := z12R
  step := fun h => step12 h
  gave := fun {a e c g} hs hae heN => gaveT12 (co := ⟨true, fun _ => True, TreeJ Try.prog 58 true true (fun _ => True) (fun g' _ => Sel12 x O cs (a + 1) 1 e c g')⟩) hN hs ok.t ok.rr hae heN (by omega) (tree_closed _ _ _ _ _ _) fun g' hg' => tree_stop hg'
  work := fun {a e c y MV} hy hI v ha co hC hm hro hJ => by
    obtain ⟨hI1, hI2, hI3, hI4⟩ := hI
    have kc : ∀ {ad : Addr} {v' : Value}, x.W0.cell? ad = some v' → MV.cell? ad = some v' := fun {ad v'} h => cell_keep h fun o ho hne => v.blk _ o ho hne
    have hnro : ∀ b, O + 1 ≤ b ∨ b = cb → ¬ co.ro b := fun b hb => by
      rw [hro]
      rintro ⟨o, ho, hne⟩
      have ho' : x.W0.heap[b]? = some o := ho
      rcases hb with h | rfl
      · have := lt_of_known ho'; omega
      · rw [hcu] at ho'; cases ho'; exact hne rfl
    obtain ⟨f, hf1, hf2, hf3⟩ := hdo MV a ha hI2 v hI3 co hC hnro
    obtain ⟨q, hq, hjc⟩ := ok.jobs a ha
    refine next_one ok hC hy ha (kc ok.d) (kc ok.j) ⟨q, hq, kc hjc⟩ (Q := fun w => Came cb (O + 1) x.job (a + 1) w ∧ O + 1 ≤ w.heap.size ∧ ∀ b, b < O + 1 → b ≠ cb → w.heap[b]? = MV.heap[b]?) ⟨f, hf1, hf2, hf3⟩ (fun w hw => ?_) fun g' w hg' hw => hJ g' w hg' ?_
    · exact cell_keep hI1.rv fun o ho _ => by rw [hw.2.2 _ (by omega) hrc]; exact ho
    · refine ⟨⟨cell_keep hI1.tv fun o ho _ => by rw [hw.2.2 _ (by omega) htc]; exact ho, cell_keep hI1.rv fun o ho _ => by rw [hw.2.2 _ (by omega) hrc]; exact ho, ?_, hI1.code, hI1.fine⟩, hw.1, hw.2.1, hI4⟩
      obtain ⟨cells, h1, h2, h3⟩ := hI1.out
      exact ⟨cells, by rw [hw.2.2 O (by omega) (by omega)]; exact h1, h2, h3⟩
  got := fun {a e c g MV} hs hI v hae heN co hC hm hro h => by
    obtain ⟨hI1, hI2, hI3, hI4⟩ := hI
    refine got12 (n := 1) (i := a) hN hs hO (by omega) (by omega) hI1 v htB hrB (by omega) (by omega) heN hC hro fun g' MV' e' c' k1 k2 k3 k7 k4 k5 k6 => h g' MV' e' c' ⟨?_, ?_, by omega, ?_⟩ k4 (fun hx => k5 (.inl hx)) (fun hx => k6 (by omega))
    · have e1 : (fun j => j < a ∨ j = a) = fun i => i < a + 1 := by
        funext j
        apply propext
        omega
      rw [e1] at k1; exact k1
    · exact hI2.keep fun b hb => k2 b (by rcases hb with h | h <;> omega) (by rcases hb with h | h <;> omega)
    · intro hc
      rcases k7 with ⟨rfl, rfl⟩ | rfl
      · have := hI4 hc; omega
      · omega

theorem loop1 (ok : x.Ok) (hM : x.M = 0) (hN : x.N < 2 ^ 40) (hn : n ≤ 1) (hnp : 0 < x.N → n = 1) (hO : x.W0.heap.size ≤ O) (htB : x.tv.block < x.W0.heap.size) (hrB : x.rv.block < x.W0.heap.size) (htc : x.tv.block ≠ cb) (hrc : x.rv.block ≠ cb) (hcO : cb < O) (hOs : O + 1 ≤ MV.heap.size) (hcu : x.W0.heap[cb]? = some unkC)
    (hdo : Does1 x Post m cb (O + 1)) (hI : Inv12 x O (fun _ => False) x.N 0 MV) (hCm : Came cb (O + 1) x.job 0 MV)
    {R : Value → World → Prop} {c0 : Frame} (hK : ∀ v W', R v W' → (coF Try.prog 58 Post).J (G (c0.finish v) cs) W')
    (hR : ∀ MV' e c a, Inv12 x O (fun i => i < a) e c MV' → Came cb (O + 1) x.job a MV' → (c ≠ 0 → e < a) → e ≤ a → a ≤ x.N → View0 (wk12 x Post m true) MV' →
      (c = 0 → R (.tuple #[.slice (some (adr O)) x.N x.N, .int .i64 0, .int .i64 0]) (shutV (wk12 x Post m true) MV')) ∧ (c ≠ 0 → R (.tuple #[.slice none 0 0, .int .i64 (e : Nat), .int .i64 c]) (shutV (wk12 x Post m true) MV')))
    {act : Act} (hs : Slots 87 [] act (mt12 x O x.N 0 0 0)) : (cm12 x Post m n n (noJob n)).J (G ((base 12).at act (.code n12_bbbbbabkl :: .inLoop n12_bbbbbabkl :: .inBlock 2 :: [.code n12_bbbbbb])) (c0 :: cs)) MV := by
  have ex : ∀ {n a e c g MV'}, n ≤ 1 → Exit12 x O (c0 :: cs) e c g → Inv12 x O (fun i => i < a) e c MV' → Came cb (O + 1) x.job a MV' → (c ≠ 0 → e < a) → e ≤ a → a ≤ x.N → JM (wk12 x Post m true) n 0 (XW (wk12 x Post m true) n) (noJob n) g MV' := fun {n a e c g MV'} hn hE hI' hc hca hea ha =>
    jm_view rfl fun hv => exit12 ok (show n ≤ 64 by omega) hK hE hI'.tv hv (hR MV' e c a hI' hc hca hea ha hv).1 (hR MV' e c a hI' hc hca hea ha hv).2
  have hI0 : Inv12 x O (fun i => i < 0) x.N 0 MV := ⟨hI.tv, hI.rv, by obtain ⟨cells, h1, h2, h3⟩ := hI.out; exact ⟨cells, h1, h2, fun i _ h => absurd h (by omega)⟩, hI.code, fun i h => absurd h (by omega)⟩
  refine head12 (cm12_closed ok n n (noJob n)) hI.tv hI.rv hs (fun hx g hg => ?_) (fun hx g hg => ?_)
  · have h0 : 0 < x.N := by omega
    obtain rfl := hnp h0
    exact one_loop (hM ▸ wok12 ok Post m true) (main1 ok hN hO htB hrB htc hrc hcO hcu hdo (c0 :: cs)) (fun {a e c g MV} hE hI' hea haN => ex (Nat.le_refl _) hE hI'.1 hI'.2.1 hI'.2.2.2 hea haN) x.N (by omega) h0 (Nat.le_refl _) hg ⟨hI0, hCm, hOs, fun h => absurd rfl h⟩
  · exact ex hn hg hI0 hCm (fun h => absurd rfl h) (by omega) (Nat.zero_le _)
end

set_option maxHeartbeats 1000000 in
theorem try1 {Post : Value → World → Prop} {W : World} {jq : Option Addr} {l cj : Nat} {hands : Int} {fdo : Value} {job r er : Nat → Int} {cb : Nat} (hl : 8 * l ≤ 2 ^ 42) (hh1 : hands ≤ 1) (hjb : 0 < l → ∀ q, jq = some q → q.block ≠ cb)
    (hjobs : ∀ i, i < l → ∃ q, jq = some q ∧ W.cell? (q.add i) = some (.int .i64 (job i))) (hcells : fdo.cells = #[fdo]) (hcb : W.heap[cb]? = some (.cells #[.slice none 0 0] 22 (0, 0)))
    (hdo : ∃ f, asFn fdo = some f ∧ cl f.1 = true ∧ ∀ (B0 : Nat) (MV : World) (a : Nat), a < l → Came cb B0 job a MV → (∀ (b : Nat) (o : Obj), W.heap[b]? = some o → o ≠ unkC → b ≠ cb → MV.heap[b]? = some o) → cb < B0 → B0 ≤ MV.heap.size →
      ∀ co : Co, Closed Try.prog 58 false co → (∀ b, B0 ≤ b ∨ b = cb → ¬ co.ro b) → CallsJ Try.prog co f.1 (f.2.1.toList ++ ([.int .i64 (job a)] : List Value) ++ f.2.2.toList).toArray MV
        (fun v w => v = .tuple #[.int .i64 (r a), .int .i64 (er a)] ∧ Came cb B0 job (a + 1) w ∧ B0 ≤ w.heap.size ∧ ∀ b, b < B0 → b ≠ cb → w.heap[b]? = MV.heap[b]?))
    {R : Value → World → Prop} (hR : ∀ v W' n B0, KeptBut cb W W' → Came cb B0 job n W' → Ans1 l n er v → R v W') : CallsJ Try.prog (coF Try.prog 58 Post) 12 #[.slice jq l cj, .int .i64 hands, fdo] W R := by
  intro c0 cs hK
  have hCF := fin_closed Try.prog 58 Post
  rw [enter_at _ Try.func12 bd12]
  have hs0 : Slots 87 [] ⟨#[.slice jq l cj, .int .i64 hands, fdo] ++ Array.replicate (Try.f12.ntmps - (#[Value.slice jq l cj, .int .i64 hands, fdo] : Array Value).size) undef, []⟩ [(0, .slice jq l cj), (1, .int .i64 hands), (2, fdo)] := by
    rw [nt12]
    exact ⟨by simp, rfl, fun p hp => by
      simp only [List.mem_cons, List.not_mem_nil, or_false] at hp
      rcases hp with rfl | rfl | rfl <;> simp⟩
  generalize (⟨#[.slice jq l cj, .int .i64 hands, fdo] ++ Array.replicate (Try.f12.ntmps - (#[Value.slice jq l cj, .int .i64 hands, fdo] : Array Value).size) undef, []⟩ : Act) = a0 at hs0 ⊢
  refine J_seq hCF e12_ ?_
  -- the two variables that are boxed
  obtain ⟨V, hV⟩ : ∃ V, V = (W.alloc (.cells #[.slice jq l cj] 22)).alloc (.cells fdo.cells 34) := ⟨_, rfl⟩
  obtain ⟨dvb, hdvb⟩ : ∃ b, b = (W.alloc (.cells #[.slice jq l cj] 22)).heap.size := ⟨_, rfl⟩
  refine pA12_J (jobs := jq) (l_jobs := l) (c_jobs := cj) (hands := hands) (fdo := fdo) hCF kind12 hs0 (fun ex vs w => ex = .normal ∧ V = w ∧ vs = [.int .i64 hands, ptr (adr W.heap.size), ptr (adr dvb)]) (by
    unfold pA12
    exact ⟨rfl, hV, by rw [hdvb]⟩) fun ex a1 W1 vs1 k1 hs1 => ?_
  obtain ⟨rfl, rfl, rfl⟩ := k1
  refine J_seq hCF e12_b ?_
  refine pB12_J (hands := hands) (jv := adr W.heap.size) (dv := adr dvb) hCF kind12 hs1 (Made12 V hands (adr W.heap.size) (adr dvb)) (made12 V hands _ _ _ rfl) fun ex a2 W2 vs2 k2 hs2 => ?_
  obtain ⟨rfl, ia, ib, ic, id, fs, rfl, hW2, f1, f2, f3, f4, f5, f6⟩ := k2
  -- where all lies
  have eV : V = extW W [.cells #[.slice jq l cj] 22, .cells #[fdo] 34] := by
    rw [hV, hcells]
    have h1 := ext_alloc (W := W) (fs := []) (.cells #[.slice jq l cj] 22)
    rw [ext_nil] at h1
    rw [h1, ext_alloc]; rfl
  have sV : V.heap.size = W.heap.size + 2 := by rw [eV, ext_size]; rfl
  have edv : dvb = W.heap.size + 1 := by
    have h1 := ext_alloc (W := W) (fs := []) (.cells #[.slice jq l cj] 22)
    rw [ext_nil] at h1
    rw [hdvb, h1, ext_size]; rfl
  obtain ⟨W3, hW3⟩ : ∃ w, w = W2.alloc (.cells #[] 58) := ⟨_, rfl⟩
  have e3 : W3 = extW V (fs ++ [.cells #[] 58]) := by rw [hW3, hW2, ext_alloc]
  have s2 : W2.heap.size = V.heap.size + 4 := by rw [hW2, ext_size, f1]
  have s3 : W3.heap.size = V.heap.size + 5 := by rw [e3, ext_size]; simp [f1]
  obtain ⟨T, hT⟩ : ∃ T, T = V.heap.size + ic := ⟨_, rfl⟩
  obtain ⟨Rc, hRc⟩ : ∃ T, T = V.heap.size + id := ⟨_, rfl⟩
  obtain ⟨W0, hW0⟩ : ∃ w : World, w = { W3 with heap := (W3.heap.setIfInBounds T unkC).setIfInBounds cb unkC } := ⟨_, rfl⟩
  have hcbl : cb < W.heap.size := lt_of_known hcb
  have ltc : ic < 4 := by have := (List.getElem?_eq_some_iff.1 f4).1; omega
  have lta : ia < 4 := by have := (List.getElem?_eq_some_iff.1 f2).1; omega
  have ltb : ib < 4 := by have := (List.getElem?_eq_some_iff.1 f3).1; omega
  have ltd : id < 4 := by have := (List.getElem?_eq_some_iff.1 f5).1; omega
  have nac : ia ≠ ic := by rintro rfl; rw [f2] at f4; simp [hidC] at f4
  have nbc : ib ≠ ic := by rintro rfl; rw [f3] at f4; simp [hidC] at f4
  have s0 : W0.heap.size = W3.heap.size := by rw [hW0]; simp
  have get : ∀ b, b ≠ T → b ≠ cb → W0.heap[b]? = W3.heap[b]? := fun b hb hb2 => by rw [hW0]; simp only; rw [Array.getElem?_setIfInBounds_ne (Ne.symm hb2), Array.getElem?_setIfInBounds_ne (Ne.symm hb)]
  have getT : W0.heap[T]? = some unkC := by rw [hW0]; simp only; rw [Array.getElem?_setIfInBounds_ne (by omega)]; exact Array.getElem?_setIfInBounds_self_of_lt (by omega)
  have getC : W0.heap[cb]? = some unkC := by rw [hW0]; exact Array.getElem?_setIfInBounds_self_of_lt (by simp; omega)
  have g3 : ∀ j, j < 4 → W3.heap[V.heap.size + j]? = fs[j]? := fun j hj => by
    rw [e3, ext_at, List.getElem?_append_left (by omega)]
  have g3V : ∀ b, b < V.heap.size → W3.heap[b]? = V.heap[b]? := fun b hb => by rw [e3]; exact ext_old hb
  have gV : ∀ b, b < W.heap.size → V.heap[b]? = W.heap[b]? := fun b hb => by rw [eV]; exact ext_old hb
  have gV0 : V.heap[W.heap.size]? = some (.cells #[.slice jq l cj] 22) := by
    have := ext_at (W := W) (fs := [.cells #[.slice jq l cj] 22, .cells #[fdo] 34]) 0
    rw [← eV] at this; exact this
  have gV1 : V.heap[dvb]? = some (.cells #[fdo] 34) := by
    have := ext_at (W := W) (fs := [.cells #[.slice jq l cj] 22, .cells #[fdo] 34]) 1
    rw [← eV] at this; rw [edv]; exact this
  have g3w : W3.heap[W2.heap.size]? = some (.cells #[] 58) := by rw [hW3, heap_push]; simp
  have kept0 : ∀ (b : Nat) (o : Obj), W.heap[b]? = some o → o ≠ unkC → b ≠ cb → W0.heap[b]? = some o := fun b o ho _ hbc => by
    have hlt := lt_of_known ho
    rw [get b (by omega) hbc, g3V b (by omega), gV b hlt]; exact ho
  let x : Sh12 := ⟨T, Rc, adr W2.heap.size, adr (V.heap.size + ia), adr dvb, adr W.heap.size, adr (V.heap.size + ib), W0, l, jq, cj, job, r, er, fdo, 0⟩
  have c3 : ∀ (b : Nat) (v : Value) (ty : Nat), b ≠ T → b ≠ cb → W3.heap[b]? = some (.cells #[v] ty) → W0.cell? (adr b) = some v := fun b v ty hb hb2 h => by
    rw [show (adr b) = ⟨b, 0, none⟩ from rfl, cell_of (by rw [get b hb hb2]; exact h)]; rfl
  have ok : x.Ok := by
    refine ⟨⟨_, rfl⟩, ?_, ?_, ?_, ?_, fun i hi => ?_, ?_, ?_, Nat.zero_le _⟩
    · exact c3 _ _ 47 (by omega) (by omega) (by rw [g3 _ lta, f2, ← hT])
    · exact c3 _ _ 34 (by omega) (by omega) (by rw [g3V _ (by omega)]; exact gV1)
    · exact c3 _ _ 22 (by omega) (by omega) (by rw [g3V _ (by omega)]; exact gV0)
    · exact c3 _ _ 48 (by omega) (by omega) (by rw [g3 _ ltb, f3, ← hRc])
    · obtain ⟨q, hq, hc⟩ := hjobs i hi
      exact ⟨q, hq, cell_keep hc fun o ho hne => kept0 _ o ho hne (by rw [add_block]; exact hjb (Nat.lt_of_le_of_lt (Nat.zero_le i) hi) q hq)⟩
    · obtain ⟨f, hf1, hf2, hf3⟩ := hdo
      exact ⟨f, hf1, hf2, fun co hco i hi => absurd hi (Nat.not_lt_zero _)⟩
    · show T ≠ Rc
      omega
  have v0 : ∀ m, View0 (wk12 x Post m true) W3 := fun m => by
    refine ⟨fun b o ho hne => ?_, ?_, ?_, ?_, ?_, ?_, ?_, ⟨(0, 0), g3w⟩, getT⟩
    · have hb : b ≠ T := by rintro rfl; rw [show (wk12 x Post m true).W0.heap[b]? = W0.heap[b]? from rfl, getT] at ho; cases ho; exact hne rfl
      have hb2 : b ≠ cb := by rintro rfl; rw [show (wk12 x Post m true).W0.heap[b]? = W0.heap[b]? from rfl, getC] at ho; cases ho; exact hne rfl
      rw [← get b hb hb2]; exact ho
    · show W0.heap.size ≤ _; omega
    · show W3.tape = W0.tape; rw [hW0]
    · show W3.os = W0.os; rw [hW0]
    · show W3.output = W0.output; rw [hW0]
    · show W3.heap[T]? = _; rw [hT, g3 _ ltc]; exact f4
    · show W3.heap[Rc]? = _; rw [hRc, g3 _ ltd]; exact f5
  -- the group is made
  refine J_seq hCF e12_bb ?_
  refine J_reg hCF e12_bba z12_bba ?_
  obtain ⟨z, hz, hzc⟩ := zero58
  refine fin_alloc (g' := G ((base 12).at (a2.put (some 11) (ptr (adr W2.heap.size))) (.inRegion o12_bba [] :: [.code n12_bbb])) (c0 :: cs)) rfl (fun w hw => ?_) (fun m => wk12 x Post m true) (fun m => ⟨rfl, rfl, rfl, rfl, rfl, by rw [← hW3]; exact v0 m⟩) fun m => ?_
  · rw [stepG_alloc' op12_alloc kind12 hz, hzc, hw]
  rw [← hW3]
  have hs3 := hs2.put (d := 11) (by omega) (ptr (adr W2.heap.size)) (by simp)
  refine jm_B (B := noJob 0) (fun j _ k hk => absurd hk (by omega)) ?_
  have hC0 := cm12_closed (Post := Post) (m := m) ok 0 0 (noJob 0)
  show (cm12 x Post m 0 0 (noJob 0)).J _ _
  refine J_rend hC0 ?_
  refine J_seq hC0 e12_bbb ?_
  refine J_seq hC0 e12_bbba ?_
  have c3' : ∀ (b : Nat) (v : Value) (ty : Nat), W3.heap[b]? = some (.cells #[v] ty) → W3.cell? (adr b) = some v := fun b v ty h => by
    rw [show (adr b) = ⟨b, 0, none⟩ from rfl, cell_of h]; rfl
  have cjv : W3.cell? (adr W.heap.size) = some (.slice jq l cj) := c3' _ _ 22 (by rw [g3V _ (by omega)]; exact gV0)
  refine pC12_J (hands := hands) (jv := x.jv) (dv := x.dv) (tv := x.tv) (rv := x.rv) (wg := x.wg) hC0 kind12 (hs3.sub (by simp [x])) (fun ex vs w => ex = .normal ∧ W3 = w ∧ vs = [ptr x.jv, ptr x.dv, ptr x.tv, ptr x.rv, ptr x.wg, .int .i64 (hands12 hands l), .int .i64 0]) ⟨jq, l, cj, cjv, by rw [hands12_eq]; exact ⟨rfl, rfl, rfl⟩⟩ fun ex a3 W3' vs3 k3 hs4 => ?_
  obtain ⟨rfl, rfl, rfl⟩ := k3
  refine J_blk hC0 e12_bbbab ?_
  refine J_lp hC0 e12_bbbabk ?_
  refine spawn12 ok (v0 m) (n := hands12 hands l) (hands12_le hands l) (fun a4 hs5 => ?_) (hands12 hands l) 0 a3 (by omega) (hs4.sub (by simp [sp12]))
  -- the slice of results
  have hCn := cm12_closed (Post := Post) (m := m) ok (hands12 hands l) (hands12 hands l) (noJob (hands12 hands l))
  refine J_seq hCn e12_bbbb ?_
  obtain ⟨ti, hti⟩ : ∃ i, Try.prog.info? 3 = some i ∧ i.zero = some (.int .i64 0) ∧ i.size = 1 ∧ i.bytes = 8 := by
    have h := info3
    cases hi : Try.prog.info? 3 with
    | none => rw [hi] at h; cases h
    | some i => rw [hi] at h; simp only [Option.map_some, Option.some.injEq, Prod.mk.injEq] at h; exact ⟨i, rfl, h⟩
  have hsl : Try.prog.underlying 22 = some (.slice 3) := by
    have h := sl22
    split at h
    · rename_i e he; cases h; exact he
    · cases h
  obtain ⟨zs, hzs⟩ : ∃ zs : Array Value, zs = (Array.range (l * ti.size)).map ((Value.int .i64 0).cells[· % (Value.int .i64 0).cells.size]!) := ⟨_, rfl⟩
  have szs : zs.size = l := by rw [hzs]; simp [hti.2.2.1]
  obtain ⟨W4, hW4⟩ : ∃ w, w = W3.alloc (.cells zs 3) := ⟨_, rfl⟩
  have g4 : ∀ b, b < W3.heap.size → W4.heap[b]? = W3.heap[b]? := fun b hb => by
    rw [hW4, heap_push, Array.getElem?_push_lt hb]; simp [hb]
  have k4 : ∀ {ad : Addr} {v : Value}, W3.cell? ad = some v → W4.cell? ad = some v := fun {ad v} hc => cell_keep hc fun o ho _ => by rw [g4 _ (lt_of_known ho)]; exact ho
  refine pF12_J (jv := x.jv) (tv := x.tv) (rv := x.rv) (wg := x.wg) hCn kind12 (hs5.sub (by simp [sp12])) (fun ex vs w => ex = .normal ∧ W4 = w ∧ vs = [ptr x.tv, ptr x.rv, ptr x.wg, .slice (some (adr W3.heap.size)) l l, .int .i64 l, .int .i64 0]) ⟨jq, l, cj, cjv, jq, l, cj, cjv, .i64, l, 3, ti, .int .i64 0, rfl, rfl, hsl, hti.1, hti.2.1, by rw [hti.2.2.2]; omega, by omega, by rw [hti.2.2.1]; simp, rfl, by decide, by
      rw [← hzs, ← hW4]
      exact ⟨⟨jq, l, cj, k4 cjv, rfl⟩, rfl, rfl, rfl⟩⟩ fun ex a5 W5 vs5 k5 hs6 => ?_
  obtain ⟨rfl, rfl, rfl⟩ := k5
  refine J_seq hCn e12_bbbbb ?_
  refine J_seq hCn e12_bbbbba ?_
  refine pG12_J (tv := x.tv) (rv := x.rv) (wg := x.wg) (out := some (adr W3.heap.size)) (l_out := l) (c_out := l) (en := l) (code := 0) hCn kind12 hs6 (fun ex vs w => ex = .normal ∧ W4 = w ∧ vs = [ptr x.tv, ptr x.rv, ptr x.wg, .slice (some (adr W3.heap.size)) l l, .int .i64 l, .int .i64 0, .int .i64 0, .int .i64 0]) ⟨rfl, rfl, rfl⟩ fun ex a6 W6 vs6 k6 hs7 => ?_
  obtain ⟨rfl, rfl, rfl⟩ := k6
  refine J_blk hCn e12_bbbbbab ?_
  refine J_lp hCn e12_bbbbbabk ?_
  have hI : Inv12 x W3.heap.size (fun _ => False) x.N 0 W4 := by
    refine ⟨k4 (c3' _ _ 47 (by rw [g3 _ lta, f2, ← hT])), k4 (c3' _ _ 48 (by rw [g3 _ ltb, f3, ← hRc])), ⟨zs, by rw [hW4, heap_push]; simp, szs, fun i _ h => h.elim⟩, .inl ⟨rfl, rfl⟩, fun i h => h.elim⟩
  -- the hands: one, or none
  obtain ⟨n, hn⟩ : ∃ n, n = hands12 hands l := ⟨_, rfl⟩
  have hn1 : n ≤ 1 := by rw [hn]; unfold hands12 mnI mxI; split <;> split <;> split <;> omega
  have hnp : 0 < l → n = 1 := fun h => by have := hands12_pos hands h; omega
  rw [← hn]
  rw [← hn] at hCn
  have s4 : W4.heap.size = W3.heap.size + 1 := by rw [hW4, heap_push]; simp
  have hCame : Came cb (W3.heap.size + 1) job 0 W4 := by
    refine ⟨none, 0, ?_, .inl ⟨rfl, rfl, rfl⟩⟩
    rw [g4 _ (by omega), g3V _ (by omega), gV _ hcbl]; exact hcb
  refine loop1 (x := x) (O := W3.heap.size) (cb := cb) (n := n) ok rfl (by show l < 2 ^ 40; omega) hn1 hnp (by show W0.heap.size ≤ _; omega) (by show V.heap.size + ia < W0.heap.size; omega) (by show V.heap.size + ib < W0.heap.size; omega) (by show V.heap.size + ia ≠ cb; omega) (by show V.heap.size + ib ≠ cb; omega) (by omega) (by rw [s4]; omega) getC ?_ hI hCame hK (fun MV' e c a hI' hCm hea hle haN hv => ?_) (hs7.sub (by simp [mt12, x]))
  · intro MV a ha hc hv hB co hco hro
    obtain ⟨f, hf1, hf2, hf3⟩ := hdo
    exact ⟨f, hf1, hf2, hf3 _ MV a ha hc (fun b o ho hne hbc => hv.blk b o (kept0 b o ho hne hbc) hne) (by omega) hB co hco hro⟩
  have shz : (shutV (wk12 x Post m true) MV').heap.size = MV'.heap.size := by simp [shutV]
  have h2 : W0.heap.size ≤ MV'.heap.size := hv.le
  have hKept : KeptBut cb W (shutV (wk12 x Post m true) MV') := by
    refine ⟨fun b o ho hne hbc => ?_, ?_, ?_, ?_, ?_⟩
    · have hlt := lt_of_known ho
      rw [shut_get (show b ≠ T by omega)]
      exact hv.blk b o (kept0 b o ho hne hbc) hne
    · omega
    · show MV'.tape = W.tape; rw [hv.tape]; show W0.tape = _; rw [hW0]; show W3.tape = _; rw [e3]; show V.tape = _; rw [hV]; rfl
    · show MV'.os = W.os; rw [hv.os]; show W0.os = _; rw [hW0]; show W3.os = _; rw [e3]; show V.os = _; rw [hV]; rfl
    · show MV'.output = W.output; rw [hv.output]; show W0.output = _; rw [hW0]; show W3.output = _; rw [e3]; show V.output = _; rw [hV]; rfl
  have hCm' : Came cb (W3.heap.size + 1) job a (shutV (wk12 x Post m true) MV') := hCm.keep (fun b hb => shut_get (by show b ≠ T; rcases hb with h | h <;> omega))
  have haN' : a ≤ l := haN
  refine ⟨fun hc => hR _ _ a _ hKept hCm' (.inl ?_), fun hc => hR _ _ a _ hKept hCm' (.inr ?_)⟩
  · rcases hI'.code with ⟨_, he⟩ | ⟨hn, _⟩
    · have he' : e = l := he
      exact ⟨by omega, ⟨_, _, _, rfl⟩⟩
    · exact absurd hc hn
  · rcases hI'.code with ⟨h0, _⟩ | ⟨_, he, hec⟩
    · exact absurd h0 hc
    · have hec' : er e = c := hec
      exact ⟨e, he, hea hc, haN', by rw [hec']; exact hc, _, _, _, by rw [hec']⟩
end Go.Proofs.Ytmkgnbcpcfojfaa
