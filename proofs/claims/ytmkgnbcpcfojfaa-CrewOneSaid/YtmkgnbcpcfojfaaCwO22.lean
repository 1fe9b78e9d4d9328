/- Function 22: its end. -/
import Derived.Test.YtmkgnbcpcfojfaaCwN22
import Derived.Test.YtmkgnbcpcfojfaaCwO12
set_option linter.unusedVariables false
set_option linter.unusedSimpArgs false
set_option maxRecDepth 10000
namespace Go.Proofs.Ytmkgnbcpcfojfaa
open Go Go.Cv Go.Conc Go.ConcN
open Go.ConcR (KK)

theorem op22_close : opIs o22_bbbbbba 1 = some (.call { callee := .builtin .close, args := #[.tmp 80], argTypes := #[47] }, none, none) := by kernel_rfl
theorem op22_wait : opIs o22_bbbbbbba 0 = some (.call { callee := .value (.func 27), args := #[.tmp 11], argTypes := #[58] }, some 81, none) := by kernel_rfl
theorem nr22 : (Try.prog.funcs[(base 22).fn]?).any (·.norace) = false := by kernel_rfl
theorem e22_bbbbbbbbabe : n22_bbbbbbbbabe = .skip := by kernel_rfl
theorem rs22 : Try.f22.results.toList = [.tmp 6, .tmp 7, .tmp 8] := by kernel_rfl

/-- What it answers. -/
def Ans22 (W : World) (N : Nat) (r : Nat → ByteArray) (er : Nat → Int) (v : Value) (W' : World) : Prop :=
  ((∀ i, i < N → er i = 0) ∧ ∃ O : Nat, W.heap.size ≤ O ∧ v = .tuple #[.slice (some (adr O)) N N, .int .i64 0, .int .i64 0] ∧ ∃ cells : Array Value, W'.heap[O]? = some (.cells cells 9 (0, 0)) ∧ cells.size = N ∧ ∀ i, i < N → cells[i]? = some (.string (r i))) ∨
  ∃ i, i < N ∧ er i ≠ 0 ∧ (∀ j, j < i → er j = 0) ∧ v = .tuple #[.slice none 0 0, .int .i64 i, .int .i64 (er i)]

section
variable {x : Sh22} {O : Nat} {cs : List Frame} {MV : World} {e : Nat} {c : Int} {Post : Value → World → Prop} {m n : Nat}

/-- The return. -/
theorem leave22 {co : Co} (hC : Closed Try.prog 58 false co) {R : Value → World → Prop} {c0 : Frame} (hK : ∀ v W', R v W' → co.J (G (c0.finish v) cs) W') {a : Act} {v1 v2 v3 : Value} (hs : Slots 87 [] a [(6, v1), (7, v2), (8, v3)]) (hR : R (.tuple #[v1, v2, v3]) MV) (todo : List Item) :
    co.J (G { (base 22).at a todo with mode := .returning } (c0 :: cs)) MV := by
  have hres : resAll (X false co) (envL [(6, v1), (7, v2), (8, v3)]) MV Try.f22.results.toList fun vs => R (tupled vs) MV := by
    rw [rs22]
    exact hR
  obtain ⟨v, hr, hv⟩ := results_run (X := X false co) (n := 87) (K := R) hs.agr hres
  exact Jmv hC rfl (fun w => stepG_leave rfl hs.2.1 Try.func22 (hr w).run (sil_list hr)) (hK v MV hv)

/-- Behind Wait. -/
theorem tail22 {co : Co} (hC : Closed Try.prog 58 false co) {R : Value → World → Prop} {c0 : Frame} (hK : ∀ v W', R v W' → co.J (G (c0.finish v) cs) W') {a : Act}
    (hs : Slots 87 [] a [(12, .slice (some (adr O)) x.N x.N), (13, .int .i64 e), (14, .int .i64 c)]) (h0 : c = 0 → R (.tuple #[.slice (some (adr O)) x.N x.N, .int .i64 0, .int .i64 0]) MV) (h1 : c ≠ 0 → R (.tuple #[.slice none 0 0, .int .i64 e, .int .i64 c]) MV) :
    co.J (G ((base 22).at a [.code n22_bbbbbbbb]) (c0 :: cs)) MV := by
  refine J_seq hC e22_bbbbbbbb ?_
  refine J_seq hC e22_bbbbbbbba ?_
  refine pM22_J (out := some (adr O)) (l_out := x.N) (c_out := x.N) (en := e) (code := c) hC kind22 hs (fun ex vs w => ex = .normal ∧ MV = w ∧ vs = [.slice (some (adr O)) x.N x.N, .int .i64 e, .int .i64 c, .bool (c != 0)]) ⟨rfl, rfl, rfl⟩ fun ex a1 W1 vs1 k1 hs1 => ?_
  obtain ⟨rfl, rfl, rfl⟩ := k1
  refine J_cnd hC (c != 0) e22_bbbbbbbbab (hs1.ev (t := 83) (by simp)) ?_
  by_cases hc : c = 0
  · have hq : (c != 0) = false := by simp [hc]
    rw [hq]
    refine J_skp hC e22_bbbbbbbbabe ?_
    refine pO22_J (out := some (adr O)) (l_out := x.N) (c_out := x.N) hC kind22 (hs1.sub (by simp)) (fun ex vs w => ex = .ret ∧ MV = w ∧ vs = [.slice (some (adr O)) x.N x.N, .int .i64 0, .int .i64 0]) ⟨rfl, rfl, rfl⟩ fun ex a2 W2 vs2 k2 hs2 => ?_
    obtain ⟨rfl, rfl, rfl⟩ := k2
    exact fun todo => leave22 hC hK hs2 (h0 hc) todo
  · have hq : (c != 0) = true := by simp [hc]
    rw [hq]
    refine pN22_J (out := some (adr O)) (l_out := x.N) (c_out := x.N) (en := e) (code := c) hC kind22 (hs1.sub (by simp)) (fun ex vs w => ex = .ret ∧ MV = w ∧ vs = [.slice none 0 0, .int .i64 e, .int .i64 c]) ⟨rfl, rfl, rfl⟩ fun ex a2 W2 vs2 k2 hs2 => ?_
    obtain ⟨rfl, rfl, rfl⟩ := k2
    exact fun todo => leave22 hC hK hs2 (h1 hc) todo

/-- From the loop's end on. -/
theorem exit22 (ok : x.Ok) (hnn : n ≤ 64) {R : Value → World → Prop} {c0 : Frame} (hK : ∀ v W', R v W' → (coF Try.prog 58 Post).J (G (c0.finish v) cs) W') {g : Goroutine} (hs : Exit22 x O (c0 :: cs) e c g) (hTv : MV.cell? x.tv = some (.chan (some x.T)))
    (hv : View0 (wk22 x Post m true) MV)
    (h0 : c = 0 → R (.tuple #[.slice (some (adr O)) x.N x.N, .int .i64 0, .int .i64 0]) (shutV (wk22 x Post m true) MV)) (h1 : c ≠ 0 → R (.tuple #[.slice none 0 0, .int .i64 e, .int .i64 c]) (shutV (wk22 x Post m true) MV)) :
    (cm22 x Post m n n (noJob n)).J g MV := by
  obtain ⟨act, rfl, hs⟩ := hs
  have hC := cm22_closed (Post := Post) (m := m) ok n n (noJob n)
  refine J_seq hC e22_bbbbbb ?_
  refine pQ22_J (tv := x.tv) (wg := x.wg) (out := some (adr O)) (l_out := x.N) (c_out := x.N) (en := e) (code := c) hC kind22 (hs.sub (by simp)) (fun ex vs w => MV = w ∧ vs = [ptr x.wg, .slice (some (adr O)) x.N x.N, .int .i64 e, .int .i64 c, .chan (some x.T)]) ⟨_, hTv, rfl, rfl⟩ fun a1 W1 vs1 k1 hs1 => ?_
  obtain ⟨rfl, rfl⟩ := k1
  have H := wok22 ok Post m true
  have H4 := wok422 ok Post m true
  obtain ⟨oc, hoc, hoc2, _⟩ := op_of op22_close
  refine jm_close H rfl hv rfl (by
    unfold mayWake
    simp only [G, Frame.at, hoc, Option.map_some, hoc2]
    first | done | simp [base]) (g' := G ((base 22).at a1 (.inRegion o22_bbbbbba [] :: [.code n22_bbbbbbb])) (c0 :: cs)) rfl (fun w s r hw => stepG_close' op22_close kind22 (hs1.ev (t := 80) (by simp [wk22])) hw nr22) ?_
  have hC4 : Closed Try.prog 58 false ⟨true, roC (wk22 x Post m true) n, fun g MV => JK4 (wk22 x Post m true) n 0 false QT MV fun g' _ => g' = g⟩ := jm4_closed H H4 (by omega) (down_T n)
  refine J_rend hC4 ?_
  refine J_seq hC4 e22_bbbbbbb ?_
  refine J_reg hC4 e22_bbbbbbba z22_bbbbbbba ?_
  refine Jmv hC4 rfl (fun w => stepG_call op22_wait kind22 Try.func27 nm27 bd27) ?_
  have ew : x.wg = adr x.wg.block := by obtain ⟨n, hn⟩ := ok.wg; rw [hn]
  have eargs : (#[Operand.tmp 11].map a1.eval) = #[.pointer (some ⟨x.wg.block, 0, none⟩)] := by
    have := hs1.ev (t := 11) (v := ptr x.wg) (by simp)
    simp only [List.map_toArray, List.map_cons, List.map_nil, this]
    rw [ew]
  rw [eargs]
  have hwT : x.wg.block ≠ x.T := by
    obtain ⟨fr, hf⟩ := hv.wgb
    intro e
    have := hv.chT
    have e' : (wk22 x Post m true).Wg = (wk22 x Post m true).T := e
    rw [e', this] at hf; cases hf
  have hwg : WgV (wk22 x Post m true) (shutV (wk22 x Post m true) MV) := by
    obtain ⟨fr, hf⟩ := hv.wgb
    exact ⟨fr, by rw [shut_get hwT]; exact hf⟩
  refine jk4_wait H H4 (by omega) wgLib rfl hwg (fin_after ?_)
  have hCF := fin_closed Try.prog 58 Post
  show (coF Try.prog 58 Post).J _ _
  rw [dst_of op22_wait]
  refine J_rend hCF ?_
  exact tail22 hCF hK ((hs1.put (d := 81) (by omega) (.tuple #[]) (by simp)).sub (by simp)) h0 h1
end
end Go.Proofs.Ytmkgnbcpcfojfaa
