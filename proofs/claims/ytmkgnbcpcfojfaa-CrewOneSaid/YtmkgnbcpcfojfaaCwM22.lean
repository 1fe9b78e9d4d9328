/- Function 22: what it makes. -/
import Derived.Test.YtmkgnbcpcfojfaaCwV22
import Derived.Test.YtmkgnbcpcfojfaaCwM12
set_option linter.unusedVariables false
set_option linter.unusedSimpArgs false
set_option maxRecDepth 10000
namespace Go.Proofs.Ytmkgnbcpcfojfaa
open Go Go.Cv Go.Conc Go.ConcN
open Go.ConcR (KK)

/-- The channels and the variables that hold them, in any order. -/
def Made22 (V : World) (hands : Int) (jv dv : Addr) : Exit → List Value → World → Prop := fun e vs w =>
  e = .normal ∧ ∃ (a b c d : Nat) (fs : List Obj), vs = [.int .i64 hands, ptr jv, ptr dv, ptr (adr (V.heap.size + a)), ptr (adr (V.heap.size + b))] ∧ w = extW V fs ∧
    fs.length = 4 ∧ fs[a]? = some (.cells #[.chan (some (V.heap.size + c))] 47) ∧ fs[b]? = some (.cells #[.chan (some (V.heap.size + d))] 63) ∧ fs[c]? = some hidC ∧ fs[d]? = some hidC ∧ c ≠ d
set_option maxHeartbeats 2000000 in
theorem made22 (V : World) (hands : Int) (jv dv : Addr) (co : Co) (hro : co.ro = fun _ => False) : pB22 co hands jv dv (Made22 V hands jv dv) V := by
  have key : pB22 co hands jv dv (Made22 V hands jv dv) (extW V []) := by
    unfold pB22
    simp only [ext_alloc, ext_size, ext_set, hro]
    repeat' (with_reducible apply And.intro)
    all_goals first
      | exact ext_wr rfl id
      | (refine ⟨rfl, _, _, ?_, ?_, _, rfl, rfl, rfl, ?_, ?_, ?_, ?_, ?_⟩
         rotate_left 2
         exact rfl
         exact rfl
         exact rfl
         exact rfl
         exact Nat.ne_of_beq_eq_false rfl)
  rw [ext_nil] at key; exact key

/-! ### The workers are started -/
theorem op22_add : opIs o22_bbbabklbbaka 0 = some (.call { callee := .value (.func 24), args := #[.tmp 11, .const (.int .i64 1)], argTypes := #[58, 3] }, some 28, none) := by kernel_rfl
theorem op22_mf : opIs o22_bbbabklbbakb 0 = some (.makeFunc (.func 29) #[] #[.tmp 11, .tmp 9, .tmp 5, .tmp 3, .tmp 10], some 29, none) := by kernel_rfl
theorem op22_go : opIs o22_bbbabklbbakb 1 = some (.go { callee := .value (.tmp 29), args := #[], argTypes := #[] }, none, none) := by kernel_rfl
theorem e22_bbbabklbat : n22_bbbabklbat = .skip := by kernel_rfl
theorem e22_bbbabklbae : n22_bbbabklbae = .exit 0 := by kernel_rfl
theorem kind22 : (base 22).kind ≠ .early := by simp [base]

noncomputable def cm22 (x : Sh22) (Post : Value → World → Prop) (m n v : Nat) (B : (Nat → Option Nat) → Prop) : Co := ⟨true, roC (wk22 x Post m true) n, JM (wk22 x Post m true) n 0 (XW (wk22 x Post m true) v) B⟩
def sp22 (x : Sh22) (n v : Nat) : List (Nat × Value) := [(3, ptr x.jv), (5, ptr x.dv), (9, ptr x.tv), (10, ptr x.rv), (11, ptr x.wg), (25, .int .i64 n), (26, .int .i64 v)]

section
variable {x : Sh22} {Post : Value → World → Prop} {m : Nat} {MV : World} {cs : List Frame}
theorem cm22_closed (ok : x.Ok) (n v : Nat) (B : (Nat → Option Nat) → Prop) : Closed Try.prog 58 false (cm22 x Post m n v B) := jm_closed (wok22 ok Post m true)

theorem spawn22 (ok : x.Ok) (v0 : View0 (wk22 x Post m true) MV) {n : Nat} (hn : n ≤ 64) (hend : ∀ a', Slots 87 [] a' (sp22 x n n) → (cm22 x Post m n n (noJob n)).J (G ((base 22).at a' [.code n22_bbbb]) cs) MV) :
    ∀ k v a, k + v = n → Slots 87 [] a (sp22 x n v) → (cm22 x Post m v v (noJob v)).J (G ((base 22).at a (.code n22_bbbabkl :: .inLoop n22_bbbabkl :: .inBlock 0 :: [.code n22_bbbb])) cs) MV := by
  intro k
  induction k with
  | zero =>
    intro v a hv ha
    obtain rfl : v = n := by omega
    have hC := cm22_closed (Post := Post) (m := m) ok v v (noJob v)
    refine J_seq hC e22_bbbabkl ?_
    refine pD22_J (co := cm22 x Post m v v (noJob v)) (jv := x.jv) (dv := x.dv) (tv := x.tv) (rv := x.rv) (wg := x.wg) (hn := v) (hj := v) hC kind22 ha (fun e vs w => e = .normal ∧ MV = w ∧ vs = [ptr x.jv, ptr x.dv, ptr x.tv, ptr x.rv, ptr x.wg, .int .i64 v, .int .i64 v, .bool false]) ⟨rfl, rfl, by simp⟩ fun e a1 W1 vs1 k1 h1 => ?_
    obtain ⟨rfl, rfl, rfl⟩ := k1
    refine J_seq hC e22_bbbabklb ?_
    refine J_cnd hC false e22_bbbabklba (h1.ev (t := 27) (by simp)) ?_
    refine J_ext hC e22_bbbabklbae rfl ?_
    exact hend a1 (h1.sub (by simp [sp22]))
  | succ k ih =>
    intro v a hv ha
    have hC := cm22_closed (Post := Post) (m := m) ok v v (noJob v)
    have hlt : (v : Int) < (n : Int) := by omega
    have hv64 : v < 64 := by omega
    refine J_seq hC e22_bbbabkl ?_
    refine pD22_J (co := cm22 x Post m v v (noJob v)) (jv := x.jv) (dv := x.dv) (tv := x.tv) (rv := x.rv) (wg := x.wg) (hn := n) (hj := v) hC kind22 ha (fun e vs w => e = .normal ∧ MV = w ∧ vs = [ptr x.jv, ptr x.dv, ptr x.tv, ptr x.rv, ptr x.wg, .int .i64 n, .int .i64 v, .bool true]) ⟨rfl, rfl, by simp [hlt]⟩ fun e a1 W1 vs1 k1 h1 => ?_
    obtain ⟨rfl, rfl, rfl⟩ := k1
    refine J_seq hC e22_bbbabklb ?_
    refine J_cnd hC true e22_bbbabklba (h1.ev (t := 27) (by simp)) ?_
    refine J_skp hC e22_bbbabklbat ?_
    refine J_seq hC e22_bbbabklbb ?_
    refine J_blk hC e22_bbbabklbba ?_
    refine J_seq hC e22_bbbabklbbak ?_
    refine J_reg hC e22_bbbabklbbaka z22_bbbabklbbaka ?_
    refine Jmv hC rfl (fun w => stepG_call op22_add kind22 Try.func24 nm24 bd24) ?_
    have ew : x.wg = adr x.wg.block := by obtain ⟨n, hn⟩ := ok.wg; rw [hn]
    have eargs : (#[Operand.tmp 11, Operand.const (.int .i64 1)].map a1.eval) = #[.pointer (some ⟨x.wg.block, 0, none⟩), .int .i64 1] := by
      have := h1.ev (t := 11) (v := ptr x.wg) (by simp)
      have e2 : a1.eval (.const (.int .i64 1)) = .int .i64 1 := rfl
      simp only [List.map_toArray, List.map_cons, List.map_nil, this, e2]
      rw [ew]
    rw [eargs]
    refine jm_add1 (wok22 ok Post m true) wgLib rfl v0.wgb (by omega) ?_
    have hC1 := cm22_closed (Post := Post) (m := m) ok v (v + 1) (noJob v)
    show (cm22 x Post m v (v + 1) (noJob v)).J _ _
    rw [dst_of op22_add]
    have h2 := h1.put (d := 28) (by omega) (.tuple #[]) (by simp)
    refine J_rend hC1 ?_
    refine J_reg hC1 e22_bbbabklbbakb z22_bbbabklbbakb ?_
    refine Jmv hC1 rfl (fun w => stepG_makeFunc op22_mf kind22) ?_
    have ecap : (#[Operand.tmp 11, .tmp 9, .tmp 5, .tmp 3, .tmp 10].map (a1.put (some 28) (.tuple #[])).eval) = #[ptr x.wg, ptr x.tv, ptr x.dv, ptr x.jv, ptr x.rv] := by
      have g1 := h2.ev (t := 11) (v := ptr x.wg) (by simp)
      have g2 := h2.ev (t := 9) (v := ptr x.tv) (by simp)
      have g3 := h2.ev (t := 5) (v := ptr x.dv) (by simp)
      have g4 := h2.ev (t := 3) (v := ptr x.jv) (by simp)
      have g5 := h2.ev (t := 10) (v := ptr x.rv) (by simp)
      simp only [List.map_toArray, List.map_cons, List.map_nil, g1, g2, g3, g4, g5]
    rw [ecap]
    have h3 := h2.put (d := 29) (by omega) (.func (.func 29) #[] #[ptr x.wg, ptr x.tv, ptr x.dv, ptr x.jv, ptr x.rv]) (by simp)
    obtain ⟨r, hr⟩ := birth22 ok
    refine jm_go (wok22 ok Post m true) rfl v0 (r := r) rfl (fun w => stepG_go op22_go kind22 (h3.ev (t := 29) (by simp))) hr ?_
    have hC2 := cm22_closed (Post := Post) (m := m) ok (v + 1) (v + 1) (noJob (v + 1))
    show (cm22 x Post m (v + 1) (v + 1) (noJob (v + 1))).J _ _
    refine J_rend hC2 ?_
    refine J_inB hC2 ?_
    refine pE22_J (co := cm22 x Post m (v + 1) (v + 1) (noJob (v + 1))) (jv := x.jv) (dv := x.dv) (tv := x.tv) (rv := x.rv) (wg := x.wg) (hn := n) (hj := v) hC2 kind22 (h3.sub (by simp)) (fun e vs w => e = .normal ∧ MV = w ∧ vs = [ptr x.jv, ptr x.dv, ptr x.tv, ptr x.rv, ptr x.wg, .int .i64 n, .int .i64 ((v + 1 : Nat) : Int)]) ⟨rfl, rfl, by
      have := wrap_small (i := v + 1) (by omega)
      simp only [Int.natCast_add, Int.natCast_one] at this ⊢
      rw [this]⟩ fun e a2 W2 vs2 k2 h4 => ?_
    obtain ⟨rfl, rfl, rfl⟩ := k2
    refine J_inL hC2 ?_
    exact ih (v + 1) a2 (by omega) (h4.sub (by simp [sp22]))
end
end Go.Proofs.Ytmkgnbcpcfojfaa
