/- Function 12: what it makes. -/
import Derived.Test.YtmkgnbcpcfojfaaCwV12
import Derived.Test.YtmkgnbcpcfojfaaCwS
set_option linter.unusedVariables false
set_option linter.unusedSimpArgs false
set_option maxRecDepth 10000
namespace Go.Proofs.Ytmkgnbcpcfojfaa
open Go Go.Cv Go.Conc Go.ConcN
open Go.ConcR (KK)

/-- The channels and the variables that hold them, in any order. -/
def Made12 (V : World) (hands : Int) (jv dv : Addr) : Exit → List Value → World → Prop := fun e vs w =>
  e = .normal ∧ ∃ (a b c d : Nat) (fs : List Obj), vs = [.int .i64 hands, ptr jv, ptr dv, ptr (adr (V.heap.size + a)), ptr (adr (V.heap.size + b))] ∧ w = extW V fs ∧
    fs.length = 4 ∧ fs[a]? = some (.cells #[.chan (some (V.heap.size + c))] 47) ∧ fs[b]? = some (.cells #[.chan (some (V.heap.size + d))] 48) ∧ fs[c]? = some hidC ∧ fs[d]? = some hidC ∧ c ≠ d
set_option maxHeartbeats 2000000 in
theorem made12 (V : World) (hands : Int) (jv dv : Addr) (co : Co) (hro : co.ro = fun _ => False) : pB12 co hands jv dv (Made12 V hands jv dv) V := by
  have key : pB12 co hands jv dv (Made12 V hands jv dv) (extW V []) := by
    unfold pB12
    simp only [ext_alloc, ext_size, ext_set, hro]
    repeat' (with_reducible apply And.intro)
    all_goals first
      | exact ext_wr rfl id
      | (refine ⟨rfl, _, _, ?_, ?_, _, rfl, rfl, rfl, ?_, ?_, ?_, ?_, ?_⟩
         rotate_left 2
         exact rfl
         exact rfl
         exact rfl
         exact rfl
         exact Nat.ne_of_beq_eq_false rfl)
  rw [ext_nil] at key; exact key

/-! ### The workers are started -/
theorem op12_add : opIs o12_bbbabklbbaka 0 = some (.call { callee := .value (.func 24), args := #[.tmp 11, .const (.int .i64 1)], argTypes := #[58, 3] }, some 28, none) := by kernel_rfl
theorem op12_mf : opIs o12_bbbabklbbakb 0 = some (.makeFunc (.func 25) #[] #[.tmp 11, .tmp 9, .tmp 5, .tmp 3, .tmp 10], some 29, none) := by kernel_rfl
theorem op12_go : opIs o12_bbbabklbbakb 1 = some (.go { callee := .value (.tmp 29), args := #[], argTypes := #[] }, none, none) := by kernel_rfl
theorem e12_bbbabklbat : n12_bbbabklbat = .skip := by kernel_rfl
theorem e12_bbbabklbae : n12_bbbabklbae = .exit 0 := by kernel_rfl
theorem nm24 : (Try.f24.name == "runtime.NumGoroutine") = false := by kernel_rfl
theorem bd24 : Try.f24.body = some (bodyOf Try.f24) := by kernel_rfl
theorem kind12 : (base 12).kind ≠ .early := by simp [base]

def noJob (n : Nat) : (Nat → Option Nat) → Prop := fun job => ∀ k, k < n → job k = none
noncomputable def cm12 (x : Sh12) (Post : Value → World → Prop) (m n v : Nat) (B : (Nat → Option Nat) → Prop) : Co := ⟨true, roC (wk12 x Post m true) n, JM (wk12 x Post m true) n 0 (XW (wk12 x Post m true) v) B⟩
def sp12 (x : Sh12) (n v : Nat) : List (Nat × Value) := [(3, ptr x.jv), (5, ptr x.dv), (9, ptr x.tv), (10, ptr x.rv), (11, ptr x.wg), (25, .int .i64 n), (26, .int .i64 v)]

section
variable {x : Sh12} {Post : Value → World → Prop} {m : Nat} {MV : World} {cs : List Frame}
theorem cm12_closed (ok : x.Ok) (n v : Nat) (B : (Nat → Option Nat) → Prop) : Closed Try.prog 58 false (cm12 x Post m n v B) := jm_closed (wok12 ok Post m true)
theorem wrap_small {i : Nat} (h : i < 2 ^ 40) : IntKind.i64.wrap (i : Int) = i := by rw [IntKind.wrap_i64]; omega

theorem spawn12 (ok : x.Ok) (v0 : View0 (wk12 x Post m true) MV) {n : Nat} (hn : n ≤ 64) (hend : ∀ a', Slots 87 [] a' (sp12 x n n) → (cm12 x Post m n n (noJob n)).J (G ((base 12).at a' [.code n12_bbbb]) cs) MV) :
    ∀ k v a, k + v = n → Slots 87 [] a (sp12 x n v) → (cm12 x Post m v v (noJob v)).J (G ((base 12).at a (.code n12_bbbabkl :: .inLoop n12_bbbabkl :: .inBlock 0 :: [.code n12_bbbb])) cs) MV := by
  intro k
  induction k with
  | zero =>
    intro v a hv ha
    obtain rfl : v = n := by omega
    have hC := cm12_closed (Post := Post) (m := m) ok v v (noJob v)
    refine J_seq hC e12_bbbabkl ?_
    refine pD12_J (co := cm12 x Post m v v (noJob v)) (jv := x.jv) (dv := x.dv) (tv := x.tv) (rv := x.rv) (wg := x.wg) (hn := v) (hj := v) hC kind12 ha (fun e vs w => e = .normal ∧ MV = w ∧ vs = [ptr x.jv, ptr x.dv, ptr x.tv, ptr x.rv, ptr x.wg, .int .i64 v, .int .i64 v, .bool false]) ⟨rfl, rfl, by simp⟩ fun e a1 W1 vs1 k1 h1 => ?_
    obtain ⟨rfl, rfl, rfl⟩ := k1
    refine J_seq hC e12_bbbabklb ?_
    refine J_cnd hC false e12_bbbabklba (h1.ev (t := 27) (by simp)) ?_
    refine J_ext hC e12_bbbabklbae rfl ?_
    exact hend a1 (h1.sub (by simp [sp12]))
  | succ k ih =>
    intro v a hv ha
    have hC := cm12_closed (Post := Post) (m := m) ok v v (noJob v)
    have hlt : (v : Int) < (n : Int) := by omega
    have hv64 : v < 64 := by omega
    refine J_seq hC e12_bbbabkl ?_
    refine pD12_J (co := cm12 x Post m v v (noJob v)) (jv := x.jv) (dv := x.dv) (tv := x.tv) (rv := x.rv) (wg := x.wg) (hn := n) (hj := v) hC kind12 ha (fun e vs w => e = .normal ∧ MV = w ∧ vs = [ptr x.jv, ptr x.dv, ptr x.tv, ptr x.rv, ptr x.wg, .int .i64 n, .int .i64 v, .bool true]) ⟨rfl, rfl, by simp [hlt]⟩ fun e a1 W1 vs1 k1 h1 => ?_
    obtain ⟨rfl, rfl, rfl⟩ := k1
    refine J_seq hC e12_bbbabklb ?_
    refine J_cnd hC true e12_bbbabklba (h1.ev (t := 27) (by simp)) ?_
    refine J_skp hC e12_bbbabklbat ?_
    refine J_seq hC e12_bbbabklbb ?_
    refine J_blk hC e12_bbbabklbba ?_
    refine J_seq hC e12_bbbabklbbak ?_
    refine J_reg hC e12_bbbabklbbaka z12_bbbabklbbaka ?_
    refine Jmv hC rfl (fun w => stepG_call op12_add kind12 Try.func24 nm24 bd24) ?_
    have ew : x.wg = adr x.wg.block := by obtain ⟨n, hn⟩ := ok.wg; rw [hn]
    have eargs : (#[Operand.tmp 11, Operand.const (.int .i64 1)].map a1.eval) = #[.pointer (some ⟨x.wg.block, 0, none⟩), .int .i64 1] := by
      have := h1.ev (t := 11) (v := ptr x.wg) (by simp)
      have e2 : a1.eval (.const (.int .i64 1)) = .int .i64 1 := rfl
      simp only [List.map_toArray, List.map_cons, List.map_nil, this, e2]
      rw [ew]
    rw [eargs]
    refine jm_add1 (wok12 ok Post m true) wgLib rfl v0.wgb (by omega) ?_
    have hC1 := cm12_closed (Post := Post) (m := m) ok v (v + 1) (noJob v)
    show (cm12 x Post m v (v + 1) (noJob v)).J _ _
    rw [dst_of op12_add]
    have h2 := h1.put (d := 28) (by omega) (.tuple #[]) (by simp)
    refine J_rend hC1 ?_
    refine J_reg hC1 e12_bbbabklbbakb z12_bbbabklbbakb ?_
    refine Jmv hC1 rfl (fun w => stepG_makeFunc op12_mf kind12) ?_
    have ecap : (#[Operand.tmp 11, .tmp 9, .tmp 5, .tmp 3, .tmp 10].map (a1.put (some 28) (.tuple #[])).eval) = #[ptr x.wg, ptr x.tv, ptr x.dv, ptr x.jv, ptr x.rv] := by
      have g1 := h2.ev (t := 11) (v := ptr x.wg) (by simp)
      have g2 := h2.ev (t := 9) (v := ptr x.tv) (by simp)
      have g3 := h2.ev (t := 5) (v := ptr x.dv) (by simp)
      have g4 := h2.ev (t := 3) (v := ptr x.jv) (by simp)
      have g5 := h2.ev (t := 10) (v := ptr x.rv) (by simp)
      simp only [List.map_toArray, List.map_cons, List.map_nil, g1, g2, g3, g4, g5]
    rw [ecap]
    have h3 := h2.put (d := 29) (by omega) (.func (.func 25) #[] #[ptr x.wg, ptr x.tv, ptr x.dv, ptr x.jv, ptr x.rv]) (by simp)
    obtain ⟨r, hr⟩ := birth ok
    refine jm_go (wok12 ok Post m true) rfl v0 (r := r) rfl (fun w => stepG_go op12_go kind12 (h3.ev (t := 29) (by simp))) hr ?_
    have hC2 := cm12_closed (Post := Post) (m := m) ok (v + 1) (v + 1) (noJob (v + 1))
    show (cm12 x Post m (v + 1) (v + 1) (noJob (v + 1))).J _ _
    refine J_rend hC2 ?_
    refine J_inB hC2 ?_
    refine pE12_J (co := cm12 x Post m (v + 1) (v + 1) (noJob (v + 1))) (jv := x.jv) (dv := x.dv) (tv := x.tv) (rv := x.rv) (wg := x.wg) (hn := n) (hj := v) hC2 kind12 (h3.sub (by simp)) (fun e vs w => e = .normal ∧ MV = w ∧ vs = [ptr x.jv, ptr x.dv, ptr x.tv, ptr x.rv, ptr x.wg, .int .i64 n, .int .i64 ((v + 1 : Nat) : Int)]) ⟨rfl, rfl, by
      have := wrap_small (i := v + 1) (by omega)
      simp only [Int.natCast_add, Int.natCast_one] at this ⊢
      rw [this]⟩ fun e a2 W2 vs2 k2 h4 => ?_
    obtain ⟨rfl, rfl, rfl⟩ := k2
    refine J_inL hC2 ?_
    exact ih (v + 1) a2 (by omega) (h4.sub (by simp [sp12]))
end
end Go.Proofs.Ytmkgnbcpcfojfaa
