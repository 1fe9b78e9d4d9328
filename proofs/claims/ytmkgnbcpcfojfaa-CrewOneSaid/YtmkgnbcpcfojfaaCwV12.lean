/- The workers of function 12 (function 25). -/
import Derived.Test.YtmkgnbcpcfojfaaCwQ12
import Derived.Test.YtmkgnbcpcfojfaaCwR
import Derived.Test.YtmkgnbcpcfojfaaCwL
set_option linter.unusedVariables false
set_option linter.unusedSimpArgs false
set_option maxRecDepth 10000
namespace Go.Proofs.Ytmkgnbcpcfojfaa
open Go Go.Cv Go.Conc Go.ConcN
open Go.ConcR (KK)

noncomputable def botF : Frame := { (default : Frame) with fn := Try.prog.funcs.size, defers := [], mode := .panicking [goexitEntry] }
abbrev adr (b : Nat) : Addr := ⟨b, 0, none⟩
abbrev ptr (a : Addr) : Value := .pointer (some a)
def dDone (wg : Addr) : Deferred := dcall 26 #[ptr wg]

theorem op25_recv : opIs o25_bbkla 0 = some (.recv 47 (.tmp 8) true, some 9, none) := by kernel_rfl
theorem op25_send : opIs o25_bbklbbkbb 5 = some (.send (.tmp 21) (.tmp 25), none, none) := by kernel_rfl
theorem op25_defer : opIs o25_a 0 = some (.defer { callee := .value (.func 26), args := #[.tmp 0], argTypes := #[58] }, none, none) := by kernel_rfl
theorem ch47 : chanE Try.prog 47 = some 3 := by kernel_rfl
theorem z3 : zeroE Try.prog 3 = some (.int .i64 0) := by kernel_rfl
theorem e25_bat : n25_bbklbat = .skip := by kernel_rfl
theorem e25_bae : n25_bbklbae = .exit 0 := by kernel_rfl

/-- What a call shares with its workers. -/
structure Sh12 where
  T : Nat
  R : Nat
  wg : Addr
  tv : Addr
  dv : Addr
  jv : Addr
  rv : Addr
  W0 : World
  N : Nat
  jq : Option Addr
  cj : Nat
  job : Nat → Int
  r : Nat → Int
  er : Nat → Int
  fdo : Value
  /-- So many jobs' doing leaves the memory as it is (all, or none). -/
  M : Nat
structure Sh12.Ok (x : Sh12) : Prop where
  wg : ∃ n, x.wg = adr n
  t : x.W0.cell? x.tv = some (.chan (some x.T))
  d : x.W0.cell? x.dv = some x.fdo
  j : x.W0.cell? x.jv = some (.slice x.jq x.N x.cj)
  rr : x.W0.cell? x.rv = some (.chan (some x.R))
  jobs : ∀ i, i < x.N → ∃ q, x.jq = some q ∧ x.W0.cell? (q.add i) = some (.int .i64 (x.job i))
  dO : ∃ f, asFn x.fdo = some f ∧ cl f.1 = true ∧ ∀ co : Co, Closed Try.prog 58 true co → ∀ i, i < x.M → CallsJ Try.prog co f.1 (f.2.1.toList ++ ([.int .i64 (x.job i)] : List Value) ++ f.2.2.toList).toArray x.W0 (fun v w => v = .tuple #[.int .i64 (x.r i), .int .i64 (x.er i)] ∧ w = x.W0)
  ne : x.T ≠ x.R
  le : x.M ≤ x.N

noncomputable def kR25 : List Item := .code n25_bbklb :: .inLoop n25_bbkl :: [.inBlock 0]
noncomputable def kS25 : List Item := .inBlock 1 :: .inLoop n25_bbkl :: [.inBlock 0]
def cap12 (x : Sh12) : List (Nat × Value) := [(0, ptr x.wg), (1, ptr x.tv), (2, ptr x.dv), (3, ptr x.jv), (4, ptr x.rv)]
def res12 (x : Sh12) (i : Nat) : Value := .agg #[.int .i64 i, .int .i64 (x.r i), .int .i64 (x.er i)]
def Recv12 (x : Sh12) (g : Goroutine) : Prop := ∃ a, g = G ((baseD 25).at a (.inRegion o25_bbkla [0, 1] :: kR25)) [botF] ∧ Slots 26 [dDone x.wg] a (cap12 x ++ [(8, .chan (some x.T))])
def Send12 (x : Sh12) (i : Nat) (g : Goroutine) : Prop := i < x.N ∧ ∃ a, g = G ((baseD 25).at a (.inRegion o25_bbklbbkbb [5] :: kS25)) [botF] ∧ Slots 26 [dDone x.wg] a (cap12 x ++ [(8, .chan (some x.T)), (21, .chan (some x.R)), (25, res12 x i)])
noncomputable def wk12 (x : Sh12) (Post : Value → World → Prop) (m : Nat) (on : Bool) : Wk :=
  { P := Try.prog, ty := 58, Post := Post, m := m, T := x.T, R := x.R, Wg := x.wg.block, W0 := x.W0, RecvG := Recv12 x, SendG := Send12 x, zT := .int .i64 0, zS := .tuple #[], res := res12 x, on := on }
/-- The worker's judgement. -/
noncomputable def cw (Stop : Goroutine → Prop) : Co := ⟨false, fun _ => True, TreeJ Try.prog 58 true false (fun _ => True) (fun g _ => Stop g)⟩
theorem cw_closed (Stop : Goroutine → Prop) : Closed Try.prog 58 true (cw Stop) := tree_closed _ _ _ _ _ _

section
variable {x : Sh12} {Stop : Goroutine → Prop} {a : Act} {i : Nat}
theorem kind25 : (baseD 25).kind ≠ .early := by simp [baseD]

/-- From a worker's loop to its receive. -/
theorem to_recv (h : Slots 26 [dDone x.wg] a (cap12 x ++ [(8, .chan (some x.T))])) : (cw (Recv12 x)).J (G ((baseD 25).at a (.code n25_bbkl :: .inLoop n25_bbkl :: [.inBlock 0])) [botF]) x.W0 := by
  have hC := cw_closed (Recv12 x)
  rw [e25_bbkl]
  refine J_move (X := X true _) hC rfl (fun w => stepG_seq) ?_
  rw [e25_bbkla]
  refine J_code_region (X := X true _) hC ?_
  rw [z25_bbkla]
  exact tree_stop ⟨a, by rw [kR25, e25_bbkl, e25_bbkla], h⟩
theorem step_recv {g : Goroutine} (h : Recv12 x g) : g.status = .running ∧ ∀ w, stepG Try.prog false g w = .comm g #[rcase x.T (.int .i64 0)] true (.recv true) w #[] := by
  obtain ⟨a, rfl, hs⟩ := h
  exact ⟨rfl, fun w => stepG_recv op25_recv kind25 ch47 z3 (hs.ev (t := 8) (by simp))⟩
theorem step_send {g : Goroutine} (h : Send12 x i g) : g.status = .running ∧ ∀ w, stepG Try.prog false g w = .comm g #[scase x.R (res12 x i) (.tuple #[])] true .send w #[] := by
  obtain ⟨_, a, rfl, hs⟩ := h
  exact ⟨rfl, fun w => stepG_send op25_send kind25 (hs.ev (t := 21) (by simp)) (hs.ev (t := 25) (by simp))⟩
theorem next_send {g : Goroutine} (h : Send12 x i g) : (cw (Recv12 x)).J (Go.Conc.served g undef) x.W0 := by
  obtain ⟨_, a, rfl, hs⟩ := h
  have hC := cw_closed (Recv12 x)
  rw [served_at, dst_of op25_send]
  refine J_move (X := X true _) hC rfl (fun w => stepG_region_end) ?_
  rw [kS25]
  refine J_move (X := X true _) hC rfl (fun w => stepG_inBlock) ?_
  refine J_move (X := X true _) hC rfl (fun w => stepG_inLoop) ?_
  exact to_recv ((hs.none undef).sub (by simp [cap12]))
/-- A job in hand. -/
theorem next_recv (ok : x.Ok) {g : Goroutine} (h : Recv12 x g) (hiM : i < x.M) : (cw (Send12 x i)).J (Go.Conc.served g (.tuple #[.int .i64 i, .bool true])) x.W0 := by
  obtain ⟨a, rfl, hs⟩ := h
  have hi : i < x.N := Nat.lt_of_lt_of_le hiM ok.le
  have hC := cw_closed (Send12 x i)
  rw [served_at, dst_of op25_recv]
  have hs1 := hs.put (d := 9) (by omega) (.tuple #[.int .i64 i, .bool true]) (by simp [cap12])
  refine wB12_J (tv := x.tv) hC kind25 (hs1.sub (by simp [cap12])) (fun _ vs w => w = x.W0 ∧ vs = [ptr x.wg, ptr x.tv, ptr x.dv, ptr x.jv, ptr x.rv, .chan (some x.T), .tuple #[.int .i64 i, .bool true], .bool true]) ⟨rfl, rfl⟩ fun a1 W1 vs1 k1 hs2 => ?_
  obtain ⟨rfl, rfl⟩ := k1
  rw [kR25, e25_bbklb]
  refine J_move (X := X true _) hC rfl (fun w => stepG_seq) ?_
  rw [e25_bbklba]
  refine J_move (X := X true _) hC rfl (fun w => stepG_cond (t := true) (hs2.ev (t := 10) (by simp))) ?_
  rw [if_pos rfl, e25_bat]
  refine J_move (X := X true _) hC rfl (fun w => stepG_skip) ?_
  rw [e25_bbklbb]
  refine J_move (X := X true _) hC rfl (fun w => stepG_block) ?_
  rw [e25_bbklbbk]
  refine J_move (X := X true _) hC rfl (fun w => stepG_seq) ?_
  refine wC12_J (ok := true) (co := cw (Send12 x i)) (wg := x.wg) (tv := x.tv) (dv := x.dv) (jv := x.jv) (rv := x.rv) (ch := .chan (some x.T)) (i := (i : Int)) hC kind25 (hs2.sub (by simp)) (fun e vs w => e = .normal ∧ w = x.W0 ∧ vs = [ptr x.wg, ptr x.tv, ptr x.dv, ptr x.jv, ptr x.rv, .chan (some x.T), .int .i64 i]) ⟨rfl, rfl, rfl⟩ fun e a2 W2 vs2 k2 hs3 => ?_
  obtain ⟨rfl, rfl, rfl⟩ := k2
  show (cw (Send12 x i)).J _ _
  rw [e25_bbklbbkb]
  refine J_move (X := X true _) hC rfl (fun w => stepG_seq) ?_
  refine wD12_J (co := cw (Send12 x i)) (wg := x.wg) (tv := x.tv) (dv := x.dv) (jv := x.jv) (rv := x.rv) (ch := .chan (some x.T)) (i := (i : Int)) hC kind25 (hs3.sub (by simp)) (fun e vs w => e = .normal ∧ w = x.W0 ∧ vs = [ptr x.wg, ptr x.tv, ptr x.dv, ptr x.jv, ptr x.rv, .chan (some x.T), .int .i64 i, .int .i64 (x.r i), .int .i64 (x.er i)]) ?_ fun e a3 W3 vs3 k3 hs4 => ?_
  · obtain ⟨q, hq, hcell⟩ := ok.jobs i hi
    obtain ⟨f, hf, hcl, hcall⟩ := ok.dO
    refine ⟨x.fdo, ok.d, x.jq, x.N, x.cj, ok.j, q, hq, by omega, by omega, x.job i, by simpa using hcell, ?_⟩
    rw [hf]
    show cond (cl f.1) _ _
    rw [hcl]
    show CallsJ _ _ _ _ _ _
    intro c cs hc
    refine hcall _ hC i hiM c cs fun v w hv => hc v w ?_
    obtain ⟨rfl, rfl⟩ := hv
    exact ⟨_, _, rfl, rfl, rfl, rfl⟩
  obtain ⟨rfl, rfl, rfl⟩ := k3
  show (cw (Send12 x i)).J _ _
  refine wE12_J (co := cw (Send12 x i)) (wg := x.wg) (tv := x.tv) (dv := x.dv) (jv := x.jv) (rv := x.rv) (ch := .chan (some x.T)) (i := (i : Int)) (r := x.r i) (er := x.er i) hC kind25 (hs4.sub (by simp)) (fun e vs w => w = x.W0 ∧ vs = [ptr x.wg, ptr x.tv, ptr x.dv, ptr x.jv, ptr x.rv, .chan (some x.T), .chan (some x.R), res12 x i]) ⟨_, ok.rr, rfl, rfl⟩ fun a4 W4 vs4 k4 hs5 => ?_
  obtain ⟨rfl, rfl⟩ := k4
  exact tree_stop ⟨hi, a4, rfl, hs5.sub (by simp [cap12])⟩
/-- The literal's own way out, once Done has left. -/
theorem quits25 (T : Array Value) : QuitsD Try.prog 2 0 (G { (baseD 25).at ⟨T, []⟩ [] with mode := .returning } [botF]) := by
  refine QuitsD.ctl (g' := G botF []) rfl (fun w => ?_) ?_
  · simp [G, stepG, unwind, doReturn, results, Frame.at, baseD, botF, Try.func25, Try.f25, seen, GStep.after, goexitEntry]
  refine QuitsD.ctl (g' := { G botF [] with status := .finished }) rfl (fun w => ?_) ⟨rfl, rfl⟩
  simp [G, stepG, unwind, botF, goexitEntry, Frame.catches]
  rfl
/-- No job is left. -/
theorem none_recv (ok : x.Ok) {P' : Value → World → Prop} {m : Nat} {on : Bool} {g : Goroutine} (h : Recv12 x g) : (cw (DoneG (wk12 x P' m on))).J (Go.Conc.served g (.tuple #[.int .i64 0, .bool false])) x.W0 := by
  obtain ⟨a, rfl, hs⟩ := h
  have hC := cw_closed (DoneG (wk12 x P' m on))
  rw [served_at, dst_of op25_recv]
  have hs1 := hs.put (d := 9) (by omega) (.tuple #[.int .i64 0, .bool false]) (by simp [cap12])
  refine wB12_J (tv := x.tv) hC kind25 (hs1.sub (by simp [cap12])) (fun _ vs w => w = x.W0 ∧ vs = [ptr x.wg, ptr x.tv, ptr x.dv, ptr x.jv, ptr x.rv, .chan (some x.T), .tuple #[.int .i64 0, .bool false], .bool false]) ⟨rfl, rfl⟩ fun a1 W1 vs1 k1 hs2 => ?_
  obtain ⟨rfl, rfl⟩ := k1
  rw [kR25, e25_bbklb]
  refine J_move (X := X true _) hC rfl (fun w => stepG_seq) ?_
  rw [e25_bbklba]
  refine J_move (X := X true _) hC rfl (fun w => stepG_cond (t := false) (hs2.ev (t := 10) (by simp))) ?_
  rw [if_neg (by simp), e25_bae]
  refine J_move (X := X true _) hC rfl (fun w => stepG_exit (k' := []) rfl) ?_
  refine J_move (X := X true _) hC rfl (fun w => stepG_end) ?_
  refine J_move (X := X true _) hC rfl (fun w => stepG_unwind_enter (ds := []) hs2.2.1 Try.func26 (by kernel_rfl) (c := bodyOf Try.f26) (by kernel_rfl)) ?_
  refine tree_stop ⟨rfl, fun w hl => ⟨60, ?_⟩⟩
  obtain ⟨n, hn⟩ := ok.wg
  have := done1 (L := lnk) (c := { (baseD 25).at ⟨a1.tmps, []⟩ [] with mode := .returning }) (cs := [botF]) (Wg := x.wg.block) wgLib rfl (quits25 a1.tmps) w hl
  rw [enter_atD _ (show Try.prog.funcs[lnk.done]? = some Try.f26 from Try.func26) (show Try.f26.body = some (bodyOf Try.f26) by kernel_rfl)] at this
  have e : x.wg = adr x.wg.block := by rw [hn]
  rw [e]
  exact this
/-- A worker's birth. -/
def call25 (x : Sh12) : Deferred := { target := .fn (.func 25) #[ptr x.wg, ptr x.tv, ptr x.dv, ptr x.jv, ptr x.rv], args := #[] }
theorem born25 (w : World) : stepG Try.prog false (born Try.prog (call25 x)) w = .go (G ((baseD 25).at ⟨#[ptr x.wg, ptr x.tv, ptr x.dv, ptr x.jv, ptr x.rv] ++ Array.replicate 21 undef, []⟩ [.code n25_]) [botF]) w #[] := by
  have e : n25_ = (Try.f25.body).getD .skip := by kernel_rfl
  rw [e]
  simp [born, call25, stepG, unwind, callDeferred, invoke, callFunc, Try.func25, Try.f25, seen, GStep.after, G, Frame.enter, Frame.at, baseD, botF]
theorem birth (ok : x.Ok) : (cw (Recv12 x)).J (born Try.prog (call25 x)) x.W0 := by
  have hC := cw_closed (Recv12 x)
  refine J_move (X := X true _) hC rfl (fun w => born25 w) ?_
  have hs0 : Slots 26 [] ⟨#[ptr x.wg, ptr x.tv, ptr x.dv, ptr x.jv, ptr x.rv] ++ Array.replicate 21 undef, []⟩ (cap12 x) := ⟨by simp, rfl, fun p hp => by
    simp only [cap12, List.mem_cons, List.not_mem_nil, or_false] at hp
    rcases hp with rfl | rfl | rfl | rfl | rfl <;> simp⟩
  generalize (⟨#[ptr x.wg, ptr x.tv, ptr x.dv, ptr x.jv, ptr x.rv] ++ Array.replicate 21 undef, []⟩ : Act) = a at hs0 ⊢
  rw [e25_]
  refine J_move (X := X true _) hC rfl (fun w => stepG_seq) ?_
  rw [e25_a]
  refine J_code_region (X := X true _) hC ?_
  rw [z25_a]
  refine J_move (X := X true _) hC rfl (fun w => stepG_defer' op25_defer kind25) ?_
  refine J_move (X := X true _) hC rfl (fun w => stepG_region_end) ?_
  have hs1 : Slots 26 [dDone x.wg] ⟨a.tmps, dcall 26 (#[Operand.tmp 0].map a.eval) :: a.defers⟩ (cap12 x) := by
    refine ⟨hs0.1, ?_, hs0.2.2⟩
    have := hs0.ev (t := 0) (v := ptr x.wg) (by simp [cap12])
    simp [this, hs0.2.1, dDone]
  generalize (⟨a.tmps, dcall 26 (#[Operand.tmp 0].map a.eval) :: a.defers⟩ : Act) = a1 at hs1 ⊢
  rw [e25_b]
  refine J_move (X := X true _) hC rfl (fun w => stepG_seq) ?_
  refine wA12_J (co := cw (Recv12 x)) (wg := x.wg) (tv := x.tv) (dv := x.dv) (jv := x.jv) (rv := x.rv) hC kind25 hs1 (fun e vs w => e = .normal ∧ w = x.W0 ∧ vs = [ptr x.wg, ptr x.tv, ptr x.dv, ptr x.jv, ptr x.rv, .chan (some x.T)]) ⟨_, ok.t, rfl, rfl, rfl⟩ fun e a2 W2 vs2 k2 hs3 => ?_
  obtain ⟨rfl, rfl, rfl⟩ := k2
  show (cw (Recv12 x)).J _ _
  rw [e25_bb]
  refine J_move (X := X true _) hC rfl (fun w => stepG_block) ?_
  rw [e25_bbk]
  refine J_move (X := X true _) hC rfl (fun w => stepG_loop) ?_
  exact to_recv (hs3.sub (by simp [cap12]))
theorem wok12 (ok : x.Ok) (P' : Value → World → Prop) (m : Nat) (on : Bool) : WkOk (wk12 x P' m on) x.M :=
  ⟨fun g h => step_recv h, fun i g h => step_send h, fun i g h => next_send h, fun i g h hi => next_recv ok h hi, ok.ne⟩
theorem wok412 (ok : x.Ok) (P' : Value → World → Prop) (m : Nat) (on : Bool) : WkOk4 (wk12 x P' m on) := ⟨fun g h => none_recv ok h⟩
end
end Go.Proofs.Ytmkgnbcpcfojfaa
