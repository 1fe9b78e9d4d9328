/- Two operations are told apart. -/
import Derived.Test.YtmfidfaiopogbaaShScan2
set_option linter.unusedVariables false
set_option linter.unusedSimpArgs false
set_option linter.unusedSectionVars false
set_option maxRecDepth 8000
namespace Go.Proofs.Ytmfidfaiopogbaa
open Go Go.Sh

def opeq (x y : Op) : Bool := x.k == y.k && (x.e == y.e && (x.u == y.u && (x.v == y.v && x.b == y.b)))
theorem opeq_self (x : Op) : opeq x x = true := by simp [opeq]
theorem opeq_iff (x y : Op) : opeq x y = true ↔ x = y := by
  obtain ⟨a, b, c, d, e⟩ := x
  obtain ⟨a', b', c', d', e'⟩ := y
  simp [opeq]
theorem eqf {w : World} {d : Nat} {xs ys : Array Value} {f : Field} {fs : List Field} {k kk : IntKind} {a b : Int} (hn : f.name ≠ "_") (hu : Try.prog.underlying f.type = some (.int k)) (hx : xs[f.offset]? = some (.int kk a)) (hy : ys[f.offset]? = some (.int kk b)) :
    (Op.eqFields (d + 1) xs ys (f :: fs)).run Try.prog w = bif a == b then (Op.eqFields (d + 1) xs ys fs).run Try.prog w else .ok false w := by
  rw [Op.eqFields]
  rw [if_pos hn]
  have p1 : ∀ (zs : Array Value) (n : Int), zs[f.offset]? = some (.int kk n) → (part f.type zs f.offset).run Try.prog w = .ok (.int kk n) w := by
    intro zs n hz
    simp [part, isAgg, run_underlying hu, hz]
  simp only [Sem.run_bind, p1 _ _ hx, p1 _ _ hy, Result.andThen_ok, run_equalIn_int w d f.type kk k a b hu]
  cases a == b <;> simp
theorem run_opeq (w : World) (x y : Op) : (Op.equalIn 10000 57 (opV x) (opV y)).run Try.prog w = .ok (opeq x y) w := by
  have hp : Try.prog.stoodInHeld 57 = false := by kernel_rfl
  have hF : Try.prog.fieldsOf 57 = #[⟨"Kind", 54, 0, false, "", "", 0⟩, ⟨"E", 3, 1, false, "", "", 8⟩, ⟨"U", 3, 2, false, "", "", 16⟩, ⟨"V", 3, 3, false, "", "", 24⟩, ⟨"Bits", 55, 4, false, "", "", 32⟩] := by
    unfold Program.fieldsOf
    rw [Try.underlying57]
  have ht : Try.prog.underlying 57 = some (.struct (Try.prog.fieldsOf 57)) := by rw [hF]; exact Try.underlying57
  rw [run_equalIn_struct w 9999 57 _ _ ht hp, hF]
  rw [eqf (k := .i64) (kk := .i64) (a := x.k) (b := y.k) (by decide) Try.underlying54 rfl rfl, eqf (k := .i64) (kk := .i64) (a := x.e) (b := y.e) (by decide) Try.underlying3 rfl rfl, eqf (k := .i64) (kk := .i64) (a := x.u) (b := y.u) (by decide) Try.underlying3 rfl rfl,
    eqf (k := .i64) (kk := .i64) (a := x.v) (b := y.v) (by decide) Try.underlying3 rfl rfl, eqf (k := .u32) (kk := .u32) (a := x.b) (b := y.b) (by decide) Try.underlying55 rfl rfl]
  unfold opeq
  cases x.k == y.k <;> cases x.e == y.e <;> cases x.u == y.u <;> cases x.v == y.v <;> cases x.b == y.b <;> rfl
theorem rw_eql {w : World} {x y : Op} {a b : Operand} {K : Bool → Prop} (hK : K (opeq x y)) :
    RunWp Try.prog (do eqGuard .eql 57 a b (opV x) (opV y); binOp .eql 57 (opV x) (opV y)) (fun v w' => w' = w ∧ ∃ t : Bool, v = .bool t ∧ K t) w := by
  have hg : Try.prog.eqGuardType Try.prog.depth 57 = false := by kernel_rfl
  refine RunWp.of (v := .bool (opeq x y)) (w' := w) ?_ ⟨rfl, _, rfl, hK⟩
  rw [Sem.run_bind, run_eqGuard_agg w .eql 57 a b _ _ hg, Result.andThen_ok, run_eql_struct, run_opeq]
  rfl
theorem rw_neq {w : World} {x y : Op} {a b : Operand} {K : Bool → Prop} (hK : K (!opeq x y)) :
    RunWp Try.prog (do eqGuard .neq 57 a b (opV x) (opV y); binOp .neq 57 (opV x) (opV y)) (fun v w' => w' = w ∧ ∃ t : Bool, v = .bool t ∧ K t) w := by
  have hg : Try.prog.eqGuardType Try.prog.depth 57 = false := by kernel_rfl
  refine RunWp.of (v := .bool (!opeq x y)) (w' := w) ?_ ⟨rfl, _, rfl, hK⟩
  rw [Sem.run_bind, run_eqGuard_agg w .neq 57 a b _ _ hg, Result.andThen_ok, run_neq_struct, run_opeq]
  rfl
end Go.Proofs.Ytmfidfaiopogbaa
