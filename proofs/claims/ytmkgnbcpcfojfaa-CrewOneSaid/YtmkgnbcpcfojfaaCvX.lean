/- The tables by which this seat's code is read, in company. -/
import Derived.Test.YtmkgnbcpcfojfaaProg
import Derived.Test.YtmkgnbcpcfojfaaCvCode
namespace Go.Proofs.Ytmkgnbcpcfojfaa
open Go Go.Cv
def tt : Nat → S2
  | 3 => .one (.lf (.int .i64))
  | 4 => .one (.lf (.bool))
  | 9 => .one (.lf (.str))
  | 22 => .one (.lf (.slc))
  | 25 => .one (.lf (.slc))
  | 27 => .one (.lf (.any))
  | 29 => .one (.lf (.int .i64))
  | 30 => .tup [.lf (.slc), .lf (.int .i64), .lf (.int .i64)]
  | 32 => .tup [.lf (.int .i64), .lf (.int .i64)]
  | 35 => .tup [.lf (.slc), .lf (.int .i64), .lf (.int .i64)]
  | 42 => .one (.lf (.any))
  | 44 => .tup [.lf (.slc), .lf (.int .i64), .lf (.int .i64)]
  | 60 => .tup [.lf (.int .i64), .lf (.int .i64)]
  | 62 => .one (.agg [.int .i64, .int .i64, .int .i64])
  | 64 => .tup [.lf (.str), .lf (.int .i64)]
  | 66 => .one (.agg [.int .i64, .str, .int .i64])
  | _ => .one (.lf .any)
def cl (f : Nat) : Bool := Nat.blt 2 f && Nat.blt f 30
noncomputable def X (e : Bool) (co : Co) : Cx := { P := Try.prog, tt := tt, cl := cl, n := 0, ty := 58, ext := e, co := co }
theorem X_calls : allB (fun f => match Try.prog.funcs[f + 3]? with | some fn => !(fn.name == "runtime.NumGoroutine") && !fn.body.isNone | none => false) (List.range 27) = true := by kernel_rfl
theorem X_mixed : Try.prog.follows .mixedOrders = true := by kernel_rfl
theorem X_ok (e : Bool) (co : Co) : Okx (X e co) := by
  refine ⟨fun f hf => ?_, X_mixed⟩
  have hf' : (Nat.blt 2 f && Nat.blt f 30) = true := hf
  simp only [Bool.and_eq_true, Nat.blt_eq] at hf'
  obtain ⟨k, rfl⟩ : ∃ k, f = k + 3 := ⟨f - 3, by omega⟩
  have h := allB_mem X_calls k (List.mem_range.2 (by omega))
  show ∃ fn, Try.prog.funcs[k + 3]? = some fn ∧ _
  cases hk : Try.prog.funcs[k + 3]? with
  | none => rw [hk] at h; cases h
  | some fn =>
    rw [hk] at h
    simp only [Bool.and_eq_true, Bool.not_eq_true'] at h
    exact ⟨fn, rfl, h.1, h.2⟩
theorem callOf (e : Bool) (co : Co) (hC : Closed Try.prog 58 e co) {f : FuncId} {fn : Func} (hfn : Try.prog.funcs[f]? = some fn) {args : List Value} {w : World} {R : Value → World → Prop}
    (h : denF (X e co) fn args R w) : CallsJ Try.prog co f args.toArray w R := denF_sound (X := X e co) (X_ok e co) hC hfn h
theorem okn (e : Bool) (co : Co) (n : Nat) : Okx { X e co with n := n } := ⟨(X_ok e co).calls, (X_ok e co).mixed⟩
end Go.Proofs.Ytmkgnbcpcfojfaa
