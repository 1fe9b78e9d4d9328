/- The tables by which this seat's code is read. -/
import Derived.Test.YtmfidfaiopogbaaProg
import Derived.Test.YtmfidfaiopogbaaShSound
namespace Go.Proofs.Ytmfidfaiopogbaa
open Go Go.Sh
def tt : Nat → S2
  | 0 => .tup []
  | 3 => .one (.lf (.int .i64))
  | 4 => .one (.lf (.bool))
  | 5 => .one (.lf (.int .u8))
  | 9 => .one (.lf (.str))
  | 23 => .one (.lf (.ptr))
  | 24 => .one (.lf (.slc))
  | 26 => .one (.agg [.slc, .int .i64, .bool, .int .i64])
  | 27 => .tup [.lf (.ptr), .agg [.slc, .int .i64, .bool, .int .i64], .lf (.bool)]
  | 36 => .one (.lf (.slc))
  | 38 => .one (.agg [.int .i64, .int .i64, .int .i64, .slc])
  | 41 => .one (.lf (.int .i64))
  | 42 => .one (.lf (.any))
  | 45 => .tup [.agg [.slc, .int .i64, .bool, .int .i64], .lf (.int .i64)]
  | 49 => .tup [.lf (.ptr), .lf (.int .i64)]
  | 54 => .one (.lf (.int .i64))
  | 55 => .one (.lf (.int .u32))
  | 57 => .one (.agg [.int .i64, .int .i64, .int .i64, .int .i64, .int .u32])
  | 58 => .tup [.lf (.slc), .lf (.int .i64)]
  | 60 => .tup [.agg [.int .i64, .int .i64, .int .i64, .int .i64, .int .u32], .lf (.int .i64)]
  | 64 => .one (.lf (.slc))
  | 65 => .tup [.lf (.slc), .lf (.int .i64)]
  | 72 => .tup [.lf (.slc), .lf (.slc), .lf (.slc)]
  | 77 => .one (.agg [.str, .str, .str])
  | 79 => .one (.lf (.ptr))
  | 80 => .tup [.lf (.ptr), .lf (.slc), .lf (.int .i64)]
  | 82 => .tup [.agg [.str, .str, .str], .lf (.slc)]
  | 98 => .one (.agg [.int .i64, .int .i64, .int .i64, .int .i64, .int .i64, .int .u32, .slc])
  | 99 => .tup [.agg [.str, .str, .str], .lf (.int .i64)]
  | 109 => .one (.agg [.slc, .slc, .slc])
  | 110 => .one (.lf (.slc))
  | 114 => .one (.agg [.int .i64, .int .i64, .slc, .bool])
  | 126 => .one (.lf (.slc))
  | 128 => .one (.agg [.slc, .bool])
  | 129 => .tup [.agg [.slc, .bool], .lf (.bool)]
  | 131 => .one (.lf (.any))
  | 133 => .one (.agg [.any, .int .i64, .int .i64])
  | 134 => .one (.lf (.ptr))
  | 138 => .tup [.agg [.int .i64, .int .i64, .int .i64, .int .i64, .int .u32], .lf (.int .i64), .lf (.bool)]
  | 141 => .tup [.lf (.int .i64), .lf (.bool)]
  | 143 => .one (.lf (.slc))
  | 150 => .tup [.lf (.int .i64), .lf (.slc), .lf (.bool)]
  | 152 => .tup [.lf (.int .i64), .lf (.int .i64)]
  | _ => .one (.lf .any)
def cl (f : Nat) : Bool := Nat.blt 2 f && Nat.blt f 102
noncomputable def X : Cx := { P := Try.prog, tt := tt, cl := cl, n := 0 }
theorem X_calls : allB (fun f => match Try.prog.funcs[f + 3]? with | some fn => !(fn.name == "runtime.NumGoroutine") && !fn.body.isNone | none => false) (List.range 99) = true := by kernel_rfl
theorem X_ok : ClOk X := fun f hf => by
  have hf' : (Nat.blt 2 f && Nat.blt f 102) = true := hf
  simp only [Bool.and_eq_true, Nat.blt_eq] at hf'
  obtain ⟨k, rfl⟩ : ∃ k, f = k + 3 := ⟨f - 3, by omega⟩
  have h := allB_mem X_calls k (List.mem_range.2 (by omega))
  cases hk : Try.prog.funcs[k + 3]? with
  | none => rw [hk] at h; cases h
  | some fn =>
    rw [hk] at h
    simp only [Bool.and_eq_true, Bool.not_eq_true'] at h
    exact ⟨fn, hk, h.1, h.2⟩
theorem X_mixed : X.P.follows .mixedOrders = true := by kernel_rfl
theorem callOf {f : FuncId} {fn : Func} (hfn : Try.prog.funcs[f]? = some fn) {args : List Value} {w : World} {R : Ending → World → Prop}
    (h : denF X fn args (fun v w' => R (.returned v) w') w) : Calls Try.prog f args.toArray w R := denF_sound X_ok X_mixed hfn h
end Go.Proofs.Ytmfidfaiopogbaa
