/- All, awake; the root of a law. -/
import Derived.Test.YtmkgnbcpcfojfaaCwZ
set_option linter.unusedVariables false
set_option linter.unusedSimpArgs false
set_option maxRecDepth 10000
namespace Go.Proofs.Ytmkgnbcpcfojfaa
open Go Go.Cv Go.Conc Go.ConcN
open Go.RowKit (Below)

theorem kept_cell {w w' : World} {O : Nat} {v : Value} {e : TypeId} (h : w.heap[O]? = some (.cells #[v] e)) (k : Kept w w') : w'.cell? (adr O) = some v := by
  rw [show (adr O) = ⟨O, 0, none⟩ from rfl, cell_of (k.1 _ _ h (by simp [unkC]))]; rfl
theorem alloc_at (w : World) (o : Obj) : (w.alloc o).heap[w.heap.size]? = some o := by rw [heap_push, Array.getElem?_push_size]

theorem all20 {Post : Value → World → Prop} {w : World} {a : Option Addr} {l ca : Nat} {hands : Int} {fdo : Value} {A r : Nat → Int} (hl : 8 * l ≤ 2 ^ 42) (ha : Rd w a l fun i => .int .i64 (A i)) (hcells : fdo.cells = #[fdo])
    (hdo : ∃ f, asFn fdo = some f ∧ cl f.1 = true ∧ ∀ (W' : World) (co : Co), Closed Try.prog 58 true co → ∀ i, i < l → CallsJ Try.prog co f.1 (f.2.1.toList ++ ([.int .i64 (A i)] : List Value) ++ f.2.2.toList).toArray W' (fun v w => v = .int .i64 (r i) ∧ w = W'))
    {R : Value → World → Prop} (hR : ∀ w' O, Kept w w' → w.heap.size ≤ O → Rd w' (some (adr O)) l (fun i => .int .i64 (r i)) → (∃ cells : Array Value, w'.heap[O]? = some (.cells cells 3 (0, 0)) ∧ cells.size = l) → R (.slice (some (adr O)) l l) w') :
    CallsJ Try.prog (coF Try.prog 58 Post) 20 #[.slice a l ca, .int .i64 hands, fdo] w R := by
  refine c20 (coF_closed Post) ?_
  unfold sh20
  rw [hcells]
  have k1 := kept_alloc w (.cells #[fdo] 42)
  refine CallsJ.mono (try12 (W := w.alloc (.cells #[fdo] 42)) (jq := a) (l := l) (cj := ca) (hands := hands) (job := A) (r := r) (er := fun _ => 0) (fdo := .func (.func 28) #[] #[ptr (adr w.heap.size)]) (R := fun v W' => Kept (w.alloc (.cells #[fdo] 42)) W' ∧ Ans12 (w.alloc (.cells #[fdo] 42)) l r (fun _ => 0) v W') hl (ha.kept k1) rfl
    ⟨(28, #[], #[ptr (adr w.heap.size)]), rfl, rfl, fun W' hk co hco i hi => ?_⟩ (fun v W' h1 h2 => ⟨h1, h2⟩)) fun v w' hv => ?_
  · refine c28 (x1 := A i) (p2 := adr w.heap.size) hco ?_
    obtain ⟨f, h1, h2, h3⟩ := hdo
    refine ⟨fdo, ?_, ?_⟩
    · rw [show (adr w.heap.size) = ⟨w.heap.size, 0, none⟩ from rfl, cell_of (hk _ _ (alloc_at w (.cells #[fdo] 42)) (by simp [unkC]))]; rfl
    · rw [h1]
      show cond (cl f.1) _ _
      rw [h2]
      exact CallsJ.mono (h3 W' co hco i hi) fun v w hv => ⟨r i, hv.1, rfl, hv.2⟩
  · obtain ⟨hk, hA⟩ := hv
    rcases hA with ⟨_, O, hO, rfl, cells, o1, o2, o3⟩ | ⟨i, _, h0, _⟩
    · exact ⟨_, _, _, _, _, rfl, hR _ O (k1.trans hk) (Nat.le_trans k1.2.1 hO) (rd_block o1 o3) ⟨cells, o1, o2⟩⟩
    · exact absurd rfl h0
theorem all10 {Post : Value → World → Prop} {w : World} {a : Option Addr} {l ca : Nat} {hands : Int} {fdo : Value} {A : Nat → Int} {r : Nat → ByteArray} (hl : 8 * l ≤ 2 ^ 42) (ha : Rd w a l fun i => .int .i64 (A i)) (hcells : fdo.cells = #[fdo])
    (hdo : ∃ f, asFn fdo = some f ∧ cl f.1 = true ∧ ∀ (W' : World) (co : Co), Closed Try.prog 58 true co → ∀ i, i < l → CallsJ Try.prog co f.1 (f.2.1.toList ++ ([.int .i64 (A i)] : List Value) ++ f.2.2.toList).toArray W' (fun v w => v = .string (r i) ∧ w = W'))
    {R : Value → World → Prop} (hR : ∀ w' O, Kept w w' → w.heap.size ≤ O → Rd w' (some (adr O)) l (fun i => .string (r i)) → R (.slice (some (adr O)) l l) w') :
    CallsJ Try.prog (coF Try.prog 58 Post) 10 #[.slice a l ca, .int .i64 hands, fdo] w R := by
  refine c10 (coF_closed Post) ?_
  unfold sh10
  rw [hcells]
  have k1 := kept_alloc w (.cells #[fdo] 27)
  refine CallsJ.mono (try22 (W := w.alloc (.cells #[fdo] 27)) (jq := a) (l := l) (cj := ca) (hands := hands) (job := A) (r := r) (er := fun _ => 0) (fdo := .func (.func 23) #[] #[ptr (adr w.heap.size)]) (R := fun v W' => Kept (w.alloc (.cells #[fdo] 27)) W' ∧ Ans22 (w.alloc (.cells #[fdo] 27)) l r (fun _ => 0) v W') hl (ha.kept k1) rfl
    ⟨(23, #[], #[ptr (adr w.heap.size)]), rfl, rfl, fun W' hk co hco i hi => ?_⟩ (fun v W' h1 h2 => ⟨h1, h2⟩)) fun v w' hv => ?_
  · refine c23 (x1 := A i) (p2 := adr w.heap.size) hco ?_
    obtain ⟨f, h1, h2, h3⟩ := hdo
    refine ⟨fdo, ?_, ?_⟩
    · rw [show (adr w.heap.size) = ⟨w.heap.size, 0, none⟩ from rfl, cell_of (hk _ _ (alloc_at w (.cells #[fdo] 27)) (by simp [unkC]))]; rfl
    · rw [h1]
      show cond (cl f.1) _ _
      rw [h2]
      exact CallsJ.mono (h3 W' co hco i hi) fun v w hv => ⟨r i, hv.1, rfl, hv.2⟩
  · obtain ⟨hk, hA⟩ := hv
    rcases hA with ⟨_, O, hO, rfl, cells, o1, o2, o3⟩ | ⟨i, _, h0, _⟩
    · exact ⟨_, _, _, _, _, rfl, hR _ O (k1.trans hk) (Nat.le_trans k1.2.1 hO) (rd_block o1 o3)⟩
    · exact absurd rfl h0

theorem awake8 {Post : Value → World → Prop} {w : World} : CallsJ Try.prog (coF Try.prog 58 Post) 8 #[] w (fun v w' => v = .bool true ∧ Kept w w') := by
  refine c8 (coF_closed Post) ?_
  unfold sh8
  have k1 := kept_alloc w (.cells #[.int .i64 1, .int .i64 2, .int .i64 3, .int .i64 4] 3)
  have e4 : ∀ {v1 v2 v3 v4 : Int} (i : Nat), i < 4 → ∃ n, (#[Value.int .i64 v1, .int .i64 v2, .int .i64 v3, .int .i64 v4])[i]? = some (.int .i64 n) := fun {v1 v2 v3 v4} i hi => by
    have : i = 0 ∨ i = 1 ∨ i = 2 ∨ i = 3 := by omega
    rcases this with rfl | rfl | rfl | rfl <;> exact ⟨_, rfl⟩
  refine all20 (l := 4) (A := fun i => (i : Int) + 1) (r := fun i => 2 * ((i : Int) + 1)) (by omega) (rd_block (alloc_at _ _) fun i hi => ?_) rfl ⟨(21, #[], #[]), rfl, rfl, fun W' co hco i hi => ?_⟩ fun w' O hk hO hr _ => ?_
  · have : i = 0 ∨ i = 1 ∨ i = 2 ∨ i = 3 := by omega
    rcases this with rfl | rfl | rfl | rfl <;> rfl
  · refine c21 (x1 := (i : Int) + 1) hco ?_
    unfold sh21
    refine ⟨?_, rfl⟩
    have : IntKind.i64.wrap (2 * ((i : Int) + 1)) = 2 * ((i : Int) + 1) := by rw [IntKind.wrap_i64]; omega
    rw [this]
  · refine ⟨_, _, _, rfl, ?_⟩
    have k2 := kept_alloc w' (.cells #[.int .i64 2, .int .i64 4, .int .i64 6, .int .i64 8] 3)
    refine CallsJ.mono (same16 (coF_closed Post) (n := 4) (A := fun i => 2 * ((i : Int) + 1)) (by omega) (hr.kept k2) (rd_block (alloc_at _ _) fun i hi => ?_)) fun v w2 hv => ?_
    · have : i = 0 ∨ i = 1 ∨ i = 2 ∨ i = 3 := by omega
      rcases this with rfl | rfl | rfl | rfl <;> rfl
    · obtain ⟨rfl, rfl⟩ := hv
      exact ⟨true, rfl, rfl, (k1.trans hk).trans k2⟩

/-- A law's run, from its text. -/
theorem root {f : FuncId} {fn : Func} (hf2 : ¬ 2 = f) (hfn : Try.prog.funcs[f]? = some fn) {args : List Value} {W : World} {Q : Value → Prop}
    (h : denF (X false (coF Try.prog 58 fun v w' => Q v ∧ Below W.heap.size W w')) fn args (fun v W' => Q v ∧ Kept (virt 58 W) W') (virt 58 W)) :
    Ev Try.prog (fun v w' => Q v ∧ Below W.heap.size W w') (solo (G (Frame.enter Try.prog f args.toArray .normal) []) W) #[] := by
  refine fin_start (ty := 58) ?_
  have hC := coF_closed (fun v w' => Q v ∧ Below W.heap.size W w')
  obtain ⟨c, hc, h⟩ := optP_some h
  have ok' := okn false (coF Try.prog 58 fun v w' => Q v ∧ Below W.heap.size W w') fn.ntmps
  have ha : Agr fn.ntmps { tmps := args.toArray ++ Array.replicate (fn.ntmps - args.toArray.size) undef, defers := [] } (fun t => args[t]?) := by
    refine ⟨?_, fun t v hv => ?_⟩
    · simp; omega
    · have hlt : t < args.length := by
        rcases Nat.lt_or_ge t args.length with h | h
        · exact h
        · rw [List.getElem?_eq_none h] at hv; cases hv
      simp only [Array.getElem?_append, List.size_toArray, hlt, if_true, List.getElem?_toArray]
      exact hv
  rw [enter_at _ hfn hc]
  have leave : ∀ (a' : Act) (σ' : Env) (W' : World) (todo : List Item), Agr fn.ntmps a' σ' → a'.defers = [] → (resAll (X false (coF Try.prog 58 fun v w' => Q v ∧ Below W.heap.size W w')) σ' W' fn.results.toList fun vs => Q (tupled vs) ∧ Kept (virt 58 W) W') →
      (coF Try.prog 58 fun v w' => Q v ∧ Below W.heap.size W w').J (G { (base f).at a' todo with mode := .returning } []) W' := by
    intro a' σ' W' todo g1 gd g3
    obtain ⟨v, hr, hv, hk⟩ := results_run (X := X false (coF Try.prog 58 fun v w' => Q v ∧ Below W.heap.size W w')) (n := fn.ntmps) (K := fun v W' => Q v ∧ Kept (virt 58 W) W') g1 g3
    refine fin_ret (v := v) rfl (fun w => ?_) fun w hs => ⟨hv, hk.below hs⟩
    have e1 := (hr w).run
    have e2 := sil_list (w := w) hr
    have hfn' : Try.prog.funcs[(base f).fn]? = some fn := hfn
    have hP : (X false (coF Try.prog 58 fun v w' => Q v ∧ Below W.heap.size W w')).P = Try.prog := rfl
    rw [hP] at e1 e2
    simp [G, stepG, unwind, doReturn, Frame.at, base, gd, hfn, e1, e2, seen, GStep.after, hf2]
  show (coF Try.prog 58 fun v w' => Q v ∧ Below W.heap.size W w').J _ _
  refine den_sound (X := { X false (coF Try.prog 58 fun v w' => Q v ∧ Below W.heap.size W w') with n := fn.ntmps }) ok' hC c _ _ _ _ h ha (base f) [] [] (by simp [base]) fun e a' W' hq => ?_
  obtain ⟨σ', g1, g2, g3⟩ := hq
  cases e with
  | normal => exact Jmv hC rfl (fun w => stepG_end) (leave a' σ' W' [] g1 g2.2.2 g3)
  | ret => exact fun todo => leave a' σ' W' todo g1 g2.2.2 g3
  | _ => exact g3.elim
end Go.Proofs.Ytmkgnbcpcfojfaa
