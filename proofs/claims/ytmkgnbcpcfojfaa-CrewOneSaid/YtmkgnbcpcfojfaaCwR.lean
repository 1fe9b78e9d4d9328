/- Single operations of a goroutine in company: receive, send, select, defer, go; the rest of a region. -/
import Derived.Test.YtmkgnbcpcfojfaaCwP
import Derived.Test.YtmkgnbcpcfojfaaCwK
import Derived.Conc.DeferLaws
import Derived.Conc.TokenWalk
set_option linter.unusedVariables false
set_option linter.unusedSimpArgs false
namespace Go.Cv
open Go.Conc Go.ConcN

def opIs (ops : Array Oper) (i : Nat) : Option (Op × Option Tmp × Option (Nat × Bool)) := (ops[i]?).map fun o => (o.op, o.dst, o.guard)
theorem op_of {ops : Array Oper} {i : Nat} {x : Op} {d : Option Tmp} (h : opIs ops i = some (x, d, none)) : ∃ o, ops[i]? = some o ∧ o.op = x ∧ o.dst = d ∧ o.guard = none := by
  unfold opIs at h
  cases ho : ops[i]? with
  | none => rw [ho] at h; cases h
  | some o =>
    rw [ho] at h
    simp only [Option.map_some, Option.some.injEq, Prod.mk.injEq] at h
    exact ⟨o, rfl, h.1, h.2.1, h.2.2⟩
theorem wanted_none {o : Oper} {f : Nat → Option Bool} (h : o.guard = none) : Region.wanted o f = true := by simp [Region.wanted, h]

def chanE (P : Program) (ct : TypeId) : Option TypeId := match P.underlying ct with | some (.chan _ e) => some e | _ => none
def zeroE (P : Program) (e : TypeId) : Option Value := match P.info? e with | some i => i.zero | none => none
theorem chanE_some {P : Program} {ct e : TypeId} (h : chanE P ct = some e) : ∃ d, P.underlying ct = some (.chan d e) := by
  unfold chanE at h
  split at h
  · cases h; exact ⟨_, ‹_›⟩
  · cases h
theorem zeroE_some {P : Program} {e : TypeId} {z : Value} (h : zeroE P e = some z) : ∃ i, P.info? e = some i ∧ i.zero = some z := by
  unfold zeroE at h
  split at h
  · exact ⟨_, ‹_›, h⟩
  · cases h

section
variable {P : Program} {main : Bool} {b : Frame} {a : Act} {k : List Item} {cs : List Frame} {w : World} {ops : Array Oper} {i : Nat} {rest : List Nat} {d : Option Tmp}

theorem stepG_recv {ct e : TypeId} {x : Operand} {ok : Bool} {c : Nat} {z : Value} (ho : opIs ops i = some (.recv ct x ok, d, none)) (hk : b.kind ≠ .early) (hu : chanE P ct = some e) (hz : zeroE P e = some z)
    (hx : a.eval x = .chan (some c)) : stepG P main (G (b.at a (.inRegion ops (i :: rest) :: k)) cs) w = .comm (G (b.at a (.inRegion ops (i :: rest) :: k)) cs) #[rcase c z] true (.recv ok) w #[] := by
  obtain ⟨o, h1, h2, h3, h4⟩ := op_of ho
  obtain ⟨dir, hu⟩ := chanE_some hu
  obtain ⟨ti, hi, hz⟩ := zeroE_some hz
  have hu' := sil_underlying (P := P) hu
  have hz' := sil_zeroValue (P := P) hi hz
  have hr : Sil P (execOp a.eval o) (.comm #[rcase c z] true (.recv ok)) := by
    unfold execOp
    rw [h2]
    simp only [hx]
    exact hu'.bind (hz'.bind (sil_pure _))
  rw [stepG_comm h1 (wanted_none h4) hk (hr w).run, listed_none]
  exact Array.eq_empty_of_size_eq_zero (by
    have := (hr w).ev #[]
    rcases Nat.eq_zero_or_pos ((execOp a.eval o).events P w #[]).size with h | h
    · exact h
    · obtain hm := Array.getElem_mem h
      rcases this _ hm with h' | h'
      · simp at h'
      · exact h'.elim)
theorem stepG_send {x y : Operand} {c : Nat} {v : Value} (ho : opIs ops i = some (.send x y, d, none)) (hk : b.kind ≠ .early) (hx : a.eval x = .chan (some c)) (hy : a.eval y = v) :
    stepG P main (G (b.at a (.inRegion ops (i :: rest) :: k)) cs) w = .comm (G (b.at a (.inRegion ops (i :: rest) :: k)) cs) #[scase c v (.tuple #[])] true .send w #[] := by
  obtain ⟨o, h1, h2, h3, h4⟩ := op_of ho
  have hr : Sil P (execOp a.eval o) (.comm #[scase c v (.tuple #[])] true .send) := by
    unfold execOp
    rw [h2]
    simp only [hx, hy]
    exact sil_pure _
  rw [stepG_comm h1 (wanted_none h4) hk (hr w).run, listed_none]
  exact Array.eq_empty_of_size_eq_zero (by
    have := (hr w).ev #[]
    rcases Nat.eq_zero_or_pos ((execOp a.eval o).events P w #[]).size with h | h
    · exact h
    · obtain hm := Array.getElem_mem h
      rcases this _ hm with h' | h'
      · simp at h'
      · exact h'.elim)
theorem sil_list {α : Type} {s : Sem α} {v : α} (h : Sil P s v) : s.events P w #[] = #[] := Array.eq_empty_of_size_eq_zero (by
    have := (h w).ev #[]
    rcases Nat.eq_zero_or_pos (s.events P w #[]).size with h | h
    · exact h
    · obtain hm := Array.getElem_mem h
      rcases this _ hm with h' | h'
      · simp at h'
      · exact h'.elim)
/-- A select of a send and of a receive. -/
theorem stepG_select2 {x y u : Operand} {e1 e2 : TypeId} {v1 v2 v3 z1 z2 : Value} (ho : opIs ops i = some (.select #[{ chan := x, send := some y, elem := e1 }, { chan := u, send := none, elem := e2 }] true, d, none)) (hk : b.kind ≠ .early)
    (hz1 : zeroE P e1 = some z1) (hz2 : zeroE P e2 = some z2) (hx : a.eval x = v1) (hy : a.eval y = v2) (hu : a.eval u = v3) :
    stepG P main (G (b.at a (.inRegion ops (i :: rest) :: k)) cs) w = .comm (G (b.at a (.inRegion ops (i :: rest) :: k)) cs) #[{ chan := v1, send := some v2, zero := z1 }, { chan := v3, send := none, zero := z2 }] true .select w #[] := by
  obtain ⟨o, h1, h2, h3, h4⟩ := op_of ho
  obtain ⟨t1, hi1, hz1⟩ := zeroE_some hz1
  obtain ⟨t2, hi2, hz2⟩ := zeroE_some hz2
  have hr : Sil P (execOp a.eval o) (.comm #[{ chan := v1, send := some v2, zero := z1 }, { chan := v3, send := none, zero := z2 }] true .select) := by
    unfold execOp
    rw [h2]
    simp only [Array.mapM_eq_mapM_toList, List.mapM_cons, List.mapM_nil, hx, hy, hu, Option.map_some, Option.map_none]
    have g1 := sil_zeroValue (P := P) hi1 hz1
    have g2 := sil_zeroValue (P := P) hi2 hz2
    refine Sil.bind (a := #[{ chan := v1, send := some v2, zero := z1 }, { chan := v3, send := none, zero := z2 }]) ?_ (sil_pure _)
    refine Sil.bind (a := [{ chan := v1, send := some v2, zero := z1 }, { chan := v3, send := none, zero := z2 }]) ?_ (sil_pure _)
    exact Sil.bind (g1.bind (sil_pure _)) (Sil.bind (Sil.bind (g2.bind (sil_pure _)) (Sil.bind (sil_pure []) (sil_pure _))) (sil_pure _))
  rw [stepG_comm h1 (wanted_none h4) hk (hr w).run, listed_none (sil_list hr)]
theorem stepG_alloc' {e t : TypeId} {z : Value} (ho : opIs ops i = some (.alloc e, some t, none)) (hk : b.kind ≠ .early) (hz : zeroE P e = some z) :
    stepG P main (G (b.at a (.inRegion ops (i :: rest) :: k)) cs) w = .go (G (b.at (a.put (some t) (.pointer (some ⟨w.heap.size, 0, none⟩))) (.inRegion ops rest :: k)) cs) (w.alloc (.cells z.cells e)) #[] := by
  obtain ⟨o, h1, h2, h3, h4⟩ := op_of ho
  obtain ⟨ti, hi, hz⟩ := zeroE_some hz
  have hr : Rn P (execOp a.eval o) w (.value (.pointer (some ⟨w.heap.size, 0, none⟩))) (w.alloc (.cells z.cells e)) (fun _ => False) := by
    unfold execOp
    rw [h2]
    have h5 : Rn P (zeroValue e >>= fun z => newVar e z >>= fun r => pure (Value.pointer (some r))) w (.pointer (some ⟨w.heap.size, 0, none⟩)) (w.alloc (.cells z.cells e)) (fun _ => False) :=
      Rn.bind (sil_zeroValue (P := P) hi hz).rn (Rn.bind (rn_newVar e z) (rn_pure _))
    exact Rn.bind (f := fun r => pure (Next.value r)) h5 (rn_pure _)
  rw [stepG_value h1 (wanted_none h4) hk hr.run, h3, listed_none]
  exact Array.eq_empty_of_size_eq_zero (by
    rcases Nat.eq_zero_or_pos ((execOp a.eval o).events P w #[]).size with h | h
    · exact h
    · obtain hm := Array.getElem_mem h
      rcases hr.ev #[] _ hm with h' | h'
      · simp at h'
      · exact h'.elim)
theorem stepG_makeFunc {f : FuncId} {t : Tmp} {caps : Array Operand} (ho : opIs ops i = some (.makeFunc (.func f) #[] caps, some t, none)) (hk : b.kind ≠ .early) :
    stepG P main (G (b.at a (.inRegion ops (i :: rest) :: k)) cs) w = .go (G (b.at (a.put (some t) (.func (.func f) #[] (caps.map a.eval))) (.inRegion ops rest :: k)) cs) w #[] := by
  obtain ⟨o, h1, h2, h3, h4⟩ := op_of ho
  have hr : Sil P (execOp a.eval o) (.value (.func (.func f) #[] (caps.map a.eval))) := by
    unfold execOp
    rw [h2]
    have e0 : (#[] : Array Operand).map a.eval = #[] := by simp
    simp only [e0]
    exact Sil.bind (f := fun r => pure (Next.value r)) (sil_pure (P := P) (Value.func (.func f) #[] (caps.map a.eval))) (sil_pure _)
  rw [stepG_value h1 (wanted_none h4) hk (hr w).run, h3, listed_none (sil_list hr)]
theorem stepG_go {f : Fn} {c : Array Value} {x : Operand} {ats : Array TypeId} (ho : opIs ops i = some (.go { callee := .value x, args := #[], argTypes := ats }, none, none)) (hk : b.kind ≠ .early) (hx : a.eval x = .func f #[] c) :
    stepG P main (G (b.at a (.inRegion ops (i :: rest) :: k)) cs) w = .spawn (G (b.at a (.inRegion ops rest :: k)) cs) (born P { target := .fn f c, args := #[] }) w #[] := by
  obtain ⟨o, h1, h2, h3, h4⟩ := op_of ho
  have hr : Sil P (execOp a.eval o) (.spawn { target := .fn f c, args := #[] }) := by
    unfold execOp
    rw [h2]
    refine Sil.bind (a := ({ target := .fn f c, args := #[] } : Deferred)) ?_ (sil_pure _)
    unfold resolve
    have e0 : (#[] : Array Value) ++ (#[] : Array Operand).map a.eval = #[] := by simp
    simp only [hx, Deferred.ofValue, e0]
    exact sil_pure _
  rw [stepG_spawn h1 (wanted_none h4) hk (hr w).run rfl, h3, listed_none (sil_list hr)]; rfl
theorem stepG_call {f : FuncId} {fn : Func} {c : Code} {as : Array Operand} {ats : Array TypeId} (ho : opIs ops i = some (.call { callee := .value (.func f), args := as, argTypes := ats }, d, none)) (hk : b.kind ≠ .early)
    (hf : P.funcs[f]? = some fn) (hname : (fn.name == "runtime.NumGoroutine") = false) (hb : fn.body = some c) :
    stepG P main (G (b.at a (.inRegion ops (i :: rest) :: k)) cs) w = .go (G (Frame.enter P f (as.map a.eval) .normal) (b.at a (.inRegion ops (i :: rest) :: k) :: cs)) w #[] := by
  obtain ⟨o, h1, h2, h3, h4⟩ := op_of ho
  have hb' : fn.body.isNone = false := by rw [hb]; rfl
  rw [stepG_enter h1 (wanted_none h4) hk (run_call_body h2 hf hname hb')]
  have : listed P b.fn a o w = #[] := by unfold listed; rw [events_call_body h2 hf hname hb']; exact seen_none P _
  rw [this]
theorem stepG_close' {x : Operand} {ats : Array TypeId} (ho : opIs ops i = some (.call { callee := .builtin .close, args := #[x], argTypes := ats }, none, none)) (hk : b.kind ≠ .early)
    {c cap s r : Nat} {buf : Array Value} {tm : Bool} (hx : a.eval x = .chan (some c)) (hc : w.heap[c]? = some (.chan cap buf false s r tm)) (hq : (P.funcs[b.fn]?).any (·.norace) = false) :
    stepG P main (G (b.at a (.inRegion ops (i :: rest) :: k)) cs) w = .go (G (b.at a (.inRegion ops rest :: k)) cs) (w.setChan c cap buf true s r tm) (closeEvents c) := by
  obtain ⟨o, h1, h2, h3, h4⟩ := op_of ho
  rw [stepG_close h1 (wanted_none h4) hk h2 hx hc hq, h3]; rfl
theorem served_at {v : Value} : Go.Conc.served (G (b.at a (.inRegion ops (i :: rest) :: k)) cs) v = G (b.at (a.put ((ops[i]?).bind (·.dst)) v) (.inRegion ops rest :: k)) cs := by
  simp only [Go.Conc.served, G, Frame.finish_at]
theorem dst_of {x : Op} (ho : opIs ops i = some (x, d, none)) : (ops[i]?).bind (·.dst) = d := by
  obtain ⟨o, h1, h2, h3, h4⟩ := op_of ho
  rw [h1]; exact h3
/-- defer f(args..) -/
theorem stepG_defer' {f : FuncId} {as : Array Operand} {ats : Array TypeId} (ho : opIs ops i = some (.defer { callee := .value (.func f), args := as, argTypes := ats }, none, none)) (hk : b.kind ≠ .early) :
    stepG P main (G (b.at a (.inRegion ops (i :: rest) :: k)) cs) w = .go (G (b.at ⟨a.tmps, dcall f (as.map a.eval) :: a.defers⟩ (.inRegion ops rest :: k)) cs) w #[] := by
  obtain ⟨o, h1, h2, h3, h4⟩ := op_of ho
  rw [stepG_defer h1 (wanted_none h4) hk h2, h3]; rfl
end

end Go.Cv
