/- Ranks, trees of silent steps, runs that end well, and a communication among many goroutines over open channels without a buffer. -/
import Derived.Test.YtmkgnbcpcfojfaaCvCode
import Derived.Conc.CrowdSel
import Derived.Conc.CrowdTrace
import Derived.Conc.CrowdCom2
import Derived.Conc.Beside
set_option linter.unusedVariables false
set_option linter.unusedSimpArgs false
namespace Go.Cv
open Go.Conc Go.ConcN

/-! ### Ranks -/
inductive Rk where
  | nil
  | node (f : World → Rk)
def Rk.lt : Rk → Rk → Prop
  | r, .node f => ∃ w, r = f w
  | _, .nil => False
theorem Rk.wf : WellFounded Rk.lt := ⟨fun r => by
  induction r with
  | nil => exact ⟨_, fun y h => h.elim⟩
  | node f ih => exact ⟨_, fun y ⟨w, h⟩ => h ▸ ih w⟩⟩
def Rk.ofNat : Nat → Rk
  | 0 => .nil
  | n + 1 => .node fun _ => ofNat n
abbrev Mk := Nat × Rk
def Mk.lt (a b : Mk) : Prop := a.1 < b.1 ∨ (a.1 = b.1 ∧ Rk.lt a.2 b.2)
theorem Mk.wf : WellFounded Mk.lt := ⟨fun ⟨n, r⟩ => by
  induction n using Nat.strongRecOn generalizing r with
  | ind n ihn =>
    induction r using Rk.wf.induction with
    | _ r ihr =>
      refine ⟨_, fun ⟨m, s⟩ h => ?_⟩
      rcases h with h | ⟨h1, h2⟩
      · exact ihn m h s
      · simp only at h1; subst h1; exact ihr s h2⟩
/-- One of the first N falls, the others stand. -/
def Dec (N : Nat) (f' f : Nat → Mk) : Prop := ∃ k, k < N ∧ Mk.lt (f' k) (f k) ∧ ∀ j, j < N → j ≠ k → f' j = f j
theorem Dec.wf : ∀ N, WellFounded (Dec N)
  | 0 => ⟨fun f => ⟨_, fun y ⟨k, h, _⟩ => absurd h (by omega)⟩⟩
  | N + 1 => by
    have ih := Dec.wf N
    have key : ∀ x f, f N = x → Acc (Dec (N + 1)) f := by
      intro x
      induction x using Mk.wf.induction with
      | _ x ihx =>
        intro f
        induction f using ih.induction with
        | _ f ihf =>
          intro hx
          refine ⟨_, fun y hy => ?_⟩
          obtain ⟨k, hk, hlt, ho⟩ := hy
          by_cases e : k = N
          · subst e; exact ihx (y k) (hx ▸ hlt) y rfl
          · exact ihf y ⟨k, by omega, hlt, fun j hj hne => ho j (by omega) hne⟩ ((ho N (by omega) (Ne.symm e)).trans hx)
    exact ⟨fun f => key _ f rfl⟩

/-! ### Trees of silent steps -/
section
variable (P : Program) (ty : Nat) (ext main : Bool) (ro : Nat → Prop) (Stop : Goroutine → World → Prop)
def Tree : Rk → Goroutine → World → Prop
  | .nil, g, W => Stop g W
  | .node f, g, W => Stop g W ∨ (g.status = .running ∧ ∀ w, Sim ty ext W w → ∃ g' w' es W', stepG P main g w = .go g' w' es ∧ Mov ty ro W W' w w' es ∧ Sim ty ext W' w' ∧ (ext = true → w'.heap = w.heap ∧ W' = W) ∧ Tree (f w) g' W')
def TreeJ (g : Goroutine) (W : World) : Prop := ∃ r, Tree P ty ext main ro Stop r g W
end
theorem tree_closed (P : Program) (ty : Nat) (ext main : Bool) (ro : Nat → Prop) (Stop : Goroutine → World → Prop) : Closed P ty ext ⟨main, ro, TreeJ P ty ext main ro Stop⟩ := by
  intro g W hr h
  have h' : ∀ w, ∃ r, Sim ty ext W w → ∃ g' w' es W', stepG P main g w = .go g' w' es ∧ Mov ty ro W W' w w' es ∧ Sim ty ext W' w' ∧ (ext = true → w'.heap = w.heap ∧ W' = W) ∧ Tree P ty ext main ro Stop r g' W' := by
    intro w
    by_cases hs : Sim ty ext W w
    · obtain ⟨g', w', es, W', h1, h2, h3, h4, r, h5⟩ := h w hs
      exact ⟨r, fun _ => ⟨g', w', es, W', h1, h2, h3, h4, h5⟩⟩
    · exact ⟨.nil, fun x => absurd x hs⟩
  exact ⟨.node fun w => (h' w).choose, .inr ⟨hr, fun w hs => (h' w).choose_spec hs⟩⟩
theorem tree_stop {P : Program} {ty : Nat} {ext main : Bool} {ro : Nat → Prop} {Stop : Goroutine → World → Prop} {g : Goroutine} {W : World} (h : Stop g W) : TreeJ P ty ext main ro Stop g W := ⟨.nil, h⟩
theorem tree_mono {P : Program} {ty : Nat} {ext main : Bool} {ro : Nat → Prop} {Stop Stop' : Goroutine → World → Prop} (hm : ∀ g W, Stop g W → Stop' g W) : ∀ {r : Rk} {g : Goroutine} {W : World}, Tree P ty ext main ro Stop r g W → Tree P ty ext main ro Stop' r g W
  | .nil, _, _, h => hm _ _ h
  | .node f, _, _, h => h.imp (hm _ _) fun ⟨hr, h⟩ => ⟨hr, fun w hs => by
      obtain ⟨g', w', es, W', h1, h2, h3, h4, h5⟩ := h w hs
      exact ⟨g', w', es, W', h1, h2, h3, h4, tree_mono hm h5⟩⟩
theorem tree_cases {P : Program} {ty : Nat} {ext main : Bool} {ro : Nat → Prop} {Stop : Goroutine → World → Prop} {r : Rk} {g : Goroutine} {W : World} (h : Tree P ty ext main ro Stop r g W) :
    Stop g W ∨ (g.status = .running ∧ ∀ w, Sim ty ext W w → ∃ g' w' es W' r', Rk.lt r' r ∧ stepG P main g w = .go g' w' es ∧ Mov ty ro W W' w w' es ∧ Sim ty ext W' w' ∧ (ext = true → w'.heap = w.heap ∧ W' = W) ∧ Tree P ty ext main ro Stop r' g' W') := by
  cases r with
  | nil => exact .inl h
  | node f =>
    refine h.imp id fun ⟨hr, h⟩ => ⟨hr, fun w hs => ?_⟩
    obtain ⟨g', w', es, W', h1, h2, h3, h4, h5⟩ := h w hs
    exact ⟨g', w', es, W', f w, ⟨w, rfl⟩, h1, h2, h3, h4, h5⟩

/-! ### A run that ends well -/
section
variable (P : Program) (Post : Value → World → Prop)
def Ev (m : Machine) (t : Trace) : Prop := ∃ N last o w' t', runNT P (N + 1) m t = (.ended o w', t') ∧ runN P N m = .next last ∧ step P last = .ended o w' ∧ Good P Post last o w' t'
end
theorem Ev.next {P : Program} {Post : Value → World → Prop} {m m' : Machine} {t : Trace} {ops : Array MemOp} (h : stepT P m = (.next m', ops)) (he : Ev P Post m' (t ++ ops)) : Ev P Post m t := by
  obtain ⟨N, last, o, w', t', h1, h2, h3, h4⟩ := he
  exact ⟨N + 1, last, o, w', t', by rw [runNT_succ_next h]; exact h1, by rw [runN_succ_next h]; exact h2, h3, h4⟩
theorem Ev.ended {P : Program} {Post : Value → World → Prop} {m : Machine} {t : Trace} {o : Outcome} {w : World} {ops : Array MemOp} (h : stepT P m = (.ended o w, ops)) (hg : Good P Post m o w (t ++ ops)) : Ev P Post m t :=
  ⟨0, m, o, w, t ++ ops, by simp [runNT, h], rfl, by simp [step, h], hg⟩

/-! ### A communication -/
theorem choose_ok (P : Program) (q : Question) (w : World) (n : Nat) (hn : 0 < n) (hq : (∃ s, q = .extern s n) ∨ q = .select n) : ∃ a d, a < n ∧ (choose q).run P w = .ok a (w.at d) := by
  rw [run_choose]
  by_cases hf : q.forced = true
  · rw [if_pos hf]; exact ⟨0, w.drawn, hn, rfl⟩
  · rw [if_neg hf]
    refine ⟨_, w.drawn + 1, ?_, rfl⟩
    rcases hq with ⟨s, rfl⟩ | rfl
    · simp only [Question.cut]
      rw [if_neg (by omega)]; exact Nat.mod_lt _ hn
    · exact Nat.mod_lt _ hn

/-- One of the four words of a meeting. -/
def MeetAct (c : Nat) (a : MemAct) : Prop := (∃ s, a = .send c s) ∨ (∃ s, a = .sendDone c s) ∨ (∃ s k, a = .recv c s k) ∨ (∃ s, a = .recvDone c s)

/-- The four words of a meeting of a, who sends, and b. -/
def Met (c s r a b : Nat) (ops : Array MemOp) : Prop :=
  ∃ x0 x1 x2 x3 : MemOp, ops = #[x0, x1, x2, x3] ∧ (x0.g = a ∧ x0.act = .send c s) ∧ (x1.g = b ∧ x1.act = .recv c r 0) ∧ (x2.g = a ∧ x2.act = .sendDone c s) ∧ (x3.g = b ∧ x3.act = .recvDone c r)

theorem mem_offersAt {x : Goroutine} {c : Nat} {send : Bool} {k : Nat} (h : k ∈ offersAt x c send) :
    x.status = .blocked ∧ ∃ cs sh cc, x.offers = some (cs, sh) ∧ cs[k]? = some cc ∧ cc.send.isSome = send ∧ cc.chan = .chan (some c) := by
  unfold offersAt at h
  split at h
  · rename_i cs sh h1 h2
    simp only [List.mem_map, List.mem_filter, Bool.and_eq_true, beq_iff_eq, Prod.exists] at h
    obtain ⟨cc, k', ⟨hm, hs, hch⟩, rfl⟩ := h
    refine ⟨h1, cs, sh, cc, h2, mem_of_zipIdx hm, hs, ?_⟩
    split at hch
    · rename_i r' e; rw [e, beq_iff_eq.1 hch]
    · cases hch
  · cases h

section
variable {P : Program} {gs : Array Goroutine} {w w₁ : World} {sl : Option (Nat × Nat)} {i : Nat} {g g₂ : Goroutine} {es : Array Event} {cases : Array CommCase} {shape : CommShape}

theorem comm_open (hi : gs[i]? = some g) (h : stepG P (i == 0) g w = .comm g₂ cases true shape w₁ es)
    (hok : ∀ cc ∈ cases, cc.chan = .chan none ∨ ∃ c s r, cc.chan = .chan (some c) ∧ w₁.heap[c]? = some (.chan 0 #[] false s r false)) :
    ((∀ cc ∈ cases, NoWays w₁ (gs.setIfInBounds i ph) cc) ∧ runT P (crowd gs w sl) i = (.next (crowd (gs.setIfInBounds i (parked g₂ cases shape)) w₁ sl), MemOp.ofEvents i g.frame.fn g.frame.place es)) ∨
    ∃ (k : Nat) (cc : CommCase) (c s r j : Nat) (x : Goroutine) (csj : Array CommCase) (shj : CommShape) (kj : Nat) (ccj : CommCase) (d : Nat) (ops : Array MemOp), cases[k]? = some cc ∧ cc.chan = .chan (some c) ∧ w₁.heap[c]? = some (.chan 0 #[] false s r false) ∧ j ≠ i ∧ gs[j]? = some x ∧ x.status = .blocked ∧ x.offers = some (csj, shj) ∧
      csj[kj]? = some ccj ∧ ccj.chan = .chan (some c) ∧ ccj.send.isSome = cc.send.isNone ∧ ((∀ op ∈ ops, (op.g = i ∨ op.g = j) ∧ MeetAct c op.act) ∧ Met c s r (bif cc.send.isSome then i else j) (bif cc.send.isSome then j else i) ops) ∧
      runT P (crowd gs w sl) i = (.next (crowd ((gs.setIfInBounds j (x.finishComm P csj shj kj (cc.send.getD undef) cc.send.isSome)).setIfInBounds i (g₂.finishComm P cases shape k (ccj.send.getD undef) cc.send.isNone))
        ((w₁.at d).setChan c 0 #[] false (s + 1) (r + 1) false) sl), MemOp.ofEvents i g.frame.fn g.frame.place es ++ ops) := by
  have hmade : ∀ cc ∈ cases, illMade w₁ cc = false := by
    intro cc hcc
    rcases hok cc hcc with hn | ⟨c, s, r, hc, hh⟩
    · simp [illMade, hn]
    · simp [illMade, hc, hh]
  by_cases hall : ∀ cc ∈ cases, NoWays w₁ (gs.setIfInBounds i ph) cc
  · exact .inl ⟨hall, crowd_waits hi h hall⟩
  right
  generalize hrd : ((cases.zipIdx.toList.map fun (c, k) => (k, c, ways w₁ (gs.setIfInBounds i ph) c)).filter fun (_, _, ws) => !ws.isEmpty) = ready
  have hne : ready ≠ [] := by
    intro e
    apply hall
    intro cc hcc
    refine ⟨hmade cc hcc, ?_⟩
    obtain ⟨k, hk, e1⟩ := Array.mem_iff_getElem.1 hcc
    have hm : (cc, k) ∈ cases.zipIdx.toList := Array.mem_toList_iff.2 (Array.mem_zipIdx_iff_getElem?.2 (by simp [hk, e1]))
    rw [e] at hrd
    have := List.filter_eq_nil_iff.1 hrd (k, cc, ways w₁ (gs.setIfInBounds i ph) cc) (List.mem_map.2 ⟨(cc, k), hm, rfl⟩)
    simpa using this
  have hlen : 0 < ready.length := List.length_pos_iff.2 hne
  obtain ⟨a, d1, ha, hca⟩ := choose_ok P (.select ready.length) w₁ ready.length hlen (.inr rfl)
  obtain ⟨⟨k, cc, ws⟩, hget⟩ : ∃ p, ready[a]? = some p := ⟨ready[a], List.getElem?_eq_getElem ha⟩
  have hmem : (k, cc, ws) ∈ ready := List.mem_of_getElem? hget
  rw [← hrd] at hmem
  simp only [List.mem_filter, List.mem_map, Prod.exists, Prod.mk.injEq] at hmem
  obtain ⟨⟨cc', k', hz, rfl, rfl, rfl⟩, hws⟩ := hmem
  have hk : cases[k']? = some cc' := mem_of_zipIdx hz
  have hcc : cc' ∈ cases := Array.mem_of_getElem? hk
  obtain ⟨c, s, r, hc, hh⟩ : ∃ c s r, cc'.chan = .chan (some c) ∧ w₁.heap[c]? = some (.chan 0 #[] false s r false) := by
    rcases hok cc' hcc with hn | hx
    · simp [ways, hn] at hws
    · exact hx
  -- the ways
  have hways : ways w₁ (gs.setIfInBounds i ph) cc' = (partners (gs.setIfInBounds i ph) c cc'.send.isNone).map fun (h, k) => Way.partner h k := by
    unfold ways
    rw [hc]
    simp only [hh]
    cases hs : cc'.send with
    | some v =>
      simp only [Bool.false_eq_true, if_false, Option.isNone_some]
      cases partners (gs.setIfInBounds i ph) c false with
      | nil => simp
      | cons p ps => simp
    | none =>
      simp only [Option.isNone_none]
      rw [if_neg (by simp)]
      cases partners (gs.setIfInBounds i ph) c true with
      | nil => simp
      | cons p ps => simp
  generalize hps : partners (gs.setIfInBounds i ph) c cc'.send.isNone = ps at hways
  have hpl : 0 < ps.length := by
    cases ps with
    | nil => rw [hways] at hws; simp at hws
    | cons p ps => simp
  obtain ⟨b, d2, hb, hcb⟩ := choose_ok P (.extern "which waiting goroutine is the partner" ps.length) (w₁.at d1) ps.length hpl (.inl ⟨_, rfl⟩)
  obtain ⟨⟨j, kj⟩, hjk⟩ : ∃ p, ps[b]? = some p := ⟨ps[b], List.getElem?_eq_getElem hb⟩
  have hmp : (j, kj) ∈ partners (gs.setIfInBounds i ph) c cc'.send.isNone := hps ▸ List.mem_of_getElem? hjk
  obtain ⟨x, hx, hkx⟩ := mem_partners.1 hmp
  obtain ⟨hbl, csj, shj, ccj, hof, hkj, hsd, hch⟩ := mem_offersAt hkx
  obtain ⟨hji, hxj⟩ : j ≠ i ∧ gs[j]? = some x := by
    rcases getElem?_stand gs i j x hx with ⟨_, rfl⟩ | h'
    · simp [ph] at hbl
    · exact h'
  have hfp : ∀ v, finishPartner P (gs.setIfInBounds i ph) j kj v = (gs.setIfInBounds i ph).setIfInBounds j (x.finishComm P csj shj kj v cc'.send.isSome) := by
    intro v
    rw [finishPartner_at P _ hx hof kj v, hkj]
    congr 2
    cases h1 : cc'.send <;> cases h2 : ccj.send <;> simp_all
  have hgd : (gs.setIfInBounds i ph).getD j default = x := by rw [Array.getD_eq_getD_getElem?, hx]; rfl
  have hov : offeredValue (gs.setIfInBounds i ph) j kj = ccj.send.getD undef := by simp [offeredValue, hx, hof, hkj]
  have hgetD : ready.getD a (0, default, []) = (k', cc', ways w₁ (gs.setIfInBounds i ph) cc') := by simp [List.getD, hget]
  have hwl : (ways w₁ (gs.setIfInBounds i ph) cc').length = ps.length := by rw [hways]; simp
  have hwd : (ways w₁ (gs.setIfInBounds i ph) cc').getD b .closed = .partner j kj := by rw [hways]; exact getD_map_partner ps b (j, kj) hjk
  have hre : ready.isEmpty = false := by cases ready with
    | nil => exact absurd rfl hne
    | cons _ _ => rfl
  have hh2 : ((w₁.at d1).at d2).heap[c]? = some (.chan 0 #[] false s r false) := hh
  cases hs : cc'.send with
  | some v =>
    refine ⟨k', cc', c, s, r, j, x, csj, shj, kj, ccj, d2, #[{ g := i, fn := g₂.frame.fn, pos := g₂.frame.place, act := .send c s }, { g := j, fn := x.frame.fn, pos := x.frame.place, act := .recv c r 0 }, { g := i, fn := g₂.frame.fn, pos := g₂.frame.place, act := .sendDone c s }, { g := j, fn := x.frame.fn, pos := x.frame.place, act := .recvDone c r }], hk, hc, hh, hji, hxj, hbl, hof, hkj, hch, by rw [hsd], ⟨?_, by rw [hs]; exact ⟨_, _, _, _, rfl, ⟨rfl, rfl⟩, ⟨rfl, rfl⟩, ⟨rfl, rfl⟩, ⟨rfl, rfl⟩⟩⟩, ?_⟩
    · intro op hop
      simp only [List.mem_toArray, List.mem_cons, List.not_mem_nil, or_false] at hop
      rcases hop with rfl | rfl | rfl | rfl
      · exact ⟨.inl rfl, .inl ⟨_, rfl⟩⟩
      · exact ⟨.inr rfl, .inr (.inr (.inl ⟨_, _, rfl⟩))⟩
      · exact ⟨.inl rfl, .inr (.inl ⟨_, rfl⟩)⟩
      · exact ⟨.inr rfl, .inr (.inr (.inr ⟨_, rfl⟩))⟩
    · have hsj : ccj.send.getD undef = undef := by
        rw [hs] at hsd
        cases h2 : ccj.send with
        | none => rfl
        | some _ => rw [h2] at hsd; cases hsd
      rw [runT_crowd_comm hi h]
      unfold communicate
      simp only [hrd, hre]
      rw [if_neg (by rw [Bool.not_eq_true]; exact any_ill hmade)]
      simp only [Bool.false_eq_true, if_false, Sem.run_bind, Result.andThen_ok, hca, hgetD, hwl, hcb, hwd, Sem.run_pure, hc, hh2, hs, hfp, hgd]
      simp [hsj, set_stand2, World.setChan, crowd, World.at, hs]
  | none =>
    refine ⟨k', cc', c, s, r, j, x, csj, shj, kj, ccj, d2, #[{ g := j, fn := x.frame.fn, pos := x.frame.place, act := .send c s }, { g := i, fn := g₂.frame.fn, pos := g₂.frame.place, act := .recv c r 0 }, { g := j, fn := x.frame.fn, pos := x.frame.place, act := .sendDone c s }, { g := i, fn := g₂.frame.fn, pos := g₂.frame.place, act := .recvDone c r }], hk, hc, hh, hji, hxj, hbl, hof, hkj, hch, by rw [hsd], ⟨?_, by rw [hs]; exact ⟨_, _, _, _, rfl, ⟨rfl, rfl⟩, ⟨rfl, rfl⟩, ⟨rfl, rfl⟩, ⟨rfl, rfl⟩⟩⟩, ?_⟩
    · intro op hop
      simp only [List.mem_toArray, List.mem_cons, List.not_mem_nil, or_false] at hop
      rcases hop with rfl | rfl | rfl | rfl
      · exact ⟨.inr rfl, .inl ⟨_, rfl⟩⟩
      · exact ⟨.inl rfl, .inr (.inr (.inl ⟨_, _, rfl⟩))⟩
      · exact ⟨.inr rfl, .inr (.inl ⟨_, rfl⟩)⟩
      · exact ⟨.inl rfl, .inr (.inr (.inr ⟨_, rfl⟩))⟩
    · rw [runT_crowd_comm hi h]
      unfold communicate
      simp only [hrd, hre]
      rw [if_neg (by rw [Bool.not_eq_true]; exact any_ill hmade)]
      simp only [Bool.false_eq_true, if_false, Sem.run_bind, Result.andThen_ok, hca, hgetD, hwl, hcb, hwd, Sem.run_pure, hc, hh2, hs, hfp, hgd, hov]
      simp [set_stand2, World.setChan, crowd, World.at, hs]
end
end Go.Cv
