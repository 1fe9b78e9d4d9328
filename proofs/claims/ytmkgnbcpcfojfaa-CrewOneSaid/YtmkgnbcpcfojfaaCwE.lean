/- The loop that deals the jobs out. -/
import Derived.Test.YtmkgnbcpcfojfaaCwD
set_option linter.unusedVariables false
set_option linter.unusedSimpArgs false
namespace Go.Cv
open Go.Conc Go.ConcN

def selCases (C : Wk) (a e : Nat) (zE zR : Value) : Array CommCase := #[{ chan := .chan (if a < e then some C.T else none), send := some (.int .i64 a), zero := zE }, rcase C.R zR]
/-- What goroutine 0 does around its select: a: the next job; b: how many are waited for; e, c: the first job known to fail, and how. -/
structure MainOk (C : Wk) (n N : Nat) where
  SelG : Nat → Nat → Nat → Int → Goroutine → Prop
  ExitG : Nat → Int → Goroutine → Prop
  Inv : (Nat → Prop) → Nat → Int → World → Prop
  zE : Value
  zR : Value
  step : ∀ {a b e c g}, SelG a b e c g → g.status = .running ∧ ∀ w, stepG C.P true g w = .comm g (selCases C a e zE zR) true .select w #[]
  gave : ∀ {a b e c g MV D}, SelG a b e c g → Inv D e c MV → a < e → e ≤ N → b ≤ n → ∀ co : Co, Closed C.P C.ty false co → co.main = true → (∀ g', SelG (a + 1) (b + 1) e c g' → co.J g' MV) → co.J (Go.Conc.served g (.tuple #[goInt 0, .bool false, zR])) MV
  got : ∀ {a b e c g MV D i}, SelG a b e c g → 0 < b → b ≤ n → Inv D e c MV → View0 C MV → i < a → a ≤ N → e ≤ N → ∀ co : Co, Closed C.P C.ty false co → co.main = true → co.ro = roC C n →
    (∀ g' MV' e' c', Inv (fun x => D x ∨ x = i) e' c' MV' → e' ≤ e → (a < e' ∨ 0 < b - 1 → SelG a (b - 1) e' c' g') → (¬ (a < e' ∨ 0 < b - 1) → ExitG e' c' g') → co.J g' MV') → co.J (Go.Conc.served g (.tuple #[goInt 1, .bool true, C.res i])) MV

def one? (o : Option Nat) : Nat := if o.isSome then 1 else 0
def Bz (n a b : Nat) (D : Nat → Prop) (job : Nat → Option Nat) : Prop :=
  sumTo n (fun k => one? (job k)) = b ∧ (∀ k, k < n → ∀ i, job k = some i → i < a) ∧ ∀ i, i < a → D i ∨ ∃ k, k < n ∧ job k = some i
theorem jobs_upd (S : Nat → Sit) (k0 : Nat) (s : Sit) : (fun k => (updS S k0 s k).job) = upd (fun k => (S k).job) k0 s.job := by
  funext k
  by_cases e : k = k0
  · subst e; rw [updS_same, upd_same]
  · rw [updS_ne S s e, upd_ne _ _ e]
theorem Bz.give {n a b k0 : Nat} {D : Nat → Prop} {job : Nat → Option Nat} (h : Bz n a b D job) (hk : k0 < n) (hj : job k0 = none) : Bz n (a + 1) (b + 1) D (upd job k0 (some a)) := by
  obtain ⟨h1, h2, h3⟩ := h
  refine ⟨?_, fun k hkn i hi => ?_, fun i hi => ?_⟩
  · have := sumTo_upd job (some a) one? hk
    simp only [hj] at this
    have e1 : one? none = 0 := rfl
    have e2 : one? (some a) = 1 := rfl
    omega
  · by_cases e : k = k0
    · subst e; rw [upd_same] at hi; cases hi; omega
    · rw [upd_ne _ _ e] at hi; have := h2 k hkn i hi; omega
  · by_cases e : i = a
    · subst e; exact .inr ⟨k0, hk, upd_same _ _ _⟩
    · rcases h3 i (by omega) with h | ⟨k, hkn, hjk⟩
      · exact .inl h
      · refine .inr ⟨k, hkn, ?_⟩
        rw [upd_ne _ _ (by rintro rfl; rw [hj] at hjk; cases hjk)]; exact hjk
theorem Bz.got {n a b k0 i0 : Nat} {D : Nat → Prop} {job : Nat → Option Nat} (h : Bz n a b D job) (hk : k0 < n) (hj : job k0 = some i0) : 0 < b ∧ i0 < a ∧ Bz n a (b - 1) (fun x => D x ∨ x = i0) (upd job k0 none) := by
  obtain ⟨h1, h2, h3⟩ := h
  have e1 : one? (job k0) = 1 := by rw [hj]; rfl
  have hb : 0 < b := by have h9 : one? (job k0) ≤ sumTo n fun k => one? (job k) := le_sumTo (f := fun k => one? (job k)) hk; omega
  refine ⟨hb, h2 k0 hk i0 hj, ?_, fun k hkn i hi => ?_, fun i hi => ?_⟩
  · have := sumTo_upd job none one? hk
    have e2 : one? (none : Option Nat) = 0 := rfl
    omega
  · by_cases e : k = k0
    · subst e; rw [upd_same] at hi; cases hi
    · rw [upd_ne _ _ e] at hi; exact h2 k hkn i hi
  · rcases h3 i hi with h | ⟨k, hkn, hjk⟩
    · exact .inl (.inl h)
    · by_cases e : k = k0
      · subst e; rw [hj] at hjk; cases hjk; exact .inl (.inr rfl)
      · exact .inr ⟨k, hkn, by rw [upd_ne _ _ e]; exact hjk⟩
theorem sumTo_pos {n : Nat} {f : Nat → Nat} (h : 0 < sumTo n f) : ∃ k, k < n ∧ 0 < f k := by
  induction n with
  | zero => simp [sumTo] at h
  | succ n ih =>
    simp only [sumTo] at h
    rcases Nat.eq_zero_or_pos (f n) with e | e
    · obtain ⟨k, hk, hf⟩ := ih (by omega); exact ⟨k, by omega, hf⟩
    · exact ⟨n, by omega, e⟩
theorem sumTo_le_one {n : Nat} {job : Nat → Option Nat} : sumTo n (fun k => one? (job k)) ≤ n := by
  have := sumTo_le (f := fun k => one? (job k)) (c := 1) (j := n) fun i _ => by simp only [one?]; split <;> omega
  omega

theorem fin_sel0 (P : Program) (C : Wk) (g : Goroutine) (a e : Nat) (zE zR : Value) : g.finishComm P (selCases C a e zE zR) .select ((0 : Nat) : Int) undef false = Go.Conc.served g (.tuple #[goInt 0, .bool false, zR]) := by
  simp [Goroutine.finishComm, commResult, selCases, rcase, Go.Conc.served]
theorem fin_sel1 (P : Program) (C : Wk) (g : Goroutine) (a e : Nat) (zE zR v : Value) : g.finishComm P (selCases C a e zE zR) .select ((1 : Nat) : Int) v true = Go.Conc.served g (.tuple #[goInt 1, .bool true, v]) := by
  simp [Goroutine.finishComm, commResult, selCases, rcase, Go.Conc.served]

section
variable {C : Wk} {N n : Nat} {X : Option Obj → Prop}

theorem sel_awake {g : Goroutine} {cs : Array CommCase} {sh : CommShape} : awake (parked g cs sh) := awake_of (.inr (.inl rfl))

theorem ofEvents_nil {g : Nat} {fn : FuncId} {pl : String} {u : Array MemOp} : MemOp.ofEvents g fn pl #[] ++ u = u := by simp [ofEvents_eq]
set_option maxHeartbeats 1000000 in
/-- Goroutine 0 comes to its select: what follows when a job is given, and when a result comes, being known. -/
theorem sel_at (H : WkOk C N) {zE zR : Value} {a b e : Nat} {D : Nat → Prop} {g : Goroutine} {MV : World} (hgo : a < e ∨ 0 < b) (hn : a < e → 0 < n) (hrun : g.status = .running) (hcm : ∀ w, stepG C.P true g w = .comm g (selCases C a e zE zR) true .select w #[])
    (give_ev : ∀ (gs : Array Goroutine) (w : World) (sl : Option (Nat × Nat)) (t u : Trace) (rk : Nat → Mk) (S : Nat → Sit) (k0 s r dd : Nat) (y : Goroutine), MS C n 0 X S MV gs w t rk → Bz n a b D (fun k => (S k).job) → 0 < gs.size → k0 < n → (S k0).job = none → C.RecvG y → a < e →
      w.heap[C.T]? = some (.chan 0 #[] false s r false) → (∀ op ∈ u, (op.g = 0 ∨ op.g = C.m + k0) ∧ MeetAct C.T op.act) → Met C.T s r 0 (C.m + k0) u →
      Ev C.P C.Post (crowd ((gs.setIfInBounds (C.m + k0) (Go.Conc.served y (.tuple #[.int .i64 a, .bool true]))).setIfInBounds 0 (Go.Conc.served g (.tuple #[goInt 0, .bool false, zR]))) ((w.at dd).setChan C.T 0 #[] false (s + 1) (r + 1) false) sl) (t ++ u))
    (got_ev : ∀ (gs : Array Goroutine) (w : World) (sl : Option (Nat × Nat)) (t u : Trace) (rk : Nat → Mk) (S : Nat → Sit) (k0 i0 s r dd : Nat) (y : Goroutine), MS C n 0 X S MV gs w t rk → Bz n a b D (fun k => (S k).job) → 0 < gs.size → k0 < n → (S k0).job = some i0 → C.SendG i0 y →
      w.heap[C.R]? = some (.chan 0 #[] false s r false) → (∀ op ∈ u, (op.g = 0 ∨ op.g = C.m + k0) ∧ MeetAct C.R op.act) →
      Ev C.P C.Post (crowd ((gs.setIfInBounds (C.m + k0) (Go.Conc.served y undef)).setIfInBounds 0 (Go.Conc.served g (.tuple #[goInt 1, .bool true, C.res i0]))) ((w.at dd).setChan C.R 0 #[] false (s + 1) (r + 1) false) sl) (t ++ u)) : JM C n 0 X (Bz n a b D) g MV := by
  have c0T : (if a < e then some C.T else none) = some C.T → a < e := by intro h; split at h; assumption; cases h
  -- goroutine 0 waits
  have parked_ev : ∀ (rk : Nat → Mk) (gs : Array Goroutine) (w : World) (sl : Option (Nat × Nat)) (t : Trace) (S : Nat → Sit), gs[0]? = some (parked g (selCases C a e zE zR) .select) → MS C n 0 X S MV gs w t rk → Bz n a b D (fun k => (S k).job) →
      (∀ k, k < n → (S k).parked = true → (S k).job = none ∧ ¬ a < e) → Ev C.P C.Post (crowd gs w sl) t := by
    intro rk
    induction rk using (Dec.wf (C.m + n)).induction with
    | _ rk ihr =>
    intro gs w sl t S h0 ms hB hpk
    have hlt0 : 0 < gs.size := (Array.getElem?_eq_some_iff.1 h0).1
    have hsome : ∃ k, k < n ∧ (S k).parked = false := by
      by_cases hae : a < e
      · refine ⟨0, hn hae, ?_⟩
        cases hp : (S 0).parked with
        | false => rfl
        | true => exact absurd hae (hpk 0 (hn hae) hp).2
      · have hb : 0 < sumTo n (fun k => one? (S k).job) := by have := hB.1; simp only at this; rcases hgo with h | h; exact absurd h hae; omega
        obtain ⟨k, hk, hf⟩ := sumTo_pos hb
        refine ⟨k, hk, ?_⟩
        cases hp : (S k).parked with
        | false => rfl
        | true => rw [(hpk k hk hp).1] at hf; simp [one?] at hf
    obtain ⟨k, hk, hkp⟩ := hsome
    obtain ⟨gk, hgk, hsk⟩ := ms.wk k hk
    obtain ⟨i, gi, ee, sl', hi, hgi, hst⟩ := crowd_pick (P := C.P) (w := w) (sl := sl) (ms.awake H h0 sel_awake) ⟨C.m + k, gk, hgk, tree_run H hsk hkp⟩
    have ms' := ms.at ee
    rcases Nat.eq_zero_or_pos i with rfl | hpos
    · rw [h0] at hi; cases hi; cases hgi
    have hi0 : (i == 0) = false := by simp; omega
    have hfix : ∀ a' a'' w', Sim C.ty false MV w' → woken C.P a' a'' w' (parked g (selCases C a e zE zR) .select) = parked g (selCases C a e zE zR) .select := by
      intro a' a'' w' hs
      have v := ms.v0 (ms.on (by omega))
      obtain ⟨s1, r1, hT⟩ := open_of hs v.chT
      obtain ⟨s2, r2, hR⟩ := open_of hs v.chR
      unfold woken
      split
      · by_cases hae : a < e
        · simp [Goroutine.again, parked, selCases, hae, hT, rcase, hR]
        · simp [Goroutine.again, parked, selCases, hae, rcase, hR]
      · rfl
    -- whom a worker at a channel meets
    have meets : ∀ {k j : Nat} {y : Goroutine} {cc : CommCase} {cs : Array CommCase} {sh : CommShape} {kj : Nat} {ccj : CommCase} {c' : Nat} {x : Goroutine}, (c' = C.T ∧ cc = rcase C.T C.zT) ∨ (∃ i0, c' = C.R ∧ cc = scase C.R (C.res i0) C.zS) →
        gs[j]? = some x → x.status = .blocked → x.offers = some (cs, sh) → cs[kj]? = some ccj → ccj.chan = .chan (some c') → ccj.send.isSome = cc.send.isNone → j = 0 := by
      intro k j y cc cs sh kj ccj c' x hcc hx hb ho hk' hch hsd
      rcases Nat.eq_zero_or_pos j with h | hjp
      · exact h
      exfalso
      rcases ms.who hjp hx with ⟨_, q, hq, _⟩ | ⟨k', hk1, rfl, hs'⟩
      · rcases hq.status with h | h <;> rw [h] at hb <;> cases hb
      · rcases sit_offers H hs' hb ho hk' with ⟨_, y', _, _, _, _, _, rfl⟩ | ⟨i', _, y', _, _, _, _, _, rfl⟩
        · simp only [rcase, Value.chan.injEq, Option.some.injEq, Option.isSome_none] at hch hsd
          rcases hcc with ⟨h1, rfl⟩ | ⟨i0, h1, rfl⟩
          · cases hsd
          · exact H.ne (hch.trans h1)
        · simp only [scase, Value.chan.injEq, Option.some.injEq, Option.isSome_some] at hch hsd
          rcases hcc with ⟨h1, rfl⟩ | ⟨i0, h1, rfl⟩
          · exact H.ne (hch.trans h1).symm
          · cases hsd
    rcases ms'.others H (sl := sl') hpos hi hgi h0 hfix with ⟨gs', ops, rk', S', w', h1, h2, h3, h4, h5, h6, h7⟩ | ⟨k0, hk0, rfl, hj0, hy, hne⟩ | ⟨k0, i0, hk0, rfl, hj0, hy, hne⟩
    · refine .next (hst.trans h1) (ihr rk' (by rw [ms.size] at h3; exact h3) gs' w' sl' _ S' h4 h2 (by rw [h6]; exact hB) fun k' hk' hp => ?_)
      have hjob : (S' k').job = (S k').job := congrFun h6 k'
      rw [hjob]
      rcases h7 k' hp with h | ⟨hx, hoff⟩ | ⟨hx, hoff⟩
      · exact hpk k' hk' h
      · refine ⟨hx, fun hae => ?_⟩
        have : offersAt (parked g (selCases C a e zE zR) .select) C.T true = [0] := by
          simp [offersAt, parked, selCases, hae, rcase, H.ne]
        rw [this] at hoff; cases hoff
      · exfalso
        have : offersAt (parked g (selCases C a e zE zR) .select) C.R false = [1] := by
          by_cases hae : a < e <;> simp [offersAt, parked, selCases, hae, rcase]
        rw [this] at hoff; cases hoff
    · -- a worker asks for a job
      obtain ⟨_, hcmk⟩ := H.recv_step gi hy
      have v := ms.v0 (ms.on (by omega))
      obtain ⟨s1, r1, hT⟩ := open_of ms'.sim v.chT
      rcases comm_open (sl := sl') hi (by rw [hi0]; exact hcmk (w.at ee)) (fun cc hcc => by
          have : cc = rcase C.T C.zT := by simpa using hcc
          subst this; exact .inr ⟨C.T, s1, r1, rfl, hT⟩) with ⟨hno, _⟩ | ⟨kk, cc, c', s2, r2, j, x, csj, shj, kj, ccj, d2, ops, q1, q2, q3, q4, q5, q6, q7, q8, q9, q10, ⟨q11, q13⟩, q12⟩
      · exfalso
        obtain ⟨_, hw⟩ := hno (rcase C.T C.zT) (by simp)
        obtain ⟨kj, hkj⟩ := List.exists_mem_of_ne_nil _ hne
        have : (0, kj) ∈ partners (gs.setIfInBounds (C.m + k0) ph) C.T true := mem_partners.2 ⟨_, by rw [Array.getElem?_setIfInBounds_ne (by omega)]; exact h0, hkj⟩
        simp only [ways, rcase] at hw
        rw [hT] at hw
        simp only [] at hw
        cases hps : partners (gs.setIfInBounds (C.m + k0) ph) C.T true with
        | nil => rw [hps] at this; cases this
        | cons p ps => rw [hps] at hw; simp at hw
      · obtain ⟨rfl, rfl⟩ : kk = 0 ∧ cc = rcase C.T C.zT := by
          cases kk with
          | zero => exact ⟨rfl, by simpa using q1.symm⟩
          | succ kk => simp at q1
        obtain rfl : c' = C.T := by simpa [rcase] using q2.symm
        obtain rfl := meets (k := k0) (y := gi) (.inl ⟨rfl, rfl⟩) q5 q6 q7 q8 q9 q10
        rw [h0] at q5
        cases q5
        simp only [parked, Option.some.injEq, Prod.mk.injEq] at q7
        obtain ⟨rfl, rfl⟩ := q7
        have hk0j : kj = 0 := by
          match kj, q8 with
          | 0, _ => rfl
          | 1, q8 =>
            simp [selCases, rcase] at q8
            subst q8
            simp [rcase] at q10
          | kj + 2, q8 => simp [selCases] at q8
        subst hk0j
        simp [selCases] at q8
        subst q8
        simp only [Value.chan.injEq] at q9
        have hae := c0T q9
        rw [set_comm _ (by omega : 0 ≠ C.m + k0)] at q12
        have e1 : Goroutine.finishComm C.P (parked g (selCases C a e zE zR) .select) (selCases C a e zE zR) .select ((0 : Nat) : Int) ((rcase C.T C.zT).send.getD undef) (rcase C.T C.zT).send.isSome = Go.Conc.served g (.tuple #[goInt 0, .bool false, zR]) := fin_sel0 C.P C g a e zE zR
        have e2 : Goroutine.finishComm C.P gi #[rcase C.T C.zT] (.recv true) ((0 : Nat) : Int) (.int .i64 a) true = Go.Conc.served gi (.tuple #[.int .i64 a, .bool true]) := served_recv _ _ _ _ _ _ _
        refine .next (hst.trans q12) ?_
        have := give_ev gs (w.at ee) sl' t (MemOp.ofEvents (C.m + k0) gi.frame.fn gi.frame.place #[] ++ ops) rk S k0 s2 r2 d2 gi ms' hB hlt0 hk0 hj0 hy hae q3 (fun op hop => by
          rcases Array.mem_append.1 hop with h | h
          · simp [ofEvents_eq] at h
          · exact ⟨(q11 op h).1.symm, (q11 op h).2⟩) (by rw [ofEvents_nil]; exact q13)
        rw [← e1, ← e2] at this
        exact this
    · -- a worker brings a result
      obtain ⟨_, hcmk⟩ := H.send_step i0 gi hy
      have v := ms.v0 (ms.on (by omega))
      obtain ⟨s1, r1, hR⟩ := open_of ms'.sim v.chR
      rcases comm_open (sl := sl') hi (by rw [hi0]; exact hcmk (w.at ee)) (fun cc hcc => by
          have : cc = scase C.R (C.res i0) C.zS := by simpa using hcc
          subst this; exact .inr ⟨C.R, s1, r1, rfl, hR⟩) with ⟨hno, _⟩ | ⟨kk, cc, c', s2, r2, j, x, csj, shj, kj, ccj, d2, ops, q1, q2, q3, q4, q5, q6, q7, q8, q9, q10, ⟨q11, q13⟩, q12⟩
      · exfalso
        obtain ⟨_, hw⟩ := hno (scase C.R (C.res i0) C.zS) (by simp)
        obtain ⟨kj, hkj⟩ := List.exists_mem_of_ne_nil _ hne
        have : (0, kj) ∈ partners (gs.setIfInBounds (C.m + k0) ph) C.R false := mem_partners.2 ⟨_, by rw [Array.getElem?_setIfInBounds_ne (by omega)]; exact h0, hkj⟩
        simp only [ways, scase] at hw
        rw [hR] at hw
        simp only [Bool.false_eq_true, if_false] at hw
        cases hps : partners (gs.setIfInBounds (C.m + k0) ph) C.R false with
        | nil => rw [hps] at this; cases this
        | cons p ps => rw [hps] at hw; simp at hw
      · obtain ⟨rfl, rfl⟩ : kk = 0 ∧ cc = scase C.R (C.res i0) C.zS := by
          cases kk with
          | zero => exact ⟨rfl, by simpa using q1.symm⟩
          | succ kk => simp at q1
        obtain rfl : c' = C.R := by simpa [scase] using q2.symm
        obtain rfl := meets (k := k0) (y := gi) (.inr ⟨i0, rfl, rfl⟩) q5 q6 q7 q8 q9 q10
        rw [h0] at q5
        cases q5
        simp only [parked, Option.some.injEq, Prod.mk.injEq] at q7
        obtain ⟨rfl, rfl⟩ := q7
        have hk0j : kj = 1 := by
          match kj, q8 with
          | 0, q8 =>
            simp [selCases, rcase] at q8
            subst q8
            simp [scase] at q10
          | 1, _ => rfl
          | kj + 2, q8 => simp [selCases] at q8
        subst hk0j
        simp [selCases] at q8
        subst q8
        rw [set_comm _ (by omega : 0 ≠ C.m + k0)] at q12
        have e1 : Goroutine.finishComm C.P (parked g (selCases C a e zE zR) .select) (selCases C a e zE zR) .select ((1 : Nat) : Int) ((scase C.R (C.res i0) C.zS).send.getD undef) (scase C.R (C.res i0) C.zS).send.isSome = Go.Conc.served g (.tuple #[goInt 1, .bool true, C.res i0]) := fin_sel1 C.P C g a e zE zR _
        have e2 : Goroutine.finishComm C.P gi #[scase C.R (C.res i0) C.zS] .send ((0 : Nat) : Int) undef false = Go.Conc.served gi undef := rfl
        refine .next (hst.trans q12) ?_
        have := got_ev gs (w.at ee) sl' t (MemOp.ofEvents (C.m + k0) gi.frame.fn gi.frame.place #[] ++ ops) rk S k0 i0 s2 r2 d2 gi ms' hB hlt0 hk0 hj0 hy q3 (fun op hop => by
          rcases Array.mem_append.1 hop with h | h
          · simp [ofEvents_eq] at h
          · exact ⟨(q11 op h).1.symm, (q11 op h).2⟩)
        rw [← e1, ← e2] at this
        exact this
  -- goroutine 0 comes to its select
  refine jk_step H (fun _ _ _ _ h => h) (fun g' _ e' => e' ▸ hrun) fun g' gs w sl t rk S e' h0 ms hB => ?_
  subst e'
  have hlt0 : 0 < gs.size := (Array.getElem?_eq_some_iff.1 h0).1
  by_cases hn0 : n = 0
  · exfalso
    subst hn0
    rcases hgo with h | h
    · exact absurd (hn h) (by omega)
    · have := hB.1; simp [sumTo] at this; omega
  have v := ms.v0 (ms.on (by omega))
  obtain ⟨s1, r1, hT⟩ := open_of ms.sim v.chT
  obtain ⟨s2, r2, hR⟩ := open_of ms.sim v.chR
  have hok : ∀ cc ∈ selCases C a e zE zR, cc.chan = .chan none ∨ ∃ c s r, cc.chan = .chan (some c) ∧ w.heap[c]? = some (.chan 0 #[] false s r false) := by
    intro cc hcc
    simp only [selCases, List.mem_toArray, List.mem_cons, List.not_mem_nil, or_false] at hcc
    rcases hcc with rfl | rfl
    · by_cases hae : a < e
      · simp only [hae, if_true]; exact .inr ⟨_, s1, r1, rfl, hT⟩
      · simp only [hae, if_false]; exact .inl trivial
    · exact .inr ⟨C.R, s2, r2, rfl, hR⟩
  rcases comm_open (sl := sl) h0 (show stepG C.P (0 == 0) g' w = _ from hcm w) hok with ⟨hno, hrunT⟩ | ⟨kk, cc, c', s3, r3, j, x, csj, shj, kj, ccj, d2, ops, q1, q2, q3, q4, q5, q6, q7, q8, q9, q10, ⟨q11, q13⟩, q12⟩
  · -- it waits
    refine ⟨_, _, hrunT, ?_⟩
    have e1 : t ++ MemOp.ofEvents 0 g'.frame.fn g'.frame.place #[] = t := by simp [ofEvents_eq]
    rw [e1]
    have hm1 := ms.m1
    have ms2 : MS C n 0 X S MV (gs.setIfInBounds 0 (parked g' (selCases C a e zE zR) .select)) w t rk :=
      ⟨by simp [ms.size], ms.m1, fun i z hi him hz => ms.old i z hi him (by rw [Array.getElem?_setIfInBounds_ne (by omega)] at hz; exact hz), fun k hk => let ⟨z, hz, hs⟩ := ms.wk k hk; ⟨z, by rw [Array.getElem?_setIfInBounds_ne (by omega)]; exact hz, hs⟩,
        ms.sim, ms.x, ms.xh, ms.on, ms.v0, ms.tr, ms.dw, ms.d0⟩
    refine parked_ev rk _ w sl t S (by simp [hlt0]) ms2 hB fun k hk hp => ?_
    obtain ⟨z, hz, hs⟩ := ms.wk k hk
    have hz' : (gs.setIfInBounds 0 ph)[C.m + k]? = some z := by rw [Array.getElem?_setIfInBounds_ne (by omega)]; exact hz
    unfold SitOk at hs
    rw [hp] at hs
    match hj : (S k).job, hs with
    | none, ⟨_, y, _, e'⟩ =>
      refine ⟨rfl, fun hae => ?_⟩
      obtain ⟨_, hw⟩ := hno { chan := .chan (if a < e then some C.T else none), send := some (.int .i64 a), zero := zE } (by simp [selCases])
      have : (C.m + k, 0) ∈ partners (gs.setIfInBounds 0 ph) C.T false := mem_partners.2 ⟨z, hz', by rw [e', offersAt_parked_recv]; simp⟩
      simp only [ways, hae, if_true, hT, Bool.false_eq_true, if_false] at hw
      cases hps : partners (gs.setIfInBounds 0 ph) C.T false with
      | nil => rw [hps] at this; cases this
      | cons p ps => rw [hps] at hw; simp at hw
    | some i, ⟨_, y, _, e'⟩ =>
      exfalso
      obtain ⟨_, hw⟩ := hno (rcase C.R zR) (by simp [selCases])
      have : (C.m + k, 0) ∈ partners (gs.setIfInBounds 0 ph) C.R true := mem_partners.2 ⟨z, hz', by rw [e', offersAt_parked_send]; simp⟩
      simp only [ways, rcase, hR] at hw
      rw [if_neg (by simp)] at hw
      cases hps : partners (gs.setIfInBounds 0 ph) C.R true with
      | nil => rw [hps] at this; cases this
      | cons p ps => rw [hps] at hw; simp at hw
  · refine ⟨_, _, q12, ?_⟩
    rcases ms.who (Nat.pos_of_ne_zero q4) q5 with ⟨_, q, hq, _⟩ | ⟨k0, hk0, rfl, hs'⟩
    · exfalso
      rcases hq.status with h | h <;> rw [h] at q6 <;> cases q6
    have hops : ∀ op ∈ MemOp.ofEvents 0 g'.frame.fn g'.frame.place #[] ++ ops, (op.g = 0 ∨ op.g = C.m + k0) ∧ MeetAct c' op.act := fun op hop => by
      rcases Array.mem_append.1 hop with h | h
      · simp [ofEvents_eq] at h
      · exact q11 op h
    rcases sit_offers H hs' q6 q7 q8 with ⟨hj0, y, hy, rfl, rfl, rfl, rfl, rfl⟩ | ⟨i0, hj0, y, hy, rfl, rfl, rfl, rfl, rfl⟩
    · -- a job
      obtain rfl : c' = C.T := by simpa [rcase] using q9.symm
      have hkk : kk = 0 ∧ a < e := by
        match kk, q1 with
        | 0, q1 =>
          simp [selCases] at q1
          subst q1
          exact ⟨rfl, c0T (by simpa using q2)⟩
        | 1, q1 =>
          simp [selCases] at q1
          subst q1
          simp [rcase] at q10
        | kk + 2, q1 => simp [selCases] at q1
      obtain ⟨rfl, hae⟩ := hkk
      simp [selCases] at q1
      subst q1
      have := give_ev gs w sl t (MemOp.ofEvents 0 g'.frame.fn g'.frame.place #[] ++ ops) rk S k0 s3 r3 d2 y ms hB hlt0 hk0 hj0 hy hae q3 hops (by rw [ofEvents_nil]; exact q13)
      have e2 : Goroutine.finishComm C.P (parked y #[rcase C.T C.zT] (.recv true)) #[rcase C.T C.zT] (.recv true) ((0 : Nat) : Int) (.int .i64 a) true = Go.Conc.served y (.tuple #[.int .i64 a, .bool true]) := served_recv _ _ _ _ _ _ _
      rw [← e2, ← fin_sel0 C.P C g' a e zE zR] at this
      exact this
    · -- a result
      obtain rfl : c' = C.R := by simpa [scase] using q9.symm
      have hkk : kk = 1 := by
        match kk, q1 with
        | 0, q1 =>
          simp [selCases] at q1
          subst q1
          simp [scase] at q10
        | 1, q1 => rfl
        | kk + 2, q1 => simp [selCases] at q1
      subst hkk
      simp [selCases] at q1
      subst q1
      have := got_ev gs w sl t (MemOp.ofEvents 0 g'.frame.fn g'.frame.place #[] ++ ops) rk S k0 i0 s3 r3 d2 y ms hB hlt0 hk0 hj0 hy q3 hops
      rw [← fin_sel1 C.P C g' a e zE zR] at this
      exact this
set_option maxHeartbeats 1000000 in
theorem sel_loop (H : WkOk C N) (M : MainOk C n N)
    (exit : ∀ {e c D g MV}, M.ExitG e c g → M.Inv D e c MV → e ≤ N → (∀ i, i < e → D i) → JM C n 0 X (fun job => ∀ k, k < n → job k = none) g MV) :
    ∀ (μ : Nat) {a b e : Nat} {c : Int} {D : Nat → Prop} {g : Goroutine} {MV : World}, 2 * (N - a) + b ≤ μ → a ≤ N → e ≤ N → M.SelG a b e c g → M.Inv D e c MV → (a < e ∨ 0 < b) → (a < e → 0 < n) → JM C n 0 X (Bz n a b D) g MV := by
  intro μ
  induction μ using Nat.strongRecOn with
  | ind μ ih =>
  intro a b e c D g MV hμ haN heN hS hI hgo hn
  obtain ⟨hrun, hcm⟩ := M.step hS
  -- a job is handed over
  have give_ev : ∀ (gs : Array Goroutine) (w : World) (sl : Option (Nat × Nat)) (t u : Trace) (rk : Nat → Mk) (S : Nat → Sit) (k0 s r dd : Nat) (y : Goroutine), MS C n 0 X S MV gs w t rk → Bz n a b D (fun k => (S k).job) → 0 < gs.size → k0 < n → (S k0).job = none → C.RecvG y → a < e →
      w.heap[C.T]? = some (.chan 0 #[] false s r false) → (∀ op ∈ u, (op.g = 0 ∨ op.g = C.m + k0) ∧ MeetAct C.T op.act) → Met C.T s r 0 (C.m + k0) u →
      Ev C.P C.Post (crowd ((gs.setIfInBounds (C.m + k0) (Go.Conc.served y (.tuple #[.int .i64 a, .bool true]))).setIfInBounds 0 (Go.Conc.served g (.tuple #[goInt 0, .bool false, M.zR]))) ((w.at dd).setChan C.T 0 #[] false (s + 1) (r + 1) false) sl) (t ++ u) := by
    intro gs w sl t u rk S k0 s r dd y ms hB h0s hk hj hy hae hh hu _
    obtain ⟨r', ht⟩ := H.recv_next a y hy (by omega)
    have ms' := ms.meet H (x := Go.Conc.served g (.tuple #[goInt 0, .bool false, M.zR])) (dd := dd) (s' := ⟨some a, false⟩) (mk' := (1, r')) hk (.inl rfl) hh (by exact ⟨rfl, ht⟩) hu
    have hB' : Bz n (a + 1) (b + 1) D (fun k => (updS S k0 ⟨some a, false⟩ k).job) := by rw [jobs_upd]; exact hB.give hk hj
    have hbn : b ≤ n := by rw [← hB.1]; exact sumTo_le_one
    have hJ := M.gave (MV := MV) hS hI hae heN hbn ⟨true, roC C n, JM C n 0 X (Bz n (a + 1) (b + 1) D)⟩ (jm_closed H) rfl fun g' hg' => ih (2 * (N - (a + 1)) + (b + 1)) (by omega) (by omega) (by omega) heN hg' hI (.inr (by omega)) (fun _ => by omega)
    exact hJ _ _ _ sl _ _ _ rfl (by simp [h0s]) ms' hB'
  -- a result comes
  have got_ev : ∀ (gs : Array Goroutine) (w : World) (sl : Option (Nat × Nat)) (t u : Trace) (rk : Nat → Mk) (S : Nat → Sit) (k0 i0 s r dd : Nat) (y : Goroutine), MS C n 0 X S MV gs w t rk → Bz n a b D (fun k => (S k).job) → 0 < gs.size → k0 < n → (S k0).job = some i0 → C.SendG i0 y →
      w.heap[C.R]? = some (.chan 0 #[] false s r false) → (∀ op ∈ u, (op.g = 0 ∨ op.g = C.m + k0) ∧ MeetAct C.R op.act) →
      Ev C.P C.Post (crowd ((gs.setIfInBounds (C.m + k0) (Go.Conc.served y undef)).setIfInBounds 0 (Go.Conc.served g (.tuple #[goInt 1, .bool true, C.res i0]))) ((w.at dd).setChan C.R 0 #[] false (s + 1) (r + 1) false) sl) (t ++ u) := by
    intro gs w sl t u rk S k0 i0 s r dd y ms hB h0s hk hj hy hh hu
    obtain ⟨r', ht⟩ := H.send_next i0 y hy
    have ms' := ms.meet H (x := Go.Conc.served g (.tuple #[goInt 1, .bool true, C.res i0])) (dd := dd) (s' := ⟨none, false⟩) (mk' := (1, r')) hk (.inr rfl) hh (by exact ⟨rfl, ht⟩) hu
    obtain ⟨hb, hia, hB1⟩ := hB.got hk hj
    have hB' : Bz n a (b - 1) (fun x => D x ∨ x = i0) (fun k => (updS S k0 ⟨none, false⟩ k).job) := by rw [jobs_upd]; exact hB1
    have hbn : b ≤ n := by rw [← hB.1]; exact sumTo_le_one
    have hJ := M.got (MV := MV) hS hb hbn hI (ms.v0 (ms.on (by omega))) hia haN heN ⟨true, roC C n, JM C n 0 X (Bz n a (b - 1) fun x => D x ∨ x = i0)⟩ (jm_closed H) rfl rfl fun g' MV' e' c' hI' he' h1 h2 => by
      by_cases hx : a < e' ∨ 0 < b - 1
      · exact ih (2 * (N - a) + (b - 1)) (by omega) (by omega) haN (by omega) (h1 hx) hI' hx (fun _ => by omega)
      · intro g1 gs1 w1 sl1 t1 rk1 S1 hg1 h01 ms1 hB1
        obtain ⟨q1, q2, q3⟩ := hB1
        have q1' : sumTo n (fun k => one? (S1 k).job) = b - 1 := q1
        have hz : ∀ k, k < n → (S1 k).job = none := fun k hk' => by
          have this : one? (S1 k).job ≤ sumTo n fun k => one? (S1 k).job := le_sumTo (f := fun k => one? (S1 k).job) hk'
          cases hjk : (S1 k).job with
          | none => rfl
          | some i => rw [hjk, show one? (some i) = 1 from rfl] at this; omega
        refine exit (h2 hx) hI' (by omega) (fun i hi => ?_) g1 gs1 w1 sl1 t1 rk1 S1 hg1 h01 ms1 hz
        rcases q3 i (by omega) with h | ⟨k, hk', hjk⟩
        · exact h
        · have := hz k hk'; rw [show (S1 k).job = some i from hjk] at this; cases this
    exact hJ _ _ _ sl _ _ _ rfl (by simp [h0s]) ms' hB'
  exact sel_at H hgo hn hrun hcm give_ev got_ev
end
end Go.Cv
