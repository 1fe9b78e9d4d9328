/- What the shallow reading says holds of the code itself, for a goroutine in company: any operation. -/
import Derived.Test.YtmkgnbcpcfojfaaCvOps3
set_option linter.unusedVariables false
set_option linter.unusedSimpArgs false
namespace Go.Cv
open Go.Conc

/-- What is asked of the program's tables. -/
structure Okx (X : Cx) : Prop where
  calls : ∀ f, X.cl f = true → ∃ fn, X.P.funcs[f]? = some fn ∧ (fn.name == "runtime.NumGoroutine") = false ∧ fn.body.isNone = false
  mixed : X.P.follows .mixedOrders = true

section
variable {X : Cx} {K : Value → World → Prop} {W : World} {E R : Bool}

theorem p_fieldAddr {s f : Nat} {v : Value} {a : Addr} {fs : Array Field} {fl : Field} {i : TypeInfo} (hv : asPtr v = some a) (hd : X.P.underlying s = some (.struct fs))
    (hf : fs[f]? = some fl) (hi : X.P.info? fl.type = some i) (h : bif Nat.beq i.size 0 then False else K (.pointer (some (a.add fl.offset))) W) : PurV X (Instr.fieldAt s v f) K W := by
  obtain rfl := asPtr_some hv
  obtain ⟨hs, h⟩ := bif_false h
  have hs' : i.size ≠ 0 := by intro e; rw [e] at hs; simp at hs
  refine ⟨_, h, ?_⟩
  unfold Instr.fieldAt
  refine (sil_underlying hd).bind ?_
  simp only [hf, Instr.sureAddr, pure_bind, fieldPlace, bind_assoc]
  refine (sil_sizeOf hi).bind ?_
  simp only [hs', if_false]
  exact sil_pure _
theorem p_indexAddr {t : Nat} {vx vi : Value} (h : dopIndexAddr X t vx vi fun v => K v W) : PurV X (Instr.indexAt t vx vi) K W := by
  obtain ⟨r, hr, h1⟩ := optP_some h
  clear h
  obtain rfl := asI_some hr
  clear hr
  obtain ⟨d, hd, h2⟩ := optP_some h1
  clear h1
  split at h2
  · rename_i len e p
    obtain ⟨a, rfl, h3⟩ := optP_some h2
    obtain ⟨i, hi, h0, h1, h4⟩ := optP_some h3
    refine ⟨_, h4, ?_⟩
    unfold Instr.indexAt
    simp only [asIntOf, pure_bind]
    refine (sil_underlying hd).bind ?_
    simp only [Instr.sureAddr, pure_bind, h0, h1, and_self, if_true]
    exact (sil_underlying hd).bind ((sil_sizeOf hi).bind (sil_pure _))
  · rename_i e p len c
    obtain ⟨i, hi, h3⟩ := optP_some h2
    obtain ⟨a, rfl, h0, h1, h4⟩ := h3
    refine ⟨_, h4, ?_⟩
    unfold Instr.indexAt
    simp only [asIntOf, pure_bind]
    refine (sil_underlying hd).bind ?_
    simp only [h0, h1, and_self, if_true]
    exact (sil_underlying hd).bind ((sil_sizeOf hi).bind (sil_pure _))
  · exact h2.elim
theorem bnd_some {o : Option Value} {d hi : Nat} {k : Nat → Prop} (h : bnd o d hi k) :
    (o = none ∧ k d) ∨ ∃ kd i, o = some (.int kd i) ∧ 0 ≤ i ∧ i ≤ (hi : Int) ∧ k i.toNat := by
  cases o with
  | none => exact .inl ⟨rfl, h⟩
  | some v =>
    obtain ⟨r, hr, h0, h1, h'⟩ := optP_some h
    clear h
    obtain rfl := asI_some hr
    exact .inr ⟨_, _, rfl, h0, h1, h'⟩
theorem sil_sliceBound {P : Program} {kd : IntKind} {i : Int} {y : Nat} {code : BoundsCode} (h0 : 0 ≤ i) (h1 : i ≤ (y : Int)) : Sil P (Instr.sliceBound (.int kd i) y code) i.toNat := by
  have : Instr.sliceBound (.int kd i) y code = pure i.toNat := by simp [Instr.sliceBound, asIntOf, h0, h1]
  rw [this]; exact sil_pure _
theorem sil_sliceBounds {P : Program} {b : Bool} {len c : Nat} {lo hi : Option Value} {k : Nat → Nat → Prop} (h : bnd hi len c fun h => bnd lo 0 h fun l => k l h) :
    ∃ l h, Sil P (Instr.sliceBounds b len c lo hi none) (l, h, c) ∧ k l h := by
  rcases bnd_some h with ⟨rfl, h2⟩ | ⟨kd, i, rfl, h0, h1, h2⟩ <;> rcases bnd_some h2 with ⟨rfl, h3⟩ | ⟨kd', i', rfl, h0', h1', h3⟩
  · refine ⟨_, _, ?_, h3⟩
    have : Instr.sliceBounds b len c none none none = pure (0, len, c) := by simp [Instr.sliceBounds]
    rw [this]; exact sil_pure _
  · refine ⟨_, _, ?_, h3⟩
    have : Instr.sliceBounds b len c (some (.int kd' i')) none none = pure (i'.toNat, len, c) := by simp [Instr.sliceBounds, Instr.sliceBound, asIntOf, h0', h1']
    rw [this]; exact sil_pure _
  · refine ⟨_, _, ?_, h3⟩
    have : Instr.sliceBounds b len c none (some (.int kd i)) none = pure (0, i.toNat, c) := by simp [Instr.sliceBounds, Instr.sliceBound, asIntOf, h0, h1]
    rw [this]; exact sil_pure _
  · refine ⟨_, _, ?_, h3⟩
    have : Instr.sliceBounds b len c (some (.int kd' i')) (some (.int kd i)) none = pure (i'.toNat, i.toNat, c) := by
      have e1 : ((i.toNat : Nat) : Int) = i := Int.toNat_of_nonneg h0
      rw [e1] at h1'
      simp [Instr.sliceBounds, Instr.sliceBound, asIntOf, h0, h1, h0', h1', e1]
    rw [this]; exact sil_pure _
theorem p_slice {t : Nat} {vx : Value} {lo hi : Option Value} (h : dopSlice X t vx lo hi fun v => K v W) : PurV X (Instr.sliceAt t vx lo hi none) K W := by
  obtain ⟨d, hd, h2⟩ := optP_some h
  clear h
  split at h2
  · rename_i e p len c
    obtain ⟨i, hi, h3⟩ := optP_some h2
    obtain ⟨l, hh, hr, h4⟩ := sil_sliceBounds (P := X.P) (b := true) (k := fun l hh => K (.slice (subS p c l i.size) (hh - l) (c - l)) W) h3
    refine ⟨_, h4, ?_⟩
    unfold Instr.sliceAt
    refine (sil_underlying hd).bind ?_
    simp only [Instr.slice, bind_assoc]
    refine (sil_underlying hd).bind ?_
    simp only [bind_assoc]
    refine hr.bind ?_
    simp only
    refine (sil_sizeOf hi).bind ?_
    simp only [subS]
    split <;> exact sil_pure _
  · rename_i s
    obtain ⟨l, hh, hr, h4⟩ := sil_sliceBounds (P := X.P) (b := false) (k := fun l hh => K (.string (s.extract l hh)) W) h2
    refine ⟨_, h4, ?_⟩
    unfold Instr.sliceAt
    refine (sil_underlying hd).bind ?_
    simp only [Instr.slice, bind_assoc]
    refine (sil_underlying hd).bind ?_
    simp only [bind_assoc]
    refine hr.bind ?_
    exact sil_pure _
  · rename_i n e p
    obtain ⟨a, rfl, h3⟩ := optP_some h2
    obtain ⟨i, hi, h4⟩ := optP_some h3
    obtain ⟨l, hh, hr, h5⟩ := sil_sliceBounds (P := X.P) (b := false) (k := fun l hh => K (.slice (subS (some a) n l i.size) (hh - l) (n - l)) W) h4
    refine ⟨_, h5, ?_⟩
    unfold Instr.sliceAt
    refine (sil_underlying hd).bind ?_
    simp only [Instr.sureAddr, pure_bind, bind_assoc]
    refine hr.bind ?_
    simp only
    refine (sil_sizeOf hi).bind ?_
    simp only [subS]
    split <;> exact sil_pure _
  · exact h2.elim
theorem pure_some {P : Program} {s : Sem Value} {k : Value → Prop} (h : optP (pureOf P s) k) : ∃ v, pureOf P s = some v ∧ k v := optP_some h
theorem run_eqGuard_int (op : BinOp) (t : TypeId) (x y : Operand) (k : IntKind) (n : Int) (v : Value) : eqGuard op t x y (.int k n) v = pure () := by cases op <;> rfl
theorem run_eqGuard_str (op : BinOp) (t : TypeId) (x y : Operand) (s : ByteArray) (v : Value) : eqGuard op t x y (.string s) v = pure () := by cases op <;> rfl
theorem p_then {s : Sem Value} {u : Sem Unit} (hu : u = pure ()) (h : PurV X s K W) : PurV X (do u; s) K W := by
  subst hu; obtain ⟨v, hK, hr⟩ := h; exact ⟨v, hK, by simpa using hr⟩
theorem p_bin {op : BinOp} {t : Nat} {x y : Operand} {vx vy : Value} (h : dopBin X op t x y vx vy K W) :
    PurV X (do eqGuard op t x y vx vy; binOp op t vx vy) K W := by
  unfold dopBin at h
  split at h
  · rename_i k a k' b
    refine p_then (run_eqGuard_int ..) ?_
    cases hq : isQuo op with
    | true =>
      simp only [hq, cond_true] at h
      obtain ⟨hb, h2⟩ := h
      obtain ⟨hk, h3⟩ := bif_true h2
      clear h2
      have hk := of_decide_eq_true hk
      subst hk
      cases op <;> simp [isQuo] at hq
      · refine ⟨_, h3, ?_⟩
        have : binOp .quo t (.int k a) (.int k b) = pure (.int k (k.wrap (a.tdiv b))) := by simp [binOp, Op.intDiv, hb]
        rw [this]; exact sil_pure _
      · refine ⟨_, h3, ?_⟩
        have : binOp .rem t (.int k a) (.int k b) = pure (.int k (a.tmod b)) := by simp [binOp, Op.intDiv, hb]
        rw [this]; exact sil_pure _
    | false =>
      simp only [hq, cond_false] at h
      split at h
      · obtain ⟨h0, h⟩ := h
        refine ⟨_, h, ?_⟩
        have : binOp .shl t (.int k a) (.int k' b) = pure (.int k (k.wrap (a * 2 ^ (min b.toNat k.bits)))) := by simp [binOp, Op.shift, Int.not_lt.2 h0]
        rw [this]; exact sil_pure _
      · obtain ⟨h0, h⟩ := h
        refine ⟨_, h, ?_⟩
        have : binOp .shr t (.int k a) (.int k' b) = pure (.int k (a.fdiv (2 ^ (min b.toNat k.bits)))) := by simp [binOp, Op.shift, Int.not_lt.2 h0]
        rw [this]; exact sil_pure _
      · exact pur_pure h
  · rename_i a b
    refine p_then (run_eqGuard_str ..) ?_
    split at h
    · obtain ⟨h0, h⟩ := h
      refine ⟨_, h, ?_⟩
      have h1 : ¬ (((a.size + b.size : Nat) : Int) > IntKind.i64.max) := by rw [IntKind.max_i64]; omega
      have : binOp .add t (.string a) (.string b) = pure (.string (a ++ b)) := by simp only [binOp, Op.stringOp, h1, if_false]
      rw [this]; exact sil_pure _
    · obtain ⟨v, hv, h⟩ := pure_some h
      exact ⟨v, h, sil_pureOf (s := binOp op t (.string a) (.string b)) (by rw [← hv]; cases op <;> rfl)⟩
  · exact pur_pure h
  · exact h.elim
theorem p_len {t ty : Nat} {ats : List Nat} {v : Value} (h : dopLen X t v K W) : PurV X (Builtin.len_ (t :: ats).toArray ty #[v]) K W := by
  obtain ⟨d, hd, h2⟩ := optP_some h
  clear h
  split at h2
  · refine ⟨_, h2, ?_⟩
    unfold Builtin.len_
    simp only [List.getElem?_toArray, List.getElem?_cons_zero]
    refine (sil_underlying hd).bind ?_
    exact sil_pure _
  · refine ⟨_, h2, ?_⟩
    unfold Builtin.len_
    simp only [List.getElem?_toArray, List.getElem?_cons_zero]
    refine (sil_underlying hd).bind ?_
    exact sil_pure _
  · exact h2.elim
theorem v_makeChan {t : Nat} {v : Value} {w : World} (hx : X.ext = false) (hs : Sim X.ty X.ext W w)
    (h : (match v with | .int _ 0 => optP (X.P.underlying t) fun d => (match d with | .chan _ e => optP (X.P.info? e) fun _ => K (.chan (some W.heap.size)) (W.alloc hidC) | _ => False) | _ => False : Prop)) :
    ∃ v' w' W', Rn X.P (Instr.makeChan t v) w v' w' (EvX X W' w') ∧ Mov X.ty X.co.ro W W' w w' #[] ∧ Sim X.ty X.ext W' w' ∧ K v' W' := by
  split at h
  · obtain ⟨d, hd, h⟩ := optP_some h
    split at h
    · rename_i dir e
      obtain ⟨i, hi, h⟩ := optP_some h
      refine v_new hx hs (o := hidC) (o' := .chan 0 #[] false 0 0 false) (v := .chan (some w.heap.size)) ⟨0, rfl⟩ ?_ (by rw [sim_size hx hs]; exact h)
      unfold Instr.makeChan
      simp only [asInt, asIntOf, pure_bind]
      refine (sil_underlying hd).rn.bind ?_
      simp only
      refine (sil_typeInfo hi).rn.bind ?_
      rw [if_neg (by rw [IntKind.max_i64]; omega)]
      exact (rn_new _).bind (rn_pure _)
    · exact h.elim
  · exact h.elim

theorem c_builtin (ok : Okx X) {b : Builtin} {ats : List Nat} {ty : Nat} {args : List Value} (h : dopBuiltin X b ats ty args K W) (o : Oper) (cs : Array Bool) {as : Array Operand} (ho : o.op = .call { callee := .builtin b, args := as, argTypes := ats.toArray }) :
    Com X (builtin b ats.toArray ty cs args.toArray) (opE X.P o) (opR X.P o) K W := by
  unfold dopBuiltin at h
  split at h
  · rename_i v
    split at h
    · rename_i t ats
      exact com_pur (p_len h)
    · exact h.elim
  · obtain ⟨hx, h⟩ := bif_false h
    exact com_val (fun w hw => v_append hx hw h) hx (by simp [opE, ho])
  · exact com_pur (pur_pure h)
  · exact com_pur (pur_pure h)
  · exact h.elim

theorem com_call (ok : Okx X) {f : FuncId} {a b : Array Value} {args : List Value} {sh : S2} {E R : Bool} (hE : E = true)
    (h : bif X.cl f then callWp X.P X.co f (a.toList ++ args ++ b.toList) sh K W else False) :
    Com X (do let d ← Deferred.ofValue (.func (.func f) a b) args.toArray; invoke d.target d.args) E R K W := by
  obtain ⟨hc, h2⟩ := bif_true h
  obtain ⟨fn, hf, hn, hb⟩ := ok.calls f hc
  refine com_eff (fun w hw => .inr (.inr ⟨f, (a.toList ++ args ++ b.toList).toArray, ?_, ?_⟩)) hE
  · have e : (a.toList ++ args ++ b.toList).toArray = a ++ args.toArray ++ b := by simp
    rw [e]
    have : Sil X.P (do let d ← Deferred.ofValue (.func (.func f) a b) args.toArray; invoke d.target d.args) (.enter f (a ++ args.toArray ++ b)) := by
      refine sil_of (fun w => ?_) fun w es => ?_
      · simp only [Deferred.ofValue, Sem.run_bind, Sem.run_pure, Result.andThen_ok, invoke, callFunc]
        show (Sem.run X.P (match (X.P).funcs[f]? with | none => _ | some fn => _) w) = _
        rw [hf]
        simp [hn, hb]
      · simp only [Deferred.ofValue, Sem.events_bind, Sem.run_pure, Sem.events_pure, Result.evThen_ok, invoke, callFunc, run_program, events_program]
        rw [hf]
        simp [hn, hb]
    exact this.rn
  · intro c cs hK
    refine h2 c cs fun v W' hv => ?_
    obtain ⟨u, rfl, hu⟩ := exS2_some hv
    exact hK _ _ hu
theorem v_buildSlice' {t len n : Nat} {ps : Array (Nat × Value)} {r : Array Value × Nat} {w : World} {E : Event → Prop} (hr : sliceCells X.P t len ps.toList = some r) (hn : w.heap.size = n) :
    Rn X.P (Instr.buildSlice t len ps) w (.slice (some ⟨n, 0, none⟩) len len) (w.alloc (.cells r.1 r.2)) E := by
  subst hn
  exact (v_buildSlice hr).mono fun _ h => h.elim
theorem wg_zero {z : Value} {x y : Int} (h : wgZero z = some (x, y)) : z.cells = #[.int .u64 x, .int .u32 y] := by
  cases z <;> simp only [wgZero, reduceCtorEq] at h
  rename_i cs
  obtain ⟨l⟩ := cs
  simp only at h
  match l, h with
  | [a, b], h =>
    unfold wgL at h
    cases a <;> try (simp at h; done)
    cases b <;> try (simp at h; done)
    rename_i ka n kb m
    cases ka <;> cases kb <;> simp at h
    obtain ⟨rfl, rfl⟩ := h
    rfl
theorem dop_sound (ok : Okx X) {ρ : Operand → Value} {σ : Env} {o : Oper} (h : dop X o σ K W) (ha : Ag σ ρ o.op.operands.toList) : Com X (execOp ρ o) (opE X.P o) (opR X.P o) K W := by
  obtain ⟨dst, op, ty, pos, after, guard⟩ := o
  have ev : ∀ {x : Operand} {k : Value → Prop}, optP (σ.ev x) k → x ∈ op.operands.toList → k (ρ x) := fun h hx => by
    obtain ⟨v, hv, h⟩ := optP_some h
    rw [ha _ hx v hv]; exact h
  cases op <;> simp only [dop] at h
  case move x => exact com_value (ev h (by simp [Op.operands]))
  case assign x => exact com_value (ev h (by simp [Op.operands]))
  case pick c a b =>
    have h1 := ev h (by simp [Op.operands])
    obtain ⟨t, ht, h2⟩ := optP_some h1
    have hc := gv_some ht
    have e : execOp ρ ⟨dst, .pick c a b, ty, pos, after, guard⟩ = (do pure (.value (if ← asBool (ρ c) then ρ a else ρ b))) := rfl
    rw [e]
    simp only [hc, asBool, pure_bind]
    cases t with
    | true => exact com_value (ev (x := a) h2 (by simp [Op.operands]))
    | false => exact com_value (ev (x := b) h2 (by simp [Op.operands]))
  case alloc e =>
    obtain ⟨hx, h⟩ := bif_false h
    obtain ⟨i, hi, h1⟩ := optP_some h
    obtain ⟨z, hz, h2⟩ := optP_some h1
    refine com_val (s := Instr.alloc e true (.tuple #[])) (fun w hw => ?_) hx rfl
    have hr : Rn X.P (Instr.alloc e true (.tuple #[])) w (.pointer (some ⟨W.heap.size, 0, none⟩)) (w.alloc (.cells z.cells e)) (fun _ => False) := by
      unfold Instr.alloc
      simp only [if_true]
      refine (sil_zeroValue hi hz).rn.bind ?_
      rw [← sim_size hx hw]
      exact (rn_newVar _ _).bind (rn_pure _)
    by_cases he : e = X.ty
    · have hb : Nat.beq e X.ty = true := by simpa using he
      rw [hb, cond_true] at h2
      obtain ⟨⟨x, y⟩, hm, h3⟩ := optP_some h2
      refine v_new hx hw (o := .cells #[] e) (o' := .cells z.cells e) ?_ (hr.mono fun _ h => h.elim) h3
      have hzc := wg_zero hm
      rw [hzc]
      simp only [Like, he, if_true]
      exact ⟨trivial, _, _, rfl⟩
    · have hb : Nat.beq e X.ty = false := by
        cases hb : Nat.beq e X.ty with
        | true => exact absurd (Nat.eq_of_beq_eq_true hb) he
        | false => rfl
      rw [hb, cond_false] at h2
      exact v_new hx hw (like_cells he) (hr.mono fun _ h => h.elim) h2
  case box e x =>
    obtain ⟨hx0, h⟩ := bif_false h
    simp only [Bool.or_eq_false_iff] at hx0
    obtain ⟨hx, hb⟩ := hx0
    have he : e ≠ X.ty := fun h => by rw [h] at hb; simp at hb
    refine com_val (s := Instr.box e (ρ x)) (fun w hw => ?_) hx rfl
    refine v_new hx hw (like_cells he) ?_ (ev h (by simp [Op.operands]))
    unfold Instr.box
    rw [← sim_size hx hw]
    exact (rn_newVar _ _).bind (rn_pure _)
  case build t ps =>
    have h1 := evParts_some (ρ := ρ) h fun x hx v hv => ha x (by simpa [Op.operands] using hx) v hv
    have e : (ps.toList.map fun p => (p.1, ρ p.2)).toArray = ps.map fun (i, x) => (i, ρ x) := by rw [← Array.toList_map]
    rw [e] at h1
    exact com_pur (pur_pure h1)
  case buildSlice t len ps =>
    obtain ⟨hx, h⟩ := bif_false h
    have h1 := evParts_some (ρ := ρ) h fun x hx v hv => ha x (by simpa [Op.operands] using hx) v hv
    obtain ⟨r, hr, h2⟩ := optP_some h1
    obtain ⟨hb, h2⟩ := bif_false h2
    have he : r.2 ≠ X.ty := fun h => by rw [h] at hb; simp at hb
    have e : (ps.toList.map fun p => (p.1, ρ p.2)) = (ps.map fun (i, x) => (i, ρ x)).toList := by rw [Array.toList_map]
    rw [e] at hr
    have e0 : execOp ρ ⟨dst, .buildSlice t len ps, ty, pos, after, guard⟩ = (do pure (.value (← Instr.buildSlice t len (ps.map fun (i, x) => (i, ρ x))))) := rfl
    rw [e0]
    refine com_val (fun w hw => ?_) hx rfl
    exact v_new hx hw (like_cells he) (v_buildSlice' hr (sim_size hx hw)) h2
  case load t x =>
    obtain ⟨a, hp, h2⟩ := optP_some (ev h (by simp [Op.operands]))
    have hv := asPtr_some hp
    have e : execOp ρ ⟨dst, .load t x, ty, pos, after, guard⟩ = (do pure (.value (← Instr.loadAt t (ρ x)))) := rfl
    rw [e, hv]
    refine com_qui ?_ rfl
    obtain ⟨u, hK, hr⟩ := q_load h2
    exact ⟨u, hK, fun w hw => by simpa [Instr.loadAt, Instr.sureAddr] using hr w hw⟩
  case store t x y =>
    obtain ⟨hx, h⟩ := bif_false h
    obtain ⟨a, hp, h2⟩ := optP_some (ev h (by simp [Op.operands]))
    have hv := asPtr_some hp
    have h3 := ev h2 (by simp [Op.operands])
    obtain ⟨i, hi, h4⟩ := optP_some h3
    obtain ⟨hsz, h5⟩ := bif_true h4
    refine com_eff (fun w hw => .inr (.inl ?_)) rfl
    obtain ⟨w', W', hr, mv, s', hK⟩ := st_run hw h5
    refine ⟨w', W', ?_, mv, s', fun e => absurd (hx.symm.trans e) (by decide), hK⟩
    have e : execOp ρ ⟨dst, .store t x y, ty, pos, after, guard⟩ = (do Instr.storeAt t (ρ x) (ρ y); pure Next.skip) := rfl
    rw [e, hv]
    simp only [Nat.beq_eq] at hsz
    refine Rn.bind (a := ()) ?_ (rn_pure _)
    unfold Instr.storeAt
    simp only [Instr.sureAddr, pure_bind, storeVar]
    refine (sil_sizeOf hi).rn.bind ?_
    rw [if_neg (by simp [hsz])]
    exact hr
  case binOp op t x y yt =>
    have h1 := ev (x := x) h (by simp [Op.operands])
    have h2 := ev (x := y) h1 (by simp [Op.operands])
    exact com_pur (p_bin h2)
  case unOp op t x =>
    have h1 := ev (x := x) h (by simp [Op.operands])
    have e : execOp ρ ⟨dst, .unOp op t x, ty, pos, after, guard⟩ = (do pure (.value (← Op.unary op (ρ x)))) := rfl
    rw [e]
    generalize ρ x = v at h1 ⊢
    split at h1
    · rename_i b
      exact com_pur ⟨_, h1, by
        have : Op.unary .not (.bool b) = pure (.bool !b) := by simp [Op.unary]
        rw [this]; exact sil_pure _⟩
    · exact com_pur (pur_pure h1)
  case convert s d x =>
    have h1 := ev (x := x) h (by simp [Op.operands])
    have e : execOp ρ ⟨dst, .convert s d x, ty, pos, after, guard⟩ = (do pure (.value (← convert s d (ρ x)))) := rfl
    rw [e]
    unfold dopConvert at h1
    split at h1
    · exact com_pur (pur_pure h1)
    · exact h1.elim
  case makeFunc fn f c =>
    have h1 := evL_some (ρ := ρ) h fun x hx v hv => ha x (by simp [Op.operands] at hx ⊢; exact .inl hx) v hv
    have h2 := evL_some (ρ := ρ) h1 fun x hx v hv => ha x (by simp [Op.operands] at hx ⊢; exact .inr hx) v hv
    have e1 : (f.toList.map ρ).toArray = f.map ρ := by rw [← Array.toList_map]
    have e2 : (c.toList.map ρ).toArray = c.map ρ := by rw [← Array.toList_map]
    rw [e1, e2] at h2
    exact com_pur (s := Instr.makeFunc fn (f.map ρ) (c.map ρ)) ⟨_, h2, sil_pure _⟩
  case makeSlice t l c =>
    obtain ⟨hx, h⟩ := bif_false h
    have h1 := ev (x := l) h (by simp [Op.operands])
    have h2 := ev (x := c) h1 (by simp [Op.operands])
    exact com_val (fun w hw => v_makeSlice hx hw h2) hx rfl
  case makeChan t l =>
    obtain ⟨hx, h⟩ := bif_false h
    have h1 := ev (x := l) h (by simp [Op.operands])
    exact com_val (s := Instr.makeChan t (ρ l)) (fun w hw => v_makeChan hx hw h1) hx rfl
  case slice t x lo hi mx =>
    cases mx with
    | some m => exact h.elim
    | none =>
      have h1 := ev (x := x) h (by simp [Op.operands])
      have h2 := evO_some (ρ := ρ) h1 fun y hy v hv => ha y (by cases lo <;> simp [Op.operands] at hy ⊢; exact .inr (.inl hy)) v hv
      have h3 := evO_some (ρ := ρ) h2 fun y hy v hv => ha y (by cases hi <;> simp [Op.operands] at hy ⊢; exact .inr (.inr hy)) v hv
      exact com_pur (p_slice h3)
  case fieldAddr s x f =>
    obtain ⟨a, hp, h2⟩ := optP_some (ev h (by simp [Op.operands]))
    obtain ⟨d, hd, h3⟩ := optP_some h2
    split at h3
    · obtain ⟨fl, hf, h4⟩ := optP_some h3
      obtain ⟨i, hi, h5⟩ := optP_some h4
      exact com_pur (p_fieldAddr hp hd hf hi h5)
    · exact h3.elim
  case indexAddr t x i =>
    have h1 := ev (x := x) h (by simp [Op.operands])
    have h2 := ev (x := i) h1 (by simp [Op.operands])
    exact com_pur (p_indexAddr h2)
  case extract x i => exact com_pur (pur_pure (ev (x := x) h (by simp [Op.operands])))
  case call c =>
    obtain ⟨ce, as, ats⟩ := c
    have h1 := evL_some (ρ := ρ) h fun x hx v hv => ha x (by cases ce <;> simp [Op.operands, Call.operands] at hx ⊢ <;> first | exact .inr hx | exact hx) v hv
    cases ce with
    | builtin b =>
      have := c_builtin ok (o := ⟨dst, .call ⟨.builtin b, as, ats⟩, ty, pos, after, guard⟩) (as := as) h1 (as.map fun | .const _ => true | _ => false) rfl
      have e1 : (as.toList.map ρ).toArray = as.map ρ := by rw [← Array.toList_map]
      rw [e1] at this
      exact this
    | value f =>
      have h2 := ev (x := f) h1 (by simp [Op.operands, Call.operands])
      obtain ⟨r, hr, h3⟩ := optP_some h2
      have hv := asFn_some hr
      have := com_call ok (E := opE X.P ⟨dst, .call ⟨.value f, as, ats⟩, ty, pos, after, guard⟩) (R := opR X.P ⟨dst, .call ⟨.value f, as, ats⟩, ty, pos, after, guard⟩) rfl h3
      rw [← hv] at this
      have e1 : (as.toList.map ρ).toArray = as.map ρ := by rw [← Array.toList_map]
      rw [e1] at this
      exact this
    | invoke r m => exact h1.elim
  all_goals exact h.elim
end
end Go.Cv
