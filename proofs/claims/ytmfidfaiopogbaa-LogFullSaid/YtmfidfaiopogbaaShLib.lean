/- Words for memory: what is kept, what a block holds, what a slice reads as; append and conversions. Over any program. -/
import Derived.Test.YtmfidfaiopogbaaShSound
import Derived.Laws.AppendOwn
import Derived.Laws.OwnMore
import Derived.Laws.BytesArg
import Derived.Laws.Strings
import Derived.Below
import Derived.Laws.MakeOwn
import Derived.Laws.StructEq
set_option linter.unusedVariables false
set_option linter.unusedSectionVars false
set_option linter.unusedSimpArgs false
namespace Go.Sh
open Go.RowKit (Below)

/-! ### What is kept -/
/-- All blocks that there were are as they were, but for those of S. -/
structure Keep (S : Nat → Prop) (w w' : World) : Prop where
  os : w'.os = w.os
  tape : w'.tape = w.tape
  output : w'.output = w.output
  size : w.heap.size ≤ w'.heap.size
  same : ∀ b, b < w.heap.size → ¬ S b → w'.heap[b]? = w.heap[b]?
def no : Nat → Prop := fun _ => False
def is (p : Nat) : Nat → Prop := fun b => b = p
def OB (a : Option Addr) : Nat → Prop := fun b => ∃ x, a = some x ∧ b = x.block
theorem Keep.refl (S : Nat → Prop) (w : World) : Keep S w w := ⟨rfl, rfl, rfl, Nat.le_refl _, fun _ _ _ => rfl⟩
theorem Keep.drew (S : Nat → Prop) (w : World) : Keep S w w.drew := ⟨rfl, rfl, rfl, Nat.le_refl _, fun _ _ _ => rfl⟩
theorem Keep.alloc (S : Nat → Prop) (w : World) (o : Obj) : Keep S w (w.alloc o) := ⟨rfl, rfl, rfl, by simp, fun b hb _ => Below.heap_alloc _ _ _ hb⟩
theorem Keep.set {S : Nat → Prop} (w : World) {a : Addr} (v : Value) (h : S a.block) : Keep S w (w.setCell a v) :=
  ⟨rfl, rfl, rfl, by simp [World.setCell], fun b _ hn => Below.heap_setCell _ _ _ _ fun e => hn (e ▸ h)⟩
theorem Keep.mono {S S' : Nat → Prop} {w w' : World} (h : Keep S w w') (hs : ∀ b, b < w.heap.size → S b → S' b) : Keep S' w w' :=
  ⟨h.os, h.tape, h.output, h.size, fun b hb hn => h.same b hb fun x => hn (hs b hb x)⟩
theorem Keep.trans {S S' T : Nat → Prop} {a b c : World} (h : Keep S a b) (k : Keep S' b c) (hs : ∀ x, x < a.heap.size → S x → T x) (hs' : ∀ x, x < a.heap.size → S' x → T x) : Keep T a c :=
  ⟨k.os.trans h.os, k.tape.trans h.tape, k.output.trans h.output, Nat.le_trans h.size k.size,
    fun x hx hn => (k.same x (Nat.lt_of_lt_of_le hx h.size) fun e => hn (hs' x hx e)).trans (h.same x hx fun e => hn (hs x hx e))⟩
theorem Keep.then {S : Nat → Prop} {a b c : World} (h : Keep S a b) (k : Keep S b c) : Keep S a c := h.trans k (fun _ _ x => x) (fun _ _ x => x)
/-- What was written is new. -/
theorem Keep.new {S T : Nat → Prop} {a b c : World} (h : Keep S a b) (k : Keep T b c) (ht : ∀ x, T x → a.heap.size ≤ x) : Keep S a c :=
  h.trans k (fun _ _ x => x) (fun x hx t => absurd (ht x t) (by omega))
theorem Keep.no {S : Nat → Prop} {a b c : World} (h : Keep S a b) (k : Keep no b c) : Keep S a c := h.new k fun _ x => x.elim
theorem Keep.below {w w' : World} (h : Keep Sh.no w w') : Below w.heap.size w w' := ⟨h.os, h.tape, h.output, h.size, fun b hb => h.same b hb fun x => x.elim⟩
theorem Keep.grown {w w' : World} {a : Option Addr} {n c : Nat} (h : w.grownBy w' (Value.slice a n c).ownBlock) : Keep (OB a) w w' := by
  refine ⟨h.os, h.tape, h.output, h.size, fun b hb hn => h.block b hb fun e => ?_⟩
  cases a with
  | none => cases e
  | some x => exact hn ⟨x, rfl, by simpa [Value.ownBlock] using e⟩
theorem setN_keep {S : Nat → Prop} {a : Addr} (h : S a.block) : ∀ (vs : List Value) (i : Nat) (w : World), Keep S w (setN a i vs w)
  | [], i, w => Keep.refl _ _
  | v :: vs, i, w => (Keep.set w v (a := a.add i) (by unfold Addr.add; split <;> exact h)).then (setN_keep h vs (i + 1) _)

/-! ### Blocks -/
def Bk (w : World) (b : Nat) (cs : Array Value) (e : TypeId) : Prop := w.heap[b]? = some (.cells cs e (0, 0))
def TyB (w : World) (b : Nat) (e : TypeId) : Prop := ∃ cs fr, w.heap[b]? = some (.cells cs e fr)
section
variable {w w' : World} {b o : Nat} {cs : Array Value} {e : TypeId} {v : Value}
theorem Bk.lt (h : Bk w b cs e) : b < w.heap.size := by
  rcases Nat.lt_or_ge b w.heap.size with h' | h'
  · exact h'
  · unfold Bk at h; rw [Array.getElem?_eq_none h'] at h; cases h
theorem TyB.lt (h : TyB w b e) : b < w.heap.size := by
  obtain ⟨cs, fr, h⟩ := h
  rcases Nat.lt_or_ge b w.heap.size with h' | h'
  · exact h'
  · rw [Array.getElem?_eq_none h'] at h; cases h
theorem Bk.ty (h : Bk w b cs e) : TyB w b e := ⟨cs, _, h⟩
theorem TyB.uniq {e' : TypeId} (h : TyB w b e) (h' : TyB w b e') : e = e' := by
  obtain ⟨_, _, h⟩ := h; obtain ⟨_, _, h'⟩ := h'
  rw [h] at h'; cases h'; rfl
theorem TyB.ne {b' : Nat} {e' : TypeId} (h : TyB w b e) (h' : TyB w b' e') (hn : e ≠ e') : b ≠ b' := fun x => hn ((x ▸ h).uniq h')
theorem Bk.cell (h : Bk w b cs e) (o : Nat) : w.cell? ⟨b, o, none⟩ = cs[o]? := by unfold Bk at h; simp [World.cell?, h]
theorem Bk.wr (h : Bk w b cs e) (ho : o < cs.size) : wr w ⟨b, o, none⟩ := by
  refine ⟨⟨cs[o], by rw [h.cell, Array.getElem?_eq_getElem ho]⟩, ?_⟩
  unfold Bk at h; simp [World.frozen?, h]
theorem Bk.set (h : Bk w b cs e) (o : Nat) (v : Value) : Bk (w.setCell ⟨b, o, none⟩ v) b (cs.setIfInBounds o v) e := by
  unfold Bk at *; simp [World.setCell, Array.getElem?_modify, h]
theorem Bk.set_ne (h : Bk w b cs e) {a : Addr} (hn : b ≠ a.block) (v : Value) : Bk (w.setCell a v) b cs e := by
  unfold Bk at *; rw [Below.heap_setCell _ _ _ _ hn]; exact h
theorem Bk.new (w : World) (cs : Array Value) (e : TypeId) : Bk (w.alloc (.cells cs e)) w.heap.size cs e := by
  show (w.heap.push _)[w.heap.size]? = _
  simp
theorem Bk.keep {S : Nat → Prop} (h : Bk w b cs e) (k : Keep S w w') (hn : ¬ S b) : Bk w' b cs e := by
  have hl := h.lt
  unfold Bk at *; rw [k.same b hl hn]; exact h
theorem TyB.keep {S : Nat → Prop} (h : TyB w b e) (k : Keep S w w') (hn : ¬ S b) : TyB w' b e := by
  obtain ⟨cs, fr, h'⟩ := h
  exact ⟨cs, fr, by rw [k.same b (TyB.lt ⟨cs, fr, h'⟩) hn]; exact h'⟩
theorem Bk.no (h : Bk w b cs e) (k : Keep Sh.no w w') : Bk w' b cs e := h.keep k id
theorem Bk.alloc (h : Bk w b cs e) (o : Obj) : Bk (w.alloc o) b cs e := h.keep (Keep.alloc Sh.no w o) id
theorem Bk.drew (h : Bk w b cs e) : Bk w.drew b cs e := h
theorem addZ (a : Addr) : a.add 0 = a := by simp [Addr.add]
theorem addP (b o n : Nat) : (⟨b, o, none⟩ : Addr).add n = ⟨b, o + n, none⟩ := by unfold Addr.add; split <;> simp_all
theorem Bk.wrN (h : Bk w b cs e) {n : Nat} (ho : o + n ≤ cs.size) : wrN w ⟨b, o, none⟩ n := fun j hj => by rw [addP]; exact h.wr (by omega)
theorem Bk.setN : ∀ {vs : List Value} {i : Nat} {w : World} {cs : Array Value}, Bk w b cs e →
    Bk (setN ⟨b, o, none⟩ i vs w) b ((vs.zipIdx i).foldl (fun c p => c.setIfInBounds (o + p.2) p.1) cs) e
  | [], i, w, cs, h => h
  | v :: vs, i, w, cs, h => by
    have := Bk.setN (vs := vs) (i := i + 1) (by have := h.set (o + i) v; rw [← addP] at this; exact this)
    simpa [Sh.setN, List.zipIdx_cons] using this
/-- A whole block, written over. -/
theorem Bk.setAll {vs : List Value} (h : Bk w b cs e) (hl : vs.length = cs.size) : Bk (Sh.setN ⟨b, 0, none⟩ 0 vs w) b vs.toArray e := by
  have := h.setN (o := 0) (vs := vs) (i := 0)
  have key : ∀ (vs : List Value) (i : Nat) (cs : Array Value), i + vs.length = cs.size → (vs.zipIdx i).foldl (fun c p => c.setIfInBounds (0 + p.2) p.1) cs = (cs.toList.take i ++ vs).toArray := by
    intro vs
    induction vs with
    | nil =>
      intro i cs hl
      simp only [List.zipIdx_nil, List.foldl_nil, List.append_nil]
      rw [List.take_of_length_le (by simp at hl ⊢; omega)]
    | cons v vs ih =>
      intro i cs hl
      simp only [List.zipIdx_cons, List.foldl_cons, Nat.zero_add]
      have := ih (i + 1) (cs.setIfInBounds i v) (by simp at hl ⊢; omega)
      simp only [Nat.zero_add] at this
      rw [this]
      congr 1
      have hi : i < cs.toList.length := by simp at hl ⊢; omega
      rw [Array.toList_setIfInBounds, List.take_succ_eq_append_getElem (by simpa using hi)]
      simp [List.take_set_of_le]
  rw [key vs 0 cs (by omega)] at this
  simpa using this
end

/-! ### What a slice reads as -/
/-- Blocks of bytes that nothing reads. -/
class Av where
  Z : Nat → Prop
def Old [Av] (w : World) : Prop := ∀ b, Av.Z b → b < w.heap.size
theorem Old.up [Av] {w w' : World} {S : Nat → Prop} (h : Old w) (k : Keep S w w') : Old w' := fun b hb => Nat.lt_of_lt_of_le (h b hb) k.size
variable [Av]
/-- n elements of sz cells each, of the type e (0: of any): these cells. -/
def Rd (w : World) (e sz : Nat) (a : Option Addr) (n c : Nat) (cs : List Value) : Prop :=
  cs.length = n * sz ∧ n ≤ c ∧ c ≤ maxLen ∧ (0 < n → ∃ b o arr fr, a = some ⟨b, o, none⟩ ∧ (∃ e', (e = 0 ∨ (e' = e ∧ (e = 5 → ¬ Av.Z b))) ∧ w.heap[b]? = some (.cells arr e' fr)) ∧ ∀ j u, cs[j]? = some u → arr[o + j]? = some u)
section
variable {w w' : World} {e sz : Nat} {a : Option Addr} {n c : Nat} {cs : List Value}
theorem Rd.nil (w : World) (e sz : Nat) : Rd w e sz none 0 0 [] := ⟨by simp, Nat.le_refl _, by simp [maxLen], fun h => absurd h (by omega)⟩
theorem Rd.own {base : Nat} (h : w.ownsRow base e sz (.slice a n c) n cs) (hz : e = 5 → ∀ b, Av.Z b → b < base := by (intro h; exact absurd h (by decide))) : Rd w e sz a n c cs := by
  rcases h.2 with ⟨h1, rfl⟩ | ⟨g, cap, cur, h1, _, hg, hn, hm, hs, ht⟩
  · simp only [Value.slice.injEq] at h1
    obtain ⟨rfl, _, rfl⟩ := h1
    exact ⟨h.1, Nat.le_refl _, by simp [maxLen], fun h => absurd h (by omega)⟩
  · simp only [Value.slice.injEq] at h1
    obtain ⟨rfl, _, rfl⟩ := h1
    refine ⟨h.1, hn, hm, fun _ => ⟨g, 0, cur, _, rfl, ⟨_, .inr ⟨rfl, fun h5 hb => by have := hz h5 _ hb; omega⟩, hg⟩, fun j u hu => ?_⟩⟩
    rw [← ht, List.getElem?_take] at hu
    split at hu
    · simpa using hu
    · cases hu
theorem Rd.keepZ {S : Nat → Prop} (h : Rd w e sz a n c cs) (k : Keep S w w') (hS : ∀ b, S b → TyB w b e → e = 5 ∧ Av.Z b) (he : e ≠ 0 := by decide) : Rd w' e sz a n c cs := by
  obtain ⟨h1, h2, h3, h4⟩ := h
  refine ⟨h1, h2, h3, fun hn => ?_⟩
  obtain ⟨b, o, arr, fr, ha, ⟨e', he', hb⟩, hc⟩ := h4 hn
  obtain ⟨e3, e4⟩ := he'.resolve_left he
  rw [e3] at hb
  have ht : TyB w b e := ⟨arr, fr, hb⟩
  exact ⟨b, o, arr, fr, ha, ⟨_, .inr ⟨rfl, e4⟩, by rw [k.same b ht.lt fun x => e4 (hS b x ht).1 (hS b x ht).2]; exact hb⟩, hc⟩
theorem Rd.keep {S : Nat → Prop} (h : Rd w e sz a n c cs) (k : Keep S w w') (hS : ∀ b, S b → ¬ TyB w b e) (he : e ≠ 0 := by decide) : Rd w' e sz a n c cs := h.keepZ k (fun b hb ht => absurd ht (hS b hb)) he
theorem Rd.keep' {S : Nat → Prop} (h : Rd w e sz a n c cs) (k : Keep S w w') (hS : 0 < n → ∀ b, S b → OB a b → False) : Rd w' e sz a n c cs := by
  obtain ⟨h1, h2, h3, h4⟩ := h
  refine ⟨h1, h2, h3, fun hn => ?_⟩
  obtain ⟨b, o, arr, fr, ha, ⟨e', he', hb⟩, hc⟩ := h4 hn
  have ht : TyB w b e' := ⟨arr, fr, hb⟩
  exact ⟨b, o, arr, fr, ha, ⟨e', he', by rw [k.same b ht.lt fun x => hS hn b x ⟨_, ha, rfl⟩]; exact hb⟩, hc⟩
theorem Rd.no (h : Rd w e sz a n c cs) (k : Keep no w w') : Rd w' e sz a n c cs := h.keep' k fun _ _ x => x.elim
theorem Rd.weak (h : Rd w e sz a n c cs) : Rd w 0 sz a n c cs := by
  obtain ⟨h1, h2, h3, h4⟩ := h
  refine ⟨h1, h2, h3, fun hn => ?_⟩
  obtain ⟨b, o, arr, fr, ha, ⟨e', he', hb⟩, hc⟩ := h4 hn
  exact ⟨b, o, arr, fr, ha, ⟨e', .inl rfl, hb⟩, hc⟩
omit [Av] in
/-- What is read is old: what is new needs not be read. -/
theorem Rd.av {A1 A2 : Av} (h : @Rd A1 w e sz a n c cs) (hz : ∀ b, A2.Z b → w.heap.size ≤ b) : @Rd A2 w e sz a n c cs := by
  obtain ⟨h1, h2, h3, h4⟩ := h
  refine ⟨h1, h2, h3, fun hn => ?_⟩
  obtain ⟨b, o, arr, fr, ha, ⟨e', he', hb⟩, hc⟩ := h4 hn
  have ht : TyB w b e' := ⟨arr, fr, hb⟩
  have := ht.lt
  exact ⟨b, o, arr, fr, ha, ⟨e', he'.imp id fun x => ⟨x.1, fun _ hb => by have := hz b hb; omega⟩, hb⟩, hc⟩
theorem Rd.cells (h : Rd w e sz a n c cs) (hn : 0 < n) : ∃ ad, a = some ad ∧ ∀ j u, cs[j]? = some u → w.cell? (ad.add j) = some u := by
  obtain ⟨b, o, arr, fr, ha, ⟨e', he', hb⟩, hc⟩ := h.2.2.2 hn
  refine ⟨_, ha, fun j u hu => ?_⟩
  rw [addP]
  simp [World.cell?, hb, hc j u hu]
/-- One element. -/
theorem Rd.at_ (h : Rd w e sz a n c cs) {i : Nat} (hi : i < n) : ∃ q, a = some q ∧ ∀ k, k < sz → ∃ u, cs[i * sz + k]? = some u ∧ w.cell? ((q.add (i * sz)).add k) = some u := by
  have hn0 : 0 < n := by omega
  obtain ⟨b, o, arr, fr, ha, ⟨e', he', hb⟩, hc⟩ := h.2.2.2 hn0
  refine ⟨_, ha, fun k hk => ?_⟩
  have hlt : i * sz + k < cs.length := by
    rw [h.1]
    have : (i + 1) * sz ≤ n * sz := Nat.mul_le_mul_right _ hi
    rw [Nat.add_mul] at this; omega
  refine ⟨_, List.getElem?_eq_getElem hlt, ?_⟩
  have := hc _ _ (List.getElem?_eq_getElem hlt)
  simp only [addP]
  simp [World.cell?, hb, Nat.add_assoc, this]
theorem Rd.sub (h : Rd w e sz a n c cs) {l r : Nat} (hl : l ≤ r) (hr : r ≤ n) : Rd w e sz (subS a c l sz) (r - l) (c - l) ((cs.drop (l * sz)).take ((r - l) * sz)) := by
  obtain ⟨h1, h2, h3, h4⟩ := h
  refine ⟨?_, by omega, by omega, fun hn => ?_⟩
  · rw [List.length_take, List.length_drop, h1]
    have : (r - l) * sz ≤ n * sz - l * sz := by
      rw [← Nat.sub_mul]; exact Nat.mul_le_mul_right _ (by omega)
    omega
  · have hn0 : 0 < n := by omega
    obtain ⟨b, o, arr, fr, rfl, ⟨e', he', hb⟩, hc⟩ := h4 hn0
    refine ⟨b, o + l * sz, arr, fr, ?_, ⟨e', he', hb⟩, fun j u hu => ?_⟩
    · clear he' hb hc
      unfold subS
      split
      · omega
      · simp [addP]
    · rw [List.getElem?_take] at hu
      split at hu
      · rw [List.getElem?_drop] at hu
        have := hc _ _ hu
        rwa [← Nat.add_assoc] at this
      · cases hu
end
omit [Av] in
theorem oneCell_iff (v : Value) : v.oneCell' = one1 v := by cases v <;> rfl

/-! ### Runs of the model's own -/
omit [Av] in
theorem RunWp.of {P : Program} {s : Sem Value} {K : Value → World → Prop} {w w' : World} {v : Value} (h : s.run P w = .ok v w') (hK : K v w') : RunWp P s K w := by
  unfold RunWp; rw [h]; exact hK

/-- An element's type, by the program's table. -/
structure El (P : Program) (t e sz by_ : Nat) : Prop where
  sl : P.underlying t = some (.slice e)
  el : ∃ i z, P.info? e = some i ∧ i.zero = some z ∧ i.size = sz ∧ i.bytes = by_ ∧ z.cells.size = sz
  pos : 0 < sz

section
variable {P : Program} {w : World} {t e sz by_ ty : Nat}
theorem rw_append (E : El P t e sz by_) {base : Nat} {a a' : Option Addr} {n c m c' : Nat} {xs ds : List Value} (ho : w.ownsRow base e sz (.slice a n c) n xs) {e2 : Nat} (hr : Rd w e2 sz a' m c' ds)
    (h1 : ∀ u, u ∈ ds → one1 u = true) (hb : (n + m) * by_ ≤ 140737488355328) (hm : n + m ≤ maxLen) (hbase : base ≤ w.heap.size) {K : Option Addr → Nat → Nat → World → Prop}
    (h : ∀ a2 c2 w', w'.ownsRow base e sz (.slice a2 (n + m) c2) (n + m) (xs ++ ds) → Keep (OB a) w w' → (a2 = a ∨ a2 = some ⟨w.heap.size, 0, none⟩) → K a2 (n + m) c2 w') :
    RunWp P (Builtin.append_ #[t, t] ty #[.slice a n c, .slice a' m c']) (fun v w' => ∃ (a2 : Option Addr) (n2 c2 : Nat), v = .slice a2 n2 c2 ∧ K a2 n2 c2 w') w := by
  obtain ⟨i, z, hi, hz, h2, h3, h4⟩ := E.el
  have fin : ∀ v' w', (Builtin.append_ #[t, t] ty #[.slice a n c, .slice a' m c']).run P w = .ok v' w' → w'.ownsRow base e sz v' (n + m) (xs ++ ds) → Keep (OB a) w w' → (∀ a2 n2 c2, v' = .slice a2 n2 c2 → a2 = a ∨ a2 = some ⟨w.heap.size, 0, none⟩) →
      RunWp P (Builtin.append_ #[t, t] ty #[.slice a n c, .slice a' m c']) (fun v w' => ∃ (a2 : Option Addr) (n2 c2 : Nat), v = .slice a2 n2 c2 ∧ K a2 n2 c2 w') w := by
    intro v' w' hrun hown hk hwh
    refine RunWp.of hrun ?_
    rcases hown.2 with ⟨rfl, h0⟩ | ⟨g, cap, cur, rfl, _⟩
    · have e0 : n + m = 0 := h0
      rw [e0] at hown h
      exact ⟨none, 0, 0, rfl, h _ _ _ hown hk (hwh _ _ _ rfl)⟩
    · exact ⟨_, _, _, rfl, h _ _ _ hown hk (hwh _ _ _ rfl)⟩
  cases a' with
  | some ad =>
    have hc : ∀ j u, ds[j]? = some u → w.cell? (ad.add j) = some u := by
      intro j u hu
      have hlt : 0 < m := by
        rcases Nat.eq_zero_or_pos m with h0 | h0
        · subst h0
          have : ds = [] := List.eq_nil_of_length_eq_zero (by simpa using hr.1)
          subst this; simp at hu
        · exact h0
      obtain ⟨ad', e', hc⟩ := hr.cells hlt
      cases e'; exact hc j u hu
    obtain ⟨v', w', hrun, hown, hg, _⟩ := run_append_own (P := P) w base t ty e i z sz by_ E.sl hi hz h2 h3 h4 E.pos _ n xs ho ad m c' ds hr.1 hc (fun u hu => by rw [oneCell_iff]; exact h1 u hu) hm hb hbase
    refine fin v' w' hrun hown (Keep.grown hg) fun a2 n2 c2 hv => ?_
    subst hv
    rcases ho.2 with ⟨h5, h6⟩ | ⟨g, cap, cur, h5, _, hcur, hnc, hcm, hcs, htake⟩
    · simp only [Value.slice.injEq] at h5
      obtain ⟨rfl, rfl, rfl⟩ := h5
      rcases hown.2 with ⟨h7, _⟩ | ⟨g', cap', cur', h7, hbg, _⟩
      · simp only [Value.slice.injEq] at h7
        exact .inl h7.1
      · -- a nil slice that grew
        have hm0 : m ≠ 0 := by
          rintro rfl
          have hd : ds = [] := List.eq_nil_of_length_eq_zero (by simpa using hr.1)
          subst hd
          have hr0 : (Builtin.append_ #[t, t] ty #[.slice none 0 0, .slice (some ad) 0 c']).run P w = .ok (.slice none 0 0) w := by
            simp [Builtin.append_, run_underlying E.sl, sizeOf, typeInfo, hi, Builtin.lenOf, Builtin.firstCells, loadCells, loadCellsFrom]
          rw [hr0] at hrun
          simp only [Result.ok.injEq, Value.slice.injEq] at hrun
          simp only [Value.slice.injEq] at h7
          rw [← hrun.1.1] at h7; cases h7.1
        have hr0 := run_append_nil (P := P) (ty := ty) w t e i z E.sl hi hz ad m c' ds (by rw [h2]; exact hr.1) hc (by omega) (by simp only [maxLen] at hm; omega) (by rw [h3]; have := hb; rw [Nat.zero_add] at this; omega)
        rw [hr0] at hrun
        simp only [Result.ok.injEq, Value.slice.injEq] at hrun
        exact .inr hrun.1.1.symm
    · simp only [Value.slice.injEq] at h5
      obtain ⟨rfl, _, rfl⟩ := h5
      by_cases hroom : n + m ≤ c
      · have hr0 := run_append_room (P := P) (ty := ty) w t e i E.sl hi g n c cur hcur ad m c' ds (by rw [h2]; exact hr.1) hc (fun u hu => by rw [oneCell_iff]; exact h1 u hu) hroom (by rw [h2, hr.1, hcs, ← Nat.add_mul]; exact Nat.mul_le_mul_right _ hroom)
        rw [hr0] at hrun
        simp only [Result.ok.injEq, Value.slice.injEq] at hrun
        exact .inl hrun.1.1.symm
      · have holds : ∀ j u, xs[j]? = some u → w.cell? ((⟨g, 0, none⟩ : Addr).add j) = some u := ho.cells (g := g) rfl
        have hr0 := run_append_grow (P := P) (ty := ty) w t e i z E.sl hi hz ⟨g, 0, none⟩ n c xs (by rw [h2]; exact ho.1) holds ad m c' ds (by rw [h2]; exact hr.1) hc (by omega) (by simp only [maxLen] at hm; omega) (by rw [h3]; exact growslice_fits (by omega) hb)
        rw [hr0] at hrun
        simp only [Result.ok.injEq, Value.slice.injEq] at hrun
        exact .inr hrun.1.1.symm
  | none =>
    have hm0 : m = 0 := by
      rcases Nat.eq_zero_or_pos m with h0 | h0
      · exact h0
      · obtain ⟨_, _, _, _, h, _⟩ := hr.2.2.2 h0; cases h
    subst hm0
    have hd : ds = [] := List.eq_nil_of_length_eq_zero (by simpa using hr.1)
    subst hd
    rcases ho.2 with ⟨h5, h6⟩ | ⟨g, cap, cur, h5, _, _, hnc, _⟩
    · simp only [Value.slice.injEq] at h5
      obtain ⟨rfl, rfl, rfl⟩ := h5
      refine fin (.slice none 0 0) w ?_ (by simpa using ho) (Keep.refl _ _) (fun a2 n2 c2 hv => by cases hv; exact .inl rfl)
      simp [Builtin.append_, run_underlying E.sl, sizeOf, typeInfo, hi, Builtin.lenOf, Builtin.firstCells]
    · simp only [Value.slice.injEq] at h5
      obtain ⟨rfl, _, rfl⟩ := h5
      refine fin (.slice (some ⟨g, 0, none⟩) n c) w ?_ (by simpa using ho) (Keep.refl _ _) (fun a2 n2 c2 hv => by cases hv; exact .inl rfl)
      simp [Builtin.append_, run_underlying E.sl, sizeOf, typeInfo, hi, Builtin.lenOf, Builtin.firstCells, hnc, storeCells]
end

/-! ### Bytes -/
abbrev Bs := List UInt8
def bv (u : UInt8) : Value := .int .u8 u.toNat
def bvs (l : Bs) : List Value := l.map bv
def Rb (w : World) (a : Option Addr) (n c : Nat) (l : Bs) : Prop := Rd w 5 1 a n c (bvs l)
def str (l : Bs) : ByteArray := ⟨l.toArray⟩
omit [Av] in
@[simp] theorem str_toList (l : Bs) : (str l).toList = l := ByteArray.toList_mk l
omit [Av] in
@[simp] theorem str_size (l : Bs) : (str l).size = l.length := by simp [str, ByteArray.size]
omit [Av] in
theorem str_append (l m : Bs) : str l ++ str m = str (l ++ m) := by
  apply ByteArray.ext; simp [str, ByteArray.data_append]
omit [Av] in
theorem bvs_one (l : Bs) : ∀ u, u ∈ bvs l → one1 u = true := by
  intro u hu; obtain ⟨x, _, rfl⟩ := List.mem_map.1 hu; rfl
omit [Av] in
@[simp] theorem bvs_append (l m : Bs) : bvs (l ++ m) = bvs l ++ bvs m := by simp [bvs]
omit [Av] in
@[simp] theorem bvs_length (l : Bs) : (bvs l).length = l.length := by simp [bvs]
theorem Rb.len {w : World} {a : Option Addr} {n c : Nat} {l : Bs} (h : Rb w a n c l) : n = l.length := by have := h.1; simp at this; exact this.symm
theorem run_str {P : Program} {w : World} {t ts : Nat} (hs : P.underlying t = some (.slice 5)) (he : P.underlying 5 = some (.int .u8)) (hd : P.underlying ts = some .string)
    {e2 : Nat} {a : Option Addr} {n c : Nat} {l : Bs} (h : Rd w e2 1 a n c (bvs l)) : (convert t ts (.slice a n c)).run P w = .ok (.string (str l)) w := by
  have hn : n = l.length := by have := h.1; simp at this; exact this.symm
  have hstr : strOfNums (l.map fun u => (u.toNat : Int)) = str l := by
    unfold strOfNums str
    congr 1
    congr 1
    rw [List.map_map]
    conv => rhs; rw [← List.map_id l]
    apply List.map_congr_left
    intro u _
    simp
  rcases Nat.eq_zero_or_pos n with h0 | h0
  · have hl : l = [] := List.eq_nil_of_length_eq_zero (by omega)
    subst hl
    cases a with
    | none => simp [convert, run_underlying hs, run_underlying hd, he, Conv.bytesToString, run_underlying he]; rfl
    | some ad =>
      subst hn
      simp [convert, run_underlying hs, run_underlying hd, run_underlying he, Conv.bytesToString, loadCells, loadCellsFrom]
      rfl
  · obtain ⟨b, o, arr, fr, rfl, ⟨e', he', hb⟩, hc⟩ := h.2.2.2 h0
    rw [run_convert_bytes_arg w t 5 hs he b o n c (l.map fun u => (u.toNat : Int)) (by simp [hn]) (fun i hi => ?_) ts hd, hstr]
    have hi' : i < l.length := by omega
    have := hc i (bv l[i]) (by simp [bvs, hi'])
    simp [World.cell?, hb, this, List.getD, hi', bv]
theorem rw_str {P : Program} {w : World} {t ts : Nat} (hs : P.underlying t = some (.slice 5)) (he : P.underlying 5 = some (.int .u8)) (hd : P.underlying ts = some .string)
    {e2 : Nat} {a : Option Addr} {n c : Nat} {l : Bs} (h : Rd w e2 1 a n c (bvs l)) {K : ByteArray → Prop} (hK : K (str l)) : RunWp P (convert t ts (.slice a n c)) (fun v w' => w' = w ∧ ∃ s : ByteArray, v = .string s ∧ K s) w :=
  RunWp.of (run_str hs he hd h) ⟨rfl, _, rfl, hK⟩

/-! ### Tests -/
omit [Av] in
theorem cond_i {b : Bool} {A B : Prop} (ht : b = true → A) (hf : b = false → B) : cond b A B := by cases b <;> simp_all
omit [Av] in
theorem cond_d {p : Prop} [Decidable p] {A B : Prop} (ht : p → A) (hf : ¬ p → B) : cond (decide p) A B := by
  by_cases h : p <;> simp [h]
  · exact ht h
  · exact hf h
end Go.Sh
