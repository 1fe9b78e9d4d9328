/- A world with some blocks more. -/
import Derived.Test.YtmkgnbcpcfojfaaCwR
set_option linter.unusedVariables false
set_option linter.unusedSimpArgs false
namespace Go.Cv
open Go.Conc Go.ConcN

def extW (W : World) (fs : List Obj) : World := { W with heap := W.heap ++ fs.toArray }
def setF (fs : List Obj) (j o : Nat) (v : Value) : List Obj :=
  match fs[j]? with
  | some (.cells c e fr) => fs.set j (.cells (c.setIfInBounds o v) e fr)
  | _ => fs
section
variable {W : World} {fs : List Obj}
theorem ext_nil (W : World) : extW W [] = W := by simp [extW]
theorem ext_alloc (o : Obj) : (extW W fs).alloc o = extW W (fs ++ [o]) := by
  simp only [extW, World.alloc]
  congr 1
  apply Array.ext'
  simp
theorem ext_size : (extW W fs).heap.size = W.heap.size + fs.length := by simp [extW]
theorem ext_at (j : Nat) : (extW W fs).heap[W.heap.size + j]? = fs[j]? := by
  simp only [extW, Array.getElem?_append]
  rw [if_neg (by omega)]
  simp
theorem ext_old {b : Nat} (h : b < W.heap.size) : (extW W fs).heap[b]? = W.heap[b]? := by
  simp only [extW, Array.getElem?_append]
  rw [if_pos h]
theorem ext_set (j o : Nat) (v : Value) : (extW W fs).setCell ⟨W.heap.size + j, o, none⟩ v = extW W (setF fs j o v) := by
  have hh : ((extW W fs).setCell ⟨W.heap.size + j, o, none⟩ v).heap = (extW W (setF fs j o v)).heap := by
    apply Array.ext_getElem?
    intro b
    simp only [World.setCell, Array.getElem?_modify]
    by_cases e : W.heap.size + j = b
    · subst e
      rw [if_pos rfl, ext_at, ext_at]
      unfold setF
      cases hj : fs[j]? with
      | none => simp [hj]
      | some x =>
        obtain ⟨hlt, hg⟩ := List.getElem?_eq_some_iff.1 hj
        cases x <;> simp [hj, hlt, hg]
    · rw [if_neg e]
      rcases Nat.lt_or_ge b W.heap.size with hb | hb
      · rw [ext_old hb, ext_old hb]
      · obtain ⟨i, rfl⟩ : ∃ i, b = W.heap.size + i := ⟨b - W.heap.size, by omega⟩
        rw [ext_at, ext_at]
        unfold setF
        split
        · rw [List.getElem?_set_ne (by omega)]
        · rfl
  have : ∀ a b : World, a.heap = b.heap → a.tape = b.tape → a.drawn = b.drawn → a.os = b.os → a.output = b.output → a = b := by
    intro a b h1 h2 h3 h4 h5
    cases a; cases b; simp_all
  exact this _ _ hh rfl rfl rfl rfl
theorem ext_cell {j o : Nat} {c : Array Value} {e : TypeId} {fr : Nat × Nat} (h : fs[j]? = some (.cells c e fr)) : (extW W fs).cell? ⟨W.heap.size + j, o, none⟩ = c[o]? := by
  unfold World.cell?
  simp [ext_at, h]
theorem ext_wr {j : Nat} {v : Value} {e : TypeId} (h : fs[j]? = some (.cells #[v] e (0, 0))) {ro : Nat → Prop} (hro : ¬ ro (W.heap.size + j)) : wr ro (extW W fs) ⟨W.heap.size + j, 0, none⟩ :=
  ⟨⟨v, by rw [ext_cell h]; rfl⟩, by simp [World.frozen?, ext_at, h], hro⟩
theorem setCell_sz (W : World) (a : Addr) (v : Value) : (W.setCell a v).heap.size = W.heap.size := by simp [World.setCell]
theorem world_ext : ∀ a b : World, a.heap = b.heap → a.tape = b.tape → a.drawn = b.drawn → a.os = b.os → a.output = b.output → a = b := by
  intro a b h1 h2 h3 h4 h5
  cases a; cases b; simp_all
theorem ext_setOld {b o : Nat} (h : b < W.heap.size) (v : Value) : (extW W fs).setCell ⟨b, o, none⟩ v = extW (W.setCell ⟨b, o, none⟩ v) fs := by
  refine world_ext _ _ ?_ rfl rfl rfl rfl
  apply Array.ext_getElem?
  intro j
  rcases Nat.lt_or_ge j W.heap.size with hj | hj
  · rw [ext_old (by rw [setCell_sz]; exact hj)]
    simp only [World.setCell, Array.getElem?_modify]
    rw [ext_old hj]
  · obtain ⟨i, rfl⟩ : ∃ i, j = W.heap.size + i := ⟨j - W.heap.size, by omega⟩
    have h1 := ext_at (W := W.setCell ⟨b, o, none⟩ v) (fs := fs) i
    rw [setCell_sz] at h1
    rw [h1]
    simp only [World.setCell, Array.getElem?_modify]
    rw [if_neg (by omega), ext_at]
theorem setCell_atE {W : World} {b o : Nat} {c : Array Value} {e : TypeId} {fr : Nat × Nat} (h : W.heap[b]? = some (.cells c e fr)) (v : Value) : (W.setCell ⟨b, o, none⟩ v).heap[b]? = some (.cells (c.setIfInBounds o v) e fr) := by
  simp [World.setCell, Array.getElem?_modify, h]
theorem setCell_ne {W : World} {b o j : Nat} (h : j ≠ b) (v : Value) : (W.setCell ⟨b, o, none⟩ v).heap[j]? = W.heap[j]? := by
  simp only [World.setCell, Array.getElem?_modify]
  rw [if_neg (Ne.symm h)]
theorem cell_of {W : World} {b o : Nat} {c : Array Value} {e : TypeId} {fr : Nat × Nat} (h : W.heap[b]? = some (.cells c e fr)) : W.cell? ⟨b, o, none⟩ = c[o]? := by simp [World.cell?, h]
theorem cell_keep {W W' : World} {a : Addr} {v : Value} (h : W.cell? a = some v) (hk : ∀ o, W.heap[a.block]? = some o → o ≠ unkC → W'.heap[a.block]? = some o) : W'.cell? a = some v := by
  obtain ⟨c, e, fr, hb⟩ := cell_known h
  have := hk _ hb (by simp [unkC])
  unfold World.cell? at h ⊢
  rw [hb] at h
  rw [this]; exact h
end
end Go.Cv
