/- Lists of operations, their records, and what is read of them when they are cut. -/
import Derived.Test.YtmfidfaiopogbaaShRScan
set_option linter.unusedVariables false
set_option linter.unusedSimpArgs false
set_option linter.unusedSectionVars false
set_option maxRecDepth 4000
namespace Go.Proofs.Ytmfidfaiopogbaa
open Go Go.Sh

theorem opl_at : ∀ {l : List Op} {i : Nat} {x : Op}, l[i]? = some x → (opl l)[i * 5]? = some (.int .i64 x.k) ∧ (opl l)[i * 5 + 1]? = some (.int .i64 x.e) ∧ (opl l)[i * 5 + 2]? = some (.int .i64 x.u) ∧ (opl l)[i * 5 + 3]? = some (.int .i64 x.v) ∧ (opl l)[i * 5 + 4]? = some (.int .u32 x.b)
  | [], i, x, h => by simp at h
  | g :: r, 0, x, h => by simp at h; subst h; exact ⟨rfl, rfl, rfl, rfl, rfl⟩
  | g :: r, i + 1, x, h => by
    have := opl_at (l := r) (i := i) (x := x) (by simpa using h)
    rw [Nat.add_mul, show i * 5 + 1 * 5 + 1 = (i * 5 + 1) + 5 by omega, show i * 5 + 1 * 5 + 2 = (i * 5 + 2) + 5 by omega, show i * 5 + 1 * 5 + 3 = (i * 5 + 3) + 5 by omega, show i * 5 + 1 * 5 + 4 = (i * 5 + 4) + 5 by omega]
    simpa [opl] using this

/-! ### Plain lists and their records -/
def er (y : Op) : Bs := sealed (body y ((shp y.k).getD ([], false)))
def recs : List Op → Bs
  | [] => []
  | y :: r => er y ++ recs r
theorem recs_append : ∀ l m : List Op, recs (l ++ m) = recs l ++ recs m
  | [], m => rfl
  | y :: r, m => by simp [recs, recs_append r m]
/-- All are plain. -/
def Pl (ys : List Op) : Prop := ∀ y ∈ ys, y.fit ∧ plain y = some y
def goods : List Op → List Op := List.filterMap plain
theorem goods_pl {l : List Op} (h : ∀ x ∈ l, x.fit) : Pl (goods l) := by
  intro y hy
  obtain ⟨x, hx, hp⟩ := List.mem_filterMap.1 hy
  letI : Av := noAv
  exact ⟨plain_fit (h x hx) hp, ((enc_plain x).1 y hp).2.2.2⟩
theorem goods_id {ys : List Op} (h : Pl ys) : goods ys = ys := by
  induction ys with
  | nil => rfl
  | cons y r ih =>
    have hy := (h y (List.mem_cons_self ..)).2
    unfold goods at ih ⊢
    rw [List.filterMap_cons_some hy, ih fun z hz => h z (List.mem_cons_of_mem _ hz)]
theorem goods_len (l : List Op) : (goods l).length ≤ l.length := List.length_filterMap_le ..
theorem goods_take (l : List Op) (i : Nat) (h : i < l.length) : goods (l.take (i + 1)) = goods (l.take i) ++ (plain l[i]).toList := by
  unfold goods
  rw [List.take_succ_eq_append_getElem h, List.filterMap_append]
  cases hp : plain l[i] <;> simp [hp]
theorem er_len {y : Op} (h : plain y = some y) : 4 ≤ (er y).length ∧ (er y).length ≤ 22 := by
  obtain ⟨s, hs, hok, hl⟩ := enc_some (enc_is h)
  have := body_len hs hok
  unfold er
  rw [hl]
  simp [sealed]; omega
theorem recs_len {ys : List Op} (h : Pl ys) : (recs ys).length ≤ 22 * ys.length := by
  induction ys with
  | nil => simp [recs]
  | cons y r ih =>
    have h1 := er_len (h y (List.mem_cons_self ..)).2
    have h2 := ih fun z hz => h z (List.mem_cons_of_mem _ hz)
    simp [recs]; omega
theorem scan_recs {ys : List Op} (h : Pl ys) (r : Bs) : scan (recs ys ++ r) = (ys ++ (scan r).1, (recs ys).length + (scan r).2) := by
  induction ys with
  | nil => simp [recs]
  | cons y t ih =>
    have hy := h y (List.mem_cons_self ..)
    have hF : Front (recs (y :: t) ++ r) y (er y) := ⟨hy.1, hy.2, enc_is hy.2, recs t ++ r, by simp [recs]⟩
    rw [scan_some (dec_front hF)]
    have : (recs (y :: t) ++ r).drop (er y).length = recs t ++ r := by simp [recs]
    rw [this, ih fun z hz => h z (List.mem_cons_of_mem _ hz)]
    simp [recs, Nat.add_assoc]
/-- A record that is cut is none. -/
theorem dec_cut {y : Op} (hf : y.fit) (h : plain y = some y) {t : Bs} {k : Nat} (hk : k < (er y).length) : dec ((er y ++ t).take k) = none := by
  cases hd : dec ((er y ++ t).take k) with
  | none => rfl
  | some v =>
    obtain ⟨z, m⟩ := v
    obtain ⟨L, hL, hm⟩ := dec_some hd
    have h1 := front_len hL
    have h2 := front_len (⟨hf, h, enc_is h, [], by simp⟩ : Front (er y) y (er y))
    have h3 := dec_len hd
    have e : ((er y ++ t).take k).getD 0 0 = (er y).getD 0 0 := by
      have := (er_len h).1
      have hk0 : 0 < k := by simp at h3; omega
      rw [List.getD_eq_getElem?_getD, List.getElem?_take_of_lt hk0, List.getElem?_append_left (by omega), ← List.getD_eq_getElem?_getD]
    rw [e] at h1
    simp at h3
    omega
theorem scan_cut {ys : List Op} (h : Pl ys) {cut k : Nat} (hk : k ≤ ys.length) (h1 : (recs (ys.take k)).length ≤ cut) (h2 : k < ys.length → cut < (recs (ys.take (k + 1))).length) :
    scan ((recs ys).take cut) = (ys.take k, (recs (ys.take k)).length) := by
  have e : recs ys = recs (ys.take k) ++ recs (ys.drop k) := by rw [← recs_append, List.take_append_drop]
  have hno : scan ((recs (ys.drop k)).take (cut - (recs (ys.take k)).length)) = ([], 0) := by
    rcases Nat.lt_or_ge k ys.length with hlt | hge
    · have hd : ys.drop k = ys[k] :: ys.drop (k + 1) := List.drop_eq_getElem_cons hlt
      have h3 := h2 hlt
      rw [List.take_succ_eq_append_getElem hlt, recs_append, List.length_append] at h3
      have hy := h ys[k] (List.getElem_mem hlt)
      rw [hd]
      simp only [recs, List.append_nil] at h3 ⊢
      exact scan_none (dec_cut hy.1 hy.2 (by omega))
    · rw [List.drop_of_length_le hge]
      simp only [recs, List.take_nil]
      exact scan_none rfl
  rw [e, List.take_append, List.take_of_length_le h1, scan_recs (fun z hz => h z (List.mem_of_mem_take hz)), hno]
  simp

section
variable [Av]
theorem rd_op {w : World} {e n c : Nat} {a : Option Addr} {xs : List Op} (h : Rd w e 5 a n c (opl xs)) {i : Nat} (hi : i < xs.length) : i < n ∧ ∃ q, a = some q ∧ w.cell? (q.add (i * 5)) = some (.int .i64 xs[i].k) ∧ w.cell? ((q.add (i * 5)).add 1) = some (.int .i64 xs[i].e) ∧
    w.cell? ((q.add (i * 5)).add 2) = some (.int .i64 xs[i].u) ∧ w.cell? ((q.add (i * 5)).add 3) = some (.int .i64 xs[i].v) ∧ w.cell? ((q.add (i * 5)).add 4) = some (.int .u32 xs[i].b) := by
  have hn : n = xs.length := by have := h.1; rw [opl_length] at this; omega
  obtain ⟨q, hq, hc⟩ := h.at_ (i := i) (by omega)
  obtain ⟨e0, e1, e2, e3, e4⟩ := opl_at (List.getElem?_eq_getElem hi)
  have go : ∀ k, k < 5 → ∀ u, (opl xs)[i * 5 + k]? = some u → w.cell? ((q.add (i * 5)).add k) = some u := by
    intro k hk u hu
    obtain ⟨u', hu', hcu⟩ := hc k hk
    rw [hu] at hu'; cases hu'
    exact hcu
  have c0 := go 0 (by omega) _ e0
  rw [addZ] at c0
  exact ⟨by omega, q, hq, c0, go 1 (by omega) _ e1, go 2 (by omega) _ e2, go 3 (by omega) _ e3, go 4 (by omega) _ e4⟩
theorem op_n {w : World} {e n c : Nat} {a : Option Addr} {xs : List Op} (h : Rd w e 5 a n c (opl xs)) : n = xs.length := by have := h.1; rw [opl_length] at this; omega

theorem Same_spec {w : World} {e1 e2 n c m d : Nat} {a b : Option Addr} {xs ys : List Op} (ha : Rd w e1 5 a n c (opl xs)) (hb : Rd w e2 5 b m d (opl ys)) :
    Calls Try.prog 42 #[.slice a n c, .slice b m d] w fun e w' => Keep no w w' ∧ ∃ r : Bool, e = .returned (.bool r) ∧ (r = true ↔ xs = ys) := by
  have hn := op_n ha
  have hm := op_n hb
  have hmax := ha.2.2.1
  have hcn := ha.2.1
  simp only [maxLen] at hmax
  refine c42 ?_
  unfold sh42
  refine cond_i (fun hne => ?_) (fun heq => ?_)
  · refine ⟨Keep.refl _ _, _, rfl, ?_⟩
    have : n ≠ m := by simp only [bne_iff_ne, ne_eq] at hne; omega
    refine ⟨(fun h => by cases h), fun h => ?_⟩
    subst h; omega
  have hnm : n = m := by simp only [bne_eq_false_iff_eq] at heq; omega
  refine ⟨fun vs v => ∃ i : Nat, vs = [.bool false, .int .i64 i] ∧ i ≤ n ∧ xs.take i = ys.take i ∧ Keep no w v, fun vs v => match vs with | [_, .int _ i] => n - i.toNat | _ => 0, ⟨0, rfl, by omega, rfl, Keep.refl _ _⟩, ?_⟩
  rintro w5 b3 n4 ⟨i, hv, hi, ht, k5⟩
  cases hv
  refine cond_d (fun hlt => ?_) (fun hge => ?_)
  · intro w8
    have k8 : Keep no w w8 := k5.then (Keep.drew _ _)
    clear_value w8
    obtain ⟨_, q1, hq1, x0, x1, x2, x3, x4⟩ := rd_op (ha.no k8) (i := i) (by omega)
    obtain ⟨_, q2, hq2, y0, y1, y2, y3, y4⟩ := rd_op (hb.no k8) (i := i) (by omega)
    refine ⟨q1, hq1, by omega, by omega, _, _, _, _, _, by rw [Int.toNat_natCast]; exact x0, by rw [Int.toNat_natCast]; exact x1, by rw [Int.toNat_natCast]; exact x2, by rw [Int.toNat_natCast]; exact x3, by rw [Int.toNat_natCast]; exact x4, ?_⟩
    refine ⟨q2, hq2, by omega, by omega, _, _, _, _, _, by rw [Int.toNat_natCast]; exact y0, by rw [Int.toNat_natCast]; exact y1, by rw [Int.toNat_natCast]; exact y2, by rw [Int.toNat_natCast]; exact y3, by rw [Int.toNat_natCast]; exact y4, ?_⟩
    refine rw_neq (x := xs[i]'(by omega)) (y := ys[i]'(by omega)) ?_
    have ei : IntKind.i64.wrap ((i : Int) + 1) = ((i + 1 : Nat) : Int) := by rw [IntWalk.i64_in _ ⟨by omega, by omega⟩]; rfl
    refine cond_i (fun hne => ?_) (fun heq => ?_)
    · refine ⟨k8, _, rfl, (fun h => by cases h), fun h => ?_⟩
      subst h
      rw [opeq_self] at hne; cases hne
    · have he : xs[i]'(by omega) = ys[i]'(by omega) := (opeq_iff _ _).1 (by simpa using heq)
      rw [ei]
      refine ⟨⟨i + 1, rfl, by omega, ?_, k8⟩, ?_⟩
      · rw [List.take_succ_eq_append_getElem (by omega), List.take_succ_eq_append_getElem (by omega), ht, he]
      · show n - ((i + 1 : Nat) : Int).toNat < n - (i : Int).toNat
        omega
  · have hin : i = n := by omega
    refine ⟨k5, _, rfl, fun _ => ?_, fun _ => rfl⟩
    rw [List.take_of_length_le (by omega), List.take_of_length_le (by omega)] at ht
    exact ht
end
end Go.Proofs.Ytmfidfaiopogbaa
