/- The shallow reading of a function's code, for a goroutine in company: definitions alone. Worlds here are VIRTUAL ones: see Sim. Nothing here hangs on the tape. -/
import Derived.Orders
import Derived.Tactics
import Derived.KernelRfl
import Derived.Laws.World
import Derived.Laws.Sem
import Derived.Laws.Entries
import Derived.Conc.Beside
import Derived.Conc.Own5
set_option linter.unusedVariables false
namespace Go.Cv
open Go.Conc

/-! ### Small words -/
def optP {α : Type} : Option α → (α → Prop) → Prop
  | some a, k => k a
  | none, _ => False

def mxI (x y : Int) : Int := if y > x then y else x
def mnI (x y : Int) : Int := if y < x then y else x
abbrev Env := Nat → Option Value
def Env.put (σ : Env) (d : Nat) (v : Value) : Env := fun t => bif Nat.beq t d then some v else σ t
def Env.ev (σ : Env) : Operand → Option Value
  | .tmp t => σ t
  | .const v => some v
  | .global g => some (.pointer (some ⟨g, 0, none⟩))
  | .func f => some (.func (.func f) #[] #[])
def evL (σ : Env) : List Operand → (List Value → Prop) → Prop
  | [], k => k []
  | x :: xs, k => optP (σ.ev x) fun v => evL σ xs fun vs => k (v :: vs)
def memN (t : Nat) : List Nat → Bool
  | [] => false
  | x :: xs => bif Nat.beq t x then true else memN t xs
def Env.forget (σ : Env) (W : List Nat) : Env := fun t => bif memN t W then none else σ t
def Env.putL (σ : Env) : List Nat → List Value → Env
  | t :: ts, v :: vs => (Env.putL σ ts vs).put t v
  | _, _ => σ
def getL (σ : Env) : List Nat → (List Value → Prop) → Prop
  | [], k => k []
  | t :: ts, k => optP (σ t) fun v => getL σ ts fun vs => k (v :: vs)
def known (σ : Env) : List Nat → List Nat
  | [] => []
  | t :: ts => match σ t with | some _ => (bif memN t ts then known σ ts else t :: known σ ts) | none => known σ ts

def gv : Value → Option Bool
  | .bool b => some b
  | _ => none
def asFn : Value → Option (FuncId × Array Value × Array Value)
  | .func (.func f) a b => some (f, a, b)
  | _ => none
def asPtr : Value → Option Addr
  | .pointer a => a
  | _ => none
def asI : Value → Option (IntKind × Int)
  | .int k n => some (k, n)
  | _ => none

/-! ### Shapes of values -/
inductive Lf where
  | int (k : IntKind) | bool | str | ptr | slc | map | any
inductive S1 where
  | lf (l : Lf) | agg (ls : List Lf)
inductive S2 where
  | one (s : S1) | tup (ss : List S1)

def exL : Lf → (Value → Prop) → Prop
  | .int k, K => ∃ n : Int, K (.int k n)
  | .bool, K => ∃ b : Bool, K (.bool b)
  | .str, K => ∃ s : ByteArray, K (.string s)
  | .ptr, K => ∃ a : Option Addr, K (.pointer a)
  | .slc, K => ∃ (a : Option Addr) (n c : Nat), K (.slice a n c)
  | .map, K => ∃ r : Option Nat, K (.map r)
  | .any, K => ∃ v : Value, K v
def exLs : List Lf → (List Value → Prop) → Prop
  | [], K => K []
  | l :: ls, K => exL l fun v => exLs ls fun vs => K (v :: vs)
def exS1 : S1 → (Value → Prop) → Prop
  | .lf l, K => exL l K
  | .agg ls, K => exLs ls fun vs => K (.agg vs.toArray)
def exS1s : List S1 → (List Value → Prop) → Prop
  | [], K => K []
  | l :: ls, K => exS1 l fun v => exS1s ls fun vs => K (v :: vs)
def exS2 : S2 → (Value → Prop) → Prop
  | .one s, K => exS1 s K
  | .tup ss, K => exS1s ss fun vs => K (.tuple vs.toArray)

/-- A block that stands for a channel; for something not known. -/
def hidC : Obj := .coro none
def unkC : Obj := .coro (some 0)
/-- A block that is no channel of ours and no lock of ours, known exactly, under a number. -/
def decP (c : Array Value) (e : Nat) : Obj :=
  if e % 2 = 0 then .pending c (e / 2) else
  match c.toList with
  | [.agg d, .int _ lo, .int _ hi] => .cells d (e / 2) (lo.toNat, hi.toNat)
  | _ => .pending c e
def LikeK : Nat → Option Obj → Prop
  | 0, _ => True
  | 1, r => r = some (.coro none)
  | k + 2, r => r = some (.coro (some k))
/-- What the block of the virtual world says of the real one. -/
def Like (ty : Nat) (o : Obj) (r : Option Obj) : Prop :=
  match o with
  | .coro none => ∃ s, r = some (.chan 0 #[] false s s false)
  | .coro (some k) => LikeK k r
  | .pending c e => r = some (decP c e)
  | .cells c e fr => if e = ty then c = #[] ∧ ∃ x y : Int, r = some (.cells #[.int .u64 x, .int .u32 y] ty (0, 0)) else r = some (.cells c e fr)
  | o => r = some o
/-- The real world w is as the virtual world W says. `ext`: it may hold more blocks. -/
structure Sim (ty : Nat) (ext : Bool) (W w : World) : Prop where
  size : if ext then W.heap.size ≤ w.heap.size else w.heap.size = W.heap.size
  like : ∀ (b : Nat) (o : Obj), W.heap[b]? = some o → Like ty o w.heap[b]?
  tape : w.tape = W.tape
  os : w.os = W.os
  output : w.output = W.output
/-- Hidden: a lock, a channel, or not known. -/
def Hid (ty : Nat) : Option Obj → Prop
  | some (.coro _) => True
  | some (.cells _ e _) => e = ty
  | _ => False
/-- A plain access that whoever is in the virtual world W may make. -/
def EvC (ty : Nat) (ro : Nat → Prop) (W' w' : World) (e : Event) : Prop :=
  e = noRoomEvent ∨ ∃ a wr, e = ⟨.cell a, wr, false⟩ ∧ a.block < w'.heap.size ∧ (wr = true → ¬ ro a.block) ∧ ∃ c e' fr, W'.heap[a.block]? = some (.cells c e' fr) ∧ e' ≠ ty
/-- What a silent step does to the real world. -/
structure Mov (ty : Nat) (ro : Nat → Prop) (W W' w w' : World) (es : Array Event) : Prop where
  size : w.heap.size ≤ w'.heap.size
  vsize : W.heap.size ≤ W'.heap.size
  low : ∀ b : Nat, ro b → b < w.heap.size → w'.heap[b]? = w.heap[b]?
  vlow : ∀ b : Nat, ro b → b < W.heap.size → W'.heap[b]? = W.heap[b]?
  hid : ∀ b : Nat, Hid ty W.heap[b]? → w'.heap[b]? = w.heap[b]? ∧ W'.heap[b]? = W.heap[b]?
  ev : ∀ e ∈ es, EvC ty ro W' w' e
  rest : w'.tape = w.tape ∧ w'.os = w.os ∧ w'.output = w.output
  tyb : ∀ (b : Nat) (c : Array Value) (fr : Nat × Nat), b < W.heap.size → W'.heap[b]? = some (.cells c ty fr) → ∃ c' fr', W.heap[b]? = some (.cells c' ty fr')
/-- Whose walk it is, and what is asked of it. -/
structure Co where
  main : Bool
  ro : Nat → Prop
  J : Goroutine → World → Prop
/-- What a translation's text is read by: the program, the types' shapes, which functions are called plainly, how many slots; the lock's type; does it only read? -/
structure Cx where
  P : Program
  tt : Nat → S2
  cl : Nat → Bool
  n : Nat
  ty : Nat
  ext : Bool
  co : Co
/-- The judgement is closed under silent steps. -/
def Closed (P : Program) (ty : Nat) (ext : Bool) (co : Co) : Prop := ∀ g W, g.status = .running →
  (∀ w, Sim ty ext W w → ∃ g' w' es W', stepG P co.main g w = .go g' w' es ∧ Mov ty co.ro W W' w w' es ∧ Sim ty ext W' w' ∧ (ext = true → w'.heap = w.heap ∧ W' = W) ∧ co.J g' W') → co.J g W
def CallsJ (P : Program) (co : Co) (f : FuncId) (args : Array Value) (W : World) (R : Value → World → Prop) : Prop :=
  ∀ (c : Frame) (cs : List Frame), (∀ v W', R v W' → co.J (G (c.finish v) cs) W') → co.J (G (Frame.enter P f args .normal) (c :: cs)) W

/-! ### Memory -/
def one1 : Value → Bool
  | .agg _ => false
  | .tuple _ => false
  | _ => true
def cellsAre (w : World) (a : Addr) : Nat → List Value → Prop → Prop
  | _, [], R => R
  | i, v :: vs, R => w.cell? (a.add i) = some v ∧ cellsAre w a (i + 1) vs R
def ldWp (s : S1) (w : World) (a : Addr) (K : Value → Prop) : Prop :=
  match s with
  | .lf l => exL l fun v => w.cell? a = some v ∧ K v
  | .agg ls => exLs ls fun vs => cellsAre w a 0 vs (K (.agg vs.toArray))
/-- A cell may be written. -/
def wr (ro : Nat → Prop) (w : World) (a : Addr) : Prop := (∃ v, w.cell? a = some v) ∧ w.frozen? a = false ∧ ¬ ro a.block
def wrN (ro : Nat → Prop) (w : World) (a : Addr) (n : Nat) : Prop := ∀ j, j < n → wr ro w (a.add j)
def setN (a : Addr) : Nat → List Value → World → World
  | _, [], w => w
  | i, v :: vs, w => setN a (i + 1) vs (w.setCell (a.add i) v)
def one1s : List Value → Bool
  | [] => true
  | v :: vs => bif one1 v then one1s vs else false
def stWp (ro : Nat → Prop) (v : Value) (w : World) (a : Addr) (K : World → Prop) : Prop :=
  match v with
  | .agg vs => bif one1s vs.toList then wrN ro w a vs.toList.length ∧ K (setN a 0 vs.toList w) else False
  | v => bif one1 v then wr ro w a ∧ K (w.setCell a v) else False

/-- The cells from a on. -/
def cellsAt (w : World) (a : Option Addr) (vs : List Value) : Prop :=
  match a with
  | none => vs = []
  | some a => ∀ j v, vs[j]? = some v → w.cell? (a.add j) = some v
def nilIf (b : Bool) (a : Option Addr) : Prop := b = true → a = none
/-- 'append(s, x...)' of two slices. -/
def AppV (P : Program) (ty : Nat) (ro : Nat → Prop) (ats : List Nat) (args : List Value) (K : Option Addr → Nat → Nat → World → Prop) (w : World) : Prop :=
  ∃ (ts tx e : Nat) (base xb : Option Addr) (n c m cx : Nat) (i : TypeInfo) (z : Value) (old new : List Value),
    ats = [ts, tx] ∧ args = [.slice base n c, .slice xb m cx] ∧ P.underlying ts = some (.slice e) ∧ (∃ d, P.underlying tx = some d ∧ ∀ k, d ≠ .int k) ∧ P.info? e = some i ∧ i.zero = some z ∧ z.cells.size = i.size ∧
    i.bytes ≠ 0 ∧ e ≠ ty ∧ old.length = n * i.size ∧ new.length = m * i.size ∧ cellsAt w base old ∧ cellsAt w xb new ∧
    if n + m ≤ c then
      (match base with
       | none => new = [] ∧ K none (n + m) c w
       | some a => one1s new = true ∧ wrN ro w (a.add (n * i.size)) new.length ∧ K (some a) (n + m) c (setN (a.add (n * i.size)) 0 new w))
    else Builtin.nextslicecap (n + m) c * i.bytes ≤ 2 ^ 48 ∧
      ∀ nc, n + m ≤ nc → K (some ⟨w.heap.size, 0, none⟩) (n + m) nc (w.alloc (.cells (old.toArray ++ new.toArray ++ Builtin.zeroCells z.cells (nc - (n + m))) e))
/-- 'make([]T, n)'. -/
def MkV (P : Program) (ty t : Nat) (l c : Value) (K : Option Addr → Nat → Nat → World → Prop) (w : World) : Prop :=
  ∃ (k : IntKind) (n e : Nat) (i : TypeInfo) (z : Value), l = .int .i64 n ∧ c = .int .i64 n ∧ P.underlying t = some (.slice e) ∧ P.info? e = some i ∧ i.zero = some z ∧
    i.bytes * n ≤ 2 ^ 47 ∧ n < 2 ^ 63 ∧ i.size ≠ 0 ∧ k = .i64 ∧ e ≠ ty ∧ K (some ⟨w.heap.size, 0, none⟩) n n (w.alloc (.cells ((Array.range (n * i.size)).map (z.cells[· % z.cells.size]!)) e))
def lf1 (l : Lf) : S2 := .one (.lf l)
def lfD : TypeDesc → Lf
  | .int k => .int k
  | .bool => .bool
  | .string => .str
  | .pointer _ => .ptr
  | .slice _ => .slc
  | .map _ _ => .map
  | _ => .any
/-- What needs the program's tables alone. -/
def pureOf (P : Program) : Sem Value → Option Value
  | .pure a => some a
  | .program k => pureOf P (k P)
  | _ => none

def callWp (P : Program) (co : Co) (f : FuncId) (args : List Value) (sh : S2) (K : Value → World → Prop) (w : World) : Prop :=
  CallsJ P co f args.toArray w fun v w' => exS2 sh fun u => v = u ∧ K u w'

/-- 's[l:h]' of a slice. -/
def subS (a : Option Addr) (c l size : Nat) : Option Addr := if c = l then a else a.map (·.add (l * size))

def isAggD : TypeDesc → Bool
  | .struct _ => true
  | .array _ _ => true
  | _ => false
def s1Size : S1 → Nat
  | .lf _ => 1
  | .agg ls => ls.length
def s2one : S2 → Option S1
  | .one s => some s
  | .tup _ => none
/-- The shape of a type, held against the program's own table. -/
def tyS (X : Cx) (t : Nat) (k : S1 → Prop) : Prop :=
  optP (X.P.underlying t) fun d => optP (X.P.info? t) fun i => optP (s2one (X.tt t)) fun s =>
    match s with
    | .lf l => bif isAggD d then False else k (.lf l)
    | .agg ls => bif isAggD d && Nat.beq i.size ls.length then k (.agg ls) else False

/-! ### One operation -/
def isNilC : Operand → Bool
  | .const (.pointer none) => true
  | .const (.slice none _ _) => true
  | .const (.map none) => true
  | _ => false
def eqR (op : BinOp) (b : Bool) : Bool :=
  match op with
  | .eql => b
  | _ => !b
def plainD : TypeDesc → Bool
  | .int _ => true
  | .string => true
  | .bool => true
  | _ => false

def elemInfo (X : Cx) (e : Nat) (k : TypeInfo → Prop) : Prop := optP (X.P.info? e) k

/-- An upper or lower bound of a slice expression. -/
def bnd (o : Option Value) (d : Nat) (hi : Nat) (k : Nat → Prop) : Prop :=
  match o with
  | some v => optP (asI v) fun r => 0 ≤ r.2 ∧ r.2 ≤ (hi : Int) ∧ k r.2.toNat
  | none => k d

def dopIndexAddr (X : Cx) (t : Nat) (vx vi : Value) (K : Value → Prop) : Prop :=
  optP (asI vi) fun r => optP (X.P.underlying t) fun d =>
    match d, vx with
    | .array len e, .pointer p => optP p fun a => elemInfo X e fun i => 0 ≤ r.2 ∧ r.2 < (len : Int) ∧ K (.pointer (some (a.add (r.2.toNat * i.size))))
    | .slice e, .slice p len _ => elemInfo X e fun i => ∃ a, p = some a ∧ 0 ≤ r.2 ∧ r.2 < (len : Int) ∧ K (.pointer (some (a.add (r.2.toNat * i.size))))
    | _, _ => False

def dopSlice (X : Cx) (t : Nat) (vx : Value) (lo hi : Option Value) (K : Value → Prop) : Prop :=
  optP (X.P.underlying t) fun d =>
    match d, vx with
    | .slice e, .slice p len c => elemInfo X e fun i => bnd hi len c fun h => bnd lo 0 h fun l => K (.slice (subS p c l i.size) (h - l) (c - l))
    | .string, .string s => bnd hi s.size s.size fun h => bnd lo 0 h fun l => K (.string (s.extract l h))
    | .array n e, .pointer p => optP p fun a => elemInfo X e fun i => bnd hi n n fun h => bnd lo 0 h fun l => K (.slice (subS (some a) n l i.size) (h - l) (n - l))
    | _, _ => False

def isQuo : BinOp → Bool
  | .quo => true
  | .rem => true
  | _ => false
def isEq : BinOp → Bool
  | .eql => true
  | .neq => true
  | _ => false
def dopBin (X : Cx) (op : BinOp) (t : Nat) (x y : Operand) (vx vy : Value) (K : Value → World → Prop) (w : World) : Prop :=
  match vx, vy with
  | .int k a, .int k' b =>
    bif isQuo op then b ≠ 0 ∧ bif decide (k = k') then K (.int k (match op with | .quo => k.wrap (a.tdiv b) | _ => a.tmod b)) w else False
    else match op with
      | .shl => 0 ≤ b ∧ K (.int k (k.wrap (a * 2 ^ (min b.toNat k.bits)))) w
      | .shr => 0 ≤ b ∧ K (.int k (a.fdiv (2 ^ (min b.toNat k.bits)))) w
      | _ => optP (pureOf X.P (binOp op t vx vy)) fun v => K v w
  | .string a, .string b => (match op with
      | .add => ((a.size + b.size : Nat) : Int) ≤ 9223372036854775807 ∧ K (.string (a ++ b)) w
      | _ => optP (pureOf X.P (Op.stringOp op a b)) fun v => K v w)
  | .bool _, .bool _ => optP (pureOf X.P (do eqGuard op t x y vx vy; binOp op t vx vy)) fun v => K v w
  | _, _ => False

def isIntD : TypeDesc → Bool
  | .int _ => true
  | _ => false

def dopConvert (X : Cx) (src dst : Nat) (v : Value) (K : Value → World → Prop) (w : World) : Prop :=
  match v with
  | .int _ _ => optP (pureOf X.P (convert src dst v)) fun v' => K v' w
  | _ => False

def dopLen (X : Cx) (t : Nat) (v : Value) (K : Value → World → Prop) (w : World) : Prop :=
  optP (X.P.underlying t) fun d =>
    match d, v with
    | .slice _, .slice _ n _ => K (.int .i64 n) w
    | .string, .string s => K (.int .i64 s.size) w
    | _, _ => False

def dopBuiltin (X : Cx) (b : Builtin) (ats : List Nat) (ty : Nat) (args : List Value) (K : Value → World → Prop) (w : World) : Prop :=
  match b, args with
  | .len, [v] => (match ats with | t :: _ => dopLen X t v K w | [] => False)
  | .append, _ => bif X.ext then False else AppV X.P X.ty X.co.ro ats args (fun a n c w' => K (.slice a n c) w') w
  | .max, _ => optP (pureOf X.P (Builtin.max_ ats.toArray ty args.toArray)) fun v => K v w
  | .min, _ => optP (pureOf X.P (Builtin.min_ ats.toArray ty args.toArray)) fun v => K v w
  | _, _ => False

def evO (σ : Env) : Option Operand → (Option Value → Prop) → Prop
  | none, k => k none
  | some x, k => optP (σ.ev x) fun v => k (some v)
def evParts (σ : Env) : List (Nat × Operand) → (List (Nat × Value) → Prop) → Prop
  | [], k => k []
  | (i, x) :: xs, k => optP (σ.ev x) fun v => evParts σ xs fun vs => k ((i, v) :: vs)

/-- The cells of a slice's literal. -/
def sliceCells (P : Program) (t len : Nat) (parts : List (Nat × Value)) : Option (Array Value × Nat) :=
  match P.underlying t with
  | some (.slice e) => match P.info? e with
    | some i =>
      if len * i.size > 2 ^ 24 then none else
      (match (if len * i.size = 0 then some #[] else i.zero.map Value.cells) with
        | some zero => (Instr.fill (fun j => some (j * i.size, i.size)) ((Array.range (len * i.size)).map (zero[· % zero.size]!)) parts).map fun cs => (cs, e)
        | none => none)
    | none => none
  | _ => none

def wgL : List Value → Option (Int × Int)
  | [a, b] => (match a, b with | .int ka x, .int kb y => (match ka, kb with | .u64, .u32 => some (x, y) | _, _ => none) | _, _ => none)
  | _ => none
def wgZero (z : Value) : Option (Int × Int) :=
  match z with
  | .agg cs => wgL cs.toList
  | _ => none
def dop (X : Cx) (o : Oper) (σ : Env) (K : Value → World → Prop) (w : World) : Prop :=
  match o.op with
  | .move x => optP (σ.ev x) fun v => K v w
  | .assign x => optP (σ.ev x) fun v => K v w
  | .pick c a b => optP (σ.ev c) fun vc => optP (gv vc) fun t => cond t (optP (σ.ev a) fun v => K v w) (optP (σ.ev b) fun v => K v w)
  | .alloc e => bif X.ext then False else optP (X.P.info? e) fun i => optP i.zero fun z =>
      bif Nat.beq e X.ty then optP (wgZero z) fun _ => K (.pointer (some ⟨w.heap.size, 0, none⟩)) (w.alloc (.cells #[] e))
      else K (.pointer (some ⟨w.heap.size, 0, none⟩)) (w.alloc (.cells z.cells e))
  | .box e x => bif X.ext || Nat.beq e X.ty then False else optP (σ.ev x) fun v => K (.pointer (some ⟨w.heap.size, 0, none⟩)) (w.alloc (.cells v.cells e))
  | .build t ps => evParts σ ps.toList fun vs => optP (pureOf X.P (Instr.build t vs.toArray)) fun v => K v w
  | .buildSlice t len ps => bif X.ext then False else evParts σ ps.toList fun vs => optP (sliceCells X.P t len vs) fun r =>
      bif Nat.beq r.2 X.ty then False else K (.slice (some ⟨w.heap.size, 0, none⟩) len len) (w.alloc (.cells r.1 r.2))
  | .load t x => optP (σ.ev x) fun v => optP (asPtr v) fun a => tyS X t fun s => ldWp s w a fun u => K u w
  | .store t x y => bif X.ext then False else optP (σ.ev x) fun v => optP (asPtr v) fun a => optP (σ.ev y) fun u => optP (X.P.info? t) fun i =>
      bif Nat.beq u.cells.size i.size then stWp X.co.ro u w a fun w' => K undef w' else False
  | .binOp op t x y _ => optP (σ.ev x) fun a => optP (σ.ev y) fun b => dopBin X op t x y a b K w
  | .unOp op _ x => optP (σ.ev x) fun a => (match op, a with
      | .not, .bool b => K (.bool !b) w
      | _, _ => optP (pureOf X.P (Op.unary op a)) fun v => K v w)
  | .convert s d x => optP (σ.ev x) fun a => dopConvert X s d a K w
  | .makeFunc fn f c => evL σ f.toList fun fs => evL σ c.toList fun cs => K (.func fn fs.toArray cs.toArray) w
  | .makeSlice t l c => bif X.ext then False else optP (σ.ev l) fun a => optP (σ.ev c) fun b => MkV X.P X.ty t a b (fun a n c w' => K (.slice a n c) w') w
  | .makeChan t l => bif X.ext then False else optP (σ.ev l) fun a => (match a with
      | .int _ 0 => optP (X.P.underlying t) fun d => (match d with
          | .chan _ e => optP (X.P.info? e) fun _ => K (.chan (some w.heap.size)) (w.alloc hidC)
          | _ => False)
      | _ => False)
  | .slice t x lo hi none => optP (σ.ev x) fun a => evO σ lo fun l => evO σ hi fun h => dopSlice X t a l h fun v => K v w
  | .fieldAddr s x f => optP (σ.ev x) fun v => optP (asPtr v) fun a => optP (X.P.underlying s) fun d => (match d with
      | .struct fs => optP fs[f]? fun fl => optP (X.P.info? fl.type) fun i => bif Nat.beq i.size 0 then False else K (.pointer (some (a.add fl.offset))) w
      | _ => False)
  | .indexAddr t x i => optP (σ.ev x) fun a => optP (σ.ev i) fun b => dopIndexAddr X t a b fun v => K v w
  | .extract x i => optP (σ.ev x) fun a => optP (pureOf X.P (Instr.extract a i)) fun v => K v w
  | .call c => evL σ c.args.toList fun args => (match c.callee with
      | .builtin b => dopBuiltin X b c.argTypes.toList o.type args K w
      | .value f => optP (σ.ev f) fun v => optP (asFn v) fun r => bif X.cl r.1 then callWp X.P X.co r.1 (r.2.1.toList ++ args ++ r.2.2.toList) (X.tt o.type) K w else False
      | .invoke _ _ => False)
  | _ => False

/-! ### Regions, code, functions -/
def isGd (ops : List Oper) (i : Nat) : Bool :=
  match ops with
  | [] => false
  | o :: r => (match o.guard with | some (j, _) => bif Nat.beq i j then true else isGd r i | none => isGd r i)
def spl (g : Bool) (v : Value) (K : Value → Prop) : Prop :=
  bif g then (match gv v with | some t => cond t (K (.bool true)) (K (.bool false)) | none => K v) else K v
def dstK (n : Nat) (σ : Env) (d : Option Nat) (v : Value) (K : Env → Prop) : Prop :=
  match d with
  | none => K σ
  | some d => bif Nat.blt d n then K (σ.put d v) else False
def yieldOf (all : List Oper) (σ : Env) (j : Nat) (k : Option Bool → Prop) : Prop :=
  optP all[j]? fun o => optP o.dst fun d => optP (σ d) fun v => k (gv v)
def eqOB (a : Option Bool) (b : Bool) : Bool :=
  match a with
  | some t => (bif b then t else !t)
  | none => false

def denOps (X : Cx) (all : List Oper) : Nat → List Oper → Env → (Env → World → Prop) → World → Prop
  | _, [], σ, K, w => K σ w
  | i, o :: r, σ, K, w =>
    match o.guard with
    | none => dop X o σ (fun v w' => spl (isGd all i) v fun v' => dstK X.n σ o.dst v' fun σ' => denOps X all (i + 1) r σ' K w') w
    | some (j, want) => yieldOf all σ j fun y => cond (eqOB y want)
        (dop X o σ (fun v w' => spl (isGd all i) v fun v' => dstK X.n σ o.dst v' fun σ' => denOps X all (i + 1) r σ' K w') w)
        (dstK X.n σ o.dst undef fun σ' => denOps X all (i + 1) r σ' K w)

/-- For every value of the same make. -/
def allCs : List Value → (List Value → Prop) → Prop
  | [], k => k []
  | v :: vs, k => (match v with
    | .int kd _ => ∀ n : Int, allCs vs fun us => k (.int kd n :: us)
    | .bool _ => ∀ b : Bool, allCs vs fun us => k (.bool b :: us)
    | .string _ => ∀ s : ByteArray, allCs vs fun us => k (.string s :: us)
    | .pointer _ => ∀ a : Option Addr, allCs vs fun us => k (.pointer a :: us)
    | .slice _ _ _ => ∀ (a : Option Addr) (n c : Nat), allCs vs fun us => k (.slice a n c :: us)
    | .map _ => ∀ r : Option Nat, allCs vs fun us => k (.map r :: us)
    | _ => ∀ u : Value, allCs vs fun us => k (u :: us))
def allVs : List Value → (List Value → Prop) → Prop
  | [], k => k []
  | .agg cs :: vs, k => allCs cs.toList fun ds => allVs vs fun us => k (.agg ds.toArray :: us)
  | v :: vs, k => allCs [v] fun ds => allVs vs fun us => k (ds ++ us)
def sameC : List Value → List Value → Bool
  | [], [] => true
  | v :: vs, u :: us => (match v with
    | .int kd _ => (match u with | .int kd' _ => decide (kd = kd') && sameC vs us | _ => false)
    | .bool _ => (match u with | .bool _ => sameC vs us | _ => false)
    | .string _ => (match u with | .string _ => sameC vs us | _ => false)
    | .pointer _ => (match u with | .pointer _ => sameC vs us | _ => false)
    | .slice _ _ _ => (match u with | .slice _ _ _ => sameC vs us | _ => false)
    | .map _ => (match u with | .map _ => sameC vs us | _ => false)
    | _ => sameC vs us)
  | _, _ => false
def sameV : List Value → List Value → Bool
  | [], [] => true
  | .agg cs :: vs, u :: us => (match u with | .agg ds => sameC cs.toList ds.toList && sameV vs us | _ => false)
  | v :: vs, u :: us => sameC [v] [u] && sameV vs us
  | _, _ => false
/-- A loop: what holds at each round's head, and a number that each round lowers. -/
def LoopWp (body : List Value → World → (List Value → World → Prop) → Prop) (vs : List Value) (w : World) : Prop :=
  ∃ (I : List Value → World → Prop) (μ : List Value → World → Nat), I vs w ∧
    ∀ w, allVs vs fun us => I us w → body us w fun us' w' => bif sameV vs us' then I us' w' ∧ μ us' w' < μ us w else False

def opsDst : List Oper → List Nat
  | [] => []
  | o :: r => match o.dst with | some d => d :: opsDst r | none => opsDst r
def dsts : Code → List Nat
  | .region _ ops _ => opsDst ops.toList
  | .seq a b => dsts a ++ dsts b
  | .cond _ a b => dsts a ++ dsts b
  | .block _ b => dsts b
  | .loop b => dsts b
  | _ => []

/-! ### A region that draws its order: what only reads is done as early as may be and looked at again behind each effect -/
def opE (P : Program) (o : Oper) : Bool :=
  match o.op with
  | .alloc _ => true
  | .box _ _ => true
  | .buildSlice _ _ _ => true
  | .store _ _ _ => true
  | .makeSlice _ _ _ => true
  | .makeChan _ _ => true
  | .call c => (match c.callee with
      | .builtin .len => false
      | .builtin .max => false
      | .builtin .min => false
      | _ => true)
  | _ => false
/-- Does it look at memory? -/
def opR (P : Program) (o : Oper) : Bool :=
  match o.op with
  | .load _ _ => true
  | _ => false

def bit (i : Nat) : Nat := Nat.shiftLeft 1 i
def has (m i : Nat) : Bool := Nat.beq (Nat.land (Nat.shiftRight m i) 1) 1
def sub (a b : Nat) : Bool := Nat.beq (Nat.land a b) a
def edgesL (o : Oper) : List Nat := o.after.toList.filterMap fun e => bif Region.binds .any e then some e.on else none
def ancM (acc : List Nat) (es : List Nat) : Nat :=
  match es with
  | [] => 0
  | e :: r => Nat.lor (Nat.lor (bit e) (acc.getD e 0)) (ancM acc r)
def ancAll : List Oper → List Nat → List Nat
  | [], acc => acc
  | o :: r, acc => ancAll r (acc ++ [ancM acc (edgesL o)])
def guardL (all : List Oper) (o : Oper) : List Nat :=
  match o.guard with
  | some (g, _) => (match all[g]? with | some p => p.dst.toList | none => [])
  | none => []
def looksL (all : List Oper) (o : Oper) : List Nat := (o.op.operands.toList.filterMap fun | .tmp t => some t | _ => none) ++ guardL all o
def allB {α : Type} (p : α → Bool) : List α → Bool
  | [] => true
  | x :: xs => bif p x then allB p xs else false
def dstIs (o : Oper) (d : Nat) : Bool :=
  match o.dst with
  | some e => Nat.beq d e
  | none => false
/-- The text of a region is such that the rule below serves. -/
def okR (n : Nat) (all : List Oper) (anc : List Nat) : Bool :=
  allB (fun i => match all[i]? with
    | none => false
    | some o => allB (fun e => Nat.blt e i) (edgesL o) && Nat.beq (anc.getD i 0) (ancM anc (edgesL o)) &&
        (match o.guard with | some (g, _) => has (anc.getD i 0) g && (match all[g]? with | some p => p.dst.isSome | none => false) | none => true) &&
        (match o.op with | .select _ _ => false | _ => true) &&
        (match o.dst with
          | none => true
          | some d => Nat.blt d n && allB (fun j => match all[j]? with
              | none => false
              | some p => Nat.beq i j || (!(dstIs p d) && (!(memN d (looksL all p)) || has (anc.getD j 0) i || has (anc.getD i 0) j))) (List.range all.length)))
    (List.range all.length)

abbrev Vals := Nat → Option Value
def writer (all : List Oper) (t : Nat) : Nat → Option Nat
  | i => (match all with
    | [] => none
    | o :: r => bif dstIs o t then some i else writer r t (i + 1))
/-- What operation i finds in the slots. -/
def envAt (all : List Oper) (am : Nat) (σ : Env) (vs : Vals) : Env := fun t =>
  match writer all t 0 with
  | none => σ t
  | some j => bif has am j then vs j else σ t
def envEnd (all : List Oper) (σ : Env) (vs : Vals) : Env := fun t =>
  match writer all t 0 with
  | none => σ t
  | some j => vs j
def Vals.put (vs : Vals) (i : Nat) (v : Value) : Vals := fun j => bif Nat.beq j i then some v else vs j

/-- Is the operation carried out? -/
def wantK (vs : Vals) (o : Oper) (k : Bool → Prop) : Prop :=
  match o.guard with
  | none => k true
  | some (j, want) => optP (vs j) fun y => cond (eqOB (gv y) want) (k true) (k false)

def evalNE (X : Cx) (all : List Oper) (anc : List Nat) (σ : Env) (w : World) : List Nat → Nat → Vals → (Nat → Vals → Prop) → Prop
  | [], dn, vs, k => k dn vs
  | i :: is, dn, vs, k =>
    bif has dn i || !(sub (anc.getD i 0) dn) then evalNE X all anc σ w is dn vs k else
    optP all[i]? fun o => wantK vs o fun y =>
      bif y then
        bif opE X.P o then evalNE X all anc σ w is dn vs k
        else evL (envAt all (anc.getD i 0) σ vs) o.op.operands.toList fun _ => dop X o (envAt all (anc.getD i 0) σ vs) (fun v _ => spl (isGd all i) v fun v' => evalNE X all anc σ w is (Nat.lor dn (bit i)) (vs.put i v') k) w
      else evalNE X all anc σ w is (Nat.lor dn (bit i)) (vs.put i undef) k

/-- What was read ahead of an effect is read so behind it too. -/
def rechk (X : Cx) (all : List Oper) (anc : List Nat) (σ : Env) (w : World) (ea : Nat) (dn : Nat) (vs : Vals) : List Nat → Prop → Prop
  | [], R => R
  | i :: is, R =>
    bif has dn i && !(has ea i) then
      optP all[i]? fun o => bif opR X.P o && !(opE X.P o) then
          wantK vs o fun y => bif y then dop X o (envAt all (anc.getD i 0) σ vs) (fun v _ => vs i = some v) w ∧ rechk X all anc σ w ea dn vs is R
            else rechk X all anc σ w ea dn vs is R
        else rechk X all anc σ w ea dn vs is R
    else rechk X all anc σ w ea dn vs is R

def conjL (p : Nat → Prop) : List Nat → Prop
  | [] => True
  | [i] => p i
  | i :: is => p i ∧ conjL p is
def enabled (anc : List Nat) (dn : Nat) : List Nat → List Nat
  | [] => []
  | i :: is => bif !(has dn i) && sub (anc.getD i 0) dn then i :: enabled anc dn is else enabled anc dn is

def phase (X : Cx) (all : List Oper) (anc : List Nat) (σ : Env) (Q : Env → World → Prop) : Nat → Nat → Nat → Vals → World → Prop
  | 0, _, _, _, _ => False
  | f + 1, ea, dn, vs, w =>
    evalNE X all anc σ w (List.range all.length) dn vs fun dn vs =>
      match enabled anc dn (List.range all.length) with
      | [] => (bif allB (fun i => has dn i) (List.range all.length) then Q (envEnd all σ vs) w else False)
      | es => conjL (fun i => optP all[i]? fun o =>
          dop X o (envAt all (anc.getD i 0) σ vs) (fun v w' => spl (isGd all i) v fun v' =>
            rechk X all anc σ w' (Nat.lor ea (anc.getD i 0)) dn vs (List.range all.length)
              (phase X all anc σ Q f (Nat.lor ea (Nat.lor (bit i) (anc.getD i 0))) (Nat.lor dn (bit i)) (vs.put i v') w')) w) es

def denDraw (X : Cx) (all : List Oper) (σ : Env) (Q : Env → World → Prop) (w : World) : Prop :=
  bif okR X.n all (ancAll all []) then phase X all (ancAll all []) σ Q (all.length + 1) 0 0 (fun _ => none) w else False

/-! ### Code -/
def den (X : Cx) : Code → Env → (Exit → Env → World → Prop) → World → Prop
  | .skip, σ, Q, w => Q .normal σ w
  | .region _ ops false, σ, Q, w => denOps X ops.toList 0 ops.toList σ (Q .normal) w
  | .region _ ops true, σ, Q, w => denDraw X ops.toList σ (Q .normal) w
  | .seq a b, σ, Q, w => den X a σ (fun e σ' w' => match e with | .normal => den X b σ' Q w' | e => Q e σ' w') w
  | .cond c a b, σ, Q, w => optP (σ.ev c) fun v => optP (gv v) fun t => cond t (den X a σ Q w) (den X b σ Q w)
  | .block id c, σ, Q, w => den X c σ (fun e σ' w' => match e with | .exit id' => (bif Nat.beq id' id then Q .normal σ' w' else Q (.exit id') σ' w') | e => Q e σ' w') w
  | .exit id, σ, Q, w => Q (.exit id) σ w
  | .ret, σ, Q, w => Q .ret σ w
  | .loop c, σ, Q, w => getL σ (known σ (dsts c)) fun vs => LoopWp (fun vs w K =>
      den X c ((σ.forget (dsts c)).putL (known σ (dsts c)) vs) (fun e σ' w' => match e with | .normal => getL σ' (known σ (dsts c)) fun vs' => K vs' w' | e => Q e σ' w') w) vs w
  | _, _, _, _ => False

def resOne (X : Cx) (σ : Env) (w : World) (r : ResultVar) (k : Value → Prop) : Prop :=
  match r with
  | .tmp t => optP (σ t) k
  | .cell _ _ => False
def resAll (X : Cx) (σ : Env) (w : World) : List ResultVar → (List Value → Prop) → Prop
  | [], k => k []
  | r :: rs, k => resOne X σ w r fun v => resAll X σ w rs fun vs => k (v :: vs)
def tupled : List Value → Value
  | [v] => v
  | vs => .tuple vs.toArray
def denF (X : Cx) (fn : Func) (args : List Value) (K : Value → World → Prop) (w : World) : Prop :=
  optP fn.body fun c => den { X with n := fn.ntmps } c (fun t => args[t]?) (fun e σ w' =>
    match e with
    | .normal => resAll X σ w' fn.results.toList fun vs => K (tupled vs) w'
    | .ret => resAll X σ w' fn.results.toList fun vs => K (tupled vs) w'
    | _ => False) w
end Go.Cv
