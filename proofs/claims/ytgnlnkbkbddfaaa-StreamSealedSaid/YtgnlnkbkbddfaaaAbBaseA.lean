/- Ab.Core: abstract values, what they stand for in memory (Rep), what is promised for ever (Gh), and that it is kept. -/
import Derived.Calls
import Derived.Orders
import Derived.Laws.CopyRow
import Derived.Laws.Cells
import Derived.Laws.Entries
namespace Go.Ab

/-- A value as the logic sees it: a list stands for a slice whose cells stay as they are. -/
inductive AV where
  | sc (v : Value)
  | lst (m : Nat) (xs : List AV)
  | ref (x : AV)
  | agg (cs : List AV)
  | tup (xs : List AV)
  | may (b : Bool) (x : AV)
  | und
  deriving Inhabited

def AV.cells : AV → List AV
  | .agg cs => cs
  | x => [x]

def AV.strip : AV → AV
  | .lst _ xs => .lst 0 xs
  | x => x

/-- The list of nothing, behind which nothing lies, stays what it is. -/
def AV.strip2 : AV → AV
  | .lst 2 [] => .lst 2 []
  | x => x.strip

/-- As it is handed to others. -/
def AV.plain : AV → AV
  | .lst _ xs => .lst 0 xs
  | .agg cs => .agg (cs.map AV.strip)
  | x => x

def one : Value → Bool
  | .agg _ | .tuple _ => false
  | _ => true

/-- Who may still write to a block. -/
inductive Owner where
  | blk
  | cell (B off : Nat)
  | slot (d t : Nat)
  deriving DecidableEq

/-- The ghost: how many cells of a block stay as they are, and who owns it. -/
structure Gh where
  fz : Nat → Nat
  own : Nat → Option Owner

def flat (xs : List AV) : List AV := xs.flatMap AV.cells

inductive Rep (g : Gh) (w : World) : AV → Value → Prop
  | sc (v : Value) (h : one v = true) : Rep g w (.sc v) v
  | und (v : Value) : Rep g w .und v
  | nil (base : Option Addr) (cap : Nat) : Rep g w (.lst 0 []) (.slice base 0 cap)
  | nil2 (base : Option Addr) : Rep g w (.lst 2 []) (.slice base 0 0)
  | lst (xs : List AV) (B off n cap s : Nat) (f : Nat → Value) (hn : n = xs.length) (hcap : n ≤ cap) (hs : 0 < s) (hx : ∀ x ∈ xs, x.cells.length = s) (hf : off + n * s ≤ g.fz B)
      (hc : ∀ (i : Nat) (x : AV), (flat xs)[i]? = some x → w.cell? ⟨B, off + i, none⟩ = some (f i)) (ho : ∀ (i : Nat) (x : AV), (flat xs)[i]? = some x → one (f i) = true)
      (hr : ∀ (i : Nat) (x : AV), (flat xs)[i]? = some x → Rep g w x (f i)) : Rep g w (.lst 0 xs) (.slice (some ⟨B, off, none⟩) n cap)
  | ref (x : AV) (B off : Nat) (f : Nat → Value) (hf : off + x.cells.length ≤ g.fz B)
      (hc : ∀ (i : Nat) (y : AV), x.cells[i]? = some y → w.cell? ⟨B, off + i, none⟩ = some (f i)) (ho : ∀ (i : Nat) (y : AV), x.cells[i]? = some y → one (f i) = true)
      (hr : ∀ (i : Nat) (y : AV), x.cells[i]? = some y → Rep g w y (f i)) : Rep g w (.ref x) (.pointer (some ⟨B, off, none⟩))
  | agg (cs : List AV) (vs : Array Value) (hl : vs.size = cs.length) (ho : ∀ (i : Nat) (v : Value), vs[i]? = some v → one v = true) (hr : ∀ (i : Nat) (x : AV) (v : Value), cs[i]? = some x → vs[i]? = some v → Rep g w x v) : Rep g w (.agg cs) (.agg vs)
  | tup (cs : List AV) (vs : Array Value) (hl : vs.size = cs.length) (hr : ∀ (i : Nat) (x : AV) (v : Value), cs[i]? = some x → vs[i]? = some v → Rep g w x v) : Rep g w (.tup cs) (.tuple vs)
  | may (b : Bool) (x : AV) (v : Value) (h : b = true → Rep g w x v) (h' : b = false → v = undef) : Rep g w (.may b x) v

/-- The world outside is as it was. -/
def Env3 (w w' : World) : Prop := w'.os = w.os ∧ w'.output = w.output ∧ w'.tape = w.tape
theorem Env3.refl (w : World) : Env3 w w := ⟨rfl, rfl, rfl⟩

/-- What is kept from a moment to a later one. -/
structure Keep (g : Gh) (w : World) (g' : Gh) (w' : World) : Prop where
  size : w.heap.size ≤ w'.heap.size
  fz : ∀ B, g.fz B ≤ g'.fz B
  cell : ∀ B k, k < g.fz B → w'.cell? ⟨B, k, none⟩ = w.cell? ⟨B, k, none⟩
  env : Env3 w w'

theorem Keep.refl (g : Gh) (w : World) : Keep g w g w := ⟨Nat.le_refl _, fun _ => Nat.le_refl _, fun _ _ _ => rfl, .refl _⟩

theorem Keep.trans {g w g1 w1 g2 w2} (h : Keep g w g1 w1) (h' : Keep g1 w1 g2 w2) : Keep g w g2 w2 :=
  ⟨Nat.le_trans h.size h'.size, fun B => Nat.le_trans (h.fz B) (h'.fz B), fun B k hk => (h'.cell B k (Nat.lt_of_lt_of_le hk (h.fz B))).trans (h.cell B k hk), ⟨h'.env.1.trans h.env.1, h'.env.2.1.trans h.env.2.1, h'.env.2.2.trans h.env.2.2⟩⟩

theorem flat_length {xs : List AV} {s : Nat} (hx : ∀ x ∈ xs, x.cells.length = s) : (flat xs).length = xs.length * s := by
  induction xs with
  | nil => simp [flat]
  | cons x xs ih =>
    have h1 := hx x (by simp)
    have h2 := ih fun y hy => hx y (by simp [hy])
    simp only [flat, List.flatMap_cons, List.length_append, List.length_cons] at h2 ⊢
    rw [h2, h1, Nat.succ_mul, Nat.add_comm]

theorem lt_of_getElem? {α : Type} {l : List α} {i : Nat} {x : α} (h : l[i]? = some x) : i < l.length :=
  (List.getElem?_eq_some_iff.1 h).1

theorem Rep.keep {g w g' w'} (hk : Keep g w g' w') {x : AV} {v : Value} (h : Rep g w x v) : Rep g' w' x v := by
  induction h with
  | sc v h => exact .sc v h
  | und v => exact .und v
  | nil base cap => exact .nil base cap
  | nil2 base => exact .nil2 base
  | lst xs B off n cap s f hn hcap hs hx hf hc ho hr ih =>
    refine .lst xs B off n cap s f hn hcap hs hx (Nat.le_trans hf (hk.fz B)) (fun i x hi => ?_) ho ih
    have hl := lt_of_getElem? hi
    rw [flat_length hx, ← hn] at hl
    rw [hk.cell B (off + i) (by omega)]
    exact hc i x hi
  | ref x B off f hf hc ho hr ih =>
    refine .ref x B off f (Nat.le_trans hf (hk.fz B)) (fun i y hi => ?_) ho ih
    have hl := lt_of_getElem? hi
    rw [hk.cell B (off + i) (by omega)]
    exact hc i y hi
  | agg cs vs hl ho _ ih => exact .agg cs vs hl ho ih
  | tup cs vs hl _ ih => exact .tup cs vs hl ih
  | may b x v _ h' ih => exact .may b x v ih h'

/-- A list whose owner alone may go on with it: 1: its cells stay, behind them is free; 2: nobody else knows of them. -/
def Front (g : Gh) (w : World) (o : Owner) (xs : List AV) (v : Value) : Prop :=
  ∃ base cap, v = .slice base xs.length cap ∧ (xs.length = cap ∨ ∃ B off s c E, base = some ⟨B, off, none⟩ ∧ 0 < s ∧ (∀ x ∈ xs, x.cells.length = s) ∧ 0 < xs.length ∧ xs.length ≤ cap ∧
    g.own B = some o ∧ g.fz B = off + xs.length * s ∧ w.heap[B]? = some (.cells c E (0, 0)) ∧ off + cap * s ≤ c.size)

def Uniq (g : Gh) (w : World) (o : Owner) (xs : List AV) (v : Value) : Prop :=
  (∃ base, xs = [] ∧ v = .slice base 0 0) ∨
  ∃ B off cap s c E, ∃ f : Nat → Value, v = .slice (some ⟨B, off, none⟩) xs.length cap ∧ 0 < s ∧ (∀ x ∈ xs, x.cells.length = s) ∧ 0 < xs.length ∧ g.own B = some o ∧ g.fz B = 0 ∧
    w.heap[B]? = some (.cells c E (0, 0)) ∧ off + cap * s ≤ c.size ∧ xs.length ≤ cap ∧
    (∀ (i : Nat) (x : AV), (flat xs)[i]? = some x → c[off + i]? = some (f i) ∧ one (f i) = true) ∧ (∀ (i : Nat) (x : AV), (flat xs)[i]? = some x → Rep g w x (f i)) ∧ ∀ (i : Nat) (v : Value), c[i]? = some v → one v = true

end Go.Ab

/- Ab.Eval: what an operation does to an abstract state, as a function that simp opens. -/
namespace Go.Ab

abbrev Env := Nat → AV
inductive AB where
  | cells (cs : List AV)
  | frz (cs : List AV)
  | raw (o : Obj)
  deriving Inhabited
abbrev Hp := Nat → Option AB

def upd (e : Env) (t : Nat) (x : AV) (u : Nat) : AV := if u = t then x else e u
def hset (H : Hp) (B : Nat) (b : AB) (D : Nat) : Option AB := if D = B then some b else H D

/-- An environment written out. -/
def ofL : List (Nat × AV) → Nat → AV
  | [], _ => .und
  | (t, x) :: l, u => if u = t then x else ofL l u

inductive TK where
  | int (k : IntKind)
  | bool
  | str
  | slice (e : TypeId)
  | arr (n : Nat) (e : TypeId)
  | struct (fs : List (Nat × TypeId))
  | map (k e : TypeId)
  | ptr (e : TypeId)
  | func
  | iface
  | other

structure TI where
  size : Nat
  bytes : Nat
  kind : TK
  zero : List Value

def TI.agg (i : TI) : Bool :=
  match i.kind with
  | .arr _ _ | .struct _ => true
  | _ => false

abbrev Types := TypeId → Option TI

def aval : Value → AV
  | .slice none 0 0 => .lst 2 []
  | v => .sc v

def unmay : AV → Bool × AV
  | .may b x => (b, x)
  | x => (true, x)

/-- May be copied: not the only one of its memory. -/
def AV.frzn : AV → Bool
  | .lst 2 (_ :: _) => false
  | _ => true

/-- Its cells are known. -/
def AV.good : AV → Bool
  | .und | .tup _ | .may _ _ => false
  | _ => true

def isByte : AV → Bool
  | .sc (.int .u8 n) => decide (0 ≤ n ∧ n < 256)
  | _ => false

def byteOf : AV → UInt8
  | .sc (.int .u8 n) => UInt8.ofNat n.toNat
  | _ => 0

def str (xs : List AV) : ByteArray := ⟨(xs.map byteOf).toArray⟩

def arg (e : Env) : Operand → Option (Bool × AV)
  | .tmp t => some (unmay (e t))
  | .const v => if one v then some (true, aval v) else none
  | .func f => some (true, .sc (.func (.func f) #[] #[]))
  | .global _ => none

def fits (i : TI) : AV → Bool
  | .agg cs => i.agg && cs.length == i.size
  | .tup _ | .may _ _ | .und => false
  | _ => !i.agg

def part (i : TI) (cs : List AV) (off : Nat) : Option AV :=
  if i.agg then (if off + i.size ≤ cs.length then some (.agg ((cs.drop off).take i.size)) else none) else cs[off]?

def cmp (op : BinOp) (a b : Int) : Option Bool :=
  match op with
  | .eql => some (a == b) | .neq => some (a != b) | .lss => some (decide (a < b)) | .leq => some (decide (a ≤ b))
  | .gtr => some (decide (a > b)) | .geq => some (decide (a ≥ b)) | _ => none

def bits (op : BinOp) (k : IntKind) (a b : Int) : Option Int :=
  let x := BitVec.ofInt k.bits a
  let y := BitVec.ofInt k.bits b
  match op with
  | .and => some (k.wrap (x &&& y).toNat) | .or => some (k.wrap (x ||| y).toNat)
  | .xor => some (k.wrap (x ^^^ y).toNat) | .andNot => some (k.wrap (x &&& ~~~y).toNat) | _ => none

def intBin (op : BinOp) (k : IntKind) (a b : Int) : Option (Prop × Value) :=
  match op with
  | .add => some (True, .int k (k.wrap (a + b)))
  | .sub => some (True, .int k (k.wrap (a - b)))
  | .mul => some (True, .int k (k.wrap (a * b)))
  | .quo => some (b ≠ 0, .int k (k.wrap (a.tdiv b)))
  | .rem => some (b ≠ 0, .int k (a.tmod b))
  | .shl => some (0 ≤ b, .int k (k.wrap (a * 2 ^ (min b.toNat k.bits))))
  | .shr => some (0 ≤ b, .int k (a.fdiv (2 ^ (min b.toNat k.bits))))
  | .and | .or | .xor | .andNot => (bits op k a b).map fun n => (True, .int k n)
  | _ => (cmp op a b).map fun r => (True, .bool r)

/-- '==' at a kind of type, where it is not of numbers or strings. -/
def veq : TK → Value → Value → Option Bool
  | .bool, .bool a, .bool b => some (a == b)
  | .ptr _, .pointer none, .pointer b => some b.isNone
  | .ptr _, .pointer (some _), .pointer none => some false
  | .map _ _, .map none, .map b => some b.isNone
  | .map _ _, .map (some _), .map none => some false
  | .func, .nilFunc, .nilFunc => some true
  | .func, .nilFunc, .func _ _ _ => some false
  | .func, .func _ _ _, .nilFunc => some false
  | .iface, .nilIface, .iface _ _ => some false
  | .iface, .iface _ _, .nilIface => some false
  | _, _, _ => none

def abin (op : BinOp) (k : Option TI) : AV → AV → Option (Prop × Value)
  | .sc (.int k a), .sc (.int k' b) => if k = k' ∨ op = .shl ∨ op = .shr then intBin op k a b else none
  | .sc (.string a), .sc (.string b) => match op with
    | .eql => some (True, .bool (a.toList == b.toList))
    | .neq => some (True, .bool !(a.toList == b.toList))
    | _ => none
  | .sc a, .sc b => match op, k.bind fun i => veq i.kind a b with
    | .eql, some r => some (True, .bool r)
    | .neq, some r => some (True, .bool !r)
    | _, _ => none
  | _, _ => none

/-- Parts laid into cells. -/
def afill (place : Nat → Option (Nat × Nat)) (cs : List AV) : List (Nat × AV) → Option (List AV)
  | [] => some cs
  | (i, x) :: rest =>
    match place i with
    | none => none
    | some (off, size) =>
      if x.cells.length = size ∧ off + size ≤ cs.length then afill place (cs.take off ++ x.cells ++ cs.drop (off + size)) rest else none

/-- The fields' places: all must be of the table. -/
def places (T : Types) : List (Nat × TypeId) → Option (List (Nat × Nat))
  | [] => some []
  | (off, ft) :: l => match T ft, places T l with
    | some i, some r => some ((off, i.size) :: r)
    | _, _ => none

def args (e : Env) : List Operand → Option (Bool × List AV)
  | [] => some (true, [])
  | x :: l => match arg e x, args e l with
    | some (b, a), some (c, as) => some (b && a.frzn && c, a.plain :: as)
    | _, _ => none

def scs : List AV → Option (List Value)
  | [] => some []
  | .sc v :: l => (scs l).map (v :: ·)
  | _ => none

def pargs (e : Env) : List (Nat × Operand) → Option (Bool × List (Nat × AV))
  | [] => some (true, [])
  | (i, x) :: l => match arg e x, pargs e l with
    | some (b, a), some (c, as) => some (b && a.frzn && a.good && c, (i, a.strip) :: as)
    | _, _ => none

def qargs (e : Env) : List (Nat × Operand) → Option (Bool × List (Nat × AV))
  | [] => some (true, [])
  | (i, x) :: l => match arg e x, qargs e l with
    | some (b, a), some (c, as) => some (b && a.frzn && a.good && c, (i, a.plain) :: as)
    | _, _ => none

/-- An operation that leaves the heap, and other values, as they are: its condition, and its value. -/
def apure (T : Types) (o : Op) (e : Env) (H : Hp) : Option (Prop × AV) :=
  match o with
  | .move x | .assign x => (arg e x).map fun (b, a) => ((b && a.frzn) = true, a.strip2)
  | .pick c x y => match arg e c, arg e x, arg e y with
    | some (bc, .sc (.bool c)), some (bx, .sc (.bool x)), some (by_, .sc (.bool y)) => some (bc = true ∧ (c = true → bx = true) ∧ (c = false → by_ = true), .sc (.bool (bif c then x else y)))
    | some (bc, .sc (.bool c)), some (bx, x), some (by_, y) => some (bc = true ∧ (c = true → (bx && x.frzn) = true) ∧ (c = false → (by_ && y.frzn) = true), bif c then x.strip else y.strip)
    | _, _, _ => none
  | .nilCheck x => match arg e x with
    | some (b, .sc (.pointer (some a))) => some (b = true, .sc (.pointer (some a)))
    | some (b, .ref x) => some (b = true, .ref x)
    | _ => none
  | .binOp op t x y _ => match arg e x, arg e y with
    | some (bx, x), some (by_, y) => (abin op (T t) x y).map fun (p, v) => ((bx && by_) = true ∧ p, .sc v)
    | _, _ => none
  | .unOp op _ x => match op, arg e x with
    | .not, some (b, .sc (.bool v)) => some (b = true, .sc (.bool !v))
    | .neg, some (b, .sc (.int k n)) => some (b = true, .sc (.int k (k.wrap (0 - n))))
    | .xor, some (b, .sc (.int k n)) => (bits .xor k (if k.signed then -1 else k.max) n).map fun m => (b = true, .sc (.int k m))
    | _, _ => none
  | .convert s d x => match T s, T d, arg e x with
    | some _, some { kind := .int k, .. }, some (b, .sc (.int _ n)) => some (b = true, .sc (.int k (k.wrap n)))
    | some _, some { kind := .str, .. }, some (b, .sc (.string s)) => some (b = true, .sc (.string s))
    | some { kind := .slice et, .. }, some { kind := .str, .. }, some (b, .lst m xs) => match T et with
      | some { kind := .int .u8, .. } => some (b = true ∧ m ≠ 2 ∧ xs.all isByte = true, .sc (.string (str xs)))
      | _ => none
    | _, _, _ => none
  | .extract x i => match arg e x with
    | some (b, .tup xs) => match xs[i]? with
      | some y => some (b = true, y)
      | none => none
    | _ => none
  | .field t x f => match T t, arg e x with
    | some { kind := .struct fs, .. }, some (b, .agg cs) => match fs[f]? with
      | some (off, ft) => match T ft with
        | some i => (part i cs off).map fun y => (b = true, y)
        | none => none
      | none => none
    | _, _ => none
  | .index t x i => match T t, arg e x, arg e i with
    | some { kind := .arr n et, .. }, some (b, .agg cs), some (bi, .sc (.int _ k)) => match T et with
      | some ti => (part ti cs (k.toNat * ti.size)).map fun y => ((b && bi) = true ∧ 0 ≤ k ∧ k < n, y)
      | none => none
    | _, _, _ => none
  | .fieldAddr t x f => match T t, arg e x with
    | some { kind := .struct fs, .. }, some (b, p) => match fs[f]? with
      | some (off, ft) => match T ft, p with
        | some i, .sc (.pointer (some ⟨B, o, none⟩)) => if i.size = 0 then none else some (b = true, .sc (.pointer (some ⟨B, o + off, none⟩)))
        | some i, .ref (.agg cs) => if i.size = 0 then none else (part i cs off).map fun y => (b = true ∧ (i.agg || fits i y) = true, .ref y)
        | _, _ => none
      | none => none
    | _, _ => none
  | .indexAddr t x i => match T t, arg e x, arg e i with
    | some { kind := .slice et, .. }, some (b, .lst m xs), some (bi, .sc (.int _ k)) => match T et with
      | some ti => some ((b && bi) = true ∧ m ≠ 2 ∧ 0 ≤ k ∧ k < (xs.length : Int) ∧ (xs.getD k.toNat .und).cells.length = ti.size, .ref (xs.getD k.toNat .und))
      | none => none
    | some { kind := .slice et, .. }, some (b, .sc (.slice (some ⟨B, o, none⟩) n _)), some (bi, .sc (.int _ k)) => match T et with
      | some ti => some ((b && bi) = true ∧ 0 ≤ k ∧ k < (n : Int), .sc (.pointer (some ⟨B, o + k.toNat * ti.size, none⟩)))
      | none => none
    | some { kind := .arr n et, .. }, some (b, .sc (.pointer (some ⟨B, o, none⟩))), some (bi, .sc (.int _ k)) => match T et with
      | some ti => some ((b && bi) = true ∧ 0 ≤ k ∧ k < (n : Int), .sc (.pointer (some ⟨B, o + k.toNat * ti.size, none⟩)))
      | none => none
    | some { kind := .arr n et, .. }, some (b, .ref (.agg cs)), some (bi, .sc (.int _ k)) => match T et with
      | some ti => (part ti cs (k.toNat * ti.size)).map fun y => ((b && bi) = true ∧ 0 ≤ k ∧ k < (n : Int) ∧ (ti.agg || fits ti y) = true, .ref y)
      | none => none
    | _, _, _ => none
  | .load t x => match T t, arg e x with
    | some i, some (b, .ref y) => some (b = true ∧ fits i y = true, y)
    | some i, some (b, .sc (.pointer (some ⟨B, o, none⟩))) => match H B with
      | some (.cells cs) =>
        if i.agg then (if o + i.size ≤ cs.length then some (b = true ∧ ((cs.drop o).take i.size).all AV.frzn = true, .agg (((cs.drop o).take i.size).map AV.strip2)) else none)
        else (cs[o]?).map fun y => ((b && y.frzn) = true, y.strip)
      | some (.frz cs) => (part i cs o).map fun y => (b = true, y)
      | _ => none
    | _, _ => none
  | .build t ps => match T t, pargs e ps.toList with
    | some { kind := .struct fs, zero := z, .. }, some (b, qs) => match places T fs with
      | some pl => (afill (fun i => pl[i]?) (z.map aval) qs).map fun cs => (b = true, .agg cs)
      | none => none
    | some { kind := .arr _ et, zero := z, .. }, some (b, qs) => match T et with
      | some ti => (afill (fun i => some (i * ti.size, ti.size)) (z.map aval) qs).map fun cs => (b = true, .agg cs)
      | none => none
    | _, _ => none
  | .makeFunc fn fi ca => match args e fi.toList, args e ca.toList with
    | some (b, xs), some (c, ys) => match scs xs, scs ys with
      | some us, some vs => some ((b && c) = true, .sc (.func fn us.toArray vs.toArray))
      | _, _ => none
    | _, _ => none
  | .makeInterface t x => match T t, arg e x with
    | some { kind := .iface, .. }, _ => none
    | some _, some (b, .sc v) => some (b = true, .sc (.iface t v))
    | some _, some (b, .agg cs) => (scs cs).map fun vs => (b = true, .sc (.iface t (.agg vs.toArray)))
    | _, _ => none
  | .slice t x lo hi none => match T t, arg e x with
    | some { kind := .slice et, .. }, some (b, .lst m xs) =>
      match T et, (match lo with | none => some (true, AV.sc (.int .i64 0)) | some l => arg e l), (match hi with | none => some (true, AV.sc (.int .i64 xs.length)) | some h => arg e h) with
      | some ti, some (bl, .sc (.int _ l)), some (bh, .sc (.int _ h)) => some ((b && bl && bh) = true ∧ m ≠ 2 ∧ 0 ≤ l ∧ l ≤ h ∧ h ≤ (xs.length : Int) ∧ (l < h → (xs.getD l.toNat .und).cells.length = ti.size), .lst 0 ((xs.drop l.toNat).take (h - l).toNat))
      | _, _, _ => none
    | some { kind := .str, .. }, some (b, .sc (.string s)) =>
      match (match lo with | none => some (true, AV.sc (.int .i64 0)) | some l => arg e l), (match hi with | none => some (true, AV.sc (.int .i64 s.size)) | some h => arg e h) with
      | some (bl, .sc (.int _ l)), some (bh, .sc (.int _ h)) => some ((b && bl && bh) = true ∧ 0 ≤ l ∧ l ≤ h ∧ h ≤ (s.size : Int), .sc (.string (s.extract l.toNat h.toNat)))
      | _, _ => none
    | _, _ => none
  | .call { callee := .builtin .len, args := as, argTypes := ts } => match as.toList, ts.toList with
    | [x], [t] => match T t, arg e x with
      | some { kind := .slice _, .. }, some (b, .lst _ xs) => some (b = true, .sc (.int .i64 xs.length))
      | some { kind := .slice _, .. }, some (b, .sc (.slice _ n _)) => some (b = true, .sc (.int .i64 n))
      | some { kind := .str, .. }, some (b, .sc (.string s)) => some (b = true, .sc (.int .i64 s.size))
      | _, _ => none
    | _, _ => none
  | _ => none

end Go.Ab

/- Ab.Logic: related states, what a run may turn, and the rules of code. -/
namespace Go.Ab

structure Inv (g : Gh) (w : World) : Prop where
  fresh : ∀ B, w.heap.size ≤ B → g.own B = none ∧ g.fz B = 0
  cells : ∀ B D i, g.own B = some (.cell D i) → g.own D = some .blk

def SlotRep (g : Gh) (w : World) (o : Owner) (x : AV) (v : Value) : Prop :=
  match x with
  | .lst 0 xs => Rep g w (.lst 0 xs) v
  | .lst 1 xs => Rep g w (.lst 0 xs) v ∧ Front g w o xs v
  | .lst 2 xs => Uniq g w o xs v
  | x => Rep g w x v

def BRel (g : Gh) (w : World) (B : Nat) : AB → Prop
  | .cells cs => ∃ (c : Array Value) (E : TypeId), w.heap[B]? = some (.cells c E (0, 0)) ∧ c.size = cs.length ∧ g.fz B = 0 ∧
      ∀ (i : Nat) (x : AV) (v : Value), cs[i]? = some x → c[i]? = some v → SlotRep g w (.cell B i) x v ∧ one v = true
  | .frz cs => cs.length ≤ g.fz B ∧ ∃ (c : Array Value) (E : TypeId) (fr : Nat × Nat), w.heap[B]? = some (.cells c E fr) ∧ c.size = cs.length ∧
      ∀ (i : Nat) (x : AV) (v : Value), cs[i]? = some x → c[i]? = some v → Rep g w x v ∧ one v = true
  | .raw o => (∀ c E fr, o ≠ .cells c E fr) ∧ w.heap[B]? = some o

def HRel (g : Gh) (w : World) (H : Hp) : Prop := ∀ (B : Nat) (b : AB), H B = some b → g.own B = some .blk ∧ BRel g w B b

/-- What stays the same within a function: how deep it runs, what it deferred, how many slots it has. -/
structure Cx where
  d : Nat
  ds : List Deferred
  nt : Nat

structure SRel (g : Gh) (C : Cx) (e : Env) (H : Hp) (a : Act) (w : World) : Prop where
  inv : Inv g w
  heap : HRel g w H
  defers : a.defers = C.ds
  size : C.nt ≤ a.tmps.size
  slots : ∀ t, e t ≠ .und → ∃ v, a.tmps[t]? = some v ∧ SlotRep g w (.slot C.d t) (e t) v

/-- What a run at depth d with these blocks may turn. -/
def Foot (d : Nat) (H : Hp) (B : Nat) : Owner → Prop
  | .blk => H B ≠ none
  | .cell C _ => H C ≠ none
  | .slot d' _ => d ≤ d'

structure Guar (d : Nat) (H H' : Hp) (g : Gh) (w : World) (g' : Gh) (w' : World) : Prop where
  keep : Keep g w g' w'
  prot : ∀ B o, g.own B = some o → ¬ Foot d H B o → g'.own B = some o ∧ ¬ Foot d H' B o ∧ g'.fz B = g.fz B ∧ w'.heap[B]? = w.heap[B]?

theorem Guar.refl {d H g w} : Guar d H H g w g w := ⟨.refl _ _, fun _ _ h hf => ⟨h, hf, rfl, rfl⟩⟩

theorem Guar.trans {d H H1 H2 g w g1 w1 g2 w2} (h : Guar d H H1 g w g1 w1) (h' : Guar d H1 H2 g1 w1 g2 w2) : Guar d H H2 g w g2 w2 := by
  refine ⟨h.keep.trans h'.keep, fun B o ho hf => ?_⟩
  obtain ⟨a1, a2, a3, a4⟩ := h.prot B o ho hf
  obtain ⟨b1, b2, b3, b4⟩ := h'.prot B o a1 a2
  exact ⟨b1, b2, b3.trans a3, b4.trans a4⟩

theorem cell?_of_heap {w w' : World} {B off : Nat} (h : w'.heap[B]? = w.heap[B]?) : w'.cell? ⟨B, off, none⟩ = w.cell? ⟨B, off, none⟩ := by
  simp only [World.cell?, h]

/-- The blocks of one owner are as they were. -/
def SameOf (o : Owner) (g : Gh) (w : World) (g' : Gh) (w' : World) : Prop :=
  ∀ B, g.own B = some o → g'.own B = some o ∧ g'.fz B = g.fz B ∧ w'.heap[B]? = w.heap[B]?

theorem Front.keep {g w g' w' o xs v} (hs : SameOf o g w g' w') (h : Front g w o xs v) : Front g' w' o xs v := by
  obtain ⟨base, cap, rfl, h⟩ := h
  refine ⟨base, cap, rfl, ?_⟩
  rcases h with h | ⟨B, off, s, c, E, hb, h1, hx, h2, hcap, h3, h4, h5, h6⟩
  · exact .inl h
  · obtain ⟨k1, k2, k3⟩ := hs B h3
    exact .inr ⟨B, off, s, c, E, hb, h1, hx, h2, hcap, k1, by rw [k2, h4], by rw [k3, h5], h6⟩

theorem Uniq.keep {g w g' w' o xs v} (hk : Keep g w g' w') (hs : SameOf o g w g' w') (h : Uniq g w o xs v) : Uniq g' w' o xs v := by
  rcases h with h | ⟨B, off, cap, s, c, E, f, hv, h1, h2, h3, h4, h5, h6, h7, h8, h9, h10, h11⟩
  · exact .inl h
  · obtain ⟨k1, k2, k3⟩ := hs B h4
    exact .inr ⟨B, off, cap, s, c, E, f, hv, h1, h2, h3, k1, by rw [k2, h5], by rw [k3, h6], h7, h8, h9, fun i x hi => (h10 i x hi).keep hk, h11⟩

theorem SlotRep.keep {g w g' w' o x v} (hk : Keep g w g' w') (hs : SameOf o g w g' w') (h : SlotRep g w o x v) : SlotRep g' w' o x v := by
  unfold SlotRep at *
  split at h
  · exact h.keep hk
  · exact ⟨h.1.keep hk, h.2.keep hs⟩
  · exact Uniq.keep hk hs h
  · exact h.keep hk

theorem BRel.keep {g w g' w' B b} (hk : Keep g w g' w') (hs : SameOf .blk g w g' w') (hB : g.own B = some .blk) (hc : ∀ i, SameOf (.cell B i) g w g' w')
    (h : BRel g w B b) : BRel g' w' B b := by
  obtain ⟨_, h2, h3⟩ := hs B hB
  cases b with
  | cells cs =>
    obtain ⟨c, E, k1, k2, k3, k4⟩ := h
    exact ⟨c, E, by rw [h3, k1], k2, by rw [h2, k3], fun i x v hx hv => ⟨(k4 i x v hx hv).1.keep hk (hc i), (k4 i x v hx hv).2⟩⟩
  | frz cs =>
    obtain ⟨k0, c, E, fr, k1, k2, k4⟩ := h
    exact ⟨by rw [h2]; exact k0, c, E, fr, by rw [h3, k1], k2, fun i x v hx hv => ⟨(k4 i x v hx hv).1.keep hk, (k4 i x v hx hv).2⟩⟩
  | raw o => exact ⟨h.1, by rw [h3]; exact h.2⟩

def AWp (P : Program) (C : Cx) (c : Code) (Q : Exit → Env → Hp → Prop) (e : Env) (H : Hp) : Prop :=
  ∀ g a w, SRel g C e H a w → c.wp P (fun ex a' w' => ∃ g' e' H', Guar C.d H H' g w g' w' ∧ SRel g' C e' H' a' w' ∧ Q ex e' H') a w

section rules
variable {P : Program} {C : Cx} {Q : Exit → Env → Hp → Prop} {e : Env} {H : Hp}

theorem AWp.mono {c : Code} {Q' : Exit → Env → Hp → Prop} (h : AWp P C c Q e H) (hq : ∀ ex e H, Q ex e H → Q' ex e H) : AWp P C c Q' e H :=
  fun g a w hr => wp_mono (h g a w hr) fun _ _ _ ⟨g', e', H', k1, k2, k3⟩ => ⟨g', e', H', k1, k2, hq _ _ _ k3⟩

theorem AWp_skip (h : Q .normal e H) : AWp P C .skip Q e H := fun g _ _ hr => wp_skip ⟨g, e, H, .refl, hr, h⟩
theorem AWp_label {l : Nat} (h : Q .normal e H) : AWp P C (.label l) Q e H := fun g _ _ hr => wp_label ⟨g, e, H, .refl, hr, h⟩
theorem AWp_exit {id : Nat} (h : Q (.exit id) e H) : AWp P C (.exit id) Q e H := fun g _ _ hr => wp_exit ⟨g, e, H, .refl, hr, h⟩
theorem AWp_goto {l : Nat} (h : Q (.goto l) e H) : AWp P C (.goto l) Q e H := fun g _ _ hr => wp_goto ⟨g, e, H, .refl, hr, h⟩
theorem AWp_ret (h : Q .ret e H) : AWp P C .ret Q e H := fun g _ _ hr => wp_ret ⟨g, e, H, .refl, hr, h⟩

def thenQ (K : Env → Hp → Prop) (Q : Exit → Env → Hp → Prop) : Exit → Env → Hp → Prop
  | .normal => K
  | ex => Q ex

theorem thenQ_not {K : Env → Hp → Prop} {ex : Exit} (h : ex ≠ .normal) : thenQ K Q ex = Q ex := by cases ex <;> first | rfl | exact absurd rfl h

theorem AWp_seq0 {x y : Code} (h : AWp P C x (thenQ (AWp P C y Q) Q) e H) : AWp P C (.seq x y) Q e H := by
  intro g a w hr
  refine wp_seq (wp_mono (h g a w hr) fun ex a' w' ⟨g', e', H', k1, k2, k3⟩ => ?_)
  cases ex with
  | normal => exact wp_mono (k3 g' a' w' k2) fun _ _ _ ⟨g2, e2, H2, m1, m2, m3⟩ => ⟨g2, e2, H2, k1.trans m1, m2, m3⟩
  | _ => exact ⟨g', e', H', k1, k2, k3⟩

theorem AWp_seq {x y : Code} (h : ∀ K : Env → Hp → Prop, (∀ e H, AWp P C y Q e H → K e H) → AWp P C x (thenQ K Q) e H) : AWp P C (.seq x y) Q e H :=
  AWp_seq0 (h _ fun _ _ h => h)

theorem SRel.eval {g a w} (hr : SRel g C e H a w) {x : Operand} {b : Bool} (h : arg e x = some (true, .sc (.bool b))) : a.eval x = .bool b := by
  cases x with
  | tmp t =>
    simp only [arg, Option.some.injEq] at h
    have hn : e t ≠ .und := fun hu => by rw [hu] at h; simp [unmay] at h
    obtain ⟨v, hv, hs⟩ := hr.slots t hn
    have hev : a.eval (.tmp t) = v := by simp [Act.eval, hv]
    rw [hev]
    revert h
    generalize e t = x at *
    intro h
    cases x <;> simp only [unmay, Prod.mk.injEq, AV.sc.injEq, reduceCtorEq, and_false, true_and] at h
    case sc u => subst h; exact (by unfold SlotRep at hs; cases hs; rfl)
    case may c y => obtain ⟨rfl, rfl⟩ := h; unfold SlotRep at hs; cases hs with | may _ _ _ hh _ => cases hh rfl; rfl
  | const v =>
    simp only [arg] at h
    split at h
    · simp only [Option.some.injEq, Prod.mk.injEq, true_and] at h
      unfold aval at h
      split at h
      · cases h
      · cases h; rfl
    · cases h
  | global g => cases h
  | func f => simp [arg] at h

theorem AWp_cond {c : Operand} {x y : Code} (b : Bool) (hc : arg e c = some (true, .sc (.bool b))) (hx : b = true → AWp P C x Q e H) (hy : b = false → AWp P C y Q e H) :
    AWp P C (.cond c x y) Q e H := fun g a w hr => wp_cond_split (hr.eval hc) (fun hb => hx hb g a w hr) (fun hb => hy hb g a w hr)

def blockQ (id : Nat) (Q : Exit → Env → Hp → Prop) : Exit → Env → Hp → Prop
  | .exit id' => if id' = id then Q .normal else Q (.exit id')
  | ex => Q ex

theorem AWp_block {id : Nat} {c : Code} (h : AWp P C c (blockQ id Q) e H) : AWp P C (.block id c) Q e H := by
  intro g a w hr
  refine wp_block (wp_mono (h g a w hr) fun ex a' w' ⟨g', e', H', k1, k2, k3⟩ => ?_)
  cases ex with
  | exit id' =>
    simp only [Exit.inBlock, blockQ] at *
    split
    · rename_i hid; simp only [hid, if_true] at k3; exact ⟨g', e', H', k1, k2, k3⟩
    · rename_i hid; simp only [hid, if_false] at k3; exact ⟨g', e', H', k1, k2, k3⟩
  | _ => exact ⟨g', e', H', k1, k2, k3⟩

/-- A loop, its body at its head. -/
def LoopWp (P : Program) (c : Code) (Q : Exit → Act → World → Prop) (a : Act) (w : World) : Prop :=
  ∀ (b : Frame) (k : List Item) (cs : List Frame), ∃ ex a' w', Q ex a' w' ∧ Arrives P (lone (b.at a (.code c :: .inLoop c :: k)) cs w) b k cs ex a' w'

theorem LoopWp.step {c : Code} {Q : Exit → Act → World → Prop} {a : Act} {w : World} (h : c.wp P (Exit.then (LoopWp P c Q) Q) a w) : LoopWp P c Q a w := by
  intro b k cs
  obtain ⟨ex, a₁, w₁, hq, harr⟩ := h b (.inLoop c :: k) cs
  cases ex with
  | normal =>
    obtain ⟨e₂, a₂, w₂, hq₂, harr₂⟩ := hq b k cs
    exact ⟨e₂, a₂, w₂, hq₂, .of_steps (Steps.trans harr (.one step_inLoop)) harr₂⟩
  | exit id => exact ⟨_, a₁, w₁, hq, .pass (x := .inLoop c) rfl (fun _ _ => .inl (by simp)) harr⟩
  | goto l => exact ⟨_, a₁, w₁, hq, .pass (x := .inLoop c) rfl (fun _ _ => .inl (by simp)) harr⟩
  | ret => exact ⟨_, a₁, w₁, hq, .pass (x := .inLoop c) rfl (fun _ _ => .inl (by simp)) harr⟩
  | panic ch => exact ⟨_, a₁, w₁, hq, .pass (x := .inLoop c) rfl (fun _ _ => .inl (by simp)) harr⟩
  | outgrown => exact ⟨_, a₁, w₁, hq, .pass (x := .inLoop c) rfl (fun _ _ => .inl (by simp)) harr⟩

def ALoop (P : Program) (C : Cx) (c : Code) (Q : Exit → Env → Hp → Prop) (e : Env) (H : Hp) : Prop :=
  ∀ g a w, SRel g C e H a w → LoopWp P c (fun ex a' w' => ∃ g' e' H', Guar C.d H H' g w g' w' ∧ SRel g' C e' H' a' w' ∧ Q ex e' H') a w

theorem LoopWp.mono {c : Code} {Q Q' : Exit → Act → World → Prop} {a : Act} {w : World} (h : LoopWp P c Q a w) (hq : ∀ e a w, Q e a w → Q' e a w) : LoopWp P c Q' a w :=
  fun b k cs => let ⟨e, a', w', q, r⟩ := h b k cs; ⟨e, a', w', hq _ _ _ q, r⟩

theorem AWp_loop {c : Code} (h : ALoop P C c Q e H) : AWp P C (.loop c) Q e H := by
  intro g a w hr b k cs
  obtain ⟨ex, a', w', hq, harr⟩ := h g a w hr b k cs
  exact ⟨ex, a', w', hq, .of_steps (.one step_loop) harr⟩

theorem ALoop_step {c : Code} (h : AWp P C c (thenQ (ALoop P C c Q) Q) e H) : ALoop P C c Q e H := by
  intro g a w hr
  refine LoopWp.step (wp_mono (h g a w hr) fun ex a' w' ⟨g', e', H', k1, k2, k3⟩ => ?_)
  cases ex with
  | normal => exact (k3 g' a' w' k2).mono fun _ _ _ ⟨g2, e2, H2, m1, m2, m3⟩ => ⟨g2, e2, H2, k1.trans m1, m2, m3⟩
  | _ => exact ⟨g', e', H', k1, k2, k3⟩

/-- Less is known of a state. -/
def Wk (e : Env) (H : Hp) (e' : Env) (H' : Hp) : Prop := (∀ t, e' t ≠ .und → e t = e' t) ∧ (∀ B b, H' B = some b → H B = some b)

theorem SRel.weak {g a w} {e' : Env} {H' : Hp} (h : Wk e H e' H') (hr : SRel g C e H a w) : SRel g C e' H' a w :=
  ⟨hr.inv, fun B b hb => hr.heap B b (h.2 B b hb), hr.defers, hr.size, fun t ht => by
    have := h.1 t ht
    have h2 := hr.slots t (by rw [this]; exact ht)
    rwa [this] at h2⟩

theorem Foot.weak {d : Nat} {H H' : Hp} (h : ∀ B b, H' B = some b → H B = some b) {B o} (hf : Foot d H' B o) : Foot d H B o := by
  cases o with
  | blk => intro hn; refine hf ?_; cases hb : H' B with | none => rfl | some b => have := h B b hb; rw [hn] at this; cases this
  | cell C i => intro hn; refine hf ?_; cases hb : H' C with | none => rfl | some b => have := h C b hb; rw [hn] at this; cases this
  | slot d' t => exact hf

theorem Guar.weak {g w} {H' : Hp} (h : ∀ B b, H' B = some b → H B = some b) : Guar C.d H H' g w g w :=
  ⟨.refl _ _, fun _ _ ho hf => ⟨ho, fun hf' => hf (hf'.weak h), rfl, rfl⟩⟩

theorem AWp.weak {c : Code} {e' : Env} {H' : Hp} (hw : Wk e H e' H') (h : AWp P C c Q e' H') : AWp P C c Q e H := fun g a w hr =>
  wp_mono (h g a w (hr.weak hw)) fun _ _ _ ⟨g', e2, H2, k1, k2, k3⟩ => ⟨g', e2, H2, (Guar.weak hw.2).trans k1, k2, k3⟩

theorem ALoop.weak {c : Code} {e' : Env} {H' : Hp} (hw : Wk e H e' H') (h : ALoop P C c Q e' H') : ALoop P C c Q e H := fun g a w hr =>
  (h g a w (hr.weak hw)).mono fun _ _ _ ⟨g', e2, H2, k1, k2, k3⟩ => ⟨g', e2, H2, (Guar.weak hw.2).trans k1, k2, k3⟩

end rules
end Go.Ab

/- Ab.Types: a table of types, held against the program by a look that the kernel carries out. -/
namespace Go.Ab

def sameConst : Value → Value → Bool
  | .bool a, .bool b => a == b
  | .int k a, .int j b => k == j && a == b
  | .string a, .string b => a.data == b.data
  | .pointer none, .pointer none => true
  | .slice none 0 0, .slice none 0 0 => true
  | .map none, .map none => true
  | .nilFunc, .nilFunc => true
  | .nilIface, .nilIface => true
  | _, _ => false

theorem sameConst_eq {a b : Value} (h : sameConst a b = true) : a = b := by
  unfold sameConst at h
  split at h <;> try simp_all
  rename_i a b
  cases a; cases b; simp_all

def sameConsts : List Value → List Value → Bool
  | [], [] => true
  | a :: l, b :: m => sameConst a b && sameConsts l m
  | _, _ => false

theorem sameConsts_eq : ∀ {l m : List Value}, sameConsts l m = true → l = m
  | [], [], _ => rfl
  | a :: l, b :: m, h => by
    simp only [sameConsts, Bool.and_eq_true] at h
    rw [sameConst_eq h.1, sameConsts_eq h.2]
  | [], _ :: _, h => by cases h
  | _ :: _, [], h => by cases h

def plainConst (v : Value) : Bool := sameConst v v

def sameKind : TK → TypeDesc → Bool
  | .int k, .int k' => k == k'
  | .bool, .bool => true
  | .str, .string => true
  | .slice e, .slice e' => e == e'
  | .arr n e, .array n' e' => n == n' && e == e'
  | .struct fs, .struct gs => fs == gs.toList.map fun f => (f.offset, f.type)
  | .map k e, .map k' e' => k == k' && e == e'
  | .ptr e, .pointer e' => e == e'
  | .func, .func _ _ _ => true
  | .iface, .interface _ => true
  | _, _ => false

def tiOk (P : Program) (t : TypeId) (i : TI) : Bool :=
  match P.info? t, P.underlying t with
  | some info, some desc => info.size == i.size && info.bytes == i.bytes && sameKind i.kind desc &&
    (match info.zero with
     | some (.agg cs) => i.agg && sameConsts cs.toList i.zero
     | some v => !i.agg && sameConsts [v] i.zero
     | none => false)
  | _, _ => false

/-- The table is the program's. -/
def TOk (P : Program) (T : Types) : Prop := ∀ t i, T t = some i → tiOk P t i = true

/-- What is known of a type of the table. -/
structure TFact (P : Program) (t : TypeId) (i : TI) : Prop where
  info : ∃ info, P.info? t = some info ∧ info.size = i.size ∧ info.bytes = i.bytes ∧ ∃ z, info.zero = some z ∧ z.cells.toList = i.zero ∧ (i.agg = true → ∃ cs, z = .agg cs) ∧ (i.agg = false → one z = true)
  under : ∃ desc, P.underlying t = some desc ∧ sameKind i.kind desc = true
  plain : ∀ v ∈ i.zero, sameConst v v = true

theorem sameConsts_plain : ∀ {l m : List Value}, sameConsts l m = true → ∀ v ∈ m, sameConst v v = true
  | [], [], _, _, hv => by cases hv
  | a :: l, b :: m, h, v, hv => by
    simp only [sameConsts, Bool.and_eq_true] at h
    rcases List.mem_cons.1 hv with rfl | hv
    · have := sameConst_eq h.1; rw [this] at h; exact h.1
    · exact sameConsts_plain h.2 v hv
  | [], _ :: _, h, _, _ => by cases h
  | _ :: _, [], h, _, _ => by cases h

theorem TFact.of {P : Program} {t : TypeId} {i : TI} (h : tiOk P t i = true) : TFact P t i := by
  unfold tiOk at h
  split at h
  · rename_i info desc hi hd
    simp only [Bool.and_eq_true, beq_iff_eq] at h
    obtain ⟨⟨⟨h1, h2⟩, h3⟩, h4⟩ := h
    split at h4
    · rename_i cs hz
      simp only [Bool.and_eq_true] at h4
      have h5 := sameConsts_eq h4.2
      exact ⟨⟨info, hi, h1, h2, .agg cs, hz, h5, ⟨fun _ => ⟨cs, rfl⟩, fun hf => (by rw [h4.1] at hf; cases hf)⟩⟩, ⟨desc, hd, h3⟩, sameConsts_plain h4.2⟩
    · rename_i v hv hz
      simp only [Bool.and_eq_true, Bool.not_eq_true'] at h4
      have h5 := sameConsts_eq h4.2
      have hpl := sameConsts_plain h4.2
      have hc : v.cells = #[v] := by
        cases v <;> first | rfl | exact absurd rfl (hv _)
      have hone : one v = true := by
        rw [← h5] at hpl
        have := hpl v (by simp)
        cases v <;> first | rfl | (simp [sameConst] at this)
      exact ⟨⟨info, hi, h1, h2, v, hz, (by rw [hc]; exact h5), ⟨fun ht => (by rw [h4.1] at ht; cases ht), fun _ => hone⟩⟩, ⟨desc, hd, h3⟩, hpl⟩
    · cases h4
  · cases h

theorem TOk.fact {P : Program} {T : Types} (h : TOk P T) {t : TypeId} {i : TI} (ht : T t = some i) : TFact P t i := .of (h t i ht)

section
variable {P : Program} {t : TypeId} {i : TI} (w : World)

theorem TFact.typeInfo (h : TFact P t i) : ∃ info, P.info? t = some info ∧ (typeInfo t).run P w = .ok info w ∧ info.size = i.size ∧ info.bytes = i.bytes := by
  obtain ⟨info, h1, h2, h3, _⟩ := h.info
  exact ⟨info, h1, by simp [Go.typeInfo, h1], h2, h3⟩

theorem TFact.sizeOf (h : TFact P t i) : (sizeOf t).run P w = .ok i.size w := by
  obtain ⟨info, h1, h2, _⟩ := h.info
  simp [Go.sizeOf, Go.typeInfo, h1, h2]

theorem TFact.isAgg (h : TFact P t i) : (isAgg t).run P w = .ok i.agg w := by
  obtain ⟨desc, h1, h2⟩ := h.under
  have := run_underlying h1 w
  simp only [Go.isAgg, Sem.run_bind, this, Result.andThen_ok]
  unfold TI.agg
  generalize i.kind = k at *
  cases desc <;> cases k <;> simp_all [sameKind]

theorem TFact.zeroValue (h : TFact P t i) : ∃ z, (zeroValue t).run P w = .ok z w ∧ z.cells.toList = i.zero ∧ (i.agg = true → ∃ cs, z = .agg cs) ∧ (i.agg = false → one z = true) := by
  obtain ⟨info, h1, _, _, z, h2, h3, h4⟩ := h.info
  exact ⟨z, by simp [Go.zeroValue, Go.typeInfo, h1, h2], h3, h4⟩
end

end Go.Ab

/- Ab.Sound1: what apure says is what the model does (the first half: no memory). -/
namespace Go.Ab

def Slots (g : Gh) (w : World) (d : Nat) (e : Env) (a : Act) : Prop := ∀ t, e t ≠ .und → ∃ v, a.tmps[t]? = some v ∧ SlotRep g w (.slot d t) (e t) v

section
variable {P : Program} {T : Types} {g : Gh} {w : World} {d : Nat} {e : Env} {H : Hp} {a : Act}

theorem slot_sc {o : Owner} {u v : Value} (h : SlotRep g w o (.sc u) v) : v = u ∧ one u = true := by
  unfold SlotRep at h; cases h with | sc _ h => exact ⟨rfl, h⟩

theorem slot_rep {o : Owner} {x : AV} {v : Value} (h : SlotRep g w o x v) (hfz : x.frzn = true) : Rep g w x.strip v := by
  unfold SlotRep at h
  split at h
  · exact h
  · exact h.1
  · rename_i xs
    cases xs with
    | nil =>
      rcases h with ⟨base, _, rfl⟩ | ⟨B, off, cap, s, c, E, f, hv, h1, h2, h3, _⟩
      · exact .nil base 0
      · simp at h3
    | cons y l => simp [AV.frzn] at hfz
  · rename_i h0 h1 h2
    cases h with
    | nil => exact absurd rfl (h0 _)
    | nil2 => exact absurd rfl (h2 _)
    | lst => exact absurd rfl (h0 _)
    | sc v h => exact .sc v h
    | und v => exact .und v
    | ref _ B off f hf hc ho hr => exact .ref _ B off f hf hc ho hr
    | agg cs vs hl ho hr => exact .agg cs vs hl ho hr
    | tup cs vs hl hr => exact .tup cs vs hl hr
    | may b x v hh h' => exact .may b x v hh h'

theorem rep_slot {ow : Owner} {x : AV} {v : Value} (h : Rep g w x v) : SlotRep g w ow x v := by
  unfold SlotRep
  split
  · exact h
  · cases h
  · cases h with | nil2 base => exact .inl ⟨base, rfl, rfl⟩
  · exact h

theorem rep_strip {x : AV} {v : Value} (h : Rep g w x v) : Rep g w x.strip v := by
  cases h with
  | nil2 base => exact .nil base 0
  | nil base cap => exact .nil base cap
  | lst xs B off n cap s f hn hcap hs hx hf hc ho hr => exact .lst xs B off n cap s f hn hcap hs hx hf hc ho hr
  | sc v h => exact .sc v h
  | und v => exact .und v
  | ref _ B off f hf hc ho hr => exact .ref _ B off f hf hc ho hr
  | agg cs vs hl ho hr => exact .agg cs vs hl ho hr
  | tup cs vs hl hr => exact .tup cs vs hl hr
  | may b x v hh h' => exact .may b x v hh h'

theorem rep_plain {x : AV} {v : Value} (h : Rep g w x v) : Rep g w x.plain v := by
  cases h with
  | agg cs vs hl ho hr =>
    refine .agg _ vs (by simp [hl]) ho fun i y u hy hu => ?_
    simp only [List.getElem?_map, Option.map_eq_some_iff] at hy
    obtain ⟨y', hy', rfl⟩ := hy
    exact rep_strip (hr i y' u hy' hu)
  | nil2 base => exact .nil base 0
  | nil base cap => exact .nil base cap
  | lst xs B off n cap s f hn hcap hs hx hf hc ho hr => exact .lst xs B off n cap s f hn hcap hs hx hf hc ho hr
  | sc v h => exact .sc v h
  | und v => exact .und v
  | ref _ B off f hf hc ho hr => exact .ref _ B off f hf hc ho hr
  | tup cs vs hl hr => exact .tup cs vs hl hr
  | may b x v hh h' => exact .may b x v hh h'

theorem plain_strip (x : AV) : x.strip.plain = x.plain := by cases x <;> rfl

theorem slot_plain {o : Owner} {x : AV} {v : Value} (h : SlotRep g w o x v) (hf : x.frzn = true) : Rep g w x.plain v := by
  rw [← plain_strip]; exact rep_plain (slot_rep h hf)

theorem slot_rep2 {o : Owner} {x : AV} {v : Value} (h : SlotRep g w o x v) (hf : x.frzn = true) : Rep g w x.strip2 v := by
  unfold AV.strip2
  split
  · rcases h with ⟨base, _, rfl⟩ | ⟨B, off, cap, s, c, E, f, hv, h1, h2, h3, _⟩
    · exact .nil2 base
    · simp at h3
  · exact slot_rep h hf

theorem slot_may {o : Owner} {x y : AV} {b : Bool} {v : Value} (h : SlotRep g w o x v) (hu : unmay x = (b, y)) (hb : b = true) : SlotRep g w o y v := by
  cases x <;> simp only [unmay, Prod.mk.injEq] at hu
  case may c z =>
    obtain ⟨rfl, rfl⟩ := hu
    unfold SlotRep at h
    cases h with
    | may _ _ _ hh _ =>
      have := hh hb
      exact rep_slot this
  all_goals (obtain ⟨rfl, rfl⟩ := hu; exact h)

theorem aval_rep {v : Value} {o : Owner} (h : one v = true) : SlotRep g w o (aval v) v := by
  unfold aval
  split
  · exact .inl ⟨none, rfl, rfl⟩
  · exact Rep.sc v h

theorem arg_sound (hc : Slots g w d e a) {X : Operand} {b : Bool} {x : AV} (h : arg e X = some (b, x)) (hb : b = true) : ∃ o, SlotRep g w o x (a.eval X) := by
  cases X with
  | tmp t =>
    simp only [arg, Option.some.injEq] at h
    by_cases hu : e t = .und
    · rw [hu] at h
      simp only [unmay, Prod.mk.injEq] at h
      obtain ⟨rfl, rfl⟩ := h
      exact ⟨.blk, Rep.und _⟩
    · obtain ⟨v, hv, hs⟩ := hc t hu
      have hev : a.eval (.tmp t) = v := by simp [Act.eval, hv]
      rw [hev]
      exact ⟨_, slot_may hs h hb⟩
  | const v =>
    simp only [arg] at h
    split at h
    · rename_i ho
      simp only [Option.some.injEq, Prod.mk.injEq] at h
      obtain ⟨_, rfl⟩ := h
      exact ⟨.blk, aval_rep ho⟩
    · cases h
  | global _ => cases h
  | func f =>
    simp only [arg, Option.some.injEq, Prod.mk.injEq] at h
    obtain ⟨_, rfl⟩ := h
    exact ⟨.blk, Rep.sc _ rfl⟩

theorem arg_sc (hc : Slots g w d e a) {X : Operand} {b : Bool} {u : Value} (h : arg e X = some (b, .sc u)) (hb : b = true) : a.eval X = u ∧ one u = true := by
  obtain ⟨o, ho⟩ := arg_sound hc h hb
  exact slot_sc ho

theorem arg_rep (hc : Slots g w d e a) {X : Operand} {b : Bool} {x : AV} (h : arg e X = some (b, x)) (hb : (b && x.frzn) = true) : Rep g w x.strip (a.eval X) := by
  simp only [Bool.and_eq_true] at hb
  obtain ⟨o, ho⟩ := arg_sound hc h hb.1
  exact slot_rep ho hb.2

theorem arg_rep2 (hc : Slots g w d e a) {X : Operand} {b : Bool} {x : AV} (h : arg e X = some (b, x)) (hb : (b && x.frzn) = true) : Rep g w x.strip2 (a.eval X) := by
  simp only [Bool.and_eq_true] at hb
  obtain ⟨o, ho⟩ := arg_sound hc h hb.1
  exact slot_rep2 ho hb.2

/-- What a pure operation comes to. -/
def Pures (P : Program) (g : Gh) (w : World) (a : Act) (o : Oper) (x : AV) : Prop := ∃ v, (execOp a.eval o).run P w = .ok (.value v) w ∧ Rep g w x v

theorem pures_value {o : Oper} {x : AV} {s : Sem Value} {v : Value} (ho : execOp a.eval o = (do pure (.value (← s)))) (hr : s.run P w = .ok v w) (hx : Rep g w x v) : Pures P g w a o x :=
  ⟨v, by rw [ho]; simp [hr], hx⟩

theorem pure_move (hc : Slots g w d e a) {o : Oper} {X : Operand} (ho : o.op = .move X ∨ o.op = .assign X) {p x} (h : apure T (.move X) e H = some (p, x)) (hp : p) : Pures P g w a o x := by
  simp only [apure, Option.map_eq_some_iff] at h
  obtain ⟨⟨b, y⟩, h1, h2⟩ := h
  simp only [Prod.mk.injEq] at h2
  obtain ⟨rfl, rfl⟩ := h2
  refine ⟨a.eval X, ?_, arg_rep2 hc h1 hp⟩
  rcases ho with ho | ho <;> simp [execOp, ho]

theorem pure_pick (hc : Slots g w d e a) {o : Oper} {C X Y : Operand} (ho : o.op = .pick C X Y) {p x} (h : apure T (.pick C X Y) e H = some (p, x)) (hp : p) : Pures P g w a o x := by
  simp only [apure] at h
  split at h
  · rename_i bc c bx x' by_ y' h1 h2 h3
    cases h
    obtain ⟨hbc, hx, hy⟩ := hp
    have e1 := (arg_sc hc h1 hbc).1
    refine pures_value (s := do pure (if ← asBool (a.eval C) then a.eval X else a.eval Y)) (by simp [execOp, ho]) (v := if c then a.eval X else a.eval Y) (by simp [e1, asBool]) ?_
    cases c with
    | true => have := (arg_sc hc h2 (hx rfl)).1; simp only [if_true, cond_true, this]; exact .sc _ rfl
    | false => have := (arg_sc hc h3 (hy rfl)).1; simp only [Bool.false_eq_true, if_false, cond_false, this]; exact .sc _ rfl
  · rename_i bc c bx x' by_ y' _ h1 h2 h3
    cases h
    obtain ⟨hbc, hx, hy⟩ := hp
    have e1 := (arg_sc hc h1 hbc).1
    refine pures_value (s := do pure (if ← asBool (a.eval C) then a.eval X else a.eval Y)) (by simp [execOp, ho]) (v := if c then a.eval X else a.eval Y) (by simp [e1, asBool]) ?_
    cases c with
    | true => simp only [if_true, cond_true]; exact arg_rep hc h2 (hx rfl)
    | false => simp only [Bool.false_eq_true, if_false, cond_false]; exact arg_rep hc h3 (hy rfl)
  · cases h

theorem pure_nilCheck (hc : Slots g w d e a) {o : Oper} {X : Operand} (ho : o.op = .nilCheck X) {p x} (h : apure T (.nilCheck X) e H = some (p, x)) (hp : p) : Pures P g w a o x := by
  simp only [apure] at h
  split at h
  · rename_i b ad h1
    cases h
    have e1 := (arg_sc hc h1 hp).1
    exact ⟨.pointer (some ad), by simp [execOp, ho, e1], .sc _ rfl⟩
  · rename_i b y h1
    cases h
    obtain ⟨ow, hr⟩ := arg_sound hc h1 hp
    have hr2 : Rep g w (.ref y) (a.eval X) := hr
    generalize hv : a.eval X = v at hr2
    refine ⟨v, ?_, hr2⟩
    cases hr2 with
    | ref _ B off f _ _ _ _ => simp [execOp, ho, hv]
  · cases h

theorem pure_unOp (hc : Slots g w d e a) {o : Oper} {op t} {X : Operand} (ho : o.op = .unOp op t X) {p x} (h : apure T (.unOp op t X) e H = some (p, x)) (hp : p) : Pures P g w a o x := by
  simp only [apure] at h
  split at h
  · rename_i b v h1
    cases h
    have e1 := (arg_sc hc h1 hp).1
    exact ⟨.bool !v, by simp [execOp, ho, e1, Op.unary], .sc _ rfl⟩
  · rename_i b k n h1
    cases h
    have e1 := (arg_sc hc h1 hp).1
    exact ⟨.int k (k.wrap (0 - n)), by simp [execOp, ho, e1, Op.unary, Op.intArith], .sc _ rfl⟩
  · rename_i b k n h1
    simp only [Ab.bits, Option.map_some, Option.some.injEq, Prod.mk.injEq] at h
    obtain ⟨rfl, rfl⟩ := h
    have e1 := (arg_sc hc h1 hp).1
    exact ⟨_, by simp only [execOp, ho, e1, Op.unary, Op.intBits]; rfl, .sc _ rfl⟩
  · cases h

theorem pure_extract (hc : Slots g w d e a) {o : Oper} {X : Operand} {i} (ho : o.op = .extract X i) {p x} (h : apure T (.extract X i) e H = some (p, x)) (hp : p) : Pures P g w a o x := by
  simp only [apure] at h
  split at h
  · rename_i b xs h1
    split at h
    · rename_i y hy
      cases h
      obtain ⟨ow, hr⟩ := arg_sound hc h1 hp
      have hr2 : Rep g w (.tup xs) (a.eval X) := hr
      generalize hv : a.eval X = v at hr2
      cases hr2 with
      | tup _ vs hl hh =>
        have hlt := lt_of_getElem? hy
        rw [← hl] at hlt
        refine ⟨vs[i], ?_, hh i _ _ hy (by simp [hlt])⟩
        simp [execOp, ho, hv, Instr.extract, hlt]
    · cases h
  · cases h

end
end Go.Ab

/- Ab.Sound2: what apure says is what the model does: numbers, conversions, places. -/
namespace Go.Ab

section
variable {P : Program} {T : Types} {g : Gh} {w : World} {d : Nat} {e : Env} {H : Hp} {a : Act}

theorem run_eqGuard (op : BinOp) (t : TypeId) (x y : Operand) {u v : Value} (h1 : u ≠ .nilIface ∨ v ≠ .nilIface) (h2 : (∀ cs, u ≠ .agg cs) ∨ ∀ cs, v ≠ .agg cs) : (eqGuard op t x y u v).run P w = .ok () w := by
  unfold eqGuard
  cases op <;> simp only [Bool.not_true, Bool.not_false, Bool.false_eq_true, if_false, if_true] <;> first | rfl | (split <;> first | rfl | simp_all)

theorem run_intBin {op : BinOp} {t : TypeId} {k k' : IntKind} {x y : Int} (hk : k = k' ∨ op = .shl ∨ op = .shr) {p : Prop} {v : Value} (h : intBin op k x y = some (p, v)) (hp : p) :
    (binOp op t (.int k x) (.int k' y)).run P w = .ok v w ∧ one v = true := by
  cases op <;> simp only [intBin, Option.some.injEq, Prod.mk.injEq, cmp, Ab.bits, Option.map_some] at h
  all_goals (first | (cases h; done) | (obtain ⟨rfl, rfl⟩ := h))
  case shl => simp only [binOp, Op.shift, if_neg (by omega : ¬ y < 0)]; exact ⟨rfl, rfl⟩
  case shr => simp only [binOp, Op.shift, if_neg (by omega : ¬ y < 0)]; exact ⟨rfl, rfl⟩
  case quo => simp only [or_false, reduceCtorEq, or_self] at hk; subst hk; simp [binOp, Op.intDiv, hp]; rfl
  case rem => simp only [or_false, reduceCtorEq, or_self] at hk; subst hk; simp [binOp, Op.intDiv, hp]; rfl
  all_goals (simp only [or_false, reduceCtorEq, or_self] at hk; subst hk; simp only [binOp, ne_eq, not_true_eq_false, if_false, Op.intArith, Op.intBits, Op.intCmp]; exact ⟨rfl, rfl⟩)

theorem run_veq {t : TypeId} {i : TI} (hf : TFact P t i) {u v : Value} {r : Bool} (h : veq i.kind u v = some r) : (Op.equal t u v).run P w = .ok r w := by
  obtain ⟨desc, h1, h2⟩ := hf.under
  have hu := run_underlying h1 w
  show (Op.equalIn (9999 + 1) t u v).run P w = _
  unfold Op.equalIn
  simp only [Sem.run_bind, hu, Result.andThen_ok]
  generalize i.kind = k at *
  unfold veq at h
  split at h <;> cases h <;> cases desc <;> simp_all [sameKind]

theorem pure_binOp (hT : TOk P T) (hc : Slots g w d e a) {o : Oper} {op t X Y u} (ho : o.op = .binOp op t X Y u) {p x} (h : apure T (.binOp op t X Y u) e H = some (p, x)) (hp : p) : Pures P g w a o x := by
  simp only [apure] at h
  split at h
  · rename_i bx x' by_ y' h1 h2
    simp only [Option.map_eq_some_iff] at h
    obtain ⟨⟨q, v⟩, h3, h4⟩ := h
    simp only [Prod.mk.injEq] at h4
    obtain ⟨rfl, rfl⟩ := h4
    obtain ⟨hb, hq⟩ := hp
    simp only [Bool.and_eq_true] at hb
    have key : ∀ {s u : Value}, a.eval X = s → a.eval Y = u → (s ≠ .nilIface ∨ u ≠ .nilIface) → ((∀ cs, s ≠ .agg cs) ∨ ∀ cs, u ≠ .agg cs) → (binOp op t s u).run P w = .ok v w → one v = true → Pures P g w a o (.sc v) := by
      intro s u hs hu g1 g2 hr ho1
      exact ⟨v, by simp [execOp, ho, hs, hu, run_eqGuard op t X Y g1 g2, hr], .sc _ ho1⟩
    unfold abin at h3
    split at h3
    · rename_i k m k' n
      split at h3
      · rename_i hk
        have hr := run_intBin (P := P) (w := w) (t := t) hk h3 hq
        exact key (arg_sc hc h1 hb.1).1 (arg_sc hc h2 hb.2).1 (.inl (by simp)) (.inl (by simp)) hr.1 hr.2
      · cases h3
    · rename_i s1 s2
      split at h3
      · cases h3; exact key (arg_sc hc h1 hb.1).1 (arg_sc hc h2 hb.2).1 (.inl (by simp)) (.inl (by simp)) (by simp [binOp, Op.stringOp]) rfl
      · cases h3; exact key (arg_sc hc h1 hb.1).1 (arg_sc hc h2 hb.2).1 (.inl (by simp)) (.inl (by simp)) (by simp [binOp, Op.stringOp]) rfl
      · cases h3
    · rename_i s1 s2 hn1 hn2
      have e1 := arg_sc hc h1 hb.1
      have e2 := arg_sc hc h2 hb.2
      cases hti : T t with
      | none => rw [hti] at h3; simp at h3
      | some i =>
        rw [hti] at h3
        simp only [Option.bind_some] at h3
        cases hv : veq i.kind s1 s2 with
        | none => rw [hv] at h3; simp at h3
        | some r =>
          rw [hv] at h3
          have hr := run_veq (w := w) (hT.fact hti) hv
          have g1 : s1 ≠ .nilIface ∨ s2 ≠ .nilIface := by
            by_cases q1 : s1 = .nilIface
            · subst q1; right; rintro rfl; simp [veq] at hv
            · exact .inl q1
          have g2 : ∀ cs, s1 ≠ .agg cs := fun cs hcs => by rw [hcs] at e1; exact absurd e1.2 (by simp [one])
          have hbin : ∀ (z : Bool), (op = .eql ∧ z = r ∨ op = .neq ∧ z = !r) → (binOp op t s1 s2).run P w = .ok (.bool z) w := by
            rintro z (⟨rfl, rfl⟩ | ⟨rfl, rfl⟩)
            · unfold veq at hv
              split at hv <;> cases hv <;> simp only [binOp, Sem.run_bind, hr, Result.andThen_ok] <;> rfl
            · unfold veq at hv
              split at hv <;> cases hv <;> simp only [binOp, Sem.run_bind, hr, Result.andThen_ok] <;> rfl
          split at h3
          · rename_i r' hh; simp only [Option.some.injEq] at hh; subst hh; cases h3; exact key e1.1 e2.1 g1 (.inl g2) (hbin _ (.inl ⟨rfl, rfl⟩)) rfl
          · rename_i r' hh; simp only [Option.some.injEq] at hh; subst hh; cases h3; exact key e1.1 e2.1 g1 (.inl g2) (hbin _ (.inr ⟨rfl, rfl⟩)) rfl
          · cases h3
    · cases h3
  · cases h

theorem under_kind {t : TypeId} {i : TI} (hf : TFact P t i) : ∃ desc, P.underlying t = some desc ∧ (underlying t).run P w = .ok desc w ∧ sameKind i.kind desc = true := by
  obtain ⟨desc, h1, h2⟩ := hf.under
  exact ⟨desc, h1, run_underlying h1 w, h2⟩

end
end Go.Ab

/- Ab.Sound3: what apure says is what the model does: aggregates, addresses, loads. -/
namespace Go.Ab

section
variable {P : Program} {T : Types} {g : Gh} {w : World} {d : Nat} {e : Env} {H : Hp} {a : Act}

theorem addr_add (B off n : Nat) : (⟨B, off, none⟩ : Addr).add n = ⟨B, off + n, none⟩ := by
  unfold Addr.add
  split
  · rename_i h; subst h; rfl
  · rfl

theorem cells_one {v : Value} (h : one v = true) : v.cells = #[v] := by cases v <;> first | rfl | cases h

theorem run_loadVar_agg {t : TypeId} {i : TI} (hf : TFact P t i) (hi : i.agg = true) {B off : Nat} {vs : List Value} (hl : vs.length = i.size)
    (h : ∀ j v, vs[j]? = some v → w.cell? ⟨B, off + j, none⟩ = some v) : (loadVar t ⟨B, off, none⟩).run P w = .ok (.agg vs.toArray) w := by
  have h1 := hf.isAgg w
  have h2 := hf.sizeOf w
  have h3 := run_loadCells_list (P := P) w ⟨B, off, none⟩ vs (fun j v hv => by rw [addr_add]; exact h j v hv)
  rw [hl] at h3
  simp [loadVar, h1, hi, h2, h3]

theorem run_loadVar_one {t : TypeId} {i : TI} (hf : TFact P t i) (hi : i.agg = false) {B off : Nat} {v : Value} (h : w.cell? ⟨B, off, none⟩ = some v) :
    (loadVar t ⟨B, off, none⟩).run P w = .ok v w := by
  have h1 := hf.isAgg w
  simp [loadVar, h1, hi, h]

theorem rep_good_cells {x : AV} {v : Value} (hg : x.good = true) (h : Rep g w x v) : v.cells.size = x.cells.length ∧ (∀ (i : Nat) (u : Value), v.cells[i]? = some u → one u = true) ∧ ∀ (i : Nat) (y : AV) (u : Value), x.cells[i]? = some y → v.cells[i]? = some u → Rep g w y u := by
  have single : ∀ {x : AV} {v : Value}, Rep g w x v → one v = true → x.cells = [x] → v.cells.size = x.cells.length ∧ (∀ (i : Nat) (u : Value), v.cells[i]? = some u → one u = true) ∧ ∀ (i : Nat) (y : AV) (u : Value), x.cells[i]? = some y → v.cells[i]? = some u → Rep g w y u := by
    intro x v hr ho hx
    rw [cells_one ho, hx]
    refine ⟨rfl, fun i u h2 => ?_, fun i y u h1 h2 => ?_⟩
    · cases i with
      | zero => simp at h2; subst h2; exact ho
      | succ n => simp at h2
    cases i with
    | zero => simp at h1 h2; subst h1 h2; exact hr
    | succ n => simp at h1
  cases h with
  | sc v h => exact single (.sc v h) h rfl
  | und => cases hg
  | nil base cap => exact single (.nil base cap) rfl rfl
  | nil2 base => exact single (.nil2 base) rfl rfl
  | lst xs B off n cap s f hn hcap hs hx hf hc ho hr => exact single (.lst xs B off n cap s f hn hcap hs hx hf hc ho hr) rfl rfl
  | ref x B off f hf hc ho hr => exact single (.ref x B off f hf hc ho hr) rfl rfl
  | agg cs vs hl ho hr => exact ⟨hl, ho, fun i y u h1 h2 => hr i y u h1 h2⟩
  | tup => cases hg
  | may => cases hg

theorem rep_part {t : TypeId} {i : TI} (hf : TFact P t i) {cs : List AV} {vs : Array Value} (hl : vs.size = cs.length) (ho : ∀ (i : Nat) (v : Value), vs[i]? = some v → one v = true) (hr : ∀ (i : Nat) (x : AV) (v : Value), cs[i]? = some x → vs[i]? = some v → Rep g w x v)
    {off : Nat} {y : AV} (h : Ab.part i cs off = some y) : ∃ v, (Go.part t vs off).run P w = .ok v w ∧ Rep g w y v := by
  have h1 := hf.isAgg w
  have h2 := hf.sizeOf w
  unfold Ab.part at h
  split at h
  · rename_i hi
    split at h
    · rename_i hle
      cases h
      refine ⟨.agg (vs.extract off (off + i.size)), by simp [Go.part, h1, hi, h2], .agg _ _ (by simp; omega) (fun k v hv => by rw [Array.getElem?_extract] at hv; split at hv <;> first | exact ho _ _ hv | cases hv) fun k x v hx hv => ?_⟩
      rw [List.getElem?_take, List.getElem?_drop] at hx
      split at hx
      · refine hr (off + k) x v hx ?_
        rw [Array.getElem?_extract] at hv
        split at hv
        · exact hv
        · cases hv
      · cases hx
    · cases h
  · rename_i hi
    have hi' : i.agg = false := by simpa using hi
    have hlt := lt_of_getElem? h
    rw [← hl] at hlt
    refine ⟨vs[off], by simp [Go.part, h1, hi', hlt], hr off y _ h (by simp [hlt])⟩

theorem pure_field (hT : TOk P T) (hc : Slots g w d e a) {o : Oper} {t X f} (ho : o.op = .field t X f) {p x} (h : apure T (.field t X f) e H = some (p, x)) (hp : p) : Pures P g w a o x := by
  simp only [apure] at h
  split at h
  · rename_i fs b cs ht h1
    split at h
    · rename_i off ft hfs
      split at h
      · rename_i i hi
        simp only [Option.map_eq_some_iff, Prod.mk.injEq] at h
        obtain ⟨y, hy, rfl, rfl⟩ := h
        obtain ⟨ow, hr⟩ := arg_sound hc h1 hp
        have hr2 : Rep g w (.agg cs) (a.eval X) := hr
        generalize hv : a.eval X = v at hr2
        obtain ⟨desc, k1, k2⟩ := (hT.fact ht).under
        cases hr2 with
        | agg _ vs hl ho1 hh =>
          cases desc <;> simp only [sameKind, Bool.false_eq_true] at k2
          rename_i fields
          simp only [beq_iff_eq] at k2
          rw [k2] at hfs
          simp only [List.getElem?_map, Option.map_eq_some_iff, Prod.mk.injEq] at hfs
          obtain ⟨fld, hfld, rfl, rfl⟩ := hfs
          obtain ⟨u, hu, hru⟩ := rep_part (hT.fact hi) hl ho1 hh hy
          refine pures_value (s := Instr.field t (a.eval X) f) (by simp [execOp, ho]) (v := u) ?_ hru
          have hfld2 : fields[f]? = some fld := by simpa using hfld
          simp [Instr.field, run_underlying k1 w, hv, hfld2, asAgg, hu]
      · cases h
    · cases h
  · cases h

theorem asIntOf_int (k : IntKind) (n : Int) : (asIntOf (.int k n)).run P w = .ok (k, n) w := rfl

theorem pure_index (hT : TOk P T) (hc : Slots g w d e a) {o : Oper} {t X I} (ho : o.op = .index t X I) {p x} (h : apure T (.index t X I) e H = some (p, x)) (hp : p) : Pures P g w a o x := by
  simp only [apure] at h
  split at h
  · rename_i n et b cs bi k1 k ht h1 h2
    split at h
    · rename_i ti hti
      simp only [Option.map_eq_some_iff, Prod.mk.injEq] at h
      obtain ⟨y, hy, rfl, rfl⟩ := h
      obtain ⟨hb, h0, hn⟩ := hp
      simp only [Bool.and_eq_true] at hb
      obtain ⟨ow, hr⟩ := arg_sound hc h1 hb.1
      have hr2 : Rep g w (.agg cs) (a.eval X) := hr
      have hI := (arg_sc hc h2 hb.2).1
      generalize hv : a.eval X = v at hr2
      obtain ⟨desc, k1', k2⟩ := (hT.fact ht).under
      have hsz := (hT.fact hti).sizeOf w
      cases hr2 with
      | agg _ vs hl ho1 hh =>
        cases desc <;> simp only [sameKind, Bool.false_eq_true] at k2
        rename_i n' et'
        simp only [Bool.and_eq_true, beq_iff_eq] at k2
        obtain ⟨rfl, rfl⟩ := k2
        obtain ⟨u, hu, hru⟩ := rep_part (hT.fact hti) hl ho1 hh hy
        refine pures_value (s := Instr.index t (a.eval X) (a.eval I)) (by simp [execOp, ho]) (v := u) ?_ hru
        simp [Instr.index, hI, asIntOf_int, run_underlying k1' w, hv, h0, hn, hsz, hu]
    · cases h
  · cases h

theorem ref_part {i : TI} {B off0 : Nat} {cs : List AV} (hr : Rep g w (.ref (.agg cs)) (.pointer (some ⟨B, off0, none⟩))) {off : Nat} {y : AV} (hy : Ab.part i cs off = some y)
    (hfit : (i.agg || fits i y) = true) : Rep g w (.ref y) (.pointer (some ⟨B, off0 + off, none⟩)) := by
  cases hr with
  | ref _ B off0 ff hf hcl ho hrr =>
    simp only [AV.cells] at hf hcl ho hrr
    unfold Ab.part at hy
    split at hy
    · split at hy
      · rename_i hle
        cases hy
        refine .ref _ B _ (fun k => ff (off + k)) (by simp [AV.cells]; omega) (fun k z hz => ?_) (fun k z hz => by simp only [AV.cells, List.getElem?_take, List.getElem?_drop] at hz; split at hz <;> first | exact ho _ _ hz | cases hz) (fun k z hz => ?_)
        · simp only [AV.cells, List.getElem?_take, List.getElem?_drop] at hz
          split at hz
          · have := hcl _ _ hz; rwa [← Nat.add_assoc] at this
          · cases hz
        · simp only [AV.cells, List.getElem?_take, List.getElem?_drop] at hz
          split at hz
          · exact hrr _ _ hz
          · cases hz
      · cases hy
    · rename_i hag
      have hag' : i.agg = false := by simpa using hag
      have hyr := hrr _ _ hy
      have hlt := lt_of_getElem? hy
      have hyc : y.cells = [y] := by
        cases y <;> first | rfl | (simp [fits, hag'] at hfit)
      refine .ref _ B _ (fun _ => ff off) (by rw [hyc]; simp; omega) (fun k z hz => ?_) (fun _ _ _ => ho _ _ hy) (fun k z hz => ?_)
      · rw [hyc] at hz
        cases k with
        | zero => simp at hz; subst hz; exact hcl _ _ hy
        | succ n => simp at hz
      · rw [hyc] at hz
        cases k with
        | zero => simp at hz; subst hz; exact hyr
        | succ n => simp at hz

theorem pure_fieldAddr (hT : TOk P T) (hc : Slots g w d e a) {o : Oper} {t X f} (ho : o.op = .fieldAddr t X f) {p x} (h : apure T (.fieldAddr t X f) e H = some (p, x)) (hp : p) : Pures P g w a o x := by
  simp only [apure] at h
  split at h
  · rename_i fs b pv ht h1
    split at h
    · rename_i off ft hfs
      obtain ⟨desc, k1, k2⟩ := (hT.fact ht).under
      cases desc <;> simp only [sameKind, Bool.false_eq_true] at k2
      rename_i fields
      simp only [beq_iff_eq] at k2
      rw [k2] at hfs
      simp only [List.getElem?_map, Option.map_eq_some_iff, Prod.mk.injEq] at hfs
      obtain ⟨fld, hfld, rfl, rfl⟩ := hfs
      have hfld2 : fields[f]? = some fld := by simpa using hfld
      split at h
      · rename_i i B off hi
        split at h
        · cases h
        · rename_i hsz
          cases h
          have hX := (arg_sc hc h1 hp).1
          have hs := (hT.fact hi).sizeOf w
          refine pures_value (s := Instr.fieldAt t (a.eval X) f) (by simp [execOp, ho]) (v := .pointer (some ⟨B, off + fld.offset, none⟩)) ?_ (.sc _ rfl)
          simp [Instr.fieldAt, run_underlying k1 w, hfld2, hX, Instr.sureAddr, fieldPlace, hs, hsz, addr_add]
      · rename_i i cs hi
        split at h
        · cases h
        · rename_i hsz
          simp only [Option.map_eq_some_iff, Prod.mk.injEq] at h
          obtain ⟨y, hy, rfl, rfl⟩ := h
          obtain ⟨ow, hr⟩ := arg_sound hc h1 hp.1
          have hr2 : Rep g w (.ref (.agg cs)) (a.eval X) := hr
          generalize hv : a.eval X = v at hr2
          have hs := (hT.fact hi).sizeOf w
          obtain ⟨hb, hfit⟩ := hp
          cases hr2 with
          | ref _ B off0 ff hf hcl hoo hrr =>
            refine pures_value (s := Instr.fieldAt t (a.eval X) f) (by simp [execOp, ho]) (v := .pointer (some ⟨B, off0 + fld.offset, none⟩)) ?_ (ref_part (.ref _ B off0 ff hf hcl hoo hrr) hy hfit)
            simp [Instr.fieldAt, run_underlying k1 w, hfld2, hv, Instr.sureAddr, fieldPlace, hs, hsz, addr_add]
      · cases h
    · cases h
  · cases h

end
end Go.Ab
