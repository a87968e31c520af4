/- Ab.StreamRead: what a stream's reader comes to, as plain functions. -/
import Derived.Test.YtgnlnkbkbddfaaaAbStream
import Derived.Test.YtgnlnkbkbddfaaaAbLists
import Derived.Test.YtgnlnkbkbddfaaaAbBaseA
namespace Go.Ab

def badCh : List PanicEntry := [{ v := .iface 195 (.agg #[]), recovered := false }]

def getP (r : Rd) (most : Int) : Option (Nat × Rd) := if (r.get most).2.bad then none else some (r.get most)

def setPart (b : Bt) (n : Int) : Nat → Bt
  | 0 => { b with a0 := n } | 1 => { b with a1 := n } | 2 => { b with a3 := n } | 3 => { b with a4 := n } | _ => { b with a5 := n }

def partStep (change : Nat) (s : Option (Bt × Rd)) (i : Nat) : Option (Bt × Rd) :=
  match s with
  | none => none
  | some (b, r) => if change &&& bitOf i = 0 then some (b, r) else
    match getP r 255 with
    | none => none
    | some (n, r') => if (n : Int) = partOf b i then none else some (setPart b n i, r')
def partsTo (change : Nat) (b : Bt) (r : Rd) (i : Nat) : Option (Bt × Rd) := (List.range i).foldl (partStep change) (some (b, r))

def idStep (s : Option (List Int × Rd)) (_ : Nat) : Option (List Int × Rd) :=
  match s with
  | none => none
  | some (l, r) => match getP r 16777215 with
    | none => none
    | some (n, r') => some (l ++ [(n : Int)], r')
def idsTo (r : Rd) (k : Nat) : Option (List Int × Rd) := (List.range k).foldl idStep (some ([], r))

def readC (n : Nat) (b1 : Bt) (l : List Int) (r4 : Rd) : Option (Bt × Rd) :=
  if btRight { b1 with clear := !(b1.clear == (((n &&& 4 : Nat) : Int) != 0)), ids := l } then some ({ b1 with clear := !(b1.clear == (((n &&& 4 : Nat) : Int) != 0)), ids := l }, r4) else none
def readB (n : Nat) (b1 : Bt) (r2 : Rd) : Option (Bt × Rd) :=
  match getP r2 64 with
  | none => none
  | some (k, r3) => match idsTo r3 k with
    | none => none
    | some (l, r4) => readC n b1 l r4
def readA (n : Nat) (b : Bt) (r1 : Rd) : Option (Bt × Rd) :=
  match partsTo n b r1 5 with
  | none => none
  | some (b1, r2) => readB n b1 r2
/-- A batch that is read behind another one. -/
def readBt (b : Bt) (r : Rd) : Option (Bt × Rd) :=
  match getP r 63 with
  | none => none
  | some (n, r1) => readA n b r1

theorem getP_facts {r r' : Rd} {most : Int} {n : Nat} (h : getP r most = some (n, r')) : (n : Int) ≤ most ∧ r'.left.length ≤ r.left.length ∧ r'.bad = false := by
  unfold getP at h
  split at h
  · cases h
  · rename_i hb
    have e := Option.some.inj h
    rw [e] at hb
    unfold Rd.get at e
    split at e
    · rename_i h1; cases e; exact absurd h1 hb
    · split at e
      · cases e; exact absurd rfl hb
      · rename_i h2
        simp only [not_or] at h2
        cases e
        exact ⟨by omega, by simp, rfl⟩

theorem partsTo_succ (n : Nat) (b : Bt) (r : Rd) (i : Nat) : partsTo n b r (i + 1) = partStep n (partsTo n b r i) i := by
  unfold partsTo; rw [List.range_succ, List.foldl_append]; rfl
theorem partsTo_none {n : Nat} {b : Bt} {r : Rd} {i j : Nat} (hij : i ≤ j) (h : partsTo n b r i = none) : partsTo n b r j = none := by
  obtain ⟨k, rfl⟩ := Nat.le.dest hij
  induction k with
  | zero => exact h
  | succ k ih => rw [← Nat.add_assoc, partsTo_succ, ih (by omega)]; rfl
theorem idsTo_succ (r : Rd) (i : Nat) : idsTo r (i + 1) = idStep (idsTo r i) i := by
  unfold idsTo; rw [List.range_succ, List.foldl_append]; rfl
theorem idsTo_none {r : Rd} {i j : Nat} (hij : i ≤ j) (h : idsTo r i = none) : idsTo r j = none := by
  obtain ⟨k, rfl⟩ := Nat.le.dest hij
  induction k with
  | zero => exact h
  | succ k ih => rw [← Nat.add_assoc, idsTo_succ, ih (by omega)]; rfl

theorem btsRight_one (b : Bt) : btsRight [b] = btRight b := by simp [btsRight]

def AVcells (b : Bt) : List AV := [.sc (.int .i64 b.a0), .sc (.int .i64 b.a1), .sc (.bool b.clear), .sc (.int .i64 b.a3), .sc (.int .i64 b.a4), .sc (.int .i64 b.a5), .lst 0 (ints b.ids)]
theorem AVcells_len (b : Bt) : (AVcells b).length = 7 := rfl
theorem AVcells_get (b : Bt) {i : Nat} (hi : i < 5) : (AVcells b)[offOf i]? = some (.sc (.int .i64 (partOf b i))) := by
  rcases (by omega : i = 0 ∨ i = 1 ∨ i = 2 ∨ i = 3 ∨ i = 4) with rfl | rfl | rfl | rfl | rfl <;> rfl
theorem offOf_le (i : Nat) : offOf i ≤ 5 := by unfold offOf; split <;> omega
theorem set_off (b : Bt) (n : Int) {i : Nat} (hi : i < 5) : List.take (offOf i) (AVcells b) ++ [AV.sc (.int .i64 n)] ++ List.drop (offOf i + 1) (AVcells b) = AVcells (setPart b n i) := by
  rcases (by omega : i = 0 ∨ i = 1 ∨ i = 2 ∨ i = 3 ∨ i = 4) with rfl | rfl | rfl | rfl | rfl <;> rfl

def btStep (s : Option ((Bt × List Bt) × Rd)) (_ : Nat) : Option ((Bt × List Bt) × Rd) :=
  match s with
  | none => none
  | some ((b, l), r) => match readBt b r with
    | none => none
    | some (b', r') => some ((b', l ++ [b']), r')
def btsTo (r : Rd) (k : Nat) : Option ((Bt × List Bt) × Rd) := (List.range k).foldl btStep (some ((btZero, []), r))

def streamC (frame : Nat) (l : List Bt) (r4 : Rd) : Option (Nat × List Bt) := if (if r4.bad then (0 : Int) else (r4.left.length : Int)) > 0 then none else some (frame, l)
def streamB (frame : Nat) (r2 : Rd) : Option (Nat × List Bt) :=
  match getP r2 65536 with
  | none => none
  | some (k, r3) => match btsTo r3 k with
    | none => none
    | some ((_, l), r4) => streamC frame l r4
def streamA (r1 : Rd) : Option (Nat × List Bt) :=
  match getP r1 2147483647 with
  | none => none
  | some (frame, r2) => streamB frame r2
def streamP (r : Rd) : Option (Nat × List Bt) :=
  match getP r 1 with
  | none => none
  | some (v, r1) => if (v : Int) ≠ 1 then none else streamA r1

theorem btsTo_succ (r : Rd) (i : Nat) : btsTo r (i + 1) = btStep (btsTo r i) i := by
  unfold btsTo; rw [List.range_succ, List.foldl_append]; rfl
theorem btsTo_none {r : Rd} {i j : Nat} (hij : i ≤ j) (h : btsTo r i = none) : btsTo r j = none := by
  obtain ⟨k, rfl⟩ := Nat.le.dest hij
  induction k with
  | zero => exact h
  | succ k ih => rw [← Nat.add_assoc, btsTo_succ, ih (by omega)]; rfl
theorem bts_append1 (l : List Bt) (b : Bt) : bts l ++ [.agg [.sc (.int .i64 b.a0), .sc (.int .i64 b.a1), .sc (.bool b.clear), .sc (.int .i64 b.a3), .sc (.int .i64 b.a4), .sc (.int .i64 b.a5), .lst 0 (ints b.ids)]] = bts (l ++ [b]) := by simp [bts, Bt.av]

theorem openOf_len (l : List (BitVec 8)) : (openOf l).1.length ≤ l.length := by
  unfold openOf; split
  · simp
  · split
    · simp
    · simp

def decodeOf (b : List (BitVec 8)) : Int × List Bt × Int :=
  if b.length > 65536 then (0, [], 2) else if (openOf b).2 ≠ 0 then (0, [], (openOf b).2) else
  match streamP ⟨(openOf b).1, false⟩ with
  | none => (0, [], 2)
  | some (frame, l) => (frame, l, 0)

theorem fold_succ {α : Type} (f : α → Nat → α) (s : α) (i : Nat) : (List.range (i + 1)).foldl f s = f ((List.range i).foldl f s) i := by
  rw [List.range_succ, List.foldl_append]; rfl

theorem fold_none {α : Type} (f : Option α → Nat → Option α) (hf : ∀ i, f none i = none) {s : Option α} {i j : Nat} (hij : i ≤ j) (h : (List.range i).foldl f s = none) : (List.range j).foldl f s = none := by
  obtain ⟨k, rfl⟩ := Nat.le.dest hij
  induction k with
  | zero => exact h
  | succ k ih => rw [← Nat.add_assoc, fold_succ, ih (by omega), hf]

end Go.Ab
