/- Ab.Ref22: what the reference reads and writes of a stream, as plain functions. -/
import Derived.Test.YtgnlnkbkbddfaaaAbRefPut
import Derived.Test.YtgnlnkbkbddfaaaAbStreamRead
namespace Go.Ab

def valueL (r : Rd) (c bit : Nat) (was : Int) : Int × Rd := if c / bit % 2 = 1 then ((r.get 255).1, (r.get 255).2) else (was, r)
def idsL (r : Rd) (k : Nat) : List Int × Rd := (List.range k).foldl (fun s _ => (s.1 ++ [((s.2.get 16777215).1 : Int)], (s.2.get 16777215).2)) ([], r)
theorem idsL_succ (r : Rd) (k : Nat) : idsL r (k + 1) = ((idsL r k).1 ++ [(((idsL r k).2.get 16777215).1 : Int)], ((idsL r k).2.get 16777215).2) := by
  rw [idsL, List.range_succ, List.foldl_append]; rfl

def r1L (r : Rd) : Rd := (r.get 63).2
def cL (r : Rd) : Nat := (r.get 63).1
def v0L (r : Rd) (was : Bt) := valueL (r1L r) (cL r) 1 was.a0
def v1L (r : Rd) (was : Bt) := valueL (v0L r was).2 (cL r) 2 was.a1
def v3L (r : Rd) (was : Bt) := valueL (v1L r was).2 (cL r) 8 was.a3
def v4L (r : Rd) (was : Bt) := valueL (v3L r was).2 (cL r) 16 was.a4
def v5L (r : Rd) (was : Bt) := valueL (v4L r was).2 (cL r) 32 was.a5
def kL (r : Rd) (was : Bt) : Nat := ((v5L r was).2.get 64).1
def r6L (r : Rd) (was : Bt) : Rd := ((v5L r was).2.get 64).2
/-- A batch, read without looking whether it failed. -/
def oneL (r : Rd) (was : Bt) : Bt × Rd :=
  (⟨(v0L r was).1, (v1L r was).1, !(was.clear == (((cL r / 4 % 2 : Nat) : Int) == 1)), (v3L r was).1, (v4L r was).1, (v5L r was).1, (idsL (r6L r was) (kL r was)).1⟩, (idsL (r6L r was) (kL r was)).2)

def allStep (s : (Bt × List Bt) × Rd) (_ : Nat) : (Bt × List Bt) × Rd := if s.2.bad then s else (((oneL s.2 s.1.1).1, s.1.2 ++ [(oneL s.2 s.1.1).1]), (oneL s.2 s.1.1).2)
def allL (r : Rd) (k : Nat) : (Bt × List Bt) × Rd := (List.range k).foldl allStep ((btZero, []), r)
theorem allL_succ (r : Rd) (k : Nat) : allL r (k + 1) = allStep (allL r k) k := fold_succ ..

/-- The numbers that tell the batches, each behind the one before. -/
def numsTo (was : Bt) : List Bt → List Int
  | [] => []
  | b :: l => btNums was b ++ numsTo b l
def numsAll (frame : Int) (l : List Bt) : List Int := [1, frame, (l.length : Int)] ++ numsTo btZero l
def bytesL (frame : Int) (l : List Bt) : List (BitVec 8) := sealed (refPut (numsAll frame l)).1

def decS (b : List (BitVec 8)) (ver frame : Nat) (s : (Bt × List Bt) × Rd) : Int × List Bt × Int :=
  if (s.2.bad || decide ((if s.2.bad then (0 : Int) else s.2.left.length) > 0) || ((ver : Int) != 1) || !btsRight s.1.2 || !(bytesL frame s.1.2 == b)) = true then (0, [], 2) else (frame, s.1.2, 0)
def decR (b : List (BitVec 8)) (r : Rd) : Int × List Bt × Int :=
  decS b (r.get 1).1 ((r.get 1).2.get 2147483647).1 (allL (((r.get 1).2.get 2147483647).2.get 65536).2 (((r.get 1).2.get 2147483647).2.get 65536).1)
def decodeL (b : List (BitVec 8)) : Int × List Bt × Int :=
  if b.length > 65536 then (0, [], 2) else if (openOf b).2 ≠ 0 then (0, [], (openOf b).2) else decR b ⟨(openOf b).1, false⟩

def inR (n most : Int) : Bool := decide (n ≥ 0) && decide (n ≤ most)
theorem keyRight_in (a0 a1 a3 a4 a5 : Int) : keyRight a0 a1 a3 a4 a5 = (inR a0 15 && inR a1 3 && inR a3 63 && inR a4 255 && inR a5 255) := by
  have h : ∀ (a : Int) (b : Nat) (m : Int), (2 : Int) ^ b = m + 1 → (!(decide (a < 0) || decide (a ≥ 2 ^ b))) = inR a m := fun a b m h => by
    rw [h, inR, Bool.not_or, Bool.eq_iff_iff]
    simp
    omega
  simp only [keyRight, fitsL, List.any_cons, List.any_nil, Bool.or_false, Bool.not_or]
  rw [← h a0 4 15 rfl, ← h a1 2 3 rfl, ← h a3 6 63 rfl, ← h a4 8 255 rfl, ← h a5 8 255 rfl]
  simp only [Bool.not_or, Bool.and_assoc]

/-- Parts that changed: the bit, whether, what is told. -/
def items (a b : Bt) : List (Nat × Bool × List Int) := [(1, decide (a.a0 ≠ b.a0), [b.a0]), (2, decide (a.a1 ≠ b.a1), [b.a1]), (4, a.clear != b.clear, []), (8, decide (a.a3 ≠ b.a3), [b.a3]), (16, decide (a.a4 ≠ b.a4), [b.a4]), (32, decide (a.a5 ≠ b.a5), [b.a5])]
def itStep (s : Nat × List Int) (q : Nat × Bool × List Int) : Nat × List Int := if q.2.1 then (s.1 + q.1, s.2 ++ q.2.2) else s
def itTo (a b : Bt) (k : Nat) : Nat × List Int := ((items a b).take k).foldl itStep (0, [])

theorem itTo_all (a b : Bt) : itTo a b 6 = (btChange a b, (chgV (steps a b)).2) := by
  rcases a with ⟨a0, a1, ac, a3, a4, a5, ai⟩
  rcases b with ⟨b0, b1, bc, b3, b4, b5, bi⟩
  simp only [itTo, items, itStep, btChange, chgV, steps, chgOne, List.take_succ_cons, List.take_zero, List.foldl_cons, List.foldl_nil]
  by_cases h0 : b0 = a0 <;> by_cases h1 : b1 = a1 <;> by_cases h3 : b3 = a3 <;> by_cases h4 : b4 = a4 <;> by_cases h5 : b5 = a5 <;> cases ac <;> cases bc <;>
    simp [h0, h1, h3, h4, h5, Ne.symm]

def stEq (a b : Bt) : Bool := a.a0 == b.a0 && a.a1 == b.a1 && (a.clear == b.clear) && a.a3 == b.a3 && a.a4 == b.a4 && a.a5 == b.a5

theorem get_len (r : Rd) (m : Int) : (r.get m).2.left.length ≤ r.left.length := by
  unfold Rd.get; split
  · exact Nat.le_refl _
  · split
    · exact Nat.le_refl _
    · rw [List.length_drop]; omega
theorem get_le (r : Rd) (m : Int) : (r.get m).1 = 0 ∨ ((r.get m).1 : Int) ≤ m := by
  unfold Rd.get; split
  · exact .inl rfl
  · split
    · exact .inl rfl
    · rename_i h; right; simp only [not_or] at h; dsimp only; omega
theorem value_len (r : Rd) (c bit : Nat) (was : Int) : (valueL r c bit was).2.left.length ≤ r.left.length := by
  unfold valueL; split
  · exact get_len r 255
  · exact Nat.le_refl _
theorem idsL_len (r : Rd) (k : Nat) : (idsL r k).2.left.length ≤ r.left.length ∧ (idsL r k).1.length = k := by
  induction k with
  | zero => exact ⟨Nat.le_refl _, rfl⟩
  | succ k ih => rw [idsL_succ]; have := get_len (idsL r k).2 16777215; simp; omega
theorem one_len (r : Rd) (b : Bt) : (oneL r b).2.left.length ≤ r.left.length ∧ (oneL r b).1.ids.length ≤ 64 := by
  have h1 : (r1L r).left.length ≤ r.left.length := get_len r 63
  have h2 : (v0L r b).2.left.length ≤ (r1L r).left.length := value_len (r1L r) (cL r) 1 b.a0
  have h3 : (v1L r b).2.left.length ≤ (v0L r b).2.left.length := value_len (v0L r b).2 (cL r) 2 b.a1
  have h4 : (v3L r b).2.left.length ≤ (v1L r b).2.left.length := value_len (v1L r b).2 (cL r) 8 b.a3
  have h5 : (v4L r b).2.left.length ≤ (v3L r b).2.left.length := value_len (v3L r b).2 (cL r) 16 b.a4
  have h6 : (v5L r b).2.left.length ≤ (v4L r b).2.left.length := value_len (v4L r b).2 (cL r) 32 b.a5
  have h7 : (r6L r b).left.length ≤ (v5L r b).2.left.length := get_len (v5L r b).2 64
  have h8 := idsL_len (r6L r b) (kL r b)
  have h9 : kL r b = 0 ∨ (kL r b : Int) ≤ 64 := get_le (v5L r b).2 64
  simp only [oneL]
  refine ⟨by omega, by omega⟩
theorem allL_len (r : Rd) (k : Nat) : (allL r k).2.left.length ≤ r.left.length ∧ (allL r k).1.2.length ≤ k ∧ ∀ b ∈ (allL r k).1.2, b.ids.length ≤ 64 := by
  induction k with
  | zero => exact ⟨Nat.le_refl _, Nat.le_refl _, by simp [allL]⟩
  | succ k ih =>
    rw [allL_succ, allStep]
    split
    · exact ⟨ih.1, by omega, ih.2.2⟩
    · have := one_len (allL r k).2 (allL r k).1.1
      refine ⟨by dsimp only; omega, by dsimp only; rw [List.length_append, List.length_singleton]; omega, ?_⟩
      intro b hb
      rcases List.mem_append.1 hb with h | h
      · exact ih.2.2 b h
      · rw [List.mem_singleton.1 h]; exact this.2

theorem quoNN (a b : Nat) (ha : a < 9223372036854775808) : IntKind.i64.wrap (Int.tdiv (a : Int) (b : Int)) = ((a / b : Nat) : Int) := by
  have := Nat.div_le_self a b
  rw [Int.tdiv_eq_ediv_of_nonneg (by omega), ← Int.natCast_ediv]
  generalize a / b = q at *
  exact wrap64 (by omega) (by omega)
theorem rem2N (a : Nat) : Int.tmod (a : Int) 2 = ((a % 2 : Nat) : Int) := by
  rw [Int.tmod_eq_emod_of_nonneg (by omega)]; omega
theorem quo4N (a : Nat) (ha : a < 9223372036854775808) : IntKind.i64.wrap (Int.tdiv (a : Int) 4) = ((a / 4 : Nat) : Int) := quoNN a 4 ha

theorem itTo_T {a b : Bt} {c : Nat} {v : List Int} {k : Nat} {q : Nat × Bool × List Int} (h : (c, v) = itTo a b k) (hq : (items a b)[k]? = some q) (hb : q.2.1 = true) : (c + q.1, v ++ q.2.2) = itTo a b (k + 1) := by
  rw [itTo, List.take_add_one, hq, List.foldl_append, ← itTo, ← h]
  simp only [Option.toList_some, List.foldl_cons, List.foldl_nil, itStep, hb, if_true]
theorem itTo_F {a b : Bt} {c : Nat} {v : List Int} {k : Nat} {q : Nat × Bool × List Int} (h : (c, v) = itTo a b k) (hq : (items a b)[k]? = some q) (hb : q.2.1 = false) : (c, v) = itTo a b (k + 1) := by
  rw [itTo, List.take_add_one, hq, List.foldl_append, ← itTo, ← h]
  simp [itStep, hb]

def numTo (was : Bt) (v : List Int) (l : List Bt) : Bt × List Int := l.foldl (fun s b => (b, s.2 ++ btNums s.1 b)) (was, v)
theorem numTo_succ (was : Bt) (v : List Int) (l : List Bt) {i : Nat} (h : i < l.length) : numTo was v (l.take (i + 1)) = (l[i], (numTo was v (l.take i)).2 ++ btNums (numTo was v (l.take i)).1 l[i]) := by
  unfold numTo
  rw [List.take_add_one, List.getElem?_eq_getElem h, List.foldl_append]; rfl
theorem numTo_all : ∀ (l : List Bt) (was : Bt) (v : List Int), (numTo was v l).2 = v ++ numsTo was l
  | [], _, _ => by simp [numTo, numsTo]
  | b :: l, was, v => by
    have := numTo_all l b (v ++ btNums was b)
    rw [show numTo was v (b :: l) = numTo b (v ++ btNums was b) l from rfl, this, numsTo, List.append_assoc]

theorem tdiv0 : (0 : Int) = ((0 : Nat) : Int) := rfl

theorem refPut_len (l : List Int) : (refPut l).1.length ≤ 6 * l.length := by
  have := putL_length l ([], false)
  unfold refPut; split
  · simp
  · simpa using this

theorem allL_stop {r : Rd} {i : Nat} (h : (allL r i).2.bad = true) : ∀ {k}, i ≤ k → allL r k = allL r i := by
  intro k hk
  obtain ⟨j, rfl⟩ := Nat.le.dest hk
  induction j with
  | zero => rfl
  | succ j ih => rw [← Nat.add_assoc, allL_succ, ih (by omega), allStep, if_pos h]

theorem stEq_eq {a b : Bt} (h : (!stEq a b || !(a.ids == b.ids)) = false) : a = b := by
  rcases a with ⟨a0, a1, ac, a3, a4, a5, ai⟩
  rcases b with ⟨b0, b1, bc, b3, b4, b5, bi⟩
  simp [stEq] at h
  simp [h]
theorem stEq_ne {a : Bt} (h : (!stEq a a || !(a.ids == a.ids)) = true) : False := by
  simp [stEq] at h

end Go.Ab
