/- Ab.Octets: numbers as bytes, as plain functions. -/

namespace Go.Ab

/-- What a number's bytes from place i on come to, n being read: the number and how many bytes; 0 and 0 where there is none. -/
def numFrom : Nat → Nat → List (BitVec 8) → Nat × Nat
  | _, _, [] => (0, 0)
  | i, n, c :: l =>
    let m := n ||| ((c &&& 127#8).toNat * 2 ^ (7 * i))
    if m > 1099511627776 ∨ i ≥ 6 ∨ (i > 0 ∧ c = 0#8) then (0, 0) else if c.toNat < 128 then (m, i + 1) else numFrom (i + 1) m l

def numberOf (l : List (BitVec 8)) : Nat × Nat := numFrom 0 0 l

/-- A reader: what is left, and whether it failed. -/
structure Rd where
  left : List (BitVec 8)
  bad : Bool

def Rd.get (r : Rd) (most : Int) : Nat × Rd :=
  if r.bad then (0, r) else
  if (numberOf r.left).2 = 0 ∨ (numberOf r.left).1 > most then (0, ⟨r.left, true⟩) else ((numberOf r.left).1, ⟨r.left.drop (numberOf r.left).2, false⟩)

/-- A number's bytes (with f of them at most). -/
def encF : Nat → Nat → List (BitVec 8)
  | 0, _ => []
  | f + 1, n => if n < 128 then [BitVec.ofNat 8 n] else BitVec.ofNat 8 (n ||| 128) :: encF f (n / 128)

/-- What is written: the bytes, and whether a number couldn't be. -/
def putOne (w : List (BitVec 8) × Bool) (n : Int) : List (BitVec 8) × Bool := if n < 0 ∨ n > 1099511627776 then (w.1, true) else (w.1 ++ encF 6 n.toNat, w.2)
def putL (w : List (BitVec 8) × Bool) (l : List Int) : List (BitVec 8) × Bool := l.foldl putOne w

theorem putL_take_succ (w : List (BitVec 8) × Bool) (l : List Int) {i : Nat} (h : i < l.length) : putL w (l.take (i + 1)) = putOne (putL w (l.take i)) l[i] := by
  unfold putL
  rw [List.take_add_one, List.getElem?_eq_getElem h, List.foldl_append]
  rfl

theorem encF_length : ∀ (f n : Nat), (encF f n).length ≤ f
  | 0, _ => Nat.le_refl _
  | f + 1, n => by
    simp only [encF]
    split
    · simp
    · have := encF_length f (n / 128); simp; omega

theorem putOne_length (w : List (BitVec 8) × Bool) (n : Int) : (putOne w n).1.length ≤ w.1.length + 6 := by
  unfold putOne
  split
  · simp
  · have := encF_length 6 n.toNat; simp; omega

theorem putL_length : ∀ (l : List Int) (w : List (BitVec 8) × Bool), (putL w l).1.length ≤ w.1.length + 6 * l.length
  | [], w => by simp [putL]
  | n :: l, w => by
    have h1 := putL_length l (putOne w n)
    have h2 := putOne_length w n
    simp only [putL, List.foldl_cons, List.length_cons] at h1 ⊢
    omega

theorem numFrom_le : ∀ (l : List (BitVec 8)) (i n : Nat), ((numFrom i n l).2 ≤ i + l.length ∧ (numFrom i n l).1 ≤ 1099511627776) ∧ (numFrom i n l).2 ≤ 6
  | [], i, n => by simp [numFrom]
  | c :: l, i, n => by
    simp only [numFrom, List.length_cons]
    split
    · simp
    · rename_i h
      split
      · simp only [not_or] at h
        exact ⟨⟨by omega, by omega⟩, by omega⟩
      · have := numFrom_le l (i + 1) (n ||| ((c &&& 127#8).toNat * 2 ^ (7 * i)))
        exact ⟨⟨by omega, this.1.2⟩, this.2⟩

theorem numberOf_le (l : List (BitVec 8)) : (numberOf l).2 ≤ l.length := by
  have := (numFrom_le l 0 0).1.1
  simpa [numberOf] using this
theorem numberOf_lt (l : List (BitVec 8)) : (numberOf l).1 ≤ 1099511627776 := (numFrom_le l 0 0).1.2

end Go.Ab
