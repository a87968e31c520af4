/- Ab.Stream: what a stream writes, as plain functions. -/
import Derived.Test.YtgnlnkbkbddfaaaAbBatch
import Derived.Test.YtgnlnkbkbddfaaaAbOctets
import Derived.Test.YtgnlnkbkbddfaaaAbCrc
namespace Go.Ab

/-- The parts that may change: the bit, the part now, and what it was. -/
def steps (was b : Bt) : List (Nat × Int × Int) := [(1, b.a0, was.a0), (2, b.a1, was.a1), (8, b.a3, was.a3), (16, b.a4, was.a4), (32, b.a5, was.a5)]
def chgOne (s : Nat × List Int) (q : Nat × Int × Int) : Nat × List Int := if q.2.1 = q.2.2 then s else (s.1 ||| q.1, s.2 ++ [q.2.1])
def chgV (l : List (Nat × Int × Int)) : Nat × List Int := l.foldl chgOne (0, [])
def btChange (was b : Bt) : Nat := if b.clear = was.clear then (chgV (steps was b)).1 else (chgV (steps was b)).1 ||| 4
/-- The numbers that tell a batch. -/
def btNums (was b : Bt) : List Int := [(btChange was b : Int)] ++ (chgV (steps was b)).2 ++ [(b.ids.length : Int)] ++ b.ids

def btZero : Bt := ⟨0, 0, false, 0, 0, 0, []⟩
def wrStep (s : Bt × (List (BitVec 8) × Bool)) (b : Bt) : Bt × (List (BitVec 8) × Bool) := (b, putL s.2 (btNums s.1 b))
def wrTo (was : Bt) (w : List (BitVec 8) × Bool) (l : List Bt) : Bt × (List (BitVec 8) × Bool) := l.foldl wrStep (was, w)
def writeAll (was : Bt) (w : List (BitVec 8) × Bool) (l : List Bt) : List (BitVec 8) × Bool := (wrTo was w l).2

theorem wrTo_succ (was : Bt) (w : List (BitVec 8) × Bool) (l : List Bt) {i : Nat} (h : i < l.length) : wrTo was w (l.take (i + 1)) = wrStep (wrTo was w (l.take i)) l[i] := by
  unfold wrTo
  rw [List.take_add_one, List.getElem?_eq_getElem h, List.foldl_append]
  rfl

theorem chgV_len (was b : Bt) : (chgV (steps was b)).2.length ≤ 5 := by
  simp only [chgV, steps, List.foldl_cons, List.foldl_nil]
  have h : ∀ s q, (chgOne s q).2.length ≤ s.2.length + 1 := fun s q => by unfold chgOne; split <;> simp
  have h1 := h (0, []) (1, b.a0, was.a0)
  have h2 := h (chgOne (0, []) (1, b.a0, was.a0)) (2, b.a1, was.a1)
  have h3 := h (chgOne (chgOne (0, []) (1, b.a0, was.a0)) (2, b.a1, was.a1)) (8, b.a3, was.a3)
  have h4 := h (chgOne (chgOne (chgOne (0, []) (1, b.a0, was.a0)) (2, b.a1, was.a1)) (8, b.a3, was.a3)) (16, b.a4, was.a4)
  have h5 := h (chgOne (chgOne (chgOne (chgOne (0, []) (1, b.a0, was.a0)) (2, b.a1, was.a1)) (8, b.a3, was.a3)) (16, b.a4, was.a4)) (32, b.a5, was.a5)
  simp only [List.length_nil] at h1
  omega

theorem btNums_len (was b : Bt) : (btNums was b).length ≤ 7 + b.ids.length := by
  have := chgV_len was b
  simp only [btNums, List.length_append, List.length_cons, List.length_nil]
  omega

theorem wrTo_len : ∀ (l : List Bt) (was : Bt) (w : List (BitVec 8) × Bool), (∀ b ∈ l, b.ids.length ≤ 64) → (wrTo was w l).2.1.length ≤ w.1.length + 426 * l.length
  | [], was, w, _ => by simp [wrTo]
  | b :: l, was, w, h => by
    have h1 := wrTo_len l b (putL w (btNums was b)) (fun x hx => h x (by simp [hx]))
    have h2 := putL_length (btNums was b) w
    have h3 := btNums_len was b
    have h4 := h b (by simp)
    simp only [wrTo, List.foldl_cons, wrStep, List.length_cons] at h1 ⊢
    omega

/-- All of a stream's bytes, or the error. -/
def allOf (frame : Int) (l : List Bt) : List (BitVec 8) × Int :=
  if frame < 0 ∨ frame > 2147483647 ∨ btsRight l = false then ([], 1) else
  let w := writeAll btZero (putL ([], false) [1, frame, (l.length : Int)]) l
  if w.2 then (sealed [], 1) else (sealed w.1, 0)

def encodeOf (frame : Int) (l : List Bt) : List (BitVec 8) × Int :=
  if (allOf frame l).2 ≠ 0 then ([], (allOf frame l).2) else if (allOf frame l).1.length > 65536 then ([], 3) else ((allOf frame l).1, 0)

/-- The parts that a stream tells one by one: the bit, the field. -/
def bitOf : Nat → Nat
  | 0 => 1 | 1 => 2 | 2 => 8 | 3 => 16 | _ => 32
theorem bitOf_le (i : Nat) : bitOf i ≤ 32 := by unfold bitOf; split <;> omega
def offOf : Nat → Nat
  | 0 => 0 | 1 => 1 | 2 => 3 | 3 => 4 | _ => 5
def partOf (b : Bt) : Nat → Int
  | 0 => b.a0 | 1 => b.a1 | 2 => b.a3 | 3 => b.a4 | _ => b.a5

theorem chgV_succ (was b : Bt) {i : Nat} (h : i < 5) : chgV ((steps was b).take (i + 1)) = chgOne (chgV ((steps was b).take i)) (bitOf i, partOf b i, partOf was i) := by
  rcases (by omega : i = 0 ∨ i = 1 ∨ i = 2 ∨ i = 3 ∨ i = 4) with rfl | rfl | rfl | rfl | rfl <;> rfl

end Go.Ab
