/- Ab.BurstsLaw: a stream's bytes of which some bits within 32 in a row are turned are none's. -/
import Derived.Test.YtgnlnkbkbddfaaaAbStreamRead
import Derived.Test.YtgnlnkbkbddfaaaAbCrcLaw
import Derived.Test.YtgnlnkbkbddfaaaAbTurn
namespace Go.Ab

theorem allOf_ok {frame : Int} {l : List Bt} : ∃ x, (allOf frame l).2 = 0 → (allOf frame l).1 = sealed x := by
  unfold allOf
  split
  · exact ⟨[], fun h => by simp at h⟩
  · dsimp only
    split
    · exact ⟨[], fun h => by simp at h⟩
    · exact ⟨_, fun _ => rfl⟩

theorem encodeOf_ok {frame : Int} {l : List Bt} (h : (encodeOf frame l).2 = 0) : ∃ x, (encodeOf frame l).1 = sealed x ∧ (encodeOf frame l).1.length ≤ 65536 := by
  obtain ⟨x, hx⟩ := allOf_ok (frame := frame) (l := l)
  unfold encodeOf at h ⊢
  split at h
  · rename_i h1; rw [if_pos h1] ; exact absurd h h1
  · rename_i h1
    split at h
    · simp at h
    · rename_i h2
      rw [if_neg h1, if_neg h2]
      exact ⟨x, hx (by simpa using h1), by simpa using h2⟩

theorem bursts_law {x : List (BitVec 8)} {n : Nat} {p : BitVec 32} (hl : (sealed x).length ≤ 65536) (h : turnOf (sealed x) n p ≠ sealed x) : decodeOf (turnOf (sealed x) n p) = (0, [], 10) := by
  have hlen := turnOf_length (sealed x) n p
  have hs := sealed_length x
  have ho : openOf (turnOf (sealed x) n p) = ([], 10) := by
    unfold openOf
    rw [if_neg (by omega), if_neg]
    intro hh
    exact h (burst x _ n p hh.symm)
  rw [decodeOf, if_neg (by omega), ho]
  rfl

theorem at1000 (a : BitVec 32) : IntKind.i64.wrap (Int.tmod (a.toNat : Int) 1000) = ((a.toNat % 1000 : Nat) : Int) := by
  rw [Int.tmod_eq_emod_of_nonneg (by omega), wrap64 (by omega) (by omega)]; omega
theorem atRem (a : BitVec 32) (k : Nat) : Int.tmod (IntKind.i64.wrap (a.toNat : Int)) (8 * (k : Int)) = ((a.toNat % (8 * k) : Nat) : Int) := by
  have := a.isLt
  rw [wrap64 (by omega) (by omega), Int.tmod_eq_emod_of_nonneg (by omega), Int.natCast_emod]; rfl

theorem btsFit_facts {l : List Bt} (h : btsFit l = true) : l.length ≤ 100 ∧ ∀ b ∈ l, b.ids.length ≤ 100 := by
  simp only [btsFit, Bool.and_eq_true, decide_eq_true_eq, List.all_eq_true] at h
  exact h

end Go.Ab
