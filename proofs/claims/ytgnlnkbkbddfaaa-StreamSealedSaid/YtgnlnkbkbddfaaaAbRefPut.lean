/- Ab.RefPut: what the reference writes; numbers. -/
import Derived.Test.YtgnlnkbkbddfaaaAbRef20
namespace Go.Ab

theorem rem128n (n : Nat) : Int.tmod (n : Int) 128 = ((n % 128 : Nat) : Int) := by
  rw [Int.tmod_eq_emod_of_nonneg (by omega)]; omega
theorem quo128n (n : Nat) : Int.tdiv (n : Int) 128 = ((n / 128 : Nat) : Int) := by
  rw [Int.tdiv_eq_ediv_of_nonneg (by omega)]; omega
theorem w128n (n : Nat) : (128 + ((n % 128 : Nat) : Int)) = ((128 + n % 128 : Nat) : Int) := by omega

def refPut (l : List Int) : List (BitVec 8) × Int := if (putL ([], false) l).2 then ([], 1) else ((putL ([], false) l).1, 0)

theorem putL_app (w : List (BitVec 8) × Bool) (a b : List Int) : putL w (a ++ b) = putL (putL w a) b := List.foldl_append ..
theorem putOne_bad {w : List (BitVec 8) × Bool} (h : w.2 = true) (n : Int) : (putOne w n).2 = true := by
  unfold putOne; split
  · rfl
  · exact h
theorem putL_stay : ∀ (l : List Int) {w : List (BitVec 8) × Bool}, w.2 = true → (putL w l).2 = true
  | [], _, h => h
  | n :: l, w, h => putL_stay l (putOne_bad h n)
theorem putL_bad {w : List (BitVec 8) × Bool} {l : List Int} {i : Nat} {v : List (BitVec 8)} (h : putL w (l.take i) = (v, true)) : (putL w l).2 = true := by
  rw [← List.take_append_drop i l, putL_app]
  exact putL_stay _ (by rw [h])
theorem refPut_bad {l : List Int} (h : (putL ([], false) l).2 = true) : refPut l = ([], 1) := if_pos h
theorem refPut_ok {l : List Int} {w : List (BitVec 8)} (h : putL ([], false) l = (w, false)) : refPut l = (w, 0) := by
  rw [refPut, h]; rfl

theorem rget_bad {r : Rd} {most : Int} (h : r.bad = true ∨ r.left.length ≤ lead r.left ∨ lead r.left > 5) : r.get most = (0, ⟨r.left, true⟩) := by
  by_cases hb : r.bad = true
  · rw [Rd.get, if_pos hb, ← hb]
  · have h2 : (numberOf r.left).2 = 0 := by
      rw [numberOf_ref, if_pos]
      rcases h with h | h | h
      · exact absurd h hb
      · exact .inl h
      · exact .inr (.inl h)
    rw [Rd.get, if_neg hb, if_pos (.inl h2)]
theorem rget_bad2 {r : Rd} {most : Int} {i : Nat} (hl : lead r.left = i) (h : valL (r.left.take (i + 1)) > 1099511627776 ∨ (valL (r.left.take (i + 1)) : Int) > most ∨ (encF 6 (valL (r.left.take (i + 1)))).length ≠ i + 1) : r.get most = (0, ⟨r.left, true⟩) := by
  subst hl
  by_cases hb : r.bad = true
  · rw [Rd.get, if_pos hb, ← hb]
  · rw [Rd.get, if_neg hb, if_pos]
    rw [numberOf_ref]
    split
    · exact .inl rfl
    · rename_i h1
      simp only [not_or] at h1
      rcases h with h | h | h
      · exact absurd h h1.2.2.1
      · exact .inr h
      · exact absurd h h1.2.2.2
theorem rget_good {r : Rd} {most : Int} {i : Nat} (hl : lead r.left = i) (hb : r.bad = false) (h1 : i < r.left.length) (h2 : i ≤ 5) (h3 : valL (r.left.take (i + 1)) ≤ 1099511627776) (h4 : (valL (r.left.take (i + 1)) : Int) ≤ most)
    (h5 : (encF 6 (valL (r.left.take (i + 1)))).length = i + 1) : r.get most = (valL (r.left.take (i + 1)), ⟨r.left.drop (i + 1), false⟩) := by
  subst hl
  have hn : numberOf r.left = (valL (r.left.take (lead r.left + 1)), lead r.left + 1) := by
    rw [numberOf_ref, if_neg]
    omega
  rw [Rd.get, if_neg (by simp [hb]), hn, if_neg]
  dsimp only
  omega

end Go.Ab
