/- Ab.Turn: bits of numbers as they are turned; which batches are gone through. -/
import Derived.Test.YtgnlnkbkbddfaaaAbOpen
import Derived.Test.YtgnlnkbkbddfaaaAbCrcLaw
namespace Go.Ab

theorem quo64_8 {n : Nat} (h : n < 4611686018427387904) : IntKind.i64.wrap (Int.tdiv (n : Int) 8) = ((n / 8 : Nat) : Int) := by
  rw [Int.tdiv_eq_ediv_of_nonneg (by omega), wrap64 (by omega) (by omega)]; omega
theorem rem8 (n : Nat) : Int.tmod (n : Int) 8 = ((n % 8 : Nat) : Int) := by
  rw [Int.tmod_eq_emod_of_nonneg (by omega)]; omega
theorem wrapu64 {n : Nat} (h : n < 18446744073709551616) : IntKind.u64.wrap (n : Int) = n := by
  simp [IntKind.wrap, IntKind.bits, IntKind.signed]; omega
theorem shl8_one : ∀ k, k < 8 → IntKind.u8.wrap (1 * 2 ^ min k 8) = ((BitVec.ofNat 8 1 <<< k).toNat : Int) := by decide
theorem xor8 (a b : BitVec 8) : bits .xor .u8 a.toNat b.toNat = some ((a ^^^ b).toNat : Int) := by
  show some (IntKind.u8.wrap ((BitVec.ofInt 8 a.toNat ^^^ BitVec.ofInt 8 b.toNat).toNat)) = _
  rw [show BitVec.ofInt 8 (a.toNat : Int) = a by simp, show BitVec.ofInt 8 (b.toNat : Int) = b by simp, w8_8]
theorem bit32 (p : BitVec 32) {i : Nat} (h : i < 32) : (Int.tmod (Int.fdiv (p.toNat : Int) (2 ^ min (Int.toNat (i : Int)) 32)) 2 == 1) = p.getLsbD i := by
  rw [Int.toNat_natCast, Nat.min_eq_left (by omega), Int.fdiv_eq_ediv_of_nonneg _ (Int.pow_nonneg (by omega))]
  rw [show ((p.toNat : Int) / 2 ^ i) = ((p.toNat / 2 ^ i : Nat) : Int) by rw [Int.natCast_ediv, Int.natCast_pow]; rfl]
  rw [Int.tmod_eq_emod_of_nonneg (Int.natCast_nonneg _), BitVec.getLsbD, Nat.testBit_eq_decide_div_mod_eq]
  rw [Bool.eq_iff_iff]
  simp only [beq_iff_eq, decide_eq_true_eq]
  omega

theorem bitShr (p : BitVec 32) (i : Nat) : (Int.tmod (((p >>> i).toNat : Nat) : Int) 2 == 1) = p.getLsbD i := by
  rw [Int.tmod_eq_emod_of_nonneg (Int.natCast_nonneg _), BitVec.toNat_ushiftRight, Nat.shiftRight_eq_div_pow, BitVec.getLsbD, Nat.testBit_eq_decide_div_mod_eq, Bool.eq_iff_iff]
  simp only [beq_iff_eq, decide_eq_true_eq]
  omega

theorem modify_set {α : Type} (l : List α) (k : Nat) (f : α → α) (h : k < l.length) : l.modify k f = l.set k (f l[k]) := by
  apply List.ext_getElem?
  intro i
  rw [List.getElem?_modify, List.getElem?_set]
  by_cases hi : k = i
  · subst hi; simp [h]
  · simp [hi]

theorem turnTo_set {xs : List (BitVec 8)} {n : Nat} {p : BitVec 32} {i : Nat} (h1 : p.getLsbD i = true) (h2 : n + i < 8 * xs.length) (hk : (n + i) / 8 < (turnTo xs n p i).length) :
    turnTo xs n p (i + 1) = (turnTo xs n p i).set ((n + i) / 8) ((turnTo xs n p i)[(n + i) / 8] ^^^ (BitVec.ofNat 8 1 <<< ((n + i) % 8))) := by
  rw [turnTo_succ, turnOne, if_pos (by simp [h1, h2]), modify_set _ _ _ hk]
theorem turnTo_skip {xs : List (BitVec 8)} {n : Nat} {p : BitVec 32} {i : Nat} (h : ¬ (p.getLsbD i = true ∧ n + i < 8 * xs.length)) : turnTo xs n p (i + 1) = turnTo xs n p i := by
  rw [turnTo_succ, turnOne, if_neg (by simpa using h)]

/-- Are batches such as are gone through? -/
def btsFit (l : List Bt) : Bool := decide (l.length ≤ 100) && l.all fun b => decide (b.ids.length ≤ 100)

end Go.Ab
