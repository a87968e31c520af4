/- Ab.Batch: which batches may be, as plain functions. -/
import Derived.Test.YtgnlnkbkbddfaaaAbLists
namespace Go.Ab

/-- Does each number fit its bits? -/
def fitsL (l : List (Int × Nat)) : Bool := !l.any fun q => decide (q.1 < 0) || decide (q.1 ≥ 2 ^ q.2)

def keyRight (a0 a1 a3 a4 a5 : Int) : Bool := fitsL [(a0, 4), (a1, 2), (a3, 6), (a4, 8), (a5, 8)]

def idRight (n : Int) : Bool := decide (n ≥ 0) && decide (n < 16777216)

def btRight (b : Bt) : Bool := keyRight b.a0 b.a1 b.a3 b.a4 b.a5 && decide ((b.ids.length : Int) ≥ 1) && decide ((b.ids.length : Int) ≤ 64) && !b.ids.any fun n => !idRight n

def btsRight (l : List Bt) : Bool := !l.any fun b => !btRight b

theorem btsRight_ids {l : List Bt} (h : btsRight l = true) : ∀ b ∈ l, b.ids.length ≤ 64 := fun b hb => by
  have h2 : btRight b = true := by
    simp only [btsRight, Bool.not_eq_true', List.any_eq_false] at h
    simpa using h b hb
  simp only [btRight, Bool.and_eq_true, decide_eq_true_eq] at h2
  omega

def prs (l : List (Int × Nat)) : List AV := l.map fun q => .agg [.sc (.int .i64 q.1), .sc (.int .i64 q.2)]
theorem prs_len (l : List (Int × Nat)) : (prs l).length = l.length := List.length_map ..
theorem prs_get {l : List (Int × Nat)} {i : Nat} (h : i < l.length) : (prs l).getD i .und = .agg [.sc (.int .i64 (l[i]).1), .sc (.int .i64 (l[i]).2)] := by simp [prs, h]
theorem prs_cell {l : List (Int × Nat)} {i : Nat} (h : i < l.length) : ((prs l).getD i .und).cells.length = 2 := by rw [prs_get h]; rfl
theorem shl1 {k : Nat} (h : k ≤ 60) : IntKind.i64.wrap (1 * 2 ^ min k 64) = 2 ^ k := by
  rw [Nat.min_eq_left (by omega), Int.one_mul]
  have : (2 : Int) ^ k ≤ 2 ^ 60 := by
    have := Nat.pow_le_pow_right (n := 2) (by omega) h
    calc (2 : Int) ^ k = ((2 ^ k : Nat) : Int) := (Int.natCast_pow 2 k).symm
      _ ≤ ((2 ^ 60 : Nat) : Int) := by omega
      _ = 2 ^ 60 := Int.natCast_pow 2 60
  have h0 : (0 : Int) ≤ 2 ^ k := Int.pow_nonneg (by omega)
  exact wrap64 (by omega) (by omega)

attribute [go_sem] prs_len

end Go.Ab
