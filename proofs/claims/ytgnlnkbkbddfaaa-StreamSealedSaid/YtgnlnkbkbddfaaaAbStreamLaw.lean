/- Ab.StreamLaw: the program's reader of streams and the reference's tell the same. -/
import Derived.Test.YtgnlnkbkbddfaaaAbRef22
namespace Go.Ab

def enc (l : List Int) : List (BitVec 8) := l.flatMap fun n => encF 6 n.toNat
def okN (l : List Int) : Prop := ∀ n ∈ l, 0 ≤ n ∧ n ≤ 1099511627776
theorem enc_app (a b : List Int) : enc (a ++ b) = enc a ++ enc b := List.flatMap_append ..
theorem enc_cons (n : Int) (l : List Int) : enc (n :: l) = encF 6 n.toNat ++ enc l := rfl
theorem enc_nil : enc [] = [] := rfl
theorem okN_app {a b : List Int} : okN (a ++ b) ↔ okN a ∧ okN b := by
  simp only [okN, List.mem_append]
  exact ⟨fun h => ⟨fun n hn => h n (.inl hn), fun n hn => h n (.inr hn)⟩, fun h n hn => hn.elim (h.1 n) (h.2 n)⟩
theorem okN_one {n : Int} : okN [n] ↔ 0 ≤ n ∧ n ≤ 1099511627776 := by simp [okN]
theorem okN_cons {n : Int} {l : List Int} : okN (n :: l) ↔ (0 ≤ n ∧ n ≤ 1099511627776) ∧ okN l := by simp [okN]
theorem okN_nil : okN [] := by simp [okN]

theorem putL_ok : ∀ (l : List Int) (w : List (BitVec 8)), okN l → putL (w, false) l = (w ++ enc l, false)
  | [], w, _ => by simp [putL, enc]
  | n :: l, w, h => by
    obtain ⟨h1, h2⟩ := okN_cons.1 h
    have := putL_ok l (w ++ encF 6 n.toNat) h2
    rw [enc_cons, ← List.append_assoc, ← this]
    show putL (putOne (w, false) n) l = _
    rw [putOne, if_neg (by omega)]

theorem getP_inv {r r' : Rd} {m : Int} {n : Nat} (h : getP r m = some (n, r')) : r.get m = (n, r') ∧ r.left = encF 6 n ++ r'.left ∧ (n : Int) ≤ m ∧ n ≤ 1099511627776 ∧ r'.bad = false := by
  unfold getP at h
  split at h
  · cases h
  · rename_i hb
    have e := Option.some.inj h
    refine ⟨e, ?_⟩
    rw [e] at hb
    unfold Rd.get at e
    split at e
    · rename_i h1; cases e; exact absurd h1 hb
    · split at e
      · cases e; exact absurd rfl hb
      · rename_i h2
        simp only [not_or] at h2
        cases e
        exact ⟨numberOf_enc h2.1, by omega, numberOf_lt _, rfl⟩
theorem getP_app {n : Nat} {m : Int} {l : List (BitVec 8)} (h : (n : Int) ≤ m) (h1 : n ≤ 1099511627776) : getP ⟨encF 6 n ++ l, false⟩ m = some (n, ⟨l, false⟩) := by
  have hp : (encF 6 n).length ≠ 0 := by rw [encF]; split <;> simp
  have hg : (⟨encF 6 n ++ l, false⟩ : Rd).get m = (n, ⟨l, false⟩) := by
    rw [Rd.get, if_neg (by simp)]
    dsimp only
    rw [numberOf_app h1, if_neg (by dsimp only; omega)]
    dsimp only
    rw [List.drop_left']; rfl
  rw [getP, hg]; rfl

def chg (was v : Int) : List Int := if v = was then [] else [v]
def stepV (r : Rd) (c bit : Nat) (was : Int) : Option (Int × Rd) :=
  if c &&& bit = 0 then some (was, r) else match getP r 255 with
  | none => none
  | some (n, r') => if (n : Int) = was then none else some (n, r')

theorem and_bit (c k : Nat) : c &&& 2 ^ k = 0 ↔ ¬ c / 2 ^ k % 2 = 1 := by
  have ht : c.testBit k = decide (c / 2 ^ k % 2 = 1) := Nat.testBit_eq_decide_div_mod_eq
  constructor
  · intro h h1
    have := congrArg (fun n => n.testBit k) h
    simp [Nat.testBit_and, ht, h1, Nat.testBit_two_pow_self] at this
  · intro h
    apply Nat.eq_of_testBit_eq
    intro j
    rw [Nat.testBit_and, Nat.testBit_two_pow]
    by_cases hj : k = j
    · subst hj; rw [ht, decide_eq_false h]; simp
    · simp [hj]

theorem stepV_inv {r r' : Rd} {c k : Nat} {was v : Int} (hb : r.bad = false) (h : stepV r c (2 ^ k) was = some (v, r')) :
    valueL r c (2 ^ k) was = (v, r') ∧ r.left = enc (chg was v) ++ r'.left ∧ (c / 2 ^ k % 2 = 1 ↔ v ≠ was) ∧ r'.bad = false ∧ okN (chg was v) := by
  unfold stepV at h
  split at h
  · rename_i h0
    cases h
    rw [and_bit] at h0
    refine ⟨by rw [valueL, if_neg h0], by simp [chg, enc], by simp [h0], hb, by simp [chg, okN]⟩
  · rename_i h0
    rw [and_bit, Decidable.not_not] at h0
    split at h
    · cases h
    · rename_i n r1 hg
      split at h
      · cases h
      · rename_i hne
        cases h
        obtain ⟨g1, g2, g3, g4, g5⟩ := getP_inv hg
        refine ⟨by rw [valueL, if_pos h0, g1], by rw [chg, if_neg hne, enc_cons, enc_nil, List.append_nil]; exact g2, by simp [h0, hne], g5, by rw [chg, if_neg hne, okN_one]; omega⟩

theorem stepV_app {c k : Nat} {was v : Int} {l : List (BitVec 8)} (h : c / 2 ^ k % 2 = 1 ↔ v ≠ was) (h0 : 0 ≤ v) (h1 : v ≤ 255) : stepV ⟨enc (chg was v) ++ l, false⟩ c (2 ^ k) was = some (v, ⟨l, false⟩) := by
  unfold stepV
  by_cases hv : v = was
  · rw [if_pos (by rw [and_bit, h]; simpa using hv)]
    subst hv
    simp [chg, enc]
  · obtain ⟨n, rfl⟩ : ∃ n : Nat, v = (n : Int) := ⟨v.toNat, by omega⟩
    rw [if_neg (by rw [and_bit, h]; simpa using hv), chg, if_neg hv, enc_cons, enc_nil, List.append_nil, Int.toNat_natCast, getP_app (by omega) (by omega)]
    dsimp only
    rw [if_neg hv]

theorem bitOf_pow : bitOf 0 = 2 ^ 0 ∧ bitOf 1 = 2 ^ 1 ∧ bitOf 2 = 2 ^ 3 ∧ bitOf 3 = 2 ^ 4 ∧ bitOf 4 = 2 ^ 5 := by decide

theorem partStep_stepV (c : Nat) (b : Bt) (r : Rd) (i : Nat) : partStep c (some (b, r)) i = (stepV r c (bitOf i) (partOf b i)).map fun q => (setPart b q.1 i, q.2) := by
  have hs : setPart b (partOf b i) i = b := by
    rcases i with _ | _ | _ | _ | i <;> rfl
  simp only [partStep, stepV]
  split
  · simp [hs]
  · cases getP r 255 with
    | none => rfl
    | some q =>
      obtain ⟨n, r'⟩ := q
      dsimp only
      split <;> rfl

theorem partsTo_five (c : Nat) (b : Bt) (r : Rd) : partsTo c b r 5 =
    (stepV r c (2 ^ 0) b.a0).bind fun v0 => (stepV v0.2 c (2 ^ 1) b.a1).bind fun v1 => (stepV v1.2 c (2 ^ 3) b.a3).bind fun v3 => (stepV v3.2 c (2 ^ 4) b.a4).bind fun v4 => (stepV v4.2 c (2 ^ 5) b.a5).map fun v5 =>
      (⟨v0.1, v1.1, b.clear, v3.1, v4.1, v5.1, b.ids⟩, v5.2) := by
  have h0 : partsTo c b r 0 = some (b, r) := rfl
  rw [partsTo_succ, partsTo_succ, partsTo_succ, partsTo_succ, partsTo_succ, h0, partStep_stepV, bitOf_pow.1]
  show partStep c (partStep c (partStep c (partStep c ((stepV r c (2 ^ 0) b.a0).map _) 1) 2) 3) 4 = _
  cases stepV r c (2 ^ 0) b.a0 with
  | none => rfl
  | some v0 =>
    simp only [Option.map_some, Option.bind_some]
    rw [partStep_stepV, bitOf_pow.2.1]
    show partStep c (partStep c (partStep c ((stepV v0.2 c (2 ^ 1) b.a1).map _) 2) 3) 4 = _
    cases stepV v0.2 c (2 ^ 1) b.a1 with
    | none => rfl
    | some v1 =>
      simp only [Option.map_some, Option.bind_some]
      rw [partStep_stepV, bitOf_pow.2.2.1]
      show partStep c (partStep c ((stepV v1.2 c (2 ^ 3) b.a3).map _) 3) 4 = _
      cases stepV v1.2 c (2 ^ 3) b.a3 with
      | none => rfl
      | some v3 =>
        simp only [Option.map_some, Option.bind_some]
        rw [partStep_stepV, bitOf_pow.2.2.2.1]
        show partStep c ((stepV v3.2 c (2 ^ 4) b.a4).map _) 4 = _
        cases stepV v3.2 c (2 ^ 4) b.a4 with
        | none => rfl
        | some v4 =>
          simp only [Option.map_some, Option.bind_some]
          rw [partStep_stepV, bitOf_pow.2.2.2.2]
          rfl

theorem idsTo_inv {r r' : Rd} : ∀ {k : Nat} {l : List Int}, r.bad = false → idsTo r k = some (l, r') → idsL r k = (l, r') ∧ r.left = enc l ++ r'.left ∧ l.length = k ∧ r'.bad = false ∧ okN l
  | 0, l, hb, h => by cases h; exact ⟨rfl, by simp [enc], rfl, hb, okN_nil⟩
  | k + 1, l, hb, h => by
    rw [idsTo_succ] at h
    cases hk : idsTo r k with
    | none => rw [hk] at h; cases h
    | some q =>
      obtain ⟨l1, r1⟩ := q
      rw [hk] at h
      simp only [idStep] at h
      split at h
      · cases h
      · rename_i n r2 hg
        cases h
        obtain ⟨i1, i2, i3, i4, i5⟩ := idsTo_inv hb hk
        obtain ⟨g1, g2, g3, g4, g5⟩ := getP_inv hg
        refine ⟨by rw [idsL_succ, i1]; dsimp only; rw [g1], ?_, by simp [i3], g5, ?_⟩
        · rw [i2, g2, enc_app, enc_cons, enc_nil, List.append_nil, List.append_assoc]; rfl
        · rw [okN_app, okN_one]; exact ⟨i5, by omega⟩

theorem idsTo_app : ∀ (ids : List Int) (k : Nat) (l : List (BitVec 8)), k ≤ ids.length → (∀ n ∈ ids, 0 ≤ n ∧ n ≤ 16777215) → idsTo ⟨enc ids ++ l, false⟩ k = some (ids.take k, ⟨enc (ids.drop k) ++ l, false⟩)
  | ids, 0, l, _, _ => rfl
  | ids, k + 1, l, hk, h => by
    rw [idsTo_succ, idsTo_app ids k l (by omega) h]
    simp only [idStep]
    rw [List.drop_eq_getElem_cons (show k < ids.length by omega)]
    obtain ⟨h1, h2⟩ := h ids[k] (List.getElem_mem _)
    obtain ⟨n, hn⟩ : ∃ n : Nat, ids[k] = (n : Int) := ⟨ids[k].toNat, by omega⟩
    rw [enc_cons, hn, Int.toNat_natCast, List.append_assoc, getP_app (by omega) (by omega)]
    dsimp only
    rw [List.take_add_one, List.getElem?_eq_getElem (show k < ids.length by omega), hn]; rfl

def b2n (p : Bool) (k : Nat) : Nat := if p then k else 0
theorem chg_all (was b : Bt) : (chgV (steps was b)).2 = chg was.a0 b.a0 ++ chg was.a1 b.a1 ++ chg was.a3 b.a3 ++ chg was.a4 b.a4 ++ chg was.a5 b.a5 ∧
    btChange was b = b2n (decide (b.a0 ≠ was.a0)) 1 + b2n (decide (b.a1 ≠ was.a1)) 2 + b2n (b.clear != was.clear) 4 + b2n (decide (b.a3 ≠ was.a3)) 8 + b2n (decide (b.a4 ≠ was.a4)) 16 + b2n (decide (b.a5 ≠ was.a5)) 32 := by
  have h := itTo_all was b
  rcases was with ⟨a0, a1, ac, a3, a4, a5, ai⟩
  rcases b with ⟨b0, b1, bc, b3, b4, b5, bi⟩
  have h2 : (chgV (steps ⟨a0, a1, ac, a3, a4, a5, ai⟩ ⟨b0, b1, bc, b3, b4, b5, bi⟩)).2 = (itTo ⟨a0, a1, ac, a3, a4, a5, ai⟩ ⟨b0, b1, bc, b3, b4, b5, bi⟩ 6).2 := by rw [h]
  have h1 : btChange ⟨a0, a1, ac, a3, a4, a5, ai⟩ ⟨b0, b1, bc, b3, b4, b5, bi⟩ = (itTo ⟨a0, a1, ac, a3, a4, a5, ai⟩ ⟨b0, b1, bc, b3, b4, b5, bi⟩ 6).1 := by rw [h]
  rw [h1, h2]
  clear h h1 h2
  simp only [itTo, items, itStep, chg, b2n, List.take_succ_cons, List.take_zero, List.foldl_cons, List.foldl_nil]
  by_cases h0 : b0 = a0 <;> by_cases h1 : b1 = a1 <;> by_cases h3 : b3 = a3 <;> by_cases h4 : b4 = a4 <;> by_cases h5 : b5 = a5 <;> cases ac <;> cases bc <;>
    simp [h0, h1, h3, h4, h5, Ne.symm]

end Go.Ab
