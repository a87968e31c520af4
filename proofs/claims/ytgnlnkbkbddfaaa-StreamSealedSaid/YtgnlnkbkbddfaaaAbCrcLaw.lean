/- Ab.CrcLaw: bursts: of sealed bytes of which some bits within 32 in a row are turned the sum is another one. -/
import Derived.Test.YtgnlnkbkbddfaaaAbCrc
namespace Go.Ab

def bit1 (b : Bool) : BitVec 32 := if b then BitVec.ofNat 32 1 else 0#32

/-- Bits one by one, the first one first. -/
def feedN (x : BitVec 32) (f : Nat → Bool) : Nat → BitVec 32
  | 0 => x
  | n + 1 => crcStep (feedN x f n ^^^ bit1 (f n))

def word (f : Nat → Bool) : Nat → BitVec 32
  | 0 => 0#32
  | n + 1 => word f n ^^^ (bit1 (f n) <<< n)

theorem low_cases (x : BitVec 32) : (x &&& BitVec.ofNat 32 1 = 0#32 ∧ x.getLsbD 0 = false) ∨ (x &&& BitVec.ofNat 32 1 = 1#32 ∧ x.getLsbD 0 = true) := by
  cases h : x.getLsbD 0
  · left; refine ⟨?_, rfl⟩
    apply BitVec.eq_of_getLsbD_eq; intro i hi
    rw [BitVec.getLsbD_and]
    cases i with
    | zero => rw [h]; rfl
    | succ i => simp [BitVec.getLsbD_one]
  · right; refine ⟨?_, rfl⟩
    apply BitVec.eq_of_getLsbD_eq; intro i hi
    rw [BitVec.getLsbD_and]
    cases i with
    | zero => rw [h]; decide
    | succ i => simp [BitVec.getLsbD_one]

theorem crcStep_if (x : BitVec 32) : crcStep x = (x >>> 1) ^^^ (if x.getLsbD 0 then BitVec.ofNat 32 3988292384 else 0#32) := by
  unfold crcStep
  rcases low_cases x with ⟨h1, h2⟩ | ⟨h1, h2⟩
  · rw [h1, h2]; rfl
  · rw [h1, h2]; rfl

theorem crcStep_xor (x y : BitVec 32) : crcStep (x ^^^ y) = crcStep x ^^^ crcStep y := by
  simp only [crcStep_if, BitVec.getLsbD_xor, BitVec.ushiftRight_xor_distrib]
  cases x.getLsbD 0 <;> cases y.getLsbD 0 <;> simp
  · rw [BitVec.xor_assoc]
  · rw [BitVec.xor_assoc, BitVec.xor_assoc, BitVec.xor_comm (y >>> 1)]
  · rw [show ∀ a b c : BitVec 32, (a ^^^ c) ^^^ (b ^^^ c) = a ^^^ b from fun a b c => by rw [BitVec.xor_comm b c, ← BitVec.xor_assoc, BitVec.xor_assoc a, BitVec.xor_self]; simp]

theorem crcStep_zero : crcStep 0#32 = 0#32 := by decide

theorem crcBits_xor (n : Nat) (x y : BitVec 32) : crcBits n (x ^^^ y) = crcBits n x ^^^ crcBits n y := by
  induction n with
  | zero => rfl
  | succ n ih => simp only [crcBits]; rw [ih, crcStep_xor]

theorem crcBits_zero (n : Nat) : crcBits n 0#32 = 0#32 := by
  induction n with
  | zero => rfl
  | succ n ih => simp only [crcBits]; rw [ih, crcStep_zero]

theorem crcStep_inj {x : BitVec 32} (h : crcStep x = 0#32) : x = 0#32 := by
  rw [crcStep_if] at h
  have hi := congrArg (fun z : BitVec 32 => z.getLsbD 31) h
  cases h0 : x.getLsbD 0
  · rw [h0] at h
    simp at h
    apply BitVec.eq_of_getLsbD_eq; intro i hi
    cases i with
    | zero => simpa using h0
    | succ i =>
      have := congrArg (fun z : BitVec 32 => z.getLsbD i) h
      simp only [BitVec.getLsbD_ushiftRight] at this
      rw [Nat.add_comm] at this
      simpa using this
  · rw [h0] at hi
    simp at hi

theorem crcBits_inj {n : Nat} {x : BitVec 32} (h : crcBits n x = 0#32) : x = 0#32 := by
  induction n with
  | zero => exact h
  | succ n ih => exact ih (crcStep_inj h)

theorem crcBits_add (m n : Nat) (x : BitVec 32) : crcBits (m + n) x = crcBits n (crcBits m x) := by
  induction n with
  | zero => rfl
  | succ n ih => rw [← Nat.add_assoc]; simp only [crcBits]; rw [ih]

theorem crcBits_one : ∀ n, n < 32 → crcBits n (BitVec.ofNat 32 1 <<< n) = BitVec.ofNat 32 1 := by decide

theorem bit1_shift (b : Bool) {n : Nat} (h : n < 32) : crcBits n (bit1 b <<< n) = bit1 b := by
  cases b
  · simp [bit1, crcBits_zero]
  · exact crcBits_one n h

theorem feedN_word (x : BitVec 32) (f : Nat → Bool) : ∀ n, n ≤ 32 → feedN x f n = crcBits n (x ^^^ word f n)
  | 0, _ => by simp [feedN, word, crcBits]
  | n + 1, h => by
    simp only [feedN, word, crcBits]
    rw [feedN_word x f n (by omega), ← BitVec.xor_assoc, crcBits_xor n _ (bit1 (f n) <<< n), bit1_shift _ (by omega)]

theorem word_bit (f : Nat → Bool) : ∀ n, n ≤ 32 → ∀ i, (word f n).getLsbD i = (decide (i < n) && f i)
  | 0, _, i => by simp [word]
  | n + 1, h, i => by
    simp only [word, BitVec.getLsbD_xor]
    rw [word_bit f n (by omega) i, BitVec.getLsbD_shiftLeft]
    by_cases h1 : i < n
    · simp [h1, show i < n + 1 by omega]
    · by_cases h2 : i = n
      · subst h2
        have : i < 32 := by omega
        cases f i <;> simp [bit1, this]
      · have h3 : ¬ i < n + 1 := by omega
        have h4 : i - n ≠ 0 := by omega
        cases f n <;> simp [bit1, h1, h3, BitVec.getLsbD_one, h4]

theorem feedN_xor (x y : BitVec 32) (f g : Nat → Bool) : ∀ n, feedN (x ^^^ y) (fun k => f k ^^ g k) n = feedN x f n ^^^ feedN y g n
  | 0 => rfl
  | n + 1 => by
    simp only [feedN]
    rw [feedN_xor x y f g n, ← crcStep_xor]
    congr 1
    have : bit1 (f n ^^ g n) = bit1 (f n) ^^^ bit1 (g n) := by cases f n <;> cases g n <;> decide
    rw [this]
    ac_rfl

theorem feedN_congr {x : BitVec 32} {f g : Nat → Bool} : ∀ {n}, (∀ k, k < n → f k = g k) → feedN x f n = feedN x g n
  | 0, _ => rfl
  | n + 1, h => by simp only [feedN]; rw [feedN_congr fun k hk => h k (by omega), h n (by omega)]

theorem feedN_add (x : BitVec 32) (f : Nat → Bool) (a : Nat) : ∀ b, feedN x f (a + b) = feedN (feedN x f a) (fun k => f (a + k)) b
  | 0 => rfl
  | b + 1 => by rw [← Nat.add_assoc]; simp only [feedN]; rw [feedN_add x f a b]

theorem feedN_zero (x : BitVec 32) : ∀ n, feedN x (fun _ => false) n = crcBits n x
  | 0 => rfl
  | n + 1 => by simp only [feedN, crcBits]; rw [feedN_zero x n]; simp [bit1]

/-- A burst alone comes to nothing only where it is none. -/
theorem burst_zero (p : BitVec 32) {at' N : Nat} (h : feedN 0#32 (fun k => decide (at' ≤ k) && p.getLsbD (k - at')) N = 0#32) : ∀ k, k < N → (decide (at' ≤ k) && p.getLsbD (k - at')) = false := by
  intro k hk
  by_cases hle : at' ≤ k
  · have hN : N = at' + (min 32 (N - at') + (N - at' - min 32 (N - at'))) := by omega
    rw [hN, feedN_add] at h
    rw [feedN_congr (n := at') (g := fun _ => false) (fun j hj => by simp; omega), feedN_zero, crcBits_zero, feedN_add] at h
    rw [feedN_congr (n := min 32 (N - at')) (g := p.getLsbD) (fun j _ => by simp [show at' + j - at' = j by omega])] at h
    rw [feedN_congr (n := N - at' - min 32 (N - at')) (g := fun _ => false) (fun j hj => by
      rw [BitVec.getLsbD_of_ge _ _ (by omega)]; simp), feedN_zero, feedN_word _ _ _ (by omega), ← crcBits_add] at h
    have hw := crcBits_inj h
    rw [show (0#32 ^^^ word p.getLsbD (min 32 (N - at'))) = word p.getLsbD (min 32 (N - at')) by simp] at hw
    by_cases h32 : k - at' < 32
    · have := word_bit p.getLsbD (min 32 (N - at')) (by omega) (k - at')
      rw [hw, show decide (k - at' < min 32 (N - at')) = true by simp; omega] at this
      simp only [Bool.true_and, BitVec.getLsbD_zero] at this
      rw [← this, Bool.and_false]
    · rw [BitVec.getLsbD_of_ge _ _ (by omega)]; simp
  · simp [hle]

def bitAt (l : List (BitVec 8)) (k : Nat) : Bool := (l.getD (k / 8) 0#8).getLsbD (k % 8)

theorem crcByte_feed (x : BitVec 32) (b : BitVec 8) : crcByte x b = feedN x b.getLsbD 8 := by
  rw [feedN_word _ _ _ (by omega), crcByte]
  congr 2
  apply BitVec.eq_of_getLsbD_eq; intro i hi
  rw [word_bit _ _ (by omega), BitVec.getLsbD_setWidth]
  by_cases h : i < 8
  · simp [h, hi]
  · simp [h, BitVec.getLsbD_of_ge b i (by omega)]

theorem crcRun_feed : ∀ (l : List (BitVec 8)) (x : BitVec 32), crcRun x l = feedN x (bitAt l) (8 * l.length)
  | [], x => rfl
  | b :: l, x => by
    show crcRun (crcByte x b) l = _
    rw [crcRun_feed l, List.length_cons, show 8 * (l.length + 1) = 8 + 8 * l.length by omega, feedN_add, crcByte_feed]
    rw [feedN_congr (n := 8) (f := b.getLsbD) (g := bitAt (b :: l)) fun k hk => by simp [bitAt, show k / 8 = 0 by omega, show k % 8 = k by omega]]
    congr 1
    funext k
    simp [bitAt, show (8 + k) / 8 = k / 8 + 1 by omega, show (8 + k) % 8 = k % 8 by omega]

theorem bitAt_le32 (c : BitVec 32) {k : Nat} (hk : k < 32) : bitAt (le32 c 4) k = c.getLsbD k := by
  have h4 : k / 8 < 4 := by omega
  have : (le32 c 4).getD (k / 8) 0#8 = (c >>> (8 * (k / 8))).setWidth 8 := by
    simp [le32, h4]
  rw [bitAt, this, BitVec.getLsbD_setWidth, BitVec.getLsbD_ushiftRight]
  simp [show k % 8 < 8 by omega, show 8 * (k / 8) + k % 8 = k by omega]

theorem crcRun_le32 (y c : BitVec 32) : crcRun y (le32 c 4) = crcBits 32 (y ^^^ c) := by
  rw [crcRun_feed, le32_length, feedN_word _ _ _ (by omega)]
  congr 2
  apply BitVec.eq_of_getLsbD_eq; intro i hi
  rw [word_bit _ _ (by omega), bitAt_le32 c hi]
  simp [hi]

theorem crcRun_sealed (l : List (BitVec 8)) : crcRun (BitVec.ofNat 32 4294967295) (sealed l) = crcBits 32 (BitVec.ofNat 32 4294967295) := by
  rw [sealed, show ∀ x a b, crcRun x (a ++ b) = crcRun (crcRun x a) b from fun x a b => List.foldl_append .., crcRun_le32, crcOf]
  congr 1
  rw [BitVec.xor_comm (BitVec.ofNat 32 4294967295), ← BitVec.xor_assoc, BitVec.xor_self]
  simp

/-- One bit of a pattern, turned. -/
def turnOne (n at' : Nat) (p : BitVec 32) (l : List (BitVec 8)) (i : Nat) : List (BitVec 8) :=
  if p.getLsbD i && decide (at' + i < 8 * n) then l.modify ((at' + i) / 8) (· ^^^ (BitVec.ofNat 8 1 <<< ((at' + i) % 8))) else l
def turnTo (l : List (BitVec 8)) (at' : Nat) (p : BitVec 32) (m : Nat) : List (BitVec 8) := (List.range m).foldl (turnOne l.length at' p) l
def turnOf (l : List (BitVec 8)) (at' : Nat) (p : BitVec 32) : List (BitVec 8) := turnTo l at' p 32

theorem turnTo_succ (l : List (BitVec 8)) (at' : Nat) (p : BitVec 32) (m : Nat) : turnTo l at' p (m + 1) = turnOne l.length at' p (turnTo l at' p m) m := by
  simp [turnTo, List.range_succ]

theorem turnTo_length (l : List (BitVec 8)) (at' : Nat) (p : BitVec 32) : ∀ m, (turnTo l at' p m).length = l.length
  | 0 => rfl
  | m + 1 => by
    rw [turnTo_succ, turnOne]
    split
    · rw [List.length_modify, turnTo_length l at' p m]
    · exact turnTo_length l at' p m

theorem turnOf_length (l : List (BitVec 8)) (at' : Nat) (p : BitVec 32) : (turnOf l at' p).length = l.length := turnTo_length l at' p 32

theorem bitAt_modify (l : List (BitVec 8)) {j k : Nat} (hj : j < 8 * l.length) : bitAt (l.modify (j / 8) (· ^^^ (BitVec.ofNat 8 1 <<< (j % 8)))) k = (bitAt l k ^^ decide (k = j)) := by
  unfold bitAt
  rw [List.getD_eq_getElem?_getD, List.getElem?_modify, List.getD_eq_getElem?_getD]
  by_cases h : j / 8 = k / 8
  · have hlt : k / 8 < l.length := by omega
    rw [List.getElem?_eq_getElem hlt]
    simp only [if_pos h, Option.map_eq_map, Option.map_some, Option.getD_some, BitVec.getLsbD_xor, BitVec.getLsbD_shiftLeft]
    congr 1
    by_cases hk : k = j
    · subst hk; simp; omega
    · have h1 : k % 8 ≠ j % 8 := by omega
      simp [hk, BitVec.getLsbD_one]; omega
  · simp only [if_neg h]
    have : k ≠ j := fun hh => h (by rw [hh])
    cases l[k / 8]? <;> simp [this]

theorem bitAt_turnTo (l : List (BitVec 8)) (at' : Nat) (p : BitVec 32) : ∀ m, ∀ k, k < 8 * l.length → bitAt (turnTo l at' p m) k = (bitAt l k ^^ (decide (at' ≤ k) && decide (k - at' < m) && p.getLsbD (k - at')))
  | 0, k, hk => by simp [turnTo]
  | m + 1, k, hk => by
    rw [turnTo_succ, turnOne]
    have ih := bitAt_turnTo l at' p m k hk
    have hl := turnTo_length l at' p m
    split
    · rename_i hc
      simp only [Bool.and_eq_true, decide_eq_true_eq] at hc
      rw [bitAt_modify _ (by omega), ih]
      by_cases hkm : k = at' + m
      · subst hkm
        simp [show at' + m - at' = m by omega, hc.1]
      · have : (decide (at' ≤ k) && decide (k - at' < m + 1)) = (decide (at' ≤ k) && decide (k - at' < m)) := by
          by_cases ha : at' ≤ k
          · simp [ha]; omega
          · simp [ha]
        simp [hkm, this]
    · rename_i hc
      rw [ih]
      by_cases hkm : k = at' + m
      · subst hkm
        have : p.getLsbD m = false := by
          cases h : p.getLsbD m
          · rfl
          · exact absurd (by simp [h, hk]) hc
        simp [show at' + m - at' = m by omega, this]
      · have : (decide (at' ≤ k) && decide (k - at' < m + 1)) = (decide (at' ≤ k) && decide (k - at' < m)) := by
          by_cases ha : at' ≤ k
          · simp [ha]; omega
          · simp [ha]
        simp [this]

theorem bitAt_turn (l : List (BitVec 8)) (at' : Nat) (p : BitVec 32) {k : Nat} (hk : k < 8 * l.length) : bitAt (turnOf l at' p) k = (bitAt l k ^^ (decide (at' ≤ k) && p.getLsbD (k - at'))) := by
  rw [turnOf, bitAt_turnTo l at' p 32 k hk]
  by_cases h : k - at' < 32
  · simp [h]
  · simp [BitVec.getLsbD_of_ge p (k - at') (by omega)]

theorem eq_of_bits {l m : List (BitVec 8)} (hl : l.length = m.length) (h : ∀ k, k < 8 * l.length → bitAt l k = bitAt m k) : l = m := by
  apply List.ext_getElem hl
  intro i h1 h2
  apply BitVec.eq_of_getLsbD_eq; intro j hj
  have := h (8 * i + j) (by omega)
  simpa [bitAt, show (8 * i + j) / 8 = i by omega, show (8 * i + j) % 8 = j by omega, h1, h2] using this

/-- Sealed bytes, some bits within 32 in a row turned, that are sealed again are the same. -/
theorem burst (a c : List (BitVec 8)) (at' : Nat) (p : BitVec 32) (h : turnOf (sealed a) at' p = sealed c) : turnOf (sealed a) at' p = sealed a := by
  have hlen := turnOf_length (sealed a) at' p
  have h1 := crcRun_sealed a
  have h2 := crcRun_sealed c
  rw [← h] at h2
  rw [crcRun_feed] at h1 h2
  rw [hlen] at h2
  have h3 := feedN_xor (BitVec.ofNat 32 4294967295) (BitVec.ofNat 32 4294967295) (bitAt (sealed a)) (bitAt (turnOf (sealed a) at' p)) (8 * (sealed a).length)
  rw [h1, h2, BitVec.xor_self, BitVec.xor_self] at h3
  rw [feedN_congr (g := fun k => decide (at' ≤ k) && p.getLsbD (k - at')) (fun k hk => by rw [bitAt_turn _ _ _ hk, ← Bool.xor_assoc, Bool.xor_self, Bool.false_xor])] at h3
  have h4 := burst_zero p h3
  exact eq_of_bits hlen fun k hk => by rw [bitAt_turn _ _ _ (by omega), h4 k (by omega), Bool.xor_false]

end Go.Ab
