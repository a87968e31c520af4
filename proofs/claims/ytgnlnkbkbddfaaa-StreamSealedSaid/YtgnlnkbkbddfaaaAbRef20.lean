/- Ab.Ref20: numbers as bytes, as the reference reads and writes them: the same as the program's. -/
import Derived.Test.YtgnlnkbkbddfaaaAbOctets
import Derived.Test.YtgnlnkbkbddfaaaAbNum64
namespace Go.Ab

def lead : List (BitVec 8) → Nat
  | [] => 0
  | c :: l => if 128 ≤ c.toNat then lead l + 1 else 0
def valL : List (BitVec 8) → Nat
  | [] => 0
  | c :: l => c.toNat % 128 + 128 * valL l

theorem lead_le : ∀ l, lead l ≤ l.length
  | [] => by simp [lead]
  | c :: l => by
    have := lead_le l
    simp only [lead, List.length_cons]; split <;> omega
theorem lead_drop {l : List (BitVec 8)} {i : Nat} (h : i < l.length) (hc : 128 ≤ (l[i]).toNat) : lead (l.drop i) = 1 + lead (l.drop (i + 1)) := by
  rw [List.drop_eq_getElem_cons h]
  simp only [lead]
  rw [if_pos hc]; omega
theorem lead_drop0 {l : List (BitVec 8)} {i : Nat} (h : i < l.length) (hc : ¬ 128 ≤ (l[i]).toNat) : lead (l.drop i) = 0 := by
  rw [List.drop_eq_getElem_cons h]
  simp only [lead]
  rw [if_neg hc]
theorem lead_end {l : List (BitVec 8)} {i : Nat} (h : ¬ i < l.length) : lead (l.drop i) = 0 := by
  rw [List.drop_eq_nil_of_le (by omega)]; rfl

theorem valL_drop {l : List (BitVec 8)} {n i : Nat} (h : i < n) (hn : n ≤ l.length) : valL ((l.take n).drop i) = (l[i]'(by omega)).toNat % 128 + 128 * valL ((l.take n).drop (i + 1)) := by
  rw [List.drop_eq_getElem_cons (by rw [List.length_take]; omega)]
  simp [valL]
theorem valL_lt : ∀ l, valL l < 128 ^ l.length
  | [] => by simp [valL]
  | c :: l => by
    have := valL_lt l
    simp only [valL, List.length_cons, Nat.pow_succ]
    omega
theorem valL_lt42 {l : List (BitVec 8)} (h : l.length ≤ 6) : valL l < 4398046511104 :=
  Nat.lt_of_lt_of_le (valL_lt l) (Nat.le_trans (Nat.pow_le_pow_right (by omega) h) (by decide))

theorem and127 (c : BitVec 8) : (c &&& 127#8).toNat = c.toNat % 128 := by
  rw [BitVec.toNat_and]; exact Nat.and_two_pow_sub_one_eq_mod c.toNat 7

theorem or_add {a d i : Nat} (h : a < 128 ^ i) : a ||| (d * 2 ^ (7 * i)) = a + 128 ^ i * d := by
  have e : (2 : Nat) ^ (7 * i) = 128 ^ i := Nat.pow_mul 2 7 i
  have := Nat.two_pow_add_eq_or_of_lt (i := 7 * i) (b := a) (by rw [e]; exact h) d
  rw [Nat.mul_comm d, Nat.or_comm, ← this, e]; omega

/-- What is read is what the leading bytes say. -/
theorem numFrom_ref : ∀ (l : List (BitVec 8)) (i a : Nat), a < 128 ^ i →
    numFrom i a l = if l.length ≤ lead l ∨ i + lead l > 5 ∨ a + 128 ^ i * valL (l.take (lead l + 1)) > 1099511627776 ∨ (i + lead l > 0 ∧ l[lead l]? = some 0#8) then (0, 0) else (a + 128 ^ i * valL (l.take (lead l + 1)), i + lead l + 1)
  | [], i, a, h => by simp [numFrom, lead]
  | c :: l, i, a, h => by
    simp only [numFrom]
    rw [and127, or_add h]
    have hm : a + 128 ^ i * (c.toNat % 128) < 128 ^ (i + 1) := by
      rw [Nat.pow_succ]
      have h1 : c.toNat % 128 ≤ 127 := by omega
      have h2 := Nat.mul_le_mul_left (128 ^ i) h1
      omega
    by_cases hc : 128 ≤ c.toNat
    · have hl : lead (c :: l) = lead l + 1 := by simp only [lead]; rw [if_pos hc]
      rw [hl, List.take_succ_cons, show valL (c :: l.take (lead l + 1)) = c.toNat % 128 + 128 * valL (l.take (lead l + 1)) from rfl]
      have hx : a + 128 ^ i * (c.toNat % 128 + 128 * valL (l.take (lead l + 1))) = a + 128 ^ i * (c.toNat % 128) + 128 ^ (i + 1) * valL (l.take (lead l + 1)) := by
        rw [Nat.mul_add, Nat.pow_succ, Nat.mul_assoc, Nat.add_assoc]
      have hc0 : c ≠ 0#8 := fun h => by rw [h] at hc; simp at hc
      rw [hx]
      by_cases h1 : a + 128 ^ i * (c.toNat % 128) > 1099511627776 ∨ i ≥ 6
      · rw [if_pos (by rcases h1 with h1 | h1; exact .inl h1; exact .inr (.inl h1)), if_pos (by rcases h1 with h1 | h1; exact .inr (.inr (.inl (by omega))); exact .inr (.inl (by omega)))]
      · rw [if_neg (by rintro (h | h | h); exact h1 (.inl h); exact h1 (.inr h); exact hc0 h.2), if_neg (by omega), numFrom_ref l (i + 1) _ hm]
        have e : (l.length ≤ lead l ∨ i + 1 + lead l > 5 ∨ a + 128 ^ i * (c.toNat % 128) + 128 ^ (i + 1) * valL (l.take (lead l + 1)) > 1099511627776 ∨ (i + 1 + lead l > 0 ∧ l[lead l]? = some 0#8)) ↔
            ((c :: l).length ≤ lead l + 1 ∨ i + (lead l + 1) > 5 ∨ a + 128 ^ i * (c.toNat % 128) + 128 ^ (i + 1) * valL (l.take (lead l + 1)) > 1099511627776 ∨ (i + (lead l + 1) > 0 ∧ (c :: l)[lead l + 1]? = some 0#8)) := by
          rw [List.getElem?_cons_succ, List.length_cons, Nat.add_le_add_iff_right, show i + 1 + lead l = i + (lead l + 1) by omega]
        simp only [e]
        rw [show i + 1 + lead l + 1 = i + (lead l + 1) + 1 by omega]
    · have hl : lead (c :: l) = 0 := by simp only [lead]; rw [if_neg hc]
      rw [hl, show valL ((c :: l).take (0 + 1)) = c.toNat % 128 from by simp [valL]]
      simp only [List.length_cons, List.getElem?_cons_zero, Option.some.injEq, Nat.add_zero]
      have e : (l.length + 1 ≤ 0 ∨ i > 5 ∨ a + 128 ^ i * (c.toNat % 128) > 1099511627776 ∨ i > 0 ∧ c = 0#8) ↔ (a + 128 ^ i * (c.toNat % 128) > 1099511627776 ∨ i ≥ 6 ∨ i > 0 ∧ c = 0#8) := by
        constructor
        · rintro (h | h | h | h)
          · omega
          · exact .inr (.inl h)
          · exact .inl h
          · exact .inr (.inr h)
        · rintro (h | h | h)
          · exact .inr (.inr (.inl h))
          · exact .inr (.inl h)
          · exact .inr (.inr (.inr h))
      simp only [e]
      rw [if_pos (show c.toNat < 128 by omega)]

set_option maxRecDepth 20000 in
theorem or128 (n : Nat) : BitVec.ofNat 8 (n ||| 128) = BitVec.ofNat 8 (128 + n % 128) := by
  apply BitVec.eq_of_toNat_eq
  rw [BitVec.toNat_ofNat, BitVec.toNat_ofNat, show 2 ^ 8 = 2 ^ 8 from rfl, Nat.or_mod_two_pow]
  have h : ∀ m, m < 256 → m ||| 128 % 2 ^ 8 = (128 + m % 128) % 2 ^ 8 := by decide
  rw [h _ (Nat.mod_lt _ (by omega))]
  omega

theorem encF_len_le : ∀ (f k x : Nat), 1 ≤ k → x < 128 ^ k → (encF f x).length ≤ k
  | 0, _, _, _, _ => by simp [encF]
  | f + 1, k, x, hk, hx => by
    simp only [encF]
    split
    · simpa using hk
    · rename_i h
      have hk2 : 2 ≤ k := by
        rcases Nat.lt_or_ge k 2 with h2 | h2
        · obtain rfl : k = 1 := by omega
          omega
        · exact h2
      have := encF_len_le f (k - 1) (x / 128) (by omega) (Nat.div_lt_of_lt_mul (by rw [← Nat.pow_succ', show (k - 1).succ = k by omega]; exact hx))
      rw [List.length_cons]; omega

/-- A number's own bytes. -/
def shut : List (BitVec 8) → Prop
  | [] => False
  | [c] => c.toNat < 128
  | c :: d :: l => 128 ≤ c.toNat ∧ shut (d :: l) ∧ (d :: l).getLast? ≠ some 0#8

theorem shut_pos : ∀ {l}, shut l → 0 < l.length ∧ (2 ≤ l.length → 0 < valL l)
  | [], h => absurd h (by simp [shut])
  | [c], h => by simp
  | c :: d :: l, h => by
    refine ⟨by simp, fun _ => ?_⟩
    have ih := shut_pos h.2.1
    simp only [valL] at ih ⊢
    cases l with
    | nil =>
      have h3 : d ≠ 0#8 := fun hd => h.2.2 (by rw [hd]; rfl)
      have h4 : d.toNat < 128 := h.2.1
      have h5 : d.toNat ≠ 0 := fun hd => h3 (BitVec.eq_of_toNat_eq (by simpa using hd))
      omega
    | cons e l =>
      have := ih.2 (by simp)
      omega

theorem enc_val : ∀ {l : List (BitVec 8)} {f : Nat}, shut l → l.length ≤ f → encF f (valL l) = l
  | [], _, h, _ => absurd h (by simp [shut])
  | [c], 0, _, hf => by simp at hf
  | [c], f + 1, h, _ => by
    have hc : c.toNat < 128 := h
    rw [show valL [c] = c.toNat from by simp only [valL]; omega, encF, if_pos hc]
    congr 1
    apply BitVec.eq_of_toNat_eq
    rw [BitVec.toNat_ofNat]; omega
  | c :: d :: l, 0, _, hf => by simp at hf
  | c :: d :: l, f + 1, h, hf => by
    have ih := enc_val (l := d :: l) (f := f) h.2.1 (by simp at hf ⊢; omega)
    have hp : 0 < valL (d :: l) := by
      cases l with
      | nil =>
        have h3 : d ≠ 0#8 := fun hd => h.2.2 (by rw [hd]; rfl)
        have h4 : d.toNat < 128 := h.2.1
        have h5 : d.toNat ≠ 0 := fun hd => h3 (BitVec.eq_of_toNat_eq (by simpa using hd))
        simp only [valL]; omega
      | cons e l => exact (shut_pos h.2.1).2 (by simp)
    rw [show valL (c :: d :: l) = c.toNat % 128 + 128 * valL (d :: l) from rfl]
    rw [encF, if_neg (by omega), show (c.toNat % 128 + 128 * valL (d :: l)) / 128 = valL (d :: l) by omega, ih, or128]
    congr 1
    apply BitVec.eq_of_toNat_eq
    rw [BitVec.toNat_ofNat]
    have := h.1
    have := c.isLt
    omega

theorem shut_lead : ∀ {l : List (BitVec 8)}, lead l < l.length → (lead l > 0 → l[lead l]? ≠ some 0#8) → shut (l.take (lead l + 1))
  | [], h, _ => by simp [lead] at h
  | c :: l, h, hz => by
    by_cases hc : 128 ≤ c.toNat
    · have hl : lead (c :: l) = lead l + 1 := by simp only [lead]; rw [if_pos hc]
      rw [hl] at h hz ⊢
      have hlt : lead l < l.length := by simpa using h
      have hz1 : l[lead l]? ≠ some 0#8 := by simpa using hz (by omega)
      have ih := shut_lead (l := l) hlt (fun _ => hz1)
      rw [List.take_succ_cons]
      cases hl2 : l.take (lead l + 1) with
      | nil => rw [hl2] at ih; exact absurd ih (by simp [shut])
      | cons d m =>
        refine ⟨hc, hl2 ▸ ih, ?_⟩
        rw [← hl2, List.getLast?_eq_getElem?, List.length_take, Nat.min_eq_left (by omega), Nat.add_sub_cancel, List.getElem?_take, if_pos (by omega)]
        exact hz1
    · have hl : lead (c :: l) = 0 := by simp only [lead]; rw [if_neg hc]
      rw [hl]
      simp only [Nat.zero_add, List.take_succ_cons, List.take_zero, shut]
      omega

theorem valL_last0 : ∀ {l : List (BitVec 8)}, l.getLast? = some 0#8 → valL l < 128 ^ (l.length - 1)
  | [], h => by simp at h
  | [c], h => by
    have : c = 0#8 := by simpa using h
    subst this
    decide
  | c :: d :: l, h => by
    have ih := valL_last0 (l := d :: l) (by simpa using h)
    rw [show valL (c :: d :: l) = c.toNat % 128 + 128 * valL (d :: l) from rfl]
    simp only [List.length_cons, Nat.add_sub_cancel] at ih ⊢
    rw [Nat.pow_succ]
    omega

/-- The reference's words for it. -/
theorem numberOf_ref (l : List (BitVec 8)) : numberOf l = if l.length ≤ lead l ∨ lead l > 5 ∨ valL (l.take (lead l + 1)) > 1099511627776 ∨ (encF 6 (valL (l.take (lead l + 1)))).length ≠ lead l + 1 then (0, 0) else (valL (l.take (lead l + 1)), lead l + 1) := by
  unfold numberOf
  rw [numFrom_ref l 0 0 (by simp)]
  simp only [Nat.zero_add, Nat.pow_zero, Nat.one_mul]
  by_cases h1 : l.length ≤ lead l ∨ lead l > 5 ∨ valL (l.take (lead l + 1)) > 1099511627776
  · rw [if_pos (by rcases h1 with h | h | h; exact .inl h; exact .inr (.inl h); exact .inr (.inr (.inl h))), if_pos (by rcases h1 with h | h | h; exact .inl h; exact .inr (.inl h); exact .inr (.inr (.inl h)))]
  · simp only [not_or] at h1
    have e : (lead l > 0 ∧ l[lead l]? = some 0#8) ↔ (encF 6 (valL (l.take (lead l + 1)))).length ≠ lead l + 1 := by
      have hlen : (l.take (lead l + 1)).length = lead l + 1 := by rw [List.length_take]; omega
      constructor
      · rintro ⟨h2, h3⟩ h4
        have := valL_last0 (l := l.take (lead l + 1)) (by rw [List.getLast?_eq_getElem?, hlen, Nat.add_sub_cancel, List.getElem?_take, if_pos (by omega)]; exact h3)
        rw [hlen] at this
        have := encF_len_le 6 (lead l) _ h2 this
        omega
      · intro h2
        by_cases h3 : lead l > 0 ∧ l[lead l]? = some 0#8
        · exact h3
        · exfalso
          have hs := shut_lead (l := l) (by omega) (fun h4 h5 => h3 ⟨h4, h5⟩)
          rw [enc_val hs (by omega), hlen] at h2
          exact h2 rfl
    simp only [e]

/-- A number that is read was so written. -/
theorem numberOf_enc {l : List (BitVec 8)} (h : (numberOf l).2 ≠ 0) : l = encF 6 (numberOf l).1 ++ l.drop (numberOf l).2 := by
  have hr := numberOf_ref l
  split at hr
  · rw [hr] at h; exact absurd rfl h
  · rename_i h1
    simp only [not_or, Decidable.not_not] at h1
    rw [hr]
    dsimp only
    have hlen : (l.take (lead l + 1)).length = lead l + 1 := by rw [List.length_take]; omega
    have hs : shut (l.take (lead l + 1)) := by
      refine shut_lead (by omega) (fun h2 h3 => ?_)
      have := valL_last0 (l := l.take (lead l + 1)) (by rw [List.getLast?_eq_getElem?, hlen, Nat.add_sub_cancel, List.getElem?_take, if_pos (by omega)]; exact h3)
      rw [hlen] at this
      have := encF_len_le 6 (lead l) _ h2 this
      omega
    rw [enc_val hs (by omega), List.take_append_drop]

theorem encF_step {f n : Nat} (h : ¬ n < 128) : encF (f + 1) n = BitVec.ofNat 8 (128 + n % 128) :: encF f (n / 128) := by
  rw [encF, if_neg h, or128]

theorem lead_enc : ∀ (f n : Nat) (r : List (BitVec 8)), n < 128 ^ f → 1 ≤ f → lead (encF f n ++ r) + 1 = (encF f n).length ∧ valL (encF f n) = n
  | 0, _, _, _, h => absurd h (by omega)
  | f + 1, n, r, hn, _ => by
    by_cases h : n < 128
    · rw [encF, if_pos h]
      simp only [List.cons_append, List.nil_append, lead, valL, BitVec.toNat_ofNat]
      rw [if_neg (by omega)]
      simp; omega
    · rw [encF_step h]
      rcases f with _ | f
      · simp at hn; omega
      have ih := lead_enc (f + 1) (n / 128) r (Nat.div_lt_of_lt_mul (by rw [← Nat.pow_succ']; exact hn)) (by omega)
      simp only [List.cons_append, lead, valL, BitVec.toNat_ofNat, List.length_cons]
      rw [if_pos (by omega), ih.1, ih.2]
      exact ⟨rfl, by omega⟩

/-- What is written is read again. -/
theorem numberOf_app {n : Nat} (h : n ≤ 1099511627776) (r : List (BitVec 8)) : numberOf (encF 6 n ++ r) = (n, (encF 6 n).length) := by
  obtain ⟨h1, h2⟩ := lead_enc 6 n r (by omega) (by omega)
  have h3 : (encF 6 n ++ r).take (lead (encF 6 n ++ r) + 1) = encF 6 n := by rw [h1, List.take_left']; rfl
  have h4 := encF_length 6 n
  rw [numberOf_ref, h3, h2, if_neg, h1]
  rw [List.length_append]
  omega

end Go.Ab
