/- Ab.StreamLaw2: the program's reader of streams and the reference's tell the same: batches and whole streams. -/
import Derived.Test.YtgnlnkbkbddfaaaAbStreamLaw
namespace Go.Ab

theorem nums_enc (was b : Bt) : enc (btNums was b) = encF 6 (btChange was b) ++ (enc (chg was.a0 b.a0) ++ (enc (chg was.a1 b.a1) ++ (enc (chg was.a3 b.a3) ++ (enc (chg was.a4 b.a4) ++ (enc (chg was.a5 b.a5) ++ (encF 6 b.ids.length ++ enc b.ids)))))) := by
  simp only [btNums, (chg_all was b).1, enc_app, enc_cons, enc_nil, List.append_nil, Int.toNat_natCast, List.append_assoc]

theorem nums_ok (was b : Bt) : okN (btNums was b) ↔ ((btChange was b : Int) ≤ 1099511627776 ∧ okN (chg was.a0 b.a0) ∧ okN (chg was.a1 b.a1) ∧ okN (chg was.a3 b.a3) ∧ okN (chg was.a4 b.a4) ∧ okN (chg was.a5 b.a5) ∧ (b.ids.length : Int) ≤ 1099511627776 ∧ okN b.ids) := by
  simp only [btNums, (chg_all was b).1, okN_app, okN_one, and_assoc]
  constructor
  · rintro ⟨_, h1, h2, h3, h4, h5, h6, _, h7, h8⟩; exact ⟨h1, h2, h3, h4, h5, h6, h7, h8⟩
  · rintro ⟨h1, h2, h3, h4, h5, h6, h7, h8⟩; exact ⟨by omega, h1, h2, h3, h4, h5, h6, by omega, h7, h8⟩

theorem b2n_bit {n k : Nat} {p : Bool} (h : n / 2 ^ k % 2 = 1 ↔ p = true) : b2n p (2 ^ k) = n / 2 ^ k % 2 * 2 ^ k := by
  unfold b2n
  by_cases hp : p = true
  · rw [if_pos hp, h.2 hp]; simp
  · rw [if_neg hp]
    have : ¬ n / 2 ^ k % 2 = 1 := fun h1 => hp (h.1 h1)
    rw [show n / 2 ^ k % 2 = 0 by omega]; simp

theorem change_is {was b : Bt} {n : Nat} (hn : n ≤ 63) (h0 : n / 2 ^ 0 % 2 = 1 ↔ b.a0 ≠ was.a0) (h1 : n / 2 ^ 1 % 2 = 1 ↔ b.a1 ≠ was.a1) (h2 : n / 2 ^ 2 % 2 = 1 ↔ (b.clear != was.clear) = true) (h3 : n / 2 ^ 3 % 2 = 1 ↔ b.a3 ≠ was.a3) (h4 : n / 2 ^ 4 % 2 = 1 ↔ b.a4 ≠ was.a4) (h5 : n / 2 ^ 5 % 2 = 1 ↔ b.a5 ≠ was.a5) :
    btChange was b = n := by
  have e0 := b2n_bit (n := n) (k := 0) (p := decide (b.a0 ≠ was.a0)) (by rw [h0]; simp)
  have e1 := b2n_bit (n := n) (k := 1) (p := decide (b.a1 ≠ was.a1)) (by rw [h1]; simp)
  have e2 := b2n_bit (n := n) (k := 2) (p := b.clear != was.clear) h2
  have e3 := b2n_bit (n := n) (k := 3) (p := decide (b.a3 ≠ was.a3)) (by rw [h3]; simp)
  have e4 := b2n_bit (n := n) (k := 4) (p := decide (b.a4 ≠ was.a4)) (by rw [h4]; simp)
  have e5 := b2n_bit (n := n) (k := 5) (p := decide (b.a5 ≠ was.a5)) (by rw [h5]; simp)
  rw [(chg_all was b).2]
  simp only [Nat.reducePow] at e0 e1 e2 e3 e4 e5
  rw [e0, e1, e2, e3, e4, e5]
  omega

theorem bits6 : ∀ p0 p1 p2 p3 p4 p5 : Bool, b2n p0 1 + b2n p1 2 + b2n p2 4 + b2n p3 8 + b2n p4 16 + b2n p5 32 ≤ 63 ∧ ((b2n p0 1 + b2n p1 2 + b2n p2 4 + b2n p3 8 + b2n p4 16 + b2n p5 32) / 2 ^ 0 % 2 = 1 ↔ p0 = true) ∧
    ((b2n p0 1 + b2n p1 2 + b2n p2 4 + b2n p3 8 + b2n p4 16 + b2n p5 32) / 2 ^ 1 % 2 = 1 ↔ p1 = true) ∧ ((b2n p0 1 + b2n p1 2 + b2n p2 4 + b2n p3 8 + b2n p4 16 + b2n p5 32) / 2 ^ 2 % 2 = 1 ↔ p2 = true) ∧
    ((b2n p0 1 + b2n p1 2 + b2n p2 4 + b2n p3 8 + b2n p4 16 + b2n p5 32) / 2 ^ 3 % 2 = 1 ↔ p3 = true) ∧ ((b2n p0 1 + b2n p1 2 + b2n p2 4 + b2n p3 8 + b2n p4 16 + b2n p5 32) / 2 ^ 4 % 2 = 1 ↔ p4 = true) ∧ ((b2n p0 1 + b2n p1 2 + b2n p2 4 + b2n p3 8 + b2n p4 16 + b2n p5 32) / 2 ^ 5 % 2 = 1 ↔ p5 = true) := by
  decide

theorem is_change (was b : Bt) : btChange was b ≤ 63 ∧ (btChange was b / 2 ^ 0 % 2 = 1 ↔ b.a0 ≠ was.a0) ∧ (btChange was b / 2 ^ 1 % 2 = 1 ↔ b.a1 ≠ was.a1) ∧ (btChange was b / 2 ^ 2 % 2 = 1 ↔ (b.clear != was.clear) = true) ∧ (btChange was b / 2 ^ 3 % 2 = 1 ↔ b.a3 ≠ was.a3) ∧
    (btChange was b / 2 ^ 4 % 2 = 1 ↔ b.a4 ≠ was.a4) ∧ (btChange was b / 2 ^ 5 % 2 = 1 ↔ b.a5 ≠ was.a5) := by
  rw [(chg_all was b).2]
  have h := bits6 (decide (b.a0 ≠ was.a0)) (decide (b.a1 ≠ was.a1)) (b.clear != was.clear) (decide (b.a3 ≠ was.a3)) (decide (b.a4 ≠ was.a4)) (decide (b.a5 ≠ was.a5))
  exact ⟨h.1, h.2.1.trans decide_eq_true_iff, h.2.2.1.trans decide_eq_true_iff, h.2.2.2.1, h.2.2.2.2.1.trans decide_eq_true_iff, h.2.2.2.2.2.1.trans decide_eq_true_iff, h.2.2.2.2.2.2.trans decide_eq_true_iff⟩

theorem clear_bit (n : Nat) : (((n &&& 4 : Nat) : Int) != 0) = (((n / 4 % 2 : Nat) : Int) == 1) := by
  have := and_bit n 2
  simp only [Nat.reducePow] at this
  by_cases h : n / 4 % 2 = 1
  · rw [h]
    have h1 : ¬ n &&& 4 = 0 := fun h0 => this.1 h0 h
    simp; omega
  · rw [this.2 h]
    simp; omega

theorem readBt_inv {was b : Bt} {r r' : Rd} (hb : r.bad = false) (h : readBt was r = some (b, r')) :
    oneL r was = (b, r') ∧ r.left = enc (btNums was b) ++ r'.left ∧ r'.bad = false ∧ btRight b = true ∧ okN (btNums was b) := by
  unfold readBt at h
  split at h
  · cases h
  rename_i n r1 hg1
  obtain ⟨g1, g2, g3, g4, g5⟩ := getP_inv hg1
  unfold readA at h
  split at h
  · cases h
  rename_i b1 r2 hp
  rw [partsTo_five] at hp
  simp only [Option.bind_eq_some_iff, Option.map_eq_some_iff] at hp
  obtain ⟨⟨x0, q0⟩, k0, ⟨x1, q1⟩, k1, ⟨x3, q3⟩, k3, ⟨x4, q4⟩, k4, ⟨x5, q5⟩, k5, he⟩ := hp
  dsimp only at k1 k3 k4 k5 he
  cases he
  obtain ⟨a0, b0, c0, d0, e0⟩ := stepV_inv g5 k0
  obtain ⟨a1, b1, c1, d1, e1⟩ := stepV_inv d0 k1
  obtain ⟨a3, b3, c3, d3, e3⟩ := stepV_inv d1 k3
  obtain ⟨a4, b4, c4, d4, e4⟩ := stepV_inv d3 k4
  obtain ⟨a5, b5, c5, d5, e5⟩ := stepV_inv d4 k5
  unfold readB at h
  split at h
  · cases h
  rename_i k r3 hg6
  obtain ⟨m1, m2, m3, m4, m5⟩ := getP_inv hg6
  split at h
  · cases h
  rename_i l r4 hi
  obtain ⟨i1, i2, i3, i4, i5⟩ := idsTo_inv m5 hi
  unfold readC at h
  split at h
  · rename_i hr
    cases h
    have hv0 : v0L r was = (x0, q0) := by show valueL (r.get 63).2 (r.get 63).1 1 was.a0 = _; rw [g1]; exact a0
    have hcL : cL r = n := by show (r.get 63).1 = n; rw [g1]
    have hv1 : v1L r was = (x1, q1) := by show valueL (v0L r was).2 (cL r) 2 was.a1 = _; rw [hv0, hcL]; exact a1
    have hv3 : v3L r was = (x3, q3) := by show valueL (v1L r was).2 (cL r) 8 was.a3 = _; rw [hv1, hcL]; exact a3
    have hv4 : v4L r was = (x4, q4) := by show valueL (v3L r was).2 (cL r) 16 was.a4 = _; rw [hv3, hcL]; exact a4
    have hv5 : v5L r was = (x5, r2) := by show valueL (v4L r was).2 (cL r) 32 was.a5 = _; rw [hv4, hcL]; exact a5
    have hk : kL r was = k ∧ r6L r was = r3 := by
      constructor
      · show ((v5L r was).2.get 64).1 = k; rw [hv5, m1]
      · show ((v5L r was).2.get 64).2 = r3; rw [hv5, m1]
    have hcl : (!(was.clear == (((n &&& 4 : Nat) : Int) != 0))) = !(was.clear == (((n / 4 % 2 : Nat) : Int) == 1)) := by rw [clear_bit]
    have hch : btChange was ⟨x0, x1, !(was.clear == (((n &&& 4 : Nat) : Int) != 0)), x3, x4, x5, l⟩ = n := by
      refine change_is (by omega) c0 c1 ?_ c3 c4 c5
      dsimp only
      rw [hcl]
      by_cases h4 : n / 4 % 2 = 1
      · have : (((n / 4 % 2 : Nat) : Int) == 1) = true := by rw [h4]; rfl
        rw [this]
        simp only [Nat.reducePow, h4]
        cases was.clear <;> simp
      · have : (((n / 4 % 2 : Nat) : Int) == 1) = false := by
          rw [beq_eq_false_iff_ne]; omega
        rw [this]
        simp only [Nat.reducePow, h4]
        cases was.clear <;> simp
    refine ⟨?_, ?_, i4, hr, ?_⟩
    · unfold oneL
      rw [hv0, hv1, hv3, hv4, hv5, hk.1, hk.2, i1, hcL, hcl]
    · rw [nums_enc, hch]
      dsimp only
      rw [g2, b0, b1, b3, b4, b5, m2, i2, i3]
      simp only [List.append_assoc]
    · rw [nums_ok, hch]
      dsimp only
      exact ⟨by omega, e0, e1, e3, e4, e5, by omega, i5⟩
  · cases h

theorem btRight_facts {b : Bt} (h : btRight b = true) : (0 ≤ b.a0 ∧ b.a0 ≤ 255) ∧ (0 ≤ b.a1 ∧ b.a1 ≤ 255) ∧ (0 ≤ b.a3 ∧ b.a3 ≤ 255) ∧ (0 ≤ b.a4 ∧ b.a4 ≤ 255) ∧ (0 ≤ b.a5 ∧ b.a5 ≤ 255) ∧ b.ids.length ≤ 64 ∧ ∀ n ∈ b.ids, 0 ≤ n ∧ n ≤ 16777215 := by
  rw [btRight, keyRight_in] at h
  simp only [inR, Bool.and_eq_true, decide_eq_true_eq, Bool.not_eq_true', List.any_eq_false, idRight] at h
  obtain ⟨⟨⟨⟨⟨⟨⟨h0, h1⟩, h3⟩, h4⟩, h5⟩, h6⟩, h7⟩, h8⟩ := h
  refine ⟨by omega, by omega, by omega, by omega, by omega, by omega, fun n hn => ?_⟩
  have := h8 n hn
  simp only [Bool.not_eq_true', Bool.not_eq_false, Bool.and_eq_true, decide_eq_true_eq] at this
  omega

theorem chg_ok {was v : Int} (h0 : 0 ≤ v) (h1 : v ≤ 255) : okN (chg was v) := by
  unfold chg; split
  · exact okN_nil
  · rw [okN_one]; omega
theorem nums_okR (was : Bt) {b : Bt} (h : btRight b = true) : okN (btNums was b) := by
  obtain ⟨f0, f1, f3, f4, f5, f6, f7⟩ := btRight_facts h
  rw [nums_ok]
  have := (is_change was b).1
  exact ⟨by omega, chg_ok f0.1 f0.2, chg_ok f1.1 f1.2, chg_ok f3.1 f3.2, chg_ok f4.1 f4.2, chg_ok f5.1 f5.2, by omega, fun n hn => by have := f7 n hn; omega⟩

theorem readBt_app (was : Bt) {b : Bt} (h : btRight b = true) (l : List (BitVec 8)) : readBt was ⟨enc (btNums was b) ++ l, false⟩ = some (b, ⟨l, false⟩) := by
  obtain ⟨f0, f1, f3, f4, f5, f6, f7⟩ := btRight_facts h
  obtain ⟨hn, c0, c1, c2, c3, c4, c5⟩ := is_change was b
  have hp : partsTo (btChange was b) was ⟨enc (chg was.a0 b.a0) ++ (enc (chg was.a1 b.a1) ++ (enc (chg was.a3 b.a3) ++ (enc (chg was.a4 b.a4) ++ (enc (chg was.a5 b.a5) ++ (encF 6 b.ids.length ++ (enc b.ids ++ l)))))), false⟩ 5 = some (⟨b.a0, b.a1, was.clear, b.a3, b.a4, b.a5, was.ids⟩, ⟨encF 6 b.ids.length ++ (enc b.ids ++ l), false⟩) := by
    rw [partsTo_five, stepV_app c0 f0.1 f0.2]
    simp only [Option.bind_some]
    rw [stepV_app c1 f1.1 f1.2]
    simp only [Option.bind_some]
    rw [stepV_app c3 f3.1 f3.2]
    simp only [Option.bind_some]
    rw [stepV_app c4 f4.1 f4.2]
    simp only [Option.bind_some]
    rw [stepV_app c5 f5.1 f5.2]
    rfl
  have hi := idsTo_app b.ids b.ids.length l (Nat.le_refl _) f7
  rw [List.take_length, List.drop_length, enc_nil, List.nil_append] at hi
  rw [nums_enc]
  simp only [List.append_assoc]
  rw [readBt, getP_app (by omega) (by omega)]
  dsimp only
  rw [readA, hp]
  dsimp only
  rw [readB, getP_app (by omega) (by omega)]
  dsimp only
  rw [hi]
  dsimp only
  have hcl : (!(was.clear == (((btChange was b &&& 4 : Nat) : Int) != 0))) = b.clear := by
    rw [clear_bit]
    simp only [Nat.reducePow] at c2
    by_cases h4 : btChange was b / 4 % 2 = 1
    · have h5 := c2.1 h4
      rw [h4]
      revert h5
      cases was.clear <;> cases b.clear <;> simp
    · have h5 : ¬ (b.clear != was.clear) = true := fun h => h4 (c2.2 h)
      have h6 : (((btChange was b / 4 % 2 : Nat) : Int) == 1) = false := by rw [beq_eq_false_iff_ne]; omega
      rw [h6]
      revert h5
      cases was.clear <;> cases b.clear <;> simp
  rw [readC]
  dsimp only
  rw [hcl]
  exact if_pos h

theorem numsTo_app : ∀ (l : List Bt) (was b : Bt), numsTo was (l ++ [b]) = numsTo was l ++ btNums (l.getLastD was) b
  | [], was, b => by simp [numsTo]
  | c :: l, was, b => by
    rw [List.cons_append, numsTo, numsTo_app l c b, numsTo, List.append_assoc]
    congr 3
    cases l <;> rfl

theorem btsTo_inv {r r' : Rd} {was : Bt} : ∀ {k : Nat} {l : List Bt}, r.bad = false → btsTo r k = some ((was, l), r') →
    allL r k = ((was, l), r') ∧ r.left = enc (numsTo btZero l) ++ r'.left ∧ l.length = k ∧ r'.bad = false ∧ btsRight l = true ∧ okN (numsTo btZero l) ∧ l.getLastD btZero = was
  | 0, l, hb, h => by cases h; exact ⟨rfl, by simp [numsTo, enc], rfl, hb, rfl, okN_nil, rfl⟩
  | k + 1, l, hb, h => by
    rw [btsTo_succ] at h
    cases hk : btsTo r k with
    | none => rw [hk] at h; cases h
    | some q =>
      obtain ⟨⟨w1, l1⟩, r1⟩ := q
      rw [hk] at h
      simp only [btStep] at h
      split at h
      · cases h
      · rename_i b r2 hg
        cases h
        obtain ⟨i1, i2, i3, i4, i5, i6, i7⟩ := btsTo_inv hb hk
        obtain ⟨g1, g2, g3, g4, g5⟩ := readBt_inv i4 hg
        refine ⟨?_, ?_, by simp [i3], g3, ?_, ?_, by simp⟩
        · rw [allL_succ, i1, allStep, if_neg (by simp [i4])]; dsimp only; rw [g1]
        · rw [i2, g2, numsTo_app, i7, enc_app, List.append_assoc]
        · simp only [btsRight, List.any_append, List.any_cons, List.any_nil, g4] at i5 ⊢; simpa using i5
        · rw [numsTo_app, i7, okN_app]; exact ⟨i6, g5⟩

theorem btsTo_app (L : List Bt) (h : btsRight L = true) : ∀ (k : Nat), k ≤ L.length → btsTo ⟨enc (numsTo btZero L), false⟩ k = some (((L.take k).getLastD btZero, L.take k), ⟨enc (numsTo ((L.take k).getLastD btZero) (L.drop k)), false⟩)
  | 0, _ => rfl
  | k + 1, hk => by
    rw [btsTo_succ, btsTo_app L h k (by omega)]
    simp only [btStep]
    have hr : btRight L[k] = true := by
      simp only [btsRight, Bool.not_eq_true', List.any_eq_false] at h
      simpa using h _ (List.getElem_mem (show k < L.length by omega))
    rw [List.drop_eq_getElem_cons (show k < L.length by omega), numsTo, enc_app, readBt_app _ hr]
    dsimp only
    have ht : L.take (k + 1) = L.take k ++ [L[k]] := by rw [List.take_add_one, List.getElem?_eq_getElem (show k < L.length by omega)]; rfl
    have hgl : ∀ (m : List Bt) (x z : Bt), (m ++ [x]).getLastD z = x := fun m x z => by simp
    rw [ht, hgl]

theorem numsTo_ok : ∀ (l : List Bt) (was : Bt), btsRight l = true → okN (numsTo was l)
  | [], _, _ => okN_nil
  | b :: l, was, h => by
    simp only [btsRight, List.any_cons, Bool.not_or, Bool.and_eq_true, Bool.not_not] at h
    rw [numsTo, okN_app]
    exact ⟨nums_okR was h.1, numsTo_ok l b (by simpa [btsRight] using h.2)⟩

theorem bytesL_ok {frame : Int} {l : List Bt} (h : okN (numsAll frame l)) : bytesL frame l = sealed (enc (numsAll frame l)) := by
  rw [bytesL, refPut_ok (w := enc (numsAll frame l)) (by rw [putL_ok _ _ h]; rfl)]

theorem openOf_sealed (x : List (BitVec 8)) : openOf (sealed x) = (x, 0) := by
  have hl := sealed_length x
  have ht : (sealed x).take ((sealed x).length - 4) = x := by
    rw [hl, Nat.add_sub_cancel, sealed, List.take_left']; rfl
  rw [openOf, if_neg (by omega), ht, if_pos rfl]
theorem openOf_inv {b : List (BitVec 8)} (h : (openOf b).2 = 0) : sealed (openOf b).1 = b := by
  unfold openOf at h ⊢
  split
  · rename_i h1; rw [if_pos h1] at h; simp at h
  · rename_i h1
    rw [if_neg h1] at h
    split
    · rename_i h2; exact h2
    · rename_i h2; rw [if_neg h2] at h; simp at h

theorem decR_eq {b : List (BitVec 8)} (ho : (openOf b).2 = 0) : decR b ⟨(openOf b).1, false⟩ = match streamP ⟨(openOf b).1, false⟩ with | none => (0, [], 2) | some (frame, l) => (((frame : Nat) : Int), l, 0) := by
  have hs := openOf_inv ho
  by_cases hc : ∃ q, streamP ⟨(openOf b).1, false⟩ = some q
  · obtain ⟨⟨frame, l⟩, hq⟩ := hc
    rw [hq]
    dsimp only
    unfold streamP at hq
    split at hq
    · cases hq
    rename_i v r1 hg1
    split at hq
    · cases hq
    rename_i hv
    obtain ⟨g1, g2, g3, g4, g5⟩ := getP_inv hg1
    obtain rfl : v = 1 := by omega
    unfold streamA at hq
    split at hq
    · cases hq
    rename_i fr r2 hg2
    obtain ⟨m1, m2, m3, m4, m5⟩ := getP_inv hg2
    unfold streamB at hq
    split at hq
    · cases hq
    rename_i k r3 hg3
    obtain ⟨n1, n2, n3, n4, n5⟩ := getP_inv hg3
    split at hq
    · cases hq
    rename_i was l2 r4 hb
    obtain ⟨i1, i2, i3, i4, i5, i6, i7⟩ := btsTo_inv n5 hb
    unfold streamC at hq
    rw [i4] at hq
    simp only [Bool.false_eq_true, if_false] at hq
    split at hq
    · cases hq
    rename_i hl
    cases hq
    have hl0 : r4.left = [] := List.eq_nil_of_length_eq_zero (by omega)
    have hok : okN (numsAll (frame : Int) l) := by
      rw [numsAll, okN_app]
      refine ⟨?_, i6⟩
      simp only [okN_cons, okN_nil, and_true]
      omega
    have hby : bytesL (frame : Int) l = b := by
      rw [bytesL_ok hok, ← hs]
      congr 1
      dsimp only at g2
      rw [g2, m2, n2, i2, hl0, numsAll, enc_app, i3.symm]
      simp only [enc_cons, enc_nil, List.append_nil, Int.toNat_natCast, List.append_assoc]
      rfl
    rw [decR, g1]; dsimp only
    rw [m1]; dsimp only
    rw [n1]; dsimp only
    rw [i1, decS]
    dsimp only
    rw [i4, hl0, i5, hby]
    simp
  · have hn : streamP ⟨(openOf b).1, false⟩ = none := by
      cases h : streamP ⟨(openOf b).1, false⟩ with
      | none => rfl
      | some q => exact absurd ⟨q, h⟩ hc
    rw [hn]
    dsimp only
    rw [decR]
    have g1 := get_le (⟨(openOf b).1, false⟩ : Rd) 1
    generalize (⟨(openOf b).1, false⟩ : Rd).get 1 = q1
    have g2 := get_le q1.2 2147483647
    generalize q1.2.get 2147483647 = q2 at *
    have g3 := get_le q2.2 65536
    generalize q2.2.get 65536 = q3 at *
    have g4 := allL_len q3.2 q3.1
    generalize allL q3.2 q3.1 = s at *
    rw [decS]
    refine if_pos (Classical.byContradiction fun hh => ?_)
    · simp only [Bool.or_eq_true, not_or, Bool.not_eq_true', Bool.not_eq_false, decide_eq_true_eq, bne_iff_ne, ne_eq, Decidable.not_not, beq_iff_eq, Bool.not_eq_true] at hh
      obtain ⟨⟨⟨⟨h1, h2⟩, h3⟩, h4⟩, h5⟩ := hh
      have hok : okN (numsAll (q2.1 : Int) s.1.2) := by
        rw [numsAll, okN_app]
        refine ⟨?_, numsTo_ok _ _ (by simpa using h4)⟩
        simp only [okN_cons, okN_nil, and_true]
        omega
      rw [bytesL_ok hok] at h5
      have hx : (openOf b).1 = enc (numsAll (q2.1 : Int) s.1.2) := by rw [← h5, openOf_sealed]
      refine hc ⟨(q2.1, s.1.2), ?_⟩
      have hb := btsTo_app s.1.2 (by simpa using h4) s.1.2.length (Nat.le_refl _)
      rw [List.take_length, List.drop_length] at hb
      rw [hx, numsAll, enc_app]
      simp only [enc_cons, enc_nil, List.append_nil, Int.toNat_natCast, List.append_assoc]
      rw [streamP, show (1 : Int).toNat = 1 from rfl, getP_app (by omega) (by omega)]
      dsimp only
      rw [if_neg (by simp), streamA, getP_app (by omega) (by omega)]
      dsimp only
      rw [streamB, getP_app (by omega) (by omega)]
      dsimp only
      rw [hb]
      dsimp only
      rw [streamC, numsTo, enc_nil]
      simp

/-- The program and the reference tell the same. -/
theorem decode_same (b : List (BitVec 8)) : decodeL b = decodeOf b := by
  unfold decodeL decodeOf
  split
  · rfl
  · split
    · rfl
    · rename_i h; rw [decR_eq (by simpa using h)]
      split <;> rename_i h2 <;> rw [h2]

theorem decode_err (x : List (BitVec 8)) : (decodeOf (sealed x)).2.2 ≠ 10 := by
  rw [decodeOf]
  split
  · simp
  · rw [openOf_sealed]
    dsimp only
    rw [if_neg (by simp)]
    split <;> simp

theorem decode_len (b : List (BitVec 8)) : (decodeOf b).2.1.length ≤ 65536 ∧ ∀ x ∈ (decodeOf b).2.1, x.ids.length ≤ 64 := by
  rw [← decode_same, decodeL]
  split
  · simp
  · split
    · simp
    · rw [decR]
      have g3 := get_le ((⟨(openOf b).1, false⟩ : Rd).get 1 |>.2.get 2147483647).2 65536
      generalize ((⟨(openOf b).1, false⟩ : Rd).get 1 |>.2.get 2147483647).2.get 65536 = q3 at *
      have g4 := allL_len q3.2 q3.1
      generalize allL q3.2 q3.1 = s at *
      have h2 : s.1.2.length ≤ 65536 := by omega
      have hh : ∀ (c : Bool) (f : Int), (if c = true then ((0 : Int), ([] : List Bt), (2 : Int)) else (f, s.1.2, 0)).2.1.length ≤ 65536 ∧ ∀ x ∈ (if c = true then ((0 : Int), ([] : List Bt), (2 : Int)) else (f, s.1.2, 0)).2.1, x.ids.length ≤ 64 := fun c f => by
        cases c
        · exact ⟨h2, g4.2.2⟩
        · exact ⟨by simp, by simp⟩
      exact hh _ _

end Go.Ab
