/- Ab.Open: a list that a slot alone knows, as cells of a block, and back. -/
import Derived.Test.YtgnlnkbkbddfaaaAbHeap
namespace Go.Ab

/-- No list in it may be gone on with. -/
def AV.still : AV → Bool
  | .lst 0 _ => true
  | .lst _ _ => false
  | _ => true

def hdel (H : Hp) (B D : Nat) : Option AB := if D = B then none else H D

/-- A row of cells of which some in the midst are known. -/
def raw (off : Nat) (L : List AV) (m : Nat) : List AV := List.replicate off .und ++ L ++ List.replicate m .und

theorem raw_len (off : Nat) (L : List AV) (m : Nat) : (raw off L m).length = off + L.length + m := by simp [raw]; omega
theorem raw_get {off k : Nat} {L : List AV} {m : Nat} (h : k < L.length) : (raw off L m)[off + k]? = L[k]? := by
  unfold raw
  rw [List.append_assoc, List.getElem?_append_right (by simp), List.getElem?_append_left (by simp; omega)]
  congr 1; simp
theorem raw_set {off k : Nat} {L : List AV} {m : Nat} {x : AV} (h : k < L.length) : (raw off L m).take (off + k) ++ [x] ++ (raw off L m).drop (off + k + 1) = raw off (L.set k x) m := by
  unfold raw
  rw [List.append_assoc, List.append_assoc, List.take_append, List.take_of_length_le (by simp), List.drop_append, List.drop_eq_nil_of_le (by simp; omega)]
  simp only [List.length_replicate, List.nil_append]
  rw [show off + k - off = k by omega, show off + k + 1 - off = k + 1 by omega, List.take_append_of_le_length (by omega), List.drop_append_of_le_length (by omega)]
  simp only [List.append_assoc]
  rw [List.append_right_inj, ← List.append_assoc, ← List.append_assoc, List.append_left_inj, List.set_eq_take_append_cons_drop, if_pos h]
  simp

section
variable {P : Program} {T : Types} {C : Cx} {e : Env} {H : Hp} {g : Gh} {w : World} {a : Act}

/-- A list that a slot alone knows becomes cells of a block. -/
theorem AWp_openL {c : Code} {Q : Exit → Env → Hp → Prop} {s : Nat} {xs : List AV} {sz : Nat} (hx : e s = .lst 2 xs) (h0 : 0 < xs.length) (hsz : ∀ x ∈ xs, x.cells.length = sz)
    (h : ∀ B off cap m, H B = none → xs.length ≤ cap → cap * sz ≤ xs.length * sz + m → AWp P C c Q (upd e s (.sc (.slice (some ⟨B, off, none⟩) xs.length cap))) (hset H B (.cells (raw off (flat xs) m)))) : AWp P C c Q e H := by
  intro g a w hr
  obtain ⟨v, hv, hs⟩ := hr.slots s (by rw [hx]; simp)
  rw [hx] at hs
  rcases hs with ⟨base, rfl, _⟩ | ⟨B, off, cap, s', c0, E, f, rfl, h1, h2, h3, h4, h5, h6, h7, h8, h9, h10, h11⟩
  · simp at h0
  have hss : s' = sz := by
    have := List.getElem_mem h0
    rw [← h2 _ this, hsz _ this]
  subst hss
  have hlt := hr.inv.lt h4
  have hHB : H B = none := by
    cases hb : H B with
    | none => rfl
    | some b => have := (hr.heap B b hb).1; rw [h4] at this; cases this
  have hnc : ∀ D i, g.own D ≠ some (.cell B i) := fun D i hD => by
    have := hr.inv.cells D B i hD
    rw [h4] at this; cases this
  let g' : Gh := ⟨g.fz, fun D => if D = B then some .blk else g.own D⟩
  have hg'B : g'.own B = some .blk := by show (if _ then _ else _) = _; rw [if_pos rfl]
  have hg'n : ∀ D, D ≠ B → g'.own D = g.own D := fun D hD => by show (if _ then _ else _) = _; rw [if_neg hD]
  have hk : Keep g w g' w := ⟨Nat.le_refl _, fun _ => Nat.le_refl _, fun _ _ _ => rfl, .refl _⟩
  have hsm : ∀ o, o ≠ .slot C.d s → SameOf o g w g' w := fun o ho D hD => by
    have hne : D ≠ B := fun hh => by rw [hh, h4] at hD; exact ho (by simpa using hD.symm)
    exact ⟨by rw [hg'n D hne]; exact hD, rfl, rfl⟩
  have hinv : Inv g' w := by
    refine ⟨fun D hD => ⟨by rw [hg'n D (by omega)]; exact (hr.inv.fresh D hD).1, (hr.inv.fresh D hD).2⟩, fun D F i hD => ?_⟩
    by_cases hDB : D = B
    · subst hDB; rw [hg'B] at hD; cases hD
    · rw [hg'n D hDB] at hD
      have := hr.inv.cells D F i hD
      have hFB : F ≠ B := fun hh => hnc D i (hh ▸ hD)
      rw [hg'n F hFB]; exact this
  have hle : xs.length * s' ≤ cap * s' := Nat.mul_le_mul_right _ h8
  have hfl := flat_length h2
  have hr2 : SRel g' C (upd e s (.sc (.slice (some ⟨B, off, none⟩) xs.length cap))) (Ab.hset H B (.cells (raw off (flat xs) (c0.size - off - xs.length * s')))) a w := by
    refine ⟨hinv, fun D b hD => ?_, hr.defers, hr.size, fun t ht => ?_⟩
    · unfold Ab.hset at hD
      split at hD
      · rename_i hd
        subst hd
        cases hD
        refine ⟨hg'B, c0, E, h6, ?_, h5, fun i x u hx' hu => ?_⟩
        · rw [raw_len, hfl]; omega
        · refine ⟨?_, h11 i u hu⟩
          unfold raw at hx'
          rw [List.append_assoc] at hx'
          by_cases a1 : i < off
          · rw [List.getElem?_append_left (by simpa using a1), List.getElem?_replicate, if_pos a1] at hx'
            cases hx'; exact .und u
          · rw [List.getElem?_append_right (by simpa using Nat.le_of_not_lt a1)] at hx'
            simp only [List.length_replicate] at hx'
            by_cases a2 : i - off < (flat xs).length
            · rw [List.getElem?_append_left a2] at hx'
              obtain ⟨q1, q2⟩ := h9 (i - off) x hx'
              rw [show off + (i - off) = i by omega, hu] at q1
              cases q1
              exact rep_slot ((h10 (i - off) x hx').keep hk)
            · rw [List.getElem?_append_right (Nat.le_of_not_lt a2), List.getElem?_replicate] at hx'
              split at hx'
              · cases hx'; exact .und u
              · cases hx'
      · rename_i hd
        obtain ⟨k1, k2⟩ := hr.heap D b hD
        exact ⟨(hsm .blk (by simp) D k1).1, k2.keep hk (hsm _ (by simp)) k1 fun i => hsm _ (by simp)⟩
    · simp only [upd] at ht ⊢
      by_cases hts : t = s
      · subst hts
        rw [if_pos rfl] at ht ⊢
        exact ⟨_, hv, .sc _ rfl⟩
      · rw [if_neg hts] at ht ⊢
        obtain ⟨u, q1, q2⟩ := hr.slots t ht
        exact ⟨u, q1, q2.keep hk (hsm _ (by simp [hts]))⟩
  have hgu : Guar C.d H (Ab.hset H B (.cells (raw off (flat xs) (c0.size - off - xs.length * s')))) g w g' w := by
    refine ⟨hk, fun D o hD hf => ?_⟩
    have hne : o ≠ .slot C.d s := fun hh => hf (by subst hh; exact Nat.le_refl _)
    obtain ⟨q1, q2, q3⟩ := hsm o hne D hD
    refine ⟨q1, fun hf' => hf ?_, q2, q3⟩
    cases o with
    | blk =>
      have hne : D ≠ B := fun hh => by rw [hh, h4] at hD; cases hD
      intro hn; refine hf' ?_; simp only [Ab.hset, if_neg hne]; exact hn
    | cell F i =>
      have hne : F ≠ B := fun hh => hnc D i (hh ▸ hD)
      intro hn; refine hf' ?_; simp only [Ab.hset, if_neg hne]; exact hn
    | slot d' t => exact hf'
  exact wp_mono (h B off cap _ hHB h8 (by omega) g' a w hr2) fun ex a' w' ⟨g2, e2, H2, k1, k2, k3⟩ => ⟨g2, e2, H2, hgu.trans k1, k2, k3⟩

theorem still_rep {o : Owner} {x : AV} {v : Value} (h : SlotRep g w o x v) (hs : x.still = true) : Rep g w x v := by
  unfold SlotRep at h
  split at h
  · exact h
  · cases hs
  · cases hs
  · exact h

/-- Cells of a block that nobody else knows become a list again. -/
theorem AWp_closeL {c : Code} {Q : Exit → Env → Hp → Prop} {s B off cap n sz : Nat} {cs : List AV} (xs : List AV) (hx : e s = .sc (.slice (some ⟨B, off, none⟩) n cap)) (hB : H B = some (.cells cs)) (hn : n = xs.length) (h0 : 0 < xs.length) (hsp : 0 < sz) (hsz : ∀ x ∈ xs, x.cells.length = sz)
    (hst : ∀ x ∈ flat xs, x.still = true) (hcap : n ≤ cap) (hlen : off + cap * sz ≤ cs.length) (hcs : ∀ i, i < (flat xs).length → cs[off + i]? = (flat xs)[i]?)
    (h : AWp P C c Q (upd e s (.lst 2 xs)) (hdel H B)) : AWp P C c Q e H := by
  subst hn
  intro g a w hr
  obtain ⟨v, hv, hs⟩ := hr.slots s (by rw [hx]; simp)
  rw [hx] at hs
  obtain ⟨hown, c0, E, k1, k2, k3, k4⟩ := hr.heap B _ hB
  have hlt := hr.inv.lt hown
  let g' : Gh := ⟨g.fz, fun D => if D = B then some (.slot C.d s) else match g.own D with | some (.cell F i) => if F = B then none else some (.cell F i) | o => o⟩
  have hg'B : g'.own B = some (.slot C.d s) := by show (if _ then _ else _) = _; rw [if_pos rfl]
  have hg'n : ∀ D, D ≠ B → (∀ i, g.own D ≠ some (.cell B i)) → g'.own D = g.own D := fun D hD hc => by
    show (if _ then _ else _) = _
    rw [if_neg hD]
    split
    · rename_i F i ho
      rw [if_neg (fun (hh : F = B) => hc i (by rw [← hh]; exact ho)), ho]
    · rfl
  have hg'c : ∀ D F i, g'.own D = some (.cell F i) → g.own D = some (.cell F i) ∧ F ≠ B := fun D F i hD => by
    by_cases hDB : D = B
    · subst hDB; rw [hg'B] at hD; cases hD
    · change (if D = B then _ else _) = _ at hD
      rw [if_neg hDB] at hD
      split at hD
      · rename_i F' i' ho
        split at hD
        · cases hD
        · rename_i hF; cases hD; exact ⟨ho, hF⟩
      · rename_i ho; exact absurd hD (ho F i)
  have hk : Keep g w g' w := ⟨Nat.le_refl _, fun _ => Nat.le_refl _, fun _ _ _ => rfl, .refl _⟩
  have hsm : ∀ o, o ≠ .blk → (∀ i, o ≠ .cell B i) → SameOf o g w g' w := fun o ho hc D hD => by
    have hne : D ≠ B := fun hh => by rw [hh, hown] at hD; exact ho (by simpa using hD.symm)
    exact ⟨by rw [hg'n D hne fun i hi => hc i (by rw [hD] at hi; exact Option.some.inj hi)]; exact hD, rfl, rfl⟩
  have hinv : Inv g' w := by
    refine ⟨fun D hD => ⟨?_, (hr.inv.fresh D hD).2⟩, fun D F i hD => ?_⟩
    · have := (hr.inv.fresh D hD).1
      rw [hg'n D (by omega) fun i hi => by rw [this] at hi; cases hi]; exact this
    · obtain ⟨q1, q2⟩ := hg'c D F i hD
      have q3 := hr.inv.cells D F i q1
      rw [hg'n F q2 fun j hj => by rw [q3] at hj; cases hj]; exact q3
  have hcell : ∀ (i : Nat) (x : AV), (flat xs)[i]? = some x → ∃ u, c0[off + i]? = some u ∧ Rep g w x u ∧ one u = true := fun i x hi => by
    have hlt2 := lt_of_getElem? hi
    have hc := hcs i hlt2
    rw [hi] at hc
    have hl3 := lt_of_getElem? hc
    have hl4 : off + i < c0.size := by omega
    obtain ⟨q1, q2⟩ := k4 (off + i) x c0[off + i] hc (by simp [hl4])
    exact ⟨c0[off + i], by simp [hl4], still_rep q1 (hst x (List.mem_of_getElem? hi)), q2⟩
  have hr2 : SRel g' C (upd e s (.lst 2 xs)) (hdel H B) a w := by
    refine ⟨hinv, fun D b hD => ?_, hr.defers, hr.size, fun t ht => ?_⟩
    · unfold hdel at hD
      split at hD
      · cases hD
      · rename_i hne
        obtain ⟨q1, q2⟩ := hr.heap D b hD
        have q3 : g'.own D = some .blk := by rw [hg'n D hne fun i hi => by rw [q1] at hi; cases hi]; exact q1
        refine ⟨q3, ?_⟩
        cases b with
        | cells cs2 =>
          obtain ⟨c2, E2, m1, m2, m3, m4⟩ := q2
          exact ⟨c2, E2, m1, m2, m3, fun i x u hx' hu => ⟨(m4 i x u hx' hu).1.keep hk (hsm _ (by simp) (fun j => by simp [hne])), (m4 i x u hx' hu).2⟩⟩
        | frz cs2 =>
          obtain ⟨m0, c2, E2, fr, m1, m2, m4⟩ := q2
          exact ⟨m0, c2, E2, fr, m1, m2, fun i x u hx' hu => ⟨(m4 i x u hx' hu).1.keep hk, (m4 i x u hx' hu).2⟩⟩
        | raw o => exact q2
    · simp only [upd] at ht ⊢
      by_cases hts : t = s
      · subst hts
        rw [if_pos rfl] at ht ⊢
        refine ⟨v, hv, ?_⟩
        have hv2 : v = .slice (some ⟨B, off, none⟩) xs.length cap := by cases hs; rfl
        subst hv2
        refine .inr ⟨B, off, cap, sz, c0, E, fun i => c0.getD (off + i) undef, rfl, hsp, hsz, h0, hg'B, k3, k1, by omega, hcap, fun i x hi => ?_, fun i x hi => ?_, fun i u hu => ?_⟩
        · obtain ⟨u, q1, q2, q3⟩ := hcell i x hi
          simp [q1, q3]
        · obtain ⟨u, q1, q2, q3⟩ := hcell i x hi
          simp only [Array.getD_eq_getD_getElem?, q1, Option.getD_some]
          exact q2.keep hk
        · have hl := (Array.getElem?_eq_some_iff.1 hu).1
          exact (k4 i cs[i] u (by simp [show i < cs.length by omega]) hu).2
      · rw [if_neg hts] at ht ⊢
        obtain ⟨u, q1, q2⟩ := hr.slots t ht
        exact ⟨u, q1, q2.keep hk (hsm _ (by simp) (by simp))⟩
  have hgu : Guar C.d H (hdel H B) g w g' w := by
    refine ⟨hk, fun D o hD hf => ?_⟩
    have hHB : H B ≠ none := by rw [hB]; simp
    have h1 : o ≠ .blk ∨ D ≠ B := by
      by_cases hDB : D = B
      · left; intro ho; subst ho; subst hDB; exact hf hHB
      · exact .inr hDB
    have h2 : ∀ i, o ≠ .cell B i := fun i ho => by subst ho; exact hf hHB
    have hDB : D ≠ B := by
      rcases h1 with h1 | h1
      · intro hh; rw [hh, hown] at hD; exact h1 (by simpa using hD.symm)
      · exact h1
    refine ⟨by rw [hg'n D hDB fun i hi => h2 i (by rw [hD] at hi; exact Option.some.inj hi)]; exact hD, fun hf' => hf ?_, rfl, rfl⟩
    cases o with
    | blk => intro hn; refine hf' ?_; simp only [hdel]; split <;> first | rfl | exact hn
    | cell F i => intro hn; refine hf' ?_; simp only [hdel]; split <;> first | rfl | exact hn
    | slot d' t => exact hf'
  exact wp_mono (h g' a w hr2) fun ex a' w' ⟨g2, e2, H2, q1, q2, q3⟩ => ⟨g2, e2, H2, hgu.trans q1, q2, q3⟩

end

theorem hdel_hset {H : Hp} {B : Nat} {x : AB} (h : H B = none) : hdel (hset H B x) B = H := by
  funext D
  simp only [hdel, hset]
  split
  · rename_i hd; rw [hd, h]
  · rfl

theorem flat_one {l : List AV} (h : ∀ x ∈ l, x.cells = [x]) : flat l = l := by
  induction l with
  | nil => rfl
  | cons x l ih =>
    simp only [flat, List.flatMap_cons]
    rw [h x (by simp)]
    exact congrArg (x :: ·) (ih fun y hy => h y (by simp [hy]))
theorem flatB (l : List (BitVec 8)) : flat (bytes l) = bytes l := flat_one fun x hx => by
  obtain ⟨b, _, rfl⟩ := List.mem_map.1 hx; rfl
theorem flat_ints (l : List Int) : flat (ints l) = ints l := flat_one fun x hx => by
  obtain ⟨b, _, rfl⟩ := List.mem_map.1 hx; rfl
theorem bytes_still (l : List (BitVec 8)) : ∀ x ∈ bytes l, x.still = true := fun x hx => by
  obtain ⟨b, _, rfl⟩ := List.mem_map.1 hx; rfl
theorem ints_still (l : List Int) : ∀ x ∈ ints l, x.still = true := fun x hx => by
  obtain ⟨b, _, rfl⟩ := List.mem_map.1 hx; rfl
theorem bytes_set (l : List (BitVec 8)) (k : Nat) (b : BitVec 8) : (bytes l).set k (.sc (.int .u8 b.toNat)) = bytes (l.set k b) := by simp [bytes, u8, List.map_set]
theorem ints_set (l : List Int) (k : Nat) (n : Int) : (ints l).set k (.sc (.int .i64 n)) = ints (l.set k n) := by simp [ints, List.map_set]
theorem bytes_get? {l : List (BitVec 8)} {k : Nat} (h : k < l.length) : (bytes l)[k]? = some (.sc (.int .u8 (l[k]).toNat)) := by simp [bytes, u8, h]
theorem ints_get? {l : List Int} {k : Nat} (h : k < l.length) : (ints l)[k]? = some (.sc (.int .i64 l[k])) := by simp [ints, h]

attribute [go_sem] raw_len flatB flat_ints

end Go.Ab
