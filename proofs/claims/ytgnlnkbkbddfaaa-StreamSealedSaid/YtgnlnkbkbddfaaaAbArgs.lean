/- Ab.Args: what a call is handed from outside, as values of the logic. -/
import Derived.Test.YtgnlnkbkbddfaaaAbBaseA
import GoSem.ClaimChange
namespace Go.Ab

/-- Of all that is there nothing may be turned. -/
def g0 (w : World) : Gh := ⟨fun B => match w.heap[B]? with | some (.cells c _ _) => c.size | _ => 0, fun B => if B < w.heap.size then some .blk else none⟩

theorem inv0 (w : World) : Inv (g0 w) w := by
  refine ⟨fun B hB => ⟨if_neg (by omega), ?_⟩, fun B D i h => ?_⟩
  · show (match w.heap[B]? with | some (.cells c _ _) => c.size | _ => 0) = 0
    rw [Array.getElem?_eq_none hB]
  · change (if B < w.heap.size then some Owner.blk else none) = _ at h
    split at h <;> cases h

theorem fz0 {w : World} {B off : Nat} {v : Value} (h : w.cell? ⟨B, off, none⟩ = some v) : off < (g0 w).fz B := by
  simp only [World.cell?] at h
  show off < (match w.heap[B]? with | some (.cells c _ _) => c.size | _ => 0)
  split at h
  · rename_i c E fr hc
    rw [hc]
    simp only [Option.isSome_none, Bool.false_eq_true, if_false] at h
    exact (Array.getElem?_eq_some_iff.1 h).1
  · cases h

def szT (T : Types) (t : TypeId) : Nat := match T t with | some i => i.size | none => 0
def isAgg (T : Types) (t : TypeId) : Bool := match T t with | some i => i.agg | none => false

/-- Values as a type has them, cell by cell. -/
def ShpA (T : Types) : Nat → TypeId → List AV → Prop
  | 0, _, _ => False
  | k + 1, t, xs => match T t with
    | some ⟨_, _, .int kd, _⟩ => ∃ n : Int, (Lit.int kd n).wf = true ∧ xs = [.sc (.int kd n)]
    | some ⟨_, _, .bool, _⟩ => ∃ b, xs = [.sc (.bool b)]
    | some ⟨_, _, .str, _⟩ => ∃ s : ByteArray, s.size ≤ maxLen ∧ xs = [.sc (.string s)]
    | some ⟨_, _, .slice e, _⟩ => ∃ ys : List AV, ys.length ≤ maxLen ∧ xs = [.lst 0 ys] ∧ ∀ y ∈ ys, ShpA T k e y.cells ∧ (isAgg T e = true → ∃ cs, y = .agg cs) ∧ (isAgg T e = false → y.cells = [y])
    | some ⟨sz, _, .struct fs, _⟩ => xs.length = sz ∧ ∀ f ∈ fs, ShpA T k f.2 ((xs.drop f.1).take (szT T f.2))
    | some ⟨sz, _, .arr n e, _⟩ => xs.length = sz ∧ ∀ j, j < n → ShpA T k e ((xs.drop (j * szT T e)).take (szT T e))
    | _ => False

def consec (T : Types) : List (Nat × TypeId) → Nat → Nat → Bool
  | [], off, total => off == total
  | f :: fs, off, total => f.1 == off && consec T fs (off + szT T f.2) total

/-- The table tells all of a type. -/
def okT (T : Types) : Nat → TypeId → Bool
  | 0, _ => false
  | k + 1, t => match T t with
    | some ⟨sz, _, .int _, _⟩ => sz == 1
    | some ⟨sz, _, .bool, _⟩ => sz == 1
    | some ⟨sz, _, .str, _⟩ => sz == 1
    | some ⟨sz, _, .slice e, _⟩ => sz == 1 && okT T k e && decide (0 < szT T e) && (isAgg T e || szT T e == 1)
    | some ⟨sz, _, .struct fs, _⟩ => consec T fs 0 sz && fs.all fun f => okT T k f.2
    | some ⟨sz, _, .arr n e, _⟩ => consec T ((List.range n).map fun j => (j * szT T e, e)) 0 sz && okT T k e
    | _ => false

def RepL (g : Gh) (w : World) (xs : List AV) (cs : List Value) : Prop :=
  xs.length = cs.length ∧ ∀ (i : Nat) (x : AV) (v : Value), xs[i]? = some x → cs[i]? = some v → Rep g w x v ∧ one v = true

theorem mapM_some {α β : Type} {f : α → Option β} : ∀ {L : List α} {l : List β}, L.mapM f = some l → l.length = L.length ∧ ∀ (i : Nat) (x : α), L[i]? = some x → ∃ y, f x = some y ∧ l[i]? = some y
  | [], l, h => by simp at h; subst h; exact ⟨rfl, by simp⟩
  | a :: L, l, h => by
    rw [List.mapM_cons] at h
    cases ha : f a with
    | none => simp [ha] at h
    | some b =>
      cases hL : L.mapM f with
      | none => simp [ha, hL] at h
      | some l' =>
        simp [ha, hL] at h
        subst h
        obtain ⟨h1, h2⟩ := mapM_some hL
        refine ⟨by simp [h1], fun i x hi => ?_⟩
        cases i with
        | zero => simp at hi; subst hi; exact ⟨b, ha, rfl⟩
        | succ i => simpa using h2 i x (by simpa using hi)

theorem mapM_range {α : Type} {f : Nat → Option α} {n : Nat} {l : List α} (h : (List.range n).mapM f = some l) : l.length = n ∧ ∀ i, i < n → ∃ y, f i = some y ∧ l[i]? = some y := by
  obtain ⟨h1, h2⟩ := mapM_some h
  exact ⟨by simpa using h1, fun i hi => h2 i i (by simp [hi])⟩

theorem cells_some {w : World} {base : Nat} {a : Addr} {n : Nat} {cs : List Value} (h : w.cells? base a n = some cs) : cs.length = n ∧ ∀ i, i < n → ∃ v, w.cell? (a.add i) = some v ∧ cs[i]? = some v := by
  unfold World.cells? at h
  split at h
  · exact mapM_range h
  · cases h

theorem addr_add2 (a : Addr) (x y : Nat) : (a.add x).add y = a.add (x + y) := by
  simp only [Addr.add]
  by_cases hx : x = 0
  · subst hx; simp
  · by_cases hy : y = 0
    · subst hy; simp
    · simp [hx, hy, Nat.add_assoc]

section
variable {P : Program} {T : Types} {w : World}

theorem cellsOf_szT (hT : TOk P T) {t : TypeId} {i : TI} (ht : T t = some i) : P.cellsOf t = szT T t := by
  obtain ⟨info, h1, h2, _⟩ := (hT.fact ht).info
  simp [Program.cellsOf, h1, szT, ht, h2]

theorem okT_some {k : Nat} {t : TypeId} (h : okT T k t = true) : ∃ i, T t = some i := by
  cases k with
  | zero => cases h
  | succ k =>
    unfold okT at h
    cases ht : T t with
    | none => rw [ht] at h; cases h
    | some i => exact ⟨i, rfl⟩

/-- Fields one behind another. -/
theorem fields_build {g : Gh} {Sh : TypeId → List AV → Prop} {cs : List Value} {total : Nat} (hl : cs.length = total) : ∀ (fs : List (Nat × TypeId)) (off : Nat), consec T fs off total = true →
    (∀ f ∈ fs, ∃ xs, Sh f.2 xs ∧ ((cs.drop f.1).take (szT T f.2)).length = szT T f.2 ∧ RepL g w xs ((cs.drop f.1).take (szT T f.2))) →
    ∃ ys, RepL g w ys (cs.drop off) ∧ off ≤ total ∧ ∀ f ∈ fs, off ≤ f.1 ∧ Sh f.2 ((ys.drop (f.1 - off)).take (szT T f.2))
  | [], off, hc, _ => by
    simp only [consec, beq_iff_eq] at hc
    refine ⟨[], ⟨?_, by simp⟩, by omega, by simp⟩
    simp; omega
  | f :: fs, off, hc, h => by
    simp only [consec, Bool.and_eq_true, beq_iff_eq] at hc
    obtain ⟨hoff, hc⟩ := hc
    obtain ⟨xs, h1, h2, h3, h4⟩ := h f (by simp)
    obtain ⟨ys, ⟨k1, k2⟩, k4, k3⟩ := fields_build hl fs (off + szT T f.2) hc fun f' hf' => h f' (by simp [hf'])
    have hxl : xs.length = szT T f.2 := by omega
    subst hoff
    refine ⟨xs ++ ys, ⟨?_, fun i x v hi hv => ?_⟩, by omega, fun f' hf' => ?_⟩
    · simp only [List.length_append, k1, List.length_drop, hxl]
      omega
    · by_cases hil : i < xs.length
      · rw [List.getElem?_append_left hil] at hi
        refine h4 i x v hi ?_
        rw [List.getElem?_take, if_pos (by omega)]; exact hv
      · rw [List.getElem?_append_right (by omega)] at hi
        refine k2 (i - xs.length) x v hi ?_
        rw [List.getElem?_drop] at hv ⊢
        rw [show f.1 + szT T f.2 + (i - xs.length) = f.1 + i by omega]; exact hv
    · rcases List.mem_cons.1 hf' with rfl | hf'
      · refine ⟨Nat.le_refl _, ?_⟩
        rw [Nat.sub_self, List.drop_zero, List.take_append_of_le_length (by omega), List.take_of_length_le (by omega)]; exact h1
      · obtain ⟨m1, m2⟩ := k3 f' hf'
        refine ⟨by omega, ?_⟩
        rw [List.drop_append, List.drop_eq_nil_of_le (by omega), List.nil_append, show f'.1 - f.1 - xs.length = f'.1 - (f.1 + szT T f.2) by omega]
        exact m2

/-- What a reading from outside meets is of its type's form, and stays. -/
theorem trod_rep (hT : TOk P T) {H : Type} {enc : TypeId × Value → H} {base : Nat} {sp : Nat → Bool} {held : Bool} : ∀ (k fuel : Nat) (t : TypeId) (cs : List Value) (d : DataW H) (ps : List MemPlace), okT T k t = true →
    DataW.trod enc P w base sp held fuel t cs = some (d, ps) → ∃ xs, ShpA T k t xs ∧ cs.length = szT T t ∧ RepL (g0 w) w xs cs
  | 0, _, _, _, _, _, h, _ => by cases h
  | k + 1, 0, _, _, _, _, _, h => by simp [DataW.trod] at h
  | k + 1, fuel + 1, t, cs, d, ps, hok, h => by
    obtain ⟨i, ht⟩ := okT_some hok
    obtain ⟨desc, hd, hk⟩ := (hT.fact ht).under
    have hsz := cellsOf_szT hT ht
    obtain ⟨sz, bz, kind, z⟩ := i
    have hszT : szT T t = sz := by simp [szT, ht]
    unfold okT at hok
    rw [ht] at hok
    unfold DataW.trod at h
    rw [hd] at h
    unfold ShpA
    rw [ht]
    cases kind <;> simp only [Bool.false_eq_true] at hok
    case int kd =>
      cases desc <;> simp only [sameKind, Bool.false_eq_true, beq_iff_eq] at hk
      subst hk
      split at h <;> try (simp_all; done)
      rename_i kd' k' n' he
      simp only [Option.some.injEq, TypeDesc.int.injEq] at he
      subst he
      split at h
      · rename_i hh
        obtain ⟨rfl, hw⟩ := hh
        refine ⟨[.sc (.int _ n')], ⟨n', hw, rfl⟩, ?_, rfl, fun i x v hi hv => ?_⟩
        · rw [hszT]; simp only [beq_iff_eq] at hok; rw [hok]; rfl
        · cases i <;> simp at hi hv
          subst hi hv; exact ⟨.sc _ rfl, rfl⟩
      · cases h
    case bool =>
      cases desc <;> simp only [sameKind, Bool.false_eq_true] at hk
      split at h <;> try (simp_all; done)
      rename_i b _
      refine ⟨[.sc (.bool b)], ⟨b, rfl⟩, ?_, rfl, fun i x v hi hv => ?_⟩
      · rw [hszT]; simp only [beq_iff_eq] at hok; rw [hok]; rfl
      · cases i <;> simp at hi hv
        subst hi hv; exact ⟨.sc _ rfl, rfl⟩
    case str =>
      cases desc <;> simp only [sameKind, Bool.false_eq_true] at hk
      split at h <;> try (simp_all; done)
      rename_i s _
      split at h
      · rename_i hh
        refine ⟨[.sc (.string s)], ⟨s, hh, rfl⟩, ?_, rfl, fun i x v hi hv => ?_⟩
        · rw [hszT]; simp only [beq_iff_eq] at hok; rw [hok]; rfl
        · cases i <;> simp at hi hv
          subst hi hv; exact ⟨.sc _ rfl, rfl⟩
      · cases h
    case slice e =>
      cases desc <;> simp only [sameKind, Bool.false_eq_true, beq_iff_eq] at hk
      subst hk
      simp only [Bool.and_eq_true, decide_eq_true_eq, beq_iff_eq, Bool.or_eq_true] at hok
      obtain ⟨⟨⟨hk1, hok⟩, hpos⟩, hagg⟩ := hok
      obtain ⟨ie, hte⟩ := okT_some hok
      have hse := cellsOf_szT hT hte
      split at h <;> try (simp_all; done)
      · refine ⟨[.lst 0 []], ⟨[], by simp, rfl, by simp⟩, by rw [hszT, hk1]; rfl, rfl, fun i x v hi hv => ?_⟩
        cases i <;> simp at hi hv
        subst hi hv; exact ⟨.nil none 0, rfl⟩
      · rename_i e' a len cap he
        simp only [Option.some.injEq, TypeDesc.slice.injEq] at he
        subst he
        split at h
        · rename_i hb
          obtain ⟨hb1, hb2, hb3⟩ := hb
          simp only [Option.bind_eq_some_iff, Option.map_eq_some_iff] at h
          obtain ⟨elems, hel, _⟩ := h
          obtain ⟨l1, l2⟩ := mapM_range hel
          -- each element
          have hone : ∀ i, i < len → ∃ cs' xs', (∀ j, j < szT T e → ∃ v, w.cell? (a.add (i * szT T e + j)) = some v ∧ cs'[j]? = some v) ∧ ShpA T k e xs' ∧ cs'.length = szT T e ∧ RepL (g0 w) w xs' cs' := by
            intro i hi
            obtain ⟨y, hy, _⟩ := l2 i hi
            simp only [Option.bind_eq_some_iff] at hy
            obtain ⟨cs', hc, htr⟩ := hy
            obtain ⟨c1, c2⟩ := cells_some hc
            obtain ⟨xs', q1, q2, q3⟩ := trod_rep hT k fuel e cs' y.1 y.2 hok htr
            refine ⟨cs', xs', fun j hj => ?_, q1, q2, q3⟩
            obtain ⟨v, v1, v2⟩ := c2 j (by rw [hse]; exact hj)
            refine ⟨v, ?_, v2⟩
            rw [← v1, hse, addr_add2]
          rcases Nat.eq_zero_or_pos len with h0 | h0
          · subst h0
            refine ⟨[.lst 0 []], ⟨[], by simp, rfl, by simp⟩, by rw [hszT, hk1]; rfl, rfl, fun i x v hi hv => ?_⟩
            cases i <;> simp at hi hv
            subst hi hv; exact ⟨.nil _ _, rfl⟩
          · obtain ⟨B, off, spot⟩ := a
            have hspot : spot = none := by
              obtain ⟨cs', xs', q1, _⟩ := hone 0 h0
              obtain ⟨v, hv, _⟩ := q1 0 hpos
              rw [Nat.zero_mul, Nat.add_zero] at hv
              simp only [World.cell?, Addr.add, if_true] at hv
              split at hv
              · cases spot with
                | none => rfl
                | some _ => simp at hv
              · cases hv
            subst hspot
            -- the list
            have hlist : ∀ n, n ≤ len → ∃ ys : List AV, ys.length = n ∧ (∀ y ∈ ys, ShpA T k e y.cells ∧ (isAgg T e = true → ∃ cs, y = .agg cs) ∧ (isAgg T e = false → y.cells = [y]) ∧ y.cells.length = szT T e) ∧
                ∀ (j : Nat) (x : AV), (flat ys)[j]? = some x → ∃ v, w.cell? ⟨B, off + j, none⟩ = some v ∧ one v = true ∧ Rep (g0 w) w x v := by
              intro n
              induction n with
              | zero => exact fun _ => ⟨[], rfl, by simp, by simp [flat]⟩
              | succ n ih =>
                intro hn
                obtain ⟨ys, y1, y2, y3⟩ := ih (by omega)
                obtain ⟨cs', xs', q1, q2, q3, q4, q5⟩ := hone n (by omega)
                have hxl : xs'.length = szT T e := by omega
                have hy : ∃ y : AV, y.cells = xs' ∧ (isAgg T e = true → ∃ cs, y = .agg cs) ∧ (isAgg T e = false → y.cells = [y]) := by
                  cases ha : isAgg T e with
                  | true => exact ⟨.agg xs', rfl, (fun _ => ⟨xs', rfl⟩), fun h => by cases h⟩
                  | false =>
                    rw [ha] at hagg
                    have h1 : szT T e = 1 := by simpa using hagg
                    obtain ⟨y, rfl⟩ := List.length_eq_one_iff.1 (hxl.trans h1)
                    have hyc : y.cells = [y] := by
                      obtain ⟨v, _, hv⟩ := q1 0 (by omega)
                      have := q5 0 y v rfl hv
                      cases this.1 with
                      | agg cs vs => simp [one] at this
                      | _ => rfl
                    exact ⟨y, hyc, (fun h => by cases h), fun _ => hyc⟩
                obtain ⟨y, e1, e2, e3⟩ := hy
                have hfl := flat_length (xs := ys) (s := szT T e) fun y hy => (y2 y hy).2.2.2
                refine ⟨ys ++ [y], by simp [y1], fun z hz => ?_, fun j x hj => ?_⟩
                · rcases List.mem_append.1 hz with hz | hz
                  · exact y2 z hz
                  · simp only [List.mem_singleton] at hz; subst hz
                    rw [e1]; exact ⟨q2, e2, fun h => by rw [← e1]; exact e3 h, hxl⟩
                · have hfa : flat (ys ++ [y]) = flat ys ++ xs' := by simp [flat, e1]
                  rw [hfa] at hj
                  by_cases hjl : j < (flat ys).length
                  · rw [List.getElem?_append_left hjl] at hj; exact y3 j x hj
                  · rw [List.getElem?_append_right (by omega)] at hj
                    have hlt := (List.getElem?_eq_some_iff.1 hj).1
                    obtain ⟨v, v1, v2⟩ := q1 (j - (flat ys).length) (by omega)
                    have := q5 _ x v hj v2
                    refine ⟨v, ?_, this.2, this.1⟩
                    rw [← v1, addr_add]
                    have hj2 : n * szT T e + (j - (flat ys).length) = j := by rw [hfl, y1] at hjl ⊢; omega
                    rw [hj2]
            obtain ⟨ys, y1, y2, y3⟩ := hlist len (Nat.le_refl _)
            have hfl := flat_length (xs := ys) (s := szT T e) fun y hy => (y2 y hy).2.2.2
            have hlast : off + len * szT T e ≤ (g0 w).fz B := by
              have hlt : len * szT T e - 1 < (flat ys).length := by
                have := Nat.mul_le_mul h0 hpos
                rw [hfl, y1]; omega
              obtain ⟨v, v1, _⟩ := y3 (len * szT T e - 1) _ (List.getElem?_eq_getElem hlt)
              have := fz0 v1
              have := Nat.mul_le_mul h0 hpos
              omega
            refine ⟨[.lst 0 ys], ⟨ys, by omega, rfl, fun y hy => ⟨(y2 y hy).1, (y2 y hy).2.1, (y2 y hy).2.2.1⟩⟩, by rw [hszT, hk1]; rfl, rfl, fun i x v hi hv => ?_⟩
            cases i <;> simp at hi hv
            subst hi hv
            refine ⟨.lst ys B off len cap (szT T e) (fun j => (w.cell? ⟨B, off + j, none⟩).getD undef) y1.symm hb2 hpos (fun y hy => (y2 y hy).2.2.2) hlast (fun j x hj => ?_) (fun j x hj => ?_) (fun j x hj => ?_), rfl⟩
            · obtain ⟨v, v1, v2, v3⟩ := y3 j x hj
              simp [v1]
            · obtain ⟨v, v1, v2, v3⟩ := y3 j x hj
              simp [v1, v2]
            · obtain ⟨v, v1, v2, v3⟩ := y3 j x hj
              simp only [v1, Option.getD_some]; exact v3
        · cases h
    case arr n e =>
      cases desc <;> simp only [sameKind, Bool.false_eq_true, beq_iff_eq, Bool.and_eq_true] at hk
      obtain ⟨rfl, rfl⟩ := hk
      simp only [Bool.and_eq_true] at hok
      obtain ⟨hc, hok⟩ := hok
      obtain ⟨ie, hte⟩ := okT_some hok
      have hse := cellsOf_szT hT hte
      dsimp only at h
      split at h
      · rename_i hlen
        simp only [Option.map_eq_some_iff] at h
        obtain ⟨xs0, hx0, _⟩ := h
        obtain ⟨l1, l2⟩ := mapM_range hx0
        obtain ⟨ys, r1, _, r2⟩ := fields_build (T := T) (w := w) (g := g0 w) (Sh := ShpA T k) (cs := cs) (total := sz) (by rw [hlen, hsz, hszT]) _ 0 hc (fun f hf => by
          obtain ⟨j, hj, rfl⟩ := List.mem_map.1 hf
          obtain ⟨y, hy, _⟩ := l2 j (by simpa using hj)
          rw [hse] at hy
          obtain ⟨xs, q1, q2, q3⟩ := trod_rep hT k fuel _ _ y.1 y.2 hok hy
          exact ⟨xs, q1, q2, q3⟩)
        rw [List.drop_zero] at r1
        refine ⟨ys, ⟨by rw [r1.1, hlen, hsz, hszT], fun j hj => ?_⟩, by rw [hlen, hsz], r1⟩
        have := (r2 (j * szT T _, _) (List.mem_map.2 ⟨j, by simpa using hj, rfl⟩)).2
        simpa using this
      · cases h
    case struct fs =>
      cases desc <;> simp only [sameKind, Bool.false_eq_true, beq_iff_eq] at hk
      rename_i fs'
      simp only [Bool.and_eq_true, List.all_eq_true] at hok
      obtain ⟨hc, hok⟩ := hok
      dsimp only at h
      split at h
      · rename_i hlen
        simp only [Option.map_eq_some_iff] at h
        obtain ⟨xs0, hx0, _⟩ := h
        obtain ⟨l1, l2⟩ := mapM_some hx0
        obtain ⟨ys, r1, _, r2⟩ := fields_build (T := T) (w := w) (g := g0 w) (Sh := ShpA T k) (cs := cs) (total := sz) (by rw [hlen, hsz, hszT]) fs 0 hc (fun f hf => by
          have hf0 := hf
          rw [hk] at hf
          obtain ⟨f', hf', rfl⟩ := List.mem_map.1 hf
          obtain ⟨j, hj, hje⟩ := List.getElem_of_mem hf'
          obtain ⟨y, hy, _⟩ := l2 j f' (by rw [← hje]; simp)
          have hokf := hok _ hf0
          obtain ⟨ie, hte⟩ := okT_some hokf
          rw [cellsOf_szT hT hte] at hy
          obtain ⟨xs, q1, q2, q3⟩ := trod_rep hT k fuel _ _ y.1 y.2 hokf hy
          exact ⟨xs, q1, q2, q3⟩)
        rw [List.drop_zero] at r1
        refine ⟨ys, ⟨by rw [r1.1, hlen, hsz, hszT], fun f hf => ?_⟩, by rw [hlen, hsz], r1⟩
        have := (r2 f hf).2
        simpa using this
      · cases h

end
end Go.Ab
