/- Ab.Ops6: append. -/
import Derived.Test.YtgnlnkbkbddfaaaAbBaseB
import Derived.Laws.Append
namespace Go.Ab

section
variable {P : Program} {T : Types} {C : Cx} {e : Env} {H : Hp} {g : Gh} {w : World} {a : Act}

/-- The cells of a list, as the builtins load them. -/
theorem slot_cells {o : Owner} {m : Nat} {xs : List AV} {v : Value} (h : SlotRep g w o (.lst m xs) v) {s : Nat} (hx : ∀ x ∈ xs, x.cells.length = s) :
    ∃ (base : Option Addr) (cap : Nat) (vs : List Value), v = .slice base xs.length cap ∧ vs.length = xs.length * s ∧ (∀ w2 : World, w2.heap = w.heap → (Builtin.firstCells s xs.length v).run P w2 = .ok vs.toArray w2) ∧ (∀ (B off : Nat), base = some ⟨B, off, none⟩ → ∀ (i : Nat) (u : Value), vs[i]? = some u → w.cell? ⟨B, off + i, none⟩ = some u) ∧
      ∀ (i : Nat) (x : AV) (u : Value), (flat xs)[i]? = some x → vs[i]? = some u → Rep g w x u ∧ one u = true := by
  have fin : ∀ (B off cap : Nat) (f : Nat → Value), v = .slice (some ⟨B, off, none⟩) xs.length cap → (∀ (i : Nat) (x : AV), (flat xs)[i]? = some x → w.cell? ⟨B, off + i, none⟩ = some (f i) ∧ one (f i) = true ∧ Rep g w x (f i)) →
      ∃ (base : Option Addr) (cap : Nat) (vs : List Value), v = .slice base xs.length cap ∧ vs.length = xs.length * s ∧ (∀ w2 : World, w2.heap = w.heap → (Builtin.firstCells s xs.length v).run P w2 = .ok vs.toArray w2) ∧ (∀ (B off : Nat), base = some ⟨B, off, none⟩ → ∀ (i : Nat) (u : Value), vs[i]? = some u → w.cell? ⟨B, off + i, none⟩ = some u) ∧
        ∀ (i : Nat) (x : AV) (u : Value), (flat xs)[i]? = some x → vs[i]? = some u → Rep g w x u ∧ one u = true := by
    intro B off cap f hv hf
    have hfl := flat_length hx
    refine ⟨_, cap, (List.range (xs.length * s)).map f, hv, by simp, fun w2 hw2 => ?_, fun B' off' hB' i u hu => ?_, fun i x u hx' hu => ?_⟩
    · have hce : ∀ ad, w2.cell? ad = w.cell? ad := fun ad => by simp only [World.cell?, hw2]
      have := run_loadCells_list (P := P) w2 ⟨B, off, none⟩ ((List.range (xs.length * s)).map f) (fun j u hu => by
        simp only [List.getElem?_map, Option.map_eq_some_iff] at hu
        obtain ⟨j', hj', rfl⟩ := hu
        have hlt := lt_of_getElem? hj'
        rw [List.getElem?_eq_getElem hlt] at hj'
        simp at hj' hlt
        subst hj'
        rw [addr_add, hce]
        exact (hf j _ (List.getElem?_eq_getElem (by omega))).1)
      rw [hv]
      simpa [Builtin.firstCells] using this
    · cases hB'
      simp only [List.getElem?_map, Option.map_eq_some_iff] at hu
      obtain ⟨j', hj', rfl⟩ := hu
      have hlt := lt_of_getElem? hj'
      rw [List.getElem?_eq_getElem hlt] at hj'
      simp at hj' hlt
      subst hj'
      exact (hf i _ (List.getElem?_eq_getElem (by omega))).1
    · simp only [List.getElem?_map, Option.map_eq_some_iff] at hu
      obtain ⟨j', hj', rfl⟩ := hu
      have hlt := lt_of_getElem? hj'
      rw [List.getElem?_eq_getElem hlt] at hj'
      simp at hj' hlt
      subst hj'
      exact ⟨(hf i x hx').2.2, (hf i x hx').2.1⟩
  have emp : ∀ (base : Option Addr) (cap : Nat), xs = [] → v = .slice base 0 cap → ∃ (base : Option Addr) (cap : Nat) (vs : List Value), v = .slice base xs.length cap ∧ vs.length = xs.length * s ∧ (∀ w2 : World, w2.heap = w.heap → (Builtin.firstCells s xs.length v).run P w2 = .ok vs.toArray w2) ∧ (∀ (B off : Nat), base = some ⟨B, off, none⟩ → ∀ (i : Nat) (u : Value), vs[i]? = some u → w.cell? ⟨B, off + i, none⟩ = some u) ∧
        ∀ (i : Nat) (x : AV) (u : Value), (flat xs)[i]? = some x → vs[i]? = some u → Rep g w x u ∧ one u = true := by
    rintro base cap rfl rfl
    refine ⟨base, cap, [], rfl, by simp, fun w2 _ => ?_, fun _ _ _ i u h => by simp at h, fun i x u h _ => by simp [flat] at h⟩
    cases base <;> simp [Builtin.firstCells, loadCells, loadCellsFrom]
  by_cases hm : m = 2
  · subst hm
    rcases h with ⟨base, h1, h2⟩ | ⟨B, off, cap, s', c, E, f, hv, h1, h2, h3, h4, h5, h6, h7, h8, h9, h10, h11⟩
    · exact emp base 0 h1 h2
    · refine fin B off cap f hv fun i x hi => ⟨?_, (h9 i x hi).2, h10 i x hi⟩
      simp [World.cell?, h6, (h9 i x hi).1]
  · have hr := slot_lst h hm
    cases hr with
    | nil base cap => exact emp base cap rfl rfl
    | lst xs B off n cap s' f hn hcap hs hx' hf hc ho hr =>
      subst hn
      exact fin B off cap f rfl fun i x hi => ⟨hc i x hi, ho i x hi, hr i x hi⟩

theorem run_append_grow' {t t2 et ty : TypeId} {ti : TI} {sz bz sz2 bz2 : Nat} {z z2 : List Value} {et2 : TypeId} (hT : TOk P T) (ht : T t = some ⟨sz, bz, .slice et, z⟩) (ht2 : T t2 = some ⟨sz2, bz2, .slice et2, z2⟩) (hti : T et = some ti)
    (hzl : ti.zero.length = ti.size) (hby : ti.bytes ≤ 65536) {base base2 : Option Addr} {n cap k cap2 : Nat} {vs us : List Value} (hn : n + k ≤ 1073741824) (hgrow : cap < n + k)
    (h1 : ∀ w2 : World, w2.heap = w.heap → (Builtin.firstCells ti.size n (.slice base n cap)).run P w2 = .ok vs.toArray w2) (h2 : ∀ w2 : World, w2.heap = w.heap → (Builtin.firstCells ti.size k (.slice base2 k cap2)).run P w2 = .ok us.toArray w2) :
    ∃ (newCap : Nat) (rest : Array Value) (w1 : World), n + k ≤ newCap ∧ rest.size = (newCap - (n + k)) * ti.size ∧ (∀ (i : Nat) (v : Value), rest[i]? = some v → one v = true) ∧ (w1.heap = w.heap.push (.cells (vs.toArray ++ us.toArray ++ rest) et) ∧ Env3 w w1) ∧
      (Builtin.append_ #[t, t2] ty #[.slice base n cap, .slice base2 k cap2]).run P w = .ok (.slice (some ⟨w.heap.size, 0, none⟩) (n + k) newCap) w1 := by
  obtain ⟨desc, q1, q2⟩ := (hT.fact ht).under
  cases desc <;> simp only [sameKind, Bool.false_eq_true] at q2
  simp only [beq_iff_eq] at q2
  subst q2
  obtain ⟨desc2, r1, r2⟩ := (hT.fact ht2).under
  cases desc2 <;> simp only [sameKind, Bool.false_eq_true] at r2
  obtain ⟨info, i1, i2, i3, zv, i4, i5, _⟩ := (hT.fact hti).info
  have hzs : zv.cells.size = ti.size := by rw [← hzl, ← i5]; simp
  refine ⟨grownCap w (n + k) cap et, Builtin.zeroCells zv.cells (grownCap w (n + k) cap et - (n + k)), w.drew.alloc (.cells (vs.toArray ++ us.toArray ++ Builtin.zeroCells zv.cells (grownCap w (n + k) cap et - (n + k))) et),
    by simp only [grownCap, Question.cut]; omega, by simp [Builtin.zeroCells, hzs], fun i v hv => ?_, ⟨rfl, rfl, rfl, rfl⟩, ?_⟩
  · simp only [Builtin.zeroCells, Array.getElem?_map, Option.map_eq_some_iff] at hv
    obtain ⟨k', hk', rfl⟩ := hv
    have hz : ∀ u ∈ zv.cells.toList, one u = true := fun u hu => by
      have := (hT.fact hti).plain u (by rw [← i5]; exact hu)
      cases u <;> first | rfl | (simp [sameConst] at this)
    have hlt := (Array.getElem?_eq_some_iff.1 hk').1
    rcases Nat.eq_zero_or_pos zv.cells.size with h0 | h0
    · simp [h0] at hlt
    · rw [getElem!_pos zv.cells _ (Nat.mod_lt _ h0)]
      exact hz _ (by simp)
  have hgf := growslice_fits (bytes := ti.bytes) hgrow (by
    have : (n + k) * ti.bytes ≤ 1073741824 * 65536 := Nat.mul_le_mul hn hby
    omega)
  have hn3 : ¬ (n + k ≤ cap) := by omega
  have h63' : ¬ (9223372036854775807 < ((n : Int) + (k : Int))) := by omega
  have h48' : ¬ (281474976710656 < Builtin.nextslicecap (n + k) cap * info.bytes) := by rw [i3]; omega
  have hfo := h1 w.drew rfl
  have hf := h2 w.drew rfl
  simp [Builtin.append_, run_underlying q1, run_underlying r1, sizeOf, typeInfo, zeroValue, i1, i4, Builtin.lenOf, hn3, h63', h48', Question.forced, i2, hfo, hf, newRow, grownCap]
  congr 2
  apply Array.ext'
  simp [List.append_assoc]

theorem run_append_in {t t2 et ty : TypeId} {ti : TI} {sz bz sz2 bz2 : Nat} {z z2 : List Value} {et2 : TypeId} (hT : TOk P T) (ht : T t = some ⟨sz, bz, .slice et, z⟩) (ht2 : T t2 = some ⟨sz2, bz2, .slice et2, z2⟩) (hti : T et = some ti)
    {B off n cap k cap2 : Nat} {base2 : Option Addr} {us : List Value} (hroom : n + k ≤ cap) {cur : Array Value} {E : TypeId} (hrow : w.heap[B]? = some (.cells cur E (0, 0))) (hfit : off + n * ti.size + us.length ≤ cur.size)
    (h1 : ∀ u ∈ us, u.oneCell' = true) (h2 : ∀ w2 : World, w2.heap = w.heap → (Builtin.firstCells ti.size k (.slice base2 k cap2)).run P w2 = .ok us.toArray w2) :
    (Builtin.append_ #[t, t2] ty #[.slice (some ⟨B, off, none⟩) n cap, .slice base2 k cap2]).run P w =
      .ok (.slice (some ⟨B, off, none⟩) (n + k) cap) (w.setRow B (cur.toList.take (off + n * ti.size) ++ us ++ cur.toList.drop (off + n * ti.size + us.length)).toArray) := by
  obtain ⟨desc, q1, q2⟩ := (hT.fact ht).under
  cases desc <;> simp only [sameKind, Bool.false_eq_true] at q2
  simp only [beq_iff_eq] at q2
  subst q2
  obtain ⟨desc2, r1, r2⟩ := (hT.fact ht2).under
  cases desc2 <;> simp only [sameKind, Bool.false_eq_true] at r2
  obtain ⟨info, i1, i2, i3, zv, i4, i5, _⟩ := (hT.fact hti).info
  have hf := h2 w rfl
  have hst := run_storeCells_at P B (off + n * ti.size) E us 0 cur w hrow (by simpa using hfit) h1
  simp only [Nat.add_zero] at hst
  simp [Builtin.append_, run_underlying q1, run_underlying r1, sizeOf, typeInfo, i1, i2, Builtin.lenOf, hroom, hf, addr_add, hst]

theorem run_append_none {t t2 et ty : TypeId} {ti : TI} {sz bz sz2 bz2 : Nat} {z z2 : List Value} {et2 : TypeId} (hT : TOk P T) (ht : T t = some ⟨sz, bz, .slice et, z⟩) (ht2 : T t2 = some ⟨sz2, bz2, .slice et2, z2⟩) (hti : T et = some ti)
    {base base2 : Option Addr} {n cap cap2 : Nat} (hroom : n ≤ cap) : (Builtin.append_ #[t, t2] ty #[.slice base n cap, .slice base2 0 cap2]).run P w = .ok (.slice base n cap) w := by
  obtain ⟨desc, q1, q2⟩ := (hT.fact ht).under
  cases desc <;> simp only [sameKind, Bool.false_eq_true] at q2
  simp only [beq_iff_eq] at q2
  subst q2
  obtain ⟨desc2, r1, r2⟩ := (hT.fact ht2).under
  cases desc2 <;> simp only [sameKind, Bool.false_eq_true] at r2
  obtain ⟨info, i1, i2, i3, zv, i4, i5, _⟩ := (hT.fact hti).info
  cases base <;> cases base2 <;> simp [Builtin.append_, run_underlying q1, run_underlying r1, sizeOf, typeInfo, i1, Builtin.lenOf, hroom, Builtin.firstCells, loadCells, loadCellsFrom, storeCells]

theorem SRel.restS (hr : SRel g C e H a w) {s m : Nat} {xs : List AV} (hx : e s = .lst m xs) (hm : m = 1 ∨ m = 2) : SRel g C (upd e s (AV.lst m xs).rest) H a w := by
  refine ⟨hr.inv, hr.heap, hr.defers, hr.size, fun u hu => ?_⟩
  simp only [upd] at hu ⊢
  by_cases hus : u = s
  · subst hus
    rw [if_pos rfl] at hu ⊢
    obtain ⟨v, h1, h2⟩ := hr.slots u (by rw [hx]; simp)
    rw [hx] at h2
    exact ⟨v, h1, rep_slot (rest_rep h2 hm)⟩
  · rw [if_neg hus] at hu ⊢
    exact hr.slots u hu

/-- A token moves on with its value. -/
theorem AOp_take' {ops : Array Oper} {i : Nat} {o : Oper} (hi : ops[i]? = some o) (hg : o.guard = none) {s t : Nat} (hdst : o.dst = some t) (hd : dstOk C.nt o.dst = true)
    (hrun : ∀ g a w, SRel g C e H a w → (execOp a.eval o).run P w = .ok (.value (a.eval (.tmp s))) w)
    {m : Nat} {xs : List AV} (hx : e s = .lst m xs) (hm : m = 1 ∨ m = 2) {K : Env → Hp → Prop} {Kx : Exit → Env → Hp → Prop} (hk : K (upd (upd e s (AV.lst m xs).rest) t (.lst m xs)) H) : AOp P C ops i K Kx e H := by
  intro g a w hr NX Q hNX _
  obtain ⟨v, hv, hs⟩ := hr.slots s (by rw [hx]; simp)
  rw [hx] at hs
  have hev : a.eval (.tmp s) = v := by simp [Act.eval, hv]
  unfold wpOp
  simp only [hi, Region.wanted, hg, if_true]
  left
  unfold Oper.wp
  rw [hrun g a w hr, hev]
  show NX (a.put o.dst v) w
  refine hNX (moveG g (.slot C.d s) (.slot C.d t)) _ w (dput (upd e s (AV.lst m xs).rest) o.dst (.lst m xs)) H moveG_guar ?_ (by rw [hdst]; exact hk)
  have hk := moveG_keep (g := g) (w := w) (.slot C.d s) (.slot C.d t)
  have hsm := fun o2 (hne : o2 ≠ .slot C.d s) => moveG_same (g := g) (w := w) (o' := .slot C.d t) hne
  have hr1 : SRel (moveG g (.slot C.d s) (.slot C.d t)) C (upd e s (AV.lst m xs).rest) H a w := by
    refine ⟨moveG_inv hr.inv (fun _ _ h => by cases h), fun B b hb => ?_, hr.defers, hr.size, fun u hu => ?_⟩
    · obtain ⟨h1, h2⟩ := hr.heap B b hb
      exact ⟨(hsm .blk (by simp) B h1).1, h2.keep hk (hsm _ (by simp)) h1 fun i => hsm _ (by simp)⟩
    · simp only [upd] at hu ⊢
      by_cases hus : u = s
      · subst hus
        rw [if_pos rfl] at hu ⊢
        exact ⟨v, hv, rep_slot ((rest_rep hs hm).keep hk)⟩
      · rw [if_neg hus] at hu ⊢
        obtain ⟨u', k1, k2⟩ := hr.slots u hu
        exact ⟨u', k1, k2.keep hk (hsm _ (by simp [hus]))⟩
  exact hr1.put' hd fun t' ht' => by rw [hdst] at ht'; cases ht'; exact moveG_slot hs

theorem upd_upd (e : Env) (t : Nat) (x y : AV) : upd (upd e t x) t y = upd e t y := by
  funext u; simp only [upd]; split <;> rfl

theorem AOp_append (hT : TOk P T) {ops : Array Oper} {i : Nat} {o : Oper} (hi : ops[i]? = some o) (hg : o.guard = none) (hd : dstOk C.nt o.dst = true) {s t : Nat} (hdst : o.dst = some t) {X : Operand} {ts : Array TypeId} {t1 t2 : TypeId}
    (ho : o.op = .call { callee := .builtin .append, args := #[.tmp s, X], argTypes := #[t1, t2] }) {sz bz sz2 bz2 : Nat} {z z2 : List Value} {et et2 : TypeId} {ti : TI} (ht : T t1 = some ⟨sz, bz, .slice et, z⟩) (ht2 : T t2 = some ⟨sz2, bz2, .slice et2, z2⟩)
    (hti : T et = some ti) (hzl : ti.zero.length = ti.size) (hsz : 0 < ti.size) (hby : ti.bytes ≤ 65536) {m m' : Nat} {xs ys : List AV} (hx : e s = .lst m xs) (hm : m = 1 ∨ m = 2) (hX : arg e X = some (true, .lst m' ys))
    (hsx : ∀ x ∈ xs, x.cells.length = ti.size) (hsy : ∀ y ∈ ys, y.cells.length = ti.size) (hn : xs.length + ys.length ≤ 1073741824)
    {K : Env → Hp → Prop} {Kx : Exit → Env → Hp → Prop} (hk : K (upd (upd e s (AV.lst m xs).rest) t (.lst m (xs ++ ys))) H) : AOp P C ops i K Kx e H := by
  have hexec : ∀ (a : Act) (w : World), (execOp a.eval o).run P w = match (Builtin.append_ #[t1, t2] o.type #[a.eval (.tmp s), a.eval X]).run P w with | .ok v w' => .ok (.value v) w' | .halt h w' => .halt h w' := by
    intro a w
    simp only [execOp, ho, resolve, invoke, builtin, Sem.run_bind, Sem.run_pure, Result.andThen_ok, List.map_toArray, List.map_cons, List.map_nil]
    cases (Builtin.append_ #[t1, t2] o.type #[a.eval (.tmp s), a.eval X]).run P w <;> rfl
  by_cases hy0 : ys = []
  · subst hy0
    rw [List.append_nil] at hk
    refine AOp_take' hi hg hdst hd (fun g a w hr => ?_) hx hm hk
    obtain ⟨v, hv, hs⟩ := hr.slots s (by rw [hx]; simp)
    rw [hx] at hs
    obtain ⟨ow, hsX⟩ := arg_sound hr.cslots hX rfl
    obtain ⟨base, cap, hvs⟩ := slot_lst_len hs
    obtain ⟨base2, cap2, hvX⟩ := slot_lst_len hsX
    have hcap : xs.length ≤ cap := by
      rcases hm with rfl | rfl
      · have := hs.1
        rw [hvs] at this
        cases this with
        | nil => simp
        | lst _ _ _ _ _ _ _ hn hc => exact hc
      · rcases hs with ⟨base', rfl, h2⟩ | ⟨B, off, cap', s', c, E, f, hv', h1, h2, h3, h4, h5, h6, h7, h8, _⟩
        · simp
        · rw [hvs] at hv'; cases hv'; exact h8
    rw [hexec, show a.eval (.tmp s) = v from by simp [Act.eval, hv], hvs, hvX]
    simp only [List.length_nil]
    rw [run_append_none hT ht ht2 hti hcap]
  · have hk0 : 0 < ys.length := by cases ys <;> first | exact absurd rfl hy0 | simp
    intro g a w hr NX Q hNX hQ
    obtain ⟨v, hv, hs⟩ := hr.slots s (by rw [hx]; simp)
    rw [hx] at hs
    have hev : a.eval (.tmp s) = v := by simp [Act.eval, hv]
    obtain ⟨ow, hsX⟩ := arg_sound hr.cslots hX rfl
    obtain ⟨base, cap, vs, hvs, l1, f1, c1, r1⟩ := slot_cells (P := P) hs hsx
    obtain ⟨base2, cap2, us, hvX, l2, f2, c2, r2⟩ := slot_cells (P := P) hsX hsy
    rw [hvs] at f1
    rw [hvX] at f2
    have hcells : ∀ (j : Nat) (x : AV), (flat (xs ++ ys))[j]? = some x → ∃ u, (vs ++ us)[j]? = some u ∧ one u = true ∧ Rep g w x u := by
      intro j x hj
      rw [flat_append] at hj
      have e1 := flat_length hsx
      have e2 := flat_length hsy
      by_cases hjl : j < (flat xs).length
      · rw [List.getElem?_append_left hjl] at hj
        have hlt : j < vs.length := by omega
        have := r1 j x vs[j] hj (by simp)
        exact ⟨vs[j], by rw [List.getElem?_append_left hlt]; simp, this.2, this.1⟩
      · rw [List.getElem?_append_right (by omega)] at hj
        have hlt0 := lt_of_getElem? hj
        have hlt : j - vs.length < us.length := by omega
        have := r2 (j - (flat xs).length) x us[j - vs.length] hj (by rw [show j - (flat xs).length = j - vs.length by omega]; simp)
        exact ⟨us[j - vs.length], by rw [List.getElem?_append_right (by omega)]; simp, this.2, this.1⟩
    have hsxy : ∀ x ∈ xs ++ ys, x.cells.length = ti.size := by
      intro x hx'
      rcases List.mem_append.1 hx' with h | h
      · exact hsx x h
      · exact hsy x h
    unfold wpOp
    simp only [hi, Region.wanted, hg, if_true]
    left
    unfold Oper.wp
    rw [hexec, hev, hvs, hvX]
    by_cases hgrow : cap < xs.length + ys.length
    · obtain ⟨newCap, rest, w1, g1, g2, g2', ⟨g3, ge⟩, g4⟩ := run_append_grow' (P := P) (w := w) (ty := o.type) hT ht ht2 hti hzl hby hn hgrow f1 f2
      rw [g4]
      show NX (a.put o.dst _) w1
      have hr0 := hr.restS hx hm
      have hr1 := hr0.grow g3 ge 0 (.slot C.d t) (fun D i h => by cases h)
      have hkp := grow_keep hr.inv g3 ge 0 (.slot C.d t)
      have hg1 := grow_guar (C := C) (H := H) (H' := H) hr.inv g3 ge 0 (.slot C.d t) fun B _ hh => hh
      have hlen : (vs ++ us).length = (xs.length + ys.length) * ti.size := by rw [List.length_append, l1, l2, Nat.add_mul]
      have hle : (xs.length + ys.length) * ti.size ≤ newCap * ti.size := Nat.mul_le_mul_right _ g1
      have hsub : (newCap - (xs.length + ys.length)) * ti.size = newCap * ti.size - (xs.length + ys.length) * ti.size := Nat.sub_mul _ _ _
      have hr2 : SRel (newG g w.heap.size 0 (.slot C.d t)) C (dput (upd e s (AV.lst m xs).rest) o.dst (.lst 2 (xs ++ ys))) H (a.put o.dst (.slice (some ⟨w.heap.size, 0, none⟩) (xs.length + ys.length) newCap)) w1 := by
        refine hr1.put' hd fun t' ht' => ?_
        rw [hdst] at ht'
        cases ht'
        refine .inr ⟨w.heap.size, 0, newCap, ti.size, _, et, fun j => (vs ++ us).getD j undef, by simp, hsz, hsxy, by simp; omega, newG_own, newG_fz, push_at g3, ?_, by simp; exact g1, fun j x hj => ?_, fun j x hj => ?_, fun j v hv => ?_⟩
        · simp only [Array.size_append, List.size_toArray, g2, hsub]
          simp only [List.length_append] at hlen
          omega
        · obtain ⟨u, k1, k2, k3⟩ := hcells j x hj
          have hlt := lt_of_getElem? k1
          refine ⟨?_, by simp [List.getD, k1, k2]⟩
          rw [Nat.zero_add, Array.getElem?_append_left (by simp at hlt ⊢; omega)]
          simp only [List.getD, k1, Option.getD_some]
          rw [← k1]
          simp
        · obtain ⟨u, k1, k2, k3⟩ := hcells j x hj
          simp only [List.getD, k1, Option.getD_some]
          exact k3.keep hkp
        · rw [show vs.toArray ++ us.toArray = (vs ++ us).toArray by simp] at hv
          by_cases hj : j < (vs ++ us).length
          · rw [Array.getElem?_append_left (by simpa using hj)] at hv
            have hfl : j < (flat (xs ++ ys)).length := by rw [flat_length hsxy, List.length_append]; omega
            obtain ⟨u, k1, k2, _⟩ := hcells j _ (List.getElem?_eq_getElem hfl)
            rw [List.getElem?_toArray, k1] at hv
            cases hv; exact k2
          · rw [Array.getElem?_append_right (by simpa using Nat.le_of_not_lt hj)] at hv
            exact g2' _ v hv
      rw [hdst] at hr2 ⊢
      rcases hm with rfl | rfl
      · obtain ⟨g', q1, q2⟩ := hr2.freeze (s := t) (xs := xs ++ ys) (by simp [dput, upd])
        refine hNX g' _ w1 _ H (hg1.trans q1) q2 ?_
        simp only [dput, upd_upd]
        exact hk
      · exact hNX _ _ w1 _ H hg1 hr2 hk
    · have hroom : xs.length + ys.length ≤ cap := by omega
      have hx0 : 0 < xs.length := by
        rcases Nat.eq_zero_or_pos xs.length with h0 | h0
        · exfalso
          have hxs : xs = [] := List.length_eq_zero_iff.1 h0
          subst hxs
          rcases hm with rfl | rfl
          · obtain ⟨base', cap', hv', h' | ⟨B, off, s', c, E, _, _, _, h3, _⟩⟩ := hs.2
            · rw [hvs] at hv'; cases hv'; simp at h' hroom; omega
            · simp at h3
          · rcases hs with ⟨base', _, hv'⟩ | ⟨B, off, cap', s', c, E, f, hv', h1, h2, h3, _⟩
            · rw [hvs] at hv'; cases hv'; simp at hroom; omega
            · simp at h3
        · exact h0
      -- the block
      have hblk : ∃ B off c E, base = some ⟨B, off, none⟩ ∧ g.own B = some (.slot C.d s) ∧ w.heap[B]? = some (.cells c E (0, 0)) ∧ off + cap * ti.size ≤ c.size ∧ (m = 1 ∧ g.fz B = off + xs.length * ti.size ∨ m = 2 ∧ g.fz B = 0 ∧ ∀ (i : Nat) (v : Value), c[i]? = some v → one v = true) := by
        have hel : ∀ {s' : Nat}, (∀ x ∈ xs, x.cells.length = s') → s' = ti.size := fun h => by
          have := List.getElem_mem hx0
          rw [← h _ this, hsx _ this]
        rcases hm with rfl | rfl
        · obtain ⟨base', cap', hv', h' | ⟨B, off, s', c, E, hb, h1, h2, h3, h4, h5, h6, h7, h8⟩⟩ := hs.2
          · rw [hvs] at hv'; cases hv'; omega
          · rw [hvs] at hv'; cases hv'
            have := hel h2
            subst this
            exact ⟨B, off, c, E, hb, h5, h7, h8, .inl ⟨rfl, h6⟩⟩
        · rcases hs with ⟨base', h1, hv'⟩ | ⟨B, off, cap', s', c, E, f, hv', h1, h2, h3, h4, h5, h6, h7, _, _, _, h11⟩
          · subst h1; simp at hx0
          · rw [hvs] at hv'; cases hv'
            have := hel h2
            subst this
            exact ⟨B, off, c, E, rfl, h4, h6, h7, .inr ⟨rfl, h5, h11⟩⟩
      obtain ⟨B, off, c, E, rfl, b1, b2, b3, b4⟩ := hblk
      have hmul : (xs.length + ys.length) * ti.size ≤ cap * ti.size := Nat.mul_le_mul_right _ hroom
      rw [Nat.add_mul] at hmul
      have hone : ∀ u ∈ us, u.oneCell' = true := by
        intro u hu
        obtain ⟨j, hj, rfl⟩ := List.getElem_of_mem hu
        have hlt : j < (flat ys).length := by rw [flat_length hsy]; omega
        exact one_cell' (r2 j _ us[j] (List.getElem?_eq_getElem hlt) (by simp)).2
      rw [run_append_in (P := P) (w := w) (ty := o.type) hT ht ht2 hti hroom b2 (by omega) hone f2]
      show NX (a.put o.dst _) _
      let c' : Array Value := (c.toList.take (off + xs.length * ti.size) ++ us ++ c.toList.drop (off + xs.length * ti.size + us.length)).toArray
      let fz' : Nat := if m = 1 then off + (xs.length + ys.length) * ti.size else 0
      let g2 : Gh := ⟨fun D => if D = B then fz' else g.fz D, fun D => if g.own D = some (.slot C.d s) then some (.slot C.d t) else g.own D⟩
      have hrow2 : (w.setRow B c').heap[B]? = some (.cells c' E (0, 0)) := setRow_heap w B c c' E (0, 0) b2
      have hc'sz : c'.size = c.size := by simp only [c', List.size_toArray, List.length_append, List.length_take, List.length_drop, Array.length_toList]; omega
      have hold : ∀ j, j < off + xs.length * ti.size → c'[j]? = c[j]? := by
        intro j hj
        simp only [c', List.getElem?_toArray, List.append_assoc]
        rw [List.getElem?_append_left (by simp; omega), List.getElem?_take, if_pos hj]
        simp
      have hfzle : ∀ D, g.fz D ≤ g2.fz D := fun D => by
        show g.fz D ≤ if D = B then fz' else g.fz D
        split
        · rename_i hD
          subst hD
          rcases b4 with ⟨rfl, h⟩ | ⟨rfl, h, _⟩
          · simp only [fz', if_true, Nat.add_mul]; omega
          · omega
        · exact Nat.le_refl _
      have hkp : Keep g w g2 (w.setRow B c') := by
        refine ⟨by rw [setRow_size]; exact Nat.le_refl _, hfzle, fun D k hk' => ?_, ⟨rfl, rfl, rfl⟩⟩
        by_cases hD : D = B
        · subst hD
          have hk2 : k < off + xs.length * ti.size := by rcases b4 with ⟨_, h⟩ | ⟨_, h, _⟩ <;> omega
          simp only [World.cell?, hrow2, b2, hold k hk2]
        · exact cell?_of_heap (setRow_heap_ne w B c' hD)
      have hsm : ∀ o2, o2 ≠ .slot C.d s → SameOf o2 g w g2 (w.setRow B c') := fun o2 ho2 D hD => by
        have hne : D ≠ B := fun h => by rw [h, b1] at hD; exact ho2 (by simpa using hD.symm)
        refine ⟨?_, ?_, setRow_heap_ne w B c' hne⟩
        · show (if _ then _ else _) = _
          rw [if_neg (by rw [hD]; simpa using ho2)]; exact hD
        · show (if _ then _ else _) = _
          rw [if_neg hne]
      have hBlt := hr.inv.lt b1
      have hinv : Inv g2 (w.setRow B c') := by
        refine ⟨fun D hD => ?_, fun D F j hD => ?_⟩
        · rw [setRow_size] at hD
          have := hr.inv.fresh D hD
          refine ⟨?_, ?_⟩
          · show (if _ then _ else _) = _
            rw [if_neg (by rw [this.1]; simp)]; exact this.1
          · show (if _ then _ else _) = _
            rw [if_neg (by omega)]; exact this.2
        · simp only [g2] at hD
          split at hD
          · cases hD
          · have := hr.inv.cells D F j hD
            show (if _ then _ else _) = _
            rw [if_neg (by rw [this]; simp)]; exact this
      have hr0 := hr.restS hx hm
      have hr1 : SRel g2 C (upd e s (AV.lst m xs).rest) H a (w.setRow B c') := by
        refine ⟨hinv, fun D b hb => ?_, hr.defers, hr.size, fun u hu => ?_⟩
        · obtain ⟨h1, h2⟩ := hr.heap D b hb
          exact ⟨(hsm .blk (by simp) D h1).1, h2.keep hkp (hsm _ (by simp)) h1 fun i => hsm _ (by simp)⟩
        · obtain ⟨u', q1, q2⟩ := hr0.slots u hu
          refine ⟨u', q1, ?_⟩
          by_cases hus : u = s
          · subst hus
            simp only [upd, if_pos rfl] at q2 ⊢
            rcases hm with rfl | rfl
            · exact rep_slot (Rep.keep hkp q2)
            · exact .und _
          · exact q2.keep hkp (hsm _ (by simp [hus]))
      have hlenvs : (vs ++ us).length = (xs.length + ys.length) * ti.size := by rw [List.length_append, l1, l2, Nat.add_mul]
      have hnew : ∀ (j : Nat) (u : Value), (vs ++ us)[j]? = some u → c'[off + j]? = some u := by
        intro j u hj
        by_cases hjl : j < vs.length
        · rw [List.getElem?_append_left hjl] at hj
          rw [hold _ (by omega)]
          have := c1 B off rfl j u hj
          simp only [World.cell?, b2] at this
          simpa using this
        · rw [List.getElem?_append_right (by omega)] at hj
          have hlt := lt_of_getElem? hj
          simp only [c', List.getElem?_toArray, List.append_assoc]
          rw [List.getElem?_append_right (by simp; omega), List.getElem?_append_left (by simp; omega)]
          have e1 : off + j - (c.toList.take (off + xs.length * ti.size)).length = j - vs.length := by simp; omega
          rw [e1]; exact hj
      have hr2 : SRel g2 C (dput (upd e s (AV.lst m xs).rest) o.dst (.lst m (xs ++ ys))) H (a.put o.dst (.slice (some ⟨B, off, none⟩) (xs.length + ys.length) cap)) (w.setRow B c') := by
        refine hr1.put' hd fun t' ht' => ?_
        rw [hdst] at ht'
        cases ht'
        have hown2 : g2.own B = some (.slot C.d t) := by show (if _ then _ else _) = _; rw [if_pos b1]
        have hfz2 : g2.fz B = fz' := by show (if _ then _ else _) = _; rw [if_pos rfl]
        have hlen2 : xs.length + ys.length = (xs ++ ys).length := by simp
        rw [hlen2]
        rcases b4 with ⟨rfl, h⟩ | ⟨rfl, h, hones⟩
        · refine ⟨.lst (xs ++ ys) B off _ cap ti.size (fun j => (vs ++ us).getD j undef) rfl (by rw [← hlen2]; exact hroom) hsz hsxy (by rw [hfz2, ← hlen2]; simp [fz']) (fun j x hj => ?_) (fun j x hj => ?_) (fun j x hj => ?_),
            _, cap, rfl, .inr ⟨B, off, ti.size, c', E, rfl, hsz, hsxy, by omega, by omega, hown2, by rw [hfz2, ← hlen2]; simp [fz'], hrow2, by rw [hc'sz]; exact b3⟩⟩
          · obtain ⟨u, k1, k2, k3⟩ := hcells j x hj
            simp only [World.cell?, hrow2]
            simp only [List.getD, k1, Option.getD_some]
            simpa using hnew j u k1
          · obtain ⟨u, k1, k2, k3⟩ := hcells j x hj
            simp [List.getD, k1, k2]
          · obtain ⟨u, k1, k2, k3⟩ := hcells j x hj
            simp only [List.getD, k1, Option.getD_some]
            exact k3.keep hkp
        · refine .inr ⟨B, off, cap, ti.size, c', E, fun j => (vs ++ us).getD j undef, rfl, hsz, hsxy, by omega, hown2, by rw [hfz2]; simp [fz'], hrow2, by rw [hc'sz]; exact b3, by omega, fun j x hj => ?_, fun j x hj => ?_, fun j v hv => ?_⟩
          · obtain ⟨u, k1, k2, k3⟩ := hcells j x hj
            refine ⟨?_, by simp [List.getD, k1, k2]⟩
            simp only [List.getD, k1, Option.getD_some]
            exact hnew j u k1
          · obtain ⟨u, k1, k2, k3⟩ := hcells j x hj
            simp only [List.getD, k1, Option.getD_some]
            exact k3.keep hkp
          · have hv' : v ∈ c'.toList := by
              obtain ⟨hl, he⟩ := Array.getElem?_eq_some_iff.1 hv
              rw [← he]; simp
            simp only [c', List.mem_append] at hv'
            have hc0 : ∀ v ∈ c.toList, one v = true := fun v hv => by
              obtain ⟨k, hk, he⟩ := List.getElem_of_mem hv
              exact hones k v (by rw [← he]; simp at hk ⊢)
            rcases hv' with (h1 | h1) | h1
            · exact hc0 v (List.mem_of_mem_take h1)
            · obtain ⟨k, hk, rfl⟩ := List.getElem_of_mem h1
              have hfl : k < (flat ys).length := by rw [flat_length hsy]; omega
              exact (r2 k _ us[k] (List.getElem?_eq_getElem hfl) (by simp)).2
            · exact hc0 v (List.mem_of_mem_drop h1)
      have hguar : Guar C.d H H g w g2 (w.setRow B c') := by
        refine ⟨hkp, fun D o2 hD hf => ?_⟩
        have hne : o2 ≠ .slot C.d s := fun h => hf (by subst h; exact Nat.le_refl _)
        obtain ⟨q1, q2, q3⟩ := hsm o2 hne D hD
        exact ⟨q1, hf, q2, q3⟩
      refine hNX g2 _ _ _ H hguar hr2 ?_
      rw [hdst]; exact hk

end
end Go.Ab

/- Ab.Ops7: calls, and the bodies of functions. -/
namespace Go.Ab

section
variable {P : Program} {T : Types} {C : Cx} {e : Env} {H : Hp} {g : Gh} {w : World} {a : Act}

/-- A call of function f at these values, with these blocks: what holds of its value, and of the blocks behind it. -/
def ACalls (P : Program) (f : FuncId) (xs : List AV) (H : Hp) (K : AV → Hp → Prop) : Prop :=
  (∃ fn, P.funcs[f]? = some fn ∧ fn.body.isNone = false ∧ (fn.name == "runtime.NumGoroutine") = false) ∧
  ∀ (d : Nat) (g : Gh) (w : World) (vs : Array Value), Inv g w → HRel g w H → vs.size = xs.length → (∀ (i : Nat) (x : AV) (v : Value), xs[i]? = some x → vs[i]? = some v → SlotRep g w (.slot (d + 1) i) x v) →
    Calls P f vs w (fun en w' => ∃ (g' : Gh) (x : AV) (v : Value) (H' : Hp) (t : Nat), en = .returned v ∧ Guar (d + 1) H H' g w g' w' ∧ Inv g' w' ∧ HRel g' w' H' ∧ SlotRep g' w' (.slot (d + 1) t) x v ∧ K x H')

theorem ACalls.mono {f : FuncId} {xs : List AV} {K K' : AV → Hp → Prop} (h : ACalls P f xs H K) (hk : ∀ x H, K x H → K' x H) : ACalls P f xs H K' :=
  ⟨h.1, fun d g w vs h1 h2 h3 h4 => (h.2 d g w vs h1 h2 h3 h4).mono fun _ _ ⟨g', x, v, H', t, k1, k2, k3, k4, k5, k6⟩ => ⟨g', x, v, H', t, k1, k2, k3, k4, k5, hk _ _ k6⟩⟩

theorem Guar.depth {d : Nat} {H H' : Hp} {g g' : Gh} {w w' : World} (h : Guar (d + 1) H H' g w g' w') : Guar d H H' g w g' w' := by
  refine ⟨h.keep, fun B o ho hf => ?_⟩
  have hf1 : ¬ Foot (d + 1) H B o := fun h1 => hf (by cases o <;> first | exact h1 | exact Nat.le_of_succ_le h1)
  obtain ⟨k1, k2, k3, k4⟩ := h.prot B o ho hf1
  exact ⟨k1, fun h1 => by cases o <;> first | exact k2 h1 | exact hf h1, k3, k4⟩

theorem SRel.called (hr : SRel g C e H a w) {H' : Hp} {g' : Gh} {w' : World} (hg : Guar (C.d + 1) H H' g w g' w') (hi : Inv g' w') (hh : HRel g' w' H') : SRel g' C e H' a w' := by
  refine ⟨hi, hh, hr.defers, hr.size, fun t ht => ?_⟩
  obtain ⟨v, h1, h2⟩ := hr.slots t ht
  refine ⟨v, h1, h2.keep hg.keep fun B hB => ?_⟩
  obtain ⟨k1, _, k3, k4⟩ := hg.prot B _ hB (fun h => by have : C.d + 1 ≤ C.d := h; omega)
  exact ⟨k1, k3, k4⟩

theorem AOp_call0 {ops : Array Oper} {i : Nat} {o : Oper} (hi : ops[i]? = some o) (hw : ∀ g a w, SRel g C e H a w → Region.wanted o (yielded ops a.tmps) = true) (hd : dstOk C.nt o.dst = true) {F : Operand} {as : Array Operand} {ts : Array TypeId}
    (ho : o.op = .call { callee := .value F, args := as, argTypes := ts }) {f : FuncId} {fi ca : Array Value} (hF : arg e F = some (true, .sc (.func (.func f) fi ca))) (hone : ∀ v ∈ fi.toList ++ ca.toList, one v = true)
    {xs : List AV} (hx : args e as.toList = some (true, xs)) {K : Env → Hp → Prop} {Kx : Exit → Env → Hp → Prop}
    (hc : ACalls P f (fi.toList.map AV.sc ++ xs ++ ca.toList.map AV.sc) H (fun x H' => ∃ y, (∀ g w o v, SlotRep g w o x v → SlotRep g w o y v) ∧ K (dput e o.dst y) H')) : AOp P C ops i K Kx e H := by
  intro g a w hr NX Q hNX _
  obtain ⟨⟨fn, q1, q2, q3⟩, hc⟩ := hc
  have hFv := (arg_sc hr.cslots hF rfl).1
  obtain ⟨l1, l2⟩ := args_sound hr.cslots as.toList true xs hx rfl
  have hcall := hc C.d g w (fi ++ as.map a.eval ++ ca) hr.inv hr.heap (by simp [l1]) (fun j x v hx' hv => by
    by_cases j1 : j < fi.size
    · rw [List.append_assoc, List.getElem?_append_left (by simpa using j1), List.getElem?_map] at hx'
      rw [Array.append_assoc, Array.getElem?_append_left j1] at hv
      simp only [Array.getElem?_toList, Option.map_eq_some_iff] at hx'
      obtain ⟨u, hu, rfl⟩ := hx'
      rw [hu] at hv
      cases hv
      exact .sc _ (hone _ (List.mem_append_left _ (List.mem_of_getElem? (i := j) (by simpa using hu))))
    · rw [List.append_assoc, List.getElem?_append_right (by simpa using Nat.le_of_not_lt j1)] at hx'
      rw [Array.append_assoc, Array.getElem?_append_right (Nat.le_of_not_lt j1)] at hv
      simp only [List.length_map, Array.length_toList] at hx'
      by_cases j2 : j - fi.size < xs.length
      · rw [List.getElem?_append_left j2] at hx'
        rw [Array.getElem?_append_left (by simp; simp at l1; omega)] at hv
        simp only [Array.getElem?_map, Option.map_eq_some_iff] at hv
        obtain ⟨X, hX, rfl⟩ := hv
        exact rep_slot (l2 _ x X hx' (by simpa using hX))
      · rw [List.getElem?_append_right (by omega), List.getElem?_map] at hx'
        rw [Array.getElem?_append_right (by simp; simp at l1; omega)] at hv
        have e1 : j - fi.size - (as.map a.eval).size = j - fi.size - xs.length := by simp; simp at l1; omega
        rw [e1] at hv
        simp only [Array.getElem?_toList, Option.map_eq_some_iff] at hx'
        obtain ⟨u, hu, rfl⟩ := hx'
        rw [hu] at hv
        cases hv
        exact .sc _ (hone _ (List.mem_append_right _ (List.mem_of_getElem? (i := j - fi.size - xs.length) (by simpa using hu)))))
  unfold wpOp
  simp only [hi, hw g a w hr, if_true]
  left
  unfold Oper.wp
  have hrun : (execOp a.eval o).run P w = .ok (.enter f (fi ++ as.map a.eval ++ ca)) w := by
    simp only [execOp, ho, resolve, hFv, Deferred.ofValue, Sem.run_bind, Sem.run_pure, Result.andThen_ok, invoke, callFunc, run_program, q1, q2, q3]
    simp
  rw [hrun]
  show Calls P f _ w _
  refine hcall.mono fun en w' ⟨g', x, v, H', t, k1, k2, k3, k4, k5, y, hy, k6⟩ => ?_
  subst k1
  show NX (a.put o.dst v) w'
  have hr1 := hr.called k2 k3 k4
  have hkp := moveG_keep (g := g') (w := w') (.slot (C.d + 1) t) (.slot C.d (o.dst.getD 0))
  have hsm := fun o2 (hne : o2 ≠ .slot (C.d + 1) t) => moveG_same (g := g') (w := w') (o' := .slot C.d (o.dst.getD 0)) hne
  have hr2 : SRel (moveG g' (.slot (C.d + 1) t) (.slot C.d (o.dst.getD 0))) C e H' a w' := by
    refine ⟨moveG_inv k3 (fun _ _ h => by cases h), fun B b hb => ?_, hr.defers, hr.size, fun u hu => ?_⟩
    · obtain ⟨h1, h2⟩ := k4 B b hb
      exact ⟨(hsm .blk (by simp) B h1).1, h2.keep hkp (hsm _ (by simp)) h1 fun i => hsm _ (by simp)⟩
    · obtain ⟨u', q1, q2⟩ := hr1.slots u hu
      exact ⟨u', q1, q2.keep hkp (hsm _ (by simp))⟩
  refine hNX _ _ w' (dput e o.dst y) H' (k2.depth.trans ?_) (hr2.put' hd fun t' ht' => ?_) k6
  · refine ⟨hkp, fun B o2 hB hf => ?_⟩
    have hne : o2 ≠ .slot (C.d + 1) t := fun h => hf (by subst h; exact Nat.le_succ _)
    obtain ⟨h1, h2, h3⟩ := hsm o2 hne B hB
    exact ⟨h1, hf, h2, h3⟩
  · rw [ht']
    exact moveG_slot (hy _ _ _ _ k5)

theorem AOp_call {ops : Array Oper} {i : Nat} {o : Oper} (hi : ops[i]? = some o) (hg : o.guard = none) (hd : dstOk C.nt o.dst = true) {F : Operand} {as : Array Operand} {ts : Array TypeId}
    (ho : o.op = .call { callee := .value F, args := as, argTypes := ts }) {f : FuncId} {fi ca : Array Value} (hF : arg e F = some (true, .sc (.func (.func f) fi ca))) (hone : ∀ v ∈ fi.toList ++ ca.toList, one v = true)
    {xs : List AV} (hx : args e as.toList = some (true, xs)) {K : Env → Hp → Prop} {Kx : Exit → Env → Hp → Prop}
    (hc : ACalls P f (fi.toList.map AV.sc ++ xs ++ ca.toList.map AV.sc) H (fun x H' => K (dput e o.dst x) H')) : AOp P C ops i K Kx e H :=
  AOp_call0 hi (fun _ _ _ _ => by simp [Region.wanted, hg]) hd ho hF hone hx (hc.mono fun x H h => ⟨x, fun _ _ _ _ h => h, h⟩)

/-- A call under a guard that holds. -/
theorem AOp_callG {ops : Array Oper} {i : Nat} {o : Oper} (hi : ops[i]? = some o) {j : Nat} {want : Bool} (hg : o.guard = some (j, want)) (hG : guardOf ops e j want = some true) (hd : dstOk C.nt o.dst = true) {F : Operand} {as : Array Operand} {ts : Array TypeId}
    (ho : o.op = .call { callee := .value F, args := as, argTypes := ts }) {f : FuncId} {fi ca : Array Value} (hF : arg e F = some (true, .sc (.func (.func f) fi ca))) (hone : ∀ v ∈ fi.toList ++ ca.toList, one v = true)
    {xs : List AV} (hx : args e as.toList = some (true, xs)) {K : Env → Hp → Prop} {Kx : Exit → Env → Hp → Prop}
    (hc : ACalls P f (fi.toList.map AV.sc ++ xs ++ ca.toList.map AV.sc) H (fun x H' => x.frzn = true ∧ K (dput e o.dst (.may true x.strip2)) H')) : AOp P C ops i K Kx e H :=
  AOp_call0 hi (fun _ _ _ hr => guard_sound hr hg hG) hd ho hF hone hx (hc.mono fun x H h => ⟨.may true x.strip2, fun _ _ _ _ hs => Rep.may _ _ _ (fun _ => slot_rep2 hs h.1) (fun h => by cases h), h.2⟩)

/-- The slots of arguments. -/
def argL : Nat → List AV → List (Nat × AV)
  | _, [] => []
  | n, x :: xs => (n, x) :: argL (n + 1) xs

theorem ofL_argL : ∀ (xs : List AV) (n t : Nat), ofL (argL n xs) t = if n ≤ t then (xs[t - n]?).getD .und else .und
  | [], n, t => by simp [argL, ofL]
  | x :: xs, n, t => by
    simp only [argL, ofL]
    rw [ofL_argL xs (n + 1) t]
    by_cases h : t = n
    · subst h; simp
    · rw [if_neg h]
      by_cases h2 : n ≤ t
      · rw [if_pos (by omega), if_pos h2, show t - n = (t - (n + 1)) + 1 by omega]; simp
      · rw [if_neg (by omega), if_neg h2]

/-- One of several results. -/
def ares1 (T : Types) (r : ResultVar) (e : Env) (H : Hp) : Option (Prop × AV) :=
  match r with
  | .tmp t => (arg e (.tmp t)).map fun (b, x) => ((b && x.frzn) = true, x.plain)
  | .cell a t => (apure T (.load t (.tmp a)) e H).map fun (p, x) => (p, x.plain)

def aresN (T : Types) : List ResultVar → Env → Hp → Option (Prop × List AV)
  | [], _, _ => some (True, [])
  | r :: rs, e, H => match ares1 T r e H, aresN T rs e H with
    | some (p, x), some (q, xs) => some (p ∧ q, x :: xs)
    | _, _ => none

/-- What a function hands back. -/
def ares (T : Types) (rs : List ResultVar) (e : Env) (H : Hp) : Option (Prop × AV) :=
  match rs with
  | [.tmp t] => match e t with
    | .lst m xs => some (True, .lst m xs)
    | _ => ares1 T (.tmp t) e H
  | [r] => ares1 T r e H
  | rs => (aresN T rs e H).map fun (p, xs) => (p, .tup xs)

def retQ (T : Types) (rs : List ResultVar) (K : AV → Hp → Prop) (ex : Exit) (e : Env) (H : Hp) : Prop :=
  (ex = .normal ∨ ex = .ret) ∧ ∃ p x H', ares T rs e H = some (p, x) ∧ p ∧ (∀ B b, H' B = some b → H B = some b) ∧ K x H'

/-- How the model reads one result. -/
def readRes (a : Act) : ResultVar → Sem Value
  | .tmp t => pure (a.tmps.getD t undef)
  | .cell b t => do loadVar t (← asAddr (a.tmps.getD b undef))

theorem ares1_sound (hT : TOk P T) (hr : SRel g C e H a w) {r : ResultVar} {p : Prop} {x : AV} (h : ares1 T r e H = some (p, x)) (hp : p) :
    ∃ v, (readRes a r).run P w = .ok v w ∧ Rep g w x v := by
  cases r with
  | tmp t =>
    simp only [ares1, Option.map_eq_some_iff, Prod.mk.injEq] at h
    obtain ⟨⟨b, y⟩, h1, rfl, rfl⟩ := h
    simp only [Bool.and_eq_true] at hp
    obtain ⟨o, ho⟩ := arg_sound hr.cslots h1 hp.1
    exact ⟨a.eval (.tmp t), rfl, slot_plain ho hp.2⟩
  | cell b t =>
    simp only [ares1, Option.map_eq_some_iff, Prod.mk.injEq] at h
    obtain ⟨⟨q, y⟩, h1, rfl, rfl⟩ := h
    obtain ⟨v, h2, h3⟩ := apure_sound (P := P) (a := a) hT hr.heap hr.cslots (o := { dst := none, op := .load t (.tmp b), type := 0, pos := "", after := #[], guard := none }) h1 hp
    refine ⟨v, ?_, rep_plain h3⟩
    have hv : (Instr.loadAt t (a.eval (.tmp b))).run P w = .ok v w := by
      simp only [execOp, Sem.run_bind] at h2
      cases hl : (Instr.loadAt t (a.eval (.tmp b))).run P w with
      | ok u w1 => rw [hl] at h2; simp only [Result.andThen_ok, Sem.run_pure, Result.ok.injEq, Next.value.injEq] at h2; rw [h2.1, h2.2]
      | halt x w1 => rw [hl] at h2; cases h2
    have hev : a.eval (.tmp b) = a.tmps.getD b undef := rfl
    rw [hev] at hv
    simp only [Instr.loadAt, Instr.sureAddr] at hv
    simp only [readRes]
    generalize a.tmps.getD b undef = u at *
    cases u with
    | pointer ad => cases ad with
      | none => simp [stuck, Sem.run] at hv
      | some ad => simpa [asAddr] using hv
    | _ => simp [stuck, Sem.run] at hv

theorem aresN_sound (hT : TOk P T) (hr : SRel g C e H a w) : ∀ (rs : List ResultVar) {p : Prop} {xs : List AV}, aresN T rs e H = some (p, xs) → p →
    ∃ vs : List Value, (rs.mapM (readRes a)).run P w = .ok vs w ∧ vs.length = xs.length ∧ xs.length = rs.length ∧
      ∀ (i : Nat) (x : AV) (v : Value), xs[i]? = some x → vs[i]? = some v → Rep g w x v
  | [], p, xs, h, _ => by simp only [aresN, Option.some.injEq, Prod.mk.injEq] at h; obtain ⟨_, rfl⟩ := h; exact ⟨[], by simp [List.mapM_nil], rfl, rfl, by simp⟩
  | r :: rs, p, xs, h, hp => by
    simp only [aresN] at h
    split at h
    · rename_i p1 x q xs' h1 h2
      simp only [Option.some.injEq, Prod.mk.injEq] at h
      obtain ⟨rfl, rfl⟩ := h
      obtain ⟨v, k1, k2⟩ := ares1_sound hT hr h1 hp.1
      obtain ⟨vs, m1, m2, m3, m4⟩ := aresN_sound hT hr rs h2 hp.2
      refine ⟨v :: vs, by simp only [List.mapM_cons, Sem.run_bind, k1, Result.andThen_ok, m1, Sem.run_pure], by simp [m2], by simp [m3], fun i y u hy hu => ?_⟩
      cases i with
      | zero => simp at hy hu; subst hy hu; exact k2
      | succ i => exact m4 i y u (by simpa using hy) (by simpa using hu)
    · cases h

theorem run_results_list (fn : Func) (a : Act) {vs : List Value} (h : (fn.results.toList.mapM (readRes a)).run P w = .ok vs w) :
    (results fn a.tmps).run P w = .ok (if h : vs.toArray.size = 1 then vs.toArray[0] else .tuple vs.toArray) w := by
  have e1 : (fn.results.mapM (readRes a)).run P w = .ok vs.toArray w := by
    rw [Array.mapM_eq_mapM_toList]
    simp [h]
  have e2 : results fn a.tmps = (do let us ← fn.results.mapM (readRes a); pure (if h : us.size = 1 then us[0] else .tuple us)) := by
    unfold results
    congr 1
  rw [e2, Sem.run_bind, e1]
  rfl

theorem ares_sound (hT : TOk P T) (hr : SRel g C e H a w) (fn : Func) {p : Prop} {x : AV} (h : ares T fn.results.toList e H = some (p, x)) (hp : p) :
    ∃ v t, (results fn a.tmps).run P w = .ok v w ∧ SlotRep g w (.slot C.d t) x v := by
  have single : ∀ {r : ResultVar} {x : AV} {p : Prop}, fn.results.toList = [r] → ares1 T r e H = some (p, x) → p → ∃ v t, (results fn a.tmps).run P w = .ok v w ∧ SlotRep g w (.slot C.d t) x v := by
    intro r x p hl h hp
    obtain ⟨v, k1, k2⟩ := ares1_sound hT hr h hp
    refine ⟨v, 0, ?_, rep_slot k2⟩
    have := run_results_list (P := P) (w := w) fn a (vs := [v]) (by rw [hl]; simp only [List.mapM_cons, List.mapM_nil, Sem.run_bind, k1, Result.andThen_ok, Sem.run_pure])
    simpa using this
  unfold ares at h
  split at h
  · rename_i t hl
    split at h
    · rename_i m xs hx
      cases h
      obtain ⟨v, k1, k2⟩ := hr.slots t (by rw [hx]; simp)
      rw [hx] at k2
      refine ⟨v, t, ?_, k2⟩
      have := run_results_list (P := P) (w := w) fn a (vs := [v]) (by rw [hl]; simp [List.mapM_cons, List.mapM_nil, k1, readRes])
      simpa using this
    · exact single hl h hp
  · rename_i r _ hl
    exact single hl h hp
  · rename_i n1 n2
    simp only [Option.map_eq_some_iff, Prod.mk.injEq] at h
    obtain ⟨⟨q, xs⟩, h1, rfl, rfl⟩ := h
    obtain ⟨vs, m1, m2, m3, m4⟩ := aresN_sound hT hr _ h1 hp
    refine ⟨.tuple vs.toArray, 0, ?_, rep_slot (.tup xs vs.toArray (by simpa using m2) fun i x v hx hv => m4 i x v hx (by simpa using hv))⟩
    have := run_results_list (P := P) (w := w) fn a m1
    rw [this, dif_neg]
    intro hsz
    have hlen : fn.results.toList.length = 1 := by rw [← m3, ← m2]; simpa using hsz
    obtain ⟨r, hr'⟩ := List.length_eq_one_iff.1 hlen
    exact n2 r hr'

/-- A function's body, from its arguments on. -/
theorem ACalls_body (hT : TOk P T) {f : FuncId} {fn : Func} {c : Code} {xs : List AV} {K : AV → Hp → Prop} (hf : P.funcs[f]? = some fn) (hb : fn.body = some c) (hn : (fn.name == "runtime.NumGoroutine") = false)
    (h : ∀ d, AWp P ⟨d + 1, [], fn.ntmps⟩ c (retQ T fn.results.toList K) (ofL (argL 0 xs)) H) : ACalls P f xs H K := by
  refine ⟨⟨fn, hf, by rw [hb]; rfl, hn⟩, fun d g w vs hi hh hl hv => ?_⟩
  refine calls_of_wp hf hb (wp_mono (h d g { tmps := vs ++ Array.replicate (fn.ntmps - vs.size) undef, defers := [] } w ⟨hi, hh, rfl, by simp; omega, fun t ht => ?_⟩) ?_)
  · rw [ofL_argL] at ht ⊢
    simp only [Nat.zero_le, if_true, Nat.sub_zero] at ht ⊢
    cases hx : xs[t]? with
    | none => rw [hx] at ht; exact absurd rfl ht
    | some x =>
      have hlt := lt_of_getElem? hx
      rw [← hl] at hlt
      refine ⟨vs[t], by rw [Array.getElem?_append_left hlt]; simp, ?_⟩
      exact hv t x _ hx (by simp)
  · rintro ex a' w' ⟨g', e', H', k1, k2, hex, p, x, H2, k3, k4, k5, k6⟩
    obtain ⟨v, t, r1, r2⟩ := ares_sound hT k2 fn k3 k4
    have hfin : a'.defers = [] ∧ ∃ v, (results fn a'.tmps).run P w' = .ok v w' ∧ ∃ (g' : Gh) (x : AV) (v' : Value) (H' : Hp) (t : Nat), Ending.returned v = .returned v' ∧ Guar (d + 1) H H' g w g' w' ∧ Inv g' w' ∧ HRel g' w' H' ∧ SlotRep g' w' (.slot (d + 1) t) x v' ∧ K x H' :=
      ⟨k2.defers, v, r1, g', x, v, H2, t, rfl, k1.trans (Guar.weak k5), k2.inv, fun B b hB => k2.heap B b (k5 B b hB), r2, k6⟩
    rcases hex with rfl | rfl
    · exact hfin
    · exact hfin

end
end Go.Ab

/- Ab.Ops8: a load that takes the token of its cell along; calls under a guard. -/
namespace Go.Ab
section
variable {P : Program} {T : Types} {C : Cx} {e : Env} {H : Hp} {g : Gh} {w : World} {a : Act}

theorem foot_hset {d : Nat} {B D : Nat} {b : AB} {o : Owner} (hB : H B ≠ none) (h : ¬ Foot d H D o) : ¬ Foot d (hset H B b) D o := by
  intro hf
  refine h ?_
  cases o with
  | blk =>
    intro hn
    refine hf ?_
    have hne : D ≠ B := fun h => hB (h ▸ hn)
    simp [Ab.hset, hne, hn]
  | cell F i =>
    intro hn
    refine hf ?_
    have hne : F ≠ B := fun h => hB (h ▸ hn)
    simp [Ab.hset, hne, hn]
  | slot d' t => exact hf

theorem AOp_loadTok (hT : TOk P T) {ops : Array Oper} {i : Nat} {o : Oper} (hi : ops[i]? = some o) (hg : o.guard = none) {s : Nat} (hdst : o.dst = some s) (hd : dstOk C.nt o.dst = true) {t : TypeId} {A : Operand} (ho : o.op = .load t A) {ti : TI} (ht : T t = some ti)
    (hag : ti.agg = false) {B off : Nat} (hA : arg e A = some (true, .sc (.pointer (some ⟨B, off, none⟩)))) {cs : List AV} (hB : H B = some (.cells cs)) {m : Nat} {xs : List AV} (hX : cs[off]? = some (.lst m xs)) (hm : m = 1 ∨ m = 2)
    {K : Env → Hp → Prop} {Kx : Exit → Env → Hp → Prop} (hk : K (upd e s (.lst m xs)) (hset H B (.cells (cs.take off ++ [(AV.lst m xs).rest] ++ cs.drop (off + 1))))) : AOp P C ops i K Kx e H := by
  intro g a w hr NX Q hNX _
  have hpA := (arg_sc hr.cslots hA rfl).1
  obtain ⟨hown, c, E, k1, k2, k3, k4⟩ := hr.heap B _ hB
  have hlt := hr.heap.lt hr.inv (B := B) (by rw [hB]; simp)
  have hoff := lt_of_getElem? hX
  have hoffc : off < c.size := by omega
  have hv0 : c[off]? = some c[off] := Array.getElem?_eq_getElem hoffc
  obtain ⟨hs, hone⟩ := k4 off _ _ hX hv0
  have hkp := moveG_keep (g := g) (w := w) (.cell B off) (.slot C.d s)
  have hsm := fun o2 (hne : o2 ≠ .cell B off) => moveG_same (g := g) (w := w) (o' := .slot C.d s) hne
  have hBn : H B ≠ none := by rw [hB]; simp
  have hguar : Guar C.d H (hset H B (.cells (cs.take off ++ [(AV.lst m xs).rest] ++ cs.drop (off + 1)))) g w (moveG g (.cell B off) (.slot C.d s)) w := by
    refine ⟨hkp, fun D o2 hD hf => ?_⟩
    have hne : o2 ≠ .cell B off := fun h => hf (by subst h; exact hBn)
    obtain ⟨h1, h2, h3⟩ := hsm o2 hne D hD
    exact ⟨h1, foot_hset hBn hf, h2, h3⟩
  have hr1 : SRel (moveG g (.cell B off) (.slot C.d s)) C e (hset H B (.cells (cs.take off ++ [(AV.lst m xs).rest] ++ cs.drop (off + 1)))) a w := by
    refine ⟨moveG_inv hr.inv (fun _ _ h => by cases h), fun D b hb => ?_, hr.defers, hr.size, fun u hu => ?_⟩
    · unfold Ab.hset at hb
      split at hb
      · rename_i h
        subst h
        cases hb
        refine ⟨(hsm .blk (by simp) D hown).1, c, E, k1, by rw [k2]; simp; omega, k3, fun j x v hx hv => ?_⟩
        rcases Nat.lt_trichotomy j off with hj | hj | hj
        · rw [List.append_assoc, List.getElem?_append_left (by simp; omega), List.getElem?_take_of_lt hj] at hx
          obtain ⟨q1, q2⟩ := k4 j x v hx hv
          exact ⟨q1.keep hkp (hsm _ (by simp; omega)), q2⟩
        · subst hj
          rw [List.append_assoc, List.getElem?_append_right (by simp; omega)] at hx
          simp only [List.length_take, Nat.min_eq_left (Nat.le_of_lt hoff), Nat.sub_self, List.cons_append, List.nil_append, List.getElem?_cons_zero, Option.some.injEq] at hx
          subst hx
          obtain ⟨q1, q2⟩ := k4 j _ v hX hv
          exact ⟨rep_slot ((rest_rep q1 hm).keep hkp), q2⟩
        · rw [List.getElem?_append_right (by simp; omega)] at hx
          simp only [List.length_append, List.length_take, Nat.min_eq_left (Nat.le_of_lt hoff), List.length_cons, List.length_nil] at hx
          rw [List.getElem?_drop, show off + 1 + (j - (off + (0 + 1))) = j from by omega] at hx
          obtain ⟨q1, q2⟩ := k4 j x v hx hv
          exact ⟨q1.keep hkp (hsm _ (by simp; omega)), q2⟩
      · rename_i hne
        obtain ⟨h1, h2⟩ := hr.heap D b hb
        exact ⟨(hsm .blk (by simp) D h1).1, h2.keep hkp (hsm _ (by simp)) h1 fun j => hsm _ (by simp [hne])⟩
    · obtain ⟨v, h1, h2⟩ := hr.slots u hu
      exact ⟨v, h1, h2.keep hkp (hsm _ (by simp))⟩
  have hcell : w.cell? ⟨B, off, none⟩ = some c[off] := by
    simp only [World.cell?, k1]
    simp [hoffc]
  have hrun := run_loadVar_one (P := P) (w := w) (hT.fact ht) hag hcell
  unfold wpOp
  simp only [hi, Region.wanted, hg, if_true]
  left
  unfold Oper.wp
  rw [show (execOp a.eval o).run P w = .ok (.value c[off]) w from by simp [execOp, ho, Instr.loadAt, hpA, Instr.sureAddr, hrun]]
  show NX (a.put o.dst c[off]) w
  refine hNX _ _ _ _ _ hguar (hr1.put' hd fun t' ht' => by rw [hdst] at ht'; cases ht'; exact moveG_slot hs) ?_
  rw [hdst]; exact hk

end
end Go.Ab

/- Ab.Step: one operation, as a function that simp opens; a region that keeps its order. -/
namespace Go.Ab

/-- How a slot is read: by taking its token, or by a copy. -/
def moveK : AV → Bool → Nat → Option Tmp → (Env → Hp → Prop) → Env → Hp → Prop
  | .lst 1 xs, true, s, dst, K, e, H => K (dput (upd e s (.lst 0 xs)) dst (.lst 1 xs)) H
  | .lst 1 xs, false, _, dst, K, e, H => K (dput e dst (.lst 0 xs)) H
  | .lst 2 xs, true, s, dst, K, e, H => K (dput (upd e s .und) dst (.lst 2 xs)) H
  | .lst 2 xs, false, s, dst, K, e, H => K (dput (upd e s (.lst 1 xs)) dst (.lst 0 xs)) H
  | .may b x, _, _, dst, K, e, H => (b && x.frzn) = true ∧ K (dput e dst x.strip2) H
  | .lst 0 xs, _, _, dst, K, e, H => K (dput e dst (.lst 0 xs)) H
  | .sc v, _, _, dst, K, e, H => K (dput e dst (.sc v)) H
  | .agg v, _, _, dst, K, e, H => K (dput e dst (.agg v)) H
  | .tup v, _, _, dst, K, e, H => K (dput e dst (.tup v)) H
  | .ref v, _, _, dst, K, e, H => K (dput e dst (.ref v)) H
  | .und, _, _, dst, K, e, H => K (dput e dst .und) H
  | .lst (_ + 3) _, _, _, _, _, _, _ => False

def pureK : Option (Prop × AV) → Option Tmp → (Env → Hp → Prop) → Env → Hp → Prop
  | some (p, x), dst, K, e, H => p ∧ K (dput e dst x) H
  | none, _, _, _, _ => False

/-- A block made, and its address handed back. -/
def newK (dst : Option Tmp) (K : Env → Hp → Prop) (e : Env) (H : Hp) (cs : List AV) (B : Nat) : Prop := K (dput e dst (.sc (.pointer (some ⟨B, 0, none⟩)))) (hset H B (.cells cs))

def allocK : Option TI → Option Tmp → (Env → Hp → Prop) → Env → Hp → Prop
  | some ti, dst, K, e, H => ∀ B, H B = none → newK dst K e H ((ti.zero.map aval).map AV.kept) B
  | none, _, _, _, _ => False

def boxK : Option (Bool × AV) → Option Tmp → (Env → Hp → Prop) → Env → Hp → Prop
  | some (b, x), dst, K, e, H => (b && x.frzn && x.good) = true ∧ ∀ B, H B = none → newK dst K e H (x.strip.cells.map AV.kept) B
  | none, _, _, _, _ => False

def storeP : Option TI → Option AB → Nat → Nat → Option (Bool × AV) → (Env → Hp → Prop) → Env → Hp → Prop
  | some ti, some (.cells cs), B, off, some (b, x), K, e, H => (b && x.good && x.frzn) = true ∧ x.cells.length = ti.size ∧ off + ti.size ≤ cs.length ∧ K e (hset H B (.cells (cs.take off ++ x.kept.cells ++ cs.drop (off + ti.size))))
  | _, _, _, _, _, _, _, _ => False

def storeT : Option TI → Option AB → Nat → Nat → Nat → List AV → (Env → Hp → Prop) → Env → Hp → Prop
  | some ti, some (.cells cs), B, off, s, xs, K, e, H => ti.size = 1 ∧ off + 1 ≤ cs.length ∧ K (upd e s (.lst 0 xs)) (hset H B (.cells (cs.take off ++ [.lst 1 xs] ++ cs.drop (off + 1))))
  | _, _, _, _, _, _, _, _, _ => False

/-- A store of a slot's value. -/
def storeS : AV → Option TI → Option AB → Nat → Nat → Nat → (Env → Hp → Prop) → Env → Hp → Prop
  | .lst 1 xs, ti, b, B, off, s, K, e, H => storeT ti b B off s xs K e H
  | .lst 2 xs, ti, b, B, off, s, K, e, H => storeT ti b B off s xs K e H
  | .lst 0 xs, ti, b, B, off, _, K, e, H => storeP ti b B off (some (true, .lst 0 xs)) K e H
  | .sc v, ti, b, B, off, _, K, e, H => storeP ti b B off (some (true, .sc v)) K e H
  | .agg v, ti, b, B, off, _, K, e, H => storeP ti b B off (some (true, .agg v)) K e H
  | .ref v, ti, b, B, off, _, K, e, H => storeP ti b B off (some (true, .ref v)) K e H
  | .may c v, ti, b, B, off, _, K, e, H => storeP ti b B off (some (c, v)) K e H
  | _, _, _, _, _, _, _, _, _ => False

def storeX (ti : Option TI) (b : Option AB) (B off : Nat) : Operand → (Env → Hp → Prop) → Env → Hp → Prop
  | .tmp s, K, e, H => storeS (e s) ti b B off s K e H
  | .const v, K, e, H => storeP ti b B off (arg e (.const v)) K e H
  | .func f, K, e, H => storeP ti b B off (arg e (.func f)) K e H
  | .global _, _, _, _ => False

def storeK (T : Types) (t : TypeId) : Option (Bool × AV) → Operand → (Env → Hp → Prop) → Env → Hp → Prop
  | some (b, .sc (.pointer (some ⟨B, off, none⟩))), X, K, e, H => b = true ∧ storeX (T t) (H B) B off X K e H
  | _, _, _, _, _ => False

def litK (T : Types) (n : Nat) : Option TI → Option (Bool × List (Nat × AV)) → Option Tmp → (Env → Hp → Prop) → Env → Hp → Prop
  | some ⟨_, _, .slice et, _⟩, some (b, qs), dst, K, e, H => ∃ ti, T et = some ti ∧ (b = true ∧ qs.map (·.1) = List.range' 0 n ∧ 0 < ti.size ∧ ti.zero.length = ti.size ∧ n * ti.size ≤ 16777216) ∧ (∀ x ∈ qs.map (·.2), x.cells.length = ti.size) ∧ K (dput e dst (.lst 2 (qs.map (·.2)))) H
  | _, _, _, _, _, _ => False

def appendK (T : Types) : Option TI → Option TI → AV → Option (Bool × AV) → Nat → Nat → (Env → Hp → Prop) → Env → Hp → Prop
  | some ⟨_, _, .slice et, _⟩, some ⟨_, _, .slice _, _⟩, .lst m xs, some (b, .lst _ ys), s, t, K, e, H =>
    ∃ ti, T et = some ti ∧ (b = true ∧ ti.zero.length = ti.size ∧ 0 < ti.size ∧ ti.bytes ≤ 65536) ∧ (m = 1 ∨ m = 2) ∧ (∀ x ∈ xs, x.cells.length = ti.size) ∧ (∀ y ∈ ys, y.cells.length = ti.size) ∧ xs.length + ys.length ≤ 1073741824 ∧
        K (upd (upd e s (AV.lst m xs).rest) t (.lst m (xs ++ ys))) H
  | _, _, _, _, _, _, _, _, _ => False

/-- A list held against nil: where it is empty, both may be. -/
def nilEq : BinOp → Option TI → Option (Bool × AV) → Option (Bool × AV) → Option (Bool × Bool × List AV)
  | .eql, some ⟨_, _, .slice _, _⟩, some (b, .lst _ xs), some (true, .lst 2 []) => some (b, false, xs)
  | .neq, some ⟨_, _, .slice _, _⟩, some (b, .lst _ xs), some (true, .lst 2 []) => some (b, true, xs)
  | _, _, _, _ => none

def anyK (want : Bool) (xs : List AV) (dst : Option Tmp) (K : Env → Hp → Prop) (e : Env) (H : Hp) (r : Bool) : Prop := (xs ≠ [] → r = want) → K (dput e dst (.sc (.bool r))) H

def nilK : Option (Bool × Bool × List AV) → Option (Prop × AV) → Option Tmp → (Env → Hp → Prop) → Env → Hp → Prop
  | some (b, want, xs), _, dst, K, e, H => b = true ∧ ∀ r : Bool, anyK want xs dst K e H r
  | none, r, dst, K, e, H => pureK r dst K e H

def isNil : Operand → Bool
  | .const (.slice none 0 0) => true
  | _ => false

/-- What is done with a call's value. -/
def callK (K : Env → Hp → Prop) (e : Env) (dst : Option Tmp) (x : AV) (H : Hp) : Prop := K (dput e dst x) H

def enterK (P : Program) : Option (Bool × AV) → Option (Bool × List AV) → Option Tmp → (Env → Hp → Prop) → Env → Hp → Prop
  | some (b, .sc (.func (.func f) fi ca)), some (c, xs), dst, K, e, H => (b && c && fi.toList.all one && ca.toList.all one) = true ∧ ACalls P f (fi.toList.map AV.sc ++ xs ++ ca.toList.map AV.sc) H (callK K e dst)
  | _, _, _, _, _, _ => False

def appendA (T : Types) : List Operand → List TypeId → Option Tmp → (Env → Hp → Prop) → Env → Hp → Prop
  | [.tmp s, X], [t1, t2], some t, K, e, H => appendK T (T t1) (T t2) (e s) (arg e X) s t K e H
  | _, _, _, _, _, _ => False

/-- A load from a cell, which takes its token along. -/
def loadC : Option AV → List AV → Nat → Nat → Tmp → (Env → Hp → Prop) → Env → Hp → Prop
  | some (.lst 1 xs), cs, B, off, s, K, e, H => K (upd e s (.lst 1 xs)) (hset H B (.cells (cs.take off ++ [.lst 0 xs] ++ cs.drop (off + 1))))
  | some (.lst 2 xs), cs, B, off, s, K, e, H => K (upd e s (.lst 2 xs)) (hset H B (.cells (cs.take off ++ [.und] ++ cs.drop (off + 1))))
  | _, _, _, _, _, _, _, _ => False

def loadB : Option AB → Nat → Nat → Tmp → (Env → Hp → Prop) → Env → Hp → Prop
  | some (.cells cs), B, off, s, K, e, H => loadC cs[off]? cs B off s K e H
  | _, _, _, _, _, _, _ => False

def loadK : Option TI → Option Tmp → Option (Bool × AV) → (Env → Hp → Prop) → Env → Hp → Prop
  | some ti, some s, some (b, .sc (.pointer (some ⟨B, off, none⟩))), K, e, H => b = true ∧ ti.agg = false ∧ loadB (H B) B off s K e H
  | _, _, _, _, _, _ => False

/-- A slot's list is no longer its own alone. -/
def fz1 (e : Env) (t : Nat) : AV → Env
  | .lst 0 _ => e
  | .lst 1 _ => e
  | .lst 2 xs => upd e t (.lst 1 xs)
  | .lst (_ + 3) _ => e
  | .sc _ => e
  | .agg _ => e
  | .tup _ => e
  | .ref _ => e
  | .may _ _ => e
  | .und => e

def fzE (e : Env) : List Operand → Env
  | [] => e
  | .tmp t :: l => fzE (fz1 e t (e t)) l
  | .const _ :: l => fzE e l
  | .func _ :: l => fzE e l
  | .global _ :: l => fzE e l

def pureF (T : Types) (op : Op) (dst : Option Tmp) (K : Env → Hp → Prop) (H : Hp) (e : Env) : Prop := pureK (apure T op e H) dst K e H
def boxF (X : Operand) (dst : Option Tmp) (K : Env → Hp → Prop) (H : Hp) (e : Env) : Prop := boxK (arg e X) dst K e H
def enterF (P : Program) (F : Operand) (as : List Operand) (dst : Option Tmp) (K : Env → Hp → Prop) (H : Hp) (e : Env) : Prop := enterK P (arg e F) (args e as) dst K e H

/-- An operation without a guard. -/
def abare (P : Program) (T : Types) (tk : Bool) : Op → Option Tmp → (Env → Hp → Prop) → Env → Hp → Prop
  | .move (.tmp s), dst, K, e, H => moveK (e s) tk s dst K e H
  | .assign (.tmp s), dst, K, e, H => moveK (e s) true s dst K e H
  | .alloc E, dst, K, e, H => allocK (T E) dst K e H
  | .box _ X, dst, K, e, H => boxF X dst K H (fzE e [X])
  | .build t ps, dst, K, e, H => pureF T (.build t ps) dst K H (fzE e (ps.toList.map (·.2)))
  | .store t A X, none, K, e, H => storeK T t (arg e A) X K e H
  | .buildSlice t n ps, dst, K, e, H => litK T n (T t) (qargs e ps.toList) dst K e H
  | .call ⟨.builtin .append, as, ts⟩, dst, K, e, H => appendA T as.toList ts.toList dst K e H
  | .call ⟨.value F, as, _⟩, dst, K, e, H => enterF P F as.toList dst K H (fzE e as.toList)
  | .load t A, dst, K, e, H => bif tk then loadK (T t) dst (arg e A) K e H else pureK (apure T (.load t A) e H) dst K e H
  | .indexAddr t x i, dst, K, e, H => pureF T (.indexAddr t x i) dst K H (fzE e [x])
  | .slice t x lo hi mx, dst, K, e, H => pureF T (.slice t x lo hi mx) dst K H (fzE e [x])
  | .convert s t x, dst, K, e, H => pureF T (.convert s t x) dst K H (fzE e [x])
  | .binOp op t x y u, dst, K, e, H => nilK (bif isNil y then nilEq op (T t) (arg e x) (arg e y) else none) (apure T (.binOp op t x y u) e H) dst K e H
  | op, dst, K, e, H => pureK (apure T op e H) dst K e H

/-- An operation under a guard, whose outcome is known. -/
def guardK : Option Bool → Option (Prop × AV) → Option Tmp → (Env → Hp → Prop) → Env → Hp → Prop
  | some G, some (p, x), dst, K, e, H => (G = true → p) ∧ K (dput e dst (.may G x)) H
  | some G, none, dst, K, e, H => G = false ∧ K (dput e dst (.may false .und)) H
  | none, _, _, _, _, _ => False

/-- It tells this, and leaves the blocks as they are. -/
def tells (x : AV) (H : Hp) (y : AV) (H' : Hp) : Prop := y = x ∧ H' = H

/-- A call under a guard, that leaves all as it is. -/
def gcallK (P : Program) : Option Bool → Option (Bool × AV) → Option (Bool × List AV) → Option Tmp → (Env → Hp → Prop) → Env → Hp → Prop
  | some G, some (b, .sc (.func (.func f) fi ca)), some (c, xs), dst, K, e, H => ∃ x : AV, (G = true → (b && c && fi.toList.all one && ca.toList.all one) = true ∧ ACalls P f (fi.toList.map AV.sc ++ xs ++ ca.toList.map AV.sc) H (tells x H)) ∧
      x.frzn = true ∧ K (dput e dst (.may G x.strip2)) H
  | _, _, _, _, _, _, _ => False

def guardA (P : Program) (T : Types) (G : Option Bool) (dst : Option Tmp) (K : Env → Hp → Prop) (e : Env) (H : Hp) : Op → Prop
  | .call ⟨.value F, as, _⟩ => gcallK P G (arg e F) (args e as.toList) dst K e H
  | op => guardK G (apure T op e H) dst K e H

def gval : AV → Bool → Option Bool
  | .sc (.bool x), want => some (x == want)
  | .may b (.sc (.bool x)), want => some (b && (x == want))
  | _, _ => none

def gdst (ops : Array Oper) (e : Env) (j : Nat) (want : Bool) : Option Bool :=
  match (ops[j]?).bind (·.dst) with
  | some t => gval (e t) want
  | none => none

def astep (P : Program) (T : Types) (nt : Nat) (ops : Array Oper) (tk : Bool) : Oper → (Env → Hp → Prop) → Env → Hp → Prop
  | ⟨dst, op, _, _, _, none⟩, K, e, H => dstOk nt dst = true ∧ abare P T tk op dst K e H
  | ⟨dst, op, _, _, _, some (j, want)⟩, K, e, H => dstOk nt dst = true ∧ guardA P T (gdst ops e j want) dst K e H op

/-- Operations in their order. -/
def areg (P : Program) (T : Types) (nt : Nat) (ops : Array Oper) (tk : List Nat) : Nat → List Oper → (Env → Hp → Prop) → Env → Hp → Prop
  | _, [], K, e, H => K e H
  | i, o :: os, K, e, H => astep P T nt ops (tk.contains i) o (areg P T nt ops tk (i + 1) os K) e H

theorem upd_ofL (l : List (Nat × AV)) (t : Nat) (x : AV) : upd (ofL l) t x = ofL ((t, x) :: l) := by
  funext u; simp only [upd, ofL]

theorem dput_some (e : Env) (t : Nat) (x : AV) : dput e (some t) x = upd e t x := rfl
theorem dput_none (e : Env) (x : AV) : dput e none x = e := rfl

end Go.Ab

/- Ab.StepSound: what a step comes to holds of the model. -/
namespace Go.Ab

/-! ### What each of the functions of Step holds. -/

theorem pureK_inv {r : Option (Prop × AV)} {dst : Option Tmp} {K : Env → Hp → Prop} {e : Env} {H : Hp} (h : pureK r dst K e H) : ∃ p x, r = some (p, x) ∧ p ∧ K (dput e dst x) H := by
  unfold pureK at h
  split at h
  · exact ⟨_, _, rfl, h.1, h.2⟩
  · exact h.elim

theorem allocK_inv {r : Option TI} {dst : Option Tmp} {K : Env → Hp → Prop} {e : Env} {H : Hp} (h : allocK r dst K e H) : ∃ ti, r = some ti ∧ ∀ B, H B = none → newK dst K e H ((ti.zero.map aval).map AV.kept) B := by
  unfold allocK at h
  split at h
  · exact ⟨_, rfl, h⟩
  · exact h.elim

theorem boxK_inv {r : Option (Bool × AV)} {dst : Option Tmp} {K : Env → Hp → Prop} {e : Env} {H : Hp} (h : boxK r dst K e H) : ∃ b x, r = some (b, x) ∧ (b && x.frzn && x.good) = true ∧ ∀ B, H B = none → newK dst K e H (x.strip.cells.map AV.kept) B := by
  unfold boxK at h
  split at h
  · exact ⟨_, _, rfl, h⟩
  · exact h.elim

theorem storeP_inv {ti : Option TI} {b : Option AB} {B off : Nat} {r : Option (Bool × AV)} {K : Env → Hp → Prop} {e : Env} {H : Hp} (h : storeP ti b B off r K e H) :
    ∃ i cs c x, ti = some i ∧ b = some (.cells cs) ∧ r = some (c, x) ∧ (c && x.good && x.frzn) = true ∧ x.cells.length = i.size ∧ off + i.size ≤ cs.length ∧ K e (hset H B (.cells (cs.take off ++ x.kept.cells ++ cs.drop (off + i.size)))) := by
  unfold storeP at h
  split at h
  · exact ⟨_, _, _, _, rfl, rfl, rfl, h⟩
  · exact h.elim

theorem storeT_inv {ti : Option TI} {b : Option AB} {B off s : Nat} {xs : List AV} {K : Env → Hp → Prop} {e : Env} {H : Hp} (h : storeT ti b B off s xs K e H) :
    ∃ i cs, ti = some i ∧ b = some (.cells cs) ∧ i.size = 1 ∧ off + 1 ≤ cs.length ∧ K (upd e s (.lst 0 xs)) (hset H B (.cells (cs.take off ++ [.lst 1 xs] ++ cs.drop (off + 1)))) := by
  unfold storeT at h
  split at h
  · exact ⟨_, _, rfl, rfl, h⟩
  · exact h.elim

theorem storeS_inv {x : AV} {ti : Option TI} {b : Option AB} {B off s : Nat} {K : Env → Hp → Prop} {e : Env} {H : Hp} (h : storeS x ti b B off s K e H) :
    (∃ m xs, x = .lst m xs ∧ (m = 1 ∨ m = 2) ∧ storeT ti b B off s xs K e H) ∨ storeP ti b B off (some (unmay x)) K e H := by
  unfold storeS at h
  split at h
  · exact .inl ⟨1, _, rfl, .inl rfl, h⟩
  · exact .inl ⟨2, _, rfl, .inr rfl, h⟩
  · exact .inr h
  · exact .inr h
  · exact .inr h
  · exact .inr h
  · exact .inr h
  · exact h.elim

theorem storeX_inv {ti : Option TI} {b : Option AB} {B off : Nat} {X : Operand} {K : Env → Hp → Prop} {e : Env} {H : Hp} (h : storeX ti b B off X K e H) :
    (∃ s, X = .tmp s ∧ storeS (e s) ti b B off s K e H) ∨ storeP ti b B off (arg e X) K e H := by
  cases X with
  | tmp s => exact .inl ⟨s, rfl, h⟩
  | const v => exact .inr h
  | func f => exact .inr h
  | global g => exact h.elim

theorem storeK_inv {T : Types} {t : TypeId} {r : Option (Bool × AV)} {X : Operand} {K : Env → Hp → Prop} {e : Env} {H : Hp} (h : storeK T t r X K e H) :
    ∃ b B off, r = some (b, .sc (.pointer (some ⟨B, off, none⟩))) ∧ b = true ∧ storeX (T t) (H B) B off X K e H := by
  unfold storeK at h
  split at h
  · exact ⟨_, _, _, rfl, h⟩
  · exact h.elim

theorem litK_inv {T : Types} {n : Nat} {r : Option TI} {q : Option (Bool × List (Nat × AV))} {dst : Option Tmp} {K : Env → Hp → Prop} {e : Env} {H : Hp} (h : litK T n r q dst K e H) :
    ∃ sz bz et z b qs ti, r = some ⟨sz, bz, .slice et, z⟩ ∧ q = some (b, qs) ∧ T et = some ti ∧ (b = true ∧ qs.map (·.1) = List.range' 0 n ∧ 0 < ti.size ∧ ti.zero.length = ti.size ∧ n * ti.size ≤ 16777216) ∧
      (∀ x ∈ qs.map (·.2), x.cells.length = ti.size) ∧ K (dput e dst (.lst 2 (qs.map (·.2)))) H := by
  unfold litK at h
  split at h
  · obtain ⟨ti, h⟩ := h; exact ⟨_, _, _, _, _, _, ti, rfl, rfl, h⟩
  · exact h.elim

theorem appendK_inv {T : Types} {r1 r2 : Option TI} {x : AV} {y : Option (Bool × AV)} {s t : Nat} {K : Env → Hp → Prop} {e : Env} {H : Hp} (h : appendK T r1 r2 x y s t K e H) :
    ∃ sz bz et z sz2 bz2 et2 z2 m xs b m' ys ti, r1 = some ⟨sz, bz, .slice et, z⟩ ∧ r2 = some ⟨sz2, bz2, .slice et2, z2⟩ ∧ x = .lst m xs ∧ y = some (b, .lst m' ys) ∧ T et = some ti ∧ (b = true ∧ ti.zero.length = ti.size ∧ 0 < ti.size ∧ ti.bytes ≤ 65536) ∧ (m = 1 ∨ m = 2) ∧
      (∀ x ∈ xs, x.cells.length = ti.size) ∧ (∀ y ∈ ys, y.cells.length = ti.size) ∧ xs.length + ys.length ≤ 1073741824 ∧ K (upd (upd e s (AV.lst m xs).rest) t (.lst m (xs ++ ys))) H := by
  unfold appendK at h
  split at h
  · obtain ⟨ti, h⟩ := h; exact ⟨_, _, _, _, _, _, _, _, _, _, _, _, _, ti, rfl, rfl, rfl, rfl, h⟩
  · exact h.elim

theorem enterK_inv {P : Program} {r : Option (Bool × AV)} {q : Option (Bool × List AV)} {dst : Option Tmp} {K : Env → Hp → Prop} {e : Env} {H : Hp} (h : enterK P r q dst K e H) :
    ∃ b f fi ca c xs, r = some (b, .sc (.func (.func f) fi ca)) ∧ q = some (c, xs) ∧ (b && c && fi.toList.all one && ca.toList.all one) = true ∧ ACalls P f (fi.toList.map AV.sc ++ xs ++ ca.toList.map AV.sc) H (callK K e dst) := by
  unfold enterK at h
  split at h
  · exact ⟨_, _, _, _, _, _, rfl, rfl, h⟩
  · exact h.elim

theorem appendA_inv {T : Types} {as : List Operand} {ts : List TypeId} {dst : Option Tmp} {K : Env → Hp → Prop} {e : Env} {H : Hp} (h : appendA T as ts dst K e H) :
    ∃ s X t1 t2 t, as = [.tmp s, X] ∧ ts = [t1, t2] ∧ dst = some t ∧ appendK T (T t1) (T t2) (e s) (arg e X) s t K e H := by
  unfold appendA at h
  split at h
  · exact ⟨_, _, _, _, _, rfl, rfl, rfl, h⟩
  · exact h.elim

theorem moveK_inv {x : AV} {tk : Bool} {s : Nat} {dst : Option Tmp} {K : Env → Hp → Prop} {e : Env} {H : Hp} (h : moveK x tk s dst K e H) :
    (∃ m xs, x = .lst m xs ∧ (m = 1 ∨ m = 2) ∧ K (dput (upd e s (AV.lst m xs).rest) dst (.lst m xs)) H) ∨ (∃ xs, x = .lst 2 xs ∧ K (dput (upd e s (.lst 1 xs)) dst (.lst 0 xs)) H) ∨
      (((unmay x).1 && (unmay x).2.frzn) = true ∧ K (dput e dst (unmay x).2.strip2) H) := by
  unfold moveK at h
  split at h
  · exact .inl ⟨1, _, rfl, .inl rfl, h⟩
  · exact .inr (.inr ⟨rfl, h⟩)
  · exact .inl ⟨2, _, rfl, .inr rfl, h⟩
  · exact .inr (.inl ⟨_, rfl, h⟩)
  · exact .inr (.inr h)
  · rename_i xs; exact .inr (.inr ⟨by cases xs <;> rfl, h⟩)
  · exact .inr (.inr ⟨rfl, h⟩)
  · exact .inr (.inr ⟨rfl, h⟩)
  · exact .inr (.inr ⟨rfl, h⟩)
  · exact .inr (.inr ⟨rfl, h⟩)
  · exact .inr (.inr ⟨rfl, h⟩)
  · exact h.elim

theorem guardK_inv {G : Option Bool} {r : Option (Prop × AV)} {dst : Option Tmp} {K : Env → Hp → Prop} {e : Env} {H : Hp} (h : guardK G r dst K e H) :
    (∃ g p x, G = some g ∧ r = some (p, x) ∧ (g = true → p) ∧ K (dput e dst (.may g x)) H) ∨ (G = some false ∧ K (dput e dst (.may false .und)) H) := by
  unfold guardK at h
  split at h
  · exact .inl ⟨_, _, _, rfl, rfl, h⟩
  · exact .inr ⟨by rw [h.1], h.2⟩
  · exact h.elim

section
variable {P : Program} {T : Types} {C : Cx} {e : Env} {H : Hp} {g : Gh} {w : World} {a : Act}

theorem gdst_guardOf {ops : Array Oper} {j : Nat} {want G : Bool} (h : gdst ops e j want = some G) : guardOf ops e j want = some G := by
  unfold gdst at h
  unfold guardOf
  split at h
  · rename_i t ht
    rw [ht]
    simp only
    generalize e t = x at *
    unfold gval at h
    split at h
    · cases h; simp [unmay]
    · cases h; simp [unmay]
    · cases h
  · cases h

theorem AOp_skip' {ops : Array Oper} {i : Nat} {o : Oper} (hi : ops[i]? = some o) {j : Nat} {want : Bool} (hg : o.guard = some (j, want)) (hG : guardOf ops e j want = some false) (x : AV)
    (hd : dstOk C.nt o.dst = true) {K : Env → Hp → Prop} {Kx : Exit → Env → Hp → Prop} (hk : K (dput e o.dst (.may false x)) H) : AOp P C ops i K Kx e H := by
  intro g a w hr NX Q hNX _
  have hw := guard_sound hr hg hG
  unfold wpOp
  simp only [hi, hw, Bool.false_eq_true, if_false]
  exact hNX g _ w _ H .refl (hr.put hd (.may _ _ _ (fun h => by cases h) (fun _ => rfl))) hk

theorem AOp_skip {ops : Array Oper} {i : Nat} {o : Oper} (hi : ops[i]? = some o) {j : Nat} {want : Bool} (hg : o.guard = some (j, want)) (hG : guardOf ops e j want = some false)
    (hd : dstOk C.nt o.dst = true) {K : Env → Hp → Prop} {Kx : Exit → Env → Hp → Prop} (hk : K (dput e o.dst (.may false .und)) H) : AOp P C ops i K Kx e H := by
  intro g a w hr NX Q hNX _
  have hw := guard_sound hr hg hG
  unfold wpOp
  simp only [hi, hw, Bool.false_eq_true, if_false]
  exact hNX g _ w _ H .refl (hr.put hd (.may _ _ _ (fun h => by cases h) (fun _ => rfl))) hk

theorem AOp_pureK (hT : TOk P T) {ops : Array Oper} {i : Nat} {o : Oper} (hi : ops[i]? = some o) (hg : o.guard = none) (hd : dstOk C.nt o.dst = true) {K : Env → Hp → Prop} {Kx : Exit → Env → Hp → Prop}
    (h : pureK (apure T o.op e H) o.dst K e H) : AOp P C ops i K Kx e H := by
  obtain ⟨p, x, h1, h2, h3⟩ := pureK_inv h
  exact AOp_pure hT hi hg h1 h2 hd h3

/-- A slot's value copied, where it is no list's token. -/
theorem AOp_copy (hT : TOk P T) {ops : Array Oper} {i : Nat} {o : Oper} (hi : ops[i]? = some o) (hg : o.guard = none) (hd : dstOk C.nt o.dst = true) {s : Nat} (ho : o.op = .move (.tmp s) ∨ o.op = .assign (.tmp s)) {b : Bool} {x : AV}
    (hx : unmay (e s) = (b, x)) (hb : (b && x.frzn) = true) {K : Env → Hp → Prop} {Kx : Exit → Env → Hp → Prop} (hk : K (dput e o.dst x.strip2) H) : AOp P C ops i K Kx e H := by
  refine AOp_pure hT hi hg (p := (b && x.frzn) = true) (x := x.strip2) ?_ hb hd hk
  rcases ho with ho | ho <;> simp [ho, apure, arg, hx]

theorem AOp_moveK (hT : TOk P T) {ops : Array Oper} {i : Nat} {o : Oper} (hi : ops[i]? = some o) (hg : o.guard = none) (hd : dstOk C.nt o.dst = true) {s : Nat} (ho : o.op = .move (.tmp s) ∨ o.op = .assign (.tmp s)) {tk : Bool}
    {K : Env → Hp → Prop} {Kx : Exit → Env → Hp → Prop} (h : moveK (e s) tk s o.dst K e H) : AOp P C ops i K Kx e H := by
  have take : ∀ {m : Nat} {xs : List AV}, e s = .lst m xs → (m = 1 ∨ m = 2) → K (dput (upd e s (AV.lst m xs).rest) o.dst (.lst m xs)) H → AOp P C ops i K Kx e H := by
    intro m xs hx hm hk
    cases hdst : o.dst with
    | some t => rw [hdst] at hk; exact AOp_take' hi hg hdst hd (fun g a w hr => by rcases ho with ho | ho <;> simp [execOp, ho]) hx hm hk
    | none =>
      intro g a w hr NX Q hNX _
      unfold wpOp
      simp only [hi, Region.wanted, hg, if_true]
      left
      unfold Oper.wp
      rw [show (execOp a.eval o).run P w = .ok (.value (a.eval (.tmp s))) w from by rcases ho with ho | ho <;> simp [execOp, ho]]
      show NX (a.put o.dst _) w
      rw [hdst] at hk ⊢
      exact hNX g _ w _ H .refl (hr.restS hx hm) hk
  rcases moveK_inv h with ⟨m, xs, hx, hm, hk⟩ | ⟨xs, hx, hk⟩ | ⟨hb, hk⟩
  · exact take hx hm hk
  · refine AOp_freeze hx ?_
    exact AOp_copy hT hi hg hd ho (b := true) (x := .lst 1 xs) (by simp [upd, unmay]) rfl hk
  · exact AOp_copy hT hi hg hd ho (b := (unmay (e s)).1) (x := (unmay (e s)).2) rfl hb hk

theorem AOp_storeP (hT : TOk P T) {ops : Array Oper} {i : Nat} {o : Oper} (hi : ops[i]? = some o) (hg : o.guard = none) (hdst : o.dst = none) {t : TypeId} {A X : Operand} (ho : o.op = .store t A X)
    {B off : Nat} (hA : arg e A = some (true, .sc (.pointer (some ⟨B, off, none⟩)))) {r : Option (Bool × AV)} (hX : arg e X = r) {K : Env → Hp → Prop} {Kx : Exit → Env → Hp → Prop}
    (h : storeP (T t) (H B) B off r K e H) : AOp P C ops i K Kx e H := by
  obtain ⟨ti, cs, b, x, ht, hB, hr, h1, h2, h3, h4⟩ := storeP_inv h
  simp only [Bool.and_eq_true] at h1
  obtain ⟨⟨rfl, h1⟩, h1'⟩ := h1
  exact AOp_store hT hi hg hdst ho ht hA hB (hX.trans hr) h1 h1' h2 h3 h4

theorem AOp_storeT (hT : TOk P T) {ops : Array Oper} {i : Nat} {o : Oper} (hi : ops[i]? = some o) (hg : o.guard = none) (hdst : o.dst = none) {t s : Nat} {A : Operand} (ho : o.op = .store t A (.tmp s))
    {B off : Nat} (hA : arg e A = some (true, .sc (.pointer (some ⟨B, off, none⟩)))) (hAs : A ≠ .tmp s) {m : Nat} {xs : List AV} (hX : e s = .lst m xs) (hm : m = 1 ∨ m = 2) {K : Env → Hp → Prop} {Kx : Exit → Env → Hp → Prop}
    (h : storeT (T t) (H B) B off s xs K e H) : AOp P C ops i K Kx e H := by
  obtain ⟨ti, cs, ht, hB, h1, h2, h3⟩ := storeT_inv h
  rcases hm with rfl | rfl
  · exact AOp_storeTok hT hi hg hdst ho ht h1 hA hB hX h2 h3
  · refine AOp_freeze hX (AOp_storeTok hT hi hg hdst ho ht h1 ?_ hB (xs := xs) (by simp [upd]) h2 ?_)
    · cases A with
      | tmp u =>
        simp only [arg, upd] at hA ⊢
        rw [if_neg (fun hh => hAs (by rw [hh]))]; exact hA
      | const v => exact hA
      | global _ => exact hA
      | func _ => exact hA
    · rw [upd_upd]; exact h3

/-- A list's value: of nil alone, where it has something. -/
theorem slot_nil {o : Owner} {m : Nat} {xs : List AV} {v : Value} (h : SlotRep g w o (.lst m xs) v) : ∃ base n cap, v = .slice base n cap ∧ (xs ≠ [] → base ≠ none) := by
  have rep : ∀ {m : Nat}, Rep g w (.lst m xs) v → ∃ base n cap, v = .slice base n cap ∧ (xs ≠ [] → base ≠ none) := by
    intro m h
    cases h with
    | nil base cap => exact ⟨base, 0, cap, rfl, fun h => absurd rfl h⟩
    | nil2 base => exact ⟨base, 0, 0, rfl, fun h => absurd rfl h⟩
    | lst _ B off n cap s f hn hcap hs hx hf hc ho hr => exact ⟨_, _, _, rfl, fun _ h => by cases h⟩
  unfold SlotRep at h
  split at h
  · rename_i hx; cases hx; exact rep h
  · rename_i hx; cases hx; exact rep h.1
  · rename_i hx; cases hx
    rcases h with ⟨base, hx, rfl⟩ | ⟨B, off, cap, s, c, E, f, hv, _⟩
    · exact ⟨base, _, _, rfl, fun h => absurd hx h⟩
    · exact ⟨_, _, _, hv, fun _ h => by cases h⟩
  · exact rep h

theorem run_nilEq {t : TypeId} {i : TI} (hf : TFact P t i) {et : TypeId} (hk : i.kind = .slice et) (base : Option Addr) (n cap : Nat) : (Op.equal t (.slice base n cap) (.slice none 0 0)).run P w = .ok base.isNone w := by
  obtain ⟨desc, h1, h2⟩ := hf.under
  have hu := run_underlying h1 w
  show (Op.equalIn (9999 + 1) t _ _).run P w = _
  unfold Op.equalIn
  simp only [Sem.run_bind, hu, Result.andThen_ok]
  rw [hk] at h2
  cases desc <;> simp only [sameKind] at h2 <;> first | (cases h2; done) | skip
  cases base <;> rfl

theorem nilEq_inv {op : BinOp} {r : Option TI} {p q : Option (Bool × AV)} {b want : Bool} {xs : List AV} (h : nilEq op r p q = some (b, want, xs)) :
    ∃ sz bz et z m, r = some ⟨sz, bz, .slice et, z⟩ ∧ p = some (b, .lst m xs) ∧ (op = .eql ∧ want = false ∨ op = .neq ∧ want = true) := by
  unfold nilEq at h
  split at h
  · cases h; exact ⟨_, _, _, _, _, rfl, rfl, .inl ⟨rfl, rfl⟩⟩
  · cases h; exact ⟨_, _, _, _, _, rfl, rfl, .inr ⟨rfl, rfl⟩⟩
  · cases h

theorem AOp_nilK (hT : TOk P T) {ops : Array Oper} {i : Nat} {o : Oper} (hi : ops[i]? = some o) (hg : o.guard = none) (hd : dstOk C.nt o.dst = true) {op : BinOp} {t : TypeId} {X Y : Operand} {u : TypeId} (ho : o.op = .binOp op t X Y u)
    {K : Env → Hp → Prop} {Kx : Exit → Env → Hp → Prop} (h : nilK (bif isNil Y then nilEq op (T t) (arg e X) (arg e Y) else none) (apure T o.op e H) o.dst K e H) : AOp P C ops i K Kx e H := by
  generalize hq : (bif isNil Y then nilEq op (T t) (arg e X) (arg e Y) else none) = q at h
  cases q with
  | none => exact AOp_pureK hT hi hg hd h
  | some q =>
    obtain ⟨b, want, xs⟩ := q
    have hn := hq
    simp only [nilK] at h
    cases hy : isNil Y with
    | false => rw [hy] at hn; cases hn
    | true =>
      rw [hy] at hn
      simp only [cond_true] at hn
      have hY : Y = .const (.slice none 0 0) := by
        unfold isNil at hy
        split at hy
        · rfl
        · cases hy
      obtain ⟨sz, bz, et, z, m, ht, hX, hop⟩ := nilEq_inv hn
      obtain ⟨rfl, hK⟩ := h
      intro g a w hr NX Q hNX _
      obtain ⟨ow, hs⟩ := arg_sound hr.cslots hX rfl
      obtain ⟨base, n, cap, hv, hne⟩ := slot_nil hs
      have hrun := run_nilEq (w := w) (hT.fact ht) rfl base n cap
      have hyv : a.eval Y = .slice none 0 0 := by rw [hY]; rfl
      have key : (execOp a.eval o).run P w = .ok (.value (.bool (base.isNone ^^ want))) w := by
        have hgd := run_eqGuard (P := P) (w := w) op t X Y (u := .slice base n cap) (v := .slice none 0 0) (.inl (by simp)) (.inl (by simp))
        rcases hop with ⟨rfl, rfl⟩ | ⟨rfl, rfl⟩
        · simp [execOp, ho, hv, hyv, hgd, binOp, hrun]
        · simp [execOp, ho, hv, hyv, hgd, binOp, hrun]
      refine wp_pures (g := g) hi (x := .sc (.bool (base.isNone ^^ want))) ⟨_, key, .sc _ rfl⟩ (by simp [Region.wanted, hg]) fun v hv => ?_
      refine hNX g _ w _ H .refl (hr.put hd hv) (hK _ fun hx => ?_)
      have := hne hx
      cases base with
      | none => exact absurd rfl this
      | some _ => simp

theorem AOp_fzE {ops : Array Oper} {i : Nat} {K : Env → Hp → Prop} {Kx : Exit → Env → Hp → Prop} : ∀ {l : List Operand} {e : Env}, AOp P C ops i K Kx (fzE e l) H → AOp P C ops i K Kx e H
  | [], _, h => h
  | .tmp t :: l, e, h => by
    simp only [fzE] at h
    have := AOp_fzE h
    generalize hx : e t = x at this
    unfold fz1 at this
    split at this <;> first | exact this | exact AOp_freeze hx this
  | .const _ :: l, e, h => AOp_fzE (l := l) (by simpa only [fzE] using h)
  | .func _ :: l, e, h => AOp_fzE (l := l) (by simpa only [fzE] using h)
  | .global _ :: l, e, h => AOp_fzE (l := l) (by simpa only [fzE] using h)

theorem AOp_enterK {ops : Array Oper} {i : Nat} {o : Oper} (hi : ops[i]? = some o) (hg : o.guard = none) (hd : dstOk C.nt o.dst = true) {F : Operand} {as : Array Operand} {ts : Array TypeId} (ho : o.op = .call ⟨.value F, as, ts⟩)
    {K : Env → Hp → Prop} {Kx : Exit → Env → Hp → Prop} (h : enterK P (arg e F) (args e as.toList) o.dst K e H) : AOp P C ops i K Kx e H := by
  obtain ⟨b, f, fi, ca, c, xs, hF, hxs, h1, h2⟩ := enterK_inv h
  simp only [Bool.and_eq_true] at h1
  obtain ⟨⟨⟨rfl, rfl⟩, h3⟩, h4⟩ := h1
  refine AOp_call hi hg hd ho hF (fun v hv => ?_) hxs h2
  rcases List.mem_append.1 hv with hv | hv
  · exact List.all_eq_true.1 h3 v hv
  · exact List.all_eq_true.1 h4 v hv

theorem loadC_inv {r : Option AV} {cs : List AV} {B off : Nat} {s : Tmp} {K : Env → Hp → Prop} {e : Env} {H : Hp} (h : loadC r cs B off s K e H) :
    ∃ m xs, r = some (.lst m xs) ∧ (m = 1 ∨ m = 2) ∧ K (upd e s (.lst m xs)) (hset H B (.cells (cs.take off ++ [(AV.lst m xs).rest] ++ cs.drop (off + 1)))) := by
  unfold loadC at h
  split at h
  · exact ⟨1, _, rfl, .inl rfl, h⟩
  · exact ⟨2, _, rfl, .inr rfl, h⟩
  · exact h.elim

theorem loadB_inv {r : Option AB} {B off : Nat} {s : Tmp} {K : Env → Hp → Prop} {e : Env} {H : Hp} (h : loadB r B off s K e H) : ∃ cs, r = some (.cells cs) ∧ loadC cs[off]? cs B off s K e H := by
  unfold loadB at h
  split at h
  · exact ⟨_, rfl, h⟩
  · exact h.elim

theorem loadK_inv {r : Option TI} {dst : Option Tmp} {q : Option (Bool × AV)} {K : Env → Hp → Prop} {e : Env} {H : Hp} (h : loadK r dst q K e H) :
    ∃ ti s b B off, r = some ti ∧ dst = some s ∧ q = some (b, .sc (.pointer (some ⟨B, off, none⟩))) ∧ b = true ∧ ti.agg = false ∧ loadB (H B) B off s K e H := by
  unfold loadK at h
  split at h
  · exact ⟨_, _, _, _, _, rfl, rfl, rfl, h⟩
  · exact h.elim

theorem AOp_loadK (hT : TOk P T) {ops : Array Oper} {i : Nat} {o : Oper} (hi : ops[i]? = some o) (hg : o.guard = none) (hd : dstOk C.nt o.dst = true) {t : TypeId} {A : Operand} (ho : o.op = .load t A)
    {K : Env → Hp → Prop} {Kx : Exit → Env → Hp → Prop} (h : loadK (T t) o.dst (arg e A) K e H) : AOp P C ops i K Kx e H := by
  obtain ⟨ti, s, b, B, off, ht, hdst, hq, rfl, hag, h⟩ := loadK_inv h
  obtain ⟨cs, hb, h⟩ := loadB_inv h
  obtain ⟨m, xs, hX, hm, hk⟩ := loadC_inv h
  exact AOp_loadTok hT hi hg hdst hd ho ht hag hq hb hX hm hk

theorem AOp_bare (hT : TOk P T) {ops : Array Oper} {i : Nat} {o : Oper} (hi : ops[i]? = some o) (hg : o.guard = none) (hd : dstOk C.nt o.dst = true) {tk : Bool} {K : Env → Hp → Prop} {Kx : Exit → Env → Hp → Prop}
    (h : abare P T tk o.op o.dst K e H) : AOp P C ops i K Kx e H := by
  have pu : pureK (apure T o.op e H) o.dst K e H → AOp P C ops i K Kx e H := fun h => AOp_pureK hT hi hg hd h
  cases ho : o.op with
  | move X => cases X with
    | tmp s => rw [ho] at h; exact AOp_moveK hT hi hg hd (.inl ho) h
    | _ => rw [ho] at h pu; exact pu h
  | assign X => cases X with
    | tmp s => rw [ho] at h; exact AOp_moveK hT hi hg hd (.inr ho) h
    | _ => rw [ho] at h pu; exact pu h
  | alloc E =>
    rw [ho] at h
    obtain ⟨ti, ht, h⟩ := allocK_inv h
    exact AOp_alloc hT hi hg hd ho ht h
  | box E X =>
    rw [ho] at h
    refine AOp_fzE (l := [X]) ?_
    obtain ⟨b, x, hx, h1, h2⟩ := boxK_inv h
    exact AOp_box hi hg hd ho hx h1 h2
  | build t ps => rw [ho] at h; exact AOp_fzE (AOp_pureK hT hi hg hd (by rw [ho]; exact h))
  | store t A X =>
    cases hdst : o.dst with
    | some t => rw [ho, hdst] at h; rw [ho, hdst] at pu; exact pu h
    | none =>
      rw [ho, hdst] at h
      obtain ⟨b, B, off, hA, rfl, h⟩ := storeK_inv h
      rcases storeX_inv h with ⟨s, rfl, h⟩ | h
      · rcases storeS_inv h with ⟨m, xs, hx, hm, h⟩ | h
        · refine AOp_storeT hT hi hg hdst ho hA ?_ hx hm h
          rintro rfl
          simp only [arg, hx, unmay] at hA
          cases hA
        · exact AOp_storeP hT hi hg hdst ho hA rfl h
      · exact AOp_storeP hT hi hg hdst ho hA rfl h
  | buildSlice t n ps =>
    rw [ho] at h
    obtain ⟨sz, bz, et, z, b, qs, ti, ht, hq, hti, ⟨rfl, h1, h2, h3, h4⟩, h5, h6⟩ := litK_inv h
    refine AOp_buildSlice hT hi hg hd ho ht hti (xs := qs.map (·.2)) ?_ ?_ h2 h3 h4 h5 h6
    · rw [hq, ← h1]
      congr 2
      clear hq h1 h5 h6 h
      induction qs with
      | nil => rfl
      | cons q qs ih => simp [← ih]
    · have := congrArg List.length h1; simpa using this
  | call c =>
    obtain ⟨callee, as, ts⟩ := c
    rw [ho] at h pu
    cases callee with
    | builtin b =>
      cases b with
      | append =>
        obtain ⟨s, X, t1, t2, t, has, hts, hdst, h⟩ := appendA_inv h
        obtain ⟨sz1, bz1, et, z1, sz2, bz2, et2, z2, m, xs, b, m', ys, ti, ht1, ht2, hx, hX, hti, ⟨rfl, h1, h2, h3⟩, h4, h5, h6, h7, h8⟩ := appendK_inv h
        have ha2 : as = #[.tmp s, X] := by cases as; simp_all
        have ht2' : ts = #[t1, t2] := by cases ts; simp_all
        subst ha2 ht2'
        exact AOp_append (ts := #[]) hT hi hg hd hdst ho ht1 ht2 hti h1 h2 h3 hx h4 hX h5 h6 h7 h8
      | _ => exact pu h
    | invoke _ _ => exact pu h
    | value F =>
      exact AOp_fzE (AOp_enterK hi hg hd ho h)
  | load t A =>
    rw [ho] at h pu
    simp only [abare] at h
    cases tk with
    | true => exact AOp_loadK hT hi hg hd ho h
    | false => exact pu h
  | indexAddr t X Y => rw [ho] at h; exact AOp_fzE (AOp_pureK hT hi hg hd (by rw [ho]; exact h))
  | slice t X lo hi' mx => rw [ho] at h; exact AOp_fzE (AOp_pureK hT hi hg hd (by rw [ho]; exact h))
  | convert s t X => rw [ho] at h; exact AOp_fzE (AOp_pureK hT hi hg hd (by rw [ho]; exact h))
  | binOp op t X Y u =>
    rw [ho] at h
    refine AOp_nilK hT hi hg hd ho ?_
    rw [ho]; exact h
  | _ => rw [ho] at h pu; exact pu h

theorem AOp_step (hT : TOk P T) {ops : Array Oper} {i : Nat} {o : Oper} (hi : ops[i]? = some o) {tk : Bool} {K : Env → Hp → Prop} {Kx : Exit → Env → Hp → Prop} (h : astep P T C.nt ops tk o K e H) : AOp P C ops i K Kx e H := by
  obtain ⟨dst, op, ty, pos, aft, gd⟩ := o
  cases gd with
  | none =>
    simp only [astep] at h
    exact AOp_bare (tk := tk) hT hi rfl h.1 h.2
  | some jw =>
    obtain ⟨j, want⟩ := jw
    simp only [astep] at h
    obtain ⟨hd, h⟩ := h
    have gk : guardK (gdst ops e j want) (apure T op e H) dst K e H → AOp P C ops i K Kx e H := fun h => by
      rcases guardK_inv h with ⟨G, p, x, hG, hp, h1, h2⟩ | ⟨hG, h2⟩
      · exact AOp_guard hT hi rfl (gdst_guardOf hG) (fun hh => ⟨hp, h1 hh⟩) hd h2
      · exact AOp_skip hi rfl (gdst_guardOf hG) hd h2
    cases op with
    | call c =>
      obtain ⟨callee, as, ts⟩ := c
      cases callee with
      | builtin b => exact gk h
      | invoke _ _ => exact gk h
      | value F =>
        simp only [guardA] at h
        generalize hG : gdst ops e j want = G at h
        generalize hF : arg e F = q at h
        generalize hxs : args e as.toList = r at h
        unfold gcallK at h
        split at h
        · rename_i G b f fi ca c xs
          cases G with
          | false => obtain ⟨x, _, _, h⟩ := h; exact AOp_skip' hi rfl (gdst_guardOf hG) _ hd h
          | true =>
            obtain ⟨x, h0, hfr, hk⟩ := h
            obtain ⟨h1, h2⟩ := h0 rfl
            simp only [Bool.and_eq_true] at h1
            obtain ⟨⟨⟨rfl, rfl⟩, h3⟩, h4⟩ := h1
            refine AOp_callG hi rfl (gdst_guardOf hG) hd rfl hF (fun v hv => ?_) hxs (h2.mono fun y H' hy => by obtain ⟨rfl, rfl⟩ := hy; exact ⟨hfr, hk⟩)
            rcases List.mem_append.1 hv with hv | hv
            · exact List.all_eq_true.1 h3 v hv
            · exact List.all_eq_true.1 h4 v hv
        · exact h.elim
    | _ => exact gk h

theorem AOps_areg (hT : TOk P T) {ops : Array Oper} {tk : List Nat} {Q : Exit → Env → Hp → Prop} : ∀ (os : List Oper) (i : Nat) {e : Env} {H : Hp}, ops.toList.drop i = os → areg P T C.nt ops tk i os (Q .normal) e H → AOps P C ops (List.range' i os.length) Q e H
  | [], i, e, H, _, h => AOps_nil (by simpa [areg] using h)
  | o :: os, i, e, H, hd, h => by
    simp only [areg] at h
    have hi : ops[i]? = some o := by
      have : (ops.toList.drop i)[0]? = some o := by rw [hd]; rfl
      rw [List.getElem?_drop] at this
      simpa using this
    have hd2 : ops.toList.drop (i + 1) = os := by
      rw [← List.drop_drop, hd]; rfl
    rw [List.length_cons, List.range'_succ]
    refine AOps_cons ?_
    have hst := AOp_step (C := C) (Kx := Q) hT hi h
    intro g a w hr NX Q' hNX hQ
    exact hst g a w hr NX Q' (fun g' a' w' e' H' k1 k2 k3 => hNX g' a' w' e' H' k1 k2 (AOps_areg hT os (i + 1) hd2 k3)) hQ

/-- A region that keeps its order. -/
theorem AWp_region (hT : TOk P T) (tk : List Nat) {id : Nat} {ops : Array Oper} {Q : Exit → Env → Hp → Prop} (h : areg P T C.nt ops tk 0 ops.toList (Q .normal) e H) : AWp P C (.region id ops false) Q e H := by
  refine AWp_of_ops ?_
  have := AOps_areg (C := C) hT ops.toList 0 rfl h
  rwa [Array.length_toList, ← List.range_eq_range'] at this

end
end Go.Ab
