/- Ab.Sound4: what apure says is what the model does: elements, loads, slices, building. -/
import Derived.Test.YtgnlnkbkbddfaaaAbBaseA
import Derived.Laws.BytesString
import Derived.Laws.Tables
namespace Go.Ab

section
variable {P : Program} {T : Types} {g : Gh} {w : World} {d : Nat} {e : Env} {H : Hp} {a : Act}

theorem flat_get : ∀ {xs : List AV} {s : Nat} (_ : ∀ x ∈ xs, x.cells.length = s) {k j : Nat} (_ : k < xs.length) (_ : j < s), (flat xs)[k * s + j]? = (xs.getD k .und).cells[j]?
  | [], _, _, _, _, h, _ => by simp at h
  | x :: xs, s, hx, k, j, hk, hj => by
    have h0 := hx x (by simp)
    have ih := fun k' hk' => flat_get (xs := xs) (fun y hy => hx y (by simp [hy])) (k := k') (j := j) hk' hj
    simp only [flat, List.flatMap_cons] at ih ⊢
    cases k with
    | zero => rw [Nat.zero_mul, Nat.zero_add, List.getElem?_append_left (by omega)]; rfl
    | succ k =>
      rw [List.getElem?_append_right (by rw [h0, Nat.succ_mul]; omega), h0, Nat.succ_mul, show k * s + s + j - s = k * s + j by omega, ih k (by simpa using hk)]
      rfl

/-- An element of a list, at its address. -/
theorem rep_elem {xs : List AV} {B off n cap : Nat} (h : Rep g w (.lst 0 xs) (.slice (some ⟨B, off, none⟩) n cap)) {k : Nat} (hk : k < xs.length) :
    Rep g w (.ref (xs.getD k .und)) (.pointer (some ⟨B, off + k * (xs.getD k .und).cells.length, none⟩)) := by
  cases h with
  | nil => simp at hk
  | lst xs B off n cap s f hn hcap hs hx hf hc ho hr =>
    have hmem : xs.getD k .und ∈ xs := by
      simp only [List.getD, List.getElem?_eq_getElem hk, Option.getD_some]; exact List.getElem_mem hk
    have hl := hx _ hmem
    rw [hl]
    have hle : (k + 1) * s ≤ xs.length * s := Nat.mul_le_mul_right s hk
    rw [Nat.succ_mul] at hle
    subst hn
    refine .ref _ B _ (fun j => f (k * s + j)) (by rw [hl]; omega) (fun j y hy => ?_) (fun j y hy => by
      have hj := lt_of_getElem? hy
      rw [hl] at hj
      exact ho (k * s + j) y (by rw [flat_get hx hk hj]; exact hy)) (fun j y hy => ?_)
    · have hj := lt_of_getElem? hy
      rw [hl] at hj
      have := hc (k * s + j) y (by rw [flat_get hx hk hj]; exact hy)
      rwa [← Nat.add_assoc] at this
    · have hj := lt_of_getElem? hy
      rw [hl] at hj
      exact hr (k * s + j) y (by rw [flat_get hx hk hj]; exact hy)

theorem slot_lst {o : Owner} {m : Nat} {xs : List AV} {v : Value} (h : SlotRep g w o (.lst m xs) v) (hm : m ≠ 2) : Rep g w (.lst 0 xs) v := by
  unfold SlotRep at h
  split at h
  · rename_i heq; cases heq; exact h
  · rename_i heq; cases heq; exact h.1
  · rename_i heq; cases heq; exact absurd rfl hm
  · rename_i h0 h1 h2
    cases h with
    | nil => exact absurd rfl (h0 _)
    | nil2 => exact absurd rfl hm
    | lst => exact absurd rfl (h0 _)

theorem rep_lst_slice {xs : List AV} {v : Value} (h : Rep g w (.lst 0 xs) v) : ∃ base cap, v = .slice base xs.length cap ∧ (0 < xs.length → ∃ B off, base = some ⟨B, off, none⟩) := by
  cases h with
  | nil base cap => exact ⟨base, cap, rfl, fun h => by simp at h⟩
  | lst xs B off n cap s f hn hcap hs hx hf hc ho hr => subst hn; exact ⟨_, cap, rfl, fun _ => ⟨B, off, rfl⟩⟩

theorem pure_indexAddr (hT : TOk P T) (hc : Slots g w d e a) {o : Oper} {t X I} (ho : o.op = .indexAddr t X I) {p x} (h : apure T (.indexAddr t X I) e H = some (p, x)) (hp : p) : Pures P g w a o x := by
  simp only [apure] at h
  split at h
  · rename_i et b m xs bi k1 k ht h1 h2
    split at h
    · rename_i ti hti
      cases h
      obtain ⟨hb, hm, h0, hn, hsz⟩ := hp
      simp only [Bool.and_eq_true] at hb
      obtain ⟨ow, hr⟩ := arg_sound hc h1 hb.1
      have hr2 := slot_lst hr hm
      have hI := (arg_sc hc h2 hb.2).1
      have hk : k.toNat < xs.length := by omega
      obtain ⟨base, cap, hv, hbase⟩ := rep_lst_slice hr2
      obtain ⟨B, off, rfl⟩ := hbase (by omega)
      rw [hv] at hr2
      have hel := rep_elem hr2 hk
      obtain ⟨desc, q1, q2⟩ := (hT.fact ht).under
      have hs := (hT.fact hti).sizeOf w
      rw [hsz] at hel
      cases desc <;> simp only [sameKind, Bool.false_eq_true] at q2
      simp only [beq_iff_eq] at q2
      subst q2
      refine pures_value (s := Instr.indexAt t (a.eval X) (a.eval I)) (by simp [execOp, ho]) (v := .pointer (some ⟨B, off + k.toNat * ti.size, none⟩)) ?_ hel
      simp [Instr.indexAt, hI, asIntOf_int, run_underlying q1 w, hv, h0, hn, hs, addr_add]
    · cases h
  · rename_i et b B o' n c bi k1 k ht h1 h2
    split at h
    · rename_i ti hti
      cases h
      obtain ⟨hb, h0, hn⟩ := hp
      simp only [Bool.and_eq_true] at hb
      have hv := (arg_sc hc h1 hb.1).1
      have hI := (arg_sc hc h2 hb.2).1
      obtain ⟨desc, q1, q2⟩ := (hT.fact ht).under
      have hs := (hT.fact hti).sizeOf w
      cases desc <;> simp only [sameKind, Bool.false_eq_true] at q2
      simp only [beq_iff_eq] at q2
      subst q2
      refine pures_value (s := Instr.indexAt t (a.eval X) (a.eval I)) (by simp [execOp, ho]) (v := .pointer (some ⟨B, o' + k.toNat * ti.size, none⟩)) ?_ (.sc _ rfl)
      simp [Instr.indexAt, hI, asIntOf_int, run_underlying q1 w, hv, h0, hn, hs, addr_add]
    · cases h
  · rename_i n et b B o' bi k1 k ht h1 h2
    split at h
    · rename_i ti hti
      cases h
      obtain ⟨hb, h0, hn⟩ := hp
      simp only [Bool.and_eq_true] at hb
      have hv := (arg_sc hc h1 hb.1).1
      have hI := (arg_sc hc h2 hb.2).1
      obtain ⟨desc, q1, q2⟩ := (hT.fact ht).under
      have hs := (hT.fact hti).sizeOf w
      cases desc <;> simp only [sameKind, Bool.false_eq_true] at q2
      simp only [Bool.and_eq_true, beq_iff_eq] at q2
      obtain ⟨rfl, rfl⟩ := q2
      refine pures_value (s := Instr.indexAt t (a.eval X) (a.eval I)) (by simp [execOp, ho]) (v := .pointer (some ⟨B, o' + k.toNat * ti.size, none⟩)) ?_ (.sc _ rfl)
      simp [Instr.indexAt, hI, asIntOf_int, run_underlying q1 w, hv, Instr.sureAddr, h0, hn, hs, addr_add]
    · cases h
  · rename_i n et b cs bi k1 k ht h1 h2
    split at h
    · rename_i ti hti
      simp only [Option.map_eq_some_iff, Prod.mk.injEq] at h
      obtain ⟨y, hy, rfl, rfl⟩ := h
      obtain ⟨hb, h0, hn, hfit⟩ := hp
      simp only [Bool.and_eq_true] at hb
      obtain ⟨ow, hr⟩ := arg_sound hc h1 hb.1
      have hr2 : Rep g w (.ref (.agg cs)) (a.eval X) := hr
      have hI := (arg_sc hc h2 hb.2).1
      generalize hv : a.eval X = v at hr2
      obtain ⟨desc, q1, q2⟩ := (hT.fact ht).under
      have hs := (hT.fact hti).sizeOf w
      cases desc <;> simp only [sameKind, Bool.false_eq_true] at q2
      simp only [Bool.and_eq_true, beq_iff_eq] at q2
      obtain ⟨rfl, rfl⟩ := q2
      have hr3 := hr2
      cases hr2 with
      | ref _ B off ff hf hcl hoo hrr =>
        refine pures_value (s := Instr.indexAt t (a.eval X) (a.eval I)) (by simp [execOp, ho]) (v := .pointer (some ⟨B, off + k.toNat * ti.size, none⟩)) ?_ (ref_part hr3 hy hfit)
        simp [Instr.indexAt, hI, asIntOf_int, run_underlying q1 w, hv, Instr.sureAddr, h0, hn, hs, addr_add]
    · cases h
  · cases h

theorem run_load_ref {t : TypeId} {i : TI} (hf : TFact P t i) {y : AV} {v : Value} (hr : Rep g w (.ref y) v) (hfit : fits i y = true) : ∃ u B off, v = .pointer (some ⟨B, off, none⟩) ∧ (loadVar t ⟨B, off, none⟩).run P w = .ok u w ∧ Rep g w y u := by
  cases hr with
  | ref _ B off f hfz hcl hoo hrr =>
    cases hag : i.agg with
    | true =>
      cases y <;> simp only [fits, hag, Bool.not_true, Bool.false_eq_true, Bool.true_and, beq_iff_eq] at hfit
      rename_i cs
      simp only [AV.cells] at hfz hcl hoo hrr
      refine ⟨.agg ((List.range cs.length).map f).toArray, B, off, rfl, run_loadVar_agg hf hag (by simp [hfit]) (fun j v hv => ?_), .agg _ _ (by simp) (fun k u hu => ?_) fun k z u hz hu => ?_⟩
      · simp only [List.getElem?_map, Option.map_eq_some_iff] at hv
        obtain ⟨j', hj', rfl⟩ := hv
        have hlt := lt_of_getElem? hj'
        rw [List.getElem?_eq_getElem hlt] at hj'
        simp at hj' hlt
        subst hj'
        exact hcl j _ (List.getElem?_eq_getElem hlt)
      · simp only [List.getElem?_toArray, List.getElem?_map, Option.map_eq_some_iff] at hu
        obtain ⟨j', hj', rfl⟩ := hu
        have hlt := lt_of_getElem? hj'
        rw [List.getElem?_eq_getElem hlt] at hj'
        simp at hj' hlt
        subst hj'
        exact hoo k _ (List.getElem?_eq_getElem hlt)
      · simp only [List.getElem?_toArray, List.getElem?_map, Option.map_eq_some_iff] at hu
        obtain ⟨j', hj', rfl⟩ := hu
        have hlt := lt_of_getElem? hj'
        rw [List.getElem?_eq_getElem hlt] at hj'
        simp at hj' hlt
        subst hj'
        exact hrr k z hz
    | false =>
      have hyc : y.cells = [y] := by cases y <;> first | rfl | (simp [fits, hag] at hfit)
      have h0 : y.cells[0]? = some y := by rw [hyc]; rfl
      exact ⟨f 0, B, off, rfl, run_loadVar_one hf hag (by have := hcl 0 y h0; simpa using this), hrr 0 y h0⟩

theorem pure_load (hT : TOk P T) (hh : HRel g w H) (hc : Slots g w d e a) {o : Oper} {t X} (ho : o.op = .load t X) {p x} (h : apure T (.load t X) e H = some (p, x)) (hp : p) : Pures P g w a o x := by
  simp only [apure] at h
  split at h
  · rename_i i b y ht h1
    cases h
    obtain ⟨hb, hfit⟩ := hp
    obtain ⟨ow, hr⟩ := arg_sound hc h1 hb
    have hr2 : Rep g w (.ref _) (a.eval X) := hr
    obtain ⟨u, B, off, hv, hrun, hru⟩ := run_load_ref (hT.fact ht) hr2 hfit
    exact pures_value (s := Instr.loadAt t (a.eval X)) (by simp [execOp, ho]) (v := u) (by simp [Instr.loadAt, hv, Instr.sureAddr, hrun]) hru
  · rename_i i b B off ht h1
    have fin : ∀ (hb : b = true) {u : Value} {y : AV}, (loadVar t ⟨B, off, none⟩).run P w = .ok u w → Rep g w y u → Pures P g w a o y := by
      intro hb u y hrun hru
      have hv := (arg_sc hc h1 hb).1
      exact pures_value (s := Instr.loadAt t (a.eval X)) (by simp [execOp, ho]) (v := u) (by simp [Instr.loadAt, hv, Instr.sureAddr, hrun]) hru
    split at h
    · rename_i cs hB
      obtain ⟨_, c, E, k1, k2, k3, k4⟩ := hh B _ hB
      have cellAt : ∀ k u, c[k]? = some u → w.cell? ⟨B, k, none⟩ = some u := fun k u hu => by simp [World.cell?, k1, hu]
      split at h
      · rename_i hag
        split at h
        · rename_i hle
          cases h
          obtain ⟨hb, hall⟩ := hp
          refine fin hb (run_loadVar_agg (hT.fact ht) hag (vs := (c.toList.drop off).take i.size) (by simp; omega) (fun j v hv => ?_)) ?_
          · simp only [List.getElem?_take, List.getElem?_drop] at hv
            split at hv
            · exact cellAt _ _ (by simpa using hv)
            · cases hv
          · refine .agg _ _ (by simp; omega) (fun k u hu => ?_) fun k y u hy hu => ?_
            · simp only [List.getElem?_toArray, List.getElem?_take, List.getElem?_drop] at hu
              split at hu
              · have hlt := lt_of_getElem? hu
                simp at hlt
                exact (k4 (off + k) (cs[off + k]'(by omega)) u (by simp) (by simpa using hu)).2
              · cases hu
            simp only [List.getElem?_map, Option.map_eq_some_iff] at hy
            obtain ⟨y', hy', rfl⟩ := hy
            have hmem := List.mem_of_getElem? hy'
            rw [List.all_eq_true] at hall
            simp only [List.getElem?_toArray, List.getElem?_take, List.getElem?_drop] at hu hy'
            split at hy'
            · rename_i hk
              rw [if_pos hk] at hu
              exact slot_rep2 (k4 (off + k) y' u hy' (by simpa using hu)).1 (hall _ hmem)
            · cases hy'
        · cases h
      · rename_i hag
        have hag' : i.agg = false := by simpa using hag
        simp only [Option.map_eq_some_iff, Prod.mk.injEq] at h
        obtain ⟨y, hy, rfl, rfl⟩ := h
        simp only [Bool.and_eq_true] at hp
        have hlt := lt_of_getElem? hy
        rw [← k2] at hlt
        exact fin hp.1 (run_loadVar_one (hT.fact ht) hag' (cellAt off _ (by simp [hlt]; rfl))) (slot_rep (k4 off y _ hy (by simp [hlt])).1 hp.2)
    · rename_i cs hB
      obtain ⟨_, k0, c, E, fr, k1, k2, k4⟩ := hh B _ hB
      have cellAt : ∀ k u, c[k]? = some u → w.cell? ⟨B, k, none⟩ = some u := fun k u hu => by simp [World.cell?, k1, hu]
      simp only [Option.map_eq_some_iff, Prod.mk.injEq] at h
      obtain ⟨y, hy, rfl, rfl⟩ := h
      unfold Ab.part at hy
      split at hy
      · rename_i hag
        split at hy
        · rename_i hle
          cases hy
          refine fin hp (run_loadVar_agg (hT.fact ht) hag (vs := (c.toList.drop off).take i.size) (by simp; omega) (fun j v hv => ?_)) ?_
          · simp only [List.getElem?_take, List.getElem?_drop] at hv
            split at hv
            · exact cellAt _ _ (by simpa using hv)
            · cases hv
          · refine .agg _ _ (by simp; omega) (fun k u hu => ?_) fun k y u hy hu => ?_
            · simp only [List.getElem?_toArray, List.getElem?_take, List.getElem?_drop] at hu
              split at hu
              · have hlt := lt_of_getElem? hu
                simp at hlt
                exact (k4 (off + k) (cs[off + k]'(by omega)) u (by simp) (by simpa using hu)).2
              · cases hu
            simp only [List.getElem?_toArray, List.getElem?_take, List.getElem?_drop] at hu hy
            split at hy
            · rename_i hk
              rw [if_pos hk] at hu
              exact (k4 (off + k) y u hy (by simpa using hu)).1
            · cases hy
        · cases hy
      · rename_i hag
        have hag' : i.agg = false := by simpa using hag
        have hlt := lt_of_getElem? hy
        rw [← k2] at hlt
        exact fin hp (run_loadVar_one (hT.fact ht) hag' (cellAt off _ (by simp [hlt]; rfl))) (k4 off y _ hy (by simp [hlt])).1
    · cases h
  · cases h

end
end Go.Ab

/- Ab.Sound5: what apure says is what the model does: slices, lengths, conversions, building; all of it. -/
namespace Go.Ab

section
variable {P : Program} {T : Types} {g : Gh} {w : World} {d : Nat} {e : Env} {H : Hp} {a : Act}

theorem flat_append (xs ys : List AV) : flat (xs ++ ys) = flat xs ++ flat ys := by simp [flat]

theorem rep_sub {xs : List AV} {B off n cap s : Nat} (h : Rep g w (.lst 0 xs) (.slice (some ⟨B, off, none⟩) n cap)) {l k : Nat} (hlk : l + k ≤ xs.length) (hs : ∀ x ∈ xs, x.cells.length = s) (cap' : Nat) (hk : 0 < k) (hc' : k ≤ cap') :
    Rep g w (.lst 0 ((xs.drop l).take k)) (.slice (some ⟨B, off + l * s, none⟩) k cap') := by
  cases h with
  | nil => simp at hlk; omega
  | lst xs B off n cap s' f hn hcap hs' hx hf hc ho hr =>
    have hne : 0 < xs.length := by omega
    have hss : s' = s := by
      have := List.getElem_mem hne
      rw [← hx _ this, hs _ this]
    subst hss
    subst hn
    have hlen : ((xs.drop l).take k).length = k := by simp; omega
    have hget : ∀ (j : Nat) (y : AV), (flat ((xs.drop l).take k))[j]? = some y → (flat xs)[l * s' + j]? = some y := by
      intro j y hy
      have e1 : flat xs = flat (xs.take l) ++ flat (xs.drop l) := by rw [← flat_append, List.take_append_drop]
      have e2 : flat (xs.drop l) = flat ((xs.drop l).take k) ++ flat ((xs.drop l).drop k) := by rw [← flat_append, List.take_append_drop]
      have l1 : (flat (xs.take l)).length = l * s' := by
        rw [flat_length (fun x hx' => hx x (List.mem_of_mem_take hx'))]
        simp only [List.length_take]
        rw [Nat.min_eq_left (by omega)]
      rw [e1, List.getElem?_append_right (by omega), l1, show l * s' + j - l * s' = j by omega, e2, List.getElem?_append_left (lt_of_getElem? hy)]
      exact hy
    have hle : (l + k) * s' ≤ xs.length * s' := Nat.mul_le_mul_right s' hlk
    rw [Nat.add_mul] at hle
    exact .lst _ B _ k cap' s' (fun j => f (l * s' + j)) hlen.symm hc' hs' (fun x hx' => hx x (List.mem_of_mem_drop (List.mem_of_mem_take hx')))
      (by omega) (fun j y hy => by have := hc _ _ (hget j y hy); rwa [← Nat.add_assoc] at this) (fun j y hy => ho _ _ (hget j y hy)) (fun j y hy => hr _ _ (hget j y hy))

theorem run_bound {k : IntKind} {n : Int} {y : Nat} {code : BoundsCode} (h0 : 0 ≤ n) (h1 : n ≤ y) : (Instr.sliceBound (.int k n) y code).run P w = .ok n.toNat w := by
  simp [Instr.sliceBound, asIntOf_int, h0, h1]

theorem run_bounds (hc : Slots g w d e a) {sl : Bool} {len cap : Nat} (hlc : len ≤ cap) {lo hi : Option Operand} {bl bh : Bool} {kl kh : IntKind} {l h : Int}
    (h1 : (match lo with | none => some (true, AV.sc (.int .i64 0)) | some x => arg e x) = some (bl, .sc (.int kl l)))
    (h2 : (match hi with | none => some (true, AV.sc (.int .i64 len)) | some x => arg e x) = some (bh, .sc (.int kh h)))
    (hbl : bl = true) (hbh : bh = true) (g1 : 0 ≤ l) (g2 : l ≤ h) (g3 : h ≤ (len : Int)) :
    (Instr.sliceBounds sl len cap (lo.map a.eval) (hi.map a.eval) none).run P w = .ok (l.toNat, h.toNat, cap) w := by
  have e2 : ∀ (code : BoundsCode), hi = none ∨ ∃ X, hi = some X ∧ (Instr.sliceBound (a.eval X) cap code).run P w = .ok h.toNat w := by
    intro code
    cases hi with
    | none => exact .inl rfl
    | some X => exact .inr ⟨X, rfl, by rw [(arg_sc hc h2 hbh).1]; exact run_bound (by omega) (by omega)⟩
  have e1 : ∀ (code : BoundsCode), lo = none ∨ ∃ X, lo = some X ∧ (Instr.sliceBound (a.eval X) h.toNat code).run P w = .ok l.toNat w := by
    intro code
    cases lo with
    | none => exact .inl rfl
    | some X => exact .inr ⟨X, rfl, by rw [(arg_sc hc h1 hbl).1]; exact run_bound (by omega) (by omega)⟩
  have z1 : lo = none → l.toNat = 0 := by rintro rfl; simp only [Option.some.injEq, Prod.mk.injEq, AV.sc.injEq, Value.int.injEq] at h1; omega
  have z2 : hi = none → h.toNat = len := by rintro rfl; simp only [Option.some.injEq, Prod.mk.injEq, AV.sc.injEq, Value.int.injEq] at h2; omega
  rcases e2 (if sl then .sliceAcap else .sliceAlen) with q2 | ⟨X2, rfl, q2⟩ <;> rcases e1 .sliceB with q1 | ⟨X1, rfl, q1⟩
  · have y1 := z1 q1
    have y2 := z2 q2
    subst q1 q2
    simp [Instr.sliceBounds, y1, y2]
  · have y2 := z2 q2
    subst q2
    rw [y2] at q1
    simp [Instr.sliceBounds, q1, y2]
  · have y1 := z1 q1
    subst q1
    simp [Instr.sliceBounds, q2, y1]
  · simp [Instr.sliceBounds, q2, q1]

theorem pure_slice (hT : TOk P T) (hc : Slots g w d e a) {o : Oper} {t X lo hi} (ho : o.op = .slice t X lo hi none) {p x} (h : apure T (.slice t X lo hi none) e H = some (p, x)) (hp : p) : Pures P g w a o x := by
  simp only [apure] at h
  split at h
  · rename_i et b m xs ht h1
    split at h
    · rename_i ti bl kl l bh kh hh hti h2 h3
      cases h
      obtain ⟨hb, hm, g1, g2, g3, g4⟩ := hp
      simp only [Bool.and_eq_true] at hb
      obtain ⟨ow, hr⟩ := arg_sound hc h1 hb.1.1
      have hr2 := slot_lst hr hm
      obtain ⟨base, cap, hv, hbase⟩ := rep_lst_slice hr2
      have hcap : xs.length ≤ cap := by
        rw [hv] at hr2
        cases hr2 with
        | nil => simp
        | lst _ _ _ _ _ _ _ _ hcap => exact hcap
      obtain ⟨desc, q1, q2⟩ := (hT.fact ht).under
      have hs := (hT.fact hti).sizeOf w
      cases desc <;> simp only [sameKind, Bool.false_eq_true] at q2
      simp only [beq_iff_eq] at q2
      subst q2
      have hbd := run_bounds (P := P) (w := w) hc (sl := true) hcap h2 h3 hb.1.2 hb.2 g1 g2 g3
      have hu := run_underlying q1 w
      have hrun : (Instr.sliceAt t (a.eval X) (lo.map a.eval) (hi.map a.eval) none).run P w = .ok (.slice (if cap = l.toNat then base else base.map (·.add (l.toNat * ti.size))) (hh.toNat - l.toNat) (cap - l.toNat)) w := by
        simp [Instr.sliceAt, Instr.slice, hu, hv, hbd, hs]
      refine pures_value (s := Instr.sliceAt t (a.eval X) (lo.map a.eval) (hi.map a.eval) none) (by simp [execOp, ho]) hrun ?_
      by_cases hlh : l < hh
      · have hne : l.toNat < xs.length := by omega
        obtain ⟨B, off, rfl⟩ := hbase (by omega)
        have hcl : ¬ cap = l.toNat := by omega
        rw [if_neg hcl]
        simp only [Option.map_some, addr_add]
        rw [hv] at hr2
        have hsz := g4 hlh
        have hall : ∀ x ∈ xs, x.cells.length = ti.size := by
          cases hr2 with
          | nil => simp at hne
          | lst _ _ _ _ _ s f hn hcap hs' hx hf hcc hoo hrr =>
            have hmem : xs.getD l.toNat .und ∈ xs := by simp only [List.getD, List.getElem?_eq_getElem hne, Option.getD_some]; exact List.getElem_mem hne
            have := hx _ hmem
            rw [hsz] at this
            rw [this]; exact hx
        have := rep_sub hr2 (l := l.toNat) (k := hh.toNat - l.toNat) (by omega) hall (cap - l.toNat) (by omega) (by omega)
        rwa [show (hh - l).toNat = hh.toNat - l.toNat by omega]
      · have h0 : (hh - l).toNat = 0 := by omega
        rw [h0, show hh.toNat - l.toNat = 0 by omega]
        exact .nil _ _
    · cases h
  · rename_i b s ht h1
    split at h
    · rename_i bl kl l bh kh hh h2 h3
      cases h
      obtain ⟨hb, g1, g2, g3⟩ := hp
      simp only [Bool.and_eq_true] at hb
      have hv := (arg_sc hc h1 hb.1.1).1
      obtain ⟨desc, q1, q2⟩ := (hT.fact ht).under
      cases desc <;> simp only [sameKind, Bool.false_eq_true] at q2
      have hbd := run_bounds (P := P) (w := w) hc (sl := false) (Nat.le_refl s.size) h2 h3 hb.1.2 hb.2 g1 g2 g3
      have hu := run_underlying q1 w
      exact pures_value (s := Instr.sliceAt t (a.eval X) (lo.map a.eval) (hi.map a.eval) none) (by simp [execOp, ho]) (v := .string (s.extract l.toNat hh.toNat)) (by simp [Instr.sliceAt, Instr.slice, hu, hv, hbd]) (.sc _ rfl)
    · cases h
  · cases h

theorem slot_lst_len {o : Owner} {m : Nat} {xs : List AV} {v : Value} (h : SlotRep g w o (.lst m xs) v) : ∃ base cap, v = .slice base xs.length cap := by
  by_cases hm : m = 2
  · subst hm
    rcases h with ⟨base, rfl, rfl⟩ | ⟨B, off, cap, s, c, E, f, hv, _⟩
    · exact ⟨base, 0, rfl⟩
    · exact ⟨_, cap, hv⟩
  · obtain ⟨base, cap, hv, _⟩ := rep_lst_slice (slot_lst h hm)
    exact ⟨base, cap, hv⟩

theorem pure_len (hT : TOk P T) (hc : Slots g w d e a) {o : Oper} {c : Call} (ho : o.op = .call c) (hcal : c.callee = .builtin .len) {p x} (h : apure T (.call c) e H = some (p, x)) (hp : p) : Pures P g w a o x := by
  obtain ⟨callee, as, ts⟩ := c
  simp only at hcal
  subst hcal
  simp only [apure] at h
  split at h
  · rename_i X t has hts
    have fin : ∀ {n : Nat}, (Builtin.len_ ts o.type #[a.eval X]).run P w = .ok (goInt n) w → Pures P g w a o (.sc (.int .i64 n)) := by
      intro n hr
      have has2 : as = #[X] := by cases as; simp_all
      exact ⟨goInt n, by simp [execOp, ho, resolve, invoke, builtin, has2, hr], .sc _ rfl⟩
    have hts2 : ts = #[t] := by cases ts; simp_all
    subst hts2
    split at h
    · rename_i et b m xs ht h1
      cases h
      obtain ⟨ow, hr⟩ := arg_sound hc h1 hp
      obtain ⟨base, cap, hv⟩ := slot_lst_len hr
      obtain ⟨desc, q1, q2⟩ := (hT.fact ht).under
      cases desc <;> simp only [sameKind, Bool.false_eq_true] at q2
      exact fin (by simp [Builtin.len_, run_underlying q1 w, hv])
    · rename_i et b ba n ca ht h1
      cases h
      have hv := (arg_sc hc h1 hp).1
      obtain ⟨desc, q1, q2⟩ := (hT.fact ht).under
      cases desc <;> simp only [sameKind, Bool.false_eq_true] at q2
      exact fin (by simp [Builtin.len_, run_underlying q1 w, hv])
    · rename_i b s ht h1
      cases h
      have hv := (arg_sc hc h1 hp).1
      obtain ⟨desc, q1, q2⟩ := (hT.fact ht).under
      cases desc <;> simp only [sameKind, Bool.false_eq_true] at q2
      exact fin (by simp [Builtin.len_, run_underlying q1 w, hv])
    · cases h
  · cases h

theorem isByte_sc {x : AV} (h : isByte x = true) : ∃ n : Int, x = .sc (.int .u8 n) := by
  unfold isByte at h
  split at h
  · exact ⟨_, rfl⟩
  · cases h

theorem flat_bytes : ∀ (xs : List AV), (∀ x ∈ xs, ∃ n : Int, x = .sc (.int .u8 n)) → flat xs = xs
  | [], _ => rfl
  | x :: xs, h => by
    obtain ⟨n, rfl⟩ := h x (by simp)
    have ih := flat_bytes xs fun y hy => h y (by simp [hy])
    simp only [flat, List.flatMap_cons] at ih ⊢
    rw [ih]
    rfl

theorem str_bytes (f : Nat → Value) : ∀ (l : List AV) (j0 : Nat), (∀ (j : Nat) (x : AV), l[j]? = some x → ∃ n : Int, x = .sc (.int .u8 n) ∧ f (j0 + j) = .int .u8 n) →
    ∃ ns : List Int, ns.length = l.length ∧ (∀ (j : Nat) (n : Int), ns[j]? = some n → f (j0 + j) = .int .u8 n) ∧ ∀ r : ByteArray, ns.foldl (fun r n => r.push (UInt8.ofNat n.toNat)) r = r ++ str l
  | [], _, _ => ⟨[], rfl, by simp, fun r => by apply ByteArray.ext; simp [str, ByteArray.data_append]⟩
  | x :: l, j0, hh => by
    obtain ⟨n, rfl, hfn⟩ := hh 0 x rfl
    obtain ⟨ns, k1, k2, k3⟩ := str_bytes f l (j0 + 1) fun j x hj => by have := hh (j + 1) x (by simpa using hj); rwa [show j0 + (j + 1) = j0 + 1 + j by omega] at this
    refine ⟨n :: ns, by simp [k1], fun j m hj => ?_, fun r => ?_⟩
    · cases j with
      | zero => simp at hj; subst hj; exact hfn
      | succ j => have := k2 j m (by simpa using hj); rwa [show j0 + 1 + j = j0 + (j + 1) by omega] at this
    · rw [List.foldl_cons, k3]
      apply ByteArray.ext
      simp [str, byteOf, ByteArray.data_append]

theorem run_str {xs : List AV} {v : Value} (hr : Rep g w (.lst 0 xs) v) (hall : xs.all isByte = true) : (Conv.bytesToString v).run P w = .ok (.string (str xs)) w := by
  cases hr with
  | nil base cap =>
    cases base with
    | none => simp [Conv.bytesToString, str]; rfl
    | some ad =>
      rw [run_bytesToString (P := P) w ad 0 cap [] (by simp [loadCells, loadCellsFrom])]
      rfl
  | lst xs B off n cap s f hn hcap hs' hx hf hcc hoo hrr =>
    have hby : ∀ x ∈ xs, ∃ n : Int, x = .sc (.int .u8 n) := fun x hx' => isByte_sc (List.all_eq_true.1 hall x hx')
    rw [flat_bytes xs hby] at hcc hrr
    subst hn
    obtain ⟨ns, k1, k2, k3⟩ := str_bytes f xs 0 fun j x hj => by
      obtain ⟨n, rfl⟩ := hby x (List.mem_of_getElem? hj)
      exact ⟨n, rfl, by rw [Nat.zero_add]; exact (slot_sc (o := .blk) (hrr j _ hj)).1⟩
    have hrun := run_bytesToString (P := P) w ⟨B, off, none⟩ xs.length cap ns (by
      have := run_loadCells_list (P := P) w ⟨B, off, none⟩ (ns.map fun n => .int .u8 n) (fun j v hv => by
        simp only [List.getElem?_map, Option.map_eq_some_iff] at hv
        obtain ⟨m, hm', rfl⟩ := hv
        have h2 := k2 j m hm'
        rw [Nat.zero_add] at h2
        rw [addr_add]
        have hj := lt_of_getElem? hm'
        rw [k1] at hj
        rw [hcc j _ (List.getElem?_eq_getElem hj), h2])
      simpa [k1] using this)
    rw [hrun, k3]
    congr 2

theorem pure_convert (hT : TOk P T) (hc : Slots g w d e a) {o : Oper} {s dt X} (ho : o.op = .convert s dt X) {p x} (h : apure T (.convert s dt X) e H = some (p, x)) (hp : p) : Pures P g w a o x := by
  simp only [apure] at h
  split at h
  · rename_i si k zz b k' n hs hd h1
    cases h
    have hv := (arg_sc hc h1 hp).1
    obtain ⟨ds, r1, r2⟩ := (hT.fact hs).under
    obtain ⟨desc, q1, q2⟩ := (hT.fact hd).under
    cases desc <;> simp only [sameKind, Bool.false_eq_true] at q2
    simp only [beq_iff_eq] at q2
    subst q2
    refine pures_value (s := Go.convert s dt (a.eval X)) (by simp [execOp, ho]) (v := .int k (k.wrap n)) ?_ (.sc _ rfl)
    simp [Go.convert, run_underlying r1 w, run_underlying q1 w, hv, Conv.intToInt]
  · rename_i si b s' hs hd h1
    cases h
    have hv := (arg_sc hc h1 hp).1
    obtain ⟨ds, r1, r2⟩ := (hT.fact hs).under
    obtain ⟨desc, q1, q2⟩ := (hT.fact hd).under
    cases desc <;> simp only [sameKind, Bool.false_eq_true] at q2
    refine pures_value (s := Go.convert s dt (a.eval X)) (by simp [execOp, ho]) (v := .string s') ?_ (.sc _ rfl)
    cases ds <;> simp [Go.convert, run_underlying r1 w, run_underlying q1 w, hv]
  · rename_i et b m xs hs hd h1
    split at h
    · rename_i hte
      cases h
      obtain ⟨hb, hm, hall⟩ := hp
      obtain ⟨ow, hr⟩ := arg_sound hc h1 hb
      have hr2 := slot_lst hr hm
      obtain ⟨ds, r1, r2⟩ := (hT.fact hs).under
      obtain ⟨desc, q1, q2⟩ := (hT.fact hd).under
      obtain ⟨de, e1, e2⟩ := (hT.fact hte).under
      cases desc <;> simp only [sameKind, Bool.false_eq_true] at q2
      cases ds <;> simp only [sameKind, Bool.false_eq_true] at r2
      cases de <;> simp only [sameKind, Bool.false_eq_true] at e2
      simp only [beq_iff_eq] at r2 e2
      subst r2 e2
      refine pures_value (s := Go.convert s dt (a.eval X)) (by simp [execOp, ho]) (v := .string (str xs)) ?_ (.sc _ rfl)
      suffices hbs : (Conv.bytesToString (a.eval X)).run P w = .ok (.string (str xs)) w by
        obtain ⟨base, cap, hv, _⟩ := rep_lst_slice hr2
        rw [hv] at hbs ⊢
        cases base <;> simp [Go.convert, run_underlying r1 w, run_underlying q1 w, run_underlying e1 w, hbs]
      exact run_str hr2 hall
    · cases h
  · cases h

end
end Go.Ab

/- Ab.Sound6: building structs and arrays; function values; all pure operations. -/
namespace Go.Ab

section
variable {P : Program} {T : Types} {g : Gh} {w : World} {d : Nat} {e : Env} {H : Hp} {a : Act}

theorem set_fold (off : Nat) : ∀ (l : List Value) (n : Nat) (c : Array Value), off + n + l.length ≤ c.size →
    ((l.zipIdx n).foldl (fun cs (p : Value × Nat) => cs.setIfInBounds (off + p.2) p.1) c).size = c.size ∧
    ∀ k : Nat, ((l.zipIdx n).foldl (fun cs (p : Value × Nat) => cs.setIfInBounds (off + p.2) p.1) c)[k]? = if off + n ≤ k ∧ k < off + n + l.length then l[k - (off + n)]? else c[k]?
  | [], n, c, _ => ⟨rfl, fun k => by simp; omega⟩
  | v :: l, n, c, h => by
    simp only [List.length_cons] at h
    obtain ⟨h1, h2⟩ := set_fold off l (n + 1) (c.setIfInBounds (off + n) v) (by simp; omega)
    simp only [List.zipIdx_cons, List.foldl_cons]
    refine ⟨by rw [h1]; simp, fun k => ?_⟩
    rw [h2 k]
    by_cases hk : k = off + n
    · subst hk
      rw [if_neg (by omega), if_pos (by simp)]
      rw [Array.getElem?_setIfInBounds_self_of_lt (by omega)]
      simp
    · rw [Array.getElem?_setIfInBounds_ne (by omega)]
      by_cases hk2 : off + (n + 1) ≤ k ∧ k < off + (n + 1) + l.length
      · rw [if_pos hk2, if_pos (by simp; omega), show k - (off + n) = (k - (off + (n + 1))) + 1 by omega]
        simp
      · rw [if_neg hk2, if_neg (by simp; omega)]

def RepC (g : Gh) (w : World) (cs : List AV) (c : Array Value) : Prop := c.size = cs.length ∧ (∀ (i : Nat) (v : Value), c[i]? = some v → one v = true) ∧ ∀ (i : Nat) (x : AV) (v : Value), cs[i]? = some x → c[i]? = some v → Rep g w x v

theorem fill_sound (place : Nat → Option (Nat × Nat)) : ∀ (qs : List (Nat × AV)) (ps : List (Nat × Value)) (cs cs' : List AV) (c : Array Value), RepC g w cs c → qs.length = ps.length →
    (∀ (k : Nat) (q : Nat × AV) (p : Nat × Value), qs[k]? = some q → ps[k]? = some p → q.1 = p.1 ∧ q.2.good = true ∧ Rep g w q.2 p.2) → afill place cs qs = some cs' →
    ∃ c', Instr.fill place c ps = some c' ∧ RepC g w cs' c'
  | [], [], cs, cs', c, hr, _, _, h => by simp only [afill, Option.some.injEq] at h; subst h; exact ⟨c, rfl, hr⟩
  | (i, x) :: qs, (i', v) :: ps, cs, cs', c, hr, hl, hq, h => by
    obtain ⟨hi, hg, hx⟩ := hq 0 _ _ rfl rfl
    simp only at hi hg hx
    subst hi
    obtain ⟨hsz, hone, hcell⟩ := rep_good_cells hg hx
    simp only [afill] at h
    split at h
    · cases h
    · rename_i off size hpl
      split at h
      · rename_i hc
        obtain ⟨hc1, hc2⟩ := hc
        obtain ⟨hr1, ho1, hr2⟩ := hr
        have hle : off + 0 + v.cells.toList.length ≤ c.size := by simp; omega
        obtain ⟨f1, f2⟩ := set_fold off v.cells.toList 0 c hle
        have hc' : Instr.fill place c ((i, v) :: ps) = Instr.fill place ((v.cells.toList.zipIdx 0).foldl (fun cs (p : Value × Nat) => cs.setIfInBounds (off + p.2) p.1) c) ps := by
          simp only [Instr.fill, hpl]
          rw [if_neg (by simp; omega), ← Array.foldl_toList, Array.toList_zipIdx]
        rw [hc']
        refine fill_sound place qs ps _ cs' _ ⟨?_, fun k u hu => ?_, fun k y u hy hu => ?_⟩ (by simpa using hl) (fun k q p h1 h2 => hq (k + 1) q p (by simpa using h1) (by simpa using h2)) h
        · rw [f1]; simp; omega
        · rw [f2 k] at hu
          split at hu
          · exact hone _ u (by simpa using hu)
          · exact ho1 k u hu
        · rw [f2 k] at hu
          simp only [Nat.add_zero, Array.length_toList] at hu
          by_cases hk : off ≤ k ∧ k < off + v.cells.size
          · rw [if_pos hk] at hu
            rw [List.append_assoc, List.getElem?_append_right (by simp; omega), List.getElem?_append_left (by simp; omega)] at hy
            have e1 : k - (cs.take off).length = k - off := by simp; omega
            rw [e1] at hy
            exact hcell (k - off) y u hy (by simpa using hu)
          · rw [if_neg hk] at hu
            by_cases hlo : k < off
            · rw [List.append_assoc, List.getElem?_append_left (by simp; omega), List.getElem?_take, if_pos hlo] at hy
              exact hr2 k y u hy hu
            · rw [List.append_assoc, List.getElem?_append_right (by simp; omega), List.getElem?_append_right (by simp; omega), List.getElem?_drop] at hy
              have e1 : off + size + (k - (cs.take off).length - x.cells.length) = k := by simp; omega
              rw [e1] at hy
              exact hr2 k y u hy hu
      · cases h
  | [], _ :: _, _, _, _, _, hl, _, _ => by simp at hl
  | _ :: _, [], _, _, _, _, hl, _, _ => by simp at hl

theorem strip_strip (x : AV) : x.strip.strip = x.strip := by cases x <;> rfl
theorem good_strip (x : AV) : x.strip.good = x.good := by cases x <;> rfl

theorem pargs_sound (hc : Slots g w d e a) : ∀ (l : List (Nat × Operand)) (b : Bool) (qs : List (Nat × AV)), pargs e l = some (b, qs) → b = true →
    qs.length = l.length ∧ ∀ (k : Nat) (q : Nat × AV) (p : Nat × Operand), qs[k]? = some q → l[k]? = some p → q.1 = p.1 ∧ q.2.good = true ∧ Rep g w q.2 (a.eval p.2)
  | [], b, qs, h, _ => by simp only [pargs, Option.some.injEq, Prod.mk.injEq] at h; obtain ⟨_, rfl⟩ := h; simp
  | (i, X) :: l, b, qs, h, hb => by
    simp only [pargs] at h
    split at h
    · rename_i b1 x c as h1 h2
      simp only [Option.some.injEq, Prod.mk.injEq] at h
      obtain ⟨rfl, rfl⟩ := h
      simp only [Bool.and_eq_true] at hb
      obtain ⟨k1, k2⟩ := pargs_sound hc l c as h2 hb.2
      refine ⟨by simp [k1], fun k q p hq hp => ?_⟩
      cases k with
      | zero =>
        simp at hq hp; subst hq hp
        exact ⟨rfl, by rw [good_strip]; exact hb.1.2, arg_rep hc h1 (by simp [hb.1.1.1, hb.1.1.2])⟩
      | succ k => exact k2 k q p (by simpa using hq) (by simpa using hp)
    · cases h

theorem good_plain (x : AV) : x.plain.good = x.good := by cases x <;> rfl

theorem qargs_sound (hc : Slots g w d e a) : ∀ (l : List (Nat × Operand)) (b : Bool) (qs : List (Nat × AV)), qargs e l = some (b, qs) → b = true →
    qs.length = l.length ∧ ∀ (k : Nat) (q : Nat × AV) (p : Nat × Operand), qs[k]? = some q → l[k]? = some p → q.1 = p.1 ∧ q.2.good = true ∧ Rep g w q.2 (a.eval p.2)
  | [], b, qs, h, _ => by simp only [qargs, Option.some.injEq, Prod.mk.injEq] at h; obtain ⟨_, rfl⟩ := h; simp
  | (i, X) :: l, b, qs, h, hb => by
    simp only [qargs] at h
    split at h
    · rename_i b1 x c as h1 h2
      simp only [Option.some.injEq, Prod.mk.injEq] at h
      obtain ⟨rfl, rfl⟩ := h
      simp only [Bool.and_eq_true] at hb
      obtain ⟨k1, k2⟩ := qargs_sound hc l c as h2 hb.2
      refine ⟨by simp [k1], fun k q p hq hp => ?_⟩
      cases k with
      | zero =>
        simp at hq hp; subst hq hp
        exact ⟨rfl, by rw [good_plain]; exact hb.1.2, (by obtain ⟨o, ho⟩ := arg_sound hc h1 hb.1.1.1; exact slot_plain ho hb.1.1.2)⟩
      | succ k => exact k2 k q p (by simpa using hq) (by simpa using hp)
    · cases h

theorem zero_rep {v : Value} (h : sameConst v v = true) : Rep g w (aval v) v := by
  have ho : one v = true := by
    cases v <;> first | rfl | (simp [sameConst] at h)
  unfold aval
  split
  · exact .nil2 none
  · exact .sc v ho

theorem zeros_rep {z : List Value} (h : ∀ v ∈ z, sameConst v v = true) : RepC g w (z.map aval) z.toArray := by
  refine ⟨by simp, fun i v hv => ?_, fun i x v hx hv => ?_⟩
  · have := h v (List.mem_of_getElem? (by simpa using hv))
    cases v <;> first | rfl | (simp [sameConst] at this)
  simp only [List.getElem?_map, Option.map_eq_some_iff] at hx
  obtain ⟨u, hu, rfl⟩ := hx
  simp only [List.getElem?_toArray] at hv
  rw [hu] at hv
  simp only [Option.some.injEq] at hv
  subst hv
  exact zero_rep (h _ (List.mem_of_getElem? hu))

theorem places_sound (hT : TOk P T) : ∀ (gs : List Field) (pl : List (Nat × Nat)), places T (gs.map fun f => (f.offset, f.type)) = some pl → gs.mapM (fun f => (P.info? f.type).map fun i => (f.offset, i.size)) = some pl
  | [], pl, h => by simp only [List.map_nil, places, Option.some.injEq] at h; subst h; rfl
  | f :: gs, pl, h => by
    simp only [List.map_cons, places] at h
    split at h
    · rename_i i r h1 h2
      cases h
      obtain ⟨info, k1, k2, _⟩ := (hT.fact h1).info
      simp [List.mapM_cons, k1, places_sound hT gs r h2, k2]
    · cases h

theorem pure_build (hT : TOk P T) (hc : Slots g w d e a) {o : Oper} {t ps} (ho : o.op = .build t ps) {p x} (h : apure T (.build t ps) e H = some (p, x)) (hp : p) : Pures P g w a o x := by
  have fin : ∀ {cs : List AV} {c : Array Value}, P.built t (ps.map fun (i, x) => (i, a.eval x)).toList = some c → RepC g w cs c → Pures P g w a o (.agg cs) := by
    intro cs c h1 h2
    exact pures_value (s := Instr.build t (ps.map fun (i, x) => (i, a.eval x))) (by simp [execOp, ho]) (run_build w t _ c h1) (.agg _ _ h2.1 h2.2.1 h2.2.2)
  simp only [apure] at h
  split at h
  · rename_i fs z b qs ht h1
    split at h
    · rename_i pl hpl
      simp only [Option.map_eq_some_iff, Prod.mk.injEq] at h
      obtain ⟨cs, hcs, rfl, rfl⟩ := h
      have hf := hT.fact ht
      obtain ⟨desc, q1, q2⟩ := hf.under
      cases desc <;> simp only [sameKind, Bool.false_eq_true] at q2
      rename_i fields
      simp only [beq_iff_eq] at q2
      rw [q2] at hpl
      have hpl2 := places_sound hT _ _ hpl
      obtain ⟨info, i1, i2, i3, zv, i4, i5, i6⟩ := hf.info
      obtain ⟨l1, l2⟩ := pargs_sound hc ps.toList b qs h1 hp
      obtain ⟨c', c1, c2⟩ := fill_sound (fun i => pl[i]?) qs (ps.toList.map fun (i, x) => (i, a.eval x)) _ cs z.toArray (zeros_rep hf.plain) (by simp [l1]) (fun k q p hq hp' => by
        simp only [List.getElem?_map, Option.map_eq_some_iff] at hp'
        obtain ⟨p', hp1, rfl⟩ := hp'
        exact l2 k q p' hq hp1) hcs
      refine fin ?_ c2
      simp only at i5
      simp only [Program.built, i1, q1, i4, hpl2, Array.toList_map]
      rw [show zv.cells = z.toArray from by rw [← i5]]
      simpa using c1
    · cases h
  · rename_i n et z b qs ht h1
    split at h
    · rename_i ti hti
      simp only [Option.map_eq_some_iff, Prod.mk.injEq] at h
      obtain ⟨cs, hcs, rfl, rfl⟩ := h
      have hf := hT.fact ht
      obtain ⟨desc, q1, q2⟩ := hf.under
      cases desc <;> simp only [sameKind, Bool.false_eq_true] at q2
      simp only [Bool.and_eq_true, beq_iff_eq] at q2
      obtain ⟨rfl, rfl⟩ := q2
      obtain ⟨info, i1, i2, i3, zv, i4, i5, i6⟩ := hf.info
      obtain ⟨einfo, e1, e2, _⟩ := (hT.fact hti).info
      obtain ⟨l1, l2⟩ := pargs_sound hc ps.toList b qs h1 hp
      obtain ⟨c', c1, c2⟩ := fill_sound (fun i => some (i * ti.size, ti.size)) qs (ps.toList.map fun (i, x) => (i, a.eval x)) _ cs z.toArray (zeros_rep hf.plain) (by simp [l1]) (fun k q p hq hp' => by
        simp only [List.getElem?_map, Option.map_eq_some_iff] at hp'
        obtain ⟨p', hp1, rfl⟩ := hp'
        exact l2 k q p' hq hp1) hcs
      refine fin ?_ c2
      simp only at i5
      simp only [Program.built, i1, q1, i4, e1, Array.toList_map, e2]
      rw [show zv.cells = z.toArray from by rw [← i5]]
      exact c1
    · cases h
  · cases h

theorem args_sound (hc : Slots g w d e a) : ∀ (l : List Operand) (b : Bool) (xs : List AV), args e l = some (b, xs) → b = true →
    xs.length = l.length ∧ ∀ (k : Nat) (x : AV) (X : Operand), xs[k]? = some x → l[k]? = some X → Rep g w x (a.eval X)
  | [], b, xs, h, _ => by simp only [args, Option.some.injEq, Prod.mk.injEq] at h; obtain ⟨_, rfl⟩ := h; simp
  | X :: l, b, xs, h, hb => by
    simp only [args] at h
    split at h
    · rename_i b1 x c as h1 h2
      simp only [Option.some.injEq, Prod.mk.injEq] at h
      obtain ⟨rfl, rfl⟩ := h
      simp only [Bool.and_eq_true] at hb
      obtain ⟨k1, k2⟩ := args_sound hc l c as h2 hb.2
      refine ⟨by simp [k1], fun k y Y hy hY => ?_⟩
      cases k with
      | zero => simp at hy hY; subst hy hY; exact (by obtain ⟨o, ho⟩ := arg_sound hc h1 hb.1.1; exact slot_plain ho hb.1.2)
      | succ k => exact k2 k y Y (by simpa using hy) (by simpa using hY)
    · cases h

theorem scs_rep : ∀ {xs : List AV} {us : List Value}, scs xs = some us → ∀ {vs : List Value}, vs.length = xs.length →
    (∀ (k : Nat) (x : AV) (v : Value), xs[k]? = some x → vs[k]? = some v → Rep g w x v) → vs = us
  | [], us, h, vs, hl, _ => by simp only [scs, Option.some.injEq] at h; subst h; simpa using hl
  | x :: xs, us, h, vs, hl, hr => by
    unfold scs at h
    split at h
    · rename_i heq; cases heq
    · rename_i heq
      cases heq
      rename_i u l
      simp only [Option.map_eq_some_iff] at h
      obtain ⟨us', h1, rfl⟩ := h
      cases vs with
      | nil => simp at hl
      | cons v vs =>
        have h0 := hr 0 _ _ rfl rfl
        have h2 := scs_rep h1 (vs := vs) (by simpa using hl) fun k x v hx hv => hr (k + 1) x v (by simpa using hx) (by simpa using hv)
        rw [(slot_sc (o := .blk) h0).1, h2]
    · cases h

theorem args_scs (hc : Slots g w d e a) {l : List Operand} {b : Bool} {xs : List AV} (h : args e l = some (b, xs)) (hb : b = true) {us : List Value} (hs : scs xs = some us) : l.map a.eval = us := by
  obtain ⟨k1, k2⟩ := args_sound hc l b xs h hb
  exact scs_rep hs (by simp [k1]) fun k x v hx hv => by
    simp only [List.getElem?_map, Option.map_eq_some_iff] at hv
    obtain ⟨X, hX, rfl⟩ := hv
    exact k2 k x X hx hX

theorem pure_makeFunc (hc : Slots g w d e a) {o : Oper} {fn fi ca} (ho : o.op = .makeFunc fn fi ca) {p x} (h : apure T (.makeFunc fn fi ca) e H = some (p, x)) (hp : p) : Pures P g w a o x := by
  simp only [apure] at h
  split at h
  · rename_i b xs c ys h1 h2
    split at h
    · rename_i us vs h3 h4
      cases h
      simp only [Bool.and_eq_true] at hp
      have e1 := args_scs hc h1 hp.1 h3
      have e2 := args_scs hc h2 hp.2 h4
      refine pures_value (s := Instr.makeFunc fn (fi.map a.eval) (ca.map a.eval)) (by simp [execOp, ho]) (v := .func fn us.toArray vs.toArray) ?_ (.sc _ rfl)
      have f1 : fi.map a.eval = us.toArray := by apply Array.ext'; simpa using e1
      have f2 : ca.map a.eval = vs.toArray := by apply Array.ext'; simpa using e2
      simp [Instr.makeFunc, f1, f2]
    · cases h
  · cases h

theorem agg_scs {cs : List AV} {v : Value} (h : Rep g w (.agg cs) v) {us : List Value} (hs : scs cs = some us) : v = .agg us.toArray := by
  cases h with
  | agg _ vs hl _ hr =>
    have := scs_rep hs (vs := vs.toList) (by simpa using hl) fun k x v hx hv => hr k x v hx (by simpa using hv)
    rw [← this]

theorem pure_makeInterface (hT : TOk P T) (hc : Slots g w d e a) {o : Oper} {t X} (ho : o.op = .makeInterface t X) {p x} (h : apure T (.makeInterface t X) e H = some (p, x)) (hp : p) : Pures P g w a o x := by
  have fin : ∀ {i : TI} {v : Value}, T t = some i → (∀ s b z, i ≠ ⟨s, b, .iface, z⟩) → a.eval X = v → Pures P g w a o (.sc (.iface t v)) := by
    intro i v ht hn hv
    obtain ⟨desc, q1, q2⟩ := (hT.fact ht).under
    refine pures_value (s := Instr.makeInterface t (a.eval X)) (by simp [execOp, ho]) (v := .iface t v) ?_ (.sc _ rfl)
    have : ∀ ms, desc ≠ .interface ms := by
      rintro ms rfl
      obtain ⟨s, b, k, z⟩ := i
      cases k <;> simp only [sameKind, Bool.false_eq_true] at q2
      exact hn _ _ _ rfl
    rw [hv]
    cases desc <;> first | exact absurd rfl (this _) | simp [Instr.makeInterface, run_underlying q1 w]
  simp only [apure] at h
  split at h
  · cases h
  · rename_i i b v hn ht h1
    cases h
    exact fin ht (fun s b z hz => hn s b z hz) (arg_sc hc h1 hp).1
  · rename_i i b cs hn ht h1
    simp only [Option.map_eq_some_iff, Prod.mk.injEq] at h
    obtain ⟨us, h2, rfl, rfl⟩ := h
    obtain ⟨ow, hr⟩ := arg_sound hc h1 hp
    exact fin ht (fun s b z hz => hn s b z hz) (agg_scs (show Rep g w (.agg cs) _ from hr) h2)
  · cases h

/-- Whatever apure takes, the model does. -/
theorem apure_sound (hT : TOk P T) (hh : HRel g w H) (hc : Slots g w d e a) {o : Oper} {p x} (h : apure T o.op e H = some (p, x)) (hp : p) : Pures P g w a o x := by
  generalize ho : o.op = op at h
  cases op with
  | move X => exact pure_move hc (.inl ho) h hp
  | assign X => exact pure_move (T := T) (H := H) hc (.inr ho) h hp
  | pick c x y => exact pure_pick hc ho h hp
  | nilCheck x => exact pure_nilCheck hc ho h hp
  | binOp op t x y u => exact pure_binOp hT hc ho h hp
  | unOp op t x => exact pure_unOp hc ho h hp
  | convert s t x => exact pure_convert hT hc ho h hp
  | extract x i => exact pure_extract hc ho h hp
  | field t x f => exact pure_field hT hc ho h hp
  | index t x i => exact pure_index hT hc ho h hp
  | fieldAddr t x f => exact pure_fieldAddr hT hc ho h hp
  | indexAddr t x i => exact pure_indexAddr hT hc ho h hp
  | load t x => exact pure_load hT hh hc ho h hp
  | build t ps => exact pure_build hT hc ho h hp
  | makeFunc fn fi ca => exact pure_makeFunc hc ho h hp
  | makeInterface t x => exact pure_makeInterface hT hc ho h hp
  | slice t x lo hi mx => cases mx with
    | none => exact pure_slice hT hc ho h hp
    | some m => cases h
  | call c =>
    obtain ⟨callee, as, ts⟩ := c
    cases callee with
    | builtin b => cases b <;> first | exact pure_len hT hc ho rfl h hp | (simp [apure] at h)
    | value _ => cases h
    | invoke _ _ => cases h
  | _ => cases h

end
end Go.Ab

/- Ab.Ops: operations one behind another; the step of a pure operation, guarded or not. -/
namespace Go.Ab

section
variable {P : Program} {T : Types} {C : Cx} {e : Env} {H : Hp}

/-- All that is left of a region. Kx: what holds behind it, by how it ends. -/
def AOps (P : Program) (C : Cx) (ops : Array Oper) (l : List Nat) (Kx : Exit → Env → Hp → Prop) (e : Env) (H : Hp) : Prop :=
  ∀ g a w, SRel g C e H a w → ∀ Q : Exit → Act → World → Prop,
    (∀ ex g' a' w' e' H', Guar C.d H H' g w g' w' → SRel g' C e' H' a' w' → Kx ex e' H' → Q ex a' w') → wpOps P ops Q l a w

/-- One operation: K behind it, Kx where it panics. -/
def AOp (P : Program) (C : Cx) (ops : Array Oper) (i : Nat) (K : Env → Hp → Prop) (Kx : Exit → Env → Hp → Prop) (e : Env) (H : Hp) : Prop :=
  ∀ g a w, SRel g C e H a w → ∀ (NX : Act → World → Prop) (Q : Exit → Act → World → Prop),
    (∀ g' a' w' e' H', Guar C.d H H' g w g' w' → SRel g' C e' H' a' w' → K e' H' → NX a' w') →
    (∀ ex g' a' w' e' H', Guar C.d H H' g w g' w' → SRel g' C e' H' a' w' → Kx ex e' H' → Q ex a' w') → wpOp P ops Q i NX a w

theorem AOps_nil {ops : Array Oper} {Kx : Exit → Env → Hp → Prop} (h : Kx .normal e H) : AOps P C ops [] Kx e H := by
  intro g a w hr Q hQ
  exact hQ .normal g a w e H .refl hr h

theorem AOps_cons {ops : Array Oper} {i : Nat} {l : List Nat} {Kx : Exit → Env → Hp → Prop} (h : AOp P C ops i (AOps P C ops l Kx) Kx e H) : AOps P C ops (i :: l) Kx e H := by
  intro g a w hr Q hQ
  rw [wpOps_cons]
  exact h g a w hr _ Q (fun g' a' w' e' H' hg hr' hk => hk g' a' w' hr' Q fun ex g2 a2 w2 e2 H2 hg2 hr2 hk2 => hQ ex g2 a2 w2 e2 H2 (hg.trans hg2) hr2 hk2) hQ

theorem AWp_of_ops {id : Nat} {ops : Array Oper} {Q : Exit → Env → Hp → Prop} (h : AOps P C ops (List.range ops.size) Q e H) : AWp P C (.region id ops false) Q e H := by
  intro g a w hr
  exact wp_region (h g a w hr _ fun ex g' a' w' e' H' hg hr' hk => ⟨g', e', H', hg, hr', hk⟩)

def dput (e : Env) : Option Tmp → AV → Env
  | some t, x => upd e t x
  | none, _ => e

theorem getElem?_put {a : Act} {t : Nat} {v u : Value} (h : a.tmps[t]? = some u) : (a.put (some t) v).tmps[t]? = some v := by
  have hlt := (Array.getElem?_eq_some_iff.1 h).1
  simp [Act.put, Array.getElem?_setIfInBounds_self_of_lt hlt]

theorem getElem?_put_ne {a : Act} {t s : Nat} {v : Value} (h : s ≠ t) : (a.put (some s) v).tmps[t]? = a.tmps[t]? := by
  simp [Act.put, Array.getElem?_setIfInBounds_ne h]

theorem put_defers (a : Act) (o : Option Tmp) (v : Value) : (a.put o v).defers = a.defers := by cases o <;> rfl

/-- The slot that an operation writes is there. -/
def dstOk (nt : Nat) : Option Tmp → Bool
  | some t => decide (t < nt)
  | none => true

theorem put_size (a : Act) (o : Option Tmp) (v : Value) : (a.put o v).tmps.size = a.tmps.size := by cases o <;> simp [Act.put]

theorem put_self {a : Act} {nt s : Nat} {v : Value} (hn : nt ≤ a.tmps.size) (hf : dstOk nt (some s) = true) : (a.put (some s) v).tmps[s]? = some v := by
  simp only [dstOk, decide_eq_true_eq] at hf
  simp [Act.put, Array.getElem?_setIfInBounds_self_of_lt (Nat.lt_of_lt_of_le hf hn)]

/-- A slot takes a value; all else is as it was. -/
theorem SRel.put' {g a w} (hr : SRel g C e H a w) {o : Option Tmp} {x : AV} {v : Value} (hf : dstOk C.nt o = true) (hx : ∀ t, o = some t → SlotRep g w (.slot C.d t) x v) : SRel g C (dput e o x) H (a.put o v) w := by
  refine ⟨hr.inv, hr.heap, by rw [put_defers]; exact hr.defers, by rw [put_size]; exact hr.size, fun t ht => ?_⟩
  cases o with
  | none => exact hr.slots t ht
  | some s =>
    simp only [dput, upd] at ht ⊢
    by_cases hst : t = s
    · subst hst
      rw [if_pos rfl] at ht ⊢
      exact ⟨v, put_self hr.size hf, hx _ rfl⟩
    · rw [if_neg hst] at ht ⊢
      obtain ⟨u, h1, h2⟩ := hr.slots t ht
      exact ⟨u, by rw [getElem?_put_ne (fun h => hst h.symm)]; exact h1, h2⟩

theorem SRel.put {g a w} (hr : SRel g C e H a w) {o : Option Tmp} {x : AV} {v : Value} (hf : dstOk C.nt o = true) (hx : Rep g w x v) : SRel g C (dput e o x) H (a.put o v) w :=
  hr.put' hf fun _ _ => rep_slot hx

theorem SRel.cslots {g a w} (hr : SRel g C e H a w) : Slots g w C.d e a := hr.slots

/-- How a guard stands: is the operation carried out? -/
def guardOf (ops : Array Oper) (e : Env) (j : Nat) (want : Bool) : Option Bool :=
  match (ops[j]?).bind (·.dst) with
  | some t => match unmay (e t) with
    | (b, .sc (.bool x)) => some (b && (x == want))
    | _ => none
  | none => none

theorem guard_sound {ops : Array Oper} {g a w} (hr : SRel g C e H a w) {o : Oper} {j : Nat} {want G : Bool} (hg : o.guard = some (j, want)) (h : guardOf ops e j want = some G) :
    Region.wanted o (yielded ops a.tmps) = G := by
  unfold guardOf at h
  split at h
  · rename_i t ht
    split at h
    · rename_i b x hx
      cases h
      have hn : e t ≠ .und := fun hu => by rw [hu] at hx; simp [unmay] at hx
      obtain ⟨v, hv, hs⟩ := hr.slots t hn
      have hy : yielded ops a.tmps j = if b then some x else none := by
        unfold yielded
        rw [ht]
        simp only [Option.bind_some, hv]
        generalize e t = y at *
        cases y <;> simp only [unmay, Prod.mk.injEq, reduceCtorEq, and_false] at hx
        case sc u =>
          obtain ⟨rfl, hu⟩ := hx
          cases hu
          rw [(slot_sc hs).1]
          rfl
        case may c z =>
          obtain ⟨rfl, rfl⟩ := hx
          unfold SlotRep at hs
          cases hs with
          | may _ _ _ h1 h2 =>
            cases c with
            | true => have := (slot_sc (o := .blk) (rep_slot (h1 rfl))).1; rw [this]; rfl
            | false => rw [h2 rfl]; rfl
      simp only [Region.wanted, hg, hy]
      cases b <;> simp
    · cases h
  · cases h

theorem wp_pures {ops : Array Oper} {i : Nat} {o : Oper} (hi : ops[i]? = some o) {g a w} {x : AV} (h : Pures P g w a o x) (hw : Region.wanted o (yielded ops a.tmps) = true)
    {NX : Act → World → Prop} {Q : Exit → Act → World → Prop} (hn : ∀ v, Rep g w x v → NX (a.put o.dst v) w) : wpOp P ops Q i NX a w := by
  obtain ⟨v, h1, h2⟩ := h
  unfold wpOp
  simp only [hi, hw, if_true]
  left
  unfold Oper.wp
  rw [h1]
  exact hn v h2

/-- A pure operation that has no guard. -/
theorem AOp_pure (hT : TOk P T) {ops : Array Oper} {i : Nat} {o : Oper} (hi : ops[i]? = some o) (hg : o.guard = none) {p : Prop} {x : AV} (h : apure T o.op e H = some (p, x)) (hp : p)
    (hd : dstOk C.nt o.dst = true) {K : Env → Hp → Prop} {Kx : Exit → Env → Hp → Prop} (hk : K (dput e o.dst x) H) : AOp P C ops i K Kx e H := by
  intro g a w hr NX Q hNX _
  refine wp_pures hi (apure_sound hT hr.heap hr.cslots h hp) (by simp [Region.wanted, hg]) fun v hv => ?_
  exact hNX g _ w _ H .refl (hr.put hd hv) hk

/-- A pure operation with a guard. -/
theorem AOp_guard (hT : TOk P T) {ops : Array Oper} {i : Nat} {o : Oper} (hi : ops[i]? = some o) {j : Nat} {want G : Bool} (hg : o.guard = some (j, want)) (hG : guardOf ops e j want = some G)
    {p : Prop} {x : AV} (h : G = true → apure T o.op e H = some (p, x) ∧ p) (hd : dstOk C.nt o.dst = true) {K : Env → Hp → Prop} {Kx : Exit → Env → Hp → Prop} (hk : K (dput e o.dst (.may G x)) H) :
    AOp P C ops i K Kx e H := by
  intro g a w hr NX Q hNX _
  have hw := guard_sound hr hg hG
  cases G with
  | true =>
    obtain ⟨h1, h2⟩ := h rfl
    refine wp_pures hi (apure_sound hT hr.heap hr.cslots h1 h2) hw fun v hv => ?_
    exact hNX g _ w _ H .refl (hr.put hd (.may _ _ _ (fun _ => hv) (fun h => by cases h))) hk
  | false =>
    unfold wpOp
    simp only [hi, hw, Bool.false_eq_true, if_false]
    exact hNX g _ w _ H .refl (hr.put hd (.may _ _ _ (fun h => by cases h) (fun _ => rfl))) hk

end
end Go.Ab

/- Ab.Ops2: new blocks: variables, literals. -/
namespace Go.Ab

section
variable {P : Program} {T : Types} {C : Cx} {e : Env} {H : Hp} {g : Gh} {w : World} {a : Act}

/-- A new block's ghost. -/
def newG (g : Gh) (B : Nat) (n : Nat) (o : Owner) : Gh := ⟨fun D => if D = B then n else g.fz D, fun D => if D = B then some o else g.own D⟩

theorem newG_own_ne {B n o D} (h : D ≠ B) : (newG g B n o).own D = g.own D := by simp [newG, h]
theorem newG_fz_ne {B n o D} (h : D ≠ B) : (newG g B n o).fz D = g.fz D := by simp [newG, h]
theorem newG_own {B n o} : (newG g B n o).own B = some o := by simp [newG]
theorem newG_fz {B n o} : (newG g B n o).fz B = n := by simp [newG]

theorem push_lt {w w1 : World} {x : Obj} (hw : w1.heap = w.heap.push x) {B : Nat} (hB : B < w.heap.size) : w1.heap[B]? = w.heap[B]? := by
  rw [hw, Array.getElem?_push_lt hB]; simp [hB]

theorem push_at {w w1 : World} {x : Obj} (hw : w1.heap = w.heap.push x) : w1.heap[w.heap.size]? = some x := by rw [hw]; simp

theorem Inv.lt (h : Inv g w) {B : Nat} {o : Owner} (ho : g.own B = some o) : B < w.heap.size := by
  rcases Nat.lt_or_ge B w.heap.size with h' | h'
  · exact h'
  · rw [(h.fresh B h').1] at ho; cases ho

theorem Inv.fz_lt (h : Inv g w) {B k : Nat} (ho : k < g.fz B) : B < w.heap.size := by
  rcases Nat.lt_or_ge B w.heap.size with h' | h'
  · exact h'
  · rw [(h.fresh B h').2] at ho; omega

theorem grow_keep (hi : Inv g w) {w1 : World} {x : Obj} (hw : w1.heap = w.heap.push x) (he : Env3 w w1) (n : Nat) (o : Owner) : Keep g w (newG g w.heap.size n o) w1 := by
  refine ⟨by rw [hw]; simp, fun B => ?_, fun B k hk => ?_, he⟩
  · by_cases hB : B = w.heap.size
    · subst hB; rw [(hi.fresh _ (Nat.le_refl _)).2]; omega
    · rw [newG_fz_ne hB]; omega
  · exact cell?_of_heap (push_lt hw (hi.fz_lt hk))

theorem grow_same (hi : Inv g w) {w1 : World} {x : Obj} (hw : w1.heap = w.heap.push x) (n : Nat) (o o' : Owner) : SameOf o' g w (newG g w.heap.size n o) w1 := by
  intro B hB
  have hlt := hi.lt hB
  have hne : B ≠ w.heap.size := by omega
  exact ⟨by rw [newG_own_ne hne]; exact hB, newG_fz_ne hne, push_lt hw hlt⟩

theorem grow_inv (hi : Inv g w) {w1 : World} {x : Obj} (hw : w1.heap = w.heap.push x) (n : Nat) (o : Owner) (ho : ∀ D i, o = .cell D i → g.own D = some .blk) : Inv (newG g w.heap.size n o) w1 := by
  refine ⟨fun B hB => ?_, fun B D i hD => ?_⟩
  · have : w.heap.size < w1.heap.size := by rw [hw]; simp
    rw [newG_own_ne (by omega), newG_fz_ne (by omega)]
    exact hi.fresh B (by omega)
  · have key : g.own D = some .blk → (newG g w.heap.size n o).own D = some .blk := fun h => by
      rw [newG_own_ne (fun hh => by have := hi.lt h; omega)]; exact h
    by_cases hB : B = w.heap.size
    · subst hB; rw [newG_own] at hD; exact key (ho D i (by simpa using hD))
    · rw [newG_own_ne hB] at hD
      exact key (hi.cells B D i hD)

theorem SRel.grow (hr : SRel g C e H a w) {w1 : World} {x : Obj} (hw : w1.heap = w.heap.push x) (he : Env3 w w1) (n : Nat) (o : Owner) (ho : ∀ D i, o = .cell D i → g.own D = some .blk) :
    SRel (newG g w.heap.size n o) C e H a w1 := by
  have hk := grow_keep hr.inv hw he n o
  have hs := fun o' => grow_same hr.inv hw n o o'
  refine ⟨grow_inv hr.inv hw n o ho, fun B b hb => ?_, hr.defers, hr.size, fun t ht => ?_⟩
  · obtain ⟨h1, h2⟩ := hr.heap B b hb
    exact ⟨(hs _ B h1).1, h2.keep hk (hs _) h1 fun i => hs _⟩
  · obtain ⟨v, h1, h2⟩ := hr.slots t ht
    exact ⟨v, h1, h2.keep hk (hs _)⟩

theorem grow_guar (hi : Inv g w) {w1 : World} {x : Obj} (hw : w1.heap = w.heap.push x) (he : Env3 w w1) (n : Nat) (o : Owner) {H' : Hp} (hH : ∀ B, B < w.heap.size → H' B ≠ none → H B ≠ none) :
    Guar C.d H H' g w (newG g w.heap.size n o) w1 := by
  refine ⟨grow_keep hi hw he n o, fun B o' hB hf => ?_⟩
  obtain ⟨h1, h2, h3⟩ := grow_same hi hw n o o' B hB
  refine ⟨h1, fun hf' => hf ?_, h2, h3⟩
  cases o' with
  | blk => exact hH B (hi.lt hB) hf'
  | cell D i => exact hH D (hi.lt (hi.cells B D i hB)) hf'
  | slot d' t => exact hf'

theorem SRel.hset (hr : SRel g C e H a w) {B : Nat} {b : AB} (ho : g.own B = some .blk) (hb : BRel g w B b) : SRel g C e (hset H B b) a w := by
  refine ⟨hr.inv, fun D b' hD => ?_, hr.defers, hr.size, hr.slots⟩
  unfold Ab.hset at hD
  split at hD
  · rename_i h; subst h; cases hD; exact ⟨ho, hb⟩
  · exact hr.heap D b' hD

theorem HRel.lt (h : HRel g w H) (hi : Inv g w) {B : Nat} (hB : H B ≠ none) : B < w.heap.size := by
  cases hb : H B with
  | none => exact absurd hb hB
  | some b => exact hi.lt (h B b hb).1

theorem hset_lt {B D : Nat} {b : AB} (h : D < B) : hset H B b D = H D := by
  unfold hset; rw [if_neg (by omega)]

/-- A step that makes a block of variables, and hands back its address. -/
theorem AOp_new {ops : Array Oper} {i : Nat} {o : Oper} (hi : ops[i]? = some o) (hg : o.guard = none) (hd : dstOk C.nt o.dst = true) {cs : List AV} {K : Env → Hp → Prop} {Kx : Exit → Env → Hp → Prop}
    (hrun : ∀ g a w, SRel g C e H a w → ∃ (c : Array Value) (E : TypeId) (w1 : World), (w1.heap = w.heap.push (.cells c E) ∧ Env3 w w1) ∧ (execOp a.eval o).run P w = .ok (.value (.pointer (some ⟨w.heap.size, 0, none⟩))) w1 ∧ c.size = cs.length ∧
      ∀ (k : Nat) (x : AV) (v : Value), cs[k]? = some x → c[k]? = some v → (SlotRep g w (.cell w.heap.size k) x v ∧ one v = true) ∧ ∀ D, g.own D = some (.cell w.heap.size k) → False)
    (hk : ∀ B, H B = none → K (dput e o.dst (.sc (.pointer (some ⟨B, 0, none⟩)))) (hset H B (.cells cs))) : AOp P C ops i K Kx e H := by
  intro g a w hr NX Q hNX _
  obtain ⟨c, E, w1, ⟨hw, he⟩, hx, hl, hc⟩ := hrun g a w hr
  have hB : H w.heap.size = none := by
    cases hb : H w.heap.size with
    | none => rfl
    | some b => have := hr.heap.lt hr.inv (B := w.heap.size) (by rw [hb]; simp); omega
  unfold wpOp
  simp only [hi, Region.wanted, hg, if_true]
  left
  unfold Oper.wp
  rw [hx]
  have hr1 := hr.grow hw he 0 .blk (fun D i h => by cases h)
  have hkp := grow_keep hr.inv hw he 0 .blk
  refine hNX (newG g w.heap.size 0 .blk) _ w1 _ _ (grow_guar hr.inv hw he 0 .blk fun B hlt hh => ?_) ((hr1.hset newG_own ?_).put hd (.sc _ rfl)) (hk _ hB)
  · rwa [hset_lt hlt] at hh
  · refine ⟨c, E, push_at hw, hl, newG_fz, fun k x v hx' hv => ?_⟩
    have := (hc k x v hx' hv).1
    exact ⟨this.1.keep hkp (grow_same hr.inv hw 0 .blk _), this.2⟩

end
end Go.Ab

/- Ab.Ops3: variables made; slices written out. -/
namespace Go.Ab

section
variable {P : Program} {T : Types} {C : Cx} {e : Env} {H : Hp} {g : Gh} {w : World} {a : Act}

/-- What a cell keeps of a value that is stored. -/
def AV.kept : AV → AV
  | .lst 2 [] => .lst 1 []
  | x => x.strip

theorem kept_slot {o o' : Owner} {x : AV} {v : Value} (h : SlotRep g w o x v) (hf : x.frzn = true) : SlotRep g w o' x.kept v := by
  unfold AV.kept
  split
  · rcases h with ⟨base, _, rfl⟩ | ⟨B, off, cap, s, c, E, f, hv, h1, h2, h3, _⟩
    · exact ⟨.nil base 0, base, 0, rfl, .inl rfl⟩
    · simp at h3
  · exact rep_slot (slot_rep h hf)

theorem kept_cells (x : AV) : x.kept.cells.length = x.cells.length := by
  cases x <;> try rfl
  unfold AV.kept; split <;> rfl

theorem rep_frzn {x : AV} {v : Value} (h : Rep g w x v) : x.frzn = true := by
  cases h <;> rfl

theorem no_cell (hr : SRel g C e H a w) (k : Nat) : ∀ D, g.own D = some (.cell w.heap.size k) → False := fun D h => by
  have := hr.inv.lt (hr.inv.cells D _ _ h); omega

theorem AOp_alloc (hT : TOk P T) {ops : Array Oper} {i : Nat} {o : Oper} (hi : ops[i]? = some o) (hg : o.guard = none) (hd : dstOk C.nt o.dst = true) {E : TypeId} (ho : o.op = .alloc E) {ti : TI} (ht : T E = some ti)
    {K : Env → Hp → Prop} {Kx : Exit → Env → Hp → Prop} (hk : ∀ B, H B = none → K (dput e o.dst (.sc (.pointer (some ⟨B, 0, none⟩)))) (hset H B (.cells ((ti.zero.map aval).map AV.kept)))) : AOp P C ops i K Kx e H := by
  refine AOp_new hi hg hd (fun g a w hr => ?_) hk
  have hf := hT.fact ht
  obtain ⟨z, h1, h2, _⟩ := hf.zeroValue w
  refine ⟨z.cells, E, { w with heap := w.heap.push (.cells z.cells E) }, ⟨rfl, rfl, rfl, rfl⟩, ?_, by rw [List.length_map, List.length_map, ← h2]; simp, fun k x v hx hv => ⟨?_, no_cell hr k⟩⟩
  · simp [execOp, ho, Instr.alloc, h1, newVar, newRow]
  · simp only [List.getElem?_map, Option.map_eq_some_iff] at hx
    obtain ⟨_, ⟨u, hu, rfl⟩, rfl⟩ := hx
    rw [← h2] at hu
    simp only [Array.getElem?_toList] at hu
    rw [hu] at hv
    simp only [Option.some.injEq] at hv
    subst hv
    have := hf.plain u (by rw [← h2]; exact List.mem_of_getElem? (by simpa using hu))
    have ho : one u = true := by cases u <;> first | rfl | (simp [sameConst] at this)
    exact ⟨kept_slot (aval_rep (o := .blk) ho) (by unfold aval; split <;> rfl), ho⟩

theorem AOp_box {ops : Array Oper} {i : Nat} {o : Oper} (hi : ops[i]? = some o) (hg : o.guard = none) (hd : dstOk C.nt o.dst = true) {E : TypeId} {X : Operand} (ho : o.op = .box E X) {b : Bool} {x : AV} (hx : arg e X = some (b, x))
    (hb : (b && x.frzn && x.good) = true) {K : Env → Hp → Prop} {Kx : Exit → Env → Hp → Prop} (hk : ∀ B, H B = none → K (dput e o.dst (.sc (.pointer (some ⟨B, 0, none⟩)))) (hset H B (.cells (x.strip.cells.map AV.kept)))) : AOp P C ops i K Kx e H := by
  refine AOp_new hi hg hd (fun g a w hr => ?_) hk
  simp only [Bool.and_eq_true] at hb
  have hr2 := arg_rep hr.cslots hx (by simp [hb.1.1, hb.1.2])
  obtain ⟨h1, h3, h2⟩ := rep_good_cells (by rw [good_strip]; exact hb.2) hr2
  refine ⟨(a.eval X).cells, E, { w with heap := w.heap.push (.cells (a.eval X).cells E) }, ⟨rfl, rfl, rfl, rfl⟩, ?_, by rw [List.length_map]; exact h1, fun k y v hy hv => ?_⟩
  · simp [execOp, ho, Instr.box, newVar, newRow]
  · simp only [List.getElem?_map, Option.map_eq_some_iff] at hy
    obtain ⟨y', hy', rfl⟩ := hy
    exact ⟨⟨kept_slot (rep_slot (ow := .blk) (h2 k y' v hy' hv)) (rep_frzn (h2 k y' v hy' hv)), h3 k v hv⟩, no_cell hr k⟩

/-- A row that nobody else knows: the value of a slice literal, or of a first append. -/
theorem AOp_row {ops : Array Oper} {i : Nat} {o : Oper} (hi : ops[i]? = some o) (hg : o.guard = none) (hd : dstOk C.nt o.dst = true) {xs : List AV} {K : Env → Hp → Prop} {Kx : Exit → Env → Hp → Prop}
    (hrun : ∀ g a w, SRel g C e H a w → ∃ (c : Array Value) (E : TypeId) (w1 : World) (cap s : Nat), (w1.heap = w.heap.push (.cells c E) ∧ Env3 w w1) ∧ (execOp a.eval o).run P w = .ok (.value (.slice (some ⟨w.heap.size, 0, none⟩) xs.length cap)) w1 ∧
      (xs = [] ∧ cap = 0 ∨ 0 < xs.length ∧ 0 < s ∧ (∀ x ∈ xs, x.cells.length = s) ∧ cap * s ≤ c.size ∧ xs.length ≤ cap ∧ (∀ (k : Nat) (x : AV), (flat xs)[k]? = some x → ∃ v, c[k]? = some v ∧ one v = true ∧ Rep g w x v) ∧ ∀ (k : Nat) (v : Value), c[k]? = some v → one v = true))
    (hk : K (dput e o.dst (.lst 2 xs)) H) : AOp P C ops i K Kx e H := by
  intro g a w hr NX Q hNX _
  obtain ⟨c, E, w1, cap, s, ⟨hw, he⟩, hx, hc⟩ := hrun g a w hr
  unfold wpOp
  simp only [hi, Region.wanted, hg, if_true]
  left
  unfold Oper.wp
  rw [hx]
  have hr1 := hr.grow hw he 0 (.slot C.d (o.dst.getD 0)) (fun D i h => by cases h)
  have hkp := grow_keep hr.inv hw he 0 (.slot C.d (o.dst.getD 0))
  refine hNX (newG g w.heap.size 0 (.slot C.d (o.dst.getD 0))) _ w1 _ _ (grow_guar hr.inv hw he 0 _ fun B _ hh => hh) (hr1.put' hd fun t ht => ?_) hk
  rcases hc with ⟨rfl, rfl⟩ | ⟨h1, h2, h3, h4, h5, h6, h7⟩
  · exact .inl ⟨_, rfl, rfl⟩
  · refine .inr ⟨w.heap.size, 0, cap, s, c, E, fun k => c.getD k undef, rfl, h2, h3, h1, by rw [newG_own, ht]; rfl, newG_fz, push_at hw, by omega, h5, fun k x hx' => ?_, fun k x hx' => ?_, h7⟩
    · obtain ⟨v, k1, k2, k3⟩ := h6 k x hx'
      rw [Nat.zero_add, k1]; simp [k1, k2]
    · obtain ⟨v, k1, k2, k3⟩ := h6 k x hx'
      simp only [Array.getD_eq_getD_getElem?, k1, Option.getD_some]
      exact k3.keep hkp

theorem afill_row (s : Nat) : ∀ (xs : List AV) (k : Nat) (cs : List AV), (∀ x ∈ xs, x.cells.length = s) → (k + xs.length) * s = cs.length →
    afill (fun i => some (i * s, s)) cs ((List.range' k xs.length).zip xs) = some (cs.take (k * s) ++ flat xs)
  | [], k, cs, _, hl => by simp only [List.length_nil, Nat.add_zero] at hl; simp [afill, flat, hl]
  | x :: xs, k, cs, hx, hl => by
    have h0 := hx x (by simp)
    simp only [List.length_cons] at hl
    have e1 : (k + (xs.length + 1)) * s = k * s + s + xs.length * s := by rw [Nat.add_mul, Nat.add_mul]; omega
    simp only [List.length_cons, List.range'_succ, List.zip_cons_cons, afill]
    rw [if_pos ⟨h0, by omega⟩]
    have ih := afill_row s xs (k + 1) (cs.take (k * s) ++ x.cells ++ cs.drop (k * s + s)) (fun y hy => hx y (by simp [hy])) (by
      simp only [List.length_append, List.length_take, List.length_drop, h0]
      rw [Nat.min_eq_left (by omega), show (k + 1 + xs.length) * s = k * s + s + xs.length * s by rw [Nat.add_mul, Nat.add_mul]; omega]
      omega)
    rw [ih]
    congr 1
    rw [Nat.add_mul, Nat.one_mul]
    rw [List.take_append_of_le_length (by simp [h0]; omega)]
    rw [List.take_of_length_le (by simp [h0]; omega)]
    simp [flat]

theorem AOp_buildSlice (hT : TOk P T) {ops : Array Oper} {i : Nat} {o : Oper} (hi : ops[i]? = some o) (hg : o.guard = none) (hd : dstOk C.nt o.dst = true) {t : TypeId} {n : Nat} {ps : Array (Nat × Operand)} (ho : o.op = .buildSlice t n ps)
    {sz bz : Nat} {et : TypeId} {z : List Value} {ti : TI} (ht : T t = some ⟨sz, bz, .slice et, z⟩) (hti : T et = some ti) {xs : List AV} (hx : qargs e ps.toList = some (true, (List.range' 0 n).zip xs)) (hn : xs.length = n)
    (hsz : 0 < ti.size) (hlen : ti.zero.length = ti.size) (hbig : n * ti.size ≤ 16777216) (hxs : ∀ x ∈ xs, x.cells.length = ti.size) {K : Env → Hp → Prop} {Kx : Exit → Env → Hp → Prop} (hk : K (dput e o.dst (.lst 2 xs)) H) : AOp P C ops i K Kx e H := by
  refine AOp_row hi hg hd (fun g a w hr => ?_) hk
  obtain ⟨desc, q1, q2⟩ := (hT.fact ht).under
  cases desc <;> simp only [sameKind, Bool.false_eq_true] at q2
  simp only [beq_iff_eq] at q2
  subst q2
  have hf := hT.fact hti
  obtain ⟨zv, z1, z2, _⟩ := hf.zeroValue w
  have hs := hf.sizeOf w
  obtain ⟨l1, l2⟩ := qargs_sound hr.cslots ps.toList true _ hx rfl
  have hzs : zv.cells.size = ti.size := by rw [← hlen, ← z2]; simp
  let cs0 : List AV := (List.range (n * ti.size)).map fun _ => AV.und
  have h0 : RepC g w cs0 ((Array.range (n * ti.size)).map (zv.cells[· % zv.cells.size]!)) := by
    refine ⟨by simp [cs0], fun k v hv => ?_, fun k x v hx' _ => ?_⟩
    · simp only [Array.getElem?_map, Option.map_eq_some_iff] at hv
      obtain ⟨k', _, rfl⟩ := hv
      have hz : ∀ u ∈ zv.cells.toList, one u = true := fun u hu => by
        have := hf.plain u (by rw [← z2]; exact hu)
        cases u <;> first | rfl | (simp [sameConst] at this)
      rcases Nat.eq_zero_or_pos zv.cells.size with h0 | h0
      · rw [h0] at hzs; omega
      · have hlt : k' % zv.cells.size < zv.cells.size := Nat.mod_lt _ h0
        rw [getElem!_pos zv.cells _ hlt]
        exact hz _ (by simp)
    simp only [cs0, List.getElem?_map, Option.map_eq_some_iff] at hx'
    obtain ⟨_, _, rfl⟩ := hx'
    exact .und v
  have hfill := afill_row ti.size xs 0 cs0 hxs (by simp [cs0, hn])
  simp only [Nat.zero_mul, List.take_zero, List.nil_append] at hfill
  rw [hn] at hfill
  obtain ⟨c', c1, c2, c3', c3⟩ := fill_sound (g := g) (w := w) (fun i => some (i * ti.size, ti.size)) _ (ps.toList.map fun (i, x) => (i, a.eval x)) cs0 (flat xs) _ h0 (by simp [l1]) (fun k q p hq hp' => by
    simp only [List.getElem?_map, Option.map_eq_some_iff] at hp'
    obtain ⟨p', hp1, rfl⟩ := hp'
    exact l2 k q p' hq hp1) hfill
  have hu := run_underlying q1 w
  refine ⟨c', et, { w with heap := w.heap.push (.cells c' et) }, n, ti.size, ⟨rfl, rfl, rfl, rfl⟩, ?_, ?_⟩
  · have hzero : n * ti.size = 0 ∨ n * ti.size ≠ 0 := by omega
    have hb2 : ¬ 2 ^ 24 < n * ti.size := by omega
    rcases hzero with h0 | h0
    · have hn0 : n = 0 := by
        rcases Nat.eq_zero_or_pos n with h | h
        · exact h
        · have := Nat.mul_pos h hsz; omega
      subst hn0
      have hps : ps.toList = [] := by
        have : ps.toList.length = 0 := by rw [← l1]; simp
        exact List.length_eq_zero_iff.1 this
      have hps2 : ps = #[] := by cases ps; simpa using hps
      subst hps2
      have hc0 : c' = #[] := by
        have : c'.size = 0 := by rw [c2]; have := List.length_eq_zero_iff.1 hn; subst this; rfl
        exact Array.eq_empty_of_size_eq_zero this
      subst hc0
      have hr0 : Array.range 0 = #[] := Array.eq_empty_of_size_eq_zero (by simp)
      simp [execOp, ho, Instr.buildSlice, hu, hs, newRow, Instr.fill, hn, hr0]
    · have c1' : Instr.fill (fun i => some (i * ti.size, ti.size)) ((Array.range (n * ti.size)).map (zv.cells[· % zv.cells.size]!)) (ps.map fun (i, x) => (i, a.eval x)).toList = some c' := by simpa using c1
      simp only [execOp, ho, Instr.buildSlice, Sem.run_bind, hu, Result.andThen_ok, hs, if_neg hb2, if_neg h0, z1, Sem.run_pure, c1', newRow, hn]
      rfl
  · by_cases hn0 : n = 0
    · left
      subst hn0
      exact ⟨List.length_eq_zero_iff.1 hn, rfl⟩
    · right
      refine ⟨by omega, hsz, hxs, by rw [c2, flat_length hxs, hn]; exact Nat.le_refl _, by omega, fun k x hx' => ?_, c3'⟩
      have hlt := lt_of_getElem? hx'
      rw [← c2] at hlt
      exact ⟨c'[k], by simp [hlt], c3' k _ (by simp [hlt]), c3 k x _ hx' (by simp [hlt])⟩

end
end Go.Ab

/- Ab.Ops4: tokens change hands; stores. -/
namespace Go.Ab

section
variable {P : Program} {T : Types} {C : Cx} {e : Env} {H : Hp} {g : Gh} {w : World} {a : Act}

/-- What one owner has, another one has. -/
def moveG (g : Gh) (o o' : Owner) : Gh := ⟨g.fz, fun B => if g.own B = some o then some o' else g.own B⟩

theorem moveG_keep (o o' : Owner) : Keep g w (moveG g o o') w := ⟨Nat.le_refl _, fun _ => Nat.le_refl _, fun _ _ _ => rfl, ⟨rfl, rfl, rfl⟩⟩

theorem moveG_same {o o' o2 : Owner} (h : o2 ≠ o) : SameOf o2 g w (moveG g o o') w := fun B hB =>
  ⟨by simp only [moveG]; rw [if_neg (by rw [hB]; simpa using h)]; exact hB, rfl, rfl⟩

theorem moveG_inv (hi : Inv g w) {o o' : Owner} (ho : ∀ D i, o' = .cell D i → g.own D = some .blk) (hb : o ≠ .blk := by simp) : Inv (moveG g o o') w := by
  refine ⟨fun B hB => ⟨?_, (hi.fresh B hB).2⟩, fun B D i hD => ?_⟩
  · simp only [moveG]; rw [if_neg (by rw [(hi.fresh B hB).1]; simp)]; exact (hi.fresh B hB).1
  · simp only [moveG] at hD
    have key : g.own D = some .blk → (moveG g o o').own D = some .blk := fun h => by
      simp only [moveG]; rw [if_neg (by rw [h]; simpa using hb.symm)]; exact h
    split at hD
    · exact key (ho D i (by simpa using hD))
    · exact key (hi.cells B D i hD)

theorem moveG_slot {o o' : Owner} {x : AV} {v : Value} (h : SlotRep g w o x v) : SlotRep (moveG g o o') w o' x v := by
  have hk := moveG_keep (g := g) (w := w) o o'
  have ho : ∀ B, g.own B = some o → (moveG g o o').own B = some o' := fun B hB => by simp [moveG, hB]
  unfold SlotRep at h ⊢
  split at h
  · exact h.keep hk
  · refine ⟨h.1.keep hk, ?_⟩
    obtain ⟨base, cap, rfl, h2⟩ := h.2
    refine ⟨base, cap, rfl, ?_⟩
    rcases h2 with h2 | ⟨B, off, s, c, E, hb, h1, hx, h3, hcap, h4, h5⟩
    · exact .inl h2
    · exact .inr ⟨B, off, s, c, E, hb, h1, hx, h3, hcap, ho B h4, h5⟩
  · rcases h with h | ⟨B, off, cap, s, c, E, f, hv, h1, h2, h3, h4, h5, h6, h7, h8, h9, h10, h11⟩
    · exact .inl h
    · exact .inr ⟨B, off, cap, s, c, E, f, hv, h1, h2, h3, ho B h4, h5, h6, h7, h8, h9, fun i x hi => (h10 i x hi).keep hk, h11⟩
  · exact h.keep hk

/-- A slot's token goes; what is left of it. -/
def AV.rest : AV → AV
  | .lst 1 xs => .lst 0 xs
  | .lst 2 _ => .und
  | x => x

theorem rest_rep {o : Owner} {m : Nat} {xs : List AV} {v : Value} (h : SlotRep g w o (.lst m xs) v) (hm : m = 1 ∨ m = 2) : Rep g w (AV.lst m xs).rest v := by
  rcases hm with rfl | rfl
  · exact h.1
  · exact .und v

theorem moveG_guar {s : Nat} {o' : Owner} : Guar C.d H H g w (moveG g (.slot C.d s) o') w := by
  refine ⟨moveG_keep _ _, fun B o hB hf => ?_⟩
  have hne : o ≠ .slot C.d s := fun h => hf (by subst h; exact Nat.le_refl _)
  obtain ⟨h1, h2, h3⟩ := moveG_same (w := w) (o' := o') hne B hB
  exact ⟨h1, hf, h2, h3⟩

/-- A token moves from a slot to another one. -/
theorem AOp_take {ops : Array Oper} {i : Nat} {o : Oper} (hi : ops[i]? = some o) (hg : o.guard = none) {s t : Nat} (hdst : o.dst = some t) (hst : s ≠ t) (hd : dstOk C.nt o.dst = true) (ho : o.op = .move (.tmp s) ∨ o.op = .assign (.tmp s))
    {m : Nat} {xs : List AV} (hx : e s = .lst m xs) (hm : m = 1 ∨ m = 2) {K : Env → Hp → Prop} {Kx : Exit → Env → Hp → Prop} (hk : K (upd (upd e s (AV.lst m xs).rest) t (.lst m xs)) H) : AOp P C ops i K Kx e H := by
  intro g a w hr NX Q hNX _
  obtain ⟨v, hv, hs⟩ := hr.slots s (by rw [hx]; simp)
  rw [hx] at hs
  have hev : a.eval (.tmp s) = v := by simp [Act.eval, hv]
  unfold wpOp
  simp only [hi, Region.wanted, hg, if_true]
  left
  unfold Oper.wp
  rw [show (execOp a.eval o).run P w = .ok (.value v) w from by rcases ho with ho | ho <;> simp [execOp, ho, hev]]
  show NX (a.put o.dst v) w
  rw [hdst] at hd ⊢
  refine hNX (moveG g (.slot C.d s) (.slot C.d t)) _ w _ H moveG_guar ?_ hk
  have hk := moveG_keep (g := g) (w := w) (.slot C.d s) (.slot C.d t)
  refine ⟨moveG_inv hr.inv (fun _ _ h => by cases h), fun B b hb => ?_, by rw [put_defers]; exact hr.defers, by rw [put_size]; exact hr.size, fun u hu => ?_⟩
  · obtain ⟨h1, h2⟩ := hr.heap B b hb
    have hsm := fun o2 (hne : o2 ≠ .slot C.d s) => moveG_same (g := g) (w := w) (o' := .slot C.d t) hne
    exact ⟨(hsm .blk (by simp) B h1).1, h2.keep hk (hsm _ (by simp)) h1 fun i => hsm _ (by simp)⟩
  · simp only [upd] at hu ⊢
    by_cases hut : u = t
    · subst hut
      rw [if_pos rfl] at hu ⊢
      exact ⟨v, put_self hr.size hd, moveG_slot hs⟩
    · rw [if_neg hut] at hu ⊢
      rw [getElem?_put_ne (fun h => hut h.symm)]
      by_cases hus : u = s
      · subst hus
        rw [if_pos rfl] at hu ⊢
        exact ⟨v, hv, rep_slot ((rest_rep hs hm).keep hk)⟩
      · rw [if_neg hus] at hu ⊢
        obtain ⟨u', k1, k2⟩ := hr.slots u hu
        exact ⟨u', k1, k2.keep hk (moveG_same (by simp [hus]))⟩

/-- A list that was one slot's alone may be copied from now on. -/
theorem uniq_freeze {o : Owner} {xs : List AV} {v : Value} (hi : Inv g w) (h : Uniq g w o xs v) : ∃ g', Keep g w g' w ∧ Inv g' w ∧ (∀ o2, o2 ≠ o → SameOf o2 g w g' w) ∧ Rep g' w (.lst 0 xs) v ∧ Front g' w o xs v := by
  rcases h with ⟨base, rfl, rfl⟩ | ⟨B, off, cap, s, c, E, f, rfl, h1, h2, h3, h4, h5, h6, h7, h8, h9, h10, h11⟩
  · exact ⟨g, .refl _ _, hi, fun o2 _ B hB => ⟨hB, rfl, rfl⟩, .nil base 0, base, 0, rfl, .inl rfl⟩
  · have hlt := hi.lt h4
    have hk : Keep g w ⟨fun D => if D = B then off + xs.length * s else g.fz D, g.own⟩ w := by
      refine ⟨Nat.le_refl _, fun D => ?_, fun _ _ _ => rfl, .refl _⟩
      show g.fz D ≤ if D = B then _ else _
      split
      · rename_i hD; rw [hD, h5]; omega
      · exact Nat.le_refl _
    refine ⟨_, hk, ⟨fun D hD => ⟨(hi.fresh D hD).1, ?_⟩, hi.cells⟩, fun o2 ho2 D hD => ?_, ?_, ?_⟩
    · show (if D = B then _ else _) = 0
      rw [if_neg (by omega)]; exact (hi.fresh D hD).2
    · have hne : D ≠ B := fun h => by rw [h, h4] at hD; exact ho2 (by simpa using hD.symm)
      exact ⟨hD, by show (if D = B then _ else _) = _; rw [if_neg hne], rfl⟩
    · refine .lst xs B off xs.length cap s f rfl h8 h1 h2 ?_ (fun i x hi => ?_) (fun i x hi => (h9 i x hi).2) (fun i x hi => (h10 i x hi).keep hk)
      · show _ ≤ if B = B then _ else _
        rw [if_pos rfl]; exact Nat.le_refl _
      · have := (h9 i x hi).1
        simp [World.cell?, h6, this]
    · exact ⟨_, cap, rfl, .inr ⟨B, off, s, c, E, rfl, h1, h2, h3, h8, h4, by show (if B = B then _ else _) = _; rw [if_pos rfl], h6, h7⟩⟩

theorem SRel.freeze (hr : SRel g C e H a w) {s : Nat} {xs : List AV} (hx : e s = .lst 2 xs) : ∃ g', Guar C.d H H g w g' w ∧ SRel g' C (upd e s (.lst 1 xs)) H a w := by
  obtain ⟨v, hv, hs⟩ := hr.slots s (by rw [hx]; simp)
  rw [hx] at hs
  obtain ⟨g', k1, k2, k3, k4, k5⟩ := uniq_freeze hr.inv (show Uniq g w _ xs v from hs)
  refine ⟨g', ⟨k1, fun B o hB hf => ?_⟩, k2, fun B b hb => ?_, hr.defers, hr.size, fun t ht => ?_⟩
  · have hne : o ≠ .slot C.d s := fun h => hf (by subst h; exact Nat.le_refl _)
    obtain ⟨h1, h2, h3⟩ := k3 o hne B hB
    exact ⟨h1, hf, h2, h3⟩
  · obtain ⟨h1, h2⟩ := hr.heap B b hb
    exact ⟨(k3 .blk (by simp) B h1).1, h2.keep k1 (k3 _ (by simp)) h1 fun i => k3 _ (by simp)⟩
  · simp only [upd] at ht ⊢
    by_cases hts : t = s
    · subst hts
      rw [if_pos rfl] at ht ⊢
      exact ⟨v, hv, k4, k5⟩
    · rw [if_neg hts] at ht ⊢
      obtain ⟨u, q1, q2⟩ := hr.slots t ht
      exact ⟨u, q1, q2.keep k1 (k3 _ (by simp [hts]))⟩

theorem AOp_freeze {ops : Array Oper} {i : Nat} {s : Nat} {xs : List AV} (hx : e s = .lst 2 xs) {K : Env → Hp → Prop} {Kx : Exit → Env → Hp → Prop} (h : AOp P C ops i K Kx (upd e s (.lst 1 xs)) H) : AOp P C ops i K Kx e H := by
  intro g a w hr NX Q hNX hQ
  obtain ⟨g', h1, h2⟩ := hr.freeze hx
  exact h g' a w h2 NX Q (fun g2 a2 w2 e2 H2 k1 k2 k3 => hNX g2 a2 w2 e2 H2 (h1.trans k1) k2 k3) (fun ex g2 a2 w2 e2 H2 k1 k2 k3 => hQ ex g2 a2 w2 e2 H2 (h1.trans k1) k2 k3)

theorem AWp_freeze {c : Code} {Q : Exit → Env → Hp → Prop} {s : Nat} {xs : List AV} (hx : e s = .lst 2 xs) (h : AWp P C c Q (upd e s (.lst 1 xs)) H) : AWp P C c Q e H := by
  intro g a w hr
  obtain ⟨g', h1, h2⟩ := hr.freeze hx
  exact wp_mono (h g' a w h2) fun ex a' w' ⟨g2, e2, H2, k1, k2, k3⟩ => ⟨g2, e2, H2, h1.trans k1, k2, k3⟩

end
end Go.Ab

/- Ab.Ops5: stores into variables. -/
namespace Go.Ab

section
variable {P : Program} {T : Types} {C : Cx} {e : Env} {H : Hp} {g : Gh} {w : World} {a : Act}

theorem slot_good_cells {o o' : Owner} {x : AV} {v : Value} (hg : x.good = true) (hf : x.frzn = true) (h : SlotRep g w o x v) :
    v.cells.size = x.cells.length ∧ ∀ (i : Nat) (y : AV) (u : Value), x.kept.cells[i]? = some y → v.cells[i]? = some u → SlotRep g w o' y u ∧ one u = true := by
  have hr := slot_rep h hf
  obtain ⟨h1, h3, h2⟩ := rep_good_cells (by rw [good_strip]; exact hg) hr
  have hl : x.strip.cells.length = x.cells.length := by cases x <;> rfl
  refine ⟨by rw [h1, hl], fun i y u hy hu => ⟨?_, h3 i u hu⟩⟩
  unfold AV.kept at hy
  split at hy
  · have hks := kept_slot (o' := o') h hf
    cases i with
    | zero =>
      simp only [AV.cells, List.getElem?_cons_zero, Option.some.injEq] at hy
      subst hy
      rcases h with ⟨base, _, rfl⟩ | ⟨B, off, cap, s, c, E, f, hv, q1, q2, q3, _⟩
      · simp only [Value.cells, List.getElem?_toArray, List.getElem?_cons_zero, Option.some.injEq] at hu
        subst hu
        exact hks
      · simp at q3
    | succ n => simp [AV.cells] at hy
  · exact rep_slot (h2 i y u hy hu)

theorem setRow_heap_ne (w : World) (B : Nat) (c : Array Value) {D : Nat} (h : D ≠ B) : (w.setRow B c).heap[D]? = w.heap[D]? := by
  simp [World.setRow, Array.getElem?_modify, h.symm]

theorem setRow_size (w : World) (B : Nat) (c : Array Value) : (w.setRow B c).heap.size = w.heap.size := by simp [World.setRow]

theorem one_cell' {v : Value} (h : one v = true) : v.oneCell' = true := by cases v <;> first | rfl | cases h

/-- The heap's side of a store: a row of one block's cells is another one. -/
theorem SRel.row (hr : SRel g C e H a w) {B : Nat} {c c' : Array Value} {E : TypeId} (hB : H B ≠ none) (hrow : w.heap[B]? = some (.cells c E (0, 0))) (hfz : g.fz B = 0) {cs' : List AV} (hl : c'.size = cs'.length)
    (hc : ∀ (i : Nat) (x : AV) (v : Value), cs'[i]? = some x → c'[i]? = some v → SlotRep g w (.cell B i) x v ∧ one v = true) :
    SRel g C e (Ab.hset H B (.cells cs')) a (w.setRow B c') ∧ Guar C.d H (Ab.hset H B (.cells cs')) g w g (w.setRow B c') := by
  obtain ⟨b, hb⟩ := Option.ne_none_iff_exists'.1 hB
  obtain ⟨hown, _⟩ := hr.heap B b hb
  have hk : Keep g w g (w.setRow B c') := by
    refine ⟨by rw [setRow_size]; exact Nat.le_refl _, fun _ => Nat.le_refl _, fun D k hk => ?_, ⟨rfl, rfl, rfl⟩⟩
    by_cases hD : D = B
    · subst hD; omega
    · exact cell?_of_heap (setRow_heap_ne w B c' hD)
  have hsm : ∀ o, o ≠ .blk → SameOf o g w g (w.setRow B c') := fun o ho D hD => by
    have hne : D ≠ B := fun h => by rw [h, hown] at hD; exact ho (by simpa using hD.symm)
    exact ⟨hD, rfl, setRow_heap_ne w B c' hne⟩
  refine ⟨⟨⟨fun D hD => hr.inv.fresh D (by rw [setRow_size] at hD; exact hD), fun D F i hD => hr.inv.cells D F i hD⟩, fun D b' hD => ?_, hr.defers, hr.size, fun t ht => ?_⟩, ⟨hk, fun D o hD hf => ?_⟩⟩
  · unfold Ab.hset at hD
    split at hD
    · rename_i h
      subst h
      cases hD
      exact ⟨hown, c', E, setRow_heap w _ c c' E (0, 0) hrow, hl, hfz, fun i x v hx hv => ⟨(hc i x v hx hv).1.keep hk (hsm _ (by simp)), (hc i x v hx hv).2⟩⟩
    · rename_i hne
      obtain ⟨h1, h2⟩ := hr.heap D b' hD
      refine ⟨h1, ?_⟩
      have hh := setRow_heap_ne w B c' hne
      cases b' with
      | cells cs =>
        obtain ⟨c2, E2, k1, k2, k3, k4⟩ := h2
        exact ⟨c2, E2, by rw [hh, k1], k2, k3, fun i x v hx hv => ⟨(k4 i x v hx hv).1.keep hk (hsm _ (by simp)), (k4 i x v hx hv).2⟩⟩
      | frz cs =>
        obtain ⟨k0, c2, E2, fr, k1, k2, k4⟩ := h2
        exact ⟨k0, c2, E2, fr, by rw [hh, k1], k2, fun i x v hx hv => ⟨(k4 i x v hx hv).1.keep hk, (k4 i x v hx hv).2⟩⟩
      | raw o => exact ⟨h2.1, by rw [hh]; exact h2.2⟩
  · obtain ⟨v, h1, h2⟩ := hr.slots t ht
    exact ⟨v, h1, h2.keep hk (hsm _ (by simp))⟩
  · have hne : D ≠ B := fun h => by
      subst h
      rw [hown] at hD
      simp only [Option.some.injEq] at hD
      subst hD
      exact hf hB
    refine ⟨hD, fun hf' => hf ?_, rfl, setRow_heap_ne w B c' hne⟩
    cases o with
    | blk =>
      intro hn
      refine hf' ?_
      simp [Ab.hset, hne, hn]
    | cell F i =>
      by_cases hF : F = B
      · subst hF; exact hB
      · intro hn
        refine hf' ?_
        simp [Ab.hset, hF, hn]
    | slot d' t => exact hf'

theorem run_storeVar {t : TypeId} {ti : TI} (hf : TFact P t ti) {B off : Nat} {c : Array Value} {E : TypeId} (hrow : w.heap[B]? = some (.cells c E (0, 0))) {v : Value} (hl : v.cells.size = ti.size) (hle : off + ti.size ≤ c.size) (h1 : ∀ u ∈ v.cells.toList, u.oneCell' = true) :
    (storeVar t ⟨B, off, none⟩ v).run P w = .ok () (w.setRow B (c.toList.take off ++ v.cells.toList ++ c.toList.drop (off + ti.size)).toArray) := by
  have hs := hf.sizeOf w
  have := run_storeCells_at (P := P) B off E v.cells.toList 0 c w hrow (by simp; omega) h1
  simp only [Nat.add_zero, Array.length_toList, hl] at this
  simp [storeVar, hs, hl, this]

/-- A row of cells with some of them replaced, beside the same of what they stand for. -/
theorem splice {R : Nat → AV → Value → Prop} {cs ys : List AV} {c us : List Value} {off n : Nat} (hl : c.length = cs.length) (h1 : ys.length = n) (h2 : us.length = n) (hle : off + n ≤ cs.length)
    (hc : ∀ (i : Nat) (x : AV) (v : Value), cs[i]? = some x → c[i]? = some v → R i x v) (hy : ∀ (i : Nat) (x : AV) (v : Value), ys[i]? = some x → us[i]? = some v → R (off + i) x v) :
    (c.take off ++ us ++ c.drop (off + n)).length = (cs.take off ++ ys ++ cs.drop (off + n)).length ∧
    ∀ (i : Nat) (x : AV) (v : Value), (cs.take off ++ ys ++ cs.drop (off + n))[i]? = some x → (c.take off ++ us ++ c.drop (off + n))[i]? = some v → R i x v := by
  refine ⟨by simp; omega, fun i x v hx hv => ?_⟩
  rw [List.append_assoc] at hx hv
  by_cases a1 : i < off
  · rw [List.getElem?_append_left (by simp; omega), List.getElem?_take, if_pos a1] at hx hv
    exact hc i x v hx hv
  · rw [List.getElem?_append_right (by simp; omega)] at hx hv
    have e1 : i - (cs.take off).length = i - off := by simp; omega
    have e2 : i - (c.take off).length = i - off := by simp; omega
    rw [e1] at hx
    rw [e2] at hv
    by_cases a2 : i - off < n
    · rw [List.getElem?_append_left (by omega)] at hx hv
      have := hy (i - off) x v hx hv
      rwa [show off + (i - off) = i by omega] at this
    · rw [List.getElem?_append_right (by omega), List.getElem?_drop] at hx hv
      have e3 : off + n + (i - off - ys.length) = i := by omega
      have e4 : off + n + (i - off - us.length) = i := by omega
      rw [e3] at hx
      rw [e4] at hv
      exact hc i x v hx hv

/-- A store: the cells take a value that anybody may hold. -/
theorem AOp_store (hT : TOk P T) {ops : Array Oper} {i : Nat} {o : Oper} (hi : ops[i]? = some o) (hg : o.guard = none) (hdst : o.dst = none) {t : TypeId} {A X : Operand} (ho : o.op = .store t A X) {ti : TI} (ht : T t = some ti)
    {B off : Nat} (hA : arg e A = some (true, .sc (.pointer (some ⟨B, off, none⟩)))) {cs : List AV} (hB : H B = some (.cells cs)) {x : AV} (hX : arg e X = some (true, x)) (hgd : x.good = true) (hfr : x.frzn = true)
    (hl : x.cells.length = ti.size) (hle : off + ti.size ≤ cs.length) {K : Env → Hp → Prop} {Kx : Exit → Env → Hp → Prop}
    (hk : K e (hset H B (.cells (cs.take off ++ x.kept.cells ++ cs.drop (off + ti.size))))) : AOp P C ops i K Kx e H := by
  intro g a w hr NX Q hNX _
  have hpA := (arg_sc hr.cslots hA rfl).1
  obtain ⟨ow, hsx⟩ := arg_sound hr.cslots hX rfl
  obtain ⟨_, c, E, k1, k2, k3, k4⟩ := hr.heap B _ hB
  have hsz := (slot_good_cells (o' := .blk) hgd hfr hsx).1
  have hsp := splice (R := fun i x v => SlotRep g w (.cell B i) x v ∧ one v = true) (cs := cs) (ys := x.kept.cells) (c := c.toList) (us := (a.eval X).cells.toList) (off := off) (n := ti.size)
    (by simpa using k2) (by rw [kept_cells, hl]) (by simp; omega) hle (fun i x v hx hv => k4 i x v hx (by simpa using hv))
    (fun i y u hy hu => (slot_good_cells hgd hfr hsx).2 i y u hy (by simpa using hu))
  have hone : ∀ u ∈ (a.eval X).cells.toList, u.oneCell' = true := by
    intro u hu
    obtain ⟨k, hk', rfl⟩ := List.getElem_of_mem hu
    have hlt : k < x.kept.cells.length := by rw [kept_cells, ← hsz]; simpa using hk'
    exact one_cell' ((slot_good_cells (o' := .blk) hgd hfr hsx).2 k _ _ (List.getElem?_eq_getElem hlt) (by simp)).2
  have hrun := run_storeVar (P := P) (w := w) (hT.fact ht) k1 (v := a.eval X) (off := off) (by rw [hsz, hl]) (by omega) hone
  obtain ⟨r1, r2⟩ := hr.row (B := B) (by rw [hB]; simp) k1 k3 (c' := (c.toList.take off ++ (a.eval X).cells.toList ++ c.toList.drop (off + ti.size)).toArray) (by simpa using hsp.1) (fun i x v hx hv => hsp.2 i x v hx (by simpa using hv))
  unfold wpOp
  simp only [hi, Region.wanted, hg, if_true]
  left
  unfold Oper.wp
  rw [show (execOp a.eval o).run P w = .ok .skip (w.setRow B (c.toList.take off ++ (a.eval X).cells.toList ++ c.toList.drop (off + ti.size)).toArray) from by simp [execOp, ho, Instr.storeAt, hpA, Instr.sureAddr, hrun]]
  show NX (a.put o.dst undef) _
  rw [hdst]
  exact hNX g _ _ e _ r2 r1 hk

/-- A store that hands a slot's list to a cell, that it may go on with it. -/
theorem AOp_storeTok (hT : TOk P T) {ops : Array Oper} {i : Nat} {o : Oper} (hi : ops[i]? = some o) (hg : o.guard = none) (hdst : o.dst = none) {t s : Nat} {A : Operand} (ho : o.op = .store t A (.tmp s)) {ti : TI} (ht : T t = some ti)
    (hsz : ti.size = 1) {B off : Nat} (hA : arg e A = some (true, .sc (.pointer (some ⟨B, off, none⟩)))) {cs : List AV} (hB : H B = some (.cells cs)) {xs : List AV} (hX : e s = .lst 1 xs) (hle : off + 1 ≤ cs.length)
    {K : Env → Hp → Prop} {Kx : Exit → Env → Hp → Prop} (hk : K (upd e s (.lst 0 xs)) (hset H B (.cells (cs.take off ++ [.lst 1 xs] ++ cs.drop (off + 1))))) : AOp P C ops i K Kx e H := by
  intro g a w hr NX Q hNX _
  have hpA := (arg_sc hr.cslots hA rfl).1
  obtain ⟨v, hv, hs⟩ := hr.slots s (by rw [hX]; simp)
  rw [hX] at hs
  have hev : a.eval (.tmp s) = v := by simp [Act.eval, hv]
  obtain ⟨base, cap, hvs⟩ := slot_lst_len hs
  have hone : one v = true := by rw [hvs]; rfl
  obtain ⟨_, c, E, k1, k2, k3, k4⟩ := hr.heap B _ hB
  have hkp := moveG_keep (g := g) (w := w) (.slot C.d s) (.cell B off)
  have hsm := fun o2 (hne : o2 ≠ .slot C.d s) => moveG_same (g := g) (w := w) (o' := .cell B off) hne
  have hlt := hr.heap.lt hr.inv (B := B) (by rw [hB]; simp)
  have hr1 : SRel (moveG g (.slot C.d s) (.cell B off)) C (upd e s (.lst 0 xs)) H a w := by
    refine ⟨moveG_inv hr.inv (fun D i h => by cases h; exact (hr.heap B _ hB).1), fun D b hb => ?_, hr.defers, hr.size, fun u hu => ?_⟩
    · obtain ⟨h1, h2⟩ := hr.heap D b hb
      exact ⟨(hsm .blk (by simp) D h1).1, h2.keep hkp (hsm _ (by simp)) h1 fun i => hsm _ (by simp)⟩
    · simp only [upd] at hu ⊢
      by_cases hus : u = s
      · subst hus
        rw [if_pos rfl] at hu ⊢
        exact ⟨v, hv, rep_slot (hs.1.keep hkp)⟩
      · rw [if_neg hus] at hu ⊢
        obtain ⟨u', q1, q2⟩ := hr.slots u hu
        exact ⟨u', q1, q2.keep hkp (hsm _ (by simp [hus]))⟩
  have hsp := splice (R := fun i x v => SlotRep (moveG g (.slot C.d s) (.cell B off)) w (.cell B i) x v ∧ one v = true) (cs := cs) (ys := [.lst 1 xs]) (c := c.toList) (us := [v]) (off := off) (n := 1)
    (by simpa using k2) rfl rfl hle (fun i x v hx hv => by
      obtain ⟨q1, q2⟩ := k4 i x v hx (by simpa using hv)
      exact ⟨q1.keep hkp (hsm _ (by simp)), q2⟩)
    (fun i y u hy hu => by
      cases i with
      | zero => simp at hy hu; subst hy hu; exact ⟨moveG_slot hs, hone⟩
      | succ n => simp at hy)
  have hrun := run_storeVar (P := P) (w := w) (hT.fact ht) k1 (v := v) (off := off) (by rw [cells_one hone, hsz]; rfl) (by omega) (by rw [cells_one hone]; intro u hu; simp at hu; subst hu; exact one_cell' hone)
  rw [cells_one hone, hsz] at hrun
  obtain ⟨r1, r2⟩ := hr1.row (B := B) (by rw [hB]; simp) k1 k3 (c' := (c.toList.take off ++ [v] ++ c.toList.drop (off + 1)).toArray) (by simpa using hsp.1) (fun i x v hx hv => hsp.2 i x v hx (by simpa using hv))
  unfold wpOp
  simp only [hi, Region.wanted, hg, if_true]
  left
  unfold Oper.wp
  rw [show (execOp a.eval o).run P w = .ok .skip (w.setRow B (c.toList.take off ++ [v] ++ c.toList.drop (off + 1)).toArray) from by simp [execOp, ho, Instr.storeAt, hpA, hev, Instr.sureAddr, hrun]]
  show NX (a.put o.dst undef) _
  rw [hdst]
  exact hNX _ _ _ _ _ (Guar.trans moveG_guar r2) r1 hk

end
end Go.Ab
